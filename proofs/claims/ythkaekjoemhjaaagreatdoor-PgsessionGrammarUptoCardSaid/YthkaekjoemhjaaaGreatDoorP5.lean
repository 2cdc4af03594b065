/- lemmas -/
import Derived.Test.YthkaekjoemhjaaaGreatDoorP4
import Derived.Test.YthkaekjoemhjaaaGreatDoorP3
import Derived.Laws.RangeString
set_option maxRecDepth 100000
set_option maxHeartbeats 40000000
set_option linter.unusedVariables false
set_option linter.unusedSimpArgs false
set_option linter.unusedSectionVars false
namespace Go.Proofs.YthkaekjoemhjaaaGreatDoor
open Go.SL
def cQ (q:TSelect):Nat:=q.fItems.length+q.fFrom.length+q.fGroup.length+q.fOrder.length
def cS (s:TStmt):Nat:=cQ s.fSelect+(s.fRows.flatten.length+s.fRows.length)+s.fSets.length+s.fCols.length
theorem AHd {α:Type}(l:List α):(l.map λ_=>1).sum=l.length:=by
 induction l with
 |nil=>rfl
 |cons x l ih=>simp only [zF,zae,ih,zi];omega
theorem Iy {α:Type}{g:Pr α}(hg:BZ (λ_=>1) g)(n:Nat):BZ List.length (BR n g):=λl x r h=>by
 have:=Dk hg n l x r h;simp only [AHd] at this;exact this
theorem Rt (n:Nat):BZ (λ_=>1) (eP n):=λl x r h=>by
 have:=(KG n).1 l x r h;have:1≤Aj x:=by cases x;simp [Aj]
 simp only;omega
theorem Vl (n:Nat)(s:Bs):BZ (λ_=>0) (Eh n s):=λl x r h=>by
 have:=GM n s l x r h;simp only;omega
theorem AFK (n:Nat):BZ (λ_=>1) (Ic n):=by
 intro l x r h;unfold Ic at h;split at h
 ·simp only [Res.ok.injEq] at h;obtain ⟨rfl,rfl⟩:=h;have:=Ah ‹_›;simp only;omega
 split at h
 ·rename_i hb
  simp only [zQ] at hb;have:=GI hb.1.1.1.1 zx;simp only [Res.ok.injEq] at h;obtain ⟨rfl,rfl⟩:=h;simp only [zaV] at this ⊢;omega
 ·obtain ⟨y,q,h1,h2⟩:=bind_ok h;have c1:=Rt n _ _ _ h1;split at h2
  ·obtain ⟨a,q2,h3,h4⟩:=bind_ok h2;simp only [Res.ok.injEq] at h4;obtain ⟨rfl,rfl⟩:=h4;have c2:=Az _ _ _ h3;have c3:=Ah ‹_›;simp only at c1 c2 ⊢;omega
  ·simp only [Res.ok.injEq] at h2;obtain ⟨rfl,rfl⟩:=h2;exact c1
theorem ABx (n:Nat):BZ (λ_=>1) (Iu n):=by
 intro l x r h;obtain ⟨y,q,h1,h2⟩:=bind_ok h;have c1:=Rt n _ _ _ h1;simp only at c1
 split at h2
 ·simp only [Res.ok.injEq] at h2;obtain ⟨rfl,rfl⟩:=h2;have:=Ah ‹_›;simp only;omega
 split at h2
 ·simp only [Res.ok.injEq] at h2;obtain ⟨rfl,rfl⟩:=h2;have:=Ah ‹_›;simp only;omega
 ·simp only [Res.ok.injEq] at h2;obtain ⟨rfl,rfl⟩:=h2;exact c1
theorem one_set (n:Nat):BZ (λ_=>1) (Xi n):=by
 intro l x r h;obtain ⟨s,q,h1,h2⟩:=bind_ok h;obtain ⟨_,q2,h3,h4⟩:=bind_ok h2;obtain ⟨y,q3,h5,h6⟩:=bind_ok h4;simp only [Res.ok.injEq] at h6;obtain ⟨rfl,rfl⟩:=h6;have c1:=Az _ _ _ h1;have c2:=Ag h3;have c3:=Rt n _ _ _ h5;simp only at c1 c3 ⊢;omega
theorem IJ:BZ (λ_=>1) DK:=by
 intro l x r h;obtain ⟨s,q,h1,h2⟩:=bind_ok h;have c1:=Az _ _ _ h1;simp only at c1
 split at h2
 ·obtain ⟨a,q2,h3,h4⟩:=bind_ok h2;simp only [Res.ok.injEq] at h4;obtain ⟨rfl,rfl⟩:=h4;have c2:=Az _ _ _ h3;have c3:=Ah ‹_›;simp only at c2 ⊢;omega
 split at h2
 ·obtain ⟨a,q2,h3,h4⟩:=bind_ok h2;simp only [Res.ok.injEq] at h4;obtain ⟨rfl,rfl⟩:=h4;have c2:=Az _ _ _ h3;simp only at c2 ⊢;omega
 ·simp only [Res.ok.injEq] at h2;obtain ⟨rfl,rfl⟩:=h2;simp only;omega
theorem Po (n:Nat)(b:Bool):BZ (λ_=>1) (Hf n b):=by
 intro l x r h;obtain ⟨_,q,h1,h2⟩:=bind_ok h;obtain ⟨s,q2,h3,h4⟩:=bind_ok h2;obtain ⟨_,q3,h5,h6⟩:=bind_ok h4;obtain ⟨y,q4,h7,h8⟩:=bind_ok h6;simp only [Res.ok.injEq] at h8;obtain ⟨rfl,rfl⟩:=h8;have c1:=Ag h1;have c2:=IJ _ _ _ h3;have c3:=Ag h5;have c4:=Rt n _ _ _ h7;simp only at c2 c4 ⊢;omega
theorem Rq (n:Nat):∀(m:Nat) (acc:List TSource) (l:List Tok) (x:List TSource) (r:List Tok),DZ n m acc l= .ok x r→r.length+x.length≤l.length+acc.length
 |0,acc,l,x,r,h=>by simp only [DZ,Res.ok.injEq] at h;obtain ⟨rfl,rfl⟩:=h;omega
 |m+1,acc,l,x,r,h=>by
  have one:∀{g:Pr TSource} (_:BZ (λ_=>1) g) {l':List Tok},l'.length≤l.length→(g l').bind (λs r=>DZ n m (acc++[s]) r)= .ok x r→r.length+x.length≤l.length+acc.length:=by
   intro g hg l' hl h;obtain ⟨a,q,h1,h2⟩:=bind_ok h;have c1:=hg _ _ _ h1;have c2:=Rq n m _ _ _ _ h2;simp only [zU] at c2;simp only at c1;omega
  simp only [DZ] at h;split at h
  ·exact one IJ zy h
  split at h
  ·obtain ⟨_,q,h1,h2⟩:=bind_ok h;have c1:=Ag h1;have c2:=Ah ‹_›;exact one IJ zo h2
  split at h
  ·exact one (Po n true) zy h
  split at h
  ·exact one (Po n false) zy h
  split at h
  ·exact one (Po n false) (zh _) h
  ·simp only [Res.ok.injEq] at h;obtain ⟨rfl,rfl⟩:=h;omega
theorem AFL (n:Nat):BZ List.length (NW n):=by
 intro l x r h;obtain ⟨a,q,h1,h2⟩:=bind_ok h;have c1:=IJ _ _ _ h1;have c2:=Rq n n _ _ _ _ h2;simp only [zi,zH] at c2;simp only at c1;omega
theorem ACl (n:Nat):BZ cQ (Iq n):=by
 intro l x r h;obtain ⟨a1,q1,h1,h⟩:=bind_ok h;obtain ⟨a2,q2,h2,h⟩:=bind_ok h;obtain ⟨a3,q3,h3,h⟩:=bind_ok h;obtain ⟨a4,q4,h4,h⟩:=bind_ok h;obtain ⟨a5,q5,h5,h⟩:=bind_ok h;obtain ⟨a6,q6,h6,h⟩:=bind_ok h;obtain ⟨a7,q7,h7,h⟩:=bind_ok h;obtain ⟨a8,q8,h8,h⟩:=bind_ok h;simp only [Res.ok.injEq] at h;obtain ⟨rfl,rfl⟩:=h;have c1:=Iy (AFK n) n _ _ _ h1;have c2:=ED (AFL n) _ rfl _ _ _ h2;have c3:=Vl n _ _ _ _ h3;have c4:=ED (OV (Iy (Rt n) n)) _ rfl _ _ _ h4;have c5:=Vl n _ _ _ _ h5;have c6:=ED (OV (Iy (ABx n) n)) _ rfl _ _ _ h6;have c7:=ED IW _ rfl _ _ _ h7;have c8:=ED IW _ rfl _ _ _ h8;have c0:(if isT l [100,105,115,116,105,110,99,116] then l.tail else l).length≤l.length:=by split <;> simp
 simp only at c1 c2 c3 c4 c5 c6 c7 c8
 simp only [cQ];omega
theorem Xx (n:Nat):BZ (λ_=>1) (FN n):=by
 intro l x r h;obtain ⟨s,q,h1,h2⟩:=bind_ok h;have c1:=Az _ _ _ h1;simp only at h2 c1
 generalize (if isK q 1 then typeOf (hd q).text else 0)=t at h2;split at h2
 ·cases h2
 ·have c2:=FU n _ _ _ _ h2;have:q.tail.length≤q.length:=by simp
  simp only [pz0] at c2 ⊢;omega
theorem Vd (n:Nat):∀(m:Nat) (cs:List TCol) (ks:List Bs) (l:List Tok) (x:List TCol×List Bs) (r:List Tok),FY n m cs ks l= .ok x r→r.length+x.1.length≤l.length+cs.length
 |0,cs,ks,l,x,r,h=>by simp only [FY,Res.ok.injEq] at h;obtain ⟨rfl,rfl⟩:=h;exact zh _
 |m+1,cs,ks,l,x,r,h=>by
  simp only [FY] at h;obtain ⟨a,q,h1,h2⟩:=bind_ok h;have c1:q.length+a.1.length≤l.length+cs.length:=by
   split at h1
   ·obtain ⟨_,q1,g1,g2⟩:=bind_ok h1;obtain ⟨k,q2,g3,g4⟩:=bind_ok g2;simp only [Res.ok.injEq] at g4;obtain ⟨rfl,rfl⟩:=g4;have d1:=Ag g1;have d2:=GK n _ _ _ g3;have:l.tail.length≤l.length:=by simp
    simp only at d2 ⊢;omega
   ·obtain ⟨c,q1,g1,g2⟩:=bind_ok h1;simp only [Res.ok.injEq] at g2;obtain ⟨rfl,rfl⟩:=g2;have d1:=Xx n _ _ _ g1;simp only [zU] at d1 ⊢;omega
  split at h2
  ·have c2:=Vd n m _ _ _ _ _ h2;have:q.tail.length≤q.length:=by simp
   omega
  ·simp only [Res.ok.injEq] at h2;obtain ⟨rfl,rfl⟩:=h2;exact c1
theorem cS0 {s:TStmt}(h1:s.fSelect=default)(h3:s.fRows=[])(h4:s.fSets=[])(h5:s.fCols=[]):cS s=0:=by
 simp only [cS,h1,h3,h4,h5];rfl
theorem AIr {s:TStmt}(h1:s.fSelect=default)(h4:s.fSets=[])(h5:s.fCols=[]):cS s=s.fRows.flatten.length+s.fRows.length:=by
 simp only [cS,h1,h4,h5];show 0+_+0+0=_;simp
theorem AIq {s:TStmt}(h1:s.fSelect=default)(h3:s.fRows=[])(h5:s.fCols=[]):cS s=s.fSets.length:=by
 simp only [cS,h1,h3,h5];show 0+0+_+0=_;simp
theorem AIs {s:TStmt}(h1:s.fSelect=default)(h3:s.fRows=[])(h4:s.fSets=[]):cS s=s.fCols.length:=by
 simp only [cS,h1,h3,h4];show 0+0+0+_=_;simp
theorem AOx {s:TStmt}(h3:s.fRows=[])(h4:s.fSets=[])(h5:s.fCols=[]):cS s=cQ s.fSelect:=by
 simp only [cS,h3,h4,h5];show _+0+0+0=_;simp
theorem Ry {α:Type}:∀l:List (List α),(l.map λx=>x.length+1).sum=l.flatten.length+l.length
 |[]=>rfl
 |x::l=>by simp only [zbq,zk,zF,zae,Ry l,zi];omega
theorem ABw {α:Type}{g:Pr α}(hg:BZ (λ_=>1) g)(n:Nat):BZ (λx=>x.length+1) (CP n g):=by
 intro l x r h;obtain ⟨_,q,h1,h2⟩:=bind_ok h;obtain ⟨a,q2,h3,h4⟩:=bind_ok h2;obtain ⟨_,q3,h5,h6⟩:=bind_ok h4;simp only [Res.ok.injEq] at h6;obtain ⟨rfl,rfl⟩:=h6;have c1:=Ag h1;have c2:=Iy hg n _ _ _ h3;have c3:=Ag h5;simp only;omega
theorem AGE {n:Nat}{l r:List Tok}{x:TStmt}(h:ES n l= .ok x r):r.length≤l.length∧cS x≤l.length:=by
 have hle:r.length≤l.length:=by have:=SS n _ _ _ h;omega
 refine ⟨hle,?_⟩;unfold ES at h;split at h
 ·obtain ⟨q,r1,h1,h2⟩:=bind_ok h;simp only [Res.ok.injEq] at h2;obtain ⟨rfl,rfl⟩:=h2;have c1:=ACl n _ _ _ h1;rw [AOx rfl rfl rfl];simp only [zaV] at c1 ⊢;omega
 split at h
 ·obtain ⟨_,r1,h1,h⟩:=bind_ok h;obtain ⟨s,r2,h2,h⟩:=bind_ok h;obtain ⟨c,r3,h3,h⟩:=bind_ok h;obtain ⟨_,r4,h4,h⟩:=bind_ok h;obtain ⟨y,r5,h5,h⟩:=bind_ok h;simp only [Res.ok.injEq] at h;obtain ⟨rfl,rfl⟩:=h;have c1:=Ag h1;have c2:=Az _ _ _ h2;have c3:r3.length≤r2.length:=by
   split at h3
   ·exact Uc (GK n _ _ _ h3)
   ·simp only [Res.ok.injEq] at h3;obtain ⟨rfl,rfl⟩:=h3;exact zh _
  have c4:=Ag h4;have c5:=Dk (ABw (Rt n) n) n _ _ _ h5;rw [AIr rfl rfl rfl,←Ry];simp only [zaV] at c1 c2 c5 ⊢;omega
 split at h
 ·obtain ⟨s,r1,h1,h⟩:=bind_ok h;obtain ⟨_,r2,h2,h⟩:=bind_ok h;obtain ⟨y,r3,h3,h⟩:=bind_ok h;obtain ⟨z,r4,h4,h⟩:=bind_ok h;simp only [Res.ok.injEq] at h;obtain ⟨rfl,rfl⟩:=h;have c1:=Az _ _ _ h1;have c2:=Ag h2;have c3:=Iy (one_set n) n _ _ _ h3;rw [AIq rfl rfl rfl];simp only [zaV] at c1 ⊢;omega
 split at h
 ·obtain ⟨_,r1,h1,h⟩:=bind_ok h;obtain ⟨s,r2,h2,h⟩:=bind_ok h;obtain ⟨z,r3,h3,h⟩:=bind_ok h;simp only [Res.ok.injEq] at h;obtain ⟨rfl,rfl⟩:=h;rw [cS0 rfl rfl rfl rfl];omega
 split at h
 ·unfold Gi at h;split at h
  ·obtain ⟨s,q,h1,h⟩:=bind_ok h;obtain ⟨_,q2,h2,h⟩:=bind_ok h;obtain ⟨y,q3,h3,h⟩:=bind_ok h;have c1:=Az _ _ _ h1;have c2:=Ag h2;have c3:=Vd n _ _ _ _ _ _ h3;split at h
   ·cases h
   ·obtain ⟨_,q4,h4,h⟩:=bind_ok h;simp only [Res.ok.injEq] at h;obtain ⟨rfl,rfl⟩:=h;rw [AIs rfl rfl rfl];simp only [zaV,zH] at c1 c3 ⊢;omega
  ·obtain ⟨_,q1,h1,h⟩:=bind_ok h;obtain ⟨_,q2,h2,h⟩:=bind_ok h;obtain ⟨_,q3,h3,h⟩:=bind_ok h;obtain ⟨_,q4,h4,h⟩:=bind_ok h;obtain ⟨_,q5,h5,h⟩:=bind_ok h;simp only [Res.ok.injEq] at h;obtain ⟨rfl,rfl⟩:=h;rw [cS0 rfl rfl rfl rfl];omega
 split at h
 ·unfold Gg at h;split at h
  ·obtain ⟨_,q1,h1,h⟩:=bind_ok h;simp only [Res.ok.injEq] at h;obtain ⟨rfl,rfl⟩:=h;rw [cS0 rfl rfl rfl rfl];omega
  ·obtain ⟨_,q1,h1,h⟩:=bind_ok h;obtain ⟨_,q2,h2,h⟩:=bind_ok h;simp only [Res.ok.injEq] at h;obtain ⟨rfl,rfl⟩:=h;rw [cS0 rfl rfl rfl rfl];omega
 split at h
 ·simp only [Res.ok.injEq] at h;obtain ⟨rfl,rfl⟩:=h;rw [cS0 rfl rfl rfl rfl];omega
 split at h
 ·simp only [Res.ok.injEq] at h;obtain ⟨rfl,rfl⟩:=h;rw [cS0 rfl rfl rfl rfl];omega
 ·obtain ⟨_,q1,h1,h⟩:=bind_ok h;simp only [Res.ok.injEq] at h;obtain ⟨rfl,rfl⟩:=h;rw [cS0 rfl rfl rfl rfl];omega
theorem NF (n:Nat):∀(m:Nat) (acc:List TStmt) (l:List Tok) (x:List TStmt) (r:List Tok),Cm n m acc l= .ok x r→∀s∈x,s∈acc∨cS s≤l.length
 |0,acc,l,x,r,h,s,hs=>by simp only [Cm,Res.ok.injEq] at h;obtain ⟨rfl,rfl⟩:=h;exact .inl hs
 |m+1,acc,l,x,r,h,s,hs=>by
  simp only [Cm] at h;split at h
  ·simp only [Res.ok.injEq] at h;obtain ⟨rfl,rfl⟩:=h;exact .inl hs
  split at h
  ·have:=NF n m _ _ _ _ h s hs;simp only [zaV] at this;exact this.imp id (λh=>by omega)
  ·obtain ⟨s',q,h1,h2⟩:=bind_ok h;have c1:=AGE h1;split at h2
   ·rcases NF n m _ _ _ _ h2 s hs with h|h
    ·rcases zaz.1 h with h|h
     ·exact .inl h
     ·rw [zM.1 h];exact .inr c1.2
    ·exact .inr zo
   ·cases h2
theorem AGF (s:Bs):∀x∈(readA s).1,cS x≤s.length+1:=by
 unfold readA;split
 ·intro x hx;cases hx
 ·rename_i l hl
  have hc:=Jr _ _ _ _ _ hl;split
  ·rename_i x r hx
   intro y hy;rcases NF _ _ _ _ _ _ hx y hy with h|h
   ·cases h
   ·simp at hc;omega
  ·intro x hx;cases hx
theorem AFE (l:List TStmt):l.length≤BG l:=by
 induction l with
 |nil=>exact zao _
 |cons s l ih=>simp only [BG,zF,zae,zi,Jz] at *; omega
theorem NR (t:Bs):(Cc t).1.length≤2000:=by
 unfold Cc;split
 ·simp
 split
 ·simp
 split
 ·simp
 ·rename_i h
  have:=AFE (readA t).1;unfold UR at h;simp only [] at h ⊢;split at h
  ·simp at h
  split at h
  ·simp at h
  ·show (readA t).1.length≤2000;omega
theorem SC {b:Bs}{head:Nat}{least most:Int}(h:(Gt b head least most).2=0):least≤(Gt b head least most).1∧(head:Int)+(Gt b head least most).1≤b.length:=by
 unfold Gt at h ⊢;split at h
 ·simp at h
 ·rename_i h0
  rw [if_neg h0];simp only at h ⊢
  split at h
  ·simp at h
  split at h
  ·simp at h
  split at h
  ·simp at h
  ·rename_i h1 h2 h3
   rw [if_neg h1,if_neg h2,if_neg h3];simp only
   omega
theorem ACP (c:Bool)(q:Int×Int)(o:TFront×Int)(h0:Int)(h:(if c then (({},0,230):TFront×Int×Int) else if q.2 != 0 then ({},0,q.2) else if o.2 != 0 then ({},0,o.2) else (o.1,h0+q.1,0)).2.2=0):
  (if c then (({},0,230):TFront×Int×Int) else if q.2 != 0 then ({},0,q.2) else if o.2 != 0 then ({},0,o.2) else (o.1,h0+q.1,0)).2.1=h0+q.1∧q.2=0:=by
 obtain ⟨q1,q2⟩:=q;obtain ⟨o1,o2⟩:=o;cases c with
 |true=>simp at h
 |false=>
  by_cases h1:q2=0
  ·subst h1;by_cases h2:o2=0
   ·subst h2;simp
   ·simp [h2] at h
  ·simp [h1] at h
theorem QF {b:Bs}{st:Bool}(h:(BN b st).2.2=0):1≤(BN b st).2.1∧(BN b st).2.1≤b.length:=by
 unfold BN at h ⊢;obtain ⟨h1,h2⟩:=ACP _ _ _ _ h;rw [h1];have hp:=SC h2;cases st <;> simp at hp ⊢ <;> omega
theorem ACO (st:Bool):(BN [] st).2.2=10:=by cases st <;> simp [BN,Gt]
def mu (s:Ses):Nat:=s.left.length * 2010+s.stmts.length+(if s.query then 1 else 0)
theorem Ar (s:Ses)(l:List TBack):(BD s l).left=s.left∧(BD s l).stmts=s.stmts∧(BD s l).query=s.query∧(BD s l).kind=s.kind∧(BD s l).status=s.status∧(BD s l).ended=s.ended:=by
 unfold BD;split <;> exact ⟨rfl,rfl,rfl,rfl,rfl,rfl⟩
theorem Ea (s:Ses)(l:List TBack):mu (BD s l)=mu s:=by
 obtain ⟨h1,h2,h3,_⟩:=Ar s l;unfold mu;rw [h1,h2,h3]
theorem YB (s:Ses):mu (Ig s)=0:=by simp [mu,Ig]
theorem AMK (s:Ses)(f:TFront):mu (Ha s f)≤s.left.length * 2010+max s.stmts.length 2000+1:=by
 have hq:(if s.query=true then 1 else 0:Nat)≤1:=by split <;> omega
 unfold Ha;split
 ·rw [Ea];unfold mu;omega
 split
 ·rw [YB];omega
 split
 ·unfold IM;rw [Ea];simp only [mu];omega
 split
 ·unfold Ug;have hl:=NR f.fText;split
  ·have hb:∀t:Ses,mu (Dh t)≤t.left.length * 2010+1:=by
    intro t;have hq:(if t.query=true then 1 else 0:Nat)≤1:=by split <;> omega
    unfold Dh mu;split <;> simp <;> omega
   refine zaC (hb _) ?_;unfold Bj;rw [(Ar _ _).1];simp only;omega
  split
  ·rename_i h1 h2
   simp only [mu];rw [(Ar _ _).1,(Ar _ _).2.2.1];simp only [if_true];omega
  ·simp only [mu,if_true];omega
 ·rw [YB];omega
theorem AIP (s:Ses)(x:TStmt):mu (Fj s x)≤mu s:=by
 unfold Fj;split
 ·split
  ·unfold Dt;rw [Ea];exact zh _
  ·have h:=Ea s [{fKind:=9,fState:=[50,53,80,48,50],fText:=[116,104,101,32,116,114,97,110,115,97,99,116,105,111,110,32,104,97,115,32,102,97,105,108,101,100]}];simp only [mu] at h ⊢;simp only [zH];omega
 split
 ·unfold Jb;split
  ·exact zh _
  ·unfold Dt;rw [Ea];exact zh _
 split
 ·unfold Jb;split
  ·exact zh _
  ·unfold Dt;rw [Ea];exact zh _
 split
 ·unfold Jb;split
  ·exact zh _
  ·unfold Dt;rw [Ea];exact zh _
 ·exact zh _
theorem Fb {s t:Ses}(h:CY s=some t):mu t < mu s:=by
 unfold CY at h;split at h
 ·cases h
 split at h
 ·rename_i h1 h2
  simp only [zQ,zaL] at h2;simp only [zn] at h;subst h;refine Nat.lt_of_le_of_lt (AIP _ _) ?_;have:s.stmts.length≠0:=by
   intro h;have:=zG h;rw [this] at h2;simp at h2
  simp only [mu,zaV];omega
 split at h
 ·rename_i h1 h2 h3
  simp only [zn] at h;subst h;rw [Ea];simp only [mu,h3,if_true];simp
 ·rename_i h1 h2 h3
  simp only at h
  have hne:(BN s.left (s.status==0)).2.2≠10→s.left.length≠0:=by
   intro h0 h4;rw [zG h4] at h0;exact h0 (ACO _)
  split at h
  ·cases h
  rename_i h4
  have h4:(BN s.left (s.status==0)).2.2≠10:=by simpa using h4
  have h5:=hne h4;split at h
  ·simp only [zn] at h;subst h;rw [YB];simp only [mu];omega
  ·rename_i h6
   have h6:(BN s.left (s.status==0)).2.2=0:=by simpa using h6
   have h7:=QF h6;simp only [zn] at h;subst h;refine Nat.lt_of_le_of_lt (AMK _ _) ?_;simp only [mu,zaq];omega
theorem AIK (n:Nat):∀(f g:Nat) (s:Ses),mu s < n→n≤f→n≤g→onF f s=onF g s:=by
 induction n with
 |zero=>intro f g s h;omega
 |succ n ih=>
  intro f g s h h1 h2;obtain ⟨f,rfl⟩:∃k,f=k+1:=⟨f - 1,by omega⟩;obtain ⟨g,rfl⟩:∃k,g=k+1:=⟨g - 1,by omega⟩;simp only [onF];cases hr:CY s with
  |none=>rfl
  |some t=>
   have:=Fb hr;exact ih f g t zo zo zo
theorem AIX (s:Ses):ALM s=mu s+1:=rfl
theorem ALK {f:Nat}{s:Ses}(h:mu s < f):onF f s=goF s:=AIK (mu s+1) f _ s (zbe _) h (Nat.le_of_eq (AIX s).symm)
theorem Fv {s:Ses}:goF s=match CY s with
  |none=>s
  |some t=>goF t:=by
 rw [←ALK (f:=mu s+1) (zbe _)];simp only [onF];cases h:CY s with
 |none=>rfl
 |some t=>exact ALK (Fb h)
structure Jn (s:Ses):Prop where
 ab:s.kind=4→s.status=84∨s.status=69
 en:s.ended=true→s.left=[]∧(s.kind=0∨s.kind=4)
theorem Jn.send {s:Ses}(h:Jn s)(l:List TBack):Jn (BD s l):=by
 obtain ⟨h1,h2,h3,h4,h5,h6⟩:=Ar s l;exact ⟨by rw [h4,h5];exact h.ab,by rw [h1,h4,h6];exact h.en⟩
theorem Jn.end' {s:Ses}(h:Jn s):Jn (Ig s):=by
 have:=h.ab;unfold Ig;refine ⟨?_,?_⟩ <;> simp only
 ·intro hk;split at hk
  ·rename_i hc
   simp only [zaJ,beq_iff_eq] at hc;rcases hc with hc|hc
   ·exact .inl hc
   ·exact this hc
  ·simp at hk
 ·intro _;refine ⟨by trivial,?_⟩;split
  ·exact .inr rfl
  ·exact .inl rfl
theorem Jn.brok {s:Ses}(h:Jn s)(hn:s.ended=false):Jn (Dh s):=by
 unfold Dh;split
 ·exact ⟨λ_=>.inr rfl,λh=>by simp only at h;rw [hn] at h;cases h⟩
 ·exact ⟨h.ab,h.en⟩
theorem Jn.next {s:Ses}(h:Jn s)(hn:s.ended=false)(x:TStmt)(hk:s.kind=0):Jn (Fj s x):=by
 have hb:∀t:Ses,t.ended=false→t.kind=0→Jn t:=λt h1 h2=>⟨λh=>by rw [h2] at h;simp at h,λh=>by rw [h1] at h;cases h⟩;unfold Fj;split
 ·split
  ·exact Jn.send (s:={s with status:=73}) (hb _ hn hk) _
  ·have:=Ar s [{fKind:=9,fState:=[50,53,80,48,50],fText:=[116,104,101,32,116,114,97,110,115,97,99,116,105,111,110,32,104,97,115,32,102,97,105,108,101,100]}];exact hb _ (by simp only;rw [this.2.2.2.2.2,hn]) (by simp only;rw [this.2.2.2.1,hk])
 split
 ·unfold Jb;split
  ·exact ⟨λh=>by simp at h,λh=>by simp only at h;rw [hn] at h;cases h⟩
  ·exact h.send _
 split
 ·unfold Jb;split
  ·exact ⟨λh=>by simp at h,λh=>by simp only at h;rw [hn] at h;cases h⟩
  ·exact h.send _
 split
 ·unfold Jb;split
  ·rename_i h1
   exact ⟨λ_=>.inl (by simpa using h1),λh=>by simp only at h;rw [hn] at h;cases h⟩
  ·exact h.send _
 ·exact ⟨λh=>by simp at h,λh=>by simp only at h;rw [hn] at h;cases h⟩
theorem Jn.msg {s:Ses}(h:Jn s)(hn:s.ended=false)(f:TFront)(hk:s.kind=0):Jn (Ha s f):=by
 have hb:∀t:Ses,t.ended=false→t.kind=0→Jn t:=λt h1 h2=>⟨λh=>by rw [h2] at h;simp at h,λh=>by rw [h1] at h;cases h⟩;unfold Ha;split
 ·exact h.send _
 split
 ·exact h.end'
 split
 ·exact Jn.send (s:={s with status:=73}) (hb _ hn hk) _
 split
 ·unfold Ug;split
  ·have hq:Jn {s with query:=true}:=hb _ hn hk;exact Jn.brok (s:=BD _ _) (hq.send _) (by rw [(Ar _ _).2.2.2.2.2];exact hn)
  split
  ·exact hb _ (by simp only;rw [(Ar _ _).2.2.2.2.2];exact hn) (by simp only;rw [(Ar _ _).2.2.2.1];exact hk)
  ·exact hb _ hn hk
 ·exact (h.send _).end'
theorem Jn.round {s t:Ses}(h:Jn s)(hr:CY s=some t):Jn t:=by
 unfold CY at hr;split at hr
 ·cases hr
 rename_i h0
 simp only [zaJ,bne_iff_ne,ne_eq,not_or,Bool.not_eq_true,Decidable.not_not] at h0;have hb:∀t:Ses,t.ended=false→t.kind=0→Jn t:=λt h1 h2=>⟨λh=>by rw [h2] at h;simp at h,λh=>by rw [h1] at h;cases h⟩;split at hr
 ·simp only [zn] at hr;subst hr;exact (hb {s with stmts:=s.stmts.tail} h0.1 h0.2).next h0.1 _ h0.2
 split at hr
 ·simp only [zn] at hr;subst hr;exact (hb {s with query:=false} h0.1 h0.2).send _
 simp only at hr
 split at hr
 ·cases hr
 split at hr
 ·simp only [zn] at hr;subst hr;exact (h.send _).end'
 ·simp only [zn] at hr;subst hr;exact (hb {s with left:=s.left.drop (BN s.left (s.status==0)).2.1.toNat} h0.1 h0.2).msg h0.1 _ h0.2
theorem Jn.on:∀(f:Nat) {s:Ses},Jn s→Jn (onF f s)
 |0,_,h=>h
 |f+1,s,h=>by
  simp only [onF];cases hr:CY s with
  |none=>exact h
  |some t=>exact Jn.on f (h.round hr)
theorem Jn.go {s:Ses}(h:Jn s):Jn (goF s):=Jn.on _ h
theorem Jn.out {s:Ses}(h:Jn s)(l:Bs):Jn {s with out:=l}:=⟨h.ab,h.en⟩
theorem Jn.feed {s:Ses}(h:Jn s)(b:Bs):Jn (FM s b).1:=by
 unfold FM;split
 ·exact h
 rename_i hn
 have hn:s.ended=false:=by simpa using hn
 have h1:Jn {s with left:=s.left++b}:=⟨h.ab,λh=>by simp only at h;rw [hn] at h;cases h⟩;simp only
 split
 ·exact (h1.send _).end'.out _
 ·exact h1.go.out _
theorem Jn.close {s:Ses}(h:Jn s):Jn (IZ s):=by
 unfold IZ;split
 ·exact h
 ·exact h.end'
theorem Jn.ans {s:Ses}(h:Jn s)(dec:Int→Bs)(o:TOut)(e:Int):Jn (KP dec s o e).1:=by
 unfold KP;split
 ·exact h
 rename_i hk
 have hk:s.kind≠0:=by simpa using hk
 have h0:Jn {s with kind:=0,stmt:=default,own:=false}:=⟨λh=>by simp at h,λhe=>⟨(h.en he).1,.inl rfl⟩⟩;have hen:s.ended=true→s.kind=4:=λhe=>by
  rcases (h.en he).2 with h|h
  ·exact absurd h hk
  ·exact h
 refine (Jn.go ?_).out _;unfold DX;simp only
 split
 ·rename_i ha
  have ha:s.kind=1:=by simpa using ha
  have hn:s.ended=false:=by
   cases he:s.ended with
   |false=>rfl
   |true=>have:=hen he;omega
  have h2:Jn (if e==0 then BD {s with kind:=0,stmt:=default,own:=false} (BU dec o) else {s with kind:=0,stmt:=default,own:=false})∧(if e==0 then BD {s with kind:=0,stmt:=default,own:=false} (BU dec o) else {s with kind:=0,stmt:=default,own:=false}).ended=false:=by
   split
   ·exact ⟨h0.send _,by rw [(Ar _ _).2.2.2.2.2];exact hn⟩
   ·exact ⟨h0,hn⟩
  generalize (if e==0 then BD {s with kind:=0,stmt:=default,own:=false} (BU dec o) else {s with kind:=0,stmt:=default,own:=false})=s2 at h2 ⊢;generalize (if (e==0)=true then (Cf (BU dec o) []).2 else e)=e1;split
  ·exact Jn.brok (s:=BD _ _) (h2.1.send _) (by rw [(Ar _ _).2.2.2.2.2];exact h2.2)
  ·exact h2.1
 split
 ·split
  ·rename_i h1 h2
   simp only [zQ,zaL] at h2;exact Jn.send (s:={s with kind:=0,stmt:=default,own:=false,status:=73}) ⟨λh=>by simp at h,λhe=>by simp only at he;rw [h2.2] at he;cases he⟩ _
  ·exact h0
 ·rename_i h1 h2
  have h2:s.kind≠4:=by simpa using h2
  have hn:s.ended=false:=by
   cases he:s.ended with
   |false=>rfl
   |true=>exact absurd (hen he) h2
  have hb:∀t:Ses,t.ended=false→t.kind=0→Jn t:=λt h1 h2=>⟨λh=>by rw [h2] at h;simp at h,λh=>by rw [h1] at h;cases h⟩;unfold NL;simp only
  split
  ·exact hb _ (by simp only;unfold Bj;rw [(Ar _ _).2.2.2.2.2];exact hn) (by simp only;unfold Bj;rw [(Ar _ _).2.2.2.1])
  split
  ·exact Jn.send (s:={s with kind:=0,stmt:=default,own:=false,status:=84}) (hb _ hn rfl) _
  ·exact Jn.send (s:={s with kind:=0,stmt:=default,own:=false,status:=73}) (hb _ hn rfl) _
theorem Vt {s:Ses}(h:s.ended=true):goF s=s:=by
 rw [Fv];simp [CY,h]
section
variable {ω:Om}{I:Imm}{L F:LH}{K:Value→M}{b:Nat}{v:Value}
theorem YJ {f:TFront}{r:Rdq}{e:Int}(h:∀c,FrC (if r.whole=true then (f,(0:Int)) else ({},e)).1 c→K (.tuple #[.agg c.toArray,.int .i64 (if r.whole=true then (f,(0:Int)) else ({},e)).2]) I F):∀c',FrC (if r.whole then f else {}) c'→K (.tuple #[.agg c'.toArray,.int .i64 (if r.whole then 0 else e)]) I F:=by
 intro c' hc';cases hr:r.whole with
 |true=>rw [hr] at h hc';exact h c' hc'
 |false=>rw [hr] at h hc';exact h c' hc'
theorem UK {l:Bs}(hv:Bytes I v l)(hn:l.length≤1000000000000)(hk:∀c,FrC (Jh l).1 c→K (.tuple #[.agg c.toArray,.int .i64 (Jh l).2]) I F):CT ω 75 #[v] K I F:=by
 obtain ⟨a0,k0,rfl⟩:=hv.form;refine AQv ?_;unfold APe;refine Ap (λb1=>?_);try refine zqe ?_
 refine Ap (λb3=>?_);refine Ap (λb5=>?_);refine call (MO (r:=⟨l,false⟩) 4 hv hn (λv2 h2=>?_));unfold Jh at hk;simp only at hk
 have hl2:=FP 4 ⟨l,false⟩;simp only at hl2
 have hl3:((Rdq.mk l false).num 4).2.b.length≤l.length:=hl2;generalize hq:(Rdq.mk l false).num 4=q at *;obtain ⟨q1,q2⟩:=q;simp only at *
 try refine zqe ?_
 by_cases h1:(q1==80877103)=true
 ·rw [if_pos h1] at hk;simp only [h1,SSd,Nat.reduceAdd];refine st1 rfl ?_;exact WC (c1:=z6) (r:=q2) (f:={fKind:=2}) h2 ⟨none,0,0,0,0,0,rfl⟩ rfl (YJ hk)
 rw [if_neg h1] at hk;simp only [zg.2 h1,SSd,Nat.reduceAdd];by_cases h1:(q1==80877102)=true
 ·rw [if_pos h1] at hk;simp only [h1,SSd,Nat.reduceAdd];refine st1 rfl ?_;refine call (MO (r:=q2) 4 h2 zo (λv3 h3=>?_));try refine zqe ?_
  refine st1 rfl ?_;have hl4:(q2.num 4).2.b.length≤q2.b.length:=FP 4 q2;refine call (MO (r:=(q2.num 4).2) 4 h3 zo (λv4 h4=>?_));try refine zqe ?_
  refine st1 rfl ?_;exact WC (c1:=z6) (r:=((q2.num 4).2.num 4).2) (f:={fKind:=3,fPid:=(q2.num 4).1,fSecret:=((q2.num 4).2.num 4).1}) h4 ⟨none,0,0,(q2.num 4).1,((q2.num 4).2.num 4).1,0,rfl⟩ rfl (YJ hk)
 rw [if_neg h1] at hk;simp only [zg.2 h1,SSd,Nat.reduceAdd];by_cases h1:(q1==196608)=true
 ·rw [if_pos h1] at hk;simp only [h1,SSd,Nat.reduceAdd];refine st1 rfl ?_;have hlb:CQ (l.length+1) q2 []=CQ (q2.b.length+1) q2 []:=Ir _ _ _ zo zo;rw [hlb] at hk;refine ABu (r:=q2) h2 zo rfl ?_;cases hp:CQ (q2.b.length+1) q2 [] with
  |none=>rw [hp] at hk;exact hk
  |some z=>
   obtain ⟨l',r'⟩:=z;rw [hp] at hk;simp only at hk ⊢
   have hfr:∀c,FrC {fKind:=1,fParams:=l'} c↔FrC {fKind:=1} c:=λc=>Iff.rfl;intro c' hc';have:=YJ hk c';cases hw:(r'.take 1).2.whole with
   |true=>rw [hw] at this hc';exact this ((hfr c').2 hc')
   |false=>rw [hw] at this hc';exact this hc'
 rw [if_neg h1] at hk;simp only [zg.2 h1,SSd,Nat.reduceAdd];refine stB rfl rfl (AV rfl) ?_;refine BV rfl ?_;exact zAE F (zAA (hk _ FrC.zero))
theorem JL {l:Bs}(st:Bool)(hv:Bytes I v l)(hn:l.length≤1000000000)(hk:∀c,FrC (BN l st).1 c→K (.tuple #[.agg c.toArray,.int .i64 (BN l st).2.1,.int .i64 (BN l st).2.2]) I F):CT ω 49 #[v,.bool st] K I F:=by
 refine ARN ?_;unfold APs;refine Ap (λb1=>?_);unfold BN at hk;simp only at hk
 have h2:((!st&&(decide (l.length > 0)&&(l.headD 0==0||decide (127 < l.headD 0))))=false)→∀(head:Nat) (least most:Int),head=(if st then 0 else 1)→least=(if st then 8 else 4)→most=(if st then 10000 else 1048576)→
   PE ω v (.bool st) (.pointer (some ⟨b1,0,none⟩)) (.int .i64 0) (.int .i64 0) (.int .i64 head) (.int .i64 least) (.int .i64 most) (λv=>Gh (K v)) I ((b1,FrO z6)::F):=by
  intro hc head least most eh el em;have hh:head≤1:=by rw [eh];split <;> omega
  rw [if_neg (by rw [hc];decide),←eh,←el,←em] at hk;unfold PE;refine call (Vw hv head least most zo zo ?_);have hfp:=SC (b:=l) (head:=head) (least:=least) (most:=most);have hl4:4≤least:=by rw [el];split <;> omega
  generalize hq:Gt l head least most=q at *;obtain ⟨q1,q2⟩:=q;simp only at *
  try refine zqe ?_
  by_cases h0:(q2 != 0)=true
  ·rw [if_pos h0] at hk;simp only [h0,SSd,Nat.reduceAdd];refine stB rfl rfl (AV rfl) ?_;refine BV rfl ?_;exact zAE F (zAA (hk _ FrC.zero))
  rw [if_neg h0] at hk;have hq2:q2=0:=by simpa using h0
  obtain ⟨g1,g2⟩:=hfp hq2;obtain ⟨n,rfl⟩:∃n:Nat,q1=n:=⟨q1.toNat,by omega⟩;simp only [zg.2 h0,wrap_i64 ((head:Int)+4) zo,wrap_i64 ((head:Int)+n) zo,SSd,Nat.reduceAdd];obtain ⟨v1,e1,h1⟩:=Bytes.part hv (lo:=head+4) (hi:=head+n) zo zo;have e1:Bi 1 v (some (.int .i64 ((head:Int)+4))) (some (.int .i64 ((head:Int)+n))) none=some v1:=e1;have hbody:head+n - (head+4)=n - 4:=by omega
  rw [hbody] at h1;rw [zbp] at hk;have hbl:((l.drop (head+4)).take (n - 4)).length≤1000000000000:=by rw [zai,zaq];omega
  generalize (l.drop (head+4)).take (n - 4)=body at *;simp only [e1,SSd,Nat.reduceAdd];refine call (UK h1 hbl (λc hc=>?_));obtain ⟨hc6,hco⟩:=hc.one;try refine zqe ?_
  refine Ap (λb2=>?_);refine stB hc6 rfl hco ?_;cases st with
  |true=>
   simp only [zB,if_true,SSd,Nat.reduceAdd] at hk ⊢;unfold TM;generalize ho:Jh body=o at *;obtain ⟨o1,o2⟩:=o;simp only at *
   try refine zqe ?_
   by_cases h3:(o2 != 0)=true
   ·rw [if_pos h3] at hk;simp only [h3,SSd,Nat.reduceAdd];refine stB rfl rfl (AV rfl) ?_;refine BV rfl ?_;exact zAE F (zAA (hk _ FrC.zero))
   ·rw [if_neg h3] at hk;simp only [zg.2 h3,SSd,Nat.reduceAdd];refine BV hc6 ?_;simp only [wrap_i64 ((head:Int)+n) zo,SSd,Nat.reduceAdd];refine stB hc6 rfl hco ?_;refine BV hc6 ?_;exact zAE F (zAA (hk _ hc))
  |false=>
   have h1h:head=1:=eh;have hpos:0 < l.length:=by omega
   obtain ⟨bt,off,ee1,ee2⟩:=Bytes.at hv (k:=0) hpos;have ee1:ixV 1 v (.int .i64 0)=some (.pointer (some ⟨bt,off,none⟩)):=ee1;simp only [zak,zl,if_false,SSd,Nat.reduceAdd] at hk ⊢;simp only [ee1,SSd,Nat.reduceAdd];refine rd1 (ee2 _ _ (zAC _)) ?_;rw [JV hpos] at hk;refine call (UQ l[0] h1 hbl (λc2 hc2=>?_));obtain ⟨hc26,hc2o⟩:=hc2.one;try refine zqe ?_
   refine stB hc26 hc6 hc2o ?_;unfold TM;generalize ho:Qs l[0].toNat body=o at *;obtain ⟨o1,o2⟩:=o;simp only at *
   try refine zqe ?_
   by_cases h3:(o2 != 0)=true
   ·rw [if_pos h3] at hk;simp only [h3,SSd,Nat.reduceAdd];refine stB rfl rfl (AV rfl) ?_;refine BV rfl ?_;exact zAE F (zAA (hk _ FrC.zero))
   ·rw [if_neg h3] at hk;simp only [zg.2 h3,SSd,Nat.reduceAdd];refine BV hc26 ?_;simp only [wrap_i64 ((head:Int)+n) zo,SSd,Nat.reduceAdd];refine stB hc26 rfl hc2o ?_;refine BV hc26 ?_;exact zAE F (zAA (hk _ hc2))
 have h1:((!st&&(decide (l.length > 0)&&(l.headD 0==0||decide (127 < l.headD 0))))=true)→TN ω (.pointer (some ⟨b1,0,none⟩)) (.int .i64 0) (.int .i64 0) (λv=>Gh (K v)) I ((b1,FrO z6)::F):=by
  intro hc;rw [if_pos hc] at hk;unfold TN;try refine zqe ?_
  refine stB rfl rfl (AV rfl) ?_;refine BV rfl ?_;exact zAE F (zAA (hk _ FrC.zero))
 cases st with
 |true=>
  simp only [zB,SSd,Nat.reduceAdd];exact h2 rfl 0 8 10000 rfl rfl rfl
 |false=>
  have h2':=λhc=>h2 hc 1 4 1048576 rfl rfl rfl;simp only [zak,hv.len,SSd,Nat.reduceAdd];refine BX (λhb=>?_) (λhb=>?_)
  ·have hpos:0 < l.length:=by have:=of_decide_eq_true hb;omega
   obtain ⟨bt,off,ee1,ee2⟩:=Bytes.at hv (k:=0) hpos;have ee1:ixV 1 v (.int .i64 0)=some (.pointer (some ⟨bt,off,none⟩)):=ee1;have hd:decide (l.length > 0)=true:=decide_eq_true hpos;have c0:(((l[0].toNat:Nat):Int)==0)=(l.headD 0==0):=by
    rw [JV hpos];exact eq_of_beq (EX (p:=λc=>((((c.toNat:Nat):Int)==0)==(c==0))) zq l[0])
   have c1:decide ((127:Int) < ((l[0].toNat:Nat):Int))=decide (127 < l.headD 0):=by
    rw [JV hpos];exact eq_of_beq (EX (p:=λc=>(decide ((127:Int) < ((c.toNat:Nat):Int))==decide (127 < c))) zq l[0])
   simp only [ee1,SSd,Nat.reduceAdd];refine rd1 (ee2 _ _ (zAC _)) ?_;simp only [c0,SSd,Nat.reduceAdd];refine BX (λhb1=>?_) (λhb1=>?_)
   ·have hb1:(l.headD 0==0)=false:=by simpa using hb1
    refine rd1 (ee2 _ _ (zAC _)) ?_;simp only [c1,SSd,Nat.reduceAdd];refine AL (λhb2=>?_) (λhb2=>?_)
    ·exact h1 (by rw [hd,hb1,hb2];rfl)
    ·exact h2' (by rw [hd,hb1,hb2];rfl)
   ·have hb1:(l.headD 0==0)=true:=by simpa using hb1
    exact h1 (by rw [hd,hb1];rfl)
  ·refine h2' ?_;have hd:decide (l.length > 0)=false:=decide_eq_false (λh=>hb (decide_eq_true zo));rw [hd];rfl
end
section
variable {ω:Om}{I:Imm}{L:LH}{K:Value→M}{C:Obj→LH}{b:Nat}{w:Value}{s:Bs}{a:Nat}
theorem AJG (c q:UInt8):((c.toNat:Int) != q.toNat)=(c != q):=by
 have:((c.toNat:Int)=q.toNat)↔c=q:=by
  constructor
  ·intro h;exact UInt8.toNat_inj.1 zo
  ·rintro rfl;rfl
 rw [Bool.eq_iff_iff];simp [this]
theorem Ur (c q:UInt8):((c.toNat:Int)==q.toNat)=(c==q):=by
 have:=AJG c q;simp only [bne] at this;exact Bool.not_inj this
theorem Gz (q c:UInt8)(r:Bs):Ff q (c::r)=if c==0 then none else if c != q then (Ff q r).map λx=>(c::x.1,x.2) else match r with
  |[]=>some ([],[])
  |d::r'=>if d==q then (Ff q r').map λx=>(q::x.1,x.2) else some ([],d::r'):=by
 cases r with
 |nil=>rfl
 |cons d r=>rfl
theorem VY (q:UInt8)(hq0:q≠0)[hF:Foc b L (LBo s a w) C](ha:a < s.length)(hs:s.length≤900000000)
  (hno:Ff q (s.drop (a+1))=none→∀x,K (.tuple #[.string ⟨(x:Bs).toArray⟩,.bool false]) I L)
  (hyes:∀t r,Ff q (s.drop (a+1))=some (t,r)→∀a',a < a'→a'≤s.length→s.drop a'=r→K (.tuple #[.string ⟨t.toArray⟩,.bool true]) I (C (LBo s a' w))):
  CT ω 221 #[Ac b,.int .u8 q.toNat] K I L:=by
 obtain ⟨L1,L2,rfl,rfl⟩:=hF.foc;refine ANo ?_;unfold AJy;refine Ap (λbb=>?_);try refine zqe ?_
 refine rdb ?_;simp only [wrap_i64 ((a:Int)+1) zo,SSd,Nat.reduceAdd];refine loop (λm st I2 Lx=>∃(i:Nat) (X:LH) (p v:Value) (acc:Bs),a < i∧i+m=s.length+1∧i≤s.length∧I2=I∧st=(.string ⟨#[]⟩,.bool false,.int .i64 i,())∧Lx=X++((bb,BuB p v)::(L1++(b,LBo s a w)::L2))∧BuP bb p∧SlO 5 1 X v (Lib.byteCells acc) acc.length∧(acc=[]→v= .slice none 0 0)∧acc.length≤i∧
   Ff q (s.drop (a+1))=(Ff q (s.drop i)).map λx=>(acc++x.1,x.2)) (s.length - a)
  ⟨a+1,[],.pointer none,.slice none 0 0,[],by omega,by omega,by omega,rfl,rfl,rfl,.inl rfl,zAJ _ _,λ_=>rfl,by simp,by simp⟩ ?_
 rintro m st I2 Lx ⟨i,X,p,v,acc,h1,h2,h2',rfl,rfl,rfl,hp,hX,hv,hal,hm⟩;unfold ZL;try refine zqe ?_
 refine rdb ?_;try refine zqe ?_
 refine AL (λhb=>?_) (λhb=>?_);rotate_left
 ·have hb:¬i < s.length:=by simpa using hb
  have:s.drop i=[]:=zan zo;rw [this] at hm;exact zAE (L1++(b,LBo s a w)::L2) (zAA (hno (by rw [hm];rfl) []))
 have hb:i < s.length:=by simpa using hb
 obtain ⟨c,hc,hdc⟩:=QP hb;try refine zqe ?_
 refine rdb ?_;simp only [ixS s hc,SSd,Nat.reduceAdd];have hz:((c.toNat:Int)==0)=(c==0):=Ur c 0;try simp only [hz,AJG,SSd,Nat.reduceAdd]
 refine AL (λh0=>?_) (λh0=>?_)
 ·refine zAE (L1++(b,LBo s a w)::L2) (zAA (hno ?_ []));rw [hm,hdc];simp only [Gz,h0,if_true,Option.map_none]
 refine AL (λhne=>?_) (λhne=>?_)
 ·refine call (FV hp hX zo c (λX' v' hX'=>?_));unfold OC;try simp only [wrap_i64 ((i:Int)+1) zo,SSd,Nat.reduceAdd]
  refine zAA ⟨m - 1,by omega,i+1,X',Ac bb,v',acc++[c],by omega,by omega,by omega,rfl,rfl,rfl,.inr rfl,?_,by simp,by simp;omega,?_⟩
  ·rw [byteCells_snoc];simpa using hX'
  ·rw [hm,hdc];simp only [Gz,h0,hne,zl,if_false,if_true];cases Ff q (s.drop (i+1)) <;> simp
 ·simp only [wrap_i64 ((i:Int)+1) zo,SSd,Nat.reduceAdd];refine rdb ?_;try refine zqe ?_
  have hcq:c=q:=by simpa using hne
  have fin:Ff q (s.drop i)=some ([],s.drop (i+1))→OB ω (Ac b) (.string ⟨#[]⟩) (.bool false) (Ac bb) (.int .i64 i) (λv=>Gh (K v)) I2 (X++((bb,BuB p v)::(L1++(b,LBo s a w)::L2))):=by
   intro hf;unfold OB;simp only [wrap_i64 ((i:Int)+1) zo,SSd,Nat.reduceAdd];refine st1 rfl ?_;rw [show ((i:Int)+1)=((i+1:Nat):Int) from rfl];refine call (Ld (p:=p) (v:=v) (X:=X) hX zo (λh=>.inl (hv h)) (λX'=>?_));try refine zqe ?_
   refine zAE (L1++(b,LBo s (i+1) w)::L2) (zAA (hyes acc _ (by rw [hm,hf];simp) (i+1) zo zo rfl))
  refine BX (λhb2=>?_) (λhb2=>?_)
  ·have hb2:i+1 < s.length:=by
    have:=of_decide_eq_true hb2;omega
   obtain ⟨d,hd,hdd⟩:=QP hb2;refine rdb ?_;rw [show ((i:Int)+1)=((i+1:Nat):Int) from rfl,ixS s hd];simp only [Ur,SSd,Nat.reduceAdd];refine AL (λhq=>?_) (λhq=>?_)
   ·have hdq:d=q:=by simpa using hq
    unfold ZK;refine call (FV hp hX zo q (λX' v' hX'=>?_));unfold OC;simp only [wrap_i64 ((i:Int)+1) zo,wrap_i64 ((i:Int)+1+1) zo,SSd,Nat.reduceAdd];refine zAA ⟨m - 2,by omega,i+2,X',Ac bb,v',acc++[q],by omega,by omega,by omega,rfl,rfl,rfl,.inr rfl,?_,by simp,by simp;omega,?_⟩
    ·rw [byteCells_snoc];simpa using hX'
    ·rw [hm,hdc,hdd];have h0':(c==0)=false:=by simpa using h0
     have hne':(c != q)=false:=by simpa using hne
     simp only [Gz,h0',hne',hq,zl,if_false,if_true];cases Ff q (s.drop (i+2)) <;> simp
   ·refine fin ?_;rw [hdc,hdd];have h0':(c==0)=false:=by simpa using h0
    have hne':(c != q)=false:=by simpa using hne
    simp only [Gz,h0',hne',hq,zl,if_false]
  ·refine fin ?_;have hb2:¬i+1 < s.length:=by
    have h:¬((i:Int)+1 < s.length):=by simpa using hb2
    omega
   have:s.drop (i+1)=[]:=zan zo;rw [hdc,this];have h0':(c==0)=false:=by simpa using h0
   have hne':(c != q)=false:=by simpa using hne
   simp only [Gz,h0',hne',zl,if_false]
end
abbrev ADB (k:Int)(a:Nat)(t:Bs)(n:Int):Value:=.agg #[.int .i64 k,.int .i64 (a:Nat),.string ⟨t.toArray⟩,.int .i64 n]
section
variable {ω:Om}{I:Imm}{L:LH}{K:Value→M}{C:Obj→LH}{b:Nat}{w:Value}{s:Bs}{a:Nat}
theorem AAy {α:Type}{p:α→Bool}:∀{l:List α} {i:Nat} (h:i < l.length),(∀j (hj:j < i),p (l[j]'zo)=false)→p l[i]=true→l.find? p=some l[i]
 |x::l,0,_,_,h=>by simp at h;simp [h]
 |x::l,i+1,hi,h0,h=>by
  have:=h0 0 zo;simp at this;simp only [List.find?_cons,this];simp only [List.getElem_cons_succ] at h ⊢;exact AAy (l:=l) (by simpa using hi) (λj hj=>by simpa using h0 (j+1) zo) h
theorem ADQ:∀{x:Bs},x∈signsL→x.length≤2:=by
 intro x hx;simp only [signsL,zK,zaG,or_false] at hx;rcases hx with rfl|rfl|rfl|rfl|rfl|rfl|rfl|rfl|rfl|rfl|rfl|rfl|rfl|rfl|rfl|rfl|rfl|rfl <;> decide
theorem ABf [hF:Foc b L (LBo s a w) C](ha:a < s.length)(hs:s.length≤900000000)(m0:Nat)
  (hno:Ou (s.drop a)=none→∀I',Ext I I'→K (.tuple #[ADB 5 m0 [] 0,.int .i64 171]) I' L)
  (hyes:∀x,Ou (s.drop a)=some x→a+x.length≤s.length→∀I',Ext I I'→K (.tuple #[ADB 5 m0 (if x=[33,61] then [60,62] else x) 0,.int .i64 0]) I' (C (LBo s (a+x.length) w))):
  CT ω 222 #[Ac b,ADB 0 m0 [] 0] K I L:=by
 obtain ⟨L1,L2,rfl,rfl⟩:=hF.foc;refine ANn ?_;unfold AJx;refine Ap (λb1=>?_);refine Ap (λb2=>?_);repeat' (first|refine zqa ?_|refine zqh (λ_=>?_)|refine zqr ?_|refine zqb ?_|refine zqi ?_ ?_|refine zqc ?_|refine zqg (λ_=>?_) (λ_=>?_)|refine zqe ?_|fail)
 refine DW signsL rfl rfl (λI1 av hI1 hw=>zAA ?_);have hlen:signsL.length=18:=rfl;try refine zqe ?_
 refine loop (λm st I2 Lx=>∃i:Nat,i+m=18∧I2=I1∧st=(.int .i64 0,.int .i64 i,())∧Lx=(b2,.cells [.int .i64 0,.int .i64 0,.string ⟨#[]⟩,.int .i64 0].toArray 247 (0,0))::(b1,.cells [.int .i64 5,.int .i64 (m0:Nat),.string ⟨#[]⟩,.int .i64 0].toArray 247 (0,0))::(L1++(b,LBo s a w)::L2)∧∀j (hj:j < signsL.length),j < i→(signsL[j]).isPrefixOf (s.drop a)=false) 18
  ⟨0,rfl,rfl,rfl,rfl,λj _ hj=>by omega⟩ ?_
 rintro m st I2 Lx ⟨i,h1,rfl,rfl,rfl,hall⟩;unfold ZJ;try refine zqe ?_
 refine AL (λhb=>?_) (λhb=>?_);rotate_left
 ·have hb:¬i < 18:=by
   have:¬((i:Int) < 18):=by simpa using hb
   omega
  unfold ZI;repeat' (first|refine zqa ?_|refine zqh (λ_=>?_)|refine zqr ?_|refine zqb ?_|refine zqi ?_ ?_|refine zqc ?_|refine zqg (λ_=>?_) (λ_=>?_)|refine zqe ?_|fail)
  refine zAE (L1++(b,LBo s a w)::L2) (zAA (hno ?_ I2 hI1));rw [Ou,List.find?_eq_none];intro x hx;obtain ⟨j,hj,rfl⟩:=List.mem_iff_getElem.1 hx;simp [hall j hj zo]
 have hb:i < signsL.length:=by
  have:((i:Int) < 18):=by simpa using hb
  omega
 obtain ⟨bw,off,cw,hi1,_,hi2,hi3⟩:=RL.ix hw (i:=i) zo zo;rw [BA hb] at hi2;obtain rfl:=hi2;have hi1:ixV 1 (.slice av 18 18) (.int .i64 i)=_:=hi1;simp only [hi1,SSd,Nat.reduceAdd];refine rd1 ((hi3 _ [] (zAC _) (λ_ h=>h) 0 _ rfl).mono (zAC _) (λ_ h=>by cases h)) ?_;refine Ci ?_;try refine zqe ?_
 refine BJ ?_;try refine zqe ?_
 refine BJ ?_;simp only [VB s (zbu ha),SSd,Nat.reduceAdd];have hle:=ADQ (zar hb);refine call (JE (s.drop a) signsL[i] zu zo ?_);refine AL (λhp=>?_) (λhp=>?_)
 ·have hf:Ou (s.drop a)=some signsL[i]:=AAy (p:=λ(x:Bs)=>x.isPrefixOf (s.drop a)) hb (λj hj=>hall j zo hj) hp;have hpl:=(zbm.1 hp).length_le;have hpl:a+(signsL[i]).length≤s.length:=by simp at hpl;omega
  try refine zqe ?_
  refine rdb ?_;simp only [wrap_i64 ((a:Int)+(signsL[i]).length) zo,SSd,Nat.reduceAdd];refine st1 rfl ?_;rw [show ((a:Int)+((signsL[i]).length:Nat))=((a+(signsL[i]).length:Nat):Int) from rfl];have hfin:=hyes _ hf hpl I2 hI1;have fin:∀t:Bs,t=(if signsL[i]=[33,61] then [60,62] else signsL[i])→OA ω (Ac b1) (Ac b2) (.int .i64 0) (λv=>Gh (K v)) I2 ((b2,.cells [.int .i64 0,.int .i64 0,.string ⟨#[]⟩,.int .i64 0].toArray 247 (0,0))::(b1,.cells [.int .i64 5,.int .i64 (m0:Nat),.string ⟨t.toArray⟩,.int .i64 0].toArray 247 (0,0))::(L1++(b,LBo s (a+(signsL[i]).length) w)::L2)):=by
   intro t ht;rw [←ht] at hfin;unfold OA;repeat' (first|refine zqa ?_|refine zqh (λ_=>?_)|refine zqr ?_|refine zqb ?_|refine zqi ?_ ?_|refine zqc ?_|refine zqg (λ_=>?_) (λ_=>?_)|refine zqe ?_|fail)
   exact zAE (L1++(b,LBo s (a+(signsL[i]).length) w)::L2) (zAA hfin)
  refine st1 rfl ?_;refine AL (λhe=>?_) (λhe=>?_)
  ·refine st1 rfl ?_;exact fin [60,62] (by rw [if_pos (by simpa using he)])
  ·exact fin _ (by rw [if_neg (by simpa using he)])
 ·simp only [wrap_i64 ((i:Int)+1) zo,SSd,Nat.reduceAdd];refine zAA ⟨m - 1,by omega,i+1,by omega,rfl,rfl,rfl,λj hj hji=>?_⟩;rcases Nat.lt_or_eq_of_le (Nat.le_of_lt_succ hji) with hlt|rfl
  ·exact hall j hj hlt
  ·simpa using hp
end
def ARv (v:Value):Prop:=v= .slice none 0 0∨∃a m k,v= .slice (some a) m (k+1)
theorem SlO.buf {T n len:Nat}{X:LH}{v:Value}{cells:List Value}(h:SlO T n X v cells len)(h0:0 < len):ARv v:=by
 obtain ⟨_,h8⟩:=h;rcases h8 with ⟨_,h1,_⟩|⟨b8,k8,_,_,h8,_,hle,_⟩
 ·omega
 ·obtain ⟨k,rfl⟩:∃k,k8=k+1:=⟨k8 - 1,by omega⟩;exact .inr ⟨_,_,_,h8⟩
theorem AOy:Tryz.prog.underlying 22=some (.slice 5):=by kernel_rfl
section
variable {ω:Om}{I:Imm}{L:LH}{K:Value→M}{C:Obj→LH}{b:Nat}{p v:Value}
theorem ACM [hF:Foc b L (BuB p (.slice none 0 0)) C](hp:BuP b p){n:Nat}(hn:0 < n)(hn2:n≤100000000000)
  (hk:∀X' v',SlO 5 1 X' v' [] 0→ARv v'→K (.tuple #[]) I (X'++C (BuB (Ac b) v'))):CT ω 249 #[Ac b,.int .i64 (n:Nat)] K I L:=by
 obtain ⟨L1,L2,rfl,rfl⟩:=hF.foc;refine ANU ?_;unfold AJj;refine call (Ee hp ?_);have h1:decide ((n:Int) < 0)=false:=by simp
 simp only [h1,SSd,Nat.reduceAdd];unfold Yw;have h2:decide ((0:Int) < (n:Int))=true:=by simpa using hn
 repeat' (first|refine zqa ?_|refine zqh (λ_=>?_)|refine zqr ?_|refine zqb ?_|refine zqi ?_ ?_|refine zqc ?_|refine zqg (λ_=>?_) (λ_=>?_)|(simp only [SSd,Nat.reduceAdd,h2,wrap_i64 ((0:Int)) zo]))
 rotate_left
 ·rename_i hx
  have hx:=of_decide_eq_false hx;exact absurd (show IntKind.i64.wrap (((0:Nat):Int) - ((0:Nat):Int)) < (n:Int) from by rw [show IntKind.i64.wrap (((0:Nat):Int) - ((0:Nat):Int))=0 from rfl];omega) hx
 refine call ?_;refine ANB ?_;unfold AJU;refine Ci ?_;try refine zqe ?_
 refine BJ ?_;have e1:IntKind.i64.wrap (2 * ((0:Nat):Int))=0:=rfl;have e2:IntKind.i64.wrap (0+(n:Int))=n:=by rw [Int.zero_add];exact wrap_i64 (n:Int) zo
 simp only [e1,e2,SSd,Nat.reduceAdd];refine ARz AOy zo (λb' cs hcs=>zAA ?_);refine BK (zAC _) ?_;try refine zqe ?_
 refine BJ ?_;have e3:Bi 1 (.slice (some ⟨b',0,none⟩) n cs.size) none (some (.int .i64 ((0:Nat):Int))) none=some (.slice (some ⟨b',0,none⟩) 0 cs.size):=by
  simp [Bi,DJ,Addr.add]
 simp only [e3,SSd,Nat.reduceAdd];refine rdb ?_;refine ⟨_,0,cs.size,0,[],rfl,.inl ⟨_,_,rfl,rfl,rfl⟩,.inl ⟨rfl,?_⟩⟩;refine zAA ?_;try refine zqe ?_
 refine st1 rfl ?_;refine zAA (zAA (hk [(b',.cells cs 5 (0,0))] _ ⟨rfl,.inr ⟨b',cs.size,cs,rfl,rfl,by simp,by omega,λj u hu=>by simp at hu⟩⟩ ?_));obtain ⟨k,hk0⟩:∃k,cs.size=k+1:=⟨cs.size - 1,by omega⟩;rw [hk0];exact .inr ⟨_,_,_,rfl⟩
theorem MC {X F:LH}{l:Bs}[hs:SplitL X L F][hF:Foc b F (BuB p v) C](hp:BuP b p)(hX:SlO 5 1 X v (Lib.byteCells l) l.length)(hn:l.length≤1000000000)(t:Bs)(ht:t.length≤1000000000)
  (hk:∀X' v',SlO 5 1 X' v' (Lib.byteCells (l++t)) (l++t).length→K (.tuple #[.int .i64 t.length,.nilIface]) I (X'++C (BuB (Ac b) v'))):CT ω 250 #[Ac b,.string ⟨t.toArray⟩] K I L:=by
 obtain ⟨L1,L2,rfl,rfl⟩:=hF.foc;refine zAM X ?_;refine ANT ?_;unfold AJi;refine call (Ee hp ?_);try refine zqe ?_
 refine rdb ?_;refine BL (X:=X) (n:=1) (m:=t.length) rfl hX (news:=Lib.byteCells t) (.inr (.inr ⟨⟨t.toArray⟩,rfl,rfl,rfl,rfl⟩)) (λu hu=>?_) zo zo (λX2 v2 hX2=>?_)
 ·obtain ⟨c,_,rfl⟩:=zaf.1 hu;rfl
 have hX2:SlO 5 1 X2 v2 (Lib.byteCells (l++t)) (l++t).length:=by rw [Lib.byteCells_append];simpa using hX2
 obtain ⟨a2,k2,rfl⟩:=hX2.form;repeat' (first|refine zqa ?_|refine zqh (λ_=>?_)|refine zqr ?_|refine zqb ?_|refine zqi ?_ ?_|refine zqc ?_|refine zqg (λ_=>?_) (λ_=>?_)|refine zqe ?_|fail)
 exact zAE (X2++(L1++(b,BuB (Ac b) (.slice a2 (l++t).length k2))::L2)) (zAA (hk X2 _ hX2))
theorem OZ {X F:LH}{l:Bs}[hs:SplitL X L F][hF:Foc b F (BuB p v) C](hp:BuP b p)(hX:SlO 5 1 X v (Lib.byteCells l) l.length)(hn:l.length≤1000000000)(c:UInt8)(hc:c.toNat < 128)
  (hk:∀X' v' x,SlO 5 1 X' v' (Lib.byteCells (l++[c])) (l++[c]).length→K (.tuple #[x,.nilIface]) I (X'++C (BuB (Ac b) v'))):CT ω 251 #[Ac b,.int .i32 c.toNat] K I L:=by
 obtain ⟨L1,L2,rfl,rfl⟩:=hF.foc;refine zAM X ?_;refine ANR ?_;unfold AJh;refine call (Ee hp ?_);obtain ⟨a1,k1,rfl⟩:=hX.form;try refine zqe ?_
 refine rdb ?_;try refine zqe ?_
 refine rdb ?_;refine call ?_;refine ANA ?_;unfold AJT;have e1:IntKind.u32.wrap (c.toNat:Int)=c.toNat:=IntWalk.u32_in _ zo;have e2:IntKind.u8.wrap (c.toNat:Int)=c.toNat:=IntWalk.u8_in _ zo;have e3:decide ((c.toNat:Int)≤127)=true:=by simp;omega
 simp only [e1,e2,e3,SSd,Nat.reduceAdd];refine Bh rfl zo rfl (λX1 u hX1=>?_);refine BL (X:=X) rfl hX (hX1.news (λx hx=>zY _ hx)) (by simp [Value.cells,Value.oneCell']) zo zo (λX2 v2 hX2=>?_);have hX2:SlO 5 1 X2 v2 (Lib.byteCells (l++[c])) (l++[c]).length:=by rw [byteCells_snoc];simpa [Value.cells] using hX2
 obtain ⟨a2,k2,rfl⟩:=hX2.form;refine zAA ?_;repeat' (first|refine zqa ?_|refine zqh (λ_=>?_)|refine zqr ?_|refine zqb ?_|refine zqi ?_ ?_|refine zqc ?_|refine zqg (λ_=>?_) (λ_=>?_)|refine zqe ?_|fail)
 exact zAE (X2++(L1++(b,BuB (Ac b) (.slice a2 (l++[c]).length k2))::L2)) (zAA (hk X2 _ _ hX2))
end
theorem UO {I:Imm}{K:Value→M}{s:Bs}{i b:Nat}{L1 L2:LH}(hasc:∀c∈s,c.toNat < 128)
  (hmore:∀c,s[i]? =some c→c.toNat < 128→K (.tuple #[.bool true,.int .i64 (i:Nat),.int .i32 c.toNat]) I (L1++(b,.stringIter ⟨s.toArray⟩ (i+1))::L2))
  (hend:s.length≤i→K (.tuple #[.bool false]) I (L1++(b,.stringIter ⟨s.toArray⟩ i)::L2)):ACu (Ac b) K I (L1++(b,.stringIter ⟨s.toArray⟩ i)::L2):=by
 refine ⟨b,⟨s.toArray⟩,i,L1,L2,rfl,rfl,?_⟩;have hsz:(⟨s.toArray⟩:ByteArray).size=s.length:=rfl;rw [hsz];split
 ·rename_i hlt
  have ha:s[i].toNat < 128:=hasc _ (zar hlt);have hd:Utf8.decode (⟨s.toArray⟩:ByteArray) i=(s[i].toNat,1):=decode_ascii ⟨s.toArray⟩ i hlt ha;rw [hd];exact hmore s[i] (zam hlt) ha
 ·exact hend zo
def FnR (ω:Om)(fv:Value)(f:UInt8→UInt8):Prop:=∀(c:UInt8) (K:Value→M) (I:Imm) (L:LH),c.toNat < 128→K (.int .i32 (f c).toNat) I L→CW ω fv #[.int .i32 c.toNat] K I L
theorem AFd (c:UInt8)(h:c.toNat < 128):(Et c).toNat < 128:=by
 have:=EX (p:=λc=>decide (c.toNat < 128→(Et c).toNat < 128)) zq c;exact of_decide_eq_true this h
section
variable {ω:Om}{I:Imm}{L:LH}{K:Value→M}{C:Obj→LH}{b:Nat}{p v:Value}
theorem Rx:FnR ω (.func (.func 216) #[] #[]) Et:=by
 intro c K I L hc hk;refine La (by kernel_rfl) ?_;refine ANt ?_;unfold AKC;have ht:=EX (p:=λc=>decide (c.toNat < 128→((Et c).toNat:Int)=if (65:Int)≤c.toNat∧(c.toNat:Int)≤90 then IntKind.i32.wrap (IntKind.i32.wrap ((c.toNat:Int)+97) - 65) else (c.toNat:Int))) zq c;have ht:=of_decide_eq_true ht hc;rw [ht] at hk;try refine zqe ?_
 refine BX (λh1=>?_) (λh1=>?_)
 ·refine AL (λh2=>?_) (λh2=>?_)
  ·unfold ZN;rw [if_pos ⟨by simpa using h1,by simpa using h2⟩] at hk;try refine zqe ?_
   exact zAA hk
  ·rw [if_neg (λh=>by simp [h.2] at h2)] at hk;exact zAA hk
 ·rw [if_neg (λh=>by simp [h.1] at h1)] at hk;exact zAA hk
theorem UC {c:Nat}(hc:c < 128)(hk:K (.int .i64 1) I L):CT ω 248 #[.int .i32 (c:Nat)] K I L:=by
 refine ANV ?_;unfold AJk;have h1:decide ((c:Int) < 0)=false:=by simp
 have h2:decide ((c:Int)≤127)=true:=by simp;omega
 simp only [h1,h2,SSd,Nat.reduceAdd];exact zAA hk
theorem WP {a:Option Addr}{m k:Nat}[hF:Foc b L (BuB p (.slice a m k)) C](hk:K (.int .i64 (k:Nat)) I L):CT ω 252 #[Ac b] K I L:=by
 obtain ⟨L1,L2,rfl,rfl⟩:=hF.foc;refine ANQ ?_;unfold AJg;repeat' (first|refine zqa ?_|refine zqh (λ_=>?_)|refine zqr ?_|refine zqb ?_|refine zqi ?_ ?_|refine zqc ?_|refine zqg (λ_=>?_) (λ_=>?_)|refine zqe ?_|fail)
 exact zAA hk
theorem map_rest {X:LH}{acc r:Bs}{bs:Nat}{it:Obj}{z:Value}(hlen:acc.length+r.length≤900000000)(h0:0 < acc.length)(hasc:∀c∈r,c.toNat < 128)(hp:BuP b p)(hX:SlO 5 1 X v (Lib.byteCells acc) acc.length)(hk:K (.string ⟨(acc++r.map Et).toArray⟩) I L):
  Ko ω (.func (.func 216) #[] #[]) (.string ⟨r.toArray⟩) z (Ac b) (λv=>Gh (K v)) I (X++((bs,it)::(b,BuB p v)::L)):=by
 have hF:=Rx (ω:=ω);unfold Ko;obtain ⟨a,m,k,rfl⟩:∃a m k,v= .slice (some a) m (k+1):=by
  rcases SlO.buf hX h0 with rfl|h
  ·obtain ⟨_,h8⟩:=hX;rcases h8 with ⟨_,h1,_⟩|⟨b8,k8,_,_,h8,_⟩
   ·omega
   ·cases h8
  ·exact h
 refine call (WP ?_);have e0:(((k+1:Nat):Int)==0)=false:=by simp;omega
 simp only [e0,SSd,Nat.reduceAdd];refine ⟨⟨r.toArray⟩,rfl,λb2=>?_⟩;refine zAE (X++((b2,.stringIter ⟨r.toArray⟩ 0)::(bs,it)::(b,BuB p (.slice (some a) m (k+1)))::L)) (zAA ?_);refine loop (λm st I2 Lx=>∃(j:Nat) (X:LH) (p v:Value),j+m=r.length∧I2=I∧Lx=X++((b2,.stringIter ⟨r.toArray⟩ j)::(bs,it)::(b,BuB p v)::L)∧BuP b p∧SlO 5 1 X v (Lib.byteCells (acc++(r.take j).map Et)) (acc++(r.take j).map Et).length) r.length ⟨0,X,p,_,by omega,rfl,rfl,hp,by simpa using hX⟩ ?_;clear hX hp;rintro m2 st I2 Lx ⟨j,X,p,v,h1,rfl,rfl,hp,hX⟩;have hjl:(acc++(r.take j).map Et).length≤900000000:=by simp;omega
 unfold ZO;refine UO hasc (λc hc hca=>zAA ?_) (λhe=>zAA ?_)
 ·obtain ⟨hlt,hce⟩:=zaj.1 hc;try refine zqe ?_
  refine Si (hF c _ _ _ hca ?_);have hll:=AFd c hca;have e1:decide ((0:Int)≤((Et c).toNat:Int))=true:=by simp
  have e2:decide (((Et c).toNat:Int) < 128)=true:=by simp;omega
  have e3:IntKind.u8.wrap ((Et c).toNat:Int)=(Et c).toNat:=IntWalk.u8_in _ zo;simp only [e1,e2,e3,SSd,Nat.reduceAdd];refine call (FV hp hX zo (Et c) (λX' v' hX'=>?_));refine zAA ⟨m2 - 1,by omega,j+1,X',Ac b,v',by omega,rfl,rfl,.inr rfl,?_⟩;have et:r.take (j+1)=r.take j++[c]:=by rw [List.take_add_one,hc];rfl
  rw [et,zaa,←zt];rw [show (List.map Et [c])=[Et c] from rfl,byteCells_snoc];simpa [zbn] using hX'
 ·try refine zqe ?_
  unfold VD;refine call (Ld (p:=p) (v:=v) (X:=X) hX zo (λh=>by simp at h;exact absurd h.1 (List.length_pos_iff.1 h0)) (λX'=>?_));have et:r.take j=r:=zW zo;rw [et];exact zAE L (zAA hk)
theorem AFc (s:Bs)(hs:s.length≤900000000)(hasc:∀c∈s,c.toNat < 128)(hk:K (.string ⟨(s.map Et).toArray⟩) I L):CT ω 215 #[.func (.func 216) #[] #[],.string ⟨s.toArray⟩] K I L:=by
 have hF:=Rx (ω:=ω);refine ANu ?_;unfold AKD;refine Ap (λbb=>?_);refine ⟨⟨s.toArray⟩,rfl,λbs=>zAA ?_⟩;refine loop (λm st I2 Lx=>∃i,i+m=s.length∧I2=I∧st=(.string ⟨s.toArray⟩,())∧Lx=(bs,.stringIter ⟨s.toArray⟩ i)::(bb,BuB (.pointer none) (.slice none 0 0))::L∧(s.take i).map Et=s.take i) s.length ⟨0,by omega,rfl,rfl,rfl,rfl⟩ ?_;rintro m st I2 Lx ⟨i,h1,rfl,rfl,rfl,hfix⟩;unfold ZQ;refine UO (L1:=[]) hasc (λc hc hca=>zAA ?_) (λhe=>zAA ?_)
 ·obtain ⟨hlt,hce⟩:=zaj.1 hc;try refine zqe ?_
  refine Si (hF c _ _ _ hca ?_);have hll:=AFd c hca;have e0:((c.toNat:Int) != 65533)=true:=by simp;omega
  have e0':((c.toNat:Int)==65533)=false:=by simp;omega
  simp only [Ur,e0,e0',SSd,Nat.reduceAdd];refine BX (λhe=>?_) (λhe=>?_)
  ·have he:Et c=c:=by simpa using he
   refine zAA ⟨m - 1,by omega,i+1,by omega,rfl,trivial,rfl,?_⟩;rw [List.take_add_one,hc];simp [hfix,he]
  ·unfold PH;refine call (UC hca ?_);unfold OE;have e4:IntKind.i64.wrap ((s.length:Int)+4)=((s.length+4:Nat):Int):=wrap_i64 _ zo;simp only [e4,SSd,Nat.reduceAdd];refine call (ACM (.inl rfl) zo zo (λX1 v1 hX1 hb1=>?_));simp only [ALt s (zbu hlt),SSd,Nat.reduceAdd];refine call (MC (X:=X1) (l:=[]) (.inr rfl) hX1 zy (s.take i) zu (λX2 v2 hX2=>?_));have e5:decide ((0:Int)≤((Et c).toNat:Int))=true:=by simp
   simp only [e5,SSd,Nat.reduceAdd];refine call (OZ (X:=X2) (l:=[]++s.take i) (.inr rfl) hX2 zu (Et c) hll (λX3 v3 x hX3=>?_));unfold TY;have e6:IntKind.i64.wrap ((i:Int)+1)=((i+1:Nat):Int):=wrap_i64 _ zo;simp only [e6,SSd,Nat.reduceAdd];simp only [VB s (show i+1≤s.length by omega),SSd,Nat.reduceAdd];refine map_rest (X:=X3) (acc:=[]++s.take i++[Et c]) (r:=s.drop (i+1)) zu zy (λd hd=>hasc d (List.mem_of_mem_drop hd)) (.inr rfl) hX3 ?_;have e7:s.map Et=[]++s.take i++[Et c]++(s.drop (i+1)).map Et:=by
    conv=>lhs;rw [←zZ i s]
    rw [zaa,hfix,zab hlt,hce];simp
   rw [←e7];exact hk
 ·try refine zqe ?_
  unfold Ko;have hi:i=s.length:=by omega
  subst hi;refine call (WP ?_);try refine zqe ?_
  rw [List.take_length] at hfix;rw [hfix] at hk;exact zAE L (zAA hk)
end
section
variable {ω:Om}{I:Imm}{L:LH}{K:Value→M}{C:Obj→LH}{b:Nat}{w:Value}{s:Bs}{a:Nat}
theorem Qu {v:Value}{ws:List Bs}(hw:StL I v ws)(hws:ws.length≤1000)(t:Bs)(hk:K (.bool (ws.contains t)) I L):CT ω 220 #[v,.string ⟨t.toArray⟩] K I L:=by
 refine ANp ?_;unfold AJz;refine call ?_;refine ANN ?_;unfold AJd;simp only [zAK hw,SSd,Nat.reduceAdd];refine loop (λm st I2 Lx=>∃i:Nat,i+m=ws.length∧I2=I∧st=(.int .i64 0,.int .i64 i,())∧Lx=L∧∀j (hj:j < ws.length),j < i→(ws[j]==t)=false) ws.length ⟨0,by omega,rfl,rfl,rfl,λj _ h=>by omega⟩ ?_;rintro m st I2 Lx ⟨i,h1,rfl,rfl,rfl,hall⟩;unfold Yv;try refine zqe ?_
 refine AL (λhb=>?_) (λhb=>?_)
 ·have hb:i < ws.length:=by
   have:((i:Int) < ws.length):=by simpa using hb
   omega
  obtain ⟨bw,off,cw,hi1,_,hi2,hi3⟩:=RL.ix hw (i:=i) zo zo;rw [BA hb] at hi2;obtain rfl:=hi2;simp only [hi1,SSd,Nat.reduceAdd];refine rd1 ((hi3 _ [] (zAC _) (λ_ h=>h) 0 _ rfl).mono (zAC _) (λ_ h=>by cases h)) ?_;try refine zqe ?_
  refine AL (λhe=>?_) (λhe=>?_)
  ·have he:t=ws[i]:=by simpa using he
   have hc:ws.contains t=true:=by
    rw [List.contains_iff_mem,he];exact zar hb
   rw [hc] at hk;refine zAA ?_;have e1:decide ((0:Int)≤(i:Int))=true:=by simp
   simp only [e1,SSd,Nat.reduceAdd];exact zAA hk
  ·have he:t≠ws[i]:=by simpa using he
   simp only [wrap_i64 ((i:Int)+1) zo,SSd,Nat.reduceAdd];refine zAA ⟨m - 1,by omega,i+1,by omega,rfl,rfl,rfl,λj hj hji=>?_⟩;rcases Nat.lt_or_eq_of_le (Nat.le_of_lt_succ hji) with hlt|rfl
   ·exact hall j hj hlt
   ·simpa using λe=>he e.symm
 ·have hb:¬i < ws.length:=by
   have:¬((i:Int) < ws.length):=by simpa using hb
   omega
  have hc:ws.contains t=false:=by
   cases hc:ws.contains t with
   |false=>rfl
   |true=>
    rw [List.contains_iff_mem] at hc;obtain ⟨j,hj,e⟩:=List.mem_iff_getElem.1 hc;have:=hall j hj zo;simp [e] at this
  rw [hc] at hk;refine zAA ?_;repeat' (first|refine zqa ?_|refine zqh (λ_=>?_)|refine zqr ?_|refine zqb ?_|refine zqi ?_ ?_|refine zqc ?_|refine zqg (λ_=>?_) (λ_=>?_)|refine zqe ?_|fail)
  exact zAA hk
theorem AAq (c:UInt8)(h:(DV c||CG c)=true):c.toNat < 128:=by
 have:=EX (p:=λc=>decide ((DV c||CG c)=true→c.toNat < 128)) zq c;exact of_decide_eq_true this h
theorem AIl (c:UInt8)(h:CG c=true):c.toNat < 128:=AAq c (by simp [h])
theorem Dz {p:UInt8→Bool}:∀{l:Bs} {c:UInt8},c∈l.takeWhile p→p c=true
 |x::l,c,h=>by
  by_cases hx:p x=true
  ·rw [List.takeWhile_cons_of_pos hx] at h;rcases zK.1 h with rfl|h
   ·exact hx
   ·exact Dz h
  ·rw [List.takeWhile_cons_of_neg hx] at h;cases h
def ARp (s:Bs)(a:Nat)(K:Value→M)(C:Obj→LH)(w:Value)(I:Imm):Prop:=
 (∀t r,Iz a (s.drop a)= .tok t r→∀I' a',Ext I I'→a < a'→a'≤s.length→s.drop a'=r→K (.tuple #[ADB t.kind t.at' t.text t.num,.int .i64 0]) I' (C (LBo s a' w)))∧
 (∀e,Iz a (s.drop a)= .bad e→e≠0∧∀I' a' k x n,Ext I I'→K (.tuple #[ADB k a x n,.int .i64 e]) I' (C (LBo s a' w)))
theorem Un {p:UInt8→Bool}{s:Bs}{a a':Nat}{c:UInt8}(hd:s.drop a=c::s.drop (a+1))(hp:p c=true)(h1:a≤a')(hdr:s.drop a'=(s.drop a).dropWhile p):a < a':=by
 rcases Nat.lt_or_eq_of_le h1 with h|rfl
 ·exact h
 ·rw [hd,List.dropWhile_cons_of_pos hp] at hdr;have h2:=congrArg List.length hdr;have h3:((s.drop (a+1)).dropWhile p).length≤(s.drop (a+1)).length:=(List.dropWhile_suffix p).length_le;simp only [zi] at h2;omega
theorem ABy [hF:Foc b L (LBo s a w) C](ha:a < s.length)(hs:s.length≤900000000)(hw:StL I w wordsL)(hk:ARp s a K C w I):CT ω 184 #[Ac b] K I L:=by
 obtain ⟨L1,L2,rfl,rfl⟩:=hF.foc;obtain ⟨aw,kw,rfl⟩:=zAF hw;obtain ⟨hok,hbad⟩:=hk;obtain ⟨c,hc,hd⟩:=QP ha;refine AOL ?_;unfold AKT;refine Ap (λb1=>?_);try refine zqe ?_
 refine rdb ?_;repeat' (first|refine zqa ?_|refine zqh (λ_=>?_)|refine zqr ?_|refine zqb ?_|refine zqi ?_ ?_|refine zqc ?_|refine zqg (λ_=>?_) (λ_=>?_)|refine zqe ?_|fail)
 rename_i bt
 simp only [ixS s hc,SSd,Nat.reduceAdd];refine call (JD c ?_);refine AL (λhl=>?_) (λhl=>?_)
 ·have hp:(DV c||CG c)=true:=by rw [show DV c=true from hl];rfl
  refine call (Og (s:=s) (a:=a) (w:=.slice aw wordsL.length kw) ACv (zbu ha) hs (λa' h1 h2 hdr=>?_));have hlt:=Un hd hp h1 hdr;have htl:((s.drop a).takeWhile λc=>DV c||CG c).length≤900000000:=zaC (List.takeWhile_prefix _).length_le zu;refine call (AFc _ htl (λd hd=>AAq d (Dz (p:=λc=>DV c||CG c) hd)) ?_);have hone:Iz a (s.drop a)=Oe (((s.drop a).takeWhile λc=>DV c||CG c).map Et) a ((s.drop a).dropWhile λc=>DV c||CG c):=by
   rw [hd];simp only [Iz];rw [if_pos (show DV c=true from hl)]
  generalize htx:(((s.drop a).takeWhile λc=>DV c||CG c).map Et)=tx at hone ⊢;repeat' (first|refine zqa ?_|refine zqh (λ_=>?_)|refine zqr ?_|refine zqb ?_|refine zqi ?_ ?_|refine zqc ?_|refine zqg (λ_=>?_) (λ_=>?_)|refine zqe ?_|fail)
  refine call (Qu hw zx tx ?_);refine AL (λhcn=>?_) (λhcn=>?_);all_goals repeat' (first|refine zqa ?_|refine zqh (λ_=>?_)|refine zqr ?_|refine zqb ?_|(with_reducible first|refine BI (sh184_1.eq_1 ..) ?_|refine BI (sh184_3.eq_1 ..) ?_|refine And.intro ?_ ?_)|refine zqc ?_|refine zqg (λ_=>?_) (λ_=>?_)|refine zqe ?_|fail)
  all_goals (rename_i h63;simp only [decide_eq_true_eq,decide_eq_false_iff_not] at h63)
  all_goals first
   |exact zAE (L1++(b,LBo s a' (.slice aw wordsL.length kw))::L2) (zAA ((hbad 173 (by rw [hone];unfold Oe;rw [if_pos zo])).2 I a' _ _ _ (zAC _)))
   |exact zAE (L1++(b,LBo s a' (.slice aw wordsL.length kw))::L2) (zAA (hok ⟨2,a,tx,0⟩ _ (by rw [hone];unfold Oe;rw [if_neg zo,hcn];rfl) I a' (zAC _) hlt h2 hdr))
   |exact zAE (L1++(b,LBo s a' (.slice aw wordsL.length kw))::L2) (zAA (hok ⟨1,a,tx,0⟩ _ (by rw [hone];unfold Oe;rw [if_neg zo,hcn];rfl) I a' (zAC _) hlt h2 hdr))
 have hl:DV c=false:=by simpa using hl
 refine call (KE c ?_);refine AL (λhg=>?_) (λhg=>?_)
 ·repeat' (first|refine zqa ?_|refine zqh (λ_=>?_)|refine zqr ?_|refine zqb ?_|refine zqi ?_ ?_|refine zqc ?_|refine zqg (λ_=>?_) (λ_=>?_)|refine zqe ?_|fail)
  refine call (Og (s:=s) (a:=a) (w:=.slice aw wordsL.length kw) ACZ (zbu ha) hs (λa' h1 h2 hdr=>?_));have hlt:=Un hd hg h1 hdr;have htl:((s.drop a).takeWhile CG).length≤900000000:=zaC (List.takeWhile_prefix _).length_le zu;have hasc:∀d∈(s.drop a).takeWhile CG,d.toNat < 128:=λd hd=>AIl d (Dz hd);have hdig:∀d∈(s.drop a).takeWhile CG,CG d=true:=λd hd=>Dz hd;have hone:Iz a (s.drop a)=match Px ((s.drop a).takeWhile CG) 0 with
   |none=>.bad 172
   |some k=>if ((s.drop a).dropWhile CG).head?.any DV then .bad 172 else .tok ⟨3,a,[],k⟩ ((s.drop a).dropWhile CG):=by
   rw [hd];simp only [Iz];rw [if_neg (by rw [hl];decide),if_pos hg];cases Px (List.takeWhile CG (c::List.drop (a+1) s)) 0 <;> rfl
  generalize (s.drop a).takeWhile CG=ds at hone hasc hdig htl ⊢;refine ⟨⟨ds.toArray⟩,rfl,λb2=>zAA ?_⟩;refine loop (λm st I2 Lx=>∃(j:Nat) (n:Int),j+m=ds.length∧I2=I∧st=(.int .i64 0,())∧Lx=(b2,.stringIter ⟨ds.toArray⟩ j)::(bt,.cells [.int .i64 3,.int .i64 (a:Nat),.string ⟨#[]⟩,.int .i64 n].toArray 247 (0,0))::(b1,.cells [.int .i64 0,.int .i64 0,.string ⟨#[]⟩,.int .i64 0].toArray 247 (0,0))::(L1++(b,LBo s a' (.slice aw wordsL.length kw))::L2)∧0≤n∧n≤9223372036854775807∧Px ds 0=Px (ds.drop j) n) ds.length ⟨0,0,by omega,rfl,rfl,rfl,by omega,by omega,rfl⟩ ?_;rintro m st I2 Lx ⟨j,n,hj,rfl,rfl,rfl,hn0,hn1,hm⟩;unfold AAE;refine UO (L1:=[]) hasc (λd hdj hda=>zAA ?_) (λhe=>zAA ?_)
  ·obtain ⟨hjl,hje⟩:=zaj.1 hdj;have hdg:=hdig d (hje ▸ zar hjl);simp only [CG,zQ,decide_eq_true_eq] at hdg;have g1:(48:Nat)≤d.toNat:=hdg.1;have g2:d.toNat≤57:=hdg.2;have hdd:ds.drop j=d::ds.drop (j+1):=by rw [zab hjl,hje]
   rw [hdd] at hm;simp only [Px] at hm;have e1:IntKind.i32.wrap ((d.toNat:Int) - 48)=(d.toNat:Int) - 48:=IntWalk.i32_in _ zo;have e2:IntKind.i64.wrap ((d.toNat:Int) - 48)=(d.toNat:Int) - 48:=wrap_i64 _ zo;have e3:IntKind.i64.wrap (9223372036854775807 - ((d.toNat:Int) - 48))=9223372036854775807 - ((d.toNat:Int) - 48):=wrap_i64 _ zo;have e4:AA .quo (.int .i64 (9223372036854775807 - ((d.toNat:Int) - 48))) (.int .i64 10)=some (.int .i64 ((9223372036854775807 - ((d.toNat:Int) - 48)) / 10)):=by
    rw [AHN _ _ .i64 zx,Int.tdiv_eq_ediv_of_nonneg zo,wrap_i64 _ zo]
   repeat' (first|refine zqa ?_|refine zqh (λ_=>?_)|refine zqr ?_|refine zqb ?_|refine zqi ?_ ?_|refine zqc ?_|refine zqg (λ_=>?_) (λ_=>?_)|(simp only [SSd,Nat.reduceAdd,e1,e2,e3,e4]))
   ·rename_i hgt
    have hgt:=of_decide_eq_true hgt;rw [if_pos hgt] at hm;exact zAE (L1++(b,LBo s a' (.slice aw wordsL.length kw))::L2) (zAA ((hbad 172 (by rw [hone,hm])).2 I2 a' _ _ _ (zAC _)))
   ·rename_i hgt
    have hgt:=of_decide_eq_false hgt;rw [if_neg hgt] at hm;have hle:n≤(9223372036854775807 - ((d.toNat:Int) - 48)) / 10:=by omega
    have e5:IntKind.i64.wrap (10 * n)=10 * n:=wrap_i64 _ zo;have e6:IntKind.i64.wrap (10 * n+((d.toNat:Int) - 48))=10 * n+((d.toNat:Int) - 48):=wrap_i64 _ zo;rw [e5,e6];exact zAA ⟨m - 1,by omega,j+1,10 * n+((d.toNat:Int) - 48),by omega,rfl,trivial,rfl,by omega,by omega,hm⟩
  ·try refine zqe ?_
   have hjn:ds.drop j=[]:=zan he;rw [hjn] at hm;have hm:Px ds 0=some n:=hm;simp only [hm] at hone;unfold AAD;refine Ci ?_;try refine zqe ?_
   refine BJ ?_;try refine zqe ?_
   refine BJ ?_;try refine zqe ?_
   refine BX (λhb=>?_) (λhb=>?_)
   ·have hb:a' < s.length:=by
     have:=of_decide_eq_true hb;omega
    obtain ⟨c2,hc2,hd2⟩:=QP hb;refine BJ ?_;try refine zqe ?_
    refine BJ ?_;simp only [ixS s hc2,SSd,Nat.reduceAdd];refine call (JD c2 ?_);have hany:((s.drop a).dropWhile CG).head?.any DV=DV c2:=by rw [←hdr,hd2];rfl
    rw [hany] at hone;refine AL (λhl2=>?_) (λhl2=>?_)
    ·unfold AAC;repeat' (first|refine zqa ?_|refine zqh (λ_=>?_)|refine zqr ?_|refine zqb ?_|refine zqi ?_ ?_|refine zqc ?_|refine zqg (λ_=>?_) (λ_=>?_)|refine zqe ?_|fail)
     exact zAE (L1++(b,LBo s a' (.slice aw wordsL.length kw))::L2) (zAA ((hbad 172 (by rw [hone,if_pos hl2])).2 I2 a' _ _ _ (zAC _)))
    ·unfold OM;repeat' (first|refine zqa ?_|refine zqh (λ_=>?_)|refine zqr ?_|refine zqb ?_|refine zqi ?_ ?_|refine zqc ?_|refine zqg (λ_=>?_) (λ_=>?_)|refine zqe ?_|fail)
     exact zAE (L1++(b,LBo s a' (.slice aw wordsL.length kw))::L2) (zAA (hok ⟨3,a,[],n⟩ _ (by rw [hone,if_neg (by simpa using hl2)]) I2 a' (zAC _) hlt h2 hdr))
   ·have hb:¬a' < s.length:=by
     have hb:¬((a':Int) < s.length):=by simpa using hb
     omega
    have hany:((s.drop a).dropWhile CG).head?.any DV=false:=by
     rw [←hdr,zan zo];rfl
    rw [hany] at hone;unfold OM;repeat' (first|refine zqa ?_|refine zqh (λ_=>?_)|refine zqr ?_|refine zqb ?_|refine zqi ?_ ?_|refine zqc ?_|refine zqg (λ_=>?_) (λ_=>?_)|refine zqe ?_|fail)
    exact zAE (L1++(b,LBo s a' (.slice aw wordsL.length kw))::L2) (zAA (hok ⟨3,a,[],n⟩ _ (by rw [hone];rfl) I2 a' (zAC _) hlt h2 hdr))
 ·have hg:CG c=false:=by simpa using hg
  have hone:Iz a (s.drop a)=if c==34||c==39 then (match Ff c (s.drop (a+1)) with
   |none=>.bad 173
   |some (x,r')=>if c==34 then (if x.isEmpty||decide (63 < x.length) then .bad 173 else .tok ⟨1,a,x,0⟩ r') else .tok ⟨4,a,x,0⟩ r') else
   match Ou (s.drop a) with
   |none=>.bad 171
   |some x=>.tok ⟨5,a,if x=[33,61] then [60,62] else x,0⟩ ((s.drop a).drop x.length):=by
   rw [hd];simp only [Iz];rw [if_neg (by rw [hl];decide),if_neg (by rw [hg];decide)];split
   ·cases Ff c (s.drop (a+1)) <;> rfl
   ·cases Ou (c::s.drop (a+1)) <;> rfl
  have e34:((c.toNat:Int)==34)=(c==34):=Ur c 34;have e39:((c.toNat:Int)==39)=(c==39):=Ur c 39;simp only [e34,e39,SSd,Nat.reduceAdd];have quo:(c==34||c==39)=true→Ik ω (Ac b) (Ac b1) (.int .i64 0) (Ac bt) (.int .u8 c.toNat) (.bool true) (λv=>Gh (K v)) I ((bt,.cells [.int .i64 0,.int .i64 (a:Nat),.string ⟨#[]⟩,.int .i64 0].toArray 247 (0,0))::(b1,.cells [.int .i64 0,.int .i64 0,.string ⟨#[]⟩,.int .i64 0].toArray 247 (0,0))::(L1++(b,LBo s a (.slice aw wordsL.length kw))::L2)):=by
   intro hq;rw [if_pos hq] at hone;have hc0:c≠0:=by rintro rfl;simp at hq
   unfold Ik;try refine zqe ?_
   refine call (VY (s:=s) (a:=a) (w:=.slice aw wordsL.length kw) c hc0 ha hs (λhn x=>?_) (λx r hy a' h1 h2 hdr=>?_))
   ·rw [hn] at hone;repeat' (first|refine zqa ?_|refine zqh (λ_=>?_)|refine zqr ?_|refine zqb ?_|(with_reducible first|refine BI (sh184_11.eq_1 ..) ?_|refine BI (sh184_3.eq_1 ..) ?_|refine And.intro ?_ ?_)|refine zqc ?_|refine zqg (λ_=>?_) (λ_=>?_)|(simp only [SSd,Nat.reduceAdd,e34]))
    all_goals exact zAE (L1++(b,LBo s a (.slice aw wordsL.length kw))::L2) (zAA ((hbad 173 hone).2 I a _ _ _ (zAC _)))
   ·rw [hy] at hone;simp only at hone
    repeat' (first|refine zqa ?_|refine zqh (λ_=>?_)|refine zqr ?_|refine zqb ?_|(with_reducible first|refine BI (sh184_11.eq_1 ..) ?_|refine BI (sh184_3.eq_1 ..) ?_|refine And.intro ?_ ?_)|refine zqc ?_|refine zqg (λ_=>?_) (λ_=>?_)|(simp only [SSd,Nat.reduceAdd,e34]))
    all_goals clear hw
    all_goals first
     |exact zAE (L1++(b,LBo s a' (.slice aw wordsL.length kw))::L2) (zAA ((hbad 173 (by rw [hone];first|(clear hok hbad;simp_all [zbf];done)|(clear hok hbad;simp_all [zbf] <;> omega))).2 I a' _ _ _ (zAC _)))
     |exact zAE (L1++(b,LBo s a' (.slice aw wordsL.length kw))::L2) (zAA (hok ⟨1,a,x,0⟩ _ (by rw [hone];first|(clear hok hbad;simp_all [zbf];done)|(clear hok hbad;simp_all [zbf] <;> omega)) I a' (zAC _) h1 h2 hdr))
     |exact zAE (L1++(b,LBo s a' (.slice aw wordsL.length kw))::L2) (zAA (hok ⟨4,a,x,0⟩ _ (by rw [hone];first|(clear hok hbad;simp_all [zbf];done)|(clear hok hbad;simp_all [zbf] <;> omega)) I a' (zAC _) h1 h2 hdr))
  refine AL (λh34=>?_) (λh34=>?_)
  ·rw [show (c==34)=true from h34];exact quo (by simp [show (c==34)=true from h34])
  have h34:(c==34)=false:=by simpa using h34
  cases h39:(c==39) with
  |true=>exact quo (by simp [h39])
  |false=>
   rw [h34,h39] at hone;simp only [Bool.or_self,zl,if_false] at hone;unfold Ik;try refine zqe ?_
   refine rdB rfl ?_;refine call (ABf (s:=s) (a:=a) (w:=.slice aw wordsL.length kw) ha hs a (λhn I' hI'=>?_) (λx hx hle I' hI'=>?_))
   ·rw [hn] at hone;simp only at hone
    repeat' (first|refine zqa ?_|refine zqh (λ_=>?_)|refine zqr ?_|refine zqb ?_|refine zqi ?_ ?_|refine zqc ?_|refine zqg (λ_=>?_) (λ_=>?_)|refine zqe ?_|fail)
    exact zAE (L1++(b,LBo s a (.slice aw wordsL.length kw))::L2) (zAA ((hbad 171 hone).2 I' a _ _ _ hI'))
   ·rw [hx] at hone;simp only at hone
    have hx0:0 < x.length:=by
     have:x∈signsL:=List.mem_of_find?_eq_some hx;simp only [signsL,zK,zaG,or_false] at this;rcases this with rfl|rfl|rfl|rfl|rfl|rfl|rfl|rfl|rfl|rfl|rfl|rfl|rfl|rfl|rfl|rfl|rfl|rfl <;> decide
    repeat' (first|refine zqa ?_|refine zqh (λ_=>?_)|refine zqr ?_|refine zqb ?_|refine zqi ?_ ?_|refine zqc ?_|refine zqg (λ_=>?_) (λ_=>?_)|refine zqe ?_|fail)
    exact zAE (L1++(b,LBo s (a+x.length) (.slice aw wordsL.length kw))::L2) (zAA (hok _ _ hone I' (a+x.length) hI' zo hle (by rw [zbs])))
end
theorem CalVP.mono {P:Program}{ω:Om}{x:Value}{args:Array Value}{K K' Pn Pn':Value→M}{I:Imm}{L:LH}(h:CalVP P ω x args K Pn I L)(hk:∀v I' L',K v I' L'→K' v I' L')(hp:∀v I' L',Pn v I' L'→Pn' v I' L'):CalVP P ω x args K' Pn' I L:=by
 unfold CalVP at *;cases x with
 |func f first cap=>
  cases f with
  |func f=>
   simp only at h ⊢
   cases he:CU P f with
   |true=>simp only [he,if_true] at h ⊢;exact CalP.mono h hk hp
   |false=>
    simp only [he,if_false,zl] at h ⊢;cases hx:QO P f with
    |some e=>simp only [hx] at h ⊢;intro w hs;obtain ⟨v,w',I',L',h1,h2,h3⟩:=h w hs;exact ⟨v,w',I',L',h1,h2,hk _ _ _ h3⟩
    |none=>simp only [hx] at h;exact h.elim
  |yield l=>
   intro w hs;obtain ⟨f,tmps,assign,body,h1,h2⟩:=h w hs;exact ⟨f,tmps,assign,body,h1,RoundIn.mono h2 λe w' ⟨v,I',L',h1,h2,h3⟩=>⟨v,I',L',h1,h2,hk _ _ _ h3⟩⟩
  |_=>exact h.elim
 |_=>exact h.elim
theorem Ef {P:Program}{ω:Om}{x:Value}{args:Array Value}{K Pn:Value→M}{I:Imm}{L:LH}(h:CalVP P ω x args K Pn I L):CalVP P ω x args (SL.gh K) Pn I L:=CalVP.mono h (λ_ _ _ h=>zAA h) (λ_ _ _ h=>h)
theorem Lc {P:Program}{ω:Om}{f:Nat}{first cap args:Array Value}{K Pn:Value→M}{I:Imm}{L:LH}(he:CU P f=true)(h:CalP P ω f (first++args++cap) K Pn I L):CalVP P ω (.func (.func f) first cap) args K Pn I L:=by
 unfold CalVP;simp only [he,if_true];exact h
def XE {α:Type}(R:Imm→α→List Value→Prop)(I:Imm)(x:α)(v:Value):Prop:=∃c,v= .agg c.toArray∧R I x c
def APG (_:Imm)(x:Bs)(v:Value):Prop:=v= .string ⟨x.toArray⟩
def ARs {α:Type}(R:Imm→α→List Value→Prop)(n:Nat)(I:Imm)(x:List α)(v:Value):Prop:=RL R n I [] v x
def OneP {α:Type}(ω:Om)(n b:Nat)(g:Pr α)(V:Imm→α→Value→Prop)(fv:Value)(I0:Imm):Prop:=
 ∀(K Pn:Value→M) (I:Imm) (L:LH) (C:Obj→LH) (v:Value) (l:List Tok),Foc b L (PBo v) C→Ext I0 I→TL I v l→Toks l→l.length≤n→POk (g l) V l.length K C I→PEr (g l) Pn C I→CalVP Tryz.prog ω fv #[] K Pn I L
theorem FC {α:Type}{R:Imm→α→List Value→Prop}{n:Nat}{I:Imm}{v:Value}{xs:List α}(h:RL R n I [] v xs):∃v',Bi n v none (some (.int .i64 xs.length)) (some (.int .i64 xs.length))=some v'∧RL R n I [] v' xs:=by
 obtain ⟨a',h1,h2⟩:=RL.clip h (zh _);rw [List.take_length] at h2;exact ⟨_,h1,h2⟩
section
variable {ω:Om}{I:Imm}{L:LH}{K Pn:Value→M}{C:Obj→LH}{b:Nat}{v:Value}{l:List Tok}
theorem AMm {w:Value}{xs:List (Ex)}(hw:RL ExV 11 I [] w xs)(hk:∀w',RL ExV 11 I [] w' xs→K w' I L):CT ω 259 #[w] K I L:=by
 refine ANJ ?_;unfold AJa;obtain ⟨w',h1,h2⟩:=FC hw;simp only [zAK hw,h1,SSd,Nat.reduceAdd];exact zAA (hk w' h2)
theorem ADO (n:Nat)(hn0:n≤1000000000){g:Pr (Ex)}{fv:Value}(hone:OneP ω n b g (XE ExV) fv I)[hF:Foc b L (PBo v) C](h:TL I v l)(hT:Toks l)(hl:l.length≤n)
  (hok:POk (BR n g l) (λI x v=>RL ExV 11 I [] v x∧x.length≤l.length) l.length K C I) (herr:PEr (BR n g l) Pn C I):CalP Tryz.prog ω 226 #[Ac b,fv] K Pn I L:=by
 obtain ⟨L1,L2,rfl,rfl⟩:=hF.foc;refine ANj ?_;unfold AJu;refine Ef (hone _ _ I _ _ v l inferInstance (zAC _) h hT hl ?_ ?_)
 ·rintro x r hg hT1 hr I1 v1 c hI1 hTL1 hc;obtain ⟨cx,rfl,hx⟩:=hc;refine Bh rfl zo (by simpa [Value.cells] using ExV.len hx) (λX u hX=>?_);refine loop (λm s I2 Lx=>∃X v2 l2 w cells xs f,l2.length=m∧s=(w,())∧Ext I I2∧Lx=X++(L1++(b,PBo v2)::L2)∧TL I2 v2 l2∧Toks l2∧SlO 65 11 X w cells xs.length∧Recs (ExV I2) 11 xs cells∧l2.length≤f∧0 < xs.length∧xs.length+l2.length≤l.length+1∧BR n g l=DD g f xs l2) r.length
   ⟨X,v1,r,u,_,[x],n,rfl,rfl,hI1,rfl,hTL1,hT1,hX,(by simpa [Value.cells] using Recs.one (ExV.len hx) hx),by omega,by simp,by simp;omega,by simp only [BR,hg,Res.bind]⟩ ?_
  rintro m s I2 Lx ⟨X,v2,l2,w,cells,xs,f,rfl,rfl,hI2,rfl,hTL2,hT2,hX,hR,hf,hpos,hlen,hm⟩;unfold ZF;refine Ai (ER [44] hTL2 hT2 (λhb v3 hv3=>?_) (λhb=>?_))
  ·try refine zqe ?_
   have hl2:=hT2.len;obtain ⟨f,rfl⟩:∃k,f=k+1:=⟨f - 1,by omega⟩;simp only [DD,hb,if_true] at hm;refine Ef (hone _ _ I2 _ _ v3 l2.tail inferInstance hI2 hv3 (hT2.tailT hb) zo ?_ ?_)
   ·rintro y r3 hg3 hT3 hr3 I3 v4 c hI3 hTL3 hc;have hR:=Recs.imp (R':=ExV I3) (λ_ _ h=>ExV.mono hI3 h) hR;obtain ⟨cy,rfl,hy⟩:=hc;refine GX (X6:=X) rfl zo hX hR hy (ExV.len hy) (ExV.one hy) zo zo (λX1 X6 w6 cells6 hX6 hR6=>zAE (X6++(L1++(b,PBo v4)::L2)) (zAA ⟨r3.length,by omega,X6,v4,r3,w6,cells6,xs++[y],f,rfl,rfl,zAB hI2 hI3,rfl,hTL3,hT3,hX6,hR6,by omega,by simp,by simp;omega,?_⟩));rw [hm];simp only [hg3,Res.bind]
   ·rintro e hg3 I3 v4 hI3;exact zAE (L1++(b,PBo v4)::L2) (herr e (by rw [hm];simp only [hg3,Res.bind]) I3 v4 (zAB hI2 hI3) |> zAA)
  ·try refine zqe ?_
   unfold ZE;refine CalP.pre (RL.ofO (R:=ExV) (λ{I I' x c} h hI=>ExV.mono hI h) hX hR (λI3 hI3 hw=>zAA ?_));refine Ai (AMm hw (λw' hw'=>?_));have hl2:=hT2.len;refine zAA (hok xs l2 ?_ hT2 ?_ I3 v2 w' (zAB hI2 hI3) (hTL2.mono hI3) ⟨hw',by omega⟩)
   ·rw [hm];cases f with
    |zero=>rfl
    |succ f=>simp [DD,hb]
   ·omega
 ·rintro e hg I1 v1 hI1;exact zAA (herr e (by simp only [BR,hg,Res.bind]) I1 v1 hI1)
theorem AMl {w:Value}{xs:List (TItem)}(hw:RL TItemV 14 I [] w xs)(hk:∀w',RL TItemV 14 I [] w' xs→K w' I L):CT ω 256 #[w] K I L:=by
 refine ANM ?_;unfold AJc;obtain ⟨w',h1,h2⟩:=FC hw;simp only [zAK hw,h1,SSd,Nat.reduceAdd];exact zAA (hk w' h2)
theorem ALs (n:Nat)(hn0:n≤1000000000){g:Pr (TItem)}{fv:Value}(hone:OneP ω n b g (XE TItemV) fv I)[hF:Foc b L (PBo v) C](h:TL I v l)(hT:Toks l)(hl:l.length≤n)
  (hok:POk (BR n g l) (λI x v=>RL TItemV 14 I [] v x∧x.length≤l.length) l.length K C I) (herr:PEr (BR n g l) Pn C I):CalP Tryz.prog ω 223 #[Ac b,fv] K Pn I L:=by
 obtain ⟨L1,L2,rfl,rfl⟩:=hF.foc;refine ANm ?_;unfold AJw;refine Ef (hone _ _ I _ _ v l inferInstance (zAC _) h hT hl ?_ ?_)
 ·rintro x r hg hT1 hr I1 v1 c hI1 hTL1 hc;obtain ⟨cx,rfl,hx⟩:=hc;refine Bh rfl zo (by simpa [Value.cells] using TItemV.len hx) (λX u hX=>?_);refine loop (λm s I2 Lx=>∃X v2 l2 w cells xs f,l2.length=m∧s=(w,())∧Ext I I2∧Lx=X++(L1++(b,PBo v2)::L2)∧TL I2 v2 l2∧Toks l2∧SlO 162 14 X w cells xs.length∧Recs (TItemV I2) 14 xs cells∧l2.length≤f∧0 < xs.length∧xs.length+l2.length≤l.length+1∧BR n g l=DD g f xs l2) r.length
   ⟨X,v1,r,u,_,[x],n,rfl,rfl,hI1,rfl,hTL1,hT1,hX,(by simpa [Value.cells] using Recs.one (TItemV.len hx) hx),by omega,by simp,by simp;omega,by simp only [BR,hg,Res.bind]⟩ ?_
  rintro m s I2 Lx ⟨X,v2,l2,w,cells,xs,f,rfl,rfl,hI2,rfl,hTL2,hT2,hX,hR,hf,hpos,hlen,hm⟩;unfold ZH;refine Ai (ER [44] hTL2 hT2 (λhb v3 hv3=>?_) (λhb=>?_))
  ·try refine zqe ?_
   have hl2:=hT2.len;obtain ⟨f,rfl⟩:∃k,f=k+1:=⟨f - 1,by omega⟩;simp only [DD,hb,if_true] at hm;refine Ef (hone _ _ I2 _ _ v3 l2.tail inferInstance hI2 hv3 (hT2.tailT hb) zo ?_ ?_)
   ·rintro y r3 hg3 hT3 hr3 I3 v4 c hI3 hTL3 hc;have hR:=Recs.imp (R':=TItemV I3) (λ_ _ h=>TItemV.mono h hI3) hR;obtain ⟨cy,rfl,hy⟩:=hc;refine GX (X6:=X) rfl zo hX hR hy (TItemV.len hy) (TItemV.one hy) zo zo (λX1 X6 w6 cells6 hX6 hR6=>zAE (X6++(L1++(b,PBo v4)::L2)) (zAA ⟨r3.length,by omega,X6,v4,r3,w6,cells6,xs++[y],f,rfl,rfl,zAB hI2 hI3,rfl,hTL3,hT3,hX6,hR6,by omega,by simp,by simp;omega,?_⟩));rw [hm];simp only [hg3,Res.bind]
   ·rintro e hg3 I3 v4 hI3;exact zAE (L1++(b,PBo v4)::L2) (herr e (by rw [hm];simp only [hg3,Res.bind]) I3 v4 (zAB hI2 hI3) |> zAA)
  ·try refine zqe ?_
   unfold ZG;refine CalP.pre (RL.ofO (R:=TItemV) (λ{I I' x c} h hI=>TItemV.mono h hI) hX hR (λI3 hI3 hw=>zAA ?_));refine Ai (AMl hw (λw' hw'=>?_));have hl2:=hT2.len;refine zAA (hok xs l2 ?_ hT2 ?_ I3 v2 w' (zAB hI2 hI3) (hTL2.mono hI3) ⟨hw',by omega⟩)
   ·rw [hm];cases f with
    |zero=>rfl
    |succ f=>simp [DD,hb]
   ·omega
 ·rintro e hg I1 v1 hI1;exact zAA (herr e (by simp only [BR,hg,Res.bind]) I1 v1 hI1)
theorem AMj {w:Value}{xs:List (TOrder)}(hw:RL TOrderV 12 I [] w xs)(hk:∀w',RL TOrderV 12 I [] w' xs→K w' I L):CT ω 262 #[w] K I L:=by
 refine ANG ?_;unfold AJX;obtain ⟨w',h1,h2⟩:=FC hw;simp only [zAK hw,h1,SSd,Nat.reduceAdd];exact zAA (hk w' h2)
theorem ALq (n:Nat)(hn0:n≤1000000000){g:Pr (TOrder)}{fv:Value}(hone:OneP ω n b g (XE TOrderV) fv I)[hF:Foc b L (PBo v) C](h:TL I v l)(hT:Toks l)(hl:l.length≤n)
  (hok:POk (BR n g l) (λI x v=>RL TOrderV 12 I [] v x∧x.length≤l.length) l.length K C I) (herr:PEr (BR n g l) Pn C I):CalP Tryz.prog ω 228 #[Ac b,fv] K Pn I L:=by
 obtain ⟨L1,L2,rfl,rfl⟩:=hF.foc;refine ANh ?_;unfold AJs;refine Ef (hone _ _ I _ _ v l inferInstance (zAC _) h hT hl ?_ ?_)
 ·rintro x r hg hT1 hr I1 v1 c hI1 hTL1 hc;obtain ⟨cx,rfl,hx⟩:=hc;refine Bh rfl zo (by simpa [Value.cells] using TOrderV.len hx) (λX u hX=>?_);refine loop (λm s I2 Lx=>∃X v2 l2 w cells xs f,l2.length=m∧s=(w,())∧Ext I I2∧Lx=X++(L1++(b,PBo v2)::L2)∧TL I2 v2 l2∧Toks l2∧SlO 166 12 X w cells xs.length∧Recs (TOrderV I2) 12 xs cells∧l2.length≤f∧0 < xs.length∧xs.length+l2.length≤l.length+1∧BR n g l=DD g f xs l2) r.length
   ⟨X,v1,r,u,_,[x],n,rfl,rfl,hI1,rfl,hTL1,hT1,hX,(by simpa [Value.cells] using Recs.one (TOrderV.len hx) hx),by omega,by simp,by simp;omega,by simp only [BR,hg,Res.bind]⟩ ?_
  rintro m s I2 Lx ⟨X,v2,l2,w,cells,xs,f,rfl,rfl,hI2,rfl,hTL2,hT2,hX,hR,hf,hpos,hlen,hm⟩;unfold ZA;refine Ai (ER [44] hTL2 hT2 (λhb v3 hv3=>?_) (λhb=>?_))
  ·try refine zqe ?_
   have hl2:=hT2.len;obtain ⟨f,rfl⟩:∃k,f=k+1:=⟨f - 1,by omega⟩;simp only [DD,hb,if_true] at hm;refine Ef (hone _ _ I2 _ _ v3 l2.tail inferInstance hI2 hv3 (hT2.tailT hb) zo ?_ ?_)
   ·rintro y r3 hg3 hT3 hr3 I3 v4 c hI3 hTL3 hc;have hR:=Recs.imp (R':=TOrderV I3) (λ_ _ h=>TOrderV.mono h hI3) hR;obtain ⟨cy,rfl,hy⟩:=hc;refine GX (X6:=X) rfl zo hX hR hy (TOrderV.len hy) (TOrderV.one hy) zo zo (λX1 X6 w6 cells6 hX6 hR6=>zAE (X6++(L1++(b,PBo v4)::L2)) (zAA ⟨r3.length,by omega,X6,v4,r3,w6,cells6,xs++[y],f,rfl,rfl,zAB hI2 hI3,rfl,hTL3,hT3,hX6,hR6,by omega,by simp,by simp;omega,?_⟩));rw [hm];simp only [hg3,Res.bind]
   ·rintro e hg3 I3 v4 hI3;exact zAE (L1++(b,PBo v4)::L2) (herr e (by rw [hm];simp only [hg3,Res.bind]) I3 v4 (zAB hI2 hI3) |> zAA)
  ·try refine zqe ?_
   unfold Yz;refine CalP.pre (RL.ofO (R:=TOrderV) (λ{I I' x c} h hI=>TOrderV.mono h hI) hX hR (λI3 hI3 hw=>zAA ?_));refine Ai (AMj hw (λw' hw'=>?_));have hl2:=hT2.len;refine zAA (hok xs l2 ?_ hT2 ?_ I3 v2 w' (zAB hI2 hI3) (hTL2.mono hI3) ⟨hw',by omega⟩)
   ·rw [hm];cases f with
    |zero=>rfl
    |succ f=>simp [DD,hb]
   ·omega
 ·rintro e hg I1 v1 hI1;exact zAA (herr e (by simp only [BR,hg,Res.bind]) I1 v1 hI1)
theorem AMg {w:Value}{xs:List (TSet)}(hw:RL TSetV 12 I [] w xs)(hk:∀w',RL TSetV 12 I [] w' xs→K w' I L):CT ω 235 #[w] K I L:=by
 refine ANa ?_;unfold AJn;obtain ⟨w',h1,h2⟩:=FC hw;simp only [zAK hw,h1,SSd,Nat.reduceAdd];exact zAA (hk w' h2)
theorem ALo (n:Nat)(hn0:n≤1000000000){g:Pr (TSet)}{fv:Value}(hone:OneP ω n b g (XE TSetV) fv I)[hF:Foc b L (PBo v) C](h:TL I v l)(hT:Toks l)(hl:l.length≤n)
  (hok:POk (BR n g l) (λI x v=>RL TSetV 12 I [] v x∧x.length≤l.length) l.length K C I) (herr:PEr (BR n g l) Pn C I):CalP Tryz.prog ω 192 #[Ac b,fv] K Pn I L:=by
 obtain ⟨L1,L2,rfl,rfl⟩:=hF.foc;refine AOD ?_;unfold AKL;refine Ef (hone _ _ I _ _ v l inferInstance (zAC _) h hT hl ?_ ?_)
 ·rintro x r hg hT1 hr I1 v1 c hI1 hTL1 hc;obtain ⟨cx,rfl,hx⟩:=hc;refine Bh rfl zo (by simpa [Value.cells] using TSetV.len hx) (λX u hX=>?_);refine loop (λm s I2 Lx=>∃X v2 l2 w cells xs f,l2.length=m∧s=(w,())∧Ext I I2∧Lx=X++(L1++(b,PBo v2)::L2)∧TL I2 v2 l2∧Toks l2∧SlO 128 12 X w cells xs.length∧Recs (TSetV I2) 12 xs cells∧l2.length≤f∧0 < xs.length∧xs.length+l2.length≤l.length+1∧BR n g l=DD g f xs l2) r.length
   ⟨X,v1,r,u,_,[x],n,rfl,rfl,hI1,rfl,hTL1,hT1,hX,(by simpa [Value.cells] using Recs.one (TSetV.len hx) hx),by omega,by simp,by simp;omega,by simp only [BR,hg,Res.bind]⟩ ?_
  rintro m s I2 Lx ⟨X,v2,l2,w,cells,xs,f,rfl,rfl,hI2,rfl,hTL2,hT2,hX,hR,hf,hpos,hlen,hm⟩;unfold ZY;refine Ai (ER [44] hTL2 hT2 (λhb v3 hv3=>?_) (λhb=>?_))
  ·try refine zqe ?_
   have hl2:=hT2.len;obtain ⟨f,rfl⟩:∃k,f=k+1:=⟨f - 1,by omega⟩;simp only [DD,hb,if_true] at hm;refine Ef (hone _ _ I2 _ _ v3 l2.tail inferInstance hI2 hv3 (hT2.tailT hb) zo ?_ ?_)
   ·rintro y r3 hg3 hT3 hr3 I3 v4 c hI3 hTL3 hc;have hR:=Recs.imp (R':=TSetV I3) (λ_ _ h=>TSetV.mono h hI3) hR;obtain ⟨cy,rfl,hy⟩:=hc;refine GX (X6:=X) rfl zo hX hR hy (TSetV.len hy) (TSetV.one hy) zo zo (λX1 X6 w6 cells6 hX6 hR6=>zAE (X6++(L1++(b,PBo v4)::L2)) (zAA ⟨r3.length,by omega,X6,v4,r3,w6,cells6,xs++[y],f,rfl,rfl,zAB hI2 hI3,rfl,hTL3,hT3,hX6,hR6,by omega,by simp,by simp;omega,?_⟩));rw [hm];simp only [hg3,Res.bind]
   ·rintro e hg3 I3 v4 hI3;exact zAE (L1++(b,PBo v4)::L2) (herr e (by rw [hm];simp only [hg3,Res.bind]) I3 v4 (zAB hI2 hI3) |> zAA)
  ·try refine zqe ?_
   unfold ZX;refine CalP.pre (RL.ofO (R:=TSetV) (λ{I I' x c} h hI=>TSetV.mono h hI) hX hR (λI3 hI3 hw=>zAA ?_));refine Ai (AMg hw (λw' hw'=>?_));have hl2:=hT2.len;refine zAA (hok xs l2 ?_ hT2 ?_ I3 v2 w' (zAB hI2 hI3) (hTL2.mono hI3) ⟨hw',by omega⟩)
   ·rw [hm];cases f with
    |zero=>rfl
    |succ f=>simp [DD,hb]
   ·omega
 ·rintro e hg I1 v1 hI1;exact zAA (herr e (by simp only [BR,hg,Res.bind]) I1 v1 hI1)
theorem AMh {w:Value}{xs:List (Bs)}(hw:RL StrV 1 I [] w xs)(hk:∀w',RL StrV 1 I [] w' xs→K w' I L):CT ω 273 #[w] K I L:=by
 refine AMy ?_;unfold AJR;obtain ⟨w',h1,h2⟩:=FC hw;simp only [zAK hw,h1,SSd,Nat.reduceAdd];exact zAA (hk w' h2)
theorem ALp (n:Nat)(hn0:n≤1000000000){g:Pr (Bs)}{fv:Value}(hone:OneP ω n b g (APG) fv I)[hF:Foc b L (PBo v) C](h:TL I v l)(hT:Toks l)(hl:l.length≤n)
  (hok:POk (BR n g l) (λI x v=>RL StrV 1 I [] v x∧x.length≤l.length) l.length K C I) (herr:PEr (BR n g l) Pn C I):CalP Tryz.prog ω 263 #[Ac b,fv] K Pn I L:=by
 obtain ⟨L1,L2,rfl,rfl⟩:=hF.foc;refine ANF ?_;unfold AJW;refine Ef (hone _ _ I _ _ v l inferInstance (zAC _) h hT hl ?_ ?_)
 ·rintro x r hg hT1 hr I1 v1 c hI1 hTL1 hc;obtain rfl:=hc;refine Bh rfl zo rfl (λX u hX=>?_);refine loop (λm s I2 Lx=>∃X v2 l2 w cells xs f,l2.length=m∧s=(w,())∧Ext I I2∧Lx=X++(L1++(b,PBo v2)::L2)∧TL I2 v2 l2∧Toks l2∧SlO 9 1 X w cells xs.length∧Recs (StrV I2) 1 xs cells∧l2.length≤f∧0 < xs.length∧xs.length+l2.length≤l.length+1∧BR n g l=DD g f xs l2) r.length
   ⟨X,v1,r,u,_,[x],n,rfl,rfl,hI1,rfl,hTL1,hT1,hX,(by simpa [Value.cells] using Recs.one (R:=StrV I1) rfl rfl),by omega,by simp,by simp;omega,by simp only [BR,hg,Res.bind]⟩ ?_
  rintro m s I2 Lx ⟨X,v2,l2,w,cells,xs,f,rfl,rfl,hI2,rfl,hTL2,hT2,hX,hR,hf,hpos,hlen,hm⟩;unfold Yr;refine Ai (ER [44] hTL2 hT2 (λhb v3 hv3=>?_) (λhb=>?_))
  ·try refine zqe ?_
   have hl2:=hT2.len;obtain ⟨f,rfl⟩:∃k,f=k+1:=⟨f - 1,by omega⟩;simp only [DD,hb,if_true] at hm;refine Ef (hone _ _ I2 _ _ v3 l2.tail inferInstance hI2 hv3 (hT2.tailT hb) zo ?_ ?_)
   ·rintro y r3 hg3 hT3 hr3 I3 v4 c hI3 hTL3 hc;have hR:=Recs.imp (R':=StrV I3) (λ_ _ h=>StrV.mono h hI3) hR;obtain rfl:=hc;refine VU (X6:=X) rfl hX hR (x:=y) rfl rfl zo zo (λX1 X6 w6 cells6 hX6 hR6=>zAE (X6++(L1++(b,PBo v4)::L2)) (zAA ⟨r3.length,by omega,X6,v4,r3,w6,cells6,xs++[y],f,rfl,rfl,zAB hI2 hI3,rfl,hTL3,hT3,hX6,hR6,by omega,by simp,by simp;omega,?_⟩));rw [hm];simp only [hg3,Res.bind]
   ·rintro e hg3 I3 v4 hI3;exact zAE (L1++(b,PBo v4)::L2) (herr e (by rw [hm];simp only [hg3,Res.bind]) I3 v4 (zAB hI2 hI3) |> zAA)
  ·try refine zqe ?_
   unfold Yq;refine CalP.pre (RL.ofO (R:=StrV) (λ{I I' x c} h hI=>StrV.mono h hI) hX hR (λI3 hI3 hw=>zAA ?_));refine Ai (AMh hw (λw' hw'=>?_));have hl2:=hT2.len;refine zAA (hok xs l2 ?_ hT2 ?_ I3 v2 w' (zAB hI2 hI3) (hTL2.mono hI3) ⟨hw',by omega⟩)
   ·rw [hm];cases f with
    |zero=>rfl
    |succ f=>simp [DD,hb]
   ·omega
 ·rintro e hg I1 v1 hI1;exact zAA (herr e (by simp only [BR,hg,Res.bind]) I1 v1 hI1)
theorem AMk {w:Value}{xs:List (List Ex)}(hw:RL (Lu ExV 11) 1 I [] w xs)(hk:∀w',RL (Lu ExV 11) 1 I [] w' xs→K w' I L):CT ω 233 #[w] K I L:=by
 refine ANc ?_;unfold AJp;obtain ⟨w',h1,h2⟩:=FC hw;simp only [zAK hw,h1,SSd,Nat.reduceAdd];exact zAA (hk w' h2)
theorem ALr (n:Nat)(hn0:n≤1000000000){g:Pr (List Ex)}{fv:Value}(hone:OneP ω n b g (ARs ExV 11) fv I)[hF:Foc b L (PBo v) C](h:TL I v l)(hT:Toks l)(hl:l.length≤n)
  (hok:POk (BR n g l) (λI x v=>RL (Lu ExV 11) 1 I [] v x∧x.length≤l.length) l.length K C I) (herr:PEr (BR n g l) Pn C I):CalP Tryz.prog ω 190 #[Ac b,fv] K Pn I L:=by
 obtain ⟨L1,L2,rfl,rfl⟩:=hF.foc;refine AOF ?_;unfold AKN;refine Ef (hone _ _ I _ _ v l inferInstance (zAC _) h hT hl ?_ ?_)
 ·rintro x r hg hT1 hr I1 v1 c hI1 hTL1 hc;obtain ⟨ax,kx,ec⟩:=zAF hc;subst ec;refine Bh rfl zo rfl (λX u hX=>?_);refine loop (λm s I2 Lx=>∃X v2 l2 w cells xs f,l2.length=m∧s=(w,())∧Ext I I2∧Lx=X++(L1++(b,PBo v2)::L2)∧TL I2 v2 l2∧Toks l2∧SlO 63 1 X w cells xs.length∧Recs ((Lu ExV 11) I2) 1 xs cells∧l2.length≤f∧0 < xs.length∧xs.length+l2.length≤l.length+1∧BR n g l=DD g f xs l2) r.length
   ⟨X,v1,r,u,_,[x],n,rfl,rfl,hI1,rfl,hTL1,hT1,hX,(by simpa [Value.cells] using Recs.one (R:=(Lu ExV 11) I1) rfl ⟨_,rfl,hc⟩),by omega,by simp,by simp;omega,by simp only [BR,hg,Res.bind]⟩ ?_
  rintro m s I2 Lx ⟨X,v2,l2,w,cells,xs,f,rfl,rfl,hI2,rfl,hTL2,hT2,hX,hR,hf,hpos,hlen,hm⟩;unfold AAA;refine Ai (ER [44] hTL2 hT2 (λhb v3 hv3=>?_) (λhb=>?_))
  ·try refine zqe ?_
   have hl2:=hT2.len;obtain ⟨f,rfl⟩:∃k,f=k+1:=⟨f - 1,by omega⟩;simp only [DD,hb,if_true] at hm;refine Ef (hone _ _ I2 _ _ v3 l2.tail inferInstance hI2 hv3 (hT2.tailT hb) zo ?_ ?_)
   ·rintro y r3 hg3 hT3 hr3 I3 v4 c hI3 hTL3 hc;have hR:=Recs.imp (R':=(Lu ExV 11) I3) (λ_ _ h=>LstX.mono h hI3) hR;obtain ⟨ax,kx,ec⟩:=zAF hc;subst ec;refine VU (X6:=X) rfl hX hR (x:=y) ⟨_,rfl,hc⟩ rfl zo zo (λX1 X6 w6 cells6 hX6 hR6=>zAE (X6++(L1++(b,PBo v4)::L2)) (zAA ⟨r3.length,by omega,X6,v4,r3,w6,cells6,xs++[y],f,rfl,rfl,zAB hI2 hI3,rfl,hTL3,hT3,hX6,hR6,by omega,by simp,by simp;omega,?_⟩));rw [hm];simp only [hg3,Res.bind]
   ·rintro e hg3 I3 v4 hI3;exact zAE (L1++(b,PBo v4)::L2) (herr e (by rw [hm];simp only [hg3,Res.bind]) I3 v4 (zAB hI2 hI3) |> zAA)
  ·try refine zqe ?_
   unfold ZZ;refine CalP.pre (RL.ofO (R:=(Lu ExV 11)) (λ{I I' x c} h hI=>LstX.mono h hI) hX hR (λI3 hI3 hw=>zAA ?_));refine Ai (AMk hw (λw' hw'=>?_));have hl2:=hT2.len;refine zAA (hok xs l2 ?_ hT2 ?_ I3 v2 w' (zAB hI2 hI3) (hTL2.mono hI3) ⟨hw',by omega⟩)
   ·rw [hm];cases f with
    |zero=>rfl
    |succ f=>simp [DD,hb]
   ·omega
 ·rintro e hg I1 v1 hI1;exact zAA (herr e (by simp only [BR,hg,Res.bind]) I1 v1 hI1)
end
abbrev EOk (g:Res Ex)(n:Nat)(K:Value→M)(C:Obj→LH)(I:Imm):Prop:=
 ∀x r,g= .ok x r→Toks r→r.length≤n→∀I' v' w,Ext I I'→TL I' v' r→ExL I' w x.args→K (.agg (Bc x w).toArray) I' (C (PBo v'))
def FnE (ω:Om)(n b f:Nat)(g:Pr Ex):Prop:=
 ∀(K Pn:Value→M) (I:Imm) (L:LH) (C:Obj→LH) (v:Value) (l:List Tok),Foc b L (PBo v) C→TL I v l→Toks l→l.length≤n→EOk (g l) l.length K C I→PEr (g l) Pn C I→CalP Tryz.prog ω f #[Ac b] K Pn I L
theorem FnE.go {ω:Om}{n b f:Nat}{g:Pr Ex}(h:FnE ω n b f g){I:Imm}{L:LH}{K Pn:Value→M}{C:Obj→LH}{v:Value}{l:List Tok}[hF:Foc b L (PBo v) C](hv:TL I v l)(hT:Toks l)(hl:l.length≤n)
  (hok:∀x r,g l= .ok x r→Toks r→r.length≤l.length→∀I' v' a k,Ext I I'→TL I' v' r→ExL I' (.slice a x.args.length k) x.args→K (.agg (Bc x (.slice a x.args.length k)).toArray) I' (C (PBo v'))) (herr:PEr (g l) Pn C I):CalP Tryz.prog ω f #[Ac b] K Pn I L:=
 h K Pn I L C v l hF hv hT hl (λx r hg hT' hr I' v' w hI hv' hw=>by
  obtain ⟨a,k,rfl⟩:=zAF hw;exact hok x r hg hT' hr I' v' a k hI hv' hw) herr
theorem FnE.one {ω:Om}{n b f:Nat}{g:Pr Ex}{I0:Imm}(h:FnE ω n b f g)(he:CU Tryz.prog f=true):OneP ω n b g (XE ExV) (.func (.func f) #[Ac b] #[]) I0:=by
 intro K Pn I L C v l hF hI hv hT hl hok herr;refine Lc he (h K Pn I L C v l hF hv hT hl ?_ herr);intro x r hg hT' hr I' v' w hI' hv' hw;exact hok x r hg hT' hr I' v' _ hI' hv' ⟨_,rfl,ExV.mk hw⟩
section
variable {ω:Om}{I:Imm}{L:LH}{K Pn:Value→M}{C:Obj→LH}{b:Nat}{v:Value}{l:List Tok}
theorem Bv (s:Bs)[hF:Foc b L (PBo v) C](h:TL I v l)(hT:Toks l)(ht:isT l s=true→Toks l.tail→l.tail.length+1=l.length→∀v',TL I v' l.tail→K (.bool true) I (C (PBo v')))(hf:isT l s=false→K (.bool false) I L):
  CT ω 152 #[Ac b,.string ⟨s.toArray⟩] K I L:=ER s h hT (λhb v' hv=>ht hb (hT.tailT hb) hT.len v' hv) hf
theorem Bd (s:Bs)[hF:Foc b L (PBo v) C](h:TL I v l)(hT:Toks l)(hok:isT l s=true→Toks l.tail→l.tail.length+1=l.length→∀I' v',Ext I I'→TL I' v' l.tail→K (.tuple #[]) I' (C (PBo v')))
  (herr:isT l s=false→∀I' v',Ext I I'→Pn (En (hd l).at') I' (C (PBo v'))):
  AC 9 1 #[.string ⟨#[]⟩] 1 [(0,.string ⟨s.toArray⟩)] (gh λw=>AP Tryz.prog ω 187 #[Ac b,w] Pn (gh K)) I L:=by
 refine DW [s] rfl rfl (λI' a hI hw=>zAA ?_);refine AX (Qy [s] hw zy (h.mono hI) hT (λr hg hT' hr v' hv'=>?_) (λe hg v'=>?_))
 ·cases hb:isT l s with
  |true=>
   simp only [Eo,AO,hb,if_true,Res.bind,Res.ok.injEq,true_and] at hg;subst hg;exact hok hb hT' hT.len I' v' hI hv'
  |false=>simp [Eo,AO,hb,Res.bind,bad] at hg
 ·cases hb:isT l s with
  |true=>simp [Eo,AO,hb,Res.bind] at hg
  |false=>
   simp only [Eo,AO,hb,zl,if_false,Res.bind,bad,Res.err.injEq] at hg;subst hg;exact herr hb I' v' hI
theorem CS [hF:Foc b L (PBo v) C](h:TL I v l)(hT:Toks l)
  (hok:isK l 1=true→Toks l.tail→l.tail.length+1=l.length→∀v',TL I v' l.tail→K (.string ⟨(hd l).text.toArray⟩) I (C (PBo v'))) (herr:isK l 1=false→Pn (En (hd l).at') I L):
  CalP Tryz.prog ω 188 #[Ac b] K Pn I L:=ACA h hT (λhb v' hv=>hok hb (hT.tailK hb) hT.len v' hv) herr
theorem BC {k:Int}{w:Value}{l:List Ex}(hw:ExL I w l)(hk:K (.agg (Bc (exK k l) w).toArray) I L):CT ω 261 #[.int .i64 k,w] K I L:=by
 refine ANH ?_;unfold AJY;obtain ⟨a,c,rfl⟩:=zAF hw;have hk:Gh (K (.agg (Bc (exK k l) (.slice a l.length c)).toArray)) I L:=zAA hk;repeat' (first|refine zqa ?_|refine zqh (λ_=>?_)|refine zqr ?_|refine zqb ?_|refine zqi ?_ ?_|refine zqc ?_|refine zqg (λ_=>?_) (λ_=>?_)|refine zqe ?_|fail)
 exact zAE L hk
theorem Cb {x:Ex}{w:Value}(hw:ExL I w x.args)(hk:∀I' a,Ext I I'→ExL I' (.slice a 1 1) [x]→Gh (K (.slice a 1 1)) I' L):
  AC 65 11 #[.int .i64 0,.int .i64 0,.bool false,.int .i64 0,.string ⟨#[]⟩,.string ⟨#[]⟩,.string ⟨#[]⟩,.int .i64 0,.int .i64 0,.bool false,.slice none 0 0] 1 [(0,.agg (Bc x w).toArray)] (gh K) I L:=
 Eg (R:=ExV) [x] [Bc x w] rfl rfl rfl zy (by simp only [List.zip_cons_cons,List.zip_nil_right,zM,forall_eq];exact ExV.mk hw) (λhI h=>ExV.mono hI h) hk
theorem CJ {x y:Ex}{w u:Value}(hw:ExL I w x.args)(hu:ExL I u y.args)(hk:∀I' a,Ext I I'→ExL I' (.slice a 2 2) [x,y]→Gh (K (.slice a 2 2)) I' L):
  AC 65 11 #[.int .i64 0,.int .i64 0,.bool false,.int .i64 0,.string ⟨#[]⟩,.string ⟨#[]⟩,.string ⟨#[]⟩,.int .i64 0,.int .i64 0,.bool false,.slice none 0 0] 2 [(0,.agg (Bc x w).toArray),(1,.agg (Bc y u).toArray)] (gh K) I L:=
 Eg (R:=ExV) [x,y] [Bc x w,Bc y u] rfl rfl rfl zy (by simp only [List.zip_cons_cons,List.zip_nil_right,zK,zaG,or_false,forall_eq_or_imp,forall_eq];exact ⟨ExV.mk hw,ExV.mk hu⟩) (λhI h=>ExV.mono hI h) hk
theorem Cj {x y z:Ex}{w u q:Value}(hw:ExL I w x.args)(hu:ExL I u y.args)(hq:ExL I q z.args)(hk:∀I' a,Ext I I'→ExL I' (.slice a 3 3) [x,y,z]→Gh (K (.slice a 3 3)) I' L):
  AC 65 11 #[.int .i64 0,.int .i64 0,.bool false,.int .i64 0,.string ⟨#[]⟩,.string ⟨#[]⟩,.string ⟨#[]⟩,.int .i64 0,.int .i64 0,.bool false,.slice none 0 0] 3 [(0,.agg (Bc x w).toArray),(1,.agg (Bc y u).toArray),(2,.agg (Bc z q).toArray)] (gh K) I L:=
 Eg (R:=ExV) [x,y,z] [Bc x w,Bc y u,Bc z q] rfl rfl rfl zy (by simp only [List.zip_cons_cons,List.zip_nil_right,zK,zaG,or_false,forall_eq_or_imp,forall_eq];exact ⟨ExV.mk hw,ExV.mk hu,ExV.mk hq⟩) (λhI h=>ExV.mono hI h) hk
theorem Ru (n:Nat):FnE ω n b 285 Qr:=by
 intro K Pn I L C v l hF h hT hl hok herr;obtain ⟨L1,L2,rfl,rfl⟩:=hF.foc;refine AMu ?_;unfold AJQ;refine Ap (λ_=>?_);refine AX (UN 3 zx h hT (λhb v' hv'=>?_) (λhb=>zAE (L1++(b,PBo v)::L2) (zAA (herr _ (by simp [Qr,hb,bad]) I v (zAC _)))));have hk:Gh (K _) I (L1++(b,PBo v')::L2):=zAA (hok (LY ⟨1,false,(hd l).num,[]⟩) l.tail (by simp [Qr,hb]) (hT.tailK hb) (by have:=hT.len;omega) I v' (.slice none 0 0) (zAC _) hv' (zAD none 0));repeat' (first|refine zqa ?_|refine zqh (λ_=>?_)|refine zqr ?_|refine zqb ?_|refine zqi ?_ ?_|refine zqc ?_|refine zqg (λ_=>?_) (λ_=>?_)|refine zqe ?_|fail)
 exact zAE _ hk
theorem LJ [hF:Foc b L (PBo v) C](h:TL I v l)(hT:Toks l)(hok:∀x,LK l=some x→Toks l.tail→l.tail.length+1=l.length→∀v',TL I v' l.tail→K (.tuple #[.agg (Bc (LY x) (.slice none 0 0)).toArray,.bool true]) I (C (PBo v')))
  (hno:LK l=none→K (.tuple #[.agg exZ.toArray,.bool false]) I L):CT ω 284 #[Ac b] K I L:=by
 obtain ⟨L1,L2,rfl,rfl⟩:=hF.foc;obtain ⟨bt,off,h1,h2⟩:=h.hd hT;refine AMv ?_;unfold sh284;have fin:∀{x:TValue} {L':LH} {v':Value},LK l=some x→SubP (L1++(b,PBo v')::L2) L'→TL I v' l.tail→Gh (K (.tuple #[.agg (Bc (LY x) (.slice none 0 0)).toArray,.bool true])) I L':=by
  intro x L' v' hx hs hv';have hk6:(hd l).kind≠6:=by
   intro e;simp [LK,isK,isT,e] at hx
  exact zAE (L1++(b,PBo v')::L2) (zAA (hok x hx (hT.tail hk6) hT.len v' hv'))
 have no:∀{L':LH},LK l=none→SubP (L1++(b,PBo v)::L2) L'→Gh (K (.tuple #[.agg exZ.toArray,.bool false])) I L':=λhx hs=>zAE (L1++(b,PBo v)::L2) (zAA (hno hx));repeat' (first|refine zqa ?_|refine zqh (λ_=>?_)|(refine rd1 ((h2 _ [] (zAC _) 0 _ rfl).mono (zAC _) (λ_ h=>by cases h)) ?_)|(refine rd1 ((h2 _ [] (zAC _) 2 _ rfl).mono (zAC _) (λ_ h=>by cases h)) ?_)|(with_reducible refine call ?_;refine IK _ h hT (λhb=>?_) (λhb=>?_))|(with_reducible refine call ?_;refine Gv h hT (λv' hv'=>?_))|refine zqr ?_|refine zqb ?_|(with_reducible first|refine BI (sh284_2.eq_1 ..) ?_|refine BI (sh284.eq_1 ..) ?_|refine And.intro ?_ ?_)|refine zqc ?_|refine zqg (λ_=>?_) (λ_=>?_)|(simp only [SSd,Nat.reduceAdd,h1]))
 all_goals first
  |exact fin (x:=⟨3,false,0,(hd l).text⟩) (by simp_all [LK,isK]) inferInstance zA
  |exact fin (x:=⟨2,false,1,[]⟩) (by simp_all [LK,isK]) inferInstance zA
  |exact fin (x:=⟨2,false,0,[]⟩) (by simp_all [LK,isK]) inferInstance zA
  |exact fin (x:=⟨4,true,0,[]⟩) (by simp_all [LK,isK]) inferInstance zA
  |exact no (by simp_all [LK,isK]) inferInstance
end
section
variable {ω:Om}{I:Imm}{L:LH}{K Pn:Value→M}{C:Obj→LH}{b:Nat}{v:Value}{l:List Tok}
theorem AId (n:Nat){g:Pr Ex}(hg1:FnE ω (n+1) b 260 g):FnE ω (n+1) b 227 (DN n g UL):=by
 intro K Pn I L C v l hF h hT hl hok herr;obtain ⟨L1,L2,rfl,rfl⟩:=hF.foc;refine ANi ?_;unfold AJt;refine Ap (λb1=>?_);refine AX (hg1 _ _ _ _ _ _ _ inferInstance h hT hl ?_ ?_);rotate_left
 ·intro e hg I' v' hI;exact zAE (L1++(b,PBo v')::L2) (zAA (herr e (by simp only [DN,hg,Res.bind]) I' v' hI))
 intro x0 r0 hg0 hT0 hr0 I0 v0 w0 hI0 hTL0 hw0;refine Ap (λb3=>?_);obtain ⟨a0,c0,rfl⟩:=zAF hw0;repeat' (first|refine zqa ?_|refine zqh (λ_=>?_)|refine zqr ?_|refine zqb ?_|refine zqi ?_ ?_|refine zqc ?_|refine zqg (λ_=>?_) (λ_=>?_)|refine zqe ?_|fail)
 refine loop (λm s I2 Lx=>∃x a k v2 l2 f,l2.length=m∧Ext I I2∧Lx=(b3,Obj.cells (Bc x (.slice a x.args.length k)).toArray 65 (0,0))::(b1,Obj.cells exZ.toArray 65 (0,0))::(L1++(b,PBo v2)::L2)∧ExL I2 (.slice a x.args.length k) x.args∧TL I2 v2 l2∧Toks l2∧l2.length≤f+1∧l2.length≤l.length∧DN n g UL l=Gf g UL f x l2) r0.length
  ⟨x0,a0,c0,v0,r0,n,rfl,hI0,rfl,hw0,hTL0,hT0,by omega,hr0,by simp only [DN,hg0,Res.bind]⟩ ?_
 rintro m s I2 Lx ⟨x,a,k,v2,l2,f,rfl,hI2,rfl,hw,hTL,hT2,hf,hlen,hm⟩;unfold ZC;refine Ai (Bv [111,114] hTL hT2 (λhb hT' hl' v' hv'=>?_) (λhb=>?_))
 ·try refine zqe ?_
  obtain ⟨f,rfl⟩:∃q,f=q+1:=⟨f - 1,by have:=hT'.len;omega⟩;have hop:UL l2=22:=by simp [UL,hb]
  simp only [Gf,hop] at hm;refine Bo (b:=b) ?_;refine JZ rfl ?_;refine AX (hg1 _ _ _ _ _ _ _ inferInstance hv' hT' zo ?_ ?_);rotate_left
  ·intro e hg I3 v3 hI3;exact zAE (L1++(b,PBo v3)::L2) (zAA (herr e (by rw [hm];simp [hg,Res.bind]) I3 v3 (zAB hI2 hI3)))
  intro y r hg hT3 hr I3 v3 u hI3 hTL3 hu;refine BK hI3 ?_;refine CJ (zAH hw hI3) hu (λI4 a4 hI4 h4=>zAA ?_);refine Ai (BC h4 ?_);repeat' (first|refine zqa ?_|refine zqh (λ_=>?_)|refine zqr ?_|refine zqb ?_|refine zqi ?_ ?_|refine zqc ?_|refine zqg (λ_=>?_) (λ_=>?_)|refine zqe ?_|fail)
  refine zAA ⟨r.length,by omega,exK 22 [x,y],a4,2,v3,r,f,rfl,zAB hI2 (zAB hI3 hI4),rfl,h4,hTL3.mono hI4,hT3,by omega,by omega,?_⟩;rw [hm];simp [hg,Res.bind]
 ·try refine zqe ?_
  unfold ZB;repeat' (first|refine zqa ?_|refine zqh (λ_=>?_)|refine zqr ?_|refine zqb ?_|refine zqi ?_ ?_|refine zqc ?_|refine zqg (λ_=>?_) (λ_=>?_)|refine zqe ?_|fail)
  refine zAE (L1++(b,PBo v2)::L2) (zAA (hok x l2 ?_ hT2 hlen I2 v2 _ hI2 hTL hw));rw [hm];cases f with
  |zero=>rfl
  |succ f=>simp [Gf,UL,hb]
theorem APE (n:Nat){g:Pr Ex}(hg1:FnE ω (n+1) b 272 g):FnE ω (n+1) b 260 (DN n g LG):=by
 intro K Pn I L C v l hF h hT hl hok herr;obtain ⟨L1,L2,rfl,rfl⟩:=hF.foc;refine ANI ?_;unfold AJZ;refine Ap (λb1=>?_);refine AX (hg1 _ _ _ _ _ _ _ inferInstance h hT hl ?_ ?_);rotate_left
 ·intro e hg I' v' hI;exact zAE (L1++(b,PBo v')::L2) (zAA (herr e (by simp only [DN,hg,Res.bind]) I' v' hI))
 intro x0 r0 hg0 hT0 hr0 I0 v0 w0 hI0 hTL0 hw0;refine Ap (λb3=>?_);obtain ⟨a0,c0,rfl⟩:=zAF hw0;repeat' (first|refine zqa ?_|refine zqh (λ_=>?_)|refine zqr ?_|refine zqb ?_|refine zqi ?_ ?_|refine zqc ?_|refine zqg (λ_=>?_) (λ_=>?_)|refine zqe ?_|fail)
 refine loop (λm s I2 Lx=>∃x a k v2 l2 f,l2.length=m∧Ext I I2∧Lx=(b3,Obj.cells (Bc x (.slice a x.args.length k)).toArray 65 (0,0))::(b1,Obj.cells exZ.toArray 65 (0,0))::(L1++(b,PBo v2)::L2)∧ExL I2 (.slice a x.args.length k) x.args∧TL I2 v2 l2∧Toks l2∧l2.length≤f+1∧l2.length≤l.length∧DN n g LG l=Gf g LG f x l2) r0.length
  ⟨x0,a0,c0,v0,r0,n,rfl,hI0,rfl,hw0,hTL0,hT0,by omega,hr0,by simp only [DN,hg0,Res.bind]⟩ ?_
 rintro m s I2 Lx ⟨x,a,k,v2,l2,f,rfl,hI2,rfl,hw,hTL,hT2,hf,hlen,hm⟩;unfold Yu;refine Ai (Bv [97,110,100] hTL hT2 (λhb hT' hl' v' hv'=>?_) (λhb=>?_))
 ·try refine zqe ?_
  obtain ⟨f,rfl⟩:∃q,f=q+1:=⟨f - 1,by have:=hT'.len;omega⟩;have hop:LG l2=21:=by simp [LG,hb]
  simp only [Gf,hop] at hm;refine Bo (b:=b) ?_;refine JZ rfl ?_;refine AX (hg1 _ _ _ _ _ _ _ inferInstance hv' hT' zo ?_ ?_);rotate_left
  ·intro e hg I3 v3 hI3;exact zAE (L1++(b,PBo v3)::L2) (zAA (herr e (by rw [hm];simp [hg,Res.bind]) I3 v3 (zAB hI2 hI3)))
  intro y r hg hT3 hr I3 v3 u hI3 hTL3 hu;refine BK hI3 ?_;refine CJ (zAH hw hI3) hu (λI4 a4 hI4 h4=>zAA ?_);refine Ai (BC h4 ?_);repeat' (first|refine zqa ?_|refine zqh (λ_=>?_)|refine zqr ?_|refine zqb ?_|refine zqi ?_ ?_|refine zqc ?_|refine zqg (λ_=>?_) (λ_=>?_)|refine zqe ?_|fail)
  refine zAA ⟨r.length,by omega,exK 21 [x,y],a4,2,v3,r,f,rfl,zAB hI2 (zAB hI3 hI4),rfl,h4,hTL3.mono hI4,hT3,by omega,by omega,?_⟩;rw [hm];simp [hg,Res.bind]
 ·try refine zqe ?_
  unfold Yt;repeat' (first|refine zqa ?_|refine zqh (λ_=>?_)|refine zqr ?_|refine zqb ?_|refine zqi ?_ ?_|refine zqc ?_|refine zqg (λ_=>?_) (λ_=>?_)|refine zqe ?_|fail)
  refine zAE (L1++(b,PBo v2)::L2) (zAA (hok x l2 ?_ hT2 hlen I2 v2 _ hI2 hTL hw));rw [hm];cases f with
  |zero=>rfl
  |succ f=>simp [Gf,LG,hb]
theorem Qa (n:Nat){g:Pr Ex}{fv:Value}{bm:Nat}{es:Array MapEntry}{clock:Nat}{q:Bs→Option Int}(hq:∀s,q s≠some 0)(hone:OneP ω (n+1) b g (XE ExV) fv I)(hma:I bm=some (.map es clock))(hms:MapS es clock λk=>(q k).map (.int .i64))
  [hF:Foc b L (PBo v) C] (h:TL I v l) (hT:Toks l) (hl:l.length≤n+1) (hok:EOk (DN n g (KA q) l) l.length K C I) (herr:PEr (DN n g (KA q) l) Pn C I):
  CalP Tryz.prog ω 291 #[Ac b,fv,.map (some bm)] K Pn I L:=by
 obtain ⟨L1,L2,rfl,rfl⟩:=hF.foc;refine AMs ?_;unfold sh291;refine Ap (λb1=>?_);refine Ef (hone _ _ _ _ _ _ _ inferInstance (zAC _) h hT hl ?_ ?_);rotate_left
 ·intro e hg I' v' hI;exact zAE (L1++(b,PBo v')::L2) (zAA (herr e (by simp only [DN,hg,Res.bind]) I' v' hI))
 rintro x0 r0 hg0 hT0 hr0 I0 v0 c hI0 hTL0 ⟨cx,rfl,hx⟩;obtain ⟨w0,rfl,hw0⟩:=ExV.iff.1 hx;refine Ap (λb3=>?_);obtain ⟨a0,c0,rfl⟩:=zAF hw0;repeat' (first|refine zqa ?_|refine zqh (λ_=>?_)|refine zqr ?_|refine zqb ?_|refine zqi ?_ ?_|refine zqc ?_|refine zqg (λ_=>?_) (λ_=>?_)|refine zqe ?_|fail)
 refine loop (λm s I2 Lx=>∃x a k v2 l2 f,l2.length=m∧Ext I I2∧Lx=(b3,Obj.cells (Bc x (.slice a x.args.length k)).toArray 65 (0,0))::(b1,Obj.cells exZ.toArray 65 (0,0))::(L1++(b,PBo v2)::L2)∧ExL I2 (.slice a x.args.length k) x.args∧TL I2 v2 l2∧Toks l2∧l2.length≤f+1∧l2.length≤l.length∧DN n g (KA q) l=Gf g (KA q) f x l2) r0.length
  ⟨x0,a0,c0,v0,r0,n,rfl,hI0,rfl,hw0,hTL0,hT0,by omega,hr0,by simp only [DN,hg0,Res.bind]⟩ ?_
 rintro m s I2 Lx ⟨x,a,k,v2,l2,f,rfl,hI2,rfl,hw,hTL,hT2,hf,hlen,hm⟩;obtain ⟨bt,off,h1,h2⟩:=hTL.hd hT2;have fin:∀{L':LH},KA q l2=0→SubP (L1++(b,PBo v2)::L2) L'→Gh (K (.agg (Bc x (.slice a x.args.length k)).toArray)) I2 L':=λh0 hs=>by
  refine zAE (L1++(b,PBo v2)::L2) (zAA (hok x l2 ?_ hT2 hlen I2 v2 _ hI2 hTL hw));rw [hm];cases f with
  |zero=>rfl
  |succ f=>simp only [Gf,h0,if_true]
 unfold sh291_1;repeat' (first|refine zqa ?_|refine zqh (λ_=>?_)|(refine rd1 ((h2 _ [] (zAC _) 0 _ rfl).mono (zAC _) (λ_ h=>by cases h)) ?_)|refine zqr ?_|refine zqb ?_|refine zqi ?_ ?_|refine zqc ?_|refine zqg (λ_=>?_) (λ_=>?_)|(simp only [SSd,Nat.reduceAdd,h1]))
 ·rename_i hb
  have hb:isK l2 5=true:=by simpa [isK] using hb
  refine rd1 ((h2 I2 [] (zAC _) 2 _ rfl).mono (zAC _) (λ_ h=>by cases h)) ?_;refine ⟨_,ALG (.inr (hI2 _ _ hma)) hms (k:=(hd l2).text),?_⟩;cases hqt:q (hd l2).text with
  |none=>
   simp only [Option.map_none,lkV,if_true];repeat' (first|refine zqa ?_|refine zqh (λ_=>?_)|refine zqr ?_|refine zqb ?_|(with_reducible first|refine BI (sh291_3.eq_1 ..) ?_|refine BI (sh291_1.eq_1 ..) ?_|refine BI (sh291.eq_1 ..) ?_|refine And.intro ?_ ?_)|refine zqc ?_|refine zqg (λ_=>?_) (λ_=>?_)|refine zqe ?_|fail)
   exact fin (by simp [KA,hb,hqt]) inferInstance
  |some kd=>
   have hop:KA q l2=kd:=by simp [KA,hb,hqt]
   have hkd:kd≠0:=λe=>hq _ (by rw [hqt,e]);have hT':=hT2.tailK hb;obtain ⟨f,rfl⟩:∃q,f=q+1:=⟨f - 1,by have:=hT'.len;have:=hT2.len;omega⟩;simp only [Gf,hop,if_neg hkd] at hm;simp only [Option.map_some,lkV,if_true];try refine zqe ?_
   refine Ai (Gv hTL hT2 (λv' hv'=>?_));refine Bo (b:=b) ?_;refine JZ rfl ?_;have hl2:=hT2.len;refine Ef (hone _ _ _ _ _ _ _ inferInstance hI2 hv' hT' zo ?_ ?_);rotate_left
   ·intro e hg I3 v3 hI3;exact zAE (L1++(b,PBo v3)::L2) (zAA (herr e (by rw [hm];simp [hg,Res.bind]) I3 v3 (zAB hI2 hI3)))
   rintro y r hg hT3 hr I3 v3 c hI3 hTL3 ⟨cy,rfl,hy⟩;obtain ⟨u,rfl,hu⟩:=ExV.iff.1 hy;dsimp only
   refine BK hI3 ?_;refine CJ (zAH hw hI3) hu (λI4 a4 hI4 h4=>zAA ?_);refine Ai (BC h4 ?_);repeat' (first|refine zqa ?_|refine zqh (λ_=>?_)|refine zqr ?_|refine zqb ?_|refine zqi ?_ ?_|refine zqc ?_|refine zqg (λ_=>?_) (λ_=>?_)|refine zqe ?_|fail)
   refine zAA ⟨r.length,by omega,exK kd [x,y],a4,2,v3,r,f,rfl,zAB hI2 (zAB hI3 hI4),rfl,h4,hTL3.mono hI4,hT3,by omega,by omega,?_⟩;rw [hm];simp [hg,Res.bind]
 ·rename_i hb
  have hb:isK l2 5=false:=by simpa [isK] using hb
  repeat' (first|refine zqa ?_|refine zqh (λ_=>?_)|refine zqr ?_|refine zqb ?_|(with_reducible first|refine BI (sh291_3.eq_1 ..) ?_|refine BI (sh291_1.eq_1 ..) ?_|refine BI (sh291.eq_1 ..) ?_|refine And.intro ?_ ?_)|refine zqc ?_|refine zqg (λ_=>?_) (λ_=>?_)|refine zqe ?_|fail)
  exact fin (by simp [KA,hb]) inferInstance
end
section
variable {ω:Om}{I:Imm}{L:LH}{K Pn:Value→M}{C:Obj→LH}{b:Nat}{v:Value}{l:List Tok}
theorem ADJ:Ii (Ii (Ii (λ_=>none) [43] (some (.int .i64 9))) [45] (some (.int .i64 10))) [124,124] (some (.int .i64 14))=λk=>(XW k).map (.int .i64):=by
 funext k
 simp only [Ii,XW];by_cases h1:k=[43]
 ·subst h1;rfl
 ·by_cases h2:k=[45]
  ·subst h2;rfl
  ·by_cases h3:k=[124,124]
   ·subst h3;rfl
   ·simp only [h1,h2,h3,if_false];rfl
theorem ABW:Ii (Ii (Ii (λ_=>none) [42] (some (.int .i64 11))) [47] (some (.int .i64 12))) [37] (some (.int .i64 13))=λk=>(Oo k).map (.int .i64):=by
 funext k
 simp only [Ii,Oo];by_cases h1:k=[42]
 ·subst h1;rfl
 ·by_cases h2:k=[47]
  ·subst h2;rfl
  ·by_cases h3:k=[37]
   ·subst h3;rfl
   ·simp only [h1,h2,h3,if_false];rfl
theorem AHe (s:Bs):XW s≠some 0:=by unfold XW;repeat' split <;> simp
theorem ADE (s:Bs):Oo s≠some 0:=by unfold Oo;repeat' split <;> simp
theorem ALm (n:Nat){g:Pr Ex}(hg1:FnE ω (n+1) b 292 g):FnE ω (n+1) b 288 (DN n g (KA XW)):=by
 intro K Pn I L C v l hF h hT hl hok herr;obtain ⟨L1,L2,rfl,rfl⟩:=hF.foc;refine AMt ?_;unfold AJP;refine Ap (λb1=>?_);refine AFS (λbm=>?_);obtain ⟨es1,c1,e1,h1⟩:=MapS.empty.put [43] (.int .i64 9);obtain ⟨es2,c2,e2,h2⟩:=h1.put [45] (.int .i64 10);obtain ⟨es3,c3,e3,h3⟩:=h2.put [124,124] (.int .i64 14);rw [ADJ] at h3;refine zAA (Np (k:=[43]) MapS.empty e1 ?_);refine zAA (Np (k:=[45]) h1 e2 ?_);refine zAA (Np (k:=[124,124]) h2 e3 ?_);refine zAA ?_;refine AX (CalP.pre (Gh.freeze λhI1=>zAA ?_));refine Qa n AHe (hg1.one (by kernel_rfl)) (es:=es3) (clock:=c3) (by simp [Imm.put]) h3 (h.mono hI1) hT hl (λx r hg hT' hr I' v' w hI' hv' hw=>?_) (λe hg I' v' hI'=>?_)
 ·obtain ⟨a,k,rfl⟩:=zAF hw;repeat' (first|(with_reducible first|refine Bo (b:=b) ?_|refine keepA ?_|refine Ap (λ_=>?_))|(with_reducible refine Ai ?_;refine Bv _ zT zA (λhb hT' hl' v' hv'=>?_) (λhb=>?_))|(with_reducible refine Bd _ zT zA (λhb hT' hl' I' v' hI' hv'=>?_) (λhb I' v' hI'=>?_))|(with_reducible refine AX ?_;refine CS zT zA (λhb hT' hl' v' hv'=>?_) (λhb=>?_))|(with_reducible refine AX ?_;refine Af zT zA ?_)|(with_reducible first|refine Cb zC (λI' a hI' hw'=>zAA ?_)|refine CJ zC zC (λI' a hI' hw'=>zAA ?_)|refine Cj zC zC zC (λI' a hI' hw'=>zAA ?_))|(with_reducible refine Ai ?_;refine BC zC ?_)|refine zqr ?_|refine zqb ?_|refine zqi ?_ ?_|refine zqc ?_|refine zqg (λhb=>?_) (λhb=>?_)|refine zqe ?_|fail)
  exact zAE (L1++(b,PBo v')::L2) (zAA (hok x r hg hT' hr I' v' _ (zAB hI1 hI') hv' hw))
 ·exact zAE (L1++(b,PBo v')::L2) (zAA (herr e hg I' v' (zAB hI1 hI')))
theorem AHZ (n:Nat){g:Pr Ex}(hg1:FnE ω (n+1) b 294 g):FnE ω (n+1) b 292 (DN n g (KA Oo)):=by
 intro K Pn I L C v l hF h hT hl hok herr;obtain ⟨L1,L2,rfl,rfl⟩:=hF.foc;refine AMr ?_;unfold AJO;refine Ap (λb1=>?_);refine AFS (λbm=>?_);obtain ⟨es1,c1,e1,h1⟩:=MapS.empty.put [42] (.int .i64 11);obtain ⟨es2,c2,e2,h2⟩:=h1.put [47] (.int .i64 12);obtain ⟨es3,c3,e3,h3⟩:=h2.put [37] (.int .i64 13);rw [ABW] at h3;refine zAA (Np (k:=[42]) MapS.empty e1 ?_);refine zAA (Np (k:=[47]) h1 e2 ?_);refine zAA (Np (k:=[37]) h2 e3 ?_);refine zAA ?_;refine AX (CalP.pre (Gh.freeze λhI1=>zAA ?_));refine Qa n ADE (hg1.one (by kernel_rfl)) (es:=es3) (clock:=c3) (by simp [Imm.put]) h3 (h.mono hI1) hT hl (λx r hg hT' hr I' v' w hI' hv' hw=>?_) (λe hg I' v' hI'=>?_)
 ·obtain ⟨a,k,rfl⟩:=zAF hw;repeat' (first|(with_reducible first|refine Bo (b:=b) ?_|refine keepA ?_|refine Ap (λ_=>?_))|(with_reducible refine Ai ?_;refine Bv _ zT zA (λhb hT' hl' v' hv'=>?_) (λhb=>?_))|(with_reducible refine Bd _ zT zA (λhb hT' hl' I' v' hI' hv'=>?_) (λhb I' v' hI'=>?_))|(with_reducible refine AX ?_;refine CS zT zA (λhb hT' hl' v' hv'=>?_) (λhb=>?_))|(with_reducible refine AX ?_;refine Af zT zA ?_)|(with_reducible first|refine Cb zC (λI' a hI' hw'=>zAA ?_)|refine CJ zC zC (λI' a hI' hw'=>zAA ?_)|refine Cj zC zC zC (λI' a hI' hw'=>zAA ?_))|(with_reducible refine Ai ?_;refine BC zC ?_)|refine zqr ?_|refine zqb ?_|refine zqi ?_ ?_|refine zqc ?_|refine zqg (λhb=>?_) (λhb=>?_)|refine zqe ?_|fail)
  exact zAE (L1++(b,PBo v')::L2) (zAA (hok x r hg hT' hr I' v' _ (zAB hI1 hI') hv' hw))
 ·exact zAE (L1++(b,PBo v')::L2) (zAA (herr e hg I' v' (zAB hI1 hI')))
theorem AMI (n:Nat){N Q:Pr Ex}(hN:FnE ω n b 272 N)(hQ:FnE ω (n+1) b 283 Q):FnE ω (n+1) b 272 (Vf N Q):=by
 intro K Pn I L C v l hF h hT hl hok herr;obtain ⟨L1,L2,rfl,rfl⟩:=hF.foc;refine AMz ?_;unfold AJS;refine Ap (λb1=>?_);refine Ai (Bv [110,111,116] h hT (λhb hT' hl' v' hv'=>?_) (λhb=>?_))
 ·try refine zqe ?_
  refine AX (hN _ _ _ _ _ _ _ inferInstance hv' hT' zo (λx r hg hT2 hr I2 v2 w hI2 hv2 hw=>?_) (λe hg I2 v2 hI2=>zAE (L1++(b,PBo v2)::L2) (zAA (herr e (by simp only [Vf,hb,if_true,hg,Res.bind]) I2 v2 hI2))));repeat' (first|(with_reducible first|refine Bo (b:=b) ?_|refine keepA ?_|refine Ap (λ_=>?_))|(with_reducible refine Ai ?_;refine Bv _ zT zA (λhb hT' hl' v' hv'=>?_) (λhb=>?_))|(with_reducible refine Bd _ zT zA (λhb hT' hl' I' v' hI' hv'=>?_) (λhb I' v' hI'=>?_))|(with_reducible refine AX ?_;refine CS zT zA (λhb hT' hl' v' hv'=>?_) (λhb=>?_))|(with_reducible refine AX ?_;refine Af zT zA ?_)|(with_reducible first|refine Cb zC (λI' a hI' hw'=>zAA ?_)|refine CJ zC zC (λI' a hI' hw'=>zAA ?_)|refine Cj zC zC zC (λI' a hI' hw'=>zAA ?_))|(with_reducible refine Ai ?_;refine BC zC ?_)|refine zqr ?_|refine zqb ?_|refine zqi ?_ ?_|refine zqc ?_|refine zqg (λhb=>?_) (λhb=>?_)|refine zqe ?_|fail)
  exact zAE (L1++(b,PBo v2)::L2) (zAA (hok (exK 5 [x]) r (by simp only [Vf,hb,if_true,hg,Res.bind]) hT2 zo _ v2 _ (zAB hI2 zA) (hv2.mono zA) zA))
 ·try refine zqe ?_
  refine AX (hQ _ _ _ _ _ _ _ inferInstance h hT zo (λx r hg hT2 hr I2 v2 w hI2 hv2 hw=>?_) (λe hg I2 v2 hI2=>zAE (L1++(b,PBo v2)::L2) (zAA (herr e (by simp only [Vf,hb,zl,if_false,hg]) I2 v2 hI2))));obtain ⟨a,k,rfl⟩:=zAF hw;repeat' (first|(with_reducible first|refine Bo (b:=b) ?_|refine keepA ?_|refine Ap (λ_=>?_))|(with_reducible refine Ai ?_;refine Bv _ zT zA (λhb hT' hl' v' hv'=>?_) (λhb=>?_))|(with_reducible refine Bd _ zT zA (λhb hT' hl' I' v' hI' hv'=>?_) (λhb I' v' hI'=>?_))|(with_reducible refine AX ?_;refine CS zT zA (λhb hT' hl' v' hv'=>?_) (λhb=>?_))|(with_reducible refine AX ?_;refine Af zT zA ?_)|(with_reducible first|refine Cb zC (λI' a hI' hw'=>zAA ?_)|refine CJ zC zC (λI' a hI' hw'=>zAA ?_)|refine Cj zC zC zC (λI' a hI' hw'=>zAA ?_))|(with_reducible refine Ai ?_;refine BC zC ?_)|refine zqr ?_|refine zqb ?_|refine zqi ?_ ?_|refine zqc ?_|refine zqg (λhb=>?_) (λhb=>?_)|refine zqe ?_|fail)
  exact zAE (L1++(b,PBo v2)::L2) (zAA (hok x r (by simp only [Vf,hb,zl,if_false,hg]) hT2 hr I2 v2 _ hI2 hv2 hw))
end
theorem OneP.mono {α:Type}{ω:Om}{n b:Nat}{g:Pr α}{V:Imm→α→Value→Prop}{fv:Value}{I I':Imm}(h:OneP ω n b g V fv I)(hI:Ext I I'):OneP ω n b g V fv I':=
 λK Pn I2 L C v l hF hI2=>h K Pn I2 L C v l hF (zAB hI hI2)
section
variable {ω:Om}{I:Imm}{L:LH}{K Pn:Value→M}{C:Obj→LH}{b:Nat}{v:Value}{l:List Tok}
theorem ACx (n:Nat)(hn0:n≤1000000000){g:Pr (Ex)}{fv:Value}(hone:OneP ω n b g (XE ExV) fv I)[hF:Foc b L (PBo v) C](h:TL I v l)(hT:Toks l)(hl:l.length≤n)
  (hok:POk (CP n g l) (λI x v=>RL ExV 11 I [] v x∧x.length≤l.length) l.length K C I) (herr:PEr (CP n g l) Pn C I):CalP Tryz.prog ω 234 #[Ac b,fv] K Pn I L:=by
 obtain ⟨L1,L2,rfl,rfl⟩:=hF.foc;refine ANb ?_;unfold AJo;refine Bd [40] h hT (λhb hT' hl' I1 v1 hI1 hv1=>?_) (λhb I1 v1 hI1=>zAA (herr _ (by simp [CP,AO,hb,Res.bind,bad]) I1 v1 hI1));refine AX (ADO n hn0 (hone.mono hI1) hv1 hT' zo (λx r hg hT2 hr I2 v2 c hI2 hv2 hc=>?_) (λe hg I2 v2 hI2=>zAA (herr e (by simp [CP,AO,hb,Res.bind,hg]) I2 v2 (zAB hI1 hI2))));refine Bd [41] hv2 hT2 (λhb2 hT3 hl3 I3 v3 hI3 hv3=>?_) (λhb2 I3 v3 hI3=>zAA (herr _ (by simp [CP,AO,hb,hb2,Res.bind,hg,bad]) I3 v3 (zAB hI1 (zAB hI2 hI3))));exact (zAA (hok x r.tail (by simp [CP,AO,hb,hb2,Res.bind,hg]) hT3 zo I3 v3 c (zAB hI1 (zAB hI2 hI3)) hv3 ⟨zAH hc.1 hI3,by have:=hc.2;omega⟩))
theorem ACw (n:Nat)(hn0:n≤1000000000){g:Pr (Bs)}{fv:Value}(hone:OneP ω n b g (APG) fv I)[hF:Foc b L (PBo v) C](h:TL I v l)(hT:Toks l)(hl:l.length≤n)
  (hok:POk (CP n g l) (λI x v=>RL StrV 1 I [] v x∧x.length≤l.length) l.length K C I) (herr:PEr (CP n g l) Pn C I):CalP Tryz.prog ω 232 #[Ac b,fv] K Pn I L:=by
 obtain ⟨L1,L2,rfl,rfl⟩:=hF.foc;refine ANd ?_;unfold AJq;refine Bd [40] h hT (λhb hT' hl' I1 v1 hI1 hv1=>?_) (λhb I1 v1 hI1=>zAA (herr _ (by simp [CP,AO,hb,Res.bind,bad]) I1 v1 hI1));refine AX (ALp n hn0 (hone.mono hI1) hv1 hT' zo (λx r hg hT2 hr I2 v2 c hI2 hv2 hc=>?_) (λe hg I2 v2 hI2=>zAA (herr e (by simp [CP,AO,hb,Res.bind,hg]) I2 v2 (zAB hI1 hI2))));refine Bd [41] hv2 hT2 (λhb2 hT3 hl3 I3 v3 hI3 hv3=>?_) (λhb2 I3 v3 hI3=>zAA (herr _ (by simp [CP,AO,hb,hb2,Res.bind,hg,bad]) I3 v3 (zAB hI1 (zAB hI2 hI3))));exact (zAA (hok x r.tail (by simp [CP,AO,hb,hb2,Res.bind,hg]) hT3 zo I3 v3 c (zAB hI1 (zAB hI2 hI3)) hv3 ⟨StL.mono hc.1 hI3,by have:=hc.2;omega⟩))
theorem AFU (n:Nat):OneP ω n b Aw APG (.func (.func 188) #[Ac b] #[]) I:=by
 intro K Pn I' L C v l hF hI h hT hl hok herr;refine Lc (by kernel_rfl) (CS h hT (λhb hT' hl' v' hv'=>?_) (λhb=>?_))
 ·exact hok (hd l).text l.tail (by simp [Aw,hb]) hT' zo I' v' _ (zAC _) hv' rfl
 ·have:=herr (hd l).at' (by simp [Aw,hb,bad]) I' v (zAC _);obtain ⟨L1,L2,rfl,rfl⟩:=hF.foc;exact this
theorem YA (n:Nat)(hn0:n≤1000000000)[hF:Foc b L (PBo v) C](h:TL I v l)(hT:Toks l)(hl:l.length≤n)
  (hok:POk (CP n Aw l) (λI x v=>StL I v x∧x.length≤l.length) l.length K C I) (herr:PEr (CP n Aw l) Pn C I):CalP Tryz.prog ω 189 #[Ac b] K Pn I L:=by
 refine AOG ?_;unfold AKO;refine AX (ACw n hn0 (AFU n) h hT hl (λx r hg hT2 hr I2 v2 c hI2 hv2 hc=>zAA (hok x r hg hT2 hr I2 v2 c hI2 hv2 hc)) (λe hg I2 v2 hI2=>zAA (herr e hg I2 v2 hI2)))
theorem VQ (n:Nat)(hn0:n≤1000000000){E:Pr Ex}(hE:FnE ω n b 227 E)[hF:Foc b L (PBo v) C](h:TL I v l)(hT:Toks l)(hl:l.length≤n)
  (hok:POk (CP n E l) (λI x v=>ExL I v x∧x.length≤l.length) l.length K C I) (herr:PEr (CP n E l) Pn C I):CalP Tryz.prog ω 191 #[Ac b] K Pn I L:=by
 refine AOE ?_;unfold AKM;refine AX (ACx n hn0 (hE.one (by kernel_rfl)) h hT hl (λx r hg hT2 hr I2 v2 c hI2 hv2 hc=>zAA (hok x r hg hT2 hr I2 v2 c hI2 hv2 hc)) (λe hg I2 v2 hI2=>zAA (herr e hg I2 v2 hI2)))
theorem AEt (n:Nat)(hn0:n≤1000000000){E:Pr Ex}(hE:FnE ω n b 227 E)[hF:Foc b L (PBo v) C](h:TL I v l)(hT:Toks l)(hl:l.length≤n)
  (hok:∀x r,CP n E l= .ok x r→Toks r→r.length≤l.length→x.length≤l.length→∀I' v' a k,Ext I I'→TL I' v' r→ExL I' (.slice a x.length k) x→K (.slice a x.length k) I' (C (PBo v'))) (herr:PEr (CP n E l) Pn C I):CalP Tryz.prog ω 191 #[Ac b] K Pn I L:=
 VQ n hn0 hE h hT hl (λx r hg hT' hr I' v' w hI hv' hw=>by
  obtain ⟨a,k,rfl⟩:=zAF hw.1;exact hok x r hg hT' hr hw.2 I' v' a k hI hv' hw.1) herr
def cmpLq:List Bs:=[[61],[60,62],[60],[60,61],[62],[62,61]]
theorem AFJ {r:List Tok}:∀{k:Nat} (hk:k < 6),(∀j,j < k→isT r (cmpLq.getD j [])=false)→isT r (cmpLq.getD k [])=true→GZ r=15+k
 |0,_,_,h=>by simp only [cmpLq,zaW] at h;simp [GZ,h]
 |1,_,h0,h=>by have:=h0 0 zo;simp only [cmpLq,zaW,zbh] at h this;simp [GZ,h,this]
 |2,_,h0,h=>by have h1:=h0 0 zo;have h2:=h0 1 zo;simp only [cmpLq,zaW,zbh] at h h1 h2;simp [GZ,h,h1,h2]
 |3,_,h0,h=>by have h1:=h0 0 zo;have h2:=h0 1 zo;have h3:=h0 2 zo;simp only [cmpLq,zaW,zbh] at h h1 h2 h3;simp [GZ,h,h1,h2,h3]
 |4,_,h0,h=>by have h1:=h0 0 zo;have h2:=h0 1 zo;have h3:=h0 2 zo;have h4:=h0 3 zo;simp only [cmpLq,zaW,zbh] at h h1 h2 h3 h4;simp [GZ,h,h1,h2,h3,h4]
 |5,_,h0,h=>by have h1:=h0 0 zo;have h2:=h0 1 zo;have h3:=h0 2 zo;have h4:=h0 3 zo;have h5:=h0 4 zo;simp only [cmpLq,zaW,zbh] at h h1 h2 h3 h4 h5;simp [GZ,h,h1,h2,h3,h4,h5]
theorem AFI {r:List Tok}(h0:∀j,j < 6→isT r (cmpLq.getD j [])=false):GZ r=0:=by
 have h1:=h0 0 zo;have h2:=h0 1 zo;have h3:=h0 2 zo;have h4:=h0 3 zo;have h5:=h0 4 zo;have h6:=h0 5 zo;simp only [cmpLq,zaW,zbh] at h1 h2 h3 h4 h5 h6;simp [GZ,h1,h2,h3,h4,h5,h6]
end
theorem RL.toI {α:Type}{R:Imm→α→List Value→Prop}{n:Nat}{I:Imm}{v:Value}{xs:List α}(hn:0 < n)(h:RL R n I [] v xs):∃cells,SlI I n v cells xs.length∧Recs (R I) n xs cells:=by
 obtain ⟨a,cap,cells,rfl,hc,hN,hR⟩:=h;refine ⟨cells,⟨hR.length,a,cap,rfl,hc,λh0=>?_⟩,hR⟩;rcases hN with ⟨a',cap',e,h1,_⟩|⟨b,off,cap',e,hl,hcs⟩|⟨s,e,_⟩
 ·omega
 ·simp only [Value.slice.injEq] at e;obtain ⟨rfl,_,rfl⟩:=e;have hpos:0 < cells.length:=by rw [hl];exact Nat.mul_pos zo hn
  obtain ⟨cs,T,fr,hm,hv⟩:=hcs 0 cells[0] (zam hpos);rcases hm with hm|hm
  ·cases hm
  ·refine ⟨b,off,cs,T,fr,rfl,hm,λj u hu=>?_⟩;obtain ⟨cs',T',fr',hm',hv'⟩:=hcs j u hu;rcases hm' with hm'|hm'
   ·cases hm'
   ·rw [hm] at hm';cases hm';exact hv'
 ·cases e
theorem ACs {I:Imm}{L F:LH}(hp:L.Perm F){T n bytes len m:Nat}{z:Array Value}{s x:Value}{a:Option Addr}{olds news:List Value}{K:Value→M}(hz:z.size=n)(hs:s= .slice a len len)(ho:News n s I L len olds)(hn:News n x I L m news)
  (h1:∀u∈news,u.oneCell'=true) (hm:0 < m) (hb:(len+m) * bytes≤150000000000000) (hm':len+m≤150000000000000) (hk:∀X' v',SlO T n X' v' (olds++news) (len+m)→Gh (K v') I (X'++F)):App T n bytes z s x (gh K) I L:=by
 have hol:=ho.length;have hnl:=hn.length;have hlen:(olds++news).length=(len+m) * n:=by rw [zk,hol,hnl,zax]
 refine ⟨a,len,len,m,news,hs,hn,h1,.inr (.inr ⟨by omega,hb,hm',olds,L,ho,List.Sublist.refl _,λb c hc=>?_⟩)⟩;refine Gh.perm (List.Perm.cons _ hp) ((hk [(b,_)] _ ⟨hlen,.inr ⟨b,c,_,rfl,rfl,?_,hc,?_⟩⟩))
 ·simp only [Array.size_append,List.size_toArray,EQ,hz,hlen];rw [←zax];congr 1;omega
 ·intro j u hu;have hlt:j < (olds++news).length:=(zaj.1 hu).1;rw [zaO (by simpa using hlt)];simpa using hu
section
variable {ω:Om}{I:Imm}{L:LH}{K Pn:Value→M}{C:Obj→LH}{b:Nat}{v:Value}{l:List Tok}
theorem ASI {T bytes m:Nat}{z:Array Value}(hz:z.size=11){a:Option Addr}{w:Value}{xs ys:List Ex}(hm:m=xs.length)(hu:ExL I (.slice a m m) xs)(hw:ExL I w ys)(hb:(xs.length+ys.length) * bytes≤150000000000000)(hl:xs.length+ys.length≤150000000000000)
  (hk:∀I' a' k,Ext I I'→ExL I' (.slice a' (xs++ys).length k) (xs++ys)→Gh (K (.slice a' (xs++ys).length k)) I' L):App T 11 bytes z (.slice a m m) w (gh K) I L:=by
 subst hm;obtain ⟨c1,s1,r1⟩:=RL.toI zx hu;obtain ⟨c2,s2,r2⟩:=RL.toI zx hw;by_cases h0:ys.length=0
 ·obtain rfl:=zG h0;have hnil:c2=[]:=zG (by simpa using r2.length);subst hnil;refine ⟨a,xs.length,xs.length,0,[],rfl,s2.news,zy,.inl ⟨zh _,rfl,?_⟩⟩;have e:(xs++([]:List Ex)).length=xs.length:=by simp
  have:=hk I a xs.length (zAC _) (by simpa using hu);rw [e] at this;exact this
 ·exact ACs (List.Perm.refl _) hz rfl (SlI.news s1 (L:=L)) (SlI.news s2 (L:=L)) (r2.one_cells λx c h=>ExV.one h) zo hb hl (λX' v' h'=>SlO.freeze h' λI' hI hS=>by
   have hx:ExL I' v' (xs++ys):=RL.ofI (by rw [zk];exact hS) (zAN (r1.imp λ_ _ h=>ExV.mono hI h) (r2.imp λ_ _ h=>ExV.mono hI h));obtain ⟨a',k,rfl⟩:=zAF hx;exact hk I' a' k hI hx)
end
section
variable {ω:Om}{b:Nat}
theorem AIH (n:Nat)(hn0:n+1≤1000000000){E S:Pr Ex}(hE:FnE ω n b 227 E)(hS:FnE ω (n+1) b 288 S):FnE ω (n+1) b 283 (Kz n E S):=by
 intro K Pn I L C v l hF h hT hl hok herr;obtain ⟨L1,L2,rfl,rfl⟩:=hF.foc;refine AMw ?_;unfold sh283;refine Ap (λb1=>?_);refine AX (hS _ _ _ _ _ _ _ inferInstance h hT hl ?_ ?_);rotate_left
 ·intro e hg I' v' hI;exact zAE (L1++(b,PBo v')::L2) (zAA (herr e (by simp only [Kz,hg,Res.bind]) I' v' hI))
 intro x r0 hg0 hT0 hr0 I0 v0 w0 hI0 hTL0 hw0;refine Ap (λb3=>?_);obtain ⟨a,k0,rfl⟩:=zAF hw0;repeat' (first|refine zqa ?_|refine zqh (λ_=>?_)|refine zqr ?_|refine zqb ?_|refine zqi ?_ ?_|refine zqc ?_|refine zqg (λ_=>?_) (λ_=>?_)|refine zqe ?_|fail)
 refine DW cmpLq rfl rfl (λI1 ac hI1 hc=>zAA ?_);try refine zqe ?_
 have hw1:=zAH hw0 hI1;have hTL1:=hTL0.mono hI1;have hI01:=zAB hI0 hI1;refine loop (λm s I2 Lx=>∃k:Nat,k+m=6∧s=(.int .i64 k,())∧I2=I1∧Lx=(b3,Obj.cells (Bc x (.slice a x.args.length k0)).toArray 65 (0,0))::(b1,Obj.cells exZ.toArray 65 (0,0))::(L1++(b,PBo v0)::L2)∧∀j,j < k→isT r0 (cmpLq.getD j [])=false) 6
  ⟨0,rfl,rfl,rfl,rfl,λj hj=>by omega⟩ ?_
 rintro m s I2 Lx ⟨k,hkm,rfl,rfl,rfl,hno⟩;unfold sh283_1;try refine zqe ?_
 refine AL (λhlt=>?_) (λhlt=>?_)
 ·simp at hlt;have hlt:k < 6:=by omega
  obtain ⟨bw,off,c,h1,_,h2,h3⟩:=RL.ix hc (i:=k) zo (by simp [cmpLq];omega);have hgk:QE cmpLq (k:Int)=cmpLq.getD k []:=by simp [QE];rfl
  rw [hgk] at h2;obtain rfl:=h2;have h1:ixV 1 (.slice ac 6 6) (.int .i64 k)=some (.pointer (some ⟨bw,off,none⟩)):=h1;simp only [h1,SSd,Nat.reduceAdd];refine rd1 ((h3 _ [] (zAC _) (λ_ h=>h) 0 _ rfl).mono (zAC _) (λ_ h=>by cases h)) ?_;refine Ai (Bv (cmpLq.getD k []) hTL1 hT0 (λhb hT' hl' v' hv'=>?_) (λhb=>?_))
  ·try refine zqe ?_
   have hop:=AFJ hlt hno hb;refine Bo (b:=b) ?_;simp only [SSd,Nat.reduceAdd,wrap_i64 (15+(k:Int)) zo];refine JZ rfl ?_;refine AX (hS _ _ _ _ _ _ _ inferInstance hv' hT' zo ?_ ?_);rotate_left
   ·intro e hg I3 v3 hI3;exact zAE (L1++(b,PBo v3)::L2) (zAA (herr e (by simp [Kz,hg0,Res.bind,hop,hg];omega) I3 v3 (zAB hI01 hI3)))
   intro y r hg hT3 hr I3 v3 u hI3 hTL3 hu;refine BK hI3 ?_;refine CJ (zAH hw1 hI3) hu (λI4 a4 hI4 h4=>zAA ?_);refine Ai (BC h4 ?_);repeat' (first|refine zqa ?_|refine zqh (λ_=>?_)|refine zqr ?_|refine zqb ?_|refine zqi ?_ ?_|refine zqc ?_|refine zqg (λ_=>?_) (λ_=>?_)|refine zqe ?_|fail)
   refine zAE (L1++(b,PBo v3)::L2) (zAA (hok (exK (15+k) [x,y]) r ?_ hT3 zo I4 v3 _ (zAB hI01 (zAB hI3 hI4)) (hTL3.mono hI4) h4));simp [Kz,hg0,Res.bind,hop,hg];omega
  ·simp only [SSd,Nat.reduceAdd,wrap_i64 ((k:Int)+1) zo];refine zAA ⟨m - 1,by omega,k+1,by omega,rfl,rfl,rfl,λj hj=>?_⟩;rcases Nat.lt_succ_iff_lt_or_eq.1 hj with hj|rfl
   ·exact hno j hj
   ·exact hb
 ·simp at hlt;have hop:GZ r0=0:=AFI λj hj=>hno j zo;clear hno hlt hkm hc;unfold sh283_3;repeat' (first|(with_reducible first|refine Bo (b:=b) ?_|refine keepA ?_|refine Ap (λ_=>?_))|(with_reducible refine AX ?_;refine hS.go zT zA zo (λy r' hg hT2 hr2 I' v' a' k' hI' hv' hw'=>?_) (λe hg I' v' hI'=>?_))|(with_reducible refine AX ?_;refine AEt n zo hE zT zA zo (λy r' hg hT2 hr2 hyl I' v' a' k' hI' hv' hw'=>?_) (λe hg I' v' hI'=>?_))|(with_reducible refine ASI rfl rfl zC zC zL zL (λI' a' k' hI' hw'=>zAA ?_))|(with_reducible refine Ai ?_;refine Bv _ zT zA (λhb hT' hl' v' hv'=>?_) (λhb=>?_))|(with_reducible refine Bd _ zT zA (λhb hT' hl' I' v' hI' hv'=>?_) (λhb I' v' hI'=>?_))|(with_reducible refine AX ?_;refine CS zT zA (λhb hT' hl' v' hv'=>?_) (λhb=>?_))|(with_reducible refine AX ?_;refine Af zT zA ?_)|(with_reducible first|refine Cb zC (λI' a hI' hw'=>zAA ?_)|refine CJ zC zC (λI' a hI' hw'=>zAA ?_)|refine Cj zC zC zC (λI' a hI' hw'=>zAA ?_))|(with_reducible refine Ai ?_;refine BC zC ?_)|refine zqr ?_|refine zqb ?_|(with_reducible first|refine BI (sh283_4.eq_1 ..) ?_|refine BI (sh283_7.eq_1 ..) ?_|refine BI (sh283_3.eq_1 ..) ?_|refine BI (sh283_1.eq_1 ..) ?_|refine BI (sh283.eq_1 ..) ?_|refine And.intro ?_ ?_)|refine zqc ?_|refine zqg (λhb=>?_) (λhb=>?_)|refine zqe ?_|fail)
  all_goals first
   |exact zAE (L1++(b,PBo v')::L2) (zAA (herr _ (by simp [Kz,hg0,hop,Res.bind,bad,AO, *] <;> rfl) _ _ zE))
   |exact zAE (L1++(b,PBo v')::L2) (zAA (hok _ _ (by simp [Kz,hg0,hop,Vg,Res.bind,bad,AO, *] <;> rfl) zA zo _ _ _ zE zT zC))
   |exact zAE (L1++(b,PBo v0)::L2) (zAA (hok _ _ (by simp [Kz,hg0,hop,Res.bind,bad,AO,Vg, *] <;> rfl) zA zo _ _ _ zE zT zC))
end
def NQ (E:Pr Ex)(a:List Ex)(r:List Tok):Res Ex:=(if isT r [101,108,115,101] then (E r.tail).bind λx r=>.ok (a++[x]) r else Res.ok a r).bind λa r=>(AO [101,110,100] r).bind λ_ r=>.ok (exK 26 a) r
theorem AGK (n:Nat)(E:Pr Ex)(l:List Tok):Jo n E l=(Ez n E [] l).bind λa r=>(FW n E n a r).bind (NQ E):=rfl
abbrev AGJ (w:Value):List Value:=[.int .i64 26,.int .i64 0,.bool false,.int .i64 0,.string ⟨#[]⟩,.string ⟨#[]⟩,.string ⟨#[]⟩,.int .i64 0,.int .i64 0,.bool false,w]
section
variable {ω:Om}{b:Nat}
theorem AGI (n:Nat)(hn0:n≤1000000000){E:Pr Ex}(hE:FnE ω n b 227 E):FnE ω n b 297 (Jo n E):=by
 intro K Pn I L C v l hF h hT hl hok herr;obtain ⟨L1,L2,rfl,rfl⟩:=hF.foc;refine AMp ?_;unfold AJN;refine Ap (λb1=>?_);try refine zqe ?_
 refine Ap (λb3=>?_);repeat' (first|refine zqa ?_|refine zqh (λ_=>?_)|refine zqr ?_|refine zqb ?_|refine zqi ?_ ?_|refine zqc ?_|refine zqg (λ_=>?_) (λ_=>?_)|refine zqe ?_|fail)
 refine loop (λm s I2 Lx=>∃(X:LH) (w:Value) (cells:List Value) (acc:List Ex) (v2:Value) (l2:List Tok) (f:Nat),l2.length=m∧Ext I I2∧Lx=(b3,Obj.cells (AGJ w).toArray 65 (0,0))::(b1,Obj.cells exZ.toArray 65 (0,0))::(X++(L1++(b,PBo v2)::L2))∧SlO 65 11 X w cells acc.length∧Recs (ExV I2) 11 acc cells∧TL I2 v2 l2∧Toks l2∧l2.length≤f∧l2.length≤l.length∧acc.length+l2.length≤l.length∧
   ((acc=[]∧w= .slice none 0 0∧Jo n E l=(Ez n E acc l2).bind λa r=>(FW n E f a r).bind (NQ E))∨((∃bb cap,w= .slice (some bb) acc.length cap)∧Jo n E l=(FW n E f acc l2).bind (NQ E)))) l.length
  ⟨[],.slice none 0 0,[],[],v,l,n,rfl,zAC _,rfl,zAJ _ _,rfl,h,hT,hl,zh _,by simp,.inl ⟨rfl,rfl,AGK n E l⟩⟩ ?_
 rintro m s I2 Lx ⟨X,w,cells,acc,v2,l2,f,rfl,hI2,rfl,hX,hR,hTL,hT2,hf,hlen,hal,hm⟩;unfold Yp;rcases hm with ⟨rfl,rfl,hm⟩|⟨⟨bb,cap,rfl⟩,hm⟩
 ·try refine zqe ?_
  refine rdb ?_;try refine zqe ?_
  refine Bd [119,104,101,110] hTL hT2 (λhb hT' hl' I3 v3 hI3 hv3=>?_) (λhb I3 v3 hI3=>zAE (L1++(b,PBo v3)::L2) (zAA (herr _ (by rw [hm];simp [Ez,AO,hb,Res.bind,bad]) I3 v3 (zAB hI2 hI3))));refine AX (hE.go hv3 hT' zo (λx r hg hT3 hr I4 v4 a4 k4 hI4 hv4 hw4=>?_) (λe hg I4 v4 hI4=>zAE (L1++(b,PBo v4)::L2) (zAA (herr e (by rw [hm];simp [Ez,AO,hb,Res.bind,hg]) I4 v4 (zAB hI2 (zAB hI3 hI4))))));refine Ap (λbw=>?_);repeat' (first|refine zqa ?_|refine zqh (λ_=>?_)|refine zqr ?_|refine zqb ?_|refine zqi ?_ ?_|refine zqc ?_|refine zqg (λ_=>?_) (λ_=>?_)|refine zqe ?_|fail)
  refine Bd [116,104,101,110] hv4 hT3 (λhb2 hT4 hl4 I5 v5 hI5 hv5=>?_) (λhb2 I5 v5 hI5=>zAE (L1++(b,PBo v5)::L2) (zAA (herr _ (by rw [hm];simp [Ez,AO,hb,hb2,Res.bind,hg,bad]) I5 v5 (zAB hI2 (zAB hI3 (zAB hI4 hI5))))));refine Bo (b:=b) ?_;try refine zqe ?_
  refine BJ ?_;refine JZ rfl ?_;refine AX (hE.go hv5 hT4 zo (λy r6 hg6 hT6 hr6 I6 v6 a6 k6 hI6 hv6 hw6=>?_) (λe hg6 I6 v6 hI6=>zAE (L1++(b,PBo v6)::L2) (zAA (herr e (by rw [hm];simp [Ez,AO,hb,hb2,Res.bind,hg,hg6]) I6 v6 (zAB hI2 (zAB hI3 (zAB hI4 (zAB hI5 hI6))))))));refine BK hI6 ?_;refine CJ (zAH hw4 (zAB hI5 hI6)) hw6 (λI7 a7 hI7 hw7=>zAA ?_);refine BK (zAB hI6 hI7) ?_;obtain ⟨c7,s7,r7⟩:=RL.toI zx hw7;refine BL (X:=X) rfl hX s7.news (r7.one_cells λx c h=>ExV.one h) zL zL (λX8 w8 hX8=>?_);have hI27:Ext I2 I7:=zAB hI3 (zAB hI4 (zAB hI5 (zAB hI6 hI7)));have hR8:=zAN (Recs.imp (R':=ExV I7) (λ_ _ h=>ExV.mono hI27 h) hR) r7;have e8:([]:List Ex).length+[x,y].length=(([]:List Ex)++[x,y]).length:=by simp
  rw [e8] at hX8;obtain ⟨a8,k8,ha8⟩:∃a k,w8= .slice (some a) (([]:List Ex)++[x,y]).length k:=by
   obtain ⟨_,h8⟩:=hX8;rcases h8 with ⟨_,h0,_⟩|⟨b8,k8,_,_,h8,_⟩
   ·simp at h0
   ·exact ⟨_,_,h8⟩
  subst ha8;repeat' (first|refine zqa ?_|refine zqh (λ_=>?_)|refine zqr ?_|refine zqb ?_|refine zqi ?_ ?_|refine zqc ?_|refine zqg (λ_=>?_) (λ_=>?_)|refine zqe ?_|fail)
  refine zAE ((b3,Obj.cells (AGJ (.slice (some a8) (([]:List Ex)++[x,y]).length k8)).toArray 65 (0,0))::(b1,Obj.cells exZ.toArray 65 (0,0))::(X8++(L1++(b,PBo v6)::L2))) (zAA ⟨r6.length,by omega,X8,_,_,([]:List Ex)++[x,y],v6,r6,f,rfl,zAB hI2 hI27,rfl,hX8,hR8,hv6.mono hI7,hT6,by omega,by omega,?_,.inr ⟨⟨a8,k8,rfl⟩,?_⟩⟩)
  ·simp only [zU] at hal ⊢;omega
  ·rw [hm];simp [Ez,AO,hb,hb2,Res.bind,hg,hg6]
 ·try refine zqe ?_
  refine rdb ?_;try refine zqe ?_
  refine Ai (IK [119,104,101,110] hTL hT2 (λhw=>?_) (λhw=>?_))
  ·try refine zqe ?_
   obtain ⟨f,rfl⟩:∃q,f=q+1:=⟨f - 1,by have:=hT2.len;omega⟩;have hm:Jo n E l=(Ez n E acc l2).bind λa r=>(FW n E f a r).bind (NQ E):=by
    rw [hm];simp only [FW,hw,if_true,Res.bind];cases Ez n E acc l2 <;> rfl
   refine Bd [119,104,101,110] hTL hT2 (λhb hT' hl' I3 v3 hI3 hv3=>?_) (λhb I3 v3 hI3=>zAE (L1++(b,PBo v3)::L2) (zAA (herr _ (by rw [hm];simp [Ez,AO,hb,Res.bind,bad]) I3 v3 (zAB hI2 hI3))));refine AX (hE.go hv3 hT' zo (λx r hg hT3 hr I4 v4 a4 k4 hI4 hv4 hw4=>?_) (λe hg I4 v4 hI4=>zAE (L1++(b,PBo v4)::L2) (zAA (herr e (by rw [hm];simp [Ez,AO,hb,Res.bind,hg]) I4 v4 (zAB hI2 (zAB hI3 hI4))))));refine Ap (λbw=>?_);repeat' (first|refine zqa ?_|refine zqh (λ_=>?_)|refine zqr ?_|refine zqb ?_|refine zqi ?_ ?_|refine zqc ?_|refine zqg (λ_=>?_) (λ_=>?_)|refine zqe ?_|fail)
   refine Bd [116,104,101,110] hv4 hT3 (λhb2 hT4 hl4 I5 v5 hI5 hv5=>?_) (λhb2 I5 v5 hI5=>zAE (L1++(b,PBo v5)::L2) (zAA (herr _ (by rw [hm];simp [Ez,AO,hb,hb2,Res.bind,hg,bad]) I5 v5 (zAB hI2 (zAB hI3 (zAB hI4 hI5))))));refine Bo (b:=b) ?_;try refine zqe ?_
   refine BJ ?_;refine JZ rfl ?_;refine AX (hE.go hv5 hT4 zo (λy r6 hg6 hT6 hr6 I6 v6 a6 k6 hI6 hv6 hw6=>?_) (λe hg6 I6 v6 hI6=>zAE (L1++(b,PBo v6)::L2) (zAA (herr e (by rw [hm];simp [Ez,AO,hb,hb2,Res.bind,hg,hg6]) I6 v6 (zAB hI2 (zAB hI3 (zAB hI4 (zAB hI5 hI6))))))));refine BK hI6 ?_;refine CJ (zAH hw4 (zAB hI5 hI6)) hw6 (λI7 a7 hI7 hw7=>zAA ?_);refine BK (zAB hI6 hI7) ?_;obtain ⟨c7,s7,r7⟩:=RL.toI zx hw7;refine BL (X:=X) rfl hX s7.news (r7.one_cells λx c h=>ExV.one h) zL zL (λX8 w8 hX8=>?_);have hI27:Ext I2 I7:=zAB hI3 (zAB hI4 (zAB hI5 (zAB hI6 hI7)));have hR8:=zAN (Recs.imp (R':=ExV I7) (λ_ _ h=>ExV.mono hI27 h) hR) r7;have e8:acc.length+[x,y].length=(acc++[x,y]).length:=by simp
   rw [e8] at hX8;obtain ⟨a8,k8,ha8⟩:∃a k,w8= .slice (some a) (acc++[x,y]).length k:=by
    obtain ⟨_,h8⟩:=hX8;rcases h8 with ⟨_,h0,_⟩|⟨b8,k8,_,_,h8,_⟩
    ·simp at h0
    ·exact ⟨_,_,h8⟩
   subst ha8;repeat' (first|refine zqa ?_|refine zqh (λ_=>?_)|refine zqr ?_|refine zqb ?_|refine zqi ?_ ?_|refine zqc ?_|refine zqg (λ_=>?_) (λ_=>?_)|refine zqe ?_|fail)
   refine zAE ((b3,Obj.cells (AGJ (.slice (some a8) (acc++[x,y]).length k8)).toArray 65 (0,0))::(b1,Obj.cells exZ.toArray 65 (0,0))::(X8++(L1++(b,PBo v6)::L2))) (zAA ⟨r6.length,by omega,X8,_,_,acc++[x,y],v6,r6,f,rfl,zAB hI2 hI27,rfl,hX8,hR8,hv6.mono hI7,hT6,by omega,by omega,?_,.inr ⟨⟨a8,k8,rfl⟩,?_⟩⟩)
   ·simp only [zU] at hal ⊢;omega
   ·rw [hm];simp [Ez,AO,hb,hb2,Res.bind,hg,hg6]
  ·try refine zqe ?_
   have hm:Jo n E l=NQ E acc l2:=by
    rw [hm];cases f with
    |zero=>rfl
    |succ f=>simp [FW,hw,Res.bind]
   unfold Yo;refine Ai (Bv [101,108,115,101] hTL hT2 (λhe hT' hl' v3 hv3=>?_) (λhe=>?_))
   ·try refine zqe ?_
    refine Bo (b:=b) ?_;try refine zqe ?_
    refine BJ ?_;refine AX (hE.go hv3 hT' zo (λx r hg hT3 hr I3 v3 a3 k3 hI3 hv3 hw3=>?_) (λe hg I3 v3 hI3=>zAE (L1++(b,PBo v3)::L2) (zAA (herr e (by rw [hm];simp [NQ,he,hg,Res.bind]) I3 v3 (zAB hI2 hI3)))));refine BK hI3 ?_;refine Cb hw3 (λI4 a4 hI4 hw4=>zAA ?_);refine BK (zAB hI3 hI4) ?_;obtain ⟨c4,s4,r4⟩:=RL.toI zx hw4;refine BL (X:=X) rfl hX s4.news (r4.one_cells λx c h=>ExV.one h) zL zL (λX5 w5 hX5=>?_);have e5:acc.length+[x].length=(acc++[x]).length:=by simp
    rw [e5] at hX5;obtain ⟨a5,k5,rfl⟩:=hX5.form;repeat' (first|refine zqa ?_|refine zqh (λ_=>?_)|refine zqr ?_|refine zqb ?_|refine zqi ?_ ?_|refine zqc ?_|refine zqg (λ_=>?_) (λ_=>?_)|refine zqe ?_|fail)
    have hR5:=zAN (Recs.imp (R':=ExV I4) (λ_ _ h=>ExV.mono (zAB hI3 hI4) h) hR) r4;have hg9:Jo n E l=((AO [101,110,100] r).bind λ_ r=>.ok (exK 26 (acc++[x])) r):=by rw [hm];simp only [NQ,he,if_true,hg,Res.bind]
    unfold Ny;refine Bd [101,110,100] (hv3.mono hI4) hT3 (λhb hT9 hl9 I9 v9 hI9 hv9=>?_) (λhb I9 v9 hI9=>zAE (L1++(b,PBo v9)::L2) (zAA (herr _ (by rw [hg9];simp [AO,hb,Res.bind,bad]) I9 v9 (zAB (zAB hI2 (zAB hI3 hI4)) hI9))));repeat' (first|refine zqa ?_|refine zqh (λ_=>?_)|refine zqr ?_|refine zqb ?_|refine zqi ?_ ?_|refine zqc ?_|refine zqg (λ_=>?_) (λ_=>?_)|refine zqe ?_|fail)
    refine zAE (X5++(L1++(b,PBo v9)::L2)) ?_;refine RL.ofO (R:=ExV) (λ{I I' x c} h hI=>ExV.mono hI h) hX5 (Recs.imp (λ_ _ h=>ExV.mono hI9 h) hR5) (λI10 hI10 hw10=>zAA ?_);exact hok (exK 26 (acc++[x])) _ (by rw [hg9];simp only [AO,hb,if_true,Res.bind]) hT9 zo I10 v9 _ (zAB (zAB hI2 (zAB hI3 hI4)) (zAB hI9 hI10)) (hv9.mono hI10) hw10
   ·try refine zqe ?_
    have hg9:Jo n E l=((AO [101,110,100] l2).bind λ_ r=>.ok (exK 26 acc) r):=by rw [hm];simp only [NQ,he,zl,if_false,Res.bind]
    unfold Ny;refine Bd [101,110,100] hTL hT2 (λhb hT9 hl9 I9 v9 hI9 hv9=>?_) (λhb I9 v9 hI9=>zAE (L1++(b,PBo v9)::L2) (zAA (herr _ (by rw [hg9];simp [AO,hb,Res.bind,bad]) I9 v9 (zAB hI2 hI9))));repeat' (first|refine zqa ?_|refine zqh (λ_=>?_)|refine zqr ?_|refine zqb ?_|refine zqi ?_ ?_|refine zqc ?_|refine zqg (λ_=>?_) (λ_=>?_)|refine zqe ?_|fail)
    refine zAE (X++(L1++(b,PBo v9)::L2)) ?_;refine RL.ofO (R:=ExV) (λ{I I' x c} h hI=>ExV.mono hI h) hX (Recs.imp (λ_ _ h=>ExV.mono hI9 h) hR) (λI10 hI10 hw10=>zAA ?_);exact hok (exK 26 (acc)) _ (by rw [hg9];simp only [AO,hb,if_true,Res.bind]) hT9 zo I10 v9 _ (zAB hI2 (zAB hI9 hI10)) (hv9.mono hI10) hw10
end
section
variable {ω:Om}{b:Nat}
theorem AIx {I:Imm}{L:LH}{K:Value→M}(hk:∀I' a,Ext I I'→ExL I' (.slice a 1 1) [exK 3 []]→Gh (K (.slice a 1 1)) I' L):
  AC 65 11 #[.int .i64 0,.int .i64 0,.bool false,.int .i64 0,.string ⟨#[]⟩,.string ⟨#[]⟩,.string ⟨#[]⟩,.int .i64 0,.int .i64 0,.bool false,.slice none 0 0] 1
   [(0,.agg #[.int .i64 3,.int .i64 0,.bool false,.int .i64 0,.string ⟨#[]⟩,.string ⟨#[]⟩,.string ⟨#[]⟩,.int .i64 0,.int .i64 0,.bool false,.slice none 0 0])] (gh K) I L:=
 Cb (x:=exK 3 []) (w:=.slice none 0 0) (zAD none 0) hk
theorem ACn (n:Nat)(hn0:n≤1000000000){E:Pr Ex}(hE:FnE ω n b 227 E)(s:Bs){I:Imm}{L:LH}{K Pn:Value→M}{C:Obj→LH}{v:Value}{l:List Tok}[hF:Foc b L (PBo v) C](h:TL I v l)(hT:Toks l)(hl:l.length≤n)
  (hyes:Ec s=true→∀x r,EP n E s l= .ok x r→Toks r→r.length≤l.length→∀I' v' w,Ext I I'→TL I' v' r→ExL I' w x.args→K (.tuple #[.agg (Bc x w).toArray,.bool true]) I' (C (PBo v')))
  (herr:Ec s=true→PEr (EP n E s l) Pn C I) (hno:Ec s=false→K (.tuple #[.agg exZ.toArray,.bool false]) I L):CalP Tryz.prog ω 298 #[Ac b,.string ⟨s.toArray⟩] K Pn I L:=by
 obtain ⟨L1,L2,rfl,rfl⟩:=hF.foc;refine AMo ?_;unfold sh298;refine Ap (λb1=>?_);have agg:∀c:Bool,isAgg s=c→(s==[99,111,97,108,101,115,99,101])=false→(s==[108,101,110,103,116,104])=false→
   sh298_1 ω (Ac b) (.string ⟨s.toArray⟩) (Ac b1) (.bool false) (.bool c) (λv=>Gh (K v)) (λv=>Gh (Pn v)) I ((b1,Obj.cells exZ.toArray 65 (0,0))::(L1++(b,PBo v)::L2)):=by
  intro c hc h1 h2;have hs1:s≠[99,111,97,108,101,115,99,101]:=by simpa using h1
  have hs2:s≠[108,101,110,103,116,104]:=by simpa using h2
  unfold sh298_1;cases c with
  |false=>
   repeat' (first|(with_reducible first|refine Bo (b:=b) ?_|refine keepA ?_|refine Ap (λ_=>?_))|(with_reducible refine Ai ?_;refine Bv _ zT zA (λhb hT' hl' v' hv'=>?_) (λhb=>?_))|(with_reducible refine Bd _ zT zA (λhb hT' hl' I' v' hI' hv'=>?_) (λhb I' v' hI'=>?_))|(with_reducible refine AX ?_;refine CS zT zA (λhb hT' hl' v' hv'=>?_) (λhb=>?_))|(with_reducible refine AX ?_;refine Af zT zA ?_)|(with_reducible first|refine Cb zC (λI' a hI' hw'=>zAA ?_)|refine CJ zC zC (λI' a hI' hw'=>zAA ?_)|refine Cj zC zC zC (λI' a hI' hw'=>zAA ?_))|(with_reducible refine Ai ?_;refine BC zC ?_)|refine zqr ?_|refine zqb ?_|refine zqi ?_ ?_|refine zqc ?_|refine zqg (λhb=>?_) (λhb=>?_)|refine zqe ?_|fail)
   exact zAE (L1++(b,PBo v)::L2) (zAA (hno (by simp [Ec,h1,h2,hc])))
  |true=>
   have hok:=hyes (by simp [Ec,hc]);have herr:=herr (by simp [Ec,hc]);repeat' (first|(with_reducible first|refine Bo (b:=b) ?_|refine keepA ?_|refine Ap (λ_=>?_))|(with_reducible refine AX ?_;refine hE.go zT zA zo (λy r' hg hT2 hr2 I' v' a' k' hI' hv' hw'=>?_) (λe hg I' v' hI'=>?_))|(with_reducible refine AIx (λI' a hI' hw'=>zAA ?_))|(with_reducible refine Ai ?_;refine Bv _ zT zA (λhb hT' hl' v' hv'=>?_) (λhb=>?_))|(with_reducible refine Bd _ zT zA (λhb hT' hl' I' v' hI' hv'=>?_) (λhb I' v' hI'=>?_))|(with_reducible refine AX ?_;refine CS zT zA (λhb hT' hl' v' hv'=>?_) (λhb=>?_))|(with_reducible refine AX ?_;refine Af zT zA ?_)|(with_reducible first|refine Cb zC (λI' a hI' hw'=>zAA ?_)|refine CJ zC zC (λI' a hI' hw'=>zAA ?_)|refine Cj zC zC zC (λI' a hI' hw'=>zAA ?_))|(with_reducible refine Ai ?_;refine BC zC ?_)|refine zqr ?_|refine zqb ?_|(with_reducible first|refine BI (sh298_3.eq_1 ..) ?_|refine BI (sh298_2.eq_1 ..) ?_|refine BI (sh298_4.eq_1 ..) ?_|refine BI (sh298_1.eq_1 ..) ?_|refine BI (sh298.eq_1 ..) ?_|refine And.intro ?_ ?_)|refine zqc ?_|refine zqg (λhb=>?_) (λhb=>?_)|refine zqe ?_|fail)
   all_goals (have hsc:(s==[99,111,117,110,116])=true→s=[99,111,117,110,116]:=λh=>by simpa using h)
   all_goals first
    |exact zAE (L1++(b,PBo v')::L2) (zAA (herr _ (by simp [EP,hs1,hs2,Res.bind,bad,AO, *] <;> rfl) _ _ zE))
    |exact zAE (L1++(b,PBo v')::L2) (zAA (hok (Jl s true [y]) _ (by simp [EP,hs1,hs2,Jl,Res.bind,bad,AO, *] <;> rfl) zA zo _ _ _ zE zT zC))
    |exact zAE (L1++(b,PBo v')::L2) (zAA (hok (Jl s false [y]) _ (by simp [EP,hs1,hs2,Jl,Res.bind,bad,AO, *] <;> rfl) zA zo _ _ _ zE zT zC))
    |exact zAE (L1++(b,PBo v')::L2) (zAA (hok (Jl s false [exK 3 []]) _ (by simp [EP,hs1,hs2,Jl,Res.bind,bad,AO, *] <;> rfl) zA zo _ _ _ zE zT zC))
 repeat' (first|(with_reducible first|refine Bo (b:=b) ?_|refine keepA ?_|refine Ap (λ_=>?_))|(with_reducible refine AX ?_;refine hE.go zT zA zo (λy r' hg hT2 hr2 I' v' a' k' hI' hv' hw'=>?_) (λe hg I' v' hI'=>?_))|(with_reducible refine AX ?_;refine AEt n zo hE zT zA zo (λy r' hg hT2 hr2 hyl I' v' a' k' hI' hv' hw'=>?_) (λe hg I' v' hI'=>?_))|(with_reducible refine Ai ?_;refine Bv _ zT zA (λhb hT' hl' v' hv'=>?_) (λhb=>?_))|(with_reducible refine Bd _ zT zA (λhb hT' hl' I' v' hI' hv'=>?_) (λhb I' v' hI'=>?_))|(with_reducible refine AX ?_;refine CS zT zA (λhb hT' hl' v' hv'=>?_) (λhb=>?_))|(with_reducible refine AX ?_;refine Af zT zA ?_)|(with_reducible first|refine Cb zC (λI' a hI' hw'=>zAA ?_)|refine CJ zC zC (λI' a hI' hw'=>zAA ?_)|refine Cj zC zC zC (λI' a hI' hw'=>zAA ?_))|(with_reducible refine Ai ?_;refine BC zC ?_)|refine zqr ?_|refine zqb ?_|refine zqi ?_ ?_|refine zqc ?_|refine zqg (λhb=>?_) (λhb=>?_)|refine zqe ?_|fail)
 all_goals (have hsc:(s==[99,111,97,108,101,115,99,101])=true→s=[99,111,97,108,101,115,99,101]:=λh=>by simpa using h)
 all_goals (have hsl:(s==[108,101,110,103,116,104])=true→s=[108,101,110,103,116,104]:=λh=>by simpa using h)
 all_goals first
  |exact agg true (by simp [isAgg, *]) zA zA
  |exact agg _ (by simp [isAgg, *]) zA zA
  |(have hs:=hsc zA;have hyes:=hyes (by simp [Ec, *]);have herr:=herr (by simp [Ec, *]);first
    |exact zAE (L1++(b,PBo v')::L2) (zAA (herr _ (by simp [EP,hs,Res.bind,bad,AO, *] <;> rfl) _ _ zE))
    |exact zAE (L1++(b,PBo v')::L2) (zAA (hyes _ _ (by simp [EP,hs,Res.bind,bad,AO, *] <;> rfl) zA zo _ _ _ zE zT zC)))
  |(have hs:=hsl zA;have hyes:=hyes (by simp [Ec, *]);have herr:=herr (by simp [Ec, *]);first
    |exact zAE (L1++(b,PBo v')::L2) (zAA (herr _ (by simp [EP,hs,Res.bind,bad,AO, *] <;> rfl) _ _ zE))
    |exact zAE (L1++(b,PBo v')::L2) (zAA (hyes _ _ (by simp [EP,hs,Res.bind,bad,AO, *] <;> rfl) zA zo _ _ _ zE zT zC)))
end
section
variable {ω:Om}{b:Nat}
theorem AIo (n:Nat)(hn0:n≤1000000000){E:Pr Ex}(hE:FnE ω n b 227 E)(s:Bs){I:Imm}{L:LH}{K Pn:Value→M}{C:Obj→LH}{v:Value}{l:List Tok}[hF:Foc b L (PBo v) C](h:TL I v l)(hT:Toks l)(hl:l.length≤n)
  (hyes:Ec s=true→∀x r,EP n E s l= .ok x r→Toks r→r.length≤l.length→∀I' v' a k,Ext I I'→TL I' v' r→ExL I' (.slice a x.args.length k) x.args→K (.tuple #[.agg (Bc x (.slice a x.args.length k)).toArray,.bool true]) I' (C (PBo v')))
  (herr:Ec s=true→PEr (EP n E s l) Pn C I) (hno:Ec s=false→K (.tuple #[.agg exZ.toArray,.bool false]) I L):CalP Tryz.prog ω 298 #[Ac b,.string ⟨s.toArray⟩] K Pn I L:=
 ACn n hn0 hE s h hT hl (λhc x r hg hT' hr I' v' w hI hv' hw=>by
  obtain ⟨a,k,rfl⟩:=zAF hw;exact hyes hc x r hg hT' hr I' v' a k hI hv' hw) herr hno
theorem ADA (n:Nat)(hn0:n≤1000000000){E U:Pr Ex}(hE:FnE ω n b 227 E)(hU:FnE ω n b 294 U):FnE ω (n+1) b 294 (Hw n E U):=by
 intro K Pn I L C v l hF h hT hl hok herr;obtain ⟨L1,L2,rfl,rfl⟩:=hF.foc;have hC:=AGI n hn0 hE;have hN:FnE ω (n+1) b 285 Qr:=Ru (n+1);obtain ⟨bt,off,h1,h2⟩:=h.hd hT;refine AMq ?_;unfold sh294;repeat' (first|(with_reducible first|refine Bo (b:=b) ?_|refine keepA ?_|refine Ap (λ_=>?_))|(with_reducible refine AX ?_;refine hE.go zT zA zo (λy r' hg hT2 hr2 I' v' a' k' hI' hv' hw'=>?_) (λe hg I' v' hI'=>?_))|(with_reducible refine AX ?_;refine hU.go zT zA zo (λy r' hg hT2 hr2 I' v' a' k' hI' hv' hw'=>?_) (λe hg I' v' hI'=>?_))|(with_reducible refine AX ?_;refine hC.go zT zA zo (λy r' hg hT2 hr2 I' v' a' k' hI' hv' hw'=>?_) (λe hg I' v' hI'=>?_))|(with_reducible refine AX ?_;refine hN.go zT zA zo (λy r' hg hT2 hr2 I' v' a' k' hI' hv' hw'=>?_) (λe hg I' v' hI'=>?_))|(with_reducible refine Ai ?_;refine LJ zT zA (λx hx hT' hl' v' hv'=>?_) (λhx=>?_))|(with_reducible refine Ai ?_;refine IK _ zT zA (λhb=>?_) (λhb=>?_))|(with_reducible refine AX ?_;refine AIo n hn0 hE _ zT zA zo (λhcl y r' hg hT2 hr2 I' v' a' k' hI' hv' hw'=>?_) (λhcl e hg I' v' hI'=>?_) (λhcl=>?_))|((with_reducible refine rd1 (v:=.int .i64 (hd l).kind) ?_ ?_);exact (h2 _ [] (zAC _) 0 _ rfl).mono (zAC _) (λ_ h=>by cases h))|(with_reducible refine Ai ?_;refine Bv _ zT zA (λhb hT' hl' v' hv'=>?_) (λhb=>?_))|(with_reducible refine Bd _ zT zA (λhb hT' hl' I' v' hI' hv'=>?_) (λhb I' v' hI'=>?_))|(with_reducible refine AX ?_;refine CS zT zA (λhb hT' hl' v' hv'=>?_) (λhb=>?_))|(with_reducible refine AX ?_;refine Af zT zA ?_)|(with_reducible first|refine Cb zC (λI' a hI' hw'=>zAA ?_)|refine CJ zC zC (λI' a hI' hw'=>zAA ?_)|refine Cj zC zC zC (λI' a hI' hw'=>zAA ?_))|(with_reducible refine Ai ?_;refine BC zC ?_)|refine zqr ?_|refine zqb ?_|(with_reducible first|refine BI (sh294_1.eq_1 ..) ?_|refine BI (sh294.eq_1 ..) ?_|refine And.intro ?_ ?_)|refine zqc ?_|refine zqg (λhb=>?_) (λhb=>?_)|(simp only [SSd,Nat.reduceAdd,h1]))
 all_goals (try have hk3:isK l 3=false:=‹((hd l).kind==3)=false›)
 all_goals (try have hk3:isK l 3=true:=‹((hd l).kind==3)=true›)
 all_goals first
  |exact zAE (L1++(b,PBo v')::L2) (zAA (herr _ (by simp [Hw,Aw,Res.bind,bad,AO, *] <;> rfl) _ _ zE))
  |exact zAE (L1++(b,PBo v')::L2) (zAA (hok _ _ (by simp [Hw,Aw,Res.bind,bad,AO, *] <;> rfl) zA zo _ _ _ zE zT zC))
  |exact zAE (L1++(b,PBo v')::L2) (zAA (hok (SH (hd l).text (hd l.tail.tail).text) _ (by simp [Hw,Aw,Res.bind,bad,AO, *] <;> rfl) zA zo _ _ _ zE zT zC))
  |exact zAE (L1++(b,PBo v')::L2) (zAA (hok (SH [] (hd l).text) _ (by simp [Hw,Aw,Res.bind,bad,AO, *] <;> rfl) zA zo _ _ _ zE zT zC))
  |exact zAE (L1++(b,PBo v)::L2) (zAA (herr _ (by simp [Hw,Aw,Res.bind,bad,AO, *] <;> rfl) _ _ zE))
theorem exprs (ω:Om)(b:Nat):∀n,n≤1000000000→FnE ω n b 227 (eP n)∧FnE ω n b 272 (nP n)∧FnE ω n b 294 (uP n)
 |0,_=>by
  have h0:∀f g,FnE ω 0 b f g:=λf g K Pn I L C v l hF h hT hl _ _=>by have:=hT.len;omega
  exact ⟨h0 _ _,h0 _ _,h0 _ _⟩
 |n+1,hn=>by
  obtain ⟨hE,hN,hU⟩:=exprs ω b n zo;have u:=ADA n zo hE hU;have s:=ALm n (AHZ n u);have nn:=AMI n hN (AIH n hn hE s);exact ⟨AId n (APE n nn),nn,u⟩
end
abbrev VOk {α:Type}(R:Imm→α→List Value→Prop)(g:Res α)(n:Nat)(K:Value→M)(C:Obj→LH)(I:Imm):Prop:=
 ∀x r,g= .ok x r→Toks r→r.length≤n→∀I' v' c,Ext I I'→TL I' v' r→R I' x c→K (.agg c.toArray) I' (C (PBo v'))
def FnV {α:Type}(ω:Om)(n b f:Nat)(g:Pr α)(R:Imm→α→List Value→Prop):Prop:=
 ∀(K Pn:Value→M) (I:Imm) (L:LH) (C:Obj→LH) (v:Value) (l:List Tok),Foc b L (PBo v) C→TL I v l→Toks l→l.length≤n→VOk R (g l) l.length K C I→PEr (g l) Pn C I→CalP Tryz.prog ω f #[Ac b] K Pn I L
theorem FnV.go {α:Type}{ω:Om}{n b f:Nat}{g:Pr α}{R:Imm→α→List Value→Prop}(h:FnV ω n b f g R){I:Imm}{L:LH}{K Pn:Value→M}{C:Obj→LH}{v:Value}{l:List Tok}[hF:Foc b L (PBo v) C](hv:TL I v l)(hT:Toks l)(hl:l.length≤n)(hok:VOk R (g l) l.length K C I)(herr:PEr (g l) Pn C I):
  CalP Tryz.prog ω f #[Ac b] K Pn I L:=h K Pn I L C v l hF hv hT hl hok herr
theorem FnV.one {α:Type}{ω:Om}{n b f:Nat}{g:Pr α}{R:Imm→α→List Value→Prop}{I0:Imm}(h:FnV ω n b f g R)(he:CU Tryz.prog f=true):OneP ω n b g (XE R) (.func (.func f) #[Ac b] #[]) I0:=by
 intro K Pn I L C v l hF hI hv hT hl hok herr;exact Lc he (h K Pn I L C v l hF hv hT hl (λx r hg hT' hr I' v' c hI' hv' hc=>hok x r hg hT' hr I' v' _ hI' hv' ⟨c,rfl,hc⟩) herr)
section
variable {ω:Om}{b:Nat}
theorem ALv (n:Nat)(hE:FnE ω n b 227 (eP n)):FnV ω n b 193 (Xi n) TSetV:=by
 intro K Pn I L C v l hF h hT hl hok herr;obtain ⟨L1,L2,rfl,rfl⟩:=hF.foc;refine AOC ?_;unfold AKK;repeat' (first|(with_reducible first|refine Bo (b:=b) ?_|refine keepA ?_|refine Ap (λ_=>?_))|(with_reducible refine AX ?_;refine hE.go zT zA zo (λy r' hg hT2 hr2 I' v' a' k' hI' hv' hw'=>?_) (λe hg I' v' hI'=>?_))|(with_reducible refine Ai ?_;refine Bv _ zT zA (λhb hT' hl' v' hv'=>?_) (λhb=>?_))|(with_reducible refine Bd _ zT zA (λhb hT' hl' I' v' hI' hv'=>?_) (λhb I' v' hI'=>?_))|(with_reducible refine AX ?_;refine CS zT zA (λhb hT' hl' v' hv'=>?_) (λhb=>?_))|(with_reducible refine AX ?_;refine Af zT zA ?_)|(with_reducible first|refine Cb zC (λI' a hI' hw'=>zAA ?_)|refine CJ zC zC (λI' a hI' hw'=>zAA ?_)|refine Cj zC zC zC (λI' a hI' hw'=>zAA ?_))|(with_reducible refine Ai ?_;refine BC zC ?_)|refine zqr ?_|refine zqb ?_|refine zqi ?_ ?_|refine zqc ?_|refine zqg (λhb=>?_) (λhb=>?_)|refine zqe ?_|fail)
 all_goals first
  |exact zAE (L1++(b,PBo v')::L2) (zAA (herr _ (by simp [Xi,Aw,Res.bind,bad,AO, *] <;> rfl) _ _ zE))
  |exact zAE (L1++(b,PBo v)::L2) (zAA (herr _ (by simp [Xi,Aw,Res.bind,bad,AO, *] <;> rfl) _ _ zE))
  |exact zAE (L1++(b,PBo v')::L2) (zAA (hok ⟨(hd l).text,y⟩ _ (by simp [Xi,Aw,AO,Res.bind, *] <;> rfl) zA zo _ _ _ zE zT ⟨_,rfl,zC⟩))
theorem KQ (n:Nat)(hE:FnE ω n b 227 (eP n))(s:Bs){I:Imm}{L:LH}{K Pn:Value→M}{C:Obj→LH}{v:Value}{l:List Tok}[hF:Foc b L (PBo v) C](h:TL I v l)(hT:Toks l)(hl:l.length≤n)
  (hok:∀x r,Eh n s l= .ok x r→Toks r→r.length≤l.length→∀I' v' a k,Ext I I'→TL I' v' r→ExL I' (.slice a x.args.length k) x.args→K (.agg (Bc x (.slice a x.args.length k)).toArray) I' (C (PBo v'))) (herr:PEr (Eh n s l) Pn C I):
  CalP Tryz.prog ω 194 #[Ac b,.string ⟨s.toArray⟩] K Pn I L:=by
 obtain ⟨L1,L2,rfl,rfl⟩:=hF.foc;refine AOB ?_;unfold AKJ;repeat' (first|(with_reducible first|refine Bo (b:=b) ?_|refine keepA ?_|refine Ap (λ_=>?_))|(with_reducible refine AX ?_;refine hE.go zT zA zo (λy r' hg hT2 hr2 I' v' a' k' hI' hv' hw'=>?_) (λe hg I' v' hI'=>?_))|(with_reducible refine Ai ?_;refine Bv _ zT zA (λhb hT' hl' v' hv'=>?_) (λhb=>?_))|(with_reducible refine Bd _ zT zA (λhb hT' hl' I' v' hI' hv'=>?_) (λhb I' v' hI'=>?_))|(with_reducible refine AX ?_;refine CS zT zA (λhb hT' hl' v' hv'=>?_) (λhb=>?_))|(with_reducible refine AX ?_;refine Af zT zA ?_)|(with_reducible first|refine Cb zC (λI' a hI' hw'=>zAA ?_)|refine CJ zC zC (λI' a hI' hw'=>zAA ?_)|refine Cj zC zC zC (λI' a hI' hw'=>zAA ?_))|(with_reducible refine Ai ?_;refine BC zC ?_)|refine zqr ?_|refine zqb ?_|refine zqi ?_ ?_|refine zqc ?_|refine zqg (λhb=>?_) (λhb=>?_)|refine zqe ?_|fail)
 all_goals first
  |exact zAE (L1++(b,PBo v')::L2) (zAA (herr _ (by simp [Eh,Res.bind,bad,AO, *] <;> rfl) _ _ zE))
  |exact zAE (L1++(b,PBo v)::L2) (zAA (hok ex0 l (by simp [Eh, *]) hT (zh _) I v none 0 (zAC _) h (zAD none 0)))
  |exact zAE (L1++(b,PBo v')::L2) (zAA (hok y _ (by simp [Eh, *] <;> rfl) zA zo _ _ _ _ zE zT zC))
theorem QU {I:Imm}{L:LH}{K Pn:Value→M}{C:Obj→LH}{v:Value}{l:List Tok}[hF:Foc b L (PBo v) C](h:TL I v l)(hT:Toks l)
  (hok:∀x r,GH l= .ok x r→Toks r→r.length+1=l.length→∀v',TL I v' r→K (.int .i64 x) I (C (PBo v'))) (herr:∀e,GH l= .err e→Pn (En e) I L):
  CalP Tryz.prog ω 230 #[Ac b] K Pn I L:=by
 obtain ⟨L1,L2,rfl,rfl⟩:=hF.foc;obtain ⟨bt,off,h1,h2⟩:=h.hd hT;refine ANf ?_;unfold sh230;repeat' (first|(with_reducible first|refine Bo (b:=b) ?_|refine keepA ?_|refine Ap (λ_=>?_))|((with_reducible refine rd1 (v:=.int .i64 (hd l).kind) ?_ ?_);exact (h2 _ [] (zAC _) 0 _ rfl).mono (zAC _) (λ_ h=>by cases h))|((with_reducible refine rd1 (v:=.int .i64 (hd l).num) ?_ ?_);exact (h2 _ [] (zAC _) 3 _ rfl).mono (zAC _) (λ_ h=>by cases h))|(with_reducible refine AX ?_;refine UN 3 zx zT zA (λhk v' hv'=>?_) (λhk=>?_))|(with_reducible refine Ai ?_;refine Bv _ zT zA (λhb hT' hl' v' hv'=>?_) (λhb=>?_))|(with_reducible refine Bd _ zT zA (λhb hT' hl' I' v' hI' hv'=>?_) (λhb I' v' hI'=>?_))|(with_reducible refine AX ?_;refine CS zT zA (λhb hT' hl' v' hv'=>?_) (λhb=>?_))|(with_reducible refine AX ?_;refine Af zT zA ?_)|(with_reducible first|refine Cb zC (λI' a hI' hw'=>zAA ?_)|refine CJ zC zC (λI' a hI' hw'=>zAA ?_)|refine Cj zC zC zC (λI' a hI' hw'=>zAA ?_))|(with_reducible refine Ai ?_;refine BC zC ?_)|refine zqr ?_|refine zqb ?_|(with_reducible first|refine BI (sh230_2.eq_1 ..) ?_|refine BI (sh230_1.eq_1 ..) ?_|refine BI (sh230.eq_1 ..) ?_|refine And.intro ?_ ?_)|refine zqc ?_|refine zqg (λhb=>?_) (λhb=>?_)|(simp only [SSd,Nat.reduceAdd,h1]))
 all_goals (try have hd1:=of_decide_eq_true hb)
 all_goals (try have hd2:=of_decide_eq_false hb)
 all_goals first
  |(exfalso;simp_all [isK];done)
  |exact zAA (hok _ _ (by unfold GH;rw [if_pos (by simp [hk];omega)]) (hT.tailK hk) hT.len v' hv')
  |exact zAA (herr _ (by simp_all [GH,isK,bad] <;> rfl))
  |exact zAA (herr _ (by unfold GH;rw [if_neg (by simp;intros;omega)];rfl))
theorem AFG (n:Nat)(hE:FnE ω n b 227 (eP n)):FnV ω n b 229 (Iu n) TOrderV:=by
 intro K Pn I L C v l hF h hT hl hok herr;obtain ⟨L1,L2,rfl,rfl⟩:=hF.foc;refine ANg ?_;unfold sh229;repeat' (first|(with_reducible first|refine Bo (b:=b) ?_|refine keepA ?_|refine Ap (λ_=>?_))|(with_reducible refine AX ?_;refine hE.go zT zA zo (λy r' hg hT2 hr2 I' v' a' k' hI' hv' hw'=>?_) (λe hg I' v' hI'=>?_))|(with_reducible refine Ai ?_;refine Bv _ zT zA (λhb hT' hl' v' hv'=>?_) (λhb=>?_))|(with_reducible refine Bd _ zT zA (λhb hT' hl' I' v' hI' hv'=>?_) (λhb I' v' hI'=>?_))|(with_reducible refine AX ?_;refine CS zT zA (λhb hT' hl' v' hv'=>?_) (λhb=>?_))|(with_reducible refine AX ?_;refine Af zT zA ?_)|(with_reducible first|refine Cb zC (λI' a hI' hw'=>zAA ?_)|refine CJ zC zC (λI' a hI' hw'=>zAA ?_)|refine Cj zC zC zC (λI' a hI' hw'=>zAA ?_))|(with_reducible refine Ai ?_;refine BC zC ?_)|refine zqr ?_|refine zqb ?_|(with_reducible first|refine BI (sh229_1.eq_1 ..) ?_|refine BI (sh229.eq_1 ..) ?_|refine And.intro ?_ ?_)|refine zqc ?_|refine zqg (λhb=>?_) (λhb=>?_)|refine zqe ?_|fail)
 all_goals first
  |exact zAE (L1++(b,PBo v')::L2) (zAA (herr _ (by simp [Iu,Res.bind,bad,AO, *] <;> rfl) _ _ zE))
  |exact zAE (L1++(b,PBo v')::L2) (zAA (hok ⟨y,true⟩ _ (by simp [Iu,Res.bind, *] <;> rfl) zA zo _ _ _ zE zT ⟨_,rfl,zC⟩))
  |exact zAE (L1++(b,PBo v')::L2) (zAA (hok ⟨y,false⟩ _ (by simp [Iu,Res.bind, *] <;> rfl) zA zo _ _ _ zE zT ⟨_,rfl,zC⟩))
theorem RI (n:Nat):FnV ω n b 257 DK TSourceV:=by
 intro K Pn I L C v l hF h hT hl hok herr;obtain ⟨L1,L2,rfl,rfl⟩:=hF.foc;refine ANL ?_;unfold sh257;refine Ap (λb1=>?_);refine AX (CS h hT (λhn hT1 hl1 v1 hv1=>?_) (λhn=>zAE (L1++(b,PBo v)::L2) (zAA (herr (hd l).at' (by simp [DK,Aw,Res.bind,bad,hn]) I v (zAC _)))));obtain ⟨bt,off,h1,h2⟩:=hv1.hd hT1;repeat' (first|(with_reducible first|refine Bo (b:=b) ?_|refine keepA ?_|refine Ap (λ_=>?_))|((with_reducible refine rd1 (v:=.int .i64 (hd l.tail).kind) ?_ ?_);exact (h2 _ [] (zAC _) 0 _ rfl).mono (zAC _) (λ_ h=>by cases h))|(with_reducible refine Ai ?_;refine Bv _ zT zA (λhb hT' hl' v' hv'=>?_) (λhb=>?_))|(with_reducible refine Bd _ zT zA (λhb hT' hl' I' v' hI' hv'=>?_) (λhb I' v' hI'=>?_))|(with_reducible refine AX ?_;refine CS zT zA (λhb hT' hl' v' hv'=>?_) (λhb=>?_))|(with_reducible refine AX ?_;refine Af zT zA ?_)|(with_reducible first|refine Cb zC (λI' a hI' hw'=>zAA ?_)|refine CJ zC zC (λI' a hI' hw'=>zAA ?_)|refine Cj zC zC zC (λI' a hI' hw'=>zAA ?_))|(with_reducible refine Ai ?_;refine BC zC ?_)|refine zqr ?_|refine zqb ?_|(with_reducible first|refine BI (sh257_2.eq_1 ..) ?_|refine BI (sh257_1.eq_1 ..) ?_|refine BI (sh257.eq_1 ..) ?_|refine And.intro ?_ ?_)|refine zqc ?_|refine zqg (λhb=>?_) (λhb=>?_)|(simp only [SSd,Nat.reduceAdd,h1]))
 all_goals (try have hk1:isK l.tail 1=true:=‹((hd l.tail).kind==1)=true›)
 all_goals (try have hk1:isK l.tail 1=false:=‹((hd l.tail).kind==1)=false›)
 all_goals (try (exfalso;simp_all;done))
 all_goals first
  |exact zAE (L1++(b,PBo v')::L2) (zAA (herr _ (by simp [DK,Aw,Res.bind,bad,AO, *] <;> rfl) _ _ zE))
  |exact zAE (L1++(b,PBo v1)::L2) (zAA (herr _ (by simp [DK,Aw,Res.bind,bad,AO, *] <;> rfl) _ _ zE))
  |exact zAE (L1++(b,PBo v')::L2) (zAA (hok ⟨_,_,false,ex0⟩ _ (by simp [DK,Aw,Res.bind, *] <;> rfl) zA zo _ _ _ zE zT ⟨.slice none 0 0,rfl,zAD none 0⟩))
  |exact zAE (L1++(b,PBo v1)::L2) (zAA (hok ⟨(hd l).text,[],false,ex0⟩ _ (by simp [DK,Aw,Res.bind, *] <;> rfl) zA zo _ _ _ zE zT ⟨.slice none 0 0,rfl,zAD none 0⟩))
end
section
variable {ω:Om}{I:Imm}{L:LH}{K Pn:Value→M}{C:Obj→LH}{b:Nat}{v:Value}{l:List Tok}
theorem TL.at (h:TL I v l){j:Nat}(hj:j < l.length){t:Tok}(ht:l[j]? =some t):∃bt off,ixV 4 v (.int .i64 (j:Int))=some (.pointer (some ⟨bt,off,none⟩))∧∀I' L',Ext I I'→Cells I' L' bt off [.int .i64 t.kind,.int .i64 t.at',.string ⟨t.text.toArray⟩,.int .i64 t.num]:=by
 obtain ⟨bt,off,c,h1,_,h2,h3⟩:=RL.ix h (i:=(j:Int)) zo zo;have:QE l (j:Int)=t:=by rw [BA hj];exact Option.some.inj ((zam hj).symm.trans ht)
 rw [this] at h2;rw [show c=_ from h2] at h3;exact ⟨bt,off,h1,λI' L' hI=>h3 I' L' hI (λ_ h=>by cases h)⟩
def FZ (l:List Tok):Bool:=isK l 1&&isK l.tail 5&&(hd l.tail).text==[46]&&isK l.tail.tail 5&&(hd l.tail.tail).text==[42]
theorem ACH {n:Nat}(h0:isT l [42]=false)(hs:FZ l=true):Ic n l= .ok ⟨true,(hd l).text,ex0,[]⟩ l.tail.tail.tail:=by
 simp only [Ic,h0,zl,if_false];exact if_pos hs
theorem Hg {n:Nat}(h0:isT l [42]=false)(hs:FZ l=false):Ic n l=(eP n l).bind λx r=>if isT r [97,115] then (Aw r.tail).bind λa r=>.ok ⟨false,[],x,a⟩ r else .ok ⟨false,[],x,[]⟩ r:=by
 simp only [Ic,h0,zl,if_false];unfold FZ at hs;exact if_neg (by rw [hs];decide)
theorem ABa (hT:Toks l)(h:FZ l=true):3 < l.length:=by
 simp only [FZ,zQ] at h;obtain ⟨⟨⟨⟨h1,h2⟩,_⟩,h3⟩,_⟩:=h;have hT1:=hT.tailK h1;have hT2:=hT1.tailK h2;have hT3:=hT2.tailK h3;have:=hT.len;have:=hT1.len;have:=hT2.len;have:=hT3.len;omega
theorem AIU (n:Nat)(hE:FnE ω n b 227 (eP n)):FnV ω n b 224 (Ic n) TItemV:=by
 intro K Pn I L C v l hF h hT hl hok herr;obtain ⟨L1,L2,rfl,rfl⟩:=hF.foc;refine ANl ?_;unfold sh224;refine Ap (λb1=>?_);refine Ai (Bv [42] h hT (λhb hT' hl' v' hv'=>?_) (λhb0=>?_))
 ·repeat' (first|refine zqa ?_|refine zqh (λ_=>?_)|refine zqr ?_|refine zqb ?_|refine zqi ?_ ?_|refine zqc ?_|refine zqg (λ_=>?_) (λ_=>?_)|refine zqe ?_|fail)
  exact zAE (L1++(b,PBo v')::L2) (zAA (hok ⟨true,[],ex0,[]⟩ _ (by simp [Ic,hb]) hT' zo _ _ _ (zAC _) hv' ⟨.slice none 0 0,rfl,zAD none 0⟩))
 cases hlen:decide ((3:Int) < (l.length:Nat)) with
 |true=>
  have hlen:=of_decide_eq_true hlen;obtain ⟨t1,t2,t3,t4,r,rfl⟩:∃t1 t2 t3 t4 r,l=t1::t2::t3::t4::r:=by
   match l,hlen with
   |t1::t2::t3::t4::r,_=>exact ⟨t1,t2,t3,t4,r,rfl⟩
  obtain ⟨p1,o1,i1,c1⟩:=h.at (j:=0) zy (t:=t1) rfl;obtain ⟨p2,o2,i2,c2⟩:=h.at (j:=1) zy (t:=t2) rfl;obtain ⟨p3,o3,i3,c3⟩:=h.at (j:=2) zy (t:=t3) rfl;have i1:ixV 4 v (.int .i64 0)=_:=i1;have i2:ixV 4 v (.int .i64 1)=_:=i2;have i3:ixV 4 v (.int .i64 2)=_:=i3;have hl3:decide (((t1::t2::t3::t4::r).length:Nat) > (3:Int))=true:=decide_eq_true hlen;simp only [zAK h,hl3,SSd,Nat.reduceAdd];repeat' (first|(with_reducible first|refine Bo (b:=b) ?_|refine keepA ?_|refine Ap (λ_=>?_))|((with_reducible refine rd1 (v:=.int .i64 t1.kind) ?_ ?_);exact (c1 _ [] (zAC _) 0 _ rfl).mono (zAC _) (λ_ h=>by cases h))|((with_reducible refine rd1 (v:=.int .i64 t2.kind) ?_ ?_);exact (c2 _ [] (zAC _) 0 _ rfl).mono (zAC _) (λ_ h=>by cases h))|((with_reducible refine rd1 (v:=.string ⟨t2.text.toArray⟩) ?_ ?_);exact (c2 _ [] (zAC _) 2 _ rfl).mono (zAC _) (λ_ h=>by cases h))|((with_reducible refine rd1 (v:=.int .i64 t3.kind) ?_ ?_);exact (c3 _ [] (zAC _) 0 _ rfl).mono (zAC _) (λ_ h=>by cases h))|((with_reducible refine rd1 (v:=.string ⟨t3.text.toArray⟩) ?_ ?_);exact (c3 _ [] (zAC _) 2 _ rfl).mono (zAC _) (λ_ h=>by cases h))|(with_reducible refine AX ?_;refine hE.go zT zA zo (λy r' hg hT2 hr2 I' v' a' k' hI' hv' hw'=>?_) (λe hg I' v' hI'=>?_))|(with_reducible refine Ai ?_;refine Bv _ zT zA (λhb hT' hl' v' hv'=>?_) (λhb=>?_))|(with_reducible refine Bd _ zT zA (λhb hT' hl' I' v' hI' hv'=>?_) (λhb I' v' hI'=>?_))|(with_reducible refine AX ?_;refine CS zT zA (λhb hT' hl' v' hv'=>?_) (λhb=>?_))|(with_reducible refine AX ?_;refine Af zT zA ?_)|(with_reducible first|refine Cb zC (λI' a hI' hw'=>zAA ?_)|refine CJ zC zC (λI' a hI' hw'=>zAA ?_)|refine Cj zC zC zC (λI' a hI' hw'=>zAA ?_))|(with_reducible refine Ai ?_;refine BC zC ?_)|refine zqr ?_|refine zqb ?_|(with_reducible first|refine BI (sh224_1.eq_1 ..) ?_|refine BI (sh224_3.eq_1 ..) ?_|refine BI (sh224_2.eq_1 ..) ?_|refine BI (sh224.eq_1 ..) ?_|refine And.intro ?_ ?_)|refine zqc ?_|refine zqg (λhb=>?_) (λhb=>?_)|(simp only [SSd,Nat.reduceAdd,zAK h,hl3,i1,i2,i3]))
  all_goals (try (exfalso;simp_all [isK,hd];done))
  iterate 1
   have hs:FZ (t1::t2::t3::t4::r)=true:=by simp_all [FZ,isK,hd]
   have hn:=ACH (n:=n) hb0 hs;refine DW [[46],[42]] rfl rfl (λI' a hI hw=>zAA ?_);have e1:isT (t2::t3::t4::r) [46]=true:=by simp_all [isT,hd]
   have e2:isT (t3::t4::r) [42]=true:=by simp_all [isT,hd]
   refine AX (Qy [[46],[42]] hw zy (hv'.mono hI) hT' (λr1 hg hT1 hr v1 hv1=>?_) (λe hg v'=>?_))
   ·simp only [Eo,AO,List.tail_cons,e1,e2,if_true,Res.bind,Res.ok.injEq,true_and] at hg;subst hg;repeat' (first|refine zqa ?_|refine zqh (λ_=>?_)|refine zqr ?_|refine zqb ?_|refine zqi ?_ ?_|refine zqc ?_|refine zqg (λ_=>?_) (λ_=>?_)|refine zqe ?_|fail)
    exact zAE (L1++(b,PBo v1)::L2) (zAA (hok ⟨true,t1.text,ex0,[]⟩ _ hn hT1 (by first|(simp;done)|(simp;omega)) _ _ _ hI hv1 ⟨.slice none 0 0,rfl,zAD none 0⟩))
   ·simp [Eo,AO,e1,e2,Res.bind] at hg
  all_goals first
   |(have hs:FZ (t1::t2::t3::t4::r)=false:=(by simp_all [FZ,isK,hd]);have hn:=Hg (n:=n) hb0 hs;exact zAE (L1++(b,PBo v')::L2) (zAA (herr _ (by rw [hn];simp [Aw,Res.bind,bad, *] <;> rfl) _ _ zE)))
   |(have hs:FZ (t1::t2::t3::t4::r)=false:=(by simp_all [FZ,isK,hd]);have hn:=Hg (n:=n) hb0 hs;exact zAE (L1++(b,PBo v')::L2) (zAA (hok ⟨false,[],y,[]⟩ _ (by rw [hn];simp [Aw,Res.bind,bad, *] <;> rfl) zA zo _ _ _ zE zT ⟨_,rfl,zC⟩)))
   |(have hs:FZ (t1::t2::t3::t4::r)=false:=(by simp_all [FZ,isK,hd]);have hn:=Hg (n:=n) hb0 hs;exact zAE (L1++(b,PBo v')::L2) (zAA (hok ⟨false,[],y,(hd r'.tail).text⟩ _ (by rw [hn];simp [Aw,Res.bind,bad, *] <;> rfl) zA zo _ _ _ zE zT ⟨_,rfl,zC⟩)))
 |false=>
  have hlen':¬((3:Int) < (l.length:Nat)):=of_decide_eq_false hlen;have hl3:decide ((l.length:Nat) > (3:Int))=false:=hlen;have hs:FZ l=false:=by
   cases hs:FZ l with
   |false=>rfl
   |true=>have:=ABa hT hs;omega
  repeat' (first|(with_reducible first|refine Bo (b:=b) ?_|refine keepA ?_|refine Ap (λ_=>?_))|(with_reducible refine AX ?_;refine hE.go zT zA zo (λy r' hg hT2 hr2 I' v' a' k' hI' hv' hw'=>?_) (λe hg I' v' hI'=>?_))|(with_reducible refine Ai ?_;refine Bv _ zT zA (λhb hT' hl' v' hv'=>?_) (λhb=>?_))|(with_reducible refine Bd _ zT zA (λhb hT' hl' I' v' hI' hv'=>?_) (λhb I' v' hI'=>?_))|(with_reducible refine AX ?_;refine CS zT zA (λhb hT' hl' v' hv'=>?_) (λhb=>?_))|(with_reducible refine AX ?_;refine Af zT zA ?_)|(with_reducible first|refine Cb zC (λI' a hI' hw'=>zAA ?_)|refine CJ zC zC (λI' a hI' hw'=>zAA ?_)|refine Cj zC zC zC (λI' a hI' hw'=>zAA ?_))|(with_reducible refine Ai ?_;refine BC zC ?_)|refine zqr ?_|refine zqb ?_|(with_reducible first|refine BI (sh224_1.eq_1 ..) ?_|refine BI (sh224_3.eq_1 ..) ?_|refine BI (sh224_2.eq_1 ..) ?_|refine BI (sh224.eq_1 ..) ?_|refine And.intro ?_ ?_)|refine zqc ?_|refine zqg (λhb=>?_) (λhb=>?_)|(simp only [SSd,Nat.reduceAdd,zAK h,hl3]))
  all_goals first
   |(have hn:=Hg (n:=n) hb0 hs;exact zAE (L1++(b,PBo v')::L2) (zAA (herr _ (by rw [hn];simp [Aw,Res.bind,bad, *] <;> rfl) _ _ zE)))
   |(have hn:=Hg (n:=n) hb0 hs;exact zAE (L1++(b,PBo v')::L2) (zAA (hok ⟨false,[],y,[]⟩ _ (by rw [hn];simp [Aw,Res.bind,bad, *] <;> rfl) zA zo _ _ _ zE zT ⟨_,rfl,zC⟩)))
   |(have hn:=Hg (n:=n) hb0 hs;exact zAE (L1++(b,PBo v')::L2) (zAA (hok ⟨false,[],y,(hd r'.tail).text⟩ _ (by rw [hn];simp [Aw,Res.bind,bad, *] <;> rfl) zA zo _ _ _ zE zT ⟨_,rfl,zC⟩)))
end
abbrev LOk {α:Type}(R:Imm→α→List Value→Prop)(m:Nat)(g:Res (List α))(n:Nat)(K:Value→M)(C:Obj→LH)(I:Imm):Prop:=
 ∀x r,g= .ok x r→Toks r→r.length≤n→∀I' v' a k,Ext I I'→TL I' v' r→RL R m I' [] (.slice a x.length k) x→x.length≤n+1→K (.slice a x.length k) I' (C (PBo v'))
def FnL {α:Type}(ω:Om)(n b f:Nat)(g:Pr (List α))(R:Imm→α→List Value→Prop)(m:Nat):Prop:=
 ∀(K Pn:Value→M) (I:Imm) (L:LH) (C:Obj→LH) (v:Value) (l:List Tok),Foc b L (PBo v) C→TL I v l→Toks l→l.length≤n→LOk R m (g l) l.length K C I→PEr (g l) Pn C I→CalP Tryz.prog ω f #[Ac b] K Pn I L
theorem FnL.go {α:Type}{ω:Om}{n b f m:Nat}{g:Pr (List α)}{R:Imm→α→List Value→Prop}(h:FnL ω n b f g R m){I:Imm}{L:LH}{K Pn:Value→M}{C:Obj→LH}{v:Value}{l:List Tok}[hF:Foc b L (PBo v) C](hv:TL I v l)(hT:Toks l)(hl:l.length≤n)(hok:LOk R m (g l) l.length K C I)(herr:PEr (g l) Pn C I):
  CalP Tryz.prog ω f #[Ac b] K Pn I L:=h K Pn I L C v l hF hv hT hl hok herr
section
variable {ω:Om}{b:Nat}
theorem AMi {I:Imm}{L:LH}{K:Value→M}{w:Value}{xs:List TSource}(hw:RL TSourceV 14 I [] w xs)(hk:∀a k,RL TSourceV 14 I [] (.slice a xs.length k) xs→K (.slice a xs.length k) I L):CT ω 258 #[w] K I L:=by
 refine ANK ?_;unfold AJb;obtain ⟨w',h1,h2⟩:=FC hw;simp only [zAK hw,h1,SSd,Nat.reduceAdd];obtain ⟨a,k,rfl⟩:=zAF h2;exact zAA (hk a k h2)
def JA (n:Nat)(l:List Tok):Option (Res TSource):=
 if isT l [44] then some (DK l.tail) else
 if isT l [99,114,111,115,115] then some ((AO [106,111,105,110] l.tail).bind λ_ r=>DK r) else
 if isT l [108,101,102,116] then some (Hf n true l.tail) else
 if isT l [105,110,110,101,114] then some (Hf n false l.tail) else
 if isT l [106,111,105,110] then some (Hf n false l) else none
theorem Eu {α β γ:Type}(x:Res α)(f:α→Pr β)(g:β→Pr γ):(x.bind f).bind g=x.bind λa r=>(f a r).bind g:=by cases x <;> rfl
theorem Vu (n f:Nat)(acc:List TSource)(l:List Tok):DZ n (f+1) acc l=match JA n l with
  |some g=>g.bind λs r=>DZ n f (acc++[s]) r
  |none=>.ok acc l:=by
 simp only [DZ,JA];split
 ·rfl
 split
 ·simp only [Eu]
 split
 ·rfl
 split
 ·rfl
 split
 ·rfl
 ·rfl
theorem RH (n:Nat){I:Imm}{L:LH}{K Pn:Value→M}{C:Obj→LH}{v:Value}{l:List Tok}[hF:Foc b L (PBo v) C](h:TL I v l)(hT:Toks l)(hl:l.length≤n)
  (hok:∀x r,DK l= .ok x r→Toks r→r.length≤l.length→∀I' v' a k,Ext I I'→TL I' v' r→ExL I' (.slice a x.fOn.args.length k) x.fOn.args→K (.agg #[.string ⟨x.fTable.toArray⟩,.string ⟨x.fAs.toArray⟩,.bool x.fLeft,.int .i64 x.fOn.kind,.int .i64 x.fOn.value.fType,.bool x.fOn.value.fNull,.int .i64 x.fOn.value.fInt,.string ⟨x.fOn.value.fText.toArray⟩,.string ⟨x.fOn.table.toArray⟩,.string ⟨x.fOn.name.toArray⟩,.int .i64 x.fOn.slot,.int .i64 x.fOn.type,.bool x.fOn.distinct,.slice a x.fOn.args.length k]) I' (C (PBo v')))
  (herr:PEr (DK l) Pn C I):CalP Tryz.prog ω 257 #[Ac b] K Pn I L:=by
 refine (RI n).go h hT hl (λx r hg hT' hr I' v' c hI' hv' hc=>?_) herr;obtain ⟨v0,rfl,h0⟩:=hc;obtain ⟨a,k,rfl⟩:=zAF h0;exact hok x r hg hT' hr I' v' a k hI' hv' h0
theorem ACQ (n : Nat) (hE : FnE ω n b 227 (eP n)) (bb : Bool) {I : Imm} {L1 L2 X : LH} {Kn1 : (Value × Value × Unit) → M} {K Pn : Value → M} {v w : Value} {l : List Tok} {cells : List Value} {xs : List TSource} (h : TL I v l) (hT : Toks l) (hl : l.length ≤ n)
    (hX : SlO 164 14 X w cells xs.length) (hR : Recs (TSourceV I) 14 xs cells) (hxs : xs.length ≤ 1000000001)
    (hnext : ∀ x r, Hf n bb l = .ok x r → Toks r → r.length + 1 ≤ l.length → ∀ I' v' X' w' cells', Ext I I' → TL I' v' r → SlO 164 14 X' w' cells' (xs ++ [x]).length → Recs (TSourceV I') 14 (xs ++ [x]) cells' → Gh (Kn1 (.slice none 0 0, w', ())) I' (X' ++ (L1 ++ (b, PBo v') :: L2)))
    (herr : PEr (Hf n bb l) Pn (λo => L1 ++ (b, o) :: L2) I) :
    KZ ω (Ac b) (.slice none 0 0) w (.bool bb) (λs => Gh (Kn1 s)) (λv => Gh (K v)) (λv => Gh (Pn v)) I (X ++ (L1 ++ (b, PBo v) :: L2)) := by
  unfold KZ
  repeat' (first | (with_reducible first | refine Bo (b := b) ?_ | refine keepA ?_ | refine Ap (λ_ => ?_)) | (with_reducible refine AX ?_;refine RH n zT zA zo (λx r hg hT2 hr2 I' v' a' k' hI' hv' hw' => ?_) (λe hg I' v' hI' => ?_)) | (with_reducible refine AX ?_;refine hE.go zT zA zo (λy r' hg' hT2 hr3 I' v' a' k' hI' hv' hw' => ?_) (λe hg' I' v' hI' => ?_)) | (with_reducible refine Ai ?_;refine Bv _ zT zA (λhb hT' hl' v' hv' => ?_) (λhb => ?_)) | (with_reducible refine Bd _ zT zA (λhb hT' hl' I' v' hI' hv' => ?_) (λhb I' v' hI' => ?_)) | (with_reducible refine AX ?_;refine CS zT zA (λhb hT' hl' v' hv' => ?_) (λhb => ?_)) | (with_reducible refine AX ?_;refine Af zT zA ?_) | (with_reducible first | refine Cb zC (λI' a hI' hw' => zAA ?_) | refine CJ zC zC (λI' a hI' hw' => zAA ?_) | refine Cj zC zC zC (λI' a hI' hw' => zAA ?_)) | (with_reducible refine Ai ?_;refine BC zC ?_) | (with_reducible refine rdb ?_) | ((with_reducible first | refine st1 ?_ ?_ | refine rdB ?_ ?_); rfl) | (with_reducible refine BJ ?_) | ((with_reducible refine JZ ?_ ?_); rfl) | ((with_reducible refine stB ?_ ?_ ?_ ?_); rfl; rfl; exact AV rfl) | ((with_reducible first | refine rdP _ rfl ?_ ?_ | refine AMD _ rfl ?_ ?_); rfl) | ((with_reducible refine stP _ rfl ?_ ?_ ?_ ?_); rfl; rfl; rfl) | refine zqi ?_ ?_ | (simp only [SSg, Int.reduceBEq, Int.reduceBNe, Int.reduceLT, Int.reduceLE, beq_self_eq_true, bne_self_eq_false]) | (with_reducible first | refine BX (λhb => ?_) (λhb => ?_) | refine AL (λhb => ?_) (λhb => ?_)) | (simp only [SSd, Nat.reduceAdd]))
  all_goals first
    | exact zAE (L1 ++ (b, PBo v') :: L2) (zAA (herr _ (by simp [Hf, Res.bind, bad, AO, *] <;> rfl) _ _ zE))
    | (refine GX (X6 := X) (R := TSourceV) (x := ⟨x.fTable, x.fAs, bb, y⟩) rfl zo hX (Recs.imp (λ_ _ h => TSourceV.mono h zE) hR) ⟨_, rfl, zC⟩ rfl (AV rfl) zo zo (λX1 X6 w6 cells6 hX6 hR6 => zAE (X6 ++ (L1 ++ (b, PBo v') :: L2)) ?_)
       exact hnext ⟨x.fTable, x.fAs, bb, y⟩ _ (by simp [Hf, Res.bind, AO, *] <;> rfl) zA zo _ _ _ _ _ zE zT hX6 hR6)
theorem ACR (n : Nat) (hE : FnE ω n b 227 (eP n)) {I : Imm} {L1 L2 X : LH} {Kn1 : (Value × Value × Unit) → M} {K Pn : Value → M} {v w : Value} {l : List Tok} {cells : List Value} {xs : List TSource} (h : TL I v l) (hT : Toks l) (hl : l.length ≤ n)
    (hX : SlO 164 14 X w cells xs.length) (hR : Recs (TSourceV I) 14 xs cells) (hxs : xs.length ≤ 1000000001)
    (hnext : ∀ g x r, JA n l = some g → g = .ok x r → Toks r → r.length + 1 ≤ l.length → ∀ I' v' X' w' cells', Ext I I' → TL I' v' r → SlO 164 14 X' w' cells' (xs ++ [x]).length → Recs (TSourceV I') 14 (xs ++ [x]) cells' → Gh (Kn1 (.slice none 0 0, w', ())) I' (X' ++ (L1 ++ (b, PBo v') :: L2)))
    (herr : ∀ g, JA n l = some g → PEr g Pn (λo => L1 ++ (b, o) :: L2) I)
    (hend : JA n l = none → ∀ I' a k, Ext I I' → RL TSourceV 14 I' [] (.slice a xs.length k) xs → TL I' v l → Gh (K (.slice a xs.length k)) I' (L1 ++ (b, PBo v) :: L2)) :
    TW ω (Ac b) (.slice none 0 0) w (λs => Gh (Kn1 s)) (λv => Gh (K v)) (λv => Gh (Pn v)) I (X ++ (L1 ++ (b, PBo v) :: L2)) := by
  unfold TW
  have hl1 := hT.len
  have J : ∀ (bb : Bool) {l1 : List Tok} {v1 : Value}, TL I v1 l1 → Toks l1 → l1.length ≤ l.length → JA n l = some (Hf n bb l1) → KZ ω (Ac b) (.slice none 0 0) w (.bool bb) (λs => Gh (Kn1 s)) (λv => Gh (K v)) (λv => Gh (Pn v)) I (X ++ (L1 ++ (b, PBo v1) :: L2)) := by
    intro bb l1 v1 h1 hT1 hl1 hn
    exact ACQ n hE bb h1 hT1 zo hX hR hxs (λx r hg hT hr => hnext _ x r hn hg hT zo) (herr _ hn)
  repeat' (first | (with_reducible first | refine Bo (b := b) ?_ | refine keepA ?_ | refine Ap (λ_ => ?_)) | (with_reducible refine AX ?_;refine RH n zT zA zo (λx r hg hT2 hr2 I' v' a' k' hI' hv' hw' => ?_) (λe hg I' v' hI' => ?_)) | (with_reducible refine Ai ?_;refine IK _ zT zA (λhb => ?_) (λhb => ?_)) | (with_reducible refine Ai ?_;refine Bv _ zT zA (λhb hT' hl' v' hv' => ?_) (λhb => ?_)) | (with_reducible refine Bd _ zT zA (λhb hT' hl' I' v' hI' hv' => ?_) (λhb I' v' hI' => ?_)) | (with_reducible refine AX ?_;refine CS zT zA (λhb hT' hl' v' hv' => ?_) (λhb => ?_)) | (with_reducible refine AX ?_;refine Af zT zA ?_) | (with_reducible first | refine Cb zC (λI' a hI' hw' => zAA ?_) | refine CJ zC zC (λI' a hI' hw' => zAA ?_) | refine Cj zC zC zC (λI' a hI' hw' => zAA ?_)) | (with_reducible refine Ai ?_;refine BC zC ?_) | (with_reducible refine rdb ?_) | ((with_reducible first | refine st1 ?_ ?_ | refine rdB ?_ ?_); rfl) | (with_reducible refine BJ ?_) | ((with_reducible refine JZ ?_ ?_); rfl) | ((with_reducible refine stB ?_ ?_ ?_ ?_); rfl; rfl; exact AV rfl) | ((with_reducible first | refine rdP _ rfl ?_ ?_ | refine AMD _ rfl ?_ ?_); rfl) | ((with_reducible refine stP _ rfl ?_ ?_ ?_ ?_); rfl; rfl; rfl) | (with_reducible first | refine BI (sh225_4.eq_1 ..) ?_ | refine And.intro ?_ ?_) | (simp only [SSg, Int.reduceBEq, Int.reduceBNe, Int.reduceLT, Int.reduceLE, beq_self_eq_true, bne_self_eq_false]) | (with_reducible first | refine BX (λhb => ?_) (λhb => ?_) | refine AL (λhb => ?_) (λhb => ?_)) | (simp only [SSd, Nat.reduceAdd]))
  all_goals (try (exfalso; simp_all; done))
  all_goals first
    | exact J true zA zA zo (by simp [JA, *])
    | exact J false zA zA zo (by simp [JA, *])
    | exact zAE (L1 ++ (b, PBo v') :: L2) (zAA (herr _ (by simp [JA, *] <;> rfl) _ (by simp [Res.bind, bad, AO, *] <;> rfl) _ _ zE))
    | (refine GX (X6 := X) (R := TSourceV) (x := x) rfl zo hX (Recs.imp (λ_ _ h => TSourceV.mono h zE) hR) ⟨_, rfl, zC⟩ rfl (AV rfl) zo zo (λX1 X6 w6 cells6 hX6 hR6 => zAE (X6 ++ (L1 ++ (b, PBo v') :: L2)) ?_)
       exact hnext _ x _ (by simp [JA, *] <;> rfl) (by simp [Res.bind, AO, *] <;> rfl) zA zo _ _ _ _ _ zE zT hX6 hR6)
    | (refine CalP.pre (RL.ofO (R := TSourceV) (λ{I I' x c} h hI => TSourceV.mono h hI) hX hR (λI3 hI3 hw => zAA ?_))
       refine Ai (AMi hw (λa k hw' => hend (by simp [JA, *]) I3 a k hI3 hw' (h.mono hI3))))
theorem AIZ (n:Nat)(hn0:n≤1000000000)(hE:FnE ω n b 227 (eP n)):FnL ω n b 225 (NW n) TSourceV 14:=by
 intro K Pn I L C v l hF h hT hl hok herr;obtain ⟨L1,L2,rfl,rfl⟩:=hF.foc;refine ANk ?_;unfold AJv;refine AX ((RI n).go h hT hl ?_ ?_);rotate_left
 ·rintro e hg I1 v1 hI1;exact zAE (L1++(b,PBo v1)::L2) (zAA (herr e (by simp only [NW,hg,Res.bind]) I1 v1 hI1))
 rintro x r hg hT1 hr I1 v1 c hI1 hTL1 hx;refine Bh rfl zo (by simpa [Value.cells] using hx.len) (λX u hX=>?_);refine loop (λm s I2 Lx=>∃X v2 l2 w cells xs f,l2.length=m∧s=(.slice none 0 0,w,())∧Ext I I2∧Lx=X++(L1++(b,PBo v2)::L2)∧TL I2 v2 l2∧Toks l2∧SlO 164 14 X w cells xs.length∧Recs (TSourceV I2) 14 xs cells∧l2.length≤f∧0 < xs.length∧xs.length+l2.length≤l.length+1∧NW n l=DZ n f xs l2) r.length
   ⟨X,v1,r,u,_,[x],n,rfl,rfl,hI1,rfl,hTL1,hT1,hX,(by simpa [Value.cells] using Recs.one hx.len hx),by omega,by simp,by simp;omega,by simp only [NW,hg,Res.bind]⟩ ?_
 clear hX hTL1 hT1 hx hg hr;rintro m s I2 Lx ⟨X,v2,l2,w,cells,xs,f,rfl,rfl,hI2,rfl,hTL2,hT2,hX,hR,hf,hpos,hlen,hm⟩;have hl2:=hT2.len;obtain ⟨f,rfl⟩:∃k,f=k+1:=⟨f - 1,by omega⟩;rw [Vu] at hm;refine ACR n hE hTL2 hT2 zo hX hR zo (λg x r hn hg hT3 hr3 I3 v3 X3 w3 cells3 hI3 hTL3 hX3 hR3=>?_) (λg hn e hg I3 v3 hI3=>?_) (λhn I3 a k hI3 hw hTL3=>?_)
 ·exact zAA ⟨r.length,by omega,X3,v3,r,w3,cells3,xs++[x],f,rfl,rfl,zAB hI2 hI3,rfl,hTL3,hT3,hX3,hR3,by omega,by simp,by simp;omega,by rw [hm,hn];simp only [hg,Res.bind]⟩
 ·exact herr e (by rw [hm,hn];simp only [hg,Res.bind]) I3 v3 (zAB hI2 hI3)
 ·exact zAA (hok xs l2 (by rw [hm,hn]) hT2 zo I3 v2 a k (zAB hI2 hI3) hTL3 hw zo)
end
theorem LC {α:Type}{R:Imm→α→List Value→Prop}{m n:Nat}{g:Res (List α)}{K:Value→M}{C:Obj→LH}{I:Imm}(h:LOk R m g n K C I):POk g (λI x v=>RL R m I [] v x∧x.length≤n) n K C I:=by
 rintro x r hg hT hr I' v' w hI' hv' ⟨hw,hx⟩;obtain ⟨a,k,rfl⟩:=zAF hw;exact h x r hg hT hr I' v' a k hI' hv' hw zo
theorem ItL.mono {I I':Imm}{v:Value}{l:List TItem}(h:RL TItemV 14 I [] v l)(hI:Ext I I'):RL TItemV 14 I' [] v l:=zAI (λ_ _ h=>TItemV.mono h hI) h hI (λ_ h=>h)
theorem SoL.mono {I I':Imm}{v:Value}{l:List TSource}(h:RL TSourceV 14 I [] v l)(hI:Ext I I'):RL TSourceV 14 I' [] v l:=zAI (λ_ _ h=>TSourceV.mono h hI) h hI (λ_ h=>h)
theorem OrL.mono {I I':Imm}{v:Value}{l:List TOrder}(h:RL TOrderV 12 I [] v l)(hI:Ext I I'):RL TOrderV 12 I' [] v l:=zAI (λ_ _ h=>TOrderV.mono h hI) h hI (λ_ h=>h)
def Rf (s:TSelect):Pr TSelect:=λl=>.ok s l
def Jd (s:TSelect):Pr TSelect:=λl=>if isT l [111,102,102,115,101,116] then (GH l.tail).bind λx r=>Rf {s with fOffset:=x} r else Rf s l
def Je (s:TSelect):Pr TSelect:=λl=>if isT l [108,105,109,105,116] then (GH l.tail).bind λx r=>Jd {s with fLimit:=x} r else Jd s l
def Jw (n:Nat)(s:TSelect):Pr TSelect:=λl=>if isT l [111,114,100,101,114] then (AO [98,121] l.tail).bind λ_ r=>(BR n (Iu n) r).bind λx r=>Je {s with fOrder:=x} r else Je s l
def Jf (n:Nat)(s:TSelect):Pr TSelect:=λl=>(Eh n [104,97,118,105,110,103] l).bind λx r=>Jw n {s with fHaving:=x} r
def Jy (n:Nat)(s:TSelect):Pr TSelect:=λl=>if isT l [103,114,111,117,112] then (AO [98,121] l.tail).bind λ_ r=>(BR n (eP n) r).bind λx r=>Jf n {s with fGroup:=x} r else Jf n s l
def Jg (n:Nat)(s:TSelect):Pr TSelect:=λl=>(Eh n [119,104,101,114,101] l).bind λx r=>Jy n {s with fWhere:=x} r
def Ip (n:Nat)(s:TSelect):Pr TSelect:=λl=>if isT l [102,114,111,109] then (NW n l.tail).bind λx r=>Jg n {s with fFrom:=x} r else Jg n s l
abbrev AEV (d:Bool):TSelect:=⟨d,[],[],ex0,[],ex0,[], -1,0⟩
theorem AFH {α β:Type}(s:Bs)(d:α)(p:Pr α)(l:List Tok)(f:α→Pr β):(UJ s d p l).bind f=if isT l s then (p l.tail).bind f else f d l:=by
 unfold UJ;split <;> rfl
theorem ABs (n:Nat)(l:List Tok):Iq n l=(BR n (Ic n) (if isT l [100,105,115,116,105,110,99,116] then l.tail else l)).bind λx r=>Ip n {AEV (isT l [100,105,115,116,105,110,99,116]) with fItems:=x} r:=by
 simp only [Iq,AFH,byP,Eu,Ip,Jg,Jy,Jf,Jw,Je,Jd,Rf]
abbrev selZ:List Value:=[.bool false,.slice none 0 0,.slice none 0 0,.int .i64 0,.int .i64 0,.bool false,.int .i64 0,.string ⟨#[]⟩,.string ⟨#[]⟩,.string ⟨#[]⟩,.int .i64 0,.int .i64 0,.bool false,.slice none 0 0,.slice none 0 0,.int .i64 0,.int .i64 0,.bool false,.int .i64 0,.string ⟨#[]⟩,.string ⟨#[]⟩,.string ⟨#[]⟩,.int .i64 0,.int .i64 0,.bool false,.slice none 0 0,.slice none 0 0,.int .i64 0,.int .i64 0]
section
variable {ω:Om}{b:Nat}
theorem AAc (n:Nat)(hn0:n≤1000000000)(hE:FnE ω n b 227 (eP n)){I:Imm}{L1 L2:LH}{K Pn:Value→M}{v:Value}{l:List Tok}{b1 bq N0:Nat}{s:TSelect}{c:List Value}(h:TL I v l)(hT:Toks l)(hl:l.length≤n)(hN:l.length≤N0)(hs:CX I s c)
  (hok:VOk CX (Rf s l) N0 K (λo=>L1++(b,o)::L2) I) (herr:PEr (Rf s l) Pn (λo=>L1++(b,o)::L2) I):
  OG ω (Ac b1) (Ac bq) (λv=>Gh (K v)) (λv=>Gh (Pn v)) I ((bq,.cells c.toArray 68 (0,0))::(b1,.cells selZ.toArray 68 (0,0))::(L1++(b,PBo v)::L2)):=by
 obtain ⟨v0,v1,v2,v3,v4,v5,rfl,h0,h1,h2,h3,h4,h5⟩:=hs;obtain ⟨a0,k0,rfl⟩:=zAF h0;obtain ⟨a1,k1,rfl⟩:=zAF h1;obtain ⟨a2,k2,rfl⟩:=zAF h2;obtain ⟨a3,k3,rfl⟩:=zAF h3;obtain ⟨a4,k4,rfl⟩:=zAF h4;obtain ⟨a5,k5,rfl⟩:=zAF h5;have hs:CX I s _:=⟨_,_,_,_,_,_,rfl,h0,h1,h2,h3,h4,h5⟩;unfold OG;have hl0:=hT.len;repeat' (first|(with_reducible first|refine Bo (b:=b) ?_|refine keepA ?_|refine Ap (λ_=>?_))|(with_reducible refine Ai ?_;refine Bv _ zT zA (λhb hT' hl' v' hv'=>?_) (λhb=>?_))|(with_reducible refine Bd _ zT zA (λhb hT' hl' I' v' hI' hv'=>?_) (λhb I' v' hI'=>?_))|(with_reducible refine AX ?_;refine CS zT zA (λhb hT' hl' v' hv'=>?_) (λhb=>?_))|(with_reducible refine AX ?_;refine Af zT zA ?_)|(with_reducible first|refine Cb zC (λI' a hI' hw'=>zAA ?_)|refine CJ zC zC (λI' a hI' hw'=>zAA ?_)|refine Cj zC zC zC (λI' a hI' hw'=>zAA ?_))|(with_reducible refine Ai ?_;refine BC zC ?_)|refine zqr ?_|refine zqb ?_|refine zqi ?_ ?_|refine zqc ?_|refine zqg (λhb=>?_) (λhb=>?_)|refine zqe ?_|fail)
 exact zAE (L1++(b,PBo v)::L2) (zAA (hok s l (by simp [Rf]) hT hN I v _ (zAC _) h hs))
theorem AAd (n:Nat)(hn0:n≤1000000000)(hE:FnE ω n b 227 (eP n)){I:Imm}{L1 L2:LH}{K Pn:Value→M}{v:Value}{l:List Tok}{b1 bq N0:Nat}{s:TSelect}{c:List Value}(h:TL I v l)(hT:Toks l)(hl:l.length≤n)(hN:l.length≤N0)(hs:CX I s c)
  (hok:VOk CX (Jd s l) N0 K (λo=>L1++(b,o)::L2) I) (herr:PEr (Jd s l) Pn (λo=>L1++(b,o)::L2) I):
  OH ω (Ac b) (Ac b1) (Ac bq) (λv=>Gh (K v)) (λv=>Gh (Pn v)) I ((bq,.cells c.toArray 68 (0,0))::(b1,.cells selZ.toArray 68 (0,0))::(L1++(b,PBo v)::L2)):=by
 obtain ⟨v0,v1,v2,v3,v4,v5,rfl,h0,h1,h2,h3,h4,h5⟩:=hs;obtain ⟨a0,k0,rfl⟩:=zAF h0;obtain ⟨a1,k1,rfl⟩:=zAF h1;obtain ⟨a2,k2,rfl⟩:=zAF h2;obtain ⟨a3,k3,rfl⟩:=zAF h3;obtain ⟨a4,k4,rfl⟩:=zAF h4;obtain ⟨a5,k5,rfl⟩:=zAF h5;have hs:CX I s _:=⟨_,_,_,_,_,_,rfl,h0,h1,h2,h3,h4,h5⟩;unfold OH;have hl0:=hT.len;repeat' (first|(with_reducible first|refine Bo (b:=b) ?_|refine keepA ?_|refine Ap (λ_=>?_))|(with_reducible refine AX ?_;refine QU zT zA (λx r hg hT2 hr2 v' hv'=>?_) (λe hg=>?_))|(with_reducible refine Ai ?_;refine Bv _ zT zA (λhb hT' hl' v' hv'=>?_) (λhb=>?_))|(with_reducible refine Bd _ zT zA (λhb hT' hl' I' v' hI' hv'=>?_) (λhb I' v' hI'=>?_))|(with_reducible refine AX ?_;refine CS zT zA (λhb hT' hl' v' hv'=>?_) (λhb=>?_))|(with_reducible refine AX ?_;refine Af zT zA ?_)|(with_reducible first|refine Cb zC (λI' a hI' hw'=>zAA ?_)|refine CJ zC zC (λI' a hI' hw'=>zAA ?_)|refine Cj zC zC zC (λI' a hI' hw'=>zAA ?_))|(with_reducible refine Ai ?_;refine BC zC ?_)|refine zqr ?_|refine zqb ?_|refine zqi ?_ ?_|refine zqc ?_|refine zqg (λhb=>?_) (λhb=>?_)|refine zqe ?_|fail)
 all_goals first
  |exact zAE (L1++(b,PBo v')::L2) (zAA (herr _ (by simp [Jd,Res.bind,bad,AO,Res.bind,bad,AO, *] <;> rfl) _ _ zE))
  |exact AAc n hn0 hE zT zA zo zo (s:={s with fOffset:=x}) ⟨_,_,_,_,_,_,rfl,(ItL.mono h0 zE),(SoL.mono h1 zE),(zAH h2 zE),(zAI (λ_ _ h=>ExV.mono zE h) h3 zE (λ_ h=>h)),(zAH h4 zE),(OrL.mono h5 zE)⟩ (λy q hy hT' hq I' v' c hI hv hc=>hok y q (by simp [Jd,AO,Res.bind,hy, *]) hT' hq I' v' c zE hv hc) (λe hy I' v' hI=>herr e (by simp [Jd,AO,Res.bind,hy, *]) I' v' zE)
  |exact AAc n hn0 hE zT zA zo zo (s:=s) ⟨_,_,_,_,_,_,rfl,(ItL.mono h0 zE),(SoL.mono h1 zE),(zAH h2 zE),(zAI (λ_ _ h=>ExV.mono zE h) h3 zE (λ_ h=>h)),(zAH h4 zE),(OrL.mono h5 zE)⟩ (λy q hy hT' hq I' v' c hI hv hc=>hok y q (by simp [Jd,AO,Res.bind,hy, *]) hT' hq I' v' c zE hv hc) (λe hy I' v' hI=>herr e (by simp [Jd,AO,Res.bind,hy, *]) I' v' zE)
theorem AAe (n:Nat)(hn0:n≤1000000000)(hE:FnE ω n b 227 (eP n)){I:Imm}{L1 L2:LH}{K Pn:Value→M}{v:Value}{l:List Tok}{b1 bq N0:Nat}{s:TSelect}{c:List Value}(h:TL I v l)(hT:Toks l)(hl:l.length≤n)(hN:l.length≤N0)(hs:CX I s c)
  (hok:VOk CX (Je s l) N0 K (λo=>L1++(b,o)::L2) I) (herr:PEr (Je s l) Pn (λo=>L1++(b,o)::L2) I):
  OI ω (Ac b) (Ac b1) (Ac bq) (λv=>Gh (K v)) (λv=>Gh (Pn v)) I ((bq,.cells c.toArray 68 (0,0))::(b1,.cells selZ.toArray 68 (0,0))::(L1++(b,PBo v)::L2)):=by
 obtain ⟨v0,v1,v2,v3,v4,v5,rfl,h0,h1,h2,h3,h4,h5⟩:=hs;obtain ⟨a0,k0,rfl⟩:=zAF h0;obtain ⟨a1,k1,rfl⟩:=zAF h1;obtain ⟨a2,k2,rfl⟩:=zAF h2;obtain ⟨a3,k3,rfl⟩:=zAF h3;obtain ⟨a4,k4,rfl⟩:=zAF h4;obtain ⟨a5,k5,rfl⟩:=zAF h5;have hs:CX I s _:=⟨_,_,_,_,_,_,rfl,h0,h1,h2,h3,h4,h5⟩;unfold OI;have hl0:=hT.len;repeat' (first|(with_reducible first|refine Bo (b:=b) ?_|refine keepA ?_|refine Ap (λ_=>?_))|(with_reducible refine AX ?_;refine QU zT zA (λx r hg hT2 hr2 v' hv'=>?_) (λe hg=>?_))|(with_reducible refine Ai ?_;refine Bv _ zT zA (λhb hT' hl' v' hv'=>?_) (λhb=>?_))|(with_reducible refine Bd _ zT zA (λhb hT' hl' I' v' hI' hv'=>?_) (λhb I' v' hI'=>?_))|(with_reducible refine AX ?_;refine CS zT zA (λhb hT' hl' v' hv'=>?_) (λhb=>?_))|(with_reducible refine AX ?_;refine Af zT zA ?_)|(with_reducible first|refine Cb zC (λI' a hI' hw'=>zAA ?_)|refine CJ zC zC (λI' a hI' hw'=>zAA ?_)|refine Cj zC zC zC (λI' a hI' hw'=>zAA ?_))|(with_reducible refine Ai ?_;refine BC zC ?_)|refine zqr ?_|refine zqb ?_|refine zqi ?_ ?_|refine zqc ?_|refine zqg (λhb=>?_) (λhb=>?_)|refine zqe ?_|fail)
 all_goals first
  |exact zAE (L1++(b,PBo v')::L2) (zAA (herr _ (by simp [Je,Res.bind,bad,AO,Res.bind,bad,AO, *] <;> rfl) _ _ zE))
  |exact AAd n hn0 hE zT zA zo zo (s:={s with fLimit:=x}) ⟨_,_,_,_,_,_,rfl,(ItL.mono h0 zE),(SoL.mono h1 zE),(zAH h2 zE),(zAI (λ_ _ h=>ExV.mono zE h) h3 zE (λ_ h=>h)),(zAH h4 zE),(OrL.mono h5 zE)⟩ (λy q hy hT' hq I' v' c hI hv hc=>hok y q (by simp [Je,AO,Res.bind,hy, *]) hT' hq I' v' c zE hv hc) (λe hy I' v' hI=>herr e (by simp [Je,AO,Res.bind,hy, *]) I' v' zE)
  |exact AAd n hn0 hE zT zA zo zo (s:=s) ⟨_,_,_,_,_,_,rfl,(ItL.mono h0 zE),(SoL.mono h1 zE),(zAH h2 zE),(zAI (λ_ _ h=>ExV.mono zE h) h3 zE (λ_ h=>h)),(zAH h4 zE),(OrL.mono h5 zE)⟩ (λy q hy hT' hq I' v' c hI hv hc=>hok y q (by simp [Je,AO,Res.bind,hy, *]) hT' hq I' v' c zE hv hc) (λe hy I' v' hI=>herr e (by simp [Je,AO,Res.bind,hy, *]) I' v' zE)
theorem AAf (n:Nat)(hn0:n≤1000000000)(hE:FnE ω n b 227 (eP n)){I:Imm}{L1 L2:LH}{K Pn:Value→M}{v:Value}{l:List Tok}{b1 bq N0:Nat}{s:TSelect}{c:List Value}(h:TL I v l)(hT:Toks l)(hl:l.length≤n)(hN:l.length≤N0)(hs:CX I s c)
  (hok:VOk CX (Jf n s l) N0 K (λo=>L1++(b,o)::L2) I) (herr:PEr (Jf n s l) Pn (λo=>L1++(b,o)::L2) I):
  OJ ω (Ac b) (Ac b1) (Ac bq) (λv=>Gh (K v)) (λv=>Gh (Pn v)) I ((bq,.cells c.toArray 68 (0,0))::(b1,.cells selZ.toArray 68 (0,0))::(L1++(b,PBo v)::L2)):=by
 obtain ⟨v0,v1,v2,v3,v4,v5,rfl,h0,h1,h2,h3,h4,h5⟩:=hs;obtain ⟨a0,k0,rfl⟩:=zAF h0;obtain ⟨a1,k1,rfl⟩:=zAF h1;obtain ⟨a2,k2,rfl⟩:=zAF h2;obtain ⟨a3,k3,rfl⟩:=zAF h3;obtain ⟨a4,k4,rfl⟩:=zAF h4;obtain ⟨a5,k5,rfl⟩:=zAF h5;have hs:CX I s _:=⟨_,_,_,_,_,_,rfl,h0,h1,h2,h3,h4,h5⟩;unfold OJ;have hl0:=hT.len;repeat' (first|(with_reducible first|refine Bo (b:=b) ?_|refine keepA ?_|refine Ap (λ_=>?_))|(with_reducible refine AX ?_;refine KQ n hE _ zT zA zo (λy r1 hg1 hT1 hr1 I' v' a' k' hI' hv' hw1=>?_) (λe hg I' v' hI'=>?_))|(with_reducible refine AX ?_;refine ALq n hn0 ((AFG n hE).one rfl) zT zA zo (LC (λx r hg hT2 hr2 I' v' a' k' hI' hv' hw' hx'=>?_)) (λe hg I' v' hI'=>?_))|(with_reducible refine Ai ?_;refine Bv _ zT zA (λhb hT' hl' v' hv'=>?_) (λhb=>?_))|(with_reducible refine Bd _ zT zA (λhb hT' hl' I' v' hI' hv'=>?_) (λhb I' v' hI'=>?_))|(with_reducible refine AX ?_;refine CS zT zA (λhb hT' hl' v' hv'=>?_) (λhb=>?_))|(with_reducible refine AX ?_;refine Af zT zA ?_)|(with_reducible first|refine Cb zC (λI' a hI' hw'=>zAA ?_)|refine CJ zC zC (λI' a hI' hw'=>zAA ?_)|refine Cj zC zC zC (λI' a hI' hw'=>zAA ?_))|(with_reducible refine Ai ?_;refine BC zC ?_)|refine zqr ?_|refine zqb ?_|refine zqi ?_ ?_|refine zqc ?_|refine zqg (λhb=>?_) (λhb=>?_)|refine zqe ?_|fail)
 all_goals first
  |exact zAE (L1++(b,PBo v')::L2) (zAA (herr _ (by simp [Jf,Jw,Res.bind,bad,AO,Res.bind,bad,AO, *] <;> rfl) _ _ zE))
  |exact AAe n hn0 hE zT zA zo zo (s:={s with fHaving:=y,fOrder:=x}) ⟨_,_,_,_,_,_,rfl,(ItL.mono h0 zE),(SoL.mono h1 zE),(zAH h2 zE),(zAI (λ_ _ h=>ExV.mono zE h) h3 zE (λ_ h=>h)),(zAH hw1 zE),hw'⟩ (λy q hy hT' hq I' v' c hI hv hc=>hok y q (by simp [Jf,Jw,AO,Res.bind,hy, *]) hT' hq I' v' c zE hv hc) (λe hy I' v' hI=>herr e (by simp [Jf,Jw,AO,Res.bind,hy, *]) I' v' zE)
  |exact AAe n hn0 hE zT zA zo zo (s:={s with fHaving:=y}) ⟨_,_,_,_,_,_,rfl,(ItL.mono h0 zE),(SoL.mono h1 zE),(zAH h2 zE),(zAI (λ_ _ h=>ExV.mono zE h) h3 zE (λ_ h=>h)),(zAH hw1 zE),(OrL.mono h5 zE)⟩ (λy q hy hT' hq I' v' c hI hv hc=>hok y q (by simp [Jf,Jw,AO,Res.bind,hy, *]) hT' hq I' v' c zE hv hc) (λe hy I' v' hI=>herr e (by simp [Jf,Jw,AO,Res.bind,hy, *]) I' v' zE)
theorem OT (n:Nat)(hn0:n≤1000000000)(hE:FnE ω n b 227 (eP n)){I:Imm}{L1 L2:LH}{K Pn:Value→M}{v:Value}{l:List Tok}{b1 bq N0:Nat}{s:TSelect}{c:List Value}(h:TL I v l)(hT:Toks l)(hl:l.length≤n)(hN:l.length≤N0)(hs:CX I s c)
  (hok:VOk CX (Jg n s l) N0 K (λo=>L1++(b,o)::L2) I) (herr:PEr (Jg n s l) Pn (λo=>L1++(b,o)::L2) I):
  OL ω (Ac b) (Ac b1) (Ac bq) (λv=>Gh (K v)) (λv=>Gh (Pn v)) I ((bq,.cells c.toArray 68 (0,0))::(b1,.cells selZ.toArray 68 (0,0))::(L1++(b,PBo v)::L2)):=by
 obtain ⟨v0,v1,v2,v3,v4,v5,rfl,h0,h1,h2,h3,h4,h5⟩:=hs;obtain ⟨a0,k0,rfl⟩:=zAF h0;obtain ⟨a1,k1,rfl⟩:=zAF h1;obtain ⟨a2,k2,rfl⟩:=zAF h2;obtain ⟨a3,k3,rfl⟩:=zAF h3;obtain ⟨a4,k4,rfl⟩:=zAF h4;obtain ⟨a5,k5,rfl⟩:=zAF h5;have hs:CX I s _:=⟨_,_,_,_,_,_,rfl,h0,h1,h2,h3,h4,h5⟩;unfold OL;have hl0:=hT.len;repeat' (first|(with_reducible first|refine Bo (b:=b) ?_|refine keepA ?_|refine Ap (λ_=>?_))|(with_reducible refine AX ?_;refine KQ n hE _ zT zA zo (λy r1 hg1 hT1 hr1 I' v' a' k' hI' hv' hw1=>?_) (λe hg I' v' hI'=>?_))|(with_reducible refine AX ?_;refine ADO n hn0 (hE.one rfl) zT zA zo (LC (λx r hg hT2 hr2 I' v' a' k' hI' hv' hw' hx'=>?_)) (λe hg I' v' hI'=>?_))|(with_reducible refine Ai ?_;refine Bv _ zT zA (λhb hT' hl' v' hv'=>?_) (λhb=>?_))|(with_reducible refine Bd _ zT zA (λhb hT' hl' I' v' hI' hv'=>?_) (λhb I' v' hI'=>?_))|(with_reducible refine AX ?_;refine CS zT zA (λhb hT' hl' v' hv'=>?_) (λhb=>?_))|(with_reducible refine AX ?_;refine Af zT zA ?_)|(with_reducible first|refine Cb zC (λI' a hI' hw'=>zAA ?_)|refine CJ zC zC (λI' a hI' hw'=>zAA ?_)|refine Cj zC zC zC (λI' a hI' hw'=>zAA ?_))|(with_reducible refine Ai ?_;refine BC zC ?_)|refine zqr ?_|refine zqb ?_|refine zqi ?_ ?_|refine zqc ?_|refine zqg (λhb=>?_) (λhb=>?_)|refine zqe ?_|fail)
 all_goals first
  |exact zAE (L1++(b,PBo v')::L2) (zAA (herr _ (by simp [Jg,Jy,Res.bind,bad,AO,Res.bind,bad,AO, *] <;> rfl) _ _ zE))
  |exact AAf n hn0 hE zT zA zo zo (s:={s with fWhere:=y,fGroup:=x}) ⟨_,_,_,_,_,_,rfl,(ItL.mono h0 zE),(SoL.mono h1 zE),(zAH hw1 zE),hw',(zAH h4 zE),(OrL.mono h5 zE)⟩ (λy q hy hT' hq I' v' c hI hv hc=>hok y q (by simp [Jg,Jy,AO,Res.bind,hy, *]) hT' hq I' v' c zE hv hc) (λe hy I' v' hI=>herr e (by simp [Jg,Jy,AO,Res.bind,hy, *]) I' v' zE)
  |exact AAf n hn0 hE zT zA zo zo (s:={s with fWhere:=y}) ⟨_,_,_,_,_,_,rfl,(ItL.mono h0 zE),(SoL.mono h1 zE),(zAH hw1 zE),(zAI (λ_ _ h=>ExV.mono zE h) h3 zE (λ_ h=>h)),(zAH h4 zE),(OrL.mono h5 zE)⟩ (λy q hy hT' hq I' v' c hI hv hc=>hok y q (by simp [Jg,Jy,AO,Res.bind,hy, *]) hT' hq I' v' c zE hv hc) (λe hy I' v' hI=>herr e (by simp [Jg,Jy,AO,Res.bind,hy, *]) I' v' zE)
theorem AFA (n:Nat)(hn0:n≤1000000000)(hE:FnE ω n b 227 (eP n)):FnV ω n b 186 (Iq n) CX:=by
 intro K Pn I L C v l hF h hT hl hok herr;obtain ⟨L1,L2,rfl,rfl⟩:=hF.foc;rw [ABs] at hok herr;refine AOJ ?_;unfold AKR;repeat' (first|(with_reducible first|refine Bo (b:=b) ?_|refine keepA ?_|refine Ap (λ_=>?_))|(with_reducible refine AX ?_;refine ALs n hn0 ((AIU n hE).one rfl) zT zA zo (LC (λy r1 hg1 hT1 hr1 I' v' a' k' hI' hv' hw1 hx1=>?_)) (λe hg I' v' hI'=>?_))|(with_reducible refine AX ?_;refine (AIZ n hn0 hE).go zT zA zo (λx r hg hT2 hr2 I' v' a' k' hI' hv' hw' hx'=>?_) (λe hg I' v' hI'=>?_))|(with_reducible refine Ai ?_;refine Bv _ zT zA (λhb hT' hl' v' hv'=>?_) (λhb=>?_))|(with_reducible refine Bd _ zT zA (λhb hT' hl' I' v' hI' hv'=>?_) (λhb I' v' hI'=>?_))|(with_reducible refine AX ?_;refine CS zT zA (λhb hT' hl' v' hv'=>?_) (λhb=>?_))|(with_reducible refine AX ?_;refine Af zT zA ?_)|(with_reducible first|refine Cb zC (λI' a hI' hw'=>zAA ?_)|refine CJ zC zC (λI' a hI' hw'=>zAA ?_)|refine Cj zC zC zC (λI' a hI' hw'=>zAA ?_))|(with_reducible refine Ai ?_;refine BC zC ?_)|refine zqr ?_|refine zqb ?_|refine zqi ?_ ?_|refine zqc ?_|refine zqg (λhb=>?_) (λhb=>?_)|refine zqe ?_|fail)
 all_goals first
  |exact zAE (L1++(b,PBo v')::L2) (zAA (herr _ (by simp [Ip,Res.bind,bad,AO, *] <;> rfl) _ _ zE))
  |exact OT n hn0 hE zT zA zo zo (s:={AEV true with fItems:=y,fFrom:=x}) ⟨_,_,_,_,_,_,rfl,(ItL.mono hw1 zE),hw',zAD none 0,zAD none 0,zAD none 0,zAD none 0⟩ (λz q hz hT' hq I' v' c hI hv hc=>hok z q (by simp [Ip,Res.bind,hz, *]) hT' hq I' v' c zE hv hc) (λe hz I' v' hI=>herr e (by simp [Ip,Res.bind,hz, *]) I' v' zE)
  |exact OT n hn0 hE zT zA zo zo (s:={AEV true with fItems:=y}) ⟨_,_,_,_,_,_,rfl,(ItL.mono hw1 zE),(zAD none 0),zAD none 0,zAD none 0,zAD none 0,zAD none 0⟩ (λz q hz hT' hq I' v' c hI hv hc=>hok z q (by simp [Ip,Res.bind,hz, *]) hT' hq I' v' c zE hv hc) (λe hz I' v' hI=>herr e (by simp [Ip,Res.bind,hz, *]) I' v' zE)
  |exact OT n hn0 hE zT zA zo zo (s:={AEV false with fItems:=y,fFrom:=x}) ⟨_,_,_,_,_,_,rfl,(ItL.mono hw1 zE),hw',zAD none 0,zAD none 0,zAD none 0,zAD none 0⟩ (λz q hz hT' hq I' v' c hI hv hc=>hok z q (by simp [Ip,Res.bind,hz, *]) hT' hq I' v' c zE hv hc) (λe hz I' v' hI=>herr e (by simp [Ip,Res.bind,hz, *]) I' v' zE)
  |exact OT n hn0 hE zT zA zo zo (s:={AEV false with fItems:=y}) ⟨_,_,_,_,_,_,rfl,(ItL.mono hw1 zE),(zAD none 0),zAD none 0,zAD none 0,zAD none 0,zAD none 0⟩ (λz q hz hT' hq I' v' c hI hv hc=>hok z q (by simp [Ip,Res.bind,hz, *]) hT' hq I' v' c zE hv hc) (λe hz I' v' hI=>herr e (by simp [Ip,Res.bind,hz, *]) I' v' zE)
end
section
variable {ω:Om}{b:Nat}
theorem AFn (n:Nat):FnE ω n b 274 IP:=by
 intro K Pn I L C v l hF h hT hl hok herr;obtain ⟨L1,L2,rfl,rfl⟩:=hF.foc;have hN:FnE ω n b 285 Qr:=Ru n;refine AMx ?_;unfold sh274;repeat' (first|(with_reducible first|refine Bo (b:=b) ?_|refine keepA ?_|refine Ap (λ_=>?_))|(with_reducible refine AX ?_;refine hN.go zT zA zo (λy r' hg hT2 hr2 I' v' a' k' hI' hv' hw'=>?_) (λe hg I' v' hI'=>?_))|(with_reducible refine Ai ?_;refine LJ zT zA (λx hx hT' hl' v' hv'=>?_) (λhx=>?_))|(with_reducible refine Ai ?_;refine Bv _ zT zA (λhb hT' hl' v' hv'=>?_) (λhb=>?_))|(with_reducible refine Bd _ zT zA (λhb hT' hl' I' v' hI' hv'=>?_) (λhb I' v' hI'=>?_))|(with_reducible refine AX ?_;refine CS zT zA (λhb hT' hl' v' hv'=>?_) (λhb=>?_))|(with_reducible refine AX ?_;refine Af zT zA ?_)|(with_reducible first|refine Cb zC (λI' a hI' hw'=>zAA ?_)|refine CJ zC zC (λI' a hI' hw'=>zAA ?_)|refine Cj zC zC zC (λI' a hI' hw'=>zAA ?_))|(with_reducible refine Ai ?_;refine BC zC ?_)|refine zqr ?_|refine zqb ?_|(with_reducible first|refine BI (sh274.eq_1 ..) ?_|refine And.intro ?_ ?_)|refine zqc ?_|refine zqg (λhb=>?_) (λhb=>?_)|refine zqe ?_|fail)
 all_goals first
  |exact zAE (L1++(b,PBo v')::L2) (zAA (herr _ (by simp [IP,Res.bind,bad,AO, *] <;> rfl) _ _ zE))
  |exact zAE (L1++(b,PBo v')::L2) (zAA (hok _ _ (by simp [IP,Res.bind,bad,AO, *] <;> rfl) zA zo _ _ _ zE zT zC))
  |exact zAE (L1++(b,PBo v')::L2) (zAA (hok (exK 4 [y]) _ (by simp [IP,Res.bind, *] <;> rfl) zA zo _ _ _ zE zT zC))
def tyK (s:Bs):Option Int:=if s=[116,101,120,116] then some 3 else if s=[98,111,111,108,101,97,110]∨s=[98,111,111,108] then some 2 else if s=[98,105,103,105,110,116]∨s=[105,110,116,101,103,101,114]∨s=[105,110,116] then some 1 else none
theorem AHW:Ii (Ii (Ii (Ii (Ii (Ii (λ_=>none) [105,110,116] (some (.int .i64 1))) [105,110,116,101,103,101,114] (some (.int .i64 1))) [98,105,103,105,110,116] (some (.int .i64 1))) [98,111,111,108] (some (.int .i64 2))) [98,111,111,108,101,97,110] (some (.int .i64 2))) [116,101,120,116] (some (.int .i64 3))=λk=>(tyK k).map (.int .i64):=by
 funext k
 simp only [Ii,tyK];by_cases h1:k=[116,101,120,116]
 ·subst h1;rfl
 by_cases h2:k=[98,111,111,108,101,97,110]
 ·subst h2;rfl
 by_cases h3:k=[98,111,111,108]
 ·subst h3;rfl
 by_cases h4:k=[98,105,103,105,110,116]
 ·subst h4;rfl
 by_cases h5:k=[105,110,116,101,103,101,114]
 ·subst h5;rfl
 by_cases h6:k=[105,110,116]
 ·subst h6;rfl
 simp only [h1,h2,h3,h4,h5,h6,if_false,or_self];rfl
theorem ABS (s:Bs):typeOf s=(tyK s).getD 0:=by
 simp only [typeOf,tyK];by_cases h1:s=[116,101,120,116]
 ·subst h1;rfl
 by_cases h2:s=[98,111,111,108,101,97,110]
 ·subst h2;rfl
 by_cases h3:s=[98,111,111,108]
 ·subst h3;rfl
 by_cases h4:s=[98,105,103,105,110,116]
 ·subst h4;rfl
 by_cases h5:s=[105,110,116,101,103,101,114]
 ·subst h5;rfl
 by_cases h6:s=[105,110,116]
 ·subst h6;rfl
 simp only [h1,h2,h3,h4,h5,h6,if_false,or_self];rfl
def JB (c:TCol)(l:List Tok):Option (Res TCol):=
  if (!c.fNotNull&&isT l [110,111,116])=true then some ((AO [110,117,108,108] l.tail).bind λ_ r=>.ok {c with fNotNull:=true} r) else
  if (!c.fKey&&isT l [112,114,105,109,97,114,121])=true then some ((AO [107,101,121] l.tail).bind λ_ r=>.ok {c with fKey:=true} r) else
  if (!c.fUnique&&isT l [117,110,105,113,117,101])=true then some (.ok {c with fUnique:=true} l.tail) else
  if (c.fDefault.kind==0&&isT l [100,101,102,97,117,108,116])=true then some ((IP l.tail).bind λx r=>.ok {c with fDefault:=x} r) else none
theorem Xw (m:Nat)(c:TCol)(l:List Tok):GY (m+1) c l=match JB c l with
  |some g=>g.bind λc r=>GY m c r
  |none=>.ok c l:=by
 simp only [GY,JB];split
 ·simp only [Eu];rfl
 split
 ·simp only [Eu];rfl
 split
 ·rfl
 split
 ·simp only [Eu];rfl
 ·rfl
abbrev colZ:List Value:=[.string ⟨#[]⟩,.int .i64 0,.bool false,.bool false,.bool false,.int .i64 0,.int .i64 0,.bool false,.int .i64 0,.string ⟨#[]⟩,.string ⟨#[]⟩,.string ⟨#[]⟩,.int .i64 0,.int .i64 0,.bool false,.slice none 0 0]
theorem AGD {I:Imm}{X L1 L2:LH}{Kn1:Unit→M}{K Pn:Value→M}{v:Value}{l:List Tok}{b1 bc:Nat}{x:TCol}{c:List Value}(h:TL I v l)(hT:Toks l)(hx:TColV I x c)
  (hnext:∀g y r,JB x l=some g→g= .ok y r→Toks r→r.length+1≤l.length→∀I' v' c',Ext I I'→TL I' v' r→TColV I' y c'→Gh (Kn1 ()) I' (X++((bc,.cells c'.toArray 130 (0,0))::(b1,.cells colZ.toArray 130 (0,0))::(L1++(b,PBo v')::L2))))
  (herr:∀g,JB x l=some g→PEr g Pn (λo=>L1++(b,o)::L2) I)
  (hend:JB x l=none→Gh (K (.agg c.toArray)) I (L1++(b,PBo v)::L2)):
  sh264_3 ω (Ac b) (Ac b1) (Ac bc) (λs=>Gh (Kn1 s)) (λv=>Gh (K v)) (λv=>Gh (Pn v)) I (X++((bc,.cells c.toArray 130 (0,0))::(b1,.cells colZ.toArray 130 (0,0))::(L1++(b,PBo v)::L2))):=by
 obtain ⟨v0,rfl,h0⟩:=hx;obtain ⟨a0,k0,rfl⟩:=zAF h0;have hl1:=hT.len;have hG:FnE ω l.length b 274 IP:=AFn _;unfold sh264_3;repeat' (first|(with_reducible first|refine Bo (b:=b) ?_|refine keepA ?_|refine Ap (λ_=>?_))|(with_reducible refine AX ?_;refine hG.go zT zA zo (λy r hg hT2 hr2 I' v' a' k' hI' hv' hw'=>?_) (λe hg I' v' hI'=>?_))|(with_reducible refine Ai ?_;refine Bv _ zT zA (λhb hT' hl' v' hv'=>?_) (λhb=>?_))|(with_reducible refine Bd _ zT zA (λhb hT' hl' I' v' hI' hv'=>?_) (λhb I' v' hI'=>?_))|(with_reducible refine AX ?_;refine CS zT zA (λhb hT' hl' v' hv'=>?_) (λhb=>?_))|(with_reducible refine AX ?_;refine Af zT zA ?_)|(with_reducible first|refine Cb zC (λI' a hI' hw'=>zAA ?_)|refine CJ zC zC (λI' a hI' hw'=>zAA ?_)|refine Cj zC zC zC (λI' a hI' hw'=>zAA ?_))|(with_reducible refine Ai ?_;refine BC zC ?_)|refine zqr ?_|refine zqb ?_|(with_reducible first|refine BI (sh264_4.eq_1 ..) ?_|refine BI (sh264_8.eq_1 ..) ?_|refine BI (sh264_10.eq_1 ..) ?_|refine BI (sh264_12.eq_1 ..) ?_|refine BI (sh264_13.eq_1 ..) ?_|refine BI (sh264_11.eq_1 ..) ?_|refine BI (sh264_9.eq_1 ..) ?_|refine BI (sh264_7.eq_1 ..) ?_|refine BI (sh264_3.eq_1 ..) ?_|refine BI (sh264_2.eq_1 ..) ?_|refine BI (sh264_1.eq_1 ..) ?_|refine BI (sh264.eq_1 ..) ?_|refine And.intro ?_ ?_)|refine zqc ?_|refine zqg (λhb=>?_) (λhb=>?_)|refine zqe ?_|fail)
 all_goals first
  |exact zAE (L1++(b,PBo v)::L2) (hend (by simp [JB, *]))
  |exact zAE (L1++(b,PBo v')::L2) (zAA (herr _ (by simp [JB, *] <;> rfl) _ (by simp [Res.bind,bad,AO, *] <;> rfl) _ _ zE))
  |exact hnext _ {x with fNotNull:=true} _ (by simp [JB, *] <;> rfl) (by simp [Res.bind,AO, *] <;> rfl) zA zo _ _ _ zE zT ⟨_,rfl,zC⟩
  |exact hnext _ {x with fKey:=true} _ (by simp [JB, *] <;> rfl) (by simp [Res.bind,AO, *] <;> rfl) zA zo _ _ _ zE zT ⟨_,rfl,zC⟩
  |exact hnext _ {x with fUnique:=true} _ (by simp [JB, *] <;> rfl) (by simp [Res.bind,AO, *] <;> rfl) zA zo _ _ _ zE zT ⟨_,rfl,zC⟩
  |exact hnext _ {x with fDefault:=y} _ (by simp [JB, *] <;> rfl) (by simp [Res.bind,AO, *] <;> rfl) zA zo _ _ _ zE zT ⟨_,rfl,zC⟩
theorem ACk (n:Nat):FnV ω n b 264 (FN n) TColV:=by
 intro K Pn I L C v l hF h hT hl hok herr;obtain ⟨L1,L2,rfl,rfl⟩:=hF.foc;refine ANE ?_;unfold sh264;refine Ap (λb1=>?_);refine AX (CS h hT (λhn hT1 hl1 v1 hv1=>?_) (λhn=>zAE (L1++(b,PBo v)::L2) (zAA (herr (hd l).at' (by simp [FN,Aw,Res.bind,bad,hn]) I v (zAC _)))));obtain ⟨bt,off,h1,h2⟩:=hv1.hd hT1;have two:∀(X:LH) (t:Int) (hty:(if isK l.tail 1 then typeOf (hd l.tail).text else 0)=t) (bc:Nat),sh264_1 ω (Ac b) (Ac b1) (Ac bc) (λv=>Gh (K v)) (λv=>Gh (Pn v)) I (X++((bc,.cells #[.string ⟨(hd l).text.toArray⟩,.int .i64 t,.bool false,.bool false,.bool false,.int .i64 0,.int .i64 0,.bool false,.int .i64 0,.string ⟨#[]⟩,.string ⟨#[]⟩,.string ⟨#[]⟩,.int .i64 0,.int .i64 0,.bool false,.slice none 0 0] 130 (0,0))::(b1,.cells colZ.toArray 130 (0,0))::(L1++(b,PBo v1)::L2))):=by
  intro X t hty bc;have hcol:FN n l=if t=0 then bad l.tail else GY n ⟨(hd l).text,t,false,false,false,ex0⟩ l.tail.tail:=by
   simp only [FN,Aw,hn,if_true,Res.bind,hty]
  rw [hcol] at hok herr;unfold sh264_1;repeat' (first|refine zqa ?_|refine zqh (λ_=>?_)|refine zqr ?_|refine zqb ?_|refine zqi ?_ ?_|refine zqc ?_|refine zqg (λ_=>?_) (λ_=>?_)|refine zqe ?_|fail)
  ·rename_i h0
   have h0:t=0:=by simpa using h0
   refine AX (Af hv1 hT1 ?_);exact zAE (L1++(b,PBo v1)::L2) (zAA (herr _ (by rw [if_pos h0];rfl) I v1 (zAC _)))
  rename_i h0
  have h0:t≠0:=by simpa using h0
  rw [if_neg h0] at hok herr;have hk1:isK l.tail 1=true:=by
   cases hk:isK l.tail 1 with
   |true=>rfl
   |false=>rw [hk] at hty;exact absurd hty.symm h0
  have hT2:=hT1.tailK hk1;have hl2:=hT1.len;unfold sh264_2;refine Ai (Gv hv1 hT1 (λv2 hv2=>?_));refine loop (λm s I2 Lx=>∃x c v2 l2 f,l2.length=m∧Ext I I2∧Lx=X++((bc,Obj.cells (c:List Value).toArray 130 (0,0))::(b1,.cells colZ.toArray 130 (0,0))::(L1++(b,PBo v2)::L2))∧TColV I2 x c∧TL I2 v2 l2∧Toks l2∧l2.length≤f∧l2.length≤l.length∧GY n ⟨(hd l).text,t,false,false,false,ex0⟩ l.tail.tail=GY f x l2) l.tail.tail.length
   ⟨⟨(hd l).text,t,false,false,false,ex0⟩,_,v2,l.tail.tail,n,rfl,zAC _,rfl,⟨_,rfl,zAD none 0⟩,hv2,hT2,by omega,by omega,rfl⟩ ?_
  rintro m s I2 Lx ⟨x,c,v2,l2,f,rfl,hI2,rfl,hx,hTL2,hT2,hf,hlen,hm⟩;have hl2:=hT2.len;obtain ⟨f,rfl⟩:∃k,f=k+1:=⟨f - 1,by omega⟩;rw [Xw] at hm;refine AGD hTL2 hT2 hx (λg y r hn hg hT3 hr3 I3 v3 c3 hI3 hTL3 hc3=>?_) (λg hn e hg I3 v3 hI3=>?_) (λhn=>?_)
  ·exact zAA ⟨r.length,by omega,y,c3,v3,r,f,rfl,zAB hI2 hI3,rfl,hc3,hTL3,hT3,by omega,by omega,by rw [hm,hn];simp only [hg,Res.bind]⟩
  ·exact herr e (by rw [hm,hn];simp only [hg,Res.bind]) I3 v3 (zAB hI2 hI3)
  ·exact zAA (hok x l2 (by rw [hm,hn]) hT2 hlen I2 v2 c hI2 hTL2 hx)
 repeat' (first|refine zqa ?_|refine zqh (λ_=>?_)|((with_reducible refine rd1 (v:=.int .i64 (hd l.tail).kind) ?_ ?_);exact (h2 _ [] (zAC _) 0 _ rfl).mono (zAC _) (λ_ h=>by cases h))|refine zqr ?_|refine zqb ?_|refine zqi ?_ ?_|refine zqc ?_|refine zqg (λ_=>?_) (λ_=>?_)|(simp only [SSd,Nat.reduceAdd,h1]))
 ·rename_i hk
  have hk:isK l.tail 1=true:=by simpa [isK] using hk
  refine AFS (λbm=>?_);obtain ⟨es1,c1,e1,p1⟩:=MapS.empty.put [105,110,116] (.int .i64 1);obtain ⟨es2,c2,e2,p2⟩:=p1.put [105,110,116,101,103,101,114] (.int .i64 1);obtain ⟨es3,c3,e3,p3⟩:=p2.put [98,105,103,105,110,116] (.int .i64 1);obtain ⟨es4,c4,e4,p4⟩:=p3.put [98,111,111,108] (.int .i64 2);obtain ⟨es5,c5,e5,p5⟩:=p4.put [98,111,111,108,101,97,110] (.int .i64 2);obtain ⟨es6,c6,e6,p6⟩:=p5.put [116,101,120,116] (.int .i64 3);rw [AHW] at p6;refine zAA (Np (k:=[105,110,116]) MapS.empty e1 ?_);refine zAA (Np (k:=[105,110,116,101,103,101,114]) p1 e2 ?_);refine zAA (Np (k:=[98,105,103,105,110,116]) p2 e3 ?_);refine zAA (Np (k:=[98,111,111,108]) p3 e4 ?_);refine zAA (Np (k:=[98,111,111,108,101,97,110]) p4 e5 ?_);refine zAA (Np (k:=[116,101,120,116]) p5 e6 ?_);refine zAA ?_;refine rdb ?_;simp only [h1,SSd,Nat.reduceAdd];refine rd1 (v:=.string ⟨(hd l.tail).text.toArray⟩) ((h2 _ [] (zAC _) 2 _ rfl).mono (zAC _) (λ_ h=>by cases h)) ?_;refine lkm (k:=(hd l.tail).text) p6 ?_;have hty:(if isK l.tail 1 then typeOf (hd l.tail).text else 0)=typeOf (hd l.tail).text:=by rw [hk];rfl
  have hlk:lkV (.int .i64 0) false ((λk=>(tyK k).map (.int .i64)) (hd l.tail).text)= .int .i64 (typeOf (hd l.tail).text):=by
   rw [ABS];show lkV _ _ (Option.map _ (tyK (hd l.tail).text))=_;cases tyK (hd l.tail).text <;> rfl
  simp only at hlk
  rw [hlk];repeat' (first|refine zqa ?_|refine zqh (λ_=>?_)|refine zqr ?_|refine zqb ?_|refine zqi ?_ ?_|refine zqc ?_|refine zqg (λ_=>?_) (λ_=>?_)|refine zqe ?_|fail)
  exact two [_] _ hty _
 ·rename_i hk
  have hk:isK l.tail 1=false:=by simpa [isK] using hk
  exact two [] 0 (by rw [hk];rfl) _
end
abbrev stZ:List Value:=[.int .i64 0,.bool false,.slice none 0 0,.slice none 0 0,.int .i64 0,.int .i64 0,.bool false,.int .i64 0,.string ⟨#[]⟩,.string ⟨#[]⟩,.string ⟨#[]⟩,.int .i64 0,.int .i64 0,.bool false,.slice none 0 0,.slice none 0 0,.int .i64 0,.int .i64 0,.bool false,.int .i64 0,.string ⟨#[]⟩,.string ⟨#[]⟩,.string ⟨#[]⟩,.int .i64 0,.int .i64 0,.bool false,.slice none 0 0,.slice none 0 0,.int .i64 0,.int .i64 0,.string ⟨#[]⟩,.slice none 0 0,.slice none 0 0,.slice none 0 0,.int .i64 0,.int .i64 0,.bool false,.int .i64 0,.string ⟨#[]⟩,.string ⟨#[]⟩,.string ⟨#[]⟩,.int .i64 0,.int .i64 0,.bool false,.slice none 0 0,.slice none 0 0,.slice none 0 0,.string ⟨#[]⟩,.string ⟨#[]⟩,.slice none 0 0,.bool false]
abbrev XV (nm:Bs)(w wk:Value):List Value:=[.int .i64 5,.bool false,.slice none 0 0,.slice none 0 0,.int .i64 0,.int .i64 0,.bool false,.int .i64 0,.string ⟨#[]⟩,.string ⟨#[]⟩,.string ⟨#[]⟩,.int .i64 0,.int .i64 0,.bool false,.slice none 0 0,.slice none 0 0,.int .i64 0,.int .i64 0,.bool false,.int .i64 0,.string ⟨#[]⟩,.string ⟨#[]⟩,.string ⟨#[]⟩,.int .i64 0,.int .i64 0,.bool false,.slice none 0 0,.slice none 0 0,.int .i64 0,.int .i64 0,.string ⟨nm.toArray⟩,.slice none 0 0,.slice none 0 0,.slice none 0 0,.int .i64 0,.int .i64 0,.bool false,.int .i64 0,.string ⟨#[]⟩,.string ⟨#[]⟩,.string ⟨#[]⟩,.int .i64 0,.int .i64 0,.bool false,.slice none 0 0,w,wk,.string ⟨#[]⟩,.string ⟨#[]⟩,.slice none 0 0,.bool false]
def Nr (w:Value)(n:Nat):Prop:=(n=0∧w= .slice none 0 0)∨(0 < n∧∃p k,w= .slice (some p) n k)
theorem SlO.nn {T n len:Nat}{X:LH}{v:Value}{cells:List Value}(h:SlO T n X v cells len)(h0:0 < len):Nr v len:=by
 obtain ⟨_,h8⟩:=h;rcases h8 with ⟨_,h1,_⟩|⟨b8,k8,_,_,h8,_⟩
 ·omega
 ·exact .inr ⟨h0,_,_,h8⟩
theorem RL.nn {α:Type}{R:Imm→α→List Value→Prop}{n:Nat}{I:Imm}{v:Value}{xs:List α}(hn:0 < n)(h:RL R n I [] v xs)(h0:0 < xs.length):Nr v xs.length:=by
 obtain ⟨cells,⟨_,a,cap,rfl,_,h⟩,_⟩:=RL.toI hn h;obtain ⟨b,off,cs,T,fr,ha,_⟩:=h zo;exact .inr ⟨h0,⟨b,off,none⟩,cap,by rw [ha]⟩
theorem ABc {α:Type}{n:Nat}{g:Pr α}{l r:List Tok}{x:List α}(h:BR n g l= .ok x r):0 < x.length:=by
 have go:∀m (acc:List α) l x r,DD g m acc l= .ok x r→acc.length≤x.length:=by
  intro m;induction m with
  |zero=>intro acc l x r h;simp only [DD,Res.ok.injEq] at h;obtain ⟨rfl,_⟩:=h;exact zh _
  |succ m ih=>
   intro acc l x r h;simp only [DD] at h;split at h
   ·cases hg:g l.tail with
    |ok y r2=>rw [hg] at h;have:=ih _ _ _ _ h;simp at this;omega
    |err e=>rw [hg] at h;simp [Res.bind] at h
   ·simp only [Res.ok.injEq] at h;obtain ⟨rfl,_⟩:=h;exact zh _
 simp only [BR] at h;cases hg:g l with
 |ok y r2=>rw [hg] at h;have:=go _ _ _ _ _ h;simp at this;omega
 |err e=>rw [hg] at h;simp [Res.bind] at h
theorem ABQ {α:Type}{n:Nat}{g:Pr α}{l r:List Tok}{x:List α}(h:CP n g l= .ok x r):0 < x.length:=by
 simp only [CP] at h;cases h1:AO [40] l with
 |err e=>rw [h1] at h;simp [Res.bind] at h
 |ok _ r1=>
  rw [h1] at h;simp only [Res.bind] at h;cases h2:BR n g r1 with
  |err e=>rw [h2] at h;simp at h
  |ok y r2=>
   rw [h2] at h;simp only at h;cases h3:AO [41] r2 with
   |err e=>rw [h3] at h;simp at h
   |ok _ r3=>rw [h3] at h;simp only [Res.ok.injEq] at h;obtain ⟨rfl,_⟩:=h;exact ABc h2
def UV (nm:Bs)(x:List TCol×List Bs)(r:List Tok):Res TStmt:=if x.1.isEmpty then bad r else (AO [41] r).bind λ_ r=>.ok {(default:TStmt) with fKind:=5,fTable:=nm,fCols:=x.1,fKey:=x.2} r
theorem ABY (n:Nat)(l:List Tok):Sz n l=(Aw l).bind λs r=>(AO [40] r).bind λ_ r=>(FY n (n+1) [] [] r).bind (UV s):=rfl
def Ji (n:Nat)(cs:List TCol)(ks:List Bs)(l:List Tok):Res (List TCol×List Bs):=
 if (ks.isEmpty&&isT l [112,114,105,109,97,114,121])=true then (AO [107,101,121] l.tail).bind λ_ r=>(CP n Aw r).bind λk r=>.ok (cs,k) r else (FN n l).bind λc r=>Res.ok (cs++[c],ks) r
theorem Oq (n m:Nat)(cs:List TCol)(ks:List Bs)(l:List Tok):FY n (m+1) cs ks l=(Ji n cs ks l).bind λx r=>if isT r [44] then FY n m x.1 x.2 r.tail else .ok x r:=rfl
theorem ASG {I:Imm}{L:LH}{K:Value→M}{x:TCol}{c:List Value}(hc:TColV I x c)(hk:∀I' a,Ext I I'→RL TColV 16 I' [] (.slice a 1 1) [x]→Gh (K (.slice a 1 1)) I' L):
  AC 130 16 #[.string ⟨#[]⟩,.int .i64 0,.bool false,.bool false,.bool false,.int .i64 0,.int .i64 0,.bool false,.int .i64 0,.string ⟨#[]⟩,.string ⟨#[]⟩,.string ⟨#[]⟩,.int .i64 0,.int .i64 0,.bool false,.slice none 0 0] 1 [(0,.agg c.toArray)] (gh K) I L:=
 Eg (R:=TColV) [x] [c] rfl rfl rfl (by simpa using hc.len) (by simpa using hc) (λhI h=>TColV.mono h hI) hk
section
variable {ω:Om}{b:Nat}
theorem Pz (n:Nat)(hn0:n≤1000000000){I:Imm}{L:LH}{K Pn:Value→M}{C:Obj→LH}{v:Value}{l:List Tok}[hF:Foc b L (PBo v) C](h:TL I v l)(hT:Toks l)(hl:l.length≤n)
  (hok:∀x r,CP n Aw l= .ok x r→Toks r→r.length≤l.length→∀I' v' a k,Ext I I'→TL I' v' r→StL I' (.slice (some a) x.length k) x→0 < x.length→K (.slice (some a) x.length k) I' (C (PBo v'))) (herr:PEr (CP n Aw l) Pn C I):CalP Tryz.prog ω 189 #[Ac b] K Pn I L:=
 YA n hn0 h hT hl (λx r hg hT' hr I' v' w hI hv' hw=>by
  have hpos:=ABQ hg;rcases RL.nn zx hw.1 hpos with ⟨h0,_⟩|⟨_,p,k,rfl⟩
  ·omega
  ·exact hok x r hg hT' hr I' v' p k hI hv' hw.1 hpos) herr
theorem ARy {I:Imm}{X L1 L2:LH}{Kn1:Unit→M}{K Pn:Value→M}{v w wk:Value}{l:List Tok}{b1 bs N0:Nat}{nm:Bs}{cs:List TCol}{ks:List Bs}{cells:List Value}(h:TL I v l)(hT:Toks l)(hN:l.length≤N0)
  (hX:SlO 130 16 X w cells cs.length) (hR:Recs (TColV I) 16 cs cells) (hw:Nr w cs.length) (hk:StL I wk ks) (hkn:Nr wk ks.length)
  (hnext:isT l [44]=true→∀v,TL I v l.tail→Gh (Kn1 ()) I (X++((bs,.cells (XV nm w wk).toArray 76 (0,0))::(b1,.cells stZ.toArray 76 (0,0))::(L1++(b,PBo v)::L2))))
  (hok:isT l [44]=false→VOk TStmtV (UV nm (cs,ks) l) N0 K (λo=>L1++(b,o)::L2) I) (herr:isT l [44]=false→PEr (UV nm (cs,ks) l) Pn (λo=>L1++(b,o)::L2) I):
  KY ω (Ac b) (Ac b1) (Ac bs) (λs=>Gh (Kn1 s)) (λv=>Gh (K v)) (λv=>Gh (Pn v)) I (X++((bs,.cells (XV nm w wk).toArray 76 (0,0))::(b1,.cells stZ.toArray 76 (0,0))::(L1++(b,PBo v)::L2))):=by
 unfold KY;refine Ai (Bv [44] h hT (λhb hT' hl' v' hv'=>?_) (λhb=>?_))
 ·repeat' (first|refine zqa ?_|refine zqh (λ_=>?_)|refine zqr ?_|refine zqb ?_|refine zqi ?_ ?_|refine zqc ?_|refine zqg (λ_=>?_) (λ_=>?_)|refine zqe ?_|fail)
  exact hnext hb v' hv'
 have hok:=hok hb;have herr:=herr hb;have hl1:=hT.len;rcases hw with ⟨h0,rfl⟩|⟨h0,p,kc,rfl⟩
 ·have hcs:cs=[]:=zG h0;subst hcs;repeat' (first|refine zqa ?_|refine zqh (λ_=>?_)|refine zqr ?_|refine zqb ?_|(with_reducible first|refine BI (sh236_5.eq_1 ..) ?_|refine And.intro ?_ ?_)|refine zqc ?_|refine zqg (λ_=>?_) (λ_=>?_)|refine zqe ?_|fail)
  refine AX (Af h hT ?_);exact zAE (L1++(b,PBo v)::L2) (zAA (herr _ rfl I v (zAC _)))
 ·have hce:cs.isEmpty=false:=by cases cs with
   |nil=>simp at h0
   |cons=>rfl
  obtain ⟨ak,kk,rfl⟩:=zAF hk;repeat' (first|(with_reducible first|refine Bo (b:=b) ?_|refine keepA ?_|refine Ap (λ_=>?_))|(with_reducible refine Ai ?_;refine Bv _ zT zA (λhb hT' hl' v' hv'=>?_) (λhb=>?_))|(with_reducible refine Bd _ zT zA (λhb hT' hl' I' v' hI' hv'=>?_) (λhb I' v' hI'=>?_))|(with_reducible refine AX ?_;refine CS zT zA (λhb hT' hl' v' hv'=>?_) (λhb=>?_))|(with_reducible refine AX ?_;refine Af zT zA ?_)|(with_reducible first|refine Cb zC (λI' a hI' hw'=>zAA ?_)|refine CJ zC zC (λI' a hI' hw'=>zAA ?_)|refine Cj zC zC zC (λI' a hI' hw'=>zAA ?_))|(with_reducible refine Ai ?_;refine BC zC ?_)|refine zqr ?_|refine zqb ?_|(with_reducible first|refine BI (sh236_5.eq_1 ..) ?_|refine BI (sh236_6.eq_1 ..) ?_|refine And.intro ?_ ?_)|refine zqc ?_|refine zqg (λhb=>?_) (λhb=>?_)|refine zqe ?_|fail)
  ·refine zAE (X++(L1++(b,PBo v')::L2)) ?_;refine RL.ofO (R:=TColV) (λ{I I' x c} h hI=>TColV.mono h hI) hX (Recs.imp (λ_ _ h=>TColV.mono h zE) hR) (λI3 hI3 hw=>zAA ?_);exact hok {(default:TStmt) with fKind:=5,fTable:=nm,fCols:=cs,fKey:=ks} _ (by simp [UV,hce,AO,hb,Res.bind] <;> rfl) zA zo I3 _ _ zE zT ⟨_,_,_,_,_,_,_,_,_,_,_,_,_,rfl,zAD none 0,zAD none 0,zAD none 0,zAD none 0,zAD none 0,zAD none 0,zAD none 0,zAD none 0,zAD none 0,zAD none 0,hw,(StL.mono hk zE),zAD none 0⟩
  ·exact zAE (L1++(b,PBo v')::L2) (zAA (herr _ (by simp [UV,hce,AO,hb,Res.bind,bad]) I' v' zE))
theorem ADI (n:Nat)(hn0:n≤1000000000){I:Imm}{X L1 L2:LH}{Kn1:Unit→M}{K Pn:Value→M}{v w wk:Value}{l:List Tok}{b1 bs N0:Nat}{nm:Bs}{cs:List TCol}{ks:List Bs}{cells:List Value}(h:TL I v l)(hT:Toks l)(hl:l.length≤n)(hN:l.length≤N0)
  (hX:SlO 130 16 X w cells cs.length) (hR:Recs (TColV I) 16 cs cells) (hcs:cs.length≤1000000001) (hw:Nr w cs.length) (hk:StL I wk ks) (hkn:Nr wk ks.length)
  (hnext:∀cs' ks' r,Ji n cs ks l= .ok (cs',ks') r→isT r [44]=true→Toks r.tail→r.tail.length+1≤l.length→cs'.length≤cs.length+1→∀I' X v w wk cells,Ext I I'→TL I' v r.tail→SlO 130 16 X w cells cs'.length→Recs (TColV I') 16 cs' cells→Nr w cs'.length→StL I' wk ks'→Nr wk ks'.length→Gh (Kn1 ()) I' (X++((bs,.cells (XV nm w wk).toArray 76 (0,0))::(b1,.cells stZ.toArray 76 (0,0))::(L1++(b,PBo v)::L2))))
  (hok:∀x r,Ji n cs ks l= .ok x r→isT r [44]=false→VOk TStmtV (UV nm x r) N0 K (λo=>L1++(b,o)::L2) I) (herr:PEr ((Ji n cs ks l).bind λx r=>if isT r [44] then .ok default [] else UV nm x r) Pn (λo=>L1++(b,o)::L2) I):
  TU ω (Ac b) (Ac b1) (Ac bs) (λs=>Gh (Kn1 s)) (λv=>Gh (K v)) (λv=>Gh (Pn v)) I (X++((bs,.cells (XV nm w wk).toArray 76 (0,0))::(b1,.cells stZ.toArray 76 (0,0))::(L1++(b,PBo v)::L2))):=by
 have hl1:=hT.len;unfold TU;have hcol:=ACk (ω:=ω) (b:=b) n;have ext:∀{I':Imm} {v' wk':Value} {l':List Tok} {ks':List Bs} {X':LH} {w':Value} {cells':List Value} {cs':List TCol},Ext I I'→TL I' v' l'→Toks l'→l'.length≤l.length→Ji n cs ks l= .ok (cs',ks') l'→cs'.length≤cs.length+1→SlO 130 16 X' w' cells' cs'.length→Recs (TColV I') 16 cs' cells'→Nr w' cs'.length→StL I' wk' ks'→Nr wk' ks'.length→
   KY ω (Ac b) (Ac b1) (Ac bs) (λs=>Gh (Kn1 s)) (λv=>Gh (K v)) (λv=>Gh (Pn v)) I' (X'++((bs,.cells (XV nm w' wk').toArray 76 (0,0))::(b1,.cells stZ.toArray 76 (0,0))::(L1++(b,PBo v')::L2))):=by
  intro I' v' wk' l' ks' X' w' cells' cs' hI' hTL' hT' hl' hg hcl hX' hR' hw' hk' hkn';refine ARy (N0:=N0) hTL' hT' zo hX' hR' hw' hk' hkn' (λhb v2 hv2=>?_) (λhb x r hx hTr hr I2 v2 c hI2 hv2 hc=>?_) (λhb e hx I2 v2 hI2=>?_)
  ·exact hnext _ _ _ hg hb (hT'.tailT hb) (by have:=hT'.len;omega) hcl I' _ _ _ _ _ hI' hv2 hX' hR' hw' hk' hkn'
  ·exact hok _ _ hg hb x r hx hTr hr I2 v2 c (zAB hI' hI2) hv2 hc
  ·exact herr e (by rw [hg];simp [Res.bind,hb,hx]) I2 v2 (zAB hI' hI2)
 have col:ks.isEmpty=false∨isT l [112,114,105,109,97,114,121]=false→Nz ω (Ac b) (Ac b1) (Ac bs) (λs=>Gh (Kn1 s)) (λv=>Gh (K v)) (λv=>Gh (Pn v)) I (X++((bs,.cells (XV nm w wk).toArray 76 (0,0))::(b1,.cells stZ.toArray 76 (0,0))::(L1++(b,PBo v)::L2))):=by
  intro hcase;have hnx:Ji n cs ks l=(FN n l).bind λc r=>Res.ok (cs++[c],ks) r:=by
   rcases hcase with hc|hc <;> simp [Ji,hc]
  unfold Nz;refine Bo (b:=b) ?_;try refine zqe ?_
  refine BJ ?_;refine AX (hcol.go h hT hl (λx r hg hT3 hr I3 v3 c hI3 hv3 hc=>?_) (λe hg I3 v3 hI3=>zAE (L1++(b,PBo v3)::L2) (zAA (herr e (by rw [hnx];simp [Res.bind,hg]) I3 v3 hI3))));refine BK hI3 ?_;refine ASG hc (λI4 a4 hI4 hw4=>zAA ?_);refine BK (zAB hI3 hI4) ?_;obtain ⟨c4,s4,r4⟩:=RL.toI zx hw4;refine BL (X:=X) rfl hX s4.news (r4.one_cells λx c h=>TColV.one h) zL zL (λX5 w5 hX5=>?_);have e5:cs.length+[x].length=(cs++[x]).length:=by simp
  rw [e5] at hX5;have hR5:=zAN (Recs.imp (R':=TColV I4) (λ_ _ h=>TColV.mono h (zAB hI3 hI4)) hR) r4;have hn5:=SlO.nn hX5 zy;obtain ⟨a5,k5,rfl⟩:=hX5.form;repeat' (first|refine zqa ?_|refine zqh (λ_=>?_)|refine zqr ?_|refine zqb ?_|refine zqi ?_ ?_|refine zqc ?_|refine zqg (λ_=>?_) (λ_=>?_)|refine zqe ?_|fail)
  exact ext (zAB hI3 hI4) (hv3.mono hI4) hT3 hr (by rw [hnx];simp [Res.bind,hg]) zy hX5 hR5 hn5 (hk.mono (zAB hI3 hI4)) hkn
 rcases hkn with ⟨h0,rfl⟩|⟨h0,p,kc,rfl⟩
 ·have hks:ks=[]:=zG h0;subst hks;have hw3:=hw;rcases hw3 with ⟨_,hw3⟩|⟨_,pw,kw,hw3⟩ <;> subst hw3
  all_goals repeat' (first|(with_reducible first|refine Bo (b:=b) ?_|refine keepA ?_|refine Ap (λ_=>?_))|(with_reducible refine AX ?_;refine Pz n hn0 zT zA zo (λx r hg hT3 hr I' v' a' k' hI' hv' hw' hpos=>?_) (λe hg I' v' hI'=>?_))|(with_reducible refine Ai ?_;refine Bv _ zT zA (λhb hT' hl' v' hv'=>?_) (λhb=>?_))|(with_reducible refine Bd _ zT zA (λhb hT' hl' I' v' hI' hv'=>?_) (λhb I' v' hI'=>?_))|(with_reducible refine AX ?_;refine CS zT zA (λhb hT' hl' v' hv'=>?_) (λhb=>?_))|(with_reducible refine AX ?_;refine Af zT zA ?_)|(with_reducible first|refine Cb zC (λI' a hI' hw'=>zAA ?_)|refine CJ zC zC (λI' a hI' hw'=>zAA ?_)|refine Cj zC zC zC (λI' a hI' hw'=>zAA ?_))|(with_reducible refine Ai ?_;refine BC zC ?_)|refine zqr ?_|refine zqb ?_|(with_reducible first|refine BI (sh236_2.eq_1 ..) ?_|refine And.intro ?_ ?_)|refine zqc ?_|refine zqg (λhb=>?_) (λhb=>?_)|refine zqe ?_|fail)
  all_goals first
   |exact col (.inr zA)
   |exact ext (by first|exact zAC _|exact zE) zT zA zo (by simp [Ji,AO,Res.bind, *]) zo hX (Recs.imp (λ_ _ h=>TColV.mono h zE) hR) hw hw' (.inr ⟨by assumption,_,_,rfl⟩)
   |exact zAE (L1++(b,PBo v')::L2) (zAA (herr _ (by simp [Ji,AO,Res.bind,bad, *] <;> rfl) _ _ zE))
 ·have hke:ks.isEmpty=false:=by cases ks with
   |nil=>simp at h0
   |cons=>rfl
  repeat' (first|refine zqa ?_|refine zqh (λ_=>?_)|refine zqr ?_|refine zqb ?_|refine zqi ?_ ?_|refine zqc ?_|refine zqg (λ_=>?_) (λ_=>?_)|refine zqe ?_|fail)
  exact col (.inl hke)
theorem ADH (n:Nat)(hn0:n≤1000000000):FnV ω n b 236 (Sz n) TStmtV:=by
 intro K Pn I L C v l hF h hT hl hok herr;obtain ⟨L1,L2,rfl,rfl⟩:=hF.foc;rw [ABY] at hok herr;refine ANZ ?_;unfold AJm;refine Ap (λb1=>?_);refine AX (CS h hT (λhn hT1 hl1 v1 hv1=>?_) (λhn=>zAE (L1++(b,PBo v)::L2) (zAA (herr (hd l).at' (by simp [Aw,Res.bind,bad,hn]) I v (zAC _)))));try refine zqe ?_
 refine Ap (λbs=>?_);repeat' (first|refine zqa ?_|refine zqh (λ_=>?_)|refine zqr ?_|refine zqb ?_|refine zqi ?_ ?_|refine zqc ?_|refine zqg (λ_=>?_) (λ_=>?_)|refine zqe ?_|fail)
 refine Bd [40] hv1 hT1 (λhw hT2 hl2 I2 v2 hI2 hv2=>?_) (λhw I2 v2 hI2=>zAE (L1++(b,PBo v2)::L2) (zAA (herr (hd l.tail).at' (by simp [Aw,Res.bind,bad,hn,AO,hw]) I2 v2 hI2)));have e:∀{x},x=((Aw l).bind λs r=>(AO [40] r).bind λ_ r=>(FY n (n+1) [] [] r).bind (UV s))↔x=(FY n (n+1) [] [] l.tail.tail).bind (UV (hd l).text):=by
  intro x;simp [Aw,Res.bind,hn,AO,hw]
 have e:=e.1 rfl;rw [e] at hok herr;clear e;refine loop (λm s I3 Lx=>∃X v l2 w wk cells cs ks f,l2.length=m∧Ext I I3∧Lx=X++((bs,.cells (XV (hd l).text w wk).toArray 76 (0,0))::(b1,.cells stZ.toArray 76 (0,0))::(L1++(b,PBo v)::L2))∧TL I3 v l2∧Toks l2∧SlO 130 16 X w cells cs.length∧Recs (TColV I3) 16 cs cells∧Nr w cs.length∧StL I3 wk ks∧Nr wk ks.length∧l2.length≤f∧cs.length+l2.length≤l.length∧FY n (n+1) [] [] l.tail.tail=FY n f cs ks l2) l.tail.tail.length
  ⟨[],v2,l.tail.tail,.slice none 0 0,.slice none 0 0,[],[],[],n+1,rfl,hI2,rfl,hv2,hT2,zAJ _ _,rfl,.inl ⟨rfl,rfl⟩,zAD none 0,.inl ⟨rfl,rfl⟩,by omega,by simp;omega,rfl⟩ ?_
 rintro m s I3 Lx ⟨X,v3,l2,w,wk,cells,cs,ks,f,rfl,hI3,rfl,hTL,hT3,hX,hR,hw3,hk,hkn,hf,hlen,hm⟩;have hl3:=hT3.len;obtain ⟨f,rfl⟩:∃k,f=k+1:=⟨f - 1,by omega⟩;rw [hm,Oq,Eu] at hok herr;rw [Oq n f cs ks l2] at hm;refine ADI n hn0 (N0:=l.length) hTL hT3 zo zo hX hR zo hw3 hk hkn (λcs' ks' r hg hb hTr hr hcl I4 X4 v4 w4 wk4 cells4 hI4 hv4 hX4 hR4 hw4 hk4 hkn4=>?_) (λx r hg hb y q hy hTq hq I4 v4 c hI4 hv4 hc=>?_) (λe hg I4 v4 hI4=>?_)
 ·exact zAA ⟨r.tail.length,by omega,X4,v4,r.tail,w4,wk4,cells4,cs',ks',f,rfl,zAB hI3 hI4,rfl,hv4,hTr,hX4,hR4,hw4,hk4,hkn4,by omega,by omega,by rw [hm,hg];simp only [Res.bind,hb,if_true]⟩
 ·exact hok y q (by simp [hg,Res.bind,hb,hy]) hTq hq I4 v4 c (zAB hI3 hI4) hv4 hc
 ·refine herr e ?_ I4 v4 (zAB hI3 hI4);cases hx:Ji n cs ks l2 with
  |err e'=>rw [hx] at hg;simpa [Res.bind] using hg
  |ok x r=>
   rw [hx] at hg;cases hb:isT r [44] with
   |true=>simp [Res.bind,hb] at hg
   |false=>simpa [Res.bind,hb] using hg
end
end Go.Proofs.YthkaekjoemhjaaaGreatDoor
