/- lemmas -/
import Derived.Test.YtkifgfanjcfedaaGreatDoorP9
import Derived.Test.YtkifgfanjcfedaaGreatDoorRows
import Derived.Test.YtkifgfanjcfedaaGreatDoorP2
import Derived.Test.YtkifgfanjcfedaaGreatDoorP3
import Derived.Test.YtkifgfanjcfedaaGreatDoorP8
import Derived.LaidSub
import Derived.MakeChecks
import Derived.Lib.LaidTab
set_option maxRecDepth 100000
set_option maxHeartbeats 4000000
set_option linter.unusedVariables false
set_option linter.unusedSimpArgs false
set_option linter.unusedSectionVars false
namespace Go.Proofs.YtkifgfanjcfedaaGreatDoor
open Go.SL
theorem RP {l:List Bs}(h:nmL l):∃T,CZ (DC l) (tk 5 [40] 0::(T++[tk 5 [41] 0]))∧∀n r,(T++tk 5 [41] 0::r).length≤n→BC n Ae (tk 5 [40] 0::(T++[tk 5 [41] 0])++r)= .ok l r:=by
 obtain ⟨T,h1,_,_,h2⟩:=LZ (f:=nameB) (one:=λ_=>Ae) (F:=λ_=>True) (B:=λ_=>True) (λ_=>trivial) h.1 λy hy=>⟨[tk 1 y 0],Dy (h.2 y hy),⟨_,_,rfl,trivial⟩,λn r _ _=>rfl⟩;refine ⟨T,?_,λn r hl=>?_⟩
 ·have:=KG (Bz (a:=[40]) (T:=[tk 5 [40] 0]) (Aw rfl rfl) h1) (b:=[41]) (U:=[tk 5 [41] 0]) (Aw rfl rfl) λu=>ET rfl;simpa [DC] using this
 ·have e:tk 5 [40] 0::(T++[tk 5 [41] 0])++r=tk 5 [40] 0::(T++tk 5 [41] 0::r):=by simp
  rw [e];show (BG n Ae (T++tk 5 [41] 0::r)).bind _=_;rw [h2 n (tk 5 [41] 0::r) trivial rfl hl];rfl
def RtS (s:TStmt):Prop:=∃T,CK (BB true s) T∧(∃t r,T=t::r∧t.kind=2∧t.text≠[59])∧∀n r,Nx [] r→(T++r).length≤n→DV n (T++r)= .ok s r
theorem AEu {q:TSelect}(h:WfQ q):RtS {(default:TStmt) with fKind:=1,fSelect:=q}:=by
 obtain ⟨T,t1,t2⟩:=AIJ h;refine ⟨tk 2 [115,101,108,101,99,116] 0::T,t1,⟨_,_,rfl,rfl,by decide⟩,λn r hr hl=>?_⟩;show (EY n (T++r)).bind _=_;rw [t2 n r hr (by simp only [List.cons_append,List.length_cons] at hl;omega)];rfl
theorem AEv {t:Bs}{c:List Bs}{x:List (List Ex)}(ht:nOk t=true)(hc:c=[]∨nmL c)(hx:Hw (Hw WfE) x):RtS {(default:TStmt) with fKind:=2,fTable:=t,fColumns:=c,fRows:=x}:=by
 obtain ⟨X,x1,_,_,x2⟩:=LZ (f:=rowB true) (one:=λn=>BC n (eP n)) (F:=λ_=>True) (B:=λ_=>True) (λ_=>trivial) hx.1 λy hy=>by
  obtain ⟨U,u1,_,_,u2⟩:=Qn (hx.2 y hy).1 λz hz=>AAY ((hx.2 y hy).2 z hz);refine ⟨[tk 5 [40] 0]++U++[tk 5 [41] 0],(KG (Bz (a:=[40]) (Aw rfl rfl) u1) (b:=[41]) (Aw rfl rfl) λu=>ET rfl).ck,⟨_,_,rfl,trivial⟩,λn r _ hl=>?_⟩;have e:[tk 5 [40] 0]++U++[tk 5 [41] 0]++r=tk 5 [40] 0::(U++tk 5 [41] 0::r):=by simp
  rw [e] at hl ⊢;exact OY u2 n r (by simp only [List.length_cons] at hl;omega)
 have hcs:∃C,CZ ((if c.isEmpty then [] else [32]++DC c)++[32,118,97,108,117,101,115,32]) (C++[tk 2 [118,97,108,117,101,115] 0])∧(∀u,bd ((if c.isEmpty then [] else [32]++DC c)++[32,118,97,108,117,101,115,32]++u))∧∀n r,(C++r).length≤n→(if isT (C++tk 2 [118,97,108,117,101,115] 0::r) [40] then BC n Ae (C++tk 2 [118,97,108,117,101,115] 0::r) else Res.ok [] (C++tk 2 [118,97,108,117,101,115] 0::r))= .ok c (tk 2 [118,97,108,117,101,115] 0::r):=by
  rcases hc with rfl|hc
  ·exact ⟨[],Aw rfl rfl,λu=>ET rfl,λn r _=>rfl⟩
  ·obtain ⟨N,n1,n2⟩:=RP hc;have h0:c.isEmpty=false:=by simpa using hc.1
   rw [h0];refine ⟨tk 5 [40] 0::(N++[tk 5 [41] 0]),?_,λu=>ET rfl,λn r hl=>?_⟩
   ·exact Ti (λu l hc=>.sp (n1 u l hc)) (Aw rfl rfl)
   ·show BC n Ae (tk 5 [40] 0::(N++[tk 5 [41] 0])++tk 2 [118,97,108,117,101,115] 0::r)=_;exact n2 n _ (by simp only [zU] at hl ⊢;omega)
 obtain ⟨C,c1,c2,c3⟩:=hcs;have e:BB true {(default:TStmt) with fKind:=2,fTable:=t,fColumns:=c,fRows:=x}=[105,110,115,101,114,116,32,105,110,116,111,32]++nameB t++((if c.isEmpty then [] else [32]++DC c)++[32,118,97,108,117,101,115,32]++AU (x.map (rowB true))):=by
  show [105,110,115,101,114,116,32,105,110,116,111,32]++nameB t++(if c.isEmpty then [] else [32]++DC c)++[32,118,97,108,117,101,115,32]++AU (x.map (rowB true))=_;simp only [List.append_assoc]
 unfold RtS;rw [e];refine ⟨[tk 2 [105,110,115,101,114,116] 0,tk 2 [105,110,116,111] 0]++[tk 1 t 0]++(C++[tk 2 [118,97,108,117,101,115] 0]++X),Bj (Bz (Aw rfl rfl) (Dy ht)) (Bz c1 x1) ?_,⟨_,_,rfl,rfl,by decide⟩,λn r hr hl=>?_⟩
 ·exact λu _=>by rw [List.append_assoc];exact c2 _
 ·have e2:[tk 2 [105,110,115,101,114,116] 0,tk 2 [105,110,116,111] 0]++[tk 1 t 0]++(C++[tk 2 [118,97,108,117,101,115] 0]++X)++r=tk 2 [105,110,115,101,114,116] 0::tk 2 [105,110,116,111] 0::tk 1 t 0::(C++tk 2 [118,97,108,117,101,115] 0::(X++r)):=by simp
  rw [e2] at hl ⊢;simp only [List.length_cons,List.length_append] at hl;show (if isT (C++tk 2 [118,97,108,117,101,115] 0::(X++r)) [40] then BC n Ae (C++tk 2 [118,97,108,117,101,115] 0::(X++r)) else Res.ok [] (C++tk 2 [118,97,108,117,101,115] 0::(X++r))).bind _=_;rw [c3 n (X++r) (by simp only [List.length_append];omega)];show (BG n (BC n (eP n)) (X++r)).bind _=_;rw [x2 n r trivial (hr.not rfl) (by simp only [List.length_append];omega)];rfl
theorem AEt {t:Bs}{x:List TSet}{w:Ex}(ht:nOk t=true)(hx:Hw (λy:TSet=>nOk y.fColumn=true∧WfE y.fExpr) x)(hw:ZX w):RtS {(default:TStmt) with fKind:=3,fTable:=t,fSets:=x,fWhere:=w}:=by
 obtain ⟨X,x1,_,_,x2⟩:=LZ (f:=λy:TSet=>nameB y.fColumn++[32,61,32]++exB true y.fExpr 1) (one:=Nj) (F:=λr=>ends 1 r) (B:=λ_=>True) (λr=>CY (by decide) _) hx.1 λy hy=>by
  obtain ⟨h1,h2⟩:=hx.2 y hy;obtain ⟨T,t1,_,_,t4⟩:=AIL h2;refine ⟨[tk 1 y.fColumn 0]++[tk 5 [61] 0]++T,Bz (KG (Dy h1) (Ew (s:=[61]) rfl) λu=>ET rfl) t1,⟨_,_,rfl,trivial⟩,λn r hr hl=>?_⟩;have e:[tk 1 y.fColumn 0]++[tk 5 [61] 0]++T++r=tk 1 y.fColumn 0::tk 5 [61] 0::(T++r):=by simp
  rw [e] at hl ⊢;show (eP n (T++r)).bind _=_;rw [t4 n r hr (by simp only [List.length_cons] at hl;omega)];rfl
 obtain ⟨W,w1,w2,w3,w4⟩:=Ll (w:=[119,104,101,114,101]) rfl rfl hw;simp only at w4
 refine ⟨[tk 2 [117,112,100,97,116,101] 0]++[tk 1 t 0]++[tk 2 [115,101,116] 0]++X++W,Bj (Bz (KG (Bz (a:=[117,112,100,97,116,101,32]) (Aw rfl rfl) (Dy ht)) (b:=[32,115,101,116,32]) (Aw rfl rfl) λu=>ET rfl) x1) w1 w2,⟨_,_,rfl,rfl,by decide⟩,λn r hr hl=>?_⟩
 ·have e2:[tk 2 [117,112,100,97,116,101] 0]++[tk 1 t 0]++[tk 2 [115,101,116] 0]++X++W++r=tk 2 [117,112,100,97,116,101] 0::tk 1 t 0::tk 2 [115,101,116] 0::(X++(W++r)):=by simp
  rw [e2] at hl ⊢;simp only [List.length_cons,List.length_append] at hl;have nW:=hr.opt w3;have fW:=nW.fol (by decide);show (BG n (Nj n) (X++(W++r))).bind _=_;rw [x2 n (W++r) fW.1 fW.2.2.2.2.2 (by simp only [List.length_append];omega)];show (Dq n [119,104,101,114,101] (W++r)).bind _=_;rw [w4 n r (hr.fol (by decide)) (hr.not rfl) (by simp only [List.length_append];omega)];rfl
theorem AEw {t:Bs}{w:Ex}(ht:nOk t=true)(hw:ZX w):RtS {(default:TStmt) with fKind:=4,fTable:=t,fWhere:=w}:=by
 obtain ⟨W,w1,w2,w3,w4⟩:=Ll (w:=[119,104,101,114,101]) rfl rfl hw;simp only at w4
 refine ⟨[tk 2 [100,101,108,101,116,101] 0,tk 2 [102,114,111,109] 0]++[tk 1 t 0]++W,Bj (Bz (a:=[100,101,108,101,116,101,32,102,114,111,109,32]) (Aw rfl rfl) (Dy ht)) w1 w2,⟨_,_,rfl,rfl,by decide⟩,λn r hr hl=>?_⟩;have e2:[tk 2 [100,101,108,101,116,101] 0,tk 2 [102,114,111,109] 0]++[tk 1 t 0]++W++r=tk 2 [100,101,108,101,116,101] 0::tk 2 [102,114,111,109] 0::tk 1 t 0::(W++r):=by simp
 rw [e2] at hl ⊢;simp only [List.length_cons,List.length_append] at hl;show (Dq n [119,104,101,114,101] (W++r)).bind _=_;rw [w4 n r (hr.fol (by decide)) (hr.not rfl) (by simp only [List.length_append];omega)];rfl
theorem AQG {x:Ex}(h:ATR x):x.kind≠0∧∃T,CK (exB true x 1) T∧∀r,EK (T++r)= .ok x r:=by
 rcases h with ⟨v,hv,rfl⟩|⟨y,⟨n,hn,rfl⟩,rfl⟩
 ·obtain ⟨h1,_⟩:=AGF hv;refine ⟨by simp [Et,Ex.kind],_,h1,λr=>?_⟩;rcases hv with ⟨s,hs,rfl⟩|rfl|rfl|rfl|⟨n,hn,rfl⟩ <;> rfl
 ·refine ⟨by simp [exK,Ex.kind],[tk 5 [45] 0]++[tk 3 [] n],?_,λr=>rfl⟩;intro u l hb hc;obtain ⟨c,s,e,g1,g2,g3⟩:=AJa 8 hn.1 hn.2;have g3:=g3 (by decide);have e1:exB true (exK 4 [Et ⟨1,false,n,[]⟩]) 1=[45]++IW true n:=rfl;rw [e1];show Ck ([45]++(IW true n++u)) (tk 5 [45] 0::([tk 3 [] n]++l));refine Ck.sign ?_ (XF hn.1 hn.2 u l hb hc);rw [e];simp only [okS,List.cons_append,List.head?_cons,Option.all_some];simp [signsL,g1,g2,g3]
def Wx (r:List Tok):Prop:=isT r [110,111,116]=false∧isT r [112,114,105,109,97,114,121]=false∧isT r [117,110,105,113,117,101]=false∧isT r [100,101,102,97,117,108,116]=false
theorem YQ {r:List Tok}(h:Wx r)(m:Nat)(c:TCol):Cj m c r= .ok c r:=by
 cases m with
 |zero=>rfl
 |succ m=>simp only [Cj,h.1,h.2.1,h.2.2.1,h.2.2.2,Bool.and_false,Bool.false_eq_true,if_false]
theorem AMI {c:TCol}(h:LQ c):∃T,CK (LM true c) T∧(∃r,T=tk 1 c.fName 0::r)∧∀n r,Wx r→(T++r).length≤n→Dx n (T++r)= .ok c r:=by
 obtain ⟨nm,ty,nn,ky,uq,df⟩:=c;obtain ⟨h1,h2,h3⟩:=h;simp only at h1 h2 h3
 have hty:CK (KC ty) [tk 1 (KC ty) 0]∧typeOf (KC ty)=ty∧ty≠0:=by
  rcases h2 with rfl|rfl|rfl
  ·exact ⟨EI rfl,by decide,by decide⟩
  ·exact ⟨EI rfl,by decide,by decide⟩
  ·exact ⟨EI rfl,by decide,by decide⟩
 have hdf:∃D,CK (if df.kind=0 then [] else [32,100,101,102,97,117,108,116,32]++exB true df 1) D∧bg (if df.kind=0 then [] else [32,100,101,102,97,117,108,116,32]++exB true df 1)∧∀m a b d r,Wx r→D.length≤m→Cj m ⟨nm,ty,a,b,d,ex0⟩ (D++r)= .ok ⟨nm,ty,a,b,d,df⟩ r:=by
  rcases h3 with rfl|h3
  ·exact ⟨[],Gq,Gt,λm a b d r hr _=>YQ hr _ _⟩
  ·obtain ⟨k0,T,t1,t2⟩:=AQG h3;rw [if_neg k0];refine ⟨[tk 2 [100,101,102,97,117,108,116] 0]++T,Bz (Aw rfl rfl) t1,BM rfl,λm a b d r hr hm=>?_⟩;obtain ⟨m,rfl⟩:∃k,m=k+1:=⟨m - 1,by simp only [zU] at hm;omega⟩;have e:Cj (m+1) ⟨nm,ty,a,b,d,ex0⟩ ([tk 2 [100,101,102,97,117,108,116] 0]++T++r)=(EK (T++r)).bind λx r=>Cj m ⟨nm,ty,a,b,d,x⟩ r:=by
    cases a <;> cases b <;> cases d <;> rfl
   rw [e,t2 r];exact YQ hr _ _
 obtain ⟨D,d1,d2,d4⟩:=hdf;have huq:∀m a b r,Wx r→((if uq then [tk 2 [117,110,105,113,117,101] 0] else [])++D).length≤m→Cj m ⟨nm,ty,a,b,false,ex0⟩ ((if uq then [tk 2 [117,110,105,113,117,101] 0] else [])++(D++r))= .ok ⟨nm,ty,a,b,uq,df⟩ r:=by
  intro m a b r hr hm;cases uq
  ·exact d4 m a b false r hr hm
  ·simp only [if_true,zU] at hm;obtain ⟨m,rfl⟩:∃k,m=k+1:=⟨m - 1,by omega⟩;have e:Cj (m+1) ⟨nm,ty,a,b,false,ex0⟩ ((if true=true then [tk 2 [117,110,105,113,117,101] 0] else [])++(D++r))=Cj m ⟨nm,ty,a,b,true,ex0⟩ (D++r):=by
    cases a <;> cases b <;> rfl
   rw [e];exact d4 m a b true r hr (by omega)
 have hky:∀m a r,Wx r→((if ky then [tk 2 [112,114,105,109,97,114,121] 0,tk 2 [107,101,121] 0] else [])++((if uq then [tk 2 [117,110,105,113,117,101] 0] else [])++D)).length≤m→Cj m ⟨nm,ty,a,false,false,ex0⟩ ((if ky then [tk 2 [112,114,105,109,97,114,121] 0,tk 2 [107,101,121] 0] else [])++((if uq then [tk 2 [117,110,105,113,117,101] 0] else [])++(D++r)))= .ok ⟨nm,ty,a,ky,uq,df⟩ r:=by
  intro m a r hr hm;cases ky
  ·exact huq m a false r hr hm
  ·rw [if_pos rfl,List.length_append] at hm;simp only [List.length_cons,List.length_nil] at hm;obtain ⟨m,rfl⟩:∃k,m=k+1:=⟨m - 1,by omega⟩;have e:∀q,Cj (m+1) ⟨nm,ty,a,false,false,ex0⟩ ((if true=true then [tk 2 [112,114,105,109,97,114,121] 0,tk 2 [107,101,121] 0] else [])++q)=Cj m ⟨nm,ty,a,true,false,ex0⟩ q:=by
    intro q;cases a <;> rfl
   rw [e];exact huq m a true r hr (by omega)
 have hnn:∀m r,Wx r→((if nn then [tk 2 [110,111,116] 0,tk 2 [110,117,108,108] 0] else [])++((if ky then [tk 2 [112,114,105,109,97,114,121] 0,tk 2 [107,101,121] 0] else [])++((if uq then [tk 2 [117,110,105,113,117,101] 0] else [])++D))).length≤m→Cj m ⟨nm,ty,false,false,false,ex0⟩ ((if nn then [tk 2 [110,111,116] 0,tk 2 [110,117,108,108] 0] else [])++((if ky then [tk 2 [112,114,105,109,97,114,121] 0,tk 2 [107,101,121] 0] else [])++((if uq then [tk 2 [117,110,105,113,117,101] 0] else [])++(D++r))))= .ok ⟨nm,ty,nn,ky,uq,df⟩ r:=by
  intro m r hr hm;cases nn
  ·exact hky m false r hr hm
  ·rw [if_pos rfl,List.length_append] at hm;simp only [List.length_cons,List.length_nil] at hm;obtain ⟨m,rfl⟩:∃k,m=k+1:=⟨m - 1,by omega⟩;exact hky m true r hr (by omega)
 refine ⟨[tk 1 nm 0]++[tk 1 (KC ty) 0]++(if nn then [tk 2 [110,111,116] 0,tk 2 [110,117,108,108] 0] else [])++(if ky then [tk 2 [112,114,105,109,97,114,121] 0,tk 2 [107,101,121] 0] else [])++(if uq then [tk 2 [117,110,105,113,117,101] 0] else [])++D,?_,⟨_,rfl⟩,λn r hr hl=>?_⟩
 ·have o:∀{b:Bool} {s:Bs} {T:List Tok},CK s T→bg s→CK (if b then s else []) (if b then T else [])∧bg (if b then s else []):=by
   intro b s T h1 h2;cases b
   ·exact ⟨Gq,Gt⟩
   ·exact ⟨h1,h2⟩
  have a1:=o (b:=nn) (s:=[32,110,111,116,32,110,117,108,108]) (T:=[tk 2 [110,111,116] 0,tk 2 [110,117,108,108] 0]) (EI rfl) (BM rfl);have a2:=o (b:=ky) (s:=[32,112,114,105,109,97,114,121,32,107,101,121]) (T:=[tk 2 [112,114,105,109,97,114,121] 0,tk 2 [107,101,121] 0]) (EI rfl) (BM rfl);have a3:=o (b:=uq) (s:=[32,117,110,105,113,117,101]) (T:=[tk 2 [117,110,105,113,117,101] 0]) (EI rfl) (BM rfl);have h0:CK (nameB nm++[32]++KC ty) ([tk 1 nm 0]++[tk 1 (KC ty) 0]):=by
   rw [List.append_assoc];exact Bj (Dy h1) (λu l hb hc=>.sp (hty.1 u l hb hc)) (BM rfl)
  exact Bj (Bj (Bj (Bj h0 a1.1 a1.2) a2.1 a2.2) a3.1 a3.2) d1 d2
 ·simp only [List.append_assoc,List.cons_append,List.nil_append,List.length_cons] at hl ⊢;show (let t:=typeOf (KC ty);if t=0 then _ else Cj _ ⟨nm,t,false,false,false,ex0⟩ _)=_;simp only [hty.2.1];rw [if_neg hty.2.2];exact hnn n r hr (by simp only [List.length_append] at hl ⊢;omega)
theorem ABq {k:List Bs}{K:List Tok}(n:Nat)(hk:k=[]∧K=[]∨∃N,K=tk 5 [44] 0::tk 2 [112,114,105,109,97,114,121] 0::tk 2 [107,101,121] 0::tk 5 [40] 0::(N++[tk 5 [41] 0])∧∀r,(N++tk 5 [41] 0::r).length≤n→BC n Ae (tk 5 [40] 0::(N++[tk 5 [41] 0])++r)= .ok k r):
  ∀(ps:List (TCol×List Tok)) (p:TCol×List Tok) (m:Nat) (acc:List TCol) (r:List Tok),(∀q,q∈p::ps→(∃u,q.2=tk 1 q.1.fName 0::u)∧∀r,Wx r→(q.2++r).length≤n→Dx n (q.2++r)= .ok q.1 r)→ps.length+1 < m→
   (p.2++((ps.flatMap λx=>tk 5 [44] 0::x.2)++(K++tk 5 [41] 0::r))).length≤n→DD n m acc [] (p.2++((ps.flatMap λx=>tk 5 [44] 0::x.2)++(K++tk 5 [41] 0::r)))= .ok (acc++(p::ps).map (·.1),k) (tk 5 [41] 0::r)
 |ps,p,0,_,_,_,hm,_=>by omega
 |ps,p,m+1,acc,r,h,hm,hl=>by
  obtain ⟨⟨u,hu⟩,hp⟩:=h p (List.mem_cons_self ..);have hend:Wx ((ps.flatMap λx=>tk 5 [44] 0::x.2)++(K++tk 5 [41] 0::r)):=by
   cases ps with
   |nil=>
    rcases hk with ⟨_,rfl⟩|⟨N,rfl,_⟩
    ·exact ⟨rfl,rfl,rfl,rfl⟩
    ·exact ⟨rfl,rfl,rfl,rfl⟩
   |cons q ps=>exact ⟨rfl,rfl,rfl,rfl⟩
  have hc:=hp _ hend hl;have e1:DD n (m+1) acc [] (p.2++((ps.flatMap λx=>tk 5 [44] 0::x.2)++(K++tk 5 [41] 0::r)))=(Res.ok (acc++[p.1],[]) ((ps.flatMap λx=>tk 5 [44] 0::x.2)++(K++tk 5 [41] 0::r)):Res (List TCol×List Bs)).bind λx r=>if isT r [44] then DD n m x.1 x.2 r.tail else .ok x r:=by
   have:isT (p.2++((ps.flatMap λx=>tk 5 [44] 0::x.2)++(K++tk 5 [41] 0::r))) [112,114,105,109,97,114,121]=false:=by rw [hu];rfl
   simp only [DD,this,Bool.and_false,Bool.false_eq_true,if_false,hc];rfl
  rw [e1];cases ps with
  |cons q ps=>
   have ih:=ABq n hk ps q m (acc++[p.1]) r (λx hx=>h x (List.mem_cons_of_mem _ hx)) (by simp only [List.length_cons] at hm;omega) (by simp only [List.flatMap_cons,zU] at hl ⊢;omega);have e2:((q::ps).flatMap λx=>tk 5 [44] 0::x.2)++(K++tk 5 [41] 0::r)=tk 5 [44] 0::(q.2++((ps.flatMap λx=>tk 5 [44] 0::x.2)++(K++tk 5 [41] 0::r))):=by simp
   rw [e2];show DD n m (acc++[p.1]) [] _=_;rw [List.tail_cons,ih];simp
  |nil=>
   rcases hk with ⟨rfl,rfl⟩|⟨N,rfl,hN⟩
   ·rfl
   ·obtain ⟨m,rfl⟩:∃j,m=j+1:=⟨m - 1,by omega⟩;have hw:=hN (tk 5 [41] 0::r) (by simp only [List.flatMap_nil,List.nil_append,zU] at hl ⊢;omega);show DD n (m+1) (acc++[p.1]) [] (tk 2 [112,114,105,109,97,114,121] 0::tk 2 [107,101,121] 0::(tk 5 [40] 0::(N++[tk 5 [41] 0])++tk 5 [41] 0::r))=_;have e3:DD n (m+1) (acc++[p.1]) [] (tk 2 [112,114,105,109,97,114,121] 0::tk 2 [107,101,121] 0::(tk 5 [40] 0::(N++[tk 5 [41] 0])++tk 5 [41] 0::r))=((BC n Ae (tk 5 [40] 0::(N++[tk 5 [41] 0])++tk 5 [41] 0::r)).bind λk r=>Res.ok (acc++[p.1],k) r).bind λx r=>if isT r [44] then DD n m x.1 x.2 r.tail else .ok x r:=rfl
    rw [e3,hw];rfl
theorem AII {t:Bs}{x:List TCol}{k:List Bs}(ht:nOk t=true)(hx:Hw LQ x)(hk:k=[]∨nmL k):RtS {(default:TStmt) with fKind:=5,fTable:=t,fCols:=x,fKey:=k}:=by
 obtain ⟨ps,rfl,hps⟩:=pairs (Q:=λc T=>CK (LM true c) T∧(∃r,T=tk 1 c.fName 0::r)∧∀n r,Wx r→(T++r).length≤n→Dx n (T++r)= .ok c r) λy hy=>AMI (hx.2 y hy);have hkk:∃K,CK (if k.isEmpty then [] else [44,32,112,114,105,109,97,114,121,32,107,101,121,32]++DC k) K∧bg (if k.isEmpty then [] else [44,32,112,114,105,109,97,114,121,32,107,101,121,32]++DC k)∧∀n,(k=[]∧K=[]∨∃N,K=tk 5 [44] 0::tk 2 [112,114,105,109,97,114,121] 0::tk 2 [107,101,121] 0::tk 5 [40] 0::(N++[tk 5 [41] 0])∧∀r,(N++tk 5 [41] 0::r).length≤n→BC n Ae (tk 5 [40] 0::(N++[tk 5 [41] 0])++r)= .ok k r):=by
  rcases hk with rfl|hk
  ·exact ⟨[],Gq,Gt,λn=>.inl ⟨rfl,rfl⟩⟩
  ·obtain ⟨N,n1,n2⟩:=RP hk;rw [if_neg (by simpa using hk.1)];exact ⟨[tk 5 [44] 0,tk 2 [112,114,105,109,97,114,121] 0,tk 2 [107,101,121] 0]++(tk 5 [40] 0::(N++[tk 5 [41] 0])),(Ti (Aw rfl rfl) n1).ck,BM rfl,λn=>.inr ⟨N,rfl,n2 n⟩⟩
 obtain ⟨K,k1,k2,k3⟩:=hkk;cases ps with
 |nil=>exact absurd rfl hx.1
 |cons p ps=>
  have hcm:=Yu (f:=λp:TCol×List Tok=>LM true p.1) (t:=λp=>p.2) p ps λy hy=>(hps y hy).1;have e0:(p::ps).map (λp:TCol×List Tok=>LM true p.1)=((p::ps).map (·.1)).map (LM true):=by rw [List.map_map];rfl
  rw [e0] at hcm;have e:BB true {(default:TStmt) with fKind:=5,fTable:=t,fCols:=(p::ps).map (·.1),fKey:=k}=[99,114,101,97,116,101,32,116,97,98,108,101,32]++nameB t++[32,40]++AU (((p::ps).map (·.1)).map (LM true))++(if k.isEmpty then [] else [44,32,112,114,105,109,97,114,121,32,107,101,121,32]++DC k)++[41]:=rfl;unfold RtS;rw [e];refine ⟨[tk 2 [99,114,101,97,116,101] 0,tk 2 [116,97,98,108,101] 0]++[tk 1 t 0]++[tk 5 [40] 0]++(p.2++ps.flatMap λx=>tk 5 [44] 0::x.2)++K++[tk 5 [41] 0],(KG (Bj (Bz (KG (Bz (a:=[99,114,101,97,116,101,32,116,97,98,108,101,32]) (Aw rfl rfl) (Dy ht)) (b:=[32,40]) (Aw rfl rfl) λu=>ET rfl) hcm) k1 k2) (b:=[41]) (Aw rfl rfl) λu=>ET rfl).ck,⟨_,_,rfl,rfl,by decide⟩,λn r hr hl=>?_⟩;have e2:[tk 2 [99,114,101,97,116,101] 0,tk 2 [116,97,98,108,101] 0]++[tk 1 t 0]++[tk 5 [40] 0]++(p.2++ps.flatMap λx=>tk 5 [44] 0::x.2)++K++[tk 5 [41] 0]++r=tk 2 [99,114,101,97,116,101] 0::tk 2 [116,97,98,108,101] 0::tk 1 t 0::tk 5 [40] 0::(p.2++((ps.flatMap λx=>tk 5 [44] 0::x.2)++(K++tk 5 [41] 0::r))):=by simp
  rw [e2] at hl ⊢;have hf:=Wq ps;simp only [List.length_cons,List.length_append] at hl;have:=ABq n (k3 n) ps p (n+1) [] r (λq hq=>⟨(hps q hq).2.1,λr hr hl=>(hps q hq).2.2 n r hr hl⟩) (by omega) (by simp only [zU];omega);show (DD n (n+1) [] [] (p.2++((ps.flatMap λx=>tk 5 [44] 0::x.2)++(K++tk 5 [41] 0::r)))).bind _=_;rw [this];rfl
theorem AIK {a t:Bs}{c:List Bs}{u:Bool}(ha:nOk a=true)(ht:nOk t=true)(hc:nmL c):RtS {(default:TStmt) with fKind:=6,fIndex:=⟨a,t,c,u⟩}:=by
 obtain ⟨N,n1,n2⟩:=RP hc;have e:BB true {(default:TStmt) with fKind:=6,fIndex:=⟨a,t,c,u⟩}=[99,114,101,97,116,101,32]++(if u then [117,110,105,113,117,101,32] else [])++[105,110,100,101,120,32]++nameB a++[32,111,110,32]++nameB t++[32]++DC c:=rfl;unfold RtS;rw [e];have hu:CZ ([99,114,101,97,116,101,32]++(if u then [117,110,105,113,117,101,32] else [])++[105,110,100,101,120,32]) ([tk 2 [99,114,101,97,116,101] 0]++(if u then [tk 2 [117,110,105,113,117,101] 0] else [])++[tk 2 [105,110,100,101,120] 0]):=by
  cases u <;> exact Aw rfl rfl
 refine ⟨[tk 2 [99,114,101,97,116,101] 0]++(if u then [tk 2 [117,110,105,113,117,101] 0] else [])++[tk 2 [105,110,100,101,120] 0]++[tk 1 a 0]++[tk 2 [111,110] 0]++[tk 1 t 0]++[]++(tk 5 [40] 0::(N++[tk 5 [41] 0])),(Ti (KG (Bz (KG (Bz hu (Dy ha)) (b:=[32,111,110,32]) (Aw rfl rfl) λu=>ET rfl) (Dy ht)) (b:=[32]) (Aw rfl rfl) λu=>ET rfl) n1).ck,⟨_,_,rfl,rfl,by decide⟩,λn r hr hl=>?_⟩;have e2:[tk 2 [99,114,101,97,116,101] 0]++(if u then [tk 2 [117,110,105,113,117,101] 0] else [])++[tk 2 [105,110,100,101,120] 0]++[tk 1 a 0]++[tk 2 [111,110] 0]++[tk 1 t 0]++[]++(tk 5 [40] 0::(N++[tk 5 [41] 0]))++r=tk 2 [99,114,101,97,116,101] 0::((if u then [tk 2 [117,110,105,113,117,101] 0] else [])++tk 2 [105,110,100,101,120] 0::tk 1 a 0::tk 2 [111,110] 0::tk 1 t 0::(tk 5 [40] 0::(N++[tk 5 [41] 0])++r)):=by simp
 rw [e2] at hl ⊢;have hn:=n2 n r (by simp only [List.length_cons,List.length_append,List.length_nil] at hl ⊢;omega);cases u
 ·show (BC n Ae (tk 5 [40] 0::(N++[tk 5 [41] 0])++r)).bind _=_;rw [hn];rfl
 ·show (BC n Ae (tk 5 [40] 0::(N++[tk 5 [41] 0])++r)).bind _=_;rw [hn];rfl
theorem AMF {s:TStmt}(h:WfS s):RtS s:=by
 rcases h with ⟨q,hq,rfl⟩|⟨t,c,x,h1,h2,h3,rfl⟩|⟨t,x,w,h1,h2,h3,rfl⟩|⟨t,w,h1,h2,rfl⟩|⟨t,x,k,h1,h2,h3,rfl⟩|⟨a,t,c,u,h1,h2,h3,rfl⟩|⟨t,h1,rfl⟩|⟨t,h1,rfl⟩|⟨k,hk,rfl⟩
 ·exact AEu hq
 ·exact AEv h1 h2 h3
 ·exact AEt h1 h2 h3
 ·exact AEw h1 h2
 ·exact AII h1 h2 h3
 ·exact AIK h1 h2 h3
 ·exact ⟨[tk 2 [100,114,111,112] 0,tk 2 [116,97,98,108,101] 0]++[tk 1 t 0],Bz (a:=[100,114,111,112,32,116,97,98,108,101,32]) (Aw rfl rfl) (Dy h1),⟨_,_,rfl,rfl,by decide⟩,λn r _ _=>rfl⟩
 ·exact ⟨[tk 2 [100,114,111,112] 0,tk 2 [105,110,100,101,120] 0]++[tk 1 t 0],Bz (a:=[100,114,111,112,32,105,110,100,101,120,32]) (Aw rfl rfl) (Dy h1),⟨_,_,rfl,rfl,by decide⟩,λn r _ _=>rfl⟩
 ·rcases hk with rfl|rfl|rfl
  ·exact ⟨[tk 2 [98,101,103,105,110] 0],EI rfl,⟨_,_,rfl,rfl,by decide⟩,λn r _ _=>rfl⟩
  ·exact ⟨[tk 2 [99,111,109,109,105,116] 0],EI rfl,⟨_,_,rfl,rfl,by decide⟩,λn r _ _=>rfl⟩
  ·exact ⟨[tk 2 [114,111,108,108,98,97,99,107] 0],EI rfl,⟨_,_,rfl,rfl,by decide⟩,λn r _ _=>rfl⟩
theorem AFc {s:TStmt}(h:WfS s):readA (BB true s)=([s],ok0):=by
 obtain ⟨T,h1,⟨t,q,ht,htk,htx⟩,h2⟩:=AMF h;have hb:bd []:=⟨rfl,nofun,nofun⟩;have hck:=h1 [] [] hb .nil;rw [List.append_nil,List.append_nil] at hck;obtain ⟨p,k1,k2⟩:=hck.lx.lex;obtain ⟨_,p',_,k3,_,k4⟩:=AQh k1;obtain rfl:p=p':=(List.append_inj' k3 rfl).1;have hT:T.map Tok.st=T:=by
  rw [←k2,List.map_map];rfl
 have hT6:∀t∈T,t.kind≠6:=by
  intro t ht;rw [←k2] at ht;obtain ⟨u,hu,rfl⟩:=List.mem_map.1 ht;exact k4 u hu
 unfold readA;rw [k1];simp only
 have hm:Bd ((p++[(⟨6,(BB true s).length,[],0⟩:Tok)]).length+1) ((p++[(⟨6,(BB true s).length,[],0⟩:Tok)]).length+1) [] (T++[tk 6 [] 0])= .ok [s] [tk 6 [] 0]:=by
  have hl:(T++[tk 6 [] 0]).length=(p++[(⟨6,(BB true s).length,[],0⟩:Tok)]).length:=by
   rw [←k2];simp
  have hs:=h2 ((p++[(⟨6,(BB true s).length,[],0⟩:Tok)]).length+1) [tk 6 [] 0] ⟨_,_,rfl,.inl rfl⟩ (by omega);have g1:isK (T++[tk 6 [] 0]) 6=false:=by rw [ht];simp [isK,hd,htk]
  have g2:isT (T++[tk 6 [] 0]) [59]=false:=by
   rw [ht];have:(t.text==[59])=false:=by simpa using htx
   simp only [isT,hd,List.cons_append,List.headD_cons,this,Bool.and_false]
  simp only [Bd,g1,g2,hs,Res.bind,Bool.false_eq_true,if_false];simp only [zU];rfl
 obtain ⟨y,r',e1,e2⟩:=AAH _ (p++[(⟨6,(BB true s).length,[],0⟩:Tok)]).length _ ((p++[(⟨6,(BB true s).length,[],0⟩:Tok)]).length+1) (T++[tk 6 [] 0]) (p++[(⟨6,(BB true s).length,[],0⟩:Tok)]) ⟨T,p,_,_,rfl,rfl,by rw [hT,k2],rfl,rfl,hT6⟩ (by rw [←k2];simp) (Nat.le_refl _) (by rw [←k2];simp) (Nat.le_succ _) [] [] _ _ hm;rw [e2];simp only [List.nil_append] at e1 ⊢;rw [e1]
end Go.Proofs.YtkifgfanjcfedaaGreatDoor
namespace Go.Proofs.YtkifgfanjcfedaaGreatDoor
open Go.SL
def mB (s:Bs):Nat:=s.length+1
mutual
def mE:Ex→Nat
 | .mk _ v t n _ _ _ l=>v.fText.length+t.length+n.length+mL l+1
def mL:List Ex→Nat
 |[]=>0
 |x::l=>mE x+mL l
end
mutual
def iE:Ex→Prop
 | .mk _ v _ _ _ _ _ l=>okI v.fInt∧iL l
def iL:List Ex→Prop
 |[]=>True
 |x::l=>iE x∧iL l
end
theorem We:∀l:List Ex,(l.map mE).sum=mL l
 |[]=>rfl
 |x::l=>by simp only [List.map_cons,List.sum_cons,mL,We l]
theorem APE:∀{l:List Ex},(∀x∈l,iE x)→iL l
 |[],_=>trivial
 |x::l,h=>⟨h x (List.mem_cons_self ..),APE λy hy=>h y (List.mem_cons_of_mem _ hy)⟩
theorem AJY {x:Ex}:∀{l:List Ex},iL l→x∈l→iE x
 |y::l,h,hx=>by
  rcases List.mem_cons.1 hx with rfl|hx
  ·exact h.1
  ·exact AJY h.2 hx
section
variable {H:Type}{enc:TypeId×Value→H}{W:World}{cs:List Value}{d:DataW H}
def JE (x:TItem):Nat:=x.fTable.length+mE x.fExpr+x.fAs.length+1
def AJW (x:TItem):Prop:=iE x.fExpr
def DY (x:TSource):Nat:=x.fTable.length+x.fAs.length+mE x.fOn+1
def TJ (x:TSource):Prop:=iE x.fOn
def Fz (x:TOrder):Nat:=mE x.fExpr+1
def ADo (x:TOrder):Prop:=iE x.fExpr
def PV (x:TSet):Nat:=x.fColumn.length+mE x.fExpr+1
def AUl (x:TSet):Prop:=iE x.fExpr
def EX (x:TCol):Nat:=x.fName.length+mE x.fDefault+1
def AJX (x:TCol):Prop:=iE x.fDefault
def VF (x:TIdx):Nat:=x.fName.length+x.fTable.length+(x.fColumns.map mB).sum+1
def AUm (x:TIdx):Prop:=True
def IR (x:TSelect):Nat:=(x.fItems.map JE).sum+(x.fFrom.map DY).sum+mE x.fWhere+mL x.fGroup+mE x.fHaving+(x.fOrder.map Fz).sum+1
def Yb (x:TSelect):Prop:=(∀y∈x.fItems,AJW y)∧(∀y∈x.fFrom,TJ y)∧iE x.fWhere∧(∀y∈x.fGroup,iE y)∧iE x.fHaving∧(∀y∈x.fOrder,ADo y)∧okI x.fLimit∧okI x.fOffset
def JD (x:TStmt):Nat:=IR x.fSelect+x.fTable.length+(x.fColumns.map mB).sum+(x.fRows.map λl=>mL l+1).sum+(x.fSets.map PV).sum+mE x.fWhere+(x.fCols.map EX).sum+(x.fKey.map mB).sum+VF x.fIndex+1
def AJV (x:TStmt):Prop:=Yb x.fSelect∧(∀l∈x.fRows,∀y∈l,iE y)∧(∀y∈x.fSets,AUl y)∧iE x.fWhere∧(∀y∈x.fCols,AJX y)∧AUm x.fIndex
end
theorem Tc:∀(k f n:Nat) (acc:Bs),1≤k→n < 10 ^ k→(PD f n acc).length≤acc.length+k
 |0,_,_,_,h,_=>by omega
 |k+1,0,n,acc,_,_=>by simp only [PD];omega
 |k+1,f+1,n,acc,_,hn=>by
  simp only [PD];split
  ·simp
  ·rename_i h10
   cases k with
   |zero=>simp at hn;omega
   |succ k=>
    have hd:n / 10 < 10 ^ (k+1):=by
     rw [Nat.pow_succ] at hn;omega
    have:=Tc (k+1) f (n / 10) (UInt8.ofNat (48+n % 10)::acc) (by omega) hd;simp only [List.length_cons] at this;omega
theorem Tf {n:Int}(h:okI n):(IW true n).length≤20:=by
 unfold okI at h;unfold IW;split
 ·simp only [if_true,List.length_cons];have:=Tc 19 (n.natAbs+1) n.natAbs [] (by omega) (by omega);simp only [List.length_nil] at this;omega
 ·have:=Tc 19 (n.toNat+1) n.toNat [] (by omega) (by omega);simp only [List.length_nil] at this;omega
theorem Ut (q:UInt8)(s:Bs):(FV q s).length≤2 * s.length+2:=by
 have:∀s:Bs,(s.flatMap λc=>if c==q then [q,q] else [c]).length≤2 * s.length:=by
  intro s;induction s with
  |nil=>simp
  |cons c s ih=>
   simp only [List.flatMap_cons,zU];split <;> simp only [List.length_cons,List.length_nil] <;> omega
 have:=this s;simp only [FV,zU];omega
theorem EH (s:Bs):(nameB s).length≤2 * s.length+2:=by
 unfold nameB;split
 ·omega
 ·exact Ut 34 s
theorem ALP {v:TValue}(h:okI v.fInt):(RZ true v).length≤2 * v.fText.length+20:=by
 unfold RZ;split
 ·simp
 split
 ·have:=Ut 39 v.fText;omega
 split
 ·split <;> simp
 ·have:=Tf h;omega
theorem Ia:∀l:List Bs,(AU l).length≤(l.map λx=>x.length+2).sum
 |[]=>by simp [AU]
 |[x]=>by simp [AU]
 |x::y::l=>by
  have:=Ia (y::l);simp only [AU,List.length_append,List.map_cons,List.sum_cons] at this ⊢;simp only [List.length_cons,List.length_nil];omega
theorem JW {α:Type}{f:α→Bs}{μ:α→Nat}:∀(l:List α),(∀x∈l,(f x).length+2≤40 * μ x)→(AU (l.map f)).length≤40 * (l.map μ).sum:=by
 intro l h;refine Nat.le_trans (Ia _) ?_;induction l with
 |nil=>simp
 |cons x l ih=>
  have h1:=h x (List.mem_cons_self ..);have h2:=ih λy hy=>h y (List.mem_cons_of_mem _ hy);simp only [List.map_cons,List.sum_cons] at h2 ⊢;omega
theorem Ld:∀(l:List Ex) (F:Nat→Bs),(∀i x,l[i]? =some x→(F i).length+2≤40 * mE x)→(((List.range l.length).map F).map λx=>x.length+2).sum≤40 * mL l
 |[],F,_=>by simp [mL]
 |x::l,F,h=>by
  have h0:=h 0 x rfl;have ih:=Ld l (λi=>F (i+1)) (λi y hy=>h (i+1) y (by simpa using hy));rw [List.length_cons,List.range_succ_eq_map];simp only [List.map_cons,List.sum_cons,List.map_map,mL] at ih ⊢;have e:((λx:Bs=>x.length+2) ∘ F ∘ Nat.succ)=((λx:Bs=>x.length+2) ∘ λi=>F (i+1)):=rfl;rw [e];omega
theorem Yj {α:Type}(F:α→Bs):∀l:List α,(l.flatMap F).length≤((l.map F).map λx=>x.length+2).sum
 |[]=>by simp
 |x::l=>by
  have:=Yj F l;simp only [List.flatMap_cons,List.length_append,List.map_cons,List.sum_cons] at this ⊢;omega
theorem Ot (x:Ex):mE x=x.value.fText.length+x.table.length+x.name.length+mL x.args+1:=by cases x;rfl
theorem AEW {l:List Ex}{A:Nat→Nat}(h:∀i x,l[i]? =some x→A i+8≤40 * mE x)(h1:∀i,l[i]? =none→A i≤1):A 0+A 1+A 2≤40 * mL l+3∧A 0+A 1≤40 * mL l+2∧A 0≤40 * mL l+1:=by
 match l with
 |[]=>
  have a0:=h1 0 rfl;have a1:=h1 1 rfl;have a2:=h1 2 rfl;omega
 |[x]=>
  have a0:=h 0 x rfl;have a1:=h1 1 rfl;have a2:=h1 2 rfl;simp only [mL];omega
 |[x,y]=>
  have a0:=h 0 x rfl;have a1:=h 1 y rfl;have a2:=h1 2 rfl;simp only [mL];omega
 |x::y::z::l=>
  have a0:=h 0 x rfl;have a1:=h 1 y rfl;have a2:=h 2 z rfl;simp only [mL];omega
theorem AGg {k:Int}{s:Bs}{l:Int}(h:CQ k=some (s,l)):s.length≤4:=by
 unfold CQ at h;by_cases h0:k=22;· subst h0;simp at h;rw [←h.1];decide
 by_cases h1:k=21;· subst h1;simp at h;rw [←h.1];decide
 by_cases h2:k=23;· subst h2;simp at h;rw [←h.1];decide
 by_cases h3:k=15;· subst h3;simp at h;rw [←h.1];decide
 by_cases h4:k=16;· subst h4;simp at h;rw [←h.1];decide
 by_cases h5:k=17;· subst h5;simp at h;rw [←h.1];decide
 by_cases h6:k=18;· subst h6;simp at h;rw [←h.1];decide
 by_cases h7:k=19;· subst h7;simp at h;rw [←h.1];decide
 by_cases h8:k=20;· subst h8;simp at h;rw [←h.1];decide
 by_cases h9:k=9;· subst h9;simp at h;rw [←h.1];decide
 by_cases h10:k=10;· subst h10;simp at h;rw [←h.1];decide
 by_cases h11:k=14;· subst h11;simp at h;rw [←h.1];decide
 by_cases h12:k=11;· subst h12;simp at h;rw [←h.1];decide
 by_cases h13:k=12;· subst h13;simp at h;rw [←h.1];decide
 by_cases h14:k=13;· subst h14;simp at h;rw [←h.1];decide
 simp [h0,h1,h2,h3,h4,h5,h6,h7,h8,h9,h10,h11,h12,h13,h14] at h
theorem AFW {x:Ex}{arg:Nat→Int→Bs}(hi:okI x.value.fInt)(h:∀i l y,x.args[i]? =some y→(arg i l).length+8≤40 * mE y)(h1:∀i l,x.args[i]? =none→(arg i l).length≤1):(Ap true x arg).length+10≤40 * mE x:=by
 rw [Ot];have t3:∀l0 l1 l2:Int,(arg 0 l0).length+(arg 1 l1).length+(arg 2 l2).length≤40 * mL x.args+3∧(arg 0 l0).length+(arg 1 l1).length≤40 * mL x.args+2∧(arg 0 l0).length≤40 * mL x.args+1:=by
  intro l0 l1 l2;have:=AEW (l:=x.args) (A:=λi=>(arg i (if i=0 then l0 else if i=1 then l1 else l2)).length) (λi y hy=>h i _ y hy) (λi hy=>h1 i _ hy);simpa using this
 unfold Ap;split
 ·rename_i s l hs
  have a:=AGg hs;have:=(t3 (if l=4 then 5 else l) (l+1) 0).2.1;simp only [zU];omega
 by_cases k1:x.kind=1
 ·rw [if_pos k1];have:=ALP hi;omega
 rw [if_neg k1];by_cases k2:x.kind=2
 ·rw [if_pos k2];have a:=EH x.table;have b:=EH x.name;simp only [List.length_append];split <;> simp only [zU] <;> omega
 rw [if_neg k2];by_cases k4:x.kind=4
 ·rw [if_pos k4];have:=(t3 8 0 0).2.2;simp only [zU];omega
 rw [if_neg k4];by_cases k5:x.kind=5
 ·rw [if_pos k5];have:=(t3 3 0 0).2.2;simp only [zU];omega
 rw [if_neg k5];by_cases k6:x.kind=6
 ·rw [if_pos k6];have:=(t3 5 0 0).2.2;simp only [zU];omega
 rw [if_neg k6];by_cases k7:x.kind=7
 ·rw [if_pos k7];have:=(t3 5 0 0).2.2;simp only [zU];omega
 rw [if_neg k7];by_cases k24:x.kind=24
 ·rw [if_pos k24];have ha:(arg 0 5).length+(AU ((List.range (x.args.length - 1)).map λi=>arg (i+1) 1)).length≤40 * mL x.args+1:=by
   cases hx:x.args with
   |nil=>
    have:=h1 0 5 (by rw [hx];rfl);simp [AU];omega
   |cons y l=>
    have a0:=h 0 5 y (by rw [hx];rfl);have:=Ia ((List.range l.length).map λi=>arg (i+1) 1);have b:=Ld l (λi=>arg (i+1) 1) (λi z hz=>by have:=h (i+1) 1 z (by rw [hx];simpa using hz);omega);simp only [List.length_cons,Nat.add_sub_cancel,mL];omega
  simp only [zU];omega
 rw [if_neg k24];by_cases k25:x.kind=25
 ·rw [if_pos k25];have:=(t3 5 5 5).1;simp only [zU];omega
 rw [if_neg k25];by_cases k8:x.kind=8
 ·rw [if_pos k8];have:=(t3 1 0 0).2.2;simp only [zU];omega
 rw [if_neg k8];by_cases k27:x.kind=27
 ·rw [if_pos k27];have:=Ia ((List.range x.args.length).map λi=>arg i 1);have b:=Ld x.args (λi=>arg i 1) (λi z hz=>by have:=h i 1 z hz;omega);simp only [zU];omega
 rw [if_neg k27];by_cases k26:x.kind=26
 ·rw [if_pos k26];have:=Yj (λi=>(if i % 2=1 then [32,116,104,101,110,32] else if i+1=x.args.length then [32,101,108,115,101,32] else [32,119,104,101,110,32])++arg i 1) (List.range x.args.length);have b:=Ld x.args (λi=>(if i % 2=1 then [32,116,104,101,110,32] else if i+1=x.args.length then [32,101,108,115,101,32] else [32,119,104,101,110,32])++arg i 1) (λi z hz=>by
   have:=h i 1 z hz;have e:(if i % 2=1 then [32,116,104,101,110,32] else if i+1=x.args.length then [32,101,108,115,101,32] else [32,119,104,101,110,32]:Bs).length=6:=by
    split
    ·rfl
    ·split <;> rfl
   simp only [List.length_append,e];omega)
  simp only [zU];omega
 rw [if_neg k26];by_cases k28:x.kind=28
 ·rw [if_pos k28];have:=(t3 1 0 0).2.2;simp only [List.length_append];split <;> split <;> simp only [List.length_cons,List.length_nil] <;> omega
 ·rw [if_neg k28];simp only [List.length_cons,List.length_nil];omega
theorem Ym:∀(n:Nat) (x:Ex) (asked:Int),iE x→(MN true n x asked).length+8≤40 * mE x
 |0,x,asked,_=>by
  have:=Ot x;simp only [MN,List.length_nil];omega
 |n+1,x,asked,hi=>by
  have hix:okI x.value.fInt∧iL x.args:=by cases x;exact hi
  have e:∃F:Nat→Int→Bs,MN true (n+1) x asked=YP (decide (Wi x.kind < asked)) (Ap true x F)∧∀i l,F i l=match x.args[i]? with|some y=>MN true n y l|none=>[63]:=⟨_,rfl,λ_ _=>rfl⟩
  obtain ⟨F,e,hF⟩:=e;have hin:=AFW (x:=x) (arg:=F) hix.1
   (λi l y hy=>by rw [hF];simp only [hy];exact Ym n y l (AJY hix.2 (List.mem_of_getElem? hy))) (λi l hy=>by rw [hF];simp [hy])
  rw [e];simp only [YP];split
  ·simp only [zU];omega
  ·omega
theorem Js {x:Ex}(h:iE x)(asked:Int):(exB true x asked).length+8≤40 * mE x:=Ym _ x asked h
theorem YW {l:List Ex}(h:∀x∈l,iE x):(Iu true l).length≤40 * mL l:=by
 rw [←We];exact JW l λx hx=>by have:=Js (h x hx) 1;omega
theorem NH {s:Bs}{x:Ex}(h:iE x)(hs:s.length≤8):(Di true s x).length≤40 * mE x:=by
 unfold Di;split
 ·simp
 ·have:=Js h 1;simp only [List.length_append];omega
theorem AKy (s:Bs):(asB s).length≤2 * s.length+6:=by
 unfold asB;split
 ·simp
 ·have:=EH s;simp only [zU];omega
theorem AJQ {x:TItem}(h:AJW x):(He true x).length+2≤40 * JE x:=by
 have a:=AKy x.fAs;have b:=EH x.fTable;have c:=Js h 1;unfold He JE;simp only [List.length_append];split
 ·split <;> simp only [zU] <;> omega
 ·omega
theorem ALa {x:TSource}(i:Nat)(h:TJ x):(KQ true i x).length≤40 * DY x:=by
 have a:=AKy x.fAs;have b:=EH x.fTable;have c:=Js h 1;unfold KQ DY;have e:(if i=0 then [32,102,114,111,109,32] else if x.fLeft then [32,108,101,102,116,32,106,111,105,110,32] else if x.fOn.kind≠0 then [32,106,111,105,110,32] else [32,99,114,111,115,115,32,106,111,105,110,32]:Bs).length≤12:=by
  split
  ·decide
  split
  ·decide
  split <;> decide
 revert e
 generalize (if i=0 then [32,102,114,111,109,32] else if x.fLeft then [32,108,101,102,116,32,106,111,105,110,32] else if x.fOn.kind≠0 then [32,106,111,105,110,32] else [32,99,114,111,115,115,32,106,111,105,110,32]:Bs)=p;intro e;simp only [List.length_append];split
 ·simp only [zU];omega
 ·simp only [List.length_nil];omega
theorem Xe:∀(l:List TSource) (i:Nat),(∀x∈l,TJ x)→(DW true i l).length≤40 * (l.map DY).sum
 |[],i,_=>by simp [DW]
 |x::l,i,h=>by
  have a:=ALa i (h x (List.mem_cons_self ..));have b:=Xe l (i+1) λy hy=>h y (List.mem_cons_of_mem _ hy);simp only [DW,List.length_append,List.map_cons,List.sum_cons];omega
theorem AMT {x:TOrder}(h:ADo x):(Sz true x).length+2≤40 * Fz x:=by
 have c:=Js h 1;unfold Sz Fz;simp only [List.length_append];split <;> simp only [List.length_cons,List.length_nil] <;> omega
theorem Oq (l:List Bs):(DC l).length≤40 * (l.map mB).sum+2:=by
 have:=JW (f:=nameB) (μ:=mB) l λx _=>by have:=EH x;unfold mB;omega
 unfold DC;simp only [zU];omega
theorem AFA {q:TSelect}(h:Yb q):(Jh true q).length≤40 * IR q+100:=by
 obtain ⟨h1,h2,h3,h4,h5,h6,h7,h8⟩:=h;have a1:=JW (f:=He true) (μ:=JE) q.fItems λx hx=>AJQ (h1 x hx);have a2:=Xe q.fFrom 0 h2;have a3:=NH (s:=[32,119,104,101,114,101,32]) h3 (by decide);have a4:=YW h4;have a5:=NH (s:=[32,104,97,118,105,110,103,32]) h5 (by decide);have a6:=JW (f:=Sz true) (μ:=Fz) q.fOrder λx hx=>AMT (h6 x hx);have a7:=Tf h7;have a8:=Tf h8;unfold Jh IR;have b1:(if q.fDistinct then [100,105,115,116,105,110,99,116,32] else []:Bs).length≤9:=by split <;> decide
 have b4:(if q.fGroup.isEmpty then [] else [32,103,114,111,117,112,32,98,121,32]++Iu true q.fGroup).length≤40 * mL q.fGroup+10:=by
  split <;> simp only [zU] <;> omega
 have b6:(if q.fOrder.isEmpty then [] else [32,111,114,100,101,114,32,98,121,32]++AU (q.fOrder.map (Sz true))).length≤40 * (q.fOrder.map Fz).sum+10:=by
  split <;> simp only [zU] <;> omega
 have b7:(if 0≤q.fLimit then [32,108,105,109,105,116,32]++IW true q.fLimit else []).length≤27:=by
  split <;> simp only [zU] <;> omega
 have b8:(if q.fOffset=0 then [] else [32,111,102,102,115,101,116,32]++IW true q.fOffset).length≤28:=by
  split <;> simp only [zU] <;> omega
 simp only [zU];omega
theorem AMw {c:TCol}(h:AJX c):(LM true c).length+2≤40 * EX c+40:=by
 have a:=EH c.fName;have b:=Js h 1;unfold LM EX;rw [show (if true=true then (1:Int) else 7)=1 from rfl];have b1:(KC c.fType).length≤4:=by
  unfold KC;split
  ·decide
  split
  ·decide
  split <;> decide
 have b2:(if c.fNotNull then [32,110,111,116,32,110,117,108,108] else []:Bs).length≤9:=by split <;> decide
 have b3:(if c.fKey then [32,112,114,105,109,97,114,121,32,107,101,121] else []:Bs).length≤12:=by split <;> decide
 have b4:(if c.fUnique then [32,117,110,105,113,117,101] else []:Bs).length≤7:=by split <;> decide
 have b5:(if c.fDefault.kind=0 then [] else [32,100,101,102,97,117,108,116,32]++exB true c.fDefault 1).length≤40 * mE c.fDefault+1:=by
  split <;> simp only [zU] <;> omega
 simp only [zU];omega
theorem AJu {c:TCol}(h:AJX c):(LM true c).length+2≤80 * EX c:=by
 have:=AMw h;have:1≤EX c:=by unfold EX;omega
 omega
theorem UB {α:Type}{f:α→Bs}{μ:α→Nat}:∀(l:List α),(∀x∈l,(f x).length+2≤80 * μ x)→(AU (l.map f)).length≤80 * (l.map μ).sum:=by
 intro l h;refine Nat.le_trans (Ia _) ?_;induction l with
 |nil=>simp
 |cons x l ih=>
  have h1:=h x (List.mem_cons_self ..);have h2:=ih λy hy=>h y (List.mem_cons_of_mem _ hy);simp only [List.map_cons,List.sum_cons] at h2 ⊢;omega
theorem AIO {l:List Ex}(h:∀x∈l,iE x):(rowB true l).length+2≤80 * (mL l+1):=by
 have:=YW h;unfold rowB;simp only [zU];omega
theorem AJd {s:TStmt}(h:AJV s):(BB true s).length≤80 * JD s+200:=by
 obtain ⟨h1,h2,h3,h4,h5,h6⟩:=h;have a1:=AFA h1;have a2:=EH s.fTable;have a3:=Oq s.fColumns;have a4:=UB (f:=rowB true) (μ:=λl=>mL l+1) s.fRows λx hx=>AIO (h2 x hx);have a5:=JW (f:=λx:TSet=>nameB x.fColumn++[32,61,32]++exB true x.fExpr 1) (μ:=PV) s.fSets λx hx=>by
  have b1:=EH x.fColumn;have b2:=Js (h3 x hx) 1;unfold PV;simp only [zU];omega
 have a6:=NH (s:=[32,119,104,101,114,101,32]) h4 (by decide);have a7:=UB (f:=LM true) (μ:=EX) s.fCols λx hx=>AJu (h5 x hx);have a8:=Oq s.fKey;have a9:=EH s.fIndex.fName;have a10:=EH s.fIndex.fTable;have a11:=Oq s.fIndex.fColumns;unfold BB JD VF;by_cases k1:s.fKind=1
 ·rw [if_pos k1];omega
 rw [if_neg k1];by_cases k2:s.fKind=2
 ·rw [if_pos k2];have b:(if s.fColumns.isEmpty then [] else [32]++DC s.fColumns).length≤40 * (s.fColumns.map mB).sum+3:=by
   split <;> simp only [zU] <;> omega
  simp only [zU];omega
 rw [if_neg k2];by_cases k3:s.fKind=3
 ·rw [if_pos k3];simp only [zU];omega
 rw [if_neg k3];by_cases k4:s.fKind=4
 ·rw [if_pos k4];simp only [zU];omega
 rw [if_neg k4];by_cases k5:s.fKind=5
 ·rw [if_pos k5];have b:(if s.fKey.isEmpty then [] else [44,32,112,114,105,109,97,114,121,32,107,101,121,32]++DC s.fKey).length≤40 * (s.fKey.map mB).sum+20:=by
   split <;> simp only [zU] <;> omega
  unfold KP;simp only [zU];omega
 rw [if_neg k5];by_cases k6:s.fKind=6
 ·rw [if_pos k6];have b:(if s.fIndex.fUnique then [117,110,105,113,117,101,32] else []:Bs).length≤7:=by split <;> decide
  simp only [zU];omega
 rw [if_neg k6];by_cases k7:s.fKind=7
 ·rw [if_pos k7];simp only [zU];omega
 rw [if_neg k7];by_cases k8:s.fKind=8
 ·rw [if_pos k8];simp only [zU];omega
 rw [if_neg k8];by_cases k9:s.fKind=9
 ·rw [if_pos k9];simp only [List.length_cons,List.length_nil];omega
 rw [if_neg k9];by_cases k10:s.fKind=10
 ·rw [if_pos k10];simp only [List.length_cons,List.length_nil];omega
 rw [if_neg k10];by_cases k11:s.fKind=11
 ·rw [if_pos k11];simp only [List.length_cons,List.length_nil];omega
 ·rw [if_neg k11];simp only [List.length_cons,List.length_nil];omega
def tw (t:Tok):Nat:=t.text.length+8
def W (l:List Tok):Nat:=(l.map tw).sum
theorem XK (t:Tok)(l:List Tok):W (t::l)=t.text.length+8+W l:=by simp [W,tw]
theorem OV {l:List Tok}(h:l≠[]):(hd l).text.length+8+W l.tail=W l:=by
 cases l with
 |nil=>exact absurd rfl h
 |cons t l=>exact (XK t l).symm
theorem QE (l:List Tok):W l.tail≤W l:=by
 cases l with
 |nil=>exact Nat.le_refl _
 |cons t l=>rw [XK];simp only [List.tail_cons];omega
theorem Ky {l:List Tok}{s:Bs}(h:isT l s=true):l≠[]:=by
 rintro rfl;simp [isT,hd,default,instInhabitedTok] at h
theorem Wn {l:List Tok}{k:Int}(h:isK l k=true)(hk:k≠0:=by decide):l≠[]:=by
 rintro rfl;simp only [isK,hd,List.headD_nil,beq_iff_eq] at h;exact hk h.symm
def CA {α:Type}(k:Nat)(ν:α→Nat)(g:Pr α):Prop:=∀l x r,g l= .ok x r→ν x+W r≤W l+k
theorem CA.le {α:Type}{k j:Nat}{ν:α→Nat}{g:Pr α}(h:CA k ν g)(hk:k≤j):CA j ν g:=λl x r hh=>by have:=h l x r hh;omega
theorem CA.imp {α:Type}{k:Nat}{ν μ:α→Nat}{g:Pr α}(h:CA k ν g)(hm:∀x,μ x≤ν x):CA k μ g:=λl x r hh=>by have:=h l x r hh;have:=hm x;omega
theorem CA.bind {α β:Type}{k:Nat}{μ:α→Nat}{ν:β→Nat}{g:Pr α}{f:α→Pr β}(hg:CA k μ g)(hf:∀a,CA (μ a) ν (f a)):CA k ν (λl=>(g l).bind f):=by
 intro l x r h;obtain ⟨a,q,h1,h2⟩:=bind_ok h;have:=hg _ _ _ h1;have:=hf a _ _ _ h2;omega
theorem zAK:type_of% @CA.bind:=@CA.bind
theorem CA.ok {α:Type}{k:Nat}{ν:α→Nat}{x:α}(h:ν x≤k):CA k ν (λl=>.ok x l):=by
 intro l y r h';simp only [Res.ok.injEq] at h';obtain ⟨rfl,rfl⟩:=h';omega
theorem CA.if {α:Type}{k:Nat}{ν:α→Nat}{s:Bs}{f g:Pr α}(h1:CA (k+8) ν f)(h2:CA k ν g):CA k ν (λl=>if isT l s=true then f l.tail else g l):=by
 intro l x r h;simp only at h
 split at h
 ·have:=h1 _ _ _ h;have:=OV (Ky ‹_›);omega
 ·exact h2 _ _ _ h
theorem CA.tl {α:Type}{k:Nat}{ν:α→Nat}{s:Bs}{f:Pr α}(h1:CA (k+8) ν f){l r:List Tok}{x:α}(hs:isT l s=true)(h:f l.tail= .ok x r):ν x+W r≤W l+k:=by
 have:=h1 _ _ _ h;have:=OV (Ky hs);omega
theorem CA.opt {α:Type}{k:Nat}{ν:α→Nat}{g:Pr α}(h:CA k ν g){b:List Tok→Bool}:CA k ν (λl=>g (if b l then l.tail else l)):=by
 intro l x r hh;have:=h _ _ _ hh;have:=QE l;have hle:W (if b l then l.tail else l)≤W l:=by
  split
  ·exact QE l
  ·exact Nat.le_refl _
 omega
theorem BU {k:Nat}{s:Bs}:CA k (λ_=>k+8) (AL s):=by
 intro l x r h;unfold AL at h;split at h
 ·simp only [Res.ok.injEq] at h;obtain ⟨_,rfl⟩:=h;have:=OV (Ky ‹_›);simp only;omega
 ·cases h
theorem ca_name {k:Nat}:CA k (λs:Bs=>s.length+8+k) Ae:=by
 intro l x r h;unfold Ae at h;split at h
 ·simp only [Res.ok.injEq] at h;obtain ⟨rfl,rfl⟩:=h;have:=OV (Wn (k:=1) ‹_›);simp only;omega
 ·cases h
theorem AEA {α:Type}{μ:α→Nat}{one:Pr α}(h1:∀k,CA k (λx=>μ x+k) one):∀(n:Nat) (acc:List α) (k:Nat),CA (k+(acc.map μ).sum) (λl=>k+(l.map μ).sum) (Bq one n acc)
 |0,acc,k=>CA.ok (Nat.le_refl _)
 |n+1,acc,k=>CA.if (s:=[44]) (f:=λl=>(one l).bind λx r=>Bq one n (acc++[x]) r) (zAK (h1 _) λx=>(AEA h1 n (acc++[x]) k).le (by simp only [List.map_append,List.sum_append,List.map_cons,List.map_nil,List.sum_cons,List.sum_nil];omega)) (CA.ok (Nat.le_refl _))
theorem Lu {α:Type}{μ:α→Nat}{one:Pr α}(h1:∀k,CA k (λx=>μ x+k) one)(n k:Nat):CA k (λl=>k+(l.map μ).sum) (BG n one):=zAK (h1 k) λx=>(AEA h1 n [x] k).le (by simp only [List.map_cons,List.map_nil,List.sum_cons,List.sum_nil];omega)
theorem Qy {α:Type}{μ:α→Nat}{one:Pr α}(h1:∀k,CA k (λx=>μ x+k) one)(n k:Nat):CA k (λl=>k+8+(l.map μ).sum) (BC n one):=
 zAK BU λ_=>zAK (Lu h1 n _) λa=>zAK BU λ_=>CA.ok (by first|omega|(simp only;omega))
def Ce (g:Pr Ex):Prop:=∀k,CA k (λx=>mE x+4+k) g
theorem Ce.lo {g:Pr Ex}(h:Ce g)(k:Nat):CA k (λx=>mE x+k) g:=(h k).imp λx=>by first|omega|(simp only;omega)
theorem AJF:∀l:List Ex,mL l=(l.map mE).sum
 |[]=>rfl
 |x::l=>by simp only [mL,List.map_cons,List.sum_cons,AJF l]
theorem QC (k:Int)(l:List Ex):mE (exK k l)=(l.map mE).sum+1:=by rw [Ot,←AJF];simp [exK,Ex.value,Ex.table,Ex.name,Ex.args,v0]
theorem AOx {op:List Tok→Int}(h0:op []=0){l:List Tok}(h:op l≠0):l≠[]:=by rintro rfl;exact h h0
theorem AEB {one:Pr Ex}{op:List Tok→Int}(h0:op []=0)(h1:Ce one):∀n x k,CA (mE x+4+k) (λx=>mE x+4+k) (Dv one op n x)
 |0,x,k=>CA.ok (Nat.le_refl _)
 |n+1,x,k=>by
  intro l y r h;simp only [Dv] at h;split at h
  ·simp only [Res.ok.injEq] at h;obtain ⟨rfl,rfl⟩:=h;first|omega|(simp only;omega)
  ·rename_i hn
   obtain ⟨z,q,h2,h3⟩:=bind_ok h;have c1:=h1 0 _ _ _ h2;have c2:=AEB h0 h1 n _ k _ _ _ h3;rw [QC] at c2;simp only [List.map_cons,List.map_nil,List.sum_cons,List.sum_nil] at c2;have:=OV (AOx h0 hn);simp only at c1 c2 ⊢
   omega
theorem OL {one:Pr Ex}{op:List Tok→Int}(h0:op []=0)(h1:Ce one)(n:Nat):Ce (CB n one op):=λk=>zAK (h1 k) λx=>AEB h0 h1 n x k
theorem ABY:Ce JQ:=by
 intro k l x r h;unfold JQ at h;split at h
 ·simp only [Res.ok.injEq] at h;obtain ⟨rfl,rfl⟩:=h;have:=OV (Wn (k:=3) ‹_›);have:mE (Et ⟨1,false,(hd l).num,[]⟩)=1:=rfl;simp only;omega
 ·cases h
theorem APA {l:List Tok}{v:TValue}(h:Ha l=some v):mE (Et v)+4+W l.tail≤W l:=by
 have e:mE (Et v)=v.fText.length+1:=by rw [Ot];simp [Et,Ex.value,Ex.table,Ex.name,Ex.args,mL]
 rw [e];unfold Ha at h;split at h
 ·simp only [Option.some.injEq] at h;subst h;have:=OV (Wn (k:=4) ‹_›);simp only;omega
 iterate 3
  split at h
  ·simp only [Option.some.injEq] at h;subst h;have:=OV (Ky ‹_›);simp only [List.length_nil];omega
 cases h
theorem AKG:Ce EK:=by
 intro k l x r h;unfold EK at h;split at h
 ·rename_i v hv
  simp only [Res.ok.injEq] at h;obtain ⟨rfl,rfl⟩:=h;have:=APA hv;simp only;omega
 split at h
 ·exact CA.tl (k:=k) (ν:=λx=>mE x+4+k) (f:=λl=>(JQ l).bind λx r=>.ok (exK 4 [x]) r) (zAK (ABY _) λa=>CA.ok (by rw [QC];simp only [List.map_cons,List.map_nil,List.sum_cons,List.sum_nil];omega)) ‹_› h
 ·exact ABY k _ _ _ h
theorem ADy {E:Pr Ex}(hE:Ce E)(n:Nat)(acc:List Ex)(k:Nat):CA ((acc.map mE).sum+k) (λl=>(l.map mE).sum+k) (EZ n E acc):=
 zAK BU λ_=>zAK (hE _) λa=>zAK BU λ_=>zAK (hE _) λb=>CA.ok (by simp only [List.map_append,List.sum_append,List.map_cons,List.map_nil,List.sum_cons,List.sum_nil];omega)
theorem ZC {E:Pr Ex}(hE:Ce E)(n:Nat):∀m acc k,CA ((acc.map mE).sum+k) (λl=>(l.map mE).sum+k) (DJ n E m acc)
 |0,acc,k=>CA.ok (Nat.le_refl _)
 |m+1,acc,k=>by
  intro l x r h;simp only [DJ] at h;split at h
  ·exact zAK (ADy hE n acc k) (λa=>ZC hE n m a k) l x r h
  ·simp only [Res.ok.injEq] at h;obtain ⟨rfl,rfl⟩:=h;first|omega|(simp only;omega)
theorem ANF {E:Pr Ex}(hE:Ce E)(n:Nat)(k:Nat):CA k (λx=>mE x+4+k) (Hg n E):=
 zAK ((ADy hE n [] k).le (by simp)) λa=>zAK (ZC hE n n a k) λb=>
  zAK (μ:=λl:List Ex=>(l.map mE).sum+k) (g:=λr=>if isT r [101,108,115,101]=true then (E r.tail).bind λx r=>.ok (b++[x]) r else Res.ok b r)
   (CA.if (f:=λl=>(E l).bind λx r=>.ok (b++[x]) r) (zAK (hE _) λx=>CA.ok (by simp only [List.map_append,List.sum_append,List.map_cons,List.map_nil,List.sum_cons,List.sum_nil];omega)) (CA.ok (Nat.le_refl _)))
   λc=>zAK BU λ_=>CA.ok (by rw [QC];omega)
theorem AJG (n:Bs)(d:Bool)(l:List Ex):mE (Dw n d l)=n.length+(l.map mE).sum+1:=by rw [Ot,←AJF];simp [Dw,Ex.value,Ex.table,Ex.name,Ex.args,v0]
theorem AKH {E:Pr Ex}(hE:Ce E)(n:Nat)(s:Bs)(k:Nat):CA (s.length+k) (λx=>mE x+4+k) (Cf n E s):=by
 intro l x r h;unfold Cf at h;split at h
 ·exact zAK (Qy hE.lo n (s.length+k)) (λa=>CA.ok (x:=exK 27 a) (ν:=λx=>mE x+4+k) (by rw [QC];omega)) l x r h
 obtain ⟨_,q,g1,h⟩:=bind_ok h;have hq:=BU (k:=0) _ _ _ g1;simp only at hq
 split at h
 ·have:=zAK (hE (s.length+k+8)) (λa=>zAK BU λ_=>CA.ok (x:=exK 8 [a]) (ν:=λx=>mE x+4+k) (by rw [QC];simp only [List.map_cons,List.map_nil,List.sum_cons,List.sum_nil];omega)) q x r h;simp only at this ⊢;omega
 split at h
 ·rename_i hc
  simp only [Bool.and_eq_true] at hc;have:=CA.tl (k:=s.length+k) (f:=λl=>(AL [41] l).bind λ_ r=>Res.ok (Dw s false [exK 3 []]) r) (ν:=λx=>mE x+4+k) (zAK BU λ_=>CA.ok (by rw [AJG];show s.length+(1+0)+1+4+k≤_;omega)) hc.2 h;simp only at this ⊢;omega
 ·have:=CA.opt (b:=λr=>isT r [100,105,115,116,105,110,99,116]) (g:=λq'=>(E q').bind λy r'=>(AL [41] r').bind λ_ r'=>.ok (Dw s (isT q [100,105,115,116,105,110,99,116]) [y]) r') (ν:=λx=>mE x+4+k) (k:=s.length+k) (zAK (hE _) λa=>zAK BU λ_=>CA.ok (by rw [AJG];simp only [List.map_cons,List.map_nil,List.sum_cons,List.sum_nil];omega)) q x r h;simp only at this ⊢;omega
theorem AKD {E U:Pr Ex}(hE:Ce E)(hU:Ce U)(n:Nat):Ce (DK n E U):=by
 intro k l x r h;unfold DK at h;split at h
 ·exact CA.tl (k:=k) (ν:=λx=>mE x+4+k) (f:=λl=>(U l).bind λx r=>.ok (exK 4 [x]) r) (zAK (hU _) λa=>CA.ok (by rw [QC];simp only [List.map_cons,List.map_nil,List.sum_cons,List.sum_nil];omega)) ‹_› h
 split at h
 ·exact CA.tl (k:=k) (ν:=λx=>mE x+4+k) (f:=λl=>(E l).bind λx r=>(AL [41] r).bind λ_ r=>.ok x r) (zAK (hE _) λa=>zAK BU λ_=>CA.ok (by first|omega|(simp only;omega))) ‹_› h
 split at h
 ·exact CA.tl (k:=k) (ν:=λx=>mE x+4+k) ((ANF hE n k).le (by omega)) ‹_› h
 split at h
 ·exact ABY k _ _ _ h
 split at h
 ·rename_i v hv
  simp only [Res.ok.injEq] at h;obtain ⟨rfl,rfl⟩:=h;have:=APA hv;simp only;omega
 have hc:∀t n:Bs,mE (Ec t n)=t.length+n.length+1:=λt n=>by rw [Ot];simp [Ec,Ex.value,Ex.table,Ex.name,Ex.args,mL,v0]
 obtain ⟨s,q,g1,h⟩:=bind_ok h;have hq:=ca_name (k:=k) _ _ _ g1;simp only at hq
 split at h
 ·have:=AKH hE n s k _ _ _ h;simp only at this ⊢;omega
 split at h
 ·have:=CA.tl (k:=s.length+k) (f:=λl=>(Ae l).bind λc r=>.ok (Ec s c) r) (ν:=λx=>mE x+4+k) (zAK ca_name λa=>CA.ok (by rw [hc];omega)) ‹_› h;simp only at this ⊢;omega
 ·simp only [Res.ok.injEq] at h;obtain ⟨rfl,rfl⟩:=h;simp only [hc,List.length_nil];omega
theorem ANB {E S:Pr Ex}(hE:Ce E)(hS:Ce S)(n:Nat):Ce (EG n E S):=by
 intro k l z r h;unfold EG at h;obtain ⟨x,q,g1,h⟩:=bind_ok h;have hq:=hS k _ _ _ g1;simp only at hq
 have one:∀(k0:Int) (y:Ex),mE (exK k0 [y])=mE y+1:=λk0 y=>by rw [QC];simp
 have neg:∀(b:Bool) (y:Ex),mE (JR b y)≤mE y+1:=λb y=>by
  cases b
  ·exact Nat.le_succ _
  ·exact Nat.le_of_eq (one 5 y)
 split at h
 ·rename_i hn
  obtain ⟨y,q2,g2,h⟩:=bind_ok h;have:=hS 0 _ _ _ g2;simp only [Res.ok.injEq] at h;obtain ⟨rfl,rfl⟩:=h;have:=OV (AOx (op:=Dk) rfl hn);simp only [QC,List.map_cons,List.map_nil,List.sum_cons,List.sum_nil] at *;omega
 split at h
 ·have:=OV (Ky ‹_›);have:=QE q.tail;split at h
  ·have:=zAK (BU (k:=mE x+4+k)) (λ_=>CA.ok (x:=exK 7 [x]) (ν:=λx=>mE x+4+k) (by rw [one];omega)) _ z r h;simp only at this ⊢;omega
  ·have:=zAK (BU (k:=mE x+4+k)) (λ_=>CA.ok (x:=exK 6 [x]) (ν:=λx=>mE x+4+k) (by rw [one];omega)) _ z r h;simp only at this ⊢;omega
 simp only at h
 generalize isT q [110,111,116]=b at h;have hq2:W (if b then q.tail else q)≤W q:=by
  cases b
  ·exact Nat.le_refl _
  ·exact QE q
 generalize (if b then q.tail else q)=q2 at h hq2;split at h
 ·have:=CA.tl (k:=mE x+4+k) (f:=λl=>(BC n E l).bind λa r=>Res.ok (JR b (exK 24 (x::a))) r) (ν:=λx=>mE x+4+k) (zAK (Qy hE.lo n _) λa=>CA.ok (by have:=neg b (exK 24 (x::a));rw [QC] at this;simp only [List.map_cons,List.sum_cons] at this;omega)) ‹_› h;simp only at this ⊢;omega
 split at h
 ·have:=CA.tl (k:=mE x+4+k) (f:=λl=>(S l).bind λy r=>(AL [97,110,100] r).bind λ_ r=>(S r).bind λz r=>Res.ok (JR b (exK 25 [x,y,z])) r) (ν:=λx=>mE x+4+k) (zAK (hS _) λy=>zAK BU λ_=>zAK (hS _) λw=>CA.ok (by have:=neg b (exK 25 [x,y,w]);rw [QC] at this;simp only [List.map_cons,List.map_nil,List.sum_cons,List.sum_nil] at this;omega)) ‹_› h;simp only at this ⊢;omega
 split at h
 ·have:=CA.tl (k:=mE x+4+k) (f:=λl=>(S l).bind λy r=>Res.ok (JR b (exK 23 [x,y])) r) (ν:=λx=>mE x+4+k) (zAK (hS _) λy=>CA.ok (by have:=neg b (exK 23 [x,y]);rw [QC] at this;simp only [List.map_cons,List.map_nil,List.sum_cons,List.sum_nil] at this;omega)) ‹_› h;simp only at this ⊢;omega
 split at h
 ·cases h
 ·simp only [Res.ok.injEq] at h;obtain ⟨rfl,rfl⟩:=h;simp only;omega
theorem ATH {M Q:Pr Ex}(hM:Ce M)(hQ:Ce Q):Ce (KI M Q):=λk=>CA.if (f:=λl=>(M l).bind λx r=>.ok (exK 5 [x]) r) (zAK (hM _) λa=>CA.ok (by rw [QC];simp only [List.map_cons,List.map_nil,List.sum_cons,List.sum_nil];omega)) (hQ k)
theorem ZF:∀n,Ce (eP n)∧Ce (nP n)∧Ce (uP n)
 |0=>⟨λk l x r h=>by simp [eP,DI] at h,λk l x r h=>by simp [nP,DI] at h,λk l x r h=>by simp [uP,DI] at h⟩
 |n+1=>by
  obtain ⟨hE,hN,hU⟩:=ZF n;have u:=AKD hE hU n;have s:=OL (op:=VC) rfl (OL (op:=Oo) rfl u n) n;have nn:=ATH hN (ANB hE s n);exact ⟨OL (op:=Ii) rfl (OL (op:=Ez) rfl nn n) n,nn,u⟩
theorem ABZ (n k:Nat):CA k (λx=>mE x+4+k) (eP n):=(ZF n).1 k
theorem ADj:mE ex0=1:=rfl
theorem OM (n:Nat)(s:Bs)(k:Nat):CA (k+1) (λx=>mE x+k) (Dq n s):=CA.if ((ABZ n _).imp λx=>by first|omega|(simp only;omega)) (CA.ok (by simp only [ADj];omega))
theorem ANC (n k:Nat):CA k (λx=>JE x+k) (Eb n):=by
 intro l x r h;unfold Eb at h;split at h
 ·simp only [Res.ok.injEq] at h;obtain ⟨rfl,rfl⟩:=h;have:=OV (Ky ‹_›);simp only [JE,ADj,List.length_nil];omega
 split at h
 ·rename_i hc
  simp only [Bool.and_eq_true] at hc;simp only [Res.ok.injEq] at h;obtain ⟨rfl,rfl⟩:=h;have:=OV (Wn hc.1.1.1.1);have:=QE l.tail;have:=QE l.tail.tail;simp only [JE,ADj,List.length_nil];omega
 ·obtain ⟨y,q,h1,h2⟩:=bind_ok h;have c:=ABZ n k _ _ _ h1;simp only at c
  split at h2
  ·have:=CA.tl (k:=mE y+4+k) (f:=λl=>(Ae l).bind λa r=>.ok ⟨false,[],y,a⟩ r) (ν:=λx=>JE x+k) (zAK ca_name λa=>CA.ok (by simp only [JE,List.length_nil];omega)) ‹_› h2;simp only at this ⊢;omega
  ·simp only [Res.ok.injEq] at h2;obtain ⟨rfl,rfl⟩:=h2;simp only [JE,List.length_nil];omega
theorem AKF (n k:Nat):CA k (λx=>Fz x+k) (Ej n):=by
 intro l x r h;obtain ⟨y,q,h1,h2⟩:=bind_ok h;have c:=ABZ n k _ _ _ h1;simp only at c
 have:=QE q;split at h2
 ·simp only [Res.ok.injEq] at h2;obtain ⟨rfl,rfl⟩:=h2;simp only [Fz];omega
 split at h2
 ·simp only [Res.ok.injEq] at h2;obtain ⟨rfl,rfl⟩:=h2;simp only [Fz];omega
 ·simp only [Res.ok.injEq] at h2;obtain ⟨rfl,rfl⟩:=h2;simp only [Fz];omega
theorem ATG (n k:Nat):CA k (λx=>PV x+k) (Nj n):=zAK ca_name λs=>zAK BU λ_=>zAK (ABZ n _) λe=>CA.ok (by simp only [PV];omega)
theorem Va (k:Nat):CA k (λx=>x.fTable.length+x.fAs.length+8+k) Bh:=by
 intro l x r h;obtain ⟨s,q,h1,h2⟩:=bind_ok h;have c:=ca_name (k:=k) _ _ _ h1;simp only at c
 split at h2
 ·have:=CA.tl (k:=s.length+8+k) (f:=λl=>(Ae l).bind λa r=>.ok (⟨s,a,false,ex0⟩:TSource) r) (ν:=λx:TSource=>x.fTable.length+x.fAs.length+8+k) (zAK ca_name λa=>CA.ok (by simp only;omega)) ‹_› h2;simp only at this ⊢;omega
 split at h2
 ·have:=zAK (ca_name (k:=s.length+8+k)) (λa=>CA.ok (x:=(⟨s,a,false,ex0⟩:TSource)) (ν:=λx:TSource=>x.fTable.length+x.fAs.length+8+k) (by simp only;omega)) _ _ _ h2;simp only at this ⊢;omega
 ·simp only [Res.ok.injEq] at h2;obtain ⟨rfl,rfl⟩:=h2;simp only [List.length_nil];omega
theorem ABX (k:Nat):CA k (λx=>DY x+k) Bh:=by
 intro l x r h;have c:=Va k _ _ _ h;have e:mE x.fOn=1:=by
  obtain ⟨s,q,h1,h2⟩:=bind_ok h;split at h2
  ·obtain ⟨a,q2,h3,h4⟩:=bind_ok h2;simp only [Res.ok.injEq] at h4;obtain ⟨rfl,rfl⟩:=h4;rfl
  split at h2
  ·obtain ⟨a,q2,h3,h4⟩:=bind_ok h2;simp only [Res.ok.injEq] at h4;obtain ⟨rfl,rfl⟩:=h4;rfl
  ·simp only [Res.ok.injEq] at h2;obtain ⟨rfl,rfl⟩:=h2;rfl
 simp only [DY,e] at c ⊢;omega
theorem XH (n:Nat)(b:Bool)(k:Nat):CA k (λx=>DY x+k) (FM n b):=zAK BU λ_=>zAK (Va _) λs=>zAK BU λ_=>zAK (ABZ n _) λe=>CA.ok (by simp only [DY];omega)
theorem ZE (n:Nat):∀(m:Nat) (acc:List TSource) (k:Nat),CA ((acc.map DY).sum+k) (λl=>(l.map DY).sum+k) (Ba n m acc)
 |0,acc,k=>CA.ok (Nat.le_refl _)
 |m+1,acc,k=>by
  have one:∀{g:Pr TSource} {j:Nat} (_:∀k,CA k (λx=>DY x+k) g),CA ((acc.map DY).sum+k+j) (λl=>(l.map DY).sum+k) (λl=>(g l).bind λs r=>Ba n m (acc++[s]) r):=λhg=>zAK (hg _) λs=>(ZE n m (acc++[s]) k).le (by simp only [List.map_append,List.sum_append,List.map_cons,List.map_nil,List.sum_cons,List.sum_nil];omega);intro l x r h;simp only [Ba] at h;split at h
  ·exact CA.tl (one ABX) ‹_› h
  split at h
  ·exact CA.tl (f:=λl=>(AL [106,111,105,110] l).bind λ_ r=>(Bh r).bind λs r=>Ba n m (acc++[s]) r) (zAK BU λ_=>(one (j:=16) ABX).le (by omega)) ‹_› h
  split at h
  ·exact CA.tl (one (XH n true)) ‹_› h
  split at h
  ·exact CA.tl (one (XH n false)) ‹_› h
  split at h
  ·exact one (j:=0) (XH n false) _ _ _ h
  ·simp only [Res.ok.injEq] at h;obtain ⟨rfl,rfl⟩:=h;simp only;omega
theorem ANE (n k:Nat):CA k (λl=>(l.map DY).sum+k) (Iw n):=zAK (ABX k) λs=>(ZE n n [s] k).le (by simp only [List.map_cons,List.map_nil,List.sum_cons,List.sum_nil];omega)
theorem ZG (k:Nat):CA k (λ_:Int=>k) Dc:=by
 intro l x r h;unfold Dc at h;split at h
 ·simp only [Res.ok.injEq] at h;obtain ⟨_,rfl⟩:=h;have:=QE l;simp only;omega
 ·cases h
theorem UG {α:Type}{μ:α→Nat}{p:Pr α}{k:Nat}{s:Bs}{d:α}(h:CA (k+8) μ p)(hd:μ d≤k):CA k μ (JO s d p):=CA.if h (CA.ok hd)
theorem APJ {α:Type}{μ:α→Nat}{p:Pr α}{k:Nat}(h:∀k,CA k (λx=>μ x+k) p):CA k (λx=>μ x+k) (byP p):=zAK BU λ_=>(h _).imp λx=>by first|omega|(simp only;omega)
theorem AKE (n k:Nat):CA (k+8) (λq=>IR q+5+k) (EY n):=by
 intro l x r h;obtain ⟨a1,q1,h1,h⟩:=bind_ok h;obtain ⟨a2,q2,h2,h⟩:=bind_ok h;obtain ⟨a3,q3,h3,h⟩:=bind_ok h;obtain ⟨a4,q4,h4,h⟩:=bind_ok h;obtain ⟨a5,q5,h5,h⟩:=bind_ok h;obtain ⟨a6,q6,h6,h⟩:=bind_ok h;obtain ⟨a7,q7,h7,h⟩:=bind_ok h;obtain ⟨a8,q8,h8,h⟩:=bind_ok h;simp only [Res.ok.injEq] at h;obtain ⟨rfl,rfl⟩:=h;have c0:W (if isT l [100,105,115,116,105,110,99,116] then l.tail else l)≤W l:=by
  split
  ·exact QE l
  ·exact Nat.le_refl _
 have c1:=Lu (ANC n) n 0 _ _ _ h1;have c2:=UG (k:=0) (μ:=λl:List TSource=>(l.map DY).sum) ((ANE n 8).imp λl=>by first|omega|(simp only;omega)) (Nat.le_refl _) _ _ _ h2;have c3:=OM n _ 0 _ _ _ h3;have c4:=UG (k:=0) (μ:=λl:List Ex=>(l.map mE).sum) ((APJ (μ:=λl:List Ex=>(l.map mE).sum) λk=>(Lu (λk=>Ce.lo (ABZ n) k) n k).imp λl=>by first|omega|(simp only;omega)).imp λl=>by first|omega|(simp only;omega)) (Nat.le_refl _) _ _ _ h4;have c5:=OM n _ 0 _ _ _ h5;have c6:=UG (k:=0) (μ:=λl:List TOrder=>(l.map Fz).sum) ((APJ (μ:=λl:List TOrder=>(l.map Fz).sum) λk=>(Lu (AKF n) n k).imp λl=>by first|omega|(simp only;omega)).imp λl=>by first|omega|(simp only;omega)) (Nat.le_refl _) _ _ _ h6;have c7:=UG (k:=0) (μ:=λ_:Int=>0) ((ZG 8).imp λ_=>by first|omega|(simp only;omega)) (Nat.le_refl _) _ _ _ h7;have c8:=UG (k:=0) (μ:=λ_:Int=>0) ((ZG 8).imp λ_=>by first|omega|(simp only;omega)) (Nat.le_refl _) _ _ _ h8;simp only [IR,←We] at *;omega
theorem OJ:∀(m:Nat) (c:TCol) (k:Nat),CA (EX c+k) (λx=>EX x+k) (Cj m c)
 |0,c,k=>CA.ok (Nat.le_refl _)
 |m+1,c,k=>by
  intro l x r h;simp only [Cj,Bool.and_eq_true] at h;split at h
  ·exact CA.tl (zAK BU λ_=>(OJ m {c with fNotNull:=true} k).le (by simp only [EX];omega)) (And.right ‹_›) h
  split at h
  ·exact CA.tl (zAK BU λ_=>(OJ m {c with fKey:=true} k).le (by simp only [EX];omega)) (And.right ‹_›) h
  split at h
  ·exact CA.tl ((OJ m {c with fUnique:=true} k).le (by simp only [EX];omega)) (And.right ‹_›) h
  split at h
  ·exact CA.tl (zAK (AKG _) λy=>(OJ m {c with fDefault:=y} k).le (by simp only [EX];omega)) (And.right ‹_›) h
  ·simp only [Res.ok.injEq] at h;obtain ⟨rfl,rfl⟩:=h;simp only;omega
theorem AFv (n k:Nat):CA k (λx=>EX x+k) (Dx n):=by
 intro l x r h;obtain ⟨s,q,h1,h2⟩:=bind_ok h;have c:=ca_name (k:=k) _ _ _ h1;simp only at c h2
 generalize (if isK q 1 then typeOf (hd q).text else 0)=t at h2;split at h2
 ·cases h2
 ·have:=OJ n ⟨s,t,false,false,false,ex0⟩ k _ _ _ h2;have:=QE q;simp only [EX,ADj] at *; omega
theorem UH (n k:Nat):CA k (λl=>(l.map mB).sum+k) (BC n Ae):=(Qy (μ:=mB) (λk=>ca_name.imp λx=>by simp only [mB];omega) n k).imp λl=>by first|omega|(simp only;omega)
theorem ADz (n:Nat):∀(m:Nat) (cs:List TCol) (ks:List Bs) (k:Nat),CA ((cs.map EX).sum+(ks.map mB).sum+k) (λx=>(x.1.map EX).sum+(x.2.map mB).sum+k) (DD n m cs ks)
 |0,cs,ks,k=>CA.ok (Nat.le_refl _)
 |m+1,cs,ks,k=>by
  intro l x r h;simp only [DD] at h;obtain ⟨a,q,h1,h2⟩:=bind_ok h;have c1:(a.1.map EX).sum+(a.2.map mB).sum+W q≤W l+((cs.map EX).sum+(ks.map mB).sum):=by
   split at h1
   ·rename_i hc
    simp only [Bool.and_eq_true] at hc;exact CA.tl (ν:=λx:List TCol×List Bs=>(x.1.map EX).sum+(x.2.map mB).sum) (f:=λl=>(AL [107,101,121] l).bind λ_ r=>(BC n Ae r).bind λk r=>.ok (cs,k) r) (zAK BU λ_=>zAK (UH n _) λk=>CA.ok (by simp only;omega)) hc.2 h1
   ·exact zAK (AFv n _) (λc=>CA.ok (x:=(cs++[c],ks)) (ν:=λx:List TCol×List Bs=>(x.1.map EX).sum+(x.2.map mB).sum) (by simp only [List.map_append,List.sum_append,List.map_cons,List.map_nil,List.sum_cons,List.sum_nil];omega)) _ _ _ h1
  split at h2
  ·have:=CA.tl (k:=(a.1.map EX).sum+(a.2.map mB).sum+k) (f:=DD n m a.1 a.2) (ν:=λx=>(x.1.map EX).sum+(x.2.map mB).sum+k) ((ADz n m a.1 a.2 k).le (by omega)) ‹_› h2;simp only at this ⊢;omega
  ·simp only [Res.ok.injEq] at h2;obtain ⟨rfl,rfl⟩:=h2;simp only;omega
theorem ANA (n:Nat):CA 0 JD (DV n):=by
 have M:∀s:TStmt,JD s=IR s.fSelect+s.fTable.length+(s.fColumns.map mB).sum+(s.fRows.map λl=>mL l+1).sum+(s.fSets.map PV).sum+mE s.fWhere+(s.fCols.map EX).sum+(s.fKey.map mB).sum+VF s.fIndex+1:=λs=>rfl;have d1:IR (default:TStmt).fSelect=3:=rfl;have d2:(default:TStmt).fTable.length=0:=rfl;have d3:((default:TStmt).fColumns.map mB).sum=0:=rfl;have d4:((default:TStmt).fRows.map λl=>mL l+1).sum=0:=rfl;have d5:((default:TStmt).fSets.map PV).sum=0:=rfl;have d6:mE (default:TStmt).fWhere=1:=rfl;have d7:((default:TStmt).fCols.map EX).sum=0:=rfl;have d8:((default:TStmt).fKey.map mB).sum=0:=rfl;have d9:VF (default:TStmt).fIndex=1:=rfl;intro l x r h;unfold DV at h;split at h
 ·exact CA.tl (f:=λl=>(EY n l).bind λq r=>.ok {(default:TStmt) with fKind:=1,fSelect:=q} r) (zAK (AKE n 0) λq=>CA.ok (by simp only [M,d2,d3,d4,d5,d6,d7,d8,d9];omega)) ‹_› h
 split at h
 ·exact CA.tl (f:=EP n) (zAK BU λ_=>zAK ca_name λs=>zAK (μ:=λc:List Bs=>(c.map mB).sum+(s.length+8+8)) (g:=λr=>if isT r [40] then BC n Ae r else Res.ok [] r) (by
   intro l x r h;simp only at h
   split at h
   ·have:=UH n (s.length+8+8) _ _ _ h;simp only at this ⊢;omega
   ·simp only [Res.ok.injEq] at h;obtain ⟨rfl,rfl⟩:=h;simp only [List.map_nil,List.sum_nil];omega) λc=>zAK BU λ_=>zAK (Lu (μ:=λl:List Ex=>mL l+1) (λk=>(Qy (λk=>Ce.lo (ABZ n) k) n k).imp λl=>by simp only [←We];omega) n _) λy=>CA.ok (by simp only [M,d1,d5,d6,d7,d8,d9];omega)) ‹_› h
 split at h
 ·exact CA.tl (f:=EN n) (zAK ca_name λs=>zAK BU λ_=>zAK (Lu (ATG n) n _) λy=>zAK ((OM n [119,104,101,114,101] (s.length+10+(y.map PV).sum)).le (by omega)) λw=>CA.ok (by simp only [M,d1,d3,d4,d7,d8,d9];omega)) ‹_› h
 split at h
 ·exact CA.tl (f:=EQ n) (zAK BU λ_=>zAK ca_name λs=>zAK ((OM n [119,104,101,114,101] (s.length+10)).le (by omega)) λw=>CA.ok (by simp only [M,d1,d3,d4,d5,d7,d8,d9];omega)) ‹_› h
 split at h
 ·have hW:=OV (Ky ‹_›);unfold Ed at h;split at h
  ·obtain ⟨s,q,h1,h⟩:=bind_ok h;obtain ⟨_,q2,h2,h⟩:=bind_ok h;obtain ⟨y,q3,h3,h⟩:=bind_ok h;have:=QE l.tail;have c1:=ca_name (k:=0) _ _ _ h1;have c2:=BU (k:=0) _ _ _ h2;have c3:=ADz n _ _ _ 0 _ _ _ h3;simp only [List.map_nil,List.sum_nil] at c1 c2 c3;split at h
   ·cases h
   ·obtain ⟨_,q4,h4,h⟩:=bind_ok h;simp only [Res.ok.injEq] at h;obtain ⟨rfl,rfl⟩:=h;have c4:=BU (k:=0) _ _ _ h4;simp only [M,d1,d3,d4,d5,d6,d9] at *; omega
  ·have:=CA.opt (k:=8) (b:=λl=>isT l [117,110,105,113,117,101]) (ν:=JD) (g:=λq=>(AL [105,110,100,101,120] q).bind λ_ r=>(Ae r).bind λa r=>(AL [111,110] r).bind λ_ r=>(Ae r).bind λt r=>(BC n Ae r).bind λc r=>
    .ok {(default:TStmt) with fKind:=6,fIndex:=⟨a,t,c,isT l.tail [117,110,105,113,117,101]⟩} r) (zAK BU λ_=>zAK ca_name λa=>zAK BU λ_=>zAK ca_name λt=>zAK (UH n _) λc=>CA.ok (by simp only [M,d1,d2,d3,d4,d5,d6,d7,d8,VF];omega)) l.tail x r h
   omega
 split at h
 ·have hW:=OV (Ky ‹_›);unfold Fg at h;split at h
  ·have:=CA.tl (k:=8) (f:=λl=>(Ae l).bind λs r=>.ok {(default:TStmt) with fKind:=7,fTable:=s} r) (ν:=JD) (zAK ca_name λs=>CA.ok (by simp only [M,d1,d3,d4,d5,d6,d7,d8,d9];omega)) ‹_› h;omega
  ·have:=zAK (BU (k:=8)) (λ_=>zAK ca_name λs=>CA.ok (x:={(default:TStmt) with fKind:=8,fIndex:=⟨s,[],[],false⟩}) (ν:=JD) (by simp only [M,d1,d2,d3,d4,d5,d6,d7,d8,VF,List.map_nil,List.sum_nil,List.length_nil];omega)) l.tail x r h;omega
 have b:∀k:Int,JD {(default:TStmt) with fKind:=k}=6:=λk=>rfl;split at h
 ·exact CA.tl (f:=λl=>.ok {(default:TStmt) with fKind:=9} l) (CA.ok (by rw [b];omega)) ‹_› h
 split at h
 ·exact CA.tl (f:=λl=>.ok {(default:TStmt) with fKind:=10} l) (CA.ok (by rw [b];omega)) ‹_› h
 ·exact zAK BU (λ_=>CA.ok (x:={(default:TStmt) with fKind:=11}) (by rw [b];omega)) _ _ _ h
theorem UF (n:Nat):∀(m:Nat) (acc:List TStmt) (l:List Tok) (x:List TStmt) (r:List Tok),Bd n m acc l= .ok x r→∀s∈x,s∈acc∨JD s≤W l
 |0,acc,l,x,r,h,s,hs=>by simp only [Bd,Res.ok.injEq] at h;obtain ⟨rfl,rfl⟩:=h;exact .inl hs
 |m+1,acc,l,x,r,h,s,hs=>by
  simp only [Bd] at h;split at h
  ·simp only [Res.ok.injEq] at h;obtain ⟨rfl,rfl⟩:=h;exact .inl hs
  split at h
  ·have:=QE l;rcases UF n m _ _ _ _ h s hs with h|h
   ·exact .inl h
   ·exact .inr (by omega)
  ·obtain ⟨y,q,h1,h2⟩:=bind_ok h;have c1:=ANA n _ _ _ h1;split at h2
   ·rcases UF n m _ _ _ _ h2 s hs with h|h
    ·rcases List.mem_append.1 h with h|h
     ·exact .inl h
     ·rw [List.mem_singleton.1 h];exact .inr (by omega)
    ·exact .inr (by omega)
   ·cases h2
theorem Og (q:UInt8):∀(n:Nat) (s x r:Bs),s.length≤n→CG q s=some (x,r)→x.length+r.length < s.length
 |_,[],x,r,_,h=>by simp [CG] at h
 |0,c::s,x,r,hl,_=>by simp at hl
 |n+1,c::s,x,r,hl,h=>by
  rw [show CG q (c::s)=if c==0 then none else if c != q then (CG q s).map λx=>(c::x.1,x.2) else match s with
   |[]=>some ([],[])
   |d::r'=>if d==q then (CG q r').map λx=>(q::x.1,x.2) else some ([],d::r') from by cases s <;> simp [CG]] at h
  split at h
  ·cases h
  split at h
  ·simp only [Option.map_eq_some_iff,Prod.mk.injEq] at h;obtain ⟨⟨a,b⟩,h1,rfl,rfl⟩:=h;have:=Og q n s a b (by simpa using hl) h1;simp only [List.length_cons];omega
  ·split at h
   ·simp only [Option.some.injEq,Prod.mk.injEq] at h;obtain ⟨rfl,rfl⟩:=h;simp
   ·rename_i d r'
    split at h
    ·simp only [Option.map_eq_some_iff,Prod.mk.injEq] at h;obtain ⟨⟨a,b⟩,h1,rfl,rfl⟩:=h;have:=Og q n r' a b (by simp only [List.length_cons] at hl;omega) h1;simp only [List.length_cons];omega
    ·simp only [Option.some.injEq,Prod.mk.injEq] at h;obtain ⟨rfl,rfl⟩:=h;simp
theorem AGI (p:UInt8→Bool)(s:Bs):(s.takeWhile p).length+(s.dropWhile p).length=s.length:=by rw [←List.length_append,List.takeWhile_append_dropWhile]
theorem AMW {n:Nat}{s r:Bs}{t:Tok}(h:Dj n s= .tok t r):t.text.length+r.length≤s.length∧r.length < s.length:=by
 cases s with
 |nil=>simp [Dj] at h
 |cons c s=>
  simp only [Dj] at h;split at h
  ·rename_i hc
   unfold Hr at h;split at h
   ·cases h
   ·simp only [LexR.tok.injEq] at h;obtain ⟨rfl,rfl⟩:=h;have:=AGI (λc=>BN c||Az c) (c::s);rw [List.takeWhile_cons_of_pos (by rw [hc];rfl)] at this ⊢;simp only [List.length_map,List.length_cons] at this ⊢;omega
  split at h
  ·rename_i hc
   have:=AGI Az (c::s);rw [List.takeWhile_cons_of_pos hc] at this h;simp only [List.length_cons] at this;split at h
   ·cases h
   ·split at h
    ·cases h
    ·simp only [LexR.tok.injEq] at h;obtain ⟨rfl,rfl⟩:=h;simp only [List.length_cons,List.length_nil];omega
  split at h
  ·split at h
   ·cases h
   ·rename_i x r' hx
    have ho:=Og c _ _ _ _ (Nat.le_refl _) hx;split at h
    ·split at h
     ·cases h
     ·simp only [LexR.tok.injEq] at h;obtain ⟨rfl,rfl⟩:=h;simp only [List.length_cons];omega
    ·simp only [LexR.tok.injEq] at h;obtain ⟨rfl,rfl⟩:=h;simp only [List.length_cons];omega
  split at h
  ·cases h
  ·rename_i x hx
   have hm:x∈signsL:=List.mem_of_find?_eq_some hx;have hp:=List.find?_some hx;have hle:x.length≤(c::s).length:=(List.isPrefixOf_iff_prefix.1 hp).length_le;have h0:0 < x.length:=by
    have:signsL.all (λx=>decide (0 < x.length))=true:=by decide
    exact of_decide_eq_true (List.all_eq_true.1 this x hm)
   simp only [LexR.tok.injEq] at h;obtain ⟨rfl,rfl⟩:=h;have hx2:(if x=[33,61] then [60,62] else x).length=x.length:=by
    split
    ·rename_i e;subst e;rfl
    ·rfl
   simp only [hx2,List.length_drop,List.length_cons] at hle ⊢;omega
theorem APU (a b:List Tok):W (a++b)=W a+W b:=by simp [W]
theorem AGL (n:Nat):∀(f:Nat) (acc:List Tok) (s:Bs) (l:List Tok),DU n f acc s= .toks l→W l≤W acc+9 * s.length+8
 |0,acc,s,l,h=>by simp only [DU,LexA.toks.injEq] at h;subst h;omega
 |f+1,acc,s,l,h=>by
  simp only [DU] at h;split at h
  ·simp only [LexA.toks.injEq] at h;subst h;rw [APU,XK];simp [W]
  ·rename_i c r hs
   split at h
   ·cases h
   ·rename_i t r' ht
    have h1:=AMW ht;have h2:=Gw false s;rw [hs] at h2;have:=AGL n f _ _ _ h;rw [APU,XK] at this;simp only [W,List.map_nil,List.sum_nil] at this h1 h2 ⊢;omega
theorem AQO (s:Bs):∀x∈(readA s).1,JD x≤9 * s.length+8:=by
 unfold readA;split
 ·intro x hx;cases hx
 ·rename_i l hl
  have hn:=AGL _ _ _ _ _ hl;split
  ·rename_i x r hx
   intro y hy;have:=(UF _ _ _ _ _ _ hx y hy).resolve_left (by simp);simp only [W,List.map_nil,List.sum_nil] at hn this;omega
  ·intro x hx;cases hx
def eqL {α:Type}(f:α→α→Bool):List α→List α→Bool
 |[],[]=>true
 |x::xs,y::ys=>f x y&&eqL f xs ys
 |_,_=>false
theorem Gu {α:Type}{f:α→α→Bool}:∀{xs ys:List α},xs.length≠ys.length→eqL f xs ys=false
 |[],[],h=>absurd rfl h
 |[],_::_,_=>rfl
 |_::_,[],_=>rfl
 |x::xs,y::ys,h=>by
  simp only [eqL,Gu (f:=f) (xs:=xs) (ys:=ys) (by simpa using h),Bool.and_false]
theorem IA {α:Type}{f:α→α→Bool}{xs ys:List α}(h1:xs=[])(h2:ys=[]):eqL f xs ys=true:=by subst h1 h2;rfl
theorem Xv:∀xs ys:List Ex,ADF xs ys=eqL Ea xs ys
 |[],[]=>rfl
 |[],_::_=>rfl
 |_::_,[]=>rfl
 |x::xs,y::ys=>by simp only [ADF,eqL,Xv xs ys]
theorem Xw (x y:Ex):Ea x y=(x.kind==y.kind&&x.value==y.value&&x.table==y.table&&x.name==y.name&&x.slot==y.slot&&x.type==y.type&&x.distinct==y.distinct&&eqL Ea x.args y.args):=by
 cases x;simp only [Ea,Xv,Ex.kind,Ex.value,Ex.table,Ex.name,Ex.slot,Ex.type,Ex.distinct,Ex.args]
theorem ATb (a b:TValue):(a==b)=((a.fType==b.fType)&&((a.fNull==b.fNull)&&((a.fInt==b.fInt)&&(a.fText==b.fText)))):=by
 cases a;cases b
 rw [Bool.eq_iff_iff];simp only [beq_iff_eq,Bool.and_eq_true,TValue.mk.injEq]
theorem ATZ (a c a' c':Int)(t t':Bool)(s s':Bs):Ig .eql [(TypeDesc.int .i64,0),(TypeDesc.bool,1),(TypeDesc.int .i64,2),(TypeDesc.string,3)] (.agg #[.int .i64 a,.bool t,.int .i64 c,.string ⟨s.toArray⟩]) (.agg #[.int .i64 a',.bool t',.int .i64 c',.string ⟨s'.toArray⟩])=some (.bool ((a==a')&&((t==t')&&((c==c')&&(s==s'))))):=by
 simp [Ig,MO,eqD,KA]
def sIt (x y:TItem):Bool:=x.fStar==y.fStar&&x.fTable==y.fTable&&x.fAs==y.fAs&&Ea x.fExpr y.fExpr
def sSo (x y:TSource):Bool:=x.fTable==y.fTable&&x.fAs==y.fAs&&x.fLeft==y.fLeft&&Ea x.fOn y.fOn
def sOr (x y:TOrder):Bool:=x.fDesc==y.fDesc&&Ea x.fExpr y.fExpr
def sSe (x y:TSet):Bool:=x.fColumn==y.fColumn&&Ea x.fExpr y.fExpr
def sCo (x y:TCol):Bool:=x.fName==y.fName&&x.fType==y.fType&&x.fNotNull==y.fNotNull&&x.fKey==y.fKey&&x.fUnique==y.fUnique&&Ea x.fDefault y.fDefault
def eqB (x y:Bs):Bool:=x==y
def sQu (p q:TSelect):Bool:=p.fDistinct==q.fDistinct&&p.fLimit==q.fLimit&&p.fOffset==q.fOffset&&Ea p.fWhere q.fWhere&&Ea p.fHaving q.fHaving&&eqL Ea p.fGroup q.fGroup
def sIx (a b:TIdx):Bool:=a.fName==b.fName&&a.fTable==b.fTable&&a.fUnique==b.fUnique&&eqL eqB a.fColumns b.fColumns
def sRe (a b:TStmt):Bool:=a.fKind==b.fKind&&a.fTable==b.fTable&&eqL eqB a.fColumns b.fColumns&&eqL eqB a.fKey b.fKey&&Ea a.fWhere b.fWhere
def MG (a b:TStmt):Bool:=sQu a.fSelect b.fSelect&&eqL sIt a.fSelect.fItems b.fSelect.fItems&&eqL sSo a.fSelect.fFrom b.fSelect.fFrom&&eqL sOr a.fSelect.fOrder b.fSelect.fOrder&&eqL (eqL Ea) a.fRows b.fRows&&eqL sSe a.fSets b.fSets&&eqL sCo a.fCols b.fCols&&sIx a.fIndex b.fIndex&&sRe a b
def FnQ {α:Type}(ω:Om)(fv:Value)(V:Imm→α→Value→Prop)(f:α→α→Bool)(xs:List α):Prop:=∀x∈xs,∀(y:α) (I:Imm) (L:LH) (u v:Value) (K:Value→M),V I x u→V I y v→K (.bool (f x y)) I L→CW ω fv #[u,v] K I L
section
variable {ω:Om}{I:Imm}{L:LH}{K:Value→M}
theorem ND {u v:Value}{xs ys:List Bs}(hx:StL I u xs)(hy:StL I v ys)(hl:xs.length≤1000000000000)(hk:K (.bool (eqL eqB xs ys)) I L):CT ω 74 #[u,v] K I L:=by
 refine AVG ?_;unfold ATm;simp only [zAM hx,zAM hy,SSd,Nat.reduceAdd];refine AB (λh=>?_) (λh=>?_)
 ·have h:xs.length≠ys.length:=by
   have:¬(xs.length:Int)=ys.length:=by simpa using h
   omega
  rw [Gu h] at hk;exact zAA hk
 have h:xs.length=ys.length:=by
  have:(xs.length:Int)=ys.length:=by simpa using h
  omega
 refine loop (λq st I' L'=>∃k:Nat,k+q=xs.length∧st=(Value.bool false,Value.int .i64 (k:Nat),())∧I'=I∧L'=L∧eqL eqB xs ys=eqL eqB (xs.drop k) (ys.drop k)) xs.length ⟨0,by omega,rfl,rfl,rfl,rfl⟩ ?_;rintro q st I' L' ⟨k,hq,rfl,rfl,rfl,he⟩;unfold AGs;try refine zqe ?_
 refine AB (λhb=>?_) (λhb=>?_)
 ·have hb:k < xs.length:=by
   have:=of_decide_eq_true hb;omega
  have hb2:k < ys.length:=by omega
  obtain ⟨bt,off,c1,g1,gl,g2,g3⟩:=zAS hx (i:=k) (by omega) (by omega);obtain ⟨bu,off2,c2,k1,kl,k2,k3⟩:=zAS hy (i:=k) (by omega) (by omega);rw [Af hb] at g2;rw [Af hb2] at k2;obtain rfl:=g2;obtain rfl:=k2;rw [List.drop_eq_getElem_cons hb,List.drop_eq_getElem_cons hb2] at he;simp only [eqL] at he;refine Em ?_;simp only [g1,k1,SSd,Nat.reduceAdd];refine AUa (g3 I' [] (zAC _) (λ_ h=>h) 0 _ rfl) (zAC _) ?_;refine AUa (k3 I' [] (zAC _) (λ_ h=>h) 0 _ rfl) (zAC _) ?_;simp only [sNe,SSd,Nat.reduceAdd];refine AB (λh0=>?_) (λh0=>?_)
  ·have h0:eqB xs[k] ys[k]=false:=by simpa [eqB] using h0
   rw [he,h0] at hk;exact zAA hk
  ·have h0:eqB xs[k] ys[k]=true:=by simpa [eqB] using h0
   simp only [wrap_i64 ((k:Int)+1) (by omega),SSd,Nat.reduceAdd];exact zAA ⟨q - 1,by omega,k+1,by omega,rfl,rfl,rfl,by rw [he,h0,Bool.true_and]⟩
 ·have hb:¬k < xs.length:=by
   have:=of_decide_eq_false hb;omega
  rw [he,IA (List.drop_eq_nil_of_le (by omega)) (List.drop_eq_nil_of_le (by omega))] at hk;exact zAA hk
theorem ABF {u v fv:Value}{f:Ex→Ex→Bool}{xs ys:List (Ex)}(hx:RL ExV 11 I [] u xs)(hy:RL ExV 11 I [] v ys)(hf:FnQ ω fv (Ik ExV) f xs)(hl:xs.length≤1000000000000)(hk:K (.bool (eqL f xs ys)) I L):CT ω 61 #[u,v,fv] K I L:=by
 refine AVT ?_;unfold ATz;simp only [zAM hx,zAM hy,SSd,Nat.reduceAdd];refine AB (λh=>?_) (λh=>?_)
 ·have h:xs.length≠ys.length:=by
   have:¬(xs.length:Int)=ys.length:=by simpa using h
   omega
  rw [Gu h] at hk;exact zAA hk
 have h:xs.length=ys.length:=by
  have:(xs.length:Int)=ys.length:=by simpa using h
  omega
 try refine zqe ?_
 refine loop (λq st I' L'=>∃k:Nat,k+q=xs.length∧st=(Value.bool false,Value.int .i64 (k:Nat),())∧I'=I∧L'=L∧eqL f xs ys=eqL f (xs.drop k) (ys.drop k)) xs.length ⟨0,by omega,rfl,rfl,rfl,rfl⟩ ?_;rintro q st I' L' ⟨k,hq,rfl,rfl,rfl,he⟩;unfold AGz;try refine zqe ?_
 refine AB (λhb=>?_) (λhb=>?_)
 ·have hb:k < xs.length:=by
   have:=of_decide_eq_true hb;omega
  have hb2:k < ys.length:=by omega
  obtain ⟨bt,off,c1,g1,gl,g2,g3⟩:=zAS hx (i:=k) (by omega) (by omega);obtain ⟨bu,off2,c2,k1,kl,k2,k3⟩:=zAS hy (i:=k) (by omega) (by omega);rw [Af hb] at g2;rw [Af hb2] at k2;rw [List.drop_eq_getElem_cons hb,List.drop_eq_getElem_cons hb2] at he;simp only [eqL] at he;simp only [g1,k1,SSd,Nat.reduceAdd];have ho1:=ExV.one g2;have ho2:=ExV.one k2;refine FK (g3 _ [] (zAC _) (λ_ h=>h)) (zAC _) gl ?_;refine Ac (λb3=>?_);refine stB gl rfl ho1 ?_;refine FK (k3 I' [] (zAC _) (λ_ h=>h)) (zAC _) kl ?_;refine Ac (λb4=>?_);refine stB kl rfl ho2 ?_;refine rdB gl ?_;refine rdB kl ?_;refine Fj (CalV.to L' (hf _ (List.getElem_mem hb) ys[k] I' L' _ _ _ ⟨c1,rfl,g2⟩ ⟨c2,rfl,k2⟩ ?_));try refine zqe ?_
  cases hfe:f xs[k] ys[k] with
  |false=>
   rw [he,hfe] at hk;exact zAA hk
  |true=>
   simp only [wrap_i64 ((k:Int)+1) (by omega),SSd,Nat.reduceAdd];exact zAA ⟨q - 1,by omega,k+1,by omega,rfl,rfl,rfl,by rw [he,hfe,Bool.true_and]⟩
 ·have hb:¬k < xs.length:=by
   have:=of_decide_eq_false hb;omega
  rw [he,IA (List.drop_eq_nil_of_le (by omega)) (List.drop_eq_nil_of_le (by omega))] at hk;exact zAA hk
theorem AJj {u v fv:Value}{f:TItem→TItem→Bool}{xs ys:List (TItem)}(hx:RL TItemV 14 I [] u xs)(hy:RL TItemV 14 I [] v ys)(hf:FnQ ω fv (Ik TItemV) f xs)(hl:xs.length≤1000000000000)(hk:K (.bool (eqL f xs ys)) I L):CT ω 62 #[u,v,fv] K I L:=by
 refine AVS ?_;unfold ATy;simp only [zAM hx,zAM hy,SSd,Nat.reduceAdd];refine AB (λh=>?_) (λh=>?_)
 ·have h:xs.length≠ys.length:=by
   have:¬(xs.length:Int)=ys.length:=by simpa using h
   omega
  rw [Gu h] at hk;exact zAA hk
 have h:xs.length=ys.length:=by
  have:(xs.length:Int)=ys.length:=by simpa using h
  omega
 try refine zqe ?_
 refine loop (λq st I' L'=>∃k:Nat,k+q=xs.length∧st=(Value.bool false,Value.int .i64 (k:Nat),())∧I'=I∧L'=L∧eqL f xs ys=eqL f (xs.drop k) (ys.drop k)) xs.length ⟨0,by omega,rfl,rfl,rfl,rfl⟩ ?_;rintro q st I' L' ⟨k,hq,rfl,rfl,rfl,he⟩;unfold AGy;try refine zqe ?_
 refine AB (λhb=>?_) (λhb=>?_)
 ·have hb:k < xs.length:=by
   have:=of_decide_eq_true hb;omega
  have hb2:k < ys.length:=by omega
  obtain ⟨bt,off,c1,g1,gl,g2,g3⟩:=zAS hx (i:=k) (by omega) (by omega);obtain ⟨bu,off2,c2,k1,kl,k2,k3⟩:=zAS hy (i:=k) (by omega) (by omega);rw [Af hb] at g2;rw [Af hb2] at k2;rw [List.drop_eq_getElem_cons hb,List.drop_eq_getElem_cons hb2] at he;simp only [eqL] at he;simp only [g1,k1,SSd,Nat.reduceAdd];have ho1:=TItemV.one g2;have ho2:=TItemV.one k2;refine FK (g3 _ [] (zAC _) (λ_ h=>h)) (zAC _) gl ?_;refine Ac (λb3=>?_);refine stB gl rfl ho1 ?_;refine FK (k3 I' [] (zAC _) (λ_ h=>h)) (zAC _) kl ?_;refine Ac (λb4=>?_);refine stB kl rfl ho2 ?_;refine rdB gl ?_;refine rdB kl ?_;refine Fj (CalV.to L' (hf _ (List.getElem_mem hb) ys[k] I' L' _ _ _ ⟨c1,rfl,g2⟩ ⟨c2,rfl,k2⟩ ?_));try refine zqe ?_
  cases hfe:f xs[k] ys[k] with
  |false=>
   rw [he,hfe] at hk;exact zAA hk
  |true=>
   simp only [wrap_i64 ((k:Int)+1) (by omega),SSd,Nat.reduceAdd];exact zAA ⟨q - 1,by omega,k+1,by omega,rfl,rfl,rfl,by rw [he,hfe,Bool.true_and]⟩
 ·have hb:¬k < xs.length:=by
   have:=of_decide_eq_false hb;omega
  rw [he,IA (List.drop_eq_nil_of_le (by omega)) (List.drop_eq_nil_of_le (by omega))] at hk;exact zAA hk
theorem ABE {u v fv:Value}{f:TSource→TSource→Bool}{xs ys:List (TSource)}(hx:RL TSourceV 14 I [] u xs)(hy:RL TSourceV 14 I [] v ys)(hf:FnQ ω fv (Ik TSourceV) f xs)(hl:xs.length≤1000000000000)(hk:K (.bool (eqL f xs ys)) I L):CT ω 64 #[u,v,fv] K I L:=by
 refine AVQ ?_;unfold ATw;simp only [zAM hx,zAM hy,SSd,Nat.reduceAdd];refine AB (λh=>?_) (λh=>?_)
 ·have h:xs.length≠ys.length:=by
   have:¬(xs.length:Int)=ys.length:=by simpa using h
   omega
  rw [Gu h] at hk;exact zAA hk
 have h:xs.length=ys.length:=by
  have:(xs.length:Int)=ys.length:=by simpa using h
  omega
 try refine zqe ?_
 refine loop (λq st I' L'=>∃k:Nat,k+q=xs.length∧st=(Value.bool false,Value.int .i64 (k:Nat),())∧I'=I∧L'=L∧eqL f xs ys=eqL f (xs.drop k) (ys.drop k)) xs.length ⟨0,by omega,rfl,rfl,rfl,rfl⟩ ?_;rintro q st I' L' ⟨k,hq,rfl,rfl,rfl,he⟩;unfold AGx;try refine zqe ?_
 refine AB (λhb=>?_) (λhb=>?_)
 ·have hb:k < xs.length:=by
   have:=of_decide_eq_true hb;omega
  have hb2:k < ys.length:=by omega
  obtain ⟨bt,off,c1,g1,gl,g2,g3⟩:=zAS hx (i:=k) (by omega) (by omega);obtain ⟨bu,off2,c2,k1,kl,k2,k3⟩:=zAS hy (i:=k) (by omega) (by omega);rw [Af hb] at g2;rw [Af hb2] at k2;rw [List.drop_eq_getElem_cons hb,List.drop_eq_getElem_cons hb2] at he;simp only [eqL] at he;simp only [g1,k1,SSd,Nat.reduceAdd];have ho1:=TSourceV.one g2;have ho2:=TSourceV.one k2;refine FK (g3 _ [] (zAC _) (λ_ h=>h)) (zAC _) gl ?_;refine Ac (λb3=>?_);refine stB gl rfl ho1 ?_;refine FK (k3 I' [] (zAC _) (λ_ h=>h)) (zAC _) kl ?_;refine Ac (λb4=>?_);refine stB kl rfl ho2 ?_;refine rdB gl ?_;refine rdB kl ?_;refine Fj (CalV.to L' (hf _ (List.getElem_mem hb) ys[k] I' L' _ _ _ ⟨c1,rfl,g2⟩ ⟨c2,rfl,k2⟩ ?_));try refine zqe ?_
  cases hfe:f xs[k] ys[k] with
  |false=>
   rw [he,hfe] at hk;exact zAA hk
  |true=>
   simp only [wrap_i64 ((k:Int)+1) (by omega),SSd,Nat.reduceAdd];exact zAA ⟨q - 1,by omega,k+1,by omega,rfl,rfl,rfl,by rw [he,hfe,Bool.true_and]⟩
 ·have hb:¬k < xs.length:=by
   have:=of_decide_eq_false hb;omega
  rw [he,IA (List.drop_eq_nil_of_le (by omega)) (List.drop_eq_nil_of_le (by omega))] at hk;exact zAA hk
theorem AFe {u v fv:Value}{f:TOrder→TOrder→Bool}{xs ys:List (TOrder)}(hx:RL TOrderV 12 I [] u xs)(hy:RL TOrderV 12 I [] v ys)(hf:FnQ ω fv (Ik TOrderV) f xs)(hl:xs.length≤1000000000000)(hk:K (.bool (eqL f xs ys)) I L):CT ω 66 #[u,v,fv] K I L:=by
 refine AVO ?_;unfold ATu;simp only [zAM hx,zAM hy,SSd,Nat.reduceAdd];refine AB (λh=>?_) (λh=>?_)
 ·have h:xs.length≠ys.length:=by
   have:¬(xs.length:Int)=ys.length:=by simpa using h
   omega
  rw [Gu h] at hk;exact zAA hk
 have h:xs.length=ys.length:=by
  have:(xs.length:Int)=ys.length:=by simpa using h
  omega
 try refine zqe ?_
 refine loop (λq st I' L'=>∃k:Nat,k+q=xs.length∧st=(Value.bool false,Value.int .i64 (k:Nat),())∧I'=I∧L'=L∧eqL f xs ys=eqL f (xs.drop k) (ys.drop k)) xs.length ⟨0,by omega,rfl,rfl,rfl,rfl⟩ ?_;rintro q st I' L' ⟨k,hq,rfl,rfl,rfl,he⟩;unfold AGw;try refine zqe ?_
 refine AB (λhb=>?_) (λhb=>?_)
 ·have hb:k < xs.length:=by
   have:=of_decide_eq_true hb;omega
  have hb2:k < ys.length:=by omega
  obtain ⟨bt,off,c1,g1,gl,g2,g3⟩:=zAS hx (i:=k) (by omega) (by omega);obtain ⟨bu,off2,c2,k1,kl,k2,k3⟩:=zAS hy (i:=k) (by omega) (by omega);rw [Af hb] at g2;rw [Af hb2] at k2;rw [List.drop_eq_getElem_cons hb,List.drop_eq_getElem_cons hb2] at he;simp only [eqL] at he;simp only [g1,k1,SSd,Nat.reduceAdd];have ho1:=TOrderV.one g2;have ho2:=TOrderV.one k2;refine FK (g3 _ [] (zAC _) (λ_ h=>h)) (zAC _) gl ?_;refine Ac (λb3=>?_);refine stB gl rfl ho1 ?_;refine FK (k3 I' [] (zAC _) (λ_ h=>h)) (zAC _) kl ?_;refine Ac (λb4=>?_);refine stB kl rfl ho2 ?_;refine rdB gl ?_;refine rdB kl ?_;refine Fj (CalV.to L' (hf _ (List.getElem_mem hb) ys[k] I' L' _ _ _ ⟨c1,rfl,g2⟩ ⟨c2,rfl,k2⟩ ?_));try refine zqe ?_
  cases hfe:f xs[k] ys[k] with
  |false=>
   rw [he,hfe] at hk;exact zAA hk
  |true=>
   simp only [wrap_i64 ((k:Int)+1) (by omega),SSd,Nat.reduceAdd];exact zAA ⟨q - 1,by omega,k+1,by omega,rfl,rfl,rfl,by rw [he,hfe,Bool.true_and]⟩
 ·have hb:¬k < xs.length:=by
   have:=of_decide_eq_false hb;omega
  rw [he,IA (List.drop_eq_nil_of_le (by omega)) (List.drop_eq_nil_of_le (by omega))] at hk;exact zAA hk
theorem AMk {u v fv:Value}{f:TSet→TSet→Bool}{xs ys:List (TSet)}(hx:RL TSetV 12 I [] u xs)(hy:RL TSetV 12 I [] v ys)(hf:FnQ ω fv (Ik TSetV) f xs)(hl:xs.length≤1000000000000)(hk:K (.bool (eqL f xs ys)) I L):CT ω 70 #[u,v,fv] K I L:=by
 refine AVK ?_;unfold ATq;simp only [zAM hx,zAM hy,SSd,Nat.reduceAdd];refine AB (λh=>?_) (λh=>?_)
 ·have h:xs.length≠ys.length:=by
   have:¬(xs.length:Int)=ys.length:=by simpa using h
   omega
  rw [Gu h] at hk;exact zAA hk
 have h:xs.length=ys.length:=by
  have:(xs.length:Int)=ys.length:=by simpa using h
  omega
 try refine zqe ?_
 refine loop (λq st I' L'=>∃k:Nat,k+q=xs.length∧st=(Value.bool false,Value.int .i64 (k:Nat),())∧I'=I∧L'=L∧eqL f xs ys=eqL f (xs.drop k) (ys.drop k)) xs.length ⟨0,by omega,rfl,rfl,rfl,rfl⟩ ?_;rintro q st I' L' ⟨k,hq,rfl,rfl,rfl,he⟩;unfold AGu;try refine zqe ?_
 refine AB (λhb=>?_) (λhb=>?_)
 ·have hb:k < xs.length:=by
   have:=of_decide_eq_true hb;omega
  have hb2:k < ys.length:=by omega
  obtain ⟨bt,off,c1,g1,gl,g2,g3⟩:=zAS hx (i:=k) (by omega) (by omega);obtain ⟨bu,off2,c2,k1,kl,k2,k3⟩:=zAS hy (i:=k) (by omega) (by omega);rw [Af hb] at g2;rw [Af hb2] at k2;rw [List.drop_eq_getElem_cons hb,List.drop_eq_getElem_cons hb2] at he;simp only [eqL] at he;simp only [g1,k1,SSd,Nat.reduceAdd];have ho1:=TSetV.one g2;have ho2:=TSetV.one k2;refine FK (g3 _ [] (zAC _) (λ_ h=>h)) (zAC _) gl ?_;refine Ac (λb3=>?_);refine stB gl rfl ho1 ?_;refine FK (k3 I' [] (zAC _) (λ_ h=>h)) (zAC _) kl ?_;refine Ac (λb4=>?_);refine stB kl rfl ho2 ?_;refine rdB gl ?_;refine rdB kl ?_;refine Fj (CalV.to L' (hf _ (List.getElem_mem hb) ys[k] I' L' _ _ _ ⟨c1,rfl,g2⟩ ⟨c2,rfl,k2⟩ ?_));try refine zqe ?_
  cases hfe:f xs[k] ys[k] with
  |false=>
   rw [he,hfe] at hk;exact zAA hk
  |true=>
   simp only [wrap_i64 ((k:Int)+1) (by omega),SSd,Nat.reduceAdd];exact zAA ⟨q - 1,by omega,k+1,by omega,rfl,rfl,rfl,by rw [he,hfe,Bool.true_and]⟩
 ·have hb:¬k < xs.length:=by
   have:=of_decide_eq_false hb;omega
  rw [he,IA (List.drop_eq_nil_of_le (by omega)) (List.drop_eq_nil_of_le (by omega))] at hk;exact zAA hk
theorem AMm {u v fv:Value}{f:TCol→TCol→Bool}{xs ys:List (TCol)}(hx:RL TColV 16 I [] u xs)(hy:RL TColV 16 I [] v ys)(hf:FnQ ω fv (Ik TColV) f xs)(hl:xs.length≤1000000000000)(hk:K (.bool (eqL f xs ys)) I L):CT ω 72 #[u,v,fv] K I L:=by
 refine AVI ?_;unfold ATo;simp only [zAM hx,zAM hy,SSd,Nat.reduceAdd];refine AB (λh=>?_) (λh=>?_)
 ·have h:xs.length≠ys.length:=by
   have:¬(xs.length:Int)=ys.length:=by simpa using h
   omega
  rw [Gu h] at hk;exact zAA hk
 have h:xs.length=ys.length:=by
  have:(xs.length:Int)=ys.length:=by simpa using h
  omega
 try refine zqe ?_
 refine loop (λq st I' L'=>∃k:Nat,k+q=xs.length∧st=(Value.bool false,Value.int .i64 (k:Nat),())∧I'=I∧L'=L∧eqL f xs ys=eqL f (xs.drop k) (ys.drop k)) xs.length ⟨0,by omega,rfl,rfl,rfl,rfl⟩ ?_;rintro q st I' L' ⟨k,hq,rfl,rfl,rfl,he⟩;unfold AGt;try refine zqe ?_
 refine AB (λhb=>?_) (λhb=>?_)
 ·have hb:k < xs.length:=by
   have:=of_decide_eq_true hb;omega
  have hb2:k < ys.length:=by omega
  obtain ⟨bt,off,c1,g1,gl,g2,g3⟩:=zAS hx (i:=k) (by omega) (by omega);obtain ⟨bu,off2,c2,k1,kl,k2,k3⟩:=zAS hy (i:=k) (by omega) (by omega);rw [Af hb] at g2;rw [Af hb2] at k2;rw [List.drop_eq_getElem_cons hb,List.drop_eq_getElem_cons hb2] at he;simp only [eqL] at he;simp only [g1,k1,SSd,Nat.reduceAdd];have ho1:=TColV.one g2;have ho2:=TColV.one k2;refine FK (g3 _ [] (zAC _) (λ_ h=>h)) (zAC _) gl ?_;refine Ac (λb3=>?_);refine stB gl rfl ho1 ?_;refine FK (k3 I' [] (zAC _) (λ_ h=>h)) (zAC _) kl ?_;refine Ac (λb4=>?_);refine stB kl rfl ho2 ?_;refine rdB gl ?_;refine rdB kl ?_;refine Fj (CalV.to L' (hf _ (List.getElem_mem hb) ys[k] I' L' _ _ _ ⟨c1,rfl,g2⟩ ⟨c2,rfl,k2⟩ ?_));try refine zqe ?_
  cases hfe:f xs[k] ys[k] with
  |false=>
   rw [he,hfe] at hk;exact zAA hk
  |true=>
   simp only [wrap_i64 ((k:Int)+1) (by omega),SSd,Nat.reduceAdd];exact zAA ⟨q - 1,by omega,k+1,by omega,rfl,rfl,rfl,by rw [he,hfe,Bool.true_and]⟩
 ·have hb:¬k < xs.length:=by
   have:=of_decide_eq_false hb;omega
  rw [he,IA (List.drop_eq_nil_of_le (by omega)) (List.drop_eq_nil_of_le (by omega))] at hk;exact zAA hk
theorem AMl {u v fv:Value}{f:List Ex→List Ex→Bool}{xs ys:List (List Ex)}(hx:RL (Hl ExV 11) 1 I [] u xs)(hy:RL (Hl ExV 11) 1 I [] v ys)(hf:FnQ ω fv (ALH (Hl ExV 11)) f xs)(hl:xs.length≤1000000000000)(hk:K (.bool (eqL f xs ys)) I L):CT ω 68 #[u,v,fv] K I L:=by
 refine AVM ?_;unfold ATs;simp only [zAM hx,zAM hy,SSd,Nat.reduceAdd];refine AB (λh=>?_) (λh=>?_)
 ·have h:xs.length≠ys.length:=by
   have:¬(xs.length:Int)=ys.length:=by simpa using h
   omega
  rw [Gu h] at hk;exact zAA hk
 have h:xs.length=ys.length:=by
  have:(xs.length:Int)=ys.length:=by simpa using h
  omega
 try refine zqe ?_
 refine loop (λq st I' L'=>∃k:Nat,k+q=xs.length∧st=(Value.bool false,Value.int .i64 (k:Nat),())∧I'=I∧L'=L∧eqL f xs ys=eqL f (xs.drop k) (ys.drop k)) xs.length ⟨0,by omega,rfl,rfl,rfl,rfl⟩ ?_;rintro q st I' L' ⟨k,hq,rfl,rfl,rfl,he⟩;unfold AGv;try refine zqe ?_
 refine AB (λhb=>?_) (λhb=>?_)
 ·have hb:k < xs.length:=by
   have:=of_decide_eq_true hb;omega
  have hb2:k < ys.length:=by omega
  obtain ⟨bt,off,c1,g1,gl,g2,g3⟩:=zAS hx (i:=k) (by omega) (by omega);obtain ⟨bu,off2,c2,k1,kl,k2,k3⟩:=zAS hy (i:=k) (by omega) (by omega);rw [Af hb] at g2;rw [Af hb2] at k2;rw [List.drop_eq_getElem_cons hb,List.drop_eq_getElem_cons hb2] at he;simp only [eqL] at he;simp only [g1,k1,SSd,Nat.reduceAdd];obtain ⟨w1,rfl⟩:∃u,c1=[u]:=by match c1,gl with|[u],_=>exact ⟨u,rfl⟩
  obtain ⟨w2,rfl⟩:∃u,c2=[u]:=by match c2,kl with|[u],_=>exact ⟨u,rfl⟩
  refine rdC (g3 I' [] (zAC _) (λ_ h=>h) 0 _ rfl) (zAC _) ?_;refine rdC (k3 I' [] (zAC _) (λ_ h=>h) 0 _ rfl) (zAC _) ?_;refine Fj (CalV.to L' (hf _ (List.getElem_mem hb) ys[k] I' L' _ _ _ g2 k2 ?_));try refine zqe ?_
  cases hfe:f xs[k] ys[k] with
  |false=>
   rw [he,hfe] at hk;exact zAA hk
  |true=>
   simp only [wrap_i64 ((k:Int)+1) (by omega),SSd,Nat.reduceAdd];exact zAA ⟨q - 1,by omega,k+1,by omega,rfl,rfl,rfl,by rw [he,hfe,Bool.true_and]⟩
 ·have hb:¬k < xs.length:=by
   have:=of_decide_eq_false hb;omega
  rw [he,IA (List.drop_eq_nil_of_le (by omega)) (List.drop_eq_nil_of_le (by omega))] at hk;exact zAA hk
theorem Bo:∀(n:Nat) (x:Ex),Dl x≤n→okE x→∀(y:Ex) (I:Imm) (L:LH) (c d:List Value) (K:Value→M),ExV I x c→ExV I y d→K (.bool (Ea x y)) I L→CT ω 60 #[.agg c.toArray,.agg d.toArray] K I L
 |0,x,h,_,_,_,_,_,_,_,_,_,_=>by have:=Fh x;omega
 |n+1,x,hd,hok,y,I,L,c,d,K,hx,hy,hk=>by
  obtain ⟨v,rfl,ha⟩:=ExV.iff.1 hx;obtain ⟨u,rfl,hb⟩:=ExV.iff.1 hy;have hdd:=EL x;have hfn:FnQ ω (.func (.func 60) #[] #[]) (Ik ExV) Ea x.args:=by
   rintro z hz y I L _ _ K ⟨c,rfl,hc⟩ ⟨d,rfl,hd'⟩ hk;have:=FN hz;exact FT (by kernel_rfl) (Bo n z (by omega) (Hz (JP hok).2.2 hz) y I L c d K hc hd' hk)
  have hk2:∀(t:Bool) (L':LH),t=Ea x y→SubP L L'→Gh (K (.bool t)) I L':=by
   intro t L' ht hs;rw [ht];exact zAE L (zAA hk)
  refine AVU ?_;unfold AUA;refine Ac (λb1=>Ac (λb2=>?_));have hse:=Xw x y;rw [ATb] at hse;repeat' (first|refine zqa ?_|refine zqh (λ_=>?_)|((with_reducible refine call ?_);with_reducible refine ABF (ω:=ω) ha hb hfn (JP hok).2.1 ?_)|refine zqr ?_|refine zqb ?_|refine zqi ?_ ?_|refine zqc ?_|refine zqg (λ_=>?_) (λ_=>?_)|(simp only [SSd,Nat.reduceAdd,ATZ]))
  all_goals (refine hk2 _ _ ?_ inferInstance;rw [hse];clear hse hk2 hk;simp_all)
theorem AGX {xs:List TItem}(hxs:∀x∈xs,okE x.fExpr):FnQ ω (.func (.func 63) #[] #[]) (Ik TItemV) sIt xs:=by
 rintro x hz y I L _ _ K ⟨c,rfl,⟨v0,rfl,h0⟩⟩ ⟨d,rfl,⟨u0,rfl,k0⟩⟩ hk;have hok:=hxs x hz;refine FT (by kernel_rfl) ?_;have hk2:∀(t:Bool) (L':LH),t=sIt x y→SubP L L'→Gh (K (.bool t)) I L':=by
  intro t L' ht hs;rw [ht];exact zAE L (zAA hk)
 refine AVR ?_;unfold ATx;refine Ac (λb1=>Ac (λb2=>?_));unfold sIt at hk2;repeat' (first|refine zqa ?_|refine zqh (λ_=>?_)|((with_reducible refine call ?_);with_reducible refine Bo (ω:=ω) _ x.fExpr (Nat.le_refl _) hok y.fExpr _ _ _ _ _ (ExV.iff.2 ⟨v0,rfl,h0⟩) (ExV.iff.2 ⟨u0,rfl,k0⟩) ?_)|refine zqr ?_|refine zqb ?_|refine zqi ?_ ?_|refine zqc ?_|refine zqg (λ_=>?_) (λ_=>?_)|refine zqe ?_|fail)
 all_goals (refine hk2 _ _ ?_ inferInstance;clear hk2 hk;simp_all)
theorem AAI {xs:List TSource}(hxs:∀x∈xs,okE x.fOn):FnQ ω (.func (.func 65) #[] #[]) (Ik TSourceV) sSo xs:=by
 rintro x hz y I L _ _ K ⟨c,rfl,⟨v0,rfl,h0⟩⟩ ⟨d,rfl,⟨u0,rfl,k0⟩⟩ hk;have hok:=hxs x hz;refine FT (by kernel_rfl) ?_;have hk2:∀(t:Bool) (L':LH),t=sSo x y→SubP L L'→Gh (K (.bool t)) I L':=by
  intro t L' ht hs;rw [ht];exact zAE L (zAA hk)
 refine AVP ?_;unfold ATv;refine Ac (λb1=>Ac (λb2=>?_));unfold sSo at hk2;repeat' (first|refine zqa ?_|refine zqh (λ_=>?_)|((with_reducible refine call ?_);with_reducible refine Bo (ω:=ω) _ x.fOn (Nat.le_refl _) hok y.fOn _ _ _ _ _ (ExV.iff.2 ⟨v0,rfl,h0⟩) (ExV.iff.2 ⟨u0,rfl,k0⟩) ?_)|refine zqr ?_|refine zqb ?_|refine zqi ?_ ?_|refine zqc ?_|refine zqg (λ_=>?_) (λ_=>?_)|refine zqe ?_|fail)
 all_goals (refine hk2 _ _ ?_ inferInstance;clear hk2 hk;simp_all)
theorem AEc {xs:List TOrder}(hxs:∀x∈xs,okE x.fExpr):FnQ ω (.func (.func 67) #[] #[]) (Ik TOrderV) sOr xs:=by
 rintro x hz y I L _ _ K ⟨c,rfl,⟨v0,rfl,h0⟩⟩ ⟨d,rfl,⟨u0,rfl,k0⟩⟩ hk;have hok:=hxs x hz;refine FT (by kernel_rfl) ?_;have hk2:∀(t:Bool) (L':LH),t=sOr x y→SubP L L'→Gh (K (.bool t)) I L':=by
  intro t L' ht hs;rw [ht];exact zAE L (zAA hk)
 refine AVN ?_;unfold ATt;refine Ac (λb1=>Ac (λb2=>?_));unfold sOr at hk2;repeat' (first|refine zqa ?_|refine zqh (λ_=>?_)|((with_reducible refine call ?_);with_reducible refine Bo (ω:=ω) _ x.fExpr (Nat.le_refl _) hok y.fExpr _ _ _ _ _ (ExV.iff.2 ⟨v0,rfl,h0⟩) (ExV.iff.2 ⟨u0,rfl,k0⟩) ?_)|refine zqr ?_|refine zqb ?_|refine zqi ?_ ?_|refine zqc ?_|refine zqg (λ_=>?_) (λ_=>?_)|refine zqe ?_|fail)
 all_goals (refine hk2 _ _ ?_ inferInstance;clear hk2 hk;simp_all)
theorem ALX {xs:List TSet}(hxs:∀x∈xs,okE x.fExpr):FnQ ω (.func (.func 71) #[] #[]) (Ik TSetV) sSe xs:=by
 rintro x hz y I L _ _ K ⟨c,rfl,⟨v0,rfl,h0⟩⟩ ⟨d,rfl,⟨u0,rfl,k0⟩⟩ hk;have hok:=hxs x hz;refine FT (by kernel_rfl) ?_;have hk2:∀(t:Bool) (L':LH),t=sSe x y→SubP L L'→Gh (K (.bool t)) I L':=by
  intro t L' ht hs;rw [ht];exact zAE L (zAA hk)
 refine AVJ ?_;unfold ATp;refine Ac (λb1=>Ac (λb2=>?_));unfold sSe at hk2;repeat' (first|refine zqa ?_|refine zqh (λ_=>?_)|((with_reducible refine call ?_);with_reducible refine Bo (ω:=ω) _ x.fExpr (Nat.le_refl _) hok y.fExpr _ _ _ _ _ (ExV.iff.2 ⟨v0,rfl,h0⟩) (ExV.iff.2 ⟨u0,rfl,k0⟩) ?_)|refine zqr ?_|refine zqb ?_|refine zqi ?_ ?_|refine zqc ?_|refine zqg (λ_=>?_) (λ_=>?_)|refine zqe ?_|fail)
 all_goals (refine hk2 _ _ ?_ inferInstance;clear hk2 hk;simp_all)
theorem ALn {xs:List TCol}(hxs:∀x∈xs,okE x.fDefault):FnQ ω (.func (.func 73) #[] #[]) (Ik TColV) sCo xs:=by
 rintro x hz y I L _ _ K ⟨c,rfl,⟨v0,rfl,h0⟩⟩ ⟨d,rfl,⟨u0,rfl,k0⟩⟩ hk;have hok:=hxs x hz;refine FT (by kernel_rfl) ?_;have hk2:∀(t:Bool) (L':LH),t=sCo x y→SubP L L'→Gh (K (.bool t)) I L':=by
  intro t L' ht hs;rw [ht];exact zAE L (zAA hk)
 refine AVH ?_;unfold ATn;refine Ac (λb1=>Ac (λb2=>?_));unfold sCo at hk2;repeat' (first|refine zqa ?_|refine zqh (λ_=>?_)|((with_reducible refine call ?_);with_reducible refine Bo (ω:=ω) _ x.fDefault (Nat.le_refl _) hok y.fDefault _ _ _ _ _ (ExV.iff.2 ⟨v0,rfl,h0⟩) (ExV.iff.2 ⟨u0,rfl,k0⟩) ?_)|refine zqr ?_|refine zqb ?_|refine zqi ?_ ?_|refine zqc ?_|refine zqg (λ_=>?_) (λ_=>?_)|refine zqe ?_|fail)
 all_goals (refine hk2 _ _ ?_ inferInstance;clear hk2 hk;simp_all)
theorem ALY {xs:List (List Ex)}(hxs:∀x∈xs,okL x∧x.length≤1000000000000):FnQ ω (.func (.func 69) #[] #[]) (ALH (Hl ExV 11)) (eqL Ea) xs:=by
 intro x hz y I L u v K hu hv hk;obtain ⟨u',hu',h0⟩:=(show Hl ExV 11 I x [u] from hu);obtain ⟨v',hv',k0⟩:=(show Hl ExV 11 I y [v] from hv);obtain rfl:u=u':=by simpa using hu'
 obtain rfl:v=v':=by simpa using hv'
 refine FT (by kernel_rfl) ?_;refine AVL ?_;unfold ATr;refine call (ABF h0 k0 ?_ (hxs x hz).2 (zAA hk));rintro z hzz y I L _ _ K ⟨c,rfl,hc⟩ ⟨d,rfl,hd'⟩ hk;exact FT (by kernel_rfl) (Bo _ z (Nat.le_refl _) (Hz (hxs x hz).1 hzz) y I L c d K hc hd' hk)
end
theorem YO {l:List TStmt}{k:Nat}(h:k < l.length):BD (l.take (k+1))=BD (l.take k)+FW l[k]:=by
 rw [List.take_succ_eq_append_getElem h];simp only [BD,List.map_append,List.sum_append,List.map_cons,List.map_nil,List.sum_cons,List.sum_nil,Nat.add_zero]
theorem VQ:∀a b:List TStmt,EF (a++b)=max (EF a) (EF b)
 |[],b=>by simp [EF]
 |x::a,b=>by simp only [List.cons_append,EF,VQ a b];omega
theorem ABK {l:List TStmt}{k:Nat}(h:k < l.length):EF (l.take (k+1))=max (EF (l.take k)) (Pi l[k]):=by
 rw [List.take_succ_eq_append_getElem h,VQ];simp [EF]
theorem AFK {l:List TStmt}(k:Nat):BD (l.take k)≤BD l:=by
 have h:BD l=BD (l.take k)+BD (l.drop k):=by
  unfold BD;rw [←List.sum_append,←List.map_append,List.take_append_drop]
 omega
theorem Sv:∀l:List TStmt,l.length≤BD l
 |[]=>Nat.zero_le _
 |s::l=>by
  have:=Sv l;simp only [BD,List.map_cons,List.sum_cons,List.length_cons,FW] at this ⊢;omega
section
variable {ω:Om}
theorem AEe {I:Imm}{L:LH}{K:Value→M}{v:Value}{l:List TStmt}(hl:RL TStmtV 51 I [] v l)(hp:BD l≤1000000000)(hc:∀s∈l,cS s≤1000000000)
  (hk:∀I',Ext I I'→K (.tuple #[.int .i64 (BD l:Nat),.int .i64 (EF l:Nat)]) I' L):CT ω 47 #[v] K I L:=by
 refine AVZ ?_;unfold AUF;simp only [zAM hl,SSd,Nat.reduceAdd];refine Ac (λb1=>?_);refine Ac (λb2=>?_);refine st1 rfl ?_;refine st1 rfl ?_;have hlen:=Sv l;refine loop (λq st I' L'=>∃k:Nat,k+q=l.length∧st=(.int .i64 k,())∧Ext I I'∧L'=(b2,EM (EF (l.take k)))::(b1,EM (BD (l.take k)+(l.length - k)))::L) l.length ⟨0,by omega,rfl,zAC _,?_⟩ ?_
 ·rw [show ((BD (l.take 0):Nat):Int)+((l.length:Int) - (0:Nat))=l.length by simp [BD]];rfl
 rintro q st I' L' ⟨k,hkq,rfl,hI',rfl⟩;unfold AHD;try refine zqe ?_
 refine AB (λhb=>?_) (λhb=>?_)
 ·have hb:k < l.length:=by
   have:=of_decide_eq_true hb;omega
  obtain ⟨bt,off,c1,g1,gl,g2,g3⟩:=zAS hl (i:=k) (by omega) (by omega);rw [Af hb] at g2;have g2:=g2.mono hI';have hone:=TStmtV.one g2;simp only [g1,SSd,Nat.reduceAdd];refine FK (g3 _ [] hI' (λ_ h=>h)) (zAC _) gl ?_;refine Ac (λb3=>?_);refine stB gl rfl hone ?_;refine rdB gl ?_;refine call ?_;have hcs:=hc _ (List.getElem_mem hb);have hpk:=YO hb;have hdk:=ABK hb;have hle:=AFK (l:=l) (k+1);have e1:FW l[k]=AZ (Ho l[k])+1:=rfl;refine Cal.to ((b1,EM (BD (l.take k)+(l.length - k)))::(b2,EM (EF (l.take k)))::L) ?_;refine AFf g2 hcs (by omega) (by omega) (by omega) (λI2 hI2=>?_);simp only [wrap_i64 ((k:Int)+1) (by omega),SSd,Nat.reduceAdd];rw [show (BD (l.take k):Int)+((l.length:Int) - k)+AZ (Ho l[k])=BD (l.take (k+1))+((l.length:Int) - (k+1:Nat)) by omega,show max (EF (l.take k):Int) (Bc (Ho l[k]))=EF (l.take (k+1)) by rw [hdk];simp only [Pi];omega];exact zAE ((b2,EM (EF (l.take (k+1))))::(b1,EM (BD (l.take (k+1))+(l.length - (k+1:Nat))))::L) (zAA ⟨q - 1,by omega,k+1,by omega,rfl,zAB hI' hI2,rfl⟩)
 ·have hb:¬k < l.length:=by
   have:=of_decide_eq_false hb;omega
  have hkl:l.take k=l:=List.take_of_length_le (by omega);rw [hkl,show (BD l:Int)+((l.length:Int) - k)=BD l by omega];unfold AHC;repeat' (first|refine zqa ?_|refine zqh (λ_=>?_)|refine zqr ?_|refine zqb ?_|refine zqi ?_ ?_|refine zqc ?_|refine zqg (λ_=>?_) (λ_=>?_)|refine zqe ?_|fail)
  exact zAE _ (zAA (hk I' hI'))
theorem Ku:AWF ω:=by
 intro v l K I L hl hp hc hk;refine AVk ?_;unfold AUP;refine call (AEe hl hp hc (λI' hI'=>?_));have hk:=hk I' hI';unfold Kv at hk;try refine zqe ?_
 refine AB (λhb=>?_) (λhb=>?_)
 ·have hb:=of_decide_eq_true hb;rw [if_pos (by omega)] at hk;exact zAA hk
 ·have hb:=of_decide_eq_false hb;rw [if_neg (by omega)] at hk;try refine zqe ?_
  refine AB (λhb2=>?_) (λhb2=>?_)
  ·have hb2:=of_decide_eq_true hb2;rw [if_pos (by omega)] at hk;exact zAA hk
  ·have hb2:=of_decide_eq_false hb2;rw [if_neg (by omega)] at hk;exact zAA hk
end
section
variable {ω:Om}{G I:Imm}{L F:LH}{K:Value→M}
set_option maxHeartbeats 4000000 in
theorem AHl {a b:TStmt}{b1 b2 b3 b4:Nat}{xa0 xa1 xa2 xa3 xa4 xa5 xa6 xa7 xa8 xa9 xa10 xa11 xa12 ya0 ya1 ya2 ya3 ya4 ya5 ya6 ya7 ya8 ya9 ya10 ya11 ya12:Option Addr}{xk0 xk1 xk2 xk3 xk4 xk5 xk6 xk7 xk8 xk9 xk10 xk11 xk12 yk0 yk1 yk2 yk3 yk4 yk5 yk6 yk7 yk8 yk9 yk10 yk11 yk12:Nat}(hq:OkS a)(h0:RL TItemV 14 I [] (.slice xa0 a.fSelect.fItems.length xk0) a.fSelect.fItems)(h1:RL TSourceV 14 I [] (.slice xa1 a.fSelect.fFrom.length xk1) a.fSelect.fFrom)(h2:ExL I (.slice xa2 a.fSelect.fWhere.args.length xk2) a.fSelect.fWhere.args)(h3:RL ExV 11 I [] (.slice xa3 a.fSelect.fGroup.length xk3) a.fSelect.fGroup)(h4:ExL I (.slice xa4 a.fSelect.fHaving.args.length xk4) a.fSelect.fHaving.args)(h5:RL TOrderV 12 I [] (.slice xa5 a.fSelect.fOrder.length xk5) a.fSelect.fOrder)(h6:RL StrV 1 I [] (.slice xa6 a.fColumns.length xk6) a.fColumns)(h7:RL (Hl ExV 11) 1 I [] (.slice xa7 a.fRows.length xk7) a.fRows)(h8:RL TSetV 12 I [] (.slice xa8 a.fSets.length xk8) a.fSets)(h9:ExL I (.slice xa9 a.fWhere.args.length xk9) a.fWhere.args)(h10:RL TColV 16 I [] (.slice xa10 a.fCols.length xk10) a.fCols)(h11:RL StrV 1 I [] (.slice xa11 a.fKey.length xk11) a.fKey)(h12:RL StrV 1 I [] (.slice xa12 a.fIndex.fColumns.length xk12) a.fIndex.fColumns)(g0:RL TItemV 14 I [] (.slice ya0 b.fSelect.fItems.length yk0) b.fSelect.fItems)(g1:RL TSourceV 14 I [] (.slice ya1 b.fSelect.fFrom.length yk1) b.fSelect.fFrom)(g2:ExL I (.slice ya2 b.fSelect.fWhere.args.length yk2) b.fSelect.fWhere.args)(g3:RL ExV 11 I [] (.slice ya3 b.fSelect.fGroup.length yk3) b.fSelect.fGroup)(g4:ExL I (.slice ya4 b.fSelect.fHaving.args.length yk4) b.fSelect.fHaving.args)(g5:RL TOrderV 12 I [] (.slice ya5 b.fSelect.fOrder.length yk5) b.fSelect.fOrder)(g6:RL StrV 1 I [] (.slice ya6 b.fColumns.length yk6) b.fColumns)(g7:RL (Hl ExV 11) 1 I [] (.slice ya7 b.fRows.length yk7) b.fRows)(g8:RL TSetV 12 I [] (.slice ya8 b.fSets.length yk8) b.fSets)(g9:ExL I (.slice ya9 b.fWhere.args.length yk9) b.fWhere.args)(g10:RL TColV 16 I [] (.slice ya10 b.fCols.length yk10) b.fCols)(g11:RL StrV 1 I [] (.slice ya11 b.fKey.length yk11) b.fKey)(g12:RL StrV 1 I [] (.slice ya12 b.fIndex.fColumns.length yk12) b.fIndex.fColumns)
  [i1:InL b1 L (.cells (stC a (.slice xa0 a.fSelect.fItems.length xk0) (.slice xa1 a.fSelect.fFrom.length xk1) (.slice xa2 a.fSelect.fWhere.args.length xk2) (.slice xa3 a.fSelect.fGroup.length xk3) (.slice xa4 a.fSelect.fHaving.args.length xk4) (.slice xa5 a.fSelect.fOrder.length xk5) (.slice xa6 a.fColumns.length xk6) (.slice xa7 a.fRows.length xk7) (.slice xa8 a.fSets.length xk8) (.slice xa9 a.fWhere.args.length xk9) (.slice xa10 a.fCols.length xk10) (.slice xa11 a.fKey.length xk11) (.slice xa12 a.fIndex.fColumns.length xk12)).toArray 48 (0,0))] [i2:InL b2 L (.cells (stC b (.slice ya0 b.fSelect.fItems.length yk0) (.slice ya1 b.fSelect.fFrom.length yk1) (.slice ya2 b.fSelect.fWhere.args.length yk2) (.slice ya3 b.fSelect.fGroup.length yk3) (.slice ya4 b.fSelect.fHaving.args.length yk4) (.slice ya5 b.fSelect.fOrder.length yk5) (.slice ya6 b.fColumns.length yk6) (.slice ya7 b.fRows.length yk7) (.slice ya8 b.fSets.length yk8) (.slice ya9 b.fWhere.args.length yk9) (.slice ya10 b.fCols.length yk10) (.slice ya11 b.fKey.length yk11) (.slice ya12 b.fIndex.fColumns.length yk12)).toArray 48 (0,0))] [i3:InL b3 L (.cells (selC a.fSelect (.slice xa0 a.fSelect.fItems.length xk0) (.slice xa1 a.fSelect.fFrom.length xk1) (.slice xa2 a.fSelect.fWhere.args.length xk2) (.slice xa3 a.fSelect.fGroup.length xk3) (.slice xa4 a.fSelect.fHaving.args.length xk4) (.slice xa5 a.fSelect.fOrder.length xk5)).toArray 40 (0,0))] [i4:InL b4 L (.cells (selC b.fSelect (.slice ya0 b.fSelect.fItems.length yk0) (.slice ya1 b.fSelect.fFrom.length yk1) (.slice ya2 b.fSelect.fWhere.args.length yk2) (.slice ya3 b.fSelect.fGroup.length yk3) (.slice ya4 b.fSelect.fHaving.args.length yk4) (.slice ya5 b.fSelect.fOrder.length yk5)).toArray 40 (0,0))]
  (hk:Gh (K (.bool (MG a b))) I L):Vt ω (AP b1) (AP b2) (.bool false) (AP b3) (AP b4) (λv=>Gh (K v)) I L:=by
 unfold Vt;have hcnt:=hq.cnt;unfold cS cQ at hcnt;have hfe:FnQ ω (.func (.func 60) #[] #[]) (Ik ExV) Ea a.fSelect.fGroup:=by
  rintro z hzz y I L _ _ K ⟨c,rfl,hc⟩ ⟨d,rfl,hd'⟩ hk;exact FT (by kernel_rfl) (Bo _ z (Nat.le_refl _) (Hz hq.q.gr hzz) y I L c d K hc hd' hk)
 have hk2:∀t:Bool,t=MG a b→Gh (K (.bool t)) I L:=by
  intro t ht;rw [ht];exact hk
 unfold MG sQu sIx sRe at hk2;repeat' (first|refine zqa ?_|refine zqh (λ_=>?_)|((with_reducible refine call ?_);with_reducible refine Bo (ω:=ω) _ a.fSelect.fWhere (Nat.le_refl _) hq.q.wh b.fSelect.fWhere _ _ _ _ _ (ExV.iff.2 ⟨.slice xa2 a.fSelect.fWhere.args.length xk2,rfl,h2⟩) (ExV.iff.2 ⟨.slice ya2 b.fSelect.fWhere.args.length yk2,rfl,g2⟩) ?_)|((with_reducible refine call ?_);with_reducible refine Bo (ω:=ω) _ a.fSelect.fHaving (Nat.le_refl _) hq.q.ha b.fSelect.fHaving _ _ _ _ _ (ExV.iff.2 ⟨.slice xa4 a.fSelect.fHaving.args.length xk4,rfl,h4⟩) (ExV.iff.2 ⟨.slice ya4 b.fSelect.fHaving.args.length yk4,rfl,g4⟩) ?_)|((with_reducible refine call ?_);with_reducible refine Bo (ω:=ω) _ a.fWhere (Nat.le_refl _) hq.wh b.fWhere _ _ _ _ _ (ExV.iff.2 ⟨.slice xa9 a.fWhere.args.length xk9,rfl,h9⟩) (ExV.iff.2 ⟨.slice ya9 b.fWhere.args.length yk9,rfl,g9⟩) ?_)|((with_reducible refine call ?_);with_reducible refine ABF (ω:=ω) h3 g3 hfe (by omega) ?_)|((with_reducible refine call ?_);with_reducible refine AJj (ω:=ω) h0 g0 (AGX hq.q.it) (by omega) ?_)|((with_reducible refine call ?_);with_reducible refine ABE (ω:=ω) h1 g1 (AAI hq.q.fr) (by omega) ?_)|((with_reducible refine call ?_);with_reducible refine AFe (ω:=ω) h5 g5 (AEc hq.q.od) (by omega) ?_)|((with_reducible refine call ?_);with_reducible refine AMl (ω:=ω) h7 g7 (ALY hq.rows) (by omega) ?_)|((with_reducible refine call ?_);with_reducible refine AMk (ω:=ω) h8 g8 (ALX hq.sets) (by omega) ?_)|((with_reducible refine call ?_);with_reducible refine AMm (ω:=ω) h10 g10 (ALn hq.cols) (by omega) ?_)|((with_reducible refine call ?_);with_reducible refine ND (ω:=ω) h6 g6 hq.n1 ?_)|((with_reducible refine call ?_);with_reducible refine ND (ω:=ω) h11 g11 hq.n2 ?_)|((with_reducible refine call ?_);with_reducible refine ND (ω:=ω) h12 g12 hq.n3 ?_)|refine zqr ?_|refine zqb ?_|refine zqi ?_ ?_|refine zqc ?_|refine zqg (λ_=>?_) (λ_=>?_)|refine zqe ?_|fail)
 all_goals (refine hk2 _ ?_;clear hk2 hk hfe hcnt hq h0 h1 h2 h3 h4 h5 h6 h7 h8 h9 h10 h11 h12 g0 g1 g2 g3 g4 g5 g6 g7 g8 g9 g10 g11 g12;first|rfl|(simp only [*,Bool.and_true,Bool.and_false,Bool.false_and,Bool.true_and,Bool.and_self];done)|(simp_all;done))
theorem AEo {a b:TStmt}{c d:List Value}(hq:OkS a)(hc:TStmtV I a c)(hd:TStmtV I b d)(hk:K (.bool (MG a b)) I L):CT ω 31 #[.agg c.toArray,.agg d.toArray] K I L:=by
 obtain ⟨v0,v1,v2,v3,v4,v5,v6,v7,v8,v9,v10,v11,v12,rfl,h0,h1,h2,h3,h4,h5,h6,h7,h8,h9,h10,h11,h12⟩:=hc;obtain ⟨u0,u1,u2,u3,u4,u5,u6,u7,u8,u9,u10,u11,u12,rfl,g0,g1,g2,g3,g4,g5,g6,g7,g8,g9,g10,g11,g12⟩:=hd;obtain ⟨xa0,xk0,rfl⟩:=zAG h0;obtain ⟨xa1,xk1,rfl⟩:=zAG h1;obtain ⟨xa2,xk2,rfl⟩:=zAG h2;obtain ⟨xa3,xk3,rfl⟩:=zAG h3;obtain ⟨xa4,xk4,rfl⟩:=zAG h4;obtain ⟨xa5,xk5,rfl⟩:=zAG h5;obtain ⟨xa6,xk6,rfl⟩:=zAG h6;obtain ⟨xa7,xk7,rfl⟩:=zAG h7;obtain ⟨xa8,xk8,rfl⟩:=zAG h8;obtain ⟨xa9,xk9,rfl⟩:=zAG h9;obtain ⟨xa10,xk10,rfl⟩:=zAG h10;obtain ⟨xa11,xk11,rfl⟩:=zAG h11;obtain ⟨xa12,xk12,rfl⟩:=zAG h12;obtain ⟨ya0,yk0,rfl⟩:=zAG g0;obtain ⟨ya1,yk1,rfl⟩:=zAG g1;obtain ⟨ya2,yk2,rfl⟩:=zAG g2;obtain ⟨ya3,yk3,rfl⟩:=zAG g3;obtain ⟨ya4,yk4,rfl⟩:=zAG g4;obtain ⟨ya5,yk5,rfl⟩:=zAG g5;obtain ⟨ya6,yk6,rfl⟩:=zAG g6;obtain ⟨ya7,yk7,rfl⟩:=zAG g7;obtain ⟨ya8,yk8,rfl⟩:=zAG g8;obtain ⟨ya9,yk9,rfl⟩:=zAG g9;obtain ⟨ya10,yk10,rfl⟩:=zAG g10;obtain ⟨ya11,yk11,rfl⟩:=zAG g11;obtain ⟨ya12,yk12,rfl⟩:=zAG g12;refine AVg ?_;unfold AUL;refine Ac (o:=.cells (stC a (.slice xa0 a.fSelect.fItems.length xk0) (.slice xa1 a.fSelect.fFrom.length xk1) (.slice xa2 a.fSelect.fWhere.args.length xk2) (.slice xa3 a.fSelect.fGroup.length xk3) (.slice xa4 a.fSelect.fHaving.args.length xk4) (.slice xa5 a.fSelect.fOrder.length xk5) (.slice xa6 a.fColumns.length xk6) (.slice xa7 a.fRows.length xk7) (.slice xa8 a.fSets.length xk8) (.slice xa9 a.fWhere.args.length xk9) (.slice xa10 a.fCols.length xk10) (.slice xa11 a.fKey.length xk11) (.slice xa12 a.fIndex.fColumns.length xk12)).toArray 48 (0,0)) (λb1=>?_)
 refine Ac (o:=.cells (stC b (.slice ya0 b.fSelect.fItems.length yk0) (.slice ya1 b.fSelect.fFrom.length yk1) (.slice ya2 b.fSelect.fWhere.args.length yk2) (.slice ya3 b.fSelect.fGroup.length yk3) (.slice ya4 b.fSelect.fHaving.args.length yk4) (.slice ya5 b.fSelect.fOrder.length yk5) (.slice ya6 b.fColumns.length yk6) (.slice ya7 b.fRows.length yk7) (.slice ya8 b.fSets.length yk8) (.slice ya9 b.fWhere.args.length yk9) (.slice ya10 b.fCols.length yk10) (.slice ya11 b.fKey.length yk11) (.slice ya12 b.fIndex.fColumns.length yk12)).toArray 48 (0,0)) (λb2=>?_);refine Em ?_;try refine zqe ?_
 refine AIS (selC a.fSelect (.slice xa0 a.fSelect.fItems.length xk0) (.slice xa1 a.fSelect.fFrom.length xk1) (.slice xa2 a.fSelect.fWhere.args.length xk2) (.slice xa3 a.fSelect.fGroup.length xk3) (.slice xa4 a.fSelect.fHaving.args.length xk4) (.slice xa5 a.fSelect.fOrder.length xk5)) rfl rfl ?_;refine AIS (selC b.fSelect (.slice ya0 b.fSelect.fItems.length yk0) (.slice ya1 b.fSelect.fFrom.length yk1) (.slice ya2 b.fSelect.fWhere.args.length yk2) (.slice ya3 b.fSelect.fGroup.length yk3) (.slice ya4 b.fSelect.fHaving.args.length yk4) (.slice ya5 b.fSelect.fOrder.length yk5)) rfl rfl ?_;refine ⟨?_,?_⟩
 ·refine Ac (λb3=>CS (zAC _) ?_);refine Ac (λb4=>CS (zAC _) ?_);refine stB rfl rfl (Au rfl) (CS (zAC _) ?_);refine stB rfl rfl (Au rfl) ?_;exact AHl hq h0 h1 h2 h3 h4 h5 h6 h7 h8 h9 h10 h11 h12 g0 g1 g2 g3 g4 g5 g6 g7 g8 g9 g10 g11 g12 (zAE L (zAA hk))
 ·refine Ac (λb4=>CS (zAC _) ?_);refine Ac (λb3=>CS (zAC _) ?_);refine stB rfl rfl (Au rfl) (CS (zAC _) ?_);refine stB rfl rfl (Au rfl) ?_;exact AHl hq h0 h1 h2 h3 h4 h5 h6 h7 h8 h9 h10 h11 h12 g0 g1 g2 g3 g4 g5 g6 g7 g8 g9 g10 g11 g12 (zAE L (zAA hk))
def Gf (s:TStmt):Int:=match (readA (BB true s)) with
 |([x],f)=>if f=ok0 then (if MG x s then Kv (FW s) (Pi s) else 177) else 177
 |_=>177
def Uj (s:TStmt):Bs×Int:=if Gf s≠0 then ([],Gf s) else if 65536 < (BB true s).length then ([],170) else (BB true s,0)
end
def wtext:Bs:=[97,110,100,32,97,115,32,97,115,99,32,98,101,103,105,110,32,98,101,116,119,101,101,110,32,98,121,32,99,97,115,101,32,99,111,109,109,105,116,32,99,114,101,97,116,101,32,99,114,111,115,115,32,100,101,102,97,117,108,116,32,100,101,108,101,116,101,32,100,101,115,99,32,100,105,115,116,105,110,99,116,32,100,114,111,112,32,101,108,115,101,32,101,110,100,32,102,97,108,115,101,32,102,114,111,109,32,103,114,111,117,112,32,104,97,118,105,110,103,32,105,110,32,105,110,100,101,120,32,105,110,110,101,114,32,105,110,115,101,114,116,32,105,110,116,111,32,105,115,32,106,111,105,110,32,107,101,121,32,108,101,102,116,32,108,105,107,101,32,108,105,109,105,116,32,110,111,116,32,110,117,108,108,32,111,102,102,115,101,116,32,111,110,32,111,114,32,111,114,100,101,114,32,112,114,105,109,97,114,121,32,114,111,108,108,98,97,99,107,32,115,101,108,101,99,116,32,115,101,116,32,116,97,98,108,101,32,116,104,101,110,32,116,114,117,101,32,117,110,105,113,117,101,32,117,112,100,97,116,101,32,118,97,108,117,101,115,32,119,104,101,110,32,119,104,101,114,101]
def spN (c:UInt8):Int:=if (9≤c&&c≤13)||c==32 then 1 else 0
def SpG (G:Imm):Prop:=∀c:UInt8,Cell G [] 0 c.toNat (.int .u8 (spN c))
def trF:Nat→Int×Int×Int
 |0=>(0,1,0)
 |i+1=>let t:=trF i
  let c:=wtext.getD i 0
  (IntKind.i64.wrap (t.1+Ic .and .i64 t.2.1 (Ic .xor .i64 (if IntKind.i64.signed then -1 else IntKind.i64.max) (IntKind.i64.wrap (spN c)))),IntKind.i64.wrap (spN c),Ic .or .u8 t.2.2 c.toNat)
def WX (k:Nat):Nat:=((wordsL.take k).map λw=>w.length+1).sum
def wiF (i:Nat):Nat:=((wtext.take i).filter λc=>spN c==1).length
theorem APj:(trF wtext.length).1=50∧decide ((trF wtext.length).2.2≥128)=false:=by decide+kernel
theorem AGT:(List.range wtext.length).all (λi=>if spN (wtext.getD i 0)=0 then wiF (i+1)==wiF i else
  decide (wiF i < 49)&&wiF (i+1)==wiF i+1&&decide (WX (wiF i)≤i)&&(wtext.drop (WX (wiF i))).take (i - WX (wiF i))==wordsL.getD (wiF i) []&&i+1==WX (wiF i+1)&&decide (i+1 < wtext.length)&&spN (wtext.getD (i+1) 0)==0)=true:=by decide+kernel
theorem ALb:wiF wtext.length=49∧WX 49 < wtext.length∧wtext.drop (WX 49)=wordsL.getD 49 []:=by decide+kernel
theorem Zx {i:Nat}(h:i < wtext.length):wtext[i]? =some (wtext.getD i 0):=by
 rw [List.getElem?_eq_getElem h];simp [h]
theorem Xq {I:Imm}{X L F:LH}[hsp:SplitL X L F]{T len:Nat}{v u:Value}{cells:List Value}{i:Int}(ho:SlO T 1 X v cells len)(h0:0≤i)(h1:i < len)(hu:u.oneCell'=true):
  ∃b,ixV 1 v (.int .i64 i)=some (.pointer (some ⟨b,i.toNat,none⟩))∧∀K:Value→M,(∀X',SlO T 1 X' v (cells.set i.toNat u) len→K undef I (X'++F))→Sto 1 (.pointer (some ⟨b,i.toNat,none⟩)) u (gh K) I L:=by
 obtain ⟨b,e,_⟩:=ADB (I:=I) (L:=L) (F:=F) (u:=u) (K:=λ_ _ _=>True) ho h0 h1 hu (λ_ _=>trivial);refine ⟨b,e,λK hk=>?_⟩;obtain ⟨b',e',h⟩:=ADB (I:=I) (L:=L) (F:=F) (u:=u) (K:=K) ho h0 h1 hu hk;rw [e] at e';simp only [Option.some.injEq,Value.pointer.injEq,Addr.mk.injEq,and_true] at e';rw [e'];exact h
section
variable {ω:Om}
theorem rdG {G I:Imm}{L:LH}{K:Value→M}(hG:SpG G)(hI:Ext G I)(c:UInt8)(hk:K (.int .u8 (spN c)) I L):Rv none (Aq (.pointer (some ⟨0,c.toNat * 1,none⟩))) K I L:=by
 refine rd1 ?_ hk;have:=(hG c).mono hI (L':=L) (λ_ h=>by cases h);simpa using this
theorem Wj (c:UInt8):Wl 1 256 (.pointer (some ⟨0,0,none⟩)) (.int .u8 c.toNat)=some (.pointer (some ⟨0,c.toNat * 1,none⟩)):=by
 have:=c.toNat_lt;have h2:((c.toNat:Int) < 256):=by omega
 simp [Wl,h2,Addr.add]
theorem Wu {G I:Imm}{L:LH}{K:Value→M}(hG:SpG G)(hGI:Ext G I)(hk:∀X v,SlO 9 1 X v (wordsL.map λx=>Value.string ⟨x.toArray⟩) wordsL.length→K v I (X++L)):CT ω 32 #[.string ⟨wtext.toArray⟩] K I L:=by
 refine AVf ?_;unfold AUK;refine loop (λq st I' L'=>∃i:Nat,i+q=wtext.length∧st=(.int .i64 (trF i).1,.int .i64 (trF i).2.1,.int .u8 (trF i).2.2,.int .i64 i,())∧I'=I∧L'=L) wtext.length ⟨0,by omega,rfl,rfl,rfl⟩ ?_;rintro q st I' L' ⟨i,hq,rfl,rfl,rfl⟩;unfold AHK;try refine zqe ?_
 refine AB (λhb=>?_) (λhb=>?_)
 ·have hb:i < wtext.length:=by
   have:=of_decide_eq_true hb;omega
  simp only [ixS wtext (Zx hb),Wj,SSd,Nat.reduceAdd];refine rdG hG hGI _ ?_;have hwl:wtext.length≤1000:=by decide+kernel
  simp only [ALQ,wrap_i64 ((i:Int)+1) (by omega),SSd,Nat.reduceAdd];exact zAA ⟨q - 1,by omega,i+1,by omega,by rw [trF];rfl,rfl,rfl⟩
 have hb:¬i < wtext.length:=by
  have:=of_decide_eq_false hb;omega
 obtain rfl:i=wtext.length:=by omega
 unfold AHJ;obtain ⟨t1,t2⟩:=APj;simp only [t1,t2,SSd,Nat.reduceAdd];refine AQa (ln:=50) (cn:=50) (by omega) (by omega) (by omega) (λX v hX=>?_);have h0:∃c,wtext[0]? =some c∧spN c=0:=⟨97,rfl,rfl⟩;obtain ⟨c0,hc0,hs0⟩:=h0;refine loop (λq st I2 L2=>st=(.int .i64 0,())∧I2=I'∧L2=X++L') 0 ⟨rfl,rfl,rfl⟩ ?_;rintro _ st I2 L2 ⟨rfl,rfl,rfl⟩;unfold AHI;simp only [show decide ((0:Int) < (wtext.length:Nat))=true from rfl,SSd,Nat.reduceAdd];simp only [ixS wtext hc0 (a:=0),Wj,show (.int .i64 0:Value)= .int .i64 ((0:Nat):Int) from rfl,SSd,Nat.reduceAdd];refine rdG hG hGI _ ?_;simp only [hs0,show ((0:Int) != 0)=false from rfl,SSd,Nat.reduceAdd];unfold AAU;have hwl:wtext.length≤1000:=by decide+kernel
 have hxz:(Builtin.zeroCells #[.string ⟨#[]⟩] 50).toList=(wordsL.take 0).map (λx=>Value.string ⟨x.toArray⟩)++List.replicate (50 - 0) (.string ⟨#[]⟩):=by kernel_rfl
 have hX:SlO 9 1 X v ((wordsL.take 0).map (λx=>Value.string ⟨x.toArray⟩)++List.replicate (50 - 0) (.string ⟨#[]⟩)) 50:=by rw [←hxz];exact hX
 have hw50:wordsL.length=50:=rfl;refine loop (λq st I3 L3=>∃(i:Nat) (X':LH),i+q=wtext.length∧st=(Value.int .i64 (wiF i:Nat),Value.int .i64 (WX (wiF i):Nat),Value.int .i64 (i:Nat),())∧I3=I2∧L3=X'++L'∧wiF i < 50∧WX (wiF i)≤i∧SlO 9 1 X' v ((wordsL.take (wiF i)).map (λx=>Value.string ⟨x.toArray⟩)++List.replicate (50 - wiF i) (.string ⟨#[]⟩)) 50) wtext.length ⟨0,X,by omega,rfl,rfl,rfl,by decide,by decide,hX⟩ ?_;rintro q st I3 L3 ⟨i,X',hq,rfl,rfl,rfl,hk50,hoff,hX'⟩;unfold AHH;try refine zqe ?_
 refine AB (λhb=>?_) (λhb=>?_)
 ·have hb:i < wtext.length:=by
   have:=of_decide_eq_true hb;omega
  have hst:=List.all_eq_true.1 AGT i (List.mem_range.2 hb);simp only [ixS wtext (Zx hb),Wj,SSd,Nat.reduceAdd];refine rdG hG hGI _ ?_;try refine zqe ?_
  refine AB (λhs=>?_) (λhs=>?_)
  ·have hs:spN (wtext.getD i 0)=0:=by simpa using hs
   rw [if_pos hs] at hst;have hst:wiF (i+1)=wiF i:=by simpa using hst
   simp only [wrap_i64 ((i:Int)+1) (by omega),SSd,Nat.reduceAdd];exact zAA ⟨q - 1,by omega,i+1,X',by omega,by rw [hst];rfl,rfl,rfl,by rw [hst];exact hk50,by rw [hst];omega,by rw [hst];exact hX'⟩
  ·have hs:¬spN (wtext.getD i 0)=0:=by simpa using hs
   rw [if_neg hs] at hst;simp only [Bool.and_eq_true,decide_eq_true_eq,beq_iff_eq] at hst;obtain ⟨⟨⟨⟨⟨⟨a1,a2⟩,a3⟩,a4⟩,a5⟩,a6⟩,a7⟩:=hst;simp only [slS wtext a3 (Nat.le_of_lt hb),a4,SSd,Nat.reduceAdd];have hkl:wiF i < wordsL.length:=by omega
   have hgd:wordsL.getD (wiF i) []=wordsL[wiF i]:=by simp [hkl]
   have hset:((wordsL.take (wiF i)).map (λx=>Value.string ⟨x.toArray⟩)++List.replicate (50 - wiF i) (Value.string ⟨#[]⟩)).set (wiF i) (.string ⟨(wordsL.getD (wiF i) []).toArray⟩)=(wordsL.take (wiF i+1)).map (λx=>Value.string ⟨x.toArray⟩)++List.replicate (50 - (wiF i+1)) (.string ⟨#[]⟩):=by
    rw [List.take_succ_eq_append_getElem hkl,List.map_append,hgd];rw [List.set_append_right _ _ (by simp;omega)];have e1:wiF i - ((wordsL.take (wiF i)).map (λx=>Value.string ⟨x.toArray⟩)).length=0:=by simp;omega
    have e2:50 - wiF i=(50 - (wiF i+1))+1:=by omega
    rw [e1,e2,List.replicate_succ,List.set_cons_zero];simp
   obtain ⟨b',g1,g2⟩:=Xq (I:=I3) (L:=X'++L') (F:=L') (u:=.string ⟨(wordsL.getD (wiF i) []).toArray⟩) (i:=(wiF i:Nat)) hX' (by omega) (by omega) rfl;simp only [g1,SSd,Nat.reduceAdd];refine g2 _ (λX5 hX5=>?_);rw [Int.toNat_natCast,hset] at hX5;simp only [wrap_i64 ((i:Int)+1) (by omega),wrap_i64 ((wiF i:Int)+1) (by omega),SSd,Nat.reduceAdd];refine loop (λq' st I6 L6=>st=(Value.int .i64 ((i+1:Nat):Int),())∧I6=I3∧L6=X5++L') 0 ⟨rfl,rfl,rfl⟩ ?_;rintro _ st I6 L6 ⟨rfl,rfl,rfl⟩;unfold AHG;have hlt:decide (((i+1:Nat):Int) < (wtext.length:Nat))=true:=decide_eq_true (by omega);simp only [hlt,ixS wtext (Zx a6),Wj,SSd,Nat.reduceAdd];refine rdG hG hGI _ ?_;simp only [a7,show ((0:Int) != 0)=false from rfl,SSd,Nat.reduceAdd];exact zAA ⟨q - 1,by omega,i+1,X5,by omega,by rw [a2,←a5];rfl,rfl,rfl,by rw [a2];omega,by rw [a2,←a5];omega,by rw [a2];exact hX5⟩
 ·have hb:¬i < wtext.length:=by
   have:=of_decide_eq_false hb;omega
  obtain rfl:i=wtext.length:=by omega
  obtain ⟨l1,l2,l3⟩:=ALb;rw [l1] at hX';unfold ABz;simp only [l1,show decide (((WX 49:Nat):Int) < (wtext.length:Nat))=true from decide_eq_true (by omega),AAL wtext (Nat.le_of_lt l2),l3,SSd,Nat.reduceAdd];obtain ⟨b',g1,g2⟩:=Xq (I:=I3) (L:=X'++L') (F:=L') (u:=.string ⟨(wordsL.getD 49 []).toArray⟩) (i:=((49:Nat):Int)) hX' (by omega) (by omega) rfl;simp only [g1,SSd,Nat.reduceAdd];refine g2 _ (λX5 hX5=>?_);have hset:((wordsL.take 49).map (λx=>Value.string ⟨x.toArray⟩)++List.replicate (50 - 49) (Value.string ⟨#[]⟩)).set ((49:Nat):Int).toNat (.string ⟨(wordsL.getD 49 []).toArray⟩)=wordsL.map (λx=>Value.string ⟨x.toArray⟩):=rfl;rw [hset] at hX5;exact zAA (hk X5 _ hX5)
theorem UX (I:Imm):∀l:List Bs,Recs (StrV I) 1 l (l.map λx=>Value.string ⟨x.toArray⟩)
 |[]=>rfl
 |x::l=>⟨rfl,rfl,UX I l⟩
theorem XU {G I:Imm}{L:LH}{K:Value→M}(hG:SpG G)(hGI:Ext G I)(hk:∀X v,SlO 9 1 X v (wordsL.map λx=>Value.string ⟨x.toArray⟩) wordsL.length→K v I (X++L)):CT ω 19 #[] K I L:=by
 refine AVn ?_;unfold AUS;exact call (Wu hG hGI (λX v hX=>zAA (hk X v hX)))
theorem JX {G:Imm}(hG:SpG G):ABb ω G:=by
 intro K I L hGI hk;refine zAI (XU hG hGI (λX v hX=>?_));exact RL.ofO (R:=StrV) (xs:=wordsL) (λ{I I' x c} h hI=>h) hX (UX I wordsL) (λI6 hI6 hw6=>zAA (hk I6 _ hI6 hw6))
end
section
variable {ω:Om}{G I:Imm}{L F:LH}{K:Value→M}
theorem SH (hG:GN G)(hS:SpG G)(hGI:Ext G I){s:TStmt}(hq:OkS s)(hread:∀x∈(readA (BB true s)).1,OkS x)(hp:FW s≤1000000000){c:List Value}(hc:TStmtV I s c)(hn:(BB true s).length≤900000000)(hk:∀I',Ext I I'→K (.int .i64 (Gf s)) I' L):
  CT ω 17 #[.agg c.toArray] K I L:=by
 have hWd:=JX (ω:=ω) hS;have hTok:=KO hWd;have hcl:=hc.len;refine AVo ?_;unfold AUT;refine Ac (λbs=>?_);refine rdB hcl ?_;refine call (VN hG hWd hGI hq hc (by omega) (λI1 hI1=>?_));refine call (Ur hTok _ hn (zAB hGI hI1) (λI2 a k hI2 hw=>?_));have hI12:=zAB hI1 hI2;have hrd:Gf s=match (readA (BB true s)).1 with
   |[x]=>if (readA (BB true s)).2=ok0 then (if MG x s then Kv (FW s) (Pi s) else 177) else 177
   |_=>177:=by
  unfold Gf;cases hr:readA (BB true s) with
  |mk l f=>cases l with
   |nil=>rfl
   |cons x l=>cases l <;> rfl
 have hcode:=MX (BB true s);generalize (readA (BB true s)).1=xs at *;generalize (readA (BB true s)).2=f at *;have fin:∀(t:Int) (I':Imm) (L':LH),t=Gf s→Ext I2 I'→SubP L L'→Gh (K (.int .i64 t)) I' L':=by
  intro t I' L' ht hI' hs;rw [ht];exact zAE L (zAA (hk I' (zAB hI12 hI')))
 try refine zqe ?_
 refine Ac (λbf=>?_);refine stB rfl rfl (Au rfl) ?_;refine Em ?_;try refine zqe ?_
 refine EO ?_;try refine zqe ?_
 have bad:f≠ok0∨(∀x,xs≠[x])→Gf s=177:=by
  intro h;rw [hrd];match xs,h with
  |[x],h=>simp only;rw [if_neg (h.resolve_right (λhc=>hc x rfl))]
  |[],_=>rfl
  |_::_::_,_=>rfl
 refine DN (λh0=>?_) (λh0=>?_);rotate_left
 ·refine fin _ _ _ (bad (.inl (λe=>?_))).symm (zAC _) (by infer_instance);subst e;simp [ok0] at h0
 have h0:f.code=0:=by simpa using h0
 have hf:f=ok0:=by
  rcases hcode with h|h
  ·exact h
  ·exact absurd h0 h.1
 try refine zqe ?_
 refine DN (λh1=>?_) (λh1=>?_);rotate_left
 ·have h1:xs.length≠1:=by
   have:¬(xs.length:Int)=1:=by simpa using h1
   omega
  exact fin _ _ _ (bad (.inr (λx e=>by rw [e] at h1;simp at h1))).symm (zAC _) (by infer_instance)
 have h1:xs.length=1:=by
  have:(xs.length:Int)=1:=by simpa using h1
  omega
 obtain ⟨x,rfl⟩:∃x,xs=[x]:=by
  match xs,h1 with
  |[x],_=>exact ⟨x,rfl⟩
 obtain ⟨bt,off,c1,g1,gl,g2,g3⟩:=zAS hw (i:=0) (by omega) (by simp);have g2:TStmtV I2 x c1:=g2;simp only [List.length_cons,List.length_nil] at g1;simp only [List.length_cons,List.length_nil,g1,SSd,Nat.reduceAdd];refine AUZ (g3 I2 [] (zAC _) (λ_ h=>h)) (zAC _) gl ?_;refine SK hcl ?_;refine call (AEo (hread x (List.mem_cons_self ..)) g2 (hc.mono hI12) ?_);try refine zqe ?_
 have hrs:Gf s=if MG x s then Kv (FW s) (Pi s) else 177:=by rw [hrd];simp only;rw [if_pos hf]
 cases hsm:MG x s with
 |false=>
  rw [hsm] at hrs;try refine zqe ?_
  exact fin _ _ _ (by rw [hrs];rfl) (zAC _) (by infer_instance)
 |true=>
  rw [hsm] at hrs;try refine zqe ?_
  refine rdB hcl ?_;refine FP (R:=TStmtV) [s] [c] rfl rfl rfl (by simp [hcl]) (by simpa using hc.mono hI12) (λhI h=>h.mono hI) (λI3 a3 hI3 hw3=>zAA ?_);refine call (Ku _ [s] _ _ _ hw3 (by simpa [BD] using hp) (by simpa using hq.cnt) (λI4 hI4=>?_));refine fin _ _ _ ?_ (zAB hI3 hI4) (by infer_instance);rw [hrs];simp [BD,EF]
theorem Ui (hG:GN G)(hS:SpG G)(hGI:Ext G I){s:TStmt}(hq:OkS s)(hread:∀x∈(readA (BB true s)).1,OkS x)(hp:FW s≤1000000000){c:List Value}(hc:TStmtV I s c)(hn:(BB true s).length≤900000000)(hk:∀I',Ext I I'→K (.tuple #[.string ⟨(Uj s).1.toArray⟩,.int .i64 (Uj s).2]) I' L):
  CT ω 16 #[.agg c.toArray] K I L:=by
 have hWd:=JX (ω:=ω) hS;have hcl:=hc.len;refine AVp ?_;unfold AUU;refine Ac (λbs=>?_);refine rdB hcl ?_;refine call (SH hG hS hGI hq hread hp hc hn (λI1 hI1=>?_));unfold Uj at hk;try refine zqe ?_
 refine AB (λh=>?_) (λh=>?_)
 ·have h:Gf s≠0:=by simpa using h
  rw [if_pos h] at hk;exact zAE L (zAA (hk I1 hI1))
 have h:Gf s=0:=by simpa using h
 rw [if_neg (by simp [h])] at hk;try refine zqe ?_
 refine rdB hcl ?_;refine call (VN hG hWd (zAB hGI hI1) hq (hc.mono hI1) (by omega) (λI2 hI2=>?_));try refine zqe ?_
 refine AB (λh=>?_) (λh=>?_)
 ·have h:65536 < (BB true s).length:=by
   have:=of_decide_eq_true h;omega
  rw [if_pos h] at hk;exact zAE L (zAA (hk I2 (zAB hI1 hI2)))
 ·have h:¬65536 < (BB true s).length:=by
   have:=of_decide_eq_false h;omega
  rw [if_neg h] at hk;exact zAE L (zAA (hk I2 (zAB hI1 hI2)))
end
def AUt:Bs:=[83,69,76,69,67,84,32,97,46,98,32,65,83,32,34,88,32,121,34,44,32,99,111,117,110,116,40,42,41,32,70,82,79,77,32,116,32,97,32,87,72,69,82,69,32,78,79,84,32,97,46,98,32,61,32,49,32,79,82,32,99,32,73,83,32,78,79,84,32,78,85,76,76]
def AUs:Bs:=[115,101,108,101,99,116,32,97,32,102,114,111,109,32,116,32,119,104,101,114,101,32,98,32,61,32,99,32,61,32,100]
def AWV:Bs:=[115,101,108,101,99,116,32,97,46,98,32,97,115,32,34,88,32,121,34,44,32,99,111,117,110,116,40,42,41,32,102,114,111,109,32,116,32,97,115,32,97,32,119,104,101,114,101,32,110,111,116,32,97,46,98,32,61,32,49,32,111,114,32,99,32,105,115,32,110,111,116,32,110,117,108,108]
def TV:TStmt:={(default:TStmt) with fKind:=1,fSelect:=⟨false,[⟨false,[],Ec [97] [98],[88,32,121]⟩,⟨false,[],Dw [99,111,117,110,116] false [exK 3 []],[]⟩],[⟨[116],[97],false,ex0⟩],exK 22 [exK 5 [exK 15 [Ec [97] [98],Et ⟨1,false,1,[]⟩]],exK 7 [Ec [] [99]]],[],ex0,[], -1,0⟩}
theorem AUr:Bi AUt=([TV],ok0):=by kernel_rfl
theorem AUq:(Bi AUs).2=⟨174,28⟩:=by decide+kernel
theorem AUp:(readA (BB true TV)).1=[TV]:=by kernel_rfl
theorem AWU:Gf TV=0:=by decide+kernel
theorem AWT:Uj TV=(AWV,0):=by decide+kernel
theorem AAs:okE ex0:=by simp [okE,okL,okI,ex0,v0]
theorem AJh:OkS TV:=by
 refine ⟨⟨?_,?_,?_,?_,AAs,nofun,by unfold okI;decide,by unfold okI;decide,by decide⟩,AAs,nofun,nofun,nofun,by decide,by decide,by decide,by decide⟩
 ·intro x hx;simp only [TV,List.mem_cons,List.not_mem_nil,or_false] at hx;rcases hx with rfl|rfl <;> simp [okE,okL,okI,Ec,Dw,exK,v0]
 ·intro x hx;simp only [TV,List.mem_cons,List.not_mem_nil,or_false] at hx;subst hx;exact AAs
 ·simp [TV,okE,okL,okI,Ec,exK,Et,v0]
 ·trivial
section
variable {ω:Om}{G I:Imm}{L F:LH}{K:Value→M}
theorem AAR (hG:GN G)(hS:SpG G)(hGI:Ext G I)(hk:∀I',Ext I I'→K (.bool true) I' L):CT ω 10 #[] K I L:=by
 have hTok:=KO (JX (ω:=ω) hS);refine AVs ?_;unfold AUY;refine call (Jm hTok Ku AUt hGI (λI1 a k hI1 hw=>?_));rw [AUr] at hw ⊢;simp only [List.length_cons,List.length_nil,Nat.zero_add,show ok0.code=0 from rfl,show ((ok0.at':Int))=0 from rfl,SSd,Nat.reduceAdd];refine Ac (λbf=>?_);refine stB rfl rfl (Au rfl) ?_;try refine zqe ?_
 refine rdb ?_;simp only [show ((0:Int) != 0)=false from rfl,show (((1:Nat):Int) != 1)=false from rfl,SSd,Nat.reduceAdd];obtain ⟨bt,off,c1,g1,gl,g2,g3⟩:=zAS hw (i:=0) (by omega) (by simp);have g2:TStmtV I1 TV c1:=g2;simp only [List.length_cons,List.length_nil,Nat.zero_add] at g1;simp only [g1,SSd,Nat.reduceAdd];refine FK (g3 I1 [] (zAC _) (λ_ h=>h)) (zAC _) gl ?_;have hread:∀x∈(readA (BB true TV)).1,OkS x:=by
  rw [AUp];intro x hx;rw [List.mem_singleton.1 hx];exact AJh
 refine call (Ui hG hS (zAB hGI hI1) AJh hread (by decide) g2 (by decide) (λI2 hI2=>?_));rw [AWT];simp only [g1,SSd,Nat.reduceAdd];have hI12:=zAB hI1 hI2;refine FK (g3 I2 [] hI2 (λ_ h=>h)) (zAC _) gl ?_;refine call (SH hG hS (zAB hGI hI12) AJh hread (by decide) (g2.mono hI2) (by decide) (λI3 hI3=>?_));rw [AWU];refine call (Jm hTok Ku AUs (zAB hGI (zAB hI12 hI3)) (λI4 a4 k4 hI4 hw4=>?_));rw [AUq];try refine zqe ?_
 refine Ac (λbh=>?_);refine stB rfl rfl (Au rfl) ?_;simp only [show ((0:Int)==0)=true from rfl,SSd,Nat.reduceAdd];refine DN (λ_=>?_) (λh=>absurd (by decide+kernel) h);refine rdB rfl ?_;simp only [Vf,SSd,Nat.reduceAdd];exact zAE L (zAA (hk I4 (zAB hI12 (zAB hI3 hI4))))
theorem IM {u v:Value}{xs ys:List Bs}(hx:RL StrV 1 I L u xs)(hy:RL StrV 1 I L v ys)(hl:xs.length≤1000000000000)(hk:K (.bool (eqL eqB xs ys)) I L):CT ω 20 #[u,v] K I L:=by
 refine AVm ?_;unfold AUR;simp only [zAM hx,zAM hy,SSd,Nat.reduceAdd];refine AB (λh=>?_) (λh=>?_)
 ·have h:xs.length≠ys.length:=by
   have:¬(xs.length:Int)=ys.length:=by simpa using h
   omega
  rw [Gu h] at hk;exact zAA hk
 have h:xs.length=ys.length:=by
  have:(xs.length:Int)=ys.length:=by simpa using h
  omega
 refine loop (λq st I' L'=>∃k:Nat,k+q=xs.length∧st=(Value.bool false,Value.int .i64 (k:Nat),())∧I'=I∧L'=L∧eqL eqB xs ys=eqL eqB (xs.drop k) (ys.drop k)) xs.length ⟨0,by omega,rfl,rfl,rfl,rfl⟩ ?_;rintro q st I' L' ⟨k,hq,rfl,rfl,rfl,he⟩;unfold AHR;simp only [zAM hx,SSd,Nat.reduceAdd];refine AB (λhb=>?_) (λhb=>?_)
 ·have hb:k < xs.length:=by
   have:=of_decide_eq_true hb;omega
  have hb2:k < ys.length:=by omega
  obtain ⟨bt,off,c1,g1,gl,g2,g3⟩:=zAS hx (i:=k) (by omega) (by omega);obtain ⟨bu,off2,c2,k1,kl,k2,k3⟩:=zAS hy (i:=k) (by omega) (by omega);rw [Af hb] at g2;rw [Af hb2] at k2;obtain rfl:=g2;obtain rfl:=k2;rw [List.drop_eq_getElem_cons hb,List.drop_eq_getElem_cons hb2] at he;simp only [eqL] at he;refine draw (Stay I' L') (Stay.start I' L') ?_;simp only [g1,k1,SSd,Nat.reduceAdd];refine JB (g3 I' L' (zAC _) (λ_ h=>h) 0 _ rfl) ?_;refine JB (k3 I' L' (zAC _) (λ_ h=>h) 0 _ rfl) ?_;simp only [sNe,SSd,Nat.reduceAdd];refine AB (λh0=>?_) (λh0=>?_)
  ·have h0:eqB xs[k] ys[k]=false:=by simpa [eqB] using h0
   rw [he,h0] at hk;exact zAA hk
  ·have h0:eqB xs[k] ys[k]=true:=by simpa [eqB] using h0
   simp only [wrap_i64 ((k:Int)+1) (by omega),SSd,Nat.reduceAdd];exact zAA ⟨q - 1,by omega,k+1,by omega,rfl,rfl,rfl,by rw [he,h0,Bool.true_and]⟩
 ·have hb:¬k < xs.length:=by
   have:=of_decide_eq_false hb;omega
  rw [he,IA (List.drop_eq_nil_of_le (by omega)) (List.drop_eq_nil_of_le (by omega))] at hk;exact zAA hk
theorem Yn {α:Type}{f:α→α→Bool}(hf:∀x,f x x=true):∀l:List α,eqL f l l=true
 |[]=>rfl
 |x::l=>by simp only [eqL,hf,Yn hf l,Bool.and_self]
theorem AJm (x:Bs):eqB x x=true:=by simp [eqB]
end
section
variable {ω:Om}{I:Imm}{L:LH}{K:Value→M}
theorem AAD (a c:Int)(t:Bool)(s:ByteArray):Ig .neq [(TypeDesc.int .i64,0),(TypeDesc.bool,1),(TypeDesc.int .i64,2),(TypeDesc.string,3)] (.agg #[.int .i64 a,.bool t,.int .i64 c,.string s]) (.agg #[.int .i64 a,.bool t,.int .i64 c,.string s])=some (.bool false):=by
 simp [Ig,MO,eqD]
theorem KW {l:List Ex}{u v:Value}(hE:∀x∈l,∀(I:Imm) (L:LH) (c d:List Value) (K:Value→M),ExV I x c→ExV I x d→K (.bool true) I L→CT ω 49 #[.agg c.toArray,.agg d.toArray] K I L)(hx:ExL I u l)(hy:ExL I v l)(hl:l.length≤1000000000000)(hk:K (.bool true) I L):CT ω 50 #[u,v] K I L:=by
 refine AVW ?_;unfold AUC;simp only [zAM hx,zAM hy,bne_self_eq_false,SSd,Nat.reduceAdd];refine loop (λq st I' L'=>∃k:Nat,k+q=l.length∧st=(Value.bool false,Value.int .i64 (k:Nat),())∧I'=I∧L'=L) l.length ⟨0,by omega,rfl,rfl,rfl⟩ ?_;rintro q st I' L' ⟨k,hq,rfl,rfl,rfl⟩;unfold AHA;simp only [zAM hx,SSd,Nat.reduceAdd];refine AB (λhb=>?_) (λhb=>zAA hk);have hb:k < l.length:=by
  have:=of_decide_eq_true hb;omega
 obtain ⟨bt,off,c1,g1,gl,g2,g3⟩:=zAS hx (i:=k) (by omega) (by omega);obtain ⟨bu,off2,c2,k1,kl,k2,k3⟩:=zAS hy (i:=k) (by omega) (by omega);rw [Af hb] at g2 k2;refine draw (Stay I' L') (Stay.start I' L') ?_;simp only [g1,k1,SSd,Nat.reduceAdd];refine Oe gl (g3 I' L' (zAC _) (λ_ h=>nomatch h)) ?_;refine Oe kl (k3 I' L' (zAC _) (λ_ h=>nomatch h)) ?_;refine call (hE _ (List.getElem_mem hb) _ _ _ _ _ g2 k2 ?_);simp only [Bool.not_true,wrap_i64 ((k:Int)+1) (by omega),SSd,Nat.reduceAdd];exact zAA ⟨q - 1,by omega,k+1,by omega,rfl,rfl,rfl⟩
theorem DX:∀(n:Nat) (x:Ex),Dl x≤n→Aa x≤1000000000000→∀(I:Imm) (L:LH) (c d:List Value) (K:Value→M),ExV I x c→ExV I x d→K (.bool true) I L→CT ω 49 #[.agg c.toArray,.agg d.toArray] K I L
 |0,x,h,_,_,_,_,_,_,_,_,_=>by have:=Fh x;omega
 |n+1,x,hd,hp,I,L,c,d,K,hx,hy,hk=>by
  obtain ⟨v,rfl,ha⟩:=ExV.iff.1 hx;obtain ⟨u,rfl,hb⟩:=ExV.iff.1 hy;have hdd:=EL x;have hpp:AZ x.args < Aa x:=by cases x;simp [Aa,Ex.args]
  have hll:=Ou x.args;have hE:∀z∈x.args,∀(I:Imm) (L:LH) (c d:List Value) (K:Value→M),ExV I z c→ExV I z d→K (.bool true) I L→CT ω 49 #[.agg c.toArray,.agg d.toArray] K I L:=by
   intro z hz I L c d K hc hd' hk;have:=FN hz;have hq:=Ol hz;exact DX n z (by omega) (by omega) I L c d K hc hd' hk
  refine AVX ?_;unfold AUD;refine Ac (λb1=>Ac (λb2=>?_));repeat' (first|refine zqa ?_|refine zqh (λ_=>?_)|((with_reducible refine call ?_);with_reducible refine KW (ω:=ω) hE ha hb (by omega) ?_)|refine zqr ?_|refine zqb ?_|refine zqi ?_ ?_|refine zqc ?_|refine zqg (λ_=>?_) (λ_=>?_)|(simp only [SSd,Nat.reduceAdd,AAD,bne_self_eq_false,zAM ha,zAM hb]))
  exact zAE L (zAA hk)
end
section
variable {ω:Om}{I:Imm}{L:LH}{K:Value→M}
theorem AIM {q:TSelect}{v u:Value}{b1 b2:Nat}{l1 l2:List Value}{T1 T2:Nat}{f1 f2:Nat×Nat}[InL b1 L (.cells l1.toArray T1 f1)][InL b2 L (.cells l2.toArray T2 f2)][GetL l1 26 v][GetL l2 26 u](hq:∀x∈q.fOrder,Aa x.fExpr≤1000000000000)(hl:q.fOrder.length≤1000000000)(hx:RL TOrderV 12 I [] v q.fOrder)(hy:RL TOrderV 12 I [] u q.fOrder)(hk:Gh (K (.bool true)) I L):Vr ω (.pointer (some ⟨b1,0,none⟩)) (.pointer (some ⟨b2,0,none⟩)) (.bool false) (λv=>Gh (K v)) I L:=by
 unfold Vr;refine loop (λq' st I' L'=>∃k:Nat,k+q'=q.fOrder.length∧st=(Value.bool false,Value.int .i64 (k:Nat),())∧I'=I∧L'=L) q.fOrder.length ⟨0,by omega,rfl,rfl,rfl⟩ ?_;rintro q' st I' L' ⟨k,hkq,rfl,rfl,rfl⟩;unfold ABx;try refine zqe ?_
 refine rdb ?_;simp only [zAM hx,SSd,Nat.reduceAdd];refine AB (λhb=>?_) (λhb=>hk);have hb:k < q.fOrder.length:=by
  have:=of_decide_eq_true hb;omega
 obtain ⟨bt,off,c1,e1,gl,g2,g3⟩:=zAS hx (i:=k) (by omega) (by omega);obtain ⟨bu,off2,c2,k1,kl,k2,k3⟩:=zAS hy (i:=k) (by omega) (by omega);rw [Af hb] at g2 k2;obtain ⟨w,rfl,hw⟩:=g2;obtain ⟨z,rfl,hz⟩:=k2;have hp:=hq _ (List.getElem_mem hb);generalize q.fOrder[k]=x at *;have hA:=g3 I' L' (zAC _) nofun;have hB:=k3 I' L' (zAC _) nofun;clear g3 k3 gl kl;have en1:(Ak x.fExpr w).length=11:=rfl;have en2:(Ak x.fExpr z).length=11:=rfl;have xA:Cells I' L' bt (off) (Ak x.fExpr w):=Cells.sub (k:=0) (m:=11) hA;have yA11:Cell I' L' bt (off+11) (.bool x.fDesc):=hA 11 _ rfl;have xB:Cells I' L' bu (off2) (Ak x.fExpr z):=Cells.sub (k:=0) (m:=11) hB;have yB11:Cell I' L' bu (off2+11) (.bool x.fDesc):=hB 11 _ rfl;repeat' (first|(with_reducible first|refine Em ?_|refine Oz ?_|refine Oy ?_|refine keepA ?_|refine Ac (λ_=>?_)|refine Oe en1 xA ?_|refine Oe en2 xB ?_|refine JB yA11 ?_|refine JB yB11 ?_)|((with_reducible refine call ?_);with_reducible refine DX (ω:=ω) _ x.fExpr (Nat.le_refl _) hp _ _ _ _ _ (ExV.iff.2 ⟨w,rfl,hw⟩) (ExV.iff.2 ⟨z,rfl,hz⟩) ?_)|refine zqr ?_|refine zqb ?_|refine zqi ?_ ?_|refine zqc ?_|refine zqg (λ_=>?_) (λ_=>?_)|(simp only [SSd,Nat.reduceAdd,e1,k1,bne_self_eq_false]))
 simp only [wrap_i64 ((k:Int)+1) (by omega)];exact zAA ⟨q' - 1,by omega,k+1,by omega,rfl,rfl,rfl⟩
theorem AEy {q:TSelect}{v u:Value}{b1 b2:Nat}{l1 l2:List Value}{T1 T2:Nat}{f1 f2:Nat×Nat}[InL b1 L (.cells l1.toArray T1 f1)][InL b2 L (.cells l2.toArray T2 f2)][GetL l1 2 v][GetL l2 2 u](hq:∀x∈q.fFrom,Aa x.fOn≤1000000000000)(hl:q.fFrom.length≤1000000000)(hx:RL TSourceV 14 I [] v q.fFrom)(hy:RL TSourceV 14 I [] u q.fFrom)(hk:Vr ω (.pointer (some ⟨b1,0,none⟩)) (.pointer (some ⟨b2,0,none⟩)) (.bool false) (λv=>Gh (K v)) I L):Vs ω (.pointer (some ⟨b1,0,none⟩)) (.pointer (some ⟨b2,0,none⟩)) (.bool false) (λv=>Gh (K v)) I L:=by
 unfold Vs;refine loop (λq' st I' L'=>∃k:Nat,k+q'=q.fFrom.length∧st=(Value.bool false,Value.int .i64 (k:Nat),())∧I'=I∧L'=L) q.fFrom.length ⟨0,by omega,rfl,rfl,rfl⟩ ?_;rintro q' st I' L' ⟨k,hkq,rfl,rfl,rfl⟩;unfold AHB;try refine zqe ?_
 refine rdb ?_;simp only [zAM hx,SSd,Nat.reduceAdd];refine AB (λhb=>?_) (λhb=>hk);have hb:k < q.fFrom.length:=by
  have:=of_decide_eq_true hb;omega
 obtain ⟨bt,off,c1,e1,gl,g2,g3⟩:=zAS hx (i:=k) (by omega) (by omega);obtain ⟨bu,off2,c2,k1,kl,k2,k3⟩:=zAS hy (i:=k) (by omega) (by omega);rw [Af hb] at g2 k2;obtain ⟨w,rfl,hw⟩:=g2;obtain ⟨z,rfl,hz⟩:=k2;have hp:=hq _ (List.getElem_mem hb);generalize q.fFrom[k]=x at *;have hA:=g3 I' L' (zAC _) nofun;have hB:=k3 I' L' (zAC _) nofun;clear g3 k3 gl kl;have en1:(Ak x.fOn w).length=11:=rfl;have en2:(Ak x.fOn z).length=11:=rfl;have xA:Cells I' L' bt (off+3) (Ak x.fOn w):=Cells.sub (k:=3) (m:=11) hA;have yA0:Cell I' L' bt (off) (.string ⟨x.fTable.toArray⟩):=hA 0 _ rfl;have yA1:Cell I' L' bt (off+1) (.string ⟨x.fAs.toArray⟩):=hA 1 _ rfl;have yA2:Cell I' L' bt (off+2) (.bool x.fLeft):=hA 2 _ rfl;have xB:Cells I' L' bu (off2+3) (Ak x.fOn z):=Cells.sub (k:=3) (m:=11) hB;have yB0:Cell I' L' bu (off2) (.string ⟨x.fTable.toArray⟩):=hB 0 _ rfl;have yB1:Cell I' L' bu (off2+1) (.string ⟨x.fAs.toArray⟩):=hB 1 _ rfl;have yB2:Cell I' L' bu (off2+2) (.bool x.fLeft):=hB 2 _ rfl;repeat' (first|(with_reducible first|refine Em ?_|refine Oz ?_|refine Oy ?_|refine keepA ?_|refine Ac (λ_=>?_)|refine Oe en1 xA ?_|refine Oe en2 xB ?_|refine JB yA0 ?_|refine JB yB0 ?_|refine JB yA1 ?_|refine JB yB1 ?_|refine JB yA2 ?_|refine JB yB2 ?_)|((with_reducible refine call ?_);with_reducible refine DX (ω:=ω) _ x.fOn (Nat.le_refl _) hp _ _ _ _ _ (ExV.iff.2 ⟨w,rfl,hw⟩) (ExV.iff.2 ⟨z,rfl,hz⟩) ?_)|refine zqr ?_|refine zqb ?_|refine zqi ?_ ?_|refine zqc ?_|refine zqg (λ_=>?_) (λ_=>?_)|(simp only [SSd,Nat.reduceAdd,e1,k1,bne_self_eq_false]))
 simp only [wrap_i64 ((k:Int)+1) (by omega)];exact zAA ⟨q' - 1,by omega,k+1,by omega,rfl,rfl,rfl⟩
theorem AAZ {q:TSelect}{v u:Value}{b1 b2:Nat}{l1 l2:List Value}{T1 T2:Nat}{f1 f2:Nat×Nat}[InL b1 L (.cells l1.toArray T1 f1)][InL b2 L (.cells l2.toArray T2 f2)][GetL l1 1 v][GetL l2 1 u](hq:∀x∈q.fItems,Aa x.fExpr≤1000000000000)(hl:q.fItems.length≤1000000000)(hx:RL TItemV 14 I [] v q.fItems)(hy:RL TItemV 14 I [] u q.fItems)(hk:Vs ω (.pointer (some ⟨b1,0,none⟩)) (.pointer (some ⟨b2,0,none⟩)) (.bool false) (λv=>Gh (K v)) I L):Am ((.bool false,.int .i64 0,()):Value×Value×Unit) (λs Kn=>AAT ω (.pointer (some ⟨b1,0,none⟩)) (.pointer (some ⟨b2,0,none⟩)) s.1 s.2.1 Kn (λv=>Gh (K v))) I L:=by
 refine loop (λq' st I' L'=>∃k:Nat,k+q'=q.fItems.length∧st=(Value.bool false,Value.int .i64 (k:Nat),())∧I'=I∧L'=L) q.fItems.length ⟨0,by omega,rfl,rfl,rfl⟩ ?_;rintro q' st I' L' ⟨k,hkq,rfl,rfl,rfl⟩;unfold AAT;try refine zqe ?_
 refine rdb ?_;simp only [zAM hx,SSd,Nat.reduceAdd];refine AB (λhb=>?_) (λhb=>hk);have hb:k < q.fItems.length:=by
  have:=of_decide_eq_true hb;omega
 obtain ⟨bt,off,c1,e1,gl,g2,g3⟩:=zAS hx (i:=k) (by omega) (by omega);obtain ⟨bu,off2,c2,k1,kl,k2,k3⟩:=zAS hy (i:=k) (by omega) (by omega);rw [Af hb] at g2 k2;obtain ⟨w,rfl,hw⟩:=g2;obtain ⟨z,rfl,hz⟩:=k2;have hp:=hq _ (List.getElem_mem hb);generalize q.fItems[k]=x at *;have hA:=g3 I' L' (zAC _) nofun;have hB:=k3 I' L' (zAC _) nofun;clear g3 k3 gl kl;have en1:(Ak x.fExpr w).length=11:=rfl;have en2:(Ak x.fExpr z).length=11:=rfl;have xA:Cells I' L' bt (off+2) (Ak x.fExpr w):=Cells.sub (k:=2) (m:=11) hA;have yA0:Cell I' L' bt (off) (.bool x.fStar):=hA 0 _ rfl;have yA1:Cell I' L' bt (off+1) (.string ⟨x.fTable.toArray⟩):=hA 1 _ rfl;have yA13:Cell I' L' bt (off+13) (.string ⟨x.fAs.toArray⟩):=hA 13 _ rfl;have xB:Cells I' L' bu (off2+2) (Ak x.fExpr z):=Cells.sub (k:=2) (m:=11) hB;have yB0:Cell I' L' bu (off2) (.bool x.fStar):=hB 0 _ rfl;have yB1:Cell I' L' bu (off2+1) (.string ⟨x.fTable.toArray⟩):=hB 1 _ rfl;have yB13:Cell I' L' bu (off2+13) (.string ⟨x.fAs.toArray⟩):=hB 13 _ rfl;repeat' (first|(with_reducible first|refine Em ?_|refine Oz ?_|refine Oy ?_|refine keepA ?_|refine Ac (λ_=>?_)|refine Oe en1 xA ?_|refine Oe en2 xB ?_|refine JB yA0 ?_|refine JB yB0 ?_|refine JB yA1 ?_|refine JB yB1 ?_|refine JB yA13 ?_|refine JB yB13 ?_)|((with_reducible refine call ?_);with_reducible refine DX (ω:=ω) _ x.fExpr (Nat.le_refl _) hp _ _ _ _ _ (ExV.iff.2 ⟨w,rfl,hw⟩) (ExV.iff.2 ⟨z,rfl,hz⟩) ?_)|refine zqr ?_|refine zqb ?_|refine zqi ?_ ?_|refine zqc ?_|refine zqg (λ_=>?_) (λ_=>?_)|(simp only [SSd,Nat.reduceAdd,e1,k1,bne_self_eq_false]))
 simp only [wrap_i64 ((k:Int)+1) (by omega)];exact zAA ⟨q' - 1,by omega,k+1,by omega,rfl,rfl,rfl⟩
theorem AEx {q:TSelect}{N:Nat}(hN:N≤1000000000)(hq:GdQ N q)(hc:cQ q≤1000000000){c d:List Value}(hx:CE I q c)(hy:CE I q d)(hk:K (.bool true) I L):CT ω 48 #[.agg c.toArray,.agg d.toArray] K I L:=by
 obtain ⟨v0,v1,v2,v3,v4,v5,rfl,h0,h1,h2,h3,h4,h5⟩:=hx;obtain ⟨u0,u1,u2,u3,u4,u5,rfl,g0,g1,g2,g3,g4,g5⟩:=hy;have p:∀{x:Ex},GE N x→Aa x≤1000000000000:=λh=>by have:=h.2;omega
 have hgr:∀x∈q.fGroup,∀(I:Imm) (L:LH) (c d:List Value) (K:Value→M),ExV I x c→ExV I x d→K (.bool true) I L→CT ω 49 #[.agg c.toArray,.agg d.toArray] K I L:=λx hx=>DX _ _ (Nat.le_refl _) (p (hq.gr x hx));have hw1:=p hq.wh;have hw2:=p hq.ha;unfold cQ at hc;refine AVY ?_;unfold AUE;refine Ac (λb1=>Ac (λb2=>?_));repeat' (first|refine zqa ?_|refine zqh (λ_=>?_)|((with_reducible refine call ?_);with_reducible refine DX (ω:=ω) _ q.fWhere (Nat.le_refl _) hw1 _ _ _ _ _ (ExV.iff.2 ⟨v2,rfl,h2⟩) (ExV.iff.2 ⟨u2,rfl,g2⟩) ?_)|((with_reducible refine call ?_);with_reducible refine DX (ω:=ω) _ q.fHaving (Nat.le_refl _) hw2 _ _ _ _ _ (ExV.iff.2 ⟨v4,rfl,h4⟩) (ExV.iff.2 ⟨u4,rfl,g4⟩) ?_)|((with_reducible refine call ?_);with_reducible refine KW (ω:=ω) hgr h3 g3 (by omega) ?_)|refine zqr ?_|refine zqb ?_|refine zqi ?_ ?_|refine zqc ?_|refine zqg (λ_=>?_) (λ_=>?_)|(simp only [SSd,Nat.reduceAdd,bne_self_eq_false,zAM h0,zAM g0,zAM h1,zAM g1,zAM h5,zAM g5]))
 refine AAZ (λx hx=>p (hq.it x hx)) (by omega) h0 g0 ?_;refine AEy (λx hx=>p (hq.fr x hx)) (by omega) h1 g1 ?_;refine AIM (λx hx=>p (hq.od x hx)) (by omega) h5 g5 ?_;exact zAE L (zAA hk)
end
section
variable {ω:Om}{I:Imm}{L:LH}{K:Value→M}
theorem AAd {q:TStmt}{v u:Value}{b1 b2:Nat}{l1 l2:List Value}{T1 T2:Nat}{f1 f2:Nat×Nat}[InL b1 L (.cells l1.toArray T1 f1)][InL b2 L (.cells l2.toArray T2 f2)][GetL l1 45 v][GetL l2 45 u](hq:∀x∈q.fCols,Aa x.fDefault≤1000000000000)(hl:q.fCols.length≤1000000000)(hx:RL TColV 16 I [] v q.fCols)(hy:RL TColV 16 I [] u q.fCols)(hk:Gh (K (.bool true)) I L):QK ω (.pointer (some ⟨b1,0,none⟩)) (.pointer (some ⟨b2,0,none⟩)) (.bool false) (λv=>Gh (K v)) I L:=by
 unfold QK;refine loop (λq' st I' L'=>∃k:Nat,k+q'=q.fCols.length∧st=(Value.bool false,Value.int .i64 (k:Nat),())∧I'=I∧L'=L) q.fCols.length ⟨0,by omega,rfl,rfl,rfl⟩ ?_;rintro q' st I' L' ⟨k,hkq,rfl,rfl,rfl⟩;unfold ACA;try refine zqe ?_
 refine rdb ?_;simp only [zAM hx,SSd,Nat.reduceAdd];refine AB (λhb=>?_) (λhb=>hk);have hb:k < q.fCols.length:=by
  have:=of_decide_eq_true hb;omega
 obtain ⟨bt,off,c1,e1,gl,g2,g3⟩:=zAS hx (i:=k) (by omega) (by omega);obtain ⟨bu,off2,c2,k1,kl,k2,k3⟩:=zAS hy (i:=k) (by omega) (by omega);rw [Af hb] at g2 k2;obtain ⟨w,rfl,hw⟩:=g2;obtain ⟨z,rfl,hz⟩:=k2;have hp:=hq _ (List.getElem_mem hb);generalize q.fCols[k]=x at *;obtain ⟨wa,wk,rfl⟩:=zAG hw;obtain ⟨za,zk,rfl⟩:=zAG hz;try refine zqe ?_
 refine rdb ?_;simp only [e1,SSd,Nat.reduceAdd];refine rdN gl (g3 I' L' (zAC _) nofun) ?_;refine Ac (λbx=>?_);refine stB rfl rfl (Au rfl) ?_;try refine zqe ?_
 refine rdb ?_;simp only [k1,SSd,Nat.reduceAdd];refine rdN kl (k3 I' _ (zAC _) nofun) ?_;refine Ac (λby'=>?_);refine stB rfl rfl (Au rfl) ?_;clear g3 k3 gl kl;repeat' (first|refine zqa ?_|refine zqh (λ_=>?_)|((with_reducible refine call ?_);with_reducible refine DX (ω:=ω) _ x.fDefault (Nat.le_refl _) hp _ _ _ _ _ (ExV.iff.2 ⟨.slice wa x.fDefault.args.length wk,rfl,hw⟩) (ExV.iff.2 ⟨.slice za x.fDefault.args.length zk,rfl,hz⟩) ?_)|refine zqr ?_|refine zqb ?_|refine zqi ?_ ?_|refine zqc ?_|refine zqg (λ_=>?_) (λ_=>?_)|(simp only [SSd,Nat.reduceAdd,bne_self_eq_false]))
 simp only [wrap_i64 ((k:Int)+1) (by omega)];exact zAE L' (zAA ⟨q' - 1,by omega,k+1,by omega,rfl,rfl,rfl⟩)
theorem AAb {q:TStmt}{v u:Value}{b1 b2:Nat}{l1 l2:List Value}{T1 T2:Nat}{f1 f2:Nat×Nat}[InL b1 L (.cells l1.toArray T1 f1)][InL b2 L (.cells l2.toArray T2 f2)][GetL l1 33 v][GetL l2 33 u](hq:∀x∈q.fSets,Aa x.fExpr≤1000000000000)(hl:q.fSets.length≤1000000000)(hx:RL TSetV 12 I [] v q.fSets)(hy:RL TSetV 12 I [] u q.fSets)(hk:QK ω (.pointer (some ⟨b1,0,none⟩)) (.pointer (some ⟨b2,0,none⟩)) (.bool false) (λv=>Gh (K v)) I L):Vu ω (.pointer (some ⟨b1,0,none⟩)) (.pointer (some ⟨b2,0,none⟩)) (.bool false) (λv=>Gh (K v)) I L:=by
 unfold Vu;refine loop (λq' st I' L'=>∃k:Nat,k+q'=q.fSets.length∧st=(Value.bool false,Value.int .i64 (k:Nat),())∧I'=I∧L'=L) q.fSets.length ⟨0,by omega,rfl,rfl,rfl⟩ ?_;rintro q' st I' L' ⟨k,hkq,rfl,rfl,rfl⟩;unfold AHL;try refine zqe ?_
 refine rdb ?_;simp only [zAM hx,SSd,Nat.reduceAdd];refine AB (λhb=>?_) (λhb=>hk);have hb:k < q.fSets.length:=by
  have:=of_decide_eq_true hb;omega
 obtain ⟨bt,off,c1,e1,gl,g2,g3⟩:=zAS hx (i:=k) (by omega) (by omega);obtain ⟨bu,off2,c2,k1,kl,k2,k3⟩:=zAS hy (i:=k) (by omega) (by omega);rw [Af hb] at g2 k2;obtain ⟨w,rfl,hw⟩:=g2;obtain ⟨z,rfl,hz⟩:=k2;have hp:=hq _ (List.getElem_mem hb);generalize q.fSets[k]=x at *;have hA:=g3 I' L' (zAC _) nofun;have hB:=k3 I' L' (zAC _) nofun;clear g3 k3 gl kl;have en1:(Ak x.fExpr w).length=11:=rfl;have en2:(Ak x.fExpr z).length=11:=rfl;have xA:Cells I' L' bt (off+1) (Ak x.fExpr w):=Cells.sub (k:=1) (m:=11) hA;have yA0:Cell I' L' bt (off) (.string ⟨x.fColumn.toArray⟩):=hA 0 _ rfl;have xB:Cells I' L' bu (off2+1) (Ak x.fExpr z):=Cells.sub (k:=1) (m:=11) hB;have yB0:Cell I' L' bu (off2) (.string ⟨x.fColumn.toArray⟩):=hB 0 _ rfl;repeat' (first|(with_reducible first|refine Em ?_|refine Oz ?_|refine Oy ?_|refine keepA ?_|refine Ac (λ_=>?_)|refine Oe en1 xA ?_|refine Oe en2 xB ?_|refine JB yA0 ?_|refine JB yB0 ?_)|((with_reducible refine call ?_);with_reducible refine DX (ω:=ω) _ x.fExpr (Nat.le_refl _) hp _ _ _ _ _ (ExV.iff.2 ⟨w,rfl,hw⟩) (ExV.iff.2 ⟨z,rfl,hz⟩) ?_)|refine zqr ?_|refine zqb ?_|refine zqi ?_ ?_|refine zqc ?_|refine zqg (λ_=>?_) (λ_=>?_)|(simp only [SSd,Nat.reduceAdd,e1,k1,bne_self_eq_false]))
 simp only [wrap_i64 ((k:Int)+1) (by omega)];exact zAA ⟨q' - 1,by omega,k+1,by omega,rfl,rfl,rfl⟩
theorem AAc {q:TStmt}{v u:Value}{b1 b2:Nat}{l1 l2:List Value}{T1 T2:Nat}{f1 f2:Nat×Nat}[InL b1 L (.cells l1.toArray T1 f1)][InL b2 L (.cells l2.toArray T2 f2)][GetL l1 32 v][GetL l2 32 u](hq:∀x∈q.fRows,(∀y∈x,Aa y≤1000000000000)∧x.length≤1000000000000)(hl:q.fRows.length≤1000000000)(hx:RL (Hl ExV 11) 1 I [] v q.fRows)(hy:RL (Hl ExV 11) 1 I [] u q.fRows)(hk:Vu ω (.pointer (some ⟨b1,0,none⟩)) (.pointer (some ⟨b2,0,none⟩)) (.bool false) (λv=>Gh (K v)) I L):Am ((.bool false,.int .i64 0,()):Value×Value×Unit) (λs Kn=>AAV ω (.pointer (some ⟨b1,0,none⟩)) (.pointer (some ⟨b2,0,none⟩)) s.1 s.2.1 Kn (λv=>Gh (K v))) I L:=by
 refine loop (λq' st I' L'=>∃k:Nat,k+q'=q.fRows.length∧st=(Value.bool false,Value.int .i64 (k:Nat),())∧I'=I∧L'=L) q.fRows.length ⟨0,by omega,rfl,rfl,rfl⟩ ?_;rintro q' st I' L' ⟨k,hkq,rfl,rfl,rfl⟩;unfold AAV;try refine zqe ?_
 refine rdb ?_;simp only [zAM hx,SSd,Nat.reduceAdd];refine AB (λhb=>?_) (λhb=>hk);have hb:k < q.fRows.length:=by
  have:=of_decide_eq_true hb;omega
 obtain ⟨bt,off,c1,e1,gl,g2,g3⟩:=zAS hx (i:=k) (by omega) (by omega);obtain ⟨bu,off2,c2,k1,kl,k2,k3⟩:=zAS hy (i:=k) (by omega) (by omega);rw [Af hb] at g2 k2;obtain ⟨w,rfl,hw⟩:=g2;obtain ⟨z,rfl,hz⟩:=k2;have hp:=hq _ (List.getElem_mem hb);generalize q.fRows[k]=x at *;have hE:∀y∈x,∀(I:Imm) (L:LH) (c d:List Value) (K:Value→M),ExV I y c→ExV I y d→K (.bool true) I L→CT ω 49 #[.agg c.toArray,.agg d.toArray] K I L:=λy hy=>DX _ _ (Nat.le_refl _) (hp.1 y hy);have xA:Cell I' L' bt off w:=g3 I' L' (zAC _) nofun 0 _ rfl;have xB:Cell I' L' bu off2 z:=k3 I' L' (zAC _) nofun 0 _ rfl;repeat' (first|(with_reducible first|refine Em ?_|refine Oz ?_|refine Oy ?_|refine keepA ?_|refine Ac (λ_=>?_)|refine JB xA ?_|refine JB xB ?_)|((with_reducible refine call ?_);with_reducible refine KW (ω:=ω) hE hw hz hp.2 ?_)|refine zqr ?_|refine zqb ?_|refine zqi ?_ ?_|refine zqc ?_|refine zqg (λ_=>?_) (λ_=>?_)|(simp only [SSd,Nat.reduceAdd,e1,k1,bne_self_eq_false]))
 simp only [wrap_i64 ((k:Int)+1) (by omega)];exact zAA ⟨q' - 1,by omega,k+1,by omega,rfl,rfl,rfl⟩
theorem AAa {s:TStmt}{N:Nat}(hN:N≤1000000000)(hq:GdS N s)(hc:cS s≤1000000000){c d:List Value}(hx:TStmtV I s c)(hy:TStmtV I s d)(hk:K (.bool true) I L):CT ω 28 #[.agg c.toArray,.agg d.toArray] K I L:=by
 obtain ⟨v0,v1,v2,v3,v4,v5,v6,v7,v8,v9,v10,v11,v12,rfl,h0,h1,h2,h3,h4,h5,h6,h7,h8,h9,h10,h11,h12⟩:=hx;obtain ⟨u0,u1,u2,u3,u4,u5,u6,u7,u8,u9,u10,u11,u12,rfl,g0,g1,g2,g3,g4,g5,g6,g7,g8,g9,g10,g11,g12⟩:=hy;have p:∀{x:Ex},GE N x→Aa x≤1000000000000:=λh=>by have:=h.2;omega
 have hw1:=p hq.wh;have hcq:cQ s.fSelect≤1000000000:=by unfold cS at hc;omega
 have n1:s.fColumns.length≤1000000000000:=by have:=hq.n1;omega
 have n2:s.fKey.length≤1000000000000:=by have:=hq.n2;omega
 have n3:s.fIndex.fColumns.length≤1000000000000:=by have:=hq.n3;omega
 have eb:∀l:List Bs,eqL eqB l l=true:=Yn AJm;have s0:CE I s.fSelect _:=⟨v0,v1,v2,v3,v4,v5,rfl,h0,h1,h2,h3,h4,h5⟩;have s1:CE I s.fSelect _:=⟨u0,u1,u2,u3,u4,u5,rfl,g0,g1,g2,g3,g4,g5⟩;have th6:∀L,RL StrV 1 I L v6 s.fColumns:=λL=>zAP (λ_ _ h=>h) h6 (zAC _) (λ_ h=>nomatch h);have tg6:∀L,RL StrV 1 I L u6 s.fColumns:=λL=>zAP (λ_ _ h=>h) g6 (zAC _) (λ_ h=>nomatch h);have th11:∀L,RL StrV 1 I L v11 s.fKey:=λL=>zAP (λ_ _ h=>h) h11 (zAC _) (λ_ h=>nomatch h);have tg11:∀L,RL StrV 1 I L u11 s.fKey:=λL=>zAP (λ_ _ h=>h) g11 (zAC _) (λ_ h=>nomatch h);have th12:∀L,RL StrV 1 I L v12 s.fIndex.fColumns:=λL=>zAP (λ_ _ h=>h) h12 (zAC _) (λ_ h=>nomatch h);have tg12:∀L,RL StrV 1 I L u12 s.fIndex.fColumns:=λL=>zAP (λ_ _ h=>h) g12 (zAC _) (λ_ h=>nomatch h);unfold cS at hc;refine AVi ?_;unfold AUN;refine Ac (λb1=>Ac (λb2=>?_));repeat' (first|refine zqa ?_|refine zqh (λ_=>?_)|((with_reducible refine call ?_);with_reducible refine AEx (ω:=ω) hN hq.q hcq s0 s1 ?_)|((with_reducible refine call ?_);with_reducible refine DX (ω:=ω) _ s.fWhere (Nat.le_refl _) hw1 _ _ _ _ _ (ExV.iff.2 ⟨v9,rfl,h9⟩) (ExV.iff.2 ⟨u9,rfl,g9⟩) ?_)|((with_reducible refine call ?_);with_reducible refine IM (ω:=ω) (xs:=s.fColumns) (ys:=s.fColumns) (th6 _) (tg6 _) n1 ?_)|((with_reducible refine call ?_);with_reducible refine IM (ω:=ω) (xs:=s.fKey) (ys:=s.fKey) (th11 _) (tg11 _) n2 ?_)|((with_reducible refine call ?_);with_reducible refine IM (ω:=ω) (xs:=s.fIndex.fColumns) (ys:=s.fIndex.fColumns) (th12 _) (tg12 _) n3 ?_)|refine zqr ?_|refine zqb ?_|refine zqi ?_ ?_|refine zqc ?_|refine zqg (λ_=>?_) (λ_=>?_)|(simp only [SSd,Nat.reduceAdd,bne_self_eq_false,zAM h7,zAM g7,zAM h8,zAM g8,zAM h10,zAM g10,eb]))
 refine AAc (λx hx=>⟨λy hy=>p ((hq.rows x hx).1 y hy),by have:=(hq.rows x hx).2;omega⟩) (by omega) h7 g7 ?_;refine AAb (λx hx=>p (hq.sets x hx)) (by omega) h8 g8 ?_;refine AAd (λx hx=>p (hq.cols x hx).1) (by omega) h10 g10 ?_;exact zAE L (zAA hk)
theorem AEz {l:List TStmt}{N:Nat}{u v:Value}(hN:N≤1000000000)(hl:l.length≤1000000000)(hq:∀s∈l,GdS N s∧cS s≤1000000000)(hx:RL TStmtV 51 I L u l)(hy:RL TStmtV 51 I L v l)(hk:K (.bool true) I L):CT ω 13 #[u,v] K I L:=by
 refine AVq ?_;unfold AUW;simp only [zAM hx,zAM hy,bne_self_eq_false,SSd,Nat.reduceAdd];refine loop (λq st I' L'=>∃k:Nat,k+q=l.length∧st=(Value.bool false,Value.int .i64 (k:Nat),())∧I'=I∧L'=L) l.length ⟨0,by omega,rfl,rfl,rfl⟩ ?_;rintro q st I' L' ⟨k,hkq,rfl,rfl,rfl⟩;unfold AHa;simp only [zAM hx,SSd,Nat.reduceAdd];refine AB (λhb=>?_) (λhb=>zAA hk);have hb:k < l.length:=by
  have:=of_decide_eq_true hb;omega
 obtain ⟨bt,off,c1,g1,gl,g2,g3⟩:=zAS hx (i:=k) (by omega) (by omega);obtain ⟨bu,off2,c2,k1,kl,k2,k3⟩:=zAS hy (i:=k) (by omega) (by omega);rw [Af hb] at g2 k2;refine draw (Stay I' L') (Stay.start I' L') ?_;simp only [g1,k1,SSd,Nat.reduceAdd];refine Oe gl (g3 I' L' (zAC _) (λ_ h=>h)) ?_;refine Oe kl (k3 I' L' (zAC _) (λ_ h=>h)) ?_;refine call (AAa hN (hq _ (List.getElem_mem hb)).1 (hq _ (List.getElem_mem hb)).2 g2 k2 ?_);simp only [Bool.not_true,wrap_i64 ((k:Int)+1) (by omega),SSd,Nat.reduceAdd];exact zAA ⟨q - 1,by omega,k+1,by omega,rfl,rfl,rfl⟩
end
def spTab:List Int:=(List.range 256).map λi=>spN (UInt8.ofNat i)
theorem Xb {P:Program}{W:World}{name:String}{k:IntKind}{zs:List Int}{g:Nat}(h:Lib.TabIs P W name k zs)(hg:P.globalNamed name=some g):∃T fr,MM W g=some (.cells (zs.map λz=>Value.int k z).toArray T fr):=by
 unfold Lib.TabIs World.var? at h;rw [hg] at h;simp only [Option.bind_some] at h;unfold MM;split at h
 ·rename_i cs T fr hc
  simp only [Option.some.injEq] at h;subst h;exact ⟨T,fr,hc⟩
 ·cases h
theorem AAK {W:World}(hL:laidMetH Tryz.prog Rows.sqlparseWordsRow.laid W):SpG (MM W):=by
 have h1 := hL.filter (λx => x.1 == "strings.asciiSpace");rw [show (Rows.sqlparseWordsRow.laid.filter (λx => x.1 == "strings.asciiSpace")) = [("strings.asciiSpace", Lib.tabData .u8 spTab)] by kernel_rfl, MakeChecks.laidMetH_plain _ _ _ (by kernel_rfl)] at h1;have h2:=Lib.tabIs_of_head (g:=0) (t:=134) (e:=5) (n:=256) (by kernel_rfl) (by kernel_rfl) (by kernel_rfl) (by kernel_rfl) (by kernel_rfl) (by kernel_rfl) h1;obtain ⟨T,fr,h3⟩:=Xb h2 (g:=0) (by kernel_rfl);intro c;refine Cell.imm h3 ?_;have hc:=c.toNat_lt;have hl:c.toNat < (spTab.map λz=>Value.int .u8 z).length:=by simp [spTab];omega
 rw [List.getElem?_toArray,List.getElem?_eq_getElem hl];simp [spTab]
theorem YK {W:World}(hL:laidMetH Tryz.prog Rows.sqlparseWordsRow.laid W):GN (MM W):=by
 have h1 := hL.filter (λx => x.1 == "internal/strconv.uint64pow10");rw [show (Rows.sqlparseWordsRow.laid.filter (λx => x.1 == "internal/strconv.uint64pow10")) = [("internal/strconv.uint64pow10", Lib.tabData .u64 Lib.pow10Tab)] by kernel_rfl, MakeChecks.laidMetH_plain _ _ _ (by kernel_rfl)] at h1;have hg : Tryz.prog.globalNamed "internal/strconv.uint64pow10" = some 5 := by kernel_rfl
 have h2 : Lib.TabIs Tryz.prog W "internal/strconv.uint64pow10" .u64 Lib.pow10Tab := Lib.tabIs_of_head (t := 275) (e := 268) (n := 20) hg (by kernel_rfl) (by kernel_rfl) (by kernel_rfl) (by kernel_rfl) (by kernel_rfl) h1;obtain ⟨T,fr,h3⟩:=Xb h2 hg;exact ⟨5,T,fr,hg,h3⟩
theorem AIg {s:Bs}(h:(Bi s).2.code=0):(Bi s).2=ok0:=by
 unfold Bi at h ⊢;split
 ·rename_i h1
  rw [if_pos h1] at h;exact absurd h (by decide)
 rename_i h1
 rw [if_neg h1] at h;split
 ·rename_i h2
  rw [if_pos h2] at h;rcases MX s with h3|h3
  ·exact h3
  ·exact absurd h h3.1
 rename_i h2
 rw [if_neg h2] at h;split
 ·rename_i h3
  rw [if_pos h3] at h;exact absurd h h3
 ·rfl
theorem AFJ (l:List TStmt):l.length≤BD l:=by
 induction l with
 |nil=>exact Nat.zero_le _
 |cons s l ih=>simp only [BD,List.map_cons,List.sum_cons,List.length_cons,FW] at *; omega
theorem AFL {s:Bs}:∀x∈(Bi s).1,x∈(readA s).1:=by
 intro x hx;unfold Bi at hx;split at hx
 ·cases hx
 split at hx
 ·cases hx
 split at hx
 ·cases hx
 ·exact hx
theorem AFM (s:Bs):(Bi s).1.length≤65537:=by
 unfold Bi;split
 ·simp
 split
 ·simp
 split
 ·simp
 ·have:=NC s;have:=AFJ (readA s).1;show (readA s).1.length≤65537;omega
section
variable {ω:Om}{G I:Imm}{L F:LH}{K:Value→M}
theorem APk {P:Program}{w:World}{r:Go.Reach}{base T:Nat}{v:Value}{rz:Nat}(hu:P.underlying T=some .string)(o:Value.okWide P w r base T v)(t:TrR rz P w T v.cells.toList):∃l:Bs,v= .string ⟨l.toArray⟩∧l.length≤rz:=by
 obtain ⟨s,rfl⟩:=WideShapes.okWide_string hu o;obtain ⟨l,h1,h2⟩:=APi hu t;simp only [Value.cells,List.cons.injEq,and_true] at h1;exact ⟨l,h1,h2⟩
end
theorem JF {α:Type}{f:α→α→Bool}:∀{xs:List α},(∀x∈xs,f x x=true)→eqL f xs xs=true
 |[],_=>rfl
 |x::xs,h=>by simp only [eqL,h x (List.mem_cons_self ..),JF (λy hy=>h y (List.mem_cons_of_mem _ hy)),Bool.and_self]
theorem ADG:∀(n:Nat) (x:Ex),Dl x≤n→Ea x x=true
 |0,x,hd=>by have:=Fh x;omega
 |n+1,x,hd=>by
  have hdd:=EL x;rw [Xw,JF λy hy=>ADG n y (by have:=FN hy;omega)];simp only [beq_self_eq_true,Bool.and_self]
theorem Jd (x:Ex):Ea x x=true:=ADG _ x (Nat.le_refl _)
theorem AAX (s:TStmt):MG s s=true:=by
 have e:∀l:List Ex,eqL Ea l l=true:=λl=>JF λx _=>Jd x;have b:∀l:List Bs,eqL eqB l l=true:=λl=>JF λx _=>beq_self_eq_true x;unfold MG sQu sIx sRe;rw [JF (f:=sIt) (xs:=s.fSelect.fItems) λx _=>by simp [sIt,Jd],JF (f:=sSo) λx _=>by simp [sSo,Jd],JF (f:=sOr) λx _=>by simp [sOr,Jd],JF (f:=eqL Ea) λx _=>e x,JF (f:=sSe) λx _=>by simp [sSe,Jd],JF (f:=sCo) λx _=>by simp [sCo,Jd]];simp only [beq_self_eq_true,Bool.and_self,Jd,e,b]
theorem AQg {p q d e:Nat}(h:Kv q e=0)(h1:p≤q)(h2:d≤e):Kv p d=0:=by
 unfold Kv at *;split at h
 ·cases h
 split at h
 ·cases h
 rw [if_neg (by omega),if_neg (by omega)]
theorem QH {s:TStmt}:∀{l:List TStmt},s∈l→FW s≤BD l∧Pi s≤EF l
 |t::l,h=>by
  simp only [BD,EF,List.map_cons,List.sum_cons];rcases List.mem_cons.1 h with rfl|h
  ·omega
  ·have:=QH h;simp only [BD] at this;omega
theorem AAp {s:Bs}{l:List TStmt}(hl:l≠[])(h:Bi s=(l,ok0)):s.length≤65536:=by
 unfold Bi at h;split at h
 ·exact absurd (Prod.mk.inj h).1.symm hl
 ·omega
theorem again {t:Bs}{s:TStmt}(h:(Bi t).2.code=0)(hs:s∈(Bi t).1):Uj s=(if 65536 < (BB true s).length then ([],170) else (BB true s,0))∧((BB true s).length≤65536→Bi (BB true s)=([s],ok0))∧(BB true s).length≤900000000∧FW s≤1000000000∧OkS s∧GdS (t.length+1) s∧cS s≤1000000000∧t.length≤65536:=by
 have hr:=AFL s hs;have hw:=AFc (AMJ t s hr);have hok:=AIg h;have hp:Bi t=((Bi t).1,ok0):=by rw [←hok]
 have htl:=AAp (List.ne_nil_of_mem hs) hp;have hgd:=Us t s hr;have hlim:Kv (FW s) (Pi s)=0:=by
  have hl:Kv (BD (readA t).1) (EF (readA t).1)=0:=by
   unfold Bi at hs;split at hs
   ·cases hs
   split at hs
   ·cases hs
   split at hs
   ·cases hs
   ·rename_i h3;exact Decidable.not_not.1 h3
  exact AQg hl (QH hr).1 (QH hr).2
 have hm:=AQO t s hr;have gi:∀{x:Ex},gdE x→iE x:=by
  intro x hx;have:∀(n:Nat) (x:Ex),Dl x≤n→gdE x→iE x:=by
   intro n;induction n with
   |zero=>intro x hd;have:=Fh x;omega
   |succ n ih=>
    intro x hd hg;have hdd:=EL x;obtain ⟨k,v,t,n',sl,ty,d,l⟩:=x;simp only [gdE,Ex.args] at hg hdd;exact ⟨⟨by have:=hg.1.1;omega,hg.1.2⟩,APE λy hy=>ih y (by have:=FN hy;omega) (ADq hg.2.2 hy)⟩
  exact this _ x (Nat.le_refl _) hx
 have hi:AJV s:=⟨⟨λy hy=>gi (hgd.q.it y hy).1,λy hy=>gi (hgd.q.fr y hy).1,gi hgd.q.wh.1,λy hy=>gi (hgd.q.gr y hy).1,gi hgd.q.ha.1,λy hy=>gi (hgd.q.od y hy).1,⟨by have:=hgd.q.li;omega,by have:=hgd.q.li;omega⟩,⟨by have:=hgd.q.off;omega,by have:=hgd.q.off;omega⟩⟩,λl hl y hy=>gi ((hgd.rows l hl).1 y hy).1,λy hy=>gi (hgd.sets y hy).1,gi hgd.wh.1,λy hy=>gi (hgd.cols y hy).1.1,trivial⟩;have hf:=AJd hi;have hra:Gf s=0:=by
  unfold Gf;rw [hw];simp only [AAX,if_true,hlim]
 have hpl:=(QH hr).1;have hpr:=NC t;have hcn:=UC t s hr;refine ⟨?_,λhl=>?_,by omega,by omega,ADN (by omega) s hr,hgd,by omega,htl⟩
 ·unfold Uj;rw [hra,if_neg (by decide)]
 ·unfold Bi;rw [if_neg (by omega),hw];simp only [ne_eq,not_true_eq_false,if_false];have:Kv (BD [s]) (EF [s])=0:=by
   rw [←hlim];simp [BD,EF]
  rw [this];simp only [not_true_eq_false,if_false]
section
variable {ω:Om}{G I:Imm}{L F:LH}{K:Value→M}
theorem AFz (hG:GN G)(hS:SpG G)(hGI:Ext G I)(t:Bs)(hk:∀I',Ext I I'→K (.bool true) I' L):CT ω 7 #[.string ⟨t.toArray⟩] K I L:=by
 have hTok:=KO (JX (ω:=ω) hS);refine AWW ?_;unfold sh7;refine call (AAR hG hS hGI (λI1 hI1=>?_));have hG1:=zAB hGI hI1;refine call (Jm hTok Ku t hG1 (λI2 a k hI2 hw=>?_));try refine zqe ?_
 refine Ac (λbf=>?_);refine stB rfl rfl (Au rfl) ?_;have hI12:=zAB hI1 hI2;have hlen:=AFM t;have hag:=λs=>@again t s;simp only [Bool.not_true,SSd,Nat.reduceAdd];refine rdb ?_;try refine zqe ?_
 refine AB (λh=>?_) (λh=>?_)
 ·have h:(Bi t).2.code≠0:=by simpa using h
  have h0:(Bi t).1=[]:=by
   unfold Bi at h ⊢;split
   ·rfl
   split
   ·rfl
   split
   ·rfl
   ·rename_i h1 h2 h3
    rw [if_neg h1,if_neg h2,if_neg h3] at h;exact absurd rfl h
  unfold AGr;rw [h0];have e:AA .eql (.int .i64 (([]:List TStmt).length:Nat)) (.int .i64 0)=some (.bool true):=rfl;simp only [e,SSd,Nat.reduceAdd];exact zAE L (zAA (hk I2 hI12))
 have h:(Bi t).2.code=0:=by simpa using h
 have hag:=λs=>hag s h;generalize (Bi t).1=l at *;have hlen:l.length≤65537:=hlen;have hM:∃M:LH,SubP L M∧M=(bf,Obj.cells #[.int .i64 (Bi t).2.code,.int .i64 (Bi t).2.at'] 26 (0,0))::L:=⟨_,inferInstance,rfl⟩;obtain ⟨M,hM,hMe⟩:=hM;rw [←hMe];clear hMe;refine loop (λq st I' L'=>∃j:Nat,j+q=l.length∧st=(Value.bool false,Value.int .i64 (j:Nat),())∧Ext I2 I'∧L'=M) l.length ⟨0,by omega,rfl,zAC _,rfl⟩ ?_;rintro q st I' L' ⟨j,hjq,rfl,hI',rfl⟩;unfold ANU;try refine zqe ?_
 refine AB (λhb=>?_) (λhb=>zAE L (zAA (hk I' (zAB hI12 hI'))));have hb:j < l.length:=by
  have:=of_decide_eq_true hb;omega
 have hw':=zAP (I:=I2) (λ_ _ h=>TStmtV.mono h hI') hw hI' (λ_ h=>h);obtain ⟨bt,off,c,g1,gl,g2,g3⟩:=zAS hw' (i:=j) (by omega) (by omega);rw [Af hb] at g2;obtain ⟨v',p1,p2⟩:=RL.part hw' (lo:=j) (hi:=j+1) (by omega) (by omega) (some (.int .i64 (j:Nat))) (some (.int .i64 ((j+1:Nat):Int))) (by simp [ER];omega) (λcap hc=>by simp [ER];omega);have e1:(l.drop j).take (j+1 - j)=[l[j]]:=by rw [show j+1 - j=1 by omega,List.drop_eq_getElem_cons hb];rfl
 rw [e1] at p2;obtain ⟨k1,k2,k3,k4,k5,k6,k7,k8⟩:=hag l[j] (List.getElem_mem hb);generalize l[j]=s at *;simp only [g1,SSd,Nat.reduceAdd];refine rdN gl (g3 I' L' (zAC _) (λ_ h=>nomatch h)) ?_;have hG3:=zAB hG1 (zAB hI2 hI');refine call (Ui hG hS hG3 k5 (ADN k3) k4 g2 k3 (λI3 hI3=>?_));have hw1:IntKind.i64.wrap ((j:Int)+1)=((j+1:Nat):Int):=by rw [wrap_i64 _ (by omega)];rfl
 have next:∀I5 L5,Ext I' I5→SubP L' L5→ABw ω (.bool false) (.int .i64 (j:Nat)) (λs'=>Gh (λI2' L2=>∃m',m' < q∧∃j:Nat,j+m'=l.length∧s'=(Value.bool false,Value.int .i64 (j:Nat),())∧Ext I2 I2'∧L2=L')) (λv=>Gh (K v)) I5 L5:=by
  intro I5 L5 hI5 hs5;unfold ABw;try refine zqe ?_
  rw [hw1];exact zAE L' (zAA ⟨q - 1,by omega,j+1,by omega,rfl,zAB hI' hI5,rfl⟩)
 rw [k1];by_cases hlong:65536 < (BB true s).length
 ·rw [if_pos hlong];simp only [show ((170:Int)==170)=true from rfl,SSd,Nat.reduceAdd];exact next I3 L' hI3 inferInstance
 ·rw [if_neg hlong];have k2:=k2 (by omega);simp only [show ((0:Int)==170)=false from rfl,SSd,Nat.reduceAdd];refine call (Jm hTok Ku (BB true s) (zAB hG3 hI3) (λI4 a4 q4 hI4 hw4=>?_));rw [k2] at hw4 ⊢;have hI34:=zAB hI3 hI4;simp only [List.length_cons,List.length_nil,Nat.zero_add,show ok0.code=0 from rfl,show ((ok0.at':Int))=0 from rfl,SSd,Nat.reduceAdd];refine Ac (λbg=>?_);refine stB rfl rfl (Au rfl) ?_;simp only [hw1,p1,SSd,Nat.reduceAdd];refine call (AEz (l:=[s]) (N:=t.length+1) ?_ (by simp) (λx hx=>by rw [List.mem_singleton.1 hx];exact ⟨k6,k7⟩) (zAP (I:=I4) (λ_ _ h=>h) hw4 (zAC _) (λ_ h=>nomatch h)) (zAP (I:=I') (λ_ _ h=>TStmtV.mono h hI34) p2 hI34 (λ_ h=>nomatch h)) ?_)
  ·omega
  simp only [show ((0:Int) != 0)=false from rfl,SSd,Nat.reduceAdd];refine rdb ?_;simp only [show ((0:Int) != 0)=false from rfl,Bool.not_true,SSd,Nat.reduceAdd];exact next I4 _ hI34 inferInstance
theorem again_walk {W:World}{base:Nat}{v0:Value}(hL:laidMetH Tryz.prog Rows.sqlparseAgainRow.laid W)(o0:Value.okWide Tryz.prog W .any base 9 v0)(t0:Tr Tryz.prog W 9 v0.cells.toList)(ω:Om):
  CT ω 7 #[v0] (λv I' _=>v= .bool true∧Ext (MM W) I') (MM W) []:=by
 obtain ⟨a,rfl,ha⟩:=APk Tryz.underlying9 o0 t0;exact AFz (YK hL) (AAK hL) (zAC _) a (λI' hI=>⟨rfl,hI⟩)
end
end Go.Proofs.YtkifgfanjcfedaaGreatDoor
