/- lemmas -/
import Derived.Test.YtkifgfanjcfedaaGreatDoorP7
set_option maxRecDepth 100000
set_option maxHeartbeats 40000000
set_option linter.unusedVariables false
set_option linter.unusedSimpArgs false
set_option linter.unusedSectionVars false
namespace Go.Proofs.YtkifgfanjcfedaaGreatDoor
open Go.SL
section
variable {P:Program}{ω:Om}{K:Value→M}{I:Imm}{L:LH}
theorem Hr {f:FuncId}{args cap:Array Value}(he:Ce P f=true)(h:Cal P ω f (args++cap) K I L):CalV P ω (.func (.func f) #[] cap) args K I L:=by
 unfold CalV;simp only [he,if_true];simpa using h
end
theorem CalV.to {P:Program}{ω:Om}{K:Value→M}{I:Imm}{L:LH}{x:Value}{args:Array Value}(L':LH)[hs:SubP L' L](h:CalV P ω x args K I L'):CalV P ω x args K I L:=by
 have key:∀w,St ω w I L→St ω w I L':=λw hw=>by
  obtain ⟨R,hR⟩:=hs.sub;exact (hw.perm hR).drop (List.sublist_append_left L' R)
 match x,h with
 | .func (.func f) first cap,h=>
  simp only [CalV] at h ⊢;by_cases he:Ce P f=true
  ·rw [if_pos he] at h ⊢;exact λw hw=>h w (key w hw)
  ·rw [if_neg he] at h ⊢;cases hx:RY P f with
   |none=>rw [hx] at h;exact h.elim
   |some e=>
    rw [hx] at h;exact λw hw=>h w (key w hw)
 | .func (.yield l) first cap,h=>exact λw hw=>h w (key w hw)
abbrev Dk (n:Int):Obj:=.cells [.int .i64 n].toArray 3 (0,0)
abbrev doV (b1 b2:Nat):Value:=.func (.func 105) #[] #[AL b1,AL b2]
abbrev doO (b1 b2:Nat):Obj:=.cells [doV b1 b2].toArray 156 (0,0)
abbrev inV (bd bi:Nat):Value:=.func (.func 158) #[] #[AL bd,AL bi]
abbrev inO (bd bi:Nat):Obj:=.cells [inV bd bi].toArray 156 (0,0)
def mxI (a b:Int):Int:=if b > a then b else a
theorem AOG (a b:Int):mxI a b=max a b:=by unfold mxI;omega
section
variable {ω:Om}{K:Value→M}{I:Imm}{F:LH}
theorem AKt {b1 b2:Nat}{p d n:Int}{c:List Value}(hc:c.length=11)(hp:0≤p∧p≤1000000000000000000)(hk:K (.tuple #[]) I ((b1,Dk (p+1))::(b2,Dk (max d n))::F)):
  CW ω (doV b1 b2) #[.agg c.toArray,.int .i64 n] K I ((b1,Dk p)::(b2,Dk d)::F):=by
 refine Hr (by kernel_rfl) ?_;refine ARA ?_;show AGf ω (.agg c.toArray) (.int .i64 n) (AL b1) (AL b2) _ I _;unfold AGf;refine AQ (λb=>?_);rw [←AOG] at hk;unfold mxI at hk;repeat' (first|refine zqa ?_|refine zqh (λ_=>?_)|refine zqr ?_|refine zqb ?_|refine zqi ?_ ?_|refine zqc ?_|refine zqg (λ_=>?_) (λ_=>?_)|(simp only [SSd,Nat.reduceAdd,wrap_i64 (p+1) zo]))
 exact zAE _ (zAA hk)
theorem Jk {l:List Ex}{k:Nat}(h:k < l.length):AX (l.take (k+1))=AX (l.take k)+Af l[k]:=by
 rw [zl h,DD];simp [AX]
theorem Fz:∀a b:List Ex,BU (a++b)=max (BU a) (BU b)
 |[],b=>by simp [BU]
 |x::a,b=>by simp only [zai,BU,Fz a b];omega
theorem Ll {l:List Ex}{k:Nat}(h:k < l.length):BU (l.take (k+1))=max (BU (l.take k)) (DC l[k]):=by
 rw [zl h,Fz];simp [BU]
theorem Gs (x:Ex):1≤DC x:=by cases x;simp [DC]
theorem Fq (x:Ex):1≤Af x:=by cases x;simp [Af]
theorem Gq {x:Ex}:∀{l:List Ex},x∈l→Af x≤AX l
 |y::l,h=>by
  rcases zZ.1 h with rfl|h
  ·simp only [AX];omega
  ·have:=Gq h;simp only [AX];omega
mutual
theorem JM:∀x:Ex,DC x≤Af x
 | .mk _ _ _ _ _ _ _ l=>by simp only [DC,Af];have:=OY l;omega
theorem OY:∀l:List Ex,BU l≤AX l
 |[]=>by simp [BU]
 |x::l=>by simp only [BU,AX];have:=JM x;have:=OY l;omega
end
theorem La (x:Ex):Af x=AX x.args+1:=by cases x;rfl
theorem ED (x:Ex):DC x=BU x.args+1:=by cases x;rfl
theorem ACY {b1 b2 bd bi:Nat}:∀(m:Nat) (x:Ex),Af x≤m→∀(p d n:Int) (c:List Value) (K:Value→M) (I:Imm) (F:LH),ExV I x c→0≤p→p+Af x≤1000000000000000000→0≤n→n+DC x≤1000000000000000000→
  K (.tuple #[]) I ((b1,Dk (p+Af x))::(b2,Dk (max d (n+DC x - 1)))::(bd,doO b1 b2)::(bi,inO bd bi)::F)→
  CW ω (inV bd bi) #[.agg c.toArray,.int .i64 n] K I ((b1,Dk p)::(b2,Dk d)::(bd,doO b1 b2)::(bi,inO bd bi)::F)
 |0,x,hm,_,_,_,_,_,_,_,_,_,_,_,_,_=>by have:=Fq x;omega
 |m+1,x,hm,p,d,n,c,K,I,F,hx,hp,hpx,hn,hnx,hk=>by
  refine Hr (by kernel_rfl) ?_;refine AQG ?_;show AGY ω (.agg c.toArray) (.int .i64 n) (AL bd) (AL bi) _ I _;have hcl:=hx.len;obtain ⟨v,rfl,ha⟩:=ExV.iff.1 hx;unfold AGY;refine AQ (λb=>?_);try refine zqe ?_
  refine rdb ?_;refine rdB rfl ?_;refine Gj ?_;refine CalV.to ((b1,Dk p)::(b2,Dk d)::(b,.cells (Ag x v).toArray 37 (0,0))::(bd,doO b1 b2)::(bi,inO bd bi)::F) ?_;refine AKt hcl ⟨hp,by omega⟩ ?_;try refine zqe ?_
  refine rdb ?_;simp only [zAK ha,SSd,Nat.reduceAdd];have h1:=La x;have h2:=ED x;refine loop (λq s I' L'=>∃k:Nat,k+q=x.args.length∧s=(.int .i64 k,())∧I'=I∧L'=(b1,Dk (p+1+AX (x.args.take k)))::(b2,Dk (max (max d n) (n+BU (x.args.take k))))::(b,.cells (Ag x v).toArray 37 (0,0))::(bd,doO b1 b2)::(bi,inO bd bi)::F) x.args.length ⟨0,by omega,rfl,rfl,by rw [show p+1+((AX (x.args.take 0):Nat):Int)=p+1 by simp [AX],show max (max d n) (n+((BU (x.args.take 0):Nat):Int))=max d n by simp only [List.take_zero,BU];omega]⟩ ?_;rintro q s I' L' ⟨k,hkq,rfl,rfl,rfl⟩;unfold ABU;try refine zqe ?_
  have hle:x.args.length≤AX x.args:=by
   generalize x.args=l;induction l with
   |nil=>simp
   |cons y l ih=>have:=Fq y;simp only [AX,zh];omega
  refine AB (λhb=>?_) (λhb=>?_)
  ·have hb:k < x.args.length:=by
    have:=of_decide_eq_true hb;omega
   obtain ⟨bt,off,c1,g1,gl,g2,g3⟩:=zAR ha (i:=k) zo zo;rw [Am hb] at g2;have hcl1:=ExV.len g2;have hm1:=Gq (zH hb);have hone:=ExV.one g2;simp only [g1,SSd,Nat.reduceAdd];refine Ep (g3 _ [] (zAC _) (λ_ h=>h)) (zAC _) hcl1 ?_;refine AQ (λb3=>?_);refine stB hcl1 rfl hone ?_;refine rdb ?_;refine rdB hcl1 ?_;simp only [wrap_i64 (n+1) zo,SSd,Nat.reduceAdd];refine Gj ?_;refine CalV.to ((b1,Dk (p+1+AX (x.args.take k)))::(b2,Dk (max (max d n) (n+BU (x.args.take k))))::(bd,doO b1 b2)::(bi,inO bd bi)::(b3,.cells c1.toArray 37 (0,0))::(b,.cells (Ag x v).toArray 37 (0,0))::F) ?_;have htk:=Jk hb;have htd:=Ll hb;have hts:AX (x.args.take (k+1))≤AX x.args:=by
    have h:=DD (x.args.take (k+1)) (x.args.drop (k+1));rw [zad] at h;omega
   have hdl:DC x.args[k]≤BU x.args:=by
    have h:=Fz (x.args.take (k+1)) (x.args.drop (k+1));rw [zad] at h;omega
   refine ACY m x.args[k] zo _ _ (n+1) c1 _ _ _ g2 zo zo zo zo ?_;simp only [wrap_i64 ((k:Int)+1) zo,SSd,Nat.reduceAdd];rw [←show p+1+(AX (x.args.take (k+1)):Int)=p+1+AX (x.args.take k)+Af x.args[k] by omega,←show max (max d n) (n+(BU (x.args.take (k+1)):Int))=max (max (max d n) (n+BU (x.args.take k))) (n+1+DC x.args[k] - 1) by omega];refine zAE ((b1,Dk (p+1+AX (x.args.take (k+1))))::(b2,Dk (max (max d n) (n+BU (x.args.take (k+1)))))::(b,.cells (Ag x v).toArray 37 (0,0))::(bd,doO b1 b2)::(bi,inO bd bi)::F) ?_;exact zAA ⟨q - 1,by omega,k+1,by omega,rfl,rfl,rfl⟩
  ·have hb:¬k < x.args.length:=by
    have:=of_decide_eq_false hb;omega
   have hkl:x.args.take k=x.args:=zg zo;rw [hkl];rw [←show p+(Af x:Int)=p+1+AX x.args by omega,←show max d (n+(DC x:Int) - 1)=max (max d n) (n+BU x.args) by omega];exact zAE ((b1,Dk (p+Af x))::(b2,Dk (max d (n+DC x - 1)))::(bd,doO b1 b2)::(bi,inO bd bi)::F) (zAA hk)
end
def GL (I:Imm)(X:LH)(v:Value)(xs:List Ex):Prop:=∃cells,GrO I 37 11 X v cells xs.length∧Recs (ExV I) 11 xs cells
theorem GL.mono {I I':Imm}{X:LH}{v:Value}{xs:List Ex}(h:GL I X v xs)(hI:Ext I I'):GL I' X v xs:=by
 obtain ⟨cells,h1,h2⟩:=h;exact ⟨cells,h1.mono hI,zAU (λ_ _ h=>ExV.mono hI h) h2⟩
theorem GL.rl {I:Imm}{X L:LH}{v:Value}{xs:List Ex}(h:GL I X v xs)(hL:∀x∈X,x∈L):RL ExV 11 I L v xs:=by
 obtain ⟨cells,h1,h2⟩:=h;obtain ⟨a,k,rfl,hle⟩:=h1.form;exact ⟨a,k,cells,rfl,hle,h1.news hL,h2⟩
section
variable {ω:Om}{K:Value→M}{I:Imm}{F:LH}
instance splitNil (L:LH):SplitL [] L L:=⟨List.Perm.refl _⟩
theorem DK {X L:LH}[SplitL X L F]{z:Array Value}{xs ys:List Ex}{s x:Value}(hz:z.size=11)(hG:GL I X s xs)(hy:ExL I x ys)(hb:xs.length+ys.length≤1000000000000)(hk:∀X' v',GL I X' v' (xs++ys)→K v' I (X'++F)):
  App 37 11 128 z s x (gh K) I L:=by
 obtain ⟨cells,h1,h2⟩:=hG;obtain ⟨c,s4,r4⟩:=RL.toI zx hy;refine ARL (X:=X) hz h1 s4.news (Recs.one_cells (λ_ _ h=>ExV.one h) r4) zo zo (λX' v' h=>hk X' v' ⟨_,by rw [zn];exact h,zAS h2 r4⟩)
theorem Ht {z:Array Value}{x:Ex}{c:List Value}(hx:ExV I x c)(hk:∀I' a,Ext I I'→ExL I' (.slice a 1 1) [x]→Gh (K (.slice a 1 1)) I' F):AU 37 11 z 1 [(0,.agg c.toArray)] (gh K) I F:=
 EQ (R:=ExV) [x] [c] rfl rfl rfl (by simp [hx.len]) (by simpa using hx) (λhI h=>ExV.mono hI h) hk
theorem AOU {X:LH}{vs w:Value}{p2 p4:Value}{ys:List TItem}{xs:List Ex}(hy:RL TItemV 14 I [] vs ys)(hG:GL I X w xs)(hb:xs.length+ys.length≤1000000000000)
  (hk:∀I' X' w',Ext I I'→GL I' X' w' (xs++ys.map λy=>y.fExpr)→VO ω p2 p4 w' K I' (X'++F)):
  Ac ((w,.int .i64 0,()):Value×Value×Unit) (λs Kn=>VP ω p2 p4 vs (.int .i64 ys.length) s.1 s.2.1 Kn K) I (X++F):=by
 refine loop (λq st I' L'=>∃k X' v',k+q=ys.length∧st=(v',.int .i64 (k:Nat),())∧Ext I I'∧GL I' X' v' (xs++(ys.take k).map λy=>y.fExpr)∧L'=X'++F) ys.length ⟨0,X,w,by omega,rfl,zAC _,by simpa using hG,rfl⟩ ?_;rintro q st I' L' ⟨k,X',v',hkq,rfl,hI',hG',rfl⟩;unfold VP;try refine zqe ?_
 refine AB (λhb=>?_) (λhb=>?_)
 ·have hb:k < ys.length:=by
   have:=of_decide_eq_true hb;omega
  obtain ⟨bt,off,c1,g1,gl,g2,g3⟩:=zAR hy (i:=k) zo zo;rw [Am hb] at g2;obtain ⟨v0,rfl,h0⟩:=g2.mono hI';simp only [g1,SSd,Nat.reduceAdd];refine Ep (g3 _ [] hI' (λ_ h=>h)) (zAC _) rfl ?_;refine AQ (λb3=>?_);obtain ⟨a0,k0,rfl⟩:=zAF h0;refine stB rfl rfl (AY rfl) ?_;try refine zqe ?_
  refine rdP _ rfl rfl ?_;refine Ht (x:=ys[k].fExpr) (ExV.iff.2 ⟨_,rfl,h0⟩) (λI2 a2 hI2 hw2=>zAA ?_);refine DK (X:=X') rfl (hG'.mono hI2) hw2 zu (λX3 w3 hG3=>?_);simp only [wrap_i64 ((k:Int)+1) zo,SSd,Nat.reduceAdd];refine zAE (X3++F) (zAA ⟨q - 1,by omega,k+1,X3,w3,by omega,rfl,zAB hI' hI2,?_,rfl⟩);rw [zl hb,zab,←zi];exact hG3
 ·have hb:¬k < ys.length:=by
   have:=of_decide_eq_false hb;omega
  rw [zg zo] at hG';exact hk I' X' v' hI' hG'
theorem AOT {X:LH}{vs w:Value}{p2 p4:Value}{ys:List TSource}{xs:List Ex}(hy:RL TSourceV 14 I [] vs ys)(hG:GL I X w xs)(hb:xs.length+ys.length≤1000000000000)
  (hk:∀I' X' w',Ext I I'→GL I' X' w' (xs++ys.map λy=>y.fOn)→VM ω p2 p4 w' K I' (X'++F)):
  Ac ((w,.int .i64 0,()):Value×Value×Unit) (λs Kn=>VN ω p2 p4 vs (.int .i64 ys.length) s.1 s.2.1 Kn K) I (X++F):=by
 refine loop (λq st I' L'=>∃k X' v',k+q=ys.length∧st=(v',.int .i64 (k:Nat),())∧Ext I I'∧GL I' X' v' (xs++(ys.take k).map λy=>y.fOn)∧L'=X'++F) ys.length ⟨0,X,w,by omega,rfl,zAC _,by simpa using hG,rfl⟩ ?_;rintro q st I' L' ⟨k,X',v',hkq,rfl,hI',hG',rfl⟩;unfold VN;try refine zqe ?_
 refine AB (λhb=>?_) (λhb=>?_)
 ·have hb:k < ys.length:=by
   have:=of_decide_eq_true hb;omega
  obtain ⟨bt,off,c1,g1,gl,g2,g3⟩:=zAR hy (i:=k) zo zo;rw [Am hb] at g2;obtain ⟨v0,rfl,h0⟩:=g2.mono hI';simp only [g1,SSd,Nat.reduceAdd];refine Ep (g3 _ [] hI' (λ_ h=>h)) (zAC _) rfl ?_;refine AQ (λb3=>?_);obtain ⟨a0,k0,rfl⟩:=zAF h0;refine stB rfl rfl (AY rfl) ?_;try refine zqe ?_
  refine rdP _ rfl rfl ?_;refine Ht (x:=ys[k].fOn) (ExV.iff.2 ⟨_,rfl,h0⟩) (λI2 a2 hI2 hw2=>zAA ?_);refine DK (X:=X') rfl (hG'.mono hI2) hw2 zu (λX3 w3 hG3=>?_);simp only [wrap_i64 ((k:Int)+1) zo,SSd,Nat.reduceAdd];refine zAE (X3++F) (zAA ⟨q - 1,by omega,k+1,X3,w3,by omega,rfl,zAB hI' hI2,?_,rfl⟩);rw [zl hb,zab,←zi];exact hG3
 ·have hb:¬k < ys.length:=by
   have:=of_decide_eq_false hb;omega
  rw [zg zo] at hG';exact hk I' X' v' hI' hG'
theorem AOS {X:LH}{vs w:Value}{p2 p4:Value}{ys:List TOrder}{xs:List Ex}(hy:RL TOrderV 12 I [] vs ys)(hG:GL I X w xs)(hb:xs.length+ys.length≤1000000000000)
  (hk:∀I' X' w',Ext I I'→GL I' X' w' (xs++ys.map λy=>y.fExpr)→VK ω p2 p4 w' K I' (X'++F)):
  Ac ((w,.int .i64 0,()):Value×Value×Unit) (λs Kn=>VL ω p2 p4 vs (.int .i64 ys.length) s.1 s.2.1 Kn K) I (X++F):=by
 refine loop (λq st I' L'=>∃k X' v',k+q=ys.length∧st=(v',.int .i64 (k:Nat),())∧Ext I I'∧GL I' X' v' (xs++(ys.take k).map λy=>y.fExpr)∧L'=X'++F) ys.length ⟨0,X,w,by omega,rfl,zAC _,by simpa using hG,rfl⟩ ?_;rintro q st I' L' ⟨k,X',v',hkq,rfl,hI',hG',rfl⟩;unfold VL;try refine zqe ?_
 refine AB (λhb=>?_) (λhb=>?_)
 ·have hb:k < ys.length:=by
   have:=of_decide_eq_true hb;omega
  obtain ⟨bt,off,c1,g1,gl,g2,g3⟩:=zAR hy (i:=k) zo zo;rw [Am hb] at g2;obtain ⟨v0,rfl,h0⟩:=g2.mono hI';simp only [g1,SSd,Nat.reduceAdd];refine Ep (g3 _ [] hI' (λ_ h=>h)) (zAC _) rfl ?_;refine AQ (λb3=>?_);obtain ⟨a0,k0,rfl⟩:=zAF h0;refine stB rfl rfl (AY rfl) ?_;try refine zqe ?_
  refine rdP _ rfl rfl ?_;refine Ht (x:=ys[k].fExpr) (ExV.iff.2 ⟨_,rfl,h0⟩) (λI2 a2 hI2 hw2=>zAA ?_);refine DK (X:=X') rfl (hG'.mono hI2) hw2 zu (λX3 w3 hG3=>?_);simp only [wrap_i64 ((k:Int)+1) zo,SSd,Nat.reduceAdd];refine zAE (X3++F) (zAA ⟨q - 1,by omega,k+1,X3,w3,by omega,rfl,zAB hI' hI2,?_,rfl⟩);rw [zl hb,zab,←zi];exact hG3
 ·have hb:¬k < ys.length:=by
   have:=of_decide_eq_false hb;omega
  rw [zg zo] at hG';exact hk I' X' v' hI' hG'
theorem AKp {X:LH}{vs w:Value}{p2 p4:Value}{ys:List TSet}{xs:List Ex}(hy:RL TSetV 12 I [] vs ys)(hG:GL I X w xs)(hb:xs.length+ys.length≤1000000000000)
  (hk:∀I' X' w',Ext I I'→GL I' X' w' (xs++ys.map λy=>y.fExpr)→Qe ω p2 p4 w' K I' (X'++F)):
  Ac ((w,.int .i64 0,()):Value×Value×Unit) (λs Kn=>Qg ω p2 p4 vs (.int .i64 ys.length) s.1 s.2.1 Kn K) I (X++F):=by
 refine loop (λq st I' L'=>∃k X' v',k+q=ys.length∧st=(v',.int .i64 (k:Nat),())∧Ext I I'∧GL I' X' v' (xs++(ys.take k).map λy=>y.fExpr)∧L'=X'++F) ys.length ⟨0,X,w,by omega,rfl,zAC _,by simpa using hG,rfl⟩ ?_;rintro q st I' L' ⟨k,X',v',hkq,rfl,hI',hG',rfl⟩;unfold Qg;try refine zqe ?_
 refine AB (λhb=>?_) (λhb=>?_)
 ·have hb:k < ys.length:=by
   have:=of_decide_eq_true hb;omega
  obtain ⟨bt,off,c1,g1,gl,g2,g3⟩:=zAR hy (i:=k) zo zo;rw [Am hb] at g2;obtain ⟨v0,rfl,h0⟩:=g2.mono hI';simp only [g1,SSd,Nat.reduceAdd];refine Ep (g3 _ [] hI' (λ_ h=>h)) (zAC _) rfl ?_;refine AQ (λb3=>?_);obtain ⟨a0,k0,rfl⟩:=zAF h0;refine stB rfl rfl (AY rfl) ?_;try refine zqe ?_
  refine rdP _ rfl rfl ?_;refine Ht (x:=ys[k].fExpr) (ExV.iff.2 ⟨_,rfl,h0⟩) (λI2 a2 hI2 hw2=>zAA ?_);refine DK (X:=X') rfl (hG'.mono hI2) hw2 zu (λX3 w3 hG3=>?_);simp only [wrap_i64 ((k:Int)+1) zo,SSd,Nat.reduceAdd];refine zAE (X3++F) (zAA ⟨q - 1,by omega,k+1,X3,w3,by omega,rfl,zAB hI' hI2,?_,rfl⟩);rw [zl hb,zab,←zi];exact hG3
 ·have hb:¬k < ys.length:=by
   have:=of_decide_eq_false hb;omega
  rw [zg zo] at hG';exact hk I' X' v' hI' hG'
theorem AKo {X:LH}{vs w:Value}{p4:Value}{ys:List TCol}{xs:List Ex}(hy:RL TColV 16 I [] vs ys)(hG:GL I X w xs)(hb:xs.length+ys.length≤1000000000000)
  (hk:∀I' X' w',Ext I I'→GL I' X' w' (xs++ys.map λy=>y.fDefault)→ND ω p4 w' K I' (X'++F)):
  Ac ((w,.int .i64 0,()):Value×Value×Unit) (λs Kn=>Qd ω p4 vs (.int .i64 ys.length) s.1 s.2.1 Kn K) I (X++F):=by
 refine loop (λq st I' L'=>∃k X' v',k+q=ys.length∧st=(v',.int .i64 (k:Nat),())∧Ext I I'∧GL I' X' v' (xs++(ys.take k).map λy=>y.fDefault)∧L'=X'++F) ys.length ⟨0,X,w,by omega,rfl,zAC _,by simpa using hG,rfl⟩ ?_;rintro q st I' L' ⟨k,X',v',hkq,rfl,hI',hG',rfl⟩;unfold Qd;try refine zqe ?_
 refine AB (λhb=>?_) (λhb=>?_)
 ·have hb:k < ys.length:=by
   have:=of_decide_eq_true hb;omega
  obtain ⟨bt,off,c1,g1,gl,g2,g3⟩:=zAR hy (i:=k) zo zo;rw [Am hb] at g2;obtain ⟨v0,rfl,h0⟩:=g2.mono hI';simp only [g1,SSd,Nat.reduceAdd];refine Ep (g3 _ [] hI' (λ_ h=>h)) (zAC _) rfl ?_;refine AQ (λb3=>?_);obtain ⟨a0,k0,rfl⟩:=zAF h0;refine stB rfl rfl (AY rfl) ?_;try refine zqe ?_
  refine rdP _ rfl rfl ?_;refine Ht (x:=ys[k].fDefault) (ExV.iff.2 ⟨_,rfl,h0⟩) (λI2 a2 hI2 hw2=>zAA ?_);refine DK (X:=X') rfl (hG'.mono hI2) hw2 zu (λX3 w3 hG3=>?_);simp only [wrap_i64 ((k:Int)+1) zo,SSd,Nat.reduceAdd];refine zAE (X3++F) (zAA ⟨q - 1,by omega,k+1,X3,w3,by omega,rfl,zAB hI' hI2,?_,rfl⟩);rw [zl hb,zab,←zi];exact hG3
 ·have hb:¬k < ys.length:=by
   have:=of_decide_eq_false hb;omega
  rw [zg zo] at hG';exact hk I' X' v' hI' hG'
theorem AKq {X:LH}{vs w:Value}{p2 p4:Value}{ys:List (List Ex)}{xs:List Ex}(hy:RL (FX ExV 11) 1 I [] vs ys)(hyl:ys.length≤1000000000000)(hG:GL I X w xs)(hb:xs.length+ys.flatten.length≤1000000000000)
  (hk:∀I' X' w',Ext I I'→GL I' X' w' (xs++ys.flatten)→Qh ω p2 p4 w' K I' (X'++F)):
  Ac ((w,.int .i64 0,()):Value×Value×Unit) (λs Kn=>Qi ω p2 p4 vs (.int .i64 ys.length) s.1 s.2.1 Kn K) I (X++F):=by
 refine loop (λq st I' L'=>∃k X' v',k+q=ys.length∧st=(v',.int .i64 (k:Nat),())∧Ext I I'∧GL I' X' v' (xs++(ys.take k).flatten)∧L'=X'++F) ys.length ⟨0,X,w,by omega,rfl,zAC _,by simpa using hG,rfl⟩ ?_;rintro q st I' L' ⟨k,X',v',hkq,rfl,hI',hG',rfl⟩;unfold Qi;try refine zqe ?_
 refine AB (λhb=>?_) (λhb=>?_)
 ·have hb:k < ys.length:=by
   have:=of_decide_eq_true hb;omega
  obtain ⟨bt,off,c1,g1,gl,g2,g3⟩:=zAR hy (i:=k) zo zo;rw [Am hb] at g2;obtain ⟨v0,rfl,h0⟩:=LstX.mono g2 hI';simp only [g1,SSd,Nat.reduceAdd];refine rdC (g3 _ [] hI' (λ_ h=>h) 0 _ rfl) (zAC _) ?_;have hfl:(ys.take (k+1)).flatten=(ys.take k).flatten++ys[k]:=by rw [zl hb,zbf];simp only [zaD,zaX,zao]
  have hle:(ys.take (k+1)).flatten.length≤ys.flatten.length:=by
   have h:ys.flatten=(ys.take (k+1)).flatten++(ys.drop (k+1)).flatten:=by rw [←zbf,zad]
   rw [h,zn];omega
  rw [hfl,zn] at hle;refine DK (X:=X') rfl hG' h0 (by simp only [zn];omega) (λX3 w3 hG3=>?_);simp only [wrap_i64 ((k:Int)+1) zo,SSd,Nat.reduceAdd];refine zAE (X3++F) (zAA ⟨q - 1,by omega,k+1,X3,w3,by omega,rfl,hI',?_,rfl⟩);rw [hfl,←zi];exact hG3
 ·have hb:¬k < ys.length:=by
   have:=of_decide_eq_false hb;omega
  rw [zg zo] at hG';exact hk I' X' v' hI' hG'
def Bz (x:Ex):Bool:=x.kind != 0
def AJe (s:TStmt):List Ex:=[s.fWhere,s.fSelect.fWhere,s.fSelect.fHaving]++s.fSelect.fGroup++s.fSelect.fItems.map (λy=>y.fExpr)++s.fSelect.fFrom.map (λy=>y.fOn)++s.fSelect.fOrder.map (λy=>y.fExpr)++s.fRows.flatten++s.fSets.map (λy=>y.fExpr)++s.fCols.map (λy=>y.fDefault)
theorem AAV (s:TStmt):AX ((AJe s).filter Bz)=AX (EL s)∧BU ((AJe s).filter Bz)=BU (EL s):=by
 have e:∀l:List Ex,l.filter (λx=>x.kind != 0)=l.filter Bz:=λl=>rfl;have c:∀(x:Ex) (l:List Ex),x::l=[x]++l:=λ_ _=>rfl;simp only [EL,e,AJe];rw [c s.fWhere,c s.fSelect.fWhere [s.fSelect.fHaving],c s.fSelect.fWhere [_,_],c s.fSelect.fHaving [_]];simp only [zaY,DD,Fz];constructor
 ·omega
 ·ac_rfl
theorem AKn {X:LH}{y:Nat×Obj}{b1 b2 bd bi:Nat}{w:Value}{xs:List Ex}{p d:Int}(hG:GL I X w xs)(hp:0≤p)(hd:0≤d)(hpx:p+AX (xs.filter Bz)≤100000000000000000)(hlen:xs.length≤1000000000000)
  (hk:Gh (K (.tuple #[])) I ((b1,Dk (p+AX (xs.filter Bz)))::(b2,Dk (max d (BU (xs.filter Bz))))::F)):
  ND ω (AL bi) w (λv=>Gh (K v)) I (X++((bi,inO bd bi)::(bd,doO b1 b2)::y::(b1,Dk p)::(b2,Dk d)::F)):=by
 unfold ND;have hR:RL ExV 11 I X w xs:=hG.rl (λ_ h=>h);simp only [zAK hR,SSd,Nat.reduceAdd];refine loop (λq s I' L'=>∃k:Nat,k+q=xs.length∧s=(.int .i64 k,())∧I'=I∧L'=X++((bi,inO bd bi)::(bd,doO b1 b2)::y::(b1,Dk (p+AX ((xs.take k).filter Bz)))::(b2,Dk (max d (BU ((xs.take k).filter Bz))))::F)) xs.length ⟨0,by omega,rfl,rfl,by
  rw [show p+((AX ((xs.take 0).filter Bz):Nat):Int)=p by simp [AX],show max d ((BU ((xs.take 0).filter Bz):Nat):Int)=d by simp only [List.take_zero,zbw,BU];omega]⟩ ?_
 rintro q s I' L' ⟨k,hkq,rfl,rfl,rfl⟩;unfold Wj;try refine zqe ?_
 refine AB (λhb=>?_) (λhb=>?_)
 ·have hb:k < xs.length:=by
   have:=of_decide_eq_true hb;omega
  obtain ⟨bt,off,c1,g1,gl,g2,g3⟩:=zAR hR (i:=k) zo zo;rw [Am hb] at g2;have hts:=zl hb;have hple:AX ((xs.take (k+1)).filter Bz)≤AX (xs.filter Bz):=by
   have h:xs.filter Bz=(xs.take (k+1)).filter Bz++(xs.drop (k+1)).filter Bz:=by rw [←zaY,zad]
   rw [h,DD];omega
  have hstep:∀{Y:LH},SubP (X++((bi,inO bd bi)::(bd,doO b1 b2)::y::(b1,Dk (p+AX ((xs.take (k+1)).filter Bz)))::(b2,Dk (max d (BU ((xs.take (k+1)).filter Bz))))::F)) Y→NC ω (.int .i64 k) (λs'=>Gh λI2 L2=>∃m',m' < q∧∃k:Nat,k+m'=xs.length∧s'=(.int .i64 k,())∧I2=I'∧L2=X++((bi,inO bd bi)::(bd,doO b1 b2)::y::(b1,Dk (p+AX ((xs.take k).filter Bz)))::(b2,Dk (max d (BU ((xs.take k).filter Bz))))::F)) (λv=>Gh (K v)) I' Y:=by
   intro Y hY;unfold NC;simp only [wrap_i64 ((k:Int)+1) zo,SSd,Nat.reduceAdd];exact zAE _ (zAA ⟨q - 1,by omega,k+1,by omega,rfl,rfl,rfl⟩)
  obtain ⟨v0,rfl,h0⟩:=ExV.iff.1 g2;simp only [g1,SSd,Nat.reduceAdd];refine rdN rfl (g3 _ _ (zAC _) (λx hx=>by simp [hx])) ?_;refine AQ (λb3=>?_);obtain ⟨a0,k0,rfl⟩:=zAF h0;refine stB rfl rfl (AY rfl) ?_;try refine zqe ?_
  refine rdb ?_;try refine zqe ?_
  refine AB (λht=>?_) (λht=>?_)
  ·have ht':Bz xs[k]=true:=ht;rw [hts,zaY,List.filter_cons_of_pos ht',zbw,DD,Fz] at hstep;rw [hts,zaY,List.filter_cons_of_pos ht',zbw,DD] at hple;simp only [AX,BU] at hstep hple;refine rdb ?_;refine rdB rfl ?_;refine Gj ?_;refine CalV.to ((b1,Dk (p+AX ((xs.take k).filter Bz)))::(b2,Dk (max d (BU ((xs.take k).filter Bz))))::(bd,doO b1 b2)::(bi,inO bd bi)::(X++(y::F))) ?_;have hdp:=JM xs[k];have hdpos:=Gs xs[k];refine ACY _ xs[k] (zW _) _ _ 1 _ _ _ _ g2 zo zo zo zo ?_;refine hstep ?_;rw [show p+((AX ((xs.take k).filter Bz)+(Af xs[k]+0):Nat):Int)=p+AX ((xs.take k).filter Bz)+Af xs[k] by omega,show max d ((max (BU ((xs.take k).filter Bz)) (max (DC xs[k]) 0):Nat):Int)=max (max d (BU ((xs.take k).filter Bz))) (1+DC xs[k] - 1) by omega];infer_instance
  ·have ht':¬Bz xs[k]=true:=by
    intro h;rw [show (xs[k].kind != 0)=true from h] at ht;cases ht
   rw [hts,zaY,List.filter_cons_of_neg ht',zbw,zao] at hstep;exact hstep inferInstance
 ·have hb:¬k < xs.length:=by
   have:=of_decide_eq_false hb;omega
  rw [zg zo];exact zAE _ hk
theorem AEI {b1 b2:Nat}{p d:Int}{s:TStmt}{c:List Value}(hs:TStmtV I s c)(hcnt:cS s≤1000000000)(hp:0≤p)(hd:0≤d)(hpx:p+AX (EL s)≤100000000000000000)
  (hk:∀I',Ext I I'→K (.tuple #[]) I' ((b1,Dk (p+AX (EL s)))::(b2,Dk (max d (BU (EL s))))::F)):
  CT ω 104 #[.agg c.toArray,doV b1 b2] K I ((b1,Dk p)::(b2,Dk d)::F):=by
 obtain ⟨v0,v1,v2,v3,v4,v5,v6,v7,v8,v9,v10,v11,v12,rfl,h0,h1,h2,h3,h4,h5,h6,h7,h8,h9,h10,h11,h12⟩:=hs;obtain ⟨a0,k0,rfl⟩:=zAF h0;obtain ⟨a1,k1,rfl⟩:=zAF h1;obtain ⟨a2,k2,rfl⟩:=zAF h2;obtain ⟨a3,k3,rfl⟩:=zAF h3;obtain ⟨a4,k4,rfl⟩:=zAF h4;obtain ⟨a5,k5,rfl⟩:=zAF h5;obtain ⟨a7,k7,rfl⟩:=zAF h7;obtain ⟨a8,k8,rfl⟩:=zAF h8;obtain ⟨a9,k9,rfl⟩:=zAF h9;obtain ⟨a10,k10,rfl⟩:=zAF h10;simp only [cS,cQ] at hcnt;refine ARB ?_;unfold AMz;refine AQ (λbs=>?_);refine AQ (o:=doO b1 b2) (λbd=>?_);refine AQ (λbi=>?_);refine st1 rfl ?_;try refine zqe ?_
 refine rdP _ rfl rfl ?_;refine rdP _ rfl rfl ?_;refine rdP _ rfl rfl ?_;refine EQ (R:=ExV) [s.fWhere,s.fSelect.fWhere,s.fSelect.fHaving] [_,_,_] rfl rfl rfl zy (by
  intro q hq;simp only [List.zip_cons_cons,List.zip_nil_right,zZ,zaH,or_false] at hq;rcases hq with rfl|rfl|rfl
  ·exact ExV.iff.2 ⟨_,rfl,h9⟩
  ·exact ExV.iff.2 ⟨_,rfl,h2⟩
  ·exact ExV.iff.2 ⟨_,rfl,h4⟩) (λhI h=>ExV.mono hI h) (λI1 aw hI1 hw1=>zAA ?_)
 obtain ⟨c1,s1,r1⟩:=RL.toI zx hw1;have hG1:GL I1 [] (.slice aw 3 3) [s.fWhere,s.fSelect.fWhere,s.fSelect.fHaving]:=⟨c1,.inr ⟨rfl,⟨aw,rfl⟩,s1⟩,r1⟩;refine rdb ?_;refine DK (X:=[]) rfl hG1 (zAI h3 hI1) zL (λX2 w2 hG2=>?_);refine rdb ?_;simp only [zAK h0,SSd,Nat.reduceAdd];refine AOU (X:=X2) (zAL (λ_ _ h=>TItemV.mono h hI1) h0 hI1 (λ_ h=>h)) hG2 zL (λI3 X3 w3 hI3 hG3=>?_);unfold VO;try refine zqe ?_
 refine rdb ?_;try refine zqe ?_
 have hI13:=zAB hI1 hI3;refine AOT (X:=X3) (zAL (λ_ _ h=>zAQ h hI13) h1 hI13 (λ_ h=>h)) hG3 (by simp only [zU,zau];omega) (λI4 X4 w4 hI4 hG4=>?_);unfold VM;try refine zqe ?_
 refine rdb ?_;try refine zqe ?_
 have hI14:=zAB hI13 hI4;refine AOS (X:=X4) (zAL (λ_ _ h=>zAO h hI14) h5 hI14 (λ_ h=>h)) hG4 (by simp only [zU,zau];omega) (λI5 X5 w5 hI5 hG5=>?_);unfold VK;try refine zqe ?_
 refine rdb ?_;try refine zqe ?_
 have hI15:=zAB hI14 hI5;refine AKq (X:=X5) (zAL (λ_ _ h=>LstX.mono h hI15) h7 hI15 (λ_ h=>h)) zo hG5 (by simp only [zU,zau];omega) (λI6 X6 w6 hI6 hG6=>?_);unfold Qh;try refine zqe ?_
 refine rdb ?_;try refine zqe ?_
 have hI16:=zAB hI15 hI6;refine AKp (X:=X6) (zAL (λ_ _ h=>TSetV.mono h hI16) h8 hI16 (λ_ h=>h)) hG6 (by simp only [zU,zau];omega) (λI7 X7 w7 hI7 hG7=>?_);unfold Qe;try refine zqe ?_
 refine rdb ?_;try refine zqe ?_
 have hI17:=zAB hI16 hI7;refine AKo (X:=X7) (zAL (λ_ _ h=>TColV.mono h hI17) h10 hI17 (λ_ h=>h)) hG7 (by simp only [zU,zau];omega) (λI8 X8 w8 hI8 hG8=>?_);have hI18:=zAB hI17 hI8;have hA:([s.fWhere,s.fSelect.fWhere,s.fSelect.fHaving]++s.fSelect.fGroup++s.fSelect.fItems.map (λy=>y.fExpr)++s.fSelect.fFrom.map (λy=>y.fOn)++s.fSelect.fOrder.map (λy=>y.fExpr)++s.fRows.flatten++s.fSets.map (λy=>y.fExpr)++s.fCols.map (λy=>y.fDefault))=AJe s:=rfl;rw [hA] at hG8;have hlen:(AJe s).length≤1000000000000:=by simp only [←hA,zU,zau];omega
 obtain ⟨q1,q2⟩:=AAV s;refine AKn hG8 hp hd (by rw [q1];exact hpx) hlen ?_;rw [q1,q2];exact zAA (hk I8 hI18)
end
theorem SA:∀(l:List Bs) (y:Bs),Aw (l++[y])=Aw l++((if l.isEmpty then [] else [44,32])++y)
 |[],y=>rfl
 |[x],y=>by simp [Aw]
 |x::z::l,y=>by
  have ih:=SA (z::l) y;simp only [zai,Aw] at ih ⊢;rw [ih];simp
theorem Xp:∀(a c:List Bs),(Aw a).length≤(Aw (a++c)).length
 |[],c=>zak _
 |[x],[]=>zW _
 |[x],z::c=>by simp [Aw]
 |x::z::a,c=>by
  have ih:=Xp (z::a) c;simp only [zai,Aw,zn] at ih ⊢;omega
theorem Eu {α:Type}{g:α→Bs}{xs:List α}{k:Nat}(h:k < xs.length):Aw ((xs.take (k+1)).map g)=Aw ((xs.take k).map g)++((if k=0 then [] else [44,32])++g xs[k]):=by
 rw [zl h,zab];rw [show List.map g [xs[k]]=[g xs[k]] from rfl,SA];congr 2
 cases k with
 |zero=>simp
 |succ k=>
  have:((xs.take (k+1)).map g).isEmpty=false:=by
   cases xs with
   |nil=>simp at h
   |cons x xs=>rfl
  rw [if_neg (by rw [this];decide),if_neg zo]
theorem GG {α:Type}(g:α→Bs)(xs:List α)(k:Nat):(Aw ((xs.take k).map g)).length≤(Aw (xs.map g)).length:=by
 have:=Xp ((xs.take k).map g) ((xs.drop k).map g);rwa [←zab,zad] at this
def FnW {α:Type}(ω:Om)(b:Nat)(w:Value)(F:LH)(fv:Value)(R:Imm→α→Value→Prop)(g:α→Bs)(xs:List α)(I0:Imm):Prop:=
 ∀x∈xs,∀(I:Imm) (X:LH) (l:Bs) (v:Value) (K:Value→M),Ext I0 I→StL I w wordsL→WrS b w X l→R I x v→(l++g x).length≤1000000000→(∀I' X',Ext I I'→WrS b w X' (l++g x)→K (.tuple #[]) I' (X'++F))→CW ω fv #[v] K I (X++F)
def Ko {α:Type}(R:Imm→α→List Value→Prop)(I:Imm)(x:α)(v:Value):Prop:=∃c,v= .agg c.toArray∧R I x c
def ARR {α:Type}(R:Imm→α→List Value→Prop)(I:Imm)(x:α)(v:Value):Prop:=R I x [v]
theorem Yz {I:Imm}{L:LH}{K:Value→M}{b n T:Nat}{l:List Value}(h:(b,Obj.cells l.toArray T (0,0))∈L)(hl:l.length=n)(hk:K (.agg l.toArray) I L):Rv none (AC n (.pointer (some ⟨b,0,none⟩))) K I L:=
 rdN hl (λj u hu=>Cell.own h (by simpa using hu)) hk
section
variable {ω:Om}{I:Imm}{L F:LH}{K:Value→M}{b:Nat}{w:Value}{X:LH}{l:Bs}
theorem AEe {fv v:Value}{xs:List (Ex)}{g:Ex→Bs}(hxs:RL ExV 11 I [] v xs)(hw:StL I w wordsL)(hf:FnW ω b w F fv (Ko ExV) g xs I)(hxl:xs.length≤1000000000000)[hs:SplitL X L F](hW:WrS b w X l)(hn:(l++Aw (xs.map g)).length≤1000000000)
  (hk:∀I' X',Ext I I'→WrS b w X' (l++Aw (xs.map g))→K (.tuple #[]) I' (X'++F)):CT ω 206 #[AL b,v,fv] K I L:=by
 refine zAN X ?_;refine APV ?_;unfold ALk;simp only [zAK hxs,SSd,Nat.reduceAdd];refine loop (λq st I' L'=>∃(k:Nat) (X':LH),k+q=xs.length∧st=(.int .i64 k,())∧Ext I I'∧L'=X'++F∧WrS b w X' (l++Aw ((xs.take k).map g))) xs.length ⟨0,X,by omega,rfl,zAC _,rfl,by simpa [Aw] using hW⟩ ?_;rintro q st I' L' ⟨k,X',hkq,rfl,hI',rfl,hW'⟩;unfold ABA;try refine zqe ?_
 refine AB (λhb=>?_) (λhb=>?_)
 ·have hb:k < xs.length:=by
   have:=of_decide_eq_true hb;omega
  obtain ⟨bt,off,c1,g1,gl,g2,g3⟩:=zAR hxs (i:=k) zo zo;rw [Am hb] at g2;have g2o:=g2;have g2:=ExV.mono hI' g2;have hct:=Eu (g:=g) hb;have hcl:=GG g xs (k+1);rw [hct] at hcl;simp only [zn] at hcl hn;simp only [g1,SSd,Nat.reduceAdd];have hone:=ExV.one g2;refine Ep (g3 _ [] hI' (λ_ h=>h)) (zAC _) gl ?_;refine AQ (λb3=>?_);refine stB gl rfl hone ?_;try refine zqe ?_
  have fin:∀(I2:Imm) (X2:LH) (l2:Bs) (Y:LH),Ext I I2→WrS b w X2 l2→l2++g xs[k]=l++Aw ((xs.take (k+1)).map g)→SubP (X2++((b3,.cells c1.toArray 37 (0,0))::F)) Y→PL ω fv (AL b3) (.int .i64 k) (λs'=>Gh λI2 L2=>∃m',m' < q∧∃(k:Nat) (X':LH),k+m'=xs.length∧s'=(.int .i64 k,())∧Ext I I2∧L2=X'++F∧WrS b w X' (l++Aw ((xs.take k).map g))) (λv=>Gh (K v)) I2 Y:=by
   intro I2 X2 l2 Y hI2 hW2 hl2 hY;unfold PL;refine Yz (l:=c1) (T:=37) (by obtain ⟨R,hR⟩:=hY.sub;exact hR.mem_iff.2 zy) gl ?_;refine Gj ?_;refine CalV.to (X2++F) (hs:=?_) ?_
   ·obtain ⟨R,hR⟩:=hY.sub;exact ⟨(b3,.cells c1.toArray 37 (0,0))::R,hR.trans (by rw [zi,zi];exact zaB X2 (by rw [zai];exact zaw.symm))⟩
   refine hf _ (zH hb) I2 X2 l2 _ _ hI2 (zAJ hw hI2) hW2 ⟨c1,rfl,ExV.mono hI2 g2o⟩ (by rw [hl2,hct];simp only [zn];omega) (λI3 X3 hI3 hW3=>?_);simp only [wrap_i64 ((k:Int)+1) zo,SSd,Nat.reduceAdd];rw [hl2] at hW3;exact zAA ⟨q - 1,by omega,k+1,X3,by omega,rfl,zAB hI2 hI3,rfl,hW3⟩
  refine AB (λh0=>?_) (λh0=>?_)
  ·have h0:k≠0:=by have:=of_decide_eq_true h0;omega
   rw [if_neg h0] at hct hcl;refine Bd (X:=X') hW' (by simp only [zU] at hcl ⊢;omega) (λI2 X2 hI2 hW2=>?_);exact fin I2 X2 _ _ (zAB hI' hI2) hW2 (by rw [hct];simp) inferInstance
  ·have h0:k=0:=by have:=of_decide_eq_false h0;omega
   rw [if_pos h0] at hct;exact fin I' X' _ _ hI' hW' (by rw [hct];simp) inferInstance
 ·have hb:¬k < xs.length:=by
   have:=of_decide_eq_false hb;omega
  rw [zg zo] at hW';exact zAA (hk I' X' hI' hW')
theorem AAN {fv v:Value}{xs:List (TSet)}{g:TSet→Bs}(hxs:RL TSetV 12 I [] v xs)(hw:StL I w wordsL)(hf:FnW ω b w F fv (Ko TSetV) g xs I)(hxl:xs.length≤1000000000000)[hs:SplitL X L F](hW:WrS b w X l)(hn:(l++Aw (xs.map g)).length≤1000000000)
  (hk:∀I' X',Ext I I'→WrS b w X' (l++Aw (xs.map g))→K (.tuple #[]) I' (X'++F)):CT ω 118 #[AL b,v,fv] K I L:=by
 refine zAN X ?_;refine AQt ?_;unfold AMt;simp only [zAK hxs,SSd,Nat.reduceAdd];refine loop (λq st I' L'=>∃(k:Nat) (X':LH),k+q=xs.length∧st=(.int .i64 k,())∧Ext I I'∧L'=X'++F∧WrS b w X' (l++Aw ((xs.take k).map g))) xs.length ⟨0,X,by omega,rfl,zAC _,rfl,by simpa [Aw] using hW⟩ ?_;rintro q st I' L' ⟨k,X',hkq,rfl,hI',rfl,hW'⟩;unfold ABu;try refine zqe ?_
 refine AB (λhb=>?_) (λhb=>?_)
 ·have hb:k < xs.length:=by
   have:=of_decide_eq_true hb;omega
  obtain ⟨bt,off,c1,g1,gl,g2,g3⟩:=zAR hxs (i:=k) zo zo;rw [Am hb] at g2;have g2o:=g2;have g2:=g2.mono hI';have hct:=Eu (g:=g) hb;have hcl:=GG g xs (k+1);rw [hct] at hcl;simp only [zn] at hcl hn;simp only [g1,SSd,Nat.reduceAdd];have hone:=TSetV.one g2;refine Ep (g3 _ [] hI' (λ_ h=>h)) (zAC _) gl ?_;refine AQ (λb3=>?_);refine stB gl rfl hone ?_;try refine zqe ?_
  have fin:∀(I2:Imm) (X2:LH) (l2:Bs) (Y:LH),Ext I I2→WrS b w X2 l2→l2++g xs[k]=l++Aw ((xs.take (k+1)).map g)→SubP (X2++((b3,.cells c1.toArray 99 (0,0))::F)) Y→Pz ω fv (AL b3) (.int .i64 k) (λs'=>Gh λI2 L2=>∃m',m' < q∧∃(k:Nat) (X':LH),k+m'=xs.length∧s'=(.int .i64 k,())∧Ext I I2∧L2=X'++F∧WrS b w X' (l++Aw ((xs.take k).map g))) (λv=>Gh (K v)) I2 Y:=by
   intro I2 X2 l2 Y hI2 hW2 hl2 hY;unfold Pz;refine Yz (l:=c1) (T:=99) (by obtain ⟨R,hR⟩:=hY.sub;exact hR.mem_iff.2 zy) gl ?_;refine Gj ?_;refine CalV.to (X2++F) (hs:=?_) ?_
   ·obtain ⟨R,hR⟩:=hY.sub;exact ⟨(b3,.cells c1.toArray 99 (0,0))::R,hR.trans (by rw [zi,zi];exact zaB X2 (by rw [zai];exact zaw.symm))⟩
   refine hf _ (zH hb) I2 X2 l2 _ _ hI2 (zAJ hw hI2) hW2 ⟨c1,rfl,g2o.mono hI2⟩ (by rw [hl2,hct];simp only [zn];omega) (λI3 X3 hI3 hW3=>?_);simp only [wrap_i64 ((k:Int)+1) zo,SSd,Nat.reduceAdd];rw [hl2] at hW3;exact zAA ⟨q - 1,by omega,k+1,X3,by omega,rfl,zAB hI2 hI3,rfl,hW3⟩
  refine AB (λh0=>?_) (λh0=>?_)
  ·have h0:k≠0:=by have:=of_decide_eq_true h0;omega
   rw [if_neg h0] at hct hcl;refine Bd (X:=X') hW' (by simp only [zU] at hcl ⊢;omega) (λI2 X2 hI2 hW2=>?_);exact fin I2 X2 _ _ (zAB hI' hI2) hW2 (by rw [hct];simp) inferInstance
  ·have h0:k=0:=by have:=of_decide_eq_false h0;omega
   rw [if_pos h0] at hct;exact fin I' X' _ _ hI' hW' (by rw [hct];simp) inferInstance
 ·have hb:¬k < xs.length:=by
   have:=of_decide_eq_false hb;omega
  rw [zg zo] at hW';exact zAA (hk I' X' hI' hW')
theorem Xo {fv v:Value}{xs:List (TItem)}{g:TItem→Bs}(hxs:RL TItemV 14 I [] v xs)(hw:StL I w wordsL)(hf:FnW ω b w F fv (Ko TItemV) g xs I)(hxl:xs.length≤1000000000000)[hs:SplitL X L F](hW:WrS b w X l)(hn:(l++Aw (xs.map g)).length≤1000000000)
  (hk:∀I' X',Ext I I'→WrS b w X' (l++Aw (xs.map g))→K (.tuple #[]) I' (X'++F)):CT ω 164 #[AL b,v,fv] K I L:=by
 refine zAN X ?_;refine AQF ?_;unfold AMO;simp only [zAK hxs,SSd,Nat.reduceAdd];refine loop (λq st I' L'=>∃(k:Nat) (X':LH),k+q=xs.length∧st=(.int .i64 k,())∧Ext I I'∧L'=X'++F∧WrS b w X' (l++Aw ((xs.take k).map g))) xs.length ⟨0,X,by omega,rfl,zAC _,rfl,by simpa [Aw] using hW⟩ ?_;rintro q st I' L' ⟨k,X',hkq,rfl,hI',rfl,hW'⟩;unfold ABT;try refine zqe ?_
 refine AB (λhb=>?_) (λhb=>?_)
 ·have hb:k < xs.length:=by
   have:=of_decide_eq_true hb;omega
  obtain ⟨bt,off,c1,g1,gl,g2,g3⟩:=zAR hxs (i:=k) zo zo;rw [Am hb] at g2;have g2o:=g2;have g2:=g2.mono hI';have hct:=Eu (g:=g) hb;have hcl:=GG g xs (k+1);rw [hct] at hcl;simp only [zn] at hcl hn;simp only [g1,SSd,Nat.reduceAdd];have hone:=TItemV.one g2;refine Ep (g3 _ [] hI' (λ_ h=>h)) (zAC _) gl ?_;refine AQ (λb3=>?_);refine stB gl rfl hone ?_;try refine zqe ?_
  have fin:∀(I2:Imm) (X2:LH) (l2:Bs) (Y:LH),Ext I I2→WrS b w X2 l2→l2++g xs[k]=l++Aw ((xs.take (k+1)).map g)→SubP (X2++((b3,.cells c1.toArray 119 (0,0))::F)) Y→PV ω fv (AL b3) (.int .i64 k) (λs'=>Gh λI2 L2=>∃m',m' < q∧∃(k:Nat) (X':LH),k+m'=xs.length∧s'=(.int .i64 k,())∧Ext I I2∧L2=X'++F∧WrS b w X' (l++Aw ((xs.take k).map g))) (λv=>Gh (K v)) I2 Y:=by
   intro I2 X2 l2 Y hI2 hW2 hl2 hY;unfold PV;refine Yz (l:=c1) (T:=119) (by obtain ⟨R,hR⟩:=hY.sub;exact hR.mem_iff.2 zy) gl ?_;refine Gj ?_;refine CalV.to (X2++F) (hs:=?_) ?_
   ·obtain ⟨R,hR⟩:=hY.sub;exact ⟨(b3,.cells c1.toArray 119 (0,0))::R,hR.trans (by rw [zi,zi];exact zaB X2 (by rw [zai];exact zaw.symm))⟩
   refine hf _ (zH hb) I2 X2 l2 _ _ hI2 (zAJ hw hI2) hW2 ⟨c1,rfl,g2o.mono hI2⟩ (by rw [hl2,hct];simp only [zn];omega) (λI3 X3 hI3 hW3=>?_);simp only [wrap_i64 ((k:Int)+1) zo,SSd,Nat.reduceAdd];rw [hl2] at hW3;exact zAA ⟨q - 1,by omega,k+1,X3,by omega,rfl,zAB hI2 hI3,rfl,hW3⟩
  refine AB (λh0=>?_) (λh0=>?_)
  ·have h0:k≠0:=by have:=of_decide_eq_true h0;omega
   rw [if_neg h0] at hct hcl;refine Bd (X:=X') hW' (by simp only [zU] at hcl ⊢;omega) (λI2 X2 hI2 hW2=>?_);exact fin I2 X2 _ _ (zAB hI' hI2) hW2 (by rw [hct];simp) inferInstance
  ·have h0:k=0:=by have:=of_decide_eq_false h0;omega
   rw [if_pos h0] at hct;exact fin I' X' _ _ hI' hW' (by rw [hct];simp) inferInstance
 ·have hb:¬k < xs.length:=by
   have:=of_decide_eq_false hb;omega
  rw [zg zo] at hW';exact zAA (hk I' X' hI' hW')
theorem Vy {fv v:Value}{xs:List (TOrder)}{g:TOrder→Bs}(hxs:RL TOrderV 12 I [] v xs)(hw:StL I w wordsL)(hf:FnW ω b w F fv (Ko TOrderV) g xs I)(hxl:xs.length≤1000000000000)[hs:SplitL X L F](hW:WrS b w X l)(hn:(l++Aw (xs.map g)).length≤1000000000)
  (hk:∀I' X',Ext I I'→WrS b w X' (l++Aw (xs.map g))→K (.tuple #[]) I' (X'++F)):CT ω 169 #[AL b,v,fv] K I L:=by
 refine zAN X ?_;refine AQA ?_;unfold AMK;simp only [zAK hxs,SSd,Nat.reduceAdd];refine loop (λq st I' L'=>∃(k:Nat) (X':LH),k+q=xs.length∧st=(.int .i64 k,())∧Ext I I'∧L'=X'++F∧WrS b w X' (l++Aw ((xs.take k).map g))) xs.length ⟨0,X,by omega,rfl,zAC _,rfl,by simpa [Aw] using hW⟩ ?_;rintro q st I' L' ⟨k,X',hkq,rfl,hI',rfl,hW'⟩;unfold ABR;try refine zqe ?_
 refine AB (λhb=>?_) (λhb=>?_)
 ·have hb:k < xs.length:=by
   have:=of_decide_eq_true hb;omega
  obtain ⟨bt,off,c1,g1,gl,g2,g3⟩:=zAR hxs (i:=k) zo zo;rw [Am hb] at g2;have g2o:=g2;have g2:=g2.mono hI';have hct:=Eu (g:=g) hb;have hcl:=GG g xs (k+1);rw [hct] at hcl;simp only [zn] at hcl hn;simp only [g1,SSd,Nat.reduceAdd];have hone:=TOrderV.one g2;refine Ep (g3 _ [] hI' (λ_ h=>h)) (zAC _) gl ?_;refine AQ (λb3=>?_);refine stB gl rfl hone ?_;try refine zqe ?_
  have fin:∀(I2:Imm) (X2:LH) (l2:Bs) (Y:LH),Ext I I2→WrS b w X2 l2→l2++g xs[k]=l++Aw ((xs.take (k+1)).map g)→SubP (X2++((b3,.cells c1.toArray 127 (0,0))::F)) Y→PT ω fv (AL b3) (.int .i64 k) (λs'=>Gh λI2 L2=>∃m',m' < q∧∃(k:Nat) (X':LH),k+m'=xs.length∧s'=(.int .i64 k,())∧Ext I I2∧L2=X'++F∧WrS b w X' (l++Aw ((xs.take k).map g))) (λv=>Gh (K v)) I2 Y:=by
   intro I2 X2 l2 Y hI2 hW2 hl2 hY;unfold PT;refine Yz (l:=c1) (T:=127) (by obtain ⟨R,hR⟩:=hY.sub;exact hR.mem_iff.2 zy) gl ?_;refine Gj ?_;refine CalV.to (X2++F) (hs:=?_) ?_
   ·obtain ⟨R,hR⟩:=hY.sub;exact ⟨(b3,.cells c1.toArray 127 (0,0))::R,hR.trans (by rw [zi,zi];exact zaB X2 (by rw [zai];exact zaw.symm))⟩
   refine hf _ (zH hb) I2 X2 l2 _ _ hI2 (zAJ hw hI2) hW2 ⟨c1,rfl,g2o.mono hI2⟩ (by rw [hl2,hct];simp only [zn];omega) (λI3 X3 hI3 hW3=>?_);simp only [wrap_i64 ((k:Int)+1) zo,SSd,Nat.reduceAdd];rw [hl2] at hW3;exact zAA ⟨q - 1,by omega,k+1,X3,by omega,rfl,zAB hI2 hI3,rfl,hW3⟩
  refine AB (λh0=>?_) (λh0=>?_)
  ·have h0:k≠0:=by have:=of_decide_eq_true h0;omega
   rw [if_neg h0] at hct hcl;refine Bd (X:=X') hW' (by simp only [zU] at hcl ⊢;omega) (λI2 X2 hI2 hW2=>?_);exact fin I2 X2 _ _ (zAB hI' hI2) hW2 (by rw [hct];simp) inferInstance
  ·have h0:k=0:=by have:=of_decide_eq_false h0;omega
   rw [if_pos h0] at hct;exact fin I' X' _ _ hI' hW' (by rw [hct];simp) inferInstance
 ·have hb:¬k < xs.length:=by
   have:=of_decide_eq_false hb;omega
  rw [zg zo] at hW';exact zAA (hk I' X' hI' hW')
theorem AAP {fv v:Value}{xs:List (TCol)}{g:TCol→Bs}(hxs:RL TColV 16 I [] v xs)(hw:StL I w wordsL)(hf:FnW ω b w F fv (Ko TColV) g xs I)(hxl:xs.length≤1000000000000)[hs:SplitL X L F](hW:WrS b w X l)(hn:(l++Aw (xs.map g)).length≤1000000000)
  (hk:∀I' X',Ext I I'→WrS b w X' (l++Aw (xs.map g))→K (.tuple #[]) I' (X'++F)):CT ω 180 #[AL b,v,fv] K I L:=by
 refine zAN X ?_;refine APr ?_;unfold AMC;simp only [zAK hxs,SSd,Nat.reduceAdd];refine loop (λq st I' L'=>∃(k:Nat) (X':LH),k+q=xs.length∧st=(.int .i64 k,())∧Ext I I'∧L'=X'++F∧WrS b w X' (l++Aw ((xs.take k).map g))) xs.length ⟨0,X,by omega,rfl,zAC _,rfl,by simpa [Aw] using hW⟩ ?_;rintro q st I' L' ⟨k,X',hkq,rfl,hI',rfl,hW'⟩;unfold ABM;try refine zqe ?_
 refine AB (λhb=>?_) (λhb=>?_)
 ·have hb:k < xs.length:=by
   have:=of_decide_eq_true hb;omega
  obtain ⟨bt,off,c1,g1,gl,g2,g3⟩:=zAR hxs (i:=k) zo zo;rw [Am hb] at g2;have g2o:=g2;have g2:=g2.mono hI';have hct:=Eu (g:=g) hb;have hcl:=GG g xs (k+1);rw [hct] at hcl;simp only [zn] at hcl hn;simp only [g1,SSd,Nat.reduceAdd];have hone:=TColV.one g2;refine Ep (g3 _ [] hI' (λ_ h=>h)) (zAC _) gl ?_;refine AQ (λb3=>?_);refine stB gl rfl hone ?_;try refine zqe ?_
  have fin:∀(I2:Imm) (X2:LH) (l2:Bs) (Y:LH),Ext I I2→WrS b w X2 l2→l2++g xs[k]=l++Aw ((xs.take (k+1)).map g)→SubP (X2++((b3,.cells c1.toArray 101 (0,0))::F)) Y→PO ω fv (AL b3) (.int .i64 k) (λs'=>Gh λI2 L2=>∃m',m' < q∧∃(k:Nat) (X':LH),k+m'=xs.length∧s'=(.int .i64 k,())∧Ext I I2∧L2=X'++F∧WrS b w X' (l++Aw ((xs.take k).map g))) (λv=>Gh (K v)) I2 Y:=by
   intro I2 X2 l2 Y hI2 hW2 hl2 hY;unfold PO;refine Yz (l:=c1) (T:=101) (by obtain ⟨R,hR⟩:=hY.sub;exact hR.mem_iff.2 zy) gl ?_;refine Gj ?_;refine CalV.to (X2++F) (hs:=?_) ?_
   ·obtain ⟨R,hR⟩:=hY.sub;exact ⟨(b3,.cells c1.toArray 101 (0,0))::R,hR.trans (by rw [zi,zi];exact zaB X2 (by rw [zai];exact zaw.symm))⟩
   refine hf _ (zH hb) I2 X2 l2 _ _ hI2 (zAJ hw hI2) hW2 ⟨c1,rfl,g2o.mono hI2⟩ (by rw [hl2,hct];simp only [zn];omega) (λI3 X3 hI3 hW3=>?_);simp only [wrap_i64 ((k:Int)+1) zo,SSd,Nat.reduceAdd];rw [hl2] at hW3;exact zAA ⟨q - 1,by omega,k+1,X3,by omega,rfl,zAB hI2 hI3,rfl,hW3⟩
  refine AB (λh0=>?_) (λh0=>?_)
  ·have h0:k≠0:=by have:=of_decide_eq_true h0;omega
   rw [if_neg h0] at hct hcl;refine Bd (X:=X') hW' (by simp only [zU] at hcl ⊢;omega) (λI2 X2 hI2 hW2=>?_);exact fin I2 X2 _ _ (zAB hI' hI2) hW2 (by rw [hct];simp) inferInstance
  ·have h0:k=0:=by have:=of_decide_eq_false h0;omega
   rw [if_pos h0] at hct;exact fin I' X' _ _ hI' hW' (by rw [hct];simp) inferInstance
 ·have hb:¬k < xs.length:=by
   have:=of_decide_eq_false hb;omega
  rw [zg zo] at hW';exact zAA (hk I' X' hI' hW')
theorem AAM {fv v:Value}{xs:List (Bs)}{g:Bs→Bs}(hxs:RL StrV 1 I [] v xs)(hw:StL I w wordsL)(hf:FnW ω b w F fv (ARR StrV) g xs I)(hxl:xs.length≤1000000000000)[hs:SplitL X L F](hW:WrS b w X l)(hn:(l++Aw (xs.map g)).length≤1000000000)
  (hk:∀I' X',Ext I I'→WrS b w X' (l++Aw (xs.map g))→K (.tuple #[]) I' (X'++F)):CT ω 174 #[AL b,v,fv] K I L:=by
 refine zAN X ?_;refine APx ?_;unfold AMI;simp only [zAK hxs,SSd,Nat.reduceAdd];refine loop (λq st I' L'=>∃(k:Nat) (X':LH),k+q=xs.length∧st=(.int .i64 k,())∧Ext I I'∧L'=X'++F∧WrS b w X' (l++Aw ((xs.take k).map g))) xs.length ⟨0,X,by omega,rfl,zAC _,rfl,by simpa [Aw] using hW⟩ ?_;rintro q st I' L' ⟨k,X',hkq,rfl,hI',rfl,hW'⟩;unfold ABQ;try refine zqe ?_
 refine AB (λhb=>?_) (λhb=>?_)
 ·have hb:k < xs.length:=by
   have:=of_decide_eq_true hb;omega
  obtain ⟨bt,off,c1,g1,gl,g2,g3⟩:=zAR hxs (i:=k) zo zo;rw [Am hb] at g2;have g2o:=g2;have g2:=g2;have hct:=Eu (g:=g) hb;have hcl:=GG g xs (k+1);rw [hct] at hcl;simp only [zn] at hcl hn;simp only [g1,SSd,Nat.reduceAdd];obtain ⟨u,rfl⟩:∃u,c1=[u]:=by match c1,gl with|[u],_=>exact ⟨u,rfl⟩
  refine rdC (g3 _ [] hI' (λ_ h=>h) 0 _ rfl) (zAC _) ?_;try refine zqe ?_
  have fin:∀(I2:Imm) (X2:LH) (l2:Bs) (Y:LH),Ext I I2→WrS b w X2 l2→l2++g xs[k]=l++Aw ((xs.take (k+1)).map g)→SubP (X2++F) Y→PS ω fv u (.int .i64 k) (λs'=>Gh λI2 L2=>∃m',m' < q∧∃(k:Nat) (X':LH),k+m'=xs.length∧s'=(.int .i64 k,())∧Ext I I2∧L2=X'++F∧WrS b w X' (l++Aw ((xs.take k).map g))) (λv=>Gh (K v)) I2 Y:=by
   intro I2 X2 l2 Y hI2 hW2 hl2 hY;unfold PS;refine Gj ?_;refine CalV.to (X2++F) (hs:=?_) ?_
   ·obtain ⟨R,hR⟩:=hY.sub;exact ⟨R,hR⟩
   refine hf _ (zH hb) I2 X2 l2 _ _ hI2 (zAJ hw hI2) hW2 (show StrV _ _ _ from g2o) (by rw [hl2,hct];simp only [zn];omega) (λI3 X3 hI3 hW3=>?_);simp only [wrap_i64 ((k:Int)+1) zo,SSd,Nat.reduceAdd];rw [hl2] at hW3;exact zAA ⟨q - 1,by omega,k+1,X3,by omega,rfl,zAB hI2 hI3,rfl,hW3⟩
  refine AB (λh0=>?_) (λh0=>?_)
  ·have h0:k≠0:=by have:=of_decide_eq_true h0;omega
   rw [if_neg h0] at hct hcl;refine Bd (X:=X') hW' (by simp only [zU] at hcl ⊢;omega) (λI2 X2 hI2 hW2=>?_);exact fin I2 X2 _ _ (zAB hI' hI2) hW2 (by rw [hct];simp) inferInstance
  ·have h0:k=0:=by have:=of_decide_eq_false h0;omega
   rw [if_pos h0] at hct;exact fin I' X' _ _ hI' hW' (by rw [hct];simp) inferInstance
 ·have hb:¬k < xs.length:=by
   have:=of_decide_eq_false hb;omega
  rw [zg zo] at hW';exact zAA (hk I' X' hI' hW')
theorem AAO {fv v:Value}{xs:List (List Ex)}{g:List Ex→Bs}(hxs:RL (FX ExV 11) 1 I [] v xs)(hw:StL I w wordsL)(hf:FnW ω b w F fv (ARR (FX ExV 11)) g xs I)(hxl:xs.length≤1000000000000)[hs:SplitL X L F](hW:WrS b w X l)(hn:(l++Aw (xs.map g)).length≤1000000000)
  (hk:∀I' X',Ext I I'→WrS b w X' (l++Aw (xs.map g))→K (.tuple #[]) I' (X'++F)):CT ω 116 #[AL b,v,fv] K I L:=by
 refine zAN X ?_;refine AQv ?_;unfold AMv;simp only [zAK hxs,SSd,Nat.reduceAdd];refine loop (λq st I' L'=>∃(k:Nat) (X':LH),k+q=xs.length∧st=(.int .i64 k,())∧Ext I I'∧L'=X'++F∧WrS b w X' (l++Aw ((xs.take k).map g))) xs.length ⟨0,X,by omega,rfl,zAC _,rfl,by simpa [Aw] using hW⟩ ?_;rintro q st I' L' ⟨k,X',hkq,rfl,hI',rfl,hW'⟩;unfold ABv;try refine zqe ?_
 refine AB (λhb=>?_) (λhb=>?_)
 ·have hb:k < xs.length:=by
   have:=of_decide_eq_true hb;omega
  obtain ⟨bt,off,c1,g1,gl,g2,g3⟩:=zAR hxs (i:=k) zo zo;rw [Am hb] at g2;have g2o:=g2;have g2:=LstX.mono g2 hI';have hct:=Eu (g:=g) hb;have hcl:=GG g xs (k+1);rw [hct] at hcl;simp only [zn] at hcl hn;simp only [g1,SSd,Nat.reduceAdd];obtain ⟨u,rfl⟩:∃u,c1=[u]:=by match c1,gl with|[u],_=>exact ⟨u,rfl⟩
  refine rdC (g3 _ [] hI' (λ_ h=>h) 0 _ rfl) (zAC _) ?_;try refine zqe ?_
  have fin:∀(I2:Imm) (X2:LH) (l2:Bs) (Y:LH),Ext I I2→WrS b w X2 l2→l2++g xs[k]=l++Aw ((xs.take (k+1)).map g)→SubP (X2++F) Y→QA ω fv u (.int .i64 k) (λs'=>Gh λI2 L2=>∃m',m' < q∧∃(k:Nat) (X':LH),k+m'=xs.length∧s'=(.int .i64 k,())∧Ext I I2∧L2=X'++F∧WrS b w X' (l++Aw ((xs.take k).map g))) (λv=>Gh (K v)) I2 Y:=by
   intro I2 X2 l2 Y hI2 hW2 hl2 hY;unfold QA;refine Gj ?_;refine CalV.to (X2++F) (hs:=?_) ?_
   ·obtain ⟨R,hR⟩:=hY.sub;exact ⟨R,hR⟩
   refine hf _ (zH hb) I2 X2 l2 _ _ hI2 (zAJ hw hI2) hW2 (show (FX ExV 11) _ _ _ from LstX.mono g2o hI2) (by rw [hl2,hct];simp only [zn];omega) (λI3 X3 hI3 hW3=>?_);simp only [wrap_i64 ((k:Int)+1) zo,SSd,Nat.reduceAdd];rw [hl2] at hW3;exact zAA ⟨q - 1,by omega,k+1,X3,by omega,rfl,zAB hI2 hI3,rfl,hW3⟩
  refine AB (λh0=>?_) (λh0=>?_)
  ·have h0:k≠0:=by have:=of_decide_eq_true h0;omega
   rw [if_neg h0] at hct hcl;refine Bd (X:=X') hW' (by simp only [zU] at hcl ⊢;omega) (λI2 X2 hI2 hW2=>?_);exact fin I2 X2 _ _ (zAB hI' hI2) hW2 (by rw [hct];simp) inferInstance
  ·have h0:k=0:=by have:=of_decide_eq_false h0;omega
   rw [if_pos h0] at hct;exact fin I' X' _ _ hI' hW' (by rw [hct];simp) inferInstance
 ·have hb:¬k < xs.length:=by
   have:=of_decide_eq_false hb;omega
  rw [zg zo] at hW';exact zAA (hk I' X' hI' hW')
end
theorem GV {x:Ex}:∀{l:List Ex},x∈l→DC x≤BU l
 |y::l,h=>by
  rcases zZ.1 h with rfl|h
  ·simp only [BU];omega
  ·have:=GV h;simp only [BU];omega
theorem Rf (b:Bool):∀(n:Nat) (x:Ex) (k:Int),DC x≤n→∀m,DC x≤m→Tz b n x k=Tz b m x k
 |0,x,k,h,_,_=>by have:=Gs x;omega
 |n+1,x,k,h,0,h'=>by have:=Gs x;omega
 |n+1,x,k,h,m+1,h'=>by
  simp only [Tz];congr 2
  funext i lv
  cases hx:x.args[i]? with
  |none=>rfl
  |some y=>
   have hm:=GV (zbc hx);have:=ED x;exact Rf b n y lv zo m zo
def CE (b:Bool)(x:Ex)(i:Nat)(k:Int):Bs:=match x.args[i]? with
 |some y=>exB b y k
 |none=>[63]
theorem AOR (b:Bool)(x:Ex)(k:Int):exB b x k=AKT (decide (AKX x.kind < k)) (BO b x (CE b x)):=by
 unfold exB;have hd:=ED x;rw [show DC x=BU x.args+1 from hd];simp only [Tz];congr 2
 funext i lv
 unfold CE;cases hx:x.args[i]? with
 |none=>rfl
 |some y=>
  have hm:=GV (zbc hx);exact Rf b _ y lv hm _ (zW _)
theorem OE {b:Bool}{x:Ex}{i:Nat}(h:i < x.args.length)(k:Int):CE b x i k=exB b x.args[i] k:=by
 unfold CE;rw [zan h]
theorem AEm {b:Bool}{x:Ex}{i:Nat}(h:¬i < x.args.length)(k:Int):CE b x i k=[63]:=by
 unfold CE;rw [List.getElem?_eq_none zo]
theorem LU (b:Bool)(x:Ex)(d:Nat):((List.range (x.args.length - d)).map λi=>CE b x (i+d) 1)=(x.args.drop d).map λy=>exB b y 1:=by
 apply List.ext_getElem
 ·simp
 ·intro i h1 h2;simp only [zau,List.length_range] at h1;rw [List.getElem_map,List.getElem_range,List.getElem_map,List.getElem_drop,OE zo];congr 2;omega
theorem AFN (k:Int):(Gx k).all (λp=>decide (1≤p.2)&&decide (p.2≤6))=true:=by
 unfold Gx;by_cases h22:k=22
 ·subst h22;rfl
 by_cases h21:k=21
 ·subst h21;rfl
 by_cases h23:k=23
 ·subst h23;rfl
 by_cases h15:k=15
 ·subst h15;rfl
 by_cases h16:k=16
 ·subst h16;rfl
 by_cases h17:k=17
 ·subst h17;rfl
 by_cases h18:k=18
 ·subst h18;rfl
 by_cases h19:k=19
 ·subst h19;rfl
 by_cases h20:k=20
 ·subst h20;rfl
 by_cases h9:k=9
 ·subst h9;rfl
 by_cases h10:k=10
 ·subst h10;rfl
 by_cases h14:k=14
 ·subst h14;rfl
 by_cases h11:k=11
 ·subst h11;rfl
 by_cases h12:k=12
 ·subst h12;rfl
 by_cases h13:k=13
 ·subst h13;rfl
 simp only [h22,h21,h23,h15,h16,h17,h18,h19,h20,h9,h10,h14,h11,h12,h13,if_false];rfl
theorem Qa {k:Int}{s:Bs}{n:Int}(h:Gx k=some (s,n)):1≤n∧n≤6:=by
 have:=AFN k;rw [h] at this;simpa using this
mutual
def okE:Ex→Prop
 | .mk _ v _ _ _ _ _ l=>okI v.fInt∧l.length≤1000000000000∧okL l
def okL:List Ex→Prop
 |[]=>True
 |x::l=>okE x∧okL l
end
theorem Ib {x:Ex}(h:okE x):okI x.value.fInt∧x.args.length≤1000000000000∧okL x.args:=by cases x;simpa only [okE,Ex.value,Ex.args] using h
theorem IL {x:Ex}:∀{l:List Ex},okL l→x∈l→okE x
 |y::l,h,hx=>by
  rcases zZ.1 hx with rfl|hx
  ·exact h.1
  ·exact IL h.2 hx
theorem Va:∀{l:List Ex},(∀x∈l,okE x)→okL l
 |[],_=>trivial
 |x::l,h=>⟨h x (zK ..),Va λy hy=>h y (zN _ hy)⟩
def SH (ω:Om)(G:Imm)(b:Nat)(w:Value)(n:Nat):Prop:=∀(x:Ex),DC x≤n→okE x→∀(k:Int) (I:Imm) (X F:LH) (l:Bs) (c:List Value) (K:Value→M),Ext G I→StL I w wordsL→WrS b w X l→ExV I x c→
 (l++exB true x k).length≤1000000000→(∀I' X',Ext I I'→WrS b w X' (l++exB true x k)→K (.tuple #[]) I' (X'++F))→CT ω 120 #[AL b,.agg c.toArray,.int .i64 k] K I (X++F)
section
variable {ω:Om}{G I:Imm}{L F:LH}{K:Value→M}{b:Nat}{w:Value}{X:LH}{l:Bs}{n:Nat}
theorem Be (hE:SH ω G b w n){x:Ex}(hd:DC x≤n+1)(hx:okE x)(i:Nat)(k:Int)(hGI:Ext G I)(hw:StL I w wordsL)[hs:SplitL X L F](hW:WrS b w X l){c:List Value}(hc:ExV I x c)
  (hn:(l++CE true x i k).length≤1000000000) (hk:∀I' X',Ext I I'→WrS b w X' (l++CE true x i k)→K (.tuple #[]) I' (X'++F)):CT ω 177 #[AL b,.agg c.toArray,.int .i64 (i:Nat),.int .i64 k] K I L:=by
 refine zAN X ?_;refine APu ?_;unfold AMF;obtain ⟨v,rfl,ha⟩:=ExV.iff.1 hc;refine AQ (λbx=>?_);try refine zqe ?_
 refine rdb ?_;simp only [zAK ha,SSd,Nat.reduceAdd];refine AB (λh=>?_) (λh=>?_)
 ·have h:¬i < x.args.length:=by have:=of_decide_eq_true h;omega
  rw [AEm h] at hn hk;refine Bd (X:=X) hW hn (λI' X' hI' hW'=>?_);exact zAE (X'++F) (zAA (hk I' X' hI' hW'))
 ·have h:i < x.args.length:=by have:=of_decide_eq_false h;omega
  rw [OE h] at hn hk;have hdd:=ED x;have hm:=GV (zH h);obtain ⟨bt,off,c1,g1,gl,g2,g3⟩:=zAR ha (i:=i) zo zo;rw [Am h] at g2;try refine zqe ?_
  refine rdb ?_;simp only [g1,SSd,Nat.reduceAdd];refine Ep (g3 _ [] (zAC _) (λ_ h=>h)) (zAC _) gl ?_;refine call (Cal.to (X++F) (hE x.args[i] zo (IL (Ib hx).2.2 (zH h)) k I X F l c1 _ hGI hw hW g2 hn (λI' X' hI' hW'=>?_)));exact zAA (hk I' X' hI' hW')
theorem Xv {P:Program}{f:FuncId}{a:Value}{args:Array Value}(he:Ce P f=true)(h:Cal P ω f (#[a]++args) K I L):CalV P ω (.func (.func f) #[a] #[]) args K I L:=by
 unfold CalV;simp only [he,if_true];simpa using h
theorem QO (hE:SH ω G b w n){xs:List Ex}(hd:BU xs≤n)(hx:okL xs)(hxl:xs.length≤1000000000000)(hGI:Ext G I)(hw:StL I w wordsL)[hs:SplitL X L F](hW:WrS b w X l){v:Value}(hv:ExL I v xs)
  (hn:(l++Jq true xs).length≤1000000000) (hk:∀I' X',Ext I I'→WrS b w X' (l++Jq true xs)→K (.tuple #[]) I' (X'++F)):CT ω 168 #[AL b,v] K I L:=by
 refine zAN X ?_;refine AQB ?_;unfold AML;refine AQ (o:=.cells [AL b].toArray 108 (0,0)) (λbw=>?_);refine rdb ?_;refine call (AEe (X:=X) (g:=λx=>exB true x 1) (F:=(bw,.cells [AL b].toArray 108 (0,0))::F) hv hw ?_ hxl hW hn (λI' X' hI' hW'=>?_) (hs:=⟨zaw.symm⟩))
 ·intro x hxm I2 X2 l2 vx K2 hI2 hw2 hW2 hvx hn2 hk2;obtain ⟨c,rfl,hc⟩:=hvx;obtain ⟨v',rfl,ha⟩:=ExV.iff.1 hc;refine Hr (by kernel_rfl) ?_;refine APU ?_;show AGS ω (.agg (Ag x v').toArray) (AL bw) _ I2 _;unfold AGS;refine AQ (λbx=>?_);refine rdb ?_;refine rdB rfl ?_;refine call (Cal.to (X2++((bw,.cells [AL b].toArray 108 (0,0))::F)) (hE x (Nat.le_trans (GV hxm) hd) (IL hx hxm) 1 I2 X2 _ l2 _ _ (zAB hGI hI2) hw2 hW2 hc hn2 (λI3 X3 hI3 hW3=>?_)));exact zAA (hk2 I3 X3 hI3 hW3)
 ·exact zAE (X'++F) (zAA (hk I' X' hI' hW'))
theorem KE (hE:SH ω G b w n){xs:List Ex}(hd:BU xs≤n)(hx:okL xs)(hxl:xs.length≤1000000000000)(hGI:Ext G I)(hw:StL I w wordsL)[hs:SplitL X L F](hW:WrS b w X l){v:Value}(hv:ExL I v xs)
  (hn:(l++rowB true xs).length≤1000000000) (hk:∀I' X',Ext I I'→WrS b w X' (l++rowB true xs)→K (.tuple #[]) I' (X'++F)):CT ω 117 #[AL b,v] K I L:=by
 refine zAN X ?_;refine AQu ?_;unfold AMu;have he:rowB true xs=[40]++(Jq true xs++[41]):=by simp [rowB]
 rw [he] at hn hk;simp only [zn] at hn;refine Bd hW (by simp only [zn];omega) (λI1 X1 hI1 hW1=>?_);refine call (QO hE hd hx hxl (zAB hGI hI1) (zAJ hw hI1) hW1 (zAI hv hI1) (by simp only [zn];omega) (λI2 X2 hI2 hW2=>?_));refine Bd hW2 (by simp only [zn];omega) (λI3 X3 hI3 hW3=>?_);exact zAA (hk I3 X3 (zAB hI1 (zAB hI2 hI3)) (by simpa using hW3))
end
def caseT (n:Nat)(arg:Nat→Int→Bs)(k:Nat):Bs:=(List.range k).flatMap λi=>(if i % 2=1 then [32,116,104,101,110,32] else if i+1=n then [32,101,108,115,101,32] else [32,119,104,101,110,32])++arg i 1
theorem SE (n:Nat)(arg:Nat→Int→Bs)(k:Nat):caseT n arg (k+1)=caseT n arg k++((if k % 2=1 then [32,116,104,101,110,32] else if k+1=n then [32,101,108,115,101,32] else [32,119,104,101,110,32])++arg k 1):=by
 unfold caseT;rw [List.range_succ,List.flatMap_append];simp
theorem Xr (n:Nat)(arg:Nat→Int→Bs):∀(d k:Nat),(caseT n arg k).length≤(caseT n arg (k+d)).length
 |0,k=>zW _
 |d+1,k=>by
  have:=Xr n arg d k;rw [←zbe,SE,zn];omega
def OI (x:Ex):Bool:=x.name==[99,111,117,110,116]&&x.args.length==1&&(x.args.getD 0 ex0).kind==3
def Xu (x:Ex):Bs:=
 if x.kind=8 then [108,101,110,103,116,104,40]++CE true x 0 1++[41] else
 if x.kind=27 then [99,111,97,108,101,115,99,101,40]++Jq true x.args++[41] else
 if x.kind=26 then [99,97,115,101]++caseT x.args.length (CE true x) x.args.length++[32,101,110,100] else
 if x.kind=28 then x.name++[40]++(if x.distinct then [100,105,115,116,105,110,99,116,32] else [])++(if OI x then [42] else CE true x 0 1)++[41] else [63]
theorem RN {x:Ex}(hs:Gx x.kind=none)(h:x.kind≠1∧x.kind≠2∧x.kind≠4∧x.kind≠5∧x.kind≠6∧x.kind≠7∧x.kind≠24∧x.kind≠25):BO true x (CE true x)=Xu x:=by
 unfold BO Xu;rw [hs];simp only [h,if_false];have hr:=LU true x 0;simp only [Nat.sub_zero,Nat.add_zero,List.drop_zero] at hr;rw [hr];simp only [Bool.true_or,Bool.and_true,caseT,Jq,OI];rfl
section
variable {ω:Om}{G I:Imm}{L F:LH}{K:Value→M}{b:Nat}{w:Value}{X:LH}{l:Bs}{n:Nat}
theorem QQ (hE:SH ω G b w n){x:Ex}(hd:DC x≤n+1)(hx:okE x)(hGI:Ext G I)(hw:StL I w wordsL)[hs:SplitL X L F](hW:WrS b w X l){c:List Value}(hc:ExV I x c)
  (hn:(l++Xu x).length≤1000000000) (hk:∀I' X',Ext I I'→WrS b w X' (l++Xu x)→K (.tuple #[]) I' (X'++F)):CT ω 179 #[AL b,.agg c.toArray] K I L:=by
 refine zAN X ?_;refine APs ?_;unfold AMD;obtain ⟨v,rfl,ha⟩:=ExV.iff.1 hc;obtain ⟨hv0,hal,hla⟩:=Ib hx;have hdd:=ED x;unfold Xu at hn hk;refine AQ (λbx=>?_);try refine zqe ?_
 refine rdb ?_;try refine zqe ?_
 refine AB (λh=>?_) (λh=>?_)
 ·have h:x.kind=8:=by simpa using h
  rw [if_pos h] at hn hk;simp only [zU] at hn;refine Bd hW zL (λI1 X1 hI1 hW1=>?_);refine rdB rfl ?_;refine call (Be (X:=X1) hE hd hx 0 1 (zAB hGI hI1) (zAJ hw hI1) hW1 (ExV.mono hI1 hc) zL (λI2 X2 hI2 hW2=>?_));refine Bd hW2 zL (λI3 X3 hI3 hW3=>?_);exact zAE (X3++F) (zAA (hk I3 X3 (zAB hI1 (zAB hI2 hI3)) (by simpa using hW3)))
 have h8:x.kind≠8:=by simpa using h
 rw [if_neg h8] at hn hk;try refine zqe ?_
 refine AB (λh=>?_) (λh=>?_)
 ·have h:x.kind=27:=by simpa using h
  rw [if_pos h] at hn hk;have he:[99,111,97,108,101,115,99,101,40]++Jq true x.args++[41]=[99,111,97,108,101,115,99,101]++rowB true x.args:=by simp [rowB]
  rw [he] at hn hk;simp only [zU] at hn;refine Bd hW zL (λI1 X1 hI1 hW1=>?_);try refine zqe ?_
  refine rdb ?_;refine call (KE (X:=X1) hE zo hla hal (zAB hGI hI1) (zAJ hw hI1) hW1 (zAI ha hI1) zL (λI2 X2 hI2 hW2=>?_));exact zAE (X2++F) (zAA (hk I2 X2 (zAB hI1 hI2) (by simpa using hW2)))
 have h27:x.kind≠27:=by simpa using h
 rw [if_neg h27] at hn hk;try refine zqe ?_
 refine AB (λh=>?_) (λh=>?_)
 ·have h:x.kind=26:=by simpa using h
  rw [if_pos h] at hn hk;simp only [zU] at hn;refine Bd hW zL (λI1 X1 hI1 hW1=>?_);try refine zqe ?_
  refine rdb ?_;simp only [zAK ha,SSd,Nat.reduceAdd];refine loop (λq st I' L'=>∃(k:Nat) (X':LH),k+q=x.args.length∧st=(.int .i64 k,())∧Ext I I'∧L'=X'++((bx,.cells (Ag x v).toArray 37 (0,0))::F)∧WrS b w X' ((l++[99,97,115,101])++caseT x.args.length (CE true x) k)) x.args.length ⟨0,X1,by omega,rfl,hI1,rfl,by simpa [caseT] using hW1⟩ ?_;rintro q st I' L' ⟨k,X',hkq,rfl,hI',rfl,hW'⟩;unfold ABP;try refine zqe ?_
  refine AB (λhb=>?_) (λhb=>?_)
  ·have hb:k < x.args.length:=by
    have:=of_decide_eq_true hb;omega
   obtain ⟨bt,off,c1,g1,gl,g2,g3⟩:=zAR ha (i:=k) zo zo;rw [Am hb] at g2;have hone:=ExV.one g2;have hsu:=SE x.args.length (CE true x) k;have hle:=Xr x.args.length (CE true x) (x.args.length - (k+1)) (k+1);rw [show k+1+(x.args.length - (k+1))=x.args.length by omega,hsu] at hle;simp only [zn] at hle;simp only [g1,SSd,Nat.reduceAdd];refine Ep (g3 _ [] hI' (λ_ h=>h)) (zAC _) gl ?_;refine AQ (λb3=>?_);refine stB gl rfl hone ?_;have fin:∀(s:Bs) (I2:Imm) (X2:LH),Ext I I2→s=(if k % 2=1 then [32,116,104,101,110,32] else if k+1=x.args.length then [32,101,108,115,101,32] else [32,119,104,101,110,32])→WrS b w X2 (((l++[99,97,115,101])++caseT x.args.length (CE true x) k)++s)→ML ω (AL b) (AL b3) (.int .i64 k) (λs'=>Gh λI2 L2=>∃m',m' < q∧∃(k:Nat) (X':LH),k+m'=x.args.length∧s'=(.int .i64 k,())∧Ext I I2∧L2=X'++((bx,.cells (Ag x v).toArray 37 (0,0))::F)∧WrS b w X' ((l++[99,97,115,101])++caseT x.args.length (CE true x) k)) (λv=>Gh (K v)) I2 (X2++((b3,.cells c1.toArray 37 (0,0))::(bx,.cells (Ag x v).toArray 37 (0,0))::F)):=by
    intro s I2 X2 hI2 hse hW2;rw [←hse] at hle hsu;unfold ML;refine Yz (T:=37) zy gl ?_;have hm:=GV (zH hb);have hex:CE true x k 1=exB true x.args[k] 1:=OE hb 1;rw [hex] at hle hsu;refine call (Cal.to (X2++((bx,.cells (Ag x v).toArray 37 (0,0))::F)) (hE x.args[k] zo (IL hla (zH hb)) 1 I2 X2 _ _ c1 _ (zAB hGI hI2) (zAJ hw hI2) hW2 (ExV.mono hI2 g2) zL (λI3 X3 hI3 hW3=>?_)));simp only [wrap_i64 ((k:Int)+1) zo,SSd,Nat.reduceAdd];exact zAA ⟨q - 1,by omega,k+1,X3,by omega,rfl,zAB hI2 hI3,rfl,by rw [hsu];simpa using hW3⟩
   have hrem:AA .rem (.int .i64 (k:Int)) (.int .i64 2)=some (.int .i64 ((k % 2:Nat):Int)):=by
    rw [AJc _ _ .i64 zx,Int.tmod_eq_emod_of_nonneg zo];simp
   simp only [hrem,SSd,Nat.reduceAdd];refine AB (λh1=>?_) (λh1=>?_)
   ·have h1:k % 2=1:=by
     have:((k % 2:Nat):Int)=1:=by simpa using h1
     omega
    rw [if_pos h1] at hle;simp only [zh,zac] at hle;refine Bd (X:=X') hW' zL (λI2 X2 hI2 hW2=>?_);exact fin _ I2 X2 (zAB hI' hI2) (by rw [if_pos h1]) hW2
   have h1:¬k % 2=1:=by
    have:¬((k % 2:Nat):Int)=1:=by simpa using h1
    omega
   rw [if_neg h1] at hle;simp only [wrap_i64 ((k:Int)+1) zo,SSd,Nat.reduceAdd];refine rdb ?_;simp only [zAK ha,SSd,Nat.reduceAdd];refine AB (λh2=>?_) (λh2=>?_)
   ·have h2:k+1=x.args.length:=by
     have:(k:Int)+1=x.args.length:=by simpa using h2
     omega
    rw [if_pos h2] at hle;simp only [zh,zac] at hle;refine Bd (X:=X') hW' zL (λI2 X2 hI2 hW2=>?_);exact fin _ I2 X2 (zAB hI' hI2) (by rw [if_neg h1,if_pos h2]) hW2
   ·have h2:¬k+1=x.args.length:=by
     have:¬(k:Int)+1=x.args.length:=by simpa using h2
     omega
    rw [if_neg h2] at hle;simp only [zh,zac] at hle;refine Bd (X:=X') hW' zL (λI2 X2 hI2 hW2=>?_);exact fin _ I2 X2 (zAB hI' hI2) (by rw [if_neg h1,if_neg h2]) hW2
  ·have hb:¬k < x.args.length:=by
    have:=of_decide_eq_false hb;omega
   obtain rfl:k=x.args.length:=by omega
   unfold ABO;refine Bd (X:=X') hW' zL (λI2 X2 hI2 hW2=>?_);exact zAE (X2++F) (zAA (hk I2 X2 (zAB hI' hI2) (by simpa using hW2)))
 have h26:x.kind≠26:=by simpa using h
 rw [if_neg h26] at hn hk;try refine zqe ?_
 refine AB (λh=>?_) (λh=>?_)
 ·have h:x.kind=28:=by simpa using h
  rw [if_pos h] at hn hk;simp only [zU] at hn;try refine zqe ?_
  refine rdb ?_;refine AVF hW zL (λI1 X1 hI1 hW1=>?_);have fin8:∀(s:Bs) (I2:Imm) (X2:LH),Ext I I2→s=(if x.distinct then [100,105,115,116,105,110,99,116,32] else [])→WrS b w X2 ((l++(x.name++[40]))++s)→PR ω (AL b) (AL bx) (λv=>Gh (K v)) I2 (X2++((bx,.cells (Ag x v).toArray 37 (0,0))::F)):=by
   intro s I2 X2 hI2 hse hW2;rw [←hse] at hn hk;have no:OI x=false→Jf ω (AL b) (AL bx) (λv=>Gh (K v)) I2 (X2++((bx,.cells (Ag x v).toArray 37 (0,0))::F)):=by
    intro hst;rw [hst] at hn hk;simp only [zt,if_false] at hn hk;unfold Jf;refine Yz (l:=Ag x v) (T:=37) zy rfl ?_;refine call (Be (X:=X2) hE hd hx 0 1 (zAB hGI hI2) (zAJ hw hI2) hW2 (ExV.mono hI2 hc) zL (λI3 X3 hI3 hW3=>?_));unfold MM;refine Bd hW3 zL (λI4 X4 hI4 hW4=>?_);exact zAE (X4++F) (zAA (hk I4 X4 (zAB hI2 (zAB hI3 hI4)) (by simpa using hW4)))
   unfold PR;try refine zqe ?_
   refine rdb ?_;simp only [zAK ha,SSd,Nat.reduceAdd];refine BD (λh1=>?_) (λh1=>?_)
   ·have h1:x.args.length=1:=by
     have:(x.args.length:Int)=1:=by simpa using h1
     omega
    obtain ⟨bt,off,c1,g1,gl,g2,g3⟩:=zAR ha (i:=0) zo zo;obtain ⟨v1,rfl,_⟩:=ExV.iff.1 g2;have hg0:x.args.getD 0 ex0=Lj x.args 0:=rfl;try refine zqe ?_
    refine rdb ?_;simp only [g1,SSd,Nat.reduceAdd];refine rdC (g3 I2 [] hI2 (λ_ h=>h) 0 _ rfl) (zAC _) ?_;try refine zqe ?_
    refine BD (λh2=>?_) (λh2=>?_)
    ·try refine zqe ?_
     refine rdb ?_;try refine zqe ?_
     refine AB (λh3=>?_) (λh3=>?_)
     ·have h2:((Lj x.args 0).kind==3)=true:=by simpa using h2
      have h3:(x.name==[99,111,117,110,116])=true:=by simpa using h3
      have hst:OI x=true:=by unfold OI;rw [hg0,h3,h2,h1];rfl
      rw [hst] at hn hk;simp only [if_true,zh,zac] at hn hk;unfold ABN;refine Bd (X:=X2) hW2 zL (λI3 X3 hI3 hW3=>?_);unfold MM;refine Bd hW3 zL (λI4 X4 hI4 hW4=>?_);exact zAE (X4++F) (zAA (hk I4 X4 (zAB hI2 (zAB hI3 hI4)) (by simpa using hW4)))
     ·have h3:(x.name==[99,111,117,110,116])=false:=by simpa using h3
      exact no (by unfold OI;rw [h3];simp)
    ·have h2:((Lj x.args 0).kind==3)=false:=by simpa using h2
     exact no (by unfold OI;rw [hg0,h2];simp)
   ·have h1:(x.args.length==1)=false:=by
     have:¬(x.args.length:Int)=1:=by simpa using h1
     simp;omega
    exact no (by unfold OI;rw [h1];simp)
  try refine zqe ?_
  refine rdb ?_;refine AB (λh1=>?_) (λh1=>?_)
  ·rw [h1] at hn fin8;simp only [if_true,zh,zac] at hn;refine Bd hW1 zL (λI2 X2 hI2 hW2=>?_);exact fin8 _ I2 X2 (zAB hI1 hI2) zy hW2
  ·rw [h1] at fin8;exact fin8 [] I1 X1 hI1 zy (by simpa using hW1)
 have h28:x.kind≠28:=by simpa using h
 rw [if_neg h28] at hn hk;refine Bd hW hn (λI1 X1 hI1 hW1=>?_);exact zAE (X1++F) (zAA (hk I1 X1 hI1 hW1))
end
abbrev shO (c:List Value):Obj:=.cells c.toArray 210 (0,0)
abbrev exO (x:Ex)(v:Value):Obj:=.cells (Ag x v).toArray 37 (0,0)
section
variable {ω:Om}{G I:Imm}{L F Y:LH}{K:Value→M}{b:Nat}{w:Value}{X:LH}{l:Bs}{n:Nat}
theorem KP (hE:SH ω G b w n){x:Ex}{v:Value}{bx bs:Nat}{fb:Bool}{sc:List Value}(hd:DC x≤n+1)(hx:okE x)(hG:FY G)(hGI:Ext G I)(hw:StL I w wordsL)[hs:SplitL X L Y][i1:InL bx L (exO x v)][i2:InL bx Y (exO x v)][i3:InL bs L (shO sc)][i4:InL bs Y (shO sc)](hW:WrS b w X l)(hc:ExV I x (Ag x v))
  (hsh:(∃s k,Gx x.kind=some (s,k)∧fb=true∧sc=[.string ⟨s.toArray⟩,.int .i64 k])∨(Gx x.kind=none∧fb=false))
  (hn:(l++BO true x (CE true x)).length≤1000000000) (hk:∀I' X',Ext I I'→WrS b w X' (l++BO true x (CE true x))→Gh (K (.tuple #[])) I' (X'++Y)):
  MW ω (AL b) (AL bx) (AL bs) (.bool fb) (λv=>Gh (K v)) I L:=by
 obtain ⟨v',hv',ha⟩:=ExV.iff.1 hc;obtain rfl:v=v':=by simpa [Ag] using hv'
 obtain ⟨hv0,hal,hla⟩:=Ib hx;have hdd:=ED x;unfold MW;rcases hsh with ⟨s,k,hsg,rfl,rfl⟩|⟨hsg,rfl⟩
 ·have hin:BO true x (CE true x)=CE true x 0 (if k=4 then 5 else k)++(([32]++(s++[32]))++CE true x 1 (k+1)):=by
   unfold BO;rw [hsg];simp
  rw [hin] at hn hk;simp only [zU] at hn;have hsm:=Qa hsg;have bin:∀lv:Int,lv=(if k=4 then 5 else k)→Pq ω (AL b) (AL bx) (AL bs) (.int .i64 lv) (λv=>Gh (K v)) I L:=by
   intro lv hlv;rw [←hlv] at hn hk;unfold Pq;refine rdB rfl ?_;refine call (Be (X:=X) hE hd hx 0 lv hGI hw hW hc zL (λI1 X1 hI1 hW1=>?_));try refine zqe ?_
   refine rdb ?_;refine AOB hW1 zL (λI2 X2 hI2 hW2=>?_);refine rdB rfl ?_;try refine zqe ?_
   refine rdb ?_;simp only [wrap_i64 (k+1) zo,SSd,Nat.reduceAdd];refine call (Be (X:=X2) hE hd hx 1 (k+1) (zAB hGI (zAB hI1 hI2)) (zAJ hw (zAB hI1 hI2)) hW2 (ExV.mono (zAB hI1 hI2) hc) zL (λI3 X3 hI3 hW3=>?_));exact hk I3 X3 (zAB hI1 (zAB hI2 hI3)) (by simpa using hW3)
  try refine zqe ?_
  refine rdb ?_;try refine zqe ?_
  refine AB (λh=>?_) (λh=>?_)
  ·exact bin 5 (by rw [if_pos (by simpa using h)])
  ·exact bin k (by rw [if_neg (by simpa using h)])
 try refine zqe ?_
 refine rdb ?_;try refine zqe ?_
 refine AB (λh=>?_) (λh=>?_)
 ·have h:x.kind=1:=by simpa using h
  have hin:BO true x (CE true x)=ACy true x.value:=by unfold BO;rw [hsg];simp [h]
  rw [hin] at hn hk;try refine zqe ?_
  refine rdP _ rfl rfl ?_;refine call (QU (X:=X) hG hGI hW x.value hv0 hn (λI1 X1 hI1 hW1=>?_));exact hk I1 X1 hI1 hW1
 have h1:x.kind≠1:=by simpa using h
 try refine zqe ?_
 refine AB (λh=>?_) (λh=>?_)
 ·have h:x.kind=2:=by simpa using h
  have hin:BO true x (CE true x)=(if x.table.isEmpty then [] else nameB x.table++[46])++nameB x.name:=by unfold BO;rw [hsg];simp [h]
  rw [hin] at hn hk;simp only [zn] at hn;have col:∀(s:Bs) (I1:Imm) (X1 L1:LH) [SplitL X1 L1 Y] [InL bx L1 (exO x v)],Ext I I1→s=(if x.table.isEmpty then [] else nameB x.table++[46])→WrS b w X1 (l++s)→MZ ω (AL b) (AL bx) (λv=>Gh (K v)) I1 L1:=by
   intro s I1 X1 L1 _ _ hI1 hse hW1;rw [←hse] at hn hk;unfold MZ;try refine zqe ?_
   refine rdb ?_;refine call (Bh (X:=X1) hW1 (zAJ hw hI1) x.name zL (λI2 X2 hI2 hW2=>?_));exact hk I2 X2 (zAB hI1 hI2) (by simpa using hW2)
  try refine zqe ?_
  refine rdb ?_;simp only [sNe,SSd,Nat.reduceAdd];cases ht:x.table with
  |nil=>
   rw [ht] at col;simp only [show (([]:Bs)==[])=true from rfl,zQ,SSd,Nat.reduceAdd];exact col [] I X L (zAC I) rfl (by simpa using hW)
  |cons c r=>
   rw [ht] at col hn;simp only [zbo,zt,if_false,zU] at hn;simp only [show ((c::r)==([]:Bs))=false from rfl,zG,SSd,Nat.reduceAdd];refine rdb ?_;refine call (Bh (X:=X) hW hw x.table (by rw [ht];simp only [zU];omega) (λI1 X1 hI1 hW1=>?_));refine Bd hW1 (by rw [ht];simp only [zU];omega) (λI2 X2 hI2 hW2=>?_);exact col (nameB (c::r)++[46]) I2 X2 _ (zAB hI1 hI2) zy (by rw [ht] at hW2;simpa using hW2)
 have h2:x.kind≠2:=by simpa using h
 try refine zqe ?_
 refine AB (λh=>?_) (λh=>?_)
 ·have h:x.kind=4:=by simpa using h
  have hin:BO true x (CE true x)=[45]++CE true x 0 8:=by unfold BO;rw [hsg];simp [h]
  rw [hin] at hn hk;simp only [zU] at hn;refine Bd (X:=X) hW zL (λI1 X1 hI1 hW1=>?_);refine rdB rfl ?_;refine call (Be (X:=X1) hE hd hx 0 8 (zAB hGI hI1) (zAJ hw hI1) hW1 (ExV.mono hI1 hc) zL (λI2 X2 hI2 hW2=>?_));exact hk I2 X2 (zAB hI1 hI2) (by simpa using hW2)
 have h4:x.kind≠4:=by simpa using h
 try refine zqe ?_
 refine AB (λh=>?_) (λh=>?_)
 ·have h:x.kind=5:=by simpa using h
  have hin:BO true x (CE true x)=[110,111,116,32]++CE true x 0 3:=by unfold BO;rw [hsg];simp [h]
  rw [hin] at hn hk;simp only [zU] at hn;refine Bd (X:=X) hW zL (λI1 X1 hI1 hW1=>?_);refine rdB rfl ?_;refine call (Be (X:=X1) hE hd hx 0 3 (zAB hGI hI1) (zAJ hw hI1) hW1 (ExV.mono hI1 hc) zL (λI2 X2 hI2 hW2=>?_));exact hk I2 X2 (zAB hI1 hI2) (by simpa using hW2)
 have h5:x.kind≠5:=by simpa using h
 try refine zqe ?_
 refine AB (λh=>?_) (λh=>?_)
 ·have h:x.kind=6:=by simpa using h
  have hin:BO true x (CE true x)=CE true x 0 5++[32,105,115,32,110,117,108,108]:=by unfold BO;rw [hsg];simp [h]
  rw [hin] at hn hk;simp only [zU] at hn;refine rdB rfl ?_;refine call (Be (X:=X) hE hd hx 0 5 hGI hw hW hc zL (λI1 X1 hI1 hW1=>?_));refine Bd hW1 zL (λI2 X2 hI2 hW2=>?_);exact hk I2 X2 (zAB hI1 hI2) (by simpa using hW2)
 have h6:x.kind≠6:=by simpa using h
 try refine zqe ?_
 refine AB (λh=>?_) (λh=>?_)
 ·have h:x.kind=7:=by simpa using h
  have hin:BO true x (CE true x)=CE true x 0 5++[32,105,115,32,110,111,116,32,110,117,108,108]:=by unfold BO;rw [hsg];simp [h]
  rw [hin] at hn hk;simp only [zU] at hn;refine rdB rfl ?_;refine call (Be (X:=X) hE hd hx 0 5 hGI hw hW hc zL (λI1 X1 hI1 hW1=>?_));refine Bd hW1 zL (λI2 X2 hI2 hW2=>?_);exact hk I2 X2 (zAB hI1 hI2) (by simpa using hW2)
 have h7:x.kind≠7:=by simpa using h
 try refine zqe ?_
 refine AB (λh=>?_) (λh=>?_)
 ·have h:x.kind=24:=by simpa using h
  have hin:BO true x (CE true x)=CE true x 0 5++([32,105,110,32]++rowB true (x.args.drop 1)):=by
   unfold BO;rw [hsg];simp only [h];have hr:=LU true x 1;rw [hr];simp [rowB,Jq]
  rw [hin] at hn hk;simp only [zU] at hn;refine rdB rfl ?_;refine call (Be (X:=X) hE hd hx 0 5 hGI hw hW hc zL (λI1 X1 hI1 hW1=>?_));refine Bd hW1 zL (λI2 X2 hI2 hW2=>?_);have hI12:=zAB hI1 hI2;try refine zqe ?_
  refine rdb ?_;try refine zqe ?_
  refine rdb ?_;simp only [zAK ha,SSd,Nat.reduceAdd];obtain ⟨v2,hv2,hr2⟩:=RL.part (zAI ha hI12) (lo:=min 1 x.args.length) (hi:=x.args.length) zo (zW _) (some (.int .i64 (if (x.args.length:Int) < 1 then (x.args.length:Int) else 1))) none (by
   rw [show (if (x.args.length:Int) < 1 then (x.args.length:Int) else 1)=((min 1 x.args.length:Nat):Int) by split <;> omega];exact WA _ _ _ _ zo) (λcap hc=>by simp [EF])
  have hdr:(x.args.drop (min 1 x.args.length)).take (x.args.length - min 1 x.args.length)=x.args.drop 1:=by
   rw [zg zy];by_cases h0:x.args.length=0
   ·rw [List.length_eq_zero_iff] at h0;rw [h0];rfl
   ·congr 1;omega
  rw [hdr] at hr2;simp only [hv2,SSd,Nat.reduceAdd];have hap:x.args=x.args.take 1++x.args.drop 1:=(zad 1 x.args).symm;have hdp:BU (x.args.drop 1)≤n:=by
   have h:=Fz (x.args.take 1) (x.args.drop 1);rw [←hap] at h;omega
  refine call (KE (X:=X2) hE hdp (Va λy hy=>IL hla (List.mem_of_mem_drop hy)) (by rw [zar];omega) (zAB hGI hI12) (zAJ hw hI12) hW2 hr2 zL (λI3 X3 hI3 hW3=>?_));exact hk I3 X3 (zAB hI12 hI3) (by simpa using hW3)
 have h24:x.kind≠24:=by simpa using h
 try refine zqe ?_
 refine AB (λh=>?_) (λh=>?_)
 ·have h:x.kind=25:=by simpa using h
  have hin:BO true x (CE true x)=CE true x 0 5++([32,98,101,116,119,101,101,110,32]++(CE true x 1 5++([32,97,110,100,32]++CE true x 2 5))):=by unfold BO;rw [hsg];simp [h]
  rw [hin] at hn hk;simp only [zU] at hn;refine rdB rfl ?_;refine call (Be (X:=X) hE hd hx 0 5 hGI hw hW hc zL (λI1 X1 hI1 hW1=>?_));refine Bd hW1 zL (λI2 X2 hI2 hW2=>?_);refine rdB rfl ?_;have hI12:=zAB hI1 hI2;refine call (Be (X:=X2) hE hd hx 1 5 (zAB hGI hI12) (zAJ hw hI12) hW2 (ExV.mono hI12 hc) zL (λI3 X3 hI3 hW3=>?_));refine Bd hW3 zL (λI4 X4 hI4 hW4=>?_);refine rdB rfl ?_;have hI14:=zAB hI12 (zAB hI3 hI4);refine call (Be (X:=X4) hE hd hx 2 5 (zAB hGI hI14) (zAJ hw hI14) hW4 (ExV.mono hI14 hc) zL (λI5 X5 hI5 hW5=>?_));exact hk I5 X5 (zAB hI14 hI5) (by simpa using hW5)
 have h25:x.kind≠25:=by simpa using h
 rw [RN hsg ⟨h1,h2,h4,h5,h6,h7,h24,h25⟩] at hn hk;refine rdB rfl ?_;refine call (QQ (X:=X) hE hd hx hGI hw hW hc hn (λI1 X1 hI1 hW1=>?_));exact hk I1 X1 hI1 hW1
theorem KQ (hE:SH ω G b w n){x:Ex}{v:Value}{bx bs:Nat}{fb:Bool}{sc:List Value}(hd:DC x≤n+1)(hx:okE x)(hG:FY G)(hGI:Ext G I)(hw:StL I w wordsL)[hs:SplitL X L Y][i1:InL bx L (exO x v)][i2:InL bx Y (exO x v)][i3:InL bs L (shO sc)][i4:InL bs Y (shO sc)](hW:WrS b w X l)(hc:ExV I x (Ag x v))
  (hsh:(∃s k,Gx x.kind=some (s,k)∧fb=true∧sc=[.string ⟨s.toArray⟩,.int .i64 k])∨(Gx x.kind=none∧fb=false)) {W3 W4:Value}
  (hn:(l++BO true x (CE true x)).length≤1000000000) (hk:∀I' X',Ext I I'→WrS b w X' (l++BO true x (CE true x))→Em ω W3 W4 (λv=>Gh (K v)) I' (X'++Y)):
  MX ω (AL b) (AL bx) (AL bs) (.bool fb) W3 W4 (λv=>Gh (K v)) I L:=by
 obtain ⟨v',hv',ha⟩:=ExV.iff.1 hc;obtain rfl:v=v':=by simpa [Ag] using hv'
 obtain ⟨hv0,hal,hla⟩:=Ib hx;have hdd:=ED x;unfold MX;rcases hsh with ⟨s,k,hsg,rfl,rfl⟩|⟨hsg,rfl⟩
 ·have hin:BO true x (CE true x)=CE true x 0 (if k=4 then 5 else k)++(([32]++(s++[32]))++CE true x 1 (k+1)):=by
   unfold BO;rw [hsg];simp
  rw [hin] at hn hk;simp only [zU] at hn;have hsm:=Qa hsg;have bin:∀lv:Int,lv=(if k=4 then 5 else k)→Py ω (AL b) (AL bx) (AL bs) (.int .i64 lv) W3 W4 (λv=>Gh (K v)) I L:=by
   intro lv hlv;rw [←hlv] at hn hk;unfold Py;refine rdB rfl ?_;refine call (Be (X:=X) hE hd hx 0 lv hGI hw hW hc zL (λI1 X1 hI1 hW1=>?_));try refine zqe ?_
   refine rdb ?_;refine AOB hW1 zL (λI2 X2 hI2 hW2=>?_);refine rdB rfl ?_;try refine zqe ?_
   refine rdb ?_;simp only [wrap_i64 (k+1) zo,SSd,Nat.reduceAdd];refine call (Be (X:=X2) hE hd hx 1 (k+1) (zAB hGI (zAB hI1 hI2)) (zAJ hw (zAB hI1 hI2)) hW2 (ExV.mono (zAB hI1 hI2) hc) zL (λI3 X3 hI3 hW3=>?_));exact hk I3 X3 (zAB hI1 (zAB hI2 hI3)) (by simpa using hW3)
  try refine zqe ?_
  refine rdb ?_;try refine zqe ?_
  refine AB (λh=>?_) (λh=>?_)
  ·exact bin 5 (by rw [if_pos (by simpa using h)])
  ·exact bin k (by rw [if_neg (by simpa using h)])
 try refine zqe ?_
 refine rdb ?_;try refine zqe ?_
 refine AB (λh=>?_) (λh=>?_)
 ·have h:x.kind=1:=by simpa using h
  have hin:BO true x (CE true x)=ACy true x.value:=by unfold BO;rw [hsg];simp [h]
  rw [hin] at hn hk;try refine zqe ?_
  refine rdP _ rfl rfl ?_;refine call (QU (X:=X) hG hGI hW x.value hv0 hn (λI1 X1 hI1 hW1=>?_));exact hk I1 X1 hI1 hW1
 have h1:x.kind≠1:=by simpa using h
 try refine zqe ?_
 refine AB (λh=>?_) (λh=>?_)
 ·have h:x.kind=2:=by simpa using h
  have hin:BO true x (CE true x)=(if x.table.isEmpty then [] else nameB x.table++[46])++nameB x.name:=by unfold BO;rw [hsg];simp [h]
  rw [hin] at hn hk;simp only [zn] at hn;have col:∀(s:Bs) (I1:Imm) (X1 L1:LH) [SplitL X1 L1 Y] [InL bx L1 (exO x v)],Ext I I1→s=(if x.table.isEmpty then [] else nameB x.table++[46])→WrS b w X1 (l++s)→Px ω (AL b) (AL bx) W3 W4 (λv=>Gh (K v)) I1 L1:=by
   intro s I1 X1 L1 _ _ hI1 hse hW1;rw [←hse] at hn hk;unfold Px;try refine zqe ?_
   refine rdb ?_;refine call (Bh (X:=X1) hW1 (zAJ hw hI1) x.name zL (λI2 X2 hI2 hW2=>?_));exact hk I2 X2 (zAB hI1 hI2) (by simpa using hW2)
  try refine zqe ?_
  refine rdb ?_;simp only [sNe,SSd,Nat.reduceAdd];cases ht:x.table with
  |nil=>
   rw [ht] at col;simp only [show (([]:Bs)==[])=true from rfl,zQ,SSd,Nat.reduceAdd];exact col [] I X L (zAC I) rfl (by simpa using hW)
  |cons c r=>
   rw [ht] at col hn;simp only [zbo,zt,if_false,zU] at hn;simp only [show ((c::r)==([]:Bs))=false from rfl,zG,SSd,Nat.reduceAdd];refine rdb ?_;refine call (Bh (X:=X) hW hw x.table (by rw [ht];simp only [zU];omega) (λI1 X1 hI1 hW1=>?_));refine Bd hW1 (by rw [ht];simp only [zU];omega) (λI2 X2 hI2 hW2=>?_);exact col (nameB (c::r)++[46]) I2 X2 _ (zAB hI1 hI2) zy (by rw [ht] at hW2;simpa using hW2)
 have h2:x.kind≠2:=by simpa using h
 try refine zqe ?_
 refine AB (λh=>?_) (λh=>?_)
 ·have h:x.kind=4:=by simpa using h
  have hin:BO true x (CE true x)=[45]++CE true x 0 8:=by unfold BO;rw [hsg];simp [h]
  rw [hin] at hn hk;simp only [zU] at hn;refine Bd (X:=X) hW zL (λI1 X1 hI1 hW1=>?_);refine rdB rfl ?_;refine call (Be (X:=X1) hE hd hx 0 8 (zAB hGI hI1) (zAJ hw hI1) hW1 (ExV.mono hI1 hc) zL (λI2 X2 hI2 hW2=>?_));exact hk I2 X2 (zAB hI1 hI2) (by simpa using hW2)
 have h4:x.kind≠4:=by simpa using h
 try refine zqe ?_
 refine AB (λh=>?_) (λh=>?_)
 ·have h:x.kind=5:=by simpa using h
  have hin:BO true x (CE true x)=[110,111,116,32]++CE true x 0 3:=by unfold BO;rw [hsg];simp [h]
  rw [hin] at hn hk;simp only [zU] at hn;refine Bd (X:=X) hW zL (λI1 X1 hI1 hW1=>?_);refine rdB rfl ?_;refine call (Be (X:=X1) hE hd hx 0 3 (zAB hGI hI1) (zAJ hw hI1) hW1 (ExV.mono hI1 hc) zL (λI2 X2 hI2 hW2=>?_));exact hk I2 X2 (zAB hI1 hI2) (by simpa using hW2)
 have h5:x.kind≠5:=by simpa using h
 try refine zqe ?_
 refine AB (λh=>?_) (λh=>?_)
 ·have h:x.kind=6:=by simpa using h
  have hin:BO true x (CE true x)=CE true x 0 5++[32,105,115,32,110,117,108,108]:=by unfold BO;rw [hsg];simp [h]
  rw [hin] at hn hk;simp only [zU] at hn;refine rdB rfl ?_;refine call (Be (X:=X) hE hd hx 0 5 hGI hw hW hc zL (λI1 X1 hI1 hW1=>?_));refine Bd hW1 zL (λI2 X2 hI2 hW2=>?_);exact hk I2 X2 (zAB hI1 hI2) (by simpa using hW2)
 have h6:x.kind≠6:=by simpa using h
 try refine zqe ?_
 refine AB (λh=>?_) (λh=>?_)
 ·have h:x.kind=7:=by simpa using h
  have hin:BO true x (CE true x)=CE true x 0 5++[32,105,115,32,110,111,116,32,110,117,108,108]:=by unfold BO;rw [hsg];simp [h]
  rw [hin] at hn hk;simp only [zU] at hn;refine rdB rfl ?_;refine call (Be (X:=X) hE hd hx 0 5 hGI hw hW hc zL (λI1 X1 hI1 hW1=>?_));refine Bd hW1 zL (λI2 X2 hI2 hW2=>?_);exact hk I2 X2 (zAB hI1 hI2) (by simpa using hW2)
 have h7:x.kind≠7:=by simpa using h
 try refine zqe ?_
 refine AB (λh=>?_) (λh=>?_)
 ·have h:x.kind=24:=by simpa using h
  have hin:BO true x (CE true x)=CE true x 0 5++([32,105,110,32]++rowB true (x.args.drop 1)):=by
   unfold BO;rw [hsg];simp only [h];have hr:=LU true x 1;rw [hr];simp [rowB,Jq]
  rw [hin] at hn hk;simp only [zU] at hn;refine rdB rfl ?_;refine call (Be (X:=X) hE hd hx 0 5 hGI hw hW hc zL (λI1 X1 hI1 hW1=>?_));refine Bd hW1 zL (λI2 X2 hI2 hW2=>?_);have hI12:=zAB hI1 hI2;try refine zqe ?_
  refine rdb ?_;try refine zqe ?_
  refine rdb ?_;simp only [zAK ha,SSd,Nat.reduceAdd];obtain ⟨v2,hv2,hr2⟩:=RL.part (zAI ha hI12) (lo:=min 1 x.args.length) (hi:=x.args.length) zo (zW _) (some (.int .i64 (if (x.args.length:Int) < 1 then (x.args.length:Int) else 1))) none (by
   rw [show (if (x.args.length:Int) < 1 then (x.args.length:Int) else 1)=((min 1 x.args.length:Nat):Int) by split <;> omega];exact WA _ _ _ _ zo) (λcap hc=>by simp [EF])
  have hdr:(x.args.drop (min 1 x.args.length)).take (x.args.length - min 1 x.args.length)=x.args.drop 1:=by
   rw [zg zy];by_cases h0:x.args.length=0
   ·rw [List.length_eq_zero_iff] at h0;rw [h0];rfl
   ·congr 1;omega
  rw [hdr] at hr2;simp only [hv2,SSd,Nat.reduceAdd];have hap:x.args=x.args.take 1++x.args.drop 1:=(zad 1 x.args).symm;have hdp:BU (x.args.drop 1)≤n:=by
   have h:=Fz (x.args.take 1) (x.args.drop 1);rw [←hap] at h;omega
  refine call (KE (X:=X2) hE hdp (Va λy hy=>IL hla (List.mem_of_mem_drop hy)) (by rw [zar];omega) (zAB hGI hI12) (zAJ hw hI12) hW2 hr2 zL (λI3 X3 hI3 hW3=>?_));exact hk I3 X3 (zAB hI12 hI3) (by simpa using hW3)
 have h24:x.kind≠24:=by simpa using h
 try refine zqe ?_
 refine AB (λh=>?_) (λh=>?_)
 ·have h:x.kind=25:=by simpa using h
  have hin:BO true x (CE true x)=CE true x 0 5++([32,98,101,116,119,101,101,110,32]++(CE true x 1 5++([32,97,110,100,32]++CE true x 2 5))):=by unfold BO;rw [hsg];simp [h]
  rw [hin] at hn hk;simp only [zU] at hn;refine rdB rfl ?_;refine call (Be (X:=X) hE hd hx 0 5 hGI hw hW hc zL (λI1 X1 hI1 hW1=>?_));refine Bd hW1 zL (λI2 X2 hI2 hW2=>?_);refine rdB rfl ?_;have hI12:=zAB hI1 hI2;refine call (Be (X:=X2) hE hd hx 1 5 (zAB hGI hI12) (zAJ hw hI12) hW2 (ExV.mono hI12 hc) zL (λI3 X3 hI3 hW3=>?_));refine Bd hW3 zL (λI4 X4 hI4 hW4=>?_);refine rdB rfl ?_;have hI14:=zAB hI12 (zAB hI3 hI4);refine call (Be (X:=X4) hE hd hx 2 5 (zAB hGI hI14) (zAJ hw hI14) hW4 (ExV.mono hI14 hc) zL (λI5 X5 hI5 hW5=>?_));exact hk I5 X5 (zAB hI14 hI5) (by simpa using hW5)
 have h25:x.kind≠25:=by simpa using h
 rw [RN hsg ⟨h1,h2,h4,h5,h6,h7,h24,h25⟩] at hn hk;refine rdB rfl ?_;refine call (QQ (X:=X) hE hd hx hGI hw hW hc hn (λI1 X1 hI1 hW1=>?_));exact hk I1 X1 hI1 hW1
end
theorem ATS {P:Program}{ω:Om}{f:FuncId}{args:Array Value}{K:Value→M}{I:Imm}{L:LH}(h:CalD P ω f args K I L):CalD P ω f args (SL.gh K) I L:=λw hs=>
 CallsDIn.mono (h w hs) λ_ _ _ ⟨hu,v,I',L',he,hs',hk⟩=>⟨hu,v,I',L',he,hs',zAA hk⟩
section
variable {ω:Om}{G I:Imm}{L F Y:LH}{K:Value→M}{b:Nat}{w:Value}{X:LH}{l:Bs}{n:Nat}
theorem RZ (hG:FY G)(n:Nat):SH ω G b w n:=by
 induction n with
 |zero=>exact λx hd=>by have:=Gs x;omega
 |succ n hE=>
  intro x hd hx k I X F l c K hGI hw hW hc hn hk;rw [AOR] at hn hk;obtain ⟨v,rfl,ha⟩:=ExV.iff.1 hc;refine AQr ?_;unfold AMs;refine AQ (λbx=>?_);try refine zqe ?_
  refine rdb ?_;refine call (ZU x.kind ?_);try refine zqe ?_
  refine AB (λh=>?_) (λh=>?_)
  ·rw [h] at hn hk;simp only [AKT,if_true] at hn hk;simp only [zU] at hn;refine Bd hW zL (λI1 X1 hI1 hW1=>?_);refine DT [[41]] rfl rfl (λI2 a2 hI2 hv2=>zAA ?_);have hI12:=zAB hI1 hI2;have hc2:=ExV.mono hI12 hc;have hw2:=zAJ hw hI12;have fin:∀(I':Imm) (X':LH) (Y:LH),Ext I2 I'→SubP F Y→WrS b w X' ((l++[40])++BO true x (CE true x))→Em ω (AL b) (.slice a2 1 1) (λv=>Gh (K v)) I' (X'++Y):=by
    intro I' X' Y hI' hY hW';unfold Em;refine ATS (AEO hW' (zAJ hv2 hI') zy (by simp only [zaD,zaX,zU];omega) (λX'' hW''=>?_));exact zAE (X''++F) (zAA (hk I' X'' (zAB hI12 hI') (by simpa using hW'')))
   unfold ABt;refine BM ?_;try refine zqe ?_
   refine CB ?_;refine ⟨call (GI (λbm es clock hm=>CV (zAC _) ⟨?_,?_⟩)),AQ (λbs=>CV (zAC _) (call (GI (λbm es clock hm=>CV (zAC _) ?_))))⟩
   ·refine Gy hm (λs k hs=>?_) (λhs=>?_)
    ·try refine zqe ?_
     refine AQ (λbs=>?_);refine CV (zAC _) ?_;refine stB rfl rfl (AY rfl) ?_;exact KQ (X:=X1) hE hd hx hG (zAB hGI hI12) hw2 hW1 hc2 (.inl ⟨s,k,hs,rfl,rfl⟩) zL (λI' X' hI' hW'=>fin I' X' _ hI' inferInstance hW')
    ·try refine zqe ?_
     refine AQ (λbs=>?_);refine CV (zAC _) ?_;refine stB rfl rfl (AY rfl) ?_;exact KQ (X:=X1) hE hd hx hG (zAB hGI hI12) hw2 hW1 hc2 (.inr ⟨hs,rfl⟩) zL (λI' X' hI' hW'=>fin I' X' _ hI' inferInstance hW')
   ·refine AQ (λbs=>?_);refine CV (zAC _) ?_;refine Gy hm (λs k hs=>?_) (λhs=>?_)
    ·try refine zqe ?_
     refine stB rfl rfl (AY rfl) ?_;exact KQ (X:=X1) hE hd hx hG (zAB hGI hI12) hw2 hW1 hc2 (.inl ⟨s,k,hs,rfl,rfl⟩) zL (λI' X' hI' hW'=>fin I' X' _ hI' inferInstance hW')
    ·try refine zqe ?_
     refine stB rfl rfl (AY rfl) ?_;exact KQ (X:=X1) hE hd hx hG (zAB hGI hI12) hw2 hW1 hc2 (.inr ⟨hs,rfl⟩) zL (λI' X' hI' hW'=>fin I' X' _ hI' inferInstance hW')
   ·refine Gy hm (λs k hs=>?_) (λhs=>?_)
    ·try refine zqe ?_
     refine stB rfl rfl (AY rfl) ?_;exact KQ (X:=X1) hE hd hx hG (zAB hGI hI12) hw2 hW1 hc2 (.inl ⟨s,k,hs,rfl,rfl⟩) zL (λI' X' hI' hW'=>fin I' X' _ hI' inferInstance hW')
    ·try refine zqe ?_
     refine stB rfl rfl (AY rfl) ?_;exact KQ (X:=X1) hE hd hx hG (zAB hGI hI12) hw2 hW1 hc2 (.inr ⟨hs,rfl⟩) zL (λI' X' hI' hW'=>fin I' X' _ hI' inferInstance hW')
  ·rw [h] at hn hk;simp only [AKT,zt,if_false] at hn hk;have fin:∀(I':Imm) (X':LH) (Y:LH),Ext I I'→SubP F Y→WrS b w X' (l++BO true x (CE true x))→Gh (K (.tuple #[])) I' (X'++Y):=by
    intro I' X' Y hI' hY hW';exact zAE (X'++F) (zAA (hk I' X' hI' hW'))
   unfold ABs;refine BM ?_;try refine zqe ?_
   refine CB ?_;refine ⟨call (GI (λbm es clock hm=>CV (zAC _) ⟨?_,?_⟩)),AQ (λbs=>CV (zAC _) (call (GI (λbm es clock hm=>CV (zAC _) ?_))))⟩
   ·refine Gy hm (λs k hs=>?_) (λhs=>?_)
    ·try refine zqe ?_
     refine AQ (λbs=>?_);refine CV (zAC _) ?_;refine stB rfl rfl (AY rfl) ?_;exact KP (X:=X) hE hd hx hG hGI hw hW hc (.inl ⟨s,k,hs,rfl,rfl⟩) hn (λI' X' hI' hW'=>fin I' X' _ hI' inferInstance hW')
    ·try refine zqe ?_
     refine AQ (λbs=>?_);refine CV (zAC _) ?_;refine stB rfl rfl (AY rfl) ?_;exact KP (X:=X) hE hd hx hG hGI hw hW hc (.inr ⟨hs,rfl⟩) hn (λI' X' hI' hW'=>fin I' X' _ hI' inferInstance hW')
   ·refine AQ (λbs=>?_);refine CV (zAC _) ?_;refine Gy hm (λs k hs=>?_) (λhs=>?_)
    ·try refine zqe ?_
     refine stB rfl rfl (AY rfl) ?_;exact KP (X:=X) hE hd hx hG hGI hw hW hc (.inl ⟨s,k,hs,rfl,rfl⟩) hn (λI' X' hI' hW'=>fin I' X' _ hI' inferInstance hW')
    ·try refine zqe ?_
     refine stB rfl rfl (AY rfl) ?_;exact KP (X:=X) hE hd hx hG hGI hw hW hc (.inr ⟨hs,rfl⟩) hn (λI' X' hI' hW'=>fin I' X' _ hI' inferInstance hW')
   ·refine Gy hm (λs k hs=>?_) (λhs=>?_)
    ·try refine zqe ?_
     refine stB rfl rfl (AY rfl) ?_;exact KP (X:=X) hE hd hx hG hGI hw hW hc (.inl ⟨s,k,hs,rfl,rfl⟩) hn (λI' X' hI' hW'=>fin I' X' _ hI' inferInstance hW')
    ·try refine zqe ?_
     refine stB rfl rfl (AY rfl) ?_;exact KP (X:=X) hE hd hx hG hGI hw hW hc (.inr ⟨hs,rfl⟩) hn (λI' X' hI' hW'=>fin I' X' _ hI' inferInstance hW')
theorem Gv (hG:FY G){x:Ex}(hx:okE x)(k:Int)(hGI:Ext G I)(hw:StL I w wordsL)[hs:SplitL X L F](hW:WrS b w X l){c:List Value}(hc:ExV I x c)(hn:(l++exB true x k).length≤1000000000)
  (hk:∀I' X',Ext I I'→WrS b w X' (l++exB true x k)→K (.tuple #[]) I' (X'++F)):CT ω 120 #[AL b,.agg c.toArray,.int .i64 k] K I L:=
 zAN X (RZ hG (DC x) x (zW _) hx k I X F l c K hGI hw hW hc hn hk)
theorem FI (hG:FY G){x:Ex}(hx:okE x)(s:Bs)(hGI:Ext G I)(hw:StL I w wordsL)[hs:SplitL X L F](hW:WrS b w X l){c:List Value}(hc:ExV I x c)(hn:(l++EY true s x).length≤1000000000)
  (hk:∀I' X',Ext I I'→WrS b w X' (l++EY true s x)→K (.tuple #[]) I' (X'++F)):CT ω 121 #[AL b,.string ⟨s.toArray⟩,.agg c.toArray] K I L:=by
 refine zAN X ?_;refine AQq ?_;unfold AMr;obtain ⟨v,rfl,ha⟩:=ExV.iff.1 hc;unfold EY at hn hk;refine AQ (λbx=>?_);try refine zqe ?_
 refine rdb ?_;try refine zqe ?_
 refine AB (λh=>?_) (λh=>?_)
 ·have h:x.kind≠0:=by simpa using h
  rw [if_neg h] at hn hk;simp only [zU] at hn;refine Bd (X:=X) hW zL (λI1 X1 hI1 hW1=>?_);refine rdB rfl ?_;refine call (Gv hG hx 1 (zAB hGI hI1) (zAJ hw hI1) hW1 (ExV.mono hI1 hc) zL (λI2 X2 hI2 hW2=>?_));exact zAE (X2++F) (zAA (hk I2 X2 (zAB hI1 hI2) (by simpa using hW2)))
 ·have h:x.kind=0:=by simpa using h
  rw [if_pos h] at hn hk;exact zAE (X++F) (zAA (hk I X (zAC I) (by simpa using hW)))
theorem WN (s:Bs)(hw:StL I w wordsL)[hs:SplitL X L F](hW:WrS b w X l)(hn:(l++asB s).length≤1000000000)
  (hk:∀I' X',Ext I I'→WrS b w X' (l++asB s)→K (.tuple #[]) I' (X'++F)):CT ω 166 #[AL b,.string ⟨s.toArray⟩] K I L:=by
 refine zAN X ?_;refine AQD ?_;unfold AMN;cases s with
 |nil=>
  simp only [show asB []=[] from rfl,zao] at hn hk;simp only [sNe,show (([]:Bs)==[])=true from rfl,zQ,SSd,Nat.reduceAdd];exact zAA (hk I X (zAC I) hW)
 |cons c r=>
  have he:asB (c::r)=[32,97,115,32]++nameB (c::r):=rfl;rw [he] at hn hk;simp only [zU] at hn;simp only [sNe,show ((c::r)==([]:Bs))=false from rfl,zG,SSd,Nat.reduceAdd];refine Bd (X:=X) hW zL (λI1 X1 hI1 hW1=>?_);refine call (Bh hW1 (zAJ hw hI1) (c::r) zL (λI2 X2 hI2 hW2=>?_));exact zAA (hk I2 X2 (zAB hI1 hI2) (by simpa using hW2))
theorem Jb {xs:List Bs}{v:Value}(hxl:xs.length≤1000000000000)(hv:StL I v xs)(hw:StL I w wordsL)[hs:SplitL X L F](hW:WrS b w X l)(hn:(l++GZ xs).length≤1000000000)
  (hk:∀I' X',Ext I I'→WrS b w X' (l++GZ xs)→K (.tuple #[]) I' (X'++F)):CT ω 115 #[AL b,v] K I L:=by
 refine zAN X ?_;refine AQw ?_;unfold AMw;have he:GZ xs=[40]++(Aw (xs.map nameB)++[41]):=by simp [GZ]
 rw [he] at hn hk;simp only [zU] at hn;refine Bd (X:=X) hW zL (λI1 X1 hI1 hW1=>?_);refine call (AAM (g:=nameB) (F:=F) (zAJ hv hI1) (zAJ hw hI1) ?_ hxl hW1 zL (λI2 X2 hI2 hW2=>?_))
 ·intro x hxm I2 X2 l2 vx K2 hI2 hw2 hW2 hvx hn2 hk2;obtain rfl:vx= .string ⟨x.toArray⟩:=by simpa using (show [vx]=_ from hvx)
  refine Xv (by kernel_rfl) ?_;exact Bh (X:=X2) hW2 hw2 x hn2 hk2
 ·refine Bd hW2 zL (λI3 X3 hI3 hW3=>?_);exact zAA (hk I3 X3 (zAB hI1 (zAB hI2 hI3)) (by simpa using hW3))
end
abbrev wpO (b:Nat):Obj:=.cells [AL b].toArray 108 (0,0)
section
variable {ω:Om}{G I:Imm}{L F Y:LH}{K:Value→M}{b bw:Nat}{w:Value}{X:LH}{l:Bs}{n:Nat}
theorem AEv (hG:FY G){xs:List TItem}[i1:InL bw Y (wpO b)](hGI:Ext G I)(hxs:∀x∈xs,okE x.fExpr):FnW ω b w Y (.func (.func 165) #[] #[AL bw]) (Ko TItemV) (Js true) xs I:=by
 intro x hxm I2 X2 l2 vx K2 hI2 hw2 hW2 hvx hn hk;obtain ⟨c,rfl,hc⟩:=hvx;obtain ⟨v0,rfl,h0⟩:=hc;have hok:=hxs x hxm;have hGI2:=zAB hGI hI2;refine Hr (by kernel_rfl) ?_;refine AQE ?_;show AGX ω (.agg _) (AL bw) _ I2 _;unfold AGX;refine AQ (λbx=>?_);have he:ExV I2 x.fExpr (Ag x.fExpr v0):=ExV.iff.2 ⟨v0,rfl,h0⟩;have fin:∀(s:Bs) (I3:Imm) (X3:LH) (lc:List Value) [GetL lc 13 (.string ⟨x.fAs.toArray⟩)],Ext I2 I3→s++asB x.fAs=Js true x→WrS b w X3 (l2++s)→MN ω (AL bw) (AL bx) (λv=>Gh (K2 v)) I3 (X3++((bx,.cells lc.toArray 119 (0,0))::Y)):=by
  intro s I3 X3 lc _ hI3 hs hW3;rw [←hs] at hn hk;simp only [zU] at hn;unfold MN;refine rdb ?_;try refine zqe ?_
  refine rdb ?_;refine call (WN x.fAs (zAJ hw2 hI3) hW3 zL (λI4 X4 hI4 hW4=>?_));exact zAE (X4++Y) (zAA (hk I4 X4 (zAB hI3 hI4) (by simpa using hW4)))
 have hib:Js true x=(if x.fStar then (if x.fTable.isEmpty then [42] else nameB x.fTable++[46,42]) else exB true x.fExpr 1)++asB x.fAs:=rfl;try refine zqe ?_
 refine rdb ?_;cases hst:x.fStar with
 |true=>
  rw [hst] at hib;try refine zqe ?_
  refine rdb ?_;cases htb:x.fTable with
  |nil=>
   rw [htb] at hib;simp only [List.isEmpty_nil,if_true] at hib;have hn':=hn;rw [hib] at hn';simp only [zU] at hn';simp only [sNe,show (([]:Bs)==[])=true from rfl,zQ,SSd,Nat.reduceAdd];unfold PU;try refine zqe ?_
   refine rdb ?_;try refine zqe ?_
   refine rdb ?_;refine Bd (X:=X2) hW2 zL (λI3 X3 hI3 hW3=>?_);exact fin _ I3 X3 _ hI3 hib.symm hW3
  |cons c r=>
   rw [htb] at hib;simp only [zbo,zt,if_false,if_true] at hib;have hn':=hn;rw [hib] at hn';simp only [zU] at hn';simp only [sNe,show ((c::r)==([]:Bs))=false from rfl,zG,SSd,Nat.reduceAdd];unfold ABS;refine rdb ?_;try refine zqe ?_
   refine rdb ?_;refine call (Bh (X:=X2) hW2 hw2 (c::r) zL (λI3 X3 hI3 hW3=>?_));refine rdb ?_;refine Bd hW3 zL (λI4 X4 hI4 hW4=>?_);exact fin (nameB (c::r)++[46,42]) I4 X4 _ (zAB hI3 hI4) hib.symm (by simpa using hW4)
 |false=>
  rw [hst] at hib;simp only [zt,if_false] at hib;have hn':=hn;rw [hib] at hn';simp only [zU] at hn';try refine zqe ?_
  unfold PU;try refine zqe ?_
  refine rdb ?_;try refine zqe ?_
  refine rdb ?_;refine rdP _ rfl rfl ?_;refine call (Gv (X:=X2) hG hok 1 hGI2 hw2 hW2 he zL (λI3 X3 hI3 hW3=>?_));exact fin _ I3 X3 _ hI3 hib.symm hW3
theorem ACu (hG:FY G){xs:List TOrder}[i1:InL bw Y (wpO b)](hGI:Ext G I)(hxs:∀x∈xs,okE x.fExpr):FnW ω b w Y (.func (.func 170) #[] #[AL bw]) (Ko TOrderV) (AHk true) xs I:=by
 intro x hxm I2 X2 l2 vx K2 hI2 hw2 hW2 hvx hn hk;obtain ⟨c,rfl,hc⟩:=hvx;obtain ⟨v0,rfl,h0⟩:=hc;have hok:=hxs x hxm;have hGI2:=zAB hGI hI2;refine Hr (by kernel_rfl) ?_;refine APz ?_;show AGW ω (.agg _) (AL bw) _ I2 _;unfold AGW;refine AQ (λbx=>?_);have he:ExV I2 x.fExpr (Ag x.fExpr v0):=ExV.iff.2 ⟨v0,rfl,h0⟩;unfold AHk at hn hk;simp only [zU] at hn;refine rdb ?_;try refine zqe ?_
 refine rdP _ rfl rfl ?_;refine call (Gv (X:=X2) hG hok 1 hGI2 hw2 hW2 he zL (λI3 X3 hI3 hW3=>?_));try refine zqe ?_
 refine rdb ?_;cases hds:x.fDesc with
 |true=>
  rw [hds] at hn hk;simp only [if_true,zh,zac] at hn hk;try refine zqe ?_
  refine rdb ?_;refine Bd hW3 zL (λI4 X4 hI4 hW4=>?_);exact zAE (X4++Y) (zAA (hk I4 X4 (zAB hI3 hI4) (by simpa using hW4)))
 |false=>
  rw [hds] at hn hk;simp only [zt,if_false] at hn hk;try refine zqe ?_
  exact zAE (X3++Y) (zAA (hk I3 X3 hI3 (by simpa using hW3)))
def AGi (x:TSet):Bs:=nameB x.fColumn++[32,61,32]++exB true x.fExpr 1
theorem AJh (hG:FY G){xs:List TSet}[i1:InL bw Y (wpO b)](hGI:Ext G I)(hxs:∀x∈xs,okE x.fExpr):FnW ω b w Y (.func (.func 119) #[] #[AL bw]) (Ko TSetV) AGi xs I:=by
 intro x hxm I2 X2 l2 vx K2 hI2 hw2 hW2 hvx hn hk;obtain ⟨c,rfl,hc⟩:=hvx;obtain ⟨v0,rfl,h0⟩:=hc;have hok:=hxs x hxm;have hGI2:=zAB hGI hI2;refine Hr (by kernel_rfl) ?_;refine AQs ?_;show AGd ω (.agg _) (AL bw) _ I2 _;unfold AGd;refine AQ (λbx=>?_);have he:ExV I2 x.fExpr (Ag x.fExpr v0):=ExV.iff.2 ⟨v0,rfl,h0⟩;unfold AGi at hn hk;simp only [zU] at hn;refine rdb ?_;try refine zqe ?_
 refine rdb ?_;refine call (Bh (X:=X2) hW2 hw2 x.fColumn zL (λI3 X3 hI3 hW3=>?_));refine rdb ?_;refine Bd hW3 zL (λI4 X4 hI4 hW4=>?_);refine rdb ?_;try refine zqe ?_
 refine rdP _ rfl rfl ?_;have hI24:=zAB hI3 hI4;refine call (Gv (X:=X4) hG hok 1 (zAB hGI2 hI24) (zAJ hw2 hI24) hW4 (ExV.mono hI24 he) zL (λI5 X5 hI5 hW5=>?_));exact zAE (X5++Y) (zAA (hk I5 X5 (zAB hI24 hI5) (by simpa using hW5)))
theorem AJi (hG:FY G){xs:List (List Ex)}(hGI:Ext G I)(hxs:∀x∈xs,okL x∧x.length≤1000000000000):FnW ω b w Y (.func (.func 117) #[AL b] #[]) (ARR (FX ExV 11)) (rowB true) xs I:=by
 intro x hxm I2 X2 l2 vx K2 hI2 hw2 hW2 hvx hn hk;obtain ⟨v,hv,hr⟩:=(show FX ExV 11 I2 x [vx] from hvx);obtain rfl:vx=v:=by simpa using hv
 refine Xv (by kernel_rfl) ?_;exact KE (X:=X2) (n:=BU x) (RZ hG _) (zW _) (hxs x hxm).1 (hxs x hxm).2 (zAB hGI hI2) hw2 hW2 hr hn hk
def ANZ (_:Imm)(x:Bool×Bs)(c:List Value):Prop:=c=[.bool x.1,.string ⟨x.2.toArray⟩]
def Hl (l:List (Bool×Bs)):Bs:=l.flatMap λp=>if p.1 then p.2 else []
theorem ZX {l:List (Bool×Bs)}{k:Nat}(h:k < l.length):Hl (l.take (k+1))=Hl (l.take k)++(if l[k].1 then l[k].2 else []):=by
 unfold Hl;rw [zl h,List.flatMap_append];simp only [zbp,List.flatMap_nil,zao]
theorem AIM (l:List (Bool×Bs))(k:Nat):(Hl (l.take k)).length≤(Hl l).length:=by
 have:Hl l=Hl (l.take k)++Hl (l.drop k):=by unfold Hl;rw [←List.flatMap_append,zad]
 rw [this,zn];omega
def tyM (t:Int):Option Bs:=if t=1 then some [32,105,110,116] else if t=2 then some [32,98,111,111,108] else if t=3 then some [32,116,101,120,116] else none
theorem AJn:EZ (EZ (EZ (λ_=>none) 1 (some (.string ⟨[32,105,110,116].toArray⟩))) 2 (some (.string ⟨[32,98,111,111,108].toArray⟩))) 3 (some (.string ⟨[32,116,101,120,116].toArray⟩))=λk=>(tyM k).map λs=>.string ⟨s.toArray⟩:=by
 funext k
 simp only [EZ,tyM];by_cases h3:k=3
 ·subst h3;rfl
 by_cases h2:k=2
 ·subst h2;rfl
 by_cases h1:k=1
 ·subst h1;rfl
 simp only [h1,h2,h3,if_false];rfl
theorem ALA (x:TCol):AAR true x=nameB x.fName++((tyM x.fType).getD [32,63]++(Hl [(x.fNotNull,[32,110,111,116,32,110,117,108,108]),(x.fKey,[32,112,114,105,109,97,114,121,32,107,101,121]),(x.fUnique,[32,117,110,105,113,117,101])]++EY true [32,100,101,102,97,117,108,116,32] x.fDefault)):=by
 have ht:[32]++AEx x.fType=(tyM x.fType).getD [32,63]:=by
  unfold AEx tyM;by_cases h1:x.fType=1
  ·rw [if_pos h1,if_pos h1];rfl
  by_cases h2:x.fType=2
  ·rw [if_neg h1,if_pos h2,if_neg h1,if_pos h2];rfl
  by_cases h3:x.fType=3
  ·rw [if_neg h1,if_neg h2,if_pos h3,if_neg h1,if_neg h2,if_pos h3];rfl
  rw [if_neg h1,if_neg h2,if_neg h3,if_neg h1,if_neg h2,if_neg h3];rfl
 rw [←ht];unfold AAR Hl EY;simp
theorem AJk (hG:FY G){xs:List TCol}[i1:InL bw Y (wpO b)](hGI:Ext G I)(hxs:∀x∈xs,okE x.fDefault):FnW ω b w Y (.func (.func 181) #[] #[AL bw]) (Ko TColV) (AAR true) xs I:=by
 intro x hxm I2 X2 l2 vx K2 hI2 hw2 hW2 hvx hn hk;obtain ⟨c,rfl,hc⟩:=hvx;obtain ⟨v0,rfl,h0⟩:=hc;have hok:=hxs x hxm;have hGI2:=zAB hGI hI2;refine Hr (by kernel_rfl) ?_;refine APq ?_;show AGU ω (.agg _) (AL bw) _ I2 _;unfold AGU;refine AQ (λbx=>?_);have he:ExV I2 x.fDefault (Ag x.fDefault v0):=ExV.iff.2 ⟨v0,rfl,h0⟩;rw [ALA] at hn hk;generalize hty:(tyM x.fType).getD [32,63]=ty at hn hk;generalize hfl:([(x.fNotNull,[32,110,111,116,32,110,117,108,108]),(x.fKey,[32,112,114,105,109,97,114,121,32,107,101,121]),(x.fUnique,[32,117,110,105,113,117,101])]:List (Bool×Bs))=fl at hn hk;simp only [zU] at hn;refine rdb ?_;try refine zqe ?_
 refine rdb ?_;refine call (Bh (X:=X2) hW2 hw2 x.fName zL (λI3 X3 hI3 hW3=>?_));refine AHt (λbm=>?_);obtain ⟨es1,c1,e1,p1⟩:=MapSi.empty.put 1 (.string ⟨[32,105,110,116].toArray⟩);obtain ⟨es2,c2,e2,p2⟩:=p1.put 2 (.string ⟨[32,98,111,111,108].toArray⟩);obtain ⟨es3,c3,e3,p3⟩:=p2.put 3 (.string ⟨[32,116,101,120,116].toArray⟩);rw [AJn] at p3;refine zAA (FZ (k:=1) MapSi.empty e1 ?_);refine zAA (FZ (k:=2) p1 e2 ?_);refine zAA (FZ (k:=3) p2 e3 ?_);refine zAA ?_;have rest:PN ω (AL bw) (AL bx) (.string ⟨ty.toArray⟩) (λv=>Gh (K2 v)) I3 ((bm,.map es3 c3)::(X3++((bx,.cells [.string ⟨x.fName.toArray⟩,.int .i64 x.fType,.bool x.fNotNull,.bool x.fKey,.bool x.fUnique,.int .i64 x.fDefault.kind,.int .i64 x.fDefault.value.fType,.bool x.fDefault.value.fNull,.int .i64 x.fDefault.value.fInt,.string ⟨x.fDefault.value.fText.toArray⟩,.string ⟨x.fDefault.table.toArray⟩,.string ⟨x.fDefault.name.toArray⟩,.int .i64 x.fDefault.slot,.int .i64 x.fDefault.type,.bool x.fDefault.distinct,v0].toArray 101 (0,0))::Y))):=by
  unfold PN;refine rdb ?_;refine Bd (X:=X3) hW3 zL (λI4 X4 hI4 hW4=>?_);try refine zqe ?_
  refine rdb ?_;try refine zqe ?_
  refine rdb ?_;try refine zqe ?_
  refine rdb ?_;try refine zqe ?_
  have hI24:=zAB hI3 hI4;refine EQ (R:=ANZ) [(x.fNotNull,[32,110,111,116,32,110,117,108,108]),(x.fKey,[32,112,114,105,109,97,114,121,32,107,101,121]),(x.fUnique,[32,117,110,105,113,117,101])] [[.bool x.fNotNull,.string ⟨[32,110,111,116,32,110,117,108,108].toArray⟩],[.bool x.fKey,.string ⟨[32,112,114,105,109,97,114,121,32,107,101,121].toArray⟩],[.bool x.fUnique,.string ⟨[32,117,110,105,113,117,101].toArray⟩]] rfl rfl rfl zy (by simp [ANZ]) (λhI h=>h) (λI5 a5 hI5 hv5=>zAA ?_);rw [hfl] at hv5;have hfl3:fl.length=3:=by rw [←hfl];rfl
  try refine zqe ?_
  refine loop (λq st I' L'=>∃(k:Nat) (X':LH),k+q=3∧st=(.int .i64 k,())∧Ext I5 I'∧L'=X'++((bm,.map es3 c3)::((bx,.cells [.string ⟨x.fName.toArray⟩,.int .i64 x.fType,.bool x.fNotNull,.bool x.fKey,.bool x.fUnique,.int .i64 x.fDefault.kind,.int .i64 x.fDefault.value.fType,.bool x.fDefault.value.fNull,.int .i64 x.fDefault.value.fInt,.string ⟨x.fDefault.value.fText.toArray⟩,.string ⟨x.fDefault.table.toArray⟩,.string ⟨x.fDefault.name.toArray⟩,.int .i64 x.fDefault.slot,.int .i64 x.fDefault.type,.bool x.fDefault.distinct,v0].toArray 101 (0,0))::Y))∧WrS b w X' (((l2++nameB x.fName)++ty)++Hl (fl.take k))) 3 ⟨0,X4,by omega,rfl,zAC _,rfl,by simpa [Hl] using hW4⟩ ?_;rintro q st I' L' ⟨k,X',hkq,rfl,hI',rfl,hW'⟩;unfold ABL;try refine zqe ?_
  refine AB (λhb=>?_) (λhb=>?_)
  ·have hb:k < fl.length:=by
    have:=of_decide_eq_true hb;omega
   obtain ⟨bt,off,c1,g1,gl,g2,g3⟩:=zAR hv5 (i:=k) zo zo;rw [Am hb] at g2;obtain rfl:=g2;have hft:=ZX hb;have hfle:=AIM fl (k+1);rw [hft,zn] at hfle;simp only [g1,SSd,Nat.reduceAdd];refine Ep (g3 _ [] hI' (λ_ h=>h)) (zAC _) gl ?_;refine AQ (λb3=>?_);refine stB rfl rfl (AY rfl) ?_;try refine zqe ?_
   refine rdb ?_;have nxt:∀(I6:Imm) (X6 Z:LH),Ext I' I6→SubP (X6++((bm,.map es3 c3)::((bx,.cells [.string ⟨x.fName.toArray⟩,.int .i64 x.fType,.bool x.fNotNull,.bool x.fKey,.bool x.fUnique,.int .i64 x.fDefault.kind,.int .i64 x.fDefault.value.fType,.bool x.fDefault.value.fNull,.int .i64 x.fDefault.value.fInt,.string ⟨x.fDefault.value.fText.toArray⟩,.string ⟨x.fDefault.table.toArray⟩,.string ⟨x.fDefault.name.toArray⟩,.int .i64 x.fDefault.slot,.int .i64 x.fDefault.type,.bool x.fDefault.distinct,v0].toArray 101 (0,0))::Y))) Z→WrS b w X6 (((l2++nameB x.fName)++ty)++Hl (fl.take (k+1)))→PM ω (.int .i64 k) (λs'=>Gh λI2 L2=>∃m',m' < q∧∃(k:Nat) (X':LH),k+m'=3∧s'=(.int .i64 k,())∧Ext I5 I2∧L2=X'++((bm,.map es3 c3)::((bx,.cells [.string ⟨x.fName.toArray⟩,.int .i64 x.fType,.bool x.fNotNull,.bool x.fKey,.bool x.fUnique,.int .i64 x.fDefault.kind,.int .i64 x.fDefault.value.fType,.bool x.fDefault.value.fNull,.int .i64 x.fDefault.value.fInt,.string ⟨x.fDefault.value.fText.toArray⟩,.string ⟨x.fDefault.table.toArray⟩,.string ⟨x.fDefault.name.toArray⟩,.int .i64 x.fDefault.slot,.int .i64 x.fDefault.type,.bool x.fDefault.distinct,v0].toArray 101 (0,0))::Y))∧WrS b w X' (((l2++nameB x.fName)++ty)++Hl (fl.take k))) (λv=>Gh (K2 v)) I6 Z:=by
    intro I6 X6 Z hI6 hZ hW6;unfold PM;simp only [wrap_i64 ((k:Int)+1) zo,SSd,Nat.reduceAdd];exact zAE _ (zAA ⟨q - 1,by omega,k+1,X6,by omega,rfl,zAB hI' hI6,rfl,hW6⟩)
   cases hf:fl[k].1 with
   |true=>
    rw [hf] at hft hfle;simp only [if_true] at hft hfle;try refine zqe ?_
    refine rdb ?_;try refine zqe ?_
    refine rdb ?_;refine Bd (X:=X') hW' zL (λI6 X6 hI6 hW6=>?_);exact nxt I6 X6 _ hI6 inferInstance (by rw [hft];simpa using hW6)
   |false=>
    rw [hf] at hft;simp only [zt,if_false,zao] at hft;try refine zqe ?_
    exact nxt I' X' _ (zAC _) inferInstance (by rw [hft];exact hW')
  ·have hb:¬k < fl.length:=by
    have:=of_decide_eq_false hb;omega
   rw [zg zo] at hW';have hI25:=zAB hI24 (zAB hI5 hI');unfold ABK;refine rdb ?_;try refine zqe ?_
   refine rdP _ rfl rfl ?_;refine call (FI (X:=X') hG hok [32,100,101,102,97,117,108,116,32] (zAB hGI2 hI25) (zAJ hw2 hI25) hW' (ExV.mono hI25 he) zL (λI6 X6 hI6 hW6=>?_));exact zAE (X6++Y) (zAA (hk I6 X6 (zAB hI25 hI6) (by simpa using hW6)))
 try refine zqe ?_
 refine rdb ?_;refine ASt (k:=x.fType) p3 ?_;cases htt:tyM x.fType with
 |none=>
  rw [htt] at hty;subst hty;simp only [zbv,lkV,SSd,Nat.reduceAdd];exact rest
 |some s=>
  rw [htt] at hty;obtain rfl:s=ty:=hty;simp only [Option.map_some,lkV,SSd,Nat.reduceAdd];exact rest
end
abbrev selC (q:TSelect)(v0 v1 v2 v3 v4 v5:Value):List Value:=[.bool q.fDistinct,v0,v1,.int .i64 q.fWhere.kind,.int .i64 q.fWhere.value.fType,.bool q.fWhere.value.fNull,.int .i64 q.fWhere.value.fInt,.string ⟨q.fWhere.value.fText.toArray⟩,.string ⟨q.fWhere.table.toArray⟩,.string ⟨q.fWhere.name.toArray⟩,.int .i64 q.fWhere.slot,.int .i64 q.fWhere.type,.bool q.fWhere.distinct,v2,v3,.int .i64 q.fHaving.kind,.int .i64 q.fHaving.value.fType,.bool q.fHaving.value.fNull,.int .i64 q.fHaving.value.fInt,.string ⟨q.fHaving.value.fText.toArray⟩,.string ⟨q.fHaving.table.toArray⟩,.string ⟨q.fHaving.name.toArray⟩,.int .i64 q.fHaving.slot,.int .i64 q.fHaving.type,.bool q.fHaving.distinct,v4,v5,.int .i64 q.fLimit,.int .i64 q.fOffset]
structure OkQ (q:TSelect):Prop where
 it:∀x∈q.fItems,okE x.fExpr
 fr:∀x∈q.fFrom,okE x.fOn
 wh:okE q.fWhere
 gr:okL q.fGroup
 ha:okE q.fHaving
 od:∀x∈q.fOrder,okE x.fExpr
 li:okI q.fLimit
 off:okI q.fOffset
 cnt:cQ q≤1000000000
def AEy (q:TSelect):Bs:=if q.fOffset=0 then [] else [32,111,102,102,115,101,116,32]++Rl true q.fOffset
def tx9 (q:TSelect):Bs:=(if 0≤q.fLimit then [32,108,105,109,105,116,32]++Rl true q.fLimit else [])++AEy q
def tx8 (q:TSelect):Bs:=EY true [32,104,97,118,105,110,103,32] q.fHaving++((if q.fOrder.isEmpty then [] else [32,111,114,100,101,114,32,98,121,32]++Aw (q.fOrder.map (AHk true)))++tx9 q)
def tx7 (q:TSelect):Bs:=EY true [32,119,104,101,114,101,32] q.fWhere++((if q.fGroup.isEmpty then [] else [32,103,114,111,117,112,32,98,121,32]++Jq true q.fGroup)++tx8 q)
def tx1 (q:TSelect):Bs:=Aw (q.fItems.map (Js true))++(Ea true 0 q.fFrom++tx7 q)
theorem XD (q:TSelect):Nl true q=[115,101,108,101,99,116,32]++((if q.fDistinct then [100,105,115,116,105,110,99,116,32] else [])++tx1 q):=by
 unfold Nl tx1 tx7 tx8 tx9 AEy;simp only [zi]
theorem TA (x:TSource):∀(l:List TSource) (i:Nat),Ea true i (l++[x])=Ea true i l++AFI true (i+l.length) x
 |[],i=>by simp [Ea]
 |y::l,i=>by
  simp only [zai,Ea,TA x l (i+1),zh,zi];congr 2;congr 1;omega
theorem ADJ {l:List TSource}{k:Nat}(h:k < l.length):Ea true 0 (l.take (k+1))=Ea true 0 (l.take k)++AFI true k l[k]:=by
 rw [zl h,TA,zaG];congr 2;omega
theorem WX:∀(l m:List TSource) (i:Nat),Ea true i (l++m)=Ea true i l++Ea true (i+l.length) m
 |[],m,i=>by simp [Ea]
 |y::l,m,i=>by
  simp only [zai,Ea,WX l m (i+1),zh,zi];congr 3;omega
theorem AJs (l:List TSource)(k:Nat):(Ea true 0 (l.take k)).length≤(Ea true 0 l).length:=by
 have:=WX (l.take k) (l.drop k) 0;rw [zad] at this;rw [this,zn];omega
section
variable {ω:Om}{G I:Imm}{L F Y:LH}{K:Value→M}{b bw bq:Nat}{w:Value}{X:LH}{l:Bs}{n:Nat}{q:TSelect}{v0 v1 v2 v3 v4 v5:Value}
abbrev Yq (b bw bq:Nat)(q:TSelect)(v0 v1 v2 v3 v4 v5:Value)(F:LH):LH:=(bq,.cells (selC q v0 v1 v2 v3 v4 v5).toArray 40 (0,0))::(bw,wpO b)::F
theorem q10 (hG:FY G)(hGI:Ext G I)(hq:OkQ q)(hW:WrS b w X l)(hn:(l++AEy q).length≤1000000000)(hk:∀I' X',Ext I I'→WrS b w X' (l++AEy q)→Gh (K (.tuple #[])) I' (X'++Yq b bw bq q v0 v1 v2 v3 v4 v5 F)):
  Mc ω (AL bw) (AL bq) (λv=>Gh (K v)) I (X++Yq b bw bq q v0 v1 v2 v3 v4 v5 F):=by
 unfold Mc;unfold AEy at hn hk;try refine zqe ?_
 refine rdb ?_;try refine zqe ?_
 refine AB (λh=>?_) (λh=>?_)
 ·have h:q.fOffset≠0:=by simpa using h
  rw [if_neg h] at hn hk;refine BM ?_;refine CB ?_;try refine zqe ?_
  refine CB ?_;refine call (Ti hG hGI _ hq.off.1 hq.off.2 (CV (zAC _) ?_));refine DT [[32,111,102,102,115,101,116,32],Rl true q.fOffset] rfl rfl (λI' a hI' hv'=>zAA ?_);refine CV hI' ?_;refine call (IY (X:=X) hW hv' zy (by simpa using hn) (λX' hW'=>?_));exact hk I' X' hI' (by simpa using hW')
 ·have h:q.fOffset=0:=by simpa using h
  rw [if_pos h] at hn hk;exact hk I X (zAC I) (by simpa using hW)
theorem q9 (hG:FY G)(hGI:Ext G I)(hq:OkQ q)(hW:WrS b w X l)(hn:(l++tx9 q).length≤1000000000)(hk:∀I' X',Ext I I'→WrS b w X' (l++tx9 q)→Gh (K (.tuple #[])) I' (X'++Yq b bw bq q v0 v1 v2 v3 v4 v5 F)):
  QB ω (AL bw) (AL bq) (λv=>Gh (K v)) I (X++Yq b bw bq q v0 v1 v2 v3 v4 v5 F):=by
 unfold QB;unfold tx9 at hn hk;try refine zqe ?_
 refine rdb ?_;try refine zqe ?_
 refine AB (λh=>?_) (λh=>?_)
 ·have h:0≤q.fLimit:=by simpa using h
  rw [if_pos h] at hn hk;refine BM ?_;refine CB ?_;try refine zqe ?_
  refine CB ?_;refine call (Ti hG hGI _ hq.li.1 hq.li.2 (CV (zAC _) ?_));refine DT [[32,108,105,109,105,116,32],Rl true q.fLimit] rfl rfl (λI' a hI' hv'=>zAA ?_);refine CV hI' ?_;simp only [zn] at hn;refine call (IY (X:=X) hW hv' zy (by simp only [zaD,zaX,zao,zn];omega) (λX' hW'=>?_));exact q10 hG (zAB hGI hI') hq hW' (by simp only [zaD,zaX,zao,zn];omega) (λI2 X2 hI2 hW2=>hk I2 X2 (zAB hI' hI2) (by simpa using hW2))
 ·have h:¬0≤q.fLimit:=by simpa using h
  rw [if_neg h] at hn hk;exact q10 hG hGI hq hW (by simpa using hn) (λI2 X2 hI2 hW2=>hk I2 X2 hI2 (by simpa using hW2))
theorem q8 (hG:FY G)(hGI:Ext G I)(hw:StL I w wordsL)(hq:OkQ q)(h4:ExL I v4 q.fHaving.args)(h5:RL TOrderV 12 I [] v5 q.fOrder)(hW:WrS b w X l)(hn:(l++tx8 q).length≤1000000000)(hk:∀I' X',Ext I I'→WrS b w X' (l++tx8 q)→Gh (K (.tuple #[])) I' (X'++Yq b bw bq q v0 v1 v2 v3 v4 v5 F)):
  QC ω (AL bw) (AL bq) (λv=>Gh (K v)) I (X++Yq b bw bq q v0 v1 v2 v3 v4 v5 F):=by
 unfold QC;unfold tx8 at hn hk;simp only [zU] at hn;have hcnt:=hq.cnt;unfold cQ at hcnt;refine rdb ?_;try refine zqe ?_
 refine rdP _ rfl rfl ?_;refine call (FI (X:=X) hG hq.ha [32,104,97,118,105,110,103,32] hGI hw hW (ExV.iff.2 ⟨v4,rfl,h4⟩) zL (λI1 X1 hI1 hW1=>?_));try refine zqe ?_
 refine rdb ?_;have h51:RL TOrderV 12 I1 [] v5 q.fOrder:=zAL (λ_ _ h=>zAO h hI1) h5 hI1 (λ_ h=>h);simp only [zAK h5,SSd,Nat.reduceAdd];refine AB (λh=>?_) (λh=>?_)
 ·have h:q.fOrder.isEmpty=false:=by
   have:=of_decide_eq_true h;cases ho:q.fOrder with
   |nil=>rw [ho] at this;simp at this
   |cons _ _=>rfl
  rw [h] at hn hk;simp only [zt,if_false,zU] at hn hk;refine rdb ?_;refine Bd hW1 zL (λI2 X2 hI2 hW2=>?_);have hI12:=zAB hI1 hI2;refine rdb ?_;try refine zqe ?_
  refine rdb ?_;refine call (Vy (g:=AHk true) (F:=Yq b bw bq q v0 v1 v2 v3 v4 v5 F) (zAL (λ_ _ h=>zAO h hI2) h51 hI2 (λ_ h=>h)) (zAJ hw hI12) (ACu (bw:=bw) hG (zAB hGI hI12) hq.od) zo hW2 zL (λI3 X3 hI3 hW3=>?_));exact q9 hG (zAB hGI (zAB hI12 hI3)) hq hW3 zL (λI4 X4 hI4 hW4=>hk I4 X4 (zAB (zAB hI12 hI3) hI4) (by simpa using hW4))
 ·have h:q.fOrder.isEmpty=true:=by
   have:=of_decide_eq_false h;cases ho:q.fOrder with
   |nil=>rfl
   |cons _ _=>rw [ho] at this;simp at this
  rw [h] at hn hk;simp only [if_true,zat,zac] at hn hk;exact q9 hG (zAB hGI hI1) hq hW1 zL (λI4 X4 hI4 hW4=>hk I4 X4 (zAB hI1 hI4) (by simpa using hW4))
theorem q7 (hG:FY G)(hGI:Ext G I)(hw:StL I w wordsL)(hq:OkQ q)(h2:ExL I v2 q.fWhere.args)(h3:ExL I v3 q.fGroup)(h4:ExL I v4 q.fHaving.args)(h5:RL TOrderV 12 I [] v5 q.fOrder)(hW:WrS b w X l)(hn:(l++tx7 q).length≤1000000000)(hk:∀I' X',Ext I I'→WrS b w X' (l++tx7 q)→Gh (K (.tuple #[])) I' (X'++Yq b bw bq q v0 v1 v2 v3 v4 v5 F)):
  VJ ω (AL bw) (AL bq) (λv=>Gh (K v)) I (X++Yq b bw bq q v0 v1 v2 v3 v4 v5 F):=by
 unfold VJ;unfold tx7 at hn hk;simp only [zU] at hn;have hcnt:=hq.cnt;unfold cQ at hcnt;refine rdb ?_;try refine zqe ?_
 refine rdP _ rfl rfl ?_;refine call (FI (X:=X) hG hq.wh [32,119,104,101,114,101,32] hGI hw hW (ExV.iff.2 ⟨v2,rfl,h2⟩) zL (λI1 X1 hI1 hW1=>?_));try refine zqe ?_
 refine rdb ?_;simp only [zAK h3,SSd,Nat.reduceAdd];refine AB (λh=>?_) (λh=>?_)
 ·have h:q.fGroup.isEmpty=false:=by
   have:=of_decide_eq_true h;cases ho:q.fGroup with
   |nil=>rw [ho] at this;simp at this
   |cons _ _=>rfl
  rw [h] at hn hk;simp only [zt,if_false,zU] at hn hk;refine rdb ?_;refine Bd hW1 zL (λI2 X2 hI2 hW2=>?_);have hI12:=zAB hI1 hI2;refine rdb ?_;try refine zqe ?_
  refine rdb ?_;refine call (QO (n:=BU q.fGroup) (RZ hG _) (zW _) hq.gr zo (zAB hGI hI12) (zAJ hw hI12) hW2 (zAI h3 hI12) zL (λI3 X3 hI3 hW3=>?_));have hI13:=zAB hI12 hI3;exact q8 hG (zAB hGI hI13) (zAJ hw hI13) hq (zAI h4 hI13) (zAL (λ_ _ h=>zAO h hI13) h5 hI13 (λ_ h=>h)) hW3 zL (λI4 X4 hI4 hW4=>hk I4 X4 (zAB hI13 hI4) (by simpa using hW4))
 ·have h:q.fGroup.isEmpty=true:=by
   have:=of_decide_eq_false h;cases ho:q.fGroup with
   |nil=>rfl
   |cons _ _=>rw [ho] at this;simp at this
  rw [h] at hn hk;simp only [if_true,zat,zac] at hn hk;exact q8 hG (zAB hGI hI1) (zAJ hw hI1) hq (zAI h4 hI1) (zAL (λ_ _ h=>zAO h hI1) h5 hI1 (λ_ h=>h)) hW1 zL (λI4 X4 hI4 hW4=>hk I4 X4 (zAB hI1 hI4) (by simpa using hW4))
def XX (i:Nat)(x:TSource):Bs:=if i=0 then [32,102,114,111,109,32] else if x.fLeft then [32,108,101,102,116,32,106,111,105,110,32] else if x.fOn.kind≠0 then [32,106,111,105,110,32] else [32,99,114,111,115,115,32,106,111,105,110,32]
def XP (i:Nat)(x:TSource):Bs:=if 0 < i∧(x.fLeft=true∨x.fOn.kind≠0) then [32,111,110,32]++exB true x.fOn 1 else []
theorem AAi (i:Nat)(x:TSource):AFI true i x=XX i x++(nameB x.fTable++(asB x.fAs++XP i x)):=by
 unfold AFI XX XP;simp only [zi]
theorem XW {x:TSource}{c:List Value}(hc:TSourceV I x c)(i:Nat)(hk:K (.string ⟨(XX i x).toArray⟩) I L):CT ω 167 #[.int .i64 (i:Nat),.agg c.toArray] K I L:=by
 obtain ⟨u0,rfl,h0⟩:=hc;refine AQC ?_;unfold AMM;unfold XX at hk;refine AQ (λbx=>?_);try refine zqe ?_
 refine AB (λh=>?_) (λh=>?_)
 ·have h:i=0:=by
   have:(i:Int)=0:=by simpa using h
   omega
  rw [if_pos h] at hk;exact zAE L (zAA hk)
 have h:¬i=0:=by
  have:¬(i:Int)=0:=by simpa using h
  omega
 rw [if_neg h] at hk;try refine zqe ?_
 refine rdb ?_;refine AB (λh=>?_) (λh=>?_)
 ·rw [if_pos h] at hk;exact zAE L (zAA hk)
 rw [if_neg (by simp [h])] at hk;try refine zqe ?_
 refine rdb ?_;try refine zqe ?_
 refine AB (λh=>?_) (λh=>?_)
 ·have h:x.fOn.kind≠0:=by simpa using h
  rw [if_pos h] at hk;exact zAE L (zAA hk)
 ·have h:x.fOn.kind=0:=by simpa using h
  rw [if_neg (by simp [h])] at hk;exact zAE L (zAA hk)
theorem q1 (hG:FY G)(hGI:Ext G I)(hw:StL I w wordsL)(hq:OkQ q)(h0:RL TItemV 14 I [] v0 q.fItems)(h1:RL TSourceV 14 I [] v1 q.fFrom)(h2:ExL I v2 q.fWhere.args)(h3:ExL I v3 q.fGroup)(h4:ExL I v4 q.fHaving.args)(h5:RL TOrderV 12 I [] v5 q.fOrder)(hW:WrS b w X l)(hn:(l++tx1 q).length≤1000000000)(hk:∀I' X',Ext I I'→WrS b w X' (l++tx1 q)→Gh (K (.tuple #[])) I' (X'++Yq b bw bq q v0 v1 v2 v3 v4 v5 F)):
  Me ω (AL bw) (AL bq) (λv=>Gh (K v)) I (X++Yq b bw bq q v0 v1 v2 v3 v4 v5 F):=by
 unfold Me;unfold tx1 at hn hk;simp only [zU] at hn;have hcnt:=hq.cnt;unfold cQ at hcnt;refine rdb ?_;try refine zqe ?_
 refine rdb ?_;refine call (Xo (g:=Js true) (F:=Yq b bw bq q v0 v1 v2 v3 v4 v5 F) h0 hw (AEv (bw:=bw) hG hGI hq.it) zo hW zL (λI1 X1 hI1 hW1=>?_));try refine zqe ?_
 refine rdb ?_;simp only [zAK h1,SSd,Nat.reduceAdd];refine loop (λm st I' L'=>∃(k:Nat) (X':LH),k+m=q.fFrom.length∧st=(.int .i64 k,())∧Ext I I'∧L'=X'++Yq b bw bq q v0 v1 v2 v3 v4 v5 F∧WrS b w X' ((l++Aw (q.fItems.map (Js true)))++Ea true 0 (q.fFrom.take k))) q.fFrom.length ⟨0,X1,by omega,rfl,hI1,rfl,by simpa [Ea] using hW1⟩ ?_;rintro m st I' L' ⟨k,X',hkm,rfl,hI',rfl,hW'⟩;unfold ABx;try refine zqe ?_
 refine AB (λhb=>?_) (λhb=>?_)
 ·have hb:k < q.fFrom.length:=by
   have:=of_decide_eq_true hb;omega
  obtain ⟨bt,off,c1,g1,gl,g2,g3⟩:=zAR h1 (i:=k) zo zo;rw [Am hb] at g2;have g2:=g2.mono hI';have g2c:=g2;have hok:=hq.fr _ (zH hb);have hst:=ADJ hb;have hsl:=AJs q.fFrom (k+1);rw [hst,AAi] at hsl;rw [AAi] at hst;simp only [zn] at hsl;obtain ⟨u0,rfl,hu⟩:=g2;generalize hy:q.fFrom[k]=y at *;have he:ExV I' y.fOn (Ag y.fOn u0):=ExV.iff.2 ⟨u0,rfl,hu⟩;simp only [g1,SSd,Nat.reduceAdd];refine Ep (g3 _ [] hI' (λ_ h=>h)) (zAC _) rfl ?_;refine AQ (λb3=>?_);obtain ⟨a0,k0,rfl⟩:=zAF hu;refine stB rfl rfl (AY rfl) ?_;refine BM ?_;refine CB ?_;refine GK rfl ?_;refine call (XW g2c k ?_);refine CV (zAC _) ?_;refine DT [XX k y] rfl rfl (λI2 a2 hI2 hv2=>zAA ?_);refine CV hI2 ?_;refine call (IY (X:=X') hW' hv2 zy (by simp only [zaD,zaX,zao,zn];omega) (λX3 hW3=>?_));simp only [zaD,zaX,zao] at hW3;refine rdb ?_;try refine zqe ?_
  refine rdb ?_;have hI12:=zAB hI' hI2;refine call (Bh hW3 (zAJ hw hI12) y.fTable zL (λI4 X4 hI4 hW4=>?_));refine rdb ?_;try refine zqe ?_
  refine rdb ?_;have hI14:=zAB hI12 hI4;refine call (WN y.fAs (zAJ hw hI14) hW4 zL (λI5 X5 hI5 hW5=>?_));have hI15:=zAB hI14 hI5;have fin:∀(I6:Imm) (X6 Z:LH),Ext I I6→SubP (X6++Yq b bw bq q v0 v1 v2 v3 v4 v5 F) Z→WrS b w X6 ((l++Aw (q.fItems.map (Js true)))++Ea true 0 (q.fFrom.take (k+1)))→KI ω (.int .i64 k) (λs'=>Gh λI2 L2=>∃m',m' < m∧∃(k:Nat) (X':LH),k+m'=q.fFrom.length∧s'=(.int .i64 k,())∧Ext I I2∧L2=X'++Yq b bw bq q v0 v1 v2 v3 v4 v5 F∧WrS b w X' ((l++Aw (q.fItems.map (Js true)))++Ea true 0 (q.fFrom.take k))) (λv=>Gh (K v)) I6 Z:=by
   intro I6 X6 Z hI6 hZ hW6;unfold KI;simp only [wrap_i64 ((k:Int)+1) zo,SSd,Nat.reduceAdd];exact zAE (X6++Yq b bw bq q v0 v1 v2 v3 v4 v5 F) (zAA ⟨m - 1,by omega,k+1,X6,by omega,rfl,hI6,rfl,hW6⟩)
  have yes:XP k y=[32,111,110,32]++exB true y.fOn 1→QD ω (AL bw) (AL b3) (.int .i64 k) (λs'=>Gh λI2 L2=>∃m',m' < m∧∃(k:Nat) (X':LH),k+m'=q.fFrom.length∧s'=(.int .i64 k,())∧Ext I I2∧L2=X'++Yq b bw bq q v0 v1 v2 v3 v4 v5 F∧WrS b w X' ((l++Aw (q.fItems.map (Js true)))++Ea true 0 (q.fFrom.take k))) (λv=>Gh (K v)) I5 (X5++((b3,.cells [.string ⟨y.fTable.toArray⟩,.string ⟨y.fAs.toArray⟩,.bool y.fLeft,.int .i64 y.fOn.kind,.int .i64 y.fOn.value.fType,.bool y.fOn.value.fNull,.int .i64 y.fOn.value.fInt,.string ⟨y.fOn.value.fText.toArray⟩,.string ⟨y.fOn.table.toArray⟩,.string ⟨y.fOn.name.toArray⟩,.int .i64 y.fOn.slot,.int .i64 y.fOn.type,.bool y.fOn.distinct,.slice a0 y.fOn.args.length k0].toArray 123 (0,0))::Yq b bw bq q v0 v1 v2 v3 v4 v5 F)):=by
   intro hon;rw [hon] at hst hsl;simp only [zU] at hsl;unfold QD;refine rdb ?_;refine Bd hW5 zL (λI6 X6 hI6 hW6=>?_);refine rdb ?_;try refine zqe ?_
   refine rdP _ rfl rfl ?_;have hI26:=zAB hI2 (zAB hI4 (zAB hI5 hI6));refine call (Gv hG hok 1 (zAB hGI (zAB hI' hI26)) (zAJ hw (zAB hI' hI26)) hW6 (ExV.mono hI26 he) zL (λI7 X7 hI7 hW7=>?_));exact fin I7 X7 _ (zAB (zAB hI' hI26) hI7) inferInstance (by rw [hst];simpa using hW7)
  have no:XP k y=[]→KI ω (.int .i64 k) (λs'=>Gh λI2 L2=>∃m',m' < m∧∃(k:Nat) (X':LH),k+m'=q.fFrom.length∧s'=(.int .i64 k,())∧Ext I I2∧L2=X'++Yq b bw bq q v0 v1 v2 v3 v4 v5 F∧WrS b w X' ((l++Aw (q.fItems.map (Js true)))++Ea true 0 (q.fFrom.take k))) (λv=>Gh (K v)) I5 (X5++((b3,.cells [.string ⟨y.fTable.toArray⟩,.string ⟨y.fAs.toArray⟩,.bool y.fLeft,.int .i64 y.fOn.kind,.int .i64 y.fOn.value.fType,.bool y.fOn.value.fNull,.int .i64 y.fOn.value.fInt,.string ⟨y.fOn.value.fText.toArray⟩,.string ⟨y.fOn.table.toArray⟩,.string ⟨y.fOn.name.toArray⟩,.int .i64 y.fOn.slot,.int .i64 y.fOn.type,.bool y.fOn.distinct,.slice a0 y.fOn.args.length k0].toArray 123 (0,0))::Yq b bw bq q v0 v1 v2 v3 v4 v5 F)):=by
   intro hon;rw [hon] at hst;exact fin I5 X5 _ hI15 inferInstance (by rw [hst];simpa using hW5)
  try refine zqe ?_
  refine BD (λh=>?_) (λh=>?_)
  ·have h:0 < k:=by
    have:(0:Int) < k:=by simpa using h
    omega
   refine rdb ?_;cases hl:y.fLeft with
   |true=>
    rw [hl] at yes;try refine zqe ?_
    exact yes (by unfold XP;rw [if_pos ⟨h,.inl hl⟩])
   |false=>
    rw [hl] at yes no;try refine zqe ?_
    refine rdb ?_;try refine zqe ?_
    refine AB (λh2=>?_) (λh2=>?_)
    ·have h2:y.fOn.kind≠0:=by simpa using h2
     exact yes (by unfold XP;rw [if_pos ⟨h,.inr h2⟩])
    ·have h2:y.fOn.kind=0:=by simpa using h2
     exact no (by unfold XP;rw [if_neg (by rw [hl,h2];simp)])
  ·have h:¬0 < k:=by
    have:¬(0:Int) < k:=by simpa using h
    omega
   exact no (by unfold XP;rw [if_neg (λhc=>h hc.1)])
 ·have hb:¬k < q.fFrom.length:=by
   have:=of_decide_eq_false hb;omega
  rw [zg zo] at hW';exact q7 hG (zAB hGI hI') (zAJ hw hI') hq (zAI h2 hI') (zAI h3 hI') (zAI h4 hI') (zAL (λ_ _ h=>zAO h hI') h5 hI' (λ_ h=>h)) hW' zL (λI4 X4 hI4 hW4=>hk I4 X4 (zAB hI' hI4) (by simpa using hW4))
theorem WJ (hG:FY G)(hGI:Ext G I)(hw:StL I w wordsL)(hq:OkQ q){c:List Value}(hc:BX I q c)[hs:SplitL X L F](hW:WrS b w X l)(hn:(l++Nl true q).length≤1000000000)(hk:∀I' X',Ext I I'→WrS b w X' (l++Nl true q)→K (.tuple #[]) I' (X'++F)):
  CT ω 112 #[AL b,.agg c.toArray] K I L:=by
 refine zAN X ?_;refine AQz ?_;unfold AMy;obtain ⟨v0,v1,v2,v3,v4,v5,rfl,h0,h1,h2,h3,h4,h5⟩:=hc;rw [XD] at hn hk;simp only [zU] at hn;refine AQ (o:=wpO b) (λbw=>?_);refine AQ (o:=.cells (selC q v0 v1 v2 v3 v4 v5).toArray 40 (0,0)) (λbq=>?_);refine rdb ?_;refine Bd (X:=X) hW zL (λI1 X1 hI1 hW1=>?_);have go:∀(s:Bs) (I2:Imm) (X2:LH),Ext I I2→s=(if q.fDistinct then [100,105,115,116,105,110,99,116,32] else [])→WrS b w X2 ((l++[115,101,108,101,99,116,32])++s)→Me ω (AL bw) (AL bq) (λv=>Gh (K v)) I2 (X2++Yq b bw bq q v0 v1 v2 v3 v4 v5 F):=by
  intro s I2 X2 hI2 hs2 hW2;rw [←hs2] at hn hk;exact q1 hG (zAB hGI hI2) (zAJ hw hI2) hq (zAL (λ_ _ h=>TItemV.mono h hI2) h0 hI2 (λ_ h=>h)) (zAL (λ_ _ h=>zAQ h hI2) h1 hI2 (λ_ h=>h)) (zAI h2 hI2) (zAI h3 hI2) (zAI h4 hI2) (zAL (λ_ _ h=>zAO h hI2) h5 hI2 (λ_ h=>h)) hW2 zL (λI4 X4 hI4 hW4=>zAE (X4++F) (zAA (hk I4 X4 (zAB hI2 hI4) (by simpa using hW4))))
 try refine zqe ?_
 refine rdb ?_;refine AB (λh=>?_) (λh=>?_)
 ·rw [h] at go hn;simp only [if_true,zh,zac] at hn;refine rdb ?_;refine Bd hW1 zL (λI2 X2 hI2 hW2=>?_);exact go _ I2 X2 (zAB hI1 hI2) zy hW2
 ·rw [h] at go;exact go [] I1 X1 hI1 zy (by simpa using hW1)
end
abbrev stC (s:TStmt)(v0 v1 v2 v3 v4 v5 v6 v7 v8 v9 v10 v11 v12:Value):List Value:=[.int .i64 s.fKind,.bool s.fSelect.fDistinct,v0,v1,.int .i64 s.fSelect.fWhere.kind,.int .i64 s.fSelect.fWhere.value.fType,.bool s.fSelect.fWhere.value.fNull,.int .i64 s.fSelect.fWhere.value.fInt,.string ⟨s.fSelect.fWhere.value.fText.toArray⟩,.string ⟨s.fSelect.fWhere.table.toArray⟩,.string ⟨s.fSelect.fWhere.name.toArray⟩,.int .i64 s.fSelect.fWhere.slot,.int .i64 s.fSelect.fWhere.type,.bool s.fSelect.fWhere.distinct,v2,v3,.int .i64 s.fSelect.fHaving.kind,.int .i64 s.fSelect.fHaving.value.fType,.bool s.fSelect.fHaving.value.fNull,.int .i64 s.fSelect.fHaving.value.fInt,.string ⟨s.fSelect.fHaving.value.fText.toArray⟩,.string ⟨s.fSelect.fHaving.table.toArray⟩,.string ⟨s.fSelect.fHaving.name.toArray⟩,.int .i64 s.fSelect.fHaving.slot,.int .i64 s.fSelect.fHaving.type,.bool s.fSelect.fHaving.distinct,v4,v5,.int .i64 s.fSelect.fLimit,.int .i64 s.fSelect.fOffset,.string ⟨s.fTable.toArray⟩,v6,v7,v8,.int .i64 s.fWhere.kind,.int .i64 s.fWhere.value.fType,.bool s.fWhere.value.fNull,.int .i64 s.fWhere.value.fInt,.string ⟨s.fWhere.value.fText.toArray⟩,.string ⟨s.fWhere.table.toArray⟩,.string ⟨s.fWhere.name.toArray⟩,.int .i64 s.fWhere.slot,.int .i64 s.fWhere.type,.bool s.fWhere.distinct,v9,v10,v11,.string ⟨s.fIndex.fName.toArray⟩,.string ⟨s.fIndex.fTable.toArray⟩,v12,.bool s.fIndex.fUnique]
structure OkS (s:TStmt):Prop where
 q:OkQ s.fSelect
 wh:okE s.fWhere
 rows:∀x∈s.fRows,okL x∧x.length≤1000000000000
 sets:∀x∈s.fSets,okE x.fExpr
 cols:∀x∈s.fCols,okE x.fDefault
 cnt:cS s≤1000000000
 n1:s.fColumns.length≤1000000000000
 n2:s.fKey.length≤1000000000000
 n3:s.fIndex.fColumns.length≤1000000000000
section
variable {ω:Om}{G I:Imm}{L F Y:LH}{K:Value→M}{b bw bs:Nat}{w:Value}{X:LH}{l:Bs}{n:Nat}{s:TStmt}{v0 v1 v2 v3 v4 v5 v6 v7 v8 v9 v10 v11 v12:Value}
abbrev Ys (b bw bs:Nat)(s:TStmt)(v0 v1 v2 v3 v4 v5 v6 v7 v8 v9 v10 v11 v12:Value)(F:LH):LH:=(bs,.cells (stC s v0 v1 v2 v3 v4 v5 v6 v7 v8 v9 v10 v11 v12).toArray 48 (0,0))::(bw,wpO b)::F
theorem WI (hG:FY G)(hGI:Ext G I)(hw:StL I w wordsL)(hq:OkS s){c:List Value}(hc:TStmtV I s c)[hs:SplitL X L F](hW:WrS b w X l)(hn:(l++LK true s).length≤1000000000)(hk:∀I' X',Ext I I'→WrS b w X' (l++LK true s)→K (.tuple #[]) I' (X'++F)):
  CT ω 122 #[AL b,.agg c.toArray] K I L:=by
 refine zAN X ?_;refine AQp ?_;unfold AMq;obtain ⟨v0,v1,v2,v3,v4,v5,v6,v7,v8,v9,v10,v11,v12,rfl,h0,h1,h2,h3,h4,h5,h6,h7,h8,h9,h10,h11,h12⟩:=hc;have hcnt:=hq.cnt;unfold cS at hcnt;have he:LK true s=[99,114,101,97,116,101,32,116,97,98,108,101,32]++(nameB s.fTable++([32,40]++(Aw (s.fCols.map (AAR true))++((if s.fKey.isEmpty then [] else [44,32,112,114,105,109,97,114,121,32,107,101,121,32]++GZ s.fKey)++[41])))):=by unfold LK;simp only [zi]
 rw [he] at hn hk;simp only [zU] at hn;refine AQ (o:=wpO b) (λbw=>?_);refine AQ (o:=.cells (stC s v0 v1 v2 v3 v4 v5 v6 v7 v8 v9 v10 v11 v12).toArray 48 (0,0)) (λbs=>?_);refine rdb ?_;refine Bd (X:=X) hW zL (λI1 X1 hI1 hW1=>?_);have hE1:=hI1;refine rdb ?_;try refine zqe ?_
 refine rdb ?_;refine call (Bh (X:=X1) hW1 (zAJ hw hE1) s.fTable zL (λI2 X2 hI2 hW2=>?_));have hE2:=zAB hE1 hI2;refine rdb ?_;refine Bd (X:=X2) hW2 zL (λI3 X3 hI3 hW3=>?_);have hE3:=zAB hE2 hI3;refine rdb ?_;try refine zqe ?_
 refine rdb ?_;refine call (AAP (X:=X3) (g:=AAR true) (F:=Ys b bw bs s v0 v1 v2 v3 v4 v5 v6 v7 v8 v9 v10 v11 v12 F) (zAL (λ_ _ h=>TColV.mono h hE3) h10 hE3 (λ_ h=>h)) (zAJ hw hE3) (AJk (bw:=bw) hG (zAB hGI hE3) hq.cols) zo hW3 zL (λI4 X4 hI4 hW4=>?_));have hE4:=zAB hE3 hI4;try refine zqe ?_
 refine rdb ?_;simp only [zAK h11,SSd,Nat.reduceAdd];have fin:∀(t:Bs) (I5:Imm) (X5:LH),Ext I I5→t=(if s.fKey.isEmpty then [] else [44,32,112,114,105,109,97,114,121,32,107,101,121,32]++GZ s.fKey)→WrS b w X5 ((l++([99,114,101,97,116,101,32,116,97,98,108,101,32]++(nameB s.fTable++([32,40]++Aw (s.fCols.map (AAR true))))))++t)→Po ω (AL bw) (λv=>Gh (K v)) I5 (X5++Ys b bw bs s v0 v1 v2 v3 v4 v5 v6 v7 v8 v9 v10 v11 v12 F):=by
  intro t I5 X5 hI5 ht hW5;rw [←ht] at hn hk;unfold Po;refine rdb ?_;refine Bd hW5 zL (λI6 X6 hI6 hW6=>?_);exact zAE (X6++F) (zAA (hk I6 X6 (zAB hI5 hI6) (by simpa using hW6)))
 refine AB (λh=>?_) (λh=>?_)
 ·have h:s.fKey.isEmpty=false:=by
   have:=of_decide_eq_true h;cases ho:s.fKey with
   |nil=>rw [ho] at this;simp at this
   |cons _ _=>rfl
  rw [h] at hn fin;simp only [zt,if_false,zU] at hn fin;refine rdb ?_;refine Bd (X:=X4) hW4 zL (λI5 X5 hI5 hW5=>?_);have hE5:=zAB hE4 hI5;refine rdb ?_;try refine zqe ?_
  refine rdb ?_;refine call (Jb (X:=X5) hq.n2 (zAJ h11 hE5) (zAJ hw hE5) hW5 zL (λI6 X6 hI6 hW6=>?_));have hE6:=zAB hE5 hI6;exact fin _ I6 X6 hE6 rfl (by simpa using hW6)
 ·have h:s.fKey.isEmpty=true:=by
   have:=of_decide_eq_false h;cases ho:s.fKey with
   |nil=>rfl
   |cons _ _=>rw [ho] at this;simp at this
  rw [h] at fin;exact fin [] I4 X4 hE4 rfl (by simpa using hW4)
theorem YR (hG:FY G)(hGI:Ext G I)(hw:StL I w wordsL)(hq:OkS s){c:List Value}(hc:TStmtV I s c)[hs:SplitL X L F](hW:WrS b w X l)(hn:(l++DL true s).length≤1000000000)(hk:∀I' X',Ext I I'→WrS b w X' (l++DL true s)→K (.tuple #[]) I' (X'++F)):
  CT ω 58 #[AL b,.agg c.toArray] K I L:=by
 have hc0:=hc;refine zAN X ?_;refine AUC ?_;unfold ASD;obtain ⟨v0,v1,v2,v3,v4,v5,v6,v7,v8,v9,v10,v11,v12,rfl,h0,h1,h2,h3,h4,h5,h6,h7,h8,h9,h10,h11,h12⟩:=hc;have hcnt:=hq.cnt;unfold cS at hcnt;refine AQ (o:=wpO b) (λbw=>?_);refine AQ (o:=.cells (stC s v0 v1 v2 v3 v4 v5 v6 v7 v8 v9 v10 v11 v12).toArray 48 (0,0)) (λbs=>?_);try refine zqe ?_
 refine rdb ?_;try refine zqe ?_
 refine AB (λh=>?_) (λh=>?_)
 ·have h:s.fKind=1:=by simpa using h
  have he:DL true s=Nl true s.fSelect:=by unfold DL;simp [h]
  rw [he] at hn hk;simp only [zU] at hn;refine rdb ?_;try refine zqe ?_
  refine rdP _ rfl rfl ?_;refine call (WJ (X:=X) hG hGI hw hq.q (c:=selC s.fSelect v0 v1 v2 v3 v4 v5) ⟨v0,v1,v2,v3,v4,v5,rfl,h0,h1,h2,h3,h4,h5⟩ hW (by rw [zn];exact hn) (λI1 X1 hI1 hW1=>?_));exact zAE (X1++F) (zAA (hk I1 X1 hI1 hW1))
 have h101:s.fKind≠1:=by simpa using h
 try refine zqe ?_
 refine AB (λh=>?_) (λh=>?_)
 ·have h:s.fKind=2:=by simpa using h
  have he:DL true s=[105,110,115,101,114,116,32,105,110,116,111,32]++(nameB s.fTable++((if s.fColumns.isEmpty then [] else [32]++GZ s.fColumns)++([32,118,97,108,117,101,115,32]++Aw (s.fRows.map (rowB true))))):=by unfold DL;simp [h]
  rw [he] at hn hk;simp only [zU] at hn;refine rdb ?_;refine Bd (X:=X) hW zL (λI1 X1 hI1 hW1=>?_);have hE1:=hI1;refine rdb ?_;try refine zqe ?_
  refine rdb ?_;refine call (Bh (X:=X1) hW1 (zAJ hw hE1) s.fTable zL (λI2 X2 hI2 hW2=>?_));have hE2:=zAB hE1 hI2;have fin:∀(t:Bs) (I5:Imm) (X5:LH),Ext I I5→t=(if s.fColumns.isEmpty then [] else [32]++GZ s.fColumns)→WrS b w X5 ((l++([105,110,115,101,114,116,32,105,110,116,111,32]++nameB s.fTable))++t)→Uk ω (AL bw) (AL bs) (λv=>Gh (K v)) I5 (X5++Ys b bw bs s v0 v1 v2 v3 v4 v5 v6 v7 v8 v9 v10 v11 v12 F):=by
   intro t I5 X5 hI5 ht hW5;rw [←ht] at hn hk;unfold Uk;refine rdb ?_;refine Bd hW5 zL (λI6 X6 hI6 hW6=>?_);have hI56:=zAB hI5 hI6;refine rdb ?_;try refine zqe ?_
   refine rdb ?_;refine rdb ?_;refine call (AAO (X:=X6) (g:=rowB true) (F:=Ys b bw bs s v0 v1 v2 v3 v4 v5 v6 v7 v8 v9 v10 v11 v12 F) (zAL (λ_ _ h=>LstX.mono h hI56) h7 hI56 (λ_ h=>h)) (zAJ hw hI56) (AJi hG (zAB hGI hI56) hq.rows) zo hW6 zL (λI7 X7 hI7 hW7=>?_));exact zAE (X7++F) (zAA (hk I7 X7 (zAB hI56 hI7) (by simpa using hW7)))
  try refine zqe ?_
  refine rdb ?_;simp only [zAK h6,SSd,Nat.reduceAdd];refine AB (λhz=>?_) (λhz=>?_)
  ·have hz:s.fColumns.isEmpty=false:=by
    have:=of_decide_eq_true hz;cases ho:s.fColumns with
    |nil=>rw [ho] at this;simp at this
    |cons _ _=>rfl
   rw [hz] at hn fin;simp only [zt,if_false,zU] at hn fin;refine rdb ?_;refine Bd (X:=X2) hW2 zL (λI3 X3 hI3 hW3=>?_);have hE3:=zAB hE2 hI3;refine rdb ?_;try refine zqe ?_
   refine rdb ?_;refine call (Jb (X:=X3) hq.n1 (zAJ h6 hE3) (zAJ hw hE3) hW3 zL (λI4 X4 hI4 hW4=>?_));have hE4:=zAB hE3 hI4;exact fin _ I4 X4 hE4 rfl (by simpa using hW4)
  ·have hz:s.fColumns.isEmpty=true:=by
    have:=of_decide_eq_false hz;cases ho:s.fColumns with
    |nil=>rfl
    |cons _ _=>rw [ho] at this;simp at this
   rw [hz] at fin;exact fin [] I2 X2 hE2 rfl (by simpa using hW2)
 have h102:s.fKind≠2:=by simpa using h
 try refine zqe ?_
 refine AB (λh=>?_) (λh=>?_)
 ·have h:s.fKind=3:=by simpa using h
  have he:DL true s=[117,112,100,97,116,101,32]++(nameB s.fTable++([32,115,101,116,32]++(Aw (s.fSets.map AGi)++EY true [32,119,104,101,114,101,32] s.fWhere))):=by
   have hs:AGi=λx=>nameB x.fColumn++[32,61,32]++exB true x.fExpr 1:=rfl;rw [hs];unfold DL;simp [h]
  rw [he] at hn hk;simp only [zU] at hn;refine rdb ?_;refine Bd (X:=X) hW zL (λI1 X1 hI1 hW1=>?_);have hE1:=hI1;refine rdb ?_;try refine zqe ?_
  refine rdb ?_;refine call (Bh (X:=X1) hW1 (zAJ hw hE1) s.fTable zL (λI2 X2 hI2 hW2=>?_));have hE2:=zAB hE1 hI2;refine rdb ?_;refine Bd (X:=X2) hW2 zL (λI3 X3 hI3 hW3=>?_);have hE3:=zAB hE2 hI3;refine rdb ?_;try refine zqe ?_
  refine rdb ?_;refine call (AAN (X:=X3) (g:=AGi) (F:=Ys b bw bs s v0 v1 v2 v3 v4 v5 v6 v7 v8 v9 v10 v11 v12 F) (zAL (λ_ _ h=>TSetV.mono h hE3) h8 hE3 (λ_ h=>h)) (zAJ hw hE3) (AJh (bw:=bw) hG (zAB hGI hE3) hq.sets) zo hW3 zL (λI4 X4 hI4 hW4=>?_));have hE4:=zAB hE3 hI4;refine rdb ?_;try refine zqe ?_
  refine rdP _ rfl rfl ?_;refine call (FI (X:=X4) hG hq.wh [32,119,104,101,114,101,32] (zAB hGI hE4) (zAJ hw hE4) hW4 (ExV.mono hE4 (ExV.iff.2 ⟨v9,rfl,h9⟩)) zL (λI5 X5 hI5 hW5=>?_));have hE5:=zAB hE4 hI5;exact zAE (X5++F) (zAA (hk I5 X5 hE5 (by simpa using hW5)))
 have h103:s.fKind≠3:=by simpa using h
 try refine zqe ?_
 refine AB (λh=>?_) (λh=>?_)
 ·have h:s.fKind=4:=by simpa using h
  have he:DL true s=[100,101,108,101,116,101,32,102,114,111,109,32]++(nameB s.fTable++EY true [32,119,104,101,114,101,32] s.fWhere):=by unfold DL;simp [h]
  rw [he] at hn hk;simp only [zU] at hn;refine rdb ?_;refine Bd (X:=X) hW zL (λI1 X1 hI1 hW1=>?_);have hE1:=hI1;refine rdb ?_;try refine zqe ?_
  refine rdb ?_;refine call (Bh (X:=X1) hW1 (zAJ hw hE1) s.fTable zL (λI2 X2 hI2 hW2=>?_));have hE2:=zAB hE1 hI2;refine rdb ?_;try refine zqe ?_
  refine rdP _ rfl rfl ?_;refine call (FI (X:=X2) hG hq.wh [32,119,104,101,114,101,32] (zAB hGI hE2) (zAJ hw hE2) hW2 (ExV.mono hE2 (ExV.iff.2 ⟨v9,rfl,h9⟩)) zL (λI3 X3 hI3 hW3=>?_));have hE3:=zAB hE2 hI3;exact zAE (X3++F) (zAA (hk I3 X3 hE3 (by simpa using hW3)))
 have h104:s.fKind≠4:=by simpa using h
 try refine zqe ?_
 refine AB (λh=>?_) (λh=>?_)
 ·have h:s.fKind=5:=by simpa using h
  have he:DL true s=LK true s:=by unfold DL;simp [h]
  rw [he] at hn hk;simp only [zU] at hn;refine rdb ?_;refine rdB rfl ?_;refine call (WI (X:=X) hG hGI hw hq hc0 hW (by rw [zn];exact hn) (λI1 X1 hI1 hW1=>?_));exact zAE (X1++F) (zAA (hk I1 X1 hI1 hW1))
 have h105:s.fKind≠5:=by simpa using h
 try refine zqe ?_
 refine AB (λh=>?_) (λh=>?_)
 ·have h:s.fKind=6:=by simpa using h
  have he:DL true s=[99,114,101,97,116,101,32]++((if s.fIndex.fUnique then [117,110,105,113,117,101,32] else [])++([105,110,100,101,120,32]++(nameB s.fIndex.fName++([32,111,110,32]++(nameB s.fIndex.fTable++([32]++GZ s.fIndex.fColumns)))))):=by unfold DL;simp [h]
  rw [he] at hn hk;simp only [zU] at hn;refine rdb ?_;refine Bd (X:=X) hW zL (λI1 X1 hI1 hW1=>?_);have hE1:=hI1;have fin:∀(t:Bs) (I5:Imm) (X5:LH),Ext I I5→t=(if s.fIndex.fUnique then [117,110,105,113,117,101,32] else [])→WrS b w X5 ((l++[99,114,101,97,116,101,32])++t)→Uj ω (AL bw) (AL bs) (λv=>Gh (K v)) I5 (X5++Ys b bw bs s v0 v1 v2 v3 v4 v5 v6 v7 v8 v9 v10 v11 v12 F):=by
   intro t I5 X5 hI5 ht hW5;rw [←ht] at hn hk;unfold Uj;refine rdb ?_;refine Bd (X:=X5) hW5 zL (λI11 X11 hI11 hW11=>?_);have hE11:=zAB hI5 hI11;refine rdb ?_;try refine zqe ?_
   refine rdb ?_;refine call (Bh (X:=X11) hW11 (zAJ hw hE11) s.fIndex.fName zL (λI12 X12 hI12 hW12=>?_));have hE12:=zAB hE11 hI12;refine rdb ?_;refine Bd (X:=X12) hW12 zL (λI13 X13 hI13 hW13=>?_);have hE13:=zAB hE12 hI13;refine rdb ?_;try refine zqe ?_
   refine rdb ?_;refine call (Bh (X:=X13) hW13 (zAJ hw hE13) s.fIndex.fTable zL (λI14 X14 hI14 hW14=>?_));have hE14:=zAB hE13 hI14;refine rdb ?_;refine Bd (X:=X14) hW14 zL (λI15 X15 hI15 hW15=>?_);have hE15:=zAB hE14 hI15;refine rdb ?_;try refine zqe ?_
   refine rdb ?_;refine call (Jb (X:=X15) hq.n3 (zAJ h12 hE15) (zAJ hw hE15) hW15 zL (λI16 X16 hI16 hW16=>?_));have hE16:=zAB hE15 hI16;exact zAE (X16++F) (zAA (hk I16 X16 hE16 (by simpa using hW16)))
  try refine zqe ?_
  refine rdb ?_;refine AB (λhz=>?_) (λhz=>?_)
  ·rw [hz] at hn fin;simp only [if_true,zh,zac] at hn;refine rdb ?_;refine Bd (X:=X1) hW1 zL (λI2 X2 hI2 hW2=>?_);exact fin _ I2 X2 (zAB hI1 hI2) rfl (by simpa using hW2)
  ·rw [hz] at fin;exact fin [] I1 X1 hI1 zy (by simpa using hW1)
 have h106:s.fKind≠6:=by simpa using h
 try refine zqe ?_
 refine AB (λh=>?_) (λh=>?_)
 ·have h:s.fKind=7:=by simpa using h
  have he:DL true s=[100,114,111,112,32,116,97,98,108,101,32]++nameB s.fTable:=by unfold DL;simp [h]
  rw [he] at hn hk;simp only [zU] at hn;refine rdb ?_;refine Bd (X:=X) hW zL (λI1 X1 hI1 hW1=>?_);have hE1:=hI1;refine rdb ?_;try refine zqe ?_
  refine rdb ?_;refine call (Bh (X:=X1) hW1 (zAJ hw hE1) s.fTable zL (λI2 X2 hI2 hW2=>?_));have hE2:=zAB hE1 hI2;exact zAE (X2++F) (zAA (hk I2 X2 hE2 (by simpa using hW2)))
 have h107:s.fKind≠7:=by simpa using h
 try refine zqe ?_
 refine AB (λh=>?_) (λh=>?_)
 ·have h:s.fKind=8:=by simpa using h
  have he:DL true s=[100,114,111,112,32,105,110,100,101,120,32]++nameB s.fIndex.fName:=by unfold DL;simp [h]
  rw [he] at hn hk;simp only [zU] at hn;refine rdb ?_;refine Bd (X:=X) hW zL (λI1 X1 hI1 hW1=>?_);have hE1:=hI1;refine rdb ?_;try refine zqe ?_
  refine rdb ?_;refine call (Bh (X:=X1) hW1 (zAJ hw hE1) s.fIndex.fName zL (λI2 X2 hI2 hW2=>?_));have hE2:=zAB hE1 hI2;exact zAE (X2++F) (zAA (hk I2 X2 hE2 (by simpa using hW2)))
 have h108:s.fKind≠8:=by simpa using h
 try refine zqe ?_
 refine AB (λh=>?_) (λh=>?_)
 ·have h:s.fKind=9:=by simpa using h
  have he:DL true s=[98,101,103,105,110]:=by unfold DL;simp [h]
  rw [he] at hn hk;simp only [zU] at hn;refine rdb ?_;refine Bd (X:=X) hW zL (λI1 X1 hI1 hW1=>?_);have hE1:=hI1;exact zAE (X1++F) (zAA (hk I1 X1 hE1 (by simpa using hW1)))
 have h109:s.fKind≠9:=by simpa using h
 try refine zqe ?_
 refine AB (λh=>?_) (λh=>?_)
 ·have h:s.fKind=10:=by simpa using h
  have he:DL true s=[99,111,109,109,105,116]:=by unfold DL;simp [h]
  rw [he] at hn hk;simp only [zU] at hn;refine rdb ?_;refine Bd (X:=X) hW zL (λI1 X1 hI1 hW1=>?_);have hE1:=hI1;exact zAE (X1++F) (zAA (hk I1 X1 hE1 (by simpa using hW1)))
 have h110:s.fKind≠10:=by simpa using h
 try refine zqe ?_
 refine AB (λh=>?_) (λh=>?_)
 ·have h:s.fKind=11:=by simpa using h
  have he:DL true s=[114,111,108,108,98,97,99,107]:=by unfold DL;simp [h]
  rw [he] at hn hk;simp only [zU] at hn;refine rdb ?_;refine Bd (X:=X) hW zL (λI1 X1 hI1 hW1=>?_);have hE1:=hI1;exact zAE (X1++F) (zAA (hk I1 X1 hE1 (by simpa using hW1)))
 have h111:s.fKind≠11:=by simpa using h
 try refine zqe ?_
 have he:DL true s=[63]:=by unfold DL;simp [h101,h102,h103,h104,h105,h106,h107,h108,h109,h110,h111]
 rw [he] at hn hk;simp only [zU] at hn;refine rdb ?_;refine Bd (X:=X) hW zL (λI1 X1 hI1 hW1=>?_);have hE1:=hI1;exact zAE (X1++F) (zAA (hk I1 X1 hE1 (by simpa using hW1)))
theorem AKf (s:TStmt):DL true s≠[]:=by
 unfold DL;by_cases h1:s.fKind=1
 ·rw [if_pos h1,XD];simp
 rw [if_neg h1];by_cases h2:s.fKind=2
 ·rw [if_pos h2];simp
 rw [if_neg h2];by_cases h3:s.fKind=3
 ·rw [if_pos h3];simp
 rw [if_neg h3];by_cases h4:s.fKind=4
 ·rw [if_pos h4];simp
 rw [if_neg h4];by_cases h5:s.fKind=5
 ·rw [if_pos h5];simp [LK]
 rw [if_neg h5];by_cases h6:s.fKind=6
 ·rw [if_pos h6];simp
 rw [if_neg h6];by_cases h7:s.fKind=7
 ·rw [if_pos h7];simp
 rw [if_neg h7];by_cases h8:s.fKind=8
 ·rw [if_pos h8];simp
 rw [if_neg h8];by_cases h9:s.fKind=9
 ·rw [if_pos h9];simp
 rw [if_neg h9];by_cases h10:s.fKind=10
 ·rw [if_pos h10];simp
 rw [if_neg h10];by_cases h11:s.fKind=11
 ·rw [if_pos h11];simp
 rw [if_neg h11];simp
theorem Tu (hG:FY G)(hWd:AAX ω G)(hGI:Ext G I)(hq:OkS s){c:List Value}(hc:TStmtV I s c)(hn:(DL true s).length≤1000000000)(hk:∀I',Ext I I'→K (.string ⟨(DL true s).toArray⟩) I' L):
  CT ω 30 #[.agg c.toArray] K I L:=by
 refine AUX ?_;unfold ASX;have hcl:=hc.len;refine AQ (λbs=>?_);refine call (hWd _ _ _ hGI (λI1 w hI1 hw=>?_));obtain ⟨aw,kw,rfl⟩:=zAF hw;try refine zqe ?_
 refine AQ (o:=WrO (.pointer none) (.slice none 0 0) (.slice aw wordsL.length kw)) (λb=>?_);refine rdB hcl ?_;have hW0:WrS b (.slice aw wordsL.length kw) [(b,WrO (.pointer none) (.slice none 0 0) (.slice aw wordsL.length kw))] []:=⟨_,_,[],.inl rfl,SlO.none _ _,rfl⟩;refine call (YR (X:=[(b,WrO (.pointer none) (.slice none 0 0) (.slice aw wordsL.length kw))]) (F:=(bs,.cells c.toArray 48 (0,0))::L) (hs:=⟨List.Perm.refl _⟩) hG (zAB hGI hI1) hw hq (hc.mono hI1) hW0 (by simpa using hn) (λI2 X2 hI2 hW2=>?_));try refine zqe ?_
 rw [zat] at hW2;refine call (UO (X:=X2) hW2 (AKf s) hn (λX3=>?_));exact zAE L (zAA (hk I2 (zAB hI1 hI2)))
end
def eqL {α:Type}(f:α→α→Bool):List α→List α→Bool
 |[],[]=>true
 |x::xs,y::ys=>f x y&&eqL f xs ys
 |_,_=>false
theorem ACc {α:Type}{f:α→α→Bool}:∀{xs ys:List α},xs.length≠ys.length→eqL f xs ys=false
 |[],[],h=>absurd rfl h
 |[],_::_,_=>rfl
 |_::_,[],_=>rfl
 |x::xs,y::ys,h=>by
  simp only [eqL,ACc (f:=f) (xs:=xs) (ys:=ys) (by simpa using h),Bool.and_false]
theorem AKm {α:Type}{f:α→α→Bool}{xs ys:List α}(h1:xs=[])(h2:ys=[]):eqL f xs ys=true:=by subst h1 h2;rfl
def eqB (x y:Bs):Bool:=x==y
section
variable {ω:Om}{I:Imm}{L:LH}{K:Value→M}
end
theorem OL {l:List TStmt}{k:Nat}(h:k < l.length):BH (l.take (k+1))=BH (l.take k)+Ha l[k]:=by
 rw [zl h];simp only [BH,zab,zbb,zM,zay,zaK,zbg,Nat.add_zero]
theorem UD:∀a b:List TStmt,Cc (a++b)=max (Cc a) (Cc b)
 |[],b=>by simp [Cc]
 |x::a,b=>by simp only [zai,Cc,UD a b];omega
theorem Rj {l:List TStmt}{k:Nat}(h:k < l.length):Cc (l.take (k+1))=max (Cc (l.take k)) (Ri l[k]):=by
 rw [zl h,UD];simp [Cc]
theorem TV {l:List TStmt}(k:Nat):BH (l.take k)≤BH l:=by
 have h:BH l=BH (l.take k)+BH (l.drop k):=by
  unfold BH;rw [←zbb,←zab,zad]
 omega
theorem Lc:∀l:List TStmt,l.length≤BH l
 |[]=>zak _
 |s::l=>by
  have:=Lc l;simp only [BH,zM,zaK,zh,Ha] at this ⊢;omega
section
variable {ω:Om}
theorem ADL {I:Imm}{L:LH}{K:Value→M}{v:Value}{l:List TStmt}(hl:RL TStmtV 51 I [] v l)(hp:BH l≤1000000000)(hc:∀s∈l,cS s≤1000000000)
  (hk:∀I',Ext I I'→K (.tuple #[.int .i64 (BH l:Nat),.int .i64 (Cc l:Nat)]) I' L):CT ω 47 #[v] K I L:=by
 refine AUG ?_;unfold ASH;simp only [zAK hl,SSd,Nat.reduceAdd];refine AQ (λb1=>?_);refine AQ (λb2=>?_);refine st1 rfl ?_;refine st1 rfl ?_;have hlen:=Lc l;refine loop (λq st I' L'=>∃k:Nat,k+q=l.length∧st=(.int .i64 k,())∧Ext I I'∧L'=(b2,Dk (Cc (l.take k)))::(b1,Dk (BH (l.take k)+(l.length - k)))::L) l.length ⟨0,by omega,rfl,zAC _,?_⟩ ?_
 ·rw [show ((BH (l.take 0):Nat):Int)+((l.length:Int) - (0:Nat))=l.length by simp [BH]];rfl
 rintro q st I' L' ⟨k,hkq,rfl,hI',rfl⟩;unfold AFq;try refine zqe ?_
 refine AB (λhb=>?_) (λhb=>?_)
 ·have hb:k < l.length:=by
   have:=of_decide_eq_true hb;omega
  obtain ⟨bt,off,c1,g1,gl,g2,g3⟩:=zAR hl (i:=k) zo zo;rw [Am hb] at g2;have g2:=g2.mono hI';have hone:=TStmtV.one g2;simp only [g1,SSd,Nat.reduceAdd];refine Ep (g3 _ [] hI' (λ_ h=>h)) (zAC _) gl ?_;refine AQ (λb3=>?_);refine stB gl rfl hone ?_;refine rdB gl ?_;refine call ?_;have hcs:=hc _ (zH hb);have hpk:=OL hb;have hdk:=Rj hb;have hle:=TV (l:=l) (k+1);have e1:Ha l[k]=AX (EL l[k])+1:=rfl;refine Cal.to ((b1,Dk (BH (l.take k)+(l.length - k)))::(b2,Dk (Cc (l.take k)))::L) ?_;refine AEI g2 hcs zo zo zo (λI2 hI2=>?_);simp only [wrap_i64 ((k:Int)+1) zo,SSd,Nat.reduceAdd];rw [show (BH (l.take k):Int)+((l.length:Int) - k)+AX (EL l[k])=BH (l.take (k+1))+((l.length:Int) - (k+1:Nat)) by omega,show max (Cc (l.take k):Int) (BU (EL l[k]))=Cc (l.take (k+1)) by rw [hdk];simp only [Ri];omega];exact zAE ((b2,Dk (Cc (l.take (k+1))))::(b1,Dk (BH (l.take (k+1))+(l.length - (k+1:Nat))))::L) (zAA ⟨q - 1,by omega,k+1,by omega,rfl,zAB hI' hI2,rfl⟩)
 ·have hb:¬k < l.length:=by
   have:=of_decide_eq_false hb;omega
  have hkl:l.take k=l:=zg zo;rw [hkl,show (BH l:Int)+((l.length:Int) - k)=BH l by omega];unfold AFp;repeat' (first|refine zqa ?_|refine zqh (λ_=>?_)|refine zqr ?_|refine zqb ?_|refine zqi ?_ ?_|refine zqc ?_|refine zqg (λ_=>?_) (λ_=>?_)|refine zqe ?_|fail)
  exact zAE _ (zAA (hk I' hI'))
theorem NK:AUx ω:=by
 intro v l K I L hl hp hc hk;refine AUa ?_;unfold ASa;refine call (ADL hl hp hc (λI' hI'=>?_));have hk:=hk I' hI';unfold Jr at hk;try refine zqe ?_
 refine AB (λhb=>?_) (λhb=>?_)
 ·have hb:=of_decide_eq_true hb;rw [if_pos zo] at hk;exact zAA hk
 ·have hb:=of_decide_eq_false hb;rw [if_neg zo] at hk;try refine zqe ?_
  refine AB (λhb2=>?_) (λhb2=>?_)
  ·have hb2:=of_decide_eq_true hb2;rw [if_pos zo] at hk;exact zAA hk
  ·have hb2:=of_decide_eq_false hb2;rw [if_neg zo] at hk;exact zAA hk
end
section
variable {ω:Om}{G I:Imm}{L F:LH}{K:Value→M}
end
def wtext:Bs:=[97,110,100,32,97,115,32,97,115,99,32,98,101,103,105,110,32,98,101,116,119,101,101,110,32,98,121,32,99,97,115,101,32,99,111,109,109,105,116,32,99,114,101,97,116,101,32,99,114,111,115,115,32,100,101,102,97,117,108,116,32,100,101,108,101,116,101,32,100,101,115,99,32,100,105,115,116,105,110,99,116,32,100,114,111,112,32,101,108,115,101,32,101,110,100,32,102,97,108,115,101,32,102,114,111,109,32,103,114,111,117,112,32,104,97,118,105,110,103,32,105,110,32,105,110,100,101,120,32,105,110,110,101,114,32,105,110,115,101,114,116,32,105,110,116,111,32,105,115,32,106,111,105,110,32,107,101,121,32,108,101,102,116,32,108,105,107,101,32,108,105,109,105,116,32,110,111,116,32,110,117,108,108,32,111,102,102,115,101,116,32,111,110,32,111,114,32,111,114,100,101,114,32,112,114,105,109,97,114,121,32,114,111,108,108,98,97,99,107,32,115,101,108,101,99,116,32,115,101,116,32,116,97,98,108,101,32,116,104,101,110,32,116,114,117,101,32,117,110,105,113,117,101,32,117,112,100,97,116,101,32,118,97,108,117,101,115,32,119,104,101,110,32,119,104,101,114,101]
def spN (c:UInt8):Int:=if (9≤c&&c≤13)||c==32 then 1 else 0
def SpG (G:Imm):Prop:=∀c:UInt8,Cell G [] 0 c.toNat (.int .u8 (spN c))
def trF:Nat→Int×Int×Int
 |0=>(0,1,0)
 |i+1=>let t:=trF i
  let c:=wtext.getD i 0
  (IntKind.i64.wrap (t.1+Hu .and .i64 t.2.1 (Hu .xor .i64 (if IntKind.i64.signed then -1 else IntKind.i64.max) (IntKind.i64.wrap (spN c)))),IntKind.i64.wrap (spN c),Hu .or .u8 t.2.2 c.toNat)
def Vb (k:Nat):Nat:=((wordsL.take k).map λw=>w.length+1).sum
def wiF (i:Nat):Nat:=((wtext.take i).filter λc=>spN c==1).length
theorem ANh:(trF wtext.length).1=50∧decide ((trF wtext.length).2.2≥128)=false:=by decide+kernel
theorem AFJ:(List.range wtext.length).all (λi=>if spN (wtext.getD i 0)=0 then wiF (i+1)==wiF i else
  decide (wiF i < 49)&&wiF (i+1)==wiF i+1&&decide (Vb (wiF i)≤i)&&(wtext.drop (Vb (wiF i))).take (i - Vb (wiF i))==wordsL.getD (wiF i) []&&i+1==Vb (wiF i+1)&&decide (i+1 < wtext.length)&&spN (wtext.getD (i+1) 0)==0)=true:=by decide+kernel
theorem AJt:wiF wtext.length=49∧Vb 49 < wtext.length∧wtext.drop (Vb 49)=wordsL.getD 49 []:=by decide+kernel
theorem YQ {i:Nat}(h:i < wtext.length):wtext[i]? =some (wtext.getD i 0):=by
 rw [zan h];simp [h]
theorem Wn {I:Imm}{X L F:LH}[hsp:SplitL X L F]{T len:Nat}{v u:Value}{cells:List Value}{i:Int}(ho:SlO T 1 X v cells len)(h0:0≤i)(h1:i < len)(hu:u.oneCell'=true):
  ∃b,ixV 1 v (.int .i64 i)=some (.pointer (some ⟨b,i.toNat,none⟩))∧∀K:Value→M,(∀X',SlO T 1 X' v (cells.set i.toNat u) len→K undef I (X'++F))→Sto 1 (.pointer (some ⟨b,i.toNat,none⟩)) u (gh K) I L:=by
 obtain ⟨b,e,_⟩:=ACA (I:=I) (L:=L) (F:=F) (u:=u) (K:=λ_ _ _=>True) ho h0 h1 hu (λ_ _=>trivial);refine ⟨b,e,λK hk=>?_⟩;obtain ⟨b',e',h⟩:=ACA (I:=I) (L:=L) (F:=F) (u:=u) (K:=K) ho h0 h1 hu hk;rw [e] at e';simp only [zf,Value.pointer.injEq,Addr.mk.injEq,and_true] at e';rw [e'];exact h
section
variable {ω:Om}
theorem rdG {G I:Imm}{L:LH}{K:Value→M}(hG:SpG G)(hI:Ext G I)(c:UInt8)(hk:K (.int .u8 (spN c)) I L):Rv none (BA (.pointer (some ⟨0,c.toNat * 1,none⟩))) K I L:=by
 refine rd1 ?_ hk;have:=(hG c).mono hI (L':=L) (λ_ h=>by cases h);simpa using this
theorem Vh (c:UInt8):Vj 1 256 (.pointer (some ⟨0,0,none⟩)) (.int .u8 c.toNat)=some (.pointer (some ⟨0,c.toNat * 1,none⟩)):=by
 have:=c.toNat_lt;have h2:((c.toNat:Int) < 256):=by omega
 simp [Vj,h2,Addr.add]
theorem Vo {G I:Imm}{L:LH}{K:Value→M}(hG:SpG G)(hGI:Ext G I)(hk:∀X v,SlO 9 1 X v (wordsL.map λx=>Value.string ⟨x.toArray⟩) wordsL.length→K v I (X++L)):CT ω 32 #[.string ⟨wtext.toArray⟩] K I L:=by
 refine AUU ?_;unfold ASV;refine loop (λq st I' L'=>∃i:Nat,i+q=wtext.length∧st=(.int .i64 (trF i).1,.int .i64 (trF i).2.1,.int .u8 (trF i).2.2,.int .i64 i,())∧I'=I∧L'=L) wtext.length ⟨0,by omega,rfl,rfl,rfl⟩ ?_;rintro q st I' L' ⟨i,hq,rfl,rfl,rfl⟩;unfold AGD;try refine zqe ?_
 refine AB (λhb=>?_) (λhb=>?_)
 ·have hb:i < wtext.length:=by
   have:=of_decide_eq_true hb;omega
  simp only [ixS wtext (YQ hb),Vh,SSd,Nat.reduceAdd];refine rdG hG hGI _ ?_;have hwl:wtext.length≤1000:=by decide+kernel
  simp only [AJm,wrap_i64 ((i:Int)+1) zo,SSd,Nat.reduceAdd];exact zAA ⟨q - 1,by omega,i+1,by omega,by rw [trF];rfl,rfl,rfl⟩
 have hb:¬i < wtext.length:=by
  have:=of_decide_eq_false hb;omega
 obtain rfl:i=wtext.length:=by omega
 unfold AGC;obtain ⟨t1,t2⟩:=ANh;simp only [t1,t2,SSd,Nat.reduceAdd];refine AOH (ln:=50) (cn:=50) zo zo zo (λX v hX=>?_);have h0:∃c,wtext[0]? =some c∧spN c=0:=⟨97,rfl,rfl⟩;obtain ⟨c0,hc0,hs0⟩:=h0;refine loop (λq st I2 L2=>st=(.int .i64 0,())∧I2=I'∧L2=X++L') 0 ⟨rfl,rfl,rfl⟩ ?_;rintro _ st I2 L2 ⟨rfl,rfl,rfl⟩;unfold AGB;simp only [show decide ((0:Int) < (wtext.length:Nat))=true from rfl,SSd,Nat.reduceAdd];simp only [ixS wtext hc0 (a:=0),Vh,show (.int .i64 0:Value)= .int .i64 ((0:Nat):Int) from rfl,SSd,Nat.reduceAdd];refine rdG hG hGI _ ?_;simp only [hs0,show ((0:Int) != 0)=false from rfl,SSd,Nat.reduceAdd];unfold Yl;have hwl:wtext.length≤1000:=by decide+kernel
 have hxz:(Builtin.zeroCells #[.string ⟨#[]⟩] 50).toList=(wordsL.take 0).map (λx=>Value.string ⟨x.toArray⟩)++List.replicate (50 - 0) (.string ⟨#[]⟩):=by kernel_rfl
 have hX:SlO 9 1 X v ((wordsL.take 0).map (λx=>Value.string ⟨x.toArray⟩)++List.replicate (50 - 0) (.string ⟨#[]⟩)) 50:=by rw [←hxz];exact hX
 have hw50:wordsL.length=50:=rfl;refine loop (λq st I3 L3=>∃(i:Nat) (X':LH),i+q=wtext.length∧st=(Value.int .i64 (wiF i:Nat),Value.int .i64 (Vb (wiF i):Nat),Value.int .i64 (i:Nat),())∧I3=I2∧L3=X'++L'∧wiF i < 50∧Vb (wiF i)≤i∧SlO 9 1 X' v ((wordsL.take (wiF i)).map (λx=>Value.string ⟨x.toArray⟩)++List.replicate (50 - wiF i) (.string ⟨#[]⟩)) 50) wtext.length ⟨0,X,by omega,rfl,rfl,rfl,by decide,by decide,hX⟩ ?_;rintro q st I3 L3 ⟨i,X',hq,rfl,rfl,rfl,hk50,hoff,hX'⟩;unfold AGA;try refine zqe ?_
 refine AB (λhb=>?_) (λhb=>?_)
 ·have hb:i < wtext.length:=by
   have:=of_decide_eq_true hb;omega
  have hst:=zaM.1 AFJ i (zaI.2 hb);simp only [ixS wtext (YQ hb),Vh,SSd,Nat.reduceAdd];refine rdG hG hGI _ ?_;try refine zqe ?_
  refine AB (λhs=>?_) (λhs=>?_)
  ·have hs:spN (wtext.getD i 0)=0:=by simpa using hs
   rw [if_pos hs] at hst;have hst:wiF (i+1)=wiF i:=by simpa using hst
   simp only [wrap_i64 ((i:Int)+1) zo,SSd,Nat.reduceAdd];exact zAA ⟨q - 1,by omega,i+1,X',by omega,by rw [hst];rfl,rfl,rfl,by rw [hst];exact hk50,by rw [hst];omega,by rw [hst];exact hX'⟩
  ·have hs:¬spN (wtext.getD i 0)=0:=by simpa using hs
   rw [if_neg hs] at hst;simp only [zF,decide_eq_true_eq,beq_iff_eq] at hst;obtain ⟨⟨⟨⟨⟨⟨a1,a2⟩,a3⟩,a4⟩,a5⟩,a6⟩,a7⟩:=hst;simp only [slS wtext a3 (zaN hb),a4,SSd,Nat.reduceAdd];have hkl:wiF i < wordsL.length:=by omega
   have hgd:wordsL.getD (wiF i) []=wordsL[wiF i]:=by simp [hkl]
   have hset:((wordsL.take (wiF i)).map (λx=>Value.string ⟨x.toArray⟩)++List.replicate (50 - wiF i) (Value.string ⟨#[]⟩)).set (wiF i) (.string ⟨(wordsL.getD (wiF i) []).toArray⟩)=(wordsL.take (wiF i+1)).map (λx=>Value.string ⟨x.toArray⟩)++List.replicate (50 - (wiF i+1)) (.string ⟨#[]⟩):=by
    rw [zl hkl,zab,hgd];rw [List.set_append_right _ _ zu];have e1:wiF i - ((wordsL.take (wiF i)).map (λx=>Value.string ⟨x.toArray⟩)).length=0:=by simp;omega
    have e2:50 - wiF i=(50 - (wiF i+1))+1:=by omega
    rw [e1,e2,List.replicate_succ,List.set_cons_zero];simp
   obtain ⟨b',g1,g2⟩:=Wn (I:=I3) (L:=X'++L') (F:=L') (u:=.string ⟨(wordsL.getD (wiF i) []).toArray⟩) (i:=(wiF i:Nat)) hX' zo zo rfl;simp only [g1,SSd,Nat.reduceAdd];refine g2 _ (λX5 hX5=>?_);rw [Int.toNat_natCast,hset] at hX5;simp only [wrap_i64 ((i:Int)+1) zo,wrap_i64 ((wiF i:Int)+1) zo,SSd,Nat.reduceAdd];refine loop (λq' st I6 L6=>st=(Value.int .i64 ((i+1:Nat):Int),())∧I6=I3∧L6=X5++L') 0 ⟨rfl,rfl,rfl⟩ ?_;rintro _ st I6 L6 ⟨rfl,rfl,rfl⟩;unfold AFz;have hlt:decide (((i+1:Nat):Int) < (wtext.length:Nat))=true:=decide_eq_true zo;simp only [hlt,ixS wtext (YQ a6),Vh,SSd,Nat.reduceAdd];refine rdG hG hGI _ ?_;simp only [a7,show ((0:Int) != 0)=false from rfl,SSd,Nat.reduceAdd];exact zAA ⟨q - 1,by omega,i+1,X5,by omega,by rw [a2,←a5];rfl,rfl,rfl,by rw [a2];omega,by rw [a2,←a5];omega,by rw [a2];exact hX5⟩
 ·have hb:¬i < wtext.length:=by
   have:=of_decide_eq_false hb;omega
  obtain rfl:i=wtext.length:=by omega
  obtain ⟨l1,l2,l3⟩:=AJt;rw [l1] at hX';unfold AAm;simp only [l1,show decide (((Vb 49:Nat):Int) < (wtext.length:Nat))=true from decide_eq_true zo,Ya wtext (zaN l2),l3,SSd,Nat.reduceAdd];obtain ⟨b',g1,g2⟩:=Wn (I:=I3) (L:=X'++L') (F:=L') (u:=.string ⟨(wordsL.getD 49 []).toArray⟩) (i:=((49:Nat):Int)) hX' zo zo rfl;simp only [g1,SSd,Nat.reduceAdd];refine g2 _ (λX5 hX5=>?_);have hset:((wordsL.take 49).map (λx=>Value.string ⟨x.toArray⟩)++List.replicate (50 - 49) (Value.string ⟨#[]⟩)).set ((49:Nat):Int).toNat (.string ⟨(wordsL.getD 49 []).toArray⟩)=wordsL.map (λx=>Value.string ⟨x.toArray⟩):=rfl;rw [hset] at hX5;exact zAA (hk X5 _ hX5)
theorem Sv (I:Imm):∀l:List Bs,Recs (StrV I) 1 l (l.map λx=>Value.string ⟨x.toArray⟩)
 |[]=>rfl
 |x::l=>⟨rfl,rfl,Sv I l⟩
theorem WM {G I:Imm}{L:LH}{K:Value→M}(hG:SpG G)(hGI:Ext G I)(hk:∀X v,SlO 9 1 X v (wordsL.map λx=>Value.string ⟨x.toArray⟩) wordsL.length→K v I (X++L)):CT ω 19 #[] K I L:=by
 refine AUg ?_;unfold ASg;exact call (Vo hG hGI (λX v hX=>zAA (hk X v hX)))
theorem Ip {G:Imm}(hG:SpG G):AAX ω G:=by
 intro K I L hGI hk;refine zAH (WM hG hGI (λX v hX=>?_));exact RL.ofO (R:=StrV) (xs:=wordsL) (λ{I I' x c} h hI=>h) hX (Sv I wordsL) (λI6 hI6 hw6=>zAA (hk I6 _ hI6 hw6))
end
section
variable {ω:Om}{G I:Imm}{L F:LH}{K:Value→M}
end
def ATG:Bs:=[83,69,76,69,67,84,32,97,46,98,32,65,83,32,34,88,32,121,34,44,32,99,111,117,110,116,40,42,41,32,70,82,79,77,32,116,32,97,32,87,72,69,82,69,32,78,79,84,32,97,46,98,32,61,32,49,32,79,82,32,99,32,73,83,32,78,79,84,32,78,85,76,76]
def ATF:Bs:=[115,101,108,101,99,116,32,97,32,102,114,111,109,32,116,32,119,104,101,114,101,32,98,32,61,32,99,32,61,32,100]
def exT3:Bs:=[115,101,108,101,99,116,32,97,46,98,32,97,115,32,34,88,32,121,34,44,32,99,111,117,110,116,40,42,41,32,102,114,111,109,32,116,32,97,115,32,97,32,119,104,101,114,101,32,110,111,116,32,97,46,98,32,61,32,49,32,111,114,32,99,32,105,115,32,110,111,116,32,110,117,108,108]
def KZ:TStmt:={(default:TStmt) with fKind:=1,fSelect:=⟨false,[⟨false,[],FQ [97] [98],[88,32,121]⟩,⟨false,[],Ed [99,111,117,110,116] false [exK 3 []],[]⟩],[⟨[116],[97],false,ex0⟩],exK 22 [exK 5 [exK 15 [FQ [97] [98],GU ⟨1,false,1,[]⟩]],exK 7 [FQ [] [99]]],[],ex0,[], -1,0⟩}
theorem ATD:CQ ATG=([KZ],ok0):=by kernel_rfl
theorem ATC:(CQ ATF).2=⟨174,28⟩:=by decide+kernel
theorem ATB:DL true KZ=exT3:=by decide+kernel
theorem ZK:okE ex0:=by simp [okE,okL,okI,ex0,v0]
theorem AIN:OkS KZ:=by
 refine ⟨⟨?_,?_,?_,?_,ZK,nofun,by unfold okI;decide,by unfold okI;decide,by decide⟩,ZK,nofun,nofun,nofun,by decide,by decide,by decide,by decide⟩
 ·intro x hx;simp only [KZ,zZ,zaH,or_false] at hx;rcases hx with rfl|rfl <;> simp [okE,okL,okI,FQ,Ed,exK,v0]
 ·intro x hx;simp only [KZ,zZ,zaH,or_false] at hx;subst hx;exact ZK
 ·simp [KZ,okE,okL,okI,FQ,exK,GU,v0]
 ·trivial
section
variable {ω:Om}{G I:Imm}{L F:LH}{K:Value→M}
theorem Wu (hk:∀I' v,Ext I I'→StL I' v wordsL→K v I' L):CT ω 18 #[] K I L:=by
 refine AUh ?_;unfold ASh;exact DT wordsL rfl rfl (λI' a hI hv=>zAA (zAA (hk I' _ hI hv)))
theorem Gz {u v:Value}{xs ys:List Bs}(hx:RL StrV 1 I L u xs)(hy:RL StrV 1 I L v ys)(hl:xs.length≤1000000000000)(hk:K (.bool (eqL eqB xs ys)) I L):CT ω 20 #[u,v] K I L:=by
 refine AUf ?_;unfold ASf;simp only [zAK hx,zAK hy,SSd,Nat.reduceAdd];refine AB (λh=>?_) (λh=>?_)
 ·have h:xs.length≠ys.length:=by
   have:¬(xs.length:Int)=ys.length:=by simpa using h
   omega
  rw [ACc h] at hk;exact zAA hk
 have h:xs.length=ys.length:=by
  have:(xs.length:Int)=ys.length:=by simpa using h
  omega
 refine loop (λq st I' L'=>∃k:Nat,k+q=xs.length∧st=(Value.bool false,Value.int .i64 (k:Nat),())∧I'=I∧L'=L∧eqL eqB xs ys=eqL eqB (xs.drop k) (ys.drop k)) xs.length ⟨0,by omega,rfl,rfl,rfl,rfl⟩ ?_;rintro q st I' L' ⟨k,hq,rfl,rfl,rfl,he⟩;unfold AGQ;simp only [zAK hx,SSd,Nat.reduceAdd];refine AB (λhb=>?_) (λhb=>?_)
 ·have hb:k < xs.length:=by
   have:=of_decide_eq_true hb;omega
  have hb2:k < ys.length:=by omega
  obtain ⟨bt,off,c1,g1,gl,g2,g3⟩:=zAR hx (i:=k) zo zo;obtain ⟨bu,off2,c2,k1,kl,k2,k3⟩:=zAR hy (i:=k) zo zo;rw [Am hb] at g2;rw [Am hb2] at k2;obtain rfl:=g2;obtain rfl:=k2;rw [zaj hb,zaj hb2] at he;simp only [eqL] at he;refine draw (Stay I' L') (Stay.start I' L') ?_;simp only [g1,k1,SSd,Nat.reduceAdd];refine IR (g3 I' L' (zAC _) (λ_ h=>h) 0 _ rfl) ?_;refine IR (k3 I' L' (zAC _) (λ_ h=>h) 0 _ rfl) ?_;simp only [sNe,SSd,Nat.reduceAdd];refine AB (λh0=>?_) (λh0=>?_)
  ·have h0:eqB xs[k] ys[k]=false:=by simpa [eqB] using h0
   rw [he,h0] at hk;exact zAA hk
  ·have h0:eqB xs[k] ys[k]=true:=by simpa [eqB] using h0
   simp only [wrap_i64 ((k:Int)+1) zo,SSd,Nat.reduceAdd];exact zAA ⟨q - 1,by omega,k+1,by omega,rfl,rfl,rfl,by rw [he,h0,Bool.true_and]⟩
 ·have hb:¬k < xs.length:=by
   have:=of_decide_eq_false hb;omega
  rw [he,AKm (zaa zo) (zaa zo)] at hk;exact zAA hk
theorem Xg {α:Type}{f:α→α→Bool}(hf:∀x,f x x=true):∀l:List α,eqL f l l=true
 |[]=>rfl
 |x::l=>by simp only [eqL,hf,Xg hf l,Bool.and_self]
theorem AIS (x:Bs):eqB x x=true:=by simp [eqB]
end
end Go.Proofs.YtkifgfanjcfedaaGreatDoor
