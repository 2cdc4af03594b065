/- lemmas -/
import Derived.Test.YtmmfcgbfbcamcaaGreatDoorP8
import Derived.Test.YtmmfcgbfbcamcaaGreatDoorP7
import Derived.Shelf.SlMaps.Clone
import Derived.Test.YtmmfcgbfbcamcaaGreatDoorP5
import Derived.Shelf.SlSortCmp.NoneTotal
import Derived.Shelf.Sort.Plain
import Derived.Shelf.Slices.In.SortNone
import Derived.Test.YtmmfcgbfbcamcaaGreatDoorProg
import Derived.Shelf.Lays
import Derived.Shelf.SlLaysW
set_option maxRecDepth 100000
set_option maxHeartbeats 2000000
set_option linter.unusedVariables false
set_option linter.unusedSimpArgs false
set_option linter.unusedSectionVars false
namespace Go.Proofs.YtmmfcgbfbcamcaaGreatDoor
open Go.SL
abbrev snC (q:Int×TSn):List Value:=[.int .i64 q.1,.int .i64 q.2.fSeq,.int .i64 q.2.fCode,.int .i64 q.2.fAt.fWall,.int .i64 q.2.fAt.fLogic]
abbrev AMb (q:Int×TSn):Obj:=.cells (snC q).toArray 301 (0,0)
abbrev roO (e:Int)(a:TStamp)(b' st':Int):Obj:=.cells #[.int .i64 e,.bool false,.slice none 0 0,.int .i64 0,.int .i64 0,.int .i64 0,.slice none 0 0,.int .i64 a.fWall,.int .i64 a.fLogic,.int .i64 b',.int .i64 st'] 52 (0,0)
section
variable {ω:Om}{I:Imm}{L:LH}{K:Value→M}{br:Nat}{V:RV}{m:Mch}{R:LH}
abbrev LZ (q6 q2 q1:Nat)(x:Int×TSn)(c:TCmd)(ro:Obj)(w0 w1 w2 w3:Value)(XO Z:LH):LH:=(q6,AMb x)::(q2,ro)::(q1,DU c w0 w1 w2 w3)::(XO++Z)
theorem Wt {q6 q2 q1 i:Nat}{x:Int×TSn}{c:TCmd}{ro:Obj}{w0 w1 w2 w3 v:Value}{d:Bool}{acc:List (Int×TSn)}{cells:List Value}{XO:LH}{Kn0:(Value×Value×Value×Unit)→M}(hS:RL SnR 5 I [] V.vS m.seen)(hx:x.1=c.fTxn)(hi:i < m.seen.length)(hil:m.seen.length≤1000)
  (hO:SlO 301 5 XO v cells acc.length) (hR:Recs (SnR I) 5 acc cells) (hal:acc.length≤4000)
  (hk:∀XO' v' cells',SlO 301 5 XO' v' cells' (acc++(if m.seen[i].1=x.1 then [] else [m.seen[i]])).length→Recs (SnR I) 5 (acc++(if m.seen[i].1=x.1 then [] else [m.seen[i]])) cells'→Gh (Kn0 (v',.bool d,.int .i64 ((i:Int)+1),())) I (LZ q6 q2 q1 x c ro w0 w1 w2 w3 XO' (rL br V m R))):
  HC ω (pt br) (pt q1) v (.bool d) (.int .i64 i) (λs=>Gh (Kn0 s)) (λv=>Gh (K v)) I (LZ q6 q2 q1 x c ro w0 w1 w2 w3 XO (rL br V m R)):=by
 obtain ⟨q,off,dd,hix,hcl,hd,hcc⟩:=RL.ix hS (i:=(i:Int)) (by omega) (by omega);rw [AX hi] at hd;generalize m.seen[i]=y at *;obtain rfl:=hd;have hcv:=hcc I [] (Ext.refl _) (λ_ h=>h);unfold HC;refine AZ ?_;try refine O ?_
 refine Ab ?_;simp only [hix,SSd,Nat.reduceAdd];refine Av (hcv 0 _ rfl) (Ext.refl _) ?_;try refine O ?_
 refine Ab ?_;try refine O ?_
 refine AF (λe=>?_) (λe=>?_)
 ·have e':¬y.1=x.1:=by rw [hx];simpa using e
  rw [if_neg e'] at hk;refine rdb ?_;simp only [hix,SSd,Nat.reduceAdd];refine FT hcv (Ext.refl _) rfl ?_;refine DD (R:=SnR) (X6:=XO) (x:=y) rfl (by omega) hO hR rfl rfl (AH rfl) (by omega) (by omega) (λX1 X6 v6 cells6 h6 hR6=>?_);unfold Kd;try refine O ?_
  rw [wrap_i64 _ (by omega)];exact Gh.to (LZ q6 q2 q1 x c ro w0 w1 w2 w3 X6 (rL br V m R)) (hk X6 v6 cells6 h6 hR6)
 ·have e':y.1=x.1:=by rw [hx];simpa using e
  rw [if_pos e',List.append_nil] at hk;unfold Kd;try refine O ?_
  rw [wrap_i64 _ (by omega)];exact hk XO v cells hO hR
theorem HI {c:TCmd}{cc:List Value}{e b' st':Int}{a:TStamp}(hF:RF14 I V m)(hs:SrtA ilt m.seen)(hil:m.seen.length≤1000)(hc:TCmdV I c cc)
  (hk:∀I' V',Ext I I'→RF14 I' V' (Bw m c e a)→K (.tuple #[]) I' (rL br V' (Bw m c e a) R)):
  CT ω 171 #[pt br,.agg cc.toArray,rv e a b' st'] K I (rL br V m R):=by
 obtain ⟨w0,w1,w2,w3,rfl,g0,g1,g2,g3⟩:=hc;have hS:=hF.sn;have hins:EW ilt c.fTxn (⟨c.fSeq,e,a⟩:TSn) false m.seen=CL m c e a:=Ij HZ hs;refine ALM ?_;unfold ABU;refine AQ (λq1=>AQ (λq2=>?_));try refine O ?_
 refine rdb ?_;try refine O ?_
 refine rdb ?_;try refine O ?_
 refine rdb ?_;try refine O ?_
 refine rdP [.int .i64 a.fWall,.int .i64 a.fLogic] rfl rfl ?_;try refine O ?_
 refine AQ (λq6=>?_);refine stB rfl rfl (AH rfl) ?_;have end9:∀(XO:LH) (v:Value) (cells:List Value) (acc:List (Int×TSn)),SlO 301 5 XO v cells acc.length→Recs (SnR I) 5 acc cells→acc=CL m c e a→Kc ω (pt br) v (λv=>Gh (K v)) I (LZ q6 q2 q1 (c.fTxn,⟨c.fSeq,e,a⟩) c (roO e a b' st') w0 w1 w2 w3 XO (rL br V m R)):=by
  intro XO v cells acc hO hR he;have hlen:=congrArg List.length he;obtain ⟨oa,oc,rfl⟩:=hO.form;unfold Kc;try refine O ?_
  refine AF (λe8=>?_) (λe8=>?_)
  ·have h64:64 < (CL m c e a).length:=by simp at e8;omega
   obtain ⟨b0,hix0,hc0⟩:=SlO.ix hO .i64 (i:=0) (by omega);have hrec:=Recs.get hR (i:=0) (x:=acc[0]'(by omega)) (by simp);have hh:acc.head? =some (acc[0]'(by omega)):=by rw [List.head?_eq_getElem?];simp
   generalize acc[0]'(by omega)=y at *;obtain ⟨hr1,hr2⟩:=hrec;have hr2':(cells.drop (0 * 5)).take 5=snC y:=hr2;have hc0':=hc0 I (LZ q6 q2 q1 (c.fTxn,⟨c.fSeq,e,a⟩) c (roO e a b' st') w0 w1 w2 w3 XO (rL br V m R)) (λx hx=>by simp [hx]);rw [hr2'] at hc0';rw [show ((0:Nat):Int)=0 from rfl] at hix0;simp only [hix0,SSd,Nat.reduceAdd];refine rdC (L0:=LZ q6 q2 q1 (c.fTxn,⟨c.fSeq,e,a⟩) c (roO e a b' st') w0 w1 w2 w3 XO (rL br V m R)) (hc0' 0 _ rfl) (Ext.refl _) ?_;try refine O ?_
   refine Yd rfl ?_;have heq:Bw m c e a={m with seen:=(CL m c e a).tail,oldest:=y.1}:=by
    unfold Bw;rw [if_pos h64,←he,hh];rfl
   rw [heq] at hk;refine Gh.to (XO++((br,Lr V.vF V.vT V.bs V.vM m.low V.vR V.vS y.1)::(V.bs,BC V.vV V.vI m.sp.floor)::(V.XM++(V.XR++R)))) (SlO.freeze hO (λI3 hI3 hSl=>Gh.done ?_));obtain ⟨v3,hv3,hRL⟩:=RL.part (lo:=1) (hi:=acc.length) (RL.ofI (R:=SnR) (L:=[]) hSl (hR.imp λx c h=>SnR.mono h hI3)) (by omega) (Nat.le_refl _) (some (.int .i64 1)) none (BI .i64 1 _ _ (by omega)) (λcap hc=>rfl);rw [List.take_of_length_le (by rw [List.length_drop];omega),List.drop_one,he] at hRL;simp only [hv3,SSd,Nat.reduceAdd];unfold Kb;try refine O ?_
   obtain ⟨u3,k3,rfl⟩:=RL.form hRL;refine st1 rfl ?_;refine Gh.done (hk I3 {V with vS:=.slice u3 _ k3} hI3 {hF.mono hI3 with sn:=?_});exact hRL
  ·have h64:¬64 < (CL m c e a).length:=by simp at e8;omega
   have heq:Bw m c e a={m with seen:=CL m c e a}:=by unfold Bw;rw [if_neg h64]
   rw [heq] at hk;unfold Kb;try refine O ?_
   refine st1 rfl ?_;refine Gh.to (XO++((br,Lr V.vF V.vT V.bs V.vM m.low V.vR (.slice oa acc.length oc) m.oldest)::(V.bs,BC V.vV V.vI m.sp.floor)::(V.XM++(V.XR++R)))) (SlO.freeze hO (λI3 hI3 hSl=>Gh.done ?_));refine hk I3 {V with vS:=.slice oa acc.length oc} hI3 {hF.mono hI3 with sn:=?_};have:=RL.ofI (R:=SnR) (L:=[]) hSl (hR.imp λx c h=>SnR.mono h hI3);rw [he] at this ⊢;exact this
 refine loop (λn s I' L'=>I'=I∧∃(i:Nat) (d:Bool) (XO:LH) (v:Value) (acc:List (Int×TSn)) (cells:List Value),n+i=m.seen.length∧s=(v,.bool d,.int .i64 i,())∧L'=LZ q6 q2 q1 (c.fTxn,⟨c.fSeq,e,a⟩) c (roO e a b' st') w0 w1 w2 w3 XO (rL br V m R)∧SlO 301 5 XO v cells acc.length∧Recs (SnR I) 5 acc cells∧acc.length≤2 * i∧
   acc++EW ilt c.fTxn ⟨c.fSeq,e,a⟩ d (m.seen.drop i)=CL m c e a) m.seen.length ⟨rfl,0,false,[],_,[],[],rfl,rfl,rfl,SlO.none _ _,rfl,by simp,hins⟩ ?_
 rintro n s I' L' ⟨rfl,i,d,XO,v,acc,cells,hni,rfl,rfl,hO,hR,hal,hA⟩;unfold Uy;try refine O ?_
 refine rdb ?_;simp only [RL.len hS,SSd,Nat.reduceAdd];refine AF (λe1=>?_) (λe1=>?_)
 ·have hi:i < m.seen.length:=by simpa using e1
  have hd:m.seen.drop i=m.seen[i]::m.seen.drop (i+1):=List.drop_eq_getElem_cons hi;rw [hd,EW] at hA;obtain ⟨q,off,dd,hix,hcl,hdd,hcc⟩:=RL.ix hS (i:=(i:Int)) (by omega) (by omega);rw [AX hi] at hdd;have three:∀(XO:LH) (v:Value) (cells:List Value) (acc:List (Int×TSn)) (d:Bool),SlO 301 5 XO v cells acc.length→Recs (SnR I') 5 acc cells→acc.length≤2 * i+1→acc++((if m.seen[i].1=c.fTxn then [] else [m.seen[i]])++EW ilt c.fTxn ⟨c.fSeq,e,a⟩ d (m.seen.drop (i+1)))=CL m c e a→
    HC ω (pt br) (pt q1) v (.bool d) (.int .i64 i) (λs'=>Gh λI2 L2=>∃m',m' < n∧I2=I'∧∃(i:Nat) (d:Bool) (XO:LH) (v:Value) (acc:List (Int×TSn)) (cells:List Value),m'+i=m.seen.length∧s'=(v,.bool d,.int .i64 i,())∧L2=LZ q6 q2 q1 (c.fTxn,⟨c.fSeq,e,a⟩) c (roO e a b' st') w0 w1 w2 w3 XO (rL br V m R)∧SlO 301 5 XO v cells acc.length∧Recs (SnR I') 5 acc cells∧acc.length≤2 * i∧
   acc++EW ilt c.fTxn ⟨c.fSeq,e,a⟩ d (m.seen.drop i)=CL m c e a) (λv=>Gh (K v)) I' (LZ q6 q2 q1 (c.fTxn,⟨c.fSeq,e,a⟩) c (roO e a b' st') w0 w1 w2 w3 XO (rL br V m R)):=by
   intro XO v cells acc d hO hR hal hA;refine Wt (x:=(c.fTxn,⟨c.fSeq,e,a⟩)) hS rfl hi hil hO hR (by omega) (λXO' v' cells' hO' hR'=>Gh.done ⟨n - 1,by omega,rfl,i+1,d,XO',v',_,cells',by omega,rfl,rfl,hO',hR',?_,by rw [List.append_assoc];exact hA⟩);rw [List.length_append];split <;> simp <;> omega
  generalize m.seen[i]=y at *;obtain rfl:=hdd;have hcv:=hcc I' [] (Ext.refl _) (λ_ h=>h);refine AZ ?_;try refine O ?_
  cases d with
  |true=>
   rw [if_neg (by simp),List.nil_append,Bool.true_or] at hA;simp only [Bool.not_true,SSd,Nat.reduceAdd];exact three XO v cells acc true hO hR (by omega) hA
  |false=>
   simp only [Bool.not_false,SSd,Nat.reduceAdd];refine Ab ?_;simp only [hix,SSd,Nat.reduceAdd];refine Av (hcv 0 _ rfl) (Ext.refl _) ?_;try refine O ?_
   refine Ab ?_;try refine O ?_
   refine AF (λe2=>?_) (λe2=>?_)
   ·have hlt:ilt y.1 c.fTxn=false:=by simp at e2 ⊢;omega
    rw [if_pos ⟨rfl,hlt⟩,hlt] at hA;unfold Ux;refine rdB rfl ?_;refine Ct (R:=SnR) (X6:=XO) (x:=(c.fTxn,(⟨c.fSeq,e,a⟩:TSn))) rfl (by omega) hO hR rfl rfl (AH rfl) (by omega) (by omega) (λX1 X6 v6 cells6 h6 hR6=>?_);refine Gh.to (LZ q6 q2 q1 (c.fTxn,⟨c.fSeq,e,a⟩) c (roO e a b' st') w0 w1 w2 w3 X6 (rL br V m R)) (Gh.done (three X6 v6 cells6 _ true h6 hR6 (by simp;omega) ?_));rw [List.append_assoc];exact hA
   ·have hlt:ilt y.1 c.fTxn=true:=by simp at e2 ⊢;omega
    rw [if_neg (by simp [hlt]),List.nil_append,hlt] at hA;exact three XO v cells acc false hO hR (by omega) hA
 ·have hi:i=m.seen.length:=by simp at e1;omega
  subst hi;rw [List.drop_length,EW] at hA;unfold Uw;try refine O ?_
  cases d with
  |true=>
   simp only [Bool.not_true,SSd,Nat.reduceAdd];exact end9 XO v cells acc hO hR (by simpa using hA)
  |false=>
   simp only [Bool.not_false,SSd,Nat.reduceAdd];refine rdB rfl ?_;refine Ct (R:=SnR) (X6:=XO) (x:=(c.fTxn,(⟨c.fSeq,e,a⟩:TSn))) rfl (by omega) hO hR rfl rfl (AH rfl) (by omega) (by omega) (λX1 X6 v6 cells6 h6 hR6=>?_);exact Gh.to (LZ q6 q2 q1 (c.fTxn,⟨c.fSeq,e,a⟩) c (roO e a b' st') w0 w1 w2 w3 X6 (rL br V m R)) (Gh.done (end9 X6 v6 cells6 _ h6 hR6 (by simpa using hA)))
end
abbrev rcC (q:Int×TRc):List Value:=[.int .i64 q.1,.int .i64 q.2.fState,.int .i64 q.2.fAt.fWall,.int .i64 q.2.fAt.fLogic]
abbrev AMf (q:Int×TRc):Obj:=.cells (rcC q).toArray 138 (0,0)
def Hq (l:AL Int TRc)(n:Int):Int:=match l.findIdx? (λq=>q.1==n) with
 |some i=>i
 |none=> -1
theorem Qr {l:AL Int TRc}{n:Int}{i:Nat}(hi:i < l.length)(hno:∀x∈l.take i,x.1≠n)(he:l[i].1=n):Hq l n=i:=by
 unfold Hq;have:l.findIdx? (λq=>q.1==n)=some i:=by
  rw [List.findIdx?_eq_some_iff_getElem];refine ⟨hi,by simpa using he,λj hj=>?_⟩;have:=hno l[j] (List.mem_take_iff_getElem.2 ⟨j,by omega,rfl⟩);simpa using this
 rw [this]
theorem Lx {l:AL Int TRc}{n:Int}(hno:∀x∈l,x.1≠n):Hq l n= -1:=by
 unfold Hq;have:l.findIdx? (λq=>q.1==n)=none:=by
  rw [List.findIdx?_eq_none_iff];intro x hx;simpa using hno x hx
 rw [this]
theorem Ih {l:AL Int TRc}{n:Int}(hs:SrtA ilt l):(lkA l n=none∧Hq l n= -1)∨∃(i:Nat) (hi:i < l.length),Hq l n=i∧l[i].1=n∧lkA l n=some l[i].2:=by
 cases h:lkA l n with
 |none=>exact .inl ⟨rfl,Lx (lkA_none.1 h)⟩
 |some x=>
  right
  obtain ⟨i,hi,hx⟩:=List.mem_iff_getElem.1 (Dq h);have hn:l[i].1=n:=by rw [hx]
  refine ⟨i,hi,Qr hi (λy hy=>?_) hn,hn,by rw [hx]⟩;obtain ⟨j,hj,rfl⟩:=List.mem_take_iff_getElem.1 hy;have hp:=List.pairwise_iff_getElem.1 hs j i (by omega) hi (by omega);rw [hn] at hp;intro e;rw [e] at hp;simp at hp
section
variable {ω:Om}{I:Imm}{L:LH}{K:Value→M}{br:Nat}{V:RV}{m:Mch}{R:LH}
theorem RF14.rl (hF:RF14 I V m):RL RcR 4 I V.XR V.vR m.recs:=SlO.rl hF.rc hF.rcR (λx h=>h)
theorem RF14.mkl (hF:RF14 I V m):RL MkR 4 I V.XM V.vM m.marks:=SlO.rl hF.mkO hF.mkR (λx h=>h)
theorem Fx {n:Int}(hF:RF14 I V m)(hl:m.recs.length≤1000)(hk:K (.int .i64 (Hq m.recs n)) I (rL br V m R)):
  CT ω 173 #[pt br,.int .i64 n] K I (rL br V m R):=by
 have hS:=hF.rl;refine ALK ?_;unfold ABQ;refine loop (λj s I' L'=>I'=I∧L'=rL br V m R∧∃i:Nat,j+i=m.recs.length∧s=(.int .i64 0,.int .i64 i,())∧∀x∈m.recs.take i,x.1≠n) m.recs.length ⟨rfl,rfl,0,rfl,rfl,by simp⟩ ?_;rintro j s I' L' ⟨rfl,rfl,i,hni,rfl,hno⟩;unfold Us;try refine O ?_
 refine rdb ?_;simp only [RL.len hS,SSd,Nat.reduceAdd];refine AF (λe=>?_) (λe=>?_)
 ·have hi:i < m.recs.length:=by simpa using e
  obtain ⟨q,off,d,hix,hcl,hd,hcc⟩:=RL.ix hS (i:=(i:Int)) (by omega) (by omega);rw [AX hi] at hd;have hpl:=Qr (n:=n) hi hno;have hsn:=take_snoc hi;generalize m.recs[i]=x at *;obtain rfl:=hd;have hcv:=hcc I' V.XR (Ext.refl _) (λ_ h=>h);try refine O ?_
  refine rdb ?_;simp only [hix,SSd,Nat.reduceAdd];refine rdC (hcv 0 _ rfl) (Ext.refl _) ?_;try refine O ?_
  refine AF (λe2=>?_) (λe2=>?_)
  ·rw [hpl (by simpa using e2)] at hk;exact Gh.done hk
  ·have e2':x.1≠n:=by simpa using e2
   try refine O ?_
   rw [wrap_i64 _ (by omega)];refine Gh.done ⟨j - 1,by omega,rfl,rfl,i+1,by omega,rfl,λy hy=>?_⟩;rw [hsn] at hy;rcases List.mem_append.1 hy with hy|hy
   ·exact hno y hy
   ·simp only [List.mem_singleton] at hy;subst hy;exact e2'
 ·have hi:i=m.recs.length:=by simp at e;omega
  rw [hi,List.take_length] at hno;rw [Lx hno] at hk;exact Gh.done hk
end
section
variable {ω:Om}{I:Imm}{L:LH}{K:Value→M}{br:Nat}{V:RV}{m:Mch}{R:LH}
abbrev Lq (q1:Nat)(x:Int×TRc)(XO Z:LH):LH:=(q1,AMf x)::(XO++Z)
theorem Ic {x:Int×TRc}(hF:RF14 I V m)(hs:SrtA ilt m.recs)(hil:m.recs.length≤1000)(hno:lkA m.recs x.1=none)
  (hk1:64≤m.recs.length→K (.bool false) I (rL br V m R))
  (hk2:∀V',m.recs.length < 64→RF14 I V' {m with recs:=Am ilt x.1 x.2 m.recs}→K (.bool true) I (rL br V' {m with recs:=Am ilt x.1 x.2 m.recs} R)):
  CT ω 174 #[pt br,.agg (rcC x).toArray] K I (rL br V m R):=by
 have hS:=hF.rl;have hins:EW ilt x.1 x.2 false m.recs=Am ilt x.1 x.2 m.recs:=Ij HZ hs;have hno':=lkA_none.1 hno;refine ALJ ?_;unfold ABO;refine AQ (λq1=>?_);try refine O ?_
 refine rdb ?_;simp only [RL.len hS,SSd,Nat.reduceAdd];refine AF (λe0=>?_) (λe0=>?_)
 ·exact Gh.to (rL br V m R) (Gh.done (hk1 (by simp at e0;omega)))
 have h64:m.recs.length < 64:=by simp at e0;omega
 have end6:∀(XO:LH) (v:Value) (cells:List Value) (acc:List (Int×TRc)),SlO 138 4 XO v cells acc.length→Recs (RcR I) 4 acc cells→acc=Am ilt x.1 x.2 m.recs→Ka ω (pt br) (.bool false) v (λv=>Gh (K v)) I (Lq q1 x XO (rL br V m R)):=by
  intro XO v cells acc hO hR he;subst he;obtain ⟨oa,oc,rfl⟩:=hO.form;unfold Ka;try refine O ?_
  refine st1 rfl ?_;refine Gh.to (rL br {V with vR:=.slice oa (Am ilt x.1 x.2 m.recs).length oc,cR:=cells,XR:=XO} {m with recs:=Am ilt x.1 x.2 m.recs} R) (Gh.done (hk2 _ h64 {hF with rc:=?_,rcR:=?_}))
  ·exact hO
  ·exact hR
 refine loop (λn s I' L'=>I'=I∧∃(i:Nat) (d:Bool) (XO:LH) (v:Value) (acc:List (Int×TRc)) (cells:List Value),n+i=m.recs.length∧s=(v,.bool d,.int .i64 i,())∧L'=Lq q1 x XO (rL br V m R)∧SlO 138 4 XO v cells acc.length∧Recs (RcR I) 4 acc cells∧acc.length≤2 * i∧
   acc++EW ilt x.1 x.2 d (m.recs.drop i)=Am ilt x.1 x.2 m.recs) m.recs.length ⟨rfl,0,false,[],_,[],[],rfl,rfl,rfl,SlO.none _ _,rfl,by simp,hins⟩ ?_
 rintro n s I' L' ⟨rfl,i,d,XO,v,acc,cells,hni,rfl,rfl,hO,hR,hal,hA⟩;unfold Ur;try refine O ?_
 refine rdb ?_;simp only [RL.len hS,SSd,Nat.reduceAdd];refine AF (λe1=>?_) (λe1=>?_)
 ·have hi:i < m.recs.length:=by simpa using e1
  have hd:m.recs.drop i=m.recs[i]::m.recs.drop (i+1):=List.drop_eq_getElem_cons hi;have hne:m.recs[i].1≠x.1:=hno' _ (List.getElem_mem hi);rw [hd,EW,if_neg hne] at hA;obtain ⟨q,off,dd,hix,hcl,hdd,hcc⟩:=RL.ix hS (i:=(i:Int)) (by omega) (by omega);rw [AX hi] at hdd;generalize m.recs[i]=y at *;obtain rfl:=hdd;have hcv:=hcc I' V.XR (Ext.refl _) (λ_ h=>h);have three:∀(XO:LH) (v:Value) (cells:List Value) (acc:List (Int×TRc)) (d:Bool),SlO 138 4 XO v cells acc.length→Recs (RcR I') 4 acc cells→acc.length≤2 * i+1→acc++([y]++EW ilt x.1 x.2 d (m.recs.drop (i+1)))=Am ilt x.1 x.2 m.recs→
    IY ω (pt br) v (.bool d) (.int .i64 i) (λs'=>Gh λI2 L2=>∃m',m' < n∧I2=I'∧∃(i:Nat) (d:Bool) (XO:LH) (v:Value) (acc:List (Int×TRc)) (cells:List Value),m'+i=m.recs.length∧s'=(v,.bool d,.int .i64 i,())∧L2=Lq q1 x XO (rL br V m R)∧SlO 138 4 XO v cells acc.length∧Recs (RcR I') 4 acc cells∧acc.length≤2 * i∧
   acc++EW ilt x.1 x.2 d (m.recs.drop i)=Am ilt x.1 x.2 m.recs) (λv=>Gh (K v)) I' (Lq q1 x XO (rL br V m R)):=by
   intro XO v cells acc d hO hR hal hA;unfold IY;try refine O ?_
   refine rdb ?_;simp only [hix,SSd,Nat.reduceAdd];refine FT hcv (Ext.refl _) rfl ?_;refine DD (R:=RcR) (X6:=XO) (x:=y) rfl (by omega) hO hR rfl rfl (AH rfl) (by omega) (by omega) (λX1 X6 v6 cells6 h6 hR6=>?_);try refine O ?_
   rw [wrap_i64 _ (by omega)];exact Gh.to (Lq q1 x X6 (rL br V m R)) (Gh.done ⟨n - 1,by omega,rfl,i+1,d,X6,v6,_,cells6,by omega,rfl,rfl,h6,hR6,by simp;omega,by rw [List.append_assoc];exact hA⟩)
  refine AZ ?_;try refine O ?_
  cases d with
  |true=>
   rw [if_neg (by simp),List.nil_append,Bool.true_or] at hA;simp only [Bool.not_true,SSd,Nat.reduceAdd];exact three XO v cells acc true hO hR (by omega) hA
  |false=>
   simp only [Bool.not_false,SSd,Nat.reduceAdd];refine Ab ?_;simp only [hix,SSd,Nat.reduceAdd];refine Av (hcv 0 _ rfl) (Ext.refl _) ?_;try refine O ?_
   refine Ab ?_;try refine O ?_
   refine AF (λe2=>?_) (λe2=>?_)
   ·have hlt:ilt y.1 x.1=false:=by simp at e2 ⊢;omega
    rw [if_pos ⟨rfl,hlt⟩,hlt] at hA;unfold Uq;refine rdB rfl ?_;refine Ct (R:=RcR) (X6:=XO) (x:=x) rfl (by omega) hO hR rfl rfl (AH rfl) (by omega) (by omega) (λX1 X6 v6 cells6 h6 hR6=>?_);refine Gh.to (Lq q1 x X6 (rL br V m R)) (Gh.done (three X6 v6 cells6 _ true h6 hR6 (by simp;omega) ?_));rw [List.append_assoc];exact hA
   ·have hlt:ilt y.1 x.1=true:=by simp at e2 ⊢;omega
    rw [if_neg (by simp [hlt]),List.nil_append,hlt] at hA;exact three XO v cells acc false hO hR (by omega) hA
 ·have hi:i=m.recs.length:=by simp at e1;omega
  subst hi;rw [List.drop_length,EW] at hA;unfold Up;try refine O ?_
  cases d with
  |true=>
   simp only [Bool.not_true,SSd,Nat.reduceAdd];exact end6 XO v cells acc hO hR (by simpa using hA)
  |false=>
   simp only [Bool.not_false,SSd,Nat.reduceAdd];refine rdB rfl ?_;refine Ct (R:=RcR) (X6:=XO) (x:=x) rfl (by omega) hO hR rfl rfl (AH rfl) (by omega) (by omega) (λX1 X6 v6 cells6 h6 hR6=>?_);exact Gh.to (Lq q1 x X6 (rL br V m R)) (Gh.done (end6 X6 v6 cells6 _ h6 hR6 (by simpa using hA)))
theorem Id {m:Mch}{n:Int}{x:TRc}(h:lkA m.recs n=some x):recAt m n=x:=by unfold recAt;rw [h];rfl
theorem MK {c:TCmd}{cc:List Value}(hF:RF14 I V m)(hs:SrtA ilt m.recs)(hil:m.recs.length≤999)(hc:TCmdV I c cc)
  (hk1:Cu m c.fTxn 3 c.fAt=none→K (.int .i64 (-1)) I (rL br V m R))
  (hk2:∀V' m1 (i:Nat) (hi:i < m1.recs.length),Cu m c.fTxn 3 c.fAt=some m1→RF14 I V' m1→m1.recs[i].1=c.fTxn→recAt m1 c.fTxn=m1.recs[i].2→SrtA ilt m1.recs→m1.recs.length≤1000→K (.int .i64 i) I (rL br V' m1 R)):
  CT ω 175 #[pt br,.agg cc.toArray] K I (rL br V m R):=by
 obtain ⟨w0,w1,w2,w3,rfl,g0,g1,g2,g3⟩:=hc;refine ALI ?_;unfold ABM;refine AQ (λq1=>?_);try refine O ?_
 refine rdb ?_;refine call (Cal.perm (L':=rL br V m ((q1,DU c w0 w1 w2 w3)::R)) (AO (by ((try simp only [AJ,AM,AU,AP]);(try ac_rfl)))) (Fx hF (by omega) ?_));rcases Ih (n:=c.fTxn) hs with ⟨hn,hp⟩|⟨i,hi,hp,h1,h2⟩
 ·rw [hp];try refine O ?_
  refine rdb ?_;try refine O ?_
  refine rdP [.int .i64 c.fAt.fWall,.int .i64 c.fAt.fLogic] rfl rfl ?_;try refine O ?_
  have hr:Cu m c.fTxn 3 c.fAt=if 64≤m.recs.length then none else some {m with recs:=Am ilt c.fTxn ⟨3,c.fAt⟩ m.recs}:=by unfold Cu;rw [hn];rfl
  rw [hr] at hk1 hk2;refine call (Ic (x:=(c.fTxn,⟨3,c.fAt⟩)) hF hs (by omega) hn (λh=>?_) (λV' h hF'=>?_))
  ·simp only [Bool.not_false,SSd,Nat.reduceAdd];exact Gh.to (rL br V m R) (Gh.done (hk1 (by rw [if_pos h])))
  ·simp only [Bool.not_true,SSd,Nat.reduceAdd];refine rdb ?_;have hl2:=(Ff (lt:=ilt) c.fTxn (⟨3,c.fAt⟩:TRc) m.recs).1;have hs2:SrtA ilt (Am ilt c.fTxn ⟨3,c.fAt⟩ m.recs):=hs.ins HZ;refine call (Fx (m:={m with recs:=Am ilt c.fTxn ⟨3,c.fAt⟩ m.recs}) hF' (by show (Am ilt c.fTxn ⟨3,c.fAt⟩ m.recs).length≤1000;omega) ?_);rcases Ih (n:=c.fTxn) hs2 with ⟨hn',_⟩|⟨i,hi,hp,h1,h2⟩
   ·rw [Em,if_pos rfl] at hn';cases hn'
   ·rw [show ({m with recs:=Am ilt c.fTxn ⟨3,c.fAt⟩ m.recs}:Mch).recs=Am ilt c.fTxn ⟨3,c.fAt⟩ m.recs from rfl,hp];exact Gh.to (rL br V' {m with recs:=Am ilt c.fTxn ⟨3,c.fAt⟩ m.recs} R) (Gh.done (hk2 V' {m with recs:=Am ilt c.fTxn ⟨3,c.fAt⟩ m.recs} i hi (by rw [if_neg (by omega)]) hF' h1 (Id h2) hs2 (by show (Am ilt c.fTxn ⟨3,c.fAt⟩ m.recs).length≤1000;omega)))
 ·rw [hp];have e:decide ((0:Int)≤(i:Int))=true:=by simp
  simp only [e,SSd,Nat.reduceAdd];have hr:Cu m c.fTxn 3 c.fAt=some m:=by unfold Cu;rw [h2];rfl
  exact Gh.to (rL br V m R) (Gh.done (hk2 V m i hi hr hF h1 (Id h2) hs (by omega)))
end
section
variable {ω:Om}{I:Imm}{L:LH}{K:Value→M}{br:Nat}{V:RV}{m:Mch}{R:LH}
theorem Qm {c:TCmd}{cc:List Value}(hF:RF14 I V m)(hs:SrtA ilt m.recs)(hsn:SrtA ilt m.seen)(hil:m.recs.length≤999)(hsl:m.seen.length≤1000)(hc:TCmdV I c cc)
  (hk:∀r m',DA m c=(r,m')→∀I' V',Ext I I'→RF14 I' V' m'→K (rvR r) I' (rL br V' m' R)):
  CT ω 114 #[pt br,.agg cc.toArray] K I (rL br V m R):=by
 have hc':=hc;obtain ⟨w0,w1,w2,w3,rfl,g0,g1,g2,g3⟩:=hc;refine AMC ?_;unfold ACj;refine AQ (λq1=>AQ (λq2=>?_));refine rdB rfl ?_;refine call (Cal.perm (L':=rL br V m ((q2,FI)::(q1,DU c w0 w1 w2 w3)::R)) (AO (by ((try simp only [AJ,AM,AU,AP]);(try ac_rfl)))) (Hl hF hsn (by omega) hc' (λe a ha=>?_) (λha=>?_)))
 ·try refine O ?_
  refine AQ (λq3=>?_);refine stB rfl rfl (AH rfl) ?_;try refine O ?_
  refine rdB rfl ?_;refine stB rfl rfl (AH rfl) ?_;refine rdB rfl ?_;have hb:DA m c=(⟨e,BE,[],a,0,0⟩,m):=by unfold DA;rw [ha]
  exact Gh.to (rL br V m R) (Gh.done (hk _ _ hb I V (Ext.refl _) hF))
 try refine O ?_
 refine AQ (λq3=>?_);refine stB rfl rfl (AH rfl) ?_;try refine O ?_
 refine rdb ?_;refine call (Cal.to (rL br V m ((q2,FI)::(q1,DU c w0 w1 w2 w3)::R)) (Fx hF (by omega) ?_));have hb:DA m c=match Cu m c.fTxn 1 c.fAt with
  |none=>(Ag 143,m)
  |some m1=>if (recAt m1 c.fTxn).fState≠1 then (⟨142,BE,[],z0,0,(recAt m1 c.fTxn).fState⟩,m1) else (⟨0,BE,[],z0,0,1⟩,Bw m1 c 0 z0):=by unfold DA;simp only [ha];rfl
 rcases Ih (n:=c.fTxn) hs with ⟨hn,hp⟩|⟨i,hi,hp,h1,h2⟩
 ·rw [hp];have hr:Cu m c.fTxn 1 c.fAt=if 64≤m.recs.length then none else some {m with recs:=Am ilt c.fTxn ⟨1,c.fAt⟩ m.recs}:=by unfold Cu;rw [hn];rfl
  try refine O ?_
  refine rdb ?_;try refine O ?_
  refine rdP [.int .i64 c.fAt.fWall,.int .i64 c.fAt.fLogic] rfl rfl ?_;try refine O ?_
  refine call (Ic (x:=(c.fTxn,⟨1,c.fAt⟩)) hF hs (by omega) hn (λh=>?_) (λV' h hF'=>?_))
  ·rw [hr,if_pos h] at hb;simp only [Bool.not_false,SSd,Nat.reduceAdd];refine stB rfl rfl (AH rfl) ?_;refine rdB rfl ?_;exact Gh.to (rL br V m R) (Gh.done (hk _ _ hb I V (Ext.refl _) hF))
  ·rw [hr,if_neg (by omega)] at hb;have hst:recAt {m with recs:=Am ilt c.fTxn ⟨1,c.fAt⟩ m.recs} c.fTxn=⟨1,c.fAt⟩:=Nw;simp only [hst,ne_eq,not_true_eq_false,if_false] at hb;simp only [Bool.not_true,SSd,Nat.reduceAdd];refine rdB rfl ?_;refine call (HI (m:={m with recs:=Am ilt c.fTxn ⟨1,c.fAt⟩ m.recs}) (e:=0) (a:=z0) (b':=0) (st':=0) hF' hsn hsl hc' (λI9 V9 hI9 hF9=>?_));try refine O ?_
   refine stB rfl rfl (AH rfl) ?_;refine rdB rfl ?_;exact Gh.to (rL br V9 _ R) (Gh.done (hk _ _ hb I9 V9 hI9 hF9))
 ·rw [hp];have hr:Cu m c.fTxn 1 c.fAt=some m:=by unfold Cu;rw [h2];rfl
  have hst:recAt m c.fTxn=m.recs[i].2:=Id h2;rw [hr] at hb;simp only [hst] at hb;have e:decide ((0:Int)≤(i:Int))=true:=by simp
  obtain ⟨q,off,d,hix,hcl,hd,hcc⟩:=RL.ix hF.rl (i:=(i:Int)) (by omega) (by omega);rw [AX hi] at hd;generalize m.recs[i]=x at *;obtain rfl:=hd;have hcv:=hcc I V.XR (Ext.refl _) (λ_ h=>h);simp only [e,SSd,Nat.reduceAdd];refine rdb ?_;simp only [hix,SSd,Nat.reduceAdd];refine rdC (hcv 1 _ rfl) (Ext.refl _) ?_;try refine O ?_
  refine AF (λe2=>?_) (λe2=>?_)
  ·rw [if_pos (by simpa using e2)] at hb;try refine O ?_
   refine stB rfl rfl (AH rfl) ?_;refine rdB rfl ?_;exact Gh.to (rL br V m R) (Gh.done (hk _ _ hb I V (Ext.refl _) hF))
  ·have e2':x.2.fState=1:=by simpa using e2
   rw [if_neg (by simpa using e2)] at hb;rw [e2'];try refine O ?_
   refine rdB rfl ?_;refine call (HI (m:=m) (e:=0) (a:=z0) (b':=0) (st':=0) hF hsn hsl hc' (λI9 V9 hI9 hF9=>?_));try refine O ?_
   refine stB rfl rfl (AH rfl) ?_;refine rdB rfl ?_;exact Gh.to (rL br V9 _ R) (Gh.done (hk _ _ hb I9 V9 hI9 hF9))
theorem RF14.setR {br i d k off b:Nat}{y:Int×TRc}{x:Value}{vs:List Value}{T0 L0:LH}(hF:RF14 I V m)(hi:i < m.recs.length)(hd:d+k≤4)(hp:ixV 4 V.vR (.int .i64 i)=some (.pointer (some ⟨b,off,none⟩)))(hx:x.cells=vs.toArray)(hl:vs.length=k)(h1:∀u∈vs,u.oneCell'=true)
  (hy:(rcC m.recs[i]).take d++vs++(rcC m.recs[i]).drop (d+k)=rcC y) (hL:L0=T0++rL br V m R)
  (hk:∀V',RF14 I V' {m with recs:=m.recs.set i y}→Gh (K undef) I (T0++rL br V' {m with recs:=m.recs.set i y} R)):Sto k (.pointer (some ⟨b,off+d,none⟩)) x (gh K) I L0:=by
 subst hL;have hsp:SplitL V.XR (T0++rL br V m R) (T0++((br,Lr V.vF V.vT V.bs V.vM m.low V.vR V.vS m.oldest)::(V.bs,BC V.vV V.vI m.sp.floor)::(V.XM++R))):=inferInstance;refine SlO.sto (hsp:=hsp) hF.rc hi hd hp hx hl h1 (λX' hX'=>?_);refine Gh.perm (L':=T0++rL br {V with XR:=X',cR:=V.cR.take (i * 4+d)++vs++V.cR.drop (i * 4+d+k)} {m with recs:=m.recs.set i y} R) (AO (by ((try simp only [AJ,AM,AU,AP]);(try ac_rfl)))) (hk _ {hF with rc:=?_,rcR:=?_})
 ·show SlO _ 4 X' V.vR _ (m.recs.set i y).length;rw [List.length_set];exact hX'
 ·refine Recs.upd hl hd hF.rcR (List.getElem?_eq_getElem hi) (λc hc hR=>?_);have hR':c=rcC m.recs[i]:=hR;rw [hR'];exact hy
theorem OW {q1 q2 i:Nat}{w:Int}{c:TCmd}{w0 w1 w2 w3:Value}(hF:RF14 I V m)(hi:i < m.recs.length)(hil:m.recs.length≤1000)(hk:K (rv (if m.recs[i].2.fState≠w then 142 else 0) m.recs[i].2.fAt 0 m.recs[i].2.fState) I (rL br V m R)):
  Kl ω (pt br) (pt q2) (.int .i64 i) (.int .i64 w) (λv=>Gh (K v)) I (rL br V m ((q2,FI)::(q1,DU c w0 w1 w2 w3)::R)):=by
 obtain ⟨q,off,d,hix,hcl,hd,hcc⟩:=RL.ix hF.rl (i:=(i:Int)) (by omega) (by omega);rw [AX hi] at hd;generalize m.recs[i]=x at *;obtain rfl:=hd;have hcv:=hcc I V.XR (Ext.refl _) (λ_ h=>h);have hat:Cells I V.XR q (off+2) [.int .i64 x.2.fAt.fWall,.int .i64 x.2.fAt.fLogic]:=by simpa using hcv.sub (k:=2) (m:=2)
 unfold Kl;refine AZ ?_;try refine O ?_
 refine Ab ?_;simp only [hix,SSd,Nat.reduceAdd];refine Av (hcv 1 _ rfl) (Ext.refl _) ?_;try refine O ?_
 refine Ab ?_;simp only [hix,SSd,Nat.reduceAdd];refine Bo hat (Ext.refl _) rfl ?_;try refine O ?_
 refine AQ (λq3=>?_);refine Bt (Ext.refl _) ?_;refine stB rfl rfl (AH rfl) ?_;try refine O ?_
 refine rdb ?_;try refine O ?_
 refine AF (λe=>?_) (λe=>?_)
 ·rw [if_pos (by simpa using e)] at hk;try refine O ?_
  refine st1 rfl ?_;unfold Kk;refine rdB rfl ?_;refine stB rfl rfl (AH rfl) ?_;refine rdB rfl ?_;exact Gh.to (rL br V m R) (Gh.done hk)
 ·rw [if_neg (by simpa using e)] at hk;unfold Kk;refine rdB rfl ?_;refine stB rfl rfl (AH rfl) ?_;refine rdB rfl ?_;exact Gh.to (rL br V m R) (Gh.done hk)
theorem Qi {m:Mch}{i:Nat}{n:Int}{x:TRc}(hs:SrtA ilt m.recs)(hi:i < m.recs.length)(h:m.recs[i].1=n):Am ilt n x m.recs=m.recs.set i (n,x):=MQ HZ hs (λq hq=>by
  rw [List.getElem?_eq_getElem hi,Option.some.injEq] at hq;rw [←hq];exact h) hi
theorem XP {c:TCmd}{cc:List Value}(hF:RF14 I V m)(hs:SrtA ilt m.recs)(hil:m.recs.length≤999)(hc:TCmdV I c cc)(hk:∀r m',FV m c=(r,m')→∀V',RF14 I V' m'→K (rvR r) I (rL br V' m' R)):
  CT ω 115 #[pt br,.agg cc.toArray] K I (rL br V m R):=by
 have hc':=hc;obtain ⟨w0,w1,w2,w3,rfl,g0,g1,g2,g3⟩:=hc;refine AMB ?_;unfold ACh;refine AQ (λq1=>AQ (λq2=>?_));refine rdB rfl ?_;refine call (Cal.perm (L':=rL br V m ((q2,FI)::(q1,DU c w0 w1 w2 w3)::R)) (AO (by ((try simp only [AJ,AM,AU,AP]);(try ac_rfl)))) (MK hF hs hil hc' (λhn=>?_) (λV1 m1 i hi hr hF1 h1 hat1 hs1 hl1=>?_)))
 ·try refine O ?_
  refine stB rfl rfl (AH rfl) ?_;refine rdB rfl ?_;exact Gh.to (rL br V m R) (Gh.done (hk _ _ (OV hn) V hF))
 have e:decide ((i:Int) < 0)=false:=by simp
 simp only [e,SSd,Nat.reduceAdd];refine rdb ?_;have fin:∀w:Int,w=DK c→Km ω (pt br) (pt q1) (pt q2) (.int .i64 i) (.int .i64 w) (λv=>Gh (K v)) I (rL br V1 m1 ((q2,FI)::(q1,DU c w0 w1 w2 w3)::R)):=by
  intro w hw;obtain ⟨q,off,d,hix,hcl,hd,hcc⟩:=RL.ix hF1.rl (i:=(i:Int)) (by omega) (by omega);rw [AX hi] at hd;obtain rfl:=hd;have hcv:=hcc I V1.XR (Ext.refl _) (λ_ h=>h);unfold Km;try refine O ?_
  refine rdb ?_;simp only [hix,SSd,Nat.reduceAdd];refine rdC (hcv 1 _ rfl) (Ext.refl _) ?_;try refine O ?_
  refine AF (λe2=>?_) (λe2=>?_)
  ·have e2':(recAt m1 c.fTxn).fState=1:=by rw [hat1];simpa using e2
   have hE:=OU hr e2';rw [Qi hs1 hi h1,←hw] at hE;try refine O ?_
   refine rdb ?_;simp only [hix,SSd,Nat.reduceAdd];refine RF14.setR (T0:=[]) (d:=1) (k:=1) (vs:=[.int .i64 w]) (y:=(m1.recs[i].1,⟨w,m1.recs[i].2.fAt⟩)) hF1 hi (by omega) hix rfl rfl (AH rfl) rfl rfl (λV2 hF2=>Gh.done ?_);have hi2:i < (m1.recs.set i (m1.recs[i].1,⟨w,m1.recs[i].2.fAt⟩)).length:=by rw [List.length_set];exact hi
   obtain ⟨q',off',d',hix',hcl',hd',hcc'⟩:=RL.ix hF2.rl (i:=(i:Int)) (by omega) (by show _ < ((m1.recs.set i _).length:Int);rw [List.length_set];omega);refine AZ ?_;try refine O ?_
   refine Ab ?_;try refine O ?_
   refine Cv [.int .i64 c.fAt.fWall,.int .i64 c.fAt.fLogic] rfl rfl ?_;simp only [hix',SSd,Nat.reduceAdd];refine RF14.setR (T0:=[]) (d:=2) (k:=2) (vs:=[.int .i64 c.fAt.fWall,.int .i64 c.fAt.fLogic]) (y:=(c.fTxn,⟨w,c.fAt⟩)) hF2 hi2 (by omega) hix' rfl rfl (AH rfl) (by simp only [List.getElem_set_self];rw [h1];rfl) rfl (λV3 hF3=>?_);simp only [List.set_set] at hF3 ⊢;refine Gh.perm (L':=rL br V3 {m1 with recs:=m1.recs.set i (c.fTxn,⟨w,c.fAt⟩)} ((q2,FI)::(q1,DU c w0 w1 w2 w3)::R)) (AO (by ((try simp only [AJ,AM,AU,AP]);(try ac_rfl)))) (Gh.done (OW (m:={m1 with recs:=m1.recs.set i (c.fTxn,⟨w,c.fAt⟩)}) hF3 (by show i < (m1.recs.set i _).length;rw [List.length_set];exact hi) (by show (m1.recs.set i _).length≤1000;rw [List.length_set];exact hl1) ?_));have:=hk _ _ hE V3 hF3;simp only [List.getElem_set_self];simpa using this
  ·have e2':(recAt m1 c.fTxn).fState≠1:=by rw [hat1];simpa using e2
   refine OW hF1 hi hl1 ?_;rw [←hat1];subst hw;by_cases e3:(recAt m1 c.fTxn).fState=DK c
   ·rw [if_neg (by simpa using e3)];exact hk _ _ (RZ hr e2' e3) V1 hF1
   ·rw [if_pos e3];exact hk _ _ (Ra hr e2' e3) V1 hF1
 cases hy:c.fYes with
 |true=>
  try refine O ?_
  exact fin 2 (by unfold DK;rw [hy];rfl)
 |false=>
  try refine O ?_
  exact fin 3 (by unfold DK;rw [hy];rfl)
end
theorem RcR.one {I:Imm}{x:Int×TRc}{c:List Value}(h:RcR I x c):∀u∈c,u.oneCell'=true:=by
 rw [show c=rcC x from h];exact AH rfl
theorem QB {α:Type}{R:Imm→α→List Value→Prop}{T n bytes:Nat}{z:Array Value}{X L0 F:LH}{I:Imm}{w v:Value}{xs ys:List α}{cells:List Value}{K:Value→M}[hsp:SplitL X L0 F](hz:z.size=n)(hX:SlO T n X w cells xs.length)(hR:Recs (R I) n xs cells)(hE:RL R n I L0 v ys)
  (h1:∀{x:α} {c:List Value},R I x c→∀u∈c,u.oneCell'=true) (hb:(xs.length+ys.length) * bytes≤150000000000000) (hl:xs.length+ys.length≤150000000000000)
  (hk:∀X' v' cells',SlO T n X' v' cells' (xs++ys).length→Recs (R I) n (xs++ys) cells'→Gh (K v') I (X'++F)):App T n bytes z w v (gh K) I L0:=by
 obtain ⟨a,cap,news,rfl,hcap,hn,hR2⟩:=hE;refine Fi (X:=X) hz hX hn (hR2.one_cells (λx c h=>h1 h)) hb hl (λX' v' hX'=>?_);exact hk X' v' _ (by rw [List.length_append];exact hX') (Recs.append hR hR2)
section
variable {ω:Om}{I:Imm}{L:LH}{K:Value→M}{br:Nat}{V:RV}{m:Mch}{R:LH}
theorem Lv {q1 q2 i:Nat}{c:TCmd}{w0 w1 w2 w3:Value}(hF:RF14 I V m)(hi:i < m.recs.length)(hil:m.recs.length≤1000)(hk:K (rv 0 m.recs[i].2.fAt 0 m.recs[i].2.fState) I (rL br V m R)):
  Eh ω (pt br) (pt q2) (.int .i64 i) (λv=>Gh (K v)) I (rL br V m ((q2,FI)::(q1,DU c w0 w1 w2 w3)::R)):=by
 obtain ⟨q,off,d,hix,hcl,hd,hcc⟩:=RL.ix hF.rl (i:=(i:Int)) (by omega) (by omega);rw [AX hi] at hd;generalize m.recs[i]=x at *;obtain rfl:=hd;have hcv:=hcc I V.XR (Ext.refl _) (λ_ h=>h);have hat:Cells I V.XR q (off+2) [.int .i64 x.2.fAt.fWall,.int .i64 x.2.fAt.fLogic]:=by simpa using hcv.sub (k:=2) (m:=2)
 unfold Eh;refine AZ ?_;try refine O ?_
 refine Ab ?_;simp only [hix,SSd,Nat.reduceAdd];refine Av (hcv 1 _ rfl) (Ext.refl _) ?_;try refine O ?_
 refine Ab ?_;simp only [hix,SSd,Nat.reduceAdd];refine Bo hat (Ext.refl _) rfl ?_;try refine O ?_
 refine stB rfl rfl (AH rfl) ?_;refine rdB rfl ?_;exact Gh.to (rL br V m R) (Gh.done hk)
theorem Su {c:TCmd}{cc:List Value}(hF:RF14 I V m)(hs:SrtA ilt m.recs)(hil:m.recs.length≤999)(hc:TCmdV I c cc)(hk:∀r m',Do m c=(r,m')→∀V',RF14 I V' m'→K (rvR r) I (rL br V' m' R)):
  CT ω 116 #[pt br,.agg cc.toArray] K I (rL br V m R):=by
 have hc':=hc;obtain ⟨w0,w1,w2,w3,rfl,g0,g1,g2,g3⟩:=hc;refine AMA ?_;unfold ACf;refine AQ (λq1=>AQ (λq2=>?_));refine rdB rfl ?_;refine call (Cal.perm (L':=rL br V m ((q2,FI)::(q1,DU c w0 w1 w2 w3)::R)) (AO (by ((try simp only [AJ,AM,AU,AP]);(try ac_rfl)))) (MK hF hs hil hc' (λhn=>?_) (λV1 m1 i hi hr hF1 h1 hat1 hs1 hl1=>?_)))
 ·try refine O ?_
  refine stB rfl rfl (AH rfl) ?_;refine rdB rfl ?_;exact Gh.to (rL br V m R) (Gh.done (hk _ _ (Lt hn) V hF))
 have e:decide ((i:Int) < 0)=false:=by simp
 simp only [e,SSd,Nat.reduceAdd];obtain ⟨q,off,d,hix,hcl,hd,hcc⟩:=RL.ix hF1.rl (i:=(i:Int)) (by omega) (by omega);rw [AX hi] at hd;obtain rfl:=hd;have hcv:=hcc I V1.XR (Ext.refl _) (λ_ h=>h);have hat:Cells I V1.XR q (off+2) [.int .i64 m1.recs[i].2.fAt.fWall,.int .i64 m1.recs[i].2.fAt.fLogic]:=by simpa using hcv.sub (k:=2) (m:=2)
 have yes:pushB (recAt m1 c.fTxn) c=true→Kj ω (pt br) (pt q2) (.int .i64 i) (λv=>Gh (K v)) I (rL br V1 m1 ((q2,FI)::(q1,DU c w0 w1 w2 w3)::R)):=by
  intro hp;have hE:=OC hr hp;rw [Qi hs1 hi h1,hat1] at hE;unfold Kj;try refine O ?_
  refine rdb ?_;simp only [hix,SSd,Nat.reduceAdd];refine RF14.setR (T0:=[]) (d:=1) (k:=1) (vs:=[.int .i64 3]) (y:=(c.fTxn,⟨3,m1.recs[i].2.fAt⟩)) hF1 hi (by omega) hix rfl rfl (AH rfl) (by rw [←h1];rfl) rfl (λV2 hF2=>Gh.done ?_);refine Lv (m:={m1 with recs:=m1.recs.set i (c.fTxn,⟨3,m1.recs[i].2.fAt⟩)}) hF2 (by show i < (m1.recs.set i _).length;rw [List.length_set];exact hi) (by show (m1.recs.set i _).length≤1000;rw [List.length_set];exact hl1) ?_;have:=hk _ _ hE V2 hF2;simp only [List.getElem_set_self];exact this
 have no:pushB (recAt m1 c.fTxn) c=false→Eh ω (pt br) (pt q2) (.int .i64 i) (λv=>Gh (K v)) I (rL br V1 m1 ((q2,FI)::(q1,DU c w0 w1 w2 w3)::R)):=by
  intro hp;refine Lv hF1 hi hl1 ?_;have:=hk _ _ (Qq hr hp) V1 hF1;rw [hat1] at this;exact this
 rw [hat1,Lu] at yes no;refine AZ ?_;try refine O ?_
 refine Cv [.int .i64 c.fAt.fWall,.int .i64 c.fAt.fLogic] rfl rfl ?_;try refine O ?_
 refine Ab ?_;simp only [hix,SSd,Nat.reduceAdd];refine Bo hat (Ext.refl _) rfl ?_;refine call (DR (x:=c.fAt) (y:=m1.recs[i].2.fAt) ?_);try refine O ?_
 refine AV (λe1=>?_) (λe1=>?_)
 ·try refine O ?_
  refine AV (λe2=>?_) (λe2=>?_)
  ·try refine O ?_
   refine rdb ?_;try refine O ?_
   refine rdb ?_;try refine O ?_
   refine rdb ?_;simp only [hix,SSd,Nat.reduceAdd];refine rdC (hcv 1 _ rfl) (Ext.refl _) ?_;try refine O ?_
   refine AV (λe3=>?_) (λe3=>?_)
   ·refine AF (λe4=>yes ?_) (λe4=>no ?_)
    ·simp_all
    ·simp_all
   ·exact no (by simp_all)
  ·try refine O ?_
   refine rdb ?_;simp only [hix,SSd,Nat.reduceAdd];refine rdC (hcv 1 _ rfl) (Ext.refl _) ?_;try refine O ?_
   refine AV (λe3=>no ?_) (λe3=>no ?_);all_goals simp_all
 ·try refine O ?_
  refine rdb ?_;simp only [hix,SSd,Nat.reduceAdd];refine rdC (hcv 1 _ rfl) (Ext.refl _) ?_;try refine O ?_
  refine AV (λe3=>yes ?_) (λe3=>no ?_);all_goals simp_all
theorem AKL {m:Mch}{i:Nat}{n:Int}(hs:SrtA ilt m.recs)(hi:i < m.recs.length)(h:m.recs[i].1=n):Hx n m.recs=m.recs.take i++m.recs.drop (i+1):=by
 have hd:m.recs.drop i=m.recs[i]::m.recs.drop (i+1):=List.drop_eq_getElem_cons hi;have hp:=List.pairwise_iff_getElem.1 hs;have h1:∀x∈m.recs.take i,x.1≠n:=λx hx e=>by
  obtain ⟨j,hj,rfl⟩:=List.mem_take_iff_getElem.1 hx;have:=hp j i (by omega) hi (by omega);rw [h,e] at this;simp at this
 have h2:∀x∈m.recs.drop (i+1),x.1≠n:=λx hx e=>by
  obtain ⟨j,hj,rfl⟩:=List.mem_iff_getElem.1 hx;rw [List.getElem_drop] at e;have:=hp i (i+1+j) hi (by rw [List.length_drop] at hj;omega) (by omega);rw [h,e] at this;simp at this
 unfold Hx;conv=>lhs;rw [←List.take_append_drop i m.recs,hd]
 rw [List.filter_append,List.filter_cons,List.filter_eq_self.2 (λx hx=>by simpa using h1 x hx),List.filter_eq_self.2 (λx hx=>by simpa using h2 x hx)];simp [h]
theorem PR {c:TCmd}{cc:List Value}(hF:RF14 I V m)(hs:SrtA ilt m.recs)(hil:m.recs.length≤999)(hc:TCmdV I c cc)(hk:∀r m',FU m c=(r,m')→∀V',RF14 I V' m'→K (rvR r) I (rL br V' m' R)):
  CT ω 117 #[pt br,.agg cc.toArray] K I (rL br V m R):=by
 have hc':=hc;obtain ⟨w0,w1,w2,w3,rfl,g0,g1,g2,g3⟩:=hc;refine ALz ?_;unfold ACd;refine AQ (λq1=>AQ (λq2=>?_));try refine O ?_
 refine rdb ?_;refine call (Cal.perm (L':=rL br V m ((q2,FI)::(q1,DU c w0 w1 w2 w3)::R)) (AO (by ((try simp only [AJ,AM,AU,AP]);(try ac_rfl)))) (Fx hF (by omega) ?_));rcases Ih (n:=c.fTxn) hs with ⟨hn,hp⟩|⟨i,hi,hp,h1,h2⟩
 ·rw [hp];have hst:recAt m c.fTxn=⟨0,z0⟩:=by unfold recAt;rw [hn];rfl
  have hE:FU m c=(okR,m):=by
   unfold FU;rw [hst,if_neg (by simp)];have:Hx c.fTxn m.recs=m.recs:=List.filter_eq_self.2 (λx hx=>by simpa using lkA_none.1 hn x hx);rw [this]
  try refine O ?_
  refine stB rfl rfl (AH rfl) ?_;refine rdB rfl ?_;exact Gh.to (rL br V m R) (Gh.done (hk _ _ hE V hF))
 rw [hp];have e:decide ((i:Int) < 0)=false:=by simp
 have hat:=Id h2;have hdl:=AKL hs hi h1;obtain ⟨q,off,d,hix,hcl,hd,hcc⟩:=RL.ix hF.rl (i:=(i:Int)) (by omega) (by omega);rw [AX hi] at hd;generalize m.recs[i]=x at *;obtain rfl:=hd;have hcv:=hcc I V.XR (Ext.refl _) (λ_ h=>h);simp only [e,SSd,Nat.reduceAdd];refine rdb ?_;simp only [hix,SSd,Nat.reduceAdd];refine rdC (hcv 1 _ rfl) (Ext.refl _) ?_;try refine O ?_
 refine AF (λe2=>?_) (λe2=>?_)
 ·have hE:FU m c=(Ag 142,m):=by unfold FU;rw [hat,if_pos (by simpa using e2)]
  try refine O ?_
  refine stB rfl rfl (AH rfl) ?_;refine rdB rfl ?_;exact Gh.to (rL br V m R) (Gh.done (hk _ _ hE V hF))
 ·have hE:FU m c=(okR,{m with recs:=m.recs.take i++m.recs.drop (i+1)}):=by unfold FU;rw [hat,if_neg (by simpa using e2),hdl]
  try refine O ?_
  refine rdb ?_;obtain ⟨va,ha,hRa⟩:=RL.part (lo:=0) (hi:=i) hF.rl (by omega) (by omega) none (some (.int .i64 i)) rfl (λcap hc=>BI .i64 i _ _ (by omega));obtain ⟨vb,hb,hRb⟩:=RL.part (lo:=i+1) (hi:=m.recs.length) hF.rl (by omega) (Nat.le_refl _) (some (.int .i64 (i+1:Nat))) none (BI .i64 (i+1) _ _ (by omega)) (λcap hc=>rfl);rw [List.drop_zero,Nat.sub_zero] at hRa;rw [List.take_of_length_le (by rw [List.length_drop];omega)] at hRb;have w64:IntKind.i64.wrap ((i:Int)+1)=((i+1:Nat):Int):=by rw [wrap_i64 _ (by omega)];rfl
  simp only [ha,SSd,Nat.reduceAdd];refine QB (R:=RcR) (X:=[]) (hsp:=⟨List.Perm.refl _⟩) (xs:=[]) (ys:=m.recs.take i) rfl (SlO.none _ _) rfl (RL.mono (λ_ _ h=>h) hRa (Ext.refl _) (λz hz=>by simp [hz])) RcR.one (by simp;omega) (by simp;omega) (λX1 v1 cells1 hO1 hR1=>Gh.done ?_);rw [List.nil_append] at hO1 hR1;try refine O ?_
  refine rdb ?_;simp only [w64,hb,SSd,Nat.reduceAdd];refine QB (R:=RcR) (X:=X1) (xs:=m.recs.take i) (ys:=m.recs.drop (i+1)) rfl hO1 hR1 (RL.mono (λ_ _ h=>h) hRb (Ext.refl _) (λz hz=>by simp [hz])) RcR.one (by simp;omega) (by simp;omega) (λX2 v2 cells2 hO2 hR2=>Gh.done ?_);obtain ⟨a2,c2,rfl⟩:=hO2.form;try refine O ?_
  refine st1 rfl ?_;refine stB rfl rfl (AH rfl) ?_;refine rdB rfl ?_;exact Gh.to (rL br {V with vR:=.slice a2 _ c2,cR:=cells2,XR:=X2} {m with recs:=m.recs.take i++m.recs.drop (i+1)} R) (Gh.done (hk _ _ hE {V with vR:=.slice a2 _ c2,cR:=cells2,XR:=X2} {hF with rc:=hO2,rcR:=hR2}))
end
abbrev Cq (a:TStamp):Obj:=.cells #[.int .i64 a.fWall,.int .i64 a.fLogic] 41 (0,0)
abbrev mkC (v:Value)(k:TMk):List Value:=[v,.int .i64 k.fAt.fWall,.int .i64 k.fAt.fLogic,.int .i64 k.fBy]
section
variable {ω:Om}{I:Imm}{L:LH}{K:Value→M}{br:Nat}{V:RV}{m:Mch}{R:LH}
theorem RF14.setM {br i off b:Nat}{k:List UInt8}{u:TMk}{v:Value}{T0 L0:LH}(hF:RF14 I V m)(hi:i < m.marks.length)(hp:ixV 4 V.vM (.int .i64 i)=some (.pointer (some ⟨b,off,none⟩)))(hv:Bytes I v k)(hL:L0=T0++rL br V m R)
  (hk:∀V',RF14 I V' {m with marks:=m.marks.set i (k,u)}→Gh (K undef) I (T0++rL br V' {m with marks:=m.marks.set i (k,u)} R)):Sto 4 (.pointer (some ⟨b,off,none⟩)) (.agg (mkC v u).toArray) (gh K) I L0:=by
 subst hL;have hsp:SplitL V.XM (T0++rL br V m R) (T0++((br,Lr V.vF V.vT V.bs V.vM m.low V.vR V.vS m.oldest)::(V.bs,BC V.vV V.vI m.sp.floor)::(V.XR++R))):=inferInstance;have h1:MkR I (k,u) (mkC v u):=⟨v,rfl,hv⟩;refine SlO.sto (hsp:=hsp) (d:=0) (vs:=mkC v u) hF.mkO hi (by omega) hp rfl rfl h1.one (λX' hX'=>?_);refine Gh.perm (L':=T0++rL br {V with XM:=X',cM:=V.cM.take (i * 4+0)++mkC v u++V.cM.drop (i * 4+0+4)} {m with marks:=m.marks.set i (k,u)} R) (AO (by ((try simp only [AJ,AM,AU,AP]);(try ac_rfl)))) (hk _ {hF with mkO:=?_,mkR:=?_})
 ·show SlO _ 4 X' V.vM _ (m.marks.set i (k,u)).length;rw [List.length_set];exact hX'
 ·refine Recs.upd (k:=4) rfl (by omega) hF.mkR (List.getElem?_eq_getElem hi) (λc hc hR=>?_);have e:c.take 0++mkC v u++c.drop (0+4)=mkC v u:=by
   rw [List.take_zero,List.nil_append,List.drop_of_length_le (by omega),List.append_nil]
  rw [e];exact h1
abbrev Jq (q1 q9:Nat)(a:TStamp)(v:Value)(u:TMk)(XO Z:LH):LH:=(q9,.cells (mkC v u).toArray 84 (0,0))::(q1,Cq a)::(XO++Z)
theorem Qz {q1:Nat}{a0:_}{c0:Nat}{k:List UInt8}{a:TStamp}{n:Int}(hF:RF14 I V m)(hs:SrtA blt m.marks)(hil:m.marks.length≤1000)(hB:Bytes I (.slice a0 k.length c0) k)(hno:lkA m.marks k=none)
  (hk:∀V',RF14 I V' {m with marks:=Am blt k (An mk0 a n) m.marks}→K (.tuple #[]) I (rL br V' {m with marks:=Am blt k (An mk0 a n) m.marks} R)):
  PC ω (pt br) (.slice a0 k.length c0) (.int .i64 n) (pt q1) (λv=>Gh (K v)) I ((q1,Cq a)::rL br V m R):=by
 have hS:=hF.mkl;have hins:EW blt k (An mk0 a n) false m.marks=Am blt k (An mk0 a n) m.marks:=Ij bltO hs;have hno':=lkA_none.1 hno;unfold PC;try refine O ?_
 refine rdB rfl ?_;refine call (DC (k:=mk0) (a:=a) (n:=n) ?_);generalize An mk0 a n=u at *;try refine O ?_
 refine AQ (λq9=>?_);refine stB rfl rfl (AH rfl) ?_;have hx:MkR I (k,u) (mkC (.slice a0 k.length c0) u):=⟨_,rfl,hB⟩;have end20:∀(XO:LH) (v:Value) (cells:List Value) (acc:List (List UInt8×TMk)),SlO 84 4 XO v cells acc.length→Recs (MkR I) 4 acc cells→acc=Am blt k u m.marks→KT ω (pt br) v (λv=>Gh (K v)) I (Jq q1 q9 a (.slice a0 k.length c0) u XO (rL br V m R)):=by
  intro XO v cells acc hO hR he;subst he;obtain ⟨oa,oc,rfl⟩:=hO.form;unfold KT;try refine O ?_
  refine st1 rfl ?_;exact Gh.to (rL br {V with vM:=.slice oa (Am blt k u m.marks).length oc,cM:=cells,XM:=XO} {m with marks:=Am blt k u m.marks} R) (Gh.done (hk _ {hF with mkO:=hO,mkR:=hR}))
 refine loop (λn s I' L'=>I'=I∧∃(i:Nat) (d:Bool) (XO:LH) (v:Value) (acc:List (List UInt8×TMk)) (cells:List Value),n+i=m.marks.length∧s=(v,.bool d,.int .i64 i,())∧L'=Jq q1 q9 a (.slice a0 k.length c0) u XO (rL br V m R)∧SlO 84 4 XO v cells acc.length∧Recs (MkR I) 4 acc cells∧acc.length≤2 * i∧
   acc++EW blt k u d (m.marks.drop i)=Am blt k u m.marks) m.marks.length ⟨rfl,0,false,[],_,[],[],rfl,rfl,rfl,SlO.none _ _,rfl,by simp,hins⟩ ?_
 rintro n s I' L' ⟨rfl,i,d,XO,v,acc,cells,hni,rfl,rfl,hO,hR,hal,hA⟩;unfold UK;try refine O ?_
 refine rdb ?_;simp only [RL.len hS,SSd,Nat.reduceAdd];refine AF (λe1=>?_) (λe1=>?_)
 ·have hi:i < m.marks.length:=by simpa using e1
  have hd:m.marks.drop i=m.marks[i]::m.marks.drop (i+1):=List.drop_eq_getElem_cons hi;have hne:m.marks[i].1≠k:=hno' _ (List.getElem_mem hi);rw [hd,EW,if_neg hne] at hA;obtain ⟨q,off,dd,hix,hcl,hdd,hcc⟩:=RL.ix hS (i:=(i:Int)) (by omega) (by omega);rw [AX hi] at hdd;generalize m.marks[i]=y at *;have hdd':=hdd;obtain ⟨w,rfl,hw⟩:=hdd;have hcv:=hcc I' V.XM (Ext.refl _) (λ_ h=>h);have three:∀(XO:LH) (v:Value) (cells:List Value) (acc:List (List UInt8×TMk)) (d:Bool),SlO 84 4 XO v cells acc.length→Recs (MkR I') 4 acc cells→acc.length≤2 * i+1→acc++([y]++EW blt k u d (m.marks.drop (i+1)))=Am blt k u m.marks→
    IV ω (pt br) v (.bool d) (.int .i64 i) (λs'=>Gh λI2 L2=>∃m',m' < n∧I2=I'∧∃(i:Nat) (d:Bool) (XO:LH) (v:Value) (acc:List (List UInt8×TMk)) (cells:List Value),m'+i=m.marks.length∧s'=(v,.bool d,.int .i64 i,())∧L2=Jq q1 q9 a (.slice a0 k.length c0) u XO (rL br V m R)∧SlO 84 4 XO v cells acc.length∧Recs (MkR I') 4 acc cells∧acc.length≤2 * i∧
   acc++EW blt k u d (m.marks.drop i)=Am blt k u m.marks) (λv=>Gh (K v)) I' (Jq q1 q9 a (.slice a0 k.length c0) u XO (rL br V m R)):=by
   intro XO v cells acc d hO hR hal hA;unfold IV;try refine O ?_
   refine rdb ?_;simp only [hix,SSd,Nat.reduceAdd];refine FT hcv (Ext.refl _) rfl ?_;refine DD (R:=MkR) (X6:=XO) (x:=y) rfl (by omega) hO hR hdd' rfl hdd'.one (by omega) (by omega) (λX1 X6 v6 cells6 h6 hR6=>?_);try refine O ?_
   rw [wrap_i64 _ (by omega)];exact Gh.to (Jq q1 q9 a (.slice a0 k.length c0) u X6 (rL br V m R)) (Gh.done ⟨n - 1,by omega,rfl,i+1,d,X6,v6,_,cells6,by omega,rfl,rfl,h6,hR6,by simp;omega,by rw [List.append_assoc];exact hA⟩)
  refine AZ ?_;try refine O ?_
  cases d with
  |true=>
   rw [if_neg (by simp),List.nil_append,Bool.true_or] at hA;simp only [Bool.not_true,SSd,Nat.reduceAdd];exact three XO v cells acc true hO hR (by omega) hA
  |false=>
   simp only [Bool.not_false,SSd,Nat.reduceAdd];refine Ab ?_;simp only [hix,SSd,Nat.reduceAdd];refine Av (hcv 0 _ rfl) (Ext.refl _) ?_;refine Bd hw (Ext.refl _) ?_;refine Bd hB (Ext.refl _) ?_;simp only [sGt,SSd,Nat.reduceAdd];refine AF (λe2=>?_) (λe2=>?_)
   ·have hlt:blt y.1 k=false:=by simp at e2;exact e2.1
    rw [if_pos ⟨rfl,hlt⟩,hlt] at hA;unfold UJ;refine rdB rfl ?_;refine Ct (R:=MkR) (X6:=XO) (x:=(k,u)) rfl (by omega) hO hR hx rfl hx.one (by omega) (by omega) (λX1 X6 v6 cells6 h6 hR6=>?_);refine Gh.to (Jq q1 q9 a (.slice a0 k.length c0) u X6 (rL br V m R)) (Gh.done (three X6 v6 cells6 _ true h6 hR6 (by simp;omega) ?_));rw [List.append_assoc];exact hA
   ·have hlt:blt y.1 k=true:=by
     cases h:blt y.1 k with
     |true=>rfl
     |false=>rw [h] at e2;simp at e2;exact absurd e2 hne
    rw [if_neg (by simp [hlt]),List.nil_append,hlt] at hA;exact three XO v cells acc false hO hR (by omega) hA
 ·have hi:i=m.marks.length:=by simp at e1;omega
  subst hi;rw [List.drop_length,EW] at hA;unfold UI;try refine O ?_
  cases d with
  |true=>
   simp only [Bool.not_true,SSd,Nat.reduceAdd];exact end20 XO v cells acc hO hR (by simpa using hA)
  |false=>
   simp only [Bool.not_false,SSd,Nat.reduceAdd];refine rdB rfl ?_;refine Ct (R:=MkR) (X6:=XO) (x:=(k,u)) rfl (by omega) hO hR hx rfl hx.one (by omega) (by omega) (λX1 X6 v6 cells6 h6 hR6=>?_);exact Gh.to (Jq q1 q9 a (.slice a0 k.length c0) u X6 (rL br V m R)) (Gh.done (end20 X6 v6 cells6 _ h6 hR6 (by simpa using hA)))
theorem TN {q1:Nat}{a0:_}{c0:Nat}{k:List UInt8}{a:TStamp}{n:Int}(hF:RF14 I V m)(hm:m.marks=[])(hB:Bytes I (.slice a0 k.length c0) k)
  (hk:∀V',RF14 I V' {m with marks:=[(k,An mk0 a n)]}→K (.tuple #[]) I (rL br V' {m with marks:=[(k,An mk0 a n)]} R)):
  Sj ω (pt br) (.slice a0 k.length c0) (.int .i64 n) (pt q1) (λv=>Gh (K v)) I ((q1,Cq a)::rL br V m R):=by
 have hS:=hF.mkl;rw [hm] at hS;unfold Sj;try refine O ?_
 refine rdB rfl ?_;refine call (DC (k:=mk0) (a:=a) (n:=n) ?_);generalize An mk0 a n=u at *;try refine O ?_
 refine AQ (λq9=>?_);refine stB rfl rfl (AH rfl) ?_;have hx:MkR I (k,u) (mkC (.slice a0 k.length c0) u):=⟨_,rfl,hB⟩;refine loop (λn s I' L'=>I'=I∧s=(.slice none 0 0,.bool false,.int .i64 0,())∧L'=Jq q1 q9 a (.slice a0 k.length c0) u [] (rL br V m R)) 0 ⟨rfl,rfl,rfl⟩ ?_;rintro n s I' L' ⟨rfl,rfl,rfl⟩;unfold Yr;try refine O ?_
 refine rdb ?_;simp only [RL.len hS,List.length_nil,SSd,Nat.reduceAdd];have e0:decide ((0:Int) < ((0:Nat):Int))=false:=by decide
 simp only [e0,SSd,Nat.reduceAdd];unfold UL;simp only [Bool.not_false,SSd,Nat.reduceAdd];refine rdB rfl ?_;refine Ct (R:=MkR) (X6:=[]) (xs:=[]) (x:=(k,u)) rfl (by omega) (SlO.none _ _) rfl hx rfl hx.one (by simp) (by simp) (λX1 X6 v6 cells6 h6 hR6=>Gh.done ?_);obtain ⟨oa,oc,rfl⟩:=h6.form;unfold PD;try refine O ?_
 refine st1 rfl ?_;exact Gh.to (rL br {V with vM:=.slice oa _ oc,cM:=cells6,XM:=X6} {m with marks:=[(k,u)]} R) (Gh.done (hk _ {hF with mkO:=h6,mkR:=hR6}))
theorem TP (low:TMk)(l:AL (List UInt8) TMk)(q:List UInt8×TMk):BK low (l++[q])=An (BK low l) q.2.fAt q.2.fBy:=by
 unfold BK;rw [List.foldl_append];rfl
theorem Sx {kv:Value}{k:List UInt8}{a:TStamp}{n:Int}(hF:RF14 I V m)(hs:SrtA blt m.marks)(hil:m.marks.length≤1000)(hB:Bytes I kv k)
  (hk:∀V',RF14 I V' (Cb m k a n)→K (.tuple #[]) I (rL br V' (Cb m k a n) R)):
  CT ω 48 #[pt br,kv,sv a,.int .i64 n] K I (rL br V m R):=by
 obtain ⟨a0,c0,rfl⟩:=Bytes.form hB;have hS:=hF.mkl;refine ANY ?_;unfold AJf;refine AQ (λq1=>?_);refine loop (λj s I' L'=>I'=I∧L'=(q1,Cq a)::rL br V m R∧∃i:Nat,j+i=m.marks.length∧s=(.int .i64 i,())∧∀x∈m.marks.take i,x.1≠k) m.marks.length ⟨rfl,rfl,0,rfl,rfl,by simp⟩ ?_;rintro j s I' L' ⟨rfl,rfl,i,hni,rfl,hno⟩;unfold Yv;try refine O ?_
 refine rdb ?_;simp only [RL.len hS,SSd,Nat.reduceAdd];refine AF (λe=>?_) (λe=>?_)
 ·have hi:i < m.marks.length:=by simpa using e
  obtain ⟨q,off,d,hix,hcl,hd,hcc⟩:=RL.ix hS (i:=(i:Int)) (by omega) (by omega);rw [AX hi] at hd;have hlk:=MJ (k:=k) hi hno;have hsn:=take_snoc hi;have hset:∀u,m.marks[i].1=k→Am blt k u m.marks=m.marks.set i (k,u):=λu h=>MQ bltO hs (λq hq=>by rw [List.getElem?_eq_getElem hi,Option.some.injEq] at hq;rw [←hq];exact h) hi;generalize m.marks[i]=y at *;obtain ⟨w,rfl,hw⟩:=hd;obtain ⟨wa,wc,rfl⟩:=Bytes.form hw;have hcv:=hcc I' V.XM (Ext.refl _) (λ_ h=>h);refine AZ ?_;try refine O ?_
  refine Ab ?_;simp only [hix,SSd,Nat.reduceAdd];refine Av (hcv 0 _ rfl) (Ext.refl _) ?_;refine Bd hw (Ext.refl _) ?_;refine Bd hB (Ext.refl _) ?_;simp only [sEq,SSd,Nat.reduceAdd];refine AF (λe2=>?_) (λe2=>?_)
  ·have e2':y.1=k:=by simpa using e2
   have hM:Cb m k a n={m with marks:=m.marks.set i (k,An y.2 a n)}:=by
    have hr:room m k=m:=by unfold room Ed;rw [hlk e2'];rfl
    unfold Cb;rw [hr,hlk e2',Option.getD_some,hset _ e2']
   rw [hM] at hk;refine AZ ?_;try refine O ?_
   refine Ab ?_;try refine O ?_
   refine Ab ?_;simp only [hix,SSd,Nat.reduceAdd];refine Bo hcv (Ext.refl _) rfl ?_;refine Ck rfl ?_;refine call (DC (k:=y.2) (a:=a) (n:=n) ?_);refine Bt (Ext.refl _) ?_;refine RF14.setM (T0:=[(q1,Cq a)]) (k:=k) (u:=An y.2 a n) hF hi hix (by have h9:=hw;rw [e2'] at h9 ⊢;exact h9) rfl (λV' hF'=>?_);exact Gh.to (rL br V' {m with marks:=m.marks.set i (k,An y.2 a n)} R) (Gh.done (Gh.done (hk V' hF')))
  ·have e2':y.1≠k:=by simpa using e2
   try refine O ?_
   rw [wrap_i64 _ (by omega)];refine Gh.done ⟨j - 1,by omega,rfl,rfl,i+1,by omega,rfl,λz hz=>?_⟩;rw [hsn] at hz;rcases List.mem_append.1 hz with hz|hz
   ·exact hno z hz
   ·simp only [List.mem_singleton] at hz;subst hz;exact e2'
 ·have hi:i=m.marks.length:=by simp at e;omega
  rw [hi,List.take_length] at hno;have hx:lkA m.marks k=none:=lkA_none.2 hno;unfold Yu;try refine O ?_
  refine rdb ?_;simp only [RL.len hS,SSd,Nat.reduceAdd];refine AF (λe3=>?_) (λe3=>?_)
  ·have h32:m.marks.length=32:=by simp at e3;omega
   have hM:Cb m k a n={m with marks:=[(k,An mk0 a n)],low:=BK m.low m.marks}:=by
    have hr:room m k={m with marks:=[],low:=BK m.low m.marks}:=by unfold room Ed;rw [hx,h32];rfl
    unfold Cb;rw [hr];rfl
   rw [hM] at hk;refine loop (λj s I2 L2=>I2=I'∧∃i:Nat,j+i=m.marks.length∧s=(.int .i64 i,())∧L2=(q1,Cq a)::rL br V {m with low:=BK m.low (m.marks.take i)} R) m.marks.length ⟨rfl,0,rfl,rfl,rfl⟩ ?_;rintro j s I2 L2 ⟨rfl,i,hni,rfl,rfl⟩;unfold Yt;try refine O ?_
   refine rdb ?_;simp only [RL.len hS,SSd,Nat.reduceAdd];refine AF (λe4=>?_) (λe4=>?_)
   ·have hi:i < m.marks.length:=by simpa using e4
    obtain ⟨q,off,d,hix,hcl,hd,hcc⟩:=RL.ix hS (i:=(i:Int)) (by omega) (by omega);rw [AX hi] at hd;have hsn:=take_snoc hi;generalize m.marks[i]=y at *;obtain ⟨w,rfl,hw⟩:=hd;have hcv:=hcc I2 V.XM (Ext.refl _) (λ_ h=>h);have hat:Cells I2 V.XM q (off+1) [.int .i64 y.2.fAt.fWall,.int .i64 y.2.fAt.fLogic]:=by simpa using hcv.sub (k:=1) (m:=2)
    refine AZ ?_;try refine O ?_
    refine Cv (mkC (.slice none 0 0) (BK m.low (m.marks.take i))) rfl rfl ?_;try refine O ?_
    refine Ab ?_;simp only [hix,SSd,Nat.reduceAdd];refine Bo hat (Ext.refl _) rfl ?_;try refine O ?_
    refine Ab ?_;simp only [hix,SSd,Nat.reduceAdd];refine Av (hcv 3 _ rfl) (Ext.refl _) ?_;refine call (DC (k:=BK m.low (m.marks.take i)) (a:=y.2.fAt) (n:=y.2.fBy) ?_);rw [←TP,←hsn];try refine O ?_
    refine stP _ rfl rfl rfl rfl ?_;try refine O ?_
    rw [wrap_i64 _ (by omega)];exact Gh.done ⟨j - 1,by omega,rfl,i+1,by omega,rfl,rfl⟩
   ·have hi:i=m.marks.length:=by simp at e4;omega
    rw [hi,List.take_length];unfold Ys;try refine O ?_
    refine Yd rfl ?_;refine Gh.to ((q1,Cq a)::(br,Lr V.vF V.vT V.bs (.slice none 0 0) (BK m.low m.marks) V.vR V.vS m.oldest)::(V.bs,BC V.vV V.vI m.sp.floor)::(V.XR++R)) (Gh.done ?_);exact TN (V:={V with vM:=.slice none 0 0,cM:=[],XM:=[]}) (m:={m with marks:=[],low:=BK m.low m.marks}) {hF with mkO:=SlO.none _ _,mkR:=rfl} rfl hB (λV' hF'=>hk V' hF')
  ·have h32:¬m.marks.length=32:=by simp at e3;omega
   have hM:Cb m k a n={m with marks:=Am blt k (An mk0 a n) m.marks}:=by
    have hr:room m k=m:=by unfold room Ed;rw [hx,if_neg (by simp [h32])]
    unfold Cb;rw [hr,hx];rfl
   rw [hM] at hk;exact Qz hF hs hil hB hx hk
end
section
variable {ω:Om}{I:Imm}{L:LH}{K:Value→M}{br:Nat}{V:RV}{m:Mch}{R:LH}
def PostR (K:Value→M)(br:Nat)(R:LH)(I:Imm)(x:TRes×Mch):Prop:=∀I' V' cells,Ext I I'→RF14 I' V' x.2→TResV I' x.1 cells→K (.agg cells.toArray) I' (rL br V' x.2 R)
theorem PostR.at {x:TRes×Mch}{e:Int}{a:TStamp}{n s:Int}{m':Mch}(h:PostR K br R I x)(hx:x=(⟨e,BE,[],a,n,s⟩,m')){I':Imm}{V':RV}(hI:Ext I I')(hF:RF14 I' V' m'):K (rv e a n s) I' (rL br V' m' R):=by
 subst hx;exact h I' V' _ hI hF (Cm ..)
theorem ADi {sp:Sp}(h:SpOk sp)(x:TIntent):Aa (CI sp x).rows=Aa sp.rows:=by
 unfold CI;split
 ·rfl
 ·have hs:=h.rise;obtain ⟨rows,fl⟩:=sp;rcases place x.fKey hs with ⟨A,r,B,e,hkr,hm⟩|⟨A,B,e,hm⟩
  ·simp only at e;subst e
   simp only [Eo hkr hm,DZ,BB,hkr]
  ·simp only at e;subst e
   simp only [Ep hm,DZ,BB];simp
theorem Nx (sp:Sp)(x:TIntent):(CI sp x).floor=sp.floor:=by unfold CI;split <;> rfl
theorem RF14.ref {b:Nat}(hF:RF14 I V m)(hm:(V.bs,BC V.vV V.vI m.sp.floor)∈L):RefF I L V.bs V.vV V.vI (Aa m.sp.rows) (intsOf m.sp.rows) m.sp.floor:=ADd hm hF.vs hF.is
abbrev Af (q1 q2:Nat)(c:TCmd)(w0 w1 w2 w3:Value)(Z:LH):LH:=(q2,FI)::(q1,DU c w0 w1 w2 w3)::Z
theorem Lh {q1 q2 q7:Nat}{c:TCmd}{w0 w1 w2 w3:Value}{x:TIntent}{T0:LH}(hF:RF14 I V {m with sp:=CI m.sp x,nt:=EM m.sp x m.nt})(hsn:SrtA ilt m.seen)(hsl:m.seen.length≤1000)(hc:TCmdV I c [.int .i64 c.fKind,.int .i64 c.fTxn,.int .i64 c.fSeq,.int .i64 c.fAt.fWall,.int .i64 c.fAt.fLogic,.int .i64 c.fTo.fWall,.int .i64 c.fTo.fLogic,.int .i64 c.fBy,.bool c.fYes,.bool c.fDel,w0,w1,w2,w3,.int .i64 c.fMost])
  (hk:PostR K br R I (⟨(At m.sp x).2.2,BE,[],(At m.sp x).1,(At m.sp x).2.1,0⟩,if (At m.sp x).2.2=0 then Bw {m with sp:=CI m.sp x,nt:=EM m.sp x m.nt} c 0 (At m.sp x).1 else {m with sp:=CI m.sp x,nt:=EM m.sp x m.nt})):
  Kp ω (pt br) (pt q1) (pt q2) (pt q7) (.int .i64 (At m.sp x).2.1) (.int .i64 (At m.sp x).2.2) (λv=>Gh (K v)) I ((q7,Cq (At m.sp x).1)::rL br V {m with sp:=CI m.sp x,nt:=EM m.sp x m.nt} (Af q1 q2 c w0 w1 w2 w3 (T0++R))):=by
 generalize (At m.sp x).1=a at *;generalize (At m.sp x).2.1=by' at *;generalize (At m.sp x).2.2=cd at *;unfold Kp;refine rdB rfl ?_;try refine O ?_
 refine AQ (λq8=>?_);refine stB rfl rfl (AH rfl) ?_;try refine O ?_
 refine AF (λe=>?_) (λe=>?_)
 ·have e':cd=0:=by simpa using e
  subst e';rw [if_pos rfl] at hk;refine rdB rfl ?_;refine rdB rfl ?_;refine call (Cal.to (rL br V {m with sp:=CI m.sp x,nt:=EM m.sp x m.nt} ((q8,roO 0 a by' 0)::Af q1 q2 c w0 w1 w2 w3 (T0++R))) (HI (m:={m with sp:=CI m.sp x,nt:=EM m.sp x m.nt}) (e:=0) (a:=a) (b':=by') (st':=0) hF hsn hsl hc (λI9 V9 hI9 hF9=>?_)));unfold Ko;refine rdB rfl ?_;refine stB rfl rfl (AH rfl) ?_;refine rdB rfl ?_;exact Gh.to (rL br V9 _ R) (Gh.done (hk.at rfl hI9 hF9))
 ·have e':cd≠0:=by simpa using e
  rw [if_neg e'] at hk;unfold Ko;refine rdB rfl ?_;refine stB rfl rfl (AH rfl) ?_;refine rdB rfl ?_;exact Gh.to (rL br V _ R) (Gh.done (hk.at rfl (Ext.refl _) hF))
theorem Ss {q1 q2 q6:Nat}{c:TCmd}{w0 w1 w2 w3:Value}{w:TStamp}{e:Int}{T0:LH}(hF:RF14 I V m)(hok:SpOk m.sp)(hrl:m.sp.rows.length≤100000000)(hvl:Ac m.sp.rows≤100000000)(hsn:SrtA ilt m.seen)(hsl:m.seen.length≤1000)(g0:Bytes I w0 c.fKey)(g1:Bytes I w1 c.fValue)(g2:Bytes I w2 c.fSpan.fFrom)(g3:Bytes I w3 c.fSpan.fTo)
  (hk1:e≠0→PostR K br R I (Ag e,m))
  (hk:e=0→PostR K br R I (⟨(At m.sp (Ak c w)).2.2,BE,[],(At m.sp (Ak c w)).1,(At m.sp (Ak c w)).2.1,0⟩,if (At m.sp (Ak c w)).2.2=0 then Bw {m with sp:=CI m.sp (Ak c w),nt:=EM m.sp (Ak c w) m.nt} c 0 (At m.sp (Ak c w)).1 else {m with sp:=CI m.sp (Ak c w),nt:=EM m.sp (Ak c w) m.nt})):
  Ia ω (pt br) (pt q1) (pt q2) (pt q6) (.int .i64 e) (λv=>Gh (K v)) I ((q6,Cq w)::rL br V m (Af q1 q2 c w0 w1 w2 w3 (T0++R))):=by
 unfold Ia;try refine O ?_
 refine AF (λe1=>?_) (λe1=>?_)
 ·have hk1:=hk1 (by simpa using e1);try refine O ?_
  refine stB rfl rfl (AH rfl) ?_;refine rdB rfl ?_;exact Gh.to (rL br V m R) (Gh.done (hk1.at rfl (Ext.refl _) hF))
 ·have hk:=hk (by simpa using e1);have hx:TIntentV I (Ak c w) [w0,.int .i64 c.fTxn,.int .i64 w.fWall,.int .i64 w.fLogic,.bool c.fDel,w1]:=⟨w0,w1,rfl,g0,g1⟩;obtain ⟨b0,d0,rfl⟩:=Bytes.form g0;obtain ⟨b1,d1,rfl⟩:=Bytes.form g1;refine AMp V.bs ?_;try refine O ?_
  refine Ab ?_;try refine O ?_
  refine Ab ?_;try refine O ?_
  refine Ab ?_;refine Ck rfl ?_;try refine O ?_
  refine Ab ?_;try refine O ?_
  refine Ab ?_;try refine O ?_
  have fin:∀I' vI',Ext I I'→RL TIntentV 6 I' [] vI' (intsOf (CI m.sp (Ak c w)).rows)→RF14 I' {V with vI:=vI'} {m with sp:=CI m.sp (Ak c w),nt:=EM m.sp (Ak c w) m.nt}:=λI' vI' hI h=>
   {hF.mono hI with vs:=by show RL TVersionV 5 I' [] V.vV (Aa (CI m.sp (Ak c w)).rows);rw [ADi hok];exact (hF.mono hI).vs,is:=h}
  refine ⟨?_,?_⟩
  ·refine call (Cal.pick V.bs (Nr (x:=Ak c w) hF.vs hF.is hok hrl hvl hx (λI2 vI2 hI2 h2=>?_)));try refine O ?_
   refine AQ (λq7=>?_);refine Bt hI2 ?_;refine Yc rfl rfl (AH rfl) ?_;refine Gh.perm (L':=(q7,Cq (At m.sp (Ak c w)).1)::rL br {V with vI:=vI2} {m with sp:=CI m.sp (Ak c w),nt:=EM m.sp (Ak c w) m.nt} (Af q1 q2 c (.slice b0 c.fKey.length d0) (.slice b1 c.fValue.length d1) w2 w3 (((q6,Cq w)::T0)++R))) (AO (by simp only [rL,Nx];((try simp only [AJ,AM,AU,AP]);(try ac_rfl)))) (Gh.done ?_);exact Lh (x:=Ak c w) (T0:=(q6,Cq w)::T0) (fin _ _ hI2 h2) hsn hsl ⟨_,_,_,_,rfl,g0.mono hI2,g1.mono hI2,g2.mono hI2,g3.mono hI2⟩ (λI' V' cells hI hF hT=>hk I' V' cells (hI2.trans hI) hF hT)
  ·refine AQ (λq7=>?_);refine Bt (Ext.refl _) ?_;refine Bu (Cal.pick V.bs (Nr (x:=Ak c w) hF.vs hF.is hok hrl hvl hx (λI2 vI2 hI2 h2=>Gh.done ?_)));try refine O ?_
   refine Yc rfl rfl (AH rfl) ?_;refine Gh.perm (L':=(q7,Cq (At m.sp (Ak c w)).1)::rL br {V with vI:=vI2} {m with sp:=CI m.sp (Ak c w),nt:=EM m.sp (Ak c w) m.nt} (Af q1 q2 c (.slice b0 c.fKey.length d0) (.slice b1 c.fValue.length d1) w2 w3 (((q6,Cq w)::T0)++R))) (AO (by simp only [rL,Nx];((try simp only [AJ,AM,AU,AP]);(try ac_rfl)))) (Gh.done ?_);exact Lh (x:=Ak c w) (T0:=(q6,Cq w)::T0) (fin _ _ hI2 h2) hsn hsl ⟨_,_,_,_,rfl,g0.mono hI2,g1.mono hI2,g2.mono hI2,g3.mono hI2⟩ (λI' V' cells hI hF hT=>hk I' V' cells (hI2.trans hI) hF hT)
theorem Qc {c:TCmd}{cc:List Value}{N:Nat}(hF:RF14 I V m)(hM:MOk m N)(hN:N≤10000)(hc:TCmdV I c cc)(hk:PostR K br R I (Bm m c)):
  CT ω 112 #[pt br,.agg cc.toArray] K I (rL br V m R):=by
 have hsq:=GS hN;have hrw:=hM.rows;have hvs:=hM.vers;have hml:=hM.marksL;have hsl:=hM.seenL;have hmS:=hM.marks;have hS:=hF.mkl;have hc':=hc;obtain ⟨w0,w1,w2,w3,rfl,g0,g1,g2,g3⟩:=hc;refine AME ?_;unfold ACn;refine AQ (λq1=>AQ (λq2=>?_));refine AZ ?_;try refine O ?_
 refine Cv [V.vF,V.vT] rfl rfl ?_;try refine O ?_
 refine Ab ?_;refine call (FA (p:=m.span) ⟨_,_,rfl,hF.f0,hF.f1⟩ g0 ?_);try refine O ?_
 refine AF (λe=>?_) (λe=>?_)
 ·have hE:Bm m c=(Ag 141,m):=by unfold Bm;rw [if_pos (by simpa using e)]
  try refine O ?_
  refine stB rfl rfl (AH rfl) ?_;refine rdB rfl ?_;exact Gh.to (rL br V m R) (Gh.done (hk.at hE (Ext.refl _) hF))
 have hin:¬inB m.span c.fKey=false:=by simpa using e
 refine rdB rfl ?_;refine call (Cal.perm (L':=rL br V m (Af q1 q2 c w0 w1 w2 w3 R)) (AO (by ((try simp only [AJ,AM,AU,AP]);(try ac_rfl)))) (Hl hF hM.seen (by omega) hc' (λe a ha=>?_) (λha=>?_)))
 ·have hE:Bm m c=(⟨e,BE,[],a,0,0⟩,m):=by unfold Bm;rw [if_neg hin,ha]
  try refine O ?_
  refine AQ (λq3=>?_);refine stB rfl rfl (AH rfl) ?_;try refine O ?_
  refine rdB rfl ?_;refine stB rfl rfl (AH rfl) ?_;refine rdB rfl ?_;exact Gh.to (rL br V m R) (Gh.done (hk.at hE (Ext.refl _) hF))
 have hE:Bm m c=if (Ar m c).2≠0 then (Ag (Ar m c).2,m) else if (Ad m.low (Ar m c).1 c.fTxn).2≠0 then (Ag (Ad m.low (Ar m c).1 c.fTxn).2,m) else
   (⟨(At m.sp (Ak c (Ad m.low (Ar m c).1 c.fTxn).1)).2.2,BE,[],(At m.sp (Ak c (Ad m.low (Ar m c).1 c.fTxn).1)).1,(At m.sp (Ak c (Ad m.low (Ar m c).1 c.fTxn).1)).2.1,0⟩,if (At m.sp (Ak c (Ad m.low (Ar m c).1 c.fTxn).1)).2.2=0 then Bw {m with sp:=CI m.sp (Ak c (Ad m.low (Ar m c).1 c.fTxn).1),nt:=EM m.sp (Ak c (Ad m.low (Ar m c).1 c.fTxn).1) m.nt} c 0 (At m.sp (Ak c (Ad m.low (Ar m c).1 c.fTxn).1)).1 else {m with sp:=CI m.sp (Ak c (Ad m.low (Ar m c).1 c.fTxn).1),nt:=EM m.sp (Ak c (Ad m.low (Ar m c).1 c.fTxn).1) m.nt}):=by
  unfold Bm;rw [if_neg hin,ha]
 rw [hE] at hk;try refine O ?_
 refine AQ (λq3=>?_);refine stB rfl rfl (AH rfl) ?_;try refine O ?_
 refine rdP [.int .i64 c.fAt.fWall,.int .i64 c.fAt.fLogic] rfl rfl ?_;refine AQ (λq5=>?_);refine stB rfl rfl (AH rfl) ?_;refine loop (λn s I' L'=>I'=I∧∃(i:Nat) (w:TStamp),n+i=m.marks.length∧s=(.int .i64 i,())∧L'=(q5,Cq w)::(q3,roO 144 z0 0 0)::rL br V m (Af q1 q2 c w0 w1 w2 w3 R)∧
  ((w=c.fAt∧∀x∈m.marks.take i,x.1≠c.fKey)∨∃k,lkA m.marks c.fKey=some k∧(Ad k c.fAt c.fTxn).2=0∧w=(Ad k c.fAt c.fTxn).1∧∃x∈m.marks.take i,x.1=c.fKey)) m.marks.length ⟨rfl,0,c.fAt,rfl,rfl,rfl,.inl ⟨rfl,by simp⟩⟩ ?_
 rintro n s I' L' ⟨rfl,i,w,hni,rfl,rfl,hw⟩;unfold VY;try refine O ?_
 refine rdb ?_;simp only [RL.len hS,SSd,Nat.reduceAdd];refine AF (λe1=>?_) (λe1=>?_)
 ·have hi:i < m.marks.length:=by simpa using e1
  obtain ⟨q,off,d,hix,hcl,hd,hcc⟩:=RL.ix hS (i:=(i:Int)) (by omega) (by omega);rw [AX hi] at hd;have hlt:∀x∈m.marks.take i,x.1≠m.marks[i].1:=λx hx e=>by
   obtain ⟨j,hj,rfl⟩:=List.mem_take_iff_getElem.1 hx;have:=List.pairwise_iff_getElem.1 hmS j i (by omega) hi (by omega);rw [e,bltO.irr] at this;cases this
  have hlk:=λh=>MJ (k:=c.fKey) hi h;have hsn:=take_snoc hi;generalize m.marks[i]=y at *;obtain ⟨v,rfl,hv⟩:=hd;obtain ⟨va,vc,rfl⟩:=Bytes.form hv;have hcv:=hcc I' V.XM (Ext.refl _) (λ_ h=>h);refine AZ ?_;try refine O ?_
  refine Ab ?_;simp only [hix,SSd,Nat.reduceAdd];refine Av (hcv 0 _ rfl) (Ext.refl _) ?_;refine Bd hv (Ext.refl _) ?_;try refine O ?_
  refine Ab ?_;refine Bd g0 (Ext.refl _) ?_;simp only [sEq,SSd,Nat.reduceAdd];refine AF (λe2=>?_) (λe2=>?_)
  ·have e2':y.1=c.fKey:=by simpa using e2
   rw [e2'] at hlt;obtain rfl:w=c.fAt:=by
    rcases hw with ⟨h,_⟩|⟨k,_,_,_,x,hx,hxe⟩
    ·exact h
    ·exact absurd hxe (hlt x hx)
   have hly:=hlk hlt e2';have hl1:Ar m c=Ad y.2 c.fAt c.fTxn:=by unfold Ar;rw [hly]
   have two:∀q6,Kr ω (pt q2) (pt q5) (.int .i64 i) (pt q6) (.int .i64 (Ad y.2 c.fAt c.fTxn).2) (λs'=>Gh λI2 L2=>∃m',m' < n∧I2=I'∧∃(i:Nat) (w:TStamp),m'+i=m.marks.length∧s'=(.int .i64 i,())∧L2=(q5,Cq w)::(q3,roO 144 z0 0 0)::rL br V m (Af q1 q2 c w0 w1 w2 w3 R)∧
  ((w=c.fAt∧∀x∈m.marks.take i,x.1≠c.fKey)∨∃k,lkA m.marks c.fKey=some k∧(Ad k c.fAt c.fTxn).2=0∧w=(Ad k c.fAt c.fTxn).1∧∃x∈m.marks.take i,x.1=c.fKey)) (λv=>Gh (K v)) I' ((q6,Cq (Ad y.2 c.fAt c.fTxn).1)::(q5,Cq c.fAt)::(q3,roO 144 z0 0 0)::rL br V m (Af q1 q2 c w0 w1 w2 w3 R)):=by
    intro q6;unfold Kr;try refine O ?_
    refine AF (λe3=>?_) (λe3=>?_)
    ·rw [hl1,if_pos (by simpa using e3)] at hk;try refine O ?_
     refine stB rfl rfl (AH rfl) ?_;refine rdB rfl ?_;exact Gh.to (rL br V m R) (Gh.done (hk.at rfl (Ext.refl _) hF))
    ·refine rdB rfl ?_;refine stB rfl rfl (AH rfl) ?_;unfold Kq;try refine O ?_
     rw [wrap_i64 _ (by omega)];refine Gh.to ((q5,Cq (Ad y.2 c.fAt c.fTxn).1)::(q3,roO 144 z0 0 0)::rL br V m (Af q1 q2 c w0 w1 w2 w3 R)) (Gh.done ⟨n - 1,by omega,rfl,i+1,_,by omega,rfl,rfl,.inr ⟨y.2,hly,by simpa using e3,rfl,y,?_,e2'⟩⟩);rw [hsn];simp
   refine AZ ?_;try refine O ?_
   refine Ck rfl ?_;try refine O ?_
   refine Ab ?_;simp only [hix,SSd,Nat.reduceAdd];refine Bo hcv (Ext.refl _) rfl ?_;try refine O ?_
   refine Ab ?_;refine ⟨?_,?_⟩
   ·refine call (Ei (k:=y.2) (w:=c.fAt) (n:=c.fTxn) ?_);try refine O ?_
    refine AQ (λq6=>?_);refine Bt (Ext.refl _) ?_;refine stB rfl rfl (AH rfl) ?_;exact two q6
   ·refine AQ (λq6=>?_);refine Bt (Ext.refl _) ?_;refine call (Ei (k:=y.2) (w:=c.fAt) (n:=c.fTxn) ?_);try refine O ?_
    refine stB rfl rfl (AH rfl) ?_;exact two q6
  ·have e2':y.1≠c.fKey:=by simpa using e2
   unfold Kq;try refine O ?_
   rw [wrap_i64 _ (by omega)];refine Gh.done ⟨n - 1,by omega,rfl,i+1,w,by omega,rfl,rfl,?_⟩;rw [hsn];rcases hw with ⟨h1,h2⟩|⟨k,h1,h2,h3,x,hx,hxe⟩
   ·refine .inl ⟨h1,λz hz=>?_⟩;rcases List.mem_append.1 hz with hz|hz
    ·exact h2 z hz
    ·simp only [List.mem_singleton] at hz;subst hz;exact e2'
   ·exact .inr ⟨k,h1,h2,h3,x,List.mem_append_left _ hx,hxe⟩
 ·have hi:i=m.marks.length:=by simp at e1;omega
  rw [hi,List.take_length] at hw;have hl1:Ar m c=(w,0):=by
   rcases hw with ⟨h1,h2⟩|⟨k,h1,h2,h3,_⟩
   ·unfold Ar;rw [lkA_none.2 h2,h1]
   ·unfold Ar;rw [h1];exact Prod.ext h3.symm h2
  rw [hl1] at hk;simp only [ne_eq,not_true_eq_false,if_false] at hk;have seven:∀q6,Ia ω (pt br) (pt q1) (pt q2) (pt q6) (.int .i64 (Ad m.low w c.fTxn).2) (λv=>Gh (K v)) I' ((q6,Cq (Ad m.low w c.fTxn).1)::rL br V m (Af q1 q2 c w0 w1 w2 w3 ([(q5,Cq w),(q3,roO 144 z0 0 0)]++R))):=by
   intro q6;refine Ss (T0:=[(q5,Cq w),(q3,roO 144 z0 0 0)]) hF hM.sp (by omega) (by omega) hM.seen (by omega) g0 g1 g2 g3 (λh=>?_) (λh=>?_)
   ·rw [if_pos h] at hk;exact hk
   ·rw [if_neg (by simpa using h)] at hk;exact hk
  unfold VX;refine AZ ?_;try refine O ?_
  refine Ck rfl ?_;try refine O ?_
  refine Cv (mkC (.slice none 0 0) m.low) rfl rfl ?_;try refine O ?_
  refine Ab ?_;refine ⟨?_,?_⟩
  ·refine call (Ei (k:=m.low) (w:=w) (n:=c.fTxn) ?_);try refine O ?_
   refine AQ (λq6=>?_);refine Bt (Ext.refl _) ?_;refine Yc rfl rfl (AH rfl) ?_;exact Gh.perm (AO (by ((try simp only [AJ,AM,AU,AP]);(try ac_rfl)))) (Gh.done (seven q6))
  ·refine AQ (λq6=>?_);refine Bt (Ext.refl _) ?_;refine call (Ei (k:=m.low) (w:=w) (n:=c.fTxn) ?_);try refine O ?_
   refine Yc rfl rfl (AH rfl) ?_;exact Gh.perm (AO (by ((try simp only [AJ,AM,AU,AP]);(try ac_rfl)))) (Gh.done (seven q6))
end
theorem XH (sp:Sp)(k:List UInt8)(t:Int)(y:Bool)(a:TStamp):(Dw sp k t y a).floor=sp.floor:=by unfold Dw;split <;> rfl
section
variable {ω:Om}{I:Imm}{L:LH}{K:Value→M}{br:Nat}{V:RV}{m:Mch}{R:LH}
theorem KJ {c:TCmd}{cc:List Value}{N:Nat}(hF:RF14 I V m)(hM:MOk m N)(hN:N≤10000)(hc:TCmdV I c cc)(hk:PostR K br R I (CV m c)):
  CT ω 113 #[pt br,.agg cc.toArray] K I (rL br V m R):=by
 have hsq:=GS hN;have hrw:=hM.rows;have hvs:=hM.vers;have hsl:=hM.seenL;have hc':=hc;obtain ⟨w0,w1,w2,w3,rfl,g0,g1,g2,g3⟩:=hc;refine AMD ?_;unfold ACl;refine AQ (λq1=>AQ (λq2=>?_));try refine O ?_
 refine rdP [w2,w3] rfl rfl ?_;refine call (Cal.perm (L':=rL br V m (Af q1 q2 c w0 w1 w2 w3 R)) (AO (by ((try simp only [AJ,AM,AU,AP]);(try ac_rfl)))) (Hm (p:=c.fSpan) hF ⟨_,_,rfl,g2,g3⟩ ?_));try refine O ?_
 refine AF (λe=>?_) (λe=>?_)
 ·have hE:CV m c=(Ag 141,m):=by unfold CV;rw [if_pos (by simpa using e)]
  try refine O ?_
  refine stB rfl rfl (AH rfl) ?_;refine rdB rfl ?_;exact Gh.to (rL br V m R) (Gh.done (hk.at hE (Ext.refl _) hF))
 have hin:¬Gb m.span c.fSpan=false:=by simpa using e
 refine rdB rfl ?_;refine call (Hl hF hM.seen (by omega) hc' (λe a ha=>?_) (λha=>?_))
 ·have hE:CV m c=(⟨e,BE,[],a,0,0⟩,m):=by unfold CV;rw [if_neg hin,ha]
  try refine O ?_
  refine AQ (λq3=>?_);refine stB rfl rfl (AH rfl) ?_;try refine O ?_
  refine rdB rfl ?_;refine stB rfl rfl (AH rfl) ?_;refine rdB rfl ?_;exact Gh.to (rL br V m R) (Gh.done (hk.at hE (Ext.refl _) hF))
 have hE:CV m c=if bhd c.fAt c.fTo=true then (Ag 1,m) else
  if (chF m.sp c.fSpan c.fAt c.fTo c.fTxn).2≠0 then (Ag (chF m.sp c.fSpan c.fAt c.fTo c.fTxn).2,m) else
  if (chF m.sp c.fSpan c.fAt c.fTo c.fTxn).1=true then (Ag 144,m) else
  (okR,Bw {m with low:=An m.low c.fTo c.fTxn} c 0 z0):=by unfold CV;rw [if_neg hin,ha]
 rw [hE] at hk;try refine O ?_
 refine AQ (λq3=>?_);refine stB rfl rfl (AH rfl) ?_;try refine O ?_
 refine rdP [.int .i64 c.fTo.fWall,.int .i64 c.fTo.fLogic] rfl rfl ?_;try refine O ?_
 refine rdP [.int .i64 c.fAt.fWall,.int .i64 c.fAt.fLogic] rfl rfl ?_;refine call (DR (x:=c.fTo) (y:=c.fAt) ?_);have hneg:=Ey c.fTo c.fAt;try refine O ?_
 refine AF (λe1=>?_) (λe1=>?_)
 ·rw [if_pos (by rw [←hneg];exact e1)] at hk;try refine O ?_
  refine stB rfl rfl (AH rfl) ?_;refine rdB rfl ?_;exact Gh.to (rL br V m R) (Gh.done (hk.at rfl (Ext.refl _) hF))
 rw [if_neg (by rw [←hneg,e1];simp)] at hk;refine AZ ?_;try refine O ?_
 refine Ab ?_;try refine O ?_
 refine Cv [w2,w3] rfl rfl ?_;try refine O ?_
 refine Cv [.int .i64 c.fAt.fWall,.int .i64 c.fAt.fLogic] rfl rfl ?_;try refine O ?_
 refine Cv [.int .i64 c.fTo.fWall,.int .i64 c.fTo.fLogic] rfl rfl ?_;try refine O ?_
 refine Ab ?_;refine call (NN (sp:=m.sp) (p:=c.fSpan) (fr:=c.fAt) (to:=c.fTo) (L0:=rL br V m (Af q1 q2 c w0 w1 w2 w3 R)) (hF.ref (b:=0) (by simp)) hM.sp (by omega) (by omega) ⟨_,_,rfl,g2,g3⟩ ?_);try refine O ?_
 refine AF (λe2=>?_) (λe2=>?_)
 ·rw [if_pos (by simpa using e2)] at hk;try refine O ?_
  refine stB rfl rfl (AH rfl) ?_;refine rdB rfl ?_;exact Gh.to (rL br V m R) (Gh.done (hk.at rfl (Ext.refl _) hF))
 rw [if_neg (by simpa using e2)] at hk;try refine O ?_
 refine AF (λe3=>?_) (λe3=>?_)
 ·rw [if_pos e3] at hk;try refine O ?_
  refine stB rfl rfl (AH rfl) ?_;refine rdB rfl ?_;exact Gh.to (rL br V m R) (Gh.done (hk.at rfl (Ext.refl _) hF))
 rw [if_neg (by rw [e3];simp)] at hk;refine AZ ?_;try refine O ?_
 refine Cv (mkC (.slice none 0 0) m.low) rfl rfl ?_;try refine O ?_
 refine Cv [.int .i64 c.fTo.fWall,.int .i64 c.fTo.fLogic] rfl rfl ?_;try refine O ?_
 refine Ab ?_;refine call (DC (k:=m.low) (a:=c.fTo) (n:=c.fTxn) ?_);try refine O ?_
 refine stP _ rfl rfl rfl rfl ?_;refine rdB rfl ?_;try refine O ?_
 refine call (Cal.to (rL br V {m with low:=An m.low c.fTo c.fTxn} (Af q1 q2 c w0 w1 w2 w3 R)) (HI (m:={m with low:=An m.low c.fTo c.fTxn}) (e:=0) (a:=z0) (b':=0) (st':=0) {hF with} hM.seen (by show m.seen.length≤1000;omega) hc' (λI9 V9 hI9 hF9=>?_)));try refine O ?_
 refine stB rfl rfl (AH rfl) ?_;refine rdB rfl ?_;exact Gh.to (rL br V9 _ R) (Gh.done (hk.at rfl hI9 hF9))
theorem KI {c:TCmd}{cc:List Value}{N:Nat}(hF:RF14 I V m)(hM:MOk m N)(hN:N≤5000)(hc:TCmdV I c cc)(hk:PostR K br R I (Ej m c)):
  CT ω 118 #[pt br,.agg cc.toArray] K I (rL br V m R):=by
 have hsq:N * N≤5000 * 5000:=Nat.mul_le_mul hN hN;have hrw:=hM.rows;have hvs:=hM.vers;have hin0:=Ky m.sp.rows;have hc':=hc;obtain ⟨w0,w1,w2,w3,rfl,g0,g1,g2,g3⟩:=hc;refine ALy ?_;unfold ACb;refine AQ (λq1=>AQ (λq2=>?_));try refine O ?_
 refine rdP [w2,w3] rfl rfl ?_;refine call (Cal.perm (L':=rL br V m (Af q1 q2 c w0 w1 w2 w3 R)) (AO (by ((try simp only [AJ,AM,AU,AP]);(try ac_rfl)))) (Hm (p:=c.fSpan) hF ⟨_,_,rfl,g2,g3⟩ ?_));try refine O ?_
 refine AF (λe=>?_) (λe=>?_)
 ·have hE:Ej m c=(Ag 141,m):=by unfold Ej;rw [if_pos (by simpa using e)]
  try refine O ?_
  refine stB rfl rfl (AH rfl) ?_;refine rdB rfl ?_;exact Gh.to (rL br V m R) (Gh.done (hk.at hE (Ext.refl _) hF))
 have hE:Ej m c=(Ag (DL c (intsOf m.sp.rows) m.sp m.nt).1,{m with sp:=(DL c (intsOf m.sp.rows) m.sp m.nt).2.1,nt:=(DL c (intsOf m.sp.rows) m.sp m.nt).2.2}):=by
  unfold Ej;rw [if_neg (by simpa using e)]
 rw [hE] at hk;try refine O ?_
 refine rdb ?_;try refine O ?_
 refine rdb ?_;have hI0:=hF.is;have hmF:m.sp.floor=m.sp.floor:=rfl;generalize hall:intsOf m.sp.rows=l at *;generalize hres:DL c l m.sp m.nt=res at *;refine loop (λn s I' L'=>Ext I I'∧∃(i:Nat) (sp:Sp) (nt:Nts) (vV vI:Value),n+i=l.length∧s=(.int .i64 i,())∧L'=rL br {V with vV:=vV,vI:=vI} {m with sp:=sp,nt:=nt} (Af q1 q2 c w0 w1 w2 w3 R)∧RF14 I' {V with vV:=vV,vI:=vI} {m with sp:=sp,nt:=nt}∧
   DL c (l.drop i) sp nt=res∧SpOk sp∧sp.rows.length≤m.sp.rows.length∧Ac sp.rows≤Ac m.sp.rows+i) l.length ⟨Ext.refl _,0,m.sp,m.nt,V.vV,V.vI,rfl,rfl,rfl,hF,hres,hM.sp,Nat.le_refl _,Nat.le_refl _⟩ ?_
 rintro n s I' L' ⟨hI',i,sp,nt,vV,vI,hni,rfl,rfl,hF',hA,hok,hr1,hv1⟩;unfold VW;simp only [RL.len hI0,SSd,Nat.reduceAdd];refine AF (λe1=>?_) (λe1=>?_)
 ·have hi:i < l.length:=by simpa using e1
  have hd:l.drop i=l[i]::l.drop (i+1):=List.drop_eq_getElem_cons hi;rw [hd,DL] at hA;obtain ⟨q,off,d,hix,hcl,hdd,hcc⟩:=RL.ix hI0 (i:=(i:Int)) (by omega) (by omega);rw [AX hi] at hdd;generalize l[i]=x at *;obtain ⟨x0,x1,rfl,f0,f1⟩:=hdd;have hcv:=hcc I' [] hI' (λ_ h=>h);have skip:(x.fTxn≠c.fTxn∨inB c.fSpan x.fKey=false)→HE ω (.int .i64 i) (λs'=>Gh λI2 L2=>∃m',m' < n∧Ext I I2∧∃(i:Nat) (sp:Sp) (nt:Nts) (vV vI:Value),m'+i=l.length∧s'=(.int .i64 i,())∧L2=rL br {V with vV:=vV,vI:=vI} {m with sp:=sp,nt:=nt} (Af q1 q2 c w0 w1 w2 w3 R)∧RF14 I2 {V with vV:=vV,vI:=vI} {m with sp:=sp,nt:=nt}∧
   DL c (l.drop i) sp nt=res∧SpOk sp∧sp.rows.length≤m.sp.rows.length∧Ac sp.rows≤Ac m.sp.rows+i) (λv=>Gh (K v)) I' (rL br {V with vV:=vV,vI:=vI} {m with sp:=sp,nt:=nt} (Af q1 q2 c w0 w1 w2 w3 R)):=by
   intro h;rw [if_pos h] at hA;unfold HE;try refine O ?_
   rw [wrap_i64 _ (by omega)];exact Gh.done ⟨n - 1,by omega,hI',i+1,sp,nt,vV,vI,by omega,rfl,rfl,hF',hA,hok,hr1,by omega⟩
  refine AZ ?_;try refine O ?_
  refine Cv [w2,w3] rfl rfl ?_;try simp only [hix,SSd,Nat.reduceAdd]
  refine Av (hcv 0 _ rfl) (Ext.refl _) ?_;refine call (FA (p:=c.fSpan) ⟨_,_,rfl,g2.mono hI',g3.mono hI'⟩ (f0.mono hI') ?_);refine AZ ?_;try refine O ?_
  refine AV (λe2=>?_) (λe2=>skip (.inr (by simpa using e2)));try simp only [hix,SSd,Nat.reduceAdd]
  refine Av (hcv 1 _ rfl) (Ext.refl _) ?_;try refine O ?_
  refine Ab ?_;try refine O ?_
  refine AF (λe3=>skip (.inl (by simpa using e3))) (λe3=>?_);have hns:¬(x.fTxn≠c.fTxn∨inB c.fSpan x.fKey=false):=by
   simp at e2 e3;rintro (h|h)
   ·exact h e3
   ·rw [h] at e2;cases e2
  rw [if_neg hns] at hA;refine AZ ?_;try refine O ?_
  refine Ab ?_;try simp only [hix,SSd,Nat.reduceAdd]
  refine Av (hcv 0 _ rfl) (Ext.refl _) ?_;try refine O ?_
  refine Ab ?_;try refine O ?_
  refine Ab ?_;try refine O ?_
  refine Cv [.int .i64 c.fAt.fWall,.int .i64 c.fAt.fLogic] rfl rfl ?_;have hlen:=PT (k:=x.fKey) (txn:=c.fTxn) (yes:=c.fYes) (a:=c.fAt) hok;refine Bu (Cal.pick V.bs (NJ (sp:=sp) (k:=x.fKey) (a:=c.fAt) hF'.vs hF'.is hok (by omega) (by omega) (f0.mono hI') (λI2 vV2 vI2 hI2 h2 h2'=>?_)));have hF2:RF14 I2 {V with vV:=vV2,vI:=vI2} {m with sp:=Dw sp x.fKey c.fTxn c.fYes c.fAt,nt:=Ho sp x.fKey c.fTxn c.fYes c.fAt nt}:={hF'.mono hI2 with vs:=h2,is:=h2'};refine Gh.perm (L':=rL br {V with vV:=vV2,vI:=vI2} {m with sp:=Dw sp x.fKey c.fTxn c.fYes c.fAt,nt:=Ho sp x.fKey c.fTxn c.fYes c.fAt nt} (Af q1 q2 c w0 w1 w2 w3 R)) (AO (by simp only [rL,XH];((try simp only [AJ,AM,AU,AP]);(try ac_rfl)))) (Gh.done ?_);try refine O ?_
  refine AF (λe4=>?_) (λe4=>?_)
  ·rw [if_pos (by simpa using e4)] at hA;rw [←hA] at hk;unfold VV;try refine O ?_
   refine stB rfl rfl (AH rfl) ?_;refine rdB rfl ?_;exact Gh.to (rL br _ _ R) (Gh.done (hk.at rfl (hI'.trans hI2) hF2))
  ·rw [if_neg (by simpa using e4)] at hA;unfold HE;try refine O ?_
   rw [wrap_i64 _ (by omega)];exact Gh.done ⟨n - 1,by omega,hI'.trans hI2,i+1,_,_,vV2,vI2,by omega,rfl,rfl,hF2,hA,hok.res,by omega,by omega⟩
 ·have hi:i=l.length:=by simp at e1;omega
  rw [hi,List.drop_length,DL] at hA;rw [←hA] at hk;unfold VU;try refine O ?_
  refine stB rfl rfl (AH rfl) ?_;refine rdB rfl ?_;exact Gh.to (rL br _ _ R) (Gh.done (hk.at rfl hI' hF'))
end
theorem QJ (p:List UInt8→Bool)(rows:List Row):(Aa rows).filter (λy=>p y.fKey)=Aa (rows.filter λr=>p r.key):=by
 induction rows with
 |nil=>rfl
 |cons r rs ih=>
  have e:Aa (r::rs)=r.vs.map (FY r.key)++Aa rs:=rfl;rw [e,List.filter_append,ih,List.filter_cons];cases h:p r.key with
  |true=>
   rw [if_pos rfl,List.filter_eq_self.2 (λy hy=>by obtain ⟨v,_,rfl⟩:=List.mem_map.1 hy;exact h)];rfl
  |false=>
   rw [if_neg (by simp),List.filter_eq_nil_iff.2 (λy hy=>by obtain ⟨v,_,rfl⟩:=List.mem_map.1 hy;rw [show p (FY r.key v).fKey=false from h];simp),List.nil_append]
theorem RK (p:List UInt8→Bool)(rows:List Row):(intsOf rows).filter (λy=>p y.fKey)=intsOf (rows.filter λr=>p r.key):=by
 unfold intsOf;rw [List.filter_map,List.filter_filter,List.filter_filter];congr 1
 apply List.filter_congr
 intro r _;show (p (itF r).fKey&&r.it.txn != 0)=(r.it.txn != 0&&p r.key);rw [Bool.and_comm];rfl
theorem Dg {α:Type}(p:α→Bool)(l:List α)(y:α):(l++[y]).filter p=l.filter p++(if p y=true then [y] else []):=by
 rw [List.filter_append,List.filter_cons,List.filter_nil]
section
variable {ω:Om}{I:Imm}{L:LH}{K:Value→M}{br:Nat}{V:RV}{m:Mch}{R:LH}
abbrev spH (bs3 br2 bs2:Nat)(lV lI rV rI rM rS cK vT:Value)(fl:TStamp)(low:TMk)(old:Int)(Z:LH):LH:=(bs3,BC lV lI fl)::(br2,Lr cK vT bs2 rM low (.slice none 0 0) rS old)::(bs2,BC rV rI fl)::Z
theorem Wl {bs3 br2 bs2 q1 q2:Nat}{rS cK vT:Value}{fl:TStamp}{low:TMk}{old:Int}{XX:LH}{c:TCmd}{w0 w1 w2 w3:Value}(hF:RF14 I V m)(hlen:(Aa m.sp.rows).length≤100000000)(g0:Bytes I w0 c.fKey)
  (hk:∀X1 v1 c1 X2 v2 c2,SlO 188 5 X1 v1 c1 ((Aa m.sp.rows).filter λy=>blt y.fKey c.fKey).length→Recs (TVersionV I) 5 ((Aa m.sp.rows).filter λy=>blt y.fKey c.fKey) c1→
   SlO 188 5 X2 v2 c2 ((Aa m.sp.rows).filter λy=> !blt y.fKey c.fKey).length→Recs (TVersionV I) 5 ((Aa m.sp.rows).filter λy=> !blt y.fKey c.fKey) c2→
   Oy ω (pt br) (pt q1) (pt q2) (.pointer none) (pt br2) (pt bs3) (.slice none 0 0) (λv=>Gh (K v)) I (spH bs3 br2 bs2 v1 (.slice none 0 0) v2 (.slice none 0 0) (.slice none 0 0) rS cK vT fl low old (X1++(X2++(XX++rL br V m (Af q1 q2 c w0 w1 w2 w3 R)))))):
  Ae ((.int .i64 0,()):Value×Unit) (λs Kn0=>Si ω (pt br) (pt q1) (pt q2) (.pointer none) (pt br2) (pt bs3) (.slice none 0 0) s.1 Kn0 (λv=>Gh (K v))) I (spH bs3 br2 bs2 (.slice none 0 0) (.slice none 0 0) (.slice none 0 0) (.slice none 0 0) (.slice none 0 0) rS cK vT fl low old (XX++rL br V m (Af q1 q2 c w0 w1 w2 w3 R))):=by
 have hS:=hF.vs;generalize Aa m.sp.rows=l at *;refine loop (λn s I' L'=>I'=I∧∃(i:Nat) (X1 X2:LH) (v1 v2:Value) (c1 c2:List Value),n+i=l.length∧s=(.int .i64 i,())∧L'=spH bs3 br2 bs2 v1 (.slice none 0 0) v2 (.slice none 0 0) (.slice none 0 0) rS cK vT fl low old (X1++(X2++(XX++rL br V m (Af q1 q2 c w0 w1 w2 w3 R))))∧
  SlO 188 5 X1 v1 c1 ((l.take i).filter λy=>blt y.fKey c.fKey).length∧Recs (TVersionV I) 5 ((l.take i).filter λy=>blt y.fKey c.fKey) c1∧
  SlO 188 5 X2 v2 c2 ((l.take i).filter λy=> !blt y.fKey c.fKey).length∧Recs (TVersionV I) 5 ((l.take i).filter λy=> !blt y.fKey c.fKey) c2) l.length ⟨rfl,0,[],[],.slice none 0 0,.slice none 0 0,[],[],rfl,rfl,rfl,SlO.none _ _,rfl,SlO.none _ _,rfl⟩ ?_
 rintro n s I' L' ⟨rfl,i,X1,X2,v1,v2,c1,c2,hni,rfl,rfl,hO1,hR1,hO2,hR2⟩;unfold Si;try refine O ?_
 refine rdb ?_;try refine O ?_
 refine rdb ?_;simp only [RL.len hS,SSd,Nat.reduceAdd];refine AF (λe=>?_) (λe=>?_)
 ·have hi:i < l.length:=by simpa using e
  obtain ⟨q,off,d,hix,hcl,hd,hcc⟩:=RL.ix hS (i:=(i:Int)) (by omega) (by omega);rw [AX hi] at hd;have hsn:=take_snoc hi;have hl1:=List.length_filter_le (λy=>blt y.fKey c.fKey) (l.take i);have hl2:=List.length_filter_le (λy=> !blt y.fKey c.fKey) (l.take i);rw [List.length_take] at hl1 hl2;generalize l[i]=y at *;have hd1:=hd.one;have hd':=hd;obtain ⟨x0,x1,rfl,f0,f1⟩:=hd;have hcv:=hcc I' [] (Ext.refl _) (λ_ h=>h);refine AZ ?_;try refine O ?_
  refine Ab ?_;try refine O ?_
  refine Ab ?_;simp only [hix,SSd,Nat.reduceAdd];refine Av (hcv 0 _ rfl) (Ext.refl _) ?_;refine Bd f0 (Ext.refl _) ?_;try refine O ?_
  refine Ab ?_;refine Bd g0 (Ext.refl _) ?_;simp only [sLt,SSd,Nat.reduceAdd];refine AF (λe2=>?_) (λe2=>?_)
  ·unfold Yn;refine AZ ?_;try refine O ?_
   refine Ab ?_;try refine O ?_
   refine Ab ?_;try refine O ?_
   refine Ab ?_;simp only [hix,SSd,Nat.reduceAdd];refine Bo hcv (Ext.refl _) rfl ?_;refine GY (R:=TVersionV) (X6:=X1) (x:=y) (Ext.refl _) (λy hy=>hy) rfl (by omega) hO1 hR1 hd' rfl hd1 (by omega) (by omega) (λY X1' a1 k1 c1' hO1' hR1'=>?_);try refine O ?_
   refine st1 rfl ?_;unfold Oz;try refine O ?_
   rw [wrap_i64 _ (by omega)];refine Gh.to (spH bs3 br2 bs2 (.slice a1 (((l.take i).filter λy=>blt y.fKey c.fKey)++[y]).length k1) (.slice none 0 0) v2 (.slice none 0 0) (.slice none 0 0) rS cK vT fl low old (X1'++(X2++(XX++rL br V m (Af q1 q2 c w0 w1 w2 w3 R))))) (Gh.done ⟨n - 1,by omega,rfl,i+1,X1',X2,_,v2,c1',c2,by omega,rfl,rfl,?_,?_,?_,?_⟩);all_goals rw [hsn,Dg,e2]
   ·exact hO1'
   ·exact hR1'
   ·simpa using hO2
   ·simpa using hR2
  ·unfold Ym;refine Rb X2 ?_;try refine O ?_
   refine Ab ?_;try refine O ?_
   refine Ab ?_;try refine O ?_
   refine Ab ?_;try refine O ?_
   refine Ab ?_;try refine O ?_
   refine Ab ?_;simp only [hix,SSd,Nat.reduceAdd];refine Bo hcv (Ext.refl _) rfl ?_;refine GY (R:=TVersionV) (X6:=X2) (x:=y) (Ext.refl _) (λy hy=>?_) rfl (by omega) hO2 hR2 hd' rfl hd1 (by omega) (by omega) (λY X2' a2 k2 c2' hO2' hR2'=>?_)
   ·simp only [List.mem_cons,List.mem_append] at hy ⊢;rcases hy with hy|hy|hy|hy|hy <;> simp [hy]
   refine Bt (Ext.refl _) ?_;try refine O ?_
   refine st1 rfl ?_;unfold Oz;try refine O ?_
   rw [wrap_i64 _ (by omega)];refine Gh.to (spH bs3 br2 bs2 v1 (.slice none 0 0) (.slice a2 (((l.take i).filter λy=> !blt y.fKey c.fKey)++[y]).length k2) (.slice none 0 0) (.slice none 0 0) rS cK vT fl low old (X1++(X2'++(XX++rL br V m (Af q1 q2 c w0 w1 w2 w3 R))))) (Gh.done ⟨n - 1,by omega,rfl,i+1,X1,X2',v1,_,c1,c2',by omega,rfl,rfl,?_,?_,?_,?_⟩);all_goals rw [hsn,Dg,e2]
   ·simpa using hO1
   ·simpa using hR1
   ·exact hO2'
   ·exact hR2'
 ·have hi:i=l.length:=by simp at e;omega
  rw [hi,List.take_length] at hO1 hR1 hO2 hR2;exact hk X1 v1 c1 X2 v2 c2 hO1 hR1 hO2 hR2
theorem Wk {bs3 br2 bs2 q1 q2:Nat}{lV rV rS cK vT:Value}{fl:TStamp}{low:TMk}{old:Int}{XX:LH}{c:TCmd}{w0 w1 w2 w3:Value}(hF:RF14 I V m)(hlen:(intsOf m.sp.rows).length≤100000000)(g0:Bytes I w0 c.fKey)
  (hk:∀X1 v1 c1 X2 v2 c2,SlO 190 6 X1 v1 c1 ((intsOf m.sp.rows).filter λy=>blt y.fKey c.fKey).length→Recs (TIntentV I) 6 ((intsOf m.sp.rows).filter λy=>blt y.fKey c.fKey) c1→
   SlO 190 6 X2 v2 c2 ((intsOf m.sp.rows).filter λy=> !blt y.fKey c.fKey).length→Recs (TIntentV I) 6 ((intsOf m.sp.rows).filter λy=> !blt y.fKey c.fKey) c2→
   KR ω (pt br) (pt q1) (pt q2) (.pointer none) (pt br2) (pt bs3) (.slice none 0 0) (λv=>Gh (K v)) I (spH bs3 br2 bs2 lV v1 rV v2 (.slice none 0 0) rS cK vT fl low old (X1++(X2++(XX++rL br V m (Af q1 q2 c w0 w1 w2 w3 R)))))):
  Oy ω (pt br) (pt q1) (pt q2) (.pointer none) (pt br2) (pt bs3) (.slice none 0 0) (λv=>Gh (K v)) I (spH bs3 br2 bs2 lV (.slice none 0 0) rV (.slice none 0 0) (.slice none 0 0) rS cK vT fl low old (XX++rL br V m (Af q1 q2 c w0 w1 w2 w3 R))):=by
 have hS:=hF.is;unfold Oy;generalize intsOf m.sp.rows=l at *;refine loop (λn s I' L'=>I'=I∧∃(i:Nat) (X1 X2:LH) (v1 v2:Value) (c1 c2:List Value),n+i=l.length∧s=(.int .i64 i,())∧L'=spH bs3 br2 bs2 lV v1 rV v2 (.slice none 0 0) rS cK vT fl low old (X1++(X2++(XX++rL br V m (Af q1 q2 c w0 w1 w2 w3 R))))∧
  SlO 190 6 X1 v1 c1 ((l.take i).filter λy=>blt y.fKey c.fKey).length∧Recs (TIntentV I) 6 ((l.take i).filter λy=>blt y.fKey c.fKey) c1∧
  SlO 190 6 X2 v2 c2 ((l.take i).filter λy=> !blt y.fKey c.fKey).length∧Recs (TIntentV I) 6 ((l.take i).filter λy=> !blt y.fKey c.fKey) c2) l.length ⟨rfl,0,[],[],.slice none 0 0,.slice none 0 0,[],[],rfl,rfl,rfl,SlO.none _ _,rfl,SlO.none _ _,rfl⟩ ?_
 rintro n s I' L' ⟨rfl,i,X1,X2,v1,v2,c1,c2,hni,rfl,rfl,hO1,hR1,hO2,hR2⟩;unfold Yl;try refine O ?_
 refine rdb ?_;try refine O ?_
 refine rdb ?_;simp only [RL.len hS,SSd,Nat.reduceAdd];refine AF (λe=>?_) (λe=>?_)
 ·have hi:i < l.length:=by simpa using e
  obtain ⟨q,off,d,hix,hcl,hd,hcc⟩:=RL.ix hS (i:=(i:Int)) (by omega) (by omega);rw [AX hi] at hd;have hsn:=take_snoc hi;have hl1:=List.length_filter_le (λy=>blt y.fKey c.fKey) (l.take i);have hl2:=List.length_filter_le (λy=> !blt y.fKey c.fKey) (l.take i);rw [List.length_take] at hl1 hl2;generalize l[i]=y at *;have hd1:=hd.one;have hd':=hd;obtain ⟨x0,x1,rfl,f0,f1⟩:=hd;have hcv:=hcc I' [] (Ext.refl _) (λ_ h=>h);refine AZ ?_;try refine O ?_
  refine Ab ?_;try refine O ?_
  refine Ab ?_;simp only [hix,SSd,Nat.reduceAdd];refine Av (hcv 0 _ rfl) (Ext.refl _) ?_;refine Bd f0 (Ext.refl _) ?_;try refine O ?_
  refine Ab ?_;refine Bd g0 (Ext.refl _) ?_;simp only [sLt,SSd,Nat.reduceAdd];refine AF (λe2=>?_) (λe2=>?_)
  ·refine AZ ?_;try refine O ?_
   refine Ab ?_;try refine O ?_
   refine Ab ?_;try refine O ?_
   refine Ab ?_;simp only [hix,SSd,Nat.reduceAdd];refine Bo hcv (Ext.refl _) rfl ?_;refine GY (R:=TIntentV) (X6:=X1) (x:=y) (Ext.refl _) (λy hy=>hy) rfl (by omega) hO1 hR1 hd' rfl hd1 (by omega) (by omega) (λY X1' a1 k1 c1' hO1' hR1'=>?_);try refine O ?_
   refine st1 rfl ?_;unfold KS;try refine O ?_
   rw [wrap_i64 _ (by omega)];refine Gh.to (spH bs3 br2 bs2 lV (.slice a1 (((l.take i).filter λy=>blt y.fKey c.fKey)++[y]).length k1) rV v2 (.slice none 0 0) rS cK vT fl low old (X1'++(X2++(XX++rL br V m (Af q1 q2 c w0 w1 w2 w3 R))))) (Gh.done ⟨n - 1,by omega,rfl,i+1,X1',X2,_,v2,c1',c2,by omega,rfl,rfl,?_,?_,?_,?_⟩);all_goals rw [hsn,Dg,e2]
   ·exact hO1'
   ·exact hR1'
   ·simpa using hO2
   ·simpa using hR2
  ·refine Rb X2 ?_;try refine O ?_
   refine Ab ?_;try refine O ?_
   refine Ab ?_;try refine O ?_
   refine Ab ?_;try refine O ?_
   refine Ab ?_;try refine O ?_
   refine Ab ?_;simp only [hix,SSd,Nat.reduceAdd];refine Bo hcv (Ext.refl _) rfl ?_;refine GY (R:=TIntentV) (X6:=X2) (x:=y) (Ext.refl _) (λy hy=>?_) rfl (by omega) hO2 hR2 hd' rfl hd1 (by omega) (by omega) (λY X2' a2 k2 c2' hO2' hR2'=>?_)
   ·simp only [List.mem_cons,List.mem_append] at hy ⊢;rcases hy with hy|hy|hy|hy|hy <;> simp [hy]
   refine Bt (Ext.refl _) ?_;try refine O ?_
   refine st1 rfl ?_;unfold KS;try refine O ?_
   rw [wrap_i64 _ (by omega)];refine Gh.to (spH bs3 br2 bs2 lV v1 rV (.slice a2 (((l.take i).filter λy=> !blt y.fKey c.fKey)++[y]).length k2) (.slice none 0 0) rS cK vT fl low old (X1++(X2'++(XX++rL br V m (Af q1 q2 c w0 w1 w2 w3 R))))) (Gh.done ⟨n - 1,by omega,rfl,i+1,X1,X2',v1,_,c1,c2',by omega,rfl,rfl,?_,?_,?_,?_⟩);all_goals rw [hsn,Dg,e2]
   ·simpa using hO1
   ·simpa using hR1
   ·exact hO2'
   ·exact hR2'
 ·have hi:i=l.length:=by simp at e;omega
  rw [hi,List.take_length] at hO1 hR1 hO2 hR2;exact hk X1 v1 c1 X2 v2 c2 hO1 hR1 hO2 hR2
end
section
variable {ω:Om}{I:Imm}{L:LH}{K:Value→M}{br:Nat}{V:RV}{m:Mch}{R:LH}
theorem Wj {bs3 br2 bs2 q1 q2:Nat}{lV lI rV rI rS cK vT:Value}{fl:TStamp}{low:TMk}{old:Int}{XX:LH}{c:TCmd}{w0 w1 w2 w3:Value}(hF:RF14 I V m)(hlen:m.marks.length≤1000)(g0:Bytes I w0 c.fKey)
  (hk:∀X1 v1 c1 X2 v2 c2,SlO 84 4 X1 v1 c1 (m.marks.filter λy=>blt y.1 c.fKey).length→Recs (MkR I) 4 (m.marks.filter λy=>blt y.1 c.fKey) c1→
   SlO 84 4 X2 v2 c2 (m.marks.filter λy=> !blt y.1 c.fKey).length→Recs (MkR I) 4 (m.marks.filter λy=> !blt y.1 c.fKey) c2→
   PA ω (pt br) (pt q1) (pt q2) (.pointer none) (pt br2) (pt bs3) v1 (λv=>Gh (K v)) I (spH bs3 br2 bs2 lV lI rV rI v2 rS cK vT fl low old (X1++(X2++(XX++rL br V m (Af q1 q2 c w0 w1 w2 w3 R)))))):
  KR ω (pt br) (pt q1) (pt q2) (.pointer none) (pt br2) (pt bs3) (.slice none 0 0) (λv=>Gh (K v)) I (spH bs3 br2 bs2 lV lI rV rI (.slice none 0 0) rS cK vT fl low old (XX++rL br V m (Af q1 q2 c w0 w1 w2 w3 R))):=by
 have hS:=hF.mkl;unfold KR;generalize hl0:m.marks=l at *;refine loop (λn s I' L'=>I'=I∧∃(i:Nat) (X1 X2:LH) (v1 v2:Value) (c1 c2:List Value),n+i=l.length∧s=(v1,.int .i64 i,())∧L'=spH bs3 br2 bs2 lV lI rV rI v2 rS cK vT fl low old (X1++(X2++(XX++rL br V m (Af q1 q2 c w0 w1 w2 w3 R))))∧
  SlO 84 4 X1 v1 c1 ((l.take i).filter λy=>blt y.1 c.fKey).length∧Recs (MkR I) 4 ((l.take i).filter λy=>blt y.1 c.fKey) c1∧
  SlO 84 4 X2 v2 c2 ((l.take i).filter λy=> !blt y.1 c.fKey).length∧Recs (MkR I) 4 ((l.take i).filter λy=> !blt y.1 c.fKey) c2) l.length ⟨rfl,0,[],[],.slice none 0 0,.slice none 0 0,[],[],rfl,rfl,rfl,SlO.none _ _,rfl,SlO.none _ _,rfl⟩ ?_
 rintro n s I' L' ⟨rfl,i,X1,X2,v1,v2,c1,c2,hni,rfl,rfl,hO1,hR1,hO2,hR2⟩;unfold UH;try refine O ?_
 refine rdb ?_;simp only [RL.len hS,SSd,Nat.reduceAdd];refine AF (λe=>?_) (λe=>?_)
 ·have hi:i < l.length:=by simpa using e
  obtain ⟨q,off,d,hix,hcl,hd,hcc⟩:=RL.ix hS (i:=(i:Int)) (by omega) (by omega);rw [AX hi] at hd;have hsn:=take_snoc hi;have hl1:=List.length_filter_le (λy=>blt y.1 c.fKey) (l.take i);have hl2:=List.length_filter_le (λy=> !blt y.1 c.fKey) (l.take i);rw [List.length_take] at hl1 hl2;generalize l[i]=y at *;have hd1:=hd.one;have hd':=hd;obtain ⟨x0,rfl,f0⟩:=hd;have hcv:=hcc I' V.XM (Ext.refl _) (λ_ h=>h);refine AZ ?_;try refine O ?_
  refine Ab ?_;simp only [hix,SSd,Nat.reduceAdd];refine Av (hcv 0 _ rfl) (Ext.refl _) ?_;refine Bd f0 (Ext.refl _) ?_;try refine O ?_
  refine Ab ?_;refine Bd g0 (Ext.refl _) ?_;simp only [sLt,SSd,Nat.reduceAdd];refine AF (λe2=>?_) (λe2=>?_)
  ·try refine O ?_
   refine rdb ?_;simp only [hix,SSd,Nat.reduceAdd];refine FT hcv (Ext.refl _) rfl ?_;refine DD (R:=MkR) (X6:=X1) (x:=y) rfl (by omega) hO1 hR1 hd' rfl hd1 (by omega) (by omega) (λY X1' v1' c1' hO1' hR1'=>?_);unfold KQ;try refine O ?_
   rw [wrap_i64 _ (by omega)];refine Gh.to (spH bs3 br2 bs2 lV lI rV rI v2 rS cK vT fl low old (X1'++(X2++(XX++rL br V m (Af q1 q2 c w0 w1 w2 w3 R))))) (Gh.done ⟨n - 1,by omega,rfl,i+1,X1',X2,v1',v2,c1',c2,by omega,rfl,rfl,?_,?_,?_,?_⟩);all_goals rw [hsn,Dg,e2]
   ·exact hO1'
   ·exact hR1'
   ·simpa using hO2
   ·simpa using hR2
  ·refine AZ ?_;try refine O ?_
   refine Ab ?_;try refine O ?_
   refine Ab ?_;simp only [hix,SSd,Nat.reduceAdd];refine Bo hcv (Ext.refl _) rfl ?_;refine GY (R:=MkR) (X6:=X2) (x:=y) (Ext.refl _) (λy hy=>hy) rfl (by omega) hO2 hR2 hd' rfl hd1 (by omega) (by omega) (λY X2' a2 k2 c2' hO2' hR2'=>?_);try refine O ?_
   refine st1 rfl ?_;unfold KQ;try refine O ?_
   rw [wrap_i64 _ (by omega)];refine Gh.to (spH bs3 br2 bs2 lV lI rV rI (.slice a2 (((l.take i).filter λy=> !blt y.1 c.fKey)++[y]).length k2) rS cK vT fl low old (X1++(X2'++(XX++rL br V m (Af q1 q2 c w0 w1 w2 w3 R))))) (Gh.done ⟨n - 1,by omega,rfl,i+1,X1,X2',v1,_,c1,c2',by omega,rfl,rfl,?_,?_,?_,?_⟩);all_goals rw [hsn,Dg,e2]
   ·simpa using hO1
   ·simpa using hR1
   ·exact hO2'
   ·exact hR2'
 ·have hi:i=l.length:=by simp at e;omega
  rw [hi,List.take_length] at hO1 hR1 hO2 hR2;exact hk X1 v1 c1 X2 v2 c2 hO1 hR1 hO2 hR2
def PostA14 (K:Value→M)(br:Nat)(R:LH)(I:Imm)(x:TRes×Mch×Option Mch):Prop:=∀I' V' cells,Ext I I'→RF14 I' V' x.2.1→TResV I' x.1 cells→
 (x.2.2=none→K (.tuple #[.agg cells.toArray,.pointer none]) I' (rL br V' x.2.1 R))∧(∀m2 br2 V2,x.2.2=some m2→RF14 I' V2 m2→K (.tuple #[.agg cells.toArray,pt br2]) I' (rL br V' x.2.1 (rL br2 V2 m2 R)))
theorem PostA14.plain {x:TRes×Mch}(h:PostA14 K br R I (Al x)){I':Imm}{V':RV}{cells:List Value}(hI:Ext I I')(hF:RF14 I' V' x.2)(hr:TResV I' x.1 cells):K (.tuple #[.agg cells.toArray,.pointer none]) I' (rL br V' x.2 R):=(h I' V' cells hI hF hr).1 rfl
theorem SnR.one {I:Imm}{x:Int×TSn}{c:List Value}(h:SnR I x c):∀u∈c,u.oneCell'=true:=by
 rw [show c=snC x from h];exact AH rfl
theorem NH {c:TCmd}{cc:List Value}{N:Nat}(hF:RF14 I V m)(hM:MOk m N)(hN:N≤10000)(hc:TCmdV I c cc)(hk:PostA14 K br R I (CB m c)):
  CT ω 52 #[pt br,.agg cc.toArray] K I (rL br V m R):=by
 have hsq:=GS hN;have hrw:=hM.rows;have hvs:=hM.vers;have hml:=hM.marksL;have hsl:=hM.seenL;have hVl:(Aa m.sp.rows).length≤100000000:=by rw [DB];omega
 have hIl:(intsOf m.sp.rows).length≤100000000:=by have:=Ky m.sp.rows;omega
 obtain ⟨w0,w1,w2,w3,rfl,g0,g1,g2,g3⟩:=hc;have f0:=hF.f0;have f1:=hF.f1;obtain ⟨aK,cK,rfl⟩:=Bytes.form g0;obtain ⟨aT,cT,hT⟩:=Bytes.form f1;obtain ⟨aF,cF,hf⟩:=Bytes.form f0;refine ANU ?_;unfold AJc;refine AQ (λq1=>AQ (λq2=>?_));refine AZ ?_;try refine O ?_
 refine Cv [V.vF,V.vT] rfl rfl ?_;try refine O ?_
 refine Ab ?_;refine call (FA (p:=m.span) ⟨_,_,rfl,hF.f0,hF.f1⟩ g0 ?_);refine AZ ?_;try refine O ?_
 refine AV (λe=>?_) (λe=>?_);rotate_left
 ·have hE:CB m c=Al (Ag 141,m):=by unfold CB Al;rw [if_pos (.inl (by simpa using e))]
  rw [hE] at hk;unfold PB;try refine O ?_
  refine stB rfl rfl (AH rfl) ?_;refine rdB rfl ?_;exact Gh.to (rL br V m R) (Gh.done (hk.plain (Ext.refl _) hF (Cm ..)))
 try refine O ?_
 refine Ab ?_;refine Bd g0 (Ext.refl _) ?_;try refine O ?_
 refine Ab ?_;refine Bd f0 (Ext.refl _) ?_;simp only [sEq,SSd,Nat.reduceAdd];refine AF (λe2=>?_) (λe2=>?_)
 ·have hE:CB m c=Al (Ag 141,m):=by unfold CB Al;rw [if_pos (.inr (by simpa using e2))]
  rw [hE] at hk;unfold PB;try refine O ?_
  refine stB rfl rfl (AH rfl) ?_;refine rdB rfl ?_;exact Gh.to (rL br V m R) (Gh.done (hk.plain (Ext.refl _) hF (Cm ..)))
 have hE:CB m c=(okR,{m with span:=⟨m.span.fFrom,c.fKey⟩,sp:=HV c.fKey m.sp,nt:=noteAs true (CY c.fKey m.sp.rows) m.nt,marks:=m.marks.filter λq=>blt q.1 c.fKey},
  some ⟨⟨c.fKey,m.span.fTo⟩,GN c.fKey m.sp,noteAs false (CY c.fKey m.sp.rows) (BL m.sp.floor),m.marks.filter λq=> !blt q.1 c.fKey,m.low,[],m.seen,m.oldest,[]⟩):=by
  unfold CB;rw [if_neg (by rintro (h|h) <;> simp_all)]
 rw [hE] at hk;refine AZ ?_;try refine O ?_
 refine Ab ?_;try refine O ?_
 refine Ab ?_;rw [hT];try refine O ?_
 refine Ab ?_;try refine O ?_
 refine Cv [.int .i64 m.sp.floor.fWall,.int .i64 m.sp.floor.fLogic] rfl rfl ?_;try refine O ?_
 refine AQ (λbs2=>?_);refine Bt (Ext.refl _) ?_;try refine O ?_
 refine Cv (mkC (.slice none 0 0) m.low) rfl rfl ?_;try refine O ?_
 refine Ab ?_;try refine O ?_
 refine AQ (λbr2=>?_);refine AZ ?_;try refine O ?_
 refine Ab ?_;try refine O ?_
 refine Ab ?_;refine QB (R:=SnR) (X:=[]) (hsp:=⟨List.Perm.refl _⟩) (xs:=[]) (ys:=m.seen) rfl (SlO.none _ _) rfl (RL.mono (λ_ _ h=>h) hF.sn (Ext.refl _) (λz hz=>by cases hz)) SnR.one (by simp;omega) (by simp;omega) (λXS vS cS hOS hRS=>Gh.done ?_);rw [List.nil_append] at hOS hRS;obtain ⟨aS,kS,rfl⟩:=hOS.form;try refine O ?_
 refine Yd rfl ?_;refine Gh.perm (L':=(br2,Lr (.slice aK c.fKey.length cK) (.slice aT m.span.fTo.length cT) bs2 (.slice none 0 0) m.low (.slice none 0 0) (.slice aS m.seen.length kS) m.oldest)::(bs2,BC (.slice none 0 0) (.slice none 0 0) m.sp.floor)::(XS++rL br V m (Af q1 q2 c (.slice aK c.fKey.length cK) w1 w2 w3 R))) (AO (by ((try simp only [AJ,AM,AU,AP]);(try ac_rfl)))) (Gh.done ?_);try refine O ?_
 refine rdb ?_;try refine O ?_
 refine rdP [.int .i64 m.sp.floor.fWall,.int .i64 m.sp.floor.fLogic] rfl rfl ?_;try refine O ?_
 refine AQ (λbs3=>?_);refine Wl hF hVl g0 (λX1 v1 c1 X2 v2 c2 hO1 hR1 hO2 hR2=>?_);rw [show X1++(X2++(XS++rL br V m (Af q1 q2 c (.slice aK c.fKey.length cK) w1 w2 w3 R)))=(X1++(X2++XS))++rL br V m (Af q1 q2 c (.slice aK c.fKey.length cK) w1 w2 w3 R) from by simp only [List.append_assoc]];refine Wk hF hIl g0 (λX3 v3 c3 X4 v4 c4 hO3 hR3 hO4 hR4=>?_);rw [show X3++(X4++((X1++(X2++XS))++rL br V m (Af q1 q2 c (.slice aK c.fKey.length cK) w1 w2 w3 R)))=(X3++(X4++(X1++(X2++XS))))++rL br V m (Af q1 q2 c (.slice aK c.fKey.length cK) w1 w2 w3 R) from by simp only [List.append_assoc]];refine Wj hF (by omega) g0 (λX5 v5 c5 X6 v6 c6 hO5 hR5 hO6 hR6=>?_);obtain ⟨a5,k5,rfl⟩:=hO5.form;unfold PA;refine AZ ?_;try refine O ?_
 refine Ab ?_;rw [hf];try refine O ?_
 refine Ab ?_;try refine O ?_
 refine stP _ rfl rfl rfl rfl ?_;try refine O ?_
 refine st1 rfl ?_;try refine O ?_
 refine st1 rfl ?_;try refine O ?_
 refine stB rfl rfl (AH rfl) ?_;refine rdB rfl ?_;simp only [List.append_assoc];refine Gh.to (X1++(X2++(X3++(X4++(XS++((br,Lr (.slice aF m.span.fFrom.length cF) (.slice aK c.fKey.length cK) bs3 (.slice a5 (m.marks.filter λy=>blt y.1 c.fKey).length k5) m.low V.vR V.vS m.oldest)::(bs3,BC v1 v3 m.sp.floor)::(X5++(V.XR++((br2,Lr (.slice aK c.fKey.length cK) (.slice aT m.span.fTo.length cT) bs2 v6 m.low (.slice none 0 0) (.slice aS m.seen.length kS) m.oldest)::(bs2,BC v2 v4 m.sp.floor)::(X6++R)))))))))) ?_;refine SlO.freeze hO1 (λJ1 i1 s1=>SlO.freeze hO2 (λJ2 i2 s2=>SlO.freeze hO3 (λJ3 i3 s3=>SlO.freeze hO4 (λJ4 i4 s4=>SlO.freeze hOS (λJ5 i5 s5=>Gh.done ?_)))));have t45:=i4.trans i5;have t35:=i3.trans t45;have t25:=i2.trans t35;have t15:=i1.trans t25;have eL1:=QJ (λk=>blt k c.fKey) m.sp.rows;have eL2:=QJ (λk=> !blt k c.fKey) m.sp.rows;have eI1:=RK (λk=>blt k c.fKey) m.sp.rows;have eI2:=RK (λk=> !blt k c.fKey) m.sp.rows;have r1:=rlI (λ_ _ h=>h.mono t25) (RL.ofI (R:=TVersionV) (L:=[]) s1 (hR1.imp λx c h=>h.mono i1)) t25;have r2:=rlI (λ_ _ h=>h.mono t35) (RL.ofI (R:=TVersionV) (L:=[]) s2 (hR2.imp λx c h=>h.mono (i1.trans i2))) t35;have r3:=rlI (λ_ _ h=>h.mono t45) (RL.ofI (R:=TIntentV) (L:=[]) s3 (hR3.imp λx c h=>h.mono (i1.trans (i2.trans i3)))) t45;have r4:=rlI (λ_ _ h=>h.mono i5) (RL.ofI (R:=TIntentV) (L:=[]) s4 (hR4.imp λx c h=>h.mono (i1.trans (i2.trans (i3.trans i4))))) i5;have r5:=RL.ofI (R:=SnR) (L:=[]) s5 (hRS.imp λx c h=>SnR.mono h (i1.trans (i2.trans (i3.trans (i4.trans i5)))))
 rw [eL1] at r1;rw [eL2] at r2;rw [eI1] at r3;rw [eI2] at r4;have hFm:=hF.mono t15;refine (hk J5 {V with vF:=.slice aF m.span.fFrom.length cF,vT:=.slice aK c.fKey.length cK,bs:=bs3,vV:=v1,vI:=v3,vM:=.slice a5 (m.marks.filter λy=>blt y.1 c.fKey).length k5,cM:=c5,XM:=X5} _ t15 ?_ (Cm ..)).2 ⟨⟨c.fKey,m.span.fTo⟩,GN c.fKey m.sp,noteAs false (CY c.fKey m.sp.rows) (BL m.sp.floor),m.marks.filter λq=> !blt q.1 c.fKey,m.low,[],m.seen,m.oldest,[]⟩ br2 ⟨bs2,.slice aK c.fKey.length cK,.slice aT m.span.fTo.length cT,v2,v4,v6,c6,X6,.slice none 0 0,[],[],.slice aS m.seen.length kS⟩ rfl ?_
 ·exact ⟨by rw [←hf];exact hFm.f0,g0.mono t15,hO5,hR5.imp λ_ _ h=>h.mono t15,hF.rc,hF.rcR,hFm.sn,r1,r3⟩
 ·exact ⟨g0.mono t15,by rw [←hT];exact hFm.f1,hO6,hR6.imp λ_ _ h=>h.mono t15,SlO.none _ _,rfl,r5,r2,r4⟩
end
def nB (n:Int):List UInt8:=Ev n.toNat
def CP (l:List Int):List UInt8:=l.flatMap nB
def GM (b:List UInt8):List UInt8:=Ev b.length++b
def LQ (s:TStamp):List UInt8:=nB s.fWall++nB s.fLogic
theorem ADv {n:Int}(h:EQ n):(nB n).length≤9:=JF (n:=n.toNat) (by have:=h.2;have:=h.1;omega)
theorem Bx:∀{l:List Int},(∀n∈l,EQ n)→(CP l).length≤9 * l.length
 |[],_=>by simp [CP]
 |n::l,h=>by
  have h1:=ADv (h n (List.mem_cons_self ..));have h2:=Bx (l:=l) (λm hm=>h m (List.mem_cons_of_mem _ hm));simp only [CP,List.flatMap_cons,List.length_append,List.length_cons] at h2 ⊢;omega
theorem Cp {b:List UInt8}(h:b.length≤9007199254740991):(GM b).length≤9+b.length:=by
 have:=JF (n:=b.length) (by omega);simp only [GM,List.length_append];omega
theorem FZ {s:TStamp}(h:AN s=true):(LQ s).length≤18:=by
 have h:=Ll h;have h1:=ADv h.1;have h2:=ADv h.2;simp only [LQ,List.length_append];omega
section
variable {ω:Om}{I:Imm}{L:LH}{K:Value→M}
theorem Ht {A:M}{F:LH}{bv T:Nat}{ns:List Int}(hk:∀I',Ext I I'→Ints I' (.slice (some ⟨bv,0,none⟩) ns.length ns.length) ns→Gh A I' F):Gh A I ((bv,.cells (RQ ns).toArray T (0,0))::F):=
 Gh.freeze λhext=>hk _ hext ⟨by simp [RQ],_,_,rfl,Nat.le_refl _,λ_=>⟨bv,0,(RQ ns).toArray,T,(0,0),rfl,by simp [Imm.put],λj u hu=>by simpa using hu⟩⟩
theorem Of {F:LH}{a:Int}(hk:∀u I',Ext I I'→Ints I' u [a]→K u I' F):Aq 3 1 #[.int .i64 0] 1 [(0,.int .i64 a)] (gh K) I F:=
 ⟨#[.int .i64 a],by kernel_rfl,λbb=>Ht (ns:=[a]) λI' hI hU=>Gh.done (hk _ I' hI hU)⟩
theorem AFi {F:LH}{a b:Int}(hk:∀u I',Ext I I'→Ints I' u [a,b]→K u I' F):Aq 3 1 #[.int .i64 0] 2 [(0,.int .i64 a),(1,.int .i64 b)] (gh K) I F:=
 ⟨#[.int .i64 a,.int .i64 b],by kernel_rfl,λbb=>Ht (ns:=[a,b]) λI' hI hU=>Gh.done (hk _ I' hI hU)⟩
theorem ANr {F:LH}{a b c:Int}(hk:∀u I',Ext I I'→Ints I' u [a,b,c]→K u I' F):Aq 3 1 #[.int .i64 0] 3 [(0,.int .i64 a),(1,.int .i64 b),(2,.int .i64 c)] (gh K) I F:=
 ⟨#[.int .i64 a,.int .i64 b,.int .i64 c],by kernel_rfl,λbb=>Ht (ns:=[a,b,c]) λI' hI hU=>Gh.done (hk _ I' hI hU)⟩
abbrev wrO (v:Value):Obj:=.cells #[v] 141 (0,0)
theorem TL {ns:List Int}{i:Nat}(hi:i < ns.length):CP (ns.take (i+1))=CP (ns.take i)++nB ns[i]:=by
 unfold CP;rw [take_snoc hi,List.flatMap_append];simp
theorem Ci {w:Nat}{v u:Value}{Y F:LH}{l:List UInt8}{ns:List Int}(hO:OB Y v l)(hU:Ints I u ns)(hns:∀n∈ns,EQ n)(hl:l.length+9 * ns.length≤1000000000000)
  (hk:∀Y' v' I',Ext I I'→OB Y' v' (l++CP ns)→K (.tuple #[]) I' ((w,wrO v')::(Y'++F))):CT ω 61 #[pt w,u] K I ((w,wrO v)::(Y++F)):=by
 refine ANS ?_;unfold AJa;simp only [Ints.len hU,SSd,Nat.reduceAdd];refine loop (λn (s:Value×Unit) I' L'=>∃(i:Nat) (Y':LH) (v':Value),n+i=ns.length∧s=(.int .i64 i,())∧Ext I I'∧OB Y' v' (l++CP (ns.take i))∧L'=(w,wrO v')::(Y'++F)) ns.length ⟨0,Y,v,rfl,rfl,Ext.refl _,by simpa [CP] using hO,rfl⟩ ?_;rintro n s I' L' ⟨i,Y',v',hn,rfl,hI,hO',rfl⟩;unfold Yk;try refine O ?_
 refine AF (λe=>?_) (λe=>?_)
 ·have hi:i < ns.length:=by simpa using e
  obtain ⟨bb,off,hix,hc⟩:=ints_at (hU.mono hI) (i:=(i:Int)) (by omega) (by omega);rw [AX hi] at hc;have hm:=hns _ (List.getElem_mem hi);have hnext:=TL hi;have hlen:(l++CP (ns.take i)).length≤l.length+9 * i:=by
   have h1:=Bx (l:=ns.take i) (λn hn=>hns n (List.mem_of_mem_take hn));rw [List.length_take] at h1;rw [List.length_append];omega
  have h9:=ADv hm;simp only [hix,SSd,Nat.reduceAdd];refine rd1 (hc _ _ (Ext.refl _)) ?_;refine AZ ?_;try refine O ?_
  refine Ab ?_;try refine O ?_
  obtain ⟨nn,hnn⟩:∃nn:Nat,ns[i]=(nn:Int):=⟨ns[i].toNat,by have:=hm.1;omega⟩;have hnb:nB ns[i]=Ev nn:=by unfold nB;rw [hnn];rfl
  have hnx:nn≤9007199254740991:=by have:=hm.2;omega
  rw [hnb] at hnext h9;rw [hnn,wrap_u64 _ (by omega) (by omega)];refine call (Gf (by omega) (λx I2 hI2 hB=>?_));refine Bt hI2 ?_;refine Hr (X6:=Y') (y:=Ev nn) hO' (SlI.news hB) (by omega) (λY2 v2 hO2=>?_);obtain ⟨va,vc,rfl⟩:=hO2.form;try refine O ?_
  refine st1 rfl ?_;rw [wrap_i64 _ (by omega)];refine Gh.to ((w,wrO (.slice va (l++CP (ns.take i)++Ev nn).length vc))::(Y2++F)) (Gh.done ⟨n - 1,by omega,i+1,Y2,_,by omega,rfl,hI.trans hI2,?_,rfl⟩);rw [hnext,←List.append_assoc];exact hO2
 ·have hi:i=ns.length:=by
   have:¬i < ns.length:=by simpa using e
   omega
  rw [hi,List.take_length] at hO';exact Gh.done (hk Y' v' I' hI hO')
theorem FK {w:Nat}{v:Value}{Y F:LH}{l:List UInt8}{x:TStamp}(hO:OB Y v l)(hx:AN x=true)(hl:l.length≤100000000000)
  (hk:∀Y' v' I',Ext I I'→OB Y' v' (l++LQ x)→K (.tuple #[]) I' ((w,wrO v')::(Y'++F))):CT ω 62 #[pt w,sv x] K I ((w,wrO v)::(Y++F)):=by
 have hm:=Ll hx;refine ANR ?_;unfold AJZ;refine AQ (λb1=>?_);try refine O ?_
 refine rdb ?_;try refine O ?_
 refine rdb ?_;refine AFi (λu I1 hI1 hU=>?_);refine call (Cal.to ((w,wrO v)::(Y++F)) (Ci hO hU (by simp [hm.1,hm.2]) (by simp;omega) (λY' v' I' hI hO'=>?_)));refine Gh.done (hk Y' v' I' (hI1.trans hI) ?_);simpa [CP,LQ] using hO'
theorem Dv {w:Nat}{v t:Value}{Y F:LH}{l x:List UInt8}(hO:OB Y v l)(hB:Bytes I t x)(hl:l.length≤100000000000)(hx:x.length≤10000000000)
  (hk:∀Y' v' I',Ext I I'→OB Y' v' (l++GM x)→K (.tuple #[]) I' ((w,wrO v')::(Y'++F))):CT ω 64 #[pt w,t] K I ((w,wrO v)::(Y++F)):=by
 refine ANQ ?_;unfold AJY;simp only [Bytes.len hB,SSd,Nat.reduceAdd];have h9:=ADv (n:=(x.length:Int)) ⟨by omega,by omega⟩;refine Of (λu I1 hI1 hU=>?_);refine call (Ci hO hU (by simp only [List.mem_singleton];rintro n rfl;exact ⟨by omega,by omega⟩) (by simp;omega) (λY1 v1 I2 hI2 hO1=>?_));have e1:CP [(x.length:Int)]=Ev x.length:=by simp [CP,nB]
 rw [e1] at hO1;have e2:nB (x.length:Int)=Ev x.length:=by simp [nB]
 rw [e2] at h9;try refine O ?_
 refine rdb ?_;refine Hr (X6:=Y1) (y:=x) hO1 (SlI.news (hB.mono (hI1.trans hI2))) (by rw [List.length_append];omega) (λY2 v2 hO2=>?_);obtain ⟨va,vc,rfl⟩:=hO2.form;try refine O ?_
 refine st1 rfl ?_;refine Gh.to ((w,wrO (.slice va (l++Ev x.length++x).length vc))::(Y2++F)) (Gh.done (hk Y2 _ I2 (hI1.trans hI2) ?_));rw [GM,←List.append_assoc];exact hO2
theorem ST {w:Nat}{v:Value}{Y F:LH}{l:List UInt8}{p:TSpan}{pc:List Value}(hO:OB Y v l)(hp:DO I p pc)(hl:l.length≤90000000000)(hx:p.fFrom.length≤1000000000)(hy:p.fTo.length≤1000000000)
  (hk:∀Y' v' I',Ext I I'→OB Y' v' (l++(GM p.fFrom++GM p.fTo))→K (.tuple #[]) I' ((w,wrO v')::(Y'++F))):CT ω 65 #[pt w,.agg pc.toArray] K I ((w,wrO v)::(Y++F)):=by
 obtain ⟨v0,v1,rfl,g0,g1⟩:=hp;refine ANP ?_;unfold AJX;refine AQ (λb1=>?_);try refine O ?_
 refine rdb ?_;have h9:=Cp (b:=p.fFrom) (by omega);refine call (Cal.perm (L':=(w,wrO v)::(Y++((b1,.cells #[v0,v1] 31 (0,0))::F))) (AO (by ((try simp only [AJ,AM,AU,AP]);(try ac_rfl)))) (Dv hO g0 (by omega) (by omega) (λY1 v1' I1 hI1 hO1=>?_)));try refine O ?_
 refine rdb ?_;refine call (Dv hO1 (g1.mono hI1) (by rw [List.length_append];omega) (by omega) (λY2 v2 I2 hI2 hO2=>?_));refine Gh.to ((w,wrO v2)::(Y2++F)) (Gh.done (hk Y2 v2 I2 (hI1.trans hI2) ?_));rw [←List.append_assoc];exact hO2
end
section
variable {ω:Om}{I:Imm}{L:LH}{K:Value→M}
end
def KM:TCmd:=⟨3,1,1,z0,z0,0,false,false,[97],[120],⟨[],[]⟩,0⟩
def cmdG:TCmd:=⟨1,1,0,z0,z0,0,false,false,[97],[],⟨[],[]⟩,0⟩
def GU:TSpan:=⟨[],[]⟩
theorem AKM:BV KM=true:=by decide
theorem AKN:BV cmdG=true:=by decide
theorem AOM {m:Mch}{c:TCmd}(h:BV c=true)(hk:c.fKind=3):Ap m c=Al (Bm m c):=by
 unfold Ap;rw [if_neg (by simp [h])];unfold doM;simp [hk]
theorem AON {m:Mch}{c:TCmd}(h:BV c=true)(hk:c.fKind=1):Ap m c=Al (FF m c):=by
 unfold Ap;rw [if_neg (by simp [h])];unfold doM;simp [hk]
theorem AMS:(Bm (GO GU) KM).1.fCode=0:=by decide
theorem AMT:(Bm (GO GU) KM).2.marks=[]:=by decide
theorem AMU:(FF (Bm (GO GU) KM).2 cmdG).1.fCode=0∧(FF (Bm (GO GU) KM).2 cmdG).1.fGot.fValue=[120]:=by decide
section
variable {ω:Om}{I:Imm}{L:LH}{K:Value→M}
theorem AJz {c:UInt8}(hk:∀u I',Ext I I'→Bytes I' u [c]→K u I' L):Aq 5 1 #[.int .u8 0] 1 [(0,.int .u8 c.toNat)] (gh λv=>Tx v (gh K)) I L:=by
 refine Mu rfl (by omega) rfl (λX u hX=>Gh.done ?_);have hX':OB X u [c]:=by unfold OB;simpa [Value.cells,u8s] using hX
 by_cases h0:X=[]
 ·subst h0;exfalso
  obtain ⟨_,h⟩:=hX';rcases h with ⟨_,h,_⟩|⟨b,cap,cs,h,_⟩
  ·simp at h
  ·cases h
 ·exact AHx hX' h0 (λI' hI hS=>hk u I' hI hS)
theorem Tu (hk:∀I',Ext I I'→K (.bool true) I' L):CT ω 10 #[] K I L:=by
 refine ANp ?_;unfold sh10;try refine O ?_
 refine call (JV (p:=GU) ⟨_,_,rfl,Fh I,Fh I⟩ (λh=>by cases h) (λ_ b X I1 hI1 hX=>?_));try refine O ?_
 refine AJz (c:=97) (λu1 I2 hI2 hB2=>?_);refine AJz (c:=120) (λu2 I3 hI3 hB3=>?_);obtain ⟨a1,k1,rfl⟩:=Bytes.form hB2;obtain ⟨a2,k2,rfl⟩:=Bytes.form hB3;try refine O ?_
 have e1:=AOM (m:=GO GU) AKM rfl;have hM0:=Vr (p:=GU) (by decide);have hM1:=Oh (c:=KM) hM0;rw [e1] at hM1;refine call (ID (c:=KM) hM0 (by omega) (hX.mono (hI2.trans hI3)) ⟨_,_,_,_,rfl,hB2.mono hI3,hB3,Fh I3,Fh I3⟩ ⟨by decide,by decide,by decide,by decide⟩ (λh=>by cases h) (λh=>by cases h) (λI4 X1 cells hI4 hX1 hr=>?_));rw [e1] at hX1 hr ⊢;refine ⟨λ_=>?_,λm2 b2 X2 h=>by cases h⟩;replace hX1:MchR I4 b X1 (Bm (GO GU) KM).2:=hX1
 replace hr:TResV I4 (Bm (GO GU) KM).1 cells:=hr
 replace hM1:MOk (Bm (GO GU) KM).2 (0+1):=hM1.2.1
 have hP:=AMS;have hPm:=AMT;have hG:=AMU;generalize (Bm (GO GU) KM).1=r1 at *;generalize (Bm (GO GU) KM).2=m1 at *;have hr1:=hr.one;obtain ⟨y0,y1,rfl,t0,t1⟩:=id hr;try refine O ?_
 refine AQ (λq1=>?_);refine stB rfl rfl hr1 ?_;refine AJz (c:=97) (λu3 I5 hI5 hB5=>?_);obtain ⟨a3,k3,rfl⟩:=Bytes.form hB5;try refine O ?_
 have e2:=AON (m:=m1) AKN rfl;have hfl:Ed m1 cmdG.fKey=false:=by unfold Ed;rw [hPm];rfl
 refine call (Cal.split X1 (ID (c:=cmdG) hM1 (by omega) (hX1.mono hI5) ⟨_,_,_,_,rfl,hB5,Fh I5,Fh I5,Fh I5⟩ ⟨by decide,by decide,by decide,by decide⟩ (λh=>by rw [hfl] at h;cases h) (λh=>by cases h) (λI6 X2 cells2 hI6 hX2 hr2=>?_)));rw [e2] at hX2 hr2 ⊢;refine ⟨λ_=>?_,λm2 b2 X2 h=>by cases h⟩;replace hr2:TResV I6 (FF m1 cmdG).1 cells2:=hr2
 generalize (FF m1 cmdG).1=r2 at *;have hr3:=hr2.one;obtain ⟨z1,z2,rfl,s0,s1⟩:=id hr2;try refine O ?_
 refine AQ (λq2=>?_);refine stB rfl rfl hr3 ?_;have hI06:=hI1.trans (hI2.trans (hI3.trans (hI4.trans (hI5.trans hI6))));rw [hG.2] at s0;repeat' (first|refine Γ ?_|(with_reducible first|refine AQ (λ_=>?_)|refine DF s0 (Ext.refl _) ?_)|refine Δ ?_|(with_reducible first|refine AK (sh10.eq_1 ..) ?_|refine And.intro ?_ ?_)|refine Φ ?_|refine Ξ (λ_=>?_) (λ_=>?_)|(simp only [SSd,Nat.reduceAdd,hP,hG.1]))
 exact Gh.to L (Gh.done (hk I6 hI06))
end
def DJ (c:TCmd)(key span by' yes to most seq:Bool):Bool:=(!key||BJ c)&&((!span||CF c)&&((!by'||c.fBy==0)&&((!yes|| !c.fYes)&&((!to||Ek c)&&((!most||c.fMost==0)&&(!seq||c.fSeq==0))))))
theorem GI {K:Value→M}{I:Imm}{L:LH}{b b':Bool}(h:K (.bool b) I L)(e:b=b'):K (.bool b') I L:=e ▸ h
section
variable {ω:Om}{I:Imm}{L:LH}{K:Value→M}
theorem EG {l:List UInt8}:decide ((0:Int) < (l.length:Int))= !(l.length==0):=by
 cases l with
 |nil=>rfl
 |cons x l=>rw [Bool.eq_iff_iff];simp
theorem AFs {c:TCmd}{cc:List Value}(hc:TCmdV I c cc)(hk:K (.bool (DJ c false true true true true true true)) I L):CT ω 70 #[.agg cc.toArray,.bool false,.bool true,.bool true,.bool true,.bool true,.bool true,.bool true] K I L:=by
 obtain ⟨w0,w1,w2,w3,rfl,g0,g1,g2,g3⟩:=hc;refine Hf ?_;unfold sh70;repeat' (first|refine Γ ?_|refine Θ (λ_=>?_)|refine Δ ?_|(with_reducible first|refine AK (sh70.eq_1 ..) ?_|refine And.intro ?_ ?_)|refine Φ ?_|refine Ξ (λ_=>?_) (λ_=>?_)|(simp only [SSd,Nat.reduceAdd,Bytes.len g0,Bytes.len g1,Bytes.len g2,Bytes.len g3,EG]))
 all_goals (refine Gh.to L (Gh.done (GI hk ?_));simp_all [DJ,BJ,CF,Ek])
theorem AFr {c:TCmd}{cc:List Value}(hc:TCmdV I c cc)(hk:K (.bool (DJ c true false true true true false true)) I L):CT ω 70 #[.agg cc.toArray,.bool true,.bool false,.bool true,.bool true,.bool true,.bool false,.bool true] K I L:=by
 obtain ⟨w0,w1,w2,w3,rfl,g0,g1,g2,g3⟩:=hc;refine Hf ?_;unfold sh70;repeat' (first|refine Γ ?_|refine Θ (λ_=>?_)|refine Δ ?_|(with_reducible first|refine AK (sh70.eq_1 ..) ?_|refine And.intro ?_ ?_)|refine Φ ?_|refine Ξ (λ_=>?_) (λ_=>?_)|(simp only [SSd,Nat.reduceAdd,Bytes.len g0,Bytes.len g1,Bytes.len g2,Bytes.len g3,EG]))
 all_goals (refine Gh.to L (Gh.done (GI hk ?_));simp_all [DJ,BJ,CF,Ek])
theorem AFq {c:TCmd}{cc:List Value}(hc:TCmdV I c cc)(hk:K (.bool (DJ c false true true true true true false)) I L):CT ω 70 #[.agg cc.toArray,.bool false,.bool true,.bool true,.bool true,.bool true,.bool true,.bool false] K I L:=by
 obtain ⟨w0,w1,w2,w3,rfl,g0,g1,g2,g3⟩:=hc;refine Hf ?_;unfold sh70;repeat' (first|refine Γ ?_|refine Θ (λ_=>?_)|refine Δ ?_|(with_reducible first|refine AK (sh70.eq_1 ..) ?_|refine And.intro ?_ ?_)|refine Φ ?_|refine Ξ (λ_=>?_) (λ_=>?_)|(simp only [SSd,Nat.reduceAdd,Bytes.len g0,Bytes.len g1,Bytes.len g2,Bytes.len g3,EG]))
 all_goals (refine Gh.to L (Gh.done (GI hk ?_));simp_all [DJ,BJ,CF,Ek])
theorem AFp {c:TCmd}{cc:List Value}(hc:TCmdV I c cc)(hk:K (.bool (DJ c true false true true false true false)) I L):CT ω 70 #[.agg cc.toArray,.bool true,.bool false,.bool true,.bool true,.bool false,.bool true,.bool false] K I L:=by
 obtain ⟨w0,w1,w2,w3,rfl,g0,g1,g2,g3⟩:=hc;refine Hf ?_;unfold sh70;repeat' (first|refine Γ ?_|refine Θ (λ_=>?_)|refine Δ ?_|(with_reducible first|refine AK (sh70.eq_1 ..) ?_|refine And.intro ?_ ?_)|refine Φ ?_|refine Ξ (λ_=>?_) (λ_=>?_)|(simp only [SSd,Nat.reduceAdd,Bytes.len g0,Bytes.len g1,Bytes.len g2,Bytes.len g3,EG]))
 all_goals (refine Gh.to L (Gh.done (GI hk ?_));simp_all [DJ,BJ,CF,Ek])
theorem AFo {c:TCmd}{cc:List Value}(hc:TCmdV I c cc)(hk:K (.bool (DJ c true true true true true true false)) I L):CT ω 70 #[.agg cc.toArray,.bool true,.bool true,.bool true,.bool true,.bool true,.bool true,.bool false] K I L:=by
 obtain ⟨w0,w1,w2,w3,rfl,g0,g1,g2,g3⟩:=hc;refine Hf ?_;unfold sh70;repeat' (first|refine Γ ?_|refine Θ (λ_=>?_)|refine Δ ?_|(with_reducible first|refine AK (sh70.eq_1 ..) ?_|refine And.intro ?_ ?_)|refine Φ ?_|refine Ξ (λ_=>?_) (λ_=>?_)|(simp only [SSd,Nat.reduceAdd,Bytes.len g0,Bytes.len g1,Bytes.len g2,Bytes.len g3,EG]))
 all_goals (refine Gh.to L (Gh.done (GI hk ?_));simp_all [DJ,BJ,CF,Ek])
theorem AFn {c:TCmd}{cc:List Value}(hc:TCmdV I c cc)(hk:K (.bool (DJ c true true true false true true true)) I L):CT ω 70 #[.agg cc.toArray,.bool true,.bool true,.bool true,.bool false,.bool true,.bool true,.bool true] K I L:=by
 obtain ⟨w0,w1,w2,w3,rfl,g0,g1,g2,g3⟩:=hc;refine Hf ?_;unfold sh70;repeat' (first|refine Γ ?_|refine Θ (λ_=>?_)|refine Δ ?_|(with_reducible first|refine AK (sh70.eq_1 ..) ?_|refine And.intro ?_ ?_)|refine Φ ?_|refine Ξ (λ_=>?_) (λ_=>?_)|(simp only [SSd,Nat.reduceAdd,Bytes.len g0,Bytes.len g1,Bytes.len g2,Bytes.len g3,EG]))
 all_goals (refine Gh.to L (Gh.done (GI hk ?_));simp_all [DJ,BJ,CF,Ek])
theorem AFm {c:TCmd}{cc:List Value}(hc:TCmdV I c cc)(hk:K (.bool (DJ c true true false true true true true)) I L):CT ω 70 #[.agg cc.toArray,.bool true,.bool true,.bool false,.bool true,.bool true,.bool true,.bool true] K I L:=by
 obtain ⟨w0,w1,w2,w3,rfl,g0,g1,g2,g3⟩:=hc;refine Hf ?_;unfold sh70;repeat' (first|refine Γ ?_|refine Θ (λ_=>?_)|refine Δ ?_|(with_reducible first|refine AK (sh70.eq_1 ..) ?_|refine And.intro ?_ ?_)|refine Φ ?_|refine Ξ (λ_=>?_) (λ_=>?_)|(simp only [SSd,Nat.reduceAdd,Bytes.len g0,Bytes.len g1,Bytes.len g2,Bytes.len g3,EG]))
 all_goals (refine Gh.to L (Gh.done (GI hk ?_));simp_all [DJ,BJ,CF,Ek])
theorem AFl {c:TCmd}{cc:List Value}(hc:TCmdV I c cc)(hk:K (.bool (DJ c true true true true true true true)) I L):CT ω 70 #[.agg cc.toArray,.bool true,.bool true,.bool true,.bool true,.bool true,.bool true,.bool true] K I L:=by
 obtain ⟨w0,w1,w2,w3,rfl,g0,g1,g2,g3⟩:=hc;refine Hf ?_;unfold sh70;repeat' (first|refine Γ ?_|refine Θ (λ_=>?_)|refine Δ ?_|(with_reducible first|refine AK (sh70.eq_1 ..) ?_|refine And.intro ?_ ?_)|refine Φ ?_|refine Ξ (λ_=>?_) (λ_=>?_)|(simp only [SSd,Nat.reduceAdd,Bytes.len g0,Bytes.len g1,Bytes.len g2,Bytes.len g3,EG]))
 all_goals (refine Gh.to L (Gh.done (GI hk ?_));simp_all [DJ,BJ,CF,Ek])
theorem AFk {c:TCmd}{cc:List Value}(hc:TCmdV I c cc)(hk:K (.bool (DJ c true false true false true true true)) I L):CT ω 70 #[.agg cc.toArray,.bool true,.bool false,.bool true,.bool false,.bool true,.bool true,.bool true] K I L:=by
 obtain ⟨w0,w1,w2,w3,rfl,g0,g1,g2,g3⟩:=hc;refine Hf ?_;unfold sh70;repeat' (first|refine Γ ?_|refine Θ (λ_=>?_)|refine Δ ?_|(with_reducible first|refine AK (sh70.eq_1 ..) ?_|refine And.intro ?_ ?_)|refine Φ ?_|refine Ξ (λ_=>?_) (λ_=>?_)|(simp only [SSd,Nat.reduceAdd,Bytes.len g0,Bytes.len g1,Bytes.len g2,Bytes.len g3,EG]))
 all_goals (refine Gh.to L (Gh.done (GI hk ?_));simp_all [DJ,BJ,CF,Ek])
theorem AFj {c:TCmd}{cc:List Value}(hc:TCmdV I c cc)(hk:K (.bool (DJ c false true false true true true true)) I L):CT ω 70 #[.agg cc.toArray,.bool false,.bool true,.bool false,.bool true,.bool true,.bool true,.bool true] K I L:=by
 obtain ⟨w0,w1,w2,w3,rfl,g0,g1,g2,g3⟩:=hc;refine Hf ?_;unfold sh70;repeat' (first|refine Γ ?_|refine Θ (λ_=>?_)|refine Δ ?_|(with_reducible first|refine AK (sh70.eq_1 ..) ?_|refine And.intro ?_ ?_)|refine Φ ?_|refine Ξ (λ_=>?_) (λ_=>?_)|(simp only [SSd,Nat.reduceAdd,Bytes.len g0,Bytes.len g1,Bytes.len g2,Bytes.len g3,EG]))
 all_goals (refine Gh.to L (Gh.done (GI hk ?_));simp_all [DJ,BJ,CF,Ek])
theorem Qk {a:Int}(hk:K (.bool (decide (0≤a∧a≤9007199254740991))) I L):CT ω 69 #[.int .i64 a] K I L:=by
 refine ANL ?_;unfold sh69;repeat' (first|refine Γ ?_|refine Θ (λ_=>?_)|refine Δ ?_|(with_reducible first|refine AK (sh69.eq_1 ..) ?_|refine And.intro ?_ ?_)|refine Φ ?_|refine Ξ (λ_=>?_) (λ_=>?_)|refine O ?_|fail)
 all_goals (refine Gh.done (CA hk ?_);simp_all <;> omega)
theorem GW {a:Int}(hk:K (.bool (BU a)) I L):CT ω 67 #[.int .i64 a] K I L:=by
 refine ANN ?_;unfold AJW;exact call (EK (Gh.done hk))
theorem Ib {p:TSpan}{c:List Value}(hp:DO I p c)(hk:K (.bool (CC p)) I L):CT ω 45 #[.agg c.toArray] K I L:=by
 obtain ⟨v0,v1,rfl,h0,h1⟩:=hp;refine ANb ?_;unfold sh45;have hb:blt p.fFrom p.fTo= !(blt p.fTo p.fFrom||p.fTo==p.fFrom):=by
  rw [Bool.eq_iff_iff];simp only [Bool.not_eq_true',Bool.or_eq_false_iff,beq_eq_false_iff_ne,ne_eq];constructor
  ·intro h;exact ⟨CZ h,λe=>by rw [e,BM] at h;cases h⟩
  ·rintro ⟨h2,h3⟩;cases h4:blt p.fFrom p.fTo with
   |true=>rfl
   |false=>exact absurd (DG _ _ h2 h4) h3
 repeat' (first|refine Γ ?_|(with_reducible first|refine AQ (λ_=>?_)|refine DF h0 (Ext.refl _) ?_|refine DF h1 (Ext.refl _) ?_)|refine Δ ?_|(with_reducible first|refine AK (sh45.eq_1 ..) ?_|refine And.intro ?_ ?_)|refine Φ ?_|refine Ξ (λ_=>?_) (λ_=>?_)|(simp only [SSd,Nat.reduceAdd,Bytes.len h0,Bytes.len h1]))
 all_goals (refine Gh.to L (Gh.done (CA hk ?_));simp only [CC,hb];rw [Bool.eq_iff_iff];simp_all)
 all_goals first|done|(intros;omega)|(intros;exact ⟨by omega,by omega⟩)
set_option maxHeartbeats 4000000 in
theorem Qb {c:TCmd}{w0 w1 w2 w3:Value}{b1:Nat}(g0:Bytes I w0 c.fKey)(g1:Bytes I w1 c.fValue)(g2:Bytes I w2 c.fSpan.fFrom)(g3:Bytes I w3 c.fSpan.fTo)(hsq:0≤c.fSeq∧c.fSeq≤9007199254740991)
  {nn:Bool} (hn:nn=(c.fTxn==0&&Pg c)) (hk:K (.bool (kindOk c)) I L):
  Br (.bool (c.fKind==1))
   (sh20_2 ω (pt b1) (.bool false) (.bool (BU c.fTxn)) (.bool (Aj c.fKey)) (λv=>Gh (K v)))
   (sh20_3 ω (pt b1) (.bool false) (.bool (BU c.fTxn)) (.bool (Aj c.fKey)) (.bool true) (.bool nn) (.int .i64 c.fKind) (λv=>Gh (K v))) I
   ((b1,DU c w0 w1 w2 w3)::L):=by
 have hc:TCmdV I c _:=⟨w0,w1,w2,w3,rfl,g0,g1,g2,g3⟩;have h12:c.fKind=1∨c.fKind=2∨c.fKind=3∨c.fKind=4∨c.fKind=5∨c.fKind=6∨c.fKind=7∨c.fKind=8∨c.fKind=9∨c.fKind=10∨c.fKind=11∨(c.fKind < 1∨11 < c.fKind):=by omega
 rcases h12 with hK|hK|hK|hK|hK|hK|hK|hK|hK|hK|hK|hK
 rotate_right
 ·have n1:c.fKind≠1:=by omega
  have n2:c.fKind≠2:=by omega
  have n3:c.fKind≠3:=by omega
  have n4:c.fKind≠4:=by omega
  have n5:c.fKind≠5:=by omega
  have n6:c.fKind≠6:=by omega
  have n7:c.fKind≠7:=by omega
  have n8:c.fKind≠8:=by omega
  have n9:c.fKind≠9:=by omega
  have n10:c.fKind≠10:=by omega
  have n11:c.fKind≠11:=by omega
  have hz:kindOk c=false:=by unfold kindOk;simp [n1,n2,n3,n4,n5,n6,n7,n8,n9,n10,n11]
  have beq:∀n:Int,c.fKind≠n→(c.fKind==n)=false:=λn h=>by simpa using h
  rw [beq _ n1];repeat' (first|refine Γ ?_|refine Θ (λ_=>?_)|refine Δ ?_|(with_reducible first|refine AK (sh20_2.eq_1 ..) ?_|refine AK (sh20_3.eq_1 ..) ?_|refine AK (sh20.eq_1 ..) ?_|refine And.intro ?_ ?_)|refine Φ ?_|refine Ξ (λ_=>?_) (λ_=>?_)|(simp only [SSd,Nat.reduceAdd,beq _ n1,beq _ n2,beq _ n3,beq _ n4,beq _ n5,beq _ n6,beq _ n7,beq _ n8,beq _ n9,beq _ n10,beq _ n11]))
  all_goals (rw [hz] at hk;exact Gh.to L (Gh.done hk))
 all_goals have beq:∀n:Int,(c.fKind==n)=(_==n):=λn=>by rw [hK]
 all_goals rw [beq 1]
 all_goals repeat' (first|refine Γ ?_|refine Θ (λ_=>?_)|(refine Ψ ?_;refine (GW ?_))|(refine Ψ ?_;with_reducible refine AFs hc ?_)|(refine Ψ ?_;with_reducible refine AFr hc ?_)|(refine Ψ ?_;with_reducible refine AFq hc ?_)|(refine Ψ ?_;with_reducible refine AFp hc ?_)|(refine Ψ ?_;with_reducible refine AFo hc ?_)|(refine Ψ ?_;with_reducible refine AFn hc ?_)|(refine Ψ ?_;with_reducible refine AFm hc ?_)|(refine Ψ ?_;with_reducible refine AFl hc ?_)|(refine Ψ ?_;with_reducible refine AFk hc ?_)|(refine Ψ ?_;with_reducible refine AFj hc ?_)|refine Δ ?_|(with_reducible first|refine AK (sh20_2.eq_1 ..) ?_|refine AK (sh20_3.eq_1 ..) ?_|refine AK (sh20.eq_1 ..) ?_|refine And.intro ?_ ?_)|refine Φ ?_|refine Ξ (λ_=>?_) (λ_=>?_)|(simp only [SSd,Nat.reduceAdd,beq,Bytes.len g1]))
 all_goals clear beq
 all_goals (refine Gh.to L (Gh.done (GI hk ?_));simp_all [kindOk,DJ,Ea,CF,BJ,Ek,Pg,Ai])
 all_goals first|done|(intros;omega)|(rw [Bool.eq_iff_iff];simp;omega)
end
section
variable {ω:Om}{I:Imm}{L:LH}{K:Value→M}
set_option maxHeartbeats 4000000 in
theorem PO {c:TCmd}{w0 w1 w2 w3:Value}{b1:Nat}(g0:Bytes I w0 c.fKey)(g1:Bytes I w1 c.fValue)(g2:Bytes I w2 c.fSpan.fFrom)(g3:Bytes I w3 c.fSpan.fTo)(hsq:¬c.fSeq=0)
  {nn:Bool} (hn:nn=(c.fTxn==0&&Pg c)) (hk:K (.bool false) I L):
  Br (.bool (c.fKind==1))
   (sh20_2 ω (pt b1) (.bool false) (.bool (BU c.fTxn)) (.bool (Aj c.fKey)) (λv=>Gh (K v)))
   (sh20_3 ω (pt b1) (.bool false) (.bool (BU c.fTxn)) (.bool (Aj c.fKey)) (.bool false) (.bool nn) (.int .i64 c.fKind) (λv=>Gh (K v))) I
   ((b1,DU c w0 w1 w2 w3)::L):=by
 have hc:TCmdV I c _:=⟨w0,w1,w2,w3,rfl,g0,g1,g2,g3⟩;have h12:c.fKind=1∨c.fKind=2∨c.fKind=3∨c.fKind=4∨c.fKind=5∨c.fKind=6∨c.fKind=7∨c.fKind=8∨c.fKind=9∨c.fKind=10∨c.fKind=11∨(c.fKind < 1∨11 < c.fKind):=by omega
 rcases h12 with hK|hK|hK|hK|hK|hK|hK|hK|hK|hK|hK|hK
 rotate_right
 ·have n1:c.fKind≠1:=by omega
  have n2:c.fKind≠2:=by omega
  have n3:c.fKind≠3:=by omega
  have n4:c.fKind≠4:=by omega
  have n5:c.fKind≠5:=by omega
  have n6:c.fKind≠6:=by omega
  have n7:c.fKind≠7:=by omega
  have n8:c.fKind≠8:=by omega
  have n9:c.fKind≠9:=by omega
  have n10:c.fKind≠10:=by omega
  have n11:c.fKind≠11:=by omega
  have beq:∀n:Int,c.fKind≠n→(c.fKind==n)=false:=λn h=>by simpa using h
  rw [beq _ n1];repeat' (first|refine Γ ?_|refine Θ (λ_=>?_)|refine Δ ?_|(with_reducible first|refine AK (sh20_2.eq_1 ..) ?_|refine AK (sh20_3.eq_1 ..) ?_|refine AK (sh20.eq_1 ..) ?_|refine And.intro ?_ ?_)|refine Φ ?_|refine Ξ (λ_=>?_) (λ_=>?_)|(simp only [SSd,Nat.reduceAdd,beq _ n1,beq _ n2,beq _ n3,beq _ n4,beq _ n5,beq _ n6,beq _ n7,beq _ n8,beq _ n9,beq _ n10,beq _ n11]))
  all_goals exact Gh.to L (Gh.done hk)
 all_goals have beq:∀n:Int,(c.fKind==n)=(_==n):=λn=>by rw [hK]
 all_goals rw [beq 1]
 all_goals repeat' (first|refine Γ ?_|refine Θ (λ_=>?_)|(refine Ψ ?_;refine (GW ?_))|(refine Ψ ?_;with_reducible refine AFs hc ?_)|(refine Ψ ?_;with_reducible refine AFr hc ?_)|(refine Ψ ?_;with_reducible refine AFq hc ?_)|(refine Ψ ?_;with_reducible refine AFp hc ?_)|(refine Ψ ?_;with_reducible refine AFo hc ?_)|(refine Ψ ?_;with_reducible refine AFn hc ?_)|(refine Ψ ?_;with_reducible refine AFm hc ?_)|(refine Ψ ?_;with_reducible refine AFl hc ?_)|(refine Ψ ?_;with_reducible refine AFk hc ?_)|(refine Ψ ?_;with_reducible refine AFj hc ?_)|refine Δ ?_|(with_reducible first|refine AK (sh20_2.eq_1 ..) ?_|refine AK (sh20_3.eq_1 ..) ?_|refine AK (sh20.eq_1 ..) ?_|refine And.intro ?_ ?_)|refine Φ ?_|refine Ξ (λ_=>?_) (λ_=>?_)|(simp only [SSd,Nat.reduceAdd,beq,Bytes.len g1]))
 all_goals clear beq
 all_goals (refine Gh.to L (Gh.done (GI hk ?_));simp_all [DJ,Ea,CF,BJ,Ek,Pg,Ai])
 all_goals first|done|(intros;omega)|(rw [Bool.eq_iff_iff];simp;omega)
theorem NI {c:TCmd}{cc:List Value}(hc:TCmdV I c cc)(hk:K (.bool (BV c)) I L):CT ω 20 #[.agg cc.toArray] K I L:=by
 obtain ⟨w0,w1,w2,w3,rfl,g0,g1,g2,g3⟩:=hc;obtain ⟨y0,z0',rfl⟩:=Bytes.form g0;obtain ⟨y1,z1,rfl⟩:=Bytes.form g1;obtain ⟨y2,z2,rfl⟩:=Bytes.form g2;obtain ⟨y3,z3,rfl⟩:=Bytes.form g3;refine ANk ?_;unfold sh20;refine AQ (λb1=>?_);try refine O ?_
 refine rdP [.int .i64 c.fAt.fWall,.int .i64 c.fAt.fLogic] rfl rfl ?_;refine call (Bl (x:=c.fAt) ?_);try refine O ?_
 refine rdP [.int .i64 c.fTo.fWall,.int .i64 c.fTo.fLogic] rfl rfl ?_;refine call (Bl (x:=c.fTo) ?_);try refine O ?_
 refine rdb ?_;refine call (GW ?_);try refine O ?_
 refine rdb ?_;refine call (EL g0 ?_);try refine O ?_
 refine rdP _ rfl rfl ?_;refine call (Ib (p:=c.fSpan) ⟨_,_,rfl,g2,g3⟩ ?_);try refine O ?_
 refine rdb ?_;refine call (Qk ?_);try refine O ?_
 refine AV (λe1=>?_) (λe1=>?_);rotate_left
 ·exact Gh.to L (Gh.done (CA hk (by simp_all [BV])))
 try refine O ?_
 refine AV (λe2=>?_) (λe2=>?_);rotate_left
 ·exact Gh.to L (Gh.done (CA hk (by simp_all [BV])))
 try refine O ?_
 refine AF (λe3=>?_) (λe3=>?_)
 ·exact Gh.to L (Gh.done (CA hk (by simp_all [BV])))
 have e1':AN c.fAt=true:=by simpa using e1
 have e2':AN c.fTo=true:=by simpa using e2
 have e3':CC c.fSpan=true:=by simpa using e3
 have hz:BV c=(decide (0≤c.fSeq∧c.fSeq≤9007199254740991)&&kindOk c):=by unfold BV;rw [e1',e2',e3'];rfl
 rw [hz] at hk;have fin:∀nn:Bool,nn=(c.fTxn==0&&Pg c)→Br (.bool (c.fKind==1))
   (sh20_2 ω (pt b1) (.bool false) (.bool (BU c.fTxn)) (.bool (Aj c.fKey)) (λv=>Gh (K v)))
   (sh20_3 ω (pt b1) (.bool false) (.bool (BU c.fTxn)) (.bool (Aj c.fKey)) (.bool (decide (0≤c.fSeq∧c.fSeq≤9007199254740991))) (.bool nn) (.int .i64 c.fKind) (λv=>Gh (K v))) I
   ((b1,DU c (.slice y0 c.fKey.length z0') (.slice y1 c.fValue.length z1) (.slice y2 c.fSpan.fFrom.length z2) (.slice y3 c.fSpan.fTo.length z3))::L):=by
  intro nn hn;by_cases hs:0≤c.fSeq∧c.fSeq≤9007199254740991
  ·rw [decide_eq_true hs] at hk ⊢;exact Qb g0 g1 g2 g3 hs hn hk
  ·rw [decide_eq_false hs] at hk ⊢;exact PO g0 g1 g2 g3 (by omega) hn hk
 refine rdb ?_;try refine O ?_
 refine AV (λe4=>?_) (λe4=>?_)
 ·try refine O ?_
  refine rdP [.int .i64 c.fAt.fWall,.int .i64 c.fAt.fLogic] rfl rfl ?_;try refine O ?_
  refine rdb ?_;try refine O ?_
  exact fin _ (by unfold Pg;rw [e4,Bool.true_and])
 ·try refine O ?_
  refine rdb ?_;try refine O ?_
  exact fin _ (by have:(c.fTxn==0)=false:=(by simpa using e4);rw [this,Bool.false_and])
end
theorem AIB {c:TCmd}(h:AFy reachBytes c):Lens c:=by
 have e:reachBytes=140737488351232:=by rfl
 obtain ⟨_,_,_,_,_,_,h1,h2,⟨h3,h4⟩,_⟩:=h;exact ⟨by omega,by omega,by omega,by omega⟩
section
variable {ω:Om}{I:Imm}{L:LH}{K:Value→M}{br:Nat}{V:RV}{m:Mch}{R:LH}
def Fy (m:Mch)(c:TCmd):TRes×Mch:=
 if c.fKind=3 then Bm m c else if c.fKind=4 then CV m c else if c.fKind=5 then DA m c else if c.fKind=6 then FV m c else if c.fKind=7 then Do m c else if c.fKind=8 then FU m c else if c.fKind=9 then Ej m c else Rf m c
theorem Ig {r:TRes}(h:plainR r):r=⟨r.fCode,BE,[],r.fAt,r.fBy,r.fState⟩:=by
 obtain ⟨h1,h2⟩:=h;cases r;simp_all
theorem YL {r:TRes}{m':Mch}{c:TCmd}(h:DA m c=(r,m')):r=⟨r.fCode,BE,[],r.fAt,r.fBy,r.fState⟩:=by
 have:=Mv (m:=m) (c:=c);rw [h] at this;exact Ig this.1
theorem YA {I':Imm}{vV':Value}{a:TStamp}(hF:RF14 I V m)(hI:Ext I I')(h1:RL TVersionV 5 I' [] vV' (Aa (colS m.sp a).rows))(h2:RL TIntentV 6 I' [] V.vI (intsOf (colS m.sp a).rows)):RF14 I' {V with vV:=vV'} {m with sp:=colS m.sp a,nt:=Px m.sp a m.nt}:=
 {hF.mono hI with vs:=h1,is:=h2}
theorem NK {c:TCmd}{cc:List Value}{N:Nat}(hF:RF14 I V m)(hM:MOk m N)(hN:N≤5000)(hc:TCmdV I c cc)(hk:PostR K br R I (Fy m c)):
  CT ω 53 #[pt br,.agg cc.toArray] K I (rL br V m R):=by
 have hsq:=GS (show N≤10000 by omega);have hvs:=hM.vers;have hrl:=hM.recsL;have hsl:=hM.seenL;have hc':=hc;obtain ⟨w0,w1,w2,w3,rfl,g0,g1,g2,g3⟩:=hc;refine ANT ?_;unfold AJb;refine AQ (λq1=>AQ (λq2=>?_));try refine O ?_
 refine rdb ?_;try refine O ?_
 refine AF (λe=>?_) (λe=>?_)
 ·have hE:Fy m c=Bm m c:=by unfold Fy;rw [if_pos (by simpa using e)]
  rw [hE] at hk;refine rdB rfl ?_;refine call (Cal.perm (L':=rL br V m (Af q1 q2 c w0 w1 w2 w3 R)) (AO (by ((try simp only [AJ,AM,AU,AP]);(try ac_rfl)))) (Qc hF hM (by omega) hc' (λI' V' cells hI hF' hT=>?_)));have h1:=hT.one;obtain ⟨z1,z2,rfl,_,_⟩:=id hT;refine stB rfl rfl h1 ?_;refine rdB rfl ?_;exact Gh.to (rL br V' _ R) (Gh.done (hk I' V' _ hI hF' hT))
 have n3:¬c.fKind=3:=by simpa using e
 try refine O ?_
 refine AF (λe=>?_) (λe=>?_)
 ·have hE:Fy m c=CV m c:=by unfold Fy;rw [if_neg n3,if_pos (by simpa using e)]
  rw [hE] at hk;refine rdB rfl ?_;refine call (Cal.perm (L':=rL br V m (Af q1 q2 c w0 w1 w2 w3 R)) (AO (by ((try simp only [AJ,AM,AU,AP]);(try ac_rfl)))) (KJ hF hM (by omega) hc' (λI' V' cells hI hF' hT=>?_)));have h1:=hT.one;obtain ⟨z1,z2,rfl,_,_⟩:=id hT;refine stB rfl rfl h1 ?_;refine rdB rfl ?_;exact Gh.to (rL br V' _ R) (Gh.done (hk I' V' _ hI hF' hT))
 have n4:¬c.fKind=4:=by simpa using e
 try refine O ?_
 refine AF (λe=>?_) (λe=>?_)
 ·have hE:Fy m c=DA m c:=by unfold Fy;rw [if_neg n3,if_neg n4,if_pos (by simpa using e)]
  rw [hE] at hk;refine rdB rfl ?_;refine call (Cal.perm (L':=rL br V m (Af q1 q2 c w0 w1 w2 w3 R)) (AO (by ((try simp only [AJ,AM,AU,AP]);(try ac_rfl)))) (Qm hF hM.recs hM.seen (by omega) (by omega) hc' (λr m' hx I' V' hI hF'=>?_)));have hp:=YL hx;rw [hx,hp] at hk;refine stB rfl rfl (AH rfl) ?_;refine rdB rfl ?_;exact Gh.to (rL br V' _ R) (Gh.done (hk.at rfl hI hF'))
 have n5:¬c.fKind=5:=by simpa using e
 try refine O ?_
 refine AF (λe=>?_) (λe=>?_)
 ·have hE:Fy m c=FV m c:=by unfold Fy;rw [if_neg n3,if_neg n4,if_neg n5,if_pos (by simpa using e)]
  rw [hE] at hk;refine rdB rfl ?_;refine call (Cal.perm (L':=rL br V m (Af q1 q2 c w0 w1 w2 w3 R)) (AO (by ((try simp only [AJ,AM,AU,AP]);(try ac_rfl)))) (XP hF hM.recs (by omega) hc' (λr m' hx V' hF'=>?_)));have hp:r=⟨r.fCode,BE,[],r.fAt,r.fBy,r.fState⟩:=by have:=Mj (m:=m) (c:=c);rw [hx] at this;exact Ig this.1
  rw [hx,hp] at hk;refine stB rfl rfl (AH rfl) ?_;refine rdB rfl ?_;exact Gh.to (rL br V' _ R) (Gh.done (hk.at rfl (Ext.refl _) hF'))
 have n6:¬c.fKind=6:=by simpa using e
 try refine O ?_
 refine AF (λe=>?_) (λe=>?_)
 ·have hE:Fy m c=Do m c:=by unfold Fy;rw [if_neg n3,if_neg n4,if_neg n5,if_neg n6,if_pos (by simpa using e)]
  rw [hE] at hk;refine rdB rfl ?_;refine call (Cal.perm (L':=rL br V m (Af q1 q2 c w0 w1 w2 w3 R)) (AO (by ((try simp only [AJ,AM,AU,AP]);(try ac_rfl)))) (Su hF hM.recs (by omega) hc' (λr m' hx V' hF'=>?_)));have hp:r=⟨r.fCode,BE,[],r.fAt,r.fBy,r.fState⟩:=by have:=Jp (m:=m) (c:=c);rw [hx] at this;exact Ig this.1
  rw [hx,hp] at hk;refine stB rfl rfl (AH rfl) ?_;refine rdB rfl ?_;exact Gh.to (rL br V' _ R) (Gh.done (hk.at rfl (Ext.refl _) hF'))
 have n7:¬c.fKind=7:=by simpa using e
 try refine O ?_
 refine AF (λe=>?_) (λe=>?_)
 ·have hE:Fy m c=FU m c:=by unfold Fy;rw [if_neg n3,if_neg n4,if_neg n5,if_neg n6,if_neg n7,if_pos (by simpa using e)]
  rw [hE] at hk;refine rdB rfl ?_;refine call (Cal.perm (L':=rL br V m (Af q1 q2 c w0 w1 w2 w3 R)) (AO (by ((try simp only [AJ,AM,AU,AP]);(try ac_rfl)))) (PR hF hM.recs (by omega) hc' (λr m' hx V' hF'=>?_)));have hp:r=⟨r.fCode,BE,[],r.fAt,r.fBy,r.fState⟩:=by have:=MZ (m:=m) (c:=c);rw [hx] at this;exact Ig this.1
  rw [hx,hp] at hk;refine stB rfl rfl (AH rfl) ?_;refine rdB rfl ?_;exact Gh.to (rL br V' _ R) (Gh.done (hk.at rfl (Ext.refl _) hF'))
 have n8:¬c.fKind=8:=by simpa using e
 try refine O ?_
 refine AF (λe=>?_) (λe=>?_)
 ·have hE:Fy m c=Ej m c:=by unfold Fy;rw [if_neg n3,if_neg n4,if_neg n5,if_neg n6,if_neg n7,if_neg n8,if_pos (by simpa using e)]
  rw [hE] at hk;refine rdB rfl ?_;refine call (Cal.perm (L':=rL br V m (Af q1 q2 c w0 w1 w2 w3 R)) (AO (by ((try simp only [AJ,AM,AU,AP]);(try ac_rfl)))) (KI hF hM hN hc' (λI' V' cells hI hF' hT=>?_)));have h1:=hT.one;obtain ⟨z1,z2,rfl,_,_⟩:=id hT;refine stB rfl rfl h1 ?_;refine rdB rfl ?_;exact Gh.to (rL br V' _ R) (Gh.done (hk I' V' _ hI hF' hT))
 have n9:¬c.fKind=9:=by simpa using e
 have hE:Fy m c=Rf m c:=by unfold Fy;rw [if_neg n3,if_neg n4,if_neg n5,if_neg n6,if_neg n7,if_neg n8,if_neg n9]
 rw [hE] at hk;refine AZ ?_;try refine O ?_
 refine Ab ?_;try refine O ?_
 refine Cv [.int .i64 c.fAt.fWall,.int .i64 c.fAt.fLogic] rfl rfl ?_;refine call (Cal.pick V.bs (NM (sp:=m.sp) (below:=c.fAt) hF.vs hF.is hM.sp (by omega) (λI2 vV2 hI2 h2 h2'=>?_)));try refine O ?_
 refine stB rfl rfl (AH rfl) ?_;refine rdB rfl ?_;exact Gh.to (rL br {V with vV:=vV2} {m with sp:=colS m.sp c.fAt,nt:=Px m.sp c.fAt m.nt} R) (Gh.done (hk.at rfl hI2 (YA hF hI2 h2 h2')))
end
section
variable {ω:Om}{I:Imm}{L:LH}{K:Value→M}{br:Nat}{V:RV}{m:Mch}{R:LH}
theorem AIO {c:TCmd}(h1:c.fKind≠1)(h2:c.fKind≠2)(h11:c.fKind≠11)(hk:1≤c.fKind∧c.fKind≤11):doM m c=Al (Fy m c):=by
 unfold doM Fy;rw [if_neg h1,if_neg h2];have:c.fKind=3∨c.fKind=4∨c.fKind=5∨c.fKind=6∨c.fKind=7∨c.fKind=8∨c.fKind=9∨c.fKind=10:=by omega
 rcases this with h|h|h|h|h|h|h|h <;> simp [h]
theorem TA {q1 q2 q3:Nat}{c:TCmd}{w0 w1 w2 w3 v0:Value}{g:TGot}{e:Int}(hF:RF14 I V m)(hs:SrtA blt m.marks)(hml:m.marks.length≤1000)(g0:Bytes I w0 c.fKey)(hv:Bytes I v0 g.fValue)
  (hk1:e≠0→PostA14 K br R I (Al (⟨e,BE,[],z0,g.fBy,0⟩,m))) (hk2:e=0→PostA14 K br R I (Al (⟨0,g,[],z0,0,0⟩,Cb m c.fKey c.fAt c.fTxn))):
  LV ω (pt br) (pt q1) (pt q2) (.pointer none) (pt q3) (.int .i64 e) (λv=>Gh (K v)) I ((q3,.cells #[.bool g.fFound,v0,.int .i64 g.fAt.fWall,.int .i64 g.fAt.fLogic,.int .i64 g.fBy] 49 (0,0))::rL br V m (Af q1 q2 c w0 w1 w2 w3 R)):=by
 unfold LV;try refine O ?_
 refine AF (λe1=>?_) (λe1=>?_)
 ·have hk1:=hk1 (by simpa using e1);try refine O ?_
  refine rdb ?_;try refine O ?_
  refine stB rfl rfl (AH rfl) ?_;refine rdB rfl ?_;exact Gh.to (rL br V m R) (Gh.done (hk1.plain (Ext.refl _) hF (Cm ..)))
 ·have hk2:=hk2 (by simpa using e1);obtain ⟨a0,c0,rfl⟩:=Bytes.form hv;try refine O ?_
  refine rdb ?_;try refine O ?_
  refine rdP [.int .i64 c.fAt.fWall,.int .i64 c.fAt.fLogic] rfl rfl ?_;try refine O ?_
  refine rdb ?_;refine call (Cal.perm (L':=rL br V m ((q3,.cells #[.bool g.fFound,.slice a0 g.fValue.length c0,.int .i64 g.fAt.fWall,.int .i64 g.fAt.fLogic,.int .i64 g.fBy] 49 (0,0))::Af q1 q2 c w0 w1 w2 w3 R)) (AO (by ((try simp only [AJ,AM,AU,AP]);(try ac_rfl)))) (Sx hF hs hml g0 (λV' hF'=>?_)));refine rdB rfl ?_;try refine O ?_
  refine stB rfl rfl (AH rfl) ?_;refine rdB rfl ?_;exact Gh.to (rL br V' _ R) (Gh.done (hk2.plain (Ext.refl _) hF' ⟨_,_,rfl,hv,RL.nil _ _⟩))
theorem NO {c:TCmd}{cc:List Value}{N:Nat}(hF:RF14 I V m)(hM:MOk m N)(hN:N≤5000)(hc:TCmdV I c cc)(hk:PostA14 K br R I (Ap m c)):
  CT ω 16 #[pt br,.agg cc.toArray] K I (rL br V m R):=by
 have hsq:=GS (show N≤10000 by omega);have hrw:=hM.rows;have hvs:=hM.vers;have hml:=hM.marksL;have hc':=hc;obtain ⟨w0,w1,w2,w3,rfl,g0,g1,g2,g3⟩:=hc;refine ANl ?_;unfold AJj;refine AQ (λq1=>AQ (λq2=>?_));refine rdB rfl ?_;refine call (Cal.perm (L':=rL br V m (Af q1 q2 c w0 w1 w2 w3 R)) (AO (by ((try simp only [AJ,AM,AU,AP]);(try ac_rfl)))) (NI hc' ?_));try refine O ?_
 refine AF (λe=>?_) (λe=>?_)
 ·have hE:Ap m c=Al (Ag 140,m):=by unfold Ap Al;rw [if_pos (by simpa using e)]
  rw [hE] at hk;try refine O ?_
  refine stB rfl rfl (AH rfl) ?_;refine rdB rfl ?_;exact Gh.to (rL br V m R) (Gh.done (hk.plain (Ext.refl _) hF (Cm ..)))
 have hr:BV c=true:=by simpa using e
 have ho:=HJ hr;have hkk:kindOk c=true:=by
  simp only [BV,Bool.and_eq_true] at hr;exact hr.2
 have hA:Ap m c=doM m c:=by unfold Ap;rw [if_neg (by simp [hr])]
 rw [hA] at hk;try refine O ?_
 refine rdb ?_;try refine O ?_
 refine AF (λe1=>?_) (λe1=>?_)
 ·have k1:c.fKind=1:=by simpa using e1
  have hD:doM m c=Al (FF m c):=by unfold doM;rw [if_pos k1]
  rw [hD] at hk;refine AZ ?_;try refine O ?_
  refine Cv [V.vF,V.vT] rfl rfl ?_;try refine O ?_
  refine Ab ?_;refine call (FA (p:=m.span) ⟨_,_,rfl,hF.f0,hF.f1⟩ g0 ?_);try refine O ?_
  refine AF (λe2=>?_) (λe2=>?_)
  ·have hE:FF m c=(Ag 141,m):=by unfold FF;rw [if_pos (by simpa using e2)]
   rw [hE] at hk;try refine O ?_
   refine stB rfl rfl (AH rfl) ?_;refine rdB rfl ?_;exact Gh.to (rL br V m R) (Gh.done (hk.plain (Ext.refl _) hF (Cm ..)))
  have hE:FF m c=if (CN m.sp c.fKey c.fAt c.fTxn).2≠0 then (⟨(CN m.sp c.fKey c.fAt c.fTxn).2,BE,[],z0,(CN m.sp c.fKey c.fAt c.fTxn).1.fBy,0⟩,m) else (⟨0,(CN m.sp c.fKey c.fAt c.fTxn).1,[],z0,0,0⟩,Cb m c.fKey c.fAt c.fTxn):=by
   unfold FF;rw [if_neg (by simpa using e2)]
  rw [hE] at hk;have fin:∀v0 q3,Bytes I v0 (CN m.sp c.fKey c.fAt c.fTxn).1.fValue→LV ω (pt br) (pt q1) (pt q2) (.pointer none) (pt q3) (.int .i64 (CN m.sp c.fKey c.fAt c.fTxn).2) (λv=>Gh (K v)) I ((q3,.cells #[.bool (CN m.sp c.fKey c.fAt c.fTxn).1.fFound,v0,.int .i64 (CN m.sp c.fKey c.fAt c.fTxn).1.fAt.fWall,.int .i64 (CN m.sp c.fKey c.fAt c.fTxn).1.fAt.fLogic,.int .i64 (CN m.sp c.fKey c.fAt c.fTxn).1.fBy] 49 (0,0))::rL br V m (Af q1 q2 c w0 w1 w2 w3 R)):=by
   intro v0 q3 hv;refine TA hF hM.marks (by omega) g0 hv (λh=>?_) (λh=>?_)
   ·rw [if_pos h] at hk;exact hk
   ·rw [if_neg (by simpa using h)] at hk;exact hk
  refine AZ ?_;try refine O ?_
  refine Ab ?_;try refine O ?_
  refine Ab ?_;try refine O ?_
  refine Cv [.int .i64 c.fAt.fWall,.int .i64 c.fAt.fLogic] rfl rfl ?_;try refine O ?_
  refine Ab ?_;refine ⟨?_,?_⟩
  ·refine call (Ns (sp:=m.sp) (m:=c.fAt) (L0:=rL br V m (Af q1 q2 c w0 w1 w2 w3 R)) (hF.ref (b:=0) (by simp)) hM.sp g0 (by omega) (by omega) (λv0 hv=>?_));obtain ⟨a0,c0,rfl⟩:=Bytes.form hv;try refine O ?_
   refine AQ (λq3=>?_);refine Bt (Ext.refl _) ?_;refine stB rfl rfl (AH rfl) ?_;exact fin _ q3 hv
  ·refine AQ (λq3=>?_);refine Bt (Ext.refl _) ?_;refine call (Ns (sp:=m.sp) (m:=c.fAt) (L0:=rL br V m (Af q1 q2 c w0 w1 w2 w3 R)) (hF.ref (b:=0) (by simp)) hM.sp g0 (by omega) (by omega) (λv0 hv=>?_));obtain ⟨a0,c0,rfl⟩:=Bytes.form hv;try refine O ?_
   refine stB rfl rfl (AH rfl) ?_;exact fin _ q3 hv
 have n1:c.fKind≠1:=by simpa using e1
 try refine O ?_
 refine AF (λe2=>?_) (λe2=>?_)
 ·have k2:c.fKind=2:=by simpa using e2
  have hD:doM m c=Al (Dt m c):=by unfold doM;rw [if_neg n1,if_pos k2]
  rw [hD] at hk;try refine O ?_
  refine rdP [w2,w3] rfl rfl ?_;refine call (Hm (p:=c.fSpan) hF ⟨_,_,rfl,g2,g3⟩ ?_);try refine O ?_
  refine AF (λe3=>?_) (λe3=>?_)
  ·have hE:Dt m c=(Ag 141,m):=by unfold Dt;rw [if_pos (by simpa using e3)]
   rw [hE] at hk;try refine O ?_
   refine stB rfl rfl (AH rfl) ?_;refine rdB rfl ?_;exact Gh.to (rL br V m R) (Gh.done (hk.plain (Ext.refl _) hF (Cm ..)))
  have hE:Dt m c=if (Bk m.sp c.fSpan c.fAt c.fTxn c.fMost).2.2≠0 then (⟨(Bk m.sp c.fSpan c.fAt c.fTxn c.fMost).2.2,BE,[],z0,(Bk m.sp c.fSpan c.fAt c.fTxn c.fMost).2.1,0⟩,m) else
    (⟨0,BE,(Bk m.sp c.fSpan c.fAt c.fTxn c.fMost).1,z0,0,0⟩,{m with low:=An m.low c.fAt c.fTxn}):=by
   unfold Dt;rw [if_neg (by simpa using e3)]
  rw [hE] at hk;refine AZ ?_;try refine O ?_
  refine Ab ?_;try refine O ?_
  refine Cv [w2,w3] rfl rfl ?_;try refine O ?_
  refine Cv [.int .i64 c.fAt.fWall,.int .i64 c.fAt.fLogic] rfl rfl ?_;try refine O ?_
  refine Ab ?_;try refine O ?_
  refine Ab ?_;refine call (Sq (sp:=m.sp) (p:=c.fSpan) (m:=c.fAt) (L0:=rL br V m (Af q1 q2 c w0 w1 w2 w3 R)) (hF.ref (b:=0) (by simp)) hM.sp (by omega) (by omega) ⟨_,_,rfl,g2,g3⟩ (λI2 v hI2 hv=>?_));obtain ⟨av,cv,rfl⟩:=RL.form hv;try refine O ?_
  refine AF (λe4=>?_) (λe4=>?_)
  ·rw [if_pos (by simpa using e4)] at hk;try refine O ?_
   refine stB rfl rfl (AH rfl) ?_;refine rdB rfl ?_;exact Gh.to (rL br V m R) (Gh.done (hk.plain hI2 (hF.mono hI2) (Cm ..)))
  rw [if_neg (by simpa using e4)] at hk;refine AZ ?_;try refine O ?_
  refine Cv (mkC (.slice none 0 0) m.low) rfl rfl ?_;try refine O ?_
  refine Cv [.int .i64 c.fAt.fWall,.int .i64 c.fAt.fLogic] rfl rfl ?_;try refine O ?_
  refine Ab ?_;refine call (DC (k:=m.low) (a:=c.fAt) (n:=c.fTxn) ?_);try refine O ?_
  refine stP _ rfl rfl rfl rfl ?_;try refine O ?_
  refine stB rfl rfl (AH rfl) ?_;refine rdB rfl ?_;exact Gh.to (rL br V {m with low:=An m.low c.fAt c.fTxn} R) (Gh.done (hk.plain hI2 {hF.mono hI2 with} ⟨_,_,rfl,SlI.nil I2 1 none 0,hv⟩))
 have n2:c.fKind≠2:=by simpa using e2
 try refine O ?_
 refine AF (λe3=>?_) (λe3=>?_)
 ·have k11:c.fKind=11:=by simpa using e3
  have hD:doM m c=CB m c:=by unfold doM;simp [k11]
  rw [hD] at hk;refine rdB rfl ?_;refine call (NH hF hM (by omega) hc' (λI' V' cells hI hF' hT=>?_));have h1:=hT.one;obtain ⟨k1,k2⟩:=hk I' V' cells hI hF' hT;obtain ⟨z1,z2,rfl,_,_⟩:=id hT;refine ⟨λhn=>?_,λm2 b2 V2 hm hF2=>?_⟩
  ·try refine O ?_
   refine AQ (λq3=>?_);refine stB rfl rfl h1 ?_;refine rdB rfl ?_;refine stB rfl rfl h1 ?_;refine rdB rfl ?_;exact Gh.to (rL br V' _ R) (Gh.done (k1 hn))
  ·try refine O ?_
   refine AQ (λq3=>?_);refine stB rfl rfl h1 ?_;refine rdB rfl ?_;refine stB rfl rfl h1 ?_;refine rdB rfl ?_;exact Gh.to (rL br V' _ (rL b2 V2 m2 R)) (Gh.done (k2 m2 b2 V2 hm hF2))
 have n11:c.fKind≠11:=by simpa using e3
 have hD:=AIO (m:=m) n1 n2 n11 ho.kind;rw [hD] at hk;refine rdB rfl ?_;refine call (NK hF hM hN hc' (λI' V' cells hI hF' hT=>?_));have h1:=hT.one;have k1:=hk.plain hI hF' hT;obtain ⟨z1,z2,rfl,_,_⟩:=id hT;try refine O ?_
 refine AQ (λq3=>?_);refine stB rfl rfl h1 ?_;refine rdB rfl ?_;refine stB rfl rfl h1 ?_;refine rdB rfl ?_;exact Gh.to (rL br V' _ R) (Gh.done k1)
end
section
variable {ω:Om}{I:Imm}{L:LH}{K:Value→M}
def Qe (x:TKV):List UInt8:=GM x.fKey++GM x.fValue
structure AnsOk (r:TRes):Prop where
 rows:∀x∈r.fRows,1≤x.fKey.length∧x.fKey.length≤110∧x.fValue.length≤10000
 code:0≤r.fCode∧r.fCode≤999
 state:0≤r.fState∧r.fState≤3
 by':EQ r.fBy
 gby:EQ r.fGot.fBy
 at':AN r.fAt=true
 gat:AN r.fGot.fAt=true
 val:r.fGot.fValue.length≤10000
 len:r.fRows.length≤90
theorem AIW {r:TRes}(h:FJ r=true):AnsOk r:=by
 simp only [FJ,Bool.and_eq_true,List.all_eq_true,decide_eq_true_eq] at h;obtain ⟨⟨⟨⟨⟨⟨⟨⟨h1,h2⟩,h3⟩,h4⟩,h5⟩,h6⟩,h7⟩,h8⟩,h9⟩:=h;refine ⟨λx hx=>?_,h2,h3,maxB_iff.1 h4,maxB_iff.1 h5,h6,h7,h8,h9⟩;have:=h1 x hx;simp only [rowB,Aj,Bool.and_eq_true,decide_eq_true_eq] at this;omega
end
section
variable {ω:Om}{I:Imm}{L:LH}{K:Value→M}
end
section
variable {ω:Om}{I:Imm}{L:LH}{K:Value→M}
end
section
variable {ω:Om}{I:Imm}{L L0:LH}{K:Value→M}{b r clock:Nat}{es:Array MapEntry}{m:Key→Option Value}{vis:List MapEntry}
theorem WA {k:Key}{e:MapEntry}:∀{l:List MapEntry} {i:Nat},(l.map Aw).Nodup→e∈l→Aw e=k→(fnd k l i).map (·.2)=some e.val
 |x::l,i,hn,he,hk=>by
  simp only [List.map_cons,List.nodup_cons] at hn;simp only [fnd];rcases List.mem_cons.1 he with rfl|he
  ·rw [if_pos hk];rfl
  ·rw [if_neg (λe2=>hn.1 (List.mem_map.2 ⟨e,he,by rw [hk,e2]⟩))];exact WA hn.2 he hk
theorem FD (h:MapS es clock m){e:MapEntry}(he:e∈es.toList):m (Aw e)=some e.val:=by
 rw [h.val];exact WA h.nod he rfl
theorem HM (h:MapS es clock m){k:Key}{v:Value}(hv:m k=some v):∃e∈es.toList,Aw e=k∧e.val=v:=by
 rw [h.val] at hv;cases hf:fnd k es.toList 0 with
 |none=>rw [hf] at hv;cases hv
 |some p=>
  obtain ⟨i,u⟩:=p;rw [hf] at hv;obtain ⟨n,e,_,h2,h3,h4⟩:=Ik hf;refine ⟨e,List.mem_of_getElem? h2,h3,?_⟩;rw [h4];simpa using hv
theorem RA (h:MapS es clock m){e:MapEntry}(he:e∈es.toList):e.key=CJ (Aw e):=by
 obtain ⟨s,hs⟩:=h.str e he;unfold Aw CJ;rw [hs]
theorem AOH (h:MapS es clock m)(ha:MapAt I L0 r es clock)(hend:(∀e∈es.toList,e.born∈vis.map (·.born))→K (.tuple #[.bool false]) I ((b,Bc r clock vis)::L0))
  (hstep:∀e,e∈es.toList→e.born ∉ vis.map (·.born)→K (.tuple #[.bool true,e.key,e.val]) I ((b,Bc r clock (vis++[e]))::L0)):My (.pointer (some ⟨b,0,.none⟩)) K I ((b,Bc r clock vis)::L0):=by
 refine ⟨b,[],L0,rfl,.inr ⟨r,clock,(vis.map (·.born)).toArray,clock,es,clock,rfl,MapAt.skip ha,?_,λhh=>hend ?_,λe he hs=>?_⟩⟩
 ·intro hc;simp only [Bool.and_eq_true,Bool.not_eq_true',Array.isEmpty_iff,Array.all_eq_true',decide_eq_true_eq] at hc;cases hl:es.toList with
  |nil=>
   have:es=#[]:=by cases es;simpa using hl
   have h2:=hc.1.2;rw [this] at h2;simp at h2
  |cons e l=>
   have he:e∈es.toList:=by rw [hl];exact List.mem_cons_self ..
   have h1:=h.brn e he;have h2:=hc.2 e (by simpa using he);omega
 ·intro e he;cases hc:(vis.map (·.born)).toArray.contains e.born with
  |false=>have:=hh e (by simpa using he) hc;have:=h.brn e he;omega
  |true=>simpa using hc
 ·have hne:e.born ∉ vis.map (·.born):=by simpa using hs
  have:=hstep e (by simpa using he) hne;simpa [Bc] using this
theorem Gl {α:Type}{p q:α→Bool}{a:α}:∀{l:List α},a∈l→p a=true→q a=false→(∀x∈l,q x=true→p x=true)→(l.filter q).length < (l.filter p).length
 |x::l,ha,hp,hq,h=>by
  have hle:(l.filter q).length≤(l.filter p).length:=by
   rw [←List.countP_eq_length_filter,←List.countP_eq_length_filter];exact List.countP_mono_left λy hy hh=>h y (List.mem_cons_of_mem _ hy) hh
  rcases List.mem_cons.1 ha with rfl|ha
  ·simp only [List.filter_cons,hp,hq,if_true,Bool.false_eq_true,if_false,List.length_cons];omega
  ·have ih:=Gl ha hp hq λy hy hh=>h y (List.mem_cons_of_mem _ hy) hh;have h0:=h x (List.mem_cons_self ..);simp only [List.filter_cons];cases hx:q x with
   |true=>simp only [h0 hx,if_true,List.length_cons];omega
   |false=>cases hy:p x <;> simp only [if_true,Bool.false_eq_true,if_false,List.length_cons] <;> omega
theorem AOO (h:MapS es clock m)(k:Key):∃es',Xw k es clock= .map es' clock∧MapS es' clock (GL m k none)∧es'.toList.Sublist es.toList∧(∀e∈es'.toList,Aw e≠k)∧(∀e∈es.toList,Aw e≠k→e∈es'.toList):=by
 obtain ⟨es',h1,h2⟩:=h.del k;have hs:es'.toList.Sublist es.toList:=by
  unfold Xw at h1;cases hf:fnd k es.toList 0 with
  |none=>rw [hf] at h1;simp only [Obj.map.injEq] at h1;rw [h1.1];exact List.Sublist.refl _
  |some p=>
   obtain ⟨i,v⟩:=p;rw [hf] at h1;simp only [Obj.map.injEq] at h1;rw [←h1.1,Array.toList_eraseIdxIfInBounds];exact List.eraseIdx_sublist _ _
 refine ⟨es',h1,h2,hs,λe he hk=>?_,λe he hk=>?_⟩
 ·have:=FD h2 he;unfold GL at this;rw [if_pos hk] at this;cases this
 ·have h3:GL m k none (Aw e)=some e.val:=by unfold GL;rw [if_neg hk];exact FD h he
  obtain ⟨e',he',hk',_⟩:=HM h2 h3;rw [←El h.nod (hs.subset he') he hk'];exact he'
theorem Tg {fv:Value}{F:LH}{r c:Nat}{es:Array MapEntry}{l:AL Key TMk}{del:Key×TMk→Bool}(h:MapS es c (BO mv l))(hs:SrtA blt l)
  (hf:∀(q:Key×TMk) (Y:LH) (K':Value→M),q∈l→K' (.bool (del q)) I (Y++F)→CW ω fv #[CJ q.1,mv q.2] K' I (Y++F))
  (hk:∀es',MapS es' c (BO mv (l.filter λq=> !del q))→K (.tuple #[]) I ((r,.map es' c)::F)):
  CT ω 164 #[.map (some r),fv] K I ((r,.map es c)::F):=by
 refine ALT ?_;unfold ABd;have hsk:∀e∈es.toList,∃x,lkA l (Aw e)=some x∧e.val=mv x:=by
  intro e he;have:=FD h he;unfold BO at this;cases hx:lkA l (Aw e) with
  |none=>rw [hx] at this;cases this
  |some x=>rw [hx] at this;exact ⟨x,rfl,(Option.some.inj this).symm⟩
 let dl:MapEntry→Bool:=λe=>match lkA l (Aw e) with
  |some x=>del (Aw e,x)
  |none=>false
 have hdl:∀e x,lkA l (Aw e)=some x→dl e=del (Aw e,x):=by intro e x hx;show (match lkA l (Aw e) with|some x=>del (Aw e,x)|none=>false)=_;rw [hx]
 generalize dl=dl at hdl;refine XD (.inl (List.mem_cons_self ..)) (λit=>?_);refine Gh.done ?_;refine loop (λn s I' L'=>I'=I∧∃(es1:Array MapEntry) (m1:Key→Option Value) (vis:List MapEntry),n=(es1.toList.filter λe=> !(vis.map (·.born)).contains e.born).length∧MapS es1 c m1∧(∀e∈es1.toList,e∈es.toList)∧(∀e∈es1.toList,e.born∈vis.map (·.born)→dl e=false)∧(∀e∈es.toList,e∈es1.toList∨dl e=true)∧
  L'=(it,Bc r c vis)::(r,.map es1 c)::F) _ ⟨rfl,es,_,[],rfl,h,λe he=>he,λe he hv=>(by cases hv),λe he=>.inl he,rfl⟩ ?_
 rintro n s I' L' ⟨rfl,es1,m1,vis,rfl,h1,hsub,hvis,hall,rfl⟩;unfold VE;refine AOH h1 (.inl (List.mem_cons_self ..)) (λhv=>Gh.done ?_) (λe he hne=>Gh.done ?_)
 ·try refine O ?_
  refine Gh.to ((r,.map es1 c)::F) (Gh.done (hk es1 ?_));have hm:m1=BO mv (l.filter λq=> !del q):=by
   funext k
   cases hx:lkA l k with
   |none=>
    have h2:lkA (l.filter λq=> !del q) k=none:=lkA_none.2 λq hq=>lkA_none.1 hx q (List.mem_filter.1 hq).1;unfold BO;rw [h2];cases h3:m1 k with
    |none=>rfl
    |some v=>
     obtain ⟨e,he,hk,_⟩:=HM h1 h3;obtain ⟨x,hx2,_⟩:=hsk e (hsub e he);rw [hk,hx] at hx2;cases hx2
   |some x=>
    obtain ⟨e,he,hke,hve⟩:=HM (v:=mv x) h (by unfold BO;rw [hx];rfl);have hd:=hdl e x (by rw [hke];exact hx);rw [hke] at hd;cases hb:del (k,x) with
    |true=>
     have h2:lkA (l.filter λq=> !del q) k=none:=lkA_none.2 λq hq=>by
      intro hqk;obtain ⟨hq1,hq2⟩:=List.mem_filter.1 hq;obtain ⟨q1,q2⟩:=q;simp only at hqk
      subst hqk;have:=EV bltO hs hq1;rw [hx] at this;rw [←Option.some.inj this,hb] at hq2;simp at hq2
     unfold BO;rw [h2];cases h3:m1 k with
     |none=>rfl
     |some v=>
      obtain ⟨e1,he1,hk1,_⟩:=HM h1 h3;have h4:=hvis e1 he1 (hv e1 he1);have h5:=hdl e1 x (by rw [hk1];exact hx);rw [hk1,hb,h4] at h5;cases h5
    |false=>
     rw [hb] at hd;rcases hall e he with h2|h2
     ·have h3:=FD h1 h2;rw [hke,hve] at h3;have h4:lkA (l.filter λq=> !del q) k=some x:=EV bltO (List.Pairwise.sublist List.filter_sublist hs) (List.mem_filter.2 ⟨Dq hx,by simp [hb]⟩);unfold BO;rw [h3,h4];rfl
     ·rw [hd] at h2;cases h2
  rw [hm] at h1;exact h1
 ·have he0:=hsub e he;obtain ⟨x,hx,hev⟩:=hsk e he0;have hek:=RA h1 he;try refine O ?_
  refine ⟨_,AIM h1 (.inl (List.mem_cons_self ..)) he,?_⟩;rw [hek,hev];try refine O ?_
  refine AQ (λkb=>?_);refine stB rfl rfl (AH rfl) ?_;refine rdB rfl ?_;have hd:=hdl e x hx;have hvm:∀e2:MapEntry,e2.born∈(vis++[e]).map (·.born)→e2.born∈vis.map (·.born)∨e2.born=e.born:=by
   intro e2 h2;rw [List.map_append,List.mem_append] at h2;rcases h2 with h2|h2
   ·exact .inl h2
   ·right;simpa using h2
  refine CalV.mono (hf (Aw e,x) ((kb,.cells #[.int .i64 x.fAt.fWall,.int .i64 x.fAt.fLogic,.int .i64 x.fBy] 159 (0,0))::(it,Bc r c (vis++[e]))::[(r,.map es1 c)]) (λv I2 L2=>v= .bool (del (Aw e,x))∧I2=I'∧L2=(kb,.cells #[.int .i64 x.fAt.fWall,.int .i64 x.fAt.fLogic,.int .i64 x.fBy] 159 (0,0))::(it,Bc r c (vis++[e]))::(r,.map es1 c)::F) (Dq hx) ⟨rfl,rfl,rfl⟩) ?_;rintro v I2 L2 ⟨rfl,rfl,rfl⟩;refine Gh.done ?_;cases hb:del (Aw e,x) with
  |true=>
   try refine O ?_
   obtain ⟨es2,d1,d2,d3,d4,d5⟩:=AOO h1 (Aw e);refine AKK h1 d1 (Gh.done ?_);refine Gh.to ((it,Bc r c (vis++[e]))::(r,.map es2 c)::F) (Gh.done ⟨_,?_,rfl,es2,_,vis++[e],rfl,d2,λe2 h2=>hsub e2 (d3.subset h2),λe2 h2 hv=>?_,λe2 h2=>?_,rfl⟩)
   ·refine Nat.lt_of_le_of_lt (d3.filter _).length_le (Gl he (by simpa using hne) (by simp) λe2 h2 hq=>?_);simp at hq ⊢;exact hq.1
   ·rcases hvm e2 hv with h3|h3
    ·exact hvis e2 (d3.subset h2) h3
    ·exact absurd (by rw [El h1.bnd (d3.subset h2) he h3]) (d4 e2 h2)
   ·rcases hall e2 h2 with h3|h3
    ·by_cases h4:Aw e2=Aw e
     ·right;rw [El h.nod h2 he0 h4,hd,hb]
     ·exact .inl (d5 e2 h3 h4)
    ·exact .inr h3
  |false=>
   try refine O ?_
   refine Gh.to ((it,Bc r c (vis++[e]))::(r,.map es1 c)::F) (Gh.done ⟨_,?_,rfl,es1,_,vis++[e],rfl,h1,hsub,λe2 h2 hv=>?_,hall,rfl⟩)
   ·refine Gl he (by simpa using hne) (by simp) λe2 h2 hq=>?_;simp at hq ⊢;exact hq.1
   ·rcases hvm e2 hv with h3|h3
    ·exact hvis e2 h2 h3
    ·rw [El h1.bnd h2 he h3,hd,hb]
end
theorem YF {P:Program}{ρ:Go.Shelf.Ren}(Lay:Go.Proofs.SlLaysW.n5 P ρ){ω:Om}{I:Imm}{L:LH}{K:Value→M}{b clock:Nat}{es:Array MapEntry}(hin:(b,Obj.map es clock)∈L)
  (hk:∀b',K (.map (some b')) I ((b',.map es clock)::L)):Cal P ω (ρ.f 5) #[.map (some b)] K I L:=by
 intro w hs;refine (Go.Proofs.AnyW.maps_Clone Lay b es clock w (hs.own b _ hin)).mono ?_;rintro e w' ⟨rfl,rfl⟩;exact ⟨_,I,_,rfl,hs.push _,hk _⟩
end Go.Proofs.YtmmfcgbfbcamcaaGreatDoor
namespace Go.SL
open Go.Proofs
theorem Cal.le {P:Program}{ω:Om}{g:Nat}{args:Array Value}{I:Imm}{L:LH}{w:World}{Q:Value→Prop}(hs:St ω w I L)(hI:∀b o,w.heap[b]? =some o→I b=some o)(hd:ω.dr=w.drawn)
  (h:Cal P ω g args (λv I2 _=>Q v∧Ext I I2) I L):Calls P g args w λe w'=>(∃v,e= .returned v∧Q v)∧∃q os',w'=Sort.grow (w.drewN q) os':=by
 refine (h w hs).mono ?_;rintro e w' ⟨v,I',L',rfl,hs',hv,hI'⟩;refine ⟨⟨v,rfl,hv⟩,w'.drawn - w.drawn,w'.heap.extract w.heap.size w'.heap.size,?_⟩;have hdr:=hs'.dr;rw [hd] at hdr;have hblk:∀k,k < w.heap.size→w'.heap[k]? =w.heap[k]? :=by
  intro k hk;have h1:w.heap[k]? =some w.heap[k]:=Array.getElem?_eq_getElem hk;rw [h1];exact hs'.imm k _ (hI' k _ (hI k _ h1))
 have hsz:w.heap.size≤w'.heap.size:=by
  rcases Nat.eq_zero_or_pos w.heap.size with h0|h0
  ·omega
  ·have:=hblk (w.heap.size - 1) (by omega);rw [Array.getElem?_eq_getElem (by omega:w.heap.size - 1 < w.heap.size)] at this;have:=(Array.getElem?_eq_some_iff.1 this).1;omega
 have h1:w'.heap=w.heap++w'.heap.extract w.heap.size w'.heap.size:=by
  apply Array.ext_getElem?
  intro i;by_cases hi:i < w.heap.size
  ·rw [Array.getElem?_append_left hi,hblk i hi]
  ·rw [Array.getElem?_append_right (by omega),Array.getElem?_extract];by_cases h2:i < w'.heap.size
   ·rw [if_pos (by omega)];congr 1;omega
   ·rw [if_neg (by omega)];exact Array.getElem?_eq_none (by omega)
 obtain ⟨hp,tp,dr,os,ou⟩:=w';have e1:=hs'.tape;have e2:=hs'.os;have e3:=hs'.out;have f1:=hs.tape;have f2:=hs.os;have f3:=hs.out;simp only at *
 unfold Sort.grow World.drewN;simp only [World.mk.injEq];refine ⟨h1,by rw [e1,f1],by omega,by rw [e2,f2],by rw [e3,f3]⟩
theorem Tk {P:Program}{g:Nat}{α:Type}[Inhabited α]{enc:α→List Value}{k:Nat}{cf:α→α→Int}{blk off size:Nat}{w:World}{I:Imm}
  (hI:∀b o,I b=some o→w.heap[b]? =some o∧b≠blk)
  (hC:∀(ω:Om) (I':Imm) (x y:α),Ext I I'→Cal P ω g #[.agg (enc x).toArray,.agg (enc y).toArray] (λv I2 _=>v= .int .i64 (cf x y)∧Ext I' I2) I' []):CmpLays P g #[] enc k cf blk off size w:=by
 intro m os dk hs x y;have hx:Ext I (Eb (sortWorldK enc k w blk off m dk os)):=by
  intro b o hb;obtain ⟨h1,h2⟩:=hI b o hb;have hlt:=(Array.getElem?_eq_some_iff.1 h1).1;show ((Sort.mapBlock (Sort.ahead w m) blk (Sort.putCells id off (Sort.flatK enc k dk))).heap++os)[b]? =some o;rw [Array.getElem?_append_left (by simp [Sort.mapBlock,Sort.ahead];exact hlt)];simp only [Sort.mapBlock,Sort.ahead,Array.getElem?_modify];rw [if_neg (Ne.symm h2)];exact h1
 have h:=hC (AJs (sortWorldK enc k w blk off m dk os)) _ x y hx;have h2:=Cal.le (Q:=λv=>v= .int .i64 (cf x y)) (st_start _) (λ_ _ h=>h) rfl h;simp only [Array.append_empty];refine h2.mono ?_;rintro e w' ⟨⟨v,rfl,rfl⟩,h3⟩;exact ⟨rfl,h3⟩
theorem St.row {ω:Om}{w w':World}{I:Imm}{F:LH}{b:Nat}{o o':Obj}(h:St ω w I ((b,o)::F))(hk:∀j,j < w.heap.size→j≠b→w'.heap[j]? =w.heap[j]?)(hb:w'.heap[b]? =some o')
  (h1:w'.tape=w.tape) (h2:w'.os=w.os) (h3:w'.output=w.output) (h4:w.drawn≤w'.drawn):St ω w' I ((b,o')::F):=by
 have hnd:=h.nodup;simp only [List.map_cons,List.nodup_cons] at hnd;refine ⟨λj u hj=>?_,λj u hj=>?_,by simpa using hnd,λj u hj=>?_,h1.trans h.tape,h2.trans h.os,h3.trans h.out,Nat.le_trans h.dr h4⟩
 ·rw [hk j (h.ltI hj) (λe=>by subst e;have:=h.apart j o (List.mem_cons_self ..);rw [this] at hj;cases hj)];exact h.imm j u hj
 ·rcases List.mem_cons.1 hj with e|hj
  ·simp only [Prod.mk.injEq] at e;obtain ⟨rfl,rfl⟩:=e;exact hb
  ·have hj0:=hj;have hj':(j,u)∈(b,o)::F:=List.mem_cons_of_mem _ hj;rw [hk j (h.lt hj') (λe=>by subst e;exact hnd.1 (List.mem_map.2 ⟨(j,u),hj0,rfl⟩))];exact h.own j u hj'
 ·rcases List.mem_cons.1 hj with e|hj
  ·simp only [Prod.mk.injEq] at e;obtain ⟨rfl,rfl⟩:=e;exact h.apart j o (List.mem_cons_self ..)
  ·exact h.apart j u (List.mem_cons_of_mem _ hj)
structure Rd1 {β:Type}(R:Imm→β→List Value→Prop)(I:Imm)(k:Nat) where
 val:β
 enc:List Value
 rd:R I val enc
 len:enc.length=k
 one:∀u∈enc,u.oneCell'=true
section
variable {β:Type}{R:Imm→β→List Value→Prop}{I:Imm}{k:Nat}
theorem Vh (hlen:∀x c,R I x c→c.length=k)(h1:∀x c,R I x c→∀u∈c,u.oneCell'=true):∀{xs:List β} {cells:List Value},Recs (R I) k xs cells→∃ps:List (Rd1 R I k),ps.map Rd1.val=xs∧(ps.map Rd1.enc).flatten=cells
 |[],cells,h=>⟨[],rfl,by rw [show cells=[] from h];rfl⟩
 |x::xs,cells,⟨ha,hb,hc⟩=>by
  obtain ⟨ps,e1,e2⟩:=Vh hlen h1 hc;exact ⟨⟨x,cells.take k,hb,hlen _ _ hb,h1 _ _ hb⟩::ps,by rw [List.map_cons,e1],by rw [List.map_cons,List.flatten_cons,e2];exact List.take_append_drop k cells⟩
theorem Ku:∀(ps:List (Rd1 R I k)),Recs (R I) k (ps.map Rd1.val) (ps.map Rd1.enc).flatten
 |[]=>rfl
 |p::ps=>by
  have hl:(Rd1.enc p).length=k:=p.len;refine ⟨?_,?_,?_⟩
  ·simp only [List.map_cons,List.flatten_cons];rw [List.take_append_of_le_length (by omega),List.take_of_length_le (by omega)];exact hl
  ·simp only [List.map_cons,List.flatten_cons];rw [List.take_append_of_le_length (by omega),List.take_of_length_le (by omega)];exact p.rd
  ·simp only [List.map_cons,List.flatten_cons];rw [List.drop_append_of_le_length (by omega),List.drop_of_length_le (by omega),List.nil_append];exact Ku ps
theorem flat_get {α : Type} {enc : α → List Value} (hk : ∀ x, (enc x).length = k) : ∀ (ps : List α) (t : Nat), t < ps.length * k → ∀ p, ps[t / k]? = some p → (ps.map enc).flatten[t]? = (enc p)[t % k]?
  | [], t, h, p, hp => by simp at h
  | q :: ps, t, h, p, hp => by
    have k0 : 0 < k := by rcases Nat.eq_zero_or_pos k with e | e
                          · subst e; simp at h
                          · exact e
    simp only [List.map_cons, List.flatten_cons]
    by_cases ht : t < k
    · rw [Nat.div_eq_of_lt ht] at hp
      simp only [List.getElem?_cons_zero, Option.some.injEq] at hp
      subst hp
      rw [List.getElem?_append_left (by rw [hk]; exact ht), Nat.mod_eq_of_lt ht]
    · have e : t / k = (t - k) / k + 1 := by
        have h2 := Nat.add_div_right (t - k) k0
        rwa [show t - k + k = t by omega] at h2
      rw [e] at hp
      simp only [List.getElem?_cons_succ] at hp
      rw [List.getElem?_append_right (by rw [hk]; omega), hk, flat_get hk ps (t - k) (by simp only [List.length_cons, Nat.add_mul, Nat.one_mul] at h; omega) p hp]
      congr 1
      have h2 := Nat.add_mod_right (t - k) k
      rw [show t - k + k = t by omega] at h2
      exact h2.symm
theorem WB {α : Type} [Inhabited α] {enc : α → List Value} (hk : ∀ x, (enc x).length = k) (d : Array α) (t : Nat) (h : t < d.size * k) : (d.toList.map enc).flatten[t]? = some (Sort.flatK enc k d)[t]! := by
  have k0 : 0 < k := by rcases Nat.eq_zero_or_pos k with e | e
                        · subst e; simp at h
                        · exact e
  have hd : t / k < d.size := by rw [Nat.div_lt_iff_lt_mul k0]; exact h
  have hm : t % k < k := Nat.mod_lt _ k0
  rw [Sort.get_flatK enc k d t h, flat_get hk d.toList t (by simpa using h) d[t / k]! (by rw [Array.getElem?_toList, getElem!_pos d _ hd]; exact Array.getElem?_eq_getElem hd)]
  rw [List.getElem?_eq_getElem (by rw [hk]; exact hm), getElem!_pos (enc d[t / k]!) (t % k) (by rw [hk]; exact hm)]
end
theorem Wo {P:Program}{ρ:Go.Shelf.Ren}(Lay:Go.Proofs.SlLaysF0.n6 P ρ){k:Nat}(aE:∀w,(isAgg (ρ.t 24)).run P w= .ok true w)(zE:∀w,(Go.sizeOf (ρ.t 24)).run P w= .ok k w)
  {β:Type} {R:Imm→β→List Value→Prop} (hlen:∀I x c,R I x c→c.length=k) (h1:∀I x c,R I x c→∀u∈c,u.oneCell'=true)
  {cf:β→β→Int} (hirr:∀x,¬cf x x < 0) (htr:∀x y z,cf x y < 0→cf y z < 0→cf x z < 0) (hntr:∀x y z,¬cf x y < 0→¬cf y z < 0→¬cf x z < 0)
  {g:Nat} (eg:∀args w,(callFunc g args).run P w= .ok (.enter g args) w) {I:Imm}
  (hC:∀(ω:Om) (I':Imm) (x y:β) (c d:List Value),Ext I I'→R I x c→R I y d→Cal P ω g #[.agg c.toArray,.agg d.toArray] (λv I2 _=>v= .int .i64 (cf x y)∧Ext I' I2) I' [])
  {ω:Om} {T:Nat} {X F:LH} {v:Value} {xs:List β} {cells:List Value} (hO:SlO T k X v cells xs.length) (hr:Recs (R I) k xs cells) (hsz:xs.length < 4611686018427387904) {K:Value→M}
  (hk:∀X' ys cells',ys.Perm xs→ys.Pairwise (λa b=>¬cf b a < 0)→SlO T k X' v cells' xs.length→Recs (R I) k ys cells'→K (.tuple #[]) I (X'++F)):
  Cal P ω (ρ.f 6) #[v,.func (.func g) #[] #[]] K I (X++F):=by
 intro w hs;have none:xs.length=0→∀a c,v= .slice a 0 c→Calls P (ρ.f 6) #[v,.func (.func g) #[] #[]] w (Ret ω K):=by
  intro h0 a c hv;rw [hv];refine (Go.Proofs.AnyF.slices_SortFunc_none Lay a _ _ w).mono ?_;rintro e w' ⟨rfl,rfl⟩;exact ⟨_,I,X++F,rfl,hs,hk X xs cells (List.Perm.refl _) (by rw [List.eq_nil_of_length_eq_zero h0];exact List.Pairwise.nil) hO hr⟩
 obtain ⟨hcl,ho⟩:=hO;rcases ho with ⟨rfl,h0,a,rfl⟩|⟨b,cap,cs,rfl,rfl,hcs,hle,hc⟩
 ·exact none h0 a 0 rfl
 by_cases h0:xs.length=0
 ·exact none h0 (some ⟨b,0,Option.none⟩) cap (by rw [h0])
 obtain ⟨ps,rfl,rfl⟩:=Vh (hlen I) (h1 I) hr;obtain ⟨p0,hp0⟩:∃p,p∈ps:=by
  cases ps with
  |nil=>exact absurd rfl h0
  |cons p _=>exact ⟨p,List.mem_cons_self ..⟩
 haveI:Inhabited (Rd1 R I k):=⟨p0⟩
 have hb:w.heap[b]? =some (.cells cs T (0,0)):=hs.own b _ (List.mem_cons_self ..);have hH:Sort.HoldsK Rd1.enc k w b 0 ps.toArray:=by
  intro j hj;rw [Sort.size_flatK] at hj;refine ⟨?_,by simp [World.frozen?,hb]⟩;have h2:=WB (enc:=Rd1.enc) (λx:Rd1 R I k=>x.len) ps.toArray j hj;have h3:=hc j _ h2;simp only [World.cell?,hb,Nat.zero_add,Option.isSome_none,Bool.false_eq_true,if_false];exact h3
 have hSWO:Sort.SWO (Go.Proofs.ltOf λx y:Rd1 R I k=>cf x.val y.val):=
  ⟨λx=>by simp [ltOf,hirr],λx y z a b=>by simp only [ltOf,decide_eq_true_eq] at *; exact htr _ _ _ a b,λx y z a b=>by simp only [ltOf,decide_eq_false_iff_not] at *; exact hntr _ _ _ a b⟩
 have hlay:CmpLays P g #[] Rd1.enc k (λx y:Rd1 R I k=>cf x.val y.val) b 0 ps.toArray.size w:=
  Tk (I:=I) (λj o hj=>⟨hs.imm j o hj,λe=>by subst e;have:=hs.apart j _ (List.mem_cons_self ..);rw [this] at hj;cases hj⟩)
   (λω' I' x y hI'=>hC ω' I' x.val y.val x.enc y.enc hI' x.rd y.rd)
 have hcon:=Go.Proofs.AnyQ.slices_SortFunc Lay k aE zE Rd1.enc (λx:Rd1 R I k=>x.len) (λx=>x.one) (λx y=>cf x.val y.val) hSWO g #[] b 0 cap ps.toArray w eg hlay hH (Array.getElem?_eq_some_iff.1 hb).1 (by simpa using hsz);have hl2:(ps.map Rd1.val).length=ps.toArray.size:=by simp
 rw [hl2];refine hcon.mono ?_;rintro e w' ⟨rfl,d',n,os,⟨hp1,_,hp2⟩,hsrt,rfl⟩;have hsz':d'.size=ps.length:=by simpa using hp1
 have hlt:=(Array.getElem?_eq_some_iff.1 hb).1;have hst:St ω (sortWorldK Rd1.enc k w b 0 n d' os) I ((b,.cells (Sort.putCells id 0 (Sort.flatK Rd1.enc k d') cs) T (0,0))::F):=by
  refine St.row (o:=.cells cs T (0,0)) hs (λj hj hne=>?_) ?_ rfl rfl rfl (Nat.le_add_right _ _)
  ·show ((Sort.mapBlock (Sort.ahead w n) b (Sort.putCells id 0 (Sort.flatK Rd1.enc k d'))).heap++os)[j]? =_;rw [Array.getElem?_append_left (by simp [Sort.mapBlock,Sort.ahead];exact hj)];simp only [Sort.mapBlock,Sort.ahead,Array.getElem?_modify];rw [if_neg (Ne.symm hne)]
  ·show ((Sort.mapBlock (Sort.ahead w n) b (Sort.putCells id 0 (Sort.flatK Rd1.enc k d'))).heap++os)[b]? =_;rw [Array.getElem?_append_left (by simp [Sort.mapBlock,Sort.ahead];exact hlt)];simp only [Sort.mapBlock,Sort.ahead,Array.getElem?_modify,if_true,hb,Option.map_some];rfl
 have hperm:d'.toList.Perm ps:=by
  have e1:(d'.extract 0 ps.toArray.size).toList=d'.toList:=by rw [show ps.toArray.size=d'.size by rw [hsz'];simp];simp
  have e2:(ps.toArray.extract 0 ps.toArray.size).toList=ps:=by simp
  rw [e1,e2] at hp2;exact hp2
 refine ⟨_,I,_,rfl,hst,hk [(b,_)] (d'.toList.map Rd1.val) (d'.toList.map Rd1.enc).flatten (hperm.map _) ?_ ?_ (Ku _)⟩
 ·rw [List.pairwise_map,List.pairwise_iff_getElem];intro i j hi hj hij;have hi':i < d'.size:=by simpa using hi
  have hj':j < d'.size:=by simpa using hj
  have:=hsrt i j (Nat.zero_le _) hij (by simp [hsz'] at hj' ⊢;omega);rw [getElem!_pos d' i hi',getElem!_pos d' j hj'] at this;simp only [ltOf,decide_eq_false_iff_not] at this;simpa using this
 ·refine ⟨?_,.inr ⟨b,cap,_,rfl,by rw [hl2],?_,hle,?_⟩⟩
  ·have:=(Ku d'.toList).length;rw [this];simp [hsz']
  ·simp [Sort.putCells,hcs]
  ·intro j u hu;have hj:j < d'.size * k:=by
    have h2:=(List.getElem?_eq_some_iff.1 hu).1;have h3:=(Ku d'.toList).length;rw [h3] at h2;simpa using h2
   rw [WB (λx:Rd1 R I k=>x.len) d' j hj] at hu;have hlt2:j < cs.size:=by
    rw [hcs];have:ps.length * k≤cap * k:=Nat.mul_le_mul_right k (by simpa using hle);rw [hsz'] at hj;omega
   simp only [Sort.putCells,Array.getElem?_mapIdx,Array.getElem?_eq_getElem hlt2,Option.map_some,Nat.zero_le,true_and,Nat.zero_add,Sort.size_flatK,hj,if_true,Nat.sub_zero,id];exact hu
open Go.Proofs
theorem Nj {P:Program}{f:FuncId}{α:Type}[Inhabited α]{enc:α→Value}{le:α→α→Bool}
  (htr:∀a b c,le a b=true→le b c=true→le a c=true) (htot:∀a b,(le a b||le b a)=true)
  (none:∀(p:Option Addr) (cap:Nat) (w:World),Calls P f #[.slice p 0 cap] w λe w'=>e= .returned (.tuple #[])∧w'=w)
  (sort:∀(blk off cap:Nat) (zs:List α) (w:World),Sort.Holds enc w blk off zs.toArray→blk < w.heap.size→zs.length < 4611686018427387904→
   Calls P f #[.slice (some ⟨blk,off,Option.none⟩) zs.length cap] w λe w'=>e= .returned (.tuple #[])∧∃n os,w'=Sort.grow (Sort.putRow enc (Sort.ahead w n) blk off (zs.mergeSort le).toArray) os)
  {ω:Om} {I:Imm} {T:Nat} {X F:LH} {v:Value} {zs:List α} (hO:SlO T 1 X v (zs.map enc) zs.length) (hsz:zs.length < 4611686018427387904) {K:Value→M}
  (hk:∀(X':LH) (ys:List α),ys.Perm zs→ys.Pairwise (λa b=>le a b=true)→SlO T 1 X' v (ys.map enc) ys.length→K (.tuple #[]) I (X'++F)):Cal P ω f #[v] K I (X++F):=by
 intro w hs;have nil:zs.length=0→∀a c,v= .slice a 0 c→Calls P f #[v] w (Ret ω K):=by
  intro h0 a c hv;rw [hv];refine (none a _ w).mono ?_;rintro e w' ⟨rfl,rfl⟩;exact ⟨_,I,X++F,rfl,hs,hk X zs (List.Perm.refl _) (by rw [List.eq_nil_of_length_eq_zero h0];exact List.Pairwise.nil) hO⟩
 obtain ⟨hcl,ho⟩:=hO;rcases ho with ⟨rfl,h0,a,rfl⟩|⟨b,cap,cs,rfl,rfl,hcs,hle,hc⟩
 ·exact nil h0 a 0 rfl
 by_cases h0:zs.length=0
 ·exact nil h0 (some ⟨b,0,Option.none⟩) cap (by rw [h0])
 have hb:w.heap[b]? =some (.cells cs T (0,0)):=hs.own b _ (List.mem_cons_self ..);have hlt:=(Array.getElem?_eq_some_iff.1 hb).1;have hH:Sort.Holds enc w b 0 zs.toArray:=by
  intro j hj;have hj':j < zs.length:=by simpa using hj
  refine ⟨?_,by simp [World.frozen?,hb]⟩;have h3:=hc j (enc zs[j]) (by simp [hj']);simp only [World.cell?,hb,Nat.zero_add,Option.isSome_none,Bool.false_eq_true,if_false];rw [h3,getElem!_pos zs.toArray j hj];simp
 refine (sort b 0 cap zs w hH hlt hsz).mono ?_;rintro e w' ⟨rfl,n,os,rfl⟩;have hperm:=List.mergeSort_perm zs le;have hsrt:=List.pairwise_mergeSort htr htot zs;generalize zs.mergeSort le=ys at *;have hyl:ys.length=zs.length:=hperm.length_eq;have hst:St ω (Sort.grow (Sort.putRow enc (Sort.ahead w n) b 0 ys.toArray) os) I ((b,.cells (Sort.putCells enc 0 ys.toArray cs) T (0,0))::F):=by
  refine St.row (o:=.cells cs T (0,0)) hs (λj hj hne=>?_) ?_ rfl rfl rfl (Nat.le_add_right _ _)
  ·show ((Sort.mapBlock (Sort.ahead w n) b (Sort.putCells enc 0 ys.toArray)).heap++os)[j]? =_;rw [Array.getElem?_append_left (by simp [Sort.mapBlock,Sort.ahead];exact hj)];simp only [Sort.mapBlock,Sort.ahead,Array.getElem?_modify];rw [if_neg (Ne.symm hne)]
  ·show ((Sort.mapBlock (Sort.ahead w n) b (Sort.putCells enc 0 ys.toArray)).heap++os)[b]? =_;rw [Array.getElem?_append_left (by simp [Sort.mapBlock,Sort.ahead];exact hlt)];simp only [Sort.mapBlock,Sort.ahead,Array.getElem?_modify,if_true,hb,Option.map_some];rfl
 refine ⟨_,I,_,rfl,hst,hk [(b,_)] ys hperm hsrt ⟨by simp,.inr ⟨b,cap,_,rfl,by rw [hyl],by simp [Sort.putCells,hcs],by omega,?_⟩⟩⟩;intro j u hu;have hj:j < ys.length:=by have:=(List.getElem?_eq_some_iff.1 hu).1;simpa using this
 have hlt2:j < cs.size:=by rw [hcs];omega
 simp only [Sort.putCells,Array.getElem?_mapIdx,Array.getElem?_eq_getElem hlt2,Option.map_some,Nat.zero_le,true_and,Nat.zero_add,List.size_toArray,hj,if_true,Nat.sub_zero];rw [getElem!_pos ys.toArray j (by simpa using hj)];simpa [hj] using hu
theorem Wn {P:Program}{ρ:Go.Shelf.Ren}(Lay:Go.Proofs.Lays.n189 P ρ){ω:Om}{I:Imm}{T:Nat}{X F:LH}{v:Value}{zs:List Int}(hO:SlO T 1 X v (zs.map (Value.int .i64)) zs.length)(hsz:zs.length < 4611686018427387904){K:Value→M}
  (hk:∀(X':LH) (ys:List Int),ys.Perm zs→ys.Pairwise (λa b=>a≤b)→SlO T 1 X' v (ys.map (Value.int .i64)) ys.length→K (.tuple #[]) I (X'++F)):Cal P ω (ρ.f 189) #[v] K I (X++F):=
 Nj (le:=λx y:Int=>decide (x≤y)) (λa b c h1 h2=>by simp at *; omega) (λa b=>by simp;omega) (λp cap w=>Go.Proofs.Any.slices_Sort_int_none Lay p cap w) (λblk off cap zs w h1 h2 h3=>Go.Proofs.Any.slices_Sort_int Lay blk off cap zs w h1 h2 h3) hO hsz
  (λX' ys h1 h2 h3=>hk X' ys h1 (h2.imp λh=>by simpa using h) h3)
theorem AED:∀a b:List UInt8,a < b↔blt a b=true
 |[],[]=>by simp [blt,Op.bytesLess]
 |[],b::bs=>by simp [blt,Op.bytesLess]
 |a::p,[]=>by simp [blt,Op.bytesLess]
 |a::p,b::q=>by
  have ih:=AED p q;rw [List.cons_lt_cons_iff];show _↔(decide (a < b)||(a==b&&blt p q))=true;simp [ih]
theorem AKB (a b:List UInt8):a≤b↔blt b a=false:=by
 rw [←List.not_lt,AED];simp
theorem Wm {P:Program}{ρ:Go.Shelf.Ren}(Lay:Go.Proofs.Lays.n190 P ρ){ω:Om}{I:Imm}{T:Nat}{X F:LH}{v:Value}{zs:List (List UInt8)}(hO:SlO T 1 X v (zs.map CJ) zs.length)(hsz:zs.length < 4611686018427387904){K:Value→M}
  (hk:∀(X':LH) (ys:List (List UInt8)),ys.Perm zs→ys.Pairwise (λa b=>blt b a=false)→SlO T 1 X' v (ys.map CJ) ys.length→K (.tuple #[]) I (X'++F)):Cal P ω (ρ.f 190) #[v] K I (X++F):=
 Nj (enc:=CJ) (le:=λx y:List UInt8=>decide (x≤y)) (λa b c h1 h2=>by simp only [decide_eq_true_eq] at *; exact List.le_trans h1 h2) (λa b=>by simp only [Bool.or_eq_true,decide_eq_true_eq];exact List.le_total a b) (λp cap w=>Go.Proofs.Any.slices_Sort_string_none Lay p cap w) (λblk off cap zs w h1 h2 h3=>Go.Proofs.Any.slices_Sort_string Lay blk off cap zs w h1 h2 h3) hO hsz
  (λX' ys h1 h2 h3=>hk X' ys h1 (h2.imp λh=>by simpa [AKB] using h) h3)
end Go.SL
namespace Go.Proofs
open Go.Shelf
def Tryz.lay163_ren:Go.Shelf.Ren:=⟨λ|5=>163|7=>225|n=>n,λ|23=>161|25=>3|3=>209|4=>4|20=>20|n=>n,λ|n=>n⟩
theorem Tryz.lay163:Go.Proofs.SlLaysW.n5 Tryz.prog Tryz.lay163_ren:={
 mixed:=by kernel_rfl
 f5:=⟨Tryz.f163.name,by decide,Tryz.func163.trans (congrArg some (by kernel_rfl))⟩
 f7:=Tryz.func225.trans (congrArg some (by kernel_rfl))
 t4:=Tryz.underlying4
 a4:=Tryz.isAgg4
 z4:=Tryz.sizeOf4
 v4:=Tryz.zeroValue4
 t20:=Tryz.underlying20
 a20:=Tryz.isAgg20
 z20:=Tryz.sizeOf20
 v20:=Tryz.zeroValue20
 t23:=Tryz.underlying161
 a23:=Tryz.isAgg161
 z23:=Tryz.sizeOf161
 v23:=Tryz.zeroValue161}
def Tryz.lay180_ren:Go.Shelf.Ren:=⟨λ|190=>180|125=>138|258=>231|128=>202|129=>203|302=>248|303=>249|304=>250|305=>251|306=>252|307=>253|308=>210|309=>254|310=>255|333=>270|329=>238|330=>239|334=>271|335=>272|336=>244|344=>279|n=>n,λ|31=>177|9=>9|3=>3|46=>219|0=>0|51=>275|53=>196|4=>4|183=>269|182=>268|131=>221|5=>5|218=>310|222=>314|228=>332|229=>333|n=>n,λ|n=>n⟩
theorem Tryz.lay180:Go.Proofs.Lays.n190 Tryz.prog Tryz.lay180_ren:={
 mixed:=by kernel_rfl
 f125:=Tryz.func138.trans (congrArg some (by kernel_rfl))
 f128:=Tryz.func202.trans (congrArg some (by kernel_rfl))
 f129:=Tryz.func203.trans (congrArg some (by kernel_rfl))
 f190:=Tryz.func180.trans (congrArg some (by kernel_rfl))
 f258:=Tryz.func231.trans (congrArg some (by kernel_rfl))
 f302:=Tryz.func248.trans (congrArg some (by kernel_rfl))
 f303:=Tryz.func249.trans (congrArg some (by kernel_rfl))
 f304:=Tryz.func250.trans (congrArg some (by kernel_rfl))
 f305:=Tryz.func251.trans (congrArg some (by kernel_rfl))
 f306:=Tryz.func252.trans (congrArg some (by kernel_rfl))
 f307:=Tryz.func253.trans (congrArg some (by kernel_rfl))
 f308:=Tryz.func210.trans (congrArg some (by kernel_rfl))
 f309:=Tryz.func254.trans (congrArg some (by kernel_rfl))
 f310:=Tryz.func255.trans (congrArg some (by kernel_rfl))
 f329:=Tryz.func238.trans (congrArg some (by kernel_rfl))
 f330:=Tryz.func239.trans (congrArg some (by kernel_rfl))
 f333:=Tryz.func270.trans (congrArg some (by kernel_rfl))
 f334:=Tryz.func271.trans (congrArg some (by kernel_rfl))
 f335:=Tryz.func272.trans (congrArg some (by kernel_rfl))
 f336:=Tryz.func244.trans (congrArg some (by kernel_rfl))
 f344:=Tryz.func279.trans (congrArg some (by kernel_rfl))
 t0:=Tryz.underlying0
 a0:=Tryz.isAgg0
 z0:=Tryz.sizeOf0
 v0:=Tryz.zeroValue0
 t3:=Tryz.underlying3
 a3:=Tryz.isAgg3
 z3:=Tryz.sizeOf3
 v3:=Tryz.zeroValue3
 t4:=Tryz.underlying4
 a4:=Tryz.isAgg4
 z4:=Tryz.sizeOf4
 v4:=Tryz.zeroValue4
 t5:=Tryz.underlying5
 a5:=Tryz.isAgg5
 z5:=Tryz.sizeOf5
 v5:=Tryz.zeroValue5
 t9:=Tryz.underlying9
 a9:=Tryz.isAgg9
 z9:=Tryz.sizeOf9
 v9:=Tryz.zeroValue9
 t31:=Tryz.underlying177
 a31:=Tryz.isAgg177
 z31:=Tryz.sizeOf177
 v31:=Tryz.zeroValue177
 t46:=Tryz.underlying219
 a46:=Tryz.isAgg219
 z46:=Tryz.sizeOf219
 v46:=Tryz.zeroValue219
 t51:=Tryz.underlying275
 a51:=Tryz.isAgg275
 z51:=Tryz.sizeOf275
 v51:=Tryz.zeroValue275
 t53:=Tryz.underlying196
 a53:=Tryz.isAgg196
 z53:=Tryz.sizeOf196
 v53:=Tryz.zeroValue196
 t131:=Tryz.underlying221
 a131:=Tryz.isAgg221
 z131:=Tryz.sizeOf221
 v131:=Tryz.zeroValue221
 t182:=Tryz.underlying268
 a182:=Tryz.isAgg268
 z182:=Tryz.sizeOf268
 v182:=Tryz.zeroValue268
 t183:=Tryz.underlying269
 a183:=Tryz.isAgg269
 z183:=Tryz.sizeOf269
 v183:=Tryz.zeroValue269
 t218:=Tryz.underlying310
 a218:=Tryz.isAgg310
 z218:=Tryz.sizeOf310
 v218:=Tryz.zeroValue310
 t222:=Tryz.underlying314
 a222:=Tryz.isAgg314
 z222:=Tryz.sizeOf314
 v222:=Tryz.zeroValue314
 t228:=Tryz.underlying332
 a228:=Tryz.isAgg332
 z228:=Tryz.sizeOf332
 v228:=Tryz.zeroValue332
 t229:=Tryz.underlying333
 a229:=Tryz.isAgg333
 z229:=Tryz.sizeOf333
 v229:=Tryz.zeroValue333}
end Go.Proofs
namespace Go.Proofs.YtmmfcgbfbcamcaaGreatDoor
open Go.SL
theorem AId:WN:=λω I K T X F v zs hO hl hk=>Wm Go.Proofs.Tryz.lay180 hO (by omega) hk
theorem Mm {ω:Om}{I:Imm}{L:LH}{K:Value→M}{b clock:Nat}{es:Array MapEntry}(hin:(b,Obj.map es clock)∈L)
  (hk:∀b',K (.map (some b')) I ((b',.map es clock)::L)):CT ω 163 #[.map (some b)] K I L:=YF Go.Proofs.Tryz.lay163 hin hk
end Go.Proofs.YtmmfcgbfbcamcaaGreatDoor
