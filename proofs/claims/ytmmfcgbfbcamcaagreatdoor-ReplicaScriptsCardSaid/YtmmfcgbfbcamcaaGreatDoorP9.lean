/-
  Lemmas, part 9: laid together by a program.
-/
import Derived.Test.YtmmfcgbfbcamcaaGreatDoorP8
import Derived.Test.YtmmfcgbfbcamcaaGreatDoorP7
import Derived.Shelf.SlMaps.Clone
import Derived.Test.YtmmfcgbfbcamcaaGreatDoorP5
import Derived.Shelf.SlSortCmp.NoneTotal
import Derived.Shelf.Sort.Plain
import Derived.Shelf.Slices.In.SortNone
import Derived.Test.YtmmfcgbfbcamcaaGreatDoorProg
import Derived.Shelf.Lays
import Derived.Shelf.SlLaysW
set_option maxRecDepth 100000
set_option linter.unusedVariables false
set_option linter.unusedSimpArgs false
set_option linter.unusedSectionVars false
namespace Go.Proofs.YtmmfcgbfbcamcaaGreatDoor
open Go.SL
abbrev rcC (q:Int×TRc):List Value:=[.int .i64 q.1,.int .i64 q.2.fState,.int .i64 q.2.fAt.fWall,.int .i64 q.2.fAt.fLogic]
abbrev AJR (q:Int×TRc):Obj:=.cells (rcC q).toArray 138 (0,0)
def HM (l:AL Int TRc)(n:Int):Int:=match l.findIdx? (fun q=>q.1==n) with
 |some i=>i
 |none=> -1
theorem PY {l:AL Int TRc}{n:Int}{i:Nat}(hi:i < l.length)(hno:∀x∈l.take i,x.1≠n)(he:l[i].1=n):HM l n=i:=by
 unfold HM;have:l.findIdx? (fun q=>q.1==n)=some i:=by
  rw [List.findIdx?_eq_some_iff_getElem];refine ⟨hi,by simpa using he,fun j hj=>?_⟩;have:=hno l[j] (List.mem_take_iff_getElem.2 ⟨j,by omega,rfl⟩);simpa using this
 rw [this]
theorem Ky {l:AL Int TRc}{n:Int}(hno:∀x∈l,x.1≠n):HM l n= -1:=by
 unfold HM;have:l.findIdx? (fun q=>q.1==n)=none:=by
  rw [List.findIdx?_eq_none_iff];intro x hx;simpa using hno x hx
 rw [this]
theorem Hv {l:AL Int TRc}{n:Int}(hs:SrtA ilt l):(lkA l n=none∧HM l n= -1)∨∃(i:Nat) (hi:i < l.length),HM l n=i∧l[i].1=n∧lkA l n=some l[i].2:=by
 cases h:lkA l n with
 |none=>exact .inl ⟨rfl,Ky (lkA_none.1 h)⟩
 |some x=>
  right
  obtain ⟨i,hi,hx⟩:=List.mem_iff_getElem.1 (Dc h);have hn:l[i].1=n:=by rw [hx]
  refine ⟨i,hi,PY hi (fun y hy=>?_) hn,hn,by rw [hx]⟩;obtain ⟨j,hj,rfl⟩:=List.mem_take_iff_getElem.1 hy;have hp:=List.pairwise_iff_getElem.1 hs j i (by omega) hi (by omega);rw [hn] at hp;intro e;rw [e] at hp;simp at hp
section
variable {ω:Om}{I:Imm}{L:LH}{K:Value→M}{br:Nat}{V:RV}{m:Mch}{R:LH}
theorem RF14.rl (hF:RF14 I V m):RL RcR 4 I V.XR V.vR m.recs:=SlO.rl hF.rc hF.rcR (fun x h=>h)
theorem RF14.mkl (hF:RF14 I V m):RL MkR 4 I V.XM V.vM m.marks:=SlO.rl hF.mkO hF.mkR (fun x h=>h)
theorem Fh {n:Int}(hF:RF14 I V m)(hl:m.recs.length≤1000)(hk:K (.int .i64 (HM m.recs n)) I (rL br V m R)):
  CT ω 173 #[pt br,.int .i64 n] K I (rL br V m R):=by
 have hS:=hF.rl;refine AHy ?_;unfold YT;refine loop (fun j s I' L'=>I'=I∧L'=rL br V m R∧∃i:Nat,j+i=m.recs.length∧s=(.int .i64 0,.int .i64 i,())∧∀x∈m.recs.take i,x.1≠n) m.recs.length ⟨rfl,rfl,0,rfl,rfl,by simp⟩ ?_;rintro j s I' L' ⟨rfl,rfl,i,hni,rfl,hno⟩;unfold TD;try simp only [SSd,Nat.reduceAdd]
 refine rdb ?_;simp only [RL.len hS,SSd,Nat.reduceAdd];refine AD (fun e=>?_) (fun e=>?_)
 ·have hi:i < m.recs.length:=by simpa using e
  obtain ⟨q,off,d,hix,hcl,hd,hcc⟩:=RL.ix hS (i:=(i:Int)) (by omega) (by omega);rw [Ab hi] at hd;have hpl:=PY (n:=n) hi hno;have hsn:=take_snoc hi;generalize m.recs[i]=x at *;obtain rfl:=hd;have hcv:=hcc I' V.XR (Ext.refl _) (fun _ h=>h);try simp only [SSd,Nat.reduceAdd]
  refine rdb ?_;simp only [hix,SSd,Nat.reduceAdd];refine rdC (hcv 0 _ rfl) (Ext.refl _) ?_;try simp only [SSd,Nat.reduceAdd]
  refine AD (fun e2=>?_) (fun e2=>?_)
  ·rw [hpl (by simpa using e2)] at hk;exact Gh.done hk
  ·have e2':x.1≠n:=by simpa using e2
   try simp only [SSd,Nat.reduceAdd]
   rw [wrap_i64 _ (by omega)];refine Gh.done ⟨j - 1,by omega,rfl,rfl,i+1,by omega,rfl,fun y hy=>?_⟩;rw [hsn] at hy;rcases List.mem_append.1 hy with hy|hy
   ·exact hno y hy
   ·simp only [List.mem_singleton] at hy;subst hy;exact e2'
 ·have hi:i=m.recs.length:=by simp at e;omega
  rw [hi,List.take_length] at hno;rw [Ky hno] at hk;exact Gh.done hk
end
section
variable {ω:Om}{I:Imm}{L:LH}{K:Value→M}{br:Nat}{V:RV}{m:Mch}{R:LH}
abbrev Kp (q1:Nat)(x:Int×TRc)(XO Z:LH):LH:=(q1,AJR x)::(XO++Z)
theorem Hr {x:Int×TRc}(hF:RF14 I V m)(hs:SrtA ilt m.recs)(hil:m.recs.length≤1000)(hno:lkA m.recs x.1=none)
  (hk1:64≤m.recs.length→K (.bool false) I (rL br V m R))
  (hk2:∀V',m.recs.length < 64→RF14 I V' {m with recs:=Ap ilt x.1 x.2 m.recs}→K (.bool true) I (rL br V' {m with recs:=Ap ilt x.1 x.2 m.recs} R)):
  CT ω 174 #[pt br,.agg (rcC x).toArray] K I (rL br V m R):=by
 have hS:=hF.rl;have hins:EK ilt x.1 x.2 false m.recs=Ap ilt x.1 x.2 m.recs:=Hz LS hs;have hno':=lkA_none.1 hno;refine AHx ?_;unfold YR;refine AM (fun q1=>?_);try simp only [SSd,Nat.reduceAdd]
 refine rdb ?_;simp only [RL.len hS,SSd,Nat.reduceAdd];refine AD (fun e0=>?_) (fun e0=>?_)
 ·exact Gh.to (rL br V m R) (Gh.done (hk1 (by simp at e0;omega)))
 have h64:m.recs.length < 64:=by simp at e0;omega
 have end6:∀(XO:LH) (v:Value) (cells:List Value) (acc:List (Int×TRc)),SlO 138 4 XO v cells acc.length→Recs (RcR I) 4 acc cells→acc=Ap ilt x.1 x.2 m.recs→Jq ω (pt br) (.bool false) v (fun v=>Gh (K v)) I (Kp q1 x XO (rL br V m R)):=by
  intro XO v cells acc hO hR he;subst he;obtain ⟨oa,oc,rfl⟩:=hO.form;unfold Jq;try simp only [SSd,Nat.reduceAdd]
  refine st1 rfl ?_;refine Gh.to (rL br {V with vR:=.slice oa (Ap ilt x.1 x.2 m.recs).length oc,cR:=cells,XR:=XO} {m with recs:=Ap ilt x.1 x.2 m.recs} R) (Gh.done (hk2 _ h64 {hF with rc:=?_,rcR:=?_}))
  ·exact hO
  ·exact hR
 refine loop (fun n s I' L'=>I'=I∧∃(i:Nat) (d:Bool) (XO:LH) (v:Value) (acc:List (Int×TRc)) (cells:List Value),n+i=m.recs.length∧s=(v,.bool d,.int .i64 i,())∧L'=Kp q1 x XO (rL br V m R)∧SlO 138 4 XO v cells acc.length∧Recs (RcR I) 4 acc cells∧acc.length≤2 * i∧
   acc++EK ilt x.1 x.2 d (m.recs.drop i)=Ap ilt x.1 x.2 m.recs) m.recs.length ⟨rfl,0,false,[],_,[],[],rfl,rfl,rfl,SlO.none _ _,rfl,by simp,hins⟩ ?_
 rintro n s I' L' ⟨rfl,i,d,XO,v,acc,cells,hni,rfl,rfl,hO,hR,hal,hA⟩;unfold TC;try simp only [SSd,Nat.reduceAdd]
 refine rdb ?_;simp only [RL.len hS,SSd,Nat.reduceAdd];refine AD (fun e1=>?_) (fun e1=>?_)
 ·have hi:i < m.recs.length:=by simpa using e1
  have hd:m.recs.drop i=m.recs[i]::m.recs.drop (i+1):=List.drop_eq_getElem_cons hi;have hne:m.recs[i].1≠x.1:=hno' _ (List.getElem_mem hi);rw [hd,EK,if_neg hne] at hA;obtain ⟨q,off,dd,hix,hcl,hdd,hcc⟩:=RL.ix hS (i:=(i:Int)) (by omega) (by omega);rw [Ab hi] at hdd;generalize m.recs[i]=y at *;obtain rfl:=hdd;have hcv:=hcc I' V.XR (Ext.refl _) (fun _ h=>h);have three:∀(XO:LH) (v:Value) (cells:List Value) (acc:List (Int×TRc)) (d:Bool),SlO 138 4 XO v cells acc.length→Recs (RcR I') 4 acc cells→acc.length≤2 * i+1→acc++([y]++EK ilt x.1 x.2 d (m.recs.drop (i+1)))=Ap ilt x.1 x.2 m.recs→
    Hn ω (pt br) v (.bool d) (.int .i64 i) (fun s'=>Gh fun I2 L2=>∃m',m' < n∧I2=I'∧∃(i:Nat) (d:Bool) (XO:LH) (v:Value) (acc:List (Int×TRc)) (cells:List Value),m'+i=m.recs.length∧s'=(v,.bool d,.int .i64 i,())∧L2=Kp q1 x XO (rL br V m R)∧SlO 138 4 XO v cells acc.length∧Recs (RcR I') 4 acc cells∧acc.length≤2 * i∧
   acc++EK ilt x.1 x.2 d (m.recs.drop i)=Ap ilt x.1 x.2 m.recs) (fun v=>Gh (K v)) I' (Kp q1 x XO (rL br V m R)):=by
   intro XO v cells acc d hO hR hal hA;unfold Hn;try simp only [SSd,Nat.reduceAdd]
   refine rdb ?_;simp only [hix,SSd,Nat.reduceAdd];refine FO hcv (Ext.refl _) rfl ?_;refine DY (R:=RcR) (X6:=XO) (x:=y) rfl (by omega) hO hR rfl rfl (AE rfl) (by omega) (by omega) (fun X1 X6 v6 cells6 h6 hR6=>?_);try simp only [SSd,Nat.reduceAdd]
   rw [wrap_i64 _ (by omega)];exact Gh.to (Kp q1 x X6 (rL br V m R)) (Gh.done ⟨n - 1,by omega,rfl,i+1,d,X6,v6,_,cells6,by omega,rfl,rfl,h6,hR6,by simp;omega,by rw [List.append_assoc];exact hA⟩)
  refine AK ?_;try simp only [SSd,Nat.reduceAdd]
  cases d with
  |true=>
   rw [if_neg (by simp),List.nil_append,Bool.true_or] at hA;simp only [Bool.not_true,SSd,Nat.reduceAdd];exact three XO v cells acc true hO hR (by omega) hA
  |false=>
   simp only [Bool.not_false,SSd,Nat.reduceAdd];refine AV ?_;simp only [hix,SSd,Nat.reduceAdd];refine Aq (hcv 0 _ rfl) (Ext.refl _) ?_;try simp only [SSd,Nat.reduceAdd]
   refine AV ?_;try simp only [SSd,Nat.reduceAdd]
   refine AD (fun e2=>?_) (fun e2=>?_)
   ·have hlt:ilt y.1 x.1=false:=by simp at e2 ⊢;omega
    rw [if_pos ⟨rfl,hlt⟩,hlt] at hA;unfold TB;refine rdB rfl ?_;refine Ck (R:=RcR) (X6:=XO) (x:=x) rfl (by omega) hO hR rfl rfl (AE rfl) (by omega) (by omega) (fun X1 X6 v6 cells6 h6 hR6=>?_);refine Gh.to (Kp q1 x X6 (rL br V m R)) (Gh.done (three X6 v6 cells6 _ true h6 hR6 (by simp;omega) ?_));rw [List.append_assoc];exact hA
   ·have hlt:ilt y.1 x.1=true:=by simp at e2 ⊢;omega
    rw [if_neg (by simp [hlt]),List.nil_append,hlt] at hA;exact three XO v cells acc false hO hR (by omega) hA
 ·have hi:i=m.recs.length:=by simp at e1;omega
  subst hi;rw [List.drop_length,EK] at hA;unfold TA;try simp only [SSd,Nat.reduceAdd]
  cases d with
  |true=>
   simp only [Bool.not_true,SSd,Nat.reduceAdd];exact end6 XO v cells acc hO hR (by simpa using hA)
  |false=>
   simp only [Bool.not_false,SSd,Nat.reduceAdd];refine rdB rfl ?_;refine Ck (R:=RcR) (X6:=XO) (x:=x) rfl (by omega) hO hR rfl rfl (AE rfl) (by omega) (by omega) (fun X1 X6 v6 cells6 h6 hR6=>?_);exact Gh.to (Kp q1 x X6 (rL br V m R)) (Gh.done (end6 X6 v6 cells6 _ h6 hR6 (by simpa using hA)))
theorem GG {m:Mch}{n:Int}{x:TRc}(h:lkA m.recs n=some x):recAt m n=x:=by unfold recAt;rw [h];rfl
theorem LK {c:TCmd}{cc:List Value}(hF:RF14 I V m)(hs:SrtA ilt m.recs)(hil:m.recs.length≤999)(hc:TCmdV I c cc)
  (hk1:Cr m c.fTxn 3 c.fAt=none→K (.int .i64 (-1)) I (rL br V m R))
  (hk2:∀V' m1 (i:Nat) (hi:i < m1.recs.length),Cr m c.fTxn 3 c.fAt=some m1→RF14 I V' m1→m1.recs[i].1=c.fTxn→recAt m1 c.fTxn=m1.recs[i].2→SrtA ilt m1.recs→m1.recs.length≤1000→K (.int .i64 i) I (rL br V' m1 R)):
  CT ω 175 #[pt br,.agg cc.toArray] K I (rL br V m R):=by
 obtain ⟨w0,w1,w2,w3,rfl,g0,g1,g2,g3⟩:=hc;refine AHw ?_;unfold YP;refine AM (fun q1=>?_);try simp only [SSd,Nat.reduceAdd]
 refine rdb ?_;refine call (Cal.perm (L':=rL br V m ((q1,Dr c w0 w1 w2 w3)::R)) (AQ (by ((try simp only [AN,AP,Aa,AR]);(try ac_rfl)))) (Fh hF (by omega) ?_));rcases Hv (n:=c.fTxn) hs with ⟨hn,hp⟩|⟨i,hi,hp,h1,h2⟩
 ·rw [hp];try simp only [SSd,Nat.reduceAdd]
  refine rdb ?_;try simp only [SSd,Nat.reduceAdd]
  refine rdP [.int .i64 c.fAt.fWall,.int .i64 c.fAt.fLogic] rfl rfl ?_;try simp only [SSd,Nat.reduceAdd]
  have hr:Cr m c.fTxn 3 c.fAt=if 64≤m.recs.length then none else some {m with recs:=Ap ilt c.fTxn ⟨3,c.fAt⟩ m.recs}:=by unfold Cr;rw [hn];rfl
  rw [hr] at hk1 hk2;refine call (Hr (x:=(c.fTxn,⟨3,c.fAt⟩)) hF hs (by omega) hn (fun h=>?_) (fun V' h hF'=>?_))
  ·simp only [Bool.not_false,SSd,Nat.reduceAdd];exact Gh.to (rL br V m R) (Gh.done (hk1 (by rw [if_pos h])))
  ·simp only [Bool.not_true,SSd,Nat.reduceAdd];refine rdb ?_;have hl2:=(FT (lt:=ilt) c.fTxn (⟨3,c.fAt⟩:TRc) m.recs).1;have hs2:SrtA ilt (Ap ilt c.fTxn ⟨3,c.fAt⟩ m.recs):=hs.ins LS;refine call (Fh (m:={m with recs:=Ap ilt c.fTxn ⟨3,c.fAt⟩ m.recs}) hF' (by show (Ap ilt c.fTxn ⟨3,c.fAt⟩ m.recs).length≤1000;omega) ?_);rcases Hv (n:=c.fTxn) hs2 with ⟨hn',_⟩|⟨i,hi,hp,h1,h2⟩
   ·rw [FA,if_pos rfl] at hn';cases hn'
   ·rw [show ({m with recs:=Ap ilt c.fTxn ⟨3,c.fAt⟩ m.recs}:Mch).recs=Ap ilt c.fTxn ⟨3,c.fAt⟩ m.recs from rfl,hp];exact Gh.to (rL br V' {m with recs:=Ap ilt c.fTxn ⟨3,c.fAt⟩ m.recs} R) (Gh.done (hk2 V' {m with recs:=Ap ilt c.fTxn ⟨3,c.fAt⟩ m.recs} i hi (by rw [if_neg (by omega)]) hF' h1 (GG h2) hs2 (by show (Ap ilt c.fTxn ⟨3,c.fAt⟩ m.recs).length≤1000;omega)))
 ·rw [hp];have e:decide ((0:Int)≤(i:Int))=true:=by simp
  simp only [e,SSd,Nat.reduceAdd];have hr:Cr m c.fTxn 3 c.fAt=some m:=by unfold Cr;rw [h2];rfl
  exact Gh.to (rL br V m R) (Gh.done (hk2 V m i hi hr hF h1 (GG h2) hs (by omega)))
end
section
variable {ω:Om}{I:Imm}{L:LH}{K:Value→M}{br:Nat}{V:RV}{m:Mch}{R:LH}
theorem PU {c:TCmd}{cc:List Value}(hF:RF14 I V m)(hs:SrtA ilt m.recs)(hsn:SrtA ilt m.seen)(hil:m.recs.length≤999)(hsl:m.seen.length≤1000)(hc:TCmdV I c cc)
  (hk:∀r m',EH m c=(r,m')→∀I' V',Ext I I'→RF14 I' V' m'→K (rvR r) I' (rL br V' m' R)):
  CT ω 114 #[pt br,.agg cc.toArray] K I (rL br V m R):=by
 have hc':=hc;obtain ⟨w0,w1,w2,w3,rfl,g0,g1,g2,g3⟩:=hc;refine AIn ?_;unfold AAE;refine AM (fun q1=>AM (fun q2=>?_));refine rdB rfl ?_;refine call (Cal.perm (L':=rL br V m ((q2,EU)::(q1,Dr c w0 w1 w2 w3)::R)) (AQ (by ((try simp only [AN,AP,Aa,AR]);(try ac_rfl)))) (HI hF hsn (by omega) hc' (fun e a ha=>?_) (fun ha=>?_)))
 ·try simp only [SSd,Nat.reduceAdd]
  refine AM (fun q3=>?_);refine stB rfl rfl (AE rfl) ?_;try simp only [SSd,Nat.reduceAdd]
  refine rdB rfl ?_;refine stB rfl rfl (AE rfl) ?_;refine rdB rfl ?_;have hb:EH m c=(⟨e,BK,[],a,0,0⟩,m):=by unfold EH;rw [ha]
  exact Gh.to (rL br V m R) (Gh.done (hk _ _ hb I V (Ext.refl _) hF))
 try simp only [SSd,Nat.reduceAdd]
 refine AM (fun q3=>?_);refine stB rfl rfl (AE rfl) ?_;try simp only [SSd,Nat.reduceAdd]
 refine rdb ?_;refine call (Cal.to (rL br V m ((q2,EU)::(q1,Dr c w0 w1 w2 w3)::R)) (Fh hF (by omega) ?_));have hb:EH m c=match Cr m c.fTxn 1 c.fAt with
  |none=>(Al 143,m)
  |some m1=>if (recAt m1 c.fTxn).fState≠1 then (⟨142,BK,[],z0,0,(recAt m1 c.fTxn).fState⟩,m1) else (⟨0,BK,[],z0,0,1⟩,DD m1 c 0 z0):=by unfold EH;simp only [ha];rfl
 rcases Hv (n:=c.fTxn) hs with ⟨hn,hp⟩|⟨i,hi,hp,h1,h2⟩
 ·rw [hp];have hr:Cr m c.fTxn 1 c.fAt=if 64≤m.recs.length then none else some {m with recs:=Ap ilt c.fTxn ⟨1,c.fAt⟩ m.recs}:=by unfold Cr;rw [hn];rfl
  try simp only [SSd,Nat.reduceAdd]
  refine rdb ?_;try simp only [SSd,Nat.reduceAdd]
  refine rdP [.int .i64 c.fAt.fWall,.int .i64 c.fAt.fLogic] rfl rfl ?_;try simp only [SSd,Nat.reduceAdd]
  refine call (Hr (x:=(c.fTxn,⟨1,c.fAt⟩)) hF hs (by omega) hn (fun h=>?_) (fun V' h hF'=>?_))
  ·rw [hr,if_pos h] at hb;simp only [Bool.not_false,SSd,Nat.reduceAdd];refine stB rfl rfl (AE rfl) ?_;refine rdB rfl ?_;exact Gh.to (rL br V m R) (Gh.done (hk _ _ hb I V (Ext.refl _) hF))
  ·rw [hr,if_neg (by omega)] at hb;have hst:recAt {m with recs:=Ap ilt c.fTxn ⟨1,c.fAt⟩ m.recs} c.fTxn=⟨1,c.fAt⟩:=Mp;simp only [hst,ne_eq,not_true_eq_false,if_false] at hb;simp only [Bool.not_true,SSd,Nat.reduceAdd];refine rdB rfl ?_;refine call (Gi (m:={m with recs:=Ap ilt c.fTxn ⟨1,c.fAt⟩ m.recs}) (e:=0) (a:=z0) (b':=0) (st':=0) hF' hsn hsl hc' (fun I9 V9 hI9 hF9=>?_));try simp only [SSd,Nat.reduceAdd]
   refine stB rfl rfl (AE rfl) ?_;refine rdB rfl ?_;exact Gh.to (rL br V9 _ R) (Gh.done (hk _ _ hb I9 V9 hI9 hF9))
 ·rw [hp];have hr:Cr m c.fTxn 1 c.fAt=some m:=by unfold Cr;rw [h2];rfl
  have hst:recAt m c.fTxn=m.recs[i].2:=GG h2;rw [hr] at hb;simp only [hst] at hb;have e:decide ((0:Int)≤(i:Int))=true:=by simp
  obtain ⟨q,off,d,hix,hcl,hd,hcc⟩:=RL.ix hF.rl (i:=(i:Int)) (by omega) (by omega);rw [Ab hi] at hd;generalize m.recs[i]=x at *;obtain rfl:=hd;have hcv:=hcc I V.XR (Ext.refl _) (fun _ h=>h);simp only [e,SSd,Nat.reduceAdd];refine rdb ?_;simp only [hix,SSd,Nat.reduceAdd];refine rdC (hcv 1 _ rfl) (Ext.refl _) ?_;try simp only [SSd,Nat.reduceAdd]
  refine AD (fun e2=>?_) (fun e2=>?_)
  ·rw [if_pos (by simpa using e2)] at hb;try simp only [SSd,Nat.reduceAdd]
   refine stB rfl rfl (AE rfl) ?_;refine rdB rfl ?_;exact Gh.to (rL br V m R) (Gh.done (hk _ _ hb I V (Ext.refl _) hF))
  ·have e2':x.2.fState=1:=by simpa using e2
   rw [if_neg (by simpa using e2)] at hb;rw [e2'];try simp only [SSd,Nat.reduceAdd]
   refine rdB rfl ?_;refine call (Gi (m:=m) (e:=0) (a:=z0) (b':=0) (st':=0) hF hsn hsl hc' (fun I9 V9 hI9 hF9=>?_));try simp only [SSd,Nat.reduceAdd]
   refine stB rfl rfl (AE rfl) ?_;refine rdB rfl ?_;exact Gh.to (rL br V9 _ R) (Gh.done (hk _ _ hb I9 V9 hI9 hF9))
theorem RF14.setR {br i d k off b:Nat}{y:Int×TRc}{x:Value}{vs:List Value}{T0 L0:LH}(hF:RF14 I V m)(hi:i < m.recs.length)(hd:d+k≤4)(hp:ixV 4 V.vR (.int .i64 i)=some (.pointer (some ⟨b,off,none⟩)))(hx:x.cells=vs.toArray)(hl:vs.length=k)(h1:∀u∈vs,u.oneCell'=true)
  (hy:(rcC m.recs[i]).take d++vs++(rcC m.recs[i]).drop (d+k)=rcC y) (hL:L0=T0++rL br V m R)
  (hk:∀V',RF14 I V' {m with recs:=m.recs.set i y}→Gh (K undef) I (T0++rL br V' {m with recs:=m.recs.set i y} R)):Sto k (.pointer (some ⟨b,off+d,none⟩)) x (gh K) I L0:=by
 subst hL;have hsp:SplitL V.XR (T0++rL br V m R) (T0++((br,Kr V.vF V.vT V.bs V.vM m.low V.vR V.vS m.oldest)::(V.bs,BC V.vV V.vI m.sp.floor)::(V.XM++R))):=inferInstance;refine SlO.sto (hsp:=hsp) hF.rc hi hd hp hx hl h1 (fun X' hX'=>?_);refine Gh.perm (L':=T0++rL br {V with XR:=X',cR:=V.cR.take (i * 4+d)++vs++V.cR.drop (i * 4+d+k)} {m with recs:=m.recs.set i y} R) (AQ (by ((try simp only [AN,AP,Aa,AR]);(try ac_rfl)))) (hk _ {hF with rc:=?_,rcR:=?_})
 ·show SlO _ 4 X' V.vR _ (m.recs.set i y).length;rw [List.length_set];exact hX'
 ·refine Recs.upd hl hd hF.rcR (List.getElem?_eq_getElem hi) (fun c hc hR=>?_);have hR':c=rcC m.recs[i]:=hR;rw [hR'];exact hy
theorem NO {q1 q2 i:Nat}{w:Int}{c:TCmd}{w0 w1 w2 w3:Value}(hF:RF14 I V m)(hi:i < m.recs.length)(hil:m.recs.length≤1000)(hk:K (rv (if m.recs[i].2.fState≠w then 142 else 0) m.recs[i].2.fAt 0 m.recs[i].2.fState) I (rL br V m R)):
  KB ω (pt br) (pt q2) (.int .i64 i) (.int .i64 w) (fun v=>Gh (K v)) I (rL br V m ((q2,EU)::(q1,Dr c w0 w1 w2 w3)::R)):=by
 obtain ⟨q,off,d,hix,hcl,hd,hcc⟩:=RL.ix hF.rl (i:=(i:Int)) (by omega) (by omega);rw [Ab hi] at hd;generalize m.recs[i]=x at *;obtain rfl:=hd;have hcv:=hcc I V.XR (Ext.refl _) (fun _ h=>h);have hat:Cells I V.XR q (off+2) [.int .i64 x.2.fAt.fWall,.int .i64 x.2.fAt.fLogic]:=by simpa using hcv.sub (k:=2) (m:=2)
 unfold KB;refine AK ?_;try simp only [SSd,Nat.reduceAdd]
 refine AV ?_;simp only [hix,SSd,Nat.reduceAdd];refine Aq (hcv 1 _ rfl) (Ext.refl _) ?_;try simp only [SSd,Nat.reduceAdd]
 refine AV ?_;simp only [hix,SSd,Nat.reduceAdd];refine BX hat (Ext.refl _) rfl ?_;try simp only [SSd,Nat.reduceAdd]
 refine AM (fun q3=>?_);refine Bv (Ext.refl _) ?_;refine stB rfl rfl (AE rfl) ?_;try simp only [SSd,Nat.reduceAdd]
 refine rdb ?_;try simp only [SSd,Nat.reduceAdd]
 refine AD (fun e=>?_) (fun e=>?_)
 ·rw [if_pos (by simpa using e)] at hk;try simp only [SSd,Nat.reduceAdd]
  refine st1 rfl ?_;unfold KA;refine rdB rfl ?_;refine stB rfl rfl (AE rfl) ?_;refine rdB rfl ?_;exact Gh.to (rL br V m R) (Gh.done hk)
 ·rw [if_neg (by simpa using e)] at hk;unfold KA;refine rdB rfl ?_;refine stB rfl rfl (AE rfl) ?_;refine rdB rfl ?_;exact Gh.to (rL br V m R) (Gh.done hk)
theorem PO {m:Mch}{i:Nat}{n:Int}{x:TRc}(hs:SrtA ilt m.recs)(hi:i < m.recs.length)(h:m.recs[i].1=n):Ap ilt n x m.recs=m.recs.set i (n,x):=LN LS hs (fun q hq=>by
  rw [List.getElem?_eq_getElem hi,Option.some.injEq] at hq;rw [←hq];exact h) hi
theorem VD {c:TCmd}{cc:List Value}(hF:RF14 I V m)(hs:SrtA ilt m.recs)(hil:m.recs.length≤999)(hc:TCmdV I c cc)(hk:∀r m',FG m c=(r,m')→∀V',RF14 I V' m'→K (rvR r) I (rL br V' m' R)):
  CT ω 115 #[pt br,.agg cc.toArray] K I (rL br V m R):=by
 have hc':=hc;obtain ⟨w0,w1,w2,w3,rfl,g0,g1,g2,g3⟩:=hc;refine AIm ?_;unfold AAC;refine AM (fun q1=>AM (fun q2=>?_));refine rdB rfl ?_;refine call (Cal.perm (L':=rL br V m ((q2,EU)::(q1,Dr c w0 w1 w2 w3)::R)) (AQ (by ((try simp only [AN,AP,Aa,AR]);(try ac_rfl)))) (LK hF hs hil hc' (fun hn=>?_) (fun V1 m1 i hi hr hF1 h1 hat1 hs1 hl1=>?_)))
 ·try simp only [SSd,Nat.reduceAdd]
  refine stB rfl rfl (AE rfl) ?_;refine rdB rfl ?_;exact Gh.to (rL br V m R) (Gh.done (hk _ _ (NN hn) V hF))
 have e:decide ((i:Int) < 0)=false:=by simp
 simp only [e,SSd,Nat.reduceAdd];refine rdb ?_;have fin:∀w:Int,w=Cx c→KC ω (pt br) (pt q1) (pt q2) (.int .i64 i) (.int .i64 w) (fun v=>Gh (K v)) I (rL br V1 m1 ((q2,EU)::(q1,Dr c w0 w1 w2 w3)::R)):=by
  intro w hw;obtain ⟨q,off,d,hix,hcl,hd,hcc⟩:=RL.ix hF1.rl (i:=(i:Int)) (by omega) (by omega);rw [Ab hi] at hd;obtain rfl:=hd;have hcv:=hcc I V1.XR (Ext.refl _) (fun _ h=>h);unfold KC;try simp only [SSd,Nat.reduceAdd]
  refine rdb ?_;simp only [hix,SSd,Nat.reduceAdd];refine rdC (hcv 1 _ rfl) (Ext.refl _) ?_;try simp only [SSd,Nat.reduceAdd]
  refine AD (fun e2=>?_) (fun e2=>?_)
  ·have e2':(recAt m1 c.fTxn).fState=1:=by rw [hat1];simpa using e2
   have hE:=NM hr e2';rw [PO hs1 hi h1,←hw] at hE;try simp only [SSd,Nat.reduceAdd]
   refine rdb ?_;simp only [hix,SSd,Nat.reduceAdd];refine RF14.setR (T0:=[]) (d:=1) (k:=1) (vs:=[.int .i64 w]) (y:=(m1.recs[i].1,⟨w,m1.recs[i].2.fAt⟩)) hF1 hi (by omega) hix rfl rfl (AE rfl) rfl rfl (fun V2 hF2=>Gh.done ?_);have hi2:i < (m1.recs.set i (m1.recs[i].1,⟨w,m1.recs[i].2.fAt⟩)).length:=by rw [List.length_set];exact hi
   obtain ⟨q',off',d',hix',hcl',hd',hcc'⟩:=RL.ix hF2.rl (i:=(i:Int)) (by omega) (by show _ < ((m1.recs.set i _).length:Int);rw [List.length_set];omega);refine AK ?_;try simp only [SSd,Nat.reduceAdd]
   refine AV ?_;try simp only [SSd,Nat.reduceAdd]
   refine Af [.int .i64 c.fAt.fWall,.int .i64 c.fAt.fLogic] rfl rfl ?_;simp only [hix',SSd,Nat.reduceAdd];refine RF14.setR (T0:=[]) (d:=2) (k:=2) (vs:=[.int .i64 c.fAt.fWall,.int .i64 c.fAt.fLogic]) (y:=(c.fTxn,⟨w,c.fAt⟩)) hF2 hi2 (by omega) hix' rfl rfl (AE rfl) (by simp only [List.getElem_set_self];rw [h1];rfl) rfl (fun V3 hF3=>?_);simp only [List.set_set] at hF3 ⊢;refine Gh.perm (L':=rL br V3 {m1 with recs:=m1.recs.set i (c.fTxn,⟨w,c.fAt⟩)} ((q2,EU)::(q1,Dr c w0 w1 w2 w3)::R)) (AQ (by ((try simp only [AN,AP,Aa,AR]);(try ac_rfl)))) (Gh.done (NO (m:={m1 with recs:=m1.recs.set i (c.fTxn,⟨w,c.fAt⟩)}) hF3 (by show i < (m1.recs.set i _).length;rw [List.length_set];exact hi) (by show (m1.recs.set i _).length≤1000;rw [List.length_set];exact hl1) ?_));have:=hk _ _ hE V3 hF3;simp only [List.getElem_set_self];simpa using this
  ·have e2':(recAt m1 c.fTxn).fState≠1:=by rw [hat1];simpa using e2
   refine NO hF1 hi hl1 ?_;rw [←hat1];subst hw;by_cases e3:(recAt m1 c.fTxn).fState=Cx c
   ·rw [if_neg (by simpa using e3)];exact hk _ _ (QE hr e2' e3) V1 hF1
   ·rw [if_pos e3];exact hk _ _ (QF hr e2' e3) V1 hF1
 cases hy:c.fYes with
 |true=>
  try simp only [SSd,Nat.reduceAdd]
  exact fin 2 (by unfold Cx;rw [hy];rfl)
 |false=>
  try simp only [SSd,Nat.reduceAdd]
  exact fin 3 (by unfold Cx;rw [hy];rfl)
end
theorem RcR.one {I:Imm}{x:Int×TRc}{c:List Value}(h:RcR I x c):∀u∈c,u.oneCell'=true:=by
 rw [show c=rcC x from h];exact AE rfl
theorem Oa {α:Type}{R:Imm→α→List Value→Prop}{T n bytes:Nat}{z:Array Value}{X L0 F:LH}{I:Imm}{w v:Value}{xs ys:List α}{cells:List Value}{K:Value→M}[hsp:SplitL X L0 F](hz:z.size=n)(hX:SlO T n X w cells xs.length)(hR:Recs (R I) n xs cells)(hE:RL R n I L0 v ys)
  (h1:∀{x:α} {c:List Value},R I x c→∀u∈c,u.oneCell'=true) (hb:(xs.length+ys.length) * bytes≤150000000000000) (hl:xs.length+ys.length≤150000000000000)
  (hk:∀X' v' cells',SlO T n X' v' cells' (xs++ys).length→Recs (R I) n (xs++ys) cells'→Gh (K v') I (X'++F)):App T n bytes z w v (gh K) I L0:=by
 obtain ⟨a,cap,news,rfl,hcap,hn,hR2⟩:=hE;refine Et (X:=X) hz hX hn (hR2.one_cells (fun x c h=>h1 h)) hb hl (fun X' v' hX'=>?_);exact hk X' v' _ (by rw [List.length_append];exact hX') (Recs.append hR hR2)
section
variable {ω:Om}{I:Imm}{L:LH}{K:Value→M}{br:Nat}{V:RV}{m:Mch}{R:LH}
theorem Kv {q1 q2 i:Nat}{c:TCmd}{w0 w1 w2 w3:Value}(hF:RF14 I V m)(hi:i < m.recs.length)(hil:m.recs.length≤1000)(hk:K (rv 0 m.recs[i].2.fAt 0 m.recs[i].2.fState) I (rL br V m R)):
  ES ω (pt br) (pt q2) (.int .i64 i) (fun v=>Gh (K v)) I (rL br V m ((q2,EU)::(q1,Dr c w0 w1 w2 w3)::R)):=by
 obtain ⟨q,off,d,hix,hcl,hd,hcc⟩:=RL.ix hF.rl (i:=(i:Int)) (by omega) (by omega);rw [Ab hi] at hd;generalize m.recs[i]=x at *;obtain rfl:=hd;have hcv:=hcc I V.XR (Ext.refl _) (fun _ h=>h);have hat:Cells I V.XR q (off+2) [.int .i64 x.2.fAt.fWall,.int .i64 x.2.fAt.fLogic]:=by simpa using hcv.sub (k:=2) (m:=2)
 unfold ES;refine AK ?_;try simp only [SSd,Nat.reduceAdd]
 refine AV ?_;simp only [hix,SSd,Nat.reduceAdd];refine Aq (hcv 1 _ rfl) (Ext.refl _) ?_;try simp only [SSd,Nat.reduceAdd]
 refine AV ?_;simp only [hix,SSd,Nat.reduceAdd];refine BX hat (Ext.refl _) rfl ?_;try simp only [SSd,Nat.reduceAdd]
 refine stB rfl rfl (AE rfl) ?_;refine rdB rfl ?_;exact Gh.to (rL br V m R) (Gh.done hk)
theorem RD {c:TCmd}{cc:List Value}(hF:RF14 I V m)(hs:SrtA ilt m.recs)(hil:m.recs.length≤999)(hc:TCmdV I c cc)(hk:∀r m',DZ m c=(r,m')→∀V',RF14 I V' m'→K (rvR r) I (rL br V' m' R)):
  CT ω 116 #[pt br,.agg cc.toArray] K I (rL br V m R):=by
 have hc':=hc;obtain ⟨w0,w1,w2,w3,rfl,g0,g1,g2,g3⟩:=hc;refine AIl ?_;unfold AAA;refine AM (fun q1=>AM (fun q2=>?_));refine rdB rfl ?_;refine call (Cal.perm (L':=rL br V m ((q2,EU)::(q1,Dr c w0 w1 w2 w3)::R)) (AQ (by ((try simp only [AN,AP,Aa,AR]);(try ac_rfl)))) (LK hF hs hil hc' (fun hn=>?_) (fun V1 m1 i hi hr hF1 h1 hat1 hs1 hl1=>?_)))
 ·try simp only [SSd,Nat.reduceAdd]
  refine stB rfl rfl (AE rfl) ?_;refine rdB rfl ?_;exact Gh.to (rL br V m R) (Gh.done (hk _ _ (Kt hn) V hF))
 have e:decide ((i:Int) < 0)=false:=by simp
 simp only [e,SSd,Nat.reduceAdd];obtain ⟨q,off,d,hix,hcl,hd,hcc⟩:=RL.ix hF1.rl (i:=(i:Int)) (by omega) (by omega);rw [Ab hi] at hd;obtain rfl:=hd;have hcv:=hcc I V1.XR (Ext.refl _) (fun _ h=>h);have hat:Cells I V1.XR q (off+2) [.int .i64 m1.recs[i].2.fAt.fWall,.int .i64 m1.recs[i].2.fAt.fLogic]:=by simpa using hcv.sub (k:=2) (m:=2)
 have yes:pushB (recAt m1 c.fTxn) c=true→Jz ω (pt br) (pt q2) (.int .i64 i) (fun v=>Gh (K v)) I (rL br V1 m1 ((q2,EU)::(q1,Dr c w0 w1 w2 w3)::R)):=by
  intro hp;have hE:=Mv hr hp;rw [PO hs1 hi h1,hat1] at hE;unfold Jz;try simp only [SSd,Nat.reduceAdd]
  refine rdb ?_;simp only [hix,SSd,Nat.reduceAdd];refine RF14.setR (T0:=[]) (d:=1) (k:=1) (vs:=[.int .i64 3]) (y:=(c.fTxn,⟨3,m1.recs[i].2.fAt⟩)) hF1 hi (by omega) hix rfl rfl (AE rfl) (by rw [←h1];rfl) rfl (fun V2 hF2=>Gh.done ?_);refine Kv (m:={m1 with recs:=m1.recs.set i (c.fTxn,⟨3,m1.recs[i].2.fAt⟩)}) hF2 (by show i < (m1.recs.set i _).length;rw [List.length_set];exact hi) (by show (m1.recs.set i _).length≤1000;rw [List.length_set];exact hl1) ?_;have:=hk _ _ hE V2 hF2;simp only [List.getElem_set_self];exact this
 have no:pushB (recAt m1 c.fTxn) c=false→ES ω (pt br) (pt q2) (.int .i64 i) (fun v=>Gh (K v)) I (rL br V1 m1 ((q2,EU)::(q1,Dr c w0 w1 w2 w3)::R)):=by
  intro hp;refine Kv hF1 hi hl1 ?_;have:=hk _ _ (PX hr hp) V1 hF1;rw [hat1] at this;exact this
 rw [hat1,Ku] at yes no;refine AK ?_;try simp only [SSd,Nat.reduceAdd]
 refine Af [.int .i64 c.fAt.fWall,.int .i64 c.fAt.fLogic] rfl rfl ?_;try simp only [SSd,Nat.reduceAdd]
 refine AV ?_;simp only [hix,SSd,Nat.reduceAdd];refine BX hat (Ext.refl _) rfl ?_;refine call (DF (x:=c.fAt) (y:=m1.recs[i].2.fAt) ?_);try simp only [SSd,Nat.reduceAdd]
 refine AH (fun e1=>?_) (fun e1=>?_)
 ·try simp only [SSd,Nat.reduceAdd]
  refine AH (fun e2=>?_) (fun e2=>?_)
  ·try simp only [SSd,Nat.reduceAdd]
   refine rdb ?_;try simp only [SSd,Nat.reduceAdd]
   refine rdb ?_;try simp only [SSd,Nat.reduceAdd]
   refine rdb ?_;simp only [hix,SSd,Nat.reduceAdd];refine rdC (hcv 1 _ rfl) (Ext.refl _) ?_;try simp only [SSd,Nat.reduceAdd]
   refine AH (fun e3=>?_) (fun e3=>?_)
   ·refine AD (fun e4=>yes ?_) (fun e4=>no ?_)
    ·simp_all
    ·simp_all
   ·exact no (by simp_all)
  ·try simp only [SSd,Nat.reduceAdd]
   refine rdb ?_;simp only [hix,SSd,Nat.reduceAdd];refine rdC (hcv 1 _ rfl) (Ext.refl _) ?_;try simp only [SSd,Nat.reduceAdd]
   refine AH (fun e3=>no ?_) (fun e3=>no ?_);all_goals simp_all
 ·try simp only [SSd,Nat.reduceAdd]
  refine rdb ?_;simp only [hix,SSd,Nat.reduceAdd];refine rdC (hcv 1 _ rfl) (Ext.refl _) ?_;try simp only [SSd,Nat.reduceAdd]
  refine AH (fun e3=>yes ?_) (fun e3=>no ?_);all_goals simp_all
theorem AHB {m:Mch}{i:Nat}{n:Int}(hs:SrtA ilt m.recs)(hi:i < m.recs.length)(h:m.recs[i].1=n):HQ n m.recs=m.recs.take i++m.recs.drop (i+1):=by
 have hd:m.recs.drop i=m.recs[i]::m.recs.drop (i+1):=List.drop_eq_getElem_cons hi;have hp:=List.pairwise_iff_getElem.1 hs;have h1:∀x∈m.recs.take i,x.1≠n:=fun x hx e=>by
  obtain ⟨j,hj,rfl⟩:=List.mem_take_iff_getElem.1 hx;have:=hp j i (by omega) hi (by omega);rw [h,e] at this;simp at this
 have h2:∀x∈m.recs.drop (i+1),x.1≠n:=fun x hx e=>by
  obtain ⟨j,hj,rfl⟩:=List.mem_iff_getElem.1 hx;rw [List.getElem_drop] at e;have:=hp i (i+1+j) hi (by rw [List.length_drop] at hj;omega) (by omega);rw [h,e] at this;simp at this
 unfold HQ;conv=>lhs;rw [←List.take_append_drop i m.recs,hd]
 rw [List.filter_append,List.filter_cons,List.filter_eq_self.2 (fun x hx=>by simpa using h1 x hx),List.filter_eq_self.2 (fun x hx=>by simpa using h2 x hx)];simp [h]
theorem Nw {c:TCmd}{cc:List Value}(hF:RF14 I V m)(hs:SrtA ilt m.recs)(hil:m.recs.length≤999)(hc:TCmdV I c cc)(hk:∀r m',FF m c=(r,m')→∀V',RF14 I V' m'→K (rvR r) I (rL br V' m' R)):
  CT ω 117 #[pt br,.agg cc.toArray] K I (rL br V m R):=by
 have hc':=hc;obtain ⟨w0,w1,w2,w3,rfl,g0,g1,g2,g3⟩:=hc;refine AIk ?_;unfold ZZ;refine AM (fun q1=>AM (fun q2=>?_));try simp only [SSd,Nat.reduceAdd]
 refine rdb ?_;refine call (Cal.perm (L':=rL br V m ((q2,EU)::(q1,Dr c w0 w1 w2 w3)::R)) (AQ (by ((try simp only [AN,AP,Aa,AR]);(try ac_rfl)))) (Fh hF (by omega) ?_));rcases Hv (n:=c.fTxn) hs with ⟨hn,hp⟩|⟨i,hi,hp,h1,h2⟩
 ·rw [hp];have hst:recAt m c.fTxn=⟨0,z0⟩:=by unfold recAt;rw [hn];rfl
  have hE:FF m c=(okR,m):=by
   unfold FF;rw [hst,if_neg (by simp)];have:HQ c.fTxn m.recs=m.recs:=List.filter_eq_self.2 (fun x hx=>by simpa using lkA_none.1 hn x hx);rw [this]
  try simp only [SSd,Nat.reduceAdd]
  refine stB rfl rfl (AE rfl) ?_;refine rdB rfl ?_;exact Gh.to (rL br V m R) (Gh.done (hk _ _ hE V hF))
 rw [hp];have e:decide ((i:Int) < 0)=false:=by simp
 have hat:=GG h2;have hdl:=AHB hs hi h1;obtain ⟨q,off,d,hix,hcl,hd,hcc⟩:=RL.ix hF.rl (i:=(i:Int)) (by omega) (by omega);rw [Ab hi] at hd;generalize m.recs[i]=x at *;obtain rfl:=hd;have hcv:=hcc I V.XR (Ext.refl _) (fun _ h=>h);simp only [e,SSd,Nat.reduceAdd];refine rdb ?_;simp only [hix,SSd,Nat.reduceAdd];refine rdC (hcv 1 _ rfl) (Ext.refl _) ?_;try simp only [SSd,Nat.reduceAdd]
 refine AD (fun e2=>?_) (fun e2=>?_)
 ·have hE:FF m c=(Al 142,m):=by unfold FF;rw [hat,if_pos (by simpa using e2)]
  try simp only [SSd,Nat.reduceAdd]
  refine stB rfl rfl (AE rfl) ?_;refine rdB rfl ?_;exact Gh.to (rL br V m R) (Gh.done (hk _ _ hE V hF))
 ·have hE:FF m c=(okR,{m with recs:=m.recs.take i++m.recs.drop (i+1)}):=by unfold FF;rw [hat,if_neg (by simpa using e2),hdl]
  try simp only [SSd,Nat.reduceAdd]
  refine rdb ?_;obtain ⟨va,ha,hRa⟩:=RL.part (lo:=0) (hi:=i) hF.rl (by omega) (by omega) none (some (.int .i64 i)) rfl (fun cap hc=>BG .i64 i _ _ (by omega));obtain ⟨vb,hb,hRb⟩:=RL.part (lo:=i+1) (hi:=m.recs.length) hF.rl (by omega) (Nat.le_refl _) (some (.int .i64 (i+1:Nat))) none (BG .i64 (i+1) _ _ (by omega)) (fun cap hc=>rfl);rw [List.drop_zero,Nat.sub_zero] at hRa;rw [List.take_of_length_le (by rw [List.length_drop];omega)] at hRb;have w64:IntKind.i64.wrap ((i:Int)+1)=((i+1:Nat):Int):=by rw [wrap_i64 _ (by omega)];rfl
  simp only [ha,SSd,Nat.reduceAdd];refine Oa (R:=RcR) (X:=[]) (hsp:=⟨List.Perm.refl _⟩) (xs:=[]) (ys:=m.recs.take i) rfl (SlO.none _ _) rfl (RL.mono (fun _ _ h=>h) hRa (Ext.refl _) (fun z hz=>by simp [hz])) RcR.one (by simp;omega) (by simp;omega) (fun X1 v1 cells1 hO1 hR1=>Gh.done ?_);rw [List.nil_append] at hO1 hR1;try simp only [SSd,Nat.reduceAdd]
  refine rdb ?_;simp only [w64,hb,SSd,Nat.reduceAdd];refine Oa (R:=RcR) (X:=X1) (xs:=m.recs.take i) (ys:=m.recs.drop (i+1)) rfl hO1 hR1 (RL.mono (fun _ _ h=>h) hRb (Ext.refl _) (fun z hz=>by simp [hz])) RcR.one (by simp;omega) (by simp;omega) (fun X2 v2 cells2 hO2 hR2=>Gh.done ?_);obtain ⟨a2,c2,rfl⟩:=hO2.form;try simp only [SSd,Nat.reduceAdd]
  refine st1 rfl ?_;refine stB rfl rfl (AE rfl) ?_;refine rdB rfl ?_;exact Gh.to (rL br {V with vR:=.slice a2 _ c2,cR:=cells2,XR:=X2} {m with recs:=m.recs.take i++m.recs.drop (i+1)} R) (Gh.done (hk _ _ hE {V with vR:=.slice a2 _ c2,cR:=cells2,XR:=X2} {hF with rc:=hO2,rcR:=hR2}))
end
abbrev Ch (a:TStamp):Obj:=.cells #[.int .i64 a.fWall,.int .i64 a.fLogic] 41 (0,0)
abbrev mkC (v:Value)(k:TMk):List Value:=[v,.int .i64 k.fAt.fWall,.int .i64 k.fAt.fLogic,.int .i64 k.fBy]
section
variable {ω:Om}{I:Imm}{L:LH}{K:Value→M}{br:Nat}{V:RV}{m:Mch}{R:LH}
theorem RF14.setM {br i off b:Nat}{k:List UInt8}{u:TMk}{v:Value}{T0 L0:LH}(hF:RF14 I V m)(hi:i < m.marks.length)(hp:ixV 4 V.vM (.int .i64 i)=some (.pointer (some ⟨b,off,none⟩)))(hv:Bytes I v k)(hL:L0=T0++rL br V m R)
  (hk:∀V',RF14 I V' {m with marks:=m.marks.set i (k,u)}→Gh (K undef) I (T0++rL br V' {m with marks:=m.marks.set i (k,u)} R)):Sto 4 (.pointer (some ⟨b,off,none⟩)) (.agg (mkC v u).toArray) (gh K) I L0:=by
 subst hL;have hsp:SplitL V.XM (T0++rL br V m R) (T0++((br,Kr V.vF V.vT V.bs V.vM m.low V.vR V.vS m.oldest)::(V.bs,BC V.vV V.vI m.sp.floor)::(V.XR++R))):=inferInstance;have h1:MkR I (k,u) (mkC v u):=⟨v,rfl,hv⟩;refine SlO.sto (hsp:=hsp) (d:=0) (vs:=mkC v u) hF.mkO hi (by omega) hp rfl rfl h1.one (fun X' hX'=>?_);refine Gh.perm (L':=T0++rL br {V with XM:=X',cM:=V.cM.take (i * 4+0)++mkC v u++V.cM.drop (i * 4+0+4)} {m with marks:=m.marks.set i (k,u)} R) (AQ (by ((try simp only [AN,AP,Aa,AR]);(try ac_rfl)))) (hk _ {hF with mkO:=?_,mkR:=?_})
 ·show SlO _ 4 X' V.vM _ (m.marks.set i (k,u)).length;rw [List.length_set];exact hX'
 ·refine Recs.upd (k:=4) rfl (by omega) hF.mkR (List.getElem?_eq_getElem hi) (fun c hc hR=>?_);have e:c.take 0++mkC v u++c.drop (0+4)=mkC v u:=by
   rw [List.take_zero,List.nil_append,List.drop_of_length_le (by omega),List.append_nil]
  rw [e];exact h1
abbrev JF (q1 q9:Nat)(a:TStamp)(v:Value)(u:TMk)(XO Z:LH):LH:=(q9,.cells (mkC v u).toArray 84 (0,0))::(q1,Ch a)::(XO++Z)
theorem Pg {q1:Nat}{a0:_}{c0:Nat}{k:List UInt8}{a:TStamp}{n:Int}(hF:RF14 I V m)(hs:SrtA blt m.marks)(hil:m.marks.length≤1000)(hB:Bytes I (.slice a0 k.length c0) k)(hno:lkA m.marks k=none)
  (hk:∀V',RF14 I V' {m with marks:=Ap blt k (Ar mk0 a n) m.marks}→K (.tuple #[]) I (rL br V' {m with marks:=Ap blt k (Ar mk0 a n) m.marks} R)):
  Ni ω (pt br) (.slice a0 k.length c0) (.int .i64 n) (pt q1) (fun v=>Gh (K v)) I ((q1,Ch a)::rL br V m R):=by
 have hS:=hF.mkl;have hins:EK blt k (Ar mk0 a n) false m.marks=Ap blt k (Ar mk0 a n) m.marks:=Hz bltO hs;have hno':=lkA_none.1 hno;unfold Ni;try simp only [SSd,Nat.reduceAdd]
 refine rdB rfl ?_;refine call (Cq (k:=mk0) (a:=a) (n:=n) ?_);generalize Ar mk0 a n=u at *;try simp only [SSd,Nat.reduceAdd]
 refine AM (fun q9=>?_);refine stB rfl rfl (AE rfl) ?_;have hx:MkR I (k,u) (mkC (.slice a0 k.length c0) u):=⟨_,rfl,hB⟩;have end20:∀(XO:LH) (v:Value) (cells:List Value) (acc:List (List UInt8×TMk)),SlO 84 4 XO v cells acc.length→Recs (MkR I) 4 acc cells→acc=Ap blt k u m.marks→Jk ω (pt br) v (fun v=>Gh (K v)) I (JF q1 q9 a (.slice a0 k.length c0) u XO (rL br V m R)):=by
  intro XO v cells acc hO hR he;subst he;obtain ⟨oa,oc,rfl⟩:=hO.form;unfold Jk;try simp only [SSd,Nat.reduceAdd]
  refine st1 rfl ?_;exact Gh.to (rL br {V with vM:=.slice oa (Ap blt k u m.marks).length oc,cM:=cells,XM:=XO} {m with marks:=Ap blt k u m.marks} R) (Gh.done (hk _ {hF with mkO:=hO,mkR:=hR}))
 refine loop (fun n s I' L'=>I'=I∧∃(i:Nat) (d:Bool) (XO:LH) (v:Value) (acc:List (List UInt8×TMk)) (cells:List Value),n+i=m.marks.length∧s=(v,.bool d,.int .i64 i,())∧L'=JF q1 q9 a (.slice a0 k.length c0) u XO (rL br V m R)∧SlO 84 4 XO v cells acc.length∧Recs (MkR I) 4 acc cells∧acc.length≤2 * i∧
   acc++EK blt k u d (m.marks.drop i)=Ap blt k u m.marks) m.marks.length ⟨rfl,0,false,[],_,[],[],rfl,rfl,rfl,SlO.none _ _,rfl,by simp,hins⟩ ?_
 rintro n s I' L' ⟨rfl,i,d,XO,v,acc,cells,hni,rfl,rfl,hO,hR,hal,hA⟩;unfold SS;try simp only [SSd,Nat.reduceAdd]
 refine rdb ?_;simp only [RL.len hS,SSd,Nat.reduceAdd];refine AD (fun e1=>?_) (fun e1=>?_)
 ·have hi:i < m.marks.length:=by simpa using e1
  have hd:m.marks.drop i=m.marks[i]::m.marks.drop (i+1):=List.drop_eq_getElem_cons hi;have hne:m.marks[i].1≠k:=hno' _ (List.getElem_mem hi);rw [hd,EK,if_neg hne] at hA;obtain ⟨q,off,dd,hix,hcl,hdd,hcc⟩:=RL.ix hS (i:=(i:Int)) (by omega) (by omega);rw [Ab hi] at hdd;generalize m.marks[i]=y at *;have hdd':=hdd;obtain ⟨w,rfl,hw⟩:=hdd;have hcv:=hcc I' V.XM (Ext.refl _) (fun _ h=>h);have three:∀(XO:LH) (v:Value) (cells:List Value) (acc:List (List UInt8×TMk)) (d:Bool),SlO 84 4 XO v cells acc.length→Recs (MkR I') 4 acc cells→acc.length≤2 * i+1→acc++([y]++EK blt k u d (m.marks.drop (i+1)))=Ap blt k u m.marks→
    Hk ω (pt br) v (.bool d) (.int .i64 i) (fun s'=>Gh fun I2 L2=>∃m',m' < n∧I2=I'∧∃(i:Nat) (d:Bool) (XO:LH) (v:Value) (acc:List (List UInt8×TMk)) (cells:List Value),m'+i=m.marks.length∧s'=(v,.bool d,.int .i64 i,())∧L2=JF q1 q9 a (.slice a0 k.length c0) u XO (rL br V m R)∧SlO 84 4 XO v cells acc.length∧Recs (MkR I') 4 acc cells∧acc.length≤2 * i∧
   acc++EK blt k u d (m.marks.drop i)=Ap blt k u m.marks) (fun v=>Gh (K v)) I' (JF q1 q9 a (.slice a0 k.length c0) u XO (rL br V m R)):=by
   intro XO v cells acc d hO hR hal hA;unfold Hk;try simp only [SSd,Nat.reduceAdd]
   refine rdb ?_;simp only [hix,SSd,Nat.reduceAdd];refine FO hcv (Ext.refl _) rfl ?_;refine DY (R:=MkR) (X6:=XO) (x:=y) rfl (by omega) hO hR hdd' rfl hdd'.one (by omega) (by omega) (fun X1 X6 v6 cells6 h6 hR6=>?_);try simp only [SSd,Nat.reduceAdd]
   rw [wrap_i64 _ (by omega)];exact Gh.to (JF q1 q9 a (.slice a0 k.length c0) u X6 (rL br V m R)) (Gh.done ⟨n - 1,by omega,rfl,i+1,d,X6,v6,_,cells6,by omega,rfl,rfl,h6,hR6,by simp;omega,by rw [List.append_assoc];exact hA⟩)
  refine AK ?_;try simp only [SSd,Nat.reduceAdd]
  cases d with
  |true=>
   rw [if_neg (by simp),List.nil_append,Bool.true_or] at hA;simp only [Bool.not_true,SSd,Nat.reduceAdd];exact three XO v cells acc true hO hR (by omega) hA
  |false=>
   simp only [Bool.not_false,SSd,Nat.reduceAdd];refine AV ?_;simp only [hix,SSd,Nat.reduceAdd];refine Aq (hcv 0 _ rfl) (Ext.refl _) ?_;refine BS hw (Ext.refl _) ?_;refine BS hB (Ext.refl _) ?_;simp only [sGt,SSd,Nat.reduceAdd];refine AD (fun e2=>?_) (fun e2=>?_)
   ·have hlt:blt y.1 k=false:=by simp at e2;exact e2.1
    rw [if_pos ⟨rfl,hlt⟩,hlt] at hA;unfold SR;refine rdB rfl ?_;refine Ck (R:=MkR) (X6:=XO) (x:=(k,u)) rfl (by omega) hO hR hx rfl hx.one (by omega) (by omega) (fun X1 X6 v6 cells6 h6 hR6=>?_);refine Gh.to (JF q1 q9 a (.slice a0 k.length c0) u X6 (rL br V m R)) (Gh.done (three X6 v6 cells6 _ true h6 hR6 (by simp;omega) ?_));rw [List.append_assoc];exact hA
   ·have hlt:blt y.1 k=true:=by
     cases h:blt y.1 k with
     |true=>rfl
     |false=>rw [h] at e2;simp at e2;exact absurd e2 hne
    rw [if_neg (by simp [hlt]),List.nil_append,hlt] at hA;exact three XO v cells acc false hO hR (by omega) hA
 ·have hi:i=m.marks.length:=by simp at e1;omega
  subst hi;rw [List.drop_length,EK] at hA;unfold SQ;try simp only [SSd,Nat.reduceAdd]
  cases d with
  |true=>
   simp only [Bool.not_true,SSd,Nat.reduceAdd];exact end20 XO v cells acc hO hR (by simpa using hA)
  |false=>
   simp only [Bool.not_false,SSd,Nat.reduceAdd];refine rdB rfl ?_;refine Ck (R:=MkR) (X6:=XO) (x:=(k,u)) rfl (by omega) hO hR hx rfl hx.one (by omega) (by omega) (fun X1 X6 v6 cells6 h6 hR6=>?_);exact Gh.to (JF q1 q9 a (.slice a0 k.length c0) u X6 (rL br V m R)) (Gh.done (end20 X6 v6 cells6 _ h6 hR6 (by simpa using hA)))
theorem RT {q1:Nat}{a0:_}{c0:Nat}{k:List UInt8}{a:TStamp}{n:Int}(hF:RF14 I V m)(hm:m.marks=[])(hB:Bytes I (.slice a0 k.length c0) k)
  (hk:∀V',RF14 I V' {m with marks:=[(k,Ar mk0 a n)]}→K (.tuple #[]) I (rL br V' {m with marks:=[(k,Ar mk0 a n)]} R)):
  Qt ω (pt br) (.slice a0 k.length c0) (.int .i64 n) (pt q1) (fun v=>Gh (K v)) I ((q1,Ch a)::rL br V m R):=by
 have hS:=hF.mkl;rw [hm] at hS;unfold Qt;try simp only [SSd,Nat.reduceAdd]
 refine rdB rfl ?_;refine call (Cq (k:=mk0) (a:=a) (n:=n) ?_);generalize Ar mk0 a n=u at *;try simp only [SSd,Nat.reduceAdd]
 refine AM (fun q9=>?_);refine stB rfl rfl (AE rfl) ?_;have hx:MkR I (k,u) (mkC (.slice a0 k.length c0) u):=⟨_,rfl,hB⟩;refine loop (fun n s I' L'=>I'=I∧s=(.slice none 0 0,.bool false,.int .i64 0,())∧L'=JF q1 q9 a (.slice a0 k.length c0) u [] (rL br V m R)) 0 ⟨rfl,rfl,rfl⟩ ?_;rintro n s I' L' ⟨rfl,rfl,rfl⟩;unfold WM;try simp only [SSd,Nat.reduceAdd]
 refine rdb ?_;simp only [RL.len hS,List.length_nil,SSd,Nat.reduceAdd];have e0:decide ((0:Int) < ((0:Nat):Int))=false:=by decide
 simp only [e0,SSd,Nat.reduceAdd];unfold ST;simp only [Bool.not_false,SSd,Nat.reduceAdd];refine rdB rfl ?_;refine Ck (R:=MkR) (X6:=[]) (xs:=[]) (x:=(k,u)) rfl (by omega) (SlO.none _ _) rfl hx rfl hx.one (by simp) (by simp) (fun X1 X6 v6 cells6 h6 hR6=>Gh.done ?_);obtain ⟨oa,oc,rfl⟩:=h6.form;unfold Nj;try simp only [SSd,Nat.reduceAdd]
 refine st1 rfl ?_;exact Gh.to (rL br {V with vM:=.slice oa _ oc,cM:=cells6,XM:=X6} {m with marks:=[(k,u)]} R) (Gh.done (hk _ {hF with mkO:=h6,mkR:=hR6}))
theorem RW (low:TMk)(l:AL (List UInt8) TMk)(q:List UInt8×TMk):BJ low (l++[q])=Ar (BJ low l) q.2.fAt q.2.fBy:=by
 unfold BJ;rw [List.foldl_append];rfl
theorem RF {kv:Value}{k:List UInt8}{a:TStamp}{n:Int}(hF:RF14 I V m)(hs:SrtA blt m.marks)(hil:m.marks.length≤1000)(hB:Bytes I kv k)
  (hk:∀V',RF14 I V' (CR m k a n)→K (.tuple #[]) I (rL br V' (CR m k a n) R)):
  CT ω 48 #[pt br,kv,sv a,.int .i64 n] K I (rL br V m R):=by
 obtain ⟨a0,c0,rfl⟩:=Bytes.form hB;have hS:=hF.mkl;refine AKO ?_;unfold AGY;refine AM (fun q1=>?_);refine loop (fun j s I' L'=>I'=I∧L'=(q1,Ch a)::rL br V m R∧∃i:Nat,j+i=m.marks.length∧s=(.int .i64 i,())∧∀x∈m.marks.take i,x.1≠k) m.marks.length ⟨rfl,rfl,0,rfl,rfl,by simp⟩ ?_;rintro j s I' L' ⟨rfl,rfl,i,hni,rfl,hno⟩;unfold WQ;try simp only [SSd,Nat.reduceAdd]
 refine rdb ?_;simp only [RL.len hS,SSd,Nat.reduceAdd];refine AD (fun e=>?_) (fun e=>?_)
 ·have hi:i < m.marks.length:=by simpa using e
  obtain ⟨q,off,d,hix,hcl,hd,hcc⟩:=RL.ix hS (i:=(i:Int)) (by omega) (by omega);rw [Ab hi] at hd;have hlk:=LJ (k:=k) hi hno;have hsn:=take_snoc hi;have hset:∀u,m.marks[i].1=k→Ap blt k u m.marks=m.marks.set i (k,u):=fun u h=>LN bltO hs (fun q hq=>by rw [List.getElem?_eq_getElem hi,Option.some.injEq] at hq;rw [←hq];exact h) hi;generalize m.marks[i]=y at *;obtain ⟨w,rfl,hw⟩:=hd;obtain ⟨wa,wc,rfl⟩:=Bytes.form hw;have hcv:=hcc I' V.XM (Ext.refl _) (fun _ h=>h);refine AK ?_;try simp only [SSd,Nat.reduceAdd]
  refine AV ?_;simp only [hix,SSd,Nat.reduceAdd];refine Aq (hcv 0 _ rfl) (Ext.refl _) ?_;refine BS hw (Ext.refl _) ?_;refine BS hB (Ext.refl _) ?_;simp only [sEq,SSd,Nat.reduceAdd];refine AD (fun e2=>?_) (fun e2=>?_)
  ·have e2':y.1=k:=by simpa using e2
   have hM:CR m k a n={m with marks:=m.marks.set i (k,Ar y.2 a n)}:=by
    have hr:room m k=m:=by unfold room EO;rw [hlk e2'];rfl
    unfold CR;rw [hr,hlk e2',Option.getD_some,hset _ e2']
   rw [hM] at hk;refine AK ?_;try simp only [SSd,Nat.reduceAdd]
   refine AV ?_;try simp only [SSd,Nat.reduceAdd]
   refine AV ?_;simp only [hix,SSd,Nat.reduceAdd];refine BX hcv (Ext.refl _) rfl ?_;refine Ae rfl ?_;refine call (Cq (k:=y.2) (a:=a) (n:=n) ?_);refine Bv (Ext.refl _) ?_;refine RF14.setM (T0:=[(q1,Ch a)]) (k:=k) (u:=Ar y.2 a n) hF hi hix (by have h9:=hw;rw [e2'] at h9 ⊢;exact h9) rfl (fun V' hF'=>?_);exact Gh.to (rL br V' {m with marks:=m.marks.set i (k,Ar y.2 a n)} R) (Gh.done (Gh.done (hk V' hF')))
  ·have e2':y.1≠k:=by simpa using e2
   try simp only [SSd,Nat.reduceAdd]
   rw [wrap_i64 _ (by omega)];refine Gh.done ⟨j - 1,by omega,rfl,rfl,i+1,by omega,rfl,fun z hz=>?_⟩;rw [hsn] at hz;rcases List.mem_append.1 hz with hz|hz
   ·exact hno z hz
   ·simp only [List.mem_singleton] at hz;subst hz;exact e2'
 ·have hi:i=m.marks.length:=by simp at e;omega
  rw [hi,List.take_length] at hno;have hx:lkA m.marks k=none:=lkA_none.2 hno;unfold WP;try simp only [SSd,Nat.reduceAdd]
  refine rdb ?_;simp only [RL.len hS,SSd,Nat.reduceAdd];refine AD (fun e3=>?_) (fun e3=>?_)
  ·have h32:m.marks.length=32:=by simp at e3;omega
   have hM:CR m k a n={m with marks:=[(k,Ar mk0 a n)],low:=BJ m.low m.marks}:=by
    have hr:room m k={m with marks:=[],low:=BJ m.low m.marks}:=by unfold room EO;rw [hx,h32];rfl
    unfold CR;rw [hr];rfl
   rw [hM] at hk;refine loop (fun j s I2 L2=>I2=I'∧∃i:Nat,j+i=m.marks.length∧s=(.int .i64 i,())∧L2=(q1,Ch a)::rL br V {m with low:=BJ m.low (m.marks.take i)} R) m.marks.length ⟨rfl,0,rfl,rfl,rfl⟩ ?_;rintro j s I2 L2 ⟨rfl,i,hni,rfl,rfl⟩;unfold WO;try simp only [SSd,Nat.reduceAdd]
   refine rdb ?_;simp only [RL.len hS,SSd,Nat.reduceAdd];refine AD (fun e4=>?_) (fun e4=>?_)
   ·have hi:i < m.marks.length:=by simpa using e4
    obtain ⟨q,off,d,hix,hcl,hd,hcc⟩:=RL.ix hS (i:=(i:Int)) (by omega) (by omega);rw [Ab hi] at hd;have hsn:=take_snoc hi;generalize m.marks[i]=y at *;obtain ⟨w,rfl,hw⟩:=hd;have hcv:=hcc I2 V.XM (Ext.refl _) (fun _ h=>h);have hat:Cells I2 V.XM q (off+1) [.int .i64 y.2.fAt.fWall,.int .i64 y.2.fAt.fLogic]:=by simpa using hcv.sub (k:=1) (m:=2)
    refine AK ?_;try simp only [SSd,Nat.reduceAdd]
    refine Af (mkC (.slice none 0 0) (BJ m.low (m.marks.take i))) rfl rfl ?_;try simp only [SSd,Nat.reduceAdd]
    refine AV ?_;simp only [hix,SSd,Nat.reduceAdd];refine BX hat (Ext.refl _) rfl ?_;try simp only [SSd,Nat.reduceAdd]
    refine AV ?_;simp only [hix,SSd,Nat.reduceAdd];refine Aq (hcv 3 _ rfl) (Ext.refl _) ?_;refine call (Cq (k:=BJ m.low (m.marks.take i)) (a:=y.2.fAt) (n:=y.2.fBy) ?_);rw [←RW,←hsn];try simp only [SSd,Nat.reduceAdd]
    refine stP _ rfl rfl rfl rfl ?_;try simp only [SSd,Nat.reduceAdd]
    rw [wrap_i64 _ (by omega)];exact Gh.done ⟨j - 1,by omega,rfl,i+1,by omega,rfl,rfl⟩
   ·have hi:i=m.marks.length:=by simp at e4;omega
    rw [hi,List.take_length];unfold WN;try simp only [SSd,Nat.reduceAdd]
    refine WB rfl ?_;refine Gh.to ((q1,Ch a)::(br,Kr V.vF V.vT V.bs (.slice none 0 0) (BJ m.low m.marks) V.vR V.vS m.oldest)::(V.bs,BC V.vV V.vI m.sp.floor)::(V.XR++R)) (Gh.done ?_);exact RT (V:={V with vM:=.slice none 0 0,cM:=[],XM:=[]}) (m:={m with marks:=[],low:=BJ m.low m.marks}) {hF with mkO:=SlO.none _ _,mkR:=rfl} rfl hB (fun V' hF'=>hk V' hF')
  ·have h32:¬m.marks.length=32:=by simp at e3;omega
   have hM:CR m k a n={m with marks:=Ap blt k (Ar mk0 a n) m.marks}:=by
    have hr:room m k=m:=by unfold room EO;rw [hx,if_neg (by simp [h32])]
    unfold CR;rw [hr,hx];rfl
   rw [hM] at hk;exact Pg hF hs hil hB hx hk
end
section
variable {ω:Om}{I:Imm}{L:LH}{K:Value→M}{br:Nat}{V:RV}{m:Mch}{R:LH}
def PostR (K:Value→M)(br:Nat)(R:LH)(I:Imm)(x:TRes×Mch):Prop:=∀I' V' cells,Ext I I'→RF14 I' V' x.2→TResV I' x.1 cells→K (.agg cells.toArray) I' (rL br V' x.2 R)
theorem PostR.at {x:TRes×Mch}{e:Int}{a:TStamp}{n s:Int}{m':Mch}(h:PostR K br R I x)(hx:x=(⟨e,BK,[],a,n,s⟩,m')){I':Imm}{V':RV}(hI:Ext I I')(hF:RF14 I' V' m'):K (rv e a n s) I' (rL br V' m' R):=by
 subst hx;exact h I' V' _ hI hF (Ce ..)
theorem ABF {sp:Sp}(h:SpOk sp)(x:TIntent):Ad (CL sp x).rows=Ad sp.rows:=by
 unfold CL;split
 ·rfl
 ·have hs:=h.rise;obtain ⟨rows,fl⟩:=sp;rcases place x.fKey hs with ⟨A,r,B,e,hkr,hm⟩|⟨A,B,e,hm⟩
  ·simp only at e;subst e
   simp only [Ea hkr hm,DL,BB,hkr]
  ·simp only at e;subst e
   simp only [Eb hm,DL,BB];simp
theorem Mq (sp:Sp)(x:TIntent):(CL sp x).floor=sp.floor:=by unfold CL;split <;> rfl
theorem RF14.ref {b:Nat}(hF:RF14 I V m)(hm:(V.bs,BC V.vV V.vI m.sp.floor)∈L):RefF I L V.bs V.vV V.vI (Ad m.sp.rows) (intsOf m.sp.rows) m.sp.floor:=ABA hm hF.vs hF.is
abbrev Ag (q1 q2:Nat)(c:TCmd)(w0 w1 w2 w3:Value)(Z:LH):LH:=(q2,EU)::(q1,Dr c w0 w1 w2 w3)::Z
theorem Ki {q1 q2 q7:Nat}{c:TCmd}{w0 w1 w2 w3:Value}{x:TIntent}{T0:LH}(hF:RF14 I V {m with sp:=CL m.sp x,nt:=Ek m.sp x m.nt})(hsn:SrtA ilt m.seen)(hsl:m.seen.length≤1000)(hc:TCmdV I c [.int .i64 c.fKind,.int .i64 c.fTxn,.int .i64 c.fSeq,.int .i64 c.fAt.fWall,.int .i64 c.fAt.fLogic,.int .i64 c.fTo.fWall,.int .i64 c.fTo.fLogic,.int .i64 c.fBy,.bool c.fYes,.bool c.fDel,w0,w1,w2,w3,.int .i64 c.fMost])
  (hk:PostR K br R I (⟨(Az m.sp x).2.2,BK,[],(Az m.sp x).1,(Az m.sp x).2.1,0⟩,if (Az m.sp x).2.2=0 then DD {m with sp:=CL m.sp x,nt:=Ek m.sp x m.nt} c 0 (Az m.sp x).1 else {m with sp:=CL m.sp x,nt:=Ek m.sp x m.nt})):
  KE ω (pt br) (pt q1) (pt q2) (pt q7) (.int .i64 (Az m.sp x).2.1) (.int .i64 (Az m.sp x).2.2) (fun v=>Gh (K v)) I ((q7,Ch (Az m.sp x).1)::rL br V {m with sp:=CL m.sp x,nt:=Ek m.sp x m.nt} (Ag q1 q2 c w0 w1 w2 w3 (T0++R))):=by
 generalize (Az m.sp x).1=a at *;generalize (Az m.sp x).2.1=by' at *;generalize (Az m.sp x).2.2=cd at *;unfold KE;refine rdB rfl ?_;try simp only [SSd,Nat.reduceAdd]
 refine AM (fun q8=>?_);refine stB rfl rfl (AE rfl) ?_;try simp only [SSd,Nat.reduceAdd]
 refine AD (fun e=>?_) (fun e=>?_)
 ·have e':cd=0:=by simpa using e
  subst e';rw [if_pos rfl] at hk;refine rdB rfl ?_;refine rdB rfl ?_;refine call (Cal.to (rL br V {m with sp:=CL m.sp x,nt:=Ek m.sp x m.nt} ((q8,roO 0 a by' 0)::Ag q1 q2 c w0 w1 w2 w3 (T0++R))) (Gi (m:={m with sp:=CL m.sp x,nt:=Ek m.sp x m.nt}) (e:=0) (a:=a) (b':=by') (st':=0) hF hsn hsl hc (fun I9 V9 hI9 hF9=>?_)));unfold KD;refine rdB rfl ?_;refine stB rfl rfl (AE rfl) ?_;refine rdB rfl ?_;exact Gh.to (rL br V9 _ R) (Gh.done (hk.at rfl hI9 hF9))
 ·have e':cd≠0:=by simpa using e
  rw [if_neg e'] at hk;unfold KD;refine rdB rfl ?_;refine stB rfl rfl (AE rfl) ?_;refine rdB rfl ?_;exact Gh.to (rL br V _ R) (Gh.done (hk.at rfl (Ext.refl _) hF))
theorem RC {q1 q2 q6:Nat}{c:TCmd}{w0 w1 w2 w3:Value}{w:TStamp}{e:Int}{T0:LH}(hF:RF14 I V m)(hok:SpOk m.sp)(hrl:m.sp.rows.length≤100000000)(hvl:Ah m.sp.rows≤100000000)(hsn:SrtA ilt m.seen)(hsl:m.seen.length≤1000)(g0:Bytes I w0 c.fKey)(g1:Bytes I w1 c.fValue)(g2:Bytes I w2 c.fSpan.fFrom)(g3:Bytes I w3 c.fSpan.fTo)
  (hk1:e≠0→PostR K br R I (Al e,m))
  (hk:e=0→PostR K br R I (⟨(Az m.sp (Av c w)).2.2,BK,[],(Az m.sp (Av c w)).1,(Az m.sp (Av c w)).2.1,0⟩,if (Az m.sp (Av c w)).2.2=0 then DD {m with sp:=CL m.sp (Av c w),nt:=Ek m.sp (Av c w) m.nt} c 0 (Az m.sp (Av c w)).1 else {m with sp:=CL m.sp (Av c w),nt:=Ek m.sp (Av c w) m.nt})):
  Hp ω (pt br) (pt q1) (pt q2) (pt q6) (.int .i64 e) (fun v=>Gh (K v)) I ((q6,Ch w)::rL br V m (Ag q1 q2 c w0 w1 w2 w3 (T0++R))):=by
 unfold Hp;try simp only [SSd,Nat.reduceAdd]
 refine AD (fun e1=>?_) (fun e1=>?_)
 ·have hk1:=hk1 (by simpa using e1);try simp only [SSd,Nat.reduceAdd]
  refine stB rfl rfl (AE rfl) ?_;refine rdB rfl ?_;exact Gh.to (rL br V m R) (Gh.done (hk1.at rfl (Ext.refl _) hF))
 ·have hk:=hk (by simpa using e1);have hx:TIntentV I (Av c w) [w0,.int .i64 c.fTxn,.int .i64 w.fWall,.int .i64 w.fLogic,.bool c.fDel,w1]:=⟨w0,w1,rfl,g0,g1⟩;obtain ⟨b0,d0,rfl⟩:=Bytes.form g0;obtain ⟨b1,d1,rfl⟩:=Bytes.form g1;refine AJg V.bs ?_;try simp only [SSd,Nat.reduceAdd]
  refine AV ?_;try simp only [SSd,Nat.reduceAdd]
  refine AV ?_;try simp only [SSd,Nat.reduceAdd]
  refine AV ?_;refine Ae rfl ?_;try simp only [SSd,Nat.reduceAdd]
  refine AV ?_;try simp only [SSd,Nat.reduceAdd]
  refine AV ?_;try simp only [SSd,Nat.reduceAdd]
  have fin:∀I' vI',Ext I I'→RL TIntentV 6 I' [] vI' (intsOf (CL m.sp (Av c w)).rows)→RF14 I' {V with vI:=vI'} {m with sp:=CL m.sp (Av c w),nt:=Ek m.sp (Av c w) m.nt}:=fun I' vI' hI h=>
   {hF.mono hI with vs:=by show RL TVersionV 5 I' [] V.vV (Ad (CL m.sp (Av c w)).rows);rw [ABF hok];exact (hF.mono hI).vs,is:=h}
  refine ⟨?_,?_⟩
  ·refine call (Cal.pick V.bs (Ml (x:=Av c w) hF.vs hF.is hok hrl hvl hx (fun I2 vI2 hI2 h2=>?_)));try simp only [SSd,Nat.reduceAdd]
   refine AM (fun q7=>?_);refine Bv hI2 ?_;refine Qo rfl rfl (AE rfl) ?_;refine Gh.perm (L':=(q7,Ch (Az m.sp (Av c w)).1)::rL br {V with vI:=vI2} {m with sp:=CL m.sp (Av c w),nt:=Ek m.sp (Av c w) m.nt} (Ag q1 q2 c (.slice b0 c.fKey.length d0) (.slice b1 c.fValue.length d1) w2 w3 (((q6,Ch w)::T0)++R))) (AQ (by simp only [rL,Mq];((try simp only [AN,AP,Aa,AR]);(try ac_rfl)))) (Gh.done ?_);exact Ki (x:=Av c w) (T0:=(q6,Ch w)::T0) (fin _ _ hI2 h2) hsn hsl ⟨_,_,_,_,rfl,g0.mono hI2,g1.mono hI2,g2.mono hI2,g3.mono hI2⟩ (fun I' V' cells hI hF hT=>hk I' V' cells (hI2.trans hI) hF hT)
  ·refine AM (fun q7=>?_);refine Bv (Ext.refl _) ?_;refine CI (Cal.pick V.bs (Ml (x:=Av c w) hF.vs hF.is hok hrl hvl hx (fun I2 vI2 hI2 h2=>Gh.done ?_)));try simp only [SSd,Nat.reduceAdd]
   refine Qo rfl rfl (AE rfl) ?_;refine Gh.perm (L':=(q7,Ch (Az m.sp (Av c w)).1)::rL br {V with vI:=vI2} {m with sp:=CL m.sp (Av c w),nt:=Ek m.sp (Av c w) m.nt} (Ag q1 q2 c (.slice b0 c.fKey.length d0) (.slice b1 c.fValue.length d1) w2 w3 (((q6,Ch w)::T0)++R))) (AQ (by simp only [rL,Mq];((try simp only [AN,AP,Aa,AR]);(try ac_rfl)))) (Gh.done ?_);exact Ki (x:=Av c w) (T0:=(q6,Ch w)::T0) (fin _ _ hI2 h2) hsn hsl ⟨_,_,_,_,rfl,g0.mono hI2,g1.mono hI2,g2.mono hI2,g3.mono hI2⟩ (fun I' V' cells hI hF hT=>hk I' V' cells (hI2.trans hI) hF hT)
theorem PL {c:TCmd}{cc:List Value}{N:Nat}(hF:RF14 I V m)(hM:MOk m N)(hN:N≤10000)(hc:TCmdV I c cc)(hk:PostR K br R I (CP m c)):
  CT ω 112 #[pt br,.agg cc.toArray] K I (rL br V m R):=by
 have hsq:=GA hN;have hrw:=hM.rows;have hvs:=hM.vers;have hml:=hM.marksL;have hsl:=hM.seenL;have hmS:=hM.marks;have hS:=hF.mkl;have hc':=hc;obtain ⟨w0,w1,w2,w3,rfl,g0,g1,g2,g3⟩:=hc;refine AIp ?_;unfold AAI;refine AM (fun q1=>AM (fun q2=>?_));refine AK ?_;try simp only [SSd,Nat.reduceAdd]
 refine Af [V.vF,V.vT] rfl rfl ?_;try simp only [SSd,Nat.reduceAdd]
 refine AV ?_;refine call (Ei (p:=m.span) ⟨_,_,rfl,hF.f0,hF.f1⟩ g0 ?_);try simp only [SSd,Nat.reduceAdd]
 refine AD (fun e=>?_) (fun e=>?_)
 ·have hE:CP m c=(Al 141,m):=by unfold CP;rw [if_pos (by simpa using e)]
  try simp only [SSd,Nat.reduceAdd]
  refine stB rfl rfl (AE rfl) ?_;refine rdB rfl ?_;exact Gh.to (rL br V m R) (Gh.done (hk.at hE (Ext.refl _) hF))
 have hin:¬inB m.span c.fKey=false:=by simpa using e
 refine rdB rfl ?_;refine call (Cal.perm (L':=rL br V m (Ag q1 q2 c w0 w1 w2 w3 R)) (AQ (by ((try simp only [AN,AP,Aa,AR]);(try ac_rfl)))) (HI hF hM.seen (by omega) hc' (fun e a ha=>?_) (fun ha=>?_)))
 ·have hE:CP m c=(⟨e,BK,[],a,0,0⟩,m):=by unfold CP;rw [if_neg hin,ha]
  try simp only [SSd,Nat.reduceAdd]
  refine AM (fun q3=>?_);refine stB rfl rfl (AE rfl) ?_;try simp only [SSd,Nat.reduceAdd]
  refine rdB rfl ?_;refine stB rfl rfl (AE rfl) ?_;refine rdB rfl ?_;exact Gh.to (rL br V m R) (Gh.done (hk.at hE (Ext.refl _) hF))
 have hE:CP m c=if (BU m c).2≠0 then (Al (BU m c).2,m) else if (Am m.low (BU m c).1 c.fTxn).2≠0 then (Al (Am m.low (BU m c).1 c.fTxn).2,m) else
   (⟨(Az m.sp (Av c (Am m.low (BU m c).1 c.fTxn).1)).2.2,BK,[],(Az m.sp (Av c (Am m.low (BU m c).1 c.fTxn).1)).1,(Az m.sp (Av c (Am m.low (BU m c).1 c.fTxn).1)).2.1,0⟩,if (Az m.sp (Av c (Am m.low (BU m c).1 c.fTxn).1)).2.2=0 then DD {m with sp:=CL m.sp (Av c (Am m.low (BU m c).1 c.fTxn).1),nt:=Ek m.sp (Av c (Am m.low (BU m c).1 c.fTxn).1) m.nt} c 0 (Az m.sp (Av c (Am m.low (BU m c).1 c.fTxn).1)).1 else {m with sp:=CL m.sp (Av c (Am m.low (BU m c).1 c.fTxn).1),nt:=Ek m.sp (Av c (Am m.low (BU m c).1 c.fTxn).1) m.nt}):=by
  unfold CP;rw [if_neg hin,ha]
 rw [hE] at hk;try simp only [SSd,Nat.reduceAdd]
 refine AM (fun q3=>?_);refine stB rfl rfl (AE rfl) ?_;try simp only [SSd,Nat.reduceAdd]
 refine rdP [.int .i64 c.fAt.fWall,.int .i64 c.fAt.fLogic] rfl rfl ?_;refine AM (fun q5=>?_);refine stB rfl rfl (AE rfl) ?_;refine loop (fun n s I' L'=>I'=I∧∃(i:Nat) (w:TStamp),n+i=m.marks.length∧s=(.int .i64 i,())∧L'=(q5,Ch w)::(q3,roO 144 z0 0 0)::rL br V m (Ag q1 q2 c w0 w1 w2 w3 R)∧
  ((w=c.fAt∧∀x∈m.marks.take i,x.1≠c.fKey)∨∃k,lkA m.marks c.fKey=some k∧(Am k c.fAt c.fTxn).2=0∧w=(Am k c.fAt c.fTxn).1∧∃x∈m.marks.take i,x.1=c.fKey)) m.marks.length ⟨rfl,0,c.fAt,rfl,rfl,rfl,.inl ⟨rfl,by simp⟩⟩ ?_
 rintro n s I' L' ⟨rfl,i,w,hni,rfl,rfl,hw⟩;unfold Te;try simp only [SSd,Nat.reduceAdd]
 refine rdb ?_;simp only [RL.len hS,SSd,Nat.reduceAdd];refine AD (fun e1=>?_) (fun e1=>?_)
 ·have hi:i < m.marks.length:=by simpa using e1
  obtain ⟨q,off,d,hix,hcl,hd,hcc⟩:=RL.ix hS (i:=(i:Int)) (by omega) (by omega);rw [Ab hi] at hd;have hlt:∀x∈m.marks.take i,x.1≠m.marks[i].1:=fun x hx e=>by
   obtain ⟨j,hj,rfl⟩:=List.mem_take_iff_getElem.1 hx;have:=List.pairwise_iff_getElem.1 hmS j i (by omega) hi (by omega);rw [e,bltO.irr] at this;cases this
  have hlk:=fun h=>LJ (k:=c.fKey) hi h;have hsn:=take_snoc hi;generalize m.marks[i]=y at *;obtain ⟨v,rfl,hv⟩:=hd;obtain ⟨va,vc,rfl⟩:=Bytes.form hv;have hcv:=hcc I' V.XM (Ext.refl _) (fun _ h=>h);refine AK ?_;try simp only [SSd,Nat.reduceAdd]
  refine AV ?_;simp only [hix,SSd,Nat.reduceAdd];refine Aq (hcv 0 _ rfl) (Ext.refl _) ?_;refine BS hv (Ext.refl _) ?_;try simp only [SSd,Nat.reduceAdd]
  refine AV ?_;refine BS g0 (Ext.refl _) ?_;simp only [sEq,SSd,Nat.reduceAdd];refine AD (fun e2=>?_) (fun e2=>?_)
  ·have e2':y.1=c.fKey:=by simpa using e2
   rw [e2'] at hlt;obtain rfl:w=c.fAt:=by
    rcases hw with ⟨h,_⟩|⟨k,_,_,_,x,hx,hxe⟩
    ·exact h
    ·exact absurd hxe (hlt x hx)
   have hly:=hlk hlt e2';have hl1:BU m c=Am y.2 c.fAt c.fTxn:=by unfold BU;rw [hly]
   have two:∀q6,KG ω (pt q2) (pt q5) (.int .i64 i) (pt q6) (.int .i64 (Am y.2 c.fAt c.fTxn).2) (fun s'=>Gh fun I2 L2=>∃m',m' < n∧I2=I'∧∃(i:Nat) (w:TStamp),m'+i=m.marks.length∧s'=(.int .i64 i,())∧L2=(q5,Ch w)::(q3,roO 144 z0 0 0)::rL br V m (Ag q1 q2 c w0 w1 w2 w3 R)∧
  ((w=c.fAt∧∀x∈m.marks.take i,x.1≠c.fKey)∨∃k,lkA m.marks c.fKey=some k∧(Am k c.fAt c.fTxn).2=0∧w=(Am k c.fAt c.fTxn).1∧∃x∈m.marks.take i,x.1=c.fKey)) (fun v=>Gh (K v)) I' ((q6,Ch (Am y.2 c.fAt c.fTxn).1)::(q5,Ch c.fAt)::(q3,roO 144 z0 0 0)::rL br V m (Ag q1 q2 c w0 w1 w2 w3 R)):=by
    intro q6;unfold KG;try simp only [SSd,Nat.reduceAdd]
    refine AD (fun e3=>?_) (fun e3=>?_)
    ·rw [hl1,if_pos (by simpa using e3)] at hk;try simp only [SSd,Nat.reduceAdd]
     refine stB rfl rfl (AE rfl) ?_;refine rdB rfl ?_;exact Gh.to (rL br V m R) (Gh.done (hk.at rfl (Ext.refl _) hF))
    ·refine rdB rfl ?_;refine stB rfl rfl (AE rfl) ?_;unfold KF;try simp only [SSd,Nat.reduceAdd]
     rw [wrap_i64 _ (by omega)];refine Gh.to ((q5,Ch (Am y.2 c.fAt c.fTxn).1)::(q3,roO 144 z0 0 0)::rL br V m (Ag q1 q2 c w0 w1 w2 w3 R)) (Gh.done ⟨n - 1,by omega,rfl,i+1,_,by omega,rfl,rfl,.inr ⟨y.2,hly,by simpa using e3,rfl,y,?_,e2'⟩⟩);rw [hsn];simp
   refine AK ?_;try simp only [SSd,Nat.reduceAdd]
   refine Ae rfl ?_;try simp only [SSd,Nat.reduceAdd]
   refine AV ?_;simp only [hix,SSd,Nat.reduceAdd];refine BX hcv (Ext.refl _) rfl ?_;try simp only [SSd,Nat.reduceAdd]
   refine AV ?_;refine ⟨?_,?_⟩
   ·refine call (ET (k:=y.2) (w:=c.fAt) (n:=c.fTxn) ?_);try simp only [SSd,Nat.reduceAdd]
    refine AM (fun q6=>?_);refine Bv (Ext.refl _) ?_;refine stB rfl rfl (AE rfl) ?_;exact two q6
   ·refine AM (fun q6=>?_);refine Bv (Ext.refl _) ?_;refine call (ET (k:=y.2) (w:=c.fAt) (n:=c.fTxn) ?_);try simp only [SSd,Nat.reduceAdd]
    refine stB rfl rfl (AE rfl) ?_;exact two q6
  ·have e2':y.1≠c.fKey:=by simpa using e2
   unfold KF;try simp only [SSd,Nat.reduceAdd]
   rw [wrap_i64 _ (by omega)];refine Gh.done ⟨n - 1,by omega,rfl,i+1,w,by omega,rfl,rfl,?_⟩;rw [hsn];rcases hw with ⟨h1,h2⟩|⟨k,h1,h2,h3,x,hx,hxe⟩
   ·refine .inl ⟨h1,fun z hz=>?_⟩;rcases List.mem_append.1 hz with hz|hz
    ·exact h2 z hz
    ·simp only [List.mem_singleton] at hz;subst hz;exact e2'
   ·exact .inr ⟨k,h1,h2,h3,x,List.mem_append_left _ hx,hxe⟩
 ·have hi:i=m.marks.length:=by simp at e1;omega
  rw [hi,List.take_length] at hw;have hl1:BU m c=(w,0):=by
   rcases hw with ⟨h1,h2⟩|⟨k,h1,h2,h3,_⟩
   ·unfold BU;rw [lkA_none.2 h2,h1]
   ·unfold BU;rw [h1];exact Prod.ext h3.symm h2
  rw [hl1] at hk;simp only [ne_eq,not_true_eq_false,if_false] at hk;have seven:∀q6,Hp ω (pt br) (pt q1) (pt q2) (pt q6) (.int .i64 (Am m.low w c.fTxn).2) (fun v=>Gh (K v)) I' ((q6,Ch (Am m.low w c.fTxn).1)::rL br V m (Ag q1 q2 c w0 w1 w2 w3 ([(q5,Ch w),(q3,roO 144 z0 0 0)]++R))):=by
   intro q6;refine RC (T0:=[(q5,Ch w),(q3,roO 144 z0 0 0)]) hF hM.sp (by omega) (by omega) hM.seen (by omega) g0 g1 g2 g3 (fun h=>?_) (fun h=>?_)
   ·rw [if_pos h] at hk;exact hk
   ·rw [if_neg (by simpa using h)] at hk;exact hk
  unfold Td;refine AK ?_;try simp only [SSd,Nat.reduceAdd]
  refine Ae rfl ?_;try simp only [SSd,Nat.reduceAdd]
  refine Af (mkC (.slice none 0 0) m.low) rfl rfl ?_;try simp only [SSd,Nat.reduceAdd]
  refine AV ?_;refine ⟨?_,?_⟩
  ·refine call (ET (k:=m.low) (w:=w) (n:=c.fTxn) ?_);try simp only [SSd,Nat.reduceAdd]
   refine AM (fun q6=>?_);refine Bv (Ext.refl _) ?_;refine Qo rfl rfl (AE rfl) ?_;exact Gh.perm (AQ (by ((try simp only [AN,AP,Aa,AR]);(try ac_rfl)))) (Gh.done (seven q6))
  ·refine AM (fun q6=>?_);refine Bv (Ext.refl _) ?_;refine call (ET (k:=m.low) (w:=w) (n:=c.fTxn) ?_);try simp only [SSd,Nat.reduceAdd]
   refine Qo rfl rfl (AE rfl) ?_;exact Gh.perm (AQ (by ((try simp only [AN,AP,Aa,AR]);(try ac_rfl)))) (Gh.done (seven q6))
end
theorem VA (sp:Sp)(k:List UInt8)(t:Int)(y:Bool)(a:TStamp):(Dl sp k t y a).floor=sp.floor:=by unfold Dl;split <;> rfl
section
variable {ω:Om}{I:Imm}{L:LH}{K:Value→M}{br:Nat}{V:RV}{m:Mch}{R:LH}
theorem Jb {c:TCmd}{cc:List Value}{N:Nat}(hF:RF14 I V m)(hM:MOk m N)(hN:N≤10000)(hc:TCmdV I c cc)(hk:PostR K br R I (Dj m c)):
  CT ω 113 #[pt br,.agg cc.toArray] K I (rL br V m R):=by
 have hsq:=GA hN;have hrw:=hM.rows;have hvs:=hM.vers;have hsl:=hM.seenL;have hc':=hc;obtain ⟨w0,w1,w2,w3,rfl,g0,g1,g2,g3⟩:=hc;refine AIo ?_;unfold AAG;refine AM (fun q1=>AM (fun q2=>?_));try simp only [SSd,Nat.reduceAdd]
 refine rdP [w2,w3] rfl rfl ?_;refine call (Cal.perm (L':=rL br V m (Ag q1 q2 c w0 w1 w2 w3 R)) (AQ (by ((try simp only [AN,AP,Aa,AR]);(try ac_rfl)))) (HJ (p:=c.fSpan) hF ⟨_,_,rfl,g2,g3⟩ ?_));try simp only [SSd,Nat.reduceAdd]
 refine AD (fun e=>?_) (fun e=>?_)
 ·have hE:Dj m c=(Al 141,m):=by unfold Dj;rw [if_pos (by simpa using e)]
  try simp only [SSd,Nat.reduceAdd]
  refine stB rfl rfl (AE rfl) ?_;refine rdB rfl ?_;exact Gh.to (rL br V m R) (Gh.done (hk.at hE (Ext.refl _) hF))
 have hin:¬HB m.span c.fSpan=false:=by simpa using e
 refine rdB rfl ?_;refine call (HI hF hM.seen (by omega) hc' (fun e a ha=>?_) (fun ha=>?_))
 ·have hE:Dj m c=(⟨e,BK,[],a,0,0⟩,m):=by unfold Dj;rw [if_neg hin,ha]
  try simp only [SSd,Nat.reduceAdd]
  refine AM (fun q3=>?_);refine stB rfl rfl (AE rfl) ?_;try simp only [SSd,Nat.reduceAdd]
  refine rdB rfl ?_;refine stB rfl rfl (AE rfl) ?_;refine rdB rfl ?_;exact Gh.to (rL br V m R) (Gh.done (hk.at hE (Ext.refl _) hF))
 have hE:Dj m c=if bhd c.fAt c.fTo=true then (Al 1,m) else
  if (chF m.sp c.fSpan c.fAt c.fTo c.fTxn).2≠0 then (Al (chF m.sp c.fSpan c.fAt c.fTo c.fTxn).2,m) else
  if (chF m.sp c.fSpan c.fAt c.fTo c.fTxn).1=true then (Al 144,m) else
  (okR,DD {m with low:=Ar m.low c.fTo c.fTxn} c 0 z0):=by unfold Dj;rw [if_neg hin,ha]
 rw [hE] at hk;try simp only [SSd,Nat.reduceAdd]
 refine AM (fun q3=>?_);refine stB rfl rfl (AE rfl) ?_;try simp only [SSd,Nat.reduceAdd]
 refine rdP [.int .i64 c.fTo.fWall,.int .i64 c.fTo.fLogic] rfl rfl ?_;try simp only [SSd,Nat.reduceAdd]
 refine rdP [.int .i64 c.fAt.fWall,.int .i64 c.fAt.fLogic] rfl rfl ?_;refine call (DF (x:=c.fTo) (y:=c.fAt) ?_);have hneg:=Eg c.fTo c.fAt;try simp only [SSd,Nat.reduceAdd]
 refine AD (fun e1=>?_) (fun e1=>?_)
 ·rw [if_pos (by rw [←hneg];exact e1)] at hk;try simp only [SSd,Nat.reduceAdd]
  refine stB rfl rfl (AE rfl) ?_;refine rdB rfl ?_;exact Gh.to (rL br V m R) (Gh.done (hk.at rfl (Ext.refl _) hF))
 rw [if_neg (by rw [←hneg,e1];simp)] at hk;refine AK ?_;try simp only [SSd,Nat.reduceAdd]
 refine AV ?_;try simp only [SSd,Nat.reduceAdd]
 refine Af [w2,w3] rfl rfl ?_;try simp only [SSd,Nat.reduceAdd]
 refine Af [.int .i64 c.fAt.fWall,.int .i64 c.fAt.fLogic] rfl rfl ?_;try simp only [SSd,Nat.reduceAdd]
 refine Af [.int .i64 c.fTo.fWall,.int .i64 c.fTo.fLogic] rfl rfl ?_;try simp only [SSd,Nat.reduceAdd]
 refine AV ?_;refine call (MI (sp:=m.sp) (p:=c.fSpan) (fr:=c.fAt) (to:=c.fTo) (L0:=rL br V m (Ag q1 q2 c w0 w1 w2 w3 R)) (hF.ref (b:=0) (by simp)) hM.sp (by omega) (by omega) ⟨_,_,rfl,g2,g3⟩ ?_);try simp only [SSd,Nat.reduceAdd]
 refine AD (fun e2=>?_) (fun e2=>?_)
 ·rw [if_pos (by simpa using e2)] at hk;try simp only [SSd,Nat.reduceAdd]
  refine stB rfl rfl (AE rfl) ?_;refine rdB rfl ?_;exact Gh.to (rL br V m R) (Gh.done (hk.at rfl (Ext.refl _) hF))
 rw [if_neg (by simpa using e2)] at hk;try simp only [SSd,Nat.reduceAdd]
 refine AD (fun e3=>?_) (fun e3=>?_)
 ·rw [if_pos e3] at hk;try simp only [SSd,Nat.reduceAdd]
  refine stB rfl rfl (AE rfl) ?_;refine rdB rfl ?_;exact Gh.to (rL br V m R) (Gh.done (hk.at rfl (Ext.refl _) hF))
 rw [if_neg (by rw [e3];simp)] at hk;refine AK ?_;try simp only [SSd,Nat.reduceAdd]
 refine Af (mkC (.slice none 0 0) m.low) rfl rfl ?_;try simp only [SSd,Nat.reduceAdd]
 refine Af [.int .i64 c.fTo.fWall,.int .i64 c.fTo.fLogic] rfl rfl ?_;try simp only [SSd,Nat.reduceAdd]
 refine AV ?_;refine call (Cq (k:=m.low) (a:=c.fTo) (n:=c.fTxn) ?_);try simp only [SSd,Nat.reduceAdd]
 refine stP _ rfl rfl rfl rfl ?_;refine rdB rfl ?_;try simp only [SSd,Nat.reduceAdd]
 refine call (Cal.to (rL br V {m with low:=Ar m.low c.fTo c.fTxn} (Ag q1 q2 c w0 w1 w2 w3 R)) (Gi (m:={m with low:=Ar m.low c.fTo c.fTxn}) (e:=0) (a:=z0) (b':=0) (st':=0) {hF with} hM.seen (by show m.seen.length≤1000;omega) hc' (fun I9 V9 hI9 hF9=>?_)));try simp only [SSd,Nat.reduceAdd]
 refine stB rfl rfl (AE rfl) ?_;refine rdB rfl ?_;exact Gh.to (rL br V9 _ R) (Gh.done (hk.at rfl hI9 hF9))
theorem Ja {c:TCmd}{cc:List Value}{N:Nat}(hF:RF14 I V m)(hM:MOk m N)(hN:N≤5000)(hc:TCmdV I c cc)(hk:PostR K br R I (EV m c)):
  CT ω 118 #[pt br,.agg cc.toArray] K I (rL br V m R):=by
 have hsq:N * N≤5000 * 5000:=Nat.mul_le_mul hN hN;have hrw:=hM.rows;have hvs:=hM.vers;have hin0:=Hx m.sp.rows;have hc':=hc;obtain ⟨w0,w1,w2,w3,rfl,g0,g1,g2,g3⟩:=hc;refine AIj ?_;unfold ZX;refine AM (fun q1=>AM (fun q2=>?_));try simp only [SSd,Nat.reduceAdd]
 refine rdP [w2,w3] rfl rfl ?_;refine call (Cal.perm (L':=rL br V m (Ag q1 q2 c w0 w1 w2 w3 R)) (AQ (by ((try simp only [AN,AP,Aa,AR]);(try ac_rfl)))) (HJ (p:=c.fSpan) hF ⟨_,_,rfl,g2,g3⟩ ?_));try simp only [SSd,Nat.reduceAdd]
 refine AD (fun e=>?_) (fun e=>?_)
 ·have hE:EV m c=(Al 141,m):=by unfold EV;rw [if_pos (by simpa using e)]
  try simp only [SSd,Nat.reduceAdd]
  refine stB rfl rfl (AE rfl) ?_;refine rdB rfl ?_;exact Gh.to (rL br V m R) (Gh.done (hk.at hE (Ext.refl _) hF))
 have hE:EV m c=(Al (Cy c (intsOf m.sp.rows) m.sp m.nt).1,{m with sp:=(Cy c (intsOf m.sp.rows) m.sp m.nt).2.1,nt:=(Cy c (intsOf m.sp.rows) m.sp m.nt).2.2}):=by
  unfold EV;rw [if_neg (by simpa using e)]
 rw [hE] at hk;try simp only [SSd,Nat.reduceAdd]
 refine rdb ?_;try simp only [SSd,Nat.reduceAdd]
 refine rdb ?_;have hI0:=hF.is;have hmF:m.sp.floor=m.sp.floor:=rfl;generalize hall:intsOf m.sp.rows=l at *;generalize hres:Cy c l m.sp m.nt=res at *;refine loop (fun n s I' L'=>Ext I I'∧∃(i:Nat) (sp:Sp) (nt:Nts) (vV vI:Value),n+i=l.length∧s=(.int .i64 i,())∧L'=rL br {V with vV:=vV,vI:=vI} {m with sp:=sp,nt:=nt} (Ag q1 q2 c w0 w1 w2 w3 R)∧RF14 I' {V with vV:=vV,vI:=vI} {m with sp:=sp,nt:=nt}∧
   Cy c (l.drop i) sp nt=res∧SpOk sp∧sp.rows.length≤m.sp.rows.length∧Ah sp.rows≤Ah m.sp.rows+i) l.length ⟨Ext.refl _,0,m.sp,m.nt,V.vV,V.vI,rfl,rfl,rfl,hF,hres,hM.sp,Nat.le_refl _,Nat.le_refl _⟩ ?_
 rintro n s I' L' ⟨hI',i,sp,nt,vV,vI,hni,rfl,rfl,hF',hA,hok,hr1,hv1⟩;unfold Tc;simp only [RL.len hI0,SSd,Nat.reduceAdd];refine AD (fun e1=>?_) (fun e1=>?_)
 ·have hi:i < l.length:=by simpa using e1
  have hd:l.drop i=l[i]::l.drop (i+1):=List.drop_eq_getElem_cons hi;rw [hd,Cy] at hA;obtain ⟨q,off,d,hix,hcl,hdd,hcc⟩:=RL.ix hI0 (i:=(i:Int)) (by omega) (by omega);rw [Ab hi] at hdd;generalize l[i]=x at *;obtain ⟨x0,x1,rfl,f0,f1⟩:=hdd;have hcv:=hcc I' [] hI' (fun _ h=>h);have skip:(x.fTxn≠c.fTxn∨inB c.fSpan x.fKey=false)→Gc ω (.int .i64 i) (fun s'=>Gh fun I2 L2=>∃m',m' < n∧Ext I I2∧∃(i:Nat) (sp:Sp) (nt:Nts) (vV vI:Value),m'+i=l.length∧s'=(.int .i64 i,())∧L2=rL br {V with vV:=vV,vI:=vI} {m with sp:=sp,nt:=nt} (Ag q1 q2 c w0 w1 w2 w3 R)∧RF14 I2 {V with vV:=vV,vI:=vI} {m with sp:=sp,nt:=nt}∧
   Cy c (l.drop i) sp nt=res∧SpOk sp∧sp.rows.length≤m.sp.rows.length∧Ah sp.rows≤Ah m.sp.rows+i) (fun v=>Gh (K v)) I' (rL br {V with vV:=vV,vI:=vI} {m with sp:=sp,nt:=nt} (Ag q1 q2 c w0 w1 w2 w3 R)):=by
   intro h;rw [if_pos h] at hA;unfold Gc;try simp only [SSd,Nat.reduceAdd]
   rw [wrap_i64 _ (by omega)];exact Gh.done ⟨n - 1,by omega,hI',i+1,sp,nt,vV,vI,by omega,rfl,rfl,hF',hA,hok,hr1,by omega⟩
  refine AK ?_;try simp only [SSd,Nat.reduceAdd]
  refine Af [w2,w3] rfl rfl ?_;try simp only [hix,SSd,Nat.reduceAdd]
  refine Aq (hcv 0 _ rfl) (Ext.refl _) ?_;refine call (Ei (p:=c.fSpan) ⟨_,_,rfl,g2.mono hI',g3.mono hI'⟩ (f0.mono hI') ?_);refine AK ?_;try simp only [SSd,Nat.reduceAdd]
  refine AH (fun e2=>?_) (fun e2=>skip (.inr (by simpa using e2)));try simp only [hix,SSd,Nat.reduceAdd]
  refine Aq (hcv 1 _ rfl) (Ext.refl _) ?_;try simp only [SSd,Nat.reduceAdd]
  refine AV ?_;try simp only [SSd,Nat.reduceAdd]
  refine AD (fun e3=>skip (.inl (by simpa using e3))) (fun e3=>?_);have hns:¬(x.fTxn≠c.fTxn∨inB c.fSpan x.fKey=false):=by
   simp at e2 e3;rintro (h|h)
   ·exact h e3
   ·rw [h] at e2;cases e2
  rw [if_neg hns] at hA;refine AK ?_;try simp only [SSd,Nat.reduceAdd]
  refine AV ?_;try simp only [hix,SSd,Nat.reduceAdd]
  refine Aq (hcv 0 _ rfl) (Ext.refl _) ?_;try simp only [SSd,Nat.reduceAdd]
  refine AV ?_;try simp only [SSd,Nat.reduceAdd]
  refine AV ?_;try simp only [SSd,Nat.reduceAdd]
  refine Af [.int .i64 c.fAt.fWall,.int .i64 c.fAt.fLogic] rfl rfl ?_;have hlen:=Ny (k:=x.fKey) (txn:=c.fTxn) (yes:=c.fYes) (a:=c.fAt) hok;refine CI (Cal.pick V.bs (MD (sp:=sp) (k:=x.fKey) (a:=c.fAt) hF'.vs hF'.is hok (by omega) (by omega) (f0.mono hI') (fun I2 vV2 vI2 hI2 h2 h2'=>?_)));have hF2:RF14 I2 {V with vV:=vV2,vI:=vI2} {m with sp:=Dl sp x.fKey c.fTxn c.fYes c.fAt,nt:=HL sp x.fKey c.fTxn c.fYes c.fAt nt}:={hF'.mono hI2 with vs:=h2,is:=h2'};refine Gh.perm (L':=rL br {V with vV:=vV2,vI:=vI2} {m with sp:=Dl sp x.fKey c.fTxn c.fYes c.fAt,nt:=HL sp x.fKey c.fTxn c.fYes c.fAt nt} (Ag q1 q2 c w0 w1 w2 w3 R)) (AQ (by simp only [rL,VA];((try simp only [AN,AP,Aa,AR]);(try ac_rfl)))) (Gh.done ?_);try simp only [SSd,Nat.reduceAdd]
  refine AD (fun e4=>?_) (fun e4=>?_)
  ·rw [if_pos (by simpa using e4)] at hA;rw [←hA] at hk;unfold Tb;try simp only [SSd,Nat.reduceAdd]
   refine stB rfl rfl (AE rfl) ?_;refine rdB rfl ?_;exact Gh.to (rL br _ _ R) (Gh.done (hk.at rfl (hI'.trans hI2) hF2))
  ·rw [if_neg (by simpa using e4)] at hA;unfold Gc;try simp only [SSd,Nat.reduceAdd]
   rw [wrap_i64 _ (by omega)];exact Gh.done ⟨n - 1,by omega,hI'.trans hI2,i+1,_,_,vV2,vI2,by omega,rfl,rfl,hF2,hA,hok.res,by omega,by omega⟩
 ·have hi:i=l.length:=by simp at e1;omega
  rw [hi,List.drop_length,Cy] at hA;rw [←hA] at hk;unfold Ta;try simp only [SSd,Nat.reduceAdd]
  refine stB rfl rfl (AE rfl) ?_;refine rdB rfl ?_;exact Gh.to (rL br _ _ R) (Gh.done (hk.at rfl hI' hF'))
end
theorem Ol (p:List UInt8→Bool)(rows:List Row):(Ad rows).filter (fun y=>p y.fKey)=Ad (rows.filter fun r=>p r.key):=by
 induction rows with
 |nil=>rfl
 |cons r rs ih=>
  have e:Ad (r::rs)=r.vs.map (FJ r.key)++Ad rs:=rfl;rw [e,List.filter_append,ih,List.filter_cons];cases h:p r.key with
  |true=>
   rw [if_pos rfl,List.filter_eq_self.2 (fun y hy=>by obtain ⟨v,_,rfl⟩:=List.mem_map.1 hy;exact h)];rfl
  |false=>
   rw [if_neg (by simp),List.filter_eq_nil_iff.2 (fun y hy=>by obtain ⟨v,_,rfl⟩:=List.mem_map.1 hy;rw [show p (FJ r.key v).fKey=false from h];simp),List.nil_append]
theorem Pt (p:List UInt8→Bool)(rows:List Row):(intsOf rows).filter (fun y=>p y.fKey)=intsOf (rows.filter fun r=>p r.key):=by
 unfold intsOf;rw [List.filter_map,List.filter_filter,List.filter_filter];congr 1
 apply List.filter_congr
 intro r _;show (p (itF r).fKey&&r.it.txn != 0)=(r.it.txn != 0&&p r.key);rw [Bool.and_comm];rfl
theorem DS {α:Type}(p:α→Bool)(l:List α)(y:α):(l++[y]).filter p=l.filter p++(if p y=true then [y] else []):=by
 rw [List.filter_append,List.filter_cons,List.filter_nil]
section
variable {ω:Om}{I:Imm}{L:LH}{K:Value→M}{br:Nat}{V:RV}{m:Mch}{R:LH}
abbrev spH (bs3 br2 bs2:Nat)(lV lI rV rI rM rS cK vT:Value)(fl:TStamp)(low:TMk)(old:Int)(Z:LH):LH:=(bs3,BC lV lI fl)::(br2,Kr cK vT bs2 rM low (.slice none 0 0) rS old)::(bs2,BC rV rI fl)::Z
theorem Uk {bs3 br2 bs2 q1 q2:Nat}{rS cK vT:Value}{fl:TStamp}{low:TMk}{old:Int}{XX:LH}{c:TCmd}{w0 w1 w2 w3:Value}(hF:RF14 I V m)(hlen:(Ad m.sp.rows).length≤100000000)(g0:Bytes I w0 c.fKey)
  (hk:∀X1 v1 c1 X2 v2 c2,SlO 188 5 X1 v1 c1 ((Ad m.sp.rows).filter fun y=>blt y.fKey c.fKey).length→Recs (TVersionV I) 5 ((Ad m.sp.rows).filter fun y=>blt y.fKey c.fKey) c1→
   SlO 188 5 X2 v2 c2 ((Ad m.sp.rows).filter fun y=> !blt y.fKey c.fKey).length→Recs (TVersionV I) 5 ((Ad m.sp.rows).filter fun y=> !blt y.fKey c.fKey) c2→
   Nd ω (pt br) (pt q1) (pt q2) (.pointer none) (pt br2) (pt bs3) (.slice none 0 0) (fun v=>Gh (K v)) I (spH bs3 br2 bs2 v1 (.slice none 0 0) v2 (.slice none 0 0) (.slice none 0 0) rS cK vT fl low old (X1++(X2++(XX++rL br V m (Ag q1 q2 c w0 w1 w2 w3 R)))))):
  Aj ((.int .i64 0,()):Value×Unit) (fun s Kn0=>Qs ω (pt br) (pt q1) (pt q2) (.pointer none) (pt br2) (pt bs3) (.slice none 0 0) s.1 Kn0 (fun v=>Gh (K v))) I (spH bs3 br2 bs2 (.slice none 0 0) (.slice none 0 0) (.slice none 0 0) (.slice none 0 0) (.slice none 0 0) rS cK vT fl low old (XX++rL br V m (Ag q1 q2 c w0 w1 w2 w3 R))):=by
 have hS:=hF.vs;generalize Ad m.sp.rows=l at *;refine loop (fun n s I' L'=>I'=I∧∃(i:Nat) (X1 X2:LH) (v1 v2:Value) (c1 c2:List Value),n+i=l.length∧s=(.int .i64 i,())∧L'=spH bs3 br2 bs2 v1 (.slice none 0 0) v2 (.slice none 0 0) (.slice none 0 0) rS cK vT fl low old (X1++(X2++(XX++rL br V m (Ag q1 q2 c w0 w1 w2 w3 R))))∧
  SlO 188 5 X1 v1 c1 ((l.take i).filter fun y=>blt y.fKey c.fKey).length∧Recs (TVersionV I) 5 ((l.take i).filter fun y=>blt y.fKey c.fKey) c1∧
  SlO 188 5 X2 v2 c2 ((l.take i).filter fun y=> !blt y.fKey c.fKey).length∧Recs (TVersionV I) 5 ((l.take i).filter fun y=> !blt y.fKey c.fKey) c2) l.length ⟨rfl,0,[],[],.slice none 0 0,.slice none 0 0,[],[],rfl,rfl,rfl,SlO.none _ _,rfl,SlO.none _ _,rfl⟩ ?_
 rintro n s I' L' ⟨rfl,i,X1,X2,v1,v2,c1,c2,hni,rfl,rfl,hO1,hR1,hO2,hR2⟩;unfold Qs;try simp only [SSd,Nat.reduceAdd]
 refine rdb ?_;try simp only [SSd,Nat.reduceAdd]
 refine rdb ?_;simp only [RL.len hS,SSd,Nat.reduceAdd];refine AD (fun e=>?_) (fun e=>?_)
 ·have hi:i < l.length:=by simpa using e
  obtain ⟨q,off,d,hix,hcl,hd,hcc⟩:=RL.ix hS (i:=(i:Int)) (by omega) (by omega);rw [Ab hi] at hd;have hsn:=take_snoc hi;have hl1:=List.length_filter_le (fun y=>blt y.fKey c.fKey) (l.take i);have hl2:=List.length_filter_le (fun y=> !blt y.fKey c.fKey) (l.take i);rw [List.length_take] at hl1 hl2;generalize l[i]=y at *;have hd1:=hd.one;have hd':=hd;obtain ⟨x0,x1,rfl,f0,f1⟩:=hd;have hcv:=hcc I' [] (Ext.refl _) (fun _ h=>h);refine AK ?_;try simp only [SSd,Nat.reduceAdd]
  refine AV ?_;try simp only [SSd,Nat.reduceAdd]
  refine AV ?_;simp only [hix,SSd,Nat.reduceAdd];refine Aq (hcv 0 _ rfl) (Ext.refl _) ?_;refine BS f0 (Ext.refl _) ?_;try simp only [SSd,Nat.reduceAdd]
  refine AV ?_;refine BS g0 (Ext.refl _) ?_;simp only [sLt,SSd,Nat.reduceAdd];refine AD (fun e2=>?_) (fun e2=>?_)
  ·unfold WI;refine AK ?_;try simp only [SSd,Nat.reduceAdd]
   refine AV ?_;try simp only [SSd,Nat.reduceAdd]
   refine AV ?_;try simp only [SSd,Nat.reduceAdd]
   refine AV ?_;simp only [hix,SSd,Nat.reduceAdd];refine BX hcv (Ext.refl _) rfl ?_;refine GF (R:=TVersionV) (X6:=X1) (x:=y) (Ext.refl _) (fun y hy=>hy) rfl (by omega) hO1 hR1 hd' rfl hd1 (by omega) (by omega) (fun Y X1' a1 k1 c1' hO1' hR1'=>?_);try simp only [SSd,Nat.reduceAdd]
   refine st1 rfl ?_;unfold Nf;try simp only [SSd,Nat.reduceAdd]
   rw [wrap_i64 _ (by omega)];refine Gh.to (spH bs3 br2 bs2 (.slice a1 (((l.take i).filter fun y=>blt y.fKey c.fKey)++[y]).length k1) (.slice none 0 0) v2 (.slice none 0 0) (.slice none 0 0) rS cK vT fl low old (X1'++(X2++(XX++rL br V m (Ag q1 q2 c w0 w1 w2 w3 R))))) (Gh.done ⟨n - 1,by omega,rfl,i+1,X1',X2,_,v2,c1',c2,by omega,rfl,rfl,?_,?_,?_,?_⟩);all_goals rw [hsn,DS,e2]
   ·exact hO1'
   ·exact hR1'
   ·simpa using hO2
   ·simpa using hR2
  ·unfold WH;refine Le X2 ?_;try simp only [SSd,Nat.reduceAdd]
   refine AV ?_;try simp only [SSd,Nat.reduceAdd]
   refine AV ?_;try simp only [SSd,Nat.reduceAdd]
   refine AV ?_;try simp only [SSd,Nat.reduceAdd]
   refine AV ?_;try simp only [SSd,Nat.reduceAdd]
   refine AV ?_;simp only [hix,SSd,Nat.reduceAdd];refine BX hcv (Ext.refl _) rfl ?_;refine GF (R:=TVersionV) (X6:=X2) (x:=y) (Ext.refl _) (fun y hy=>?_) rfl (by omega) hO2 hR2 hd' rfl hd1 (by omega) (by omega) (fun Y X2' a2 k2 c2' hO2' hR2'=>?_)
   ·simp only [List.mem_cons,List.mem_append] at hy ⊢;rcases hy with hy|hy|hy|hy|hy <;> simp [hy]
   refine Bv (Ext.refl _) ?_;try simp only [SSd,Nat.reduceAdd]
   refine st1 rfl ?_;unfold Nf;try simp only [SSd,Nat.reduceAdd]
   rw [wrap_i64 _ (by omega)];refine Gh.to (spH bs3 br2 bs2 v1 (.slice none 0 0) (.slice a2 (((l.take i).filter fun y=> !blt y.fKey c.fKey)++[y]).length k2) (.slice none 0 0) (.slice none 0 0) rS cK vT fl low old (X1++(X2'++(XX++rL br V m (Ag q1 q2 c w0 w1 w2 w3 R))))) (Gh.done ⟨n - 1,by omega,rfl,i+1,X1,X2',v1,_,c1,c2',by omega,rfl,rfl,?_,?_,?_,?_⟩);all_goals rw [hsn,DS,e2]
   ·simpa using hO1
   ·simpa using hR1
   ·exact hO2'
   ·exact hR2'
 ·have hi:i=l.length:=by simp at e;omega
  rw [hi,List.take_length] at hO1 hR1 hO2 hR2;exact hk X1 v1 c1 X2 v2 c2 hO1 hR1 hO2 hR2
theorem Uj {bs3 br2 bs2 q1 q2:Nat}{lV rV rS cK vT:Value}{fl:TStamp}{low:TMk}{old:Int}{XX:LH}{c:TCmd}{w0 w1 w2 w3:Value}(hF:RF14 I V m)(hlen:(intsOf m.sp.rows).length≤100000000)(g0:Bytes I w0 c.fKey)
  (hk:∀X1 v1 c1 X2 v2 c2,SlO 190 6 X1 v1 c1 ((intsOf m.sp.rows).filter fun y=>blt y.fKey c.fKey).length→Recs (TIntentV I) 6 ((intsOf m.sp.rows).filter fun y=>blt y.fKey c.fKey) c1→
   SlO 190 6 X2 v2 c2 ((intsOf m.sp.rows).filter fun y=> !blt y.fKey c.fKey).length→Recs (TIntentV I) 6 ((intsOf m.sp.rows).filter fun y=> !blt y.fKey c.fKey) c2→
   Ji ω (pt br) (pt q1) (pt q2) (.pointer none) (pt br2) (pt bs3) (.slice none 0 0) (fun v=>Gh (K v)) I (spH bs3 br2 bs2 lV v1 rV v2 (.slice none 0 0) rS cK vT fl low old (X1++(X2++(XX++rL br V m (Ag q1 q2 c w0 w1 w2 w3 R)))))):
  Nd ω (pt br) (pt q1) (pt q2) (.pointer none) (pt br2) (pt bs3) (.slice none 0 0) (fun v=>Gh (K v)) I (spH bs3 br2 bs2 lV (.slice none 0 0) rV (.slice none 0 0) (.slice none 0 0) rS cK vT fl low old (XX++rL br V m (Ag q1 q2 c w0 w1 w2 w3 R))):=by
 have hS:=hF.is;unfold Nd;generalize intsOf m.sp.rows=l at *;refine loop (fun n s I' L'=>I'=I∧∃(i:Nat) (X1 X2:LH) (v1 v2:Value) (c1 c2:List Value),n+i=l.length∧s=(.int .i64 i,())∧L'=spH bs3 br2 bs2 lV v1 rV v2 (.slice none 0 0) rS cK vT fl low old (X1++(X2++(XX++rL br V m (Ag q1 q2 c w0 w1 w2 w3 R))))∧
  SlO 190 6 X1 v1 c1 ((l.take i).filter fun y=>blt y.fKey c.fKey).length∧Recs (TIntentV I) 6 ((l.take i).filter fun y=>blt y.fKey c.fKey) c1∧
  SlO 190 6 X2 v2 c2 ((l.take i).filter fun y=> !blt y.fKey c.fKey).length∧Recs (TIntentV I) 6 ((l.take i).filter fun y=> !blt y.fKey c.fKey) c2) l.length ⟨rfl,0,[],[],.slice none 0 0,.slice none 0 0,[],[],rfl,rfl,rfl,SlO.none _ _,rfl,SlO.none _ _,rfl⟩ ?_
 rintro n s I' L' ⟨rfl,i,X1,X2,v1,v2,c1,c2,hni,rfl,rfl,hO1,hR1,hO2,hR2⟩;unfold WG;try simp only [SSd,Nat.reduceAdd]
 refine rdb ?_;try simp only [SSd,Nat.reduceAdd]
 refine rdb ?_;simp only [RL.len hS,SSd,Nat.reduceAdd];refine AD (fun e=>?_) (fun e=>?_)
 ·have hi:i < l.length:=by simpa using e
  obtain ⟨q,off,d,hix,hcl,hd,hcc⟩:=RL.ix hS (i:=(i:Int)) (by omega) (by omega);rw [Ab hi] at hd;have hsn:=take_snoc hi;have hl1:=List.length_filter_le (fun y=>blt y.fKey c.fKey) (l.take i);have hl2:=List.length_filter_le (fun y=> !blt y.fKey c.fKey) (l.take i);rw [List.length_take] at hl1 hl2;generalize l[i]=y at *;have hd1:=hd.one;have hd':=hd;obtain ⟨x0,x1,rfl,f0,f1⟩:=hd;have hcv:=hcc I' [] (Ext.refl _) (fun _ h=>h);refine AK ?_;try simp only [SSd,Nat.reduceAdd]
  refine AV ?_;try simp only [SSd,Nat.reduceAdd]
  refine AV ?_;simp only [hix,SSd,Nat.reduceAdd];refine Aq (hcv 0 _ rfl) (Ext.refl _) ?_;refine BS f0 (Ext.refl _) ?_;try simp only [SSd,Nat.reduceAdd]
  refine AV ?_;refine BS g0 (Ext.refl _) ?_;simp only [sLt,SSd,Nat.reduceAdd];refine AD (fun e2=>?_) (fun e2=>?_)
  ·refine AK ?_;try simp only [SSd,Nat.reduceAdd]
   refine AV ?_;try simp only [SSd,Nat.reduceAdd]
   refine AV ?_;try simp only [SSd,Nat.reduceAdd]
   refine AV ?_;simp only [hix,SSd,Nat.reduceAdd];refine BX hcv (Ext.refl _) rfl ?_;refine GF (R:=TIntentV) (X6:=X1) (x:=y) (Ext.refl _) (fun y hy=>hy) rfl (by omega) hO1 hR1 hd' rfl hd1 (by omega) (by omega) (fun Y X1' a1 k1 c1' hO1' hR1'=>?_);try simp only [SSd,Nat.reduceAdd]
   refine st1 rfl ?_;unfold Jj;try simp only [SSd,Nat.reduceAdd]
   rw [wrap_i64 _ (by omega)];refine Gh.to (spH bs3 br2 bs2 lV (.slice a1 (((l.take i).filter fun y=>blt y.fKey c.fKey)++[y]).length k1) rV v2 (.slice none 0 0) rS cK vT fl low old (X1'++(X2++(XX++rL br V m (Ag q1 q2 c w0 w1 w2 w3 R))))) (Gh.done ⟨n - 1,by omega,rfl,i+1,X1',X2,_,v2,c1',c2,by omega,rfl,rfl,?_,?_,?_,?_⟩);all_goals rw [hsn,DS,e2]
   ·exact hO1'
   ·exact hR1'
   ·simpa using hO2
   ·simpa using hR2
  ·refine Le X2 ?_;try simp only [SSd,Nat.reduceAdd]
   refine AV ?_;try simp only [SSd,Nat.reduceAdd]
   refine AV ?_;try simp only [SSd,Nat.reduceAdd]
   refine AV ?_;try simp only [SSd,Nat.reduceAdd]
   refine AV ?_;try simp only [SSd,Nat.reduceAdd]
   refine AV ?_;simp only [hix,SSd,Nat.reduceAdd];refine BX hcv (Ext.refl _) rfl ?_;refine GF (R:=TIntentV) (X6:=X2) (x:=y) (Ext.refl _) (fun y hy=>?_) rfl (by omega) hO2 hR2 hd' rfl hd1 (by omega) (by omega) (fun Y X2' a2 k2 c2' hO2' hR2'=>?_)
   ·simp only [List.mem_cons,List.mem_append] at hy ⊢;rcases hy with hy|hy|hy|hy|hy <;> simp [hy]
   refine Bv (Ext.refl _) ?_;try simp only [SSd,Nat.reduceAdd]
   refine st1 rfl ?_;unfold Jj;try simp only [SSd,Nat.reduceAdd]
   rw [wrap_i64 _ (by omega)];refine Gh.to (spH bs3 br2 bs2 lV v1 rV (.slice a2 (((l.take i).filter fun y=> !blt y.fKey c.fKey)++[y]).length k2) (.slice none 0 0) rS cK vT fl low old (X1++(X2'++(XX++rL br V m (Ag q1 q2 c w0 w1 w2 w3 R))))) (Gh.done ⟨n - 1,by omega,rfl,i+1,X1,X2',v1,_,c1,c2',by omega,rfl,rfl,?_,?_,?_,?_⟩);all_goals rw [hsn,DS,e2]
   ·simpa using hO1
   ·simpa using hR1
   ·exact hO2'
   ·exact hR2'
 ·have hi:i=l.length:=by simp at e;omega
  rw [hi,List.take_length] at hO1 hR1 hO2 hR2;exact hk X1 v1 c1 X2 v2 c2 hO1 hR1 hO2 hR2
end
section
variable {ω:Om}{I:Imm}{L:LH}{K:Value→M}{br:Nat}{V:RV}{m:Mch}{R:LH}
theorem Ui {bs3 br2 bs2 q1 q2:Nat}{lV lI rV rI rS cK vT:Value}{fl:TStamp}{low:TMk}{old:Int}{XX:LH}{c:TCmd}{w0 w1 w2 w3:Value}(hF:RF14 I V m)(hlen:m.marks.length≤1000)(g0:Bytes I w0 c.fKey)
  (hk:∀X1 v1 c1 X2 v2 c2,SlO 84 4 X1 v1 c1 (m.marks.filter fun y=>blt y.1 c.fKey).length→Recs (MkR I) 4 (m.marks.filter fun y=>blt y.1 c.fKey) c1→
   SlO 84 4 X2 v2 c2 (m.marks.filter fun y=> !blt y.1 c.fKey).length→Recs (MkR I) 4 (m.marks.filter fun y=> !blt y.1 c.fKey) c2→
   Ng ω (pt br) (pt q1) (pt q2) (.pointer none) (pt br2) (pt bs3) v1 (fun v=>Gh (K v)) I (spH bs3 br2 bs2 lV lI rV rI v2 rS cK vT fl low old (X1++(X2++(XX++rL br V m (Ag q1 q2 c w0 w1 w2 w3 R)))))):
  Ji ω (pt br) (pt q1) (pt q2) (.pointer none) (pt br2) (pt bs3) (.slice none 0 0) (fun v=>Gh (K v)) I (spH bs3 br2 bs2 lV lI rV rI (.slice none 0 0) rS cK vT fl low old (XX++rL br V m (Ag q1 q2 c w0 w1 w2 w3 R))):=by
 have hS:=hF.mkl;unfold Ji;generalize hl0:m.marks=l at *;refine loop (fun n s I' L'=>I'=I∧∃(i:Nat) (X1 X2:LH) (v1 v2:Value) (c1 c2:List Value),n+i=l.length∧s=(v1,.int .i64 i,())∧L'=spH bs3 br2 bs2 lV lI rV rI v2 rS cK vT fl low old (X1++(X2++(XX++rL br V m (Ag q1 q2 c w0 w1 w2 w3 R))))∧
  SlO 84 4 X1 v1 c1 ((l.take i).filter fun y=>blt y.1 c.fKey).length∧Recs (MkR I) 4 ((l.take i).filter fun y=>blt y.1 c.fKey) c1∧
  SlO 84 4 X2 v2 c2 ((l.take i).filter fun y=> !blt y.1 c.fKey).length∧Recs (MkR I) 4 ((l.take i).filter fun y=> !blt y.1 c.fKey) c2) l.length ⟨rfl,0,[],[],.slice none 0 0,.slice none 0 0,[],[],rfl,rfl,rfl,SlO.none _ _,rfl,SlO.none _ _,rfl⟩ ?_
 rintro n s I' L' ⟨rfl,i,X1,X2,v1,v2,c1,c2,hni,rfl,rfl,hO1,hR1,hO2,hR2⟩;unfold SO;try simp only [SSd,Nat.reduceAdd]
 refine rdb ?_;simp only [RL.len hS,SSd,Nat.reduceAdd];refine AD (fun e=>?_) (fun e=>?_)
 ·have hi:i < l.length:=by simpa using e
  obtain ⟨q,off,d,hix,hcl,hd,hcc⟩:=RL.ix hS (i:=(i:Int)) (by omega) (by omega);rw [Ab hi] at hd;have hsn:=take_snoc hi;have hl1:=List.length_filter_le (fun y=>blt y.1 c.fKey) (l.take i);have hl2:=List.length_filter_le (fun y=> !blt y.1 c.fKey) (l.take i);rw [List.length_take] at hl1 hl2;generalize l[i]=y at *;have hd1:=hd.one;have hd':=hd;obtain ⟨x0,rfl,f0⟩:=hd;have hcv:=hcc I' V.XM (Ext.refl _) (fun _ h=>h);refine AK ?_;try simp only [SSd,Nat.reduceAdd]
  refine AV ?_;simp only [hix,SSd,Nat.reduceAdd];refine Aq (hcv 0 _ rfl) (Ext.refl _) ?_;refine BS f0 (Ext.refl _) ?_;try simp only [SSd,Nat.reduceAdd]
  refine AV ?_;refine BS g0 (Ext.refl _) ?_;simp only [sLt,SSd,Nat.reduceAdd];refine AD (fun e2=>?_) (fun e2=>?_)
  ·try simp only [SSd,Nat.reduceAdd]
   refine rdb ?_;simp only [hix,SSd,Nat.reduceAdd];refine FO hcv (Ext.refl _) rfl ?_;refine DY (R:=MkR) (X6:=X1) (x:=y) rfl (by omega) hO1 hR1 hd' rfl hd1 (by omega) (by omega) (fun Y X1' v1' c1' hO1' hR1'=>?_);unfold Jh;try simp only [SSd,Nat.reduceAdd]
   rw [wrap_i64 _ (by omega)];refine Gh.to (spH bs3 br2 bs2 lV lI rV rI v2 rS cK vT fl low old (X1'++(X2++(XX++rL br V m (Ag q1 q2 c w0 w1 w2 w3 R))))) (Gh.done ⟨n - 1,by omega,rfl,i+1,X1',X2,v1',v2,c1',c2,by omega,rfl,rfl,?_,?_,?_,?_⟩);all_goals rw [hsn,DS,e2]
   ·exact hO1'
   ·exact hR1'
   ·simpa using hO2
   ·simpa using hR2
  ·refine AK ?_;try simp only [SSd,Nat.reduceAdd]
   refine AV ?_;try simp only [SSd,Nat.reduceAdd]
   refine AV ?_;simp only [hix,SSd,Nat.reduceAdd];refine BX hcv (Ext.refl _) rfl ?_;refine GF (R:=MkR) (X6:=X2) (x:=y) (Ext.refl _) (fun y hy=>hy) rfl (by omega) hO2 hR2 hd' rfl hd1 (by omega) (by omega) (fun Y X2' a2 k2 c2' hO2' hR2'=>?_);try simp only [SSd,Nat.reduceAdd]
   refine st1 rfl ?_;unfold Jh;try simp only [SSd,Nat.reduceAdd]
   rw [wrap_i64 _ (by omega)];refine Gh.to (spH bs3 br2 bs2 lV lI rV rI (.slice a2 (((l.take i).filter fun y=> !blt y.1 c.fKey)++[y]).length k2) rS cK vT fl low old (X1++(X2'++(XX++rL br V m (Ag q1 q2 c w0 w1 w2 w3 R))))) (Gh.done ⟨n - 1,by omega,rfl,i+1,X1,X2',v1,_,c1,c2',by omega,rfl,rfl,?_,?_,?_,?_⟩);all_goals rw [hsn,DS,e2]
   ·simpa using hO1
   ·simpa using hR1
   ·exact hO2'
   ·exact hR2'
 ·have hi:i=l.length:=by simp at e;omega
  rw [hi,List.take_length] at hO1 hR1 hO2 hR2;exact hk X1 v1 c1 X2 v2 c2 hO1 hR1 hO2 hR2
def PostA14 (K:Value→M)(br:Nat)(R:LH)(I:Imm)(x:TRes×Mch×Option Mch):Prop:=∀I' V' cells,Ext I I'→RF14 I' V' x.2.1→TResV I' x.1 cells→
 (x.2.2=none→K (.tuple #[.agg cells.toArray,.pointer none]) I' (rL br V' x.2.1 R))∧(∀m2 br2 V2,x.2.2=some m2→RF14 I' V2 m2→K (.tuple #[.agg cells.toArray,pt br2]) I' (rL br V' x.2.1 (rL br2 V2 m2 R)))
theorem PostA14.plain {x:TRes×Mch}(h:PostA14 K br R I (As x)){I':Imm}{V':RV}{cells:List Value}(hI:Ext I I')(hF:RF14 I' V' x.2)(hr:TResV I' x.1 cells):K (.tuple #[.agg cells.toArray,.pointer none]) I' (rL br V' x.2 R):=(h I' V' cells hI hF hr).1 rfl
theorem SnR.one {I:Imm}{x:Int×TSn}{c:List Value}(h:SnR I x c):∀u∈c,u.oneCell'=true:=by
 rw [show c=snC x from h];exact AE rfl
theorem MB {c:TCmd}{cc:List Value}{N:Nat}(hF:RF14 I V m)(hM:MOk m N)(hN:N≤10000)(hc:TCmdV I c cc)(hk:PostA14 K br R I (CA m c)):
  CT ω 52 #[pt br,.agg cc.toArray] K I (rL br V m R):=by
 have hsq:=GA hN;have hrw:=hM.rows;have hvs:=hM.vers;have hml:=hM.marksL;have hsl:=hM.seenL;have hVl:(Ad m.sp.rows).length≤100000000:=by rw [Cp];omega
 have hIl:(intsOf m.sp.rows).length≤100000000:=by have:=Hx m.sp.rows;omega
 obtain ⟨w0,w1,w2,w3,rfl,g0,g1,g2,g3⟩:=hc;have f0:=hF.f0;have f1:=hF.f1;obtain ⟨aK,cK,rfl⟩:=Bytes.form g0;obtain ⟨aT,cT,hT⟩:=Bytes.form f1;obtain ⟨aF,cF,hf⟩:=Bytes.form f0;refine AKK ?_;unfold AGU;refine AM (fun q1=>AM (fun q2=>?_));refine AK ?_;try simp only [SSd,Nat.reduceAdd]
 refine Af [V.vF,V.vT] rfl rfl ?_;try simp only [SSd,Nat.reduceAdd]
 refine AV ?_;refine call (Ei (p:=m.span) ⟨_,_,rfl,hF.f0,hF.f1⟩ g0 ?_);refine AK ?_;try simp only [SSd,Nat.reduceAdd]
 refine AH (fun e=>?_) (fun e=>?_);rotate_left
 ·have hE:CA m c=As (Al 141,m):=by unfold CA As;rw [if_pos (.inl (by simpa using e))]
  rw [hE] at hk;unfold Nh;try simp only [SSd,Nat.reduceAdd]
  refine stB rfl rfl (AE rfl) ?_;refine rdB rfl ?_;exact Gh.to (rL br V m R) (Gh.done (hk.plain (Ext.refl _) hF (Ce ..)))
 try simp only [SSd,Nat.reduceAdd]
 refine AV ?_;refine BS g0 (Ext.refl _) ?_;try simp only [SSd,Nat.reduceAdd]
 refine AV ?_;refine BS f0 (Ext.refl _) ?_;simp only [sEq,SSd,Nat.reduceAdd];refine AD (fun e2=>?_) (fun e2=>?_)
 ·have hE:CA m c=As (Al 141,m):=by unfold CA As;rw [if_pos (.inr (by simpa using e2))]
  rw [hE] at hk;unfold Nh;try simp only [SSd,Nat.reduceAdd]
  refine stB rfl rfl (AE rfl) ?_;refine rdB rfl ?_;exact Gh.to (rL br V m R) (Gh.done (hk.plain (Ext.refl _) hF (Ce ..)))
 have hE:CA m c=(okR,{m with span:=⟨m.span.fFrom,c.fKey⟩,sp:=Gu c.fKey m.sp,nt:=CE true (CN c.fKey m.sp.rows) m.nt,marks:=m.marks.filter fun q=>blt q.1 c.fKey},
  some ⟨⟨c.fKey,m.span.fTo⟩,Fw c.fKey m.sp,CE false (CN c.fKey m.sp.rows) (DB m.sp.floor),m.marks.filter fun q=> !blt q.1 c.fKey,m.low,[],m.seen,m.oldest,[]⟩):=by
  unfold CA;rw [if_neg (by rintro (h|h) <;> simp_all)]
 rw [hE] at hk;refine AK ?_;try simp only [SSd,Nat.reduceAdd]
 refine AV ?_;try simp only [SSd,Nat.reduceAdd]
 refine AV ?_;rw [hT];try simp only [SSd,Nat.reduceAdd]
 refine AV ?_;try simp only [SSd,Nat.reduceAdd]
 refine Af [.int .i64 m.sp.floor.fWall,.int .i64 m.sp.floor.fLogic] rfl rfl ?_;try simp only [SSd,Nat.reduceAdd]
 refine AM (fun bs2=>?_);refine Bv (Ext.refl _) ?_;try simp only [SSd,Nat.reduceAdd]
 refine Af (mkC (.slice none 0 0) m.low) rfl rfl ?_;try simp only [SSd,Nat.reduceAdd]
 refine AV ?_;try simp only [SSd,Nat.reduceAdd]
 refine AM (fun br2=>?_);refine AK ?_;try simp only [SSd,Nat.reduceAdd]
 refine AV ?_;try simp only [SSd,Nat.reduceAdd]
 refine AV ?_;refine Oa (R:=SnR) (X:=[]) (hsp:=⟨List.Perm.refl _⟩) (xs:=[]) (ys:=m.seen) rfl (SlO.none _ _) rfl (RL.mono (fun _ _ h=>h) hF.sn (Ext.refl _) (fun z hz=>by cases hz)) SnR.one (by simp;omega) (by simp;omega) (fun XS vS cS hOS hRS=>Gh.done ?_);rw [List.nil_append] at hOS hRS;obtain ⟨aS,kS,rfl⟩:=hOS.form;try simp only [SSd,Nat.reduceAdd]
 refine WB rfl ?_;refine Gh.perm (L':=(br2,Kr (.slice aK c.fKey.length cK) (.slice aT m.span.fTo.length cT) bs2 (.slice none 0 0) m.low (.slice none 0 0) (.slice aS m.seen.length kS) m.oldest)::(bs2,BC (.slice none 0 0) (.slice none 0 0) m.sp.floor)::(XS++rL br V m (Ag q1 q2 c (.slice aK c.fKey.length cK) w1 w2 w3 R))) (AQ (by ((try simp only [AN,AP,Aa,AR]);(try ac_rfl)))) (Gh.done ?_);try simp only [SSd,Nat.reduceAdd]
 refine rdb ?_;try simp only [SSd,Nat.reduceAdd]
 refine rdP [.int .i64 m.sp.floor.fWall,.int .i64 m.sp.floor.fLogic] rfl rfl ?_;try simp only [SSd,Nat.reduceAdd]
 refine AM (fun bs3=>?_);refine Uk hF hVl g0 (fun X1 v1 c1 X2 v2 c2 hO1 hR1 hO2 hR2=>?_);rw [show X1++(X2++(XS++rL br V m (Ag q1 q2 c (.slice aK c.fKey.length cK) w1 w2 w3 R)))=(X1++(X2++XS))++rL br V m (Ag q1 q2 c (.slice aK c.fKey.length cK) w1 w2 w3 R) from by simp only [List.append_assoc]];refine Uj hF hIl g0 (fun X3 v3 c3 X4 v4 c4 hO3 hR3 hO4 hR4=>?_);rw [show X3++(X4++((X1++(X2++XS))++rL br V m (Ag q1 q2 c (.slice aK c.fKey.length cK) w1 w2 w3 R)))=(X3++(X4++(X1++(X2++XS))))++rL br V m (Ag q1 q2 c (.slice aK c.fKey.length cK) w1 w2 w3 R) from by simp only [List.append_assoc]];refine Ui hF (by omega) g0 (fun X5 v5 c5 X6 v6 c6 hO5 hR5 hO6 hR6=>?_);obtain ⟨a5,k5,rfl⟩:=hO5.form;unfold Ng;refine AK ?_;try simp only [SSd,Nat.reduceAdd]
 refine AV ?_;rw [hf];try simp only [SSd,Nat.reduceAdd]
 refine AV ?_;try simp only [SSd,Nat.reduceAdd]
 refine stP _ rfl rfl rfl rfl ?_;try simp only [SSd,Nat.reduceAdd]
 refine st1 rfl ?_;try simp only [SSd,Nat.reduceAdd]
 refine st1 rfl ?_;try simp only [SSd,Nat.reduceAdd]
 refine stB rfl rfl (AE rfl) ?_;refine rdB rfl ?_;simp only [List.append_assoc];refine Gh.to (X1++(X2++(X3++(X4++(XS++((br,Kr (.slice aF m.span.fFrom.length cF) (.slice aK c.fKey.length cK) bs3 (.slice a5 (m.marks.filter fun y=>blt y.1 c.fKey).length k5) m.low V.vR V.vS m.oldest)::(bs3,BC v1 v3 m.sp.floor)::(X5++(V.XR++((br2,Kr (.slice aK c.fKey.length cK) (.slice aT m.span.fTo.length cT) bs2 v6 m.low (.slice none 0 0) (.slice aS m.seen.length kS) m.oldest)::(bs2,BC v2 v4 m.sp.floor)::(X6++R)))))))))) ?_;refine SlO.freeze hO1 (fun J1 i1 s1=>SlO.freeze hO2 (fun J2 i2 s2=>SlO.freeze hO3 (fun J3 i3 s3=>SlO.freeze hO4 (fun J4 i4 s4=>SlO.freeze hOS (fun J5 i5 s5=>Gh.done ?_)))));have t45:=i4.trans i5;have t35:=i3.trans t45;have t25:=i2.trans t35;have t15:=i1.trans t25;have eL1:=Ol (fun k=>blt k c.fKey) m.sp.rows;have eL2:=Ol (fun k=> !blt k c.fKey) m.sp.rows;have eI1:=Pt (fun k=>blt k c.fKey) m.sp.rows;have eI2:=Pt (fun k=> !blt k c.fKey) m.sp.rows;have r1:=rlI (fun _ _ h=>h.mono t25) (RL.ofI (R:=TVersionV) (L:=[]) s1 (hR1.imp fun x c h=>h.mono i1)) t25;have r2:=rlI (fun _ _ h=>h.mono t35) (RL.ofI (R:=TVersionV) (L:=[]) s2 (hR2.imp fun x c h=>h.mono (i1.trans i2))) t35;have r3:=rlI (fun _ _ h=>h.mono t45) (RL.ofI (R:=TIntentV) (L:=[]) s3 (hR3.imp fun x c h=>h.mono (i1.trans (i2.trans i3)))) t45;have r4:=rlI (fun _ _ h=>h.mono i5) (RL.ofI (R:=TIntentV) (L:=[]) s4 (hR4.imp fun x c h=>h.mono (i1.trans (i2.trans (i3.trans i4))))) i5;have r5:=RL.ofI (R:=SnR) (L:=[]) s5 (hRS.imp fun x c h=>SnR.mono h (i1.trans (i2.trans (i3.trans (i4.trans i5)))))
 rw [eL1] at r1;rw [eL2] at r2;rw [eI1] at r3;rw [eI2] at r4;have hFm:=hF.mono t15;refine (hk J5 {V with vF:=.slice aF m.span.fFrom.length cF,vT:=.slice aK c.fKey.length cK,bs:=bs3,vV:=v1,vI:=v3,vM:=.slice a5 (m.marks.filter fun y=>blt y.1 c.fKey).length k5,cM:=c5,XM:=X5} _ t15 ?_ (Ce ..)).2 ⟨⟨c.fKey,m.span.fTo⟩,Fw c.fKey m.sp,CE false (CN c.fKey m.sp.rows) (DB m.sp.floor),m.marks.filter fun q=> !blt q.1 c.fKey,m.low,[],m.seen,m.oldest,[]⟩ br2 ⟨bs2,.slice aK c.fKey.length cK,.slice aT m.span.fTo.length cT,v2,v4,v6,c6,X6,.slice none 0 0,[],[],.slice aS m.seen.length kS⟩ rfl ?_
 ·exact ⟨by rw [←hf];exact hFm.f0,g0.mono t15,hO5,hR5.imp fun _ _ h=>h.mono t15,hF.rc,hF.rcR,hFm.sn,r1,r3⟩
 ·exact ⟨g0.mono t15,by rw [←hT];exact hFm.f1,hO6,hR6.imp fun _ _ h=>h.mono t15,SlO.none _ _,rfl,r5,r2,r4⟩
end
section
variable {ω:Om}{I:Imm}{L:LH}{K:Value→M}
end
section
variable {ω:Om}{I:Imm}{L:LH}{K:Value→M}
end
def Je:TCmd:=⟨3,1,1,z0,z0,0,false,false,[97],[120],⟨[],[]⟩,0⟩
def cmdG:TCmd:=⟨1,1,0,z0,z0,0,false,false,[97],[],⟨[],[]⟩,0⟩
def JX:TSpan:=⟨[],[]⟩
theorem AHC:Ba Je=true:=by decide
theorem AHD:Ba cmdG=true:=by decide
theorem ALB {m:Mch}{c:TCmd}(h:Ba c=true)(hk:c.fKind=3):BQ m c=As (CP m c):=by
 unfold BQ;rw [if_neg (by simp [h])];unfold doM;simp [hk]
theorem ALC {m:Mch}{c:TCmd}(h:Ba c=true)(hk:c.fKind=1):BQ m c=As (Ep m c):=by
 unfold BQ;rw [if_neg (by simp [h])];unfold doM;simp [hk]
theorem AJD:(CP (FR JX) Je).1.fCode=0:=by decide
theorem AJE:(CP (FR JX) Je).2.marks=[]:=by decide
theorem AJF:(Ep (CP (FR JX) Je).2 cmdG).1.fCode=0∧(Ep (CP (FR JX) Je).2 cmdG).1.fGot.fValue=[120]:=by decide
section
variable {ω:Om}{I:Imm}{L:LH}{K:Value→M}
theorem AGp {c:UInt8}(hk:∀u I',Ext I I'→Bytes I' u [c]→K u I' L):Ay 5 1 #[.int .u8 0] 1 [(0,.int .u8 c.toNat)] (gh fun v=>SF v (gh K)) I L:=by
 refine Ln rfl (by omega) rfl (fun X u hX=>Gh.done ?_);have hX':OB X u [c]:=by unfold OB;simpa [Value.cells,u8s] using hX
 by_cases h0:X=[]
 ·subst h0;exfalso
  obtain ⟨_,h⟩:=hX';rcases h with ⟨_,h,_⟩|⟨b,cap,cs,h,_⟩
  ·simp at h
  ·cases h
 ·exact AFC hX' h0 (fun I' hI hS=>hk u I' hI hS)
theorem SC (hk:∀I',Ext I I'→K (.bool true) I' L):CT ω 10 #[] K I L:=by
 refine AKg ?_;unfold sh10;try simp only [SSd,Nat.reduceAdd]
 refine call (NA (p:=JX) ⟨_,_,rfl,Jf I,Jf I⟩ (fun h=>by cases h) (fun _ b X I1 hI1 hX=>?_));try simp only [SSd,Nat.reduceAdd]
 refine AGp (c:=97) (fun u1 I2 hI2 hB2=>?_);refine AGp (c:=120) (fun u2 I3 hI3 hB3=>?_);obtain ⟨a1,k1,rfl⟩:=Bytes.form hB2;obtain ⟨a2,k2,rfl⟩:=Bytes.form hB3;try simp only [SSd,Nat.reduceAdd]
 have e1:=ALB (m:=FR JX) AHC rfl;have hM0:=Tv (p:=JX) (by decide);have hM1:=NW (c:=Je) hM0;rw [e1] at hM1;refine call (HW (c:=Je) hM0 (by omega) (hX.mono (hI2.trans hI3)) ⟨_,_,_,_,rfl,hB2.mono hI3,hB3,Jf I3,Jf I3⟩ ⟨by decide,by decide,by decide,by decide⟩ (fun h=>by cases h) (fun h=>by cases h) (fun I4 X1 cells hI4 hX1 hr=>?_));rw [e1] at hX1 hr ⊢;refine ⟨fun _=>?_,fun m2 b2 X2 h=>by cases h⟩;replace hX1:MchR I4 b X1 (CP (FR JX) Je).2:=hX1
 replace hr:TResV I4 (CP (FR JX) Je).1 cells:=hr
 replace hM1:MOk (CP (FR JX) Je).2 (0+1):=hM1.2.1
 have hP:=AJD;have hPm:=AJE;have hG:=AJF;generalize (CP (FR JX) Je).1=r1 at *;generalize (CP (FR JX) Je).2=m1 at *;have hr1:=hr.one;obtain ⟨y0,y1,rfl,t0,t1⟩:=id hr;try simp only [SSd,Nat.reduceAdd]
 refine AM (fun q1=>?_);refine stB rfl rfl hr1 ?_;refine AGp (c:=97) (fun u3 I5 hI5 hB5=>?_);obtain ⟨a3,k3,rfl⟩:=Bytes.form hB5;try simp only [SSd,Nat.reduceAdd]
 have e2:=ALC (m:=m1) AHD rfl;have hfl:EO m1 cmdG.fKey=false:=by unfold EO;rw [hPm];rfl
 refine call (Cal.split X1 (HW (c:=cmdG) hM1 (by omega) (hX1.mono hI5) ⟨_,_,_,_,rfl,hB5,Jf I5,Jf I5,Jf I5⟩ ⟨by decide,by decide,by decide,by decide⟩ (fun h=>by rw [hfl] at h;cases h) (fun h=>by cases h) (fun I6 X2 cells2 hI6 hX2 hr2=>?_)));rw [e2] at hX2 hr2 ⊢;refine ⟨fun _=>?_,fun m2 b2 X2 h=>by cases h⟩;replace hr2:TResV I6 (Ep m1 cmdG).1 cells2:=hr2
 generalize (Ep m1 cmdG).1=r2 at *;have hr3:=hr2.one;obtain ⟨z1,z2,rfl,s0,s1⟩:=id hr2;try simp only [SSd,Nat.reduceAdd]
 refine AM (fun q2=>?_);refine stB rfl rfl hr3 ?_;have hI06:=hI1.trans (hI2.trans (hI3.trans (hI4.trans (hI5.trans hI6))));rw [hG.2] at s0;repeat' (first|(with_reducible first|refine AK ?_|refine AX ?_|refine AY ?_|refine keepA ?_|refine AM (fun _=>?_)|refine EG s0 (Ext.refl _) ?_|refine rdb ?_)|((with_reducible first|refine st1 ?_ ?_|refine rdB ?_ ?_);rfl)|(with_reducible refine AV ?_)|((with_reducible refine Ae ?_ ?_);rfl)|((with_reducible refine stB ?_ ?_ ?_ ?_);rfl;rfl;exact AE rfl)|((with_reducible first|refine rdP _ rfl ?_ ?_|refine Af _ rfl ?_ ?_);rfl)|((with_reducible refine stP _ rfl ?_ ?_ ?_ ?_);rfl;rfl;rfl)|(with_reducible first|refine AO (sh10.eq_1 ..) ?_|refine And.intro ?_ ?_)|(simp only [SSg,Int.reduceBEq,Int.reduceBNe,Int.reduceLT,Int.reduceLE,beq_self_eq_true,bne_self_eq_false])|(with_reducible first|refine AH (fun _=>?_) (fun _=>?_)|refine AD (fun _=>?_) (fun _=>?_))|(simp only [SSd,Nat.reduceAdd,hP,hG.1]))
 exact Gh.to L (Gh.done (hk I6 hI06))
end
def Cw (c:TCmd)(key span by' yes to most seq:Bool):Bool:=(!key||BI c)&&((!span||CF c)&&((!by'||c.fBy==0)&&((!yes|| !c.fYes)&&((!to||EW c)&&((!most||c.fMost==0)&&(!seq||c.fSeq==0))))))
theorem Fs {K:Value→M}{I:Imm}{L:LH}{b b':Bool}(h:K (.bool b) I L)(e:b=b'):K (.bool b') I L:=e ▸ h
section
variable {ω:Om}{I:Imm}{L:LH}{K:Value→M}
theorem Dw {l:List UInt8}:decide ((0:Int) < (l.length:Int))= !(l.length==0):=by
 cases l with
 |nil=>rfl
 |cons x l=>rw [Bool.eq_iff_iff];simp
theorem ADI {c:TCmd}{cc:List Value}(hc:TCmdV I c cc)(hk:K (.bool (Cw c false true true true true true true)) I L):CT ω 70 #[.agg cc.toArray,.bool false,.bool true,.bool true,.bool true,.bool true,.bool true,.bool true] K I L:=by
 obtain ⟨w0,w1,w2,w3,rfl,g0,g1,g2,g3⟩:=hc;refine HD ?_;unfold sh70;repeat' (first|(with_reducible first|refine AK ?_|refine AX ?_|refine AY ?_|refine keepA ?_|refine AM (fun _=>?_)|refine rdb ?_)|((with_reducible first|refine st1 ?_ ?_|refine rdB ?_ ?_);rfl)|(with_reducible refine AV ?_)|((with_reducible refine Ae ?_ ?_);rfl)|((with_reducible refine stB ?_ ?_ ?_ ?_);rfl;rfl;exact AE rfl)|((with_reducible first|refine rdP _ rfl ?_ ?_|refine Af _ rfl ?_ ?_);rfl)|((with_reducible refine stP _ rfl ?_ ?_ ?_ ?_);rfl;rfl;rfl)|(with_reducible first|refine AO (sh70.eq_1 ..) ?_|refine And.intro ?_ ?_)|(simp only [SSg,Int.reduceBEq,Int.reduceBNe,Int.reduceLT,Int.reduceLE,beq_self_eq_true,bne_self_eq_false])|(with_reducible first|refine AH (fun _=>?_) (fun _=>?_)|refine AD (fun _=>?_) (fun _=>?_))|(simp only [SSd,Nat.reduceAdd,Bytes.len g0,Bytes.len g1,Bytes.len g2,Bytes.len g3,Dw]))
 all_goals (refine Gh.to L (Gh.done (Fs hk ?_));simp_all [Cw,BI,CF,EW])
theorem ADH {c:TCmd}{cc:List Value}(hc:TCmdV I c cc)(hk:K (.bool (Cw c true false true true true false true)) I L):CT ω 70 #[.agg cc.toArray,.bool true,.bool false,.bool true,.bool true,.bool true,.bool false,.bool true] K I L:=by
 obtain ⟨w0,w1,w2,w3,rfl,g0,g1,g2,g3⟩:=hc;refine HD ?_;unfold sh70;repeat' (first|(with_reducible first|refine AK ?_|refine AX ?_|refine AY ?_|refine keepA ?_|refine AM (fun _=>?_)|refine rdb ?_)|((with_reducible first|refine st1 ?_ ?_|refine rdB ?_ ?_);rfl)|(with_reducible refine AV ?_)|((with_reducible refine Ae ?_ ?_);rfl)|((with_reducible refine stB ?_ ?_ ?_ ?_);rfl;rfl;exact AE rfl)|((with_reducible first|refine rdP _ rfl ?_ ?_|refine Af _ rfl ?_ ?_);rfl)|((with_reducible refine stP _ rfl ?_ ?_ ?_ ?_);rfl;rfl;rfl)|(with_reducible first|refine AO (sh70.eq_1 ..) ?_|refine And.intro ?_ ?_)|(simp only [SSg,Int.reduceBEq,Int.reduceBNe,Int.reduceLT,Int.reduceLE,beq_self_eq_true,bne_self_eq_false])|(with_reducible first|refine AH (fun _=>?_) (fun _=>?_)|refine AD (fun _=>?_) (fun _=>?_))|(simp only [SSd,Nat.reduceAdd,Bytes.len g0,Bytes.len g1,Bytes.len g2,Bytes.len g3,Dw]))
 all_goals (refine Gh.to L (Gh.done (Fs hk ?_));simp_all [Cw,BI,CF,EW])
theorem ADG {c:TCmd}{cc:List Value}(hc:TCmdV I c cc)(hk:K (.bool (Cw c false true true true true true false)) I L):CT ω 70 #[.agg cc.toArray,.bool false,.bool true,.bool true,.bool true,.bool true,.bool true,.bool false] K I L:=by
 obtain ⟨w0,w1,w2,w3,rfl,g0,g1,g2,g3⟩:=hc;refine HD ?_;unfold sh70;repeat' (first|(with_reducible first|refine AK ?_|refine AX ?_|refine AY ?_|refine keepA ?_|refine AM (fun _=>?_)|refine rdb ?_)|((with_reducible first|refine st1 ?_ ?_|refine rdB ?_ ?_);rfl)|(with_reducible refine AV ?_)|((with_reducible refine Ae ?_ ?_);rfl)|((with_reducible refine stB ?_ ?_ ?_ ?_);rfl;rfl;exact AE rfl)|((with_reducible first|refine rdP _ rfl ?_ ?_|refine Af _ rfl ?_ ?_);rfl)|((with_reducible refine stP _ rfl ?_ ?_ ?_ ?_);rfl;rfl;rfl)|(with_reducible first|refine AO (sh70.eq_1 ..) ?_|refine And.intro ?_ ?_)|(simp only [SSg,Int.reduceBEq,Int.reduceBNe,Int.reduceLT,Int.reduceLE,beq_self_eq_true,bne_self_eq_false])|(with_reducible first|refine AH (fun _=>?_) (fun _=>?_)|refine AD (fun _=>?_) (fun _=>?_))|(simp only [SSd,Nat.reduceAdd,Bytes.len g0,Bytes.len g1,Bytes.len g2,Bytes.len g3,Dw]))
 all_goals (refine Gh.to L (Gh.done (Fs hk ?_));simp_all [Cw,BI,CF,EW])
theorem ADF {c:TCmd}{cc:List Value}(hc:TCmdV I c cc)(hk:K (.bool (Cw c true false true true false true false)) I L):CT ω 70 #[.agg cc.toArray,.bool true,.bool false,.bool true,.bool true,.bool false,.bool true,.bool false] K I L:=by
 obtain ⟨w0,w1,w2,w3,rfl,g0,g1,g2,g3⟩:=hc;refine HD ?_;unfold sh70;repeat' (first|(with_reducible first|refine AK ?_|refine AX ?_|refine AY ?_|refine keepA ?_|refine AM (fun _=>?_)|refine rdb ?_)|((with_reducible first|refine st1 ?_ ?_|refine rdB ?_ ?_);rfl)|(with_reducible refine AV ?_)|((with_reducible refine Ae ?_ ?_);rfl)|((with_reducible refine stB ?_ ?_ ?_ ?_);rfl;rfl;exact AE rfl)|((with_reducible first|refine rdP _ rfl ?_ ?_|refine Af _ rfl ?_ ?_);rfl)|((with_reducible refine stP _ rfl ?_ ?_ ?_ ?_);rfl;rfl;rfl)|(with_reducible first|refine AO (sh70.eq_1 ..) ?_|refine And.intro ?_ ?_)|(simp only [SSg,Int.reduceBEq,Int.reduceBNe,Int.reduceLT,Int.reduceLE,beq_self_eq_true,bne_self_eq_false])|(with_reducible first|refine AH (fun _=>?_) (fun _=>?_)|refine AD (fun _=>?_) (fun _=>?_))|(simp only [SSd,Nat.reduceAdd,Bytes.len g0,Bytes.len g1,Bytes.len g2,Bytes.len g3,Dw]))
 all_goals (refine Gh.to L (Gh.done (Fs hk ?_));simp_all [Cw,BI,CF,EW])
theorem ADE {c:TCmd}{cc:List Value}(hc:TCmdV I c cc)(hk:K (.bool (Cw c true true true true true true false)) I L):CT ω 70 #[.agg cc.toArray,.bool true,.bool true,.bool true,.bool true,.bool true,.bool true,.bool false] K I L:=by
 obtain ⟨w0,w1,w2,w3,rfl,g0,g1,g2,g3⟩:=hc;refine HD ?_;unfold sh70;repeat' (first|(with_reducible first|refine AK ?_|refine AX ?_|refine AY ?_|refine keepA ?_|refine AM (fun _=>?_)|refine rdb ?_)|((with_reducible first|refine st1 ?_ ?_|refine rdB ?_ ?_);rfl)|(with_reducible refine AV ?_)|((with_reducible refine Ae ?_ ?_);rfl)|((with_reducible refine stB ?_ ?_ ?_ ?_);rfl;rfl;exact AE rfl)|((with_reducible first|refine rdP _ rfl ?_ ?_|refine Af _ rfl ?_ ?_);rfl)|((with_reducible refine stP _ rfl ?_ ?_ ?_ ?_);rfl;rfl;rfl)|(with_reducible first|refine AO (sh70.eq_1 ..) ?_|refine And.intro ?_ ?_)|(simp only [SSg,Int.reduceBEq,Int.reduceBNe,Int.reduceLT,Int.reduceLE,beq_self_eq_true,bne_self_eq_false])|(with_reducible first|refine AH (fun _=>?_) (fun _=>?_)|refine AD (fun _=>?_) (fun _=>?_))|(simp only [SSd,Nat.reduceAdd,Bytes.len g0,Bytes.len g1,Bytes.len g2,Bytes.len g3,Dw]))
 all_goals (refine Gh.to L (Gh.done (Fs hk ?_));simp_all [Cw,BI,CF,EW])
theorem ADD {c:TCmd}{cc:List Value}(hc:TCmdV I c cc)(hk:K (.bool (Cw c true true true false true true true)) I L):CT ω 70 #[.agg cc.toArray,.bool true,.bool true,.bool true,.bool false,.bool true,.bool true,.bool true] K I L:=by
 obtain ⟨w0,w1,w2,w3,rfl,g0,g1,g2,g3⟩:=hc;refine HD ?_;unfold sh70;repeat' (first|(with_reducible first|refine AK ?_|refine AX ?_|refine AY ?_|refine keepA ?_|refine AM (fun _=>?_)|refine rdb ?_)|((with_reducible first|refine st1 ?_ ?_|refine rdB ?_ ?_);rfl)|(with_reducible refine AV ?_)|((with_reducible refine Ae ?_ ?_);rfl)|((with_reducible refine stB ?_ ?_ ?_ ?_);rfl;rfl;exact AE rfl)|((with_reducible first|refine rdP _ rfl ?_ ?_|refine Af _ rfl ?_ ?_);rfl)|((with_reducible refine stP _ rfl ?_ ?_ ?_ ?_);rfl;rfl;rfl)|(with_reducible first|refine AO (sh70.eq_1 ..) ?_|refine And.intro ?_ ?_)|(simp only [SSg,Int.reduceBEq,Int.reduceBNe,Int.reduceLT,Int.reduceLE,beq_self_eq_true,bne_self_eq_false])|(with_reducible first|refine AH (fun _=>?_) (fun _=>?_)|refine AD (fun _=>?_) (fun _=>?_))|(simp only [SSd,Nat.reduceAdd,Bytes.len g0,Bytes.len g1,Bytes.len g2,Bytes.len g3,Dw]))
 all_goals (refine Gh.to L (Gh.done (Fs hk ?_));simp_all [Cw,BI,CF,EW])
theorem ADC {c:TCmd}{cc:List Value}(hc:TCmdV I c cc)(hk:K (.bool (Cw c true true false true true true true)) I L):CT ω 70 #[.agg cc.toArray,.bool true,.bool true,.bool false,.bool true,.bool true,.bool true,.bool true] K I L:=by
 obtain ⟨w0,w1,w2,w3,rfl,g0,g1,g2,g3⟩:=hc;refine HD ?_;unfold sh70;repeat' (first|(with_reducible first|refine AK ?_|refine AX ?_|refine AY ?_|refine keepA ?_|refine AM (fun _=>?_)|refine rdb ?_)|((with_reducible first|refine st1 ?_ ?_|refine rdB ?_ ?_);rfl)|(with_reducible refine AV ?_)|((with_reducible refine Ae ?_ ?_);rfl)|((with_reducible refine stB ?_ ?_ ?_ ?_);rfl;rfl;exact AE rfl)|((with_reducible first|refine rdP _ rfl ?_ ?_|refine Af _ rfl ?_ ?_);rfl)|((with_reducible refine stP _ rfl ?_ ?_ ?_ ?_);rfl;rfl;rfl)|(with_reducible first|refine AO (sh70.eq_1 ..) ?_|refine And.intro ?_ ?_)|(simp only [SSg,Int.reduceBEq,Int.reduceBNe,Int.reduceLT,Int.reduceLE,beq_self_eq_true,bne_self_eq_false])|(with_reducible first|refine AH (fun _=>?_) (fun _=>?_)|refine AD (fun _=>?_) (fun _=>?_))|(simp only [SSd,Nat.reduceAdd,Bytes.len g0,Bytes.len g1,Bytes.len g2,Bytes.len g3,Dw]))
 all_goals (refine Gh.to L (Gh.done (Fs hk ?_));simp_all [Cw,BI,CF,EW])
theorem ADB {c:TCmd}{cc:List Value}(hc:TCmdV I c cc)(hk:K (.bool (Cw c true true true true true true true)) I L):CT ω 70 #[.agg cc.toArray,.bool true,.bool true,.bool true,.bool true,.bool true,.bool true,.bool true] K I L:=by
 obtain ⟨w0,w1,w2,w3,rfl,g0,g1,g2,g3⟩:=hc;refine HD ?_;unfold sh70;repeat' (first|(with_reducible first|refine AK ?_|refine AX ?_|refine AY ?_|refine keepA ?_|refine AM (fun _=>?_)|refine rdb ?_)|((with_reducible first|refine st1 ?_ ?_|refine rdB ?_ ?_);rfl)|(with_reducible refine AV ?_)|((with_reducible refine Ae ?_ ?_);rfl)|((with_reducible refine stB ?_ ?_ ?_ ?_);rfl;rfl;exact AE rfl)|((with_reducible first|refine rdP _ rfl ?_ ?_|refine Af _ rfl ?_ ?_);rfl)|((with_reducible refine stP _ rfl ?_ ?_ ?_ ?_);rfl;rfl;rfl)|(with_reducible first|refine AO (sh70.eq_1 ..) ?_|refine And.intro ?_ ?_)|(simp only [SSg,Int.reduceBEq,Int.reduceBNe,Int.reduceLT,Int.reduceLE,beq_self_eq_true,bne_self_eq_false])|(with_reducible first|refine AH (fun _=>?_) (fun _=>?_)|refine AD (fun _=>?_) (fun _=>?_))|(simp only [SSd,Nat.reduceAdd,Bytes.len g0,Bytes.len g1,Bytes.len g2,Bytes.len g3,Dw]))
 all_goals (refine Gh.to L (Gh.done (Fs hk ?_));simp_all [Cw,BI,CF,EW])
theorem ADA {c:TCmd}{cc:List Value}(hc:TCmdV I c cc)(hk:K (.bool (Cw c true false true false true true true)) I L):CT ω 70 #[.agg cc.toArray,.bool true,.bool false,.bool true,.bool false,.bool true,.bool true,.bool true] K I L:=by
 obtain ⟨w0,w1,w2,w3,rfl,g0,g1,g2,g3⟩:=hc;refine HD ?_;unfold sh70;repeat' (first|(with_reducible first|refine AK ?_|refine AX ?_|refine AY ?_|refine keepA ?_|refine AM (fun _=>?_)|refine rdb ?_)|((with_reducible first|refine st1 ?_ ?_|refine rdB ?_ ?_);rfl)|(with_reducible refine AV ?_)|((with_reducible refine Ae ?_ ?_);rfl)|((with_reducible refine stB ?_ ?_ ?_ ?_);rfl;rfl;exact AE rfl)|((with_reducible first|refine rdP _ rfl ?_ ?_|refine Af _ rfl ?_ ?_);rfl)|((with_reducible refine stP _ rfl ?_ ?_ ?_ ?_);rfl;rfl;rfl)|(with_reducible first|refine AO (sh70.eq_1 ..) ?_|refine And.intro ?_ ?_)|(simp only [SSg,Int.reduceBEq,Int.reduceBNe,Int.reduceLT,Int.reduceLE,beq_self_eq_true,bne_self_eq_false])|(with_reducible first|refine AH (fun _=>?_) (fun _=>?_)|refine AD (fun _=>?_) (fun _=>?_))|(simp only [SSd,Nat.reduceAdd,Bytes.len g0,Bytes.len g1,Bytes.len g2,Bytes.len g3,Dw]))
 all_goals (refine Gh.to L (Gh.done (Fs hk ?_));simp_all [Cw,BI,CF,EW])
theorem ACz {c:TCmd}{cc:List Value}(hc:TCmdV I c cc)(hk:K (.bool (Cw c false true false true true true true)) I L):CT ω 70 #[.agg cc.toArray,.bool false,.bool true,.bool false,.bool true,.bool true,.bool true,.bool true] K I L:=by
 obtain ⟨w0,w1,w2,w3,rfl,g0,g1,g2,g3⟩:=hc;refine HD ?_;unfold sh70;repeat' (first|(with_reducible first|refine AK ?_|refine AX ?_|refine AY ?_|refine keepA ?_|refine AM (fun _=>?_)|refine rdb ?_)|((with_reducible first|refine st1 ?_ ?_|refine rdB ?_ ?_);rfl)|(with_reducible refine AV ?_)|((with_reducible refine Ae ?_ ?_);rfl)|((with_reducible refine stB ?_ ?_ ?_ ?_);rfl;rfl;exact AE rfl)|((with_reducible first|refine rdP _ rfl ?_ ?_|refine Af _ rfl ?_ ?_);rfl)|((with_reducible refine stP _ rfl ?_ ?_ ?_ ?_);rfl;rfl;rfl)|(with_reducible first|refine AO (sh70.eq_1 ..) ?_|refine And.intro ?_ ?_)|(simp only [SSg,Int.reduceBEq,Int.reduceBNe,Int.reduceLT,Int.reduceLE,beq_self_eq_true,bne_self_eq_false])|(with_reducible first|refine AH (fun _=>?_) (fun _=>?_)|refine AD (fun _=>?_) (fun _=>?_))|(simp only [SSd,Nat.reduceAdd,Bytes.len g0,Bytes.len g1,Bytes.len g2,Bytes.len g3,Dw]))
 all_goals (refine Gh.to L (Gh.done (Fs hk ?_));simp_all [Cw,BI,CF,EW])
theorem PS {a:Int}(hk:K (.bool (decide (0≤a∧a≤9007199254740991))) I L):CT ω 69 #[.int .i64 a] K I L:=by
 refine AJy ?_;unfold sh69;repeat' (first|(with_reducible first|refine AK ?_|refine AX ?_|refine AY ?_|refine keepA ?_|refine AM (fun _=>?_)|refine rdb ?_)|((with_reducible first|refine st1 ?_ ?_|refine rdB ?_ ?_);rfl)|(with_reducible refine AV ?_)|((with_reducible refine Ae ?_ ?_);rfl)|((with_reducible refine stB ?_ ?_ ?_ ?_);rfl;rfl;exact AE rfl)|((with_reducible first|refine rdP _ rfl ?_ ?_|refine Af _ rfl ?_ ?_);rfl)|((with_reducible refine stP _ rfl ?_ ?_ ?_ ?_);rfl;rfl;rfl)|(with_reducible first|refine AO (sh69.eq_1 ..) ?_|refine And.intro ?_ ?_)|(simp only [SSg,Int.reduceBEq,Int.reduceBNe,Int.reduceLT,Int.reduceLE,beq_self_eq_true,bne_self_eq_false])|(with_reducible first|refine AH (fun _=>?_) (fun _=>?_)|refine AD (fun _=>?_) (fun _=>?_))|(simp only [SSd,Nat.reduceAdd]))
 all_goals (refine Gh.done (Bz hk ?_);simp_all <;> omega)
theorem GD {a:Int}(hk:K (.bool (Bj a)) I L):CT ω 67 #[.int .i64 a] K I L:=by
 refine AKA ?_;unfold AGM;exact call (Dy (Gh.done hk))
theorem Hq {p:TSpan}{c:List Value}(hp:TSpanV I p c)(hk:K (.bool (CB p)) I L):CT ω 45 #[.agg c.toArray] K I L:=by
 obtain ⟨v0,v1,rfl,h0,h1⟩:=hp;refine AKR ?_;unfold sh45;have hb:blt p.fFrom p.fTo= !(blt p.fTo p.fFrom||p.fTo==p.fFrom):=by
  rw [Bool.eq_iff_iff];simp only [Bool.not_eq_true',Bool.or_eq_false_iff,beq_eq_false_iff_ne,ne_eq];constructor
  ·intro h;exact ⟨CO h,fun e=>by rw [e,Bx] at h;cases h⟩
  ·rintro ⟨h2,h3⟩;cases h4:blt p.fFrom p.fTo with
   |true=>rfl
   |false=>exact absurd (Ds _ _ h2 h4) h3
 repeat' (first|(with_reducible first|refine AK ?_|refine AX ?_|refine AY ?_|refine keepA ?_|refine AM (fun _=>?_)|refine EG h0 (Ext.refl _) ?_|refine EG h1 (Ext.refl _) ?_|refine rdb ?_)|((with_reducible first|refine st1 ?_ ?_|refine rdB ?_ ?_);rfl)|(with_reducible refine AV ?_)|((with_reducible refine Ae ?_ ?_);rfl)|((with_reducible refine stB ?_ ?_ ?_ ?_);rfl;rfl;exact AE rfl)|((with_reducible first|refine rdP _ rfl ?_ ?_|refine Af _ rfl ?_ ?_);rfl)|((with_reducible refine stP _ rfl ?_ ?_ ?_ ?_);rfl;rfl;rfl)|(with_reducible first|refine AO (sh45.eq_1 ..) ?_|refine And.intro ?_ ?_)|(simp only [SSg,Int.reduceBEq,Int.reduceBNe,Int.reduceLT,Int.reduceLE,beq_self_eq_true,bne_self_eq_false])|(with_reducible first|refine AH (fun _=>?_) (fun _=>?_)|refine AD (fun _=>?_) (fun _=>?_))|(simp only [SSd,Nat.reduceAdd,Bytes.len h0,Bytes.len h1]))
 all_goals (refine Gh.to L (Gh.done (Bz hk ?_));simp only [CB,hb];rw [Bool.eq_iff_iff];simp_all)
 all_goals first|done|(intros;omega)|(intros;exact ⟨by omega,by omega⟩)
set_option maxHeartbeats 4000000 in
theorem PK {c:TCmd}{w0 w1 w2 w3:Value}{b1:Nat}(g0:Bytes I w0 c.fKey)(g1:Bytes I w1 c.fValue)(g2:Bytes I w2 c.fSpan.fFrom)(g3:Bytes I w3 c.fSpan.fTo)(hsq:0≤c.fSeq∧c.fSeq≤9007199254740991)
  {nn:Bool} (hn:nn=(c.fTxn==0&&OK c)) (hk:K (.bool (kindOk c)) I L):
  Br (.bool (c.fKind==1))
   (sh20_2 ω (pt b1) (.bool false) (.bool (Bj c.fTxn)) (.bool (An c.fKey)) (fun v=>Gh (K v)))
   (sh20_3 ω (pt b1) (.bool false) (.bool (Bj c.fTxn)) (.bool (An c.fKey)) (.bool true) (.bool nn) (.int .i64 c.fKind) (fun v=>Gh (K v))) I
   ((b1,Dr c w0 w1 w2 w3)::L):=by
 have hc:TCmdV I c _:=⟨w0,w1,w2,w3,rfl,g0,g1,g2,g3⟩;have h12:c.fKind=1∨c.fKind=2∨c.fKind=3∨c.fKind=4∨c.fKind=5∨c.fKind=6∨c.fKind=7∨c.fKind=8∨c.fKind=9∨c.fKind=10∨c.fKind=11∨(c.fKind < 1∨11 < c.fKind):=by omega
 rcases h12 with hK|hK|hK|hK|hK|hK|hK|hK|hK|hK|hK|hK
 rotate_right
 ·have n1:c.fKind≠1:=by omega
  have n2:c.fKind≠2:=by omega
  have n3:c.fKind≠3:=by omega
  have n4:c.fKind≠4:=by omega
  have n5:c.fKind≠5:=by omega
  have n6:c.fKind≠6:=by omega
  have n7:c.fKind≠7:=by omega
  have n8:c.fKind≠8:=by omega
  have n9:c.fKind≠9:=by omega
  have n10:c.fKind≠10:=by omega
  have n11:c.fKind≠11:=by omega
  have hz:kindOk c=false:=by unfold kindOk;simp [n1,n2,n3,n4,n5,n6,n7,n8,n9,n10,n11]
  have beq:∀n:Int,c.fKind≠n→(c.fKind==n)=false:=fun n h=>by simpa using h
  rw [beq _ n1];repeat' (first|(with_reducible first|refine AK ?_|refine AX ?_|refine AY ?_|refine keepA ?_|refine AM (fun _=>?_)|refine rdb ?_)|((with_reducible first|refine st1 ?_ ?_|refine rdB ?_ ?_);rfl)|(with_reducible refine AV ?_)|((with_reducible refine Ae ?_ ?_);rfl)|((with_reducible refine stB ?_ ?_ ?_ ?_);rfl;rfl;exact AE rfl)|((with_reducible first|refine rdP _ rfl ?_ ?_|refine Af _ rfl ?_ ?_);rfl)|((with_reducible refine stP _ rfl ?_ ?_ ?_ ?_);rfl;rfl;rfl)|(with_reducible first|refine AO (sh20_2.eq_1 ..) ?_|refine AO (sh20_3.eq_1 ..) ?_|refine AO (sh20.eq_1 ..) ?_|refine And.intro ?_ ?_)|(simp only [SSg,Int.reduceBEq,Int.reduceBNe,Int.reduceLT,Int.reduceLE,beq_self_eq_true,bne_self_eq_false])|(with_reducible first|refine AH (fun _=>?_) (fun _=>?_)|refine AD (fun _=>?_) (fun _=>?_))|(simp only [SSd,Nat.reduceAdd,beq _ n1,beq _ n2,beq _ n3,beq _ n4,beq _ n5,beq _ n6,beq _ n7,beq _ n8,beq _ n9,beq _ n10,beq _ n11]))
  all_goals (rw [hz] at hk;exact Gh.to L (Gh.done hk))
 all_goals have beq:∀n:Int,(c.fKind==n)=(_==n):=fun n=>by rw [hK]
 all_goals rw [beq 1]
 all_goals repeat' (first|(with_reducible first|refine AK ?_|refine AX ?_|refine AY ?_|refine keepA ?_|refine AM (fun _=>?_))|((with_reducible refine call ?_);refine (GD ?_))|((with_reducible refine call ?_);with_reducible refine ADI hc ?_)|((with_reducible refine call ?_);with_reducible refine ADH hc ?_)|((with_reducible refine call ?_);with_reducible refine ADG hc ?_)|((with_reducible refine call ?_);with_reducible refine ADF hc ?_)|((with_reducible refine call ?_);with_reducible refine ADE hc ?_)|((with_reducible refine call ?_);with_reducible refine ADD hc ?_)|((with_reducible refine call ?_);with_reducible refine ADC hc ?_)|((with_reducible refine call ?_);with_reducible refine ADB hc ?_)|((with_reducible refine call ?_);with_reducible refine ADA hc ?_)|((with_reducible refine call ?_);with_reducible refine ACz hc ?_)|(with_reducible refine rdb ?_)|((with_reducible first|refine st1 ?_ ?_|refine rdB ?_ ?_);rfl)|(with_reducible refine AV ?_)|((with_reducible refine Ae ?_ ?_);rfl)|((with_reducible refine stB ?_ ?_ ?_ ?_);rfl;rfl;exact AE rfl)|((with_reducible first|refine rdP _ rfl ?_ ?_|refine Af _ rfl ?_ ?_);rfl)|((with_reducible refine stP _ rfl ?_ ?_ ?_ ?_);rfl;rfl;rfl)|(with_reducible first|refine AO (sh20_2.eq_1 ..) ?_|refine AO (sh20_3.eq_1 ..) ?_|refine AO (sh20.eq_1 ..) ?_|refine And.intro ?_ ?_)|(simp only [SSg,Int.reduceBEq,Int.reduceBNe,Int.reduceLT,Int.reduceLE,beq_self_eq_true,bne_self_eq_false])|(with_reducible first|refine AH (fun _=>?_) (fun _=>?_)|refine AD (fun _=>?_) (fun _=>?_))|(simp only [SSd,Nat.reduceAdd,beq,Bytes.len g1]))
 all_goals clear beq
 all_goals (refine Gh.to L (Gh.done (Fs hk ?_));simp_all [kindOk,Cw,EM,CF,BI,EW,OK,Ak])
 all_goals first|done|(intros;omega)|(rw [Bool.eq_iff_iff];simp;omega)
end
section
variable {ω:Om}{I:Imm}{L:LH}{K:Value→M}
set_option maxHeartbeats 4000000 in
theorem Nv {c:TCmd}{w0 w1 w2 w3:Value}{b1:Nat}(g0:Bytes I w0 c.fKey)(g1:Bytes I w1 c.fValue)(g2:Bytes I w2 c.fSpan.fFrom)(g3:Bytes I w3 c.fSpan.fTo)(hsq:¬c.fSeq=0)
  {nn:Bool} (hn:nn=(c.fTxn==0&&OK c)) (hk:K (.bool false) I L):
  Br (.bool (c.fKind==1))
   (sh20_2 ω (pt b1) (.bool false) (.bool (Bj c.fTxn)) (.bool (An c.fKey)) (fun v=>Gh (K v)))
   (sh20_3 ω (pt b1) (.bool false) (.bool (Bj c.fTxn)) (.bool (An c.fKey)) (.bool false) (.bool nn) (.int .i64 c.fKind) (fun v=>Gh (K v))) I
   ((b1,Dr c w0 w1 w2 w3)::L):=by
 have hc:TCmdV I c _:=⟨w0,w1,w2,w3,rfl,g0,g1,g2,g3⟩;have h12:c.fKind=1∨c.fKind=2∨c.fKind=3∨c.fKind=4∨c.fKind=5∨c.fKind=6∨c.fKind=7∨c.fKind=8∨c.fKind=9∨c.fKind=10∨c.fKind=11∨(c.fKind < 1∨11 < c.fKind):=by omega
 rcases h12 with hK|hK|hK|hK|hK|hK|hK|hK|hK|hK|hK|hK
 rotate_right
 ·have n1:c.fKind≠1:=by omega
  have n2:c.fKind≠2:=by omega
  have n3:c.fKind≠3:=by omega
  have n4:c.fKind≠4:=by omega
  have n5:c.fKind≠5:=by omega
  have n6:c.fKind≠6:=by omega
  have n7:c.fKind≠7:=by omega
  have n8:c.fKind≠8:=by omega
  have n9:c.fKind≠9:=by omega
  have n10:c.fKind≠10:=by omega
  have n11:c.fKind≠11:=by omega
  have beq:∀n:Int,c.fKind≠n→(c.fKind==n)=false:=fun n h=>by simpa using h
  rw [beq _ n1];repeat' (first|(with_reducible first|refine AK ?_|refine AX ?_|refine AY ?_|refine keepA ?_|refine AM (fun _=>?_)|refine rdb ?_)|((with_reducible first|refine st1 ?_ ?_|refine rdB ?_ ?_);rfl)|(with_reducible refine AV ?_)|((with_reducible refine Ae ?_ ?_);rfl)|((with_reducible refine stB ?_ ?_ ?_ ?_);rfl;rfl;exact AE rfl)|((with_reducible first|refine rdP _ rfl ?_ ?_|refine Af _ rfl ?_ ?_);rfl)|((with_reducible refine stP _ rfl ?_ ?_ ?_ ?_);rfl;rfl;rfl)|(with_reducible first|refine AO (sh20_2.eq_1 ..) ?_|refine AO (sh20_3.eq_1 ..) ?_|refine AO (sh20.eq_1 ..) ?_|refine And.intro ?_ ?_)|(simp only [SSg,Int.reduceBEq,Int.reduceBNe,Int.reduceLT,Int.reduceLE,beq_self_eq_true,bne_self_eq_false])|(with_reducible first|refine AH (fun _=>?_) (fun _=>?_)|refine AD (fun _=>?_) (fun _=>?_))|(simp only [SSd,Nat.reduceAdd,beq _ n1,beq _ n2,beq _ n3,beq _ n4,beq _ n5,beq _ n6,beq _ n7,beq _ n8,beq _ n9,beq _ n10,beq _ n11]))
  all_goals exact Gh.to L (Gh.done hk)
 all_goals have beq:∀n:Int,(c.fKind==n)=(_==n):=fun n=>by rw [hK]
 all_goals rw [beq 1]
 all_goals repeat' (first|(with_reducible first|refine AK ?_|refine AX ?_|refine AY ?_|refine keepA ?_|refine AM (fun _=>?_))|((with_reducible refine call ?_);refine (GD ?_))|((with_reducible refine call ?_);with_reducible refine ADI hc ?_)|((with_reducible refine call ?_);with_reducible refine ADH hc ?_)|((with_reducible refine call ?_);with_reducible refine ADG hc ?_)|((with_reducible refine call ?_);with_reducible refine ADF hc ?_)|((with_reducible refine call ?_);with_reducible refine ADE hc ?_)|((with_reducible refine call ?_);with_reducible refine ADD hc ?_)|((with_reducible refine call ?_);with_reducible refine ADC hc ?_)|((with_reducible refine call ?_);with_reducible refine ADB hc ?_)|((with_reducible refine call ?_);with_reducible refine ADA hc ?_)|((with_reducible refine call ?_);with_reducible refine ACz hc ?_)|(with_reducible refine rdb ?_)|((with_reducible first|refine st1 ?_ ?_|refine rdB ?_ ?_);rfl)|(with_reducible refine AV ?_)|((with_reducible refine Ae ?_ ?_);rfl)|((with_reducible refine stB ?_ ?_ ?_ ?_);rfl;rfl;exact AE rfl)|((with_reducible first|refine rdP _ rfl ?_ ?_|refine Af _ rfl ?_ ?_);rfl)|((with_reducible refine stP _ rfl ?_ ?_ ?_ ?_);rfl;rfl;rfl)|(with_reducible first|refine AO (sh20_2.eq_1 ..) ?_|refine AO (sh20_3.eq_1 ..) ?_|refine AO (sh20.eq_1 ..) ?_|refine And.intro ?_ ?_)|(simp only [SSg,Int.reduceBEq,Int.reduceBNe,Int.reduceLT,Int.reduceLE,beq_self_eq_true,bne_self_eq_false])|(with_reducible first|refine AH (fun _=>?_) (fun _=>?_)|refine AD (fun _=>?_) (fun _=>?_))|(simp only [SSd,Nat.reduceAdd,beq,Bytes.len g1]))
 all_goals clear beq
 all_goals (refine Gh.to L (Gh.done (Fs hk ?_));simp_all [Cw,EM,CF,BI,EW,OK,Ak])
 all_goals first|done|(intros;omega)|(rw [Bool.eq_iff_iff];simp;omega)
theorem MC {c:TCmd}{cc:List Value}(hc:TCmdV I c cc)(hk:K (.bool (Ba c)) I L):CT ω 20 #[.agg cc.toArray] K I L:=by
 obtain ⟨w0,w1,w2,w3,rfl,g0,g1,g2,g3⟩:=hc;obtain ⟨y0,z0',rfl⟩:=Bytes.form g0;obtain ⟨y1,z1,rfl⟩:=Bytes.form g1;obtain ⟨y2,z2,rfl⟩:=Bytes.form g2;obtain ⟨y3,z3,rfl⟩:=Bytes.form g3;refine AKZ ?_;unfold sh20;refine AM (fun b1=>?_);try simp only [SSd,Nat.reduceAdd]
 refine rdP [.int .i64 c.fAt.fWall,.int .i64 c.fAt.fLogic] rfl rfl ?_;refine call (Bl (x:=c.fAt) ?_);try simp only [SSd,Nat.reduceAdd]
 refine rdP [.int .i64 c.fTo.fWall,.int .i64 c.fTo.fLogic] rfl rfl ?_;refine call (Bl (x:=c.fTo) ?_);try simp only [SSd,Nat.reduceAdd]
 refine rdb ?_;refine call (GD ?_);try simp only [SSd,Nat.reduceAdd]
 refine rdb ?_;refine call (Dz g0 ?_);try simp only [SSd,Nat.reduceAdd]
 refine rdP _ rfl rfl ?_;refine call (Hq (p:=c.fSpan) ⟨_,_,rfl,g2,g3⟩ ?_);try simp only [SSd,Nat.reduceAdd]
 refine rdb ?_;refine call (PS ?_);try simp only [SSd,Nat.reduceAdd]
 refine AH (fun e1=>?_) (fun e1=>?_);rotate_left
 ·exact Gh.to L (Gh.done (Bz hk (by simp_all [Ba])))
 try simp only [SSd,Nat.reduceAdd]
 refine AH (fun e2=>?_) (fun e2=>?_);rotate_left
 ·exact Gh.to L (Gh.done (Bz hk (by simp_all [Ba])))
 try simp only [SSd,Nat.reduceAdd]
 refine AD (fun e3=>?_) (fun e3=>?_)
 ·exact Gh.to L (Gh.done (Bz hk (by simp_all [Ba])))
 have e1':AU c.fAt=true:=by simpa using e1
 have e2':AU c.fTo=true:=by simpa using e2
 have e3':CB c.fSpan=true:=by simpa using e3
 have hz:Ba c=(decide (0≤c.fSeq∧c.fSeq≤9007199254740991)&&kindOk c):=by unfold Ba;rw [e1',e2',e3'];rfl
 rw [hz] at hk;have fin:∀nn:Bool,nn=(c.fTxn==0&&OK c)→Br (.bool (c.fKind==1))
   (sh20_2 ω (pt b1) (.bool false) (.bool (Bj c.fTxn)) (.bool (An c.fKey)) (fun v=>Gh (K v)))
   (sh20_3 ω (pt b1) (.bool false) (.bool (Bj c.fTxn)) (.bool (An c.fKey)) (.bool (decide (0≤c.fSeq∧c.fSeq≤9007199254740991))) (.bool nn) (.int .i64 c.fKind) (fun v=>Gh (K v))) I
   ((b1,Dr c (.slice y0 c.fKey.length z0') (.slice y1 c.fValue.length z1) (.slice y2 c.fSpan.fFrom.length z2) (.slice y3 c.fSpan.fTo.length z3))::L):=by
  intro nn hn;by_cases hs:0≤c.fSeq∧c.fSeq≤9007199254740991
  ·rw [decide_eq_true hs] at hk ⊢;exact PK g0 g1 g2 g3 hs hn hk
  ·rw [decide_eq_false hs] at hk ⊢;exact Nv g0 g1 g2 g3 (by omega) hn hk
 refine rdb ?_;try simp only [SSd,Nat.reduceAdd]
 refine AH (fun e4=>?_) (fun e4=>?_)
 ·try simp only [SSd,Nat.reduceAdd]
  refine rdP [.int .i64 c.fAt.fWall,.int .i64 c.fAt.fLogic] rfl rfl ?_;try simp only [SSd,Nat.reduceAdd]
  refine rdb ?_;try simp only [SSd,Nat.reduceAdd]
  exact fin _ (by unfold OK;rw [e4,Bool.true_and])
 ·try simp only [SSd,Nat.reduceAdd]
  refine rdb ?_;try simp only [SSd,Nat.reduceAdd]
  exact fin _ (by have:(c.fTxn==0)=false:=(by simpa using e4);rw [this,Bool.false_and])
end
theorem AFG {c:TCmd}(h:ADM reachBytes c):Lens c:=by
 have e:reachBytes=140737488351232:=by rfl
 obtain ⟨_,_,_,_,_,_,h1,h2,⟨h3,h4⟩,_⟩:=h;exact ⟨by omega,by omega,by omega,by omega⟩
section
variable {ω:Om}{I:Imm}{L:LH}{K:Value→M}{br:Nat}{V:RV}{m:Mch}{R:LH}
def Fi (m:Mch)(c:TCmd):TRes×Mch:=
 if c.fKind=3 then CP m c else if c.fKind=4 then Dj m c else if c.fKind=5 then EH m c else if c.fKind=6 then FG m c else if c.fKind=7 then DZ m c else if c.fKind=8 then FF m c else if c.fKind=9 then EV m c else QK m c
theorem Hu {r:TRes}(h:plainR r):r=⟨r.fCode,BK,[],r.fAt,r.fBy,r.fState⟩:=by
 obtain ⟨h1,h2⟩:=h;cases r;simp_all
theorem Vq {r:TRes}{m':Mch}{c:TCmd}(h:EH m c=(r,m')):r=⟨r.fCode,BK,[],r.fAt,r.fBy,r.fState⟩:=by
 have:=Lq (m:=m) (c:=c);rw [h] at this;exact Hu this.1
theorem Vf {I':Imm}{vV':Value}{a:TStamp}(hF:RF14 I V m)(hI:Ext I I')(h1:RL TVersionV 5 I' [] vV' (Ad (colS m.sp a).rows))(h2:RL TIntentV 6 I' [] V.vI (intsOf (colS m.sp a).rows)):RF14 I' {V with vV:=vV'} {m with sp:=colS m.sp a,nt:=OW m.sp a m.nt}:=
 {hF.mono hI with vs:=h1,is:=h2}
theorem ME {c:TCmd}{cc:List Value}{N:Nat}(hF:RF14 I V m)(hM:MOk m N)(hN:N≤5000)(hc:TCmdV I c cc)(hk:PostR K br R I (Fi m c)):
  CT ω 53 #[pt br,.agg cc.toArray] K I (rL br V m R):=by
 have hsq:=GA (show N≤10000 by omega);have hvs:=hM.vers;have hrl:=hM.recsL;have hsl:=hM.seenL;have hc':=hc;obtain ⟨w0,w1,w2,w3,rfl,g0,g1,g2,g3⟩:=hc;refine AKJ ?_;unfold AGT;refine AM (fun q1=>AM (fun q2=>?_));try simp only [SSd,Nat.reduceAdd]
 refine rdb ?_;try simp only [SSd,Nat.reduceAdd]
 refine AD (fun e=>?_) (fun e=>?_)
 ·have hE:Fi m c=CP m c:=by unfold Fi;rw [if_pos (by simpa using e)]
  rw [hE] at hk;refine rdB rfl ?_;refine call (Cal.perm (L':=rL br V m (Ag q1 q2 c w0 w1 w2 w3 R)) (AQ (by ((try simp only [AN,AP,Aa,AR]);(try ac_rfl)))) (PL hF hM (by omega) hc' (fun I' V' cells hI hF' hT=>?_)));have h1:=hT.one;obtain ⟨z1,z2,rfl,_,_⟩:=id hT;refine stB rfl rfl h1 ?_;refine rdB rfl ?_;exact Gh.to (rL br V' _ R) (Gh.done (hk I' V' _ hI hF' hT))
 have n3:¬c.fKind=3:=by simpa using e
 try simp only [SSd,Nat.reduceAdd]
 refine AD (fun e=>?_) (fun e=>?_)
 ·have hE:Fi m c=Dj m c:=by unfold Fi;rw [if_neg n3,if_pos (by simpa using e)]
  rw [hE] at hk;refine rdB rfl ?_;refine call (Cal.perm (L':=rL br V m (Ag q1 q2 c w0 w1 w2 w3 R)) (AQ (by ((try simp only [AN,AP,Aa,AR]);(try ac_rfl)))) (Jb hF hM (by omega) hc' (fun I' V' cells hI hF' hT=>?_)));have h1:=hT.one;obtain ⟨z1,z2,rfl,_,_⟩:=id hT;refine stB rfl rfl h1 ?_;refine rdB rfl ?_;exact Gh.to (rL br V' _ R) (Gh.done (hk I' V' _ hI hF' hT))
 have n4:¬c.fKind=4:=by simpa using e
 try simp only [SSd,Nat.reduceAdd]
 refine AD (fun e=>?_) (fun e=>?_)
 ·have hE:Fi m c=EH m c:=by unfold Fi;rw [if_neg n3,if_neg n4,if_pos (by simpa using e)]
  rw [hE] at hk;refine rdB rfl ?_;refine call (Cal.perm (L':=rL br V m (Ag q1 q2 c w0 w1 w2 w3 R)) (AQ (by ((try simp only [AN,AP,Aa,AR]);(try ac_rfl)))) (PU hF hM.recs hM.seen (by omega) (by omega) hc' (fun r m' hx I' V' hI hF'=>?_)));have hp:=Vq hx;rw [hx,hp] at hk;refine stB rfl rfl (AE rfl) ?_;refine rdB rfl ?_;exact Gh.to (rL br V' _ R) (Gh.done (hk.at rfl hI hF'))
 have n5:¬c.fKind=5:=by simpa using e
 try simp only [SSd,Nat.reduceAdd]
 refine AD (fun e=>?_) (fun e=>?_)
 ·have hE:Fi m c=FG m c:=by unfold Fi;rw [if_neg n3,if_neg n4,if_neg n5,if_pos (by simpa using e)]
  rw [hE] at hk;refine rdB rfl ?_;refine call (Cal.perm (L':=rL br V m (Ag q1 q2 c w0 w1 w2 w3 R)) (AQ (by ((try simp only [AN,AP,Aa,AR]);(try ac_rfl)))) (VD hF hM.recs (by omega) hc' (fun r m' hx V' hF'=>?_)));have hp:r=⟨r.fCode,BK,[],r.fAt,r.fBy,r.fState⟩:=by have:=Ld (m:=m) (c:=c);rw [hx] at this;exact Hu this.1
  rw [hx,hp] at hk;refine stB rfl rfl (AE rfl) ?_;refine rdB rfl ?_;exact Gh.to (rL br V' _ R) (Gh.done (hk.at rfl (Ext.refl _) hF'))
 have n6:¬c.fKind=6:=by simpa using e
 try simp only [SSd,Nat.reduceAdd]
 refine AD (fun e=>?_) (fun e=>?_)
 ·have hE:Fi m c=DZ m c:=by unfold Fi;rw [if_neg n3,if_neg n4,if_neg n5,if_neg n6,if_pos (by simpa using e)]
  rw [hE] at hk;refine rdB rfl ?_;refine call (Cal.perm (L':=rL br V m (Ag q1 q2 c w0 w1 w2 w3 R)) (AQ (by ((try simp only [AN,AP,Aa,AR]);(try ac_rfl)))) (RD hF hM.recs (by omega) hc' (fun r m' hx V' hF'=>?_)));have hp:r=⟨r.fCode,BK,[],r.fAt,r.fBy,r.fState⟩:=by have:=JC (m:=m) (c:=c);rw [hx] at this;exact Hu this.1
  rw [hx,hp] at hk;refine stB rfl rfl (AE rfl) ?_;refine rdB rfl ?_;exact Gh.to (rL br V' _ R) (Gh.done (hk.at rfl (Ext.refl _) hF'))
 have n7:¬c.fKind=7:=by simpa using e
 try simp only [SSd,Nat.reduceAdd]
 refine AD (fun e=>?_) (fun e=>?_)
 ·have hE:Fi m c=FF m c:=by unfold Fi;rw [if_neg n3,if_neg n4,if_neg n5,if_neg n6,if_neg n7,if_pos (by simpa using e)]
  rw [hE] at hk;refine rdB rfl ?_;refine call (Cal.perm (L':=rL br V m (Ag q1 q2 c w0 w1 w2 w3 R)) (AQ (by ((try simp only [AN,AP,Aa,AR]);(try ac_rfl)))) (Nw hF hM.recs (by omega) hc' (fun r m' hx V' hF'=>?_)));have hp:r=⟨r.fCode,BK,[],r.fAt,r.fBy,r.fState⟩:=by have:=LV (m:=m) (c:=c);rw [hx] at this;exact Hu this.1
  rw [hx,hp] at hk;refine stB rfl rfl (AE rfl) ?_;refine rdB rfl ?_;exact Gh.to (rL br V' _ R) (Gh.done (hk.at rfl (Ext.refl _) hF'))
 have n8:¬c.fKind=8:=by simpa using e
 try simp only [SSd,Nat.reduceAdd]
 refine AD (fun e=>?_) (fun e=>?_)
 ·have hE:Fi m c=EV m c:=by unfold Fi;rw [if_neg n3,if_neg n4,if_neg n5,if_neg n6,if_neg n7,if_neg n8,if_pos (by simpa using e)]
  rw [hE] at hk;refine rdB rfl ?_;refine call (Cal.perm (L':=rL br V m (Ag q1 q2 c w0 w1 w2 w3 R)) (AQ (by ((try simp only [AN,AP,Aa,AR]);(try ac_rfl)))) (Ja hF hM hN hc' (fun I' V' cells hI hF' hT=>?_)));have h1:=hT.one;obtain ⟨z1,z2,rfl,_,_⟩:=id hT;refine stB rfl rfl h1 ?_;refine rdB rfl ?_;exact Gh.to (rL br V' _ R) (Gh.done (hk I' V' _ hI hF' hT))
 have n9:¬c.fKind=9:=by simpa using e
 have hE:Fi m c=QK m c:=by unfold Fi;rw [if_neg n3,if_neg n4,if_neg n5,if_neg n6,if_neg n7,if_neg n8,if_neg n9]
 rw [hE] at hk;refine AK ?_;try simp only [SSd,Nat.reduceAdd]
 refine AV ?_;try simp only [SSd,Nat.reduceAdd]
 refine Af [.int .i64 c.fAt.fWall,.int .i64 c.fAt.fLogic] rfl rfl ?_;refine call (Cal.pick V.bs (MH (sp:=m.sp) (below:=c.fAt) hF.vs hF.is hM.sp (by omega) (fun I2 vV2 hI2 h2 h2'=>?_)));try simp only [SSd,Nat.reduceAdd]
 refine stB rfl rfl (AE rfl) ?_;refine rdB rfl ?_;exact Gh.to (rL br {V with vV:=vV2} {m with sp:=colS m.sp c.fAt,nt:=OW m.sp c.fAt m.nt} R) (Gh.done (hk.at rfl hI2 (Vf hF hI2 h2 h2')))
end
section
variable {ω:Om}{I:Imm}{L:LH}{K:Value→M}{br:Nat}{V:RV}{m:Mch}{R:LH}
theorem AFR {c:TCmd}(h1:c.fKind≠1)(h2:c.fKind≠2)(h11:c.fKind≠11)(hk:1≤c.fKind∧c.fKind≤11):doM m c=As (Fi m c):=by
 unfold doM Fi;rw [if_neg h1,if_neg h2];have:c.fKind=3∨c.fKind=4∨c.fKind=5∨c.fKind=6∨c.fKind=7∨c.fKind=8∨c.fKind=9∨c.fKind=10:=by omega
 rcases this with h|h|h|h|h|h|h|h <;> simp [h]
theorem RI {q1 q2 q3:Nat}{c:TCmd}{w0 w1 w2 w3 v0:Value}{g:TGot}{e:Int}(hF:RF14 I V m)(hs:SrtA blt m.marks)(hml:m.marks.length≤1000)(g0:Bytes I w0 c.fKey)(hv:Bytes I v0 g.fValue)
  (hk1:e≠0→PostA14 K br R I (As (⟨e,BK,[],z0,g.fBy,0⟩,m))) (hk2:e=0→PostA14 K br R I (As (⟨0,g,[],z0,0,0⟩,CR m c.fKey c.fAt c.fTxn))):
  KV ω (pt br) (pt q1) (pt q2) (.pointer none) (pt q3) (.int .i64 e) (fun v=>Gh (K v)) I ((q3,.cells #[.bool g.fFound,v0,.int .i64 g.fAt.fWall,.int .i64 g.fAt.fLogic,.int .i64 g.fBy] 49 (0,0))::rL br V m (Ag q1 q2 c w0 w1 w2 w3 R)):=by
 unfold KV;try simp only [SSd,Nat.reduceAdd]
 refine AD (fun e1=>?_) (fun e1=>?_)
 ·have hk1:=hk1 (by simpa using e1);try simp only [SSd,Nat.reduceAdd]
  refine rdb ?_;try simp only [SSd,Nat.reduceAdd]
  refine stB rfl rfl (AE rfl) ?_;refine rdB rfl ?_;exact Gh.to (rL br V m R) (Gh.done (hk1.plain (Ext.refl _) hF (Ce ..)))
 ·have hk2:=hk2 (by simpa using e1);obtain ⟨a0,c0,rfl⟩:=Bytes.form hv;try simp only [SSd,Nat.reduceAdd]
  refine rdb ?_;try simp only [SSd,Nat.reduceAdd]
  refine rdP [.int .i64 c.fAt.fWall,.int .i64 c.fAt.fLogic] rfl rfl ?_;try simp only [SSd,Nat.reduceAdd]
  refine rdb ?_;refine call (Cal.perm (L':=rL br V m ((q3,.cells #[.bool g.fFound,.slice a0 g.fValue.length c0,.int .i64 g.fAt.fWall,.int .i64 g.fAt.fLogic,.int .i64 g.fBy] 49 (0,0))::Ag q1 q2 c w0 w1 w2 w3 R)) (AQ (by ((try simp only [AN,AP,Aa,AR]);(try ac_rfl)))) (RF hF hs hml g0 (fun V' hF'=>?_)));refine rdB rfl ?_;try simp only [SSd,Nat.reduceAdd]
  refine stB rfl rfl (AE rfl) ?_;refine rdB rfl ?_;exact Gh.to (rL br V' _ R) (Gh.done (hk2.plain (Ext.refl _) hF' ⟨_,_,rfl,hv,RL.nil _ _⟩))
theorem MJ {c:TCmd}{cc:List Value}{N:Nat}(hF:RF14 I V m)(hM:MOk m N)(hN:N≤5000)(hc:TCmdV I c cc)(hk:PostA14 K br R I (BQ m c)):
  CT ω 16 #[pt br,.agg cc.toArray] K I (rL br V m R):=by
 have hsq:=GA (show N≤10000 by omega);have hrw:=hM.rows;have hvs:=hM.vers;have hml:=hM.marksL;have hc':=hc;obtain ⟨w0,w1,w2,w3,rfl,g0,g1,g2,g3⟩:=hc;refine AKc ?_;unfold AGc;refine AM (fun q1=>AM (fun q2=>?_));refine rdB rfl ?_;refine call (Cal.perm (L':=rL br V m (Ag q1 q2 c w0 w1 w2 w3 R)) (AQ (by ((try simp only [AN,AP,Aa,AR]);(try ac_rfl)))) (MC hc' ?_));try simp only [SSd,Nat.reduceAdd]
 refine AD (fun e=>?_) (fun e=>?_)
 ·have hE:BQ m c=As (Al 140,m):=by unfold BQ As;rw [if_pos (by simpa using e)]
  rw [hE] at hk;try simp only [SSd,Nat.reduceAdd]
  refine stB rfl rfl (AE rfl) ?_;refine rdB rfl ?_;exact Gh.to (rL br V m R) (Gh.done (hk.plain (Ext.refl _) hF (Ce ..)))
 have hr:Ba c=true:=by simpa using e
 have ho:=IY hr;have hkk:kindOk c=true:=by
  simp only [Ba,Bool.and_eq_true] at hr;exact hr.2
 have hA:BQ m c=doM m c:=by unfold BQ;rw [if_neg (by simp [hr])]
 rw [hA] at hk;try simp only [SSd,Nat.reduceAdd]
 refine rdb ?_;try simp only [SSd,Nat.reduceAdd]
 refine AD (fun e1=>?_) (fun e1=>?_)
 ·have k1:c.fKind=1:=by simpa using e1
  have hD:doM m c=As (Ep m c):=by unfold doM;rw [if_pos k1]
  rw [hD] at hk;refine AK ?_;try simp only [SSd,Nat.reduceAdd]
  refine Af [V.vF,V.vT] rfl rfl ?_;try simp only [SSd,Nat.reduceAdd]
  refine AV ?_;refine call (Ei (p:=m.span) ⟨_,_,rfl,hF.f0,hF.f1⟩ g0 ?_);try simp only [SSd,Nat.reduceAdd]
  refine AD (fun e2=>?_) (fun e2=>?_)
  ·have hE:Ep m c=(Al 141,m):=by unfold Ep;rw [if_pos (by simpa using e2)]
   rw [hE] at hk;try simp only [SSd,Nat.reduceAdd]
   refine stB rfl rfl (AE rfl) ?_;refine rdB rfl ?_;exact Gh.to (rL br V m R) (Gh.done (hk.plain (Ext.refl _) hF (Ce ..)))
  have hE:Ep m c=if (CG m.sp c.fKey c.fAt c.fTxn).2≠0 then (⟨(CG m.sp c.fKey c.fAt c.fTxn).2,BK,[],z0,(CG m.sp c.fKey c.fAt c.fTxn).1.fBy,0⟩,m) else (⟨0,(CG m.sp c.fKey c.fAt c.fTxn).1,[],z0,0,0⟩,CR m c.fKey c.fAt c.fTxn):=by
   unfold Ep;rw [if_neg (by simpa using e2)]
  rw [hE] at hk;have fin:∀v0 q3,Bytes I v0 (CG m.sp c.fKey c.fAt c.fTxn).1.fValue→KV ω (pt br) (pt q1) (pt q2) (.pointer none) (pt q3) (.int .i64 (CG m.sp c.fKey c.fAt c.fTxn).2) (fun v=>Gh (K v)) I ((q3,.cells #[.bool (CG m.sp c.fKey c.fAt c.fTxn).1.fFound,v0,.int .i64 (CG m.sp c.fKey c.fAt c.fTxn).1.fAt.fWall,.int .i64 (CG m.sp c.fKey c.fAt c.fTxn).1.fAt.fLogic,.int .i64 (CG m.sp c.fKey c.fAt c.fTxn).1.fBy] 49 (0,0))::rL br V m (Ag q1 q2 c w0 w1 w2 w3 R)):=by
   intro v0 q3 hv;refine RI hF hM.marks (by omega) g0 hv (fun h=>?_) (fun h=>?_)
   ·rw [if_pos h] at hk;exact hk
   ·rw [if_neg (by simpa using h)] at hk;exact hk
  refine AK ?_;try simp only [SSd,Nat.reduceAdd]
  refine AV ?_;try simp only [SSd,Nat.reduceAdd]
  refine AV ?_;try simp only [SSd,Nat.reduceAdd]
  refine Af [.int .i64 c.fAt.fWall,.int .i64 c.fAt.fLogic] rfl rfl ?_;try simp only [SSd,Nat.reduceAdd]
  refine AV ?_;refine ⟨?_,?_⟩
  ·refine call (Mm (sp:=m.sp) (m:=c.fAt) (L0:=rL br V m (Ag q1 q2 c w0 w1 w2 w3 R)) (hF.ref (b:=0) (by simp)) hM.sp g0 (by omega) (by omega) (fun v0 hv=>?_));obtain ⟨a0,c0,rfl⟩:=Bytes.form hv;try simp only [SSd,Nat.reduceAdd]
   refine AM (fun q3=>?_);refine Bv (Ext.refl _) ?_;refine stB rfl rfl (AE rfl) ?_;exact fin _ q3 hv
  ·refine AM (fun q3=>?_);refine Bv (Ext.refl _) ?_;refine call (Mm (sp:=m.sp) (m:=c.fAt) (L0:=rL br V m (Ag q1 q2 c w0 w1 w2 w3 R)) (hF.ref (b:=0) (by simp)) hM.sp g0 (by omega) (by omega) (fun v0 hv=>?_));obtain ⟨a0,c0,rfl⟩:=Bytes.form hv;try simp only [SSd,Nat.reduceAdd]
   refine stB rfl rfl (AE rfl) ?_;exact fin _ q3 hv
 have n1:c.fKind≠1:=by simpa using e1
 try simp only [SSd,Nat.reduceAdd]
 refine AD (fun e2=>?_) (fun e2=>?_)
 ·have k2:c.fKind=2:=by simpa using e2
  have hD:doM m c=As (Dk m c):=by unfold doM;rw [if_neg n1,if_pos k2]
  rw [hD] at hk;try simp only [SSd,Nat.reduceAdd]
  refine rdP [w2,w3] rfl rfl ?_;refine call (HJ (p:=c.fSpan) hF ⟨_,_,rfl,g2,g3⟩ ?_);try simp only [SSd,Nat.reduceAdd]
  refine AD (fun e3=>?_) (fun e3=>?_)
  ·have hE:Dk m c=(Al 141,m):=by unfold Dk;rw [if_pos (by simpa using e3)]
   rw [hE] at hk;try simp only [SSd,Nat.reduceAdd]
   refine stB rfl rfl (AE rfl) ?_;refine rdB rfl ?_;exact Gh.to (rL br V m R) (Gh.done (hk.plain (Ext.refl _) hF (Ce ..)))
  have hE:Dk m c=if (Bk m.sp c.fSpan c.fAt c.fTxn c.fMost).2.2≠0 then (⟨(Bk m.sp c.fSpan c.fAt c.fTxn c.fMost).2.2,BK,[],z0,(Bk m.sp c.fSpan c.fAt c.fTxn c.fMost).2.1,0⟩,m) else
    (⟨0,BK,(Bk m.sp c.fSpan c.fAt c.fTxn c.fMost).1,z0,0,0⟩,{m with low:=Ar m.low c.fAt c.fTxn}):=by
   unfold Dk;rw [if_neg (by simpa using e3)]
  rw [hE] at hk;refine AK ?_;try simp only [SSd,Nat.reduceAdd]
  refine AV ?_;try simp only [SSd,Nat.reduceAdd]
  refine Af [w2,w3] rfl rfl ?_;try simp only [SSd,Nat.reduceAdd]
  refine Af [.int .i64 c.fAt.fWall,.int .i64 c.fAt.fLogic] rfl rfl ?_;try simp only [SSd,Nat.reduceAdd]
  refine AV ?_;try simp only [SSd,Nat.reduceAdd]
  refine AV ?_;refine call (Qz (sp:=m.sp) (p:=c.fSpan) (m:=c.fAt) (L0:=rL br V m (Ag q1 q2 c w0 w1 w2 w3 R)) (hF.ref (b:=0) (by simp)) hM.sp (by omega) (by omega) ⟨_,_,rfl,g2,g3⟩ (fun I2 v hI2 hv=>?_));obtain ⟨av,cv,rfl⟩:=RL.form hv;try simp only [SSd,Nat.reduceAdd]
  refine AD (fun e4=>?_) (fun e4=>?_)
  ·rw [if_pos (by simpa using e4)] at hk;try simp only [SSd,Nat.reduceAdd]
   refine stB rfl rfl (AE rfl) ?_;refine rdB rfl ?_;exact Gh.to (rL br V m R) (Gh.done (hk.plain hI2 (hF.mono hI2) (Ce ..)))
  rw [if_neg (by simpa using e4)] at hk;refine AK ?_;try simp only [SSd,Nat.reduceAdd]
  refine Af (mkC (.slice none 0 0) m.low) rfl rfl ?_;try simp only [SSd,Nat.reduceAdd]
  refine Af [.int .i64 c.fAt.fWall,.int .i64 c.fAt.fLogic] rfl rfl ?_;try simp only [SSd,Nat.reduceAdd]
  refine AV ?_;refine call (Cq (k:=m.low) (a:=c.fAt) (n:=c.fTxn) ?_);try simp only [SSd,Nat.reduceAdd]
  refine stP _ rfl rfl rfl rfl ?_;try simp only [SSd,Nat.reduceAdd]
  refine stB rfl rfl (AE rfl) ?_;refine rdB rfl ?_;exact Gh.to (rL br V {m with low:=Ar m.low c.fAt c.fTxn} R) (Gh.done (hk.plain hI2 {hF.mono hI2 with} ⟨_,_,rfl,SlI.nil I2 1 none 0,hv⟩))
 have n2:c.fKind≠2:=by simpa using e2
 try simp only [SSd,Nat.reduceAdd]
 refine AD (fun e3=>?_) (fun e3=>?_)
 ·have k11:c.fKind=11:=by simpa using e3
  have hD:doM m c=CA m c:=by unfold doM;simp [k11]
  rw [hD] at hk;refine rdB rfl ?_;refine call (MB hF hM (by omega) hc' (fun I' V' cells hI hF' hT=>?_));have h1:=hT.one;obtain ⟨k1,k2⟩:=hk I' V' cells hI hF' hT;obtain ⟨z1,z2,rfl,_,_⟩:=id hT;refine ⟨fun hn=>?_,fun m2 b2 V2 hm hF2=>?_⟩
  ·try simp only [SSd,Nat.reduceAdd]
   refine AM (fun q3=>?_);refine stB rfl rfl h1 ?_;refine rdB rfl ?_;refine stB rfl rfl h1 ?_;refine rdB rfl ?_;exact Gh.to (rL br V' _ R) (Gh.done (k1 hn))
  ·try simp only [SSd,Nat.reduceAdd]
   refine AM (fun q3=>?_);refine stB rfl rfl h1 ?_;refine rdB rfl ?_;refine stB rfl rfl h1 ?_;refine rdB rfl ?_;exact Gh.to (rL br V' _ (rL b2 V2 m2 R)) (Gh.done (k2 m2 b2 V2 hm hF2))
 have n11:c.fKind≠11:=by simpa using e3
 have hD:=AFR (m:=m) n1 n2 n11 ho.kind;rw [hD] at hk;refine rdB rfl ?_;refine call (ME hF hM hN hc' (fun I' V' cells hI hF' hT=>?_));have h1:=hT.one;have k1:=hk.plain hI hF' hT;obtain ⟨z1,z2,rfl,_,_⟩:=id hT;try simp only [SSd,Nat.reduceAdd]
 refine AM (fun q3=>?_);refine stB rfl rfl h1 ?_;refine rdB rfl ?_;refine stB rfl rfl h1 ?_;refine rdB rfl ?_;exact Gh.to (rL br V' _ R) (Gh.done k1)
end
section
variable {ω:Om}{I:Imm}{L:LH}{K:Value→M}
structure AnsOk (r:TRes):Prop where
 rows:∀x∈r.fRows,1≤x.fKey.length∧x.fKey.length≤110∧x.fValue.length≤10000
 code:0≤r.fCode∧r.fCode≤999
 state:0≤r.fState∧r.fState≤3
 by':Jc r.fBy
 gby:Jc r.fGot.fBy
 at':AU r.fAt=true
 gat:AU r.fGot.fAt=true
 val:r.fGot.fValue.length≤10000
 len:r.fRows.length≤90
theorem AFZ {r:TRes}(h:Eu r=true):AnsOk r:=by
 simp only [Eu,Bool.and_eq_true,List.all_eq_true,decide_eq_true_eq] at h;obtain ⟨⟨⟨⟨⟨⟨⟨⟨h1,h2⟩,h3⟩,h4⟩,h5⟩,h6⟩,h7⟩,h8⟩,h9⟩:=h;refine ⟨fun x hx=>?_,h2,h3,maxB_iff.1 h4,maxB_iff.1 h5,h6,h7,h8,h9⟩;have:=h1 x hx;simp only [rowB,An,Bool.and_eq_true,decide_eq_true_eq] at this;omega
end
section
variable {ω:Om}{I:Imm}{L:LH}{K:Value→M}
end
section
variable {ω:Om}{I:Imm}{L:LH}{K:Value→M}
end
section
variable {ω:Om}{I:Imm}{L L0:LH}{K:Value→M}{b r clock:Nat}{es:Array MapEntry}{m:Key→Option Value}{vis:List MapEntry}
theorem UE {k:Key}{e:MapEntry}:∀{l:List MapEntry} {i:Nat},(l.map BM).Nodup→e∈l→BM e=k→(fnd k l i).map (·.2)=some e.val
 |x::l,i,hn,he,hk=>by
  simp only [List.map_cons,List.nodup_cons] at hn;simp only [fnd];rcases List.mem_cons.1 he with rfl|he
  ·rw [if_pos hk];rfl
  ·rw [if_neg (fun e2=>hn.1 (List.mem_map.2 ⟨e,he,by rw [hk,e2]⟩))];exact UE hn.2 he hk
theorem GJ (h:MapS es clock m){e:MapEntry}(he:e∈es.toList):m (BM e)=some e.val:=by
 rw [h.val];exact UE h.nod he rfl
theorem Hw (h:MapS es clock m){k:Key}{v:Value}(hv:m k=some v):∃e∈es.toList,BM e=k∧e.val=v:=by
 rw [h.val] at hv;cases hf:fnd k es.toList 0 with
 |none=>rw [hf] at hv;cases hv
 |some p=>
  obtain ⟨i,u⟩:=p;rw [hf] at hv;obtain ⟨n,e,_,h2,h3,h4⟩:=IA hf;refine ⟨e,List.mem_of_getElem? h2,h3,?_⟩;rw [h4];simpa using hv
theorem Ph (h:MapS es clock m){e:MapEntry}(he:e∈es.toList):e.key=CM (BM e):=by
 obtain ⟨s,hs⟩:=h.str e he;unfold BM CM;rw [hs]
theorem AKw (h:MapS es clock m)(ha:MapAt I L0 r es clock)(hend:(∀e∈es.toList,e.born∈vis.map (·.born))→K (.tuple #[.bool false]) I ((b,Bt r clock vis)::L0))
  (hstep:∀e,e∈es.toList→e.born ∉ vis.map (·.born)→K (.tuple #[.bool true,e.key,e.val]) I ((b,Bt r clock (vis++[e]))::L0)):MQ (.pointer (some ⟨b,0,.none⟩)) K I ((b,Bt r clock vis)::L0):=by
 refine ⟨b,[],L0,rfl,.inr ⟨r,clock,(vis.map (·.born)).toArray,clock,es,clock,rfl,MapAt.skip ha,?_,fun hh=>hend ?_,fun e he hs=>?_⟩⟩
 ·intro hc;simp only [Bool.and_eq_true,Bool.not_eq_true',Array.isEmpty_iff,Array.all_eq_true',decide_eq_true_eq] at hc;cases hl:es.toList with
  |nil=>
   have:es=#[]:=by cases es;simpa using hl
   have h2:=hc.1.2;rw [this] at h2;simp at h2
  |cons e l=>
   have he:e∈es.toList:=by rw [hl];exact List.mem_cons_self ..
   have h1:=h.brn e he;have h2:=hc.2 e (by simpa using he);omega
 ·intro e he;cases hc:(vis.map (·.born)).toArray.contains e.born with
  |false=>have:=hh e (by simpa using he) hc;have:=h.brn e he;omega
  |true=>simpa using hc
 ·have hne:e.born ∉ vis.map (·.born):=by simpa using hs
  have:=hstep e (by simpa using he) hne;simpa [Bt] using this
theorem GN {α:Type}{p q:α→Bool}{a:α}:∀{l:List α},a∈l→p a=true→q a=false→(∀x∈l,q x=true→p x=true)→(l.filter q).length < (l.filter p).length
 |x::l,ha,hp,hq,h=>by
  have hle:(l.filter q).length≤(l.filter p).length:=by
   rw [←List.countP_eq_length_filter,←List.countP_eq_length_filter];exact List.countP_mono_left fun y hy hh=>h y (List.mem_cons_of_mem _ hy) hh
  rcases List.mem_cons.1 ha with rfl|ha
  ·simp only [List.filter_cons,hp,hq,if_true,Bool.false_eq_true,if_false,List.length_cons];omega
  ·have ih:=GN ha hp hq fun y hy hh=>h y (List.mem_cons_of_mem _ hy) hh;have h0:=h x (List.mem_cons_self ..);simp only [List.filter_cons];cases hx:q x with
   |true=>simp only [h0 hx,if_true,List.length_cons];omega
   |false=>cases hy:p x <;> simp only [if_true,Bool.false_eq_true,if_false,List.length_cons] <;> omega
theorem ALD (h:MapS es clock m)(k:Key):∃es',Vb k es clock= .map es' clock∧MapS es' clock (Fv m k none)∧es'.toList.Sublist es.toList∧(∀e∈es'.toList,BM e≠k)∧(∀e∈es.toList,BM e≠k→e∈es'.toList):=by
 obtain ⟨es',h1,h2⟩:=h.del k;have hs:es'.toList.Sublist es.toList:=by
  unfold Vb at h1;cases hf:fnd k es.toList 0 with
  |none=>rw [hf] at h1;simp only [Obj.map.injEq] at h1;rw [h1.1];exact List.Sublist.refl _
  |some p=>
   obtain ⟨i,v⟩:=p;rw [hf] at h1;simp only [Obj.map.injEq] at h1;rw [←h1.1,Array.toList_eraseIdxIfInBounds];exact List.eraseIdx_sublist _ _
 refine ⟨es',h1,h2,hs,fun e he hk=>?_,fun e he hk=>?_⟩
 ·have:=GJ h2 he;unfold Fv at this;rw [if_pos hk] at this;cases this
 ·have h3:Fv m k none (BM e)=some e.val:=by unfold Fv;rw [if_neg hk];exact GJ h he
  obtain ⟨e',he',hk',_⟩:=Hw h2 h3;rw [←EX h.nod (hs.subset he') he hk'];exact he'
theorem Rq {fv:Value}{F:LH}{r c:Nat}{es:Array MapEntry}{l:AL Key TMk}{del:Key×TMk→Bool}(h:MapS es c (Bb mv l))(hs:SrtA blt l)
  (hf:∀(q:Key×TMk) (Y:LH) (K':Value→M),q∈l→K' (.bool (del q)) I (Y++F)→CW ω fv #[CM q.1,mv q.2] K' I (Y++F))
  (hk:∀es',MapS es' c (Bb mv (l.filter fun q=> !del q))→K (.tuple #[]) I ((r,.map es' c)::F)):
  CT ω 164 #[.map (some r),fv] K I ((r,.map es c)::F):=by
 refine AIH ?_;unfold Yh;have hsk:∀e∈es.toList,∃x,lkA l (BM e)=some x∧e.val=mv x:=by
  intro e he;have:=GJ h he;unfold Bb at this;cases hx:lkA l (BM e) with
  |none=>rw [hx] at this;cases this
  |some x=>rw [hx] at this;exact ⟨x,rfl,(Option.some.inj this).symm⟩
 let dl:MapEntry→Bool:=fun e=>match lkA l (BM e) with
  |some x=>del (BM e,x)
  |none=>false
 have hdl:∀e x,lkA l (BM e)=some x→dl e=del (BM e,x):=by intro e x hx;show (match lkA l (BM e) with|some x=>del (BM e,x)|none=>false)=_;rw [hx]
 generalize dl=dl at hdl;refine AAv (.inl (List.mem_cons_self ..)) (fun it=>?_);refine Gh.done ?_;refine loop (fun n s I' L'=>I'=I∧∃(es1:Array MapEntry) (m1:Key→Option Value) (vis:List MapEntry),n=(es1.toList.filter fun e=> !(vis.map (·.born)).contains e.born).length∧MapS es1 c m1∧(∀e∈es1.toList,e∈es.toList)∧(∀e∈es1.toList,e.born∈vis.map (·.born)→dl e=false)∧(∀e∈es.toList,e∈es1.toList∨dl e=true)∧
  L'=(it,Bt r c vis)::(r,.map es1 c)::F) _ ⟨rfl,es,_,[],rfl,h,fun e he=>he,fun e he hv=>(by cases hv),fun e he=>.inl he,rfl⟩ ?_
 rintro n s I' L' ⟨rfl,es1,m1,vis,rfl,h1,hsub,hvis,hall,rfl⟩;unfold TN;refine AKw h1 (.inl (List.mem_cons_self ..)) (fun hv=>Gh.done ?_) (fun e he hne=>Gh.done ?_)
 ·try simp only [SSd,Nat.reduceAdd]
  refine Gh.to ((r,.map es1 c)::F) (Gh.done (hk es1 ?_));have hm:m1=Bb mv (l.filter fun q=> !del q):=by
   funext k
   cases hx:lkA l k with
   |none=>
    have h2:lkA (l.filter fun q=> !del q) k=none:=lkA_none.2 fun q hq=>lkA_none.1 hx q (List.mem_filter.1 hq).1;unfold Bb;rw [h2];cases h3:m1 k with
    |none=>rfl
    |some v=>
     obtain ⟨e,he,hk,_⟩:=Hw h1 h3;obtain ⟨x,hx2,_⟩:=hsk e (hsub e he);rw [hk,hx] at hx2;cases hx2
   |some x=>
    obtain ⟨e,he,hke,hve⟩:=Hw (v:=mv x) h (by unfold Bb;rw [hx];rfl);have hd:=hdl e x (by rw [hke];exact hx);rw [hke] at hd;cases hb:del (k,x) with
    |true=>
     have h2:lkA (l.filter fun q=> !del q) k=none:=lkA_none.2 fun q hq=>by
      intro hqk;obtain ⟨hq1,hq2⟩:=List.mem_filter.1 hq;obtain ⟨q1,q2⟩:=q;simp only at hqk
      subst hqk;have:=FD bltO hs hq1;rw [hx] at this;rw [←Option.some.inj this,hb] at hq2;simp at hq2
     unfold Bb;rw [h2];cases h3:m1 k with
     |none=>rfl
     |some v=>
      obtain ⟨e1,he1,hk1,_⟩:=Hw h1 h3;have h4:=hvis e1 he1 (hv e1 he1);have h5:=hdl e1 x (by rw [hk1];exact hx);rw [hk1,hb,h4] at h5;cases h5
    |false=>
     rw [hb] at hd;rcases hall e he with h2|h2
     ·have h3:=GJ h1 h2;rw [hke,hve] at h3;have h4:lkA (l.filter fun q=> !del q) k=some x:=FD bltO (List.Pairwise.sublist List.filter_sublist hs) (List.mem_filter.2 ⟨Dc hx,by simp [hb]⟩);unfold Bb;rw [h3,h4];rfl
     ·rw [hd] at h2;cases h2
  rw [hm] at h1;exact h1
 ·have he0:=hsub e he;obtain ⟨x,hx,hev⟩:=hsk e he0;have hek:=Ph h1 he;try simp only [SSd,Nat.reduceAdd]
  refine ⟨_,AGy h1 (.inl (List.mem_cons_self ..)) he,?_⟩;rw [hek,hev];try simp only [SSd,Nat.reduceAdd]
  refine AM (fun kb=>?_);refine stB rfl rfl (AE rfl) ?_;refine rdB rfl ?_;have hd:=hdl e x hx;have hvm:∀e2:MapEntry,e2.born∈(vis++[e]).map (·.born)→e2.born∈vis.map (·.born)∨e2.born=e.born:=by
   intro e2 h2;rw [List.map_append,List.mem_append] at h2;rcases h2 with h2|h2
   ·exact .inl h2
   ·right;simpa using h2
  refine CalV.mono (hf (BM e,x) ((kb,.cells #[.int .i64 x.fAt.fWall,.int .i64 x.fAt.fLogic,.int .i64 x.fBy] 159 (0,0))::(it,Bt r c (vis++[e]))::[(r,.map es1 c)]) (fun v I2 L2=>v= .bool (del (BM e,x))∧I2=I'∧L2=(kb,.cells #[.int .i64 x.fAt.fWall,.int .i64 x.fAt.fLogic,.int .i64 x.fBy] 159 (0,0))::(it,Bt r c (vis++[e]))::(r,.map es1 c)::F) (Dc hx) ⟨rfl,rfl,rfl⟩) ?_;rintro v I2 L2 ⟨rfl,rfl,rfl⟩;refine Gh.done ?_;cases hb:del (BM e,x) with
  |true=>
   try simp only [SSd,Nat.reduceAdd]
   obtain ⟨es2,d1,d2,d3,d4,d5⟩:=ALD h1 (BM e);refine AHA h1 d1 (Gh.done ?_);refine Gh.to ((it,Bt r c (vis++[e]))::(r,.map es2 c)::F) (Gh.done ⟨_,?_,rfl,es2,_,vis++[e],rfl,d2,fun e2 h2=>hsub e2 (d3.subset h2),fun e2 h2 hv=>?_,fun e2 h2=>?_,rfl⟩)
   ·refine Nat.lt_of_le_of_lt (d3.filter _).length_le (GN he (by simpa using hne) (by simp) fun e2 h2 hq=>?_);simp at hq ⊢;exact hq.1
   ·rcases hvm e2 hv with h3|h3
    ·exact hvis e2 (d3.subset h2) h3
    ·exact absurd (by rw [EX h1.bnd (d3.subset h2) he h3]) (d4 e2 h2)
   ·rcases hall e2 h2 with h3|h3
    ·by_cases h4:BM e2=BM e
     ·right;rw [EX h.nod h2 he0 h4,hd,hb]
     ·exact .inl (d5 e2 h3 h4)
    ·exact .inr h3
  |false=>
   try simp only [SSd,Nat.reduceAdd]
   refine Gh.to ((it,Bt r c (vis++[e]))::(r,.map es1 c)::F) (Gh.done ⟨_,?_,rfl,es1,_,vis++[e],rfl,h1,hsub,fun e2 h2 hv=>?_,hall,rfl⟩)
   ·refine GN he (by simpa using hne) (by simp) fun e2 h2 hq=>?_;simp at hq ⊢;exact hq.1
   ·rcases hvm e2 hv with h3|h3
    ·exact hvis e2 h2 h3
    ·rw [EX h1.bnd h2 he h3,hd,hb]
end
theorem Vk {P:Program}{ρ:Go.Shelf.Ren}(Lay:Go.Proofs.SlLaysW.n5 P ρ){ω:Om}{I:Imm}{L:LH}{K:Value→M}{b clock:Nat}{es:Array MapEntry}(hin:(b,Obj.map es clock)∈L)
  (hk:∀b',K (.map (some b')) I ((b',.map es clock)::L)):Cal P ω (ρ.f 5) #[.map (some b)] K I L:=by
 intro w hs;refine (Go.Proofs.AnyW.maps_Clone Lay b es clock w (hs.own b _ hin)).mono ?_;rintro e w' ⟨rfl,rfl⟩;exact ⟨_,I,_,rfl,hs.push _,hk _⟩
end Go.Proofs.YtmmfcgbfbcamcaaGreatDoor
namespace Go.SL
open Go.Proofs
theorem St.row {ω:Om}{w w':World}{I:Imm}{F:LH}{b:Nat}{o o':Obj}(h:St ω w I ((b,o)::F))(hk:∀j,j < w.heap.size→j≠b→w'.heap[j]? =w.heap[j]?)(hb:w'.heap[b]? =some o')
  (h1:w'.tape=w.tape) (h2:w'.os=w.os) (h3:w'.output=w.output) (h4:w.drawn≤w'.drawn):St ω w' I ((b,o')::F):=by
 have hnd:=h.nodup;simp only [List.map_cons,List.nodup_cons] at hnd;refine ⟨fun j u hj=>?_,fun j u hj=>?_,by simpa using hnd,fun j u hj=>?_,h1.trans h.tape,h2.trans h.os,h3.trans h.out,Nat.le_trans h.dr h4⟩
 ·rw [hk j (h.ltI hj) (fun e=>by subst e;have:=h.apart j o (List.mem_cons_self ..);rw [this] at hj;cases hj)];exact h.imm j u hj
 ·rcases List.mem_cons.1 hj with e|hj
  ·simp only [Prod.mk.injEq] at e;obtain ⟨rfl,rfl⟩:=e;exact hb
  ·have hj0:=hj;have hj':(j,u)∈(b,o)::F:=List.mem_cons_of_mem _ hj;rw [hk j (h.lt hj') (fun e=>by subst e;exact hnd.1 (List.mem_map.2 ⟨(j,u),hj0,rfl⟩))];exact h.own j u hj'
 ·rcases List.mem_cons.1 hj with e|hj
  ·simp only [Prod.mk.injEq] at e;obtain ⟨rfl,rfl⟩:=e;exact h.apart j o (List.mem_cons_self ..)
  ·exact h.apart j u (List.mem_cons_of_mem _ hj)
section
variable {β:Type}{R:Imm→β→List Value→Prop}{I:Imm}{k:Nat}
end
open Go.Proofs
theorem Um {P:Program}{f:FuncId}{α:Type}[Inhabited α]{enc:α→Value}{le:α→α→Bool}
  (htr:∀a b c,le a b=true→le b c=true→le a c=true) (htot:∀a b,(le a b||le b a)=true)
  (none:∀(p:Option Addr) (cap:Nat) (w:World),Calls P f #[.slice p 0 cap] w fun e w'=>e= .returned (.tuple #[])∧w'=w)
  (sort:∀(blk off cap:Nat) (zs:List α) (w:World),Sort.Holds enc w blk off zs.toArray→blk < w.heap.size→zs.length < 4611686018427387904→
   Calls P f #[.slice (some ⟨blk,off,Option.none⟩) zs.length cap] w fun e w'=>e= .returned (.tuple #[])∧∃n os,w'=Sort.grow (Sort.putRow enc (Sort.ahead w n) blk off (zs.mergeSort le).toArray) os)
  {ω:Om} {I:Imm} {T:Nat} {X F:LH} {v:Value} {zs:List α} (hO:SlO T 1 X v (zs.map enc) zs.length) (hsz:zs.length < 4611686018427387904) {K:Value→M}
  (hk:∀(X':LH) (ys:List α),ys.Perm zs→ys.Pairwise (fun a b=>le a b=true)→SlO T 1 X' v (ys.map enc) ys.length→K (.tuple #[]) I (X'++F)):Cal P ω f #[v] K I (X++F):=by
 intro w hs;have nil:zs.length=0→∀a c,v= .slice a 0 c→Calls P f #[v] w (Ret ω K):=by
  intro h0 a c hv;rw [hv];refine (none a _ w).mono ?_;rintro e w' ⟨rfl,rfl⟩;exact ⟨_,I,X++F,rfl,hs,hk X zs (List.Perm.refl _) (by rw [List.eq_nil_of_length_eq_zero h0];exact List.Pairwise.nil) hO⟩
 obtain ⟨hcl,ho⟩:=hO;rcases ho with ⟨rfl,h0,a,rfl⟩|⟨b,cap,cs,rfl,rfl,hcs,hle,hc⟩
 ·exact nil h0 a 0 rfl
 by_cases h0:zs.length=0
 ·exact nil h0 (some ⟨b,0,Option.none⟩) cap (by rw [h0])
 have hb:w.heap[b]? =some (.cells cs T (0,0)):=hs.own b _ (List.mem_cons_self ..);have hlt:=(Array.getElem?_eq_some_iff.1 hb).1;have hH:Sort.Holds enc w b 0 zs.toArray:=by
  intro j hj;have hj':j < zs.length:=by simpa using hj
  refine ⟨?_,by simp [World.frozen?,hb]⟩;have h3:=hc j (enc zs[j]) (by simp [hj']);simp only [World.cell?,hb,Nat.zero_add,Option.isSome_none,Bool.false_eq_true,if_false];rw [h3,getElem!_pos zs.toArray j hj];simp
 refine (sort b 0 cap zs w hH hlt hsz).mono ?_;rintro e w' ⟨rfl,n,os,rfl⟩;have hperm:=List.mergeSort_perm zs le;have hsrt:=List.pairwise_mergeSort htr htot zs;generalize zs.mergeSort le=ys at *;have hyl:ys.length=zs.length:=hperm.length_eq;have hst:St ω (Sort.grow (Sort.putRow enc (Sort.ahead w n) b 0 ys.toArray) os) I ((b,.cells (Sort.putCells enc 0 ys.toArray cs) T (0,0))::F):=by
  refine St.row (o:=.cells cs T (0,0)) hs (fun j hj hne=>?_) ?_ rfl rfl rfl (Nat.le_add_right _ _)
  ·show ((Sort.mapBlock (Sort.ahead w n) b (Sort.putCells enc 0 ys.toArray)).heap++os)[j]? =_;rw [Array.getElem?_append_left (by simp [Sort.mapBlock,Sort.ahead];exact hj)];simp only [Sort.mapBlock,Sort.ahead,Array.getElem?_modify];rw [if_neg (Ne.symm hne)]
  ·show ((Sort.mapBlock (Sort.ahead w n) b (Sort.putCells enc 0 ys.toArray)).heap++os)[b]? =_;rw [Array.getElem?_append_left (by simp [Sort.mapBlock,Sort.ahead];exact hlt)];simp only [Sort.mapBlock,Sort.ahead,Array.getElem?_modify,if_true,hb,Option.map_some];rfl
 refine ⟨_,I,_,rfl,hst,hk [(b,_)] ys hperm hsrt ⟨by simp,.inr ⟨b,cap,_,rfl,by rw [hyl],by simp [Sort.putCells,hcs],by omega,?_⟩⟩⟩;intro j u hu;have hj:j < ys.length:=by have:=(List.getElem?_eq_some_iff.1 hu).1;simpa using this
 have hlt2:j < cs.size:=by rw [hcs];omega
 simp only [Sort.putCells,Array.getElem?_mapIdx,Array.getElem?_eq_getElem hlt2,Option.map_some,Nat.zero_le,true_and,Nat.zero_add,List.size_toArray,hj,if_true,Nat.sub_zero];rw [getElem!_pos ys.toArray j (by simpa using hj)];simpa [hj] using hu
theorem ABV:∀a b:List UInt8,a < b↔blt a b=true
 |[],[]=>by simp [blt,Op.bytesLess]
 |[],b::bs=>by simp [blt,Op.bytesLess]
 |a::p,[]=>by simp [blt,Op.bytesLess]
 |a::p,b::q=>by
  have ih:=ABV p q;rw [List.cons_lt_cons_iff];show _↔(decide (a < b)||(a==b&&blt p q))=true;simp [ih]
theorem AGq (a b:List UInt8):a≤b↔blt b a=false:=by
 rw [←List.not_lt,ABV];simp
theorem Ul {P:Program}{ρ:Go.Shelf.Ren}(Lay:Go.Proofs.Lays.n190 P ρ){ω:Om}{I:Imm}{T:Nat}{X F:LH}{v:Value}{zs:List (List UInt8)}(hO:SlO T 1 X v (zs.map CM) zs.length)(hsz:zs.length < 4611686018427387904){K:Value→M}
  (hk:∀(X':LH) (ys:List (List UInt8)),ys.Perm zs→ys.Pairwise (fun a b=>blt b a=false)→SlO T 1 X' v (ys.map CM) ys.length→K (.tuple #[]) I (X'++F)):Cal P ω (ρ.f 190) #[v] K I (X++F):=
 Um (enc:=CM) (le:=fun x y:List UInt8=>decide (x≤y)) (fun a b c h1 h2=>by simp only [decide_eq_true_eq] at *; exact List.le_trans h1 h2) (fun a b=>by simp only [Bool.or_eq_true,decide_eq_true_eq];exact List.le_total a b) (fun p cap w=>Go.Proofs.Any.slices_Sort_string_none Lay p cap w) (fun blk off cap zs w h1 h2 h3=>Go.Proofs.Any.slices_Sort_string Lay blk off cap zs w h1 h2 h3) hO hsz
  (fun X' ys h1 h2 h3=>hk X' ys h1 (h2.imp fun h=>by simpa [AGq] using h) h3)
end Go.SL
namespace Go.Proofs
open Go.Shelf
def Tryz.lay163_ren:Go.Shelf.Ren:=⟨fun|5=>163|7=>225|n=>n,fun|23=>161|25=>3|3=>209|4=>4|20=>20|n=>n,fun|n=>n⟩
theorem Tryz.lay163:Go.Proofs.SlLaysW.n5 Tryz.prog Tryz.lay163_ren:={
 mixed:=by kernel_rfl
 f5:=⟨Tryz.f163.name,by decide,Tryz.func163.trans (congrArg some (by kernel_rfl))⟩
 f7:=Tryz.func225.trans (congrArg some (by kernel_rfl))
 t4:=Tryz.underlying4
 a4:=Tryz.isAgg4
 z4:=Tryz.sizeOf4
 v4:=Tryz.zeroValue4
 t20:=Tryz.underlying20
 a20:=Tryz.isAgg20
 z20:=Tryz.sizeOf20
 v20:=Tryz.zeroValue20
 t23:=Tryz.underlying161
 a23:=Tryz.isAgg161
 z23:=Tryz.sizeOf161
 v23:=Tryz.zeroValue161}
def Tryz.lay180_ren:Go.Shelf.Ren:=⟨fun|190=>180|125=>138|258=>231|128=>202|129=>203|302=>248|303=>249|304=>250|305=>251|306=>252|307=>253|308=>210|309=>254|310=>255|333=>270|329=>238|330=>239|334=>271|335=>272|336=>244|344=>279|n=>n,fun|31=>177|9=>9|3=>3|46=>219|0=>0|51=>275|53=>196|4=>4|183=>269|182=>268|131=>221|5=>5|218=>310|222=>314|228=>332|229=>333|n=>n,fun|n=>n⟩
theorem Tryz.lay180:Go.Proofs.Lays.n190 Tryz.prog Tryz.lay180_ren:={
 mixed:=by kernel_rfl
 f125:=Tryz.func138.trans (congrArg some (by kernel_rfl))
 f128:=Tryz.func202.trans (congrArg some (by kernel_rfl))
 f129:=Tryz.func203.trans (congrArg some (by kernel_rfl))
 f190:=Tryz.func180.trans (congrArg some (by kernel_rfl))
 f258:=Tryz.func231.trans (congrArg some (by kernel_rfl))
 f302:=Tryz.func248.trans (congrArg some (by kernel_rfl))
 f303:=Tryz.func249.trans (congrArg some (by kernel_rfl))
 f304:=Tryz.func250.trans (congrArg some (by kernel_rfl))
 f305:=Tryz.func251.trans (congrArg some (by kernel_rfl))
 f306:=Tryz.func252.trans (congrArg some (by kernel_rfl))
 f307:=Tryz.func253.trans (congrArg some (by kernel_rfl))
 f308:=Tryz.func210.trans (congrArg some (by kernel_rfl))
 f309:=Tryz.func254.trans (congrArg some (by kernel_rfl))
 f310:=Tryz.func255.trans (congrArg some (by kernel_rfl))
 f329:=Tryz.func238.trans (congrArg some (by kernel_rfl))
 f330:=Tryz.func239.trans (congrArg some (by kernel_rfl))
 f333:=Tryz.func270.trans (congrArg some (by kernel_rfl))
 f334:=Tryz.func271.trans (congrArg some (by kernel_rfl))
 f335:=Tryz.func272.trans (congrArg some (by kernel_rfl))
 f336:=Tryz.func244.trans (congrArg some (by kernel_rfl))
 f344:=Tryz.func279.trans (congrArg some (by kernel_rfl))
 t0:=Tryz.underlying0
 a0:=Tryz.isAgg0
 z0:=Tryz.sizeOf0
 v0:=Tryz.zeroValue0
 t3:=Tryz.underlying3
 a3:=Tryz.isAgg3
 z3:=Tryz.sizeOf3
 v3:=Tryz.zeroValue3
 t4:=Tryz.underlying4
 a4:=Tryz.isAgg4
 z4:=Tryz.sizeOf4
 v4:=Tryz.zeroValue4
 t5:=Tryz.underlying5
 a5:=Tryz.isAgg5
 z5:=Tryz.sizeOf5
 v5:=Tryz.zeroValue5
 t9:=Tryz.underlying9
 a9:=Tryz.isAgg9
 z9:=Tryz.sizeOf9
 v9:=Tryz.zeroValue9
 t31:=Tryz.underlying177
 a31:=Tryz.isAgg177
 z31:=Tryz.sizeOf177
 v31:=Tryz.zeroValue177
 t46:=Tryz.underlying219
 a46:=Tryz.isAgg219
 z46:=Tryz.sizeOf219
 v46:=Tryz.zeroValue219
 t51:=Tryz.underlying275
 a51:=Tryz.isAgg275
 z51:=Tryz.sizeOf275
 v51:=Tryz.zeroValue275
 t53:=Tryz.underlying196
 a53:=Tryz.isAgg196
 z53:=Tryz.sizeOf196
 v53:=Tryz.zeroValue196
 t131:=Tryz.underlying221
 a131:=Tryz.isAgg221
 z131:=Tryz.sizeOf221
 v131:=Tryz.zeroValue221
 t182:=Tryz.underlying268
 a182:=Tryz.isAgg268
 z182:=Tryz.sizeOf268
 v182:=Tryz.zeroValue268
 t183:=Tryz.underlying269
 a183:=Tryz.isAgg269
 z183:=Tryz.sizeOf269
 v183:=Tryz.zeroValue269
 t218:=Tryz.underlying310
 a218:=Tryz.isAgg310
 z218:=Tryz.sizeOf310
 v218:=Tryz.zeroValue310
 t222:=Tryz.underlying314
 a222:=Tryz.isAgg314
 z222:=Tryz.sizeOf314
 v222:=Tryz.zeroValue314
 t228:=Tryz.underlying332
 a228:=Tryz.isAgg332
 z228:=Tryz.sizeOf332
 v228:=Tryz.zeroValue332
 t229:=Tryz.underlying333
 a229:=Tryz.isAgg333
 z229:=Tryz.sizeOf333
 v229:=Tryz.zeroValue333}
end Go.Proofs
namespace Go.Proofs.YtmmfcgbfbcamcaaGreatDoor
open Go.SL
theorem AJM:UN:=fun ω I K T X F v zs hO hl hk=>Ul Go.Proofs.Tryz.lay180 hO (by omega) hk
theorem Lh {ω:Om}{I:Imm}{L:LH}{K:Value→M}{b clock:Nat}{es:Array MapEntry}(hin:(b,Obj.map es clock)∈L)
  (hk:∀b',K (.map (some b')) I ((b',.map es clock)::L)):CT ω 163 #[.map (some b)] K I L:=Vk Go.Proofs.Tryz.lay163 hin hk
section
variable {ω:Om}{I:Imm}{L:LH}{K:Value→M}
theorem NoteR.head {b m ch:Nat}{kv:Value}{fl:TStamp}{X:LH}{nt:Nts}(h:NoteR I b m ch kv fl X nt):Cells I X b 0 [.map (some m),kv,.int .i64 fl.fWall,.int .i64 fl.fLogic]:=by
 obtain ⟨NX,hp,_⟩:=h;exact Cb (l:=[.map (some m),kv,.int .i64 fl.fWall,.int .i64 fl.fLogic,.map (some ch)]) (T:=179) (fr:=(0,0)) (hp.mem_iff.2 (List.mem_cons_self ..)) 4
theorem OI {b m ch:Nat}{kv:Value}{fl:TStamp}{X F:LH}{nt:Nts}{k:List UInt8}{v:TVer}(hN:NoteR I b m ch kv fl X nt)(hr:AU v.fAt=true)(hl:k.length≤1000000000)(hvl:v.fValue.length≤1000000000)
  (hk:∀X' I',Ext I I'→NoteR I' b m ch kv fl X' (Di nt (Lx k v) (false,CU v))→K (.tuple #[]) I' (X'++F)):
  CT ω 189 #[pt b,BW k,vv v] K I (X++F):=by
 refine ACD ?_;unfold Sq;refine AM (fun q=>?_);refine AK ?_;refine Ae rfl ?_;refine CI (IP hr hl (fun X1 u I1 hI1 hX=>?_));refine OB.freeze hX (fun I2 hI2 hB=>Gh.done ?_);refine JM (hI1.trans hI2) (fun x hx=>hx) ?_;refine Ae rfl ?_;refine CI (GY hvl (fun X3 u3 hX3=>?_));refine OB.freeze hX3 (fun I3 hI3 hB3=>Gh.done ?_);refine call (Cal.to (X++F) ?_);refine Mz (hN.mono (hI1.trans (hI2.trans hI3))) (hB.mono hI3) hB3 (fun X' h'=>?_);exact Gh.done (hk X' I3 (hI1.trans (hI2.trans hI3)) h')
theorem RQ {b m ch:Nat}{kv:Value}{fl:TStamp}{X F:LH}{nt:Nts}(hN:NoteR I b m ch kv fl X nt)(hr:AU fl=true)
  (hk:∀X' I',Ext I I'→NoteR I' b m ch kv fl X' (Di nt [102] (false,stF fl))→K (.tuple #[]) I' (X'++F)):
  CT ω 131 #[pt b] K I (X++F):=by
 have hh:=hN.head;refine ACH ?_;unfold TV;try simp only [SSd,Nat.reduceAdd]
 refine rdN (vs:=[.int .i64 fl.fWall,.int .i64 fl.fLogic]) rfl (fun j u hu=>?_) ?_
 ·match j,hu with
  |0,hu=>exact (hh 2 u (by simpa using hu)).mono (Ext.refl _) (fun x hx=>List.mem_append_left _ hx)
  |1,hu=>exact (hh 3 u (by simpa using hu)).mono (Ext.refl _) (fun x hx=>List.mem_append_left _ hx)
 refine CI (EE (x:=fl) hr (fun X1 u hX=>?_));refine OB.freeze hX (fun I2 hI2 hB=>Gh.done ?_);try simp only [SSd,Nat.reduceAdd]
 refine by1 (c:=102) (fun X1 u1 h1=>OB.freeze h1 (fun I3 hI3 hB3=>Gh.done ?_));refine call (Mz (hN.mono (hI2.trans hI3)) hB3 (hB.mono hI3) (fun X' h'=>?_));exact Gh.done (hk X' I3 (hI2.trans hI3) h')
theorem PZ {b m ch p clock:Nat}{kv:Value}{es:Array MapEntry}{mm:Key→Option Value}{fl:TStamp}{X F:LH}{nt:Nts}{k:List UInt8}{r:Row}(hN:NoteR I b m ch kv fl X nt)(hA:MapAt I F m es clock)(hM:MapS es clock mm)(hpk:mm k=some (pt p))(hCV:CellV I F p r)
  (ht:0≤r.it.txn∧r.it.txn < 9223372036854775808) (hri:r.it.txn≠0→AU r.it.ver.fAt=true) (hl:k.length≤1000000000) (hvl:r.it.ver.fValue.length≤1000000000)
  (hk:∀X' I',Ext I I'→NoteR I' b m ch kv fl X' (Di nt (105::k) (FE r.it))→K (.tuple #[]) I' (X'++F)):
  CT ω 190 #[pt b,BW k] K I (X++F):=by
 have hh:=hN.head;obtain ⟨sl,hC,hVs⟩:=hCV.mono (Ext.refl I) (show ∀x∈F,x∈X++F from fun x hx=>List.mem_append_right _ hx);obtain ⟨c0,c1,c14,c3,c4,c5,_⟩:=itC hC;refine ACC ?_;unfold So;refine by1 (c:=105) (fun X1 u1 h1=>Gh.done ?_);refine Fk (y:=k) h1 (.inr (.inr ⟨_,rfl,rfl,by simp [ByteArray.size],by simp [u8s]⟩)) (by simp;omega) (fun X2 u2 h2=>?_);refine OB.freeze h2 (fun I2 hI2 hB2=>Gh.done ?_);try simp only [SSd,Nat.reduceAdd]
 refine rdC (L0:=X++F) ((hh 0 _ rfl).mono (Ext.refl _) (fun x hx=>List.mem_append_left _ hx)) hI2 ?_;refine ⟨_,FS (MapAt.mono hA hI2 (fun x hx=>by simp [hx])) hM,?_⟩;simp only [hpk,lkV];simp only [Bool.false_eq_true,if_false,SSd,Nat.reduceAdd];refine rdC c5 hI2 ?_;try simp only [SSd,Nat.reduceAdd]
 refine AD (fun e=>?_) (fun e=>?_)
 ·simp at e;refine call (Cal.to (X++F) ?_);refine Mz (hN.mono hI2) hB2 (show Bytes I2 _ [] from SlI.nil I2 1 none 0) (fun X' h'=>?_);refine Gh.done (hk X' I2 hI2 ?_);unfold FE;rw [if_pos e];exact h'
 ·simp at e;refine FO c1 hI2 rfl ?_;have hs9:(stF r.it.ver.fAt).length=9:=rfl;have hv9:=Qk (n:=r.it.txn.toNat) (by omega);refine CI (EE (hri e) (fun X3 u3 h3=>Gh.done ?_));try simp only [SSd,Nat.reduceAdd]
  refine rdC c5 hI2 ?_;try simp only [SSd,Nat.reduceAdd]
  rw [wrap_u64 _ ht.1 (by omega),show r.it.txn=((r.it.txn.toNat:Nat):Int) by omega];refine call (JE (by omega) (fun u4 I4 hI4 hB4=>?_));refine Fk (y:=Hc r.it.txn.toNat) h3 (SlI.news hB4) (by omega) (fun X5 u5 h5=>Gh.done ?_);refine FO c14 (hI2.trans hI4) rfl ?_;refine call (GY hvl (fun X6 u6 h6=>?_));have hvt:(CU r.it.ver).length≤1000000001:=by unfold CU;split <;> simp;omega
  refine Fk (X6:=X5) (y:=CU r.it.ver) h5 (h6.news (fun x hx=>by simp [hx])) (by rw [List.length_append];omega) (fun X7 u7 h7=>?_);refine OB.freeze h7 (fun I7 hI7 hB7=>Gh.done ?_);refine call (Cal.to (X++F) ?_);refine Mz (hN.mono (hI2.trans (hI4.trans hI7))) (hB2.mono (hI4.trans hI7)) hB7 (fun X' h'=>?_);refine Gh.done (hk X' I7 (hI2.trans (hI4.trans hI7)) ?_);unfold FE;rw [if_neg e];exact h'
theorem Ud {g:Bool}{k:List UInt8}{l:List TVer}{i:Nat}(hi:i < l.length)(nt:Nts):Ue g k (l.take (i+1)) nt=Di (Ue g k (l.take i) nt) (Lx k l[i]) (AJL g l[i]):=by
 unfold Ue;rw [take_snoc hi,List.foldl_append];rfl
theorem Pa {b m ch p clock:Nat}{kv:Value}{es:Array MapEntry}{mm:Key→Option Value}{fl:TStamp}{X F:LH}{nt:Nts}{r:Row}{g:Bool}(hN:NoteR I b m ch kv fl X nt)(hA:g=false→MapAt I F m es clock∧MapS es clock mm∧mm r.key=some (pt p))(hCV:CellV I F p r)
  (hr:RowOk r) (hvs:r.vs.length≤1000000000)
  (hk:∀X' I',Ext I I'→NoteR I' b m ch kv fl X' (Pb g r nt)→K (.tuple #[]) I' (X'++F)):
  CT ω 132 #[pt b,BW r.key,pt p,.bool g] K I (X++F):=by
 obtain ⟨sl,hC,hVs⟩:=hCV;obtain ⟨c0,c1,c14,c3,c4,c5,_⟩:=itC hC;have hkl:=hr.keyL;refine AIa ?_;unfold ZG;try simp only [SSd,Nat.reduceAdd]
 refine rdC c0 (Ext.refl _) ?_;simp only [RL.len hVs,SSd,Nat.reduceAdd];refine loop (fun n s I' L'=>∃(i:Nat) (X':LH),n+i=r.vs.length∧s=(.int .i64 i,())∧Ext I I'∧NoteR I' b m ch kv fl X' (Ue g r.key (r.vs.take i) nt)∧L'=X'++F) r.vs.length ⟨0,X,rfl,rfl,Ext.refl _,hN,rfl⟩ ?_;rintro n s I' L' ⟨i,X',hn,rfl,hI,hN',rfl⟩;unfold TU;try simp only [SSd,Nat.reduceAdd]
 refine AD (fun e=>?_) (fun e=>?_)
 ·have hi:i < r.vs.length:=by simpa using e
  obtain ⟨bx,off,c,hix,hcl,hc,hcc⟩:=RL.ix hVs (i:=(i:Int)) (by omega) (by omega);have hget:EY r.vs (i:Int)=r.vs[i]:=Ab hi;rw [hget] at hc;have hce:c=_:=hc;have hv:=hr.vs r.vs[i] (List.getElem_mem hi);have hvlen:r.vs[i].fValue.length≤1000000000:=by have:=hv.len;omega
  have hnext:=Ud (g:=g) (k:=r.key) hi nt;simp only [hix,SSd,Nat.reduceAdd];refine rdN hcl (hcc I' (X'++F) hI (fun x hx=>List.mem_append_right _ hx)) ?_;subst hce;refine AM (fun q=>?_);refine stB rfl rfl (AE rfl) ?_;cases g with
  |true=>
   try simp only [SSd,Nat.reduceAdd]
   refine rdB rfl ?_;refine call (Cal.to (X'++F) (My (v:=r.vs[i]) hN' hv.right (by omega) (fun X2 I2 hI2 hN2=>?_)));unfold Jx;try simp only [SSd,Nat.reduceAdd]
   rw [wrap_i64 _ (by omega)];exact (Gh.done ⟨n - 1,by omega,i+1,X2,by omega,rfl,hI.trans hI2,by rw [hnext];exact hN2,rfl⟩)
  |false=>
   try simp only [SSd,Nat.reduceAdd]
   refine rdB rfl ?_;refine call (Cal.to (X'++F) (OI (v:=r.vs[i]) hN' hv.right (by omega) hvlen (fun X2 I2 hI2 hN2=>?_)));unfold Jx;try simp only [SSd,Nat.reduceAdd]
   rw [wrap_i64 _ (by omega)];exact (Gh.done ⟨n - 1,by omega,i+1,X2,by omega,rfl,hI.trans hI2,by rw [hnext];exact hN2,rfl⟩)
 ·have hi:i=r.vs.length:=by
   have:¬i < r.vs.length:=by simpa using e
   omega
  rw [hi,List.take_length] at hN';unfold TT;try simp only [SSd,Nat.reduceAdd]
  refine rdC c5 hI ?_;try simp only [SSd,Nat.reduceAdd]
  refine AD (fun e2=>?_) (fun e2=>?_)
  ·simp at e2;refine Gh.done (hk X' I' hI ?_);unfold Pb;rw [if_pos e2];exact hN'
  ·simp at e2;cases g with
   |true=>
    try simp only [SSd,Nat.reduceAdd]
    refine by1 (c:=105) (fun X1 u1 h1=>Gh.done ?_);refine Fk (y:=r.key) h1 (.inr (.inr ⟨_,rfl,rfl,by simp [ByteArray.size],by simp [u8s]⟩)) (by simp;omega) (fun X2 u2 h2=>?_);refine OB.freeze h2 (fun I2 hI2 hB2=>Gh.done ?_);refine call (Cal.to (X'++F) (Mz (hN'.mono hI2) hB2 (show Bytes I2 _ [] from SlI.nil I2 1 none 0) (fun X3 h3=>?_)));refine (Gh.done (hk X3 I2 (hI.trans hI2) ?_));unfold Pb;rw [if_neg e2];exact h3
   |false=>
    obtain ⟨hA1,hA2,hA3⟩:=hA rfl;have hit:r.it.txn≠0→AU r.it.ver.fAt=true∧r.it.ver.fValue.length≤10000:=fun h0=>by
     rcases hr.it with h|⟨_,h⟩
     ·rw [h] at h0;exact absurd rfl h0
     ·exact ⟨h.right,h.len⟩
    have hvl:r.it.ver.fValue.length≤1000000000:=by have:=(hit e2).2;omega
    have htx:=hr.txn;try simp only [SSd,Nat.reduceAdd]
    refine call (PZ hN' (MapAt.mono hA1 hI (fun x hx=>hx)) hA2 hA3 (CellV.mono ⟨sl,hC,hVs⟩ hI (fun x hx=>hx)) (by omega) (fun h0=>(hit h0).1) (by omega) hvl (fun X2 I2 hI2 hN2=>?_));refine (Gh.done (hk X2 I2 (hI.trans hI2) ?_));unfold Pb;rw [if_neg e2];exact hN2
end
theorem ABW {k:List UInt8}{rows:List Row}{i:Nat}(h1:∀x∈(keysOf rows).take i,blt x k=true)(h2:∀x∈(keysOf rows).drop i,blt x k=false):ON k rows=rows.take i∧CN k rows=rows.drop i:=by
 have g1:∀r∈rows.take i,blt r.key k=true:=fun r hr=>h1 _ (by unfold keysOf;rw [←List.map_take];exact List.mem_map_of_mem hr);have g2:∀r∈rows.drop i,blt r.key k=false:=fun r hr=>h2 _ (by unfold keysOf;rw [←List.map_drop];exact List.mem_map_of_mem hr);unfold ON CN;constructor
 ·conv=>lhs;rw [←List.take_append_drop i rows]
  rw [List.filter_append,List.filter_eq_self.2 g1,List.filter_eq_nil_iff.2 (fun r hr=>by simp [g2 r hr]),List.append_nil]
 ·conv=>lhs;rw [←List.take_append_drop i rows]
  rw [List.filter_append,List.filter_eq_nil_iff.2 (fun r hr=>by simp [g1 r hr]),List.filter_eq_self.2 (fun r hr=>by simp [g2 r hr]),List.nil_append]
theorem RowsR.nil {X:LH}{ps:List Nat}(h:RowsR X ps []):X=[]∧ps=[]:=by
 cases ps with
 |nil=>exact ⟨h,rfl⟩
 |cons p ps=>exact absurd h (by simp [RowsR])
theorem NU {L Y:LH}{p:Nat}{sl:Value}{r:Row}(hp:(p,Aw sl r.it)∈L)(hv:VsO Y sl r.vs)(hY:∀x∈Y,x∈L){I:Imm}:CellV I L p r:=⟨sl,Cb hp 6,hv.rl hY⟩
section
variable {ω:Om}{I:Imm}{L:LH}{K:Value→M}
theorem Qq {b:Nat}{v1:Value}{k:List UInt8}{X F:LH}{sp:Sp}{nt:Nts}(hS:SpR I b X sp nt)(hok:SpOk sp)(hlen:sp.rows.length≤100000000)(hvs:∀r∈sp.rows,r.vs.length≤1000000000)(hB:Bytes I v1 k)
  (hno:An k=false→K (.tuple #[.pointer none,.int .i64 1]) I (X++F))
  (hk:∀I' bt X' Xt,An k=true→Ext I I'→SpR I' b X' (Gu k sp) (CE true (CN k sp.rows) nt)→SpR I' bt Xt (Fw k sp) (CE false (CN k sp.rows) (DB sp.floor))→K (.tuple #[pt bt,.int .i64 0]) I' (X'++(Xt++F))):
  CT ω 88 #[pt b,v1] K I (X++F):=by
 obtain ⟨rows,fl⟩:=sp;refine AJu ?_;unfold AGI;refine call (Cm hB ?_);try simp only [SSd,Nat.reduceAdd]
 cases hko:An k with
 |false=>
  simp only [Bool.not_false,SSd,Nat.reduceAdd];exact Gh.done (hno hko)
 |true=>
 simp only [Bool.not_true,SSd,Nat.reduceAdd];refine CI (Pe (fun bt X0 hS0=>?_));obtain ⟨ps,m,ch,kv,es,clock,KX,RX,NX,hp,hF⟩:=hS;obtain ⟨ps0,mt,cht,kvt,est,clockt,KX0,RX0,NX0,hp0,hF0⟩:=hS0;obtain ⟨rfl,rfl⟩:=RowsR.nil hF0.rows;have hmap0:MapS est clockt (BA [] []):=hF0.map;have hfl0:sp0.floor=z0:=rfl;rw [hfl0] at hp0;simp only at hp hlen hvs ⊢
 refine Gh.perm (L':=(b,spO m kv fl ch)::(bt,spO mt kvt z0 cht)::((m,.map es clock)::(mt,.map est clockt)::(NX++(NX0++(KX++(KX0++(RX++F))))))) (AQ (by simp only [AP,AN,BH hp,BH hp0];((try simp only [AN,AP,Aa,AR]);(try ac_rfl)))) (Gh.done ?_);try simp only [SSd,Nat.reduceAdd]
 refine rdP [.int .i64 fl.fWall,.int .i64 fl.fLogic] rfl rfl ?_;refine stP [.map (some mt),kvt,.int .i64 fl.fWall,.int .i64 fl.fLogic,.map (some cht)] rfl rfl rfl rfl ?_;refine rdP [.int .i64 fl.fWall,.int .i64 fl.fLogic] rfl rfl ?_;have hs:=hok.rise;have hkl:(keysOf rows).length=rows.length:=by simp [keysOf]
 have main:∀I1 NX1 cht1,Ext I I1→NtR I1 cht1 NX1 (DB fl)→
   Nc ω (pt b) v1 (.pointer none) (.int .i64 0) (pt bt) (fun v=>Gh (K v)) I1 ((b,spO m kv fl ch)::(bt,spO mt kvt fl cht1)::((m,.map es clock)::(mt,.map est clockt)::(NX++(NX1++(KX++(KX0++(RX++F))))))):=by
  intro I1 NX1 cht1 hI1 hN1;unfold Nc;refine AK ?_;try simp only [SSd,Nat.reduceAdd]
  refine AV ?_;refine BS hB hI1 ?_;refine call (EZ (StrO.rl hF.keys (fun x hx=>by simp [hx])) (by simp only;omega) hs (fun i hi hlo hhi=>?_));obtain ⟨eA,eD⟩:=ABW hlo hhi;simp only [hkl] at hi;try simp only [SSd,Nat.reduceAdd]
  refine rdb ?_;obtain ⟨va,hsl,hV1⟩:=RL.part (StrO.rl (I:=I1) (L:=(b,spO m kv fl ch)::(bt,spO mt kvt fl cht1)::((m,.map es clock)::(mt,.map est clockt)::(NX++(NX1++(KX++(KX0++(RX++F))))))) hF.keys (fun x hx=>by simp [hx])) (lo:=i) (hi:=(keysOf rows).length) (by omega) (Nat.le_refl _) (some (.int .i64 i)) none (BG _ _ _ _ (by omega)) (fun _ _=>rfl);have eR:((keysOf rows).drop i).take ((keysOf rows).length - i)=keysOf (CN k rows):=by
   rw [eD,List.take_of_length_le (by simp)];unfold keysOf;rw [List.map_drop]
  rw [eR] at hV1;have hDl:(keysOf (CN k rows)).length≤100000000:=by rw [eD];simp [keysOf];omega
  have hAl:(keysOf (ON k rows)).length≤100000000:=by rw [eA];simp [keysOf];omega
  simp only [hsl,SSd,Nat.reduceAdd];refine CI (HS hV1 (by omega) (fun XR kvR hKR=>?_));obtain ⟨aR,cR,rfl⟩:=hKR.form;refine Gh.perm (L':=(b,spO m kv fl ch)::(bt,spO mt kvt fl cht1)::((m,.map es clock)::(mt,.map est clockt)::(NX++(NX1++(KX++(KX0++(RX++(XR++F)))))))) (AQ (by ((try simp only [AN,AP,Aa,AR]);(try ac_rfl)))) (Gh.done ?_);try simp only [SSd,Nat.reduceAdd]
  refine st1 rfl ?_;refine rdb ?_;obtain ⟨va2,hsl2,hV2⟩:=RL.part (StrO.rl (I:=I1) (L:=(b,spO m kv fl ch)::(bt,spO mt (.slice aR (keysOf (CN k rows)).length cR) fl cht1)::((m,.map es clock)::(mt,.map est clockt)::(NX++(NX1++(KX++(KX0++(RX++(XR++F)))))))) hF.keys (fun x hx=>by simp [hx])) (lo:=0) (hi:=i) (by omega) (by simp only [hkl];exact hi) none (some (.int .i64 i)) rfl (fun cap hcap=>BG _ _ _ _ (by simp only [hkl] at hcap;omega));have eL:((keysOf rows).drop 0).take (i - 0)=keysOf (ON k rows):=by
   rw [eA];simp [keysOf,List.map_take]
  rw [eL] at hV2;simp only [hsl2,SSd,Nat.reduceAdd];refine CI (HS hV2 (by omega) (fun XL kvL hKL=>?_));obtain ⟨aL,cL,rfl⟩:=hKL.form;refine Gh.perm (L':=(m,.map es clock)::(mt,.map est clockt)::(b,spO m kv fl ch)::(NX++((bt,spO mt (.slice aR (keysOf (CN k rows)).length cR) fl cht1)::(NX1++(XL++(XR++(RX++([]++(KX++(KX0++F)))))))))) (AQ (by ((try simp only [AN,AP,Aa,AR]);(try ac_rfl)))) (Gh.done ?_);try simp only [SSd,Nat.reduceAdd]
  refine st1 rfl ?_;refine rdb ?_;try simp only [SSd,Nat.reduceAdd]
  have hrows:rows=ON k rows++CN k rows:=LI hs;generalize eA2:ON k rows=A at *;generalize eD2:CN k rows=D at *;clear hsl hsl2 hV1 hV2 hlo hhi eR eL va va2 eA eD;subst hrows;obtain ⟨P,Q,rfl,hPl,hQl⟩:=Mf hF.rows.len;have hkD:(keysOf D).length=D.length:=by simp [keysOf]
  have hDl2:D.length≤100000000:=by omega
  refine loop (fun n s I' L'=>∃(j:Nat) (Xs Xt RXs RXt:LH) (es' est':Array MapEntry) (clock' clockt' ch' cht':Nat),n+j=D.length∧s=(.int .i64 j,())∧Ext I I'∧NoteR I' b m ch' (.slice aL (keysOf A).length cL) fl Xs (CE true (D.take j) nt)∧NoteR I' bt mt cht' (.slice aR (keysOf D).length cR) fl Xt (CE false (D.take j) (DB fl))∧
   MapS es' clock' (BA (P++Q.drop j) (A++D.drop j))∧MapS est' clockt' (BA (Q.take j) (D.take j))∧RowsR RXs (P++Q.drop j) (A++D.drop j)∧RowsR RXt (Q.take j) (D.take j)∧L'=(m,.map es' clock')::(mt,.map est' clockt')::(Xs++(Xt++(XL++(XR++(RXs++(RXt++(KX++(KX0++F))))))))) D.length
   ⟨0,(b,spO m (.slice aL (keysOf A).length cL) fl ch)::NX,(bt,spO mt (.slice aR (keysOf D).length cR) fl cht1)::NX1,RX,[],es,est,clock,clockt,ch,cht1,rfl,rfl,hI1,⟨NX,List.Perm.refl _,hF.nts.mono hI1⟩,⟨NX1,List.Perm.refl _,hN1⟩,hF.map,hmap0,hF.rows,rfl,rfl⟩ ?_
  rintro n s I' L' ⟨j,Xs,Xt,RXs,RXt,es',est',clock',clockt',ch',cht',hn,rfl,hI,hNs,hNt,hMs,hMt,hRs,hRt,rfl⟩;unfold WD;try simp only [SSd,Nat.reduceAdd]
  refine AD (fun e=>?_) (fun e=>?_)
  ·have hj:j < D.length:=by simp only [hkD] at e;simpa using e
   have hjQ:j < Q.length:=by omega
   have eD:D.drop j=D[j]::D.drop (j+1):=List.drop_eq_getElem_cons hj;have eQ:Q.drop j=Q[j]::Q.drop (j+1):=List.drop_eq_getElem_cons hjQ;obtain ⟨bx,off,c,hix,hcl,hc,hcc⟩:=RL.ix (StrO.rl (I:=I') (L:=(m,.map es' clock')::(mt,.map est' clockt')::(Xs++(Xt++(XL++(XR++(RXs++(RXt++(KX++(KX0++F))))))))) hKR (fun x hx=>by simp [hx])) (i:=(j:Int)) (by omega) (by omega);have hce:c=[BW D[j].key]:=by
    have h1:c=[BW (EY (keysOf D) (j:Int))]:=by simpa [StrV] using hc
    rw [h1,Ab (by omega)];simp [keysOf]
   subst hce;have hmid:Mid (A++D.take j) D[j].key (D.drop (j+1)):=by
    refine SrtK.mid ?_;have e2:(A++D.take j)++D[j]::D.drop (j+1)=A++D:=by rw [List.append_assoc,←GB hj]
    rw [e2];exact hs
   have hrm:D[j]∈A++D:=List.mem_append_right _ (List.getElem_mem hj);have hrok:=hok.rows _ hrm;have hrvs:=hvs _ hrm;have hl1:(Q.take j).length=(D.take j).length:=by simp;omega
   have eD1:D.take (j+1)=D.take j++[D[j]]:=take_snoc hj;have eQ1:Q.take (j+1)=Q.take j++[Q[j]]:=take_snoc hjQ;rw [eD,eQ] at hMs hRs;generalize er:D[j]=r at *;generalize eD2':D.drop (j+1)=D2 at *;generalize ep:Q[j]=p at *;generalize eQ2':Q.drop (j+1)=Q2 at *;generalize eD1':D.take j=D1 at *;generalize eQ1':Q.take j=Q1 at *;have hmA:Mid A r.key D2:=⟨fun x hx=>hmid.lt x (List.mem_append_left _ hx),hmid.gt⟩;have hm1:Mid D1 r.key []:=⟨fun x hx=>hmid.lt x (List.mem_append_right _ hx),fun x hx=>by cases hx⟩;simp only [hix,SSd,Nat.reduceAdd];refine rd1 (hcc I' _ (Ext.refl _) (fun x h=>h) 0 _ rfl) ?_;try simp only [SSd,Nat.reduceAdd]
   refine rdC (L0:=Xs) (hNs.head 0 _ rfl) (Ext.refl _) ?_;refine lkm hMs ?_;simp only [DR hPl hmA rfl,lkV,Bool.false_eq_true,if_false];refine rdC (L0:=Xs) (hNs.head 0 _ rfl) (Ext.refl _) ?_;obtain ⟨es2,he2,hMs2⟩:=hMs.del r.key;rw [←Lk hPl hmA rfl] at hMs2;refine AHA hMs he2 (Gh.done ?_);try simp only [SSd,Nat.reduceAdd]
   refine rdC (L0:=Xt) (hNt.head 0 _ rfl) (Ext.refl _) ?_;obtain ⟨est2,ct2,he3,hMt2⟩:=hMt.put r.key (pt p);have eM:BA (Q1++[p]) (D1++[r])=Fv (BA Q1 D1) r.key (some (pt p)):=by
    have:=Es (P:=Q1) (Q:=[]) (A:=D1) (B:=[]) (p:=p) (r:=r) hl1 hm1 rfl;simpa using this
   rw [←eM] at hMt2;refine AEw hMt he3 ?_;obtain ⟨sl,Y,Z,hq,hv,hRs2⟩:=RowsR.pick hPl hRs;refine Gh.perm (L':=Xs++((m,.map es2 clock')::(mt,.map est2 ct2)::(p,Aw sl r.it)::(Y++(Z++(Xt++(XL++(XR++(RXt++(KX++(KX0++F)))))))))) (AQ (by simp only [AP,AN,BH hq];((try simp only [AN,AP,Aa,AR]);(try ac_rfl)))) (Gh.done ?_);refine CI (Pa (g:=true) (es:=#[]) (clock:=0) (mm:=fun _=>none) hNs (fun h=>by cases h) (NU (sl:=sl) (Y:=Y) (by simp) hv (fun x hx=>by simp [hx])) hrok hrvs (fun Xs2 I2 hI2 hNs2=>?_));refine Gh.perm (L':=Xt++((m,.map es2 clock')::(mt,.map est2 ct2)::(p,Aw sl r.it)::(Y++(Z++(Xs2++(XL++(XR++(RXt++(KX++(KX0++F)))))))))) (AQ (by ((try simp only [AN,AP,Aa,AR]);(try ac_rfl)))) (Gh.done ?_);refine CI (Pa (g:=false) (m:=mt) (hNt.mono hI2) (fun _=>⟨.inl (by simp),hMt2,DR (Q:=[]) (B:=[]) hl1 hm1 rfl⟩) (NU (sl:=sl) (Y:=Y) (by simp) hv (fun x hx=>by simp [hx])) hrok hrvs (fun Xt2 I3 hI3 hNt2=>?_));refine Gh.perm (L':=(m,.map es2 clock')::(mt,.map est2 ct2)::(Xs2++(Xt2++(XL++(XR++(Z++(((p,Aw sl r.it)::(Y++RXt))++(KX++(KX0++F))))))))) (AQ (by ((try simp only [AN,AP,Aa,AR]);(try ac_rfl)))) (Gh.done ?_);try simp only [SSd,Nat.reduceAdd]
   rw [wrap_i64 _ (by omega)];have hNt2':NoteR I3 bt mt cht' (.slice aR (keysOf D).length cR) fl Xt2 (CE false (D1++[r]) (DB fl)):=by
    unfold CE at hNt2 ⊢;rw [List.foldl_append];exact hNt2
   have hNs2':NoteR I3 b m ch' (.slice aL (keysOf A).length cL) fl Xs2 (CE true (D1++[r]) nt):=by
    have:=hNs2.mono hI3;unfold CE at this ⊢;rw [List.foldl_append];exact this
   refine Gh.done ⟨n - 1,by omega,j+1,Xs2,Xt2,Z,(p,Aw sl r.it)::(Y++RXt),es2,est2,clock',ct2,ch',cht',by omega,rfl,hI.trans (hI2.trans hI3),?_,?_,?_,?_,?_,?_,rfl⟩
   ·rw [eD1];exact hNs2'
   ·rw [eD1];exact hNt2'
   ·rw [eQ2',eD2'];exact hMs2
   ·rw [eQ1,eD1];exact hMt2
   ·rw [eQ2',eD2'];exact hRs2
   ·rw [eQ1,eD1];exact RowsR.put (Q:=[]) (B:=[]) hl1 (List.Perm.refl _) hv (by simpa using hRt)
  ·have hj:j=D.length:=by
    have:¬j < D.length:=by simp only [hkD] at e;simpa using e
    omega
   rw [hj,List.take_length] at hNs hNt hMt hRt;rw [hj,List.drop_length,List.append_nil] at hMs hRs;have eQ0:Q.drop D.length=[]:=by rw [←hQl];exact List.drop_length
   have eQ1:Q.take D.length=Q:=by rw [←hQl];exact List.take_length
   rw [eQ0,List.append_nil] at hMs hRs;rw [eQ1] at hMt hRt;obtain ⟨NXs,hqs,hNs⟩:=hNs;obtain ⟨NXt,hqt,hNt⟩:=hNt;refine Gh.perm (L':=((b,spO m (.slice aL (keysOf A).length cL) fl ch')::(m,.map es' clock')::(XL++(RXs++NXs)))++(((bt,spO mt (.slice aR (keysOf D).length cR) fl cht')::(mt,.map est' clockt')::(XR++(RXt++NXt)))++(KX++(KX0++F)))) (AQ (by simp only [AP,AN,BH hqs,BH hqt];((try simp only [AN,AP,Aa,AR]);(try ac_rfl)))) ?_;refine Gh.to (((b,spO m (.slice aL (keysOf A).length cL) fl ch')::(m,.map es' clock')::(XL++(RXs++NXs)))++(((bt,spO mt (.slice aR (keysOf D).length cR) fl cht')::(mt,.map est' clockt')::(XR++(RXt++NXt)))++F)) ?_;refine Gh.done (hk I' bt _ _ hko hI ?_ ?_)
   ·exact ⟨P,m,ch',_,es',clock',XL,RXs,NXs,List.Perm.refl _,by rw [show (Gu k ⟨A++D,fl⟩)=⟨A,fl⟩ from by unfold Gu;simp only [eA2]];exact ⟨hMs,hKL,hRs,hNs⟩⟩
   ·exact ⟨Q,mt,cht',_,est',clockt',XR,RXt,NXt,List.Perm.refl _,by rw [show (Fw k ⟨A++D,fl⟩)=⟨D,fl⟩ from by unfold Fw;simp only [eD2]];exact ⟨hMt,hKR,hRt,hNt⟩⟩
 obtain ⟨fw,fg⟩:=fl;simp only [Jg,SSd,Nat.reduceAdd];refine AD (fun e=>?_) (fun e=>?_)
 ·have hne:(⟨fw,fg⟩:TStamp)≠z0:=fun h=>by
   simp only [TStamp.mk.injEq] at h;simp [h.1,h.2] at e
  have hfn:DB ⟨fw,fg⟩=Di nt0 [102] (false,stF ⟨fw,fg⟩):=by unfold DB;rw [if_neg hne]
  refine CI (Cal.perm (L':=((bt,spO mt kvt ⟨fw,fg⟩ cht)::NX0)++((b,spO m kv ⟨fw,fg⟩ ch)::(m,.map es clock)::(mt,.map est clockt)::(NX++(KX++(KX0++(RX++F)))))) (AQ (by ((try simp only [AN,AP,Aa,AR]);(try ac_rfl)))) (RQ (m:=mt) ⟨NX0,List.Perm.refl _,hF0.nts⟩ hok.floor (fun X' I' hI' hN'=>?_)));obtain ⟨NX1,hq1,hNt1⟩:=hN';refine Gh.perm (L':=(b,spO m kv ⟨fw,fg⟩ ch)::(bt,spO mt kvt ⟨fw,fg⟩ cht)::((m,.map es clock)::(mt,.map est clockt)::(NX++(NX1++(KX++(KX0++(RX++F))))))) (AQ (by simp only [AP,AN,BH hq1];((try simp only [AN,AP,Aa,AR]);(try ac_rfl)))) (Gh.done ?_);exact main I' NX1 cht hI' (by rw [hfn];exact hNt1)
 ·have he:(⟨fw,fg⟩:TStamp)=z0:=by
   have:fw=0∧fg=0:=by simpa using e
   rw [this.1,this.2]
  have hfn:DB ⟨fw,fg⟩=nt0:=by unfold DB;rw [if_pos he]
  exact main I NX0 cht (Ext.refl _) (by rw [hfn];exact hF0.nts)
end
theorem Pj {κ β:Type}[DecidableEq κ]{p:κ→Bool}:∀(l:AL κ β) (k:κ),lkA (l.filter fun q=>p q.1) k=if p k=true then lkA l k else none
 |[],k=>by simp [Gm]
 |q::l,k=>by
  have ih:=Pj (p:=p) l k;rw [List.filter_cons];by_cases e:q.1=k
  ·subst e;cases hp:p q.1 with
   |true=>simp only [if_true,Bc]
   |false=>
    simp only [Bool.false_eq_true,if_false];rw [ih,hp];rfl
  ·cases hp:p q.1 with
   |true=>simp only [if_true,Bc,e,if_false,ih]
   |false=>simp only [Bool.false_eq_true,if_false,ih,Bc,e]
section
variable {ω:Om}{I:Imm}{L:LH}{K:Value→M}{b s N:Nat}{V:MV}{m:Mch}{SX F:LH}{c:TCmd}{cc:List Value}
theorem Ot (hM:MOk m N)(hN:N≤5000)(hF:MF I V m)(hSp:SpR I s SX m.sp m.nt)(hc:TCmdV I c cc)(hky:An c.fKey=true)(hk:PostA K b F I (CA m c)):
  CT ω 104 #[pt b,.agg cc.toArray] K I (mL b s V m (SX++F)):=by
 have h1:=hM.vers;have h2:=GA (show N≤10000 by omega);have h3:=hM.rows;have hvs:∀r∈m.sp.rows,r.vs.length≤1000000000:=FV (by omega);obtain ⟨w0,w1,w2,w3,rfl,g0,g1,g2,g3⟩:=hc;have hkl:c.fKey.length≤140737488355328:=by simp only [An,Bool.and_eq_true,decide_eq_true_eq] at hky;omega
 have hto:m.span.fTo.length≤140737488355328:=by have:=hM.span;simp only [CB,Bool.and_eq_true,decide_eq_true_eq] at this;omega
 obtain ⟨aK,cK,rfl⟩:=Bytes.form g0;obtain ⟨aT,cT,hT⟩:=Bytes.form hF.f1;refine AIu ?_;unfold sh104;refine AM (fun b1=>AM (fun b2=>?_));repeat' (first|(with_reducible first|refine AK ?_|refine AX ?_|refine AY ?_|refine keepA ?_|refine AM (fun _=>?_))|((with_reducible refine call ?_);refine (EA (p:=m.span) ⟨_,_,rfl,hF.f0,hF.f1⟩ g0 ?_))|((with_reducible refine call ?_);refine (Au ?_))|((with_reducible refine call ?_);refine (Rl g0 hF.f0 ?_))|((with_reducible refine call ?_);refine (Cal.split SX (Qq hSp hM.sp (by omega) hvs g0 (fun h=>by rw [hky] at h;cases h) (fun I1 bt X1 Xt _ hI1 hS1 hSt=>?_))))|((with_reducible refine call ?_);refine (NE (p:=⟨c.fKey,m.span.fTo⟩) (pc:=[.slice aK c.fKey.length cK,.slice aT m.span.fTo.length cT]) (Fw c.fKey m.sp) (CE false (CN c.fKey m.sp.rows) (DB m.sp.floor)) ⟨_,_,rfl,g0.mono hI1,by rw [←hT];exact hF.f1.mono hI1⟩ hkl hto (fun bm Vm I2 hI2 hF2=>?_)))|((with_reducible refine call ?_);refine (Lh (es:=V.e3) (clock:=V.c3) (by simp) (fun nb=>?_)))|(with_reducible refine rdb ?_)|((with_reducible first|refine st1 ?_ ?_|refine rdB ?_ ?_);rfl)|(with_reducible refine AV ?_)|((with_reducible refine Ae ?_ ?_);rfl)|((with_reducible refine stB ?_ ?_ ?_ ?_);rfl;rfl;exact AE rfl)|((with_reducible first|refine rdP _ rfl ?_ ?_|refine Af _ rfl ?_ ?_);rfl)|((with_reducible refine stP _ rfl ?_ ?_ ?_ ?_);rfl;rfl;rfl)|(with_reducible first|refine AO (sh104_1.eq_1 ..) ?_|refine AO (sh104_2.eq_1 ..) ?_|refine AO (sh104_4.eq_1 ..) ?_|refine AO (sh104_7.eq_1 ..) ?_|refine AO (sh104_3.eq_1 ..) ?_|refine AO (sh104.eq_1 ..) ?_|refine And.intro ?_ ?_)|(simp only [SSg,Int.reduceBEq,Int.reduceBNe,Int.reduceLT,Int.reduceLE,beq_self_eq_true,bne_self_eq_false])|(with_reducible first|refine AH (fun _=>?_) (fun _=>?_)|refine AD (fun _=>?_) (fun _=>?_))|(simp only [SSd,Nat.reduceAdd,hT]))
 ·have e:CA m c=As (Al 141,m):=by unfold CA As;rw [if_pos (by first|(simp_all;done)|(simp_all;omega)|omega)]
  rw [e] at hk;exact Gh.to (mL b s V m (SX++F)) (Gh.done (hk.plain (Ext.refl _) ⟨s,V,SX,List.Perm.refl _,hF,hSp⟩ (Ce ..)))
 ·refine AAv (es:=V.e1) (clock:=V.c1) (.inl (by simp)) (fun it=>Gh.done ?_);refine loop (fun n s' I' L'=>I'=I2∧∃(vis:List MapEntry) (e:Array MapEntry) (c':Nat) (lst:AL Key TMk),It V.e1 vis∧n+vis.length=V.e1.toList.length∧MapS e c' (Bb mv lst)∧SrtA blt lst∧(∀k,lkA lst k=if k∈vis.map BM∧blt k c.fKey=false then lkA m.marks k else none)∧
   L'=(it,Bt V.km V.c1 vis)::(nb,.map V.e3 V.c3)::(bm,AGm Vm.v0 Vm.v1 bt Vm.km m.low Vm.rc nb m.oldest Vm.kv)::(Vm.km,.map e c')::(Vm.rc,.map Vm.e2 Vm.c2)::(Vm.sn,.map Vm.e3 Vm.c3)::(X1++(Xt++(b2,EU)::
    (b1,.cells #[.int .i64 c.fKind,.int .i64 c.fTxn,.int .i64 c.fSeq,.int .i64 c.fAt.fWall,.int .i64 c.fAt.fLogic,.int .i64 c.fTo.fWall,.int .i64 c.fTo.fLogic,.int .i64 c.fBy,.bool c.fYes,.bool c.fDel,.slice aK c.fKey.length cK,w1,w2,w3,.int .i64 c.fMost] 56 (0,0))::
    (b,AGm V.v0 (.slice aT m.span.fTo.length cT) s V.km m.low V.rc V.sn m.oldest V.kv)::(V.km,.map V.e1 V.c1)::(V.rc,.map V.e2 V.c2)::(V.sn,.map V.e3 V.c3)::F))) V.e1.toList.length ⟨rfl,[],Vm.e1,Vm.c1,[],It.none _,rfl,hF2.mks,List.Pairwise.nil,fun k=>by simp [Gm],rfl⟩ ?_
  rintro n s' I' L' ⟨rfl,vis,e,c',lst,hi,hn,hM1,hS1',hlk,rfl⟩;unfold sh104_3;refine AJV hF.mks (.inl (by simp)) hi (fun hp=>Gh.done ?_) (fun x hx hi'=>Gh.done ?_)
  ·try simp only [SSd,Nat.reduceAdd]
   have hfin:lst=m.marks.filter fun q=> !blt q.1 c.fKey:=by
    refine SrtA.ext bltO hS1' (List.Pairwise.sublist List.filter_sublist hM.marks) (fun k=>?_);rw [hlk k,Pj (p:=fun k=> !blt k c.fKey)];cases hb:blt k c.fKey with
    |true=>simp
    |false=>
     by_cases hkv:k∈vis.map BM
     ·simp [hkv]
     ·rw [if_neg (fun h=>hkv h.1)];cases hq:lkA m.marks k with
      |none=>simp
      |some y=>
       obtain ⟨e0,he0,hke,_⟩:=Hw (v:=mv y) hF.mks (by unfold Bb;rw [hq];rfl);exact absurd (List.mem_map.2 ⟨e0,hp.mem_iff.2 he0,hke⟩) hkv
   subst hfin;unfold sh104_7;try simp only [SSd,Nat.reduceAdd]
   refine rdb ?_;refine call (Cal.pick V.km (Rq (l:=m.marks) (del:=fun q=> !blt q.1 c.fKey) hF.mks hM.marks (fun q Y K' hq hK'=>?_) (fun es' hM3=>?_)))
   ·refine QN (by kernel_rfl) ?_;refine show Cal _ _ _ #[CM q.1,mv q.2,pt b1] _ _ _ from AIG ?_
    simp only [CM];unfold sh165;repeat' (first|(with_reducible first|refine AK ?_|refine AX ?_|refine AY ?_|refine keepA ?_|refine AM (fun _=>?_)|refine EG (g0.mono (hI1.trans hI2)) (Ext.refl _) ?_|refine rdb ?_)|((with_reducible first|refine st1 ?_ ?_|refine rdB ?_ ?_);rfl)|(with_reducible refine AV ?_)|((with_reducible refine Ae ?_ ?_);rfl)|((with_reducible refine stB ?_ ?_ ?_ ?_);rfl;rfl;exact AE rfl)|((with_reducible first|refine rdP _ rfl ?_ ?_|refine Af _ rfl ?_ ?_);rfl)|((with_reducible refine stP _ rfl ?_ ?_ ?_ ?_);rfl;rfl;rfl)|(with_reducible first|refine AO (sh165.eq_1 ..) ?_|refine And.intro ?_ ?_)|(simp only [SSg,Int.reduceBEq,Int.reduceBNe,Int.reduceLT,Int.reduceLE,beq_self_eq_true,bne_self_eq_false])|(with_reducible first|refine AH (fun _=>?_) (fun _=>?_)|refine AD (fun _=>?_) (fun _=>?_))|(simp only [SSd,Nat.reduceAdd]))
    exact Gh.to (Y++_) (Gh.done hK')
   ·have hM3':MapS es' V.c1 (Bb mv (m.marks.filter fun q=>blt q.1 c.fKey)):=by simpa only [Bool.not_not] using hM3
    try simp only [SSd,Nat.reduceAdd]
    refine rdb ?_;refine call (EF (g0.mono (hI1.trans hI2)) hkl (fun a9 c9 I9 hI9 hB9=>?_));have t9:=hI1.trans (hI2.trans hI9);try simp only [SSd,Nat.reduceAdd]
    refine st1 rfl ?_;try simp only [SSd,Nat.reduceAdd]
    refine stB rfl rfl (AE rfl) ?_;refine rdB rfl ?_;have e9:CA m c=(okR,{m with span:=⟨m.span.fFrom,c.fKey⟩,sp:=Gu c.fKey m.sp,nt:=CE true (CN c.fKey m.sp.rows) m.nt,marks:=m.marks.filter fun q=>blt q.1 c.fKey},
      some ⟨⟨c.fKey,m.span.fTo⟩,Fw c.fKey m.sp,CE false (CN c.fKey m.sp.rows) (DB m.sp.floor),m.marks.filter fun q=> !blt q.1 c.fKey,m.low,[],m.seen,m.oldest,[]⟩):=by
     unfold CA;rw [if_neg (by rintro (h|h) <;> simp_all)]
    rw [e9] at hk;have hFa:MF I9 {V with v1:=.slice a9 c.fKey.length c9,e1:=es'} {m with span:=⟨m.span.fFrom,c.fKey⟩,sp:=Gu c.fKey m.sp,nt:=CE true (CN c.fKey m.sp.rows) m.nt,marks:=m.marks.filter fun q=>blt q.1 c.fKey}:=
     {hF.mono t9 with f1:=hB9,mks:=hM3'}
    have hFb:MF I9 {Vm with e1:=e,c1:=c',sn:=nb,e3:=V.e3,c3:=V.c3} ⟨⟨c.fKey,m.span.fTo⟩,Fw c.fKey m.sp,CE false (CN c.fKey m.sp.rows) (DB m.sp.floor),m.marks.filter fun q=> !blt q.1 c.fKey,m.low,[],m.seen,m.oldest,[]⟩:=
     ⟨hF2.f0.mono hI9,hF2.f1.mono hI9,hM1,hF2.rcs,hF.sns,hF2.kpt.mono hI9⟩
    have h9:=(hk I9 (mL b s {V with v1:=.slice a9 c.fKey.length c9,e1:=es'} {m with span:=⟨m.span.fFrom,c.fKey⟩,sp:=Gu c.fKey m.sp,nt:=CE true (CN c.fKey m.sp.rows) m.nt,marks:=m.marks.filter fun q=>blt q.1 c.fKey} X1) _ t9 ⟨s,_,X1,List.Perm.refl _,hFa,hS1.mono (hI2.trans hI9)⟩ (Ce ..)).2 _ bm
     (mL bm bt {Vm with e1:=e,c1:=c',sn:=nb,e3:=V.e3,c3:=V.c3} ⟨⟨c.fKey,m.span.fTo⟩,Fw c.fKey m.sp,CE false (CN c.fKey m.sp.rows) (DB m.sp.floor),m.marks.filter fun q=> !blt q.1 c.fKey,m.low,[],m.seen,m.oldest,[]⟩ Xt) rfl ⟨bt,_,Xt,List.Perm.refl _,hFb,hSt.mono (hI2.trans hI9)⟩
    refine Gh.to (mL b s {V with v1:=.slice a9 c.fKey.length c9,e1:=es'} {m with span:=⟨m.span.fFrom,c.fKey⟩,sp:=Gu c.fKey m.sp,nt:=CE true (CN c.fKey m.sp.rows) m.nt,marks:=m.marks.filter fun q=>blt q.1 c.fKey} (X1++mL bm bt {Vm with e1:=e,c1:=c',sn:=nb,e3:=V.e3,c3:=V.c3} ⟨⟨c.fKey,m.span.fTo⟩,Fw c.fKey m.sp,CE false (CN c.fKey m.sp.rows) (DB m.sp.floor),m.marks.filter fun q=> !blt q.1 c.fKey,m.low,[],m.seen,m.oldest,[]⟩ (Xt++F))) (Gh.done h9)
  ·have hek:=Ph hF.mks hx;obtain ⟨y,hy,hev⟩:∃y,lkA m.marks (BM x)=some y∧x.val=mv y:=by
    have:=GJ hF.mks hx;unfold Bb at this;cases hq:lkA m.marks (BM x) with
    |none=>rw [hq] at this;cases this
    |some y=>rw [hq] at this;exact ⟨y,rfl,(Option.some.inj this).symm⟩
   try simp only [SSd,Nat.reduceAdd]
   refine ⟨_,AGy hF.mks (.inl (by simp)) hx,?_⟩;rw [hek,hev];simp only [CM];repeat' (first|(with_reducible first|refine AK ?_|refine AX ?_|refine AY ?_|refine keepA ?_|refine AM (fun _=>?_)|refine EG (g0.mono (hI1.trans hI2)) (Ext.refl _) ?_)|((with_reducible refine Tp (x:=y) hM1 rfl (fun e2 c2 hM2=>?_)))|(with_reducible refine rdb ?_)|((with_reducible first|refine st1 ?_ ?_|refine rdB ?_ ?_);rfl)|(with_reducible refine AV ?_)|((with_reducible refine Ae ?_ ?_);rfl)|((with_reducible refine stB ?_ ?_ ?_ ?_);rfl;rfl;exact AE rfl)|((with_reducible first|refine rdP _ rfl ?_ ?_|refine Af _ rfl ?_ ?_);rfl)|((with_reducible refine stP _ rfl ?_ ?_ ?_ ?_);rfl;rfl;rfl)|(with_reducible first|refine AO (sh104_1.eq_1 ..) ?_|refine AO (sh104_2.eq_1 ..) ?_|refine AO (sh104_4.eq_1 ..) ?_|refine AO (sh104_7.eq_1 ..) ?_|refine AO (sh104_3.eq_1 ..) ?_|refine AO (sh104.eq_1 ..) ?_|refine And.intro ?_ ?_)|(simp only [SSg,Int.reduceBEq,Int.reduceBNe,Int.reduceLT,Int.reduceLE,beq_self_eq_true,bne_self_eq_false])|(with_reducible first|refine AH (fun _=>?_) (fun _=>?_)|refine AD (fun _=>?_) (fun _=>?_))|(simp only [SSd,Nat.reduceAdd]))
   all_goals have hlen:vis.length+1≤V.e1.toList.length:=(by have:=DT (BT hi'.nod) hi'.sub;simpa using this)
   ·rename_i _ ec
    have ec':blt (BM x) c.fKey=false:=by simpa using ec
    refine Gh.drop (List.sublist_cons_self _ _) (Gh.done (Gh.done ⟨n - 1,by omega,rfl,vis++[x],e2,c2,Ap blt (BM x) y lst,hi',by rw [List.length_append,List.length_singleton];omega,hM2,hS1'.ins bltO,fun k=>?_,rfl⟩));rw [FA,hlk k,List.map_append,List.map_cons,List.map_nil];by_cases hk1:k=BM x
    ·subst hk1;simp [ec',hy]
    ·rw [if_neg hk1];simp [hk1]
   ·rename_i ec
    have ec':blt (BM x) c.fKey=true:=by simpa using ec
    refine Gh.drop (List.sublist_cons_self _ _) (Gh.done ⟨n - 1,by omega,rfl,vis++[x],e,c',lst,hi',by rw [List.length_append,List.length_singleton];omega,hM1,hS1',fun k=>?_,rfl⟩);rw [hlk k,List.map_append,List.map_cons,List.map_nil];by_cases hk1:k=BM x
    ·subst hk1;simp [ec']
    ·simp [hk1]
 ·have e:CA m c=As (Al 141,m):=by unfold CA As;rw [if_pos (by first|(simp_all;done)|(simp_all;omega)|omega)]
  rw [e] at hk;exact Gh.to (mL b s V m (SX++F)) (Gh.done (hk.plain (Ext.refl _) ⟨s,V,SX,List.Perm.refl _,hF,hSp⟩ (Ce ..)))
theorem AGF:ADN:=fun ω I K b N X F m c cc hM hN hX hc hky hk=>by
 obtain ⟨s,V,SX,hp,hF,hSp⟩:=hX;refine Cal.perm (L':=mL b s V m (SX++F)) (AQ (by simp only [AP,BH hp];((try simp only [AN,AP,Aa,AR]);(try ac_rfl)))) (Ot hM hN hF hSp hc hky hk)
end
end Go.Proofs.YtmmfcgbfbcamcaaGreatDoor
