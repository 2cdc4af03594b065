/-
  Lemmas, part 9: laid together by a program.
-/
import Derived.Test.YtmmfcgbfbcamcaaGreatDoorP8
set_option maxRecDepth 100000
set_option linter.unusedVariables false
set_option linter.unusedSimpArgs false
set_option linter.unusedSectionVars false
namespace Go.Proofs.YtmmfcgbfbcamcaaGreatDoor
open Go.SL
theorem Ss (m:Mch):Av m≠[]:=by
 have h2:1≤(Bc m.span.fFrom.length).length:=by unfold Bc;split <;> simp
 intro e;have:=congrArg List.length e;rw [EC] at this;simp only [DY,List.length_append,List.length_nil] at this;omega
structure Base (m:Mch)(l:List TKV)(n:Nat):Prop where
 nt:NtOk (fun q t=>(⟨q,t⟩:TKV)∈l∧q≠[109]) m.sp m.nt n
 nom:NoM m.nt
 kept:∀t,(⟨[109],t⟩:TKV)∈l↔m.kept=t∧t≠[]
 srt:IC l
theorem Base.step {m:Mch}{l:List TKV}{n N:Nat}{c:TCmd}(h:Base m l n)(hM:MOk m N)(hs:(BH m c).2.2=none):Base (BH m c).2.1 l (n+EU N):=
 ⟨AGg hM h.nt hs,apply_k.1 h.nom,by rw [(apply_k (m:=m) (c:=c)).2];exact h.kept,h.srt⟩
theorem AEf {m:Mch}{q:List UInt8}(hq:q≠[109]):ntM m q=m.nt q:=by
 unfold ntM;split
 ·rfl
 ·exact CN _ _ hq
theorem Base.took {m:Mch}{l:List TKV}{n N:Nat}{ops:List TOp}(h:Base m l n)(hM:MOk m N)(ht:TookOk (ntM m) ops):Kpt m.sp (Av m) (Hz l ops):=by
 refine ⟨fun x=>?_,AAV h.srt ops⟩;by_cases hq:x.fKey=[109]
 ·have hx:∀t:List UInt8,x=⟨[109],t⟩↔x.fValue=t:=fun t=>⟨fun e=>by rw [e],fun e=>by rw [←e,←hq]⟩;have hk:(CP m.sp x.fKey x.fValue∨x=⟨[109],Av m⟩)↔x.fValue=Av m:=by
   rw [hx];exact ⟨fun h1=>h1.elim (fun h2=>by rw [hq] at h2;exact absurd h2 Nz) id,.inr⟩
  rw [hk,TK];rcases ht.last x.fKey with ⟨h1,h2⟩|⟨y,h1,h2,h3⟩
  ·rw [h1];simp only
   have he:Av m=m.kept:=by
    by_cases e:Av m=m.kept
    ·exact e
    ·rw [hq] at h2;unfold ntM at h2;rw [if_neg e,Bd] at h2;cases h2
   have h4:=h.kept x.fValue;rw [←hq] at h4;rw [show x=(⟨x.fKey,x.fValue⟩:TKV) from rfl,h4,he];constructor
   ·exact fun h5=>h5.1.symm
   ·exact fun h5=>⟨h5.symm,fun e=>Ss m (by rw [he,←h5,e])⟩
  ·rw [h1];simp only
   rw [hq] at h3;by_cases e:Av m=m.kept
   ·unfold ntM at h3;rw [if_pos e] at h3;exact absurd (h3.symm.trans h.nom) (by simp)
   ·unfold ntM at h3;rw [if_neg e,Bd] at h3;simp only [Option.some.injEq,Prod.mk.injEq] at h3;rw [←h3.1,←h3.2];exact ⟨fun h5=>h5.2,fun h5=>⟨rfl,h5⟩⟩
 ·have hk:(CP m.sp x.fKey x.fValue∨x=⟨[109],Av m⟩)↔CP m.sp x.fKey x.fValue:=⟨fun h1=>h1.elim id (fun h2=>absurd (by rw [h2]) hq),.inl⟩;rw [hk,TK];have hn:=AEf (m:=m) hq;rcases ht.last x.fKey with ⟨h1,h2⟩|⟨y,h1,h2,h3⟩
  ·rw [h1];rw [hn] at h2;rcases h.nt.noted x.fKey with ⟨_,h4⟩|⟨_,h4⟩
   ·rcases h4 with ⟨h4,_⟩|⟨t,h4,_⟩ <;> rw [h2] at h4 <;> cases h4
   ·exact ⟨fun h5=>(h4 x.fValue).2 ⟨h5,hq⟩,fun h5=>((h4 x.fValue).1 h5).1⟩
  ·rw [h1];rw [hn] at h3;simp only
   rcases h.nt.noted x.fKey with ⟨_,h4⟩|⟨h4,_⟩
   ·rcases h4 with ⟨h4,h5⟩|⟨t,h4,h5⟩
    ·rw [h3] at h4;simp only [Option.some.injEq,Prod.mk.injEq] at h4;constructor
     ·rintro ⟨h6,_⟩;rw [h4.1] at h6;cases h6
     ·intro h6;exact absurd h6 (h5 _)
    ·rw [h3] at h4;simp only [Option.some.injEq,Prod.mk.injEq] at h4;constructor
     ·rintro ⟨_,h6⟩;rw [h6,h4.2];exact h5
     ·intro h6;exact ⟨h4.1,by rw [h4.2];exact QH hM.sp h6 h5⟩
   ·rw [h3] at h4;cases h4
theorem Kpt.base {m:Mch}{l:List TKV}(h:Kpt m.sp (Av m) l):Base (Bn m) l 0:=by
 refine ⟨⟨fun q=>.inr ⟨rfl,fun t=>?_⟩,⟨[],by simp,fun q hq=>absurd rfl hq⟩⟩,rfl,fun t=>?_,h.srt⟩
 ·have:=h.mem ⟨q,t⟩;constructor
  ·intro h1;exact ⟨this.2 (.inl h1),fun e=>by rw [e] at h1;exact Nz h1⟩
  ·rintro ⟨h1,h2⟩;rcases this.1 h1 with h3|h3
   ·exact h3
   ·exact absurd (congrArg TKV.fKey h3) h2
 ·rw [h.mem];constructor
  ·rintro (h1|h1)
   ·exact absurd h1 Nz
   ·have h2:=congrArg TKV.fValue h1;simp only at h2
    exact ⟨h2.symm,by rw [h2];exact Ss m⟩
  ·rintro ⟨h1,_⟩;exact .inr (by rw [←h1])
theorem Base.chok {m:Mch}{l:List TKV}{n N:Nat}{ops:List TOp}(h:Base m l n)(hM:MOk m N)(ht:TookOk (ntM m) ops):ChOk ops∧∀y∈ops,y.fValue.length≤65536:=by
 have hrl:=CV hM;have each:∀y∈ops,OpOk y∧y.fValue.length≤65536:=fun y hy=>by
  have h1:=ht.mem y hy;by_cases hq:y.fKey=[109]
  ·rw [hq] at h1;by_cases e:Av m=m.kept
   ·unfold ntM at h1;rw [if_pos e] at h1;exact absurd (h1.symm.trans h.nom) (by simp)
   ·unfold ntM at h1;rw [if_neg e,Bd] at h1;simp only [Option.some.injEq,Prod.mk.injEq] at h1;rw [←h1.2];exact ⟨⟨by rw [hq];decide,by rw [hq];decide,fun hd=>by rw [←h1.1] at hd;cases hd⟩,by omega⟩
  ·rw [AEf hq] at h1;rcases h.nt.noted y.fKey with ⟨h2,h4⟩|⟨h4,_⟩
   ·rcases h4 with ⟨h4,_⟩|⟨t,h4,h5⟩
    ·rw [h1] at h4;simp only [Option.some.injEq,Prod.mk.injEq] at h4;rw [h4.2];exact ⟨⟨h2.1,h2.2,fun _=>h4.2⟩,by simp⟩
    ·rw [h1] at h4;simp only [Option.some.injEq,Prod.mk.injEq] at h4;have:=kept_len hM.sp h5;rw [h4.2];exact ⟨⟨h2.1,h2.2,fun hd=>by rw [h4.1] at hd;cases hd⟩,by omega⟩
   ·rw [h1] at h4;cases h4
 exact ⟨⟨fun y hy=>(each y hy).1,ht.rise⟩,fun y hy=>(each y hy).2⟩
theorem Noted.congr {b b':List UInt8→List UInt8→Prop}{sp:Sp}{nt:Nts}(h:Noted b sp nt)(e:∀q t,b q t↔b' q t):Noted b' sp nt:=fun q=>(h q).elim .inl (fun h1=>.inr ⟨h1.1,fun t=>(h1.2 t).trans (e q t)⟩)
theorem AEi (q t:List UInt8):((⟨q,t⟩:TKV)∈([]:List TKV))↔((⟨q,t⟩:TKV)∈([]:List TKV)∧q≠[109]):=by simp
theorem AKF (p:TSpan):Base (HG p) [] 0:=⟨⟨noted0.congr AEi,⟨[],by simp,fun q hq=>absurd rfl hq⟩⟩,rfl,fun t=>Iff.intro (fun h=>by cases h) (fun h=>absurd h.1.symm h.2),List.Pairwise.nil⟩
theorem AAD {sp:Sp}(h:SpOk sp):Noted (fun q t=>(⟨q,t⟩:TKV)∈([]:List TKV)) sp (Ik sp):=by
 have:=LC (base:=fun q t=>(⟨q,t⟩:TKV)∈([]:List TKV)) (fl:=sp.floor) (rs:=sp.rows) (A:=[]) (nt:=BC sp.floor) h (LS sp.floor);exact this
theorem YJ {m:Mch}{N:Nat}(hM:MOk m N)(hn:m.nt=Ik m.sp)(hk:m.kept=[]):Base m [] (1+N * N+N):=by
 refine ⟨⟨?_,?_⟩,?_,fun t=>Iff.intro (fun h=>by cases h) (fun h=>absurd (h.1.symm.trans hk) h.2),List.Pairwise.nil⟩
 ·rw [hn];exact (AAD hM.sp).congr AEi
 ·rw [hn];exact ((NtFin.floor m.sp.floor).noteAs (g:=false) (rs:=m.sp.rows)).more (by have:=hM.rows;have:=hM.vers;omega)
 ·rw [hn];exact (NoM.floor m.sp.floor).noteAs
structure SplitF (m:Mch)(x:TRes×Mch×Option Mch):Prop where
 right:∀r,x.2.2=some r→r.nt=Ik r.sp∧r.kept=[]
 left:∀r,x.2.2=some r→∃k,x.2.1.nt=noteAs true (CL k m.sp.rows) m.nt
theorem SplitF.no {m:Mch}(y:TRes×Mch):SplitF m (BV y):=⟨fun r h=>(by cases h),fun r h=>(by cases h)⟩
theorem Og (m:Mch)(c:TCmd):SplitF m (BH m c):=by
 have ite:∀{p:Prop} [Decidable p] {x y:TRes×Mch×Option Mch},SplitF m x→SplitF m y→SplitF m (if p then x else y):=fun {p} _ {x y} h1 h2=>by
  by_cases h:p
  ·rw [if_pos h];exact h1
  ·rw [if_neg h];exact h2
 refine ite (.no (_,_)) (ite (.no _) (ite (.no _) (ite (.no _) (ite (.no _) (ite (.no _) (ite (.no _) (ite (.no _) (ite (.no _) (ite (.no _) (ite (.no _) (ite (.no (_,_)) ?_)))))))))));refine ⟨fun r h=>?_,fun r h=>⟨c.fKey,rfl⟩⟩;cases h
 exact ⟨rfl,rfl⟩
def nB':Nat→Nat
 |0=>0
 |i+1=>nB' i+EU i
theorem AJj:∀i,i≤nB' i
 |0=>Nat.le_refl _
 |i+1=>by have:=AJj i;simp only [nB',EU];omega
theorem AIn {i j:Nat}(h:i≤j):nB' i≤nB' j:=by
 induction h with
 |refl=>exact Nat.le_refl _
 |step _ ih=>simp only [nB'];omega
theorem ALC:nB' 120=583460:=by decide
theorem Xm {i:Nat}(h:i≤120):nB' i≤583460:=by rw [←ALC];exact AIn h
theorem AGj (i:Nat):1+(i+1) * (i+1)+(i+1)≤nB' (i+1):=by
 have:=AJj i;simp only [nB',EU];have e:(i+1) * (i+1)=i * i+2 * i+1:=by rw [Nat.add_mul,Nat.mul_add];omega
 omega
theorem AEx {m r:Mch}{c:TCmd}{n N:Nat}(hM:MOk m N)(h:NtFin m.nt n)(hs:(BH m c).2.2=some r):NtFin (BH m c).2.1.nt (n+EU N):=by
 obtain ⟨k,e⟩:=(Og m c).left r hs;rw [e];have h1:=PM (k:=k) hM.sp;have h2:=hM.rows;have h3:=hM.vers;refine (h.noteAs (g:=true) (rs:=CL k m.sp.rows)).more ?_;have h4:(CL k m.sp.rows).length≤m.sp.rows.length:=h1.2.1;have h5:Ae (CL k m.sp.rows)≤Ae m.sp.rows:=h1.2.2.2;simp only [EU];omega
theorem MOk.re {m:Mch}{N:Nat}(h:MOk m N)(nt:Nts)(k:List UInt8):MOk (reN m nt k) N:={h with}
theorem Alk.ok {a b:Mch}{N:Nat}(h:Alk a b)(hM:MOk a N):MOk b N:=by
 obtain ⟨nt,k,rfl⟩:=h;exact hM.re nt k
theorem Alk.took {a b:Mch}(h:Alk a b):Alk a (Bn b):=by
 obtain ⟨nt,k,rfl⟩:=h;exact ⟨nt0,Av (reN a nt k),rfl⟩
theorem Xl {m:Mch}{n:Nat}(h:NtFin m.nt n):NtFin (ntM m) (n+1):=by
 unfold ntM;split
 ·exact h.more (by omega)
 ·exact h.upd _ _
section
variable {ω:Om}{I:Imm}{L:LH}{K:Value→M}
end
abbrev rsT (cs:List Value):Obj:=.cells cs.toArray 52 (0,0)
section
variable {ω:Om}{I:Imm}{L:LH}{K:Value→M}
end
def Hd (L:LH)(i:Nat)(s:Value×Value×Value×Value×Value×Unit)(I':Imm)(L':LH):Prop:=
 ∃(pa pb:Nat) (ma mb:Mch) (la l:List TKV) (vl:Value) (Xa Xb:LH),s=(.bool false,pt pa,pt pb,vl,.int .i64 i,())∧MchR I' pa Xa ma∧MchR I' pb Xb mb∧Alk ma mb∧MOk ma i∧Base ma la (nB' i)∧Base mb l 0∧
  RL TKVV 2 I' [] vl l∧l.length≤nB' i+i∧L'.Perm (Xa++(Xb++L))
section
variable {ω:Om}{I:Imm}{L L0 F:LH}{K:Value→M}{i:Nat}{pa pb:Nat}{ma mb m:Mch}{la l:List TKV}{vl:Value}{Xa Xb:LH}{Kn0:(Value×Value×Value×Value×Value×Unit)→M}
theorem al8 [hs:SubP (Xa++(Xb++L)) L0](hi:i < 120)(ha:MchR I pa Xa ma)(hb:MchR I pb Xb (Bn m))(hA:Alk ma (Bn m))(hM:MOk ma (i+1))(hBa:Base ma la (nB' (i+1)))(hl:Kpt m.sp (Av m) l)(hv:RL TKVV 2 I [] vl l)(hll:l.length≤nB' (i+1)+(i+1))
  (hk:∀s L',Hd L (i+1) s I L'→Gh (Kn0 s) I L'):
  PX ω (.bool false) (pt pa) (pt pb) vl (.int .i64 i) (fun s=>Gh (Kn0 s)) (fun v=>Gh (K v)) I L0:=by
 unfold PX;try simp only [SSd,Nat.reduceAdd]
 rw [wrap_i64 _ (by omega)];refine Gh.to (Xa++(Xb++L)) ?_;exact hk _ _ ⟨pa,pb,ma,Bn m,la,l,vl,Xa,Xb,rfl,ha,hb,hA,hM,hBa,hl.base,hv,hll,List.Perm.refl _⟩
theorem AOj {v2:Value}{hows:List Int}{I0:Imm}(hv2:Ints I0 v2 hows)(hI0:Ext I0 I)(hih:i < hows.length)(hi:i < 120)(ha:MchR I pa Xa ma)(hb:MchR I pb Xb (Bn m))(hA:Alk ma (Bn m))(hM:MOk ma (i+1))(hBa:Base ma la (nB' (i+1)))(hl:Kpt m.sp (Av m) l)(hv:RL TKVV 2 I [] vl l)(hll:l.length≤nB' (i+1)+(i+1))
  (hk:∀I' s L',Ext I I'→Hd L (i+1) s I' L'→Gh (Kn0 s) I' L'):
  Qf ω v2 (.bool false) (pt pa) (pt pb) vl (.int .i64 i) (fun s=>Gh (Kn0 s)) (fun v=>Gh (K v)) I (Xb++(Xa++L)):=by
 unfold Qf;obtain ⟨bb,off,hix,hc⟩:=ints_at (hv2.mono hI0) (i:=(i:Int)) (by omega) (by omega);simp only [hix,SSd,Nat.reduceAdd];refine rd1 (hc _ _ (Ext.refl _)) ?_;generalize Dh hows (i:Int)=h at *;try simp only [SSd,Nat.reduceAdd]
 refine AC (fun e=>?_) (fun e=>al8 hi ha hb hA hM hBa hl hv hll (fun s L'=>hk I s L' (Ext.refl _)));have hMb:=hA.ok hM;obtain ⟨s,V,SX,hp,hF,hS⟩:=hb;have hb':∀I2,Ext I I2→MchR I2 pb (mL pb s V (Bn m) SX) (Bn m):=fun I2 hI2=>⟨s,V,SX,List.Perm.refl _,hF.mono hI2,hS.mono hI2⟩;refine call (Cal.perm (L':=mL pb s V (Bn m) (SX++(Xa++L))) (hp.append_right _) (Uh hF hS hMb (by omega) (fun I2 l2 hI2 hAl hlen=>?_) (fun I2 u l2 hI2 hAl hlen hu=>?_)))
 ·try simp only [SSd,Nat.reduceAdd]
  refine AC (fun e2=>?_) (fun e2=>absurd e2 (by decide));haveI:SubP (Xa++(mL pb s V (Bn m) SX++L)) (mL pb s V (Bn m) (SX++(Xa++L))):=⟨[],by rw [List.append_nil];exact AP (by simp only [List.cons_append,List.append_assoc];((try simp only [AM,AN,AY,AQ]);(try ac_rfl)))⟩
  exact al8 (Xb:=mL pb s V (Bn m) SX) hi (ha.mono hI2) (hb' I2 hI2) hA hM hBa hl (RL.monoI (fun x c h=>h.mono hI2) hv hI2) hll (fun s L'=>hk I2 s L' hI2)
 ·try simp only [SSd,Nat.reduceAdd]
  refine AC (fun e2=>absurd e2 (by decide)) (fun e2=>?_);refine call (Cal.to (Xa++L) (Qy (L:=Xa++L) hMb (by omega) hAl hlen hu (fun I3 b3 X3 hI3 hX3=>?_)));have hlu:=Bytes.len (hu.mono hI3);simp only [hlu,bne_self_eq_false,SSd,Nat.reduceAdd];refine AC (fun e3=>absurd e3 (by simp;omega)) (fun e3=>?_);have hMr:MOk (Cm (Bn m) (Bn m).sp (Ik (Bn m).sp) []) (i+1):={hMb with};have hBr:=YJ hMr rfl rfl;obtain ⟨s3,V3,SX3,hp3,hF3,hS3⟩:=hX3;have hale:=AGj i;have hnl:=Xm (i:=i+1) (by omega);refine call (Cal.perm (L':=mL b3 s3 V3 (Cm (Bn m) (Bn m).sp (Ik (Bn m).sp) []) (SX3++(Xa++L))) (hp3.append_right _) (JA hMr hF3 hS3 (hBr.nt.fin.more (by omega)) hBr.nom (fun I4 X4 V4 v4 ops4 hI4 hF4 hS4 hto4 hR4=>?_)));obtain ⟨hch4,hlv4⟩:=hBr.chok hMr hto4;have hol:=JY hto4 (Xl hBr.nt.fin);refine call (IA (RL.nil none 0) hR4 hch4 hlv4 (by simp) (by omega) (fun I5 v5 hI5 hv5=>?_));have hcl:=OW [] ops4;have hI25:=hI2.trans (hI3.trans (hI4.trans hI5));simp only [Bool.not_true,SSd,Nat.reduceAdd];haveI:SubP (Xa++(mL b3 s3 V4 (Bn m) X4++L)) (mL b3 s3 V4 (Bn m) (X4++(Xa++L))):=⟨[],by rw [List.append_nil];exact AP (by simp only [List.cons_append,List.append_assoc];((try simp only [AM,AN,AY,AQ]);(try ac_rfl)))⟩
  exact al8 (m:=m) (Xb:=mL b3 s3 V4 (Bn m) X4) hi (ha.mono hI25) ⟨s3,V4,X4,List.Perm.refl _,hF4.mono hI5,hS4.mono hI5⟩ hA hM hBa (hBr.took hMr hto4) hv5 (by simp only [List.length_nil] at hcl;omega) (fun s L'=>hk I5 s L' hI25)
theorem al6 {v2 vl0:Value}{l0:List TKV}{n:Nat}{hows:List Int}{I0:Imm}[hs:SubP (Xb++(Xa++L)) L0](hv2:Ints I0 v2 hows)(hhl:hows.length≤1000000000000000)(hI0:Ext I0 I)(hi:i < 120)(ha:MchR I pa Xa ma)(hb:MchR I pb Xb m)(hA:Alk ma m)(hM:MOk ma (i+1))(hBa:Base ma la (nB' (i+1)))(hB:Base m l0 n)(hv:RL TKVV 2 I [] vl0 l0)
  (hn:n≤900000) (hll:l0.length+n+1≤nB' (i+1)+(i+1)) (hk:∀I' s L',Ext I I'→Hd L (i+1) s I' L'→Gh (Kn0 s) I' L'):
  WJ ω v2 (.bool false) (pt pa) (pt pb) vl0 (.int .i64 i) (fun s=>Gh (Kn0 s)) (fun v=>Gh (K v)) I L0:=by
 have hMb:=hA.ok hM;have hnl:=Xm (i:=i+1) (by omega);obtain ⟨s,V,SX,hp,hF,hS⟩:=hb;unfold WJ;refine call (Cal.to (Xb++(Xa++L)) (Cal.perm (L':=mL pb s V m (SX++(Xa++L))) (hp.append_right _) (JA hMb hF hS (hB.nt.fin.more (by omega)) hB.nom (fun I1 X1 V1 v1 ops hI1 hF1 hS1 hto hR=>?_))));obtain ⟨hch,hlv⟩:=hB.chok hMb hto;have hol:=JY hto (Xl hB.nt.fin);refine call (IA (RL.monoI (fun x c h=>h.mono hI1) hv hI1) hR hch hlv (by omega) (by omega) (fun I2 v3 hI2 hv3=>?_));have hcl:=OW l0 ops;have hI12:=hI1.trans hI2;have hkp:=hB.took hMb hto;have hb':MchR I2 pb (mL pb s V1 (Bn m) X1) (Bn m):=⟨s,V1,X1,List.Perm.refl _,hF1.mono hI2,hS1.mono hI2⟩;have hk':∀I' s L',Ext I2 I'→Hd L (i+1) s I' L'→Gh (Kn0 s) I' L':=fun I' s L' h1 h2=>hk I' s L' (hI12.trans h1) h2;simp only [Bool.not_true,Ints.len hv2,SSd,Nat.reduceAdd];refine AC (fun e=>?_) (fun e=>?_)
 ·haveI:SubP (Xa++(mL pb s V1 (Bn m) X1++L)) (mL pb s V1 (Bn m) (X1++(Xa++L))):=⟨[],by rw [List.append_nil];exact AP (by simp only [List.cons_append,List.append_assoc];((try simp only [AM,AN,AY,AQ]);(try ac_rfl)))⟩
  exact al8 (m:=m) (Xb:=mL pb s V1 (Bn m) X1) hi (ha.mono hI12) hb' hA.took hM hBa hkp hv3 (by omega) (fun s L'=>hk' I2 s L' (Ext.refl _))
 ·have hih:i < hows.length:=by simp at e;omega
  obtain ⟨bb,off,hix,hc⟩:=ints_at (hv2.mono (hI0.trans hI12)) (i:=(i:Int)) (by omega) (by omega);simp only [hix,SSd,Nat.reduceAdd];refine rd1 (hc _ _ (Ext.refl _)) ?_;generalize Dh hows (i:Int)=h at *;try simp only [SSd,Nat.reduceAdd]
  refine AC (fun e2=>?_) (fun e2=>?_)
  ·refine call (Cal.to (Xa++L) (VN (L:=Xa++L) hMb (by omega) hkp (by omega) hv3 (fun I3 b3 X3 hI3 hX3=>?_)));simp only [bne_self_eq_false,SSd,Nat.reduceAdd];exact AOj (m:=m) (Xb:=X3) hv2 ((hI0.trans hI12).trans hI3) hih hi (ha.mono (hI12.trans hI3)) hX3 hA.took hM hBa hkp (RL.monoI (fun x c h=>h.mono hI3) hv3 hI3) (by omega) (fun I' s L' h1 h2=>hk' I' s L' (hI3.trans h1) h2)
  ·exact AOj (m:=m) (Xb:=mL pb s V1 (Bn m) X1) hv2 (hI0.trans hI12) hih hi (ha.mono hI12) hb' hA.took hM hBa hkp hv3 (by omega) hk'
theorem Base.more {n k:Nat}(h:Base m l n)(hk:n≤k):Base m l k:={h with nt:=h.nt.more hk}
theorem al5 {v2 vl0:Value}{hows:List Int}{I0:Imm}{c:TCmd}{r:Mch}{pra prb:Nat}{Xra Xrb:LH}[hs:SubP (Xa++(Xra++(Xrb++L))) L0](hv2:Ints I0 v2 hows)(hhl:hows.length≤1000000000000000)(hI0:Ext I0 I)(hi:i < 120)(hMa:MOk ma i)(hBa:Base ma la (nB' i))(hr:(BH ma c).2.2=some r)
  (ha:MchR I pa Xa (BH ma c).2.1) (hra:MchR I pra Xra r) (hrb:MchR I prb Xrb r) (hk:∀I' s L',Ext I I'→Hd L (i+1) s I' L'→Gh (Kn0 s) I' L'):
  AAa ω v2 (.bool false) (pt pa) (pt pb) vl0 (.int .i64 i) (pt pra) (pt prb) (fun s=>Gh (Kn0 s)) (fun v=>Gh (K v)) I L0:=by
 obtain ⟨_,hM1,hM2⟩:=Kz (c:=c) hMa;have hMr:=hM2 r hr;have hnl:=Xm (i:=i+1) (by omega);have hfin:NtFin (BH ma c).2.1.nt (nB' (i+1)):=AEx hMa hBa.nt.fin hr;have hnom:=apply_k (m:=ma) (c:=c) |>.1 hBa.nom
 obtain ⟨hr1,hr2⟩:=(Og ma c).right r hr;have hBr:=YJ hMr hr1 hr2;have hale:=AGj i;obtain ⟨s,V,SX,hp,hF,hS⟩:=ha;unfold AAa;refine call (Cal.to (Xa++(Xra++(Xrb++L))) (Cal.perm (L':=mL pa s V (BH ma c).2.1 (SX++(Xra++(Xrb++L)))) (hp.append_right _) (JA hM1 hF hS (hfin.more (by omega)) hnom (fun I1 X1 V1 v1 ops hI1 hF1 hS1 hto hR=>?_))));haveI:SubP (Xrb++(Xra++L)) (mL pa s V1 (Bn (BH ma c).2.1) (X1++(Xra++(Xrb++L)))):=⟨mL pa s V1 (Bn (BH ma c).2.1) X1,AP (by simp only [List.cons_append,List.append_assoc];((try simp only [AM,AN,AY,AQ]);(try ac_rfl)))⟩
 exact al6 (m:=r) (l0:=[]) hv2 hhl (hI0.trans hI1) hi (hra.mono hI1) (hrb.mono hI1) (Alk.refl r) hMr (hBr.more hale) hBr (RL.nil none 0) (by omega) (by simp only [List.length_nil];omega) (fun I' s L' h1 h2=>hk I' s L' (hI1.trans h1) h2)
end
section
variable {ω:Om}{I:Imm}{L:LH}{K:Value→M}
theorem AAF {v1 v2:Value}{p:TSpan}{pc:List Value}{cs:List TCmd}{hows:List Int}(hp:TSpanV I p pc)(h:RL TCmdV 15 I [] v1 cs)(hv2:Ints I v2 hows)(hL:∀c∈cs,Lens c)(hl:cs.length≤9000000000000000000)(hhl:hows.length≤1000000000000000)(hk:∀I' L',Ext I I'→K (.bool true) I' L'):
  CT ω 9 #[.agg pc.toArray,v1,v2] K I L:=by
 refine APE ?_;unfold sh9;obtain ⟨w0,w1,rfl,g0,g1⟩:=id hp;obtain ⟨a0,c0,rfl⟩:=Bytes.form g0;obtain ⟨a1,c1,rfl⟩:=Bytes.form g1;refine AV (fun q=>?_);refine call (Vv (fun I1 hI1=>?_));try simp only [SSd,Nat.reduceAdd]
 refine rdB rfl ?_;refine call (IM (hp.mono hI1) (fun e0=>?_) (fun e0 ba Xa I2 hI2 hXa=>?_))
 ·try simp only [SSd,Nat.reduceAdd]
  refine rdB rfl ?_;refine call (IM (hp.mono hI1) (fun _=>?_) (fun e1=>by rw [e0] at e1;cases e1));simp only [Bool.not_true,bne_self_eq_false,SSd,Nat.reduceAdd];exact Gh.done (hk I1 _ hI1)
 ·try simp only [SSd,Nat.reduceAdd]
  refine rdB rfl ?_;refine call (IM (hp.mono (hI1.trans hI2)) (fun e1=>by rw [e0] at e1;cases e1) (fun _ bb Xb I3 hI3 hXb=>?_));simp only [Bool.not_true,bne_self_eq_false,SSd,Nat.reduceAdd];refine AC (fun e=>absurd e (by decide)) (fun _=>?_);have hI13:=hI1.trans (hI2.trans hI3);refine loop (fun n s I' L'=>Ext I I'∧∃i,n+i=cs.length∧i≤120∧Hd ((q,.cells #[.slice a0 p.fFrom.length c0,.slice a1 p.fTo.length c1] 31 (0,0))::L) i s I' L') cs.length ⟨hI13,0,rfl,by omega,ba,bb,HG p,HG p,[],[],.slice none 0 0,Xa,Xb,rfl,hXa.mono hI3,hXb,Alk.refl _,Xn e0,AKF p,AKF p,RL.nil none 0,by simp,AP (by ((try simp only [AM,AN,AY,AQ]);(try ac_rfl)))⟩ ?_;generalize ((q,.cells #[.slice a0 p.fFrom.length c0,.slice a1 p.fTo.length c1] 31 (0,0)):Nat×Obj)::L=F;clear hXa hXb;rintro n s I' L' ⟨hI,i,hni,hi1,pa,pb,ma,mb,la,l,vl,Xa,Xb,rfl,ha,hb,hA,hM,hBa,hB,hv,hll,hperm⟩;unfold AJg;simp only [RL.len h,SSd,Nat.reduceAdd];refine AG (fun e=>?_) (fun _=>Gh.done (hk I' _ hI));have hi:i < cs.length:=by simpa using e
  try simp only [SSd,Nat.reduceAdd]
  refine AC (fun e2=>?_) (fun _=>Gh.done (hk I' _ hI));have hi2:i < 120:=by simp at e2;omega
  obtain ⟨qc,off,c,hix,hcl,hc,hcc⟩:=RL.ix h (i:=(i:Int)) (by omega) (by omega);have hLx:=hL (Dh cs (i:Int)) (by rw [Aq hi];exact List.getElem_mem hi);generalize Dh cs (i:Int)=x at *;have hc:=hc.mono hI;simp only [hix,SSd,Nat.reduceAdd];refine Jl (hcc I' [] hI (fun _ h=>h)) (Ext.refl _) hcl ?_;have hMb:=hA.ok hM;obtain ⟨hok1,hok2,_⟩:=Kz (c:=x) hM;have hrl:=(AJX hok1).len;obtain ⟨hx1,hx2,hx3⟩:=hA.apply x;refine call (Cal.perm (L':=Xa++(Xb++F)) hperm (LK hM (by omega) ha hc hLx (fun I4 Xa' X2 pv ca hI4 ha' hra ho=>?_)));try simp only [SSd,Nat.reduceAdd]
  refine AV (fun q2=>?_);refine stB hra.len rfl hra.one ?_;refine Jl (hcc I4 [] (hI.trans hI4) (fun _ h=>h)) (Ext.refl _) hcl ?_;refine call (Cal.perm (L':=Xb++((q2,rsT ca)::(Xa'++(X2++F)))) (AP (by ((try simp only [AM,AN,AY,AQ]);(try ac_rfl)))) (LK hMb (by omega) (hb.mono hI4) (hc.mono hI4) hLx (fun I5 Xb' X3 pv3 cb hI5 hb' hrb ho3=>?_)));have h45:=hI4.trans hI5;rw [←hx1] at hrb;rw [←hx3] at ho3;try simp only [SSd,Nat.reduceAdd]
  refine AV (fun q3=>?_);refine stB hrb.len rfl hrb.one ?_;refine rdB (hra.mono hI5).len ?_;refine rdB hrb.len ?_;refine call (NQ (hra.mono hI5) hrb (by omega) ?_);simp only [Bool.not_true,SSd,Nat.reduceAdd];have hfin:∀I2 s L2,Ext I5 I2→Hd F (i+1) s I2 L2→Gh (fun I2 L2=>∃m',m' < n∧Ext I I2∧∃i,m'+i=cs.length∧i≤120∧Hd F i s I2 L2) I2 L2:=fun I2 s L2 h1 h2=>Gh.done ⟨n - 1,by omega,(hI.trans h45).trans h1,i+1,by omega,by omega,h2⟩;have hnl:=Xm (i:=i+1) (by omega);have hnn:nB' (i+1)=nB' i+EU i:=rfl;cases hs:(BH ma x).2.2 with
  |none=>
   rw [hs] at ho ho3;obtain ⟨rfl,rfl⟩:=ho;obtain ⟨rfl,rfl⟩:=ho3;simp only [List.nil_append,SSd,Nat.reduceAdd];exact al6 (n:=0+EU i) hv2 hhl (hI.trans h45) hi2 (ha'.mono hI5) hb' hx2 hok2 (hBa.step hM hs) (hB.step hMb (hx3 ▸ hs)) (RL.monoI (fun x c h=>h.mono h45) hv h45) (by omega) (by omega) hfin
  |some r=>
   rw [hs] at ho ho3;obtain ⟨b1,rfl,hr1⟩:=ho;obtain ⟨b2,rfl,hr2⟩:=ho3;try simp only [SSd,Nat.reduceAdd]
   exact al5 (pb:=pb) (vl0:=vl) (c:=x) hv2 hhl (hI.trans h45) hi2 hM hBa hs (ha'.mono hI5) (hr1.mono hI5) hr2 hfin
end
theorem alike_walk2 {W:World}{base:Nat}{v0 v1 v2:Value}(o0:Value.okWide Tryz.prog W .any base 31 v0)(t0:Tr Tryz.prog W 31 v0.cells.toList)(o1:Value.okWide Tryz.prog W .any base 60 v1)(t1:Tr Tryz.prog W 60 v1.cells.toList)
  (o2:Value.okWide Tryz.prog W .any base 23 v2) (t2:Tr Tryz.prog W 23 v2.cells.toList) (ω:Om):
  CT ω 9 #[v0,v1,v2] (fun v I' _=>v= .bool true∧Ext (FU W) I') (FU W) []:=by
 obtain ⟨cs,rfl,t⟩:=Ud Tryz.underlying31 o0 t0;obtain ⟨p,_,hp⟩:=Oi t;obtain ⟨l,h1,h2,h3⟩:=Ye (PR Tryz.underlying60 o1 t1);obtain ⟨ml,hM,hml,_⟩:=AGv Tryz.underlying23 Tryz.underlying3 (by kernel_rfl) (by kernel_rfl) (PR Tryz.underlying23 o2 t2);exact AAF hp h1 hM h2 (by omega) (by have:reachBytes=140737488351232:=rfl;omega) (fun I' _ hI=>⟨rfl,hI⟩)
end Go.Proofs.YtmmfcgbfbcamcaaGreatDoor
