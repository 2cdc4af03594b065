/-
  Lemmas, part 6: laid together by a program.
-/
import Derived.Test.YtmmfcgbfbcamcaaGreatDoorP5
set_option maxRecDepth 100000
set_option linter.unusedVariables false
set_option linter.unusedSimpArgs false
set_option linter.unusedSectionVars false
namespace Go.Proofs.YtmmfcgbfbcamcaaGreatDoor
open Go.SL
section
variable {ω:Om}{I:Imm}{L:LH}{K:Value→M}
abbrev QY (v:TVer):Obj:=.cells #[.int .i64 v.fAt.fWall,.int .i64 v.fAt.fLogic,.bool v.fDel,BR v.fValue] 253 (0,0)
def EI (a:TStamp)(r:Row):TVer:=⟨a,r.it.ver.fDel,r.it.ver.fValue⟩
def Jj (k:List UInt8)(yes:Bool)(a:TStamp)(r:Row)(nt:Nts):Nts:=if yes=true then CO (CO nt (105::k) (true,[])) (Ag k (EI a r)) (false,Af (EI a r)) else CO nt (105::k) (true,[])
def GN (sp:Sp)(k:List UInt8)(txn:Int)(yes:Bool)(a:TStamp)(nt:Nts):Nts:=if (FK sp k txn yes a).1=true then (match rowOf sp.rows k with
 |some r=>Jj k yes a r nt
 |none=>nt) else nt
theorem FW (a b:List TVer):EP (a++b)=EP a++EP b:=by simp [EP]
theorem Po {b:Nat}{a1:Value}{k:List UInt8}{X F:LH}{A B:List Row}{r:Row}{fl:TStamp}{nt:Nts}{p10 p11:Value}[hsub:SubP (X++F) L](h1:Bytes I a1 k)(hS:SpR I b X ⟨A++r::B,fl⟩ nt)(hm:Mid A k B)(hkr:r.key=k)(hs:SrtK (keysOf (A++r::B)))(hlen:(A++r::B).length≤100000000)
  (hk:∀X',SpR I b X' ⟨if Ax r=true then A++B else A++r::B,fl⟩ nt→K (.tuple #[.bool true,.int .i64 0]) I (X'++F)):En ω (pt b) a1 p10 p11 (fun v=>Gh (K v)) I L:=by
 unfold En;refine Gq h1 (Ext.refl _) ?_;refine call (Cal.to (X++F) ?_);exact PS hS hm hkr hs hlen (fun X' h'=>Gh.done (hk X' h'))
theorem Qz {b:Nat}{a1:Value}{k:List UInt8}{txn:Int}{yes:Bool}{a:TStamp}{X F:LH}{sp:Sp}{nt:Nts}(hS:SpR I b X sp nt)(hok:SpOk sp)(hlen:sp.rows.length≤100000000)(hvs:∀r∈sp.rows,r.vs.length≤100000000)(h1:Bytes I a1 k)
  (hk:∀X' I',Ext I I'→SpR I' b X' (Dv sp k txn yes a) (GN sp k txn yes a nt)→K (.tuple #[.bool (FK sp k txn yes a).1,.int .i64 (FK sp k txn yes a).2]) I' (X'++F)):
  CT ω 161 #[pt b,a1,.int .i64 txn,.bool yes,sv a] K I (X++F):=by
 have hs:=hok.rise;have same:∀x,FK sp k txn yes a=(false,x)→K (.tuple #[.bool false,.int .i64 x]) I (X++F):=by
  intro x e;have e2:Dv sp k txn yes a=sp:=by unfold Dv;rw [e];rfl
  have e3:GN sp k txn yes a nt=nt:=by unfold GN;rw [e];rfl
  rw [e2,e3] at hk;have hk':=hk X I (Ext.refl _) hS;rw [e] at hk';exact hk'
 by_cases hbad:Ap k=false∨CB txn=false∨(yes=true∧AU a=false)
 ·have hk':=same 1 (by unfold FK;rw [if_pos hbad]);refine OZ ?_;unfold NK;refine AV (fun bat=>?_);refine call (Cb h1 ?_);try simp only [SSd,Nat.reduceAdd]
  refine AG (fun e=>?_) (fun e=>Gh.to (X++F) (Gh.done hk'));refine call (ED ?_);try simp only [SSd,Nat.reduceAdd]
  refine AG (fun e2=>?_) (fun e2=>Gh.to (X++F) (Gh.done hk'));have hy:yes=true∧AU a=false:=by
   rcases hbad with h|h|h
   ·rw [h] at e;simp at e
   ·rw [h] at e2;simp at e2
   ·exact h
  simp only [hy.1,SSd,Nat.reduceAdd];refine rdB rfl ?_;refine call (BS (x:=a) ?_);simp only [hy.2,Bool.not_false,SSd,Nat.reduceAdd];exact Gh.to (X++F) (Gh.done hk')
 have hA:FK sp k txn yes a=if (Aj sp.rows k).txn≠txn then (false,0) else if yes=true∧(bhd (Aj sp.rows k).ver.fAt a=true∨JH a (Ak sp.rows k).getLast? =true) then (false,1) else (true,0):=by unfold FK;rw [if_neg hbad]
 simp only [not_or,Bool.not_eq_false,not_and] at hbad;obtain ⟨k1,k2,k3⟩:=hbad;have kl:1≤k.length∧k.length≤110:=by simpa [Ap] using k1
 have kt:=Gv k2;obtain ⟨rows,fl⟩:=sp;rcases place k hs with ⟨A,r,B,e,hkr,hm⟩|⟨A,B,e,hm⟩
 rotate_left
 ·simp only at e;subst e
  rw [GH hm,if_pos (show noIt.txn≠txn from fun h=>kt h.symm)] at hA;have hk':=same 0 hA;obtain ⟨m,kv,es,clock,ps,hV⟩:=hS.view (L:=X++F) (fun y hy=>List.mem_append_left _ hy);have hn:Az ps (A++B) k=none:=HO hm.notin;cases yes
  ·refine OZ ?_;unfold NK;refine AV (fun bat=>?_);refine call (Cb h1 ?_);simp only [k1,Bool.not_true,SSd,Nat.reduceAdd];refine call (ED ?_);simp only [k2,Bool.not_true,SSd,Nat.reduceAdd];refine AZ ?_;try simp only [SSd,Nat.reduceAdd]
   refine CQ (hV.head 0 _ rfl) (Ext.refl _) ?_;refine Ek h1 (Ext.refl _) ?_;refine ⟨_,fun I' L' hS=>GV (MapAt.mono hV.at' hS.1 (fun x hx=>hS.2 _ (by simp [hx]))) hV.map,?_⟩;have en:BZ .eql (.pointer none) (.pointer none)=some (.bool true):=rfl;simp only [hn,lkV,Bool.false_eq_true,if_false,en,SSd,Nat.reduceAdd];exact Gh.to (X++F) (Gh.done hk')
  ·refine OZ ?_;unfold NK;refine AV (fun bat=>?_);refine call (Cb h1 ?_);simp only [k1,Bool.not_true,SSd,Nat.reduceAdd];refine call (ED ?_);simp only [k2,Bool.not_true,SSd,Nat.reduceAdd];refine rdB rfl ?_;refine call (BS (x:=a) ?_);simp only [k3 rfl,Bool.not_true,SSd,Nat.reduceAdd];refine AZ ?_;try simp only [SSd,Nat.reduceAdd]
   refine CQ (hV.head 0 _ rfl) (Ext.refl _) ?_;refine Ek h1 (Ext.refl _) ?_;refine ⟨_,fun I' L' hS=>GV (MapAt.mono hV.at' hS.1 (fun x hx=>hS.2 _ (by simp [hx]))) hV.map,?_⟩;have en:BZ .eql (.pointer none) (.pointer none)=some (.bool true):=rfl;simp only [hn,lkV,Bool.false_eq_true,if_false,en,SSd,Nat.reduceAdd];exact Gh.to (X++F) (Gh.done hk')
 ·simp only at e;subst e
  rw [Gn hm hkr,EO hm hkr] at hA;obtain ⟨p1,p2,p3⟩:=hok.part;obtain ⟨ps,hS⟩:=hS;obtain ⟨p,sl,Y,R,hps,hp,hv,hX,g4⟩:=hS.open' hm hkr;obtain ⟨m,kv,es,clock,hV,hcp⟩:=g4 ((p,Am sl r.it)::(Y++(R++F))) (fun x hx=>by
   have:=hp.mem_iff.1 hx;simp only [List.mem_cons,List.mem_append] at this ⊢;rcases this with h|h|h
   ·exact .inl h
   ·exact .inr (.inl h)
   ·exact .inr (.inr (.inl h)))
  have hs1:SrtK (keysOf (A++⟨k,r.vs,noIt⟩::B)):=by rw [IR (r:=r) hkr.symm];exact hs
  have hlen1:(A++(⟨k,r.vs,noIt⟩:Row)::B).length≤100000000:=by simpa using hlen
  refine Cal.perm (L':=(p,Am sl r.it)::(Y++(R++F))) (AP (by rw [AN,BA hp];((try simp only [AM,AN,AY,AQ]);(try ac_rfl)))) ?_;have back:∀(bat:Nat) {v:Value},K v I (X++F)→Gh (K v) I ((bat,stO a)::(p,Am sl r.it)::(Y++(R++F))):=fun bat v h=>Gh.to ((p,Am sl r.it)::(Y++(R++F))) (Gh.perm (L':=X++F) (AP (by rw [AN,BA hp];((try simp only [AM,AN,AY,AQ]);(try ac_rfl)))) (Gh.done h));have back2:∀(bv bat:Nat) {v:Value},K v I (X++F)→Gh (K v) I ((bv,QY r.it.ver)::(bat,stO a)::(p,Am sl r.it)::(Y++(R++F))):=fun bv bat v h=>Gh.to ((p,Am sl r.it)::(Y++(R++F))) (Gh.perm (L':=X++F) (AP (by rw [AN,BA hp];((try simp only [AM,AN,AY,AQ]);(try ac_rfl)))) (Gh.done h));cases yes
  ·refine OZ ?_;unfold NK;refine AV (fun bat=>?_);refine call (Cb h1 ?_);simp only [k1,Bool.not_true,SSd,Nat.reduceAdd];refine call (ED ?_);simp only [k2,Bool.not_true,SSd,Nat.reduceAdd];refine AZ ?_;try simp only [SSd,Nat.reduceAdd]
   refine CQ (hV.head 0 _ rfl) (Ext.refl _) ?_;refine Ek h1 (Ext.refl _) ?_;refine ⟨_,fun I' L' hS=>GV (MapAt.mono hV.at' hS.1 (fun x hx=>hS.2 _ (by simp [hx]))) hV.map,?_⟩;simp only [hcp,lkV,Bool.false_eq_true,if_false,SSd,Nat.reduceAdd];refine rdb ?_;try simp only [SSd,Nat.reduceAdd]
   refine AC (fun e=>?_) (fun e=>?_)
   ·have e':r.it.txn≠txn:=by simpa using e
    rw [if_pos e'] at hA;exact back _ (same 0 hA)
   have e':¬r.it.txn≠txn:=by simpa using e
   rw [if_neg e'] at hA;try simp only [SSd,Nat.reduceAdd]
   refine rdP [.int .i64 r.it.ver.fAt.fWall,.int .i64 r.it.ver.fAt.fLogic,.bool r.it.ver.fDel,BR r.it.ver.fValue] rfl rfl ?_;refine AV (fun bv=>?_);refine stB rfl rfl (AK rfl) ?_;try simp only [SSd,Nat.reduceAdd]
   refine rdb ?_;obtain ⟨sa,sc,rfl⟩:=hv.form;try simp only [SSd,Nat.reduceAdd]
   refine AZ ?_;try simp only [SSd,Nat.reduceAdd]
   refine ⟨⟨Ext.refl _,fun _ h=>h⟩,?_⟩;have hA':FK ⟨A++r::B,fl⟩ k txn false a=(true,0):=by rw [hA];rfl
   try simp only [SSd,Nat.reduceAdd]
   refine stP _ rfl rfl rfl rfl ?_;refine Gq h1 (Ext.refl _) ?_;have hS':=hX.close ⟨k,r.vs,noIt⟩ _ Y ((p,Am (.slice sa r.vs.length sc) noIt)::(Y++R)) rfl hv (List.Perm.refl _);refine call (Cal.perm (L':=((p,Am (.slice sa r.vs.length sc) noIt)::(Y++R))++((bv,QY r.it.ver)::(bat,stO a)::F)) (AP (by ((try simp only [AM,AN,AY,AQ]);(try ac_rfl)))) ?_);refine FM hS' hs1 (Cj hm rfl) (by simp [noIt]) (fun h=>absurd rfl h) (by omega) (by simp [noIt]) (fun X' I' hI' h'=>?_);refine Po (X:=X') (F:=F) (h1.mono hI') ⟨_,h'⟩ hm rfl hs1 hlen1 (fun X2 h2=>?_);have hk':=hk X2 I' hI';rw [hA'] at hk';refine hk' ?_;have e2:Dv ⟨A++r::B,fl⟩ k txn false a=⟨if Ax ⟨k,r.vs,noIt⟩=true then A++B else A++⟨k,r.vs,noIt⟩::B,fl⟩:=by
    unfold Dv;rw [hA'];simp only [if_true];rw [Fp hm hkr,Ff (fun x hx=>(p1 x hx).some) (fun x hx=>(p3 x hx).some)];simp [Gi,hkr]
   have e3:GN ⟨A++r::B,fl⟩ k txn false a nt=CO nt (105::k) (true,[]):=by
    unfold GN;rw [hA'];simp only [if_true];rw [Cj hm hkr];rfl
   rw [e2,e3];exact h2
  ·refine OZ ?_;unfold NK;refine AV (fun bat=>?_);refine call (Cb h1 ?_);simp only [k1,Bool.not_true,SSd,Nat.reduceAdd];refine call (ED ?_);simp only [k2,Bool.not_true,SSd,Nat.reduceAdd];refine rdB rfl ?_;refine call (BS (x:=a) ?_);simp only [k3 rfl,Bool.not_true,SSd,Nat.reduceAdd];refine AZ ?_;try simp only [SSd,Nat.reduceAdd]
   refine CQ (hV.head 0 _ rfl) (Ext.refl _) ?_;refine Ek h1 (Ext.refl _) ?_;refine ⟨_,fun I' L' hS=>GV (MapAt.mono hV.at' hS.1 (fun x hx=>hS.2 _ (by simp [hx]))) hV.map,?_⟩;simp only [hcp,lkV,Bool.false_eq_true,if_false,SSd,Nat.reduceAdd];refine rdb ?_;try simp only [SSd,Nat.reduceAdd]
   refine AC (fun e=>?_) (fun e=>?_)
   ·have e':r.it.txn≠txn:=by simpa using e
    rw [if_pos e'] at hA;exact back _ (same 0 hA)
   have e':¬r.it.txn≠txn:=by simpa using e
   rw [if_neg e'] at hA;try simp only [SSd,Nat.reduceAdd]
   refine rdP [.int .i64 r.it.ver.fAt.fWall,.int .i64 r.it.ver.fAt.fLogic,.bool r.it.ver.fDel,BR r.it.ver.fValue] rfl rfl ?_;refine AV (fun bv=>?_);refine stB rfl rfl (AK rfl) ?_;try simp only [SSd,Nat.reduceAdd]
   refine rdb ?_;obtain ⟨sa,sc,rfl⟩:=hv.form;try simp only [SSd,Nat.reduceAdd]
   refine AZ ?_;try simp only [SSd,Nat.reduceAdd]
   refine As [.int .i64 r.it.ver.fAt.fWall,.int .i64 r.it.ver.fAt.fLogic] rfl rfl ?_;refine Ai rfl ?_;refine call (BE (x:=r.it.ver.fAt) (y:=a) ?_);refine FC (Ext.refl _) ?_;refine AG (fun e2=>?_) (fun e2=>?_);rotate_left
   ·have e2':bhd r.it.ver.fAt a=true:=by simpa using e2
    rw [if_pos ⟨rfl,.inl e2'⟩] at hA;exact back2 _ _ (same 1 hA)
   have tail:∀hA':FK ⟨A++r::B,fl⟩ k txn true a=(true,0),(Pv (Ab #[.int .i64 0,.int .i64 0,.bool false,.string (ByteArray.mk #[]),.int .i64 0] #[(0,4),(4,1)] []) fun v44=>Pv (AO (pt p)) fun v45=>Pv (AA 1 v45) fun v46=>Sto 5 v46 v44<|gh fun _=>Rv none (bsR a1) fun v47=>
     CT ω 190 #[pt b,v47]<|gh fun v48=>Br (.bool true) (GQ ω (pt b) a1 (pt bat) (.bool false) (.int .i64 0) (pt p) (pt bv) (fun v=>Gh (K v))) (En ω (pt b) a1 (.bool false) (.int .i64 0) (fun v=>Gh (K v)))) I
     ((bv,QY r.it.ver)::(bat,stO a)::(p,Am (.slice sa r.vs.length sc) r.it)::(Y++(R++F))):=by
    intro hA';try simp only [SSd,Nat.reduceAdd]
    refine stP _ rfl rfl rfl rfl ?_;refine Gq h1 (Ext.refl _) ?_;have hS':=hX.close ⟨k,r.vs,noIt⟩ _ Y ((p,Am (.slice sa r.vs.length sc) noIt)::(Y++R)) rfl hv (List.Perm.refl _);refine Bz (Cal.perm (L':=((p,Am (.slice sa r.vs.length sc) noIt)::(Y++R))++((bv,QY r.it.ver)::(bat,stO a)::F)) (AP (by ((try simp only [AM,AN,AY,AQ]);(try ac_rfl)))) ?_);refine FM hS' hs1 (Cj hm rfl) (by simp [noIt]) (fun h=>absurd rfl h) (by omega) (by simp [noIt]) (fun X' I' hI' h'=>?_);obtain ⟨p',sl',Y',R',hps',gp,gv,gX,g4'⟩:=h'.open' hm rfl;obtain rfl:p'=p:=by rw [hps] at hps';exact (Option.some.inj hps').symm
    refine Gh.perm (L':=(p',Am sl' noIt)::(Y'++(R'++((bv,QY r.it.ver)::(bat,stO a)::F)))) (AP (by rw [AN,BA gp];((try simp only [AM,AN,AY,AQ]);(try ac_rfl)))) (Gh.done ?_);obtain ⟨sa2,sc2,rfl⟩:=gv.form;try simp only [SSd,Nat.reduceAdd]
    unfold GQ;try simp only [SSd,Nat.reduceAdd]
    refine rdB rfl ?_;refine stP _ rfl rfl rfl rfl ?_;refine AZ ?_;try simp only [SSd,Nat.reduceAdd]
    refine Ah ?_;refine Ai rfl ?_;refine Fb rfl (by omega) rfl (fun X1 u hX1=>?_);refine FC (Ext.refl _) ?_;have hvl:r.vs.length≤100000000:=hvs r (by simp);refine Dz (X:=Y') (news:=Et (EI a r)) rfl gv (hX1.news (fun x hx=>List.mem_append_left _ hx)) (AK rfl) (by simp only;omega) (by simp only;omega) (fun Y2 sl2 hY2=>?_);obtain ⟨sa3,sc3,rfl⟩:=hY2.form;try simp only [SSd,Nat.reduceAdd]
    refine st1 rfl ?_;refine Gq (h1.mono hI') (Ext.refl _) ?_;refine rdB rfl ?_;have hv2:VsO Y2 (.slice sa3 (r.vs.length+1) sc3) (r.vs++[EI a r]):=by
     unfold VsO;rw [FW,List.length_append];exact hY2
    have hS2:=gX.close ⟨k,r.vs++[EI a r],noIt⟩ _ Y2 ((p',Am (.slice sa3 (r.vs.length+1) sc3) noIt)::(Y2++R')) rfl hv2 (List.Perm.refl _);have hvalL:r.it.ver.fValue.length≤10000:=by
     rcases p2.it with h|⟨_,h⟩
     ·rw [h];simp [noIt]
     ·exact h.len
    refine call (Cal.perm (L':=((p',Am (.slice sa3 (r.vs.length+1) sc3) noIt)::(Y2++R'))++((bv,QY (EI a r))::(bat,stO a)::(X1++F))) (AP (by ((try simp only [AM,AN,AY,AQ]);(try ac_rfl)))) ?_);refine KV (v:=EI a r) hS2 (k3 rfl) (by omega) (by simp only [EI];omega) (fun X2 I2 hI2 h2=>?_);have hs2:SrtK (keysOf (A++⟨k,r.vs++[EI a r],noIt⟩::B)):=by rw [IR (r:=r) hkr.symm];exact hs
    refine Po (X:=X2) (F:=F) (h1.mono (hI'.trans hI2)) ⟨_,h2⟩ hm rfl hs2 (by simpa using hlen) (fun X3 h3=>?_);have hk':=hk X3 I2 (hI'.trans hI2);rw [hA'] at hk';refine hk' ?_;have e2:Dv ⟨A++r::B,fl⟩ k txn true a=⟨if Ax ⟨k,r.vs++[EI a r],noIt⟩=true then A++B else A++⟨k,r.vs++[EI a r],noIt⟩::B,fl⟩:=by
     unfold Dv;rw [hA'];simp only [if_true];rw [Fp hm hkr,Ff (fun x hx=>(p1 x hx).some) (fun x hx=>(p3 x hx).some)];rw [show Gi true a r=⟨k,r.vs++[EI a r],noIt⟩ from by simp [Gi,hkr,EI]]
    have e3:GN ⟨A++r::B,fl⟩ k txn true a nt=CO (CO nt (105::k) (true,[])) (Ag k (EI a r)) (false,Af (EI a r)):=by
     unfold GN;rw [hA'];simp only [if_true];rw [Cj hm hkr];rfl
    rw [e2,e3];exact h3
   cases hl:r.vs.getLast? with
   |none=>
    have hv0:r.vs=[]:=List.getLast?_eq_none_iff.1 hl;have eg:decide ((0:Int) < ((r.vs.length:Nat):Int))=false:=by rw [hv0];rfl
    have hA':FK ⟨A++r::B,fl⟩ k txn true a=(true,0):=by
     rw [hA,hl,if_neg];rintro ⟨_,h|h⟩
     ·rw [h] at e2;cases e2
     ·cases h
    have htail:=tail hA';simp only [SSd,Nat.reduceAdd] at htail;simp only [eg,SSd,Nat.reduceAdd];exact htail
   |some v=>
    obtain ⟨hv0,hlx⟩:=Xv hl;have eg:decide ((0:Int) < ((r.vs.length:Nat):Int))=true:=by simpa using hv0
    simp only [eg,SSd,Nat.reduceAdd];refine Ai rfl ?_;refine Ah ?_;have hvl:r.vs.length≤100000000:=hvs r (by simp);rw [wrap_i64 _ (by omega)];have el:((r.vs.length:Nat):Int) - 1=((r.vs.length - 1:Nat):Int):=by omega
    rw [el];obtain ⟨qq,off,cc,hix,hl4,hcc,hcr⟩:=RL.ix (VsO.rl (I:=I) (L:=Y) hv (fun _ h=>h)) (i:=((r.vs.length - 1:Nat):Int)) (by omega) (by omega);obtain rfl:cc=Et _:=hcc;rw [hlx] at hcr;obtain ⟨w1,w2,w3⟩:=PN (hcr I Y (Ext.refl _) (fun _ h=>h));simp only [hix,SSd,Nat.reduceAdd];refine VG (vs:=[.int .i64 v.fAt.fWall,.int .i64 v.fAt.fLogic]) rfl (fun I' L' hS=>w1.mono hS.1 (fun x hx=>hS.2 _ (by simp [hx]))) ?_;refine call (BE (x:=a) (y:=v.fAt) ?_);try simp only [SSd,Nat.reduceAdd]
    refine AC (fun e3=>?_) (fun e3=>?_)
    ·have e3':JH a r.vs.getLast? =true:=by rw [hl];simpa [JH] using e3
     rw [if_pos ⟨rfl,.inr e3'⟩] at hA;exact back2 _ _ (same 1 hA)
    ·have hA':FK ⟨A++r::B,fl⟩ k txn true a=(true,0):=by
      rw [hA,hl,if_neg];rintro ⟨_,h|h⟩
      ·rw [h] at e2;cases e2
      ·simp only [JH] at h;rw [h] at e3;cases e3
     have htail:=tail hA';simp only [SSd,Nat.reduceAdd] at htail;exact htail
end
section
variable {ω:Om}{I:Imm}{L:LH}{K:Value→M}
theorem Kv {P:Program}{f:FuncId}{first cap args:Array Value}(he:Bh P f=true)(h:Cal P ω f (first++args++cap) K I L):CalV P ω (.func (.func f) first cap) args K I L:=by
 simp only [CalV];rw [if_pos he];exact h
structure Clo (ω:Om)(fid:FuncId)(caps:Array Value)(f:TVer→Bool)(vs:List TVer)(J:List TVer→Imm→LH→Prop):Prop where
 ent:Bh Tryz.prog fid=true
 mono:∀done I I' G,J done I G→Ext I I'→J done I' G
 step:∀done v rest I G L (K:Value→M),vs=done++v::rest→J done I G→(∀I' G',Ext I I'→J (done++[v]) I' G'→K (.bool (f v)) I' (G'++L))→CT ω fid (#[]++#[vv v]++caps) K I (G++L)
theorem take_snoc {α:Type}{l:List α}{j:Nat}(h:j < l.length):l.take (j+1)=l.take j++[l[j]]:=by
 rw [List.take_add_one,List.getElem?_eq_getElem h];rfl
theorem Jd {α:Type}{l:List α}{j:Nat}(h:j < l.length):l=l.take j++l[j]::l.drop (j+1):=by
 rw [←List.drop_eq_getElem_cons h,List.take_append_drop]
theorem TZ {fid:FuncId}{caps:Array Value}{f:TVer→Bool}{vs:List TVer}{J:List TVer→Imm→LH→Prop}{Y G F:LH}{sl:Value}(hc:Clo ω fid caps f vs J)(hv:VsO Y sl vs)(hlen:vs.length≤1000000000)(hJ:J [] I G)
  (h1:∀I' G',Ext I I'→J vs I' G'→(∀v∈vs,f v=false)→K (.int .i64 (-1)) I' (Y++(G'++F)))
  (h2:∀I' G' (i:Nat) (hi:i < vs.length),Ext I I'→J (vs.take (i+1)) I' G'→(∀v∈vs.take i,f v=false)→f vs[i]=true→K (.int .i64 i) I' (Y++(G'++F))):
  CT ω 247 #[sl,.func (.func fid) #[] caps] K I (Y++(G++F)):=by
 refine ALf ?_;unfold ABB;obtain ⟨sa,sc,rfl⟩:=hv.form;try simp only [SSd,Nat.reduceAdd]
 refine loop (fun n s I' L'=>Ext I I'∧∃(j:Nat) (G':LH),n+j=vs.length∧s=(.int .i64 0,.int .i64 j,())∧L'=Y++(G'++F)∧J (vs.take j) I' G'∧∀v∈vs.take j,f v=false) vs.length ⟨Ext.refl _,0,G,rfl,rfl,rfl,by simpa using hJ,by simp⟩ ?_;rintro n s I' L' ⟨hI,j,G',hnj,rfl,rfl,hj,hA⟩;unfold WU;try simp only [SSd,Nat.reduceAdd]
 refine AC (fun e=>?_) (fun e=>?_)
 ·have hjl:j < vs.length:=by simpa using e
  obtain ⟨qq,off,cc,hix,hl4,hcc,hcr⟩:=RL.ix (VsO.rl (I:=I') (L:=Y) hv (fun _ h=>h)) (i:=(j:Int)) (by omega) (by omega);obtain rfl:cc=Et _:=hcc;rw [Aq hjl] at hcr;simp only [hix,SSd,Nat.reduceAdd];refine Jl (hcr I' Y (Ext.refl _) (fun _ h=>h)) (Ext.refl _) rfl ?_;refine Kv hc.ent (Cal.gh (Cal.perm (L':=G'++(Y++F)) (AP (by ((try simp only [AM,AN,AY,AQ]);(try ac_rfl)))) (hc.step (vs.take j) vs[j] (vs.drop (j+1)) _ _ _ _ (Jd hjl) hj (fun I2 G2 hI2 h2'=>Gh.perm (L':=Y++(G2++F)) (AP (by ((try simp only [AM,AN,AY,AQ]);(try ac_rfl)))) (Gh.done (Gh.done ?_))))));rw [←take_snoc hjl] at h2';refine AC (fun e2=>?_) (fun e2=>?_)
  ·exact Gh.done (h2 I2 G2 j hjl (hI.trans hI2) h2' hA e2)
  ·try simp only [SSd,Nat.reduceAdd]
   rw [wrap_i64 _ (by omega)];refine Gh.done ⟨n - 1,by omega,hI.trans hI2,j+1,G2,by omega,rfl,rfl,h2',fun v hv=>?_⟩;rw [take_snoc hjl] at hv;rcases List.mem_append.1 hv with hv|hv
   ·exact hA v hv
   ·simp only [List.mem_singleton] at hv;subst hv;exact e2
 ·have hjl:j=vs.length:=by simp at e;omega
  subst hjl;rw [List.take_length] at hj hA;exact Gh.done (h1 I' G' hI hj hA)
theorem AAO {vs:List TVer}{j:Nat}(hj:j < vs.length):((EP vs).drop (j * 4)).take 4=Et vs[j]:=by
 have h:=(Fj (I:=fun _=>none) vs).get (i:=j) (x:=vs[j]) (by simp [hj]);exact h.2
theorem YZ {vs:List TVer}{j k:Nat}{u:Value}(hj:j < vs.length)(hk:(Et vs[j])[k]? =some u):(EP vs)[j * 4+k]? =some u:=by
 have hlt:k < 4:=by have:=(List.getElem?_eq_some_iff.1 hk).1;simpa [Et] using this
 rw [←AAO hj,List.getElem?_take,if_pos hlt,List.getElem?_drop] at hk;exact hk
theorem ZU {fid:FuncId}{caps:Array Value}{f:TVer→Bool}{vs:List TVer}{J:List TVer→Imm→LH→Prop}{Y G F:LH}{sl:Value}(hc:Clo ω fid caps f vs J)(hv:VsO Y sl vs)(hlen:vs.length≤1000000000)(hJ:J [] I G)
  (hk:∀I' G' Y' v',Ext I I'→J vs I' G'→VsO Y' v' (vs.filter fun v=> !f v)→K v' I' (Y'++(G'++F))):
  CT ω 223 #[sl,.func (.func fid) #[] caps] K I (Y++(G++F)):=by
 refine ALq ?_;unfold ABY;refine call (TZ hc hv hlen hJ (fun I1 G1 hI1 hJ1 hA=>?_) (fun I1 G1 i hi hI1 hJ1 hA hf=>?_))
 ·have e:((-1:Int)== -1)=true:=rfl;simp only [e,SSd,Nat.reduceAdd];rw [List.filter_eq_self.2 (fun v hv=>by simp [hA v hv])] at hk;exact Gh.done (hk I1 G1 Y sl hI1 hJ1 hv)
 have e:((i:Int)== -1)=false:=by simp
 simp only [e,SSd,Nat.reduceAdd];rw [wrap_i64 _ (by omega)];obtain ⟨hcl,⟨_,h0,_⟩|⟨b,cap,cs,rfl,rfl,hsz,hle,hcs⟩⟩:=hv
 ·omega
 have hkeep0:(vs.take (i+1)).filter (fun v=> !f v)=vs.take i:=by
  rw [take_snoc hi,List.filter_append,List.filter_eq_self.2 (fun v hv=>by simp [hA v hv])];simp [hf]
 refine loop (fun n s I' L'=>Ext I I'∧∃(j q:Nat) (W:Array Value) (G':LH),n+j=vs.length∧s=(.int .i64 q,.int .i64 j,())∧L'=[(b,Obj.cells W 253 (0,0))]++(G'++F)∧J (vs.take j) I' G'∧q < j∧W.size=cap * 4∧q=((vs.take j).filter (fun v=> !f v)).length∧
   (∀(k:Nat) (u:Value),(EP ((vs.take j).filter (fun v=> !f v)))[k]? =some u→W[k]? =some u)∧(∀(k:Nat) (u:Value),j * 4≤k→(EP vs)[k]? =some u→W[k]? =some u)) (vs.length - (i+1))
  ⟨hI1,i+1,i,cs,G1,by omega,by simp,rfl,hJ1,by omega,hsz,by rw [hkeep0,List.length_take];omega,fun k u hu=>?_,fun k u _ hu=>hcs k u hu⟩ ?_
 ·rw [hkeep0] at hu;refine hcs k u ?_;rw [show EP vs=EP (vs.take i)++EP (vs.drop i) by rw [←FW,List.take_append_drop],List.getElem?_append_left (List.getElem?_eq_some_iff.1 hu).1];exact hu
 rintro n s I' L' ⟨hI,j,q,W,G',hnj,rfl,rfl,hj,hqj,hW,hq,hA1,hA2⟩;unfold WY;try simp only [SSd,Nat.reduceAdd]
 refine AC (fun e=>?_) (fun e=>?_)
 ·have hjl:j < vs.length:=by simpa using e
  simp only [IU b 0 4 .i64 vs.length cap (j:Int) (by omega) (by omega),Int.toNat_natCast,SSd,Nat.reduceAdd];refine rdN (vs:=Et vs[j]) rfl (fun k u hu=>Cell.own (List.mem_append_left _ (List.mem_singleton.2 rfl)) (hA2 _ u (by omega) (YZ hjl hu))) ?_;refine AV (fun bv=>?_);refine stB (vs:=Et vs[j]) rfl rfl (AK rfl) ?_;refine rdB (l:=Et vs[j]) rfl ?_;refine Kv hc.ent (Cal.gh (Cal.perm (L':=G'++((bv,.cells (Et vs[j]).toArray 253 (0,0))::(b,Obj.cells W 253 (0,0))::F)) (AP (by ((try simp only [AM,AN,AY,AQ]);(try ac_rfl)))) (hc.step (vs.take j) vs[j] (vs.drop (j+1)) _ _ _ _ (Jd hjl) hj (fun I2 G2 hI2 h2'=>
   Gh.perm (L':=(bv,.cells (Et vs[j]).toArray 253 (0,0))::(b,Obj.cells W 253 (0,0))::(G2++F)) (AP (by ((try simp only [AM,AN,AY,AQ]);(try ac_rfl)))) (Gh.done (Gh.done ?_))))))
  rw [←take_snoc hjl] at h2';have hfil:(vs.take (j+1)).filter (fun v=> !f v)=if f vs[j]=true then (vs.take j).filter (fun v=> !f v) else (vs.take j).filter (fun v=> !f v)++[vs[j]]:=by
   rw [take_snoc hjl,List.filter_append];by_cases hfj:f vs[j]=true <;> simp [hfj]
  try simp only [SSd,Nat.reduceAdd]
  refine AC (fun e2=>?_) (fun e2=>?_)
  ·have e2':f vs[j]=false:=by simpa using e2
   rw [if_neg (by rw [e2'];simp)] at hfil;refine rdB (l:=Et vs[j]) rfl ?_;simp only [IU b 0 4 .i64 vs.length cap (q:Int) (by omega) (by omega),Int.toNat_natCast,SSd,Nat.reduceAdd];have hkl:(EP ((vs.take j).filter (fun v=> !f v))).length=q * 4:=by rw [KG,hq]
   have hfit:q * 4+(Et vs[j]).length≤W.size:=by rw [hW];simp [Et];omega
   refine ⟨b,q * 4,W,253,[(bv,.cells (Et vs[j]).toArray 253 (0,0))],G2++F,rfl,rfl,AK rfl,by rw [hW];omega,rfl,?_⟩;unfold Lx;try simp only [SSd,Nat.reduceAdd]
   rw [wrap_i64 _ (by omega),wrap_i64 _ (by omega)];refine Gh.to ((b,Obj.cells (wr W (q * 4) (Et vs[j])) 253 (0,0))::(G2++F)) (Gh.done (Gh.done ⟨n - 1,by omega,hI.trans hI2,j+1,q+1,_,G2,by omega,rfl,rfl,h2',by omega,by rw [Bf];exact hW,by rw [hfil,List.length_append,←hq];rfl,fun k u hu=>?_,fun k u hk hu=>?_⟩))
   ·rw [hfil,FW] at hu;rw [DG _ _ _ _ hfit];by_cases hk:k < q * 4
    ·rw [if_pos hk];rw [List.getElem?_append_left (by omega)] at hu;exact hA1 k u hu
    ·rw [List.getElem?_append_right (by omega),hkl] at hu;have hlt:=(List.getElem?_eq_some_iff.1 hu).1;have e4:EP [vs[j]]=Et vs[j]:=by simp [EP]
     rw [e4] at hu hlt;rw [if_neg hk,if_pos (by omega)];exact hu
   ·rw [DG _ _ _ _ hfit,if_neg (by omega),if_neg (by simp [Et];omega)];exact hA2 k u (by omega) hu
  ·have e2':f vs[j]=true:=by simpa using e2
   rw [if_pos e2'] at hfil;unfold Lx;try simp only [SSd,Nat.reduceAdd]
   rw [wrap_i64 _ (by omega)];refine Gh.to ((b,Obj.cells W 253 (0,0))::(G2++F)) (Gh.done ⟨n - 1,by omega,hI.trans hI2,j+1,q,W,G2,by omega,rfl,rfl,h2',by omega,hW,by rw [hfil];exact hq,by rw [hfil];exact hA1,fun k u hk hu=>hA2 k u (by omega) hu⟩)
 ·have hjl:j=vs.length:=by simp at e;omega
  subst hjl;rw [List.take_length] at hj hA1 hq;unfold WX;have s1:=Je (b:=b) (off:=0) (len:=vs.length) (cap:=cap) (lo:=q) (hi:=vs.length) (n:=4) (blo:=some (.int .i64 q)) (bhi:=none) (BD _ _ _ _ (by omega)) rfl (by omega);have s2:=Je (b:=b) (off:=0) (len:=vs.length) (cap:=cap) (lo:=0) (hi:=q) (n:=4) (blo:=none) (bhi:=some (.int .i64 q)) rfl (BD _ _ _ _ (by omega)) (by omega);simp only [s1,SSd,Nat.reduceAdd];refine .inr ⟨b,_,vs.length - q,cap - q,W,253,[],G'++F,rfl,rfl,by rw [hW];simp;omega,AK rfl,Gh.done ?_⟩;simp only [Nat.sub_zero,Nat.zero_mul,Nat.add_zero] at s2;simp only [s2,SSd,Nat.reduceAdd];have hzl:(Builtin.zeroCells #[Value.int .i64 0,.int .i64 0,.bool false,.string (ByteArray.mk #[])] (vs.length - q)).toList.length=(vs.length - q) * 4:=by
   rw [Array.length_toList,Ce];rfl
  generalize hz:(Builtin.zeroCells #[Value.int .i64 0,.int .i64 0,.bool false,.string (ByteArray.mk #[])] (vs.length - q)).toList=z at hzl ⊢;refine Gh.done (hk I' G' [(b,.cells (wr W (q * 4) z) 253 (0,0))] _ hI hj ⟨by rw [KG],.inr ⟨b,cap,_,rfl,?_,by rw [Bf];exact hW,by omega,fun k u hu=>?_⟩⟩)
  ·rw [←hq]
  ·have hlt:=(List.getElem?_eq_some_iff.1 hu).1;rw [KG,←hq] at hlt;rw [DG _ _ _ _ (by rw [hW,hzl];omega),if_pos hlt];exact hA1 k u hu
def NoteR (I:Imm)(b m ch:Nat)(kv:Value)(fl:TStamp)(X:LH)(nt:Nts):Prop:=∃NX,X.Perm ((b,spO m kv fl ch)::NX)∧NtR I ch NX nt
theorem NoteR.mono {I I':Imm}{b m ch:Nat}{kv:Value}{fl:TStamp}{X:LH}{nt:Nts}(h:NoteR I b m ch kv fl X nt)(hI:Ext I I'):NoteR I' b m ch kv fl X nt:=by
 obtain ⟨NX,h1,h2⟩:=h;exact ⟨NX,h1,h2.mono hI⟩
theorem QC {b m ch:Nat}{kv a1 a2:Value}{fl:TStamp}{X F:LH}{nt:Nts}{d:Bool}{k l:List UInt8}(hN:NoteR I b m ch kv fl X nt)(h1:Bytes I a1 k)(h2:Bytes I a2 l)
  (hk:∀X',NoteR I b m ch kv fl X' (CO nt k (d,l))→K (.tuple #[]) I (X'++F)):CT ω 187 #[pt b,a1,a2,.bool d] K I (X++F):=by
 obtain ⟨NX,hp,hN⟩:=hN;refine Cal.gh (Cal.perm (L':=(b,spO m kv fl ch)::(NX++F)) (AP (by rw [AN,BA hp];((try simp only [AM,AN,AY,AQ]);(try ac_rfl)))) (Pz hN h1 h2 fun NX' h'=>?_));exact Gh.perm (L':=((b,spO m kv fl ch)::NX')++F) (AP (by ((try simp only [AM,AN,AY,AQ]);(try ac_rfl)))) (Gh.done (hk _ ⟨NX',List.Perm.refl _,h'⟩))
theorem QA {b m ch:Nat}{kv:Value}{fl:TStamp}{X F:LH}{nt:Nts}{k:List UInt8}{v:TVer}(hN:NoteR I b m ch kv fl X nt)(hr:AU v.fAt=true)(hl:k.length≤1000000000)
  (hk:∀X' I',Ext I I'→NoteR I' b m ch kv fl X' (CO nt (Ag k v) (true,[]))→K (.tuple #[]) I' (X'++F)):
  CT ω 188 #[pt b,BR k,vv v] K I (X++F):=by
 refine AML ?_;unfold ACK;refine AV (fun q=>?_);refine rdB rfl ?_;refine Bz (KF hr hl (fun X1 u I1 hI1 hX=>?_));refine OB.freeze hX (fun I2 hI2 hB=>Gh.done ?_);refine call (Cal.to (X++F) ?_);refine QC (hN.mono (hI1.trans hI2)) hB (show Bytes I2 _ [] from SlI.nil I2 1 none 0) (fun X' h'=>?_);exact Gh.done (hk X' I2 (hI1.trans hI2) h')
theorem SpP.open2 {b:Nat}{ps:List Nat}{X:LH}{A B:List Row}{r:Row}{fl:TStamp}{nt:Nts}{k:List UInt8}(h:SpP I b ps X ⟨A++r::B,fl⟩ nt)(hm:Mid A k B)(hk:r.key=k):
  ∃p sl Y XN R m ch kv,X.Perm ((p,Am sl r.it)::(Y++(XN++R)))∧VsO Y sl r.vs∧NoteR I b m ch kv fl XN nt∧
   (∀I' r' sl' Y' XN' X' nt',Ext I I'→r'.key=k→VsO Y' sl' r'.vs→NoteR I' b m ch kv fl XN' nt'→X'.Perm ((p,Am sl' r'.it)::(Y'++(XN'++R)))→SpP I' b ps X' ⟨A++r'::B,fl⟩ nt')∧
   (∀L',(∀x∈X,x∈L')→∃m kv es clock,ViewF I L' b m kv es clock ps ⟨A++r::B,fl⟩∧Az ps (A++r::B) k=some (pt p)):=by
 obtain ⟨m,ch,kv,es,clock,KX,RX,NX,hp,hF⟩:=h;obtain ⟨P,p,Q,rfl,hl,hl2⟩:=Jc hF.rows.len;obtain ⟨sl,Y,Z,h1,h2,h3⟩:=RowsR.pick hl hF.rows;refine ⟨p,sl,Y,(b,spO m kv fl ch)::NX,(m,.map es clock)::(KX++Z),m,ch,kv,AP ?_,h2,⟨NX,List.Perm.refl _,hF.nts⟩,fun I' r' sl' Y' XN' X' nt' hI hk' hv hN hX=>?_,fun L' hL=>?_⟩
 ·rw [BA hp];simp only [AM,AN,BA h1]
  ((try simp only [AM,AN,AY,AQ]);(try ac_rfl))
 ·obtain ⟨NX',hq,hN'⟩:=hN;refine ⟨m,ch,kv,es,clock,KX,(p,Am sl' r'.it)::(Y'++Z),NX',AP ?_,?_,?_,?_,hN'⟩
  ·rw [BA hX];simp only [AM,AN,BA hq];((try simp only [AM,AN,AY,AQ]);(try ac_rfl))
  ·have:=hF.map;rw [show Az (P++p::Q) (A++r'::B)=Az (P++p::Q) (A++r::B) from LW hl (hk ▸ hm) (hk'.trans hk.symm)];exact this
  ·have e:keysOf (A++r'::B)=keysOf (A++r::B):=by simp [keysOf,hk',hk]
   show StrO KX kv (keysOf (A++r'::B));rw [e];exact hF.keys
  ·exact RowsR.put hl (List.Perm.refl _) hv h3
 ·refine ⟨m,kv,es,clock,?_,EG hl hm hk⟩;have hmem:∀x,x∈((b,spO m kv fl ch)::(m,Obj.map es clock)::(KX++(RX++NX)))→x∈L':=fun x hx=>hL _ (hp.mem_iff.2 hx);exact ⟨Dj (hmem _ (List.mem_cons_self ..)) 4,.inl (hmem _ (by simp)),hF.map,StrO.rl hF.keys (fun x hx=>hmem _ (by simp [hx])),hF.rows.len,hF.rows.cell (fun x hx=>hmem _ (by simp [hx]))⟩
def HW (k:List UInt8)(l:List TVer)(nt:Nts):Nts:=l.foldl (fun nt v=>CO nt (Ag k v) (true,[])) nt
abbrev OU (bl bd bg bs bk b:Nat)(kp:TVer)(g:Nat)(k:List UInt8)(XN:LH):LH:=
 (bl,stO kp.fAt)::(bd,.cells #[.bool kp.fDel] 4 (0,0))::(bg,.cells #[.int .i64 g] 3 (0,0))::(bs,.cells #[pt b] 99 (0,0))::(bk,.cells #[BR k] 9 (0,0))::XN
theorem ANg {bl bd bg bs bk b m ch g0:Nat}{kv:Value}{fl:TStamp}{kp:TVer}{k:List UInt8}{vs:List TVer}{nt:Nts}(hvs:∀v∈vs,AU v.fAt=true)(hg:g0+vs.length≤1000000000)(hkl:k.length≤1000):
  Clo ω 224 #[pt bl,pt bd,pt bg,pt bs,pt bk] (CE kp) vs (fun done I G=>∃XN,G=OU bl bd bg bs bk b kp (g0+(done.filter (CE kp)).length) k XN∧NoteR I b m ch kv fl XN (HW k (done.filter (CE kp)) nt)):=by
 refine ⟨by kernel_rfl,fun done I I' G ⟨XN,h1,h2⟩ hI=>⟨XN,h1,h2.mono hI⟩,?_⟩;rintro done v rest I G L K hv ⟨XN,rfl,hN⟩ hk;have hvr:=hvs v (by rw [hv];simp);have hfl:(done.filter (CE kp)).length≤done.length:=List.length_filter_le ..;have hlen:done.length+1≤vs.length:=by rw [hv];simp
 show CT ω 224 #[vv v,pt bl,pt bd,pt bg,pt bs,pt bk] K I _;refine ALp ?_;unfold ABW;refine AV (fun q=>?_);have hfilt:(done++[v]).filter (CE kp)=if CE kp v=true then done.filter (CE kp)++[v] else done.filter (CE kp):=by
  rw [List.filter_append];by_cases h:CE kp v=true <;> simp [h]
 rw [hfilt] at hk;have old:∀(ho:CE kp v=true) (p7 p8:Value),p8= .bool true→Lu ω (pt bg) (pt bs) (pt bk) (pt q) p7 p8 (fun v=>Gh (K v)) I ((q,QY v)::(OU bl bd bg bs bk b kp (g0+(done.filter (CE kp)).length) k XN++L)):=by
  rintro ho p7 p8 rfl;rw [ho] at hk;simp only [if_true] at hk;unfold Lu;simp only [OU,List.cons_append];refine rdb ?_;try simp only [SSd,Nat.reduceAdd]
  rw [wrap_i64 _ (by omega)];refine st1 rfl ?_;refine rdb ?_;refine rdb ?_;refine rdB rfl ?_;refine call (Cal.perm (L':=XN++((q,QY v)::(bl,stO kp.fAt)::(bd,.cells #[.bool kp.fDel] 4 (0,0))::(bg,.cells #[.int .i64 ((g0+(done.filter (CE kp)).length:Nat)+1)] 3 (0,0))::(bs,.cells #[pt b] 99 (0,0))::(bk,.cells #[BR k] 9 (0,0))::L)) (AP (by ((try simp only [AM,AN,AY,AQ]);(try ac_rfl)))) ?_);refine QA hN hvr (by omega) (fun X' I' hI' h'=>?_);have h:=hk I' (OU bl bd bg bs bk b kp (g0+(done.filter (CE kp)++[v]).length) k X') hI' ⟨X',rfl,by unfold HW;rw [List.foldl_append];exact h'⟩;have e:((g0+(done.filter (CE kp)++[v]).length:Nat):Int)=((g0+(done.filter (CE kp)).length:Nat):Int)+1:=by simp;omega
  simp only [OU,List.cons_append] at h;rw [e] at h;exact Gh.to ((bl,stO kp.fAt)::(bd,.cells #[.bool kp.fDel] 4 (0,0))::(bg,.cells #[.int .i64 ((g0+(done.filter (CE kp)).length:Nat)+1)] 3 (0,0))::(bs,.cells #[pt b] 99 (0,0))::(bk,.cells #[BR k] 9 (0,0))::(X'++L)) (Gh.done h)
 have new:∀(ho:CE kp v=false),Gh (K (.bool false)) I ((q,QY v)::(OU bl bd bg bs bk b kp (g0+(done.filter (CE kp)).length) k XN++L)):=by
  intro ho;rw [ho] at hk;exact Gh.drop (List.sublist_cons_self ..) (Gh.done (hk I _ (Ext.refl _) ⟨XN,rfl,hN⟩))
 simp only [OU,List.cons_append] at old new ⊢;refine rdB rfl ?_;try simp only [SSd,Nat.reduceAdd]
 refine rdP [.int .i64 v.fAt.fWall,.int .i64 v.fAt.fLogic] rfl rfl ?_;refine call (BE (x:=kp.fAt) (y:=v.fAt) ?_);refine AG (fun e=>?_) (fun e=>?_)
 ·refine rdb ?_;refine AG (fun e2=>?_) (fun e2=>?_)
  ·try simp only [SSd,Nat.reduceAdd]
   refine rdP [.int .i64 v.fAt.fWall,.int .i64 v.fAt.fLogic] rfl rfl ?_;refine rdB rfl ?_;try simp only [SSd,Nat.reduceAdd]
   refine AC (fun e3=>?_) (fun e3=>?_)
   ·exact old (by simp only [CE];rw [e2,e3];simp) _ _ (by rw [e3])
   ·have h:=new (by simp only [CE];rw [e,e3];simp);rw [e3];exact h
  ·exact new (by simp only [CE];rw [e,Bool.eq_false_iff.2 e2];simp)
 ·have e':bhd kp.fAt v.fAt=true:=by simpa using e
  exact old (by simp only [CE];rw [e'];simp) _ _ rfl
end
def JI (fl:TStamp)(rows:List Row)(i:Nat):List Row:=Cd ((rows.take i).map (colR fl))++rows.drop i
def LQ (fl:TStamp)(r:Row):Nat:=r.vs.length - (colR fl r).vs.length
def FV (fl:TStamp)(rows:List Row):Nat:=(rows.map (LQ fl)).sum
def EV (fl:TStamp)(nt:Nts)(r:Row):Nts:=match upTo r.vs fl with
 |none=>nt
 |some k=>HW r.key (r.vs.filter (CE k)) nt
def EJ (fl:TStamp)(rows:List Row)(nt:Nts):Nts:=rows.foldl (EV fl) nt
def Hf (sp:Sp)(b:TStamp)(nt:Nts):Nts:=if AU b=false then nt else EJ (CM sp b) sp.rows (if bhd b sp.floor=true then CO nt [102] (false,stF b) else nt)
theorem AFT {fl:TStamp}{rows:List Row}(hs:SrtK (keysOf rows))(i:Nat):SrtK (keysOf (JI fl rows i)):=by
 have h:(keysOf (JI fl rows i)).Sublist (keysOf rows):=by
  unfold JI;conv=>rhs;rw [←List.take_append_drop i rows]
  simp only [keysOf,List.map_append];refine List.Sublist.append ?_ (List.Sublist.refl _);have e:(rows.take i).map (·.key)=((rows.take i).map (colR fl)).map (·.key):=by rw [List.map_map];exact List.map_congr_left fun x _=>(FD fl x).symm
  rw [e];exact List.Sublist.map _ List.filter_sublist
 exact List.Pairwise.sublist h hs
theorem AJO {fl:TStamp}{rows:List Row}{i:Nat}(hi:i < rows.length):JI fl rows i=Cd ((rows.take i).map (colR fl))++rows[i]::rows.drop (i+1):=by
 unfold JI;rw [List.drop_eq_getElem_cons hi]
theorem Zw {fl:TStamp}{rows:List Row}{i:Nat}(hi:i < rows.length):JI fl rows (i+1)=if Ax (colR fl rows[i])=true then Cd ((rows.take i).map (colR fl))++rows.drop (i+1) else Cd ((rows.take i).map (colR fl))++colR fl rows[i]::rows.drop (i+1):=by
 unfold JI;rw [take_snoc hi,List.map_append];unfold Cd;rw [List.filter_append];by_cases h:Ax (colR fl rows[i])=true <;> simp [h]
theorem AFF (fl:TStamp)(r:Row):LQ fl r+(colR fl r).vs.length=r.vs.length:=by
 have:=(Js fl r).length_le;unfold LQ;omega
theorem OP {α:Type}(f:α→Bool):∀l:List α,(l.filter f).length+(l.filter fun x=> !f x).length=l.length
 |[]=>rfl
 |x::l=>by
  have:=OP f l;by_cases h:f x=true <;> simp [h] <;> omega
theorem VX {fl:TStamp}{r:Row}{k:TVer}(h:upTo r.vs fl=some k):LQ fl r=(r.vs.filter (CE k)).length:=by
 have e:(colR fl r).vs=r.vs.filter fun v=> !CE k v:=by unfold colR;rw [h]
 have:=OP (CE k) r.vs;unfold LQ;rw [e];omega
theorem VY {fl:TStamp}{r:Row}(h:upTo r.vs fl=none):LQ fl r=0:=by
 have e:(colR fl r).vs=r.vs:=by unfold colR;rw [h]
 unfold LQ;rw [e];omega
theorem Ua (rows:List Row):Ae (Cd rows)=Ae rows:=by
 induction rows with
 |nil=>rfl
 |cons r rs ih=>
  unfold Cd Ae at *;rw [List.filter_cons];by_cases h:Ax r=true
  ·have hv:r.vs=[]:=by
    simp [Ax] at h;exact h.1
   simp [h,hv];exact ih
  ·simp [h];exact ih
theorem MY (fl:TStamp)(rows:List Row):Ae (rows.map (colR fl))+FV fl rows=Ae rows:=by
 induction rows with
 |nil=>rfl
 |cons r rs ih=>
  have:=AFF fl r;simp [Ae,FV] at ih ⊢;omega
theorem VZ {fl:TStamp}{rows:List Row}{i:Nat}(hi:i < rows.length):FV fl (rows.take (i+1))=FV fl (rows.take i)+LQ fl rows[i]:=by
 unfold FV;rw [take_snoc hi,List.map_append,List.sum_append];simp only [List.map_cons,List.map_nil,List.sum_cons,List.sum_nil,Nat.add_zero]
theorem VL {fl:TStamp}{rows:List Row}{i:Nat}(hi:i < rows.length)(nt:Nts):EJ fl (rows.take (i+1)) nt=EV fl (EJ fl (rows.take i) nt) rows[i]:=by
 unfold EJ;rw [take_snoc hi,List.foldl_append];rfl
section
variable {ω:Om}{I:Imm}{L:LH}{K:Value→M}
theorem QP {b bl bd bg bb bs bk p:Nat}{kp:TVer}{g i:Nat}{k:List UInt8}{A B:List Row}{r:Row}{fl below:TStamp}{nt:Nts}{ps:List Nat}{sl:Value}{Y XN R XC F:LH}{m ch:Nat}{kv:Value}{Kn0:(Value×Unit)→M}
  (hm:Mid A k B) (hkr:r.key=k) (hs:SrtK (keysOf (A++r::B))) (hlen:(A++r::B).length≤100000000) (hvs:∀v∈r.vs,AU v.fAt=true) (hg:g+r.vs.length≤1000000000) (hkl:k.length≤1000) (hi:i < 1000000000)
  (hv:VsO Y sl r.vs) (hN:NoteR I b m ch kv fl XN nt)
  (hclose:∀I' r' sl' Y' XN' X' nt',Ext I I'→r'.key=k→VsO Y' sl' r'.vs→NoteR I' b m ch kv fl XN' nt'→X'.Perm ((p,Am sl' r'.it)::(Y'++(XN'++R)))→SpP I' b ps X' ⟨A++r'::B,fl⟩ nt')
  (hL:L.Perm ((p,Am sl r.it)::(Y++(OU bl bd bg bs bk b kp g k XN++((bb,stO below)::(R++(XC++F)))))))
  (hk:∀I' X',Ext I I'→SpR I' b X' ⟨if Ax ⟨k,r.vs.filter (fun v=> !CE kp v),r.it⟩=true then A++B else A++⟨k,r.vs.filter (fun v=> !CE kp v),r.it⟩::B,fl⟩ (HW k (r.vs.filter (CE kp)) nt)→
   Gh (Kn0 (.int .i64 ((i:Int)+1),())) I' ((bg,.cells #[.int .i64 ((g+(r.vs.filter (CE kp)).length:Nat):Int)] 3 (0,0))::(bb,stO below)::(bs,.cells #[pt b] 99 (0,0))::(XC++(X'++F)))):
  Ly ω (pt bs) (pt bg) (pt bk) (pt p) (pt bl) (pt bd) (.int .i64 i) (fun s=>Gh (Kn0 s)) (fun v=>Gh (K v)) I L:=by
 have hmem:(p,Am sl r.it)∈L:=hL.mem_iff.2 (List.mem_cons_self ..);unfold Ly;try simp only [SSd,Nat.reduceAdd]
 refine rd1 (Cell.own hmem rfl) ?_;have hvl:r.vs.length≤1000000000:=by omega
 refine Bz (Cal.perm (L':=Y++(OU bl bd bg bs bk b kp g k XN++((p,Am sl r.it)::(bb,stO below)::(R++(XC++F))))) (AP (by rw [BA hL];((try simp only [AM,AN,AY,AQ]);(try ac_rfl)))) ?_);refine ZU (G:=OU bl bd bg bs bk b kp g k XN) (ANg (nt:=nt) (m:=m) (ch:=ch) (kv:=kv) (fl:=fl) (g0:=g) hvs hg hkl) hv hvl ⟨XN,rfl,hN⟩ (fun I' G' Y' v' hI ⟨XN',hG',hN'⟩ hv'=>?_);subst hG';obtain ⟨sa,sc,rfl⟩:=hv'.form;refine Gh.perm (L':=(p,Am sl r.it)::(Y'++(OU bl bd bg bs bk b kp (g+(r.vs.filter (CE kp)).length) k XN'++((bb,stO below)::(R++(XC++F)))))) (AP (by ((try simp only [AM,AN,AY,AQ]);(try ac_rfl)))) (Gh.done ?_);try simp only [SSd,Nat.reduceAdd]
 refine st1 rfl ?_;have hS2:=hclose I' ⟨k,r.vs.filter (fun v=> !CE kp v),r.it⟩ _ Y' XN' ((p,Am (.slice sa (r.vs.filter (fun v=> !CE kp v)).length sc) r.it)::(Y'++(XN'++R))) _ hI rfl hv' hN' (List.Perm.refl _);refine rdb ?_;refine rdb ?_;refine call (Cal.perm (L':=((p,Am (.slice sa (r.vs.filter (fun v=> !CE kp v)).length sc) r.it)::(Y'++(XN'++R)))++((bl,stO kp.fAt)::(bd,.cells #[.bool kp.fDel] 4 (0,0))::(bg,.cells #[.int .i64 ((g+(r.vs.filter (CE kp)).length:Nat):Int)] 3 (0,0))::(bs,.cells #[pt b] 99 (0,0))::(bk,.cells #[BR k] 9 (0,0))::(bb,stO below)::(XC++F))) (AP (by ((try simp only [AM,AN,AY,AQ]);(try ac_rfl)))) ?_);refine PS ⟨ps,hS2⟩ hm rfl (by rw [IR (r:=r) hkr.symm];exact hs) (by simpa using hlen) (fun X3 h3=>?_);unfold MA;try simp only [SSd,Nat.reduceAdd]
 rw [wrap_i64 _ (by omega)];refine Gh.to ((bg,.cells #[.int .i64 ((g+(r.vs.filter (CE kp)).length:Nat):Int)] 3 (0,0))::(bb,stO below)::(bs,.cells #[pt b] 99 (0,0))::(XC++(X3++F))) ?_;exact hk I' X3 hI h3
theorem Zv (fl:TStamp)(rows:List Row):JI fl rows 0=rows:=by simp [JI,Cd]
theorem AFV (fl:TStamp)(rows:List Row):JI fl rows rows.length=Cd (rows.map (colR fl)):=by simp [JI]
theorem AFU (fl:TStamp)(rows:List Row)(i:Nat):(JI fl rows i).length≤rows.length:=by
 unfold JI Cd;rw [List.length_append];have h1:=List.length_filter_le (fun r=> !Ax r) ((rows.take i).map (colR fl));simp at h1 ⊢;omega
abbrev Zu (b bs bb bg:Nat)(below:TStamp)(g:Nat)(R:LH):LH:=(bg,.cells #[.int .i64 g] 3 (0,0))::(bb,stO below)::(bs,.cells #[pt b] 99 (0,0))::R
theorem QQ {b bs bb:Nat}{rows:List Row}{fl below:TStamp}{nt:Nts}{X F:LH}(hS:SpR I b X ⟨rows,fl⟩ nt)(hok:SpOk ⟨rows,fl⟩)(hlen:rows.length≤100000000)(hn:Ae rows≤100000000)
  (hk:∀I' X',Ext I I'→SpR I' b X' ⟨Cd (rows.map (colR fl)),fl⟩ (EJ fl rows nt)→K (.tuple #[.int .i64 (FV fl rows:Nat),.int .i64 0]) I' (X'++F)):
  MB ω (pt bs) (.int .i64 0) (.int .i64 0) (fun v=>Gh (K v)) I ((bb,stO below)::(bs,.cells #[pt b] 99 (0,0))::(X++F)):=by
 have hs:=hok.rise;simp only at hs
 unfold MB;refine AV (fun bg=>?_);refine st1 rfl ?_;refine rdb ?_;obtain ⟨m0,kv0,es0,clock0,ps0,hV0⟩:=hS.view (L:=(bg,.cells #[.int .i64 0] 3 (0,0))::(bb,stO below)::(bs,.cells #[pt b] 99 (0,0))::(X++F)) (fun x hx=>by simp [hx]);try simp only [SSd,Nat.reduceAdd]
 refine rdC (hV0.head 1 _ rfl) (Ext.refl _) ?_;have hkl:(keysOf rows).length=rows.length:=by simp [keysOf]
 refine Bz (JJ hV0.keys (by show (keysOf rows).length * 16≤_;rw [hkl];omega) (fun XC cv hC=>Gh.perm (L':=Zu b bs bb bg below 0 (XC++(X++F))) (AP (by ((try simp only [AM,AN,AY,AQ]);(try ac_rfl)))) (Gh.done ?_)));obtain ⟨ca,cc,rfl⟩:=hC.form;try simp only [SSd,Nat.reduceAdd]
 simp only at hC ⊢
 rw [hkl];have hgt:∀i,FV fl (rows.take i)≤100000000:=by
  intro i;have h1:=MY fl (rows.take i);have h2:Ae (rows.take i)≤Ae rows:=Ge (List.take_sublist ..);omega
 refine loop (fun n s I' L'=>Ext I I'∧∃(i:Nat) (X':LH),n+i=rows.length∧s=(.int .i64 i,())∧L'=Zu b bs bb bg below (FV fl (rows.take i)) (XC++(X'++F))∧SpR I' b X' ⟨JI fl rows i,fl⟩ (EJ fl (rows.take i) nt)) rows.length
  ⟨Ext.refl _,0,X,rfl,rfl,rfl,by rw [Zv];exact hS⟩ ?_
 rintro n s I' L' ⟨hI,i,X',hni,rfl,rfl,hS'⟩;unfold XB;try simp only [SSd,Nat.reduceAdd]
 refine AC (fun e=>?_) (fun e=>?_);rotate_left
 ·have hil:i=rows.length:=by simp at e;omega
  subst hil;rw [List.take_length] at hS' ⊢;rw [AFV] at hS';unfold XA;refine rdb ?_;exact Gh.to (X'++F) (Gh.done (hk I' X' hI hS'))
 have hil:i < rows.length:=by simpa using e
 have hok1:=hok.rows rows[i] (List.getElem_mem hil);have hat:=AJO (fl:=fl) hil;have hsrt:SrtK (keysOf (Cd ((rows.take i).map (colR fl))++rows[i]::rows.drop (i+1))):=hat ▸ AFT hs i;have hclen:(Cd ((rows.take i).map (colR fl))++rows[i]::rows.drop (i+1)).length≤100000000:=by rw [←hat];exact Nat.le_trans (AFU ..) hlen
 rw [hat] at hS';have hsucc:=Zw (fl:=fl) hil;have hgc:=VZ (fl:=fl) hil;have hnc:=VL (fl:=fl) hil nt;have hgi:=hgt i;have hgs:=hgt (i+1);have hvl:rows[i].vs.length≤100000000:=by
  have h1:Ae [rows[i]]≤Ae rows:=Ge (List.singleton_sublist.2 (List.getElem_mem hil));simp [Ae] at h1 hn ⊢;omega
 have hkeyg:Dh (keysOf rows) (i:Int)=rows[i].key:=by rw [Aq (by omega)];simp [keysOf]
 generalize rows[i]=r at *;have hm:=hsrt.mid;obtain ⟨ps,hS'⟩:=hS';obtain ⟨p,sl,Y,XN,R,m,ch,kv,hp,hv,hN,hclose,hview⟩:=hS'.open2 hm rfl;obtain ⟨qq,off,c2,hix,hl4,hcc,hcr⟩:=RL.ix (StrO.rl (I:=I') (L:=XC) hC (fun _ h=>h)) (i:=(i:Int)) (by omega) (by rw [hkl];omega);obtain rfl:c2=_:=hcc;rw [hkeyg] at hcr;rw [hkl] at hix;simp only [hix,SSd,Nat.reduceAdd];refine rdC (hcr I' XC (Ext.refl _) (fun _ h=>h) 0 _ rfl) (Ext.refl _) ?_;refine AV (fun bk=>?_);refine st1 rfl ?_;refine AZ ?_;try simp only [SSd,Nat.reduceAdd]
 obtain ⟨m',kv',es',clock',hV,hcp⟩:=hview ((bk,.cells #[BR r.key] 9 (0,0))::Zu b bs bb bg below (FV fl (rows.take i)) (XC++(X'++F))) (fun x hx=>by simp [hx]);refine Ah ?_;try simp only [SSd,Nat.reduceAdd]
 refine CQ (hV.head 0 _ rfl) (Ext.refl _) ?_;refine Ah ?_;refine ⟨_,fun I2 L2 hS=>GV (MapAt.mono hV.at' hS.1 (fun x hx=>hS.2 _ (by simpa using hx))) hV.map,?_⟩;simp only [hcp,lkV,Bool.false_eq_true,if_false,SSd,Nat.reduceAdd];refine rdb ?_;try simp only [SSd,Nat.reduceAdd]
 have hfl:Cells I' ((bk,.cells #[BR r.key] 9 (0,0))::Zu b bs bb bg below (FV fl (rows.take i)) (XC++(X'++F))) b 2 [.int .i64 fl.fWall,.int .i64 fl.fLogic]:=by simpa using hV.head.sub (k:=2) (m:=2)
 refine Jl hfl (Ext.refl _) rfl ?_;refine call (AJd (hV.cellAt hsrt (Cj hm rfl) hcp) (by omega) (fun pv hpv=>?_));cases hu:upTo r.vs fl with
 |none=>
  rw [hu] at hpv;obtain rfl:pv= .pointer none:=hpv;have en:BZ .eql (.pointer none) (.pointer none)=some (.bool true):=rfl;simp only [en,SSd,Nat.reduceAdd];unfold MA;try simp only [SSd,Nat.reduceAdd]
  rw [wrap_i64 _ (by omega)];have hc:colR fl r=r:=by unfold colR;rw [hu]
  rw [hc,hok1.some] at hsucc;have hg0:=VY hu;rw [hg0] at hgc;have hn1:EJ fl (rows.take (i+1)) nt=EJ fl (rows.take i) nt:=by rw [hnc];unfold EV;rw [hu]
  refine Gh.to (Zu b bs bb bg below (FV fl (rows.take i)) (XC++(X'++F))) (Gh.done ⟨n - 1,by omega,hI,i+1,X',by omega,rfl,by rw [hgc];rfl,?_⟩);rw [hn1,hsucc];exact ⟨ps,hS'⟩
 |some kp=>
  rw [hu] at hpv;obtain ⟨qq,off2,rfl,hc⟩:=hpv;obtain ⟨g1,g2,g3⟩:=PN hc;try simp only [SSd,Nat.reduceAdd]
  refine AZ ?_;try simp only [SSd,Nat.reduceAdd]
  refine Gl g1 (Ext.refl _) rfl ?_;refine CQ g2 (Ext.refl _) ?_;have hcv:colR fl r=⟨r.key,r.vs.filter (fun v=> !CE kp v),r.it⟩:=by unfold colR;rw [hu]
  have hg0:=VX hu;rw [hcv] at hsucc;rw [hg0] at hgc;have hn1:EJ fl (rows.take (i+1)) nt=HW r.key (r.vs.filter (CE kp)) (EJ fl (rows.take i) nt):=by rw [hnc];unfold EV;rw [hu]
  have fin:∀I2 X2,Ext I' I2→SpR I2 b X2 ⟨if Ax ⟨r.key,r.vs.filter (fun v=> !CE kp v),r.it⟩=true then Cd ((rows.take i).map (colR fl))++rows.drop (i+1) else Cd ((rows.take i).map (colR fl))++⟨r.key,r.vs.filter (fun v=> !CE kp v),r.it⟩::rows.drop (i+1),fl⟩ (HW r.key (r.vs.filter (CE kp)) (EJ fl (rows.take i) nt))→
    Gh ((fun s'=>fun I2 L2=>∃m',m' < n∧Ext I I2∧∃i X',m'+i=rows.length∧s'=(Value.int .i64 (i:Nat),())∧L2=Zu b bs bb bg below (FV fl (rows.take i)) (XC++(X'++F))∧SpR I2 b X' ⟨JI fl rows i,fl⟩ (EJ fl (rows.take i) nt)) (.int .i64 ((i:Int)+1),())) I2 ((bg,.cells #[.int .i64 ((FV fl (rows.take i)+(r.vs.filter (CE kp)).length:Nat):Int)] 3 (0,0))::(bb,stO below)::(bs,.cells #[pt b] 99 (0,0))::(XC++(X2++F))):=by
   intro I2 X2 hI2 h2;refine Gh.done ⟨n - 1,by omega,hI.trans hI2,i+1,X2,by omega,rfl,by rw [hgc],?_⟩;rw [hn1,hsucc];exact h2
  refine And.intro ?_ ?_
  ·refine AV (fun bl=>FC (Ext.refl _) ?_);refine AV (fun bd=>FC (Ext.refl _) ?_);refine stB rfl rfl (AK rfl) ?_;refine FC (Ext.refl _) ?_;refine st1 rfl ?_;exact QP (XC:=XC) (Y:=Y) (XN:=XN) (R:=R) (g:=FV fl (rows.take i)) (i:=i) (kp:=kp) (below:=below) (F:=F) hm rfl hsrt hclen (fun v hv=>(hok1.vs v hv).right) (by omega) (by have:=hok1.keyL;omega) (by omega) hv hN hclose (AP (by simp only [AM,AN,BA hp];((try simp only [AM,AN,AY,AQ]);(try ac_rfl)))) fin
  ·refine AV (fun bd=>FC (Ext.refl _) ?_);refine AV (fun bl=>FC (Ext.refl _) ?_);refine stB rfl rfl (AK rfl) ?_;refine FC (Ext.refl _) ?_;refine st1 rfl ?_;exact QP (XC:=XC) (Y:=Y) (XN:=XN) (R:=R) (g:=FV fl (rows.take i)) (i:=i) (kp:=kp) (below:=below) (F:=F) hm rfl hsrt hclen (fun v hv=>(hok1.vs v hv).right) (by omega) (by have:=hok1.keyL;omega) (by omega) hv hN hclose (AP (by simp only [AM,AN,BA hp];((try simp only [AM,AN,AY,AQ]);(try ac_rfl)))) fin
theorem Rw {b:Nat}{sp:Sp}{below:TStamp}{nt:Nts}{X F:LH}(hS:SpR I b X sp nt)(hok:SpOk sp)(hlen:sp.rows.length≤100000000)(hn:Ae sp.rows≤100000000)
  (hk:∀X' I',Ext I I'→SpR I' b X' (colS sp below) (Hf sp below nt)→K (.tuple #[.int .i64 (PD sp below).1,.int .i64 (PD sp below).2]) I' (X'++F)):
  CT ω 162 #[pt b,sv below] K I (X++F):=by
 obtain ⟨rows,fl⟩:=sp;obtain ⟨ps,m,ch,kv,es,clock,KX,RX,NX,hp,hF⟩:=hS;simp only at hp hF hlen hn
 by_cases hr:AU below=false
 ·have e1:colS ⟨rows,fl⟩ below=⟨rows,fl⟩:=by unfold colS;rw [if_pos hr]
  have e2:Hf ⟨rows,fl⟩ below nt=nt:=by unfold Hf;rw [if_pos hr]
  have e3:PD ⟨rows,fl⟩ below=(0,1):=by unfold PD;rw [if_pos hr]
  rw [e1,e2] at hk;have hk':=hk X I (Ext.refl _) ⟨ps,m,ch,kv,es,clock,KX,RX,NX,hp,hF⟩;rw [e3] at hk';refine AFg ?_;unfold XD;refine AV (fun bs=>AV (fun bb=>?_));refine rdB rfl ?_;refine call (BS (x:=below) ?_);simp only [hr,Bool.not_false,SSd,Nat.reduceAdd];exact Gh.to (X++F) (Gh.done hk')
 have e1:colS ⟨rows,fl⟩ below=⟨Cd (rows.map (colR (CM ⟨rows,fl⟩ below))),CM ⟨rows,fl⟩ below⟩:=by unfold colS;rw [if_neg hr]
 have e2:Hf ⟨rows,fl⟩ below nt=EJ (CM ⟨rows,fl⟩ below) rows (if bhd below fl=true then CO nt [102] (false,stF below) else nt):=by unfold Hf;rw [if_neg hr]
 have e3:PD ⟨rows,fl⟩ below=(((FV (CM ⟨rows,fl⟩ below) rows:Nat):Int),0):=by
  unfold PD;rw [if_neg hr,e1];have h1:=MY (CM ⟨rows,fl⟩ below) rows;have h2:=Ua (rows.map (colR (CM ⟨rows,fl⟩ below)));simp only [h2];congr 1
  omega
 rw [e1,e2] at hk;rw [e3] at hk;simp only at hk
 refine Cal.perm (L':=(b,spO m kv fl ch)::(m,.map es clock)::(KX++(RX++(NX++F)))) (AP (by rw [AN,BA hp];((try simp only [AM,AN,AY,AQ]);(try ac_rfl)))) ?_;refine AFg ?_;unfold XD;refine AV (fun bs=>AV (fun bb=>?_));refine rdB rfl ?_;refine call (BS (x:=below) ?_);simp only [hr,Bool.not_true,SSd,Nat.reduceAdd];refine AZ ?_;refine Ai rfl ?_;refine Ah ?_;try simp only [SSd,Nat.reduceAdd]
 refine As [.int .i64 fl.fWall,.int .i64 fl.fLogic] rfl rfl ?_;have hok2:SpOk ⟨rows,CM ⟨rows,fl⟩ below⟩:=⟨hok.rise,hok.rows,by
  unfold CM;simp only
  split
  ·simpa using hr
  ·exact hok.floor⟩
 have hr':AU below=true:=by simpa using hr
 by_cases hb:bhd below fl=true
 ·have ef:CM ⟨rows,fl⟩ below=below:=if_pos hb;rw [ef,if_pos hb] at hk;rw [ef] at hok2;refine call (BE (x:=below) (y:=fl) ?_);simp only [hb,SSd,Nat.reduceAdd];refine rdb ?_;refine rdB rfl ?_;try simp only [SSd,Nat.reduceAdd]
  refine stP _ rfl rfl rfl rfl ?_;try simp only [SSd,Nat.reduceAdd]
  refine rdb ?_;refine Bz (Cal.perm (L':=((b,spO m kv below ch)::(m,.map es clock)::(KX++(RX++NX)))++((bb,stO below)::(bs,.cells #[pt b] 99 (0,0))::F)) (AP (by ((try simp only [AM,AN,AY,AQ]);(try ac_rfl)))) ?_);refine Nj (sp:=⟨rows,below⟩) (ps:=ps) (nt:=nt) ⟨m,ch,kv,es,clock,KX,RX,NX,List.Perm.refl _,hF.map,hF.keys,hF.rows,hF.nts⟩ hr' (fun X' I' hI' h'=>?_);refine Gh.perm (L':=(bb,stO below)::(bs,.cells #[pt b] 99 (0,0))::(X'++F)) (AP (by ((try simp only [AM,AN,AY,AQ]);(try ac_rfl)))) (Gh.done ?_);exact QQ ⟨ps,h'⟩ hok2 hlen hn (fun I2 X2 hI2 h2=>hk X2 I2 (hI'.trans hI2) h2)
 ·have ef:CM ⟨rows,fl⟩ below=fl:=if_neg hb;rw [ef,if_neg hb] at hk;rw [ef] at hok2;refine Bz (BE (x:=below) (y:=fl) ?_);refine Gh.perm (L':=(bb,stO below)::(bs,.cells #[pt b] 99 (0,0))::(X++F)) (AP (by simp only [AM,AN,BA hp];((try simp only [AM,AN,AY,AQ]);(try ac_rfl)))) (Gh.done ?_);simp only [Bool.eq_false_iff.2 hb,SSd,Nat.reduceAdd];exact QQ ⟨ps,m,ch,kv,es,clock,KX,RX,NX,hp,hF⟩ hok2 hlen hn (fun I2 X2 hI2 h2=>hk X2 I2 hI2 h2)
end
section
variable {ω:Om}{I:Imm}{L:LH}{K:Value→M}
end
section
variable {ω:Om}{I:Imm}{L:LH}{K:Value→M}
end
section
variable {ω:Om}{I:Imm}{L:LH}{K:Value→M}
theorem NV {rows:List Row}(hs:SrtK (keysOf rows)){i:Nat}(hi:i < rows.length):rowOf rows rows[i].key=some rows[i]:=by
 have e:=Jd hi;generalize rows[i]=r at e ⊢;have hm:Mid (rows.take i) r.key (rows.drop (i+1)):=SrtK.mid (e ▸ hs);conv=>lhs;rw [e]
 exact Cj hm rfl
end
section
variable {ω:Om}{I:Imm}{L:LH}{K:Value→M}
theorem NZ {α:Type}{R:Imm→α→List Value→Prop}{T n bytes:Nat}{z:Array Value}{X6 L0 F:LH}{v:Value}{xs:List α}{x:α}{c cells:List Value}[SplitL X6 L0 F](hz:z.size=n)(hn:0 < n)(h6:SlO T n X6 v cells xs.length)(hR:Recs (R I) n xs cells)(hx:R I x c)(hcl:c.length=n)(h1:∀u∈c,u.oneCell'=true)(hb:(xs.length+1) * bytes≤150000000000000)(hl:xs.length+1≤150000000000000)
  (hk:∀X1 X6' v' cells',SlO T n X6' v' cells' (xs++[x]).length→Recs (R I) n (xs++[x]) cells'→Gh (K v') I (X6'++(X1++F))):
  BN T n z 1 [(0,.agg c.toArray)] (gh fun u=>App T n bytes z v u (gh K)) I L0:=by
 refine Fb hz hn (by simpa [Value.cells] using hcl) (fun X1 u hX1=>?_);refine KA (X:=X6) hz h6 (hX1.news (fun x hx=>List.mem_append_left _ hx)) (fun u hu=>h1 u (by simpa [Value.cells] using hu)) hb hl (fun X' v' hX'=>?_);exact hk X1 X' v' _ (by simpa [Value.cells] using hX') (Recs.append hR (Recs.one (by simpa [Value.cells] using hcl) (by simpa [Value.cells] using hx)))
end
section
variable {ω:Om}{I:Imm}{L:LH}{K:Value→M}
end
theorem Bytes.drop {I:Imm}{v:Value}{l:List UInt8}{n:Nat}(h:Bytes I v l)(hn:n≤l.length):∃v',Ao 1 v (some (.int .i64 n)) none none=some v'∧Bytes I v' (l.drop n):=by
 obtain ⟨v',h1,h2⟩:=SlI.part (lo:=n) (hi:=l.length) h hn (Nat.le_refl _) (some (.int .i64 n)) none (fun y hy=>.inl (BD _ _ _ _ (by omega))) (fun cap hc=>rfl);refine ⟨v',h1,?_⟩;unfold Bytes;rw [List.length_drop];have:((u8s l).drop (n * 1)).take ((l.length - n) * 1)=u8s (l.drop n):=by
  rw [Nat.mul_one,Nat.mul_one,List.take_of_length_le (by simp [u8s])];simp [u8s]
 rwa [this] at h2
theorem Bytes.part {I:Imm}{v:Value}{l:List UInt8}{lo hi:Nat}(h:Bytes I v l)(h1:lo≤hi)(h2:hi≤l.length):∃v',Ao 1 v (some (.int .i64 lo)) (some (.int .i64 hi)) none=some v'∧Bytes I v' ((l.drop lo).take (hi - lo)):=by
 obtain ⟨v',e1,e2⟩:=SlI.part (lo:=lo) (hi:=hi) h h1 h2 (some (.int .i64 lo)) (some (.int .i64 hi)) (fun y hy=>.inl (BD _ _ _ _ (by omega))) (fun cap hc=>BD _ _ _ _ (by omega));refine ⟨v',e1,?_⟩;unfold Bytes;rw [List.length_take,List.length_drop,Nat.min_eq_left (by omega)];have:((u8s l).drop (lo * 1)).take ((hi - lo) * 1)=u8s ((l.drop lo).take (hi - lo)):=by
  simp [u8s]
 rwa [this] at e2
theorem Bytes.take {I:Imm}{v:Value}{l:List UInt8}{n:Nat}(h:Bytes I v l)(hn:n≤l.length):∃v',Ao 1 v none (some (.int .i64 n)) none=some v'∧Bytes I v' (l.take n):=by
 obtain ⟨v',e1,e2⟩:=SlI.part (lo:=0) (hi:=n) h (by omega) hn none (some (.int .i64 n)) (fun y hy=>.inl rfl) (fun cap hc=>BD _ _ _ _ (by omega));refine ⟨v',e1,?_⟩;unfold Bytes;rw [List.length_take,Nat.min_eq_left (by omega)];have:((u8s l).drop (0 * 1)).take ((n - 0) * 1)=u8s (l.take n):=by
  simp [u8s]
 rwa [this] at e2
theorem Bytes.at {I:Imm}{v:Value}{l:List UInt8}{k:Nat}(h:Bytes I v l)(hk:k < l.length):∃b off,ixV 1 v (.int .i64 k)=some (.pointer (some ⟨b,off,none⟩))∧∀I' L,Ext I I'→Cell I' L b off (.int .u8 (l[k]).toNat):=by
 obtain ⟨b,off,hix,hc⟩:=SlI.ix h .i64 hk;have hone:((u8s l).drop (k * 1)).take 1=[.int .u8 (l[k]).toNat]:=by
  rw [Nat.mul_one,List.drop_eq_getElem_cons (by simpa [u8s] using hk),List.take_succ_cons];simp [u8s]
 rw [hone] at hc;exact ⟨b,off,hix,fun I' L hI=>hc I' L hI 0 _ rfl⟩
def Re (k:List UInt8)(rows:List Row):List Row:=rows.filter fun r=>blt r.key k
def CL (k:List UInt8)(rows:List Row):List Row:=rows.filter fun r=> !blt r.key k
theorem Nx {k:List UInt8}:∀{rows:List Row},SrtK (keysOf rows)→rows=Re k rows++CL k rows
 |[],_=>rfl
 |r::rs,h=>by
  obtain ⟨h1,h2⟩:=List.pairwise_cons.1 (show List.Pairwise _ (r.key::keysOf rs) from h);have ih:=Nx (k:=k) h2;unfold Re CL at ih ⊢;have g1:(r::rs).filter (fun r=>blt r.key k)=if blt r.key k=true then r::rs.filter (fun r=>blt r.key k) else rs.filter (fun r=>blt r.key k):=List.filter_cons
  have g2:(r::rs).filter (fun r=> !blt r.key k)=if (!blt r.key k)=true then r::rs.filter (fun r=> !blt r.key k) else rs.filter (fun r=> !blt r.key k):=List.filter_cons
  rw [g1,g2];cases hb:blt r.key k with
  |true=>rw [if_pos rfl,if_neg (by simp),List.cons_append,←ih]
  |false=>
   have hall:∀x∈rs,blt x.key k=false:=fun x hx=>by
    cases hx2:blt x.key k with
    |false=>rfl
    |true=>rw [Bj (h1 _ (List.mem_map_of_mem hx)) hx2] at hb;cases hb
   rw [if_neg (by simp),if_pos (by simp),List.filter_eq_nil_iff.2 (fun x hx=>by simp [hall x hx]),List.filter_eq_self.2 (fun x hx=>by simp [hall x hx])];rfl
def Is (k:List UInt8)(sp:Sp):Sp:=⟨Re k sp.rows,sp.floor⟩
def Ha (k:List UInt8)(sp:Sp):Sp:=⟨CL k sp.rows,sp.floor⟩
theorem AHB {k:List UInt8}{sp:Sp}(h:SpOk sp):SpOk (Is k sp):=⟨h.rise.sub List.filter_sublist,fun r hr=>h.rows r (List.mem_filter.1 hr).1,h.floor⟩
theorem AHA {k:List UInt8}{sp:Sp}(h:SpOk sp):SpOk (Ha k sp):=⟨h.rise.sub List.filter_sublist,fun r hr=>h.rows r (List.mem_filter.1 hr).1,h.floor⟩
theorem YY (A B:List Row):Ae (A++B)=Ae A+Ae B:=by simp [Ae]
def Yb (g:Bool)(v:TVer):Bool×List UInt8:=if g=true then (true,[]) else (false,Af v)
def verN (g:Bool)(k:List UInt8)(l:List TVer)(nt:Nts):Nts:=l.foldl (fun nt v=>CO nt (Ag k v) (Yb g v)) nt
def noteA (g:Bool)(r:Row)(nt:Nts):Nts:=if r.it.txn=0 then verN g r.key r.vs nt else CO (verN g r.key r.vs nt) (105::r.key) (if g=true then (true,[]) else BP r.it)
def noteAs (g:Bool)(rs:List Row)(nt:Nts):Nts:=rs.foldl (fun nt r=>noteA g r nt) nt
def nt0:Nts:=fun _=>none
noncomputable instance (fl:TStamp):Decidable (fl=z0):=Classical.propDecidable _
noncomputable def BC (fl:TStamp):Nts:=if fl=z0 then nt0 else CO nt0 [102] (false,stF fl)
section
variable {ω:Om}{I:Imm}{L:LH}{K:Value→M}
def sp0:Sp:=⟨[],⟨0,0⟩⟩
theorem AAY:SpOk sp0:=⟨List.Pairwise.nil,(fun r hr=>by cases hr),by decide⟩
theorem Nr (hk:∀b X,SpR I b X sp0 nt0→K (pt b) I (X++L)):CT ω 32 #[] K I L:=by
 refine AOT ?_;unfold AKh;refine RZ (fun m=>Gh.done (RZ (fun ch=>Gh.done ?_)));try simp only [SSd,Nat.reduceAdd]
 refine AV (fun b=>?_);refine Gh.perm (L':=((b,spO m (.slice none 0 0) ⟨0,0⟩ ch)::(m,.map #[] 0)::([]++([]++[(ch,.map #[] 0)])))++L) (AP (by ((try simp only [AM,AN,AY,AQ]);(try ac_rfl)))) (Gh.done (hk b _ ?_));exact ⟨[],m,ch,_,_,_,[],[],[(ch,.map #[] 0)],List.Perm.refl _,MapS.empty,SlO.none _ 1,rfl,⟨#[],0,fun _=>none,rfl,MapS.empty,fun k=>.inl ⟨rfl,rfl⟩⟩⟩
end
theorem PM {k:List UInt8}{sp:Sp}(h:SpOk sp):(Is k sp).rows.length≤sp.rows.length∧(Ha k sp).rows.length≤sp.rows.length∧Ae (Is k sp).rows≤Ae sp.rows∧Ae (Ha k sp).rows≤Ae sp.rows:=by
 have e:=Nx (k:=k) h.rise;have e1:sp.rows.length=(Is k sp).rows.length+(Ha k sp).rows.length:=by
  conv=>lhs;rw [e]
  rw [List.length_append];rfl
 have e2:Ae sp.rows=Ae (Is k sp).rows+Ae (Ha k sp).rows:=by
  conv=>lhs;rw [e]
  rw [YY];rfl
 omega
def DW (p:TSpan):Bool:=decide (p.fFrom.length≤111)&&decide (p.fTo.length≤111)&&(p.fTo.length==0||blt p.fFrom p.fTo)
def DD (c:TCmd):Bool:=c.fKey.length==0&&c.fValue.length==0&& !c.fDel
def GU (c:TCmd):Bool:=c.fValue.length==0&& !c.fDel
def HF (c:TCmd):Bool:=c.fSpan.fFrom.length==0&&c.fSpan.fTo.length==0
def Np (c:TCmd):Bool:=c.fTo.fWall==0&&c.fTo.fLogic==0
def ALA (c:TCmd):Bool:=c.fAt.fWall==0&&c.fAt.fLogic==0
def kindOk (c:TCmd):Bool:=
 if c.fKind=1 then BW c.fTxn&&Ap c.fKey&&GU c&&HF c&&c.fBy==0&& !c.fYes&&Np c&&c.fMost==0&&c.fSeq==0 else
 if c.fKind=2 then BW c.fTxn&&decide (1≤c.fMost∧c.fMost≤90)&&DD c&&c.fBy==0&& !c.fYes&&Np c&&c.fSeq==0 else
 if c.fKind=3 then CB c.fTxn&&decide (0 < c.fSeq)&&Ap c.fKey&&decide (c.fValue.length≤10000)&&(!c.fDel||c.fValue.length==0)&&HF c&&c.fBy==0&& !c.fYes&&Np c&&c.fMost==0 else
 if c.fKind=4 then CB c.fTxn&&decide (0 < c.fSeq)&&DD c&&c.fBy==0&& !c.fYes&&c.fMost==0 else
 if c.fKind=5 then CB c.fTxn&&decide (0 < c.fSeq)&&DD c&&HF c&&c.fBy==0&& !c.fYes&&Np c&&c.fMost==0 else
 if c.fKind=6 then CB c.fTxn&&DD c&&HF c&&c.fBy==0&&Np c&&c.fMost==0&&c.fSeq==0 else
 if c.fKind=7 then CB c.fTxn&&CB c.fBy&&DD c&&HF c&& !c.fYes&&Np c&&c.fMost==0&&c.fSeq==0 else
 if c.fKind=8 then CB c.fTxn&&ALA c&&DD c&&HF c&&c.fBy==0&& !c.fYes&&Np c&&c.fMost==0&&c.fSeq==0 else
 if c.fKind=9 then CB c.fTxn&&DD c&&c.fBy==0&&Np c&&c.fMost==0&&c.fSeq==0 else
 if c.fKind=10 then c.fTxn==0&&DD c&&HF c&&c.fBy==0&& !c.fYes&&Np c&&c.fMost==0&&c.fSeq==0 else
 if c.fKind=11 then c.fTxn==0&&ALA c&&Ap c.fKey&&GU c&&decide (1≤c.fBy∧c.fBy≤255)&&HF c&& !c.fYes&&Np c&&c.fMost==0&&c.fSeq==0 else false
def CZ (c:TCmd):Bool:=AU c.fAt&&AU c.fTo&&DW c.fSpan&&decide (0≤c.fSeq∧c.fSeq≤9007199254740991)&&kindOk c
def Dk (n:Int):Prop:=0≤n∧n≤9007199254740991
theorem DK {n:Int}(h:CB n=true):Dk n:=by simp [CB] at h;exact ⟨by omega,by omega⟩
theorem LJ {n:Int}(h:BW n=true):Dk n:=by
 simp only [BW,Bool.or_eq_true,beq_iff_eq] at h;rcases h with h|h
 ·rw [h];exact ⟨by omega,by omega⟩
 ·exact DK h
theorem Be {s:TStamp}(h:AU s=true):Dk s.fWall∧Dk s.fLogic:=by
 simp only [AU,MQ,Bool.and_eq_true,decide_eq_true_eq] at h;exact ⟨⟨h.1.1,h.1.2⟩,h.2.1,by omega⟩
structure CmdOk (c:TCmd):Prop where
 kind:1≤c.fKind∧c.fKind≤11
 txn:Dk c.fTxn
 seq:Dk c.fSeq
 by':Dk c.fBy
 most:0≤c.fMost∧c.fMost≤90
 at':AU c.fAt=true
 to:AU c.fTo=true
 key:c.fKey.length≤110
 value:c.fValue.length≤10000
 span:DW c.fSpan=true
theorem Cf:Dk 0:=⟨by omega,by omega⟩
set_option maxHeartbeats 4000000 in
theorem Pi {c:TCmd}(h:CZ c=true):CmdOk c:=by
 simp only [CZ,Bool.and_eq_true,decide_eq_true_eq] at h;obtain ⟨⟨⟨⟨h1,h2⟩,h3⟩,h4⟩,h5⟩:=h;have key:∀(q:Prop) [Decidable q] (a b:Bool),(if q then a else b)=true→(q∧a=true)∨b=true:=by
  intro q _ a b h;split at h
  ·exact .inl ⟨by assumption,h⟩
  ·exact .inr h
 have hk:(1≤c.fKind∧c.fKind≤11)∧Dk c.fTxn∧Dk c.fBy∧(0≤c.fMost∧c.fMost≤90)∧c.fKey.length≤110∧c.fValue.length≤10000:=by
  unfold kindOk at h5;rcases key _ _ _ h5 with ⟨e,h⟩|h5
  ·simp only [Bool.and_eq_true,GU,DD,Ap,beq_iff_eq,decide_eq_true_eq] at h;exact ⟨by omega,LJ h.1.1.1.1.1.1.1.1,by rw [h.1.1.1.1.2];exact Cf,by omega,by omega,by omega⟩
  rcases key _ _ _ h5 with ⟨e,h⟩|h5
  ·simp only [Bool.and_eq_true,GU,DD,Ap,beq_iff_eq,decide_eq_true_eq] at h;exact ⟨by omega,LJ h.1.1.1.1.1.1,by rw [h.1.1.1.2];exact Cf,by omega,by omega,by omega⟩
  rcases key _ _ _ h5 with ⟨e,h⟩|h5
  ·simp only [Bool.and_eq_true,GU,DD,Ap,beq_iff_eq,decide_eq_true_eq] at h;exact ⟨by omega,DK h.1.1.1.1.1.1.1.1.1,by rw [h.1.1.1.2];exact Cf,by omega,by omega,by omega⟩
  rcases key _ _ _ h5 with ⟨e,h⟩|h5
  ·simp only [Bool.and_eq_true,GU,DD,Ap,beq_iff_eq,decide_eq_true_eq] at h;exact ⟨by omega,DK h.1.1.1.1.1,by rw [h.1.1.2];exact Cf,by omega,by omega,by omega⟩
  rcases key _ _ _ h5 with ⟨e,h⟩|h5
  ·simp only [Bool.and_eq_true,GU,DD,Ap,beq_iff_eq,decide_eq_true_eq] at h;exact ⟨by omega,DK h.1.1.1.1.1.1.1,by rw [h.1.1.1.2];exact Cf,by omega,by omega,by omega⟩
  rcases key _ _ _ h5 with ⟨e,h⟩|h5
  ·simp only [Bool.and_eq_true,GU,DD,Ap,beq_iff_eq,decide_eq_true_eq] at h;exact ⟨by omega,DK h.1.1.1.1.1.1,by rw [h.1.1.1.2];exact Cf,by omega,by omega,by omega⟩
  rcases key _ _ _ h5 with ⟨e,h⟩|h5
  ·simp only [Bool.and_eq_true,GU,DD,Ap,beq_iff_eq,decide_eq_true_eq] at h;exact ⟨by omega,DK h.1.1.1.1.1.1.1,DK h.1.1.1.1.1.1.2,by omega,by omega,by omega⟩
  rcases key _ _ _ h5 with ⟨e,h⟩|h5
  ·simp only [Bool.and_eq_true,GU,DD,Ap,beq_iff_eq,decide_eq_true_eq] at h;exact ⟨by omega,DK h.1.1.1.1.1.1.1.1,by rw [h.1.1.1.1.2];exact Cf,by omega,by omega,by omega⟩
  rcases key _ _ _ h5 with ⟨e,h⟩|h5
  ·simp only [Bool.and_eq_true,GU,DD,Ap,beq_iff_eq,decide_eq_true_eq] at h;exact ⟨by omega,DK h.1.1.1.1.1,by rw [h.1.1.1.2];exact Cf,by omega,by omega,by omega⟩
  rcases key _ _ _ h5 with ⟨e,h⟩|h5
  ·simp only [Bool.and_eq_true,GU,DD,Ap,beq_iff_eq,decide_eq_true_eq] at h;exact ⟨by omega,by rw [h.1.1.1.1.1.1.1];exact Cf,by rw [h.1.1.1.1.2];exact Cf,by omega,by omega,by omega⟩
  rcases key _ _ _ h5 with ⟨e,h⟩|h5
  ·simp only [Bool.and_eq_true,GU,DD,Ap,beq_iff_eq,decide_eq_true_eq] at h;exact ⟨by omega,by rw [h.1.1.1.1.1.1.1.1.1];exact Cf,⟨by omega,by omega⟩,by omega,by omega,by omega⟩
  ·cases h5
 exact ⟨hk.1,hk.2.1,⟨h4.1,h4.2⟩,hk.2.2.1,hk.2.2.2.1,h1,h2,hk.2.2.2.2.1,hk.2.2.2.2.2,h3⟩
end Go.Proofs.YtmmfcgbfbcamcaaGreatDoor
namespace Go.SL
abbrev Em:=Int
def Dp (k:Em):Value:=.int .i64 k
def BJ (e:MapEntry):Em:=match e.key with
 | .int _ n=>n
 |_=>0
def DI (k:Em):List MapEntry→Nat→Option (Nat×Value)
 |[],_=>none
 |e::r,i=>if BJ e=k then some (i,e.val) else DI k r (i+1)
def LF (m:Em→Option Value)(k:Em)(v:Option Value):Em→Option Value:=fun q=>if q=k then v else m q
structure MapSi (es:Array MapEntry)(clock:Nat)(m:Em→Option Value):Prop where
 str:∀e∈es.toList,∃s:Int,e.key= .int .i64 s
 nod:(es.toList.map BJ).Nodup
 brn:∀e∈es.toList,e.born < clock
 bnd:(es.toList.map (·.born)).Nodup
 val:∀k,m k=(DI k es.toList 0).map (·.2)
theorem Jp {k:Em}:∀{l:List MapEntry} {i:Nat},(∀e∈l,∃s:Int,e.key= .int .i64 s)→Instr.findNow (.int .i64) (Dp k) l i=some (DI k l i)
 |[],_,_=>rfl
 |e::l,i,h=>by
  obtain ⟨s,hs⟩:=h e (List.mem_cons_self ..);have ih:=Jp (k:=k) (l:=l) (i:=i+1) (fun x hx=>h x (List.mem_cons_of_mem _ hx));simp only [Instr.findNow,DI,BJ,hs,Dp,Instr.sameNow,if_true];by_cases hk:s=k
  ·have:(k==s)=true:=by simp [hk]
   rw [this,if_pos hk]
  ·have:(k==s)=false:=by simp;exact fun h=>hk h.symm
   rw [this,if_neg hk];exact ih
theorem MapSi.find {es:Array MapEntry}{clock:Nat}{m:Em→Option Value}(h:MapSi es clock m)(k:Em):Instr.findNow (.int .i64) (Dp k) es.toList 0=some (DI k es.toList 0):=Jp h.str
theorem MapSi.empty:MapSi #[] 0 (fun _=>none):=⟨fun e h=>by simp at h,by simp,fun e h=>by simp at h,by simp,fun k=>rfl⟩
theorem fnd_nonei {k:Em}:∀{l:List MapEntry} {i:Nat},DI k l i=none↔k ∉ l.map BJ
 |[],_=>by simp [DI]
 |e::l,i=>by
  simp only [DI,List.map_cons,List.mem_cons,not_or];by_cases h:BJ e=k
  ·simp [h]
  ·rw [if_neg h,fnd_nonei (l:=l)];exact ⟨fun h'=>⟨fun e'=>h e'.symm,h'⟩,fun h'=>h'.2⟩
theorem Kr {k:Em}:∀{l:List MapEntry} {i j:Nat} {v:Value},DI k l i=some (j,v)→∃n e,j=i+n∧l[n]? =some e∧BJ e=k∧e.val=v
 |[],_,_,_,h=>by simp [DI] at h
 |e::l,i,j,v,h=>by
  simp only [DI] at h;split at h
  ·rename_i hk
   simp only [Option.some.injEq,Prod.mk.injEq] at h;exact ⟨0,e,by omega,rfl,hk,h.2⟩
  ·obtain ⟨n,e',h1,h2,h3,h4⟩:=Kr h;exact ⟨n+1,e',by omega,by simpa using h2,h3,h4⟩
theorem EE {k:Em}:∀{l:List MapEntry} {i j:Nat},(DI k l i).map (·.2)=(DI k l j).map (·.2)
 |[],_,_=>rfl
 |e::l,i,j=>by
  simp only [DI];split
  ·rfl
  ·exact EE
theorem LR {k:Em}:∀{l l':List MapEntry} {i:Nat},(DI k (l++l') i).map (·.2)=match (DI k l i).map (·.2) with
  |some v=>some v
  |none=>(DI k l' 0).map (·.2)
 |[],l',i=>by simp only [List.nil_append,DI,Option.map_none];exact EE
 |e::l,l',i=>by
  simp only [List.cons_append,DI];split
  ·rfl
  ·exact LR
theorem Ti {k q:Em}{v:Value}:∀{l:List MapEntry} {n:Nat} {e:MapEntry},l[n]? =some e→BJ e=k→(l.map BJ).Nodup→
  (DI q (l.set n {e with key:=Dp k,val:=v}) 0).map (·.2)=if q=k then some v else (DI q l 0).map (·.2)
 |[],n,e,h,_,_=>by simp at h
 |x::l,0,e,h,hk,hn=>by
  simp only [List.getElem?_cons_zero,Option.some.injEq] at h;subst h;have hko:BJ {x with key:=Dp k,val:=v}=k:=by simp [BJ,Dp]
  simp only [List.set_cons_zero,DI,hko,hk];by_cases h:k=q
  ·simp [h]
  ·rw [if_neg h,if_neg (fun e=>h e.symm),if_neg h]
 |x::l,n+1,e,h,hk,hn=>by
  simp only [List.getElem?_cons_succ] at h;simp only [List.map_cons,List.nodup_cons] at hn;simp only [List.set_cons_succ,DI];have hmem:k∈l.map BJ:=List.mem_map.2 ⟨e,List.mem_of_getElem? h,hk⟩;by_cases hx:BJ x=q
  ·rw [if_pos hx,if_pos hx,if_neg];intro e';rw [hx,e'] at hn;exact hn.1 hmem
  ·rw [if_neg hx,if_neg hx];have ih:=Ti (q:=q) (v:=v) h hk hn.2;rw [EE (j:=0),ih,EE (i:=0+1) (j:=0)]
theorem PY {k:Em}{v:Value}:∀{l:List MapEntry} {n:Nat} {e:MapEntry},l[n]? =some e→BJ e=k→(l.set n {e with key:=Dp k,val:=v}).map BJ=l.map BJ
 |[],n,e,h,_=>by simp at h
 |x::l,0,e,h,hk=>by
  simp only [List.getElem?_cons_zero,Option.some.injEq] at h;subst h;simp [BJ,Dp] at hk ⊢;exact hk.symm
 |x::l,n+1,e,h,hk=>by
  simp only [List.getElem?_cons_succ] at h;simp only [List.set_cons_succ,List.map_cons,PY h hk]
theorem NL {k:Em}{v:Value}:∀{l:List MapEntry} {n:Nat} {e:MapEntry},l[n]? =some e→(l.set n {e with key:=Dp k,val:=v}).map (·.born)=l.map (·.born)
 |[],n,e,h=>by simp at h
 |x::l,0,e,h=>by
  simp only [List.getElem?_cons_zero,Option.some.injEq] at h;subst h;simp
 |x::l,n+1,e,h=>by
  simp only [List.getElem?_cons_succ] at h;simp only [List.set_cons_succ,List.map_cons,NL (k:=k) h]
def Xg (k:Em)(v:Value)(es:Array MapEntry)(clock:Nat):Obj:=match DI k es.toList 0 with
 |some (i,_)=>.map (es.modify i fun e=>{e with key:=Dp k,val:=v}) clock
 |none=>.map (es.push {key:=Dp k,val:=v,born:=clock}) (clock+1)
theorem MapSi.put {es:Array MapEntry}{clock:Nat}{m:Em→Option Value}(h:MapSi es clock m)(k:Em)(v:Value):∃es' clock',Xg k v es clock= .map es' clock'∧MapSi es' clock' (LF m k (some v)):=by
 unfold Xg;cases hf:DI k es.toList 0 with
 |none=>
  refine ⟨_,_,rfl,?_⟩;have hn:=fnd_nonei.1 hf;have hl:(es.push {key:=Dp k,val:=v,born:=clock}).toList=es.toList++[{key:=Dp k,val:=v,born:=clock}]:=by simp
  have hko:BJ {key:=Dp k,val:=v,born:=clock}=k:=by simp [BJ,Dp]
  refine ⟨fun e he=>?_,?_,fun e he=>?_,?_,fun q=>?_⟩
  ·rw [hl] at he;rcases List.mem_append.1 he with he|he
   ·exact h.str e he
   ·simp only [List.mem_singleton] at he;subst he;exact ⟨_,rfl⟩
  ·rw [hl,List.map_append,List.nodup_append];refine ⟨h.nod,by simp,fun a ha b hb=>?_⟩;simp only [List.map_cons,List.map_nil,List.mem_singleton,hko] at hb;subst hb;exact fun e=>hn (e ▸ ha)
  ·rw [hl] at he;rcases List.mem_append.1 he with he|he
   ·have:=h.brn e he;omega
   ·simp only [List.mem_singleton] at he;subst he;simp
  ·rw [hl,List.map_append,List.nodup_append];refine ⟨h.bnd,by simp,fun a ha b hb=>?_⟩;simp only [List.map_cons,List.map_nil,List.mem_singleton] at hb;subst hb;obtain ⟨e,he,rfl⟩:=List.mem_map.1 ha;have:=h.brn e he;omega
  ·rw [hl,LR,←h.val q];unfold LF;by_cases e:q=k
   ·subst e;rw [if_pos rfl,h.val q,hf];simp [DI,hko]
   ·rw [if_neg e];have hf0:DI q [{key:=Dp k,val:=v,born:=clock}] 0=none:=by
     simp only [DI,hko];rw [if_neg (fun e'=>e (Eq.symm e'))]
    rw [hf0];cases m q <;> rfl
 |some p=>
  obtain ⟨i,u⟩:=p;obtain ⟨n,e,h1,h2,h3,h4⟩:=Kr hf;obtain rfl:i=n:=by omega
  refine ⟨_,_,rfl,?_⟩;have hl:=Ns (f:=fun e=>{e with key:=Dp k,val:=v}) h2;refine ⟨fun x hx=>?_,?_,fun x hx=>?_,?_,fun q=>?_⟩
  ·rw [hl] at hx;rcases List.mem_or_eq_of_mem_set hx with hx|rfl
   ·exact h.str x hx
   ·exact ⟨_,rfl⟩
  ·rw [hl,PY h2 h3];exact h.nod
  ·rw [hl] at hx;rcases List.mem_or_eq_of_mem_set hx with hx|rfl
   ·exact h.brn x hx
   ·exact h.brn e (List.mem_of_getElem? h2)
  ·rw [hl,NL (k:=k) h2];exact h.bnd
  ·rw [hl,Ti h2 h3 h.nod,←h.val q];rfl
def YB (k:Em)(es:Array MapEntry)(clock:Nat):Obj:=match DI k es.toList 0 with
 |some (i,_)=>.map (es.eraseIdxIfInBounds i) clock
 |none=>.map es clock
theorem OK {k q:Em}:∀{l:List MapEntry} {n:Nat} {e:MapEntry},l[n]? =some e→BJ e=k→(l.map BJ).Nodup→(DI q (l.eraseIdx n) 0).map (·.2)=if q=k then none else (DI q l 0).map (·.2)
 |[],n,e,h,_,_=>by simp at h
 |x::l,0,e,h,hk,hn=>by
  simp only [List.getElem?_cons_zero,Option.some.injEq] at h;subst h;simp only [List.map_cons,List.nodup_cons] at hn;simp only [List.eraseIdx_cons_zero,DI,hk];by_cases h:q=k
  ·subst h;rw [if_pos rfl,fnd_nonei.2 (by rw [←hk];exact hn.1)];rfl
  ·rw [if_neg h,if_neg (fun e=>h e.symm)];exact EE
 |x::l,n+1,e,h,hk,hn=>by
  simp only [List.getElem?_cons_succ] at h;simp only [List.map_cons,List.nodup_cons] at hn;simp only [List.eraseIdx_cons_succ,DI];have hmem:k∈l.map BJ:=List.mem_map.2 ⟨e,List.mem_of_getElem? h,hk⟩;by_cases hx:BJ x=q
  ·rw [if_pos hx,if_pos hx,if_neg];intro e';rw [hx,e'] at hn;exact hn.1 hmem
  ·rw [if_neg hx,if_neg hx,EE (j:=0),OK h hk hn.2,EE (i:=0+1) (j:=0)]
theorem MapSi.del {es:Array MapEntry}{clock:Nat}{m:Em→Option Value}(h:MapSi es clock m)(k:Em):∃es',YB k es clock= .map es' clock∧MapSi es' clock (LF m k none):=by
 unfold YB;cases hf:DI k es.toList 0 with
 |none=>
  refine ⟨es,rfl,h.str,h.nod,h.brn,h.bnd,fun q=>?_⟩;unfold LF;by_cases e:q=k
  ·subst e;rw [if_pos rfl,hf];rfl
  ·rw [if_neg e];exact h.val q
 |some p=>
  obtain ⟨i,u⟩:=p;obtain ⟨n,e,h1,h2,h3,h4⟩:=Kr hf;obtain rfl:i=n:=by omega
  have hlt:i < es.size:=by
   have:=(List.getElem?_eq_some_iff.1 h2).1;simpa using this
  have hl:(es.eraseIdxIfInBounds i).toList=es.toList.eraseIdx i:=by simp [Array.eraseIdxIfInBounds,hlt]
  refine ⟨_,rfl,fun x hx=>?_,?_,fun x hx=>?_,?_,fun q=>?_⟩
  ·rw [hl] at hx;exact h.str x (List.mem_of_mem_eraseIdx hx)
  ·rw [hl];exact h.nod.sublist (List.Sublist.map _ (List.eraseIdx_sublist ..))
  ·rw [hl] at hx;exact h.brn x (List.mem_of_mem_eraseIdx hx)
  ·rw [hl];exact h.bnd.sublist (List.Sublist.map _ (List.eraseIdx_sublist ..))
  ·rw [hl,OK h2 h3 h.nod,←h.val q];rfl
section rules
variable {I:Imm}{L:LH}{K:Value→M}{b:Nat}{es:Array MapEntry}{clock:Nat}{m:Em→Option Value}{k:Em}{v:Value}{S:M}
theorem ALH {zero:Value}{ok:Bool}(h:MapSi es clock m):(match DI k es.toList 0 with
  |some (_,u)=>if ok then .tuple #[u,.bool true] else u
  |none=>if ok then .tuple #[zero,.bool false] else zero)=lkV zero ok (m k):=by
 rw [h.val k];cases DI k es.toList 0 <;> rfl
theorem AEu {zero:Value}{ok:Bool}(ha:MapAt I L b es clock)(h:MapSi es clock m):lkR (.int .i64) zero ok (.map (some b)) (Dp k) I L (lkV zero ok (m k)):=
 ⟨es,_,.inr ⟨b,clock,rfl,ha⟩,h.find k,(ALH h).symm⟩
theorem AOx {zero:Value}{ok:Bool}[hin:InL b L (.map es clock)](h:MapSi es clock m)(hk:K (lkV zero ok (m k)) I L):Rv none (lkR (.int .i64) zero ok (.map (some b)) (Dp k)) K I L:=
 ⟨_,AEu (.inl hin.mem) h,hk⟩
theorem ANW {I0:Imm}{X:LH}{zero:Value}{ok:Bool}[hin:InL b X (.map es clock)](h:MapSi es clock m)(hk:K (lkV zero ok (m k)) I L):Rv (some (Stay I0 X)) (lkR (.int .i64) zero ok (.map (some b)) (Dp k)) K I L:=
 ⟨_,fun I' L' hS=>AEu (.inl (hS.2 _ hin.mem)) h,hk⟩
theorem TR [hin:InL b L (.map es clock)](hk:K (.int .i64 es.size) I L):Rv none (Ho (.map (some b))) K I L:=⟨_,⟨es,.inr ⟨b,clock,rfl,.inl hin.mem⟩,rfl⟩,hk⟩
theorem ANU {L':LH}{es':Array MapEntry}{clock':Nat}(h:MapSi es clock m)(he:Xg k v es clock= .map es' clock')[u:UpL b L (.map es clock) (.map es' clock') L'](hk:K undef I L'):
  Gs (.int .i64) (.map (some b)) (Dp k) v K I L:=by
 obtain ⟨L1,L2,rfl,rfl⟩:=u.up;refine ⟨b,es,clock,L1,L2,_,rfl,rfl,h.find k,?_⟩;unfold Xg at he;cases hf:DI k es.toList 0 with
 |none=>rw [hf] at he;simp only at he ⊢;rw [he];exact hk
 |some p=>obtain ⟨i,w⟩:=p;rw [hf] at he;simp only at he ⊢;rw [he];exact hk
theorem ANf {L':LH}{es':Array MapEntry}{clock':Nat}(h:MapSi es clock m)(he:YB k es clock= .map es' clock')[u:UpL b L (.map es clock) (.map es' clock') L'](hk:K (.tuple #[]) I L'):
  PH (.int .i64) (.map (some b)) (Dp k) K I L:=by
 obtain ⟨L1,L2,rfl,rfl⟩:=u.up;refine .inr ⟨b,es,clock,L1,L2,_,rfl,rfl,h.find k,?_⟩;unfold YB at he;cases hf:DI k es.toList 0 with
 |none=>rw [hf] at he;simp only at he ⊢;rw [he];exact hk
 |some p=>obtain ⟨i,w⟩:=p;rw [hf] at he;simp only at he ⊢;rw [he];exact hk
end rules
section iter
variable {I:Imm}{L0:LH}{K:Value→M}{b r clock:Nat}{es:Array MapEntry}{m:Em→Option Value}{vis:List MapEntry}
theorem AJi (h:MapSi es clock m)(ha:MapAt I L0 r es clock)(hi:It es vis)(hend:vis.Perm es.toList→K (.tuple #[.bool false]) I ((b,BX r clock vis)::L0))
  (hstep:∀e,e∈es.toList→It es (vis++[e])→K (.tuple #[.bool true,e.key,e.val]) I ((b,BX r clock (vis++[e]))::L0)):Oj (.pointer (some ⟨b,0,.none⟩)) K I ((b,BX r clock vis)::L0):=by
 refine ⟨b,[],L0,rfl,.inr ⟨r,clock,(vis.map (·.born)).toArray,clock,es,clock,rfl,MapAt.skip ha,?_,fun hh=>hend ?_,fun e he hs=>?_⟩⟩
 ·intro hc;simp only [Bool.and_eq_true,Bool.not_eq_true',Array.isEmpty_iff,Array.all_eq_true',decide_eq_true_eq] at hc;cases hl:es.toList with
  |nil=>
   have:es=#[]:=by cases es;simpa using hl
   have h2:=hc.1.2;rw [this] at h2;simp at h2
  |cons e l=>
   have he:e∈es.toList:=by rw [hl];exact List.mem_cons_self ..
   have h1:=h.brn e he;have h2:=hc.2 e (by simpa using he);omega
 ·refine (List.perm_ext_iff_of_nodup (BG hi.nod) (BG h.bnd)).2 fun e=>⟨hi.sub e,fun he=>?_⟩;cases hc:(vis.map (·.born)).toArray.contains e.born with
  |false=>have:=hh e (by simpa using he) hc;have:=h.brn e he;omega
  |true=>
   have:e.born∈vis.map (·.born):=by simpa using hc
   obtain ⟨v,hv,hve⟩:=List.mem_map.1 this;have:=FY h.bnd (hi.sub v hv) he hve;rw [←this];exact hv
 ·have hne:e.born ∉ vis.map (·.born):=by simpa using hs
  have hit:It es (vis++[e]):=⟨fun x hx=>by
   rcases List.mem_append.1 hx with hx|hx
   ·exact hi.sub x hx
   ·simp only [List.mem_singleton] at hx;subst hx;simpa using he,by
   rw [List.map_append,List.nodup_append];refine ⟨hi.nod,by simp,fun a ha b hb=>?_⟩;simp only [List.map_cons,List.map_nil,List.mem_singleton] at hb;subst hb;exact fun e'=>hne (e' ▸ ha)⟩
  have:=hstep e (by simpa using he) hit;simpa [BX] using this
theorem AJs (h:MapSi es clock m)(ha:MapAt I L0 r es clock){e:MapEntry}(he:e∈es.toList):Ox (.pointer (some ⟨b,0,.none⟩)) I ((b,BX r clock (vis++[e]))::L0) (.tuple #[e.key,e.val]):=by
 refine ⟨b,r,clock,((vis++[e]).map (·.born)).toArray,clock,es,clock,e.born,e,rfl,.inl (List.mem_cons_self ..),by simp,MapAt.skip ha,by simp,?_,rfl⟩;cases hf:es.find? (·.born==e.born) with
 |none=>
  rw [←Array.find?_toList] at hf;have:=List.find?_eq_none.1 hf e he;simp at this
 |some e'=>
  rw [←Array.find?_toList] at hf;have h1:=List.find?_some hf;rw [FY h.bnd (List.mem_of_find?_eq_some hf) he (by simpa using h1)]
end iter
structure Ord (κ:Type)(lt:κ→κ→Bool):Prop where
 irr:∀a,lt a a=false
 tr:∀a b c,lt a b=true→lt b c=true→lt a c=true
 tot:∀a b,lt a b=false→lt b a=false→a=b
theorem Lj:Ord (List UInt8) blt:=⟨BQ,fun _ _ _=>Bj,Dn⟩
abbrev ilt (a b:Int):Bool:=decide (a < b)
theorem Ld:Ord Int ilt:=⟨fun a=>by simp,fun a b c h1 h2=>by simp at *; omega,fun a b h1 h2=>by simp at *; omega⟩
section
variable {κ β:Type}[DecidableEq κ]{lt:κ→κ→Bool}
abbrev AL (κ β:Type):Type:=List (κ×β)
def lkA (l:AL κ β)(k:κ):Option β:=(l.find? fun q=>q.1==k).map (·.2)
def SrtA (lt:κ→κ→Bool)(l:AL κ β):Prop:=l.Pairwise fun a b=>lt a.1 b.1=true
def Bi (lt:κ→κ→Bool)(k:κ)(v:β):AL κ β→AL κ β
 |[]=>[(k,v)]
 |q::l=>if q.1=k then (k,v)::l else if lt k q.1=true then (k,v)::q::l else q::Bi lt k v l
def Le (k:κ)(l:AL κ β):AL κ β:=l.filter fun q=> !(q.1==k)
theorem IQ (k:κ):lkA ([]:AL κ β) k=none:=rfl
theorem Bt (q:κ×β)(l:AL κ β)(k:κ):lkA (q::l) k=if q.1=k then some q.2 else lkA l k:=by
 unfold lkA;by_cases h:q.1=k <;> simp [h]
theorem lkA_none {l:AL κ β}{k:κ}:lkA l k=none↔∀q∈l,q.1≠k:=by
 unfold lkA;simp [List.find?_eq_none]
theorem Ep {l:AL κ β}{k:κ}{v:β}(h:lkA l k=some v):(k,v)∈l:=by
 unfold lkA at h;cases hf:l.find? (fun q=>q.1==k) with
 |none=>rw [hf] at h;cases h
 |some q=>
  rw [hf] at h;have h1:=List.find?_some hf;have h2:=List.mem_of_find?_eq_some hf;simp at h1 h;rw [←h1,←h];exact h2
theorem SrtA.ne (ho:Ord κ lt){a b:κ}(h:lt a b=true):a≠b:=fun e=>by rw [e,ho.irr] at h;cases h
theorem SrtA.nodup (ho:Ord κ lt){l:AL κ β}(h:SrtA lt l):(l.map (·.1)).Nodup:=List.pairwise_map.2 (h.imp fun hab=>SrtA.ne ho hab)
theorem FO (ho:Ord κ lt):∀{l:AL κ β} {k:κ} {v:β},SrtA lt l→(k,v)∈l→lkA l k=some v
 |q::l,k,v,h,hm=>by
  obtain ⟨h1,h2⟩:=List.pairwise_cons.1 h;rw [Bt];rcases List.mem_cons.1 hm with rfl|hm
  ·simp
  ·rw [if_neg (SrtA.ne ho (h1 _ hm))];exact FO ho h2 hm
theorem HH:∀(l:AL κ β) (k:κ) (v:β) (q:κ),lkA (Bi lt k v l) q=if q=k then some v else lkA l q
 |[],k,v,q=>by
  simp only [Bi,Bt,IQ];by_cases h:q=k
  ·rw [if_pos h.symm,if_pos h]
  ·rw [if_neg (Ne.symm h),if_neg h]
 |x::l,k,v,q=>by
  have ih:=HH l k v q;simp only [Bi];by_cases h:x.1=k
  ·rw [if_pos h];simp only [Bt];by_cases e:q=k
   ·rw [if_pos e.symm,if_pos e]
   ·rw [if_neg (Ne.symm e),if_neg e,if_neg (fun e2=>e (by rw [←e2,h]))]
  ·rw [if_neg h];split
   ·simp only [Bt];by_cases e:q=k
    ·rw [if_pos e.symm,if_pos e]
    ·rw [if_neg (Ne.symm e),if_neg e]
   ·simp only [Bt,ih];by_cases e:x.1=q
    ·rw [if_pos e,if_pos e,if_neg (fun e2=>h (by rw [e,e2]))]
    ·rw [if_neg e,if_neg e]
theorem AIr (l:AL κ β)(k q:κ):lkA (Le k l) q=if q=k then none else lkA l q:=by
 induction l with
 |nil=>unfold Le;simp [IQ]
 |cons x l ih=>
  unfold Le at ih ⊢;rw [List.filter_cons];by_cases h:x.1=k
  ·simp only [h,beq_self_eq_true,Bool.not_true,Bool.false_eq_true,if_false,ih,Bt];by_cases e:q=k
   ·simp [e]
   ·rw [if_neg e,if_neg e,if_neg (Ne.symm e)]
  ·have:(!(x.1==k))=true:=by simp [h]
   rw [if_pos this];simp only [Bt,ih];by_cases e:q=k
   ·rw [if_pos e,if_neg (fun e2=>h (by rw [e2,e]))];rw [if_pos e]
   ·rw [if_neg e,if_neg e]
theorem Hq {l:AL κ β}{k:κ}{v:β}{q:κ×β}(h:q∈Bi lt k v l):q=(k,v)∨q∈l:=by
 induction l with
 |nil=>simp [Bi] at h;exact .inl h
 |cons x l ih=>
  simp only [Bi] at h;split at h
  ·rcases List.mem_cons.1 h with h|h
   ·exact .inl h
   ·exact .inr (List.mem_cons_of_mem _ h)
  ·split at h
   ·rcases List.mem_cons.1 h with h|h
    ·exact .inl h
    ·exact .inr h
   ·rcases List.mem_cons.1 h with h|h
    ·exact .inr (by rw [h];exact List.mem_cons_self ..)
    ·rcases ih h with h|h
     ·exact .inl h
     ·exact .inr (List.mem_cons_of_mem _ h)
theorem SrtA.ins (ho:Ord κ lt){k:κ}{v:β}:∀{l:AL κ β},SrtA lt l→SrtA lt (Bi lt k v l)
 |[],_=>List.pairwise_singleton ..
 |x::l,h=>by
  obtain ⟨h1,h2⟩:=List.pairwise_cons.1 h;simp only [Bi];split
  ·rename_i e
   exact List.pairwise_cons.2 ⟨fun y hy=>by have:=h1 y hy;rw [e] at this;exact this,h2⟩
  ·rename_i e
   split
   ·rename_i hb
    refine List.pairwise_cons.2 ⟨fun y hy=>?_,h⟩;rcases List.mem_cons.1 hy with rfl|hy
    ·exact hb
    ·exact ho.tr _ _ _ hb (h1 y hy)
   ·rename_i hb
    refine List.pairwise_cons.2 ⟨fun y hy=>?_,SrtA.ins ho h2⟩;rcases Hq hy with rfl|hy
    ·cases hx:lt x.1 k with
     |true=>rfl
     |false=>exact absurd (ho.tot _ _ hx (by simpa using hb)) e
    ·exact h1 y hy
theorem SrtA.del {k:κ}{l:AL κ β}(h:SrtA lt l):SrtA lt (Le k l):=List.Pairwise.sublist List.filter_sublist h
theorem Hr (k:κ)(v:β):∀l:AL κ β,(Bi lt k v l).length≤l.length+1∧l.length≤(Bi lt k v l).length
 |[]=>by simp [Bi]
 |x::l=>by
  have ih:=Hr k v l;simp only [Bi];split
  ·simp
  ·split <;> simp <;> omega
theorem OE (ho:Ord κ lt){k:κ}{v:β}:∀{l:AL κ β},SrtA lt l→lkA l k≠none→(Bi lt k v l).length=l.length
 |[],_,h=>absurd rfl h
 |x::l,hs,h=>by
  obtain ⟨h1,h2⟩:=List.pairwise_cons.1 hs;simp only [Bi];split
  ·simp
  ·rename_i e
   rw [Bt,if_neg e] at h;split
   ·rename_i hb
    exfalso
    cases hv:lkA l k with
    |none=>exact h hv
    |some w=>
     have:=h1 _ (Ep hv);have h3:=ho.tr _ _ _ hb this;simp only at h3
     rw [ho.irr] at h3;cases h3
   ·simp [OE ho h2 h]
theorem SrtA.ext (ho:Ord κ lt):∀{a b:AL κ β},SrtA lt a→SrtA lt b→(∀k,lkA a k=lkA b k)→a=b
 |[],[],_,_,_=>rfl
 |[],y::b,_,hb,h=>by have:=h y.1;rw [IQ,FO ho hb (List.mem_cons_self ..)] at this;cases this
 |x::a,[],ha,_,h=>by have:=h x.1;rw [IQ,FO ho ha (List.mem_cons_self ..)] at this;cases this
 |x::a,y::b,ha,hb,h=>by
  obtain ⟨a1,a2⟩:=List.pairwise_cons.1 ha;obtain ⟨b1,b2⟩:=List.pairwise_cons.1 hb;have hxy:x.1=y.1:=by
   have hx:=h x.1;have hy:=h y.1;rw [FO ho ha (List.mem_cons_self ..),Bt] at hx;rw [FO ho hb (List.mem_cons_self ..),Bt] at hy;apply Classical.byContradiction
   intro hne;rw [if_neg (Ne.symm hne)] at hx;rw [if_neg hne] at hy;have g1:=b1 _ (Ep hx.symm);have g2:=a1 _ (Ep hy);have:=ho.tr _ _ _ g1 g2;rw [ho.irr] at this;cases this
  have hv:x.2=y.2:=by
   have hx:=h x.1;rw [FO ho ha (List.mem_cons_self ..),Bt,if_pos hxy.symm] at hx;exact Option.some.inj hx
  have he:x=y:=Prod.ext hxy hv;rw [he,SrtA.ext ho a2 b2 (fun k=>?_)];have hk:=h k;rw [Bt,Bt,he] at hk;by_cases e:y.1=k
  ·have n1:lkA a k=none:=lkA_none.2 fun q hq=>by
    have:=SrtA.ne ho (a1 q hq);rw [←e,←hxy];exact Ne.symm this
   have n2:lkA b k=none:=lkA_none.2 fun q hq=>by
    have:=SrtA.ne ho (b1 q hq);rw [←e];exact Ne.symm this
   rw [n1,n2]
  ·rw [if_neg e,if_neg e] at hk;exact hk
end
section
variable {κ β:Type}[DecidableEq κ]{lt:κ→κ→Bool}
def BK (enc:β→Value)(l:AL κ β):κ→Option Value:=fun k=>(lkA l k).map enc
theorem Xo {l:AL κ β}{k:κ}:lkA l k≠none↔k∈l.map (·.1):=by
 constructor
 ·intro h;cases hv:lkA l k with
  |none=>exact absurd hv h
  |some v=>exact List.mem_map.2 ⟨_,Ep hv,rfl⟩
 ·intro h hn;obtain ⟨q,hq,rfl⟩:=List.mem_map.1 h;exact lkA_none.1 hn q hq rfl
end
theorem AFO {β:Type}(enc:β→Value)(l:AL Key β)(k:Key)(v:β):HZ (BK enc l) k (some (enc v))=BK enc (Bi blt k v l):=by
 funext q;unfold HZ BK;rw [HH];split <;> rfl
theorem ZS {β:Type}(enc:β→Value)(l:AL Int β)(k:Int)(v:β):LF (BK enc l) k (some (enc v))=BK enc (Bi ilt k v l):=by
 funext q;unfold LF BK;rw [HH];split <;> rfl
theorem ZT {β:Type}(enc:β→Value)(l:AL Int β)(k:Int):LF (BK enc l) k none=BK enc (Le k l):=by
 funext q;unfold LF BK;rw [AIr];split <;> rfl
theorem MapS.keysA {β:Type}{enc:β→Value}{l:AL Key β}{es:Array MapEntry}{clock:Nat}(h:MapS es clock (BK enc l))(hs:SrtA blt l):(es.toList.map Au).Perm (l.map (·.1)):=by
 refine (List.perm_ext_iff_of_nodup h.nod (hs.nodup Lj)).2 fun k=>?_;rw [←Xo];have hv:=h.val k;unfold BK at hv;rw [←Classical.not_not (a:=k∈es.toList.map Au),←fnd_none (l:=es.toList) (i:=0)];constructor
 ·intro hn he;rw [he] at hv;cases hf:fnd k es.toList 0 with
  |none=>exact hn hf
  |some p=>rw [hf] at hv;cases hv
 ·intro hn he;rw [he] at hv;cases hl:lkA l k with
  |none=>exact hn hl
  |some p=>rw [hl] at hv;cases hv
theorem MapSi.keysA {β:Type}{enc:β→Value}{l:AL Int β}{es:Array MapEntry}{clock:Nat}(h:MapSi es clock (BK enc l))(hs:SrtA ilt l):(es.toList.map BJ).Perm (l.map (·.1)):=by
 refine (List.perm_ext_iff_of_nodup h.nod (hs.nodup Ld)).2 fun k=>?_;rw [←Xo];have hv:=h.val k;unfold BK at hv;rw [←Classical.not_not (a:=k∈es.toList.map BJ),←fnd_nonei (l:=es.toList) (i:=0)];constructor
 ·intro hn he;rw [he] at hv;cases hf:DI k es.toList 0 with
  |none=>exact hn hf
  |some p=>rw [hf] at hv;cases hv
 ·intro hn he;rw [he] at hv;cases hl:lkA l k with
  |none=>exact hn hl
  |some p=>rw [hl] at hv;cases hv
theorem MapS.sizeA {β:Type}{enc:β→Value}{l:AL Key β}{es:Array MapEntry}{clock:Nat}(h:MapS es clock (BK enc l))(hs:SrtA blt l):es.size=l.length:=by
 have:=(h.keysA hs).length_eq;simpa using this
theorem MapSi.sizeA {β:Type}{enc:β→Value}{l:AL Int β}{es:Array MapEntry}{clock:Nat}(h:MapSi es clock (BK enc l))(hs:SrtA ilt l):es.size=l.length:=by
 have:=(h.keysA hs).length_eq;simpa using this
end Go.SL
namespace Go.Proofs.YtmmfcgbfbcamcaaGreatDoor
open Go.SL
theorem Dl {k:List UInt8}(h:Ap k=true):1≤k.length∧k.length≤110:=by simpa [Ap] using h
abbrev mk0:TMk:=⟨z0,0⟩
structure Mch where
 span:TSpan
 sp:Sp
 nt:Nts
 marks:AL (List UInt8) TMk
 low:TMk
 recs:AL Int TRc
 seen:AL Int TSn
 oldest:Int
 kept:List UInt8
def BM (e:Int):TRes:=⟨e,DF,[],z0,0,0⟩
def okR:TRes:=BM 0
def Nc (p q:TSpan):Bool:= !(blt q.fFrom p.fFrom)&&(p.fTo.length==0||(!(q.fTo.length==0)&& !(blt p.fTo q.fTo)))
def Bw (k:TMk)(a:TStamp)(n:Int):TMk:=if bhd a k.fAt=true then ⟨a,n⟩ else if bhd k.fAt a=false∧n≠k.fBy then ⟨k.fAt,0⟩ else k
def CG (low:TMk)(l:AL (List UInt8) TMk):TMk:=l.foldl (fun k q=>Bw k q.2.fAt q.2.fBy) low
def GI (m:Mch)(k:List UInt8):Bool:=(lkA m.marks k).isNone&&m.marks.length==32
def room (m:Mch)(k:List UInt8):Mch:=if GI m k=true then {m with marks:=[],low:=CG m.low m.marks} else m
def Dx (m:Mch)(k:List UInt8)(a:TStamp)(n:Int):Mch:=
 {room m k with marks:=Bi blt k (Bw ((lkA (room m k).marks k).getD mk0) a n) (room m k).marks}
def BI (k:TMk)(w:TStamp)(n:Int):TStamp×Int:=if k.fBy=n∧bhd k.fAt w=true then (k.fAt,0) else if k.fBy=n∨bhd w k.fAt=true then (w,0) else Dw k.fAt
def FP (m:Mch)(c:TCmd):TRes×Mch:=
 if inB m.span c.fKey=false then (BM 141,m) else
 if (FZ m.sp c.fKey c.fAt c.fTxn).2≠0 then (⟨(FZ m.sp c.fKey c.fAt c.fTxn).2,DF,[],z0,(FZ m.sp c.fKey c.fAt c.fTxn).1.fBy,0⟩,m) else
 (⟨0,(FZ m.sp c.fKey c.fAt c.fTxn).1,[],z0,0,0⟩,Dx m c.fKey c.fAt c.fTxn)
def EH (m:Mch)(c:TCmd):TRes×Mch:=
 if Nc m.span c.fSpan=false then (BM 141,m) else
 if (Do m.sp c.fSpan c.fAt c.fTxn c.fMost).2.2≠0 then (⟨(Do m.sp c.fSpan c.fAt c.fTxn c.fMost).2.2,DF,[],z0,(Do m.sp c.fSpan c.fAt c.fTxn c.fMost).2.1,0⟩,m) else
 (⟨0,DF,(Do m.sp c.fSpan c.fAt c.fTxn c.fMost).1,z0,0,0⟩,{m with low:=Bw m.low c.fAt c.fTxn})
def Bl (m:Mch)(c:TCmd):Option TRes:=match lkA m.seen c.fTxn with
 |some x=>if x.fSeq=c.fSeq then some ⟨x.fCode,DF,[],x.fAt,0,0⟩ else if c.fSeq < x.fSeq then some (BM 144) else none
 |none=>if c.fTxn≤m.oldest then some (BM 144) else none
def ES (m:Mch)(c:TCmd)(e:Int)(a:TStamp):AL Int TSn:=Bi ilt c.fTxn ⟨c.fSeq,e,a⟩ m.seen
def EZ (m:Mch)(c:TCmd)(e:Int)(a:TStamp):Mch:=
 if 64 < (ES m c e a).length then {m with seen:=(ES m c e a).tail,oldest:=((ES m c e a).head?.map (·.1)).getD 0} else {m with seen:=ES m c e a}
def CH (m:Mch)(c:TCmd):TStamp×Int:=match lkA m.marks c.fKey with
 |some k=>BI k c.fAt c.fTxn
 |none=>(c.fAt,0)
def DC (c:TCmd)(w:TStamp):TIntent:=⟨c.fKey,c.fTxn,w,c.fDel,c.fValue⟩
def DN (m:Mch)(c:TCmd):TRes×Mch:=
 if inB m.span c.fKey=false then (BM 141,m) else
 match Bl m c with
 |some r=>(r,m)
 |none=>
  if (CH m c).2≠0 then (BM (CH m c).2,m) else
  if (BI m.low (CH m c).1 c.fTxn).2≠0 then (BM (BI m.low (CH m c).1 c.fTxn).2,m) else
  let x:=DC c (BI m.low (CH m c).1 c.fTxn).1
  let m1:Mch:={m with sp:=ET m.sp x,nt:=Fz m.sp x m.nt}
  (⟨(Bo m.sp x).2.2,DF,[],(Bo m.sp x).1,(Bo m.sp x).2.1,0⟩,if (Bo m.sp x).2.2=0 then EZ m1 c 0 (Bo m.sp x).1 else m1)
def Ew (m:Mch)(c:TCmd):TRes×Mch:=
 if Nc m.span c.fSpan=false then (BM 141,m) else
 match Bl m c with
 |some r=>(r,m)
 |none=>
  if bhd c.fAt c.fTo=true then (BM 1,m) else
  if (chF m.sp c.fSpan c.fAt c.fTo c.fTxn).2≠0 then (BM (chF m.sp c.fSpan c.fAt c.fTo c.fTxn).2,m) else
  if (chF m.sp c.fSpan c.fAt c.fTo c.fTxn).1=true then (BM 144,m) else
  (okR,EZ {m with low:=Bw m.low c.fTo c.fTxn} c 0 z0)
def Dq (m:Mch)(n s:Int)(a:TStamp):Option Mch:=if (lkA m.recs n).isSome=true then some m else if 64≤m.recs.length then none else some {m with recs:=Bi ilt n ⟨s,a⟩ m.recs}
def recAt (m:Mch)(n:Int):TRc:=(lkA m.recs n).getD ⟨0,z0⟩
def FR (m:Mch)(c:TCmd):TRes×Mch:=
 match Bl m c with
 |some r=>(r,m)
 |none=>match Dq m c.fTxn 1 c.fAt with
  |none=>(BM 143,m)
  |some m1=>if (recAt m1 c.fTxn).fState≠1 then (⟨142,DF,[],z0,0,(recAt m1 c.fTxn).fState⟩,m1) else (⟨0,DF,[],z0,0,1⟩,EZ m1 c 0 z0)
def FI (c:TCmd):Int:=if c.fYes=true then 2 else 3
def endOf (m1:Mch)(c:TCmd):Mch:=if (recAt m1 c.fTxn).fState=1 then {m1 with recs:=Bi ilt c.fTxn ⟨FI c,c.fAt⟩ m1.recs} else m1
def FQ (m:Mch)(c:TCmd):TRes×Mch:=match Dq m c.fTxn 3 c.fAt with
 |none=>(BM 143,m)
 |some m1=>(⟨if (recAt (endOf m1 c) c.fTxn).fState≠FI c then 142 else 0,DF,[],(recAt (endOf m1 c) c.fTxn).fAt,0,(recAt (endOf m1 c) c.fTxn).fState⟩,endOf m1 c)
def pushB (x:TRc)(c:TCmd):Bool:=x.fState==1&&(bhd x.fAt c.fAt||(!(bhd c.fAt x.fAt)&&decide (c.fBy < c.fTxn)))
def GB (m1:Mch)(c:TCmd):Mch:=if pushB (recAt m1 c.fTxn) c=true then {m1 with recs:=Bi ilt c.fTxn ⟨3,(recAt m1 c.fTxn).fAt⟩ m1.recs} else m1
def Dc (m:Mch)(c:TCmd):TRes×Mch:=match Dq m c.fTxn 3 c.fAt with
 |none=>(BM 143,m)
 |some m1=>(⟨0,DF,[],(recAt m1 c.fTxn).fAt,0,if pushB (recAt m1 c.fTxn) c=true then 3 else (recAt m1 c.fTxn).fState⟩,GB m1 c)
def HL (m:Mch)(c:TCmd):TRes×Mch:=if (recAt m c.fTxn).fState=1 then (BM 142,m) else (okR,{m with recs:=Le c.fTxn m.recs})
def resL (c:TCmd):List TIntent→Sp→Nts→Int×Sp×Nts
 |[],sp,nt=>(0,sp,nt)
 |x::l,sp,nt=>if x.fTxn≠c.fTxn∨inB c.fSpan x.fKey=false then resL c l sp nt else
   if (FK sp x.fKey c.fTxn c.fYes c.fAt).2≠0 then ((FK sp x.fKey c.fTxn c.fYes c.fAt).2,Dv sp x.fKey c.fTxn c.fYes c.fAt,GN sp x.fKey c.fTxn c.fYes c.fAt nt) else
   resL c l (Dv sp x.fKey c.fTxn c.fYes c.fAt) (GN sp x.fKey c.fTxn c.fYes c.fAt nt)
def FX (m:Mch)(c:TCmd):TRes×Mch:=if Nc m.span c.fSpan=false then (BM 141,m) else
 (BM (resL c (intsOf m.sp.rows) m.sp m.nt).1,{m with sp:=(resL c (intsOf m.sp.rows) m.sp m.nt).2.1,nt:=(resL c (intsOf m.sp.rows) m.sp m.nt).2.2})
def PC (m:Mch)(c:TCmd):TRes×Mch:=(BM (PD m.sp c.fAt).2,{m with sp:=colS m.sp c.fAt,nt:=Hf m.sp c.fAt m.nt})
noncomputable def Ci (m:Mch)(c:TCmd):TRes×Mch×Option Mch:=if inB m.span c.fKey=false∨c.fKey=m.span.fFrom then (BM 141,m,none) else
 (okR,{m with span:=⟨m.span.fFrom,c.fKey⟩,sp:=Is c.fKey m.sp,nt:=noteAs true (CL c.fKey m.sp.rows) m.nt,marks:=m.marks.filter fun q=>blt q.1 c.fKey},
  some ⟨⟨c.fKey,m.span.fTo⟩,Ha c.fKey m.sp,noteAs false (CL c.fKey m.sp.rows) (BC m.sp.floor),m.marks.filter fun q=> !blt q.1 c.fKey,m.low,[],m.seen,m.oldest,[]⟩)
def BV (r:TRes×Mch):TRes×Mch×Option Mch:=(r.1,r.2,none)
noncomputable def doM (m:Mch)(c:TCmd):TRes×Mch×Option Mch:=
 if c.fKind=1 then BV (FP m c) else if c.fKind=2 then BV (EH m c) else if c.fKind=3 then BV (DN m c) else if c.fKind=4 then BV (Ew m c) else if c.fKind=5 then BV (FR m c) else
 if c.fKind=6 then BV (FQ m c) else if c.fKind=7 then BV (Dc m c) else if c.fKind=8 then BV (HL m c) else if c.fKind=9 then BV (FX m c) else if c.fKind=10 then BV (PC m c) else Ci m c
noncomputable def BH (m:Mch)(c:TCmd):TRes×Mch×Option Mch:=if CZ c=false then (BM 140,m,none) else doM m c
def HG (p:TSpan):Mch:=⟨p,sp0,nt0,[],mk0,[],[],0,[]⟩
def EN (n:Int):Bool:=decide (0≤n∧n≤9007199254740991)
structure MkOk (k:TMk):Prop where
 right:AU k.fAt=true
 by':EN k.fBy=true
structure RcOk (x:TRc):Prop where
 state:1≤x.fState∧x.fState≤3
 right:AU x.fAt=true
structure SnOk (x:TSn):Prop where
 seq:EN x.fSeq=true
 code:x.fCode=0
 right:AU x.fAt=true
structure MOk (m:Mch)(N:Nat):Prop where
 span:DW m.span=true
 sp:SpOk m.sp
 rows:m.sp.rows.length≤N
 vers:Ae m.sp.rows≤N * N
 marks:SrtA blt m.marks
 marksL:m.marks.length≤32
 mark:∀q∈m.marks,Ap q.1=true∧MkOk q.2
 low:MkOk m.low
 recs:SrtA ilt m.recs
 recsL:m.recs.length≤64
 rec':∀q∈m.recs,CB q.1=true∧RcOk q.2
 seen:SrtA ilt m.seen
 seenL:m.seen.length≤64
 sn:∀q∈m.seen,CB q.1=true∧SnOk q.2
 oldest:EN m.oldest=true
section
variable {ω:Om}{I:Imm}{L:LH}{K:Value→M}
theorem Tu {v:Value}{l:List UInt8}(h:Bytes I v l)(hl:l.length≤140737488355328)(hk:∀X a c,SlO 5 1 X (.slice a l.length c) (u8s l) l.length→K (.slice a l.length c) I (X++L)):CT ω 82 #[v] K I L:=by
 refine AOB ?_;unfold AKW;obtain ⟨a,cap,rfl⟩:=Bytes.form h;cases a with
 |none=>
  try simp only [SSd,Nat.reduceAdd]
  have hl0:l.length=0:=by
   obtain ⟨_,a,c,e,_,h⟩:=h;cases e
   by_cases h0:l.length=0
   ·exact h0
   ·obtain ⟨b,off,cs,T,fr,e,_⟩:=h h0;cases e
  have:l=[]:=List.eq_nil_of_length_eq_zero hl0;subst this;exact Gh.done (hk [] _ _ (SlO.none _ 1))
 |some a=>
  try simp only [SSd,Nat.reduceAdd]
  refine UC (fun X u hX=>?_);refine Dz rfl hX (SlI.news h) (Gu _) (by omega) (by omega) (fun X' v' hX'=>?_);obtain ⟨a1,cap1,rfl⟩:=hX'.form;simp only [Nat.zero_add,List.nil_append] at hX' ⊢;exact Gh.done (hk X' _ _ hX')
theorem FG {v:Value}{l:List UInt8}(h:Bytes I v l)(hl:l.length≤140737488355328)(hk:∀a c I',Ext I I'→Bytes I' (.slice a l.length c) l→K (.slice a l.length c) I' L):CT ω 82 #[v] K I L:=
 Cal.gh (Tu h hl (fun X a c hX=>SlO.freeze hX (fun I' hI hS=>Gh.done (hk a c I' hI hS))))
theorem DV {v w:Value}{a b:List UInt8}(hv:Bytes I v a)(hw:Bytes I w b)(hk:K (.int .i64 (EY a b)) I L):CT ω 85 #[v,w] K I L:=by
 refine ANz ?_;unfold AKU;exact AJP hv hw (Gh.done (Gh.done hk))
theorem ZB {v:Value}{l:List UInt8}(h:Bytes I v l)(hk:K (.bool (Ap l)) I L):CT ω 91 #[v] K I L:=by
 obtain ⟨a,c,rfl⟩:=Bytes.form h;refine ANt ?_;unfold sh91;repeat' (first|(with_reducible first|refine AZ ?_|refine Aa ?_|refine Ac ?_|refine keepA ?_|refine AV (fun _=>?_)|refine rdb ?_)|((with_reducible first|refine st1 ?_ ?_|refine rdB ?_ ?_);rfl)|(with_reducible refine Ah ?_)|((with_reducible refine Ai ?_ ?_);rfl)|((with_reducible refine stB ?_ ?_ ?_ ?_);rfl;rfl;exact AK rfl)|((with_reducible first|refine rdP _ rfl ?_ ?_|refine As _ rfl ?_ ?_);rfl)|((with_reducible refine stP _ rfl ?_ ?_ ?_ ?_);rfl;rfl;rfl)|(with_reducible first|refine AW (sh91.eq_1 ..) ?_|refine And.intro ?_ ?_)|(simp only [SSg,Int.reduceBEq,Int.reduceBNe,Int.reduceLT,Int.reduceLE,beq_self_eq_true,bne_self_eq_false])|(with_reducible first|refine AG (fun _=>?_) (fun _=>?_)|refine AC (fun _=>?_) (fun _=>?_))|(simp only [SSd,Nat.reduceAdd]))
 all_goals (refine Gh.done (EW hk ?_);rw [Bool.eq_iff_iff];simp only [Ap,ne_eq,decide_eq_true_eq,decide_eq_false_iff_not,Bool.false_eq_true,iff_false] at *; omega)
theorem IL {a:Int}(hk:K (.bool (CB a)) I L):CT ω 90 #[.int .i64 a] K I L:=by
 refine ANu ?_;unfold sh90;repeat' (first|(with_reducible first|refine AZ ?_|refine Aa ?_|refine Ac ?_|refine keepA ?_|refine AV (fun _=>?_)|refine rdb ?_)|((with_reducible first|refine st1 ?_ ?_|refine rdB ?_ ?_);rfl)|(with_reducible refine Ah ?_)|((with_reducible refine Ai ?_ ?_);rfl)|((with_reducible refine stB ?_ ?_ ?_ ?_);rfl;rfl;exact AK rfl)|((with_reducible first|refine rdP _ rfl ?_ ?_|refine As _ rfl ?_ ?_);rfl)|((with_reducible refine stP _ rfl ?_ ?_ ?_ ?_);rfl;rfl;rfl)|(with_reducible first|refine AW (sh90.eq_1 ..) ?_|refine And.intro ?_ ?_)|(simp only [SSg,Int.reduceBEq,Int.reduceBNe,Int.reduceLT,Int.reduceLE,beq_self_eq_true,bne_self_eq_false])|(with_reducible first|refine AG (fun _=>?_) (fun _=>?_)|refine AC (fun _=>?_) (fun _=>?_))|(simp only [SSd,Nat.reduceAdd]))
 all_goals (refine Gh.done (EW hk ?_);simp_all [CB] <;> omega)
theorem ltI (a b:List UInt8):decide (0 < EY a b)=blt b a:=SB a b
theorem Iz {p:TSpan}{c:List Value}(hp:TSpanV I p c)(hk:K (.bool (DW p)) I L):CT ω 30 #[.agg c.toArray] K I L:=by
 obtain ⟨v0,v1,rfl,h0,h1⟩:=hp;refine AOV ?_;unfold sh30;repeat' (first|(with_reducible first|refine AZ ?_|refine Aa ?_|refine Ac ?_|refine keepA ?_|refine AV (fun _=>?_))|((with_reducible refine call ?_);refine (DV h1 h0 ?_))|(with_reducible refine rdb ?_)|((with_reducible first|refine st1 ?_ ?_|refine rdB ?_ ?_);rfl)|(with_reducible refine Ah ?_)|((with_reducible refine Ai ?_ ?_);rfl)|((with_reducible refine stB ?_ ?_ ?_ ?_);rfl;rfl;exact AK rfl)|((with_reducible first|refine rdP _ rfl ?_ ?_|refine As _ rfl ?_ ?_);rfl)|((with_reducible refine stP _ rfl ?_ ?_ ?_ ?_);rfl;rfl;rfl)|(with_reducible first|refine AW (sh30.eq_1 ..) ?_|refine And.intro ?_ ?_)|(simp only [SSg,Int.reduceBEq,Int.reduceBNe,Int.reduceLT,Int.reduceLE,beq_self_eq_true,bne_self_eq_false])|(with_reducible first|refine AG (fun _=>?_) (fun _=>?_)|refine AC (fun _=>?_) (fun _=>?_))|(simp only [SSd,Nat.reduceAdd,Bytes.len h0,Bytes.len h1]))
 all_goals (refine Gh.to L (Gh.done (EW hk ?_));rw [Bool.eq_iff_iff];simp only [DW,←SB,Bool.and_eq_true,Bool.or_eq_true,decide_eq_true_eq,beq_iff_eq,ne_eq,decide_eq_false_iff_not,Bool.false_eq_true,iff_false,not_and,not_or,gt_iff_lt,beq_eq_false_iff_ne,Bool.not_eq_false,iff_true] at *; omega)
theorem Ey {p:TSpan}{c:List Value}{kv:Value}{k:List UInt8}(hp:TSpanV I p c)(h:Bytes I kv k)(hk:K (.bool (inB p k)) I L):CT ω 148 #[.agg c.toArray,kv] K I L:=by
 obtain ⟨v0,v1,rfl,h0,h1⟩:=hp;refine AMi ?_;unfold sh148;repeat' (first|(with_reducible first|refine AZ ?_|refine Aa ?_|refine Ac ?_|refine keepA ?_|refine AV (fun _=>?_))|((with_reducible refine call ?_);refine (DV h h0 ?_))|((with_reducible refine call ?_);refine (DV h h1 ?_))|(with_reducible refine rdb ?_)|((with_reducible first|refine st1 ?_ ?_|refine rdB ?_ ?_);rfl)|(with_reducible refine Ah ?_)|((with_reducible refine Ai ?_ ?_);rfl)|((with_reducible refine stB ?_ ?_ ?_ ?_);rfl;rfl;exact AK rfl)|((with_reducible first|refine rdP _ rfl ?_ ?_|refine As _ rfl ?_ ?_);rfl)|((with_reducible refine stP _ rfl ?_ ?_ ?_ ?_);rfl;rfl;rfl)|(with_reducible first|refine AW (sh148.eq_1 ..) ?_|refine And.intro ?_ ?_)|(simp only [SSg,Int.reduceBEq,Int.reduceBNe,Int.reduceLT,Int.reduceLE,beq_self_eq_true,bne_self_eq_false])|(with_reducible first|refine AG (fun _=>?_) (fun _=>?_)|refine AC (fun _=>?_) (fun _=>?_))|(simp only [SSd,Nat.reduceAdd,Bytes.len h1]))
 all_goals (refine Gh.to L (Gh.done (EW hk ?_));rw [Bool.eq_iff_iff];simp only [inB,←AJV,Bool.not_eq_true',Bool.and_eq_true,Bool.or_eq_true,decide_eq_true_eq,beq_iff_eq,ne_eq,decide_eq_false_iff_not,Bool.false_eq_true,iff_false,not_and,not_or,ge_iff_le,true_iff,and_true,true_and,or_true,beq_eq_false_iff_ne,Bool.not_eq_false,iff_true] at *; omega)
abbrev mv (k:TMk):Value:=.agg #[.int .i64 k.fAt.fWall,.int .i64 k.fAt.fLogic,.int .i64 k.fBy]
theorem NN (a b:TStamp):decide (0 < Oq a b)=bhd a b:=NP a b
theorem Jg (a b:TStamp):decide (Oq a b < 0)=bhd b a:=by
 unfold Oq bhd Rl;by_cases h1:a.fWall < b.fWall <;> by_cases h2:b.fWall < a.fWall <;> by_cases h3:a.fLogic < b.fLogic <;> by_cases h4:b.fLogic < a.fLogic <;> simp [h1,h2,h3,h4] <;> omega
theorem Xr {k k':TMk}(h:K (mv k) I L)(e:k=k'):K (mv k') I L:=e ▸ h
theorem Eh {k:TMk}{a:TStamp}{n:Int}(hk:K (mv (Bw k a n)) I L):CT ω 153 #[mv k,sv a,.int .i64 n] K I L:=by
 refine AMd ?_;unfold sh153;have h1:=NN a k.fAt;have h2:=Jg a k.fAt;repeat' (first|(with_reducible first|refine AZ ?_|refine Aa ?_|refine Ac ?_|refine keepA ?_|refine AV (fun _=>?_))|((with_reducible refine call ?_);refine (DU (x:=a) (y:=k.fAt) ?_))|(with_reducible refine rdb ?_)|((with_reducible first|refine st1 ?_ ?_|refine rdB ?_ ?_);rfl)|(with_reducible refine Ah ?_)|((with_reducible refine Ai ?_ ?_);rfl)|((with_reducible refine stB ?_ ?_ ?_ ?_);rfl;rfl;exact AK rfl)|((with_reducible first|refine rdP _ rfl ?_ ?_|refine As _ rfl ?_ ?_);rfl)|((with_reducible refine stP _ rfl ?_ ?_ ?_ ?_);rfl;rfl;rfl)|(with_reducible first|refine AW (sh153_3.eq_1 ..) ?_|refine AW (sh153_1.eq_1 ..) ?_|refine AW (sh153.eq_1 ..) ?_|refine And.intro ?_ ?_)|(simp only [SSg,Int.reduceBEq,Int.reduceBNe,Int.reduceLT,Int.reduceLE,beq_self_eq_true,bne_self_eq_false])|(with_reducible first|refine AG (fun _=>?_) (fun _=>?_)|refine AC (fun _=>?_) (fun _=>?_))|(simp only [SSd,Nat.reduceAdd]))
 ·exact Gh.to L (Gh.done (Xr (k':=⟨a,n⟩) hk (by unfold Bw;rw [if_pos (by rw [←h1];assumption)])))
 ·rename_i e1 e2 e3
  refine Gh.to L (Gh.done (Xr (k':=⟨k.fAt,0⟩) hk ?_));unfold Bw;rw [if_neg (by rw [←h1];simpa using e1),if_pos ⟨by rw [←h2];simp at e2 ⊢;omega,by simpa using e3⟩]
 ·rename_i e1 e2 e3
  refine Gh.to L (Gh.done (Xr (k':=k) hk ?_));unfold Bw;rw [if_neg (by rw [←h1];simpa using e1),if_neg (by rintro ⟨_,h⟩;simp at e3;exact h e3)]
 ·rename_i e1 e2
  refine Gh.to L (Gh.done (Xr (k':=k) hk ?_));unfold Bw;rw [if_neg (by rw [←h1];simpa using e1),if_neg (by rintro ⟨h,_⟩;rw [←h2] at h;simp at e1 e2 h;omega)]
theorem VV {p:TStamp×Int}{q:TStamp}{e:Int}(h:K (.tuple #[sv p.1,.int .i64 p.2]) I L)(h2:p=(q,e)):K (.tuple #[sv q,.int .i64 e]) I L:=by subst h2;exact h
theorem Nu {k:TMk}{w:TStamp}{n:Int}(hk:K (.tuple #[sv (BI k w n).1,.int .i64 (BI k w n).2]) I L):CT ω 155 #[mv k,sv w,.int .i64 n] K I L:=by
 refine AMb ?_;unfold sh155;have h1:=NN k.fAt w;have h2:=Jg k.fAt w;repeat' (first|(with_reducible first|refine AZ ?_|refine Aa ?_|refine Ac ?_|refine keepA ?_|refine AV (fun _=>?_))|((with_reducible refine call ?_);refine (DU (x:=k.fAt) (y:=w) ?_))|((with_reducible refine call ?_);refine (OI ?_))|(with_reducible refine rdb ?_)|((with_reducible first|refine st1 ?_ ?_|refine rdB ?_ ?_);rfl)|(with_reducible refine Ah ?_)|((with_reducible refine Ai ?_ ?_);rfl)|((with_reducible refine stB ?_ ?_ ?_ ?_);rfl;rfl;exact AK rfl)|((with_reducible first|refine rdP _ rfl ?_ ?_|refine As _ rfl ?_ ?_);rfl)|((with_reducible refine stP _ rfl ?_ ?_ ?_ ?_);rfl;rfl;rfl)|(with_reducible first|refine AW (sh155_1.eq_1 ..) ?_|refine AW (sh155_3.eq_1 ..) ?_|refine AW (sh155_2.eq_1 ..) ?_|refine AW (sh155.eq_1 ..) ?_|refine And.intro ?_ ?_)|(simp only [SSg,Int.reduceBEq,Int.reduceBNe,Int.reduceLT,Int.reduceLE,beq_self_eq_true,bne_self_eq_false])|(with_reducible first|refine AG (fun _=>?_) (fun _=>?_)|refine AC (fun _=>?_) (fun _=>?_))|(simp only [SSd,Nat.reduceAdd]))
 all_goals refine Gh.to L (Gh.done ?_)
 all_goals first|refine VV (q:=k.fAt) hk ?_|refine VV (q:=w) hk ?_|refine VV hk (q:=(Dw k.fAt).1) (e:=(Dw k.fAt).2) ?_
 all_goals (unfold BI;rw [←h1,←h2];clear h1 h2 hk;simp only [decide_eq_true_eq,beq_iff_eq,beq_eq_false_iff_ne,Bool.not_eq_false,gt_iff_lt,ne_eq,decide_eq_false_iff_not,Bool.not_eq_true] at *)
 all_goals first|(rw [if_pos (by omega)];done)|(rw [if_neg (by omega),if_pos (by omega)];done)|(rw [if_neg (by omega),if_neg (by omega)];done)|trace_state
end
theorem maxB_iff {n:Int}:EN n=true↔Dk n:=by simp [EN,Dk]
theorem AEl:MkOk mk0:=⟨by decide,by decide⟩
theorem Jk {k:TMk}{a:TStamp}{n:Int}(h:MkOk k)(ha:AU a=true)(hn:EN n=true):MkOk (Bw k a n):=by
 unfold Bw;split
 ·exact ⟨ha,hn⟩
 ·split
  ·exact ⟨h.right,rfl⟩
  ·exact h
theorem QF:∀{l:AL (List UInt8) TMk} {k:TMk},MkOk k→(∀q∈l,Ap q.1=true∧MkOk q.2)→MkOk (CG k l)
 |[],k,h,_=>h
 |q::l,k,h,hl=>QF (l:=l) (Jk h (hl q (List.mem_cons_self ..)).2.right (hl q (List.mem_cons_self ..)).2.by') (fun x hx=>hl x (List.mem_cons_of_mem _ hx))
theorem MOk.more {m:Mch}{N N':Nat}(h:MOk m N)(hN:N≤N'):MOk m N':={h with rows:=Nat.le_trans h.rows hN,vers:=Nat.le_trans h.vers (Nat.mul_le_mul hN hN)}
theorem AIU {m:Mch}{N:Nat}(h:MOk m N)(k:List UInt8):MOk (room m k) N∧((lkA (room m k).marks k).isNone=true→(room m k).marks.length < 32):=by
 unfold room;split
 ·rename_i e
  exact ⟨{h with marks:=List.Pairwise.nil,marksL:=by simp,mark:=(fun q hq=>by cases hq),low:=QF h.low h.mark},fun _=>by simp⟩
 ·rename_i e
  refine ⟨h,fun hn=>?_⟩;have:=h.marksL;simp only [GI,hn,Bool.true_and,beq_iff_eq] at e;omega
theorem AEr {m:Mch}{N:Nat}(h:MOk m N){k:List UInt8}{a:TStamp}{n:Int}(hk:Ap k=true)(ha:AU a=true)(hn:EN n=true):MOk (Dx m k a n) N:=by
 obtain ⟨h1,h2⟩:=AIU h k;unfold Dx;have hx:MkOk ((lkA (room m k).marks k).getD mk0):=by
  cases e:lkA (room m k).marks k with
  |none=>exact AEl
  |some x=>exact (h1.mark _ (Ep e)).2
 refine {h1 with marks:=h1.marks.ins Lj,marksL:=?_,mark:=fun q hq=>?_}
 ·show (Bi blt k _ (room m k).marks).length≤32;have:=Hr (lt:=blt) k (Bw ((lkA (room m k).marks k).getD mk0) a n) (room m k).marks;by_cases e:lkA (room m k).marks k=none
  ·have:=h2 (by rw [e];rfl);omega
  ·have:=OE Lj (k:=k) (v:=Bw ((lkA (room m k).marks k).getD mk0) a n) h1.marks e;have:=h1.marksL;omega
 ·rcases Hq hq with rfl|hq
  ·exact ⟨hk,Jk hx ha hn⟩
  ·exact h1.mark q hq
theorem Qu {m:Mch}{N:Nat}(h:MOk m N){c:TCmd}{a:TStamp}(ht:CB c.fTxn=true)(hs:EN c.fSeq=true)(ha:AU a=true):MOk (EZ m c 0 a) N:=by
 have hsrt:SrtA ilt (ES m c 0 a):=h.seen.ins Ld;have hmem:∀q∈ES m c 0 a,CB q.1=true∧SnOk q.2:=fun q hq=>by
  rcases Hq hq with rfl|hq
  ·exact ⟨ht,hs,rfl,ha⟩
  ·exact h.sn q hq
 have hlen:(ES m c 0 a).length≤m.seen.length+1:=(Hr ..).1;have:=h.seenL;unfold EZ;split
 ·refine {h with seen:=?_,seenL:=?_,sn:=fun q hq=>hmem q (List.mem_of_mem_tail hq),oldest:=?_}
  ·exact List.Pairwise.sublist (List.tail_sublist _) hsrt
  ·show (ES m c 0 a).tail.length≤64;rw [List.length_tail];omega
  ·show EN (((ES m c 0 a).head?.map (·.1)).getD 0)=true;cases e:ES m c 0 a with
   |nil=>rfl
   |cons q l=>
    have:=(hmem q (by rw [e];exact List.mem_cons_self ..)).1;exact maxB_iff.2 (DK this)
 ·exact {h with seen:=hsrt,seenL:=by show (ES m c 0 a).length≤64;omega,sn:=hmem}
theorem RJ {m m1:Mch}{N:Nat}{n s:Int}{a:TStamp}(h:MOk m N)(hn:CB n=true)(hs:1≤s∧s≤3)(ha:AU a=true)(e:Dq m n s a=some m1):MOk m1 N∧∃x,lkA m1.recs n=some x:=by
 unfold Dq at e;split at e
 ·rename_i h1
  cases e
  exact ⟨h,Option.isSome_iff_exists.1 h1⟩
 ·split at e
  ·cases e
  ·rename_i h1 h2
   cases e
   refine ⟨{h with recs:=h.recs.ins Ld,recsL:=?_,rec':=fun q hq=>?_},⟨s,a⟩,by simp [HH]⟩
   ·have:=Hr (lt:=ilt) n (⟨s,a⟩:TRc) m.recs;show (Bi ilt n _ m.recs).length≤64;omega
   ·rcases Hq hq with rfl|hq
    ·exact ⟨hn,hs,ha⟩
    ·exact h.rec' q hq
theorem Pe {m:Mch}{N:Nat}{n s:Int}{a:TStamp}(h:MOk m N)(hn:CB n=true)(hs:1≤s∧s≤3)(ha:AU a=true)(hx:∃x,lkA m.recs n=some x):MOk {m with recs:=Bi ilt n ⟨s,a⟩ m.recs} N:=by
 obtain ⟨x,hx⟩:=hx;refine {h with recs:=h.recs.ins Ld,recsL:=?_,rec':=fun q hq=>?_}
 ·show (Bi ilt n _ m.recs).length≤64;rw [OE Ld h.recs (by rw [hx];simp)];exact h.recsL
 ·rcases Hq hq with rfl|hq
  ·exact ⟨hn,hs,ha⟩
  ·exact h.rec' q hq
theorem Gk {m:Mch}{N:Nat}{n:Int}(h:MOk m N):(0≤(recAt m n).fState∧(recAt m n).fState≤3)∧AU (recAt m n).fAt=true:=by
 unfold recAt;cases e:lkA m.recs n with
 |none=>exact ⟨⟨by decide,by decide⟩,by decide⟩
 |some x=>
  have:=(h.rec' _ (Ep e)).2;exact ⟨⟨by have:=this.state.1;simp only [Option.getD_some] at *; omega,this.state.2⟩,this.right⟩
def rowB (x:TKV):Bool:=Ap x.fKey&&decide (x.fValue.length≤10000)
def GO (r:TRes):Bool:=r.fRows.all rowB&&decide (0≤r.fCode∧r.fCode≤999)&&decide (0≤r.fState∧r.fState≤3)&&EN r.fBy&&EN r.fGot.fBy&&AU r.fAt&&AU r.fGot.fAt&&decide (r.fGot.fValue.length≤10000)&&decide (r.fRows.length≤90)
theorem SD {e:Int}{a:TStamp}{n s:Int}(he:0≤e∧e≤999)(hs:0≤s∧s≤3)(hn:EN n=true)(ha:AU a=true):GO ⟨e,DF,[],a,n,s⟩=true:=by
 simp only [GO,hn,ha,he,hs,and_self,decide_true,List.all_nil,Bool.and_true,Bool.true_and,List.length_nil];rfl
theorem BF {e:Int}(he:0≤e∧e≤999):GO (BM e)=true:=SD he ⟨by omega,by omega⟩ (by decide) (by decide)
theorem LA {m:Mch}{N:Nat}{c:TCmd}{r:TRes}(h:MOk m N)(e:Bl m c=some r):GO r=true:=by
 unfold Bl at e;split at e
 ·rename_i x hx
  split at e
  ·cases e
   have:=(h.sn _ (Ep hx)).2;exact SD ⟨by have:=this.code;simp only at *; omega,by have:=this.code;simp only at *; omega⟩ ⟨by omega,by omega⟩ (by decide) this.right
  ·split at e
   ·cases e;exact BF (by omega)
   ·cases e
 ·split at e
  ·cases e;exact BF (by omega)
  ·cases e
theorem AGx {N:Nat}:N * N+1≤(N+1) * (N+1):=by
 rw [Nat.add_mul,Nat.mul_add];omega
theorem AGw {N:Nat}:N * N+N≤(N+1) * (N+1):=by
 rw [Nat.add_mul,Nat.mul_add];omega
theorem SY {o:Option TVer}(h:∀v,o=some v→VerOk v):(FS o).fBy=0∧AU (FS o).fAt=true∧(FS o).fValue.length≤10000:=by
 cases o with
 |none=>exact ⟨rfl,by decide,by decide⟩
 |some v=>
  have hv:=h v rfl;unfold FS;simp only
  split
  ·exact ⟨rfl,by decide,by decide⟩
  ·exact ⟨rfl,hv.right,hv.len⟩
theorem XW {r:Row}{a:TStamp}{n:Int}(h:RowOk r):EN (seen r a n).1.fBy=true∧AU (seen r a n).1.fAt=true∧(seen r a n).1.fValue.length≤10000∧(0≤(seen r a n).2∧(seen r a n).2≤999):=by
 have h1:=SY (o:=upTo r.vs a) (fun v hv=>h.vs v (AAQ hv));have hz:EN 0=true:=by decide
 unfold seen;split
 ·exact ⟨by rw [h1.1];exact hz,h1.2.1,h1.2.2,by simp,by simp⟩
 ·rename_i h0
  split
  ·have h2:=SY (o:=some r.it.ver) (fun v hv=>by
    cases hv
    rcases h.it with h|⟨_,h⟩
    ·rw [h] at h0;exact absurd rfl h0
    ·exact h)
   exact ⟨by rw [h2.1];exact hz,h2.2.1,h2.2.2,by simp,by simp⟩
  ·split
   ·refine ⟨maxB_iff.2 ?_,rfl,Nat.zero_le _,by simp,by simp⟩;have:=h.txn;exact ⟨this.1,this.2⟩
   ·exact ⟨by rw [h1.1];exact hz,h1.2.1,h1.2.2,by simp,by simp⟩
theorem ALN {sp:Sp}(h:SpOk sp)(k:List UInt8)(a:TStamp)(n:Int):EN (FZ sp k a n).1.fBy=true∧AU (FZ sp k a n).1.fAt=true∧(FZ sp k a n).1.fValue.length≤10000∧(0≤(FZ sp k a n).2∧(FZ sp k a n).2≤999):=by
 have z:∀e:Int,0≤e→e≤999→EN ((DF,e):TGot×Int).1.fBy=true∧AU ((DF,e):TGot×Int).1.fAt=true∧((DF,e):TGot×Int).1.fValue.length≤10000∧(0≤((DF,e):TGot×Int).2∧((DF,e):TGot×Int).2≤999):=fun e h1 h2=>⟨rfl,rfl,Nat.zero_le _,h1,h2⟩;unfold FZ;split
 ·exact z 1 (by omega) (by omega)
 ·split
  ·exact z 131 (by omega) (by omega)
  ·split
   ·exact z 0 (by omega) (by omega)
   ·rename_i r hr
    exact XW (h.rows r (BL hr))
theorem SZ {a:TStamp}{n most:Int}(hm:1≤most∧most≤90):∀{rows:List Row} {acc:List TKV},(∀r∈rows,RowOk r)→(∀x∈acc,rowB x=true)→(acc.length:Int) < most→
  (∀x∈(FT a n most rows acc).1,rowB x=true)∧(FT a n most rows acc).1.length≤90∧EN (FT a n most rows acc).2.1=true∧(0≤(FT a n most rows acc).2.2∧(FT a n most rows acc).2.2≤999)
 |[],acc,_,ha,hl=>⟨ha,by show acc.length≤90;omega,rfl,by simp [FT],by simp [FT]⟩
 |r::rs,acc,hr,ha,hl=>by
  have h1:=XW (a:=a) (n:=n) (hr r (List.mem_cons_self ..));have hp:(∀x∈push r (seen r a n).1 acc,rowB x=true)∧(push r (seen r a n).1 acc).length≤acc.length+1:=by
   unfold push;split
   ·refine ⟨fun x hx=>?_,by simp⟩;rcases List.mem_append.1 hx with hx|hx
    ·exact ha x hx
    ·simp only [List.mem_singleton] at hx;subst hx;have h2:=h1.2.2.1;simp [rowB,(hr r (List.mem_cons_self ..)).key,h2]
   ·exact ⟨ha,by omega⟩
  unfold FT;split
  ·exact ⟨(fun x hx=>by cases hx),by simp,h1.1,h1.2.2.2⟩
  ·split
   ·rename_i e
    exact ⟨hp.1,by show (push r (seen r a n).1 acc).length≤90;omega,by show EN 0=true;decide,by simp,by simp⟩
   ·rename_i e
    exact SZ hm (fun x hx=>hr x (List.mem_cons_of_mem _ hx)) hp.1 (by omega)
theorem scan_ok {sp:Sp}(h:SpOk sp){p:TSpan}{a:TStamp}{n most:Int}(hm:1≤most∧most≤90):(∀x∈(Do sp p a n most).1,rowB x=true)∧(Do sp p a n most).1.length≤90∧EN (Do sp p a n most).2.1=true∧(0≤(Do sp p a n most).2.2∧(Do sp p a n most).2.2≤999):=by
 unfold Do;split
 ·exact ⟨(fun x hx=>by cases hx),by simp,rfl,by simp,by simp⟩
 ·split
  ·exact ⟨(fun x hx=>by cases hx),by simp,rfl,by simp,by simp⟩
  ·exact SZ hm (fun r hr=>h.rows r (List.mem_filter.1 hr).1) (fun x hx=>by cases hx) (by simp;omega)
theorem Nq (a:TStamp):0≤(Dw a).2∧(Dw a).2≤999:=by
 unfold Dw;split
 ·simp
 ·split
  ·simp
  ·split <;> simp
theorem TP {k:TMk}{w:TStamp}{n:Int}(hk:MkOk k)(hw:AU w=true):(0≤(BI k w n).2∧(BI k w n).2≤999)∧((BI k w n).2=0→AU (BI k w n).1=true):=by
 unfold BI;split
 ·exact ⟨by simp,fun _=>hk.right⟩
 ·split
  ·exact ⟨by simp,fun _=>hw⟩
  ·exact ⟨Nq _,fun h=>(TI h).1⟩
theorem TQ {m:Mch}{N:Nat}{c:TCmd}(h:MOk m N)(hw:AU c.fAt=true):(0≤(CH m c).2∧(CH m c).2≤999)∧((CH m c).2=0→AU (CH m c).1=true):=by
 unfold CH;split
 ·rename_i k hk
  exact TP (h.mark _ (Ep hk)).2 hw
 ·exact ⟨by simp,fun _=>hw⟩
theorem VJ (a:TStamp)(o:Option TVer):0≤(Ez a o).2∧(Ez a o).2≤999:=by
 unfold Ez;split
 ·simp
 ·split
  ·simp
  ·exact Nq _
theorem Yy {sp:Sp}(h:SpOk sp)(x:TIntent):(0≤(Bo sp x).2.2∧(Bo sp x).2.2≤999)∧EN (Bo sp x).2.1=true∧AU (Bo sp x).1=true:=by
 by_cases h0:(Bo sp x).2.2=0
 ·have h1:=MH h h0;refine ⟨by omega,?_,h1.2.1⟩;unfold Bo at h0 ⊢;split at h0
  ·simp at h0
  ·split at h0
   ·simp at h0
   ·split at h0
    ·rename_i h3 h4 h5;exact absurd h0 h5
    ·rename_i h3 h4 h5;rw [if_neg h3,if_neg h4,if_neg h5];simp;decide
 ·unfold Bo at h0 ⊢;split
  ·exact ⟨by simp,by simp;decide,by simp;decide⟩
  ·split
   ·refine ⟨by simp,?_,by simp;decide⟩;refine maxB_iff.2 ?_;unfold Aj;cases e:rowOf sp.rows x.fKey with
    |none=>exact Cf
    |some r=>have:=(h.rows r (BL e)).txn;exact ⟨this.1,this.2⟩
   ·split
    ·exact ⟨VJ _ _,by simp;decide,by simp;decide⟩
    ·rename_i h3 h4 h5;rw [if_neg h3,if_neg h4,if_neg h5] at h0;exact absurd rfl h0
theorem AFY (sp:Sp)(p:TSpan)(a b:TStamp)(n:Int):0≤(chF sp p a b n).2∧(chF sp p a b n).2≤999:=by
 unfold chF;split
 ·simp
 ·split <;> simp
theorem Yt (sp:Sp)(k:List UInt8)(n:Int)(y:Bool)(a:TStamp):0≤(FK sp k n y a).2∧(FK sp k n y a).2≤999:=by
 unfold FK;split
 ·simp
 ·split
  ·simp
  ·split <;> simp
theorem Zx (sp:Sp)(b:TStamp):0≤(PD sp b).2∧(PD sp b).2≤999:=by
 unfold PD;split <;> simp
theorem RE {c:TCmd}:∀{l:List TIntent} {sp:Sp} {nt:Nts},SpOk sp→(0≤(resL c l sp nt).1∧(resL c l sp nt).1≤999)∧SpOk (resL c l sp nt).2.1∧(resL c l sp nt).2.1.rows.length≤sp.rows.length∧Ae (resL c l sp nt).2.1.rows≤Ae sp.rows+l.length
 |[],sp,nt,h=>⟨by simp [resL],h,Nat.le_refl _,by simp [resL]⟩
 |x::l,sp,nt,h=>by
  have h1:=h.res (k:=x.fKey) (txn:=c.fTxn) (yes:=c.fYes) (a:=c.fAt);have h2:=Xd (k:=x.fKey) (txn:=c.fTxn) (yes:=c.fYes) (a:=c.fAt) h;unfold resL;split
  ·have:=RE (c:=c) (l:=l) (nt:=nt) h;refine ⟨this.1,this.2.1,this.2.2.1,?_⟩;simp only [List.length_cons];omega
  ·split
   ·refine ⟨Yt _ _ _ _ _,h1,h2.1,?_⟩;simp only [List.length_cons];omega
   ·have:=RE (c:=c) (l:=l) (nt:=GN sp x.fKey c.fTxn c.fYes c.fAt nt) h1;refine ⟨this.1,this.2.1,by omega,?_⟩;simp only [List.length_cons];omega
theorem Rh (rows:List Row):(intsOf rows).length≤rows.length:=by
 unfold intsOf;rw [List.length_map];exact List.length_filter_le _ _
section
variable {m:Mch}{N:Nat}{c:TCmd}
theorem AJA (h:MOk m N)(hk:Ap c.fKey=true)(ha:AU c.fAt=true)(hn:EN c.fTxn=true):GO (FP m c).1=true∧MOk (FP m c).2 N:=by
 have g:=ALN h.sp c.fKey c.fAt c.fTxn;unfold FP;split
 ·exact ⟨BF (by omega),h⟩
 ·split
  ·exact ⟨SD g.2.2.2 ⟨by omega,by omega⟩ g.1 (by decide),h⟩
  ·refine ⟨?_,AEr h hk ha hn⟩;simp only [GO,g.1,g.2.1,g.2.2.1,decide_true,Bool.and_true,List.all_nil,Bool.true_and];rfl
theorem ADm (h:MOk m N)(hm:1≤c.fMost∧c.fMost≤90)(ha:AU c.fAt=true)(hn:EN c.fTxn=true):GO (EH m c).1=true∧MOk (EH m c).2 N:=by
 have g:=scan_ok h.sp (p:=c.fSpan) (a:=c.fAt) (n:=c.fTxn) hm;unfold EH;split
 ·exact ⟨BF (by omega),h⟩
 ·split
  ·exact ⟨SD g.2.2.2 ⟨by omega,by omega⟩ g.2.2.1 (by decide),h⟩
  ·refine ⟨?_,{h with low:=Jk h.low ha hn}⟩;simp only [GO,g.2.1,decide_true,Bool.and_true,List.all_eq_true.2 g.1,Bool.true_and];rfl
theorem AIg (h:MOk m N)(ha:AU c.fAt=true)(ht:CB c.fTxn=true)(hs:EN c.fSeq=true):GO (DN m c).1=true∧MOk (DN m c).2 (N+1):=by
 have hm:=h.more (Nat.le_succ N);unfold DN;split
 ·exact ⟨BF (by omega),hm⟩
 ·split
  ·rename_i r e;exact ⟨LA h e,hm⟩
  ·split
   ·exact ⟨BF (TQ h ha).1,hm⟩
   ·rename_i e1
    have h1:=(TQ h ha).2 (by simpa using e1);split
    ·exact ⟨BF (TP h.low h1).1,hm⟩
    ·have g:=Yy h.sp (DC c (BI m.low (CH m c).1 c.fTxn).1);have hp:MOk {m with sp:=ET m.sp (DC c (BI m.low (CH m c).1 c.fTxn).1),nt:=Fz m.sp (DC c (BI m.low (CH m c).1 c.fTxn).1) m.nt} (N+1):=by
      have:=AIe (x:=DC c (BI m.low (CH m c).1 c.fTxn).1) h.sp;have h2:=h.rows;have h3:=h.vers;have h4:=AGx (N:=N);refine {h with sp:=h.sp.put,rows:=?_,vers:=?_}
      ·show (ET m.sp _).rows.length≤N+1;omega
      ·show Ae (ET m.sp _).rows≤(N+1) * (N+1);omega
     refine ⟨SD g.1 ⟨by omega,by omega⟩ g.2.1 g.2.2,?_⟩;simp only
     split
     ·exact Qu hp ht hs g.2.2
     ·exact hp
theorem AIa (h:MOk m N)(ha:AU c.fTo=true)(ht:CB c.fTxn=true)(hs:EN c.fSeq=true):GO (Ew m c).1=true∧MOk (Ew m c).2 N:=by
 unfold Ew;split
 ·exact ⟨BF (by omega),h⟩
 ·split
  ·rename_i r e;exact ⟨LA h e,h⟩
  ·split
   ·exact ⟨BF (by omega),h⟩
   ·split
    ·exact ⟨BF (AFY _ _ _ _ _),h⟩
    ·split
     ·exact ⟨BF (by omega),h⟩
     ·exact ⟨BF (by omega),Qu (m:={m with low:=Bw m.low c.fTo c.fTxn}) {h with low:=Jk h.low ha (maxB_iff.2 (DK ht))} ht hs (by decide)⟩
theorem AJT (h:MOk m N)(ha:AU c.fAt=true)(ht:CB c.fTxn=true)(hs:EN c.fSeq=true):GO (FR m c).1=true∧MOk (FR m c).2 N:=by
 unfold FR;split
 ·rename_i r e;exact ⟨LA h e,h⟩
 ·split
  ·exact ⟨BF (by omega),h⟩
  ·rename_i m1 e
   obtain ⟨h1,_⟩:=RJ h ht ⟨by omega,by omega⟩ ha e;split
   ·exact ⟨SD ⟨by omega,by omega⟩ (Gk h1).1 (by decide) (by decide),h1⟩
   ·exact ⟨SD ⟨by omega,by omega⟩ ⟨by omega,by omega⟩ (by decide) (by decide),Qu h1 ht hs (by decide)⟩
theorem AGp (c:TCmd):1≤FI c∧FI c≤3:=by unfold FI;split <;> omega
theorem AJI (h:MOk m N)(ha:AU c.fAt=true)(ht:CB c.fTxn=true):GO (FQ m c).1=true∧MOk (FQ m c).2 N:=by
 unfold FQ;split
 ·exact ⟨BF (by omega),h⟩
 ·rename_i m1 e
  obtain ⟨h1,hx⟩:=RJ h ht ⟨by omega,by omega⟩ ha e;have h2:MOk (endOf m1 c) N:=by
   unfold endOf;split
   ·exact Pe h1 ht (AGp c) ha hx
   ·exact h1
  exact ⟨SD (by split <;> omega) (Gk h2).1 (by decide) (Gk h2).2,h2⟩
theorem AEX (h:MOk m N)(ha:AU c.fAt=true)(ht:CB c.fTxn=true):GO (Dc m c).1=true∧MOk (Dc m c).2 N:=by
 unfold Dc;split
 ·exact ⟨BF (by omega),h⟩
 ·rename_i m1 e
  obtain ⟨h1,hx⟩:=RJ h ht ⟨by omega,by omega⟩ ha e;refine ⟨SD ⟨by omega,by omega⟩ ?_ (by decide) (Gk h1).2,?_⟩
  ·split
   ·exact ⟨by omega,by omega⟩
   ·exact (Gk h1).1
  ·show MOk (GB m1 c) N;unfold GB;split
   ·exact Pe h1 ht ⟨by omega,by omega⟩ (Gk h1).2 hx
   ·exact h1
theorem forM_ok (h:MOk m N):GO (HL m c).1=true∧MOk (HL m c).2 N:=by
 unfold HL;split
 ·exact ⟨BF (by omega),h⟩
 ·refine ⟨BF (by omega),{h with recs:=h.recs.del,recsL:=?_,rec':=fun q hq=>h.rec' q (List.mem_filter.1 hq).1}⟩;exact Nat.le_trans (List.length_filter_le _ _) h.recsL
theorem AIX (h:MOk m N):GO (FX m c).1=true∧MOk (FX m c).2 (N+1):=by
 unfold FX;split
 ·exact ⟨BF (by omega),h.more (Nat.le_succ N)⟩
 ·have g:=RE (c:=c) (l:=intsOf m.sp.rows) (nt:=m.nt) h.sp;have h1:=Rh m.sp.rows;have h2:=h.rows;have h3:=h.vers;have h4:=AGw (N:=N);refine ⟨BF g.1,{h with sp:=g.2.1,rows:=?_,vers:=?_}⟩
  ·show (resL _ _ _ _).2.1.rows.length≤N+1;omega
  ·show Ae (resL _ _ _ _).2.1.rows≤(N+1) * (N+1);omega
theorem AJM (h:MOk m N):GO (PC m c).1=true∧MOk (PC m c).2 N:=by
 have h1:=AJK (sp:=m.sp) (b:=c.fAt);have h2:=h.rows;have h3:=h.vers;refine ⟨BF (Zx _ _),{h with sp:=h.sp.col,rows:=?_,vers:=?_}⟩
 ·show (colS m.sp c.fAt).rows.length≤N;omega
 ·show Ae (colS m.sp c.fAt).rows≤N * N;omega
theorem split_ok (h:MOk m N)(hk:Ap c.fKey=true):GO (Ci m c).1=true∧MOk (Ci m c).2.1 N∧∀r,(Ci m c).2.2=some r→MOk r N:=by
 unfold Ci;split
 ·exact ⟨BF (by omega),h,fun r hr=>by cases hr⟩
 ·rename_i e
  have hi:inB m.span c.fKey=true∧c.fKey≠m.span.fFrom:=by
   constructor
   ·cases hb:inB m.span c.fKey with
    |true=>rfl
    |false=>exact absurd (.inl hb) e
   ·exact fun e2=>e (.inr e2)
  have hv:=PM (k:=c.fKey) h.sp;have hkl:=Dl hk;have hsp:=h.span;simp only [DW,Bool.and_eq_true,Bool.or_eq_true,decide_eq_true_eq,beq_iff_eq] at hsp;have hin:=hi.1;simp only [inB,Bool.and_eq_true,Bool.or_eq_true,Bool.not_eq_true',beq_iff_eq] at hin;have hlt:blt m.span.fFrom c.fKey=true:=by
   cases hb:blt m.span.fFrom c.fKey with
   |true=>rfl
   |false=>exact absurd (Dn _ _ hin.1 hb) hi.2
  have fl:∀f:(List UInt8×TMk)→Bool,SrtA blt (m.marks.filter f)∧(m.marks.filter f).length≤32∧∀q∈m.marks.filter f,Ap q.1=true∧MkOk q.2:=fun f=>
   ⟨List.Pairwise.sublist List.filter_sublist h.marks,Nat.le_trans (List.length_filter_le _ _) h.marksL,fun q hq=>h.mark q (List.mem_filter.1 hq).1⟩
  have h2:=h.rows;have h3:=h.vers;refine ⟨BF (by omega),{h with span:=?_,sp:=AHB h.sp,rows:=by show (Is c.fKey m.sp).rows.length≤N;omega,vers:=by show Ae (Is c.fKey m.sp).rows≤N * N;omega,marks:=(fl _).1,marksL:=(fl _).2.1,mark:=(fl _).2.2},fun r hr=>?_⟩
  ·simp only [DW,Bool.and_eq_true,Bool.or_eq_true,decide_eq_true_eq,beq_iff_eq];exact ⟨⟨hsp.1.1,by omega⟩,.inr hlt⟩
  ·cases hr
   refine {h with span:=?_,sp:=AHA h.sp,rows:=by show (Ha c.fKey m.sp).rows.length≤N;omega,vers:=by show Ae (Ha c.fKey m.sp).rows≤N * N;omega,marks:=(fl _).1,marksL:=(fl _).2.1,mark:=(fl _).2.2,recs:=List.Pairwise.nil,recsL:=by simp,rec':=fun q hq=>by cases hq};simp only [DW,Bool.and_eq_true,Bool.or_eq_true,decide_eq_true_eq,beq_iff_eq];exact ⟨⟨by omega,hsp.1.2⟩,hin.2⟩
theorem Ko {c:TCmd}(h:kindOk c=true)(h11:c.fKind=11∨c.fKind=1∨c.fKind=3):Ap c.fKey=true:=by
 unfold kindOk at h;rcases h11 with e|e|e <;> simp [e] at h <;> simp [h]
theorem GF {c:TCmd}(h:kindOk c=true)(hk:3≤c.fKind∧c.fKind≤9):CB c.fTxn=true:=by
 unfold kindOk at h;have:c.fKind=3∨c.fKind=4∨c.fKind=5∨c.fKind=6∨c.fKind=7∨c.fKind=8∨c.fKind=9:=by omega
 rcases this with e|e|e|e|e|e|e <;> simp [e] at h <;> simp [h]
theorem TU {c:TCmd}(h:kindOk c=true)(hk:c.fKind=2):1≤c.fMost∧c.fMost≤90:=by
 unfold kindOk at h;simp [hk] at h;omega
theorem EX {α:Type}{P:α→Prop}{q:Prop}[Decidable q]{a b:α}(h1:q→P a)(h2:¬q→P b):P (if q then a else b):=by
 by_cases h:q
 ·rw [if_pos h];exact h1 h
 ·rw [if_neg h];exact h2 h
def OkR (N:Nat)(r:TRes×Mch×Option Mch):Prop:=GO r.1=true∧MOk r.2.1 N∧∀x,r.2.2=some x→MOk x N
theorem OkR.ns {r:TRes×Mch}(h:GO r.1=true∧MOk r.2 N):OkR N (BV r):=⟨h.1,h.2,fun x hx=>by cases hx⟩
theorem OkR.up {r:TRes×Mch}(h:GO r.1=true∧MOk r.2 N):OkR (N+1) (BV r):=OkR.ns ⟨h.1,h.2.more (Nat.le_succ N)⟩
theorem Kz (h:MOk m N):OkR (N+1) (BH m c):=by
 have hm:=h.more (Nat.le_succ N);unfold BH;refine EX (fun e=>⟨BF (by omega),hm,fun r hr=>by cases hr⟩) (fun e=>?_);have hr:CZ c=true:=by simpa using e
 have hc:=Pi hr;have hk:kindOk c=true:=by
  simp only [CZ,Bool.and_eq_true] at hr;exact hr.2
 have hT:EN c.fTxn=true:=maxB_iff.2 hc.txn;have hS:EN c.fSeq=true:=maxB_iff.2 hc.seq;have hK:=hc.kind;unfold doM;refine EX (fun e=>OkR.up (AJA h (Ko hk (.inr (.inl e))) hc.at' hT)) (fun h1=>?_);refine EX (fun e=>OkR.up (ADm h (TU hk e) hc.at' hT)) (fun h2=>?_);refine EX (fun e=>OkR.ns (AIg h hc.at' (GF hk (by omega)) hS)) (fun h3=>?_);refine EX (fun e=>OkR.up (AIa h hc.to (GF hk (by omega)) hS)) (fun h4=>?_);refine EX (fun e=>OkR.up (AJT h hc.at' (GF hk (by omega)) hS)) (fun h5=>?_);refine EX (fun e=>OkR.up (AJI h hc.at' (GF hk (by omega)))) (fun h6=>?_);refine EX (fun e=>OkR.up (AEX h hc.at' (GF hk (by omega)))) (fun h7=>?_);refine EX (fun e=>OkR.up (forM_ok h)) (fun h8=>?_);refine EX (fun e=>OkR.ns (AIX h)) (fun h9=>?_);refine EX (fun e=>OkR.up (AJM h)) (fun h10=>?_);have:=split_ok h (c:=c) (Ko hk (.inl (by omega)));exact ⟨this.1,this.2.1.more (Nat.le_succ N),fun r hr=>(this.2.2 r hr).more (Nat.le_succ N)⟩
theorem Xn {p:TSpan}(h:DW p=true):MOk (HG p) 0:=⟨h,AAY,Nat.le_refl _,Nat.le_refl _,List.Pairwise.nil,by simp [HG],(fun q hq=>by cases hq),AEl,List.Pairwise.nil,by simp [HG],(fun q hq=>by cases hq),List.Pairwise.nil,by simp [HG],(fun q hq=>by cases hq),by show EN 0=true;decide⟩
end
abbrev rcv (x:TRc):Value:=.agg #[.int .i64 x.fState,.int .i64 x.fAt.fWall,.int .i64 x.fAt.fLogic]
abbrev snv (x:TSn):Value:=.agg #[.int .i64 x.fSeq,.int .i64 x.fCode,.int .i64 x.fAt.fWall,.int .i64 x.fAt.fLogic]
abbrev ALF (v0 v1:Value)(s mk:Nat)(low:TMk)(rc sn:Nat)(old:Int)(kv:Value):Obj:=
 .cells #[v0,v1,pt s,.map (some mk),.int .i64 low.fAt.fWall,.int .i64 low.fAt.fLogic,.int .i64 low.fBy,.map (some rc),.map (some sn),.int .i64 old,kv] 163 (0,0)
abbrev rv (e:Int)(a:TStamp)(n s:Int):Value:=.agg #[.int .i64 e,.bool false,.slice none 0 0,.int .i64 0,.int .i64 0,.int .i64 0,.slice none 0 0,.int .i64 a.fWall,.int .i64 a.fLogic,.int .i64 n,.int .i64 s]
theorem Ee (I:Imm)(e:Int)(a:TStamp)(n s:Int):TResV I ⟨e,DF,[],a,n,s⟩ [.int .i64 e,.bool false,.slice none 0 0,.int .i64 0,.int .i64 0,.int .i64 0,.slice none 0 0,.int .i64 a.fWall,.int .i64 a.fLogic,.int .i64 n,.int .i64 s]:=
 ⟨_,_,rfl,SlI.nil I 1 none 0,RL.nil none 0⟩
section
variable {ω:Om}{I:Imm}{L:LH}{K:Value→M}
theorem Ar {e:Int}(hk:K (rv e z0 0 0) I L):CT ω 34 #[.int .i64 e] K I L:=by
 refine AOR ?_;unfold sh34;repeat' (first|(with_reducible first|refine AZ ?_|refine Aa ?_|refine Ac ?_|refine keepA ?_|refine AV (fun _=>?_)|refine rdb ?_)|((with_reducible first|refine st1 ?_ ?_|refine rdB ?_ ?_);rfl)|(with_reducible refine Ah ?_)|((with_reducible refine Ai ?_ ?_);rfl)|((with_reducible refine stB ?_ ?_ ?_ ?_);rfl;rfl;exact AK rfl)|((with_reducible first|refine rdP _ rfl ?_ ?_|refine As _ rfl ?_ ?_);rfl)|((with_reducible refine stP _ rfl ?_ ?_ ?_ ?_);rfl;rfl;rfl)|(with_reducible first|refine AW (sh34.eq_1 ..) ?_|refine And.intro ?_ ?_)|(simp only [SSg,Int.reduceBEq,Int.reduceBNe,Int.reduceLT,Int.reduceLE,beq_self_eq_true,bne_self_eq_false])|(with_reducible first|refine AG (fun _=>?_) (fun _=>?_)|refine AC (fun _=>?_) (fun _=>?_))|(simp only [SSd,Nat.reduceAdd]))
 exact Gh.to L (Gh.done hk)
structure MV where
 km:Nat
 rc:Nat
 sn:Nat
 v0:Value
 v1:Value
 kv:Value
 e1:Array MapEntry
 c1:Nat
 e2:Array MapEntry
 c2:Nat
 e3:Array MapEntry
 c3:Nat
abbrev mL (b s:Nat)(V:MV)(m:Mch)(R:LH):LH:=
 (b,ALF V.v0 V.v1 s V.km m.low V.rc V.sn m.oldest V.kv)::(V.km,.map V.e1 V.c1)::(V.rc,.map V.e2 V.c2)::(V.sn,.map V.e3 V.c3)::R
structure MF (I:Imm)(V:MV)(m:Mch):Prop where
 f0:Bytes I V.v0 m.span.fFrom
 f1:Bytes I V.v1 m.span.fTo
 mks:MapS V.e1 V.c1 (BK mv m.marks)
 rcs:MapSi V.e2 V.c2 (BK rcv m.recs)
 sns:MapSi V.e3 V.c3 (BK snv m.seen)
 kpt:Bytes I V.kv m.kept
theorem MF.mono {I I':Imm}{V:MV}{m:Mch}(h:MF I V m)(hI:Ext I I'):MF I' V m:={h with f0:=h.f0.mono hI,f1:=h.f1.mono hI,kpt:=h.kpt.mono hI}
variable {b s:Nat}{V:MV}{m:Mch}{R:LH}{c:TCmd}{cc:List Value}
class AtL (b:Nat) (L:LH) (L1:outParam LH) (o:outParam Obj) (L2:outParam LH):Prop where
 eq:L=L1++(b,o)::L2
instance atRight (b:Nat)(A L L1:LH)(o:Obj)(L2:LH)[h:AtL b L L1 o L2]:AtL b (A++L) (A++L1) o L2:=⟨by rw [h.eq,List.append_assoc]⟩
instance atThere (b:Nat)(x:Nat×Obj)(L L1:LH)(o:Obj)(L2:LH)[h:AtL b L L1 o L2]:AtL b (x::L) (x::L1) o L2:=⟨by rw [h.eq];rfl⟩
instance atHere (b:Nat)(o:Obj)(L:LH):AtL b ((b,o)::L) [] o L:=⟨rfl⟩
theorem Nb {β:Type}{enc:β→Value}{l:AL Int β}{k:Int}{x:β}{v:Value}{r c:Nat}{es:Array MapEntry}{L1 L2:LH}[hL:AtL r L L1 (.map es c) L2](h:MapSi es c (BK enc l))(hv:v=enc x)
  (hk:∀e' c',MapSi e' c' (BK enc (Bi ilt k x l))→Gh (K undef) I (L1++(r,.map e' c')::L2)):Gs (.int .i64) (.map (some r)) (.int .i64 k) v (gh K) I L:=by
 obtain ⟨e',c',he,hM⟩:=h.put k v;rw [hv,ZS] at hM;have u:UpL r L (.map es c) (.map e' c') (L1++(r,.map e' c')::L2):=⟨L1,L2,hL.eq,rfl⟩;exact ANU (k:=k) h he (hk e' c' hM)
theorem TB {β:Type}{enc:β→Value}{l:AL Key β}{k:Key}{x:β}{v:Value}{r c:Nat}{es:Array MapEntry}{L1 L2:LH}[hL:AtL r L L1 (.map es c) L2](h:MapS es c (BK enc l))(hv:v=enc x)
  (hk:∀e' c',MapS e' c' (BK enc (Bi blt k x l))→Gh (K undef) I (L1++(r,.map e' c')::L2)):Gs .string (.map (some r)) (BR k) v (gh K) I L:=by
 obtain ⟨e',c',he,hM⟩:=h.put k v;rw [hv,AFO] at hM;have u:UpL r L (.map es c) (.map e' c') (L1++(r,.map e' c')::L2):=⟨L1,L2,hL.eq,rfl⟩;exact AId (k:=k) h he (hk e' c' hM)
theorem AJt {β:Type}{enc:β→Value}{l:AL Int β}{k:Int}{r c:Nat}{es:Array MapEntry}{L1 L2:LH}[hL:AtL r L L1 (.map es c) L2](h:MapSi es c (BK enc l))
  (hk:∀e',MapSi e' c (BK enc (Le k l))→Gh (K (.tuple #[])) I (L1++(r,.map e' c)::L2)):PH (.int .i64) (.map (some r)) (.int .i64 k) (gh K) I L:=by
 obtain ⟨e',he,hM⟩:=h.del k;rw [ZT] at hM;have u:UpL r L (.map es c) (.map e' c) (L1++(r,.map e' c)::L2):=⟨L1,L2,hL.eq,rfl⟩;exact ANf (k:=k) h he (hk e' hM)
theorem lkI {zero:Value}{ok:Bool}{m:Int→Option Value}{k:Int}{r c:Nat}{es:Array MapEntry}[InL r L (.map es c)](h:MapSi es c m)(hk:K (lkV zero ok (m k)) I L):Rv none (lkR (.int .i64) zero ok (.map (some r)) (.int .i64 k)) K I L:=AOx (k:=k) h hk
theorem VT {zero:Value}{ok:Bool}{m:Int→Option Value}{k:Int}{r c:Nat}{es:Array MapEntry}{I0:Imm}{X:LH}[InL r X (.map es c)](h:MapSi es c m)(hk:K (lkV zero ok (m k)) I L):Rv (some (Stay I0 X)) (lkR (.int .i64) zero ok (.map (some r)) (.int .i64 k)) K I L:=ANW (k:=k) h hk
theorem lkT {zero:Value}{ok:Bool}{m:Key→Option Value}{k:Key}{r c:Nat}{es:Array MapEntry}[InL r L (.map es c)](h:MapS es c m)(hk:K (lkV zero ok (m k)) I L):Rv none (lkR .string zero ok (.map (some r)) (BR k)) K I L:=lkm (k:=k) h hk
theorem AEv {zero:Value}{ok:Bool}{m:Key→Option Value}{k:Key}{r c:Nat}{es:Array MapEntry}{I0:Imm}{X:LH}[InL r X (.map es c)](h:MapS es c m)(hk:K (lkV zero ok (m k)) I L):Rv (some (Stay I0 X)) (lkR .string zero ok (.map (some r)) (BR k)) K I L:=AOy (k:=k) h hk
theorem Jt (b:Nat)(V:MV){P:Program}{f:FuncId}{args:Array Value}{o1 o2 o3 o4:Obj}{R1 R2 R3 R4:LH}[PickB b L o1 R1][PickB V.km R1 o2 R2][PickB V.rc R2 o3 R3][PickB V.sn R3 o4 R4]
  (h:Cal P ω f args K I ((b,o1)::(V.km,o2)::(V.rc,o3)::(V.sn,o4)::R4)):Cal P ω f args K I L:=by
 refine Cal.perm (L':=(b,o1)::(V.km,o2)::(V.rc,o3)::(V.sn,o4)::R4) ?_ h;have p1:L.Perm ((b,o1)::R1):=PickB.perm;have p2:R1.Perm ((V.km,o2)::R2):=PickB.perm;have p3:R2.Perm ((V.rc,o3)::R3):=PickB.perm;have p4:R3.Perm ((V.sn,o4)::R4):=PickB.perm;exact p1.trans (.cons _ (p2.trans (.cons _ (p3.trans (.cons _ p4)))))
theorem HS (hF:MF I V m)(hc:TCmdV I c cc)
  (hk1:∀e a,Bl m c=some ⟨e,DF,[],a,0,0⟩→K (.tuple #[rv e a 0 0,.bool true]) I (mL b s V m R)) (hk2:Bl m c=none→K (.tuple #[rv 0 z0 0 0,.bool false]) I (mL b s V m R)):
  CT ω 154 #[pt b,.agg cc.toArray] K I (mL b s V m R):=by
 have hM:=hF.sns;obtain ⟨w0,w1,w2,w3,rfl,g0,g1,g2,g3⟩:=hc;refine AMc ?_;unfold sh154;cases hx:lkA m.seen c.fTxn with
 |none=>
  have hl:BK snv m.seen c.fTxn=none:=by unfold BK;rw [hx];rfl
  have ha:Bl m c=if c.fTxn≤m.oldest then some (BM 144) else none:=by unfold Bl;rw [hx]
  rw [ha] at hk1 hk2;repeat' (first|(with_reducible first|refine AZ ?_|refine Aa ?_|refine Ac ?_|refine keepA ?_|refine AV (fun _=>?_)|refine VT hM ?_)|((with_reducible refine call ?_);refine (Ar ?_))|(with_reducible refine rdb ?_)|((with_reducible first|refine st1 ?_ ?_|refine rdB ?_ ?_);rfl)|(with_reducible refine Ah ?_)|((with_reducible refine Ai ?_ ?_);rfl)|((with_reducible refine stB ?_ ?_ ?_ ?_);rfl;rfl;exact AK rfl)|((with_reducible first|refine rdP _ rfl ?_ ?_|refine As _ rfl ?_ ?_);rfl)|((with_reducible refine stP _ rfl ?_ ?_ ?_ ?_);rfl;rfl;rfl)|(with_reducible first|refine AW (sh154_1.eq_1 ..) ?_|refine AW (sh154_3.eq_1 ..) ?_|refine AW (sh154_4.eq_1 ..) ?_|refine AW (sh154_2.eq_1 ..) ?_|refine AW (sh154.eq_1 ..) ?_|refine And.intro ?_ ?_)|(simp only [SSg,Int.reduceBEq,Int.reduceBNe,Int.reduceLT,Int.reduceLE,beq_self_eq_true,bne_self_eq_false])|(with_reducible first|refine AG (fun _=>?_) (fun _=>?_)|refine AC (fun _=>?_) (fun _=>?_))|(simp only [SSd,Nat.reduceAdd,hl,lkV,if_true]))
  all_goals first
   |exact Gh.to (mL b s V m R) (Gh.done (hk1 144 z0 (by rw [if_pos (by first|(simp_all;done)|(simp_all;omega)|omega)];rfl)))
   |exact Gh.to (mL b s V m R) (Gh.done (hk2 (by rw [if_neg (by first|(simp_all;done)|(simp_all;omega)|omega)])))
 |some x=>
  have hl:BK snv m.seen c.fTxn=some (snv x):=by unfold BK;rw [hx];rfl
  have ha:Bl m c=if x.fSeq=c.fSeq then some ⟨x.fCode,DF,[],x.fAt,0,0⟩ else if c.fSeq < x.fSeq then some (BM 144) else none:=by unfold Bl;rw [hx]
  rw [ha] at hk1 hk2;repeat' (first|(with_reducible first|refine AZ ?_|refine Aa ?_|refine Ac ?_|refine keepA ?_|refine AV (fun _=>?_)|refine VT hM ?_)|((with_reducible refine call ?_);refine (Ar ?_))|(with_reducible refine rdb ?_)|((with_reducible first|refine st1 ?_ ?_|refine rdB ?_ ?_);rfl)|(with_reducible refine Ah ?_)|((with_reducible refine Ai ?_ ?_);rfl)|((with_reducible refine stB ?_ ?_ ?_ ?_);rfl;rfl;exact AK rfl)|((with_reducible first|refine rdP _ rfl ?_ ?_|refine As _ rfl ?_ ?_);rfl)|((with_reducible refine stP _ rfl ?_ ?_ ?_ ?_);rfl;rfl;rfl)|(with_reducible first|refine AW (sh154_1.eq_1 ..) ?_|refine AW (sh154_3.eq_1 ..) ?_|refine AW (sh154_4.eq_1 ..) ?_|refine AW (sh154_2.eq_1 ..) ?_|refine AW (sh154.eq_1 ..) ?_|refine And.intro ?_ ?_)|(simp only [SSg,Int.reduceBEq,Int.reduceBNe,Int.reduceLT,Int.reduceLE,beq_self_eq_true,bne_self_eq_false])|(with_reducible first|refine AG (fun _=>?_) (fun _=>?_)|refine AC (fun _=>?_) (fun _=>?_))|(simp only [SSd,Nat.reduceAdd,hl,lkV,if_true]))
  all_goals first
   |exact Gh.to (mL b s V m R) (Gh.done (hk1 _ _ (by rw [if_pos (by first|(simp_all;done)|(simp_all;omega)|omega)])))
   |exact Gh.to (mL b s V m R) (Gh.done (hk1 144 z0 (by rw [if_neg (by first|(simp_all;done)|(simp_all;omega)|omega),if_pos (by first|(simp_all;done)|(simp_all;omega)|omega)];rfl)))
   |exact Gh.to (mL b s V m R) (Gh.done (hk2 (by rw [if_neg (by first|(simp_all;done)|(simp_all;omega)|omega),if_neg (by first|(simp_all;done)|(simp_all;omega)|omega)])))
theorem Hj {n st:Int}{a:TStamp}(hF:MF I V m)(hs:SrtA ilt m.recs)
  (hk1:Dq m n st a=none→K (.bool false) I (mL b s V m R)) (hk2:∀V' m1,Dq m n st a=some m1→MF I V' m1→K (.bool true) I (mL b s V' m1 R)):
  CT ω 160 #[pt b,.int .i64 n,.int .i64 st,sv a] K I (mL b s V m R):=by
 have hM:=hF.rcs;refine AMW ?_;unfold sh160;have hsz:=hM.sizeA hs;cases hx:lkA m.recs n with
 |none=>
  have hl:BK rcv m.recs n=none:=by unfold BK;rw [hx];rfl
  have ha:Dq m n st a=if 64≤m.recs.length then none else some {m with recs:=Bi ilt n ⟨st,a⟩ m.recs}:=by unfold Dq;rw [hx];rfl
  rw [ha] at hk1 hk2;repeat' (first|(with_reducible first|refine AZ ?_|refine Aa ?_|refine Ac ?_|refine keepA ?_|refine AV (fun _=>?_)|refine lkI hM ?_|refine TR ?_)|((with_reducible refine Nb (x:=⟨st,a⟩) hM ?_ (fun es' c' hM'=>Gh.done ?_));rfl)|(with_reducible refine rdb ?_)|((with_reducible first|refine st1 ?_ ?_|refine rdB ?_ ?_);rfl)|(with_reducible refine Ah ?_)|((with_reducible refine Ai ?_ ?_);rfl)|((with_reducible refine stB ?_ ?_ ?_ ?_);rfl;rfl;exact AK rfl)|((with_reducible first|refine rdP _ rfl ?_ ?_|refine As _ rfl ?_ ?_);rfl)|((with_reducible refine stP _ rfl ?_ ?_ ?_ ?_);rfl;rfl;rfl)|(with_reducible first|refine AW (sh160.eq_1 ..) ?_|refine And.intro ?_ ?_)|(simp only [SSg,Int.reduceBEq,Int.reduceBNe,Int.reduceLT,Int.reduceLE,beq_self_eq_true,bne_self_eq_false])|(with_reducible first|refine AG (fun _=>?_) (fun _=>?_)|refine AC (fun _=>?_) (fun _=>?_))|(simp only [SSd,Nat.reduceAdd,hl,lkV,if_true,hsz]))
  all_goals first
   |exact Gh.to (mL b s V m R) (Gh.done (hk1 (by rw [if_pos (by first|(simp_all;done)|(simp_all;omega)|omega)])))
   |rename_i es' c' hM';exact Gh.to (mL b s {V with e2:=es',c2:=c'} {m with recs:=Bi ilt n ⟨st,a⟩ m.recs} R) (Gh.done (hk2 {V with e2:=es',c2:=c'} {m with recs:=Bi ilt n ⟨st,a⟩ m.recs} (by rw [if_neg (by first|(simp_all;done)|(simp_all;omega)|omega)]) {hF with rcs:=hM'}))
 |some x=>
  have hl:BK rcv m.recs n=some (rcv x):=by unfold BK;rw [hx];rfl
  have ha:Dq m n st a=some m:=by unfold Dq;rw [hx];rfl
  rw [ha] at hk1 hk2;repeat' (first|(with_reducible first|refine AZ ?_|refine Aa ?_|refine Ac ?_|refine keepA ?_|refine AV (fun _=>?_)|refine lkI hM ?_|refine TR ?_)|((with_reducible refine Nb (x:=⟨st,a⟩) hM ?_ (fun es' c' hM'=>Gh.done ?_));rfl)|(with_reducible refine rdb ?_)|((with_reducible first|refine st1 ?_ ?_|refine rdB ?_ ?_);rfl)|(with_reducible refine Ah ?_)|((with_reducible refine Ai ?_ ?_);rfl)|((with_reducible refine stB ?_ ?_ ?_ ?_);rfl;rfl;exact AK rfl)|((with_reducible first|refine rdP _ rfl ?_ ?_|refine As _ rfl ?_ ?_);rfl)|((with_reducible refine stP _ rfl ?_ ?_ ?_ ?_);rfl;rfl;rfl)|(with_reducible first|refine AW (sh160.eq_1 ..) ?_|refine And.intro ?_ ?_)|(simp only [SSg,Int.reduceBEq,Int.reduceBNe,Int.reduceLT,Int.reduceLE,beq_self_eq_true,bne_self_eq_false])|(with_reducible first|refine AG (fun _=>?_) (fun _=>?_)|refine AC (fun _=>?_) (fun _=>?_))|(simp only [SSd,Nat.reduceAdd,hl,lkV,if_true,hsz]))
  all_goals exact Gh.to (mL b s V m R) (Gh.done (hk2 V m rfl hF))
theorem RH {m:Mch}{n:Int}:lkV (.agg #[.int .i64 0,.int .i64 0,.int .i64 0]) false (BK rcv m.recs n)=rcv (recAt m n):=by
 unfold recAt BK;cases lkA m.recs n with
 |none=>rfl
 |some x=>rfl
theorem AIc {l:AL Int TRc}{n:Int}{x:TRc}{z:Value}:lkV z false (BK rcv (Bi ilt n x l) n)=rcv x:=by
 unfold BK;rw [HH,if_pos rfl];rfl
theorem Yu {m:Mch}{n:Int}{x:TRc}:recAt {m with recs:=Bi ilt n x m.recs} n=x:=by
 unfold recAt;rw [show ({m with recs:=Bi ilt n x m.recs}:Mch).recs=Bi ilt n x m.recs from rfl,HH,if_pos rfl];rfl
abbrev rvR (r:TRes):Value:=rv r.fCode r.fAt r.fBy r.fState
theorem ZR (e:Dq m c.fTxn 3 c.fAt=none):FQ m c=(BM 143,m):=by unfold FQ;rw [e]
theorem ZQ {m1:Mch}(e:Dq m c.fTxn 3 c.fAt=some m1)(h:(recAt m1 c.fTxn).fState=1):FQ m c=(⟨0,DF,[],c.fAt,0,FI c⟩,{m1 with recs:=Bi ilt c.fTxn ⟨FI c,c.fAt⟩ m1.recs}):=by
 unfold FQ;rw [e];simp only;unfold endOf;rw [if_pos h,Yu];simp
theorem AFN {m1:Mch}(e:Dq m c.fTxn 3 c.fAt=some m1)(h:(recAt m1 c.fTxn).fState≠1)(h2:(recAt m1 c.fTxn).fState≠FI c):FQ m c=(⟨142,DF,[],(recAt m1 c.fTxn).fAt,0,(recAt m1 c.fTxn).fState⟩,m1):=by
 unfold FQ;rw [e];simp only;unfold endOf;rw [if_neg h,if_pos h2]
theorem AFM {m1:Mch}(e:Dq m c.fTxn 3 c.fAt=some m1)(h:(recAt m1 c.fTxn).fState≠1)(h2:(recAt m1 c.fTxn).fState=FI c):FQ m c=(⟨0,DF,[],(recAt m1 c.fTxn).fAt,0,(recAt m1 c.fTxn).fState⟩,m1):=by
 unfold FQ;rw [e];simp only;unfold endOf;rw [if_neg h,if_neg (by simp [h2])]
theorem AFL (hF:MF I V m)(hs:SrtA ilt m.recs)(hc:TCmdV I c cc)(hk:∀r m',FQ m c=(r,m')→∀V',MF I V' m'→K (rvR r) I (mL b s V' m' R)):
  CT ω 99 #[pt b,.agg cc.toArray] K I (mL b s V m R):=by
 obtain ⟨w0,w1,w2,w3,rfl,g0,g1,g2,g3⟩:=hc;refine ANl ?_;unfold sh99;refine AV (fun b1=>AV (fun b2=>?_));have hw:FI c=if c.fYes=true then 2 else 3:=rfl
 cases hy:c.fYes <;> rw [hy] at hw <;> simp only [Bool.false_eq_true,if_false,if_true] at hw
 all_goals repeat' (first|(with_reducible first|refine AZ ?_|refine Aa ?_|refine Ac ?_|refine keepA ?_|refine AV (fun _=>?_))|((with_reducible refine call ?_);refine (Jt b V (Hj hF hs (fun e=>?_) (fun V1 m1 e hF1=>?_))))|((with_reducible refine call ?_);refine (Ar ?_))|(with_reducible refine VT hF1.rcs ?_)|((with_reducible refine Nb (x:=⟨FI c,c.fAt⟩) hF1.rcs ?_ (fun e' c' hM'=>Gh.done ?_));rw [hw])|(with_reducible first|refine VT hM' ?_|refine rdb ?_)|((with_reducible first|refine st1 ?_ ?_|refine rdB ?_ ?_);rfl)|(with_reducible refine Ah ?_)|((with_reducible refine Ai ?_ ?_);rfl)|((with_reducible refine stB ?_ ?_ ?_ ?_);rfl;rfl;exact AK rfl)|((with_reducible first|refine rdP _ rfl ?_ ?_|refine As _ rfl ?_ ?_);rfl)|((with_reducible refine stP _ rfl ?_ ?_ ?_ ?_);rfl;rfl;rfl)|(with_reducible first|refine AW (sh99_3.eq_1 ..) ?_|refine AW (sh99_2.eq_1 ..) ?_|refine AW (sh99_1.eq_1 ..) ?_|refine AW (sh99.eq_1 ..) ?_|refine And.intro ?_ ?_)|(simp only [SSg,Int.reduceBEq,Int.reduceBNe,Int.reduceLT,Int.reduceLE,beq_self_eq_true,bne_self_eq_false])|(with_reducible first|refine AG (fun _=>?_) (fun _=>?_)|refine AC (fun _=>?_) (fun _=>?_))|(simp only [SSd,Nat.reduceAdd,RH,AIc,hy,hw]))
 all_goals first
  |exact Gh.to (mL b s V m R) (Gh.done (hk _ _ (ZR e) V hF))
  |exact Gh.to (mL b s V1 m1 R) (Gh.done (hk _ _ (AFN e (by first|(simp_all;done)|(simp_all;omega)|omega) (by first|(simp_all;done)|(simp_all;omega)|omega)) V1 hF1))
  |exact Gh.to (mL b s V1 m1 R) (Gh.done (hk _ _ (AFM e (by first|(simp_all;done)|(simp_all;omega)|omega) (by first|(simp_all;done)|(simp_all;omega)|omega)) V1 hF1))
  |(have hk':=hk _ _ (ZQ e (by first|(simp_all;done)|(simp_all;omega)|omega)) {V1 with e2:=e',c2:=c'} {hF1 with rcs:=hM'};rw [hw] at hk';exact Gh.to (mL b s {V1 with e2:=e',c2:=c'} {m1 with recs:=Bi ilt c.fTxn ⟨FI c,c.fAt⟩ m1.recs} R) (Gh.done hk'))
  |trace_state
end
theorem EL:∀{a c:List MapEntry},a.Nodup→(∀x∈a,x∈c)→a.length≤c.length
 |[],c,_,_=>by simp
 |x::a,c,hn,hs=>by
  obtain ⟨C1,C2,rfl⟩:=List.append_of_mem (hs x (List.mem_cons_self ..));have:=EL (a:=a) (c:=C1++C2) (List.nodup_cons.1 hn).2 (fun y hy=>by
   have h1:=hs y (List.mem_cons_of_mem _ hy);simp only [List.mem_append,List.mem_cons] at h1 ⊢;rcases h1 with h1|rfl|h1
   ·exact .inl h1
   ·exact absurd hy (List.nodup_cons.1 hn).1
   ·exact .inr h1)
  simp only [List.length_append,List.length_cons] at this ⊢;omega
section
variable {ω:Om}{I:Imm}{L:LH}{K:Value→M}
theorem ANb {yv:Value}{qm m:Nat}{es:Array MapEntry}{clock:Nat}{mm:Key→Option Value}(J:List MapEntry→M)(hm:MapS es clock mm)
  (hJ:∀vis I' L',J vis I' L'→Cell I' L' qm 0 (.map (some m))∧MapAt I' L' m es clock)
  (hstep:∀vis e b I' L',J vis I' L'→e∈es.toList→It es (vis++[e])→CW ω yv #[e.key] (fun v=>Gh fun I2 L2=>v= .bool true∧∃L3,L2=(b,BX m clock (vis++[e]))::L3∧J (vis++[e]) I2 L3) I' ((b,BX m clock (vis++[e]))::L'))
  (h0:J [] I L) (hk:∀vis I' L',vis.Perm es.toList→J vis I' L'→K (.tuple #[]) I' L'):
  CT ω 181 #[yv,pt qm] K I L:=by
 obtain ⟨hc,hmp⟩:=hJ _ _ _ h0;refine AMQ ?_;unfold ACV;refine rdC hc (Ext.refl _) ?_;refine Yq hmp (fun b=>?_);refine Gh.done ?_;refine loop (fun n s I' L'=>∃vis L3,It es vis∧n+vis.length=es.toList.length∧L'=(b,BX m clock vis)::L3∧J vis I' L3) es.toList.length ⟨[],L,It.none es,rfl,rfl,h0⟩ ?_;rintro n s I' L' ⟨vis,L3,hi,hn,rfl,hJ3⟩;unfold Wy;obtain ⟨hc3,hmp3⟩:=hJ _ _ _ hJ3;refine AKz hm hmp3 hi (fun hp=>Gh.done ?_) (fun e he hi'=>Gh.done ?_)
 ·try simp only [SSd,Nat.reduceAdd]
  exact Gh.to L3 (Gh.done (hk vis I' L3 hp hJ3))
 ·have hlen:vis.length+1≤es.toList.length:=by
   have:=EL (BG hi'.nod) hi'.sub;simpa using this
  try simp only [SSd,Nat.reduceAdd]
  refine ⟨_,AJG hm hmp3 he,?_⟩;try simp only [SSd,Nat.reduceAdd]
  refine CalV.mono (hstep vis e b I' L3 hJ3 he hi') (fun v2 I2 L2 hv2=>Gh.mono hv2 ?_);rintro I3 L3' ⟨rfl,L4,rfl,hJ4⟩;simp only [Bool.not_true,SSd,Nat.reduceAdd];exact (Gh.done ⟨n - 1,by omega,_,L4,hi',by rw [List.length_append,List.length_singleton];omega,rfl,hJ4⟩)
theorem AJl {m:Nat}(hk:∀qm,K (.func (.func 181) #[] #[pt qm]) I ((qm,.cells #[.map (some m)] 157 (0,0))::L)):CT ω 127 #[.map (some m)] K I L:=by
 refine AMw ?_;unfold ADW;exact AV (fun qm=>Gh.done (hk qm))
theorem AJo {qm m:Nat}{es:Array MapEntry}{clock:Nat}{mm:Key→Option Value}(hm:MapS es clock mm)(hN:es.toList.length≤1000000)(hmp:MapAt I L m es clock)
  (hk:∀(X:LH) (v:Value) (vis:List MapEntry),vis.Perm es.toList→SlO 9 1 X v ((vis.map Au).map CY) vis.length→K v I (X++L)):
  CT ω 179 #[.func (.func 181) #[] #[pt qm]] K I ((qm,.cells #[.map (some m)] 157 (0,0))::L):=by
 refine AMR ?_;unfold ACX;refine call ?_;refine ALn ?_;unfold ABS;refine AV (fun bs=>?_);unfold KC PG;simp only
 rw [if_pos (show Bh Tryz.prog 181=true by kernel_rfl)];intro l D Lo _ hy;refine ANb (qm:=qm) (m:=m) (es:=es) (clock:=clock) (mm:=mm)
  (fun vis I' L'=>I'=I∧∃XO vo,SlO 9 1 XO vo ((vis.map Au).map CY) vis.length∧vis.length≤es.toList.length∧L'=(l,Lo .ready none)::(D,.deferred (some []))::(bs,.cells #[vo] 177 (0,0))::(XO++(qm,.cells #[.map (some m)] 157 (0,0))::L)) hm ?_ ?_ ?_ ?_
 ·rintro vis I' L' ⟨rfl,XO,vo,_,_,rfl⟩;exact ⟨Cell.own (b:=qm) (cs:=#[.map (some m)]) (T:=157) (fr:=(0,0)) (by simp) rfl,MapAt.mono hmp (Ext.refl _) (fun x hx=>by simp [hx])⟩
 ·rintro vis e b I' L' ⟨rfl,XO,vo,hO,hlv,rfl⟩ he hi';have hlen:vis.length+1≤es.toList.length:=by
   have:=EL (BG hi'.nod) hi'.sub;simpa using this
  have hek:e.key=CY (Au e):=by
   obtain ⟨s,hs⟩:=hm.str e he;simp [Au,hs,CY]
  refine hy _ _ _ _ rfl (UY ?_);simp only [List.head!];refine Vs ?_;refine rdb ?_;rw [hek];refine Fb rfl (by omega) rfl (fun X1 u hX1=>?_);obtain ⟨va,vc,rfl⟩:=hO.form;refine Dz (X:=XO) rfl hO (hX1.news (fun x hx=>by simp [hx])) (by simp [Value.cells,Value.oneCell',CY]) (by omega) (by omega) (fun X6 v6 h6=>?_);obtain ⟨a6,c6,rfl⟩:=h6.form;refine st1 rfl ?_;refine Rq ?_;refine Gh.to ((b,BX m clock (vis++[e]))::(l,Lo .ready none)::(D,.deferred (some []))::(bs,.cells #[.slice a6 (vis.length+1) c6] 177 (0,0))::(X6++(qm,.cells #[.map (some m)] 157 (0,0))::L)) (Gh.done ⟨rfl,_,rfl,rfl,X6,_,?_,?_,rfl⟩)
  ·simpa [Value.cells,CY] using h6
  ·simpa using hlen
 ·exact ⟨rfl,[],_,SlO.none _ _,Nat.zero_le _,rfl⟩
 ·rintro vis I' L' hp ⟨rfl,XO,vo,hO,hlv,rfl⟩;refine Gh.done (Rt (s:=.ready) (j:=none) (by simp) ?_);show Ql ω (pt bs) (.slice none 0 0) D _ _ _;unfold Ql;refine rdb ?_;refine tak ?_;exact Gh.to (XO++L) (Gh.done (Gh.done (hk XO vo vis hp hO)))
theorem ANa {yv:Value}{qm m:Nat}{es:Array MapEntry}{clock:Nat}{mm:Int→Option Value}(J:List MapEntry→M)(hm:MapSi es clock mm)
  (hJ:∀vis I' L',J vis I' L'→Cell I' L' qm 0 (.map (some m))∧MapAt I' L' m es clock)
  (hstep:∀vis e b I' L',J vis I' L'→e∈es.toList→It es (vis++[e])→CW ω yv #[e.key] (fun v=>Gh fun I2 L2=>v= .bool true∧∃L3,L2=(b,BX m clock (vis++[e]))::L3∧J (vis++[e]) I2 L3) I' ((b,BX m clock (vis++[e]))::L'))
  (h0:J [] I L) (hk:∀vis I' L',vis.Perm es.toList→J vis I' L'→K (.tuple #[]) I' L'):
  CT ω 184 #[yv,pt qm] K I L:=by
 obtain ⟨hc,hmp⟩:=hJ _ _ _ h0;refine AMP ?_;unfold ACS;refine rdC hc (Ext.refl _) ?_;refine Yq hmp (fun b=>?_);refine Gh.done ?_;refine loop (fun n s I' L'=>∃vis L3,It es vis∧n+vis.length=es.toList.length∧L'=(b,BX m clock vis)::L3∧J vis I' L3) es.toList.length ⟨[],L,It.none es,rfl,rfl,h0⟩ ?_;rintro n s I' L' ⟨vis,L3,hi,hn,rfl,hJ3⟩;unfold Ww;obtain ⟨hc3,hmp3⟩:=hJ _ _ _ hJ3;refine AJi hm hmp3 hi (fun hp=>Gh.done ?_) (fun e he hi'=>Gh.done ?_)
 ·try simp only [SSd,Nat.reduceAdd]
  exact Gh.to L3 (Gh.done (hk vis I' L3 hp hJ3))
 ·have hlen:vis.length+1≤es.toList.length:=by
   have:=EL (BG hi'.nod) hi'.sub;simpa using this
  try simp only [SSd,Nat.reduceAdd]
  refine ⟨_,AJs hm hmp3 he,?_⟩;try simp only [SSd,Nat.reduceAdd]
  refine CalV.mono (hstep vis e b I' L3 hJ3 he hi') (fun v2 I2 L2 hv2=>Gh.mono hv2 ?_);rintro I3 L3' ⟨rfl,L4,rfl,hJ4⟩;simp only [Bool.not_true,SSd,Nat.reduceAdd];exact (Gh.done ⟨n - 1,by omega,_,L4,hi',by rw [List.length_append,List.length_singleton];omega,rfl,hJ4⟩)
theorem ANY {m:Nat}(hk:∀qm,K (.func (.func 184) #[] #[pt qm]) I ((qm,.cells #[.map (some m)] 160 (0,0))::L)):CT ω 129 #[.map (some m)] K I L:=by
 refine AMv ?_;unfold ADT;exact AV (fun qm=>Gh.done (hk qm))
theorem ANc {qm m:Nat}{es:Array MapEntry}{clock:Nat}{mm:Int→Option Value}(hm:MapSi es clock mm)(hN:es.toList.length≤1000000)(hmp:MapAt I L m es clock)
  (hk:∀(X:LH) (v:Value) (vis:List MapEntry),vis.Perm es.toList→SlO 3 1 X v ((vis.map BJ).map (Value.int .i64)) vis.length→K v I (X++L)):
  CT ω 182 #[.func (.func 184) #[] #[pt qm]] K I ((qm,.cells #[.map (some m)] 160 (0,0))::L):=by
 refine AFf ?_;unfold Wx;refine call ?_;refine AFb ?_;unfold WV;refine AV (fun bs=>?_);unfold KC PG;simp only
 rw [if_pos (show Bh Tryz.prog 184=true by kernel_rfl)];intro l D Lo _ hy;refine ANa (qm:=qm) (m:=m) (es:=es) (clock:=clock) (mm:=mm)
  (fun vis I' L'=>I'=I∧∃XO vo,SlO 3 1 XO vo ((vis.map BJ).map (Value.int .i64)) vis.length∧vis.length≤es.toList.length∧L'=(l,Lo .ready none)::(D,.deferred (some []))::(bs,.cells #[vo] 23 (0,0))::(XO++(qm,.cells #[.map (some m)] 160 (0,0))::L)) hm ?_ ?_ ?_ ?_
 ·rintro vis I' L' ⟨rfl,XO,vo,_,_,rfl⟩;exact ⟨Cell.own (b:=qm) (cs:=#[.map (some m)]) (T:=160) (fr:=(0,0)) (by simp) rfl,MapAt.mono hmp (Ext.refl _) (fun x hx=>by simp [hx])⟩
 ·rintro vis e b I' L' ⟨rfl,XO,vo,hO,hlv,rfl⟩ he hi';have hlen:vis.length+1≤es.toList.length:=by
   have:=EL (BG hi'.nod) hi'.sub;simpa using this
  have hek:e.key=(Value.int .i64) (BJ e):=by
   obtain ⟨s,hs⟩:=hm.str e he;simp [BJ,hs,Value.cells]
  refine hy _ _ _ _ rfl (UY ?_);simp only [List.head!];refine Vs ?_;refine rdb ?_;rw [hek];refine Fb rfl (by omega) rfl (fun X1 u hX1=>?_);obtain ⟨va,vc,rfl⟩:=hO.form;refine Dz (X:=XO) rfl hO (hX1.news (fun x hx=>by simp [hx])) (by simp [Value.cells,Value.oneCell',Value.cells]) (by omega) (by omega) (fun X6 v6 h6=>?_);obtain ⟨a6,c6,rfl⟩:=h6.form;refine st1 rfl ?_;refine Rq ?_;refine Gh.to ((b,BX m clock (vis++[e]))::(l,Lo .ready none)::(D,.deferred (some []))::(bs,.cells #[.slice a6 (vis.length+1) c6] 23 (0,0))::(X6++(qm,.cells #[.map (some m)] 160 (0,0))::L)) (Gh.done ⟨rfl,_,rfl,rfl,X6,_,?_,?_,rfl⟩)
  ·simpa [Value.cells,Value.cells] using h6
  ·simpa using hlen
 ·exact ⟨rfl,[],_,SlO.none _ _,Nat.zero_le _,rfl⟩
 ·rintro vis I' L' hp ⟨rfl,XO,vo,hO,hlv,rfl⟩;refine Gh.done (Rt (s:=.ready) (j:=none) (by simp) ?_);show Jf ω (pt bs) (.slice none 0 0) D _ _ _;unfold Jf;refine rdb ?_;refine tak ?_;exact Gh.to (XO++L) (Gh.done (Gh.done (hk XO vo vis hp hO)))
theorem ANZ {yv:Value}{qm m:Nat}{es:Array MapEntry}{clock:Nat}{mm:Int→Option Value}(J:List MapEntry→M)(hm:MapSi es clock mm)
  (hJ:∀vis I' L',J vis I' L'→Cell I' L' qm 0 (.map (some m))∧MapAt I' L' m es clock)
  (hstep:∀vis e b I' L',J vis I' L'→e∈es.toList→It es (vis++[e])→CW ω yv #[e.key] (fun v=>Gh fun I2 L2=>v= .bool true∧∃L3,L2=(b,BX m clock (vis++[e]))::L3∧J (vis++[e]) I2 L3) I' ((b,BX m clock (vis++[e]))::L'))
  (h0:J [] I L) (hk:∀vis I' L',vis.Perm es.toList→J vis I' L'→K (.tuple #[]) I' L'):
  CT ω 185 #[yv,pt qm] K I L:=by
 obtain ⟨hc,hmp⟩:=hJ _ _ _ h0;refine AMO ?_;unfold ACQ;refine rdC hc (Ext.refl _) ?_;refine Yq hmp (fun b=>?_);refine Gh.done ?_;refine loop (fun n s I' L'=>∃vis L3,It es vis∧n+vis.length=es.toList.length∧L'=(b,BX m clock vis)::L3∧J vis I' L3) es.toList.length ⟨[],L,It.none es,rfl,rfl,h0⟩ ?_;rintro n s I' L' ⟨vis,L3,hi,hn,rfl,hJ3⟩;unfold Wv;obtain ⟨hc3,hmp3⟩:=hJ _ _ _ hJ3;refine AJi hm hmp3 hi (fun hp=>Gh.done ?_) (fun e he hi'=>Gh.done ?_)
 ·try simp only [SSd,Nat.reduceAdd]
  exact Gh.to L3 (Gh.done (hk vis I' L3 hp hJ3))
 ·have hlen:vis.length+1≤es.toList.length:=by
   have:=EL (BG hi'.nod) hi'.sub;simpa using this
  try simp only [SSd,Nat.reduceAdd]
  refine ⟨_,AJs hm hmp3 he,?_⟩;try simp only [SSd,Nat.reduceAdd]
  refine CalV.mono (hstep vis e b I' L3 hJ3 he hi') (fun v2 I2 L2 hv2=>Gh.mono hv2 ?_);rintro I3 L3' ⟨rfl,L4,rfl,hJ4⟩;simp only [Bool.not_true,SSd,Nat.reduceAdd];exact (Gh.done ⟨n - 1,by omega,_,L4,hi',by rw [List.length_append,List.length_singleton];omega,rfl,hJ4⟩)
theorem AJk {m:Nat}(hk:∀qm,K (.func (.func 185) #[] #[pt qm]) I ((qm,.cells #[.map (some m)] 161 (0,0))::L)):CT ω 130 #[.map (some m)] K I L:=by
 refine AMu ?_;unfold ADR;exact AV (fun qm=>Gh.done (hk qm))
theorem AJn {qm m:Nat}{es:Array MapEntry}{clock:Nat}{mm:Int→Option Value}(hm:MapSi es clock mm)(hN:es.toList.length≤1000000)(hmp:MapAt I L m es clock)
  (hk:∀(X:LH) (v:Value) (vis:List MapEntry),vis.Perm es.toList→SlO 3 1 X v ((vis.map BJ).map (Value.int .i64)) vis.length→K v I (X++L)):
  CT ω 182 #[.func (.func 185) #[] #[pt qm]] K I ((qm,.cells #[.map (some m)] 161 (0,0))::L):=by
 refine AFf ?_;unfold Wx;refine call ?_;refine AFb ?_;unfold WV;refine AV (fun bs=>?_);unfold KC PG;simp only
 rw [if_pos (show Bh Tryz.prog 185=true by kernel_rfl)];intro l D Lo _ hy;refine ANZ (qm:=qm) (m:=m) (es:=es) (clock:=clock) (mm:=mm)
  (fun vis I' L'=>I'=I∧∃XO vo,SlO 3 1 XO vo ((vis.map BJ).map (Value.int .i64)) vis.length∧vis.length≤es.toList.length∧L'=(l,Lo .ready none)::(D,.deferred (some []))::(bs,.cells #[vo] 23 (0,0))::(XO++(qm,.cells #[.map (some m)] 161 (0,0))::L)) hm ?_ ?_ ?_ ?_
 ·rintro vis I' L' ⟨rfl,XO,vo,_,_,rfl⟩;exact ⟨Cell.own (b:=qm) (cs:=#[.map (some m)]) (T:=161) (fr:=(0,0)) (by simp) rfl,MapAt.mono hmp (Ext.refl _) (fun x hx=>by simp [hx])⟩
 ·rintro vis e b I' L' ⟨rfl,XO,vo,hO,hlv,rfl⟩ he hi';have hlen:vis.length+1≤es.toList.length:=by
   have:=EL (BG hi'.nod) hi'.sub;simpa using this
  have hek:e.key=(Value.int .i64) (BJ e):=by
   obtain ⟨s,hs⟩:=hm.str e he;simp [BJ,hs,Value.cells]
  refine hy _ _ _ _ rfl (UY ?_);simp only [List.head!];refine Vs ?_;refine rdb ?_;rw [hek];refine Fb rfl (by omega) rfl (fun X1 u hX1=>?_);obtain ⟨va,vc,rfl⟩:=hO.form;refine Dz (X:=XO) rfl hO (hX1.news (fun x hx=>by simp [hx])) (by simp [Value.cells,Value.oneCell',Value.cells]) (by omega) (by omega) (fun X6 v6 h6=>?_);obtain ⟨a6,c6,rfl⟩:=h6.form;refine st1 rfl ?_;refine Rq ?_;refine Gh.to ((b,BX m clock (vis++[e]))::(l,Lo .ready none)::(D,.deferred (some []))::(bs,.cells #[.slice a6 (vis.length+1) c6] 23 (0,0))::(X6++(qm,.cells #[.map (some m)] 161 (0,0))::L)) (Gh.done ⟨rfl,_,rfl,rfl,X6,_,?_,?_,rfl⟩)
  ·simpa [Value.cells,Value.cells] using h6
  ·simpa using hlen
 ·exact ⟨rfl,[],_,SlO.none _ _,Nat.zero_le _,rfl⟩
 ·rintro vis I' L' hp ⟨rfl,XO,vo,hO,hlv,rfl⟩;refine Gh.done (Rt (s:=.ready) (j:=none) (by simp) ?_);show Jf ω (pt bs) (.slice none 0 0) D _ _ _;unfold Jf;refine rdb ?_;refine tak ?_;exact Gh.to (XO++L) (Gh.done (Gh.done (hk XO vo vis hp hO)))
end
section
variable {ω:Om}{I:Imm}{L:LH}{K:Value→M}
theorem AEm {X F:LH}{v:Value}{l:List Int}{T:Nat}(h:SlO T 1 X v (l.map (Value.int .i64)) l.length)(hne:l≠[])(hlen:l.length≤1000000000)(hk:∀k,k∈l→(∀y∈l,k≤y)→K (.int .i64 k) I (X++F)):
  CT ω 218 #[v] K I (X++F):=by
 have hl0:0 < l.length:=List.length_pos_iff.2 hne;obtain ⟨a,cap,rfl⟩:=h.form;have at':∀i (hi:i < l.length),∃b,ixV 1 (.slice a l.length cap) (.int .i64 i)=some (.pointer (some ⟨b,i * 1,none⟩))∧Cell I (X++F) b (i * 1) (.int .i64 l[i]):=by
  intro i hi;obtain ⟨b,h1,h2⟩:=h.ix .i64 hi;refine ⟨b,h1,?_⟩;have:=h2 I (X++F) (fun x hx=>List.mem_append_left _ hx) 0 (.int .i64 l[i]) (by simp [hi]);simpa using this
 refine ALv ?_;unfold ABh;have hlt:decide ((l.length:Int) < 1)=false:=by simp;omega
 simp only [hlt,SSd,Nat.reduceAdd];unfold Wc;obtain ⟨b,h1,h2⟩:=at' 0 hl0;simp only [Int.natCast_zero] at h1;simp only [h1,SSd,Nat.reduceAdd];refine rd1 (by simpa using h2) ?_;refine loop (fun n s I' L'=>I'=I∧L'=X++F∧∃(k:Int) (i:Nat),n+i=l.length∧0 < i∧s=(.int .i64 k,.int .i64 i,())∧k∈l∧∀y∈l.take i,k≤y) (l.length - 1) ⟨rfl,rfl,l[0],1,by omega,by omega,rfl,List.getElem_mem _,?_⟩ ?_
 ·intro y hy;rw [List.take_one] at hy;cases l with
  |nil=>simp at hl0
  |cons x l=>simp at hy;simp [hy]
 rintro n s I' L' ⟨rfl,rfl,k,i,hn,hi0,rfl,hm,hle⟩;unfold Wb;try simp only [SSd,Nat.reduceAdd]
 refine AC (fun e=>?_) (fun e=>?_)
 ·simp only [decide_eq_true_eq] at e;have hi:i < l.length:=by omega
  obtain ⟨b,h1,h2⟩:=at' i hi;simp only [h1,SSd,Nat.reduceAdd];refine rd1 h2 ?_;try simp only [SSd,Nat.reduceAdd]
  rw [wrap_i64 _ (by omega)];refine Gh.done ⟨n - 1,by omega,rfl,rfl,if l[i] < k then l[i] else k,i+1,by omega,by omega,rfl,?_,fun y hy=>?_⟩
  ·split
   ·exact List.getElem_mem _
   ·exact hm
  ·rw [take_snoc hi] at hy;rcases List.mem_append.1 hy with hy|hy
   ·have:=hle y hy;split <;> omega
   ·simp only [List.mem_singleton] at hy;subst hy;split <;> omega
 ·simp only [decide_eq_false_iff_not] at e;rw [List.take_of_length_le (by omega)] at hle;exact Gh.done (hk k hm hle)
theorem ZW {β:Type}{q:Int×β}{l:AL Int β}(h:SrtA ilt (q::l)):Le q.1 (q::l)=l:=by
 obtain ⟨h1,h2⟩:=List.pairwise_cons.1 h;unfold Le;rw [List.filter_cons,if_neg (by simp),List.filter_eq_self];intro x hx;have:=h1 x hx;simp only [decide_eq_true_eq] at this;simp;omega
variable {b s:Nat}{V:MV}{m:Mch}{R:LH}{c:TCmd}{cc:List Value}
theorem Ur {e:Int}{a:TStamp}(h:¬64 < (ES m c e a).length):EZ m c e a={m with seen:=ES m c e a}:=if_neg h
theorem NM {e:Int}{a:TStamp}(hF:MF I V m)(hs:SrtA ilt m.seen)(hl:m.seen.length≤64)(hc:TCmdV I c cc)(hk:∀V',MF I V' (EZ m c e a)→K (.tuple #[]) I (mL b s V' (EZ m c e a) R)){n s':Int}:
  CT ω 157 #[pt b,.agg cc.toArray,rv e a n s'] K I (mL b s V m R):=by
 have hs2:SrtA ilt (ES m c e a):=hs.ins Ld;have hle:(ES m c e a).length≤m.seen.length+1:=(Hr ..).1;obtain ⟨w0,w1,w2,w3,rfl,g0,g1,g2,g3⟩:=hc;refine AMZ ?_;unfold sh157;refine AV (fun b1=>AV (fun b2=>?_));repeat' (first|(with_reducible first|refine AZ ?_|refine Aa ?_|refine Ac ?_|refine keepA ?_|refine AV (fun _=>?_))|((with_reducible refine Nb (x:=⟨c.fSeq,e,a⟩) hF.sns ?_ (fun e' c' hM'=>Gh.done ?_));rfl)|(with_reducible first|refine TR ?_|refine rdb ?_)|((with_reducible first|refine st1 ?_ ?_|refine rdB ?_ ?_);rfl)|(with_reducible refine Ah ?_)|((with_reducible refine Ai ?_ ?_);rfl)|((with_reducible refine stB ?_ ?_ ?_ ?_);rfl;rfl;exact AK rfl)|((with_reducible first|refine rdP _ rfl ?_ ?_|refine As _ rfl ?_ ?_);rfl)|((with_reducible refine stP _ rfl ?_ ?_ ?_ ?_);rfl;rfl;rfl)|(with_reducible first|refine AW (sh157.eq_1 ..) ?_|refine And.intro ?_ ?_)|(simp only [SSg,Int.reduceBEq,Int.reduceBNe,Int.reduceLT,Int.reduceLE,beq_self_eq_true,bne_self_eq_false])|(with_reducible first|refine AG (fun _=>?_) (fun _=>?_)|refine AC (fun _=>?_) (fun _=>?_))|(simp only [SSd,Nat.reduceAdd]))
 ·rename_i hgt
  have hsz:=hM'.sizeA hs2;have hperm:=hM'.keysA hs2;have hgt2:64 < (ES m c e a).length:=by
   have:64 < ((e'.size:Nat):Int):=by simpa using hgt
   unfold ES;omega
  refine call (AJk (fun qm=>?_));refine call (AJn hM' (by simp;unfold ES at hle;omega) (.inl (by simp)) (fun X v vis hvp hO=>?_));have hpk:(vis.map BJ).Perm ((ES m c e a).map (·.1)):=(hvp.map _).trans hperm;have hvl:(vis.map BJ).length=(ES m c e a).length:=by rw [hpk.length_eq];simp
  have hO':SlO 3 1 X v ((vis.map BJ).map (Value.int .i64)) (vis.map BJ).length:=by simpa using hO
  refine Bz (AEm hO' (fun h=>by rw [h] at hvl;simp at hvl;omega) (by omega) (fun k hk1 hk2=>Gh.done ?_));have hk1':=hpk.mem_iff.1 hk1;obtain ⟨q,l,hql⟩:∃q l,ES m c e a=q::l:=by
   cases h:ES m c e a with
   |nil=>rw [h] at hgt2;simp at hgt2
   |cons q l=>exact ⟨q,l,rfl⟩
  have hkq:k=q.1:=by
   rw [hql] at hk1' hs2 hpk;obtain ⟨h1,h2⟩:=List.pairwise_cons.1 hs2;rcases List.mem_cons.1 hk1' with h|h
   ·exact h
   ·obtain ⟨y,hy,rfl⟩:=List.mem_map.1 h;have g1:=h1 y hy;have g2:=hk2 q.1 (hpk.mem_iff.2 (List.mem_cons_self ..));simp only [decide_eq_true_eq] at g1;omega
  have hsee:EZ m c e a={m with seen:=l,oldest:=k}:=by
   unfold EZ;rw [if_pos hgt2,hql,hkq];rfl
  have hdel:Le k (ES m c e a)=l:=by
   rw [hql] at hs2 ⊢;rw [hkq];exact ZW hs2
  rw [hsee] at hk;try simp only [SSd,Nat.reduceAdd]
  refine rdb ?_;refine AJt hM' (fun e2 hM2=>Gh.done ?_);simp only [List.append_assoc,List.cons_append,List.nil_append];try simp only [SSd,Nat.reduceAdd]
  refine st1 rfl ?_;rw [show Bi ilt c.fTxn ⟨c.fSeq,e,a⟩ m.seen=ES m c e a from rfl,hdel] at hM2;exact Gh.to (mL b s {V with e3:=e2,c3:=c'} {m with seen:=l,oldest:=k} R) (Gh.done (hk {V with e3:=e2,c3:=c'} {hF with sns:=hM2}))
 ·rename_i hgt
  have hsz:=hM'.sizeA hs2;have hgt2:¬64 < (ES m c e a).length:=by
   have:¬64 < ((e'.size:Nat):Int):=by simpa using hgt
   unfold ES;omega
  rw [Ur hgt2] at hk;exact Gh.to (mL b s {V with e3:=e',c3:=c'} {m with seen:=ES m c e a} R) (Gh.done (hk {V with e3:=e',c3:=c'} {hF with sns:=hM'}))
theorem Vu {r:TRes}(e:Bl m c=some r):FR m c=(r,m):=by unfold FR;rw [e]
theorem AAC (e:Bl m c=none)(e1:Dq m c.fTxn 1 c.fAt=none):FR m c=(BM 143,m):=by unfold FR;rw [e];simp only;rw [e1]
theorem AGc {m1:Mch}(e:Bl m c=none)(e1:Dq m c.fTxn 1 c.fAt=some m1)(h:(recAt m1 c.fTxn).fState≠1):FR m c=(⟨142,DF,[],z0,0,(recAt m1 c.fTxn).fState⟩,m1):=by
 unfold FR;rw [e];simp only;rw [e1];simp only;rw [if_pos h]
theorem AGb {m1:Mch}(e:Bl m c=none)(e1:Dq m c.fTxn 1 c.fAt=some m1)(h:(recAt m1 c.fTxn).fState=1):FR m c=(⟨0,DF,[],z0,0,1⟩,EZ m1 c 0 z0):=by
 unfold FR;rw [e];simp only;rw [e1];simp only;rw [if_neg (by simp [h])]
theorem Gj {m1:Mch}{n st:Int}{a:TStamp}(e:Dq m n st a=some m1):m1.seen=m.seen∧m1.low=m.low∧m1.marks=m.marks∧m1.sp=m.sp∧m1.span=m.span∧m1.oldest=m.oldest∧m1.nt=m.nt∧m1.kept=m.kept:=by
 unfold Dq at e;split at e
 ·cases e;simp
 ·split at e
  ·cases e
  ·cases e;simp
set_option maxHeartbeats 1000000 in
theorem Vr (hF:MF I V m)(hs:SrtA ilt m.recs)(hs3:SrtA ilt m.seen)(hl3:m.seen.length≤64)(hc:TCmdV I c cc)(hk:∀r m',FR m c=(r,m')→∀V',MF I V' m'→K (rvR r) I (mL b s V' m' R)):
  CT ω 98 #[pt b,.agg cc.toArray] K I (mL b s V m R):=by
 have hc':=hc;obtain ⟨w0,w1,w2,w3,rfl,g0,g1,g2,g3⟩:=hc;refine ANm ?_;unfold sh98;refine AV (fun b1=>AV (fun b2=>?_));repeat' (first|(with_reducible first|refine AZ ?_|refine Aa ?_|refine Ac ?_|refine keepA ?_|refine AV (fun _=>?_))|((with_reducible refine call ?_);refine (Jt b V (HS hF hc' (fun e a ha=>?_) (fun ha=>?_))))|((with_reducible refine call ?_);refine (Jt b V (Hj hF hs (fun e=>?_) (fun V1 m1 e hF1=>?_))))|((with_reducible refine call ?_);refine (Ar ?_))|(with_reducible refine VT hF1.rcs ?_)|((with_reducible refine call ?_);refine (Jt b V1 (NM (e:=0) (a:=z0) (n:=0) (s':=0) hF1 (by rw [(Gj e).1];exact hs3) (by rw [(Gj e).1];exact hl3) hc' (fun V2 hF2=>?_))))|(with_reducible refine rdb ?_)|((with_reducible first|refine st1 ?_ ?_|refine rdB ?_ ?_);rfl)|(with_reducible refine Ah ?_)|((with_reducible refine Ai ?_ ?_);rfl)|((with_reducible refine stB ?_ ?_ ?_ ?_);rfl;rfl;exact AK rfl)|((with_reducible first|refine rdP _ rfl ?_ ?_|refine As _ rfl ?_ ?_);rfl)|((with_reducible refine stP _ rfl ?_ ?_ ?_ ?_);rfl;rfl;rfl)|(with_reducible first|refine AW (sh98.eq_1 ..) ?_|refine And.intro ?_ ?_)|(simp only [SSg,Int.reduceBEq,Int.reduceBNe,Int.reduceLT,Int.reduceLE,beq_self_eq_true,bne_self_eq_false])|(with_reducible first|refine AG (fun _=>?_) (fun _=>?_)|refine AC (fun _=>?_) (fun _=>?_))|(simp only [SSd,Nat.reduceAdd,RH]))
 ·exact Gh.to (mL b s V m R) (Gh.done (hk _ _ (Vu ha) V hF))
 ·exact Gh.to (mL b s V m R) (Gh.done (hk _ _ (AAC ha e) V hF))
 ·exact Gh.to (mL b s V1 m1 R) (Gh.done (hk _ _ (AGc ha e (by first|(simp_all;done)|(simp_all;omega)|omega)) V1 hF1))
 ·rename_i hst
  have hst:(recAt m1 c.fTxn).fState=1:=by simpa using hst
  have hk':=hk _ _ (AGb ha e hst) V2 hF2;rw [hst];exact Gh.to (mL b s V2 (EZ m1 c 0 z0) R) (Gh.done hk')
theorem VI (e:Dq m c.fTxn 3 c.fAt=none):Dc m c=(BM 143,m):=by unfold Dc;rw [e]
theorem ZA {m1:Mch}(e:Dq m c.fTxn 3 c.fAt=some m1)(h:pushB (recAt m1 c.fTxn) c=true):Dc m c=(⟨0,DF,[],(recAt m1 c.fTxn).fAt,0,3⟩,{m1 with recs:=Bi ilt c.fTxn ⟨3,(recAt m1 c.fTxn).fAt⟩ m1.recs}):=by
 unfold Dc;rw [e];simp only;unfold GB;rw [if_pos h,if_pos h]
theorem AEZ {m1:Mch}(e:Dq m c.fTxn 3 c.fAt=some m1)(h:pushB (recAt m1 c.fTxn) c=false):Dc m c=(⟨0,DF,[],(recAt m1 c.fTxn).fAt,0,(recAt m1 c.fTxn).fState⟩,m1):=by
 unfold Dc;rw [e];simp only;unfold GB;rw [if_neg (by simp [h]),if_neg (by simp [h])]
theorem TD (x:TRc):pushB x c=(x.fState==1&&(decide (Oq c.fAt x.fAt < 0)||(Oq c.fAt x.fAt==0&&decide (c.fBy < c.fTxn)))):=by
 unfold pushB;rw [←Jg,←NN,Bool.eq_iff_iff];simp only [Bool.and_eq_true,Bool.or_eq_true,Bool.not_eq_true',decide_eq_true_eq,decide_eq_false_iff_not,beq_iff_eq];omega
theorem VH (hF:MF I V m)(hs:SrtA ilt m.recs)(hc:TCmdV I c cc)(hk:∀r m',Dc m c=(r,m')→∀V',MF I V' m'→K (rvR r) I (mL b s V' m' R)):
  CT ω 100 #[pt b,.agg cc.toArray] K I (mL b s V m R):=by
 obtain ⟨w0,w1,w2,w3,rfl,g0,g1,g2,g3⟩:=hc;refine ANE ?_;unfold sh100;refine AV (fun b1=>AV (fun b2=>?_));repeat' (first|(with_reducible first|refine AZ ?_|refine Aa ?_|refine Ac ?_|refine keepA ?_|refine AV (fun _=>?_))|((with_reducible refine call ?_);refine (Jt b V (Hj hF hs (fun e=>?_) (fun V1 m1 e hF1=>?_))))|((with_reducible refine call ?_);refine (Ar ?_))|(with_reducible refine VT hF1.rcs ?_)|((with_reducible refine call ?_);refine (DU (x:=c.fAt) (y:=(recAt m1 c.fTxn).fAt) ?_))|((with_reducible refine Nb (x:=⟨3,(recAt m1 c.fTxn).fAt⟩) hF1.rcs ?_ (fun e' c' hM'=>Gh.done ?_));rfl)|(with_reducible refine rdb ?_)|((with_reducible first|refine st1 ?_ ?_|refine rdB ?_ ?_);rfl)|(with_reducible refine Ah ?_)|((with_reducible refine Ai ?_ ?_);rfl)|((with_reducible refine stB ?_ ?_ ?_ ?_);rfl;rfl;exact AK rfl)|((with_reducible first|refine rdP _ rfl ?_ ?_|refine As _ rfl ?_ ?_);rfl)|((with_reducible refine stP _ rfl ?_ ?_ ?_ ?_);rfl;rfl;rfl)|(with_reducible first|refine AW (sh100_2.eq_1 ..) ?_|refine AW (sh100_1.eq_1 ..) ?_|refine AW (sh100.eq_1 ..) ?_|refine And.intro ?_ ?_)|(simp only [SSg,Int.reduceBEq,Int.reduceBNe,Int.reduceLT,Int.reduceLE,beq_self_eq_true,bne_self_eq_false])|(with_reducible first|refine AG (fun _=>?_) (fun _=>?_)|refine AC (fun _=>?_) (fun _=>?_))|(simp only [SSd,Nat.reduceAdd,RH]))
 all_goals first
  |exact Gh.to (mL b s V m R) (Gh.done (hk _ _ (VI e) V hF))
  |exact Gh.to (mL b s V1 m1 R) (Gh.done (hk _ _ (AEZ e (by rw [TD];simp_all)) V1 hF1))
  |exact Gh.to (mL b s {V1 with e2:=e',c2:=c'} {m1 with recs:=Bi ilt c.fTxn ⟨3,(recAt m1 c.fTxn).fAt⟩ m1.recs} R) (Gh.done (hk _ _ (ZA e (by rw [TD];simp_all)) {V1 with e2:=e',c2:=c'} {hF1 with rcs:=hM'}))
  |trace_state
theorem Tf (hF:MF I V m)(hc:TCmdV I c cc)(hk:∀r m',HL m c=(r,m')→∀V',MF I V' m'→K (rvR r) I (mL b s V' m' R)):
  CT ω 101 #[pt b,.agg cc.toArray] K I (mL b s V m R):=by
 obtain ⟨w0,w1,w2,w3,rfl,g0,g1,g2,g3⟩:=hc;refine ANC ?_;unfold sh101;refine AV (fun b1=>AV (fun b2=>?_));repeat' (first|(with_reducible first|refine AZ ?_|refine Aa ?_|refine Ac ?_|refine keepA ?_|refine AV (fun _=>?_))|((with_reducible refine call ?_);refine (Ar ?_))|(with_reducible first|refine VT hF.rcs ?_|refine AJt hF.rcs (fun e' hM'=>Gh.done ?_)|refine rdb ?_)|((with_reducible first|refine st1 ?_ ?_|refine rdB ?_ ?_);rfl)|(with_reducible refine Ah ?_)|((with_reducible refine Ai ?_ ?_);rfl)|((with_reducible refine stB ?_ ?_ ?_ ?_);rfl;rfl;exact AK rfl)|((with_reducible first|refine rdP _ rfl ?_ ?_|refine As _ rfl ?_ ?_);rfl)|((with_reducible refine stP _ rfl ?_ ?_ ?_ ?_);rfl;rfl;rfl)|(with_reducible first|refine AW (sh101.eq_1 ..) ?_|refine And.intro ?_ ?_)|(simp only [SSg,Int.reduceBEq,Int.reduceBNe,Int.reduceLT,Int.reduceLE,beq_self_eq_true,bne_self_eq_false])|(with_reducible first|refine AG (fun _=>?_) (fun _=>?_)|refine AC (fun _=>?_) (fun _=>?_))|(simp only [SSd,Nat.reduceAdd,RH]))
 all_goals first
  |exact Gh.to (mL b s V m R) (Gh.done (hk (BM 142) m (by unfold HL;rw [if_pos (by first|(simp_all;done)|(simp_all;omega)|omega)]) V hF))
  |exact Gh.to (mL b s {V with e2:=e'} {m with recs:=Le c.fTxn m.recs} R) (Gh.done (hk okR {m with recs:=Le c.fTxn m.recs} (by unfold HL;rw [if_neg (by first|(simp_all;done)|(simp_all;omega)|omega)]) {V with e2:=e'} {hF with rcs:=hM'}))
  |trace_state
theorem KR {p:TSpan}{pc:List Value}(hF:MF I V m)(hp:TSpanV I p pc)(hk:K (.bool (Nc m.span p)) I (mL b s V m R)):
  CT ω 151 #[pt b,.agg pc.toArray] K I (mL b s V m R):=by
 obtain ⟨v0,v1,rfl,h0,h1⟩:=hp;refine AMf ?_;unfold sh151;repeat' (first|(with_reducible first|refine AZ ?_|refine Aa ?_|refine Ac ?_|refine keepA ?_|refine AV (fun _=>?_))|((with_reducible refine call ?_);refine (DV hF.f0 h0 ?_))|((with_reducible refine call ?_);refine (DV h1 hF.f1 ?_))|(with_reducible refine rdb ?_)|((with_reducible first|refine st1 ?_ ?_|refine rdB ?_ ?_);rfl)|(with_reducible refine Ah ?_)|((with_reducible refine Ai ?_ ?_);rfl)|((with_reducible refine stB ?_ ?_ ?_ ?_);rfl;rfl;exact AK rfl)|((with_reducible first|refine rdP _ rfl ?_ ?_|refine As _ rfl ?_ ?_);rfl)|((with_reducible refine stP _ rfl ?_ ?_ ?_ ?_);rfl;rfl;rfl)|(with_reducible first|refine AW (sh151.eq_1 ..) ?_|refine And.intro ?_ ?_)|(simp only [SSg,Int.reduceBEq,Int.reduceBNe,Int.reduceLT,Int.reduceLE,beq_self_eq_true,bne_self_eq_false])|(with_reducible first|refine AG (fun _=>?_) (fun _=>?_)|refine AC (fun _=>?_) (fun _=>?_))|(simp only [SSd,Nat.reduceAdd,Bytes.len h1,Bytes.len hF.f1]))
 all_goals (refine Gh.to (mL b s V m R) (Gh.done (EW hk ?_));rw [Bool.eq_iff_iff];simp only [Nc,←SB,Bool.not_eq_true',Bool.and_eq_true,Bool.or_eq_true,decide_eq_true_eq,beq_iff_eq,ne_eq,decide_eq_false_iff_not,Bool.false_eq_true,iff_false,not_and,not_or,ge_iff_le,gt_iff_lt,true_iff,and_true,true_and,or_true,beq_eq_false_iff_ne,Bool.not_eq_false,iff_true] at *; omega)
end
def YM:Prop:=∀(ω:Om) (I:Imm) (K:Value→M) (T:Nat) (X F:LH) (v:Value) (zs:List (List UInt8)),SlO T 1 X v (zs.map CY) zs.length→zs.length≤1000000000→
 (∀(X':LH) (ys:List (List UInt8)),ys.Perm zs→ys.Pairwise (fun a b=>blt b a=false)→SlO T 1 X' v (ys.map CY) ys.length→K (.tuple #[]) I (X'++F))→CT ω 180 #[v] K I (X++F)
theorem MK {κ:Type}[DecidableEq κ]{lt:κ→κ→Bool}(ho:Ord κ lt){a b:List κ}(hp:a.Perm b)(ha:a.Pairwise fun x y=>lt y x=false)(hb:b.Pairwise fun x y=>lt x y=true):a=b:=by
 have hna:a.Nodup:=hp.nodup_iff.2 (hb.imp fun h=>SrtA.ne ho h);have ha2:a.Pairwise fun x y=>lt x y=true:=(ha.and hna).imp fun {x y} h=>by
  cases hx:lt x y with
  |true=>rfl
  |false=>exact absurd (ho.tot _ _ hx h.1) h.2
 exact List.Perm.eq_of_pairwise (fun x y _ _ h1 h2=>by have:=ho.tr _ _ _ h1 h2;rw [ho.irr] at this;cases this) ha2 hb hp
section
variable {ω:Om}{I:Imm}{L:LH}{K:Value→M}{b s:Nat}{V:MV}{m:Mch}{R:LH}
theorem TN {low:TMk}{l:AL (List UInt8) TMk}{q:List UInt8×TMk}:CG low (l++[q])=Bw (CG low l) q.2.fAt q.2.fBy:=by
 unfold CG;rw [List.foldl_append];rfl
theorem VO {ba:Nat}{kv:Value}{k:List UInt8}{a:TStamp}{n:Int}(hF:MF I V m)(hB:Bytes I kv k)(hn:lkA m.marks k=none)
  (hk:∀V',MF I V' {m with marks:=Bi blt k (Bw mk0 a n) m.marks}→K (.tuple #[]) I ((ba,.cells #[.int .i64 a.fWall,.int .i64 a.fLogic] 41 (0,0))::mL b s V' {m with marks:=Bi blt k (Bw mk0 a n) m.marks} R)):
  sh150_5 ω (pt b) kv (.int .i64 n) (pt ba) K I ((ba,.cells #[.int .i64 a.fWall,.int .i64 a.fLogic] 41 (0,0))::mL b s V m R):=by
 have hl:BK mv m.marks k=none:=by unfold BK;rw [hn];rfl
 repeat' (first|(with_reducible first|refine AZ ?_|refine Aa ?_|refine Ac ?_|refine keepA ?_|refine AV (fun _=>?_)|refine Ek hB (Ext.refl _) ?_)|((with_reducible refine AEv hF.mks ?_);simp only [hl,lkV,if_true,if_false,Bool.false_eq_true])|((with_reducible refine call ?_);refine (Eh (k:=mk0) (a:=a) (n:=n) ?_))|((with_reducible refine TB (x:=Bw mk0 a n) hF.mks ?_ (fun e' c' hM'=>Gh.done ?_));rfl)|(with_reducible refine rdb ?_)|((with_reducible first|refine st1 ?_ ?_|refine rdB ?_ ?_);rfl)|(with_reducible refine Ah ?_)|((with_reducible refine Ai ?_ ?_);rfl)|((with_reducible refine stB ?_ ?_ ?_ ?_);rfl;rfl;exact AK rfl)|((with_reducible first|refine rdP _ rfl ?_ ?_|refine As _ rfl ?_ ?_);rfl)|((with_reducible refine stP _ rfl ?_ ?_ ?_ ?_);rfl;rfl;rfl)|(with_reducible first|refine AW (sh150_5.eq_1 ..) ?_|refine AW (sh150_4.eq_1 ..) ?_|refine AW (sh150_2.eq_1 ..) ?_|refine AW (sh150_1.eq_1 ..) ?_|refine AW (sh150_6.eq_1 ..) ?_|refine AW (sh150.eq_1 ..) ?_|refine And.intro ?_ ?_)|(simp only [SSg,Int.reduceBEq,Int.reduceBNe,Int.reduceLT,Int.reduceLE,beq_self_eq_true,bne_self_eq_false])|(with_reducible first|refine AG (fun _=>?_) (fun _=>?_)|refine AC (fun _=>?_) (fun _=>?_))|(simp only [SSd,Nat.reduceAdd,hl,lkV,if_true,if_false,Bool.false_eq_true]))
 ·exact hk {V with e1:=e',c1:=c'} {hF with mks:=hM'}
theorem ZE {kv:Value}{k:List UInt8}{a:TStamp}{n:Int}(hS:GI m k=true→YM)(hF:MF I V m)(hm:SrtA blt m.marks)(hB:Bytes I kv k)
  (hk:∀V',MF I V' (Dx m k a n)→K (.tuple #[]) I (mL b s V' (Dx m k a n) R)):
  CT ω 150 #[pt b,kv,sv a,.int .i64 n] K I (mL b s V m R):=by
 have hsz:=hF.mks.sizeA hm;refine AMg ?_;unfold sh150;refine AV (fun ba=>?_);cases hx:lkA m.marks k with
 |some x=>
  have hl:BK mv m.marks k=some (mv x):=by unfold BK;rw [hx];rfl
  have hf:GI m k=false:=by unfold GI;rw [hx];rfl
  have hmk:Dx m k a n={m with marks:=Bi blt k (Bw x a n) m.marks}:=by unfold Dx room;rw [hf];simp [hx]
  rw [hmk] at hk;repeat' (first|(with_reducible first|refine AZ ?_|refine Aa ?_|refine Ac ?_|refine keepA ?_|refine AV (fun _=>?_)|refine Ek hB (Ext.refl _) ?_)|((with_reducible refine AEv hF.mks ?_);simp only [hl,lkV,if_true,if_false,Bool.false_eq_true])|((with_reducible refine call ?_);refine (Eh (k:=x) (a:=a) (n:=n) ?_))|((with_reducible refine TB (x:=Bw x a n) hF.mks ?_ (fun e' c' hM'=>Gh.done ?_));rfl)|(with_reducible refine rdb ?_)|((with_reducible first|refine st1 ?_ ?_|refine rdB ?_ ?_);rfl)|(with_reducible refine Ah ?_)|((with_reducible refine Ai ?_ ?_);rfl)|((with_reducible refine stB ?_ ?_ ?_ ?_);rfl;rfl;exact AK rfl)|((with_reducible first|refine rdP _ rfl ?_ ?_|refine As _ rfl ?_ ?_);rfl)|((with_reducible refine stP _ rfl ?_ ?_ ?_ ?_);rfl;rfl;rfl)|(with_reducible first|refine AW (sh150_5.eq_1 ..) ?_|refine AW (sh150_4.eq_1 ..) ?_|refine AW (sh150_2.eq_1 ..) ?_|refine AW (sh150_1.eq_1 ..) ?_|refine AW (sh150_6.eq_1 ..) ?_|refine AW (sh150.eq_1 ..) ?_|refine And.intro ?_ ?_)|(simp only [SSg,Int.reduceBEq,Int.reduceBNe,Int.reduceLT,Int.reduceLE,beq_self_eq_true,bne_self_eq_false])|(with_reducible first|refine AG (fun _=>?_) (fun _=>?_)|refine AC (fun _=>?_) (fun _=>?_))|(simp only [SSd,Nat.reduceAdd,hl,lkV,if_true,if_false,Bool.false_eq_true]))
  exact Gh.to (mL b s {V with e1:=e',c1:=c'} {m with marks:=Bi blt k (Bw x a n) m.marks} R) (Gh.done (hk {V with e1:=e',c1:=c'} {hF with mks:=hM'}))
 |none=>
  have hl:BK mv m.marks k=none:=by unfold BK;rw [hx];rfl
  have hfl:GI m k=(m.marks.length==32):=by unfold GI;rw [hx];rfl
  repeat' (first|(with_reducible first|refine AZ ?_|refine Aa ?_|refine Ac ?_|refine keepA ?_|refine AV (fun _=>?_)|refine Ek hB (Ext.refl _) ?_)|((with_reducible refine AEv hF.mks ?_);simp only [hl,lkV,if_true,if_false,Bool.false_eq_true])|(with_reducible refine AOz ?_)|((with_reducible refine call ?_);refine (Eh (k:=mk0) (a:=a) (n:=n) ?_))|((with_reducible refine TB (x:=Bw mk0 a n) hF.mks ?_ (fun e' c' hM'=>Gh.done ?_));rfl)|(with_reducible refine rdb ?_)|((with_reducible first|refine st1 ?_ ?_|refine rdB ?_ ?_);rfl)|(with_reducible refine Ah ?_)|((with_reducible refine Ai ?_ ?_);rfl)|((with_reducible refine stB ?_ ?_ ?_ ?_);rfl;rfl;exact AK rfl)|((with_reducible first|refine rdP _ rfl ?_ ?_|refine As _ rfl ?_ ?_);rfl)|((with_reducible refine stP _ rfl ?_ ?_ ?_ ?_);rfl;rfl;rfl)|(with_reducible first|refine AW (sh150_5.eq_1 ..) ?_|refine AW (sh150_4.eq_1 ..) ?_|refine AW (sh150_2.eq_1 ..) ?_|refine AW (sh150_1.eq_1 ..) ?_|refine AW (sh150_6.eq_1 ..) ?_|refine AW (sh150.eq_1 ..) ?_|refine And.intro ?_ ?_)|(simp only [SSg,Int.reduceBEq,Int.reduceBNe,Int.reduceLT,Int.reduceLE,beq_self_eq_true,bne_self_eq_false])|(with_reducible first|refine AG (fun _=>?_) (fun _=>?_)|refine AC (fun _=>?_) (fun _=>?_))|(simp only [SSd,Nat.reduceAdd,hl,lkV,if_true,if_false,Bool.false_eq_true,hsz]))
  ·rename_i bx hlen
   have hlen:m.marks.length=32:=by simp at hlen;omega
   have hf:GI m k=true:=by rw [hfl,hlen];rfl
   have hS:=hS hf;have hroom:room m k={m with marks:=[],low:=CG m.low m.marks}:=by unfold room;rw [if_pos hf]
   have hmk:Dx m k a n={m with marks:=Bi blt k (Bw mk0 a n) [],low:=CG m.low m.marks}:=by unfold Dx;rw [hroom];rfl
   rw [hmk] at hk;refine call (AJl (fun qm=>?_));refine call ?_;refine AFk ?_;unfold XP;refine call (AJo hF.mks (by simp [hsz,hlen]) (.inl (by simp)) (fun X v vis hvp hO=>?_));have hO':SlO 9 1 X v ((vis.map Au).map CY) (vis.map Au).length:=by simpa using hO
   have hpk:=(hvp.map Au).trans (hF.mks.keysA hm);have hvl:(vis.map Au).length=32:=by rw [hpk.length_eq];simp [hlen]
   refine call (hS _ _ _ _ _ _ _ _ hO' (by omega) (fun X' ys hp hpw hO2=>?_));have hys:ys=m.marks.map (·.1):=MK Lj (hp.trans hpk) hpw (List.pairwise_map.2 hm);subst hys;rw [List.length_map,hlen] at hO2;obtain ⟨sa,scap,rfl⟩:=hO2.form;refine Gh.done ?_;try simp only [SSd,Nat.reduceAdd]
   refine loop (fun n' (s':Value×Unit) I' L'=>I'=I∧∃(i:Nat),n'+i=32∧s'=(.int .i64 i,())∧L'=X'++((bx,.cells #[.int .i64 0,.int .i64 0,.int .i64 0] 159 (0,0))::(ba,.cells #[.int .i64 a.fWall,.int .i64 a.fLogic] 41 (0,0))::mL b s V {m with low:=CG m.low (m.marks.take i)} R)) 32 ⟨rfl,0,rfl,rfl,rfl⟩ ?_;rintro n' s' I' L' ⟨rfl,i,hn,rfl,rfl⟩;unfold sh150_2;try simp only [SSd,Nat.reduceAdd]
   refine AC (fun e=>?_) (fun e=>?_)
   ·have hi:i < m.marks.length:=by simp at e;omega
    obtain ⟨bq,hix,hcq⟩:=hO2.ix .i64 (i:=i) (by omega);have hcq1:=hcq I' (X'++((bx,.cells #[.int .i64 0,.int .i64 0,.int .i64 0] 159 (0,0))::(ba,.cells #[.int .i64 a.fWall,.int .i64 a.fLogic] 41 (0,0))::mL b s V {m with low:=CG m.low (m.marks.take i)} R)) (fun x hx=>List.mem_append_left _ hx) 0 (CY m.marks[i].1) (by simp [hi]);have hq:lkA m.marks m.marks[i].1=some m.marks[i].2:=FO Lj hm (List.getElem_mem hi);have hlq:BK mv m.marks m.marks[i].1=some (mv m.marks[i].2):=by unfold BK;rw [hq];rfl
    have htk:CG m.low (m.marks.take (i+1))=Bw (CG m.low (m.marks.take i)) m.marks[i].2.fAt m.marks[i].2.fBy:=by rw [take_snoc hi,TN]
    simp only [hix,SSd,Nat.reduceAdd];refine rd1 (by simpa using hcq1) ?_;try simp only [SSd,Nat.reduceAdd]
    refine rdb ?_;refine lkT hF.mks ?_;simp only [hlq,lkV,Bool.false_eq_true,if_false];refine AV (fun bk=>?_);refine stB rfl rfl (AK rfl) ?_;refine AZ ?_;try simp only [SSd,Nat.reduceAdd]
    refine As [.int .i64 (CG m.low (m.marks.take i)).fAt.fWall,.int .i64 (CG m.low (m.marks.take i)).fAt.fLogic,.int .i64 (CG m.low (m.marks.take i)).fBy] rfl rfl ?_;try simp only [SSd,Nat.reduceAdd]
    refine As [.int .i64 m.marks[i].2.fAt.fWall,.int .i64 m.marks[i].2.fAt.fLogic] rfl rfl ?_;try simp only [SSd,Nat.reduceAdd]
    refine Ah ?_;refine call (Eh (k:=CG m.low (m.marks.take i)) (a:=m.marks[i].2.fAt) (n:=m.marks[i].2.fBy) ?_);try simp only [SSd,Nat.reduceAdd]
    rw [←htk,wrap_i64 _ (by omega)];refine stP [V.v0,V.v1,pt s,.map (some V.km),.int .i64 (CG m.low (m.marks.take (i+1))).fAt.fWall,.int .i64 (CG m.low (m.marks.take (i+1))).fAt.fLogic,.int .i64 (CG m.low (m.marks.take (i+1))).fBy,.map (some V.rc),.map (some V.sn),.int .i64 m.oldest,V.kv] rfl rfl rfl rfl ?_;try simp only [SSd,Nat.reduceAdd]
    exact Gh.to (X'++((bx,.cells #[.int .i64 0,.int .i64 0,.int .i64 0] 159 (0,0))::(ba,.cells #[.int .i64 a.fWall,.int .i64 a.fLogic] 41 (0,0))::mL b s V {m with low:=CG m.low (m.marks.take (i+1))} R)) (Gh.done ⟨n' - 1,by omega,rfl,i+1,by omega,rfl,rfl⟩)
   ·have hi:i=m.marks.length:=by simp at e;omega
    rw [hi,List.take_length];unfold sh150_4;refine RZ (fun m2=>?_);refine Gh.to ((m2,.map #[] 0)::(ba,.cells #[.int .i64 a.fWall,.int .i64 a.fLogic] 41 (0,0))::mL b s V {m with low:=CG m.low m.marks} R) (Gh.done ?_);try simp only [SSd,Nat.reduceAdd]
    refine AOq rfl ?_;refine Gh.to ((ba,.cells #[.int .i64 a.fWall,.int .i64 a.fLogic] 41 (0,0))::mL b s {V with km:=m2,e1:=#[],c1:=0} {m with marks:=[],low:=CG m.low m.marks} R) (Gh.done ?_);refine VO (V:={V with km:=m2,e1:=#[],c1:=0}) (m:={m with marks:=[],low:=CG m.low m.marks}) {hF with mks:=MapS.empty} hB rfl (fun V' hV'=>?_);exact Gh.to (mL b s V' {m with marks:=Bi blt k (Bw mk0 a n) [],low:=CG m.low m.marks} R) (Gh.done (hk V' hV'))
  ·rename_i hlen
   have hf:GI m k=false:=by rw [hfl];simp at hlen ⊢;omega
   have hmk:Dx m k a n={m with marks:=Bi blt k (Bw mk0 a n) m.marks}:=by unfold Dx room;rw [hf];simp [hx]
   rw [hmk] at hk;exact Gh.to (mL b s {V with e1:=e',c1:=c'} {m with marks:=Bi blt k (Bw mk0 a n) m.marks} R) (Gh.done (hk {V with e1:=e',c1:=c'} {hF with mks:=hM'}))
end
end Go.Proofs.YtmmfcgbfbcamcaaGreatDoor
