/- lemmas -/
import Derived.Test.YtmmfcgbfbcamcaaGreatDoorP6
set_option maxRecDepth 100000
set_option maxHeartbeats 2000000
set_option linter.unusedVariables false
set_option linter.unusedSimpArgs false
set_option linter.unusedSectionVars false
namespace Go.Proofs.YtmmfcgbfbcamcaaGreatDoor
open Go.SL
section
variable {ω:Om}{I:Imm}{L:LH}{K:Value→M}
abbrev Ok (v:TVer):Obj:=.cells #[.int .i64 v.fAt.fWall,.int .i64 v.fAt.fLogic,.bool v.fDel,BS v.fValue] 253 (0,0)
def FB (a:TStamp)(r:Row):TVer:=⟨a,r.it.ver.fDel,r.it.ver.fValue⟩
def AMd (k:List UInt8)(yes:Bool)(a:TStamp)(r:Row)(nt:Nts):Nts:=if yes=true then Cj (Cj nt (105::k) (true,[])) (CH k (FB a r)) (false,Bi (FB a r)) else Cj nt (105::k) (true,[])
def Ho (sp:Sp)(k:List UInt8)(txn:Int)(yes:Bool)(a:TStamp)(nt:Nts):Nts:=if (Di sp k txn yes a).1=true then (match rowOf sp.rows k with
 |some r=>AMd k yes a r nt
 |none=>nt) else nt
theorem Fk (a b:List TVer):Dl (a++b)=Dl a++Dl b:=by simp [Dl]
theorem Nv {b:Nat}{a1:Value}{k:List UInt8}{X F:LH}{A B:List Row}{r:Row}{fl:TStamp}{nt:Nts}{p10 p11:Value}[hsub:SubP (X++F) L](h1:Bytes I a1 k)(hS:SpR I b X ⟨A++r::B,fl⟩ nt)(hm:Mid A k B)(hkr:r.key=k)(hs:SrtK (keysOf (A++r::B)))(hlen:(A++r::B).length≤100000000)
  (hk:∀X',SpR I b X' ⟨if BR r=true then A++B else A++r::B,fl⟩ nt→K (.tuple #[.bool true,.int .i64 0]) I (X'++F)):EE ω (pt b) a1 p10 p11 (λv=>Gh (K v)) I L:=by
 unfold EE;refine DF h1 (Ext.refl _) ?_;refine call (Cal.to (X++F) ?_);exact Nd hS hm hkr hs hlen (λX' h'=>Gh.done (hk X' h'))
theorem PS {b:Nat}{a1:Value}{k:List UInt8}{txn:Int}{yes:Bool}{a:TStamp}{X F:LH}{sp:Sp}{nt:Nts}(hS:SpR I b X sp nt)(hok:SpOk sp)(hlen:sp.rows.length≤100000000)(hvs:∀r∈sp.rows,r.vs.length≤100000000)(h1:Bytes I a1 k)
  (hk:∀X' I',Ext I I'→SpR I' b X' (Dw sp k txn yes a) (Ho sp k txn yes a nt)→K (.tuple #[.bool (Di sp k txn yes a).1,.int .i64 (Di sp k txn yes a).2]) I' (X'++F)):
  CT ω 161 #[pt b,a1,.int .i64 txn,.bool yes,sv a] K I (X++F):=by
 have hs:=hok.rise;have same:∀x,Di sp k txn yes a=(false,x)→K (.tuple #[.bool false,.int .i64 x]) I (X++F):=by
  intro x e;have e2:Dw sp k txn yes a=sp:=by unfold Dw;rw [e];rfl
  have e3:Ho sp k txn yes a nt=nt:=by unfold Ho;rw [e];rfl
  rw [e2,e3] at hk;have hk':=hk X I (Ext.refl _) hS;rw [e] at hk';exact hk'
 by_cases hbad:Aj k=false∨BU txn=false∨(yes=true∧AN a=false)
 ·have hk':=same 1 (by unfold Di;rw [if_pos hbad]);refine Mq ?_;unfold LW;refine AQ (λbat=>?_);refine call (Cx h1 ?_);try refine O ?_
  refine AV (λe=>?_) (λe=>Gh.to (X++F) (Gh.done hk'));refine call (Da ?_);try refine O ?_
  refine AV (λe2=>?_) (λe2=>Gh.to (X++F) (Gh.done hk'));have hy:yes=true∧AN a=false:=by
   rcases hbad with h|h|h
   ·rw [h] at e;simp at e
   ·rw [h] at e2;simp at e2
   ·exact h
  simp only [hy.1,SSd,Nat.reduceAdd];refine rdB rfl ?_;refine call (Bb (x:=a) ?_);simp only [hy.2,Bool.not_false,SSd,Nat.reduceAdd];exact Gh.to (X++F) (Gh.done hk')
 have hA:Di sp k txn yes a=if (Ba sp.rows k).txn≠txn then (false,0) else if yes=true∧(bhd (Ba sp.rows k).ver.fAt a=true∨FW a (Cn sp.rows k).getLast? =true) then (false,1) else (true,0):=by unfold Di;rw [if_neg hbad]
 simp only [not_or,Bool.not_eq_false,not_and] at hbad;obtain ⟨k1,k2,k3⟩:=hbad;have kl:1≤k.length∧k.length≤110:=by simpa [Aj] using k1
 have kt:=Fm k2;obtain ⟨rows,fl⟩:=sp;rcases place k hs with ⟨A,r,B,e,hkr,hm⟩|⟨A,B,e,hm⟩
 rotate_left
 ·simp only at e;subst e
  rw [MO hm,if_pos (show noIt.txn≠txn from λh=>kt h.symm)] at hA;have hk':=same 0 hA;obtain ⟨m,kv,es,clock,ps,hV⟩:=hS.view (L:=X++F) (λy hy=>List.mem_append_left _ hy);have hn:BA ps (A++B) k=none:=GE hm.notin;cases yes
  ·refine Mq ?_;unfold LW;refine AQ (λbat=>?_);refine call (Cx h1 ?_);simp only [k1,Bool.not_true,SSd,Nat.reduceAdd];refine call (Da ?_);simp only [k2,Bool.not_true,SSd,Nat.reduceAdd];refine AZ ?_
   refine Av (hV.head 0 _ rfl) (Ext.refl _) ?_;refine Bd h1 (Ext.refl _) ?_;refine ⟨_,λI' L' hS=>FP (MapAt.mono hV.at' hS.1 (λx hx=>hS.2 _ (by simp [hx]))) hV.map,?_⟩;have en:CK .eql (.pointer none) (.pointer none)=some (.bool true):=rfl;simp only [hn,lkV,Bool.false_eq_true,if_false,en,SSd,Nat.reduceAdd];exact Gh.to (X++F) (Gh.done hk')
  ·refine Mq ?_;unfold LW;refine AQ (λbat=>?_);refine call (Cx h1 ?_);simp only [k1,Bool.not_true,SSd,Nat.reduceAdd];refine call (Da ?_);simp only [k2,Bool.not_true,SSd,Nat.reduceAdd];refine rdB rfl ?_;refine call (Bb (x:=a) ?_);simp only [k3 rfl,Bool.not_true,SSd,Nat.reduceAdd];refine AZ ?_
   refine Av (hV.head 0 _ rfl) (Ext.refl _) ?_;refine Bd h1 (Ext.refl _) ?_;refine ⟨_,λI' L' hS=>FP (MapAt.mono hV.at' hS.1 (λx hx=>hS.2 _ (by simp [hx]))) hV.map,?_⟩;have en:CK .eql (.pointer none) (.pointer none)=some (.bool true):=rfl;simp only [hn,lkV,Bool.false_eq_true,if_false,en,SSd,Nat.reduceAdd];exact Gh.to (X++F) (Gh.done hk')
 ·simp only at e;subst e
  rw [MN hm hkr,LD hm hkr] at hA;obtain ⟨p1,p2,p3⟩:=hok.part;obtain ⟨ps,hS⟩:=hS;obtain ⟨p,sl,Y,R,hps,hp,hv,hX,g4⟩:=hS.open' hm hkr;obtain ⟨m,kv,es,clock,hV,hcp⟩:=g4 ((p,Ay sl r.it)::(Y++(R++F))) (λx hx=>by
   have:=hp.mem_iff.1 hx;simp only [List.mem_cons,List.mem_append] at this ⊢;rcases this with h|h|h
   ·exact .inl h
   ·exact .inr (.inl h)
   ·exact .inr (.inr (.inl h)))
  have hs1:SrtK (keysOf (A++⟨k,r.vs,noIt⟩::B)):=by rw [HO (r:=r) hkr.symm];exact hs
  have hlen1:(A++(⟨k,r.vs,noIt⟩:Row)::B).length≤100000000:=by simpa using hlen
  refine Cal.perm (L':=(p,Ay sl r.it)::(Y++(R++F))) (AO (by rw [AM,BQ hp];((try simp only [AJ,AM,AU,AP]);(try ac_rfl)))) ?_;have back:∀(bat:Nat) {v:Value},K v I (X++F)→Gh (K v) I ((bat,stO a)::(p,Ay sl r.it)::(Y++(R++F))):=λbat v h=>Gh.to ((p,Ay sl r.it)::(Y++(R++F))) (Gh.perm (L':=X++F) (AO (by rw [AM,BQ hp];((try simp only [AJ,AM,AU,AP]);(try ac_rfl)))) (Gh.done h));have back2:∀(bv bat:Nat) {v:Value},K v I (X++F)→Gh (K v) I ((bv,Ok r.it.ver)::(bat,stO a)::(p,Ay sl r.it)::(Y++(R++F))):=λbv bat v h=>Gh.to ((p,Ay sl r.it)::(Y++(R++F))) (Gh.perm (L':=X++F) (AO (by rw [AM,BQ hp];((try simp only [AJ,AM,AU,AP]);(try ac_rfl)))) (Gh.done h));cases yes
  ·refine Mq ?_;unfold LW;refine AQ (λbat=>?_);refine call (Cx h1 ?_);simp only [k1,Bool.not_true,SSd,Nat.reduceAdd];refine call (Da ?_);simp only [k2,Bool.not_true,SSd,Nat.reduceAdd];refine AZ ?_
   refine Av (hV.head 0 _ rfl) (Ext.refl _) ?_;refine Bd h1 (Ext.refl _) ?_;refine ⟨_,λI' L' hS=>FP (MapAt.mono hV.at' hS.1 (λx hx=>hS.2 _ (by simp [hx]))) hV.map,?_⟩;simp only [hcp,lkV,Bool.false_eq_true,if_false,SSd,Nat.reduceAdd];refine rdb ?_;try refine O ?_
   refine AF (λe=>?_) (λe=>?_)
   ·have e':r.it.txn≠txn:=by simpa using e
    rw [if_pos e'] at hA;exact back _ (same 0 hA)
   have e':¬r.it.txn≠txn:=by simpa using e
   rw [if_neg e'] at hA
   refine rdP [.int .i64 r.it.ver.fAt.fWall,.int .i64 r.it.ver.fAt.fLogic,.bool r.it.ver.fDel,BS r.it.ver.fValue] rfl rfl ?_;refine AQ (λbv=>?_);refine stB rfl rfl (AH rfl) ?_
   refine rdb ?_;obtain ⟨sa,sc,rfl⟩:=hv.form;try refine O ?_
   refine AZ ?_
   refine ⟨⟨Ext.refl _,λ_ h=>h⟩,?_⟩;have hA':Di ⟨A++r::B,fl⟩ k txn false a=(true,0):=by rw [hA];rfl
   refine stP _ rfl rfl rfl rfl ?_;refine DF h1 (Ext.refl _) ?_;have hS':=hX.close ⟨k,r.vs,noIt⟩ _ Y ((p,Ay (.slice sa r.vs.length sc) noIt)::(Y++R)) rfl hv (List.Perm.refl _);refine call (Cal.perm (L':=((p,Ay (.slice sa r.vs.length sc) noIt)::(Y++R))++((bv,Ok r.it.ver)::(bat,stO a)::F)) (AO (by ((try simp only [AJ,AM,AU,AP]);(try ac_rfl)))) ?_);refine EU hS' hs1 (Bn hm rfl) (by simp [noIt]) (λh=>absurd rfl h) (by omega) (by simp [noIt]) (λX' I' hI' h'=>?_);refine Nv (X:=X') (F:=F) (h1.mono hI') ⟨_,h'⟩ hm rfl hs1 hlen1 (λX2 h2=>?_);have hk':=hk X2 I' hI';rw [hA'] at hk';refine hk' ?_;have e2:Dw ⟨A++r::B,fl⟩ k txn false a=⟨if BR ⟨k,r.vs,noIt⟩=true then A++B else A++⟨k,r.vs,noIt⟩::B,fl⟩:=by
    unfold Dw;rw [hA'];simp only [if_true];rw [Ew hm hkr,JI (λx hx=>(p1 x hx).some) (λx hx=>(p3 x hx).some)];simp [Hn,hkr]
   have e3:Ho ⟨A++r::B,fl⟩ k txn false a nt=Cj nt (105::k) (true,[]):=by
    unfold Ho;rw [hA'];simp only [if_true];rw [Bn hm hkr];rfl
   rw [e2,e3];exact h2
  ·refine Mq ?_;unfold LW;refine AQ (λbat=>?_);refine call (Cx h1 ?_);simp only [k1,Bool.not_true,SSd,Nat.reduceAdd];refine call (Da ?_);simp only [k2,Bool.not_true,SSd,Nat.reduceAdd];refine rdB rfl ?_;refine call (Bb (x:=a) ?_);simp only [k3 rfl,Bool.not_true,SSd,Nat.reduceAdd];refine AZ ?_
   refine Av (hV.head 0 _ rfl) (Ext.refl _) ?_;refine Bd h1 (Ext.refl _) ?_;refine ⟨_,λI' L' hS=>FP (MapAt.mono hV.at' hS.1 (λx hx=>hS.2 _ (by simp [hx]))) hV.map,?_⟩;simp only [hcp,lkV,Bool.false_eq_true,if_false,SSd,Nat.reduceAdd];refine rdb ?_;try refine O ?_
   refine AF (λe=>?_) (λe=>?_)
   ·have e':r.it.txn≠txn:=by simpa using e
    rw [if_pos e'] at hA;exact back _ (same 0 hA)
   have e':¬r.it.txn≠txn:=by simpa using e
   rw [if_neg e'] at hA
   refine rdP [.int .i64 r.it.ver.fAt.fWall,.int .i64 r.it.ver.fAt.fLogic,.bool r.it.ver.fDel,BS r.it.ver.fValue] rfl rfl ?_;refine AQ (λbv=>?_);refine stB rfl rfl (AH rfl) ?_;try refine O ?_
   refine rdb ?_;obtain ⟨sa,sc,rfl⟩:=hv.form;try refine O ?_
   refine AZ ?_
   refine Cv [.int .i64 r.it.ver.fAt.fWall,.int .i64 r.it.ver.fAt.fLogic] rfl rfl ?_;refine Ck rfl ?_;refine call (BF (x:=r.it.ver.fAt) (y:=a) ?_);refine Bt (Ext.refl _) ?_;refine AV (λe2=>?_) (λe2=>?_);rotate_left
   ·have e2':bhd r.it.ver.fAt a=true:=by simpa using e2
    rw [if_pos ⟨rfl,.inl e2'⟩] at hA;exact back2 _ _ (same 1 hA)
   have tail:∀hA':Di ⟨A++r::B,fl⟩ k txn true a=(true,0),(Pv (AR #[.int .i64 0,.int .i64 0,.bool false,.string (ByteArray.mk #[]),.int .i64 0] #[(0,4),(4,1)] []) λv44=>Pv (AG (pt p)) λv45=>Pv (AA 1 v45) λv46=>Sto 5 v46 v44<|gh λ_=>Rv none (bsR a1) λv47=>
     CT ω 190 #[pt b,v47]<|gh λv48=>Br (.bool true) (FL ω (pt b) a1 (pt bat) (.bool false) (.int .i64 0) (pt p) (pt bv) (λv=>Gh (K v))) (EE ω (pt b) a1 (.bool false) (.int .i64 0) (λv=>Gh (K v)))) I
     ((bv,Ok r.it.ver)::(bat,stO a)::(p,Ay (.slice sa r.vs.length sc) r.it)::(Y++(R++F))):=by
    intro hA';try refine O ?_
    refine stP _ rfl rfl rfl rfl ?_;refine DF h1 (Ext.refl _) ?_;have hS':=hX.close ⟨k,r.vs,noIt⟩ _ Y ((p,Ay (.slice sa r.vs.length sc) noIt)::(Y++R)) rfl hv (List.Perm.refl _);refine Bu (Cal.perm (L':=((p,Ay (.slice sa r.vs.length sc) noIt)::(Y++R))++((bv,Ok r.it.ver)::(bat,stO a)::F)) (AO (by ((try simp only [AJ,AM,AU,AP]);(try ac_rfl)))) ?_);refine EU hS' hs1 (Bn hm rfl) (by simp [noIt]) (λh=>absurd rfl h) (by omega) (by simp [noIt]) (λX' I' hI' h'=>?_);obtain ⟨p',sl',Y',R',hps',gp,gv,gX,g4'⟩:=h'.open' hm rfl;obtain rfl:p'=p:=by rw [hps] at hps';exact (Option.some.inj hps').symm
    refine Gh.perm (L':=(p',Ay sl' noIt)::(Y'++(R'++((bv,Ok r.it.ver)::(bat,stO a)::F)))) (AO (by rw [AM,BQ gp];((try simp only [AJ,AM,AU,AP]);(try ac_rfl)))) (Gh.done ?_);obtain ⟨sa2,sc2,rfl⟩:=gv.form;try refine O ?_
    unfold FL;try refine O ?_
    refine rdB rfl ?_;refine stP _ rfl rfl rfl rfl ?_;refine AZ ?_;try refine O ?_
    refine Ab ?_;refine Ck rfl ?_;refine EH rfl (by omega) rfl (λX1 u hX1=>?_);refine Bt (Ext.refl _) ?_;have hvl:r.vs.length≤100000000:=hvs r (by simp);refine DX (X:=Y') (news:=ET (FB a r)) rfl gv (hX1.news (λx hx=>List.mem_append_left _ hx)) (AH rfl) (by simp only;omega) (by simp only;omega) (λY2 sl2 hY2=>?_);obtain ⟨sa3,sc3,rfl⟩:=hY2.form;try refine O ?_
    refine st1 rfl ?_;refine DF (h1.mono hI') (Ext.refl _) ?_;refine rdB rfl ?_;have hv2:VsO Y2 (.slice sa3 (r.vs.length+1) sc3) (r.vs++[FB a r]):=by
     unfold VsO;rw [Fk,List.length_append];exact hY2
    have hS2:=gX.close ⟨k,r.vs++[FB a r],noIt⟩ _ Y2 ((p',Ay (.slice sa3 (r.vs.length+1) sc3) noIt)::(Y2++R')) rfl hv2 (List.Perm.refl _);have hvalL:r.it.ver.fValue.length≤10000:=by
     rcases p2.it with h|⟨_,h⟩
     ·rw [h];simp [noIt]
     ·exact h.len
    refine call (Cal.perm (L':=((p',Ay (.slice sa3 (r.vs.length+1) sc3) noIt)::(Y2++R'))++((bv,Ok (FB a r))::(bat,stO a)::(X1++F))) (AO (by ((try simp only [AJ,AM,AU,AP]);(try ac_rfl)))) ?_);refine JT (v:=FB a r) hS2 (k3 rfl) (by omega) (by simp only [FB];omega) (λX2 I2 hI2 h2=>?_);have hs2:SrtK (keysOf (A++⟨k,r.vs++[FB a r],noIt⟩::B)):=by rw [HO (r:=r) hkr.symm];exact hs
    refine Nv (X:=X2) (F:=F) (h1.mono (hI'.trans hI2)) ⟨_,h2⟩ hm rfl hs2 (by simpa using hlen) (λX3 h3=>?_);have hk':=hk X3 I2 (hI'.trans hI2);rw [hA'] at hk';refine hk' ?_;have e2:Dw ⟨A++r::B,fl⟩ k txn true a=⟨if BR ⟨k,r.vs++[FB a r],noIt⟩=true then A++B else A++⟨k,r.vs++[FB a r],noIt⟩::B,fl⟩:=by
     unfold Dw;rw [hA'];simp only [if_true];rw [Ew hm hkr,JI (λx hx=>(p1 x hx).some) (λx hx=>(p3 x hx).some)];rw [show Hn true a r=⟨k,r.vs++[FB a r],noIt⟩ from by simp [Hn,hkr,FB]]
    have e3:Ho ⟨A++r::B,fl⟩ k txn true a nt=Cj (Cj nt (105::k) (true,[])) (CH k (FB a r)) (false,Bi (FB a r)):=by
     unfold Ho;rw [hA'];simp only [if_true];rw [Bn hm hkr];rfl
    rw [e2,e3];exact h3
   cases hl:r.vs.getLast? with
   |none=>
    have hv0:r.vs=[]:=List.getLast?_eq_none_iff.1 hl;have eg:decide ((0:Int) < ((r.vs.length:Nat):Int))=false:=by rw [hv0];rfl
    have hA':Di ⟨A++r::B,fl⟩ k txn true a=(true,0):=by
     rw [hA,hl,if_neg];rintro ⟨_,h|h⟩
     ·rw [h] at e2;cases e2
     ·cases h
    have htail:=tail hA';simp only [SSd,Nat.reduceAdd] at htail;simp only [eg,SSd,Nat.reduceAdd];exact htail
   |some v=>
    obtain ⟨hv0,hlx⟩:=Pk hl;have eg:decide ((0:Int) < ((r.vs.length:Nat):Int))=true:=by simpa using hv0
    simp only [eg,SSd,Nat.reduceAdd];refine Ck rfl ?_;refine Ab ?_;have hvl:r.vs.length≤100000000:=hvs r (by simp);rw [wrap_i64 _ (by omega)];have el:((r.vs.length:Nat):Int) - 1=((r.vs.length - 1:Nat):Int):=by omega
    rw [el];obtain ⟨qq,off,cc,hix,hl4,hcc,hcr⟩:=RL.ix (VsO.rl (I:=I) (L:=Y) hv (λ_ h=>h)) (i:=((r.vs.length - 1:Nat):Int)) (by omega) (by omega);obtain rfl:cc=ET _:=hcc;rw [hlx] at hcr;obtain ⟨w1,w2,w3⟩:=Nb (hcr I Y (Ext.refl _) (λ_ h=>h));simp only [hix,SSd,Nat.reduceAdd];refine ADg (vs:=[.int .i64 v.fAt.fWall,.int .i64 v.fAt.fLogic]) rfl (λI' L' hS=>w1.mono hS.1 (λx hx=>hS.2 _ (by simp [hx]))) ?_;refine call (BF (x:=a) (y:=v.fAt) ?_);try refine O ?_
    refine AF (λe3=>?_) (λe3=>?_)
    ·have e3':FW a r.vs.getLast? =true:=by rw [hl];simpa [FW] using e3
     rw [if_pos ⟨rfl,.inr e3'⟩] at hA;exact back2 _ _ (same 1 hA)
    ·have hA':Di ⟨A++r::B,fl⟩ k txn true a=(true,0):=by
      rw [hA,hl,if_neg];rintro ⟨_,h|h⟩
      ·rw [h] at e2;cases e2
      ·simp only [FW] at h;rw [h] at e3;cases e3
     have htail:=tail hA';simp only [SSd,Nat.reduceAdd] at htail;exact htail
end
section
variable {ω:Om}{I:Imm}{L:LH}{K:Value→M}
theorem Oe {P:Program}{f:FuncId}{first cap args:Array Value}(he:Bj P f=true)(h:Cal P ω f (first++args++cap) K I L):CalV P ω (.func (.func f) first cap) args K I L:=by
 simp only [CalV];rw [if_pos he];exact h
structure Clo (ω:Om)(fid:FuncId)(caps:Array Value)(f:TVer→Bool)(vs:List TVer)(J:List TVer→Imm→LH→Prop):Prop where
 ent:Bj Tryz.prog fid=true
 mono:∀done I I' G,J done I G→Ext I I'→J done I' G
 step:∀done v rest I G L (K:Value→M),vs=done++v::rest→J done I G→(∀I' G',Ext I I'→J (done++[v]) I' G'→K (.bool (f v)) I' (G'++L))→CT ω fid (#[]++#[vv v]++caps) K I (G++L)
theorem take_snoc {α:Type}{l:List α}{j:Nat}(h:j < l.length):l.take (j+1)=l.take j++[l[j]]:=by
 rw [List.take_add_one,List.getElem?_eq_getElem h];rfl
theorem GT {α:Type}{l:List α}{j:Nat}(h:j < l.length):l=l.take j++l[j]::l.drop (j+1):=by
 rw [←List.drop_eq_getElem_cons h,List.take_append_drop]
theorem RN {fid:FuncId}{caps:Array Value}{f:TVer→Bool}{vs:List TVer}{J:List TVer→Imm→LH→Prop}{Y G F:LH}{sl:Value}(hc:Clo ω fid caps f vs J)(hv:VsO Y sl vs)(hlen:vs.length≤1000000000)(hJ:J [] I G)
  (h1:∀I' G',Ext I I'→J vs I' G'→(∀v∈vs,f v=false)→K (.int .i64 (-1)) I' (Y++(G'++F)))
  (h2:∀I' G' (i:Nat) (hi:i < vs.length),Ext I I'→J (vs.take (i+1)) I' G'→(∀v∈vs.take i,f v=false)→f vs[i]=true→K (.int .i64 i) I' (Y++(G'++F))):
  CT ω 247 #[sl,.func (.func fid) #[] caps] K I (Y++(G++F)):=by
 refine AKV ?_;unfold ZL;obtain ⟨sa,sc,rfl⟩:=hv.form;try refine O ?_
 refine loop (λn s I' L'=>Ext I I'∧∃(j:Nat) (G':LH),n+j=vs.length∧s=(.int .i64 0,.int .i64 j,())∧L'=Y++(G'++F)∧J (vs.take j) I' G'∧∀v∈vs.take j,f v=false) vs.length ⟨Ext.refl _,0,G,rfl,rfl,rfl,by simpa using hJ,by simp⟩ ?_;rintro n s I' L' ⟨hI,j,G',hnj,rfl,rfl,hj,hA⟩;unfold US;try refine O ?_
 refine AF (λe=>?_) (λe=>?_)
 ·have hjl:j < vs.length:=by simpa using e
  obtain ⟨qq,off,cc,hix,hl4,hcc,hcr⟩:=RL.ix (VsO.rl (I:=I') (L:=Y) hv (λ_ h=>h)) (i:=(j:Int)) (by omega) (by omega);obtain rfl:cc=ET _:=hcc;rw [AX hjl] at hcr;simp only [hix,SSd,Nat.reduceAdd];refine FT (hcr I' Y (Ext.refl _) (λ_ h=>h)) (Ext.refl _) rfl ?_;refine Oe hc.ent (Cal.gh (Cal.perm (L':=G'++(Y++F)) (AO (by ((try simp only [AJ,AM,AU,AP]);(try ac_rfl)))) (hc.step (vs.take j) vs[j] (vs.drop (j+1)) _ _ _ _ (GT hjl) hj (λI2 G2 hI2 h2'=>Gh.perm (L':=Y++(G2++F)) (AO (by ((try simp only [AJ,AM,AU,AP]);(try ac_rfl)))) (Gh.done (Gh.done ?_))))));rw [←take_snoc hjl] at h2';refine AF (λe2=>?_) (λe2=>?_)
  ·exact Gh.done (h2 I2 G2 j hjl (hI.trans hI2) h2' hA e2)
  ·try refine O ?_
   rw [wrap_i64 _ (by omega)];refine Gh.done ⟨n - 1,by omega,hI.trans hI2,j+1,G2,by omega,rfl,rfl,h2',λv hv=>?_⟩;rw [take_snoc hjl] at hv;rcases List.mem_append.1 hv with hv|hv
   ·exact hA v hv
   ·simp only [List.mem_singleton] at hv;subst hv;exact e2
 ·have hjl:j=vs.length:=by simp at e;omega
  subst hjl;rw [List.take_length] at hj hA;exact Gh.done (h1 I' G' hI hj hA)
theorem YU {vs:List TVer}{j:Nat}(hj:j < vs.length):((Dl vs).drop (j * 4)).take 4=ET vs[j]:=by
 have h:=(Eu (I:=λ_=>none) vs).get (i:=j) (x:=vs[j]) (by simp [hj]);exact h.2
theorem Wb {vs:List TVer}{j k:Nat}{u:Value}(hj:j < vs.length)(hk:(ET vs[j])[k]? =some u):(Dl vs)[j * 4+k]? =some u:=by
 have hlt:k < 4:=by have:=(List.getElem?_eq_some_iff.1 hk).1;simpa [ET] using this
 rw [←YU hj,List.getElem?_take,if_pos hlt,List.getElem?_drop] at hk;exact hk
theorem Xv {fid:FuncId}{caps:Array Value}{f:TVer→Bool}{vs:List TVer}{J:List TVer→Imm→LH→Prop}{Y G F:LH}{sl:Value}(hc:Clo ω fid caps f vs J)(hv:VsO Y sl vs)(hlen:vs.length≤1000000000)(hJ:J [] I G)
  (hk:∀I' G' Y' v',Ext I I'→J vs I' G'→VsO Y' v' (vs.filter λv=> !f v)→K v' I' (Y'++(G'++F))):
  CT ω 223 #[sl,.func (.func fid) #[] caps] K I (Y++(G++F)):=by
 refine AKj ?_;unfold AAN;refine call (RN hc hv hlen hJ (λI1 G1 hI1 hJ1 hA=>?_) (λI1 G1 i hi hI1 hJ1 hA hf=>?_))
 ·have e:((-1:Int)== -1)=true:=rfl;simp only [e,SSd,Nat.reduceAdd];rw [List.filter_eq_self.2 (λv hv=>by simp [hA v hv])] at hk;exact Gh.done (hk I1 G1 Y sl hI1 hJ1 hv)
 have e:((i:Int)== -1)=false:=by simp
 simp only [e,SSd,Nat.reduceAdd];rw [wrap_i64 _ (by omega)];obtain ⟨hcl,⟨_,h0,_⟩|⟨b,cap,cs,rfl,rfl,hsz,hle,hcs⟩⟩:=hv
 ·omega
 have hkeep0:(vs.take (i+1)).filter (λv=> !f v)=vs.take i:=by
  rw [take_snoc hi,List.filter_append,List.filter_eq_self.2 (λv hv=>by simp [hA v hv])];simp [hf]
 refine loop (λn s I' L'=>Ext I I'∧∃(j q:Nat) (W:Array Value) (G':LH),n+j=vs.length∧s=(.int .i64 q,.int .i64 j,())∧L'=[(b,Obj.cells W 253 (0,0))]++(G'++F)∧J (vs.take j) I' G'∧q < j∧W.size=cap * 4∧q=((vs.take j).filter (λv=> !f v)).length∧
   (∀(k:Nat) (u:Value),(Dl ((vs.take j).filter (λv=> !f v)))[k]? =some u→W[k]? =some u)∧(∀(k:Nat) (u:Value),j * 4≤k→(Dl vs)[k]? =some u→W[k]? =some u)) (vs.length - (i+1))
  ⟨hI1,i+1,i,cs,G1,by omega,by simp,rfl,hJ1,by omega,hsz,by rw [hkeep0,List.length_take];omega,λk u hu=>?_,λk u _ hu=>hcs k u hu⟩ ?_
 ·rw [hkeep0] at hu;refine hcs k u ?_;rw [show Dl vs=Dl (vs.take i)++Dl (vs.drop i) by rw [←Fk,List.take_append_drop],List.getElem?_append_left (List.getElem?_eq_some_iff.1 hu).1];exact hu
 rintro n s I' L' ⟨hI,j,q,W,G',hnj,rfl,rfl,hj,hqj,hW,hq,hA1,hA2⟩;unfold UZ;try refine O ?_
 refine AF (λe=>?_) (λe=>?_)
 ·have hjl:j < vs.length:=by simpa using e
  simp only [HP b 0 4 .i64 vs.length cap (j:Int) (by omega) (by omega),Int.toNat_natCast,SSd,Nat.reduceAdd];refine rdN (vs:=ET vs[j]) rfl (λk u hu=>Cell.own (List.mem_append_left _ (List.mem_singleton.2 rfl)) (hA2 _ u (by omega) (Wb hjl hu))) ?_;refine AQ (λbv=>?_);refine stB (vs:=ET vs[j]) rfl rfl (AH rfl) ?_;refine rdB (l:=ET vs[j]) rfl ?_;refine Oe hc.ent (Cal.gh (Cal.perm (L':=G'++((bv,.cells (ET vs[j]).toArray 253 (0,0))::(b,Obj.cells W 253 (0,0))::F)) (AO (by ((try simp only [AJ,AM,AU,AP]);(try ac_rfl)))) (hc.step (vs.take j) vs[j] (vs.drop (j+1)) _ _ _ _ (GT hjl) hj (λI2 G2 hI2 h2'=>
   Gh.perm (L':=(bv,.cells (ET vs[j]).toArray 253 (0,0))::(b,Obj.cells W 253 (0,0))::(G2++F)) (AO (by ((try simp only [AJ,AM,AU,AP]);(try ac_rfl)))) (Gh.done (Gh.done ?_))))))
  rw [←take_snoc hjl] at h2';have hfil:(vs.take (j+1)).filter (λv=> !f v)=if f vs[j]=true then (vs.take j).filter (λv=> !f v) else (vs.take j).filter (λv=> !f v)++[vs[j]]:=by
   rw [take_snoc hjl,List.filter_append];by_cases hfj:f vs[j]=true <;> simp [hfj]
  try refine O ?_
  refine AF (λe2=>?_) (λe2=>?_)
  ·have e2':f vs[j]=false:=by simpa using e2
   rw [if_neg (by rw [e2'];simp)] at hfil;refine rdB (l:=ET vs[j]) rfl ?_;simp only [HP b 0 4 .i64 vs.length cap (q:Int) (by omega) (by omega),Int.toNat_natCast,SSd,Nat.reduceAdd];have hkl:(Dl ((vs.take j).filter (λv=> !f v))).length=q * 4:=by rw [JE,hq]
   have hfit:q * 4+(ET vs[j]).length≤W.size:=by rw [hW];simp [ET];omega
   refine ⟨b,q * 4,W,253,[(bv,.cells (ET vs[j]).toArray 253 (0,0))],G2++F,rfl,rfl,AH rfl,by rw [hW];omega,rfl,?_⟩;unfold KZ;try refine O ?_
   rw [wrap_i64 _ (by omega),wrap_i64 _ (by omega)];refine Gh.to ((b,Obj.cells (wr W (q * 4) (ET vs[j])) 253 (0,0))::(G2++F)) (Gh.done (Gh.done ⟨n - 1,by omega,hI.trans hI2,j+1,q+1,_,G2,by omega,rfl,rfl,h2',by omega,by rw [Bh];exact hW,by rw [hfil,List.length_append,←hq];rfl,λk u hu=>?_,λk u hk hu=>?_⟩))
   ·rw [hfil,Fk] at hu;rw [Cc _ _ _ _ hfit];by_cases hk:k < q * 4
    ·rw [if_pos hk];rw [List.getElem?_append_left (by omega)] at hu;exact hA1 k u hu
    ·rw [List.getElem?_append_right (by omega),hkl] at hu;have hlt:=(List.getElem?_eq_some_iff.1 hu).1;have e4:Dl [vs[j]]=ET vs[j]:=by simp [Dl]
     rw [e4] at hu hlt;rw [if_neg hk,if_pos (by omega)];exact hu
   ·rw [Cc _ _ _ _ hfit,if_neg (by omega),if_neg (by simp [ET];omega)];exact hA2 k u (by omega) hu
  ·have e2':f vs[j]=true:=by simpa using e2
   rw [if_pos e2'] at hfil;unfold KZ;try refine O ?_
   rw [wrap_i64 _ (by omega)];refine Gh.to ((b,Obj.cells W 253 (0,0))::(G2++F)) (Gh.done ⟨n - 1,by omega,hI.trans hI2,j+1,q,W,G2,by omega,rfl,rfl,h2',by omega,hW,by rw [hfil];exact hq,by rw [hfil];exact hA1,λk u hk hu=>hA2 k u (by omega) hu⟩)
 ·have hjl:j=vs.length:=by simp at e;omega
  subst hjl;rw [List.take_length] at hj hA1 hq;unfold UY;have s1:=IU (b:=b) (off:=0) (len:=vs.length) (cap:=cap) (lo:=q) (hi:=vs.length) (n:=4) (blo:=some (.int .i64 q)) (bhi:=none) (BI _ _ _ _ (by omega)) rfl (by omega);have s2:=IU (b:=b) (off:=0) (len:=vs.length) (cap:=cap) (lo:=0) (hi:=q) (n:=4) (blo:=none) (bhi:=some (.int .i64 q)) rfl (BI _ _ _ _ (by omega)) (by omega);simp only [s1,SSd,Nat.reduceAdd];refine .inr ⟨b,_,vs.length - q,cap - q,W,253,[],G'++F,rfl,rfl,by rw [hW];simp;omega,AH rfl,Gh.done ?_⟩;simp only [Nat.sub_zero,Nat.zero_mul,Nat.add_zero] at s2;simp only [s2,SSd,Nat.reduceAdd];have hzl:(Builtin.zeroCells #[Value.int .i64 0,.int .i64 0,.bool false,.string (ByteArray.mk #[])] (vs.length - q)).toList.length=(vs.length - q) * 4:=by
   rw [Array.length_toList,CR];rfl
  generalize hz:(Builtin.zeroCells #[Value.int .i64 0,.int .i64 0,.bool false,.string (ByteArray.mk #[])] (vs.length - q)).toList=z at hzl ⊢;refine Gh.done (hk I' G' [(b,.cells (wr W (q * 4) z) 253 (0,0))] _ hI hj ⟨by rw [JE],.inr ⟨b,cap,_,rfl,?_,by rw [Bh];exact hW,by omega,λk u hu=>?_⟩⟩)
  ·rw [←hq]
  ·have hlt:=(List.getElem?_eq_some_iff.1 hu).1;rw [JE,←hq] at hlt;rw [Cc _ _ _ _ (by rw [hW,hzl];omega),if_pos hlt];exact hA1 k u hu
def NoteR (I:Imm)(b m ch:Nat)(kv:Value)(fl:TStamp)(X:LH)(nt:Nts):Prop:=∃NX,X.Perm ((b,spO m kv fl ch)::NX)∧NtR I ch NX nt
theorem NoteR.mono {I I':Imm}{b m ch:Nat}{kv:Value}{fl:TStamp}{X:LH}{nt:Nts}(h:NoteR I b m ch kv fl X nt)(hI:Ext I I'):NoteR I' b m ch kv fl X nt:=by
 obtain ⟨NX,h1,h2⟩:=h;exact ⟨NX,h1,h2.mono hI⟩
theorem OH {b m ch:Nat}{kv a1 a2:Value}{fl:TStamp}{X F:LH}{nt:Nts}{d:Bool}{k l:List UInt8}(hN:NoteR I b m ch kv fl X nt)(h1:Bytes I a1 k)(h2:Bytes I a2 l)
  (hk:∀X',NoteR I b m ch kv fl X' (Cj nt k (d,l))→K (.tuple #[]) I (X'++F)):CT ω 187 #[pt b,a1,a2,.bool d] K I (X++F):=by
 obtain ⟨NX,hp,hN⟩:=hN;refine Cal.gh (Cal.perm (L':=(b,spO m kv fl ch)::(NX++F)) (AO (by rw [AM,BQ hp];((try simp only [AJ,AM,AU,AP]);(try ac_rfl)))) (OE hN h1 h2 λNX' h'=>?_));exact Gh.perm (L':=((b,spO m kv fl ch)::NX')++F) (AO (by ((try simp only [AJ,AM,AU,AP]);(try ac_rfl)))) (Gh.done (hk _ ⟨NX',List.Perm.refl _,h'⟩))
theorem OG {b m ch:Nat}{kv:Value}{fl:TStamp}{X F:LH}{nt:Nts}{k:List UInt8}{v:TVer}(hN:NoteR I b m ch kv fl X nt)(hr:AN v.fAt=true)(hl:k.length≤1000000000)
  (hk:∀X' I',Ext I I'→NoteR I' b m ch kv fl X' (Cj nt (CH k v) (true,[]))→K (.tuple #[]) I' (X'++F)):
  CT ω 188 #[pt b,BS k,vv v] K I (X++F):=by
 refine AKz ?_;unfold AAp;refine AQ (λq=>?_);refine rdB rfl ?_;refine Bu (JD hr hl (λX1 u I1 hI1 hX=>?_));refine OB.freeze hX (λI2 hI2 hB=>Gh.done ?_);refine call (Cal.to (X++F) ?_);refine OH (hN.mono (hI1.trans hI2)) hB (show Bytes I2 _ [] from SlI.nil I2 1 none 0) (λX' h'=>?_);exact Gh.done (hk X' I2 (hI1.trans hI2) h')
theorem SpP.open2 {b:Nat}{ps:List Nat}{X:LH}{A B:List Row}{r:Row}{fl:TStamp}{nt:Nts}{k:List UInt8}(h:SpP I b ps X ⟨A++r::B,fl⟩ nt)(hm:Mid A k B)(hk:r.key=k):
  ∃p sl Y XN R m ch kv,X.Perm ((p,Ay sl r.it)::(Y++(XN++R)))∧VsO Y sl r.vs∧NoteR I b m ch kv fl XN nt∧
   (∀I' r' sl' Y' XN' X' nt',Ext I I'→r'.key=k→VsO Y' sl' r'.vs→NoteR I' b m ch kv fl XN' nt'→X'.Perm ((p,Ay sl' r'.it)::(Y'++(XN'++R)))→SpP I' b ps X' ⟨A++r'::B,fl⟩ nt')∧
   (∀L',(∀x∈X,x∈L')→∃m kv es clock,ViewF I L' b m kv es clock ps ⟨A++r::B,fl⟩∧BA ps (A++r::B) k=some (pt p)):=by
 obtain ⟨m,ch,kv,es,clock,KX,RX,NX,hp,hF⟩:=h;obtain ⟨P,p,Q,rfl,hl,hl2⟩:=IR hF.rows.len;obtain ⟨sl,Y,Z,h1,h2,h3⟩:=RowsR.pick hl hF.rows;refine ⟨p,sl,Y,(b,spO m kv fl ch)::NX,(m,.map es clock)::(KX++Z),m,ch,kv,AO ?_,h2,⟨NX,List.Perm.refl _,hF.nts⟩,λI' r' sl' Y' XN' X' nt' hI hk' hv hN hX=>?_,λL' hL=>?_⟩
 ·rw [BQ hp];simp only [AJ,AM,BQ h1]
  ((try simp only [AJ,AM,AU,AP]);(try ac_rfl))
 ·obtain ⟨NX',hq,hN'⟩:=hN;refine ⟨m,ch,kv,es,clock,KX,(p,Ay sl' r'.it)::(Y'++Z),NX',AO ?_,?_,?_,?_,hN'⟩
  ·rw [BQ hX];simp only [AJ,AM,BQ hq];((try simp only [AJ,AM,AU,AP]);(try ac_rfl))
  ·have:=hF.map;rw [show BA (P++p::Q) (A++r'::B)=BA (P++p::Q) (A++r::B) from KB hl (hk ▸ hm) (hk'.trans hk.symm)];exact this
  ·have e:keysOf (A++r'::B)=keysOf (A++r::B):=by simp [keysOf,hk',hk]
   show StrO KX kv (keysOf (A++r'::B));rw [e];exact hF.keys
  ·exact RowsR.put hl (List.Perm.refl _) hv h3
 ·refine ⟨m,kv,es,clock,?_,De hl hm hk⟩;have hmem:∀x,x∈((b,spO m kv fl ch)::(m,Obj.map es clock)::(KX++(RX++NX)))→x∈L':=λx hx=>hL _ (hp.mem_iff.2 hx);exact ⟨Ch (hmem _ (List.mem_cons_self ..)) 4,.inl (hmem _ (by simp)),hF.map,StrO.rl hF.keys (λx hx=>hmem _ (by simp [hx])),hF.rows.len,hF.rows.cell (λx hx=>hmem _ (by simp [hx]))⟩
def OS (k:List UInt8)(l:List TVer)(nt:Nts):Nts:=l.foldl (λnt v=>Cj nt (CH k v) (true,[])) nt
abbrev Mn (bl bd bg bs bk b:Nat)(kp:TVer)(g:Nat)(k:List UInt8)(XN:LH):LH:=
 (bl,stO kp.fAt)::(bd,.cells #[.bool kp.fDel] 4 (0,0))::(bg,.cells #[.int .i64 g] 3 (0,0))::(bs,.cells #[pt b] 99 (0,0))::(bk,.cells #[BS k] 9 (0,0))::XN
theorem AMr {bl bd bg bs bk b m ch g0:Nat}{kv:Value}{fl:TStamp}{kp:TVer}{k:List UInt8}{vs:List TVer}{nt:Nts}(hvs:∀v∈vs,AN v.fAt=true)(hg:g0+vs.length≤1000000000)(hkl:k.length≤1000):
  Clo ω 224 #[pt bl,pt bd,pt bg,pt bs,pt bk] (CE kp) vs (λdone I G=>∃XN,G=Mn bl bd bg bs bk b kp (g0+(done.filter (CE kp)).length) k XN∧NoteR I b m ch kv fl XN (OS k (done.filter (CE kp)) nt)):=by
 refine ⟨by kernel_rfl,λdone I I' G ⟨XN,h1,h2⟩ hI=>⟨XN,h1,h2.mono hI⟩,?_⟩;rintro done v rest I G L K hv ⟨XN,rfl,hN⟩ hk;have hvr:=hvs v (by rw [hv];simp);have hfl:(done.filter (CE kp)).length≤done.length:=List.length_filter_le ..;have hlen:done.length+1≤vs.length:=by rw [hv];simp
 show CT ω 224 #[vv v,pt bl,pt bd,pt bg,pt bs,pt bk] K I _;refine AKi ?_;unfold AAL;refine AQ (λq=>?_);have hfilt:(done++[v]).filter (CE kp)=if CE kp v=true then done.filter (CE kp)++[v] else done.filter (CE kp):=by
  rw [List.filter_append];by_cases h:CE kp v=true <;> simp [h]
 rw [hfilt] at hk;have old:∀(ho:CE kp v=true) (p7 p8:Value),p8= .bool true→KY ω (pt bg) (pt bs) (pt bk) (pt q) p7 p8 (λv=>Gh (K v)) I ((q,Ok v)::(Mn bl bd bg bs bk b kp (g0+(done.filter (CE kp)).length) k XN++L)):=by
  rintro ho p7 p8 rfl;rw [ho] at hk;simp only [if_true] at hk;unfold KY;simp only [Mn,List.cons_append];refine rdb ?_;try refine O ?_
  rw [wrap_i64 _ (by omega)];refine st1 rfl ?_;refine rdb ?_;refine rdb ?_;refine rdB rfl ?_;refine call (Cal.perm (L':=XN++((q,Ok v)::(bl,stO kp.fAt)::(bd,.cells #[.bool kp.fDel] 4 (0,0))::(bg,.cells #[.int .i64 ((g0+(done.filter (CE kp)).length:Nat)+1)] 3 (0,0))::(bs,.cells #[pt b] 99 (0,0))::(bk,.cells #[BS k] 9 (0,0))::L)) (AO (by ((try simp only [AJ,AM,AU,AP]);(try ac_rfl)))) ?_);refine OG hN hvr (by omega) (λX' I' hI' h'=>?_);have h:=hk I' (Mn bl bd bg bs bk b kp (g0+(done.filter (CE kp)++[v]).length) k X') hI' ⟨X',rfl,by unfold OS;rw [List.foldl_append];exact h'⟩;have e:((g0+(done.filter (CE kp)++[v]).length:Nat):Int)=((g0+(done.filter (CE kp)).length:Nat):Int)+1:=by simp;omega
  simp only [Mn,List.cons_append] at h;rw [e] at h;exact Gh.to ((bl,stO kp.fAt)::(bd,.cells #[.bool kp.fDel] 4 (0,0))::(bg,.cells #[.int .i64 ((g0+(done.filter (CE kp)).length:Nat)+1)] 3 (0,0))::(bs,.cells #[pt b] 99 (0,0))::(bk,.cells #[BS k] 9 (0,0))::(X'++L)) (Gh.done h)
 have new:∀(ho:CE kp v=false),Gh (K (.bool false)) I ((q,Ok v)::(Mn bl bd bg bs bk b kp (g0+(done.filter (CE kp)).length) k XN++L)):=by
  intro ho;rw [ho] at hk;exact Gh.drop (List.sublist_cons_self ..) (Gh.done (hk I _ (Ext.refl _) ⟨XN,rfl,hN⟩))
 simp only [Mn,List.cons_append] at old new ⊢;refine rdB rfl ?_;try refine O ?_
 refine rdP [.int .i64 v.fAt.fWall,.int .i64 v.fAt.fLogic] rfl rfl ?_;refine call (BF (x:=kp.fAt) (y:=v.fAt) ?_);refine AV (λe=>?_) (λe=>?_)
 ·refine rdb ?_;refine AV (λe2=>?_) (λe2=>?_)
  ·try refine O ?_
   refine rdP [.int .i64 v.fAt.fWall,.int .i64 v.fAt.fLogic] rfl rfl ?_;refine rdB rfl ?_;try refine O ?_
   refine AF (λe3=>?_) (λe3=>?_)
   ·exact old (by simp only [CE];rw [e2,e3];simp) _ _ (by rw [e3])
   ·have h:=new (by simp only [CE];rw [e,e3];simp);rw [e3];exact h
  ·exact new (by simp only [CE];rw [e,Bool.eq_false_iff.2 e2];simp)
 ·have e':bhd kp.fAt v.fAt=true:=by simpa using e
  exact old (by simp only [CE];rw [e'];simp) _ _ rfl
end
def Hy (fl:TStamp)(rows:List Row)(i:Nat):List Row:=Bq ((rows.take i).map (CQ fl))++rows.drop i
def Jx (fl:TStamp)(r:Row):Nat:=r.vs.length - (CQ fl r).vs.length
def Ec (fl:TStamp)(rows:List Row):Nat:=(rows.map (Jx fl)).sum
def Pf (fl:TStamp)(nt:Nts)(r:Row):Nts:=match upTo r.vs fl with
 |none=>nt
 |some k=>OS r.key (r.vs.filter (CE k)) nt
def Fe (fl:TStamp)(rows:List Row)(nt:Nts):Nts:=rows.foldl (Pf fl) nt
def Px (sp:Sp)(b:TStamp)(nt:Nts):Nts:=if AN b=false then nt else Fe (Cy sp b) sp.rows (if bhd b sp.floor=true then Cj nt [102] (false,stF b) else nt)
theorem AEa {fl:TStamp}{rows:List Row}(hs:SrtK (keysOf rows))(i:Nat):SrtK (keysOf (Hy fl rows i)):=by
 have h:(keysOf (Hy fl rows i)).Sublist (keysOf rows):=by
  unfold Hy;conv=>rhs;rw [←List.take_append_drop i rows]
  simp only [keysOf,List.map_append];refine List.Sublist.append ?_ (List.Sublist.refl _);have e:(rows.take i).map (·.key)=((rows.take i).map (CQ fl)).map (·.key):=by rw [List.map_map];exact List.map_congr_left λx _=>(Gr fl x).symm
  rw [e];exact List.Sublist.map _ List.filter_sublist
 exact List.Pairwise.sublist h hs
theorem AIR {fl:TStamp}{rows:List Row}{i:Nat}(hi:i < rows.length):Hy fl rows i=Bq ((rows.take i).map (CQ fl))++rows[i]::rows.drop (i+1):=by
 unfold Hy;rw [List.drop_eq_getElem_cons hi]
theorem YD {fl:TStamp}{rows:List Row}{i:Nat}(hi:i < rows.length):Hy fl rows (i+1)=if BR (CQ fl rows[i])=true then Bq ((rows.take i).map (CQ fl))++rows.drop (i+1) else Bq ((rows.take i).map (CQ fl))++CQ fl rows[i]::rows.drop (i+1):=by
 unfold Hy;rw [take_snoc hi,List.map_append];unfold Bq;rw [List.filter_append];by_cases h:BR (CQ fl rows[i])=true <;> simp [h]
theorem AEO (fl:TStamp)(r:Row):Jx fl r+(CQ fl r).vs.length=r.vs.length:=by
 have:=(Ip fl r).length_le;unfold Jx;omega
theorem Mg {α:Type}(f:α→Bool):∀l:List α,(l.filter f).length+(l.filter λx=> !f x).length=l.length
 |[]=>rfl
 |x::l=>by
  have:=Mg f l;by_cases h:f x=true <;> simp [h] <;> omega
theorem TY {fl:TStamp}{r:Row}{k:TVer}(h:upTo r.vs fl=some k):Jx fl r=(r.vs.filter (CE k)).length:=by
 have e:(CQ fl r).vs=r.vs.filter λv=> !CE k v:=by unfold CQ;rw [h]
 have:=Mg (CE k) r.vs;unfold Jx;rw [e];omega
theorem TZ {fl:TStamp}{r:Row}(h:upTo r.vs fl=none):Jx fl r=0:=by
 have e:(CQ fl r).vs=r.vs:=by unfold CQ;rw [h]
 unfold Jx;rw [e];omega
theorem SU (rows:List Row):Ac (Bq rows)=Ac rows:=by
 induction rows with
 |nil=>rfl
 |cons r rs ih=>
  unfold Bq Ac at *;rw [List.filter_cons];by_cases h:BR r=true
  ·have hv:r.vs=[]:=by
    simp [BR] at h;exact h.1
   simp [h,hv];exact ih
  ·simp [h];exact ih
theorem LF (fl:TStamp)(rows:List Row):Ac (rows.map (CQ fl))+Ec fl rows=Ac rows:=by
 induction rows with
 |nil=>rfl
 |cons r rs ih=>
  have:=AEO fl r;simp [Ac,Ec] at ih ⊢;omega
theorem Ta {fl:TStamp}{rows:List Row}{i:Nat}(hi:i < rows.length):Ec fl (rows.take (i+1))=Ec fl (rows.take i)+Jx fl rows[i]:=by
 unfold Ec;rw [take_snoc hi,List.map_append,List.sum_append];simp only [List.map_cons,List.map_nil,List.sum_cons,List.sum_nil,Nat.add_zero]
theorem TM {fl:TStamp}{rows:List Row}{i:Nat}(hi:i < rows.length)(nt:Nts):Fe fl (rows.take (i+1)) nt=Pf fl (Fe fl (rows.take i) nt) rows[i]:=by
 unfold Fe;rw [take_snoc hi,List.foldl_append];rfl
section
variable {ω:Om}{I:Imm}{L:LH}{K:Value→M}
theorem OY {b bl bd bg bb bs bk p:Nat}{kp:TVer}{g i:Nat}{k:List UInt8}{A B:List Row}{r:Row}{fl below:TStamp}{nt:Nts}{ps:List Nat}{sl:Value}{Y XN R XC F:LH}{m ch:Nat}{kv:Value}{Kn0:(Value×Unit)→M}
  (hm:Mid A k B) (hkr:r.key=k) (hs:SrtK (keysOf (A++r::B))) (hlen:(A++r::B).length≤100000000) (hvs:∀v∈r.vs,AN v.fAt=true) (hg:g+r.vs.length≤1000000000) (hkl:k.length≤1000) (hi:i < 1000000000)
  (hv:VsO Y sl r.vs) (hN:NoteR I b m ch kv fl XN nt)
  (hclose:∀I' r' sl' Y' XN' X' nt',Ext I I'→r'.key=k→VsO Y' sl' r'.vs→NoteR I' b m ch kv fl XN' nt'→X'.Perm ((p,Ay sl' r'.it)::(Y'++(XN'++R)))→SpP I' b ps X' ⟨A++r'::B,fl⟩ nt')
  (hL:L.Perm ((p,Ay sl r.it)::(Y++(Mn bl bd bg bs bk b kp g k XN++((bb,stO below)::(R++(XC++F)))))))
  (hk:∀I' X',Ext I I'→SpR I' b X' ⟨if BR ⟨k,r.vs.filter (λv=> !CE kp v),r.it⟩=true then A++B else A++⟨k,r.vs.filter (λv=> !CE kp v),r.it⟩::B,fl⟩ (OS k (r.vs.filter (CE kp)) nt)→
   Gh (Kn0 (.int .i64 ((i:Int)+1),())) I' ((bg,.cells #[.int .i64 ((g+(r.vs.filter (CE kp)).length:Nat):Int)] 3 (0,0))::(bb,stO below)::(bs,.cells #[pt b] 99 (0,0))::(XC++(X'++F)))):
  Ke ω (pt bs) (pt bg) (pt bk) (pt p) (pt bl) (pt bd) (.int .i64 i) (λs=>Gh (Kn0 s)) (λv=>Gh (K v)) I L:=by
 have hmem:(p,Ay sl r.it)∈L:=hL.mem_iff.2 (List.mem_cons_self ..);unfold Ke;try refine O ?_
 refine rd1 (Cell.own hmem rfl) ?_;have hvl:r.vs.length≤1000000000:=by omega
 refine Bu (Cal.perm (L':=Y++(Mn bl bd bg bs bk b kp g k XN++((p,Ay sl r.it)::(bb,stO below)::(R++(XC++F))))) (AO (by rw [BQ hL];((try simp only [AJ,AM,AU,AP]);(try ac_rfl)))) ?_);refine Xv (G:=Mn bl bd bg bs bk b kp g k XN) (AMr (nt:=nt) (m:=m) (ch:=ch) (kv:=kv) (fl:=fl) (g0:=g) hvs hg hkl) hv hvl ⟨XN,rfl,hN⟩ (λI' G' Y' v' hI ⟨XN',hG',hN'⟩ hv'=>?_);subst hG';obtain ⟨sa,sc,rfl⟩:=hv'.form;refine Gh.perm (L':=(p,Ay sl r.it)::(Y'++(Mn bl bd bg bs bk b kp (g+(r.vs.filter (CE kp)).length) k XN'++((bb,stO below)::(R++(XC++F)))))) (AO (by ((try simp only [AJ,AM,AU,AP]);(try ac_rfl)))) (Gh.done ?_);try refine O ?_
 refine st1 rfl ?_;have hS2:=hclose I' ⟨k,r.vs.filter (λv=> !CE kp v),r.it⟩ _ Y' XN' ((p,Ay (.slice sa (r.vs.filter (λv=> !CE kp v)).length sc) r.it)::(Y'++(XN'++R))) _ hI rfl hv' hN' (List.Perm.refl _);refine rdb ?_;refine rdb ?_;refine call (Cal.perm (L':=((p,Ay (.slice sa (r.vs.filter (λv=> !CE kp v)).length sc) r.it)::(Y'++(XN'++R)))++((bl,stO kp.fAt)::(bd,.cells #[.bool kp.fDel] 4 (0,0))::(bg,.cells #[.int .i64 ((g+(r.vs.filter (CE kp)).length:Nat):Int)] 3 (0,0))::(bs,.cells #[pt b] 99 (0,0))::(bk,.cells #[BS k] 9 (0,0))::(bb,stO below)::(XC++F))) (AO (by ((try simp only [AJ,AM,AU,AP]);(try ac_rfl)))) ?_);refine Nd ⟨ps,hS2⟩ hm rfl (by rw [HO (r:=r) hkr.symm];exact hs) (by simpa using hlen) (λX3 h3=>?_);unfold Kf;try refine O ?_
 rw [wrap_i64 _ (by omega)];refine Gh.to ((bg,.cells #[.int .i64 ((g+(r.vs.filter (CE kp)).length:Nat):Int)] 3 (0,0))::(bb,stO below)::(bs,.cells #[pt b] 99 (0,0))::(XC++(X3++F))) ?_;exact hk I' X3 hI h3
theorem YC (fl:TStamp)(rows:List Row):Hy fl rows 0=rows:=by simp [Hy,Bq]
theorem AEc (fl:TStamp)(rows:List Row):Hy fl rows rows.length=Bq (rows.map (CQ fl)):=by simp [Hy]
theorem AEb (fl:TStamp)(rows:List Row)(i:Nat):(Hy fl rows i).length≤rows.length:=by
 unfold Hy Bq;rw [List.length_append];have h1:=List.length_filter_le (λr=> !BR r) ((rows.take i).map (CQ fl));simp at h1 ⊢;omega
abbrev YB (b bs bb bg:Nat)(below:TStamp)(g:Nat)(R:LH):LH:=(bg,.cells #[.int .i64 g] 3 (0,0))::(bb,stO below)::(bs,.cells #[pt b] 99 (0,0))::R
theorem OZ {b bs bb:Nat}{rows:List Row}{fl below:TStamp}{nt:Nts}{X F:LH}(hS:SpR I b X ⟨rows,fl⟩ nt)(hok:SpOk ⟨rows,fl⟩)(hlen:rows.length≤100000000)(hn:Ac rows≤100000000)
  (hk:∀I' X',Ext I I'→SpR I' b X' ⟨Bq (rows.map (CQ fl)),fl⟩ (Fe fl rows nt)→K (.tuple #[.int .i64 (Ec fl rows:Nat),.int .i64 0]) I' (X'++F)):
  Kg ω (pt bs) (.int .i64 0) (.int .i64 0) (λv=>Gh (K v)) I ((bb,stO below)::(bs,.cells #[pt b] 99 (0,0))::(X++F)):=by
 have hs:=hok.rise;simp only at hs
 unfold Kg;refine AQ (λbg=>?_);refine st1 rfl ?_;refine rdb ?_;obtain ⟨m0,kv0,es0,clock0,ps0,hV0⟩:=hS.view (L:=(bg,.cells #[.int .i64 0] 3 (0,0))::(bb,stO below)::(bs,.cells #[pt b] 99 (0,0))::(X++F)) (λx hx=>by simp [hx]);try refine O ?_
 refine rdC (hV0.head 1 _ rfl) (Ext.refl _) ?_;have hkl:(keysOf rows).length=rows.length:=by simp [keysOf]
 refine Bu (Hz hV0.keys (by show (keysOf rows).length * 16≤_;rw [hkl];omega) (λXC cv hC=>Gh.perm (L':=YB b bs bb bg below 0 (XC++(X++F))) (AO (by ((try simp only [AJ,AM,AU,AP]);(try ac_rfl)))) (Gh.done ?_)));obtain ⟨ca,cc,rfl⟩:=hC.form;try refine O ?_
 simp only at hC ⊢
 rw [hkl];have hgt:∀i,Ec fl (rows.take i)≤100000000:=by
  intro i;have h1:=LF fl (rows.take i);have h2:Ac (rows.take i)≤Ac rows:=FX (List.take_sublist ..);omega
 refine loop (λn s I' L'=>Ext I I'∧∃(i:Nat) (X':LH),n+i=rows.length∧s=(.int .i64 i,())∧L'=YB b bs bb bg below (Ec fl (rows.take i)) (XC++(X'++F))∧SpR I' b X' ⟨Hy fl rows i,fl⟩ (Fe fl (rows.take i) nt)) rows.length
  ⟨Ext.refl _,0,X,rfl,rfl,rfl,by rw [YC];exact hS⟩ ?_
 rintro n s I' L' ⟨hI,i,X',hni,rfl,rfl,hS'⟩;unfold VG;try refine O ?_
 refine AF (λe=>?_) (λe=>?_);rotate_left
 ·have hil:i=rows.length:=by simp at e;omega
  subst hil;rw [List.take_length] at hS' ⊢;rw [AEc] at hS';unfold VF;refine rdb ?_;exact Gh.to (X'++F) (Gh.done (hk I' X' hI hS'))
 have hil:i < rows.length:=by simpa using e
 have hok1:=hok.rows rows[i] (List.getElem_mem hil);have hat:=AIR (fl:=fl) hil;have hsrt:SrtK (keysOf (Bq ((rows.take i).map (CQ fl))++rows[i]::rows.drop (i+1))):=hat ▸ AEa hs i;have hclen:(Bq ((rows.take i).map (CQ fl))++rows[i]::rows.drop (i+1)).length≤100000000:=by rw [←hat];exact Nat.le_trans (AEb ..) hlen
 rw [hat] at hS';have hsucc:=YD (fl:=fl) hil;have hgc:=Ta (fl:=fl) hil;have hnc:=TM (fl:=fl) hil nt;have hgi:=hgt i;have hgs:=hgt (i+1);have hvl:rows[i].vs.length≤100000000:=by
  have h1:Ac [rows[i]]≤Ac rows:=FX (List.singleton_sublist.2 (List.getElem_mem hil));simp [Ac] at h1 hn ⊢;omega
 have hkeyg:Dk (keysOf rows) (i:Int)=rows[i].key:=by rw [AX (by omega)];simp [keysOf]
 generalize rows[i]=r at *;have hm:=hsrt.mid;obtain ⟨ps,hS'⟩:=hS';obtain ⟨p,sl,Y,XN,R,m,ch,kv,hp,hv,hN,hclose,hview⟩:=hS'.open2 hm rfl;obtain ⟨qq,off,c2,hix,hl4,hcc,hcr⟩:=RL.ix (StrO.rl (I:=I') (L:=XC) hC (λ_ h=>h)) (i:=(i:Int)) (by omega) (by rw [hkl];omega);obtain rfl:c2=_:=hcc;rw [hkeyg] at hcr;rw [hkl] at hix;simp only [hix,SSd,Nat.reduceAdd];refine rdC (hcr I' XC (Ext.refl _) (λ_ h=>h) 0 _ rfl) (Ext.refl _) ?_;refine AQ (λbk=>?_);refine st1 rfl ?_;refine AZ ?_
 obtain ⟨m',kv',es',clock',hV,hcp⟩:=hview ((bk,.cells #[BS r.key] 9 (0,0))::YB b bs bb bg below (Ec fl (rows.take i)) (XC++(X'++F))) (λx hx=>by simp [hx]);refine Ab ?_;try refine O ?_
 refine Av (hV.head 0 _ rfl) (Ext.refl _) ?_;refine Ab ?_;refine ⟨_,λI2 L2 hS=>FP (MapAt.mono hV.at' hS.1 (λx hx=>hS.2 _ (by simpa using hx))) hV.map,?_⟩;simp only [hcp,lkV,Bool.false_eq_true,if_false,SSd,Nat.reduceAdd];refine rdb ?_;try refine O ?_
 have hfl:Cells I' ((bk,.cells #[BS r.key] 9 (0,0))::YB b bs bb bg below (Ec fl (rows.take i)) (XC++(X'++F))) b 2 [.int .i64 fl.fWall,.int .i64 fl.fLogic]:=by simpa using hV.head.sub (k:=2) (m:=2)
 refine FT hfl (Ext.refl _) rfl ?_;refine call (AIc (hV.cellAt hsrt (Bn hm rfl) hcp) (by omega) (λpv hpv=>?_));cases hu:upTo r.vs fl with
 |none=>
  rw [hu] at hpv;obtain rfl:pv= .pointer none:=hpv;have en:CK .eql (.pointer none) (.pointer none)=some (.bool true):=rfl;simp only [en,SSd,Nat.reduceAdd];unfold Kf;try refine O ?_
  rw [wrap_i64 _ (by omega)];have hc:CQ fl r=r:=by unfold CQ;rw [hu]
  rw [hc,hok1.some] at hsucc;have hg0:=TZ hu;rw [hg0] at hgc;have hn1:Fe fl (rows.take (i+1)) nt=Fe fl (rows.take i) nt:=by rw [hnc];unfold Pf;rw [hu]
  refine Gh.to (YB b bs bb bg below (Ec fl (rows.take i)) (XC++(X'++F))) (Gh.done ⟨n - 1,by omega,hI,i+1,X',by omega,rfl,by rw [hgc];rfl,?_⟩);rw [hn1,hsucc];exact ⟨ps,hS'⟩
 |some kp=>
  rw [hu] at hpv;obtain ⟨qq,off2,rfl,hc⟩:=hpv;obtain ⟨g1,g2,g3⟩:=Nb hc;try refine O ?_
  refine AZ ?_
  refine Bo g1 (Ext.refl _) rfl ?_;refine Av g2 (Ext.refl _) ?_;have hcv:CQ fl r=⟨r.key,r.vs.filter (λv=> !CE kp v),r.it⟩:=by unfold CQ;rw [hu]
  have hg0:=TY hu;rw [hcv] at hsucc;rw [hg0] at hgc;have hn1:Fe fl (rows.take (i+1)) nt=OS r.key (r.vs.filter (CE kp)) (Fe fl (rows.take i) nt):=by rw [hnc];unfold Pf;rw [hu]
  have fin:∀I2 X2,Ext I' I2→SpR I2 b X2 ⟨if BR ⟨r.key,r.vs.filter (λv=> !CE kp v),r.it⟩=true then Bq ((rows.take i).map (CQ fl))++rows.drop (i+1) else Bq ((rows.take i).map (CQ fl))++⟨r.key,r.vs.filter (λv=> !CE kp v),r.it⟩::rows.drop (i+1),fl⟩ (OS r.key (r.vs.filter (CE kp)) (Fe fl (rows.take i) nt))→
    Gh ((λs'=>λI2 L2=>∃m',m' < n∧Ext I I2∧∃i X',m'+i=rows.length∧s'=(Value.int .i64 (i:Nat),())∧L2=YB b bs bb bg below (Ec fl (rows.take i)) (XC++(X'++F))∧SpR I2 b X' ⟨Hy fl rows i,fl⟩ (Fe fl (rows.take i) nt)) (.int .i64 ((i:Int)+1),())) I2 ((bg,.cells #[.int .i64 ((Ec fl (rows.take i)+(r.vs.filter (CE kp)).length:Nat):Int)] 3 (0,0))::(bb,stO below)::(bs,.cells #[pt b] 99 (0,0))::(XC++(X2++F))):=by
   intro I2 X2 hI2 h2;refine Gh.done ⟨n - 1,by omega,hI.trans hI2,i+1,X2,by omega,rfl,by rw [hgc],?_⟩;rw [hn1,hsucc];exact h2
  refine And.intro ?_ ?_
  ·refine AQ (λbl=>Bt (Ext.refl _) ?_);refine AQ (λbd=>Bt (Ext.refl _) ?_);refine stB rfl rfl (AH rfl) ?_;refine Bt (Ext.refl _) ?_;refine st1 rfl ?_;exact OY (XC:=XC) (Y:=Y) (XN:=XN) (R:=R) (g:=Ec fl (rows.take i)) (i:=i) (kp:=kp) (below:=below) (F:=F) hm rfl hsrt hclen (λv hv=>(hok1.vs v hv).right) (by omega) (by have:=hok1.keyL;omega) (by omega) hv hN hclose (AO (by simp only [AJ,AM,BQ hp];((try simp only [AJ,AM,AU,AP]);(try ac_rfl)))) fin
  ·refine AQ (λbd=>Bt (Ext.refl _) ?_);refine AQ (λbl=>Bt (Ext.refl _) ?_);refine stB rfl rfl (AH rfl) ?_;refine Bt (Ext.refl _) ?_;refine st1 rfl ?_;exact OY (XC:=XC) (Y:=Y) (XN:=XN) (R:=R) (g:=Ec fl (rows.take i)) (i:=i) (kp:=kp) (below:=below) (F:=F) hm rfl hsrt hclen (λv hv=>(hok1.vs v hv).right) (by omega) (by have:=hok1.keyL;omega) (by omega) hv hN hclose (AO (by simp only [AJ,AM,BQ hp];((try simp only [AJ,AM,AU,AP]);(try ac_rfl)))) fin
theorem Pu {b:Nat}{sp:Sp}{below:TStamp}{nt:Nts}{X F:LH}(hS:SpR I b X sp nt)(hok:SpOk sp)(hlen:sp.rows.length≤100000000)(hn:Ac sp.rows≤100000000)
  (hk:∀X' I',Ext I I'→SpR I' b X' (colS sp below) (Px sp below nt)→K (.tuple #[.int .i64 (Ha sp below).1,.int .i64 (Ha sp below).2]) I' (X'++F)):
  CT ω 162 #[pt b,sv below] K I (X++F):=by
 obtain ⟨rows,fl⟩:=sp;obtain ⟨ps,m,ch,kv,es,clock,KX,RX,NX,hp,hF⟩:=hS;simp only at hp hF hlen hn
 by_cases hr:AN below=false
 ·have e1:colS ⟨rows,fl⟩ below=⟨rows,fl⟩:=by unfold colS;rw [if_pos hr]
  have e2:Px ⟨rows,fl⟩ below nt=nt:=by unfold Px;rw [if_pos hr]
  have e3:Ha ⟨rows,fl⟩ below=(0,1):=by unfold Ha;rw [if_pos hr]
  rw [e1,e2] at hk;have hk':=hk X I (Ext.refl _) ⟨ps,m,ch,kv,es,clock,KX,RX,NX,hp,hF⟩;rw [e3] at hk';refine AEp ?_;unfold VH;refine AQ (λbs=>AQ (λbb=>?_));refine rdB rfl ?_;refine call (Bb (x:=below) ?_);simp only [hr,Bool.not_false,SSd,Nat.reduceAdd];exact Gh.to (X++F) (Gh.done hk')
 have e1:colS ⟨rows,fl⟩ below=⟨Bq (rows.map (CQ (Cy ⟨rows,fl⟩ below))),Cy ⟨rows,fl⟩ below⟩:=by unfold colS;rw [if_neg hr]
 have e2:Px ⟨rows,fl⟩ below nt=Fe (Cy ⟨rows,fl⟩ below) rows (if bhd below fl=true then Cj nt [102] (false,stF below) else nt):=by unfold Px;rw [if_neg hr]
 have e3:Ha ⟨rows,fl⟩ below=(((Ec (Cy ⟨rows,fl⟩ below) rows:Nat):Int),0):=by
  unfold Ha;rw [if_neg hr,e1];have h1:=LF (Cy ⟨rows,fl⟩ below) rows;have h2:=SU (rows.map (CQ (Cy ⟨rows,fl⟩ below)));simp only [h2];congr 1
  omega
 rw [e1,e2] at hk;rw [e3] at hk;simp only at hk
 refine Cal.perm (L':=(b,spO m kv fl ch)::(m,.map es clock)::(KX++(RX++(NX++F)))) (AO (by rw [AM,BQ hp];((try simp only [AJ,AM,AU,AP]);(try ac_rfl)))) ?_;refine AEp ?_;unfold VH;refine AQ (λbs=>AQ (λbb=>?_));refine rdB rfl ?_;refine call (Bb (x:=below) ?_);simp only [hr,Bool.not_true,SSd,Nat.reduceAdd];refine AZ ?_;refine Ck rfl ?_;refine Ab ?_;try refine O ?_
 refine Cv [.int .i64 fl.fWall,.int .i64 fl.fLogic] rfl rfl ?_;have hok2:SpOk ⟨rows,Cy ⟨rows,fl⟩ below⟩:=⟨hok.rise,hok.rows,by
  unfold Cy;simp only
  split
  ·simpa using hr
  ·exact hok.floor⟩
 have hr':AN below=true:=by simpa using hr
 by_cases hb:bhd below fl=true
 ·have ef:Cy ⟨rows,fl⟩ below=below:=if_pos hb;rw [ef,if_pos hb] at hk;rw [ef] at hok2;refine call (BF (x:=below) (y:=fl) ?_);simp only [hb,SSd,Nat.reduceAdd];refine rdb ?_;refine rdB rfl ?_;try refine O ?_
  refine stP _ rfl rfl rfl rfl ?_;try refine O ?_
  refine rdb ?_;refine Bu (Cal.perm (L':=((b,spO m kv below ch)::(m,.map es clock)::(KX++(RX++NX)))++((bb,stO below)::(bs,.cells #[pt b] 99 (0,0))::F)) (AO (by ((try simp only [AJ,AM,AU,AP]);(try ac_rfl)))) ?_);refine Lz (sp:=⟨rows,below⟩) (ps:=ps) (nt:=nt) ⟨m,ch,kv,es,clock,KX,RX,NX,List.Perm.refl _,hF.map,hF.keys,hF.rows,hF.nts⟩ hr' (λX' I' hI' h'=>?_);refine Gh.perm (L':=(bb,stO below)::(bs,.cells #[pt b] 99 (0,0))::(X'++F)) (AO (by ((try simp only [AJ,AM,AU,AP]);(try ac_rfl)))) (Gh.done ?_);exact OZ ⟨ps,h'⟩ hok2 hlen hn (λI2 X2 hI2 h2=>hk X2 I2 (hI'.trans hI2) h2)
 ·have ef:Cy ⟨rows,fl⟩ below=fl:=if_neg hb;rw [ef,if_neg hb] at hk;rw [ef] at hok2;refine Bu (BF (x:=below) (y:=fl) ?_);refine Gh.perm (L':=(bb,stO below)::(bs,.cells #[pt b] 99 (0,0))::(X++F)) (AO (by simp only [AJ,AM,BQ hp];((try simp only [AJ,AM,AU,AP]);(try ac_rfl)))) (Gh.done ?_);simp only [Bool.eq_false_iff.2 hb,SSd,Nat.reduceAdd];exact OZ ⟨ps,m,ch,kv,es,clock,KX,RX,NX,hp,hF⟩ hok2 hlen hn (λI2 X2 hI2 h2=>hk X2 I2 hI2 h2)
end
theorem Db (A B:List Row):intsOf (A++B)=intsOf A++intsOf B:=by simp [intsOf]
theorem BT (r:Row)(B:List Row):intsOf (r::B)=(if r.it.txn=0 then [] else [itF r])++intsOf B:=by
 unfold intsOf;rw [List.filter_cons];by_cases h:r.it.txn=0 <;> simp [h]
theorem DZ (A B:List Row):Aa (A++B)=Aa A++Aa B:=by simp [Aa]
theorem BB (r:Row)(B:List Row):Aa (r::B)=r.vs.map (FY r.key)++Aa B:=by simp [Aa]
theorem DB (rows:List Row):(Aa rows).length=Ac rows:=by
 induction rows with
 |nil=>rfl
 |cons r rs ih=>rw [BB];simp [Ac] at ih ⊢;omega
theorem ER {A:List Row}{x:TIntent}(h:x∈intsOf A):∃r∈A,x.fKey=r.key:=by
 obtain ⟨r,hr,rfl⟩:=List.mem_map.1 h;exact ⟨r,(List.mem_filter.1 hr).1,rfl⟩
theorem IH {A:List Row}{x:TVersion}(h:x∈Aa A):∃r∈A,x.fKey=r.key∧∃v∈r.vs,x=FY r.key v:=by
 obtain ⟨r,hr,hx⟩:=List.mem_flatMap.1 h;obtain ⟨v,hv,rfl⟩:=List.mem_map.1 hx;exact ⟨r,hr,rfl,v,hv,rfl⟩
def Dr (rows:List Row)(k:List UInt8):Option TIntent:=match rowOf rows k with
 |none=>none
 |some r=>if r.it.txn=0 then none else some (itF r)
theorem Ja {rows:List Row}(hs:SrtK (keysOf rows))(k:List UInt8):(intsOf rows).find? (λx=>x.fKey==k)=Dr rows k:=by
 unfold Dr;rcases place k hs with ⟨A,r,B,e,hk,hm⟩|⟨A,B,e,hm⟩
 ·subst e;rw [Bn hm hk,Db,BT,List.find?_append,List.find?_append];have h1:(intsOf A).find? (λx=>x.fKey==k)=none:=List.find?_eq_none.2 λx hx=>by
   obtain ⟨y,hy,e⟩:=ER hx;rw [e];simpa using EY (hm.lt y hy)
  have h2:(intsOf B).find? (λx=>x.fKey==k)=none:=List.find?_eq_none.2 λx hx=>by
   obtain ⟨y,hy,e⟩:=ER hx;rw [e];simpa using DW (hm.gt y hy)
  rw [h1,h2];by_cases h:r.it.txn=0 <;> simp [h,itF,hk]
 ·subst e;rw [EJ hm.notin];exact List.find?_eq_none.2 λx hx=>by
   obtain ⟨y,hy,e⟩:=ER hx;rw [e];simpa using hm.notin y hy
def As (V:List TVersion)(k:List UInt8)(m:TStamp):Option TVersion:=V.reverse.find? λv=>v.fKey==k&& !bhd v.fAt m
def GP (rows:List Row)(k:List UInt8)(m:TStamp):Option TVersion:=match rowOf rows k with
 |none=>none
 |some r=>(upTo r.vs m).map (FY k)
theorem TU {V:List TVersion}{k:List UInt8}{m:TStamp}(h:∀x∈V,x.fKey≠k):As V k m=none:=by
 unfold As;exact List.find?_eq_none.2 λx hx=>by simp [h x (List.mem_reverse.1 hx)]
theorem JY (A B:List TVersion)(k:List UInt8)(m:TStamp):As (A++B) k m=(As B k m).or (As A k m):=by
 unfold As;rw [List.reverse_append,List.find?_append]
theorem Xh (vs:List TVer)(k:List UInt8)(m:TStamp):As (vs.map (FY k)) k m=(upTo vs m).map (FY k):=by
 unfold As upTo;rw [←List.map_reverse,List.find?_map];simp [Function.comp_def,FY]
theorem Gw {rows:List Row}(hs:SrtK (keysOf rows))(k:List UInt8)(m:TStamp):As (Aa rows) k m=GP rows k m:=by
 unfold GP;have no:∀{A:List Row},(∀x∈A,x.key≠k)→As (Aa A) k m=none:=λh=>TU λx hx=>by
  obtain ⟨y,hy,e,_⟩:=IH hx;rw [e];exact h y hy
 rcases place k hs with ⟨A,r,B,e,hk,hm⟩|⟨A,B,e,hm⟩
 ·subst e;rw [Bn hm hk,DZ,BB,JY,JY,no (λx hx=>EY (hm.lt x hx)),no (λx hx=>DW (hm.gt x hx)),hk,Xh];simp
 ·subst e;rw [EJ hm.notin];exact no hm.notin
abbrev LM:TStamp:=⟨9007199254740991,65535⟩
theorem YW {vs:List TVer}(h:∀v∈vs,VerOk v):upTo vs LM=vs.getLast? :=by
 unfold upTo;rw [List.getLast?_eq_head?_reverse];cases hr:vs.reverse with
 |nil=>rfl
 |cons v l=>
  have hv:v∈vs:=List.mem_reverse.1 (by rw [hr];exact List.mem_cons_self ..);have:=CM (h v hv).right;have hb:bhd v.fAt LM=false:=by simp [bhd];omega
  simp [hb]
theorem RI {sp:Sp}(h:SpOk sp)(k:List UInt8):GP sp.rows k LM=(Cn sp.rows k).getLast?.map (FY k):=by
 unfold GP Cn;cases hr:rowOf sp.rows k with
 |none=>rfl
 |some r=>
  show Option.map _ (upTo r.vs LM)=Option.map _ r.vs.getLast?;rw [YW (h.rows r (CU hr)).vs]
def FS (x:TIntent):Bool→List TIntent→List TIntent
 |d,[]=>if d then [] else [x]
 |d,i::r=>(if !d&& !blt i.fKey x.fKey then [x] else [])++((if i.fKey≠x.fKey then [i] else [])++FS x (d|| !blt i.fKey x.fKey) r)
theorem PK {x:TIntent}{B:List TIntent}:∀{A:List TIntent},(∀i∈A,blt i.fKey x.fKey=true)→FS x false (A++B)=A++FS x false B
 |[],_=>rfl
 |i::A,h=>by
  have h1:=h i (List.mem_cons_self ..);simp only [List.cons_append,FS,h1,Bool.not_true,Bool.and_false,Bool.or_false];rw [if_neg (by simp),if_pos (EY h1),PK (λy hy=>h y (List.mem_cons_of_mem _ hy))];rfl
theorem JK {x:TIntent}:∀{A:List TIntent},(∀i∈A,i.fKey≠x.fKey)→FS x true A=A
 |[],_=>rfl
 |i::A,h=>by
  simp only [FS,Bool.not_true,Bool.false_and,Bool.true_or];rw [if_neg (by simp),if_pos (h i (List.mem_cons_self ..)),JK (λy hy=>h y (List.mem_cons_of_mem _ hy))];rfl
theorem Va {x:TIntent}{A:List TIntent}(h:∀i∈A,blt x.fKey i.fKey=true):FS x false A=x::A:=by
 cases A with
 |nil=>rfl
 |cons i A=>
  have h1:=h i (List.mem_cons_self ..);simp only [FS,CZ h1,Bool.not_false,Bool.and_true,Bool.or_true];rw [if_pos trivial,if_pos (DW h1),JK (λy hy=>DW (h y (List.mem_cons_of_mem _ hy)))];rfl
theorem Wq {rows:List Row}{k:List UInt8}{it:Itn}(hs:SrtK (keysOf rows))(h0:it.txn≠0):FS (itF ⟨k,[],it⟩) false (intsOf rows)=intsOf (Fb k it rows):=by
 have lt:∀{A B:List Row},Mid A k B→∀i∈intsOf A,blt i.fKey (itF ⟨k,[],it⟩).fKey=true:=λhm i hi=>by
  obtain ⟨y,hy,e⟩:=ER hi;rw [e];exact hm.lt y hy
 have gt:∀{A B:List Row},Mid A k B→∀i∈intsOf B,blt (itF ⟨k,[],it⟩).fKey i.fKey=true:=λhm i hi=>by
  obtain ⟨y,hy,e⟩:=ER hi;rw [e];exact hm.gt y hy
 rcases place k hs with ⟨A,r,B,e,hk,hm⟩|⟨A,B,e,hm⟩
 ·subst e;rw [Eo hk hm,Db,Db,PK (lt hm),BT,BT];congr 1
  simp only [if_neg h0];by_cases h:r.it.txn=0
  ·rw [if_pos h];simp only [List.nil_append];rw [Va (gt hm)];rfl
  ·rw [if_neg h];have e1:(itF r).fKey=k:=hk;have e2:(itF ⟨k,[],it⟩).fKey=k:=rfl;simp only [List.cons_append,List.nil_append,FS,e1,e2,BM,Bool.not_false,Bool.and_true,Bool.or_true];rw [if_pos trivial,if_neg (by simp),JK (λy hy=>DW (gt hm y hy))];rfl
 ·subst e;rw [Ep hm,Db,Db,PK (lt hm),BT,Va (gt hm)];simp only [if_neg h0];rfl
def insL (v:TVersion):Bool→List TVersion→List TVersion
 |d,[]=>if d then [] else [v]
 |d,u::r=>(if !d&&blt v.fKey u.fKey then [v] else [])++(u::insL v (d||blt v.fKey u.fKey) r)
theorem OP {v:TVersion}:∀{A:List TVersion},insL v true A=A
 |[]=>rfl
 |u::A=>by
  simp only [insL,Bool.not_true,Bool.false_and,Bool.true_or];rw [if_neg (by simp),OP];rfl
theorem Po {v:TVersion}{B:List TVersion}:∀{A:List TVersion},(∀u∈A,blt v.fKey u.fKey=false)→insL v false (A++B)=A++insL v false B
 |[],_=>rfl
 |u::A,h=>by
  have h1:=h u (List.mem_cons_self ..);simp only [List.cons_append,insL,h1,Bool.and_false,Bool.or_false];rw [if_neg (by simp),Po (λy hy=>h y (List.mem_cons_of_mem _ hy))];rfl
theorem AIF {v:TVersion}{A:List TVersion}(h:∀u∈A,blt v.fKey u.fKey=true):insL v false A=v::A:=by
 cases A with
 |nil=>rfl
 |cons u A=>
  simp only [insL,h u (List.mem_cons_self ..),Bool.not_false,Bool.and_true,Bool.or_true];rw [if_pos trivial,OP];rfl
theorem Nf (rows:List Row):intsOf (Bq rows)=intsOf rows:=by
 induction rows with
 |nil=>rfl
 |cons r rs ih=>
  unfold Bq at *;rw [List.filter_cons];by_cases h:BR r=true
  ·have h0:r.it.txn=0:=by simp [BR] at h;exact h.2
   simp only [h,Bool.not_true,Bool.false_eq_true,if_false];rw [ih,BT,if_pos h0];rfl
  ·simp only [Bool.eq_false_iff.2 h,Bool.not_false,if_true];rw [BT,BT,ih]
theorem JH (rows:List Row):Aa (Bq rows)=Aa rows:=by
 induction rows with
 |nil=>rfl
 |cons r rs ih=>
  unfold Bq at *;rw [List.filter_cons];by_cases h:BR r=true
  ·have h0:r.vs=[]:=by simp [BR] at h;exact h.1
   simp only [h,Bool.not_true,Bool.false_eq_true,if_false];rw [ih,BB,h0];rfl
  ·simp only [Bool.eq_false_iff.2 h,Bool.not_false,if_true];rw [BB,BB,ih]
theorem ADa {A B:List Row}{r:Row}{k:List UInt8}{yes:Bool}{a:TStamp}(hm:Mid A k B)(hk:r.key=k):intsOf (Bq (ND k (Hn yes a) (A++r::B)))=(intsOf (A++r::B)).filter λx=>x.fKey != k:=by
 rw [Nf,Ew hm hk,Db,Db,BT,BT,List.filter_append,List.filter_append];have h1:(intsOf A).filter (λx=>x.fKey != k)=intsOf A:=List.filter_eq_self.2 λx hx=>by
  obtain ⟨y,hy,e⟩:=ER hx;rw [e];simpa using EY (hm.lt y hy)
 have h2:(intsOf B).filter (λx=>x.fKey != k)=intsOf B:=List.filter_eq_self.2 λx hx=>by
  obtain ⟨y,hy,e⟩:=ER hx;rw [e];simpa using DW (hm.gt y hy)
 rw [h1,h2];congr 1
 have e:(Hn yes a r).it.txn=0:=rfl;rw [if_pos e];by_cases h:r.it.txn=0 <;> simp [h,itF,hk]
theorem ADZ {A B:List Row}{r:Row}{k:List UInt8}{a:TStamp}(hm:Mid A k B)(hk:r.key=k):Aa (Bq (ND k (Hn true a) (A++r::B)))=insL ⟨k,a,r.it.ver.fDel,r.it.ver.fValue⟩ false (Aa (A++r::B)):=by
 rw [JH,Ew hm hk,DZ,DZ,BB,BB];rw [Po (λu hu=>by
  obtain ⟨y,hy,e,_⟩:=IH hu;rw [e];exact CZ (hm.lt y hy)),Po (λu hu=>by
  obtain ⟨v,hv,rfl⟩:=List.mem_map.1 hu;show blt k r.key=false;rw [hk];exact BM k),AIF (λu hu=>by
  obtain ⟨y,hy,e,_⟩:=IH hu;rw [e];exact hm.gt y hy)]
 simp [Hn,FY,hk]
theorem XG {A B:List Row}{r:Row}{k:List UInt8}{a:TStamp}(hm:Mid A k B)(hk:r.key=k):Aa (Bq (ND k (Hn false a) (A++r::B)))=Aa (A++r::B):=by
 rw [JH,Ew hm hk,DZ,DZ,BB,BB];simp [Hn]
def Cw (V:List TVersion)(fl:TStamp)(v:TVersion):Bool:=match As V v.fKey fl with
 |none=>true
 |some k=> !(bhd k.fAt v.fAt||(k.fAt.fWall==v.fAt.fWall&&k.fAt.fLogic==v.fAt.fLogic)&&k.fDel)
theorem AEZ (rows:List Row)(fl:TStamp):intsOf (Bq (rows.map (CQ fl)))=intsOf rows:=by
 rw [Nf];induction rows with
 |nil=>rfl
 |cons r rs ih=>rw [List.map_cons,BT,BT,ih,Pw];congr 2;unfold itF;rw [Pw,Gr]
theorem AEY {rows:List Row}(hs:SrtK (keysOf rows))(fl:TStamp):Aa (Bq (rows.map (CQ fl)))=(Aa rows).filter (Cw (Aa rows) fl):=by
 rw [JH];have:∀(A B:List Row),SrtK (keysOf (A++B))→Aa (B.map (CQ fl))=(Aa B).filter (Cw (Aa (A++B)) fl):=by
  intro A B;induction B generalizing A with
  |nil=>intro _;rfl
  |cons r B ih=>
   intro hs;have h1:=ih (A++[r]) (by simpa using hs);rw [List.append_assoc,List.singleton_append] at h1;rw [List.map_cons,BB,BB,List.filter_append,h1];congr 1
   have hl:=Gw hs r.key fl;have hv:GP (A++r::B) r.key fl=(upTo r.vs fl).map (FY r.key):=by unfold GP;rw [Bn hs.mid rfl]
   rw [hv] at hl;rw [Gr];have hkeep:∀v:TVer,Cw (Aa (A++r::B)) fl (FY r.key v)=match upTo r.vs fl with
     |none=>true
     |some k=> !CE k v:=by
    intro v;unfold Cw;rw [show (FY r.key v).fKey=r.key from rfl,hl];cases upTo r.vs fl with
    |none=>rfl
    |some k=>
     simp only [Option.map_some,FY,CE];congr 2
     rw [Bool.and_comm];congr 1
     rw [Bool.eq_iff_iff];simp only [Bool.and_eq_true,beq_iff_eq];exact ⟨λh=>⟨h.1.symm,h.2.symm⟩,λh=>⟨h.1.symm,h.2.symm⟩⟩
   unfold CQ;cases hu:upTo r.vs fl with
   |none=>
    rw [hu] at hkeep;symm
    exact List.filter_eq_self.2 λx hx=>by
     obtain ⟨v,hv,rfl⟩:=List.mem_map.1 hx;exact hkeep v
   |some k=>
    rw [hu] at hkeep;simp only [List.filter_map,Function.comp_def];congr 1
    exact List.filter_congr λv _=>(hkeep v).symm
 exact this [] rows hs
section
variable {ω:Om}{I:Imm}{L:LH}{K:Value→M}
structure RefF (I:Imm)(L:LH)(b:Nat)(vV vI:Value)(V:List TVersion)(Is:List TIntent)(fl:TStamp):Prop where
 head:Cells I L b 0 [vV,vI,.int .i64 fl.fWall,.int .i64 fl.fLogic]
 vers:RL TVersionV 5 I [] vV V
 ints:RL TIntentV 6 I [] vI Is
theorem RefF.mono {I':Imm}{L':LH}{b:Nat}{vV vI:Value}{V:List TVersion}{Is:List TIntent}{fl:TStamp}(h:RefF I L b vV vI V Is fl)(hI:Ext I I')(hL:∀x∈L,x∈L'):RefF I' L' b vV vI V Is fl:=
 ⟨h.head.mono hI hL,h.vers.mono (λx c h=>h.mono hI) hI (λ_ h=>h),h.ints.mono (λx c h=>h.mono hI) hI (λ_ h=>h)⟩
def Qu:TIntent:=⟨[],0,⟨0,0⟩,false,[]⟩
def Ca:TVersion:=⟨[],⟨0,0⟩,false,[]⟩
abbrev itV (v0 v1:Value)(x:TIntent):List Value:=[v0,.int .i64 x.fTxn,.int .i64 x.fAt.fWall,.int .i64 x.fAt.fLogic,.bool x.fDel,v1]
abbrev veV (v0 v1:Value)(x:TVersion):List Value:=[v0,.int .i64 x.fAt.fWall,.int .i64 x.fAt.fLogic,.bool x.fDel,v1]
theorem Fv {L0:LH}[LSub L0 L]{b:Nat}{vV vI a:Value}{V:List TVersion}{Is:List TIntent}{fl:TStamp}{k:List UInt8}(hR:RefF I L0 b vV vI V Is fl)(hB:Bytes I a k)(hlen:Is.length≤1000000000)
  (hk:∀v0 v1,Bytes I v0 ((Is.find? (λx=>x.fKey==k)).getD Qu).fKey→Bytes I v1 ((Is.find? (λx=>x.fKey==k)).getD Qu).fValue→K (.tuple #[.agg (itV v0 v1 ((Is.find? (λx=>x.fKey==k)).getD Qu)).toArray,.bool (Is.find? (λx=>x.fKey==k)).isSome]) I L):
  CT ω 166 #[pt b,a] K I L:=by
 refine ALR ?_;unfold sh166;refine AQ (λb1=>?_);refine loop (λn s I' L'=>I'=I∧∃j:Nat,n+j=Is.length∧s=(.bool false,.int .i64 j,())∧L'=(b1,.cells #[.slice none 0 0,.int .i64 0,.int .i64 0,.int .i64 0,.bool false,.slice none 0 0] 190 (0,0))::L∧∀x∈Is.take j,x.fKey≠k) Is.length ⟨rfl,0,rfl,rfl,rfl,by simp⟩ ?_;rintro n s I' L' ⟨rfl,j,hnj,rfl,rfl,hA⟩;unfold sh166_1;try refine O ?_
 refine rdC (hR.head 1 _ rfl) (Ext.refl _) ?_;simp only [RL.len hR.ints,SSd,Nat.reduceAdd];refine AF (λe=>?_) (λe=>?_)
 ·have hjl:j < Is.length:=by simpa using e
  obtain ⟨q,off,c,hix,hl,hc,hcc⟩:=RL.ix hR.ints (i:=(j:Int)) (by omega) (by omega);rw [AX hjl] at hc;obtain ⟨v0,v1,rfl,h0,h1⟩:=hc;have hcc':=hcc I' [] (Ext.refl _) (λ_ h=>h);refine AZ ?_
  refine Av (hR.head 1 _ rfl) (Ext.refl _) ?_;simp only [hix,SSd,Nat.reduceAdd];refine Av (hcc' 0 _ rfl) (Ext.refl _) ?_;refine Bd h0 (Ext.refl _) ?_;refine Bd hB (Ext.refl _) ?_;simp only [sEq,SSd,Nat.reduceAdd];have hAll:∀x∈Is.take j,¬(x.fKey==k)=true:=λx hx=>by simpa using hA x hx
  refine AF (λe2=>?_) (λe2=>?_)
  ·have hf:Is.find? (λx=>x.fKey==k)=some Is[j]:=by
    conv=>lhs;rw [GT hjl]
    rw [List.find?_append,List.find?_eq_none.2 hAll,List.find?_cons,e2];rfl
   rw [hf] at hk
   refine rdC (hR.head 1 _ rfl) (Ext.refl _) ?_;simp only [hix,SSd,Nat.reduceAdd];refine FT hcc' (Ext.refl _) rfl ?_;refine stB rfl rfl ?_ ?_
   ·obtain ⟨_,_,rfl⟩:=Bytes.form h0;obtain ⟨_,_,rfl⟩:=Bytes.form h1;exact AH rfl
   refine rdB rfl ?_;exact Gh.to L (Gh.done (hk v0 v1 h0 h1))
  ·try refine O ?_
   rw [wrap_i64 _ (by omega)];refine Gh.done ⟨n - 1,by omega,rfl,j+1,by omega,rfl,rfl,λx hx=>?_⟩;rw [take_snoc hjl] at hx;rcases List.mem_append.1 hx with hx|hx
   ·exact hA x hx
   ·simp only [List.mem_singleton] at hx;subst hx;simpa using e2
 ·have hjl:j=Is.length:=by simp at e;omega
  subst hjl;rw [List.take_length] at hA;have hf:Is.find? (λx=>x.fKey==k)=none:=List.find?_eq_none.2 λx hx=>by simpa using hA x hx
  rw [hf] at hk;unfold sh166_3;repeat' (first|refine Γ ?_|refine Θ (λ_=>?_)|refine Δ ?_|(with_reducible first|refine AK (sh166_3.eq_1 ..) ?_|refine AK (sh166_1.eq_1 ..) ?_|refine AK (sh166.eq_1 ..) ?_|refine And.intro ?_ ?_)|refine Φ ?_|refine Ξ (λ_=>?_) (λ_=>?_)|refine O ?_|fail)
  exact Gh.to L (Gh.done (hk _ _ (SlI.nil I' 1 none 0) (SlI.nil I' 1 none 0)))
theorem TT {V:List TVersion}{v:TVersion}{k:List UInt8}{m:TStamp}:As (V++[v]) k m=if (v.fKey==k&& !bhd v.fAt m)=true then some v else As V k m:=by
 rw [JY];unfold As;by_cases h:(v.fKey==k&& !bhd v.fAt m)=true <;> simp [h]
theorem EF {L0:LH}[LSub L0 L]{b:Nat}{vV vI a:Value}{V:List TVersion}{Is:List TIntent}{fl m:TStamp}{k:List UInt8}(hR:RefF I L0 b vV vI V Is fl)(hB:Bytes I a k)(hlen:V.length≤1000000000)
  (hk:∀v0 v1,Bytes I v0 ((As V k m).getD Ca).fKey→Bytes I v1 ((As V k m).getD Ca).fValue→K (.tuple #[.agg (veV v0 v1 ((As V k m).getD Ca)).toArray,.bool (As V k m).isSome]) I L):
  CT ω 167 #[pt b,a,sv m] K I L:=by
 refine ALQ ?_;unfold ABZ;refine AQ (λb1=>AQ (λb2=>?_));try refine O ?_
 refine AQ (λb3=>?_);refine stB rfl rfl (AH rfl) ?_;refine loop (λn s I' L'=>I'=I∧∃(j:Nat) (v0 v1:Value),n+j=V.length∧s=(.bool (As (V.take j) k m).isSome,.int .i64 j,())∧L'=(b3,.cells (veV v0 v1 ((As (V.take j) k m).getD Ca)).toArray 188 (0,0))::(b2,.cells #[.slice none 0 0,.int .i64 0,.int .i64 0,.bool false,.slice none 0 0] 188 (0,0))::(b1,.cells #[.int .i64 m.fWall,.int .i64 m.fLogic] 41 (0,0))::L∧
   Bytes I v0 ((As (V.take j) k m).getD Ca).fKey∧Bytes I v1 ((As (V.take j) k m).getD Ca).fValue) V.length ⟨rfl,0,_,_,rfl,rfl,rfl,SlI.nil I 1 none 0,SlI.nil I 1 none 0⟩ ?_
 rintro n s I' L' ⟨rfl,j,w0,w1,hnj,rfl,rfl,hw0,hw1⟩;obtain ⟨wa,wc,rfl⟩:=Bytes.form hw0;obtain ⟨xa,xc,rfl⟩:=Bytes.form hw1;unfold VD;try refine O ?_
 refine rdC (hR.head 0 _ rfl) (Ext.refl _) ?_;simp only [RL.len hR.vers,SSd,Nat.reduceAdd];refine AF (λe=>?_) (λe=>?_)
 ·have hjl:j < V.length:=by simpa using e
  obtain ⟨q,off,c,hix,hl,hc,hcc⟩:=RL.ix hR.vers (i:=(j:Int)) (by omega) (by omega);rw [AX hjl] at hc;obtain ⟨v0,v1,rfl,h0,h1⟩:=hc;have hcc':=hcc I' [] (Ext.refl _) (λ_ h=>h);have hst:Cells I' [] q (off+1) [.int .i64 V[j].fAt.fWall,.int .i64 V[j].fAt.fLogic]:=by simpa using hcc'.sub (k:=1) (m:=2)
  have hsn:=TT (V:=V.take j) (v:=V[j]) (k:=k) (m:=m);rw [←take_snoc hjl] at hsn;have next:∀(hno:(V[j].fKey==k&& !bhd V[j].fAt m)=false),HD ω (.bool (As (V.take j) k m).isSome) (.int .i64 j) (λs'=>Gh λI2 L2=>∃m',m' < n∧I2=I'∧∃(j:Nat) (v0 v1:Value),m'+j=V.length∧s'=(.bool (As (V.take j) k m).isSome,.int .i64 j,())∧L2=(b3,.cells (veV v0 v1 ((As (V.take j) k m).getD Ca)).toArray 188 (0,0))::(b2,.cells #[.slice none 0 0,.int .i64 0,.int .i64 0,.bool false,.slice none 0 0] 188 (0,0))::(b1,.cells #[.int .i64 m.fWall,.int .i64 m.fLogic] 41 (0,0))::L∧
   Bytes I' v0 ((As (V.take j) k m).getD Ca).fKey∧Bytes I' v1 ((As (V.take j) k m).getD Ca).fValue) (λv=>Gh (K v)) I' ((b3,.cells (veV (.slice wa ((As (V.take j) k m).getD Ca).fKey.length wc) (.slice xa ((As (V.take j) k m).getD Ca).fValue.length xc) ((As (V.take j) k m).getD Ca)).toArray 188 (0,0))::(b2,.cells #[.slice none 0 0,.int .i64 0,.int .i64 0,.bool false,.slice none 0 0] 188 (0,0))::(b1,.cells #[.int .i64 m.fWall,.int .i64 m.fLogic] 41 (0,0))::L):=by
   intro hno;rw [if_neg (by rw [hno];simp)] at hsn;unfold HD;try refine O ?_
   rw [wrap_i64 _ (by omega)];refine Gh.done ⟨n - 1,by omega,rfl,j+1,_,_,by omega,by rw [hsn];rfl,by rw [hsn],by rw [hsn];exact hw0,by rw [hsn];exact hw1⟩
  refine AZ ?_
  refine Av (hR.head 0 _ rfl) (Ext.refl _) ?_;simp only [hix,SSd,Nat.reduceAdd];refine Bo hst (Ext.refl _) rfl ?_;refine Ck rfl ?_;refine call (Ah (x:=V[j].fAt) (y:=m) ?_);refine AZ ?_;try refine O ?_
  refine Av (hR.head 0 _ rfl) (Ext.refl _) ?_;simp only [hix,SSd,Nat.reduceAdd];refine Av (hcc' 0 _ rfl) (Ext.refl _) ?_;refine Bd h0 (Ext.refl _) ?_;refine Bd hB (Ext.refl _) ?_;simp only [sEq,SSd,Nat.reduceAdd];refine AV (λe2=>?_) (λe2=>next (by rw [Bool.eq_false_iff.2 e2];rfl))
  refine AF (λe3=>?_) (λe3=>next (by rw [e2,e3];rfl));unfold VC;try refine O ?_
  refine rdC (hR.head 0 _ rfl) (Ext.refl _) ?_;simp only [hix,SSd,Nat.reduceAdd];refine FT hcc' (Ext.refl _) rfl ?_;refine stB rfl rfl ?_ ?_
  ·obtain ⟨_,_,rfl⟩:=Bytes.form h0;obtain ⟨_,_,rfl⟩:=Bytes.form h1;exact AH rfl
  unfold HD;try refine O ?_
  rw [wrap_i64 _ (by omega)];rw [if_pos (by rw [e2,e3];rfl)] at hsn;refine Gh.done ⟨n - 1,by omega,rfl,j+1,v0,v1,by omega,by rw [hsn];rfl,by rw [hsn];rfl,by rw [hsn];exact h0,by rw [hsn];exact h1⟩
 ·have hjl:j=V.length:=by simp at e;omega
  subst hjl;simp only [List.take_length] at hw0 hw1 ⊢;unfold Uz;refine rdB rfl ?_;refine stB rfl rfl (AH rfl) ?_;refine rdB rfl ?_;exact Gh.to L (Gh.done (hk _ _ hw0 hw1))
theorem Lj {L0:LH}[LSub L0 L]{b:Nat}{vV vI a:Value}{V:List TVersion}{Is:List TIntent}{fl:TStamp}{k:List UInt8}(hR:RefF I L0 b vV vI V Is fl)(hB:Bytes I a k)(hlen:V.length≤1000000000)
  (hk:∀v0 v1,Bytes I v0 ((As V k LM).getD Ca).fKey→Bytes I v1 ((As V k LM).getD Ca).fValue→K (.tuple #[.agg (veV v0 v1 ((As V k LM).getD Ca)).toArray,.bool (As V k LM).isSome]) I L):
  CT ω 227 #[pt b,a] K I L:=by
 refine AKg ?_;unfold AAI;refine AQ (λb1=>?_);try refine O ?_
 refine call (EF (m:=LM) hR hB hlen (λv0 v1 h0 h1=>?_));obtain ⟨wa,wc,rfl⟩:=Bytes.form h0;obtain ⟨xa,xc,rfl⟩:=Bytes.form h1;try refine O ?_
 refine AQ (λb2=>?_);refine stB rfl rfl (AH rfl) ?_;refine rdB rfl ?_;refine stB rfl rfl (AH rfl) ?_;refine rdB rfl ?_;exact Gh.to L (Gh.done (hk _ _ h0 h1))
def Gk (rows:List Row)(k:List UInt8)(m:TStamp)(txn:Int):TGot×Int:=match rowOf rows k with
 |none=>(BE,0)
 |some r=>seen r m txn
def EX:Option TVersion→TGot
 |none=>BE
 |some v=>if v.fDel=true then BE else AEM v.fValue v.fAt
theorem TX (k:List UInt8)(o:Option TVer):EX (o.map (FY k))=DP o:=by cases o <;> rfl
abbrev AII:Obj:=.cells #[.bool false,.slice none 0 0,.int .i64 0,.int .i64 0,.int .i64 0] 49 (0,0)
theorem Sr {L0:LH}[LSub L0 L]{b b1 b2 b3:Nat}{o3:Obj}{vV vI a:Value}{V:List TVersion}{Is:List TIntent}{fl m:TStamp}{k:List UInt8}(hR:RefF I L0 b vV vI V Is fl)(hB:Bytes I a k)(hlen:V.length≤1000000000)
  (hk:∀v0,Bytes I v0 (EX (As V k m)).fValue→K (.tuple #[gvV (EX (As V k m)) v0,.int .i64 0]) I L):
  (Rv none (AD 2 (pt b1)) λv30=>CT ω 167 #[pt b,a,v30]<|gh λv31=>Pv (exV v31 0) λv32=>Pv (exV v31 1) λv33=>New (.cells #[.slice none 0 0,.int .i64 0,.int .i64 0,.bool false,.slice none 0 0] 188 (0,0))<|gh λv34=>Sto 5 v34 v32<|gh λ_=>
   Pv (unV .not v33) λv35=>Gd v35 false (Pv (AA 3 v34) λv36=>Rv none (AB v36) λv37=>Br v37 (sh110_3 ω (pt b2) (.int .i64 0) (λv=>Gh (K v))) (Pv (AA 4 v34) λv40=>Rv none (AB v40) λv41=>Pv (AA 1 v34) λv42=>Rv none (AD 2 v42) λv43=>
    Pv (AR #[.bool false,.slice none 0 0,.int .i64 0,.int .i64 0,.int .i64 0] #[(0,1),(1,1),(2,2),(4,1)] [(0,.bool true),(1,v41),(2,v43)]) λv44=>Sto 5 (pt b2) v44<|gh λ_=>Rv none (AD 5 (pt b2)) λv45=>Gh (K (.tuple #[v45,.int .i64 0]))))
    (sh110_3 ω (pt b2) (.int .i64 0) (λv=>Gh (K v)))) I ((b3,o3)::(b2,AII)::(b1,.cells #[.int .i64 m.fWall,.int .i64 m.fLogic] 41 (0,0))::L):=by
 have hz:∀I',Bytes I' (.slice none 0 0) []:=λI'=>SlI.nil I' 1 none 0;refine rdB rfl ?_;refine call (EF (L0:=L0) (m:=m) hR hB hlen (λv0 v1 h0 h1=>?_));obtain ⟨wa,wc,rfl⟩:=Bytes.form h0;obtain ⟨xa,xc,rfl⟩:=Bytes.form h1;try refine O ?_
 refine AQ (λb4=>?_);refine stB rfl rfl (AH rfl) ?_;have three:∀(he:EX (As V k m)=BE),sh110_3 ω (pt b2) (.int .i64 0) (λv=>Gh (K v)) I ((b4,.cells (veV (.slice wa ((As V k m).getD Ca).fKey.length wc) (.slice xa ((As V k m).getD Ca).fValue.length xc) ((As V k m).getD Ca)).toArray 188 (0,0))::(b3,o3)::(b2,AII)::(b1,.cells #[.int .i64 m.fWall,.int .i64 m.fLogic] 41 (0,0))::L):=by
  intro he;rw [he] at hk;unfold sh110_3;repeat' (first|refine Γ ?_|refine Θ (λ_=>?_)|refine Δ ?_|(with_reducible first|refine AK (sh110_1.eq_1 ..) ?_|refine AK (sh110_2.eq_1 ..) ?_|refine AK (sh110_3.eq_1 ..) ?_|refine AK (sh110.eq_1 ..) ?_|refine And.intro ?_ ?_)|refine Φ ?_|refine Ξ (λ_=>?_) (λ_=>?_)|refine O ?_|fail)
  exact Gh.to L (Gh.done (hk _ (hz I)))
 cases hl:As V k m with
 |none=>
  rw [hl] at three;simp only [Option.isSome_none,Bool.not_false,SSd,Nat.reduceAdd];exact three rfl
 |some v=>
  rw [hl] at three hk h1;simp only [Option.isSome_some,Bool.not_true,SSd,Nat.reduceAdd];refine rdb ?_;refine AF (λe=>?_) (λe=>?_)
  ·exact three (if_pos e)
  ·have hg:EX (some v)=AEM v.fValue v.fAt:=if_neg (by rw [show v.fDel=false from e];simp);rw [hg] at hk
   refine rdb ?_
   refine rdP [.int .i64 v.fAt.fWall,.int .i64 v.fAt.fLogic] rfl rfl ?_;repeat' (first|refine Γ ?_|refine Θ (λ_=>?_)|refine Δ ?_|(with_reducible first|refine AK (sh110_1.eq_1 ..) ?_|refine AK (sh110_2.eq_1 ..) ?_|refine AK (sh110_3.eq_1 ..) ?_|refine AK (sh110.eq_1 ..) ?_|refine And.intro ?_ ?_)|refine Φ ?_|refine Ξ (λ_=>?_) (λ_=>?_)|refine O ?_|fail)
   exact Gh.to L (Gh.done (hk _ h1))
theorem Lg {L0:LH}[LSub L0 L]{b:Nat}{vV vI a:Value}{sp:Sp}{fl m:TStamp}{k:List UInt8}{txn:Int}(hR:RefF I L0 b vV vI (Aa sp.rows) (intsOf sp.rows) fl)(hok:SpOk sp)(hB:Bytes I a k)(hlen:sp.rows.length≤100000000)(hn:Ac sp.rows≤100000000)
  (hk:∀v0,Bytes I v0 (Gk sp.rows k m txn).1.fValue→K (.tuple #[gvV (Gk sp.rows k m txn).1 v0,.int .i64 (Gk sp.rows k m txn).2]) I L):
  CT ω 110 #[pt b,a,sv m,.int .i64 txn] K I L:=by
 have hz:∀I',Bytes I' (.slice none 0 0) []:=λI'=>SlI.nil I' 1 none 0;have hs:=hok.rise;have hIl:(intsOf sp.rows).length≤1000000000:=by
  have:=List.length_filter_le (λr:Row=>r.it.txn != 0) sp.rows;simp [intsOf];omega
 have hVl:(Aa sp.rows).length≤1000000000:=by rw [DB];omega
 refine AMG ?_;unfold sh110;refine AQ (λb1=>AQ (λb2=>?_));refine call (Fv (L0:=L0) hR hB hIl (λv0 v1 h0 h1=>?_));rw [Ja hs k] at h0 h1 ⊢;obtain ⟨wa,wc,rfl⟩:=Bytes.form h0;obtain ⟨xa,xc,rfl⟩:=Bytes.form h1;try refine O ?_
 refine AQ (λb3=>?_);refine stB rfl rfl (AH rfl) ?_;have tail:=λ(o3:Obj) (hg:Gk sp.rows k m txn=(EX (As (Aa sp.rows) k m),0))=>Sr (ω:=ω) (K:=K) (L:=L) (b1:=b1) (b2:=b2) (b3:=b3) (o3:=o3) (m:=m) hR hB hVl (by rw [hg] at hk;exact hk);have hlv:=Gw hs k m;cases hr:rowOf sp.rows k with
 |none=>
  have ei:Dr sp.rows k=none:=by unfold Dr;rw [hr]
  have eg:Gk sp.rows k m txn=(EX (As (Aa sp.rows) k m),0):=by
   unfold Gk;rw [hr,hlv];unfold GP;rw [hr];rfl
  simp only [ei,Option.isSome_none,Option.getD_none,SSd,Nat.reduceAdd];refine rdP [.int .i64 0,.int .i64 0] rfl rfl ?_;refine rdB rfl ?_;refine call (Ah (x:=⟨0,0⟩) (y:=m) ?_);exact tail _ eg
 |some r=>
  have egv:EX (As (Aa sp.rows) k m)=DP (upTo r.vs m):=by rw [hlv];unfold GP;rw [hr];exact TX k _
  have eg0:Gk sp.rows k m txn=seen r m txn:=by unfold Gk;rw [hr]
  by_cases h0':r.it.txn=0
  ·have ei:Dr sp.rows k=none:=by unfold Dr;rw [hr];exact if_pos h0'
   have eg:Gk sp.rows k m txn=(EX (As (Aa sp.rows) k m),0):=by rw [eg0,egv];unfold seen;rw [if_pos h0']
   simp only [ei,Option.isSome_none,Option.getD_none,SSd,Nat.reduceAdd];refine rdP [.int .i64 0,.int .i64 0] rfl rfl ?_;refine rdB rfl ?_;refine call (Ah (x:=⟨0,0⟩) (y:=m) ?_);exact tail _ eg
  ·have ei:Dr sp.rows k=some (itF r):=by unfold Dr;rw [hr];exact if_neg h0'
   rw [ei] at h1;simp only [ei,Option.isSome_some,Option.getD_some,itF,SSd,Nat.reduceAdd];have late:(Gk sp.rows k m txn=if bhd r.it.ver.fAt m=false then (AEN r.it.txn,130) else (EX (As (Aa sp.rows) k m),0))→∀(hnx:¬r.it.txn=txn),True:=λ_ _=>trivial;by_cases htx:r.it.txn=txn
   ·have eg:Gk sp.rows k m txn=(DP (some r.it.ver),0):=by rw [eg0];unfold seen;rw [if_neg h0',if_pos htx]
    rw [eg] at hk;have e1:(txn != 0)=true:=by simp;rw [←htx];exact h0'
    have e2:(r.it.txn==txn)=true:=by simpa using htx
    simp only [e1,SSd,Nat.reduceAdd];refine rdb ?_;simp only [e2,SSd,Nat.reduceAdd];unfold sh110_1;try refine O ?_
    refine rdb ?_;refine AF (λe=>?_) (λe=>?_)
    ·have hg:DP (some r.it.ver)=BE:=if_pos e;rw [hg] at hk;repeat' (first|refine Γ ?_|refine Θ (λ_=>?_)|refine Δ ?_|(with_reducible first|refine AK (sh110_1.eq_1 ..) ?_|refine AK (sh110_2.eq_1 ..) ?_|refine AK (sh110_3.eq_1 ..) ?_|refine AK (sh110.eq_1 ..) ?_|refine And.intro ?_ ?_)|refine Φ ?_|refine Ξ (λ_=>?_) (λ_=>?_)|refine O ?_|fail)
     exact Gh.to L (Gh.done (hk _ (hz I)))
    ·have hg:DP (some r.it.ver)=AEM r.it.ver.fValue r.it.ver.fAt:=if_neg (by rw [show r.it.ver.fDel=false from e];simp);rw [hg] at hk
     refine rdb ?_
     refine rdP [.int .i64 r.it.ver.fAt.fWall,.int .i64 r.it.ver.fAt.fLogic] rfl rfl ?_;repeat' (first|refine Γ ?_|refine Θ (λ_=>?_)|refine Δ ?_|(with_reducible first|refine AK (sh110_1.eq_1 ..) ?_|refine AK (sh110_2.eq_1 ..) ?_|refine AK (sh110_3.eq_1 ..) ?_|refine AK (sh110.eq_1 ..) ?_|refine And.intro ?_ ?_)|refine Φ ?_|refine Ξ (λ_=>?_) (λ_=>?_)|refine O ?_|fail)
     exact Gh.to L (Gh.done (hk _ h1))
   ·have e2:(r.it.txn==txn)=false:=by simpa using htx
    have fin:∀(hg:Gk sp.rows k m txn=if bhd r.it.ver.fAt m=false then (AEN r.it.txn,130) else (EX (As (Aa sp.rows) k m),0)),bhd r.it.ver.fAt m=false→
      sh110_2 ω (pt b2) (.int .i64 0) (pt b3) (λv=>Gh (K v)) I ((b3,.cells (itV (.slice wa (itF r).fKey.length wc) (.slice xa (itF r).fValue.length xc) (itF r)).toArray 190 (0,0))::(b2,AII)::(b1,.cells #[.int .i64 m.fWall,.int .i64 m.fLogic] 41 (0,0))::L):=by
     intro hg hb;rw [hg,if_pos hb] at hk;unfold sh110_2;try refine O ?_
     refine rdb ?_;repeat' (first|refine Γ ?_|refine Θ (λ_=>?_)|refine Δ ?_|(with_reducible first|refine AK (sh110_1.eq_1 ..) ?_|refine AK (sh110_2.eq_1 ..) ?_|refine AK (sh110_3.eq_1 ..) ?_|refine AK (sh110.eq_1 ..) ?_|refine And.intro ?_ ?_)|refine Φ ?_|refine Ξ (λ_=>?_) (λ_=>?_)|refine O ?_|fail)
     exact Gh.to L (Gh.done (hk _ (hz I)))
    have eg:Gk sp.rows k m txn=if bhd r.it.ver.fAt m=false then (AEN r.it.txn,130) else (EX (As (Aa sp.rows) k m),0):=by
     rw [eg0,egv];unfold seen;rw [if_neg h0',if_neg htx]
    by_cases e1:(txn != 0)=true
    ·simp only [e1,SSd,Nat.reduceAdd];refine rdb ?_;simp only [e2,SSd,Nat.reduceAdd];refine rdP [.int .i64 r.it.ver.fAt.fWall,.int .i64 r.it.ver.fAt.fLogic] rfl rfl ?_;refine rdB rfl ?_;refine call (Ah (x:=r.it.ver.fAt) (y:=m) ?_);try refine O ?_
     refine AF (λe=>fin eg (by simpa using e)) (λe=>?_);have e':bhd r.it.ver.fAt m=true:=by simpa using e
     exact tail _ (by rw [eg,if_neg (by rw [e'];simp)])
    ·simp only [Bool.eq_false_iff.2 e1,SSd,Nat.reduceAdd];refine rdP [.int .i64 r.it.ver.fAt.fWall,.int .i64 r.it.ver.fAt.fLogic] rfl rfl ?_;refine rdB rfl ?_;refine call (Ah (x:=r.it.ver.fAt) (y:=m) ?_);try refine O ?_
     refine AF (λe=>fin eg (by simpa using e)) (λe=>?_);have e':bhd r.it.ver.fAt m=true:=by simpa using e
     exact tail _ (by rw [eg,if_neg (by rw [e'];simp)])
end
def Fd (out:List (List UInt8))(x:List UInt8):List (List UInt8):=if out.getLast? =some x then out else out++[x]
def Dp:Nat→List (List UInt8)→List (List UInt8)→List (List UInt8)→List (List UInt8)
 |0,_,_,out=>out
 |_+1,[],[],out=>out
 |n+1,x::a,[],out=>Dp n a [] (Fd out x)
 |n+1,[],y::b,out=>Dp n [] b (Fd out y)
 |n+1,x::a,y::b,out=>if (blt x y||x==y)=true then Dp n a (y::b) (Fd out x) else Dp n (x::a) b (Fd out y)
theorem Es {k:List UInt8}{a b:List (List UInt8)}(ha:∀x∈a,blt k x=true)(hb:∀x∈b,blt k x=true):∀(n e N:Nat) (out:List (List UInt8)),out.getLast? =some k→
  Dp (n+e+N) (List.replicate n k++a) (List.replicate e k++b) out=Dp N a b out
 |0,0,N,out,_=>by simp
 |0,e+1,N,out,h=>by
  have hp:Fd out k=out:=if_pos h;have ih:=Es ha hb 0 e N out h;rw [show 0+(e+1)+N=(0+e+N)+1 by omega,List.replicate_succ];simp only [List.replicate_zero,List.nil_append,List.cons_append] at ih ⊢;cases a with
  |nil=>simp only [Dp,hp];exact ih
  |cons x a=>
   have hx:=ha x (List.mem_cons_self ..);simp only [Dp,hp];rw [if_neg (by rw [CZ hx];simpa using DW hx)];exact ih
 |n+1,0,N,out,h=>by
  have hp:Fd out k=out:=if_pos h;have ih:=Es ha hb n 0 N out h;rw [show n+1+0+N=(n+0+N)+1 by omega,List.replicate_succ];simp only [List.replicate_zero,List.nil_append,List.cons_append] at ih ⊢;cases b with
  |nil=>simp only [Dp,hp];exact ih
  |cons y b=>
   have hy:=hb y (List.mem_cons_self ..);simp only [Dp,hp];rw [if_pos (by rw [hy];rfl)];exact ih
 |n+1,e+1,N,out,h=>by
  have hp:Fd out k=out:=if_pos h;have ih:=Es ha hb n (e+1) N out h;rw [show n+1+(e+1)+N=(n+(e+1)+N)+1 by omega,List.replicate_succ];rw [List.replicate_succ] at ih ⊢;simp only [List.cons_append] at ih ⊢;simp only [Dp,hp];rw [if_pos (by simp)];exact ih
theorem ADw {k:List UInt8}{a b:List (List UInt8)}(ha:∀x∈a,blt k x=true)(hb:∀x∈b,blt k x=true)(n e N:Nat)(out:List (List UInt8))(h:out.getLast? ≠some k)(h0:0 < n+e):
  Dp (n+e+N) (List.replicate n k++a) (List.replicate e k++b) out=Dp N a b (out++[k]):=by
 have hp:Fd out k=out++[k]:=if_neg h;have hl:(out++[k]).getLast? =some k:=by simp
 match n,e,h0 with
 |0,e+1,_=>
  have ih:=Es ha hb 0 e N (out++[k]) hl;rw [show 0+(e+1)+N=(0+e+N)+1 by omega,List.replicate_succ];simp only [List.replicate_zero,List.nil_append,List.cons_append] at ih ⊢;cases a with
  |nil=>simp only [Dp,hp];exact ih
  |cons x a=>
   have hx:=ha x (List.mem_cons_self ..);simp only [Dp,hp];rw [if_neg (by rw [CZ hx];simpa using DW hx)];exact ih
 |n+1,0,_=>
  have ih:=Es ha hb n 0 N (out++[k]) hl;rw [show n+1+0+N=(n+0+N)+1 by omega,List.replicate_succ];simp only [List.replicate_zero,List.nil_append,List.cons_append] at ih ⊢;cases b with
  |nil=>simp only [Dp,hp];exact ih
  |cons y b=>
   have hy:=hb y (List.mem_cons_self ..);simp only [Dp,hp];rw [if_pos (by rw [hy];rfl)];exact ih
 |n+1,e+1,_=>
  have ih:=Es ha hb n (e+1) N (out++[k]) hl;rw [show n+1+(e+1)+N=(n+(e+1)+N)+1 by omega,List.replicate_succ];rw [List.replicate_succ] at ih ⊢;simp only [List.cons_append] at ih ⊢;simp only [Dp,hp];rw [if_pos (by simp)];exact ih
def GQ (rows:List Row):List (List UInt8):=(Aa rows).map (·.fKey)
def Gj (rows:List Row):List (List UInt8):=(intsOf rows).map (·.fKey)
theorem SW (r:Row)(rs:List Row):GQ (r::rs)=List.replicate r.vs.length r.key++GQ rs:=by
 unfold GQ;rw [BB,List.map_append,List.map_map];congr 1
 exact List.eq_replicate_iff.2 ⟨by simp,λb hb=>by
  obtain ⟨v,_,rfl⟩:=List.mem_map.1 hb;rfl⟩
theorem TW (r:Row)(rs:List Row):Gj (r::rs)=List.replicate (if r.it.txn=0 then 0 else 1) r.key++Gj rs:=by
 unfold Gj;rw [BT,List.map_append];congr 1
 by_cases h:r.it.txn=0 <;> simp [h,itF]
theorem OK:∀{rows:List Row} {out:List (List UInt8)},SrtK (keysOf rows)→(∀r∈rows,BR r=false)→(∀l,out.getLast? =some l→∀r∈rows,blt l r.key=true)→
  Dp ((GQ rows).length+(Gj rows).length) (GQ rows) (Gj rows) out=out++keysOf rows
 |[],out,_,_,_=>by simp [GQ,Gj,Aa,intsOf,keysOf,Dp]
 |r::rs,out,hs,he,hl=>by
  obtain ⟨h1,h2⟩:=List.pairwise_cons.1 (show List.Pairwise _ (r.key::keysOf rs) from hs);have ih:=OK (rows:=rs) (out:=out++[r.key]) h2 (λx hx=>he x (List.mem_cons_of_mem _ hx)) (λl hl' x hx=>by
   simp at hl';subst hl';exact h1 _ (List.mem_map_of_mem hx))
  rw [SW,TW,List.length_append,List.length_append,List.length_replicate,List.length_replicate];have hv:∀x∈GQ rs,blt r.key x=true:=λx hx=>by
   obtain ⟨u,hu,rfl⟩:=List.mem_map.1 hx;obtain ⟨y,hy,e,_⟩:=IH hu;rw [e];exact h1 _ (List.mem_map_of_mem hy)
  have hi:∀x∈Gj rs,blt r.key x=true:=λx hx=>by
   obtain ⟨u,hu,rfl⟩:=List.mem_map.1 hx;obtain ⟨y,hy,e⟩:=ER hu;rw [e];exact h1 _ (List.mem_map_of_mem hy)
  have hne:0 < r.vs.length+(if r.it.txn=0 then 0 else 1):=by
   have:=he r (List.mem_cons_self ..);by_cases h:r.it.txn=0
   ·rw [if_pos h];cases hvs:r.vs with
    |nil=>simp [BR,hvs,h] at this
    |cons v l=>simp
   ·rw [if_neg h];omega
  have:=ADw hv hi r.vs.length (if r.it.txn=0 then 0 else 1) ((GQ rs).length+(Gj rs).length) out (λe=>by
   have:=hl _ e r (List.mem_cons_self ..);rw [BM] at this;cases this) hne
  rw [show r.vs.length+(GQ rs).length+((if r.it.txn=0 then 0 else 1)+(Gj rs).length)=r.vs.length+(if r.it.txn=0 then 0 else 1)+((GQ rs).length+(Gj rs).length) by omega,this,ih];simp [keysOf]
section
variable {ω:Om}{I:Imm}{L:LH}{K:Value→M}
theorem Ns {L0:LH}[LSub L0 L]{b:Nat}{vV vI a:Value}{sp:Sp}{m:TStamp}{k:List UInt8}{txn:Int}(hR:RefF I L0 b vV vI (Aa sp.rows) (intsOf sp.rows) sp.floor)(hok:SpOk sp)(hB:Bytes I a k)(hlen:sp.rows.length≤100000000)(hn:Ac sp.rows≤100000000)
  (hk:∀v0,Bytes I v0 (CN sp k m txn).1.fValue→K (.tuple #[gvV (CN sp k m txn).1 v0,.int .i64 (CN sp k m txn).2]) I L):
  CT ω 47 #[pt b,a,sv m,.int .i64 txn] K I L:=by
 have hz:∀I',Bytes I' (.slice none 0 0) []:=λI'=>SlI.nil I' 1 none 0;refine ANZ ?_;unfold sh47;refine AQ (λb1=>AQ (λb2=>?_));refine call (EL hB ?_);refine rdB rfl ?_;refine call (Bl (x:=m) ?_);refine call (Fu ?_);have bad:∀(hb:Aj k=false∨(AN m&&Ai txn)=false),sh47_1 ω (pt b2) (.int .i64 0) (λv=>Gh (K v)) I ((b2,AII)::(b1,.cells #[.int .i64 m.fWall,.int .i64 m.fLogic] 41 (0,0))::L):=by
  intro hb;have eg:CN sp k m txn=(BE,1):=by unfold CN;rw [if_pos hb]
  rw [eg] at hk;unfold sh47_1;repeat' (first|refine Γ ?_|refine Θ (λ_=>?_)|refine Δ ?_|(with_reducible first|refine AK (sh47_1.eq_1 ..) ?_|refine AK (sh47_2.eq_1 ..) ?_|refine AK (sh47.eq_1 ..) ?_|refine And.intro ?_ ?_)|refine Φ ?_|refine Ξ (λ_=>?_) (λ_=>?_)|refine O ?_|fail)
  exact Gh.to L (Gh.done (hk _ (hz I)))
 try refine O ?_
 refine AV (λe=>?_) (λe=>bad (.inl (by simpa using e)));have k1:Aj k=true:=by simpa using e
 refine AV (λe=>?_) (λe=>bad (.inr (by have:AN m=false:=(by simpa using e);rw [this];rfl)));have k2:AN m=true:=by simpa using e
 refine AF (λe=>bad (.inr (by have:Ai txn=false:=(by simpa using e);rw [this];simp))) (λe=>?_);have k3:Ai txn=true:=by simpa using e
 have hf:¬(Aj k=false∨(AN m&&Ai txn)=false):=by rw [k1,k2,k3];simp
 have hc2:Cells I L0 b 2 [.int .i64 sp.floor.fWall,.int .i64 sp.floor.fLogic]:=by simpa using hR.head.sub (k:=2) (m:=2)
 refine AZ ?_
 refine Bo hc2 (Ext.refl _) rfl ?_;refine Ck rfl ?_;refine call (Ah (x:=sp.floor) (y:=m) ?_);refine AF (λe2=>?_) (λe2=>?_)
 ·have eg:CN sp k m txn=(BE,131):=by unfold CN;rw [if_neg hf,if_pos e2]
  rw [eg] at hk;unfold sh47_2;repeat' (first|refine Γ ?_|refine Θ (λ_=>?_)|refine Δ ?_|(with_reducible first|refine AK (sh47_1.eq_1 ..) ?_|refine AK (sh47_2.eq_1 ..) ?_|refine AK (sh47.eq_1 ..) ?_|refine And.intro ?_ ?_)|refine Φ ?_|refine Ξ (λ_=>?_) (λ_=>?_)|refine O ?_|fail)
  exact Gh.to L (Gh.done (hk _ (hz I)))
 ·have eg:CN sp k m txn=Gk sp.rows k m txn:=by unfold CN Gk;rw [if_neg hf,if_neg (by rw [e2];simp)];cases rowOf sp.rows k <;> rfl
  rw [eg] at hk;refine rdB rfl ?_;refine call (Lg (L0:=L0) hR hok hB hlen hn (λv0 h0=>?_));obtain ⟨wa,wc,rfl⟩:=Bytes.form h0;try refine O ?_
  refine AQ (λb3=>?_);refine stB rfl rfl (AH rfl) ?_;refine rdB rfl ?_;refine stB rfl rfl (AH rfl) ?_;refine rdB rfl ?_;exact Gh.to L (Gh.done (hk _ h0))
theorem OA {X F:LH}{v p4 p5:Value}{out:List (List UInt8)}{key:List UInt8}{Kn0:(Value×Value×Value×Unit)→M}(h:StrO X v out)(hl:out.length≤1000000000)(hk:∀X' v',StrO X' v' (Fd out key)→Gh (Kn0 (v',p4,p5,())) I (X'++F)):
  Kt ω v p4 p5 (BS key) (λs=>Gh (Kn0 s)) (λv=>Gh (K v)) I (X++F):=by
 have app:∀(hn:out.getLast? ≠some key),Ks ω v p4 p5 (BS key) (λs=>Gh (Kn0 s)) (λv=>Gh (K v)) I (X++F):=by
  intro hn;have hp:Fd out key=out++[key]:=if_neg hn;rw [hp] at hk;unfold Ks;refine EH rfl (by omega) rfl (λX1 u hX1=>?_);refine Fi (X:=X) (news:=[BS key]) rfl h (by simpa [Value.cells] using hX1.news (λx hx=>List.mem_append_left _ hx)) (AH rfl) (by omega) (by omega) (λX' v' hX'=>?_);have hS:StrO X' v' (out++[key]):=by
   unfold StrO;have e:strs (out++[key])=strs out++[BS key]:=by simp [strs]
   rw [e,List.length_append];exact hX'
  exact Gh.to (X'++F) (Gh.done (hk X' v' hS))
 obtain ⟨sa,sc,rfl⟩:=h.form;unfold Kt;try refine O ?_
 cases hgl:out.getLast? with
 |none=>
  have h0:out=[]:=List.getLast?_eq_none_iff.1 hgl;have e:(((out.length:Nat):Int)==0)=true:=by rw [h0];rfl
  simp only [e,SSd,Nat.reduceAdd];exact app (by rw [hgl];simp)
 |some l=>
  obtain ⟨h0,hlx⟩:=Pk hgl;have e:(((out.length:Nat):Int)==0)=false:=by simp;intro h;rw [h] at h0;simp at h0
  simp only [e,SSd,Nat.reduceAdd];rw [wrap_i64 _ (by omega)];have el:((out.length:Nat):Int) - 1=((out.length - 1:Nat):Int):=by omega
  rw [el];obtain ⟨q,off,c,hix,hcl,hc,hcc⟩:=RL.ix (StrO.rl (I:=I) (L:=X) h (λ_ h=>h)) (i:=((out.length - 1:Nat):Int)) (by omega) (by omega);obtain rfl:c=_:=hc;rw [hlx] at hcc;simp only [hix,SSd,Nat.reduceAdd];refine rdC (hcc I X (Ext.refl _) (λ_ h=>h) 0 _ rfl) (Ext.refl _) ?_;simp only [sNe,SSd,Nat.reduceAdd];refine AF (λe2=>app (by rw [hgl];simpa using e2)) (λe2=>?_);have e2':l=key:=by simpa using e2
  have hp:Fd out key=out:=if_pos (by rw [hgl,e2']);rw [hp] at hk;exact hk X _ h
theorem Sy {L0:LH}[LSub L0 L]{b:Nat}{vV vI:Value}{V:List TVersion}{Is:List TIntent}{fl:TStamp}(hR:RefF I L0 b vV vI V Is fl)(hlV:V.length≤400000000)(hlI:Is.length≤400000000)
  (hk:∀X v,StrO X v (Dp (V.length+Is.length) (V.map (·.fKey)) (Is.map (·.fKey)) [])→K v I (X++L)):
  CT ω 111 #[pt b] K I L:=by
 refine AMF ?_;unfold ACp;refine loop (λn s I' L'=>I'=I∧∃(i j:Nat) (out:List (List UInt8)) (X:LH) (v:Value),n+i+j=V.length+Is.length∧i≤V.length∧j≤Is.length∧s=(v,.int .i64 i,.int .i64 j,())∧L'=X++L∧StrO X v out∧out.length≤i+j∧
   Dp n ((V.map (·.fKey)).drop i) ((Is.map (·.fKey)).drop j) out=Dp (V.length+Is.length) (V.map (·.fKey)) (Is.map (·.fKey)) []) (V.length+Is.length) ⟨rfl,0,0,[],[],_,by omega,by omega,by omega,rfl,rfl,SlO.none _ 1,by simp,rfl⟩ ?_
 rintro n s I' L' ⟨rfl,i,j,out,X,v,hn,hi,hj,rfl,rfl,hX,hol,hm⟩;have hVl:(V.map (·.fKey)).length=V.length:=by simp
 have hIl:(Is.map (·.fKey)).length=Is.length:=by simp
 have hpl:∀key,(Fd out key).length≤out.length+1:=λkey=>by unfold Fd;split <;> simp
 have two:∀(hiv:i < V.length),(Is.length≤j∨∃hji:j < Is.length,(blt V[i].fKey Is[j].fKey||V[i].fKey==Is[j].fKey)=true)→HG ω (pt b) v (.int .i64 i) (.int .i64 j) (.string (ByteArray.mk #[])) (λs'=>Gh λI2 L2=>∃m',m' < n∧I2=I'∧∃(i j:Nat) (out:List (List UInt8)) (X:LH) (v:Value),m'+i+j=V.length+Is.length∧i≤V.length∧j≤Is.length∧s'=(v,.int .i64 i,.int .i64 j,())∧L2=X++L∧StrO X v out∧out.length≤i+j∧
   Dp m' ((V.map (·.fKey)).drop i) ((Is.map (·.fKey)).drop j) out=Dp (V.length+Is.length) (V.map (·.fKey)) (Is.map (·.fKey)) []) (λv=>Gh (K v)) I' (X++L):=by
  intro hiv hc;obtain ⟨q,off,c,hix,hl,hcR,hcc⟩:=RL.ix hR.vers (i:=(i:Int)) (by omega) (by omega);rw [AX hiv] at hcR;obtain ⟨v0,v1,rfl,h0,h1⟩:=hcR;have hcv:=hcc I' [] (Ext.refl _) (λ_ h=>h);unfold HG;try refine O ?_
  refine rdC (hR.head 0 _ rfl) (Ext.refl _) ?_;simp only [hix,SSd,Nat.reduceAdd];refine rdC (hcv 0 _ rfl) (Ext.refl _) ?_;refine DF h0 (Ext.refl _) ?_
  rw [wrap_i64 _ (by omega)];refine OA hX (by omega) (λX' v' h'=>Gh.done ⟨n - 1,by omega,rfl,i+1,j,_,X',v',by omega,by omega,hj,rfl,rfl,h',by have:=hpl V[i].fKey;omega,?_⟩);rw [←hm];have hn1:n=(n - 1)+1:=by omega
  generalize n - 1=n' at hn1 ⊢;subst hn1;rw [List.drop_eq_getElem_cons (l:=V.map (·.fKey)) (i:=i) (by omega)];simp only [List.getElem_map];rcases hc with hc|⟨hji,hc⟩
  ·rw [show (Is.map (·.fKey)).drop j=[] from List.drop_eq_nil_of_le (by omega)];rfl
  ·rw [List.drop_eq_getElem_cons (l:=Is.map (·.fKey)) (i:=j) (by omega)];simp only [List.getElem_map,Dp];rw [if_pos hc]
 have sixg:∀(hji:j < Is.length),(V.length≤i∨∃hiv:i < V.length,(blt V[i].fKey Is[j].fKey||V[i].fKey==Is[j].fKey)=false)→HF ω (pt b) v (.int .i64 i) (.int .i64 j) (.string (ByteArray.mk #[])) (λs'=>Gh λI2 L2=>∃m',m' < n∧I2=I'∧∃(i j:Nat) (out:List (List UInt8)) (X:LH) (v:Value),m'+i+j=V.length+Is.length∧i≤V.length∧j≤Is.length∧s'=(v,.int .i64 i,.int .i64 j,())∧L2=X++L∧StrO X v out∧out.length≤i+j∧
   Dp m' ((V.map (·.fKey)).drop i) ((Is.map (·.fKey)).drop j) out=Dp (V.length+Is.length) (V.map (·.fKey)) (Is.map (·.fKey)) []) (λv=>Gh (K v)) I' (X++L):=by
  intro hji hc;obtain ⟨q,off,c,hix,hl,hcR,hcc⟩:=RL.ix hR.ints (i:=(j:Int)) (by omega) (by omega);rw [AX hji] at hcR;obtain ⟨v0,v1,rfl,h0,h1⟩:=hcR;have hcv:=hcc I' [] (Ext.refl _) (λ_ h=>h);unfold HF;try refine O ?_
  refine rdC (hR.head 1 _ rfl) (Ext.refl _) ?_;simp only [hix,SSd,Nat.reduceAdd];refine rdC (hcv 0 _ rfl) (Ext.refl _) ?_;refine DF h0 (Ext.refl _) ?_
  rw [wrap_i64 _ (by omega)];refine OA hX (by omega) (λX' v' h'=>Gh.done ⟨n - 1,by omega,rfl,i,j+1,_,X',v',by omega,hi,by omega,rfl,rfl,h',by have:=hpl Is[j].fKey;omega,?_⟩);rw [←hm];have hn1:n=(n - 1)+1:=by omega
  generalize n - 1=n' at hn1 ⊢;subst hn1;rw [List.drop_eq_getElem_cons (l:=Is.map (·.fKey)) (i:=j) (by omega)];simp only [List.getElem_map];rcases hc with hc|⟨hiv,hc⟩
  ·rw [show (V.map (·.fKey)).drop i=[] from List.drop_eq_nil_of_le (by omega)];rfl
  ·rw [List.drop_eq_getElem_cons (l:=V.map (·.fKey)) (i:=i) (by omega)];simp only [List.getElem_map,Dp];rw [if_neg (by rw [hc];simp)]
 have six':∀(hiv:i < V.length) (hji:j < Is.length),(blt V[i].fKey Is[j].fKey||V[i].fKey==Is[j].fKey)=false→_:=λhiv hji h=>sixg hji (.inr ⟨hiv,h⟩);unfold VZ;try refine O ?_
 refine rdC (hR.head 0 _ rfl) (Ext.refl _) ?_;simp only [RL.len hR.vers,SSd,Nat.reduceAdd];refine AV (λe=>?_) (λe=>?_)
 ·have hiV:i=V.length:=by simp at e;omega
  refine rdC (hR.head 1 _ rfl) (Ext.refl _) ?_;simp only [RL.len hR.ints,SSd,Nat.reduceAdd];refine AF (λe2=>?_) (λe2=>?_);rotate_left
  ·have hjI:j=Is.length:=by simp at e2;omega
   have hn0:n=0:=by omega
   subst hn0;rw [←hm] at hk;exact Gh.done (hk X v hX)
  have hji:j < Is.length:=by simpa using e2
  have six:V.length≤i→_:=λh=>sixg hji (.inl h);refine AZ ?_
  refine Av (hR.head 0 _ rfl) (Ext.refl _) ?_;simp only [RL.len hR.vers,SSd,Nat.reduceAdd];refine AV (λei=>?_) (λei=>six (by simpa using ei))
  refine Av (hR.head 1 _ rfl) (Ext.refl _) ?_;simp only [RL.len hR.ints,SSd,Nat.reduceAdd];refine AV (λej=>?_) (λej=>two (by simpa using ei) (.inl (by simp at ej;omega)));have hiv:i < V.length:=by simpa using ei
  have hji:j < Is.length:=by simp at ej;omega
  obtain ⟨q,off,c,hix,hl,hc,hcc⟩:=RL.ix hR.vers (i:=(i:Int)) (by omega) (by omega);rw [AX hiv] at hc;obtain ⟨v0,v1,rfl,h0,h1⟩:=hc;have hcv:=hcc I' [] (Ext.refl _) (λ_ h=>h);obtain ⟨q2,off2,c2,hix2,hl2,hc2,hcc2⟩:=RL.ix hR.ints (i:=(j:Int)) (by omega) (by omega);rw [AX hji] at hc2;obtain ⟨w0,w1,rfl,g0,g1⟩:=hc2;have hci:=hcc2 I' [] (Ext.refl _) (λ_ h=>h)
  refine Av (hR.head 0 _ rfl) (Ext.refl _) ?_;simp only [hix,SSd,Nat.reduceAdd];refine Av (hcv 0 _ rfl) (Ext.refl _) ?_;refine Bd h0 (Ext.refl _) ?_
  refine Av (hR.head 1 _ rfl) (Ext.refl _) ?_;simp only [hix2,SSd,Nat.reduceAdd];refine Av (hci 0 _ rfl) (Ext.refl _) ?_;refine Bd g0 (Ext.refl _) ?_;try refine O ?_
  refine AF (λe3=>two hiv (.inr ⟨hji,e3⟩)) (λe3=>six' hiv hji e3)
 ·have hiv':i < V.length:=by simpa using e
  refine AZ ?_
  refine Av (hR.head 0 _ rfl) (Ext.refl _) ?_;simp only [RL.len hR.vers,SSd,Nat.reduceAdd];refine AV (λei=>?_) (λei=>absurd hiv' (by simpa using ei))
  refine Av (hR.head 1 _ rfl) (Ext.refl _) ?_;simp only [RL.len hR.ints,SSd,Nat.reduceAdd];refine AV (λej=>?_) (λej=>two (by simpa using ei) (.inl (by simp at ej;omega)));have hiv:i < V.length:=by simpa using ei
  have hji:j < Is.length:=by simp at ej;omega
  obtain ⟨q,off,c,hix,hl,hc,hcc⟩:=RL.ix hR.vers (i:=(i:Int)) (by omega) (by omega);rw [AX hiv] at hc;obtain ⟨v0,v1,rfl,h0,h1⟩:=hc;have hcv:=hcc I' [] (Ext.refl _) (λ_ h=>h);obtain ⟨q2,off2,c2,hix2,hl2,hc2,hcc2⟩:=RL.ix hR.ints (i:=(j:Int)) (by omega) (by omega);rw [AX hji] at hc2;obtain ⟨w0,w1,rfl,g0,g1⟩:=hc2;have hci:=hcc2 I' [] (Ext.refl _) (λ_ h=>h)
  refine Av (hR.head 0 _ rfl) (Ext.refl _) ?_;simp only [hix,SSd,Nat.reduceAdd];refine Av (hcv 0 _ rfl) (Ext.refl _) ?_;refine Bd h0 (Ext.refl _) ?_
  refine Av (hR.head 1 _ rfl) (Ext.refl _) ?_;simp only [hix2,SSd,Nat.reduceAdd];refine Av (hci 0 _ rfl) (Ext.refl _) ?_;refine Bd g0 (Ext.refl _) ?_;try refine O ?_
  refine AF (λe3=>two hiv (.inr ⟨hji,e3⟩)) (λe3=>six' hiv hji e3)
end
section
variable {ω:Om}{I:Imm}{L:LH}{K:Value→M}
theorem RO (p:TSpan)(r:Row)(rs:List Row):inR p (r::rs)=if inB p r.key=true then r::inR p rs else inR p rs:=by
 unfold inR;rw [List.filter_cons]
theorem Qd {rows:List Row}(hs:SrtK (keysOf rows)){i:Nat}(hi:i < rows.length):rowOf rows rows[i].key=some rows[i]:=by
 have e:=GT hi;generalize rows[i]=r at e ⊢;have hm:Mid (rows.take i) r.key (rows.drop (i+1)):=SrtK.mid (e ▸ hs);conv=>lhs;rw [e]
 exact Bn hm rfl
def Hc (m:TStamp)(txn most:Int)(rows:List Row)(acc:List TKV):List TKV×Int×Int:=if (acc.length:Int)=most then (acc,0,0) else Cr m txn most rows acc
theorem Sn {m:TStamp}{txn most:Int}{r:Row}{rs:List Row}{acc:List TKV}(h:¬(acc.length:Int)=most):
  Hc m txn most (r::rs) acc=if (seen r m txn).2≠0 then ([],(seen r m txn).1.fBy,(seen r m txn).2) else Hc m txn most rs (push r (seen r m txn).1 acc):=by
 unfold Hc;rw [if_neg h];rfl
abbrev Wz (b1 b2:Nat)(v0 v1:Value)(m:TStamp)(R:LH):LH:=(b2,.cells #[.int .i64 m.fWall,.int .i64 m.fLogic] 41 (0,0))::(b1,.cells #[v0,v1] 31 (0,0))::R
theorem Sq {L0:LH}[LSub L0 L]{b:Nat}{vV vI:Value}{sp:Sp}{p:TSpan}{pc:List Value}{m:TStamp}{txn most:Int}(hR:RefF I L0 b vV vI (Aa sp.rows) (intsOf sp.rows) sp.floor)(hok:SpOk sp)(hlen:sp.rows.length≤100000000)(hn:Ac sp.rows≤100000000)(hp:DO I p pc)
  (hk:∀I' v,Ext I I'→RL TKVV 2 I' [] v (Bk sp p m txn most).1→K (.tuple #[v,.int .i64 (Bk sp p m txn most).2.1,.int .i64 (Bk sp p m txn most).2.2]) I' L):
  CT ω 50 #[pt b,.agg pc.toArray,sv m,.int .i64 txn,.int .i64 most] K I L:=by
 obtain ⟨v0,v1,rfl,hb0,hb1⟩:=hp;have hs:=hok.rise;have hz:∀I',Bytes I' (.slice none 0 0) []:=λI'=>SlI.nil I' 1 none 0;have bad:∀(b1 b2:Nat),((AN m&&Ai txn)=false∨most < 1)→Gh (K (.tuple #[.slice none 0 0,.int .i64 0,.int .i64 1])) I (Wz b1 b2 v0 v1 m L):=by
  intro b1 b2 hb;have eg:Bk sp p m txn most=([],0,1):=by unfold Bk;rw [if_pos hb]
  rw [eg] at hk;exact Gh.to L (Gh.done (hk I _ (Ext.refl _) (RL.nil _ _)))
 refine ANW ?_;unfold AJd;refine AQ (λb1=>AQ (λb2=>?_));refine rdB rfl ?_;refine call (Bl (x:=m) ?_);refine call (Fu ?_);try refine O ?_
 refine AV (λe=>?_) (λe=>bad _ _ (.inl (by have:AN m=false:=(by simpa using e);rw [this];rfl)));have k2:AN m=true:=by simpa using e
 refine AV (λe=>?_) (λe=>bad _ _ (.inl (by have:Ai txn=false:=(by simpa using e);rw [this];simp)));have k3:Ai txn=true:=by simpa using e
 refine AF (λe=>bad _ _ (.inr (by simpa using e))) (λe=>?_);have k4:¬most < 1:=by simpa using e
 have hf:¬((AN m&&Ai txn)=false∨most < 1):=by rw [k2,k3];simpa using k4
 have hc2:Cells I L0 b 2 [.int .i64 sp.floor.fWall,.int .i64 sp.floor.fLogic]:=by simpa using hR.head.sub (k:=2) (m:=2)
 refine AZ ?_
 refine Bo hc2 (Ext.refl _) rfl ?_;refine Ck rfl ?_;refine call (Ah (x:=sp.floor) (y:=m) ?_);refine AF (λe2=>?_) (λe2=>?_)
 ·have eg:Bk sp p m txn most=([],0,131):=by unfold Bk;rw [if_neg hf,if_pos e2]
  rw [eg] at hk;exact Gh.to L (Gh.done (hk I _ (Ext.refl _) (RL.nil _ _)))
 have eg:Bk sp p m txn most=Cr m txn most (inR p sp.rows) []:=by unfold Bk;rw [if_neg hf,if_neg (by rw [e2];simp)]
 rw [eg] at hk;have hIl:(intsOf sp.rows).length≤100000000:=by
  have:=List.length_filter_le (λr:Row=>r.it.txn != 0) sp.rows;simp [intsOf];omega
 refine call (Sy (L0:=L0) hR (by rw [DB];omega) (by omega) (λXK kv hK=>?_));have hmk:=OK (out:=[]) hs (λr hr=>(hok.rows r hr).some) (λl h=>by simp at h);unfold GQ Gj at hmk;rw [List.length_map,List.length_map,List.nil_append] at hmk;rw [hmk] at hK;have hkl:(keysOf sp.rows).length=sp.rows.length:=by simp [keysOf]
 have h0:Hc m txn most (inR p sp.rows) []=Cr m txn most (inR p sp.rows) []:=by unfold Hc;rw [if_neg (by simp;omega)]
 refine loop (λn s I' L'=>Ext I I'∧∃(i:Nat) (XO:LH) (vo:Value) (acc:List TKV) (cells:List Value),n+i=sp.rows.length∧s=(.slice none 0 0,.int .i64 0,.int .i64 0,vo,.int .i64 i,())∧L'=XK++Wz b1 b2 v0 v1 m (XO++L)∧
   SlO 113 2 XO vo cells acc.length∧Recs (TKVV I') 2 acc cells∧acc.length≤i∧(acc.length:Int)≤most∧Hc m txn most (inR p (sp.rows.drop i)) acc=Cr m txn most (inR p sp.rows) []) sp.rows.length
  ⟨Ext.refl _,0,[],_,[],[],rfl,rfl,rfl,SlO.none _ _,rfl,by simp,by simp;omega,by simpa using h0⟩ ?_
 rintro n s I' L' ⟨hI,i,XO,vo,acc,cells,hni,rfl,rfl,hO,hRc,hai,hmost,hsc⟩;have hR':=hR.mono (L':=L0) hI (λ_ h=>h);obtain ⟨oa,oc,rfl⟩:=hO.form;obtain ⟨ka,kc,rfl⟩:=hK.form;have fin:Cr m txn most (inR p sp.rows) []=(acc,0,0)→Gh (K (.tuple #[.slice oa acc.length oc,.int .i64 0,.int .i64 0])) I' (XK++Wz b1 b2 v0 v1 m (XO++L)):=by
  intro he;rw [he] at hk;refine Gh.to (XO++L) (SlO.freeze hO (λI3 hI3 hSl=>Gh.done ?_));exact hk I3 _ (hI.trans hI3) (RL.ofI hSl (hRc.imp λx c h=>h.mono hI3))
 unfold Yq;try refine O ?_
 refine AV (λe3=>?_) (λe3=>?_);rotate_left
 ·have hil:¬i < sp.rows.length:=by simpa [hkl] using e3
  refine fin ?_;rw [←hsc,List.drop_eq_nil_of_le (by omega)];unfold Hc;split <;> rfl
 have hil:i < sp.rows.length:=by simpa [hkl] using e3
 refine AF (λe4=>?_) (λe4=>?_);rotate_left
 ·have hm':(acc.length:Int)=most:=by simp at e4;omega
  refine fin ?_;rw [←hsc];unfold Hc;rw [if_pos hm']
 have hlt:¬(acc.length:Int)=most:=by simp at e4;omega
 have hrow:=Qd hs hil;have hdrop:sp.rows.drop i=sp.rows[i]::sp.rows.drop (i+1):=List.drop_eq_getElem_cons hil;have hkg:Dk (keysOf sp.rows) (i:Int)=sp.rows[i].key:=by rw [AX (by omega)];simp [keysOf]
 rw [hdrop] at hsc;generalize sp.rows[i]=r at *;obtain ⟨q,off,c,hix,hcl,hc,hcc⟩:=RL.ix (StrO.rl (I:=I') (L:=XK) hK (λ_ h=>h)) (i:=(i:Int)) (by omega) (by omega);obtain rfl:c=_:=hc;rw [hkg] at hcc;simp only [hix,SSd,Nat.reduceAdd];refine rdC (hcc I' XK (Ext.refl _) (λ_ h=>h) 0 _ rfl) (Ext.refl _) ?_;refine Th (λku I3 hI3 hKB=>Gh.done ?_);obtain ⟨ga,gc,rfl⟩:=Bytes.form hKB;refine rdB rfl ?_;refine call (FA (p:=p) ⟨v0,v1,rfl,hb0.mono (hI.trans hI3),hb1.mono (hI.trans hI3)⟩ hKB ?_);try refine O ?_
 have next:∀(I4:Imm) (XO4:LH) (v4:Value) (acc4:List TKV) (cells4:List Value) (L4:LH),Ext I' I4→SubP (XK++Wz b1 b2 v0 v1 m (XO4++L)) L4→SlO 113 2 XO4 v4 cells4 acc4.length→Recs (TKVV I4) 2 acc4 cells4→acc4.length≤i+1→(acc4.length:Int)≤most→Hc m txn most (inR p (sp.rows.drop (i+1))) acc4=Cr m txn most (inR p sp.rows) []→
   LT ω (.slice none 0 0) (.int .i64 0) (.int .i64 0) v4 (.int .i64 i) (λs'=>Gh λI2 L2=>∃m',m' < n∧Ext I I2∧∃(i:Nat) (XO:LH) (vo:Value) (acc:List TKV) (cells:List Value),m'+i=sp.rows.length∧s'=(.slice none 0 0,.int .i64 0,.int .i64 0,vo,.int .i64 i,())∧L2=XK++Wz b1 b2 v0 v1 m (XO++L)∧
   SlO 113 2 XO vo cells acc.length∧Recs (TKVV I2) 2 acc cells∧acc.length≤i∧(acc.length:Int)≤most∧Hc m txn most (inR p (sp.rows.drop i)) acc=Cr m txn most (inR p sp.rows) []) (λv=>Gh (K v)) I4 L4:=by
  intro I4 XO4 v4 acc4 cells4 L4 hI4 hsub hO4 hR4 ha4 hm4 hs4;unfold LT;try refine O ?_
  rw [wrap_i64 _ (by omega)];exact Gh.to (XK++Wz b1 b2 v0 v1 m (XO4++L)) (Gh.done ⟨n - 1,by omega,hI.trans hI4,i+1,XO4,v4,acc4,cells4,by omega,rfl,rfl,hO4,hR4,ha4,hm4,hs4⟩)
 rw [RO] at hsc;refine AF (λe5=>?_) (λe5=>?_)
 ·have hin:inB p r.key=false:=by simpa using e5
  rw [if_neg (by rw [hin];simp)] at hsc;exact next I3 XO _ acc cells _ hI3 inferInstance hO (hRc.imp λx c h=>h.mono hI3) (by omega) hmost hsc
 have hin:inB p r.key=true:=by simpa using e5
 rw [if_pos hin,Sn hlt] at hsc;refine rdB rfl ?_;have hg:Gk sp.rows r.key m txn=seen r m txn:=by unfold Gk;rw [hrow]
 refine call (Lg (L0:=L0) (hR'.mono hI3 (λ_ h=>h)) hok hKB hlen hn (λw0 hw0=>?_));rw [hg] at hw0 ⊢;obtain ⟨wa,wc,rfl⟩:=Bytes.form hw0;try refine O ?_
 refine AQ (λb3=>?_);refine stB rfl rfl (AH rfl) ?_;try refine O ?_
 refine AF (λe6=>?_) (λe6=>?_)
 ·have e6':(seen r m txn).2≠0:=by simpa using e6
  rw [if_pos e6'] at hsc;rw [←hsc] at hk;unfold Yp;refine AZ ?_;try refine O ?_
  refine Ab ?_;exact Gh.to L (Gh.done (hk I3 _ (hI.trans hI3) (RL.nil _ _)))
 have e6':¬(seen r m txn).2≠0:=by simpa using e6
 rw [if_neg e6'] at hsc
 refine rdb ?_;refine AF (λe7=>?_) (λe7=>?_)
 ·have hpush:push r (seen r m txn).1 acc=acc++[⟨r.key,(seen r m txn).1.fValue⟩]:=by unfold push;rw [if_pos e7]
  rw [hpush] at hsc;unfold Yo;try refine O ?_
  refine rdb ?_;try refine O ?_
  refine DD (R:=TKVV) (X6:=XO) (x:=⟨r.key,(seen r m txn).1.fValue⟩) rfl (by omega) hO (hRc.imp λx c h=>h.mono hI3) ⟨_,_,rfl,hKB,hw0⟩ rfl (AH rfl) (by omega) (by omega) (λX1 X6 v6 cells6 h6 hR6=>?_);refine next I3 X6 v6 _ cells6 _ hI3 inferInstance h6 hR6 (by simp;omega) (by simp;omega) hsc
 ·have hpush:push r (seen r m txn).1 acc=acc:=by unfold push;rw [if_neg (by rw [e7];simp)]
  rw [hpush] at hsc;exact next I3 XO _ acc cells _ hI3 inferInstance hO (hRc.imp λx c h=>h.mono hI3) (by omega) hmost hsc
theorem Xg {a b:TStamp}{vs:List TVer}(h:vs.Pairwise λx y=>bhd y.fAt x.fAt=true):Jv a b vs=vs.any λv=>bhd v.fAt a&& !bhd v.fAt b:=by
 rw [Bool.eq_iff_iff,List.any_eq_true];unfold Jv;constructor
 ·intro hl;cases hu:upTo vs b with
  |none=>rw [hu] at hl;cases hl
  |some v=>
   rw [hu] at hl;have h1:bhd v.fAt b=false:=by
    unfold upTo at hu;simpa using List.find?_some hu
   exact ⟨v,QN hu,by simp only at hl;rw [hl,h1];rfl⟩
 ·rintro ⟨v,hv,hc⟩;simp only [Bool.and_eq_true,Bool.not_eq_true'] at hc;cases hu:upTo vs b with
  |none=>
   unfold upTo at hu;have:=List.find?_eq_none.1 hu v (List.mem_reverse.2 hv);rw [hc.2] at this;simp at this
  |some u=>
   simp only
   unfold upTo at hu;obtain ⟨h1,A,B,he,hA⟩:=List.find?_eq_some_iff_append.1 hu;have e:vs=B.reverse++u::A.reverse:=by
    have:=congrArg List.reverse he;simpa using this
   rw [e] at hv h;rcases List.mem_append.1 hv with hv|hv
   ·exact HT ((List.pairwise_append.1 h).2.2 v hv u (List.mem_cons_self ..)) hc.1
   ·rcases List.mem_cons.1 hv with rfl|hv
    ·exact hc.1
    ·have:=hA v (List.mem_reverse.1 hv);rw [hc.2] at this;simp at this
def chV (p:TSpan)(a b:TStamp)(v:TVersion):Bool:=inB p v.fKey&&(bhd v.fAt a&& !bhd v.fAt b)
def chI (p:TSpan)(b:TStamp)(txn:Int)(x:TIntent):Bool:=inB p x.fKey&&((x.fTxn != txn)&& !bhd x.fAt b)
theorem AEf {p:TSpan}{a b:TStamp}{txn:Int}:∀{rows:List Row},(∀r∈rows,RowOk r)→((Aa rows).any (chV p a b)||(intsOf rows).any (chI p b txn))=(inR p rows).any (chR a b txn)
 |[],_=>rfl
 |r::rs,h=>by
  have ih:=AEf (p:=p) (a:=a) (b:=b) (txn:=txn) (rows:=rs) (λx hx=>h x (List.mem_cons_of_mem _ hx));have hr:=h r (List.mem_cons_self ..);rw [BB,BT,RO,List.any_append,List.any_append];have e1:(r.vs.map (FY r.key)).any (chV p a b)=(inB p r.key&&Jv a b r.vs):=by
   rw [Xg hr.rise,List.any_map];have ef:(chV p a b ∘ FY r.key)=λx=>inB p r.key&&(bhd x.fAt a&& !bhd x.fAt b):=rfl;rw [ef];cases inB p r.key <;> simp
  have e2:((if r.it.txn=0 then [] else [itF r]).any (chI p b txn))=(inB p r.key&&(r.it.txn != 0&&(r.it.txn != txn)&& !bhd r.it.ver.fAt b)):=by
   by_cases h0:r.it.txn=0
   ·rw [if_pos h0,h0];simp
   ·rw [if_neg h0];have h0':(r.it.txn != 0)=true:=by simpa using h0
    show (chI p b txn (itF r)||false)=_;simp only [chI,itF,h0',Bool.true_and,Bool.or_false]
  rw [e1,e2];cases hb:inB p r.key with
  |false=>simp only [Bool.false_and,Bool.false_or];rw [if_neg (by simp)];exact ih
  |true=>
   rw [if_pos rfl,List.any_cons,←ih];unfold chR;generalize (Aa rs).any (chV p a b)=w1;generalize (intsOf rs).any (chI p b txn)=w2;generalize Jv a b r.vs=w3;generalize (r.it.txn != 0&&r.it.txn != txn&& !bhd r.it.ver.fAt b)=w4;cases w1 <;> cases w2 <;> cases w3 <;> cases w4 <;> rfl
abbrev TI (b1 b2 b3:Nat)(v0 v1:Value)(fr to:TStamp)(R:LH):LH:=(b3,.cells #[.int .i64 to.fWall,.int .i64 to.fLogic] 41 (0,0))::(b2,.cells #[.int .i64 fr.fWall,.int .i64 fr.fLogic] 41 (0,0))::(b1,.cells #[v0,v1] 31 (0,0))::R
theorem SK {α:Type}{f:α→Bool}{l:List α}{i:Nat}(hi:i < l.length):(l.take (i+1)).any f=((l.take i).any f||f l[i]):=by
 rw [take_snoc hi,List.any_append];simp
theorem AFu {α:Type}{f:α→Bool}{l:List α}{i:Nat}(hi:i < l.length)(h:f l[i]=true):l.any f=true:=List.any_eq_true.2 ⟨_,List.getElem_mem hi,h⟩
theorem NN {L0:LH}[LSub L0 L]{b:Nat}{vV vI:Value}{sp:Sp}{p:TSpan}{pc:List Value}{fr to:TStamp}{txn:Int}(hR:RefF I L0 b vV vI (Aa sp.rows) (intsOf sp.rows) sp.floor)(hok:SpOk sp)(hlen:sp.rows.length≤100000000)(hn:Ac sp.rows≤100000000)(hp:DO I p pc)
  (hk:K (.tuple #[.bool (chF sp p fr to txn).1,.int .i64 (chF sp p fr to txn).2]) I L):
  CT ω 172 #[pt b,.agg pc.toArray,sv fr,sv to,.int .i64 txn] K I L:=by
 obtain ⟨v0,v1,rfl,hb0,hb1⟩:=hp;have hp:DO I p [v0,v1]:=⟨v0,v1,rfl,hb0,hb1⟩;have bad:∀(b1 b2 b3:Nat),((AN fr&&Ai txn)=false∨AN to=false)→Gh (K (.tuple #[.bool false,.int .i64 1])) I (TI b1 b2 b3 v0 v1 fr to L):=by
  intro b1 b2 b3 hb;have eg:chF sp p fr to txn=(false,1):=by unfold chF;rw [if_pos hb]
  rw [eg] at hk;exact Gh.to L (Gh.done hk)
 have hch:=AEf (p:=p) (a:=fr) (b:=to) (txn:=txn) hok.rows;have hVl:(Aa sp.rows).length≤100000000:=by rw [DB];exact hn
 have hIl:(intsOf sp.rows).length≤100000000:=by
  have:=List.length_filter_le (λr:Row=>r.it.txn != 0) sp.rows;simp [intsOf];omega
 refine ALL ?_;unfold ABS;refine AQ (λb1=>AQ (λb2=>AQ (λb3=>?_)));refine rdB rfl ?_;refine call (Bl (x:=fr) ?_);refine rdB rfl ?_;refine call (Bl (x:=to) ?_);refine call (Fu ?_);try refine O ?_
 refine AV (λe=>?_) (λe=>bad _ _ _ (.inl (by have:AN fr=false:=(by simpa using e);rw [this];rfl)));have k1:AN fr=true:=by simpa using e
 refine AV (λe=>?_) (λe=>bad _ _ _ (.inr (by simpa using e)));have k2:AN to=true:=by simpa using e
 refine AF (λe=>bad _ _ _ (.inl (by have:Ai txn=false:=(by simpa using e);rw [this];simp))) (λe=>?_);have k3:Ai txn=true:=by simpa using e
 have hf:¬((AN fr&&Ai txn)=false∨AN to=false):=by rw [k1,k2,k3];simp
 have hc2:Cells I L0 b 2 [.int .i64 sp.floor.fWall,.int .i64 sp.floor.fLogic]:=by simpa using hR.head.sub (k:=2) (m:=2)
 refine AZ ?_
 refine Bo hc2 (Ext.refl _) rfl ?_;refine Ck rfl ?_;refine call (Ah (x:=sp.floor) (y:=fr) ?_);refine AF (λe2=>?_) (λe2=>?_)
 ·have eg:chF sp p fr to txn=(false,131):=by unfold chF;rw [if_neg hf,if_pos e2]
  rw [eg] at hk;exact Gh.to L (Gh.done hk)
 have eg:chF sp p fr to txn=((inR p sp.rows).any (chR fr to txn),0):=by unfold chF;rw [if_neg hf,if_neg (by rw [e2];simp)]
 rw [eg,←hch] at hk;have hR1:=hR.vers;have hR2:=hR.ints;generalize Aa sp.rows=V at *;generalize intsOf sp.rows=Is at *;refine loop (λn s I' L'=>I'=I∧∃i:Nat,n+i=V.length∧s=(.bool false,.int .i64 0,.int .i64 i,())∧L'=TI b1 b2 b3 v0 v1 fr to L∧(V.take i).any (chV p fr to)=false) V.length ⟨rfl,0,rfl,rfl,rfl,by simp⟩ ?_;rintro n s I' L' ⟨rfl,i,hni,rfl,rfl,hA⟩;unfold Uv;try refine O ?_
 refine rdC (hR.head 0 _ rfl) (Ext.refl _) ?_;simp only [RL.len hR1,SSd,Nat.reduceAdd];refine AF (λe3=>?_) (λe3=>?_)
 ·have hil:i < V.length:=by simpa using e3
  have hat:=SK (f:=chV p fr to) hil;rw [hA,Bool.false_or] at hat;obtain ⟨q,off,c,hix,hcl,hc,hcc⟩:=RL.ix hR1 (i:=(i:Int)) (by omega) (by omega);rw [AX hil] at hc;have hanyV:chV p fr to V[i]=true→V.any (chV p fr to)=true:=AFu hil;generalize V[i]=v at *;obtain ⟨w0,w1,rfl,h0,h1⟩:=hc;have hcv:=hcc I' [] (Ext.refl _) (λ_ h=>h);have hst:Cells I' [] q (off+1) [.int .i64 v.fAt.fWall,.int .i64 v.fAt.fLogic]:=by simpa using hcv.sub (k:=1) (m:=2)
  have next:∀(hno:chV p fr to v=false),Gh (λI2 L2=>∃m',m' < n∧I2=I'∧∃j:Nat,m'+j=V.length∧((Value.bool false,Value.int .i64 0,Value.int .i64 ((i:Int)+1),()):Value×Value×Value×Unit)=(.bool false,.int .i64 0,.int .i64 j,())∧L2=TI b1 b2 b3 v0 v1 fr to L∧(V.take j).any (chV p fr to)=false) I' (TI b1 b2 b3 v0 v1 fr to L):=
   λhno=>Gh.done ⟨n - 1,by omega,rfl,i+1,by omega,rfl,rfl,by rw [hat,hno]⟩
  refine AZ ?_;refine Ck rfl ?_
  refine Av (hR.head 0 _ rfl) (Ext.refl _) ?_;simp only [hix,SSd,Nat.reduceAdd];refine Av (hcv 0 _ rfl) (Ext.refl _) ?_;refine call (FA hp h0 ?_);refine AZ ?_
  refine Av (hR.head 0 _ rfl) (Ext.refl _) ?_;simp only [hix,SSd,Nat.reduceAdd];refine Bo hst (Ext.refl _) rfl ?_;refine Ck rfl ?_;refine call (Ah (x:=v.fAt) (y:=fr) ?_);refine AZ ?_
  refine Av (hR.head 0 _ rfl) (Ext.refl _) ?_;simp only [hix,SSd,Nat.reduceAdd];refine Bo hst (Ext.refl _) rfl ?_;refine Ck rfl ?_;refine call (Ah (x:=v.fAt) (y:=to) ?_);simp only [wrap_i64 ((i:Int)+1) (by omega),SSd,Nat.reduceAdd];refine AV (λc1=>?_) (λc1=>next (by unfold chV;rw [Bool.eq_false_iff.2 c1];rfl));refine AV (λc2=>?_) (λc2=>next (by unfold chV;rw [Bool.eq_false_iff.2 c2];simp));refine AF (λc3=>?_) (λc3=>next (by unfold chV;rw [c3];simp));have hy:=hanyV (by unfold chV;rw [c1,c2,c3];rfl);rw [hy,Bool.true_or] at hk;exact Gh.to L (Gh.done hk)
 have hiV:i=V.length:=by simp at e3;omega
 subst hiV;rw [List.take_length] at hA;rw [hA,Bool.false_or] at hk;unfold Uu;refine loop (λn s I2 L'=>I2=I'∧∃i:Nat,n+i=Is.length∧s=(.bool false,.int .i64 0,.int .i64 i,())∧L'=TI b1 b2 b3 v0 v1 fr to L∧(Is.take i).any (chI p to txn)=false) Is.length ⟨rfl,0,rfl,rfl,rfl,by simp⟩ ?_;rintro n2 s2 I2 L2 ⟨rfl,i,hni2,rfl,rfl,hA2⟩;unfold Ut;try refine O ?_
 refine rdC (hR.head 1 _ rfl) (Ext.refl _) ?_;simp only [RL.len hR2,SSd,Nat.reduceAdd];refine AF (λe4=>?_) (λe4=>?_)
 ·have hil:i < Is.length:=by simpa using e4
  have hat:=SK (f:=chI p to txn) hil;rw [hA2,Bool.false_or] at hat;obtain ⟨q,off,c,hix,hcl,hc,hcc⟩:=RL.ix hR2 (i:=(i:Int)) (by omega) (by omega);rw [AX hil] at hc;have hanyI:chI p to txn Is[i]=true→Is.any (chI p to txn)=true:=AFu hil;generalize Is[i]=v at *;obtain ⟨w0,w1,rfl,h0,h1⟩:=hc;have hcv:=hcc I2 [] (Ext.refl _) (λ_ h=>h);have hst:Cells I2 [] q (off+2) [.int .i64 v.fAt.fWall,.int .i64 v.fAt.fLogic]:=by simpa using hcv.sub (k:=2) (m:=2)
  have next:∀(hno:chI p to txn v=false),Gh (λI3 L3=>∃m',m' < n2∧I3=I2∧∃j:Nat,m'+j=Is.length∧((Value.bool false,Value.int .i64 0,Value.int .i64 ((i:Int)+1),()):Value×Value×Value×Unit)=(.bool false,.int .i64 0,.int .i64 j,())∧L3=TI b1 b2 b3 v0 v1 fr to L∧(Is.take j).any (chI p to txn)=false) I2 (TI b1 b2 b3 v0 v1 fr to L):=
   λhno=>Gh.done ⟨n2 - 1,by omega,rfl,i+1,by omega,rfl,rfl,by rw [hat,hno]⟩
  refine AZ ?_;refine Ck rfl ?_
  refine Av (hR.head 1 _ rfl) (Ext.refl _) ?_;simp only [hix,SSd,Nat.reduceAdd];refine Av (hcv 0 _ rfl) (Ext.refl _) ?_;refine call (FA hp h0 ?_);refine AZ ?_
  refine Av (hR.head 1 _ rfl) (Ext.refl _) ?_;simp only [hix,SSd,Nat.reduceAdd];refine Bo hst (Ext.refl _) rfl ?_;refine Ck rfl ?_;refine call (Ah (x:=v.fAt) (y:=to) ?_);simp only [wrap_i64 ((i:Int)+1) (by omega),SSd,Nat.reduceAdd];refine AV (λc1=>?_) (λc1=>next (by unfold chI;rw [Bool.eq_false_iff.2 c1];rfl))
  refine rdC (hR.head 1 _ rfl) (Ext.refl _) ?_;simp only [hix,SSd,Nat.reduceAdd];refine rdC (hcv 1 _ rfl) (Ext.refl _) ?_;try refine O ?_
  refine AV (λc2=>?_) (λc2=>next (by unfold chI;rw [Bool.eq_false_iff.2 c2];simp))
  refine AF (λc3=>?_) (λc3=>next (by unfold chI;rw [c3];simp));have hy:=hanyI (by unfold chI;rw [c1,c2,c3];rfl);rw [hy] at hk;exact Gh.to L (Gh.done hk)
 have hiI:i=Is.length:=by simp at e4;omega
 subst hiI;rw [List.take_length] at hA2;rw [hA2] at hk;exact Gh.to L (Gh.done hk)
end
section
variable {ω:Om}{I:Imm}{L:LH}{K:Value→M}
theorem Ct {α:Type}{R:Imm→α→List Value→Prop}{T n bytes:Nat}{z:Array Value}{X6 L0 F:LH}{v:Value}{xs:List α}{x:α}{c cells:List Value}[SplitL X6 L0 F](hz:z.size=n)(hn:0 < n)(h6:SlO T n X6 v cells xs.length)(hR:Recs (R I) n xs cells)(hx:R I x c)(hcl:c.length=n)(h1:∀u∈c,u.oneCell'=true)(hb:(xs.length+1) * bytes≤150000000000000)(hl:xs.length+1≤150000000000000)
  (hk:∀X1 X6' v' cells',SlO T n X6' v' cells' (xs++[x]).length→Recs (R I) n (xs++[x]) cells'→Gh (K v') I (X6'++(X1++F))):
  Aq T n z 1 [(0,.agg c.toArray)] (gh λu=>App T n bytes z v u (gh K)) I L0:=by
 refine EH hz hn (by simpa [Value.cells] using hcl) (λX1 u hX1=>?_);refine Fi (X:=X6) hz h6 (hX1.news (λx hx=>List.mem_append_left _ hx)) (λu hu=>h1 u (by simpa [Value.cells] using hu)) hb hl (λX' v' hX'=>?_);exact hk X1 X' v' _ (by simpa [Value.cells] using hX') (Recs.append hR (Recs.one (by simpa [Value.cells] using hcl) (by simpa [Value.cells] using hx)))
abbrev BC (vV vI:Value)(fl:TStamp):Obj:=.cells #[vV,vI,.int .i64 fl.fWall,.int .i64 fl.fLogic] 120 (0,0)
theorem ADd {b:Nat}{vV vI:Value}{V:List TVersion}{Is:List TIntent}{fl:TStamp}(hm:(b,BC vV vI fl)∈L)(h1:RL TVersionV 5 I [] vV V)(h2:RL TIntentV 6 I [] vI Is):RefF I L b vV vI V Is fl:=
 ⟨Ch (l:=[vV,vI,.int .i64 fl.fWall,.int .i64 fl.fLogic]) hm 4,h1,h2⟩
abbrev KK (v0 v1:Value)(x:TIntent):Obj:=.cells #[v0,.int .i64 x.fTxn,.int .i64 x.fAt.fWall,.int .i64 x.fAt.fLogic,.bool x.fDel,v1] 190 (0,0)
theorem Wr {b b1 i:Nat}{vV vI v0 v1 v:Value}{V:List TVersion}{Is:List TIntent}{fl:TStamp}{x:TIntent}{d:Bool}{acc:List TIntent}{cells:List Value}{XO F:LH}{Kn0:(Value×Value×Value×Unit)→M}(hV:RL TVersionV 5 I [] vV V)(hI:RL TIntentV 6 I [] vI Is)(h0:Bytes I v0 x.fKey)(hi:i < Is.length)(hil:Is.length≤400000000)
  (hO:SlO 190 6 XO v cells acc.length) (hR:Recs (TIntentV I) 6 acc cells) (hal:acc.length≤800000000)
  (hk:∀XO' v' cells',SlO 190 6 XO' v' cells' (acc++(if Is[i].fKey≠x.fKey then [Is[i]] else [])).length→Recs (TIntentV I) 6 (acc++(if Is[i].fKey≠x.fKey then [Is[i]] else [])) cells'→Gh (Kn0 (v',.bool d,.int .i64 ((i:Int)+1),())) I ((b1,KK v0 v1 x)::(b,BC vV vI fl)::(XO'++F))):
  HB ω (pt b) (pt b1) v (.bool d) (.int .i64 i) (λs=>Gh (Kn0 s)) (λv=>Gh (K v)) I ((b1,KK v0 v1 x)::(b,BC vV vI fl)::(XO++F)):=by
 obtain ⟨q,off,c,hix,hcl,hc,hcc⟩:=RL.ix hI (i:=(i:Int)) (by omega) (by omega);rw [AX hi] at hc;generalize Is[i]=y at *;obtain ⟨w0,w1,rfl,g0,g1⟩:=hc;have hcv:=hcc I [] (Ext.refl _) (λ_ h=>h);unfold HB;refine AZ ?_;try refine O ?_
 refine Ab ?_;simp only [hix,SSd,Nat.reduceAdd];refine Av (hcv 0 _ rfl) (Ext.refl _) ?_;refine Bd g0 (Ext.refl _) ?_
 refine Ab ?_;refine Bd h0 (Ext.refl _) ?_;simp only [sNe,SSd,Nat.reduceAdd];refine AF (λe=>?_) (λe=>?_)
 ·have e':y.fKey≠x.fKey:=by simpa using e
  rw [if_pos e'] at hk;refine rdb ?_;simp only [hix,SSd,Nat.reduceAdd];refine FT hcv (Ext.refl _) rfl ?_;refine DD (R:=TIntentV) (X6:=XO) (x:=y) rfl (by omega) hO hR ⟨w0,w1,rfl,g0,g1⟩ rfl (by
   obtain ⟨_,_,rfl⟩:=Bytes.form g0;obtain ⟨_,_,rfl⟩:=Bytes.form g1;exact AH rfl) (by omega) (by omega) (λX1 X6 v6 cells6 h6 hR6=>?_)
  unfold KW;try refine O ?_
  rw [wrap_i64 _ (by omega)];exact Gh.to ((b1,KK v0 v1 x)::(b,BC vV vI fl)::(X6++F)) (hk X6 v6 cells6 h6 hR6)
 ·have e':¬y.fKey≠x.fKey:=by simpa using e
  rw [if_neg e',List.append_nil] at hk;unfold KW;try refine O ?_
  rw [wrap_i64 _ (by omega)];exact hk XO v cells hO hR
theorem QV {b:Nat}{vV vI v0 v1:Value}{V:List TVersion}{Is:List TIntent}{fl:TStamp}{x:TIntent}{F:LH}(hV:RL TVersionV 5 I [] vV V)(hI:RL TIntentV 6 I [] vI Is)(h0:Bytes I v0 x.fKey)(h1:Bytes I v1 x.fValue)(hil:Is.length≤400000000)
  (hk:∀I' vI',Ext I I'→RL TIntentV 6 I' [] vI' (FS x false Is)→K (.tuple #[]) I' ((b,BC vV vI' fl)::F)):
  CT ω 228 #[pt b,.agg (itV v0 v1 x).toArray] K I ((b,BC vV vI fl)::F):=by
 have hx:TIntentV I x (itV v0 v1 x):=⟨v0,v1,rfl,h0,h1⟩;have hx1:∀u∈itV v0 v1 x,u.oneCell'=true:=by
  obtain ⟨_,_,rfl⟩:=Bytes.form h0;obtain ⟨_,_,rfl⟩:=Bytes.form h1;exact AH rfl
 refine AKf ?_;unfold AAG;refine AQ (λb1=>?_);refine loop (λn s I' L'=>I'=I∧∃(i:Nat) (d:Bool) (XO:LH) (v:Value) (acc:List TIntent) (cells:List Value),n+i=Is.length∧s=(v,.bool d,.int .i64 i,())∧L'=(b1,KK v0 v1 x)::(b,BC vV vI fl)::(XO++F)∧SlO 190 6 XO v cells acc.length∧Recs (TIntentV I) 6 acc cells∧acc.length≤2 * i∧
   acc++FS x d (Is.drop i)=FS x false Is) Is.length ⟨rfl,0,false,[],_,[],[],rfl,rfl,rfl,SlO.none _ _,rfl,by simp,rfl⟩ ?_
 rintro n s I' L' ⟨rfl,i,d,XO,v,acc,cells,hni,rfl,rfl,hO,hR,hal,hA⟩;unfold UX;try refine O ?_
 refine rdb ?_;simp only [RL.len hI,SSd,Nat.reduceAdd];have end8:∀(XO:LH) (v:Value) (cells:List Value) (acc:List TIntent),SlO 190 6 XO v cells acc.length→Recs (TIntentV I') 6 acc cells→acc=FS x false Is→KV ω (pt b) v (λv=>Gh (K v)) I' ((b1,KK v0 v1 x)::(b,BC vV vI fl)::(XO++F)):=by
  intro XO v cells acc hO hR he;subst he;obtain ⟨oa,oc,rfl⟩:=hO.form;unfold KV;try refine O ?_
  refine st1 rfl ?_;refine Gh.to (XO++((b,BC vV (.slice oa (FS x false Is).length oc) fl)::F)) (SlO.freeze hO (λI3 hI3 hSl=>Gh.done ?_));exact hk I3 _ hI3 (RL.ofI hSl (hR.imp λx c h=>h.mono hI3))
 refine AF (λe=>?_) (λe=>?_)
 ·have hi:i < Is.length:=by simpa using e
  have hd:Is.drop i=Is[i]::Is.drop (i+1):=List.drop_eq_getElem_cons hi;rw [hd,FS] at hA;obtain ⟨q,off,c,hix,hcl,hc,hcc⟩:=RL.ix hI (i:=(i:Int)) (by omega) (by omega);rw [AX hi] at hc;have three:∀(XO:LH) (v:Value) (cells:List Value) (acc:List TIntent) (d:Bool),SlO 190 6 XO v cells acc.length→Recs (TIntentV I') 6 acc cells→acc.length≤2 * i+1→acc++((if Is[i].fKey≠x.fKey then [Is[i]] else [])++FS x d (Is.drop (i+1)))=FS x false Is→
    HB ω (pt b) (pt b1) v (.bool d) (.int .i64 i) (λs'=>Gh λI2 L2=>∃m',m' < n∧I2=I'∧∃(i:Nat) (d:Bool) (XO:LH) (v:Value) (acc:List TIntent) (cells:List Value),m'+i=Is.length∧s'=(v,.bool d,.int .i64 i,())∧L2=(b1,KK v0 v1 x)::(b,BC vV vI fl)::(XO++F)∧SlO 190 6 XO v cells acc.length∧Recs (TIntentV I') 6 acc cells∧acc.length≤2 * i∧
   acc++FS x d (Is.drop i)=FS x false Is) (λv=>Gh (K v)) I' ((b1,KK v0 v1 x)::(b,BC vV vI fl)::(XO++F)):=by
   intro XO v cells acc d hO hR hal hA;refine Wr hV hI h0 hi hil hO hR (by omega) (λXO' v' cells' hO' hR'=>Gh.done ⟨n - 1,by omega,rfl,i+1,d,XO',v',_,cells',by omega,rfl,rfl,hO',hR',?_,by rw [List.append_assoc];exact hA⟩);rw [List.length_append];split <;> simp <;> omega
  generalize Is[i]=y at *;obtain ⟨w0,w1,rfl,g0,g1⟩:=hc;have hcv:=hcc I' [] (Ext.refl _) (λ_ h=>h);refine AZ ?_
  cases d with
  |true=>
   simp only [Bool.not_true,Bool.false_and,Bool.true_or] at hA;rw [if_neg (by simp)] at hA;simp only [Bool.not_true,SSd,Nat.reduceAdd];exact three XO v cells acc true hO hR (by omega) hA
  |false=>
   simp only [Bool.not_false,SSd,Nat.reduceAdd];refine Ab ?_;simp only [hix,SSd,Nat.reduceAdd];refine Av (hcv 0 _ rfl) (Ext.refl _) ?_;refine Bd g0 (Ext.refl _) ?_
   refine Ab ?_;refine Bd h0 (Ext.refl _) ?_;simp only [sGe,SSd,Nat.reduceAdd];refine AF (λe2=>?_) (λe2=>?_)
   ·rw [e2] at hA;simp only [Bool.not_false,Bool.and_self,Bool.or_true,if_true] at hA;unfold UW;refine rdB rfl ?_;refine Ct (R:=TIntentV) (X6:=XO) (x:=x) rfl (by omega) hO hR hx rfl hx1 (by omega) (by omega) (λX1 X6 v6 cells6 h6 hR6=>?_);refine Gh.to ((b1,KK v0 v1 x)::(b,BC vV vI fl)::(X6++F)) (Gh.done (three X6 v6 cells6 _ true h6 hR6 (by simp;omega) ?_));rw [List.append_assoc];exact hA
   ·rw [e2] at hA;simp only [Bool.not_false,Bool.and_false,Bool.or_false] at hA;rw [if_neg (by simp)] at hA;exact three XO v cells acc false hO hR (by omega) hA
 ·have hi:i=Is.length:=by simp at e;omega
  subst hi;rw [List.drop_length,FS] at hA;unfold UV;try refine O ?_
  cases d with
  |true=>
   simp only [Bool.not_true,SSd,Nat.reduceAdd];exact end8 XO v cells acc hO hR (by simpa using hA)
  |false=>
   simp only [Bool.not_false,SSd,Nat.reduceAdd];refine rdB rfl ?_;refine Ct (R:=TIntentV) (X6:=XO) (x:=x) rfl (by omega) hO hR hx rfl hx1 (by omega) (by omega) (λX1 X6 v6 cells6 h6 hR6=>?_);exact Gh.to ((b1,KK v0 v1 x)::(b,BC vV vI fl)::(X6++F)) (Gh.done (end8 X6 v6 cells6 _ h6 hR6 (by simpa using hA)))
def xAt (x:TIntent)(a:TStamp):TIntent:=⟨x.fKey,x.fTxn,a,x.fDel,x.fValue⟩
abbrev rpL (b b1 b2:Nat)(vV vI v0 v1:Value)(x:TIntent)(a fl:TStamp)(F:LH):LH:=(b2,.cells #[.int .i64 0,.int .i64 0] 41 (0,0))::(b1,KK v0 v1 (xAt x a))::(b,BC vV vI fl)::F
theorem Nr {b:Nat}{vV vI:Value}{x:TIntent}{c:List Value}{F:LH}{sp:Sp}(h1:RL TVersionV 5 I [] vV (Aa sp.rows))(h2:RL TIntentV 6 I [] vI (intsOf sp.rows))(hok:SpOk sp)(hlen:sp.rows.length≤100000000)(hn:Ac sp.rows≤100000000)(hx:TIntentV I x c)
  (hk:∀I' vI',Ext I I'→RL TIntentV 6 I' [] vI' (intsOf (CI sp x).rows)→K (.tuple #[sv (At sp x).1,.int .i64 (At sp x).2.1,.int .i64 (At sp x).2.2]) I' ((b,BC vV vI' sp.floor)::F)):
  CT ω 170 #[pt b,.agg c.toArray] K I ((b,BC vV vI sp.floor)::F):=by
 obtain ⟨v0,v1,rfl,g0,g1⟩:=hx;have hs:=hok.rise;have hVl:(Aa sp.rows).length≤100000000:=by rw [DB];exact hn
 have hIl:(intsOf sp.rows).length≤100000000:=by
  have:=List.length_filter_le (λr:Row=>r.it.txn != 0) sp.rows;simp [intsOf];omega
 have hR:∀{L':LH},(b,BC vV vI sp.floor)∈L'→RefF I L' b vV vI (Aa sp.rows) (intsOf sp.rows) sp.floor:=λhm=>ADd hm h1 h2;obtain ⟨ka,kc,rfl⟩:=Bytes.form g0;obtain ⟨va,vc,rfl⟩:=Bytes.form g1;have err:∀by' e,At sp x=(z0,by',e)→e≠0→K (.tuple #[sv z0,.int .i64 by',.int .i64 e]) I ((b,BC vV vI sp.floor)::F):=by
  intro by' e ha he;have e2:CI sp x=sp:=by unfold CI;rw [ha];exact if_pos he
  rw [e2] at hk;have hk':=hk I vI (Ext.refl _) h2;rw [ha] at hk';exact hk'
 refine ALN ?_;unfold sh170;refine AQ (λb1=>AQ (λb2=>?_));have bad:∀hb:DM x,sh170_1 ω (pt b2) (.int .i64 0) (.int .i64 0) (λv=>Gh (K v)) I (rpL b b1 b2 vV vI (.slice ka x.fKey.length kc) (.slice va x.fValue.length vc) x x.fAt sp.floor F):=by
  intro hb;have hk':=err 0 1 (by unfold At;rw [if_pos hb]) (by decide);unfold sh170_1;repeat' (first|refine Γ ?_|refine Θ (λ_=>?_)|refine Δ ?_|(with_reducible first|refine AK (sh170_1.eq_1 ..) ?_|refine AK (sh170_2.eq_1 ..) ?_|refine AK (sh170_8.eq_1 ..) ?_|refine AK (sh170_7.eq_1 ..) ?_|refine AK (sh170_6.eq_1 ..) ?_|refine AK (sh170_5.eq_1 ..) ?_|refine AK (sh170_4.eq_1 ..) ?_|refine AK (sh170_3.eq_1 ..) ?_|refine AK (sh170.eq_1 ..) ?_|refine And.intro ?_ ?_)|refine Φ ?_|refine Ξ (λ_=>?_) (λ_=>?_)|refine O ?_|fail)
  exact Gh.to ((b,BC vV vI sp.floor)::F) (Gh.done hk')
 have main:∀(hb:¬DM x),(Pv (AA 0 (pt b1)) λv27=>Rv none (AB v27) λv28=>CT ω 166 #[pt b,v28]<|gh λv29=>Pv (exV v29 0) λv30=>Pv (exV v29 1) λv31=>New (.cells #[.slice none 0 0,.int .i64 0,.int .i64 0,.int .i64 0,.bool false,.slice none 0 0] 190 (0,0))<|gh λown=>Sto 6 own v30<|gh λ_=>
   Gd v31 true (Pv (AA 1 own) λv33=>Rv none (AB v33) λv34=>Pv (AA 1 (pt b1)) λv35=>Rv none (AB v35) λv36=>Pv (AC .neq v34 v36) λv37=>Br v37 (sh170_2 ω (pt b2) (.int .i64 0) (.int .i64 0) own (λv=>Gh (K v)))
    (AY λS=>Pv (AG (pt b)) λv42=>Pv (AA 2 v42) λv43=>Rv (some S) (AD 2 v43) λv44=>Pv (AA 2 (pt b1)) λv45=>Rv (some S) (AD 2 v45) λv46=>CT ω 109 #[v44,v46]<|gh λv47=>Br v47 (sh170_3 ω (pt b) (pt b1) (pt b2) (.int .i64 0) (.int .i64 0) own v31 (λv=>Gh (K v))) (sh170_4 ω (pt b) (pt b1) (pt b2) (.int .i64 0) (.int .i64 0) own v31 (λv=>Gh (K v)))))
    (AY λS=>Pv (AG (pt b)) λv88=>Pv (AA 2 v88) λv89=>Rv (some S) (AD 2 v89) λv90=>Pv (AA 2 (pt b1)) λv91=>Rv (some S) (AD 2 v91) λv92=>CT ω 109 #[v90,v92]<|gh λv93=>Br v93 (sh170_3 ω (pt b) (pt b1) (pt b2) (.int .i64 0) (.int .i64 0) own v31 (λv=>Gh (K v))) (sh170_4 ω (pt b) (pt b1) (pt b2) (.int .i64 0) (.int .i64 0) own v31 (λv=>Gh (K v))))) I
   (rpL b b1 b2 vV vI (.slice ka x.fKey.length kc) (.slice va x.fValue.length vc) x x.fAt sp.floor F):=by
  intro hb;have hb':=hb;unfold DM at hb';simp only [not_or,not_and,Bool.not_eq_false,Nat.not_lt,Decidable.not_not] at hb';have hA:At sp x=if (Ba sp.rows x.fKey).txn≠0∧(Ba sp.rows x.fKey).txn≠x.fTxn then (z0,(Ba sp.rows x.fKey).txn,130) else
    if (DH (putAt sp x) (Cn sp.rows x.fKey).getLast?).2≠0 then (z0,0,(DH (putAt sp x) (Cn sp.rows x.fKey).getLast?).2) else ((DH (putAt sp x) (Cn sp.rows x.fKey).getLast?).1,0,0):=by
   unfold At;rw [if_neg hb]
  have eight:∀(a:TStamp) (Z:LH),At sp x=(a,0,0)→sh170_8 ω (pt b) (pt b1) (pt b2) (.int .i64 0) (.int .i64 0) (λv=>Gh (K v)) I (Z++rpL b b1 b2 vV vI (.slice ka x.fKey.length kc) (.slice va x.fValue.length vc) x a sp.floor F):=by
   intro a Z ha;have e2:CI sp x=⟨Fb x.fKey (FC x a) sp.rows,sp.floor⟩:=by unfold CI;rw [ha];rfl
   rw [e2,ha] at hk;have hset:=Wq (it:=FC x a) (k:=x.fKey) hs (Fm hb'.2.1);unfold sh170_8;refine rdB rfl ?_;refine call (Cal.perm (L':=(b,BC vV vI sp.floor)::(Z++((b2,.cells #[.int .i64 0,.int .i64 0] 41 (0,0))::(b1,KK (.slice ka x.fKey.length kc) (.slice va x.fValue.length vc) (xAt x a))::F))) (AO (by ((try simp only [AJ,AM,AU,AP]);(try ac_rfl)))) ?_);refine QV (x:=xAt x a) h1 h2 g0 g1 (by omega) (λI' vI' hI' h'=>?_);try refine O ?_
   refine rdP [.int .i64 a.fWall,.int .i64 a.fLogic] rfl rfl ?_;refine stB rfl rfl (AH rfl) ?_;refine rdB rfl ?_;refine Gh.to ((b,BC vV vI' sp.floor)::F) (Gh.done (hk I' vI' hI' ?_));rw [←hset];exact h'
  try refine O ?_
  refine rdb ?_;refine call (Fv (L0:=(b,BC vV vI sp.floor)::F) (hR (List.mem_cons_self ..)) g0 (by omega) (λo0 o1 ho0 ho1=>?_));rw [Ja hs x.fKey] at ho0 ho1 ⊢;obtain ⟨oa,oc,rfl⟩:=Bytes.form ho0;obtain ⟨pa,pc,rfl⟩:=Bytes.form ho1;try refine O ?_
  refine AQ (λb3=>?_);refine stB rfl rfl (AH rfl) ?_;generalize hown:(Dr sp.rows x.fKey).getD Qu=own at *;have hz3:∀a,(b3,Obj.cells (itV (.slice oa own.fKey.length oc) (.slice pa own.fValue.length pc) own).toArray 190 (0,0))::rpL b b1 b2 vV vI (.slice ka x.fKey.length kc) (.slice va x.fValue.length vc) x a sp.floor F=[(b3,Obj.cells (itV (.slice oa own.fKey.length oc) (.slice pa own.fValue.length pc) own).toArray 190 (0,0))]++rpL b b1 b2 vV vI (.slice ka x.fKey.length kc) (.slice va x.fValue.length vc) x a sp.floor F:=λ_=>rfl;have six:∀a,a=putAt sp x→¬((Ba sp.rows x.fKey).txn≠0∧(Ba sp.rows x.fKey).txn≠x.fTxn)→sh170_6 ω (pt b) (pt b1) (pt b2) (.int .i64 0) (.int .i64 0) (λv=>Gh (K v)) I ((b3,Obj.cells (itV (.slice oa own.fKey.length oc) (.slice pa own.fValue.length pc) own).toArray 190 (0,0))::rpL b b1 b2 vV vI (.slice ka x.fKey.length kc) (.slice va x.fValue.length vc) x a sp.floor F):=by
   intro a ha hno;rw [if_neg hno,←ha] at hA;unfold sh170_6;try refine O ?_
   refine rdb ?_;refine call (Lj (L0:=(b,BC vV vI sp.floor)::F) (hR (List.mem_cons_self ..)) g0 (by omega) (λu0 u1 hu0 hu1=>?_));rw [Gw hs x.fKey LM,RI hok x.fKey] at hu0 hu1 ⊢;obtain ⟨ua,uc,rfl⟩:=Bytes.form hu0;obtain ⟨wa,wc,rfl⟩:=Bytes.form hu1;try refine O ?_
   refine AQ (λb4=>?_);refine stB rfl rfl (AH rfl) ?_;try refine O ?_
   refine rdP [.int .i64 a.fWall,.int .i64 a.fLogic] rfl rfl ?_
   cases hl:(Cn sp.rows x.fKey).getLast? with
   |none=>
    rw [hl] at hA;simp only [Option.map_none,Option.getD_none,Option.isSome_none];refine rdP [.int .i64 0,.int .i64 0] rfl rfl ?_;refine call (Ah (x:=a) (y:=⟨0,0⟩) ?_);try refine O ?_
    exact eight a (_::[_]) hA
   |some v=>
    rw [hl] at hA;simp only [Option.map_some,Option.getD_some,Option.isSome_some,FY];refine rdP [.int .i64 v.fAt.fWall,.int .i64 v.fAt.fLogic] rfl rfl ?_;refine call (Ah (x:=a) (y:=v.fAt) ?_);try refine O ?_
    refine AF (λe=>?_) (λe=>?_)
    ·have e':¬bhd a v.fAt=true:=by simpa using e
     have ep:DH a (some v)=Bs v.fAt:=if_neg e';rw [ep] at hA;unfold sh170_7;try refine O ?_
     refine rdP [.int .i64 v.fAt.fWall,.int .i64 v.fAt.fLogic] rfl rfl ?_;refine call (Li (x:=v.fAt) ?_);try refine O ?_
     refine AQ (λb5=>?_);refine stB rfl rfl (AH rfl) ?_
     refine AF (λe2=>?_) (λe2=>?_)
     ·have e2':(Bs v.fAt).2≠0:=by simpa using e2
      rw [if_pos e2'] at hA;have hk':=err _ _ hA e2';repeat' (first|refine Γ ?_|refine Θ (λ_=>?_)|refine Δ ?_|(with_reducible first|refine AK (sh170_1.eq_1 ..) ?_|refine AK (sh170_2.eq_1 ..) ?_|refine AK (sh170_8.eq_1 ..) ?_|refine AK (sh170_7.eq_1 ..) ?_|refine AK (sh170_6.eq_1 ..) ?_|refine AK (sh170_5.eq_1 ..) ?_|refine AK (sh170_4.eq_1 ..) ?_|refine AK (sh170_3.eq_1 ..) ?_|refine AK (sh170.eq_1 ..) ?_|refine And.intro ?_ ?_)|refine Φ ?_|refine Ξ (λ_=>?_) (λ_=>?_)|refine O ?_|fail)
      exact Gh.to ((b,BC vV vI sp.floor)::F) (Gh.done hk')
     ·have e2':¬(Bs v.fAt).2≠0:=by simpa using e2
      rw [if_neg e2'] at hA;refine rdB rfl ?_
      refine stP _ rfl rfl rfl rfl ?_;exact eight (Bs v.fAt).1 (_::_::[_]) hA
    ·have e':bhd a v.fAt=true:=by simpa using e
     have ep:DH a (some v)=(a,0):=if_pos e';rw [ep] at hA;exact eight a (_::[_]) hA
  have hcase:((Dr sp.rows x.fKey).isSome=false∧(Ba sp.rows x.fKey).txn=0)∨((Dr sp.rows x.fKey).isSome=true∧(Ba sp.rows x.fKey).txn≠0∧own.fTxn=(Ba sp.rows x.fKey).txn∧own.fAt=(Ba sp.rows x.fKey).ver.fAt):=by
   subst hown;unfold Dr Ba;cases hr:rowOf sp.rows x.fKey with
   |none=>exact .inl ⟨rfl,rfl⟩
   |some r=>
    simp only
    by_cases h0:r.it.txn=0
    ·rw [if_pos h0];exact .inl ⟨rfl,h0⟩
    ·rw [if_neg h0];exact .inr ⟨rfl,h0,rfl,rfl⟩
  have four:∀a0,a0=(if bhd sp.floor x.fAt=true then sp.floor else x.fAt)→¬((Ba sp.rows x.fKey).txn≠0∧(Ba sp.rows x.fKey).txn≠x.fTxn)→sh170_4 ω (pt b) (pt b1) (pt b2) (.int .i64 0) (.int .i64 0) (pt b3) (.bool (Dr sp.rows x.fKey).isSome) (λv=>Gh (K v)) I ((b3,Obj.cells (itV (.slice oa own.fKey.length oc) (.slice pa own.fValue.length pc) own).toArray 190 (0,0))::rpL b b1 b2 vV vI (.slice ka x.fKey.length kc) (.slice va x.fValue.length vc) x a0 sp.floor F):=by
   intro a0 ha hno;have hat:putAt sp x=if (Ba sp.rows x.fKey).txn≠0∧bhd (Ba sp.rows x.fKey).ver.fAt a0=true then (Ba sp.rows x.fKey).ver.fAt else a0:=by unfold putAt;rw [ha]
   unfold sh170_4;try refine O ?_
   refine rdP [.int .i64 own.fAt.fWall,.int .i64 own.fAt.fLogic] rfl rfl ?_
   refine rdP [.int .i64 a0.fWall,.int .i64 a0.fLogic] rfl rfl ?_;refine call (Ah (x:=own.fAt) (y:=a0) ?_);rcases hcase with ⟨hc1,hc2⟩|⟨hc1,hc2,hc3,hc4⟩
   ·rw [hc1];try refine O ?_
    rw [if_neg (λh=>h.1 hc2)] at hat;exact six a0 hat.symm hno
   ·rw [hc1,hc4];try refine O ?_
    refine AF (λe=>?_) (λe=>?_)
    ·rw [if_pos ⟨hc2,e⟩] at hat;unfold sh170_5;try refine O ?_
     refine rdP [.int .i64 own.fAt.fWall,.int .i64 own.fAt.fLogic] rfl rfl ?_
     refine stP _ rfl rfl rfl rfl ?_;exact six own.fAt (by rw [hat,hc4]) hno
    ·rw [if_neg (λh=>by rw [h.2] at e;cases e)] at hat;exact six a0 hat.symm hno
  have three:∀(hno:¬((Ba sp.rows x.fKey).txn≠0∧(Ba sp.rows x.fKey).txn≠x.fTxn)),(AY λS=>Pv (AG (pt b)) λv42=>Pv (AA 2 v42) λv43=>Rv (some S) (AD 2 v43) λv44=>Pv (AA 2 (pt b1)) λv45=>Rv (some S) (AD 2 v45) λv46=>CT ω 109 #[v44,v46]<|gh λv47=>
    Br v47 (sh170_3 ω (pt b) (pt b1) (pt b2) (.int .i64 0) (.int .i64 0) (pt b3) (.bool (Dr sp.rows x.fKey).isSome) (λv=>Gh (K v))) (sh170_4 ω (pt b) (pt b1) (pt b2) (.int .i64 0) (.int .i64 0) (pt b3) (.bool (Dr sp.rows x.fKey).isSome) (λv=>Gh (K v)))) I ((b3,Obj.cells (itV (.slice oa own.fKey.length oc) (.slice pa own.fValue.length pc) own).toArray 190 (0,0))::rpL b b1 b2 vV vI (.slice ka x.fKey.length kc) (.slice va x.fValue.length vc) x x.fAt sp.floor F):=by
   intro hno;refine AZ ?_;try refine O ?_
   refine Cv [.int .i64 sp.floor.fWall,.int .i64 sp.floor.fLogic] rfl rfl ?_
   refine Cv [.int .i64 x.fAt.fWall,.int .i64 x.fAt.fLogic] rfl rfl ?_;refine call (Ah (x:=sp.floor) (y:=x.fAt) ?_);refine AF (λe=>?_) (λe=>?_)
   ·unfold sh170_3;try refine O ?_
    refine rdP [.int .i64 sp.floor.fWall,.int .i64 sp.floor.fLogic] rfl rfl ?_
    refine stP _ rfl rfl rfl rfl ?_;exact four sp.floor (by rw [if_pos e]) hno
   ·exact four x.fAt (by rw [if_neg (by rw [e];simp)]) hno
  rcases hcase with ⟨hc1,hc2⟩|⟨hc1,hc2,hc3,hc4⟩
  ·have th:=three (λh=>h.1 hc2);rw [hc1] at th ⊢;simp only [SSd,Nat.reduceAdd] at th ⊢;exact th
  ·rw [hc1];try refine O ?_
   refine rdb ?_
   refine rdb ?_;try refine O ?_
   refine AF (λe=>?_) (λe=>?_)
   ·have e':own.fTxn≠x.fTxn:=by simpa [xAt] using e
    rw [if_pos ⟨hc2,by rw [←hc3];exact e'⟩,←hc3] at hA;have hk':=err _ _ hA (by decide);unfold sh170_2;refine Gq ?_;try refine O ?_
    refine Ab ?_;refine stB rfl rfl (AH rfl) ?_;refine Bt (Ext.refl _) ?_;refine rdB rfl ?_;exact Gh.to ((b,BC vV vI sp.floor)::F) (Gh.done hk')
   ·have e':own.fTxn=x.fTxn:=by simpa [xAt] using e
    have th:=three (λh=>h.2 (by rw [←hc3];exact e'));rw [hc1] at th;simp only [SSd,Nat.reduceAdd] at th;exact th
 try refine O ?_
 refine rdb ?_;refine call (EL g0 ?_);try refine O ?_
 refine rdb ?_;refine call (EK ?_);try refine O ?_
 refine rdP [.int .i64 x.fAt.fWall,.int .i64 x.fAt.fLogic] rfl rfl ?_;refine call (Bl (x:=x.fAt) ?_);try refine O ?_
 refine AV (λe=>?_) (λe=>bad (.inl (by simpa using e)));have k1:Aj x.fKey=true:=by simpa using e
 refine AV (λe=>?_) (λe=>bad (.inr (.inl (by simpa using e))));have k2:BU x.fTxn=true:=by simpa using e
 refine AV (λe=>?_) (λe=>bad (.inr (.inr (.inl (by simpa using e)))));have k3:AN x.fAt=true:=by simpa using e
 refine rdb ?_;try refine O ?_
 refine AV (λe=>?_) (λe=>bad (.inr (.inr (.inr (.inl (by simp at e;omega))))));have k4:x.fValue.length≤10000:=by simp at e;omega
 refine rdb ?_;have tail:∀(hd:¬(x.fDel=true∧x.fValue≠[])),¬DM x:=by
  intro hd;unfold DM;rintro (h|h|h|h|h)
  ·rw [k1] at h;cases h
  ·rw [k2] at h;cases h
  ·rw [k3] at h;cases h
  ·omega
  ·exact hd h
 refine AV (λe=>?_) (λe=>main (tail (λh=>e h.1)))
 refine rdb ?_;try refine O ?_
 refine AF (λe2=>?_) (λe2=>?_)
 ·exact bad (.inr (.inr (.inr (.inr ⟨e,λh=>by rw [h] at e2;simp at e2⟩))))
 ·have hm:=main (tail (λh=>by simp at e2;exact h.2 e2));simp only [SSd,Nat.reduceAdd] at hm;exact hm
end
section
variable {ω:Om}{I:Imm}{L:LH}{K:Value→M}
theorem AKF (a b:List UInt8):(!(blt a b||a==b))=blt b a:=by
 cases h:blt b a with
 |true=>
  have h1:=CZ h;have h2:=DW h;rw [h1];simpa using h2
 |false=>
  cases h2:blt a b with
  |true=>rfl
  |false=>rw [DG a b h2 h];simp
abbrev rrL (b bat b3:Nat)(vV vI o0 o1:Value)(own:TIntent)(a fl:TStamp)(Z F:LH):LH:=Z++((b3,KK o0 o1 own)::(bat,stO a)::(b,BC vV vI fl)::F)
theorem XA {b bat b3 i:Nat}{vV vI o0 o1 v:Value}{own:TIntent}{a fl:TStamp}{Z XO F:LH}{V acc:List TVersion}{cells:List Value}{d:Bool}{Kn1:(Value×Value×Value×Unit)→M}(hV:RL TVersionV 5 I [] vV V)(hi:i < V.length)(hVl:V.length≤400000000)
  (hO:SlO 188 5 XO v cells acc.length) (hR:Recs (TVersionV I) 5 acc cells) (hal:acc.length≤800000000)
  (hk:∀XO' v' cells',SlO 188 5 XO' v' cells' (acc++[V[i]]).length→Recs (TVersionV I) 5 (acc++[V[i]]) cells'→Gh (Kn1 (v',.bool d,.int .i64 ((i:Int)+1),())) I (rrL b bat b3 vV vI o0 o1 own a fl Z (XO'++F))):
  Fa ω (pt b) v (.bool d) (.int .i64 i) (λs=>Gh (Kn1 s)) (λv=>Gh (K v)) I (rrL b bat b3 vV vI o0 o1 own a fl Z (XO++F)):=by
 obtain ⟨q,off,c,hix,hcl,hc,hcc⟩:=RL.ix hV (i:=(i:Int)) (by omega) (by omega);rw [AX hi] at hc;generalize V[i]=y at *;obtain ⟨w0,w1,rfl,g0,g1⟩:=hc;have hcv:=hcc I [] (Ext.refl _) (λ_ h=>h);unfold Fa;try refine O ?_
 refine rdb ?_;simp only [hix,SSd,Nat.reduceAdd];refine FT hcv (Ext.refl _) rfl ?_;refine DD (R:=TVersionV) (X6:=XO) (x:=y) rfl (by omega) hO hR ⟨w0,w1,rfl,g0,g1⟩ rfl (by
  obtain ⟨_,_,rfl⟩:=Bytes.form g0;obtain ⟨_,_,rfl⟩:=Bytes.form g1;exact AH rfl) (by omega) (by omega) (λX1 X6 v6 cells6 h6 hR6=>?_)
 rw [wrap_i64 _ (by omega)];exact Gh.to (rrL b bat b3 vV vI o0 o1 own a fl Z (X6++F)) (hk X6 v6 cells6 h6 hR6)
theorem ADV {b bat b3:Nat}{vV vI a1 o0 o1 p10 p11:Value}{own:TIntent}{a fl:TStamp}{Z F:LH}{V:List TVersion}{k:List UInt8}(hV:RL TVersionV 5 I [] vV V)(hVl:V.length≤400000000)(hB:Bytes I a1 k)(h1:Bytes I o1 own.fValue)
  (hk:∀I' vV',Ext I I'→RL TVersionV 5 I' [] vV' (insL ⟨k,a,own.fDel,own.fValue⟩ false V)→K (.tuple #[.bool true,.int .i64 0]) I' ((b,BC vV' vI fl)::F)):
  (Ae ((.slice none 0 0,.bool false,.int .i64 0,()):Value×Value×Value×Unit) λs Kn1=>LU ω (pt b) a1 (pt bat) p10 p11 (pt b3) s.1 s.2.1 s.2.2.1 Kn1 (λv=>Gh (K v))) I (rrL b bat b3 vV vI o0 o1 own a fl Z F):=by
 obtain ⟨ka,kc,rfl⟩:=Bytes.form hB;obtain ⟨va,vc,rfl⟩:=Bytes.form h1;generalize hnv:(⟨k,a,own.fDel,own.fValue⟩:TVersion)=nv at *;have hnk:nv.fKey=k:=by rw [←hnv]
 have hrec:∀{I':Imm},Ext I I'→TVersionV I' nv [.slice ka k.length kc,.int .i64 a.fWall,.int .i64 a.fLogic,.bool own.fDel,.slice va own.fValue.length vc]:=λhI=>by
  rw [←hnv];exact ⟨_,_,rfl,hB.mono hI,h1.mono hI⟩
 refine loop (λn s I' L'=>I'=I∧∃(i:Nat) (d:Bool) (XO:LH) (v:Value) (acc:List TVersion) (cells:List Value),n+i=V.length∧s=(v,.bool d,.int .i64 i,())∧L'=rrL b bat b3 vV vI o0 (.slice va own.fValue.length vc) own a fl Z (XO++F)∧SlO 188 5 XO v cells acc.length∧Recs (TVersionV I) 5 acc cells∧acc.length≤2 * i∧
   acc++insL nv d (V.drop i)=insL nv false V) V.length ⟨rfl,0,false,[],_,[],[],rfl,rfl,rfl,SlO.none _ _,rfl,by simp,rfl⟩ ?_
 rintro n s I' L' ⟨rfl,i,d,XO,v,acc,cells,hni,rfl,rfl,hO,hR,hal,hA⟩;unfold LU;try refine O ?_
 refine rdb ?_;simp only [RL.len hV,SSd,Nat.reduceAdd];have end8:∀(XO:LH) (v:Value) (cells:List Value) (acc:List TVersion),SlO 188 5 XO v cells acc.length→Recs (TVersionV I') 5 acc cells→acc=insL nv false V→IX ω (pt b) p10 p11 v (λv=>Gh (K v)) I' (rrL b bat b3 vV vI o0 (.slice va own.fValue.length vc) own a fl Z (XO++F)):=by
  intro XO v cells acc hO hR he;subst he;obtain ⟨oa,oc,rfl⟩:=hO.form;unfold IX;try refine O ?_
  refine st1 rfl ?_;refine Gh.to (XO++((b,BC (.slice oa (insL nv false V).length oc) vI fl)::F)) (SlO.freeze hO (λI3 hI3 hSl=>Gh.done ?_));exact hk I3 _ hI3 (RL.ofI hSl (hR.imp λx c h=>h.mono hI3))
 refine AF (λe=>?_) (λe=>?_)
 ·have hi:i < V.length:=by simpa using e
  have hd:V.drop i=V[i]::V.drop (i+1):=List.drop_eq_getElem_cons hi;rw [hd,insL,hnk] at hA;obtain ⟨q,off,c,hix,hcl,hc,hcc⟩:=RL.ix hV (i:=(i:Int)) (by omega) (by omega);rw [AX hi] at hc;have three:∀(XO:LH) (v:Value) (cells:List Value) (acc:List TVersion) (d:Bool),SlO 188 5 XO v cells acc.length→Recs (TVersionV I') 5 acc cells→acc.length≤2 * i+1→acc++(V[i]::insL nv d (V.drop (i+1)))=insL nv false V→
    Fa ω (pt b) v (.bool d) (.int .i64 i) (λs'=>Gh λI2 L2=>∃m',m' < n∧I2=I'∧∃(i:Nat) (d:Bool) (XO:LH) (v:Value) (acc:List TVersion) (cells:List Value),m'+i=V.length∧s'=(v,.bool d,.int .i64 i,())∧L2=rrL b bat b3 vV vI o0 (.slice va own.fValue.length vc) own a fl Z (XO++F)∧SlO 188 5 XO v cells acc.length∧Recs (TVersionV I') 5 acc cells∧acc.length≤2 * i∧
   acc++insL nv d (V.drop i)=insL nv false V) (λv=>Gh (K v)) I' (rrL b bat b3 vV vI o0 (.slice va own.fValue.length vc) own a fl Z (XO++F)):=by
   intro XO v cells acc d hO hR hal hA;refine XA hV hi hVl hO hR (by omega) (λXO' v' cells' hO' hR'=>Gh.done ⟨n - 1,by omega,rfl,i+1,d,XO',v',_,cells',by omega,rfl,rfl,hO',hR',?_,by rw [List.append_assoc];exact hA⟩);rw [List.length_append];simp;omega
  generalize V[i]=y at *;obtain ⟨w0,w1,rfl,g0,g1⟩:=hc;have hcv:=hcc I' [] (Ext.refl _) (λ_ h=>h);refine AZ ?_
  cases d with
  |true=>
   simp only [Bool.not_true,Bool.false_and,Bool.true_or] at hA;rw [if_neg (by simp)] at hA;simp only [Bool.not_true,SSd,Nat.reduceAdd];exact three XO v cells acc true hO hR (by omega) hA
  |false=>
   simp only [Bool.not_false,SSd,Nat.reduceAdd];refine Ab ?_;simp only [hix,SSd,Nat.reduceAdd];refine Av (hcv 0 _ rfl) (Ext.refl _) ?_;refine Bd g0 (Ext.refl _) ?_;refine Bd hB (Ext.refl _) ?_;simp only [sGt,AKF,SSd,Nat.reduceAdd];refine AF (λe2=>?_) (λe2=>?_)
   ·rw [e2] at hA;simp only [Bool.not_false,Bool.and_self,Bool.or_true,if_true] at hA;unfold QU;refine rdB rfl ?_;try refine O ?_
    refine rdb ?_
    refine rdb ?_;try refine O ?_
    refine Ct (R:=TVersionV) (X6:=XO) (x:=nv) rfl (by omega) hO hR (hrec (Ext.refl _)) rfl (AH rfl) (by omega) (by omega) (λX1 X6 v6 cells6 h6 hR6=>?_);refine Gh.to (rrL b bat b3 vV vI o0 (.slice va own.fValue.length vc) own a fl Z (X6++F)) (Gh.done (three X6 v6 cells6 _ true h6 hR6 (by simp;omega) ?_));rw [List.append_assoc];exact hA
   ·rw [e2] at hA;simp only [Bool.not_false,Bool.and_false,Bool.or_false] at hA;rw [if_neg (by simp)] at hA;exact three XO v cells acc false hO hR (by omega) hA
 ·have hi:i=V.length:=by simp at e;omega
  subst hi;rw [List.drop_length,insL] at hA;unfold QT;try refine O ?_
  cases d with
  |true=>
   simp only [Bool.not_true,SSd,Nat.reduceAdd];exact end8 XO v cells acc hO hR (by simpa using hA)
  |false=>
   simp only [Bool.not_false,SSd,Nat.reduceAdd];refine rdB rfl ?_
   refine rdb ?_
   refine rdb ?_;try refine O ?_
   refine Ct (R:=TVersionV) (X6:=XO) (x:=nv) rfl (by omega) hO hR (hrec (Ext.refl _)) rfl (AH rfl) (by omega) (by omega) (λX1 X6 v6 cells6 h6 hR6=>?_);exact Gh.to (rrL b bat b3 vV vI o0 (.slice va own.fValue.length vc) own a fl Z (X6++F)) (Gh.done (end8 X6 v6 cells6 _ h6 hR6 (by simpa using hA)))
theorem ADW {b bat b3:Nat}{vV vI a1 o0 o1 p10 p11:Value}{own:TIntent}{a fl:TStamp}{yes:Bool}{Z F:LH}{V:List TVersion}{Is:List TIntent}{k:List UInt8}(hV:RL TVersionV 5 I [] vV V)(hI:RL TIntentV 6 I [] vI Is)(hVl:V.length≤400000000)(hIl:Is.length≤400000000)(hB:Bytes I a1 k)(h1:Bytes I o1 own.fValue)
  (hk:∀I' vV' vI',Ext I I'→RL TVersionV 5 I' [] vV' (if yes=true then insL ⟨k,a,own.fDel,own.fValue⟩ false V else V)→RL TIntentV 6 I' [] vI' (Is.filter λx=>x.fKey != k)→K (.tuple #[.bool true,.int .i64 0]) I' ((b,BC vV' vI' fl)::F)):
  (Ae ((.slice none 0 0,.int .i64 0,()):Value×Value×Unit) λs Kn0=>Ef ω (pt b) a1 (.bool yes) (pt bat) p10 p11 (pt b3) s.1 s.2.1 Kn0 (λv=>Gh (K v))) I (rrL b bat b3 vV vI o0 o1 own a fl Z F):=by
 refine loop (λn s I' L'=>I'=I∧∃(i:Nat) (XO:LH) (v:Value) (cells:List Value),n+i=Is.length∧s=(v,.int .i64 i,())∧L'=rrL b bat b3 vV vI o0 o1 own a fl Z (XO++F)∧SlO 190 6 XO v cells ((Is.take i).filter λx=>x.fKey != k).length∧Recs (TIntentV I) 6 ((Is.take i).filter λx=>x.fKey != k) cells) Is.length ⟨rfl,0,[],_,[],rfl,rfl,rfl,SlO.none _ _,rfl⟩ ?_;rintro n s I' L' ⟨rfl,i,XO,v,cells,hni,rfl,rfl,hO,hR⟩;unfold Ef;try refine O ?_
 refine rdb ?_;simp only [RL.len hI,SSd,Nat.reduceAdd];refine AF (λe=>?_) (λe=>?_)
 ·have hi:i < Is.length:=by simpa using e
  obtain ⟨q,off,c,hix,hcl,hc,hcc⟩:=RL.ix hI (i:=(i:Int)) (by omega) (by omega);rw [AX hi] at hc;have hfl:((Is.take i).filter λx=>x.fKey != k).length≤i:=by
   have:=List.length_filter_le (λx:TIntent=>x.fKey != k) (Is.take i);rw [List.length_take] at this;omega
  have hsucc:(Is.take (i+1)).filter (λx=>x.fKey != k)=(Is.take i).filter (λx=>x.fKey != k)++(if (Is[i].fKey != k)=true then [Is[i]] else []):=by
   rw [take_snoc hi,List.filter_append,List.filter_cons];rfl
  generalize Is[i]=y at *;obtain ⟨w0,w1,rfl,g0,g1⟩:=hc;have hcv:=hcc I' [] (Ext.refl _) (λ_ h=>h);refine AZ ?_
  refine Ab ?_;simp only [hix,SSd,Nat.reduceAdd];refine Av (hcv 0 _ rfl) (Ext.refl _) ?_;refine Bd g0 (Ext.refl _) ?_;refine Bd hB (Ext.refl _) ?_;simp only [sNe,SSd,Nat.reduceAdd];refine AF (λe2=>?_) (λe2=>?_)
  ·rw [if_pos (by simpa using e2)] at hsucc;unfold Fq;try refine O ?_
   refine rdb ?_;simp only [hix,SSd,Nat.reduceAdd];refine FT hcv (Ext.refl _) rfl ?_;refine DD (R:=TIntentV) (X6:=XO) (x:=y) rfl (by omega) hO hR ⟨w0,w1,rfl,g0,g1⟩ rfl (by
    obtain ⟨_,_,rfl⟩:=Bytes.form g0;obtain ⟨_,_,rfl⟩:=Bytes.form g1;exact AH rfl) (by omega) (by omega) (λX1 X6 v6 cells6 h6 hR6=>?_)
   unfold Ee;try refine O ?_
   rw [wrap_i64 _ (by omega)];rw [←hsucc] at h6 hR6;exact Gh.to (rrL b bat b3 vV vI o0 o1 own a fl Z (X6++F)) (Gh.done ⟨n - 1,by omega,rfl,i+1,X6,v6,cells6,by omega,rfl,rfl,h6,hR6⟩)
  ·rw [if_neg (by simpa using e2),List.append_nil] at hsucc;unfold Ee;try refine O ?_
   rw [wrap_i64 _ (by omega)];rw [←hsucc] at hO hR;exact Gh.done ⟨n - 1,by omega,rfl,i+1,XO,v,cells,by omega,rfl,rfl,hO,hR⟩
 ·have hi:i=Is.length:=by simp at e;omega
  subst hi;rw [List.take_length] at hO hR;obtain ⟨oa,oc,rfl⟩:=hO.form;unfold Fp;try refine O ?_
  refine Yd rfl ?_;refine Gh.perm (L':=XO++rrL b bat b3 vV (.slice oa (Is.filter λx=>x.fKey != k).length oc) o0 o1 own a fl Z F) (AO (by ((try simp only [AJ,AM,AU,AP]);(try ac_rfl)))) (SlO.freeze hO (λI3 hI3 hSl=>Gh.done ?_));have hIn:RL TIntentV 6 I3 [] (.slice oa (Is.filter λx=>x.fKey != k).length oc) (Is.filter λx=>x.fKey != k):=RL.ofI hSl (hR.imp λx c h=>h.mono hI3);have hV3:RL TVersionV 5 I3 [] vV V:=hV.mono (λx c h=>h.mono hI3) hI3 (λ_ h=>h);cases yes with
  |false=>
   simp only [Bool.not_false,SSd,Nat.reduceAdd];exact Gh.to ((b,BC vV (.slice oa (Is.filter λx=>x.fKey != k).length oc) fl)::F) (Gh.done (hk I3 vV _ hI3 hV3 hIn))
  |true=>
   simp only [Bool.not_true,SSd,Nat.reduceAdd];exact ADV hV3 hVl (hB.mono hI3) (h1.mono hI3) (λI4 vV' hI4 h4=>hk I4 vV' _ (hI3.trans hI4) h4 (hIn.mono (λx c h=>h.mono hI4) hI4 (λ_ h=>h)))
theorem AOE:@QS=@Ef:=rfl
theorem AOD:@QR=@Ef:=rfl
theorem NJ {b:Nat}{vV vI a1:Value}{k:List UInt8}{txn:Int}{yes:Bool}{a:TStamp}{F:LH}{sp:Sp}(h1:RL TVersionV 5 I [] vV (Aa sp.rows))(h2:RL TIntentV 6 I [] vI (intsOf sp.rows))(hok:SpOk sp)(hlen:sp.rows.length≤100000000)(hn:Ac sp.rows≤100000000)(hB:Bytes I a1 k)
  (hk:∀I' vV' vI',Ext I I'→RL TVersionV 5 I' [] vV' (Aa (Dw sp k txn yes a).rows)→RL TIntentV 6 I' [] vI' (intsOf (Dw sp k txn yes a).rows)→K (.tuple #[.bool (Di sp k txn yes a).1,.int .i64 (Di sp k txn yes a).2]) I' ((b,BC vV' vI' sp.floor)::F)):
  CT ω 176 #[pt b,a1,.int .i64 txn,.bool yes,sv a] K I ((b,BC vV vI sp.floor)::F):=by
 have hs:=hok.rise;have hVl:(Aa sp.rows).length≤100000000:=by rw [DB];exact hn
 have hIl:(intsOf sp.rows).length≤100000000:=by
  have:=List.length_filter_le (λr:Row=>r.it.txn != 0) sp.rows;simp [intsOf];omega
 have hR:∀{L':LH},(b,BC vV vI sp.floor)∈L'→RefF I L' b vV vI (Aa sp.rows) (intsOf sp.rows) sp.floor:=λhm=>ADd hm h1 h2;have same:∀x,Di sp k txn yes a=(false,x)→K (.tuple #[.bool false,.int .i64 x]) I ((b,BC vV vI sp.floor)::F):=by
  intro x e;have e2:Dw sp k txn yes a=sp:=by unfold Dw;rw [e];rfl
  rw [e2] at hk;have hk':=hk I vV vI (Ext.refl _) h1 h2;rw [e] at hk';exact hk'
 by_cases hbad:Aj k=false∨BU txn=false∨(yes=true∧AN a=false)
 ·have hk':=same 1 (by unfold Di;rw [if_pos hbad]);refine AEo ?_;unfold Uo;refine AQ (λbat=>?_);refine call (EL hB ?_);refine call (EK ?_);refine rdB rfl ?_;refine call (Bl (x:=a) ?_);try refine O ?_
  refine AV (λe=>?_) (λe=>Gh.to ((b,BC vV vI sp.floor)::F) (Gh.done hk'))
  refine AV (λe2=>?_) (λe2=>Gh.to ((b,BC vV vI sp.floor)::F) (Gh.done hk'));have hy:yes=true∧AN a=false:=by
   rcases hbad with h|h|h
   ·rw [h] at e;simp at e
   ·rw [h] at e2;simp at e2
   ·exact h
  simp only [hy.1,hy.2,Bool.not_false,SSd,Nat.reduceAdd];exact Gh.to ((b,BC vV vI sp.floor)::F) (Gh.done hk')
 have hA:Di sp k txn yes a=if (Ba sp.rows k).txn≠txn then (false,0) else if yes=true∧(bhd (Ba sp.rows k).ver.fAt a=true∨FW a (Cn sp.rows k).getLast? =true) then (false,1) else (true,0):=by unfold Di;rw [if_neg hbad]
 simp only [not_or,Bool.not_eq_false,not_and] at hbad;obtain ⟨k1,k2,k3⟩:=hbad;have kt:=Fm k2;have work:∀(bat:Nat),(CT ω 166 #[pt b,a1]<|gh λv9=>Pv (exV v9 0) λv10=>Pv (exV v9 1) λv11=>New (.cells #[.slice none 0 0,.int .i64 0,.int .i64 0,.int .i64 0,.bool false,.slice none 0 0] 190 (0,0))<|gh λx12=>Sto 6 x12 v10<|gh λ_=>Pv (unV .not v11) λv13=>Gd v13 false
   (Pv (AA 1 x12) λv14=>Rv none (AB v14) λv15=>Pv (AC .neq v15 (.int .i64 txn)) λv16=>Br v16 (Gh (K (.tuple #[.bool false,.int .i64 0])))
    (Pv (AA 2 x12) λv17=>Rv none (AD 2 v17) λv18=>Rv none (AD 2 (pt bat)) λv19=>CT ω 109 #[v18,v19]<|gh λv20=>CT ω 227 #[pt b,a1]<|gh λv21=>Pv (exV v21 0) λv22=>Pv (exV v21 1) λv23=>New (.cells #[.slice none 0 0,.int .i64 0,.int .i64 0,.bool false,.slice none 0 0] 188 (0,0))<|gh λv24=>Sto 5 v24 v22<|gh λ_=>
     Rv none (AD 2 (pt bat)) λv25=>Pv (AA 1 v24) λv26=>Rv none (AD 2 v26) λv27=>CT ω 109 #[v25,v27]<|gh λv28=>Gd (.bool yes) true
      (Gd v20 false (Gd v23 true (Pv (unV .not v28) λv29=>Br v29 (Gh (K (.tuple #[.bool false,.int .i64 1]))) (Ae ((.slice none 0 0,.int .i64 0,()):Value×Value×Unit) λs Kn0=>Ef ω (pt b) a1 (.bool yes) (pt bat) (.bool false) (.int .i64 0) x12 s.1 s.2.1 Kn0 (λv=>Gh (K v))))
       (Ae ((.slice none 0 0,.int .i64 0,()):Value×Value×Unit) λs Kn0=>Ef ω (pt b) a1 (.bool yes) (pt bat) (.bool false) (.int .i64 0) x12 s.1 s.2.1 Kn0 (λv=>Gh (K v))))
       (Gh (K (.tuple #[.bool false,.int .i64 1]))))
      (Ae ((.slice none 0 0,.int .i64 0,()):Value×Value×Unit) λs Kn0=>Ef ω (pt b) a1 (.bool yes) (pt bat) (.bool false) (.int .i64 0) x12 s.1 s.2.1 Kn0 (λv=>Gh (K v)))))
   (Gh (K (.tuple #[.bool false,.int .i64 0])))) I ((bat,stO a)::(b,BC vV vI sp.floor)::F):=by
  intro bat;refine call (Fv (L0:=(b,BC vV vI sp.floor)::F) (hR (List.mem_cons_self ..)) hB (by omega) (λo0 o1 ho0 ho1=>?_));rw [Ja hs k] at ho0 ho1 ⊢;obtain ⟨oa,oc,rfl⟩:=Bytes.form ho0;obtain ⟨pa,pc,rfl⟩:=Bytes.form ho1;try refine O ?_
  refine AQ (λb3=>?_);refine stB rfl rfl (AH rfl) ?_;have gone:∀{x:Int} {L':LH} [SubP ((b,BC vV vI sp.floor)::F) L'],Di sp k txn yes a=(false,x)→Gh (K (.tuple #[.bool false,.int .i64 x])) I L':=λh=>Gh.to ((b,BC vV vI sp.floor)::F) (Gh.done (same _ h));cases ho:Dr sp.rows k with
  |none=>
   have h0:(Ba sp.rows k).txn=0:=by
    unfold Dr at ho;unfold Ba;cases hr:rowOf sp.rows k with
    |none=>rfl
    |some r=>
     rw [hr] at ho;simp only at ho ⊢
     by_cases h0:r.it.txn=0
     ·exact h0
     ·rw [if_neg h0] at ho;cases ho
   rw [if_pos (by rw [h0];exact λh=>kt h.symm)] at hA;simp only [Option.isSome_none,Bool.not_false,SSd,Nat.reduceAdd];exact gone hA
  |some own=>
   have hr:∃r,rowOf sp.rows k=some r∧own=itF r∧r.it.txn≠0:=by
    unfold Dr at ho;cases hr:rowOf sp.rows k with
    |none=>rw [hr] at ho;cases ho
    |some r=>
     rw [hr] at ho;simp only at ho
     by_cases h0:r.it.txn=0
     ·rw [if_pos h0] at ho;cases ho
     ·rw [if_neg h0] at ho;exact ⟨r,rfl,(Option.some.inj ho).symm,h0⟩
   obtain ⟨r,hr,rfl,h0⟩:=hr;have eit:Ba sp.rows k=r.it:=by unfold Ba;rw [hr]
   have evs:Cn sp.rows k=r.vs:=by unfold Cn;rw [hr]
   rw [eit,evs] at hA;rw [ho] at ho1;simp only [Option.isSome_some,Option.getD_some,Bool.not_true,SSd,Nat.reduceAdd];refine rdb ?_;try refine O ?_
   refine AF (λe=>?_) (λe=>?_)
   ·have e':r.it.txn≠txn:=by simpa [itF] using e
    rw [if_pos e'] at hA;exact gone hA
   have e':¬r.it.txn≠txn:=by simpa [itF] using e
   rw [if_neg e'] at hA
   refine rdP [.int .i64 r.it.ver.fAt.fWall,.int .i64 r.it.ver.fAt.fLogic] rfl rfl ?_;refine rdB rfl ?_;refine call (Ah (x:=r.it.ver.fAt) (y:=a) ?_);refine call (Lj (L0:=(b,BC vV vI sp.floor)::F) (hR (List.mem_cons_self ..)) hB (by omega) (λu0 u1 hu0 hu1=>?_));rw [Gw hs k LM,RI hok k,evs] at hu0 hu1 ⊢;obtain ⟨ua,uc,rfl⟩:=Bytes.form hu0;obtain ⟨wa,wc,rfl⟩:=Bytes.form hu1;try refine O ?_
   refine AQ (λb4=>?_);refine stB rfl rfl (AH rfl) ?_;refine rdB rfl ?_;try refine O ?_
   have fin:Di sp k txn yes a=(true,0)→∀Z:LH,(Ae ((.slice none 0 0,.int .i64 0,()):Value×Value×Unit) λs Kn0=>Ef ω (pt b) a1 (.bool yes) (pt bat) (.bool false) (.int .i64 0) (.pointer (some ⟨b3,0,none⟩)) s.1 s.2.1 Kn0 (λv=>Gh (K v))) I (rrL b bat b3 vV vI (.slice oa ((Dr sp.rows k).getD Qu).fKey.length oc) (.slice pa (itF r).fValue.length pc) (itF r) a sp.floor Z F):=by
    intro hA' Z;have hsp:Dw sp k txn yes a=⟨Bq (ND k (Hn yes a) sp.rows),sp.floor⟩:=by unfold Dw;rw [hA'];rfl
    rw [hA',hsp] at hk;obtain ⟨A,B,e0,hkr,hm⟩:=Jl hs hr;refine ADW h1 h2 (by omega) (by omega) hB ho1 (λI' vV' vI' hI' g1 g2=>hk I' vV' vI' hI' ?_ ?_)
    ·simp only [e0] at g1 ⊢;cases yes with
     |true=>rw [ADZ hm hkr];exact g1
     |false=>rw [XG hm hkr];exact g1
    ·simp only [e0] at g2 ⊢;rw [ADa hm hkr];exact g2
   rw [ho] at fin;cases hl:r.vs.getLast? with
   |none=>
    simp only [Option.map_none,Option.getD_none,Option.isSome_none];refine rdP [.int .i64 0,.int .i64 0] rfl rfl ?_;refine call (Ah (x:=a) (y:=⟨0,0⟩) ?_);rw [hl] at hA;cases hy:yes with
    |false=>
     rw [hy] at fin hA;try refine O ?_
     exact fin (by rw [hA];rfl) [_]
    |true=>
     rw [hy] at fin hA;try refine O ?_
     cases hb:bhd r.it.ver.fAt a with
     |true=>
      rw [if_pos ⟨rfl,.inl hb⟩] at hA;try refine O ?_
      rw [←hy] at hA;exact gone hA
     |false=>
      try refine O ?_
      exact fin (by rw [hA,hb];rfl) [_]
   |some v=>
    simp only [Option.map_some,Option.getD_some,Option.isSome_some,FY];refine rdP [.int .i64 v.fAt.fWall,.int .i64 v.fAt.fLogic] rfl rfl ?_;refine call (Ah (x:=a) (y:=v.fAt) ?_);rw [hl] at hA;cases hy:yes with
    |false=>
     rw [hy] at fin hA;try refine O ?_
     exact fin (by rw [hA];rfl) [_]
    |true=>
     rw [hy] at fin hA;try refine O ?_
     cases hb:bhd r.it.ver.fAt a with
     |true=>
      rw [if_pos ⟨rfl,.inl hb⟩] at hA;try refine O ?_
      rw [←hy] at hA;exact gone hA
     |false=>
      try refine O ?_
      cases hb2:bhd a v.fAt with
      |true=>
       simp only [Bool.not_true,SSd,Nat.reduceAdd];exact fin (by rw [hA,hb];simp [FW,hb2]) [_]
      |false=>
       rw [if_pos ⟨rfl,.inr (by simp [FW,hb2])⟩] at hA;simp only [Bool.not_false,SSd,Nat.reduceAdd];rw [←hy] at hA;exact gone hA
 refine AEo ?_;unfold Uo;refine AQ (λbat=>?_);refine call (EL hB ?_);refine call (EK ?_);refine rdB rfl ?_;refine call (Bl (x:=a) ?_);have w:=work bat;cases yes with
 |true=>
  simp only [k1,k2,k3 rfl,Bool.not_true,SSd,Nat.reduceAdd] at w ⊢;rw [AOE];exact w
 |false=>
  simp only [k1,k2,Bool.not_true,SSd,Nat.reduceAdd] at w ⊢;rw [AOD];exact w
theorem Ql {b bb b3 i:Nat}{vV vI v w0 w1:Value}{fl below:TStamp}{XO F:LH}{V:List TVersion}{cells:List Value}{Kn0:(Value×Value×Unit)→M}(hV:RL TVersionV 5 I [] vV V)(hi:i < V.length)(hVl:V.length≤400000000)
  (hO:SlO 188 5 XO v cells ((V.take i).filter (Cw V fl)).length) (hR:Recs (TVersionV I) 5 ((V.take i).filter (Cw V fl)) cells)
  (hk:∀XO' v' cells',SlO 188 5 XO' v' cells' ((V.take (i+1)).filter (Cw V fl)).length→Recs (TVersionV I) 5 ((V.take (i+1)).filter (Cw V fl)) cells'→Gh (Kn0 (v',.int .i64 ((i:Int)+1),())) I ((bb,stO below)::(b,BC vV vI fl)::(XO'++F))):
  Ki ω (pt b) v (.int .i64 i) (pt b3) (.bool (As V V[i].fKey fl).isSome) (λs=>Gh (Kn0 s)) (λv=>Gh (K v)) I ((b3,.cells (veV w0 w1 ((As V V[i].fKey fl).getD Ca)).toArray 188 (0,0))::(bb,stO below)::(b,BC vV vI fl)::(XO++F)):=by
 obtain ⟨q,off,c,hix,hcl,hc,hcc⟩:=RL.ix hV (i:=(i:Int)) (by omega) (by omega);rw [AX hi] at hc;have hfl:((V.take i).filter (Cw V fl)).length≤i:=by
  have:=List.length_filter_le (Cw V fl) (V.take i);rw [List.length_take] at this;omega
 have hsucc:(V.take (i+1)).filter (Cw V fl)=(V.take i).filter (Cw V fl)++(if Cw V fl V[i]=true then [V[i]] else []):=by
  rw [take_snoc hi,List.filter_append,List.filter_cons];rfl
 have hkp:Cw V fl V[i]=match As V V[i].fKey fl with
  |none=>true
  |some k=> !(bhd k.fAt V[i].fAt||(k.fAt.fWall==V[i].fAt.fWall&&k.fAt.fLogic==V[i].fAt.fLogic)&&k.fDel):=rfl
 generalize V[i]=y at *;obtain ⟨u0,u1,rfl,g0,g1⟩:=hc;have hcv:=hcc I [] (Ext.refl _) (λ_ h=>h);have hst:Cells I [] q (off+1) [.int .i64 y.fAt.fWall,.int .i64 y.fAt.fLogic]:=by simpa using hcv.sub (k:=1) (m:=2)
 have skip:∀(h:Cw V fl y=false),Eg ω v (.int .i64 i) (λs=>Gh (Kn0 s)) (λv=>Gh (K v)) I ((b3,.cells (veV w0 w1 ((As V y.fKey fl).getD Ca)).toArray 188 (0,0))::(bb,stO below)::(b,BC vV vI fl)::(XO++F)):=by
  intro h;rw [if_neg (by rw [h];simp),List.append_nil] at hsucc;rw [hsucc] at hk;unfold Eg;try refine O ?_
  rw [wrap_i64 _ (by omega)];exact Gh.to ((bb,stO below)::(b,BC vV vI fl)::(XO++F)) (hk XO v cells hO hR)
 have take:∀(h:Cw V fl y=true),(Pv (AG (pt b)) λv39=>Pv (AA 0 v39) λv40=>Rv none (AB v40) λv41=>Pv (ixV 5 v41 (.int .i64 i)) λv42=>Rv none (AD 5 v42) λv43=>Aq 188 5 #[.slice none 0 0,.int .i64 0,.int .i64 0,.bool false,.slice none 0 0] 1 [(0,v43)]<|gh λv44=>
   App 188 5 72 #[.slice none 0 0,.int .i64 0,.int .i64 0,.bool false,.slice none 0 0] v v44<|gh λv45=>Eg ω v45 (.int .i64 i) (λs=>Gh (Kn0 s)) (λv=>Gh (K v))) I ((b3,.cells (veV w0 w1 ((As V y.fKey fl).getD Ca)).toArray 188 (0,0))::(bb,stO below)::(b,BC vV vI fl)::(XO++F)):=by
  intro h;rw [if_pos h] at hsucc;rw [hsucc] at hk;try refine O ?_
  refine rdb ?_;simp only [hix,SSd,Nat.reduceAdd];refine FT hcv (Ext.refl _) rfl ?_;refine DD (R:=TVersionV) (X6:=XO) (x:=y) rfl (by omega) hO hR ⟨u0,u1,rfl,g0,g1⟩ rfl (by
   obtain ⟨_,_,rfl⟩:=Bytes.form g0;obtain ⟨_,_,rfl⟩:=Bytes.form g1;exact AH rfl) (by omega) (by omega) (λX1 X6 v6 cells6 h6 hR6=>?_)
  unfold Eg;try refine O ?_
  rw [wrap_i64 _ (by omega)];exact Gh.to ((bb,stO below)::(b,BC vV vI fl)::(X6++F)) (hk X6 v6 cells6 h6 hR6)
 unfold Ki;generalize hlv:As V y.fKey fl=lv at *;refine AZ ?_;try refine O ?_
 refine Cv [.int .i64 (lv.getD Ca).fAt.fWall,.int .i64 (lv.getD Ca).fAt.fLogic] rfl rfl ?_
 refine Ab ?_;simp only [hix,SSd,Nat.reduceAdd];refine Bo hst (Ext.refl _) rfl ?_;refine call (Ah (x:=(lv.getD Ca).fAt) (y:=y.fAt) ?_);refine AZ ?_
 refine Cv [.int .i64 (lv.getD Ca).fAt.fWall,.int .i64 (lv.getD Ca).fAt.fLogic] rfl rfl ?_
 refine Ab ?_;simp only [hix,SSd,Nat.reduceAdd];refine Bo hst (Ext.refl _) rfl ?_;try refine O ?_
 cases lv with
 |none=>
  have t:=take hkp;simp only [Option.isSome_none,SSd,Nat.reduceAdd] at t ⊢;exact t
 |some kk=>
  simp only at hkp
  simp only [Option.isSome_some,Option.getD_some,SSd,Nat.reduceAdd] at skip take ⊢;refine AV (λc1=>?_) (λc1=>skip (by rw [hkp];have:bhd kk.fAt y.fAt=true:=(by simpa using c1);rw [this];rfl));refine AV (λc2=>?_) (λc2=>take (by rw [hkp,c1,Bool.eq_false_iff.2 c2];rfl));refine rdb ?_;refine AF (λc3=>skip (by rw [hkp,c1,c2,c3];rfl)) (λc3=>take (by rw [hkp,c1,c2,c3];rfl))
theorem ADh {b bb:Nat}{vV vI:Value}{fl below:TStamp}{F:LH}{V:List TVersion}{Is:List TIntent}(hV:RL TVersionV 5 I [] vV V)(hI:RL TIntentV 6 I [] vI Is)(hVl:V.length≤400000000)
  (hk:∀I' vV',Ext I I'→RL TVersionV 5 I' [] vV' (V.filter (Cw V fl))→K (.tuple #[.int .i64 ((V.length:Int) - (V.filter (Cw V fl)).length),.int .i64 0]) I' ((b,BC vV' vI fl)::F)):
  IZ ω (pt b) (.int .i64 0) (.int .i64 0) (λv=>Gh (K v)) I ((bb,stO below)::(b,BC vV vI fl)::F):=by
 unfold IZ;refine loop (λn s I' L'=>I'=I∧∃(i:Nat) (XO:LH) (v:Value) (cells:List Value),n+i=V.length∧s=(v,.int .i64 i,())∧L'=(bb,stO below)::(b,BC vV vI fl)::(XO++F)∧SlO 188 5 XO v cells ((V.take i).filter (Cw V fl)).length∧Recs (TVersionV I) 5 ((V.take i).filter (Cw V fl)) cells) V.length ⟨rfl,0,[],_,[],rfl,rfl,rfl,SlO.none _ _,rfl⟩ ?_;rintro n s I' L' ⟨rfl,i,XO,v,cells,hni,rfl,rfl,hO,hR⟩;unfold VT;try refine O ?_
 refine rdb ?_;simp only [RL.len hV,SSd,Nat.reduceAdd];refine AF (λe=>?_) (λe=>?_)
 ·have hi:i < V.length:=by simpa using e
  obtain ⟨q,off,c,hix,hcl,hc,hcc⟩:=RL.ix hV (i:=(i:Int)) (by omega) (by omega);rw [AX hi] at hc;obtain ⟨u0,u1,rfl,g0,g1⟩:=hc;have hcv:=hcc I' [] (Ext.refl _) (λ_ h=>h);refine AZ ?_
  refine Ab ?_;simp only [hix,SSd,Nat.reduceAdd];refine Av (hcv 0 _ rfl) (Ext.refl _) ?_
  refine Cv [.int .i64 fl.fWall,.int .i64 fl.fLogic] rfl rfl ?_;refine And.intro ?_ ?_
  ·refine call (EF (L0:=(b,BC vV vI fl)::F) (m:=fl) (ADd (List.mem_cons_self ..) hV hI) g0 (by omega) (λw0 w1 hw0 hw1=>?_));obtain ⟨wa,wc,rfl⟩:=Bytes.form hw0;obtain ⟨xa,xc,rfl⟩:=Bytes.form hw1;try refine O ?_
   refine AQ (λb3=>Bt (Ext.refl _) ?_);refine stB rfl rfl (AH rfl) ?_;exact Ql hV hi hVl hO hR (λXO' v' cells' h1 h2=>Gh.done ⟨n - 1,by omega,rfl,i+1,XO',v',cells',by omega,rfl,rfl,h1,h2⟩)
  ·refine AQ (λb3=>Bt (Ext.refl _) ?_);refine call (EF (L0:=(b,BC vV vI fl)::F) (m:=fl) (ADd (List.mem_cons_self ..) hV hI) g0 (by omega) (λw0 w1 hw0 hw1=>?_));obtain ⟨wa,wc,rfl⟩:=Bytes.form hw0;obtain ⟨xa,xc,rfl⟩:=Bytes.form hw1;try refine O ?_
   refine stB rfl rfl (AH rfl) ?_;exact Ql hV hi hVl hO hR (λXO' v' cells' h1 h2=>Gh.done ⟨n - 1,by omega,rfl,i+1,XO',v',cells',by omega,rfl,rfl,h1,h2⟩)
 ·have hi:i=V.length:=by simp at e;omega
  subst hi;rw [List.take_length] at hO hR;have hfl:=List.length_filter_le (Cw V fl) V;obtain ⟨oa,oc,rfl⟩:=hO.form;unfold VS;try refine O ?_
  refine rdb ?_;simp only [RL.len hV,SSd,Nat.reduceAdd];rw [wrap_i64 _ (by omega)];refine st1 rfl ?_;refine Gh.to (XO++((b,BC (.slice oa (V.filter (Cw V fl)).length oc) vI fl)::F)) (SlO.freeze hO (λI3 hI3 hSl=>Gh.done ?_));exact hk I3 _ hI3 (RL.ofI hSl (hR.imp λx c h=>h.mono hI3))
theorem NM {b:Nat}{vV vI:Value}{below:TStamp}{F:LH}{sp:Sp}(h1:RL TVersionV 5 I [] vV (Aa sp.rows))(h2:RL TIntentV 6 I [] vI (intsOf sp.rows))(hok:SpOk sp)(hn:Ac sp.rows≤100000000)
  (hk:∀I' vV',Ext I I'→RL TVersionV 5 I' [] vV' (Aa (colS sp below).rows)→RL TIntentV 6 I' [] vI (intsOf (colS sp below).rows)→K (.tuple #[.int .i64 (Ha sp below).1,.int .i64 (Ha sp below).2]) I' ((b,BC vV' vI (colS sp below).floor)::F)):
  CT ω 119 #[pt b,sv below] K I ((b,BC vV vI sp.floor)::F):=by
 have hVl:(Aa sp.rows).length≤100000000:=by rw [DB];exact hn
 refine ALx ?_;unfold ACZ;refine AQ (λbb=>?_);refine rdB rfl ?_;refine call (Bl (x:=below) ?_);by_cases hr:AN below=false
 ·have e1:colS sp below=sp:=by unfold colS;rw [if_pos hr]
  have e3:Ha sp below=(0,1):=by unfold Ha;rw [if_pos hr]
  rw [e1,e3] at hk;simp only [hr,Bool.not_false,SSd,Nat.reduceAdd];exact Gh.to ((b,BC vV vI sp.floor)::F) (Gh.done (hk I vV (Ext.refl _) h1 h2))
 have e1:colS sp below=⟨Bq (sp.rows.map (CQ (Cy sp below))),Cy sp below⟩:=by unfold colS;rw [if_neg hr]
 have hcv:=AEY hok.rise (Cy sp below);have e3:Ha sp below=(((Aa sp.rows).length:Int) - ((Aa sp.rows).filter (Cw (Aa sp.rows) (Cy sp below))).length,0):=by
  unfold Ha;rw [if_neg hr,e1,←hcv,DB,DB]
 rw [e1,e3] at hk;simp only [hcv,AEZ] at hk;have hr':AN below=true:=by simpa using hr
 simp only [hr',Bool.not_true,SSd,Nat.reduceAdd];refine AZ ?_;refine Ck rfl ?_
 refine Cv [.int .i64 sp.floor.fWall,.int .i64 sp.floor.fLogic] rfl rfl ?_;refine call (Ah (x:=below) (y:=sp.floor) ?_);have fin:∀fl,fl=Cy sp below→IZ ω (pt b) (.int .i64 0) (.int .i64 0) (λv=>Gh (K v)) I ((bb,stO below)::(b,BC vV vI fl)::F):=by
  intro fl hf;subst hf;exact ADh h1 h2 (by omega) (λI' vV' hI' h'=>hk I' vV' hI' h' (h2.mono (λx c h=>h.mono hI') hI' (λ_ h=>h)))
 refine AF (λe=>?_) (λe=>?_)
 ·refine rdB rfl ?_
  refine stP _ rfl rfl rfl rfl ?_;exact fin below (by unfold Cy;rw [if_pos e])
 ·exact fin sp.floor (by unfold Cy;rw [if_neg (by rw [e];simp)])
end
def Pj (k:List UInt8)(rows:List Row):List Row:=rows.filter λr=>blt r.key k
def CY (k:List UInt8)(rows:List Row):List Row:=rows.filter λr=> !blt r.key k
theorem MI {k:List UInt8}:∀{rows:List Row},SrtK (keysOf rows)→rows=Pj k rows++CY k rows
 |[],_=>rfl
 |r::rs,h=>by
  obtain ⟨h1,h2⟩:=List.pairwise_cons.1 (show List.Pairwise _ (r.key::keysOf rs) from h);have ih:=MI (k:=k) h2;unfold Pj CY at ih ⊢;have g1:(r::rs).filter (λr=>blt r.key k)=if blt r.key k=true then r::rs.filter (λr=>blt r.key k) else rs.filter (λr=>blt r.key k):=List.filter_cons
  have g2:(r::rs).filter (λr=> !blt r.key k)=if (!blt r.key k)=true then r::rs.filter (λr=> !blt r.key k) else rs.filter (λr=> !blt r.key k):=List.filter_cons
  rw [g1,g2];cases hb:blt r.key k with
  |true=>rw [if_pos rfl,if_neg (by simp),List.cons_append,←ih]
  |false=>
   have hall:∀x∈rs,blt x.key k=false:=λx hx=>by
    cases hx2:blt x.key k with
    |false=>rfl
    |true=>rw [CG (h1 _ (List.mem_map_of_mem hx)) hx2] at hb;cases hb
   rw [if_neg (by simp),if_pos (by simp),List.filter_eq_nil_iff.2 (λx hx=>by simp [hall x hx]),List.filter_eq_self.2 (λx hx=>by simp [hall x hx])];rfl
def HV (k:List UInt8)(sp:Sp):Sp:=⟨Pj k sp.rows,sp.floor⟩
def GN (k:List UInt8)(sp:Sp):Sp:=⟨CY k sp.rows,sp.floor⟩
theorem AGN {k:List UInt8}{sp:Sp}(h:SpOk sp):SpOk (HV k sp):=⟨h.rise.sub List.filter_sublist,λr hr=>h.rows r (List.mem_filter.1 hr).1,h.floor⟩
theorem AGM {k:List UInt8}{sp:Sp}(h:SpOk sp):SpOk (GN k sp):=⟨h.rise.sub List.filter_sublist,λr hr=>h.rows r (List.mem_filter.1 hr).1,h.floor⟩
theorem Wa (A B:List Row):Ac (A++B)=Ac A+Ac B:=by simp [Ac]
def Wd (g:Bool)(v:TVer):Bool×List UInt8:=if g=true then (true,[]) else (false,Bi v)
def verN (g:Bool)(k:List UInt8)(l:List TVer)(nt:Nts):Nts:=l.foldl (λnt v=>Cj nt (CH k v) (Wd g v)) nt
def noteA (g:Bool)(r:Row)(nt:Nts):Nts:=if r.it.txn=0 then verN g r.key r.vs nt else Cj (verN g r.key r.vs nt) (105::r.key) (if g=true then (true,[]) else CX r.it)
def noteAs (g:Bool)(rs:List Row)(nt:Nts):Nts:=rs.foldl (λnt r=>noteA g r nt) nt
def nt0:Nts:=λ_=>none
noncomputable instance (fl:TStamp):Decidable (fl=z0):=Classical.propDecidable _
noncomputable def BL (fl:TStamp):Nts:=if fl=z0 then nt0 else Cj nt0 [102] (false,stF fl)
section
variable {ω:Om}{I:Imm}{L:LH}{K:Value→M}
def sp0:Sp:=⟨[],⟨0,0⟩⟩
theorem AJM:SpOk sp0:=⟨List.Pairwise.nil,(λr hr=>by cases hr),by decide⟩
theorem Qx (hk:∀b X,SpR I b X sp0 nt0→K (pt b) I (X++L)):CT ω 32 #[] K I L:=by
 refine ANg ?_;unfold AJh;refine Qw (λm=>Gh.done (Qw (λch=>Gh.done ?_)));try refine O ?_
 refine AQ (λb=>?_);refine Gh.perm (L':=((b,spO m (.slice none 0 0) ⟨0,0⟩ ch)::(m,.map #[] 0)::([]++([]++[(ch,.map #[] 0)])))++L) (AO (by ((try simp only [AJ,AM,AU,AP]);(try ac_rfl)))) (Gh.done (hk b _ ?_));exact ⟨[],m,ch,_,_,_,[],[],[(ch,.map #[] 0)],List.Perm.refl _,MapS.empty,SlO.none _ 1,rfl,⟨#[],0,λ_=>none,rfl,MapS.empty,λk=>.inl ⟨rfl,rfl⟩⟩⟩
end
theorem WZ {k:List UInt8}{sp:Sp}(h:SpOk sp):(HV k sp).rows.length≤sp.rows.length∧(GN k sp).rows.length≤sp.rows.length∧Ac (HV k sp).rows≤Ac sp.rows∧Ac (GN k sp).rows≤Ac sp.rows:=by
 have e:=MI (k:=k) h.rise;have e1:sp.rows.length=(HV k sp).rows.length+(GN k sp).rows.length:=by
  conv=>lhs;rw [e]
  rw [List.length_append];rfl
 have e2:Ac sp.rows=Ac (HV k sp).rows+Ac (GN k sp).rows:=by
  conv=>lhs;rw [e]
  rw [Wa];rfl
 omega
def CC (p:TSpan):Bool:=decide (p.fFrom.length≤111)&&decide (p.fTo.length≤111)&&(p.fTo.length==0||blt p.fFrom p.fTo)
def BJ (c:TCmd):Bool:=c.fKey.length==0&&c.fValue.length==0&& !c.fDel
def Ea (c:TCmd):Bool:=c.fValue.length==0&& !c.fDel
def CF (c:TCmd):Bool:=c.fSpan.fFrom.length==0&&c.fSpan.fTo.length==0
def Ek (c:TCmd):Bool:=c.fTo.fWall==0&&c.fTo.fLogic==0
def Pg (c:TCmd):Bool:=c.fAt.fWall==0&&c.fAt.fLogic==0
def kindOk (c:TCmd):Bool:=
 if c.fKind=1 then Ai c.fTxn&&Aj c.fKey&&Ea c&&CF c&&c.fBy==0&& !c.fYes&&Ek c&&c.fMost==0&&c.fSeq==0 else
 if c.fKind=2 then Ai c.fTxn&&decide (1≤c.fMost∧c.fMost≤90)&&BJ c&&c.fBy==0&& !c.fYes&&Ek c&&c.fSeq==0 else
 if c.fKind=3 then BU c.fTxn&&decide (0 < c.fSeq)&&Aj c.fKey&&decide (c.fValue.length≤10000)&&(!c.fDel||c.fValue.length==0)&&CF c&&c.fBy==0&& !c.fYes&&Ek c&&c.fMost==0 else
 if c.fKind=4 then BU c.fTxn&&decide (0 < c.fSeq)&&BJ c&&c.fBy==0&& !c.fYes&&c.fMost==0 else
 if c.fKind=5 then BU c.fTxn&&decide (0 < c.fSeq)&&BJ c&&CF c&&c.fBy==0&& !c.fYes&&Ek c&&c.fMost==0 else
 if c.fKind=6 then BU c.fTxn&&BJ c&&CF c&&c.fBy==0&&Ek c&&c.fMost==0&&c.fSeq==0 else
 if c.fKind=7 then BU c.fTxn&&BU c.fBy&&BJ c&&CF c&& !c.fYes&&Ek c&&c.fMost==0&&c.fSeq==0 else
 if c.fKind=8 then BU c.fTxn&&Pg c&&BJ c&&CF c&&c.fBy==0&& !c.fYes&&Ek c&&c.fMost==0&&c.fSeq==0 else
 if c.fKind=9 then BU c.fTxn&&BJ c&&c.fBy==0&&Ek c&&c.fMost==0&&c.fSeq==0 else
 if c.fKind=10 then c.fTxn==0&&BJ c&&CF c&&c.fBy==0&& !c.fYes&&Ek c&&c.fMost==0&&c.fSeq==0 else
 if c.fKind=11 then c.fTxn==0&&Pg c&&Aj c.fKey&&Ea c&&decide (1≤c.fBy∧c.fBy≤255)&&CF c&& !c.fYes&&Ek c&&c.fMost==0&&c.fSeq==0 else false
def BV (c:TCmd):Bool:=AN c.fAt&&AN c.fTo&&CC c.fSpan&&decide (0≤c.fSeq∧c.fSeq≤9007199254740991)&&kindOk c
def EQ (n:Int):Prop:=0≤n∧n≤9007199254740991
theorem Ce {n:Int}(h:BU n=true):EQ n:=by simp [BU] at h;exact ⟨by omega,by omega⟩
theorem Jo {n:Int}(h:Ai n=true):EQ n:=by
 simp only [Ai,Bool.or_eq_true,beq_iff_eq] at h;rcases h with h|h
 ·rw [h];exact ⟨by omega,by omega⟩
 ·exact Ce h
theorem Ll {s:TStamp}(h:AN s=true):EQ s.fWall∧EQ s.fLogic:=by
 simp only [AN,IG,Bool.and_eq_true,decide_eq_true_eq] at h;exact ⟨⟨h.1.1,h.1.2⟩,h.2.1,by omega⟩
structure CmdOk (c:TCmd):Prop where
 kind:1≤c.fKind∧c.fKind≤11
 txn:EQ c.fTxn
 seq:EQ c.fSeq
 by':EQ c.fBy
 most:0≤c.fMost∧c.fMost≤90
 at':AN c.fAt=true
 to:AN c.fTo=true
 key:c.fKey.length≤110
 value:c.fValue.length≤10000
 span:CC c.fSpan=true
theorem CS:EQ 0:=⟨by omega,by omega⟩
set_option maxHeartbeats 4000000 in
theorem HJ {c:TCmd}(h:BV c=true):CmdOk c:=by
 simp only [BV,Bool.and_eq_true,decide_eq_true_eq] at h;obtain ⟨⟨⟨⟨h1,h2⟩,h3⟩,h4⟩,h5⟩:=h;have key:∀(q:Prop) [Decidable q] (a b:Bool),(if q then a else b)=true→(q∧a=true)∨b=true:=by
  intro q _ a b h;split at h
  ·exact .inl ⟨by assumption,h⟩
  ·exact .inr h
 have hk:(1≤c.fKind∧c.fKind≤11)∧EQ c.fTxn∧EQ c.fBy∧(0≤c.fMost∧c.fMost≤90)∧c.fKey.length≤110∧c.fValue.length≤10000:=by
  unfold kindOk at h5;rcases key _ _ _ h5 with ⟨e,h⟩|h5
  ·simp only [Bool.and_eq_true,Ea,BJ,Aj,beq_iff_eq,decide_eq_true_eq] at h;exact ⟨by omega,Jo h.1.1.1.1.1.1.1.1,by rw [h.1.1.1.1.2];exact CS,by omega,by omega,by omega⟩
  rcases key _ _ _ h5 with ⟨e,h⟩|h5
  ·simp only [Bool.and_eq_true,Ea,BJ,Aj,beq_iff_eq,decide_eq_true_eq] at h;exact ⟨by omega,Jo h.1.1.1.1.1.1,by rw [h.1.1.1.2];exact CS,by omega,by omega,by omega⟩
  rcases key _ _ _ h5 with ⟨e,h⟩|h5
  ·simp only [Bool.and_eq_true,Ea,BJ,Aj,beq_iff_eq,decide_eq_true_eq] at h;exact ⟨by omega,Ce h.1.1.1.1.1.1.1.1.1,by rw [h.1.1.1.2];exact CS,by omega,by omega,by omega⟩
  rcases key _ _ _ h5 with ⟨e,h⟩|h5
  ·simp only [Bool.and_eq_true,Ea,BJ,Aj,beq_iff_eq,decide_eq_true_eq] at h;exact ⟨by omega,Ce h.1.1.1.1.1,by rw [h.1.1.2];exact CS,by omega,by omega,by omega⟩
  rcases key _ _ _ h5 with ⟨e,h⟩|h5
  ·simp only [Bool.and_eq_true,Ea,BJ,Aj,beq_iff_eq,decide_eq_true_eq] at h;exact ⟨by omega,Ce h.1.1.1.1.1.1.1,by rw [h.1.1.1.2];exact CS,by omega,by omega,by omega⟩
  rcases key _ _ _ h5 with ⟨e,h⟩|h5
  ·simp only [Bool.and_eq_true,Ea,BJ,Aj,beq_iff_eq,decide_eq_true_eq] at h;exact ⟨by omega,Ce h.1.1.1.1.1.1,by rw [h.1.1.1.2];exact CS,by omega,by omega,by omega⟩
  rcases key _ _ _ h5 with ⟨e,h⟩|h5
  ·simp only [Bool.and_eq_true,Ea,BJ,Aj,beq_iff_eq,decide_eq_true_eq] at h;exact ⟨by omega,Ce h.1.1.1.1.1.1.1,Ce h.1.1.1.1.1.1.2,by omega,by omega,by omega⟩
  rcases key _ _ _ h5 with ⟨e,h⟩|h5
  ·simp only [Bool.and_eq_true,Ea,BJ,Aj,beq_iff_eq,decide_eq_true_eq] at h;exact ⟨by omega,Ce h.1.1.1.1.1.1.1.1,by rw [h.1.1.1.1.2];exact CS,by omega,by omega,by omega⟩
  rcases key _ _ _ h5 with ⟨e,h⟩|h5
  ·simp only [Bool.and_eq_true,Ea,BJ,Aj,beq_iff_eq,decide_eq_true_eq] at h;exact ⟨by omega,Ce h.1.1.1.1.1,by rw [h.1.1.1.2];exact CS,by omega,by omega,by omega⟩
  rcases key _ _ _ h5 with ⟨e,h⟩|h5
  ·simp only [Bool.and_eq_true,Ea,BJ,Aj,beq_iff_eq,decide_eq_true_eq] at h;exact ⟨by omega,by rw [h.1.1.1.1.1.1.1];exact CS,by rw [h.1.1.1.1.2];exact CS,by omega,by omega,by omega⟩
  rcases key _ _ _ h5 with ⟨e,h⟩|h5
  ·simp only [Bool.and_eq_true,Ea,BJ,Aj,beq_iff_eq,decide_eq_true_eq] at h;exact ⟨by omega,by rw [h.1.1.1.1.1.1.1.1.1];exact CS,⟨by omega,by omega⟩,by omega,by omega,by omega⟩
  ·cases h5
 exact ⟨hk.1,hk.2.1,⟨h4.1,h4.2⟩,hk.2.2.1,hk.2.2.2.1,h1,h2,hk.2.2.2.2.1,hk.2.2.2.2.2,h3⟩
end Go.Proofs.YtmmfcgbfbcamcaaGreatDoor
namespace Go.SL
abbrev ED:=Int
def DI (k:ED):Value:=.int .i64 k
def BN (e:MapEntry):ED:=match e.key with
 | .int _ n=>n
 |_=>0
def Cd (k:ED):List MapEntry→Nat→Option (Nat×Value)
 |[],_=>none
 |e::r,i=>if BN e=k then some (i,e.val) else Cd k r (i+1)
def Jk (m:ED→Option Value)(k:ED)(v:Option Value):ED→Option Value:=λq=>if q=k then v else m q
structure MapSi (es:Array MapEntry)(clock:Nat)(m:ED→Option Value):Prop where
 str:∀e∈es.toList,∃s:Int,e.key= .int .i64 s
 nod:(es.toList.map BN).Nodup
 brn:∀e∈es.toList,e.born < clock
 bnd:(es.toList.map (·.born)).Nodup
 val:∀k,m k=(Cd k es.toList 0).map (·.2)
theorem Il {k:ED}:∀{l:List MapEntry} {i:Nat},(∀e∈l,∃s:Int,e.key= .int .i64 s)→Instr.findNow (.int .i64) (DI k) l i=some (Cd k l i)
 |[],_,_=>rfl
 |e::l,i,h=>by
  obtain ⟨s,hs⟩:=h e (List.mem_cons_self ..);have ih:=Il (k:=k) (l:=l) (i:=i+1) (λx hx=>h x (List.mem_cons_of_mem _ hx));simp only [Instr.findNow,Cd,BN,hs,DI,Instr.sameNow,if_true];by_cases hk:s=k
  ·have:(k==s)=true:=by simp [hk]
   rw [this,if_pos hk]
  ·have:(k==s)=false:=by simp;exact λh=>hk h.symm
   rw [this,if_neg hk];exact ih
theorem MapSi.find {es:Array MapEntry}{clock:Nat}{m:ED→Option Value}(h:MapSi es clock m)(k:ED):Instr.findNow (.int .i64) (DI k) es.toList 0=some (Cd k es.toList 0):=Il h.str
theorem MapSi.empty:MapSi #[] 0 (λ_=>none):=⟨λe h=>by simp at h,by simp,λe h=>by simp at h,by simp,λk=>rfl⟩
theorem fnd_nonei {k:ED}:∀{l:List MapEntry} {i:Nat},Cd k l i=none↔k ∉ l.map BN
 |[],_=>by simp [Cd]
 |e::l,i=>by
  simp only [Cd,List.map_cons,List.mem_cons,not_or];by_cases h:BN e=k
  ·simp [h]
  ·rw [if_neg h,fnd_nonei (l:=l)];exact ⟨λh'=>⟨λe'=>h e'.symm,h'⟩,λh'=>h'.2⟩
theorem Jd {k:ED}:∀{l:List MapEntry} {i j:Nat} {v:Value},Cd k l i=some (j,v)→∃n e,j=i+n∧l[n]? =some e∧BN e=k∧e.val=v
 |[],_,_,_,h=>by simp [Cd] at h
 |e::l,i,j,v,h=>by
  simp only [Cd] at h;split at h
  ·rename_i hk
   simp only [Option.some.injEq,Prod.mk.injEq] at h;exact ⟨0,e,by omega,rfl,hk,h.2⟩
  ·obtain ⟨n,e',h1,h2,h3,h4⟩:=Jd h;exact ⟨n+1,e',by omega,by simpa using h2,h3,h4⟩
theorem Dc {k:ED}:∀{l:List MapEntry} {i j:Nat},(Cd k l i).map (·.2)=(Cd k l j).map (·.2)
 |[],_,_=>rfl
 |e::l,i,j=>by
  simp only [Cd];split
  ·rfl
  ·exact Dc
theorem Jy {k:ED}:∀{l l':List MapEntry} {i:Nat},(Cd k (l++l') i).map (·.2)=match (Cd k l i).map (·.2) with
  |some v=>some v
  |none=>(Cd k l' 0).map (·.2)
 |[],l',i=>by simp only [List.nil_append,Cd,Option.map_none];exact Dc
 |e::l,l',i=>by
  simp only [List.cons_append,Cd];split
  ·rfl
  ·exact Jy
theorem RS {k q:ED}{v:Value}:∀{l:List MapEntry} {n:Nat} {e:MapEntry},l[n]? =some e→BN e=k→(l.map BN).Nodup→
  (Cd q (l.set n {e with key:=DI k,val:=v}) 0).map (·.2)=if q=k then some v else (Cd q l 0).map (·.2)
 |[],n,e,h,_,_=>by simp at h
 |x::l,0,e,h,hk,hn=>by
  simp only [List.getElem?_cons_zero,Option.some.injEq] at h;subst h;have hko:BN {x with key:=DI k,val:=v}=k:=by simp [BN,DI]
  simp only [List.set_cons_zero,Cd,hko,hk];by_cases h:k=q
  ·simp [h]
  ·rw [if_neg h,if_neg (λe=>h e.symm),if_neg h]
 |x::l,n+1,e,h,hk,hn=>by
  simp only [List.getElem?_cons_succ] at h;simp only [List.map_cons,List.nodup_cons] at hn;simp only [List.set_cons_succ,Cd];have hmem:k∈l.map BN:=List.mem_map.2 ⟨e,List.mem_of_getElem? h,hk⟩;by_cases hx:BN x=q
  ·rw [if_pos hx,if_pos hx,if_neg];intro e';rw [hx,e'] at hn;exact hn.1 hmem
  ·rw [if_neg hx,if_neg hx];have ih:=RS (q:=q) (v:=v) h hk hn.2;rw [Dc (j:=0),ih,Dc (i:=0+1) (j:=0)]
theorem Nl {k:ED}{v:Value}:∀{l:List MapEntry} {n:Nat} {e:MapEntry},l[n]? =some e→BN e=k→(l.set n {e with key:=DI k,val:=v}).map BN=l.map BN
 |[],n,e,h,_=>by simp at h
 |x::l,0,e,h,hk=>by
  simp only [List.getElem?_cons_zero,Option.some.injEq] at h;subst h;simp [BN,DI] at hk ⊢;exact hk.symm
 |x::l,n+1,e,h,hk=>by
  simp only [List.getElem?_cons_succ] at h;simp only [List.set_cons_succ,List.map_cons,Nl h hk]
theorem LX {k:ED}{v:Value}:∀{l:List MapEntry} {n:Nat} {e:MapEntry},l[n]? =some e→(l.set n {e with key:=DI k,val:=v}).map (·.born)=l.map (·.born)
 |[],n,e,h=>by simp at h
 |x::l,0,e,h=>by
  simp only [List.getElem?_cons_zero,Option.some.injEq] at h;subst h;simp
 |x::l,n+1,e,h=>by
  simp only [List.getElem?_cons_succ] at h;simp only [List.set_cons_succ,List.map_cons,LX (k:=k) h]
def Vk (k:ED)(v:Value)(es:Array MapEntry)(clock:Nat):Obj:=match Cd k es.toList 0 with
 |some (i,_)=>.map (es.modify i λe=>{e with key:=DI k,val:=v}) clock
 |none=>.map (es.push {key:=DI k,val:=v,born:=clock}) (clock+1)
theorem MapSi.put {es:Array MapEntry}{clock:Nat}{m:ED→Option Value}(h:MapSi es clock m)(k:ED)(v:Value):∃es' clock',Vk k v es clock= .map es' clock'∧MapSi es' clock' (Jk m k (some v)):=by
 unfold Vk;cases hf:Cd k es.toList 0 with
 |none=>
  refine ⟨_,_,rfl,?_⟩;have hn:=fnd_nonei.1 hf;have hl:(es.push {key:=DI k,val:=v,born:=clock}).toList=es.toList++[{key:=DI k,val:=v,born:=clock}]:=by simp
  have hko:BN {key:=DI k,val:=v,born:=clock}=k:=by simp [BN,DI]
  refine ⟨λe he=>?_,?_,λe he=>?_,?_,λq=>?_⟩
  ·rw [hl] at he;rcases List.mem_append.1 he with he|he
   ·exact h.str e he
   ·simp only [List.mem_singleton] at he;subst he;exact ⟨_,rfl⟩
  ·rw [hl,List.map_append,List.nodup_append];refine ⟨h.nod,by simp,λa ha b hb=>?_⟩;simp only [List.map_cons,List.map_nil,List.mem_singleton,hko] at hb;subst hb;exact λe=>hn (e ▸ ha)
  ·rw [hl] at he;rcases List.mem_append.1 he with he|he
   ·have:=h.brn e he;omega
   ·simp only [List.mem_singleton] at he;subst he;simp
  ·rw [hl,List.map_append,List.nodup_append];refine ⟨h.bnd,by simp,λa ha b hb=>?_⟩;simp only [List.map_cons,List.map_nil,List.mem_singleton] at hb;subst hb;obtain ⟨e,he,rfl⟩:=List.mem_map.1 ha;have:=h.brn e he;omega
  ·rw [hl,Jy,←h.val q];unfold Jk;by_cases e:q=k
   ·subst e;rw [if_pos rfl,h.val q,hf];simp [Cd,hko]
   ·rw [if_neg e];have hf0:Cd q [{key:=DI k,val:=v,born:=clock}] 0=none:=by
     simp only [Cd,hko];rw [if_neg (λe'=>e (Eq.symm e'))]
    rw [hf0];cases m q <;> rfl
 |some p=>
  obtain ⟨i,u⟩:=p;obtain ⟨n,e,h1,h2,h3,h4⟩:=Jd hf;obtain rfl:i=n:=by omega
  refine ⟨_,_,rfl,?_⟩;have hl:=MD (f:=λe=>{e with key:=DI k,val:=v}) h2;refine ⟨λx hx=>?_,?_,λx hx=>?_,?_,λq=>?_⟩
  ·rw [hl] at hx;rcases List.mem_or_eq_of_mem_set hx with hx|rfl
   ·exact h.str x hx
   ·exact ⟨_,rfl⟩
  ·rw [hl,Nl h2 h3];exact h.nod
  ·rw [hl] at hx;rcases List.mem_or_eq_of_mem_set hx with hx|rfl
   ·exact h.brn x hx
   ·exact h.brn e (List.mem_of_getElem? h2)
  ·rw [hl,LX (k:=k) h2];exact h.bnd
  ·rw [hl,RS h2 h3 h.nod,←h.val q];rfl
def WE (k:ED)(es:Array MapEntry)(clock:Nat):Obj:=match Cd k es.toList 0 with
 |some (i,_)=>.map (es.eraseIdxIfInBounds i) clock
 |none=>.map es clock
theorem Ma {k q:ED}:∀{l:List MapEntry} {n:Nat} {e:MapEntry},l[n]? =some e→BN e=k→(l.map BN).Nodup→(Cd q (l.eraseIdx n) 0).map (·.2)=if q=k then none else (Cd q l 0).map (·.2)
 |[],n,e,h,_,_=>by simp at h
 |x::l,0,e,h,hk,hn=>by
  simp only [List.getElem?_cons_zero,Option.some.injEq] at h;subst h;simp only [List.map_cons,List.nodup_cons] at hn;simp only [List.eraseIdx_cons_zero,Cd,hk];by_cases h:q=k
  ·subst h;rw [if_pos rfl,fnd_nonei.2 (by rw [←hk];exact hn.1)];rfl
  ·rw [if_neg h,if_neg (λe=>h e.symm)];exact Dc
 |x::l,n+1,e,h,hk,hn=>by
  simp only [List.getElem?_cons_succ] at h;simp only [List.map_cons,List.nodup_cons] at hn;simp only [List.eraseIdx_cons_succ,Cd];have hmem:k∈l.map BN:=List.mem_map.2 ⟨e,List.mem_of_getElem? h,hk⟩;by_cases hx:BN x=q
  ·rw [if_pos hx,if_pos hx,if_neg];intro e';rw [hx,e'] at hn;exact hn.1 hmem
  ·rw [if_neg hx,if_neg hx,Dc (j:=0),Ma h hk hn.2,Dc (i:=0+1) (j:=0)]
theorem MapSi.del {es:Array MapEntry}{clock:Nat}{m:ED→Option Value}(h:MapSi es clock m)(k:ED):∃es',WE k es clock= .map es' clock∧MapSi es' clock (Jk m k none):=by
 unfold WE;cases hf:Cd k es.toList 0 with
 |none=>
  refine ⟨es,rfl,h.str,h.nod,h.brn,h.bnd,λq=>?_⟩;unfold Jk;by_cases e:q=k
  ·subst e;rw [if_pos rfl,hf];rfl
  ·rw [if_neg e];exact h.val q
 |some p=>
  obtain ⟨i,u⟩:=p;obtain ⟨n,e,h1,h2,h3,h4⟩:=Jd hf;obtain rfl:i=n:=by omega
  have hlt:i < es.size:=by
   have:=(List.getElem?_eq_some_iff.1 h2).1;simpa using this
  have hl:(es.eraseIdxIfInBounds i).toList=es.toList.eraseIdx i:=by simp [Array.eraseIdxIfInBounds,hlt]
  refine ⟨_,rfl,λx hx=>?_,?_,λx hx=>?_,?_,λq=>?_⟩
  ·rw [hl] at hx;exact h.str x (List.mem_of_mem_eraseIdx hx)
  ·rw [hl];exact h.nod.sublist (List.Sublist.map _ (List.eraseIdx_sublist ..))
  ·rw [hl] at hx;exact h.brn x (List.mem_of_mem_eraseIdx hx)
  ·rw [hl];exact h.bnd.sublist (List.Sublist.map _ (List.eraseIdx_sublist ..))
  ·rw [hl,Ma h2 h3 h.nod,←h.val q];rfl
section rules
variable {I:Imm}{L:LH}{K:Value→M}{b:Nat}{es:Array MapEntry}{clock:Nat}{m:ED→Option Value}{k:ED}{v:Value}{S:M}
theorem AJy {zero:Value}{ok:Bool}(h:MapSi es clock m):(match Cd k es.toList 0 with
  |some (_,u)=>if ok then .tuple #[u,.bool true] else u
  |none=>if ok then .tuple #[zero,.bool false] else zero)=lkV zero ok (m k):=by
 rw [h.val k];cases Cd k es.toList 0 <;> rfl
theorem AEF {zero:Value}{ok:Bool}(ha:MapAt I L b es clock)(h:MapSi es clock m):lkR (.int .i64) zero ok (.map (some b)) (DI k) I L (lkV zero ok (m k)):=
 ⟨es,_,.inr ⟨b,clock,rfl,ha⟩,h.find k,(AJy h).symm⟩
theorem AOI {zero:Value}{ok:Bool}[hin:InL b L (.map es clock)](h:MapSi es clock m)(hk:K (lkV zero ok (m k)) I L):Rv none (lkR (.int .i64) zero ok (.map (some b)) (DI k)) K I L:=
 ⟨_,AEF (.inl hin.mem) h,hk⟩
theorem AMi {I0:Imm}{X:LH}{zero:Value}{ok:Bool}[hin:InL b X (.map es clock)](h:MapSi es clock m)(hk:K (lkV zero ok (m k)) I L):Rv (some (Stay I0 X)) (lkR (.int .i64) zero ok (.map (some b)) (DI k)) K I L:=
 ⟨_,λI' L' hS=>AEF (.inl (hS.2 _ hin.mem)) h,hk⟩
theorem RG [hin:InL b L (.map es clock)](hk:K (.int .i64 es.size) I L):Rv none (Gg (.map (some b))) K I L:=⟨_,⟨es,.inr ⟨b,clock,rfl,.inl hin.mem⟩,rfl⟩,hk⟩
theorem AMg {L':LH}{es':Array MapEntry}{clock':Nat}(h:MapSi es clock m)(he:Vk k v es clock= .map es' clock')[u:UpL b L (.map es clock) (.map es' clock') L'](hk:K undef I L'):
  Gu (.int .i64) (.map (some b)) (DI k) v K I L:=by
 obtain ⟨L1,L2,rfl,rfl⟩:=u.up;refine ⟨b,es,clock,L1,L2,_,rfl,rfl,h.find k,?_⟩;unfold Vk at he;cases hf:Cd k es.toList 0 with
 |none=>rw [hf] at he;simp only at he ⊢;rw [he];exact hk
 |some p=>obtain ⟨i,w⟩:=p;rw [hf] at he;simp only at he ⊢;rw [he];exact hk
theorem AMq {L':LH}{es':Array MapEntry}{clock':Nat}(h:MapSi es clock m)(he:WE k es clock= .map es' clock')[u:UpL b L (.map es clock) (.map es' clock') L'](hk:K (.tuple #[]) I L'):
  NV (.int .i64) (.map (some b)) (DI k) K I L:=by
 obtain ⟨L1,L2,rfl,rfl⟩:=u.up;refine .inr ⟨b,es,clock,L1,L2,_,rfl,rfl,h.find k,?_⟩;unfold WE at he;cases hf:Cd k es.toList 0 with
 |none=>rw [hf] at he;simp only at he ⊢;rw [he];exact hk
 |some p=>obtain ⟨i,w⟩:=p;rw [hf] at he;simp only at he ⊢;rw [he];exact hk
end rules
section iter
variable {I:Imm}{L0:LH}{K:Value→M}{b r clock:Nat}{es:Array MapEntry}{m:ED→Option Value}{vis:List MapEntry}
theorem AIg (h:MapSi es clock m)(ha:MapAt I L0 r es clock)(hi:It es vis)(hend:vis.Perm es.toList→K (.tuple #[.bool false]) I ((b,Bc r clock vis)::L0))
  (hstep:∀e,e∈es.toList→It es (vis++[e])→K (.tuple #[.bool true,e.key,e.val]) I ((b,Bc r clock (vis++[e]))::L0)):My (.pointer (some ⟨b,0,.none⟩)) K I ((b,Bc r clock vis)::L0):=by
 refine ⟨b,[],L0,rfl,.inr ⟨r,clock,(vis.map (·.born)).toArray,clock,es,clock,rfl,MapAt.skip ha,?_,λhh=>hend ?_,λe he hs=>?_⟩⟩
 ·intro hc;simp only [Bool.and_eq_true,Bool.not_eq_true',Array.isEmpty_iff,Array.all_eq_true',decide_eq_true_eq] at hc;cases hl:es.toList with
  |nil=>
   have:es=#[]:=by cases es;simpa using hl
   have h2:=hc.1.2;rw [this] at h2;simp at h2
  |cons e l=>
   have he:e∈es.toList:=by rw [hl];exact List.mem_cons_self ..
   have h1:=h.brn e he;have h2:=hc.2 e (by simpa using he);omega
 ·refine (List.perm_ext_iff_of_nodup (BH hi.nod) (BH h.bnd)).2 λe=>⟨hi.sub e,λhe=>?_⟩;cases hc:(vis.map (·.born)).toArray.contains e.born with
  |false=>have:=hh e (by simpa using he) hc;have:=h.brn e he;omega
  |true=>
   have:e.born∈vis.map (·.born):=by simpa using hc
   obtain ⟨v,hv,hve⟩:=List.mem_map.1 this;have:=El h.bnd (hi.sub v hv) he hve;rw [←this];exact hv
 ·have hne:e.born ∉ vis.map (·.born):=by simpa using hs
  have hit:It es (vis++[e]):=⟨λx hx=>by
   rcases List.mem_append.1 hx with hx|hx
   ·exact hi.sub x hx
   ·simp only [List.mem_singleton] at hx;subst hx;simpa using he,by
   rw [List.map_append,List.nodup_append];refine ⟨hi.nod,by simp,λa ha b hb=>?_⟩;simp only [List.map_cons,List.map_nil,List.mem_singleton] at hb;subst hb;exact λe'=>hne (e' ▸ ha)⟩
  have:=hstep e (by simpa using he) hit;simpa [Bc] using this
theorem AIo (h:MapSi es clock m)(ha:MapAt I L0 r es clock){e:MapEntry}(he:e∈es.toList):NR (.pointer (some ⟨b,0,.none⟩)) I ((b,Bc r clock (vis++[e]))::L0) (.tuple #[e.key,e.val]):=by
 refine ⟨b,r,clock,((vis++[e]).map (·.born)).toArray,clock,es,clock,e.born,e,rfl,.inl (List.mem_cons_self ..),by simp,MapAt.skip ha,by simp,?_,rfl⟩;cases hf:es.find? (·.born==e.born) with
 |none=>
  rw [←Array.find?_toList] at hf;have:=List.find?_eq_none.1 hf e he;simp at this
 |some e'=>
  rw [←Array.find?_toList] at hf;have h1:=List.find?_some hf;rw [El h.bnd (List.mem_of_find?_eq_some hf) he (by simpa using h1)]
end iter
end Go.SL
