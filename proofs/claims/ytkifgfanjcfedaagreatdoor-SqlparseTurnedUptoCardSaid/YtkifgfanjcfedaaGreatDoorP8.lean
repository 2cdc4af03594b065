/-
  Lemmas, part 8: laid together by a program.
-/
import Derived.Test.YtkifgfanjcfedaaGreatDoorP6
import Derived.Test.YtkifgfanjcfedaaGreatDoorP7
import Derived.Test.YtkifgfanjcfedaaGreatDoorProg
import Derived.Shelf.Strconv.Itoa4
import Derived.Shelf.Lays
import Derived.Test.YtkifgfanjcfedaaGreatDoorP5
import Derived.Test.YtkifgfanjcfedaaGreatDoorP2
set_option maxRecDepth 100000
set_option maxHeartbeats 4000000
set_option linter.unusedVariables false
set_option linter.unusedSimpArgs false
set_option linter.unusedSectionVars false
namespace Go.Proofs.YtkifgfanjcfedaaGreatDoor
open Go.SL
theorem ACa:∀{l:Bs} {n k:Int},(∀d∈l,BC d=true)→0≤n→n≤9223372036854775807→MK l n=some k→0≤k∧k≤9223372036854775807
 |[],n,k,_,h0,h1,h=>by simp only [MK,Option.some.injEq] at h;subst h;exact ⟨h0,h1⟩
 |d::r,n,k,hd,h0,h1,h=>by
  have hdg:=hd d (List.mem_cons_self ..);simp only [BC,Bool.and_eq_true,decide_eq_true_eq] at hdg;have g1:(48:Nat)≤d.toNat:=hdg.1;have g2:d.toNat≤57:=hdg.2;simp only [MK] at h;split at h
  ·cases h
  ·exact ACa (fun e he=>hd e (List.mem_cons_of_mem _ he)) (by omega) (by omega) h
theorem AKh {a:Nat}:∀{l:Bs} {t:Tok} {r:Bs},DJ a l= .tok t r→ADA t
 |[],t,r,h=>by simp [DJ] at h
 |c::l,t,r,h=>by
  simp only [DJ] at h;split at h
  ·unfold Gw at h;split at h
   ·cases h
   ·simp only [LexR.tok.injEq] at h;obtain ⟨rfl,_⟩:=h;refine ⟨?_,?_,?_,?_⟩
    ·simp only;split <;> decide
    ·simp only
     intro hk;split at hk
     ·rename_i hc;exact List.contains_iff_mem.1 hc
     ·exact absurd hk (by decide)
    ·simp only;intro hk;split at hk <;> exact absurd hk (by decide)
    ·simp only;intro hk;split at hk <;> exact absurd hk (by decide)
  split at h
  ·split at h
   ·cases h
   ·rename_i k hk
    split at h
    ·cases h
    ·simp only [LexR.tok.injEq] at h;obtain ⟨rfl,_⟩:=h;exact ⟨by simp,by simp,by simp,fun _=>ACa (fun d hd=>Ea hd) (by omega) (by omega) hk⟩
  split at h
  ·split at h
   ·cases h
   ·split at h
    ·split at h
     ·cases h
     ·simp only [LexR.tok.injEq] at h;obtain ⟨rfl,_⟩:=h;exact ⟨by simp,by simp,by simp,by simp⟩
    ·simp only [LexR.tok.injEq] at h;obtain ⟨rfl,_⟩:=h;exact ⟨by simp,by simp,by simp,by simp⟩
  split at h
  ·cases h
  ·rename_i x hx
   simp only [LexR.tok.injEq] at h;obtain ⟨rfl,_⟩:=h;refine ⟨by simp,by simp,fun _=>?_,by simp⟩;simp only
   split
   ·decide
   ·exact List.mem_of_find?_eq_some hx
theorem Rh {a:Nat}:∀{l:Bs} {e:Int},DJ a l= .bad e→e≠0
 |[],e,h=>by simp only [DJ,LexR.bad.injEq] at h;subst h;decide
 |c::l,e,h=>by
  simp only [DJ,Gw] at h;repeat' split at h
  all_goals first
   |(simp only [LexR.bad.injEq] at h;subst h;decide)
   |cases h
theorem Toks.snoc:∀{l:List Tok} {t:Tok},(∀x∈l,ADA x)→t.kind=6→Toks (l++[t])
 |[],t,_,h=>h
 |[x],t,hl,h=>⟨hl x (List.mem_cons_self ..),h⟩
 |x::y::l,t,hl,h=>⟨hl x (List.mem_cons_self ..),Toks.snoc (l:=y::l) (fun z hz=>hl z (List.mem_cons_of_mem _ hz)) h⟩
theorem Tu (l:Bs):BJ false (BJ false l)=BJ false l:=by
 have go:∀(b:Bool) (l:Bs),BJ false (BJ b l)=BJ b l:=by
  intro b l;induction l generalizing b with
  |nil=>cases b <;> rfl
  |cons c r ih=>
   cases b with
   |true=>
    simp only [BJ];split
    ·exact ih false
    ·exact ih true
   |false=>
    simp only [BJ];split
    ·exact ih false
    ·rename_i h1
     split
     ·exact ih true
     ·rename_i h2
      simp only [BJ,h1,h2,Bool.false_eq_true,if_false]
 exact go false l
def AEy (n f:Nat)(acc:List Tok):Bs→LexA
 |[]=>.toks (acc++[⟨6,n,[],0⟩])
 |c::r=>match DJ (n - (r.length+1)) (c::r) with
   | .bad e=>.bad ⟨e,(n - (r.length+1):Nat)⟩
   | .tok t r'=>DY n f (acc++[t]) r'
theorem Qg (n f:Nat)(acc:List Tok)(s:Bs):DY n (f+1) acc s=AEy n f acc (BJ false s):=by
 rw [DY];unfold AEy;cases BJ false s <;> rfl
def AAf (ω:Om)(G:Imm):Prop:=∀(K:Value→M) (I:Imm) (L:LH),Ext G I→(∀I' v,Ext I I'→StL I' v wordsL→K v I' L)→CT ω 19 #[] K I L
section
variable {ω:Om}
theorem AJO {I:Imm}{L:LH}{K:Value→M}(t:Tok)(hk:∀I' a,Ext I I'→TL I' (.slice a 1 1) [t]→Gh (K (.slice a 1 1)) I' L):
  AX 93 4 #[.int .i64 0,.int .i64 0,.string ⟨#[]⟩,.int .i64 0] 1 [(0,.agg #[.int .i64 t.kind,.int .i64 t.at',.string ⟨t.text.toArray⟩,.int .i64 t.num])] (gh K) I L:=
 EP (R:=TokV) [t] [[.int .i64 t.kind,.int .i64 t.at',.string ⟨t.text.toArray⟩,.int .i64 t.num]] rfl rfl rfl (by simp) (by simp [TokV]) (fun hI h=>TokV.mono h) hk
theorem KE {G:Imm}(hW:AAf ω G):WH ω G:=by
 intro s K I L hG hs hok hbad;refine ATL ?_;unfold ARq;refine Ad (fun b1=>?_);refine call (hW _ _ _ hG (fun I1 w hI1 hw=>?_));obtain ⟨aw,kw,rfl⟩:=RL.form hw;try refine zqe ?_
 refine Ad (fun b=>?_);have e0:Obj.cells #[.string ⟨s.toArray⟩,.int .i64 0,.slice aw wordsL.length kw] 145 (0,0)=LBo s 0 (.slice aw wordsL.length kw):=rfl;rw [e0];refine call (UQ (s:=s) (a:=0) (w:=.slice aw wordsL.length kw) (Nat.zero_le _) hs (fun a0 _ h0 hd0=>?_));refine loop (fun m st I2 Lx=>∃(a:Nat) (X:LH) (v:Value) (cells:List Value) (acc:List Tok) (f:Nat),a+m=s.length∧Ext I1 I2∧st=(.slice none 0 0,v,())∧Lx=X++((b,LBo s a (.slice aw wordsL.length kw))::(b1,.cells [.int .i64 0,.int .i64 0].toArray 26 (0,0))::L)∧SlO 93 4 X v cells acc.length∧Recs (TokV I2) 4 acc cells∧(∀t∈acc,ADA t)∧acc.length≤a∧s.length - a≤f∧BJ false (s.drop a)=s.drop a∧Rt s=AEy s.length f acc (s.drop a)) (s.length - a0)
  ⟨a0,[],_,[],[],s.length,by omega,Ext.refl _,rfl,rfl,SlO.none _ _,rfl,(fun t h=>by cases h),by simp,by omega,by rw [hd0,Tu],by rw [hd0];exact Qg s.length s.length [] s⟩ ?_
 rintro m st I2 Lx ⟨a,X,v,cells,acc,f,hm,hI2,rfl,rfl,hX,hR,hTk,hal,hf,hsk,hlx⟩;obtain ⟨av,kv,rfl⟩:=hX.form;unfold AFq;try refine zqe ?_
 refine rdb ?_;try refine zqe ?_
 refine AB (fun hb=>?_) (fun hb=>?_)
 ·have ha:a < s.length:=by
   have:=of_decide_eq_true hb;omega
  obtain ⟨c,hc,hd⟩:=SN ha;have hla:s.length - ((s.drop (a+1)).length+1)=a:=by rw [List.length_drop];omega
  have hlx:Rt s=match DJ a (s.drop a) with
    | .bad e=>.bad ⟨e,(a:Nat)⟩
    | .tok t r'=>DY s.length f (acc++[t]) r':=by
   rw [hlx,hd];simp only [AEy,hla]
  refine call (AEE (s:=s) (a:=a) (w:=.slice aw wordsL.length kw) ha hs (StL.mono hw hI2) ⟨fun t r ht I3 a' hI3 h1 h2 hdr=>?_,fun e he=>⟨Rh he,fun I3 a' k x n hI3=>?_⟩⟩)
  ·rw [ht] at hlx;simp only at hlx
   repeat' (first|refine zqa ?_|refine zqh (fun _=>?_)|refine zqr ?_|refine zqb ?_|refine zqi ?_ ?_|refine zqc ?_|refine zqg (fun _=>?_) (fun _=>?_)|(simp only [SSd,Nat.reduceAdd,JK]))
   refine AJO t (fun I4 a4 hI4 hw4=>Gh.done ?_);obtain ⟨c4,s4,r4⟩:=RL.toI (by decide) hw4;refine DW (X:=X) rfl hX s4.news (r4.one_cells fun x c h=>by rw [show c=_ from h];exact Au rfl) zL zL (fun X5 w5 hX5=>?_);have e5:acc.length+[t].length=(acc++[t]).length:=by simp
   rw [e5] at hX5;have hR5:=Recs.append (Recs.imp (R':=TokV I4) (fun _ _ h=>h) hR) r4;refine call (UQ (s:=s) (a:=a') (w:=.slice aw wordsL.length kw) h2 hs (fun a6 h6 h7 hd6=>?_));obtain ⟨f,rfl⟩:∃q,f=q+1:=⟨f - 1,by omega⟩;rw [←hdr,Qg,←hd6] at hlx;refine Gh.to (X5++((b,LBo s a6 (.slice aw wordsL.length kw))::(b1,.cells [.int .i64 0,.int .i64 0].toArray 26 (0,0))::L)) (Gh.done ⟨s.length - a6,by omega,a6,X5,w5,_,acc++[t],f,by omega,Ext.trans hI2 (Ext.trans hI3 hI4),rfl,rfl,hX5,hR5,?_,by simp;omega,by omega,by rw [hd6,Tu],hlx⟩);intro x hx;rcases List.mem_append.1 hx with hx|hx
   ·exact hTk x hx
   ·rw [List.mem_singleton.1 hx];exact AKh ht
  ·rw [he] at hlx;have hne:=Rh he;repeat' (first|refine zqa ?_|refine zqh (fun _=>?_)|refine zqr ?_|refine zqb ?_|refine zqi ?_ ?_|refine zqc ?_|refine zqg (fun _=>?_) (fun _=>?_)|(simp only [SSd,Nat.reduceAdd,JK]))
   ·rename_i hz
    have hz:=hz;exact Gh.to L (Gh.done (hbad _ hlx hne I3 none 0 0 (Ext.trans hI1 (Ext.trans hI2 hI3))))
   ·rename_i hz
    exact absurd (by simpa using hz) hne
 ·have ha:¬a < s.length:=by
   have:=of_decide_eq_false hb;omega
  have hdn:s.drop a=[]:=List.drop_eq_nil_of_le (by omega);rw [hdn] at hlx;unfold AFp;repeat' (first|refine zqa ?_|refine zqh (fun _=>?_)|refine zqr ?_|refine zqb ?_|refine zqi ?_ ?_|refine zqc ?_|refine zqg (fun _=>?_) (fun _=>?_)|refine zqe ?_|fail)
  refine AJO (⟨6,s.length,[],0⟩:Tok) (fun I4 a4 hI4 hw4=>Gh.done ?_);obtain ⟨c4,s4,r4⟩:=RL.toI (by decide) hw4;refine DW (X:=X) rfl hX s4.news (r4.one_cells fun x c h=>by rw [show c=_ from h];exact Au rfl) zL zL (fun X5 w5 hX5=>?_);have e5:acc.length+[(⟨6,s.length,[],0⟩:Tok)].length=(acc++[(⟨6,s.length,[],0⟩:Tok)]).length:=by simp
  rw [e5] at hX5;have hR5:=Recs.append (Recs.imp (R':=TokV I4) (fun _ _ h=>h) hR) r4;obtain ⟨a5,k5,rfl⟩:=hX5.form;repeat' (first|refine zqa ?_|refine zqh (fun _=>?_)|refine zqr ?_|refine zqb ?_|refine zqi ?_ ?_|refine zqc ?_|refine zqg (fun _=>?_) (fun _=>?_)|refine zqe ?_|fail)
  refine Gh.to (X5++L) ?_;refine RL.ofO (R:=TokV) (fun {I I' x c} h hI=>h) hX5 hR5 (fun I6 hI6 hw6=>Gh.done ?_);exact hok _ hlx (Toks.snoc hTk rfl) (by simp;omega) I6 _ (Ext.trans hI1 (Ext.trans hI2 (Ext.trans hI4 hI6))) hw6
end
end Go.Proofs.YtkifgfanjcfedaaGreatDoor
namespace Go.Proofs
open Go.Shelf
def Tryz.lay173_ren:Go.Shelf.Ren:=⟨fun|173=>212|246=>223|283=>235|284=>236|285=>237|286=>238|129=>245|317=>244|318=>246|319=>247|320=>248|337=>256|338=>257|n=>n,fun|2=>2|3=>3|9=>9|4=>4|171=>267|0=>0|53=>268|37=>71|5=>5|173=>271|212=>275|51=>173|20=>20|213=>276|46=>252|232=>282|233=>283|n=>n,fun|17=>5|18=>6|19=>7|n=>n⟩
theorem Tryz.lay173:Go.Proofs.LaysM.n173 Tryz.prog Tryz.lay173_ren:={
 mixed:=by kernel_rfl
 f129:=Tryz.func245.trans (congrArg some (by kernel_rfl))
 f173:=Tryz.func212.trans (congrArg some (by kernel_rfl))
 f246:=Tryz.func223.trans (congrArg some (by kernel_rfl))
 f283:=Tryz.func235.trans (congrArg some (by kernel_rfl))
 f284:=Tryz.func236.trans (congrArg some (by kernel_rfl))
 f285:=Tryz.func237.trans (congrArg some (by kernel_rfl))
 f286:=Tryz.func238.trans (congrArg some (by kernel_rfl))
 f317:=Tryz.func244.trans (congrArg some (by kernel_rfl))
 f318:=Tryz.func246.trans (congrArg some (by kernel_rfl))
 f319:=Tryz.func247.trans (congrArg some (by kernel_rfl))
 f320:=Tryz.func248.trans (congrArg some (by kernel_rfl))
 f337:=Tryz.func256.trans (congrArg some (by kernel_rfl))
 f338:=Tryz.func257.trans (congrArg some (by kernel_rfl))
 t0:=Tryz.underlying0
 a0:=Tryz.isAgg0
 z0:=Tryz.sizeOf0
 v0:=Tryz.zeroValue0
 t2:=Tryz.underlying2
 a2:=Tryz.isAgg2
 z2:=Tryz.sizeOf2
 v2:=Tryz.zeroValue2
 t3:=Tryz.underlying3
 a3:=Tryz.isAgg3
 z3:=Tryz.sizeOf3
 v3:=Tryz.zeroValue3
 t4:=Tryz.underlying4
 a4:=Tryz.isAgg4
 z4:=Tryz.sizeOf4
 v4:=Tryz.zeroValue4
 t5:=Tryz.underlying5
 a5:=Tryz.isAgg5
 z5:=Tryz.sizeOf5
 v5:=Tryz.zeroValue5
 t9:=Tryz.underlying9
 a9:=Tryz.isAgg9
 z9:=Tryz.sizeOf9
 v9:=Tryz.zeroValue9
 t20:=Tryz.underlying20
 a20:=Tryz.isAgg20
 z20:=Tryz.sizeOf20
 v20:=Tryz.zeroValue20
 t37:=Tryz.underlying71
 a37:=Tryz.isAgg71
 z37:=Tryz.sizeOf71
 v37:=Tryz.zeroValue71
 t46:=Tryz.underlying252
 a46:=Tryz.isAgg252
 z46:=Tryz.sizeOf252
 v46:=Tryz.zeroValue252
 t51:=Tryz.underlying173
 a51:=Tryz.isAgg173
 z51:=Tryz.sizeOf173
 v51:=Tryz.zeroValue173
 t53:=Tryz.underlying268
 a53:=Tryz.isAgg268
 z53:=Tryz.sizeOf268
 v53:=Tryz.zeroValue268
 t171:=Tryz.underlying267
 a171:=Tryz.isAgg267
 z171:=Tryz.sizeOf267
 v171:=Tryz.zeroValue267
 t173:=Tryz.underlying271
 a173:=Tryz.isAgg271
 z173:=Tryz.sizeOf271
 v173:=Tryz.zeroValue271
 t212:=Tryz.underlying275
 a212:=Tryz.isAgg275
 z212:=Tryz.sizeOf275
 v212:=Tryz.zeroValue275
 t213:=Tryz.underlying276
 a213:=Tryz.isAgg276
 z213:=Tryz.sizeOf276
 t232:=Tryz.underlying282
 a232:=Tryz.isAgg282
 z232:=Tryz.sizeOf282
 v232:=Tryz.zeroValue282
 t233:=Tryz.underlying283
 a233:=Tryz.isAgg283
 z233:=Tryz.sizeOf283
 v233:=Tryz.zeroValue283
 g17:=by kernel_rfl
 g18:=by kernel_rfl
 g19:=by kernel_rfl
 i0:=by kernel_rfl
 i2:=by kernel_rfl
 i3:=by kernel_rfl
 i4:=by kernel_rfl
 i5:=by kernel_rfl
 i9:=by kernel_rfl
 i20:=by kernel_rfl
 i37:=by kernel_rfl
 i46:=by kernel_rfl
 i51:=by kernel_rfl
 i53:=by kernel_rfl
 i171:=by kernel_rfl
 i173:=by kernel_rfl
 i212:=by kernel_rfl
 i232:=by kernel_rfl
 i233:=by kernel_rfl
 m17:=by kernel_rfl
 m18:=by kernel_rfl
 m19:=by kernel_rfl}
def Tryz.lay171_ren:Go.Shelf.Ren:=⟨fun|171=>171|243=>208|246=>223|283=>235|284=>236|285=>237|286=>238|129=>245|317=>244|318=>246|319=>247|320=>248|337=>256|338=>257|n=>n,fun|3=>3|9=>9|2=>2|4=>4|171=>267|0=>0|53=>268|37=>71|5=>5|173=>271|212=>275|51=>173|20=>20|213=>276|46=>252|232=>282|233=>283|n=>n,fun|17=>5|18=>6|19=>7|n=>n⟩
theorem Tryz.lay171:Go.Proofs.LaysM.n171 Tryz.prog Tryz.lay171_ren:={
 mixed:=by kernel_rfl
 f129:=Tryz.func245.trans (congrArg some (by kernel_rfl))
 f171:=Tryz.func171.trans (congrArg some (by kernel_rfl))
 f243:=Tryz.func208.trans (congrArg some (by kernel_rfl))
 f246:=Tryz.func223.trans (congrArg some (by kernel_rfl))
 f283:=Tryz.func235.trans (congrArg some (by kernel_rfl))
 f284:=Tryz.func236.trans (congrArg some (by kernel_rfl))
 f285:=Tryz.func237.trans (congrArg some (by kernel_rfl))
 f286:=Tryz.func238.trans (congrArg some (by kernel_rfl))
 f317:=Tryz.func244.trans (congrArg some (by kernel_rfl))
 f318:=Tryz.func246.trans (congrArg some (by kernel_rfl))
 f319:=Tryz.func247.trans (congrArg some (by kernel_rfl))
 f320:=Tryz.func248.trans (congrArg some (by kernel_rfl))
 f337:=Tryz.func256.trans (congrArg some (by kernel_rfl))
 f338:=Tryz.func257.trans (congrArg some (by kernel_rfl))
 t0:=Tryz.underlying0
 a0:=Tryz.isAgg0
 z0:=Tryz.sizeOf0
 v0:=Tryz.zeroValue0
 t2:=Tryz.underlying2
 a2:=Tryz.isAgg2
 z2:=Tryz.sizeOf2
 v2:=Tryz.zeroValue2
 t3:=Tryz.underlying3
 a3:=Tryz.isAgg3
 z3:=Tryz.sizeOf3
 v3:=Tryz.zeroValue3
 t4:=Tryz.underlying4
 a4:=Tryz.isAgg4
 z4:=Tryz.sizeOf4
 v4:=Tryz.zeroValue4
 t5:=Tryz.underlying5
 a5:=Tryz.isAgg5
 z5:=Tryz.sizeOf5
 v5:=Tryz.zeroValue5
 t9:=Tryz.underlying9
 a9:=Tryz.isAgg9
 z9:=Tryz.sizeOf9
 v9:=Tryz.zeroValue9
 t20:=Tryz.underlying20
 a20:=Tryz.isAgg20
 z20:=Tryz.sizeOf20
 v20:=Tryz.zeroValue20
 t37:=Tryz.underlying71
 a37:=Tryz.isAgg71
 z37:=Tryz.sizeOf71
 v37:=Tryz.zeroValue71
 t46:=Tryz.underlying252
 a46:=Tryz.isAgg252
 z46:=Tryz.sizeOf252
 v46:=Tryz.zeroValue252
 t51:=Tryz.underlying173
 a51:=Tryz.isAgg173
 z51:=Tryz.sizeOf173
 v51:=Tryz.zeroValue173
 t53:=Tryz.underlying268
 a53:=Tryz.isAgg268
 z53:=Tryz.sizeOf268
 v53:=Tryz.zeroValue268
 t171:=Tryz.underlying267
 a171:=Tryz.isAgg267
 z171:=Tryz.sizeOf267
 v171:=Tryz.zeroValue267
 t173:=Tryz.underlying271
 a173:=Tryz.isAgg271
 z173:=Tryz.sizeOf271
 v173:=Tryz.zeroValue271
 t212:=Tryz.underlying275
 a212:=Tryz.isAgg275
 z212:=Tryz.sizeOf275
 v212:=Tryz.zeroValue275
 t213:=Tryz.underlying276
 a213:=Tryz.isAgg276
 z213:=Tryz.sizeOf276
 t232:=Tryz.underlying282
 a232:=Tryz.isAgg282
 z232:=Tryz.sizeOf282
 v232:=Tryz.zeroValue282
 t233:=Tryz.underlying283
 a233:=Tryz.isAgg283
 z233:=Tryz.sizeOf283
 v233:=Tryz.zeroValue283
 g17:=by kernel_rfl
 g18:=by kernel_rfl
 g19:=by kernel_rfl
 i0:=by kernel_rfl
 i2:=by kernel_rfl
 i3:=by kernel_rfl
 i4:=by kernel_rfl
 i5:=by kernel_rfl
 i9:=by kernel_rfl
 i20:=by kernel_rfl
 i37:=by kernel_rfl
 i46:=by kernel_rfl
 i51:=by kernel_rfl
 i53:=by kernel_rfl
 i171:=by kernel_rfl
 i173:=by kernel_rfl
 i212:=by kernel_rfl
 i232:=by kernel_rfl
 i233:=by kernel_rfl
 m17:=by kernel_rfl
 m18:=by kernel_rfl
 m19:=by kernel_rfl}
end Go.Proofs
namespace Go.Proofs.YtkifgfanjcfedaaGreatDoor
open Go.SL
def Fg (G : Imm) : Prop := ∃ g T fr, Tryz.prog.globalNamed "internal/strconv.uint64pow10" = some g ∧ G g = some (.cells (Lib.pow10Tab.map fun z => Value.int .u64 z).toArray T fr)
theorem SY:∀(f n:Nat) (acc:Bs),n < f→OY f n acc=Lib.decDigits n++acc
 |0,n,acc,h=>by omega
 |f+1,n,acc,h=>by
  rw [OY,Lib.decDigits];split
  ·rfl
  ·rw [SY f (n / 10) _ (by omega),List.append_assoc];rfl
theorem Uh (n:Int):Jz true n=Lib.itoa n:=by
 unfold Jz Lib.itoa;split
 ·simp only [if_true];rw [SY _ _ _ (by omega),List.append_nil]
 ·rw [SY _ _ _ (by omega),List.append_nil]
section
variable {ω:Om}{I:Imm}{L:LH}{K:Value→M}
theorem St.grows {w:World}{k:Nat}{os:Array Obj}(hs:St ω w I L):St ω (Sort.grow (w.drewN k) os) I L:=by
 have hd:St ω (w.drewN k) I L:=hs.drew (Nat.le_add_right _ _);refine ⟨fun b o hb=>?_,fun b o hb=>?_,hd.nodup,hd.apart,hd.tape,hd.os,hd.out,hd.dr⟩
 ·have:=hd.imm b o hb;show ((w.drewN k).heap++os)[b]? =some o;rw [Array.getElem?_append_left (Array.getElem?_eq_some_iff.1 this).1];exact this
 ·have:=hd.own b o hb;show ((w.drewN k).heap++os)[b]? =some o;rw [Array.getElem?_append_left (Array.getElem?_eq_some_iff.1 this).1];exact this
theorem ACS {G : Imm}{w : World}(hG : Fg G)(hI : Ext G I)(hs : St ω w I L) : Lib.TabIs Tryz.prog w "internal/strconv.uint64pow10" .u64 Lib.pow10Tab := by
 obtain ⟨g,T,fr,h1,h2⟩:=hG;unfold Lib.TabIs World.var?;rw [h1];have:=hs.imm g _ (hI g _ h2);simp only [Option.bind_some,this]
theorem Rz {G:Imm}(hG:Fg G)(hI:Ext G I)(n:Int)(h0: -9223372036854775808≤n)(h1:n≤9223372036854775807)(hk:K (.string ⟨(Jz true n).toArray⟩) I L):CT ω 212 #[.int .i64 n,.int .i64 10] K I L:=fun w hs=>by
 have h:=Go.Proofs.Any.strconv_FormatInt_10 Go.Proofs.Tryz.lay173 n h0 h1 w (ACS hG hI hs);refine Calls.mono h ?_;rintro e w' ⟨rfl,k,os,rfl⟩;rw [Uh] at hk;exact ⟨_,I,L,rfl,St.grows hs,hk⟩
theorem UZ {G:Imm}(hG:Fg G)(hI:Ext G I)(n:Int)(h0: -9223372036854775808≤n)(h1:n≤9223372036854775807)(hk:K (.string ⟨(Jz true n).toArray⟩) I L):CT ω 171 #[.int .i64 n] K I L:=fun w hs=>by
 have h:=Go.Proofs.Any.strconv_Itoa Go.Proofs.Tryz.lay171 n h0 h1 w (ACS hG hI hs);refine Calls.mono h ?_;rintro e w' ⟨rfl,k,os,rfl⟩;rw [Uh] at hk;exact ⟨_,I,L,rfl,St.grows hs,hk⟩
end
def okc (c:UInt8):Bool:=(BP c||BC c)&& !(65≤c&&c≤90)
theorem Vh (c:UInt8):okc c=((BP c||BC c)&&(decide ((c.toNat:Int) < 65)||decide ((90:Int) < c.toNat))):=by
 have:=Lt (p:=fun c=>okc c==((BP c||BC c)&&(decide ((c.toNat:Int) < 65)||decide ((90:Int) < c.toNat)))) (by decide+kernel) c;exact eq_of_beq this
theorem AEA (s:Bs):Jd s=((!s.isEmpty&&(!s.head?.any BC&& !wordsL.contains s))&&s.all okc):=by
 unfold Jd okc;simp only [Bool.and_assoc]
theorem TJ {p:UInt8→Bool}{s:Bs}{i:Nat}(h:i < s.length):(s.take (i+1)).all p=((s.take i).all p&&p s[i]):=by
 rw [List.take_succ_eq_append_getElem h,List.all_append];simp
theorem AAB {ω:Om}{I:Imm}{L:LH}{K:Value→M}{s:Bs}{pl:Bool}{p0:Value}(hs:s.length≤1000000000)(hk:Ia ω p0 (.string ⟨s.toArray⟩) (.bool (pl&&s.all okc)) (fun v=>Gh (K v)) I L):
  Am ((.bool pl,.int .i64 0,()):Value×Value×Unit) (fun st Kn=>VR ω p0 (.string ⟨s.toArray⟩) (.int .i64 s.length) st.1 st.2.1 Kn (fun v=>Gh (K v))) I L:=by
 refine loop (fun q st I' L'=>∃i:Nat,i+q=s.length∧st=(Value.bool (pl&&(s.take i).all okc),Value.int .i64 (i:Nat),())∧I'=I∧L'=L) s.length ⟨0,by omega,by simp,rfl,rfl⟩ ?_;rintro q st I' L' ⟨i,hq,rfl,rfl,rfl⟩;unfold VR;try refine zqe ?_
 refine AB (fun hb=>?_) (fun hb=>?_)
 ·have hb:i < s.length:=by
   have:=of_decide_eq_true hb;omega
  have hc:s[i]? =some s[i]:=List.getElem?_eq_getElem hb;have hat:=TJ (p:=okc) hb;rw [Vh] at hat;generalize s[i]=c at hc hat;generalize (s.take i).all okc=tk at hat ⊢;repeat' (first|refine zqa ?_|refine zqh (fun _=>?_)|((with_reducible refine call ?_);with_reducible refine FD c ?_)|((with_reducible refine call ?_);with_reducible refine Et c ?_)|refine zqr ?_|refine zqb ?_|refine zqi ?_ ?_|refine zqc ?_|refine zqg (fun _=>?_) (fun _=>?_)|(simp only [SSd,Nat.reduceAdd,ixS s hc,wrap_i64 ((i:Int)+1) (by omega)]))
  all_goals (refine Gh.done ⟨q - 1,by omega,i+1,by omega,?_,rfl,rfl⟩;rw [hat];clear hk hat;simp_all;try omega)
 ·have hb:¬i < s.length:=by
   have:=of_decide_eq_false hb;omega
  rw [List.take_of_length_le (by omega)];exact hk
theorem AAA {ω:Om}{I:Imm}{L:LH}{K:Value→M}{s:Bs}{pl:Bool}{p0:Value}(hs:s.length≤1000000000)(hk:Ia ω p0 (.string ⟨s.toArray⟩) (.bool (pl&&s.all okc)) (fun v=>Gh (K v)) I L):
  Am ((.bool pl,.int .i64 0,()):Value×Value×Unit) (fun st Kn=>VQ ω p0 (.string ⟨s.toArray⟩) (.int .i64 s.length) st.1 st.2.1 Kn (fun v=>Gh (K v))) I L:=by
 refine loop (fun q st I' L'=>∃i:Nat,i+q=s.length∧st=(Value.bool (pl&&(s.take i).all okc),Value.int .i64 (i:Nat),())∧I'=I∧L'=L) s.length ⟨0,by omega,by simp,rfl,rfl⟩ ?_;rintro q st I' L' ⟨i,hq,rfl,rfl,rfl⟩;unfold VQ;try refine zqe ?_
 refine AB (fun hb=>?_) (fun hb=>?_)
 ·have hb:i < s.length:=by
   have:=of_decide_eq_true hb;omega
  have hc:s[i]? =some s[i]:=List.getElem?_eq_getElem hb;have hat:=TJ (p:=okc) hb;rw [Vh] at hat;generalize s[i]=c at hc hat;generalize (s.take i).all okc=tk at hat ⊢;repeat' (first|refine zqa ?_|refine zqh (fun _=>?_)|((with_reducible refine call ?_);with_reducible refine FD c ?_)|((with_reducible refine call ?_);with_reducible refine Et c ?_)|refine zqr ?_|refine zqb ?_|refine zqi ?_ ?_|refine zqc ?_|refine zqg (fun _=>?_) (fun _=>?_)|(simp only [SSd,Nat.reduceAdd,ixS s hc,wrap_i64 ((i:Int)+1) (by omega)]))
  all_goals (refine Gh.done ⟨q - 1,by omega,i+1,by omega,?_,rfl,rfl⟩;rw [hat];clear hk hat;simp_all;try omega)
 ·have hb:¬i < s.length:=by
   have:=of_decide_eq_false hb;omega
  rw [List.take_of_length_le (by omega)];exact hk
theorem Zz {ω:Om}{I:Imm}{L:LH}{K:Value→M}{s:Bs}{pl:Bool}{p0:Value}(hs:s.length≤1000000000)(hk:Ia ω p0 (.string ⟨s.toArray⟩) (.bool (pl&&s.all okc)) (fun v=>Gh (K v)) I L):
  Am ((.bool pl,.int .i64 0,()):Value×Value×Unit) (fun st Kn=>VP ω p0 (.string ⟨s.toArray⟩) (.int .i64 s.length) st.1 st.2.1 Kn (fun v=>Gh (K v))) I L:=by
 refine loop (fun q st I' L'=>∃i:Nat,i+q=s.length∧st=(Value.bool (pl&&(s.take i).all okc),Value.int .i64 (i:Nat),())∧I'=I∧L'=L) s.length ⟨0,by omega,by simp,rfl,rfl⟩ ?_;rintro q st I' L' ⟨i,hq,rfl,rfl,rfl⟩;unfold VP;try refine zqe ?_
 refine AB (fun hb=>?_) (fun hb=>?_)
 ·have hb:i < s.length:=by
   have:=of_decide_eq_true hb;omega
  have hc:s[i]? =some s[i]:=List.getElem?_eq_getElem hb;have hat:=TJ (p:=okc) hb;rw [Vh] at hat;generalize s[i]=c at hc hat;generalize (s.take i).all okc=tk at hat ⊢;repeat' (first|refine zqa ?_|refine zqh (fun _=>?_)|((with_reducible refine call ?_);with_reducible refine FD c ?_)|((with_reducible refine call ?_);with_reducible refine Et c ?_)|refine zqr ?_|refine zqb ?_|refine zqi ?_ ?_|refine zqc ?_|refine zqg (fun _=>?_) (fun _=>?_)|(simp only [SSd,Nat.reduceAdd,ixS s hc,wrap_i64 ((i:Int)+1) (by omega)]))
  all_goals (refine Gh.done ⟨q - 1,by omega,i+1,by omega,?_,rfl,rfl⟩;rw [hat];clear hk hat;simp_all;try omega)
 ·have hb:¬i < s.length:=by
   have:=of_decide_eq_false hb;omega
  rw [List.take_of_length_le (by omega)];exact hk
section
variable {ω:Om}{I:Imm}{L F:LH}{K:Value→M}{b:Nat}{w:Value}{X:LH}{l:Bs}
theorem AHd (s:Bs):s.length≤(nameB s).length:=by
 unfold nameB;split
 ·exact Nat.le_refl _
 ·show s.length≤(GK 34 s).length;have:=Vz 34 s;have h:GK 34 s=[34]++(EG 34 s++[34]):=rfl;rw [h];simp only [List.length_append];omega
theorem BR [hs:SplitL X L F](hW:WrS b w X l)(hw:StL I w wordsL)(s:Bs)(hn:(l++nameB s).length≤1000000000)(hk:∀I' X',Ext I I'→WrS b w X' (l++nameB s)→K (.tuple #[]) I' (X'++F)):
  CT ω 114 #[AP b,.string ⟨s.toArray⟩] K I L:=by
 have hsl:s.length≤1000000000:=by have:=AHd s;rw [List.length_append] at hn;omega
 refine Cal.split X ?_;refine AQf ?_;unfold AMw;have fin:∀pl:Bool,(pl&&s.all okc)=Jd s→Ia ω (AP b) (.string ⟨s.toArray⟩) (.bool (pl&&s.all okc)) (fun v=>Gh (K v)) I (X++F):=by
  intro pl hpl;rw [hpl];unfold Ia;unfold nameB at hn hk;cases hp:Jd s with
  |true=>
   rw [hp] at hn hk;try refine zqe ?_
   refine BN hW (by simpa using hn) (fun I' X' hI' hW'=>Gh.done (hk I' X' hI' (by simpa using hW')))
  |false=>
   rw [hp] at hn hk;try refine zqe ?_
   refine call (RI hW s 34 (by simpa using hn) (fun I' X' hI' hW'=>Gh.done (hk I' X' hI' (by simpa using hW'))))
 have hpe:=AEA s;cases s with
 |nil=>
  have e0:((([]:Bs)==[])=true):=rfl;simp only [sNe,Qx,e0,Bool.not_true,SSd,Nat.reduceAdd];exact Zz hsl (fin false (by rw [hpe];rfl))
 |cons c r=>
  have e0:((c::r)==([]:Bs))=false:=rfl;have hc0:(c::r)[0]? =some c:=rfl;simp only [sNe,Qx,e0,Bool.not_false,show (.int .i64 0:Value)= .int .i64 ((0:Nat):Int) from rfl,ixS (c::r) hc0,SSd,Nat.reduceAdd];refine call (Et c ?_);simp only [List.isEmpty_cons,List.head?_cons,Option.any_some,Bool.not_false,Bool.true_and] at hpe;cases hd:BC c with
  |true=>
   rw [hd] at hpe;simp only [SSd,Nat.reduceAdd,Qx];exact AAA hsl (fin false (by rw [hpe];rfl))
  |false=>
   rw [hd] at hpe;obtain ⟨p,v,X0,hp,hX,rfl⟩:=hW;simp only [List.append_assoc,List.cons_append,List.nil_append,SSd,Nat.reduceAdd] at fin ⊢;refine rdb ?_;refine call (Lr hw (by decide) (c::r) ?_);simp only [SSd,Nat.reduceAdd,Qx];exact AAB hsl (fin _ (by rw [hpe];rfl))
def AFV (k:Int):Option Value:=(Eb k).map fun x=>.agg #[.string ⟨x.1.toArray⟩,.int .i64 x.2]
theorem AKC:EU (EU (EU (EU (EU (EU (EU (EU (EU (EU (EU (EU (EU (EU (EU ((fun _=>none)) 22 (some (.agg #[.string ⟨[111,114].toArray⟩,.int .i64 1]))) 21 (some (.agg #[.string ⟨[97,110,100].toArray⟩,.int .i64 2]))) 23 (some (.agg #[.string ⟨[108,105,107,101].toArray⟩,.int .i64 4]))) 15 (some (.agg #[.string ⟨[61].toArray⟩,.int .i64 4]))) 16 (some (.agg #[.string ⟨[60,62].toArray⟩,.int .i64 4]))) 17 (some (.agg #[.string ⟨[60].toArray⟩,.int .i64 4]))) 18 (some (.agg #[.string ⟨[60,61].toArray⟩,.int .i64 4]))) 19 (some (.agg #[.string ⟨[62].toArray⟩,.int .i64 4]))) 20 (some (.agg #[.string ⟨[62,61].toArray⟩,.int .i64 4]))) 9 (some (.agg #[.string ⟨[43].toArray⟩,.int .i64 5]))) 10 (some (.agg #[.string ⟨[45].toArray⟩,.int .i64 5]))) 14 (some (.agg #[.string ⟨[124,124].toArray⟩,.int .i64 5]))) 11 (some (.agg #[.string ⟨[42].toArray⟩,.int .i64 6]))) 12 (some (.agg #[.string ⟨[47].toArray⟩,.int .i64 6]))) 13 (some (.agg #[.string ⟨[37].toArray⟩,.int .i64 6]))=AFV:=by
 funext k
 simp only [EU,AFV,Eb];by_cases h22:k=22
 ·subst h22;rfl
 by_cases h21:k=21
 ·subst h21;rfl
 by_cases h23:k=23
 ·subst h23;rfl
 by_cases h15:k=15
 ·subst h15;rfl
 by_cases h16:k=16
 ·subst h16;rfl
 by_cases h17:k=17
 ·subst h17;rfl
 by_cases h18:k=18
 ·subst h18;rfl
 by_cases h19:k=19
 ·subst h19;rfl
 by_cases h20:k=20
 ·subst h20;rfl
 by_cases h9:k=9
 ·subst h9;rfl
 by_cases h10:k=10
 ·subst h10;rfl
 by_cases h14:k=14
 ·subst h14;rfl
 by_cases h11:k=11
 ·subst h11;rfl
 by_cases h12:k=12
 ·subst h12;rfl
 by_cases h13:k=13
 ·subst h13;rfl
 simp only [h22,h21,h23,h15,h16,h17,h18,h19,h20,h9,h10,h14,h11,h12,h13,if_false];rfl
theorem Dv (s:Bs)(n:Int):Aq Zc #[(0,1),(1,1)] [(0,.string ⟨s.toArray⟩),(1,.int .i64 n)]=some (.agg #[.string ⟨s.toArray⟩,.int .i64 n]):=rfl
theorem Gj (hk:∀bm es clock,MapSi es clock AFV→K (.map (some bm)) I ((bm,.map es clock)::L)):CT ω 176 #[] K I L:=by
 refine APm ?_;unfold AML;refine AHa (fun bm=>?_);obtain ⟨es0,c0,e0,p0⟩:=MapSi.empty.put 22 (.agg #[.string ⟨[111,114].toArray⟩,.int .i64 1]);obtain ⟨es1,c1,e1,p1⟩:=p0.put 21 (.agg #[.string ⟨[97,110,100].toArray⟩,.int .i64 2]);obtain ⟨es2,c2,e2,p2⟩:=p1.put 23 (.agg #[.string ⟨[108,105,107,101].toArray⟩,.int .i64 4]);obtain ⟨es3,c3,e3,p3⟩:=p2.put 15 (.agg #[.string ⟨[61].toArray⟩,.int .i64 4]);obtain ⟨es4,c4,e4,p4⟩:=p3.put 16 (.agg #[.string ⟨[60,62].toArray⟩,.int .i64 4]);obtain ⟨es5,c5,e5,p5⟩:=p4.put 17 (.agg #[.string ⟨[60].toArray⟩,.int .i64 4]);obtain ⟨es6,c6,e6,p6⟩:=p5.put 18 (.agg #[.string ⟨[60,61].toArray⟩,.int .i64 4]);obtain ⟨es7,c7,e7,p7⟩:=p6.put 19 (.agg #[.string ⟨[62].toArray⟩,.int .i64 4]);obtain ⟨es8,c8,e8,p8⟩:=p7.put 20 (.agg #[.string ⟨[62,61].toArray⟩,.int .i64 4]);obtain ⟨es9,c9,e9,p9⟩:=p8.put 9 (.agg #[.string ⟨[43].toArray⟩,.int .i64 5]);obtain ⟨es10,c10,e10,p10⟩:=p9.put 10 (.agg #[.string ⟨[45].toArray⟩,.int .i64 5]);obtain ⟨es11,c11,e11,p11⟩:=p10.put 14 (.agg #[.string ⟨[124,124].toArray⟩,.int .i64 5]);obtain ⟨es12,c12,e12,p12⟩:=p11.put 11 (.agg #[.string ⟨[42].toArray⟩,.int .i64 6]);obtain ⟨es13,c13,e13,p13⟩:=p12.put 12 (.agg #[.string ⟨[47].toArray⟩,.int .i64 6]);obtain ⟨es14,c14,e14,p14⟩:=p13.put 13 (.agg #[.string ⟨[37].toArray⟩,.int .i64 6]);rw [AKC] at p14;refine Gh.done ?_;simp only [Dv,DU];refine Fj (k:=22) MapSi.empty e0 ?_;refine Gh.done ?_;simp only [Dv,DU];refine Fj (k:=21) p0 e1 ?_;refine Gh.done ?_;simp only [Dv,DU]
 refine Fj (k:=23) p1 e2 ?_;refine Gh.done ?_;simp only [Dv,DU];refine Fj (k:=15) p2 e3 ?_;refine Gh.done ?_;simp only [Dv,DU];refine Fj (k:=16) p3 e4 ?_;refine Gh.done ?_;simp only [Dv,DU];refine Fj (k:=17) p4 e5 ?_;refine Gh.done ?_;simp only [Dv,DU];refine Fj (k:=18) p5 e6 ?_;refine Gh.done ?_;simp only [Dv,DU];refine Fj (k:=19) p6 e7 ?_;refine Gh.done ?_;simp only [Dv,DU];refine Fj (k:=20) p7 e8 ?_;refine Gh.done ?_;simp only [Dv,DU];refine Fj (k:=9) p8 e9 ?_;refine Gh.done ?_;simp only [Dv,DU];refine Fj (k:=10) p9 e10 ?_;refine Gh.done ?_;simp only [Dv,DU];refine Fj (k:=14) p10 e11 ?_;refine Gh.done ?_;simp only [Dv,DU];refine Fj (k:=11) p11 e12 ?_;refine Gh.done ?_;simp only [Dv,DU];refine Fj (k:=12) p12 e13 ?_;refine Gh.done ?_;simp only [Dv,DU];refine Fj (k:=13) p13 e14 ?_;refine Gh.done ?_;exact Gh.done (hk bm _ _ p14)
theorem Hy {k:Int}{es:Array MapEntry}{clock bm:Nat}{K:Value→M}[hin:InL bm L (.map es clock)](h:MapSi es clock AFV)(hy:∀s n,Eb k=some (s,n)→K (.tuple #[.agg #[.string ⟨s.toArray⟩,.int .i64 n],.bool true]) I L)(hn:Eb k=none→K (.tuple #[.agg #[.string (ByteArray.mk #[]),.int .i64 0],.bool false]) I L):
  Rv none (lkR (.int .i64) (.agg #[.string (ByteArray.mk #[]),.int .i64 0]) true (.map (some bm)) (.int .i64 k)) K I L:=by
 refine ASO (k:=k) h ?_;unfold AFV;cases hs:Eb k with
 |none=>exact hn hs
 |some x=>exact hy x.1 x.2 hs
theorem AAG (k : Int) (hk : K (.int .i64 (TS k)) I L) : CT ω 175 #[.int .i64 k] K I L := by
  refine APn ?_
  unfold AMM
  unfold TS at hk
  try simp only [SSd, Nat.reduceAdd]
  refine AB (fun h => ?_) (fun h => ?_)
  · have h : k = 5 := by simpa using h
    rw [if_pos h] at hk; exact Gh.done hk
  have h5 : k ≠ 5 := by simpa using h
  rw [if_neg h5] at hk
  have rest : ∀ q : Bool, q = decide (k = 6 ∨ k = 7 ∨ k = 24 ∨ k = 25) → LC ω (.int .i64 k) (.int .i64 0) (.int .i64 k) (.bool q) (fun v => Gh (K v)) I L := by
    rintro q hq
    unfold LC
    refine AB (fun h => ?_) (fun h => ?_)
    · rw [h] at hq
      rw [if_pos (of_decide_eq_true hq.symm)] at hk; exact Gh.done hk
    rw [h] at hq
    rw [if_neg (of_decide_eq_false hq.symm)] at hk
    try simp only [SSd, Nat.reduceAdd]
    refine AB (fun h => ?_) (fun h => ?_)
    · have h : k = 4 := by simpa using h
      rw [if_pos h] at hk; exact Gh.done hk
    have h4 : k ≠ 4 := by simpa using h
    rw [if_neg h4] at hk
    refine call (Gj (fun bm es clock hm => ?_))
    refine Hy hm (fun s n hs => ?_) (fun hs => ?_)
    · rw [hs] at hk
      try simp only [SSd, Nat.reduceAdd]
      refine Ad (fun bs => ?_)
      refine stB rfl rfl (Au rfl) ?_
      try simp only [SSd, Nat.reduceAdd]
      refine rdb ?_
      exact Gh.to L (Gh.done hk)
    · rw [hs] at hk
      try simp only [SSd, Nat.reduceAdd]
      refine Ad (fun bs => ?_)
      refine stB rfl rfl (Au rfl) ?_
      try simp only [SSd, Nat.reduceAdd]
      exact Gh.to L (Gh.done hk)
  refine AB (fun h => ?_) (fun h => ?_)
  · have h : k = 6 := by simpa using h
    rw [show ((k == 6) = true) by simpa using h]
    exact rest true (by simp [h])
  have h6 : k ≠ 6 := by simpa using h
  try simp only [SSd, Nat.reduceAdd]
  refine AB (fun h => ?_) (fun h => ?_)
  · have h : k = 7 := by simpa using h
    rw [show ((k == 7) = true) by simpa using h]
    exact rest true (by simp [h])
  have h7 : k ≠ 7 := by simpa using h
  try simp only [SSd, Nat.reduceAdd]
  refine AB (fun h => ?_) (fun h => ?_)
  · have h : k = 24 := by simpa using h
    rw [show ((k == 24) = true) by simpa using h]
    exact rest true (by simp [h])
  have h24 : k ≠ 24 := by simpa using h
  try simp only [SSd, Nat.reduceAdd]
  refine rest _ ?_
  simp only [h6, h7, h24, false_or]
  cases h25 : (k == 25) with
  | true => have : k = 25 := by simpa using h25
            simp [this]
  | false => have : k ≠ 25 := by simpa using h25
             simp [this]
def okI (n:Int):Prop:= -9223372036854775808≤n∧n≤9223372036854775807
theorem Qe {G:Imm}(hG:Fg G)(hGI:Ext G I)[hs:SplitL X L F](hW:WrS b w X l)(x:TValue)(hx:okI x.fInt)(hn:(l++Nw true x).length≤1000000000)(hk:∀I' X',Ext I I'→WrS b w X' (l++Nw true x)→K (.tuple #[]) I' (X'++F)):
  CT ω 178 #[AP b,.agg #[.int .i64 x.fType,.bool x.fNull,.int .i64 x.fInt,.string ⟨x.fText.toArray⟩]] K I L:=by
 refine Cal.split X ?_;refine APk ?_;unfold AMJ;refine Ad (fun bv=>?_);unfold Nw at hn hk;try refine zqe ?_
 refine rdb ?_;refine AB (fun h=>?_) (fun h=>?_)
 ·rw [if_pos h] at hn hk;refine BN hW hn (fun I' X' hI' hW'=>Gh.to (X'++F) (Gh.done (hk I' X' hI' hW')))
 rw [if_neg (by simp [h])] at hn hk;try refine zqe ?_
 refine rdb ?_;try refine zqe ?_
 refine AB (fun h=>?_) (fun h=>?_)
 ·have h:x.fType=3:=by simpa using h
  rw [if_pos h] at hn hk;try refine zqe ?_
  refine rdb ?_;refine call (RI hW x.fText 39 hn (fun I' X' hI' hW'=>Gh.to (X'++F) (Gh.done (hk I' X' hI' hW'))))
 have h:x.fType≠3:=by simpa using h
 rw [if_neg h] at hn hk;try refine zqe ?_
 refine rdb ?_;try refine zqe ?_
 refine AB (fun h=>?_) (fun h=>?_)
 ·have h:x.fType=2:=by simpa using h
  rw [if_pos h] at hn hk;try refine zqe ?_
  refine rdb ?_;try refine zqe ?_
  refine call ?_;refine APN ?_;unfold ALq;refine call ?_;refine APG ?_;unfold ALk;refine AB (fun h1=>?_) (fun h1=>?_)
  ·have h1:x.fInt=1:=by simpa using h1
   rw [if_pos h1] at hn hk;refine Gh.done (Gh.done ?_);refine BN hW hn (fun I' X' hI' hW'=>Gh.to (X'++F) (Gh.done (hk I' X' hI' hW')))
  ·have h1:x.fInt≠1:=by simpa using h1
   rw [if_neg h1] at hn hk;refine Gh.done (Gh.done ?_);refine BN hW hn (fun I' X' hI' hW'=>Gh.to (X'++F) (Gh.done (hk I' X' hI' hW')))
 have h:x.fType≠2:=by simpa using h
 rw [if_neg h] at hn hk;try refine zqe ?_
 refine rdb ?_;refine call (Rz hG hGI _ hx.1 hx.2 ?_);refine BN hW hn (fun I' X' hI' hW'=>Gh.to (X'++F) (Gh.done (hk I' X' hI' hW')))
end
def BZ {α:Type}(w:α→Nat)(g:Pr α):Prop:=∀l x r,g l= .ok x r→r.length+w x≤l.length
theorem Ai {l:List Tok}{s:Bs}(h:isT l s=true):l.tail.length+1=l.length:=by
 cases l with
 |nil=>simp [isT,hd,default,instInhabitedTok] at h
 |cons t r=>rfl
theorem IL {l:List Tok}{k:Int}(h:isK l k=true)(hk:k≠0):l.tail.length+1=l.length:=by
 cases l with
 |nil=>simp [isK,hd,default,instInhabitedTok] at h;exact absurd h.symm hk
 |cons t r=>rfl
theorem bind_ok {α β:Type}{x:Res α}{f:α→Pr β}{y:β}{r:List Tok}(h:x.bind f= .ok y r):∃a q,x= .ok a q∧f a q= .ok y r:=by
 cases x with
 |ok a q=>exact ⟨a,q,rfl,h⟩
 |err e=>cases h
theorem Af {s:Bs}{l r:List Tok}{u:Unit}(h:AO s l= .ok u r):r.length+1=l.length:=by
 unfold AO at h;split at h
 ·rename_i ht
  simp only [Res.ok.injEq,true_and] at h;subst h;exact Ai ht
 ·cases h
theorem BG:BZ (fun _=>1) Ar:=by
 intro l x r h;unfold Ar at h;split at h
 ·rename_i ht
  simp only [Res.ok.injEq] at h;obtain ⟨_,rfl⟩:=h;have:=IL ht (by decide);show l.tail.length+1≤l.length;omega
 ·cases h
theorem DV:∀(a b:List Ex),AY (a++b)=AY a+AY b
 |[],b=>by simp [AY]
 |x::a,b=>by simp only [List.cons_append,AY,DV a b];omega
theorem Um {g:Pr Ex}(hg:BZ Aa g):∀(n:Nat) (acc:List Ex) (l:List Tok) (x:List Ex) (r:List Tok),CV g n acc l= .ok x r→r.length+AY x≤l.length+AY acc
 |0,acc,l,x,r,h=>by simp only [CV,Res.ok.injEq] at h;obtain ⟨rfl,rfl⟩:=h;omega
 |n+1,acc,l,x,r,h=>by
  simp only [CV] at h;split at h
  ·rename_i ht
   obtain ⟨a,q,h1,h2⟩:=bind_ok h;have c1:=hg _ _ _ h1;have c2:=Um hg n _ _ _ _ h2;have c3:=Ai ht;rw [DV] at c2;simp only [AY] at c2;omega
  ·simp only [Res.ok.injEq] at h;obtain ⟨rfl,rfl⟩:=h;omega
theorem AEW {g:Pr Ex}(hg:BZ Aa g)(n:Nat):BZ AY (BV n g):=by
 intro l x r h;obtain ⟨a,q,h1,h2⟩:=bind_ok h;have c1:=hg _ _ _ h1;have c2:=Um hg n _ _ _ _ h2;simp only [AY] at c2;omega
theorem Ui {g:Pr Ex}(hg:BZ Aa g)(n:Nat):BZ (fun x=>AY x+2) (Bi n g):=by
 intro l x r h;obtain ⟨_,q,h1,h2⟩:=bind_ok h;obtain ⟨a,q2,h3,h4⟩:=bind_ok h2;obtain ⟨_,q3,h5,h6⟩:=bind_ok h4;simp only [Res.ok.injEq] at h6;obtain ⟨rfl,rfl⟩:=h6;have c1:=Af h1;have c2:=AEW hg n _ _ _ h3;have c3:=Af h5;simp only;omega
theorem Un {g:Pr Ex}(hg:BZ Aa g){op:List Tok→Int}(hop:∀l,op l≠0→l.tail.length+1=l.length):∀(n:Nat) (x:Ex) (l:List Tok) (y:Ex) (r:List Tok),FY g op n x l= .ok y r→r.length+Aa y≤l.length+Aa x
 |0,x,l,y,r,h=>by simp only [FY,Res.ok.injEq] at h;obtain ⟨rfl,rfl⟩:=h;omega
 |n+1,x,l,y,r,h=>by
  simp only [FY] at h;split at h
  ·simp only [Res.ok.injEq] at h;obtain ⟨rfl,rfl⟩:=h;omega
  ·rename_i h0
   obtain ⟨a,q,h1,h2⟩:=bind_ok h;have c1:=hg _ _ _ h1;have c2:=Un hg hop n _ _ _ _ h2;have c3:=hop l h0;simp only [exK,Aa,AY] at c2;omega
theorem Jp {g:Pr Ex}(hg:BZ Aa g){op:List Tok→Int}(hop:∀l,op l≠0→l.tail.length+1=l.length)(n:Nat):BZ Aa (Cj n g op):=by
 intro l x r h;obtain ⟨a,q,h1,h2⟩:=bind_ok h;have c1:=hg _ _ _ h1;have c2:=Un hg hop n _ _ _ _ h2;omega
theorem AOY (l:List Tok)(h:NU l≠0):l.tail.length+1=l.length:=by
 unfold NU at h;split at h
 ·exact Ai ‹_›
 ·exact absurd rfl h
theorem AKm (l:List Tok)(h:Ie l≠0):l.tail.length+1=l.length:=by
 unfold Ie at h;split at h
 ·exact Ai ‹_›
 ·exact absurd rfl h
theorem AHx (f:Bs→Option Int)(l:List Tok)(h:JF f l≠0):l.tail.length+1=l.length:=by
 unfold JF at h;split at h
 ·exact IL ‹_› (by decide)
 ·exact absurd rfl h
theorem AKl (l:List Tok)(h:FC l≠0):l.tail.length+1=l.length:=by
 unfold FC at h;repeat' split at h
 all_goals first
  |exact Ai ‹_›
  |exact absurd rfl h
theorem Xi {l:List Tok}{v:TValue}(h:IY l=some v):l.tail.length+1=l.length:=by
 unfold IY at h;repeat' split at h
 all_goals first
  |exact IL ‹_› (by decide)
  |exact Ai ‹_›
  |cases h
theorem Sm:BZ Aa MJ:=by
 intro l x r h;unfold MJ at h;split at h
 ·rename_i ht
  simp only [Res.ok.injEq] at h;obtain ⟨rfl,rfl⟩:=h;have:=IL ht (by decide);simp only [JK,Aa,AY];omega
 ·cases h
theorem Uj {E:Pr Ex}(hE:BZ Aa E)(n:Nat){acc:List Ex}{l:List Tok}{a:List Ex}{r:List Tok}(h:Ew n E acc l= .ok a r):r.length+AY a+2≤l.length+AY acc:=by
 obtain ⟨_,q,h1,h2⟩:=bind_ok h;obtain ⟨x,q2,h3,h4⟩:=bind_ok h2;obtain ⟨_,q3,h5,h6⟩:=bind_ok h4;obtain ⟨y,q4,h7,h8⟩:=bind_ok h6;simp only [Res.ok.injEq] at h8;obtain ⟨rfl,rfl⟩:=h8;have c1:=Af h1;have c2:=hE _ _ _ h3;have c3:=Af h5;have c4:=hE _ _ _ h7;rw [DV];simp only [AY];omega
theorem Sl {E:Pr Ex}(hE:BZ Aa E)(n:Nat):∀(m:Nat) (acc:List Ex) (l:List Tok) (a:List Ex) (r:List Tok),Ep n E m acc l= .ok a r→r.length+AY a≤l.length+AY acc
 |0,acc,l,a,r,h=>by simp only [Ep,Res.ok.injEq] at h;obtain ⟨rfl,rfl⟩:=h;omega
 |m+1,acc,l,a,r,h=>by
  simp only [Ep] at h;split at h
  ·obtain ⟨x,q,h1,h2⟩:=bind_ok h;have c1:=Uj hE n h1;have c2:=Sl hE n m _ _ _ _ h2;omega
  ·simp only [Res.ok.injEq] at h;obtain ⟨rfl,rfl⟩:=h;omega
theorem AEa {E:Pr Ex}(hE:BZ Aa E)(n:Nat):BZ Aa (JO n E):=by
 intro l x r h;obtain ⟨a,q,h1,h2⟩:=bind_ok h;obtain ⟨a2,q2,h3,h4⟩:=bind_ok h2;obtain ⟨a3,q3,h5,h6⟩:=bind_ok h4;obtain ⟨_,q4,h7,h8⟩:=bind_ok h6;simp only [Res.ok.injEq] at h8;obtain ⟨rfl,rfl⟩:=h8;have c1:=Uj hE n h1;have c2:=Sl hE n n _ _ _ _ h3;have c4:=Af h7;have c3:q3.length+AY a3≤q2.length+AY a2:=by
  split at h5
  ·rename_i ht
   obtain ⟨y,q5,g1,g2⟩:=bind_ok h5;simp only [Res.ok.injEq] at g2;obtain ⟨rfl,rfl⟩:=g2;have d1:=hE _ _ _ g1;have d2:=Ai ht;rw [DV];simp only [AY];omega
  ·simp only [Res.ok.injEq] at h5;obtain ⟨rfl,rfl⟩:=h5;omega
 simp only [AY] at c1;simp only [exK,Aa];omega
theorem AEb {E:Pr Ex}(hE:BZ Aa E)(n:Nat)(s:Bs):BZ Aa (Dh n E s):=by
 intro l x r h;unfold Dh at h;split at h
 ·obtain ⟨a,q,h1,h2⟩:=bind_ok h;simp only [Res.ok.injEq] at h2;obtain ⟨rfl,rfl⟩:=h2;have c1:=Ui hE n _ _ _ h1;simp only at c1
  simp only [exK,Aa];omega
 obtain ⟨_,q,h1,h2⟩:=bind_ok h;have c1:=Af h1;split at h2
 ·obtain ⟨a,q2,h3,h4⟩:=bind_ok h2;obtain ⟨_,q3,h5,h6⟩:=bind_ok h4;simp only [Res.ok.injEq] at h6;obtain ⟨rfl,rfl⟩:=h6;have c2:=hE _ _ _ h3;have c3:=Af h5;simp only [exK,Aa,AY];omega
 split at h2
 ·rename_i ht
  simp only [Bool.and_eq_true] at ht;have c2:=Ai ht.2;obtain ⟨_,q3,h5,h6⟩:=bind_ok h2;simp only [Res.ok.injEq] at h6;obtain ⟨rfl,rfl⟩:=h6;have c3:=Af h5;simp only [exK,HY,Aa,AY];omega
 ·obtain ⟨a,q2,h3,h4⟩:=bind_ok h2;obtain ⟨_,q3,h5,h6⟩:=bind_ok h4;simp only [Res.ok.injEq] at h6;obtain ⟨rfl,rfl⟩:=h6;have c2:=hE _ _ _ h3;have c3:=Af h5;have c4:(if isT q [100,105,115,116,105,110,99,116] then q.tail else q).length≤q.length:=by split <;> simp
  simp only [HY,Aa,AY];omega
theorem AAS {E U:Pr Ex}(hE:BZ Aa E)(hU:BZ Aa U)(n:Nat):BZ Aa (FQ n E U):=by
 intro l x r h;unfold FQ at h;split at h
 ·rename_i ht
  obtain ⟨a,q,h1,h2⟩:=bind_ok h;simp only [Res.ok.injEq] at h2;obtain ⟨rfl,rfl⟩:=h2;have c1:=hU _ _ _ h1;have c2:=Ai ht;simp only [exK,Aa,AY];omega
 split at h
 ·rename_i ht
  obtain ⟨a,q,h1,h2⟩:=bind_ok h;obtain ⟨_,q2,h3,h4⟩:=bind_ok h2;simp only [Res.ok.injEq] at h4;obtain ⟨rfl,rfl⟩:=h4;have c1:=hE _ _ _ h1;have c2:=Ai ht;have c3:=Af h3;omega
 split at h
 ·rename_i ht
  have c1:=AEa hE n _ _ _ h;have c2:=Ai ht;omega
 split at h
 ·exact Sm _ _ _ h
 split at h
 ·rename_i v hv
  simp only [Res.ok.injEq] at h;obtain ⟨rfl,rfl⟩:=h;have:=Xi hv;simp only [JK,Aa,AY];omega
 ·obtain ⟨s,q,h1,h2⟩:=bind_ok h;have c1:=BG _ _ _ h1;simp only at c1
  split at h2
  ·have:=AEb hE n _ _ _ _ h2;omega
  split at h2
  ·rename_i ht
   obtain ⟨c,q2,h3,h4⟩:=bind_ok h2;simp only [Res.ok.injEq] at h4;obtain ⟨rfl,rfl⟩:=h4;have c2:=BG _ _ _ h3;have c3:=Ai ht;simp only at c2
   simp only [IK,Aa,AY];omega
  ·simp only [Res.ok.injEq] at h2;obtain ⟨rfl,rfl⟩:=h2;simp only [IK,Aa,AY];omega
theorem OJ (b:Bool)(x:Ex):Aa (PM b x)=Aa x+if b then 1 else 0:=by
 cases b
 ·simp [PM]
 ·simp [PM,exK,Aa,AY]
theorem AEX {E S:Pr Ex}(hE:BZ Aa E)(hS:BZ Aa S)(n:Nat):BZ Aa (JC n E S):=by
 intro l x r h;obtain ⟨a,q,h1,h2⟩:=bind_ok h;have c1:=hS _ _ _ h1;simp only at h2
 split at h2
 ·rename_i h0
  obtain ⟨y,q2,h3,h4⟩:=bind_ok h2;simp only [Res.ok.injEq] at h4;obtain ⟨rfl,rfl⟩:=h4;have c2:=hS _ _ _ h3;have c3:=AKl _ h0;simp only [exK,Aa,AY];omega
 split at h2
 ·rename_i ht
  have c2:=Ai ht;split at h2
  ·rename_i ht2
   have c3:=Ai ht2;obtain ⟨_,q2,h3,h4⟩:=bind_ok h2;simp only [Res.ok.injEq] at h4;obtain ⟨rfl,rfl⟩:=h4;have c4:=Af h3;simp only [exK,Aa,AY];omega
  ·obtain ⟨_,q2,h3,h4⟩:=bind_ok h2;simp only [Res.ok.injEq] at h4;obtain ⟨rfl,rfl⟩:=h4;have c4:=Af h3;simp only [exK,Aa,AY];omega
 have cb:(if isT q [110,111,116] then q.tail else q).length+(if isT q [110,111,116] then 1 else 0)=q.length:=by
  cases hn:isT q [110,111,116] with
  |true=>simpa using Ai hn
  |false=>simp
 generalize hq:(if isT q [110,111,116] then q.tail else q)=q1 at h2 cb;split at h2
 ·rename_i ht
  have c2:=Ai ht;obtain ⟨y,q2,h3,h4⟩:=bind_ok h2;simp only [Res.ok.injEq] at h4;obtain ⟨rfl,rfl⟩:=h4;have c3:=Ui hE n _ _ _ h3;simp only at c3
  rw [OJ];simp only [exK,Aa,AY];omega
 split at h2
 ·rename_i ht
  have c2:=Ai ht;obtain ⟨y,q2,h3,h4⟩:=bind_ok h2;obtain ⟨_,q3,h5,h6⟩:=bind_ok h4;obtain ⟨z,q4,h7,h8⟩:=bind_ok h6;simp only [Res.ok.injEq] at h8;obtain ⟨rfl,rfl⟩:=h8;have c3:=hS _ _ _ h3;have c4:=Af h5;have c5:=hS _ _ _ h7;rw [OJ];simp only [exK,Aa,AY];omega
 split at h2
 ·rename_i ht
  have c2:=Ai ht;obtain ⟨y,q2,h3,h4⟩:=bind_ok h2;simp only [Res.ok.injEq] at h4;obtain ⟨rfl,rfl⟩:=h4;have c3:=hS _ _ _ h3;rw [OJ];simp only [exK,Aa,AY];omega
 split at h2
 ·cases h2
 ·simp only [Res.ok.injEq] at h2;obtain ⟨rfl,rfl⟩:=h2;omega
theorem AIQ {N Q:Pr Ex}(hN:BZ Aa N)(hQ:BZ Aa Q):BZ Aa (PL N Q):=by
 intro l x r h;unfold PL at h;split at h
 ·rename_i ht
  obtain ⟨y,q2,h3,h4⟩:=bind_ok h;simp only [Res.ok.injEq] at h4;obtain ⟨rfl,rfl⟩:=h4;have c1:=Ai ht;have c2:=hN _ _ _ h3;simp only [exK,Aa,AY];omega
 ·exact hQ _ _ _ h
theorem Jn:∀n,BZ Aa (eP n)∧BZ Aa (nP n)∧BZ Aa (uP n)
 |0=>⟨fun l x r h=>by simp [eP,Fa] at h,fun l x r h=>by simp [nP,Fa] at h,fun l x r h=>by simp [uP,Fa] at h⟩
 |n+1=>by
  obtain ⟨hE,hN,hU⟩:=Jn n;have u:=AAS hE hU n;have s:=Jp (Jp u (AHx La) n) (AHx TP) n;have nn:=AIQ hN (AEX hE s n);exact ⟨Jp (Jp nn AKm n) AOY n,nn,u⟩
def pz (x:Ex):Nat:=if x.kind != 0 then Aa x else 0
theorem ACP (x:Ex):pz x≤Aa x:=by unfold pz;split <;> omega
theorem pz0:pz ex0=0:=rfl
theorem Je:∀l:List Ex,AY (l.filter fun x=>x.kind != 0)=(l.map pz).sum
 |[]=>rfl
 |x::l=>by
  simp only [List.filter_cons,List.map_cons,List.sum_cons,pz];cases h:(x.kind != 0) with
  |true=>simp only [if_true,AY,Je l]
  |false=>simp only [Bool.false_eq_true,if_false,Je l];simp
theorem Sr {α:Type}{w:α→Nat}{g:Pr α}(hg:BZ w g):∀(n:Nat) (acc:List α) (l:List Tok) (x:List α) (r:List Tok),CV g n acc l= .ok x r→r.length+(x.map w).sum≤l.length+(acc.map w).sum
 |0,acc,l,x,r,h=>by simp only [CV,Res.ok.injEq] at h;obtain ⟨rfl,rfl⟩:=h;omega
 |n+1,acc,l,x,r,h=>by
  simp only [CV] at h;split at h
  ·rename_i ht
   obtain ⟨a,q,h1,h2⟩:=bind_ok h;have c1:=hg _ _ _ h1;have c2:=Sr hg n _ _ _ _ h2;have c3:=Ai ht;simp only [List.map_append,List.map_cons,List.map_nil,List.sum_append,List.sum_cons,List.sum_nil] at c2;omega
  ·simp only [Res.ok.injEq] at h;obtain ⟨rfl,rfl⟩:=h;omega
theorem EN {α:Type}{w:α→Nat}{g:Pr α}(hg:BZ w g)(n:Nat):BZ (fun x=>(x.map w).sum) (BV n g):=by
 intro l x r h;obtain ⟨a,q,h1,h2⟩:=bind_ok h;have c1:=hg _ _ _ h1;have c2:=Sr hg n _ _ _ _ h2;simp only [List.map_cons,List.map_nil,List.sum_cons,List.sum_nil] at c2;simp only;omega
theorem MN {α:Type}{w:α→Nat}{g:Pr α}(hg:BZ w g)(n:Nat):BZ (fun x=>(x.map w).sum) (Bi n g):=by
 intro l x r h;obtain ⟨_,q,h1,h2⟩:=bind_ok h;obtain ⟨a,q2,h3,h4⟩:=bind_ok h2;obtain ⟨_,q3,h5,h6⟩:=bind_ok h4;simp only [Res.ok.injEq] at h6;obtain ⟨rfl,rfl⟩:=h6;have c1:=Af h1;have c2:=EN hg n _ _ _ h3;have c3:=Af h5;simp only at c2 ⊢;omega
theorem MP (n:Nat):BZ pz (eP n):=fun l x r h=>by
 have:=(Jn n).1 l x r h;have:=ACP x;omega
theorem IM (n:Nat):BZ (fun x=>0 * x.length) (Bi n Ar):=by
 intro l x r h;have:=MN (w:=fun _=>0) (fun l x r h=>by have:=BG l x r h;simp only at this ⊢;omega) n l x r h;simp only at this ⊢;omega
theorem IP (n:Nat)(s:Bs):BZ pz (EQ n s):=by
 intro l x r h;unfold EQ at h;split at h
 ·have c1:=MP n _ _ _ h;have c2:=Ai ‹_›;omega
 ·simp only [Res.ok.injEq] at h;obtain ⟨rfl,rfl⟩:=h;rw [pz0];omega
theorem AEY (n:Nat):BZ (fun x=>pz x.fExpr) (Gq n):=by
 intro l x r h;unfold Gq at h;split at h
 ·simp only [Res.ok.injEq] at h;obtain ⟨rfl,rfl⟩:=h;have:=Ai ‹_›;simp only [pz0];omega
 split at h
 ·simp only [Res.ok.injEq] at h;obtain ⟨rfl,rfl⟩:=h;simp only [pz0,List.length_tail];omega
 ·obtain ⟨y,q,h1,h2⟩:=bind_ok h;have c1:=MP n _ _ _ h1;split at h2
  ·obtain ⟨a,q2,h3,h4⟩:=bind_ok h2;simp only [Res.ok.injEq] at h4;obtain ⟨rfl,rfl⟩:=h4;have c2:=BG _ _ _ h3;have c3:=Ai ‹_›;simp only at c2 ⊢;omega
  ·simp only [Res.ok.injEq] at h2;obtain ⟨rfl,rfl⟩:=h2;exact c1
theorem AAV (n:Nat):BZ (fun x=>pz x.fExpr) (IC n):=by
 intro l x r h;obtain ⟨y,q,h1,h2⟩:=bind_ok h;have c1:=MP n _ _ _ h1;split at h2
 ·simp only [Res.ok.injEq] at h2;obtain ⟨rfl,rfl⟩:=h2;have:=Ai ‹_›;simp only;omega
 split at h2
 ·simp only [Res.ok.injEq] at h2;obtain ⟨rfl,rfl⟩:=h2;have:=Ai ‹_›;simp only;omega
 ·simp only [Res.ok.injEq] at h2;obtain ⟨rfl,rfl⟩:=h2;exact c1
theorem AIP (n:Nat):BZ (fun x=>pz x.fExpr) (TR n):=by
 intro l x r h;obtain ⟨s,q,h1,h2⟩:=bind_ok h;obtain ⟨_,q2,h3,h4⟩:=bind_ok h2;obtain ⟨y,q3,h5,h6⟩:=bind_ok h4;simp only [Res.ok.injEq] at h6;obtain ⟨rfl,rfl⟩:=h6;have c1:=BG _ _ _ h1;have c2:=Af h3;have c3:=MP n _ _ _ h5;simp only at c1 ⊢;omega
theorem Ik:BZ (fun x=>pz x.fOn) CY:=by
 intro l x r h;obtain ⟨s,q,h1,h2⟩:=bind_ok h;have c1:=BG _ _ _ h1;simp only at c1
 split at h2
 ·obtain ⟨a,q2,h3,h4⟩:=bind_ok h2;simp only [Res.ok.injEq] at h4;obtain ⟨rfl,rfl⟩:=h4;have c2:=BG _ _ _ h3;have c3:=Ai ‹_›;simp only [pz0] at c2 ⊢;omega
 split at h2
 ·obtain ⟨a,q2,h3,h4⟩:=bind_ok h2;simp only [Res.ok.injEq] at h4;obtain ⟨rfl,rfl⟩:=h4;have c2:=BG _ _ _ h3;simp only [pz0] at c2 ⊢;omega
 ·simp only [Res.ok.injEq] at h2;obtain ⟨rfl,rfl⟩:=h2;simp only [pz0];omega
theorem OZ (n:Nat)(b:Bool):BZ (fun x=>pz x.fOn) (Gz n b):=by
 intro l x r h;obtain ⟨_,q,h1,h2⟩:=bind_ok h;obtain ⟨s,q2,h3,h4⟩:=bind_ok h2;obtain ⟨_,q3,h5,h6⟩:=bind_ok h4;obtain ⟨y,q4,h7,h8⟩:=bind_ok h6;simp only [Res.ok.injEq] at h8;obtain ⟨rfl,rfl⟩:=h8;have c1:=Af h1;have c2:=Ik _ _ _ h3;have c3:=Af h5;have c4:=MP n _ _ _ h7;simp only at c2 ⊢;omega
theorem Sv (n:Nat):∀(m:Nat) (acc:List TSource) (l:List Tok) (x:List TSource) (r:List Tok),Cb n m acc l= .ok x r→r.length+(x.map fun x=>pz x.fOn).sum≤l.length+(acc.map fun x=>pz x.fOn).sum
 |0,acc,l,x,r,h=>by simp only [Cb,Res.ok.injEq] at h;obtain ⟨rfl,rfl⟩:=h;omega
 |m+1,acc,l,x,r,h=>by
  have one:∀{g:Pr TSource} (_:BZ (fun x=>pz x.fOn) g) {l':List Tok},l'.length≤l.length→(g l').bind (fun s r=>Cb n m (acc++[s]) r)= .ok x r→r.length+(x.map fun x=>pz x.fOn).sum≤l.length+(acc.map fun x=>pz x.fOn).sum:=by
   intro g hg l' hl h;obtain ⟨a,q,h1,h2⟩:=bind_ok h;have c1:=hg _ _ _ h1;have c2:=Sv n m _ _ _ _ h2;simp only [List.map_append,List.map_cons,List.map_nil,List.sum_append,List.sum_cons,List.sum_nil] at c2;simp only at c1;omega
  simp only [Cb] at h;split at h
  ·exact one Ik (by simp) h
  split at h
  ·obtain ⟨_,q,h1,h2⟩:=bind_ok h;have c1:=Af h1;have c2:=Ai ‹_›;exact one Ik (by omega) h2
  split at h
  ·exact one (OZ n true) (by simp) h
  split at h
  ·exact one (OZ n false) (by simp) h
  split at h
  ·exact one (OZ n false) (Nat.le_refl _) h
  ·simp only [Res.ok.injEq] at h;obtain ⟨rfl,rfl⟩:=h;omega
theorem AEZ (n:Nat):BZ (fun x=>(x.map fun x=>pz x.fOn).sum) (KZ n):=by
 intro l x r h;obtain ⟨a,q,h1,h2⟩:=bind_ok h;have c1:=Ik _ _ _ h1;have c2:=Sv n n _ _ _ _ h2;simp only [List.map_cons,List.map_nil,List.sum_cons,List.sum_nil] at c2;simp only at c1 ⊢;omega
theorem Ef {α:Type}{w:α→Nat}{g:Pr α}(hg:BZ w g)(s:Bs){d:α}(hd:w d=0):BZ w (OM s d g):=by
 intro l x r h;unfold OM at h;split at h
 ·have c1:=hg _ _ _ h;have c2:=Ai ‹_›;omega
 ·simp only [Res.ok.injEq] at h;obtain ⟨rfl,rfl⟩:=h;omega
theorem QQ {α:Type}{w:α→Nat}{g:Pr α}(hg:BZ w g):BZ w (byP g):=by
 intro l x r h;obtain ⟨_,q,h1,h2⟩:=bind_ok h;have c1:=Af h1;have c2:=hg _ _ _ h2;omega
theorem Jo:BZ (fun _=>0) EZ:=by
 intro l x r h;unfold EZ at h;split at h
 ·simp only [Res.ok.injEq] at h;obtain ⟨_,rfl⟩:=h;simp
 ·cases h
def wQ (q:TSelect):Nat:=(q.fItems.map fun x=>pz x.fExpr).sum+(q.fFrom.map fun x=>pz x.fOn).sum+pz q.fWhere+(q.fGroup.map pz).sum+pz q.fHaving+(q.fOrder.map fun x=>pz x.fExpr).sum
def wS (s:TStmt):Nat:=wQ s.fSelect+pz s.fWhere+((s.fRows.flatten).map pz).sum+(s.fSets.map fun x=>pz x.fExpr).sum+(s.fCols.map fun x=>pz x.fDefault).sum
theorem AHM (s:TStmt):FU s=wS s+1:=by
 simp only [FU,GU,Je,wS,wQ,List.map_append,List.sum_append,List.map_cons,List.map_nil,List.sum_cons,List.sum_nil,List.map_map,Function.comp_def];omega
theorem AAU (n:Nat):BZ wQ (Gt n):=by
 intro l x r h;obtain ⟨a1,q1,h1,h⟩:=bind_ok h;obtain ⟨a2,q2,h2,h⟩:=bind_ok h;obtain ⟨a3,q3,h3,h⟩:=bind_ok h;obtain ⟨a4,q4,h4,h⟩:=bind_ok h;obtain ⟨a5,q5,h5,h⟩:=bind_ok h;obtain ⟨a6,q6,h6,h⟩:=bind_ok h;obtain ⟨a7,q7,h7,h⟩:=bind_ok h;obtain ⟨a8,q8,h8,h⟩:=bind_ok h;simp only [Res.ok.injEq] at h;obtain ⟨rfl,rfl⟩:=h;have c1:=EN (AEY n) n _ _ _ h1;have c2:=Ef (AEZ n) _ rfl _ _ _ h2;have c3:=IP n _ _ _ _ h3;have c4:=Ef (QQ (EN (MP n) n)) _ rfl _ _ _ h4;have c5:=IP n _ _ _ _ h5;have c6:=Ef (QQ (EN (AAV n) n)) _ rfl _ _ _ h6;have c7:=Ef Jo _ rfl _ _ _ h7;have c8:=Ef Jo _ rfl _ _ _ h8;have c0:(if isT l [100,105,115,116,105,110,99,116] then l.tail else l).length≤l.length:=by split <;> simp
 simp only at c1 c2 c4 c6 c7 c8
 simp only [wQ];omega
theorem Su:BZ pz FZ:=by
 intro l x r h;unfold FZ at h;split at h
 ·rename_i v hv
  simp only [Res.ok.injEq] at h;obtain ⟨rfl,rfl⟩:=h;have:=Xi hv;have:=ACP (JK v);simp only [JK,Aa,AY] at this;simp only [JK];omega
 split at h
 ·obtain ⟨y,q,h1,h2⟩:=bind_ok h;simp only [Res.ok.injEq] at h2;obtain ⟨rfl,rfl⟩:=h2;have c1:=Sm _ _ _ h1;have c2:=Ai ‹_›;have:=ACP (exK 4 [y]);simp only [exK,Aa,AY] at this;simp only [exK];omega
 ·have c1:=Sm _ _ _ h;have:=ACP x;omega
theorem Ho:∀(m:Nat) (c:TCol) (l:List Tok) (y:TCol) (r:List Tok),FV m c l= .ok y r→r.length+pz y.fDefault≤l.length+pz c.fDefault
 |0,c,l,y,r,h=>by simp only [FV,Res.ok.injEq] at h;obtain ⟨rfl,rfl⟩:=h;omega
 |m+1,c,l,y,r,h=>by
  simp only [FV] at h;split at h
  ·obtain ⟨_,q,h1,h2⟩:=bind_ok h;have c1:=Af h1;have c2:=Ho m _ _ _ _ h2;have:l.tail.length≤l.length:=by simp
   simp only at c2;omega
  split at h
  ·obtain ⟨_,q,h1,h2⟩:=bind_ok h;have c1:=Af h1;have c2:=Ho m _ _ _ _ h2;have:l.tail.length≤l.length:=by simp
   simp only at c2;omega
  split at h
  ·have c2:=Ho m _ _ _ _ h;have:l.tail.length≤l.length:=by simp
   simp only at c2;omega
  split at h
  ·obtain ⟨x,q,h1,h2⟩:=bind_ok h;have c1:=Su _ _ _ h1;have c2:=Ho m _ _ _ _ h2;have:l.tail.length≤l.length:=by simp
   simp only at c2;omega
  ·simp only [Res.ok.injEq] at h;obtain ⟨rfl,rfl⟩:=h;omega
theorem YC (n:Nat):BZ (fun x=>pz x.fDefault) (Ej n):=by
 intro l x r h;obtain ⟨s,q,h1,h2⟩:=bind_ok h;have c1:=BG _ _ _ h1;simp only at h2 c1
 generalize (if isK q 1 then typeOf (hd q).text else 0)=t at h2;split at h2
 ·cases h2
 ·have c2:=Ho n _ _ _ _ h2;have:q.tail.length≤q.length:=by simp
  simp only [pz0] at c2 ⊢;omega
theorem Uk (n:Nat):∀(m:Nat) (cs:List TCol) (ks:List Bs) (l:List Tok) (x:List TCol×List Bs) (r:List Tok),Ez n m cs ks l= .ok x r→r.length+(x.1.map fun x=>pz x.fDefault).sum≤l.length+(cs.map fun x=>pz x.fDefault).sum
 |0,cs,ks,l,x,r,h=>by simp only [Ez,Res.ok.injEq] at h;obtain ⟨rfl,rfl⟩:=h;exact Nat.le_refl _
 |m+1,cs,ks,l,x,r,h=>by
  simp only [Ez] at h;obtain ⟨a,q,h1,h2⟩:=bind_ok h;have c1:q.length+(a.1.map fun x=>pz x.fDefault).sum≤l.length+(cs.map fun x=>pz x.fDefault).sum:=by
   split at h1
   ·obtain ⟨_,q1,g1,g2⟩:=bind_ok h1;obtain ⟨k,q2,g3,g4⟩:=bind_ok g2;simp only [Res.ok.injEq] at g4;obtain ⟨rfl,rfl⟩:=g4;have d1:=Af g1;have d2:=IM n _ _ _ g3;have:l.tail.length≤l.length:=by simp
    simp only at d2 ⊢;omega
   ·obtain ⟨c,q1,g1,g2⟩:=bind_ok h1;simp only [Res.ok.injEq] at g2;obtain ⟨rfl,rfl⟩:=g2;have d1:=YC n _ _ _ g1;simp only [List.map_append,List.map_cons,List.map_nil,List.sum_append,List.sum_cons,List.sum_nil] at d1 ⊢;omega
  split at h2
  ·have c2:=Uk n m _ _ _ _ _ h2;have:q.tail.length≤q.length:=by simp
   omega
  ·simp only [Res.ok.injEq] at h2;obtain ⟨rfl,rfl⟩:=h2;exact c1
theorem AAT (n:Nat):BZ wS (OB n):=by
 intro l x r h;obtain ⟨s,q,h1,h⟩:=bind_ok h;obtain ⟨_,q2,h2,h⟩:=bind_ok h;obtain ⟨y,q3,h3,h⟩:=bind_ok h;have c1:=BG _ _ _ h1;have c2:=Af h2;have c3:=Uk n _ _ _ _ _ _ h3;simp only [List.map_nil,List.sum_nil] at c3;split at h
 ·cases h
 ·obtain ⟨_,q4,h4,h⟩:=bind_ok h;simp only [Res.ok.injEq] at h;obtain ⟨rfl,rfl⟩:=h;have c4:=Af h4;have:wS {(default:TStmt) with fKind:=5,fTable:=s,fCols:=y.1,fKey:=y.2}=(y.1.map fun x=>pz x.fDefault).sum:=by
   show 0+0+0+0+(y.1.map fun x=>pz x.fDefault).sum=_;simp
  rw [this];simp only at c1;omega
theorem Wl:∀(l:List (List Ex)),(l.flatten.map pz).sum=(l.map fun x=>(x.map pz).sum).sum
 |[]=>rfl
 |x::l=>by simp only [List.flatten_cons,List.map_append,List.sum_append,List.map_cons,List.sum_cons,Wl l]
theorem wS0 {s:TStmt}(h1:s.fSelect=default)(h2:s.fWhere=ex0)(h3:s.fRows=[])(h4:s.fSets=[])(h5:s.fCols=[]):wS s=0:=by
 simp only [wS,h1,h2,h3,h4,h5];rfl
theorem leW {a b:Nat}{s:TStmt}(h0:wS s=0)(h:a+1≤b):a+(fun s=>wS s+1) s≤b:=by simp only [h0];omega
theorem WB {l r:List Tok}{n:Nat}(h:r.length+n≤l.length):r.length≤l.length:=by omega
theorem Ul (n:Nat):BZ (fun s=>wS s+1) (Dn n):=by
 intro l x r h;unfold Dn at h;split at h
 ·obtain ⟨q,r1,h1,h2⟩:=bind_ok h;simp only [Res.ok.injEq] at h2;obtain ⟨rfl,rfl⟩:=h2;have c1:=AAU n _ _ _ h1;have c2:=Ai ‹_›;have:wS {(default:TStmt) with fKind:=1,fSelect:=q}=wQ q:=by show wQ q+0+0+0+0=_;simp
  simp only [this];omega
 split at h
 ·have c0:=Ai ‹_›;obtain ⟨_,r1,h1,h⟩:=bind_ok h;obtain ⟨s,r2,h2,h⟩:=bind_ok h;obtain ⟨c,r3,h3,h⟩:=bind_ok h;obtain ⟨_,r4,h4,h⟩:=bind_ok h;obtain ⟨y,r5,h5,h⟩:=bind_ok h;simp only [Res.ok.injEq] at h;obtain ⟨rfl,rfl⟩:=h;have c1:=Af h1;have c2:=BG _ _ _ h2;have c3:r3.length≤r2.length:=by
   split at h3
   ·exact WB (IM n _ _ _ h3)
   ·simp only [Res.ok.injEq] at h3;obtain ⟨rfl,rfl⟩:=h3;exact Nat.le_refl _
  have c4:=Af h4;have c5:=EN (MN (MP n) n) n _ _ _ h5;have:wS {(default:TStmt) with fKind:=2,fTable:=s,fColumns:=c,fRows:=y}=(y.flatten.map pz).sum:=by show 0+0+(y.flatten.map pz).sum+0+0=_;simp
  simp only at c2 c5
  simp only [this,Wl];omega
 split at h
 ·have c0:=Ai ‹_›;obtain ⟨s,r1,h1,h⟩:=bind_ok h;obtain ⟨_,r2,h2,h⟩:=bind_ok h;obtain ⟨y,r3,h3,h⟩:=bind_ok h;obtain ⟨z,r4,h4,h⟩:=bind_ok h;simp only [Res.ok.injEq] at h;obtain ⟨rfl,rfl⟩:=h;have c1:=BG _ _ _ h1;have c2:=Af h2;have c3:=EN (AIP n) n _ _ _ h3;have c4:=IP n _ _ _ _ h4;have:wS {(default:TStmt) with fKind:=3,fTable:=s,fSets:=y,fWhere:=z}=pz z+(y.map fun x=>pz x.fExpr).sum:=by show 0+pz z+0+(y.map fun x=>pz x.fExpr).sum+0=_;simp
  simp only at c1 c3
  simp only [this];omega
 split at h
 ·have c0:=Ai ‹_›;obtain ⟨_,r1,h1,h⟩:=bind_ok h;obtain ⟨s,r2,h2,h⟩:=bind_ok h;obtain ⟨z,r3,h3,h⟩:=bind_ok h;simp only [Res.ok.injEq] at h;obtain ⟨rfl,rfl⟩:=h;have c1:=Af h1;have c2:=BG _ _ _ h2;have c3:=IP n _ _ _ _ h3;have:wS {(default:TStmt) with fKind:=4,fTable:=s,fWhere:=z}=pz z:=by show 0+pz z+0+0+0=_;simp
  simp only at c2
  simp only [this];omega
 split at h
 ·have c0:=Ai ‹_›;unfold Ei at h;split at h
  ·have c1:=AAT n _ _ _ h;have:l.tail.tail.length≤l.tail.length:=by simp
   simp only;omega
  ·obtain ⟨_,r1,h1,h⟩:=bind_ok h;obtain ⟨a,r2,h2,h⟩:=bind_ok h;obtain ⟨_,r3,h3,h⟩:=bind_ok h;obtain ⟨t,r4,h4,h⟩:=bind_ok h;obtain ⟨c,r5,h5,h⟩:=bind_ok h;simp only [Res.ok.injEq] at h;obtain ⟨rfl,rfl⟩:=h;have c1:=Af h1;have c2:=BG _ _ _ h2;have c3:=Af h3;have c4:=BG _ _ _ h4;have c5:=WB (IM n _ _ _ h5);have c6:(if isT l.tail [117,110,105,113,117,101] then l.tail.tail else l.tail).length≤l.tail.length:=by split <;> simp
   refine leW (wS0 rfl rfl rfl rfl rfl) ?_;simp only at c2 c4;omega
 split at h
 ·have c0:=Ai ‹_›;unfold Fv at h;split at h
  ·obtain ⟨s,r1,h1,h⟩:=bind_ok h;simp only [Res.ok.injEq] at h;obtain ⟨rfl,rfl⟩:=h;have c1:=BG _ _ _ h1;have:l.tail.tail.length≤l.tail.length:=by simp
   refine leW (wS0 rfl rfl rfl rfl rfl) ?_;simp only at c1;omega
  ·obtain ⟨_,r1,h1,h⟩:=bind_ok h;obtain ⟨s,r2,h2,h⟩:=bind_ok h;simp only [Res.ok.injEq] at h;obtain ⟨rfl,rfl⟩:=h;have c1:=Af h1;have c2:=BG _ _ _ h2;refine leW (wS0 rfl rfl rfl rfl rfl) ?_;simp only at c2;omega
 split at h
 ·have c0:=Ai ‹_›;simp only [Res.ok.injEq] at h;obtain ⟨rfl,rfl⟩:=h;refine leW (wS0 rfl rfl rfl rfl rfl) ?_;omega
 split at h
 ·have c0:=Ai ‹_›;simp only [Res.ok.injEq] at h;obtain ⟨rfl,rfl⟩:=h;refine leW (wS0 rfl rfl rfl rfl rfl) ?_;omega
 ·obtain ⟨_,r1,h1,h⟩:=bind_ok h;simp only [Res.ok.injEq] at h;obtain ⟨rfl,rfl⟩:=h;have c1:=Af h1;refine leW (wS0 rfl rfl rfl rfl rfl) ?_;omega
theorem MO (n:Nat):∀(m:Nat) (acc:List TStmt) (l:List Tok) (x:List TStmt) (r:List Tok),Bz n m acc l= .ok x r→BL x≤l.length+BL acc
 |0,acc,l,x,r,h=>by simp only [Bz,Res.ok.injEq] at h;obtain ⟨rfl,rfl⟩:=h;omega
 |m+1,acc,l,x,r,h=>by
  simp only [Bz] at h;split at h
  ·simp only [Res.ok.injEq] at h;obtain ⟨rfl,rfl⟩:=h;omega
  split at h
  ·have:=MO n m _ _ _ _ h;have:l.tail.length≤l.length:=by simp
   omega
  ·obtain ⟨s,q,h1,h2⟩:=bind_ok h;have c1:=Ul n _ _ _ h1;simp only at c1
   split at h2
   ·have c2:=MO n m _ _ _ _ h2;simp only [BL,List.map_append,List.map_cons,List.map_nil,List.sum_append,List.sum_cons,List.sum_nil,AHM] at c2 ⊢;omega
   ·cases h2
theorem JU (n:Nat):∀(f:Nat) (acc:List Tok) (s:Bs) (l:List Tok),DY n f acc s= .toks l→l.length≤acc.length+f
 |0,acc,s,l,h=>by simp only [DY,LexA.toks.injEq] at h;subst h;omega
 |f+1,acc,s,l,h=>by
  simp only [DY] at h;split at h
  ·simp only [LexA.toks.injEq] at h;subst h;simp
  ·split at h
   ·cases h
   ·have:=JU n f _ _ _ h;simp at this;omega
theorem ZX (s:Bs):BL (readA s).1≤s.length+1:=by
 unfold readA;split
 ·simp [BL]
 ·rename_i l hl
  have hc:=JU _ _ _ _ _ hl;split
  ·rename_i x r hx
   have:=MO _ _ _ _ _ _ hx;simp [BL] at this hc ⊢;omega
  ·simp [BL]
def cQ (q:TSelect):Nat:=q.fItems.length+q.fFrom.length+q.fGroup.length+q.fOrder.length
def cS (s:TStmt):Nat:=cQ s.fSelect+(s.fRows.flatten.length+s.fRows.length)+s.fSets.length+s.fCols.length
theorem AAq {α:Type}(l:List α):(l.map fun _=>1).sum=l.length:=by
 induction l with
 |nil=>rfl
 |cons x l ih=>simp only [List.map_cons,List.sum_cons,ih,List.length_cons];omega
theorem KP {α:Type}{g:Pr α}(hg:BZ (fun _=>1) g)(n:Nat):BZ List.length (BV n g):=fun l x r h=>by
 have:=EN hg n l x r h;simp only [AAq] at this;exact this
theorem Xe {α:Type}{g:Pr α}(hg:BZ (fun _=>1) g)(n:Nat):BZ List.length (Bi n g):=fun l x r h=>by
 have:=MN hg n l x r h;simp only [AAq] at this;exact this
theorem Rf (n:Nat):BZ (fun _=>1) (eP n):=fun l x r h=>by
 have:=(Jn n).1 l x r h;have:1≤Aa x:=by cases x;simp [Aa]
 simp only;omega
theorem Xm (n:Nat)(s:Bs):BZ (fun _=>0) (EQ n s):=fun l x r h=>by
 have:=IP n s l x r h;simp only;omega
theorem AHS (n:Nat):BZ (fun _=>1) (Gq n):=by
 intro l x r h;unfold Gq at h;split at h
 ·simp only [Res.ok.injEq] at h;obtain ⟨rfl,rfl⟩:=h;have:=Ai ‹_›;simp only;omega
 split at h
 ·rename_i hb
  simp only [Bool.and_eq_true] at hb;have:=IL hb.1.1.1.1 (by decide);simp only [Res.ok.injEq] at h;obtain ⟨rfl,rfl⟩:=h;simp only [List.length_tail] at this ⊢;omega
 ·obtain ⟨y,q,h1,h2⟩:=bind_ok h;have c1:=Rf n _ _ _ h1;split at h2
  ·obtain ⟨a,q2,h3,h4⟩:=bind_ok h2;simp only [Res.ok.injEq] at h4;obtain ⟨rfl,rfl⟩:=h4;have c2:=BG _ _ _ h3;have c3:=Ai ‹_›;simp only at c1 c2 ⊢;omega
  ·simp only [Res.ok.injEq] at h2;obtain ⟨rfl,rfl⟩:=h2;exact c1
theorem AED (n:Nat):BZ (fun _=>1) (IC n):=by
 intro l x r h;obtain ⟨y,q,h1,h2⟩:=bind_ok h;have c1:=Rf n _ _ _ h1;simp only at c1
 split at h2
 ·simp only [Res.ok.injEq] at h2;obtain ⟨rfl,rfl⟩:=h2;have:=Ai ‹_›;simp only;omega
 split at h2
 ·simp only [Res.ok.injEq] at h2;obtain ⟨rfl,rfl⟩:=h2;have:=Ai ‹_›;simp only;omega
 ·simp only [Res.ok.injEq] at h2;obtain ⟨rfl,rfl⟩:=h2;exact c1
theorem one_set (n:Nat):BZ (fun _=>1) (TR n):=by
 intro l x r h;obtain ⟨s,q,h1,h2⟩:=bind_ok h;obtain ⟨_,q2,h3,h4⟩:=bind_ok h2;obtain ⟨y,q3,h5,h6⟩:=bind_ok h4;simp only [Res.ok.injEq] at h6;obtain ⟨rfl,rfl⟩:=h6;have c1:=BG _ _ _ h1;have c2:=Af h3;have c3:=Rf n _ _ _ h5;simp only at c1 c3 ⊢;omega
theorem Jf:BZ (fun _=>1) CY:=by
 intro l x r h;obtain ⟨s,q,h1,h2⟩:=bind_ok h;have c1:=BG _ _ _ h1;simp only at c1
 split at h2
 ·obtain ⟨a,q2,h3,h4⟩:=bind_ok h2;simp only [Res.ok.injEq] at h4;obtain ⟨rfl,rfl⟩:=h4;have c2:=BG _ _ _ h3;have c3:=Ai ‹_›;simp only at c2 ⊢;omega
 split at h2
 ·obtain ⟨a,q2,h3,h4⟩:=bind_ok h2;simp only [Res.ok.injEq] at h4;obtain ⟨rfl,rfl⟩:=h4;have c2:=BG _ _ _ h3;simp only at c2 ⊢;omega
 ·simp only [Res.ok.injEq] at h2;obtain ⟨rfl,rfl⟩:=h2;simp only;omega
theorem RZ (n:Nat)(b:Bool):BZ (fun _=>1) (Gz n b):=by
 intro l x r h;obtain ⟨_,q,h1,h2⟩:=bind_ok h;obtain ⟨s,q2,h3,h4⟩:=bind_ok h2;obtain ⟨_,q3,h5,h6⟩:=bind_ok h4;obtain ⟨y,q4,h7,h8⟩:=bind_ok h6;simp only [Res.ok.injEq] at h8;obtain ⟨rfl,rfl⟩:=h8;have c1:=Af h1;have c2:=Jf _ _ _ h3;have c3:=Af h5;have c4:=Rf n _ _ _ h7;simp only at c2 c4 ⊢;omega
theorem UV (n:Nat):∀(m:Nat) (acc:List TSource) (l:List Tok) (x:List TSource) (r:List Tok),Cb n m acc l= .ok x r→r.length+x.length≤l.length+acc.length
 |0,acc,l,x,r,h=>by simp only [Cb,Res.ok.injEq] at h;obtain ⟨rfl,rfl⟩:=h;omega
 |m+1,acc,l,x,r,h=>by
  have one:∀{g:Pr TSource} (_:BZ (fun _=>1) g) {l':List Tok},l'.length≤l.length→(g l').bind (fun s r=>Cb n m (acc++[s]) r)= .ok x r→r.length+x.length≤l.length+acc.length:=by
   intro g hg l' hl h;obtain ⟨a,q,h1,h2⟩:=bind_ok h;have c1:=hg _ _ _ h1;have c2:=UV n m _ _ _ _ h2;simp only [List.length_append,List.length_cons,List.length_nil] at c2;simp only at c1;omega
  simp only [Cb] at h;split at h
  ·exact one Jf (by simp) h
  split at h
  ·obtain ⟨_,q,h1,h2⟩:=bind_ok h;have c1:=Af h1;have c2:=Ai ‹_›;exact one Jf (by omega) h2
  split at h
  ·exact one (RZ n true) (by simp) h
  split at h
  ·exact one (RZ n false) (by simp) h
  split at h
  ·exact one (RZ n false) (Nat.le_refl _) h
  ·simp only [Res.ok.injEq] at h;obtain ⟨rfl,rfl⟩:=h;omega
theorem AHT (n:Nat):BZ List.length (KZ n):=by
 intro l x r h;obtain ⟨a,q,h1,h2⟩:=bind_ok h;have c1:=Jf _ _ _ h1;have c2:=UV n n _ _ _ _ h2;simp only [List.length_cons,List.length_nil] at c2;simp only at c1;omega
theorem AEe (n:Nat):BZ cQ (Gt n):=by
 intro l x r h;obtain ⟨a1,q1,h1,h⟩:=bind_ok h;obtain ⟨a2,q2,h2,h⟩:=bind_ok h;obtain ⟨a3,q3,h3,h⟩:=bind_ok h;obtain ⟨a4,q4,h4,h⟩:=bind_ok h;obtain ⟨a5,q5,h5,h⟩:=bind_ok h;obtain ⟨a6,q6,h6,h⟩:=bind_ok h;obtain ⟨a7,q7,h7,h⟩:=bind_ok h;obtain ⟨a8,q8,h8,h⟩:=bind_ok h;simp only [Res.ok.injEq] at h;obtain ⟨rfl,rfl⟩:=h;have c1:=KP (AHS n) n _ _ _ h1;have c2:=Ef (AHT n) _ rfl _ _ _ h2;have c3:=Xm n _ _ _ _ h3;have c4:=Ef (QQ (KP (Rf n) n)) _ rfl _ _ _ h4;have c5:=Xm n _ _ _ _ h5;have c6:=Ef (QQ (KP (AED n) n)) _ rfl _ _ _ h6;have c7:=Ef Jo _ rfl _ _ _ h7;have c8:=Ef Jo _ rfl _ _ _ h8;have c0:(if isT l [100,105,115,116,105,110,99,116] then l.tail else l).length≤l.length:=by split <;> simp
 simp only at c1 c2 c3 c4 c5 c6 c7 c8
 simp only [cQ];omega
theorem Zv (n:Nat):BZ (fun _=>1) (Ej n):=by
 intro l x r h;obtain ⟨s,q,h1,h2⟩:=bind_ok h;have c1:=BG _ _ _ h1;simp only at h2 c1
 generalize (if isK q 1 then typeOf (hd q).text else 0)=t at h2;split at h2
 ·cases h2
 ·have c2:=Ho n _ _ _ _ h2;have:q.tail.length≤q.length:=by simp
  simp only [pz0] at c2 ⊢;omega
theorem Xf (n:Nat):∀(m:Nat) (cs:List TCol) (ks:List Bs) (l:List Tok) (x:List TCol×List Bs) (r:List Tok),Ez n m cs ks l= .ok x r→r.length+x.1.length≤l.length+cs.length
 |0,cs,ks,l,x,r,h=>by simp only [Ez,Res.ok.injEq] at h;obtain ⟨rfl,rfl⟩:=h;exact Nat.le_refl _
 |m+1,cs,ks,l,x,r,h=>by
  simp only [Ez] at h;obtain ⟨a,q,h1,h2⟩:=bind_ok h;have c1:q.length+a.1.length≤l.length+cs.length:=by
   split at h1
   ·obtain ⟨_,q1,g1,g2⟩:=bind_ok h1;obtain ⟨k,q2,g3,g4⟩:=bind_ok g2;simp only [Res.ok.injEq] at g4;obtain ⟨rfl,rfl⟩:=g4;have d1:=Af g1;have d2:=IM n _ _ _ g3;have:l.tail.length≤l.length:=by simp
    simp only at d2 ⊢;omega
   ·obtain ⟨c,q1,g1,g2⟩:=bind_ok h1;simp only [Res.ok.injEq] at g2;obtain ⟨rfl,rfl⟩:=g2;have d1:=Zv n _ _ _ g1;simp only [List.length_append,List.length_cons,List.length_nil] at d1 ⊢;omega
  split at h2
  ·have c2:=Xf n m _ _ _ _ _ h2;have:q.tail.length≤q.length:=by simp
   omega
  ·simp only [Res.ok.injEq] at h2;obtain ⟨rfl,rfl⟩:=h2;exact c1
theorem cS0 {s:TStmt}(h1:s.fSelect=default)(h3:s.fRows=[])(h4:s.fSets=[])(h5:s.fCols=[]):cS s=0:=by
 simp only [cS,h1,h3,h4,h5];rfl
theorem ALN {s:TStmt}(h1:s.fSelect=default)(h4:s.fSets=[])(h5:s.fCols=[]):cS s=s.fRows.flatten.length+s.fRows.length:=by
 simp only [cS,h1,h4,h5];show 0+_+0+0=_;simp
theorem ALM {s:TStmt}(h1:s.fSelect=default)(h3:s.fRows=[])(h5:s.fCols=[]):cS s=s.fSets.length:=by
 simp only [cS,h1,h3,h5];show 0+0+_+0=_;simp
theorem ALO {s:TStmt}(h1:s.fSelect=default)(h3:s.fRows=[])(h4:s.fSets=[]):cS s=s.fCols.length:=by
 simp only [cS,h1,h3,h4];show 0+0+0+_=_;simp
theorem AQo {s:TStmt}(h3:s.fRows=[])(h4:s.fSets=[])(h5:s.fCols=[]):cS s=cQ s.fSelect:=by
 simp only [cS,h3,h4,h5];show _+0+0+0=_;simp
theorem AHl {α:Type}:∀l:List (List α),l.flatten.length=(l.map List.length).sum
 |[]=>rfl
 |x::l=>by simp only [List.flatten_cons,List.length_append,List.map_cons,List.sum_cons,AHl l]
theorem UY {α:Type}:∀l:List (List α),(l.map fun x=>x.length+1).sum=l.flatten.length+l.length
 |[]=>rfl
 |x::l=>by simp only [List.flatten_cons,List.length_append,List.map_cons,List.sum_cons,UY l,List.length_cons];omega
theorem AEC {α:Type}{g:Pr α}(hg:BZ (fun _=>1) g)(n:Nat):BZ (fun x=>x.length+1) (Bi n g):=by
 intro l x r h;obtain ⟨_,q,h1,h2⟩:=bind_ok h;obtain ⟨a,q2,h3,h4⟩:=bind_ok h2;obtain ⟨_,q3,h5,h6⟩:=bind_ok h4;simp only [Res.ok.injEq] at h6;obtain ⟨rfl,rfl⟩:=h6;have c1:=Af h1;have c2:=KP hg n _ _ _ h3;have c3:=Af h5;simp only;omega
theorem AIT {n:Nat}{l r:List Tok}{x:TStmt}(h:Dn n l= .ok x r):r.length≤l.length∧cS x≤l.length:=by
 have hle:r.length≤l.length:=by have:=Ul n _ _ _ h;omega
 refine ⟨hle,?_⟩;unfold Dn at h;split at h
 ·obtain ⟨q,r1,h1,h2⟩:=bind_ok h;simp only [Res.ok.injEq] at h2;obtain ⟨rfl,rfl⟩:=h2;have c1:=AEe n _ _ _ h1;rw [AQo rfl rfl rfl];simp only [List.length_tail] at c1 ⊢;omega
 split at h
 ·obtain ⟨_,r1,h1,h⟩:=bind_ok h;obtain ⟨s,r2,h2,h⟩:=bind_ok h;obtain ⟨c,r3,h3,h⟩:=bind_ok h;obtain ⟨_,r4,h4,h⟩:=bind_ok h;obtain ⟨y,r5,h5,h⟩:=bind_ok h;simp only [Res.ok.injEq] at h;obtain ⟨rfl,rfl⟩:=h;have c1:=Af h1;have c2:=BG _ _ _ h2;have c3:r3.length≤r2.length:=by
   split at h3
   ·exact WB (IM n _ _ _ h3)
   ·simp only [Res.ok.injEq] at h3;obtain ⟨rfl,rfl⟩:=h3;exact Nat.le_refl _
  have c4:=Af h4;have c5:=EN (AEC (Rf n) n) n _ _ _ h5;rw [ALN rfl rfl rfl,←UY];simp only [List.length_tail] at c1 c2 c5 ⊢;omega
 split at h
 ·obtain ⟨s,r1,h1,h⟩:=bind_ok h;obtain ⟨_,r2,h2,h⟩:=bind_ok h;obtain ⟨y,r3,h3,h⟩:=bind_ok h;obtain ⟨z,r4,h4,h⟩:=bind_ok h;simp only [Res.ok.injEq] at h;obtain ⟨rfl,rfl⟩:=h;have c1:=BG _ _ _ h1;have c2:=Af h2;have c3:=KP (one_set n) n _ _ _ h3;rw [ALM rfl rfl rfl];simp only [List.length_tail] at c1 ⊢;omega
 split at h
 ·obtain ⟨_,r1,h1,h⟩:=bind_ok h;obtain ⟨s,r2,h2,h⟩:=bind_ok h;obtain ⟨z,r3,h3,h⟩:=bind_ok h;simp only [Res.ok.injEq] at h;obtain ⟨rfl,rfl⟩:=h;rw [cS0 rfl rfl rfl rfl];omega
 split at h
 ·unfold Ei at h;split at h
  ·obtain ⟨s,q,h1,h⟩:=bind_ok h;obtain ⟨_,q2,h2,h⟩:=bind_ok h;obtain ⟨y,q3,h3,h⟩:=bind_ok h;have c1:=BG _ _ _ h1;have c2:=Af h2;have c3:=Xf n _ _ _ _ _ _ h3;split at h
   ·cases h
   ·obtain ⟨_,q4,h4,h⟩:=bind_ok h;simp only [Res.ok.injEq] at h;obtain ⟨rfl,rfl⟩:=h;rw [ALO rfl rfl rfl];simp only [List.length_tail,List.length_nil] at c1 c3 ⊢;omega
  ·obtain ⟨_,q1,h1,h⟩:=bind_ok h;obtain ⟨_,q2,h2,h⟩:=bind_ok h;obtain ⟨_,q3,h3,h⟩:=bind_ok h;obtain ⟨_,q4,h4,h⟩:=bind_ok h;obtain ⟨_,q5,h5,h⟩:=bind_ok h;simp only [Res.ok.injEq] at h;obtain ⟨rfl,rfl⟩:=h;rw [cS0 rfl rfl rfl rfl];omega
 split at h
 ·unfold Fv at h;split at h
  ·obtain ⟨_,q1,h1,h⟩:=bind_ok h;simp only [Res.ok.injEq] at h;obtain ⟨rfl,rfl⟩:=h;rw [cS0 rfl rfl rfl rfl];omega
  ·obtain ⟨_,q1,h1,h⟩:=bind_ok h;obtain ⟨_,q2,h2,h⟩:=bind_ok h;simp only [Res.ok.injEq] at h;obtain ⟨rfl,rfl⟩:=h;rw [cS0 rfl rfl rfl rfl];omega
 split at h
 ·simp only [Res.ok.injEq] at h;obtain ⟨rfl,rfl⟩:=h;rw [cS0 rfl rfl rfl rfl];omega
 split at h
 ·simp only [Res.ok.injEq] at h;obtain ⟨rfl,rfl⟩:=h;rw [cS0 rfl rfl rfl rfl];omega
 ·obtain ⟨_,q1,h1,h⟩:=bind_ok h;simp only [Res.ok.injEq] at h;obtain ⟨rfl,rfl⟩:=h;rw [cS0 rfl rfl rfl rfl];omega
theorem Oa (n:Nat):∀(m:Nat) (acc:List TStmt) (l:List Tok) (x:List TStmt) (r:List Tok),Bz n m acc l= .ok x r→∀s∈x,s∈acc∨cS s≤l.length
 |0,acc,l,x,r,h,s,hs=>by simp only [Bz,Res.ok.injEq] at h;obtain ⟨rfl,rfl⟩:=h;exact .inl hs
 |m+1,acc,l,x,r,h,s,hs=>by
  simp only [Bz] at h;split at h
  ·simp only [Res.ok.injEq] at h;obtain ⟨rfl,rfl⟩:=h;exact .inl hs
  split at h
  ·have:=Oa n m _ _ _ _ h s hs;simp only [List.length_tail] at this;exact this.imp id (fun h=>by omega)
  ·obtain ⟨s',q,h1,h2⟩:=bind_ok h;have c1:=AIT h1;split at h2
   ·rcases Oa n m _ _ _ _ h2 s hs with h|h
    ·rcases List.mem_append.1 h with h|h
     ·exact .inl h
     ·rw [List.mem_singleton.1 h];exact .inr c1.2
    ·exact .inr (by omega)
   ·cases h2
theorem YF (s:Bs):∀x∈(readA s).1,cS x≤s.length+1:=by
 unfold readA;split
 ·intro x hx;cases hx
 ·rename_i l hl
  have hc:=JU _ _ _ _ _ hl;split
  ·rename_i x r hx
   intro y hy;rcases Oa _ _ _ _ _ _ hx y hy with h|h
   ·cases h
   ·simp at hc;omega
  ·intro x hx;cases hx
def ATn (ω:Om):Prop:=∀(v:Value) (l:List TStmt) (K:Value→M) (I:Imm) (L:LH),RL TStmtV 51 I [] v l→BL l≤1000000000→(∀s∈l,cS s≤1000000000)→(∀I',Ext I I'→K (.int .i64 (NZ (BL l) (Dq l))) I' L)→CT ω 26 #[v] K I L
theorem Tc {n:Nat}:∀{f:Nat} {acc:List Tok} {s:Bs} {e:Flt},DY n f acc s= .bad e→e.code≠0
 |0,acc,s,e,h=>by simp [DY] at h
 |f+1,acc,s,e,h=>by
  rw [Qg] at h;unfold AEy at h;split at h
  ·cases h
  ·split at h
   ·rename_i x hx
    simp only [LexA.bad.injEq] at h;subst h;exact Rh hx
   ·exact Tc h
theorem RG (s:Bs):(readA s).2=ok0∨((readA s).2.code≠0∧(readA s).1=[]):=by
 unfold readA;split
 ·rename_i f hf
  exact .inr ⟨Tc hf,rfl⟩
 ·split
  ·exact .inl rfl
  ·exact .inr ⟨by simp,rfl⟩
section
variable {ω:Om}
theorem AOp {I:Imm}{L:LH}{K:Value→M}{w:Value}{xs:List TStmt}(hw:RL TStmtV 51 I [] w xs)(hk:∀a k,RL TStmtV 51 I [] (.slice a xs.length k) xs→K (.slice a xs.length k) I L):CT ω 27 #[w] K I L:=by
 refine ATQ ?_;unfold ARv;obtain ⟨w',h1,h2⟩:=Gs hw;simp only [RL.len hw,h1,SSd,Nat.reduceAdd];obtain ⟨a,k,rfl⟩:=RL.form h2;exact Gh.done (hk a k h2)
theorem MI {G:Imm}(hTok:WH ω G)(hLim:ATn ω)(s:Bs){I:Imm}{L:LH}{K:Value→M}(hG:Ext G I)
  (hok:∀I' a k,Ext I I'→RL TStmtV 51 I' [] (.slice a (Ci s).1.length k) (Ci s).1→K (.tuple #[.slice a (Ci s).1.length k,.agg #[.int .i64 (Ci s).2.code,.int .i64 (Ci s).2.at']]) I' L):
  CT ω 12 #[.string ⟨s.toArray⟩] K I L:=by
 have hparts:s.length≤65536→BL (readA s).1≤1000000000∧∀x∈(readA s).1,cS x≤1000000000:=fun h=>⟨by have:=ZX s;omega,fun x hx=>by have:=YF s x hx;omega⟩;refine ATZ ?_;unfold ASE;refine Ad (fun b1=>?_);try refine zqe ?_
 refine AB (fun hb=>?_) (fun hb=>?_)
 ·have hb:65536 < s.length:=by
   have:=of_decide_eq_true hb;omega
  have hp:Ci s=([],⟨170,65536⟩):=by unfold Ci;rw [if_pos hb]
  rw [hp] at hok;repeat' (first|refine zqa ?_|refine zqh (fun _=>?_)|refine zqr ?_|refine zqb ?_|refine zqi ?_ ?_|refine zqc ?_|refine zqg (fun _=>?_) (fun _=>?_)|refine zqe ?_|fail)
  exact Gh.to L (Gh.done (hok I none 0 (Ext.refl _) (RL.nil none 0)))
 have hb:s.length≤65536:=by
  have:=of_decide_eq_false hb;omega
 refine call (UJ hTok s (by omega) hG (fun I1 a k hI1 hw=>?_));have hcode:=RG s;generalize hr:readA s=q at hw hok hparts hcode ⊢;obtain ⟨l,f⟩:=q;have hp:Ci s=if f≠ok0 then ([],f) else if NZ (BL l) (Dq l)≠0 then ([],⟨NZ (BL l) (Dq l),0⟩) else (l,ok0):=by
  unfold Ci;rw [if_neg (by omega),hr]
 simp only at hw hparts hcode ⊢
 rcases hcode with rfl|⟨hc,rfl⟩
 ·rw [if_neg (by simp)] at hp;repeat' (first|refine zqa ?_|refine zqh (fun _=>?_)|refine zqr ?_|refine zqb ?_|refine zqi ?_ ?_|refine zqc ?_|refine zqg (fun _=>?_) (fun _=>?_)|(simp only [SSd,Nat.reduceAdd,ok0]))
  rename_i bt
  refine call (hLim _ l _ _ _ hw (hparts hb).1 (hparts hb).2 (fun I2 hI2=>?_));by_cases h0:NZ (BL l) (Dq l)=0
  ·rw [h0];rw [if_neg (by simpa using h0)] at hp;rw [hp] at hok;repeat' (first|refine zqa ?_|refine zqh (fun _=>?_)|refine zqr ?_|refine zqb ?_|(with_reducible first|refine Be (sh12_1.eq_1 ..) ?_|refine And.intro ?_ ?_)|refine zqc ?_|refine zqg (fun _=>?_) (fun _=>?_)|refine zqe ?_|fail)
   refine call (AOp (RL.mono (fun _ _ h=>TStmtV.mono h hI2) hw hI2 (fun _ h=>h)) (fun a' k' hw'=>?_));repeat' (first|refine zqa ?_|refine zqh (fun _=>?_)|refine zqr ?_|refine zqb ?_|refine zqi ?_ ?_|refine zqc ?_|refine zqg (fun _=>?_) (fun _=>?_)|refine zqe ?_|fail)
   exact Gh.to L (Gh.done (hok I2 a' k' (Ext.trans hI1 hI2) hw'))
  ·rw [if_pos h0] at hp;rw [hp] at hok;have e2:(NZ (BL l) (Dq l) != 0)=true:=by simpa using h0
   repeat' (first|refine zqa ?_|refine zqh (fun _=>?_)|refine zqr ?_|refine zqb ?_|(with_reducible first|refine Be (sh12_1.eq_1 ..) ?_|refine And.intro ?_ ?_)|refine zqc ?_|refine zqg (fun _=>?_) (fun _=>?_)|(simp only [SSd,Nat.reduceAdd,e2]))
   exact Gh.to L (Gh.done (hok I2 none 0 (Ext.trans hI1 hI2) (RL.nil none 0)))
 ·rw [if_pos (by rintro rfl;exact hc rfl)] at hp;rw [hp] at hok;have e1:(f.code==0)=false:=by simpa using hc
  have e2:(f.code != 0)=true:=by simpa using hc
  repeat' (first|refine zqa ?_|refine zqh (fun _=>?_)|refine zqr ?_|refine zqb ?_|(with_reducible first|refine Be (sh12_1.eq_1 ..) ?_|refine And.intro ?_ ?_)|refine zqc ?_|refine zqg (fun _=>?_) (fun _=>?_)|(simp only [SSd,Nat.reduceAdd,e1,e2]))
  exact Gh.to L (Gh.done (hok I1 none 0 hI1 (RL.nil none 0)))
end
section
variable {P:Program}{ω:Om}{K:Value→M}{I:Imm}{L:LH}
theorem IR {f:FuncId}{args cap:Array Value}(he:CG P f=true)(h:Cal P ω f (args++cap) K I L):CalV P ω (.func (.func f) #[] cap) args K I L:=by
 unfold CalV;simp only [he,if_true];simpa using h
end
theorem CalV.to {P:Program}{ω:Om}{K:Value→M}{I:Imm}{L:LH}{x:Value}{args:Array Value}(L':LH)[hs:SubP L' L](h:CalV P ω x args K I L'):CalV P ω x args K I L:=by
 have key:∀w,St ω w I L→St ω w I L':=fun w hw=>by
  obtain ⟨R,hR⟩:=hs.sub;exact (hw.perm hR).drop (List.sublist_append_left L' R)
 match x,h with
 | .func (.func f) first cap,h=>
  simp only [CalV] at h ⊢;by_cases he:CG P f=true
  ·rw [if_pos he] at h ⊢;exact fun w hw=>h w (key w hw)
  ·rw [if_neg he] at h ⊢;cases hx:SG P f with
   |none=>rw [hx] at h;exact h.elim
   |some e=>
    rw [hx] at h;exact fun w hw=>h w (key w hw)
 | .func (.yield l) first cap,h=>exact fun w hw=>h w (key w hw)
abbrev Dl (n:Int):Obj:=.cells [.int .i64 n].toArray 3 (0,0)
abbrev doV (b1 b2:Nat):Value:=.func (.func 105) #[] #[AP b1,AP b2]
abbrev doO (b1 b2:Nat):Obj:=.cells [doV b1 b2].toArray 156 (0,0)
abbrev inV (bd bi:Nat):Value:=.func (.func 158) #[] #[AP bd,AP bi]
abbrev inO (bd bi:Nat):Obj:=.cells [inV bd bi].toArray 156 (0,0)
def mxI (a b:Int):Int:=if b > a then b else a
theorem AOP (a b:Int):mxI a b=max a b:=by unfold mxI;omega
section
variable {ω:Om}{K:Value→M}{I:Imm}{F:LH}
theorem ALC {b1 b2:Nat}{p d n:Int}{c:List Value}(hc:c.length=11)(hp:0≤p∧p≤1000000000000000000)(hk:K (.tuple #[]) I ((b1,Dl (p+1))::(b2,Dl (max d n))::F)):
  CW ω (doV b1 b2) #[.agg c.toArray,.int .i64 n] K I ((b1,Dl p)::(b2,Dl d)::F):=by
 refine IR (by kernel_rfl) ?_;refine AQi ?_;show AGT ω (.agg c.toArray) (.int .i64 n) (AP b1) (AP b2) _ I _;unfold AGT;refine Ad (fun b=>?_);rw [←AOP] at hk;unfold mxI at hk;repeat' (first|refine zqa ?_|refine zqh (fun _=>?_)|refine zqr ?_|refine zqb ?_|refine zqi ?_ ?_|refine zqc ?_|refine zqg (fun _=>?_) (fun _=>?_)|(simp only [SSd,Nat.reduceAdd,wrap_i64 (p+1) (by omega)]))
 exact Gh.to _ (Gh.done hk)
theorem XY {l:List Ex}{k:Nat}(h:k < l.length):AY (l.take (k+1))=AY (l.take k)+Aa l[k]:=by
 rw [List.take_succ_eq_append_getElem h,DV];simp [AY]
theorem GX:∀a b:List Ex,BX (a++b)=max (BX a) (BX b)
 |[],b=>by simp [BX]
 |x::a,b=>by simp only [List.cons_append,BX,GX a b];omega
theorem AAP {l:List Ex}{k:Nat}(h:k < l.length):BX (l.take (k+1))=max (BX (l.take k)) (DD l[k]):=by
 rw [List.take_succ_eq_append_getElem h,GX];simp [BX]
theorem FK (x:Ex):1≤DD x:=by cases x;simp [DD]
theorem UR (x:Ex):1≤Aa x:=by cases x;simp [Aa]
theorem OL {x:Ex}:∀{l:List Ex},x∈l→Aa x≤AY l
 |y::l,h=>by
  rcases List.mem_cons.1 h with rfl|h
  ·simp only [AY];omega
  ·have:=OL h;simp only [AY];omega
mutual
theorem SS:∀x:Ex,DD x≤Aa x
 | .mk _ _ _ _ _ _ _ l=>by simp only [DD,Aa];have:=Ox l;omega
theorem Ox:∀l:List Ex,BX l≤AY l
 |[]=>by simp [BX]
 |x::l=>by simp only [BX,AY];have:=SS x;have:=Ox l;omega
end
theorem ZY (x:Ex):Aa x=AY x.args+1:=by cases x;rfl
theorem Di (x:Ex):DD x=BX x.args+1:=by cases x;rfl
theorem ACk {b1 b2 bd bi:Nat}:∀(m:Nat) (x:Ex),Aa x≤m→∀(p d n:Int) (c:List Value) (K:Value→M) (I:Imm) (F:LH),ExV I x c→0≤p→p+Aa x≤1000000000000000000→0≤n→n+DD x≤1000000000000000000→
  K (.tuple #[]) I ((b1,Dl (p+Aa x))::(b2,Dl (max d (n+DD x - 1)))::(bd,doO b1 b2)::(bi,inO bd bi)::F)→
  CW ω (inV bd bi) #[.agg c.toArray,.int .i64 n] K I ((b1,Dl p)::(b2,Dl d)::(bd,doO b1 b2)::(bi,inO bd bi)::F)
 |0,x,hm,_,_,_,_,_,_,_,_,_,_,_,_,_=>by have:=UR x;omega
 |m+1,x,hm,p,d,n,c,K,I,F,hx,hp,hpx,hn,hnx,hk=>by
  refine IR (by kernel_rfl) ?_;refine APx ?_;show AGO ω (.agg c.toArray) (.int .i64 n) (AP bd) (AP bi) _ I _;have hcl:=hx.len;obtain ⟨v,rfl,ha⟩:=ExV.iff.1 hx;unfold AGO;refine Ad (fun b=>?_);try refine zqe ?_
  refine rdb ?_;refine rdB rfl ?_;refine FM ?_;refine CalV.to ((b1,Dl p)::(b2,Dl d)::(b,.cells (Aj x v).toArray 37 (0,0))::(bd,doO b1 b2)::(bi,inO bd bi)::F) ?_;refine ALC hcl ⟨hp,by omega⟩ ?_;try refine zqe ?_
  refine rdb ?_;simp only [RL.len ha,SSd,Nat.reduceAdd];have h1:=ZY x;have h2:=Di x;refine loop (fun q s I' L'=>∃k:Nat,k+q=x.args.length∧s=(.int .i64 k,())∧I'=I∧L'=(b1,Dl (p+1+AY (x.args.take k)))::(b2,Dl (max (max d n) (n+BX (x.args.take k))))::(b,.cells (Aj x v).toArray 37 (0,0))::(bd,doO b1 b2)::(bi,inO bd bi)::F) x.args.length ⟨0,by omega,rfl,rfl,by rw [show p+1+((AY (x.args.take 0):Nat):Int)=p+1 by simp [AY],show max (max d n) (n+((BX (x.args.take 0):Nat):Int))=max d n by simp only [List.take_zero,BX];omega]⟩ ?_;rintro q s I' L' ⟨k,hkq,rfl,rfl,rfl⟩;unfold ABd;try refine zqe ?_
  have hle:x.args.length≤AY x.args:=by
   generalize x.args=l;induction l with
   |nil=>simp
   |cons y l ih=>have:=UR y;simp only [AY,List.length_cons];omega
  refine AB (fun hb=>?_) (fun hb=>?_)
  ·have hb:k < x.args.length:=by
    have:=of_decide_eq_true hb;omega
   obtain ⟨bt,off,c1,g1,gl,g2,g3⟩:=RL.ix ha (i:=k) (by omega) (by omega);rw [Ah hb] at g2;have hcl1:=ExV.len g2;have hm1:=OL (List.getElem_mem hb);have hone:=ExV.one g2;simp only [g1,SSd,Nat.reduceAdd];refine Ed (g3 _ [] (Ext.refl _) (fun _ h=>h)) (Ext.refl _) hcl1 ?_;refine Ad (fun b3=>?_);refine stB hcl1 rfl hone ?_;refine rdb ?_;refine rdB hcl1 ?_;simp only [wrap_i64 (n+1) (by omega),SSd,Nat.reduceAdd];refine FM ?_;refine CalV.to ((b1,Dl (p+1+AY (x.args.take k)))::(b2,Dl (max (max d n) (n+BX (x.args.take k))))::(bd,doO b1 b2)::(bi,inO bd bi)::(b3,.cells c1.toArray 37 (0,0))::(b,.cells (Aj x v).toArray 37 (0,0))::F) ?_;have htk:=XY hb;have htd:=AAP hb;have hts:AY (x.args.take (k+1))≤AY x.args:=by
    have h:=DV (x.args.take (k+1)) (x.args.drop (k+1));rw [List.take_append_drop] at h;omega
   have hdl:DD x.args[k]≤BX x.args:=by
    have h:=GX (x.args.take (k+1)) (x.args.drop (k+1));rw [List.take_append_drop] at h;omega
   refine ACk m x.args[k] (by omega) _ _ (n+1) c1 _ _ _ g2 (by omega) (by omega) (by omega) (by omega) ?_;simp only [wrap_i64 ((k:Int)+1) (by omega),SSd,Nat.reduceAdd];rw [←show p+1+(AY (x.args.take (k+1)):Int)=p+1+AY (x.args.take k)+Aa x.args[k] by omega,←show max (max d n) (n+(BX (x.args.take (k+1)):Int))=max (max (max d n) (n+BX (x.args.take k))) (n+1+DD x.args[k] - 1) by omega];refine Gh.to ((b1,Dl (p+1+AY (x.args.take (k+1))))::(b2,Dl (max (max d n) (n+BX (x.args.take (k+1)))))::(b,.cells (Aj x v).toArray 37 (0,0))::(bd,doO b1 b2)::(bi,inO bd bi)::F) ?_;exact Gh.done ⟨q - 1,by omega,k+1,by omega,rfl,rfl,rfl⟩
  ·have hb:¬k < x.args.length:=by
    have:=of_decide_eq_false hb;omega
   have hkl:x.args.take k=x.args:=List.take_of_length_le (by omega);rw [hkl];rw [←show p+(Aa x:Int)=p+1+AY x.args by omega,←show max d (n+(DD x:Int) - 1)=max (max d n) (n+BX x.args) by omega];exact Gh.to ((b1,Dl (p+Aa x))::(b2,Dl (max d (n+DD x - 1)))::(bd,doO b1 b2)::(bi,inO bd bi)::F) (Gh.done hk)
end
def GL (I:Imm)(X:LH)(v:Value)(xs:List Ex):Prop:=∃cells,GrO I 37 11 X v cells xs.length∧Recs (ExV I) 11 xs cells
theorem GL.mono {I I':Imm}{X:LH}{v:Value}{xs:List Ex}(h:GL I X v xs)(hI:Ext I I'):GL I' X v xs:=by
 obtain ⟨cells,h1,h2⟩:=h;exact ⟨cells,h1.mono hI,Recs.imp (fun _ _ h=>ExV.mono hI h) h2⟩
theorem GL.rl {I:Imm}{X L:LH}{v:Value}{xs:List Ex}(h:GL I X v xs)(hL:∀x∈X,x∈L):RL ExV 11 I L v xs:=by
 obtain ⟨cells,h1,h2⟩:=h;obtain ⟨a,k,rfl,hle⟩:=h1.form;exact ⟨a,k,cells,rfl,hle,h1.news hL,h2⟩
section
variable {ω:Om}{K:Value→M}{I:Imm}{F:LH}
instance splitNil (L:LH):SplitL [] L L:=⟨List.Perm.refl _⟩
theorem IG {X L:LH}[SplitL X L F]{z:Array Value}{xs ys:List Ex}{s x:Value}(hz:z.size=11)(hG:GL I X s xs)(hy:ExL I x ys)(hb:xs.length+ys.length≤1000000000000)(hk:∀X' v',GL I X' v' (xs++ys)→K v' I (X'++F)):
  App 37 11 128 z s x (gh K) I L:=by
 obtain ⟨cells,h1,h2⟩:=hG;obtain ⟨c,s4,r4⟩:=RL.toI (by decide) hy;refine AQs (X:=X) hz h1 s4.news (Recs.one_cells (fun _ _ h=>ExV.one h) r4) (by omega) (by omega) (fun X' v' h=>hk X' v' ⟨_,by rw [List.length_append];exact h,Recs.append h2 r4⟩)
theorem TE {z:Array Value}{x:Ex}{c:List Value}(hx:ExV I x c)(hk:∀I' a,Ext I I'→ExL I' (.slice a 1 1) [x]→Gh (K (.slice a 1 1)) I' F):AX 37 11 z 1 [(0,.agg c.toArray)] (gh K) I F:=
 EP (R:=ExV) [x] [c] rfl rfl rfl (by simp [hx.len]) (by simpa using hx) (fun hI h=>ExV.mono hI h) hk
theorem AOf {X:LH}{vs w:Value}{p2 p4:Value}{ys:List TItem}{xs:List Ex}(hy:RL TItemV 14 I [] vs ys)(hG:GL I X w xs)(hb:xs.length+ys.length≤1000000000000)
  (hk:∀I' X' w',Ext I I'→GL I' X' w' (xs++ys.map fun y=>y.fExpr)→VX ω p2 p4 w' K I' (X'++F)):
  Am ((w,.int .i64 0,()):Value×Value×Unit) (fun s Kn=>VY ω p2 p4 vs (.int .i64 ys.length) s.1 s.2.1 Kn K) I (X++F):=by
 refine loop (fun q st I' L'=>∃k X' v',k+q=ys.length∧st=(v',.int .i64 (k:Nat),())∧Ext I I'∧GL I' X' v' (xs++(ys.take k).map fun y=>y.fExpr)∧L'=X'++F) ys.length ⟨0,X,w,by omega,rfl,Ext.refl _,by simpa using hG,rfl⟩ ?_;rintro q st I' L' ⟨k,X',v',hkq,rfl,hI',hG',rfl⟩;unfold VY;try refine zqe ?_
 refine AB (fun hb=>?_) (fun hb=>?_)
 ·have hb:k < ys.length:=by
   have:=of_decide_eq_true hb;omega
  obtain ⟨bt,off,c1,g1,gl,g2,g3⟩:=RL.ix hy (i:=k) (by omega) (by omega);rw [Ah hb] at g2;obtain ⟨v0,rfl,h0⟩:=g2.mono hI';simp only [g1,SSd,Nat.reduceAdd];refine Ed (g3 _ [] hI' (fun _ h=>h)) (Ext.refl _) rfl ?_;refine Ad (fun b3=>?_);obtain ⟨a0,k0,rfl⟩:=RL.form h0;refine stB rfl rfl (Au rfl) ?_;try refine zqe ?_
  refine rdP _ rfl rfl ?_;refine TE (x:=ys[k].fExpr) (ExV.iff.2 ⟨_,rfl,h0⟩) (fun I2 a2 hI2 hw2=>Gh.done ?_);refine IG (X:=X') rfl (hG'.mono hI2) hw2 (by simp;omega) (fun X3 w3 hG3=>?_);simp only [wrap_i64 ((k:Int)+1) (by omega),SSd,Nat.reduceAdd];refine Gh.to (X3++F) (Gh.done ⟨q - 1,by omega,k+1,X3,w3,by omega,rfl,Ext.trans hI' hI2,?_,rfl⟩);rw [List.take_succ_eq_append_getElem hb,List.map_append,←List.append_assoc];exact hG3
 ·have hb:¬k < ys.length:=by
   have:=of_decide_eq_false hb;omega
  rw [List.take_of_length_le (by omega)] at hG';exact hk I' X' v' hI' hG'
theorem AOe {X:LH}{vs w:Value}{p2 p4:Value}{ys:List TSource}{xs:List Ex}(hy:RL TSourceV 14 I [] vs ys)(hG:GL I X w xs)(hb:xs.length+ys.length≤1000000000000)
  (hk:∀I' X' w',Ext I I'→GL I' X' w' (xs++ys.map fun y=>y.fOn)→VV ω p2 p4 w' K I' (X'++F)):
  Am ((w,.int .i64 0,()):Value×Value×Unit) (fun s Kn=>VW ω p2 p4 vs (.int .i64 ys.length) s.1 s.2.1 Kn K) I (X++F):=by
 refine loop (fun q st I' L'=>∃k X' v',k+q=ys.length∧st=(v',.int .i64 (k:Nat),())∧Ext I I'∧GL I' X' v' (xs++(ys.take k).map fun y=>y.fOn)∧L'=X'++F) ys.length ⟨0,X,w,by omega,rfl,Ext.refl _,by simpa using hG,rfl⟩ ?_;rintro q st I' L' ⟨k,X',v',hkq,rfl,hI',hG',rfl⟩;unfold VW;try refine zqe ?_
 refine AB (fun hb=>?_) (fun hb=>?_)
 ·have hb:k < ys.length:=by
   have:=of_decide_eq_true hb;omega
  obtain ⟨bt,off,c1,g1,gl,g2,g3⟩:=RL.ix hy (i:=k) (by omega) (by omega);rw [Ah hb] at g2;obtain ⟨v0,rfl,h0⟩:=g2.mono hI';simp only [g1,SSd,Nat.reduceAdd];refine Ed (g3 _ [] hI' (fun _ h=>h)) (Ext.refl _) rfl ?_;refine Ad (fun b3=>?_);obtain ⟨a0,k0,rfl⟩:=RL.form h0;refine stB rfl rfl (Au rfl) ?_;try refine zqe ?_
  refine rdP _ rfl rfl ?_;refine TE (x:=ys[k].fOn) (ExV.iff.2 ⟨_,rfl,h0⟩) (fun I2 a2 hI2 hw2=>Gh.done ?_);refine IG (X:=X') rfl (hG'.mono hI2) hw2 (by simp;omega) (fun X3 w3 hG3=>?_);simp only [wrap_i64 ((k:Int)+1) (by omega),SSd,Nat.reduceAdd];refine Gh.to (X3++F) (Gh.done ⟨q - 1,by omega,k+1,X3,w3,by omega,rfl,Ext.trans hI' hI2,?_,rfl⟩);rw [List.take_succ_eq_append_getElem hb,List.map_append,←List.append_assoc];exact hG3
 ·have hb:¬k < ys.length:=by
   have:=of_decide_eq_false hb;omega
  rw [List.take_of_length_le (by omega)] at hG';exact hk I' X' v' hI' hG'
theorem AOd {X:LH}{vs w:Value}{p2 p4:Value}{ys:List TOrder}{xs:List Ex}(hy:RL TOrderV 12 I [] vs ys)(hG:GL I X w xs)(hb:xs.length+ys.length≤1000000000000)
  (hk:∀I' X' w',Ext I I'→GL I' X' w' (xs++ys.map fun y=>y.fExpr)→VT ω p2 p4 w' K I' (X'++F)):
  Am ((w,.int .i64 0,()):Value×Value×Unit) (fun s Kn=>VU ω p2 p4 vs (.int .i64 ys.length) s.1 s.2.1 Kn K) I (X++F):=by
 refine loop (fun q st I' L'=>∃k X' v',k+q=ys.length∧st=(v',.int .i64 (k:Nat),())∧Ext I I'∧GL I' X' v' (xs++(ys.take k).map fun y=>y.fExpr)∧L'=X'++F) ys.length ⟨0,X,w,by omega,rfl,Ext.refl _,by simpa using hG,rfl⟩ ?_;rintro q st I' L' ⟨k,X',v',hkq,rfl,hI',hG',rfl⟩;unfold VU;try refine zqe ?_
 refine AB (fun hb=>?_) (fun hb=>?_)
 ·have hb:k < ys.length:=by
   have:=of_decide_eq_true hb;omega
  obtain ⟨bt,off,c1,g1,gl,g2,g3⟩:=RL.ix hy (i:=k) (by omega) (by omega);rw [Ah hb] at g2;obtain ⟨v0,rfl,h0⟩:=g2.mono hI';simp only [g1,SSd,Nat.reduceAdd];refine Ed (g3 _ [] hI' (fun _ h=>h)) (Ext.refl _) rfl ?_;refine Ad (fun b3=>?_);obtain ⟨a0,k0,rfl⟩:=RL.form h0;refine stB rfl rfl (Au rfl) ?_;try refine zqe ?_
  refine rdP _ rfl rfl ?_;refine TE (x:=ys[k].fExpr) (ExV.iff.2 ⟨_,rfl,h0⟩) (fun I2 a2 hI2 hw2=>Gh.done ?_);refine IG (X:=X') rfl (hG'.mono hI2) hw2 (by simp;omega) (fun X3 w3 hG3=>?_);simp only [wrap_i64 ((k:Int)+1) (by omega),SSd,Nat.reduceAdd];refine Gh.to (X3++F) (Gh.done ⟨q - 1,by omega,k+1,X3,w3,by omega,rfl,Ext.trans hI' hI2,?_,rfl⟩);rw [List.take_succ_eq_append_getElem hb,List.map_append,←List.append_assoc];exact hG3
 ·have hb:¬k < ys.length:=by
   have:=of_decide_eq_false hb;omega
  rw [List.take_of_length_le (by omega)] at hG';exact hk I' X' v' hI' hG'
theorem ALA {X:LH}{vs w:Value}{p2 p4:Value}{ys:List TSet}{xs:List Ex}(hy:RL TSetV 12 I [] vs ys)(hG:GL I X w xs)(hb:xs.length+ys.length≤1000000000000)
  (hk:∀I' X' w',Ext I I'→GL I' X' w' (xs++ys.map fun y=>y.fExpr)→Qr ω p2 p4 w' K I' (X'++F)):
  Am ((w,.int .i64 0,()):Value×Value×Unit) (fun s Kn=>Qs ω p2 p4 vs (.int .i64 ys.length) s.1 s.2.1 Kn K) I (X++F):=by
 refine loop (fun q st I' L'=>∃k X' v',k+q=ys.length∧st=(v',.int .i64 (k:Nat),())∧Ext I I'∧GL I' X' v' (xs++(ys.take k).map fun y=>y.fExpr)∧L'=X'++F) ys.length ⟨0,X,w,by omega,rfl,Ext.refl _,by simpa using hG,rfl⟩ ?_;rintro q st I' L' ⟨k,X',v',hkq,rfl,hI',hG',rfl⟩;unfold Qs;try refine zqe ?_
 refine AB (fun hb=>?_) (fun hb=>?_)
 ·have hb:k < ys.length:=by
   have:=of_decide_eq_true hb;omega
  obtain ⟨bt,off,c1,g1,gl,g2,g3⟩:=RL.ix hy (i:=k) (by omega) (by omega);rw [Ah hb] at g2;obtain ⟨v0,rfl,h0⟩:=g2.mono hI';simp only [g1,SSd,Nat.reduceAdd];refine Ed (g3 _ [] hI' (fun _ h=>h)) (Ext.refl _) rfl ?_;refine Ad (fun b3=>?_);obtain ⟨a0,k0,rfl⟩:=RL.form h0;refine stB rfl rfl (Au rfl) ?_;try refine zqe ?_
  refine rdP _ rfl rfl ?_;refine TE (x:=ys[k].fExpr) (ExV.iff.2 ⟨_,rfl,h0⟩) (fun I2 a2 hI2 hw2=>Gh.done ?_);refine IG (X:=X') rfl (hG'.mono hI2) hw2 (by simp;omega) (fun X3 w3 hG3=>?_);simp only [wrap_i64 ((k:Int)+1) (by omega),SSd,Nat.reduceAdd];refine Gh.to (X3++F) (Gh.done ⟨q - 1,by omega,k+1,X3,w3,by omega,rfl,Ext.trans hI' hI2,?_,rfl⟩);rw [List.take_succ_eq_append_getElem hb,List.map_append,←List.append_assoc];exact hG3
 ·have hb:¬k < ys.length:=by
   have:=of_decide_eq_false hb;omega
  rw [List.take_of_length_le (by omega)] at hG';exact hk I' X' v' hI' hG'
theorem AKz {X:LH}{vs w:Value}{p4:Value}{ys:List TCol}{xs:List Ex}(hy:RL TColV 16 I [] vs ys)(hG:GL I X w xs)(hb:xs.length+ys.length≤1000000000000)
  (hk:∀I' X' w',Ext I I'→GL I' X' w' (xs++ys.map fun y=>y.fDefault)→NR ω p4 w' K I' (X'++F)):
  Am ((w,.int .i64 0,()):Value×Value×Unit) (fun s Kn=>Qq ω p4 vs (.int .i64 ys.length) s.1 s.2.1 Kn K) I (X++F):=by
 refine loop (fun q st I' L'=>∃k X' v',k+q=ys.length∧st=(v',.int .i64 (k:Nat),())∧Ext I I'∧GL I' X' v' (xs++(ys.take k).map fun y=>y.fDefault)∧L'=X'++F) ys.length ⟨0,X,w,by omega,rfl,Ext.refl _,by simpa using hG,rfl⟩ ?_;rintro q st I' L' ⟨k,X',v',hkq,rfl,hI',hG',rfl⟩;unfold Qq;try refine zqe ?_
 refine AB (fun hb=>?_) (fun hb=>?_)
 ·have hb:k < ys.length:=by
   have:=of_decide_eq_true hb;omega
  obtain ⟨bt,off,c1,g1,gl,g2,g3⟩:=RL.ix hy (i:=k) (by omega) (by omega);rw [Ah hb] at g2;obtain ⟨v0,rfl,h0⟩:=g2.mono hI';simp only [g1,SSd,Nat.reduceAdd];refine Ed (g3 _ [] hI' (fun _ h=>h)) (Ext.refl _) rfl ?_;refine Ad (fun b3=>?_);obtain ⟨a0,k0,rfl⟩:=RL.form h0;refine stB rfl rfl (Au rfl) ?_;try refine zqe ?_
  refine rdP _ rfl rfl ?_;refine TE (x:=ys[k].fDefault) (ExV.iff.2 ⟨_,rfl,h0⟩) (fun I2 a2 hI2 hw2=>Gh.done ?_);refine IG (X:=X') rfl (hG'.mono hI2) hw2 (by simp;omega) (fun X3 w3 hG3=>?_);simp only [wrap_i64 ((k:Int)+1) (by omega),SSd,Nat.reduceAdd];refine Gh.to (X3++F) (Gh.done ⟨q - 1,by omega,k+1,X3,w3,by omega,rfl,Ext.trans hI' hI2,?_,rfl⟩);rw [List.take_succ_eq_append_getElem hb,List.map_append,←List.append_assoc];exact hG3
 ·have hb:¬k < ys.length:=by
   have:=of_decide_eq_false hb;omega
  rw [List.take_of_length_le (by omega)] at hG';exact hk I' X' v' hI' hG'
theorem ALB {X:LH}{vs w:Value}{p2 p4:Value}{ys:List (List Ex)}{xs:List Ex}(hy:RL (Fh ExV 11) 1 I [] vs ys)(hyl:ys.length≤1000000000000)(hG:GL I X w xs)(hb:xs.length+ys.flatten.length≤1000000000000)
  (hk:∀I' X' w',Ext I I'→GL I' X' w' (xs++ys.flatten)→Qu ω p2 p4 w' K I' (X'++F)):
  Am ((w,.int .i64 0,()):Value×Value×Unit) (fun s Kn=>Qv ω p2 p4 vs (.int .i64 ys.length) s.1 s.2.1 Kn K) I (X++F):=by
 refine loop (fun q st I' L'=>∃k X' v',k+q=ys.length∧st=(v',.int .i64 (k:Nat),())∧Ext I I'∧GL I' X' v' (xs++(ys.take k).flatten)∧L'=X'++F) ys.length ⟨0,X,w,by omega,rfl,Ext.refl _,by simpa using hG,rfl⟩ ?_;rintro q st I' L' ⟨k,X',v',hkq,rfl,hI',hG',rfl⟩;unfold Qv;try refine zqe ?_
 refine AB (fun hb=>?_) (fun hb=>?_)
 ·have hb:k < ys.length:=by
   have:=of_decide_eq_true hb;omega
  obtain ⟨bt,off,c1,g1,gl,g2,g3⟩:=RL.ix hy (i:=k) (by omega) (by omega);rw [Ah hb] at g2;obtain ⟨v0,rfl,h0⟩:=LstX.mono g2 hI';simp only [g1,SSd,Nat.reduceAdd];refine rdC (g3 _ [] hI' (fun _ h=>h) 0 _ rfl) (Ext.refl _) ?_;have hfl:(ys.take (k+1)).flatten=(ys.take k).flatten++ys[k]:=by rw [List.take_succ_eq_append_getElem hb,List.flatten_append];simp only [List.flatten_cons,List.flatten_nil,List.append_nil]
  have hle:(ys.take (k+1)).flatten.length≤ys.flatten.length:=by
   have h:ys.flatten=(ys.take (k+1)).flatten++(ys.drop (k+1)).flatten:=by rw [←List.flatten_append,List.take_append_drop]
   rw [h,List.length_append];omega
  rw [hfl,List.length_append] at hle;refine IG (X:=X') rfl hG' h0 (by simp only [List.length_append];omega) (fun X3 w3 hG3=>?_);simp only [wrap_i64 ((k:Int)+1) (by omega),SSd,Nat.reduceAdd];refine Gh.to (X3++F) (Gh.done ⟨q - 1,by omega,k+1,X3,w3,by omega,rfl,hI',?_,rfl⟩);rw [hfl,←List.append_assoc];exact hG3
 ·have hb:¬k < ys.length:=by
   have:=of_decide_eq_false hb;omega
  rw [List.take_of_length_le (by omega)] at hG';exact hk I' X' v' hI' hG'
def CO (x:Ex):Bool:=x.kind != 0
def AJU (s:TStmt):List Ex:=[s.fWhere,s.fSelect.fWhere,s.fSelect.fHaving]++s.fSelect.fGroup++s.fSelect.fItems.map (fun y=>y.fExpr)++s.fSelect.fFrom.map (fun y=>y.fOn)++s.fSelect.fOrder.map (fun y=>y.fExpr)++s.fRows.flatten++s.fSets.map (fun y=>y.fExpr)++s.fCols.map (fun y=>y.fDefault)
theorem AAe (s:TStmt):AY ((AJU s).filter CO)=AY (GU s)∧BX ((AJU s).filter CO)=BX (GU s):=by
 have e:∀l:List Ex,l.filter (fun x=>x.kind != 0)=l.filter CO:=fun l=>rfl;have c:∀(x:Ex) (l:List Ex),x::l=[x]++l:=fun _ _=>rfl;simp only [GU,e,AJU];rw [c s.fWhere,c s.fSelect.fWhere [s.fSelect.fHaving],c s.fSelect.fWhere [_,_],c s.fSelect.fHaving [_]];simp only [List.filter_append,DV,GX];constructor
 ·omega
 ·ac_rfl
theorem AKy {X:LH}{y:Nat×Obj}{b1 b2 bd bi:Nat}{w:Value}{xs:List Ex}{p d:Int}(hG:GL I X w xs)(hp:0≤p)(hd:0≤d)(hpx:p+AY (xs.filter CO)≤100000000000000000)(hlen:xs.length≤1000000000000)
  (hk:Gh (K (.tuple #[])) I ((b1,Dl (p+AY (xs.filter CO)))::(b2,Dl (max d (BX (xs.filter CO))))::F)):
  NR ω (AP bi) w (fun v=>Gh (K v)) I (X++((bi,inO bd bi)::(bd,doO b1 b2)::y::(b1,Dl p)::(b2,Dl d)::F)):=by
 unfold NR;have hR:RL ExV 11 I X w xs:=hG.rl (fun _ h=>h);simp only [RL.len hR,SSd,Nat.reduceAdd];refine loop (fun q s I' L'=>∃k:Nat,k+q=xs.length∧s=(.int .i64 k,())∧I'=I∧L'=X++((bi,inO bd bi)::(bd,doO b1 b2)::y::(b1,Dl (p+AY ((xs.take k).filter CO)))::(b2,Dl (max d (BX ((xs.take k).filter CO))))::F)) xs.length ⟨0,by omega,rfl,rfl,by
  rw [show p+((AY ((xs.take 0).filter CO):Nat):Int)=p by simp [AY],show max d ((BX ((xs.take 0).filter CO):Nat):Int)=d by simp only [List.take_zero,List.filter_nil,BX];omega]⟩ ?_
 rintro q s I' L' ⟨k,hkq,rfl,rfl,rfl⟩;unfold XC;try refine zqe ?_
 refine AB (fun hb=>?_) (fun hb=>?_)
 ·have hb:k < xs.length:=by
   have:=of_decide_eq_true hb;omega
  obtain ⟨bt,off,c1,g1,gl,g2,g3⟩:=RL.ix hR (i:=k) (by omega) (by omega);rw [Ah hb] at g2;have hts:=List.take_succ_eq_append_getElem hb;have hple:AY ((xs.take (k+1)).filter CO)≤AY (xs.filter CO):=by
   have h:xs.filter CO=(xs.take (k+1)).filter CO++(xs.drop (k+1)).filter CO:=by rw [←List.filter_append,List.take_append_drop]
   rw [h,DV];omega
  have hstep:∀{Y:LH},SubP (X++((bi,inO bd bi)::(bd,doO b1 b2)::y::(b1,Dl (p+AY ((xs.take (k+1)).filter CO)))::(b2,Dl (max d (BX ((xs.take (k+1)).filter CO))))::F)) Y→NQ ω (.int .i64 k) (fun s'=>Gh fun I2 L2=>∃m',m' < q∧∃k:Nat,k+m'=xs.length∧s'=(.int .i64 k,())∧I2=I'∧L2=X++((bi,inO bd bi)::(bd,doO b1 b2)::y::(b1,Dl (p+AY ((xs.take k).filter CO)))::(b2,Dl (max d (BX ((xs.take k).filter CO))))::F)) (fun v=>Gh (K v)) I' Y:=by
   intro Y hY;unfold NQ;simp only [wrap_i64 ((k:Int)+1) (by omega),SSd,Nat.reduceAdd];exact Gh.to _ (Gh.done ⟨q - 1,by omega,k+1,by omega,rfl,rfl,rfl⟩)
  obtain ⟨v0,rfl,h0⟩:=ExV.iff.1 g2;simp only [g1,SSd,Nat.reduceAdd];refine rdN rfl (g3 _ _ (Ext.refl _) (fun x hx=>by simp [hx])) ?_;refine Ad (fun b3=>?_);obtain ⟨a0,k0,rfl⟩:=RL.form h0;refine stB rfl rfl (Au rfl) ?_;try refine zqe ?_
  refine rdb ?_;try refine zqe ?_
  refine AB (fun ht=>?_) (fun ht=>?_)
  ·have ht':CO xs[k]=true:=ht;rw [hts,List.filter_append,List.filter_cons_of_pos ht',List.filter_nil,DV,GX] at hstep;rw [hts,List.filter_append,List.filter_cons_of_pos ht',List.filter_nil,DV] at hple;simp only [AY,BX] at hstep hple;refine rdb ?_;refine rdB rfl ?_;refine FM ?_;refine CalV.to ((b1,Dl (p+AY ((xs.take k).filter CO)))::(b2,Dl (max d (BX ((xs.take k).filter CO))))::(bd,doO b1 b2)::(bi,inO bd bi)::(X++(y::F))) ?_;have hdp:=SS xs[k];have hdpos:=FK xs[k];refine ACk _ xs[k] (Nat.le_refl _) _ _ 1 _ _ _ _ g2 (by omega) (by omega) (by omega) (by omega) ?_;refine hstep ?_;rw [show p+((AY ((xs.take k).filter CO)+(Aa xs[k]+0):Nat):Int)=p+AY ((xs.take k).filter CO)+Aa xs[k] by omega,show max d ((max (BX ((xs.take k).filter CO)) (max (DD xs[k]) 0):Nat):Int)=max (max d (BX ((xs.take k).filter CO))) (1+DD xs[k] - 1) by omega];infer_instance
  ·have ht':¬CO xs[k]=true:=by
    intro h;rw [show (xs[k].kind != 0)=true from h] at ht;cases ht
   rw [hts,List.filter_append,List.filter_cons_of_neg ht',List.filter_nil,List.append_nil] at hstep;exact hstep inferInstance
 ·have hb:¬k < xs.length:=by
   have:=of_decide_eq_false hb;omega
  rw [List.take_of_length_le (by omega)];exact Gh.to _ hk
theorem AES {b1 b2:Nat}{p d:Int}{s:TStmt}{c:List Value}(hs:TStmtV I s c)(hcnt:cS s≤1000000000)(hp:0≤p)(hd:0≤d)(hpx:p+AY (GU s)≤100000000000000000)
  (hk:∀I',Ext I I'→K (.tuple #[]) I' ((b1,Dl (p+AY (GU s)))::(b2,Dl (max d (BX (GU s))))::F)):
  CT ω 104 #[.agg c.toArray,doV b1 b2] K I ((b1,Dl p)::(b2,Dl d)::F):=by
 obtain ⟨v0,v1,v2,v3,v4,v5,v6,v7,v8,v9,v10,v11,v12,rfl,h0,h1,h2,h3,h4,h5,h6,h7,h8,h9,h10,h11,h12⟩:=hs;obtain ⟨a0,k0,rfl⟩:=RL.form h0;obtain ⟨a1,k1,rfl⟩:=RL.form h1;obtain ⟨a2,k2,rfl⟩:=RL.form h2;obtain ⟨a3,k3,rfl⟩:=RL.form h3;obtain ⟨a4,k4,rfl⟩:=RL.form h4;obtain ⟨a5,k5,rfl⟩:=RL.form h5;obtain ⟨a7,k7,rfl⟩:=RL.form h7;obtain ⟨a8,k8,rfl⟩:=RL.form h8;obtain ⟨a9,k9,rfl⟩:=RL.form h9;obtain ⟨a10,k10,rfl⟩:=RL.form h10;simp only [cS,cQ] at hcnt;refine AQj ?_;unfold AMy;refine Ad (fun bs=>?_);refine Ad (o:=doO b1 b2) (fun bd=>?_);refine Ad (fun bi=>?_);refine st1 rfl ?_;try refine zqe ?_
 refine rdP _ rfl rfl ?_;refine rdP _ rfl rfl ?_;refine rdP _ rfl rfl ?_;refine EP (R:=ExV) [s.fWhere,s.fSelect.fWhere,s.fSelect.fHaving] [_,_,_] rfl rfl rfl (by simp) (by
  intro q hq;simp only [List.zip_cons_cons,List.zip_nil_right,List.mem_cons,List.not_mem_nil,or_false] at hq;rcases hq with rfl|rfl|rfl
  ·exact ExV.iff.2 ⟨_,rfl,h9⟩
  ·exact ExV.iff.2 ⟨_,rfl,h2⟩
  ·exact ExV.iff.2 ⟨_,rfl,h4⟩) (fun hI h=>ExV.mono hI h) (fun I1 aw hI1 hw1=>Gh.done ?_)
 obtain ⟨c1,s1,r1⟩:=RL.toI (by decide) hw1;have hG1:GL I1 [] (.slice aw 3 3) [s.fWhere,s.fSelect.fWhere,s.fSelect.fHaving]:=⟨c1,.inr ⟨rfl,⟨aw,rfl⟩,s1⟩,r1⟩;refine rdb ?_;refine IG (X:=[]) rfl hG1 (ExL.mono h3 hI1) zL (fun X2 w2 hG2=>?_);refine rdb ?_;simp only [RL.len h0,SSd,Nat.reduceAdd];refine AOf (X:=X2) (RL.mono (fun _ _ h=>TItemV.mono h hI1) h0 hI1 (fun _ h=>h)) hG2 zL (fun I3 X3 w3 hI3 hG3=>?_);unfold VX;try refine zqe ?_
 refine rdb ?_;try refine zqe ?_
 have hI13:=Ext.trans hI1 hI3;refine AOe (X:=X3) (RL.mono (fun _ _ h=>TSourceV.mono h hI13) h1 hI13 (fun _ h=>h)) hG3 (by simp only [List.length_append,List.length_cons,List.length_nil,List.length_map];omega) (fun I4 X4 w4 hI4 hG4=>?_);unfold VV;try refine zqe ?_
 refine rdb ?_;try refine zqe ?_
 have hI14:=Ext.trans hI13 hI4;refine AOd (X:=X4) (RL.mono (fun _ _ h=>TOrderV.mono h hI14) h5 hI14 (fun _ h=>h)) hG4 (by simp only [List.length_append,List.length_cons,List.length_nil,List.length_map];omega) (fun I5 X5 w5 hI5 hG5=>?_);unfold VT;try refine zqe ?_
 refine rdb ?_;try refine zqe ?_
 have hI15:=Ext.trans hI14 hI5;refine ALB (X:=X5) (RL.mono (fun _ _ h=>LstX.mono h hI15) h7 hI15 (fun _ h=>h)) (by omega) hG5 (by simp only [List.length_append,List.length_cons,List.length_nil,List.length_map];omega) (fun I6 X6 w6 hI6 hG6=>?_);unfold Qu;try refine zqe ?_
 refine rdb ?_;try refine zqe ?_
 have hI16:=Ext.trans hI15 hI6;refine ALA (X:=X6) (RL.mono (fun _ _ h=>TSetV.mono h hI16) h8 hI16 (fun _ h=>h)) hG6 (by simp only [List.length_append,List.length_cons,List.length_nil,List.length_map];omega) (fun I7 X7 w7 hI7 hG7=>?_);unfold Qr;try refine zqe ?_
 refine rdb ?_;try refine zqe ?_
 have hI17:=Ext.trans hI16 hI7;refine AKz (X:=X7) (RL.mono (fun _ _ h=>TColV.mono h hI17) h10 hI17 (fun _ h=>h)) hG7 (by simp only [List.length_append,List.length_cons,List.length_nil,List.length_map];omega) (fun I8 X8 w8 hI8 hG8=>?_);have hI18:=Ext.trans hI17 hI8;have hA:([s.fWhere,s.fSelect.fWhere,s.fSelect.fHaving]++s.fSelect.fGroup++s.fSelect.fItems.map (fun y=>y.fExpr)++s.fSelect.fFrom.map (fun y=>y.fOn)++s.fSelect.fOrder.map (fun y=>y.fExpr)++s.fRows.flatten++s.fSets.map (fun y=>y.fExpr)++s.fCols.map (fun y=>y.fDefault))=AJU s:=rfl;rw [hA] at hG8;have hlen:(AJU s).length≤1000000000000:=by simp only [←hA,List.length_append,List.length_cons,List.length_nil,List.length_map];omega
 obtain ⟨q1,q2⟩:=AAe s;refine AKy hG8 hp hd (by rw [q1];exact hpx) hlen ?_;rw [q1,q2];exact Gh.done (hk I8 hI18)
end
theorem Sz:∀(l:List Bs) (y:Bs),Ac (l++[y])=Ac l++((if l.isEmpty then [] else [44,32])++y)
 |[],y=>rfl
 |[x],y=>by simp [Ac]
 |x::z::l,y=>by
  have ih:=Sz (z::l) y;simp only [List.cons_append,Ac] at ih ⊢;rw [ih];simp
theorem YE:∀(a c:List Bs),(Ac a).length≤(Ac (a++c)).length
 |[],c=>Nat.zero_le _
 |[x],[]=>Nat.le_refl _
 |[x],z::c=>by simp [Ac]
 |x::z::a,c=>by
  have ih:=YE (z::a) c;simp only [List.cons_append,Ac,List.length_append] at ih ⊢;omega
theorem Eu {α:Type}{g:α→Bs}{xs:List α}{k:Nat}(h:k < xs.length):Ac ((xs.take (k+1)).map g)=Ac ((xs.take k).map g)++((if k=0 then [] else [44,32])++g xs[k]):=by
 rw [List.take_succ_eq_append_getElem h,List.map_append];rw [show List.map g [xs[k]]=[g xs[k]] from rfl,Sz];congr 2
 cases k with
 |zero=>simp
 |succ k=>
  have:((xs.take (k+1)).map g).isEmpty=false:=by
   cases xs with
   |nil=>simp at h
   |cons x xs=>rfl
  rw [if_neg (by rw [this];decide),if_neg (by omega)]
theorem GY {α:Type}(g:α→Bs)(xs:List α)(k:Nat):(Ac ((xs.take k).map g)).length≤(Ac (xs.map g)).length:=by
 have:=YE ((xs.take k).map g) ((xs.drop k).map g);rwa [←List.map_append,List.take_append_drop] at this
def FnW {α:Type}(ω:Om)(b:Nat)(w:Value)(F:LH)(fv:Value)(R:Imm→α→Value→Prop)(g:α→Bs)(xs:List α)(I0:Imm):Prop:=
 ∀x∈xs,∀(I:Imm) (X:LH) (l:Bs) (v:Value) (K:Value→M),Ext I0 I→StL I w wordsL→WrS b w X l→R I x v→(l++g x).length≤1000000000→(∀I' X',Ext I I'→WrS b w X' (l++g x)→K (.tuple #[]) I' (X'++F))→CW ω fv #[v] K I (X++F)
def IZ {α:Type}(R:Imm→α→List Value→Prop)(I:Imm)(x:α)(v:Value):Prop:=∃c,v= .agg c.toArray∧R I x c
def AJZ {α:Type}(R:Imm→α→List Value→Prop)(I:Imm)(x:α)(v:Value):Prop:=R I x [v]
theorem ZQ {I:Imm}{L:LH}{K:Value→M}{b n T:Nat}{l:List Value}(h:(b,Obj.cells l.toArray T (0,0))∈L)(hl:l.length=n)(hk:K (.agg l.toArray) I L):Rv none (AC n (.pointer (some ⟨b,0,none⟩))) K I L:=
 rdN hl (fun j u hu=>Cell.own h (by simpa using hu)) hk
section
variable {ω:Om}{I:Imm}{L F:LH}{K:Value→M}{b:Nat}{w:Value}{X:LH}{l:Bs}
theorem AEc {fv v:Value}{xs:List (Ex)}{g:Ex→Bs}(hxs:RL ExV 11 I [] v xs)(hw:StL I w wordsL)(hf:FnW ω b w F fv (IZ ExV) g xs I)(hxl:xs.length≤1000000000000)[hs:SplitL X L F](hW:WrS b w X l)(hn:(l++Ac (xs.map g)).length≤1000000000)
  (hk:∀I' X',Ext I I'→WrS b w X' (l++Ac (xs.map g))→K (.tuple #[]) I' (X'++F)):CT ω 206 #[AP b,v,fv] K I L:=by
 refine Cal.split X ?_;refine APQ ?_;unfold ALs;simp only [RL.len hxs,SSd,Nat.reduceAdd];refine loop (fun q st I' L'=>∃(k:Nat) (X':LH),k+q=xs.length∧st=(.int .i64 k,())∧Ext I I'∧L'=X'++F∧WrS b w X' (l++Ac ((xs.take k).map g))) xs.length ⟨0,X,by omega,rfl,Ext.refl _,rfl,by simpa [Ac] using hW⟩ ?_;rintro q st I' L' ⟨k,X',hkq,rfl,hI',rfl,hW'⟩;unfold ABL;try refine zqe ?_
 refine AB (fun hb=>?_) (fun hb=>?_)
 ·have hb:k < xs.length:=by
   have:=of_decide_eq_true hb;omega
  obtain ⟨bt,off,c1,g1,gl,g2,g3⟩:=RL.ix hxs (i:=k) (by omega) (by omega);rw [Ah hb] at g2;have g2o:=g2;have g2:=ExV.mono hI' g2;have hct:=Eu (g:=g) hb;have hcl:=GY g xs (k+1);rw [hct] at hcl;simp only [List.length_append] at hcl hn;simp only [g1,SSd,Nat.reduceAdd];have hone:=ExV.one g2;refine Ed (g3 _ [] hI' (fun _ h=>h)) (Ext.refl _) gl ?_;refine Ad (fun b3=>?_);refine stB gl rfl hone ?_;try refine zqe ?_
  have fin:∀(I2:Imm) (X2:LH) (l2:Bs) (Y:LH),Ext I I2→WrS b w X2 l2→l2++g xs[k]=l++Ac ((xs.take (k+1)).map g)→SubP (X2++((b3,.cells c1.toArray 37 (0,0))::F)) Y→PZ ω fv (AP b3) (.int .i64 k) (fun s'=>Gh fun I2 L2=>∃m',m' < q∧∃(k:Nat) (X':LH),k+m'=xs.length∧s'=(.int .i64 k,())∧Ext I I2∧L2=X'++F∧WrS b w X' (l++Ac ((xs.take k).map g))) (fun v=>Gh (K v)) I2 Y:=by
   intro I2 X2 l2 Y hI2 hW2 hl2 hY;unfold PZ;refine ZQ (l:=c1) (T:=37) (by obtain ⟨R,hR⟩:=hY.sub;exact hR.mem_iff.2 (by simp)) gl ?_;refine FM ?_;refine CalV.to (X2++F) (hs:=?_) ?_
   ·obtain ⟨R,hR⟩:=hY.sub;exact ⟨(b3,.cells c1.toArray 37 (0,0))::R,hR.trans (by rw [List.append_assoc,List.append_assoc];exact List.Perm.append_left X2 (by rw [List.cons_append];exact List.perm_middle.symm))⟩
   refine hf _ (List.getElem_mem hb) I2 X2 l2 _ _ hI2 (StL.mono hw hI2) hW2 ⟨c1,rfl,ExV.mono hI2 g2o⟩ (by rw [hl2,hct];simp only [List.length_append];omega) (fun I3 X3 hI3 hW3=>?_);simp only [wrap_i64 ((k:Int)+1) (by omega),SSd,Nat.reduceAdd];rw [hl2] at hW3;exact Gh.done ⟨q - 1,by omega,k+1,X3,by omega,rfl,Ext.trans hI2 hI3,rfl,hW3⟩
  refine AB (fun h0=>?_) (fun h0=>?_)
  ·have h0:k≠0:=by have:=of_decide_eq_true h0;omega
   rw [if_neg h0] at hct hcl;refine BN (X:=X') hW' (by simp only [List.length_append,List.length_cons,List.length_nil] at hcl ⊢;omega) (fun I2 X2 hI2 hW2=>?_);exact fin I2 X2 _ _ (Ext.trans hI' hI2) hW2 (by rw [hct];simp) inferInstance
  ·have h0:k=0:=by have:=of_decide_eq_false h0;omega
   rw [if_pos h0] at hct;exact fin I' X' _ _ hI' hW' (by rw [hct];simp) inferInstance
 ·have hb:¬k < xs.length:=by
   have:=of_decide_eq_false hb;omega
  rw [List.take_of_length_le (by omega)] at hW';exact Gh.done (hk I' X' hI' hW')
theorem AAX {fv v:Value}{xs:List (TSet)}{g:TSet→Bs}(hxs:RL TSetV 12 I [] v xs)(hw:StL I w wordsL)(hf:FnW ω b w F fv (IZ TSetV) g xs I)(hxl:xs.length≤1000000000000)[hs:SplitL X L F](hW:WrS b w X l)(hn:(l++Ac (xs.map g)).length≤1000000000)
  (hk:∀I' X',Ext I I'→WrS b w X' (l++Ac (xs.map g))→K (.tuple #[]) I' (X'++F)):CT ω 118 #[AP b,v,fv] K I L:=by
 refine Cal.split X ?_;refine AQb ?_;unfold AMs;simp only [RL.len hxs,SSd,Nat.reduceAdd];refine loop (fun q st I' L'=>∃(k:Nat) (X':LH),k+q=xs.length∧st=(.int .i64 k,())∧Ext I I'∧L'=X'++F∧WrS b w X' (l++Ac ((xs.take k).map g))) xs.length ⟨0,X,by omega,rfl,Ext.refl _,rfl,by simpa [Ac] using hW⟩ ?_;rintro q st I' L' ⟨k,X',hkq,rfl,hI',rfl,hW'⟩;unfold ABx;try refine zqe ?_
 refine AB (fun hb=>?_) (fun hb=>?_)
 ·have hb:k < xs.length:=by
   have:=of_decide_eq_true hb;omega
  obtain ⟨bt,off,c1,g1,gl,g2,g3⟩:=RL.ix hxs (i:=k) (by omega) (by omega);rw [Ah hb] at g2;have g2o:=g2;have g2:=g2.mono hI';have hct:=Eu (g:=g) hb;have hcl:=GY g xs (k+1);rw [hct] at hcl;simp only [List.length_append] at hcl hn;simp only [g1,SSd,Nat.reduceAdd];have hone:=TSetV.one g2;refine Ed (g3 _ [] hI' (fun _ h=>h)) (Ext.refl _) gl ?_;refine Ad (fun b3=>?_);refine stB gl rfl hone ?_;try refine zqe ?_
  have fin:∀(I2:Imm) (X2:LH) (l2:Bs) (Y:LH),Ext I I2→WrS b w X2 l2→l2++g xs[k]=l++Ac ((xs.take (k+1)).map g)→SubP (X2++((b3,.cells c1.toArray 99 (0,0))::F)) Y→QH ω fv (AP b3) (.int .i64 k) (fun s'=>Gh fun I2 L2=>∃m',m' < q∧∃(k:Nat) (X':LH),k+m'=xs.length∧s'=(.int .i64 k,())∧Ext I I2∧L2=X'++F∧WrS b w X' (l++Ac ((xs.take k).map g))) (fun v=>Gh (K v)) I2 Y:=by
   intro I2 X2 l2 Y hI2 hW2 hl2 hY;unfold QH;refine ZQ (l:=c1) (T:=99) (by obtain ⟨R,hR⟩:=hY.sub;exact hR.mem_iff.2 (by simp)) gl ?_;refine FM ?_;refine CalV.to (X2++F) (hs:=?_) ?_
   ·obtain ⟨R,hR⟩:=hY.sub;exact ⟨(b3,.cells c1.toArray 99 (0,0))::R,hR.trans (by rw [List.append_assoc,List.append_assoc];exact List.Perm.append_left X2 (by rw [List.cons_append];exact List.perm_middle.symm))⟩
   refine hf _ (List.getElem_mem hb) I2 X2 l2 _ _ hI2 (StL.mono hw hI2) hW2 ⟨c1,rfl,g2o.mono hI2⟩ (by rw [hl2,hct];simp only [List.length_append];omega) (fun I3 X3 hI3 hW3=>?_);simp only [wrap_i64 ((k:Int)+1) (by omega),SSd,Nat.reduceAdd];rw [hl2] at hW3;exact Gh.done ⟨q - 1,by omega,k+1,X3,by omega,rfl,Ext.trans hI2 hI3,rfl,hW3⟩
  refine AB (fun h0=>?_) (fun h0=>?_)
  ·have h0:k≠0:=by have:=of_decide_eq_true h0;omega
   rw [if_neg h0] at hct hcl;refine BN (X:=X') hW' (by simp only [List.length_append,List.length_cons,List.length_nil] at hcl ⊢;omega) (fun I2 X2 hI2 hW2=>?_);exact fin I2 X2 _ _ (Ext.trans hI' hI2) hW2 (by rw [hct];simp) inferInstance
  ·have h0:k=0:=by have:=of_decide_eq_false h0;omega
   rw [if_pos h0] at hct;exact fin I' X' _ _ hI' hW' (by rw [hct];simp) inferInstance
 ·have hb:¬k < xs.length:=by
   have:=of_decide_eq_false hb;omega
  rw [List.take_of_length_le (by omega)] at hW';exact Gh.done (hk I' X' hI' hW')
theorem YD {fv v:Value}{xs:List (TItem)}{g:TItem→Bs}(hxs:RL TItemV 14 I [] v xs)(hw:StL I w wordsL)(hf:FnW ω b w F fv (IZ TItemV) g xs I)(hxl:xs.length≤1000000000000)[hs:SplitL X L F](hW:WrS b w X l)(hn:(l++Ac (xs.map g)).length≤1000000000)
  (hk:∀I' X',Ext I I'→WrS b w X' (l++Ac (xs.map g))→K (.tuple #[]) I' (X'++F)):CT ω 164 #[AP b,v,fv] K I L:=by
 refine Cal.split X ?_;refine APw ?_;unfold AMT;simp only [RL.len hxs,SSd,Nat.reduceAdd];refine loop (fun q st I' L'=>∃(k:Nat) (X':LH),k+q=xs.length∧st=(.int .i64 k,())∧Ext I I'∧L'=X'++F∧WrS b w X' (l++Ac ((xs.take k).map g))) xs.length ⟨0,X,by omega,rfl,Ext.refl _,rfl,by simpa [Ac] using hW⟩ ?_;rintro q st I' L' ⟨k,X',hkq,rfl,hI',rfl,hW'⟩;unfold ABc;try refine zqe ?_
 refine AB (fun hb=>?_) (fun hb=>?_)
 ·have hb:k < xs.length:=by
   have:=of_decide_eq_true hb;omega
  obtain ⟨bt,off,c1,g1,gl,g2,g3⟩:=RL.ix hxs (i:=k) (by omega) (by omega);rw [Ah hb] at g2;have g2o:=g2;have g2:=g2.mono hI';have hct:=Eu (g:=g) hb;have hcl:=GY g xs (k+1);rw [hct] at hcl;simp only [List.length_append] at hcl hn;simp only [g1,SSd,Nat.reduceAdd];have hone:=TItemV.one g2;refine Ed (g3 _ [] hI' (fun _ h=>h)) (Ext.refl _) gl ?_;refine Ad (fun b3=>?_);refine stB gl rfl hone ?_;try refine zqe ?_
  have fin:∀(I2:Imm) (X2:LH) (l2:Bs) (Y:LH),Ext I I2→WrS b w X2 l2→l2++g xs[k]=l++Ac ((xs.take (k+1)).map g)→SubP (X2++((b3,.cells c1.toArray 119 (0,0))::F)) Y→Pq ω fv (AP b3) (.int .i64 k) (fun s'=>Gh fun I2 L2=>∃m',m' < q∧∃(k:Nat) (X':LH),k+m'=xs.length∧s'=(.int .i64 k,())∧Ext I I2∧L2=X'++F∧WrS b w X' (l++Ac ((xs.take k).map g))) (fun v=>Gh (K v)) I2 Y:=by
   intro I2 X2 l2 Y hI2 hW2 hl2 hY;unfold Pq;refine ZQ (l:=c1) (T:=119) (by obtain ⟨R,hR⟩:=hY.sub;exact hR.mem_iff.2 (by simp)) gl ?_;refine FM ?_;refine CalV.to (X2++F) (hs:=?_) ?_
   ·obtain ⟨R,hR⟩:=hY.sub;exact ⟨(b3,.cells c1.toArray 119 (0,0))::R,hR.trans (by rw [List.append_assoc,List.append_assoc];exact List.Perm.append_left X2 (by rw [List.cons_append];exact List.perm_middle.symm))⟩
   refine hf _ (List.getElem_mem hb) I2 X2 l2 _ _ hI2 (StL.mono hw hI2) hW2 ⟨c1,rfl,g2o.mono hI2⟩ (by rw [hl2,hct];simp only [List.length_append];omega) (fun I3 X3 hI3 hW3=>?_);simp only [wrap_i64 ((k:Int)+1) (by omega),SSd,Nat.reduceAdd];rw [hl2] at hW3;exact Gh.done ⟨q - 1,by omega,k+1,X3,by omega,rfl,Ext.trans hI2 hI3,rfl,hW3⟩
  refine AB (fun h0=>?_) (fun h0=>?_)
  ·have h0:k≠0:=by have:=of_decide_eq_true h0;omega
   rw [if_neg h0] at hct hcl;refine BN (X:=X') hW' (by simp only [List.length_append,List.length_cons,List.length_nil] at hcl ⊢;omega) (fun I2 X2 hI2 hW2=>?_);exact fin I2 X2 _ _ (Ext.trans hI' hI2) hW2 (by rw [hct];simp) inferInstance
  ·have h0:k=0:=by have:=of_decide_eq_false h0;omega
   rw [if_pos h0] at hct;exact fin I' X' _ _ hI' hW' (by rw [hct];simp) inferInstance
 ·have hb:¬k < xs.length:=by
   have:=of_decide_eq_false hb;omega
  rw [List.take_of_length_le (by omega)] at hW';exact Gh.done (hk I' X' hI' hW')
theorem WC {fv v:Value}{xs:List (TOrder)}{g:TOrder→Bs}(hxs:RL TOrderV 12 I [] v xs)(hw:StL I w wordsL)(hf:FnW ω b w F fv (IZ TOrderV) g xs I)(hxl:xs.length≤1000000000000)[hs:SplitL X L F](hW:WrS b w X l)(hn:(l++Ac (xs.map g)).length≤1000000000)
  (hk:∀I' X',Ext I I'→WrS b w X' (l++Ac (xs.map g))→K (.tuple #[]) I' (X'++F)):CT ω 169 #[AP b,v,fv] K I L:=by
 refine Cal.split X ?_;refine APr ?_;unfold AMP;simp only [RL.len hxs,SSd,Nat.reduceAdd];refine loop (fun q st I' L'=>∃(k:Nat) (X':LH),k+q=xs.length∧st=(.int .i64 k,())∧Ext I I'∧L'=X'++F∧WrS b w X' (l++Ac ((xs.take k).map g))) xs.length ⟨0,X,by omega,rfl,Ext.refl _,rfl,by simpa [Ac] using hW⟩ ?_;rintro q st I' L' ⟨k,X',hkq,rfl,hI',rfl,hW'⟩;unfold ABa;try refine zqe ?_
 refine AB (fun hb=>?_) (fun hb=>?_)
 ·have hb:k < xs.length:=by
   have:=of_decide_eq_true hb;omega
  obtain ⟨bt,off,c1,g1,gl,g2,g3⟩:=RL.ix hxs (i:=k) (by omega) (by omega);rw [Ah hb] at g2;have g2o:=g2;have g2:=g2.mono hI';have hct:=Eu (g:=g) hb;have hcl:=GY g xs (k+1);rw [hct] at hcl;simp only [List.length_append] at hcl hn;simp only [g1,SSd,Nat.reduceAdd];have hone:=TOrderV.one g2;refine Ed (g3 _ [] hI' (fun _ h=>h)) (Ext.refl _) gl ?_;refine Ad (fun b3=>?_);refine stB gl rfl hone ?_;try refine zqe ?_
  have fin:∀(I2:Imm) (X2:LH) (l2:Bs) (Y:LH),Ext I I2→WrS b w X2 l2→l2++g xs[k]=l++Ac ((xs.take (k+1)).map g)→SubP (X2++((b3,.cells c1.toArray 127 (0,0))::F)) Y→Pm ω fv (AP b3) (.int .i64 k) (fun s'=>Gh fun I2 L2=>∃m',m' < q∧∃(k:Nat) (X':LH),k+m'=xs.length∧s'=(.int .i64 k,())∧Ext I I2∧L2=X'++F∧WrS b w X' (l++Ac ((xs.take k).map g))) (fun v=>Gh (K v)) I2 Y:=by
   intro I2 X2 l2 Y hI2 hW2 hl2 hY;unfold Pm;refine ZQ (l:=c1) (T:=127) (by obtain ⟨R,hR⟩:=hY.sub;exact hR.mem_iff.2 (by simp)) gl ?_;refine FM ?_;refine CalV.to (X2++F) (hs:=?_) ?_
   ·obtain ⟨R,hR⟩:=hY.sub;exact ⟨(b3,.cells c1.toArray 127 (0,0))::R,hR.trans (by rw [List.append_assoc,List.append_assoc];exact List.Perm.append_left X2 (by rw [List.cons_append];exact List.perm_middle.symm))⟩
   refine hf _ (List.getElem_mem hb) I2 X2 l2 _ _ hI2 (StL.mono hw hI2) hW2 ⟨c1,rfl,g2o.mono hI2⟩ (by rw [hl2,hct];simp only [List.length_append];omega) (fun I3 X3 hI3 hW3=>?_);simp only [wrap_i64 ((k:Int)+1) (by omega),SSd,Nat.reduceAdd];rw [hl2] at hW3;exact Gh.done ⟨q - 1,by omega,k+1,X3,by omega,rfl,Ext.trans hI2 hI3,rfl,hW3⟩
  refine AB (fun h0=>?_) (fun h0=>?_)
  ·have h0:k≠0:=by have:=of_decide_eq_true h0;omega
   rw [if_neg h0] at hct hcl;refine BN (X:=X') hW' (by simp only [List.length_append,List.length_cons,List.length_nil] at hcl ⊢;omega) (fun I2 X2 hI2 hW2=>?_);exact fin I2 X2 _ _ (Ext.trans hI' hI2) hW2 (by rw [hct];simp) inferInstance
  ·have h0:k=0:=by have:=of_decide_eq_false h0;omega
   rw [if_pos h0] at hct;exact fin I' X' _ _ hI' hW' (by rw [hct];simp) inferInstance
 ·have hb:¬k < xs.length:=by
   have:=of_decide_eq_false hb;omega
  rw [List.take_of_length_le (by omega)] at hW';exact Gh.done (hk I' X' hI' hW')
theorem AAZ {fv v:Value}{xs:List (TCol)}{g:TCol→Bs}(hxs:RL TColV 16 I [] v xs)(hw:StL I w wordsL)(hf:FnW ω b w F fv (IZ TColV) g xs I)(hxl:xs.length≤1000000000000)[hs:SplitL X L F](hW:WrS b w X l)(hn:(l++Ac (xs.map g)).length≤1000000000)
  (hk:∀I' X',Ext I I'→WrS b w X' (l++Ac (xs.map g))→K (.tuple #[]) I' (X'++F)):CT ω 180 #[AP b,v,fv] K I L:=by
 refine Cal.split X ?_;refine APi ?_;unfold AMH;simp only [RL.len hxs,SSd,Nat.reduceAdd];refine loop (fun q st I' L'=>∃(k:Nat) (X':LH),k+q=xs.length∧st=(.int .i64 k,())∧Ext I I'∧L'=X'++F∧WrS b w X' (l++Ac ((xs.take k).map g))) xs.length ⟨0,X,by omega,rfl,Ext.refl _,rfl,by simpa [Ac] using hW⟩ ?_;rintro q st I' L' ⟨k,X',hkq,rfl,hI',rfl,hW'⟩;unfold ABV;try refine zqe ?_
 refine AB (fun hb=>?_) (fun hb=>?_)
 ·have hb:k < xs.length:=by
   have:=of_decide_eq_true hb;omega
  obtain ⟨bt,off,c1,g1,gl,g2,g3⟩:=RL.ix hxs (i:=k) (by omega) (by omega);rw [Ah hb] at g2;have g2o:=g2;have g2:=g2.mono hI';have hct:=Eu (g:=g) hb;have hcl:=GY g xs (k+1);rw [hct] at hcl;simp only [List.length_append] at hcl hn;simp only [g1,SSd,Nat.reduceAdd];have hone:=TColV.one g2;refine Ed (g3 _ [] hI' (fun _ h=>h)) (Ext.refl _) gl ?_;refine Ad (fun b3=>?_);refine stB gl rfl hone ?_;try refine zqe ?_
  have fin:∀(I2:Imm) (X2:LH) (l2:Bs) (Y:LH),Ext I I2→WrS b w X2 l2→l2++g xs[k]=l++Ac ((xs.take (k+1)).map g)→SubP (X2++((b3,.cells c1.toArray 101 (0,0))::F)) Y→Ph ω fv (AP b3) (.int .i64 k) (fun s'=>Gh fun I2 L2=>∃m',m' < q∧∃(k:Nat) (X':LH),k+m'=xs.length∧s'=(.int .i64 k,())∧Ext I I2∧L2=X'++F∧WrS b w X' (l++Ac ((xs.take k).map g))) (fun v=>Gh (K v)) I2 Y:=by
   intro I2 X2 l2 Y hI2 hW2 hl2 hY;unfold Ph;refine ZQ (l:=c1) (T:=101) (by obtain ⟨R,hR⟩:=hY.sub;exact hR.mem_iff.2 (by simp)) gl ?_;refine FM ?_;refine CalV.to (X2++F) (hs:=?_) ?_
   ·obtain ⟨R,hR⟩:=hY.sub;exact ⟨(b3,.cells c1.toArray 101 (0,0))::R,hR.trans (by rw [List.append_assoc,List.append_assoc];exact List.Perm.append_left X2 (by rw [List.cons_append];exact List.perm_middle.symm))⟩
   refine hf _ (List.getElem_mem hb) I2 X2 l2 _ _ hI2 (StL.mono hw hI2) hW2 ⟨c1,rfl,g2o.mono hI2⟩ (by rw [hl2,hct];simp only [List.length_append];omega) (fun I3 X3 hI3 hW3=>?_);simp only [wrap_i64 ((k:Int)+1) (by omega),SSd,Nat.reduceAdd];rw [hl2] at hW3;exact Gh.done ⟨q - 1,by omega,k+1,X3,by omega,rfl,Ext.trans hI2 hI3,rfl,hW3⟩
  refine AB (fun h0=>?_) (fun h0=>?_)
  ·have h0:k≠0:=by have:=of_decide_eq_true h0;omega
   rw [if_neg h0] at hct hcl;refine BN (X:=X') hW' (by simp only [List.length_append,List.length_cons,List.length_nil] at hcl ⊢;omega) (fun I2 X2 hI2 hW2=>?_);exact fin I2 X2 _ _ (Ext.trans hI' hI2) hW2 (by rw [hct];simp) inferInstance
  ·have h0:k=0:=by have:=of_decide_eq_false h0;omega
   rw [if_pos h0] at hct;exact fin I' X' _ _ hI' hW' (by rw [hct];simp) inferInstance
 ·have hb:¬k < xs.length:=by
   have:=of_decide_eq_false hb;omega
  rw [List.take_of_length_le (by omega)] at hW';exact Gh.done (hk I' X' hI' hW')
theorem AAW {fv v:Value}{xs:List (Bs)}{g:Bs→Bs}(hxs:RL StrV 1 I [] v xs)(hw:StL I w wordsL)(hf:FnW ω b w F fv (AJZ StrV) g xs I)(hxl:xs.length≤1000000000000)[hs:SplitL X L F](hW:WrS b w X l)(hn:(l++Ac (xs.map g)).length≤1000000000)
  (hk:∀I' X',Ext I I'→WrS b w X' (l++Ac (xs.map g))→K (.tuple #[]) I' (X'++F)):CT ω 174 #[AP b,v,fv] K I L:=by
 refine Cal.split X ?_;refine APo ?_;unfold AMN;simp only [RL.len hxs,SSd,Nat.reduceAdd];refine loop (fun q st I' L'=>∃(k:Nat) (X':LH),k+q=xs.length∧st=(.int .i64 k,())∧Ext I I'∧L'=X'++F∧WrS b w X' (l++Ac ((xs.take k).map g))) xs.length ⟨0,X,by omega,rfl,Ext.refl _,rfl,by simpa [Ac] using hW⟩ ?_;rintro q st I' L' ⟨k,X',hkq,rfl,hI',rfl,hW'⟩;unfold ABZ;try refine zqe ?_
 refine AB (fun hb=>?_) (fun hb=>?_)
 ·have hb:k < xs.length:=by
   have:=of_decide_eq_true hb;omega
  obtain ⟨bt,off,c1,g1,gl,g2,g3⟩:=RL.ix hxs (i:=k) (by omega) (by omega);rw [Ah hb] at g2;have g2o:=g2;have g2:=g2;have hct:=Eu (g:=g) hb;have hcl:=GY g xs (k+1);rw [hct] at hcl;simp only [List.length_append] at hcl hn;simp only [g1,SSd,Nat.reduceAdd];obtain ⟨u,rfl⟩:∃u,c1=[u]:=by match c1,gl with|[u],_=>exact ⟨u,rfl⟩
  refine rdC (g3 _ [] hI' (fun _ h=>h) 0 _ rfl) (Ext.refl _) ?_;try refine zqe ?_
  have fin:∀(I2:Imm) (X2:LH) (l2:Bs) (Y:LH),Ext I I2→WrS b w X2 l2→l2++g xs[k]=l++Ac ((xs.take (k+1)).map g)→SubP (X2++F) Y→Pj ω fv u (.int .i64 k) (fun s'=>Gh fun I2 L2=>∃m',m' < q∧∃(k:Nat) (X':LH),k+m'=xs.length∧s'=(.int .i64 k,())∧Ext I I2∧L2=X'++F∧WrS b w X' (l++Ac ((xs.take k).map g))) (fun v=>Gh (K v)) I2 Y:=by
   intro I2 X2 l2 Y hI2 hW2 hl2 hY;unfold Pj;refine FM ?_;refine CalV.to (X2++F) (hs:=?_) ?_
   ·obtain ⟨R,hR⟩:=hY.sub;exact ⟨R,hR⟩
   refine hf _ (List.getElem_mem hb) I2 X2 l2 _ _ hI2 (StL.mono hw hI2) hW2 (show StrV _ _ _ from g2o) (by rw [hl2,hct];simp only [List.length_append];omega) (fun I3 X3 hI3 hW3=>?_);simp only [wrap_i64 ((k:Int)+1) (by omega),SSd,Nat.reduceAdd];rw [hl2] at hW3;exact Gh.done ⟨q - 1,by omega,k+1,X3,by omega,rfl,Ext.trans hI2 hI3,rfl,hW3⟩
  refine AB (fun h0=>?_) (fun h0=>?_)
  ·have h0:k≠0:=by have:=of_decide_eq_true h0;omega
   rw [if_neg h0] at hct hcl;refine BN (X:=X') hW' (by simp only [List.length_append,List.length_cons,List.length_nil] at hcl ⊢;omega) (fun I2 X2 hI2 hW2=>?_);exact fin I2 X2 _ _ (Ext.trans hI' hI2) hW2 (by rw [hct];simp) inferInstance
  ·have h0:k=0:=by have:=of_decide_eq_false h0;omega
   rw [if_pos h0] at hct;exact fin I' X' _ _ hI' hW' (by rw [hct];simp) inferInstance
 ·have hb:¬k < xs.length:=by
   have:=of_decide_eq_false hb;omega
  rw [List.take_of_length_le (by omega)] at hW';exact Gh.done (hk I' X' hI' hW')
theorem AAY {fv v:Value}{xs:List (List Ex)}{g:List Ex→Bs}(hxs:RL (Fh ExV 11) 1 I [] v xs)(hw:StL I w wordsL)(hf:FnW ω b w F fv (AJZ (Fh ExV 11)) g xs I)(hxl:xs.length≤1000000000000)[hs:SplitL X L F](hW:WrS b w X l)(hn:(l++Ac (xs.map g)).length≤1000000000)
  (hk:∀I' X',Ext I I'→WrS b w X' (l++Ac (xs.map g))→K (.tuple #[]) I' (X'++F)):CT ω 116 #[AP b,v,fv] K I L:=by
 refine Cal.split X ?_;refine AQd ?_;unfold AMu;simp only [RL.len hxs,SSd,Nat.reduceAdd];refine loop (fun q st I' L'=>∃(k:Nat) (X':LH),k+q=xs.length∧st=(.int .i64 k,())∧Ext I I'∧L'=X'++F∧WrS b w X' (l++Ac ((xs.take k).map g))) xs.length ⟨0,X,by omega,rfl,Ext.refl _,rfl,by simpa [Ac] using hW⟩ ?_;rintro q st I' L' ⟨k,X',hkq,rfl,hI',rfl,hW'⟩;unfold ABy;try refine zqe ?_
 refine AB (fun hb=>?_) (fun hb=>?_)
 ·have hb:k < xs.length:=by
   have:=of_decide_eq_true hb;omega
  obtain ⟨bt,off,c1,g1,gl,g2,g3⟩:=RL.ix hxs (i:=k) (by omega) (by omega);rw [Ah hb] at g2;have g2o:=g2;have g2:=LstX.mono g2 hI';have hct:=Eu (g:=g) hb;have hcl:=GY g xs (k+1);rw [hct] at hcl;simp only [List.length_append] at hcl hn;simp only [g1,SSd,Nat.reduceAdd];obtain ⟨u,rfl⟩:∃u,c1=[u]:=by match c1,gl with|[u],_=>exact ⟨u,rfl⟩
  refine rdC (g3 _ [] hI' (fun _ h=>h) 0 _ rfl) (Ext.refl _) ?_;try refine zqe ?_
  have fin:∀(I2:Imm) (X2:LH) (l2:Bs) (Y:LH),Ext I I2→WrS b w X2 l2→l2++g xs[k]=l++Ac ((xs.take (k+1)).map g)→SubP (X2++F) Y→QI ω fv u (.int .i64 k) (fun s'=>Gh fun I2 L2=>∃m',m' < q∧∃(k:Nat) (X':LH),k+m'=xs.length∧s'=(.int .i64 k,())∧Ext I I2∧L2=X'++F∧WrS b w X' (l++Ac ((xs.take k).map g))) (fun v=>Gh (K v)) I2 Y:=by
   intro I2 X2 l2 Y hI2 hW2 hl2 hY;unfold QI;refine FM ?_;refine CalV.to (X2++F) (hs:=?_) ?_
   ·obtain ⟨R,hR⟩:=hY.sub;exact ⟨R,hR⟩
   refine hf _ (List.getElem_mem hb) I2 X2 l2 _ _ hI2 (StL.mono hw hI2) hW2 (show (Fh ExV 11) _ _ _ from LstX.mono g2o hI2) (by rw [hl2,hct];simp only [List.length_append];omega) (fun I3 X3 hI3 hW3=>?_);simp only [wrap_i64 ((k:Int)+1) (by omega),SSd,Nat.reduceAdd];rw [hl2] at hW3;exact Gh.done ⟨q - 1,by omega,k+1,X3,by omega,rfl,Ext.trans hI2 hI3,rfl,hW3⟩
  refine AB (fun h0=>?_) (fun h0=>?_)
  ·have h0:k≠0:=by have:=of_decide_eq_true h0;omega
   rw [if_neg h0] at hct hcl;refine BN (X:=X') hW' (by simp only [List.length_append,List.length_cons,List.length_nil] at hcl ⊢;omega) (fun I2 X2 hI2 hW2=>?_);exact fin I2 X2 _ _ (Ext.trans hI' hI2) hW2 (by rw [hct];simp) inferInstance
  ·have h0:k=0:=by have:=of_decide_eq_false h0;omega
   rw [if_pos h0] at hct;exact fin I' X' _ _ hI' hW' (by rw [hct];simp) inferInstance
 ·have hb:¬k < xs.length:=by
   have:=of_decide_eq_false hb;omega
  rw [List.take_of_length_le (by omega)] at hW';exact Gh.done (hk I' X' hI' hW')
end
theorem Ee {x:Ex}:∀{l:List Ex},x∈l→DD x≤BX l
 |y::l,h=>by
  rcases List.mem_cons.1 h with rfl|h
  ·simp only [BX];omega
  ·have:=Ee h;simp only [BX];omega
theorem SI (b:Bool):∀(n:Nat) (x:Ex) (k:Int),DD x≤n→∀m,DD x≤m→IJ b n x k=IJ b m x k
 |0,x,k,h,_,_=>by have:=FK x;omega
 |n+1,x,k,h,0,h'=>by have:=FK x;omega
 |n+1,x,k,h,m+1,h'=>by
  simp only [IJ];congr 2
  funext i lv
  cases hx:x.args[i]? with
  |none=>rfl
  |some y=>
   have hm:=Ee (List.mem_of_getElem? hx);have:=Di x;exact SI b n y lv (by omega) m (by omega)
def Bj (b:Bool)(x:Ex)(i:Nat)(k:Int):Bs:=match x.args[i]? with
 |some y=>exB b y k
 |none=>[63]
theorem AOc (b:Bool)(x:Ex)(k:Int):exB b x k=Xd (decide (TS x.kind < k)) (BB b x (Bj b x)):=by
 unfold exB;have hd:=Di x;rw [show DD x=BX x.args+1 from hd];simp only [IJ];congr 2
 funext i lv
 unfold Bj;cases hx:x.args[i]? with
 |none=>rfl
 |some y=>
  have hm:=Ee (List.mem_of_getElem? hx);exact SI b _ y lv hm _ (Nat.le_refl _)
theorem Oc {b:Bool}{x:Ex}{i:Nat}(h:i < x.args.length)(k:Int):Bj b x i k=exB b x.args[i] k:=by
 unfold Bj;rw [List.getElem?_eq_getElem h]
theorem AEj {b:Bool}{x:Ex}{i:Nat}(h:¬i < x.args.length)(k:Int):Bj b x i k=[63]:=by
 unfold Bj;rw [List.getElem?_eq_none (by omega)]
theorem MC (b:Bool)(x:Ex)(d:Nat):((List.range (x.args.length - d)).map fun i=>Bj b x (i+d) 1)=(x.args.drop d).map fun y=>exB b y 1:=by
 apply List.ext_getElem
 ·simp
 ·intro i h1 h2;simp only [List.length_map,List.length_range] at h1;rw [List.getElem_map,List.getElem_range,List.getElem_map,List.getElem_drop,Oc (by omega)];congr 2;omega
theorem AFU (k:Int):(Eb k).all (fun p=>decide (1≤p.2)&&decide (p.2≤6))=true:=by
 unfold Eb;by_cases h22:k=22
 ·subst h22;rfl
 by_cases h21:k=21
 ·subst h21;rfl
 by_cases h23:k=23
 ·subst h23;rfl
 by_cases h15:k=15
 ·subst h15;rfl
 by_cases h16:k=16
 ·subst h16;rfl
 by_cases h17:k=17
 ·subst h17;rfl
 by_cases h18:k=18
 ·subst h18;rfl
 by_cases h19:k=19
 ·subst h19;rfl
 by_cases h20:k=20
 ·subst h20;rfl
 by_cases h9:k=9
 ·subst h9;rfl
 by_cases h10:k=10
 ·subst h10;rfl
 by_cases h14:k=14
 ·subst h14;rfl
 by_cases h11:k=11
 ·subst h11;rfl
 by_cases h12:k=12
 ·subst h12;rfl
 by_cases h13:k=13
 ·subst h13;rfl
 simp only [h22,h21,h23,h15,h16,h17,h18,h19,h20,h9,h10,h14,h11,h12,h13,if_false];rfl
theorem Qn {k:Int}{s:Bs}{n:Int}(h:Eb k=some (s,n)):1≤n∧n≤6:=by
 have:=AFU k;rw [h] at this;simpa using this
mutual
def okE:Ex→Prop
 | .mk _ v _ _ _ _ _ l=>okI v.fInt∧l.length≤1000000000000∧okL l
def okL:List Ex→Prop
 |[]=>True
 |x::l=>okE x∧okL l
end
theorem JG {x:Ex}(h:okE x):okI x.value.fInt∧x.args.length≤1000000000000∧okL x.args:=by cases x;simpa only [okE,Ex.value,Ex.args] using h
theorem He {x:Ex}:∀{l:List Ex},okL l→x∈l→okE x
 |y::l,h,hx=>by
  rcases List.mem_cons.1 hx with rfl|hx
  ·exact h.1
  ·exact He h.2 hx
theorem NV:∀{l:List Ex},(∀x∈l,okE x)→okL l
 |[],_=>trivial
 |x::l,h=>⟨h x (List.mem_cons_self ..),NV fun y hy=>h y (List.mem_cons_of_mem _ hy)⟩
def TK (ω:Om)(G:Imm)(b:Nat)(w:Value)(n:Nat):Prop:=∀(x:Ex),DD x≤n→okE x→∀(k:Int) (I:Imm) (X F:LH) (l:Bs) (c:List Value) (K:Value→M),Ext G I→StL I w wordsL→WrS b w X l→ExV I x c→
 (l++exB true x k).length≤1000000000→(∀I' X',Ext I I'→WrS b w X' (l++exB true x k)→K (.tuple #[]) I' (X'++F))→CT ω 120 #[AP b,.agg c.toArray,.int .i64 k] K I (X++F)
section
variable {ω:Om}{G I:Imm}{L F:LH}{K:Value→M}{b:Nat}{w:Value}{X:LH}{l:Bs}{n:Nat}
theorem BO (hE:TK ω G b w n){x:Ex}(hd:DD x≤n+1)(hx:okE x)(i:Nat)(k:Int)(hGI:Ext G I)(hw:StL I w wordsL)[hs:SplitL X L F](hW:WrS b w X l){c:List Value}(hc:ExV I x c)
  (hn:(l++Bj true x i k).length≤1000000000) (hk:∀I' X',Ext I I'→WrS b w X' (l++Bj true x i k)→K (.tuple #[]) I' (X'++F)):CT ω 177 #[AP b,.agg c.toArray,.int .i64 (i:Nat),.int .i64 k] K I L:=by
 refine Cal.split X ?_;refine APl ?_;unfold AMK;obtain ⟨v,rfl,ha⟩:=ExV.iff.1 hc;refine Ad (fun bx=>?_);try refine zqe ?_
 refine rdb ?_;simp only [RL.len ha,SSd,Nat.reduceAdd];refine AB (fun h=>?_) (fun h=>?_)
 ·have h:¬i < x.args.length:=by have:=of_decide_eq_true h;omega
  rw [AEj h] at hn hk;refine BN (X:=X) hW hn (fun I' X' hI' hW'=>?_);exact Gh.to (X'++F) (Gh.done (hk I' X' hI' hW'))
 ·have h:i < x.args.length:=by have:=of_decide_eq_false h;omega
  rw [Oc h] at hn hk;have hdd:=Di x;have hm:=Ee (List.getElem_mem h);obtain ⟨bt,off,c1,g1,gl,g2,g3⟩:=RL.ix ha (i:=i) (by omega) (by omega);rw [Ah h] at g2;try refine zqe ?_
  refine rdb ?_;simp only [g1,SSd,Nat.reduceAdd];refine Ed (g3 _ [] (Ext.refl _) (fun _ h=>h)) (Ext.refl _) gl ?_;refine call (Cal.to (X++F) (hE x.args[i] (by omega) (He (JG hx).2.2 (List.getElem_mem h)) k I X F l c1 _ hGI hw hW g2 hn (fun I' X' hI' hW'=>?_)));exact Gh.done (hk I' X' hI' hW')
theorem YL {P:Program}{f:FuncId}{a:Value}{args:Array Value}(he:CG P f=true)(h:Cal P ω f (#[a]++args) K I L):CalV P ω (.func (.func f) #[a] #[]) args K I L:=by
 unfold CalV;simp only [he,if_true];simpa using h
theorem QY (hE:TK ω G b w n){xs:List Ex}(hd:BX xs≤n)(hx:okL xs)(hxl:xs.length≤1000000000000)(hGI:Ext G I)(hw:StL I w wordsL)[hs:SplitL X L F](hW:WrS b w X l){v:Value}(hv:ExL I v xs)
  (hn:(l++Ih true xs).length≤1000000000) (hk:∀I' X',Ext I I'→WrS b w X' (l++Ih true xs)→K (.tuple #[]) I' (X'++F)):CT ω 168 #[AP b,v] K I L:=by
 refine Cal.split X ?_;refine APs ?_;unfold AMQ;refine Ad (o:=.cells [AP b].toArray 108 (0,0)) (fun bw=>?_);refine rdb ?_;refine call (AEc (X:=X) (g:=fun x=>exB true x 1) (F:=(bw,.cells [AP b].toArray 108 (0,0))::F) hv hw ?_ hxl hW hn (fun I' X' hI' hW'=>?_) (hs:=⟨List.perm_middle.symm⟩))
 ·intro x hxm I2 X2 l2 vx K2 hI2 hw2 hW2 hvx hn2 hk2;obtain ⟨c,rfl,hc⟩:=hvx;obtain ⟨v',rfl,ha⟩:=ExV.iff.1 hc;refine IR (by kernel_rfl) ?_;refine APP ?_;show AGI ω (.agg (Aj x v').toArray) (AP bw) _ I2 _;unfold AGI;refine Ad (fun bx=>?_);refine rdb ?_;refine rdB rfl ?_;refine call (Cal.to (X2++((bw,.cells [AP b].toArray 108 (0,0))::F)) (hE x (Nat.le_trans (Ee hxm) hd) (He hx hxm) 1 I2 X2 _ l2 _ _ (Ext.trans hGI hI2) hw2 hW2 hc hn2 (fun I3 X3 hI3 hW3=>?_)));exact Gh.done (hk2 I3 X3 hI3 hW3)
 ·exact Gh.to (X'++F) (Gh.done (hk I' X' hI' hW'))
theorem Ku (hE:TK ω G b w n){xs:List Ex}(hd:BX xs≤n)(hx:okL xs)(hxl:xs.length≤1000000000000)(hGI:Ext G I)(hw:StL I w wordsL)[hs:SplitL X L F](hW:WrS b w X l){v:Value}(hv:ExL I v xs)
  (hn:(l++rowB true xs).length≤1000000000) (hk:∀I' X',Ext I I'→WrS b w X' (l++rowB true xs)→K (.tuple #[]) I' (X'++F)):CT ω 117 #[AP b,v] K I L:=by
 refine Cal.split X ?_;refine AQc ?_;unfold AMt;have he:rowB true xs=[40]++(Ih true xs++[41]):=by simp [rowB]
 rw [he] at hn hk;simp only [List.length_append] at hn;refine BN hW (by simp only [List.length_append];omega) (fun I1 X1 hI1 hW1=>?_);refine call (QY hE hd hx hxl (Ext.trans hGI hI1) (StL.mono hw hI1) hW1 (ExL.mono hv hI1) (by simp only [List.length_append];omega) (fun I2 X2 hI2 hW2=>?_));refine BN hW2 (by simp only [List.length_append];omega) (fun I3 X3 hI3 hW3=>?_);exact Gh.done (hk I3 X3 (Ext.trans hI1 (Ext.trans hI2 hI3)) (by simpa using hW3))
end
def caseT (n:Nat)(arg:Nat→Int→Bs)(k:Nat):Bs:=(List.range k).flatMap fun i=>(if i % 2=1 then [32,116,104,101,110,32] else if i+1=n then [32,101,108,115,101,32] else [32,119,104,101,110,32])++arg i 1
theorem TC (n:Nat)(arg:Nat→Int→Bs)(k:Nat):caseT n arg (k+1)=caseT n arg k++((if k % 2=1 then [32,116,104,101,110,32] else if k+1=n then [32,101,108,115,101,32] else [32,119,104,101,110,32])++arg k 1):=by
 unfold caseT;rw [List.range_succ,List.flatMap_append];simp
theorem YI (n:Nat)(arg:Nat→Int→Bs):∀(d k:Nat),(caseT n arg k).length≤(caseT n arg (k+d)).length
 |0,k=>Nat.le_refl _
 |d+1,k=>by
  have:=YI n arg d k;rw [←Nat.add_assoc,TC,List.length_append];omega
def Oh (x:Ex):Bool:=x.name==[99,111,117,110,116]&&x.args.length==1&&(x.args.getD 0 ex0).kind==3
def YK (x:Ex):Bs:=
 if x.kind=8 then [108,101,110,103,116,104,40]++Bj true x 0 1++[41] else
 if x.kind=27 then [99,111,97,108,101,115,99,101,40]++Ih true x.args++[41] else
 if x.kind=26 then [99,97,115,101]++caseT x.args.length (Bj true x) x.args.length++[32,101,110,100] else
 if x.kind=28 then x.name++[40]++(if x.distinct then [100,105,115,116,105,110,99,116,32] else [])++(if Oh x then [42] else Bj true x 0 1)++[41] else [63]
theorem Ru {x:Ex}(hs:Eb x.kind=none)(h:x.kind≠1∧x.kind≠2∧x.kind≠4∧x.kind≠5∧x.kind≠6∧x.kind≠7∧x.kind≠24∧x.kind≠25):BB true x (Bj true x)=YK x:=by
 unfold BB YK;rw [hs];simp only [h,if_false];have hr:=MC true x 0;simp only [Nat.sub_zero,Nat.add_zero,List.drop_zero] at hr;rw [hr];simp only [Bool.true_or,Bool.and_true,caseT,Ih,Oh];rfl
section
variable {ω:Om}{G I:Imm}{L F:LH}{K:Value→M}{b:Nat}{w:Value}{X:LH}{l:Bs}{n:Nat}
theorem Qa (hE:TK ω G b w n){x:Ex}(hd:DD x≤n+1)(hx:okE x)(hGI:Ext G I)(hw:StL I w wordsL)[hs:SplitL X L F](hW:WrS b w X l){c:List Value}(hc:ExV I x c)
  (hn:(l++YK x).length≤1000000000) (hk:∀I' X',Ext I I'→WrS b w X' (l++YK x)→K (.tuple #[]) I' (X'++F)):CT ω 179 #[AP b,.agg c.toArray] K I L:=by
 refine Cal.split X ?_;refine APj ?_;unfold AMI;obtain ⟨v,rfl,ha⟩:=ExV.iff.1 hc;obtain ⟨hv0,hal,hla⟩:=JG hx;have hdd:=Di x;unfold YK at hn hk;refine Ad (fun bx=>?_);try refine zqe ?_
 refine rdb ?_;try refine zqe ?_
 refine AB (fun h=>?_) (fun h=>?_)
 ·have h:x.kind=8:=by simpa using h
  rw [if_pos h] at hn hk;simp only [List.length_append,List.length_cons,List.length_nil] at hn;refine BN hW zL (fun I1 X1 hI1 hW1=>?_);refine rdB rfl ?_;refine call (BO (X:=X1) hE hd hx 0 1 (Ext.trans hGI hI1) (StL.mono hw hI1) hW1 (ExV.mono hI1 hc) zL (fun I2 X2 hI2 hW2=>?_));refine BN hW2 zL (fun I3 X3 hI3 hW3=>?_);exact Gh.to (X3++F) (Gh.done (hk I3 X3 (Ext.trans hI1 (Ext.trans hI2 hI3)) (by simpa using hW3)))
 have h8:x.kind≠8:=by simpa using h
 rw [if_neg h8] at hn hk;try refine zqe ?_
 refine AB (fun h=>?_) (fun h=>?_)
 ·have h:x.kind=27:=by simpa using h
  rw [if_pos h] at hn hk;have he:[99,111,97,108,101,115,99,101,40]++Ih true x.args++[41]=[99,111,97,108,101,115,99,101]++rowB true x.args:=by simp [rowB]
  rw [he] at hn hk;simp only [List.length_append,List.length_cons,List.length_nil] at hn;refine BN hW zL (fun I1 X1 hI1 hW1=>?_);try refine zqe ?_
  refine rdb ?_;refine call (Ku (X:=X1) hE (by omega) hla hal (Ext.trans hGI hI1) (StL.mono hw hI1) hW1 (ExL.mono ha hI1) zL (fun I2 X2 hI2 hW2=>?_));exact Gh.to (X2++F) (Gh.done (hk I2 X2 (Ext.trans hI1 hI2) (by simpa using hW2)))
 have h27:x.kind≠27:=by simpa using h
 rw [if_neg h27] at hn hk;try refine zqe ?_
 refine AB (fun h=>?_) (fun h=>?_)
 ·have h:x.kind=26:=by simpa using h
  rw [if_pos h] at hn hk;simp only [List.length_append,List.length_cons,List.length_nil] at hn;refine BN hW zL (fun I1 X1 hI1 hW1=>?_);try refine zqe ?_
  refine rdb ?_;simp only [RL.len ha,SSd,Nat.reduceAdd];refine loop (fun q st I' L'=>∃(k:Nat) (X':LH),k+q=x.args.length∧st=(.int .i64 k,())∧Ext I I'∧L'=X'++((bx,.cells (Aj x v).toArray 37 (0,0))::F)∧WrS b w X' ((l++[99,97,115,101])++caseT x.args.length (Bj true x) k)) x.args.length ⟨0,X1,by omega,rfl,hI1,rfl,by simpa [caseT] using hW1⟩ ?_;rintro q st I' L' ⟨k,X',hkq,rfl,hI',rfl,hW'⟩;unfold ABY;try refine zqe ?_
  refine AB (fun hb=>?_) (fun hb=>?_)
  ·have hb:k < x.args.length:=by
    have:=of_decide_eq_true hb;omega
   obtain ⟨bt,off,c1,g1,gl,g2,g3⟩:=RL.ix ha (i:=k) (by omega) (by omega);rw [Ah hb] at g2;have hone:=ExV.one g2;have hsu:=TC x.args.length (Bj true x) k;have hle:=YI x.args.length (Bj true x) (x.args.length - (k+1)) (k+1);rw [show k+1+(x.args.length - (k+1))=x.args.length by omega,hsu] at hle;simp only [List.length_append] at hle;simp only [g1,SSd,Nat.reduceAdd];refine Ed (g3 _ [] hI' (fun _ h=>h)) (Ext.refl _) gl ?_;refine Ad (fun b3=>?_);refine stB gl rfl hone ?_;have fin:∀(s:Bs) (I2:Imm) (X2:LH),Ext I I2→s=(if k % 2=1 then [32,116,104,101,110,32] else if k+1=x.args.length then [32,101,108,115,101,32] else [32,119,104,101,110,32])→WrS b w X2 (((l++[99,97,115,101])++caseT x.args.length (Bj true x) k)++s)→ND ω (AP b) (AP b3) (.int .i64 k) (fun s'=>Gh fun I2 L2=>∃m',m' < q∧∃(k:Nat) (X':LH),k+m'=x.args.length∧s'=(.int .i64 k,())∧Ext I I2∧L2=X'++((bx,.cells (Aj x v).toArray 37 (0,0))::F)∧WrS b w X' ((l++[99,97,115,101])++caseT x.args.length (Bj true x) k)) (fun v=>Gh (K v)) I2 (X2++((b3,.cells c1.toArray 37 (0,0))::(bx,.cells (Aj x v).toArray 37 (0,0))::F)):=by
    intro s I2 X2 hI2 hse hW2;rw [←hse] at hle hsu;unfold ND;refine ZQ (T:=37) (by simp) gl ?_;have hm:=Ee (List.getElem_mem hb);have hex:Bj true x k 1=exB true x.args[k] 1:=Oc hb 1;rw [hex] at hle hsu;refine call (Cal.to (X2++((bx,.cells (Aj x v).toArray 37 (0,0))::F)) (hE x.args[k] (by omega) (He hla (List.getElem_mem hb)) 1 I2 X2 _ _ c1 _ (Ext.trans hGI hI2) (StL.mono hw hI2) hW2 (ExV.mono hI2 g2) zL (fun I3 X3 hI3 hW3=>?_)));simp only [wrap_i64 ((k:Int)+1) (by omega),SSd,Nat.reduceAdd];exact Gh.done ⟨q - 1,by omega,k+1,X3,by omega,rfl,Ext.trans hI2 hI3,rfl,by rw [hsu];simpa using hW3⟩
   have hrem:AA .rem (.int .i64 (k:Int)) (.int .i64 2)=some (.int .i64 ((k % 2:Nat):Int)):=by
    rw [TG _ _ .i64 (by decide),Int.tmod_eq_emod_of_nonneg (by omega)];simp
   simp only [hrem,SSd,Nat.reduceAdd];refine AB (fun h1=>?_) (fun h1=>?_)
   ·have h1:k % 2=1:=by
     have:((k % 2:Nat):Int)=1:=by simpa using h1
     omega
    rw [if_pos h1] at hle;simp only [List.length_cons,List.length_nil] at hle;refine BN (X:=X') hW' zL (fun I2 X2 hI2 hW2=>?_);exact fin _ I2 X2 (Ext.trans hI' hI2) (by rw [if_pos h1]) hW2
   have h1:¬k % 2=1:=by
    have:¬((k % 2:Nat):Int)=1:=by simpa using h1
    omega
   rw [if_neg h1] at hle;simp only [wrap_i64 ((k:Int)+1) (by omega),SSd,Nat.reduceAdd];refine rdb ?_;simp only [RL.len ha,SSd,Nat.reduceAdd];refine AB (fun h2=>?_) (fun h2=>?_)
   ·have h2:k+1=x.args.length:=by
     have:(k:Int)+1=x.args.length:=by simpa using h2
     omega
    rw [if_pos h2] at hle;simp only [List.length_cons,List.length_nil] at hle;refine BN (X:=X') hW' zL (fun I2 X2 hI2 hW2=>?_);exact fin _ I2 X2 (Ext.trans hI' hI2) (by rw [if_neg h1,if_pos h2]) hW2
   ·have h2:¬k+1=x.args.length:=by
     have:¬(k:Int)+1=x.args.length:=by simpa using h2
     omega
    rw [if_neg h2] at hle;simp only [List.length_cons,List.length_nil] at hle;refine BN (X:=X') hW' zL (fun I2 X2 hI2 hW2=>?_);exact fin _ I2 X2 (Ext.trans hI' hI2) (by rw [if_neg h1,if_neg h2]) hW2
  ·have hb:¬k < x.args.length:=by
    have:=of_decide_eq_false hb;omega
   obtain rfl:k=x.args.length:=by omega
   unfold ABX;refine BN (X:=X') hW' zL (fun I2 X2 hI2 hW2=>?_);exact Gh.to (X2++F) (Gh.done (hk I2 X2 (Ext.trans hI' hI2) (by simpa using hW2)))
 have h26:x.kind≠26:=by simpa using h
 rw [if_neg h26] at hn hk;try refine zqe ?_
 refine AB (fun h=>?_) (fun h=>?_)
 ·have h:x.kind=28:=by simpa using h
  rw [if_pos h] at hn hk;simp only [List.length_append,List.length_cons,List.length_nil] at hn;try refine zqe ?_
  refine rdb ?_;refine ATx hW zL (fun I1 X1 hI1 hW1=>?_);have fin8:∀(s:Bs) (I2:Imm) (X2:LH),Ext I I2→s=(if x.distinct then [100,105,115,116,105,110,99,116,32] else [])→WrS b w X2 ((l++(x.name++[40]))++s)→Pi ω (AP b) (AP bx) (fun v=>Gh (K v)) I2 (X2++((bx,.cells (Aj x v).toArray 37 (0,0))::F)):=by
   intro s I2 X2 hI2 hse hW2;rw [←hse] at hn hk;have no:Oh x=false→KH ω (AP b) (AP bx) (fun v=>Gh (K v)) I2 (X2++((bx,.cells (Aj x v).toArray 37 (0,0))::F)):=by
    intro hst;rw [hst] at hn hk;simp only [Bool.false_eq_true,if_false] at hn hk;unfold KH;refine ZQ (l:=Aj x v) (T:=37) (by simp) rfl ?_;refine call (BO (X:=X2) hE hd hx 0 1 (Ext.trans hGI hI2) (StL.mono hw hI2) hW2 (ExV.mono hI2 hc) zL (fun I3 X3 hI3 hW3=>?_));unfold NE;refine BN hW3 zL (fun I4 X4 hI4 hW4=>?_);exact Gh.to (X4++F) (Gh.done (hk I4 X4 (Ext.trans hI2 (Ext.trans hI3 hI4)) (by simpa using hW4)))
   unfold Pi;try refine zqe ?_
   refine rdb ?_;simp only [RL.len ha,SSd,Nat.reduceAdd];refine Bc (fun h1=>?_) (fun h1=>?_)
   ·have h1:x.args.length=1:=by
     have:(x.args.length:Int)=1:=by simpa using h1
     omega
    obtain ⟨bt,off,c1,g1,gl,g2,g3⟩:=RL.ix ha (i:=0) (by omega) (by omega);obtain ⟨v1,rfl,_⟩:=ExV.iff.1 g2;have hg0:x.args.getD 0 ex0=PN x.args 0:=rfl;try refine zqe ?_
    refine rdb ?_;simp only [g1,SSd,Nat.reduceAdd];refine rdC (g3 I2 [] hI2 (fun _ h=>h) 0 _ rfl) (Ext.refl _) ?_;try refine zqe ?_
    refine Bc (fun h2=>?_) (fun h2=>?_)
    ·try refine zqe ?_
     refine rdb ?_;try refine zqe ?_
     refine AB (fun h3=>?_) (fun h3=>?_)
     ·have h2:((PN x.args 0).kind==3)=true:=by simpa using h2
      have h3:(x.name==[99,111,117,110,116])=true:=by simpa using h3
      have hst:Oh x=true:=by unfold Oh;rw [hg0,h3,h2,h1];rfl
      rw [hst] at hn hk;simp only [if_true,List.length_cons,List.length_nil] at hn hk;unfold ABW;refine BN (X:=X2) hW2 zL (fun I3 X3 hI3 hW3=>?_);unfold NE;refine BN hW3 zL (fun I4 X4 hI4 hW4=>?_);exact Gh.to (X4++F) (Gh.done (hk I4 X4 (Ext.trans hI2 (Ext.trans hI3 hI4)) (by simpa using hW4)))
     ·have h3:(x.name==[99,111,117,110,116])=false:=by simpa using h3
      exact no (by unfold Oh;rw [h3];simp)
    ·have h2:((PN x.args 0).kind==3)=false:=by simpa using h2
     exact no (by unfold Oh;rw [hg0,h2];simp)
   ·have h1:(x.args.length==1)=false:=by
     have:¬(x.args.length:Int)=1:=by simpa using h1
     simp;omega
    exact no (by unfold Oh;rw [h1];simp)
  try refine zqe ?_
  refine rdb ?_;refine AB (fun h1=>?_) (fun h1=>?_)
  ·rw [h1] at hn fin8;simp only [if_true,List.length_cons,List.length_nil] at hn;refine BN hW1 zL (fun I2 X2 hI2 hW2=>?_);exact fin8 _ I2 X2 (Ext.trans hI1 hI2) (by simp) hW2
  ·rw [h1] at fin8;exact fin8 [] I1 X1 hI1 (by simp) (by simpa using hW1)
 have h28:x.kind≠28:=by simpa using h
 rw [if_neg h28] at hn hk;refine BN hW hn (fun I1 X1 hI1 hW1=>?_);exact Gh.to (X1++F) (Gh.done (hk I1 X1 hI1 hW1))
end
abbrev shO (c:List Value):Obj:=.cells c.toArray 210 (0,0)
abbrev exO (x:Ex)(v:Value):Obj:=.cells (Aj x v).toArray 37 (0,0)
section
variable {ω:Om}{G I:Imm}{L F Y:LH}{K:Value→M}{b:Nat}{w:Value}{X:LH}{l:Bs}{n:Nat}
set_option maxHeartbeats 1000000 in
theorem LQ (hE:TK ω G b w n){x:Ex}{v:Value}{bx bs:Nat}{fb:Bool}{sc:List Value}(hd:DD x≤n+1)(hx:okE x)(hG:Fg G)(hGI:Ext G I)(hw:StL I w wordsL)[hs:SplitL X L Y][i1:InL bx L (exO x v)][i2:InL bx Y (exO x v)][i3:InL bs L (shO sc)][i4:InL bs Y (shO sc)](hW:WrS b w X l)(hc:ExV I x (Aj x v))
  (hsh:(∃s k,Eb x.kind=some (s,k)∧fb=true∧sc=[.string ⟨s.toArray⟩,.int .i64 k])∨(Eb x.kind=none∧fb=false))
  (hn:(l++BB true x (Bj true x)).length≤1000000000) (hk:∀I' X',Ext I I'→WrS b w X' (l++BB true x (Bj true x))→Gh (K (.tuple #[])) I' (X'++Y)):
  NJ ω (AP b) (AP bx) (AP bs) (.bool fb) (fun v=>Gh (K v)) I L:=by
 obtain ⟨v',hv',ha⟩:=ExV.iff.1 hc;obtain rfl:v=v':=by simpa [Aj] using hv'
 obtain ⟨hv0,hal,hla⟩:=JG hx;have hdd:=Di x;unfold NJ;rcases hsh with ⟨s,k,hsg,rfl,rfl⟩|⟨hsg,rfl⟩
 ·have hin:BB true x (Bj true x)=Bj true x 0 (if k=4 then 5 else k)++(([32]++(s++[32]))++Bj true x 1 (k+1)):=by
   unfold BB;rw [hsg];simp
  rw [hin] at hn hk;simp only [List.length_append,List.length_cons,List.length_nil] at hn;have hsm:=Qn hsg;have bin:∀lv:Int,lv=(if k=4 then 5 else k)→QE ω (AP b) (AP bx) (AP bs) (.int .i64 lv) (fun v=>Gh (K v)) I L:=by
   intro lv hlv;rw [←hlv] at hn hk;unfold QE;refine rdB rfl ?_;refine call (BO (X:=X) hE hd hx 0 lv hGI hw hW hc zL (fun I1 X1 hI1 hW1=>?_));try refine zqe ?_
   refine rdb ?_;refine AOI hW1 zL (fun I2 X2 hI2 hW2=>?_);refine rdB rfl ?_;try refine zqe ?_
   refine rdb ?_;simp only [wrap_i64 (k+1) (by omega),SSd,Nat.reduceAdd];refine call (BO (X:=X2) hE hd hx 1 (k+1) (Ext.trans hGI (Ext.trans hI1 hI2)) (StL.mono hw (Ext.trans hI1 hI2)) hW2 (ExV.mono (Ext.trans hI1 hI2) hc) zL (fun I3 X3 hI3 hW3=>?_));exact hk I3 X3 (Ext.trans hI1 (Ext.trans hI2 hI3)) (by simpa using hW3)
  try refine zqe ?_
  refine rdb ?_;try refine zqe ?_
  refine AB (fun h=>?_) (fun h=>?_)
  ·exact bin 5 (by rw [if_pos (by simpa using h)])
  ·exact bin k (by rw [if_neg (by simpa using h)])
 try refine zqe ?_
 refine rdb ?_;try refine zqe ?_
 refine AB (fun h=>?_) (fun h=>?_)
 ·have h:x.kind=1:=by simpa using h
  have hin:BB true x (Bj true x)=Nw true x.value:=by unfold BB;rw [hsg];simp [h]
  rw [hin] at hn hk;try refine zqe ?_
  refine rdP _ rfl rfl ?_;refine call (Qe (X:=X) hG hGI hW x.value hv0 hn (fun I1 X1 hI1 hW1=>?_));exact hk I1 X1 hI1 hW1
 have h1:x.kind≠1:=by simpa using h
 try refine zqe ?_
 refine AB (fun h=>?_) (fun h=>?_)
 ·have h:x.kind=2:=by simpa using h
  have hin:BB true x (Bj true x)=(if x.table.isEmpty then [] else nameB x.table++[46])++nameB x.name:=by unfold BB;rw [hsg];simp [h]
  rw [hin] at hn hk;simp only [List.length_append] at hn;have col:∀(s:Bs) (I1:Imm) (X1 L1:LH) [SplitL X1 L1 Y] [InL bx L1 (exO x v)],Ext I I1→s=(if x.table.isEmpty then [] else nameB x.table++[46])→WrS b w X1 (l++s)→NL ω (AP b) (AP bx) (fun v=>Gh (K v)) I1 L1:=by
   intro s I1 X1 L1 _ _ hI1 hse hW1;rw [←hse] at hn hk;unfold NL;try refine zqe ?_
   refine rdb ?_;refine call (BR (X:=X1) hW1 (StL.mono hw hI1) x.name zL (fun I2 X2 hI2 hW2=>?_));exact hk I2 X2 (Ext.trans hI1 hI2) (by simpa using hW2)
  try refine zqe ?_
  refine rdb ?_;simp only [sNe,SSd,Nat.reduceAdd];cases ht:x.table with
  |nil=>
   rw [ht] at col;simp only [show (([]:Bs)==[])=true from rfl,Bool.not_true,SSd,Nat.reduceAdd];exact col [] I X L (Ext.refl I) rfl (by simpa using hW)
  |cons c r=>
   rw [ht] at col hn;simp only [List.isEmpty_cons,Bool.false_eq_true,if_false,List.length_append,List.length_cons,List.length_nil] at hn;simp only [show ((c::r)==([]:Bs))=false from rfl,Bool.not_false,SSd,Nat.reduceAdd];refine rdb ?_;refine call (BR (X:=X) hW hw x.table (by rw [ht];simp only [List.length_append,List.length_cons,List.length_nil];omega) (fun I1 X1 hI1 hW1=>?_));refine BN hW1 (by rw [ht];simp only [List.length_append,List.length_cons,List.length_nil];omega) (fun I2 X2 hI2 hW2=>?_);exact col (nameB (c::r)++[46]) I2 X2 _ (Ext.trans hI1 hI2) (by simp) (by rw [ht] at hW2;simpa using hW2)
 have h2:x.kind≠2:=by simpa using h
 try refine zqe ?_
 refine AB (fun h=>?_) (fun h=>?_)
 ·have h:x.kind=4:=by simpa using h
  have hin:BB true x (Bj true x)=[45]++Bj true x 0 8:=by unfold BB;rw [hsg];simp [h]
  rw [hin] at hn hk;simp only [List.length_append,List.length_cons,List.length_nil] at hn;refine BN (X:=X) hW zL (fun I1 X1 hI1 hW1=>?_);refine rdB rfl ?_;refine call (BO (X:=X1) hE hd hx 0 8 (Ext.trans hGI hI1) (StL.mono hw hI1) hW1 (ExV.mono hI1 hc) zL (fun I2 X2 hI2 hW2=>?_));exact hk I2 X2 (Ext.trans hI1 hI2) (by simpa using hW2)
 have h4:x.kind≠4:=by simpa using h
 try refine zqe ?_
 refine AB (fun h=>?_) (fun h=>?_)
 ·have h:x.kind=5:=by simpa using h
  have hin:BB true x (Bj true x)=[110,111,116,32]++Bj true x 0 3:=by unfold BB;rw [hsg];simp [h]
  rw [hin] at hn hk;simp only [List.length_append,List.length_cons,List.length_nil] at hn;refine BN (X:=X) hW zL (fun I1 X1 hI1 hW1=>?_);refine rdB rfl ?_;refine call (BO (X:=X1) hE hd hx 0 3 (Ext.trans hGI hI1) (StL.mono hw hI1) hW1 (ExV.mono hI1 hc) zL (fun I2 X2 hI2 hW2=>?_));exact hk I2 X2 (Ext.trans hI1 hI2) (by simpa using hW2)
 have h5:x.kind≠5:=by simpa using h
 try refine zqe ?_
 refine AB (fun h=>?_) (fun h=>?_)
 ·have h:x.kind=6:=by simpa using h
  have hin:BB true x (Bj true x)=Bj true x 0 5++[32,105,115,32,110,117,108,108]:=by unfold BB;rw [hsg];simp [h]
  rw [hin] at hn hk;simp only [List.length_append,List.length_cons,List.length_nil] at hn;refine rdB rfl ?_;refine call (BO (X:=X) hE hd hx 0 5 hGI hw hW hc zL (fun I1 X1 hI1 hW1=>?_));refine BN hW1 zL (fun I2 X2 hI2 hW2=>?_);exact hk I2 X2 (Ext.trans hI1 hI2) (by simpa using hW2)
 have h6:x.kind≠6:=by simpa using h
 try refine zqe ?_
 refine AB (fun h=>?_) (fun h=>?_)
 ·have h:x.kind=7:=by simpa using h
  have hin:BB true x (Bj true x)=Bj true x 0 5++[32,105,115,32,110,111,116,32,110,117,108,108]:=by unfold BB;rw [hsg];simp [h]
  rw [hin] at hn hk;simp only [List.length_append,List.length_cons,List.length_nil] at hn;refine rdB rfl ?_;refine call (BO (X:=X) hE hd hx 0 5 hGI hw hW hc zL (fun I1 X1 hI1 hW1=>?_));refine BN hW1 zL (fun I2 X2 hI2 hW2=>?_);exact hk I2 X2 (Ext.trans hI1 hI2) (by simpa using hW2)
 have h7:x.kind≠7:=by simpa using h
 try refine zqe ?_
 refine AB (fun h=>?_) (fun h=>?_)
 ·have h:x.kind=24:=by simpa using h
  have hin:BB true x (Bj true x)=Bj true x 0 5++([32,105,110,32]++rowB true (x.args.drop 1)):=by
   unfold BB;rw [hsg];simp only [h];have hr:=MC true x 1;rw [hr];simp [rowB,Ih]
  rw [hin] at hn hk;simp only [List.length_append,List.length_cons,List.length_nil] at hn;refine rdB rfl ?_;refine call (BO (X:=X) hE hd hx 0 5 hGI hw hW hc zL (fun I1 X1 hI1 hW1=>?_));refine BN hW1 zL (fun I2 X2 hI2 hW2=>?_);have hI12:=Ext.trans hI1 hI2;try refine zqe ?_
  refine rdb ?_;try refine zqe ?_
  refine rdb ?_;simp only [RL.len ha,SSd,Nat.reduceAdd];obtain ⟨v2,hv2,hr2⟩:=RL.part (ExL.mono ha hI12) (lo:=min 1 x.args.length) (hi:=x.args.length) (by omega) (Nat.le_refl _) (some (.int .i64 (if (x.args.length:Int) < 1 then (x.args.length:Int) else 1))) none (by
   rw [show (if (x.args.length:Int) < 1 then (x.args.length:Int) else 1)=((min 1 x.args.length:Nat):Int) by split <;> omega];exact WF _ _ _ _ (by omega)) (fun cap hc=>by simp [EC])
  have hdr:(x.args.drop (min 1 x.args.length)).take (x.args.length - min 1 x.args.length)=x.args.drop 1:=by
   rw [List.take_of_length_le (by simp)];by_cases h0:x.args.length=0
   ·rw [List.length_eq_zero_iff] at h0;rw [h0];rfl
   ·congr 1;omega
  rw [hdr] at hr2;simp only [hv2,SSd,Nat.reduceAdd];have hap:x.args=x.args.take 1++x.args.drop 1:=(List.take_append_drop 1 x.args).symm;have hdp:BX (x.args.drop 1)≤n:=by
   have h:=GX (x.args.take 1) (x.args.drop 1);rw [←hap] at h;omega
  refine call (Ku (X:=X2) hE hdp (NV fun y hy=>He hla (List.mem_of_mem_drop hy)) (by rw [List.length_drop];omega) (Ext.trans hGI hI12) (StL.mono hw hI12) hW2 hr2 zL (fun I3 X3 hI3 hW3=>?_));exact hk I3 X3 (Ext.trans hI12 hI3) (by simpa using hW3)
 have h24:x.kind≠24:=by simpa using h
 try refine zqe ?_
 refine AB (fun h=>?_) (fun h=>?_)
 ·have h:x.kind=25:=by simpa using h
  have hin:BB true x (Bj true x)=Bj true x 0 5++([32,98,101,116,119,101,101,110,32]++(Bj true x 1 5++([32,97,110,100,32]++Bj true x 2 5))):=by unfold BB;rw [hsg];simp [h]
  rw [hin] at hn hk;simp only [List.length_append,List.length_cons,List.length_nil] at hn;refine rdB rfl ?_;refine call (BO (X:=X) hE hd hx 0 5 hGI hw hW hc zL (fun I1 X1 hI1 hW1=>?_));refine BN hW1 zL (fun I2 X2 hI2 hW2=>?_);refine rdB rfl ?_;have hI12:=Ext.trans hI1 hI2;refine call (BO (X:=X2) hE hd hx 1 5 (Ext.trans hGI hI12) (StL.mono hw hI12) hW2 (ExV.mono hI12 hc) zL (fun I3 X3 hI3 hW3=>?_));refine BN hW3 zL (fun I4 X4 hI4 hW4=>?_);refine rdB rfl ?_;have hI14:=Ext.trans hI12 (Ext.trans hI3 hI4);refine call (BO (X:=X4) hE hd hx 2 5 (Ext.trans hGI hI14) (StL.mono hw hI14) hW4 (ExV.mono hI14 hc) zL (fun I5 X5 hI5 hW5=>?_));exact hk I5 X5 (Ext.trans hI14 hI5) (by simpa using hW5)
 have h25:x.kind≠25:=by simpa using h
 rw [Ru hsg ⟨h1,h2,h4,h5,h6,h7,h24,h25⟩] at hn hk;refine rdB rfl ?_;refine call (Qa (X:=X) hE hd hx hGI hw hW hc hn (fun I1 X1 hI1 hW1=>?_));exact hk I1 X1 hI1 hW1
set_option maxHeartbeats 1000000 in
theorem LU (hE:TK ω G b w n){x:Ex}{v:Value}{bx bs:Nat}{fb:Bool}{sc:List Value}(hd:DD x≤n+1)(hx:okE x)(hG:Fg G)(hGI:Ext G I)(hw:StL I w wordsL)[hs:SplitL X L Y][i1:InL bx L (exO x v)][i2:InL bx Y (exO x v)][i3:InL bs L (shO sc)][i4:InL bs Y (shO sc)](hW:WrS b w X l)(hc:ExV I x (Aj x v))
  (hsh:(∃s k,Eb x.kind=some (s,k)∧fb=true∧sc=[.string ⟨s.toArray⟩,.int .i64 k])∨(Eb x.kind=none∧fb=false)) {W3 W4:Value}
  (hn:(l++BB true x (Bj true x)).length≤1000000000) (hk:∀I' X',Ext I I'→WrS b w X' (l++BB true x (Bj true x))→Eh ω W3 W4 (fun v=>Gh (K v)) I' (X'++Y)):
  NK ω (AP b) (AP bx) (AP bs) (.bool fb) W3 W4 (fun v=>Gh (K v)) I L:=by
 obtain ⟨v',hv',ha⟩:=ExV.iff.1 hc;obtain rfl:v=v':=by simpa [Aj] using hv'
 obtain ⟨hv0,hal,hla⟩:=JG hx;have hdd:=Di x;unfold NK;rcases hsh with ⟨s,k,hsg,rfl,rfl⟩|⟨hsg,rfl⟩
 ·have hin:BB true x (Bj true x)=Bj true x 0 (if k=4 then 5 else k)++(([32]++(s++[32]))++Bj true x 1 (k+1)):=by
   unfold BB;rw [hsg];simp
  rw [hin] at hn hk;simp only [List.length_append,List.length_cons,List.length_nil] at hn;have hsm:=Qn hsg;have bin:∀lv:Int,lv=(if k=4 then 5 else k)→QG ω (AP b) (AP bx) (AP bs) (.int .i64 lv) W3 W4 (fun v=>Gh (K v)) I L:=by
   intro lv hlv;rw [←hlv] at hn hk;unfold QG;refine rdB rfl ?_;refine call (BO (X:=X) hE hd hx 0 lv hGI hw hW hc zL (fun I1 X1 hI1 hW1=>?_));try refine zqe ?_
   refine rdb ?_;refine AOI hW1 zL (fun I2 X2 hI2 hW2=>?_);refine rdB rfl ?_;try refine zqe ?_
   refine rdb ?_;simp only [wrap_i64 (k+1) (by omega),SSd,Nat.reduceAdd];refine call (BO (X:=X2) hE hd hx 1 (k+1) (Ext.trans hGI (Ext.trans hI1 hI2)) (StL.mono hw (Ext.trans hI1 hI2)) hW2 (ExV.mono (Ext.trans hI1 hI2) hc) zL (fun I3 X3 hI3 hW3=>?_));exact hk I3 X3 (Ext.trans hI1 (Ext.trans hI2 hI3)) (by simpa using hW3)
  try refine zqe ?_
  refine rdb ?_;try refine zqe ?_
  refine AB (fun h=>?_) (fun h=>?_)
  ·exact bin 5 (by rw [if_pos (by simpa using h)])
  ·exact bin k (by rw [if_neg (by simpa using h)])
 try refine zqe ?_
 refine rdb ?_;try refine zqe ?_
 refine AB (fun h=>?_) (fun h=>?_)
 ·have h:x.kind=1:=by simpa using h
  have hin:BB true x (Bj true x)=Nw true x.value:=by unfold BB;rw [hsg];simp [h]
  rw [hin] at hn hk;try refine zqe ?_
  refine rdP _ rfl rfl ?_;refine call (Qe (X:=X) hG hGI hW x.value hv0 hn (fun I1 X1 hI1 hW1=>?_));exact hk I1 X1 hI1 hW1
 have h1:x.kind≠1:=by simpa using h
 try refine zqe ?_
 refine AB (fun h=>?_) (fun h=>?_)
 ·have h:x.kind=2:=by simpa using h
  have hin:BB true x (Bj true x)=(if x.table.isEmpty then [] else nameB x.table++[46])++nameB x.name:=by unfold BB;rw [hsg];simp [h]
  rw [hin] at hn hk;simp only [List.length_append] at hn;have col:∀(s:Bs) (I1:Imm) (X1 L1:LH) [SplitL X1 L1 Y] [InL bx L1 (exO x v)],Ext I I1→s=(if x.table.isEmpty then [] else nameB x.table++[46])→WrS b w X1 (l++s)→QF ω (AP b) (AP bx) W3 W4 (fun v=>Gh (K v)) I1 L1:=by
   intro s I1 X1 L1 _ _ hI1 hse hW1;rw [←hse] at hn hk;unfold QF;try refine zqe ?_
   refine rdb ?_;refine call (BR (X:=X1) hW1 (StL.mono hw hI1) x.name zL (fun I2 X2 hI2 hW2=>?_));exact hk I2 X2 (Ext.trans hI1 hI2) (by simpa using hW2)
  try refine zqe ?_
  refine rdb ?_;simp only [sNe,SSd,Nat.reduceAdd];cases ht:x.table with
  |nil=>
   rw [ht] at col;simp only [show (([]:Bs)==[])=true from rfl,Bool.not_true,SSd,Nat.reduceAdd];exact col [] I X L (Ext.refl I) rfl (by simpa using hW)
  |cons c r=>
   rw [ht] at col hn;simp only [List.isEmpty_cons,Bool.false_eq_true,if_false,List.length_append,List.length_cons,List.length_nil] at hn;simp only [show ((c::r)==([]:Bs))=false from rfl,Bool.not_false,SSd,Nat.reduceAdd];refine rdb ?_;refine call (BR (X:=X) hW hw x.table (by rw [ht];simp only [List.length_append,List.length_cons,List.length_nil];omega) (fun I1 X1 hI1 hW1=>?_));refine BN hW1 (by rw [ht];simp only [List.length_append,List.length_cons,List.length_nil];omega) (fun I2 X2 hI2 hW2=>?_);exact col (nameB (c::r)++[46]) I2 X2 _ (Ext.trans hI1 hI2) (by simp) (by rw [ht] at hW2;simpa using hW2)
 have h2:x.kind≠2:=by simpa using h
 try refine zqe ?_
 refine AB (fun h=>?_) (fun h=>?_)
 ·have h:x.kind=4:=by simpa using h
  have hin:BB true x (Bj true x)=[45]++Bj true x 0 8:=by unfold BB;rw [hsg];simp [h]
  rw [hin] at hn hk;simp only [List.length_append,List.length_cons,List.length_nil] at hn;refine BN (X:=X) hW zL (fun I1 X1 hI1 hW1=>?_);refine rdB rfl ?_;refine call (BO (X:=X1) hE hd hx 0 8 (Ext.trans hGI hI1) (StL.mono hw hI1) hW1 (ExV.mono hI1 hc) zL (fun I2 X2 hI2 hW2=>?_));exact hk I2 X2 (Ext.trans hI1 hI2) (by simpa using hW2)
 have h4:x.kind≠4:=by simpa using h
 try refine zqe ?_
 refine AB (fun h=>?_) (fun h=>?_)
 ·have h:x.kind=5:=by simpa using h
  have hin:BB true x (Bj true x)=[110,111,116,32]++Bj true x 0 3:=by unfold BB;rw [hsg];simp [h]
  rw [hin] at hn hk;simp only [List.length_append,List.length_cons,List.length_nil] at hn;refine BN (X:=X) hW zL (fun I1 X1 hI1 hW1=>?_);refine rdB rfl ?_;refine call (BO (X:=X1) hE hd hx 0 3 (Ext.trans hGI hI1) (StL.mono hw hI1) hW1 (ExV.mono hI1 hc) zL (fun I2 X2 hI2 hW2=>?_));exact hk I2 X2 (Ext.trans hI1 hI2) (by simpa using hW2)
 have h5:x.kind≠5:=by simpa using h
 try refine zqe ?_
 refine AB (fun h=>?_) (fun h=>?_)
 ·have h:x.kind=6:=by simpa using h
  have hin:BB true x (Bj true x)=Bj true x 0 5++[32,105,115,32,110,117,108,108]:=by unfold BB;rw [hsg];simp [h]
  rw [hin] at hn hk;simp only [List.length_append,List.length_cons,List.length_nil] at hn;refine rdB rfl ?_;refine call (BO (X:=X) hE hd hx 0 5 hGI hw hW hc zL (fun I1 X1 hI1 hW1=>?_));refine BN hW1 zL (fun I2 X2 hI2 hW2=>?_);exact hk I2 X2 (Ext.trans hI1 hI2) (by simpa using hW2)
 have h6:x.kind≠6:=by simpa using h
 try refine zqe ?_
 refine AB (fun h=>?_) (fun h=>?_)
 ·have h:x.kind=7:=by simpa using h
  have hin:BB true x (Bj true x)=Bj true x 0 5++[32,105,115,32,110,111,116,32,110,117,108,108]:=by unfold BB;rw [hsg];simp [h]
  rw [hin] at hn hk;simp only [List.length_append,List.length_cons,List.length_nil] at hn;refine rdB rfl ?_;refine call (BO (X:=X) hE hd hx 0 5 hGI hw hW hc zL (fun I1 X1 hI1 hW1=>?_));refine BN hW1 zL (fun I2 X2 hI2 hW2=>?_);exact hk I2 X2 (Ext.trans hI1 hI2) (by simpa using hW2)
 have h7:x.kind≠7:=by simpa using h
 try refine zqe ?_
 refine AB (fun h=>?_) (fun h=>?_)
 ·have h:x.kind=24:=by simpa using h
  have hin:BB true x (Bj true x)=Bj true x 0 5++([32,105,110,32]++rowB true (x.args.drop 1)):=by
   unfold BB;rw [hsg];simp only [h];have hr:=MC true x 1;rw [hr];simp [rowB,Ih]
  rw [hin] at hn hk;simp only [List.length_append,List.length_cons,List.length_nil] at hn;refine rdB rfl ?_;refine call (BO (X:=X) hE hd hx 0 5 hGI hw hW hc zL (fun I1 X1 hI1 hW1=>?_));refine BN hW1 zL (fun I2 X2 hI2 hW2=>?_);have hI12:=Ext.trans hI1 hI2;try refine zqe ?_
  refine rdb ?_;try refine zqe ?_
  refine rdb ?_;simp only [RL.len ha,SSd,Nat.reduceAdd];obtain ⟨v2,hv2,hr2⟩:=RL.part (ExL.mono ha hI12) (lo:=min 1 x.args.length) (hi:=x.args.length) (by omega) (Nat.le_refl _) (some (.int .i64 (if (x.args.length:Int) < 1 then (x.args.length:Int) else 1))) none (by
   rw [show (if (x.args.length:Int) < 1 then (x.args.length:Int) else 1)=((min 1 x.args.length:Nat):Int) by split <;> omega];exact WF _ _ _ _ (by omega)) (fun cap hc=>by simp [EC])
  have hdr:(x.args.drop (min 1 x.args.length)).take (x.args.length - min 1 x.args.length)=x.args.drop 1:=by
   rw [List.take_of_length_le (by simp)];by_cases h0:x.args.length=0
   ·rw [List.length_eq_zero_iff] at h0;rw [h0];rfl
   ·congr 1;omega
  rw [hdr] at hr2;simp only [hv2,SSd,Nat.reduceAdd];have hap:x.args=x.args.take 1++x.args.drop 1:=(List.take_append_drop 1 x.args).symm;have hdp:BX (x.args.drop 1)≤n:=by
   have h:=GX (x.args.take 1) (x.args.drop 1);rw [←hap] at h;omega
  refine call (Ku (X:=X2) hE hdp (NV fun y hy=>He hla (List.mem_of_mem_drop hy)) (by rw [List.length_drop];omega) (Ext.trans hGI hI12) (StL.mono hw hI12) hW2 hr2 zL (fun I3 X3 hI3 hW3=>?_));exact hk I3 X3 (Ext.trans hI12 hI3) (by simpa using hW3)
 have h24:x.kind≠24:=by simpa using h
 try refine zqe ?_
 refine AB (fun h=>?_) (fun h=>?_)
 ·have h:x.kind=25:=by simpa using h
  have hin:BB true x (Bj true x)=Bj true x 0 5++([32,98,101,116,119,101,101,110,32]++(Bj true x 1 5++([32,97,110,100,32]++Bj true x 2 5))):=by unfold BB;rw [hsg];simp [h]
  rw [hin] at hn hk;simp only [List.length_append,List.length_cons,List.length_nil] at hn;refine rdB rfl ?_;refine call (BO (X:=X) hE hd hx 0 5 hGI hw hW hc zL (fun I1 X1 hI1 hW1=>?_));refine BN hW1 zL (fun I2 X2 hI2 hW2=>?_);refine rdB rfl ?_;have hI12:=Ext.trans hI1 hI2;refine call (BO (X:=X2) hE hd hx 1 5 (Ext.trans hGI hI12) (StL.mono hw hI12) hW2 (ExV.mono hI12 hc) zL (fun I3 X3 hI3 hW3=>?_));refine BN hW3 zL (fun I4 X4 hI4 hW4=>?_);refine rdB rfl ?_;have hI14:=Ext.trans hI12 (Ext.trans hI3 hI4);refine call (BO (X:=X4) hE hd hx 2 5 (Ext.trans hGI hI14) (StL.mono hw hI14) hW4 (ExV.mono hI14 hc) zL (fun I5 X5 hI5 hW5=>?_));exact hk I5 X5 (Ext.trans hI14 hI5) (by simpa using hW5)
 have h25:x.kind≠25:=by simpa using h
 rw [Ru hsg ⟨h1,h2,h4,h5,h6,h7,h24,h25⟩] at hn hk;refine rdB rfl ?_;refine call (Qa (X:=X) hE hd hx hGI hw hW hc hn (fun I1 X1 hI1 hW1=>?_));exact hk I1 X1 hI1 hW1
end
theorem ASc {P:Program}{ω:Om}{f:FuncId}{args:Array Value}{K:Value→M}{I:Imm}{L:LH}(h:CalD P ω f args K I L):CalD P ω f args (SL.gh K) I L:=fun w hs=>
 CallsDIn.mono (h w hs) fun _ _ _ ⟨hu,v,I',L',he,hs',hk⟩=>⟨hu,v,I',L',he,hs',Gh.done hk⟩
section
variable {ω:Om}{G I:Imm}{L F Y:LH}{K:Value→M}{b:Nat}{w:Value}{X:LH}{l:Bs}{n:Nat}
theorem SH (hG:Fg G)(n:Nat):TK ω G b w n:=by
 induction n with
 |zero=>exact fun x hd=>by have:=FK x;omega
 |succ n hE=>
  intro x hd hx k I X F l c K hGI hw hW hc hn hk;rw [AOc] at hn hk;obtain ⟨v,rfl,ha⟩:=ExV.iff.1 hc;refine AQZ ?_;unfold AMr;refine Ad (fun bx=>?_);try refine zqe ?_
  refine rdb ?_;refine call (AAG x.kind ?_);try refine zqe ?_
  refine AB (fun h=>?_) (fun h=>?_)
  ·rw [h] at hn hk;simp only [Xd,if_true] at hn hk;simp only [List.length_append,List.length_cons,List.length_nil] at hn;refine BN hW zL (fun I1 X1 hI1 hW1=>?_);refine EO [[41]] rfl rfl (fun I2 a2 hI2 hv2=>Gh.done ?_);have hI12:=Ext.trans hI1 hI2;have hc2:=ExV.mono hI12 hc;have hw2:=StL.mono hw hI12;have fin:∀(I':Imm) (X':LH) (Y:LH),Ext I2 I'→SubP F Y→WrS b w X' ((l++[40])++BB true x (Bj true x))→Eh ω (AP b) (.slice a2 1 1) (fun v=>Gh (K v)) I' (X'++Y):=by
    intro I' X' Y hI' hY hW';unfold Eh;refine ASc (AET hW' (StL.mono hv2 hI') (by simp) (by simp only [List.flatten_cons,List.flatten_nil,List.length_append,List.length_cons,List.length_nil];omega) (fun X'' hW''=>?_));exact Gh.to (X''++F) (Gh.done (hk I' X'' (Ext.trans hI12 hI') (by simpa using hW'')))
   unfold ABw;refine EM ?_;try refine zqe ?_
   refine Dt ?_;refine ⟨call (Gj (fun bm es clock hm=>Bv (Ext.refl _) ⟨?_,?_⟩)),Ad (fun bs=>Bv (Ext.refl _) (call (Gj (fun bm es clock hm=>Bv (Ext.refl _) ?_))))⟩
   ·refine Hy hm (fun s k hs=>?_) (fun hs=>?_)
    ·try refine zqe ?_
     refine Ad (fun bs=>?_);refine Bv (Ext.refl _) ?_;refine stB rfl rfl (Au rfl) ?_;exact LU (X:=X1) hE hd hx hG (Ext.trans hGI hI12) hw2 hW1 hc2 (.inl ⟨s,k,hs,rfl,rfl⟩) zL (fun I' X' hI' hW'=>fin I' X' _ hI' inferInstance hW')
    ·try refine zqe ?_
     refine Ad (fun bs=>?_);refine Bv (Ext.refl _) ?_;refine stB rfl rfl (Au rfl) ?_;exact LU (X:=X1) hE hd hx hG (Ext.trans hGI hI12) hw2 hW1 hc2 (.inr ⟨hs,rfl⟩) zL (fun I' X' hI' hW'=>fin I' X' _ hI' inferInstance hW')
   ·refine Ad (fun bs=>?_);refine Bv (Ext.refl _) ?_;refine Hy hm (fun s k hs=>?_) (fun hs=>?_)
    ·try refine zqe ?_
     refine stB rfl rfl (Au rfl) ?_;exact LU (X:=X1) hE hd hx hG (Ext.trans hGI hI12) hw2 hW1 hc2 (.inl ⟨s,k,hs,rfl,rfl⟩) zL (fun I' X' hI' hW'=>fin I' X' _ hI' inferInstance hW')
    ·try refine zqe ?_
     refine stB rfl rfl (Au rfl) ?_;exact LU (X:=X1) hE hd hx hG (Ext.trans hGI hI12) hw2 hW1 hc2 (.inr ⟨hs,rfl⟩) zL (fun I' X' hI' hW'=>fin I' X' _ hI' inferInstance hW')
   ·refine Hy hm (fun s k hs=>?_) (fun hs=>?_)
    ·try refine zqe ?_
     refine stB rfl rfl (Au rfl) ?_;exact LU (X:=X1) hE hd hx hG (Ext.trans hGI hI12) hw2 hW1 hc2 (.inl ⟨s,k,hs,rfl,rfl⟩) zL (fun I' X' hI' hW'=>fin I' X' _ hI' inferInstance hW')
    ·try refine zqe ?_
     refine stB rfl rfl (Au rfl) ?_;exact LU (X:=X1) hE hd hx hG (Ext.trans hGI hI12) hw2 hW1 hc2 (.inr ⟨hs,rfl⟩) zL (fun I' X' hI' hW'=>fin I' X' _ hI' inferInstance hW')
  ·rw [h] at hn hk;simp only [Xd,Bool.false_eq_true,if_false] at hn hk;have fin:∀(I':Imm) (X':LH) (Y:LH),Ext I I'→SubP F Y→WrS b w X' (l++BB true x (Bj true x))→Gh (K (.tuple #[])) I' (X'++Y):=by
    intro I' X' Y hI' hY hW';exact Gh.to (X'++F) (Gh.done (hk I' X' hI' hW'))
   unfold ABv;refine EM ?_;try refine zqe ?_
   refine Dt ?_;refine ⟨call (Gj (fun bm es clock hm=>Bv (Ext.refl _) ⟨?_,?_⟩)),Ad (fun bs=>Bv (Ext.refl _) (call (Gj (fun bm es clock hm=>Bv (Ext.refl _) ?_))))⟩
   ·refine Hy hm (fun s k hs=>?_) (fun hs=>?_)
    ·try refine zqe ?_
     refine Ad (fun bs=>?_);refine Bv (Ext.refl _) ?_;refine stB rfl rfl (Au rfl) ?_;exact LQ (X:=X) hE hd hx hG hGI hw hW hc (.inl ⟨s,k,hs,rfl,rfl⟩) hn (fun I' X' hI' hW'=>fin I' X' _ hI' inferInstance hW')
    ·try refine zqe ?_
     refine Ad (fun bs=>?_);refine Bv (Ext.refl _) ?_;refine stB rfl rfl (Au rfl) ?_;exact LQ (X:=X) hE hd hx hG hGI hw hW hc (.inr ⟨hs,rfl⟩) hn (fun I' X' hI' hW'=>fin I' X' _ hI' inferInstance hW')
   ·refine Ad (fun bs=>?_);refine Bv (Ext.refl _) ?_;refine Hy hm (fun s k hs=>?_) (fun hs=>?_)
    ·try refine zqe ?_
     refine stB rfl rfl (Au rfl) ?_;exact LQ (X:=X) hE hd hx hG hGI hw hW hc (.inl ⟨s,k,hs,rfl,rfl⟩) hn (fun I' X' hI' hW'=>fin I' X' _ hI' inferInstance hW')
    ·try refine zqe ?_
     refine stB rfl rfl (Au rfl) ?_;exact LQ (X:=X) hE hd hx hG hGI hw hW hc (.inr ⟨hs,rfl⟩) hn (fun I' X' hI' hW'=>fin I' X' _ hI' inferInstance hW')
   ·refine Hy hm (fun s k hs=>?_) (fun hs=>?_)
    ·try refine zqe ?_
     refine stB rfl rfl (Au rfl) ?_;exact LQ (X:=X) hE hd hx hG hGI hw hW hc (.inl ⟨s,k,hs,rfl,rfl⟩) hn (fun I' X' hI' hW'=>fin I' X' _ hI' inferInstance hW')
    ·try refine zqe ?_
     refine stB rfl rfl (Au rfl) ?_;exact LQ (X:=X) hE hd hx hG hGI hw hW hc (.inr ⟨hs,rfl⟩) hn (fun I' X' hI' hW'=>fin I' X' _ hI' inferInstance hW')
theorem Hr (hG:Fg G){x:Ex}(hx:okE x)(k:Int)(hGI:Ext G I)(hw:StL I w wordsL)[hs:SplitL X L F](hW:WrS b w X l){c:List Value}(hc:ExV I x c)(hn:(l++exB true x k).length≤1000000000)
  (hk:∀I' X',Ext I I'→WrS b w X' (l++exB true x k)→K (.tuple #[]) I' (X'++F)):CT ω 120 #[AP b,.agg c.toArray,.int .i64 k] K I L:=
 Cal.split X (SH hG (DD x) x (Nat.le_refl _) hx k I X F l c K hGI hw hW hc hn hk)
theorem FO (hG:Fg G){x:Ex}(hx:okE x)(s:Bs)(hGI:Ext G I)(hw:StL I w wordsL)[hs:SplitL X L F](hW:WrS b w X l){c:List Value}(hc:ExV I x c)(hn:(l++DR true s x).length≤1000000000)
  (hk:∀I' X',Ext I I'→WrS b w X' (l++DR true s x)→K (.tuple #[]) I' (X'++F)):CT ω 121 #[AP b,.string ⟨s.toArray⟩,.agg c.toArray] K I L:=by
 refine Cal.split X ?_;refine AQY ?_;unfold AMq;obtain ⟨v,rfl,ha⟩:=ExV.iff.1 hc;unfold DR at hn hk;refine Ad (fun bx=>?_);try refine zqe ?_
 refine rdb ?_;try refine zqe ?_
 refine AB (fun h=>?_) (fun h=>?_)
 ·have h:x.kind≠0:=by simpa using h
  rw [if_neg h] at hn hk;simp only [List.length_append,List.length_cons,List.length_nil] at hn;refine BN (X:=X) hW zL (fun I1 X1 hI1 hW1=>?_);refine rdB rfl ?_;refine call (Hr hG hx 1 (Ext.trans hGI hI1) (StL.mono hw hI1) hW1 (ExV.mono hI1 hc) zL (fun I2 X2 hI2 hW2=>?_));exact Gh.to (X2++F) (Gh.done (hk I2 X2 (Ext.trans hI1 hI2) (by simpa using hW2)))
 ·have h:x.kind=0:=by simpa using h
  rw [if_pos h] at hn hk;exact Gh.to (X++F) (Gh.done (hk I X (Ext.refl I) (by simpa using hW)))
theorem WS (s:Bs)(hw:StL I w wordsL)[hs:SplitL X L F](hW:WrS b w X l)(hn:(l++asB s).length≤1000000000)
  (hk:∀I' X',Ext I I'→WrS b w X' (l++asB s)→K (.tuple #[]) I' (X'++F)):CT ω 166 #[AP b,.string ⟨s.toArray⟩] K I L:=by
 refine Cal.split X ?_;refine APu ?_;unfold AMS;cases s with
 |nil=>
  simp only [show asB []=[] from rfl,List.append_nil] at hn hk;simp only [sNe,show (([]:Bs)==[])=true from rfl,Bool.not_true,SSd,Nat.reduceAdd];exact Gh.done (hk I X (Ext.refl I) hW)
 |cons c r=>
  have he:asB (c::r)=[32,97,115,32]++nameB (c::r):=rfl;rw [he] at hn hk;simp only [List.length_append,List.length_cons,List.length_nil] at hn;simp only [sNe,show ((c::r)==([]:Bs))=false from rfl,Bool.not_false,SSd,Nat.reduceAdd];refine BN (X:=X) hW zL (fun I1 X1 hI1 hW1=>?_);refine call (BR hW1 (StL.mono hw hI1) (c::r) zL (fun I2 X2 hI2 hW2=>?_));exact Gh.done (hk I2 X2 (Ext.trans hI1 hI2) (by simpa using hW2))
theorem KA {xs:List Bs}{v:Value}(hxl:xs.length≤1000000000000)(hv:StL I v xs)(hw:StL I w wordsL)[hs:SplitL X L F](hW:WrS b w X l)(hn:(l++EK xs).length≤1000000000)
  (hk:∀I' X',Ext I I'→WrS b w X' (l++EK xs)→K (.tuple #[]) I' (X'++F)):CT ω 115 #[AP b,v] K I L:=by
 refine Cal.split X ?_;refine AQe ?_;unfold AMv;have he:EK xs=[40]++(Ac (xs.map nameB)++[41]):=by simp [EK]
 rw [he] at hn hk;simp only [List.length_append,List.length_cons,List.length_nil] at hn;refine BN (X:=X) hW zL (fun I1 X1 hI1 hW1=>?_);refine call (AAW (g:=nameB) (F:=F) (StL.mono hv hI1) (StL.mono hw hI1) ?_ hxl hW1 zL (fun I2 X2 hI2 hW2=>?_))
 ·intro x hxm I2 X2 l2 vx K2 hI2 hw2 hW2 hvx hn2 hk2;obtain rfl:vx= .string ⟨x.toArray⟩:=by simpa using (show [vx]=_ from hvx)
  refine YL (by kernel_rfl) ?_;exact BR (X:=X2) hW2 hw2 x hn2 hk2
 ·refine BN hW2 zL (fun I3 X3 hI3 hW3=>?_);exact Gh.done (hk I3 X3 (Ext.trans hI1 (Ext.trans hI2 hI3)) (by simpa using hW3))
end
end Go.Proofs.YtkifgfanjcfedaaGreatDoor
