/-
  Lemmas, part 8: laid together by a program.
-/
import Derived.Test.YtkifgfanjcfedaaGreatDoorP6
import Derived.Test.YtkifgfanjcfedaaGreatDoorP7
import Derived.Test.YtkifgfanjcfedaaGreatDoorProg
import Derived.Shelf.Strconv.Itoa4
import Derived.Shelf.Lays
import Derived.Ground.NamesProg
import Derived.Test.YtkifgfanjcfedaaGreatDoorP5
import Derived.Test.YtkifgfanjcfedaaGreatDoorP2
set_option maxRecDepth 100000
set_option linter.unusedVariables false
set_option linter.unusedSimpArgs false
set_option linter.unusedSectionVars false
namespace Go.Proofs.YtkifgfanjcfedaaGreatDoor
open Go.SL
theorem AAn:∀{l:Bs} {n k:Int},(∀d∈l,BQ d=true)→0≤n→n≤9223372036854775807→LD l n=some k→0≤k∧k≤9223372036854775807
 |[],n,k,_,h0,h1,h=>by simp only [LD,Option.some.injEq] at h;subst h;exact ⟨h0,h1⟩
 |d::r,n,k,hd,h0,h1,h=>by
  have hdg:=hd d (List.mem_cons_self ..);simp only [BQ,Bool.and_eq_true,decide_eq_true_eq] at hdg;have g1:(48:Nat)≤d.toNat:=hdg.1;have g2:d.toNat≤57:=hdg.2;simp only [LD] at h;split at h
  ·cases h
  ·exact AAn (fun e he=>hd e (List.mem_cons_of_mem _ he)) (by omega) (by omega) h
theorem AMM {a:Nat}:∀{l:Bs} {t:Tok} {r:Bs},Dc a l= .tok t r→ABC t
 |[],t,r,h=>by simp [Dc] at h
 |c::l,t,r,h=>by
  simp only [Dc] at h;split at h
  ·unfold IK at h;split at h
   ·cases h
   ·simp only [LexR.tok.injEq] at h;obtain ⟨rfl,_⟩:=h;refine ⟨?_,?_,?_,?_⟩
    ·simp only;split <;> decide
    ·simp only
     intro hk;split at hk
     ·rename_i hc;exact List.contains_iff_mem.1 hc
     ·exact absurd hk (by decide)
    ·simp only;intro hk;split at hk <;> exact absurd hk (by decide)
    ·simp only;intro hk;split at hk <;> exact absurd hk (by decide)
  split at h
  ·split at h
   ·cases h
   ·rename_i k hk
    split at h
    ·cases h
    ·simp only [LexR.tok.injEq] at h;obtain ⟨rfl,_⟩:=h;exact ⟨by simp,by simp,by simp,fun _=>AAn (fun d hd=>EM hd) (by omega) (by omega) hk⟩
  split at h
  ·split at h
   ·cases h
   ·split at h
    ·split at h
     ·cases h
     ·simp only [LexR.tok.injEq] at h;obtain ⟨rfl,_⟩:=h;exact ⟨by simp,by simp,by simp,by simp⟩
    ·simp only [LexR.tok.injEq] at h;obtain ⟨rfl,_⟩:=h;exact ⟨by simp,by simp,by simp,by simp⟩
  split at h
  ·cases h
  ·rename_i x hx
   simp only [LexR.tok.injEq] at h;obtain ⟨rfl,_⟩:=h;refine ⟨by simp,by simp,fun _=>?_,by simp⟩;simp only
   split
   ·decide
   ·exact List.mem_of_find?_eq_some hx
theorem QN {a:Nat}:∀{l:Bs} {e:Int},Dc a l= .bad e→e≠0
 |[],e,h=>by simp only [Dc,LexR.bad.injEq] at h;subst h;decide
 |c::l,e,h=>by
  simp only [Dc,IK] at h;repeat' split at h
  all_goals first
   |(simp only [LexR.bad.injEq] at h;subst h;decide)
   |cases h
theorem Toks.snoc:∀{l:List Tok} {t:Tok},(∀x∈l,ABC x)→t.kind=6→Toks (l++[t])
 |[],t,_,h=>h
 |[x],t,hl,h=>⟨hl x (List.mem_cons_self ..),h⟩
 |x::y::l,t,hl,h=>⟨hl x (List.mem_cons_self ..),Toks.snoc (l:=y::l) (fun z hz=>hl z (List.mem_cons_of_mem _ hz)) h⟩
theorem RX (l:Bs):Bi false (Bi false l)=Bi false l:=by
 have go:∀(b:Bool) (l:Bs),Bi false (Bi b l)=Bi b l:=by
  intro b l;induction l generalizing b with
  |nil=>cases b <;> rfl
  |cons c r ih=>
   cases b with
   |true=>
    simp only [Bi];split
    ·exact ih false
    ·exact ih true
   |false=>
    simp only [Bi];split
    ·exact ih false
    ·rename_i h1
     split
     ·exact ih true
     ·rename_i h2
      simp only [Bi,h1,h2,Bool.false_eq_true,if_false]
 exact go false l
def ACz (n f:Nat)(acc:List Tok):Bs→LexA
 |[]=>.toks (acc++[⟨6,n,[],0⟩])
 |c::r=>match Dc (n - (r.length+1)) (c::r) with
   | .bad e=>.bad ⟨e,(n - (r.length+1):Nat)⟩
   | .tok t r'=>DV n f (acc++[t]) r'
theorem PS (n f:Nat)(acc:List Tok)(s:Bs):DV n (f+1) acc s=ACz n f acc (Bi false s):=by
 rw [DV];unfold ACz;cases Bi false s <;> rfl
def YT (ω:Om)(G:Imm):Prop:=∀(K:Value→M) (I:Imm) (L:LH),Ext G I→(∀I' v,Ext I I'→StL I' v wordsL→K v I' L)→CT ω 19 #[] K I L
section
variable {ω:Om}
theorem AKF {I:Imm}{L:LH}{K:Value→M}(t:Tok)(hk:∀I' a,Ext I I'→TL I' (.slice a 1 1) [t]→Gh (K (.slice a 1 1)) I' L):
  Af 93 4 #[.int .i64 0,.int .i64 0,.string ⟨#[]⟩,.int .i64 0] 1 [(0,.agg #[.int .i64 t.kind,.int .i64 t.at',.string ⟨t.text.toArray⟩,.int .i64 t.num])] (gh K) I L:=
 EQ (R:=TokV) [t] [[.int .i64 t.kind,.int .i64 t.at',.string ⟨t.text.toArray⟩,.int .i64 t.num]] rfl rfl rfl (by simp) (by simp [TokV]) (fun hI h=>TokV.mono h) hk
theorem JS {G:Imm}(hW:YT ω G):Uj ω G:=by
 intro s K I L hG hs hok hbad;refine ASr ?_;unfold AOV;refine AV (fun b1=>?_);refine call (hW _ _ _ hG (fun I1 w hI1 hw=>?_));obtain ⟨aw,kw,rfl⟩:=RL.form hw;try simp only [SSd,Nat.reduceAdd]
 refine AV (fun b=>?_);have e0:Obj.cells #[.string ⟨s.toArray⟩,.int .i64 0,.slice aw wordsL.length kw] 145 (0,0)=LBo s 0 (.slice aw wordsL.length kw):=rfl;rw [e0];refine call (Rz (s:=s) (a:=0) (w:=.slice aw wordsL.length kw) (Nat.zero_le _) hs (fun a0 _ h0 hd0=>?_));refine loop (fun m st I2 Lx=>∃(a:Nat) (X:LH) (v:Value) (cells:List Value) (acc:List Tok) (f:Nat),a+m=s.length∧Ext I1 I2∧st=(.slice none 0 0,v,())∧Lx=X++((b,LBo s a (.slice aw wordsL.length kw))::(b1,.cells [.int .i64 0,.int .i64 0].toArray 26 (0,0))::L)∧SlO 93 4 X v cells acc.length∧Recs (TokV I2) 4 acc cells∧(∀t∈acc,ABC t)∧acc.length≤a∧s.length - a≤f∧Bi false (s.drop a)=s.drop a∧KH s=ACz s.length f acc (s.drop a)) (s.length - a0)
  ⟨a0,[],_,[],[],s.length,by omega,Ext.refl _,rfl,rfl,SlO.none _ _,rfl,(fun t h=>by cases h),by simp,by omega,by rw [hd0,RX],by rw [hd0];exact PS s.length s.length [] s⟩ ?_
 rintro m st I2 Lx ⟨a,X,v,cells,acc,f,hm,hI2,rfl,rfl,hX,hR,hTk,hal,hf,hsk,hlx⟩;obtain ⟨av,kv,rfl⟩:=hX.form;unfold ADq;try simp only [SSd,Nat.reduceAdd]
 refine rdb ?_;try simp only [SSd,Nat.reduceAdd]
 refine AB (fun hb=>?_) (fun hb=>?_)
 ·have ha:a < s.length:=by
   have:=of_decide_eq_true hb;omega
  obtain ⟨c,hc,hd⟩:=Qc ha;have hla:s.length - ((s.drop (a+1)).length+1)=a:=by rw [List.length_drop];omega
  have hlx:KH s=match Dc a (s.drop a) with
    | .bad e=>.bad ⟨e,(a:Nat)⟩
    | .tok t r'=>DV s.length f (acc++[t]) r':=by
   rw [hlx,hd];simp only [ACz,hla]
  refine call (ACH (s:=s) (a:=a) (w:=.slice aw wordsL.length kw) ha hs (StL.mono hw hI2) ⟨fun t r ht I3 a' hI3 h1 h2 hdr=>?_,fun e he=>⟨QN he,fun I3 a' k x n hI3=>?_⟩⟩)
  ·rw [ht] at hlx;simp only at hlx
   repeat' (first|(with_reducible first|refine Ag ?_|refine Ac ?_|refine Aa ?_|refine keepA ?_|refine AV (fun _=>?_)|refine rdb ?_)|((with_reducible first|refine st1 ?_ ?_|refine rdB ?_ ?_);rfl)|(with_reducible refine Ai ?_)|((with_reducible refine Az ?_ ?_);rfl)|((with_reducible refine stB ?_ ?_ ?_ ?_);rfl;rfl;exact AO rfl)|((with_reducible first|refine rdP _ rfl ?_ ?_|refine BB _ rfl ?_ ?_);rfl)|((with_reducible refine stP _ rfl ?_ ?_ ?_ ?_);rfl;rfl;rfl)|(with_reducible refine And.intro ?_ ?_)|(simp only [SSg,Int.reduceBEq,Int.reduceBNe,Int.reduceLT,Int.reduceLE,beq_self_eq_true,bne_self_eq_false])|(with_reducible first|refine AP (fun _=>?_) (fun _=>?_)|refine AB (fun _=>?_) (fun _=>?_))|(simp only [SSd,Nat.reduceAdd,Ic]))
   refine AKF t (fun I4 a4 hI4 hw4=>Gh.done ?_);obtain ⟨c4,s4,r4⟩:=RL.toI (by decide) hw4;refine DX (X:=X) rfl hX s4.news (r4.one_cells fun x c h=>by rw [show c=_ from h];exact AO rfl) zL zL (fun X5 w5 hX5=>?_);have e5:acc.length+[t].length=(acc++[t]).length:=by simp
   rw [e5] at hX5;have hR5:=Recs.append (Recs.imp (R':=TokV I4) (fun _ _ h=>h) hR) r4;refine call (Rz (s:=s) (a:=a') (w:=.slice aw wordsL.length kw) h2 hs (fun a6 h6 h7 hd6=>?_));obtain ⟨f,rfl⟩:∃q,f=q+1:=⟨f - 1,by omega⟩;rw [←hdr,PS,←hd6] at hlx;refine Gh.to (X5++((b,LBo s a6 (.slice aw wordsL.length kw))::(b1,.cells [.int .i64 0,.int .i64 0].toArray 26 (0,0))::L)) (Gh.done ⟨s.length - a6,by omega,a6,X5,w5,_,acc++[t],f,by omega,Ext.trans hI2 (Ext.trans hI3 hI4),rfl,rfl,hX5,hR5,?_,by simp;omega,by omega,by rw [hd6,RX],hlx⟩);intro x hx;rcases List.mem_append.1 hx with hx|hx
   ·exact hTk x hx
   ·rw [List.mem_singleton.1 hx];exact AMM ht
  ·rw [he] at hlx;have hne:=QN he;repeat' (first|(with_reducible first|refine Ag ?_|refine Ac ?_|refine Aa ?_|refine keepA ?_|refine AV (fun _=>?_)|refine rdb ?_)|((with_reducible first|refine st1 ?_ ?_|refine rdB ?_ ?_);rfl)|(with_reducible refine Ai ?_)|((with_reducible refine Az ?_ ?_);rfl)|((with_reducible refine stB ?_ ?_ ?_ ?_);rfl;rfl;exact AO rfl)|((with_reducible first|refine rdP _ rfl ?_ ?_|refine BB _ rfl ?_ ?_);rfl)|((with_reducible refine stP _ rfl ?_ ?_ ?_ ?_);rfl;rfl;rfl)|(with_reducible refine And.intro ?_ ?_)|(simp only [SSg,Int.reduceBEq,Int.reduceBNe,Int.reduceLT,Int.reduceLE,beq_self_eq_true,bne_self_eq_false])|(with_reducible first|refine AP (fun _=>?_) (fun _=>?_)|refine AB (fun _=>?_) (fun _=>?_))|(simp only [SSd,Nat.reduceAdd,Ic]))
   ·rename_i hz
    have hz:=hz;exact Gh.to L (Gh.done (hbad _ hlx hne I3 none 0 0 (Ext.trans hI1 (Ext.trans hI2 hI3))))
   ·rename_i hz
    exact absurd (by simpa using hz) hne
 ·have ha:¬a < s.length:=by
   have:=of_decide_eq_false hb;omega
  have hdn:s.drop a=[]:=List.drop_eq_nil_of_le (by omega);rw [hdn] at hlx;unfold ADp;repeat' (first|(with_reducible first|refine Ag ?_|refine Ac ?_|refine Aa ?_|refine keepA ?_|refine AV (fun _=>?_)|refine rdb ?_)|((with_reducible first|refine st1 ?_ ?_|refine rdB ?_ ?_);rfl)|(with_reducible refine Ai ?_)|((with_reducible refine Az ?_ ?_);rfl)|((with_reducible refine stB ?_ ?_ ?_ ?_);rfl;rfl;exact AO rfl)|((with_reducible first|refine rdP _ rfl ?_ ?_|refine BB _ rfl ?_ ?_);rfl)|((with_reducible refine stP _ rfl ?_ ?_ ?_ ?_);rfl;rfl;rfl)|(with_reducible refine And.intro ?_ ?_)|(simp only [SSg,Int.reduceBEq,Int.reduceBNe,Int.reduceLT,Int.reduceLE,beq_self_eq_true,bne_self_eq_false])|(with_reducible first|refine AP (fun _=>?_) (fun _=>?_)|refine AB (fun _=>?_) (fun _=>?_))|(simp only [SSd,Nat.reduceAdd]))
  refine AKF (⟨6,s.length,[],0⟩:Tok) (fun I4 a4 hI4 hw4=>Gh.done ?_);obtain ⟨c4,s4,r4⟩:=RL.toI (by decide) hw4;refine DX (X:=X) rfl hX s4.news (r4.one_cells fun x c h=>by rw [show c=_ from h];exact AO rfl) zL zL (fun X5 w5 hX5=>?_);have e5:acc.length+[(⟨6,s.length,[],0⟩:Tok)].length=(acc++[(⟨6,s.length,[],0⟩:Tok)]).length:=by simp
  rw [e5] at hX5;have hR5:=Recs.append (Recs.imp (R':=TokV I4) (fun _ _ h=>h) hR) r4;obtain ⟨a5,k5,rfl⟩:=hX5.form;repeat' (first|(with_reducible first|refine Ag ?_|refine Ac ?_|refine Aa ?_|refine keepA ?_|refine AV (fun _=>?_)|refine rdb ?_)|((with_reducible first|refine st1 ?_ ?_|refine rdB ?_ ?_);rfl)|(with_reducible refine Ai ?_)|((with_reducible refine Az ?_ ?_);rfl)|((with_reducible refine stB ?_ ?_ ?_ ?_);rfl;rfl;exact AO rfl)|((with_reducible first|refine rdP _ rfl ?_ ?_|refine BB _ rfl ?_ ?_);rfl)|((with_reducible refine stP _ rfl ?_ ?_ ?_ ?_);rfl;rfl;rfl)|(with_reducible refine And.intro ?_ ?_)|(simp only [SSg,Int.reduceBEq,Int.reduceBNe,Int.reduceLT,Int.reduceLE,beq_self_eq_true,bne_self_eq_false])|(with_reducible first|refine AP (fun _=>?_) (fun _=>?_)|refine AB (fun _=>?_) (fun _=>?_))|(simp only [SSd,Nat.reduceAdd]))
  refine Gh.to (X5++L) ?_;refine RL.ofO (R:=TokV) (fun {I I' x c} h hI=>h) hX5 hR5 (fun I6 hI6 hw6=>Gh.done ?_);exact hok _ hlx (Toks.snoc hTk rfl) (by simp;omega) I6 _ (Ext.trans hI1 (Ext.trans hI2 (Ext.trans hI4 hI6))) hw6
end
end Go.Proofs.YtkifgfanjcfedaaGreatDoor
namespace Go.Proofs
open Go.Shelf
def Tryz.lay173_ren:Go.Shelf.Ren:=⟨fun|173=>212|246=>223|283=>235|284=>236|285=>237|286=>238|129=>245|317=>244|318=>246|319=>247|320=>248|337=>256|338=>257|n=>n,fun|2=>2|3=>3|9=>9|4=>4|171=>267|0=>0|53=>268|37=>71|5=>5|173=>271|212=>275|51=>173|20=>20|213=>276|46=>252|232=>282|233=>283|n=>n,fun|17=>5|18=>6|19=>7|n=>n⟩
theorem Tryz.lay173:Go.Proofs.LaysM.n173 Tryz.prog Tryz.lay173_ren:={
 mixed:=by kernel_rfl
 f129:=Tryz.func245.trans (congrArg some (by kernel_rfl))
 f173:=Tryz.func212.trans (congrArg some (by kernel_rfl))
 f246:=Tryz.func223.trans (congrArg some (by kernel_rfl))
 f283:=Tryz.func235.trans (congrArg some (by kernel_rfl))
 f284:=Tryz.func236.trans (congrArg some (by kernel_rfl))
 f285:=Tryz.func237.trans (congrArg some (by kernel_rfl))
 f286:=Tryz.func238.trans (congrArg some (by kernel_rfl))
 f317:=Tryz.func244.trans (congrArg some (by kernel_rfl))
 f318:=Tryz.func246.trans (congrArg some (by kernel_rfl))
 f319:=Tryz.func247.trans (congrArg some (by kernel_rfl))
 f320:=Tryz.func248.trans (congrArg some (by kernel_rfl))
 f337:=Tryz.func256.trans (congrArg some (by kernel_rfl))
 f338:=Tryz.func257.trans (congrArg some (by kernel_rfl))
 t0:=Tryz.underlying0
 a0:=Tryz.isAgg0
 z0:=Tryz.sizeOf0
 v0:=Tryz.zeroValue0
 t2:=Tryz.underlying2
 a2:=Tryz.isAgg2
 z2:=Tryz.sizeOf2
 v2:=Tryz.zeroValue2
 t3:=Tryz.underlying3
 a3:=Tryz.isAgg3
 z3:=Tryz.sizeOf3
 v3:=Tryz.zeroValue3
 t4:=Tryz.underlying4
 a4:=Tryz.isAgg4
 z4:=Tryz.sizeOf4
 v4:=Tryz.zeroValue4
 t5:=Tryz.underlying5
 a5:=Tryz.isAgg5
 z5:=Tryz.sizeOf5
 v5:=Tryz.zeroValue5
 t9:=Tryz.underlying9
 a9:=Tryz.isAgg9
 z9:=Tryz.sizeOf9
 v9:=Tryz.zeroValue9
 t20:=Tryz.underlying20
 a20:=Tryz.isAgg20
 z20:=Tryz.sizeOf20
 v20:=Tryz.zeroValue20
 t37:=Tryz.underlying71
 a37:=Tryz.isAgg71
 z37:=Tryz.sizeOf71
 v37:=Tryz.zeroValue71
 t46:=Tryz.underlying252
 a46:=Tryz.isAgg252
 z46:=Tryz.sizeOf252
 v46:=Tryz.zeroValue252
 t51:=Tryz.underlying173
 a51:=Tryz.isAgg173
 z51:=Tryz.sizeOf173
 v51:=Tryz.zeroValue173
 t53:=Tryz.underlying268
 a53:=Tryz.isAgg268
 z53:=Tryz.sizeOf268
 v53:=Tryz.zeroValue268
 t171:=Tryz.underlying267
 a171:=Tryz.isAgg267
 z171:=Tryz.sizeOf267
 v171:=Tryz.zeroValue267
 t173:=Tryz.underlying271
 a173:=Tryz.isAgg271
 z173:=Tryz.sizeOf271
 v173:=Tryz.zeroValue271
 t212:=Tryz.underlying275
 a212:=Tryz.isAgg275
 z212:=Tryz.sizeOf275
 v212:=Tryz.zeroValue275
 t213:=Tryz.underlying276
 a213:=Tryz.isAgg276
 z213:=Tryz.sizeOf276
 t232:=Tryz.underlying282
 a232:=Tryz.isAgg282
 z232:=Tryz.sizeOf282
 v232:=Tryz.zeroValue282
 t233:=Tryz.underlying283
 a233:=Tryz.isAgg283
 z233:=Tryz.sizeOf283
 v233:=Tryz.zeroValue283
 g17:=by kernel_rfl
 g18:=by kernel_rfl
 g19:=by kernel_rfl
 i0:=by kernel_rfl
 i2:=by kernel_rfl
 i3:=by kernel_rfl
 i4:=by kernel_rfl
 i5:=by kernel_rfl
 i9:=by kernel_rfl
 i20:=by kernel_rfl
 i37:=by kernel_rfl
 i46:=by kernel_rfl
 i51:=by kernel_rfl
 i53:=by kernel_rfl
 i171:=by kernel_rfl
 i173:=by kernel_rfl
 i212:=by kernel_rfl
 i232:=by kernel_rfl
 i233:=by kernel_rfl
 m17:=by kernel_rfl
 m18:=by kernel_rfl
 m19:=by kernel_rfl}
def Tryz.lay171_ren:Go.Shelf.Ren:=⟨fun|171=>171|243=>208|246=>223|283=>235|284=>236|285=>237|286=>238|129=>245|317=>244|318=>246|319=>247|320=>248|337=>256|338=>257|n=>n,fun|3=>3|9=>9|2=>2|4=>4|171=>267|0=>0|53=>268|37=>71|5=>5|173=>271|212=>275|51=>173|20=>20|213=>276|46=>252|232=>282|233=>283|n=>n,fun|17=>5|18=>6|19=>7|n=>n⟩
theorem Tryz.lay171:Go.Proofs.LaysM.n171 Tryz.prog Tryz.lay171_ren:={
 mixed:=by kernel_rfl
 f129:=Tryz.func245.trans (congrArg some (by kernel_rfl))
 f171:=Tryz.func171.trans (congrArg some (by kernel_rfl))
 f243:=Tryz.func208.trans (congrArg some (by kernel_rfl))
 f246:=Tryz.func223.trans (congrArg some (by kernel_rfl))
 f283:=Tryz.func235.trans (congrArg some (by kernel_rfl))
 f284:=Tryz.func236.trans (congrArg some (by kernel_rfl))
 f285:=Tryz.func237.trans (congrArg some (by kernel_rfl))
 f286:=Tryz.func238.trans (congrArg some (by kernel_rfl))
 f317:=Tryz.func244.trans (congrArg some (by kernel_rfl))
 f318:=Tryz.func246.trans (congrArg some (by kernel_rfl))
 f319:=Tryz.func247.trans (congrArg some (by kernel_rfl))
 f320:=Tryz.func248.trans (congrArg some (by kernel_rfl))
 f337:=Tryz.func256.trans (congrArg some (by kernel_rfl))
 f338:=Tryz.func257.trans (congrArg some (by kernel_rfl))
 t0:=Tryz.underlying0
 a0:=Tryz.isAgg0
 z0:=Tryz.sizeOf0
 v0:=Tryz.zeroValue0
 t2:=Tryz.underlying2
 a2:=Tryz.isAgg2
 z2:=Tryz.sizeOf2
 v2:=Tryz.zeroValue2
 t3:=Tryz.underlying3
 a3:=Tryz.isAgg3
 z3:=Tryz.sizeOf3
 v3:=Tryz.zeroValue3
 t4:=Tryz.underlying4
 a4:=Tryz.isAgg4
 z4:=Tryz.sizeOf4
 v4:=Tryz.zeroValue4
 t5:=Tryz.underlying5
 a5:=Tryz.isAgg5
 z5:=Tryz.sizeOf5
 v5:=Tryz.zeroValue5
 t9:=Tryz.underlying9
 a9:=Tryz.isAgg9
 z9:=Tryz.sizeOf9
 v9:=Tryz.zeroValue9
 t20:=Tryz.underlying20
 a20:=Tryz.isAgg20
 z20:=Tryz.sizeOf20
 v20:=Tryz.zeroValue20
 t37:=Tryz.underlying71
 a37:=Tryz.isAgg71
 z37:=Tryz.sizeOf71
 v37:=Tryz.zeroValue71
 t46:=Tryz.underlying252
 a46:=Tryz.isAgg252
 z46:=Tryz.sizeOf252
 v46:=Tryz.zeroValue252
 t51:=Tryz.underlying173
 a51:=Tryz.isAgg173
 z51:=Tryz.sizeOf173
 v51:=Tryz.zeroValue173
 t53:=Tryz.underlying268
 a53:=Tryz.isAgg268
 z53:=Tryz.sizeOf268
 v53:=Tryz.zeroValue268
 t171:=Tryz.underlying267
 a171:=Tryz.isAgg267
 z171:=Tryz.sizeOf267
 v171:=Tryz.zeroValue267
 t173:=Tryz.underlying271
 a173:=Tryz.isAgg271
 z173:=Tryz.sizeOf271
 v173:=Tryz.zeroValue271
 t212:=Tryz.underlying275
 a212:=Tryz.isAgg275
 z212:=Tryz.sizeOf275
 v212:=Tryz.zeroValue275
 t213:=Tryz.underlying276
 a213:=Tryz.isAgg276
 z213:=Tryz.sizeOf276
 t232:=Tryz.underlying282
 a232:=Tryz.isAgg282
 z232:=Tryz.sizeOf282
 v232:=Tryz.zeroValue282
 t233:=Tryz.underlying283
 a233:=Tryz.isAgg283
 z233:=Tryz.sizeOf283
 v233:=Tryz.zeroValue283
 g17:=by kernel_rfl
 g18:=by kernel_rfl
 g19:=by kernel_rfl
 i0:=by kernel_rfl
 i2:=by kernel_rfl
 i3:=by kernel_rfl
 i4:=by kernel_rfl
 i5:=by kernel_rfl
 i9:=by kernel_rfl
 i20:=by kernel_rfl
 i37:=by kernel_rfl
 i46:=by kernel_rfl
 i51:=by kernel_rfl
 i53:=by kernel_rfl
 i171:=by kernel_rfl
 i173:=by kernel_rfl
 i212:=by kernel_rfl
 i232:=by kernel_rfl
 i233:=by kernel_rfl
 m17:=by kernel_rfl
 m18:=by kernel_rfl
 m19:=by kernel_rfl}
end Go.Proofs
namespace Go.Proofs.YtkifgfanjcfedaaGreatDoor
open Go.SL
def FI (G : Imm) : Prop := ∃ g T fr, Tryz.prog.globalNamed "internal/strconv.uint64pow10" = some g ∧ G g = some (.cells (Lib.pow10Tab.map fun z => Value.int .u64 z).toArray T fr)
theorem Qe:∀(f n:Nat) (acc:Bs),n < f→AJG f n acc=Lib.decDigits n++acc
 |0,n,acc,h=>by omega
 |f+1,n,acc,h=>by
  rw [AJG,Lib.decDigits];split
  ·rfl
  ·rw [Qe f (n / 10) _ (by omega),List.append_assoc];rfl
theorem Sv (n:Int):Qg true n=Lib.itoa n:=by
 unfold Qg Lib.itoa;split
 ·simp only [if_true];rw [Qe _ _ _ (by omega),List.append_nil]
 ·rw [Qe _ _ _ (by omega),List.append_nil]
section
variable {ω:Om}{I:Imm}{L:LH}{K:Value→M}
theorem St.grows {w:World}{k:Nat}{os:Array Obj}(hs:St ω w I L):St ω (Sort.grow (w.drewN k) os) I L:=by
 have hd:St ω (w.drewN k) I L:=hs.drew (Nat.le_add_right _ _);refine ⟨fun b o hb=>?_,fun b o hb=>?_,hd.nodup,hd.apart,hd.tape,hd.os,hd.out,hd.dr⟩
 ·have:=hd.imm b o hb;show ((w.drewN k).heap++os)[b]? =some o;rw [Array.getElem?_append_left (Array.getElem?_eq_some_iff.1 this).1];exact this
 ·have:=hd.own b o hb;show ((w.drewN k).heap++os)[b]? =some o;rw [Array.getElem?_append_left (Array.getElem?_eq_some_iff.1 this).1];exact this
theorem AAh {G : Imm}{w : World}(hG : FI G)(hI : Ext G I)(hs : St ω w I L) : Lib.TabIs Tryz.prog w "internal/strconv.uint64pow10" .u64 Lib.pow10Tab := by
 obtain ⟨g,T,fr,h1,h2⟩:=hG;unfold Lib.TabIs World.var?;rw [h1];have:=hs.imm g _ (hI g _ h2);simp only [Option.bind_some,this]
theorem QT {G:Imm}(hG:FI G)(hI:Ext G I)(n:Int)(h0: -9223372036854775808≤n)(h1:n≤9223372036854775807)(hk:K (.string ⟨(Qg true n).toArray⟩) I L):CT ω 212 #[.int .i64 n,.int .i64 10] K I L:=fun w hs=>by
 have h:=Go.Proofs.Any.strconv_FormatInt_10 Go.Proofs.Tryz.lay173 n h0 h1 w (AAh hG hI hs);refine Calls.mono h ?_;rintro e w' ⟨rfl,k,os,rfl⟩;rw [Sv] at hk;exact ⟨_,I,L,rfl,St.grows hs,hk⟩
theorem SN {G:Imm}(hG:FI G)(hI:Ext G I)(n:Int)(h0: -9223372036854775808≤n)(h1:n≤9223372036854775807)(hk:K (.string ⟨(Qg true n).toArray⟩) I L):CT ω 171 #[.int .i64 n] K I L:=fun w hs=>by
 have h:=Go.Proofs.Any.strconv_Itoa Go.Proofs.Tryz.lay171 n h0 h1 w (AAh hG hI hs);refine Calls.mono h ?_;rintro e w' ⟨rfl,k,os,rfl⟩;rw [Sv] at hk;exact ⟨_,I,L,rfl,St.grows hs,hk⟩
end
def okc (c:UInt8):Bool:=(CY c||BQ c)&& !(65≤c&&c≤90)
theorem UN (c:UInt8):okc c=((CY c||BQ c)&&(decide ((c.toNat:Int) < 65)||decide ((90:Int) < c.toNat))):=by
 have:=KX (p:=fun c=>okc c==((CY c||BQ c)&&(decide ((c.toNat:Int) < 65)||decide ((90:Int) < c.toNat)))) (by decide+kernel) c;exact eq_of_beq this
theorem ACC (s:Bs):MB s=((!s.isEmpty&&(!s.head?.any BQ&& !wordsL.contains s))&&s.all okc):=by
 unfold MB okc;simp only [Bool.and_assoc]
theorem Qs {p:UInt8→Bool}{s:Bs}{i:Nat}(h:i < s.length):(s.take (i+1)).all p=((s.take i).all p&&p s[i]):=by
 rw [List.take_succ_eq_append_getElem h,List.all_append];simp
theorem Xt {ω:Om}{I:Imm}{L:LH}{K:Value→M}{s:Bs}{pl:Bool}{p0:Value}(hs:s.length≤1000000000)(hk:Hy ω p0 (.string ⟨s.toArray⟩) (.bool (pl&&s.all okc)) (fun v=>Gh (K v)) I L):
  BD ((.bool pl,.int .i64 0,()):Value×Value×Unit) (fun st Kn=>Tv ω p0 (.string ⟨s.toArray⟩) (.int .i64 s.length) st.1 st.2.1 Kn (fun v=>Gh (K v))) I L:=by
 refine loop (fun q st I' L'=>∃i:Nat,i+q=s.length∧st=(Value.bool (pl&&(s.take i).all okc),Value.int .i64 (i:Nat),())∧I'=I∧L'=L) s.length ⟨0,by omega,by simp,rfl,rfl⟩ ?_;rintro q st I' L' ⟨i,hq,rfl,rfl,rfl⟩;unfold Tv;try simp only [SSd,Nat.reduceAdd]
 refine AB (fun hb=>?_) (fun hb=>?_)
 ·have hb:i < s.length:=by
   have:=of_decide_eq_true hb;omega
  have hc:s[i]? =some s[i]:=List.getElem?_eq_getElem hb;have hat:=Qs (p:=okc) hb;rw [UN] at hat;generalize s[i]=c at hc hat;generalize (s.take i).all okc=tk at hat ⊢;repeat' (first|(with_reducible first|refine Ag ?_|refine Ac ?_|refine Aa ?_|refine keepA ?_|refine AV (fun _=>?_))|((with_reducible refine call ?_);with_reducible refine Eh c ?_)|((with_reducible refine call ?_);with_reducible refine EZ c ?_)|(with_reducible refine rdb ?_)|((with_reducible first|refine st1 ?_ ?_|refine rdB ?_ ?_);rfl)|(with_reducible refine Ai ?_)|((with_reducible refine Az ?_ ?_);rfl)|((with_reducible refine stB ?_ ?_ ?_ ?_);rfl;rfl;exact AO rfl)|((with_reducible first|refine rdP _ rfl ?_ ?_|refine BB _ rfl ?_ ?_);rfl)|((with_reducible refine stP _ rfl ?_ ?_ ?_ ?_);rfl;rfl;rfl)|(with_reducible refine And.intro ?_ ?_)|(simp only [SSg,Int.reduceBEq,Int.reduceBNe,Int.reduceLT,Int.reduceLE,beq_self_eq_true,bne_self_eq_false])|(with_reducible first|refine AP (fun _=>?_) (fun _=>?_)|refine AB (fun _=>?_) (fun _=>?_))|(simp only [SSd,Nat.reduceAdd,ixS s hc,wrap_i64 ((i:Int)+1) (by omega)]))
  all_goals (refine Gh.done ⟨q - 1,by omega,i+1,by omega,?_,rfl,rfl⟩;rw [hat];clear hk hat;simp_all;try omega)
 ·have hb:¬i < s.length:=by
   have:=of_decide_eq_false hb;omega
  rw [List.take_of_length_le (by omega)];exact hk
theorem Xr {ω:Om}{I:Imm}{L:LH}{K:Value→M}{s:Bs}{pl:Bool}{p0:Value}(hs:s.length≤1000000000)(hk:Hy ω p0 (.string ⟨s.toArray⟩) (.bool (pl&&s.all okc)) (fun v=>Gh (K v)) I L):
  BD ((.bool pl,.int .i64 0,()):Value×Value×Unit) (fun st Kn=>Tu ω p0 (.string ⟨s.toArray⟩) (.int .i64 s.length) st.1 st.2.1 Kn (fun v=>Gh (K v))) I L:=by
 refine loop (fun q st I' L'=>∃i:Nat,i+q=s.length∧st=(Value.bool (pl&&(s.take i).all okc),Value.int .i64 (i:Nat),())∧I'=I∧L'=L) s.length ⟨0,by omega,by simp,rfl,rfl⟩ ?_;rintro q st I' L' ⟨i,hq,rfl,rfl,rfl⟩;unfold Tu;try simp only [SSd,Nat.reduceAdd]
 refine AB (fun hb=>?_) (fun hb=>?_)
 ·have hb:i < s.length:=by
   have:=of_decide_eq_true hb;omega
  have hc:s[i]? =some s[i]:=List.getElem?_eq_getElem hb;have hat:=Qs (p:=okc) hb;rw [UN] at hat;generalize s[i]=c at hc hat;generalize (s.take i).all okc=tk at hat ⊢;repeat' (first|(with_reducible first|refine Ag ?_|refine Ac ?_|refine Aa ?_|refine keepA ?_|refine AV (fun _=>?_))|((with_reducible refine call ?_);with_reducible refine Eh c ?_)|((with_reducible refine call ?_);with_reducible refine EZ c ?_)|(with_reducible refine rdb ?_)|((with_reducible first|refine st1 ?_ ?_|refine rdB ?_ ?_);rfl)|(with_reducible refine Ai ?_)|((with_reducible refine Az ?_ ?_);rfl)|((with_reducible refine stB ?_ ?_ ?_ ?_);rfl;rfl;exact AO rfl)|((with_reducible first|refine rdP _ rfl ?_ ?_|refine BB _ rfl ?_ ?_);rfl)|((with_reducible refine stP _ rfl ?_ ?_ ?_ ?_);rfl;rfl;rfl)|(with_reducible refine And.intro ?_ ?_)|(simp only [SSg,Int.reduceBEq,Int.reduceBNe,Int.reduceLT,Int.reduceLE,beq_self_eq_true,bne_self_eq_false])|(with_reducible first|refine AP (fun _=>?_) (fun _=>?_)|refine AB (fun _=>?_) (fun _=>?_))|(simp only [SSd,Nat.reduceAdd,ixS s hc,wrap_i64 ((i:Int)+1) (by omega)]))
  all_goals (refine Gh.done ⟨q - 1,by omega,i+1,by omega,?_,rfl,rfl⟩;rw [hat];clear hk hat;simp_all;try omega)
 ·have hb:¬i < s.length:=by
   have:=of_decide_eq_false hb;omega
  rw [List.take_of_length_le (by omega)];exact hk
theorem Xq {ω:Om}{I:Imm}{L:LH}{K:Value→M}{s:Bs}{pl:Bool}{p0:Value}(hs:s.length≤1000000000)(hk:Hy ω p0 (.string ⟨s.toArray⟩) (.bool (pl&&s.all okc)) (fun v=>Gh (K v)) I L):
  BD ((.bool pl,.int .i64 0,()):Value×Value×Unit) (fun st Kn=>Tt ω p0 (.string ⟨s.toArray⟩) (.int .i64 s.length) st.1 st.2.1 Kn (fun v=>Gh (K v))) I L:=by
 refine loop (fun q st I' L'=>∃i:Nat,i+q=s.length∧st=(Value.bool (pl&&(s.take i).all okc),Value.int .i64 (i:Nat),())∧I'=I∧L'=L) s.length ⟨0,by omega,by simp,rfl,rfl⟩ ?_;rintro q st I' L' ⟨i,hq,rfl,rfl,rfl⟩;unfold Tt;try simp only [SSd,Nat.reduceAdd]
 refine AB (fun hb=>?_) (fun hb=>?_)
 ·have hb:i < s.length:=by
   have:=of_decide_eq_true hb;omega
  have hc:s[i]? =some s[i]:=List.getElem?_eq_getElem hb;have hat:=Qs (p:=okc) hb;rw [UN] at hat;generalize s[i]=c at hc hat;generalize (s.take i).all okc=tk at hat ⊢;repeat' (first|(with_reducible first|refine Ag ?_|refine Ac ?_|refine Aa ?_|refine keepA ?_|refine AV (fun _=>?_))|((with_reducible refine call ?_);with_reducible refine Eh c ?_)|((with_reducible refine call ?_);with_reducible refine EZ c ?_)|(with_reducible refine rdb ?_)|((with_reducible first|refine st1 ?_ ?_|refine rdB ?_ ?_);rfl)|(with_reducible refine Ai ?_)|((with_reducible refine Az ?_ ?_);rfl)|((with_reducible refine stB ?_ ?_ ?_ ?_);rfl;rfl;exact AO rfl)|((with_reducible first|refine rdP _ rfl ?_ ?_|refine BB _ rfl ?_ ?_);rfl)|((with_reducible refine stP _ rfl ?_ ?_ ?_ ?_);rfl;rfl;rfl)|(with_reducible refine And.intro ?_ ?_)|(simp only [SSg,Int.reduceBEq,Int.reduceBNe,Int.reduceLT,Int.reduceLE,beq_self_eq_true,bne_self_eq_false])|(with_reducible first|refine AP (fun _=>?_) (fun _=>?_)|refine AB (fun _=>?_) (fun _=>?_))|(simp only [SSd,Nat.reduceAdd,ixS s hc,wrap_i64 ((i:Int)+1) (by omega)]))
  all_goals (refine Gh.done ⟨q - 1,by omega,i+1,by omega,?_,rfl,rfl⟩;rw [hat];clear hk hat;simp_all;try omega)
 ·have hb:¬i < s.length:=by
   have:=of_decide_eq_false hb;omega
  rw [List.take_of_length_le (by omega)];exact hk
section
variable {ω:Om}{I:Imm}{L F:LH}{K:Value→M}{b:Nat}{w:Value}{X:LH}{l:Bs}
theorem AIf (s:Bs):s.length≤(nameB s).length:=by
 unfold nameB;split
 ·exact Nat.le_refl _
 ·show s.length≤(Kt 34 s).length;have:=Uc 34 s;have h:Kt 34 s=[34]++(Dt 34 s++[34]):=rfl;rw [h];simp only [List.length_append];omega
theorem BV [hs:SplitL X L F](hW:WrS b w X l)(hw:StL I w wordsL)(s:Bs)(hn:(l++nameB s).length≤1000000000)(hk:∀I' X',Ext I I'→WrS b w X' (l++nameB s)→K (.tuple #[]) I' (X'++F)):
  CT ω 114 #[AY b,.string ⟨s.toArray⟩] K I L:=by
 have hsl:s.length≤1000000000:=by have:=AIf s;rw [List.length_append] at hn;omega
 refine Cal.split X ?_;refine ARP ?_;unfold AHM;have fin:∀pl:Bool,(pl&&s.all okc)=MB s→Hy ω (AY b) (.string ⟨s.toArray⟩) (.bool (pl&&s.all okc)) (fun v=>Gh (K v)) I (X++F):=by
  intro pl hpl;rw [hpl];unfold Hy;unfold nameB at hn hk;cases hp:MB s with
  |true=>
   rw [hp] at hn hk;try simp only [SSd,Nat.reduceAdd]
   refine BP hW (by simpa using hn) (fun I' X' hI' hW'=>Gh.done (hk I' X' hI' (by simpa using hW')))
  |false=>
   rw [hp] at hn hk;try simp only [SSd,Nat.reduceAdd]
   refine call (QB hW s 34 (by simpa using hn) (fun I' X' hI' hW'=>Gh.done (hk I' X' hI' (by simpa using hW'))))
 have hpe:=ACC s;cases s with
 |nil=>
  have e0:((([]:Bs)==[])=true):=rfl;simp only [sNe,UH,e0,Bool.not_true,SSd,Nat.reduceAdd];exact Xq hsl (fin false (by rw [hpe];rfl))
 |cons c r=>
  have e0:((c::r)==([]:Bs))=false:=rfl;have hc0:(c::r)[0]? =some c:=rfl;simp only [sNe,UH,e0,Bool.not_false,show (.int .i64 0:Value)= .int .i64 ((0:Nat):Int) from rfl,ixS (c::r) hc0,SSd,Nat.reduceAdd];refine call (EZ c ?_);simp only [List.isEmpty_cons,List.head?_cons,Option.any_some,Bool.not_false,Bool.true_and] at hpe;cases hd:BQ c with
  |true=>
   rw [hd] at hpe;simp only [SSd,Nat.reduceAdd,UH];exact Xr hsl (fin false (by rw [hpe];rfl))
  |false=>
   rw [hd] at hpe;obtain ⟨p,v,X0,hp,hX,rfl⟩:=hW;simp only [List.append_assoc,List.cons_append,List.nil_append,SSd,Nat.reduceAdd] at fin ⊢;refine rdb ?_;refine call (KU hw (by decide) (c::r) ?_);simp only [SSd,Nat.reduceAdd,UH];exact Xt hsl (fin _ (by rw [hpe];rfl))
def ADU (k:Int):Option Value:=(Gs k).map fun x=>.agg #[.string ⟨x.1.toArray⟩,.int .i64 x.2]
theorem AKj:EH (EH (EH (EH (EH (EH (EH (EH (EH (EH (EH (EH (EH (EH (EH ((fun _=>none)) 22 (some (.agg #[.string ⟨[111,114].toArray⟩,.int .i64 1]))) 21 (some (.agg #[.string ⟨[97,110,100].toArray⟩,.int .i64 2]))) 23 (some (.agg #[.string ⟨[108,105,107,101].toArray⟩,.int .i64 4]))) 15 (some (.agg #[.string ⟨[61].toArray⟩,.int .i64 4]))) 16 (some (.agg #[.string ⟨[60,62].toArray⟩,.int .i64 4]))) 17 (some (.agg #[.string ⟨[60].toArray⟩,.int .i64 4]))) 18 (some (.agg #[.string ⟨[60,61].toArray⟩,.int .i64 4]))) 19 (some (.agg #[.string ⟨[62].toArray⟩,.int .i64 4]))) 20 (some (.agg #[.string ⟨[62,61].toArray⟩,.int .i64 4]))) 9 (some (.agg #[.string ⟨[43].toArray⟩,.int .i64 5]))) 10 (some (.agg #[.string ⟨[45].toArray⟩,.int .i64 5]))) 14 (some (.agg #[.string ⟨[124,124].toArray⟩,.int .i64 5]))) 11 (some (.agg #[.string ⟨[42].toArray⟩,.int .i64 6]))) 12 (some (.agg #[.string ⟨[47].toArray⟩,.int .i64 6]))) 13 (some (.agg #[.string ⟨[37].toArray⟩,.int .i64 6]))=ADU:=by
 funext k
 simp only [EH,ADU,Gs];by_cases h22:k=22
 ·subst h22;rfl
 by_cases h21:k=21
 ·subst h21;rfl
 by_cases h23:k=23
 ·subst h23;rfl
 by_cases h15:k=15
 ·subst h15;rfl
 by_cases h16:k=16
 ·subst h16;rfl
 by_cases h17:k=17
 ·subst h17;rfl
 by_cases h18:k=18
 ·subst h18;rfl
 by_cases h19:k=19
 ·subst h19;rfl
 by_cases h20:k=20
 ·subst h20;rfl
 by_cases h9:k=9
 ·subst h9;rfl
 by_cases h10:k=10
 ·subst h10;rfl
 by_cases h14:k=14
 ·subst h14;rfl
 by_cases h11:k=11
 ·subst h11;rfl
 by_cases h12:k=12
 ·subst h12;rfl
 by_cases h13:k=13
 ·subst h13;rfl
 simp only [h22,h21,h23,h15,h16,h17,h18,h19,h20,h9,h10,h14,h11,h12,h13,if_false];rfl
theorem Di (s:Bs)(n:Int):BF Zc #[(0,1),(1,1)] [(0,.string ⟨s.toArray⟩),(1,.int .i64 n)]=some (.agg #[.string ⟨s.toArray⟩,.int .i64 n]):=rfl
theorem Fe (hk:∀bm es clock,MapSi es clock ADU→K (.map (some bm)) I ((bm,.map es clock)::L)):CT ω 176 #[] K I L:=by
 refine AQT ?_;unfold AFg;refine AIc (fun bm=>?_);obtain ⟨es0,c0,e0,p0⟩:=MapSi.empty.put 22 (.agg #[.string ⟨[111,114].toArray⟩,.int .i64 1]);obtain ⟨es1,c1,e1,p1⟩:=p0.put 21 (.agg #[.string ⟨[97,110,100].toArray⟩,.int .i64 2]);obtain ⟨es2,c2,e2,p2⟩:=p1.put 23 (.agg #[.string ⟨[108,105,107,101].toArray⟩,.int .i64 4]);obtain ⟨es3,c3,e3,p3⟩:=p2.put 15 (.agg #[.string ⟨[61].toArray⟩,.int .i64 4]);obtain ⟨es4,c4,e4,p4⟩:=p3.put 16 (.agg #[.string ⟨[60,62].toArray⟩,.int .i64 4]);obtain ⟨es5,c5,e5,p5⟩:=p4.put 17 (.agg #[.string ⟨[60].toArray⟩,.int .i64 4]);obtain ⟨es6,c6,e6,p6⟩:=p5.put 18 (.agg #[.string ⟨[60,61].toArray⟩,.int .i64 4]);obtain ⟨es7,c7,e7,p7⟩:=p6.put 19 (.agg #[.string ⟨[62].toArray⟩,.int .i64 4]);obtain ⟨es8,c8,e8,p8⟩:=p7.put 20 (.agg #[.string ⟨[62,61].toArray⟩,.int .i64 4]);obtain ⟨es9,c9,e9,p9⟩:=p8.put 9 (.agg #[.string ⟨[43].toArray⟩,.int .i64 5]);obtain ⟨es10,c10,e10,p10⟩:=p9.put 10 (.agg #[.string ⟨[45].toArray⟩,.int .i64 5]);obtain ⟨es11,c11,e11,p11⟩:=p10.put 14 (.agg #[.string ⟨[124,124].toArray⟩,.int .i64 5]);obtain ⟨es12,c12,e12,p12⟩:=p11.put 11 (.agg #[.string ⟨[42].toArray⟩,.int .i64 6]);obtain ⟨es13,c13,e13,p13⟩:=p12.put 12 (.agg #[.string ⟨[47].toArray⟩,.int .i64 6]);obtain ⟨es14,c14,e14,p14⟩:=p13.put 13 (.agg #[.string ⟨[37].toArray⟩,.int .i64 6]);rw [AKj] at p14;refine Gh.done ?_;simp only [Di,DR];refine FK (k:=22) MapSi.empty e0 ?_;refine Gh.done ?_;simp only [Di,DR];refine FK (k:=21) p0 e1 ?_;refine Gh.done ?_;simp only [Di,DR]
 refine FK (k:=23) p1 e2 ?_;refine Gh.done ?_;simp only [Di,DR];refine FK (k:=15) p2 e3 ?_;refine Gh.done ?_;simp only [Di,DR];refine FK (k:=16) p3 e4 ?_;refine Gh.done ?_;simp only [Di,DR];refine FK (k:=17) p4 e5 ?_;refine Gh.done ?_;simp only [Di,DR];refine FK (k:=18) p5 e6 ?_;refine Gh.done ?_;simp only [Di,DR];refine FK (k:=19) p6 e7 ?_;refine Gh.done ?_;simp only [Di,DR];refine FK (k:=20) p7 e8 ?_;refine Gh.done ?_;simp only [Di,DR];refine FK (k:=9) p8 e9 ?_;refine Gh.done ?_;simp only [Di,DR];refine FK (k:=10) p9 e10 ?_;refine Gh.done ?_;simp only [Di,DR];refine FK (k:=14) p10 e11 ?_;refine Gh.done ?_;simp only [Di,DR];refine FK (k:=11) p11 e12 ?_;refine Gh.done ?_;simp only [Di,DR];refine FK (k:=12) p12 e13 ?_;refine Gh.done ?_;simp only [Di,DR];refine FK (k:=13) p13 e14 ?_;refine Gh.done ?_;exact Gh.done (hk bm _ _ p14)
theorem Gt {k:Int}{es:Array MapEntry}{clock bm:Nat}{K:Value→M}[hin:InL bm L (.map es clock)](h:MapSi es clock ADU)(hy:∀s n,Gs k=some (s,n)→K (.tuple #[.agg #[.string ⟨s.toArray⟩,.int .i64 n],.bool true]) I L)(hn:Gs k=none→K (.tuple #[.agg #[.string (ByteArray.mk #[]),.int .i64 0],.bool false]) I L):
  Rv none (lkR (.int .i64) (.agg #[.string (ByteArray.mk #[]),.int .i64 0]) true (.map (some bm)) (.int .i64 k)) K I L:=by
 refine ARt (k:=k) h ?_;unfold ADU;cases hs:Gs k with
 |none=>exact hn hs
 |some x=>exact hy x.1 x.2 hs
theorem Xw (k : Int) (hk : K (.int .i64 (AMO k)) I L) : CT ω 175 #[.int .i64 k] K I L := by
  refine AQU ?_
  unfold AFi
  unfold AMO at hk
  try simp only [SSd, Nat.reduceAdd]
  refine AB (fun h => ?_) (fun h => ?_)
  · have h : k = 5 := by simpa using h
    rw [if_pos h] at hk; exact Gh.done hk
  have h5 : k ≠ 5 := by simpa using h
  rw [if_neg h5] at hk
  have rest : ∀ q : Bool, q = decide (k = 6 ∨ k = 7 ∨ k = 24 ∨ k = 25) → Js ω (.int .i64 k) (.int .i64 0) (.int .i64 k) (.bool q) (fun v => Gh (K v)) I L := by
    rintro q hq
    unfold Js
    refine AB (fun h => ?_) (fun h => ?_)
    · rw [h] at hq
      rw [if_pos (of_decide_eq_true hq.symm)] at hk; exact Gh.done hk
    rw [h] at hq
    rw [if_neg (of_decide_eq_false hq.symm)] at hk
    try simp only [SSd, Nat.reduceAdd]
    refine AB (fun h => ?_) (fun h => ?_)
    · have h : k = 4 := by simpa using h
      rw [if_pos h] at hk; exact Gh.done hk
    have h4 : k ≠ 4 := by simpa using h
    rw [if_neg h4] at hk
    refine call (Fe (fun bm es clock hm => ?_))
    refine Gt hm (fun s n hs => ?_) (fun hs => ?_)
    · rw [hs] at hk
      try simp only [SSd, Nat.reduceAdd]
      refine AV (fun bs => ?_)
      refine stB rfl rfl (AO rfl) ?_
      try simp only [SSd, Nat.reduceAdd]
      refine rdb ?_
      exact Gh.to L (Gh.done hk)
    · rw [hs] at hk
      try simp only [SSd, Nat.reduceAdd]
      refine AV (fun bs => ?_)
      refine stB rfl rfl (AO rfl) ?_
      try simp only [SSd, Nat.reduceAdd]
      exact Gh.to L (Gh.done hk)
  refine AB (fun h => ?_) (fun h => ?_)
  · have h : k = 6 := by simpa using h
    rw [show ((k == 6) = true) by simpa using h]
    exact rest true (by simp [h])
  have h6 : k ≠ 6 := by simpa using h
  try simp only [SSd, Nat.reduceAdd]
  refine AB (fun h => ?_) (fun h => ?_)
  · have h : k = 7 := by simpa using h
    rw [show ((k == 7) = true) by simpa using h]
    exact rest true (by simp [h])
  have h7 : k ≠ 7 := by simpa using h
  try simp only [SSd, Nat.reduceAdd]
  refine AB (fun h => ?_) (fun h => ?_)
  · have h : k = 24 := by simpa using h
    rw [show ((k == 24) = true) by simpa using h]
    exact rest true (by simp [h])
  have h24 : k ≠ 24 := by simpa using h
  try simp only [SSd, Nat.reduceAdd]
  refine rest _ ?_
  simp only [h6, h7, h24, false_or]
  cases h25 : (k == 25) with
  | true => have : k = 25 := by simpa using h25
            simp [this]
  | false => have : k ≠ 25 := by simpa using h25
             simp [this]
def okI (n:Int):Prop:= -9223372036854775808≤n∧n≤9223372036854775807
theorem PR {G:Imm}(hG:FI G)(hGI:Ext G I)[hs:SplitL X L F](hW:WrS b w X l)(x:TValue)(hx:okI x.fInt)(hn:(l++ABQ true x).length≤1000000000)(hk:∀I' X',Ext I I'→WrS b w X' (l++ABQ true x)→K (.tuple #[]) I' (X'++F)):
  CT ω 178 #[AY b,.agg #[.int .i64 x.fType,.bool x.fNull,.int .i64 x.fInt,.string ⟨x.fText.toArray⟩]] K I L:=by
 refine Cal.split X ?_;refine AQR ?_;unfold AFc;refine AV (fun bv=>?_);unfold ABQ at hn hk;try simp only [SSd,Nat.reduceAdd]
 refine rdb ?_;refine AB (fun h=>?_) (fun h=>?_)
 ·rw [if_pos h] at hn hk;refine BP hW hn (fun I' X' hI' hW'=>Gh.to (X'++F) (Gh.done (hk I' X' hI' hW')))
 rw [if_neg (by simp [h])] at hn hk;try simp only [SSd,Nat.reduceAdd]
 refine rdb ?_;try simp only [SSd,Nat.reduceAdd]
 refine AB (fun h=>?_) (fun h=>?_)
 ·have h:x.fType=3:=by simpa using h
  rw [if_pos h] at hn hk;try simp only [SSd,Nat.reduceAdd]
  refine rdb ?_;refine call (QB hW x.fText 39 hn (fun I' X' hI' hW'=>Gh.to (X'++F) (Gh.done (hk I' X' hI' hW'))))
 have h:x.fType≠3:=by simpa using h
 rw [if_neg h] at hn hk;try simp only [SSd,Nat.reduceAdd]
 refine rdb ?_;try simp only [SSd,Nat.reduceAdd]
 refine AB (fun h=>?_) (fun h=>?_)
 ·have h:x.fType=2:=by simpa using h
  rw [if_pos h] at hn hk;try simp only [SSd,Nat.reduceAdd]
  refine rdb ?_;try simp only [SSd,Nat.reduceAdd]
  refine call ?_;refine APu ?_;unfold AEj;refine call ?_;refine APn ?_;unfold AEW;refine AB (fun h1=>?_) (fun h1=>?_)
  ·have h1:x.fInt=1:=by simpa using h1
   rw [if_pos h1] at hn hk;refine Gh.done (Gh.done ?_);refine BP hW hn (fun I' X' hI' hW'=>Gh.to (X'++F) (Gh.done (hk I' X' hI' hW')))
  ·have h1:x.fInt≠1:=by simpa using h1
   rw [if_neg h1] at hn hk;refine Gh.done (Gh.done ?_);refine BP hW hn (fun I' X' hI' hW'=>Gh.to (X'++F) (Gh.done (hk I' X' hI' hW')))
 have h:x.fType≠2:=by simpa using h
 rw [if_neg h] at hn hk;try simp only [SSd,Nat.reduceAdd]
 refine rdb ?_;refine call (QT hG hGI _ hx.1 hx.2 ?_);refine BP hW hn (fun I' X' hI' hW'=>Gh.to (X'++F) (Gh.done (hk I' X' hI' hW')))
end
def Bh {α:Type}(w:α→Nat)(g:Pr α):Prop:=∀l x r,g l= .ok x r→r.length+w x≤l.length
theorem Au {l:List Tok}{s:Bs}(h:isT l s=true):l.tail.length+1=l.length:=by
 cases l with
 |nil=>simp [isT,hd,default,instInhabitedTok] at h
 |cons t r=>rfl
theorem Hf {l:List Tok}{k:Int}(h:isK l k=true)(hk:k≠0):l.tail.length+1=l.length:=by
 cases l with
 |nil=>simp [isK,hd,default,instInhabitedTok] at h;exact absurd h.symm hk
 |cons t r=>rfl
theorem bind_ok {α β:Type}{x:Res α}{f:α→Pr β}{y:β}{r:List Tok}(h:x.bind f= .ok y r):∃a q,x= .ok a q∧f a q= .ok y r:=by
 cases x with
 |ok a q=>exact ⟨a,q,rfl,h⟩
 |err e=>cases h
theorem Ap {s:Bs}{l r:List Tok}{u:Unit}(h:AX s l= .ok u r):r.length+1=l.length:=by
 unfold AX at h;split at h
 ·rename_i ht
  simp only [Res.ok.injEq,true_and] at h;subst h;exact Au ht
 ·cases h
theorem BI:Bh (fun _=>1) BG:=by
 intro l x r h;unfold BG at h;split at h
 ·rename_i ht
  simp only [Res.ok.injEq] at h;obtain ⟨_,rfl⟩:=h;have:=Hf ht (by decide);show l.tail.length+1≤l.length;omega
 ·cases h
theorem DT:∀(a b:List Ex),Ah (a++b)=Ah a+Ah b
 |[],b=>by simp [Ah]
 |x::a,b=>by simp only [List.cons_append,Ah,DT a b];omega
theorem TD {g:Pr Ex}(hg:Bh Aj g):∀(n:Nat) (acc:List Ex) (l:List Tok) (x:List Ex) (r:List Tok),Cb g n acc l= .ok x r→r.length+Ah x≤l.length+Ah acc
 |0,acc,l,x,r,h=>by simp only [Cb,Res.ok.injEq] at h;obtain ⟨rfl,rfl⟩:=h;omega
 |n+1,acc,l,x,r,h=>by
  simp only [Cb] at h;split at h
  ·rename_i ht
   obtain ⟨a,q,h1,h2⟩:=bind_ok h;have c1:=hg _ _ _ h1;have c2:=TD hg n _ _ _ _ h2;have c3:=Au ht;rw [DT] at c2;simp only [Ah] at c2;omega
  ·simp only [Res.ok.injEq] at h;obtain ⟨rfl,rfl⟩:=h;omega
theorem ACb {g:Pr Ex}(hg:Bh Aj g)(n:Nat):Bh Ah (Bc n g):=by
 intro l x r h;obtain ⟨a,q,h1,h2⟩:=bind_ok h;have c1:=hg _ _ _ h1;have c2:=TD hg n _ _ _ _ h2;simp only [Ah] at c2;omega
theorem Sz {g:Pr Ex}(hg:Bh Aj g)(n:Nat):Bh (fun x=>Ah x+2) (Bv n g):=by
 intro l x r h;obtain ⟨_,q,h1,h2⟩:=bind_ok h;obtain ⟨a,q2,h3,h4⟩:=bind_ok h2;obtain ⟨_,q3,h5,h6⟩:=bind_ok h4;simp only [Res.ok.injEq] at h6;obtain ⟨rfl,rfl⟩:=h6;have c1:=Ap h1;have c2:=ACb hg n _ _ _ h3;have c3:=Ap h5;simp only;omega
theorem TE {g:Pr Ex}(hg:Bh Aj g){op:List Tok→Int}(hop:∀l,op l≠0→l.tail.length+1=l.length):∀(n:Nat) (x:Ex) (l:List Tok) (y:Ex) (r:List Tok),Et g op n x l= .ok y r→r.length+Aj y≤l.length+Aj x
 |0,x,l,y,r,h=>by simp only [Et,Res.ok.injEq] at h;obtain ⟨rfl,rfl⟩:=h;omega
 |n+1,x,l,y,r,h=>by
  simp only [Et] at h;split at h
  ·simp only [Res.ok.injEq] at h;obtain ⟨rfl,rfl⟩:=h;omega
  ·rename_i h0
   obtain ⟨a,q,h1,h2⟩:=bind_ok h;have c1:=hg _ _ _ h1;have c2:=TE hg hop n _ _ _ _ h2;have c3:=hop l h0;simp only [exK,Aj,Ah] at c2;omega
theorem JI {g:Pr Ex}(hg:Bh Aj g){op:List Tok→Int}(hop:∀l,op l≠0→l.tail.length+1=l.length)(n:Nat):Bh Aj (DD n g op):=by
 intro l x r h;obtain ⟨a,q,h1,h2⟩:=bind_ok h;have c1:=hg _ _ _ h1;have c2:=TE hg hop n _ _ _ _ h2;omega
theorem API (l:List Tok)(h:MF l≠0):l.tail.length+1=l.length:=by
 unfold MF at h;split at h
 ·exact Au ‹_›
 ·exact absurd rfl h
theorem AMS (l:List Tok)(h:IB l≠0):l.tail.length+1=l.length:=by
 unfold IB at h;split at h
 ·exact Au ‹_›
 ·exact absurd rfl h
theorem AIu (f:Bs→Option Int)(l:List Tok)(h:IX f l≠0):l.tail.length+1=l.length:=by
 unfold IX at h;split at h
 ·exact Hf ‹_› (by decide)
 ·exact absurd rfl h
theorem AMR (l:List Tok)(h:Eg l≠0):l.tail.length+1=l.length:=by
 unfold Eg at h;repeat' split at h
 all_goals first
  |exact Au ‹_›
  |exact absurd rfl h
theorem Vq {l:List Tok}{v:TValue}(h:Ht l=some v):l.tail.length+1=l.length:=by
 unfold Ht at h;repeat' split at h
 all_goals first
  |exact Hf ‹_› (by decide)
  |exact Au ‹_›
  |cases h
theorem Qj:Bh Aj LC:=by
 intro l x r h;unfold LC at h;split at h
 ·rename_i ht
  simp only [Res.ok.injEq] at h;obtain ⟨rfl,rfl⟩:=h;have:=Hf ht (by decide);simp only [Ic,Aj,Ah];omega
 ·cases h
theorem TA {E:Pr Ex}(hE:Bh Aj E)(n:Nat){acc:List Ex}{l:List Tok}{a:List Ex}{r:List Tok}(h:Eb n E acc l= .ok a r):r.length+Ah a+2≤l.length+Ah acc:=by
 obtain ⟨_,q,h1,h2⟩:=bind_ok h;obtain ⟨x,q2,h3,h4⟩:=bind_ok h2;obtain ⟨_,q3,h5,h6⟩:=bind_ok h4;obtain ⟨y,q4,h7,h8⟩:=bind_ok h6;simp only [Res.ok.injEq] at h8;obtain ⟨rfl,rfl⟩:=h8;have c1:=Ap h1;have c2:=hE _ _ _ h3;have c3:=Ap h5;have c4:=hE _ _ _ h7;rw [DT];simp only [Ah];omega
theorem Qi {E:Pr Ex}(hE:Bh Aj E)(n:Nat):∀(m:Nat) (acc:List Ex) (l:List Tok) (a:List Ex) (r:List Tok),EX n E m acc l= .ok a r→r.length+Ah a≤l.length+Ah acc
 |0,acc,l,a,r,h=>by simp only [EX,Res.ok.injEq] at h;obtain ⟨rfl,rfl⟩:=h;omega
 |m+1,acc,l,a,r,h=>by
  simp only [EX] at h;split at h
  ·obtain ⟨x,q,h1,h2⟩:=bind_ok h;have c1:=TA hE n h1;have c2:=Qi hE n m _ _ _ _ h2;omega
  ·simp only [Res.ok.injEq] at h;obtain ⟨rfl,rfl⟩:=h;omega
theorem ACf {E:Pr Ex}(hE:Bh Aj E)(n:Nat):Bh Aj (Ig n E):=by
 intro l x r h;obtain ⟨a,q,h1,h2⟩:=bind_ok h;obtain ⟨a2,q2,h3,h4⟩:=bind_ok h2;obtain ⟨a3,q3,h5,h6⟩:=bind_ok h4;obtain ⟨_,q4,h7,h8⟩:=bind_ok h6;simp only [Res.ok.injEq] at h8;obtain ⟨rfl,rfl⟩:=h8;have c1:=TA hE n h1;have c2:=Qi hE n n _ _ _ _ h3;have c4:=Ap h7;have c3:q3.length+Ah a3≤q2.length+Ah a2:=by
  split at h5
  ·rename_i ht
   obtain ⟨y,q5,g1,g2⟩:=bind_ok h5;simp only [Res.ok.injEq] at g2;obtain ⟨rfl,rfl⟩:=g2;have d1:=hE _ _ _ g1;have d2:=Au ht;rw [DT];simp only [Ah];omega
  ·simp only [Res.ok.injEq] at h5;obtain ⟨rfl,rfl⟩:=h5;omega
 simp only [Ah] at c1;simp only [exK,Aj];omega
theorem ACg {E:Pr Ex}(hE:Bh Aj E)(n:Nat)(s:Bs):Bh Aj (DZ n E s):=by
 intro l x r h;unfold DZ at h;split at h
 ·obtain ⟨a,q,h1,h2⟩:=bind_ok h;simp only [Res.ok.injEq] at h2;obtain ⟨rfl,rfl⟩:=h2;have c1:=Sz hE n _ _ _ h1;simp only at c1
  simp only [exK,Aj];omega
 obtain ⟨_,q,h1,h2⟩:=bind_ok h;have c1:=Ap h1;split at h2
 ·obtain ⟨a,q2,h3,h4⟩:=bind_ok h2;obtain ⟨_,q3,h5,h6⟩:=bind_ok h4;simp only [Res.ok.injEq] at h6;obtain ⟨rfl,rfl⟩:=h6;have c2:=hE _ _ _ h3;have c3:=Ap h5;simp only [exK,Aj,Ah];omega
 split at h2
 ·rename_i ht
  simp only [Bool.and_eq_true] at ht;have c2:=Au ht.2;obtain ⟨_,q3,h5,h6⟩:=bind_ok h2;simp only [Res.ok.injEq] at h6;obtain ⟨rfl,rfl⟩:=h6;have c3:=Ap h5;simp only [exK,GU,Aj,Ah];omega
 ·obtain ⟨a,q2,h3,h4⟩:=bind_ok h2;obtain ⟨_,q3,h5,h6⟩:=bind_ok h4;simp only [Res.ok.injEq] at h6;obtain ⟨rfl,rfl⟩:=h6;have c2:=hE _ _ _ h3;have c3:=Ap h5;have c4:(if isT q [100,105,115,116,105,110,99,116] then q.tail else q).length≤q.length:=by split <;> simp
  simp only [GU,Aj,Ah];omega
theorem YH {E U:Pr Ex}(hE:Bh Aj E)(hU:Bh Aj U)(n:Nat):Bh Aj (Ep n E U):=by
 intro l x r h;unfold Ep at h;split at h
 ·rename_i ht
  obtain ⟨a,q,h1,h2⟩:=bind_ok h;simp only [Res.ok.injEq] at h2;obtain ⟨rfl,rfl⟩:=h2;have c1:=hU _ _ _ h1;have c2:=Au ht;simp only [exK,Aj,Ah];omega
 split at h
 ·rename_i ht
  obtain ⟨a,q,h1,h2⟩:=bind_ok h;obtain ⟨_,q2,h3,h4⟩:=bind_ok h2;simp only [Res.ok.injEq] at h4;obtain ⟨rfl,rfl⟩:=h4;have c1:=hE _ _ _ h1;have c2:=Au ht;have c3:=Ap h3;omega
 split at h
 ·rename_i ht
  have c1:=ACf hE n _ _ _ h;have c2:=Au ht;omega
 split at h
 ·exact Qj _ _ _ h
 split at h
 ·rename_i v hv
  simp only [Res.ok.injEq] at h;obtain ⟨rfl,rfl⟩:=h;have:=Vq hv;simp only [Ic,Aj,Ah];omega
 ·obtain ⟨s,q,h1,h2⟩:=bind_ok h;have c1:=BI _ _ _ h1;simp only at c1
  split at h2
  ·have:=ACg hE n _ _ _ _ h2;omega
  split at h2
  ·rename_i ht
   obtain ⟨c,q2,h3,h4⟩:=bind_ok h2;simp only [Res.ok.injEq] at h4;obtain ⟨rfl,rfl⟩:=h4;have c2:=BI _ _ _ h3;have c3:=Au ht;simp only at c2
   simp only [He,Aj,Ah];omega
  ·simp only [Res.ok.injEq] at h2;obtain ⟨rfl,rfl⟩:=h2;simp only [He,Aj,Ah];omega
theorem ND (b:Bool)(x:Ex):Aj (Nw b x)=Aj x+if b then 1 else 0:=by
 cases b
 ·simp [Nw]
 ·simp [Nw,exK,Aj,Ah]
theorem ACc {E S:Pr Ex}(hE:Bh Aj E)(hS:Bh Aj S)(n:Nat):Bh Aj (IU n E S):=by
 intro l x r h;obtain ⟨a,q,h1,h2⟩:=bind_ok h;have c1:=hS _ _ _ h1;simp only at h2
 split at h2
 ·rename_i h0
  obtain ⟨y,q2,h3,h4⟩:=bind_ok h2;simp only [Res.ok.injEq] at h4;obtain ⟨rfl,rfl⟩:=h4;have c2:=hS _ _ _ h3;have c3:=AMR _ h0;simp only [exK,Aj,Ah];omega
 split at h2
 ·rename_i ht
  have c2:=Au ht;split at h2
  ·rename_i ht2
   have c3:=Au ht2;obtain ⟨_,q2,h3,h4⟩:=bind_ok h2;simp only [Res.ok.injEq] at h4;obtain ⟨rfl,rfl⟩:=h4;have c4:=Ap h3;simp only [exK,Aj,Ah];omega
  ·obtain ⟨_,q2,h3,h4⟩:=bind_ok h2;simp only [Res.ok.injEq] at h4;obtain ⟨rfl,rfl⟩:=h4;have c4:=Ap h3;simp only [exK,Aj,Ah];omega
 have cb:(if isT q [110,111,116] then q.tail else q).length+(if isT q [110,111,116] then 1 else 0)=q.length:=by
  cases hn:isT q [110,111,116] with
  |true=>simpa using Au hn
  |false=>simp
 generalize hq:(if isT q [110,111,116] then q.tail else q)=q1 at h2 cb;split at h2
 ·rename_i ht
  have c2:=Au ht;obtain ⟨y,q2,h3,h4⟩:=bind_ok h2;simp only [Res.ok.injEq] at h4;obtain ⟨rfl,rfl⟩:=h4;have c3:=Sz hE n _ _ _ h3;simp only at c3
  rw [ND];simp only [exK,Aj,Ah];omega
 split at h2
 ·rename_i ht
  have c2:=Au ht;obtain ⟨y,q2,h3,h4⟩:=bind_ok h2;obtain ⟨_,q3,h5,h6⟩:=bind_ok h4;obtain ⟨z,q4,h7,h8⟩:=bind_ok h6;simp only [Res.ok.injEq] at h8;obtain ⟨rfl,rfl⟩:=h8;have c3:=hS _ _ _ h3;have c4:=Ap h5;have c5:=hS _ _ _ h7;rw [ND];simp only [exK,Aj,Ah];omega
 split at h2
 ·rename_i ht
  have c2:=Au ht;obtain ⟨y,q2,h3,h4⟩:=bind_ok h2;simp only [Res.ok.injEq] at h4;obtain ⟨rfl,rfl⟩:=h4;have c3:=hS _ _ _ h3;rw [ND];simp only [exK,Aj,Ah];omega
 split at h2
 ·cases h2
 ·simp only [Res.ok.injEq] at h2;obtain ⟨rfl,rfl⟩:=h2;omega
theorem AJJ {N Q:Pr Ex}(hN:Bh Aj N)(hQ:Bh Aj Q):Bh Aj (Nv N Q):=by
 intro l x r h;unfold Nv at h;split at h
 ·rename_i ht
  obtain ⟨y,q2,h3,h4⟩:=bind_ok h;simp only [Res.ok.injEq] at h4;obtain ⟨rfl,rfl⟩:=h4;have c1:=Au ht;have c2:=hN _ _ _ h3;simp only [exK,Aj,Ah];omega
 ·exact hQ _ _ _ h
theorem JG:∀n,Bh Aj (eP n)∧Bh Aj (nP n)∧Bh Aj (uP n)
 |0=>⟨fun l x r h=>by simp [eP,Ew] at h,fun l x r h=>by simp [nP,Ew] at h,fun l x r h=>by simp [uP,Ew] at h⟩
 |n+1=>by
  obtain ⟨hE,hN,hU⟩:=JG n;have u:=YH hE hU n;have s:=JI (JI u (AIu KI) n) (AIu Qx) n;have nn:=AJJ hN (ACc hE s n);exact ⟨JI (JI nn AMS n) API n,nn,u⟩
def pz (x:Ex):Nat:=if x.kind != 0 then Aj x else 0
theorem AAe (x:Ex):pz x≤Aj x:=by unfold pz;split <;> omega
theorem pz0:pz ex0=0:=rfl
theorem Iz:∀l:List Ex,Ah (l.filter fun x=>x.kind != 0)=(l.map pz).sum
 |[]=>rfl
 |x::l=>by
  simp only [List.filter_cons,List.map_cons,List.sum_cons,pz];cases h:(x.kind != 0) with
  |true=>simp only [if_true,Ah,Iz l]
  |false=>simp only [Bool.false_eq_true,if_false,Iz l];simp
theorem Qk {α:Type}{w:α→Nat}{g:Pr α}(hg:Bh w g):∀(n:Nat) (acc:List α) (l:List Tok) (x:List α) (r:List Tok),Cb g n acc l= .ok x r→r.length+(x.map w).sum≤l.length+(acc.map w).sum
 |0,acc,l,x,r,h=>by simp only [Cb,Res.ok.injEq] at h;obtain ⟨rfl,rfl⟩:=h;omega
 |n+1,acc,l,x,r,h=>by
  simp only [Cb] at h;split at h
  ·rename_i ht
   obtain ⟨a,q,h1,h2⟩:=bind_ok h;have c1:=hg _ _ _ h1;have c2:=Qk hg n _ _ _ _ h2;have c3:=Au ht;simp only [List.map_append,List.map_cons,List.map_nil,List.sum_append,List.sum_cons,List.sum_nil] at c2;omega
  ·simp only [Res.ok.injEq] at h;obtain ⟨rfl,rfl⟩:=h;omega
theorem Dx {α:Type}{w:α→Nat}{g:Pr α}(hg:Bh w g)(n:Nat):Bh (fun x=>(x.map w).sum) (Bc n g):=by
 intro l x r h;obtain ⟨a,q,h1,h2⟩:=bind_ok h;have c1:=hg _ _ _ h1;have c2:=Qk hg n _ _ _ _ h2;simp only [List.map_cons,List.map_nil,List.sum_cons,List.sum_nil] at c2;simp only;omega
theorem LJ {α:Type}{w:α→Nat}{g:Pr α}(hg:Bh w g)(n:Nat):Bh (fun x=>(x.map w).sum) (Bv n g):=by
 intro l x r h;obtain ⟨_,q,h1,h2⟩:=bind_ok h;obtain ⟨a,q2,h3,h4⟩:=bind_ok h2;obtain ⟨_,q3,h5,h6⟩:=bind_ok h4;simp only [Res.ok.injEq] at h6;obtain ⟨rfl,rfl⟩:=h6;have c1:=Ap h1;have c2:=Dx hg n _ _ _ h3;have c3:=Ap h5;simp only at c2 ⊢;omega
theorem LM (n:Nat):Bh pz (eP n):=fun l x r h=>by
 have:=(JG n).1 l x r h;have:=AAe x;omega
theorem Hg (n:Nat):Bh (fun x=>0 * x.length) (Bv n BG):=by
 intro l x r h;have:=LJ (w:=fun _=>0) (fun l x r h=>by have:=BI l x r h;simp only at this ⊢;omega) n l x r h;simp only at this ⊢;omega
theorem Hl (n:Nat)(s:Bs):Bh pz (Dz n s):=by
 intro l x r h;unfold Dz at h;split at h
 ·have c1:=LM n _ _ _ h;have c2:=Au ‹_›;omega
 ·simp only [Res.ok.injEq] at h;obtain ⟨rfl,rfl⟩:=h;rw [pz0];omega
theorem ACd (n:Nat):Bh (fun x=>pz x.fExpr) (Fj n):=by
 intro l x r h;unfold Fj at h;split at h
 ·simp only [Res.ok.injEq] at h;obtain ⟨rfl,rfl⟩:=h;have:=Au ‹_›;simp only [pz0];omega
 split at h
 ·simp only [Res.ok.injEq] at h;obtain ⟨rfl,rfl⟩:=h;simp only [pz0,List.length_tail];omega
 ·obtain ⟨y,q,h1,h2⟩:=bind_ok h;have c1:=LM n _ _ _ h1;split at h2
  ·obtain ⟨a,q2,h3,h4⟩:=bind_ok h2;simp only [Res.ok.injEq] at h4;obtain ⟨rfl,rfl⟩:=h4;have c2:=BI _ _ _ h3;have c3:=Au ‹_›;simp only at c2 ⊢;omega
  ·simp only [Res.ok.injEq] at h2;obtain ⟨rfl,rfl⟩:=h2;exact c1
theorem YK (n:Nat):Bh (fun x=>pz x.fExpr) (Gy n):=by
 intro l x r h;obtain ⟨y,q,h1,h2⟩:=bind_ok h;have c1:=LM n _ _ _ h1;split at h2
 ·simp only [Res.ok.injEq] at h2;obtain ⟨rfl,rfl⟩:=h2;have:=Au ‹_›;simp only;omega
 split at h2
 ·simp only [Res.ok.injEq] at h2;obtain ⟨rfl,rfl⟩:=h2;have:=Au ‹_›;simp only;omega
 ·simp only [Res.ok.injEq] at h2;obtain ⟨rfl,rfl⟩:=h2;exact c1
theorem AJI (n:Nat):Bh (fun x=>pz x.fExpr) (Qz n):=by
 intro l x r h;obtain ⟨s,q,h1,h2⟩:=bind_ok h;obtain ⟨_,q2,h3,h4⟩:=bind_ok h2;obtain ⟨y,q3,h5,h6⟩:=bind_ok h4;simp only [Res.ok.injEq] at h6;obtain ⟨rfl,rfl⟩:=h6;have c1:=BI _ _ _ h1;have c2:=Ap h3;have c3:=LM n _ _ _ h5;simp only at c1 ⊢;omega
theorem IE:Bh (fun x=>pz x.fOn) Ce:=by
 intro l x r h;obtain ⟨s,q,h1,h2⟩:=bind_ok h;have c1:=BI _ _ _ h1;simp only at c1
 split at h2
 ·obtain ⟨a,q2,h3,h4⟩:=bind_ok h2;simp only [Res.ok.injEq] at h4;obtain ⟨rfl,rfl⟩:=h4;have c2:=BI _ _ _ h3;have c3:=Au ‹_›;simp only [pz0] at c2 ⊢;omega
 split at h2
 ·obtain ⟨a,q2,h3,h4⟩:=bind_ok h2;simp only [Res.ok.injEq] at h4;obtain ⟨rfl,rfl⟩:=h4;have c2:=BI _ _ _ h3;simp only [pz0] at c2 ⊢;omega
 ·simp only [Res.ok.injEq] at h2;obtain ⟨rfl,rfl⟩:=h2;simp only [pz0];omega
theorem NJ (n:Nat)(b:Bool):Bh (fun x=>pz x.fOn) (GR n b):=by
 intro l x r h;obtain ⟨_,q,h1,h2⟩:=bind_ok h;obtain ⟨s,q2,h3,h4⟩:=bind_ok h2;obtain ⟨_,q3,h5,h6⟩:=bind_ok h4;obtain ⟨y,q4,h7,h8⟩:=bind_ok h6;simp only [Res.ok.injEq] at h8;obtain ⟨rfl,rfl⟩:=h8;have c1:=Ap h1;have c2:=IE _ _ _ h3;have c3:=Ap h5;have c4:=LM n _ _ _ h7;simp only at c2 ⊢;omega
theorem Qm (n:Nat):∀(m:Nat) (acc:List TSource) (l:List Tok) (x:List TSource) (r:List Tok),Ci n m acc l= .ok x r→r.length+(x.map fun x=>pz x.fOn).sum≤l.length+(acc.map fun x=>pz x.fOn).sum
 |0,acc,l,x,r,h=>by simp only [Ci,Res.ok.injEq] at h;obtain ⟨rfl,rfl⟩:=h;omega
 |m+1,acc,l,x,r,h=>by
  have one:∀{g:Pr TSource} (_:Bh (fun x=>pz x.fOn) g) {l':List Tok},l'.length≤l.length→(g l').bind (fun s r=>Ci n m (acc++[s]) r)= .ok x r→r.length+(x.map fun x=>pz x.fOn).sum≤l.length+(acc.map fun x=>pz x.fOn).sum:=by
   intro g hg l' hl h;obtain ⟨a,q,h1,h2⟩:=bind_ok h;have c1:=hg _ _ _ h1;have c2:=Qm n m _ _ _ _ h2;simp only [List.map_append,List.map_cons,List.map_nil,List.sum_append,List.sum_cons,List.sum_nil] at c2;simp only at c1;omega
  simp only [Ci] at h;split at h
  ·exact one IE (by simp) h
  split at h
  ·obtain ⟨_,q,h1,h2⟩:=bind_ok h;have c1:=Ap h1;have c2:=Au ‹_›;exact one IE (by omega) h2
  split at h
  ·exact one (NJ n true) (by simp) h
  split at h
  ·exact one (NJ n false) (by simp) h
  split at h
  ·exact one (NJ n false) (Nat.le_refl _) h
  ·simp only [Res.ok.injEq] at h;obtain ⟨rfl,rfl⟩:=h;omega
theorem ACe (n:Nat):Bh (fun x=>(x.map fun x=>pz x.fOn).sum) (Jk n):=by
 intro l x r h;obtain ⟨a,q,h1,h2⟩:=bind_ok h;have c1:=IE _ _ _ h1;have c2:=Qm n n _ _ _ _ h2;simp only [List.map_cons,List.map_nil,List.sum_cons,List.sum_nil] at c2;simp only at c1 ⊢;omega
theorem EP {α:Type}{w:α→Nat}{g:Pr α}(hg:Bh w g)(s:Bs){d:α}(hd:w d=0):Bh w (NF s d g):=by
 intro l x r h;unfold NF at h;split at h
 ·have c1:=hg _ _ _ h;have c2:=Au ‹_›;omega
 ·simp only [Res.ok.injEq] at h;obtain ⟨rfl,rfl⟩:=h;omega
theorem Ou {α:Type}{w:α→Nat}{g:Pr α}(hg:Bh w g):Bh w (byP g):=by
 intro l x r h;obtain ⟨_,q,h1,h2⟩:=bind_ok h;have c1:=Ap h1;have c2:=hg _ _ _ h2;omega
theorem JH:Bh (fun _=>0) EL:=by
 intro l x r h;unfold EL at h;split at h
 ·simp only [Res.ok.injEq] at h;obtain ⟨_,rfl⟩:=h;simp
 ·cases h
def wQ (q:TSelect):Nat:=(q.fItems.map fun x=>pz x.fExpr).sum+(q.fFrom.map fun x=>pz x.fOn).sum+pz q.fWhere+(q.fGroup.map pz).sum+pz q.fHaving+(q.fOrder.map fun x=>pz x.fExpr).sum
def wS (s:TStmt):Nat:=wQ s.fSelect+pz s.fWhere+((s.fRows.flatten).map pz).sum+(s.fSets.map fun x=>pz x.fExpr).sum+(s.fCols.map fun x=>pz x.fDefault).sum
theorem AIP (s:TStmt):GG s=wS s+1:=by
 simp only [GG,GI,Iz,wS,wQ,List.map_append,List.sum_append,List.map_cons,List.map_nil,List.sum_cons,List.sum_nil,List.map_map,Function.comp_def];omega
theorem YJ (n:Nat):Bh wQ (Fz n):=by
 intro l x r h;obtain ⟨a1,q1,h1,h⟩:=bind_ok h;obtain ⟨a2,q2,h2,h⟩:=bind_ok h;obtain ⟨a3,q3,h3,h⟩:=bind_ok h;obtain ⟨a4,q4,h4,h⟩:=bind_ok h;obtain ⟨a5,q5,h5,h⟩:=bind_ok h;obtain ⟨a6,q6,h6,h⟩:=bind_ok h;obtain ⟨a7,q7,h7,h⟩:=bind_ok h;obtain ⟨a8,q8,h8,h⟩:=bind_ok h;simp only [Res.ok.injEq] at h;obtain ⟨rfl,rfl⟩:=h;have c1:=Dx (ACd n) n _ _ _ h1;have c2:=EP (ACe n) _ rfl _ _ _ h2;have c3:=Hl n _ _ _ _ h3;have c4:=EP (Ou (Dx (LM n) n)) _ rfl _ _ _ h4;have c5:=Hl n _ _ _ _ h5;have c6:=EP (Ou (Dx (YK n) n)) _ rfl _ _ _ h6;have c7:=EP JH _ rfl _ _ _ h7;have c8:=EP JH _ rfl _ _ _ h8;have c0:(if isT l [100,105,115,116,105,110,99,116] then l.tail else l).length≤l.length:=by split <;> simp
 simp only at c1 c2 c4 c6 c7 c8
 simp only [wQ];omega
theorem Ql:Bh pz Eu:=by
 intro l x r h;unfold Eu at h;split at h
 ·rename_i v hv
  simp only [Res.ok.injEq] at h;obtain ⟨rfl,rfl⟩:=h;have:=Vq hv;have:=AAe (Ic v);simp only [Ic,Aj,Ah] at this;simp only [Ic];omega
 split at h
 ·obtain ⟨y,q,h1,h2⟩:=bind_ok h;simp only [Res.ok.injEq] at h2;obtain ⟨rfl,rfl⟩:=h2;have c1:=Qj _ _ _ h1;have c2:=Au ‹_›;have:=AAe (exK 4 [y]);simp only [exK,Aj,Ah] at this;simp only [exK];omega
 ·have c1:=Qj _ _ _ h;have:=AAe x;omega
theorem Gj:∀(m:Nat) (c:TCol) (l:List Tok) (y:TCol) (r:List Tok),Es m c l= .ok y r→r.length+pz y.fDefault≤l.length+pz c.fDefault
 |0,c,l,y,r,h=>by simp only [Es,Res.ok.injEq] at h;obtain ⟨rfl,rfl⟩:=h;omega
 |m+1,c,l,y,r,h=>by
  simp only [Es] at h;split at h
  ·obtain ⟨_,q,h1,h2⟩:=bind_ok h;have c1:=Ap h1;have c2:=Gj m _ _ _ _ h2;have:l.tail.length≤l.length:=by simp
   simp only at c2;omega
  split at h
  ·obtain ⟨_,q,h1,h2⟩:=bind_ok h;have c1:=Ap h1;have c2:=Gj m _ _ _ _ h2;have:l.tail.length≤l.length:=by simp
   simp only at c2;omega
  split at h
  ·have c2:=Gj m _ _ _ _ h;have:l.tail.length≤l.length:=by simp
   simp only at c2;omega
  split at h
  ·obtain ⟨x,q,h1,h2⟩:=bind_ok h;have c1:=Ql _ _ _ h1;have c2:=Gj m _ _ _ _ h2;have:l.tail.length≤l.length:=by simp
   simp only at c2;omega
  ·simp only [Res.ok.injEq] at h;obtain ⟨rfl,rfl⟩:=h;omega
theorem WG (n:Nat):Bh (fun x=>pz x.fDefault) (ET n):=by
 intro l x r h;obtain ⟨s,q,h1,h2⟩:=bind_ok h;have c1:=BI _ _ _ h1;simp only at h2 c1
 generalize (if isK q 1 then typeOf (hd q).text else 0)=t at h2;split at h2
 ·cases h2
 ·have c2:=Gj n _ _ _ _ h2;have:q.tail.length≤q.length:=by simp
  simp only [pz0] at c2 ⊢;omega
theorem TB (n:Nat):∀(m:Nat) (cs:List TCol) (ks:List Bs) (l:List Tok) (x:List TCol×List Bs) (r:List Tok),Ed n m cs ks l= .ok x r→r.length+(x.1.map fun x=>pz x.fDefault).sum≤l.length+(cs.map fun x=>pz x.fDefault).sum
 |0,cs,ks,l,x,r,h=>by simp only [Ed,Res.ok.injEq] at h;obtain ⟨rfl,rfl⟩:=h;exact Nat.le_refl _
 |m+1,cs,ks,l,x,r,h=>by
  simp only [Ed] at h;obtain ⟨a,q,h1,h2⟩:=bind_ok h;have c1:q.length+(a.1.map fun x=>pz x.fDefault).sum≤l.length+(cs.map fun x=>pz x.fDefault).sum:=by
   split at h1
   ·obtain ⟨_,q1,g1,g2⟩:=bind_ok h1;obtain ⟨k,q2,g3,g4⟩:=bind_ok g2;simp only [Res.ok.injEq] at g4;obtain ⟨rfl,rfl⟩:=g4;have d1:=Ap g1;have d2:=Hg n _ _ _ g3;have:l.tail.length≤l.length:=by simp
    simp only at d2 ⊢;omega
   ·obtain ⟨c,q1,g1,g2⟩:=bind_ok h1;simp only [Res.ok.injEq] at g2;obtain ⟨rfl,rfl⟩:=g2;have d1:=WG n _ _ _ g1;simp only [List.map_append,List.map_cons,List.map_nil,List.sum_append,List.sum_cons,List.sum_nil] at d1 ⊢;omega
  split at h2
  ·have c2:=TB n m _ _ _ _ _ h2;have:q.tail.length≤q.length:=by simp
   omega
  ·simp only [Res.ok.injEq] at h2;obtain ⟨rfl,rfl⟩:=h2;exact c1
theorem YI (n:Nat):Bh wS (MW n):=by
 intro l x r h;obtain ⟨s,q,h1,h⟩:=bind_ok h;obtain ⟨_,q2,h2,h⟩:=bind_ok h;obtain ⟨y,q3,h3,h⟩:=bind_ok h;have c1:=BI _ _ _ h1;have c2:=Ap h2;have c3:=TB n _ _ _ _ _ _ h3;simp only [List.map_nil,List.sum_nil] at c3;split at h
 ·cases h
 ·obtain ⟨_,q4,h4,h⟩:=bind_ok h;simp only [Res.ok.injEq] at h;obtain ⟨rfl,rfl⟩:=h;have c4:=Ap h4;have:wS {(default:TStmt) with fKind:=5,fTable:=s,fCols:=y.1,fKey:=y.2}=(y.1.map fun x=>pz x.fDefault).sum:=by
   show 0+0+0+0+(y.1.map fun x=>pz x.fDefault).sum=_;simp
  rw [this];simp only at c1;omega
theorem VB:∀(l:List (List Ex)),(l.flatten.map pz).sum=(l.map fun x=>(x.map pz).sum).sum
 |[]=>rfl
 |x::l=>by simp only [List.flatten_cons,List.map_append,List.sum_append,List.map_cons,List.sum_cons,VB l]
theorem wS0 {s:TStmt}(h1:s.fSelect=default)(h2:s.fWhere=ex0)(h3:s.fRows=[])(h4:s.fSets=[])(h5:s.fCols=[]):wS s=0:=by
 simp only [wS,h1,h2,h3,h4,h5];rfl
theorem leW {a b:Nat}{s:TStmt}(h0:wS s=0)(h:a+1≤b):a+(fun s=>wS s+1) s≤b:=by simp only [h0];omega
theorem Ue {l r:List Tok}{n:Nat}(h:r.length+n≤l.length):r.length≤l.length:=by omega
theorem TC (n:Nat):Bh (fun s=>wS s+1) (DK n):=by
 intro l x r h;unfold DK at h;split at h
 ·obtain ⟨q,r1,h1,h2⟩:=bind_ok h;simp only [Res.ok.injEq] at h2;obtain ⟨rfl,rfl⟩:=h2;have c1:=YJ n _ _ _ h1;have c2:=Au ‹_›;have:wS {(default:TStmt) with fKind:=1,fSelect:=q}=wQ q:=by show wQ q+0+0+0+0=_;simp
  simp only [this];omega
 split at h
 ·have c0:=Au ‹_›;obtain ⟨_,r1,h1,h⟩:=bind_ok h;obtain ⟨s,r2,h2,h⟩:=bind_ok h;obtain ⟨c,r3,h3,h⟩:=bind_ok h;obtain ⟨_,r4,h4,h⟩:=bind_ok h;obtain ⟨y,r5,h5,h⟩:=bind_ok h;simp only [Res.ok.injEq] at h;obtain ⟨rfl,rfl⟩:=h;have c1:=Ap h1;have c2:=BI _ _ _ h2;have c3:r3.length≤r2.length:=by
   split at h3
   ·exact Ue (Hg n _ _ _ h3)
   ·simp only [Res.ok.injEq] at h3;obtain ⟨rfl,rfl⟩:=h3;exact Nat.le_refl _
  have c4:=Ap h4;have c5:=Dx (LJ (LM n) n) n _ _ _ h5;have:wS {(default:TStmt) with fKind:=2,fTable:=s,fColumns:=c,fRows:=y}=(y.flatten.map pz).sum:=by show 0+0+(y.flatten.map pz).sum+0+0=_;simp
  simp only at c2 c5
  simp only [this,VB];omega
 split at h
 ·have c0:=Au ‹_›;obtain ⟨s,r1,h1,h⟩:=bind_ok h;obtain ⟨_,r2,h2,h⟩:=bind_ok h;obtain ⟨y,r3,h3,h⟩:=bind_ok h;obtain ⟨z,r4,h4,h⟩:=bind_ok h;simp only [Res.ok.injEq] at h;obtain ⟨rfl,rfl⟩:=h;have c1:=BI _ _ _ h1;have c2:=Ap h2;have c3:=Dx (AJI n) n _ _ _ h3;have c4:=Hl n _ _ _ _ h4;have:wS {(default:TStmt) with fKind:=3,fTable:=s,fSets:=y,fWhere:=z}=pz z+(y.map fun x=>pz x.fExpr).sum:=by show 0+pz z+0+(y.map fun x=>pz x.fExpr).sum+0=_;simp
  simp only at c1 c3
  simp only [this];omega
 split at h
 ·have c0:=Au ‹_›;obtain ⟨_,r1,h1,h⟩:=bind_ok h;obtain ⟨s,r2,h2,h⟩:=bind_ok h;obtain ⟨z,r3,h3,h⟩:=bind_ok h;simp only [Res.ok.injEq] at h;obtain ⟨rfl,rfl⟩:=h;have c1:=Ap h1;have c2:=BI _ _ _ h2;have c3:=Hl n _ _ _ _ h3;have:wS {(default:TStmt) with fKind:=4,fTable:=s,fWhere:=z}=pz z:=by show 0+pz z+0+0+0=_;simp
  simp only at c2
  simp only [this];omega
 split at h
 ·have c0:=Au ‹_›;unfold ES at h;split at h
  ·have c1:=YI n _ _ _ h;have:l.tail.tail.length≤l.tail.length:=by simp
   simp only;omega
  ·obtain ⟨_,r1,h1,h⟩:=bind_ok h;obtain ⟨a,r2,h2,h⟩:=bind_ok h;obtain ⟨_,r3,h3,h⟩:=bind_ok h;obtain ⟨t,r4,h4,h⟩:=bind_ok h;obtain ⟨c,r5,h5,h⟩:=bind_ok h;simp only [Res.ok.injEq] at h;obtain ⟨rfl,rfl⟩:=h;have c1:=Ap h1;have c2:=BI _ _ _ h2;have c3:=Ap h3;have c4:=BI _ _ _ h4;have c5:=Ue (Hg n _ _ _ h5);have c6:(if isT l.tail [117,110,105,113,117,101] then l.tail.tail else l.tail).length≤l.tail.length:=by split <;> simp
   refine leW (wS0 rfl rfl rfl rfl rfl) ?_;simp only at c2 c4;omega
 split at h
 ·have c0:=Au ‹_›;unfold FO at h;split at h
  ·obtain ⟨s,r1,h1,h⟩:=bind_ok h;simp only [Res.ok.injEq] at h;obtain ⟨rfl,rfl⟩:=h;have c1:=BI _ _ _ h1;have:l.tail.tail.length≤l.tail.length:=by simp
   refine leW (wS0 rfl rfl rfl rfl rfl) ?_;simp only at c1;omega
  ·obtain ⟨_,r1,h1,h⟩:=bind_ok h;obtain ⟨s,r2,h2,h⟩:=bind_ok h;simp only [Res.ok.injEq] at h;obtain ⟨rfl,rfl⟩:=h;have c1:=Ap h1;have c2:=BI _ _ _ h2;refine leW (wS0 rfl rfl rfl rfl rfl) ?_;simp only at c2;omega
 split at h
 ·have c0:=Au ‹_›;simp only [Res.ok.injEq] at h;obtain ⟨rfl,rfl⟩:=h;refine leW (wS0 rfl rfl rfl rfl rfl) ?_;omega
 split at h
 ·have c0:=Au ‹_›;simp only [Res.ok.injEq] at h;obtain ⟨rfl,rfl⟩:=h;refine leW (wS0 rfl rfl rfl rfl rfl) ?_;omega
 ·obtain ⟨_,r1,h1,h⟩:=bind_ok h;simp only [Res.ok.injEq] at h;obtain ⟨rfl,rfl⟩:=h;have c1:=Ap h1;refine leW (wS0 rfl rfl rfl rfl rfl) ?_;omega
theorem LK (n:Nat):∀(m:Nat) (acc:List TStmt) (l:List Tok) (x:List TStmt) (r:List Tok),Ba n m acc l= .ok x r→BM x≤l.length+BM acc
 |0,acc,l,x,r,h=>by simp only [Ba,Res.ok.injEq] at h;obtain ⟨rfl,rfl⟩:=h;omega
 |m+1,acc,l,x,r,h=>by
  simp only [Ba] at h;split at h
  ·simp only [Res.ok.injEq] at h;obtain ⟨rfl,rfl⟩:=h;omega
  split at h
  ·have:=LK n m _ _ _ _ h;have:l.tail.length≤l.length:=by simp
   omega
  ·obtain ⟨s,q,h1,h2⟩:=bind_ok h;have c1:=TC n _ _ _ h1;simp only at c1
   split at h2
   ·have c2:=LK n m _ _ _ _ h2;simp only [BM,List.map_append,List.map_cons,List.map_nil,List.sum_append,List.sum_cons,List.sum_nil,AIP] at c2 ⊢;omega
   ·cases h2
theorem Il (n:Nat):∀(f:Nat) (acc:List Tok) (s:Bs) (l:List Tok),DV n f acc s= .toks l→l.length≤acc.length+f
 |0,acc,s,l,h=>by simp only [DV,LexA.toks.injEq] at h;subst h;omega
 |f+1,acc,s,l,h=>by
  simp only [DV] at h;split at h
  ·simp only [LexA.toks.injEq] at h;subst h;simp
  ·split at h
   ·cases h
   ·have:=Il n f _ _ _ h;simp at this;omega
theorem QI (s:Bs):BM (readA s).1≤s.length+1:=by
 unfold readA;split
 ·simp [BM]
 ·rename_i l hl
  have hc:=Il _ _ _ _ _ hl;split
  ·rename_i x r hx
   have:=LK _ _ _ _ _ _ hx;simp [BM] at this hc ⊢;omega
  ·simp [BM]
def cQ (q:TSelect):Nat:=q.fItems.length+q.fFrom.length+q.fGroup.length+q.fOrder.length
def cS (s:TStmt):Nat:=cQ s.fSelect+(s.fRows.flatten.length+s.fRows.length)+s.fSets.length+s.fCols.length
theorem Ya {α:Type}(l:List α):(l.map fun _=>1).sum=l.length:=by
 induction l with
 |nil=>rfl
 |cons x l ih=>simp only [List.map_cons,List.sum_cons,ih,List.length_cons];omega
theorem Jc {α:Type}{g:Pr α}(hg:Bh (fun _=>1) g)(n:Nat):Bh List.length (Bc n g):=fun l x r h=>by
 have:=Dx hg n l x r h;simp only [Ya] at this;exact this
theorem Vl {α:Type}{g:Pr α}(hg:Bh (fun _=>1) g)(n:Nat):Bh List.length (Bv n g):=fun l x r h=>by
 have:=LJ hg n l x r h;simp only [Ya] at this;exact this
theorem QM (n:Nat):Bh (fun _=>1) (eP n):=fun l x r h=>by
 have:=(JG n).1 l x r h;have:1≤Aj x:=by cases x;simp [Aj]
 simp only;omega
theorem Vr (n:Nat)(s:Bs):Bh (fun _=>0) (Dz n s):=fun l x r h=>by
 have:=Hl n s l x r h;simp only;omega
theorem AIW (n:Nat):Bh (fun _=>1) (Fj n):=by
 intro l x r h;unfold Fj at h;split at h
 ·simp only [Res.ok.injEq] at h;obtain ⟨rfl,rfl⟩:=h;have:=Au ‹_›;simp only;omega
 split at h
 ·rename_i hb
  simp only [Bool.and_eq_true] at hb;have:=Hf hb.1.1.1.1 (by decide);simp only [Res.ok.injEq] at h;obtain ⟨rfl,rfl⟩:=h;simp only [List.length_tail] at this ⊢;omega
 ·obtain ⟨y,q,h1,h2⟩:=bind_ok h;have c1:=QM n _ _ _ h1;split at h2
  ·obtain ⟨a,q2,h3,h4⟩:=bind_ok h2;simp only [Res.ok.injEq] at h4;obtain ⟨rfl,rfl⟩:=h4;have c2:=BI _ _ _ h3;have c3:=Au ‹_›;simp only at c1 c2 ⊢;omega
  ·simp only [Res.ok.injEq] at h2;obtain ⟨rfl,rfl⟩:=h2;exact c1
theorem ACG (n:Nat):Bh (fun _=>1) (Gy n):=by
 intro l x r h;obtain ⟨y,q,h1,h2⟩:=bind_ok h;have c1:=QM n _ _ _ h1;simp only at c1
 split at h2
 ·simp only [Res.ok.injEq] at h2;obtain ⟨rfl,rfl⟩:=h2;have:=Au ‹_›;simp only;omega
 split at h2
 ·simp only [Res.ok.injEq] at h2;obtain ⟨rfl,rfl⟩:=h2;have:=Au ‹_›;simp only;omega
 ·simp only [Res.ok.injEq] at h2;obtain ⟨rfl,rfl⟩:=h2;exact c1
theorem one_set (n:Nat):Bh (fun _=>1) (Qz n):=by
 intro l x r h;obtain ⟨s,q,h1,h2⟩:=bind_ok h;obtain ⟨_,q2,h3,h4⟩:=bind_ok h2;obtain ⟨y,q3,h5,h6⟩:=bind_ok h4;simp only [Res.ok.injEq] at h6;obtain ⟨rfl,rfl⟩:=h6;have c1:=BI _ _ _ h1;have c2:=Ap h3;have c3:=QM n _ _ _ h5;simp only at c1 c3 ⊢;omega
theorem JA:Bh (fun _=>1) Ce:=by
 intro l x r h;obtain ⟨s,q,h1,h2⟩:=bind_ok h;have c1:=BI _ _ _ h1;simp only at c1
 split at h2
 ·obtain ⟨a,q2,h3,h4⟩:=bind_ok h2;simp only [Res.ok.injEq] at h4;obtain ⟨rfl,rfl⟩:=h4;have c2:=BI _ _ _ h3;have c3:=Au ‹_›;simp only at c2 ⊢;omega
 split at h2
 ·obtain ⟨a,q2,h3,h4⟩:=bind_ok h2;simp only [Res.ok.injEq] at h4;obtain ⟨rfl,rfl⟩:=h4;have c2:=BI _ _ _ h3;simp only at c2 ⊢;omega
 ·simp only [Res.ok.injEq] at h2;obtain ⟨rfl,rfl⟩:=h2;simp only;omega
theorem QL (n:Nat)(b:Bool):Bh (fun _=>1) (GR n b):=by
 intro l x r h;obtain ⟨_,q,h1,h2⟩:=bind_ok h;obtain ⟨s,q2,h3,h4⟩:=bind_ok h2;obtain ⟨_,q3,h5,h6⟩:=bind_ok h4;obtain ⟨y,q4,h7,h8⟩:=bind_ok h6;simp only [Res.ok.injEq] at h8;obtain ⟨rfl,rfl⟩:=h8;have c1:=Ap h1;have c2:=JA _ _ _ h3;have c3:=Ap h5;have c4:=QM n _ _ _ h7;simp only at c2 c4 ⊢;omega
theorem SG (n:Nat):∀(m:Nat) (acc:List TSource) (l:List Tok) (x:List TSource) (r:List Tok),Ci n m acc l= .ok x r→r.length+x.length≤l.length+acc.length
 |0,acc,l,x,r,h=>by simp only [Ci,Res.ok.injEq] at h;obtain ⟨rfl,rfl⟩:=h;omega
 |m+1,acc,l,x,r,h=>by
  have one:∀{g:Pr TSource} (_:Bh (fun _=>1) g) {l':List Tok},l'.length≤l.length→(g l').bind (fun s r=>Ci n m (acc++[s]) r)= .ok x r→r.length+x.length≤l.length+acc.length:=by
   intro g hg l' hl h;obtain ⟨a,q,h1,h2⟩:=bind_ok h;have c1:=hg _ _ _ h1;have c2:=SG n m _ _ _ _ h2;simp only [List.length_append,List.length_cons,List.length_nil] at c2;simp only at c1;omega
  simp only [Ci] at h;split at h
  ·exact one JA (by simp) h
  split at h
  ·obtain ⟨_,q,h1,h2⟩:=bind_ok h;have c1:=Ap h1;have c2:=Au ‹_›;exact one JA (by omega) h2
  split at h
  ·exact one (QL n true) (by simp) h
  split at h
  ·exact one (QL n false) (by simp) h
  split at h
  ·exact one (QL n false) (Nat.le_refl _) h
  ·simp only [Res.ok.injEq] at h;obtain ⟨rfl,rfl⟩:=h;omega
theorem AIX (n:Nat):Bh List.length (Jk n):=by
 intro l x r h;obtain ⟨a,q,h1,h2⟩:=bind_ok h;have c1:=JA _ _ _ h1;have c2:=SG n n _ _ _ _ h2;simp only [List.length_cons,List.length_nil] at c2;simp only at c1;omega
theorem ACj (n:Nat):Bh cQ (Fz n):=by
 intro l x r h;obtain ⟨a1,q1,h1,h⟩:=bind_ok h;obtain ⟨a2,q2,h2,h⟩:=bind_ok h;obtain ⟨a3,q3,h3,h⟩:=bind_ok h;obtain ⟨a4,q4,h4,h⟩:=bind_ok h;obtain ⟨a5,q5,h5,h⟩:=bind_ok h;obtain ⟨a6,q6,h6,h⟩:=bind_ok h;obtain ⟨a7,q7,h7,h⟩:=bind_ok h;obtain ⟨a8,q8,h8,h⟩:=bind_ok h;simp only [Res.ok.injEq] at h;obtain ⟨rfl,rfl⟩:=h;have c1:=Jc (AIW n) n _ _ _ h1;have c2:=EP (AIX n) _ rfl _ _ _ h2;have c3:=Vr n _ _ _ _ h3;have c4:=EP (Ou (Jc (QM n) n)) _ rfl _ _ _ h4;have c5:=Vr n _ _ _ _ h5;have c6:=EP (Ou (Jc (ACG n) n)) _ rfl _ _ _ h6;have c7:=EP JH _ rfl _ _ _ h7;have c8:=EP JH _ rfl _ _ _ h8;have c0:(if isT l [100,105,115,116,105,110,99,116] then l.tail else l).length≤l.length:=by split <;> simp
 simp only at c1 c2 c3 c4 c5 c6 c7 c8
 simp only [cQ];omega
theorem Xm (n:Nat):Bh (fun _=>1) (ET n):=by
 intro l x r h;obtain ⟨s,q,h1,h2⟩:=bind_ok h;have c1:=BI _ _ _ h1;simp only at h2 c1
 generalize (if isK q 1 then typeOf (hd q).text else 0)=t at h2;split at h2
 ·cases h2
 ·have c2:=Gj n _ _ _ _ h2;have:q.tail.length≤q.length:=by simp
  simp only [pz0] at c2 ⊢;omega
theorem Vm (n:Nat):∀(m:Nat) (cs:List TCol) (ks:List Bs) (l:List Tok) (x:List TCol×List Bs) (r:List Tok),Ed n m cs ks l= .ok x r→r.length+x.1.length≤l.length+cs.length
 |0,cs,ks,l,x,r,h=>by simp only [Ed,Res.ok.injEq] at h;obtain ⟨rfl,rfl⟩:=h;exact Nat.le_refl _
 |m+1,cs,ks,l,x,r,h=>by
  simp only [Ed] at h;obtain ⟨a,q,h1,h2⟩:=bind_ok h;have c1:q.length+a.1.length≤l.length+cs.length:=by
   split at h1
   ·obtain ⟨_,q1,g1,g2⟩:=bind_ok h1;obtain ⟨k,q2,g3,g4⟩:=bind_ok g2;simp only [Res.ok.injEq] at g4;obtain ⟨rfl,rfl⟩:=g4;have d1:=Ap g1;have d2:=Hg n _ _ _ g3;have:l.tail.length≤l.length:=by simp
    simp only at d2 ⊢;omega
   ·obtain ⟨c,q1,g1,g2⟩:=bind_ok h1;simp only [Res.ok.injEq] at g2;obtain ⟨rfl,rfl⟩:=g2;have d1:=Xm n _ _ _ g1;simp only [List.length_append,List.length_cons,List.length_nil] at d1 ⊢;omega
  split at h2
  ·have c2:=Vm n m _ _ _ _ _ h2;have:q.tail.length≤q.length:=by simp
   omega
  ·simp only [Res.ok.injEq] at h2;obtain ⟨rfl,rfl⟩:=h2;exact c1
theorem cS0 {s:TStmt}(h1:s.fSelect=default)(h3:s.fRows=[])(h4:s.fSets=[])(h5:s.fCols=[]):cS s=0:=by
 simp only [cS,h1,h3,h4,h5];rfl
theorem AMo {s:TStmt}(h1:s.fSelect=default)(h4:s.fSets=[])(h5:s.fCols=[]):cS s=s.fRows.flatten.length+s.fRows.length:=by
 simp only [cS,h1,h4,h5];show 0+_+0+0=_;simp
theorem AMn {s:TStmt}(h1:s.fSelect=default)(h3:s.fRows=[])(h5:s.fCols=[]):cS s=s.fSets.length:=by
 simp only [cS,h1,h3,h5];show 0+0+_+0=_;simp
theorem AMp {s:TStmt}(h1:s.fSelect=default)(h3:s.fRows=[])(h4:s.fSets=[]):cS s=s.fCols.length:=by
 simp only [cS,h1,h3,h4];show 0+0+0+_=_;simp
theorem ARY {s:TStmt}(h3:s.fRows=[])(h4:s.fSets=[])(h5:s.fCols=[]):cS s=cQ s.fSelect:=by
 simp only [cS,h3,h4,h5];show _+0+0+0=_;simp
theorem AIn {α:Type}:∀l:List (List α),l.flatten.length=(l.map List.length).sum
 |[]=>rfl
 |x::l=>by simp only [List.flatten_cons,List.length_append,List.map_cons,List.sum_cons,AIn l]
theorem SK {α:Type}:∀l:List (List α),(l.map fun x=>x.length+1).sum=l.flatten.length+l.length
 |[]=>rfl
 |x::l=>by simp only [List.flatten_cons,List.length_append,List.map_cons,List.sum_cons,SK l,List.length_cons];omega
theorem ACF {α:Type}{g:Pr α}(hg:Bh (fun _=>1) g)(n:Nat):Bh (fun x=>x.length+1) (Bv n g):=by
 intro l x r h;obtain ⟨_,q,h1,h2⟩:=bind_ok h;obtain ⟨a,q2,h3,h4⟩:=bind_ok h2;obtain ⟨_,q3,h5,h6⟩:=bind_ok h4;simp only [Res.ok.injEq] at h6;obtain ⟨rfl,rfl⟩:=h6;have c1:=Ap h1;have c2:=Jc hg n _ _ _ h3;have c3:=Ap h5;simp only;omega
theorem AJL {n:Nat}{l r:List Tok}{x:TStmt}(h:DK n l= .ok x r):r.length≤l.length∧cS x≤l.length:=by
 have hle:r.length≤l.length:=by have:=TC n _ _ _ h;omega
 refine ⟨hle,?_⟩;unfold DK at h;split at h
 ·obtain ⟨q,r1,h1,h2⟩:=bind_ok h;simp only [Res.ok.injEq] at h2;obtain ⟨rfl,rfl⟩:=h2;have c1:=ACj n _ _ _ h1;rw [ARY rfl rfl rfl];simp only [List.length_tail] at c1 ⊢;omega
 split at h
 ·obtain ⟨_,r1,h1,h⟩:=bind_ok h;obtain ⟨s,r2,h2,h⟩:=bind_ok h;obtain ⟨c,r3,h3,h⟩:=bind_ok h;obtain ⟨_,r4,h4,h⟩:=bind_ok h;obtain ⟨y,r5,h5,h⟩:=bind_ok h;simp only [Res.ok.injEq] at h;obtain ⟨rfl,rfl⟩:=h;have c1:=Ap h1;have c2:=BI _ _ _ h2;have c3:r3.length≤r2.length:=by
   split at h3
   ·exact Ue (Hg n _ _ _ h3)
   ·simp only [Res.ok.injEq] at h3;obtain ⟨rfl,rfl⟩:=h3;exact Nat.le_refl _
  have c4:=Ap h4;have c5:=Dx (ACF (QM n) n) n _ _ _ h5;rw [AMo rfl rfl rfl,←SK];simp only [List.length_tail] at c1 c2 c5 ⊢;omega
 split at h
 ·obtain ⟨s,r1,h1,h⟩:=bind_ok h;obtain ⟨_,r2,h2,h⟩:=bind_ok h;obtain ⟨y,r3,h3,h⟩:=bind_ok h;obtain ⟨z,r4,h4,h⟩:=bind_ok h;simp only [Res.ok.injEq] at h;obtain ⟨rfl,rfl⟩:=h;have c1:=BI _ _ _ h1;have c2:=Ap h2;have c3:=Jc (one_set n) n _ _ _ h3;rw [AMn rfl rfl rfl];simp only [List.length_tail] at c1 ⊢;omega
 split at h
 ·obtain ⟨_,r1,h1,h⟩:=bind_ok h;obtain ⟨s,r2,h2,h⟩:=bind_ok h;obtain ⟨z,r3,h3,h⟩:=bind_ok h;simp only [Res.ok.injEq] at h;obtain ⟨rfl,rfl⟩:=h;rw [cS0 rfl rfl rfl rfl];omega
 split at h
 ·unfold ES at h;split at h
  ·obtain ⟨s,q,h1,h⟩:=bind_ok h;obtain ⟨_,q2,h2,h⟩:=bind_ok h;obtain ⟨y,q3,h3,h⟩:=bind_ok h;have c1:=BI _ _ _ h1;have c2:=Ap h2;have c3:=Vm n _ _ _ _ _ _ h3;split at h
   ·cases h
   ·obtain ⟨_,q4,h4,h⟩:=bind_ok h;simp only [Res.ok.injEq] at h;obtain ⟨rfl,rfl⟩:=h;rw [AMp rfl rfl rfl];simp only [List.length_tail,List.length_nil] at c1 c3 ⊢;omega
  ·obtain ⟨_,q1,h1,h⟩:=bind_ok h;obtain ⟨_,q2,h2,h⟩:=bind_ok h;obtain ⟨_,q3,h3,h⟩:=bind_ok h;obtain ⟨_,q4,h4,h⟩:=bind_ok h;obtain ⟨_,q5,h5,h⟩:=bind_ok h;simp only [Res.ok.injEq] at h;obtain ⟨rfl,rfl⟩:=h;rw [cS0 rfl rfl rfl rfl];omega
 split at h
 ·unfold FO at h;split at h
  ·obtain ⟨_,q1,h1,h⟩:=bind_ok h;simp only [Res.ok.injEq] at h;obtain ⟨rfl,rfl⟩:=h;rw [cS0 rfl rfl rfl rfl];omega
  ·obtain ⟨_,q1,h1,h⟩:=bind_ok h;obtain ⟨_,q2,h2,h⟩:=bind_ok h;simp only [Res.ok.injEq] at h;obtain ⟨rfl,rfl⟩:=h;rw [cS0 rfl rfl rfl rfl];omega
 split at h
 ·simp only [Res.ok.injEq] at h;obtain ⟨rfl,rfl⟩:=h;rw [cS0 rfl rfl rfl rfl];omega
 split at h
 ·simp only [Res.ok.injEq] at h;obtain ⟨rfl,rfl⟩:=h;rw [cS0 rfl rfl rfl rfl];omega
 ·obtain ⟨_,q1,h1,h⟩:=bind_ok h;simp only [Res.ok.injEq] at h;obtain ⟨rfl,rfl⟩:=h;rw [cS0 rfl rfl rfl rfl];omega
theorem NK (n:Nat):∀(m:Nat) (acc:List TStmt) (l:List Tok) (x:List TStmt) (r:List Tok),Ba n m acc l= .ok x r→∀s∈x,s∈acc∨cS s≤l.length
 |0,acc,l,x,r,h,s,hs=>by simp only [Ba,Res.ok.injEq] at h;obtain ⟨rfl,rfl⟩:=h;exact .inl hs
 |m+1,acc,l,x,r,h,s,hs=>by
  simp only [Ba] at h;split at h
  ·simp only [Res.ok.injEq] at h;obtain ⟨rfl,rfl⟩:=h;exact .inl hs
  split at h
  ·have:=NK n m _ _ _ _ h s hs;simp only [List.length_tail] at this;exact this.imp id (fun h=>by omega)
  ·obtain ⟨s',q,h1,h2⟩:=bind_ok h;have c1:=AJL h1;split at h2
   ·rcases NK n m _ _ _ _ h2 s hs with h|h
    ·rcases List.mem_append.1 h with h|h
     ·exact .inl h
     ·rw [List.mem_singleton.1 h];exact .inr c1.2
    ·exact .inr (by omega)
   ·cases h2
theorem WJ (s:Bs):∀x∈(readA s).1,cS x≤s.length+1:=by
 unfold readA;split
 ·intro x hx;cases hx
 ·rename_i l hl
  have hc:=Il _ _ _ _ _ hl;split
  ·rename_i x r hx
   intro y hy;rcases NK _ _ _ _ _ _ hx y hy with h|h
   ·cases h
   ·simp at hc;omega
  ·intro x hx;cases hx
def ATR (ω:Om):Prop:=∀(v:Value) (l:List TStmt) (K:Value→M) (I:Imm) (L:LH),RL TStmtV 51 I [] v l→BM l≤1000000000→(∀s∈l,cS s≤1000000000)→(∀I',Ext I I'→K (.int .i64 (MH (BM l) (DC l))) I' L)→CT ω 26 #[v] K I L
theorem RI {n:Nat}:∀{f:Nat} {acc:List Tok} {s:Bs} {e:Flt},DV n f acc s= .bad e→e.code≠0
 |0,acc,s,e,h=>by simp [DV] at h
 |f+1,acc,s,e,h=>by
  rw [PS] at h;unfold ACz at h;split at h
  ·cases h
  ·split at h
   ·rename_i x hx
    simp only [LexA.bad.injEq] at h;subst h;exact QN hx
   ·exact RI h
theorem Kq (s:Bs):(readA s).2=ok0∨((readA s).2.code≠0∧(readA s).1=[]):=by
 unfold readA;split
 ·rename_i f hf
  exact .inr ⟨RI hf,rfl⟩
 ·split
  ·exact .inl rfl
  ·exact .inr ⟨by simp,rfl⟩
section
variable {ω:Om}
theorem APY {I:Imm}{L:LH}{K:Value→M}{w:Value}{xs:List TStmt}(hw:RL TStmtV 51 I [] w xs)(hk:∀a k,RL TStmtV 51 I [] (.slice a xs.length k) xs→K (.slice a xs.length k) I L):CT ω 27 #[w] K I L:=by
 refine ASw ?_;unfold AOa;obtain ⟨w',h1,h2⟩:=Fq hw;simp only [RL.len hw,h1,SSd,Nat.reduceAdd];obtain ⟨a,k,rfl⟩:=RL.form h2;exact Gh.done (hk a k h2)
theorem Gx {G:Imm}(hTok:Uj ω G)(hLim:ATR ω)(s:Bs){I:Imm}{L:LH}{K:Value→M}(hG:Ext G I)
  (hok:∀I' a k,Ext I I'→RL TStmtV 51 I' [] (.slice a (BZ s).1.length k) (BZ s).1→K (.tuple #[.slice a (BZ s).1.length k,.agg #[.int .i64 (BZ s).2.code,.int .i64 (BZ s).2.at']]) I' L):
  CT ω 12 #[.string ⟨s.toArray⟩] K I L:=by
 have hparts:s.length≤65536→BM (readA s).1≤1000000000∧∀x∈(readA s).1,cS x≤1000000000:=fun h=>⟨by have:=QI s;omega,fun x hx=>by have:=WJ s x hx;omega⟩;refine ATE ?_;unfold AOi;refine AV (fun b1=>?_);try simp only [SSd,Nat.reduceAdd]
 refine AB (fun hb=>?_) (fun hb=>?_)
 ·have hb:65536 < s.length:=by
   have:=of_decide_eq_true hb;omega
  have hp:BZ s=([],⟨170,65536⟩):=by unfold BZ;rw [if_pos hb]
  rw [hp] at hok;repeat' (first|(with_reducible first|refine Ag ?_|refine Ac ?_|refine Aa ?_|refine keepA ?_|refine AV (fun _=>?_)|refine rdb ?_)|((with_reducible first|refine st1 ?_ ?_|refine rdB ?_ ?_);rfl)|(with_reducible refine Ai ?_)|((with_reducible refine Az ?_ ?_);rfl)|((with_reducible refine stB ?_ ?_ ?_ ?_);rfl;rfl;exact AO rfl)|((with_reducible first|refine rdP _ rfl ?_ ?_|refine BB _ rfl ?_ ?_);rfl)|((with_reducible refine stP _ rfl ?_ ?_ ?_ ?_);rfl;rfl;rfl)|(with_reducible refine And.intro ?_ ?_)|(simp only [SSg,Int.reduceBEq,Int.reduceBNe,Int.reduceLT,Int.reduceLE,beq_self_eq_true,bne_self_eq_false])|(with_reducible first|refine AP (fun _=>?_) (fun _=>?_)|refine AB (fun _=>?_) (fun _=>?_))|(simp only [SSd,Nat.reduceAdd]))
  exact Gh.to L (Gh.done (hok I none 0 (Ext.refl _) (RL.nil none 0)))
 have hb:s.length≤65536:=by
  have:=of_decide_eq_false hb;omega
 refine call (Rt hTok s (by omega) hG (fun I1 a k hI1 hw=>?_));have hcode:=Kq s;generalize hr:readA s=q at hw hok hparts hcode ⊢;obtain ⟨l,f⟩:=q;have hp:BZ s=if f≠ok0 then ([],f) else if MH (BM l) (DC l)≠0 then ([],⟨MH (BM l) (DC l),0⟩) else (l,ok0):=by
  unfold BZ;rw [if_neg (by omega),hr]
 simp only at hw hparts hcode ⊢
 rcases hcode with rfl|⟨hc,rfl⟩
 ·rw [if_neg (by simp)] at hp;repeat' (first|(with_reducible first|refine Ag ?_|refine Ac ?_|refine Aa ?_|refine keepA ?_|refine AV (fun _=>?_)|refine rdb ?_)|((with_reducible first|refine st1 ?_ ?_|refine rdB ?_ ?_);rfl)|(with_reducible refine Ai ?_)|((with_reducible refine Az ?_ ?_);rfl)|((with_reducible refine stB ?_ ?_ ?_ ?_);rfl;rfl;exact AO rfl)|((with_reducible first|refine rdP _ rfl ?_ ?_|refine BB _ rfl ?_ ?_);rfl)|((with_reducible refine stP _ rfl ?_ ?_ ?_ ?_);rfl;rfl;rfl)|(with_reducible refine And.intro ?_ ?_)|(simp only [SSg,Int.reduceBEq,Int.reduceBNe,Int.reduceLT,Int.reduceLE,beq_self_eq_true,bne_self_eq_false])|(with_reducible first|refine AP (fun _=>?_) (fun _=>?_)|refine AB (fun _=>?_) (fun _=>?_))|(simp only [SSd,Nat.reduceAdd,ok0]))
  rename_i bt
  refine call (hLim _ l _ _ _ hw (hparts hb).1 (hparts hb).2 (fun I2 hI2=>?_));by_cases h0:MH (BM l) (DC l)=0
  ·rw [h0];rw [if_neg (by simpa using h0)] at hp;rw [hp] at hok;repeat' (first|(with_reducible first|refine Ag ?_|refine Ac ?_|refine Aa ?_|refine keepA ?_|refine AV (fun _=>?_)|refine rdb ?_)|((with_reducible first|refine st1 ?_ ?_|refine rdB ?_ ?_);rfl)|(with_reducible refine Ai ?_)|((with_reducible refine Az ?_ ?_);rfl)|((with_reducible refine stB ?_ ?_ ?_ ?_);rfl;rfl;exact AO rfl)|((with_reducible first|refine rdP _ rfl ?_ ?_|refine BB _ rfl ?_ ?_);rfl)|((with_reducible refine stP _ rfl ?_ ?_ ?_ ?_);rfl;rfl;rfl)|(with_reducible first|refine Bl (sh12_1.eq_1 ..) ?_|refine And.intro ?_ ?_)|(simp only [SSg,Int.reduceBEq,Int.reduceBNe,Int.reduceLT,Int.reduceLE,beq_self_eq_true,bne_self_eq_false])|(with_reducible first|refine AP (fun _=>?_) (fun _=>?_)|refine AB (fun _=>?_) (fun _=>?_))|(simp only [SSd,Nat.reduceAdd]))
   refine call (APY (RL.mono (fun _ _ h=>TStmtV.mono h hI2) hw hI2 (fun _ h=>h)) (fun a' k' hw'=>?_));repeat' (first|(with_reducible first|refine Ag ?_|refine Ac ?_|refine Aa ?_|refine keepA ?_|refine AV (fun _=>?_)|refine rdb ?_)|((with_reducible first|refine st1 ?_ ?_|refine rdB ?_ ?_);rfl)|(with_reducible refine Ai ?_)|((with_reducible refine Az ?_ ?_);rfl)|((with_reducible refine stB ?_ ?_ ?_ ?_);rfl;rfl;exact AO rfl)|((with_reducible first|refine rdP _ rfl ?_ ?_|refine BB _ rfl ?_ ?_);rfl)|((with_reducible refine stP _ rfl ?_ ?_ ?_ ?_);rfl;rfl;rfl)|(with_reducible refine And.intro ?_ ?_)|(simp only [SSg,Int.reduceBEq,Int.reduceBNe,Int.reduceLT,Int.reduceLE,beq_self_eq_true,bne_self_eq_false])|(with_reducible first|refine AP (fun _=>?_) (fun _=>?_)|refine AB (fun _=>?_) (fun _=>?_))|(simp only [SSd,Nat.reduceAdd]))
   exact Gh.to L (Gh.done (hok I2 a' k' (Ext.trans hI1 hI2) hw'))
  ·rw [if_pos h0] at hp;rw [hp] at hok;have e2:(MH (BM l) (DC l) != 0)=true:=by simpa using h0
   repeat' (first|(with_reducible first|refine Ag ?_|refine Ac ?_|refine Aa ?_|refine keepA ?_|refine AV (fun _=>?_)|refine rdb ?_)|((with_reducible first|refine st1 ?_ ?_|refine rdB ?_ ?_);rfl)|(with_reducible refine Ai ?_)|((with_reducible refine Az ?_ ?_);rfl)|((with_reducible refine stB ?_ ?_ ?_ ?_);rfl;rfl;exact AO rfl)|((with_reducible first|refine rdP _ rfl ?_ ?_|refine BB _ rfl ?_ ?_);rfl)|((with_reducible refine stP _ rfl ?_ ?_ ?_ ?_);rfl;rfl;rfl)|(with_reducible first|refine Bl (sh12_1.eq_1 ..) ?_|refine And.intro ?_ ?_)|(simp only [SSg,Int.reduceBEq,Int.reduceBNe,Int.reduceLT,Int.reduceLE,beq_self_eq_true,bne_self_eq_false])|(with_reducible first|refine AP (fun _=>?_) (fun _=>?_)|refine AB (fun _=>?_) (fun _=>?_))|(simp only [SSd,Nat.reduceAdd,e2]))
   exact Gh.to L (Gh.done (hok I2 none 0 (Ext.trans hI1 hI2) (RL.nil none 0)))
 ·rw [if_pos (by rintro rfl;exact hc rfl)] at hp;rw [hp] at hok;have e1:(f.code==0)=false:=by simpa using hc
  have e2:(f.code != 0)=true:=by simpa using hc
  repeat' (first|(with_reducible first|refine Ag ?_|refine Ac ?_|refine Aa ?_|refine keepA ?_|refine AV (fun _=>?_)|refine rdb ?_)|((with_reducible first|refine st1 ?_ ?_|refine rdB ?_ ?_);rfl)|(with_reducible refine Ai ?_)|((with_reducible refine Az ?_ ?_);rfl)|((with_reducible refine stB ?_ ?_ ?_ ?_);rfl;rfl;exact AO rfl)|((with_reducible first|refine rdP _ rfl ?_ ?_|refine BB _ rfl ?_ ?_);rfl)|((with_reducible refine stP _ rfl ?_ ?_ ?_ ?_);rfl;rfl;rfl)|(with_reducible first|refine Bl (sh12_1.eq_1 ..) ?_|refine And.intro ?_ ?_)|(simp only [SSg,Int.reduceBEq,Int.reduceBNe,Int.reduceLT,Int.reduceLE,beq_self_eq_true,bne_self_eq_false])|(with_reducible first|refine AP (fun _=>?_) (fun _=>?_)|refine AB (fun _=>?_) (fun _=>?_))|(simp only [SSd,Nat.reduceAdd,e1,e2]))
  exact Gh.to L (Gh.done (hok I1 none 0 hI1 (RL.nil none 0)))
end
section
variable {P:Program}{ω:Om}{K:Value→M}{I:Imm}{L:LH}
theorem Hm {f:FuncId}{args cap:Array Value}(he:CQ P f=true)(h:Cal P ω f (args++cap) K I L):CalV P ω (.func (.func f) #[] cap) args K I L:=by
 unfold CalV;simp only [he,if_true];simpa using h
end
theorem CalV.to {P:Program}{ω:Om}{K:Value→M}{I:Imm}{L:LH}{x:Value}{args:Array Value}(L':LH)[hs:SubP L' L](h:CalV P ω x args K I L'):CalV P ω x args K I L:=by
 have key:∀w,St ω w I L→St ω w I L':=fun w hw=>by
  obtain ⟨R,hR⟩:=hs.sub;exact (hw.perm hR).drop (List.sublist_append_left L' R)
 match x,h with
 | .func (.func f) first cap,h=>
  simp only [CalV] at h ⊢;by_cases he:CQ P f=true
  ·rw [if_pos he] at h ⊢;exact fun w hw=>h w (key w hw)
  ·rw [if_neg he] at h ⊢;cases hx:QY P f with
   |none=>rw [hx] at h;exact h.elim
   |some e=>
    rw [hx] at h;exact fun w hw=>h w (key w hw)
 | .func (.yield l) first cap,h=>exact fun w hw=>h w (key w hw)
abbrev Dh (n:Int):Obj:=.cells [.int .i64 n].toArray 3 (0,0)
abbrev doV (b1 b2:Nat):Value:=.func (.func 105) #[] #[AY b1,AY b2]
abbrev doO (b1 b2:Nat):Obj:=.cells [doV b1 b2].toArray 156 (0,0)
abbrev inV (bd bi:Nat):Value:=.func (.func 158) #[] #[AY bd,AY bi]
abbrev inO (bd bi:Nat):Obj:=.cells [inV bd bi].toArray 156 (0,0)
def mxI (a b:Int):Int:=if b > a then b else a
theorem APA (a b:Int):mxI a b=max a b:=by unfold mxI;omega
section
variable {ω:Om}{K:Value→M}{I:Imm}{F:LH}
theorem AMg {b1 b2:Nat}{p d n:Int}{c:List Value}(hc:c.length=11)(hp:0≤p∧p≤1000000000000000000)(hk:K (.tuple #[]) I ((b1,Dh (p+1))::(b2,Dh (max d n))::F)):
  CW ω (doV b1 b2) #[.agg c.toArray,.int .i64 n] K I ((b1,Dh p)::(b2,Dh d)::F):=by
 refine Hm (by kernel_rfl) ?_;refine ARS ?_;show AAQ ω (.agg c.toArray) (.int .i64 n) (AY b1) (AY b2) _ I _;unfold AAQ;refine AV (fun b=>?_);rw [←APA] at hk;unfold mxI at hk;repeat' (first|(with_reducible first|refine Ag ?_|refine Ac ?_|refine Aa ?_|refine keepA ?_|refine AV (fun _=>?_)|refine rdb ?_)|((with_reducible first|refine st1 ?_ ?_|refine rdB ?_ ?_);rfl)|(with_reducible refine Ai ?_)|((with_reducible refine Az ?_ ?_);rfl)|((with_reducible refine stB ?_ ?_ ?_ ?_);rfl;rfl;exact AO rfl)|((with_reducible first|refine rdP _ rfl ?_ ?_|refine BB _ rfl ?_ ?_);rfl)|((with_reducible refine stP _ rfl ?_ ?_ ?_ ?_);rfl;rfl;rfl)|(with_reducible refine And.intro ?_ ?_)|(simp only [SSg,Int.reduceBEq,Int.reduceBNe,Int.reduceLT,Int.reduceLE,beq_self_eq_true,bne_self_eq_false])|(with_reducible first|refine AP (fun _=>?_) (fun _=>?_)|refine AB (fun _=>?_) (fun _=>?_))|(simp only [SSd,Nat.reduceAdd,wrap_i64 (p+1) (by omega)]))
 exact Gh.to _ (Gh.done hk)
theorem Vh {l:List Ex}{k:Nat}(h:k < l.length):Ah (l.take (k+1))=Ah (l.take k)+Aj l[k]:=by
 rw [List.take_succ_eq_append_getElem h,DT];simp [Ah]
theorem FX:∀a b:List Ex,Bd (a++b)=max (Bd a) (Bd b)
 |[],b=>by simp [Bd]
 |x::a,b=>by simp only [List.cons_append,Bd,FX a b];omega
theorem YF {l:List Ex}{k:Nat}(h:k < l.length):Bd (l.take (k+1))=max (Bd (l.take k)) (DW l[k]):=by
 rw [List.take_succ_eq_append_getElem h,FX];simp [Bd]
theorem Gi (x:Ex):1≤DW x:=by cases x;simp [DW]
theorem SA (x:Ex):1≤Aj x:=by cases x;simp [Aj]
theorem NE {x:Ex}:∀{l:List Ex},x∈l→Aj x≤Ah l
 |y::l,h=>by
  rcases List.mem_cons.1 h with rfl|h
  ·simp only [Ah];omega
  ·have:=NE h;simp only [Ah];omega
mutual
theorem Qd:∀x:Ex,DW x≤Aj x
 | .mk _ _ _ _ _ _ _ l=>by simp only [DW,Aj];have:=Nh l;omega
theorem Nh:∀l:List Ex,Bd l≤Ah l
 |[]=>by simp [Bd]
 |x::l=>by simp only [Bd,Ah];have:=Qd x;have:=Nh l;omega
end
theorem Xi (x:Ex):Aj x=Ah x.args+1:=by cases x;rfl
theorem EF (x:Ex):DW x=Bd x.args+1:=by cases x;rfl
theorem AAr {b1 b2 bd bi:Nat}:∀(m:Nat) (x:Ex),Aj x≤m→∀(p d n:Int) (c:List Value) (K:Value→M) (I:Imm) (F:LH),ExV I x c→0≤p→p+Aj x≤1000000000000000000→0≤n→n+DW x≤1000000000000000000→
  K (.tuple #[]) I ((b1,Dh (p+Aj x))::(b2,Dh (max d (n+DW x - 1)))::(bd,doO b1 b2)::(bi,inO bd bi)::F)→
  CW ω (inV bd bi) #[.agg c.toArray,.int .i64 n] K I ((b1,Dh p)::(b2,Dh d)::(bd,doO b1 b2)::(bi,inO bd bi)::F)
 |0,x,hm,_,_,_,_,_,_,_,_,_,_,_,_,_=>by have:=SA x;omega
 |m+1,x,hm,p,d,n,c,K,I,F,hx,hp,hpx,hn,hnx,hk=>by
  refine Hm (by kernel_rfl) ?_;refine AQe ?_;show ZV ω (.agg c.toArray) (.int .i64 n) (AY bd) (AY bi) _ I _;have hcl:=hx.len;obtain ⟨v,rfl,ha⟩:=ExV.iff.1 hx;unfold ZV;refine AV (fun b=>?_);try simp only [SSd,Nat.reduceAdd]
  refine rdb ?_;refine rdB rfl ?_;refine Ej ?_;refine CalV.to ((b1,Dh p)::(b2,Dh d)::(b,.cells (BC x v).toArray 37 (0,0))::(bd,doO b1 b2)::(bi,inO bd bi)::F) ?_;refine AMg hcl ⟨hp,by omega⟩ ?_;try simp only [SSd,Nat.reduceAdd]
  refine rdb ?_;simp only [RL.len ha,SSd,Nat.reduceAdd];have h1:=Xi x;have h2:=EF x;refine loop (fun q s I' L'=>∃k:Nat,k+q=x.args.length∧s=(.int .i64 k,())∧I'=I∧L'=(b1,Dh (p+1+Ah (x.args.take k)))::(b2,Dh (max (max d n) (n+Bd (x.args.take k))))::(b,.cells (BC x v).toArray 37 (0,0))::(bd,doO b1 b2)::(bi,inO bd bi)::F) x.args.length ⟨0,by omega,rfl,rfl,by rw [show p+1+((Ah (x.args.take 0):Nat):Int)=p+1 by simp [Ah],show max (max d n) (n+((Bd (x.args.take 0):Nat):Int))=max d n by simp only [List.take_zero,Bd];omega]⟩ ?_;rintro q s I' L' ⟨k,hkq,rfl,rfl,rfl⟩;unfold ZU;try simp only [SSd,Nat.reduceAdd]
  have hle:x.args.length≤Ah x.args:=by
   generalize x.args=l;induction l with
   |nil=>simp
   |cons y l ih=>have:=SA y;simp only [Ah,List.length_cons];omega
  refine AB (fun hb=>?_) (fun hb=>?_)
  ·have hb:k < x.args.length:=by
    have:=of_decide_eq_true hb;omega
   obtain ⟨bt,off,c1,g1,gl,g2,g3⟩:=RL.ix ha (i:=k) (by omega) (by omega);rw [Aq hb] at g2;have hcl1:=ExV.len g2;have hm1:=NE (List.getElem_mem hb);have hone:=ExV.one g2;simp only [g1,SSd,Nat.reduceAdd];refine EO (g3 _ [] (Ext.refl _) (fun _ h=>h)) (Ext.refl _) hcl1 ?_;refine AV (fun b3=>?_);refine stB hcl1 rfl hone ?_;refine rdb ?_;refine rdB hcl1 ?_;simp only [wrap_i64 (n+1) (by omega),SSd,Nat.reduceAdd];refine Ej ?_;refine CalV.to ((b1,Dh (p+1+Ah (x.args.take k)))::(b2,Dh (max (max d n) (n+Bd (x.args.take k))))::(bd,doO b1 b2)::(bi,inO bd bi)::(b3,.cells c1.toArray 37 (0,0))::(b,.cells (BC x v).toArray 37 (0,0))::F) ?_;have htk:=Vh hb;have htd:=YF hb;have hts:Ah (x.args.take (k+1))≤Ah x.args:=by
    have h:=DT (x.args.take (k+1)) (x.args.drop (k+1));rw [List.take_append_drop] at h;omega
   have hdl:DW x.args[k]≤Bd x.args:=by
    have h:=FX (x.args.take (k+1)) (x.args.drop (k+1));rw [List.take_append_drop] at h;omega
   refine AAr m x.args[k] (by omega) _ _ (n+1) c1 _ _ _ g2 (by omega) (by omega) (by omega) (by omega) ?_;simp only [wrap_i64 ((k:Int)+1) (by omega),SSd,Nat.reduceAdd];rw [←show p+1+(Ah (x.args.take (k+1)):Int)=p+1+Ah (x.args.take k)+Aj x.args[k] by omega,←show max (max d n) (n+(Bd (x.args.take (k+1)):Int))=max (max (max d n) (n+Bd (x.args.take k))) (n+1+DW x.args[k] - 1) by omega];refine Gh.to ((b1,Dh (p+1+Ah (x.args.take (k+1))))::(b2,Dh (max (max d n) (n+Bd (x.args.take (k+1)))))::(b,.cells (BC x v).toArray 37 (0,0))::(bd,doO b1 b2)::(bi,inO bd bi)::F) ?_;exact Gh.done ⟨q - 1,by omega,k+1,by omega,rfl,rfl,rfl⟩
  ·have hb:¬k < x.args.length:=by
    have:=of_decide_eq_false hb;omega
   have hkl:x.args.take k=x.args:=List.take_of_length_le (by omega);rw [hkl];rw [←show p+(Aj x:Int)=p+1+Ah x.args by omega,←show max d (n+(DW x:Int) - 1)=max (max d n) (n+Bd x.args) by omega];exact Gh.to ((b1,Dh (p+Aj x))::(b2,Dh (max d (n+DW x - 1)))::(bd,doO b1 b2)::(bi,inO bd bi)::F) (Gh.done hk)
end
def GL (I:Imm)(X:LH)(v:Value)(xs:List Ex):Prop:=∃cells,GrO I 37 11 X v cells xs.length∧Recs (ExV I) 11 xs cells
theorem GL.mono {I I':Imm}{X:LH}{v:Value}{xs:List Ex}(h:GL I X v xs)(hI:Ext I I'):GL I' X v xs:=by
 obtain ⟨cells,h1,h2⟩:=h;exact ⟨cells,h1.mono hI,Recs.imp (fun _ _ h=>ExV.mono hI h) h2⟩
theorem GL.rl {I:Imm}{X L:LH}{v:Value}{xs:List Ex}(h:GL I X v xs)(hL:∀x∈X,x∈L):RL ExV 11 I L v xs:=by
 obtain ⟨cells,h1,h2⟩:=h;obtain ⟨a,k,rfl,hle⟩:=h1.form;exact ⟨a,k,cells,rfl,hle,h1.news hL,h2⟩
section
variable {ω:Om}{K:Value→M}{I:Imm}{F:LH}
instance splitNil (L:LH):SplitL [] L L:=⟨List.Perm.refl _⟩
theorem HY {X L:LH}[SplitL X L F]{z:Array Value}{xs ys:List Ex}{s x:Value}(hz:z.size=11)(hG:GL I X s xs)(hy:ExL I x ys)(hb:xs.length+ys.length≤1000000000000)(hk:∀X' v',GL I X' v' (xs++ys)→K v' I (X'++F)):
  App 37 11 128 z s x (gh K) I L:=by
 obtain ⟨cells,h1,h2⟩:=hG;obtain ⟨c,s4,r4⟩:=RL.toI (by decide) hy;refine ARb (X:=X) hz h1 s4.news (Recs.one_cells (fun _ _ h=>ExV.one h) r4) (by omega) (by omega) (fun X' v' h=>hk X' v' ⟨_,by rw [List.length_append];exact h,Recs.append h2 r4⟩)
theorem Qr {z:Array Value}{x:Ex}{c:List Value}(hx:ExV I x c)(hk:∀I' a,Ext I I'→ExL I' (.slice a 1 1) [x]→Gh (K (.slice a 1 1)) I' F):Af 37 11 z 1 [(0,.agg c.toArray)] (gh K) I F:=
 EQ (R:=ExV) [x] [c] rfl rfl rfl (by simp [hx.len]) (by simpa using hx) (fun hI h=>ExV.mono hI h) hk
theorem APP {X:LH}{vs w:Value}{p2 p4:Value}{ys:List TItem}{xs:List Ex}(hy:RL TItemV 14 I [] vs ys)(hG:GL I X w xs)(hb:xs.length+ys.length≤1000000000000)
  (hk:∀I' X' w',Ext I I'→GL I' X' w' (xs++ys.map fun y=>y.fExpr)→UE ω p2 p4 w' K I' (X'++F)):
  BD ((w,.int .i64 0,()):Value×Value×Unit) (fun s Kn=>UF ω p2 p4 vs (.int .i64 ys.length) s.1 s.2.1 Kn K) I (X++F):=by
 refine loop (fun q st I' L'=>∃k X' v',k+q=ys.length∧st=(v',.int .i64 (k:Nat),())∧Ext I I'∧GL I' X' v' (xs++(ys.take k).map fun y=>y.fExpr)∧L'=X'++F) ys.length ⟨0,X,w,by omega,rfl,Ext.refl _,by simpa using hG,rfl⟩ ?_;rintro q st I' L' ⟨k,X',v',hkq,rfl,hI',hG',rfl⟩;unfold UF;try simp only [SSd,Nat.reduceAdd]
 refine AB (fun hb=>?_) (fun hb=>?_)
 ·have hb:k < ys.length:=by
   have:=of_decide_eq_true hb;omega
  obtain ⟨bt,off,c1,g1,gl,g2,g3⟩:=RL.ix hy (i:=k) (by omega) (by omega);rw [Aq hb] at g2;obtain ⟨v0,rfl,h0⟩:=g2.mono hI';simp only [g1,SSd,Nat.reduceAdd];refine EO (g3 _ [] hI' (fun _ h=>h)) (Ext.refl _) rfl ?_;refine AV (fun b3=>?_);obtain ⟨a0,k0,rfl⟩:=RL.form h0;refine stB rfl rfl (AO rfl) ?_;try simp only [SSd,Nat.reduceAdd]
  refine rdP _ rfl rfl ?_;refine Qr (x:=ys[k].fExpr) (ExV.iff.2 ⟨_,rfl,h0⟩) (fun I2 a2 hI2 hw2=>Gh.done ?_);refine HY (X:=X') rfl (hG'.mono hI2) hw2 (by simp;omega) (fun X3 w3 hG3=>?_);simp only [wrap_i64 ((k:Int)+1) (by omega),SSd,Nat.reduceAdd];refine Gh.to (X3++F) (Gh.done ⟨q - 1,by omega,k+1,X3,w3,by omega,rfl,Ext.trans hI' hI2,?_,rfl⟩);rw [List.take_succ_eq_append_getElem hb,List.map_append,←List.append_assoc];exact hG3
 ·have hb:¬k < ys.length:=by
   have:=of_decide_eq_false hb;omega
  rw [List.take_of_length_le (by omega)] at hG';exact hk I' X' v' hI' hG'
theorem APO {X:LH}{vs w:Value}{p2 p4:Value}{ys:List TSource}{xs:List Ex}(hy:RL TSourceV 14 I [] vs ys)(hG:GL I X w xs)(hb:xs.length+ys.length≤1000000000000)
  (hk:∀I' X' w',Ext I I'→GL I' X' w' (xs++ys.map fun y=>y.fOn)→UC ω p2 p4 w' K I' (X'++F)):
  BD ((w,.int .i64 0,()):Value×Value×Unit) (fun s Kn=>UD ω p2 p4 vs (.int .i64 ys.length) s.1 s.2.1 Kn K) I (X++F):=by
 refine loop (fun q st I' L'=>∃k X' v',k+q=ys.length∧st=(v',.int .i64 (k:Nat),())∧Ext I I'∧GL I' X' v' (xs++(ys.take k).map fun y=>y.fOn)∧L'=X'++F) ys.length ⟨0,X,w,by omega,rfl,Ext.refl _,by simpa using hG,rfl⟩ ?_;rintro q st I' L' ⟨k,X',v',hkq,rfl,hI',hG',rfl⟩;unfold UD;try simp only [SSd,Nat.reduceAdd]
 refine AB (fun hb=>?_) (fun hb=>?_)
 ·have hb:k < ys.length:=by
   have:=of_decide_eq_true hb;omega
  obtain ⟨bt,off,c1,g1,gl,g2,g3⟩:=RL.ix hy (i:=k) (by omega) (by omega);rw [Aq hb] at g2;obtain ⟨v0,rfl,h0⟩:=g2.mono hI';simp only [g1,SSd,Nat.reduceAdd];refine EO (g3 _ [] hI' (fun _ h=>h)) (Ext.refl _) rfl ?_;refine AV (fun b3=>?_);obtain ⟨a0,k0,rfl⟩:=RL.form h0;refine stB rfl rfl (AO rfl) ?_;try simp only [SSd,Nat.reduceAdd]
  refine rdP _ rfl rfl ?_;refine Qr (x:=ys[k].fOn) (ExV.iff.2 ⟨_,rfl,h0⟩) (fun I2 a2 hI2 hw2=>Gh.done ?_);refine HY (X:=X') rfl (hG'.mono hI2) hw2 (by simp;omega) (fun X3 w3 hG3=>?_);simp only [wrap_i64 ((k:Int)+1) (by omega),SSd,Nat.reduceAdd];refine Gh.to (X3++F) (Gh.done ⟨q - 1,by omega,k+1,X3,w3,by omega,rfl,Ext.trans hI' hI2,?_,rfl⟩);rw [List.take_succ_eq_append_getElem hb,List.map_append,←List.append_assoc];exact hG3
 ·have hb:¬k < ys.length:=by
   have:=of_decide_eq_false hb;omega
  rw [List.take_of_length_le (by omega)] at hG';exact hk I' X' v' hI' hG'
theorem APN {X:LH}{vs w:Value}{p2 p4:Value}{ys:List TOrder}{xs:List Ex}(hy:RL TOrderV 12 I [] vs ys)(hG:GL I X w xs)(hb:xs.length+ys.length≤1000000000000)
  (hk:∀I' X' w',Ext I I'→GL I' X' w' (xs++ys.map fun y=>y.fExpr)→UA ω p2 p4 w' K I' (X'++F)):
  BD ((w,.int .i64 0,()):Value×Value×Unit) (fun s Kn=>UB ω p2 p4 vs (.int .i64 ys.length) s.1 s.2.1 Kn K) I (X++F):=by
 refine loop (fun q st I' L'=>∃k X' v',k+q=ys.length∧st=(v',.int .i64 (k:Nat),())∧Ext I I'∧GL I' X' v' (xs++(ys.take k).map fun y=>y.fExpr)∧L'=X'++F) ys.length ⟨0,X,w,by omega,rfl,Ext.refl _,by simpa using hG,rfl⟩ ?_;rintro q st I' L' ⟨k,X',v',hkq,rfl,hI',hG',rfl⟩;unfold UB;try simp only [SSd,Nat.reduceAdd]
 refine AB (fun hb=>?_) (fun hb=>?_)
 ·have hb:k < ys.length:=by
   have:=of_decide_eq_true hb;omega
  obtain ⟨bt,off,c1,g1,gl,g2,g3⟩:=RL.ix hy (i:=k) (by omega) (by omega);rw [Aq hb] at g2;obtain ⟨v0,rfl,h0⟩:=g2.mono hI';simp only [g1,SSd,Nat.reduceAdd];refine EO (g3 _ [] hI' (fun _ h=>h)) (Ext.refl _) rfl ?_;refine AV (fun b3=>?_);obtain ⟨a0,k0,rfl⟩:=RL.form h0;refine stB rfl rfl (AO rfl) ?_;try simp only [SSd,Nat.reduceAdd]
  refine rdP _ rfl rfl ?_;refine Qr (x:=ys[k].fExpr) (ExV.iff.2 ⟨_,rfl,h0⟩) (fun I2 a2 hI2 hw2=>Gh.done ?_);refine HY (X:=X') rfl (hG'.mono hI2) hw2 (by simp;omega) (fun X3 w3 hG3=>?_);simp only [wrap_i64 ((k:Int)+1) (by omega),SSd,Nat.reduceAdd];refine Gh.to (X3++F) (Gh.done ⟨q - 1,by omega,k+1,X3,w3,by omega,rfl,Ext.trans hI' hI2,?_,rfl⟩);rw [List.take_succ_eq_append_getElem hb,List.map_append,←List.append_assoc];exact hG3
 ·have hb:¬k < ys.length:=by
   have:=of_decide_eq_false hb;omega
  rw [List.take_of_length_le (by omega)] at hG';exact hk I' X' v' hI' hG'
theorem AMe {X:LH}{vs w:Value}{p2 p4:Value}{ys:List TSet}{xs:List Ex}(hy:RL TSetV 12 I [] vs ys)(hG:GL I X w xs)(hb:xs.length+ys.length≤1000000000000)
  (hk:∀I' X' w',Ext I I'→GL I' X' w' (xs++ys.map fun y=>y.fExpr)→Pi ω p2 p4 w' K I' (X'++F)):
  BD ((w,.int .i64 0,()):Value×Value×Unit) (fun s Kn=>Pj ω p2 p4 vs (.int .i64 ys.length) s.1 s.2.1 Kn K) I (X++F):=by
 refine loop (fun q st I' L'=>∃k X' v',k+q=ys.length∧st=(v',.int .i64 (k:Nat),())∧Ext I I'∧GL I' X' v' (xs++(ys.take k).map fun y=>y.fExpr)∧L'=X'++F) ys.length ⟨0,X,w,by omega,rfl,Ext.refl _,by simpa using hG,rfl⟩ ?_;rintro q st I' L' ⟨k,X',v',hkq,rfl,hI',hG',rfl⟩;unfold Pj;try simp only [SSd,Nat.reduceAdd]
 refine AB (fun hb=>?_) (fun hb=>?_)
 ·have hb:k < ys.length:=by
   have:=of_decide_eq_true hb;omega
  obtain ⟨bt,off,c1,g1,gl,g2,g3⟩:=RL.ix hy (i:=k) (by omega) (by omega);rw [Aq hb] at g2;obtain ⟨v0,rfl,h0⟩:=g2.mono hI';simp only [g1,SSd,Nat.reduceAdd];refine EO (g3 _ [] hI' (fun _ h=>h)) (Ext.refl _) rfl ?_;refine AV (fun b3=>?_);obtain ⟨a0,k0,rfl⟩:=RL.form h0;refine stB rfl rfl (AO rfl) ?_;try simp only [SSd,Nat.reduceAdd]
  refine rdP _ rfl rfl ?_;refine Qr (x:=ys[k].fExpr) (ExV.iff.2 ⟨_,rfl,h0⟩) (fun I2 a2 hI2 hw2=>Gh.done ?_);refine HY (X:=X') rfl (hG'.mono hI2) hw2 (by simp;omega) (fun X3 w3 hG3=>?_);simp only [wrap_i64 ((k:Int)+1) (by omega),SSd,Nat.reduceAdd];refine Gh.to (X3++F) (Gh.done ⟨q - 1,by omega,k+1,X3,w3,by omega,rfl,Ext.trans hI' hI2,?_,rfl⟩);rw [List.take_succ_eq_append_getElem hb,List.map_append,←List.append_assoc];exact hG3
 ·have hb:¬k < ys.length:=by
   have:=of_decide_eq_false hb;omega
  rw [List.take_of_length_le (by omega)] at hG';exact hk I' X' v' hI' hG'
theorem AMd {X:LH}{vs w:Value}{p4:Value}{ys:List TCol}{xs:List Ex}(hy:RL TColV 16 I [] vs ys)(hG:GL I X w xs)(hb:xs.length+ys.length≤1000000000000)
  (hk:∀I' X' w',Ext I I'→GL I' X' w' (xs++ys.map fun y=>y.fDefault)→Lt ω p4 w' K I' (X'++F)):
  BD ((w,.int .i64 0,()):Value×Value×Unit) (fun s Kn=>Ph ω p4 vs (.int .i64 ys.length) s.1 s.2.1 Kn K) I (X++F):=by
 refine loop (fun q st I' L'=>∃k X' v',k+q=ys.length∧st=(v',.int .i64 (k:Nat),())∧Ext I I'∧GL I' X' v' (xs++(ys.take k).map fun y=>y.fDefault)∧L'=X'++F) ys.length ⟨0,X,w,by omega,rfl,Ext.refl _,by simpa using hG,rfl⟩ ?_;rintro q st I' L' ⟨k,X',v',hkq,rfl,hI',hG',rfl⟩;unfold Ph;try simp only [SSd,Nat.reduceAdd]
 refine AB (fun hb=>?_) (fun hb=>?_)
 ·have hb:k < ys.length:=by
   have:=of_decide_eq_true hb;omega
  obtain ⟨bt,off,c1,g1,gl,g2,g3⟩:=RL.ix hy (i:=k) (by omega) (by omega);rw [Aq hb] at g2;obtain ⟨v0,rfl,h0⟩:=g2.mono hI';simp only [g1,SSd,Nat.reduceAdd];refine EO (g3 _ [] hI' (fun _ h=>h)) (Ext.refl _) rfl ?_;refine AV (fun b3=>?_);obtain ⟨a0,k0,rfl⟩:=RL.form h0;refine stB rfl rfl (AO rfl) ?_;try simp only [SSd,Nat.reduceAdd]
  refine rdP _ rfl rfl ?_;refine Qr (x:=ys[k].fDefault) (ExV.iff.2 ⟨_,rfl,h0⟩) (fun I2 a2 hI2 hw2=>Gh.done ?_);refine HY (X:=X') rfl (hG'.mono hI2) hw2 (by simp;omega) (fun X3 w3 hG3=>?_);simp only [wrap_i64 ((k:Int)+1) (by omega),SSd,Nat.reduceAdd];refine Gh.to (X3++F) (Gh.done ⟨q - 1,by omega,k+1,X3,w3,by omega,rfl,Ext.trans hI' hI2,?_,rfl⟩);rw [List.take_succ_eq_append_getElem hb,List.map_append,←List.append_assoc];exact hG3
 ·have hb:¬k < ys.length:=by
   have:=of_decide_eq_false hb;omega
  rw [List.take_of_length_le (by omega)] at hG';exact hk I' X' v' hI' hG'
theorem AMf {X:LH}{vs w:Value}{p2 p4:Value}{ys:List (List Ex)}{xs:List Ex}(hy:RL (Fv ExV 11) 1 I [] vs ys)(hyl:ys.length≤1000000000000)(hG:GL I X w xs)(hb:xs.length+ys.flatten.length≤1000000000000)
  (hk:∀I' X' w',Ext I I'→GL I' X' w' (xs++ys.flatten)→Pm ω p2 p4 w' K I' (X'++F)):
  BD ((w,.int .i64 0,()):Value×Value×Unit) (fun s Kn=>Po ω p2 p4 vs (.int .i64 ys.length) s.1 s.2.1 Kn K) I (X++F):=by
 refine loop (fun q st I' L'=>∃k X' v',k+q=ys.length∧st=(v',.int .i64 (k:Nat),())∧Ext I I'∧GL I' X' v' (xs++(ys.take k).flatten)∧L'=X'++F) ys.length ⟨0,X,w,by omega,rfl,Ext.refl _,by simpa using hG,rfl⟩ ?_;rintro q st I' L' ⟨k,X',v',hkq,rfl,hI',hG',rfl⟩;unfold Po;try simp only [SSd,Nat.reduceAdd]
 refine AB (fun hb=>?_) (fun hb=>?_)
 ·have hb:k < ys.length:=by
   have:=of_decide_eq_true hb;omega
  obtain ⟨bt,off,c1,g1,gl,g2,g3⟩:=RL.ix hy (i:=k) (by omega) (by omega);rw [Aq hb] at g2;obtain ⟨v0,rfl,h0⟩:=LstX.mono g2 hI';simp only [g1,SSd,Nat.reduceAdd];refine rdC (g3 _ [] hI' (fun _ h=>h) 0 _ rfl) (Ext.refl _) ?_;have hfl:(ys.take (k+1)).flatten=(ys.take k).flatten++ys[k]:=by rw [List.take_succ_eq_append_getElem hb,List.flatten_append];simp only [List.flatten_cons,List.flatten_nil,List.append_nil]
  have hle:(ys.take (k+1)).flatten.length≤ys.flatten.length:=by
   have h:ys.flatten=(ys.take (k+1)).flatten++(ys.drop (k+1)).flatten:=by rw [←List.flatten_append,List.take_append_drop]
   rw [h,List.length_append];omega
  rw [hfl,List.length_append] at hle;refine HY (X:=X') rfl hG' h0 (by simp only [List.length_append];omega) (fun X3 w3 hG3=>?_);simp only [wrap_i64 ((k:Int)+1) (by omega),SSd,Nat.reduceAdd];refine Gh.to (X3++F) (Gh.done ⟨q - 1,by omega,k+1,X3,w3,by omega,rfl,hI',?_,rfl⟩);rw [hfl,←List.append_assoc];exact hG3
 ·have hb:¬k < ys.length:=by
   have:=of_decide_eq_false hb;omega
  rw [List.take_of_length_le (by omega)] at hG';exact hk I' X' v' hI' hG'
def CU (x:Ex):Bool:=x.kind != 0
def AKL (s:TStmt):List Ex:=[s.fWhere,s.fSelect.fWhere,s.fSelect.fHaving]++s.fSelect.fGroup++s.fSelect.fItems.map (fun y=>y.fExpr)++s.fSelect.fFrom.map (fun y=>y.fOn)++s.fSelect.fOrder.map (fun y=>y.fExpr)++s.fRows.flatten++s.fSets.map (fun y=>y.fExpr)++s.fCols.map (fun y=>y.fDefault)
theorem YS (s:TStmt):Ah ((AKL s).filter CU)=Ah (GI s)∧Bd ((AKL s).filter CU)=Bd (GI s):=by
 have e:∀l:List Ex,l.filter (fun x=>x.kind != 0)=l.filter CU:=fun l=>rfl;have c:∀(x:Ex) (l:List Ex),x::l=[x]++l:=fun _ _=>rfl;simp only [GI,e,AKL];rw [c s.fWhere,c s.fSelect.fWhere [s.fSelect.fHaving],c s.fSelect.fWhere [_,_],c s.fSelect.fHaving [_]];simp only [List.filter_append,DT,FX];constructor
 ·omega
 ·ac_rfl
theorem AMc {X:LH}{y:Nat×Obj}{b1 b2 bd bi:Nat}{w:Value}{xs:List Ex}{p d:Int}(hG:GL I X w xs)(hp:0≤p)(hd:0≤d)(hpx:p+Ah (xs.filter CU)≤100000000000000000)(hlen:xs.length≤1000000000000)
  (hk:Gh (K (.tuple #[])) I ((b1,Dh (p+Ah (xs.filter CU)))::(b2,Dh (max d (Bd (xs.filter CU))))::F)):
  Lt ω (AY bi) w (fun v=>Gh (K v)) I (X++((bi,inO bd bi)::(bd,doO b1 b2)::y::(b1,Dh p)::(b2,Dh d)::F)):=by
 unfold Lt;have hR:RL ExV 11 I X w xs:=hG.rl (fun _ h=>h);simp only [RL.len hR,SSd,Nat.reduceAdd];refine loop (fun q s I' L'=>∃k:Nat,k+q=xs.length∧s=(.int .i64 k,())∧I'=I∧L'=X++((bi,inO bd bi)::(bd,doO b1 b2)::y::(b1,Dh (p+Ah ((xs.take k).filter CU)))::(b2,Dh (max d (Bd ((xs.take k).filter CU))))::F)) xs.length ⟨0,by omega,rfl,rfl,by
  rw [show p+((Ah ((xs.take 0).filter CU):Nat):Int)=p by simp [Ah],show max d ((Bd ((xs.take 0).filter CU):Nat):Int)=d by simp only [List.take_zero,List.filter_nil,Bd];omega]⟩ ?_
 rintro q s I' L' ⟨k,hkq,rfl,rfl,rfl⟩;unfold VO;try simp only [SSd,Nat.reduceAdd]
 refine AB (fun hb=>?_) (fun hb=>?_)
 ·have hb:k < xs.length:=by
   have:=of_decide_eq_true hb;omega
  obtain ⟨bt,off,c1,g1,gl,g2,g3⟩:=RL.ix hR (i:=k) (by omega) (by omega);rw [Aq hb] at g2;have hts:=List.take_succ_eq_append_getElem hb;have hple:Ah ((xs.take (k+1)).filter CU)≤Ah (xs.filter CU):=by
   have h:xs.filter CU=(xs.take (k+1)).filter CU++(xs.drop (k+1)).filter CU:=by rw [←List.filter_append,List.take_append_drop]
   rw [h,DT];omega
  have hstep:∀{Y:LH},SubP (X++((bi,inO bd bi)::(bd,doO b1 b2)::y::(b1,Dh (p+Ah ((xs.take (k+1)).filter CU)))::(b2,Dh (max d (Bd ((xs.take (k+1)).filter CU))))::F)) Y→Ls ω (.int .i64 k) (fun s'=>Gh fun I2 L2=>∃m',m' < q∧∃k:Nat,k+m'=xs.length∧s'=(.int .i64 k,())∧I2=I'∧L2=X++((bi,inO bd bi)::(bd,doO b1 b2)::y::(b1,Dh (p+Ah ((xs.take k).filter CU)))::(b2,Dh (max d (Bd ((xs.take k).filter CU))))::F)) (fun v=>Gh (K v)) I' Y:=by
   intro Y hY;unfold Ls;simp only [wrap_i64 ((k:Int)+1) (by omega),SSd,Nat.reduceAdd];exact Gh.to _ (Gh.done ⟨q - 1,by omega,k+1,by omega,rfl,rfl,rfl⟩)
  obtain ⟨v0,rfl,h0⟩:=ExV.iff.1 g2;simp only [g1,SSd,Nat.reduceAdd];refine rdN rfl (g3 _ _ (Ext.refl _) (fun x hx=>by simp [hx])) ?_;refine AV (fun b3=>?_);obtain ⟨a0,k0,rfl⟩:=RL.form h0;refine stB rfl rfl (AO rfl) ?_;try simp only [SSd,Nat.reduceAdd]
  refine rdb ?_;try simp only [SSd,Nat.reduceAdd]
  refine AB (fun ht=>?_) (fun ht=>?_)
  ·have ht':CU xs[k]=true:=ht;rw [hts,List.filter_append,List.filter_cons_of_pos ht',List.filter_nil,DT,FX] at hstep;rw [hts,List.filter_append,List.filter_cons_of_pos ht',List.filter_nil,DT] at hple;simp only [Ah,Bd] at hstep hple;refine rdb ?_;refine rdB rfl ?_;refine Ej ?_;refine CalV.to ((b1,Dh (p+Ah ((xs.take k).filter CU)))::(b2,Dh (max d (Bd ((xs.take k).filter CU))))::(bd,doO b1 b2)::(bi,inO bd bi)::(X++(y::F))) ?_;have hdp:=Qd xs[k];have hdpos:=Gi xs[k];refine AAr _ xs[k] (Nat.le_refl _) _ _ 1 _ _ _ _ g2 (by omega) (by omega) (by omega) (by omega) ?_;refine hstep ?_;rw [show p+((Ah ((xs.take k).filter CU)+(Aj xs[k]+0):Nat):Int)=p+Ah ((xs.take k).filter CU)+Aj xs[k] by omega,show max d ((max (Bd ((xs.take k).filter CU)) (max (DW xs[k]) 0):Nat):Int)=max (max d (Bd ((xs.take k).filter CU))) (1+DW xs[k] - 1) by omega];infer_instance
  ·have ht':¬CU xs[k]=true:=by
    intro h;rw [show (xs[k].kind != 0)=true from h] at ht;cases ht
   rw [hts,List.filter_append,List.filter_cons_of_neg ht',List.filter_nil,List.append_nil] at hstep;exact hstep inferInstance
 ·have hb:¬k < xs.length:=by
   have:=of_decide_eq_false hb;omega
  rw [List.take_of_length_le (by omega)];exact Gh.to _ hk
theorem ACX {b1 b2:Nat}{p d:Int}{s:TStmt}{c:List Value}(hs:TStmtV I s c)(hcnt:cS s≤1000000000)(hp:0≤p)(hd:0≤d)(hpx:p+Ah (GI s)≤100000000000000000)
  (hk:∀I',Ext I I'→K (.tuple #[]) I' ((b1,Dh (p+Ah (GI s)))::(b2,Dh (max d (Bd (GI s))))::F)):
  CT ω 104 #[.agg c.toArray,doV b1 b2] K I ((b1,Dh p)::(b2,Dh d)::F):=by
 obtain ⟨v0,v1,v2,v3,v4,v5,v6,v7,v8,v9,v10,v11,v12,rfl,h0,h1,h2,h3,h4,h5,h6,h7,h8,h9,h10,h11,h12⟩:=hs;obtain ⟨a0,k0,rfl⟩:=RL.form h0;obtain ⟨a1,k1,rfl⟩:=RL.form h1;obtain ⟨a2,k2,rfl⟩:=RL.form h2;obtain ⟨a3,k3,rfl⟩:=RL.form h3;obtain ⟨a4,k4,rfl⟩:=RL.form h4;obtain ⟨a5,k5,rfl⟩:=RL.form h5;obtain ⟨a7,k7,rfl⟩:=RL.form h7;obtain ⟨a8,k8,rfl⟩:=RL.form h8;obtain ⟨a9,k9,rfl⟩:=RL.form h9;obtain ⟨a10,k10,rfl⟩:=RL.form h10;simp only [cS,cQ] at hcnt;refine ART ?_;unfold AHR;refine AV (fun bs=>?_);refine AV (o:=doO b1 b2) (fun bd=>?_);refine AV (fun bi=>?_);refine st1 rfl ?_;try simp only [SSd,Nat.reduceAdd]
 refine rdP _ rfl rfl ?_;refine rdP _ rfl rfl ?_;refine rdP _ rfl rfl ?_;refine EQ (R:=ExV) [s.fWhere,s.fSelect.fWhere,s.fSelect.fHaving] [_,_,_] rfl rfl rfl (by simp) (by
  intro q hq;simp only [List.zip_cons_cons,List.zip_nil_right,List.mem_cons,List.not_mem_nil,or_false] at hq;rcases hq with rfl|rfl|rfl
  ·exact ExV.iff.2 ⟨_,rfl,h9⟩
  ·exact ExV.iff.2 ⟨_,rfl,h2⟩
  ·exact ExV.iff.2 ⟨_,rfl,h4⟩) (fun hI h=>ExV.mono hI h) (fun I1 aw hI1 hw1=>Gh.done ?_)
 obtain ⟨c1,s1,r1⟩:=RL.toI (by decide) hw1;have hG1:GL I1 [] (.slice aw 3 3) [s.fWhere,s.fSelect.fWhere,s.fSelect.fHaving]:=⟨c1,.inr ⟨rfl,⟨aw,rfl⟩,s1⟩,r1⟩;refine rdb ?_;refine HY (X:=[]) rfl hG1 (ExL.mono h3 hI1) zL (fun X2 w2 hG2=>?_);refine rdb ?_;simp only [RL.len h0,SSd,Nat.reduceAdd];refine APP (X:=X2) (RL.mono (fun _ _ h=>TItemV.mono h hI1) h0 hI1 (fun _ h=>h)) hG2 zL (fun I3 X3 w3 hI3 hG3=>?_);unfold UE;try simp only [SSd,Nat.reduceAdd]
 refine rdb ?_;try simp only [SSd,Nat.reduceAdd]
 have hI13:=Ext.trans hI1 hI3;refine APO (X:=X3) (RL.mono (fun _ _ h=>TSourceV.mono h hI13) h1 hI13 (fun _ h=>h)) hG3 (by simp only [List.length_append,List.length_cons,List.length_nil,List.length_map];omega) (fun I4 X4 w4 hI4 hG4=>?_);unfold UC;try simp only [SSd,Nat.reduceAdd]
 refine rdb ?_;try simp only [SSd,Nat.reduceAdd]
 have hI14:=Ext.trans hI13 hI4;refine APN (X:=X4) (RL.mono (fun _ _ h=>TOrderV.mono h hI14) h5 hI14 (fun _ h=>h)) hG4 (by simp only [List.length_append,List.length_cons,List.length_nil,List.length_map];omega) (fun I5 X5 w5 hI5 hG5=>?_);unfold UA;try simp only [SSd,Nat.reduceAdd]
 refine rdb ?_;try simp only [SSd,Nat.reduceAdd]
 have hI15:=Ext.trans hI14 hI5;refine AMf (X:=X5) (RL.mono (fun _ _ h=>LstX.mono h hI15) h7 hI15 (fun _ h=>h)) (by omega) hG5 (by simp only [List.length_append,List.length_cons,List.length_nil,List.length_map];omega) (fun I6 X6 w6 hI6 hG6=>?_);unfold Pm;try simp only [SSd,Nat.reduceAdd]
 refine rdb ?_;try simp only [SSd,Nat.reduceAdd]
 have hI16:=Ext.trans hI15 hI6;refine AMe (X:=X6) (RL.mono (fun _ _ h=>TSetV.mono h hI16) h8 hI16 (fun _ h=>h)) hG6 (by simp only [List.length_append,List.length_cons,List.length_nil,List.length_map];omega) (fun I7 X7 w7 hI7 hG7=>?_);unfold Pi;try simp only [SSd,Nat.reduceAdd]
 refine rdb ?_;try simp only [SSd,Nat.reduceAdd]
 have hI17:=Ext.trans hI16 hI7;refine AMd (X:=X7) (RL.mono (fun _ _ h=>TColV.mono h hI17) h10 hI17 (fun _ h=>h)) hG7 (by simp only [List.length_append,List.length_cons,List.length_nil,List.length_map];omega) (fun I8 X8 w8 hI8 hG8=>?_);have hI18:=Ext.trans hI17 hI8;have hA:([s.fWhere,s.fSelect.fWhere,s.fSelect.fHaving]++s.fSelect.fGroup++s.fSelect.fItems.map (fun y=>y.fExpr)++s.fSelect.fFrom.map (fun y=>y.fOn)++s.fSelect.fOrder.map (fun y=>y.fExpr)++s.fRows.flatten++s.fSets.map (fun y=>y.fExpr)++s.fCols.map (fun y=>y.fDefault))=AKL s:=rfl;rw [hA] at hG8;have hlen:(AKL s).length≤1000000000000:=by simp only [←hA,List.length_append,List.length_cons,List.length_nil,List.length_map];omega
 obtain ⟨q1,q2⟩:=YS s;refine AMc hG8 hp hd (by rw [q1];exact hpx) hlen ?_;rw [q1,q2];exact Gh.done (hk I8 hI18)
end
theorem Qn:∀(l:List Bs) (y:Bs),Aw (l++[y])=Aw l++((if l.isEmpty then [] else [44,32])++y)
 |[],y=>rfl
 |[x],y=>by simp [Aw]
 |x::z::l,y=>by
  have ih:=Qn (z::l) y;simp only [List.cons_append,Aw] at ih ⊢;rw [ih];simp
theorem WI:∀(a c:List Bs),(Aw a).length≤(Aw (a++c)).length
 |[],c=>Nat.zero_le _
 |[x],[]=>Nat.le_refl _
 |[x],z::c=>by simp [Aw]
 |x::z::a,c=>by
  have ih:=WI (z::a) c;simp only [List.cons_append,Aw,List.length_append] at ih ⊢;omega
theorem Ea {α:Type}{g:α→Bs}{xs:List α}{k:Nat}(h:k < xs.length):Aw ((xs.take (k+1)).map g)=Aw ((xs.take k).map g)++((if k=0 then [] else [44,32])++g xs[k]):=by
 rw [List.take_succ_eq_append_getElem h,List.map_append];rw [show List.map g [xs[k]]=[g xs[k]] from rfl,Qn];congr 2
 cases k with
 |zero=>simp
 |succ k=>
  have:((xs.take (k+1)).map g).isEmpty=false:=by
   cases xs with
   |nil=>simp at h
   |cons x xs=>rfl
  rw [if_neg (by rw [this];decide),if_neg (by omega)]
theorem FY {α:Type}(g:α→Bs)(xs:List α)(k:Nat):(Aw ((xs.take k).map g)).length≤(Aw (xs.map g)).length:=by
 have:=WI ((xs.take k).map g) ((xs.drop k).map g);rwa [←List.map_append,List.take_append_drop] at this
def FnW {α:Type}(ω:Om)(b:Nat)(w:Value)(F:LH)(fv:Value)(R:Imm→α→Value→Prop)(g:α→Bs)(xs:List α)(I0:Imm):Prop:=
 ∀x∈xs,∀(I:Imm) (X:LH) (l:Bs) (v:Value) (K:Value→M),Ext I0 I→StL I w wordsL→WrS b w X l→R I x v→(l++g x).length≤1000000000→(∀I' X',Ext I I'→WrS b w X' (l++g x)→K (.tuple #[]) I' (X'++F))→CW ω fv #[v] K I (X++F)
def Hu {α:Type}(R:Imm→α→List Value→Prop)(I:Imm)(x:α)(v:Value):Prop:=∃c,v= .agg c.toArray∧R I x c
def AKO {α:Type}(R:Imm→α→List Value→Prop)(I:Imm)(x:α)(v:Value):Prop:=R I x [v]
theorem Xc {I:Imm}{L:LH}{K:Value→M}{b n T:Nat}{l:List Value}(h:(b,Obj.cells l.toArray T (0,0))∈L)(hl:l.length=n)(hk:K (.agg l.toArray) I L):Rv none (AU n (.pointer (some ⟨b,0,none⟩))) K I L:=
 rdN hl (fun j u hu=>Cell.own h (by simpa using hu)) hk
section
variable {ω:Om}{I:Imm}{L F:LH}{K:Value→M}{b:Nat}{w:Value}{X:LH}{l:Bs}
theorem ACh {fv v:Value}{xs:List (Ex)}{g:Ex→Bs}(hxs:RL ExV 11 I [] v xs)(hw:StL I w wordsL)(hf:FnW ω b w F fv (Hu ExV) g xs I)(hxl:xs.length≤1000000000000)[hs:SplitL X L F](hW:WrS b w X l)(hn:(l++Aw (xs.map g)).length≤1000000000)
  (hk:∀I' X',Ext I I'→WrS b w X' (l++Aw (xs.map g))→K (.tuple #[]) I' (X'++F)):CT ω 206 #[AY b,v,fv] K I L:=by
 refine Cal.split X ?_;refine APx ?_;unfold AEq;simp only [RL.len hxs,SSd,Nat.reduceAdd];refine loop (fun q st I' L'=>∃(k:Nat) (X':LH),k+q=xs.length∧st=(.int .i64 k,())∧Ext I I'∧L'=X'++F∧WrS b w X' (l++Aw ((xs.take k).map g))) xs.length ⟨0,X,by omega,rfl,Ext.refl _,rfl,by simpa [Aw] using hW⟩ ?_;rintro q st I' L' ⟨k,X',hkq,rfl,hI',rfl,hW'⟩;unfold Yv;try simp only [SSd,Nat.reduceAdd]
 refine AB (fun hb=>?_) (fun hb=>?_)
 ·have hb:k < xs.length:=by
   have:=of_decide_eq_true hb;omega
  obtain ⟨bt,off,c1,g1,gl,g2,g3⟩:=RL.ix hxs (i:=k) (by omega) (by omega);rw [Aq hb] at g2;have g2o:=g2;have g2:=ExV.mono hI' g2;have hct:=Ea (g:=g) hb;have hcl:=FY g xs (k+1);rw [hct] at hcl;simp only [List.length_append] at hcl hn;simp only [g1,SSd,Nat.reduceAdd];have hone:=ExV.one g2;refine EO (g3 _ [] hI' (fun _ h=>h)) (Ext.refl _) gl ?_;refine AV (fun b3=>?_);refine stB gl rfl hone ?_;try simp only [SSd,Nat.reduceAdd]
  have fin:∀(I2:Imm) (X2:LH) (l2:Bs) (Y:LH),Ext I I2→WrS b w X2 l2→l2++g xs[k]=l++Aw ((xs.take (k+1)).map g)→SubP (X2++((b3,.cells c1.toArray 37 (0,0))::F)) Y→OH ω fv (AY b3) (.int .i64 k) (fun s'=>Gh fun I2 L2=>∃m',m' < q∧∃(k:Nat) (X':LH),k+m'=xs.length∧s'=(.int .i64 k,())∧Ext I I2∧L2=X'++F∧WrS b w X' (l++Aw ((xs.take k).map g))) (fun v=>Gh (K v)) I2 Y:=by
   intro I2 X2 l2 Y hI2 hW2 hl2 hY;unfold OH;refine Xc (l:=c1) (T:=37) (by obtain ⟨R,hR⟩:=hY.sub;exact hR.mem_iff.2 (by simp)) gl ?_;refine Ej ?_;refine CalV.to (X2++F) (hs:=?_) ?_
   ·obtain ⟨R,hR⟩:=hY.sub;exact ⟨(b3,.cells c1.toArray 37 (0,0))::R,hR.trans (by rw [List.append_assoc,List.append_assoc];exact List.Perm.append_left X2 (by rw [List.cons_append];exact List.perm_middle.symm))⟩
   refine hf _ (List.getElem_mem hb) I2 X2 l2 _ _ hI2 (StL.mono hw hI2) hW2 ⟨c1,rfl,ExV.mono hI2 g2o⟩ (by rw [hl2,hct];simp only [List.length_append];omega) (fun I3 X3 hI3 hW3=>?_);simp only [wrap_i64 ((k:Int)+1) (by omega),SSd,Nat.reduceAdd];rw [hl2] at hW3;exact Gh.done ⟨q - 1,by omega,k+1,X3,by omega,rfl,Ext.trans hI2 hI3,rfl,hW3⟩
  refine AB (fun h0=>?_) (fun h0=>?_)
  ·have h0:k≠0:=by have:=of_decide_eq_true h0;omega
   rw [if_neg h0] at hct hcl;refine BP (X:=X') hW' (by simp only [List.length_append,List.length_cons,List.length_nil] at hcl ⊢;omega) (fun I2 X2 hI2 hW2=>?_);exact fin I2 X2 _ _ (Ext.trans hI' hI2) hW2 (by rw [hct];simp) inferInstance
  ·have h0:k=0:=by have:=of_decide_eq_false h0;omega
   rw [if_pos h0] at hct;exact fin I' X' _ _ hI' hW' (by rw [hct];simp) inferInstance
 ·have hb:¬k < xs.length:=by
   have:=of_decide_eq_false hb;omega
  rw [List.take_of_length_le (by omega)] at hW';exact Gh.done (hk I' X' hI' hW')
theorem YM {fv v:Value}{xs:List (TSet)}{g:TSet→Bs}(hxs:RL TSetV 12 I [] v xs)(hw:StL I w wordsL)(hf:FnW ω b w F fv (Hu TSetV) g xs I)(hxl:xs.length≤1000000000000)[hs:SplitL X L F](hW:WrS b w X l)(hn:(l++Aw (xs.map g)).length≤1000000000)
  (hk:∀I' X',Ext I I'→WrS b w X' (l++Aw (xs.map g))→K (.tuple #[]) I' (X'++F)):CT ω 118 #[AY b,v,fv] K I L:=by
 refine Cal.split X ?_;refine ARK ?_;unfold AHE;simp only [RL.len hxs,SSd,Nat.reduceAdd];refine loop (fun q st I' L'=>∃(k:Nat) (X':LH),k+q=xs.length∧st=(.int .i64 k,())∧Ext I I'∧L'=X'++F∧WrS b w X' (l++Aw ((xs.take k).map g))) xs.length ⟨0,X,by omega,rfl,Ext.refl _,rfl,by simpa [Aw] using hW⟩ ?_;rintro q st I' L' ⟨k,X',hkq,rfl,hI',rfl,hW'⟩;unfold AAM;try simp only [SSd,Nat.reduceAdd]
 refine AB (fun hb=>?_) (fun hb=>?_)
 ·have hb:k < xs.length:=by
   have:=of_decide_eq_true hb;omega
  obtain ⟨bt,off,c1,g1,gl,g2,g3⟩:=RL.ix hxs (i:=k) (by omega) (by omega);rw [Aq hb] at g2;have g2o:=g2;have g2:=g2.mono hI';have hct:=Ea (g:=g) hb;have hcl:=FY g xs (k+1);rw [hct] at hcl;simp only [List.length_append] at hcl hn;simp only [g1,SSd,Nat.reduceAdd];have hone:=TSetV.one g2;refine EO (g3 _ [] hI' (fun _ h=>h)) (Ext.refl _) gl ?_;refine AV (fun b3=>?_);refine stB gl rfl hone ?_;try simp only [SSd,Nat.reduceAdd]
  have fin:∀(I2:Imm) (X2:LH) (l2:Bs) (Y:LH),Ext I I2→WrS b w X2 l2→l2++g xs[k]=l++Aw ((xs.take (k+1)).map g)→SubP (X2++((b3,.cells c1.toArray 99 (0,0))::F)) Y→Oh ω fv (AY b3) (.int .i64 k) (fun s'=>Gh fun I2 L2=>∃m',m' < q∧∃(k:Nat) (X':LH),k+m'=xs.length∧s'=(.int .i64 k,())∧Ext I I2∧L2=X'++F∧WrS b w X' (l++Aw ((xs.take k).map g))) (fun v=>Gh (K v)) I2 Y:=by
   intro I2 X2 l2 Y hI2 hW2 hl2 hY;unfold Oh;refine Xc (l:=c1) (T:=99) (by obtain ⟨R,hR⟩:=hY.sub;exact hR.mem_iff.2 (by simp)) gl ?_;refine Ej ?_;refine CalV.to (X2++F) (hs:=?_) ?_
   ·obtain ⟨R,hR⟩:=hY.sub;exact ⟨(b3,.cells c1.toArray 99 (0,0))::R,hR.trans (by rw [List.append_assoc,List.append_assoc];exact List.Perm.append_left X2 (by rw [List.cons_append];exact List.perm_middle.symm))⟩
   refine hf _ (List.getElem_mem hb) I2 X2 l2 _ _ hI2 (StL.mono hw hI2) hW2 ⟨c1,rfl,g2o.mono hI2⟩ (by rw [hl2,hct];simp only [List.length_append];omega) (fun I3 X3 hI3 hW3=>?_);simp only [wrap_i64 ((k:Int)+1) (by omega),SSd,Nat.reduceAdd];rw [hl2] at hW3;exact Gh.done ⟨q - 1,by omega,k+1,X3,by omega,rfl,Ext.trans hI2 hI3,rfl,hW3⟩
  refine AB (fun h0=>?_) (fun h0=>?_)
  ·have h0:k≠0:=by have:=of_decide_eq_true h0;omega
   rw [if_neg h0] at hct hcl;refine BP (X:=X') hW' (by simp only [List.length_append,List.length_cons,List.length_nil] at hcl ⊢;omega) (fun I2 X2 hI2 hW2=>?_);exact fin I2 X2 _ _ (Ext.trans hI' hI2) hW2 (by rw [hct];simp) inferInstance
  ·have h0:k=0:=by have:=of_decide_eq_false h0;omega
   rw [if_pos h0] at hct;exact fin I' X' _ _ hI' hW' (by rw [hct];simp) inferInstance
 ·have hb:¬k < xs.length:=by
   have:=of_decide_eq_false hb;omega
  rw [List.take_of_length_le (by omega)] at hW';exact Gh.done (hk I' X' hI' hW')
theorem WH {fv v:Value}{xs:List (TItem)}{g:TItem→Bs}(hxs:RL TItemV 14 I [] v xs)(hw:StL I w wordsL)(hf:FnW ω b w F fv (Hu TItemV) g xs I)(hxl:xs.length≤1000000000000)[hs:SplitL X L F](hW:WrS b w X l)(hn:(l++Aw (xs.map g)).length≤1000000000)
  (hk:∀I' X',Ext I I'→WrS b w X' (l++Aw (xs.map g))→K (.tuple #[]) I' (X'++F)):CT ω 164 #[AY b,v,fv] K I L:=by
 refine Cal.split X ?_;refine AQd ?_;unfold AFz;simp only [RL.len hxs,SSd,Nat.reduceAdd];refine loop (fun q st I' L'=>∃(k:Nat) (X':LH),k+q=xs.length∧st=(.int .i64 k,())∧Ext I I'∧L'=X'++F∧WrS b w X' (l++Aw ((xs.take k).map g))) xs.length ⟨0,X,by omega,rfl,Ext.refl _,rfl,by simpa [Aw] using hW⟩ ?_;rintro q st I' L' ⟨k,X',hkq,rfl,hI',rfl,hW'⟩;unfold ZT;try simp only [SSd,Nat.reduceAdd]
 refine AB (fun hb=>?_) (fun hb=>?_)
 ·have hb:k < xs.length:=by
   have:=of_decide_eq_true hb;omega
  obtain ⟨bt,off,c1,g1,gl,g2,g3⟩:=RL.ix hxs (i:=k) (by omega) (by omega);rw [Aq hb] at g2;have g2o:=g2;have g2:=g2.mono hI';have hct:=Ea (g:=g) hb;have hcl:=FY g xs (k+1);rw [hct] at hcl;simp only [List.length_append] at hcl hn;simp only [g1,SSd,Nat.reduceAdd];have hone:=TItemV.one g2;refine EO (g3 _ [] hI' (fun _ h=>h)) (Ext.refl _) gl ?_;refine AV (fun b3=>?_);refine stB gl rfl hone ?_;try simp only [SSd,Nat.reduceAdd]
  have fin:∀(I2:Imm) (X2:LH) (l2:Bs) (Y:LH),Ext I I2→WrS b w X2 l2→l2++g xs[k]=l++Aw ((xs.take (k+1)).map g)→SubP (X2++((b3,.cells c1.toArray 119 (0,0))::F)) Y→OU ω fv (AY b3) (.int .i64 k) (fun s'=>Gh fun I2 L2=>∃m',m' < q∧∃(k:Nat) (X':LH),k+m'=xs.length∧s'=(.int .i64 k,())∧Ext I I2∧L2=X'++F∧WrS b w X' (l++Aw ((xs.take k).map g))) (fun v=>Gh (K v)) I2 Y:=by
   intro I2 X2 l2 Y hI2 hW2 hl2 hY;unfold OU;refine Xc (l:=c1) (T:=119) (by obtain ⟨R,hR⟩:=hY.sub;exact hR.mem_iff.2 (by simp)) gl ?_;refine Ej ?_;refine CalV.to (X2++F) (hs:=?_) ?_
   ·obtain ⟨R,hR⟩:=hY.sub;exact ⟨(b3,.cells c1.toArray 119 (0,0))::R,hR.trans (by rw [List.append_assoc,List.append_assoc];exact List.Perm.append_left X2 (by rw [List.cons_append];exact List.perm_middle.symm))⟩
   refine hf _ (List.getElem_mem hb) I2 X2 l2 _ _ hI2 (StL.mono hw hI2) hW2 ⟨c1,rfl,g2o.mono hI2⟩ (by rw [hl2,hct];simp only [List.length_append];omega) (fun I3 X3 hI3 hW3=>?_);simp only [wrap_i64 ((k:Int)+1) (by omega),SSd,Nat.reduceAdd];rw [hl2] at hW3;exact Gh.done ⟨q - 1,by omega,k+1,X3,by omega,rfl,Ext.trans hI2 hI3,rfl,hW3⟩
  refine AB (fun h0=>?_) (fun h0=>?_)
  ·have h0:k≠0:=by have:=of_decide_eq_true h0;omega
   rw [if_neg h0] at hct hcl;refine BP (X:=X') hW' (by simp only [List.length_append,List.length_cons,List.length_nil] at hcl ⊢;omega) (fun I2 X2 hI2 hW2=>?_);exact fin I2 X2 _ _ (Ext.trans hI' hI2) hW2 (by rw [hct];simp) inferInstance
  ·have h0:k=0:=by have:=of_decide_eq_false h0;omega
   rw [if_pos h0] at hct;exact fin I' X' _ _ hI' hW' (by rw [hct];simp) inferInstance
 ·have hb:¬k < xs.length:=by
   have:=of_decide_eq_false hb;omega
  rw [List.take_of_length_le (by omega)] at hW';exact Gh.done (hk I' X' hI' hW')
theorem Uf {fv v:Value}{xs:List (TOrder)}{g:TOrder→Bs}(hxs:RL TOrderV 12 I [] v xs)(hw:StL I w wordsL)(hf:FnW ω b w F fv (Hu TOrderV) g xs I)(hxl:xs.length≤1000000000000)[hs:SplitL X L F](hW:WrS b w X l)(hn:(l++Aw (xs.map g)).length≤1000000000)
  (hk:∀I' X',Ext I I'→WrS b w X' (l++Aw (xs.map g))→K (.tuple #[]) I' (X'++F)):CT ω 169 #[AY b,v,fv] K I L:=by
 refine Cal.split X ?_;refine AQY ?_;unfold AFq;simp only [RL.len hxs,SSd,Nat.reduceAdd];refine loop (fun q st I' L'=>∃(k:Nat) (X':LH),k+q=xs.length∧st=(.int .i64 k,())∧Ext I I'∧L'=X'++F∧WrS b w X' (l++Aw ((xs.take k).map g))) xs.length ⟨0,X,by omega,rfl,Ext.refl _,rfl,by simpa [Aw] using hW⟩ ?_;rintro q st I' L' ⟨k,X',hkq,rfl,hI',rfl,hW'⟩;unfold ZP;try simp only [SSd,Nat.reduceAdd]
 refine AB (fun hb=>?_) (fun hb=>?_)
 ·have hb:k < xs.length:=by
   have:=of_decide_eq_true hb;omega
  obtain ⟨bt,off,c1,g1,gl,g2,g3⟩:=RL.ix hxs (i:=k) (by omega) (by omega);rw [Aq hb] at g2;have g2o:=g2;have g2:=g2.mono hI';have hct:=Ea (g:=g) hb;have hcl:=FY g xs (k+1);rw [hct] at hcl;simp only [List.length_append] at hcl hn;simp only [g1,SSd,Nat.reduceAdd];have hone:=TOrderV.one g2;refine EO (g3 _ [] hI' (fun _ h=>h)) (Ext.refl _) gl ?_;refine AV (fun b3=>?_);refine stB gl rfl hone ?_;try simp only [SSd,Nat.reduceAdd]
  have fin:∀(I2:Imm) (X2:LH) (l2:Bs) (Y:LH),Ext I I2→WrS b w X2 l2→l2++g xs[k]=l++Aw ((xs.take (k+1)).map g)→SubP (X2++((b3,.cells c1.toArray 127 (0,0))::F)) Y→OQ ω fv (AY b3) (.int .i64 k) (fun s'=>Gh fun I2 L2=>∃m',m' < q∧∃(k:Nat) (X':LH),k+m'=xs.length∧s'=(.int .i64 k,())∧Ext I I2∧L2=X'++F∧WrS b w X' (l++Aw ((xs.take k).map g))) (fun v=>Gh (K v)) I2 Y:=by
   intro I2 X2 l2 Y hI2 hW2 hl2 hY;unfold OQ;refine Xc (l:=c1) (T:=127) (by obtain ⟨R,hR⟩:=hY.sub;exact hR.mem_iff.2 (by simp)) gl ?_;refine Ej ?_;refine CalV.to (X2++F) (hs:=?_) ?_
   ·obtain ⟨R,hR⟩:=hY.sub;exact ⟨(b3,.cells c1.toArray 127 (0,0))::R,hR.trans (by rw [List.append_assoc,List.append_assoc];exact List.Perm.append_left X2 (by rw [List.cons_append];exact List.perm_middle.symm))⟩
   refine hf _ (List.getElem_mem hb) I2 X2 l2 _ _ hI2 (StL.mono hw hI2) hW2 ⟨c1,rfl,g2o.mono hI2⟩ (by rw [hl2,hct];simp only [List.length_append];omega) (fun I3 X3 hI3 hW3=>?_);simp only [wrap_i64 ((k:Int)+1) (by omega),SSd,Nat.reduceAdd];rw [hl2] at hW3;exact Gh.done ⟨q - 1,by omega,k+1,X3,by omega,rfl,Ext.trans hI2 hI3,rfl,hW3⟩
  refine AB (fun h0=>?_) (fun h0=>?_)
  ·have h0:k≠0:=by have:=of_decide_eq_true h0;omega
   rw [if_neg h0] at hct hcl;refine BP (X:=X') hW' (by simp only [List.length_append,List.length_cons,List.length_nil] at hcl ⊢;omega) (fun I2 X2 hI2 hW2=>?_);exact fin I2 X2 _ _ (Ext.trans hI' hI2) hW2 (by rw [hct];simp) inferInstance
  ·have h0:k=0:=by have:=of_decide_eq_false h0;omega
   rw [if_pos h0] at hct;exact fin I' X' _ _ hI' hW' (by rw [hct];simp) inferInstance
 ·have hb:¬k < xs.length:=by
   have:=of_decide_eq_false hb;omega
  rw [List.take_of_length_le (by omega)] at hW';exact Gh.done (hk I' X' hI' hW')
theorem YO {fv v:Value}{xs:List (TCol)}{g:TCol→Bs}(hxs:RL TColV 16 I [] v xs)(hw:StL I w wordsL)(hf:FnW ω b w F fv (Hu TColV) g xs I)(hxl:xs.length≤1000000000000)[hs:SplitL X L F](hW:WrS b w X l)(hn:(l++Aw (xs.map g)).length≤1000000000)
  (hk:∀I' X',Ext I I'→WrS b w X' (l++Aw (xs.map g))→K (.tuple #[]) I' (X'++F)):CT ω 180 #[AY b,v,fv] K I L:=by
 refine Cal.split X ?_;refine AQP ?_;unfold AFY;simp only [RL.len hxs,SSd,Nat.reduceAdd];refine loop (fun q st I' L'=>∃(k:Nat) (X':LH),k+q=xs.length∧st=(.int .i64 k,())∧Ext I I'∧L'=X'++F∧WrS b w X' (l++Aw ((xs.take k).map g))) xs.length ⟨0,X,by omega,rfl,Ext.refl _,rfl,by simpa [Aw] using hW⟩ ?_;rintro q st I' L' ⟨k,X',hkq,rfl,hI',rfl,hW'⟩;unfold ZI;try simp only [SSd,Nat.reduceAdd]
 refine AB (fun hb=>?_) (fun hb=>?_)
 ·have hb:k < xs.length:=by
   have:=of_decide_eq_true hb;omega
  obtain ⟨bt,off,c1,g1,gl,g2,g3⟩:=RL.ix hxs (i:=k) (by omega) (by omega);rw [Aq hb] at g2;have g2o:=g2;have g2:=g2.mono hI';have hct:=Ea (g:=g) hb;have hcl:=FY g xs (k+1);rw [hct] at hcl;simp only [List.length_append] at hcl hn;simp only [g1,SSd,Nat.reduceAdd];have hone:=TColV.one g2;refine EO (g3 _ [] hI' (fun _ h=>h)) (Ext.refl _) gl ?_;refine AV (fun b3=>?_);refine stB gl rfl hone ?_;try simp only [SSd,Nat.reduceAdd]
  have fin:∀(I2:Imm) (X2:LH) (l2:Bs) (Y:LH),Ext I I2→WrS b w X2 l2→l2++g xs[k]=l++Aw ((xs.take (k+1)).map g)→SubP (X2++((b3,.cells c1.toArray 101 (0,0))::F)) Y→OL ω fv (AY b3) (.int .i64 k) (fun s'=>Gh fun I2 L2=>∃m',m' < q∧∃(k:Nat) (X':LH),k+m'=xs.length∧s'=(.int .i64 k,())∧Ext I I2∧L2=X'++F∧WrS b w X' (l++Aw ((xs.take k).map g))) (fun v=>Gh (K v)) I2 Y:=by
   intro I2 X2 l2 Y hI2 hW2 hl2 hY;unfold OL;refine Xc (l:=c1) (T:=101) (by obtain ⟨R,hR⟩:=hY.sub;exact hR.mem_iff.2 (by simp)) gl ?_;refine Ej ?_;refine CalV.to (X2++F) (hs:=?_) ?_
   ·obtain ⟨R,hR⟩:=hY.sub;exact ⟨(b3,.cells c1.toArray 101 (0,0))::R,hR.trans (by rw [List.append_assoc,List.append_assoc];exact List.Perm.append_left X2 (by rw [List.cons_append];exact List.perm_middle.symm))⟩
   refine hf _ (List.getElem_mem hb) I2 X2 l2 _ _ hI2 (StL.mono hw hI2) hW2 ⟨c1,rfl,g2o.mono hI2⟩ (by rw [hl2,hct];simp only [List.length_append];omega) (fun I3 X3 hI3 hW3=>?_);simp only [wrap_i64 ((k:Int)+1) (by omega),SSd,Nat.reduceAdd];rw [hl2] at hW3;exact Gh.done ⟨q - 1,by omega,k+1,X3,by omega,rfl,Ext.trans hI2 hI3,rfl,hW3⟩
  refine AB (fun h0=>?_) (fun h0=>?_)
  ·have h0:k≠0:=by have:=of_decide_eq_true h0;omega
   rw [if_neg h0] at hct hcl;refine BP (X:=X') hW' (by simp only [List.length_append,List.length_cons,List.length_nil] at hcl ⊢;omega) (fun I2 X2 hI2 hW2=>?_);exact fin I2 X2 _ _ (Ext.trans hI' hI2) hW2 (by rw [hct];simp) inferInstance
  ·have h0:k=0:=by have:=of_decide_eq_false h0;omega
   rw [if_pos h0] at hct;exact fin I' X' _ _ hI' hW' (by rw [hct];simp) inferInstance
 ·have hb:¬k < xs.length:=by
   have:=of_decide_eq_false hb;omega
  rw [List.take_of_length_le (by omega)] at hW';exact Gh.done (hk I' X' hI' hW')
theorem YL {fv v:Value}{xs:List (Bs)}{g:Bs→Bs}(hxs:RL StrV 1 I [] v xs)(hw:StL I w wordsL)(hf:FnW ω b w F fv (AKO StrV) g xs I)(hxl:xs.length≤1000000000000)[hs:SplitL X L F](hW:WrS b w X l)(hn:(l++Aw (xs.map g)).length≤1000000000)
  (hk:∀I' X',Ext I I'→WrS b w X' (l++Aw (xs.map g))→K (.tuple #[]) I' (X'++F)):CT ω 174 #[AY b,v,fv] K I L:=by
 refine Cal.split X ?_;refine AQV ?_;unfold AFk;simp only [RL.len hxs,SSd,Nat.reduceAdd];refine loop (fun q st I' L'=>∃(k:Nat) (X':LH),k+q=xs.length∧st=(.int .i64 k,())∧Ext I I'∧L'=X'++F∧WrS b w X' (l++Aw ((xs.take k).map g))) xs.length ⟨0,X,by omega,rfl,Ext.refl _,rfl,by simpa [Aw] using hW⟩ ?_;rintro q st I' L' ⟨k,X',hkq,rfl,hI',rfl,hW'⟩;unfold ZM;try simp only [SSd,Nat.reduceAdd]
 refine AB (fun hb=>?_) (fun hb=>?_)
 ·have hb:k < xs.length:=by
   have:=of_decide_eq_true hb;omega
  obtain ⟨bt,off,c1,g1,gl,g2,g3⟩:=RL.ix hxs (i:=k) (by omega) (by omega);rw [Aq hb] at g2;have g2o:=g2;have g2:=g2;have hct:=Ea (g:=g) hb;have hcl:=FY g xs (k+1);rw [hct] at hcl;simp only [List.length_append] at hcl hn;simp only [g1,SSd,Nat.reduceAdd];obtain ⟨u,rfl⟩:∃u,c1=[u]:=by match c1,gl with|[u],_=>exact ⟨u,rfl⟩
  refine rdC (g3 _ [] hI' (fun _ h=>h) 0 _ rfl) (Ext.refl _) ?_;try simp only [SSd,Nat.reduceAdd]
  have fin:∀(I2:Imm) (X2:LH) (l2:Bs) (Y:LH),Ext I I2→WrS b w X2 l2→l2++g xs[k]=l++Aw ((xs.take (k+1)).map g)→SubP (X2++F) Y→OO ω fv u (.int .i64 k) (fun s'=>Gh fun I2 L2=>∃m',m' < q∧∃(k:Nat) (X':LH),k+m'=xs.length∧s'=(.int .i64 k,())∧Ext I I2∧L2=X'++F∧WrS b w X' (l++Aw ((xs.take k).map g))) (fun v=>Gh (K v)) I2 Y:=by
   intro I2 X2 l2 Y hI2 hW2 hl2 hY;unfold OO;refine Ej ?_;refine CalV.to (X2++F) (hs:=?_) ?_
   ·obtain ⟨R,hR⟩:=hY.sub;exact ⟨R,hR⟩
   refine hf _ (List.getElem_mem hb) I2 X2 l2 _ _ hI2 (StL.mono hw hI2) hW2 (show StrV _ _ _ from g2o) (by rw [hl2,hct];simp only [List.length_append];omega) (fun I3 X3 hI3 hW3=>?_);simp only [wrap_i64 ((k:Int)+1) (by omega),SSd,Nat.reduceAdd];rw [hl2] at hW3;exact Gh.done ⟨q - 1,by omega,k+1,X3,by omega,rfl,Ext.trans hI2 hI3,rfl,hW3⟩
  refine AB (fun h0=>?_) (fun h0=>?_)
  ·have h0:k≠0:=by have:=of_decide_eq_true h0;omega
   rw [if_neg h0] at hct hcl;refine BP (X:=X') hW' (by simp only [List.length_append,List.length_cons,List.length_nil] at hcl ⊢;omega) (fun I2 X2 hI2 hW2=>?_);exact fin I2 X2 _ _ (Ext.trans hI' hI2) hW2 (by rw [hct];simp) inferInstance
  ·have h0:k=0:=by have:=of_decide_eq_false h0;omega
   rw [if_pos h0] at hct;exact fin I' X' _ _ hI' hW' (by rw [hct];simp) inferInstance
 ·have hb:¬k < xs.length:=by
   have:=of_decide_eq_false hb;omega
  rw [List.take_of_length_le (by omega)] at hW';exact Gh.done (hk I' X' hI' hW')
theorem YN {fv v:Value}{xs:List (List Ex)}{g:List Ex→Bs}(hxs:RL (Fv ExV 11) 1 I [] v xs)(hw:StL I w wordsL)(hf:FnW ω b w F fv (AKO (Fv ExV 11)) g xs I)(hxl:xs.length≤1000000000000)[hs:SplitL X L F](hW:WrS b w X l)(hn:(l++Aw (xs.map g)).length≤1000000000)
  (hk:∀I' X',Ext I I'→WrS b w X' (l++Aw (xs.map g))→K (.tuple #[]) I' (X'++F)):CT ω 116 #[AY b,v,fv] K I L:=by
 refine Cal.split X ?_;refine ARN ?_;unfold AHI;simp only [RL.len hxs,SSd,Nat.reduceAdd];refine loop (fun q st I' L'=>∃(k:Nat) (X':LH),k+q=xs.length∧st=(.int .i64 k,())∧Ext I I'∧L'=X'++F∧WrS b w X' (l++Aw ((xs.take k).map g))) xs.length ⟨0,X,by omega,rfl,Ext.refl _,rfl,by simpa [Aw] using hW⟩ ?_;rintro q st I' L' ⟨k,X',hkq,rfl,hI',rfl,hW'⟩;unfold AAN;try simp only [SSd,Nat.reduceAdd]
 refine AB (fun hb=>?_) (fun hb=>?_)
 ·have hb:k < xs.length:=by
   have:=of_decide_eq_true hb;omega
  obtain ⟨bt,off,c1,g1,gl,g2,g3⟩:=RL.ix hxs (i:=k) (by omega) (by omega);rw [Aq hb] at g2;have g2o:=g2;have g2:=LstX.mono g2 hI';have hct:=Ea (g:=g) hb;have hcl:=FY g xs (k+1);rw [hct] at hcl;simp only [List.length_append] at hcl hn;simp only [g1,SSd,Nat.reduceAdd];obtain ⟨u,rfl⟩:∃u,c1=[u]:=by match c1,gl with|[u],_=>exact ⟨u,rfl⟩
  refine rdC (g3 _ [] hI' (fun _ h=>h) 0 _ rfl) (Ext.refl _) ?_;try simp only [SSd,Nat.reduceAdd]
  have fin:∀(I2:Imm) (X2:LH) (l2:Bs) (Y:LH),Ext I I2→WrS b w X2 l2→l2++g xs[k]=l++Aw ((xs.take (k+1)).map g)→SubP (X2++F) Y→Oi ω fv u (.int .i64 k) (fun s'=>Gh fun I2 L2=>∃m',m' < q∧∃(k:Nat) (X':LH),k+m'=xs.length∧s'=(.int .i64 k,())∧Ext I I2∧L2=X'++F∧WrS b w X' (l++Aw ((xs.take k).map g))) (fun v=>Gh (K v)) I2 Y:=by
   intro I2 X2 l2 Y hI2 hW2 hl2 hY;unfold Oi;refine Ej ?_;refine CalV.to (X2++F) (hs:=?_) ?_
   ·obtain ⟨R,hR⟩:=hY.sub;exact ⟨R,hR⟩
   refine hf _ (List.getElem_mem hb) I2 X2 l2 _ _ hI2 (StL.mono hw hI2) hW2 (show (Fv ExV 11) _ _ _ from LstX.mono g2o hI2) (by rw [hl2,hct];simp only [List.length_append];omega) (fun I3 X3 hI3 hW3=>?_);simp only [wrap_i64 ((k:Int)+1) (by omega),SSd,Nat.reduceAdd];rw [hl2] at hW3;exact Gh.done ⟨q - 1,by omega,k+1,X3,by omega,rfl,Ext.trans hI2 hI3,rfl,hW3⟩
  refine AB (fun h0=>?_) (fun h0=>?_)
  ·have h0:k≠0:=by have:=of_decide_eq_true h0;omega
   rw [if_neg h0] at hct hcl;refine BP (X:=X') hW' (by simp only [List.length_append,List.length_cons,List.length_nil] at hcl ⊢;omega) (fun I2 X2 hI2 hW2=>?_);exact fin I2 X2 _ _ (Ext.trans hI' hI2) hW2 (by rw [hct];simp) inferInstance
  ·have h0:k=0:=by have:=of_decide_eq_false h0;omega
   rw [if_pos h0] at hct;exact fin I' X' _ _ hI' hW' (by rw [hct];simp) inferInstance
 ·have hb:¬k < xs.length:=by
   have:=of_decide_eq_false hb;omega
  rw [List.take_of_length_le (by omega)] at hW';exact Gh.done (hk I' X' hI' hW')
end
theorem Fp {x:Ex}:∀{l:List Ex},x∈l→DW x≤Bd l
 |y::l,h=>by
  rcases List.mem_cons.1 h with rfl|h
  ·simp only [Bd];omega
  ·have:=Fp h;simp only [Bd];omega
theorem Qa (b:Bool):∀(n:Nat) (x:Ex) (k:Int),DW x≤n→∀m,DW x≤m→Sm b n x k=Sm b m x k
 |0,x,k,h,_,_=>by have:=Gi x;omega
 |n+1,x,k,h,0,h'=>by have:=Gi x;omega
 |n+1,x,k,h,m+1,h'=>by
  simp only [Sm];congr 2
  funext i lv
  cases hx:x.args[i]? with
  |none=>rfl
  |some y=>
   have hm:=Fp (List.mem_of_getElem? hx);have:=EF x;exact Qa b n y lv (by omega) m (by omega)
def Bz (b:Bool)(x:Ex)(i:Nat)(k:Int):Bs:=match x.args[i]? with
 |some y=>exB b y k
 |none=>[63]
theorem APM (b:Bool)(x:Ex)(k:Int):exB b x k=AMK (decide (AMO x.kind < k)) (BL b x (Bz b x)):=by
 unfold exB;have hd:=EF x;rw [show DW x=Bd x.args+1 from hd];simp only [Sm];congr 2
 funext i lv
 unfold Bz;cases hx:x.args[i]? with
 |none=>rfl
 |some y=>
  have hm:=Fp (List.mem_of_getElem? hx);exact Qa b _ y lv hm _ (Nat.le_refl _)
theorem NM {b:Bool}{x:Ex}{i:Nat}(h:i < x.args.length)(k:Int):Bz b x i k=exB b x.args[i] k:=by
 unfold Bz;rw [List.getElem?_eq_getElem h]
theorem ACn {b:Bool}{x:Ex}{i:Nat}(h:¬i < x.args.length)(k:Int):Bz b x i k=[63]:=by
 unfold Bz;rw [List.getElem?_eq_none (by omega)]
theorem Kr (b:Bool)(x:Ex)(d:Nat):((List.range (x.args.length - d)).map fun i=>Bz b x (i+d) 1)=(x.args.drop d).map fun y=>exB b y 1:=by
 apply List.ext_getElem
 ·simp
 ·intro i h1 h2;simp only [List.length_map,List.length_range] at h1;rw [List.getElem_map,List.getElem_range,List.getElem_map,List.getElem_drop,NM (by omega)];congr 2;omega
theorem ADT (k:Int):(Gs k).all (fun p=>decide (1≤p.2)&&decide (p.2≤6))=true:=by
 unfold Gs;by_cases h22:k=22
 ·subst h22;rfl
 by_cases h21:k=21
 ·subst h21;rfl
 by_cases h23:k=23
 ·subst h23;rfl
 by_cases h15:k=15
 ·subst h15;rfl
 by_cases h16:k=16
 ·subst h16;rfl
 by_cases h17:k=17
 ·subst h17;rfl
 by_cases h18:k=18
 ·subst h18;rfl
 by_cases h19:k=19
 ·subst h19;rfl
 by_cases h20:k=20
 ·subst h20;rfl
 by_cases h9:k=9
 ·subst h9;rfl
 by_cases h10:k=10
 ·subst h10;rfl
 by_cases h14:k=14
 ·subst h14;rfl
 by_cases h11:k=11
 ·subst h11;rfl
 by_cases h12:k=12
 ·subst h12;rfl
 by_cases h13:k=13
 ·subst h13;rfl
 simp only [h22,h21,h23,h15,h16,h17,h18,h19,h20,h9,h10,h14,h11,h12,h13,if_false];rfl
theorem Pe {k:Int}{s:Bs}{n:Int}(h:Gs k=some (s,n)):1≤n∧n≤6:=by
 have:=ADT k;rw [h] at this;simpa using this
mutual
def okE:Ex→Prop
 | .mk _ v _ _ _ _ _ l=>okI v.fInt∧l.length≤1000000000000∧okL l
def okL:List Ex→Prop
 |[]=>True
 |x::l=>okE x∧okL l
end
theorem IY {x:Ex}(h:okE x):okI x.value.fInt∧x.args.length≤1000000000000∧okL x.args:=by cases x;simpa only [okE,Ex.value,Ex.args] using h
theorem GX {x:Ex}:∀{l:List Ex},okL l→x∈l→okE x
 |y::l,h,hx=>by
  rcases List.mem_cons.1 hx with rfl|hx
  ·exact h.1
  ·exact GX h.2 hx
theorem UO:∀{l:List Ex},(∀x∈l,okE x)→okL l
 |[],_=>trivial
 |x::l,h=>⟨h x (List.mem_cons_self ..),UO fun y hy=>h y (List.mem_cons_of_mem _ hy)⟩
def Qu (ω:Om)(G:Imm)(b:Nat)(w:Value)(n:Nat):Prop:=∀(x:Ex),DW x≤n→okE x→∀(k:Int) (I:Imm) (X F:LH) (l:Bs) (c:List Value) (K:Value→M),Ext G I→StL I w wordsL→WrS b w X l→ExV I x c→
 (l++exB true x k).length≤1000000000→(∀I' X',Ext I I'→WrS b w X' (l++exB true x k)→K (.tuple #[]) I' (X'++F))→CT ω 120 #[AY b,.agg c.toArray,.int .i64 k] K I (X++F)
section
variable {ω:Om}{G I:Imm}{L F:LH}{K:Value→M}{b:Nat}{w:Value}{X:LH}{l:Bs}{n:Nat}
theorem BR (hE:Qu ω G b w n){x:Ex}(hd:DW x≤n+1)(hx:okE x)(i:Nat)(k:Int)(hGI:Ext G I)(hw:StL I w wordsL)[hs:SplitL X L F](hW:WrS b w X l){c:List Value}(hc:ExV I x c)
  (hn:(l++Bz true x i k).length≤1000000000) (hk:∀I' X',Ext I I'→WrS b w X' (l++Bz true x i k)→K (.tuple #[]) I' (X'++F)):CT ω 177 #[AY b,.agg c.toArray,.int .i64 (i:Nat),.int .i64 k] K I L:=by
 refine Cal.split X ?_;refine AQS ?_;unfold AFe;obtain ⟨v,rfl,ha⟩:=ExV.iff.1 hc;refine AV (fun bx=>?_);try simp only [SSd,Nat.reduceAdd]
 refine rdb ?_;simp only [RL.len ha,SSd,Nat.reduceAdd];refine AB (fun h=>?_) (fun h=>?_)
 ·have h:¬i < x.args.length:=by have:=of_decide_eq_true h;omega
  rw [ACn h] at hn hk;refine BP (X:=X) hW hn (fun I' X' hI' hW'=>?_);exact Gh.to (X'++F) (Gh.done (hk I' X' hI' hW'))
 ·have h:i < x.args.length:=by have:=of_decide_eq_false h;omega
  rw [NM h] at hn hk;have hdd:=EF x;have hm:=Fp (List.getElem_mem h);obtain ⟨bt,off,c1,g1,gl,g2,g3⟩:=RL.ix ha (i:=i) (by omega) (by omega);rw [Aq h] at g2;try simp only [SSd,Nat.reduceAdd]
  refine rdb ?_;simp only [g1,SSd,Nat.reduceAdd];refine EO (g3 _ [] (Ext.refl _) (fun _ h=>h)) (Ext.refl _) gl ?_;refine call (Cal.to (X++F) (hE x.args[i] (by omega) (GX (IY hx).2.2 (List.getElem_mem h)) k I X F l c1 _ hGI hw hW g2 hn (fun I' X' hI' hW'=>?_)));exact Gh.done (hk I' X' hI' hW')
theorem WP {P:Program}{f:FuncId}{a:Value}{args:Array Value}(he:CQ P f=true)(h:Cal P ω f (#[a]++args) K I L):CalV P ω (.func (.func f) #[a] #[]) args K I L:=by
 unfold CalV;simp only [he,if_true];simpa using h
theorem PI (hE:Qu ω G b w n){xs:List Ex}(hd:Bd xs≤n)(hx:okL xs)(hxl:xs.length≤1000000000000)(hGI:Ext G I)(hw:StL I w wordsL)[hs:SplitL X L F](hW:WrS b w X l){v:Value}(hv:ExL I v xs)
  (hn:(l++Jf true xs).length≤1000000000) (hk:∀I' X',Ext I I'→WrS b w X' (l++Jf true xs)→K (.tuple #[]) I' (X'++F)):CT ω 168 #[AY b,v] K I L:=by
 refine Cal.split X ?_;refine AQZ ?_;unfold AFs;refine AV (o:=.cells [AY b].toArray 108 (0,0)) (fun bw=>?_);refine rdb ?_;refine call (ACh (X:=X) (g:=fun x=>exB true x 1) (F:=(bw,.cells [AY b].toArray 108 (0,0))::F) hv hw ?_ hxl hW hn (fun I' X' hI' hW'=>?_) (hs:=⟨List.perm_middle.symm⟩))
 ·intro x hxm I2 X2 l2 vx K2 hI2 hw2 hW2 hvx hn2 hk2;obtain ⟨c,rfl,hc⟩:=hvx;obtain ⟨v',rfl,ha⟩:=ExV.iff.1 hc;refine Hm (by kernel_rfl) ?_;refine APw ?_;show Yu ω (.agg (BC x v').toArray) (AY bw) _ I2 _;unfold Yu;refine AV (fun bx=>?_);refine rdb ?_;refine rdB rfl ?_;refine call (Cal.to (X2++((bw,.cells [AY b].toArray 108 (0,0))::F)) (hE x (Nat.le_trans (Fp hxm) hd) (GX hx hxm) 1 I2 X2 _ l2 _ _ (Ext.trans hGI hI2) hw2 hW2 hc hn2 (fun I3 X3 hI3 hW3=>?_)));exact Gh.done (hk2 I3 X3 hI3 hW3)
 ·exact Gh.to (X'++F) (Gh.done (hk I' X' hI' hW'))
theorem Jp (hE:Qu ω G b w n){xs:List Ex}(hd:Bd xs≤n)(hx:okL xs)(hxl:xs.length≤1000000000000)(hGI:Ext G I)(hw:StL I w wordsL)[hs:SplitL X L F](hW:WrS b w X l){v:Value}(hv:ExL I v xs)
  (hn:(l++rowB true xs).length≤1000000000) (hk:∀I' X',Ext I I'→WrS b w X' (l++rowB true xs)→K (.tuple #[]) I' (X'++F)):CT ω 117 #[AY b,v] K I L:=by
 refine Cal.split X ?_;refine ARL ?_;unfold AHG;have he:rowB true xs=[40]++(Jf true xs++[41]):=by simp [rowB]
 rw [he] at hn hk;simp only [List.length_append] at hn;refine BP hW (by simp only [List.length_append];omega) (fun I1 X1 hI1 hW1=>?_);refine call (PI hE hd hx hxl (Ext.trans hGI hI1) (StL.mono hw hI1) hW1 (ExL.mono hv hI1) (by simp only [List.length_append];omega) (fun I2 X2 hI2 hW2=>?_));refine BP hW2 (by simp only [List.length_append];omega) (fun I3 X3 hI3 hW3=>?_);exact Gh.done (hk I3 X3 (Ext.trans hI1 (Ext.trans hI2 hI3)) (by simpa using hW3))
end
def caseT (n:Nat)(arg:Nat→Int→Bs)(k:Nat):Bs:=(List.range k).flatMap fun i=>(if i % 2=1 then [32,116,104,101,110,32] else if i+1=n then [32,101,108,115,101,32] else [32,119,104,101,110,32])++arg i 1
theorem Qq (n:Nat)(arg:Nat→Int→Bs)(k:Nat):caseT n arg (k+1)=caseT n arg k++((if k % 2=1 then [32,116,104,101,110,32] else if k+1=n then [32,101,108,115,101,32] else [32,119,104,101,110,32])++arg k 1):=by
 unfold caseT;rw [List.range_succ,List.flatMap_append];simp
theorem WM (n:Nat)(arg:Nat→Int→Bs):∀(d k:Nat),(caseT n arg k).length≤(caseT n arg (k+d)).length
 |0,k=>Nat.le_refl _
 |d+1,k=>by
  have:=WM n arg d k;rw [←Nat.add_assoc,Qq,List.length_append];omega
def NR (x:Ex):Bool:=x.name==[99,111,117,110,116]&&x.args.length==1&&(x.args.getD 0 ex0).kind==3
def WO (x:Ex):Bs:=
 if x.kind=8 then [108,101,110,103,116,104,40]++Bz true x 0 1++[41] else
 if x.kind=27 then [99,111,97,108,101,115,99,101,40]++Jf true x.args++[41] else
 if x.kind=26 then [99,97,115,101]++caseT x.args.length (Bz true x) x.args.length++[32,101,110,100] else
 if x.kind=28 then x.name++[40]++(if x.distinct then [100,105,115,116,105,110,99,116,32] else [])++(if NR x then [42] else Bz true x 0 1)++[41] else [63]
theorem QR {x:Ex}(hs:Gs x.kind=none)(h:x.kind≠1∧x.kind≠2∧x.kind≠4∧x.kind≠5∧x.kind≠6∧x.kind≠7∧x.kind≠24∧x.kind≠25):BL true x (Bz true x)=WO x:=by
 unfold BL WO;rw [hs];simp only [h,if_false];have hr:=Kr true x 0;simp only [Nat.sub_zero,Nat.add_zero,List.drop_zero] at hr;rw [hr];simp only [Bool.true_or,Bool.and_true,caseT,Jf,NR];rfl
section
variable {ω:Om}{G I:Imm}{L F:LH}{K:Value→M}{b:Nat}{w:Value}{X:LH}{l:Bs}{n:Nat}
theorem PL (hE:Qu ω G b w n){x:Ex}(hd:DW x≤n+1)(hx:okE x)(hGI:Ext G I)(hw:StL I w wordsL)[hs:SplitL X L F](hW:WrS b w X l){c:List Value}(hc:ExV I x c)
  (hn:(l++WO x).length≤1000000000) (hk:∀I' X',Ext I I'→WrS b w X' (l++WO x)→K (.tuple #[]) I' (X'++F)):CT ω 179 #[AY b,.agg c.toArray] K I L:=by
 refine Cal.split X ?_;refine AQQ ?_;unfold AFa;obtain ⟨v,rfl,ha⟩:=ExV.iff.1 hc;obtain ⟨hv0,hal,hla⟩:=IY hx;have hdd:=EF x;unfold WO at hn hk;refine AV (fun bx=>?_);try simp only [SSd,Nat.reduceAdd]
 refine rdb ?_;try simp only [SSd,Nat.reduceAdd]
 refine AB (fun h=>?_) (fun h=>?_)
 ·have h:x.kind=8:=by simpa using h
  rw [if_pos h] at hn hk;simp only [List.length_append,List.length_cons,List.length_nil] at hn;refine BP hW zL (fun I1 X1 hI1 hW1=>?_);refine rdB rfl ?_;refine call (BR (X:=X1) hE hd hx 0 1 (Ext.trans hGI hI1) (StL.mono hw hI1) hW1 (ExV.mono hI1 hc) zL (fun I2 X2 hI2 hW2=>?_));refine BP hW2 zL (fun I3 X3 hI3 hW3=>?_);exact Gh.to (X3++F) (Gh.done (hk I3 X3 (Ext.trans hI1 (Ext.trans hI2 hI3)) (by simpa using hW3)))
 have h8:x.kind≠8:=by simpa using h
 rw [if_neg h8] at hn hk;try simp only [SSd,Nat.reduceAdd]
 refine AB (fun h=>?_) (fun h=>?_)
 ·have h:x.kind=27:=by simpa using h
  rw [if_pos h] at hn hk;have he:[99,111,97,108,101,115,99,101,40]++Jf true x.args++[41]=[99,111,97,108,101,115,99,101]++rowB true x.args:=by simp [rowB]
  rw [he] at hn hk;simp only [List.length_append,List.length_cons,List.length_nil] at hn;refine BP hW zL (fun I1 X1 hI1 hW1=>?_);try simp only [SSd,Nat.reduceAdd]
  refine rdb ?_;refine call (Jp (X:=X1) hE (by omega) hla hal (Ext.trans hGI hI1) (StL.mono hw hI1) hW1 (ExL.mono ha hI1) zL (fun I2 X2 hI2 hW2=>?_));exact Gh.to (X2++F) (Gh.done (hk I2 X2 (Ext.trans hI1 hI2) (by simpa using hW2)))
 have h27:x.kind≠27:=by simpa using h
 rw [if_neg h27] at hn hk;try simp only [SSd,Nat.reduceAdd]
 refine AB (fun h=>?_) (fun h=>?_)
 ·have h:x.kind=26:=by simpa using h
  rw [if_pos h] at hn hk;simp only [List.length_append,List.length_cons,List.length_nil] at hn;refine BP hW zL (fun I1 X1 hI1 hW1=>?_);try simp only [SSd,Nat.reduceAdd]
  refine rdb ?_;simp only [RL.len ha,SSd,Nat.reduceAdd];refine loop (fun q st I' L'=>∃(k:Nat) (X':LH),k+q=x.args.length∧st=(.int .i64 k,())∧Ext I I'∧L'=X'++((bx,.cells (BC x v).toArray 37 (0,0))::F)∧WrS b w X' ((l++[99,97,115,101])++caseT x.args.length (Bz true x) k)) x.args.length ⟨0,X1,by omega,rfl,hI1,rfl,by simpa [caseT] using hW1⟩ ?_;rintro q st I' L' ⟨k,X',hkq,rfl,hI',rfl,hW'⟩;unfold ZL;try simp only [SSd,Nat.reduceAdd]
  refine AB (fun hb=>?_) (fun hb=>?_)
  ·have hb:k < x.args.length:=by
    have:=of_decide_eq_true hb;omega
   obtain ⟨bt,off,c1,g1,gl,g2,g3⟩:=RL.ix ha (i:=k) (by omega) (by omega);rw [Aq hb] at g2;have hone:=ExV.one g2;have hsu:=Qq x.args.length (Bz true x) k;have hle:=WM x.args.length (Bz true x) (x.args.length - (k+1)) (k+1);rw [show k+1+(x.args.length - (k+1))=x.args.length by omega,hsu] at hle;simp only [List.length_append] at hle;simp only [g1,SSd,Nat.reduceAdd];refine EO (g3 _ [] hI' (fun _ h=>h)) (Ext.refl _) gl ?_;refine AV (fun b3=>?_);refine stB gl rfl hone ?_;have fin:∀(s:Bs) (I2:Imm) (X2:LH),Ext I I2→s=(if k % 2=1 then [32,116,104,101,110,32] else if k+1=x.args.length then [32,101,108,115,101,32] else [32,119,104,101,110,32])→WrS b w X2 (((l++[99,97,115,101])++caseT x.args.length (Bz true x) k)++s)→LY ω (AY b) (AY b3) (.int .i64 k) (fun s'=>Gh fun I2 L2=>∃m',m' < q∧∃(k:Nat) (X':LH),k+m'=x.args.length∧s'=(.int .i64 k,())∧Ext I I2∧L2=X'++((bx,.cells (BC x v).toArray 37 (0,0))::F)∧WrS b w X' ((l++[99,97,115,101])++caseT x.args.length (Bz true x) k)) (fun v=>Gh (K v)) I2 (X2++((b3,.cells c1.toArray 37 (0,0))::(bx,.cells (BC x v).toArray 37 (0,0))::F)):=by
    intro s I2 X2 hI2 hse hW2;rw [←hse] at hle hsu;unfold LY;refine Xc (T:=37) (by simp) gl ?_;have hm:=Fp (List.getElem_mem hb);have hex:Bz true x k 1=exB true x.args[k] 1:=NM hb 1;rw [hex] at hle hsu;refine call (Cal.to (X2++((bx,.cells (BC x v).toArray 37 (0,0))::F)) (hE x.args[k] (by omega) (GX hla (List.getElem_mem hb)) 1 I2 X2 _ _ c1 _ (Ext.trans hGI hI2) (StL.mono hw hI2) hW2 (ExV.mono hI2 g2) zL (fun I3 X3 hI3 hW3=>?_)));simp only [wrap_i64 ((k:Int)+1) (by omega),SSd,Nat.reduceAdd];exact Gh.done ⟨q - 1,by omega,k+1,X3,by omega,rfl,Ext.trans hI2 hI3,rfl,by rw [hsu];simpa using hW3⟩
   have hrem:AL .rem (.int .i64 (k:Int)) (.int .i64 2)=some (.int .i64 ((k % 2:Nat):Int)):=by
    rw [AKH _ _ .i64 (by decide),Int.tmod_eq_emod_of_nonneg (by omega)];simp
   simp only [hrem,SSd,Nat.reduceAdd];refine AB (fun h1=>?_) (fun h1=>?_)
   ·have h1:k % 2=1:=by
     have:((k % 2:Nat):Int)=1:=by simpa using h1
     omega
    rw [if_pos h1] at hle;simp only [List.length_cons,List.length_nil] at hle;refine BP (X:=X') hW' zL (fun I2 X2 hI2 hW2=>?_);exact fin _ I2 X2 (Ext.trans hI' hI2) (by rw [if_pos h1]) hW2
   have h1:¬k % 2=1:=by
    have:¬((k % 2:Nat):Int)=1:=by simpa using h1
    omega
   rw [if_neg h1] at hle;simp only [wrap_i64 ((k:Int)+1) (by omega),SSd,Nat.reduceAdd];refine rdb ?_;simp only [RL.len ha,SSd,Nat.reduceAdd];refine AB (fun h2=>?_) (fun h2=>?_)
   ·have h2:k+1=x.args.length:=by
     have:(k:Int)+1=x.args.length:=by simpa using h2
     omega
    rw [if_pos h2] at hle;simp only [List.length_cons,List.length_nil] at hle;refine BP (X:=X') hW' zL (fun I2 X2 hI2 hW2=>?_);exact fin _ I2 X2 (Ext.trans hI' hI2) (by rw [if_neg h1,if_pos h2]) hW2
   ·have h2:¬k+1=x.args.length:=by
     have:¬(k:Int)+1=x.args.length:=by simpa using h2
     omega
    rw [if_neg h2] at hle;simp only [List.length_cons,List.length_nil] at hle;refine BP (X:=X') hW' zL (fun I2 X2 hI2 hW2=>?_);exact fin _ I2 X2 (Ext.trans hI' hI2) (by rw [if_neg h1,if_neg h2]) hW2
  ·have hb:¬k < x.args.length:=by
    have:=of_decide_eq_false hb;omega
   obtain rfl:k=x.args.length:=by omega
   unfold ZK;refine BP (X:=X') hW' zL (fun I2 X2 hI2 hW2=>?_);exact Gh.to (X2++F) (Gh.done (hk I2 X2 (Ext.trans hI' hI2) (by simpa using hW2)))
 have h26:x.kind≠26:=by simpa using h
 rw [if_neg h26] at hn hk;try simp only [SSd,Nat.reduceAdd]
 refine AB (fun h=>?_) (fun h=>?_)
 ·have h:x.kind=28:=by simpa using h
  rw [if_pos h] at hn hk;simp only [List.length_append,List.length_cons,List.length_nil] at hn;try simp only [SSd,Nat.reduceAdd]
  refine rdb ?_;refine ATa hW zL (fun I1 X1 hI1 hW1=>?_);have fin8:∀(s:Bs) (I2:Imm) (X2:LH),Ext I I2→s=(if x.distinct then [100,105,115,116,105,110,99,116,32] else [])→WrS b w X2 ((l++(x.name++[40]))++s)→OM ω (AY b) (AY bx) (fun v=>Gh (K v)) I2 (X2++((bx,.cells (BC x v).toArray 37 (0,0))::F)):=by
   intro s I2 X2 hI2 hse hW2;rw [←hse] at hn hk;have no:NR x=false→JW ω (AY b) (AY bx) (fun v=>Gh (K v)) I2 (X2++((bx,.cells (BC x v).toArray 37 (0,0))::F)):=by
    intro hst;rw [hst] at hn hk;simp only [Bool.false_eq_true,if_false] at hn hk;unfold JW;refine Xc (l:=BC x v) (T:=37) (by simp) rfl ?_;refine call (BR (X:=X2) hE hd hx 0 1 (Ext.trans hGI hI2) (StL.mono hw hI2) hW2 (ExV.mono hI2 hc) zL (fun I3 X3 hI3 hW3=>?_));unfold LZ;refine BP hW3 zL (fun I4 X4 hI4 hW4=>?_);exact Gh.to (X4++F) (Gh.done (hk I4 X4 (Ext.trans hI2 (Ext.trans hI3 hI4)) (by simpa using hW4)))
   unfold OM;try simp only [SSd,Nat.reduceAdd]
   refine rdb ?_;simp only [RL.len ha,SSd,Nat.reduceAdd];refine AP (fun h1=>?_) (fun h1=>?_)
   ·have h1:x.args.length=1:=by
     have:(x.args.length:Int)=1:=by simpa using h1
     omega
    obtain ⟨bt,off,c1,g1,gl,g2,g3⟩:=RL.ix ha (i:=0) (by omega) (by omega);obtain ⟨v1,rfl,_⟩:=ExV.iff.1 g2;have hg0:x.args.getD 0 ex0=Ny x.args 0:=rfl;try simp only [SSd,Nat.reduceAdd]
    refine rdb ?_;simp only [g1,SSd,Nat.reduceAdd];refine rdC (g3 I2 [] hI2 (fun _ h=>h) 0 _ rfl) (Ext.refl _) ?_;try simp only [SSd,Nat.reduceAdd]
    refine AP (fun h2=>?_) (fun h2=>?_)
    ·try simp only [SSd,Nat.reduceAdd]
     refine rdb ?_;try simp only [SSd,Nat.reduceAdd]
     refine AB (fun h3=>?_) (fun h3=>?_)
     ·have h2:((Ny x.args 0).kind==3)=true:=by simpa using h2
      have h3:(x.name==[99,111,117,110,116])=true:=by simpa using h3
      have hst:NR x=true:=by unfold NR;rw [hg0,h3,h2,h1];rfl
      rw [hst] at hn hk;simp only [if_true,List.length_cons,List.length_nil] at hn hk;unfold ZJ;refine BP (X:=X2) hW2 zL (fun I3 X3 hI3 hW3=>?_);unfold LZ;refine BP hW3 zL (fun I4 X4 hI4 hW4=>?_);exact Gh.to (X4++F) (Gh.done (hk I4 X4 (Ext.trans hI2 (Ext.trans hI3 hI4)) (by simpa using hW4)))
     ·have h3:(x.name==[99,111,117,110,116])=false:=by simpa using h3
      exact no (by unfold NR;rw [h3];simp)
    ·have h2:((Ny x.args 0).kind==3)=false:=by simpa using h2
     exact no (by unfold NR;rw [hg0,h2];simp)
   ·have h1:(x.args.length==1)=false:=by
     have:¬(x.args.length:Int)=1:=by simpa using h1
     simp;omega
    exact no (by unfold NR;rw [h1];simp)
  try simp only [SSd,Nat.reduceAdd]
  refine rdb ?_;refine AB (fun h1=>?_) (fun h1=>?_)
  ·rw [h1] at hn fin8;simp only [if_true,List.length_cons,List.length_nil] at hn;refine BP hW1 zL (fun I2 X2 hI2 hW2=>?_);exact fin8 _ I2 X2 (Ext.trans hI1 hI2) (by simp) hW2
  ·rw [h1] at fin8;exact fin8 [] I1 X1 hI1 (by simp) (by simpa using hW1)
 have h28:x.kind≠28:=by simpa using h
 rw [if_neg h28] at hn hk;refine BP hW hn (fun I1 X1 hI1 hW1=>?_);exact Gh.to (X1++F) (Gh.done (hk I1 X1 hI1 hW1))
end
abbrev shO (c:List Value):Obj:=.cells c.toArray 210 (0,0)
abbrev exO (x:Ex)(v:Value):Obj:=.cells (BC x v).toArray 37 (0,0)
section
variable {ω:Om}{G I:Imm}{L F Y:LH}{K:Value→M}{b:Nat}{w:Value}{X:LH}{l:Bs}{n:Nat}
set_option maxHeartbeats 1000000 in
theorem KA (hE:Qu ω G b w n){x:Ex}{v:Value}{bx bs:Nat}{fb:Bool}{sc:List Value}(hd:DW x≤n+1)(hx:okE x)(hG:FI G)(hGI:Ext G I)(hw:StL I w wordsL)[hs:SplitL X L Y][i1:InL bx L (exO x v)][i2:InL bx Y (exO x v)][i3:InL bs L (shO sc)][i4:InL bs Y (shO sc)](hW:WrS b w X l)(hc:ExV I x (BC x v))
  (hsh:(∃s k,Gs x.kind=some (s,k)∧fb=true∧sc=[.string ⟨s.toArray⟩,.int .i64 k])∨(Gs x.kind=none∧fb=false))
  (hn:(l++BL true x (Bz true x)).length≤1000000000) (hk:∀I' X',Ext I I'→WrS b w X' (l++BL true x (Bz true x))→Gh (K (.tuple #[])) I' (X'++Y)):
  Lh ω (AY b) (AY bx) (AY bs) (.bool fb) (fun v=>Gh (K v)) I L:=by
 obtain ⟨v',hv',ha⟩:=ExV.iff.1 hc;obtain rfl:v=v':=by simpa [BC] using hv'
 obtain ⟨hv0,hal,hla⟩:=IY hx;have hdd:=EF x;unfold Lh;rcases hsh with ⟨s,k,hsg,rfl,rfl⟩|⟨hsg,rfl⟩
 ·have hin:BL true x (Bz true x)=Bz true x 0 (if k=4 then 5 else k)++(([32]++(s++[32]))++Bz true x 1 (k+1)):=by
   unfold BL;rw [hsg];simp
  rw [hin] at hn hk;simp only [List.length_append,List.length_cons,List.length_nil] at hn;have hsm:=Pe hsg;have bin:∀lv:Int,lv=(if k=4 then 5 else k)→Oc ω (AY b) (AY bx) (AY bs) (.int .i64 lv) (fun v=>Gh (K v)) I L:=by
   intro lv hlv;rw [←hlv] at hn hk;unfold Oc;refine rdB rfl ?_;refine call (BR (X:=X) hE hd hx 0 lv hGI hw hW hc zL (fun I1 X1 hI1 hW1=>?_));try simp only [SSd,Nat.reduceAdd]
   refine rdb ?_;refine AOt hW1 zL (fun I2 X2 hI2 hW2=>?_);refine rdB rfl ?_;try simp only [SSd,Nat.reduceAdd]
   refine rdb ?_;simp only [wrap_i64 (k+1) (by omega),SSd,Nat.reduceAdd];refine call (BR (X:=X2) hE hd hx 1 (k+1) (Ext.trans hGI (Ext.trans hI1 hI2)) (StL.mono hw (Ext.trans hI1 hI2)) hW2 (ExV.mono (Ext.trans hI1 hI2) hc) zL (fun I3 X3 hI3 hW3=>?_));exact hk I3 X3 (Ext.trans hI1 (Ext.trans hI2 hI3)) (by simpa using hW3)
  try simp only [SSd,Nat.reduceAdd]
  refine rdb ?_;try simp only [SSd,Nat.reduceAdd]
  refine AB (fun h=>?_) (fun h=>?_)
  ·exact bin 5 (by rw [if_pos (by simpa using h)])
  ·exact bin k (by rw [if_neg (by simpa using h)])
 try simp only [SSd,Nat.reduceAdd]
 refine rdb ?_;try simp only [SSd,Nat.reduceAdd]
 refine AB (fun h=>?_) (fun h=>?_)
 ·have h:x.kind=1:=by simpa using h
  have hin:BL true x (Bz true x)=ABQ true x.value:=by unfold BL;rw [hsg];simp [h]
  rw [hin] at hn hk;try simp only [SSd,Nat.reduceAdd]
  refine rdP _ rfl rfl ?_;refine call (PR (X:=X) hG hGI hW x.value hv0 hn (fun I1 X1 hI1 hW1=>?_));exact hk I1 X1 hI1 hW1
 have h1:x.kind≠1:=by simpa using h
 try simp only [SSd,Nat.reduceAdd]
 refine AB (fun h=>?_) (fun h=>?_)
 ·have h:x.kind=2:=by simpa using h
  have hin:BL true x (Bz true x)=(if x.table.isEmpty then [] else nameB x.table++[46])++nameB x.name:=by unfold BL;rw [hsg];simp [h]
  rw [hin] at hn hk;simp only [List.length_append] at hn;have col:∀(s:Bs) (I1:Imm) (X1 L1:LH) [SplitL X1 L1 Y] [InL bx L1 (exO x v)],Ext I I1→s=(if x.table.isEmpty then [] else nameB x.table++[46])→WrS b w X1 (l++s)→Ll ω (AY b) (AY bx) (fun v=>Gh (K v)) I1 L1:=by
   intro s I1 X1 L1 _ _ hI1 hse hW1;rw [←hse] at hn hk;unfold Ll;try simp only [SSd,Nat.reduceAdd]
   refine rdb ?_;refine call (BV (X:=X1) hW1 (StL.mono hw hI1) x.name zL (fun I2 X2 hI2 hW2=>?_));exact hk I2 X2 (Ext.trans hI1 hI2) (by simpa using hW2)
  try simp only [SSd,Nat.reduceAdd]
  refine rdb ?_;simp only [sNe,SSd,Nat.reduceAdd];cases ht:x.table with
  |nil=>
   rw [ht] at col;simp only [show (([]:Bs)==[])=true from rfl,Bool.not_true,SSd,Nat.reduceAdd];exact col [] I X L (Ext.refl I) rfl (by simpa using hW)
  |cons c r=>
   rw [ht] at col hn;simp only [List.isEmpty_cons,Bool.false_eq_true,if_false,List.length_append,List.length_cons,List.length_nil] at hn;simp only [show ((c::r)==([]:Bs))=false from rfl,Bool.not_false,SSd,Nat.reduceAdd];refine rdb ?_;refine call (BV (X:=X) hW hw x.table (by rw [ht];simp only [List.length_append,List.length_cons,List.length_nil];omega) (fun I1 X1 hI1 hW1=>?_));refine BP hW1 (by rw [ht];simp only [List.length_append,List.length_cons,List.length_nil];omega) (fun I2 X2 hI2 hW2=>?_);exact col (nameB (c::r)++[46]) I2 X2 _ (Ext.trans hI1 hI2) (by simp) (by rw [ht] at hW2;simpa using hW2)
 have h2:x.kind≠2:=by simpa using h
 try simp only [SSd,Nat.reduceAdd]
 refine AB (fun h=>?_) (fun h=>?_)
 ·have h:x.kind=4:=by simpa using h
  have hin:BL true x (Bz true x)=[45]++Bz true x 0 8:=by unfold BL;rw [hsg];simp [h]
  rw [hin] at hn hk;simp only [List.length_append,List.length_cons,List.length_nil] at hn;refine BP (X:=X) hW zL (fun I1 X1 hI1 hW1=>?_);refine rdB rfl ?_;refine call (BR (X:=X1) hE hd hx 0 8 (Ext.trans hGI hI1) (StL.mono hw hI1) hW1 (ExV.mono hI1 hc) zL (fun I2 X2 hI2 hW2=>?_));exact hk I2 X2 (Ext.trans hI1 hI2) (by simpa using hW2)
 have h4:x.kind≠4:=by simpa using h
 try simp only [SSd,Nat.reduceAdd]
 refine AB (fun h=>?_) (fun h=>?_)
 ·have h:x.kind=5:=by simpa using h
  have hin:BL true x (Bz true x)=[110,111,116,32]++Bz true x 0 3:=by unfold BL;rw [hsg];simp [h]
  rw [hin] at hn hk;simp only [List.length_append,List.length_cons,List.length_nil] at hn;refine BP (X:=X) hW zL (fun I1 X1 hI1 hW1=>?_);refine rdB rfl ?_;refine call (BR (X:=X1) hE hd hx 0 3 (Ext.trans hGI hI1) (StL.mono hw hI1) hW1 (ExV.mono hI1 hc) zL (fun I2 X2 hI2 hW2=>?_));exact hk I2 X2 (Ext.trans hI1 hI2) (by simpa using hW2)
 have h5:x.kind≠5:=by simpa using h
 try simp only [SSd,Nat.reduceAdd]
 refine AB (fun h=>?_) (fun h=>?_)
 ·have h:x.kind=6:=by simpa using h
  have hin:BL true x (Bz true x)=Bz true x 0 5++[32,105,115,32,110,117,108,108]:=by unfold BL;rw [hsg];simp [h]
  rw [hin] at hn hk;simp only [List.length_append,List.length_cons,List.length_nil] at hn;refine rdB rfl ?_;refine call (BR (X:=X) hE hd hx 0 5 hGI hw hW hc zL (fun I1 X1 hI1 hW1=>?_));refine BP hW1 zL (fun I2 X2 hI2 hW2=>?_);exact hk I2 X2 (Ext.trans hI1 hI2) (by simpa using hW2)
 have h6:x.kind≠6:=by simpa using h
 try simp only [SSd,Nat.reduceAdd]
 refine AB (fun h=>?_) (fun h=>?_)
 ·have h:x.kind=7:=by simpa using h
  have hin:BL true x (Bz true x)=Bz true x 0 5++[32,105,115,32,110,111,116,32,110,117,108,108]:=by unfold BL;rw [hsg];simp [h]
  rw [hin] at hn hk;simp only [List.length_append,List.length_cons,List.length_nil] at hn;refine rdB rfl ?_;refine call (BR (X:=X) hE hd hx 0 5 hGI hw hW hc zL (fun I1 X1 hI1 hW1=>?_));refine BP hW1 zL (fun I2 X2 hI2 hW2=>?_);exact hk I2 X2 (Ext.trans hI1 hI2) (by simpa using hW2)
 have h7:x.kind≠7:=by simpa using h
 try simp only [SSd,Nat.reduceAdd]
 refine AB (fun h=>?_) (fun h=>?_)
 ·have h:x.kind=24:=by simpa using h
  have hin:BL true x (Bz true x)=Bz true x 0 5++([32,105,110,32]++rowB true (x.args.drop 1)):=by
   unfold BL;rw [hsg];simp only [h];have hr:=Kr true x 1;rw [hr];simp [rowB,Jf]
  rw [hin] at hn hk;simp only [List.length_append,List.length_cons,List.length_nil] at hn;refine rdB rfl ?_;refine call (BR (X:=X) hE hd hx 0 5 hGI hw hW hc zL (fun I1 X1 hI1 hW1=>?_));refine BP hW1 zL (fun I2 X2 hI2 hW2=>?_);have hI12:=Ext.trans hI1 hI2;try simp only [SSd,Nat.reduceAdd]
  refine rdb ?_;try simp only [SSd,Nat.reduceAdd]
  refine rdb ?_;simp only [RL.len ha,SSd,Nat.reduceAdd];obtain ⟨v2,hv2,hr2⟩:=RL.part (ExL.mono ha hI12) (lo:=min 1 x.args.length) (hi:=x.args.length) (by omega) (Nat.le_refl _) (some (.int .i64 (if (x.args.length:Int) < 1 then (x.args.length:Int) else 1))) none (by
   rw [show (if (x.args.length:Int) < 1 then (x.args.length:Int) else 1)=((min 1 x.args.length:Nat):Int) by split <;> omega];exact Uh _ _ _ _ (by omega)) (fun cap hc=>by simp [Dl])
  have hdr:(x.args.drop (min 1 x.args.length)).take (x.args.length - min 1 x.args.length)=x.args.drop 1:=by
   rw [List.take_of_length_le (by simp)];by_cases h0:x.args.length=0
   ·rw [List.length_eq_zero_iff] at h0;rw [h0];rfl
   ·congr 1;omega
  rw [hdr] at hr2;simp only [hv2,SSd,Nat.reduceAdd];have hap:x.args=x.args.take 1++x.args.drop 1:=(List.take_append_drop 1 x.args).symm;have hdp:Bd (x.args.drop 1)≤n:=by
   have h:=FX (x.args.take 1) (x.args.drop 1);rw [←hap] at h;omega
  refine call (Jp (X:=X2) hE hdp (UO fun y hy=>GX hla (List.mem_of_mem_drop hy)) (by rw [List.length_drop];omega) (Ext.trans hGI hI12) (StL.mono hw hI12) hW2 hr2 zL (fun I3 X3 hI3 hW3=>?_));exact hk I3 X3 (Ext.trans hI12 hI3) (by simpa using hW3)
 have h24:x.kind≠24:=by simpa using h
 try simp only [SSd,Nat.reduceAdd]
 refine AB (fun h=>?_) (fun h=>?_)
 ·have h:x.kind=25:=by simpa using h
  have hin:BL true x (Bz true x)=Bz true x 0 5++([32,98,101,116,119,101,101,110,32]++(Bz true x 1 5++([32,97,110,100,32]++Bz true x 2 5))):=by unfold BL;rw [hsg];simp [h]
  rw [hin] at hn hk;simp only [List.length_append,List.length_cons,List.length_nil] at hn;refine rdB rfl ?_;refine call (BR (X:=X) hE hd hx 0 5 hGI hw hW hc zL (fun I1 X1 hI1 hW1=>?_));refine BP hW1 zL (fun I2 X2 hI2 hW2=>?_);refine rdB rfl ?_;have hI12:=Ext.trans hI1 hI2;refine call (BR (X:=X2) hE hd hx 1 5 (Ext.trans hGI hI12) (StL.mono hw hI12) hW2 (ExV.mono hI12 hc) zL (fun I3 X3 hI3 hW3=>?_));refine BP hW3 zL (fun I4 X4 hI4 hW4=>?_);refine rdB rfl ?_;have hI14:=Ext.trans hI12 (Ext.trans hI3 hI4);refine call (BR (X:=X4) hE hd hx 2 5 (Ext.trans hGI hI14) (StL.mono hw hI14) hW4 (ExV.mono hI14 hc) zL (fun I5 X5 hI5 hW5=>?_));exact hk I5 X5 (Ext.trans hI14 hI5) (by simpa using hW5)
 have h25:x.kind≠25:=by simpa using h
 rw [QR hsg ⟨h1,h2,h4,h5,h6,h7,h24,h25⟩] at hn hk;refine rdB rfl ?_;refine call (PL (X:=X) hE hd hx hGI hw hW hc hn (fun I1 X1 hI1 hW1=>?_));exact hk I1 X1 hI1 hW1
set_option maxHeartbeats 1000000 in
theorem KC (hE:Qu ω G b w n){x:Ex}{v:Value}{bx bs:Nat}{fb:Bool}{sc:List Value}(hd:DW x≤n+1)(hx:okE x)(hG:FI G)(hGI:Ext G I)(hw:StL I w wordsL)[hs:SplitL X L Y][i1:InL bx L (exO x v)][i2:InL bx Y (exO x v)][i3:InL bs L (shO sc)][i4:InL bs Y (shO sc)](hW:WrS b w X l)(hc:ExV I x (BC x v))
  (hsh:(∃s k,Gs x.kind=some (s,k)∧fb=true∧sc=[.string ⟨s.toArray⟩,.int .i64 k])∨(Gs x.kind=none∧fb=false)) {W3 W4:Value}
  (hn:(l++BL true x (Bz true x)).length≤1000000000) (hk:∀I' X',Ext I I'→WrS b w X' (l++BL true x (Bz true x))→ER ω W3 W4 (fun v=>Gh (K v)) I' (X'++Y)):
  Lj ω (AY b) (AY bx) (AY bs) (.bool fb) W3 W4 (fun v=>Gh (K v)) I L:=by
 obtain ⟨v',hv',ha⟩:=ExV.iff.1 hc;obtain rfl:v=v':=by simpa [BC] using hv'
 obtain ⟨hv0,hal,hla⟩:=IY hx;have hdd:=EF x;unfold Lj;rcases hsh with ⟨s,k,hsg,rfl,rfl⟩|⟨hsg,rfl⟩
 ·have hin:BL true x (Bz true x)=Bz true x 0 (if k=4 then 5 else k)++(([32]++(s++[32]))++Bz true x 1 (k+1)):=by
   unfold BL;rw [hsg];simp
  rw [hin] at hn hk;simp only [List.length_append,List.length_cons,List.length_nil] at hn;have hsm:=Pe hsg;have bin:∀lv:Int,lv=(if k=4 then 5 else k)→Og ω (AY b) (AY bx) (AY bs) (.int .i64 lv) W3 W4 (fun v=>Gh (K v)) I L:=by
   intro lv hlv;rw [←hlv] at hn hk;unfold Og;refine rdB rfl ?_;refine call (BR (X:=X) hE hd hx 0 lv hGI hw hW hc zL (fun I1 X1 hI1 hW1=>?_));try simp only [SSd,Nat.reduceAdd]
   refine rdb ?_;refine AOt hW1 zL (fun I2 X2 hI2 hW2=>?_);refine rdB rfl ?_;try simp only [SSd,Nat.reduceAdd]
   refine rdb ?_;simp only [wrap_i64 (k+1) (by omega),SSd,Nat.reduceAdd];refine call (BR (X:=X2) hE hd hx 1 (k+1) (Ext.trans hGI (Ext.trans hI1 hI2)) (StL.mono hw (Ext.trans hI1 hI2)) hW2 (ExV.mono (Ext.trans hI1 hI2) hc) zL (fun I3 X3 hI3 hW3=>?_));exact hk I3 X3 (Ext.trans hI1 (Ext.trans hI2 hI3)) (by simpa using hW3)
  try simp only [SSd,Nat.reduceAdd]
  refine rdb ?_;try simp only [SSd,Nat.reduceAdd]
  refine AB (fun h=>?_) (fun h=>?_)
  ·exact bin 5 (by rw [if_pos (by simpa using h)])
  ·exact bin k (by rw [if_neg (by simpa using h)])
 try simp only [SSd,Nat.reduceAdd]
 refine rdb ?_;try simp only [SSd,Nat.reduceAdd]
 refine AB (fun h=>?_) (fun h=>?_)
 ·have h:x.kind=1:=by simpa using h
  have hin:BL true x (Bz true x)=ABQ true x.value:=by unfold BL;rw [hsg];simp [h]
  rw [hin] at hn hk;try simp only [SSd,Nat.reduceAdd]
  refine rdP _ rfl rfl ?_;refine call (PR (X:=X) hG hGI hW x.value hv0 hn (fun I1 X1 hI1 hW1=>?_));exact hk I1 X1 hI1 hW1
 have h1:x.kind≠1:=by simpa using h
 try simp only [SSd,Nat.reduceAdd]
 refine AB (fun h=>?_) (fun h=>?_)
 ·have h:x.kind=2:=by simpa using h
  have hin:BL true x (Bz true x)=(if x.table.isEmpty then [] else nameB x.table++[46])++nameB x.name:=by unfold BL;rw [hsg];simp [h]
  rw [hin] at hn hk;simp only [List.length_append] at hn;have col:∀(s:Bs) (I1:Imm) (X1 L1:LH) [SplitL X1 L1 Y] [InL bx L1 (exO x v)],Ext I I1→s=(if x.table.isEmpty then [] else nameB x.table++[46])→WrS b w X1 (l++s)→Oe ω (AY b) (AY bx) W3 W4 (fun v=>Gh (K v)) I1 L1:=by
   intro s I1 X1 L1 _ _ hI1 hse hW1;rw [←hse] at hn hk;unfold Oe;try simp only [SSd,Nat.reduceAdd]
   refine rdb ?_;refine call (BV (X:=X1) hW1 (StL.mono hw hI1) x.name zL (fun I2 X2 hI2 hW2=>?_));exact hk I2 X2 (Ext.trans hI1 hI2) (by simpa using hW2)
  try simp only [SSd,Nat.reduceAdd]
  refine rdb ?_;simp only [sNe,SSd,Nat.reduceAdd];cases ht:x.table with
  |nil=>
   rw [ht] at col;simp only [show (([]:Bs)==[])=true from rfl,Bool.not_true,SSd,Nat.reduceAdd];exact col [] I X L (Ext.refl I) rfl (by simpa using hW)
  |cons c r=>
   rw [ht] at col hn;simp only [List.isEmpty_cons,Bool.false_eq_true,if_false,List.length_append,List.length_cons,List.length_nil] at hn;simp only [show ((c::r)==([]:Bs))=false from rfl,Bool.not_false,SSd,Nat.reduceAdd];refine rdb ?_;refine call (BV (X:=X) hW hw x.table (by rw [ht];simp only [List.length_append,List.length_cons,List.length_nil];omega) (fun I1 X1 hI1 hW1=>?_));refine BP hW1 (by rw [ht];simp only [List.length_append,List.length_cons,List.length_nil];omega) (fun I2 X2 hI2 hW2=>?_);exact col (nameB (c::r)++[46]) I2 X2 _ (Ext.trans hI1 hI2) (by simp) (by rw [ht] at hW2;simpa using hW2)
 have h2:x.kind≠2:=by simpa using h
 try simp only [SSd,Nat.reduceAdd]
 refine AB (fun h=>?_) (fun h=>?_)
 ·have h:x.kind=4:=by simpa using h
  have hin:BL true x (Bz true x)=[45]++Bz true x 0 8:=by unfold BL;rw [hsg];simp [h]
  rw [hin] at hn hk;simp only [List.length_append,List.length_cons,List.length_nil] at hn;refine BP (X:=X) hW zL (fun I1 X1 hI1 hW1=>?_);refine rdB rfl ?_;refine call (BR (X:=X1) hE hd hx 0 8 (Ext.trans hGI hI1) (StL.mono hw hI1) hW1 (ExV.mono hI1 hc) zL (fun I2 X2 hI2 hW2=>?_));exact hk I2 X2 (Ext.trans hI1 hI2) (by simpa using hW2)
 have h4:x.kind≠4:=by simpa using h
 try simp only [SSd,Nat.reduceAdd]
 refine AB (fun h=>?_) (fun h=>?_)
 ·have h:x.kind=5:=by simpa using h
  have hin:BL true x (Bz true x)=[110,111,116,32]++Bz true x 0 3:=by unfold BL;rw [hsg];simp [h]
  rw [hin] at hn hk;simp only [List.length_append,List.length_cons,List.length_nil] at hn;refine BP (X:=X) hW zL (fun I1 X1 hI1 hW1=>?_);refine rdB rfl ?_;refine call (BR (X:=X1) hE hd hx 0 3 (Ext.trans hGI hI1) (StL.mono hw hI1) hW1 (ExV.mono hI1 hc) zL (fun I2 X2 hI2 hW2=>?_));exact hk I2 X2 (Ext.trans hI1 hI2) (by simpa using hW2)
 have h5:x.kind≠5:=by simpa using h
 try simp only [SSd,Nat.reduceAdd]
 refine AB (fun h=>?_) (fun h=>?_)
 ·have h:x.kind=6:=by simpa using h
  have hin:BL true x (Bz true x)=Bz true x 0 5++[32,105,115,32,110,117,108,108]:=by unfold BL;rw [hsg];simp [h]
  rw [hin] at hn hk;simp only [List.length_append,List.length_cons,List.length_nil] at hn;refine rdB rfl ?_;refine call (BR (X:=X) hE hd hx 0 5 hGI hw hW hc zL (fun I1 X1 hI1 hW1=>?_));refine BP hW1 zL (fun I2 X2 hI2 hW2=>?_);exact hk I2 X2 (Ext.trans hI1 hI2) (by simpa using hW2)
 have h6:x.kind≠6:=by simpa using h
 try simp only [SSd,Nat.reduceAdd]
 refine AB (fun h=>?_) (fun h=>?_)
 ·have h:x.kind=7:=by simpa using h
  have hin:BL true x (Bz true x)=Bz true x 0 5++[32,105,115,32,110,111,116,32,110,117,108,108]:=by unfold BL;rw [hsg];simp [h]
  rw [hin] at hn hk;simp only [List.length_append,List.length_cons,List.length_nil] at hn;refine rdB rfl ?_;refine call (BR (X:=X) hE hd hx 0 5 hGI hw hW hc zL (fun I1 X1 hI1 hW1=>?_));refine BP hW1 zL (fun I2 X2 hI2 hW2=>?_);exact hk I2 X2 (Ext.trans hI1 hI2) (by simpa using hW2)
 have h7:x.kind≠7:=by simpa using h
 try simp only [SSd,Nat.reduceAdd]
 refine AB (fun h=>?_) (fun h=>?_)
 ·have h:x.kind=24:=by simpa using h
  have hin:BL true x (Bz true x)=Bz true x 0 5++([32,105,110,32]++rowB true (x.args.drop 1)):=by
   unfold BL;rw [hsg];simp only [h];have hr:=Kr true x 1;rw [hr];simp [rowB,Jf]
  rw [hin] at hn hk;simp only [List.length_append,List.length_cons,List.length_nil] at hn;refine rdB rfl ?_;refine call (BR (X:=X) hE hd hx 0 5 hGI hw hW hc zL (fun I1 X1 hI1 hW1=>?_));refine BP hW1 zL (fun I2 X2 hI2 hW2=>?_);have hI12:=Ext.trans hI1 hI2;try simp only [SSd,Nat.reduceAdd]
  refine rdb ?_;try simp only [SSd,Nat.reduceAdd]
  refine rdb ?_;simp only [RL.len ha,SSd,Nat.reduceAdd];obtain ⟨v2,hv2,hr2⟩:=RL.part (ExL.mono ha hI12) (lo:=min 1 x.args.length) (hi:=x.args.length) (by omega) (Nat.le_refl _) (some (.int .i64 (if (x.args.length:Int) < 1 then (x.args.length:Int) else 1))) none (by
   rw [show (if (x.args.length:Int) < 1 then (x.args.length:Int) else 1)=((min 1 x.args.length:Nat):Int) by split <;> omega];exact Uh _ _ _ _ (by omega)) (fun cap hc=>by simp [Dl])
  have hdr:(x.args.drop (min 1 x.args.length)).take (x.args.length - min 1 x.args.length)=x.args.drop 1:=by
   rw [List.take_of_length_le (by simp)];by_cases h0:x.args.length=0
   ·rw [List.length_eq_zero_iff] at h0;rw [h0];rfl
   ·congr 1;omega
  rw [hdr] at hr2;simp only [hv2,SSd,Nat.reduceAdd];have hap:x.args=x.args.take 1++x.args.drop 1:=(List.take_append_drop 1 x.args).symm;have hdp:Bd (x.args.drop 1)≤n:=by
   have h:=FX (x.args.take 1) (x.args.drop 1);rw [←hap] at h;omega
  refine call (Jp (X:=X2) hE hdp (UO fun y hy=>GX hla (List.mem_of_mem_drop hy)) (by rw [List.length_drop];omega) (Ext.trans hGI hI12) (StL.mono hw hI12) hW2 hr2 zL (fun I3 X3 hI3 hW3=>?_));exact hk I3 X3 (Ext.trans hI12 hI3) (by simpa using hW3)
 have h24:x.kind≠24:=by simpa using h
 try simp only [SSd,Nat.reduceAdd]
 refine AB (fun h=>?_) (fun h=>?_)
 ·have h:x.kind=25:=by simpa using h
  have hin:BL true x (Bz true x)=Bz true x 0 5++([32,98,101,116,119,101,101,110,32]++(Bz true x 1 5++([32,97,110,100,32]++Bz true x 2 5))):=by unfold BL;rw [hsg];simp [h]
  rw [hin] at hn hk;simp only [List.length_append,List.length_cons,List.length_nil] at hn;refine rdB rfl ?_;refine call (BR (X:=X) hE hd hx 0 5 hGI hw hW hc zL (fun I1 X1 hI1 hW1=>?_));refine BP hW1 zL (fun I2 X2 hI2 hW2=>?_);refine rdB rfl ?_;have hI12:=Ext.trans hI1 hI2;refine call (BR (X:=X2) hE hd hx 1 5 (Ext.trans hGI hI12) (StL.mono hw hI12) hW2 (ExV.mono hI12 hc) zL (fun I3 X3 hI3 hW3=>?_));refine BP hW3 zL (fun I4 X4 hI4 hW4=>?_);refine rdB rfl ?_;have hI14:=Ext.trans hI12 (Ext.trans hI3 hI4);refine call (BR (X:=X4) hE hd hx 2 5 (Ext.trans hGI hI14) (StL.mono hw hI14) hW4 (ExV.mono hI14 hc) zL (fun I5 X5 hI5 hW5=>?_));exact hk I5 X5 (Ext.trans hI14 hI5) (by simpa using hW5)
 have h25:x.kind≠25:=by simpa using h
 rw [QR hsg ⟨h1,h2,h4,h5,h6,h7,h24,h25⟩] at hn hk;refine rdB rfl ?_;refine call (PL (X:=X) hE hd hx hGI hw hW hc hn (fun I1 X1 hI1 hW1=>?_));exact hk I1 X1 hI1 hW1
end
theorem ASH {P:Program}{ω:Om}{f:FuncId}{args:Array Value}{K:Value→M}{I:Imm}{L:LH}(h:CalD P ω f args K I L):CalD P ω f args (SL.gh K) I L:=fun w hs=>
 CallsDIn.mono (h w hs) fun _ _ _ ⟨hu,v,I',L',he,hs',hk⟩=>⟨hu,v,I',L',he,hs',Gh.done hk⟩
section
variable {ω:Om}{G I:Imm}{L F Y:LH}{K:Value→M}{b:Nat}{w:Value}{X:LH}{l:Bs}{n:Nat}
theorem QZ (hG:FI G)(n:Nat):Qu ω G b w n:=by
 induction n with
 |zero=>exact fun x hd=>by have:=Gi x;omega
 |succ n hE=>
  intro x hd hx k I X F l c K hGI hw hW hc hn hk;rw [APM] at hn hk;obtain ⟨v,rfl,ha⟩:=ExV.iff.1 hc;refine ARI ?_;unfold AHB;refine AV (fun bx=>?_);try simp only [SSd,Nat.reduceAdd]
  refine rdb ?_;refine call (Xw x.kind ?_);try simp only [SSd,Nat.reduceAdd]
  refine AB (fun h=>?_) (fun h=>?_)
  ·rw [h] at hn hk;simp only [AMK,if_true] at hn hk;simp only [List.length_append,List.length_cons,List.length_nil] at hn;refine BP hW zL (fun I1 X1 hI1 hW1=>?_);refine Dy [[41]] rfl rfl (fun I2 a2 hI2 hv2=>Gh.done ?_);have hI12:=Ext.trans hI1 hI2;have hc2:=ExV.mono hI12 hc;have hw2:=StL.mono hw hI12;have fin:∀(I':Imm) (X':LH) (Y:LH),Ext I2 I'→SubP F Y→WrS b w X' ((l++[40])++BL true x (Bz true x))→ER ω (AY b) (.slice a2 1 1) (fun v=>Gh (K v)) I' (X'++Y):=by
    intro I' X' Y hI' hY hW';unfold ER;refine ASH (ACY hW' (StL.mono hv2 hI') (by simp) (by simp only [List.flatten_cons,List.flatten_nil,List.length_append,List.length_cons,List.length_nil];omega) (fun X'' hW''=>?_));exact Gh.to (X''++F) (Gh.done (hk I' X'' (Ext.trans hI12 hI') (by simpa using hW'')))
   unfold AAK;refine Ag ?_;try simp only [SSd,Nat.reduceAdd]
   refine Ai ?_;refine ⟨call (Fe (fun bm es clock hm=>CJ (Ext.refl _) ⟨?_,?_⟩)),AV (fun bs=>CJ (Ext.refl _) (call (Fe (fun bm es clock hm=>CJ (Ext.refl _) ?_))))⟩
   ·refine Gt hm (fun s k hs=>?_) (fun hs=>?_)
    ·try simp only [SSd,Nat.reduceAdd]
     refine AV (fun bs=>?_);refine CJ (Ext.refl _) ?_;refine stB rfl rfl (AO rfl) ?_;exact KC (X:=X1) hE hd hx hG (Ext.trans hGI hI12) hw2 hW1 hc2 (.inl ⟨s,k,hs,rfl,rfl⟩) zL (fun I' X' hI' hW'=>fin I' X' _ hI' inferInstance hW')
    ·try simp only [SSd,Nat.reduceAdd]
     refine AV (fun bs=>?_);refine CJ (Ext.refl _) ?_;refine stB rfl rfl (AO rfl) ?_;exact KC (X:=X1) hE hd hx hG (Ext.trans hGI hI12) hw2 hW1 hc2 (.inr ⟨hs,rfl⟩) zL (fun I' X' hI' hW'=>fin I' X' _ hI' inferInstance hW')
   ·refine AV (fun bs=>?_);refine CJ (Ext.refl _) ?_;refine Gt hm (fun s k hs=>?_) (fun hs=>?_)
    ·try simp only [SSd,Nat.reduceAdd]
     refine stB rfl rfl (AO rfl) ?_;exact KC (X:=X1) hE hd hx hG (Ext.trans hGI hI12) hw2 hW1 hc2 (.inl ⟨s,k,hs,rfl,rfl⟩) zL (fun I' X' hI' hW'=>fin I' X' _ hI' inferInstance hW')
    ·try simp only [SSd,Nat.reduceAdd]
     refine stB rfl rfl (AO rfl) ?_;exact KC (X:=X1) hE hd hx hG (Ext.trans hGI hI12) hw2 hW1 hc2 (.inr ⟨hs,rfl⟩) zL (fun I' X' hI' hW'=>fin I' X' _ hI' inferInstance hW')
   ·refine Gt hm (fun s k hs=>?_) (fun hs=>?_)
    ·try simp only [SSd,Nat.reduceAdd]
     refine stB rfl rfl (AO rfl) ?_;exact KC (X:=X1) hE hd hx hG (Ext.trans hGI hI12) hw2 hW1 hc2 (.inl ⟨s,k,hs,rfl,rfl⟩) zL (fun I' X' hI' hW'=>fin I' X' _ hI' inferInstance hW')
    ·try simp only [SSd,Nat.reduceAdd]
     refine stB rfl rfl (AO rfl) ?_;exact KC (X:=X1) hE hd hx hG (Ext.trans hGI hI12) hw2 hW1 hc2 (.inr ⟨hs,rfl⟩) zL (fun I' X' hI' hW'=>fin I' X' _ hI' inferInstance hW')
  ·rw [h] at hn hk;simp only [AMK,Bool.false_eq_true,if_false] at hn hk;have fin:∀(I':Imm) (X':LH) (Y:LH),Ext I I'→SubP F Y→WrS b w X' (l++BL true x (Bz true x))→Gh (K (.tuple #[])) I' (X'++Y):=by
    intro I' X' Y hI' hY hW';exact Gh.to (X'++F) (Gh.done (hk I' X' hI' hW'))
   unfold AAJ;refine Ag ?_;try simp only [SSd,Nat.reduceAdd]
   refine Ai ?_;refine ⟨call (Fe (fun bm es clock hm=>CJ (Ext.refl _) ⟨?_,?_⟩)),AV (fun bs=>CJ (Ext.refl _) (call (Fe (fun bm es clock hm=>CJ (Ext.refl _) ?_))))⟩
   ·refine Gt hm (fun s k hs=>?_) (fun hs=>?_)
    ·try simp only [SSd,Nat.reduceAdd]
     refine AV (fun bs=>?_);refine CJ (Ext.refl _) ?_;refine stB rfl rfl (AO rfl) ?_;exact KA (X:=X) hE hd hx hG hGI hw hW hc (.inl ⟨s,k,hs,rfl,rfl⟩) hn (fun I' X' hI' hW'=>fin I' X' _ hI' inferInstance hW')
    ·try simp only [SSd,Nat.reduceAdd]
     refine AV (fun bs=>?_);refine CJ (Ext.refl _) ?_;refine stB rfl rfl (AO rfl) ?_;exact KA (X:=X) hE hd hx hG hGI hw hW hc (.inr ⟨hs,rfl⟩) hn (fun I' X' hI' hW'=>fin I' X' _ hI' inferInstance hW')
   ·refine AV (fun bs=>?_);refine CJ (Ext.refl _) ?_;refine Gt hm (fun s k hs=>?_) (fun hs=>?_)
    ·try simp only [SSd,Nat.reduceAdd]
     refine stB rfl rfl (AO rfl) ?_;exact KA (X:=X) hE hd hx hG hGI hw hW hc (.inl ⟨s,k,hs,rfl,rfl⟩) hn (fun I' X' hI' hW'=>fin I' X' _ hI' inferInstance hW')
    ·try simp only [SSd,Nat.reduceAdd]
     refine stB rfl rfl (AO rfl) ?_;exact KA (X:=X) hE hd hx hG hGI hw hW hc (.inr ⟨hs,rfl⟩) hn (fun I' X' hI' hW'=>fin I' X' _ hI' inferInstance hW')
   ·refine Gt hm (fun s k hs=>?_) (fun hs=>?_)
    ·try simp only [SSd,Nat.reduceAdd]
     refine stB rfl rfl (AO rfl) ?_;exact KA (X:=X) hE hd hx hG hGI hw hW hc (.inl ⟨s,k,hs,rfl,rfl⟩) hn (fun I' X' hI' hW'=>fin I' X' _ hI' inferInstance hW')
    ·try simp only [SSd,Nat.reduceAdd]
     refine stB rfl rfl (AO rfl) ?_;exact KA (X:=X) hE hd hx hG hGI hw hW hc (.inr ⟨hs,rfl⟩) hn (fun I' X' hI' hW'=>fin I' X' _ hI' inferInstance hW')
theorem Gm (hG:FI G){x:Ex}(hx:okE x)(k:Int)(hGI:Ext G I)(hw:StL I w wordsL)[hs:SplitL X L F](hW:WrS b w X l){c:List Value}(hc:ExV I x c)(hn:(l++exB true x k).length≤1000000000)
  (hk:∀I' X',Ext I I'→WrS b w X' (l++exB true x k)→K (.tuple #[]) I' (X'++F)):CT ω 120 #[AY b,.agg c.toArray,.int .i64 k] K I L:=
 Cal.split X (QZ hG (DW x) x (Nat.le_refl _) hx k I X F l c K hGI hw hW hc hn hk)
theorem En (hG:FI G){x:Ex}(hx:okE x)(s:Bs)(hGI:Ext G I)(hw:StL I w wordsL)[hs:SplitL X L F](hW:WrS b w X l){c:List Value}(hc:ExV I x c)(hn:(l++EG true s x).length≤1000000000)
  (hk:∀I' X',Ext I I'→WrS b w X' (l++EG true s x)→K (.tuple #[]) I' (X'++F)):CT ω 121 #[AY b,.string ⟨s.toArray⟩,.agg c.toArray] K I L:=by
 refine Cal.split X ?_;refine ARH ?_;unfold AGz;obtain ⟨v,rfl,ha⟩:=ExV.iff.1 hc;unfold EG at hn hk;refine AV (fun bx=>?_);try simp only [SSd,Nat.reduceAdd]
 refine rdb ?_;try simp only [SSd,Nat.reduceAdd]
 refine AB (fun h=>?_) (fun h=>?_)
 ·have h:x.kind≠0:=by simpa using h
  rw [if_neg h] at hn hk;simp only [List.length_append,List.length_cons,List.length_nil] at hn;refine BP (X:=X) hW zL (fun I1 X1 hI1 hW1=>?_);refine rdB rfl ?_;refine call (Gm hG hx 1 (Ext.trans hGI hI1) (StL.mono hw hI1) hW1 (ExV.mono hI1 hc) zL (fun I2 X2 hI2 hW2=>?_));exact Gh.to (X2++F) (Gh.done (hk I2 X2 (Ext.trans hI1 hI2) (by simpa using hW2)))
 ·have h:x.kind=0:=by simpa using h
  rw [if_pos h] at hn hk;exact Gh.to (X++F) (Gh.done (hk I X (Ext.refl I) (by simpa using hW)))
theorem Uw (s:Bs)(hw:StL I w wordsL)[hs:SplitL X L F](hW:WrS b w X l)(hn:(l++asB s).length≤1000000000)
  (hk:∀I' X',Ext I I'→WrS b w X' (l++asB s)→K (.tuple #[]) I' (X'++F)):CT ω 166 #[AY b,.string ⟨s.toArray⟩] K I L:=by
 refine Cal.split X ?_;refine AQb ?_;unfold AFw;cases s with
 |nil=>
  simp only [show asB []=[] from rfl,List.append_nil] at hn hk;simp only [sNe,show (([]:Bs)==[])=true from rfl,Bool.not_true,SSd,Nat.reduceAdd];exact Gh.done (hk I X (Ext.refl I) hW)
 |cons c r=>
  have he:asB (c::r)=[32,97,115,32]++nameB (c::r):=rfl;rw [he] at hn hk;simp only [List.length_append,List.length_cons,List.length_nil] at hn;simp only [sNe,show ((c::r)==([]:Bs))=false from rfl,Bool.not_false,SSd,Nat.reduceAdd];refine BP (X:=X) hW zL (fun I1 X1 hI1 hW1=>?_);refine call (BV hW1 (StL.mono hw hI1) (c::r) zL (fun I2 X2 hI2 hW2=>?_));exact Gh.done (hk I2 X2 (Ext.trans hI1 hI2) (by simpa using hW2))
theorem JQ {xs:List Bs}{v:Value}(hxl:xs.length≤1000000000000)(hv:StL I v xs)(hw:StL I w wordsL)[hs:SplitL X L F](hW:WrS b w X l)(hn:(l++GH xs).length≤1000000000)
  (hk:∀I' X',Ext I I'→WrS b w X' (l++GH xs)→K (.tuple #[]) I' (X'++F)):CT ω 115 #[AY b,v] K I L:=by
 refine Cal.split X ?_;refine ARO ?_;unfold AHK;have he:GH xs=[40]++(Aw (xs.map nameB)++[41]):=by simp [GH]
 rw [he] at hn hk;simp only [List.length_append,List.length_cons,List.length_nil] at hn;refine BP (X:=X) hW zL (fun I1 X1 hI1 hW1=>?_);refine call (YL (g:=nameB) (F:=F) (StL.mono hv hI1) (StL.mono hw hI1) ?_ hxl hW1 zL (fun I2 X2 hI2 hW2=>?_))
 ·intro x hxm I2 X2 l2 vx K2 hI2 hw2 hW2 hvx hn2 hk2;obtain rfl:vx= .string ⟨x.toArray⟩:=by simpa using (show [vx]=_ from hvx)
  refine WP (by kernel_rfl) ?_;exact BV (X:=X2) hW2 hw2 x hn2 hk2
 ·refine BP hW2 zL (fun I3 X3 hI3 hW3=>?_);exact Gh.done (hk I3 X3 (Ext.trans hI1 (Ext.trans hI2 hI3)) (by simpa using hW3))
end
end Go.Proofs.YtkifgfanjcfedaaGreatDoor
