/- lemmas -/
import Derived.Test.YtkifgfanjcfedaaGreatDoorP6
import Derived.Test.YtkifgfanjcfedaaGreatDoorP7
import Derived.Test.YtkifgfanjcfedaaGreatDoorProg
import Derived.Shelf.Strconv.Itoa4
import Derived.Shelf.Lays
import Derived.Test.YtkifgfanjcfedaaGreatDoorP5
import Derived.Test.YtkifgfanjcfedaaGreatDoorP2
set_option maxRecDepth 100000
set_option maxHeartbeats 4000000
set_option linter.unusedVariables false
set_option linter.unusedSimpArgs false
set_option linter.unusedSectionVars false
namespace Go.Proofs.YtkifgfanjcfedaaGreatDoor
open Go.SL
theorem ADh:∀{l:Bs} {n k:Int},(∀d∈l,Az d=true)→0≤n→n≤9223372036854775807→Ij l n=some k→0≤k∧k≤9223372036854775807
 |[],n,k,_,h0,h1,h=>by simp only [Ij,Option.some.injEq] at h;subst h;exact ⟨h0,h1⟩
 |d::r,n,k,hd,h0,h1,h=>by
  have hdg:=hd d (List.mem_cons_self ..);simp only [Az,Bool.and_eq_true,decide_eq_true_eq] at hdg;have g1:(48:Nat)≤d.toNat:=hdg.1;have g2:d.toNat≤57:=hdg.2;simp only [Ij] at h;split at h
  ·cases h
  ·exact ADh (λe he=>hd e (List.mem_cons_of_mem _ he)) (by omega) (by omega) h
theorem AMX {a:Nat}:∀{l:Bs} {t:Tok} {r:Bs},Dj a l= .tok t r→AEG t
 |[],t,r,h=>by simp [Dj] at h
 |c::l,t,r,h=>by
  simp only [Dj] at h;split at h
  ·unfold Hr at h;split at h
   ·cases h
   ·simp only [LexR.tok.injEq] at h;obtain ⟨rfl,_⟩:=h;refine ⟨?_,?_,?_,?_⟩
    ·simp only;split <;> decide
    ·simp only
     intro hk;split at hk
     ·rename_i hc;exact List.contains_iff_mem.1 hc
     ·exact absurd hk (by decide)
    ·simp only;intro hk;split at hk <;> exact absurd hk (by decide)
    ·simp only;intro hk;split at hk <;> exact absurd hk (by decide)
  split at h
  ·split at h
   ·cases h
   ·rename_i k hk
    split at h
    ·cases h
    ·simp only [LexR.tok.injEq] at h;obtain ⟨rfl,_⟩:=h;exact ⟨by simp,by simp,by simp,λ_=>ADh (λd hd=>FH hd) (by omega) (by omega) hk⟩
  split at h
  ·split at h
   ·cases h
   ·split at h
    ·split at h
     ·cases h
     ·simp only [LexR.tok.injEq] at h;obtain ⟨rfl,_⟩:=h;exact ⟨by simp,by simp,by simp,by simp⟩
    ·simp only [LexR.tok.injEq] at h;obtain ⟨rfl,_⟩:=h;exact ⟨by simp,by simp,by simp,by simp⟩
  split at h
  ·cases h
  ·rename_i x hx
   simp only [LexR.tok.injEq] at h;obtain ⟨rfl,_⟩:=h;refine ⟨by simp,by simp,λ_=>?_,by simp⟩;simp only
   split
   ·decide
   ·exact List.mem_of_find?_eq_some hx
theorem TD {a:Nat}:∀{l:Bs} {e:Int},Dj a l= .bad e→e≠0
 |[],e,h=>by simp only [Dj,LexR.bad.injEq] at h;subst h;decide
 |c::l,e,h=>by
  simp only [Dj,Hr] at h;repeat' split at h
  all_goals first
   |(simp only [LexR.bad.injEq] at h;subst h;decide)
   |cases h
theorem Toks.snoc:∀{l:List Tok} {t:Tok},(∀x∈l,AEG x)→t.kind=6→Toks (l++[t])
 |[],t,_,h=>h
 |[x],t,hl,h=>⟨hl x (List.mem_cons_self ..),h⟩
 |x::y::l,t,hl,h=>⟨hl x (List.mem_cons_self ..),Toks.snoc (l:=y::l) (λz hz=>hl z (List.mem_cons_of_mem _ hz)) h⟩
theorem Ud (l:Bs):BL false (BL false l)=BL false l:=by
 have go:∀(b:Bool) (l:Bs),BL false (BL b l)=BL b l:=by
  intro b l;induction l generalizing b with
  |nil=>cases b <;> rfl
  |cons c r ih=>
   cases b with
   |true=>
    simp only [BL];split
    ·exact ih false
    ·exact ih true
   |false=>
    simp only [BL];split
    ·exact ih false
    ·rename_i h1
     split
     ·exact ih true
     ·rename_i h2
      simp only [BL,h1,h2,Bool.false_eq_true,if_false]
 exact go false l
def AGN (n f:Nat)(acc:List Tok):Bs→LexA
 |[]=>.toks (acc++[⟨6,n,[],0⟩])
 |c::r=>match Dj (n - (r.length+1)) (c::r) with
   | .bad e=>.bad ⟨e,(n - (r.length+1):Nat)⟩
   | .tok t r'=>DU n f (acc++[t]) r'
theorem Rf (n f:Nat)(acc:List Tok)(s:Bs):DU n (f+1) acc s=AGN n f acc (BL false s):=by
 rw [DU];unfold AGN;cases BL false s <;> rfl
def ABb (ω:Om)(G:Imm):Prop:=∀(K:Value→M) (I:Imm) (L:LH),Ext G I→(∀I' v,Ext I I'→StL I' v wordsL→K v I' L)→CT ω 19 #[] K I L
section
variable {ω:Om}
theorem AKu {I:Imm}{L:LH}{K:Value→M}(t:Tok)(hk:∀I' a,Ext I I'→TL I' (.slice a 1 1) [t]→Gh (K (.slice a 1 1)) I' L):
  AY 93 4 #[.int .i64 0,.int .i64 0,.string ⟨#[]⟩,.int .i64 0] 1 [(0,.agg #[.int .i64 t.kind,.int .i64 t.at',.string ⟨t.text.toArray⟩,.int .i64 t.num])] (gh K) I L:=
 FP (R:=TokV) [t] [[.int .i64 t.kind,.int .i64 t.at',.string ⟨t.text.toArray⟩,.int .i64 t.num]] rfl rfl rfl (by simp) (by simp [TokV]) (λhI h=>TokV.mono h) hk
theorem KO {G:Imm}(hW:ABb ω G):XL ω G:=by
 intro s K I L hG hs hok hbad;refine AVe ?_;unfold AUJ;refine Ac (λb1=>?_);refine call (hW _ _ _ hG (λI1 w hI1 hw=>?_));obtain ⟨aw,kw,rfl⟩:=zAG hw;try refine zqe ?_
 refine Ac (λb=>?_);have e0:Obj.cells #[.string ⟨s.toArray⟩,.int .i64 0,.slice aw wordsL.length kw] 145 (0,0)=LBo s 0 (.slice aw wordsL.length kw):=rfl;rw [e0];refine call (Uz (s:=s) (a:=0) (w:=.slice aw wordsL.length kw) (Nat.zero_le _) hs (λa0 _ h0 hd0=>?_));refine loop (λm st I2 Lx=>∃(a:Nat) (X:LH) (v:Value) (cells:List Value) (acc:List Tok) (f:Nat),a+m=s.length∧Ext I1 I2∧st=(.slice none 0 0,v,())∧Lx=X++((b,LBo s a (.slice aw wordsL.length kw))::(b1,.cells [.int .i64 0,.int .i64 0].toArray 26 (0,0))::L)∧SlO 93 4 X v cells acc.length∧Recs (TokV I2) 4 acc cells∧(∀t∈acc,AEG t)∧acc.length≤a∧s.length - a≤f∧BL false (s.drop a)=s.drop a∧Wh s=AGN s.length f acc (s.drop a)) (s.length - a0)
  ⟨a0,[],_,[],[],s.length,by omega,zAC _,rfl,rfl,SlO.none _ _,rfl,(λt h=>by cases h),by simp,by omega,by rw [hd0,Ud],by rw [hd0];exact Rf s.length s.length [] s⟩ ?_
 rintro m st I2 Lx ⟨a,X,v,cells,acc,f,hm,hI2,rfl,rfl,hX,hR,hTk,hal,hf,hsk,hlx⟩;obtain ⟨av,kv,rfl⟩:=hX.form;unfold AHF;try refine zqe ?_
 refine rdb ?_;try refine zqe ?_
 refine AB (λhb=>?_) (λhb=>?_)
 ·have ha:a < s.length:=by
   have:=of_decide_eq_true hb;omega
  obtain ⟨c,hc,hd⟩:=TY ha;have hla:s.length - ((s.drop (a+1)).length+1)=a:=by rw [List.length_drop];omega
  have hlx:Wh s=match Dj a (s.drop a) with
    | .bad e=>.bad ⟨e,(a:Nat)⟩
    | .tok t r'=>DU s.length f (acc++[t]) r':=by
   rw [hlx,hd];simp only [AGN,hla]
  refine call (AFQ (s:=s) (a:=a) (w:=.slice aw wordsL.length kw) ha hs (zAJ hw hI2) ⟨λt r ht I3 a' hI3 h1 h2 hdr=>?_,λe he=>⟨TD he,λI3 a' k x n hI3=>?_⟩⟩)
  ·rw [ht] at hlx;simp only at hlx
   repeat' (first|refine zqa ?_|refine zqh (λ_=>?_)|refine zqr ?_|refine zqb ?_|refine zqi ?_ ?_|refine zqc ?_|refine zqg (λ_=>?_) (λ_=>?_)|(simp only [SSd,Nat.reduceAdd,Et]))
   refine AKu t (λI4 a4 hI4 hw4=>zAA ?_);obtain ⟨c4,s4,r4⟩:=RL.toI (by decide) hw4;refine Ee (X:=X) rfl hX s4.news (r4.one_cells λx c h=>by rw [show c=_ from h];exact Au rfl) zL zL (λX5 w5 hX5=>?_);have e5:acc.length+[t].length=(acc++[t]).length:=by simp
   rw [e5] at hX5;have hR5:=Recs.append (Recs.imp (R':=TokV I4) (λ_ _ h=>h) hR) r4;refine call (Uz (s:=s) (a:=a') (w:=.slice aw wordsL.length kw) h2 hs (λa6 h6 h7 hd6=>?_));obtain ⟨f,rfl⟩:∃q,f=q+1:=⟨f - 1,by omega⟩;rw [←hdr,Rf,←hd6] at hlx;refine zAE (X5++((b,LBo s a6 (.slice aw wordsL.length kw))::(b1,.cells [.int .i64 0,.int .i64 0].toArray 26 (0,0))::L)) (zAA ⟨s.length - a6,by omega,a6,X5,w5,_,acc++[t],f,by omega,zAB hI2 (zAB hI3 hI4),rfl,rfl,hX5,hR5,?_,by simp;omega,by omega,by rw [hd6,Ud],hlx⟩);intro x hx;rcases List.mem_append.1 hx with hx|hx
   ·exact hTk x hx
   ·rw [List.mem_singleton.1 hx];exact AMX ht
  ·rw [he] at hlx;have hne:=TD he;repeat' (first|refine zqa ?_|refine zqh (λ_=>?_)|refine zqr ?_|refine zqb ?_|refine zqi ?_ ?_|refine zqc ?_|refine zqg (λ_=>?_) (λ_=>?_)|(simp only [SSd,Nat.reduceAdd,Et]))
   ·rename_i hz
    have hz:=hz;exact zAE L (zAA (hbad _ hlx hne I3 none 0 0 (zAB hI1 (zAB hI2 hI3))))
   ·rename_i hz
    exact absurd (by simpa using hz) hne
 ·have ha:¬a < s.length:=by
   have:=of_decide_eq_false hb;omega
  have hdn:s.drop a=[]:=List.drop_eq_nil_of_le (by omega);rw [hdn] at hlx;unfold AHE;repeat' (first|refine zqa ?_|refine zqh (λ_=>?_)|refine zqr ?_|refine zqb ?_|refine zqi ?_ ?_|refine zqc ?_|refine zqg (λ_=>?_) (λ_=>?_)|refine zqe ?_|fail)
  refine AKu (⟨6,s.length,[],0⟩:Tok) (λI4 a4 hI4 hw4=>zAA ?_);obtain ⟨c4,s4,r4⟩:=RL.toI (by decide) hw4;refine Ee (X:=X) rfl hX s4.news (r4.one_cells λx c h=>by rw [show c=_ from h];exact Au rfl) zL zL (λX5 w5 hX5=>?_);have e5:acc.length+[(⟨6,s.length,[],0⟩:Tok)].length=(acc++[(⟨6,s.length,[],0⟩:Tok)]).length:=by simp
  rw [e5] at hX5;have hR5:=Recs.append (Recs.imp (R':=TokV I4) (λ_ _ h=>h) hR) r4;obtain ⟨a5,k5,rfl⟩:=hX5.form;repeat' (first|refine zqa ?_|refine zqh (λ_=>?_)|refine zqr ?_|refine zqb ?_|refine zqi ?_ ?_|refine zqc ?_|refine zqg (λ_=>?_) (λ_=>?_)|refine zqe ?_|fail)
  refine zAE (X5++L) ?_;refine RL.ofO (R:=TokV) (λ{I I' x c} h hI=>h) hX5 hR5 (λI6 hI6 hw6=>zAA ?_);exact hok _ hlx (Toks.snoc hTk rfl) (by simp;omega) I6 _ (zAB hI1 (zAB hI2 (zAB hI4 hI6))) hw6
end
end Go.Proofs.YtkifgfanjcfedaaGreatDoor
namespace Go.Proofs
open Go.Shelf
def Tryz.lay173_ren:Go.Shelf.Ren:=⟨λ|173=>212|246=>223|283=>235|284=>236|285=>237|286=>238|129=>245|317=>244|318=>246|319=>247|320=>248|337=>256|338=>257|n=>n,λ|2=>2|3=>3|9=>9|4=>4|171=>267|0=>0|53=>268|37=>71|5=>5|173=>271|212=>275|51=>173|20=>20|213=>276|46=>252|232=>282|233=>283|n=>n,λ|17=>5|18=>6|19=>7|n=>n⟩
theorem Tryz.lay173:Go.Proofs.LaysM.n173 Tryz.prog Tryz.lay173_ren:={
 mixed:=by kernel_rfl
 f129:=Tryz.func245.trans (congrArg some (by kernel_rfl))
 f173:=Tryz.func212.trans (congrArg some (by kernel_rfl))
 f246:=Tryz.func223.trans (congrArg some (by kernel_rfl))
 f283:=Tryz.func235.trans (congrArg some (by kernel_rfl))
 f284:=Tryz.func236.trans (congrArg some (by kernel_rfl))
 f285:=Tryz.func237.trans (congrArg some (by kernel_rfl))
 f286:=Tryz.func238.trans (congrArg some (by kernel_rfl))
 f317:=Tryz.func244.trans (congrArg some (by kernel_rfl))
 f318:=Tryz.func246.trans (congrArg some (by kernel_rfl))
 f319:=Tryz.func247.trans (congrArg some (by kernel_rfl))
 f320:=Tryz.func248.trans (congrArg some (by kernel_rfl))
 f337:=Tryz.func256.trans (congrArg some (by kernel_rfl))
 f338:=Tryz.func257.trans (congrArg some (by kernel_rfl))
 t0:=Tryz.underlying0
 a0:=Tryz.isAgg0
 z0:=Tryz.sizeOf0
 v0:=Tryz.zeroValue0
 t2:=Tryz.underlying2
 a2:=Tryz.isAgg2
 z2:=Tryz.sizeOf2
 v2:=Tryz.zeroValue2
 t3:=Tryz.underlying3
 a3:=Tryz.isAgg3
 z3:=Tryz.sizeOf3
 v3:=Tryz.zeroValue3
 t4:=Tryz.underlying4
 a4:=Tryz.isAgg4
 z4:=Tryz.sizeOf4
 v4:=Tryz.zeroValue4
 t5:=Tryz.underlying5
 a5:=Tryz.isAgg5
 z5:=Tryz.sizeOf5
 v5:=Tryz.zeroValue5
 t9:=Tryz.underlying9
 a9:=Tryz.isAgg9
 z9:=Tryz.sizeOf9
 v9:=Tryz.zeroValue9
 t20:=Tryz.underlying20
 a20:=Tryz.isAgg20
 z20:=Tryz.sizeOf20
 v20:=Tryz.zeroValue20
 t37:=Tryz.underlying71
 a37:=Tryz.isAgg71
 z37:=Tryz.sizeOf71
 v37:=Tryz.zeroValue71
 t46:=Tryz.underlying252
 a46:=Tryz.isAgg252
 z46:=Tryz.sizeOf252
 v46:=Tryz.zeroValue252
 t51:=Tryz.underlying173
 a51:=Tryz.isAgg173
 z51:=Tryz.sizeOf173
 v51:=Tryz.zeroValue173
 t53:=Tryz.underlying268
 a53:=Tryz.isAgg268
 z53:=Tryz.sizeOf268
 v53:=Tryz.zeroValue268
 t171:=Tryz.underlying267
 a171:=Tryz.isAgg267
 z171:=Tryz.sizeOf267
 v171:=Tryz.zeroValue267
 t173:=Tryz.underlying271
 a173:=Tryz.isAgg271
 z173:=Tryz.sizeOf271
 v173:=Tryz.zeroValue271
 t212:=Tryz.underlying275
 a212:=Tryz.isAgg275
 z212:=Tryz.sizeOf275
 v212:=Tryz.zeroValue275
 t213:=Tryz.underlying276
 a213:=Tryz.isAgg276
 z213:=Tryz.sizeOf276
 t232:=Tryz.underlying282
 a232:=Tryz.isAgg282
 z232:=Tryz.sizeOf282
 v232:=Tryz.zeroValue282
 t233:=Tryz.underlying283
 a233:=Tryz.isAgg283
 z233:=Tryz.sizeOf283
 v233:=Tryz.zeroValue283
 g17:=by kernel_rfl
 g18:=by kernel_rfl
 g19:=by kernel_rfl
 i0:=by kernel_rfl
 i2:=by kernel_rfl
 i3:=by kernel_rfl
 i4:=by kernel_rfl
 i5:=by kernel_rfl
 i9:=by kernel_rfl
 i20:=by kernel_rfl
 i37:=by kernel_rfl
 i46:=by kernel_rfl
 i51:=by kernel_rfl
 i53:=by kernel_rfl
 i171:=by kernel_rfl
 i173:=by kernel_rfl
 i212:=by kernel_rfl
 i232:=by kernel_rfl
 i233:=by kernel_rfl
 m17:=by kernel_rfl
 m18:=by kernel_rfl
 m19:=by kernel_rfl}
def Tryz.lay171_ren:Go.Shelf.Ren:=⟨λ|171=>171|243=>208|246=>223|283=>235|284=>236|285=>237|286=>238|129=>245|317=>244|318=>246|319=>247|320=>248|337=>256|338=>257|n=>n,λ|3=>3|9=>9|2=>2|4=>4|171=>267|0=>0|53=>268|37=>71|5=>5|173=>271|212=>275|51=>173|20=>20|213=>276|46=>252|232=>282|233=>283|n=>n,λ|17=>5|18=>6|19=>7|n=>n⟩
theorem Tryz.lay171:Go.Proofs.LaysM.n171 Tryz.prog Tryz.lay171_ren:={
 mixed:=by kernel_rfl
 f129:=Tryz.func245.trans (congrArg some (by kernel_rfl))
 f171:=Tryz.func171.trans (congrArg some (by kernel_rfl))
 f243:=Tryz.func208.trans (congrArg some (by kernel_rfl))
 f246:=Tryz.func223.trans (congrArg some (by kernel_rfl))
 f283:=Tryz.func235.trans (congrArg some (by kernel_rfl))
 f284:=Tryz.func236.trans (congrArg some (by kernel_rfl))
 f285:=Tryz.func237.trans (congrArg some (by kernel_rfl))
 f286:=Tryz.func238.trans (congrArg some (by kernel_rfl))
 f317:=Tryz.func244.trans (congrArg some (by kernel_rfl))
 f318:=Tryz.func246.trans (congrArg some (by kernel_rfl))
 f319:=Tryz.func247.trans (congrArg some (by kernel_rfl))
 f320:=Tryz.func248.trans (congrArg some (by kernel_rfl))
 f337:=Tryz.func256.trans (congrArg some (by kernel_rfl))
 f338:=Tryz.func257.trans (congrArg some (by kernel_rfl))
 t0:=Tryz.underlying0
 a0:=Tryz.isAgg0
 z0:=Tryz.sizeOf0
 v0:=Tryz.zeroValue0
 t2:=Tryz.underlying2
 a2:=Tryz.isAgg2
 z2:=Tryz.sizeOf2
 v2:=Tryz.zeroValue2
 t3:=Tryz.underlying3
 a3:=Tryz.isAgg3
 z3:=Tryz.sizeOf3
 v3:=Tryz.zeroValue3
 t4:=Tryz.underlying4
 a4:=Tryz.isAgg4
 z4:=Tryz.sizeOf4
 v4:=Tryz.zeroValue4
 t5:=Tryz.underlying5
 a5:=Tryz.isAgg5
 z5:=Tryz.sizeOf5
 v5:=Tryz.zeroValue5
 t9:=Tryz.underlying9
 a9:=Tryz.isAgg9
 z9:=Tryz.sizeOf9
 v9:=Tryz.zeroValue9
 t20:=Tryz.underlying20
 a20:=Tryz.isAgg20
 z20:=Tryz.sizeOf20
 v20:=Tryz.zeroValue20
 t37:=Tryz.underlying71
 a37:=Tryz.isAgg71
 z37:=Tryz.sizeOf71
 v37:=Tryz.zeroValue71
 t46:=Tryz.underlying252
 a46:=Tryz.isAgg252
 z46:=Tryz.sizeOf252
 v46:=Tryz.zeroValue252
 t51:=Tryz.underlying173
 a51:=Tryz.isAgg173
 z51:=Tryz.sizeOf173
 v51:=Tryz.zeroValue173
 t53:=Tryz.underlying268
 a53:=Tryz.isAgg268
 z53:=Tryz.sizeOf268
 v53:=Tryz.zeroValue268
 t171:=Tryz.underlying267
 a171:=Tryz.isAgg267
 z171:=Tryz.sizeOf267
 v171:=Tryz.zeroValue267
 t173:=Tryz.underlying271
 a173:=Tryz.isAgg271
 z173:=Tryz.sizeOf271
 v173:=Tryz.zeroValue271
 t212:=Tryz.underlying275
 a212:=Tryz.isAgg275
 z212:=Tryz.sizeOf275
 v212:=Tryz.zeroValue275
 t213:=Tryz.underlying276
 a213:=Tryz.isAgg276
 z213:=Tryz.sizeOf276
 t232:=Tryz.underlying282
 a232:=Tryz.isAgg282
 z232:=Tryz.sizeOf282
 v232:=Tryz.zeroValue282
 t233:=Tryz.underlying283
 a233:=Tryz.isAgg283
 z233:=Tryz.sizeOf283
 v233:=Tryz.zeroValue283
 g17:=by kernel_rfl
 g18:=by kernel_rfl
 g19:=by kernel_rfl
 i0:=by kernel_rfl
 i2:=by kernel_rfl
 i3:=by kernel_rfl
 i4:=by kernel_rfl
 i5:=by kernel_rfl
 i9:=by kernel_rfl
 i20:=by kernel_rfl
 i37:=by kernel_rfl
 i46:=by kernel_rfl
 i51:=by kernel_rfl
 i53:=by kernel_rfl
 i171:=by kernel_rfl
 i173:=by kernel_rfl
 i212:=by kernel_rfl
 i232:=by kernel_rfl
 i233:=by kernel_rfl
 m17:=by kernel_rfl
 m18:=by kernel_rfl
 m19:=by kernel_rfl}
end Go.Proofs
namespace Go.Proofs.YtkifgfanjcfedaaGreatDoor
open Go.SL
def GN (G : Imm) : Prop := ∃ g T fr, Tryz.prog.globalNamed "internal/strconv.uint64pow10" = some g ∧ G g = some (.cells (Lib.pow10Tab.map λz => Value.int .u64 z).toArray T fr)
theorem Td:∀(f n:Nat) (acc:Bs),n < f→PD f n acc=Lib.decDigits n++acc
 |0,n,acc,h=>by omega
 |f+1,n,acc,h=>by
  rw [PD,Lib.decDigits];split
  ·rfl
  ·rw [Td f (n / 10) _ (by omega),List.append_assoc];rfl
theorem VR (n:Int):IW true n=Lib.itoa n:=by
 unfold IW Lib.itoa;split
 ·simp only [if_true];rw [Td _ _ _ (by omega),List.append_nil]
 ·rw [Td _ _ _ (by omega),List.append_nil]
section
variable {ω:Om}{I:Imm}{L:LH}{K:Value→M}
theorem St.grows {w:World}{k:Nat}{os:Array Obj}(hs:St ω w I L):St ω (Sort.grow (w.drewN k) os) I L:=by
 have hd:St ω (w.drewN k) I L:=hs.drew (Nat.le_add_right _ _);refine ⟨λb o hb=>?_,λb o hb=>?_,hd.nodup,hd.apart,hd.tape,hd.os,hd.out,hd.dr⟩
 ·have:=hd.imm b o hb;show ((w.drewN k).heap++os)[b]? =some o;rw [Array.getElem?_append_left (Array.getElem?_eq_some_iff.1 this).1];exact this
 ·have:=hd.own b o hb;show ((w.drewN k).heap++os)[b]? =some o;rw [Array.getElem?_append_left (Array.getElem?_eq_some_iff.1 this).1];exact this
theorem ADa {G : Imm}{w : World}(hG : GN G)(hI : Ext G I)(hs : St ω w I L) : Lib.TabIs Tryz.prog w "internal/strconv.uint64pow10" .u64 Lib.pow10Tab := by
 obtain ⟨g,T,fr,h1,h2⟩:=hG;unfold Lib.TabIs World.var?;rw [h1];have:=hs.imm g _ (hI g _ h2);simp only [Option.bind_some,this]
theorem TM {G:Imm}(hG:GN G)(hI:Ext G I)(n:Int)(h0: -9223372036854775808≤n)(h1:n≤9223372036854775807)(hk:K (.string ⟨(IW true n).toArray⟩) I L):CT ω 212 #[.int .i64 n,.int .i64 10] K I L:=λw hs=>by
 have h:=Go.Proofs.Any.strconv_FormatInt_10 Go.Proofs.Tryz.lay173 n h0 h1 w (ADa hG hI hs);refine Calls.mono h ?_;rintro e w' ⟨rfl,k,os,rfl⟩;rw [VR] at hk;exact ⟨_,I,L,rfl,St.grows hs,hk⟩
theorem VI {G:Imm}(hG:GN G)(hI:Ext G I)(n:Int)(h0: -9223372036854775808≤n)(h1:n≤9223372036854775807)(hk:K (.string ⟨(IW true n).toArray⟩) I L):CT ω 171 #[.int .i64 n] K I L:=λw hs=>by
 have h:=Go.Proofs.Any.strconv_Itoa Go.Proofs.Tryz.lay171 n h0 h1 w (ADa hG hI hs);refine Calls.mono h ?_;rintro e w' ⟨rfl,k,os,rfl⟩;rw [VR] at hk;exact ⟨_,I,L,rfl,St.grows hs,hk⟩
end
def okc (c:UInt8):Bool:=(BN c||Az c)&& !(65≤c&&c≤90)
theorem WW (c:UInt8):okc c=((BN c||Az c)&&(decide ((c.toNat:Int) < 65)||decide ((90:Int) < c.toNat))):=by
 have:=MR (p:=λc=>okc c==((BN c||Az c)&&(decide ((c.toNat:Int) < 65)||decide ((90:Int) < c.toNat)))) (by decide+kernel) c;exact eq_of_beq this
theorem AFI (s:Bs):Jk s=((!s.isEmpty&&(!s.head?.any Az&& !wordsL.contains s))&&s.all okc):=by
 unfold Jk okc;simp only [Bool.and_assoc]
theorem UJ {p:UInt8→Bool}{s:Bs}{i:Nat}(h:i < s.length):(s.take (i+1)).all p=((s.take i).all p&&p s[i]):=by
 rw [List.take_succ_eq_append_getElem h,List.all_append];simp
theorem AAx {ω:Om}{I:Imm}{L:LH}{K:Value→M}{s:Bs}{pl:Bool}{p0:Value}(hs:s.length≤1000000000)(hk:Ip ω p0 (.string ⟨s.toArray⟩) (.bool (pl&&s.all okc)) (λv=>Gh (K v)) I L):
  Am ((.bool pl,.int .i64 0,()):Value×Value×Unit) (λst Kn=>WF ω p0 (.string ⟨s.toArray⟩) (.int .i64 s.length) st.1 st.2.1 Kn (λv=>Gh (K v))) I L:=by
 refine loop (λq st I' L'=>∃i:Nat,i+q=s.length∧st=(Value.bool (pl&&(s.take i).all okc),Value.int .i64 (i:Nat),())∧I'=I∧L'=L) s.length ⟨0,by omega,by simp,rfl,rfl⟩ ?_;rintro q st I' L' ⟨i,hq,rfl,rfl,rfl⟩;unfold WF;try refine zqe ?_
 refine AB (λhb=>?_) (λhb=>?_)
 ·have hb:i < s.length:=by
   have:=of_decide_eq_true hb;omega
  have hc:s[i]? =some s[i]:=List.getElem?_eq_getElem hb;have hat:=UJ (p:=okc) hb;rw [WW] at hat;generalize s[i]=c at hc hat;generalize (s.take i).all okc=tk at hat ⊢;repeat' (first|refine zqa ?_|refine zqh (λ_=>?_)|((with_reducible refine call ?_);with_reducible refine Fe c ?_)|((with_reducible refine call ?_);with_reducible refine FY c ?_)|refine zqr ?_|refine zqb ?_|refine zqi ?_ ?_|refine zqc ?_|refine zqg (λ_=>?_) (λ_=>?_)|(simp only [SSd,Nat.reduceAdd,ixS s hc,wrap_i64 ((i:Int)+1) (by omega)]))
  all_goals (refine zAA ⟨q - 1,by omega,i+1,by omega,?_,rfl,rfl⟩;rw [hat];clear hk hat;simp_all;try omega)
 ·have hb:¬i < s.length:=by
   have:=of_decide_eq_false hb;omega
  rw [List.take_of_length_le (by omega)];exact hk
theorem AAw {ω:Om}{I:Imm}{L:LH}{K:Value→M}{s:Bs}{pl:Bool}{p0:Value}(hs:s.length≤1000000000)(hk:Ip ω p0 (.string ⟨s.toArray⟩) (.bool (pl&&s.all okc)) (λv=>Gh (K v)) I L):
  Am ((.bool pl,.int .i64 0,()):Value×Value×Unit) (λst Kn=>WE ω p0 (.string ⟨s.toArray⟩) (.int .i64 s.length) st.1 st.2.1 Kn (λv=>Gh (K v))) I L:=by
 refine loop (λq st I' L'=>∃i:Nat,i+q=s.length∧st=(Value.bool (pl&&(s.take i).all okc),Value.int .i64 (i:Nat),())∧I'=I∧L'=L) s.length ⟨0,by omega,by simp,rfl,rfl⟩ ?_;rintro q st I' L' ⟨i,hq,rfl,rfl,rfl⟩;unfold WE;try refine zqe ?_
 refine AB (λhb=>?_) (λhb=>?_)
 ·have hb:i < s.length:=by
   have:=of_decide_eq_true hb;omega
  have hc:s[i]? =some s[i]:=List.getElem?_eq_getElem hb;have hat:=UJ (p:=okc) hb;rw [WW] at hat;generalize s[i]=c at hc hat;generalize (s.take i).all okc=tk at hat ⊢;repeat' (first|refine zqa ?_|refine zqh (λ_=>?_)|((with_reducible refine call ?_);with_reducible refine Fe c ?_)|((with_reducible refine call ?_);with_reducible refine FY c ?_)|refine zqr ?_|refine zqb ?_|refine zqi ?_ ?_|refine zqc ?_|refine zqg (λ_=>?_) (λ_=>?_)|(simp only [SSd,Nat.reduceAdd,ixS s hc,wrap_i64 ((i:Int)+1) (by omega)]))
  all_goals (refine zAA ⟨q - 1,by omega,i+1,by omega,?_,rfl,rfl⟩;rw [hat];clear hk hat;simp_all;try omega)
 ·have hb:¬i < s.length:=by
   have:=of_decide_eq_false hb;omega
  rw [List.take_of_length_le (by omega)];exact hk
theorem AAv {ω:Om}{I:Imm}{L:LH}{K:Value→M}{s:Bs}{pl:Bool}{p0:Value}(hs:s.length≤1000000000)(hk:Ip ω p0 (.string ⟨s.toArray⟩) (.bool (pl&&s.all okc)) (λv=>Gh (K v)) I L):
  Am ((.bool pl,.int .i64 0,()):Value×Value×Unit) (λst Kn=>WC ω p0 (.string ⟨s.toArray⟩) (.int .i64 s.length) st.1 st.2.1 Kn (λv=>Gh (K v))) I L:=by
 refine loop (λq st I' L'=>∃i:Nat,i+q=s.length∧st=(Value.bool (pl&&(s.take i).all okc),Value.int .i64 (i:Nat),())∧I'=I∧L'=L) s.length ⟨0,by omega,by simp,rfl,rfl⟩ ?_;rintro q st I' L' ⟨i,hq,rfl,rfl,rfl⟩;unfold WC;try refine zqe ?_
 refine AB (λhb=>?_) (λhb=>?_)
 ·have hb:i < s.length:=by
   have:=of_decide_eq_true hb;omega
  have hc:s[i]? =some s[i]:=List.getElem?_eq_getElem hb;have hat:=UJ (p:=okc) hb;rw [WW] at hat;generalize s[i]=c at hc hat;generalize (s.take i).all okc=tk at hat ⊢;repeat' (first|refine zqa ?_|refine zqh (λ_=>?_)|((with_reducible refine call ?_);with_reducible refine Fe c ?_)|((with_reducible refine call ?_);with_reducible refine FY c ?_)|refine zqr ?_|refine zqb ?_|refine zqi ?_ ?_|refine zqc ?_|refine zqg (λ_=>?_) (λ_=>?_)|(simp only [SSd,Nat.reduceAdd,ixS s hc,wrap_i64 ((i:Int)+1) (by omega)]))
  all_goals (refine zAA ⟨q - 1,by omega,i+1,by omega,?_,rfl,rfl⟩;rw [hat];clear hk hat;simp_all;try omega)
 ·have hb:¬i < s.length:=by
   have:=of_decide_eq_false hb;omega
  rw [List.take_of_length_le (by omega)];exact hk
section
variable {ω:Om}{I:Imm}{L F:LH}{K:Value→M}{b:Nat}{w:Value}{X:LH}{l:Bs}
theorem AJA (s:Bs):s.length≤(nameB s).length:=by
 unfold nameB;split
 ·exact Nat.le_refl _
 ·show s.length≤(FV 34 s).length;have:=XB 34 s;have h:FV 34 s=[34]++(Eg 34 s++[34]):=rfl;rw [h];simp only [List.length_append];omega
theorem BX [hs:SplitL X L F](hW:WrS b w X l)(hw:StL I w wordsL)(s:Bs)(hn:(l++nameB s).length≤1000000000)(hk:∀I' X',Ext I I'→WrS b w X' (l++nameB s)→K (.tuple #[]) I' (X'++F)):
  CT ω 114 #[AP b,.string ⟨s.toArray⟩] K I L:=by
 have hsl:s.length≤1000000000:=by have:=AJA s;rw [List.length_append] at hn;omega
 refine zAQ X ?_;refine ASx ?_;unfold AOp;have fin:∀pl:Bool,(pl&&s.all okc)=Jk s→Ip ω (AP b) (.string ⟨s.toArray⟩) (.bool (pl&&s.all okc)) (λv=>Gh (K v)) I (X++F):=by
  intro pl hpl;rw [hpl];unfold Ip;unfold nameB at hn hk;cases hp:Jk s with
  |true=>
   rw [hp] at hn hk;try refine zqe ?_
   refine BP hW (by simpa using hn) (λI' X' hI' hW'=>zAA (hk I' X' hI' (by simpa using hW')))
  |false=>
   rw [hp] at hn hk;try refine zqe ?_
   refine call (SN hW s 34 (by simpa using hn) (λI' X' hI' hW'=>zAA (hk I' X' hI' (by simpa using hW'))))
 have hpe:=AFI s;cases s with
 |nil=>
  have e0:((([]:Bs)==[])=true):=rfl;simp only [sNe,WP,e0,Bool.not_true,SSd,Nat.reduceAdd];exact AAv hsl (fin false (by rw [hpe];rfl))
 |cons c r=>
  have e0:((c::r)==([]:Bs))=false:=rfl;have hc0:(c::r)[0]? =some c:=rfl;simp only [sNe,WP,e0,Bool.not_false,show (.int .i64 0:Value)= .int .i64 ((0:Nat):Int) from rfl,ixS (c::r) hc0,SSd,Nat.reduceAdd];refine call (FY c ?_);simp only [List.isEmpty_cons,List.head?_cons,Option.any_some,Bool.not_false,Bool.true_and] at hpe;cases hd:Az c with
  |true=>
   rw [hd] at hpe;simp only [SSd,Nat.reduceAdd,WP];exact AAw hsl (fin false (by rw [hpe];rfl))
  |false=>
   rw [hd] at hpe;obtain ⟨p,v,X0,hp,hX,rfl⟩:=hW;simp only [List.append_assoc,List.cons_append,List.nil_append,SSd,Nat.reduceAdd] at fin ⊢;refine rdb ?_;refine call (MP hw (by decide) (c::r) ?_);simp only [SSd,Nat.reduceAdd,WP];exact AAx hsl (fin _ (by rw [hpe];rfl))
def AGj (k:Int):Option Value:=(CQ k).map λx=>.agg #[.string ⟨x.1.toArray⟩,.int .i64 x.2]
theorem ALi:Ey (Ey (Ey (Ey (Ey (Ey (Ey (Ey (Ey (Ey (Ey (Ey (Ey (Ey (Ey ((λ_=>none)) 22 (some (.agg #[.string ⟨[111,114].toArray⟩,.int .i64 1]))) 21 (some (.agg #[.string ⟨[97,110,100].toArray⟩,.int .i64 2]))) 23 (some (.agg #[.string ⟨[108,105,107,101].toArray⟩,.int .i64 4]))) 15 (some (.agg #[.string ⟨[61].toArray⟩,.int .i64 4]))) 16 (some (.agg #[.string ⟨[60,62].toArray⟩,.int .i64 4]))) 17 (some (.agg #[.string ⟨[60].toArray⟩,.int .i64 4]))) 18 (some (.agg #[.string ⟨[60,61].toArray⟩,.int .i64 4]))) 19 (some (.agg #[.string ⟨[62].toArray⟩,.int .i64 4]))) 20 (some (.agg #[.string ⟨[62,61].toArray⟩,.int .i64 4]))) 9 (some (.agg #[.string ⟨[43].toArray⟩,.int .i64 5]))) 10 (some (.agg #[.string ⟨[45].toArray⟩,.int .i64 5]))) 14 (some (.agg #[.string ⟨[124,124].toArray⟩,.int .i64 5]))) 11 (some (.agg #[.string ⟨[42].toArray⟩,.int .i64 6]))) 12 (some (.agg #[.string ⟨[47].toArray⟩,.int .i64 6]))) 13 (some (.agg #[.string ⟨[37].toArray⟩,.int .i64 6]))=AGj:=by
 funext k
 simp only [Ey,AGj,CQ];by_cases h22:k=22
 ·subst h22;rfl
 by_cases h21:k=21
 ·subst h21;rfl
 by_cases h23:k=23
 ·subst h23;rfl
 by_cases h15:k=15
 ·subst h15;rfl
 by_cases h16:k=16
 ·subst h16;rfl
 by_cases h17:k=17
 ·subst h17;rfl
 by_cases h18:k=18
 ·subst h18;rfl
 by_cases h19:k=19
 ·subst h19;rfl
 by_cases h20:k=20
 ·subst h20;rfl
 by_cases h9:k=9
 ·subst h9;rfl
 by_cases h10:k=10
 ·subst h10;rfl
 by_cases h14:k=14
 ·subst h14;rfl
 by_cases h11:k=11
 ·subst h11;rfl
 by_cases h12:k=12
 ·subst h12;rfl
 by_cases h13:k=13
 ·subst h13;rfl
 simp only [h22,h21,h23,h15,h16,h17,h18,h19,h20,h9,h10,h14,h11,h12,h13,if_false];rfl
theorem ES (s:Bs)(n:Int):Ar Zc #[(0,1),(1,1)] [(0,.string ⟨s.toArray⟩),(1,.int .i64 n)]=some (.agg #[.string ⟨s.toArray⟩,.int .i64 n]):=rfl
theorem Gx (hk:∀bm es clock,MapSi es clock AGj→K (.map (some bm)) I ((bm,.map es clock)::L)):CT ω 176 #[] K I L:=by
 refine ASD ?_;unfold AOE;refine AIx (λbm=>?_);obtain ⟨es0,c0,e0,p0⟩:=MapSi.empty.put 22 (.agg #[.string ⟨[111,114].toArray⟩,.int .i64 1]);obtain ⟨es1,c1,e1,p1⟩:=p0.put 21 (.agg #[.string ⟨[97,110,100].toArray⟩,.int .i64 2]);obtain ⟨es2,c2,e2,p2⟩:=p1.put 23 (.agg #[.string ⟨[108,105,107,101].toArray⟩,.int .i64 4]);obtain ⟨es3,c3,e3,p3⟩:=p2.put 15 (.agg #[.string ⟨[61].toArray⟩,.int .i64 4]);obtain ⟨es4,c4,e4,p4⟩:=p3.put 16 (.agg #[.string ⟨[60,62].toArray⟩,.int .i64 4]);obtain ⟨es5,c5,e5,p5⟩:=p4.put 17 (.agg #[.string ⟨[60].toArray⟩,.int .i64 4]);obtain ⟨es6,c6,e6,p6⟩:=p5.put 18 (.agg #[.string ⟨[60,61].toArray⟩,.int .i64 4]);obtain ⟨es7,c7,e7,p7⟩:=p6.put 19 (.agg #[.string ⟨[62].toArray⟩,.int .i64 4]);obtain ⟨es8,c8,e8,p8⟩:=p7.put 20 (.agg #[.string ⟨[62,61].toArray⟩,.int .i64 4]);obtain ⟨es9,c9,e9,p9⟩:=p8.put 9 (.agg #[.string ⟨[43].toArray⟩,.int .i64 5]);obtain ⟨es10,c10,e10,p10⟩:=p9.put 10 (.agg #[.string ⟨[45].toArray⟩,.int .i64 5]);obtain ⟨es11,c11,e11,p11⟩:=p10.put 14 (.agg #[.string ⟨[124,124].toArray⟩,.int .i64 5]);obtain ⟨es12,c12,e12,p12⟩:=p11.put 11 (.agg #[.string ⟨[42].toArray⟩,.int .i64 6]);obtain ⟨es13,c13,e13,p13⟩:=p12.put 12 (.agg #[.string ⟨[47].toArray⟩,.int .i64 6]);obtain ⟨es14,c14,e14,p14⟩:=p13.put 13 (.agg #[.string ⟨[37].toArray⟩,.int .i64 6]);rw [ALi] at p14;refine zAA ?_;simp only [ES,Dz];refine GR (k:=22) MapSi.empty e0 ?_;refine zAA ?_;simp only [ES,Dz];refine GR (k:=21) p0 e1 ?_;refine zAA ?_;simp only [ES,Dz]
 refine GR (k:=23) p1 e2 ?_;refine zAA ?_;simp only [ES,Dz];refine GR (k:=15) p2 e3 ?_;refine zAA ?_;simp only [ES,Dz];refine GR (k:=16) p3 e4 ?_;refine zAA ?_;simp only [ES,Dz];refine GR (k:=17) p4 e5 ?_;refine zAA ?_;simp only [ES,Dz];refine GR (k:=18) p5 e6 ?_;refine zAA ?_;simp only [ES,Dz];refine GR (k:=19) p6 e7 ?_;refine zAA ?_;simp only [ES,Dz];refine GR (k:=20) p7 e8 ?_;refine zAA ?_;simp only [ES,Dz];refine GR (k:=9) p8 e9 ?_;refine zAA ?_;simp only [ES,Dz];refine GR (k:=10) p9 e10 ?_;refine zAA ?_;simp only [ES,Dz];refine GR (k:=14) p10 e11 ?_;refine zAA ?_;simp only [ES,Dz];refine GR (k:=11) p11 e12 ?_;refine zAA ?_;simp only [ES,Dz];refine GR (k:=12) p12 e13 ?_;refine zAA ?_;simp only [ES,Dz];refine GR (k:=13) p13 e14 ?_;refine zAA ?_;exact zAA (hk bm _ _ p14)
theorem IL {k:Int}{es:Array MapEntry}{clock bm:Nat}{K:Value→M}[hin:InL bm L (.map es clock)](h:MapSi es clock AGj)(hy:∀s n,CQ k=some (s,n)→K (.tuple #[.agg #[.string ⟨s.toArray⟩,.int .i64 n],.bool true]) I L)(hn:CQ k=none→K (.tuple #[.agg #[.string (ByteArray.mk #[]),.int .i64 0],.bool false]) I L):
  Rv none (lkR (.int .i64) (.agg #[.string (ByteArray.mk #[]),.int .i64 0]) true (.map (some bm)) (.int .i64 k)) K I L:=by
 refine AUf (k:=k) h ?_;unfold AGj;cases hs:CQ k with
 |none=>exact hn hs
 |some x=>exact hy x.1 x.2 hs
theorem ABA (k : Int) (hk : K (.int .i64 (Wi k)) I L) : CT ω 175 #[.int .i64 k] K I L := by
  refine ASE ?_
  unfold AOF
  unfold Wi at hk
  try simp only [SSd, Nat.reduceAdd]
  refine AB (λh => ?_) (λh => ?_)
  · have h : k = 5 := by simpa using h
    rw [if_pos h] at hk; exact zAA hk
  have h5 : k ≠ 5 := by simpa using h
  rw [if_neg h5] at hk
  have rest : ∀ q : Bool, q = decide (k = 6 ∨ k = 7 ∨ k = 24 ∨ k = 25) → LX ω (.int .i64 k) (.int .i64 0) (.int .i64 k) (.bool q) (λv => Gh (K v)) I L := by
    rintro q hq
    unfold LX
    refine AB (λh => ?_) (λh => ?_)
    · rw [h] at hq
      rw [if_pos (of_decide_eq_true hq.symm)] at hk; exact zAA hk
    rw [h] at hq
    rw [if_neg (of_decide_eq_false hq.symm)] at hk
    try simp only [SSd, Nat.reduceAdd]
    refine AB (λh => ?_) (λh => ?_)
    · have h : k = 4 := by simpa using h
      rw [if_pos h] at hk; exact zAA hk
    have h4 : k ≠ 4 := by simpa using h
    rw [if_neg h4] at hk
    refine call (Gx (λbm es clock hm => ?_))
    refine IL hm (λs n hs => ?_) (λhs => ?_)
    · rw [hs] at hk
      try simp only [SSd, Nat.reduceAdd]
      refine Ac (λbs => ?_)
      refine stB rfl rfl (Au rfl) ?_
      try simp only [SSd, Nat.reduceAdd]
      refine rdb ?_
      exact zAE L (zAA hk)
    · rw [hs] at hk
      try simp only [SSd, Nat.reduceAdd]
      refine Ac (λbs => ?_)
      refine stB rfl rfl (Au rfl) ?_
      try simp only [SSd, Nat.reduceAdd]
      exact zAE L (zAA hk)
  refine AB (λh => ?_) (λh => ?_)
  · have h : k = 6 := by simpa using h
    rw [show ((k == 6) = true) by simpa using h]
    exact rest true (by simp [h])
  have h6 : k ≠ 6 := by simpa using h
  try simp only [SSd, Nat.reduceAdd]
  refine AB (λh => ?_) (λh => ?_)
  · have h : k = 7 := by simpa using h
    rw [show ((k == 7) = true) by simpa using h]
    exact rest true (by simp [h])
  have h7 : k ≠ 7 := by simpa using h
  try simp only [SSd, Nat.reduceAdd]
  refine AB (λh => ?_) (λh => ?_)
  · have h : k = 24 := by simpa using h
    rw [show ((k == 24) = true) by simpa using h]
    exact rest true (by simp [h])
  have h24 : k ≠ 24 := by simpa using h
  try simp only [SSd, Nat.reduceAdd]
  refine rest _ ?_
  simp only [h6, h7, h24, false_or]
  cases h25 : (k == 25) with
  | true => have : k = 25 := by simpa using h25
            simp [this]
  | false => have : k ≠ 25 := by simpa using h25
             simp [this]
def okI (n:Int):Prop:= -9223372036854775808≤n∧n≤9223372036854775807
theorem RY {G:Imm}(hG:GN G)(hGI:Ext G I)[hs:SplitL X L F](hW:WrS b w X l)(x:TValue)(hx:okI x.fInt)(hn:(l++RZ true x).length≤1000000000)(hk:∀I' X',Ext I I'→WrS b w X' (l++RZ true x)→K (.tuple #[]) I' (X'++F)):
  CT ω 178 #[AP b,.agg #[.int .i64 x.fType,.bool x.fNull,.int .i64 x.fInt,.string ⟨x.fText.toArray⟩]] K I L:=by
 refine zAQ X ?_;refine ASB ?_;unfold AOC;refine Ac (λbv=>?_);unfold RZ at hn hk;try refine zqe ?_
 refine rdb ?_;refine AB (λh=>?_) (λh=>?_)
 ·rw [if_pos h] at hn hk;refine BP hW hn (λI' X' hI' hW'=>zAE (X'++F) (zAA (hk I' X' hI' hW')))
 rw [if_neg (by simp [h])] at hn hk;try refine zqe ?_
 refine rdb ?_;try refine zqe ?_
 refine AB (λh=>?_) (λh=>?_)
 ·have h:x.fType=3:=by simpa using h
  rw [if_pos h] at hn hk;try refine zqe ?_
  refine rdb ?_;refine call (SN hW x.fText 39 hn (λI' X' hI' hW'=>zAE (X'++F) (zAA (hk I' X' hI' hW'))))
 have h:x.fType≠3:=by simpa using h
 rw [if_neg h] at hn hk;try refine zqe ?_
 refine rdb ?_;try refine zqe ?_
 refine AB (λh=>?_) (λh=>?_)
 ·have h:x.fType=2:=by simpa using h
  rw [if_pos h] at hn hk;try refine zqe ?_
  refine rdb ?_;try refine zqe ?_
  refine call ?_;refine ARe ?_;unfold ANj;refine call ?_;refine ARX ?_;unfold ANd;refine AB (λh1=>?_) (λh1=>?_)
  ·have h1:x.fInt=1:=by simpa using h1
   rw [if_pos h1] at hn hk;refine zAA (zAA ?_);refine BP hW hn (λI' X' hI' hW'=>zAE (X'++F) (zAA (hk I' X' hI' hW')))
  ·have h1:x.fInt≠1:=by simpa using h1
   rw [if_neg h1] at hn hk;refine zAA (zAA ?_);refine BP hW hn (λI' X' hI' hW'=>zAE (X'++F) (zAA (hk I' X' hI' hW')))
 have h:x.fType≠2:=by simpa using h
 rw [if_neg h] at hn hk;try refine zqe ?_
 refine rdb ?_;refine call (TM hG hGI _ hx.1 hx.2 ?_);refine BP hW hn (λI' X' hI' hW'=>zAE (X'++F) (zAA (hk I' X' hI' hW')))
end
def AWF (ω:Om):Prop:=∀(v:Value) (l:List TStmt) (K:Value→M) (I:Imm) (L:LH),RL TStmtV 51 I [] v l→BD l≤1000000000→(∀s∈l,cS s≤1000000000)→(∀I',Ext I I'→K (.int .i64 (Kv (BD l) (EF l))) I' L)→CT ω 26 #[v] K I L
theorem UW {n:Nat}:∀{f:Nat} {acc:List Tok} {s:Bs} {e:Flt},DU n f acc s= .bad e→e.code≠0
 |0,acc,s,e,h=>by simp [DU] at h
 |f+1,acc,s,e,h=>by
  rw [Rf] at h;unfold AGN at h;split at h
  ·cases h
  ·split at h
   ·rename_i x hx
    simp only [LexA.bad.injEq] at h;subst h;exact TD hx
   ·exact UW h
theorem MX (s:Bs):(readA s).2=ok0∨((readA s).2.code≠0∧(readA s).1=[]):=by
 unfold readA;split
 ·rename_i f hf
  exact .inr ⟨UW hf,rfl⟩
 ·split
  ·exact .inl rfl
  ·exact .inr ⟨by simp,rfl⟩
section
variable {ω:Om}
theorem ARH {I:Imm}{L:LH}{K:Value→M}{w:Value}{xs:List TStmt}(hw:RL TStmtV 51 I [] w xs)(hk:∀a k,RL TStmtV 51 I [] (.slice a xs.length k) xs→K (.slice a xs.length k) I L):CT ω 27 #[w] K I L:=by
 refine AVj ?_;unfold AUO;obtain ⟨w',h1,h2⟩:=Hf hw;simp only [zAM hw,h1,SSd,Nat.reduceAdd];obtain ⟨a,k,rfl⟩:=zAG h2;exact zAA (hk a k h2)
theorem Jm {G:Imm}(hTok:XL ω G)(hLim:AWF ω)(s:Bs){I:Imm}{L:LH}{K:Value→M}(hG:Ext G I)
  (hok:∀I' a k,Ext I I'→RL TStmtV 51 I' [] (.slice a (Bi s).1.length k) (Bi s).1→K (.tuple #[.slice a (Bi s).1.length k,.agg #[.int .i64 (Bi s).2.code,.int .i64 (Bi s).2.at']]) I' L):
  CT ω 12 #[.string ⟨s.toArray⟩] K I L:=by
 have hparts:s.length≤65536→BD (readA s).1≤1000000000∧∀x∈(readA s).1,cS x≤1000000000:=λh=>⟨by have:=NC s;omega,λx hx=>by have:=UC s x hx;omega⟩;refine AVr ?_;unfold AUX;refine Ac (λb1=>?_);try refine zqe ?_
 refine AB (λhb=>?_) (λhb=>?_)
 ·have hb:65536 < s.length:=by
   have:=of_decide_eq_true hb;omega
  have hp:Bi s=([],⟨170,65536⟩):=by unfold Bi;rw [if_pos hb]
  rw [hp] at hok;repeat' (first|refine zqa ?_|refine zqh (λ_=>?_)|refine zqr ?_|refine zqb ?_|refine zqi ?_ ?_|refine zqc ?_|refine zqg (λ_=>?_) (λ_=>?_)|refine zqe ?_|fail)
  exact zAE L (zAA (hok I none 0 (zAC _) (zAD none 0)))
 have hb:s.length≤65536:=by
  have:=of_decide_eq_false hb;omega
 refine call (Ur hTok s (by omega) hG (λI1 a k hI1 hw=>?_));have hcode:=MX s;generalize hr:readA s=q at hw hok hparts hcode ⊢;obtain ⟨l,f⟩:=q;have hp:Bi s=if f≠ok0 then ([],f) else if Kv (BD l) (EF l)≠0 then ([],⟨Kv (BD l) (EF l),0⟩) else (l,ok0):=by
  unfold Bi;rw [if_neg (by omega),hr]
 simp only at hw hparts hcode ⊢
 rcases hcode with rfl|⟨hc,rfl⟩
 ·rw [if_neg (by simp)] at hp;repeat' (first|refine zqa ?_|refine zqh (λ_=>?_)|refine zqr ?_|refine zqb ?_|refine zqi ?_ ?_|refine zqc ?_|refine zqg (λ_=>?_) (λ_=>?_)|(simp only [SSd,Nat.reduceAdd,ok0]))
  rename_i bt
  refine call (hLim _ l _ _ _ hw (hparts hb).1 (hparts hb).2 (λI2 hI2=>?_));by_cases h0:Kv (BD l) (EF l)=0
  ·rw [h0];rw [if_neg (by simpa using h0)] at hp;rw [hp] at hok;repeat' (first|refine zqa ?_|refine zqh (λ_=>?_)|refine zqr ?_|refine zqb ?_|(with_reducible first|refine Bl (sh12_1.eq_1 ..) ?_|refine And.intro ?_ ?_)|refine zqc ?_|refine zqg (λ_=>?_) (λ_=>?_)|refine zqe ?_|fail)
   refine call (ARH (zAP (λ_ _ h=>TStmtV.mono h hI2) hw hI2 (λ_ h=>h)) (λa' k' hw'=>?_));repeat' (first|refine zqa ?_|refine zqh (λ_=>?_)|refine zqr ?_|refine zqb ?_|refine zqi ?_ ?_|refine zqc ?_|refine zqg (λ_=>?_) (λ_=>?_)|refine zqe ?_|fail)
   exact zAE L (zAA (hok I2 a' k' (zAB hI1 hI2) hw'))
  ·rw [if_pos h0] at hp;rw [hp] at hok;have e2:(Kv (BD l) (EF l) != 0)=true:=by simpa using h0
   repeat' (first|refine zqa ?_|refine zqh (λ_=>?_)|refine zqr ?_|refine zqb ?_|(with_reducible first|refine Bl (sh12_1.eq_1 ..) ?_|refine And.intro ?_ ?_)|refine zqc ?_|refine zqg (λ_=>?_) (λ_=>?_)|(simp only [SSd,Nat.reduceAdd,e2]))
   exact zAE L (zAA (hok I2 none 0 (zAB hI1 hI2) (zAD none 0)))
 ·rw [if_pos (by rintro rfl;exact hc rfl)] at hp;rw [hp] at hok;have e1:(f.code==0)=false:=by simpa using hc
  have e2:(f.code != 0)=true:=by simpa using hc
  repeat' (first|refine zqa ?_|refine zqh (λ_=>?_)|refine zqr ?_|refine zqb ?_|(with_reducible first|refine Bl (sh12_1.eq_1 ..) ?_|refine And.intro ?_ ?_)|refine zqc ?_|refine zqg (λ_=>?_) (λ_=>?_)|(simp only [SSd,Nat.reduceAdd,e1,e2]))
  exact zAE L (zAA (hok I1 none 0 hI1 (zAD none 0)))
end
section
variable {P:Program}{ω:Om}{K:Value→M}{I:Imm}{L:LH}
theorem Ib {f:FuncId}{args cap:Array Value}(he:CX P f=true)(h:Cal P ω f (args++cap) K I L):CalV P ω (.func (.func f) #[] cap) args K I L:=by
 unfold CalV;simp only [he,if_true];simpa using h
end
theorem CalV.to {P:Program}{ω:Om}{K:Value→M}{I:Imm}{L:LH}{x:Value}{args:Array Value}(L':LH)[hs:SubP L' L](h:CalV P ω x args K I L'):CalV P ω x args K I L:=by
 have key:∀w,St ω w I L→St ω w I L':=λw hw=>by
  obtain ⟨R,hR⟩:=hs.sub;exact (hw.perm hR).drop (List.sublist_append_left L' R)
 match x,h with
 | .func (.func f) first cap,h=>
  simp only [CalV] at h ⊢;by_cases he:CX P f=true
  ·rw [if_pos he] at h ⊢;exact λw hw=>h w (key w hw)
  ·rw [if_neg he] at h ⊢;cases hx:TS P f with
   |none=>rw [hx] at h;exact h.elim
   |some e=>
    rw [hx] at h;exact λw hw=>h w (key w hw)
 | .func (.yield l) first cap,h=>exact λw hw=>h w (key w hw)
abbrev EM (n:Int):Obj:=.cells [.int .i64 n].toArray 3 (0,0)
abbrev doV (b1 b2:Nat):Value:=.func (.func 105) #[] #[AP b1,AP b2]
abbrev doO (b1 b2:Nat):Obj:=.cells [doV b1 b2].toArray 156 (0,0)
abbrev inV (bd bi:Nat):Value:=.func (.func 158) #[] #[AP bd,AP bi]
abbrev inO (bd bi:Nat):Obj:=.cells [inV bd bi].toArray 156 (0,0)
def mxI (a b:Int):Int:=if b > a then b else a
theorem AQZ (a b:Int):mxI a b=max a b:=by unfold mxI;omega
section
variable {ω:Om}{K:Value→M}{I:Imm}{F:LH}
theorem AMs {b1 b2:Nat}{p d n:Int}{c:List Value}(hc:c.length=11)(hp:0≤p∧p≤1000000000000000000)(hk:K (.tuple #[]) I ((b1,EM (p+1))::(b2,EM (max d n))::F)):
  CW ω (doV b1 b2) #[.agg c.toArray,.int .i64 n] K I ((b1,EM p)::(b2,EM d)::F):=by
 refine Ib (by kernel_rfl) ?_;refine ATA ?_;show AHe ω (.agg c.toArray) (.int .i64 n) (AP b1) (AP b2) _ I _;unfold AHe;refine Ac (λb=>?_);rw [←AQZ] at hk;unfold mxI at hk;repeat' (first|refine zqa ?_|refine zqh (λ_=>?_)|refine zqr ?_|refine zqb ?_|refine zqi ?_ ?_|refine zqc ?_|refine zqg (λ_=>?_) (λ_=>?_)|(simp only [SSd,Nat.reduceAdd,wrap_i64 (p+1) (by omega)]))
 exact zAE _ (zAA hk)
theorem YN {l:List Ex}{k:Nat}(h:k < l.length):AZ (l.take (k+1))=AZ (l.take k)+Aa l[k]:=by
 rw [List.take_succ_eq_append_getElem h,EC];simp [AZ]
theorem Gn:∀a b:List Ex,Bc (a++b)=max (Bc a) (Bc b)
 |[],b=>by simp [Bc]
 |x::a,b=>by simp only [List.cons_append,Bc,Gn a b];omega
theorem ABJ {l:List Ex}{k:Nat}(h:k < l.length):Bc (l.take (k+1))=max (Bc (l.take k)) (Dl l[k]):=by
 rw [List.take_succ_eq_append_getElem h,Gn];simp [Bc]
theorem Fh (x:Ex):1≤Dl x:=by cases x;simp [Dl]
theorem VA (x:Ex):1≤Aa x:=by cases x;simp [Aa]
theorem Ol {x:Ex}:∀{l:List Ex},x∈l→Aa x≤AZ l
 |y::l,h=>by
  rcases List.mem_cons.1 h with rfl|h
  ·simp only [AZ];omega
  ·have:=Ol h;simp only [AZ];omega
mutual
theorem TZ:∀x:Ex,Dl x≤Aa x
 | .mk _ _ _ _ _ _ _ l=>by simp only [Dl,Aa];have:=Pj l;omega
theorem Pj:∀l:List Ex,Bc l≤AZ l
 |[]=>by simp [Bc]
 |x::l=>by simp only [Bc,AZ];have:=TZ x;have:=Pj l;omega
end
theorem AAo (x:Ex):Aa x=AZ x.args+1:=by cases x;rfl
theorem EL (x:Ex):Dl x=Bc x.args+1:=by cases x;rfl
theorem ADn {b1 b2 bd bi:Nat}:∀(m:Nat) (x:Ex),Aa x≤m→∀(p d n:Int) (c:List Value) (K:Value→M) (I:Imm) (F:LH),ExV I x c→0≤p→p+Aa x≤1000000000000000000→0≤n→n+Dl x≤1000000000000000000→
  K (.tuple #[]) I ((b1,EM (p+Aa x))::(b2,EM (max d (n+Dl x - 1)))::(bd,doO b1 b2)::(bi,inO bd bi)::F)→
  CW ω (inV bd bi) #[.agg c.toArray,.int .i64 n] K I ((b1,EM p)::(b2,EM d)::(bd,doO b1 b2)::(bi,inO bd bi)::F)
 |0,x,hm,_,_,_,_,_,_,_,_,_,_,_,_,_=>by have:=VA x;omega
 |m+1,x,hm,p,d,n,c,K,I,F,hx,hp,hpx,hn,hnx,hk=>by
  refine Ib (by kernel_rfl) ?_;refine ASP ?_;show AHZ ω (.agg c.toArray) (.int .i64 n) (AP bd) (AP bi) _ I _;have hcl:=hx.len;obtain ⟨v,rfl,ha⟩:=ExV.iff.1 hx;unfold AHZ;refine Ac (λb=>?_);try refine zqe ?_
  refine rdb ?_;refine rdB rfl ?_;refine Fj ?_;refine CalV.to ((b1,EM p)::(b2,EM d)::(b,.cells (Ak x v).toArray 37 (0,0))::(bd,doO b1 b2)::(bi,inO bd bi)::F) ?_;refine AMs hcl ⟨hp,by omega⟩ ?_;try refine zqe ?_
  refine rdb ?_;simp only [zAM ha,SSd,Nat.reduceAdd];have h1:=AAo x;have h2:=EL x;refine loop (λq s I' L'=>∃k:Nat,k+q=x.args.length∧s=(.int .i64 k,())∧I'=I∧L'=(b1,EM (p+1+AZ (x.args.take k)))::(b2,EM (max (max d n) (n+Bc (x.args.take k))))::(b,.cells (Ak x v).toArray 37 (0,0))::(bd,doO b1 b2)::(bi,inO bd bi)::F) x.args.length ⟨0,by omega,rfl,rfl,by rw [show p+1+((AZ (x.args.take 0):Nat):Int)=p+1 by simp [AZ],show max (max d n) (n+((Bc (x.args.take 0):Nat):Int))=max d n by simp only [List.take_zero,Bc];omega]⟩ ?_;rintro q s I' L' ⟨k,hkq,rfl,rfl,rfl⟩;unfold ACb;try refine zqe ?_
  have hle:x.args.length≤AZ x.args:=by
   generalize x.args=l;induction l with
   |nil=>simp
   |cons y l ih=>have:=VA y;simp only [AZ,List.length_cons];omega
  refine AB (λhb=>?_) (λhb=>?_)
  ·have hb:k < x.args.length:=by
    have:=of_decide_eq_true hb;omega
   obtain ⟨bt,off,c1,g1,gl,g2,g3⟩:=zAS ha (i:=k) (by omega) (by omega);rw [Af hb] at g2;have hcl1:=ExV.len g2;have hm1:=Ol (List.getElem_mem hb);have hone:=ExV.one g2;simp only [g1,SSd,Nat.reduceAdd];refine FK (g3 _ [] (zAC _) (λ_ h=>h)) (zAC _) hcl1 ?_;refine Ac (λb3=>?_);refine stB hcl1 rfl hone ?_;refine rdb ?_;refine rdB hcl1 ?_;simp only [wrap_i64 (n+1) (by omega),SSd,Nat.reduceAdd];refine Fj ?_;refine CalV.to ((b1,EM (p+1+AZ (x.args.take k)))::(b2,EM (max (max d n) (n+Bc (x.args.take k))))::(bd,doO b1 b2)::(bi,inO bd bi)::(b3,.cells c1.toArray 37 (0,0))::(b,.cells (Ak x v).toArray 37 (0,0))::F) ?_;have htk:=YN hb;have htd:=ABJ hb;have hts:AZ (x.args.take (k+1))≤AZ x.args:=by
    have h:=EC (x.args.take (k+1)) (x.args.drop (k+1));rw [List.take_append_drop] at h;omega
   have hdl:Dl x.args[k]≤Bc x.args:=by
    have h:=Gn (x.args.take (k+1)) (x.args.drop (k+1));rw [List.take_append_drop] at h;omega
   refine ADn m x.args[k] (by omega) _ _ (n+1) c1 _ _ _ g2 (by omega) (by omega) (by omega) (by omega) ?_;simp only [wrap_i64 ((k:Int)+1) (by omega),SSd,Nat.reduceAdd];rw [←show p+1+(AZ (x.args.take (k+1)):Int)=p+1+AZ (x.args.take k)+Aa x.args[k] by omega,←show max (max d n) (n+(Bc (x.args.take (k+1)):Int))=max (max (max d n) (n+Bc (x.args.take k))) (n+1+Dl x.args[k] - 1) by omega];refine zAE ((b1,EM (p+1+AZ (x.args.take (k+1))))::(b2,EM (max (max d n) (n+Bc (x.args.take (k+1)))))::(b,.cells (Ak x v).toArray 37 (0,0))::(bd,doO b1 b2)::(bi,inO bd bi)::F) ?_;exact zAA ⟨q - 1,by omega,k+1,by omega,rfl,rfl,rfl⟩
  ·have hb:¬k < x.args.length:=by
    have:=of_decide_eq_false hb;omega
   have hkl:x.args.take k=x.args:=List.take_of_length_le (by omega);rw [hkl];rw [←show p+(Aa x:Int)=p+1+AZ x.args by omega,←show max d (n+(Dl x:Int) - 1)=max (max d n) (n+Bc x.args) by omega];exact zAE ((b1,EM (p+Aa x))::(b2,EM (max d (n+Dl x - 1)))::(bd,doO b1 b2)::(bi,inO bd bi)::F) (zAA hk)
end
def GL (I:Imm)(X:LH)(v:Value)(xs:List Ex):Prop:=∃cells,GrO I 37 11 X v cells xs.length∧Recs (ExV I) 11 xs cells
theorem GL.mono {I I':Imm}{X:LH}{v:Value}{xs:List Ex}(h:GL I X v xs)(hI:Ext I I'):GL I' X v xs:=by
 obtain ⟨cells,h1,h2⟩:=h;exact ⟨cells,h1.mono hI,Recs.imp (λ_ _ h=>ExV.mono hI h) h2⟩
theorem GL.rl {I:Imm}{X L:LH}{v:Value}{xs:List Ex}(h:GL I X v xs)(hL:∀x∈X,x∈L):RL ExV 11 I L v xs:=by
 obtain ⟨cells,h1,h2⟩:=h;obtain ⟨a,k,rfl,hle⟩:=h1.form;exact ⟨a,k,cells,rfl,hle,h1.news hL,h2⟩
section
variable {ω:Om}{K:Value→M}{I:Imm}{F:LH}
instance splitNil (L:LH):SplitL [] L L:=⟨List.Perm.refl _⟩
theorem IU {X L:LH}[SplitL X L F]{z:Array Value}{xs ys:List Ex}{s x:Value}(hz:z.size=11)(hG:GL I X s xs)(hy:ExL I x ys)(hb:xs.length+ys.length≤1000000000000)(hk:∀X' v',GL I X' v' (xs++ys)→K v' I (X'++F)):
  App 37 11 128 z s x (gh K) I L:=by
 obtain ⟨cells,h1,h2⟩:=hG;obtain ⟨c,s4,r4⟩:=RL.toI (by decide) hy;refine ATM (X:=X) hz h1 s4.news (Recs.one_cells (λ_ _ h=>ExV.one h) r4) (by omega) (by omega) (λX' v' h=>hk X' v' ⟨_,by rw [List.length_append];exact h,Recs.append h2 r4⟩)
theorem UI {z:Array Value}{x:Ex}{c:List Value}(hx:ExV I x c)(hk:∀I' a,Ext I I'→ExL I' (.slice a 1 1) [x]→Gh (K (.slice a 1 1)) I' F):AY 37 11 z 1 [(0,.agg c.toArray)] (gh K) I F:=
 FP (R:=ExV) [x] [c] rfl rfl rfl (by simp [hx.len]) (by simpa using hx) (λhI h=>ExV.mono hI h) hk
theorem AQu {X:LH}{vs w:Value}{p2 p4:Value}{ys:List TItem}{xs:List Ex}(hy:RL TItemV 14 I [] vs ys)(hG:GL I X w xs)(hb:xs.length+ys.length≤1000000000000)
  (hk:∀I' X' w',Ext I I'→GL I' X' w' (xs++ys.map λy=>y.fExpr)→WM ω p2 p4 w' K I' (X'++F)):
  Am ((w,.int .i64 0,()):Value×Value×Unit) (λs Kn=>WN ω p2 p4 vs (.int .i64 ys.length) s.1 s.2.1 Kn K) I (X++F):=by
 refine loop (λq st I' L'=>∃k X' v',k+q=ys.length∧st=(v',.int .i64 (k:Nat),())∧Ext I I'∧GL I' X' v' (xs++(ys.take k).map λy=>y.fExpr)∧L'=X'++F) ys.length ⟨0,X,w,by omega,rfl,zAC _,by simpa using hG,rfl⟩ ?_;rintro q st I' L' ⟨k,X',v',hkq,rfl,hI',hG',rfl⟩;unfold WN;try refine zqe ?_
 refine AB (λhb=>?_) (λhb=>?_)
 ·have hb:k < ys.length:=by
   have:=of_decide_eq_true hb;omega
  obtain ⟨bt,off,c1,g1,gl,g2,g3⟩:=zAS hy (i:=k) (by omega) (by omega);rw [Af hb] at g2;obtain ⟨v0,rfl,h0⟩:=g2.mono hI';simp only [g1,SSd,Nat.reduceAdd];refine FK (g3 _ [] hI' (λ_ h=>h)) (zAC _) rfl ?_;refine Ac (λb3=>?_);obtain ⟨a0,k0,rfl⟩:=zAG h0;refine stB rfl rfl (Au rfl) ?_;try refine zqe ?_
  refine rdP _ rfl rfl ?_;refine UI (x:=ys[k].fExpr) (ExV.iff.2 ⟨_,rfl,h0⟩) (λI2 a2 hI2 hw2=>zAA ?_);refine IU (X:=X') rfl (hG'.mono hI2) hw2 (by simp;omega) (λX3 w3 hG3=>?_);simp only [wrap_i64 ((k:Int)+1) (by omega),SSd,Nat.reduceAdd];refine zAE (X3++F) (zAA ⟨q - 1,by omega,k+1,X3,w3,by omega,rfl,zAB hI' hI2,?_,rfl⟩);rw [List.take_succ_eq_append_getElem hb,List.map_append,←List.append_assoc];exact hG3
 ·have hb:¬k < ys.length:=by
   have:=of_decide_eq_false hb;omega
  rw [List.take_of_length_le (by omega)] at hG';exact hk I' X' v' hI' hG'
theorem AQt {X:LH}{vs w:Value}{p2 p4:Value}{ys:List TSource}{xs:List Ex}(hy:RL TSourceV 14 I [] vs ys)(hG:GL I X w xs)(hb:xs.length+ys.length≤1000000000000)
  (hk:∀I' X' w',Ext I I'→GL I' X' w' (xs++ys.map λy=>y.fOn)→WJ ω p2 p4 w' K I' (X'++F)):
  Am ((w,.int .i64 0,()):Value×Value×Unit) (λs Kn=>WL ω p2 p4 vs (.int .i64 ys.length) s.1 s.2.1 Kn K) I (X++F):=by
 refine loop (λq st I' L'=>∃k X' v',k+q=ys.length∧st=(v',.int .i64 (k:Nat),())∧Ext I I'∧GL I' X' v' (xs++(ys.take k).map λy=>y.fOn)∧L'=X'++F) ys.length ⟨0,X,w,by omega,rfl,zAC _,by simpa using hG,rfl⟩ ?_;rintro q st I' L' ⟨k,X',v',hkq,rfl,hI',hG',rfl⟩;unfold WL;try refine zqe ?_
 refine AB (λhb=>?_) (λhb=>?_)
 ·have hb:k < ys.length:=by
   have:=of_decide_eq_true hb;omega
  obtain ⟨bt,off,c1,g1,gl,g2,g3⟩:=zAS hy (i:=k) (by omega) (by omega);rw [Af hb] at g2;obtain ⟨v0,rfl,h0⟩:=g2.mono hI';simp only [g1,SSd,Nat.reduceAdd];refine FK (g3 _ [] hI' (λ_ h=>h)) (zAC _) rfl ?_;refine Ac (λb3=>?_);obtain ⟨a0,k0,rfl⟩:=zAG h0;refine stB rfl rfl (Au rfl) ?_;try refine zqe ?_
  refine rdP _ rfl rfl ?_;refine UI (x:=ys[k].fOn) (ExV.iff.2 ⟨_,rfl,h0⟩) (λI2 a2 hI2 hw2=>zAA ?_);refine IU (X:=X') rfl (hG'.mono hI2) hw2 (by simp;omega) (λX3 w3 hG3=>?_);simp only [wrap_i64 ((k:Int)+1) (by omega),SSd,Nat.reduceAdd];refine zAE (X3++F) (zAA ⟨q - 1,by omega,k+1,X3,w3,by omega,rfl,zAB hI' hI2,?_,rfl⟩);rw [List.take_succ_eq_append_getElem hb,List.map_append,←List.append_assoc];exact hG3
 ·have hb:¬k < ys.length:=by
   have:=of_decide_eq_false hb;omega
  rw [List.take_of_length_le (by omega)] at hG';exact hk I' X' v' hI' hG'
theorem AQs {X:LH}{vs w:Value}{p2 p4:Value}{ys:List TOrder}{xs:List Ex}(hy:RL TOrderV 12 I [] vs ys)(hG:GL I X w xs)(hb:xs.length+ys.length≤1000000000000)
  (hk:∀I' X' w',Ext I I'→GL I' X' w' (xs++ys.map λy=>y.fExpr)→WH ω p2 p4 w' K I' (X'++F)):
  Am ((w,.int .i64 0,()):Value×Value×Unit) (λs Kn=>WI ω p2 p4 vs (.int .i64 ys.length) s.1 s.2.1 Kn K) I (X++F):=by
 refine loop (λq st I' L'=>∃k X' v',k+q=ys.length∧st=(v',.int .i64 (k:Nat),())∧Ext I I'∧GL I' X' v' (xs++(ys.take k).map λy=>y.fExpr)∧L'=X'++F) ys.length ⟨0,X,w,by omega,rfl,zAC _,by simpa using hG,rfl⟩ ?_;rintro q st I' L' ⟨k,X',v',hkq,rfl,hI',hG',rfl⟩;unfold WI;try refine zqe ?_
 refine AB (λhb=>?_) (λhb=>?_)
 ·have hb:k < ys.length:=by
   have:=of_decide_eq_true hb;omega
  obtain ⟨bt,off,c1,g1,gl,g2,g3⟩:=zAS hy (i:=k) (by omega) (by omega);rw [Af hb] at g2;obtain ⟨v0,rfl,h0⟩:=g2.mono hI';simp only [g1,SSd,Nat.reduceAdd];refine FK (g3 _ [] hI' (λ_ h=>h)) (zAC _) rfl ?_;refine Ac (λb3=>?_);obtain ⟨a0,k0,rfl⟩:=zAG h0;refine stB rfl rfl (Au rfl) ?_;try refine zqe ?_
  refine rdP _ rfl rfl ?_;refine UI (x:=ys[k].fExpr) (ExV.iff.2 ⟨_,rfl,h0⟩) (λI2 a2 hI2 hw2=>zAA ?_);refine IU (X:=X') rfl (hG'.mono hI2) hw2 (by simp;omega) (λX3 w3 hG3=>?_);simp only [wrap_i64 ((k:Int)+1) (by omega),SSd,Nat.reduceAdd];refine zAE (X3++F) (zAA ⟨q - 1,by omega,k+1,X3,w3,by omega,rfl,zAB hI' hI2,?_,rfl⟩);rw [List.take_succ_eq_append_getElem hb,List.map_append,←List.append_assoc];exact hG3
 ·have hb:¬k < ys.length:=by
   have:=of_decide_eq_false hb;omega
  rw [List.take_of_length_le (by omega)] at hG';exact hk I' X' v' hI' hG'
theorem AMq {X:LH}{vs w:Value}{p2 p4:Value}{ys:List TSet}{xs:List Ex}(hy:RL TSetV 12 I [] vs ys)(hG:GL I X w xs)(hb:xs.length+ys.length≤1000000000000)
  (hk:∀I' X' w',Ext I I'→GL I' X' w' (xs++ys.map λy=>y.fExpr)→Ry ω p2 p4 w' K I' (X'++F)):
  Am ((w,.int .i64 0,()):Value×Value×Unit) (λs Kn=>Rz ω p2 p4 vs (.int .i64 ys.length) s.1 s.2.1 Kn K) I (X++F):=by
 refine loop (λq st I' L'=>∃k X' v',k+q=ys.length∧st=(v',.int .i64 (k:Nat),())∧Ext I I'∧GL I' X' v' (xs++(ys.take k).map λy=>y.fExpr)∧L'=X'++F) ys.length ⟨0,X,w,by omega,rfl,zAC _,by simpa using hG,rfl⟩ ?_;rintro q st I' L' ⟨k,X',v',hkq,rfl,hI',hG',rfl⟩;unfold Rz;try refine zqe ?_
 refine AB (λhb=>?_) (λhb=>?_)
 ·have hb:k < ys.length:=by
   have:=of_decide_eq_true hb;omega
  obtain ⟨bt,off,c1,g1,gl,g2,g3⟩:=zAS hy (i:=k) (by omega) (by omega);rw [Af hb] at g2;obtain ⟨v0,rfl,h0⟩:=g2.mono hI';simp only [g1,SSd,Nat.reduceAdd];refine FK (g3 _ [] hI' (λ_ h=>h)) (zAC _) rfl ?_;refine Ac (λb3=>?_);obtain ⟨a0,k0,rfl⟩:=zAG h0;refine stB rfl rfl (Au rfl) ?_;try refine zqe ?_
  refine rdP _ rfl rfl ?_;refine UI (x:=ys[k].fExpr) (ExV.iff.2 ⟨_,rfl,h0⟩) (λI2 a2 hI2 hw2=>zAA ?_);refine IU (X:=X') rfl (hG'.mono hI2) hw2 (by simp;omega) (λX3 w3 hG3=>?_);simp only [wrap_i64 ((k:Int)+1) (by omega),SSd,Nat.reduceAdd];refine zAE (X3++F) (zAA ⟨q - 1,by omega,k+1,X3,w3,by omega,rfl,zAB hI' hI2,?_,rfl⟩);rw [List.take_succ_eq_append_getElem hb,List.map_append,←List.append_assoc];exact hG3
 ·have hb:¬k < ys.length:=by
   have:=of_decide_eq_false hb;omega
  rw [List.take_of_length_le (by omega)] at hG';exact hk I' X' v' hI' hG'
theorem AMp {X:LH}{vs w:Value}{p4:Value}{ys:List TCol}{xs:List Ex}(hy:RL TColV 16 I [] vs ys)(hG:GL I X w xs)(hb:xs.length+ys.length≤1000000000000)
  (hk:∀I' X' w',Ext I I'→GL I' X' w' (xs++ys.map λy=>y.fDefault)→Nh ω p4 w' K I' (X'++F)):
  Am ((w,.int .i64 0,()):Value×Value×Unit) (λs Kn=>Rx ω p4 vs (.int .i64 ys.length) s.1 s.2.1 Kn K) I (X++F):=by
 refine loop (λq st I' L'=>∃k X' v',k+q=ys.length∧st=(v',.int .i64 (k:Nat),())∧Ext I I'∧GL I' X' v' (xs++(ys.take k).map λy=>y.fDefault)∧L'=X'++F) ys.length ⟨0,X,w,by omega,rfl,zAC _,by simpa using hG,rfl⟩ ?_;rintro q st I' L' ⟨k,X',v',hkq,rfl,hI',hG',rfl⟩;unfold Rx;try refine zqe ?_
 refine AB (λhb=>?_) (λhb=>?_)
 ·have hb:k < ys.length:=by
   have:=of_decide_eq_true hb;omega
  obtain ⟨bt,off,c1,g1,gl,g2,g3⟩:=zAS hy (i:=k) (by omega) (by omega);rw [Af hb] at g2;obtain ⟨v0,rfl,h0⟩:=g2.mono hI';simp only [g1,SSd,Nat.reduceAdd];refine FK (g3 _ [] hI' (λ_ h=>h)) (zAC _) rfl ?_;refine Ac (λb3=>?_);obtain ⟨a0,k0,rfl⟩:=zAG h0;refine stB rfl rfl (Au rfl) ?_;try refine zqe ?_
  refine rdP _ rfl rfl ?_;refine UI (x:=ys[k].fDefault) (ExV.iff.2 ⟨_,rfl,h0⟩) (λI2 a2 hI2 hw2=>zAA ?_);refine IU (X:=X') rfl (hG'.mono hI2) hw2 (by simp;omega) (λX3 w3 hG3=>?_);simp only [wrap_i64 ((k:Int)+1) (by omega),SSd,Nat.reduceAdd];refine zAE (X3++F) (zAA ⟨q - 1,by omega,k+1,X3,w3,by omega,rfl,zAB hI' hI2,?_,rfl⟩);rw [List.take_succ_eq_append_getElem hb,List.map_append,←List.append_assoc];exact hG3
 ·have hb:¬k < ys.length:=by
   have:=of_decide_eq_false hb;omega
  rw [List.take_of_length_le (by omega)] at hG';exact hk I' X' v' hI' hG'
theorem AMr {X:LH}{vs w:Value}{p2 p4:Value}{ys:List (List Ex)}{xs:List Ex}(hy:RL (Hl ExV 11) 1 I [] vs ys)(hyl:ys.length≤1000000000000)(hG:GL I X w xs)(hb:xs.length+ys.flatten.length≤1000000000000)
  (hk:∀I' X' w',Ext I I'→GL I' X' w' (xs++ys.flatten)→SA ω p2 p4 w' K I' (X'++F)):
  Am ((w,.int .i64 0,()):Value×Value×Unit) (λs Kn=>SB ω p2 p4 vs (.int .i64 ys.length) s.1 s.2.1 Kn K) I (X++F):=by
 refine loop (λq st I' L'=>∃k X' v',k+q=ys.length∧st=(v',.int .i64 (k:Nat),())∧Ext I I'∧GL I' X' v' (xs++(ys.take k).flatten)∧L'=X'++F) ys.length ⟨0,X,w,by omega,rfl,zAC _,by simpa using hG,rfl⟩ ?_;rintro q st I' L' ⟨k,X',v',hkq,rfl,hI',hG',rfl⟩;unfold SB;try refine zqe ?_
 refine AB (λhb=>?_) (λhb=>?_)
 ·have hb:k < ys.length:=by
   have:=of_decide_eq_true hb;omega
  obtain ⟨bt,off,c1,g1,gl,g2,g3⟩:=zAS hy (i:=k) (by omega) (by omega);rw [Af hb] at g2;obtain ⟨v0,rfl,h0⟩:=LstX.mono g2 hI';simp only [g1,SSd,Nat.reduceAdd];refine rdC (g3 _ [] hI' (λ_ h=>h) 0 _ rfl) (zAC _) ?_;have hfl:(ys.take (k+1)).flatten=(ys.take k).flatten++ys[k]:=by rw [List.take_succ_eq_append_getElem hb,List.flatten_append];simp only [List.flatten_cons,List.flatten_nil,List.append_nil]
  have hle:(ys.take (k+1)).flatten.length≤ys.flatten.length:=by
   have h:ys.flatten=(ys.take (k+1)).flatten++(ys.drop (k+1)).flatten:=by rw [←List.flatten_append,List.take_append_drop]
   rw [h,List.length_append];omega
  rw [hfl,List.length_append] at hle;refine IU (X:=X') rfl hG' h0 (by simp only [List.length_append];omega) (λX3 w3 hG3=>?_);simp only [wrap_i64 ((k:Int)+1) (by omega),SSd,Nat.reduceAdd];refine zAE (X3++F) (zAA ⟨q - 1,by omega,k+1,X3,w3,by omega,rfl,hI',?_,rfl⟩);rw [hfl,←List.append_assoc];exact hG3
 ·have hb:¬k < ys.length:=by
   have:=of_decide_eq_false hb;omega
  rw [List.take_of_length_le (by omega)] at hG';exact hk I' X' v' hI' hG'
def Cc (x:Ex):Bool:=x.kind != 0
def ALC (s:TStmt):List Ex:=[s.fWhere,s.fSelect.fWhere,s.fSelect.fHaving]++s.fSelect.fGroup++s.fSelect.fItems.map (λy=>y.fExpr)++s.fSelect.fFrom.map (λy=>y.fOn)++s.fSelect.fOrder.map (λy=>y.fExpr)++s.fRows.flatten++s.fSets.map (λy=>y.fExpr)++s.fCols.map (λy=>y.fDefault)
theorem ABa (s:TStmt):AZ ((ALC s).filter Cc)=AZ (Ho s)∧Bc ((ALC s).filter Cc)=Bc (Ho s):=by
 have e:∀l:List Ex,l.filter (λx=>x.kind != 0)=l.filter Cc:=λl=>rfl;have c:∀(x:Ex) (l:List Ex),x::l=[x]++l:=λ_ _=>rfl;simp only [Ho,e,ALC];rw [c s.fWhere,c s.fSelect.fWhere [s.fSelect.fHaving],c s.fSelect.fWhere [_,_],c s.fSelect.fHaving [_]];simp only [List.filter_append,EC,Gn];constructor
 ·omega
 ·ac_rfl
theorem AMo {X:LH}{y:Nat×Obj}{b1 b2 bd bi:Nat}{w:Value}{xs:List Ex}{p d:Int}(hG:GL I X w xs)(hp:0≤p)(hd:0≤d)(hpx:p+AZ (xs.filter Cc)≤100000000000000000)(hlen:xs.length≤1000000000000)
  (hk:Gh (K (.tuple #[])) I ((b1,EM (p+AZ (xs.filter Cc)))::(b2,EM (max d (Bc (xs.filter Cc))))::F)):
  Nh ω (AP bi) w (λv=>Gh (K v)) I (X++((bi,inO bd bi)::(bd,doO b1 b2)::y::(b1,EM p)::(b2,EM d)::F)):=by
 unfold Nh;have hR:RL ExV 11 I X w xs:=hG.rl (λ_ h=>h);simp only [zAM hR,SSd,Nat.reduceAdd];refine loop (λq s I' L'=>∃k:Nat,k+q=xs.length∧s=(.int .i64 k,())∧I'=I∧L'=X++((bi,inO bd bi)::(bd,doO b1 b2)::y::(b1,EM (p+AZ ((xs.take k).filter Cc)))::(b2,EM (max d (Bc ((xs.take k).filter Cc))))::F)) xs.length ⟨0,by omega,rfl,rfl,by
  rw [show p+((AZ ((xs.take 0).filter Cc):Nat):Int)=p by simp [AZ],show max d ((Bc ((xs.take 0).filter Cc):Nat):Int)=d by simp only [List.take_zero,List.filter_nil,Bc];omega]⟩ ?_
 rintro q s I' L' ⟨k,hkq,rfl,rfl,rfl⟩;unfold Xp;try refine zqe ?_
 refine AB (λhb=>?_) (λhb=>?_)
 ·have hb:k < xs.length:=by
   have:=of_decide_eq_true hb;omega
  obtain ⟨bt,off,c1,g1,gl,g2,g3⟩:=zAS hR (i:=k) (by omega) (by omega);rw [Af hb] at g2;have hts:=List.take_succ_eq_append_getElem hb;have hple:AZ ((xs.take (k+1)).filter Cc)≤AZ (xs.filter Cc):=by
   have h:xs.filter Cc=(xs.take (k+1)).filter Cc++(xs.drop (k+1)).filter Cc:=by rw [←List.filter_append,List.take_append_drop]
   rw [h,EC];omega
  have hstep:∀{Y:LH},SubP (X++((bi,inO bd bi)::(bd,doO b1 b2)::y::(b1,EM (p+AZ ((xs.take (k+1)).filter Cc)))::(b2,EM (max d (Bc ((xs.take (k+1)).filter Cc))))::F)) Y→Nc ω (.int .i64 k) (λs'=>Gh λI2 L2=>∃m',m' < q∧∃k:Nat,k+m'=xs.length∧s'=(.int .i64 k,())∧I2=I'∧L2=X++((bi,inO bd bi)::(bd,doO b1 b2)::y::(b1,EM (p+AZ ((xs.take k).filter Cc)))::(b2,EM (max d (Bc ((xs.take k).filter Cc))))::F)) (λv=>Gh (K v)) I' Y:=by
   intro Y hY;unfold Nc;simp only [wrap_i64 ((k:Int)+1) (by omega),SSd,Nat.reduceAdd];exact zAE _ (zAA ⟨q - 1,by omega,k+1,by omega,rfl,rfl,rfl⟩)
  obtain ⟨v0,rfl,h0⟩:=ExV.iff.1 g2;simp only [g1,SSd,Nat.reduceAdd];refine rdN rfl (g3 _ _ (zAC _) (λx hx=>by simp [hx])) ?_;refine Ac (λb3=>?_);obtain ⟨a0,k0,rfl⟩:=zAG h0;refine stB rfl rfl (Au rfl) ?_;try refine zqe ?_
  refine rdb ?_;try refine zqe ?_
  refine AB (λht=>?_) (λht=>?_)
  ·have ht':Cc xs[k]=true:=ht;rw [hts,List.filter_append,List.filter_cons_of_pos ht',List.filter_nil,EC,Gn] at hstep;rw [hts,List.filter_append,List.filter_cons_of_pos ht',List.filter_nil,EC] at hple;simp only [AZ,Bc] at hstep hple;refine rdb ?_;refine rdB rfl ?_;refine Fj ?_;refine CalV.to ((b1,EM (p+AZ ((xs.take k).filter Cc)))::(b2,EM (max d (Bc ((xs.take k).filter Cc))))::(bd,doO b1 b2)::(bi,inO bd bi)::(X++(y::F))) ?_;have hdp:=TZ xs[k];have hdpos:=Fh xs[k];refine ADn _ xs[k] (Nat.le_refl _) _ _ 1 _ _ _ _ g2 (by omega) (by omega) (by omega) (by omega) ?_;refine hstep ?_;rw [show p+((AZ ((xs.take k).filter Cc)+(Aa xs[k]+0):Nat):Int)=p+AZ ((xs.take k).filter Cc)+Aa xs[k] by omega,show max d ((max (Bc ((xs.take k).filter Cc)) (max (Dl xs[k]) 0):Nat):Int)=max (max d (Bc ((xs.take k).filter Cc))) (1+Dl xs[k] - 1) by omega];infer_instance
  ·have ht':¬Cc xs[k]=true:=by
    intro h;rw [show (xs[k].kind != 0)=true from h] at ht;cases ht
   rw [hts,List.filter_append,List.filter_cons_of_neg ht',List.filter_nil,List.append_nil] at hstep;exact hstep inferInstance
 ·have hb:¬k < xs.length:=by
   have:=of_decide_eq_false hb;omega
  rw [List.take_of_length_le (by omega)];exact zAE _ hk
theorem AFf {b1 b2:Nat}{p d:Int}{s:TStmt}{c:List Value}(hs:TStmtV I s c)(hcnt:cS s≤1000000000)(hp:0≤p)(hd:0≤d)(hpx:p+AZ (Ho s)≤100000000000000000)
  (hk:∀I',Ext I I'→K (.tuple #[]) I' ((b1,EM (p+AZ (Ho s)))::(b2,EM (max d (Bc (Ho s))))::F)):
  CT ω 104 #[.agg c.toArray,doV b1 b2] K I ((b1,EM p)::(b2,EM d)::F):=by
 obtain ⟨v0,v1,v2,v3,v4,v5,v6,v7,v8,v9,v10,v11,v12,rfl,h0,h1,h2,h3,h4,h5,h6,h7,h8,h9,h10,h11,h12⟩:=hs;obtain ⟨a0,k0,rfl⟩:=zAG h0;obtain ⟨a1,k1,rfl⟩:=zAG h1;obtain ⟨a2,k2,rfl⟩:=zAG h2;obtain ⟨a3,k3,rfl⟩:=zAG h3;obtain ⟨a4,k4,rfl⟩:=zAG h4;obtain ⟨a5,k5,rfl⟩:=zAG h5;obtain ⟨a7,k7,rfl⟩:=zAG h7;obtain ⟨a8,k8,rfl⟩:=zAG h8;obtain ⟨a9,k9,rfl⟩:=zAG h9;obtain ⟨a10,k10,rfl⟩:=zAG h10;simp only [cS,cQ] at hcnt;refine ATB ?_;unfold AOr;refine Ac (λbs=>?_);refine Ac (o:=doO b1 b2) (λbd=>?_);refine Ac (λbi=>?_);refine st1 rfl ?_;try refine zqe ?_
 refine rdP _ rfl rfl ?_;refine rdP _ rfl rfl ?_;refine rdP _ rfl rfl ?_;refine FP (R:=ExV) [s.fWhere,s.fSelect.fWhere,s.fSelect.fHaving] [_,_,_] rfl rfl rfl (by simp) (by
  intro q hq;simp only [List.zip_cons_cons,List.zip_nil_right,List.mem_cons,List.not_mem_nil,or_false] at hq;rcases hq with rfl|rfl|rfl
  ·exact ExV.iff.2 ⟨_,rfl,h9⟩
  ·exact ExV.iff.2 ⟨_,rfl,h2⟩
  ·exact ExV.iff.2 ⟨_,rfl,h4⟩) (λhI h=>ExV.mono hI h) (λI1 aw hI1 hw1=>zAA ?_)
 obtain ⟨c1,s1,r1⟩:=RL.toI (by decide) hw1;have hG1:GL I1 [] (.slice aw 3 3) [s.fWhere,s.fSelect.fWhere,s.fSelect.fHaving]:=⟨c1,.inr ⟨rfl,⟨aw,rfl⟩,s1⟩,r1⟩;refine rdb ?_;refine IU (X:=[]) rfl hG1 (zAN h3 hI1) zL (λX2 w2 hG2=>?_);refine rdb ?_;simp only [zAM h0,SSd,Nat.reduceAdd];refine AQu (X:=X2) (zAP (λ_ _ h=>TItemV.mono h hI1) h0 hI1 (λ_ h=>h)) hG2 zL (λI3 X3 w3 hI3 hG3=>?_);unfold WM;try refine zqe ?_
 refine rdb ?_;try refine zqe ?_
 have hI13:=zAB hI1 hI3;refine AQt (X:=X3) (zAP (λ_ _ h=>TSourceV.mono h hI13) h1 hI13 (λ_ h=>h)) hG3 (by simp only [zU,List.length_map];omega) (λI4 X4 w4 hI4 hG4=>?_);unfold WJ;try refine zqe ?_
 refine rdb ?_;try refine zqe ?_
 have hI14:=zAB hI13 hI4;refine AQs (X:=X4) (zAP (λ_ _ h=>TOrderV.mono h hI14) h5 hI14 (λ_ h=>h)) hG4 (by simp only [zU,List.length_map];omega) (λI5 X5 w5 hI5 hG5=>?_);unfold WH;try refine zqe ?_
 refine rdb ?_;try refine zqe ?_
 have hI15:=zAB hI14 hI5;refine AMr (X:=X5) (zAP (λ_ _ h=>LstX.mono h hI15) h7 hI15 (λ_ h=>h)) (by omega) hG5 (by simp only [zU,List.length_map];omega) (λI6 X6 w6 hI6 hG6=>?_);unfold SA;try refine zqe ?_
 refine rdb ?_;try refine zqe ?_
 have hI16:=zAB hI15 hI6;refine AMq (X:=X6) (zAP (λ_ _ h=>TSetV.mono h hI16) h8 hI16 (λ_ h=>h)) hG6 (by simp only [zU,List.length_map];omega) (λI7 X7 w7 hI7 hG7=>?_);unfold Ry;try refine zqe ?_
 refine rdb ?_;try refine zqe ?_
 have hI17:=zAB hI16 hI7;refine AMp (X:=X7) (zAP (λ_ _ h=>TColV.mono h hI17) h10 hI17 (λ_ h=>h)) hG7 (by simp only [zU,List.length_map];omega) (λI8 X8 w8 hI8 hG8=>?_);have hI18:=zAB hI17 hI8;have hA:([s.fWhere,s.fSelect.fWhere,s.fSelect.fHaving]++s.fSelect.fGroup++s.fSelect.fItems.map (λy=>y.fExpr)++s.fSelect.fFrom.map (λy=>y.fOn)++s.fSelect.fOrder.map (λy=>y.fExpr)++s.fRows.flatten++s.fSets.map (λy=>y.fExpr)++s.fCols.map (λy=>y.fDefault))=ALC s:=rfl;rw [hA] at hG8;have hlen:(ALC s).length≤1000000000000:=by simp only [←hA,zU,List.length_map];omega
 obtain ⟨q1,q2⟩:=ABa s;refine AMo hG8 hp hd (by rw [q1];exact hpx) hlen ?_;rw [q1,q2];exact zAA (hk I8 hI18)
end
theorem Tz:∀(l:List Bs) (y:Bs),AU (l++[y])=AU l++((if l.isEmpty then [] else [44,32])++y)
 |[],y=>rfl
 |[x],y=>by simp [AU]
 |x::z::l,y=>by
  have ih:=Tz (z::l) y;simp only [List.cons_append,AU] at ih ⊢;rw [ih];simp
theorem Yt:∀(a c:List Bs),(AU a).length≤(AU (a++c)).length
 |[],c=>Nat.zero_le _
 |[x],[]=>Nat.le_refl _
 |[x],z::c=>by simp [AU]
 |x::z::a,c=>by
  have ih:=Yt (z::a) c;simp only [List.cons_append,AU,List.length_append] at ih ⊢;omega
theorem FZ {α:Type}{g:α→Bs}{xs:List α}{k:Nat}(h:k < xs.length):AU ((xs.take (k+1)).map g)=AU ((xs.take k).map g)++((if k=0 then [] else [44,32])++g xs[k]):=by
 rw [List.take_succ_eq_append_getElem h,List.map_append];rw [show List.map g [xs[k]]=[g xs[k]] from rfl,Tz];congr 2
 cases k with
 |zero=>simp
 |succ k=>
  have:((xs.take (k+1)).map g).isEmpty=false:=by
   cases xs with
   |nil=>simp at h
   |cons x xs=>rfl
  rw [if_neg (by rw [this];decide),if_neg (by omega)]
theorem Gp {α:Type}(g:α→Bs)(xs:List α)(k:Nat):(AU ((xs.take k).map g)).length≤(AU (xs.map g)).length:=by
 have:=Yt ((xs.take k).map g) ((xs.drop k).map g);rwa [←List.map_append,List.take_append_drop] at this
def FnW {α:Type}(ω:Om)(b:Nat)(w:Value)(F:LH)(fv:Value)(R:Imm→α→Value→Prop)(g:α→Bs)(xs:List α)(I0:Imm):Prop:=
 ∀x∈xs,∀(I:Imm) (X:LH) (l:Bs) (v:Value) (K:Value→M),Ext I0 I→StL I w wordsL→WrS b w X l→R I x v→(l++g x).length≤1000000000→(∀I' X',Ext I I'→WrS b w X' (l++g x)→K (.tuple #[]) I' (X'++F))→CW ω fv #[v] K I (X++F)
def Ik {α:Type}(R:Imm→α→List Value→Prop)(I:Imm)(x:α)(v:Value):Prop:=∃c,v= .agg c.toArray∧R I x c
def ALH {α:Type}(R:Imm→α→List Value→Prop)(I:Imm)(x:α)(v:Value):Prop:=R I x [v]
theorem AAg {I:Imm}{L:LH}{K:Value→M}{b n T:Nat}{l:List Value}(h:(b,Obj.cells l.toArray T (0,0))∈L)(hl:l.length=n)(hk:K (.agg l.toArray) I L):Rv none (AC n (.pointer (some ⟨b,0,none⟩))) K I L:=
 rdN hl (λj u hu=>Cell.own h (by simpa using hu)) hk
section
variable {ω:Om}{I:Imm}{L F:LH}{K:Value→M}{b:Nat}{w:Value}{X:LH}{l:Bs}
theorem AFp {fv v:Value}{xs:List (Ex)}{g:Ex→Bs}(hxs:RL ExV 11 I [] v xs)(hw:StL I w wordsL)(hf:FnW ω b w F fv (Ik ExV) g xs I)(hxl:xs.length≤1000000000000)[hs:SplitL X L F](hW:WrS b w X l)(hn:(l++AU (xs.map g)).length≤1000000000)
  (hk:∀I' X',Ext I I'→WrS b w X' (l++AU (xs.map g))→K (.tuple #[]) I' (X'++F)):CT ω 206 #[AP b,v,fv] K I L:=by
 refine zAQ X ?_;refine ARh ?_;unfold ANl;simp only [zAM hxs,SSd,Nat.reduceAdd];refine loop (λq st I' L'=>∃(k:Nat) (X':LH),k+q=xs.length∧st=(.int .i64 k,())∧Ext I I'∧L'=X'++F∧WrS b w X' (l++AU ((xs.take k).map g))) xs.length ⟨0,X,by omega,rfl,zAC _,rfl,by simpa [AU] using hW⟩ ?_;rintro q st I' L' ⟨k,X',hkq,rfl,hI',rfl,hW'⟩;unfold ACI;try refine zqe ?_
 refine AB (λhb=>?_) (λhb=>?_)
 ·have hb:k < xs.length:=by
   have:=of_decide_eq_true hb;omega
  obtain ⟨bt,off,c1,g1,gl,g2,g3⟩:=zAS hxs (i:=k) (by omega) (by omega);rw [Af hb] at g2;have g2o:=g2;have g2:=ExV.mono hI' g2;have hct:=FZ (g:=g) hb;have hcl:=Gp g xs (k+1);rw [hct] at hcl;simp only [List.length_append] at hcl hn;simp only [g1,SSd,Nat.reduceAdd];have hone:=ExV.one g2;refine FK (g3 _ [] hI' (λ_ h=>h)) (zAC _) gl ?_;refine Ac (λb3=>?_);refine stB gl rfl hone ?_;try refine zqe ?_
  have fin:∀(I2:Imm) (X2:LH) (l2:Bs) (Y:LH),Ext I I2→WrS b w X2 l2→l2++g xs[k]=l++AU ((xs.take (k+1)).map g)→SubP (X2++((b3,.cells c1.toArray 37 (0,0))::F)) Y→QO ω fv (AP b3) (.int .i64 k) (λs'=>Gh λI2 L2=>∃m',m' < q∧∃(k:Nat) (X':LH),k+m'=xs.length∧s'=(.int .i64 k,())∧Ext I I2∧L2=X'++F∧WrS b w X' (l++AU ((xs.take k).map g))) (λv=>Gh (K v)) I2 Y:=by
   intro I2 X2 l2 Y hI2 hW2 hl2 hY;unfold QO;refine AAg (l:=c1) (T:=37) (by obtain ⟨R,hR⟩:=hY.sub;exact hR.mem_iff.2 (by simp)) gl ?_;refine Fj ?_;refine CalV.to (X2++F) (hs:=?_) ?_
   ·obtain ⟨R,hR⟩:=hY.sub;exact ⟨(b3,.cells c1.toArray 37 (0,0))::R,hR.trans (by rw [List.append_assoc,List.append_assoc];exact List.Perm.append_left X2 (by rw [List.cons_append];exact List.perm_middle.symm))⟩
   refine hf _ (List.getElem_mem hb) I2 X2 l2 _ _ hI2 (zAJ hw hI2) hW2 ⟨c1,rfl,ExV.mono hI2 g2o⟩ (by rw [hl2,hct];simp only [List.length_append];omega) (λI3 X3 hI3 hW3=>?_);simp only [wrap_i64 ((k:Int)+1) (by omega),SSd,Nat.reduceAdd];rw [hl2] at hW3;exact zAA ⟨q - 1,by omega,k+1,X3,by omega,rfl,zAB hI2 hI3,rfl,hW3⟩
  refine AB (λh0=>?_) (λh0=>?_)
  ·have h0:k≠0:=by have:=of_decide_eq_true h0;omega
   rw [if_neg h0] at hct hcl;refine BP (X:=X') hW' (by simp only [zU] at hcl ⊢;omega) (λI2 X2 hI2 hW2=>?_);exact fin I2 X2 _ _ (zAB hI' hI2) hW2 (by rw [hct];simp) inferInstance
  ·have h0:k=0:=by have:=of_decide_eq_false h0;omega
   rw [if_pos h0] at hct;exact fin I' X' _ _ hI' hW' (by rw [hct];simp) inferInstance
 ·have hb:¬k < xs.length:=by
   have:=of_decide_eq_false hb;omega
  rw [List.take_of_length_le (by omega)] at hW';exact zAA (hk I' X' hI' hW')
theorem ABQ {fv v:Value}{xs:List (TSet)}{g:TSet→Bs}(hxs:RL TSetV 12 I [] v xs)(hw:StL I w wordsL)(hf:FnW ω b w F fv (Ik TSetV) g xs I)(hxl:xs.length≤1000000000000)[hs:SplitL X L F](hW:WrS b w X l)(hn:(l++AU (xs.map g)).length≤1000000000)
  (hk:∀I' X',Ext I I'→WrS b w X' (l++AU (xs.map g))→K (.tuple #[]) I' (X'++F)):CT ω 118 #[AP b,v,fv] K I L:=by
 refine zAQ X ?_;refine ASt ?_;unfold AOl;simp only [zAM hxs,SSd,Nat.reduceAdd];refine loop (λq st I' L'=>∃(k:Nat) (X':LH),k+q=xs.length∧st=(.int .i64 k,())∧Ext I I'∧L'=X'++F∧WrS b w X' (l++AU ((xs.take k).map g))) xs.length ⟨0,X,by omega,rfl,zAC _,rfl,by simpa [AU] using hW⟩ ?_;rintro q st I' L' ⟨k,X',hkq,rfl,hI',rfl,hW'⟩;unfold ACv;try refine zqe ?_
 refine AB (λhb=>?_) (λhb=>?_)
 ·have hb:k < xs.length:=by
   have:=of_decide_eq_true hb;omega
  obtain ⟨bt,off,c1,g1,gl,g2,g3⟩:=zAS hxs (i:=k) (by omega) (by omega);rw [Af hb] at g2;have g2o:=g2;have g2:=g2.mono hI';have hct:=FZ (g:=g) hb;have hcl:=Gp g xs (k+1);rw [hct] at hcl;simp only [List.length_append] at hcl hn;simp only [g1,SSd,Nat.reduceAdd];have hone:=TSetV.one g2;refine FK (g3 _ [] hI' (λ_ h=>h)) (zAC _) gl ?_;refine Ac (λb3=>?_);refine stB gl rfl hone ?_;try refine zqe ?_
  have fin:∀(I2:Imm) (X2:LH) (l2:Bs) (Y:LH),Ext I I2→WrS b w X2 l2→l2++g xs[k]=l++AU ((xs.take (k+1)).map g)→SubP (X2++((b3,.cells c1.toArray 99 (0,0))::F)) Y→Qi ω fv (AP b3) (.int .i64 k) (λs'=>Gh λI2 L2=>∃m',m' < q∧∃(k:Nat) (X':LH),k+m'=xs.length∧s'=(.int .i64 k,())∧Ext I I2∧L2=X'++F∧WrS b w X' (l++AU ((xs.take k).map g))) (λv=>Gh (K v)) I2 Y:=by
   intro I2 X2 l2 Y hI2 hW2 hl2 hY;unfold Qi;refine AAg (l:=c1) (T:=99) (by obtain ⟨R,hR⟩:=hY.sub;exact hR.mem_iff.2 (by simp)) gl ?_;refine Fj ?_;refine CalV.to (X2++F) (hs:=?_) ?_
   ·obtain ⟨R,hR⟩:=hY.sub;exact ⟨(b3,.cells c1.toArray 99 (0,0))::R,hR.trans (by rw [List.append_assoc,List.append_assoc];exact List.Perm.append_left X2 (by rw [List.cons_append];exact List.perm_middle.symm))⟩
   refine hf _ (List.getElem_mem hb) I2 X2 l2 _ _ hI2 (zAJ hw hI2) hW2 ⟨c1,rfl,g2o.mono hI2⟩ (by rw [hl2,hct];simp only [List.length_append];omega) (λI3 X3 hI3 hW3=>?_);simp only [wrap_i64 ((k:Int)+1) (by omega),SSd,Nat.reduceAdd];rw [hl2] at hW3;exact zAA ⟨q - 1,by omega,k+1,X3,by omega,rfl,zAB hI2 hI3,rfl,hW3⟩
  refine AB (λh0=>?_) (λh0=>?_)
  ·have h0:k≠0:=by have:=of_decide_eq_true h0;omega
   rw [if_neg h0] at hct hcl;refine BP (X:=X') hW' (by simp only [zU] at hcl ⊢;omega) (λI2 X2 hI2 hW2=>?_);exact fin I2 X2 _ _ (zAB hI' hI2) hW2 (by rw [hct];simp) inferInstance
  ·have h0:k=0:=by have:=of_decide_eq_false h0;omega
   rw [if_pos h0] at hct;exact fin I' X' _ _ hI' hW' (by rw [hct];simp) inferInstance
 ·have hb:¬k < xs.length:=by
   have:=of_decide_eq_false hb;omega
  rw [List.take_of_length_le (by omega)] at hW';exact zAA (hk I' X' hI' hW')
theorem Yr {fv v:Value}{xs:List (TItem)}{g:TItem→Bs}(hxs:RL TItemV 14 I [] v xs)(hw:StL I w wordsL)(hf:FnW ω b w F fv (Ik TItemV) g xs I)(hxl:xs.length≤1000000000000)[hs:SplitL X L F](hW:WrS b w X l)(hn:(l++AU (xs.map g)).length≤1000000000)
  (hk:∀I' X',Ext I I'→WrS b w X' (l++AU (xs.map g))→K (.tuple #[]) I' (X'++F)):CT ω 164 #[AP b,v,fv] K I L:=by
 refine zAQ X ?_;refine ASO ?_;unfold AOM;simp only [zAM hxs,SSd,Nat.reduceAdd];refine loop (λq st I' L'=>∃(k:Nat) (X':LH),k+q=xs.length∧st=(.int .i64 k,())∧Ext I I'∧L'=X'++F∧WrS b w X' (l++AU ((xs.take k).map g))) xs.length ⟨0,X,by omega,rfl,zAC _,rfl,by simpa [AU] using hW⟩ ?_;rintro q st I' L' ⟨k,X',hkq,rfl,hI',rfl,hW'⟩;unfold ACa;try refine zqe ?_
 refine AB (λhb=>?_) (λhb=>?_)
 ·have hb:k < xs.length:=by
   have:=of_decide_eq_true hb;omega
  obtain ⟨bt,off,c1,g1,gl,g2,g3⟩:=zAS hxs (i:=k) (by omega) (by omega);rw [Af hb] at g2;have g2o:=g2;have g2:=g2.mono hI';have hct:=FZ (g:=g) hb;have hcl:=Gp g xs (k+1);rw [hct] at hcl;simp only [List.length_append] at hcl hn;simp only [g1,SSd,Nat.reduceAdd];have hone:=TItemV.one g2;refine FK (g3 _ [] hI' (λ_ h=>h)) (zAC _) gl ?_;refine Ac (λb3=>?_);refine stB gl rfl hone ?_;try refine zqe ?_
  have fin:∀(I2:Imm) (X2:LH) (l2:Bs) (Y:LH),Ext I I2→WrS b w X2 l2→l2++g xs[k]=l++AU ((xs.take (k+1)).map g)→SubP (X2++((b3,.cells c1.toArray 119 (0,0))::F)) Y→QW ω fv (AP b3) (.int .i64 k) (λs'=>Gh λI2 L2=>∃m',m' < q∧∃(k:Nat) (X':LH),k+m'=xs.length∧s'=(.int .i64 k,())∧Ext I I2∧L2=X'++F∧WrS b w X' (l++AU ((xs.take k).map g))) (λv=>Gh (K v)) I2 Y:=by
   intro I2 X2 l2 Y hI2 hW2 hl2 hY;unfold QW;refine AAg (l:=c1) (T:=119) (by obtain ⟨R,hR⟩:=hY.sub;exact hR.mem_iff.2 (by simp)) gl ?_;refine Fj ?_;refine CalV.to (X2++F) (hs:=?_) ?_
   ·obtain ⟨R,hR⟩:=hY.sub;exact ⟨(b3,.cells c1.toArray 119 (0,0))::R,hR.trans (by rw [List.append_assoc,List.append_assoc];exact List.Perm.append_left X2 (by rw [List.cons_append];exact List.perm_middle.symm))⟩
   refine hf _ (List.getElem_mem hb) I2 X2 l2 _ _ hI2 (zAJ hw hI2) hW2 ⟨c1,rfl,g2o.mono hI2⟩ (by rw [hl2,hct];simp only [List.length_append];omega) (λI3 X3 hI3 hW3=>?_);simp only [wrap_i64 ((k:Int)+1) (by omega),SSd,Nat.reduceAdd];rw [hl2] at hW3;exact zAA ⟨q - 1,by omega,k+1,X3,by omega,rfl,zAB hI2 hI3,rfl,hW3⟩
  refine AB (λh0=>?_) (λh0=>?_)
  ·have h0:k≠0:=by have:=of_decide_eq_true h0;omega
   rw [if_neg h0] at hct hcl;refine BP (X:=X') hW' (by simp only [zU] at hcl ⊢;omega) (λI2 X2 hI2 hW2=>?_);exact fin I2 X2 _ _ (zAB hI' hI2) hW2 (by rw [hct];simp) inferInstance
  ·have h0:k=0:=by have:=of_decide_eq_false h0;omega
   rw [if_pos h0] at hct;exact fin I' X' _ _ hI' hW' (by rw [hct];simp) inferInstance
 ·have hb:¬k < xs.length:=by
   have:=of_decide_eq_false hb;omega
  rw [List.take_of_length_le (by omega)] at hW';exact zAA (hk I' X' hI' hW')
theorem XE {fv v:Value}{xs:List (TOrder)}{g:TOrder→Bs}(hxs:RL TOrderV 12 I [] v xs)(hw:StL I w wordsL)(hf:FnW ω b w F fv (Ik TOrderV) g xs I)(hxl:xs.length≤1000000000000)[hs:SplitL X L F](hW:WrS b w X l)(hn:(l++AU (xs.map g)).length≤1000000000)
  (hk:∀I' X',Ext I I'→WrS b w X' (l++AU (xs.map g))→K (.tuple #[]) I' (X'++F)):CT ω 169 #[AP b,v,fv] K I L:=by
 refine zAQ X ?_;refine ASI ?_;unfold AOI;simp only [zAM hxs,SSd,Nat.reduceAdd];refine loop (λq st I' L'=>∃(k:Nat) (X':LH),k+q=xs.length∧st=(.int .i64 k,())∧Ext I I'∧L'=X'++F∧WrS b w X' (l++AU ((xs.take k).map g))) xs.length ⟨0,X,by omega,rfl,zAC _,rfl,by simpa [AU] using hW⟩ ?_;rintro q st I' L' ⟨k,X',hkq,rfl,hI',rfl,hW'⟩;unfold ACY;try refine zqe ?_
 refine AB (λhb=>?_) (λhb=>?_)
 ·have hb:k < xs.length:=by
   have:=of_decide_eq_true hb;omega
  obtain ⟨bt,off,c1,g1,gl,g2,g3⟩:=zAS hxs (i:=k) (by omega) (by omega);rw [Af hb] at g2;have g2o:=g2;have g2:=g2.mono hI';have hct:=FZ (g:=g) hb;have hcl:=Gp g xs (k+1);rw [hct] at hcl;simp only [List.length_append] at hcl hn;simp only [g1,SSd,Nat.reduceAdd];have hone:=TOrderV.one g2;refine FK (g3 _ [] hI' (λ_ h=>h)) (zAC _) gl ?_;refine Ac (λb3=>?_);refine stB gl rfl hone ?_;try refine zqe ?_
  have fin:∀(I2:Imm) (X2:LH) (l2:Bs) (Y:LH),Ext I I2→WrS b w X2 l2→l2++g xs[k]=l++AU ((xs.take (k+1)).map g)→SubP (X2++((b3,.cells c1.toArray 127 (0,0))::F)) Y→QU ω fv (AP b3) (.int .i64 k) (λs'=>Gh λI2 L2=>∃m',m' < q∧∃(k:Nat) (X':LH),k+m'=xs.length∧s'=(.int .i64 k,())∧Ext I I2∧L2=X'++F∧WrS b w X' (l++AU ((xs.take k).map g))) (λv=>Gh (K v)) I2 Y:=by
   intro I2 X2 l2 Y hI2 hW2 hl2 hY;unfold QU;refine AAg (l:=c1) (T:=127) (by obtain ⟨R,hR⟩:=hY.sub;exact hR.mem_iff.2 (by simp)) gl ?_;refine Fj ?_;refine CalV.to (X2++F) (hs:=?_) ?_
   ·obtain ⟨R,hR⟩:=hY.sub;exact ⟨(b3,.cells c1.toArray 127 (0,0))::R,hR.trans (by rw [List.append_assoc,List.append_assoc];exact List.Perm.append_left X2 (by rw [List.cons_append];exact List.perm_middle.symm))⟩
   refine hf _ (List.getElem_mem hb) I2 X2 l2 _ _ hI2 (zAJ hw hI2) hW2 ⟨c1,rfl,g2o.mono hI2⟩ (by rw [hl2,hct];simp only [List.length_append];omega) (λI3 X3 hI3 hW3=>?_);simp only [wrap_i64 ((k:Int)+1) (by omega),SSd,Nat.reduceAdd];rw [hl2] at hW3;exact zAA ⟨q - 1,by omega,k+1,X3,by omega,rfl,zAB hI2 hI3,rfl,hW3⟩
  refine AB (λh0=>?_) (λh0=>?_)
  ·have h0:k≠0:=by have:=of_decide_eq_true h0;omega
   rw [if_neg h0] at hct hcl;refine BP (X:=X') hW' (by simp only [zU] at hcl ⊢;omega) (λI2 X2 hI2 hW2=>?_);exact fin I2 X2 _ _ (zAB hI' hI2) hW2 (by rw [hct];simp) inferInstance
  ·have h0:k=0:=by have:=of_decide_eq_false h0;omega
   rw [if_pos h0] at hct;exact fin I' X' _ _ hI' hW' (by rw [hct];simp) inferInstance
 ·have hb:¬k < xs.length:=by
   have:=of_decide_eq_false hb;omega
  rw [List.take_of_length_le (by omega)] at hW';exact zAA (hk I' X' hI' hW')
theorem ABS {fv v:Value}{xs:List (TCol)}{g:TCol→Bs}(hxs:RL TColV 16 I [] v xs)(hw:StL I w wordsL)(hf:FnW ω b w F fv (Ik TColV) g xs I)(hxl:xs.length≤1000000000000)[hs:SplitL X L F](hW:WrS b w X l)(hn:(l++AU (xs.map g)).length≤1000000000)
  (hk:∀I' X',Ext I I'→WrS b w X' (l++AU (xs.map g))→K (.tuple #[]) I' (X'++F)):CT ω 180 #[AP b,v,fv] K I L:=by
 refine zAQ X ?_;refine ARz ?_;unfold AOA;simp only [zAM hxs,SSd,Nat.reduceAdd];refine loop (λq st I' L'=>∃(k:Nat) (X':LH),k+q=xs.length∧st=(.int .i64 k,())∧Ext I I'∧L'=X'++F∧WrS b w X' (l++AU ((xs.take k).map g))) xs.length ⟨0,X,by omega,rfl,zAC _,rfl,by simpa [AU] using hW⟩ ?_;rintro q st I' L' ⟨k,X',hkq,rfl,hI',rfl,hW'⟩;unfold ACT;try refine zqe ?_
 refine AB (λhb=>?_) (λhb=>?_)
 ·have hb:k < xs.length:=by
   have:=of_decide_eq_true hb;omega
  obtain ⟨bt,off,c1,g1,gl,g2,g3⟩:=zAS hxs (i:=k) (by omega) (by omega);rw [Af hb] at g2;have g2o:=g2;have g2:=g2.mono hI';have hct:=FZ (g:=g) hb;have hcl:=Gp g xs (k+1);rw [hct] at hcl;simp only [List.length_append] at hcl hn;simp only [g1,SSd,Nat.reduceAdd];have hone:=TColV.one g2;refine FK (g3 _ [] hI' (λ_ h=>h)) (zAC _) gl ?_;refine Ac (λb3=>?_);refine stB gl rfl hone ?_;try refine zqe ?_
  have fin:∀(I2:Imm) (X2:LH) (l2:Bs) (Y:LH),Ext I I2→WrS b w X2 l2→l2++g xs[k]=l++AU ((xs.take (k+1)).map g)→SubP (X2++((b3,.cells c1.toArray 101 (0,0))::F)) Y→QR ω fv (AP b3) (.int .i64 k) (λs'=>Gh λI2 L2=>∃m',m' < q∧∃(k:Nat) (X':LH),k+m'=xs.length∧s'=(.int .i64 k,())∧Ext I I2∧L2=X'++F∧WrS b w X' (l++AU ((xs.take k).map g))) (λv=>Gh (K v)) I2 Y:=by
   intro I2 X2 l2 Y hI2 hW2 hl2 hY;unfold QR;refine AAg (l:=c1) (T:=101) (by obtain ⟨R,hR⟩:=hY.sub;exact hR.mem_iff.2 (by simp)) gl ?_;refine Fj ?_;refine CalV.to (X2++F) (hs:=?_) ?_
   ·obtain ⟨R,hR⟩:=hY.sub;exact ⟨(b3,.cells c1.toArray 101 (0,0))::R,hR.trans (by rw [List.append_assoc,List.append_assoc];exact List.Perm.append_left X2 (by rw [List.cons_append];exact List.perm_middle.symm))⟩
   refine hf _ (List.getElem_mem hb) I2 X2 l2 _ _ hI2 (zAJ hw hI2) hW2 ⟨c1,rfl,g2o.mono hI2⟩ (by rw [hl2,hct];simp only [List.length_append];omega) (λI3 X3 hI3 hW3=>?_);simp only [wrap_i64 ((k:Int)+1) (by omega),SSd,Nat.reduceAdd];rw [hl2] at hW3;exact zAA ⟨q - 1,by omega,k+1,X3,by omega,rfl,zAB hI2 hI3,rfl,hW3⟩
  refine AB (λh0=>?_) (λh0=>?_)
  ·have h0:k≠0:=by have:=of_decide_eq_true h0;omega
   rw [if_neg h0] at hct hcl;refine BP (X:=X') hW' (by simp only [zU] at hcl ⊢;omega) (λI2 X2 hI2 hW2=>?_);exact fin I2 X2 _ _ (zAB hI' hI2) hW2 (by rw [hct];simp) inferInstance
  ·have h0:k=0:=by have:=of_decide_eq_false h0;omega
   rw [if_pos h0] at hct;exact fin I' X' _ _ hI' hW' (by rw [hct];simp) inferInstance
 ·have hb:¬k < xs.length:=by
   have:=of_decide_eq_false hb;omega
  rw [List.take_of_length_le (by omega)] at hW';exact zAA (hk I' X' hI' hW')
theorem ABP {fv v:Value}{xs:List (Bs)}{g:Bs→Bs}(hxs:RL StrV 1 I [] v xs)(hw:StL I w wordsL)(hf:FnW ω b w F fv (ALH StrV) g xs I)(hxl:xs.length≤1000000000000)[hs:SplitL X L F](hW:WrS b w X l)(hn:(l++AU (xs.map g)).length≤1000000000)
  (hk:∀I' X',Ext I I'→WrS b w X' (l++AU (xs.map g))→K (.tuple #[]) I' (X'++F)):CT ω 174 #[AP b,v,fv] K I L:=by
 refine zAQ X ?_;refine ASF ?_;unfold AOG;simp only [zAM hxs,SSd,Nat.reduceAdd];refine loop (λq st I' L'=>∃(k:Nat) (X':LH),k+q=xs.length∧st=(.int .i64 k,())∧Ext I I'∧L'=X'++F∧WrS b w X' (l++AU ((xs.take k).map g))) xs.length ⟨0,X,by omega,rfl,zAC _,rfl,by simpa [AU] using hW⟩ ?_;rintro q st I' L' ⟨k,X',hkq,rfl,hI',rfl,hW'⟩;unfold ACX;try refine zqe ?_
 refine AB (λhb=>?_) (λhb=>?_)
 ·have hb:k < xs.length:=by
   have:=of_decide_eq_true hb;omega
  obtain ⟨bt,off,c1,g1,gl,g2,g3⟩:=zAS hxs (i:=k) (by omega) (by omega);rw [Af hb] at g2;have g2o:=g2;have g2:=g2;have hct:=FZ (g:=g) hb;have hcl:=Gp g xs (k+1);rw [hct] at hcl;simp only [List.length_append] at hcl hn;simp only [g1,SSd,Nat.reduceAdd];obtain ⟨u,rfl⟩:∃u,c1=[u]:=by match c1,gl with|[u],_=>exact ⟨u,rfl⟩
  refine rdC (g3 _ [] hI' (λ_ h=>h) 0 _ rfl) (zAC _) ?_;try refine zqe ?_
  have fin:∀(I2:Imm) (X2:LH) (l2:Bs) (Y:LH),Ext I I2→WrS b w X2 l2→l2++g xs[k]=l++AU ((xs.take (k+1)).map g)→SubP (X2++F) Y→QT ω fv u (.int .i64 k) (λs'=>Gh λI2 L2=>∃m',m' < q∧∃(k:Nat) (X':LH),k+m'=xs.length∧s'=(.int .i64 k,())∧Ext I I2∧L2=X'++F∧WrS b w X' (l++AU ((xs.take k).map g))) (λv=>Gh (K v)) I2 Y:=by
   intro I2 X2 l2 Y hI2 hW2 hl2 hY;unfold QT;refine Fj ?_;refine CalV.to (X2++F) (hs:=?_) ?_
   ·obtain ⟨R,hR⟩:=hY.sub;exact ⟨R,hR⟩
   refine hf _ (List.getElem_mem hb) I2 X2 l2 _ _ hI2 (zAJ hw hI2) hW2 (show StrV _ _ _ from g2o) (by rw [hl2,hct];simp only [List.length_append];omega) (λI3 X3 hI3 hW3=>?_);simp only [wrap_i64 ((k:Int)+1) (by omega),SSd,Nat.reduceAdd];rw [hl2] at hW3;exact zAA ⟨q - 1,by omega,k+1,X3,by omega,rfl,zAB hI2 hI3,rfl,hW3⟩
  refine AB (λh0=>?_) (λh0=>?_)
  ·have h0:k≠0:=by have:=of_decide_eq_true h0;omega
   rw [if_neg h0] at hct hcl;refine BP (X:=X') hW' (by simp only [zU] at hcl ⊢;omega) (λI2 X2 hI2 hW2=>?_);exact fin I2 X2 _ _ (zAB hI' hI2) hW2 (by rw [hct];simp) inferInstance
  ·have h0:k=0:=by have:=of_decide_eq_false h0;omega
   rw [if_pos h0] at hct;exact fin I' X' _ _ hI' hW' (by rw [hct];simp) inferInstance
 ·have hb:¬k < xs.length:=by
   have:=of_decide_eq_false hb;omega
  rw [List.take_of_length_le (by omega)] at hW';exact zAA (hk I' X' hI' hW')
theorem ABR {fv v:Value}{xs:List (List Ex)}{g:List Ex→Bs}(hxs:RL (Hl ExV 11) 1 I [] v xs)(hw:StL I w wordsL)(hf:FnW ω b w F fv (ALH (Hl ExV 11)) g xs I)(hxl:xs.length≤1000000000000)[hs:SplitL X L F](hW:WrS b w X l)(hn:(l++AU (xs.map g)).length≤1000000000)
  (hk:∀I' X',Ext I I'→WrS b w X' (l++AU (xs.map g))→K (.tuple #[]) I' (X'++F)):CT ω 116 #[AP b,v,fv] K I L:=by
 refine zAQ X ?_;refine ASv ?_;unfold AOn;simp only [zAM hxs,SSd,Nat.reduceAdd];refine loop (λq st I' L'=>∃(k:Nat) (X':LH),k+q=xs.length∧st=(.int .i64 k,())∧Ext I I'∧L'=X'++F∧WrS b w X' (l++AU ((xs.take k).map g))) xs.length ⟨0,X,by omega,rfl,zAC _,rfl,by simpa [AU] using hW⟩ ?_;rintro q st I' L' ⟨k,X',hkq,rfl,hI',rfl,hW'⟩;unfold ACw;try refine zqe ?_
 refine AB (λhb=>?_) (λhb=>?_)
 ·have hb:k < xs.length:=by
   have:=of_decide_eq_true hb;omega
  obtain ⟨bt,off,c1,g1,gl,g2,g3⟩:=zAS hxs (i:=k) (by omega) (by omega);rw [Af hb] at g2;have g2o:=g2;have g2:=LstX.mono g2 hI';have hct:=FZ (g:=g) hb;have hcl:=Gp g xs (k+1);rw [hct] at hcl;simp only [List.length_append] at hcl hn;simp only [g1,SSd,Nat.reduceAdd];obtain ⟨u,rfl⟩:∃u,c1=[u]:=by match c1,gl with|[u],_=>exact ⟨u,rfl⟩
  refine rdC (g3 _ [] hI' (λ_ h=>h) 0 _ rfl) (zAC _) ?_;try refine zqe ?_
  have fin:∀(I2:Imm) (X2:LH) (l2:Bs) (Y:LH),Ext I I2→WrS b w X2 l2→l2++g xs[k]=l++AU ((xs.take (k+1)).map g)→SubP (X2++F) Y→Qj ω fv u (.int .i64 k) (λs'=>Gh λI2 L2=>∃m',m' < q∧∃(k:Nat) (X':LH),k+m'=xs.length∧s'=(.int .i64 k,())∧Ext I I2∧L2=X'++F∧WrS b w X' (l++AU ((xs.take k).map g))) (λv=>Gh (K v)) I2 Y:=by
   intro I2 X2 l2 Y hI2 hW2 hl2 hY;unfold Qj;refine Fj ?_;refine CalV.to (X2++F) (hs:=?_) ?_
   ·obtain ⟨R,hR⟩:=hY.sub;exact ⟨R,hR⟩
   refine hf _ (List.getElem_mem hb) I2 X2 l2 _ _ hI2 (zAJ hw hI2) hW2 (show (Hl ExV 11) _ _ _ from LstX.mono g2o hI2) (by rw [hl2,hct];simp only [List.length_append];omega) (λI3 X3 hI3 hW3=>?_);simp only [wrap_i64 ((k:Int)+1) (by omega),SSd,Nat.reduceAdd];rw [hl2] at hW3;exact zAA ⟨q - 1,by omega,k+1,X3,by omega,rfl,zAB hI2 hI3,rfl,hW3⟩
  refine AB (λh0=>?_) (λh0=>?_)
  ·have h0:k≠0:=by have:=of_decide_eq_true h0;omega
   rw [if_neg h0] at hct hcl;refine BP (X:=X') hW' (by simp only [zU] at hcl ⊢;omega) (λI2 X2 hI2 hW2=>?_);exact fin I2 X2 _ _ (zAB hI' hI2) hW2 (by rw [hct];simp) inferInstance
  ·have h0:k=0:=by have:=of_decide_eq_false h0;omega
   rw [if_pos h0] at hct;exact fin I' X' _ _ hI' hW' (by rw [hct];simp) inferInstance
 ·have hb:¬k < xs.length:=by
   have:=of_decide_eq_false hb;omega
  rw [List.take_of_length_le (by omega)] at hW';exact zAA (hk I' X' hI' hW')
end
theorem FN {x:Ex}:∀{l:List Ex},x∈l→Dl x≤Bc l
 |y::l,h=>by
  rcases List.mem_cons.1 h with rfl|h
  ·simp only [Bc];omega
  ·have:=FN h;simp only [Bc];omega
theorem TU (b:Bool):∀(n:Nat) (x:Ex) (k:Int),Dl x≤n→∀m,Dl x≤m→MN b n x k=MN b m x k
 |0,x,k,h,_,_=>by have:=Fh x;omega
 |n+1,x,k,h,0,h'=>by have:=Fh x;omega
 |n+1,x,k,h,m+1,h'=>by
  simp only [MN];congr 2
  funext i lv
  cases hx:x.args[i]? with
  |none=>rfl
  |some y=>
   have hm:=FN (List.mem_of_getElem? hx);have:=EL x;exact TU b n y lv (by omega) m (by omega)
def BO (b:Bool)(x:Ex)(i:Nat)(k:Int):Bs:=match x.args[i]? with
 |some y=>exB b y k
 |none=>[63]
theorem AJi (b:Bool)(x:Ex)(k:Int):exB b x k=YP (decide (Wi x.kind < k)) (Ap b x (BO b x)):=by
 unfold exB;have hd:=EL x;rw [show Dl x=Bc x.args+1 from hd];simp only [MN];congr 2
 funext i lv
 unfold BO;cases hx:x.args[i]? with
 |none=>rfl
 |some y=>
  have hm:=FN (List.mem_of_getElem? hx);exact TU b _ y lv hm _ (Nat.le_refl _)
theorem PK {b:Bool}{x:Ex}{i:Nat}(h:i < x.args.length)(k:Int):BO b x i k=exB b x.args[i] k:=by
 unfold BO;rw [List.getElem?_eq_getElem h]
theorem AFx {b:Bool}{x:Ex}{i:Nat}(h:¬i < x.args.length)(k:Int):BO b x i k=[63]:=by
 unfold BO;rw [List.getElem?_eq_none (by omega)]
theorem Gg (b:Bool)(x:Ex)(d:Nat):((List.range (x.args.length - d)).map λi=>BO b x (i+d) 1)=(x.args.drop d).map λy=>exB b y 1:=by
 apply List.ext_getElem
 ·simp
 ·intro i h1 h2;simp only [List.length_map,List.length_range] at h1;rw [List.getElem_map,List.getElem_range,List.getElem_map,List.getElem_drop,PK (by omega)];congr 2;omega
theorem AGi (k:Int):(CQ k).all (λp=>decide (1≤p.2)&&decide (p.2≤6))=true:=by
 unfold CQ;by_cases h22:k=22
 ·subst h22;rfl
 by_cases h21:k=21
 ·subst h21;rfl
 by_cases h23:k=23
 ·subst h23;rfl
 by_cases h15:k=15
 ·subst h15;rfl
 by_cases h16:k=16
 ·subst h16;rfl
 by_cases h17:k=17
 ·subst h17;rfl
 by_cases h18:k=18
 ·subst h18;rfl
 by_cases h19:k=19
 ·subst h19;rfl
 by_cases h20:k=20
 ·subst h20;rfl
 by_cases h9:k=9
 ·subst h9;rfl
 by_cases h10:k=10
 ·subst h10;rfl
 by_cases h14:k=14
 ·subst h14;rfl
 by_cases h11:k=11
 ·subst h11;rfl
 by_cases h12:k=12
 ·subst h12;rfl
 by_cases h13:k=13
 ·subst h13;rfl
 simp only [h22,h21,h23,h15,h16,h17,h18,h19,h20,h9,h10,h14,h11,h12,h13,if_false];rfl
theorem Ru {k:Int}{s:Bs}{n:Int}(h:CQ k=some (s,n)):1≤n∧n≤6:=by
 have:=AGi k;rw [h] at this;simpa using this
mutual
def okE:Ex→Prop
 | .mk _ v _ _ _ _ _ l=>okI v.fInt∧l.length≤1000000000000∧okL l
def okL:List Ex→Prop
 |[]=>True
 |x::l=>okE x∧okL l
end
theorem JP {x:Ex}(h:okE x):okI x.value.fInt∧x.args.length≤1000000000000∧okL x.args:=by cases x;simpa only [okE,Ex.value,Ex.args] using h
theorem Hz {x:Ex}:∀{l:List Ex},okL l→x∈l→okE x
 |y::l,h,hx=>by
  rcases List.mem_cons.1 hx with rfl|hx
  ·exact h.1
  ·exact Hz h.2 hx
theorem Nw:∀{l:List Ex},(∀x∈l,okE x)→okL l
 |[],_=>trivial
 |x::l,h=>⟨h x (List.mem_cons_self ..),Nw λy hy=>h y (List.mem_cons_of_mem _ hy)⟩
def UK (ω:Om)(G:Imm)(b:Nat)(w:Value)(n:Nat):Prop:=∀(x:Ex),Dl x≤n→okE x→∀(k:Int) (I:Imm) (X F:LH) (l:Bs) (c:List Value) (K:Value→M),Ext G I→StL I w wordsL→WrS b w X l→ExV I x c→
 (l++exB true x k).length≤1000000000→(∀I' X',Ext I I'→WrS b w X' (l++exB true x k)→K (.tuple #[]) I' (X'++F))→CT ω 120 #[AP b,.agg c.toArray,.int .i64 k] K I (X++F)
section
variable {ω:Om}{G I:Imm}{L F:LH}{K:Value→M}{b:Nat}{w:Value}{X:LH}{l:Bs}{n:Nat}
theorem BQ (hE:UK ω G b w n){x:Ex}(hd:Dl x≤n+1)(hx:okE x)(i:Nat)(k:Int)(hGI:Ext G I)(hw:StL I w wordsL)[hs:SplitL X L F](hW:WrS b w X l){c:List Value}(hc:ExV I x c)
  (hn:(l++BO true x i k).length≤1000000000) (hk:∀I' X',Ext I I'→WrS b w X' (l++BO true x i k)→K (.tuple #[]) I' (X'++F)):CT ω 177 #[AP b,.agg c.toArray,.int .i64 (i:Nat),.int .i64 k] K I L:=by
 refine zAQ X ?_;refine ASC ?_;unfold AOD;obtain ⟨v,rfl,ha⟩:=ExV.iff.1 hc;refine Ac (λbx=>?_);try refine zqe ?_
 refine rdb ?_;simp only [zAM ha,SSd,Nat.reduceAdd];refine AB (λh=>?_) (λh=>?_)
 ·have h:¬i < x.args.length:=by have:=of_decide_eq_true h;omega
  rw [AFx h] at hn hk;refine BP (X:=X) hW hn (λI' X' hI' hW'=>?_);exact zAE (X'++F) (zAA (hk I' X' hI' hW'))
 ·have h:i < x.args.length:=by have:=of_decide_eq_false h;omega
  rw [PK h] at hn hk;have hdd:=EL x;have hm:=FN (List.getElem_mem h);obtain ⟨bt,off,c1,g1,gl,g2,g3⟩:=zAS ha (i:=i) (by omega) (by omega);rw [Af h] at g2;try refine zqe ?_
  refine rdb ?_;simp only [g1,SSd,Nat.reduceAdd];refine FK (g3 _ [] (zAC _) (λ_ h=>h)) (zAC _) gl ?_;refine call (Cal.to (X++F) (hE x.args[i] (by omega) (Hz (JP hx).2.2 (List.getElem_mem h)) k I X F l c1 _ hGI hw hW g2 hn (λI' X' hI' hW'=>?_)));exact zAA (hk I' X' hI' hW')
theorem ZA {P:Program}{f:FuncId}{a:Value}{args:Array Value}(he:CX P f=true)(h:Cal P ω f (#[a]++args) K I L):CalV P ω (.func (.func f) #[a] #[]) args K I L:=by
 unfold CalV;simp only [he,if_true];simpa using h
theorem RJ (hE:UK ω G b w n){xs:List Ex}(hd:Bc xs≤n)(hx:okL xs)(hxl:xs.length≤1000000000000)(hGI:Ext G I)(hw:StL I w wordsL)[hs:SplitL X L F](hW:WrS b w X l){v:Value}(hv:ExL I v xs)
  (hn:(l++Iu true xs).length≤1000000000) (hk:∀I' X',Ext I I'→WrS b w X' (l++Iu true xs)→K (.tuple #[]) I' (X'++F)):CT ω 168 #[AP b,v] K I L:=by
 refine zAQ X ?_;refine ASJ ?_;unfold AOJ;refine Ac (o:=.cells [AP b].toArray 108 (0,0)) (λbw=>?_);refine rdb ?_;refine call (AFp (X:=X) (g:=λx=>exB true x 1) (F:=(bw,.cells [AP b].toArray 108 (0,0))::F) hv hw ?_ hxl hW hn (λI' X' hI' hW'=>?_) (hs:=⟨List.perm_middle.symm⟩))
 ·intro x hxm I2 X2 l2 vx K2 hI2 hw2 hW2 hvx hn2 hk2;obtain ⟨c,rfl,hc⟩:=hvx;obtain ⟨v',rfl,ha⟩:=ExV.iff.1 hc;refine Ib (by kernel_rfl) ?_;refine ARg ?_;show AHT ω (.agg (Ak x v').toArray) (AP bw) _ I2 _;unfold AHT;refine Ac (λbx=>?_);refine rdb ?_;refine rdB rfl ?_;refine call (Cal.to (X2++((bw,.cells [AP b].toArray 108 (0,0))::F)) (hE x (Nat.le_trans (FN hxm) hd) (Hz hx hxm) 1 I2 X2 _ l2 _ _ (zAB hGI hI2) hw2 hW2 hc hn2 (λI3 X3 hI3 hW3=>?_)));exact zAA (hk2 I3 X3 hI3 hW3)
 ·exact zAE (X'++F) (zAA (hk I' X' hI' hW'))
theorem LU (hE:UK ω G b w n){xs:List Ex}(hd:Bc xs≤n)(hx:okL xs)(hxl:xs.length≤1000000000000)(hGI:Ext G I)(hw:StL I w wordsL)[hs:SplitL X L F](hW:WrS b w X l){v:Value}(hv:ExL I v xs)
  (hn:(l++rowB true xs).length≤1000000000) (hk:∀I' X',Ext I I'→WrS b w X' (l++rowB true xs)→K (.tuple #[]) I' (X'++F)):CT ω 117 #[AP b,v] K I L:=by
 refine zAQ X ?_;refine ASu ?_;unfold AOm;have he:rowB true xs=[40]++(Iu true xs++[41]):=by simp [rowB]
 rw [he] at hn hk;simp only [List.length_append] at hn;refine BP hW (by simp only [List.length_append];omega) (λI1 X1 hI1 hW1=>?_);refine call (RJ hE hd hx hxl (zAB hGI hI1) (zAJ hw hI1) hW1 (zAN hv hI1) (by simp only [List.length_append];omega) (λI2 X2 hI2 hW2=>?_));refine BP hW2 (by simp only [List.length_append];omega) (λI3 X3 hI3 hW3=>?_);exact zAA (hk I3 X3 (zAB hI1 (zAB hI2 hI3)) (by simpa using hW3))
end
def caseT (n:Nat)(arg:Nat→Int→Bs)(k:Nat):Bs:=(List.range k).flatMap λi=>(if i % 2=1 then [32,116,104,101,110,32] else if i+1=n then [32,101,108,115,101,32] else [32,119,104,101,110,32])++arg i 1
theorem UE (n:Nat)(arg:Nat→Int→Bs)(k:Nat):caseT n arg (k+1)=caseT n arg k++((if k % 2=1 then [32,116,104,101,110,32] else if k+1=n then [32,101,108,115,101,32] else [32,119,104,101,110,32])++arg k 1):=by
 unfold caseT;rw [List.range_succ,List.flatMap_append];simp
theorem Yw (n:Nat)(arg:Nat→Int→Bs):∀(d k:Nat),(caseT n arg k).length≤(caseT n arg (k+d)).length
 |0,k=>Nat.le_refl _
 |d+1,k=>by
  have:=Yw n arg d k;rw [←Nat.add_assoc,UE,List.length_append];omega
def PO (x:Ex):Bool:=x.name==[99,111,117,110,116]&&x.args.length==1&&(x.args.getD 0 ex0).kind==3
def Yz (x:Ex):Bs:=
 if x.kind=8 then [108,101,110,103,116,104,40]++BO true x 0 1++[41] else
 if x.kind=27 then [99,111,97,108,101,115,99,101,40]++Iu true x.args++[41] else
 if x.kind=26 then [99,97,115,101]++caseT x.args.length (BO true x) x.args.length++[32,101,110,100] else
 if x.kind=28 then x.name++[40]++(if x.distinct then [100,105,115,116,105,110,99,116,32] else [])++(if PO x then [42] else BO true x 0 1)++[41] else [63]
theorem TI {x:Ex}(hs:CQ x.kind=none)(h:x.kind≠1∧x.kind≠2∧x.kind≠4∧x.kind≠5∧x.kind≠6∧x.kind≠7∧x.kind≠24∧x.kind≠25):Ap true x (BO true x)=Yz x:=by
 unfold Ap Yz;rw [hs];simp only [h,if_false];have hr:=Gg true x 0;simp only [Nat.sub_zero,Nat.add_zero,List.drop_zero] at hr;rw [hr];simp only [Bool.true_or,Bool.and_true,caseT,Iu,PO];rfl
section
variable {ω:Om}{G I:Imm}{L F:LH}{K:Value→M}{b:Nat}{w:Value}{X:LH}{l:Bs}{n:Nat}
theorem RQ (hE:UK ω G b w n){x:Ex}(hd:Dl x≤n+1)(hx:okE x)(hGI:Ext G I)(hw:StL I w wordsL)[hs:SplitL X L F](hW:WrS b w X l){c:List Value}(hc:ExV I x c)
  (hn:(l++Yz x).length≤1000000000) (hk:∀I' X',Ext I I'→WrS b w X' (l++Yz x)→K (.tuple #[]) I' (X'++F)):CT ω 179 #[AP b,.agg c.toArray] K I L:=by
 refine zAQ X ?_;refine ASA ?_;unfold AOB;obtain ⟨v,rfl,ha⟩:=ExV.iff.1 hc;obtain ⟨hv0,hal,hla⟩:=JP hx;have hdd:=EL x;unfold Yz at hn hk;refine Ac (λbx=>?_);try refine zqe ?_
 refine rdb ?_;try refine zqe ?_
 refine AB (λh=>?_) (λh=>?_)
 ·have h:x.kind=8:=by simpa using h
  rw [if_pos h] at hn hk;simp only [zU] at hn;refine BP hW zL (λI1 X1 hI1 hW1=>?_);refine rdB rfl ?_;refine call (BQ (X:=X1) hE hd hx 0 1 (zAB hGI hI1) (zAJ hw hI1) hW1 (ExV.mono hI1 hc) zL (λI2 X2 hI2 hW2=>?_));refine BP hW2 zL (λI3 X3 hI3 hW3=>?_);exact zAE (X3++F) (zAA (hk I3 X3 (zAB hI1 (zAB hI2 hI3)) (by simpa using hW3)))
 have h8:x.kind≠8:=by simpa using h
 rw [if_neg h8] at hn hk;try refine zqe ?_
 refine AB (λh=>?_) (λh=>?_)
 ·have h:x.kind=27:=by simpa using h
  rw [if_pos h] at hn hk;have he:[99,111,97,108,101,115,99,101,40]++Iu true x.args++[41]=[99,111,97,108,101,115,99,101]++rowB true x.args:=by simp [rowB]
  rw [he] at hn hk;simp only [zU] at hn;refine BP hW zL (λI1 X1 hI1 hW1=>?_);try refine zqe ?_
  refine rdb ?_;refine call (LU (X:=X1) hE (by omega) hla hal (zAB hGI hI1) (zAJ hw hI1) hW1 (zAN ha hI1) zL (λI2 X2 hI2 hW2=>?_));exact zAE (X2++F) (zAA (hk I2 X2 (zAB hI1 hI2) (by simpa using hW2)))
 have h27:x.kind≠27:=by simpa using h
 rw [if_neg h27] at hn hk;try refine zqe ?_
 refine AB (λh=>?_) (λh=>?_)
 ·have h:x.kind=26:=by simpa using h
  rw [if_pos h] at hn hk;simp only [zU] at hn;refine BP hW zL (λI1 X1 hI1 hW1=>?_);try refine zqe ?_
  refine rdb ?_;simp only [zAM ha,SSd,Nat.reduceAdd];refine loop (λq st I' L'=>∃(k:Nat) (X':LH),k+q=x.args.length∧st=(.int .i64 k,())∧Ext I I'∧L'=X'++((bx,.cells (Ak x v).toArray 37 (0,0))::F)∧WrS b w X' ((l++[99,97,115,101])++caseT x.args.length (BO true x) k)) x.args.length ⟨0,X1,by omega,rfl,hI1,rfl,by simpa [caseT] using hW1⟩ ?_;rintro q st I' L' ⟨k,X',hkq,rfl,hI',rfl,hW'⟩;unfold ACW;try refine zqe ?_
  refine AB (λhb=>?_) (λhb=>?_)
  ·have hb:k < x.args.length:=by
    have:=of_decide_eq_true hb;omega
   obtain ⟨bt,off,c1,g1,gl,g2,g3⟩:=zAS ha (i:=k) (by omega) (by omega);rw [Af hb] at g2;have hone:=ExV.one g2;have hsu:=UE x.args.length (BO true x) k;have hle:=Yw x.args.length (BO true x) (x.args.length - (k+1)) (k+1);rw [show k+1+(x.args.length - (k+1))=x.args.length by omega,hsu] at hle;simp only [List.length_append] at hle;simp only [g1,SSd,Nat.reduceAdd];refine FK (g3 _ [] hI' (λ_ h=>h)) (zAC _) gl ?_;refine Ac (λb3=>?_);refine stB gl rfl hone ?_;have fin:∀(s:Bs) (I2:Imm) (X2:LH),Ext I I2→s=(if k % 2=1 then [32,116,104,101,110,32] else if k+1=x.args.length then [32,101,108,115,101,32] else [32,119,104,101,110,32])→WrS b w X2 (((l++[99,97,115,101])++caseT x.args.length (BO true x) k)++s)→NQ ω (AP b) (AP b3) (.int .i64 k) (λs'=>Gh λI2 L2=>∃m',m' < q∧∃(k:Nat) (X':LH),k+m'=x.args.length∧s'=(.int .i64 k,())∧Ext I I2∧L2=X'++((bx,.cells (Ak x v).toArray 37 (0,0))::F)∧WrS b w X' ((l++[99,97,115,101])++caseT x.args.length (BO true x) k)) (λv=>Gh (K v)) I2 (X2++((b3,.cells c1.toArray 37 (0,0))::(bx,.cells (Ak x v).toArray 37 (0,0))::F)):=by
    intro s I2 X2 hI2 hse hW2;rw [←hse] at hle hsu;unfold NQ;refine AAg (T:=37) (by simp) gl ?_;have hm:=FN (List.getElem_mem hb);have hex:BO true x k 1=exB true x.args[k] 1:=PK hb 1;rw [hex] at hle hsu;refine call (Cal.to (X2++((bx,.cells (Ak x v).toArray 37 (0,0))::F)) (hE x.args[k] (by omega) (Hz hla (List.getElem_mem hb)) 1 I2 X2 _ _ c1 _ (zAB hGI hI2) (zAJ hw hI2) hW2 (ExV.mono hI2 g2) zL (λI3 X3 hI3 hW3=>?_)));simp only [wrap_i64 ((k:Int)+1) (by omega),SSd,Nat.reduceAdd];exact zAA ⟨q - 1,by omega,k+1,X3,by omega,rfl,zAB hI2 hI3,rfl,by rw [hsu];simpa using hW3⟩
   have hrem:AA .rem (.int .i64 (k:Int)) (.int .i64 2)=some (.int .i64 ((k % 2:Nat):Int)):=by
    rw [AKw _ _ .i64 (by decide),Int.tmod_eq_emod_of_nonneg (by omega)];simp
   simp only [hrem,SSd,Nat.reduceAdd];refine AB (λh1=>?_) (λh1=>?_)
   ·have h1:k % 2=1:=by
     have:((k % 2:Nat):Int)=1:=by simpa using h1
     omega
    rw [if_pos h1] at hle;simp only [List.length_cons,List.length_nil] at hle;refine BP (X:=X') hW' zL (λI2 X2 hI2 hW2=>?_);exact fin _ I2 X2 (zAB hI' hI2) (by rw [if_pos h1]) hW2
   have h1:¬k % 2=1:=by
    have:¬((k % 2:Nat):Int)=1:=by simpa using h1
    omega
   rw [if_neg h1] at hle;simp only [wrap_i64 ((k:Int)+1) (by omega),SSd,Nat.reduceAdd];refine rdb ?_;simp only [zAM ha,SSd,Nat.reduceAdd];refine AB (λh2=>?_) (λh2=>?_)
   ·have h2:k+1=x.args.length:=by
     have:(k:Int)+1=x.args.length:=by simpa using h2
     omega
    rw [if_pos h2] at hle;simp only [List.length_cons,List.length_nil] at hle;refine BP (X:=X') hW' zL (λI2 X2 hI2 hW2=>?_);exact fin _ I2 X2 (zAB hI' hI2) (by rw [if_neg h1,if_pos h2]) hW2
   ·have h2:¬k+1=x.args.length:=by
     have:¬(k:Int)+1=x.args.length:=by simpa using h2
     omega
    rw [if_neg h2] at hle;simp only [List.length_cons,List.length_nil] at hle;refine BP (X:=X') hW' zL (λI2 X2 hI2 hW2=>?_);exact fin _ I2 X2 (zAB hI' hI2) (by rw [if_neg h1,if_neg h2]) hW2
  ·have hb:¬k < x.args.length:=by
    have:=of_decide_eq_false hb;omega
   obtain rfl:k=x.args.length:=by omega
   unfold ACV;refine BP (X:=X') hW' zL (λI2 X2 hI2 hW2=>?_);exact zAE (X2++F) (zAA (hk I2 X2 (zAB hI' hI2) (by simpa using hW2)))
 have h26:x.kind≠26:=by simpa using h
 rw [if_neg h26] at hn hk;try refine zqe ?_
 refine AB (λh=>?_) (λh=>?_)
 ·have h:x.kind=28:=by simpa using h
  rw [if_pos h] at hn hk;simp only [zU] at hn;try refine zqe ?_
  refine rdb ?_;refine AWQ hW zL (λI1 X1 hI1 hW1=>?_);have fin8:∀(s:Bs) (I2:Imm) (X2:LH),Ext I I2→s=(if x.distinct then [100,105,115,116,105,110,99,116,32] else [])→WrS b w X2 ((l++(x.name++[40]))++s)→QS ω (AP b) (AP bx) (λv=>Gh (K v)) I2 (X2++((bx,.cells (Ak x v).toArray 37 (0,0))::F)):=by
   intro s I2 X2 hI2 hse hW2;rw [←hse] at hn hk;have no:PO x=false→KU ω (AP b) (AP bx) (λv=>Gh (K v)) I2 (X2++((bx,.cells (Ak x v).toArray 37 (0,0))::F)):=by
    intro hst;rw [hst] at hn hk;simp only [Bool.false_eq_true,if_false] at hn hk;unfold KU;refine AAg (l:=Ak x v) (T:=37) (by simp) rfl ?_;refine call (BQ (X:=X2) hE hd hx 0 1 (zAB hGI hI2) (zAJ hw hI2) hW2 (ExV.mono hI2 hc) zL (λI3 X3 hI3 hW3=>?_));unfold NR;refine BP hW3 zL (λI4 X4 hI4 hW4=>?_);exact zAE (X4++F) (zAA (hk I4 X4 (zAB hI2 (zAB hI3 hI4)) (by simpa using hW4)))
   unfold QS;try refine zqe ?_
   refine rdb ?_;simp only [zAM ha,SSd,Nat.reduceAdd];refine DN (λh1=>?_) (λh1=>?_)
   ·have h1:x.args.length=1:=by
     have:(x.args.length:Int)=1:=by simpa using h1
     omega
    obtain ⟨bt,off,c1,g1,gl,g2,g3⟩:=zAS ha (i:=0) (by omega) (by omega);obtain ⟨v1,rfl,_⟩:=ExV.iff.1 g2;have hg0:x.args.getD 0 ex0=QD x.args 0:=rfl;try refine zqe ?_
    refine rdb ?_;simp only [g1,SSd,Nat.reduceAdd];refine rdC (g3 I2 [] hI2 (λ_ h=>h) 0 _ rfl) (zAC _) ?_;try refine zqe ?_
    refine DN (λh2=>?_) (λh2=>?_)
    ·try refine zqe ?_
     refine rdb ?_;try refine zqe ?_
     refine AB (λh3=>?_) (λh3=>?_)
     ·have h2:((QD x.args 0).kind==3)=true:=by simpa using h2
      have h3:(x.name==[99,111,117,110,116])=true:=by simpa using h3
      have hst:PO x=true:=by unfold PO;rw [hg0,h3,h2,h1];rfl
      rw [hst] at hn hk;simp only [if_true,List.length_cons,List.length_nil] at hn hk;unfold ACU;refine BP (X:=X2) hW2 zL (λI3 X3 hI3 hW3=>?_);unfold NR;refine BP hW3 zL (λI4 X4 hI4 hW4=>?_);exact zAE (X4++F) (zAA (hk I4 X4 (zAB hI2 (zAB hI3 hI4)) (by simpa using hW4)))
     ·have h3:(x.name==[99,111,117,110,116])=false:=by simpa using h3
      exact no (by unfold PO;rw [h3];simp)
    ·have h2:((QD x.args 0).kind==3)=false:=by simpa using h2
     exact no (by unfold PO;rw [hg0,h2];simp)
   ·have h1:(x.args.length==1)=false:=by
     have:¬(x.args.length:Int)=1:=by simpa using h1
     simp;omega
    exact no (by unfold PO;rw [h1];simp)
  try refine zqe ?_
  refine rdb ?_;refine AB (λh1=>?_) (λh1=>?_)
  ·rw [h1] at hn fin8;simp only [if_true,List.length_cons,List.length_nil] at hn;refine BP hW1 zL (λI2 X2 hI2 hW2=>?_);exact fin8 _ I2 X2 (zAB hI1 hI2) (by simp) hW2
  ·rw [h1] at fin8;exact fin8 [] I1 X1 hI1 (by simp) (by simpa using hW1)
 have h28:x.kind≠28:=by simpa using h
 rw [if_neg h28] at hn hk;refine BP hW hn (λI1 X1 hI1 hW1=>?_);exact zAE (X1++F) (zAA (hk I1 X1 hI1 hW1))
end
abbrev shO (c:List Value):Obj:=.cells c.toArray 210 (0,0)
abbrev exO (x:Ex)(v:Value):Obj:=.cells (Ak x v).toArray 37 (0,0)
section
variable {ω:Om}{G I:Imm}{L F Y:LH}{K:Value→M}{b:Nat}{w:Value}{X:LH}{l:Bs}{n:Nat}
set_option maxHeartbeats 1000000 in
theorem Lm (hE:UK ω G b w n){x:Ex}{v:Value}{bx bs:Nat}{fb:Bool}{sc:List Value}(hd:Dl x≤n+1)(hx:okE x)(hG:GN G)(hGI:Ext G I)(hw:StL I w wordsL)[hs:SplitL X L Y][i1:InL bx L (exO x v)][i2:InL bx Y (exO x v)][i3:InL bs L (shO sc)][i4:InL bs Y (shO sc)](hW:WrS b w X l)(hc:ExV I x (Ak x v))
  (hsh:(∃s k,CQ x.kind=some (s,k)∧fb=true∧sc=[.string ⟨s.toArray⟩,.int .i64 k])∨(CQ x.kind=none∧fb=false))
  (hn:(l++Ap true x (BO true x)).length≤1000000000) (hk:∀I' X',Ext I I'→WrS b w X' (l++Ap true x (BO true x))→Gh (K (.tuple #[])) I' (X'++Y)):
  NW ω (AP b) (AP bx) (AP bs) (.bool fb) (λv=>Gh (K v)) I L:=by
 obtain ⟨v',hv',ha⟩:=ExV.iff.1 hc;obtain rfl:v=v':=by simpa [Ak] using hv'
 obtain ⟨hv0,hal,hla⟩:=JP hx;have hdd:=EL x;unfold NW;rcases hsh with ⟨s,k,hsg,rfl,rfl⟩|⟨hsg,rfl⟩
 ·have hin:Ap true x (BO true x)=BO true x 0 (if k=4 then 5 else k)++(([32]++(s++[32]))++BO true x 1 (k+1)):=by
   unfold Ap;rw [hsg];simp
  rw [hin] at hn hk;simp only [zU] at hn;have hsm:=Ru hsg;have bin:∀lv:Int,lv=(if k=4 then 5 else k)→Qe ω (AP b) (AP bx) (AP bs) (.int .i64 lv) (λv=>Gh (K v)) I L:=by
   intro lv hlv;rw [←hlv] at hn hk;unfold Qe;refine rdB rfl ?_;refine call (BQ (X:=X) hE hd hx 0 lv hGI hw hW hc zL (λI1 X1 hI1 hW1=>?_));try refine zqe ?_
   refine rdb ?_;refine AQT hW1 zL (λI2 X2 hI2 hW2=>?_);refine rdB rfl ?_;try refine zqe ?_
   refine rdb ?_;simp only [wrap_i64 (k+1) (by omega),SSd,Nat.reduceAdd];refine call (BQ (X:=X2) hE hd hx 1 (k+1) (zAB hGI (zAB hI1 hI2)) (zAJ hw (zAB hI1 hI2)) hW2 (ExV.mono (zAB hI1 hI2) hc) zL (λI3 X3 hI3 hW3=>?_));exact hk I3 X3 (zAB hI1 (zAB hI2 hI3)) (by simpa using hW3)
  try refine zqe ?_
  refine rdb ?_;try refine zqe ?_
  refine AB (λh=>?_) (λh=>?_)
  ·exact bin 5 (by rw [if_pos (by simpa using h)])
  ·exact bin k (by rw [if_neg (by simpa using h)])
 try refine zqe ?_
 refine rdb ?_;try refine zqe ?_
 refine AB (λh=>?_) (λh=>?_)
 ·have h:x.kind=1:=by simpa using h
  have hin:Ap true x (BO true x)=RZ true x.value:=by unfold Ap;rw [hsg];simp [h]
  rw [hin] at hn hk;try refine zqe ?_
  refine rdP _ rfl rfl ?_;refine call (RY (X:=X) hG hGI hW x.value hv0 hn (λI1 X1 hI1 hW1=>?_));exact hk I1 X1 hI1 hW1
 have h1:x.kind≠1:=by simpa using h
 try refine zqe ?_
 refine AB (λh=>?_) (λh=>?_)
 ·have h:x.kind=2:=by simpa using h
  have hin:Ap true x (BO true x)=(if x.table.isEmpty then [] else nameB x.table++[46])++nameB x.name:=by unfold Ap;rw [hsg];simp [h]
  rw [hin] at hn hk;simp only [List.length_append] at hn;have col:∀(s:Bs) (I1:Imm) (X1 L1:LH) [SplitL X1 L1 Y] [InL bx L1 (exO x v)],Ext I I1→s=(if x.table.isEmpty then [] else nameB x.table++[46])→WrS b w X1 (l++s)→NZ ω (AP b) (AP bx) (λv=>Gh (K v)) I1 L1:=by
   intro s I1 X1 L1 _ _ hI1 hse hW1;rw [←hse] at hn hk;unfold NZ;try refine zqe ?_
   refine rdb ?_;refine call (BX (X:=X1) hW1 (zAJ hw hI1) x.name zL (λI2 X2 hI2 hW2=>?_));exact hk I2 X2 (zAB hI1 hI2) (by simpa using hW2)
  try refine zqe ?_
  refine rdb ?_;simp only [sNe,SSd,Nat.reduceAdd];cases ht:x.table with
  |nil=>
   rw [ht] at col;simp only [show (([]:Bs)==[])=true from rfl,Bool.not_true,SSd,Nat.reduceAdd];exact col [] I X L (zAC I) rfl (by simpa using hW)
  |cons c r=>
   rw [ht] at col hn;simp only [List.isEmpty_cons,Bool.false_eq_true,if_false,zU] at hn;simp only [show ((c::r)==([]:Bs))=false from rfl,Bool.not_false,SSd,Nat.reduceAdd];refine rdb ?_;refine call (BX (X:=X) hW hw x.table (by rw [ht];simp only [zU];omega) (λI1 X1 hI1 hW1=>?_));refine BP hW1 (by rw [ht];simp only [zU];omega) (λI2 X2 hI2 hW2=>?_);exact col (nameB (c::r)++[46]) I2 X2 _ (zAB hI1 hI2) (by simp) (by rw [ht] at hW2;simpa using hW2)
 have h2:x.kind≠2:=by simpa using h
 try refine zqe ?_
 refine AB (λh=>?_) (λh=>?_)
 ·have h:x.kind=4:=by simpa using h
  have hin:Ap true x (BO true x)=[45]++BO true x 0 8:=by unfold Ap;rw [hsg];simp [h]
  rw [hin] at hn hk;simp only [zU] at hn;refine BP (X:=X) hW zL (λI1 X1 hI1 hW1=>?_);refine rdB rfl ?_;refine call (BQ (X:=X1) hE hd hx 0 8 (zAB hGI hI1) (zAJ hw hI1) hW1 (ExV.mono hI1 hc) zL (λI2 X2 hI2 hW2=>?_));exact hk I2 X2 (zAB hI1 hI2) (by simpa using hW2)
 have h4:x.kind≠4:=by simpa using h
 try refine zqe ?_
 refine AB (λh=>?_) (λh=>?_)
 ·have h:x.kind=5:=by simpa using h
  have hin:Ap true x (BO true x)=[110,111,116,32]++BO true x 0 3:=by unfold Ap;rw [hsg];simp [h]
  rw [hin] at hn hk;simp only [zU] at hn;refine BP (X:=X) hW zL (λI1 X1 hI1 hW1=>?_);refine rdB rfl ?_;refine call (BQ (X:=X1) hE hd hx 0 3 (zAB hGI hI1) (zAJ hw hI1) hW1 (ExV.mono hI1 hc) zL (λI2 X2 hI2 hW2=>?_));exact hk I2 X2 (zAB hI1 hI2) (by simpa using hW2)
 have h5:x.kind≠5:=by simpa using h
 try refine zqe ?_
 refine AB (λh=>?_) (λh=>?_)
 ·have h:x.kind=6:=by simpa using h
  have hin:Ap true x (BO true x)=BO true x 0 5++[32,105,115,32,110,117,108,108]:=by unfold Ap;rw [hsg];simp [h]
  rw [hin] at hn hk;simp only [zU] at hn;refine rdB rfl ?_;refine call (BQ (X:=X) hE hd hx 0 5 hGI hw hW hc zL (λI1 X1 hI1 hW1=>?_));refine BP hW1 zL (λI2 X2 hI2 hW2=>?_);exact hk I2 X2 (zAB hI1 hI2) (by simpa using hW2)
 have h6:x.kind≠6:=by simpa using h
 try refine zqe ?_
 refine AB (λh=>?_) (λh=>?_)
 ·have h:x.kind=7:=by simpa using h
  have hin:Ap true x (BO true x)=BO true x 0 5++[32,105,115,32,110,111,116,32,110,117,108,108]:=by unfold Ap;rw [hsg];simp [h]
  rw [hin] at hn hk;simp only [zU] at hn;refine rdB rfl ?_;refine call (BQ (X:=X) hE hd hx 0 5 hGI hw hW hc zL (λI1 X1 hI1 hW1=>?_));refine BP hW1 zL (λI2 X2 hI2 hW2=>?_);exact hk I2 X2 (zAB hI1 hI2) (by simpa using hW2)
 have h7:x.kind≠7:=by simpa using h
 try refine zqe ?_
 refine AB (λh=>?_) (λh=>?_)
 ·have h:x.kind=24:=by simpa using h
  have hin:Ap true x (BO true x)=BO true x 0 5++([32,105,110,32]++rowB true (x.args.drop 1)):=by
   unfold Ap;rw [hsg];simp only [h];have hr:=Gg true x 1;rw [hr];simp [rowB,Iu]
  rw [hin] at hn hk;simp only [zU] at hn;refine rdB rfl ?_;refine call (BQ (X:=X) hE hd hx 0 5 hGI hw hW hc zL (λI1 X1 hI1 hW1=>?_));refine BP hW1 zL (λI2 X2 hI2 hW2=>?_);have hI12:=zAB hI1 hI2;try refine zqe ?_
  refine rdb ?_;try refine zqe ?_
  refine rdb ?_;simp only [zAM ha,SSd,Nat.reduceAdd];obtain ⟨v2,hv2,hr2⟩:=RL.part (zAN ha hI12) (lo:=min 1 x.args.length) (hi:=x.args.length) (by omega) (Nat.le_refl _) (some (.int .i64 (if (x.args.length:Int) < 1 then (x.args.length:Int) else 1))) none (by
   rw [show (if (x.args.length:Int) < 1 then (x.args.length:Int) else 1)=((min 1 x.args.length:Nat):Int) by split <;> omega];exact XI _ _ _ _ (by omega)) (λcap hc=>by simp [ER])
  have hdr:(x.args.drop (min 1 x.args.length)).take (x.args.length - min 1 x.args.length)=x.args.drop 1:=by
   rw [List.take_of_length_le (by simp)];by_cases h0:x.args.length=0
   ·rw [List.length_eq_zero_iff] at h0;rw [h0];rfl
   ·congr 1;omega
  rw [hdr] at hr2;simp only [hv2,SSd,Nat.reduceAdd];have hap:x.args=x.args.take 1++x.args.drop 1:=(List.take_append_drop 1 x.args).symm;have hdp:Bc (x.args.drop 1)≤n:=by
   have h:=Gn (x.args.take 1) (x.args.drop 1);rw [←hap] at h;omega
  refine call (LU (X:=X2) hE hdp (Nw λy hy=>Hz hla (List.mem_of_mem_drop hy)) (by rw [List.length_drop];omega) (zAB hGI hI12) (zAJ hw hI12) hW2 hr2 zL (λI3 X3 hI3 hW3=>?_));exact hk I3 X3 (zAB hI12 hI3) (by simpa using hW3)
 have h24:x.kind≠24:=by simpa using h
 try refine zqe ?_
 refine AB (λh=>?_) (λh=>?_)
 ·have h:x.kind=25:=by simpa using h
  have hin:Ap true x (BO true x)=BO true x 0 5++([32,98,101,116,119,101,101,110,32]++(BO true x 1 5++([32,97,110,100,32]++BO true x 2 5))):=by unfold Ap;rw [hsg];simp [h]
  rw [hin] at hn hk;simp only [zU] at hn;refine rdB rfl ?_;refine call (BQ (X:=X) hE hd hx 0 5 hGI hw hW hc zL (λI1 X1 hI1 hW1=>?_));refine BP hW1 zL (λI2 X2 hI2 hW2=>?_);refine rdB rfl ?_;have hI12:=zAB hI1 hI2;refine call (BQ (X:=X2) hE hd hx 1 5 (zAB hGI hI12) (zAJ hw hI12) hW2 (ExV.mono hI12 hc) zL (λI3 X3 hI3 hW3=>?_));refine BP hW3 zL (λI4 X4 hI4 hW4=>?_);refine rdB rfl ?_;have hI14:=zAB hI12 (zAB hI3 hI4);refine call (BQ (X:=X4) hE hd hx 2 5 (zAB hGI hI14) (zAJ hw hI14) hW4 (ExV.mono hI14 hc) zL (λI5 X5 hI5 hW5=>?_));exact hk I5 X5 (zAB hI14 hI5) (by simpa using hW5)
 have h25:x.kind≠25:=by simpa using h
 rw [TI hsg ⟨h1,h2,h4,h5,h6,h7,h24,h25⟩] at hn hk;refine rdB rfl ?_;refine call (RQ (X:=X) hE hd hx hGI hw hW hc hn (λI1 X1 hI1 hW1=>?_));exact hk I1 X1 hI1 hW1
set_option maxHeartbeats 1000000 in
theorem Lr (hE:UK ω G b w n){x:Ex}{v:Value}{bx bs:Nat}{fb:Bool}{sc:List Value}(hd:Dl x≤n+1)(hx:okE x)(hG:GN G)(hGI:Ext G I)(hw:StL I w wordsL)[hs:SplitL X L Y][i1:InL bx L (exO x v)][i2:InL bx Y (exO x v)][i3:InL bs L (shO sc)][i4:InL bs Y (shO sc)](hW:WrS b w X l)(hc:ExV I x (Ak x v))
  (hsh:(∃s k,CQ x.kind=some (s,k)∧fb=true∧sc=[.string ⟨s.toArray⟩,.int .i64 k])∨(CQ x.kind=none∧fb=false)) {W3 W4:Value}
  (hn:(l++Ap true x (BO true x)).length≤1000000000) (hk:∀I' X',Ext I I'→WrS b w X' (l++Ap true x (BO true x))→FQ ω W3 W4 (λv=>Gh (K v)) I' (X'++Y)):
  NY ω (AP b) (AP bx) (AP bs) (.bool fb) W3 W4 (λv=>Gh (K v)) I L:=by
 obtain ⟨v',hv',ha⟩:=ExV.iff.1 hc;obtain rfl:v=v':=by simpa [Ak] using hv'
 obtain ⟨hv0,hal,hla⟩:=JP hx;have hdd:=EL x;unfold NY;rcases hsh with ⟨s,k,hsg,rfl,rfl⟩|⟨hsg,rfl⟩
 ·have hin:Ap true x (BO true x)=BO true x 0 (if k=4 then 5 else k)++(([32]++(s++[32]))++BO true x 1 (k+1)):=by
   unfold Ap;rw [hsg];simp
  rw [hin] at hn hk;simp only [zU] at hn;have hsm:=Ru hsg;have bin:∀lv:Int,lv=(if k=4 then 5 else k)→Qh ω (AP b) (AP bx) (AP bs) (.int .i64 lv) W3 W4 (λv=>Gh (K v)) I L:=by
   intro lv hlv;rw [←hlv] at hn hk;unfold Qh;refine rdB rfl ?_;refine call (BQ (X:=X) hE hd hx 0 lv hGI hw hW hc zL (λI1 X1 hI1 hW1=>?_));try refine zqe ?_
   refine rdb ?_;refine AQT hW1 zL (λI2 X2 hI2 hW2=>?_);refine rdB rfl ?_;try refine zqe ?_
   refine rdb ?_;simp only [wrap_i64 (k+1) (by omega),SSd,Nat.reduceAdd];refine call (BQ (X:=X2) hE hd hx 1 (k+1) (zAB hGI (zAB hI1 hI2)) (zAJ hw (zAB hI1 hI2)) hW2 (ExV.mono (zAB hI1 hI2) hc) zL (λI3 X3 hI3 hW3=>?_));exact hk I3 X3 (zAB hI1 (zAB hI2 hI3)) (by simpa using hW3)
  try refine zqe ?_
  refine rdb ?_;try refine zqe ?_
  refine AB (λh=>?_) (λh=>?_)
  ·exact bin 5 (by rw [if_pos (by simpa using h)])
  ·exact bin k (by rw [if_neg (by simpa using h)])
 try refine zqe ?_
 refine rdb ?_;try refine zqe ?_
 refine AB (λh=>?_) (λh=>?_)
 ·have h:x.kind=1:=by simpa using h
  have hin:Ap true x (BO true x)=RZ true x.value:=by unfold Ap;rw [hsg];simp [h]
  rw [hin] at hn hk;try refine zqe ?_
  refine rdP _ rfl rfl ?_;refine call (RY (X:=X) hG hGI hW x.value hv0 hn (λI1 X1 hI1 hW1=>?_));exact hk I1 X1 hI1 hW1
 have h1:x.kind≠1:=by simpa using h
 try refine zqe ?_
 refine AB (λh=>?_) (λh=>?_)
 ·have h:x.kind=2:=by simpa using h
  have hin:Ap true x (BO true x)=(if x.table.isEmpty then [] else nameB x.table++[46])++nameB x.name:=by unfold Ap;rw [hsg];simp [h]
  rw [hin] at hn hk;simp only [List.length_append] at hn;have col:∀(s:Bs) (I1:Imm) (X1 L1:LH) [SplitL X1 L1 Y] [InL bx L1 (exO x v)],Ext I I1→s=(if x.table.isEmpty then [] else nameB x.table++[46])→WrS b w X1 (l++s)→Qg ω (AP b) (AP bx) W3 W4 (λv=>Gh (K v)) I1 L1:=by
   intro s I1 X1 L1 _ _ hI1 hse hW1;rw [←hse] at hn hk;unfold Qg;try refine zqe ?_
   refine rdb ?_;refine call (BX (X:=X1) hW1 (zAJ hw hI1) x.name zL (λI2 X2 hI2 hW2=>?_));exact hk I2 X2 (zAB hI1 hI2) (by simpa using hW2)
  try refine zqe ?_
  refine rdb ?_;simp only [sNe,SSd,Nat.reduceAdd];cases ht:x.table with
  |nil=>
   rw [ht] at col;simp only [show (([]:Bs)==[])=true from rfl,Bool.not_true,SSd,Nat.reduceAdd];exact col [] I X L (zAC I) rfl (by simpa using hW)
  |cons c r=>
   rw [ht] at col hn;simp only [List.isEmpty_cons,Bool.false_eq_true,if_false,zU] at hn;simp only [show ((c::r)==([]:Bs))=false from rfl,Bool.not_false,SSd,Nat.reduceAdd];refine rdb ?_;refine call (BX (X:=X) hW hw x.table (by rw [ht];simp only [zU];omega) (λI1 X1 hI1 hW1=>?_));refine BP hW1 (by rw [ht];simp only [zU];omega) (λI2 X2 hI2 hW2=>?_);exact col (nameB (c::r)++[46]) I2 X2 _ (zAB hI1 hI2) (by simp) (by rw [ht] at hW2;simpa using hW2)
 have h2:x.kind≠2:=by simpa using h
 try refine zqe ?_
 refine AB (λh=>?_) (λh=>?_)
 ·have h:x.kind=4:=by simpa using h
  have hin:Ap true x (BO true x)=[45]++BO true x 0 8:=by unfold Ap;rw [hsg];simp [h]
  rw [hin] at hn hk;simp only [zU] at hn;refine BP (X:=X) hW zL (λI1 X1 hI1 hW1=>?_);refine rdB rfl ?_;refine call (BQ (X:=X1) hE hd hx 0 8 (zAB hGI hI1) (zAJ hw hI1) hW1 (ExV.mono hI1 hc) zL (λI2 X2 hI2 hW2=>?_));exact hk I2 X2 (zAB hI1 hI2) (by simpa using hW2)
 have h4:x.kind≠4:=by simpa using h
 try refine zqe ?_
 refine AB (λh=>?_) (λh=>?_)
 ·have h:x.kind=5:=by simpa using h
  have hin:Ap true x (BO true x)=[110,111,116,32]++BO true x 0 3:=by unfold Ap;rw [hsg];simp [h]
  rw [hin] at hn hk;simp only [zU] at hn;refine BP (X:=X) hW zL (λI1 X1 hI1 hW1=>?_);refine rdB rfl ?_;refine call (BQ (X:=X1) hE hd hx 0 3 (zAB hGI hI1) (zAJ hw hI1) hW1 (ExV.mono hI1 hc) zL (λI2 X2 hI2 hW2=>?_));exact hk I2 X2 (zAB hI1 hI2) (by simpa using hW2)
 have h5:x.kind≠5:=by simpa using h
 try refine zqe ?_
 refine AB (λh=>?_) (λh=>?_)
 ·have h:x.kind=6:=by simpa using h
  have hin:Ap true x (BO true x)=BO true x 0 5++[32,105,115,32,110,117,108,108]:=by unfold Ap;rw [hsg];simp [h]
  rw [hin] at hn hk;simp only [zU] at hn;refine rdB rfl ?_;refine call (BQ (X:=X) hE hd hx 0 5 hGI hw hW hc zL (λI1 X1 hI1 hW1=>?_));refine BP hW1 zL (λI2 X2 hI2 hW2=>?_);exact hk I2 X2 (zAB hI1 hI2) (by simpa using hW2)
 have h6:x.kind≠6:=by simpa using h
 try refine zqe ?_
 refine AB (λh=>?_) (λh=>?_)
 ·have h:x.kind=7:=by simpa using h
  have hin:Ap true x (BO true x)=BO true x 0 5++[32,105,115,32,110,111,116,32,110,117,108,108]:=by unfold Ap;rw [hsg];simp [h]
  rw [hin] at hn hk;simp only [zU] at hn;refine rdB rfl ?_;refine call (BQ (X:=X) hE hd hx 0 5 hGI hw hW hc zL (λI1 X1 hI1 hW1=>?_));refine BP hW1 zL (λI2 X2 hI2 hW2=>?_);exact hk I2 X2 (zAB hI1 hI2) (by simpa using hW2)
 have h7:x.kind≠7:=by simpa using h
 try refine zqe ?_
 refine AB (λh=>?_) (λh=>?_)
 ·have h:x.kind=24:=by simpa using h
  have hin:Ap true x (BO true x)=BO true x 0 5++([32,105,110,32]++rowB true (x.args.drop 1)):=by
   unfold Ap;rw [hsg];simp only [h];have hr:=Gg true x 1;rw [hr];simp [rowB,Iu]
  rw [hin] at hn hk;simp only [zU] at hn;refine rdB rfl ?_;refine call (BQ (X:=X) hE hd hx 0 5 hGI hw hW hc zL (λI1 X1 hI1 hW1=>?_));refine BP hW1 zL (λI2 X2 hI2 hW2=>?_);have hI12:=zAB hI1 hI2;try refine zqe ?_
  refine rdb ?_;try refine zqe ?_
  refine rdb ?_;simp only [zAM ha,SSd,Nat.reduceAdd];obtain ⟨v2,hv2,hr2⟩:=RL.part (zAN ha hI12) (lo:=min 1 x.args.length) (hi:=x.args.length) (by omega) (Nat.le_refl _) (some (.int .i64 (if (x.args.length:Int) < 1 then (x.args.length:Int) else 1))) none (by
   rw [show (if (x.args.length:Int) < 1 then (x.args.length:Int) else 1)=((min 1 x.args.length:Nat):Int) by split <;> omega];exact XI _ _ _ _ (by omega)) (λcap hc=>by simp [ER])
  have hdr:(x.args.drop (min 1 x.args.length)).take (x.args.length - min 1 x.args.length)=x.args.drop 1:=by
   rw [List.take_of_length_le (by simp)];by_cases h0:x.args.length=0
   ·rw [List.length_eq_zero_iff] at h0;rw [h0];rfl
   ·congr 1;omega
  rw [hdr] at hr2;simp only [hv2,SSd,Nat.reduceAdd];have hap:x.args=x.args.take 1++x.args.drop 1:=(List.take_append_drop 1 x.args).symm;have hdp:Bc (x.args.drop 1)≤n:=by
   have h:=Gn (x.args.take 1) (x.args.drop 1);rw [←hap] at h;omega
  refine call (LU (X:=X2) hE hdp (Nw λy hy=>Hz hla (List.mem_of_mem_drop hy)) (by rw [List.length_drop];omega) (zAB hGI hI12) (zAJ hw hI12) hW2 hr2 zL (λI3 X3 hI3 hW3=>?_));exact hk I3 X3 (zAB hI12 hI3) (by simpa using hW3)
 have h24:x.kind≠24:=by simpa using h
 try refine zqe ?_
 refine AB (λh=>?_) (λh=>?_)
 ·have h:x.kind=25:=by simpa using h
  have hin:Ap true x (BO true x)=BO true x 0 5++([32,98,101,116,119,101,101,110,32]++(BO true x 1 5++([32,97,110,100,32]++BO true x 2 5))):=by unfold Ap;rw [hsg];simp [h]
  rw [hin] at hn hk;simp only [zU] at hn;refine rdB rfl ?_;refine call (BQ (X:=X) hE hd hx 0 5 hGI hw hW hc zL (λI1 X1 hI1 hW1=>?_));refine BP hW1 zL (λI2 X2 hI2 hW2=>?_);refine rdB rfl ?_;have hI12:=zAB hI1 hI2;refine call (BQ (X:=X2) hE hd hx 1 5 (zAB hGI hI12) (zAJ hw hI12) hW2 (ExV.mono hI12 hc) zL (λI3 X3 hI3 hW3=>?_));refine BP hW3 zL (λI4 X4 hI4 hW4=>?_);refine rdB rfl ?_;have hI14:=zAB hI12 (zAB hI3 hI4);refine call (BQ (X:=X4) hE hd hx 2 5 (zAB hGI hI14) (zAJ hw hI14) hW4 (ExV.mono hI14 hc) zL (λI5 X5 hI5 hW5=>?_));exact hk I5 X5 (zAB hI14 hI5) (by simpa using hW5)
 have h25:x.kind≠25:=by simpa using h
 rw [TI hsg ⟨h1,h2,h4,h5,h6,h7,h24,h25⟩] at hn hk;refine rdB rfl ?_;refine call (RQ (X:=X) hE hd hx hGI hw hW hc hn (λI1 X1 hI1 hW1=>?_));exact hk I1 X1 hI1 hW1
end
theorem AUv {P:Program}{ω:Om}{f:FuncId}{args:Array Value}{K:Value→M}{I:Imm}{L:LH}(h:CalD P ω f args K I L):CalD P ω f args (SL.gh K) I L:=λw hs=>
 CallsDIn.mono (h w hs) λ_ _ _ ⟨hu,v,I',L',he,hs',hk⟩=>⟨hu,v,I',L',he,hs',zAA hk⟩
section
variable {ω:Om}{G I:Imm}{L F Y:LH}{K:Value→M}{b:Nat}{w:Value}{X:LH}{l:Bs}{n:Nat}
theorem TT (hG:GN G)(n:Nat):UK ω G b w n:=by
 induction n with
 |zero=>exact λx hd=>by have:=Fh x;omega
 |succ n hE=>
  intro x hd hx k I X F l c K hGI hw hW hc hn hk;rw [AJi] at hn hk;obtain ⟨v,rfl,ha⟩:=ExV.iff.1 hc;refine ASr ?_;unfold AOk;refine Ac (λbx=>?_);try refine zqe ?_
  refine rdb ?_;refine call (ABA x.kind ?_);try refine zqe ?_
  refine AB (λh=>?_) (λh=>?_)
  ·rw [h] at hn hk;simp only [YP,if_true] at hn hk;simp only [zU] at hn;refine BP hW zL (λI1 X1 hI1 hW1=>?_);refine Eo [[41]] rfl rfl (λI2 a2 hI2 hv2=>zAA ?_);have hI12:=zAB hI1 hI2;have hc2:=ExV.mono hI12 hc;have hw2:=zAJ hw hI12;have fin:∀(I':Imm) (X':LH) (Y:LH),Ext I2 I'→SubP F Y→WrS b w X' ((l++[40])++Ap true x (BO true x))→FQ ω (AP b) (.slice a2 1 1) (λv=>Gh (K v)) I' (X'++Y):=by
    intro I' X' Y hI' hY hW';unfold FQ;refine AUv (AFg hW' (zAJ hv2 hI') (by simp) (by simp only [List.flatten_cons,List.flatten_nil,zU];omega) (λX'' hW''=>?_));exact zAE (X''++F) (zAA (hk I' X'' (zAB hI12 hI') (by simpa using hW'')))
   unfold ACu;refine Em ?_;try refine zqe ?_
   refine EO ?_;refine ⟨call (Gx (λbm es clock hm=>CS (zAC _) ⟨?_,?_⟩)),Ac (λbs=>CS (zAC _) (call (Gx (λbm es clock hm=>CS (zAC _) ?_))))⟩
   ·refine IL hm (λs k hs=>?_) (λhs=>?_)
    ·try refine zqe ?_
     refine Ac (λbs=>?_);refine CS (zAC _) ?_;refine stB rfl rfl (Au rfl) ?_;exact Lr (X:=X1) hE hd hx hG (zAB hGI hI12) hw2 hW1 hc2 (.inl ⟨s,k,hs,rfl,rfl⟩) zL (λI' X' hI' hW'=>fin I' X' _ hI' inferInstance hW')
    ·try refine zqe ?_
     refine Ac (λbs=>?_);refine CS (zAC _) ?_;refine stB rfl rfl (Au rfl) ?_;exact Lr (X:=X1) hE hd hx hG (zAB hGI hI12) hw2 hW1 hc2 (.inr ⟨hs,rfl⟩) zL (λI' X' hI' hW'=>fin I' X' _ hI' inferInstance hW')
   ·refine Ac (λbs=>?_);refine CS (zAC _) ?_;refine IL hm (λs k hs=>?_) (λhs=>?_)
    ·try refine zqe ?_
     refine stB rfl rfl (Au rfl) ?_;exact Lr (X:=X1) hE hd hx hG (zAB hGI hI12) hw2 hW1 hc2 (.inl ⟨s,k,hs,rfl,rfl⟩) zL (λI' X' hI' hW'=>fin I' X' _ hI' inferInstance hW')
    ·try refine zqe ?_
     refine stB rfl rfl (Au rfl) ?_;exact Lr (X:=X1) hE hd hx hG (zAB hGI hI12) hw2 hW1 hc2 (.inr ⟨hs,rfl⟩) zL (λI' X' hI' hW'=>fin I' X' _ hI' inferInstance hW')
   ·refine IL hm (λs k hs=>?_) (λhs=>?_)
    ·try refine zqe ?_
     refine stB rfl rfl (Au rfl) ?_;exact Lr (X:=X1) hE hd hx hG (zAB hGI hI12) hw2 hW1 hc2 (.inl ⟨s,k,hs,rfl,rfl⟩) zL (λI' X' hI' hW'=>fin I' X' _ hI' inferInstance hW')
    ·try refine zqe ?_
     refine stB rfl rfl (Au rfl) ?_;exact Lr (X:=X1) hE hd hx hG (zAB hGI hI12) hw2 hW1 hc2 (.inr ⟨hs,rfl⟩) zL (λI' X' hI' hW'=>fin I' X' _ hI' inferInstance hW')
  ·rw [h] at hn hk;simp only [YP,Bool.false_eq_true,if_false] at hn hk;have fin:∀(I':Imm) (X':LH) (Y:LH),Ext I I'→SubP F Y→WrS b w X' (l++Ap true x (BO true x))→Gh (K (.tuple #[])) I' (X'++Y):=by
    intro I' X' Y hI' hY hW';exact zAE (X'++F) (zAA (hk I' X' hI' hW'))
   unfold ACt;refine Em ?_;try refine zqe ?_
   refine EO ?_;refine ⟨call (Gx (λbm es clock hm=>CS (zAC _) ⟨?_,?_⟩)),Ac (λbs=>CS (zAC _) (call (Gx (λbm es clock hm=>CS (zAC _) ?_))))⟩
   ·refine IL hm (λs k hs=>?_) (λhs=>?_)
    ·try refine zqe ?_
     refine Ac (λbs=>?_);refine CS (zAC _) ?_;refine stB rfl rfl (Au rfl) ?_;exact Lm (X:=X) hE hd hx hG hGI hw hW hc (.inl ⟨s,k,hs,rfl,rfl⟩) hn (λI' X' hI' hW'=>fin I' X' _ hI' inferInstance hW')
    ·try refine zqe ?_
     refine Ac (λbs=>?_);refine CS (zAC _) ?_;refine stB rfl rfl (Au rfl) ?_;exact Lm (X:=X) hE hd hx hG hGI hw hW hc (.inr ⟨hs,rfl⟩) hn (λI' X' hI' hW'=>fin I' X' _ hI' inferInstance hW')
   ·refine Ac (λbs=>?_);refine CS (zAC _) ?_;refine IL hm (λs k hs=>?_) (λhs=>?_)
    ·try refine zqe ?_
     refine stB rfl rfl (Au rfl) ?_;exact Lm (X:=X) hE hd hx hG hGI hw hW hc (.inl ⟨s,k,hs,rfl,rfl⟩) hn (λI' X' hI' hW'=>fin I' X' _ hI' inferInstance hW')
    ·try refine zqe ?_
     refine stB rfl rfl (Au rfl) ?_;exact Lm (X:=X) hE hd hx hG hGI hw hW hc (.inr ⟨hs,rfl⟩) hn (λI' X' hI' hW'=>fin I' X' _ hI' inferInstance hW')
   ·refine IL hm (λs k hs=>?_) (λhs=>?_)
    ·try refine zqe ?_
     refine stB rfl rfl (Au rfl) ?_;exact Lm (X:=X) hE hd hx hG hGI hw hW hc (.inl ⟨s,k,hs,rfl,rfl⟩) hn (λI' X' hI' hW'=>fin I' X' _ hI' inferInstance hW')
    ·try refine zqe ?_
     refine stB rfl rfl (Au rfl) ?_;exact Lm (X:=X) hE hd hx hG hGI hw hW hc (.inr ⟨hs,rfl⟩) hn (λI' X' hI' hW'=>fin I' X' _ hI' inferInstance hW')
theorem IJ (hG:GN G){x:Ex}(hx:okE x)(k:Int)(hGI:Ext G I)(hw:StL I w wordsL)[hs:SplitL X L F](hW:WrS b w X l){c:List Value}(hc:ExV I x c)(hn:(l++exB true x k).length≤1000000000)
  (hk:∀I' X',Ext I I'→WrS b w X' (l++exB true x k)→K (.tuple #[]) I' (X'++F)):CT ω 120 #[AP b,.agg c.toArray,.int .i64 k] K I L:=
 zAQ X (TT hG (Dl x) x (Nat.le_refl _) hx k I X F l c K hGI hw hW hc hn hk)
theorem Fq (hG:GN G){x:Ex}(hx:okE x)(s:Bs)(hGI:Ext G I)(hw:StL I w wordsL)[hs:SplitL X L F](hW:WrS b w X l){c:List Value}(hc:ExV I x c)(hn:(l++Di true s x).length≤1000000000)
  (hk:∀I' X',Ext I I'→WrS b w X' (l++Di true s x)→K (.tuple #[]) I' (X'++F)):CT ω 121 #[AP b,.string ⟨s.toArray⟩,.agg c.toArray] K I L:=by
 refine zAQ X ?_;refine ASq ?_;unfold AOj;obtain ⟨v,rfl,ha⟩:=ExV.iff.1 hc;unfold Di at hn hk;refine Ac (λbx=>?_);try refine zqe ?_
 refine rdb ?_;try refine zqe ?_
 refine AB (λh=>?_) (λh=>?_)
 ·have h:x.kind≠0:=by simpa using h
  rw [if_neg h] at hn hk;simp only [zU] at hn;refine BP (X:=X) hW zL (λI1 X1 hI1 hW1=>?_);refine rdB rfl ?_;refine call (IJ hG hx 1 (zAB hGI hI1) (zAJ hw hI1) hW1 (ExV.mono hI1 hc) zL (λI2 X2 hI2 hW2=>?_));exact zAE (X2++F) (zAA (hk I2 X2 (zAB hI1 hI2) (by simpa using hW2)))
 ·have h:x.kind=0:=by simpa using h
  rw [if_pos h] at hn hk;exact zAE (X++F) (zAA (hk I X (zAC I) (by simpa using hW)))
theorem XW (s:Bs)(hw:StL I w wordsL)[hs:SplitL X L F](hW:WrS b w X l)(hn:(l++asB s).length≤1000000000)
  (hk:∀I' X',Ext I I'→WrS b w X' (l++asB s)→K (.tuple #[]) I' (X'++F)):CT ω 166 #[AP b,.string ⟨s.toArray⟩] K I L:=by
 refine zAQ X ?_;refine ASM ?_;unfold AOL;cases s with
 |nil=>
  simp only [show asB []=[] from rfl,List.append_nil] at hn hk;simp only [sNe,show (([]:Bs)==[])=true from rfl,Bool.not_true,SSd,Nat.reduceAdd];exact zAA (hk I X (zAC I) hW)
 |cons c r=>
  have he:asB (c::r)=[32,97,115,32]++nameB (c::r):=rfl;rw [he] at hn hk;simp only [zU] at hn;simp only [sNe,show ((c::r)==([]:Bs))=false from rfl,Bool.not_false,SSd,Nat.reduceAdd];refine BP (X:=X) hW zL (λI1 X1 hI1 hW1=>?_);refine call (BX hW1 (zAJ hw hI1) (c::r) zL (λI2 X2 hI2 hW2=>?_));exact zAA (hk I2 X2 (zAB hI1 hI2) (by simpa using hW2))
theorem KL {xs:List Bs}{v:Value}(hxl:xs.length≤1000000000000)(hv:StL I v xs)(hw:StL I w wordsL)[hs:SplitL X L F](hW:WrS b w X l)(hn:(l++DC xs).length≤1000000000)
  (hk:∀I' X',Ext I I'→WrS b w X' (l++DC xs)→K (.tuple #[]) I' (X'++F)):CT ω 115 #[AP b,v] K I L:=by
 refine zAQ X ?_;refine ASw ?_;unfold AOo;have he:DC xs=[40]++(AU (xs.map nameB)++[41]):=by simp [DC]
 rw [he] at hn hk;simp only [zU] at hn;refine BP (X:=X) hW zL (λI1 X1 hI1 hW1=>?_);refine call (ABP (g:=nameB) (F:=F) (zAJ hv hI1) (zAJ hw hI1) ?_ hxl hW1 zL (λI2 X2 hI2 hW2=>?_))
 ·intro x hxm I2 X2 l2 vx K2 hI2 hw2 hW2 hvx hn2 hk2;obtain rfl:vx= .string ⟨x.toArray⟩:=by simpa using (show [vx]=_ from hvx)
  refine ZA (by kernel_rfl) ?_;exact BX (X:=X2) hW2 hw2 x hn2 hk2
 ·refine BP hW2 zL (λI3 X3 hI3 hW3=>?_);exact zAA (hk I3 X3 (zAB hI1 (zAB hI2 hI3)) (by simpa using hW3))
end
abbrev wpO (b:Nat):Obj:=.cells [AP b].toArray 108 (0,0)
section
variable {ω:Om}{G I:Imm}{L F Y:LH}{K:Value→M}{b bw:Nat}{w:Value}{X:LH}{l:Bs}{n:Nat}
theorem AGE (hG:GN G){xs:List TItem}[i1:InL bw Y (wpO b)](hGI:Ext G I)(hxs:∀x∈xs,okE x.fExpr):FnW ω b w Y (.func (.func 165) #[] #[AP bw]) (Ik TItemV) (He true) xs I:=by
 intro x hxm I2 X2 l2 vx K2 hI2 hw2 hW2 hvx hn hk;obtain ⟨c,rfl,hc⟩:=hvx;obtain ⟨v0,rfl,h0⟩:=hc;have hok:=hxs x hxm;have hGI2:=zAB hGI hI2;refine Ib (by kernel_rfl) ?_;refine ASN ?_;show AHY ω (.agg _) (AP bw) _ I2 _;unfold AHY;refine Ac (λbx=>?_);have he:ExV I2 x.fExpr (Ak x.fExpr v0):=ExV.iff.2 ⟨v0,rfl,h0⟩;have fin:∀(s:Bs) (I3:Imm) (X3:LH) (lc:List Value) [GetL lc 13 (.string ⟨x.fAs.toArray⟩)],Ext I2 I3→s++asB x.fAs=He true x→WrS b w X3 (l2++s)→NS ω (AP bw) (AP bx) (λv=>Gh (K2 v)) I3 (X3++((bx,.cells lc.toArray 119 (0,0))::Y)):=by
  intro s I3 X3 lc _ hI3 hs hW3;rw [←hs] at hn hk;simp only [zU] at hn;unfold NS;refine rdb ?_;try refine zqe ?_
  refine rdb ?_;refine call (XW x.fAs (zAJ hw2 hI3) hW3 zL (λI4 X4 hI4 hW4=>?_));exact zAE (X4++Y) (zAA (hk I4 X4 (zAB hI3 hI4) (by simpa using hW4)))
 have hib:He true x=(if x.fStar then (if x.fTable.isEmpty then [42] else nameB x.fTable++[46,42]) else exB true x.fExpr 1)++asB x.fAs:=rfl;try refine zqe ?_
 refine rdb ?_;cases hst:x.fStar with
 |true=>
  rw [hst] at hib;try refine zqe ?_
  refine rdb ?_;cases htb:x.fTable with
  |nil=>
   rw [htb] at hib;simp only [List.isEmpty_nil,if_true] at hib;have hn':=hn;rw [hib] at hn';simp only [zU] at hn';simp only [sNe,show (([]:Bs)==[])=true from rfl,Bool.not_true,SSd,Nat.reduceAdd];unfold QV;try refine zqe ?_
   refine rdb ?_;try refine zqe ?_
   refine rdb ?_;refine BP (X:=X2) hW2 zL (λI3 X3 hI3 hW3=>?_);exact fin _ I3 X3 _ hI3 hib.symm hW3
  |cons c r=>
   rw [htb] at hib;simp only [List.isEmpty_cons,Bool.false_eq_true,if_false,if_true] at hib;have hn':=hn;rw [hib] at hn';simp only [zU] at hn';simp only [sNe,show ((c::r)==([]:Bs))=false from rfl,Bool.not_false,SSd,Nat.reduceAdd];unfold ACZ;refine rdb ?_;try refine zqe ?_
   refine rdb ?_;refine call (BX (X:=X2) hW2 hw2 (c::r) zL (λI3 X3 hI3 hW3=>?_));refine rdb ?_;refine BP hW3 zL (λI4 X4 hI4 hW4=>?_);exact fin (nameB (c::r)++[46,42]) I4 X4 _ (zAB hI3 hI4) hib.symm (by simpa using hW4)
 |false=>
  rw [hst] at hib;simp only [Bool.false_eq_true,if_false] at hib;have hn':=hn;rw [hib] at hn';simp only [zU] at hn';try refine zqe ?_
  unfold QV;try refine zqe ?_
  refine rdb ?_;try refine zqe ?_
  refine rdb ?_;refine rdP _ rfl rfl ?_;refine call (IJ (X:=X2) hG hok 1 hGI2 hw2 hW2 he zL (λI3 X3 hI3 hW3=>?_));exact fin _ I3 X3 _ hI3 hib.symm hW3
theorem AEP (hG:GN G){xs:List TOrder}[i1:InL bw Y (wpO b)](hGI:Ext G I)(hxs:∀x∈xs,okE x.fExpr):FnW ω b w Y (.func (.func 170) #[] #[AP bw]) (Ik TOrderV) (Sz true) xs I:=by
 intro x hxm I2 X2 l2 vx K2 hI2 hw2 hW2 hvx hn hk;obtain ⟨c,rfl,hc⟩:=hvx;obtain ⟨v0,rfl,h0⟩:=hc;have hok:=hxs x hxm;have hGI2:=zAB hGI hI2;refine Ib (by kernel_rfl) ?_;refine ASH ?_;show AHX ω (.agg _) (AP bw) _ I2 _;unfold AHX;refine Ac (λbx=>?_);have he:ExV I2 x.fExpr (Ak x.fExpr v0):=ExV.iff.2 ⟨v0,rfl,h0⟩;unfold Sz at hn hk;simp only [zU] at hn;refine rdb ?_;try refine zqe ?_
 refine rdP _ rfl rfl ?_;refine call (IJ (X:=X2) hG hok 1 hGI2 hw2 hW2 he zL (λI3 X3 hI3 hW3=>?_));try refine zqe ?_
 refine rdb ?_;cases hds:x.fDesc with
 |true=>
  rw [hds] at hn hk;simp only [if_true,List.length_cons,List.length_nil] at hn hk;try refine zqe ?_
  refine rdb ?_;refine BP hW3 zL (λI4 X4 hI4 hW4=>?_);exact zAE (X4++Y) (zAA (hk I4 X4 (zAB hI3 hI4) (by simpa using hW4)))
 |false=>
  rw [hds] at hn hk;simp only [Bool.false_eq_true,if_false] at hn hk;try refine zqe ?_
  exact zAE (X3++Y) (zAA (hk I3 X3 hI3 (by simpa using hW3)))
def AHh (x:TSet):Bs:=nameB x.fColumn++[32,61,32]++exB true x.fExpr 1
theorem ALI (hG:GN G){xs:List TSet}[i1:InL bw Y (wpO b)](hGI:Ext G I)(hxs:∀x∈xs,okE x.fExpr):FnW ω b w Y (.func (.func 119) #[] #[AP bw]) (Ik TSetV) AHh xs I:=by
 intro x hxm I2 X2 l2 vx K2 hI2 hw2 hW2 hvx hn hk;obtain ⟨c,rfl,hc⟩:=hvx;obtain ⟨v0,rfl,h0⟩:=hc;have hok:=hxs x hxm;have hGI2:=zAB hGI hI2;refine Ib (by kernel_rfl) ?_;refine ASs ?_;show AHc ω (.agg _) (AP bw) _ I2 _;unfold AHc;refine Ac (λbx=>?_);have he:ExV I2 x.fExpr (Ak x.fExpr v0):=ExV.iff.2 ⟨v0,rfl,h0⟩;unfold AHh at hn hk;simp only [zU] at hn;refine rdb ?_;try refine zqe ?_
 refine rdb ?_;refine call (BX (X:=X2) hW2 hw2 x.fColumn zL (λI3 X3 hI3 hW3=>?_));refine rdb ?_;refine BP hW3 zL (λI4 X4 hI4 hW4=>?_);refine rdb ?_;try refine zqe ?_
 refine rdP _ rfl rfl ?_;have hI24:=zAB hI3 hI4;refine call (IJ (X:=X4) hG hok 1 (zAB hGI2 hI24) (zAJ hw2 hI24) hW4 (ExV.mono hI24 he) zL (λI5 X5 hI5 hW5=>?_));exact zAE (X5++Y) (zAA (hk I5 X5 (zAB hI24 hI5) (by simpa using hW5)))
theorem ALJ (hG:GN G){xs:List (List Ex)}(hGI:Ext G I)(hxs:∀x∈xs,okL x∧x.length≤1000000000000):FnW ω b w Y (.func (.func 117) #[AP b] #[]) (ALH (Hl ExV 11)) (rowB true) xs I:=by
 intro x hxm I2 X2 l2 vx K2 hI2 hw2 hW2 hvx hn hk;obtain ⟨v,hv,hr⟩:=(show Hl ExV 11 I2 x [vx] from hvx);obtain rfl:vx=v:=by simpa using hv
 refine ZA (by kernel_rfl) ?_;exact LU (X:=X2) (n:=Bc x) (TT hG _) (Nat.le_refl _) (hxs x hxm).1 (hxs x hxm).2 (zAB hGI hI2) hw2 hW2 hr hn hk
def APZ (_:Imm)(x:Bool×Bs)(c:List Value):Prop:=c=[.bool x.1,.string ⟨x.2.toArray⟩]
def IV (l:List (Bool×Bs)):Bs:=l.flatMap λp=>if p.1 then p.2 else []
theorem ABD {l:List (Bool×Bs)}{k:Nat}(h:k < l.length):IV (l.take (k+1))=IV (l.take k)++(if l[k].1 then l[k].2 else []):=by
 unfold IV;rw [List.take_succ_eq_append_getElem h,List.flatMap_append];simp only [List.flatMap_cons,List.flatMap_nil,List.append_nil]
theorem AJg (l:List (Bool×Bs))(k:Nat):(IV (l.take k)).length≤(IV l).length:=by
 have:IV l=IV (l.take k)++IV (l.drop k):=by unfold IV;rw [←List.flatMap_append,List.take_append_drop]
 rw [this,List.length_append];omega
def tyM (t:Int):Option Bs:=if t=1 then some [32,105,110,116] else if t=2 then some [32,98,111,111,108] else if t=3 then some [32,116,101,120,116] else none
theorem ALR:Ey (Ey (Ey (λ_=>none) 1 (some (.string ⟨[32,105,110,116].toArray⟩))) 2 (some (.string ⟨[32,98,111,111,108].toArray⟩))) 3 (some (.string ⟨[32,116,101,120,116].toArray⟩))=λk=>(tyM k).map λs=>.string ⟨s.toArray⟩:=by
 funext k
 simp only [Ey,tyM];by_cases h3:k=3
 ·subst h3;rfl
 by_cases h2:k=2
 ·subst h2;rfl
 by_cases h1:k=1
 ·subst h1;rfl
 simp only [h1,h2,h3,if_false];rfl
theorem AMx (x:TCol):LM true x=nameB x.fName++((tyM x.fType).getD [32,63]++(IV [(x.fNotNull,[32,110,111,116,32,110,117,108,108]),(x.fKey,[32,112,114,105,109,97,114,121,32,107,101,121]),(x.fUnique,[32,117,110,105,113,117,101])]++Di true [32,100,101,102,97,117,108,116,32] x.fDefault)):=by
 have ht:[32]++KC x.fType=(tyM x.fType).getD [32,63]:=by
  unfold KC tyM;by_cases h1:x.fType=1
  ·rw [if_pos h1,if_pos h1];rfl
  by_cases h2:x.fType=2
  ·rw [if_neg h1,if_pos h2,if_neg h1,if_pos h2];rfl
  by_cases h3:x.fType=3
  ·rw [if_neg h1,if_neg h2,if_pos h3,if_neg h1,if_neg h2,if_pos h3];rfl
  rw [if_neg h1,if_neg h2,if_neg h3,if_neg h1,if_neg h2,if_neg h3];rfl
 rw [←ht];unfold LM IV Di;simp
theorem ALM (hG:GN G){xs:List TCol}[i1:InL bw Y (wpO b)](hGI:Ext G I)(hxs:∀x∈xs,okE x.fDefault):FnW ω b w Y (.func (.func 181) #[] #[AP bw]) (Ik TColV) (LM true) xs I:=by
 intro x hxm I2 X2 l2 vx K2 hI2 hw2 hW2 hvx hn hk;obtain ⟨c,rfl,hc⟩:=hvx;obtain ⟨v0,rfl,h0⟩:=hc;have hok:=hxs x hxm;have hGI2:=zAB hGI hI2;refine Ib (by kernel_rfl) ?_;refine ARy ?_;show AHV ω (.agg _) (AP bw) _ I2 _;unfold AHV;refine Ac (λbx=>?_);have he:ExV I2 x.fDefault (Ak x.fDefault v0):=ExV.iff.2 ⟨v0,rfl,h0⟩;rw [AMx] at hn hk;generalize hty:(tyM x.fType).getD [32,63]=ty at hn hk;generalize hfl:([(x.fNotNull,[32,110,111,116,32,110,117,108,108]),(x.fKey,[32,112,114,105,109,97,114,121,32,107,101,121]),(x.fUnique,[32,117,110,105,113,117,101])]:List (Bool×Bs))=fl at hn hk;simp only [zU] at hn;refine rdb ?_;try refine zqe ?_
 refine rdb ?_;refine call (BX (X:=X2) hW2 hw2 x.fName zL (λI3 X3 hI3 hW3=>?_));refine AIx (λbm=>?_);obtain ⟨es1,c1,e1,p1⟩:=MapSi.empty.put 1 (.string ⟨[32,105,110,116].toArray⟩);obtain ⟨es2,c2,e2,p2⟩:=p1.put 2 (.string ⟨[32,98,111,111,108].toArray⟩);obtain ⟨es3,c3,e3,p3⟩:=p2.put 3 (.string ⟨[32,116,101,120,116].toArray⟩);rw [ALR] at p3;refine zAA (GR (k:=1) MapSi.empty e1 ?_);refine zAA (GR (k:=2) p1 e2 ?_);refine zAA (GR (k:=3) p2 e3 ?_);refine zAA ?_;have rest:QQ ω (AP bw) (AP bx) (.string ⟨ty.toArray⟩) (λv=>Gh (K2 v)) I3 ((bm,.map es3 c3)::(X3++((bx,.cells [.string ⟨x.fName.toArray⟩,.int .i64 x.fType,.bool x.fNotNull,.bool x.fKey,.bool x.fUnique,.int .i64 x.fDefault.kind,.int .i64 x.fDefault.value.fType,.bool x.fDefault.value.fNull,.int .i64 x.fDefault.value.fInt,.string ⟨x.fDefault.value.fText.toArray⟩,.string ⟨x.fDefault.table.toArray⟩,.string ⟨x.fDefault.name.toArray⟩,.int .i64 x.fDefault.slot,.int .i64 x.fDefault.type,.bool x.fDefault.distinct,v0].toArray 101 (0,0))::Y))):=by
  unfold QQ;refine rdb ?_;refine BP (X:=X3) hW3 zL (λI4 X4 hI4 hW4=>?_);try refine zqe ?_
  refine rdb ?_;try refine zqe ?_
  refine rdb ?_;try refine zqe ?_
  refine rdb ?_;try refine zqe ?_
  have hI24:=zAB hI3 hI4;refine FP (R:=APZ) [(x.fNotNull,[32,110,111,116,32,110,117,108,108]),(x.fKey,[32,112,114,105,109,97,114,121,32,107,101,121]),(x.fUnique,[32,117,110,105,113,117,101])] [[.bool x.fNotNull,.string ⟨[32,110,111,116,32,110,117,108,108].toArray⟩],[.bool x.fKey,.string ⟨[32,112,114,105,109,97,114,121,32,107,101,121].toArray⟩],[.bool x.fUnique,.string ⟨[32,117,110,105,113,117,101].toArray⟩]] rfl rfl rfl (by simp) (by simp [APZ]) (λhI h=>h) (λI5 a5 hI5 hv5=>zAA ?_);rw [hfl] at hv5;have hfl3:fl.length=3:=by rw [←hfl];rfl
  try refine zqe ?_
  refine loop (λq st I' L'=>∃(k:Nat) (X':LH),k+q=3∧st=(.int .i64 k,())∧Ext I5 I'∧L'=X'++((bm,.map es3 c3)::((bx,.cells [.string ⟨x.fName.toArray⟩,.int .i64 x.fType,.bool x.fNotNull,.bool x.fKey,.bool x.fUnique,.int .i64 x.fDefault.kind,.int .i64 x.fDefault.value.fType,.bool x.fDefault.value.fNull,.int .i64 x.fDefault.value.fInt,.string ⟨x.fDefault.value.fText.toArray⟩,.string ⟨x.fDefault.table.toArray⟩,.string ⟨x.fDefault.name.toArray⟩,.int .i64 x.fDefault.slot,.int .i64 x.fDefault.type,.bool x.fDefault.distinct,v0].toArray 101 (0,0))::Y))∧WrS b w X' (((l2++nameB x.fName)++ty)++IV (fl.take k))) 3 ⟨0,X4,by omega,rfl,zAC _,rfl,by simpa [IV] using hW4⟩ ?_;rintro q st I' L' ⟨k,X',hkq,rfl,hI',rfl,hW'⟩;unfold ACS;try refine zqe ?_
  refine AB (λhb=>?_) (λhb=>?_)
  ·have hb:k < fl.length:=by
    have:=of_decide_eq_true hb;omega
   obtain ⟨bt,off,c1,g1,gl,g2,g3⟩:=zAS hv5 (i:=k) (by omega) (by omega);rw [Af hb] at g2;obtain rfl:=g2;have hft:=ABD hb;have hfle:=AJg fl (k+1);rw [hft,List.length_append] at hfle;simp only [g1,SSd,Nat.reduceAdd];refine FK (g3 _ [] hI' (λ_ h=>h)) (zAC _) gl ?_;refine Ac (λb3=>?_);refine stB rfl rfl (Au rfl) ?_;try refine zqe ?_
   refine rdb ?_;have nxt:∀(I6:Imm) (X6 Z:LH),Ext I' I6→SubP (X6++((bm,.map es3 c3)::((bx,.cells [.string ⟨x.fName.toArray⟩,.int .i64 x.fType,.bool x.fNotNull,.bool x.fKey,.bool x.fUnique,.int .i64 x.fDefault.kind,.int .i64 x.fDefault.value.fType,.bool x.fDefault.value.fNull,.int .i64 x.fDefault.value.fInt,.string ⟨x.fDefault.value.fText.toArray⟩,.string ⟨x.fDefault.table.toArray⟩,.string ⟨x.fDefault.name.toArray⟩,.int .i64 x.fDefault.slot,.int .i64 x.fDefault.type,.bool x.fDefault.distinct,v0].toArray 101 (0,0))::Y))) Z→WrS b w X6 (((l2++nameB x.fName)++ty)++IV (fl.take (k+1)))→QP ω (.int .i64 k) (λs'=>Gh λI2 L2=>∃m',m' < q∧∃(k:Nat) (X':LH),k+m'=3∧s'=(.int .i64 k,())∧Ext I5 I2∧L2=X'++((bm,.map es3 c3)::((bx,.cells [.string ⟨x.fName.toArray⟩,.int .i64 x.fType,.bool x.fNotNull,.bool x.fKey,.bool x.fUnique,.int .i64 x.fDefault.kind,.int .i64 x.fDefault.value.fType,.bool x.fDefault.value.fNull,.int .i64 x.fDefault.value.fInt,.string ⟨x.fDefault.value.fText.toArray⟩,.string ⟨x.fDefault.table.toArray⟩,.string ⟨x.fDefault.name.toArray⟩,.int .i64 x.fDefault.slot,.int .i64 x.fDefault.type,.bool x.fDefault.distinct,v0].toArray 101 (0,0))::Y))∧WrS b w X' (((l2++nameB x.fName)++ty)++IV (fl.take k))) (λv=>Gh (K2 v)) I6 Z:=by
    intro I6 X6 Z hI6 hZ hW6;unfold QP;simp only [wrap_i64 ((k:Int)+1) (by omega),SSd,Nat.reduceAdd];exact zAE _ (zAA ⟨q - 1,by omega,k+1,X6,by omega,rfl,zAB hI' hI6,rfl,hW6⟩)
   cases hf:fl[k].1 with
   |true=>
    rw [hf] at hft hfle;simp only [if_true] at hft hfle;try refine zqe ?_
    refine rdb ?_;try refine zqe ?_
    refine rdb ?_;refine BP (X:=X') hW' zL (λI6 X6 hI6 hW6=>?_);exact nxt I6 X6 _ hI6 inferInstance (by rw [hft];simpa using hW6)
   |false=>
    rw [hf] at hft;simp only [Bool.false_eq_true,if_false,List.append_nil] at hft;try refine zqe ?_
    exact nxt I' X' _ (zAC _) inferInstance (by rw [hft];exact hW')
  ·have hb:¬k < fl.length:=by
    have:=of_decide_eq_false hb;omega
   rw [List.take_of_length_le (by omega)] at hW';have hI25:=zAB hI24 (zAB hI5 hI');unfold ACR;refine rdb ?_;try refine zqe ?_
   refine rdP _ rfl rfl ?_;refine call (Fq (X:=X') hG hok [32,100,101,102,97,117,108,116,32] (zAB hGI2 hI25) (zAJ hw2 hI25) hW' (ExV.mono hI25 he) zL (λI6 X6 hI6 hW6=>?_));exact zAE (X6++Y) (zAA (hk I6 X6 (zAB hI25 hI6) (by simpa using hW6)))
 try refine zqe ?_
 refine rdb ?_;refine AUf (k:=x.fType) p3 ?_;cases htt:tyM x.fType with
 |none=>
  rw [htt] at hty;subst hty;simp only [Option.map_none,lkV,SSd,Nat.reduceAdd];exact rest
 |some s=>
  rw [htt] at hty;obtain rfl:s=ty:=hty;simp only [Option.map_some,lkV,SSd,Nat.reduceAdd];exact rest
end
abbrev selC (q:TSelect)(v0 v1 v2 v3 v4 v5:Value):List Value:=[.bool q.fDistinct,v0,v1,.int .i64 q.fWhere.kind,.int .i64 q.fWhere.value.fType,.bool q.fWhere.value.fNull,.int .i64 q.fWhere.value.fInt,.string ⟨q.fWhere.value.fText.toArray⟩,.string ⟨q.fWhere.table.toArray⟩,.string ⟨q.fWhere.name.toArray⟩,.int .i64 q.fWhere.slot,.int .i64 q.fWhere.type,.bool q.fWhere.distinct,v2,v3,.int .i64 q.fHaving.kind,.int .i64 q.fHaving.value.fType,.bool q.fHaving.value.fNull,.int .i64 q.fHaving.value.fInt,.string ⟨q.fHaving.value.fText.toArray⟩,.string ⟨q.fHaving.table.toArray⟩,.string ⟨q.fHaving.name.toArray⟩,.int .i64 q.fHaving.slot,.int .i64 q.fHaving.type,.bool q.fHaving.distinct,v4,v5,.int .i64 q.fLimit,.int .i64 q.fOffset]
structure OkQ (q:TSelect):Prop where
 it:∀x∈q.fItems,okE x.fExpr
 fr:∀x∈q.fFrom,okE x.fOn
 wh:okE q.fWhere
 gr:okL q.fGroup
 ha:okE q.fHaving
 od:∀x∈q.fOrder,okE x.fExpr
 li:okI q.fLimit
 off:okI q.fOffset
 cnt:cQ q≤1000000000
def AGH (q:TSelect):Bs:=if q.fOffset=0 then [] else [32,111,102,102,115,101,116,32]++IW true q.fOffset
def tx9 (q:TSelect):Bs:=(if 0≤q.fLimit then [32,108,105,109,105,116,32]++IW true q.fLimit else [])++AGH q
def tx8 (q:TSelect):Bs:=Di true [32,104,97,118,105,110,103,32] q.fHaving++((if q.fOrder.isEmpty then [] else [32,111,114,100,101,114,32,98,121,32]++AU (q.fOrder.map (Sz true)))++tx9 q)
def tx7 (q:TSelect):Bs:=Di true [32,119,104,101,114,101,32] q.fWhere++((if q.fGroup.isEmpty then [] else [32,103,114,111,117,112,32,98,121,32]++Iu true q.fGroup)++tx8 q)
def tx1 (q:TSelect):Bs:=AU (q.fItems.map (He true))++(DW true 0 q.fFrom++tx7 q)
theorem YE (q:TSelect):Jh true q=[115,101,108,101,99,116,32]++((if q.fDistinct then [100,105,115,116,105,110,99,116,32] else [])++tx1 q):=by
 unfold Jh tx1 tx7 tx8 tx9 AGH;simp only [List.append_assoc]
theorem UZ (x:TSource):∀(l:List TSource) (i:Nat),DW true i (l++[x])=DW true i l++KQ true (i+l.length) x
 |[],i=>by simp [DW]
 |y::l,i=>by
  simp only [List.cons_append,DW,UZ x l (i+1),List.length_cons,List.append_assoc];congr 2;congr 1;omega
theorem AEb {l:List TSource}{k:Nat}(h:k < l.length):DW true 0 (l.take (k+1))=DW true 0 (l.take k)++KQ true k l[k]:=by
 rw [List.take_succ_eq_append_getElem h,UZ,List.length_take];congr 2;omega
theorem Xf:∀(l m:List TSource) (i:Nat),DW true i (l++m)=DW true i l++DW true (i+l.length) m
 |[],m,i=>by simp [DW]
 |y::l,m,i=>by
  simp only [List.cons_append,DW,Xf l m (i+1),List.length_cons,List.append_assoc];congr 3;omega
theorem ALZ (l:List TSource)(k:Nat):(DW true 0 (l.take k)).length≤(DW true 0 l).length:=by
 have:=Xf (l.take k) (l.drop k) 0;rw [List.take_append_drop] at this;rw [this,List.length_append];omega
section
variable {ω:Om}{G I:Imm}{L F Y:LH}{K:Value→M}{b bw bq:Nat}{w:Value}{X:LH}{l:Bs}{n:Nat}{q:TSelect}{v0 v1 v2 v3 v4 v5:Value}
abbrev Yq (b bw bq:Nat)(q:TSelect)(v0 v1 v2 v3 v4 v5:Value)(F:LH):LH:=(bq,.cells (selC q v0 v1 v2 v3 v4 v5).toArray 40 (0,0))::(bw,wpO b)::F
theorem q10 (hG:GN G)(hGI:Ext G I)(hq:OkQ q)(hW:WrS b w X l)(hn:(l++AGH q).length≤1000000000)(hk:∀I' X',Ext I I'→WrS b w X' (l++AGH q)→Gh (K (.tuple #[])) I' (X'++Yq b bw bq q v0 v1 v2 v3 v4 v5 F)):
  Na ω (AP bw) (AP bq) (λv=>Gh (K v)) I (X++Yq b bw bq q v0 v1 v2 v3 v4 v5 F):=by
 unfold Na;unfold AGH at hn hk;try refine zqe ?_
 refine rdb ?_;try refine zqe ?_
 refine AB (λh=>?_) (λh=>?_)
 ·have h:q.fOffset≠0:=by simpa using h
  rw [if_neg h] at hn hk;refine Em ?_;refine EO ?_;try refine zqe ?_
  refine EO ?_;refine call (VI hG hGI _ hq.off.1 hq.off.2 (CS (zAC _) ?_));refine Eo [[32,111,102,102,115,101,116,32],IW true q.fOffset] rfl rfl (λI' a hI' hv'=>zAA ?_);refine CS hI' ?_;refine call (JK (X:=X) hW hv' (by simp) (by simpa using hn) (λX' hW'=>?_));exact hk I' X' hI' (by simpa using hW')
 ·have h:q.fOffset=0:=by simpa using h
  rw [if_pos h] at hn hk;exact hk I X (zAC I) (by simpa using hW)
theorem q9 (hG:GN G)(hGI:Ext G I)(hq:OkQ q)(hW:WrS b w X l)(hn:(l++tx9 q).length≤1000000000)(hk:∀I' X',Ext I I'→WrS b w X' (l++tx9 q)→Gh (K (.tuple #[])) I' (X'++Yq b bw bq q v0 v1 v2 v3 v4 v5 F)):
  Qk ω (AP bw) (AP bq) (λv=>Gh (K v)) I (X++Yq b bw bq q v0 v1 v2 v3 v4 v5 F):=by
 unfold Qk;unfold tx9 at hn hk;try refine zqe ?_
 refine rdb ?_;try refine zqe ?_
 refine AB (λh=>?_) (λh=>?_)
 ·have h:0≤q.fLimit:=by simpa using h
  rw [if_pos h] at hn hk;refine Em ?_;refine EO ?_;try refine zqe ?_
  refine EO ?_;refine call (VI hG hGI _ hq.li.1 hq.li.2 (CS (zAC _) ?_));refine Eo [[32,108,105,109,105,116,32],IW true q.fLimit] rfl rfl (λI' a hI' hv'=>zAA ?_);refine CS hI' ?_;simp only [List.length_append] at hn;refine call (JK (X:=X) hW hv' (by simp) (by simp only [List.flatten_cons,List.flatten_nil,List.append_nil,List.length_append];omega) (λX' hW'=>?_));exact q10 hG (zAB hGI hI') hq hW' (by simp only [List.flatten_cons,List.flatten_nil,List.append_nil,List.length_append];omega) (λI2 X2 hI2 hW2=>hk I2 X2 (zAB hI' hI2) (by simpa using hW2))
 ·have h:¬0≤q.fLimit:=by simpa using h
  rw [if_neg h] at hn hk;exact q10 hG hGI hq hW (by simpa using hn) (λI2 X2 hI2 hW2=>hk I2 X2 hI2 (by simpa using hW2))
theorem q8 (hG:GN G)(hGI:Ext G I)(hw:StL I w wordsL)(hq:OkQ q)(h4:ExL I v4 q.fHaving.args)(h5:RL TOrderV 12 I [] v5 q.fOrder)(hW:WrS b w X l)(hn:(l++tx8 q).length≤1000000000)(hk:∀I' X',Ext I I'→WrS b w X' (l++tx8 q)→Gh (K (.tuple #[])) I' (X'++Yq b bw bq q v0 v1 v2 v3 v4 v5 F)):
  Ql ω (AP bw) (AP bq) (λv=>Gh (K v)) I (X++Yq b bw bq q v0 v1 v2 v3 v4 v5 F):=by
 unfold Ql;unfold tx8 at hn hk;simp only [zU] at hn;have hcnt:=hq.cnt;unfold cQ at hcnt;refine rdb ?_;try refine zqe ?_
 refine rdP _ rfl rfl ?_;refine call (Fq (X:=X) hG hq.ha [32,104,97,118,105,110,103,32] hGI hw hW (ExV.iff.2 ⟨v4,rfl,h4⟩) zL (λI1 X1 hI1 hW1=>?_));try refine zqe ?_
 refine rdb ?_;have h51:RL TOrderV 12 I1 [] v5 q.fOrder:=zAP (λ_ _ h=>TOrderV.mono h hI1) h5 hI1 (λ_ h=>h);simp only [zAM h5,SSd,Nat.reduceAdd];refine AB (λh=>?_) (λh=>?_)
 ·have h:q.fOrder.isEmpty=false:=by
   have:=of_decide_eq_true h;cases ho:q.fOrder with
   |nil=>rw [ho] at this;simp at this
   |cons _ _=>rfl
  rw [h] at hn hk;simp only [Bool.false_eq_true,if_false,zU] at hn hk;refine rdb ?_;refine BP hW1 zL (λI2 X2 hI2 hW2=>?_);have hI12:=zAB hI1 hI2;refine rdb ?_;try refine zqe ?_
  refine rdb ?_;refine call (XE (g:=Sz true) (F:=Yq b bw bq q v0 v1 v2 v3 v4 v5 F) (zAP (λ_ _ h=>TOrderV.mono h hI2) h51 hI2 (λ_ h=>h)) (zAJ hw hI12) (AEP (bw:=bw) hG (zAB hGI hI12) hq.od) (by omega) hW2 zL (λI3 X3 hI3 hW3=>?_));exact q9 hG (zAB hGI (zAB hI12 hI3)) hq hW3 zL (λI4 X4 hI4 hW4=>hk I4 X4 (zAB (zAB hI12 hI3) hI4) (by simpa using hW4))
 ·have h:q.fOrder.isEmpty=true:=by
   have:=of_decide_eq_false h;cases ho:q.fOrder with
   |nil=>rfl
   |cons _ _=>rw [ho] at this;simp at this
  rw [h] at hn hk;simp only [if_true,List.nil_append,List.length_nil] at hn hk;exact q9 hG (zAB hGI hI1) hq hW1 zL (λI4 X4 hI4 hW4=>hk I4 X4 (zAB hI1 hI4) (by simpa using hW4))
theorem q7 (hG:GN G)(hGI:Ext G I)(hw:StL I w wordsL)(hq:OkQ q)(h2:ExL I v2 q.fWhere.args)(h3:ExL I v3 q.fGroup)(h4:ExL I v4 q.fHaving.args)(h5:RL TOrderV 12 I [] v5 q.fOrder)(hW:WrS b w X l)(hn:(l++tx7 q).length≤1000000000)(hk:∀I' X',Ext I I'→WrS b w X' (l++tx7 q)→Gh (K (.tuple #[])) I' (X'++Yq b bw bq q v0 v1 v2 v3 v4 v5 F)):
  WG ω (AP bw) (AP bq) (λv=>Gh (K v)) I (X++Yq b bw bq q v0 v1 v2 v3 v4 v5 F):=by
 unfold WG;unfold tx7 at hn hk;simp only [zU] at hn;have hcnt:=hq.cnt;unfold cQ at hcnt;refine rdb ?_;try refine zqe ?_
 refine rdP _ rfl rfl ?_;refine call (Fq (X:=X) hG hq.wh [32,119,104,101,114,101,32] hGI hw hW (ExV.iff.2 ⟨v2,rfl,h2⟩) zL (λI1 X1 hI1 hW1=>?_));try refine zqe ?_
 refine rdb ?_;simp only [zAM h3,SSd,Nat.reduceAdd];refine AB (λh=>?_) (λh=>?_)
 ·have h:q.fGroup.isEmpty=false:=by
   have:=of_decide_eq_true h;cases ho:q.fGroup with
   |nil=>rw [ho] at this;simp at this
   |cons _ _=>rfl
  rw [h] at hn hk;simp only [Bool.false_eq_true,if_false,zU] at hn hk;refine rdb ?_;refine BP hW1 zL (λI2 X2 hI2 hW2=>?_);have hI12:=zAB hI1 hI2;refine rdb ?_;try refine zqe ?_
  refine rdb ?_;refine call (RJ (n:=Bc q.fGroup) (TT hG _) (Nat.le_refl _) hq.gr (by omega) (zAB hGI hI12) (zAJ hw hI12) hW2 (zAN h3 hI12) zL (λI3 X3 hI3 hW3=>?_));have hI13:=zAB hI12 hI3;exact q8 hG (zAB hGI hI13) (zAJ hw hI13) hq (zAN h4 hI13) (zAP (λ_ _ h=>TOrderV.mono h hI13) h5 hI13 (λ_ h=>h)) hW3 zL (λI4 X4 hI4 hW4=>hk I4 X4 (zAB hI13 hI4) (by simpa using hW4))
 ·have h:q.fGroup.isEmpty=true:=by
   have:=of_decide_eq_false h;cases ho:q.fGroup with
   |nil=>rfl
   |cons _ _=>rw [ho] at this;simp at this
  rw [h] at hn hk;simp only [if_true,List.nil_append,List.length_nil] at hn hk;exact q8 hG (zAB hGI hI1) (zAJ hw hI1) hq (zAN h4 hI1) (zAP (λ_ _ h=>TOrderV.mono h hI1) h5 hI1 (λ_ h=>h)) hW1 zL (λI4 X4 hI4 hW4=>hk I4 X4 (zAB hI1 hI4) (by simpa using hW4))
def YZ (i:Nat)(x:TSource):Bs:=if i=0 then [32,102,114,111,109,32] else if x.fLeft then [32,108,101,102,116,32,106,111,105,110,32] else if x.fOn.kind≠0 then [32,106,111,105,110,32] else [32,99,114,111,115,115,32,106,111,105,110,32]
def YT (i:Nat)(x:TSource):Bs:=if 0 < i∧(x.fLeft=true∨x.fOn.kind≠0) then [32,111,110,32]++exB true x.fOn 1 else []
theorem ABt (i:Nat)(x:TSource):KQ true i x=YZ i x++(nameB x.fTable++(asB x.fAs++YT i x)):=by
 unfold KQ YZ YT;simp only [List.append_assoc]
theorem YY {x:TSource}{c:List Value}(hc:TSourceV I x c)(i:Nat)(hk:K (.string ⟨(YZ i x).toArray⟩) I L):CT ω 167 #[.int .i64 (i:Nat),.agg c.toArray] K I L:=by
 obtain ⟨u0,rfl,h0⟩:=hc;refine ASL ?_;unfold AOK;unfold YZ at hk;refine Ac (λbx=>?_);try refine zqe ?_
 refine AB (λh=>?_) (λh=>?_)
 ·have h:i=0:=by
   have:(i:Int)=0:=by simpa using h
   omega
  rw [if_pos h] at hk;exact zAE L (zAA hk)
 have h:¬i=0:=by
  have:¬(i:Int)=0:=by simpa using h
  omega
 rw [if_neg h] at hk;try refine zqe ?_
 refine rdb ?_;refine AB (λh=>?_) (λh=>?_)
 ·rw [if_pos h] at hk;exact zAE L (zAA hk)
 rw [if_neg (by simp [h])] at hk;try refine zqe ?_
 refine rdb ?_;try refine zqe ?_
 refine AB (λh=>?_) (λh=>?_)
 ·have h:x.fOn.kind≠0:=by simpa using h
  rw [if_pos h] at hk;exact zAE L (zAA hk)
 ·have h:x.fOn.kind=0:=by simpa using h
  rw [if_neg (by simp [h])] at hk;exact zAE L (zAA hk)
theorem q1 (hG:GN G)(hGI:Ext G I)(hw:StL I w wordsL)(hq:OkQ q)(h0:RL TItemV 14 I [] v0 q.fItems)(h1:RL TSourceV 14 I [] v1 q.fFrom)(h2:ExL I v2 q.fWhere.args)(h3:ExL I v3 q.fGroup)(h4:ExL I v4 q.fHaving.args)(h5:RL TOrderV 12 I [] v5 q.fOrder)(hW:WrS b w X l)(hn:(l++tx1 q).length≤1000000000)(hk:∀I' X',Ext I I'→WrS b w X' (l++tx1 q)→Gh (K (.tuple #[])) I' (X'++Yq b bw bq q v0 v1 v2 v3 v4 v5 F)):
  Nb ω (AP bw) (AP bq) (λv=>Gh (K v)) I (X++Yq b bw bq q v0 v1 v2 v3 v4 v5 F):=by
 unfold Nb;unfold tx1 at hn hk;simp only [zU] at hn;have hcnt:=hq.cnt;unfold cQ at hcnt;refine rdb ?_;try refine zqe ?_
 refine rdb ?_;refine call (Yr (g:=He true) (F:=Yq b bw bq q v0 v1 v2 v3 v4 v5 F) h0 hw (AGE (bw:=bw) hG hGI hq.it) (by omega) hW zL (λI1 X1 hI1 hW1=>?_));try refine zqe ?_
 refine rdb ?_;simp only [zAM h1,SSd,Nat.reduceAdd];refine loop (λm st I' L'=>∃(k:Nat) (X':LH),k+m=q.fFrom.length∧st=(.int .i64 k,())∧Ext I I'∧L'=X'++Yq b bw bq q v0 v1 v2 v3 v4 v5 F∧WrS b w X' ((l++AU (q.fItems.map (He true)))++DW true 0 (q.fFrom.take k))) q.fFrom.length ⟨0,X1,by omega,rfl,hI1,rfl,by simpa [DW] using hW1⟩ ?_;rintro m st I' L' ⟨k,X',hkm,rfl,hI',rfl,hW'⟩;unfold ACy;try refine zqe ?_
 refine AB (λhb=>?_) (λhb=>?_)
 ·have hb:k < q.fFrom.length:=by
   have:=of_decide_eq_true hb;omega
  obtain ⟨bt,off,c1,g1,gl,g2,g3⟩:=zAS h1 (i:=k) (by omega) (by omega);rw [Af hb] at g2;have g2:=g2.mono hI';have g2c:=g2;have hok:=hq.fr _ (List.getElem_mem hb);have hst:=AEb hb;have hsl:=ALZ q.fFrom (k+1);rw [hst,ABt] at hsl;rw [ABt] at hst;simp only [List.length_append] at hsl;obtain ⟨u0,rfl,hu⟩:=g2;generalize hy:q.fFrom[k]=y at *;have he:ExV I' y.fOn (Ak y.fOn u0):=ExV.iff.2 ⟨u0,rfl,hu⟩;simp only [g1,SSd,Nat.reduceAdd];refine FK (g3 _ [] hI' (λ_ h=>h)) (zAC _) rfl ?_;refine Ac (λb3=>?_);obtain ⟨a0,k0,rfl⟩:=zAG hu;refine stB rfl rfl (Au rfl) ?_;refine Em ?_;refine EO ?_;refine SK rfl ?_;refine call (YY g2c k ?_);refine CS (zAC _) ?_;refine Eo [YZ k y] rfl rfl (λI2 a2 hI2 hv2=>zAA ?_);refine CS hI2 ?_;refine call (JK (X:=X') hW' hv2 (by simp) (by simp only [List.flatten_cons,List.flatten_nil,List.append_nil,List.length_append];omega) (λX3 hW3=>?_));simp only [List.flatten_cons,List.flatten_nil,List.append_nil] at hW3;refine rdb ?_;try refine zqe ?_
  refine rdb ?_;have hI12:=zAB hI' hI2;refine call (BX hW3 (zAJ hw hI12) y.fTable zL (λI4 X4 hI4 hW4=>?_));refine rdb ?_;try refine zqe ?_
  refine rdb ?_;have hI14:=zAB hI12 hI4;refine call (XW y.fAs (zAJ hw hI14) hW4 zL (λI5 X5 hI5 hW5=>?_));have hI15:=zAB hI14 hI5;have fin:∀(I6:Imm) (X6 Z:LH),Ext I I6→SubP (X6++Yq b bw bq q v0 v1 v2 v3 v4 v5 F) Z→WrS b w X6 ((l++AU (q.fItems.map (He true)))++DW true 0 (q.fFrom.take (k+1)))→LY ω (.int .i64 k) (λs'=>Gh λI2 L2=>∃m',m' < m∧∃(k:Nat) (X':LH),k+m'=q.fFrom.length∧s'=(.int .i64 k,())∧Ext I I2∧L2=X'++Yq b bw bq q v0 v1 v2 v3 v4 v5 F∧WrS b w X' ((l++AU (q.fItems.map (He true)))++DW true 0 (q.fFrom.take k))) (λv=>Gh (K v)) I6 Z:=by
   intro I6 X6 Z hI6 hZ hW6;unfold LY;simp only [wrap_i64 ((k:Int)+1) (by omega),SSd,Nat.reduceAdd];exact zAE (X6++Yq b bw bq q v0 v1 v2 v3 v4 v5 F) (zAA ⟨m - 1,by omega,k+1,X6,by omega,rfl,hI6,rfl,hW6⟩)
  have yes:YT k y=[32,111,110,32]++exB true y.fOn 1→Qm ω (AP bw) (AP b3) (.int .i64 k) (λs'=>Gh λI2 L2=>∃m',m' < m∧∃(k:Nat) (X':LH),k+m'=q.fFrom.length∧s'=(.int .i64 k,())∧Ext I I2∧L2=X'++Yq b bw bq q v0 v1 v2 v3 v4 v5 F∧WrS b w X' ((l++AU (q.fItems.map (He true)))++DW true 0 (q.fFrom.take k))) (λv=>Gh (K v)) I5 (X5++((b3,.cells [.string ⟨y.fTable.toArray⟩,.string ⟨y.fAs.toArray⟩,.bool y.fLeft,.int .i64 y.fOn.kind,.int .i64 y.fOn.value.fType,.bool y.fOn.value.fNull,.int .i64 y.fOn.value.fInt,.string ⟨y.fOn.value.fText.toArray⟩,.string ⟨y.fOn.table.toArray⟩,.string ⟨y.fOn.name.toArray⟩,.int .i64 y.fOn.slot,.int .i64 y.fOn.type,.bool y.fOn.distinct,.slice a0 y.fOn.args.length k0].toArray 123 (0,0))::Yq b bw bq q v0 v1 v2 v3 v4 v5 F)):=by
   intro hon;rw [hon] at hst hsl;simp only [zU] at hsl;unfold Qm;refine rdb ?_;refine BP hW5 zL (λI6 X6 hI6 hW6=>?_);refine rdb ?_;try refine zqe ?_
   refine rdP _ rfl rfl ?_;have hI26:=zAB hI2 (zAB hI4 (zAB hI5 hI6));refine call (IJ hG hok 1 (zAB hGI (zAB hI' hI26)) (zAJ hw (zAB hI' hI26)) hW6 (ExV.mono hI26 he) zL (λI7 X7 hI7 hW7=>?_));exact fin I7 X7 _ (zAB (zAB hI' hI26) hI7) inferInstance (by rw [hst];simpa using hW7)
  have no:YT k y=[]→LY ω (.int .i64 k) (λs'=>Gh λI2 L2=>∃m',m' < m∧∃(k:Nat) (X':LH),k+m'=q.fFrom.length∧s'=(.int .i64 k,())∧Ext I I2∧L2=X'++Yq b bw bq q v0 v1 v2 v3 v4 v5 F∧WrS b w X' ((l++AU (q.fItems.map (He true)))++DW true 0 (q.fFrom.take k))) (λv=>Gh (K v)) I5 (X5++((b3,.cells [.string ⟨y.fTable.toArray⟩,.string ⟨y.fAs.toArray⟩,.bool y.fLeft,.int .i64 y.fOn.kind,.int .i64 y.fOn.value.fType,.bool y.fOn.value.fNull,.int .i64 y.fOn.value.fInt,.string ⟨y.fOn.value.fText.toArray⟩,.string ⟨y.fOn.table.toArray⟩,.string ⟨y.fOn.name.toArray⟩,.int .i64 y.fOn.slot,.int .i64 y.fOn.type,.bool y.fOn.distinct,.slice a0 y.fOn.args.length k0].toArray 123 (0,0))::Yq b bw bq q v0 v1 v2 v3 v4 v5 F)):=by
   intro hon;rw [hon] at hst;exact fin I5 X5 _ hI15 inferInstance (by rw [hst];simpa using hW5)
  try refine zqe ?_
  refine DN (λh=>?_) (λh=>?_)
  ·have h:0 < k:=by
    have:(0:Int) < k:=by simpa using h
    omega
   refine rdb ?_;cases hl:y.fLeft with
   |true=>
    rw [hl] at yes;try refine zqe ?_
    exact yes (by unfold YT;rw [if_pos ⟨h,.inl hl⟩])
   |false=>
    rw [hl] at yes no;try refine zqe ?_
    refine rdb ?_;try refine zqe ?_
    refine AB (λh2=>?_) (λh2=>?_)
    ·have h2:y.fOn.kind≠0:=by simpa using h2
     exact yes (by unfold YT;rw [if_pos ⟨h,.inr h2⟩])
    ·have h2:y.fOn.kind=0:=by simpa using h2
     exact no (by unfold YT;rw [if_neg (by rw [hl,h2];simp)])
  ·have h:¬0 < k:=by
    have:¬(0:Int) < k:=by simpa using h
    omega
   exact no (by unfold YT;rw [if_neg (λhc=>h hc.1)])
 ·have hb:¬k < q.fFrom.length:=by
   have:=of_decide_eq_false hb;omega
  rw [List.take_of_length_le (by omega)] at hW';exact q7 hG (zAB hGI hI') (zAJ hw hI') hq (zAN h2 hI') (zAN h3 hI') (zAN h4 hI') (zAP (λ_ _ h=>TOrderV.mono h hI') h5 hI' (λ_ h=>h)) hW' zL (λI4 X4 hI4 hW4=>hk I4 X4 (zAB hI' hI4) (by simpa using hW4))
theorem XR (hG:GN G)(hGI:Ext G I)(hw:StL I w wordsL)(hq:OkQ q){c:List Value}(hc:CE I q c)[hs:SplitL X L F](hW:WrS b w X l)(hn:(l++Jh true q).length≤1000000000)(hk:∀I' X',Ext I I'→WrS b w X' (l++Jh true q)→K (.tuple #[]) I' (X'++F)):
  CT ω 112 #[AP b,.agg c.toArray] K I L:=by
 refine zAQ X ?_;refine ASz ?_;unfold AOq;obtain ⟨v0,v1,v2,v3,v4,v5,rfl,h0,h1,h2,h3,h4,h5⟩:=hc;rw [YE] at hn hk;simp only [zU] at hn;refine Ac (o:=wpO b) (λbw=>?_);refine Ac (o:=.cells (selC q v0 v1 v2 v3 v4 v5).toArray 40 (0,0)) (λbq=>?_);refine rdb ?_;refine BP (X:=X) hW zL (λI1 X1 hI1 hW1=>?_);have go:∀(s:Bs) (I2:Imm) (X2:LH),Ext I I2→s=(if q.fDistinct then [100,105,115,116,105,110,99,116,32] else [])→WrS b w X2 ((l++[115,101,108,101,99,116,32])++s)→Nb ω (AP bw) (AP bq) (λv=>Gh (K v)) I2 (X2++Yq b bw bq q v0 v1 v2 v3 v4 v5 F):=by
  intro s I2 X2 hI2 hs2 hW2;rw [←hs2] at hn hk;exact q1 hG (zAB hGI hI2) (zAJ hw hI2) hq (zAP (λ_ _ h=>TItemV.mono h hI2) h0 hI2 (λ_ h=>h)) (zAP (λ_ _ h=>TSourceV.mono h hI2) h1 hI2 (λ_ h=>h)) (zAN h2 hI2) (zAN h3 hI2) (zAN h4 hI2) (zAP (λ_ _ h=>TOrderV.mono h hI2) h5 hI2 (λ_ h=>h)) hW2 zL (λI4 X4 hI4 hW4=>zAE (X4++F) (zAA (hk I4 X4 (zAB hI2 hI4) (by simpa using hW4))))
 try refine zqe ?_
 refine rdb ?_;refine AB (λh=>?_) (λh=>?_)
 ·rw [h] at go hn;simp only [if_true,List.length_cons,List.length_nil] at hn;refine rdb ?_;refine BP hW1 zL (λI2 X2 hI2 hW2=>?_);exact go _ I2 X2 (zAB hI1 hI2) (by simp) hW2
 ·rw [h] at go;exact go [] I1 X1 hI1 (by simp) (by simpa using hW1)
end
end Go.Proofs.YtkifgfanjcfedaaGreatDoor
