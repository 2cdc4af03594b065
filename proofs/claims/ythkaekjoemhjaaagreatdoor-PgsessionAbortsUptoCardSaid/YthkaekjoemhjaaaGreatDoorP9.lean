/-
  Lemmas, part 9: laid together by a program.
-/
import Derived.Test.YthkaekjoemhjaaaGreatDoorP7
import Derived.Test.YthkaekjoemhjaaaGreatDoorP8
import Derived.Test.YthkaekjoemhjaaaGreatDoorP6
import Derived.Test.YthkaekjoemhjaaaGreatDoorP5
import Derived.Test.YthkaekjoemhjaaaGreatDoorP2
import Derived.Test.YthkaekjoemhjaaaGreatDoorRows
import Derived.LaidSub
import Derived.MakeChecks
import Derived.Lib.LaidTab
import Derived.JoinedCond
import Derived.LaidLaws
import Derived.SizedLaws
set_option maxRecDepth 100000
set_option linter.unusedVariables false
set_option linter.unusedSimpArgs false
set_option linter.unusedSectionVars false
namespace Go.Proofs.YthkaekjoemhjaaaGreatDoor
open Go.SL
theorem Yy:∀{l:Bs} {n k:Int},(∀d∈l,Bv d=true)→0≤n→n≤9223372036854775807→Oi l n=some k→0≤k∧k≤9223372036854775807
 |[],n,k,_,h0,h1,h=>by simp only [Oi,Option.some.injEq] at h;subst h;exact ⟨h0,h1⟩
 |d::r,n,k,hd,h0,h1,h=>by
  have hdg:=hd d (List.mem_cons_self ..);simp only [Bv,Bool.and_eq_true,decide_eq_true_eq] at hdg;have g1:(48:Nat)≤d.toNat:=hdg.1;have g2:d.toNat≤57:=hdg.2;simp only [Oi] at h;split at h
  ·cases h
  ·exact Yy (fun e he=>hd e (List.mem_cons_of_mem _ he)) (by omega) (by omega) h
theorem AKZ {a:Nat}:∀{l:Bs} {t:Tok} {r:Bs},Ie a l= .tok t r→ZO t
 |[],t,r,h=>by simp [Ie] at h
 |c::l,t,r,h=>by
  simp only [Ie] at h;split at h
  ·unfold Ns at h;split at h
   ·cases h
   ·simp only [LexR.tok.injEq] at h;obtain ⟨rfl,_⟩:=h;refine ⟨?_,?_,?_,?_⟩
    ·simp only;split <;> decide
    ·simp only
     intro hk;split at hk
     ·rename_i hc;exact List.contains_iff_mem.1 hc
     ·exact absurd hk (by decide)
    ·simp only;intro hk;split at hk <;> exact absurd hk (by decide)
    ·simp only;intro hk;split at hk <;> exact absurd hk (by decide)
  split at h
  ·split at h
   ·cases h
   ·rename_i k hk
    split at h
    ·cases h
    ·simp only [LexR.tok.injEq] at h;obtain ⟨rfl,_⟩:=h;exact ⟨by simp,by simp,by simp,fun _=>Yy (fun d hd=>Dl hd) (by omega) (by omega) hk⟩
  split at h
  ·split at h
   ·cases h
   ·split at h
    ·split at h
     ·cases h
     ·simp only [LexR.tok.injEq] at h;obtain ⟨rfl,_⟩:=h;exact ⟨by simp,by simp,by simp,by simp⟩
    ·simp only [LexR.tok.injEq] at h;obtain ⟨rfl,_⟩:=h;exact ⟨by simp,by simp,by simp,by simp⟩
  split at h
  ·cases h
  ·rename_i x hx
   simp only [LexR.tok.injEq] at h;obtain ⟨rfl,_⟩:=h;refine ⟨by simp,by simp,fun _=>?_,by simp⟩;simp only
   split
   ·decide
   ·exact List.mem_of_find?_eq_some hx
theorem Oh {a:Nat}:∀{l:Bs} {e:Int},Ie a l= .bad e→e≠0
 |[],e,h=>by simp only [Ie,LexR.bad.injEq] at h;subst h;decide
 |c::l,e,h=>by
  simp only [Ie,Ns] at h;repeat' split at h
  all_goals first
   |(simp only [LexR.bad.injEq] at h;subst h;decide)
   |cases h
theorem Toks.snoc:∀{l:List Tok} {t:Tok},(∀x∈l,ZO x)→t.kind=6→Toks (l++[t])
 |[],t,_,h=>h
 |[x],t,hl,h=>⟨hl x (List.mem_cons_self ..),h⟩
 |x::y::l,t,hl,h=>⟨hl x (List.mem_cons_self ..),Toks.snoc (l:=y::l) (fun z hz=>hl z (List.mem_cons_of_mem _ hz)) h⟩
theorem QM (l:Bs):Cc false (Cc false l)=Cc false l:=by
 have go:∀(b:Bool) (l:Bs),Cc false (Cc b l)=Cc b l:=by
  intro b l;induction l generalizing b with
  |nil=>cases b <;> rfl
  |cons c r ih=>
   cases b with
   |true=>
    simp only [Cc];split
    ·exact ih false
    ·exact ih true
   |false=>
    simp only [Cc];split
    ·exact ih false
    ·rename_i h1
     split
     ·exact ih true
     ·rename_i h2
      simp only [Cc,h1,h2,Bool.false_eq_true,if_false]
 exact go false l
def ABc (n f:Nat)(acc:List Tok):Bs→LexA
 |[]=>.toks (acc++[⟨6,n,[],0⟩])
 |c::r=>match Ie (n - (r.length+1)) (c::r) with
   | .bad e=>.bad ⟨e,(n - (r.length+1):Nat)⟩
   | .tok t r'=>IQ n f (acc++[t]) r'
theorem Nz (n f:Nat)(acc:List Tok)(s:Bs):IQ n (f+1) acc s=ABc n f acc (Cc false s):=by
 rw [IQ];unfold ABc;cases Cc false s <;> rfl
def AIr (ω:Om)(G:Imm):Prop:=∀(K:Value→M) (I:Imm) (L:LH),Ext G I→(∀I' v,Ext I I'→StL I' v wordsL→K v I' L)→CT ω 182 #[] K I L
section
variable {ω:Om}
theorem AIn {I:Imm}{L:LH}{K:Value→M}(t:Tok)(hk:∀I' a,Ext I I'→TL I' (.slice a 1 1) [t]→Gh (K (.slice a 1 1)) I' L):
  AU 247 4 #[.int .i64 0,.int .i64 0,.string ⟨#[]⟩,.int .i64 0] 1 [(0,.agg #[.int .i64 t.kind,.int .i64 t.at',.string ⟨t.text.toArray⟩,.int .i64 t.num])] (gh K) I L:=
 Ea (R:=TokV) [t] [[.int .i64 t.kind,.int .i64 t.at',.string ⟨t.text.toArray⟩,.int .i64 t.num]] rfl rfl rfl (by simp) (by simp [TokV]) (fun hI h=>TokV.mono h) hk
theorem TU {G:Imm}(hW:AIr ω G):ED ω G:=by
 intro s K I L hG hs hok hbad;refine APU ?_;unfold AFI;refine AZ (fun b1=>?_);refine call (hW _ _ _ hG (fun I1 w hI1 hw=>?_));obtain ⟨aw,kw,rfl⟩:=RL.form hw;try simp only [SSd,Nat.reduceAdd]
 refine AZ (fun b=>?_);have e0:Obj.cells #[.string ⟨s.toArray⟩,.int .i64 0,.slice aw wordsL.length kw] 266 (0,0)=LBo s 0 (.slice aw wordsL.length kw):=rfl;rw [e0];refine call (QX (s:=s) (a:=0) (w:=.slice aw wordsL.length kw) (Nat.zero_le _) hs (fun a0 _ h0 hd0=>?_));refine loop (fun m st I2 Lx=>∃(a:Nat) (X:LH) (v:Value) (cells:List Value) (acc:List Tok) (f:Nat),a+m=s.length∧Ext I1 I2∧st=(.slice none 0 0,v,())∧Lx=X++((b,LBo s a (.slice aw wordsL.length kw))::(b1,.cells [.int .i64 0,.int .i64 0].toArray 157 (0,0))::L)∧SlO 247 4 X v cells acc.length∧Recs (TokV I2) 4 acc cells∧(∀t∈acc,ZO t)∧acc.length≤a∧s.length - a≤f∧Cc false (s.drop a)=s.drop a∧AHR s=ABc s.length f acc (s.drop a)) (s.length - a0)
  ⟨a0,[],_,[],[],s.length,by omega,Ext.refl _,rfl,rfl,SlO.none _ _,rfl,(fun t h=>by cases h),by simp,by omega,by rw [hd0,QM],by rw [hd0];exact Nz s.length s.length [] s⟩ ?_
 rintro m st I2 Lx ⟨a,X,v,cells,acc,f,hm,hI2,rfl,rfl,hX,hR,hTk,hal,hf,hsk,hlx⟩;obtain ⟨av,kv,rfl⟩:=hX.form;unfold YU;try simp only [SSd,Nat.reduceAdd]
 refine rdb ?_;try simp only [SSd,Nat.reduceAdd]
 refine AB (fun hb=>?_) (fun hb=>?_)
 ·have ha:a < s.length:=by
   have:=of_decide_eq_true hb;omega
  obtain ⟨c,hc,hd⟩:=PK ha;have hla:s.length - ((s.drop (a+1)).length+1)=a:=by rw [List.length_drop];omega
  have hlx:AHR s=match Ie a (s.drop a) with
    | .bad e=>.bad ⟨e,(a:Nat)⟩
    | .tok t r'=>IQ s.length f (acc++[t]) r':=by
   rw [hlx,hd];simp only [ABc,hla]
  refine call (AAb (s:=s) (a:=a) (w:=.slice aw wordsL.length kw) ha hs (StL.mono hw hI2) ⟨fun t r ht I3 a' hI3 h1 h2 hdr=>?_,fun e he=>⟨Oh he,fun I3 a' k x n hI3=>?_⟩⟩)
  ·rw [ht] at hlx;simp only at hlx
   repeat' (first|(with_reducible first|refine Aw ?_|refine Ag ?_|refine Ak ?_|refine keepA ?_|refine AZ (fun _=>?_)|refine rdb ?_)|((with_reducible first|refine st1 ?_ ?_|refine rdB ?_ ?_);rfl)|(with_reducible refine Ah ?_)|((with_reducible refine BB ?_ ?_);rfl)|((with_reducible refine stB ?_ ?_ ?_ ?_);rfl;rfl;exact AL rfl)|((with_reducible first|refine rdP _ rfl ?_ ?_|refine BC _ rfl ?_ ?_);rfl)|((with_reducible refine stP _ rfl ?_ ?_ ?_ ?_);rfl;rfl;rfl)|(with_reducible refine And.intro ?_ ?_)|(simp only [SSg,Int.reduceBEq,Int.reduceBNe,Int.reduceLT,Int.reduceLE,beq_self_eq_true,bne_self_eq_false])|(with_reducible first|refine AP (fun _=>?_) (fun _=>?_)|refine AB (fun _=>?_) (fun _=>?_))|(simp only [SSd,Nat.reduceAdd,KR]))
   refine AIn t (fun I4 a4 hI4 hw4=>Gh.done ?_);obtain ⟨c4,s4,r4⟩:=RL.toI (by decide) hw4;refine Bd (X:=X) rfl hX s4.news (r4.one_cells fun x c h=>by rw [show c=_ from h];exact AL rfl) (by simp only [List.length_cons,List.length_nil];omega) (by simp only [List.length_cons,List.length_nil];omega) (fun X5 w5 hX5=>?_);have e5:acc.length+[t].length=(acc++[t]).length:=by simp
   rw [e5] at hX5;have hR5:=Recs.append (Recs.imp (R':=TokV I4) (fun _ _ h=>h) hR) r4;refine call (QX (s:=s) (a:=a') (w:=.slice aw wordsL.length kw) h2 hs (fun a6 h6 h7 hd6=>?_));obtain ⟨f,rfl⟩:∃q,f=q+1:=⟨f - 1,by omega⟩;rw [←hdr,Nz,←hd6] at hlx;refine Gh.to (X5++((b,LBo s a6 (.slice aw wordsL.length kw))::(b1,.cells [.int .i64 0,.int .i64 0].toArray 157 (0,0))::L)) (Gh.done ⟨s.length - a6,by omega,a6,X5,w5,_,acc++[t],f,by omega,Ext.trans hI2 (Ext.trans hI3 hI4),rfl,rfl,hX5,hR5,?_,by simp;omega,by omega,by rw [hd6,QM],hlx⟩);intro x hx;rcases List.mem_append.1 hx with hx|hx
   ·exact hTk x hx
   ·rw [List.mem_singleton.1 hx];exact AKZ ht
  ·rw [he] at hlx;have hne:=Oh he;repeat' (first|(with_reducible first|refine Aw ?_|refine Ag ?_|refine Ak ?_|refine keepA ?_|refine AZ (fun _=>?_)|refine rdb ?_)|((with_reducible first|refine st1 ?_ ?_|refine rdB ?_ ?_);rfl)|(with_reducible refine Ah ?_)|((with_reducible refine BB ?_ ?_);rfl)|((with_reducible refine stB ?_ ?_ ?_ ?_);rfl;rfl;exact AL rfl)|((with_reducible first|refine rdP _ rfl ?_ ?_|refine BC _ rfl ?_ ?_);rfl)|((with_reducible refine stP _ rfl ?_ ?_ ?_ ?_);rfl;rfl;rfl)|(with_reducible refine And.intro ?_ ?_)|(simp only [SSg,Int.reduceBEq,Int.reduceBNe,Int.reduceLT,Int.reduceLE,beq_self_eq_true,bne_self_eq_false])|(with_reducible first|refine AP (fun _=>?_) (fun _=>?_)|refine AB (fun _=>?_) (fun _=>?_))|(simp only [SSd,Nat.reduceAdd,KR]))
   ·rename_i hz
    have hz:=hz;exact Gh.to L (Gh.done (hbad _ hlx hne I3 none 0 0 (Ext.trans hI1 (Ext.trans hI2 hI3))))
   ·rename_i hz
    exact absurd (by simpa using hz) hne
 ·have ha:¬a < s.length:=by
   have:=of_decide_eq_false hb;omega
  have hdn:s.drop a=[]:=List.drop_eq_nil_of_le (by omega);rw [hdn] at hlx;unfold YT;repeat' (first|(with_reducible first|refine Aw ?_|refine Ag ?_|refine Ak ?_|refine keepA ?_|refine AZ (fun _=>?_)|refine rdb ?_)|((with_reducible first|refine st1 ?_ ?_|refine rdB ?_ ?_);rfl)|(with_reducible refine Ah ?_)|((with_reducible refine BB ?_ ?_);rfl)|((with_reducible refine stB ?_ ?_ ?_ ?_);rfl;rfl;exact AL rfl)|((with_reducible first|refine rdP _ rfl ?_ ?_|refine BC _ rfl ?_ ?_);rfl)|((with_reducible refine stP _ rfl ?_ ?_ ?_ ?_);rfl;rfl;rfl)|(with_reducible refine And.intro ?_ ?_)|(simp only [SSg,Int.reduceBEq,Int.reduceBNe,Int.reduceLT,Int.reduceLE,beq_self_eq_true,bne_self_eq_false])|(with_reducible first|refine AP (fun _=>?_) (fun _=>?_)|refine AB (fun _=>?_) (fun _=>?_))|(simp only [SSd,Nat.reduceAdd]))
  refine AIn (⟨6,s.length,[],0⟩:Tok) (fun I4 a4 hI4 hw4=>Gh.done ?_);obtain ⟨c4,s4,r4⟩:=RL.toI (by decide) hw4;refine Bd (X:=X) rfl hX s4.news (r4.one_cells fun x c h=>by rw [show c=_ from h];exact AL rfl) (by simp only [List.length_cons,List.length_nil];omega) (by simp only [List.length_cons,List.length_nil];omega) (fun X5 w5 hX5=>?_);have e5:acc.length+[(⟨6,s.length,[],0⟩:Tok)].length=(acc++[(⟨6,s.length,[],0⟩:Tok)]).length:=by simp
  rw [e5] at hX5;have hR5:=Recs.append (Recs.imp (R':=TokV I4) (fun _ _ h=>h) hR) r4;obtain ⟨a5,k5,rfl⟩:=hX5.form;repeat' (first|(with_reducible first|refine Aw ?_|refine Ag ?_|refine Ak ?_|refine keepA ?_|refine AZ (fun _=>?_)|refine rdb ?_)|((with_reducible first|refine st1 ?_ ?_|refine rdB ?_ ?_);rfl)|(with_reducible refine Ah ?_)|((with_reducible refine BB ?_ ?_);rfl)|((with_reducible refine stB ?_ ?_ ?_ ?_);rfl;rfl;exact AL rfl)|((with_reducible first|refine rdP _ rfl ?_ ?_|refine BC _ rfl ?_ ?_);rfl)|((with_reducible refine stP _ rfl ?_ ?_ ?_ ?_);rfl;rfl;rfl)|(with_reducible refine And.intro ?_ ?_)|(simp only [SSg,Int.reduceBEq,Int.reduceBNe,Int.reduceLT,Int.reduceLE,beq_self_eq_true,bne_self_eq_false])|(with_reducible first|refine AP (fun _=>?_) (fun _=>?_)|refine AB (fun _=>?_) (fun _=>?_))|(simp only [SSd,Nat.reduceAdd]))
  refine Gh.to (X5++L) ?_;refine RL.ofO (R:=TokV) (fun {I I' x c} h hI=>h) hX5 hR5 (fun I6 hI6 hw6=>Gh.done ?_);exact hok _ hlx (Toks.snoc hTk rfl) (by simp;omega) I6 _ (Ext.trans hI1 (Ext.trans hI2 (Ext.trans hI4 hI6))) hw6
end
def QB (ω:Om):Prop:=∀(v:Value) (l:List TStmt) (K:Value→M) (I:Imm) (L:LH),RL TStmtV 51 I [] v l→BJ l≤1000000000→(∀s∈l,cS s≤1000000000)→(∀I',Ext I I'→K (.int .i64 (Sl (BJ l) (Di l))) I' L)→CT ω 125 #[v] K I L
theorem QG {n:Nat}:∀{f:Nat} {acc:List Tok} {s:Bs} {e:Flt},IQ n f acc s= .bad e→e.code≠0
 |0,acc,s,e,h=>by simp [IQ] at h
 |f+1,acc,s,e,h=>by
  rw [Nz] at h;unfold ABc at h;split at h
  ·cases h
  ·split at h
   ·rename_i x hx
    simp only [LexA.bad.injEq] at h;subst h;exact Oh hx
   ·exact QG h
theorem WG (s:Bs):(readA s).2=ok0∨((readA s).2.code≠0∧(readA s).1=[]):=by
 unfold readA;split
 ·rename_i f hf
  exact .inr ⟨QG hf,rfl⟩
 ·split
  ·exact .inl rfl
  ·exact .inr ⟨by simp,rfl⟩
section
variable {ω:Om}
theorem ANq {I:Imm}{L:LH}{K:Value→M}{w:Value}{xs:List TStmt}(hw:RL TStmtV 51 I [] w xs)(hk:∀a k,RL TStmtV 51 I [] (.slice a xs.length k) xs→K (.slice a xs.length k) I L):CT ω 126 #[w] K I L:=by
 refine APb ?_;unfold AFX;obtain ⟨w',h1,h2⟩:=Ew hw;simp only [RL.len hw,h1,SSd,Nat.reduceAdd];obtain ⟨a,k,rfl⟩:=RL.form h2;exact Gh.done (hk a k h2)
theorem WL {G:Imm}(hTok:ED ω G)(hLim:QB ω)(s:Bs){I:Imm}{L:LH}{K:Value→M}(hG:Ext G I)
  (hok:∀I' a k,Ext I I'→RL TStmtV 51 I' [] (.slice a (DY s).1.length k) (DY s).1→K (.tuple #[.slice a (DY s).1.length k,.agg #[.int .i64 (DY s).2.code,.int .i64 (DY s).2.at']]) I' L):
  CT ω 107 #[.string ⟨s.toArray⟩] K I L:=by
 have hparts:s.length≤65536→BJ (readA s).1≤1000000000∧∀x∈(readA s).1,cS x≤1000000000:=fun h=>⟨by have:=WI s;omega,fun x hx=>by have:=AHl s x hx;omega⟩;refine APn ?_;unfold AFv;refine AZ (fun b1=>?_);try simp only [SSd,Nat.reduceAdd]
 refine AB (fun hb=>?_) (fun hb=>?_)
 ·have hb:65536 < s.length:=by
   have:=of_decide_eq_true hb;omega
  have hp:DY s=([],⟨170,65536⟩):=by unfold DY;rw [if_pos hb]
  rw [hp] at hok;repeat' (first|(with_reducible first|refine Aw ?_|refine Ag ?_|refine Ak ?_|refine keepA ?_|refine AZ (fun _=>?_)|refine rdb ?_)|((with_reducible first|refine st1 ?_ ?_|refine rdB ?_ ?_);rfl)|(with_reducible refine Ah ?_)|((with_reducible refine BB ?_ ?_);rfl)|((with_reducible refine stB ?_ ?_ ?_ ?_);rfl;rfl;exact AL rfl)|((with_reducible first|refine rdP _ rfl ?_ ?_|refine BC _ rfl ?_ ?_);rfl)|((with_reducible refine stP _ rfl ?_ ?_ ?_ ?_);rfl;rfl;rfl)|(with_reducible refine And.intro ?_ ?_)|(simp only [SSg,Int.reduceBEq,Int.reduceBNe,Int.reduceLT,Int.reduceLE,beq_self_eq_true,bne_self_eq_false])|(with_reducible first|refine AP (fun _=>?_) (fun _=>?_)|refine AB (fun _=>?_) (fun _=>?_))|(simp only [SSd,Nat.reduceAdd]))
  exact Gh.to L (Gh.done (hok I none 0 (Ext.refl _) (RL.nil none 0)))
 have hb:s.length≤65536:=by
  have:=of_decide_eq_false hb;omega
 refine call (AAV hTok s (by omega) hG (fun I1 a k hI1 hw=>?_));have hcode:=WG s;generalize hr:readA s=q at hw hok hparts hcode ⊢;obtain ⟨l,f⟩:=q;have hp:DY s=if f≠ok0 then ([],f) else if Sl (BJ l) (Di l)≠0 then ([],⟨Sl (BJ l) (Di l),0⟩) else (l,ok0):=by
  unfold DY;rw [if_neg (by omega),hr]
 simp only at hw hparts hcode ⊢
 rcases hcode with rfl|⟨hc,rfl⟩
 ·rw [if_neg (by simp)] at hp;repeat' (first|(with_reducible first|refine Aw ?_|refine Ag ?_|refine Ak ?_|refine keepA ?_|refine AZ (fun _=>?_)|refine rdb ?_)|((with_reducible first|refine st1 ?_ ?_|refine rdB ?_ ?_);rfl)|(with_reducible refine Ah ?_)|((with_reducible refine BB ?_ ?_);rfl)|((with_reducible refine stB ?_ ?_ ?_ ?_);rfl;rfl;exact AL rfl)|((with_reducible first|refine rdP _ rfl ?_ ?_|refine BC _ rfl ?_ ?_);rfl)|((with_reducible refine stP _ rfl ?_ ?_ ?_ ?_);rfl;rfl;rfl)|(with_reducible refine And.intro ?_ ?_)|(simp only [SSg,Int.reduceBEq,Int.reduceBNe,Int.reduceLT,Int.reduceLE,beq_self_eq_true,bne_self_eq_false])|(with_reducible first|refine AP (fun _=>?_) (fun _=>?_)|refine AB (fun _=>?_) (fun _=>?_))|(simp only [SSd,Nat.reduceAdd,ok0]))
  rename_i bt
  refine call (hLim _ l _ _ _ hw (hparts hb).1 (hparts hb).2 (fun I2 hI2=>?_));by_cases h0:Sl (BJ l) (Di l)=0
  ·rw [h0];rw [if_neg (by simpa using h0)] at hp;rw [hp] at hok;repeat' (first|(with_reducible first|refine Aw ?_|refine Ag ?_|refine Ak ?_|refine keepA ?_|refine AZ (fun _=>?_)|refine rdb ?_)|((with_reducible first|refine st1 ?_ ?_|refine rdB ?_ ?_);rfl)|(with_reducible refine Ah ?_)|((with_reducible refine BB ?_ ?_);rfl)|((with_reducible refine stB ?_ ?_ ?_ ?_);rfl;rfl;exact AL rfl)|((with_reducible first|refine rdP _ rfl ?_ ?_|refine BC _ rfl ?_ ?_);rfl)|((with_reducible refine stP _ rfl ?_ ?_ ?_ ?_);rfl;rfl;rfl)|(with_reducible first|refine BL (sh107_1.eq_1 ..) ?_|refine And.intro ?_ ?_)|(simp only [SSg,Int.reduceBEq,Int.reduceBNe,Int.reduceLT,Int.reduceLE,beq_self_eq_true,bne_self_eq_false])|(with_reducible first|refine AP (fun _=>?_) (fun _=>?_)|refine AB (fun _=>?_) (fun _=>?_))|(simp only [SSd,Nat.reduceAdd]))
   refine call (ANq (RL.mono (fun _ _ h=>TStmtV.mono h hI2) hw hI2 (fun _ h=>h)) (fun a' k' hw'=>?_));repeat' (first|(with_reducible first|refine Aw ?_|refine Ag ?_|refine Ak ?_|refine keepA ?_|refine AZ (fun _=>?_)|refine rdb ?_)|((with_reducible first|refine st1 ?_ ?_|refine rdB ?_ ?_);rfl)|(with_reducible refine Ah ?_)|((with_reducible refine BB ?_ ?_);rfl)|((with_reducible refine stB ?_ ?_ ?_ ?_);rfl;rfl;exact AL rfl)|((with_reducible first|refine rdP _ rfl ?_ ?_|refine BC _ rfl ?_ ?_);rfl)|((with_reducible refine stP _ rfl ?_ ?_ ?_ ?_);rfl;rfl;rfl)|(with_reducible refine And.intro ?_ ?_)|(simp only [SSg,Int.reduceBEq,Int.reduceBNe,Int.reduceLT,Int.reduceLE,beq_self_eq_true,bne_self_eq_false])|(with_reducible first|refine AP (fun _=>?_) (fun _=>?_)|refine AB (fun _=>?_) (fun _=>?_))|(simp only [SSd,Nat.reduceAdd]))
   exact Gh.to L (Gh.done (hok I2 a' k' (Ext.trans hI1 hI2) hw'))
  ·rw [if_pos h0] at hp;rw [hp] at hok;have e2:(Sl (BJ l) (Di l) != 0)=true:=by simpa using h0
   repeat' (first|(with_reducible first|refine Aw ?_|refine Ag ?_|refine Ak ?_|refine keepA ?_|refine AZ (fun _=>?_)|refine rdb ?_)|((with_reducible first|refine st1 ?_ ?_|refine rdB ?_ ?_);rfl)|(with_reducible refine Ah ?_)|((with_reducible refine BB ?_ ?_);rfl)|((with_reducible refine stB ?_ ?_ ?_ ?_);rfl;rfl;exact AL rfl)|((with_reducible first|refine rdP _ rfl ?_ ?_|refine BC _ rfl ?_ ?_);rfl)|((with_reducible refine stP _ rfl ?_ ?_ ?_ ?_);rfl;rfl;rfl)|(with_reducible first|refine BL (sh107_1.eq_1 ..) ?_|refine And.intro ?_ ?_)|(simp only [SSg,Int.reduceBEq,Int.reduceBNe,Int.reduceLT,Int.reduceLE,beq_self_eq_true,bne_self_eq_false])|(with_reducible first|refine AP (fun _=>?_) (fun _=>?_)|refine AB (fun _=>?_) (fun _=>?_))|(simp only [SSd,Nat.reduceAdd,e2]))
   exact Gh.to L (Gh.done (hok I2 none 0 (Ext.trans hI1 hI2) (RL.nil none 0)))
 ·rw [if_pos (by rintro rfl;exact hc rfl)] at hp;rw [hp] at hok;have e1:(f.code==0)=false:=by simpa using hc
  have e2:(f.code != 0)=true:=by simpa using hc
  repeat' (first|(with_reducible first|refine Aw ?_|refine Ag ?_|refine Ak ?_|refine keepA ?_|refine AZ (fun _=>?_)|refine rdb ?_)|((with_reducible first|refine st1 ?_ ?_|refine rdB ?_ ?_);rfl)|(with_reducible refine Ah ?_)|((with_reducible refine BB ?_ ?_);rfl)|((with_reducible refine stB ?_ ?_ ?_ ?_);rfl;rfl;exact AL rfl)|((with_reducible first|refine rdP _ rfl ?_ ?_|refine BC _ rfl ?_ ?_);rfl)|((with_reducible refine stP _ rfl ?_ ?_ ?_ ?_);rfl;rfl;rfl)|(with_reducible first|refine BL (sh107_1.eq_1 ..) ?_|refine And.intro ?_ ?_)|(simp only [SSg,Int.reduceBEq,Int.reduceBNe,Int.reduceLT,Int.reduceLE,beq_self_eq_true,bne_self_eq_false])|(with_reducible first|refine AP (fun _=>?_) (fun _=>?_)|refine AB (fun _=>?_) (fun _=>?_))|(simp only [SSd,Nat.reduceAdd,e1,e2]))
  exact Gh.to L (Gh.done (hok I1 none 0 hI1 (RL.nil none 0)))
end
def A51:Type:={l:List Value // l.length=51∧l.all (·.oneCell')=true}
def DX (pid sec st:Int)(vl:Value)(q:Bool)(vs:Value)(kind:Int)(sc:A51)(own en:Bool)(vo:Value):List Value:=
 [.int .i64 pid,.int .i64 sec,.int .u8 st,vl,.bool q,vs,.int .i64 kind]++(sc.1++[.bool own,.bool en,vo])
section
variable {pid sec st:Int}{vl:Value}{q:Bool}{vs:Value}{kind:Int}{sc:A51}{own en:Bool}{vo:Value}
theorem UA (k:Nat)(hk:k < 3):(DX pid sec st vl q vs kind sc own en vo)[58+k]? =[Value.bool own,Value.bool en,vo][k]? :=by
 have h:=sc.2.1;unfold DX;rw [List.getElem?_append_right (by simp;omega),List.getElem?_append_right (by simp only [List.length_cons,List.length_nil,h];omega)];simp only [List.length_cons,List.length_nil,h];congr 1;omega
theorem Tz (k:Nat)(v:Value)(hk:k < 3):(DX pid sec st vl q vs kind sc own en vo).set (58+k) v=[.int .i64 pid,.int .i64 sec,.int .u8 st,vl,.bool q,vs,.int .i64 kind]++(sc.1++[Value.bool own,Value.bool en,vo].set k v):=by
 have h:=sc.2.1;unfold DX;rw [List.set_append_right _ _ (by simp;omega),List.set_append_right _ _ (by simp only [List.length_cons,List.length_nil,h];omega)];simp only [List.length_cons,List.length_nil,h];congr 3;omega
theorem EQ:(DX pid sec st vl q vs kind sc own en vo).length=61:=by
 have h:=sc.2.1;simp [DX,h]
instance sg0:GetL (DX pid sec st vl q vs kind sc own en vo) 0 (.int .i64 pid):=⟨rfl⟩
instance sg1:GetL (DX pid sec st vl q vs kind sc own en vo) 1 (.int .i64 sec):=⟨rfl⟩
instance sg2:GetL (DX pid sec st vl q vs kind sc own en vo) 2 (.int .u8 st):=⟨rfl⟩
instance sg3:GetL (DX pid sec st vl q vs kind sc own en vo) 3 vl:=⟨rfl⟩
instance sg4:GetL (DX pid sec st vl q vs kind sc own en vo) 4 (.bool q):=⟨rfl⟩
instance sg5:GetL (DX pid sec st vl q vs kind sc own en vo) 5 vs:=⟨rfl⟩
instance sg6:GetL (DX pid sec st vl q vs kind sc own en vo) 6 (.int .i64 kind):=⟨rfl⟩
instance sg59:GetL (DX pid sec st vl q vs kind sc own en vo) 59 (.bool en):=⟨UA 1 (by omega)⟩
instance sg60:GetL (DX pid sec st vl q vs kind sc own en vo) 60 vo:=⟨UA 2 (by omega)⟩
instance ss2 (x:Int):SetL (DX pid sec st vl q vs kind sc own en vo) 2 (.int .u8 x) (DX pid sec x vl q vs kind sc own en vo):=⟨rfl,by rw [EQ];omega⟩
instance ss3 (x:Value):SetL (DX pid sec st vl q vs kind sc own en vo) 3 x (DX pid sec st x q vs kind sc own en vo):=⟨rfl,by rw [EQ];omega⟩
instance ss4 (x:Bool):SetL (DX pid sec st vl q vs kind sc own en vo) 4 (.bool x) (DX pid sec st vl x vs kind sc own en vo):=⟨rfl,by rw [EQ];omega⟩
instance ss5 (x:Value):SetL (DX pid sec st vl q vs kind sc own en vo) 5 x (DX pid sec st vl q x kind sc own en vo):=⟨rfl,by rw [EQ];omega⟩
instance ss6 (x:Int):SetL (DX pid sec st vl q vs kind sc own en vo) 6 (.int .i64 x) (DX pid sec st vl q vs x sc own en vo):=⟨rfl,by rw [EQ];omega⟩
instance ss59 (x:Bool):SetL (DX pid sec st vl q vs kind sc own en vo) 59 (.bool x) (DX pid sec st vl q vs kind sc own x vo):=⟨Tz 1 _ (by omega),by rw [EQ];omega⟩
instance ss60 (x:Value):SetL (DX pid sec st vl q vs kind sc own en vo) 60 x (DX pid sec st vl q vs kind sc own en x):=⟨Tz 2 _ (by omega),by rw [EQ];omega⟩
end
abbrev CO (pid sec st:Int)(vl:Value)(q:Bool)(vs:Value)(kind:Int)(sc:A51)(own en:Bool)(vo:Value):Obj:=.cells (DX pid sec st vl q vs kind sc own en vo).toArray 86 (0,0)
def Pm (k:Int)(sc:A51)(own:Bool):Value:=.agg (.int .i64 k::(sc.1++[.bool own])).toArray
theorem LK {pid sec st:Int}{vl:Value}{q:Bool}{vs:Value}{kind k':Int}{sc sc':A51}{own own' en:Bool}{vo:Value}{I:Imm}{L L':LH}{K:Value→M}{b:Nat}
  [i:InL b L (CO pid sec st vl q vs kind sc own en vo)] [u:UpL b L (CO pid sec st vl q vs kind sc own en vo) (CO pid sec st vl q vs k' sc' own' en vo) L'] {v:Value} (hv:v=Pm k' sc' own') (hk:K undef I L'):Sto 53 (.pointer (some ⟨b,6,none⟩)) v (gh K) I L:=by
 subst hv;obtain ⟨L1,L2,rfl,rfl⟩:=u.up;have h:=sc.2.1;have h':=sc'.2.1;refine ⟨b,6,_,_,(0,0),L1,L2,rfl,by simp [Pm,Value.cells,h'],?_,by simp only [List.size_toArray,EQ];omega,.inl rfl,rfl,?_⟩
 ·intro u hu;simp only [Pm,Value.cells,List.mem_cons,List.mem_append] at hu;rcases hu with rfl|hu|hu|hu
  ·rfl
  ·exact List.all_eq_true.1 sc'.2.2 u hu
  ·subst hu;rfl
  ·cases hu
 ·have e:wr (DX pid sec st vl q vs kind sc own en vo).toArray 6 (Pm k' sc' own').cells.toList=(DX pid sec st vl q vs k' sc' own' en vo).toArray:=by
   simp only [Pm,Value.cells];rw [Np _ _ _ (by simp [EQ,h'])];unfold DX;simp [h,h',List.drop_append]
  rw [e];exact Gh.done hk
def z51:A51:=⟨[.int .i64 0,.bool false,.slice none 0 0,.slice none 0 0,.int .i64 0,.int .i64 0,.bool false,.int .i64 0,.string ⟨#[]⟩,.string ⟨#[]⟩,.string ⟨#[]⟩,.int .i64 0,.int .i64 0,.bool false,.slice none 0 0,.slice none 0 0,.int .i64 0,.int .i64 0,.bool false,.int .i64 0,.string ⟨#[]⟩,.string ⟨#[]⟩,.string ⟨#[]⟩,.int .i64 0,.int .i64 0,.bool false,.slice none 0 0,.slice none 0 0,.int .i64 0,.int .i64 0,.string ⟨#[]⟩,.slice none 0 0,.slice none 0 0,.slice none 0 0,.int .i64 0,.int .i64 0,.bool false,.int .i64 0,.string ⟨#[]⟩,.string ⟨#[]⟩,.string ⟨#[]⟩,.int .i64 0,.int .i64 0,.bool false,.slice none 0 0,.slice none 0 0,.slice none 0 0,.string ⟨#[]⟩,.string ⟨#[]⟩,.slice none 0 0,.bool false],rfl,rfl⟩
theorem asc {A:M}{I:Imm}{x:Nat×Obj}{XL XO F:LH}(h:A I ((x::(XL++XO))++F)):A I (x::(XL++(XO++F))):=by
 rw [List.cons_append,List.append_assoc] at h;exact h
instance splitSes (x:Nat×Obj)(XL XO F:LH):SplitL (x::(XL++XO)) (x::(XL++(XO++F))) F:=⟨by rw [List.cons_append,List.append_assoc]⟩
def SeM (I:Imm)(s:Ses)(b:Nat)(X:LH):Prop:=∃vl vs vo sc XL XO,X=(b,CO s.pid s.secret s.status vl s.query vs s.kind sc s.own s.ended vo)::(XL++XO)∧OwB XL vl s.left∧RL TStmtV 51 I [] vs s.stmts∧OwB XO vo s.out∧0≤s.status∧s.status≤255
theorem SeM.mono {I I':Imm}{s:Ses}{b:Nat}{X:LH}(h:SeM I s b X)(hI:Ext I I'):SeM I' s b X:=by
 obtain ⟨vl,vs,vo,sc,XL,XO,h1,h2,h3,h4,h5⟩:=h;exact ⟨vl,vs,vo,sc,XL,XO,h1,h2,RL.mono (fun _ _ h=>TStmtV.mono h hI) h3 hI (fun _ h=>h),h4,h5⟩
section
variable {ω:Om}{I:Imm}{L F:LH}{K:Value→M}{s:Ses}{b:Nat}{X:LH}
def Dc (l:List TBack):Nat:=(l.map fun m=>(FW m).1.length).sum
theorem LX (m:TBack)(r:List TBack):Dc (m::r)=(FW m).1.length+Dc r:=by simp [Dc]
def VX (m:TBack):Prop:=Dq m≤10000000000∧0≤m.fStatus∧m.fStatus≤255∧0≤m.fKind
theorem LP {w:Value}{l:List TBack}[hsp:SplitL X L F](hS:SeM I s b X)(hw:RL TBackV 10 I [] w l)(hl:l.length≤1000000000)(hok:∀m∈l,VX m)(hn:s.out.length+Dc l≤100000000000000)
  (hk:∀I' X',Ext I I'→SeM I' (BV s l) b X'→K (.int .i64 (ER l []).2) I' (X'++F)):CT ω 45 #[Ai b,w] K I L:=by
 refine Cal.split X ?_;refine AQr ?_;unfold AMk;simp only [RL.len hw,SSd,Nat.reduceAdd];refine loop (fun q st I' L'=>∃(k:Nat) (Y:LH) (v':Value) (acc:Bs),k+q=l.length∧st=(Value.int .i64 0,v',Value.int .i64 (k:Nat),())∧Ext I I'∧L'=Y++(X++F)∧OwB Y v' acc∧ER (l.drop k) acc=ER l []∧acc.length+Dc (l.drop k)≤Dc l) l.length
  ⟨0,[],.slice none 0 0,[],by omega,rfl,Ext.refl _,rfl,SlO.none _ _,rfl,by simp⟩ ?_
 rintro q st I' L' ⟨k,Y,v',acc,hkq,rfl,hI,rfl,hY,hp,hacc⟩;unfold ACG;try simp only [SSd,Nat.reduceAdd]
 refine AB (fun hb=>?_) (fun hb=>?_)
 ·have hb:k < l.length:=by
   have:=of_decide_eq_true hb;omega
  have hdk:l.drop k=l[k]::l.drop (k+1):=List.drop_eq_getElem_cons hb;obtain ⟨bt,off,c1,g1,gl,g2,g3⟩:=RL.ix hw (i:=k) (by omega) (by omega);rw [BM hb] at g2;obtain ⟨k1,k2,k3,k4⟩:=hok l[k] (List.getElem_mem hb);have hone:=TBackV.one g2;rw [hdk] at hp hacc;simp only [ER] at hp;rw [LX] at hacc;generalize l[k]=m at *;simp only [g1,SSd,Nat.reduceAdd];refine rdN gl (g3 _ _ hI (fun _ h=>by cases h)) ?_;refine AZ (fun bm=>?_);refine stB gl rfl hone ?_;refine Ed gl ?_;refine MW (AGr (g2.mono hI) k1 ⟨k2,k3⟩ k4 (fun I2 Z u hI2 hZ=>?_));obtain ⟨a,kk,rfl⟩:=hZ.form;try simp only [SSd,Nat.reduceAdd]
  cases he:((FW m).2 != 0) with
  |true=>
   rw [he] at hp;simp only [if_true] at hp;try simp only [SSd,Nat.reduceAdd]
   have hne:(ER l []).2=(FW m).2:=by rw [←hp]
   have hsF:BV s l=s:=by
    unfold BV;rw [if_pos (by rw [hne];exact he)]
   have:=hk I2 X (Ext.trans hI hI2) (by rw [hsF];exact hS.mono (Ext.trans hI hI2));rw [hne] at this;exact Gh.done (Gh.to (X++F) (Gh.done this))
  |false=>
   rw [he] at hp;simp only [Bool.false_eq_true,if_false] at hp;try simp only [SSd,Nat.reduceAdd]
   refine Gh.done ?_;refine Bd (X:=Y) (n:=1) (m:=(FW m).1.length) rfl hY (news:=Lib.byteCells (FW m).1) (SlO.news hZ (fun x hx=>List.mem_append_left _ hx)) (fun u hu=>?_) (by omega) (by omega) (fun Y2 u2 hY2=>?_)
   ·obtain ⟨d,_,rfl⟩:=List.mem_map.1 hu;rfl
   simp only [wrap_i64 ((k:Int)+1) (by omega),SSd,Nat.reduceAdd];exact Gh.to (Y2++(X++F)) (Gh.done ⟨q - 1,by omega,k+1,Y2,u2,_,by omega,rfl,Ext.trans hI hI2,rfl,OwB.mk hY2,hp,by rw [List.length_append];omega⟩)
 ·have hb:¬k < l.length:=by
   have:=of_decide_eq_false hb;omega
  have hd:l.drop k=[]:=List.drop_eq_nil_of_le (by omega);rw [hd] at hp hacc;simp only [ER] at hp;have hacc:acc.length≤Dc l:=by simpa [Dc] using hacc
  obtain ⟨vl,vs,vo,sc,XL,XO,rfl,h2,h3,h4,h5,h6⟩:=hS.mono hI;have hsF:BV s l={s with out:=s.out++acc}:=by
   unfold BV;rw [←hp];rfl
  rw [←hp,hsF] at hk;unfold ACF;simp only [List.append_assoc,SSd,Nat.reduceAdd];refine rdb ?_;refine Bd (X:=XO) (n:=1) (m:=acc.length) rfl h4 (news:=Lib.byteCells acc) (SlO.news hY (fun x hx=>List.mem_append_left _ hx)) (fun u hu=>?_) (by omega) (by omega) (fun Y2 u2 hY2=>?_)
  ·obtain ⟨d,_,rfl⟩:=List.mem_map.1 hu;rfl
  have hY2:OwB Y2 u2 (s.out++acc):=OwB.mk hY2;obtain ⟨a,kk,rfl⟩:=hY2.form;try simp only [SSd,Nat.reduceAdd]
  refine st1 rfl ?_;refine Gh.to ((b,CO s.pid s.secret s.status vl s.query vs s.kind sc s.own s.ended (.slice a (s.out++acc).length kk))::(XL++(Y2++F))) (asc (A:=Gh (K (.int .i64 0))) (Gh.done (hk I' _ hI ⟨vl,vs,_,sc,XL,Y2,rfl,h2,h3,hY2,h5,h6⟩)))
end
theorem Ob (m:TBack):(FW m).1.length≤Dq m+100:=by
 have hb:(Cj m).2.1.length≤Dq m+60:=by
  have hf:=PG m.fFields;have hc:=Pe m.fCells;unfold Dq Cj;repeat' split
  all_goals simp only [List.length_append,Bj,txB,List.flatMap_cons,List.flatMap_nil,List.length_cons,List.length_nil]
  all_goals (try (repeat' split))
  all_goals (try simp only [List.length_cons,List.length_nil])
  all_goals omega
 unfold FW;simp only
 repeat' split
 ·simp
 ·simp
 ·simp
 ·simp only [List.length_cons,List.length_append,Bj];omega
def LeP (x:Bs×Bs):Prop:=x.1.length+x.2.length≤60
theorem AKh {c:Prop}[Decidable c]{x y:Bs×Bs}(hx:LeP x)(hy:LeP y):LeP (if c then x else y):=by split <;> assumption
theorem AGO (e:Int):(Fv e).1.length+(Fv e).2.length≤60:=by
 show LeP (Fv e);unfold Fv;repeat' refine AKh ?_ ?_
 all_goals (unfold LeP;decide)
theorem KE (s:Ses)(l:List TBack):(BV s l).out.length≤s.out.length+Dc l:=by
 have h:∀(l:List TBack) (acc:Bs),(ER l acc).1.length≤acc.length+Dc l:=by
  intro l;induction l with
  |nil=>intro acc;simp [ER,Dc]
  |cons m r ih=>
   intro acc;rw [LX];simp only [ER];split
   ·simp
   ·have:=ih (acc++(FW m).1);rw [List.length_append] at this;omega
 unfold BV;split
 ·omega
 ·have:=h l [];simp only [List.length_append,List.length_nil] at *; omega
theorem Yw {l:List TBack}{n:Nat}(h:∀m∈l,Dq m≤n):Dc l≤l.length * (n+100):=by
 induction l with
 |nil=>simp [Dc]
 |cons m r ih=>
  have h1:=Ob m;have h2:=h m (List.mem_cons_self ..);have h3:=ih fun x hx=>h x (List.mem_cons_of_mem _ hx);rw [LX,List.length_cons,Nat.add_mul];omega
def AKq (e:Int)(fatal:Bool):TBack:={fKind:=9,fState:=(Fv e).1,fText:=(Fv e).2,fFatal:=fatal}
theorem ZI (e:Int)(f:Bool):Dq (AKq e f)≤62:=by
 have:=AGO e;simp only [Dq,AKq,BZ,List.map_nil,List.sum_nil,List.length_nil];omega
theorem KH (m:TBack):Dc [m]≤Dq m+100:=by
 have:=Ob m;simpa [Dc] using this
section
variable {ω:Om}{I:Imm}{L F:LH}{K:Value→M}{s:Ses}{b:Nat}{X:LH}
theorem QQ {m:TBack}{c:List Value}{z:Array Value}{K':Value→M}[hsp:SplitL X L F](hz:z.size=10)(hS:SeM I s b X)(hm:∀I',Ext I I'→TBackV I' m c)(hok:VX m)(hsz:Dq m≤1000000)(hn:s.out.length≤99999990000000)
  (hk:∀I' X' e,Ext I I'→SeM I' (BV s [m]) b X'→K' (.int .i64 e) I' (X'++F)):AU 49 10 z 1 [(0,.agg c.toArray)] (gh fun v=>CT ω 45 #[Ai b,v] (gh K')) I L:=by
 refine AKT (R:=TBackV) hz (by decide) (hm I (Ext.refl _)) (fun h hI=>TBackV.mono h hI) (TBackV.len (hm I (Ext.refl _))) (fun u I1 hI1 hw=>?_);have ho:=KH m;refine call (LP (X:=X) (l:=[m]) (hS.mono hI1) hw (by simp) (by simpa using hok) (by omega) (fun I2 X2 hI2 hS2=>?_));exact hk I2 X2 _ (Ext.trans hI1 hI2) hS2
theorem FK (e:Int)(fatal:Bool)[hsp:SplitL X L F](hS:SeM I s b X)(hn:s.out.length≤99999990000000)(hk:∀I' X',Ext I I'→SeM I' (Dt s e fatal) b X'→K (.tuple #[]) I' (X'++F)):CT ω 25 #[Ai b,.int .i64 e,.bool fatal] K I L:=by
 refine AQz ?_;unfold AMs;refine call (Vq e ?_);refine call (NE e ?_);try simp only [SSd,Nat.reduceAdd]
 have hsz:=ZI e fatal;refine QQ (X:=X) (m:=AKq e fatal) rfl hS (fun I' _=>⟨_,_,rfl,RL.nil none 0,RL.nil none 0⟩) ⟨by omega,by show (0:Int)≤0;decide,by show (0:Int)≤255;decide,by show (0:Int)≤9;decide⟩ (by omega) hn (fun I' X' e' hI' hS'=>?_);exact Gh.done (hk I' X' hI' hS')
theorem Dv (t:Bs)[hsp:SplitL X L F](hS:SeM I s b X)(ht:t.length≤100000)(hn:s.out.length≤99999990000000)(hk:∀I' X',Ext I I'→SeM I' (Eu s t) b X'→K (.tuple #[]) I' (X'++F)):CT ω 31 #[Ai b,.string ⟨t.toArray⟩] K I L:=by
 refine AQt ?_;unfold AMm;try simp only [SSd,Nat.reduceAdd]
 have hsz:Dq {fKind:=7,fText:=t}≤100002:=by simp only [Dq,BZ,List.map_nil,List.sum_nil,List.length_nil];omega
 refine QQ (X:=X) (m:={fKind:=7,fText:=t}) rfl hS (fun I' _=>⟨_,_,rfl,RL.nil none 0,RL.nil none 0⟩) ⟨by omega,by show (0:Int)≤0;decide,by show (0:Int)≤255;decide,by show (0:Int)≤7;decide⟩ (by omega) hn (fun I' X' e' hI' hS'=>?_);exact Gh.done (hk I' X' hI' hS')
theorem Iu [hsp:SplitL X L F](hS:SeM I s b X)(hk:∀X',SeM I (Jg s) b X'→K (.tuple #[]) I (X'++F)):CT ω 26 #[Ai b] K I L:=by
 refine Cal.split X ?_;obtain ⟨vl,vs,vo,sc,XL,XO,rfl,h2,h3,h4,h5,h6⟩:=hS;refine AQy ?_;unfold AMr;have fin:∀(k:Int),(Jg s).kind=k→Gh (K (.tuple #[])) I ((b,CO s.pid s.secret s.status (.slice none 0 0) false (.slice none 0 0) k z51 false true vo)::(XL++(XO++F))):=by
  intro k hk';have:=hk ((b,CO s.pid s.secret s.status (.slice none 0 0) false (.slice none 0 0) k z51 false true vo)::XO) ⟨_,_,vo,z51,[],XO,by rw [←hk'];rfl,SlO.none _ _,RL.nil none 0,h4,h5,h6⟩;exact Gh.to ((b,CO s.pid s.secret s.status (.slice none 0 0) false (.slice none 0 0) k z51 false true vo)::(XO++F)) (Gh.done this)
 have fin1:∀(k:Int),(Jg s).kind=4→Rh ω (Ai b) (fun v=>Gh (K v)) I ((b,CO s.pid s.secret s.status (.slice none 0 0) false (.slice none 0 0) k z51 false true vo)::(XL++(XO++F))):=by
  intro k hk';unfold Rh;try simp only [SSd,Nat.reduceAdd]
  refine st1 rfl ?_;exact fin 4 hk'
 simp only [List.append_assoc,SSd,Nat.reduceAdd];refine rdb ?_;try simp only [SSd,Nat.reduceAdd]
 have hkd:(Jg s).kind=if s.status==84||s.kind==4 then 4 else 0:=rfl
 cases h1:(s.status==84) with
 |true=>
  rw [h1,Bool.true_or,if_pos rfl] at hkd;refine AP (fun hb=>by cases hb) (fun _=>?_);refine st1 rfl ?_;try simp only [SSd,Nat.reduceAdd]
  refine st1 rfl ?_;try simp only [SSd,Nat.reduceAdd]
  refine st1 rfl ?_;try simp only [SSd,Nat.reduceAdd]
  refine st1 rfl ?_;try simp only [SSd,Nat.reduceAdd]
  refine LK (k':=0) (sc':=z51) (own':=false) rfl ?_;exact fin1 0 hkd
 |false=>
  rw [h1,Bool.false_or] at hkd;refine AP (fun _=>?_) (fun hb=>absurd rfl hb);refine rdb ?_;try simp only [SSd,Nat.reduceAdd]
  refine st1 rfl ?_;try simp only [SSd,Nat.reduceAdd]
  refine st1 rfl ?_;try simp only [SSd,Nat.reduceAdd]
  refine st1 rfl ?_;try simp only [SSd,Nat.reduceAdd]
  refine st1 rfl ?_;try simp only [SSd,Nat.reduceAdd]
  refine LK (k':=0) (sc':=z51) (own':=false) rfl ?_;cases h2:(s.kind==4) with
  |true=>
   rw [h2,if_pos rfl] at hkd;try simp only [SSd,Nat.reduceAdd]
   exact fin1 0 hkd
  |false=>
   rw [h2] at hkd;try simp only [SSd,Nat.reduceAdd]
   exact fin 0 (by rw [hkd];rfl)
end
abbrev z53:Array Value:=#[(Value.int .i64 0),(Value.int .i64 0),(Value.bool false),(Value.slice none 0 0),(Value.slice none 0 0),(Value.int .i64 0),(Value.int .i64 0),(Value.bool false),(Value.int .i64 0),(Value.string (ByteArray.mk #[])),(Value.string (ByteArray.mk #[])),(Value.string (ByteArray.mk #[])),(Value.int .i64 0),(Value.int .i64 0),(Value.bool false),(Value.slice none 0 0),(Value.slice none 0 0),(Value.int .i64 0),(Value.int .i64 0),(Value.bool false),(Value.int .i64 0),(Value.string (ByteArray.mk #[])),(Value.string (ByteArray.mk #[])),(Value.string (ByteArray.mk #[])),(Value.int .i64 0),(Value.int .i64 0),(Value.bool false),(Value.slice none 0 0),(Value.slice none 0 0),(Value.int .i64 0),(Value.int .i64 0),(Value.string (ByteArray.mk #[])),(Value.slice none 0 0),(Value.slice none 0 0),(Value.slice none 0 0),(Value.int .i64 0),(Value.int .i64 0),(Value.bool false),(Value.int .i64 0),(Value.string (ByteArray.mk #[])),(Value.string (ByteArray.mk #[])),(Value.string (ByteArray.mk #[])),(Value.int .i64 0),(Value.int .i64 0),(Value.bool false),(Value.slice none 0 0),(Value.slice none 0 0),(Value.slice none 0 0),(Value.string (ByteArray.mk #[])),(Value.string (ByteArray.mk #[])),(Value.slice none 0 0),(Value.bool false),(Value.bool false)]
theorem AHr (k:Int)(o:Bool)(c0 c1 c2 c3 c4 c5 c6 c7 c8 c9 c10 c11 c12 c13 c14 c15 c16 c17 c18 c19 c20 c21 c22 c23 c24 c25 c26 c27 c28 c29 c30 c31 c32 c33 c34 c35 c36 c37 c38 c39 c40 c41 c42 c43 c44 c45 c46 c47 c48 c49 c50:Value):Ad z53 Zx [(0,.int .i64 k),(1,.agg #[c0,c1,c2,c3,c4,c5,c6,c7,c8,c9,c10,c11,c12,c13,c14,c15,c16,c17,c18,c19,c20,c21,c22,c23,c24,c25,c26,c27,c28,c29,c30,c31,c32,c33,c34,c35,c36,c37,c38,c39,c40,c41,c42,c43,c44,c45,c46,c47,c48,c49,c50]),(2,.bool o)]=some (.agg #[.int .i64 k,c0,c1,c2,c3,c4,c5,c6,c7,c8,c9,c10,c11,c12,c13,c14,c15,c16,c17,c18,c19,c20,c21,c22,c23,c24,c25,c26,c27,c28,c29,c30,c31,c32,c33,c34,c35,c36,c37,c38,c39,c40,c41,c42,c43,c44,c45,c46,c47,c48,c49,c50,.bool o]):=by kernel_rfl
theorem ALI (k:Int)(o:Bool)(c:List Value)(hl:c.length=51):Ad z53 Zx [(0,.int .i64 k),(1,.agg c.toArray),(2,.bool o)]=some (.agg (.int .i64 k::(c++[.bool o])).toArray):=by
 obtain ⟨c0,c1,c2,c3,c4,c5,c6,c7,c8,c9,c10,c11,c12,c13,c14,c15,c16,c17,c18,c19,c20,c21,c22,c23,c24,r,rfl⟩:∃c0 c1 c2 c3 c4 c5 c6 c7 c8 c9 c10 c11 c12 c13 c14 c15 c16 c17 c18 c19 c20 c21 c22 c23 c24 r,c=c0::c1::c2::c3::c4::c5::c6::c7::c8::c9::c10::c11::c12::c13::c14::c15::c16::c17::c18::c19::c20::c21::c22::c23::c24::r:=by
  match c,hl with
  |c0::c1::c2::c3::c4::c5::c6::c7::c8::c9::c10::c11::c12::c13::c14::c15::c16::c17::c18::c19::c20::c21::c22::c23::c24::r,_=>exact ⟨c0,c1,c2,c3,c4,c5,c6,c7,c8,c9,c10,c11,c12,c13,c14,c15,c16,c17,c18,c19,c20,c21,c22,c23,c24,r,rfl⟩
 have hr:r.length=26:=by simpa using hl
 obtain ⟨c25,c26,c27,c28,c29,c30,c31,c32,c33,c34,c35,c36,c37,c38,c39,c40,c41,c42,c43,c44,c45,c46,c47,c48,c49,c50,rfl⟩:∃c25 c26 c27 c28 c29 c30 c31 c32 c33 c34 c35 c36 c37 c38 c39 c40 c41 c42 c43 c44 c45 c46 c47 c48 c49 c50,r=[c25,c26,c27,c28,c29,c30,c31,c32,c33,c34,c35,c36,c37,c38,c39,c40,c41,c42,c43,c44,c45,c46,c47,c48,c49,c50]:=by
  match r,hr with
  |[c25,c26,c27,c28,c29,c30,c31,c32,c33,c34,c35,c36,c37,c38,c39,c40,c41,c42,c43,c44,c45,c46,c47,c48,c49,c50],_=>exact ⟨c25,c26,c27,c28,c29,c30,c31,c32,c33,c34,c35,c36,c37,c38,c39,c40,c41,c42,c43,c44,c45,c46,c47,c48,c49,c50,rfl⟩
 exact AHr ..
section
variable {ω:Om}{I:Imm}{L F:LH}{K:Value→M}{s:Ses}{b:Nat}{X:LH}
theorem MX [hsp:SplitL X L F](hS:SeM I s b X)(hk:∀X',SeM I (Dw s) b X'→K (.tuple #[]) I (X'++F)):CT ω 30 #[Ai b] K I L:=by
 refine Cal.split X ?_;obtain ⟨vl,vs,vo,sc,XL,XO,rfl,h2,h3,h4,h5,h6⟩:=hS;refine AQu ?_;unfold AMn;unfold Dw at hk;simp only [List.append_assoc,SSd,Nat.reduceAdd];refine st1 rfl ?_;try simp only [SSd,Nat.reduceAdd]
 refine rdb ?_;try simp only [SSd,Nat.reduceAdd]
 cases h1:(s.status==84) with
 |true=>
  rw [if_pos h1] at hk;try simp only [SSd,Nat.reduceAdd]
  refine st1 rfl ?_;try simp only [SSd,Nat.reduceAdd]
  refine LK (k':=4) (sc':=z51) (own':=false) rfl ?_;exact asc (A:=Gh (K _)) (Gh.done (hk _ ⟨vl,_,vo,z51,XL,XO,rfl,h2,RL.nil none 0,h4,by show (0:Int)≤69;decide,by show (69:Int)≤255;decide⟩))
 |false=>
  rw [if_neg (by rw [h1];decide)] at hk;try simp only [SSd,Nat.reduceAdd]
  exact asc (A:=Gh (K _)) (Gh.done (hk _ ⟨vl,_,vo,sc,XL,XO,rfl,h2,RL.nil none 0,h4,h5,h6⟩))
theorem PY [hsp:SplitL X L F](hS:SeM I s b X)(hk:∀X',SeM I (Fj s) b X'→K (.tuple #[]) I (X'++F)):CT ω 13 #[Ai b] K I L:=by
 refine Cal.split X ?_;have hS':=hS;obtain ⟨vl,vs,vo,sc,XL,XO,rfl,h2,h3,h4,h5,h6⟩:=hS;refine ARF ?_;unfold AMx;unfold Fj at hk;simp only [List.append_assoc,SSd,Nat.reduceAdd];refine rdb ?_;try simp only [SSd,Nat.reduceAdd]
 cases h1:s.ended with
 |true=>
  rw [if_pos h1] at hk;simp only [Bool.not_true,SSd,Nat.reduceAdd];have:=hk _ hS';rw [h1] at this;exact asc (A:=Gh (K _)) (Gh.done this)
 |false=>
  rw [if_neg (by rw [h1];decide)] at hk;rw [h1] at hS';simp only [Bool.not_false,SSd,Nat.reduceAdd];refine call (asc ?_);exact Iu hS' (fun X' h=>Gh.done (hk X' h))
theorem IG (kind asked:Int)(tag:Bs)[hsp:SplitL X L F](hS:SeM I s b X)(ht:tag.length≤100000)(hn:s.out.length≤99999990000000)(hk:∀I' X',Ext I I'→SeM I' (KT s kind asked tag) b X'→K (.tuple #[]) I' (X'++F)):CT ω 73 #[Ai b,.int .i64 kind,.int .u8 asked,.string ⟨tag.toArray⟩] K I L:=by
 refine Cal.split X ?_;have hS':=hS;obtain ⟨vl,vs,vo,sc,XL,XO,rfl,h2,h3,h4,h5,h6⟩:=hS;refine AQg ?_;unfold AMZ;unfold KT at hk;simp only [List.append_assoc,SSd,Nat.reduceAdd];refine rdb ?_;try simp only [SSd,Nat.reduceAdd]
 cases h1:(s.status==asked) with
 |true=>
  rw [if_pos h1] at hk;try simp only [SSd,Nat.reduceAdd]
  refine LK (k':=kind) (sc':=z51) (own':=false) rfl ?_;exact asc (A:=Gh (K _)) (Gh.done (hk I _ (Ext.refl _) ⟨vl,vs,vo,z51,XL,XO,rfl,h2,h3,h4,h5,h6⟩))
 |false=>
  rw [if_neg (by rw [h1];decide)] at hk;try simp only [SSd,Nat.reduceAdd]
  refine call (asc ?_);exact Dv tag hS' ht hn (fun I' X' hI h=>Gh.done (hk I' X' hI h))
theorem AJF {x:TStmt}{c:List Value}(h:TStmtV I x c):∃r,c= .int .i64 x.fKind::r∧∃sc:A51,sc.1=c:=by
 have h1:=TStmtV.len h;have h2:=TStmtV.one h;obtain ⟨v0,v1,v2,v3,v4,v5,v6,v7,v8,v9,v10,v11,v12,rfl,_⟩:=h;exact ⟨_,rfl,⟨_,h1,List.all_eq_true.2 h2⟩,rfl⟩
theorem Vs {x:TStmt}{c:List Value}(hx:TStmtV I x c)[hsp:SplitL X L F](hS:SeM I s b X)(hn:s.out.length≤99999990000000)(hk:∀I' X',Ext I I'→SeM I' (Gn s x) b X'→K (.tuple #[]) I' (X'++F)):CT ω 48 #[Ai b,.agg c.toArray] K I L:=by
 refine Cal.split X ?_;have hS':=hS;obtain ⟨vl,vs,vo,sc,XL,XO,rfl,h2,h3,h4,h5,h6⟩:=hS;have hc51:=TStmtV.len hx;obtain ⟨r,rfl,sx,hsx⟩:=AJF hx;refine AQo ?_;unfold AMh;unfold Gn at hk;have rb:∀(bx:Nat),s.status=69→(x.fKind==10||x.fKind==11)=true→RY ω (Ai b) (fun v=>Gh (K v)) I ((bx,.cells (.int .i64 x.fKind::r).toArray 76 (0,0))::(b,CO s.pid s.secret s.status vl s.query vs s.kind sc s.own s.ended vo)::(XL++(XO++F))):=by
  intro bx e1 e2;rw [if_pos (by rw [e1];rfl),if_pos e2] at hk;unfold RY;try simp only [SSd,Nat.reduceAdd]
  refine st1 rfl ?_;refine call (Cal.to (((b,CO s.pid s.secret 73 vl s.query vs s.kind sc s.own s.ended vo)::(XL++(XO++F)))) (asc ?_));exact Dv (s:={s with status:=73}) [82,79,76,76,66,65,67,75] ⟨vl,vs,vo,sc,XL,XO,rfl,h2,h3,h4,by show (0:Int)≤73;decide,by show (73:Int)≤255;decide⟩ (by decide) hn (fun I' X' hI h=>Gh.done (hk I' X' hI h))
 simp only [List.append_assoc,SSd,Nat.reduceAdd];refine AZ (fun bx=>?_);refine rdb ?_;try simp only [SSd,Nat.reduceAdd]
 cases h1:(s.status==69) with
 |true=>
  have e1:s.status=69:=by simpa using h1
  try simp only [SSd,Nat.reduceAdd]
  refine rdb ?_;try simp only [SSd,Nat.reduceAdd]
  cases h10:(x.fKind==10) with
  |true=>
   try simp only [SSd,Nat.reduceAdd]
   exact rb bx e1 (by rw [h10];rfl)
  |false=>
  try simp only [SSd,Nat.reduceAdd]
  cases h11:(x.fKind==11) with
  |true=>
   try simp only [SSd,Nat.reduceAdd]
   exact rb bx e1 (by rw [h11,Bool.or_true])
  |false=>
  rw [if_pos h1,if_neg (by rw [h10,h11];decide)] at hk;try simp only [SSd,Nat.reduceAdd]
  have hb:VX {fKind:=9,fState:=[50,53,80,48,50],fText:=[116,104,101,32,116,114,97,110,115,97,99,116,105,111,110,32,104,97,115,32,102,97,105,108,101,100]}:=⟨by decide,by decide,by decide,by decide⟩;refine QQ (X:=(b,CO s.pid s.secret s.status vl s.query vs s.kind sc s.own s.ended vo)::(XL++XO)) (m:={fKind:=9,fState:=[50,53,80,48,50],fText:=[116,104,101,32,116,114,97,110,115,97,99,116,105,111,110,32,104,97,115,32,102,97,105,108,101,100]}) rfl hS' (fun I' _=>⟨_,_,rfl,RL.nil none 0,RL.nil none 0⟩) hb (by decide) hn (fun I' X' e' hI' hS2=>?_);obtain ⟨vl,vs,vo,sc,XL,XO,rfl,h2,h3,h4,h5,h6⟩:=hS2;simp only [List.append_assoc,SSd,Nat.reduceAdd];refine st1 rfl ?_;refine Gh.to (((b,_)::(XL++(XO++F)))) (asc (A:=Gh (K _)) (Gh.done (hk I' _ hI' ⟨vl,_,vo,sc,XL,XO,rfl,h2,RL.nil none 0,h4,h5,h6⟩)))
 |false=>
  rw [if_neg (by rw [h1];decide)] at hk;have go:∀{f:FuncId} {args:Array Value},CT ω f args (fun v21=>(fun v=>Gh (K v)) (.tuple #[])) I (((b,CO s.pid s.secret s.status vl s.query vs s.kind sc s.own s.ended vo)::(XL++XO))++F)→CT ω f args (gh fun v21=>(fun v=>Gh (K v)) (.tuple #[])) I ((bx,.cells (.int .i64 x.fKind::r).toArray 76 (0,0))::(b,CO s.pid s.secret s.status vl s.query vs s.kind sc s.own s.ended vo)::(XL++(XO++F))):=by
   intro f args h;exact call (Cal.to (((b,CO s.pid s.secret s.status vl s.query vs s.kind sc s.own s.ended vo)::(XL++(XO++F)))) (asc h))
  try simp only [SSd,Nat.reduceAdd]
  refine rdb ?_;try simp only [SSd,Nat.reduceAdd]
  cases h9:(x.fKind==9) with
  |true=>
   rw [if_pos h9] at hk;try simp only [SSd,Nat.reduceAdd]
   refine go (IG 2 73 [66,69,71,73,78] hS' (by decide) hn (fun I' X' hI h=>Gh.done (hk I' X' hI h)))
  |false=>
  rw [if_neg (by rw [h9];decide)] at hk;try simp only [SSd,Nat.reduceAdd]
  cases h10:(x.fKind==10) with
  |true=>
   rw [if_pos h10] at hk;try simp only [SSd,Nat.reduceAdd]
   refine go (IG 3 84 [67,79,77,77,73,84] hS' (by decide) hn (fun I' X' hI h=>Gh.done (hk I' X' hI h)))
  |false=>
  rw [if_neg (by rw [h10];decide)] at hk;try simp only [SSd,Nat.reduceAdd]
  cases h11:(x.fKind==11) with
  |true=>
   rw [if_pos h11] at hk;try simp only [SSd,Nat.reduceAdd]
   refine go (IG 4 84 [82,79,76,76,66,65,67,75] hS' (by decide) hn (fun I' X' hI h=>Gh.done (hk I' X' hI h)))
  |false=>
  rw [if_neg (by rw [h11];decide)] at hk;try simp only [SSd,Nat.reduceAdd]
  refine Aw ?_;refine BB hc51 ?_;try simp only [SSd,Nat.reduceAdd]
  refine Ah ?_;try simp only [SSd,Nat.reduceAdd]
  refine ALK (ALI _ _ _ hc51) ?_;try simp only [SSd,Nat.reduceAdd]
  refine LK (k':=1) (sc':=sx) (own':=s.status==73) (by rw [Pm,hsx];rfl) ?_;refine Gh.to ((b,CO s.pid s.secret s.status vl s.query vs 1 sx (s.status==73) s.ended vo)::(XL++(XO++F))) ?_;exact asc (A:=Gh (K _)) (Gh.done (hk I _ (Ext.refl _) ⟨vl,vs,vo,sx,XL,XO,rfl,h2,h3,h4,h5,h6⟩))
end
def hiL (s:Ses):List TBack:=[{fKind:=1},{fKind:=2,fName:=[115,101,114,118,101,114,95,118,101,114,115,105,111,110],fText:=[49,54,46,48]},{fKind:=2,fName:=[99,108,105,101,110,116,95,101,110,99,111,100,105,110,103],fText:=[85,84,70,56]},{fKind:=2,fName:=[68,97,116,101,83,116,121,108,101],fText:=[73,83,79]},{fKind:=3,fPid:=s.pid,fSecret:=s.secret},{fKind:=4,fStatus:=73}]
theorem ALc (s:Ses):∀m∈hiL s,VX m∧Dq m≤60:=by
 intro m hm;simp only [hiL,List.mem_cons,List.not_mem_nil,or_false] at hm;rcases hm with rfl|rfl|rfl|rfl|rfl|rfl
 all_goals (refine ⟨⟨?_,?_,?_,?_⟩,?_⟩ <;> first|decide|(simp [Dq,BZ];done))
section
variable {ω:Om}{I:Imm}{L F:LH}{K:Value→M}{s:Ses}{b:Nat}{X:LH}
theorem RG [hsp:SplitL X L F](hS:SeM I s b X)(hn:s.out.length≤99999990000000)(hk:∀I' X',Ext I I'→SeM I' (Jf s) b X'→K (.tuple #[]) I' (X'++F)):CT ω 77 #[Ai b] K I L:=by
 refine Cal.split X ?_;obtain ⟨vl,vs,vo,sc,XL,XO,rfl,h2,h3,h4,h5,h6⟩:=hS;refine AQc ?_;unfold AMV;simp only [List.append_assoc,SSd,Nat.reduceAdd];refine st1 rfl ?_;refine Aw ?_;try simp only [SSd,Nat.reduceAdd]
 refine Ah ?_;try simp only [SSd,Nat.reduceAdd]
 refine Ah ?_;try simp only [SSd,Nat.reduceAdd]
 have hok:=ALc s;have hon:Dc (hiL s)≤960:=by
  have:=Yw (l:=hiL s) (n:=60) (fun m hm=>(hok m hm).2);simpa [hiL] using this
 refine Ea (R:=TBackV) (hiL s) [[.int .i64 1,.string ⟨#[]⟩,.string ⟨#[]⟩,.int .i64 0,.int .i64 0,.int .u8 0,.slice none 0 0,.slice none 0 0,.string ⟨#[]⟩,.bool false],
  [.int .i64 2,.string ⟨([115,101,114,118,101,114,95,118,101,114,115,105,111,110]:Bs).toArray⟩,.string ⟨([49,54,46,48]:Bs).toArray⟩,.int .i64 0,.int .i64 0,.int .u8 0,.slice none 0 0,.slice none 0 0,.string ⟨#[]⟩,.bool false],
  [.int .i64 2,.string ⟨([99,108,105,101,110,116,95,101,110,99,111,100,105,110,103]:Bs).toArray⟩,.string ⟨([85,84,70,56]:Bs).toArray⟩,.int .i64 0,.int .i64 0,.int .u8 0,.slice none 0 0,.slice none 0 0,.string ⟨#[]⟩,.bool false],
  [.int .i64 2,.string ⟨([68,97,116,101,83,116,121,108,101]:Bs).toArray⟩,.string ⟨([73,83,79]:Bs).toArray⟩,.int .i64 0,.int .i64 0,.int .u8 0,.slice none 0 0,.slice none 0 0,.string ⟨#[]⟩,.bool false],
  [.int .i64 3,.string ⟨#[]⟩,.string ⟨#[]⟩,.int .i64 s.pid,.int .i64 s.secret,.int .u8 0,.slice none 0 0,.slice none 0 0,.string ⟨#[]⟩,.bool false],
  [.int .i64 4,.string ⟨#[]⟩,.string ⟨#[]⟩,.int .i64 0,.int .i64 0,.int .u8 73,.slice none 0 0,.slice none 0 0,.string ⟨#[]⟩,.bool false]] rfl rfl rfl ?_ ?_ (fun hI h=>TBackV.mono h hI) (fun I1 a hI1 hw=>Gh.done ?_)
 ·intro c hc;simp only [List.mem_cons,List.not_mem_nil,or_false] at hc;rcases hc with rfl|rfl|rfl|rfl|rfl|rfl <;> rfl
 ·intro p hp;simp only [hiL,List.zip_cons_cons,List.zip_nil_right,List.mem_cons,List.not_mem_nil,or_false] at hp;rcases hp with rfl|rfl|rfl|rfl|rfl|rfl <;> exact ⟨_,_,rfl,RL.nil none 0,RL.nil none 0⟩
 ·refine call (LP (X:=(b,CO s.pid s.secret 73 vl s.query vs s.kind sc s.own s.ended vo)::(XL++XO)) (s:={s with status:=73}) (l:=hiL s) ⟨vl,vs,vo,sc,XL,XO,rfl,h2,RL.mono (fun _ _ h=>TStmtV.mono h hI1) h3 hI1 (fun _ h=>h),h4,by show (0:Int)≤73;decide,by show (73:Int)≤255;decide⟩ hw (by simp [hiL]) (fun m hm=>(hok m hm).1) (by show s.out.length+_≤_;omega) (fun I' X' hI hS'=>?_));exact Gh.done (hk I' X' (Ext.trans hI1 hI) hS')
theorem XB {G:Imm}(hTok:ED ω G)(hLim:QB ω)(t:Bs)[hsp:SplitL X L F](hG:Ext G I)(hS:SeM I s b X)(hn:s.out.length≤99999990000000)(hk:∀I' X',Ext I I'→SeM I' (XD s t) b X'→K (.tuple #[]) I' (X'++F)):CT ω 78 #[Ai b,.string ⟨t.toArray⟩] K I L:=by
 refine Cal.split X ?_;obtain ⟨vl,vs,vo,sc,XL,XO,rfl,h2,h3,h4,h5,h6⟩:=hS;refine AQb ?_;unfold AMU;unfold XD at hk;simp only [List.append_assoc,SSd,Nat.reduceAdd];refine st1 rfl ?_;refine call (WL hTok hLim t hG (fun I1 a k hI1 hw=>?_));have hS1:SeM I1 {s with query:=true} b ((b,CO s.pid s.secret s.status vl true vs s.kind sc s.own s.ended vo)::(XL++XO)):=⟨vl,vs,vo,sc,XL,XO,rfl,h2,RL.mono (fun _ _ h=>TStmtV.mono h hI1) h3 hI1 (fun _ h=>h),h4,h5,h6⟩;generalize DY t=p at *;obtain ⟨pl,pe⟩:=p;simp only at *
 try simp only [SSd,Nat.reduceAdd]
 refine AZ (fun bf=>?_);refine stB rfl rfl (AL rfl) ?_;try simp only [SSd,Nat.reduceAdd]
 refine rdb ?_;try simp only [SSd,Nat.reduceAdd]
 have last:∀(I2:Imm) (X':LH) (s2:Ses),Ext I1 I2→SeM I2 s2 b X'→(∀I' X',Ext I I'→SeM I' {s2 with stmts:=pl} b X'→K (.tuple #[]) I' (X'++F))→OG ω (Ai b) (.slice a pl.length k) (fun v=>Gh (K v)) I2 (X'++((bf,.cells [.int .i64 pe.code,.int .i64 pe.at'].toArray 157 (0,0))::F)):=by
  intro I2 X' s2 hI2 hS2 hk2;obtain ⟨vl,vs,vo,sc,XL,XO,rfl,h2,h3,h4,h5,h6⟩:=hS2;unfold OG;simp only [List.append_assoc,SSd,Nat.reduceAdd];refine st1 rfl ?_;refine Gh.to ((b,_)::(XL++(XO++F))) (asc (A:=Gh (K _)) (Gh.done (hk2 I2 _ (Ext.trans hI1 hI2) ⟨vl,_,vo,sc,XL,XO,rfl,h2,RL.mono (fun _ _ h=>TStmtV.mono h hI2) hw hI2 (fun _ h=>h),h4,h5,h6⟩)))
 cases h1:(pe.code != 0) with
 |true=>
  rw [if_pos h1] at hk;try simp only [SSd,Nat.reduceAdd]
  refine rdb ?_;refine call (FK (X:=(b,CO s.pid s.secret s.status vl true vs s.kind sc s.own s.ended vo)::(XL++XO)) pe.code false hS1 hn (fun I2 X2 hI2 hS2=>?_));refine call (MX (X:=X2) hS2 (fun X3 hS3=>?_));exact Gh.to (X3++F) (Gh.done (hk I2 X3 (Ext.trans hI1 hI2) hS3))
 |false=>
 rw [if_neg (by rw [h1];decide)] at hk;simp only [Ht,SSd,Nat.reduceAdd];cases hp:pl with
 |nil=>
  rw [hp] at hk last hw;simp only [List.isEmpty_nil,if_true] at hk;simp only [List.length_nil,show (((0:Nat):Int)==0)=true from rfl,SSd,Nat.reduceAdd];refine QQ (X:=(b,CO s.pid s.secret s.status vl true vs s.kind sc s.own s.ended vo)::(XL++XO)) (m:={fKind:=8}) rfl hS1 (fun I' _=>⟨_,_,rfl,RL.nil none 0,RL.nil none 0⟩) ⟨by decide,by decide,by decide,by decide⟩ (by decide) hn (fun I' X' e' hI' hS2=>?_);exact last I' X' _ hI' hS2 hk
 |cons y r=>
  rw [hp] at hk last;simp only [List.isEmpty_cons,Bool.false_eq_true,if_false] at hk;have hz:((((y::r).length:Nat):Int)==0)=false:=beq_false_of_ne (by simp;omega);simp only [hz,SSd,Nat.reduceAdd];unfold OG;rw [hp] at hw;try simp only [SSd,Nat.reduceAdd]
  refine st1 rfl ?_;refine Gh.to ((b,_)::(XL++(XO++F))) (asc (A:=Gh (K _)) (Gh.done (hk I1 _ hI1 ⟨vl,_,vo,sc,XL,XO,rfl,h2,hw,h4,h5,h6⟩)))
theorem AAI {G:Imm}{f:TFront}{c:List Value}(hTok:ED ω G)(hLim:QB ω)(hf:FrC f c)[hsp:SplitL X L F](hG:Ext G I)(hS:SeM I s b X)(hn:s.out.length≤99999990000000)(hk:∀I' X',Ext I I'→SeM I' (LY s f) b X'→K (.tuple #[]) I' (X'++F)):CT ω 51 #[Ai b,.agg c.toArray] K I L:=by
 refine Cal.split X ?_;obtain ⟨a,n,k,p,sc,tg,rfl⟩:=hf;refine AQl ?_;unfold AMe;unfold LY at hk;try simp only [SSd,Nat.reduceAdd]
 refine AZ (fun bf=>?_);try simp only [SSd,Nat.reduceAdd]
 refine rdb ?_;try simp only [SSd,Nat.reduceAdd]
 by_cases h2:(f.fKind==2)=true
 ·rw [if_pos h2] at hk;simp only [h2,SSd,Nat.reduceAdd];refine QQ (X:=X) (m:={fKind:=10}) rfl hS (fun I' _=>⟨_,_,rfl,RL.nil none 0,RL.nil none 0⟩) ⟨by decide,by decide,by decide,by decide⟩ (by decide) hn (fun I' X' e' hI' hS2=>?_);exact Gh.to (X'++F) (Gh.done (hk I' X' hI' hS2))
 rw [if_neg h2] at hk;simp only [Bool.eq_false_iff.2 h2,SSd,Nat.reduceAdd];have he:RU ω (Ai b) (.pointer (some ⟨bf,0,none⟩)) (.int .i64 f.fKind) (.bool (f.fKind==3||f.fKind==5)) (fun v=>Gh (K v)) I ((bf,.cells [.int .i64 f.fKind,.slice a n k,.string ⟨f.fText.toArray⟩,.int .i64 p,.int .i64 sc,.int .u8 tg].toArray 106 (0,0))::(X++F)):=by
  unfold RU;by_cases h3:(f.fKind==3||f.fKind==5)=true
  ·rw [if_pos h3] at hk;simp only [h3,SSd,Nat.reduceAdd];refine call (Iu (X:=X) hS (fun X' h=>?_));exact Gh.to (X'++F) (Gh.done (hk I X' (Ext.refl _) h))
  rw [if_neg h3] at hk;simp only [Bool.eq_false_iff.2 h3,SSd,Nat.reduceAdd];by_cases h1:(f.fKind==1)=true
  ·rw [if_pos h1] at hk;simp only [h1,SSd,Nat.reduceAdd];refine call (RG (X:=X) hS hn (fun I' X' hI h=>?_));exact Gh.to (X'++F) (Gh.done (hk I' X' hI h))
  rw [if_neg h1] at hk;simp only [Bool.eq_false_iff.2 h1,SSd,Nat.reduceAdd];by_cases h4:(f.fKind==4)=true
  ·rw [if_pos h4] at hk;simp only [h4,SSd,Nat.reduceAdd];refine rdb ?_;refine call (XB (X:=X) hTok hLim f.fText hG hS hn (fun I' X' hI h=>?_));exact Gh.to (X'++F) (Gh.done (hk I' X' hI h))
  rw [if_neg h4] at hk;simp only [Bool.eq_false_iff.2 h4,SSd,Nat.reduceAdd];refine call (FK (X:=X) 230 true hS hn (fun I' X' hI h=>?_));refine call (Iu (X:=X') h (fun X2 h2=>?_));exact Gh.to (X2++F) (Gh.done (hk I' X2 hI h2))
 cases h3:(f.fKind==3) with
 |true=>
  rw [h3,Bool.true_or] at he;try simp only [SSd,Nat.reduceAdd]
  exact he
 |false=>
  rw [h3,Bool.false_or] at he;try simp only [SSd,Nat.reduceAdd]
  exact he
end
theorem JE (s:Ses)(m:TBack)(h:Dq m≤1000):(BV s [m]).out.length≤s.out.length+1100:=by
 have h1:=KE s [m];have h2:=KH m;omega
theorem KQ (s:Ses)(e:Int)(f:Bool):(Dt s e f).out.length≤s.out.length+1100:=JE s (AKq e f) (by have:=ZI e f;omega)
theorem PL (s:Ses)(t:Bs)(h:t.length≤900):(Eu s t).out.length≤s.out.length+1100:=JE s {fKind:=7,fText:=t} (by simp only [Dq,BZ,List.map_nil,List.sum_nil,List.length_nil];omega)
theorem Sv (s:Ses):(Jg s).out=s.out:=rfl
theorem VC (s:Ses):(Dw s).out=s.out:=by unfold Dw;split <;> rfl
theorem AAl (s:Ses):(Jf s).out.length≤s.out.length+1100:=by
 have h1:=KE {s with status:=73} (hiL s);have h2:=Yw (l:=hiL s) (n:=60) (fun m hm=>(ALc s m hm).2);have h3:(hiL s).length=6:=rfl;have h4:Jf s=BV {s with status:=73} (hiL s):=rfl;rw [h4];simp only at h1
 omega
theorem TA (s:Ses)(k a:Int)(t:Bs)(h:t.length≤900):(KT s k a t).out.length≤s.out.length+1100:=by
 unfold KT;split
 ·simp only;omega
 ·exact PL s t h
theorem AHF (s:Ses)(x:TStmt):(Gn s x).out.length≤s.out.length+1100:=by
 unfold Gn;split
 ·split
  ·exact PL {s with status:=73} _ (by decide)
  ·exact JE s _ (by decide)
 split
 ·exact TA s _ _ _ (by decide)
 split
 ·exact TA s _ _ _ (by decide)
 split
 ·exact TA s _ _ _ (by decide)
 ·simp only;omega
theorem AKf (s:Ses)(f:TFront):(LY s f).out.length≤s.out.length+1100:=by
 unfold LY XD;repeat' split
 ·exact JE s _ (by decide)
 ·rw [Sv];omega
 ·exact AAl s
 ·rw [VC];exact KQ {s with query:=true} _ _
 ·exact JE {s with query:=true} _ (by decide)
 ·simp only;omega
 ·rw [Sv];exact KQ s _ _
theorem AAS {s t:Ses}(h:DC s=some t):t.out.length≤s.out.length+1100:=by
 unfold DC at h;split at h
 ·cases h
 split at h
 ·simp only [Option.some.injEq] at h;subst h;exact AHF {s with stmts:=s.stmts.tail} _
 split at h
 ·simp only [Option.some.injEq] at h;subst h;exact JE {s with query:=false} _ (by simp only [Dq,BZ,List.map_nil,List.sum_nil,List.length_nil];omega)
 simp only at h
 split at h
 ·cases h
 split at h
 ·simp only [Option.some.injEq] at h;subst h;rw [Sv];exact KQ s _ _
 ·simp only [Option.some.injEq] at h;subst h;exact AKf {s with left:=s.left.drop (Bo s.left (s.status==0)).2.1.toNat} _
def BX (s:Ses):Nat:=s.out.length+2000 * mu s
theorem WB {s t:Ses}(h:DC s=some t):BX t≤BX s:=by
 have h1:=AAS h;have h2:=IW h;unfold BX;omega
section
variable {ω:Om}{I:Imm}{L F:LH}{K:Value→M}{s:Ses}{b:Nat}{X:LH}
theorem OwB.drop_at {v:Value}{l:Bs}{n:Nat}(h:OwB X v l)(hn:n≤l.length)(h0:0 < n):∃bb off cap,CV 1 v (some (.int .i64 n)) none none=some (.slice (some ⟨bb,off,none⟩) (l.length - n) cap)∧∀(I:Imm) (L:LH),(∀x∈X,x∈L)→News 1 (.slice (some ⟨bb,off,none⟩) (l.length - n) cap) I L (l.length - n) (Lib.byteCells (l.drop n)):=by
 obtain ⟨hl,h2⟩:=h;rcases h2 with ⟨rfl,hz,_⟩|⟨bb,cap,cs,rfl,rfl,hcs,hle,hcell⟩
 ·omega
 ·have hs:CV 1 (.slice (some ⟨bb,0,none⟩) l.length cap) (some (.int .i64 n)) none none=some (.slice (some ⟨bb,if cap=n then 0 else n,none⟩) (l.length - n) (cap - n)):=by
   have h2:n≠0:=by omega
   by_cases hc:cap=n
   ·simp [CV,Ci,hn,hc]
   ·simp [CV,Ci,hn,hc,h2,Addr.add]
  refine ⟨bb,_,_,hs,fun I L hX=>?_⟩;by_cases hc:cap=n
  ·have:l.length - n=0:=by omega
   rw [this];have hd:l.drop n=[]:=List.drop_eq_nil_of_le (by omega);rw [hd];exact .inl ⟨_,_,rfl,rfl,rfl⟩
  ·rw [if_neg hc];refine .inr (.inl ⟨bb,n,cap - n,rfl,by simp [Lib.byteCells],fun j u hu=>?_⟩);have hm:(bb,Obj.cells cs 5 (0,0))∈L:=hX _ (List.mem_singleton.2 rfl);refine Cell.own hm (hcell (n+j) u ?_);have:Lib.byteCells (l.drop n)=(Lib.byteCells l).drop n:=by simp [Lib.byteCells]
   rw [this,List.getElem?_drop] at hu;exact hu
theorem AHm {bb off cap len:Nat}{t:Bs}(hn:News 1 (.slice (some ⟨bb,off,none⟩) len cap) I L len (Lib.byteCells t))(hlen:len=t.length)(hl:t.length≤1000000000000)(hk:∀X' v',OwB X' v' t→K v' I (X'++L)):CT ω 50 #[.slice (some ⟨bb,off,none⟩) len cap] K I L:=by
 subst hlen;refine AQm ?_;unfold AMf;try simp only [SSd,Nat.reduceAdd]
 refine AHq (fun X0 u0 hX0=>?_);refine Bd (X:=X0) (n:=1) (m:=t.length) rfl hX0 (news:=Lib.byteCells t) ?_ (fun u hu=>?_) (by omega) (by omega) (fun X2 v2 hX2=>?_)
 ·rcases hn with ⟨a,c,e,h0,h1⟩|⟨b',o',c',e,h1,h2⟩|⟨s,e,_⟩
  ·exact .inl ⟨a,c,e,h0,h1⟩
  ·exact .inr (.inl ⟨b',o',c',e,h1,fun j u hu=>(h2 j u hu).mono (Ext.refl _) (fun x hx=>List.mem_append_right _ hx)⟩)
  ·cases e
 ·obtain ⟨d,_,rfl⟩:=List.mem_map.1 hu;rfl
 ·have hX2:OwB X2 v2 t:=by
   have:SlO 5 1 X2 v2 ([]++Lib.byteCells t) (0+t.length):=hX2;rw [List.nil_append,Nat.zero_add] at this;exact this
  exact Gh.done (hk X2 v2 hX2)
end
section
variable {ω:Om}{I:Imm}{L F:LH}{K:Value→M}{s:Ses}{b:Nat}{X:LH}
theorem ABj {v:Value}{l:List TStmt}(h:RL TStmtV 51 I [] v l)(h0:l≠[]):∃a k,CV 51 v (some (.int .i64 1)) none none=some (.slice a l.tail.length k)∧RL TStmtV 51 I [] (.slice a l.tail.length k) l.tail:=by
 have hp:=List.length_pos_iff.2 h0;obtain ⟨v',e1,h1⟩:=RL.part h (lo:=1) (hi:=l.length) hp (Nat.le_refl _) (some (.int .i64 (1:Nat))) none (Jo _ _ _ _ hp) (fun cap hc=>rfl);have e:(l.drop 1).take (l.length - 1)=l.tail:=by
  rw [List.drop_one,List.take_of_length_le (by rw [List.length_tail];omega)]
 rw [e] at h1;obtain ⟨a,k,rfl⟩:=RL.form h1;exact ⟨a,k,e1,h1⟩
theorem Yx {G:Imm}(hTok:ED ω G)(hLim:QB ω)[hsp:SplitL X L F](hG:Ext G I)(hS:SeM I s b X)(hn:BX s≤99999980000000)(hk:∀I' X',Ext I I'→SeM I' (goF s) b X'→K (.tuple #[]) I' (X'++F)):CT ω 27 #[Ai b] K I L:=by
 refine Cal.split X ?_;refine AQx ?_;unfold AMq;refine loop (fun m st I' L'=>∃(s':Ses) (X':LH),mu s'=m∧Ext I I'∧L'=X'++F∧SeM I' s' b X'∧goF s'=goF s∧BX s'≤99999980000000) (mu s) ⟨s,X,rfl,Ext.refl _,rfl,hS,rfl,hn⟩ ?_;rintro m st I' L' ⟨s',X',rfl,hI,rfl,hS',hgo,hroom⟩;have wait:DC s'=none→∀I2,Ext I' I2→K (.tuple #[]) I2 (X'++F):=fun h I2 hI2=>by
  refine hk I2 X' (Ext.trans hI hI2) ?_;rw [←hgo,Il,h];exact hS'.mono hI2
 have over:∀(I2:Imm) (X2:LH) (t:Ses),Ext I' I2→DC s'=some t→t.ended=true→SeM I2 t b X2→K (.tuple #[]) I2 (X2++F):=by
  intro I2 X2 t hI2 hr he hS2;refine hk I2 X2 (Ext.trans hI hI2) ?_;rw [←hgo,Il,hr];simp only
  rw [Ub he];exact hS2
 have step:∀(I2:Imm) (X2:LH) (t:Ses),Ext I' I2→DC s'=some t→SeM I2 t b X2→∃m',m' < mu s'∧∃(s':Ses) (X':LH),mu s'=m'∧Ext I I2∧X2++F=X'++F∧SeM I2 s' b X'∧goF s'=goF s∧BX s'≤99999980000000:=by
  intro I2 X2 t hI2 hr hS2;refine ⟨mu t,IW hr,t,X2,rfl,Ext.trans hI hI2,rfl,hS2,?_,Nat.le_trans (WB hr) hroom⟩;rw [←hgo,Il (s:=s'),hr]
 have hout:s'.out.length≤99999990000000:=by unfold BX at hroom;omega
 have hleft:s'.left.length≤100000000:=by unfold BX mu at hroom;omega
 have hSS:=hS';obtain ⟨vl,vs,vo,sc,XL,XO,rfl,h2,h3,h4,h5,h6⟩:=hS';unfold ACb;simp only [List.append_assoc,SSd,Nat.reduceAdd];refine rdb ?_;try simp only [SSd,Nat.reduceAdd]
 have hrd:DC s'=if s'.ended||s'.kind != 0 then none else if s'.query&& !s'.stmts.isEmpty then some (Gn {s' with stmts:=s'.stmts.tail} (s'.stmts.headD default)) else if s'.query then some (BV {s' with query:=false} [{fKind:=4,fStatus:=s'.status}]) else if (Bo s'.left (s'.status==0)).2.2==10 then none else if (Bo s'.left (s'.status==0)).2.2 != 0 then some (Jg (Dt s' (Bo s'.left (s'.status==0)).2.2 true)) else some (LY {s' with left:=s'.left.drop (Bo s'.left (s'.status==0)).2.1.toNat} (Bo s'.left (s'.status==0)).1):=rfl
 cases hen:s'.ended with
 |true=>
  rw [if_pos (by rw [hen];rfl)] at hrd;have:=wait hrd I' (Ext.refl _);rw [hen] at this;simp only [Bool.not_true,SSd,Nat.reduceAdd];exact asc (A:=Gh (K _)) (Gh.done this)
 |false=>
 simp only [Bool.not_false,SSd,Nat.reduceAdd];refine rdb ?_;try simp only [SSd,Nat.reduceAdd]
 cases hki:(s'.kind==0) with
 |false=>
  rw [if_pos (by simp only [bne,hki,hen];rfl)] at hrd;have:=wait hrd I' (Ext.refl _);rw [hen] at this;try simp only [SSd,Nat.reduceAdd]
  exact asc (A:=Gh (K _)) (Gh.done this)
 |true=>
 rw [if_neg (by simp only [bne,hki,hen];decide)] at hrd;try simp only [SSd,Nat.reduceAdd]
 refine rdb ?_;rw [hen] at hSS;have k5:(s'.query&& !s'.stmts.isEmpty)=false→Rf ω (Ai b) (fun st=>Gh fun I2 L2=>∃m',m' < mu s'∧∃(s':Ses) (X':LH),mu s'=m'∧Ext I I2∧L2=X'++F∧SeM I2 s' b X'∧goF s'=goF s∧BX s'≤99999980000000) (fun v=>Gh (K v)) I' ((b,CO s'.pid s'.secret s'.status vl s'.query vs s'.kind sc s'.own false vo)::(XL++(XO++F))):=by
  intro hq;rw [if_neg (by rw [hq];decide)] at hrd;unfold Rf;try simp only [SSd,Nat.reduceAdd]
  refine rdb ?_;cases hqq:s'.query with
  |true=>
   rw [if_pos hqq] at hrd;try simp only [SSd,Nat.reduceAdd]
   refine st1 rfl ?_;try simp only [SSd,Nat.reduceAdd]
   refine rdb ?_;try simp only [SSd,Nat.reduceAdd]
   refine QQ (X:=(b,CO s'.pid s'.secret s'.status vl false vs s'.kind sc s'.own false vo)::(XL++XO)) (s:={s' with query:=false}) (m:={fKind:=4,fStatus:=s'.status}) rfl ⟨vl,vs,vo,sc,XL,XO,by rw [←hen],h2,h3,h4,h5,h6⟩ (fun I' _=>⟨_,_,rfl,RL.nil none 0,RL.nil none 0⟩) ⟨by simp [Dq,BZ],h5,h6,by show (0:Int)≤4;decide⟩ (by simp [Dq,BZ]) hout (fun I2 X2 e' hI2 hS2=>?_);exact Gh.done (step I2 X2 _ hI2 hrd hS2)
  |false=>
   rw [if_neg (by rw [hqq];decide)] at hrd;have hS3:=hSS;rw [hqq] at hSS;try simp only [SSd,Nat.reduceAdd]
   refine AHc [(b,CO s'.pid s'.secret s'.status vl false vs s'.kind sc s'.own false vo)] ?_;try simp only [SSd,Nat.reduceAdd]
   refine Ah ?_;try simp only [SSd,Nat.reduceAdd]
   refine Ah ?_;try simp only [SSd,Nat.reduceAdd]
   have size:=@Ov s'.left (s'.status==0);have tail:∀(I2:Imm) (bf:Nat) (c:List Value),Ext I' I2→FrC (Bo s'.left (s'.status==0)).1 c→RZ ω (Ai b) (.pointer (some ⟨bf,0,none⟩)) (.int .i64 (Bo s'.left (s'.status==0)).2.1) (.int .i64 (Bo s'.left (s'.status==0)).2.2) (fun st=>Gh fun I2 L2=>∃m',m' < mu s'∧∃(s':Ses) (X':LH),mu s'=m'∧Ext I I2∧L2=X'++F∧SeM I2 s' b X'∧goF s'=goF s∧BX s'≤99999980000000) (fun v=>Gh (K v)) I2 ((bf,FrO c)::(b,CO s'.pid s'.secret s'.status vl false vs s'.kind sc s'.own false vo)::(XL++(XO++F))):=by
    intro I2 bf c hI2 hc;generalize hfr:Bo s'.left (s'.status==0)=fr at *;obtain ⟨f,size',e⟩:=fr;simp only at *
    unfold RZ;have hSx:=hSS.mono hI2;try simp only [SSd,Nat.reduceAdd]
    by_cases h10:(e==10)=true
    ·rw [if_pos h10] at hrd;have:=wait hrd I2 hI2;rw [hen,hqq] at this;simp only [h10,SSd,Nat.reduceAdd];exact Gh.to ((b,CO s'.pid s'.secret s'.status vl false vs s'.kind sc s'.own false vo)::(XL++(XO++F))) (asc (A:=Gh (K _)) (Gh.done this))
    rw [if_neg h10] at hrd;simp only [Bool.eq_false_iff.2 h10,SSd,Nat.reduceAdd];by_cases h0:(e != 0)=true
    ·rw [if_pos h0] at hrd;simp only [h0,SSd,Nat.reduceAdd];refine call (FK (X:=(b,CO s'.pid s'.secret s'.status vl false vs s'.kind sc s'.own false vo)::(XL++XO)) e true hSx hout (fun I3 X3 hI3 hS3=>?_));refine call (Iu (X:=X3) hS3 (fun X4 hS4=>?_));exact Gh.to (X4++F) (Gh.done (over I3 X4 _ (Ext.trans hI2 hI3) hrd rfl hS4))
    rw [if_neg h0] at hrd;simp only [Bool.eq_false_iff.2 h0,SSd,Nat.reduceAdd];obtain ⟨g1,g2⟩:=size (by simpa using h0);obtain ⟨n,rfl⟩:∃n:Nat,size'=n:=⟨size'.toNat,by omega⟩;rw [Int.toNat_natCast] at hrd;obtain ⟨bb,off,cap,e1,e2⟩:=OwB.drop_at h2 (n:=n) (by omega) (by omega);refine rdb ?_;simp only [e1,SSd,Nat.reduceAdd];refine call (AHm (e2 I2 _ (fun x hx=>List.mem_cons_of_mem _ (List.mem_cons_of_mem _ (List.mem_append_left _ hx)))) (by rw [List.length_drop]) (by rw [List.length_drop];omega) (fun XN v' hXN=>?_));obtain ⟨a',k',rfl⟩:=hXN.form;try simp only [SSd,Nat.reduceAdd]
    refine st1 rfl ?_;refine Ed (FrC.one hc).1 ?_;refine call (Cal.to ((b,CO s'.pid s'.secret s'.status (.slice a' (s'.left.drop n).length k') false vs s'.kind sc s'.own false vo)::(XN++(XO++F))) (asc ?_));refine AAI (G:=G) (s:={s' with left:=s'.left.drop n}) (X:=(b,CO s'.pid s'.secret s'.status (.slice a' (s'.left.drop n).length k') false vs s'.kind sc s'.own false vo)::(XN++XO)) hTok hLim hc (Ext.trans hG (Ext.trans hI hI2)) ⟨_,vs,vo,sc,XN,XO,by rw [hen,hqq],hXN,RL.mono (fun _ _ h=>TStmtV.mono h hI2) h3 hI2 (fun _ h=>h),h4,h5,h6⟩ hout (fun I3 X3 hI3 hS3=>?_);exact Gh.done (step I3 X3 _ (Ext.trans hI2 hI3) hrd hS3)
   have z1:∀{f:TFront} {c:List Value},FrC f c→∀u∈c,u.oneCell'=true:=fun h=>(FrC.one h).2;refine And.intro ?_ ?_
   ·refine MW (Cal.split XL (KY h2 (fun I1 hI1 hv=>?_)));refine Iy (s'.status==0) hv (by omega) (fun c hc=>⟨Ext.refl _,fun I2 hI2=>?_⟩);refine Gh.to ((b,CO s'.pid s'.secret s'.status vl false vs s'.kind sc s'.own false vo)::(XL++(XO++F))) (Gh.done ?_);try simp only [SSd,Nat.reduceAdd]
    refine AZ (fun bf=>?_);refine DV hI2 ?_;refine stB (FrC.one hc).1 rfl (z1 hc) ?_;exact tail I2 bf c hI2 hc
   ·refine AZ (fun bf=>?_);refine DV (Ext.refl _) ?_;refine MW (Cal.split XL (KY h2 (fun I1 hI1 hv=>?_)));refine Iy (s'.status==0) hv (by omega) (fun c hc=>⟨Ext.refl _,fun I2 hI2=>?_⟩);refine Gh.to ((bf,FrO z6)::(b,CO s'.pid s'.secret s'.status vl false vs s'.kind sc s'.own false vo)::(XL++(XO++F))) (Gh.done ?_);try simp only [SSd,Nat.reduceAdd]
    refine stB (FrC.one hc).1 rfl (z1 hc) ?_;exact tail I2 bf c hI2 hc
 cases hq:s'.query with
 |true=>
  rw [hq] at k5 hSS;try simp only [SSd,Nat.reduceAdd]
  refine rdb ?_;simp only [RL.len h3,SSd,Nat.reduceAdd];cases hst:s'.stmts with
  |nil=>
   rw [hst] at k5;simp only [List.length_nil,show decide ((0:Int) < ((0:Nat):Int))=false from rfl,SSd,Nat.reduceAdd];exact k5 rfl
  |cons y r=>
   have hne:s'.stmts≠[]:=by rw [hst];exact List.cons_ne_nil _ _
   rw [if_pos (by rw [hq,hst];rfl)] at hrd;have hd:s'.stmts.headD default=Ou s'.stmts 0:=by rw [hst];rfl
   have hpos:decide ((0:Int) < ((y::r).length:Nat))=true:=decide_eq_true (by simp only [List.length_cons];omega);simp only [hpos,SSd,Nat.reduceAdd];unfold ACa;try simp only [SSd,Nat.reduceAdd]
   refine rdb ?_;obtain ⟨bt,off,c,g1,gl,g2,g3⟩:=RL.hd h3 hne;obtain ⟨a',k',e1,e2⟩:=ABj h3 hne;rw [←hd] at g2;simp only [g1,SSd,Nat.reduceAdd];refine rdN gl (g3 _ _ (Ext.refl _) (fun _ h=>by cases h)) ?_;refine AZ (fun bx=>?_);refine stB gl rfl (TStmtV.one g2) ?_;refine rdb ?_;simp only [e1,SSd,Nat.reduceAdd];refine st1 rfl ?_;refine Ed gl ?_;refine call (Vs (X:=(b,CO s'.pid s'.secret s'.status vl true (.slice a' s'.stmts.tail.length k') s'.kind sc s'.own false vo)::(XL++XO)) (s:={s' with stmts:=s'.stmts.tail}) g2 ⟨vl,_,vo,sc,XL,XO,by rw [hen,hq],h2,e2,h4,h5,h6⟩ hout (fun I2 X2 hI2 hS2=>?_));exact Gh.to (X2++F) (Gh.done (step I2 X2 _ hI2 hrd hS2))
 |false=>
  rw [hq] at k5;try simp only [SSd,Nat.reduceAdd]
  exact k5 rfl
end
section
variable {ω:Om}{I:Imm}{L F:LH}{K:Value→M}{s:Ses}{b:Nat}{X:LH}
theorem Bytes.clip {v:Value}{l:Bs}(h:Bytes I v l):∃a,CV 1 v none (some (.int .i64 (l.length:Nat))) (some (.int .i64 (l.length:Nat)))=some (.slice a l.length l.length)∧Bytes I (.slice a l.length l.length) l:=by
 obtain ⟨hl,a,cap,rfl,hcap,h⟩:=h;have hs:CV 1 (.slice a l.length cap) none (some (.int .i64 (l.length:Nat))) (some (.int .i64 (l.length:Nat)))=some (.slice (if l.length=0 then a else a.map (·.add 0)) l.length l.length):=by
  simp [CV,Ci,hcap]
 refine ⟨_,hs,hl,_,_,rfl,Nat.le_refl _,fun h0=>?_⟩;obtain ⟨bb,off,cs,T,fr,rfl,h1,h2⟩:=h h0;refine ⟨bb,off,cs,T,fr,?_,h1,h2⟩;rw [if_neg h0];rfl
theorem OD [hsp:SplitL X L F](hS:SeM I s b X)(hk:∀I' X' v,Ext I I'→SeM I' {s with out:=[]} b X'→Bytes I' v s.out→K v I' (X'++F)):CT ω 28 #[Ai b] K I L:=by
 refine Cal.split X ?_;obtain ⟨vl,vs,vo,sc,XL,XO,rfl,h2,h3,h4,h5,h6⟩:=hS;refine AQw ?_;unfold AMp;simp only [List.append_assoc,SSd,Nat.reduceAdd];refine rdb ?_;refine call (ZL ?_);refine Gh.to (XO++((b,CO s.pid s.secret s.status vl s.query vs s.kind sc s.own s.ended vo)::(XL++F))) ?_;refine SlO.freeze h4 (fun I1 hI1 hv=>Gh.done ?_);have hv:Bytes I1 vo s.out:=hv;refine AQk ?_;unfold AMd;obtain ⟨a,e1,e2⟩:=Bytes.clip hv;simp only [hv.len,e1,SSd,Nat.reduceAdd];refine Gh.done ?_;refine st1 rfl ?_;have:=hk I1 ((b,CO s.pid s.secret s.status vl s.query vs s.kind sc s.own s.ended (.slice none 0 0))::(XL++[])) _ hI1 ⟨vl,vs,_,sc,XL,[],rfl,h2,RL.mono (fun _ _ h=>TStmtV.mono h hI1) h3 hI1 (fun _ h=>h),SlO.none _ _,h5,h6⟩ e2;rw [List.append_nil,List.cons_append] at this;exact Gh.done this
theorem Lj {G:Imm}(hTok:ED ω G)(hLim:QB ω){w:Value}{t:Bs}[hsp:SplitL X L F](hG:Ext G I)(hS:SeM I s b X)(hw:Bytes I w t)(hlen:(s.left++t).length≤100000000)(hn:BX {s with left:=s.left++t}≤99999980000000)
  (hk:∀I' X' v,Ext I I'→SeM I' (Gt s t).1 b X'→Bytes I' v (Gt s t).2→K v I' (X'++F)):CT ω 11 #[Ai b,w] K I L:=by
 refine Cal.split X ?_;have hSS:=hS;obtain ⟨vl,vs,vo,sc,XL,XO,rfl,h2,h3,h4,h5,h6⟩:=hS;rw [List.length_append] at hlen;refine ARI ?_;unfold AMz;unfold Gt at hk;simp only [List.append_assoc,SSd,Nat.reduceAdd];refine rdb ?_;cases hen:s.ended with
 |true=>
  rw [if_pos hen] at hk;rw [hen] at hSS;try simp only [SSd,Nat.reduceAdd]
  exact asc (A:=Gh (K _)) (Gh.done (hk I _ _ (Ext.refl _) hSS (SlI.nil _ _ _ _)))
 |false=>
 rw [if_neg (by rw [hen];decide)] at hk;simp only at hk
 try simp only [SSd,Nat.reduceAdd]
 refine rdb ?_;refine Bd (X:=XL) (n:=1) (m:=t.length) rfl h2 (news:=Lib.byteCells t) (SlI.news hw) (fun u hu=>?_) (by omega) (by omega) (fun X2 u2 hX2=>?_)
 ·obtain ⟨d,_,rfl⟩:=List.mem_map.1 hu;rfl
 have hX2:OwB X2 u2 (s.left++t):=OwB.mk hX2;obtain ⟨a,k,rfl⟩:=hX2.form;try simp only [SSd,Nat.reduceAdd]
 refine st1 rfl ?_;try simp only [SSd,Nat.reduceAdd]
 refine rdb ?_;simp only [Ht,SSd,Nat.reduceAdd];have hS1:SeM I {s with left:=s.left++t} b ((b,CO s.pid s.secret s.status (.slice a (s.left++t).length k) s.query vs s.kind sc s.own false vo)::(X2++XO)):=⟨_,vs,vo,sc,X2,XO,by rw [←hen],hX2,h3,h4,h5,h6⟩;have hro:s.out.length≤99999990000000:=by unfold BX at hn;simp only at hn;omega
 have last:∀(I1:Imm) (X1:LH) (t1:Ses),Ext I I1→SeM I1 t1 b X1→(∀I' X' v,Ext I I'→SeM I' {t1 with out:=[]} b X'→Bytes I' v t1.out→K v I' (X'++F))→SC ω (Ai b) (.slice none 0 0) (fun v=>Gh (K v)) I1 (X1++F):=by
  intro I1 X1 t1 hI1 hS1 hk1;unfold SC;refine call (OD (X:=X1) hS1 (fun I2 X2 v hI2 hS2 hb=>?_));exact Gh.done (hk1 I2 X2 v (Ext.trans hI1 hI2) hS2 hb)
 refine AB (fun hb=>?_) (fun hb=>?_)
 ·have hb:2097152 < (s.left++t).length:=by have:=of_decide_eq_true hb;omega
  rw [if_pos hb] at hk;refine call (Cal.to ((b,CO s.pid s.secret s.status (.slice a (s.left++t).length k) s.query vs s.kind sc s.own false vo)::(X2++(XO++F))) ?_);refine FK (X:=(b,CO s.pid s.secret s.status (.slice a (s.left++t).length k) s.query vs s.kind sc s.own false vo)::(X2++XO)) 231 true hS1 hro (fun I1 X1 hI1 hS2=>?_);refine call (Iu (X:=X1) hS2 (fun X3 hS3=>?_));exact last I1 X3 _ hI1 hS3 hk
 ·have hb:¬2097152 < (s.left++t).length:=by have:=of_decide_eq_false hb;omega
  rw [if_neg hb] at hk;refine call (Cal.to ((b,CO s.pid s.secret s.status (.slice a (s.left++t).length k) s.query vs s.kind sc s.own false vo)::(X2++(XO++F))) ?_);refine Yx (X:=(b,CO s.pid s.secret s.status (.slice a (s.left++t).length k) s.query vs s.kind sc s.own false vo)::(X2++XO)) hTok hLim hG hS1 hn (fun I1 X1 hI1 hS2=>?_);exact last I1 X1 _ hI1 hS2 hk
theorem TS (asked e:Int)[hsp:SplitL X L F](hS:SeM I s b X)(hn:s.out.length≤99999990000000)(hk:∀I' X',Ext I I'→SeM I' (Ny s asked e) b X'→K (.tuple #[]) I' (X'++F)):CT ω 32 #[Ai b,.int .i64 asked,.int .i64 e] K I L:=by
 refine Cal.split X ?_;obtain ⟨vl,vs,vo,sc,XL,XO,rfl,h2,h3,h4,h5,h6⟩:=hS;refine AQs ?_;unfold AMl;unfold Ny at hk;simp only at hk
 have hS1:∀st:Int,0≤st∧st≤255→SeM I {s with status:=st} b ((b,CO s.pid s.secret st vl s.query vs s.kind sc s.own s.ended vo)::(XL++XO)):=fun st h=>⟨vl,vs,vo,sc,XL,XO,rfl,h2,h3,h4,h.1,h.2⟩;simp only [List.append_assoc,SSd,Nat.reduceAdd];refine st1 rfl ?_;try simp only [SSd,Nat.reduceAdd]
 by_cases h0:(e != 0)=true
 ·rw [if_pos h0] at hk;simp only [h0,SSd,Nat.reduceAdd];refine call (FK (X:=(b,CO s.pid s.secret 73 vl s.query vs s.kind sc s.own s.ended vo)::(XL++XO)) e false (hS1 73 (by omega)) hn (fun I1 X1 hI1 hS2=>?_));obtain ⟨vl,vs,vo,sc,XL,XO,rfl,h2,h3,h4,h5,h6⟩:=hS2;simp only [List.append_assoc,SSd,Nat.reduceAdd];refine st1 rfl ?_;exact asc (A:=Gh (K _)) (Gh.done (hk I1 _ hI1 ⟨vl,_,vo,sc,XL,XO,rfl,h2,RL.nil none 0,h4,h5,h6⟩))
 rw [if_neg h0] at hk;simp only [Bool.eq_false_iff.2 h0,SSd,Nat.reduceAdd];by_cases h2':(asked==2)=true
 ·rw [if_pos h2'] at hk;simp only [h2',SSd,Nat.reduceAdd];refine st1 rfl ?_;refine call (Dv (X:=(b,CO s.pid s.secret 84 vl s.query vs s.kind sc s.own s.ended vo)::(XL++XO)) [66,69,71,73,78] (hS1 84 (by omega)) (by decide) hn (fun I1 X1 hI1 hS2=>?_));exact Gh.done (hk I1 X1 hI1 hS2)
 rw [if_neg h2'] at hk;simp only [Bool.eq_false_iff.2 h2',SSd,Nat.reduceAdd];refine call (Dv (X:=(b,CO s.pid s.secret 73 vl s.query vs s.kind sc s.own s.ended vo)::(XL++XO)) [67,79,77,77,73,84] (hS1 73 (by omega)) (by decide) hn (fun I1 X1 hI1 hS2=>?_));exact Gh.done (hk I1 X1 hI1 hS2)
end
def VlV (_:Imm)(v:TValue)(c:List Value):Prop:=c=ALw v
def TOutV (I:Imm)(o:TOut)(c:List Value):Prop:=∃x0 x1 vf vr,c=[x0,x1,vf,vr,.string ⟨o.fTag.toArray⟩]∧x0.oneCell'=true∧x1.oneCell'=true∧RL TFieldV 2 I [] vf o.fFields∧RL (Ky VlV 4) 1 I [] vr o.fRows
theorem AIu {I I':Imm}{v:Value}{l:List TValue}(h:RL VlV 4 I [] v l)(hI:Ext I I'):RL VlV 4 I' [] v l:=RL.mono (R:=VlV) (I:=I) (I':=I') (fun _ _ h=>h) h hI (fun _ h=>h)
theorem TOutV.mono {I I':Imm}{o:TOut}{c:List Value}(h:TOutV I o c)(hI:Ext I I'):TOutV I' o c:=by
 obtain ⟨x0,x1,vf,vr,rfl,h0,h1,h2,h3⟩:=h;refine ⟨x0,x1,vf,vr,rfl,h0,h1,FL.mono h2 hI,RL.mono (fun x c h=>?_) h3 hI (fun _ h=>h)⟩;obtain ⟨v,rfl,h⟩:=h;exact ⟨v,rfl,AIu h hI⟩
structure OutOk (o:TOut):Prop where
 f:(o.fFields.map fun f=>f.fName.length+19).sum≤1000000000
 r:o.fRows.length≤900000000
 c:∀r∈o.fRows,r.length≤1000000000∧(r.map fun v=>v.fText.length+40).sum≤5000000000
 i:∀r∈o.fRows,∀v∈r, -9223372036854775808≤v.fInt∧v.fInt≤9223372036854775807
 t:o.fTag.length≤1000000000
def IV (dec:Int→Bs)(r:List TValue):TBack:={fKind:=6,fCells:=r.map (EO dec)}
section
variable {ω:Om}{I:Imm}{L F:LH}{K:Value→M}{s:Ses}{b:Nat}{X:LH}
abbrev z10:List Value:=[.int .i64 0,.string ⟨#[]⟩,.string ⟨#[]⟩,.int .i64 0,.int .i64 0,.int .u8 0,.slice none 0 0,.slice none 0 0,.string ⟨#[]⟩,.bool false]
abbrev ANI (v:Value):List Value:=[.int .i64 6,.string ⟨#[]⟩,.string ⟨#[]⟩,.int .i64 0,.int .i64 0,.int .u8 0,.slice none 0 0,v,.string ⟨#[]⟩,.bool false]
instance splitNil (L:LH):SplitL [] L L:=⟨List.Perm.refl _⟩
theorem VS {XL:LH}{v:Value}{cells:List Value}{l:List TBack}{m:TBack}{c:List Value}{bytes:Nat}[SplitL XL L F](hL:SlO 49 10 XL v cells l.length)(hR:Recs (TBackV I) 10 l cells)(hm:TBackV I m c)(hb:(l.length+1) * bytes≤150000000000000)(hl:l.length+1≤150000000000000)
  (hk:∀X1 X' v' cells',SlO 49 10 X' v' cells' (l++[m]).length→Recs (TBackV I) 10 (l++[m]) cells'→K v' I (X'++(X1++F))):AU 49 10 z10.toArray 1 [(0,.agg c.toArray)] (gh fun u=>App 49 10 bytes z10.toArray v u (gh K)) I L:=
 GG (R:=TBackV) (X6:=XL) rfl (by decide) hL hR hm hm.len hm.one hb hl hk
theorem AAy {G:Imm}(hP:VV G){o:TOut}{c:List Value}[hsp:SplitL X L F](hG:Ext G I)(hS:SeM I s b X)(ho:TOutV I o c)(hok:OutOk o)(hn:s.out.length+Dc (Bh (BU true) o)≤100000000000000)(hbk:∀m∈Bh (BU true) o,VX m)
  (hk:∀I' X',Ext I I'→SeM I' (BV s (Bh (BU true) o)) b X'→K (.int .i64 (ER (Bh (BU true) o) []).2) I' (X'++F)):CT ω 29 #[Ai b,.agg c.toArray] K I L:=by
 refine Cal.split X ?_;obtain ⟨x0,x1,vf,vr,rfl,h0,h1,h2,h3⟩:=ho;have hr:=hok.r;refine AQv ?_;unfold AMo;try simp only [SSd,Nat.reduceAdd]
 refine AZ (fun bo=>?_);refine rdb ?_;simp only [RL.len h2,SSd,Nat.reduceAdd];have last:∀(I':Imm) (L' R XL:LH) (v:Value) (cells:List Value) (l:List TBack) [SplitL XL L' R] [SubP (X++F) R],Ext I I'→SlO 49 10 XL v cells l.length→Recs (TBackV I') 10 l cells→Bh (BU true) o=l++[{fKind:=7,fText:=o.fTag}]→l.length≤900000001→
   AU 49 10 z10.toArray 1 [(0,.agg #[.int .i64 7,.string ⟨#[]⟩,.string ⟨o.fTag.toArray⟩,.int .i64 0,.int .i64 0,.int .u8 0,.slice none 0 0,.slice none 0 0,.string ⟨#[]⟩,.bool false])] (gh fun v39=>App 49 10 136 z10.toArray v v39 (gh fun v40=>CT ω 45 #[Ai b,v40] (gh fun v41=>(fun v=>Gh (K v)) v41))) I' L':=by
  intro I' L' R XL v cells l _ _ hI hL hR hrows hl;refine VS (XL:=XL) (F:=R) (l:=l) (m:={fKind:=7,fText:=o.fTag}) (c:=[.int .i64 7,.string ⟨#[]⟩,.string ⟨o.fTag.toArray⟩,.int .i64 0,.int .i64 0,.int .u8 0,.slice none 0 0,.slice none 0 0,.string ⟨#[]⟩,.bool false]) hL hR ⟨_,_,rfl,RL.nil none 0,RL.nil none 0⟩ (by omega) (by omega) (fun X1 X' v' cells' hX' hR'=>?_);rw [←hrows] at hX' hR';have hlen:(Bh (BU true) o).length≤900000002:=by rw [hrows,List.length_append];simp;omega
  refine call (ZL ?_);refine RL.ofO (R:=TBackV) (fun h hI=>TBackV.mono h hI) hX' hR' (fun I2 hI2 hw=>Gh.done ?_);refine Cal.to (X++F) ?_;refine LP (X:=X) (hS.mono (Ext.trans hI hI2)) hw (by omega) hbk hn (fun I3 X3 hI3 hS3=>?_);exact Gh.done (hk I3 X3 (Ext.trans hI (Ext.trans hI2 hI3)) hS3)
 by_cases hf:o.fFields.length > 0
 ·have hrows:Bh (BU true) o=({fKind:=5,fFields:=o.fFields}::o.fRows.map (IV (BU true)))++[{fKind:=7,fText:=o.fTag}]:=by
   unfold Bh;rw [if_pos hf];rfl
  have hf':decide ((0:Int) < (o.fFields.length:Nat))=true:=decide_eq_true (by omega);simp only [hf',SSd,Nat.reduceAdd];refine rdb ?_;obtain ⟨af,kf,rfl⟩:=RL.form h2;try simp only [SSd,Nat.reduceAdd]
  refine VS (XL:=[]) (F:=(bo,.cells [x0,x1,.slice af o.fFields.length kf,vr,.string ⟨o.fTag.toArray⟩].toArray 42 (0,0))::(X++F)) (l:=[]) (m:={fKind:=5,fFields:=o.fFields}) (c:=[.int .i64 5,.string ⟨#[]⟩,.string ⟨#[]⟩,.int .i64 0,.int .i64 0,.int .u8 0,.slice af o.fFields.length kf,.slice none 0 0,.string ⟨#[]⟩,.bool false]) (SlO.none _ _) rfl ⟨_,_,rfl,h2,RL.nil none 0⟩ (by simp) (by simp) (fun X1 XL v cells hXL hRL=>?_);try simp only [SSd,Nat.reduceAdd]
  refine rdb ?_;simp only [RL.len h3,SSd,Nat.reduceAdd];refine loop (fun q st I' L'=>∃(k:Nat) (Y Z:LH) (v':Value) (cells':List Value),k+q=o.fRows.length∧st=(v',Value.int .i64 (k:Nat),())∧Ext I I'∧L'=Y++(Z++((bo,.cells [x0,x1,.slice af o.fFields.length kf,vr,.string ⟨o.fTag.toArray⟩].toArray 42 (0,0))::(X++F)))∧SlO 49 10 Y v' cells' ({fKind:=5,fFields:=o.fFields}::(o.fRows.take k).map (IV (BU true))).length∧Recs (TBackV I') 10 ({fKind:=5,fFields:=o.fFields}::(o.fRows.take k).map (IV (BU true))) cells') o.fRows.length
   ⟨0,XL,X1,v,cells,by omega,rfl,Ext.refl _,rfl,hXL,hRL⟩ ?_
  rintro q st I1 L1 ⟨k,Y,Z,v',cells',hkq,rfl,hI1,rfl,hY,hR⟩;unfold ACM;try simp only [SSd,Nat.reduceAdd]
  refine AB (fun hb=>?_) (fun hb=>?_)
  ·have hb:k < o.fRows.length:=by
    have:=of_decide_eq_true hb;omega
   obtain ⟨bt,off,c1,g1,gl,g2,g3⟩:=RL.ix h3 (i:=k) (by omega) (by omega);rw [BM hb] at g2;obtain ⟨vrow,rfl,hrow⟩:=g2;have hmem:o.fRows[k]∈o.fRows:=List.getElem_mem hb;obtain ⟨hc1,hc2⟩:=hok.c _ hmem;have hci:=hok.i _ hmem;have htk:(o.fRows.take (k+1)).map (IV (BU true))=(o.fRows.take k).map (IV (BU true))++[IV (BU true) o.fRows[k]]:=by
    rw [List.take_succ_eq_append_getElem hb,List.map_append];rfl
   generalize o.fRows[k]=row at *;simp only [g1,SSd,Nat.reduceAdd];refine rd1 (g3 _ _ hI1 (fun _ h=>by cases h) 0 _ rfl) ?_;try simp only [SSd,Nat.reduceAdd]
   refine AZ (fun bm=>?_);refine stB rfl rfl (AL rfl) ?_;simp only [RL.len hrow,SSd,Nat.reduceAdd];refine loop (fun q2 st I2 L2=>∃(j:Nat) (XC:LH) (vc:Value) (cc:List Value),j+q2=row.length∧st=(Value.int .i64 (j:Nat),())∧I2=I1∧L2=XC++((bm,BkO (ANI vc))::(Y++(Z++((bo,.cells [x0,x1,.slice af o.fFields.length kf,vr,.string ⟨o.fTag.toArray⟩].toArray 42 (0,0))::(X++F)))))∧SlO 113 2 XC vc cc ((row.take j).map (EO (BU true))).length∧Recs (TCellV I1) 2 ((row.take j).map (EO (BU true))) cc) row.length
    ⟨0,[],.slice none 0 0,[],by omega,rfl,rfl,rfl,SlO.none _ _,rfl⟩ ?_
   rintro q2 st I2 L2 ⟨j,XC,vc,cc,hjq,rfl,rfl,rfl,hXC,hRC⟩;have hlc:((row.take j).map (EO (BU true))).length=j:=by rw [List.length_map,List.length_take];omega
   unfold ACK;try simp only [SSd,Nat.reduceAdd]
   refine AB (fun hb2=>?_) (fun hb2=>?_)
   ·have hb2:j < row.length:=by
     have:=of_decide_eq_true hb2;omega
    obtain ⟨bt2,off2,c2,g1',gl',g2',g3'⟩:=RL.ix hrow (i:=j) (by omega) (by omega);rw [BM hb2] at g2';have g2':c2=ALw row[j]:=g2';subst g2';have hvi:=hci row[j] (List.getElem_mem hb2);have htj:(row.take (j+1)).map (EO (BU true))=(row.take j).map (EO (BU true))++[EO (BU true) row[j]]:=by
     rw [List.take_succ_eq_append_getElem hb2,List.map_append];rfl
    generalize row[j]=val at *;obtain ⟨avc,kvc,rfl⟩:=hXC.form;simp only [g1',SSd,Nat.reduceAdd];refine rdN rfl (g3' _ _ hI1 (fun _ h=>by cases h)) ?_;refine AZ (fun bv=>?_);refine stB rfl rfl (AL rfl) ?_;refine Aw ?_;try simp only [SSd,Nat.reduceAdd]
    refine Ah ?_;refine BB rfl ?_;refine call (Uu hP (Ext.trans hG hI1) val hvi (fun c hc=>?_));refine DV (Ext.refl _) ?_;refine AGl (R:=TCellV) (X6:=XC) (Ext.refl _) (fun _ h=>h) rfl (by decide) hXC hRC hc hc.len hc.one (by omega) (by omega) (fun X2 X6 a' c' cells2 hX6 hR6=>?_);try simp only [SSd,Nat.reduceAdd]
    refine st1 rfl ?_;simp only [wrap_i64 ((j:Int)+1) (by omega),SSd,Nat.reduceAdd];rw [←htj] at hX6 hR6;refine Gh.to (X6++((bm,BkO (ANI (.slice a' ((row.take j).map (EO (BU true))++[EO (BU true) val]).length c')))::(Y++(Z++((bo,.cells [x0,x1,.slice af o.fFields.length kf,vr,.string ⟨o.fTag.toArray⟩].toArray 42 (0,0))::(X++F)))))) (Gh.done ⟨q2 - 1,by omega,j+1,X6,_,cells2,by omega,rfl,rfl,rfl,?_,hR6⟩);rw [←htj];exact hX6
   ·have hb2:¬j < row.length:=by
     have:=of_decide_eq_false hb2;omega
    rw [List.take_of_length_le (by omega)] at hXC hRC;obtain ⟨avc,kvc,rfl⟩:=hXC.form;unfold ACJ;refine Ed rfl ?_;refine Ph rfl (by decide) rfl (fun X2 u2 hX2=>?_);refine Gh.to (XC++(X2++(Y++(Z++((bo,.cells [x0,x1,.slice af o.fFields.length kf,vr,.string ⟨o.fTag.toArray⟩].toArray 42 (0,0))::(X++F)))))) ?_;refine RL.ofO (R:=TCellV) (fun h hI=>TCellV.mono h hI) hXC hRC (fun I3 hI3 hw=>Gh.done ?_);have hl1:({fKind:=5,fFields:=o.fFields}::(o.fRows.take k).map (IV (BU true))).length=k+1:=by rw [List.length_cons,List.length_map,List.length_take];omega
    refine Bd (X:=Y) (n:=10) (m:=1) rfl hY (hX2.news (fun x hx=>List.mem_append_left _ hx)) (AL rfl) (by omega) (by omega) (fun Y2 w2 hY2=>?_);simp only [wrap_i64 ((k:Int)+1) (by omega),SSd,Nat.reduceAdd];refine Gh.to (Y2++(Z++((bo,.cells [x0,x1,.slice af o.fFields.length kf,vr,.string ⟨o.fTag.toArray⟩].toArray 42 (0,0))::(X++F)))) (Gh.done ⟨q - 1,by omega,k+1,Y2,Z,w2,cells'++ANI (.slice avc (row.map (EO (BU true))).length kvc),by omega,rfl,Ext.trans hI1 hI3,rfl,?_,?_⟩)
    ·have e:({fKind:=5,fFields:=o.fFields}::(o.fRows.take (k+1)).map (IV (BU true))).length=({fKind:=5,fFields:=o.fFields}::(o.fRows.take k).map (IV (BU true))).length+1:=by rw [htk];simp
     rw [e];exact hY2
    ·rw [htk,←List.cons_append];exact Recs.append (hR.imp fun _ _ h=>TBackV.mono h hI3) (Recs.one rfl ⟨_,_,rfl,RL.nil none 0,hw⟩)
  ·have hb:¬k < o.fRows.length:=by
    have:=of_decide_eq_false hb;omega
   rw [List.take_of_length_le (by omega)] at hY hR;unfold ACI;try simp only [SSd,Nat.reduceAdd]
   refine rdb ?_;try simp only [SSd,Nat.reduceAdd]
   exact last I1 _ _ Y v' cells' _ hI1 hY hR hrows (by simp;omega)
 ·have hrows:Bh (BU true) o=[]++[{fKind:=7,fText:=o.fTag}]:=by
   unfold Bh;rw [if_neg hf]
  have hf':decide ((0:Int) < (o.fFields.length:Nat))=false:=decide_eq_false (by omega);simp only [hf',SSd,Nat.reduceAdd];unfold ACH;try simp only [SSd,Nat.reduceAdd]
  refine rdb ?_;try simp only [SSd,Nat.reduceAdd]
  exact last I _ _ [] _ [] [] (Ext.refl _) (SlO.none _ _) rfl hrows (by simp)
end
theorem AKe (s:Ses):mu (Dw s)≤mu s:=by
 unfold Dw mu;split <;> simp only [List.length_nil] <;> omega
theorem AAU (s:Ses):BX (Dw s)≤BX s:=by
 have h1:=AKe s;have h2:=VC s;unfold BX;rw [h2];omega
theorem QU (s:Ses)(e:Int)(f:Bool):BX (Dt s e f)≤BX s+1100:=by
 have h1:=KQ s e f;have h2:mu (Dt s e f)=mu s:=ES s _;unfold BX;rw [h2];omega
theorem AAT (s:Ses)(l:List TBack):BX (BV s l)≤BX s+Dc l:=by
 have h1:=KE s l;have h2:mu (BV s l)=mu s:=ES s _;unfold BX;rw [h2];omega
theorem LQ (s:Ses)(t:Bs)(h:t.length≤900):BX (Eu s t)≤BX s+1100:=by
 have h1:=PL s t h;have h2:mu (Eu s t)=mu s:=ES s _;unfold BX;rw [h2];omega
theorem ABS (dec:Int→Bs)(s:Ses)(o:TOut)(e:Int):BX (Eb dec s o e)≤BX s+Dc (Bh dec o)+1100:=by
 unfold Eb;simp only
 have e0:BX {s with kind:=0,stmt:=default,own:=false}=BX s:=rfl;split
 ·have h2:BX (if e==0 then BV {s with kind:=0,stmt:=default,own:=false} (Bh dec o) else {s with kind:=0,stmt:=default,own:=false})≤BX s+Dc (Bh dec o):=by
   split
   ·exact AAT _ _
   ·rw [e0];omega
  generalize (if e==0 then BV {s with kind:=0,stmt:=default,own:=false} (Bh dec o) else {s with kind:=0,stmt:=default,own:=false})=s2 at h2 ⊢;generalize (if (e==0)=true then (ER (Bh dec o) []).2 else e)=e1;split
  ·have h3:=AAU (Dt s2 e1 false);have h4:=QU s2 e1 false;omega
  ·omega
 split
 ·split
  ·refine Nat.le_trans (LQ _ _ (by decide)) ?_;show BX s+1100≤_;omega
  ·rw [e0];omega
 ·unfold Ny;simp only
  split
  ·refine Nat.le_trans (m:=BX (Dt {s with kind:=0,stmt:=default,own:=false,status:=73} e false)) ?_ ?_
   ·unfold BX mu;simp only [List.length_nil];omega
   ·refine Nat.le_trans (QU _ _ _) ?_;show BX s+1100≤_;omega
  split
  ·refine Nat.le_trans (LQ _ _ (by decide)) ?_;show BX s+1100≤_;omega
  ·refine Nat.le_trans (LQ _ _ (by decide)) ?_;show BX s+1100≤_;omega
section
variable {ω:Om}{I:Imm}{L F:LH}{K:Value→M}{s:Ses}{b:Nat}{X:LH}
theorem TF {G:Imm}(hP:VV G)(hTok:ED ω G)(hLim:QB ω){o:TOut}{c:List Value}(e:Int)[hsp:SplitL X L F](hG:Ext G I)(hS:SeM I s b X)(ho:TOutV I o c)(hok:OutOk o)(hbk:∀m∈Bh (BU true) o,VX m)(hn:BX s+Dc (Bh (BU true) o)≤99999900000000)
  (hk:∀I' X' v,Ext I I'→SeM I' (Kv (BU true) s o e).1 b X'→Bytes I' v (Kv (BU true) s o e).2→K v I' (X'++F)):CT ω 12 #[Ai b,.agg c.toArray,.int .i64 e] K I L:=by
 refine Cal.split X ?_;have hSS:=hS;have hroom:=ABS (BU true) s o e;have hout:s.out.length+Dc (Bh (BU true) o)≤99999900000000:=by unfold BX at hn;omega
 obtain ⟨vl,vs,vo,sc,XL,XO,rfl,h2,h3,h4,h5,h6⟩:=hS;obtain ⟨x0,x1,vf,vr,rfl,ho0,ho1,ho2,ho3⟩:=ho;refine ARH ?_;unfold AMy;unfold Kv at hk;simp only [List.append_assoc,SSd,Nat.reduceAdd];refine AZ (fun bo=>?_);refine rdb ?_;try simp only [SSd,Nat.reduceAdd]
 by_cases hk0:(s.kind==0)=true
 ·rw [if_pos hk0] at hk;simp only [hk0,SSd,Nat.reduceAdd];exact Gh.to ((b,CO s.pid s.secret s.status vl s.query vs s.kind sc s.own s.ended vo)::(XL++(XO++F))) (asc (A:=Gh (K _)) (Gh.done (hk I _ _ (Ext.refl _) hSS (SlI.nil _ _ _ _))))
 rw [if_neg hk0] at hk;have fin:∀(I1:Imm) (L1 R X1:LH) (t:Ses) (p:Value) [SplitL X1 L1 R] [SubP F R],Ext I I1→SeM I1 t b X1→Eb (BU true) s o e=t→Ha ω (Ai b) p (fun v=>Gh (K v)) I1 L1:=by
  intro I1 L1 R X1 t p _ _ hI1 hS1 ht;rw [ht] at hk hroom;unfold Ha;refine call (Yx (X:=X1) (F:=R) hTok hLim (Ext.trans hG hI1) hS1 (by omega) (fun I2 X2 hI2 hS2=>?_));refine call (OD (X:=X2) hS2 (fun I3 X3 v hI3 hS3 hv=>?_));exact Gh.to (X3++F) (Gh.done (hk I3 X3 v (Ext.trans hI1 (Ext.trans hI2 hI3)) hS3 hv))
 have hS0:SeM I {s with kind:=0,stmt:=default,own:=false} b ((b,CO s.pid s.secret s.status vl s.query vs 0 z51 false s.ended vo)::(XL++XO)):=⟨vl,vs,vo,z51,XL,XO,rfl,h2,h3,h4,h5,h6⟩;simp only [Bool.eq_false_iff.2 hk0,SSd,Nat.reduceAdd];refine LK (k':=0) (sc':=z51) (own':=false) rfl ?_;by_cases hk1:(s.kind==1)=true
 ·have fin1:∀(I1:Imm) (L1 R X1:LH) (t:Ses) (e1:Int) (p:Value) [SplitL X1 L1 R] [SubP F R],Ext I I1→SeM I1 t b X1→t.out.length≤99999990000000→Eb (BU true) s o e=(if e1 != 0 then Dw (Dt t e1 false) else t)→SA ω (Ai b) (.int .i64 e1) p (fun v=>Gh (K v)) I1 L1:=by
   intro I1 L1 R X1 t e1 p _ _ hI1 hS1 hto ht;unfold SA;try simp only [SSd,Nat.reduceAdd]
   by_cases he:(e1 != 0)=true
   ·rw [if_pos he] at ht;simp only [he,SSd,Nat.reduceAdd];refine call (FK (X:=X1) (F:=R) e1 false hS1 hto (fun I2 X2 hI2 hS2=>?_));refine call (MX (X:=X2) hS2 (fun X3 hS3=>?_));exact fin I2 _ R X3 _ _ (Ext.trans hI1 hI2) hS3 ht
   ·rw [if_neg he] at ht;simp only [Bool.eq_false_iff.2 he,SSd,Nat.reduceAdd];exact fin I1 _ R X1 t _ hI1 hS1 ht
  have h1e:Eb (BU true) s o e=(if ((if (e==0)=true then (ER (Bh (BU true) o) []).2 else e) != 0)=true then Dw (Dt (if (e==0)=true then BV {s with kind:=0,stmt:=default,own:=false} (Bh (BU true) o) else {s with kind:=0,stmt:=default,own:=false}) (if (e==0)=true then (ER (Bh (BU true) o) []).2 else e) false) else (if (e==0)=true then BV {s with kind:=0,stmt:=default,own:=false} (Bh (BU true) o) else {s with kind:=0,stmt:=default,own:=false})):=by
   unfold Eb;simp only;rw [if_pos hk1]
  simp only [hk1,SSd,Nat.reduceAdd];by_cases he:(e==0)=true
  ·simp only [he,if_true] at h1e;simp only [he,SSd,Nat.reduceAdd];refine Ed rfl ?_;refine call (AAy (X:=(b,CO s.pid s.secret s.status vl s.query vs 0 z51 false s.ended vo)::(XL++XO)) hP hG hS0 ⟨x0,x1,vf,vr,rfl,ho0,ho1,ho2,ho3⟩ hok (by show s.out.length+_≤_;omega) hbk (fun I1 X1 hI1 hS1=>?_));have hso:=KE {s with kind:=0,stmt:=default,own:=false} (Bh (BU true) o);simp only at hso
   exact fin1 I1 _ _ X1 _ _ _ hI1 hS1 (by omega) h1e
  ·simp only [he,Bool.false_eq_true,if_false] at h1e;simp only [Bool.eq_false_iff.2 he,SSd,Nat.reduceAdd];exact fin1 I _ _ ((b,CO s.pid s.secret s.status vl s.query vs 0 z51 false s.ended vo)::(XL++XO)) _ e _ (Ext.refl _) hS0 (by show s.out.length≤_;omega) h1e
 simp only [Bool.eq_false_iff.2 hk1,SSd,Nat.reduceAdd];by_cases hk4:(s.kind==4)=true
 ·have h4e:Eb (BU true) s o e=(if (s.status==84&& !s.ended)=true then Eu {s with kind:=0,stmt:=default,own:=false,status:=73} [82,79,76,76,66,65,67,75] else {s with kind:=0,stmt:=default,own:=false}):=by
   unfold Eb;simp only;rw [if_neg hk1,if_pos hk4]
  simp only [hk4,SSd,Nat.reduceAdd];refine rdb ?_;try simp only [SSd,Nat.reduceAdd]
  have fin0:(s.status==84&& !s.ended)=false→Ha ω (Ai b) (.slice none 0 0) (fun v=>Gh (K v)) I ((bo,.cells [x0,x1,vf,vr,.string ⟨o.fTag.toArray⟩].toArray 42 (0,0))::(b,CO s.pid s.secret s.status vl s.query vs 0 z51 false s.ended vo)::(XL++(XO++F))):=by
   intro h;rw [if_neg (by rw [h];decide)] at h4e;exact fin I _ _ ((b,CO s.pid s.secret s.status vl s.query vs 0 z51 false s.ended vo)::(XL++XO)) _ _ (Ext.refl _) hS0 h4e
  cases hs:(s.status==84) with
  |false=>
   try simp only [SSd,Nat.reduceAdd]
   exact fin0 (by rw [hs];rfl)
  |true=>
   try simp only [SSd,Nat.reduceAdd]
   refine rdb ?_;cases hen:s.ended with
   |true=>
    rw [hen] at fin0;simp only [Bool.not_true,SSd,Nat.reduceAdd];exact fin0 (by rw [Bool.not_true,Bool.and_false])
   |false=>
    rw [if_pos (by rw [hs,hen];rfl)] at h4e;simp only [Bool.not_false,SSd,Nat.reduceAdd];unfold AFV;try simp only [SSd,Nat.reduceAdd]
    refine st1 rfl ?_;refine call (Dv (X:=(b,CO s.pid s.secret 73 vl s.query vs 0 z51 false false vo)::(XL++XO)) (s:={s with kind:=0,stmt:=default,own:=false,status:=73}) [82,79,76,76,66,65,67,75] ⟨vl,vs,vo,z51,XL,XO,by rw [hen],h2,h3,h4,by show (0:Int)≤73;decide,by show (73:Int)≤255;decide⟩ (by decide) (by show s.out.length≤_;omega) (fun I1 X1 hI1 hS1=>?_));exact fin I1 _ _ X1 _ _ hI1 hS1 h4e
 ·have hte:Eb (BU true) s o e=Ny {s with kind:=0,stmt:=default,own:=false} s.kind e:=by
   unfold Eb;simp only;rw [if_neg hk1,if_neg hk4]
  simp only [Bool.eq_false_iff.2 hk4,SSd,Nat.reduceAdd];refine call (TS (X:=(b,CO s.pid s.secret s.status vl s.query vs 0 z51 false s.ended vo)::(XL++XO)) s.kind e hS0 (by show s.out.length≤_;omega) (fun I1 X1 hI1 hS1=>?_));exact fin I1 _ _ X1 _ _ hI1 hS1 hte
end
def okI (n:Int):Prop:= -9223372036854775808≤n∧n≤9223372036854775807
theorem PN:∀(k f n:Nat) (acc:Bs),1≤k→n < 10 ^ k→(Um f n acc).length≤acc.length+k
 |0,_,_,_,h,_=>by omega
 |k+1,0,n,acc,_,_=>by simp only [Um];omega
 |k+1,f+1,n,acc,_,hn=>by
  simp only [Um];split
  ·simp
  ·rename_i h10
   cases k with
   |zero=>simp at hn;omega
   |succ k=>
    have hd:n / 10 < 10 ^ (k+1):=by
     rw [Nat.pow_succ] at hn;omega
    have:=PN (k+1) f (n / 10) (UInt8.ofNat (48+n % 10)::acc) (by omega) hd;simp only [List.length_cons] at this;omega
theorem AHf {n:Int}(h:okI n):(BU true n).length≤20:=by
 unfold okI at h;unfold BU;split
 ·simp only [if_true,List.length_cons];have:=PN 19 (n.natAbs+1) n.natAbs [] (by omega) (by omega);simp only [List.length_nil] at this;omega
 ·have:=PN 19 (n.toNat+1) n.toNat [] (by omega) (by omega);simp only [List.length_nil] at this;omega
theorem Gj {α:Type}{f g:α→Nat}{c:Nat}:∀{l:List α},(∀x∈l,f x≤c * g x)→(l.map f).sum≤c * (l.map g).sum
 |[],_=>by simp
 |x::l,h=>by
  have h1:=h x (List.mem_cons_self ..);have h2:=Gj (l:=l) fun y hy=>h y (List.mem_cons_of_mem _ hy);simp only [List.map_cons,List.sum_cons,Nat.mul_add];omega
theorem RI {α:Type}{f:α→Nat}:∀{l:List α} {x:α},x∈l→f x≤(l.map f).sum
 |y::l,x,h=>by
  simp only [List.map_cons,List.sum_cons];rcases List.mem_cons.1 h with rfl|h
  ·omega
  ·have:=RI (f:=f) h;omega
theorem RJ {α:Type}{f:α→Nat}:∀{l:List α},(∀x∈l,1≤f x)→l.length≤(l.map f).sum
 |[],_=>by simp
 |x::l,h=>by
  have h1:=h x (List.mem_cons_self ..);have h2:=RJ (l:=l) fun y hy=>h y (List.mem_cons_of_mem _ hy);simp only [List.map_cons,List.sum_cons,List.length_cons];omega
def mVl (v:TValue):Nat:=v.fText.length+1
def LZ (r:List TValue):Nat:=(r.map mVl).sum+1
def WT (f:TField):Nat:=f.fName.length+1
def WS (o:TOut):Nat:=(o.fFields.map WT).sum+(o.fRows.map LZ).sum+o.fTag.length
def WW (o:TOut):Prop:=∀r∈o.fRows,∀v∈r,okI v.fInt
theorem ABN {v:TValue}(h:okI v.fInt):(EO (BU true) v).fText.length≤v.fText.length+20:=by
 have hd:=AHf h;unfold EO;repeat' split
 all_goals (simp only [List.length_nil];try split) <;> simp <;> omega
theorem AGi {r:List TValue}(h:∀v∈r,okI v.fInt):Dq (IV (BU true) r)≤25 * LZ r:=by
 have h1:((r.map (EO (BU true))).map fun c=>4+c.fText.length).sum≤25 * (r.map mVl).sum:=by
  rw [List.map_map];refine Gj (fun v hv=>?_);have:=ABN (h v hv);simp only [Function.comp,mVl];omega
 simp only [Dq,IV,BZ,List.map_nil,List.sum_nil,List.length_nil,LZ];omega
theorem AKn (l:List TField):(l.map fun f=>f.fName.length+19).sum≤19 * (l.map WT).sum:=Gj fun f _=>by unfold WT;omega
theorem out_ok {o:TOut}(h:WS o≤2097152)(hi:WW o):OutOk o∧(∀m∈Bh (BU true) o,VX m)∧Dc (Bh (BU true) o)≤300000000:=by
 have hf:=AKn o.fFields;unfold WS at h;have hr:o.fRows.length≤(o.fRows.map LZ).sum:=RJ fun r _=>by unfold LZ;omega
 have hrow:∀r∈o.fRows,LZ r≤2097152:=fun r hr=>by have:=RI (f:=LZ) hr;omega
 have hvs:∀r:List TValue,r.length≤(r.map mVl).sum:=fun r=>RJ fun v _=>by unfold mVl;omega
 have hbk:∀m∈Bh (BU true) o,VX m∧(m.fKind=6→True):=by
  intro m hm;refine ⟨?_,fun _=>trivial⟩;unfold Bh at hm;rcases List.mem_append.1 hm with hm|hm
  ·split at hm
   ·rcases List.mem_cons.1 hm with rfl|hm
    ·refine ⟨?_,by show (0:Int)≤0;decide,by show (0:Int)≤255;decide,by show (0:Int)≤5;decide⟩;simp only [Dq,BZ,List.map_nil,List.sum_nil,List.length_nil];omega
    ·obtain ⟨r,hr2,rfl⟩:=List.mem_map.1 hm;refine ⟨?_,by show (0:Int)≤0;decide,by show (0:Int)≤255;decide,by show (0:Int)≤6;decide⟩;have h1:=AGi (hi r hr2);have h2:=hrow r hr2;show Dq (IV (BU true) r)≤_;omega
   ·cases hm
  ·rw [List.mem_singleton] at hm;subst hm;refine ⟨?_,by show (0:Int)≤0;decide,by show (0:Int)≤255;decide,by show (0:Int)≤7;decide⟩;simp only [Dq,BZ,List.map_nil,List.sum_nil,List.length_nil];omega
 refine ⟨⟨by omega,by omega,fun r hr2=>?_,hi,by omega⟩,fun m hm=>(hbk m hm).1,?_⟩
 ·have h1:=hrow r hr2;have h2:=hvs r;unfold LZ at h1;refine ⟨by omega,?_⟩;have h3:(r.map fun v=>v.fText.length+40).sum≤40 * (r.map mVl).sum:=Gj fun v _=>by unfold mVl;omega
  omega
 ·have happ:∀a b:List TBack,Dc (a++b)=Dc a+Dc b:=fun a b=>by simp [Dc]
  have hrows:Dc (o.fRows.map (IV (BU true)))≤125 * (o.fRows.map LZ).sum:=by
   unfold Dc;rw [List.map_map];refine Gj fun r hr2=>?_;have h1:=AGi (hi r hr2);have h2:=Ob (IV (BU true) r);have h3:1≤LZ r:=by unfold LZ;omega
   simp only [Function.comp];omega
  have hlast:=KH {fKind:=7,fText:=o.fTag};have hl2:Dq {fKind:=7,fText:=o.fTag}=o.fTag.length+2:=by simp [Dq,BZ]
  have hfirst:Dc [{fKind:=5,fFields:=o.fFields}]≤19 * (o.fFields.map WT).sum+102:=by
   have:=KH {fKind:=5,fFields:=o.fFields};have h5:Dq {fKind:=5,fFields:=o.fFields}=(o.fFields.map fun f=>f.fName.length+19).sum+2:=by simp [Dq,BZ]
   omega
  unfold Bh;rw [happ];split
  ·have e:Dc ({fKind:=5,fFields:=o.fFields}::o.fRows.map (IV (BU true)))=Dc [{fKind:=5,fFields:=o.fFields}]+Dc (o.fRows.map (IV (BU true))):=happ [_] _;have e2:(o.fRows.map fun r=>({fKind:=6,fCells:=r.map (EO (BU true))}:TBack))=o.fRows.map (IV (BU true)):=rfl;rw [e2,e];omega
  ·have:Dc []=0:=rfl;omega
abbrev z61:Array Value:=#[(Value.int .i64 0),(Value.int .i64 0),(Value.int .u8 0),(Value.slice none 0 0),(Value.bool false),(Value.slice none 0 0),(Value.int .i64 0),(Value.int .i64 0),(Value.bool false),(Value.slice none 0 0),(Value.slice none 0 0),(Value.int .i64 0),(Value.int .i64 0),(Value.bool false),(Value.int .i64 0),(Value.string (ByteArray.mk #[])),(Value.string (ByteArray.mk #[])),(Value.string (ByteArray.mk #[])),(Value.int .i64 0),(Value.int .i64 0),(Value.bool false),(Value.slice none 0 0),(Value.slice none 0 0),(Value.int .i64 0),(Value.int .i64 0),(Value.bool false),(Value.int .i64 0),(Value.string (ByteArray.mk #[])),(Value.string (ByteArray.mk #[])),(Value.string (ByteArray.mk #[])),(Value.int .i64 0),(Value.int .i64 0),(Value.bool false),(Value.slice none 0 0),(Value.slice none 0 0),(Value.int .i64 0),(Value.int .i64 0),(Value.string (ByteArray.mk #[])),(Value.slice none 0 0),(Value.slice none 0 0),(Value.slice none 0 0),(Value.int .i64 0),(Value.int .i64 0),(Value.bool false),(Value.int .i64 0),(Value.string (ByteArray.mk #[])),(Value.string (ByteArray.mk #[])),(Value.string (ByteArray.mk #[])),(Value.int .i64 0),(Value.int .i64 0),(Value.bool false),(Value.slice none 0 0),(Value.slice none 0 0),(Value.slice none 0 0),(Value.string (ByteArray.mk #[])),(Value.string (ByteArray.mk #[])),(Value.slice none 0 0),(Value.bool false),(Value.bool false),(Value.bool false),(Value.slice none 0 0)]
theorem ALH (p q:Int):Ad z61 #[(0,1),(1,1),(2,1),(3,1),(4,1),(5,1),(6,53),(59,1),(60,1)] [(0,.int .i64 p),(1,.int .i64 q)]=some (.agg (DX p q 0 (.slice none 0 0) false (.slice none 0 0) 0 z51 false false (.slice none 0 0)).toArray):=by kernel_rfl
theorem ABP (p q:Int):VD 1 #[.int .i64 0,.int .i64 0] [(0,.int .i64 p),(1,.int .i64 q)]=some (.agg #[.int .i64 p,.int .i64 q]):=by kernel_rfl
theorem ANa (p q:Int):AAj false 1 2 (.agg #[.int .i64 p,.int .i64 q]) (.int .i64 ((0:Nat):Int))=some (.int .i64 p):=by kernel_rfl
theorem ANZ (p q:Int):AAj false 1 2 (.agg #[.int .i64 p,.int .i64 q]) (.int .i64 ((1:Nat):Int))=some (.int .i64 q):=by kernel_rfl
section
variable {ω:Om}{I:Imm}{L F:LH}{K:Value→M}{s:Ses}{b:Nat}{X:LH}
theorem GV {G:Imm}(hP:VV G)(hTok:ED ω G)(hLim:QB ω){o:TOut}{c:List Value}(e:Int)[hsp:SplitL X L F](hG:Ext G I)(hS:SeM I s b X)(ho:TOutV I o c)(hmo:WS o≤2097152)(hio:WW o)(hn:BX s≤99999000000000)
  (hk:∀I' X' v,Ext I I'→SeM I' (Kv (BU true) s o e).1 b X'→Bytes I' v (Kv (BU true) s o e).2→K v I' (X'++F)):CT ω 12 #[Ai b,.agg c.toArray,.int .i64 e] K I L:=by
 obtain ⟨h1,h2,h3⟩:=out_ok hmo hio;exact TF hP hTok hLim e hG hS ho h1 h2 (by omega) hk
theorem MC [hsp:SplitL X L F](hS:SeM I s b X)(hk:K (.int .u8 s.status) I (X++F)):CT ω 10 #[Ai b] K I L:=by
 refine Cal.split X ?_;obtain ⟨vl,vs,vo,sc,XL,XO,rfl,h2,h3,h4,h5,h6⟩:=hS;refine ARJ ?_;unfold ANA;simp only [List.append_assoc,SSd,Nat.reduceAdd];refine rdb ?_;exact asc (A:=Gh (K _)) (Gh.done hk)
theorem Us [hsp:SplitL X L F](hS:SeM I s b X)(hk:K (.bool s.ended) I (X++F)):CT ω 16 #[Ai b] K I L:=by
 refine Cal.split X ?_;obtain ⟨vl,vs,vo,sc,XL,XO,rfl,h2,h3,h4,h5,h6⟩:=hS;refine ARD ?_;unfold AMw;simp only [List.append_assoc,SSd,Nat.reduceAdd];refine rdb ?_;exact asc (A:=Gh (K _)) (Gh.done hk)
theorem La [hsp:SplitL X L F](hS:SeM I s b X)(hk:K (.int .i64 (s.left.length:Nat)) I (X++F)):CT ω 23 #[Ai b] K I L:=by
 refine Cal.split X ?_;obtain ⟨vl,vs,vo,sc,XL,XO,rfl,h2,h3,h4,h5,h6⟩:=hS;obtain ⟨a,k,rfl⟩:=h2.form;refine ARB ?_;unfold AMu;simp only [List.append_assoc,SSd,Nat.reduceAdd];refine rdb ?_;try simp only [SSd,Nat.reduceAdd]
 exact asc (A:=Gh (K _)) (Gh.done hk)
theorem Ku [hsp:SplitL X L F](hS:SeM I s b X)(hk:∀sc:A51,K (Pm s.kind sc s.own) I (X++F)):CT ω 22 #[Ai b] K I L:=by
 refine Cal.split X ?_;obtain ⟨vl,vs,vo,sc,XL,XO,rfl,h2,h3,h4,h5,h6⟩:=hS;have hl:=sc.2.1;have h53:(.int .i64 s.kind::(sc.1++[.bool s.own]):List Value).length=53:=by simp [hl]
 have hone:∀u∈(.int .i64 s.kind::(sc.1++[.bool s.own]):List Value),u.oneCell'=true:=by
  intro u hu;rcases List.mem_cons.1 hu with rfl|hu
  ·rfl
  ·rcases List.mem_append.1 hu with hu|hu
   ·exact List.all_eq_true.1 sc.2.2 u hu
   ·rw [List.mem_singleton.1 hu];rfl
 refine ARC ?_;unfold AMv;simp only [List.append_assoc,SSd,Nat.reduceAdd];refine AZ (fun ba=>?_);refine rdP (.int .i64 s.kind::(sc.1++[.bool s.own])) ?_ h53 ?_
 ·unfold DX;have e:([.int .i64 s.pid,.int .i64 s.secret,.int .u8 s.status,vl,.bool s.query,vs,.int .i64 s.kind]++(sc.1++[.bool s.own,.bool s.ended,vo]):List Value).drop 6= .int .i64 s.kind::(sc.1++[.bool s.own,.bool s.ended,vo]):=rfl;rw [e,List.take_succ_cons,List.take_append,hl,List.take_of_length_le (by omega)];rfl
 refine stB h53 rfl hone ?_;refine Ed h53 ?_;refine Gh.to ((b,CO s.pid s.secret s.status vl s.query vs s.kind sc s.own s.ended vo)::(XL++(XO++F))) (asc (A:=Gh (K _)) (Gh.done (hk sc)))
theorem Oj (p q:Int)(hp: -2147483648≤p∧p≤2147483647)(hq: -2147483648≤q∧q≤2147483647)(hk:∀b X,SeM I {pid:=p,secret:=q} b X→K (.tuple #[Ai b,.int .i64 0]) I (X++L)):CT ω 8 #[.int .i64 p,.int .i64 q] K I L:=by
 refine ARc ?_;unfold sh8;simp only [ABP,SSd,Nat.reduceAdd];refine loop (fun m st I' L'=>∃k:Nat,k+m=2∧st=(Value.pointer none,Value.int .i64 0,Value.int .i64 (k:Nat),())∧I'=I∧L'=L) 2 ⟨0,rfl,rfl,rfl,rfl⟩ ?_;rintro m st I' L' ⟨k,hkm,rfl,rfl,rfl⟩;unfold ALV;try simp only [SSd,Nat.reduceAdd]
 have h3:k=0∨k=1∨k=2:=by omega
 rcases h3 with rfl|rfl|rfl
 ·simp only [show decide (((0:Nat):Int) < 2)=true from rfl,ANa,decide_eq_false (show ¬p < -2147483648 by omega),decide_eq_false (show ¬(2147483647:Int) < p by omega),show IntKind.i64.wrap (((0:Nat):Int)+1)=((1:Nat):Int) from rfl,SSd,Nat.reduceAdd];exact Gh.done ⟨1,by omega,1,rfl,rfl,rfl,rfl⟩
 ·simp only [show decide (((1:Nat):Int) < 2)=true from rfl,ANZ,decide_eq_false (show ¬q < -2147483648 by omega),decide_eq_false (show ¬(2147483647:Int) < q by omega),show IntKind.i64.wrap (((1:Nat):Int)+1)=((2:Nat):Int) from rfl,SSd,Nat.reduceAdd];exact Gh.done ⟨0,by omega,2,rfl,rfl,rfl,rfl⟩
 ·simp only [show decide (((2:Nat):Int) < 2)=false from rfl,SSd,Nat.reduceAdd];unfold ALU;refine ALK (ALH p q) ?_;refine AZ (fun b=>?_);exact Gh.done (hk b [(b,_)] ⟨_,_,_,z51,[],[],rfl,SlO.none _ _,RL.nil none 0,SlO.none _ _,by show (0:Int)≤0;decide,by show (0:Int)≤255;decide⟩)
end
section
variable {H:Type}{enc:TypeId×Value→H}{P:Program}{w:World}{T:TypeId}{cs:List Value}{d:DataW H}
def Td (enc:TypeId×Value→H)(P:Program)(w:World)(T:TypeId)(cs:List Value)(d:DataW H):Prop:=
 ∃(fuel:Nat) (ps:List MemPlace),DataW.trod enc P w 0 (fun _=>true) true fuel T cs=some (d,ps)
theorem LJ {k:IntKind}(hu:P.underlying T=some (.int k))(h:Td enc P w T cs d):∃n,cs=[.int k n]∧(Lit.int k n).wf=true:=by
 obtain ⟨fuel,ps,h⟩:=h;cases fuel with
 |zero=>simp [DataW.trod] at h
 |succ fuel=>
  simp only [DataW.trod,hu] at h;split at h <;> simp_all
theorem AJC (hu:P.underlying T=some .bool)(h:Td enc P w T cs d):∃b,cs=[.bool b]:=by
 obtain ⟨fuel,ps,h⟩:=h;cases fuel with
 |zero=>simp [DataW.trod] at h
 |succ fuel=>
  simp only [DataW.trod,hu] at h;split at h <;> simp_all
theorem AJA (hu:P.underlying T=some .string)(h:Td enc P w T cs d):∃s:ByteArray,cs=[.string s]∧s.size+1≤Rows.uptoBulk d:=by
 obtain ⟨fuel,ps,h⟩:=h;cases fuel with
 |zero=>simp [DataW.trod] at h
 |succ fuel=>
  simp only [DataW.trod,hu] at h;split at h <;> simp_all
  obtain ⟨_,rfl,_⟩:=h;exact Nat.le_refl _
theorem Vm (hu:P.underlying T=some .string)(h:Td enc P w T cs d):∃s:List UInt8,cs=[.string ⟨s.toArray⟩]∧s.length+1≤Rows.uptoBulk d:=by
 obtain ⟨s,h1,h2⟩:=AJA hu h;exact ⟨s.data.toList,by rw [h1],h2⟩
theorem Pg:∀{l:List (DataW H)} {i:Nat} {x:DataW H},l[i]? =some x→Rows.uptoBulk x≤Rows.uptoBulkAll l
 |[],_,_,h=>by simp at h
 |y::l,0,x,h=>by simp at h;subst h;simp [Rows.uptoBulkAll]
 |y::l,i+1,x,h=>by
  have:=Pg (l:=l) (i:=i) (by simpa using h);simp only [Rows.uptoBulkAll];omega
theorem JB {fs:Array Field}(hu:P.underlying T=some (.struct fs))(h:Td enc P w T cs d):cs.length=P.cellsOf T∧∃ds,d= .agg ds∧ds.length=fs.toList.length∧∀(i:Nat) (f:Field),fs.toList[i]? =some f→∃di,ds[i]? =some di∧Td enc P w f.type ((cs.drop f.offset).take (P.cellsOf f.type)) di:=by
 obtain ⟨fuel,ps,h⟩:=h;cases fuel with
 |zero=>simp [DataW.trod] at h
 |succ fuel=>
  have h':(if cs.length=P.cellsOf T then (fs.toList.mapM fun f=>DataW.trod enc P w 0 (fun _=>true) true fuel f.type ((cs.drop f.offset).take (P.cellsOf f.type))).map fun xs=>(DataW.agg (xs.map (·.1)),xs.flatMap (·.2)) else none)=some (d,ps):=by
   rw [←h];simp only [DataW.trod,hu]
  split at h'
  ·rename_i hlen
   refine ⟨hlen,?_⟩;obtain ⟨xs,hxs,hd⟩:=Option.map_eq_some_iff.1 h';simp only [Prod.mk.injEq] at hd;obtain ⟨rfl,_⟩:=hd;refine ⟨_,rfl,by rw [List.length_map,mapM_len _ _ hxs],fun i f hf=>?_⟩;obtain ⟨y,hy,hyd⟩:=Ii _ _ hxs i f hf;exact ⟨y.1,by rw [List.getElem?_map,hy];rfl,fuel,y.2,hyd⟩
  ·cases h'
theorem Jt {e:TypeId}(hu:P.underlying T=some (.slice e))(h:Td enc P w T cs d):
  ∃a len cap,cs=[.slice a len cap]∧len≤cap∧∃ds:List (DataW H),ds.length=len∧Rows.uptoBulkAll ds+1≤Rows.uptoBulk d∧
   ((a=none∧len=0∧cap=0)∨∃ad,a=some ad∧∀i,i < len→∃ec di,w.cells? 0 (ad.add (i * P.cellsOf e)) (P.cellsOf e)=some ec∧ds[i]? =some di∧Td enc P w e ec di):=by
 obtain ⟨fuel,ps,h⟩:=h;cases fuel with
 |zero=>simp [DataW.trod] at h
 |succ fuel=>
  simp only [DataW.trod,hu] at h;split at h <;> try (simp_all;done)
  ·refine ⟨none,0,0,rfl,Nat.le_refl _,[],rfl,?_,.inl ⟨rfl,rfl,rfl⟩⟩;exact bulk.one_le _
  ·rename_i e' ad len cap he
   simp only [Option.some.injEq,TypeDesc.slice.injEq] at he;subst he;split at h
   ·rename_i hc
    simp only [Option.bind_eq_some_iff] at h;obtain ⟨elems,hel,h⟩:=h;simp only [if_true,Option.map_eq_some_iff] at h;obtain ⟨rest,hrest,h⟩:=h;simp only [Prod.mk.injEq] at h;obtain ⟨rfl,_⟩:=h;have hlen:elems.length=len:=by have:=mapM_len _ _ hel;simpa using this
    refine ⟨some ad,len,cap,rfl,hc.2.1,elems.map (·.1),by rw [List.length_map,hlen],?_,.inr ⟨ad,rfl,fun i hi=>?_⟩⟩
    ·simp only [Rows.uptoBulk];omega
    ·obtain ⟨y,hy,hyd⟩:=Ii _ _ hel i i (List.getElem?_range hi);simp only [Option.bind_eq_some_iff] at hyd;obtain ⟨ec,h1,h2⟩:=hyd;exact ⟨ec,y.1,h1,by rw [List.getElem?_map,hy];rfl,fuel,y.2,h2⟩
   ·cases h
theorem ABe {e:TypeId}(hu:P.underlying T=some (.slice e))(hn:0 < P.cellsOf e){v:Value}(h:Td enc P w T [v] d):
  ∃cells len ds,SlI (DN w) (P.cellsOf e) v cells len∧ds.length=len∧Rows.uptoBulkAll ds+1≤Rows.uptoBulk d∧∀i,i < len→∃di,ds[i]? =some di∧Td enc P w e ((cells.drop (i * P.cellsOf e)).take (P.cellsOf e)) di:=by
 obtain ⟨a,len,cap,hcs,hle,ds,hds,hb,h2⟩:=Jt hu h;simp only [List.cons.injEq,and_true] at hcs;subst hcs;clear h;have h:=h2;generalize hN:P.cellsOf e=n at *;rcases h with ⟨rfl,rfl,rfl⟩|⟨ad,rfl,h⟩
 ·exact ⟨[],0,ds,SlI.nil _ _ _ _,hds,hb,fun i hi=>by omega⟩
 ·by_cases h0:len=0
  ·subst h0;exact ⟨[],0,ds,SlI.nil _ _ _ _,hds,hb,fun i hi=>by omega⟩
  ·have hcell:∀i,i < len→∀j,j < n→∃u,w.cell? ((ad.add (i * n)).add j)=some u:=by
    intro i hi j hj;obtain ⟨ec,_,hec,_⟩:=h i hi;unfold World.cells? at hec;split at hec
    ·obtain ⟨y,_,hy⟩:=Ii _ _ hec j j (List.getElem?_range hj);exact ⟨y,hy⟩
    ·cases hec
   obtain ⟨u0,hu0⟩:=hcell 0 (by omega) 0 hn;obtain ⟨b,off,sp⟩:=ad;have hsp:sp=none∧∃c T' fr,w.heap[b]? =some (.cells c T' fr):=by
    simp only [Addr.add,Nat.zero_mul,if_true] at hu0;unfold World.cell? at hu0;split at hu0
    ·rename_i c T' fr hb
     simp only at hu0 hb
     cases sp with
     |none=>exact ⟨rfl,c,T',fr,hb⟩
     |some s=>simp at hu0
    ·cases hu0
   obtain ⟨rfl,c,T',fr,hblk⟩:=hsp;have hget:∀i,i < len→∀j,j < n→∃u,c[off+i * n+j]? =some u:=by
    intro i hi j hj;obtain ⟨u,hu⟩:=hcell i hi j hj;rw [CX,CX] at hu;simp only [World.cell?,hblk] at hu;exact ⟨u,by simpa using hu⟩
   have hlast:=hget (len - 1) (by omega) (n - 1) (by omega);obtain ⟨ul,hul⟩:=hlast;have hsz:off+len * n≤c.size:=by
    have:=(Array.getElem?_eq_some_iff.1 hul).1;have e1:(len - 1) * n+n=len * n:=by rw [←Nat.succ_mul];congr 1;omega
    omega
   have hclen:((c.toList.drop off).take (len * n)).length=len * n:=by
    rw [List.length_take,List.length_drop,Array.length_toList];omega
   refine ⟨(c.toList.drop off).take (len * n),len,ds,⟨hclen,_,cap,rfl,hle,fun _=>⟨b,off,c,T',fr,rfl,hblk,fun j u hu=>?_⟩⟩,hds,hb,fun i hi=>?_⟩
   ·rw [List.getElem?_take] at hu;split at hu
    ·rw [List.getElem?_drop] at hu;simpa using hu
    ·cases hu
   ·obtain ⟨ec,di,hec,hdi,htr⟩:=h i hi;have:((((c.toList.drop off).take (len * n)).drop (i * n)).take n)=ec:=by
     unfold World.cells? at hec;split at hec
     ·apply List.ext_getElem?
      intro j;have hln:=mapM_len _ _ hec;simp only [List.length_range] at hln;have hin:i * n+n≤len * n:=by rw [←Nat.succ_mul];exact Nat.mul_le_mul_right n hi
      by_cases hj:j < n
      ·obtain ⟨y,hy,hcy⟩:=Ii _ _ hec j j (List.getElem?_range hj);rw [hy,List.getElem?_take,if_pos hj,List.getElem?_drop,List.getElem?_take,if_pos (by omega),List.getElem?_drop];rw [CX,CX] at hcy;simp only [World.cell?,hblk] at hcy;simp only [Array.getElem?_toList];rw [show off+(i * n+j)=off+i * n+j from by omega];simpa using hcy
      ·rw [List.getElem?_take,if_neg hj];rw [List.getElem?_eq_none (by omega)]
     ·cases hec
    rw [this];exact ⟨di,hdi,htr⟩
theorem Oa {α:Type}{R:α→List Value→Prop}{μ:α→Nat}{n:Nat}:∀(ds:List (DataW H)) (cells:List Value),cells.length=ds.length * n→(∀i di,ds[i]? =some di→∃x,R x ((cells.drop (i * n)).take n)∧μ x≤Rows.uptoBulk di)→∃xs:List α,xs.length=ds.length∧Recs R n xs cells∧(xs.map μ).sum≤Rows.uptoBulkAll ds
 |[],cells,hl,_=>⟨[],rfl,List.eq_nil_of_length_eq_zero (by simpa using hl),by simp [Rows.uptoBulkAll]⟩
 |d::ds,cells,hl,h=>by
  obtain ⟨x,hx,hm⟩:=h 0 d rfl;simp only [Nat.zero_mul,List.drop_zero] at hx;have hl':cells.length=ds.length * n+n:=by rw [hl,List.length_cons,Nat.add_mul];omega
  obtain ⟨xs,hxl,hR,hs⟩:=Oa (R:=R) (μ:=μ) (n:=n) ds (cells.drop n) (by rw [List.length_drop];omega) (fun i di hi=>by
   obtain ⟨y,hy,hm⟩:=h (i+1) di (by simpa using hi);refine ⟨y,?_,hm⟩;rw [List.drop_drop];rwa [show n+i * n=(i+1) * n from by rw [Nat.add_mul];omega])
  exact ⟨x::xs,by simp [hxl],⟨by rw [List.length_take];omega,hx,hR⟩,by simp only [List.map_cons,List.sum_cons,Rows.uptoBulkAll];omega⟩
theorem AJB {α:Type}{R:Imm→α→List Value→Prop}{μ:α→Nat}{e:TypeId}(hu:P.underlying T=some (.slice e))(hn:0 < P.cellsOf e){v:Value}(h:Td enc P w T [v] d)(hR:∀c di,Rows.uptoBulk di < Rows.uptoBulk d→Td enc P w e c di→∃x,R (DN w) x c∧μ x≤Rows.uptoBulk di):
  ∃xs:List α,RL R (P.cellsOf e) (DN w) [] v xs∧(xs.map μ).sum+1≤Rows.uptoBulk d:=by
 obtain ⟨cells,len,ds,hS,hds,hb,hT⟩:=ABe hu hn h;subst hds;obtain ⟨xs,hxl,hRR,hs⟩:=Oa (R:=R (DN w)) (μ:=μ) ds cells hS.1 (fun i di hi=>by
  obtain ⟨d2,h1,h2⟩:=hT i (by exact (List.getElem?_eq_some_iff.1 hi).1);rw [hi] at h1;simp only [Option.some.injEq] at h1;subst h1;exact hR _ _ (by have:=Pg hi;omega) h2)
 rw [←hxl] at hS;exact ⟨xs,RL.ofI hS hRR,by omega⟩
end
structure TStep where
 fDo:Int
 fB:Bs
 fO:TOut
 fE:Int
instance:Inhabited TStep:=⟨⟨0,[],default,0⟩⟩
theorem UI {α:Type}{R:α→List Value→Prop}{Q:α→Prop}{n:Nat}:∀{xs:List α} {cs:List Value},Recs (fun x c=>R x c∧Q x) n xs cs→Recs R n xs cs∧∀x∈xs,Q x
 |[],cs,h=>⟨h,nofun⟩
 |x::xs,cs,⟨h1,h2,h3⟩=>by
  obtain ⟨g1,g2⟩:=UI h3;exact ⟨⟨h1,h2.1,g1⟩,fun y hy=>by
   rcases List.mem_cons.1 hy with rfl|hy
   ·exact h2.2
   ·exact g2 y hy⟩
theorem ANJ {α:Type}{R:Imm→α→List Value→Prop}{Q:α→Prop}{n:Nat}{I:Imm}{v:Value}{xs:List α}(h:RL (fun I x c=>R I x c∧Q x) n I [] v xs):RL R n I [] v xs∧∀x∈xs,Q x:=by
 obtain ⟨a,cap,cells,h1,h2,h3,h4⟩:=h;obtain ⟨g1,g2⟩:=UI h4;exact ⟨⟨a,cap,cells,h1,h2,h3,g1⟩,g2⟩
section
variable {H:Type}{enc:TypeId×Value→H}{W:World}{cs:List Value}{d:DataW H}
theorem EF {P:Program}{w:World}{T:TypeId}{fs:Array Field}(hu:P.underlying T=some (.struct fs)){ds:List (DataW H)}(hf:∀(i:Nat) (f:Field),fs.toList[i]? =some f→∃di,ds[i]? =some di∧Td enc P w f.type ((cs.drop f.offset).take (P.cellsOf f.type)) di)(i:Nat){f:Field}(hi:fs.toList[i]? =some f){di:DataW H}(hdi:ds[i]? =some di){n:Nat}(hn:P.cellsOf f.type=n):Td enc P w f.type ((cs.drop f.offset).take n) di:=by
 obtain ⟨d2,h1,h2⟩:=hf i f hi;rw [hdi] at h1;simp only [Option.some.injEq] at h1;subst h1;subst hn;exact h2
theorem NI {α:Type}{R:Imm→α→List Value→Prop}{Q:α→Prop}{μ:α→Nat}{T:TypeId}(e:TypeId){n:Nat}(hu:Tryz.prog.underlying T=some (.slice e))(hn:Tryz.prog.cellsOf e=n)(h0:0 < n){v:Value}(h:Td enc Tryz.prog W T [v] d)(hR:∀c di,Rows.uptoBulk di < Rows.uptoBulk d→Td enc Tryz.prog W e c di→∃x,(R (DN W) x c∧Q x)∧μ x≤Rows.uptoBulk di):
  ∃xs:List α,RL R n (DN W) [] v xs∧(∀x∈xs,Q x)∧(xs.map μ).sum+1≤Rows.uptoBulk d:=by
 subst hn;obtain ⟨xs,h1,h2⟩:=AJB (R:=fun I x c=>R I x c∧Q x) hu h0 h hR;obtain ⟨g1,g2⟩:=ANJ h1;exact ⟨xs,g1,g2,h2⟩
theorem AAA (h:Td enc Tryz.prog W 62 cs d):∃x:TValue,cs=[.int .i64 x.fType,.bool x.fNull,.int .i64 x.fInt,.string ⟨x.fText.toArray⟩]∧okI x.fInt∧x.fText.length+1≤Rows.uptoBulk d:=by
 obtain ⟨hl,ds,rfl,hdl,hf⟩:=JB Tryz.underlying62 h;rw [show Tryz.prog.cellsOf 62=4 by kernel_rfl] at hl;obtain ⟨c0,c1,c2,c3,rfl⟩:∃c0 c1 c2 c3,cs=[c0,c1,c2,c3]:=by
  match cs,hl with
  |[c0,c1,c2,c3],_=>exact ⟨c0,c1,c2,c3,rfl⟩
 obtain ⟨d0,d1,d2,d3,rfl⟩:∃d0 d1 d2 d3,ds=[d0,d1,d2,d3]:=by
  match ds,(show ds.length=4 from hdl) with
  |[d0,d1,d2,d3],_=>exact ⟨d0,d1,d2,d3,rfl⟩
 clear hl hdl h;obtain ⟨n0,e0,w0⟩:=LJ (k:=.i64) (by kernel_rfl) (cs:=[c0]) (EF (di:=d0) Tryz.underlying62 hf 0 rfl rfl (n:=1) (by kernel_rfl));simp only [List.cons.injEq,and_true] at e0;subst e0;obtain ⟨n1,e1⟩:=AJC (by kernel_rfl) (cs:=[c1]) (EF (di:=d1) Tryz.underlying62 hf 1 rfl rfl (n:=1) (by kernel_rfl));simp only [List.cons.injEq,and_true] at e1;subst e1;obtain ⟨n2,e2,w2⟩:=LJ (k:=.i64) (by kernel_rfl) (cs:=[c2]) (EF (di:=d2) Tryz.underlying62 hf 2 rfl rfl (n:=1) (by kernel_rfl));simp only [List.cons.injEq,and_true] at e2;subst e2;obtain ⟨n3,e3,w3⟩:=Vm (by kernel_rfl) (cs:=[c3]) (EF (di:=d3) Tryz.underlying62 hf 3 rfl rfl (n:=1) (by kernel_rfl));simp only [List.cons.injEq,and_true] at e3;subst e3;refine ⟨⟨n0,n1,n2,n3⟩,rfl,wf_i64 w2,?_⟩;simp only [Rows.uptoBulk,Rows.uptoBulkAll];omega
theorem ANe (h:Td enc Tryz.prog W 144 cs d):∃x:TField,TFieldV (DN W) x cs∧WT x≤Rows.uptoBulk d:=by
 obtain ⟨hl,ds,rfl,hdl,hf⟩:=JB Tryz.underlying144 h;rw [show Tryz.prog.cellsOf 144=2 by kernel_rfl] at hl;obtain ⟨c0,c1,rfl⟩:∃c0 c1,cs=[c0,c1]:=by
  match cs,hl with
  |[c0,c1],_=>exact ⟨c0,c1,rfl⟩
 obtain ⟨d0,d1,rfl⟩:∃d0 d1,ds=[d0,d1]:=by
  match ds,(show ds.length=2 from hdl) with
  |[d0,d1],_=>exact ⟨d0,d1,rfl⟩
 clear hl hdl h;obtain ⟨n0,e0,w0⟩:=Vm (by kernel_rfl) (cs:=[c0]) (EF (di:=d0) Tryz.underlying144 hf 0 rfl rfl (n:=1) (by kernel_rfl));simp only [List.cons.injEq,and_true] at e0;subst e0;obtain ⟨n1,e1,w1⟩:=LJ (k:=.i64) (by kernel_rfl) (cs:=[c1]) (EF (di:=d1) Tryz.underlying144 hf 1 rfl rfl (n:=1) (by kernel_rfl));simp only [List.cons.injEq,and_true] at e1;subst e1;refine ⟨⟨n0,n1⟩,rfl,?_⟩;simp only [WT,Rows.uptoBulk,Rows.uptoBulkAll];omega
theorem AQF (h:Td enc Tryz.prog W 62 cs d):∃x:TValue,(VlV (DN W) x cs∧okI x.fInt)∧mVl x≤Rows.uptoBulk d:=by
 obtain ⟨x,h1,h2,h3⟩:=AAA h;exact ⟨x,⟨h1,h2⟩,h3⟩
theorem AKS (h:Td enc Tryz.prog W 111 cs d):∃r:List TValue,(Ky VlV 4 (DN W) r cs∧∀v∈r,okI v.fInt)∧LZ r≤Rows.uptoBulk d:=by
 obtain ⟨a,len,cap,rfl,_⟩:=Jt (e:=62) (by kernel_rfl) h;obtain ⟨xs,h1,h2,h3⟩:=NI (R:=VlV) (Q:=fun v=>okI v.fInt) (μ:=mVl) 62 (by kernel_rfl) (n:=4) (by kernel_rfl) (by decide) h (fun c di _ hc=>AQF hc);exact ⟨xs,⟨⟨_,rfl,h1⟩,h2⟩,h3⟩
theorem TW {T:TypeId}(hu:Tryz.prog.underlying T=some (.slice 5)){v:Value}(h:Td enc Tryz.prog W T [v] d):∃l:Bs,Bytes (DN W) v l∧l.length+1≤Rows.uptoBulk d:=by
 obtain ⟨cells,len,ds,hS,hds,hb,hT⟩:=ABe hu (show 0 < Tryz.prog.cellsOf 5 by decide+kernel) h;have h1:Tryz.prog.cellsOf 5=1:=by kernel_rfl
 rw [h1] at hS hT;subst hds;obtain ⟨xs,hxl,hR,hs⟩:=Oa (R:=fun (x:UInt8) c=>c=[.int .u8 x.toNat]) (μ:=fun _=>1) (n:=1) ds cells hS.1 (fun i di hi=>by
  obtain ⟨d2,h1,h2⟩:=hT i (by exact (List.getElem?_eq_some_iff.1 hi).1);rw [hi] at h1;simp only [Option.some.injEq] at h1;subst h1;obtain ⟨n,e,hw⟩:=LJ (k:=.u8) (by kernel_rfl) h2;have:=wf_u8 hw;refine ⟨UInt8.ofNat n.toNat,?_,bulk.one_le _⟩;rw [e];have:((UInt8.ofNat n.toNat).toNat:Int)=n:=by simp;omega
  rw [this])
 have hc:∀(xs:List UInt8) (cells:List Value),Recs (fun (x:UInt8) c=>c=[.int .u8 x.toNat]) 1 xs cells→cells=u8s xs:=by
  intro xs;induction xs with
  |nil=>intro cells h;exact h
  |cons x xs ih=>
   intro cells h;obtain ⟨g1,g2,g3⟩:=h;have:=ih _ g3;rw [←List.take_append_drop 1 cells,g2,this];rfl
 have:=hc xs cells hR;subst this;rw [←hxl] at hS;refine ⟨xs,hS,?_⟩;have hl:∀ys:List UInt8,(ys.map fun _=>1).sum=ys.length:=by
  intro ys;induction ys with
  |nil=>rfl
  |cons x ys ih=>simp only [List.map_cons,List.sum_cons,List.length_cons,ih];omega
 have h2:=hl xs;have h3:(xs.map fun _=>1).sum≤Rows.uptoBulkAll ds:=hs;rw [h2] at h3;omega
theorem ANN (h:Td enc Tryz.prog W 42 cs d):∃x:TOut,(TOutV (DN W) x cs∧WW x)∧WS x≤Rows.uptoBulk d:=by
 obtain ⟨hl,ds,rfl,hdl,hf⟩:=JB Tryz.underlying42 h;rw [show Tryz.prog.cellsOf 42=5 by kernel_rfl] at hl;obtain ⟨c0,c1,c2,c3,c4,rfl⟩:∃c0 c1 c2 c3 c4,cs=[c0,c1,c2,c3,c4]:=by
  match cs,hl with
  |[c0,c1,c2,c3,c4],_=>exact ⟨c0,c1,c2,c3,c4,rfl⟩
 obtain ⟨d0,d1,d2,d3,d4,rfl⟩:∃d0 d1 d2 d3 d4,ds=[d0,d1,d2,d3,d4]:=by
  match ds,(show ds.length=5 from hdl) with
  |[d0,d1,d2,d3,d4],_=>exact ⟨d0,d1,d2,d3,d4,rfl⟩
 clear hl hdl h;obtain ⟨a0,l0,k0,e0,_⟩:=Jt (e:=371) (by kernel_rfl) (cs:=[c0]) (EF (di:=d0) Tryz.underlying42 hf 0 rfl rfl (n:=1) (by kernel_rfl));simp only [List.cons.injEq,and_true] at e0;subst e0;obtain ⟨a1,l1,k1,e1,_⟩:=Jt (e:=373) (by kernel_rfl) (cs:=[c1]) (EF (di:=d1) Tryz.underlying42 hf 1 rfl rfl (n:=1) (by kernel_rfl));simp only [List.cons.injEq,and_true] at e1;subst e1;obtain ⟨n2,h2,q2,w2⟩:=NI (R:=TFieldV) (Q:=fun _=>True) (μ:=WT) 144 (by kernel_rfl) (n:=2) (by kernel_rfl) (by decide) (v:=c2) (EF (di:=d2) Tryz.underlying42 hf 2 rfl rfl (n:=1) (by kernel_rfl)) (fun c di _ hc=>by obtain ⟨x,g1,g2⟩:=ANe hc;exact ⟨x,⟨g1,trivial⟩,g2⟩);obtain ⟨n3,h3,q3,w3⟩:=NI (R:=(Ky VlV 4)) (Q:=fun r=>∀v∈r,okI v.fInt) (μ:=LZ) 111 (by kernel_rfl) (n:=1) (by kernel_rfl) (by decide) (v:=c3) (EF (di:=d3) Tryz.underlying42 hf 3 rfl rfl (n:=1) (by kernel_rfl)) (fun c di _ hc=>AKS hc);obtain ⟨n4,e4,w4⟩:=Vm (by kernel_rfl) (cs:=[c4]) (EF (di:=d4) Tryz.underlying42 hf 4 rfl rfl (n:=1) (by kernel_rfl));simp only [List.cons.injEq,and_true] at e4;subst e4;refine ⟨⟨n2,n3,n4⟩,⟨⟨_,_,_,_,rfl,rfl,rfl,h2,h3⟩,q3⟩,?_⟩;simp only [WS,Rows.uptoBulk,Rows.uptoBulkAll];omega
def TG (I:Imm)(x:TStep)(c:List Value):Prop:=∃vb co,c= .int .i64 x.fDo::vb::(co++[.int .i64 x.fE])∧Bytes I vb x.fB∧TOutV I x.fO co
def MK (x:TStep):Nat:=x.fB.length+WS x.fO+1
theorem AJG (h:Td enc Tryz.prog W 44 cs d):∃x:TStep,(TG (DN W) x cs∧WW x.fO)∧MK x≤Rows.uptoBulk d:=by
 obtain ⟨hl,ds,rfl,hdl,hf⟩:=JB Tryz.underlying44 h;rw [show Tryz.prog.cellsOf 44=8 by kernel_rfl] at hl;obtain ⟨c0,c1,c2,c3,c4,c5,c6,c7,rfl⟩:∃c0 c1 c2 c3 c4 c5 c6 c7,cs=[c0,c1,c2,c3,c4,c5,c6,c7]:=by
  match cs,hl with
  |[c0,c1,c2,c3,c4,c5,c6,c7],_=>exact ⟨c0,c1,c2,c3,c4,c5,c6,c7,rfl⟩
 obtain ⟨d0,d1,d2,d3,rfl⟩:∃d0 d1 d2 d3,ds=[d0,d1,d2,d3]:=by
  match ds,(show ds.length=4 from hdl) with
  |[d0,d1,d2,d3],_=>exact ⟨d0,d1,d2,d3,rfl⟩
 clear hl hdl h;obtain ⟨n0,e0,w0⟩:=LJ (k:=.i64) (by kernel_rfl) (cs:=[c0]) (EF (di:=d0) Tryz.underlying44 hf 0 rfl rfl (n:=1) (by kernel_rfl));simp only [List.cons.injEq,and_true] at e0;subst e0;obtain ⟨n1,h1,w1⟩:=TW (by kernel_rfl) (v:=c1) (EF (di:=d1) Tryz.underlying44 hf 1 rfl rfl (n:=1) (by kernel_rfl));obtain ⟨n2,⟨⟨x0,x1,vf,vr,e2,g0,g1,g2,g3⟩,q2⟩,w2⟩:=ANN (cs:=[c2,c3,c4,c5,c6]) (EF (di:=d2) Tryz.underlying44 hf 2 rfl rfl (n:=5) (by kernel_rfl));simp only [List.cons.injEq,and_true] at e2;obtain ⟨rfl,rfl,rfl,rfl,rfl⟩:=e2;obtain ⟨n3,e3,w3⟩:=LJ (k:=.i64) (by kernel_rfl) (cs:=[c7]) (EF (di:=d3) Tryz.underlying44 hf 3 rfl rfl (n:=1) (by kernel_rfl));simp only [List.cons.injEq,and_true] at e3;subst e3;refine ⟨⟨n0,n1,n2,n3⟩,⟨⟨c1,_,rfl,h1,c2,c3,c4,c5,rfl,g0,g1,g2,g3⟩,q2⟩,?_⟩;simp only [MK,Rows.uptoBulk,Rows.uptoBulkAll];omega
end
section
variable {P:Program}{ω:Om}{K:Value→M}{I:Imm}{L:LH}
theorem Uz {f:FuncId}{args cap:Array Value}(he:CJ P f=true)(h:Cal P ω f (args++cap) K I L):CalV P ω (.func (.func f) #[] cap) args K I L:=by
 unfold CalV;simp only [he,if_true];simpa using h
end
theorem CalV.to {P:Program}{ω:Om}{K:Value→M}{I:Imm}{L:LH}{x:Value}{args:Array Value}(L':LH)[hs:SubP L' L](h:CalV P ω x args K I L'):CalV P ω x args K I L:=by
 have key:∀w,St ω w I L→St ω w I L':=fun w hw=>by
  obtain ⟨R,hR⟩:=hs.sub;exact (hw.perm hR).drop (List.sublist_append_left L' R)
 match x,h with
 | .func (.func f) first cap,h=>
  simp only [CalV] at h ⊢;by_cases he:CJ P f=true
  ·rw [if_pos he] at h ⊢;exact fun w hw=>h w (key w hw)
  ·rw [if_neg he] at h ⊢;cases hx:PI P f with
   |none=>rw [hx] at h;exact h.elim
   |some e=>
    rw [hx] at h;exact fun w hw=>h w (key w hw)
 | .func (.yield l) first cap,h=>exact fun w hw=>h w (key w hw)
abbrev DI (n:Int):Obj:=.cells [.int .i64 n].toArray 3 (0,0)
abbrev doV (b1 b2:Nat):Value:=.func (.func 197) #[] #[Ai b1,Ai b2]
abbrev doO (b1 b2:Nat):Obj:=.cells [doV b1 b2].toArray 277 (0,0)
abbrev inV (bd bi:Nat):Value:=.func (.func 237) #[] #[Ai bd,Ai bi]
abbrev inO (bd bi:Nat):Obj:=.cells [inV bd bi].toArray 277 (0,0)
def mxI (a b:Int):Int:=if b > a then b else a
theorem ANQ (a b:Int):mxI a b=max a b:=by unfold mxI;omega
section
variable {ω:Om}{K:Value→M}{I:Imm}{F:LH}
theorem AKw {b1 b2:Nat}{p d n:Int}{c:List Value}(hc:c.length=11)(hp:0≤p∧p≤1000000000000000000)(hk:K (.tuple #[]) I ((b1,DI (p+1))::(b2,DI (max d n))::F)):
  CW ω (doV b1 b2) #[.agg c.toArray,.int .i64 n] K I ((b1,DI p)::(b2,DI d)::F):=by
 refine Uz (by kernel_rfl) ?_;refine AOy ?_;show YH ω (.agg c.toArray) (.int .i64 n) (Ai b1) (Ai b2) _ I _;unfold YH;refine AZ (fun b=>?_);rw [←ANQ] at hk;unfold mxI at hk;repeat' (first|(with_reducible first|refine Aw ?_|refine Ag ?_|refine Ak ?_|refine keepA ?_|refine AZ (fun _=>?_)|refine rdb ?_)|((with_reducible first|refine st1 ?_ ?_|refine rdB ?_ ?_);rfl)|(with_reducible refine Ah ?_)|((with_reducible refine BB ?_ ?_);rfl)|((with_reducible refine stB ?_ ?_ ?_ ?_);rfl;rfl;exact AL rfl)|((with_reducible first|refine rdP _ rfl ?_ ?_|refine BC _ rfl ?_ ?_);rfl)|((with_reducible refine stP _ rfl ?_ ?_ ?_ ?_);rfl;rfl;rfl)|(with_reducible refine And.intro ?_ ?_)|(simp only [SSg,Int.reduceBEq,Int.reduceBNe,Int.reduceLT,Int.reduceLE,beq_self_eq_true,bne_self_eq_false])|(with_reducible first|refine AP (fun _=>?_) (fun _=>?_)|refine AB (fun _=>?_) (fun _=>?_))|(simp only [SSd,Nat.reduceAdd,wrap_i64 (p+1) (by omega)]))
 exact Gh.to _ (Gh.done hk)
theorem UM {l:List Ex}{k:Nat}(h:k < l.length):Aj (l.take (k+1))=Aj (l.take k)+BA l[k]:=by
 rw [List.take_succ_eq_append_getElem h,Cf];simp [Aj]
theorem Gv:∀a b:List Ex,Bi (a++b)=max (Bi a) (Bi b)
 |[],b=>by simp [Bi]
 |x::a,b=>by simp only [List.cons_append,Bi,Gv a b];omega
theorem Wi {l:List Ex}{k:Nat}(h:k < l.length):Bi (l.take (k+1))=max (Bi (l.take k)) (Fb l[k]):=by
 rw [List.take_succ_eq_append_getElem h,Gv];simp [Bi]
theorem ABB (x:Ex):1≤Fb x:=by cases x;simp [Fb]
theorem QY (x:Ex):1≤BA x:=by cases x;simp [BA]
theorem QZ {x:Ex}:∀{l:List Ex},x∈l→BA x≤Aj l
 |y::l,h=>by
  rcases List.mem_cons.1 h with rfl|h
  ·simp only [Aj];omega
  ·have:=QZ h;simp only [Aj];omega
mutual
theorem PM:∀x:Ex,Fb x≤BA x
 | .mk _ _ _ _ _ _ _ l=>by simp only [Fb,BA];have:=MV l;omega
theorem MV:∀l:List Ex,Bi l≤Aj l
 |[]=>by simp [Bi]
 |x::l=>by simp only [Bi,Aj];have:=PM x;have:=MV l;omega
end
theorem WJ (x:Ex):BA x=Aj x.args+1:=by cases x;rfl
theorem ABA (x:Ex):Fb x=Bi x.args+1:=by cases x;rfl
theorem ZC {b1 b2 bd bi:Nat}:∀(m:Nat) (x:Ex),BA x≤m→∀(p d n:Int) (c:List Value) (K:Value→M) (I:Imm) (F:LH),ExV I x c→0≤p→p+BA x≤1000000000000000000→0≤n→n+Fb x≤1000000000000000000→
  K (.tuple #[]) I ((b1,DI (p+BA x))::(b2,DI (max d (n+Fb x - 1)))::(bd,doO b1 b2)::(bi,inO bd bi)::F)→
  CW ω (inV bd bi) #[.agg c.toArray,.int .i64 n] K I ((b1,DI p)::(b2,DI d)::(bd,doO b1 b2)::(bi,inO bd bi)::F)
 |0,x,hm,_,_,_,_,_,_,_,_,_,_,_,_,_=>by have:=QY x;omega
 |m+1,x,hm,p,d,n,c,K,I,F,hx,hp,hpx,hn,hnx,hk=>by
  refine Uz (by kernel_rfl) ?_;refine AOY ?_;show Xg ω (.agg c.toArray) (.int .i64 n) (Ai bd) (Ai bi) _ I _;have hcl:=hx.len;obtain ⟨v,rfl,ha⟩:=ExV.iff.1 hx;unfold Xg;refine AZ (fun b=>?_);try simp only [SSd,Nat.reduceAdd]
  refine rdb ?_;refine rdB rfl ?_;refine Qx ?_;refine CalV.to ((b1,DI p)::(b2,DI d)::(b,.cells (BR x v).toArray 65 (0,0))::(bd,doO b1 b2)::(bi,inO bd bi)::F) ?_;refine AKw hcl ⟨hp,by omega⟩ ?_;try simp only [SSd,Nat.reduceAdd]
  refine rdb ?_;simp only [RL.len ha,SSd,Nat.reduceAdd];have h1:=WJ x;have h2:=ABA x;refine loop (fun q s I' L'=>∃k:Nat,k+q=x.args.length∧s=(.int .i64 k,())∧I'=I∧L'=(b1,DI (p+1+Aj (x.args.take k)))::(b2,DI (max (max d n) (n+Bi (x.args.take k))))::(b,.cells (BR x v).toArray 65 (0,0))::(bd,doO b1 b2)::(bi,inO bd bi)::F) x.args.length ⟨0,by omega,rfl,rfl,by rw [show p+1+((Aj (x.args.take 0):Nat):Int)=p+1 by simp [Aj],show max (max d n) (n+((Bi (x.args.take 0):Nat):Int))=max d n by simp only [List.take_zero,Bi];omega]⟩ ?_;rintro q s I' L' ⟨k,hkq,rfl,rfl,rfl⟩;unfold Xf;try simp only [SSd,Nat.reduceAdd]
  have hle:x.args.length≤Aj x.args:=by
   generalize x.args=l;induction l with
   |nil=>simp
   |cons y l ih=>have:=QY y;simp only [Aj,List.length_cons];omega
  refine AB (fun hb=>?_) (fun hb=>?_)
  ·have hb:k < x.args.length:=by
    have:=of_decide_eq_true hb;omega
   obtain ⟨bt,off,c1,g1,gl,g2,g3⟩:=RL.ix ha (i:=k) (by omega) (by omega);rw [BM hb] at g2;have hcl1:=ExV.len g2;have hm1:=QZ (List.getElem_mem hb);have hone:=ExV.one g2;simp only [g1,SSd,Nat.reduceAdd];refine SK (g3 _ [] (Ext.refl _) (fun _ h=>h)) (Ext.refl _) hcl1 ?_;refine AZ (fun b3=>?_);refine stB hcl1 rfl hone ?_;refine rdb ?_;refine rdB hcl1 ?_;simp only [wrap_i64 (n+1) (by omega),SSd,Nat.reduceAdd];refine Qx ?_;refine CalV.to ((b1,DI (p+1+Aj (x.args.take k)))::(b2,DI (max (max d n) (n+Bi (x.args.take k))))::(bd,doO b1 b2)::(bi,inO bd bi)::(b3,.cells c1.toArray 65 (0,0))::(b,.cells (BR x v).toArray 65 (0,0))::F) ?_;have htk:=UM hb;have htd:=Wi hb;have hts:Aj (x.args.take (k+1))≤Aj x.args:=by
    have h:=Cf (x.args.take (k+1)) (x.args.drop (k+1));rw [List.take_append_drop] at h;omega
   have hdl:Fb x.args[k]≤Bi x.args:=by
    have h:=Gv (x.args.take (k+1)) (x.args.drop (k+1));rw [List.take_append_drop] at h;omega
   refine ZC m x.args[k] (by omega) _ _ (n+1) c1 _ _ _ g2 (by omega) (by omega) (by omega) (by omega) ?_;simp only [wrap_i64 ((k:Int)+1) (by omega),SSd,Nat.reduceAdd];rw [←show p+1+(Aj (x.args.take (k+1)):Int)=p+1+Aj (x.args.take k)+BA x.args[k] by omega,←show max (max d n) (n+(Bi (x.args.take (k+1)):Int))=max (max (max d n) (n+Bi (x.args.take k))) (n+1+Fb x.args[k] - 1) by omega];refine Gh.to ((b1,DI (p+1+Aj (x.args.take (k+1))))::(b2,DI (max (max d n) (n+Bi (x.args.take (k+1)))))::(b,.cells (BR x v).toArray 65 (0,0))::(bd,doO b1 b2)::(bi,inO bd bi)::F) ?_;exact Gh.done ⟨q - 1,by omega,k+1,by omega,rfl,rfl,rfl⟩
  ·have hb:¬k < x.args.length:=by
    have:=of_decide_eq_false hb;omega
   have hkl:x.args.take k=x.args:=List.take_of_length_le (by omega);rw [hkl];rw [←show p+(BA x:Int)=p+1+Aj x.args by omega,←show max d (n+(Fb x:Int) - 1)=max (max d n) (n+Bi x.args) by omega];exact Gh.to ((b1,DI (p+BA x))::(b2,DI (max d (n+Fb x - 1)))::(bd,doO b1 b2)::(bi,inO bd bi)::F) (Gh.done hk)
end
def GL (I:Imm)(X:LH)(v:Value)(xs:List Ex):Prop:=∃cells,GrO I 65 11 X v cells xs.length∧Recs (ExV I) 11 xs cells
theorem GL.mono {I I':Imm}{X:LH}{v:Value}{xs:List Ex}(h:GL I X v xs)(hI:Ext I I'):GL I' X v xs:=by
 obtain ⟨cells,h1,h2⟩:=h;exact ⟨cells,h1.mono hI,Recs.imp (fun _ _ h=>ExV.mono hI h) h2⟩
theorem GL.rl {I:Imm}{X L:LH}{v:Value}{xs:List Ex}(h:GL I X v xs)(hL:∀x∈X,x∈L):RL ExV 11 I L v xs:=by
 obtain ⟨cells,h1,h2⟩:=h;obtain ⟨a,k,rfl,hle⟩:=h1.form;exact ⟨a,k,cells,rfl,hle,h1.news hL,h2⟩
section
variable {ω:Om}{K:Value→M}{I:Imm}{F:LH}
instance splitNiA (L:LH):SplitL [] L L:=⟨List.Perm.refl _⟩
theorem Fa {X L:LH}[SplitL X L F]{z:Array Value}{xs ys:List Ex}{s x:Value}(hz:z.size=11)(hG:GL I X s xs)(hy:ExL I x ys)(hb:xs.length+ys.length≤1000000000000)(hk:∀X' v',GL I X' v' (xs++ys)→K v' I (X'++F)):
  App 65 11 128 z s x (gh K) I L:=by
 obtain ⟨cells,h1,h2⟩:=hG;obtain ⟨c,s4,r4⟩:=RL.toI (by decide) hy;refine APy (X:=X) hz h1 s4.news (Recs.one_cells (fun _ _ h=>ExV.one h) r4) (by omega) (by omega) (fun X' v' h=>hk X' v' ⟨_,by rw [List.length_append];exact h,Recs.append h2 r4⟩)
theorem Pi {z:Array Value}{x:Ex}{c:List Value}(hx:ExV I x c)(hk:∀I' a,Ext I I'→ExL I' (.slice a 1 1) [x]→Gh (K (.slice a 1 1)) I' F):AU 65 11 z 1 [(0,.agg c.toArray)] (gh K) I F:=
 Ea (R:=ExV) [x] [c] rfl rfl rfl (by simp [hx.len]) (by simpa using hx) (fun hI h=>ExV.mono hI h) hk
theorem ANh {X:LH}{vs w:Value}{p2 p4:Value}{ys:List TItem}{xs:List Ex}(hy:RL TItemV 14 I [] vs ys)(hG:GL I X w xs)(hb:xs.length+ys.length≤1000000000000)
  (hk:∀I' X' w',Ext I I'→GL I' X' w' (xs++ys.map fun y=>y.fExpr)→Rx ω p2 p4 w' K I' (X'++F)):
  BF ((w,.int .i64 0,()):Value×Value×Unit) (fun s Kn=>Ry ω p2 p4 vs (.int .i64 ys.length) s.1 s.2.1 Kn K) I (X++F):=by
 refine loop (fun q st I' L'=>∃k X' v',k+q=ys.length∧st=(v',.int .i64 (k:Nat),())∧Ext I I'∧GL I' X' v' (xs++(ys.take k).map fun y=>y.fExpr)∧L'=X'++F) ys.length ⟨0,X,w,by omega,rfl,Ext.refl _,by simpa using hG,rfl⟩ ?_;rintro q st I' L' ⟨k,X',v',hkq,rfl,hI',hG',rfl⟩;unfold Ry;try simp only [SSd,Nat.reduceAdd]
 refine AB (fun hb=>?_) (fun hb=>?_)
 ·have hb:k < ys.length:=by
   have:=of_decide_eq_true hb;omega
  obtain ⟨bt,off,c1,g1,gl,g2,g3⟩:=RL.ix hy (i:=k) (by omega) (by omega);rw [BM hb] at g2;obtain ⟨v0,rfl,h0⟩:=g2.mono hI';simp only [g1,SSd,Nat.reduceAdd];refine SK (g3 _ [] hI' (fun _ h=>h)) (Ext.refl _) rfl ?_;refine AZ (fun b3=>?_);obtain ⟨a0,k0,rfl⟩:=RL.form h0;refine stB rfl rfl (AL rfl) ?_;try simp only [SSd,Nat.reduceAdd]
  refine rdP _ rfl rfl ?_;refine Pi (x:=ys[k].fExpr) (ExV.iff.2 ⟨_,rfl,h0⟩) (fun I2 a2 hI2 hw2=>Gh.done ?_);refine Fa (X:=X') rfl (hG'.mono hI2) hw2 (by simp;omega) (fun X3 w3 hG3=>?_);simp only [wrap_i64 ((k:Int)+1) (by omega),SSd,Nat.reduceAdd];refine Gh.to (X3++F) (Gh.done ⟨q - 1,by omega,k+1,X3,w3,by omega,rfl,Ext.trans hI' hI2,?_,rfl⟩);rw [List.take_succ_eq_append_getElem hb,List.map_append,←List.append_assoc];exact hG3
 ·have hb:¬k < ys.length:=by
   have:=of_decide_eq_false hb;omega
  rw [List.take_of_length_le (by omega)] at hG';exact hk I' X' v' hI' hG'
theorem ANg {X:LH}{vs w:Value}{p2 p4:Value}{ys:List TSource}{xs:List Ex}(hy:RL TSourceV 14 I [] vs ys)(hG:GL I X w xs)(hb:xs.length+ys.length≤1000000000000)
  (hk:∀I' X' w',Ext I I'→GL I' X' w' (xs++ys.map fun y=>y.fOn)→Ru ω p2 p4 w' K I' (X'++F)):
  BF ((w,.int .i64 0,()):Value×Value×Unit) (fun s Kn=>Rw ω p2 p4 vs (.int .i64 ys.length) s.1 s.2.1 Kn K) I (X++F):=by
 refine loop (fun q st I' L'=>∃k X' v',k+q=ys.length∧st=(v',.int .i64 (k:Nat),())∧Ext I I'∧GL I' X' v' (xs++(ys.take k).map fun y=>y.fOn)∧L'=X'++F) ys.length ⟨0,X,w,by omega,rfl,Ext.refl _,by simpa using hG,rfl⟩ ?_;rintro q st I' L' ⟨k,X',v',hkq,rfl,hI',hG',rfl⟩;unfold Rw;try simp only [SSd,Nat.reduceAdd]
 refine AB (fun hb=>?_) (fun hb=>?_)
 ·have hb:k < ys.length:=by
   have:=of_decide_eq_true hb;omega
  obtain ⟨bt,off,c1,g1,gl,g2,g3⟩:=RL.ix hy (i:=k) (by omega) (by omega);rw [BM hb] at g2;obtain ⟨v0,rfl,h0⟩:=g2.mono hI';simp only [g1,SSd,Nat.reduceAdd];refine SK (g3 _ [] hI' (fun _ h=>h)) (Ext.refl _) rfl ?_;refine AZ (fun b3=>?_);obtain ⟨a0,k0,rfl⟩:=RL.form h0;refine stB rfl rfl (AL rfl) ?_;try simp only [SSd,Nat.reduceAdd]
  refine rdP _ rfl rfl ?_;refine Pi (x:=ys[k].fOn) (ExV.iff.2 ⟨_,rfl,h0⟩) (fun I2 a2 hI2 hw2=>Gh.done ?_);refine Fa (X:=X') rfl (hG'.mono hI2) hw2 (by simp;omega) (fun X3 w3 hG3=>?_);simp only [wrap_i64 ((k:Int)+1) (by omega),SSd,Nat.reduceAdd];refine Gh.to (X3++F) (Gh.done ⟨q - 1,by omega,k+1,X3,w3,by omega,rfl,Ext.trans hI' hI2,?_,rfl⟩);rw [List.take_succ_eq_append_getElem hb,List.map_append,←List.append_assoc];exact hG3
 ·have hb:¬k < ys.length:=by
   have:=of_decide_eq_false hb;omega
  rw [List.take_of_length_le (by omega)] at hG';exact hk I' X' v' hI' hG'
theorem ANf {X:LH}{vs w:Value}{p2 p4:Value}{ys:List TOrder}{xs:List Ex}(hy:RL TOrderV 12 I [] vs ys)(hG:GL I X w xs)(hb:xs.length+ys.length≤1000000000000)
  (hk:∀I' X' w',Ext I I'→GL I' X' w' (xs++ys.map fun y=>y.fExpr)→Rq ω p2 p4 w' K I' (X'++F)):
  BF ((w,.int .i64 0,()):Value×Value×Unit) (fun s Kn=>Rt ω p2 p4 vs (.int .i64 ys.length) s.1 s.2.1 Kn K) I (X++F):=by
 refine loop (fun q st I' L'=>∃k X' v',k+q=ys.length∧st=(v',.int .i64 (k:Nat),())∧Ext I I'∧GL I' X' v' (xs++(ys.take k).map fun y=>y.fExpr)∧L'=X'++F) ys.length ⟨0,X,w,by omega,rfl,Ext.refl _,by simpa using hG,rfl⟩ ?_;rintro q st I' L' ⟨k,X',v',hkq,rfl,hI',hG',rfl⟩;unfold Rt;try simp only [SSd,Nat.reduceAdd]
 refine AB (fun hb=>?_) (fun hb=>?_)
 ·have hb:k < ys.length:=by
   have:=of_decide_eq_true hb;omega
  obtain ⟨bt,off,c1,g1,gl,g2,g3⟩:=RL.ix hy (i:=k) (by omega) (by omega);rw [BM hb] at g2;obtain ⟨v0,rfl,h0⟩:=g2.mono hI';simp only [g1,SSd,Nat.reduceAdd];refine SK (g3 _ [] hI' (fun _ h=>h)) (Ext.refl _) rfl ?_;refine AZ (fun b3=>?_);obtain ⟨a0,k0,rfl⟩:=RL.form h0;refine stB rfl rfl (AL rfl) ?_;try simp only [SSd,Nat.reduceAdd]
  refine rdP _ rfl rfl ?_;refine Pi (x:=ys[k].fExpr) (ExV.iff.2 ⟨_,rfl,h0⟩) (fun I2 a2 hI2 hw2=>Gh.done ?_);refine Fa (X:=X') rfl (hG'.mono hI2) hw2 (by simp;omega) (fun X3 w3 hG3=>?_);simp only [wrap_i64 ((k:Int)+1) (by omega),SSd,Nat.reduceAdd];refine Gh.to (X3++F) (Gh.done ⟨q - 1,by omega,k+1,X3,w3,by omega,rfl,Ext.trans hI' hI2,?_,rfl⟩);rw [List.take_succ_eq_append_getElem hb,List.map_append,←List.append_assoc];exact hG3
 ·have hb:¬k < ys.length:=by
   have:=of_decide_eq_false hb;omega
  rw [List.take_of_length_le (by omega)] at hG';exact hk I' X' v' hI' hG'
theorem AKu {X:LH}{vs w:Value}{p2 p4:Value}{ys:List TSet}{xs:List Ex}(hy:RL TSetV 12 I [] vs ys)(hG:GL I X w xs)(hb:xs.length+ys.length≤1000000000000)
  (hk:∀I' X' w',Ext I I'→GL I' X' w' (xs++ys.map fun y=>y.fExpr)→OQ ω p2 p4 w' K I' (X'++F)):
  BF ((w,.int .i64 0,()):Value×Value×Unit) (fun s Kn=>OT ω p2 p4 vs (.int .i64 ys.length) s.1 s.2.1 Kn K) I (X++F):=by
 refine loop (fun q st I' L'=>∃k X' v',k+q=ys.length∧st=(v',.int .i64 (k:Nat),())∧Ext I I'∧GL I' X' v' (xs++(ys.take k).map fun y=>y.fExpr)∧L'=X'++F) ys.length ⟨0,X,w,by omega,rfl,Ext.refl _,by simpa using hG,rfl⟩ ?_;rintro q st I' L' ⟨k,X',v',hkq,rfl,hI',hG',rfl⟩;unfold OT;try simp only [SSd,Nat.reduceAdd]
 refine AB (fun hb=>?_) (fun hb=>?_)
 ·have hb:k < ys.length:=by
   have:=of_decide_eq_true hb;omega
  obtain ⟨bt,off,c1,g1,gl,g2,g3⟩:=RL.ix hy (i:=k) (by omega) (by omega);rw [BM hb] at g2;obtain ⟨v0,rfl,h0⟩:=g2.mono hI';simp only [g1,SSd,Nat.reduceAdd];refine SK (g3 _ [] hI' (fun _ h=>h)) (Ext.refl _) rfl ?_;refine AZ (fun b3=>?_);obtain ⟨a0,k0,rfl⟩:=RL.form h0;refine stB rfl rfl (AL rfl) ?_;try simp only [SSd,Nat.reduceAdd]
  refine rdP _ rfl rfl ?_;refine Pi (x:=ys[k].fExpr) (ExV.iff.2 ⟨_,rfl,h0⟩) (fun I2 a2 hI2 hw2=>Gh.done ?_);refine Fa (X:=X') rfl (hG'.mono hI2) hw2 (by simp;omega) (fun X3 w3 hG3=>?_);simp only [wrap_i64 ((k:Int)+1) (by omega),SSd,Nat.reduceAdd];refine Gh.to (X3++F) (Gh.done ⟨q - 1,by omega,k+1,X3,w3,by omega,rfl,Ext.trans hI' hI2,?_,rfl⟩);rw [List.take_succ_eq_append_getElem hb,List.map_append,←List.append_assoc];exact hG3
 ·have hb:¬k < ys.length:=by
   have:=of_decide_eq_false hb;omega
  rw [List.take_of_length_le (by omega)] at hG';exact hk I' X' v' hI' hG'
theorem AKt {X:LH}{vs w:Value}{p4:Value}{ys:List TCol}{xs:List Ex}(hy:RL TColV 16 I [] vs ys)(hG:GL I X w xs)(hb:xs.length+ys.length≤1000000000000)
  (hk:∀I' X' w',Ext I I'→GL I' X' w' (xs++ys.map fun y=>y.fDefault)→KC ω p4 w' K I' (X'++F)):
  BF ((w,.int .i64 0,()):Value×Value×Unit) (fun s Kn=>OO ω p4 vs (.int .i64 ys.length) s.1 s.2.1 Kn K) I (X++F):=by
 refine loop (fun q st I' L'=>∃k X' v',k+q=ys.length∧st=(v',.int .i64 (k:Nat),())∧Ext I I'∧GL I' X' v' (xs++(ys.take k).map fun y=>y.fDefault)∧L'=X'++F) ys.length ⟨0,X,w,by omega,rfl,Ext.refl _,by simpa using hG,rfl⟩ ?_;rintro q st I' L' ⟨k,X',v',hkq,rfl,hI',hG',rfl⟩;unfold OO;try simp only [SSd,Nat.reduceAdd]
 refine AB (fun hb=>?_) (fun hb=>?_)
 ·have hb:k < ys.length:=by
   have:=of_decide_eq_true hb;omega
  obtain ⟨bt,off,c1,g1,gl,g2,g3⟩:=RL.ix hy (i:=k) (by omega) (by omega);rw [BM hb] at g2;obtain ⟨v0,rfl,h0⟩:=g2.mono hI';simp only [g1,SSd,Nat.reduceAdd];refine SK (g3 _ [] hI' (fun _ h=>h)) (Ext.refl _) rfl ?_;refine AZ (fun b3=>?_);obtain ⟨a0,k0,rfl⟩:=RL.form h0;refine stB rfl rfl (AL rfl) ?_;try simp only [SSd,Nat.reduceAdd]
  refine rdP _ rfl rfl ?_;refine Pi (x:=ys[k].fDefault) (ExV.iff.2 ⟨_,rfl,h0⟩) (fun I2 a2 hI2 hw2=>Gh.done ?_);refine Fa (X:=X') rfl (hG'.mono hI2) hw2 (by simp;omega) (fun X3 w3 hG3=>?_);simp only [wrap_i64 ((k:Int)+1) (by omega),SSd,Nat.reduceAdd];refine Gh.to (X3++F) (Gh.done ⟨q - 1,by omega,k+1,X3,w3,by omega,rfl,Ext.trans hI' hI2,?_,rfl⟩);rw [List.take_succ_eq_append_getElem hb,List.map_append,←List.append_assoc];exact hG3
 ·have hb:¬k < ys.length:=by
   have:=of_decide_eq_false hb;omega
  rw [List.take_of_length_le (by omega)] at hG';exact hk I' X' v' hI' hG'
theorem AKv {X:LH}{vs w:Value}{p2 p4:Value}{ys:List (List Ex)}{xs:List Ex}(hy:RL (Ky ExV 11) 1 I [] vs ys)(hyl:ys.length≤1000000000000)(hG:GL I X w xs)(hb:xs.length+ys.flatten.length≤1000000000000)
  (hk:∀I' X' w',Ext I I'→GL I' X' w' (xs++ys.flatten)→OU ω p2 p4 w' K I' (X'++F)):
  BF ((w,.int .i64 0,()):Value×Value×Unit) (fun s Kn=>OV ω p2 p4 vs (.int .i64 ys.length) s.1 s.2.1 Kn K) I (X++F):=by
 refine loop (fun q st I' L'=>∃k X' v',k+q=ys.length∧st=(v',.int .i64 (k:Nat),())∧Ext I I'∧GL I' X' v' (xs++(ys.take k).flatten)∧L'=X'++F) ys.length ⟨0,X,w,by omega,rfl,Ext.refl _,by simpa using hG,rfl⟩ ?_;rintro q st I' L' ⟨k,X',v',hkq,rfl,hI',hG',rfl⟩;unfold OV;try simp only [SSd,Nat.reduceAdd]
 refine AB (fun hb=>?_) (fun hb=>?_)
 ·have hb:k < ys.length:=by
   have:=of_decide_eq_true hb;omega
  obtain ⟨bt,off,c1,g1,gl,g2,g3⟩:=RL.ix hy (i:=k) (by omega) (by omega);rw [BM hb] at g2;obtain ⟨v0,rfl,h0⟩:=LstX.mono g2 hI';simp only [g1,SSd,Nat.reduceAdd];refine rdC (g3 _ [] hI' (fun _ h=>h) 0 _ rfl) (Ext.refl _) ?_;have hfl:(ys.take (k+1)).flatten=(ys.take k).flatten++ys[k]:=by rw [List.take_succ_eq_append_getElem hb,List.flatten_append];simp only [List.flatten_cons,List.flatten_nil,List.append_nil]
  have hle:(ys.take (k+1)).flatten.length≤ys.flatten.length:=by
   have h:ys.flatten=(ys.take (k+1)).flatten++(ys.drop (k+1)).flatten:=by rw [←List.flatten_append,List.take_append_drop]
   rw [h,List.length_append];omega
  rw [hfl,List.length_append] at hle;refine Fa (X:=X') rfl hG' h0 (by simp only [List.length_append];omega) (fun X3 w3 hG3=>?_);simp only [wrap_i64 ((k:Int)+1) (by omega),SSd,Nat.reduceAdd];refine Gh.to (X3++F) (Gh.done ⟨q - 1,by omega,k+1,X3,w3,by omega,rfl,hI',?_,rfl⟩);rw [hfl,←List.append_assoc];exact hG3
 ·have hb:¬k < ys.length:=by
   have:=of_decide_eq_false hb;omega
  rw [List.take_of_length_le (by omega)] at hG';exact hk I' X' v' hI' hG'
def Bl (x:Ex):Bool:=x.kind != 0
def AIq (s:TStmt):List Ex:=[s.fWhere,s.fSelect.fWhere,s.fSelect.fHaving]++s.fSelect.fGroup++s.fSelect.fItems.map (fun y=>y.fExpr)++s.fSelect.fFrom.map (fun y=>y.fOn)++s.fSelect.fOrder.map (fun y=>y.fExpr)++s.fRows.flatten++s.fSets.map (fun y=>y.fExpr)++s.fCols.map (fun y=>y.fDefault)
theorem XF (s:TStmt):Aj ((AIq s).filter Bl)=Aj (Ez s)∧Bi ((AIq s).filter Bl)=Bi (Ez s):=by
 have e:∀l:List Ex,l.filter (fun x=>x.kind != 0)=l.filter Bl:=fun l=>rfl;have c:∀(x:Ex) (l:List Ex),x::l=[x]++l:=fun _ _=>rfl;simp only [Ez,e,AIq];rw [c s.fWhere,c s.fSelect.fWhere [s.fSelect.fHaving],c s.fSelect.fWhere [_,_],c s.fSelect.fHaving [_]];simp only [List.filter_append,Cf,Gv];constructor
 ·omega
 ·ac_rfl
theorem AKs {X:LH}{y:Nat×Obj}{b1 b2 bd bi:Nat}{w:Value}{xs:List Ex}{p d:Int}(hG:GL I X w xs)(hp:0≤p)(hd:0≤d)(hpx:p+Aj (xs.filter Bl)≤100000000000000000)(hlen:xs.length≤1000000000000)
  (hk:Gh (K (.tuple #[])) I ((b1,DI (p+Aj (xs.filter Bl)))::(b2,DI (max d (Bi (xs.filter Bl))))::F)):
  KC ω (Ai bi) w (fun v=>Gh (K v)) I (X++((bi,inO bd bi)::(bd,doO b1 b2)::y::(b1,DI p)::(b2,DI d)::F)):=by
 unfold KC;have hR:RL ExV 11 I X w xs:=hG.rl (fun _ h=>h);simp only [RL.len hR,SSd,Nat.reduceAdd];refine loop (fun q s I' L'=>∃k:Nat,k+q=xs.length∧s=(.int .i64 k,())∧I'=I∧L'=X++((bi,inO bd bi)::(bd,doO b1 b2)::y::(b1,DI (p+Aj ((xs.take k).filter Bl)))::(b2,DI (max d (Bi ((xs.take k).filter Bl))))::F)) xs.length ⟨0,by omega,rfl,rfl,by
  rw [show p+((Aj ((xs.take 0).filter Bl):Nat):Int)=p by simp [Aj],show max d ((Bi ((xs.take 0).filter Bl):Nat):Int)=d by simp only [List.take_zero,List.filter_nil,Bi];omega]⟩ ?_
 rintro q s I' L' ⟨k,hkq,rfl,rfl,rfl⟩;unfold Tq;try simp only [SSd,Nat.reduceAdd]
 refine AB (fun hb=>?_) (fun hb=>?_)
 ·have hb:k < xs.length:=by
   have:=of_decide_eq_true hb;omega
  obtain ⟨bt,off,c1,g1,gl,g2,g3⟩:=RL.ix hR (i:=k) (by omega) (by omega);rw [BM hb] at g2;have hts:=List.take_succ_eq_append_getElem hb;have hple:Aj ((xs.take (k+1)).filter Bl)≤Aj (xs.filter Bl):=by
   have h:xs.filter Bl=(xs.take (k+1)).filter Bl++(xs.drop (k+1)).filter Bl:=by rw [←List.filter_append,List.take_append_drop]
   rw [h,Cf];omega
  have hstep:∀{Y:LH},SubP (X++((bi,inO bd bi)::(bd,doO b1 b2)::y::(b1,DI (p+Aj ((xs.take (k+1)).filter Bl)))::(b2,DI (max d (Bi ((xs.take (k+1)).filter Bl))))::F)) Y→KA ω (.int .i64 k) (fun s'=>Gh fun I2 L2=>∃m',m' < q∧∃k:Nat,k+m'=xs.length∧s'=(.int .i64 k,())∧I2=I'∧L2=X++((bi,inO bd bi)::(bd,doO b1 b2)::y::(b1,DI (p+Aj ((xs.take k).filter Bl)))::(b2,DI (max d (Bi ((xs.take k).filter Bl))))::F)) (fun v=>Gh (K v)) I' Y:=by
   intro Y hY;unfold KA;simp only [wrap_i64 ((k:Int)+1) (by omega),SSd,Nat.reduceAdd];exact Gh.to _ (Gh.done ⟨q - 1,by omega,k+1,by omega,rfl,rfl,rfl⟩)
  obtain ⟨v0,rfl,h0⟩:=ExV.iff.1 g2;simp only [g1,SSd,Nat.reduceAdd];refine rdN rfl (g3 _ _ (Ext.refl _) (fun x hx=>by simp [hx])) ?_;refine AZ (fun b3=>?_);obtain ⟨a0,k0,rfl⟩:=RL.form h0;refine stB rfl rfl (AL rfl) ?_;try simp only [SSd,Nat.reduceAdd]
  refine rdb ?_;try simp only [SSd,Nat.reduceAdd]
  refine AB (fun ht=>?_) (fun ht=>?_)
  ·have ht':Bl xs[k]=true:=ht;rw [hts,List.filter_append,List.filter_cons_of_pos ht',List.filter_nil,Cf,Gv] at hstep;rw [hts,List.filter_append,List.filter_cons_of_pos ht',List.filter_nil,Cf] at hple;simp only [Aj,Bi] at hstep hple;refine rdb ?_;refine rdB rfl ?_;refine Qx ?_;refine CalV.to ((b1,DI (p+Aj ((xs.take k).filter Bl)))::(b2,DI (max d (Bi ((xs.take k).filter Bl))))::(bd,doO b1 b2)::(bi,inO bd bi)::(X++(y::F))) ?_;have hdp:=PM xs[k];have hdpos:=ABB xs[k];refine ZC _ xs[k] (Nat.le_refl _) _ _ 1 _ _ _ _ g2 (by omega) (by omega) (by omega) (by omega) ?_;refine hstep ?_;rw [show p+((Aj ((xs.take k).filter Bl)+(BA xs[k]+0):Nat):Int)=p+Aj ((xs.take k).filter Bl)+BA xs[k] by omega,show max d ((max (Bi ((xs.take k).filter Bl)) (max (Fb xs[k]) 0):Nat):Int)=max (max d (Bi ((xs.take k).filter Bl))) (1+Fb xs[k] - 1) by omega];infer_instance
  ·have ht':¬Bl xs[k]=true:=by
    intro h;rw [show (xs[k].kind != 0)=true from h] at ht;cases ht
   rw [hts,List.filter_append,List.filter_cons_of_neg ht',List.filter_nil,List.append_nil] at hstep;exact hstep inferInstance
 ·have hb:¬k < xs.length:=by
   have:=of_decide_eq_false hb;omega
  rw [List.take_of_length_le (by omega)];exact Gh.to _ hk
theorem AAx {b1 b2:Nat}{p d:Int}{s:TStmt}{c:List Value}(hs:TStmtV I s c)(hcnt:cS s≤1000000000)(hp:0≤p)(hd:0≤d)(hpx:p+Aj (Ez s)≤100000000000000000)
  (hk:∀I',Ext I I'→K (.tuple #[]) I' ((b1,DI (p+Aj (Ez s)))::(b2,DI (max d (Bi (Ez s))))::F)):
  CT ω 196 #[.agg c.toArray,doV b1 b2] K I ((b1,DI p)::(b2,DI d)::F):=by
 obtain ⟨v0,v1,v2,v3,v4,v5,v6,v7,v8,v9,v10,v11,v12,rfl,h0,h1,h2,h3,h4,h5,h6,h7,h8,h9,h10,h11,h12⟩:=hs;obtain ⟨a0,k0,rfl⟩:=RL.form h0;obtain ⟨a1,k1,rfl⟩:=RL.form h1;obtain ⟨a2,k2,rfl⟩:=RL.form h2;obtain ⟨a3,k3,rfl⟩:=RL.form h3;obtain ⟨a4,k4,rfl⟩:=RL.form h4;obtain ⟨a5,k5,rfl⟩:=RL.form h5;obtain ⟨a7,k7,rfl⟩:=RL.form h7;obtain ⟨a8,k8,rfl⟩:=RL.form h8;obtain ⟨a9,k9,rfl⟩:=RL.form h9;obtain ⟨a10,k10,rfl⟩:=RL.form h10;simp only [cS,cQ] at hcnt;refine AOz ?_;unfold AET;refine AZ (fun bs=>?_);refine AZ (o:=doO b1 b2) (fun bd=>?_);refine AZ (fun bi=>?_);refine st1 rfl ?_;try simp only [SSd,Nat.reduceAdd]
 refine rdP _ rfl rfl ?_;refine rdP _ rfl rfl ?_;refine rdP _ rfl rfl ?_;refine Ea (R:=ExV) [s.fWhere,s.fSelect.fWhere,s.fSelect.fHaving] [_,_,_] rfl rfl rfl (by simp) (by
  intro q hq;simp only [List.zip_cons_cons,List.zip_nil_right,List.mem_cons,List.not_mem_nil,or_false] at hq;rcases hq with rfl|rfl|rfl
  ·exact ExV.iff.2 ⟨_,rfl,h9⟩
  ·exact ExV.iff.2 ⟨_,rfl,h2⟩
  ·exact ExV.iff.2 ⟨_,rfl,h4⟩) (fun hI h=>ExV.mono hI h) (fun I1 aw hI1 hw1=>Gh.done ?_)
 obtain ⟨c1,s1,r1⟩:=RL.toI (by decide) hw1;have hG1:GL I1 [] (.slice aw 3 3) [s.fWhere,s.fSelect.fWhere,s.fSelect.fHaving]:=⟨c1,.inr ⟨rfl,⟨aw,rfl⟩,s1⟩,r1⟩;refine rdb ?_;refine Fa (X:=[]) rfl hG1 (ExL.mono h3 hI1) (by simp only [List.length_cons,List.length_nil];omega) (fun X2 w2 hG2=>?_);refine rdb ?_;simp only [RL.len h0,SSd,Nat.reduceAdd];refine ANh (X:=X2) (RL.mono (fun _ _ h=>TItemV.mono h hI1) h0 hI1 (fun _ h=>h)) hG2 (by simp only [List.length_append,List.length_cons,List.length_nil];omega) (fun I3 X3 w3 hI3 hG3=>?_);unfold Rx;try simp only [SSd,Nat.reduceAdd]
 refine rdb ?_;try simp only [SSd,Nat.reduceAdd]
 have hI13:=Ext.trans hI1 hI3;refine ANg (X:=X3) (RL.mono (fun _ _ h=>TSourceV.mono h hI13) h1 hI13 (fun _ h=>h)) hG3 (by simp only [List.length_append,List.length_cons,List.length_nil,List.length_map];omega) (fun I4 X4 w4 hI4 hG4=>?_);unfold Ru;try simp only [SSd,Nat.reduceAdd]
 refine rdb ?_;try simp only [SSd,Nat.reduceAdd]
 have hI14:=Ext.trans hI13 hI4;refine ANf (X:=X4) (RL.mono (fun _ _ h=>TOrderV.mono h hI14) h5 hI14 (fun _ h=>h)) hG4 (by simp only [List.length_append,List.length_cons,List.length_nil,List.length_map];omega) (fun I5 X5 w5 hI5 hG5=>?_);unfold Rq;try simp only [SSd,Nat.reduceAdd]
 refine rdb ?_;try simp only [SSd,Nat.reduceAdd]
 have hI15:=Ext.trans hI14 hI5;refine AKv (X:=X5) (RL.mono (fun _ _ h=>LstX.mono h hI15) h7 hI15 (fun _ h=>h)) (by omega) hG5 (by simp only [List.length_append,List.length_cons,List.length_nil,List.length_map];omega) (fun I6 X6 w6 hI6 hG6=>?_);unfold OU;try simp only [SSd,Nat.reduceAdd]
 refine rdb ?_;try simp only [SSd,Nat.reduceAdd]
 have hI16:=Ext.trans hI15 hI6;refine AKu (X:=X6) (RL.mono (fun _ _ h=>TSetV.mono h hI16) h8 hI16 (fun _ h=>h)) hG6 (by simp only [List.length_append,List.length_cons,List.length_nil,List.length_map];omega) (fun I7 X7 w7 hI7 hG7=>?_);unfold OQ;try simp only [SSd,Nat.reduceAdd]
 refine rdb ?_;try simp only [SSd,Nat.reduceAdd]
 have hI17:=Ext.trans hI16 hI7;refine AKt (X:=X7) (RL.mono (fun _ _ h=>TColV.mono h hI17) h10 hI17 (fun _ h=>h)) hG7 (by simp only [List.length_append,List.length_cons,List.length_nil,List.length_map];omega) (fun I8 X8 w8 hI8 hG8=>?_);have hI18:=Ext.trans hI17 hI8;have hA:([s.fWhere,s.fSelect.fWhere,s.fSelect.fHaving]++s.fSelect.fGroup++s.fSelect.fItems.map (fun y=>y.fExpr)++s.fSelect.fFrom.map (fun y=>y.fOn)++s.fSelect.fOrder.map (fun y=>y.fExpr)++s.fRows.flatten++s.fSets.map (fun y=>y.fExpr)++s.fCols.map (fun y=>y.fDefault))=AIq s:=rfl;rw [hA] at hG8;have hlen:(AIq s).length≤1000000000000:=by simp only [←hA,List.length_append,List.length_cons,List.length_nil,List.length_map];omega
 obtain ⟨q1,q2⟩:=XF s;refine AKs hG8 hp hd (by rw [q1];exact hpx) hlen ?_;rw [q1,q2];exact Gh.done (hk I8 hI18)
end
theorem UN {l:List TStmt}{k:Nat}(h:k < l.length):BJ (l.take (k+1))=BJ (l.take k)+Jc l[k]:=by
 rw [List.take_succ_eq_append_getElem h];simp only [BJ,List.map_append,List.sum_append,List.map_cons,List.map_nil,List.sum_cons,List.sum_nil,Nat.add_zero]
theorem Qn:∀a b:List TStmt,Di (a++b)=max (Di a) (Di b)
 |[],b=>by simp [Di]
 |x::a,b=>by simp only [List.cons_append,Di,Qn a b];omega
theorem Wj {l:List TStmt}{k:Nat}(h:k < l.length):Di (l.take (k+1))=max (Di (l.take k)) (AHe l[k]):=by
 rw [List.take_succ_eq_append_getElem h,Qn];simp [Di]
theorem AAX {l:List TStmt}(k:Nat):BJ (l.take k)≤BJ l:=by
 have h:BJ l=BJ (l.take k)+BJ (l.drop k):=by
  unfold BJ;rw [←List.sum_append,←List.map_append,List.take_append_drop]
 omega
theorem Oc:∀l:List TStmt,l.length≤BJ l
 |[]=>Nat.zero_le _
 |s::l=>by
  have:=Oc l;simp only [BJ,List.map_cons,List.sum_cons,List.length_cons,Jc] at this ⊢;omega
section
variable {ω:Om}
theorem AAK {I:Imm}{L:LH}{K:Value→M}{v:Value}{l:List TStmt}(hl:RL TStmtV 51 I [] v l)(hp:BJ l≤1000000000)(hc:∀s∈l,cS s≤1000000000)
  (hk:∀I',Ext I I'→K (.tuple #[.int .i64 (BJ l:Nat),.int .i64 (Di l:Nat)]) I' L):CT ω 156 #[v] K I L:=by
 refine APP ?_;unfold AEz;simp only [RL.len hl,SSd,Nat.reduceAdd];refine AZ (fun b1=>?_);refine AZ (fun b2=>?_);refine st1 rfl ?_;refine st1 rfl ?_;have hlen:=Oc l;refine loop (fun q st I' L'=>∃k:Nat,k+q=l.length∧st=(.int .i64 k,())∧Ext I I'∧L'=(b2,DI (Di (l.take k)))::(b1,DI (BJ (l.take k)+(l.length - k)))::L) l.length ⟨0,by omega,rfl,Ext.refl _,?_⟩ ?_
 ·rw [show ((BJ (l.take 0):Nat):Int)+((l.length:Int) - (0:Nat))=l.length by simp [BJ]];rfl
 rintro q st I' L' ⟨k,hkq,rfl,hI',rfl⟩;unfold YS;try simp only [SSd,Nat.reduceAdd]
 refine AB (fun hb=>?_) (fun hb=>?_)
 ·have hb:k < l.length:=by
   have:=of_decide_eq_true hb;omega
  obtain ⟨bt,off,c1,g1,gl,g2,g3⟩:=RL.ix hl (i:=k) (by omega) (by omega);rw [BM hb] at g2;have g2:=g2.mono hI';have hone:=TStmtV.one g2;simp only [g1,SSd,Nat.reduceAdd];refine SK (g3 _ [] hI' (fun _ h=>h)) (Ext.refl _) gl ?_;refine AZ (fun b3=>?_);refine stB gl rfl hone ?_;refine rdB gl ?_;refine call ?_;have hcs:=hc _ (List.getElem_mem hb);have hpk:=UN hb;have hdk:=Wj hb;have hle:=AAX (l:=l) (k+1);have e1:Jc l[k]=Aj (Ez l[k])+1:=rfl;refine Cal.to ((b1,DI (BJ (l.take k)+(l.length - k)))::(b2,DI (Di (l.take k)))::L) ?_;refine AAx g2 hcs (by omega) (by omega) (by omega) (fun I2 hI2=>?_);simp only [wrap_i64 ((k:Int)+1) (by omega),SSd,Nat.reduceAdd];rw [show (BJ (l.take k):Int)+((l.length:Int) - k)+Aj (Ez l[k])=BJ (l.take (k+1))+((l.length:Int) - (k+1:Nat)) by omega,show max (Di (l.take k):Int) (Bi (Ez l[k]))=Di (l.take (k+1)) by rw [hdk];simp only [AHe];omega];exact Gh.to ((b2,DI (Di (l.take (k+1))))::(b1,DI (BJ (l.take (k+1))+(l.length - (k+1:Nat))))::L) (Gh.done ⟨q - 1,by omega,k+1,by omega,rfl,Ext.trans hI' hI2,rfl⟩)
 ·have hb:¬k < l.length:=by
   have:=of_decide_eq_false hb;omega
  have hkl:l.take k=l:=List.take_of_length_le (by omega);rw [hkl,show (BJ l:Int)+((l.length:Int) - k)=BJ l by omega];unfold YR;repeat' (first|(with_reducible first|refine Aw ?_|refine Ag ?_|refine Ak ?_|refine keepA ?_|refine AZ (fun _=>?_)|refine rdb ?_)|((with_reducible first|refine st1 ?_ ?_|refine rdB ?_ ?_);rfl)|(with_reducible refine Ah ?_)|((with_reducible refine BB ?_ ?_);rfl)|((with_reducible refine stB ?_ ?_ ?_ ?_);rfl;rfl;exact AL rfl)|((with_reducible first|refine rdP _ rfl ?_ ?_|refine BC _ rfl ?_ ?_);rfl)|((with_reducible refine stP _ rfl ?_ ?_ ?_ ?_);rfl;rfl;rfl)|(with_reducible refine And.intro ?_ ?_)|(simp only [SSg,Int.reduceBEq,Int.reduceBNe,Int.reduceLT,Int.reduceLE,beq_self_eq_true,bne_self_eq_false])|(with_reducible first|refine AP (fun _=>?_) (fun _=>?_)|refine AB (fun _=>?_) (fun _=>?_))|(simp only [SSd,Nat.reduceAdd]))
  exact Gh.to _ (Gh.done (hk I' hI'))
theorem AHQ:QB ω:=by
 intro v l K I L hl hp hc hk;refine APc ?_;unfold AFZ;refine call (AAK hl hp hc (fun I' hI'=>?_));have hk:=hk I' hI';unfold Sl at hk;try simp only [SSd,Nat.reduceAdd]
 refine AB (fun hb=>?_) (fun hb=>?_)
 ·have hb:=of_decide_eq_true hb;rw [if_pos (by omega)] at hk;exact Gh.done hk
 ·have hb:=of_decide_eq_false hb;rw [if_neg (by omega)] at hk;try simp only [SSd,Nat.reduceAdd]
  refine AB (fun hb2=>?_) (fun hb2=>?_)
  ·have hb2:=of_decide_eq_true hb2;rw [if_pos (by omega)] at hk;exact Gh.done hk
  ·have hb2:=of_decide_eq_false hb2;rw [if_neg (by omega)] at hk;exact Gh.done hk
end
def wtext:Bs:=[97,110,100,32,97,115,32,97,115,99,32,98,101,103,105,110,32,98,101,116,119,101,101,110,32,98,121,32,99,97,115,101,32,99,111,109,109,105,116,32,99,114,101,97,116,101,32,99,114,111,115,115,32,100,101,102,97,117,108,116,32,100,101,108,101,116,101,32,100,101,115,99,32,100,105,115,116,105,110,99,116,32,100,114,111,112,32,101,108,115,101,32,101,110,100,32,102,97,108,115,101,32,102,114,111,109,32,103,114,111,117,112,32,104,97,118,105,110,103,32,105,110,32,105,110,100,101,120,32,105,110,110,101,114,32,105,110,115,101,114,116,32,105,110,116,111,32,105,115,32,106,111,105,110,32,107,101,121,32,108,101,102,116,32,108,105,107,101,32,108,105,109,105,116,32,110,111,116,32,110,117,108,108,32,111,102,102,115,101,116,32,111,110,32,111,114,32,111,114,100,101,114,32,112,114,105,109,97,114,121,32,114,111,108,108,98,97,99,107,32,115,101,108,101,99,116,32,115,101,116,32,116,97,98,108,101,32,116,104,101,110,32,116,114,117,101,32,117,110,105,113,117,101,32,117,112,100,97,116,101,32,118,97,108,117,101,115,32,119,104,101,110,32,119,104,101,114,101]
def spN (c:UInt8):Int:=if (9≤c&&c≤13)||c==32 then 1 else 0
def SpG (G:Imm):Prop:=∀c:UInt8,Cell G [] 6 c.toNat (.int .u8 (spN c))
def trF:Nat→Int×Int×Int
 |0=>(0,1,0)
 |i+1=>let t:=trF i
  let c:=wtext.getD i 0
  (IntKind.i64.wrap (t.1+Dx .and .i64 t.2.1 (Dx .xor .i64 (if IntKind.i64.signed then -1 else IntKind.i64.max) (IntKind.i64.wrap (spN c)))),IntKind.i64.wrap (spN c),Dx .or .u8 t.2.2 c.toNat)
def SX (k:Nat):Nat:=((wordsL.take k).map fun w=>w.length+1).sum
def wiF (i:Nat):Nat:=((wtext.take i).filter fun c=>spN c==1).length
theorem ALz:(trF wtext.length).1=50∧decide ((trF wtext.length).2.2≥128)=false:=by decide+kernel
theorem ABl:(List.range wtext.length).all (fun i=>if spN (wtext.getD i 0)=0 then wiF (i+1)==wiF i else
  decide (wiF i < 49)&&wiF (i+1)==wiF i+1&&decide (SX (wiF i)≤i)&&(wtext.drop (SX (wiF i))).take (i - SX (wiF i))==wordsL.getD (wiF i) []&&i+1==SX (wiF i+1)&&decide (i+1 < wtext.length)&&spN (wtext.getD (i+1) 0)==0)=true:=by decide+kernel
theorem AJI:wiF wtext.length=49∧SX 49 < wtext.length∧wtext.drop (SX 49)=wordsL.getD 49 []:=by decide+kernel
theorem Vb {i:Nat}(h:i < wtext.length):wtext[i]? =some (wtext.getD i 0):=by
 rw [List.getElem?_eq_getElem h];simp [h]
theorem Tu {I:Imm}{X L F:LH}[hsp:SplitL X L F]{T len:Nat}{v u:Value}{cells:List Value}{i:Int}(ho:SlO T 1 X v cells len)(h0:0≤i)(h1:i < len)(hu:u.oneCell'=true):
  ∃b,ixV 1 v (.int .i64 i)=some (.pointer (some ⟨b,i.toNat,none⟩))∧∀K:Value→M,(∀X',SlO T 1 X' v (cells.set i.toNat u) len→K undef I (X'++F))→Sto 1 (.pointer (some ⟨b,i.toNat,none⟩)) u (gh K) I L:=by
 obtain ⟨b,e,_⟩:=Yg (I:=I) (L:=L) (F:=F) (u:=u) (K:=fun _ _ _=>True) ho h0 h1 hu (fun _ _=>trivial);refine ⟨b,e,fun K hk=>?_⟩;obtain ⟨b',e',h⟩:=Yg (I:=I) (L:=L) (F:=F) (u:=u) (K:=K) ho h0 h1 hu hk;rw [e] at e';simp only [Option.some.injEq,Value.pointer.injEq,Addr.mk.injEq,and_true] at e';rw [e'];exact h
section
variable {ω:Om}
theorem rdG {G I:Imm}{L:LH}{K:Value→M}(hG:SpG G)(hI:Ext G I)(c:UInt8)(hk:K (.int .u8 (spN c)) I L):Rv none (AQ (.pointer (some ⟨6,c.toNat * 1,none⟩))) K I L:=by
 refine rd1 ?_ hk;have:=(hG c).mono hI (L':=L) (fun _ h=>by cases h);simpa using this
theorem Sm (c:UInt8):Lc 1 256 (.pointer (some ⟨6,0,none⟩)) (.int .u8 c.toNat)=some (.pointer (some ⟨6,c.toNat * 1,none⟩)):=by
 have:=c.toNat_lt;have h2:((c.toNat:Int) < 256):=by omega
 simp [Lc,h2,Addr.add]
theorem Su {G I:Imm}{L:LH}{K:Value→M}(hG:SpG G)(hGI:Ext G I)(hk:∀X v,SlO 9 1 X v (wordsL.map fun x=>Value.string ⟨x.toArray⟩) wordsL.length→K v I (X++L)):CT ω 212 #[.string ⟨wtext.toArray⟩] K I L:=by
 refine AOx ?_;unfold AEQ;refine loop (fun q st I' L'=>∃i:Nat,i+q=wtext.length∧st=(.int .i64 (trF i).1,.int .i64 (trF i).2.1,.int .u8 (trF i).2.2,.int .i64 i,())∧I'=I∧L'=L) wtext.length ⟨0,by omega,rfl,rfl,rfl⟩ ?_;rintro q st I' L' ⟨i,hq,rfl,rfl,rfl⟩;unfold YG;try simp only [SSd,Nat.reduceAdd]
 refine AB (fun hb=>?_) (fun hb=>?_)
 ·have hb:i < wtext.length:=by
   have:=of_decide_eq_true hb;omega
  simp only [ixS wtext (Vb hb),Sm,SSd,Nat.reduceAdd];refine rdG hG hGI _ ?_;have hwl:wtext.length≤1000:=by decide+kernel
  simp only [AIw,wrap_i64 ((i:Int)+1) (by omega),SSd,Nat.reduceAdd];exact Gh.done ⟨q - 1,by omega,i+1,by omega,by rw [trF];rfl,rfl,rfl⟩
 have hb:¬i < wtext.length:=by
  have:=of_decide_eq_false hb;omega
 obtain rfl:i=wtext.length:=by omega
 unfold YF;obtain ⟨t1,t2⟩:=ALz;simp only [t1,t2,SSd,Nat.reduceAdd];refine ANT (ln:=50) (cn:=50) (by omega) (by omega) (by omega) (fun X v hX=>?_);have h0:∃c,wtext[0]? =some c∧spN c=0:=⟨97,rfl,rfl⟩;obtain ⟨c0,hc0,hs0⟩:=h0;refine loop (fun q st I2 L2=>st=(.int .i64 0,())∧I2=I'∧L2=X++L') 0 ⟨rfl,rfl,rfl⟩ ?_;rintro _ st I2 L2 ⟨rfl,rfl,rfl⟩;unfold YE;simp only [show decide ((0:Int) < (wtext.length:Nat))=true from rfl,SSd,Nat.reduceAdd];simp only [ixS wtext hc0 (a:=0),Sm,show (.int .i64 0:Value)= .int .i64 ((0:Nat):Int) from rfl,SSd,Nat.reduceAdd];refine rdG hG hGI _ ?_;simp only [hs0,show ((0:Int) != 0)=false from rfl,SSd,Nat.reduceAdd];unfold Ro;have hwl:wtext.length≤1000:=by decide+kernel
 have hxz:(Builtin.zeroCells #[.string ⟨#[]⟩] 50).toList=(wordsL.take 0).map (fun x=>Value.string ⟨x.toArray⟩)++List.replicate (50 - 0) (.string ⟨#[]⟩):=by kernel_rfl
 have hX:SlO 9 1 X v ((wordsL.take 0).map (fun x=>Value.string ⟨x.toArray⟩)++List.replicate (50 - 0) (.string ⟨#[]⟩)) 50:=by rw [←hxz];exact hX
 have hw50:wordsL.length=50:=rfl;refine loop (fun q st I3 L3=>∃(i:Nat) (X':LH),i+q=wtext.length∧st=(Value.int .i64 (wiF i:Nat),Value.int .i64 (SX (wiF i):Nat),Value.int .i64 (i:Nat),())∧I3=I2∧L3=X'++L'∧wiF i < 50∧SX (wiF i)≤i∧SlO 9 1 X' v ((wordsL.take (wiF i)).map (fun x=>Value.string ⟨x.toArray⟩)++List.replicate (50 - wiF i) (.string ⟨#[]⟩)) 50) wtext.length ⟨0,X,by omega,rfl,rfl,rfl,by decide,by decide,hX⟩ ?_;rintro q st I3 L3 ⟨i,X',hq,rfl,rfl,rfl,hk50,hoff,hX'⟩;unfold YD;try simp only [SSd,Nat.reduceAdd]
 refine AB (fun hb=>?_) (fun hb=>?_)
 ·have hb:i < wtext.length:=by
   have:=of_decide_eq_true hb;omega
  have hst:=List.all_eq_true.1 ABl i (List.mem_range.2 hb);simp only [ixS wtext (Vb hb),Sm,SSd,Nat.reduceAdd];refine rdG hG hGI _ ?_;try simp only [SSd,Nat.reduceAdd]
  refine AB (fun hs=>?_) (fun hs=>?_)
  ·have hs:spN (wtext.getD i 0)=0:=by simpa using hs
   rw [if_pos hs] at hst;have hst:wiF (i+1)=wiF i:=by simpa using hst
   simp only [wrap_i64 ((i:Int)+1) (by omega),SSd,Nat.reduceAdd];exact Gh.done ⟨q - 1,by omega,i+1,X',by omega,by rw [hst];rfl,rfl,rfl,by rw [hst];exact hk50,by rw [hst];omega,by rw [hst];exact hX'⟩
  ·have hs:¬spN (wtext.getD i 0)=0:=by simpa using hs
   rw [if_neg hs] at hst;simp only [Bool.and_eq_true,decide_eq_true_eq,beq_iff_eq] at hst;obtain ⟨⟨⟨⟨⟨⟨a1,a2⟩,a3⟩,a4⟩,a5⟩,a6⟩,a7⟩:=hst;simp only [slS wtext a3 (Nat.le_of_lt hb),a4,SSd,Nat.reduceAdd];have hkl:wiF i < wordsL.length:=by omega
   have hgd:wordsL.getD (wiF i) []=wordsL[wiF i]:=by simp [hkl]
   have hset:((wordsL.take (wiF i)).map (fun x=>Value.string ⟨x.toArray⟩)++List.replicate (50 - wiF i) (Value.string ⟨#[]⟩)).set (wiF i) (.string ⟨(wordsL.getD (wiF i) []).toArray⟩)=(wordsL.take (wiF i+1)).map (fun x=>Value.string ⟨x.toArray⟩)++List.replicate (50 - (wiF i+1)) (.string ⟨#[]⟩):=by
    rw [List.take_succ_eq_append_getElem hkl,List.map_append,hgd];rw [List.set_append_right _ _ (by simp;omega)];have e1:wiF i - ((wordsL.take (wiF i)).map (fun x=>Value.string ⟨x.toArray⟩)).length=0:=by simp;omega
    have e2:50 - wiF i=(50 - (wiF i+1))+1:=by omega
    rw [e1,e2,List.replicate_succ,List.set_cons_zero];simp
   obtain ⟨b',g1,g2⟩:=Tu (I:=I3) (L:=X'++L') (F:=L') (u:=.string ⟨(wordsL.getD (wiF i) []).toArray⟩) (i:=(wiF i:Nat)) hX' (by omega) (by omega) rfl;simp only [g1,SSd,Nat.reduceAdd];refine g2 _ (fun X5 hX5=>?_);rw [Int.toNat_natCast,hset] at hX5;simp only [wrap_i64 ((i:Int)+1) (by omega),wrap_i64 ((wiF i:Int)+1) (by omega),SSd,Nat.reduceAdd];refine loop (fun q' st I6 L6=>st=(Value.int .i64 ((i+1:Nat):Int),())∧I6=I3∧L6=X5++L') 0 ⟨rfl,rfl,rfl⟩ ?_;rintro _ st I6 L6 ⟨rfl,rfl,rfl⟩;unfold YC;have hlt:decide (((i+1:Nat):Int) < (wtext.length:Nat))=true:=decide_eq_true (by omega);simp only [hlt,ixS wtext (Vb a6),Sm,SSd,Nat.reduceAdd];refine rdG hG hGI _ ?_;simp only [a7,show ((0:Int) != 0)=false from rfl,SSd,Nat.reduceAdd];exact Gh.done ⟨q - 1,by omega,i+1,X5,by omega,by rw [a2,←a5];rfl,rfl,rfl,by rw [a2];omega,by rw [a2,←a5];omega,by rw [a2];exact hX5⟩
 ·have hb:¬i < wtext.length:=by
   have:=of_decide_eq_false hb;omega
  obtain rfl:i=wtext.length:=by omega
  obtain ⟨l1,l2,l3⟩:=AJI;rw [l1] at hX';unfold Tm;simp only [l1,show decide (((SX 49:Nat):Int) < (wtext.length:Nat))=true from decide_eq_true (by omega),AAJ wtext (Nat.le_of_lt l2),l3,SSd,Nat.reduceAdd];obtain ⟨b',g1,g2⟩:=Tu (I:=I3) (L:=X'++L') (F:=L') (u:=.string ⟨(wordsL.getD 49 []).toArray⟩) (i:=((49:Nat):Int)) hX' (by omega) (by omega) rfl;simp only [g1,SSd,Nat.reduceAdd];refine g2 _ (fun X5 hX5=>?_);have hset:((wordsL.take 49).map (fun x=>Value.string ⟨x.toArray⟩)++List.replicate (50 - 49) (Value.string ⟨#[]⟩)).set ((49:Nat):Int).toNat (.string ⟨(wordsL.getD 49 []).toArray⟩)=wordsL.map (fun x=>Value.string ⟨x.toArray⟩):=rfl;rw [hset] at hX5;exact Gh.done (hk X5 _ hX5)
theorem QH (I:Imm):∀l:List Bs,Recs (StrV I) 1 l (l.map fun x=>Value.string ⟨x.toArray⟩)
 |[]=>rfl
 |x::l=>⟨rfl,rfl,QH I l⟩
theorem TM {G I:Imm}{L:LH}{K:Value→M}(hG:SpG G)(hGI:Ext G I)(hk:∀X v,SlO 9 1 X v (wordsL.map fun x=>Value.string ⟨x.toArray⟩) wordsL.length→K v I (X++L)):CT ω 182 #[] K I L:=by
 refine APN ?_;unfold AEv;exact call (Su hG hGI (fun X v hX=>Gh.done (hk X v hX)))
theorem Vg {G:Imm}(hG:SpG G):AIr ω G:=by
 intro K I L hGI hk;refine Cal.gh (TM hG hGI (fun X v hX=>?_));exact RL.ofO (R:=StrV) (xs:=wordsL) (fun {I I' x c} h hI=>h) hX (QH I wordsL) (fun I6 hI6 hw6=>Gh.done (hk I6 _ hI6 hw6))
end
def BdS (s:Ses):Prop:=s.left.length≤2097152∧s.stmts.length≤2000∧s.out=[]
theorem AAc (s:Ses)(x:TStmt):(Gn s x).left=s.left∧(Gn s x).stmts.length≤s.stmts.length:=by
 unfold Gn KT Eu;repeat' split
 all_goals first
  |exact ⟨(BH _ _).1,by rw [(BH _ _).2.1];exact Nat.le_refl _⟩
  |exact ⟨(BH _ _).1,Nat.zero_le _⟩
  |exact ⟨rfl,Nat.le_refl _⟩
theorem AHJ (s:Ses)(f:TFront):(LY s f).left.length≤s.left.length∧(s.stmts.length≤2000→(LY s f).stmts.length≤2000):=by
 unfold LY;split
 ·exact ⟨by rw [(BH _ _).1];exact Nat.le_refl _,fun h=>by rw [(BH _ _).2.1];exact h⟩
 split
 ·exact ⟨Nat.zero_le _,fun _=>Nat.zero_le _⟩
 split
 ·exact ⟨by unfold Jf;rw [(BH _ _).1];exact Nat.le_refl _,fun h=>by unfold Jf;rw [(BH _ _).2.1];exact h⟩
 split
 ·unfold XD;have hp:=MI f.fText;split
  ·have hb:∀t:Ses,(Dw t).left=t.left∧(Dw t).stmts=[]:=fun t=>by unfold Dw;split <;> exact ⟨rfl,rfl⟩
   refine ⟨?_,fun _=>?_⟩
   ·rw [(hb _).1];unfold Dt;rw [(BH _ _).1];exact Nat.le_refl _
   ·rw [(hb _).2];exact Nat.zero_le _
  split
  ·exact ⟨by simp only;rw [(BH _ _).1];exact Nat.le_refl _,fun _=>hp⟩
  ·exact ⟨Nat.le_refl _,fun _=>hp⟩
 ·exact ⟨Nat.zero_le _,fun _=>Nat.zero_le _⟩
theorem WC {s t:Ses}(h:DC s=some t):t.left.length≤s.left.length∧(s.stmts.length≤2000→t.stmts.length≤2000):=by
 unfold DC at h;split at h
 ·cases h
 split at h
 ·simp only [Option.some.injEq] at h;subst h;have:=AAc {s with stmts:=s.stmts.tail} (s.stmts.headD default);refine ⟨by rw [this.1];exact Nat.le_refl _,fun h=>Nat.le_trans this.2 ?_⟩;simp only [List.length_tail];omega
 split at h
 ·simp only [Option.some.injEq] at h;subst h;exact ⟨by rw [(BH _ _).1];exact Nat.le_refl _,fun h=>by rw [(BH _ _).2.1];exact h⟩
 simp only at h
 split at h
 ·cases h
 split at h
 ·simp only [Option.some.injEq] at h;subst h;exact ⟨Nat.zero_le _,fun _=>Nat.zero_le _⟩
 ·simp only [Option.some.injEq] at h;subst h;have:=AHJ {s with left:=s.left.drop (Bo s.left (s.status==0)).2.1.toNat} (Bo s.left (s.status==0)).1;refine ⟨Nat.le_trans this.1 ?_,this.2⟩;simp only [List.length_drop];omega
theorem ZE (n:Nat):∀{s:Ses},mu s < n→(goF s).left.length≤s.left.length∧(s.stmts.length≤2000→(goF s).stmts.length≤2000):=by
 induction n with
 |zero=>intro s h;omega
 |succ n ih=>
  intro s hn;rw [Il];cases hr:DC s with
  |none=>exact ⟨Nat.le_refl _,fun h=>h⟩
  |some t=>
   have h1:=IW hr;have h2:=WC hr;have h3:=ih (s:=t) (by omega);exact ⟨Nat.le_trans h3.1 h2.1,fun h=>h3.2 (h2.2 h)⟩
theorem BdS.feed {s:Ses}(h:BdS s)(b:Bs):BdS (Gt s b).1:=by
 unfold Gt;split
 ·exact h
 simp only
 split
 ·exact ⟨Nat.zero_le _,Nat.zero_le _,rfl⟩
 ·rename_i hl
  have h1:=ZE _ (Nat.lt_succ_self (mu {s with left:=s.left++b}));exact ⟨Nat.le_trans h1.1 (by simp only;omega),h1.2 h.2.1,rfl⟩
theorem BdS.close {s:Ses}(h:BdS s):BdS (Fj s):=by
 unfold Fj;split
 ·exact h
 ·exact ⟨Nat.zero_le _,Nat.zero_le _,h.2.2⟩
theorem ABT (dec:Int→Bs)(s:Ses)(o:TOut)(e:Int):(Eb dec s o e).left=s.left∧(Eb dec s o e).stmts.length≤s.stmts.length:=by
 have hb:∀t:Ses,(Dw t).left=t.left∧(Dw t).stmts=[]:=fun t=>by unfold Dw;split <;> exact ⟨rfl,rfl⟩
 unfold Eb;simp only
 split
 ·have h2:(if e==0 then BV {s with kind:=0,stmt:=default,own:=false} (Bh dec o) else {s with kind:=0,stmt:=default,own:=false}).left=s.left∧(if e==0 then BV {s with kind:=0,stmt:=default,own:=false} (Bh dec o) else {s with kind:=0,stmt:=default,own:=false}).stmts=s.stmts:=by
   split
   ·exact ⟨(BH _ _).1,(BH _ _).2.1⟩
   ·exact ⟨rfl,rfl⟩
  generalize (if e==0 then BV {s with kind:=0,stmt:=default,own:=false} (Bh dec o) else {s with kind:=0,stmt:=default,own:=false})=s2 at h2 ⊢;generalize (if (e==0)=true then (ER (Bh dec o) []).2 else e)=e1;split
  ·refine ⟨?_,by rw [(hb _).2];exact Nat.zero_le _⟩;rw [(hb _).1];unfold Dt;rw [(BH _ _).1];exact h2.1
  ·exact ⟨h2.1,by rw [h2.2];exact Nat.le_refl _⟩
 split
 ·split
  ·unfold Eu;exact ⟨(BH _ _).1,by rw [(BH _ _).2.1];exact Nat.le_refl _⟩
  ·exact ⟨rfl,Nat.le_refl _⟩
 ·unfold Ny Eu Dt;simp only
  repeat' split
  ·exact ⟨(BH _ _).1,Nat.zero_le _⟩
  ·exact ⟨(BH _ _).1,by rw [(BH _ _).2.1];exact Nat.le_refl _⟩
  ·exact ⟨(BH _ _).1,by rw [(BH _ _).2.1];exact Nat.le_refl _⟩
theorem BdS.ans {s:Ses}(h:BdS s)(dec:Int→Bs)(o:TOut)(e:Int):BdS (Kv dec s o e).1:=by
 unfold Kv;split
 ·exact h
 ·have h1:=ZE _ (Nat.lt_succ_self (mu (Eb dec s o e)));have h2:=ABT dec s o e;exact ⟨by refine Nat.le_trans h1.1 ?_;rw [h2.1];exact h.1,h1.2 (Nat.le_trans h2.2 h.2.1),rfl⟩
theorem BdS.room {s:Ses}(h:BdS s):BX s≤20000000000000:=by
 obtain ⟨h1,h2,h3⟩:=h;unfold BX mu;rw [h3];have:(if s.query=true then 1 else 0:Nat)≤1:=by split <;> omega
 simp only [List.length_nil];omega
theorem BdS.room_add {s:Ses}(h:BdS s)(b:Bs)(hb:b.length≤2097152):(s.left++b).length≤100000000∧BX {s with left:=s.left++b}≤99999980000000:=by
 obtain ⟨h1,h2,h3⟩:=h;unfold BX mu;simp only
 rw [h3];have:(if s.query=true then 1 else 0:Nat)≤1:=by split <;> omega
 simp only [List.length_nil,List.length_append];omega
section
variable {ω:Om}{I:Imm}{L F:LH}{K:Value→M}{s:Ses}{b:Nat}{X:LH}
theorem UY:0 < (Gt {pid:=1,secret:=2} [0,0,0,9,0,3,0,0,0]).2.length∧(Gt {pid:=1,secret:=2} [0,0,0,9,0,3,0,0,0]).1.status=73:=by decide+kernel
theorem WX (hk:∀I' v,Ext I I'→Bytes I' v [0,0,0,9,0,3,0,0,0]→K v I' L):CT ω 24 #[] K I L:=by
 refine ARA ?_;unfold AMt;refine KZ (n:=1) [.int .u8 0,.int .u8 0,.int .u8 0,.int .u8 9,.int .u8 0,.int .u8 3,.int .u8 0,.int .u8 0,.int .u8 0] rfl rfl (by simp [Value.cells]) (fun I1 a hI1 hS=>Gh.done ?_);exact Gh.done (hk I1 _ hI1 hS)
theorem XA {G:Imm}(hTok:ED ω G)(hLim:QB ω)(hG:Ext G I)(hk:∀I',Ext I I'→K (.bool true) I' L):CT ω 7 #[] K I L:=by
 refine ARd ?_;unfold sh7;refine call (Oj 1 2 (by omega) (by omega) (fun b X hS=>?_));simp only [show ((0:Int) != 0)=false from rfl,SSd,Nat.reduceAdd];refine call (WX (fun I1 v hI1 hv=>?_));have hb:BdS {pid:=1,secret:=2}:=⟨Nat.zero_le _,Nat.zero_le _,rfl⟩;obtain ⟨r1,r2⟩:=hb.room_add [0,0,0,9,0,3,0,0,0] (by decide);refine call (Lj (X:=X) hTok hLim (Ext.trans hG hI1) (hS.mono hI1) hv r1 r2 (fun I2 X2 v2 hI2 hS2 hv2=>?_));refine call (MC (X:=X2) hS2 ?_);obtain ⟨a1,a2⟩:=UY;rw [a2];have hd:decide ((0:Int) < ((Gt {pid:=1,secret:=2} [0,0,0,9,0,3,0,0,0]).2.length:Nat))=true:=decide_eq_true (by omega);simp only [hv2.len,hd,show ((73:Int)==73)=true from rfl,SSd,Nat.reduceAdd];exact Gh.to L (Gh.done (hk I2 (Ext.trans hI1 hI2)))
end
def Yr (s:Ses)(x:TStep):Ses:=if x.fDo==0 then (Gt s x.fB).1 else if x.fDo==1 then (Kv (BU true) s x.fO x.fE).1 else if x.fDo==2 then Fj s else s
theorem WH {s:Ses}(x:TStep)(hb:BdS s)(hj:Jn s):BdS (Yr s x)∧Jn (Yr s x):=by
 unfold Yr;repeat' split
 ·exact ⟨hb.feed _,hj.feed _⟩
 ·exact ⟨hb.ans _ _ _,hj.ans _ _ _⟩
 ·exact ⟨hb.close,hj.close⟩
 ·exact ⟨hb,hj⟩
section
variable {ω:Om}{I:Imm}{L F:LH}{K:Value→M}{s:Ses}{b:Nat}{X:LH}
theorem XG {G : Imm} (hP : VV G) (hTok : ED ω G) (hLim : QB ω) {w w2 : Value} {xs : List TStep} {more : Bs} (hG : Ext G I) (hw : RL TG 8 I [] w xs) (hi : ∀ x ∈ xs, WW x.fO ∧ MK x ≤ 1048576) (hw2 : Bytes I w2 more) (hm : more.length ≤ 1048576)
    (hk : ∀ I', Ext I I' → K (.bool true) I' []) : CT ω 6 #[w, w2] K I [] := by
  have hxl : True := trivial
  refine ARe ?_
  unfold sh6
  refine call (XA hTok hLim hG (fun I1 hI1 => ?_))
  refine call (Oj 1 2 (by omega) (by omega) (fun b X hS => ?_))
  simp only [show ((0 : Int) != 0) = false from rfl, Bool.not_true, SSd, Nat.reduceAdd]
  have endB : ∀ (I2 : Imm) (X2 : LH) (s : Ses), Ext I I2 → SeM I2 s b X2 → BdS s → Jn s → XV ω w2 (.bool false) (Ai b) (fun v => Gh (K v)) I2 (X2 ++ []) := by
    intro I2 X2 s hI2 hS2 hb hj
    unfold XV
    refine call (PY (X := X2) hS2 (fun X3 hS3 => ?_))
    have hb3 := hb.close
    have hj3 := hj.close
    have he3 : (Fj s).ended = true := Vu
    generalize Fj s = s3 at *
    refine call (MC (X := X3) hS3 ?_)
    refine call (Ku (X := X3) hS3 (fun sc => ?_))
    have hl := sc.2.1
    have h53 : (.int .i64 s3.kind :: (sc.1 ++ [.bool s3.own]) : List Value).length = 53 := by simp [hl]
    have hone : ∀ (k : Int) (o : Bool) (sc : A51), ∀ u ∈ (.int .i64 k :: (sc.1 ++ [.bool o]) : List Value), u.oneCell' = true := by
      intro k o sc u hu
      rcases List.mem_cons.1 hu with rfl | hu
      · rfl
      · rcases List.mem_append.1 hu with hu | hu
        · exact List.all_eq_true.1 sc.2.2 u hu
        · rw [List.mem_singleton.1 hu]; rfl
    refine AZ (fun ba => ?_)
    unfold Pm
    refine stB h53 rfl (hone _ _ _) ?_
    obtain ⟨r1, r2⟩ := hb3.room_add more (by omega)
    refine call (Lj (X := X3) hTok hLim (Ext.trans hG hI2) hS3 (hw2.mono hI2) r1 r2 (fun I4 X4 v4 hI4 hS4 hv4 => ?_))
    rw [AAM he3] at hS4 hv4
    simp only at hS4 hv4
    refine call (Us (X := X4) hS4 ?_)
    rw [he3]
    simp only [hv4.len, Bool.not_true, show decide ((0 : Int) < (([] : Bs).length : Nat)) = false from rfl, SSd, Nat.reduceAdd]
    refine rdb ?_
    obtain ⟨q1, q2, q3⟩ := ABp hj3 he3 hb3.2.2 (BU true) ⟨[], [], []⟩ 0
    have hroom := hb3.room
    have hen := (hj3.en he3).2
    have hab := hj3.ab
    have hst : s3.kind = 0 ∨ (s3.kind = 4 ∧ s3.status = 84) ∨ (s3.kind = 4 ∧ s3.status = 69) := by
      rcases hen with h | h
      · exact .inl h
      · rcases hab h with h2 | h2
        · exact .inr (.inl ⟨h, h2⟩)
        · exact .inr (.inr ⟨h, h2⟩)
    have e84 : ((84 : Int) != 84) = false := rfl
    have e69 : ((69 : Int) != 84) = true := rfl
    have e69' : ((69 : Int) != 69) = false := rfl
    have e40 : ((4 : Int) != 0) = true := rfl
    have e44 : ((4 : Int) != 4) = false := rfl
    have e44' : ((4 : Int) == 4) = true := rfl
    have e04 : ((0 : Int) == 4) = false := rfl
    have e00 : ((0 : Int) != 0) = false := rfl
    rcases hst with hk0 | ⟨hk4, hs⟩ | ⟨hk4, hs⟩
    · rw [hk0]
      simp only [e00, SSd, Nat.reduceAdd]
      refine rdb ?_
      simp only [e04, SSd, Nat.reduceAdd]
      refine call (GV (X := X4) hP hTok hLim (o := ⟨[], [], []⟩) (c := [.slice none 0 0, .slice none 0 0, .slice none 0 0, .slice none 0 0, .string ⟨#[]⟩]) 0 (Ext.trans hG (Ext.trans hI2 hI4)) hS4 ⟨_, _, _, _, rfl, rfl, rfl, RL.nil none 0, RL.nil none 0⟩ (by decide) (fun r hr => by cases hr) (by omega) (fun I5 X5 v5 hI5 hS5 hv5 => ?_))
      rw [q1] at hv5
      refine call (Ku (X := X5) hS5 (fun sc5 => ?_))
      have hl5 := sc5.2.1
      refine AZ (fun bd => ?_)
      unfold Pm
      refine stB (by simp [hl5]) rfl (hone _ _ _) ?_
      refine call (La (X := X5) hS5 ?_)
      rw [q2, q3]
      simp only [hv5.len, show ((([] : Bs).length : Int) == 0) = true from rfl, SSd, Nat.reduceAdd]
      refine rdb ?_
      simp only [show ((0 : Int) == 0) = true from rfl, SSd, Nat.reduceAdd]
      exact Gh.to [] (Gh.done (hk I5 (Ext.trans hI2 (Ext.trans hI4 hI5))))
    · rw [hk4, hs]
      simp only [e40, SSd, Nat.reduceAdd]
      refine rdb ?_
      simp only [e44, SSd, Nat.reduceAdd]
      refine rdb ?_
      simp only [e44', e84, SSd, Nat.reduceAdd]
      refine call (GV (X := X4) hP hTok hLim (o := ⟨[], [], []⟩) (c := [.slice none 0 0, .slice none 0 0, .slice none 0 0, .slice none 0 0, .string ⟨#[]⟩]) 0 (Ext.trans hG (Ext.trans hI2 hI4)) hS4 ⟨_, _, _, _, rfl, rfl, rfl, RL.nil none 0, RL.nil none 0⟩ (by decide) (fun r hr => by cases hr) (by omega) (fun I5 X5 v5 hI5 hS5 hv5 => ?_))
      rw [q1] at hv5
      refine call (Ku (X := X5) hS5 (fun sc5 => ?_))
      have hl5 := sc5.2.1
      refine AZ (fun bd => ?_)
      unfold Pm
      refine stB (by simp [hl5]) rfl (hone _ _ _) ?_
      refine call (La (X := X5) hS5 ?_)
      rw [q2, q3]
      simp only [hv5.len, show ((([] : Bs).length : Int) == 0) = true from rfl, SSd, Nat.reduceAdd]
      refine rdb ?_
      simp only [show ((0 : Int) == 0) = true from rfl, SSd, Nat.reduceAdd]
      exact Gh.to [] (Gh.done (hk I5 (Ext.trans hI2 (Ext.trans hI4 hI5))))
    · rw [hk4, hs]
      simp only [e40, SSd, Nat.reduceAdd]
      refine rdb ?_
      simp only [e44, SSd, Nat.reduceAdd]
      refine rdb ?_
      simp only [e44', e69, e69', SSd, Nat.reduceAdd]
      refine call (GV (X := X4) hP hTok hLim (o := ⟨[], [], []⟩) (c := [.slice none 0 0, .slice none 0 0, .slice none 0 0, .slice none 0 0, .string ⟨#[]⟩]) 0 (Ext.trans hG (Ext.trans hI2 hI4)) hS4 ⟨_, _, _, _, rfl, rfl, rfl, RL.nil none 0, RL.nil none 0⟩ (by decide) (fun r hr => by cases hr) (by omega) (fun I5 X5 v5 hI5 hS5 hv5 => ?_))
      rw [q1] at hv5
      refine call (Ku (X := X5) hS5 (fun sc5 => ?_))
      have hl5 := sc5.2.1
      refine AZ (fun bd => ?_)
      unfold Pm
      refine stB (by simp [hl5]) rfl (hone _ _ _) ?_
      refine call (La (X := X5) hS5 ?_)
      rw [q2, q3]
      simp only [hv5.len, show ((([] : Bs).length : Int) == 0) = true from rfl, SSd, Nat.reduceAdd]
      refine rdb ?_
      simp only [show ((0 : Int) == 0) = true from rfl, SSd, Nat.reduceAdd]
      exact Gh.to [] (Gh.done (hk I5 (Ext.trans hI2 (Ext.trans hI4 hI5))))
  refine loop (fun m st I' L' => ∃ (k : Nat) (s : Ses) (X' : LH), k + m = xs.length + 1 ∧ k ≤ xs.length ∧ st = (Value.int .i64 (k : Nat), ()) ∧ Ext I1 I' ∧ L' = X' ++ [] ∧ SeM I' s b X' ∧ BdS s ∧ Jn s) (xs.length + 1) ⟨0, _, X, by omega, by omega, rfl, Ext.refl _, rfl, hS, ⟨Nat.zero_le _, Nat.zero_le _, rfl⟩, ⟨fun h => by simp at h, fun h => by simp at h⟩⟩ ?_
  rintro m st I2 L2 ⟨k, s, X', hkm, hkl, rfl, hI2, rfl, hS2, hb, hj⟩
  have hE := Ext.trans hI1 hI2
  unfold ALX
  simp only [RL.len hw, SSd, Nat.reduceAdd]
  refine AP (fun hb1 => ?_) (fun hb1 => endB I2 X' s hE hS2 hb hj)
  try simp only [SSd, Nat.reduceAdd]
  refine AB (fun hb2 => ?_) (fun hb2 => endB I2 X' s hE hS2 hb hj)
  have hk : k < xs.length := by have := of_decide_eq_true hb1; omega
  obtain ⟨bt, off, c1, g1, gl, g2, g3⟩ := RL.ix hw (i := k) (by omega) (by omega)
  rw [BM hk] at g2
  obtain ⟨hi1, hi2⟩ := hi xs[k] (List.getElem_mem hk)
  obtain ⟨hb', hj'⟩ := WH xs[k] hb hj
  unfold Yr at hb' hj'
  generalize xs[k] = x at *
  obtain ⟨vb, co, rfl, hvb, hvo⟩ := g2
  obtain ⟨y0, y1, yf, yr, rfl, ho0, ho1, ho2, ho3⟩ := hvo
  have hone : ∀ u ∈ ([.int .i64 x.fDo, vb, y0, y1, yf, yr, .string ⟨x.fO.fTag.toArray⟩, .int .i64 x.fE] : List Value), u.oneCell' = true := by
    obtain ⟨_, _, rfl⟩ := hvb.form
    obtain ⟨_, _, rfl⟩ := RL.form ho2
    obtain ⟨_, _, rfl⟩ := RL.form ho3
    intro u hu
    simp only [List.mem_cons, List.not_mem_nil, or_false] at hu
    rcases hu with rfl | rfl | rfl | rfl | rfl | rfl | rfl | rfl
    all_goals first
      | rfl
      | assumption
  have hmB : x.fB.length ≤ 1048576 := by unfold MK at hi2; omega
  have hmO : WS x.fO ≤ 2097152 := by unfold MK at hi2; omega
  have next : ∀ (I3 : Imm) (L3 : LH) (X3 : LH) (s3 : Ses) [SubP (X3 ++ []) L3], Ext I2 I3 → SeM I3 s3 b X3 → BdS s3 → Jn s3 → Gh (OJ ω (.int .i64 (k : Nat)) (fun st => Gh fun I' L' => ∃ m', m' < m ∧ ∃ (k : Nat) (s : Ses) (X' : LH), k + m' = xs.length + 1 ∧ k ≤ xs.length ∧ st = (Value.int .i64 (k : Nat), ()) ∧ Ext I1 I' ∧ L' = X' ++ [] ∧ SeM I' s b X' ∧ BdS s ∧ Jn s) (fun v => Gh (K v))) I3 L3 := by
    intro I3 L3 X3 s3 _ hI3 hS3 hb3 hj3
    refine Gh.done ?_
    unfold OJ
    simp only [wrap_i64 ((k : Int) + 1) (by have := of_decide_eq_true hb2; omega), SSd, Nat.reduceAdd]
    exact Gh.to (X3 ++ []) (Gh.done ⟨m - 1, by omega, k + 1, s3, X3, by omega, by omega, rfl, Ext.trans hI2 hI3, rfl, hS3, hb3, hj3⟩)
  simp only [g1, List.cons_append, List.nil_append, SSd, Nat.reduceAdd]
  refine rdN rfl (g3 _ _ hE (fun _ h => by cases h)) ?_
  refine AZ (fun bx => ?_)
  refine stB rfl rfl hone ?_
  try simp only [SSd, Nat.reduceAdd]
  refine rdb ?_
  have h7 : ACE ω (Ai b) (.int .i64 (k : Nat)) (.pointer (some ⟨bx, 0, none⟩)) (.int .i64 x.fDo) (fun st => Gh fun I' L' => ∃ m', m' < m ∧ ∃ (k : Nat) (s : Ses) (X' : LH), k + m' = xs.length + 1 ∧ k ≤ xs.length ∧ st = (Value.int .i64 (k : Nat), ()) ∧ Ext I1 I' ∧ L' = X' ++ [] ∧ SeM I' s b X' ∧ BdS s ∧ Jn s) (fun v => Gh (K v)) I2 ((bx, .cells [.int .i64 x.fDo, vb, y0, y1, yf, yr, .string ⟨x.fO.fTag.toArray⟩, .int .i64 x.fE].toArray 44 (0, 0)) :: (X' ++ [])) := by
    unfold ACE
    try simp only [SSd, Nat.reduceAdd]
    by_cases h1 : (x.fDo == 1) = true
    · have h0 : (x.fDo == 0) = false := by have : x.fDo = 1 := by simpa using h1
                                           rw [this]; rfl
      rw [if_neg (by rw [h0]; decide), if_pos h1] at hb' hj'
      simp only [h1, SSd, Nat.reduceAdd]
      refine rdP [y0, y1, yf, yr, .string ⟨x.fO.fTag.toArray⟩] rfl rfl ?_
      refine rdb ?_
      refine MW (GV (X := X') hP hTok hLim (o := x.fO) (c := [y0, y1, yf, yr, .string ⟨x.fO.fTag.toArray⟩]) x.fE (Ext.trans hG hE) hS2 (TOutV.mono ⟨_, _, _, _, rfl, ho0, ho1, ho2, ho3⟩ hE) hmO hi1 (by have := hb.room; omega) (fun I3 X3 v3 hI3 hS3 hv3 => ?_))
      exact next I3 _ X3 _ hI3 hS3 hb' hj'
    simp only [Bool.eq_false_iff.2 h1, SSd, Nat.reduceAdd]
    by_cases h2 : (x.fDo == 2) = true
    · have h0 : (x.fDo == 0) = false := by have : x.fDo = 2 := by simpa using h2
                                           rw [this]; rfl
      rw [if_neg (by rw [h0]; decide), if_neg h1, if_pos h2] at hb' hj'
      simp only [h2, SSd, Nat.reduceAdd]
      refine MW (PY (X := X') hS2 (fun X3 hS3 => ?_))
      exact next I2 _ X3 _ (Ext.refl _) hS3 hb' hj'
    simp only [Bool.eq_false_iff.2 h2, SSd, Nat.reduceAdd]
    unfold OJ
    simp only [wrap_i64 ((k : Int) + 1) (by have := of_decide_eq_true hb2; omega), SSd, Nat.reduceAdd]
    exact Gh.to (X' ++ []) (Gh.done ⟨m - 1, by omega, k + 1, s, X', by omega, by omega, rfl, hI2, rfl, hS2, hb, hj⟩)
  try simp only [SSd, Nat.reduceAdd]
  cases h0 : (x.fDo == 0) with
  | true =>
    rw [h0, if_pos rfl] at hb' hj'
    try simp only [SSd, Nat.reduceAdd]
    unfold ALW
    try simp only [SSd, Nat.reduceAdd]
    refine rdb ?_
    obtain ⟨r1, r2⟩ := hb.room_add x.fB (by omega)
    refine MW (Lj (X := X') hTok hLim (Ext.trans hG hE) hS2 (hvb.mono hE) r1 r2 (fun I3 X3 v3 hI3 hS3 hv3 => ?_))
    exact next I3 _ X3 _ hI3 hS3 hb' hj'
  | false =>
    try simp only [SSd, Nat.reduceAdd]
    exact h7
end
open Go.ChangeShapes
section
variable {H:Type}{enc:TypeId×Value→H}
theorem handed_cond_and {a:Assume}{C:Checked}{os:Os}{f:FuncId}{fn:Func}{s:OpenSpec}{k:(H:Type)→List (DataW H)→Bool}(hk:s.cond=some k){F:Stop.Interp}{conds:List PathCond}{apart fresh handsOn again:Bool}{X:World→Array Value→Prop}
  (hX:∀(w w':World) (args:Array Value),w.heap=w'.heap→X w args→X w' args)
  (own:ownKnob C.prog.godebug=none) (started:os.Started) (noInit:C.prog.inits.idxOf? f=none) (hfn:C.prog.funcs[f]? =some fn)
  (witness:∃(w:World) (tape:Tape) (i:Input),w.os=os∧(w.forCall tape i).Shaped C.prog∧i.vars=[]∧Input.okWide C.prog (w.forCall tape i) .any w.heap.size f i∧
   ((s.pre enc C.prog fn conds apart (w.forCall tape i).memory i.args∧X (w.forCall tape i).memory i.args)∧sizedMet enc C.prog fn s apart (w.forCall tape i).memory i.args)∧a.holds C.prog (lone (Frame.enter C.prog f i.args .normal) [] (w.forCall tape i)))
  (contract:∀(W:World) (base:Nat) (args:Array Value) (ds gs:List (DataW H)) (before:List MemPlace),
   (∀(j:Nat) t v,fn.params[j]? =some t→args[j]? =some v→Value.okWide C.prog W .any base t v)→
   DataW.Whole enc C.prog fn.params.toList s.vars apart W args.toList ds gs before→
   conds.all (PathCond.test C.prog ⟨fn.params.toList,ds,s.bare.plain.varTypes C.prog,gs⟩)=true→k H (ds++gs)=true→X W args→
   a.holds C.prog (lone (Frame.enter C.prog f args .normal) [] W)→
   Calls C.prog f args W fun e W'=>∃v,e= .returned v∧(s.at F).post enc C.prog fn apart fresh handsOn again W args v W'):
  ReturnsInHanded a C os f .any (fun w args=>(s.pre enc C.prog fn conds apart w args∧X w args)∧sizedMet enc C.prog fn s apart w args) ((s.at F).post enc C.prog fn apart fresh handsOn again):=by
 refine returnsInHanded_of_calls own started noInit witness ?_;intro w tape i _ _ _ hok hpre hholds;obtain ⟨_,_,_,fn',hfn',_,_,_,_,hval⟩:=hok;have e:fn'=fn:=Option.some.inj (hfn'.symm.trans hfn);subst e;obtain ⟨ds,gs,before,hw,hc,hkk⟩:=(OpenSpec.pre_some hk conds apart _ _).1 hpre.1.1;have hw':=DataW.Whole.of_heap (w':=w.forCall tape i) (by rfl) hw;refine (contract (w.forCall tape i) w.heap.size i.args ds gs before hval hw' hc hkk (hX _ _ _ (by rfl) hpre.1.2) hholds).mono fun e W' ⟨v,he,hp⟩=>?_;subst he;exact ChangeSpec.post_blind hp
theorem cond_witness {C:Checked}{os:Os}{f:FuncId}{fn:Func}{s:OpenSpec}{k:(H:Type)→List (DataW H)→Bool}(hk:s.cond=some k){conds:List PathCond}{apart:Bool}{X:World→Array Value→Prop}(modest:Bool)(w0:World)(args:Array Value)(fuel:Nat)(hos:w0.os=os)
  (hsh:(w0.forCall (fun _ _=>0) ⟨#[],args,[]⟩).Shaped C.prog)
  (hok:Input.okWideB C.prog (w0.forCall (fun _ _=>0) ⟨#[],args,[]⟩) f ⟨#[],args,[]⟩=true)
  {x:List (DataW H)×List (DataW H)×List MemPlace} (hx:DataW.whole enc C.prog (w0.forCall (fun _ _=>0) ⟨#[],args,[]⟩).memory fn.params.toList s.vars apart args.toList fuel=some x)
  (hconds:conds.all (PathCond.test C.prog ⟨fn.params.toList,x.1,s.bare.plain.varTypes C.prog,x.2.1⟩)=true) (hkk:k H (x.1++x.2.1)=true)
  (hsz:s.bare.sizedB enc C.prog fn apart (w0.forCall (fun _ _=>0) ⟨#[],args,[]⟩).memory args fuel=true)
  (hX:X (w0.forCall (fun _ _=>0) ⟨#[],args,[]⟩).memory args):
  ∃(w:World) (tape:Tape) (i:Input),w.os=os∧(w.forCall tape i).Shaped C.prog∧i.vars=[]∧Input.okWide C.prog (w.forCall tape i) .any w.heap.size f i∧
   ((s.pre enc C.prog fn conds apart (w.forCall tape i).memory i.args∧X (w.forCall tape i).memory i.args)∧sizedMet enc C.prog fn s apart (w.forCall tape i).memory i.args)∧({modest:=modest}:Assume).holds C.prog (lone (Frame.enter C.prog f i.args .normal) [] (w.forCall tape i)):=
 ⟨w0,fun _ _=>0,⟨#[],args,[]⟩,hos,hsh,(Input.okWide_of_okWideB (base:=0) hok).1,(Input.okWide_of_okWideB hok).2,
  ⟨⟨(OpenSpec.pre_some hk conds apart _ _).2 ⟨x.1,x.2.1,x.2.2,DataW.Whole_of_whole hx,hconds,hkk⟩,hX⟩,sizedMet_of_sizedB hsz⟩,by
  simp only [Assume.holds];exact ⟨by simp,by simp,fun _=>Modest.zero,by simp,by simp⟩⟩
end
theorem small_one {H:Type}{d:DataW H}{ds:List (DataW H)}(h:Rows.uptoSmall H ds=true)(hd:d∈ds):Rows.uptoBulk d≤1048576:=by
 unfold Rows.uptoSmall at h;have h:=of_decide_eq_true h;obtain ⟨i,hi⟩:=List.getElem?_of_mem hd;have:=Pg hi;omega
def spTab:List Int:=(List.range 256).map fun i=>spN (UInt8.ofNat i)
theorem TY {P:Program}{W:World}{name:String}{k:IntKind}{zs:List Int}{g:Nat}(h:Lib.TabIs P W name k zs)(hg:P.globalNamed name=some g):∃T fr,DN W g=some (.cells (zs.map fun z=>Value.int k z).toArray T fr):=by
 unfold Lib.TabIs World.var? at h;rw [hg] at h;simp only [Option.bind_some] at h;unfold DN;split at h
 ·rename_i cs T fr hc
  simp only [Option.some.injEq] at h;subst h;exact ⟨T,fr,hc⟩
 ·cases h
theorem Vr {W:World}(hL:laidMetH Tryz.prog Rows.pgsessionAbortsUptoRow.laid W):SpG (DN W):=by
 have h1 := hL.filter (fun x => x.1 == "strings.asciiSpace");rw [show (Rows.pgsessionAbortsUptoRow.laid.filter (fun x => x.1 == "strings.asciiSpace")) = [("strings.asciiSpace", Lib.tabData .u8 spTab)] by kernel_rfl, MakeChecks.laidMetH_plain _ _ _ (by kernel_rfl)] at h1;have h2:=Lib.tabIs_of_head (g:=6) (t:=304) (e:=5) (n:=256) (by kernel_rfl) (by kernel_rfl) (by kernel_rfl) (by kernel_rfl) (by kernel_rfl) (by kernel_rfl) h1;obtain ⟨T,fr,h3⟩:=TY h2 (g:=6) (by kernel_rfl);intro c;refine Cell.imm h3 ?_;have hc:=c.toNat_lt;have hl:c.toNat < (spTab.map fun z=>Value.int .u8 z).length:=by simp [spTab];omega
 rw [List.getElem?_toArray,List.getElem?_eq_getElem hl];simp [spTab]
theorem UL {W:World}(hL:laidMetH Tryz.prog Rows.pgsessionAbortsUptoRow.laid W):VV (DN W):=by
 have h1 := hL.filter (fun x => x.1 == "internal/strconv.uint64pow10");rw [show (Rows.pgsessionAbortsUptoRow.laid.filter (fun x => x.1 == "internal/strconv.uint64pow10")) = [("internal/strconv.uint64pow10", Lib.tabData .u64 Lib.pow10Tab)] by kernel_rfl, MakeChecks.laidMetH_plain _ _ _ (by kernel_rfl)] at h1;have hg : Tryz.prog.globalNamed "internal/strconv.uint64pow10" = some 0 := by kernel_rfl
 have h2 : Lib.TabIs Tryz.prog W "internal/strconv.uint64pow10" .u64 Lib.pow10Tab := Lib.tabIs_of_head (t := 250) (e := 194) (n := 20) hg (by kernel_rfl) (by kernel_rfl) (by kernel_rfl) (by kernel_rfl) (by kernel_rfl) h1;obtain ⟨T,fr,h3⟩:=TY h2 hg;exact ⟨0,T,fr,hg,h3⟩
theorem AMA {W:World}{ω:Om}(hL:laidMetH Tryz.prog Rows.pgsessionAbortsUptoRow.laid W):ED ω (DN W):=TU (Vg (Vr hL))
section
variable {H:Type}{enc:TypeId×Value→H}{W:World}{base:Nat}
theorem AAB {v:Value}{d:DataW H}(o:Value.okWide Tryz.prog W .any base 36 v)(t:Td enc Tryz.prog W 36 v.cells.toList d)(hb:Rows.uptoBulk d≤1048576):∃xs:List TStep,RL TG 8 (DN W) [] v xs∧(∀x∈xs,WW x.fO)∧(xs.map MK).sum≤1048576:=by
 obtain ⟨a,len,cap,rfl⟩:=WideShapes.okWide_slice (show Tryz.prog.underlying 36=some (.slice 44) by kernel_rfl) o;obtain ⟨xs,h1,h2,h3⟩:=NI (R:=TG) (Q:=fun x=>WW x.fO) (μ:=MK) 44 (by kernel_rfl) (n:=8) (by kernel_rfl) (by decide) t (fun c di _ hc=>AJG hc);exact ⟨xs,h1,h2,by omega⟩
theorem TT {v:Value}{d:DataW H}(o:Value.okWide Tryz.prog W .any base 22 v)(t:Td enc Tryz.prog W 22 v.cells.toList d)(hb:Rows.uptoBulk d≤1048576):∃l:Bs,Bytes (DN W) v l∧l.length≤1048576:=by
 obtain ⟨a,len,cap,rfl⟩:=WideShapes.okWide_slice (show Tryz.prog.underlying 22=some (.slice 5) by kernel_rfl) o;obtain ⟨l,h1,h2⟩:=TW (by kernel_rfl) t;exact ⟨l,h1,by omega⟩
theorem aborts_walk {v0 v1:Value}{d0 d1:DataW H}(hL:laidMetH Tryz.prog Rows.pgsessionAbortsUptoRow.laid W)(o0:Value.okWide Tryz.prog W .any base 36 v0)(t0:Td enc Tryz.prog W 36 v0.cells.toList d0)(b0:Rows.uptoBulk d0≤1048576)
  (o1:Value.okWide Tryz.prog W .any base 22 v1) (t1:Td enc Tryz.prog W 22 v1.cells.toList d1) (b1:Rows.uptoBulk d1≤1048576) (ω:Om):
  CT ω 6 #[v0,v1] (fun v I' _=>v= .bool true∧Ext (DN W) I') (DN W) []:=by
 obtain ⟨xs,h1,h2,h3⟩:=AAB o0 t0 b0;obtain ⟨l,g1,g2⟩:=TT o1 t1 b1;exact XG (UL hL) (AMA hL) AHQ (Ext.refl _) h1 (fun x hx=>⟨h2 x hx,by have:=RI (f:=MK) hx;omega⟩) g1 g2 (fun I' hI=>⟨rfl,hI⟩)
end
end Go.Proofs.YthkaekjoemhjaaaGreatDoor
