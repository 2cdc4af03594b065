/- lemmas -/
import Derived.Test.YtkifgfanjcfedaaGreatDoorP5
import Derived.Test.YtkifgfanjcfedaaGreatDoorP4
set_option maxRecDepth 100000
set_option maxHeartbeats 40000000
set_option linter.unusedVariables false
set_option linter.unusedSimpArgs false
set_option linter.unusedSectionVars false
namespace Go.Proofs.YtkifgfanjcfedaaGreatDoor
open Go.SL
theorem Jl (f:Nat)(c:TCol):Dc (f+1) c=Oo (!c.fNotNull) [110,111,116] (BC (AP [110,117,108,108]) λ_=>Dc f {c with fNotNull:=true}) (Oo (!c.fKey) [112,114,105,109,97,114,121] (BC (AP [107,101,121]) λ_=>Dc f {c with fKey:=true}) (Oo (!c.fUnique) [117,110,105,113,117,101] (Dc f {c with fUnique:=true}) (Oo (c.fDefault.kind==0) [100,101,102,97,117,108,116] (BC FP λx=>Dc f {c with fDefault:=x}) (okP c)))):=rfl
theorem AKU {n:Nat}{s:Bs}{y:TCol}{s':Stt}{l:List Tok}(h1:isK l 1=true)(h0:typeOf (hd l).text≠0)(h:Out (run (Dc n ⟨s,typeOf (hd l).text,false,false,false,ex0⟩) (.good l.tail)) y s'):Out (run (λr=>let t:=if isK r 1 then typeOf (hd r).text else 0;if t=0 then bad r else Dc n ⟨s,t,false,false,false,ex0⟩ r.tail) (.good l)) y s':=by
 show Out (if (if isK l 1 then typeOf (hd l).text else 0)=0 then bad l else Dc n ⟨s,(if isK l 1 then typeOf (hd l).text else 0),false,false,false,ex0⟩ l.tail) y s';simp only [h1,if_true,if_neg h0];exact h
theorem AHg {n:Nat}{s:Bs}{y:TCol}{toks:List Tok}{k:Nat}{bd:Bool}{st:Stt}(hs:RdS toks st k bd)(h0:bd=false→(if isK (toks.drop k) 1 then typeOf (hd (toks.drop k)).text else 0)=0):Out (run (λr=>let t:=if isK r 1 then typeOf (hd r).text else 0;if t=0 then bad r else Dc n ⟨s,t,false,false,false,ex0⟩ r.tail) st) y (.bad (hd (toks.drop k)).at'):=by
 rcases hs.st with ⟨h1,rfl⟩|⟨_,rfl⟩
 ·show Out (if (if isK (toks.drop k) 1 then typeOf (hd (toks.drop k)).text else 0)=0 then bad _ else _) y _;rw [if_pos (h0 h1)];exact rfl
 ·exact rfl
abbrev AAQ (x:TCol)(v:Value):List Value:=[.string ⟨x.fName.toArray⟩,.int .i64 x.fType,.bool x.fNotNull,.bool x.fKey,.bool x.fUnique,.int .i64 x.fDefault.kind,.int .i64 x.fDefault.value.fType,.bool x.fDefault.value.fNull,.int .i64 x.fDefault.value.fInt,.string ⟨x.fDefault.value.fText.toArray⟩,.string ⟨x.fDefault.table.toArray⟩,.string ⟨x.fDefault.name.toArray⟩,.int .i64 x.fDefault.slot,.int .i64 x.fDefault.type,.bool x.fDefault.distinct,v]
section
variable {ω:Om}{b:Nat}{w:Value}{toks:List Tok}
theorem Xi (s:Bs){I:Imm}{L:LH}{K:Value→M}(hk:K (.int .i64 (typeOf s)) I L):CT ω 214 #[.string ⟨s.toArray⟩] K I L:=by
 refine APQ ?_;unfold sh214;have e:∀k:Int,typeOf s=k→Gh (K (.int .i64 k)) I L:=λk h=>zAA (h ▸ hk);repeat' (first|refine zqa ?_|refine zqh (λ_=>?_)|refine zqr ?_|refine zqb ?_|(with_reducible first|refine Ap (sh214_2.eq_1 ..) ?_|refine Ap (sh214_1.eq_1 ..) ?_|refine Ap (sh214.eq_1 ..) ?_|refine And.intro ?_ ?_)|refine zqc ?_|refine zqg (λ_=>?_) (λ_=>?_)|refine zqe ?_|fail)
 all_goals exact e _ (by simp_all [typeOf])
theorem AEU (n:Nat){b1 bc:Nat}{I:Imm}{L1 L2:LH}{K:Value→M}{st:Stt}{k:Nat}{bd:Bool}{x:TCol}{v:Value}{f:Nat}(h:TD I w toks)(hs:RdS toks st k bd)(hn:st.sz < n)(hf:st.sz≤f)(hx:ExL I v x.fDefault.args)
  (hk:∀y s' k' bd' I' v',RdS toks s' k' bd'→Out (run (Dc f x) st) y s'→s'.sz≤st.sz→Ext I I'→Hz TColV I' y v'→K v' I' (L1++(b,RDo w k' bd')::L2)):
  Ac (():Unit) (λs Kn0=>VB ω (AL b) (AL b1) (AL bc) Kn0 (λv=>Gh (K v))) I ((bc,.cells (AAQ x v).toArray 101 (0,0))::(b1,.cells colZ.toArray 101 (0,0))::(L1++(b,RDo w k bd)::L2)):=by
 obtain ⟨va,vk,rfl⟩:=zAF hx;refine loop (λm s I2 Lx=>∃(x2:TCol) (a:Option Addr) (c f2:Nat) (st2:Stt) (k2:Nat) (bd2:Bool),st2.sz=m∧Ext I I2∧Lx=(bc,Obj.cells (AAQ x2 (.slice a x2.fDefault.args.length c)).toArray 101 (0,0))::(b1,Obj.cells colZ.toArray 101 (0,0))::(L1++(b,RDo w k2 bd2)::L2)∧ExL I2 (.slice a x2.fDefault.args.length c) x2.fDefault.args∧RdS toks st2 k2 bd2∧st2.sz≤f2∧st2.sz≤st.sz∧(∀y s',Out (run (Dc f2 x2) st2) y s'→Out (run (Dc f x) st) y s')) st.sz
  ⟨x,va,vk,f,st,k,bd,rfl,zAC _,rfl,hx,hs,hf,zW _,λ_ _ h=>h⟩ ?_
 rintro m s I2 Lx ⟨x,a,c,f2,st2,k2,bd2,rfl,hI2,rfl,hx,hs2,hf,hlen,hm⟩;unfold VB;try refine zqe ?_
 refine rdb ?_;cases bd2 with
 |true=>
  obtain ⟨e,rfl⟩:=hs2.zero;simp only [zQ,SSd,Nat.reduceAdd];unfold WZ;repeat' (first|refine zqa ?_|refine zqh (λ_=>?_)|refine zqr ?_|refine zqb ?_|refine zqi ?_ ?_|refine zqc ?_|refine zqg (λ_=>?_) (λ_=>?_)|refine zqe ?_|fail)
  exact zAE (L1++(b,RDo w k2 true)::L2) (zAA (hk x _ k2 true I2 _ hs2 (hm _ _ out_bad) zo hI2 ⟨_,rfl,_,rfl,hx⟩))
 |false=>
  have h1:=hs2.one;obtain ⟨f2,rfl⟩:∃q,f2=q+1:=⟨f2 - 1,by omega⟩;simp only [zG,SSd,Nat.reduceAdd];repeat' (first|(with_reducible first|refine BM ?_|refine keepA ?_|refine AQ (λ_=>?_))|(with_reducible refine call ?_;refine FdE.goE (AER n) zD zA zo (λy s' k' bd' I' a' c' hs' ho' hz' hI' hv'=>?_))|(with_reducible refine call ?_;refine Ad _ zD zA (λl k' hy hs' hz'=>?_) (λhno=>?_))|(with_reducible refine call ?_;refine BP _ zD zA (λl hy=>?_) (λhno=>?_))|(with_reducible refine call ?_;refine Aj _ zD zA (λs' k' bd' hs' ho' hz' hzz'=>?_))|(with_reducible refine call ?_;refine BB zD zA (λx s' k' bd' hs' ho' hz' hzz'=>?_))|(with_reducible first|refine BQ zC (λI' a hI' hw'=>zAA ?_)|refine BJ zC zC (λI' a hI' hw'=>zAA ?_)|refine Ba zC zC zC (λI' a hI' hw'=>zAA ?_))|(with_reducible refine call ?_;refine BN zC ?_)|refine zqr ?_|refine zqb ?_|(with_reducible first|refine Ap (sh187_5.eq_1 ..) ?_|refine Ap (sh187_6.eq_1 ..) ?_|refine Ap (sh187_7.eq_1 ..) ?_|refine Ap (sh187_8.eq_1 ..) ?_|refine Ap (sh187_9.eq_1 ..) ?_|refine Ap (sh187_10.eq_1 ..) ?_|refine Ap (sh187_11.eq_1 ..) ?_|refine And.intro ?_ ?_)|refine zqc ?_|refine zqg (λhb=>?_) (λhb=>?_)|refine zqe ?_|fail)
  all_goals first
   |exact zAE (L1++(b,RDo w k2 false)::L2) (zAA (hk x st2 k2 false I2 _ hs2 (hm _ _ (by rw [Jl];exact zO)) zo hI2 ⟨_,rfl,_,rfl,hx⟩))
   |exact zAE ((bc,Obj.cells (AAQ ({x with fNotNull:=true}:TCol) (.slice a ({x with fNotNull:=true}:TCol).fDefault.args.length c)).toArray 101 (0,0))::(b1,Obj.cells colZ.toArray 101 (0,0))::(L1++(b,RDo w k' bd')::L2)) (zAA ⟨_,by omega,({x with fNotNull:=true}:TCol),a,c,f2,s',k',bd',rfl,hI2,rfl,hx,hs',by omega,by omega,λy2 s2 hh=>hm _ _ (by rw [Jl];exact zO)⟩)
   |exact zAE ((bc,Obj.cells (AAQ ({x with fKey:=true}:TCol) (.slice a ({x with fKey:=true}:TCol).fDefault.args.length c)).toArray 101 (0,0))::(b1,Obj.cells colZ.toArray 101 (0,0))::(L1++(b,RDo w k' bd')::L2)) (zAA ⟨_,by omega,({x with fKey:=true}:TCol),a,c,f2,s',k',bd',rfl,hI2,rfl,hx,hs',by omega,by omega,λy2 s2 hh=>hm _ _ (by rw [Jl];exact zO)⟩)
   |exact zAE ((bc,Obj.cells (AAQ ({x with fUnique:=true}:TCol) (.slice a ({x with fUnique:=true}:TCol).fDefault.args.length c)).toArray 101 (0,0))::(b1,Obj.cells colZ.toArray 101 (0,0))::(L1++(b,RDo w k' false)::L2)) (zAA ⟨_,by omega,({x with fUnique:=true}:TCol),a,c,f2,(.good l.tail),k',false,rfl,hI2,rfl,hx,hs',by omega,by omega,λy2 s2 hh=>hm _ _ (by rw [Jl];exact zO)⟩)
   |exact zAE ((bc,Obj.cells (AAQ ({x with fDefault:=y}:TCol) (.slice a' ({x with fDefault:=y}:TCol).fDefault.args.length c')).toArray 101 (0,0))::(b1,Obj.cells colZ.toArray 101 (0,0))::(L1++(b,RDo w k' bd')::L2)) (zAA ⟨_,by omega,({x with fDefault:=y}:TCol),a',c',f2,s',k',bd',rfl,(zAB hI2 hI'),rfl,hv',hs',by omega,by omega,λy2 s2 hh=>hm _ _ (by rw [Jl];exact zO)⟩)
theorem AAH (n:Nat):Fd ω n b w toks 187 #[AL b] (DX n) (Hz TColV):=by
 intro K I L C st k bd hF h hs hn hk;obtain ⟨L1,L2,rfl,rfl⟩:=hF.foc;refine APm ?_;unfold ALz;refine AQ (λb1=>?_);try refine zqe ?_
 refine AQ (λbc=>?_);repeat' (first|refine zqa ?_|refine zqh (λ_=>?_)|refine zqr ?_|refine zqb ?_|refine zqi ?_ ?_|refine zqc ?_|refine zqg (λ_=>?_) (λ_=>?_)|refine zqe ?_|fail)
 refine call (BB h hs (λnm s1 k1 bd1 hs1 ho1 hz1 hzz1=>?_));obtain ⟨bt,off,p1,p2⟩:=hs1.peek h;have hlt:=hs1.lt;have hle:=hs1.le;have e1:IntKind.i64.wrap ((k1:Int)+1)=((k1+1:Nat):Int):=by rw [wrap_i64 _ zo];rfl
 have badO:(bd1=false→(if isK (toks.drop k1) 1 then typeOf (hd (toks.drop k1)).text else 0)=0)→∀y,Out (run (DX n) st) y (.bad (hd (toks.drop k1)).at'):=λh0 y=>BF ho1 (AHg hs1 h0);repeat' (first|(with_reducible first|refine BM ?_|refine keepA ?_|refine AQ (λ_=>?_))|(refine Gm (v:=.int .i64 (hd (toks.drop k1)).kind) (λI' L' hS=>p2 I' L' hS.1 0 _ rfl) ?_)|(refine Gm (v:=.string ⟨(hd (toks.drop k1)).text.toArray⟩) (λI' L' hS=>p2 I' L' hS.1 1 _ rfl) ?_)|(with_reducible refine call ?_;refine Xi _ ?_)|(with_reducible refine call ?_;refine Ad _ zD zA (λl k' hy hs' hz'=>?_) (λhno=>?_))|(with_reducible refine call ?_;refine BP _ zD zA (λl hy=>?_) (λhno=>?_))|(with_reducible refine call ?_;refine Aj _ zD zA (λs' k' bd' hs' ho' hz' hzz'=>?_))|(with_reducible refine call ?_;refine BB zD zA (λx s' k' bd' hs' ho' hz' hzz'=>?_))|(with_reducible first|refine BQ zC (λI' a hI' hw'=>zAA ?_)|refine BJ zC zC (λI' a hI' hw'=>zAA ?_)|refine Ba zC zC zC (λI' a hI' hw'=>zAA ?_))|(with_reducible refine call ?_;refine BN zC ?_)|refine zqr ?_|refine zqb ?_|(with_reducible first|refine Ap (sh187_1.eq_1 ..) ?_|refine Ap (sh187_2.eq_1 ..) ?_|refine Ap (sh187_3.eq_1 ..) ?_|refine And.intro ?_ ?_)|refine zqc ?_|refine zqg (λhb=>?_) (λhb=>?_)|(simp only [SSd,Nat.reduceAdd,p1,e1]))
 ·exact zAE (L1++(b,RDo w k1 true)::L2) (zAA (hk ⟨nm,typeOf (hd (toks.drop k1)).text,false,false,false,ex0⟩ _ k1 true I _ hs1.fail (badO (by intro _;simp_all [isK]) _) (zak _) (zAC _) ⟨_,rfl,_,rfl,zAD none 0⟩))
 ·exfalso;simp_all
 ·have hz:(typeOf (hd (toks.drop k1)).text)≠0:=by simpa using ‹(typeOf (hd (toks.drop k1)).text==0)=false›
  have hk1:isK (toks.drop k1) 1=true:=‹((hd (toks.drop k1)).kind==1)=true›;obtain rfl:bd1=false:=by assumption
  rcases hs1.st with ⟨_,rfl⟩|⟨q,_⟩
  rotate_left
  ·cases q
  have hs2:=hs1.next (by rw [Ih hk1];decide);have hl:=hs1.ok.len;exact AEU n (x:=⟨nm,typeOf (hd (toks.drop k1)).text,false,false,false,ex0⟩) (v:=.slice none 0 0) (f:=n) h hs2 (by simp only [Stt.sz] at *; omega) (by simp only [Stt.sz] at *; omega) (zAD none 0) (λy s' k' bd' I' v' r1 r2 r3 r4 r5=>hk y s' k' bd' I' v' r1 (BF ho1 (AKU hk1 hz r2)) (by simp only [Stt.sz] at *; omega) r4 r5)
 ·exact zAE (L1++(b,RDo w k1 true)::L2) (zAA (hk ⟨nm,0,false,false,false,ex0⟩ _ k1 true I _ hs1.fail (badO (by intro _;simp_all [isK]) _) (zak _) (zAC _) ⟨_,rfl,_,rfl,zAD none 0⟩))
 ·exact zAE (L1++(b,RDo w k1 true)::L2) (zAA (hk ⟨nm,0,false,false,false,ex0⟩ _ k1 true I _ hs1.fail (badO (by intro q;simp_all) _) (zak _) (zAC _) ⟨_,rfl,_,rfl,zAD none 0⟩))
end
abbrev stZ:List Value:=[.int .i64 0,.bool false,.slice none 0 0,.slice none 0 0,.int .i64 0,.int .i64 0,.bool false,.int .i64 0,.string ⟨#[]⟩,.string ⟨#[]⟩,.string ⟨#[]⟩,.int .i64 0,.int .i64 0,.bool false,.slice none 0 0,.slice none 0 0,.int .i64 0,.int .i64 0,.bool false,.int .i64 0,.string ⟨#[]⟩,.string ⟨#[]⟩,.string ⟨#[]⟩,.int .i64 0,.int .i64 0,.bool false,.slice none 0 0,.slice none 0 0,.int .i64 0,.int .i64 0,.string ⟨#[]⟩,.slice none 0 0,.slice none 0 0,.slice none 0 0,.int .i64 0,.int .i64 0,.bool false,.int .i64 0,.string ⟨#[]⟩,.string ⟨#[]⟩,.string ⟨#[]⟩,.int .i64 0,.int .i64 0,.bool false,.slice none 0 0,.slice none 0 0,.slice none 0 0,.string ⟨#[]⟩,.string ⟨#[]⟩,.slice none 0 0,.bool false]
abbrev Oh (nm:Bs)(w wk:Value):List Value:=[.int .i64 5,.bool false,.slice none 0 0,.slice none 0 0,.int .i64 0,.int .i64 0,.bool false,.int .i64 0,.string ⟨#[]⟩,.string ⟨#[]⟩,.string ⟨#[]⟩,.int .i64 0,.int .i64 0,.bool false,.slice none 0 0,.slice none 0 0,.int .i64 0,.int .i64 0,.bool false,.int .i64 0,.string ⟨#[]⟩,.string ⟨#[]⟩,.string ⟨#[]⟩,.int .i64 0,.int .i64 0,.bool false,.slice none 0 0,.slice none 0 0,.int .i64 0,.int .i64 0,.string ⟨nm.toArray⟩,.slice none 0 0,.slice none 0 0,.slice none 0 0,.int .i64 0,.int .i64 0,.bool false,.int .i64 0,.string ⟨#[]⟩,.string ⟨#[]⟩,.string ⟨#[]⟩,.int .i64 0,.int .i64 0,.bool false,.slice none 0 0,w,wk,.string ⟨#[]⟩,.string ⟨#[]⟩,.slice none 0 0,.bool false]
def Oq (w:Value)(n:Nat):Prop:=(n=0∧w= .slice none 0 0)∨(0 < n∧∃p k,w= .slice (some p) n k)
theorem SlO.nn {T n len:Nat}{X:LH}{v:Value}{cells:List Value}(h:SlO T n X v cells len)(h0:0 < len):Oq v len:=by
 obtain ⟨_,h8⟩:=h;rcases h8 with ⟨_,h1,_⟩|⟨b8,k8,_,_,h8,_⟩
 ·omega
 ·exact .inr ⟨h0,_,_,h8⟩
theorem RL.nn {α:Type}{R:Imm→α→List Value→Prop}{n:Nat}{I:Imm}{v:Value}{xs:List α}(hn:0 < n)(h:RL R n I [] v xs)(h0:0 < xs.length):Oq v xs.length:=by
 obtain ⟨cells,⟨_,a,cap,rfl,_,h⟩,_⟩:=RL.toI hn h;obtain ⟨b,off,cs,T,fr,ha,_⟩:=h zo;exact .inr ⟨h0,⟨b,off,none⟩,cap,by rw [ha]⟩
theorem ADK {α:Type}{n:Nat}{g:Pr α}{l r:List Tok}{x:List α}(h:BL n g l= .ok x r):0 < x.length:=by
 have go:∀m (acc:List α) l x r,Cm g m acc l= .ok x r→acc.length≤x.length:=by
  intro m;induction m with
  |zero=>intro acc l x r h;simp only [Cm,Res.ok.injEq] at h;obtain ⟨rfl,_⟩:=h;exact zW _
  |succ m ih=>
   intro acc l x r h;simp only [Cm] at h;split at h
   ·cases hg:g l.tail with
    |ok y r2=>rw [hg] at h;have:=ih _ _ _ _ h;simp at this;omega
    |err e=>rw [hg] at h;simp [Res.bind] at h
   ·simp only [Res.ok.injEq] at h;obtain ⟨rfl,_⟩:=h;exact zW _
 simp only [BL] at h;cases hg:g l with
 |ok y r2=>rw [hg] at h;have:=go _ _ _ _ _ h;simp at this;omega
 |err e=>rw [hg] at h;simp [Res.bind] at h
theorem ACv {α:Type}{n:Nat}{g:Pr α}{l r:List Tok}{x:List α}(h:Bc n g l= .ok x r):0 < x.length:=by
 simp only [Bc] at h;cases h1:AP [40] l with
 |err e=>rw [h1] at h;simp [Res.bind] at h
 |ok _ r1=>
  rw [h1] at h;simp only [Res.bind] at h;cases h2:BL n g r1 with
  |err e=>rw [h2] at h;simp at h
  |ok y r2=>
   rw [h2] at h;simp only at h;cases h3:AP [41] r2 with
   |err e=>rw [h3] at h;simp at h
   |ok _ r3=>rw [h3] at h;simp only [Res.ok.injEq] at h;obtain ⟨rfl,_⟩:=h;exact ADK h2
def Vm (nm:Bs)(x:List TCol×List Bs)(r:List Tok):Res TStmt:=if x.1.isEmpty then bad r else (AP [41] r).bind λ_ r=>.ok {(default:TStmt) with fKind:=5,fTable:=nm,fCols:=x.1,fKey:=x.2} r
theorem ADG (n:Nat)(l:List Tok):Je n l=(Ar l).bind λs r=>(AP [40] r).bind λ_ r=>(EJ n (n+1) [] [] r).bind (Vm s):=rfl
def Ky (n:Nat)(cs:List TCol)(ks:List Bs)(l:List Tok):Res (List TCol×List Bs):=
 if (ks.isEmpty&&isT l [112,114,105,109,97,114,121])=true then (AP [107,101,121] l.tail).bind λ_ r=>(Bc n Ar r).bind λk r=>.ok (cs,k) r else (DX n l).bind λc r=>Res.ok (cs++[c],ks) r
theorem QW (n m:Nat)(cs:List TCol)(ks:List Bs)(l:List Tok):EJ n (m+1) cs ks l=(Ky n cs ks l).bind λx r=>if isT r [44] then EJ n m x.1 x.2 r.tail else .ok x r:=rfl
theorem AVL {I:Imm}{L:LH}{K:Value→M}{x:TCol}{c:List Value}(hc:TColV I x c)(hk:∀I' a,Ext I I'→RL TColV 16 I' [] (.slice a 1 1) [x]→Gh (K (.slice a 1 1)) I' L):
  AU 101 16 #[.string ⟨#[]⟩,.int .i64 0,.bool false,.bool false,.bool false,.int .i64 0,.int .i64 0,.bool false,.int .i64 0,.string ⟨#[]⟩,.string ⟨#[]⟩,.string ⟨#[]⟩,.int .i64 0,.int .i64 0,.bool false,.slice none 0 0] 1 [(0,.agg c.toArray)] (gh K) I L:=
 EQ (R:=TColV) [x] [c] rfl rfl rfl (by simpa using hc.len) (by simpa using hc) (λhI h=>TColV.mono h hI) hk
section
variable {ω:Om}{b:Nat}
theorem RG (n:Nat)(hn0:n≤1000000000){I:Imm}{L:LH}{K Pn:Value→M}{C:Obj→LH}{v:Value}{l:List Tok}[hF:Foc b L (PBo v) C](h:TL I v l)(hT:Toks l)(hl:l.length≤n)
  (hok:∀x r,Bc n Ar l= .ok x r→Toks r→r.length≤l.length→∀I' v' a k,Ext I I'→TL I' v' r→StL I' (.slice (some a) x.length k) x→0 < x.length→K (.slice (some a) x.length k) I' (C (PBo v'))) (herr:PEr (Bc n Ar l) Pn C I):CalP Tryz.prog ω 97 #[AL b] K Pn I L:=
 ZM n hn0 h hT hl (λx r hg hT' hr I' v' w hI hv' hw=>by
  have hpos:=ACv hg;rcases RL.nn zx hw.1 hpos with ⟨h0,_⟩|⟨_,p,k,rfl⟩
  ·omega
  ·exact hok x r hg hT' hr I' v' p k hI hv' hw.1 hpos) herr
theorem AVD {I:Imm}{X L1 L2:LH}{Kn1:Unit→M}{K Pn:Value→M}{v w wk:Value}{l:List Tok}{b1 bs N0:Nat}{nm:Bs}{cs:List TCol}{ks:List Bs}{cells:List Value}(h:TL I v l)(hT:Toks l)(hN:l.length≤N0)
  (hX:SlO 101 16 X w cells cs.length) (hR:Recs (TColV I) 16 cs cells) (hw:Oq w cs.length) (hk:StL I wk ks) (hkn:Oq wk ks.length)
  (hnext:isT l [44]=true→∀v,TL I v l.tail→Gh (Kn1 ()) I (X++((bs,.cells (Oh nm w wk).toArray 48 (0,0))::(b1,.cells stZ.toArray 48 (0,0))::(L1++(b,PBo v)::L2))))
  (hok:isT l [44]=false→VOk TStmtV (Vm nm (cs,ks) l) N0 K (λo=>L1++(b,o)::L2) I) (herr:isT l [44]=false→PEr (Vm nm (cs,ks) l) Pn (λo=>L1++(b,o)::L2) I):
  MO ω (AL b) (AL b1) (AL bs) (λs=>Gh (Kn1 s)) (λv=>Gh (K v)) (λv=>Gh (Pn v)) I (X++((bs,.cells (Oh nm w wk).toArray 48 (0,0))::(b1,.cells stZ.toArray 48 (0,0))::(L1++(b,PBo v)::L2))):=by
 unfold MO;refine Az (CY [44] h hT (λhb hT' hl' v' hv'=>?_) (λhb=>?_))
 ·repeat' (first|refine zqa ?_|refine zqh (λ_=>?_)|refine zqr ?_|refine zqb ?_|refine zqi ?_ ?_|refine zqc ?_|refine zqg (λ_=>?_) (λ_=>?_)|refine zqe ?_|fail)
  exact hnext hb v' hv'
 have hok:=hok hb;have herr:=herr hb;have hl1:=hT.len;rcases hw with ⟨h0,rfl⟩|⟨h0,p,kc,rfl⟩
 ·have hcs:cs=[]:=zae h0;subst hcs;repeat' (first|refine zqa ?_|refine zqh (λ_=>?_)|refine zqr ?_|refine zqb ?_|(with_reducible first|refine Ap (sh157_5.eq_1 ..) ?_|refine And.intro ?_ ?_)|refine zqc ?_|refine zqg (λ_=>?_) (λ_=>?_)|refine zqe ?_|fail)
  refine Aa (Ak h hT ?_);exact zAE (L1++(b,PBo v)::L2) (zAA (herr _ rfl I v (zAC _)))
 ·have hce:cs.isEmpty=false:=by cases cs with
   |nil=>simp at h0
   |cons=>rfl
  obtain ⟨ak,kk,rfl⟩:=zAF hk;repeat' (first|(with_reducible first|refine CX (b:=b) ?_|refine keepA ?_|refine AQ (λ_=>?_))|(with_reducible refine Az ?_;refine CY _ zT zA (λhb hT' hl' v' hv'=>?_) (λhb=>?_))|(with_reducible refine CG _ zT zA (λhb hT' hl' I' v' hI' hv'=>?_) (λhb I' v' hI'=>?_))|(with_reducible refine Aa ?_;refine Cj zT zA (λhb hT' hl' v' hv'=>?_) (λhb=>?_))|(with_reducible refine Aa ?_;refine Ak zT zA ?_)|(with_reducible first|refine BQ zC (λI' a hI' hw'=>zAA ?_)|refine BJ zC zC (λI' a hI' hw'=>zAA ?_)|refine Ba zC zC zC (λI' a hI' hw'=>zAA ?_))|(with_reducible refine Az ?_;refine BV zC ?_)|refine zqr ?_|refine zqb ?_|(with_reducible first|refine Ap (sh157_5.eq_1 ..) ?_|refine Ap (sh157_6.eq_1 ..) ?_|refine And.intro ?_ ?_)|refine zqc ?_|refine zqg (λhb=>?_) (λhb=>?_)|refine zqe ?_|fail)
  ·refine zAE (X++(L1++(b,PBo v')::L2)) ?_;refine RL.ofO (R:=TColV) (λ{I I' x c} h hI=>TColV.mono h hI) hX (zAU (λ_ _ h=>TColV.mono h zE) hR) (λI3 hI3 hw=>zAA ?_);exact hok {(default:TStmt) with fKind:=5,fTable:=nm,fCols:=cs,fKey:=ks} _ (by simp [Vm,hce,AP,hb,Res.bind] <;> rfl) zA zo I3 _ _ zE zT ⟨_,_,_,_,_,_,_,_,_,_,_,_,_,rfl,zAD none 0,zAD none 0,zAD none 0,zAD none 0,zAD none 0,zAD none 0,zAD none 0,zAD none 0,zAD none 0,zAD none 0,hw,(zAJ hk zE),zAD none 0⟩
  ·exact zAE (L1++(b,PBo v')::L2) (zAA (herr _ (by simp [Vm,hce,AP,hb,Res.bind,bad]) I' v' zE))
theorem AFF (n:Nat)(hn0:n≤1000000000){I:Imm}{X L1 L2:LH}{Kn1:Unit→M}{K Pn:Value→M}{v w wk:Value}{l:List Tok}{b1 bs N0:Nat}{nm:Bs}{cs:List TCol}{ks:List Bs}{cells:List Value}(h:TL I v l)(hT:Toks l)(hl:l.length≤n)(hN:l.length≤N0)
  (hX:SlO 101 16 X w cells cs.length) (hR:Recs (TColV I) 16 cs cells) (hcs:cs.length≤1000000001) (hw:Oq w cs.length) (hk:StL I wk ks) (hkn:Oq wk ks.length)
  (hnext:∀cs' ks' r,Ky n cs ks l= .ok (cs',ks') r→isT r [44]=true→Toks r.tail→r.tail.length+1≤l.length→cs'.length≤cs.length+1→∀I' X v w wk cells,Ext I I'→TL I' v r.tail→SlO 101 16 X w cells cs'.length→Recs (TColV I') 16 cs' cells→Oq w cs'.length→StL I' wk ks'→Oq wk ks'.length→Gh (Kn1 ()) I' (X++((bs,.cells (Oh nm w wk).toArray 48 (0,0))::(b1,.cells stZ.toArray 48 (0,0))::(L1++(b,PBo v)::L2))))
  (hok:∀x r,Ky n cs ks l= .ok x r→isT r [44]=false→VOk TStmtV (Vm nm x r) N0 K (λo=>L1++(b,o)::L2) I) (herr:PEr ((Ky n cs ks l).bind λx r=>if isT r [44] then .ok default [] else Vm nm x r) Pn (λo=>L1++(b,o)::L2) I):
  VC ω (AL b) (AL b1) (AL bs) (λs=>Gh (Kn1 s)) (λv=>Gh (K v)) (λv=>Gh (Pn v)) I (X++((bs,.cells (Oh nm w wk).toArray 48 (0,0))::(b1,.cells stZ.toArray 48 (0,0))::(L1++(b,PBo v)::L2))):=by
 have hl1:=hT.len;unfold VC;have hcol:=AEf (ω:=ω) (b:=b) n;have ext:∀{I':Imm} {v' wk':Value} {l':List Tok} {ks':List Bs} {X':LH} {w':Value} {cells':List Value} {cs':List TCol},Ext I I'→TL I' v' l'→Toks l'→l'.length≤l.length→Ky n cs ks l= .ok (cs',ks') l'→cs'.length≤cs.length+1→SlO 101 16 X' w' cells' cs'.length→Recs (TColV I') 16 cs' cells'→Oq w' cs'.length→StL I' wk' ks'→Oq wk' ks'.length→
   MO ω (AL b) (AL b1) (AL bs) (λs=>Gh (Kn1 s)) (λv=>Gh (K v)) (λv=>Gh (Pn v)) I' (X'++((bs,.cells (Oh nm w' wk').toArray 48 (0,0))::(b1,.cells stZ.toArray 48 (0,0))::(L1++(b,PBo v')::L2))):=by
  intro I' v' wk' l' ks' X' w' cells' cs' hI' hTL' hT' hl' hg hcl hX' hR' hw' hk' hkn';refine AVD (N0:=N0) hTL' hT' zo hX' hR' hw' hk' hkn' (λhb v2 hv2=>?_) (λhb x r hx hTr hr I2 v2 c hI2 hv2 hc=>?_) (λhb e hx I2 v2 hI2=>?_)
  ·exact hnext _ _ _ hg hb (hT'.tailT hb) (by have:=hT'.len;omega) hcl I' _ _ _ _ _ hI' hv2 hX' hR' hw' hk' hkn'
  ·exact hok _ _ hg hb x r hx hTr hr I2 v2 c (zAB hI' hI2) hv2 hc
  ·exact herr e (by rw [hg];simp [Res.bind,hb,hx]) I2 v2 (zAB hI' hI2)
 have col:ks.isEmpty=false∨isT l [112,114,105,109,97,114,121]=false→PW ω (AL b) (AL b1) (AL bs) (λs=>Gh (Kn1 s)) (λv=>Gh (K v)) (λv=>Gh (Pn v)) I (X++((bs,.cells (Oh nm w wk).toArray 48 (0,0))::(b1,.cells stZ.toArray 48 (0,0))::(L1++(b,PBo v)::L2))):=by
  intro hcase;have hnx:Ky n cs ks l=(DX n l).bind λc r=>Res.ok (cs++[c],ks) r:=by
   rcases hcase with hc|hc <;> simp [Ky,hc]
  unfold PW;refine CX (b:=b) ?_;try refine zqe ?_
  refine CB ?_;refine Aa (hcol.go h hT hl (λx r hg hT3 hr I3 v3 c hI3 hv3 hc=>?_) (λe hg I3 v3 hI3=>zAE (L1++(b,PBo v3)::L2) (zAA (herr e (by rw [hnx];simp [Res.bind,hg]) I3 v3 hI3))));refine CV hI3 ?_;refine AVL hc (λI4 a4 hI4 hw4=>zAA ?_);refine CV (zAB hI3 hI4) ?_;obtain ⟨c4,s4,r4⟩:=RL.toI zx hw4;refine Dx (X:=X) rfl hX s4.news (r4.one_cells λx c h=>TColV.one h) zL zL (λX5 w5 hX5=>?_);have e5:cs.length+[x].length=(cs++[x]).length:=by simp
  rw [e5] at hX5;have hR5:=zAS (zAU (R':=TColV I4) (λ_ _ h=>TColV.mono h (zAB hI3 hI4)) hR) r4;have hn5:=SlO.nn hX5 zy;obtain ⟨a5,k5,rfl⟩:=hX5.form;repeat' (first|refine zqa ?_|refine zqh (λ_=>?_)|refine zqr ?_|refine zqb ?_|refine zqi ?_ ?_|refine zqc ?_|refine zqg (λ_=>?_) (λ_=>?_)|refine zqe ?_|fail)
  exact ext (zAB hI3 hI4) (hv3.mono hI4) hT3 hr (by rw [hnx];simp [Res.bind,hg]) zy hX5 hR5 hn5 (hk.mono (zAB hI3 hI4)) hkn
 rcases hkn with ⟨h0,rfl⟩|⟨h0,p,kc,rfl⟩
 ·have hks:ks=[]:=zae h0;subst hks;have hw3:=hw;rcases hw3 with ⟨_,hw3⟩|⟨_,pw,kw,hw3⟩ <;> subst hw3
  all_goals repeat' (first|(with_reducible first|refine CX (b:=b) ?_|refine keepA ?_|refine AQ (λ_=>?_))|(with_reducible refine Aa ?_;refine RG n hn0 zT zA zo (λx r hg hT3 hr I' v' a' k' hI' hv' hw' hpos=>?_) (λe hg I' v' hI'=>?_))|(with_reducible refine Az ?_;refine CY _ zT zA (λhb hT' hl' v' hv'=>?_) (λhb=>?_))|(with_reducible refine CG _ zT zA (λhb hT' hl' I' v' hI' hv'=>?_) (λhb I' v' hI'=>?_))|(with_reducible refine Aa ?_;refine Cj zT zA (λhb hT' hl' v' hv'=>?_) (λhb=>?_))|(with_reducible refine Aa ?_;refine Ak zT zA ?_)|(with_reducible first|refine BQ zC (λI' a hI' hw'=>zAA ?_)|refine BJ zC zC (λI' a hI' hw'=>zAA ?_)|refine Ba zC zC zC (λI' a hI' hw'=>zAA ?_))|(with_reducible refine Az ?_;refine BV zC ?_)|refine zqr ?_|refine zqb ?_|(with_reducible first|refine Ap (sh157_2.eq_1 ..) ?_|refine And.intro ?_ ?_)|refine zqc ?_|refine zqg (λhb=>?_) (λhb=>?_)|refine zqe ?_|fail)
  all_goals first
   |exact col (.inr zA)
   |exact ext (by first|exact zAC _|exact zE) zT zA zo (by simp [Ky,AP,Res.bind, *]) zo hX (zAU (λ_ _ h=>TColV.mono h zE) hR) hw hw' (.inr ⟨by assumption,_,_,rfl⟩)
   |exact zAE (L1++(b,PBo v')::L2) (zAA (herr _ (by simp [Ky,AP,Res.bind,bad, *] <;> rfl) _ _ zE))
 ·have hke:ks.isEmpty=false:=by cases ks with
   |nil=>simp at h0
   |cons=>rfl
  repeat' (first|refine zqa ?_|refine zqh (λ_=>?_)|refine zqr ?_|refine zqb ?_|refine zqi ?_ ?_|refine zqc ?_|refine zqg (λ_=>?_) (λ_=>?_)|refine zqe ?_|fail)
  exact col (.inl hke)
theorem AFD (n:Nat)(hn0:n≤1000000000):FnV ω n b 157 (Je n) TStmtV:=by
 intro K Pn I L C v l hF h hT hl hok herr;obtain ⟨L1,L2,rfl,rfl⟩:=hF.foc;rw [ADG] at hok herr;refine AQH ?_;unfold AMP;refine AQ (λb1=>?_);refine Aa (Cj h hT (λhn hT1 hl1 v1 hv1=>?_) (λhn=>zAE (L1++(b,PBo v)::L2) (zAA (herr (hd l).at' (by simp [Ar,Res.bind,bad,hn]) I v (zAC _)))));try refine zqe ?_
 refine AQ (λbs=>?_);repeat' (first|refine zqa ?_|refine zqh (λ_=>?_)|refine zqr ?_|refine zqb ?_|refine zqi ?_ ?_|refine zqc ?_|refine zqg (λ_=>?_) (λ_=>?_)|refine zqe ?_|fail)
 refine CG [40] hv1 hT1 (λhw hT2 hl2 I2 v2 hI2 hv2=>?_) (λhw I2 v2 hI2=>zAE (L1++(b,PBo v2)::L2) (zAA (herr (hd l.tail).at' (by simp [Ar,Res.bind,bad,hn,AP,hw]) I2 v2 hI2)));have e:∀{x},x=((Ar l).bind λs r=>(AP [40] r).bind λ_ r=>(EJ n (n+1) [] [] r).bind (Vm s))↔x=(EJ n (n+1) [] [] l.tail.tail).bind (Vm (hd l).text):=by
  intro x;simp [Ar,Res.bind,hn,AP,hw]
 have e:=e.1 rfl;rw [e] at hok herr;clear e;refine loop (λm s I3 Lx=>∃X v l2 w wk cells cs ks f,l2.length=m∧Ext I I3∧Lx=X++((bs,.cells (Oh (hd l).text w wk).toArray 48 (0,0))::(b1,.cells stZ.toArray 48 (0,0))::(L1++(b,PBo v)::L2))∧TL I3 v l2∧Toks l2∧SlO 101 16 X w cells cs.length∧Recs (TColV I3) 16 cs cells∧Oq w cs.length∧StL I3 wk ks∧Oq wk ks.length∧l2.length≤f∧cs.length+l2.length≤l.length∧EJ n (n+1) [] [] l.tail.tail=EJ n f cs ks l2) l.tail.tail.length
  ⟨[],v2,l.tail.tail,.slice none 0 0,.slice none 0 0,[],[],[],n+1,rfl,hI2,rfl,hv2,hT2,SlO.none _ _,rfl,.inl ⟨rfl,rfl⟩,zAD none 0,.inl ⟨rfl,rfl⟩,by omega,by simp;omega,rfl⟩ ?_
 rintro m s I3 Lx ⟨X,v3,l2,w,wk,cells,cs,ks,f,rfl,hI3,rfl,hTL,hT3,hX,hR,hw3,hk,hkn,hf,hlen,hm⟩;have hl3:=hT3.len;obtain ⟨f,rfl⟩:∃k,f=k+1:=⟨f - 1,by omega⟩;rw [hm,QW,ER] at hok herr;rw [QW n f cs ks l2] at hm;refine AFF n hn0 (N0:=l.length) hTL hT3 zo zo hX hR zo hw3 hk hkn (λcs' ks' r hg hb hTr hr hcl I4 X4 v4 w4 wk4 cells4 hI4 hv4 hX4 hR4 hw4 hk4 hkn4=>?_) (λx r hg hb y q hy hTq hq I4 v4 c hI4 hv4 hc=>?_) (λe hg I4 v4 hI4=>?_)
 ·exact zAA ⟨r.tail.length,by omega,X4,v4,r.tail,w4,wk4,cells4,cs',ks',f,rfl,zAB hI3 hI4,rfl,hv4,hTr,hX4,hR4,hw4,hk4,hkn4,by omega,by omega,by rw [hm,hg];simp only [Res.bind,hb,if_true]⟩
 ·exact hok y q (by simp [hg,Res.bind,hb,hy]) hTq hq I4 v4 c (zAB hI3 hI4) hv4 hc
 ·refine herr e ?_ I4 v4 (zAB hI3 hI4);cases hx:Ky n cs ks l2 with
  |err e'=>rw [hx] at hg;simpa [Res.bind] using hg
  |ok x r=>
   rw [hx] at hg;cases hb:isT r [44] with
   |true=>simp [Res.bind,hb] at hg
   |false=>simpa [Res.bind,hb] using hg
end
def OV (nm:Bs)(x:List TCol×List Bs):Pr TStmt:=λr=>if x.1.isEmpty then bad r else BC (AP [41]) (λ_=>okP {(default:TStmt) with fKind:=5,fTable:=nm,fCols:=x.1,fKey:=x.2}) r
theorem AFE (n:Nat):Je n=BC Ar λs=>BC (AP [40]) λ_=>BC (EJ n (n+1) [] []) (OV s):=rfl
theorem KF (n m:Nat)(cs:List TCol)(ks:List Bs):EJ n (m+1) cs ks=BC (Oo ks.isEmpty [112,114,105,109,97,114,121] (BC (AP [107,101,121]) λ_=>BC (Bc n Ar) λk=>okP (cs,k)) (BC (DX n) λc=>okP (cs++[c],ks))) λx=>itP [44] (EJ n m x.1 x.2) (okP x):=rfl
theorem AHW {s:Bs}{st s':Stt}{l:List Tok}(hy:Yes s st l)(h:Out (run (AP s) st) () s'):s'= .good l.tail:=by
 obtain ⟨rfl,hy⟩:=hy;have h:Out (if isT l s then Res.ok () l.tail else bad l) () s':=h;rw [if_pos hy] at h;exact h.2
theorem AHe {nm:Bs}{x:List TCol×List Bs}{y:TStmt}{toks:List Tok}{s:Stt}{k:Nat}{bd:Bool}(hs:RdS toks s k bd)(h:x.1.isEmpty=true):Out (run (OV nm x) s) y (.bad (hd (toks.drop k)).at'):=by
 rcases hs.st with ⟨_,rfl⟩|⟨_,rfl⟩
 ·show Out (OV nm x _) y _;simp only [OV,h,if_true];exact rfl
 ·exact rfl
theorem AHd {nm:Bs}{x:List TCol×List Bs}{s s':Stt}(hx:x.1.isEmpty=false)(h:Out (run (AP [41]) s) () s'):Out (run (OV nm x) s) {(default:TStmt) with fKind:=5,fTable:=nm,fCols:=x.1,fKey:=x.2} s':=by
 have e:OV nm x=BC (AP [41]) (λ_=>okP {(default:TStmt) with fKind:=5,fTable:=nm,fCols:=x.1,fKey:=x.2}):=by
  funext r
  simp only [OV,hx,zt,if_false]
 rw [e];exact BF h DU
theorem ACU {α:Type}(l:List α):((l.length:Int)==0)=l.isEmpty:=by
 cases l with
 |nil=>rfl
 |cons x l=>simp only [zh,zbo];exact beq_false_of_ne zo
section
variable {ω:Om}{b:Nat}{w:Value}{toks:List Tok}
theorem OA (n:Nat){I:Imm}{L:LH}{K:Value→M}{C:Obj→LH}{st:Stt}{k:Nat}{bd:Bool}[hF:Foc b L (RDo w k bd) C](hw:TD I w toks)(hs:RdS toks st k bd)(hn:st.sz < n)
  (hk:∀x s' k' bd' I' a c,RdS toks s' k' bd'→Out (run (Bc n Ar) st) x s'→s'.sz≤st.sz→Ext I I'→StL I' (.slice a x.length c) x→K (.slice a x.length c) I' (C (RDo w k' bd'))):CT ω 130 #[AL b] K I L:=
 FdW.goW (AEP n) hw hs hn hk
theorem Rq (n:Nat){I:Imm}{L:LH}{K:Value→M}{C:Obj→LH}{st:Stt}{k:Nat}{bd:Bool}[hF:Foc b L (RDo w k bd) C](hw:TD I w toks)(hs:RdS toks st k bd)(hn:st.sz < n)
  (hk:∀x s' k' bd' I' a c,RdS toks s' k' bd'→Out (run (DX n) st) x s'→s'.sz≤st.sz→Ext I I'→ExL I' (.slice a x.fDefault.args.length c) x.fDefault.args→K (.agg (AAQ x (.slice a x.fDefault.args.length c)).toArray) I' (C (RDo w k' bd'))):CT ω 187 #[AL b] K I L:=
 (AAH n).go hw hs hn λx s' k' bd' I' v h1 h2 h3 h4 h5=>by
  obtain ⟨c,rfl,v0,rfl,h6⟩:=h5;obtain ⟨a,c,rfl⟩:=zAF h6;exact hk x s' k' bd' I' a c h1 h2 h3 h4 h6
theorem AEL (n:Nat)(hn0:n≤1000000000):Fd ω n b w toks 132 #[AL b] (Je n) (Hz TStmtV):=by
 intro K I L C st k bd hF h hs hn hk;obtain ⟨L1,L2,rfl,rfl⟩:=hF.foc;refine AQg ?_;unfold AMk;refine AQ (λb1=>?_);try refine zqe ?_
 refine AQ (λbs=>?_);repeat' (first|refine zqa ?_|refine zqh (λ_=>?_)|refine zqr ?_|refine zqb ?_|refine zqi ?_ ?_|refine zqc ?_|refine zqg (λ_=>?_) (λ_=>?_)|refine zqe ?_|fail)
 refine call (BB h hs (λnm s1 k1 bd1 hs1 ho1 hz1 _=>?_));repeat' (first|refine zqa ?_|refine zqh (λ_=>?_)|refine zqr ?_|refine zqb ?_|refine zqi ?_ ?_|refine zqc ?_|refine zqg (λ_=>?_) (λ_=>?_)|refine zqe ?_|fail)
 refine call (Aj _ h hs1 (λs2 k2 bd2 hs2 ho2 hz2 _=>?_));refine loop (λm s I2 Lx=>∃(X:LH) (a:Option Addr) (c:Nat) (cells:List Value) (cs:List TCol) (ak:Option Addr) (ck:Nat) (ks:List Bs) (f:Nat) (st2:Stt) (k2:Nat) (bd2:Bool),st2.sz=m∧Ext I I2∧Lx=(bs,Obj.cells (Oh nm (.slice a cs.length c) (.slice ak ks.length ck)).toArray 48 (0,0))::(b1,Obj.cells stZ.toArray 48 (0,0))::(X++(L1++(b,RDo w k2 bd2)::L2))∧SlO 101 16 X (.slice a cs.length c) cells cs.length∧Recs (TColV I2) 16 cs cells∧StL I2 (.slice ak ks.length ck) ks∧RdS toks st2 k2 bd2∧st2.sz < f∧cs.length+st2.sz≤st.sz∧(∀y s',Out (run (EJ n f cs ks) st2) y s'→Out (run (EJ n (n+1) [] []) s2) y s')) s2.sz
  ⟨[],none,0,[],[],none,0,[],n+1,s2,k2,bd2,rfl,zAC _,rfl,SlO.none _ _,rfl,zAD none 0,hs2,by omega,by simp;omega,λ_ _ h=>h⟩ ?_
 rintro m s I2 Lx ⟨X,a,c,cells,cs,ak,ck,ks,f,st2,k2,bd2,rfl,hI2,rfl,hX,hR,hK,hs3,hf,hlen,hm⟩;have last:∀{I3:Imm} {X3:LH} {a3 ak3:Option Addr} {c3 ck3:Nat} {cells3:List Value} {cs3:List TCol} {ks3:List Bs} {s3:Stt} {k3:Nat} {bd3:Bool},Ext I I3→SlO 101 16 X3 (.slice a3 cs3.length c3) cells3 cs3.length→Recs (TColV I3) 16 cs3 cells3→StL I3 (.slice ak3 ks3.length ck3) ks3→RdS toks s3 k3 bd3→s3.sz≤st.sz→Out (run (EJ n (n+1) [] []) s2) (cs3,ks3) s3→
   Pj ω (AL b) (AL b1) (AL bs) (λv=>Gh (K v)) I3 ((bs,Obj.cells (Oh nm (.slice a3 cs3.length c3) (.slice ak3 ks3.length ck3)).toArray 48 (0,0))::(b1,Obj.cells stZ.toArray 48 (0,0))::(X3++(L1++(b,RDo w k3 bd3)::L2))):=by
  intro I3 X3 a3 ak3 c3 ck3 cells3 cs3 ks3 s3 k3 bd3 hI3 hX3 hR3 hK3 hs3 hz3 ho3;have fin:∀{I4:Imm} {y:List TCol} {s4:Stt} {k4:Nat} {bd4:Bool},Ext I3 I4→RdS toks s4 k4 bd4→s4.sz≤st.sz→Out (run (OV nm (cs3,ks3)) s3) {(default:TStmt) with fKind:=5,fTable:=nm,fCols:=cs3,fKey:=ks3} s4→Gh (K (.agg (Oh nm (.slice a3 cs3.length c3) (.slice ak3 ks3.length ck3)).toArray)) I4 (X3++(L1++(b,RDo w k4 bd4)::L2)):=by
   intro I4 y s4 k4 bd4 hI4 hs4 hz4 ho4;refine RL.ofO (R:=TColV) (λh hI=>TColV.mono h hI) hX3 (hR3.imp λ_ _ h=>TColV.mono h hI4) (λI5 hI5 hw=>zAA ?_);exact hk _ s4 k4 bd4 I5 _ hs4 (by rw [AFE];exact BF ho1 (BF ho2 (BF ho3 ho4))) zo zE ⟨_,rfl,_,_,_,_,_,_,_,_,_,_,_,_,_,rfl,zAD none 0,zAD none 0,zAD none 0,zAD none 0,zAD none 0,zAD none 0,zAD none 0,zAD none 0,zAD none 0,zAD none 0,hw,(zAJ hK3 zE),zAD none 0⟩
  unfold Pj;repeat' (first|(with_reducible first|refine BM ?_|refine keepA ?_|refine AQ (λ_=>?_))|(with_reducible refine call ?_;refine Ad _ zD zA (λl k' hy hs' hz'=>?_) (λhno=>?_))|(with_reducible refine call ?_;refine BP _ zD zA (λl hy=>?_) (λhno=>?_))|(with_reducible refine call ?_;refine Aj _ zD zA (λs' k' bd' hs' ho' hz' hzz'=>?_))|(with_reducible refine call ?_;refine BB zD zA (λx s' k' bd' hs' ho' hz' hzz'=>?_))|(with_reducible first|refine BQ zC (λI' a hI' hw'=>zAA ?_)|refine BJ zC zC (λI' a hI' hw'=>zAA ?_)|refine Ba zC zC zC (λI' a hI' hw'=>zAA ?_))|(with_reducible refine call ?_;refine BN zC ?_)|refine zqr ?_|refine zqb ?_|(with_reducible first|refine Ap (sh132_6.eq_1 ..) ?_|refine And.intro ?_ ?_)|refine zqc ?_|refine zqg (λhb=>?_) (λhb=>?_)|(simp only [SSd,Nat.reduceAdd,ACU]))
  ·have hs3f:=hs3.fail;refine call (Aj _ zD hs3f (λs4 k4 bd4 hs4 ho4 hz4 _=>?_));have h4:s4= .bad (hd (toks.drop k3)).at':=ho4;subst h4;repeat' (first|refine zqa ?_|refine zqh (λ_=>?_)|refine zqr ?_|refine zqb ?_|refine zqi ?_ ?_|refine zqc ?_|refine zqg (λ_=>?_) (λ_=>?_)|refine zqe ?_|fail)
   exact zAE (X3++(L1++(b,RDo w k4 bd4)::L2)) (fin (y:=[]) (zAC _) hs4 (zak _) (AHe hs3 hb))
  ·exact zAE (X3++(L1++(b,RDo w k' bd')::L2)) (fin (y:=[]) (zAC _) hs' zo (AHd hb ho'))
 unfold ABn;try refine zqe ?_
 refine rdb ?_;cases bd2 with
 |true=>
  obtain ⟨e,rfl⟩:=hs3.zero;simp only [zQ,SSd,Nat.reduceAdd];exact last hI2 hX hR hK hs3 (zak _) (hm _ _ out_bad)
 |false=>
  have h1:=hs3.one;obtain ⟨f,rfl⟩:∃q,f=q+1:=⟨f - 1,by omega⟩;simp only [zG,SSd,Nat.reduceAdd];refine call (BP _ zD hs3 (λl hy=>?_) (λhno=>?_))
  ·try refine zqe ?_
   refine rdb ?_;simp only [ACU,SSd,Nat.reduceAdd];refine AB (λhb=>?_) (λhb=>?_)
   ·unfold ABm;refine call (Aj _ zD hs3 (λs5 k5 bd5 hs5 ho5 hz5 _=>?_));obtain rfl:=AHW hy ho5;refine call (Aj _ zD hs5 (λs6 k6 bd6 hs6 ho6 hz6 _=>?_));refine call (OA n zD hs6 zo (λx s8 k8 bd8 I8 a8 c8 hs8 ho7 hz8 hI8 hv8=>?_));repeat' (first|refine zqa ?_|refine zqh (λ_=>?_)|refine zqr ?_|refine zqb ?_|refine zqi ?_ ?_|refine zqc ?_|refine zqg (λ_=>?_) (λ_=>?_)|refine zqe ?_|fail)
    have hX8:=hX;have hR8:=hR.imp λ_ _ h=>TColV.mono h hI8;have hK8:=hv8;have ho8:Out (run (Oo ks.isEmpty [112,114,105,109,97,114,121] (BC (AP [107,101,121]) λ_=>BC (Bc n Ar) λk=>okP (cs,k)) (BC (DX n) λc=>okP (cs++[c],ks))) st2) (cs,x) s8:=XJ hb hy (BF ho6 (BF ho7 DU));unfold MR;refine call (Ad _ zD hs8 (λl9 k9 hy9 hs9 hz9=>?_) (λhno9=>?_))
    ·simp only [zQ,SSd,Nat.reduceAdd];have h9:=hs9.one;exact zAA ⟨_,by omega,X,a,c,cells,cs,a8,c8,x,f,.good l9.tail,k9,false,rfl,zE,rfl,hX8,hR8,hK8,hs9,by omega,by (try simp only [zn,zV]);omega,λy s' hh=>hm _ _ (by rw [KF];exact BF ho8 (IK hy9 hh))⟩
    ·simp only [zG,SSd,Nat.reduceAdd];exact last zE hX8 hR8 hK8 hs8 zo (hm _ _ (by rw [KF];exact BF ho8 (CP hno9 DU)))
   ·unfold Pi;refine call (Rq n zD hs3 zo (λx s8 k8 bd8 I8 a8 c8 hs8 ho7 hz8 hI8 hv8=>?_));refine AQ (λb5=>?_);repeat' (first|refine zqa ?_|refine zqh (λ_=>?_)|refine zqr ?_|refine zqb ?_|refine zqi ?_ ?_|refine zqc ?_|refine zqg (λ_=>?_) (λ_=>?_)|refine zqe ?_|fail)
    refine NE (X6:=X) (R:=TColV) (x:=x) rfl zx hX (hR.imp λ_ _ h=>TColV.mono h hI8) ⟨_,rfl,hv8⟩ rfl (AY rfl) zo zo (λX1 X8 w8 cells8 hX8 hR8=>?_);obtain ⟨a9,c9,rfl⟩:=hX8.form;refine zAE ((bs,Obj.cells (Oh nm (.slice a cs.length c) (.slice ak ks.length ck)).toArray 48 (0,0))::(b1,Obj.cells stZ.toArray 48 (0,0))::(X8++(L1++(b,RDo w k8 bd8)::L2))) (zAA ?_);repeat' (first|refine zqa ?_|refine zqh (λ_=>?_)|refine zqr ?_|refine zqb ?_|refine zqi ?_ ?_|refine zqc ?_|refine zqg (λ_=>?_) (λ_=>?_)|refine zqe ?_|fail)
    have hK8:=zAJ hK hI8;have ho8:Out (run (Oo ks.isEmpty [112,114,105,109,97,114,121] (BC (AP [107,101,121]) λ_=>BC (Bc n Ar) λk=>okP (cs,k)) (BC (DX n) λc=>okP (cs++[c],ks))) st2) ((cs++[x]),ks) s8:=Qx (.inl (by simpa using hb)) (BF ho7 DU);unfold MR;refine call (Ad _ zD hs8 (λl9 k9 hy9 hs9 hz9=>?_) (λhno9=>?_))
    ·simp only [zQ,SSd,Nat.reduceAdd];have h9:=hs9.one;exact zAA ⟨_,by omega,X8,a9,c9,cells8,(cs++[x]),ak,ck,ks,f,.good l9.tail,k9,false,rfl,zE,rfl,hX8,hR8,hK8,hs9,by omega,by (try simp only [zn,zV]);omega,λy s' hh=>hm _ _ (by rw [KF];exact BF ho8 (IK hy9 hh))⟩
    ·simp only [zG,SSd,Nat.reduceAdd];exact last zE hX8 hR8 hK8 hs8 zo (hm _ _ (by rw [KF];exact BF ho8 (CP hno9 DU)))
  ·try refine zqe ?_
   unfold Pi;refine call (Rq n zD hs3 zo (λx s8 k8 bd8 I8 a8 c8 hs8 ho7 hz8 hI8 hv8=>?_));refine AQ (λb5=>?_);repeat' (first|refine zqa ?_|refine zqh (λ_=>?_)|refine zqr ?_|refine zqb ?_|refine zqi ?_ ?_|refine zqc ?_|refine zqg (λ_=>?_) (λ_=>?_)|refine zqe ?_|fail)
   refine NE (X6:=X) (R:=TColV) (x:=x) rfl zx hX (hR.imp λ_ _ h=>TColV.mono h hI8) ⟨_,rfl,hv8⟩ rfl (AY rfl) zo zo (λX1 X8 w8 cells8 hX8 hR8=>?_);obtain ⟨a9,c9,rfl⟩:=hX8.form;refine zAE ((bs,Obj.cells (Oh nm (.slice a cs.length c) (.slice ak ks.length ck)).toArray 48 (0,0))::(b1,Obj.cells stZ.toArray 48 (0,0))::(X8++(L1++(b,RDo w k8 bd8)::L2))) (zAA ?_);repeat' (first|refine zqa ?_|refine zqh (λ_=>?_)|refine zqr ?_|refine zqb ?_|refine zqi ?_ ?_|refine zqc ?_|refine zqg (λ_=>?_) (λ_=>?_)|refine zqe ?_|fail)
   have hK8:=zAJ hK hI8;have ho8:Out (run (Oo ks.isEmpty [112,114,105,109,97,114,121] (BC (AP [107,101,121]) λ_=>BC (Bc n Ar) λk=>okP (cs,k)) (BC (DX n) λc=>okP (cs++[c],ks))) st2) ((cs++[x]),ks) s8:=Qx (.inr hno) (BF ho7 DU);unfold MR;refine call (Ad _ zD hs8 (λl9 k9 hy9 hs9 hz9=>?_) (λhno9=>?_))
   ·simp only [zQ,SSd,Nat.reduceAdd];have h9:=hs9.one;exact zAA ⟨_,by omega,X8,a9,c9,cells8,(cs++[x]),ak,ck,ks,f,.good l9.tail,k9,false,rfl,zE,rfl,hX8,hR8,hK8,hs9,by omega,by (try simp only [zn,zV]);omega,λy s' hh=>hm _ _ (by rw [KF];exact BF ho8 (IK hy9 hh))⟩
   ·simp only [zG,SSd,Nat.reduceAdd];exact last zE hX8 hR8 hK8 hs8 zo (hm _ _ (by rw [KF];exact BF ho8 (CP hno9 DU)))
end
abbrev AKa (nm:Bs)(vc vr:Value):List Value:=[.int .i64 2,.bool false,.slice none 0 0,.slice none 0 0,.int .i64 0,.int .i64 0,.bool false,.int .i64 0,.string ⟨#[]⟩,.string ⟨#[]⟩,.string ⟨#[]⟩,.int .i64 0,.int .i64 0,.bool false,.slice none 0 0,.slice none 0 0,.int .i64 0,.int .i64 0,.bool false,.int .i64 0,.string ⟨#[]⟩,.string ⟨#[]⟩,.string ⟨#[]⟩,.int .i64 0,.int .i64 0,.bool false,.slice none 0 0,.slice none 0 0,.int .i64 0,.int .i64 0,.string ⟨nm.toArray⟩,vc,vr,.slice none 0 0,.int .i64 0,.int .i64 0,.bool false,.int .i64 0,.string ⟨#[]⟩,.string ⟨#[]⟩,.string ⟨#[]⟩,.int .i64 0,.int .i64 0,.bool false,.slice none 0 0,.slice none 0 0,.slice none 0 0,.string ⟨#[]⟩,.string ⟨#[]⟩,.slice none 0 0,.bool false]
abbrev ANe (nm:Bs)(vs:Value)(x:Ex)(v:Value):List Value:=[.int .i64 3,.bool false,.slice none 0 0,.slice none 0 0,.int .i64 0,.int .i64 0,.bool false,.int .i64 0,.string ⟨#[]⟩,.string ⟨#[]⟩,.string ⟨#[]⟩,.int .i64 0,.int .i64 0,.bool false,.slice none 0 0,.slice none 0 0,.int .i64 0,.int .i64 0,.bool false,.int .i64 0,.string ⟨#[]⟩,.string ⟨#[]⟩,.string ⟨#[]⟩,.int .i64 0,.int .i64 0,.bool false,.slice none 0 0,.slice none 0 0,.int .i64 0,.int .i64 0,.string ⟨nm.toArray⟩,.slice none 0 0,.slice none 0 0,vs,.int .i64 x.kind,.int .i64 x.value.fType,.bool x.value.fNull,.int .i64 x.value.fInt,.string ⟨x.value.fText.toArray⟩,.string ⟨x.table.toArray⟩,.string ⟨x.name.toArray⟩,.int .i64 x.slot,.int .i64 x.type,.bool x.distinct,v,.slice none 0 0,.slice none 0 0,.string ⟨#[]⟩,.string ⟨#[]⟩,.slice none 0 0,.bool false]
theorem AGk {α:Type}(w:Bs)(f g:Pr α):Oj true w f g=λl=>if isT l w then f l else g l:=by
 funext l
 simp only [Oj,Bool.and_true]
theorem ADz (n:Nat):Du n=BC (AP [105,110,116,111]) λ_=>BC Ar λs=>BC (Oj true [40] (Bc n Ar) (okP [])) λc=>BC (AP [118,97,108,117,101,115]) λ_=>BC (BL n (Bc n (eP n))) λx=>okP {(default:TStmt) with fKind:=2,fTable:=s,fColumns:=c,fRows:=x}:=by
 simp only [AGk];rfl
theorem ADA (n:Nat):Dp n=BC Ar λs=>BC (AP [115,101,116]) λ_=>BC (BL n (Nh n)) λx=>BC (DW n [119,104,101,114,101]) λw=>okP {(default:TStmt) with fKind:=3,fTable:=s,fSets:=x,fWhere:=w}:=rfl
theorem ANt (n:Nat):Nh n=BC Ar λs=>BC (AP [61]) λ_=>BC (eP n) λx=>okP ⟨s,x⟩:=rfl
theorem AKs:Fe=itP [116,97,98,108,101] (BC Ar λs=>okP {(default:TStmt) with fKind:=7,fTable:=s}) (BC (AP [105,110,100,101,120]) λ_=>BC Ar λs=>okP {(default:TStmt) with fKind:=8,fIndex:=⟨s,[],[],false⟩}):=rfl
abbrev ATQ (n:Nat)(u:Bool):Pr TStmt:=BC (AP [105,110,100,101,120]) λ_=>BC Ar λa=>BC (AP [111,110]) λ_=>BC Ar λt=>BC (Bc n Ar) λc=>okP {(default:TStmt) with fKind:=6,fIndex:=⟨a,t,c,u⟩}
theorem AEX (n:Nat):EX n=itP [116,97,98,108,101] (Je n) (itP [117,110,105,113,117,101] (ATQ n true) (ATQ n false)):=by
 funext l
 simp only [EX,itP];cases isT l [117,110,105,113,117,101] <;> rfl
theorem ADV {α:Type}{R:Imm→α→List Value→Prop}{I:Imm}{X6 L0 F:LH}{T bytes:Nat}{z:Array Value}{v w:Value}{cells:List Value}{xs:List α}{x:α}{K:Value→M}[SplitL X6 L0 F](hz:z.size=1)(h6:SlO T 1 X6 v cells xs.length)(hR:Recs (R I) 1 xs cells)(hx:R I x [w])(h1:w.oneCell'=true)(hb:(xs.length+1) * bytes≤150000000000000)(hl:xs.length+1≤150000000000000)
  (hk:∀X1 X6' v' cells',SlO T 1 X6' v' cells' (xs++[x]).length→Recs (R I) 1 (xs++[x]) cells'→Gh (K v') I (X6'++(X1++F))):
  AU T 1 z 1 [(0,w)] (gh λu=>App T 1 bytes z v u (gh K)) I L0:=by
 have hc:w.cells=#[w]:=by cases w <;> first|rfl|simp [Value.oneCell'] at h1
 refine Dw hz zo (by rw [hc];rfl) (λX1 u hX1=>?_);rw [hc] at hX1;refine Il (X:=X6) hz h6 (hX1.news (λx hx=>zaq _ hx)) (by simpa using h1) hb hl (λX' v' hX'=>?_);exact hk X1 X' v' _ (by simpa using hX') (zAS hR (Recs.one rfl (by simpa using hx)))
theorem XR {I I':Imm}{x:List Ex}{c:List Value}(h:FX ExV 11 I x c)(hI:Ext I I'):FX ExV 11 I' x c:=by
 obtain ⟨v,hc,h⟩:=h;exact ⟨v,hc,zAI h hI⟩
section
variable {ω:Om}{b:Nat}{w:Value}{toks:List Tok}
theorem AIX (n:Nat)(hn0:n≤1000000000){b1 bs:Nat}{I1:Imm}{L1 L2:LH}{K:Value→M}{nm:Bs}{ns:List Bs}{vc:Value}{s3:Stt}{k3:Nat}{bd3:Bool}(h:TD I1 w toks)(hs3:RdS toks s3 k3 bd3)(hn:s3.sz < n)(hc:StL I1 vc ns)
  (hk:∀y s' k' bd' I' v,RdS toks s' k' bd'→Out (run (BC (AP [118,97,108,117,101,115]) λ_=>BC (BL n (Bc n (eP n))) λx=>okP {(default:TStmt) with fKind:=2,fTable:=nm,fColumns:=ns,fRows:=x}) s3) y s'→s'.sz≤s3.sz→Ext I1 I'→Hz TStmtV I' y v→K v I' (L1++(b,RDo w k' bd')::L2)):
  Ua ω (AL b) (AL b1) (AL bs) (λv=>Gh (K v)) I1 ((bs,Obj.cells (AKa nm vc (.slice none 0 0)).toArray 48 (0,0))::(b1,Obj.cells stZ.toArray 48 (0,0))::(L1++(b,RDo w k3 bd3)::L2)):=by
 have hRow:=Vr n (dE (ω:=ω) (b:=b) (w:=w) (toks:=toks) n hn0);have hle:=hs3.le;have hb3:s3.sz≤toks.length:=by
  rcases hs3.cases with ⟨_,rfl⟩|⟨_,e,rfl⟩
  ·simp only [Stt.sz,zar];omega
  ·exact zak _
 obtain ⟨ac,cc,rfl⟩:=zAF hc;unfold Ua;refine call (Aj _ h hs3 (λs4 k4 bd4 hs4 ho4 hz4 _=>?_));refine loop (λm s I2 Lx=>∃(X:LH) (a:Option Addr) (c:Nat) (cells:List Value) (xs:List (List Ex)) (f:Nat) (st2:Stt) (k2:Nat) (bd2:Bool),st2.sz=m∧Ext I1 I2∧Lx=(bs,Obj.cells (AKa nm (.slice ac ns.length cc) (.slice a xs.length c)).toArray 48 (0,0))::(b1,Obj.cells stZ.toArray 48 (0,0))::(X++(L1++(b,RDo w k2 bd2)::L2))∧SlO 35 1 X (.slice a xs.length c) cells xs.length∧Recs (FX ExV 11 I2) 1 xs cells∧RdS toks st2 k2 bd2∧st2.sz≤f+1∧xs.length+st2.sz≤s4.sz∧Rest n (Bc n (eP n)) s4 f xs st2) s4.sz
  ⟨[],none,0,[],[],n,s4,k4,bd4,rfl,zAC _,rfl,SlO.none _ _,rfl,hs4,by omega,by simp,Rest.start⟩ ?_
 rintro m s I2 Lx ⟨X,a,c,cells,xs,f,st2,k2,bd2,rfl,hI2,rfl,hX,hR,hs2,hf,hlen,hm⟩;have last:∀{I3:Imm} {X3:LH} {a3:Option Addr} {c3:Nat} {cells3:List Value} {xs3:List (List Ex)} {s5:Stt} {k5:Nat} {bd5:Bool},Ext I1 I3→SlO 35 1 X3 (.slice a3 xs3.length c3) cells3 xs3.length→Recs (FX ExV 11 I3) 1 xs3 cells3→RdS toks s5 k5 bd5→s5.sz≤s3.sz→Out (run (BL n (Bc n (eP n))) s4) xs3 s5→
   UZ ω (AL b1) (AL bs) (λv=>Gh (K v)) I3 ((bs,Obj.cells (AKa nm (.slice ac ns.length cc) (.slice a3 xs3.length c3)).toArray 48 (0,0))::(b1,Obj.cells stZ.toArray 48 (0,0))::(X3++(L1++(b,RDo w k5 bd5)::L2))):=by
  intro I3 X3 a3 c3 cells3 xs3 s5 k5 bd5 hI3 hX3 hR3 hs5 hz5 ho5;unfold UZ;repeat' (first|refine zqa ?_|refine zqh (λ_=>?_)|refine zqr ?_|refine zqb ?_|refine zqi ?_ ?_|refine zqc ?_|refine zqg (λ_=>?_) (λ_=>?_)|refine zqe ?_|fail)
  refine zAE (X3++(L1++(b,RDo w k5 bd5)::L2)) (RL.ofO (R:=FX ExV 11) (λh hI=>XR h hI) hX3 hR3 (λI4 hI4 hw=>zAA ?_));exact hk _ s5 k5 bd5 I4 _ hs5 (BF ho4 (BF ho5 DU)) hz5 (zAB hI3 hI4) ⟨_,rfl,_,_,_,_,_,_,_,_,_,_,_,_,_,rfl,zAD none 0,zAD none 0,zAD none 0,zAD none 0,zAD none 0,zAD none 0,(zAJ hc (zAB hI3 hI4)),hw,zAD none 0,zAD none 0,zAD none 0,zAD none 0,zAD none 0⟩
 unfold AFX;try refine zqe ?_
 refine rdb ?_;cases bd2 with
 |true=>
  obtain ⟨e,rfl⟩:=hs2.zero;simp only [zQ,SSd,Nat.reduceAdd];exact last hI2 hX hR hs2 (zak _) (hm.bad xs)
 |false=>
  have h1:=hs2.one;simp only [zG,SSd,Nat.reduceAdd];refine call (FdL.goL hRow zD hs2 zo (λx s5 k5 bd5 I5 a5 c5 hs5 ho5 hz5 hI5 hv5 _=>?_));repeat' (first|refine zqa ?_|refine zqh (λ_=>?_)|refine zqr ?_|refine zqb ?_|refine zqi ?_ ?_|refine zqc ?_|refine zqg (λ_=>?_) (λ_=>?_)|refine zqe ?_|fail)
  refine ADV (X6:=X) (R:=FX ExV 11) (x:=x) rfl hX (hR.imp λ_ _ h=>XR h hI5) ⟨_,rfl,hv5⟩ rfl zo zo (λX1 X6 w6 cells6 hX6 hR6=>?_);obtain ⟨a6,e6,rfl⟩:=hX6.form;refine zAE ((bs,Obj.cells (AKa nm (.slice ac ns.length cc) (.slice a xs.length c)).toArray 48 (0,0))::(b1,Obj.cells stZ.toArray 48 (0,0))::(X6++(L1++(b,RDo w k5 bd5)::L2))) (zAA ?_);repeat' (first|refine zqa ?_|refine zqh (λ_=>?_)|refine zqr ?_|refine zqb ?_|refine zqi ?_ ?_|refine zqc ?_|refine zqg (λ_=>?_) (λ_=>?_)|refine zqe ?_|fail)
  refine call (Ad _ zD hs5 (λl k6 hy hs6 hz6=>?_) (λhno=>?_))
  ·have h4:=hs6.one;obtain ⟨f,rfl⟩:∃q,f=q+1:=⟨f - 1,by omega⟩;simp only [zQ,SSd,Nat.reduceAdd];exact zAA ⟨_,by omega,X6,a6,e6,cells6,xs++[x],f,.good l.tail,k6,false,rfl,zAB hI2 hI5,rfl,hX6,hR6,hs6,by omega,by rw [zn,zV];omega,hm.next ho5 hy⟩
  ·simp only [zG,SSd,Nat.reduceAdd];exact last (zAB hI2 hI5) hX6 hR6 hs5 zo (hm.stop ho5 hno)
theorem AAF (n:Nat)(hn0:n≤1000000000):Fd ω n b w toks 84 #[AL b] (Du n) (Hz TStmtV):=by
 intro K I L C st k bd hF h hs hn hk;obtain ⟨L1,L2,rfl,rfl⟩:=hF.foc;refine ATj ?_;unfold ARk;rw [ADz] at hk;refine AQ (λb1=>?_);try refine zqe ?_
 refine AQ (λbs=>?_);repeat' (first|refine zqa ?_|refine zqh (λ_=>?_)|refine zqr ?_|refine zqb ?_|refine zqi ?_ ?_|refine zqc ?_|refine zqg (λ_=>?_) (λ_=>?_)|refine zqe ?_|fail)
 refine call (Aj _ h hs (λs1 k1 bd1 hs1 ho1 hz1 _=>?_));refine call (BB h hs1 (λnm s2 k2 bd2 hs2 ho2 hz2 _=>?_));repeat' (first|refine zqa ?_|refine zqh (λ_=>?_)|refine zqr ?_|refine zqb ?_|refine zqi ?_ ?_|refine zqc ?_|refine zqg (λ_=>?_) (λ_=>?_)|refine zqe ?_|fail)
 refine call (BP _ h hs2 (λl hy=>?_) (λhno=>?_))
 ·try refine zqe ?_
  refine call (OA n zD hs2 zo (λns s3 k3 bd3 I3 a3 c3 hs3 ho3 hz3 hI3 hv3=>?_));repeat' (first|refine zqa ?_|refine zqh (λ_=>?_)|refine zqr ?_|refine zqb ?_|refine zqi ?_ ?_|refine zqc ?_|refine zqg (λ_=>?_) (λ_=>?_)|refine zqe ?_|fail)
  exact AIX n hn0 zD hs3 zo hv3 (λy s' k' bd' I' v r1 r2 r3 r4 r5=>hk y s' k' bd' I' v r1 (BF ho1 (BF ho2 (BF (XH rfl hy ho3) r2))) zo (zAB hI3 r4) r5)
 ·try refine zqe ?_
  exact AIX n hn0 h hs2 zo (zAD none 0) (λy s' k' bd' I' v r1 r2 r3 r4 r5=>hk y s' k' bd' I' v r1 (BF ho1 (BF ho2 (BF (XI (.inr hno) DU) r2))) zo r4 r5)
theorem Zz (n:Nat)(hn0:n≤1000000000):Fd ω n b w toks 85 #[AL b] (Dp n) (Hz TStmtV):=by
 have hE:=dE (ω:=ω) (b:=b) (w:=w) (toks:=toks) n hn0;intro K I1 L C st k bd hF h hs hn hk;obtain ⟨L1,L2,rfl,rfl⟩:=hF.foc;refine ATi ?_;unfold ARj;rw [ADA] at hk;refine AQ (λb1=>?_);try refine zqe ?_
 refine AQ (λbs=>?_);repeat' (first|refine zqa ?_|refine zqh (λ_=>?_)|refine zqr ?_|refine zqb ?_|refine zqi ?_ ?_|refine zqc ?_|refine zqg (λ_=>?_) (λ_=>?_)|refine zqe ?_|fail)
 refine call (BB h hs (λnm s1 k1 bd1 hs1 ho1 hz1 _=>?_));repeat' (first|refine zqa ?_|refine zqh (λ_=>?_)|refine zqr ?_|refine zqb ?_|refine zqi ?_ ?_|refine zqc ?_|refine zqg (λ_=>?_) (λ_=>?_)|refine zqe ?_|fail)
 refine call (Aj _ h hs1 (λs4 k4 bd4 hs4 ho4 hz4 _=>?_));have hle:=hs4.le;have hb4:s4.sz≤toks.length:=by
  rcases hs4.cases with ⟨_,rfl⟩|⟨_,e,rfl⟩
  ·simp only [Stt.sz,zar];omega
  ·exact zak _
 refine loop (λm s I2 Lx=>∃(X:LH) (a:Option Addr) (c:Nat) (cells:List Value) (xs:List (TSet)) (f:Nat) (st2:Stt) (k2:Nat) (bd2:Bool),st2.sz=m∧Ext I1 I2∧Lx=(bs,Obj.cells (ANe nm (.slice a xs.length c) ex0 (.slice none 0 0)).toArray 48 (0,0))::(b1,Obj.cells stZ.toArray 48 (0,0))::(X++(L1++(b,RDo w k2 bd2)::L2))∧SlO 99 12 X (.slice a xs.length c) cells xs.length∧Recs (TSetV I2) 12 xs cells∧RdS toks st2 k2 bd2∧st2.sz≤f+1∧xs.length+st2.sz≤s4.sz∧Rest n (Nh n) s4 f xs st2) s4.sz
  ⟨[],none,0,[],[],n,s4,k4,bd4,rfl,zAC _,rfl,SlO.none _ _,rfl,hs4,by omega,by simp,Rest.start⟩ ?_
 rintro m s I2 Lx ⟨X,a,c,cells,xs,f,st2,k2,bd2,rfl,hI2,rfl,hX,hR,hs2,hf,hlen,hm⟩;have last:∀{I3:Imm} {X3 Y:LH} {a3:Option Addr} {c3:Nat} {cells3:List Value} {xs3:List TSet} {s5:Stt} {k5:Nat} {bd5:Bool},Ext I1 I3→SlO 99 12 X3 (.slice a3 xs3.length c3) cells3 xs3.length→Recs (TSetV I3) 12 xs3 cells3→RdS toks s5 k5 bd5→s5.sz≤s4.sz→Out (run (BL n (Nh n)) s4) xs3 s5→
   UY ω (AL b) (AL b1) (AL bs) (λv=>Gh (K v)) I3 ((bs,Obj.cells (ANe nm (.slice a3 xs3.length c3) ex0 (.slice none 0 0)).toArray 48 (0,0))::(b1,Obj.cells stZ.toArray 48 (0,0))::(X3++(Y++(L1++(b,RDo w k5 bd5)::L2)))):=by
  intro I3 X3 Y a3 c3 cells3 xs3 s5 k5 bd5 hI3 hX3 hR3 hs5 hz5 ho5;unfold UY;refine call (FdE.goE (Ny n hn0) zD hs5 zo (λx s6 k6 bd6 I6 a6 c6 hs6 ho6 hz6 hI6 hv6=>?_));repeat' (first|refine zqa ?_|refine zqh (λ_=>?_)|refine zqr ?_|refine zqb ?_|refine zqi ?_ ?_|refine zqc ?_|refine zqg (λ_=>?_) (λ_=>?_)|refine zqe ?_|fail)
  refine zAE (X3++(L1++(b,RDo w k6 bd6)::L2)) (RL.ofO (R:=TSetV) (λh hI=>TSetV.mono h hI) hX3 (hR3.imp λ_ _ h=>TSetV.mono h hI6) (λI4 hI4 hw=>zAA ?_));exact hk _ s6 k6 bd6 I4 _ hs6 (BF ho1 (BF ho4 (BF ho5 (BF ho6 DU)))) zo (zAB hI3 (zAB hI6 hI4)) ⟨_,rfl,_,_,_,_,_,_,_,_,_,_,_,_,_,rfl,zAD none 0,zAD none 0,zAD none 0,zAD none 0,zAD none 0,zAD none 0,zAD none 0,zAD none 0,hw,(zAI hv6 hI4),zAD none 0,zAD none 0,zAD none 0⟩
 unfold AFW;try refine zqe ?_
 refine rdb ?_;cases bd2 with
 |true=>
  obtain ⟨e,rfl⟩:=hs2.zero;simp only [zQ,SSd,Nat.reduceAdd];exact last (Y:=[]) hI2 hX hR hs2 (zak _) (hm.bad xs)
 |false=>
  have h1:=hs2.one;simp only [zG,SSd,Nat.reduceAdd];refine call (BB zD hs2 (λcn s3 k3 bd3 hs3 ho3 hz3 _=>?_));refine call (Aj _ zD hs3 (λs7 k7 bd7 hs7 ho7 hz7 _=>?_));refine call (FdE.goE hE zD hs7 zo (λx s5 k5 bd5 I5 a5 c5 hs5 ho5 hz5 hI5 hv5=>?_));have ho5:Out (run (Nh n) st2) ⟨cn,x⟩ s5:=by rw [ANt];exact BF ho3 (BF ho7 (BF ho5 DU))
  refine AQ (λb5=>?_);repeat' (first|refine zqa ?_|refine zqh (λ_=>?_)|refine zqr ?_|refine zqb ?_|refine zqi ?_ ?_|refine zqc ?_|refine zqg (λ_=>?_) (λ_=>?_)|refine zqe ?_|fail)
  refine NE (X6:=X) (R:=TSetV) (x:=⟨cn,x⟩) rfl zx hX (hR.imp λ_ _ h=>TSetV.mono h hI5) ⟨_,rfl,hv5⟩ rfl (AY rfl) zo zo (λX1 X6 w6 cells6 hX6 hR6=>?_);obtain ⟨a6,e6,rfl⟩:=hX6.form;refine zAE ((bs,Obj.cells (ANe nm (.slice a xs.length c) ex0 (.slice none 0 0)).toArray 48 (0,0))::(b1,Obj.cells stZ.toArray 48 (0,0))::(X6++(L1++(b,RDo w k5 bd5)::L2))) (zAA ?_);repeat' (first|refine zqa ?_|refine zqh (λ_=>?_)|refine zqr ?_|refine zqb ?_|refine zqi ?_ ?_|refine zqc ?_|refine zqg (λ_=>?_) (λ_=>?_)|refine zqe ?_|fail)
  refine call (Ad _ zD hs5 (λl k6 hy hs6 hz6=>?_) (λhno=>?_))
  ·have h4:=hs6.one;obtain ⟨f,rfl⟩:∃q,f=q+1:=⟨f - 1,by omega⟩;simp only [zQ,SSd,Nat.reduceAdd];exact zAA ⟨_,by omega,X6,a6,e6,cells6,xs++[⟨cn,x⟩],f,.good l.tail,k6,false,rfl,zAB hI2 hI5,rfl,hX6,hR6,hs6,by omega,by rw [zn,zV];omega,hm.next ho5 hy⟩
  ·simp only [zG,SSd,Nat.reduceAdd];exact last (Y:=[]) (zAB hI2 hI5) hX6 hR6 hs5 zo (hm.stop ho5 hno)
theorem AIb (n:Nat):Fd ω n b w toks 90 #[AL b] Fe (Hz TStmtV):=by
 intro K I L C st k bd hF h hs hn hk;obtain ⟨L1,L2,rfl,rfl⟩:=hF.foc;refine ATd ?_;unfold sh90;rw [AKs] at hk;repeat' (first|(with_reducible first|refine BM ?_|refine keepA ?_|refine AQ (λ_=>?_))|(with_reducible refine call ?_;refine Ad _ zD zA (λl k' hy hs' hz'=>?_) (λhno=>?_))|(with_reducible refine call ?_;refine BP _ zD zA (λl hy=>?_) (λhno=>?_))|(with_reducible refine call ?_;refine Aj _ zD zA (λs' k' bd' hs' ho' hz' hzz'=>?_))|(with_reducible refine call ?_;refine BB zD zA (λx s' k' bd' hs' ho' hz' hzz'=>?_))|(with_reducible first|refine BQ zC (λI' a hI' hw'=>zAA ?_)|refine BJ zC zC (λI' a hI' hw'=>zAA ?_)|refine Ba zC zC zC (λI' a hI' hw'=>zAA ?_))|(with_reducible refine call ?_;refine BN zC ?_)|refine zqr ?_|refine zqb ?_|(with_reducible first|refine Ap (sh90.eq_1 ..) ?_|refine And.intro ?_ ?_)|refine zqc ?_|refine zqg (λhb=>?_) (λhb=>?_)|refine zqe ?_|fail)
 ·exact zAE (L1++(b,RDo w k' bd')::L2) (zAA (hk {(default:TStmt) with fKind:=7,fTable:=x} s' k' bd' _ _ hs' zO zo zE ⟨_,rfl,_,_,_,_,_,_,_,_,_,_,_,_,_,rfl,zAD none 0,zAD none 0,zAD none 0,zAD none 0,zAD none 0,zAD none 0,zAD none 0,zAD none 0,zAD none 0,zAD none 0,zAD none 0,zAD none 0,zAD none 0⟩))
 ·exact zAE (L1++(b,RDo w k' bd')::L2) (zAA (hk {(default:TStmt) with fKind:=8,fIndex:=⟨x,[],[],false⟩} s' k' bd' _ _ hs' zO zo zE ⟨_,rfl,_,_,_,_,_,_,_,_,_,_,_,_,_,rfl,zAD none 0,zAD none 0,zAD none 0,zAD none 0,zAD none 0,zAD none 0,zAD none 0,zAD none 0,zAD none 0,zAD none 0,zAD none 0,zAD none 0,zAD none 0⟩))
theorem AEK (n:Nat)(hn0:n≤1000000000){I:Imm}{L:LH}{K:Value→M}{C:Obj→LH}{st:Stt}{k:Nat}{bd:Bool}[hF:Foc b L (RDo w k bd) C](hw:TD I w toks)(hs:RdS toks st k bd)(hn:st.sz < n)
  (hk:∀x s' k' bd' I' c,RdS toks s' k' bd'→Out (run (Je n) st) x s'→s'.sz≤st.sz→Ext I I'→TStmtV I' x c→K (.agg c.toArray) I' (C (RDo w k' bd'))):CT ω 132 #[AL b] K I L:=
 (AEL n hn0).go hw hs hn λx s' k' bd' I' v h1 h2 h3 h4 h5=>by
  obtain ⟨c,rfl,h6⟩:=h5;exact hk x s' k' bd' I' c h1 h2 h3 h4 h6
theorem AAG (n:Nat)(hn0:n≤1000000000):Fd ω n b w toks 89 #[AL b] (EX n) (Hz TStmtV):=by
 intro K I L C st k bd hF h hs hn hk;obtain ⟨L1,L2,rfl,rfl⟩:=hF.foc;refine ATe ?_;unfold sh89;rw [AEX] at hk;repeat' (first|(with_reducible first|refine BM ?_|refine keepA ?_|refine AQ (λ_=>?_))|(with_reducible refine call ?_;refine OA n zD zA zo (λns s' k' bd' I' a' c' hs' ho' hz' hI' hv'=>?_))|(with_reducible refine call ?_;refine Ad _ zD zA (λl k' hy hs' hz'=>?_) (λhno=>?_))|(with_reducible refine call ?_;refine BP _ zD zA (λl hy=>?_) (λhno=>?_))|(with_reducible refine call ?_;refine Aj _ zD zA (λs' k' bd' hs' ho' hz' hzz'=>?_))|(with_reducible refine call ?_;refine BB zD zA (λx s' k' bd' hs' ho' hz' hzz'=>?_))|(with_reducible first|refine BQ zC (λI' a hI' hw'=>zAA ?_)|refine BJ zC zC (λI' a hI' hw'=>zAA ?_)|refine Ba zC zC zC (λI' a hI' hw'=>zAA ?_))|(with_reducible refine call ?_;refine BN zC ?_)|refine zqr ?_|refine zqb ?_|(with_reducible first|refine Ap (sh89.eq_1 ..) ?_|refine And.intro ?_ ?_)|refine zqc ?_|refine zqg (λhb=>?_) (λhb=>?_)|refine zqe ?_|fail)
 ·refine call (AEK n hn0 h hs' zo (λx s2 k2 bd2 I2 c2 hs2 ho2 hz2 hI2 hv2=>?_));refine stB (zAT hv2) rfl (TStmtV.one hv2) ?_;refine rdB (zAT hv2) ?_;exact zAE (L1++(b,RDo w k2 bd2)::L2) (zAA (hk x s2 k2 bd2 I2 _ hs2 zO zo hI2 ⟨c2,rfl,hv2⟩))
 ·exact zAE (L1++(b,RDo w k' bd')::L2) (zAA (hk {(default:TStmt) with fKind:=6,fIndex:=⟨_,x,ns,true⟩} s' k' bd' _ _ hs' zO zo zE ⟨_,rfl,_,_,_,_,_,_,_,_,_,_,_,_,_,rfl,zAD none 0,zAD none 0,zAD none 0,zAD none 0,zAD none 0,zAD none 0,zAD none 0,zAD none 0,zAD none 0,zAD none 0,zAD none 0,zAD none 0,(zAJ hv' zE)⟩))
 ·exact zAE (L1++(b,RDo w k' bd')::L2) (zAA (hk {(default:TStmt) with fKind:=6,fIndex:=⟨_,x,ns,false⟩} s' k' bd' _ _ hs' zO zo zE ⟨_,rfl,_,_,_,_,_,_,_,_,_,_,_,_,_,rfl,zAD none 0,zAD none 0,zAD none 0,zAD none 0,zAD none 0,zAD none 0,zAD none 0,zAD none 0,zAD none 0,zAD none 0,zAD none 0,zAD none 0,(zAJ hv' zE)⟩))
end
def sqlL:List Bs:=[[115,101,108,101,99,116],[105,110,115,101,114,116],[117,112,100,97,116,101],[100,101,108,101,116,101],[99,114,101,97,116,101],[100,114,111,112],[98,101,103,105,110],[99,111,109,109,105,116],[114,111,108,108,98,97,99,107]]
theorem AES (n:Nat):EG n=BC (AP [102,114,111,109]) λ_=>BC Ar λs=>BC (DW n [119,104,101,114,101]) λw=>okP {(default:TStmt) with fKind:=4,fTable:=s,fWhere:=w}:=rfl
theorem AAg (n:Nat):Dy n=itP [115,101,108,101,99,116] (BC (FM n) λq=>okP {(default:TStmt) with fKind:=1,fSelect:=q}) (itP [105,110,115,101,114,116] (Du n) (itP [117,112,100,97,116,101] (Dp n) (itP [100,101,108,101,116,101] (EG n) (itP [99,114,101,97,116,101] (EX n) (itP [100,114,111,112] Fe (itP [98,101,103,105,110] (okP {(default:TStmt) with fKind:=9}) (itP [99,111,109,109,105,116] (okP {(default:TStmt) with fKind:=10}) (BC (AP [114,111,108,108,98,97,99,107]) λ_=>okP {(default:TStmt) with fKind:=11})))))))):=rfl
theorem ADj {s:Bs}{st:Stt}{l:List Tok}(hy:Yes s st l):Out (run (AP s) st) () (.good l.tail):=by
 obtain ⟨rfl,hy⟩:=hy;show Out (if isT l s then Res.ok () l.tail else bad l) () _;rw [if_pos hy];exact ⟨rfl,rfl⟩
theorem ADk {s:Bs}{toks:List Tok}{st:Stt}{k:Nat}{bd:Bool}(hs:RdS toks st k bd)(hn:No s st):Out (run (AP s) st) () (.bad (hd (toks.drop k)).at'):=by
 rcases hs.st with ⟨_,rfl⟩|⟨_,rfl⟩
 ·show Out (if isT _ s then Res.ok () _ else bad _) () _;rw [if_neg (by rw [hn _ rfl];decide)];exact rfl
 ·exact rfl
section
variable {ω:Om}{b:Nat}{w:Value}{toks:List Tok}
theorem FdS.goS {n f:Nat}{args:Array Value}{g:Pr TStmt}(H:Fd ω n b w toks f args g (Hz TStmtV)){I:Imm}{L:LH}{K:Value→M}{C:Obj→LH}{st:Stt}{k:Nat}{bd:Bool}[hF:Foc b L (RDo w k bd) C](hw:TD I w toks)(hs:RdS toks st k bd)(hn:st.sz < n)
  (hk:∀x s' k' bd' I' c,RdS toks s' k' bd'→Out (run g st) x s'→s'.sz≤st.sz→Ext I I'→TStmtV I' x c→K (.agg c.toArray) I' (C (RDo w k' bd'))):CT ω f args K I L:=
 H.go hw hs hn λx s' k' bd' I' v h1 h2 h3 h4 h5=>by
  obtain ⟨c,rfl,h6⟩:=h5;exact hk x s' k' bd' I' c h1 h2 h3 h4 h6
theorem FdQ.goQ {n f:Nat}{args:Array Value}{g:Pr TSelect}(H:Fd ω n b w toks f args g (Hz BX)){I:Imm}{L:LH}{K:Value→M}{C:Obj→LH}{st:Stt}{k:Nat}{bd:Bool}[hF:Foc b L (RDo w k bd) C](hw:TD I w toks)(hs:RdS toks st k bd)(hn:st.sz < n)
  (hk:∀x s' k' bd' I' c,RdS toks s' k' bd'→Out (run g st) x s'→s'.sz≤st.sz→Ext I I'→BX I' x c→K (.agg c.toArray) I' (C (RDo w k' bd'))):CT ω f args K I L:=
 H.go hw hs hn λx s' k' bd' I' v h1 h2 h3 h4 h5=>by
  obtain ⟨c,rfl,h6⟩:=h5;exact hk x s' k' bd' I' c h1 h2 h3 h4 h6
theorem AEM (n:Nat)(hn0:n≤1000000000){I:Imm}{L:LH}{K:Value→M}{C:Obj→LH}{st:Stt}{k:Nat}{bd:Bool}[hF:Foc b L (RDo w k bd) C](h:TD I w toks)(hs:RdS toks st k bd)(hn:st.sz≤n)
  (hk:∀x s' k' bd' I' c,RdS toks s' k' bd'→Out (run (Dy n) st) x s'→s'.sz≤st.sz - 1→Ext I I'→TStmtV I' x c→K (.agg c.toArray) I' (C (RDo w k' bd'))):CT ω 36 #[AL b] K I L:=by
 obtain ⟨L1,L2,rfl,rfl⟩:=hF.foc;refine AUQ ?_;unfold ASR;refine AQ (λb1=>?_);refine DT sqlL rfl rfl (λI1 ac hI1 hc=>zAA ?_);have h1:=h.mono hI1;refine loop (λm s I2 Lx=>∃i:Nat,i+m=9∧s=(.int .i64 i,())∧I2=I1∧Lx=(b1,Obj.cells stZ.toArray 48 (0,0))::(L1++(b,RDo w k bd)::L2)∧∀j,j < i→No (sqlL.getD j []) st) 9
  ⟨0,rfl,rfl,rfl,rfl,λj hj=>by omega⟩ ?_
 rintro m s I2 Lx ⟨i,him,rfl,rfl,rfl,hno⟩;unfold AFx;try refine zqe ?_
 refine AB (λhlt=>?_) (λhlt=>?_)
 ·simp at hlt;have hlt:i < 9:=by omega
  obtain ⟨bw,off,c,q1,_,q2,q3⟩:=zAR hc (i:=i) zo (by simp [sqlL];omega);have hgk:Lj sqlL (i:Int)=sqlL.getD i []:=by simp [Lj];rfl
  rw [hgk] at q2;obtain rfl:=q2;have q1:ixV 1 (.slice ac 9 9) (.int .i64 i)=some (.pointer (some ⟨bw,off,none⟩)):=q1;simp only [q1,SSd,Nat.reduceAdd];refine rd1 ((q3 _ [] (zAC _) (λ_ h=>h) 0 _ rfl).mono (zAC _) (λ_ h=>by cases h)) ?_;refine call (Ad (sqlL.getD i []) h1 hs (λl k' hy hs' hz'=>?_) (λhn'=>?_))
  ·have case:i=0∨i=1∨i=2∨i=3∨i=4∨i=5∨i=6∨i=7∨i=8:=by omega
   have n0:=λq:0 < i=>hno 0 q;have n1:=λq:1 < i=>hno 1 q;have n2:=λq:2 < i=>hno 2 q;have n3:=λq:3 < i=>hno 3 q;have n4:=λq:4 < i=>hno 4 q;have n5:=λq:5 < i=>hno 5 q;have n6:=λq:6 < i=>hno 6 q;have n7:=λq:7 < i=>hno 7 q;simp only [sqlL,zaO,zaT] at n0 n1 n2 n3 n4 n5 n6 n7;rw [AAg] at hk;have wk:IntKind.i64.wrap 15=15∧IntKind.i64.wrap 9=9∧IntKind.i64.wrap 16=16∧IntKind.i64.wrap 10=10∧IntKind.i64.wrap 17=17∧IntKind.i64.wrap 11=11:=by decide
   rcases case with rfl|rfl|rfl|rfl|rfl|rfl|rfl|rfl|rfl
   ·have hy:Yes [115,101,108,101,99,116] st l:=hy;simp only [show ((0:Nat):Int)=0 from rfl,wk,zQ,Int.reduceBEq,SSd,Nat.reduceAdd];refine call (FdQ.goQ (AEN n hn0) zD hs' zo (λx s2 k2 bd2 I2 c2 hs2 ho2 hz2 hI2 hv2=>?_));obtain ⟨v0,v1,v2,v3,v4,v5,rfl,h0,h1,h2,h3,h4,h5⟩:=hv2;obtain ⟨a0,k10,rfl⟩:=zAF h0;obtain ⟨a1,k11,rfl⟩:=zAF h1;obtain ⟨a2,k12,rfl⟩:=zAF h2;obtain ⟨a3,k13,rfl⟩:=zAF h3;obtain ⟨a4,k14,rfl⟩:=zAF h4;obtain ⟨a5,k15,rfl⟩:=zAF h5;refine AQ (λb5=>?_);repeat' (first|refine zqa ?_|refine zqh (λ_=>?_)|refine zqr ?_|refine zqb ?_|refine zqi ?_ ?_|refine zqc ?_|refine zqg (λ_=>?_) (λ_=>?_)|refine zqe ?_|fail)
    exact zAE (L1++(b,RDo w k2 bd2)::L2) (zAA (hk {(default:TStmt) with fKind:=1,fSelect:=x} s2 k2 bd2 I2 _ hs2 (IK hy (BF ho2 DU)) zo (zAB hI1 hI2) ⟨_,_,_,_,_,_,_,_,_,_,_,_,_,rfl,h0,h1,h2,h3,h4,h5,zAD none 0,zAD none 0,zAD none 0,zAD none 0,zAD none 0,zAD none 0,zAD none 0⟩))
   ·have hy:Yes [105,110,115,101,114,116] st l:=hy;have n0:No [115,101,108,101,99,116] st:=n0 zx;simp only [show ((1:Nat):Int)=1 from rfl,wk,zQ,Int.reduceBEq,SSd,Nat.reduceAdd];refine call (FdS.goS (AAF n hn0) zD hs' zo (λx s2 k2 bd2 I2 c2 hs2 ho2 hz2 hI2 hv2=>?_));refine stB (zAT hv2) rfl (TStmtV.one hv2) ?_;refine rdB (zAT hv2) ?_;exact zAE (L1++(b,RDo w k2 bd2)::L2) (zAA (hk x s2 k2 bd2 I2 _ hs2 zO zo (zAB hI1 hI2) hv2))
   ·have hy:Yes [117,112,100,97,116,101] st l:=hy;have n0:No [115,101,108,101,99,116] st:=n0 zx;have n1:No [105,110,115,101,114,116] st:=n1 zx;simp only [show ((2:Nat):Int)=2 from rfl,wk,zQ,Int.reduceBEq,SSd,Nat.reduceAdd];refine call (FdS.goS (Zz n hn0) zD hs' zo (λx s2 k2 bd2 I2 c2 hs2 ho2 hz2 hI2 hv2=>?_));refine stB (zAT hv2) rfl (TStmtV.one hv2) ?_;refine rdB (zAT hv2) ?_;exact zAE (L1++(b,RDo w k2 bd2)::L2) (zAA (hk x s2 k2 bd2 I2 _ hs2 zO zo (zAB hI1 hI2) hv2))
   ·have hy:Yes [100,101,108,101,116,101] st l:=hy;have n0:No [115,101,108,101,99,116] st:=n0 zx;have n1:No [105,110,115,101,114,116] st:=n1 zx;have n2:No [117,112,100,97,116,101] st:=n2 zx;simp only [show ((3:Nat):Int)=3 from rfl,wk,zQ,Int.reduceBEq,SSd,Nat.reduceAdd];refine call (Aj _ zD hs' (λs2 k2 bd2 hs2 ho2 hz2 _=>?_));try refine zqe ?_
    refine AQ (λb5=>?_);repeat' (first|refine zqa ?_|refine zqh (λ_=>?_)|refine zqr ?_|refine zqb ?_|refine zqi ?_ ?_|refine zqc ?_|refine zqg (λ_=>?_) (λ_=>?_)|refine zqe ?_|fail)
    refine call (BB zD hs2 (λnm s3 k3 bd3 hs3 ho3 hz3 _=>?_));repeat' (first|refine zqa ?_|refine zqh (λ_=>?_)|refine zqr ?_|refine zqb ?_|refine zqi ?_ ?_|refine zqc ?_|refine zqg (λ_=>?_) (λ_=>?_)|refine zqe ?_|fail)
    refine call (FdE.goE (Ny n hn0) zD hs3 zo (λx s4 k4 bd4 I4 a4 c4 hs4 ho4 hz4 hI4 hv4=>?_));repeat' (first|refine zqa ?_|refine zqh (λ_=>?_)|refine zqr ?_|refine zqb ?_|refine zqi ?_ ?_|refine zqc ?_|refine zqg (λ_=>?_) (λ_=>?_)|refine zqe ?_|fail)
    exact zAE (L1++(b,RDo w k4 bd4)::L2) (zAA (hk {(default:TStmt) with fKind:=4,fTable:=nm,fWhere:=x} s4 k4 bd4 I4 _ hs4 (by rw [AES];exact zO) zo (zAB hI1 hI4) ⟨_,_,_,_,_,_,_,_,_,_,_,_,_,rfl,zAD none 0,zAD none 0,zAD none 0,zAD none 0,zAD none 0,zAD none 0,zAD none 0,zAD none 0,zAD none 0,hv4,zAD none 0,zAD none 0,zAD none 0⟩))
   ·have hy:Yes [99,114,101,97,116,101] st l:=hy;have n0:No [115,101,108,101,99,116] st:=n0 zx;have n1:No [105,110,115,101,114,116] st:=n1 zx;have n2:No [117,112,100,97,116,101] st:=n2 zx;have n3:No [100,101,108,101,116,101] st:=n3 zx;simp only [show ((4:Nat):Int)=4 from rfl,wk,zQ,Int.reduceBEq,SSd,Nat.reduceAdd];refine call (FdS.goS (AAG n hn0) zD hs' zo (λx s2 k2 bd2 I2 c2 hs2 ho2 hz2 hI2 hv2=>?_));refine stB (zAT hv2) rfl (TStmtV.one hv2) ?_;refine rdB (zAT hv2) ?_;exact zAE (L1++(b,RDo w k2 bd2)::L2) (zAA (hk x s2 k2 bd2 I2 _ hs2 zO zo (zAB hI1 hI2) hv2))
   ·have hy:Yes [100,114,111,112] st l:=hy;have n0:No [115,101,108,101,99,116] st:=n0 zx;have n1:No [105,110,115,101,114,116] st:=n1 zx;have n2:No [117,112,100,97,116,101] st:=n2 zx;have n3:No [100,101,108,101,116,101] st:=n3 zx;have n4:No [99,114,101,97,116,101] st:=n4 zx;simp only [show ((5:Nat):Int)=5 from rfl,wk,zQ,Int.reduceBEq,SSd,Nat.reduceAdd];refine call (FdS.goS (AIb n) zD hs' zo (λx s2 k2 bd2 I2 c2 hs2 ho2 hz2 hI2 hv2=>?_));refine stB (zAT hv2) rfl (TStmtV.one hv2) ?_;refine rdB (zAT hv2) ?_;exact zAE (L1++(b,RDo w k2 bd2)::L2) (zAA (hk x s2 k2 bd2 I2 _ hs2 zO zo (zAB hI1 hI2) hv2))
   ·have hy:Yes [98,101,103,105,110] st l:=hy;have n0:No [115,101,108,101,99,116] st:=n0 zx;have n1:No [105,110,115,101,114,116] st:=n1 zx;have n2:No [117,112,100,97,116,101] st:=n2 zx;have n3:No [100,101,108,101,116,101] st:=n3 zx;have n4:No [99,114,101,97,116,101] st:=n4 zx;have n5:No [100,114,111,112] st:=n5 zx;simp only [show ((6:Nat):Int)=6 from rfl,wk,zQ,Int.reduceBEq,SSd,Nat.reduceAdd];repeat' (first|refine zqa ?_|refine zqh (λ_=>?_)|refine zqr ?_|refine zqb ?_|refine zqi ?_ ?_|refine zqc ?_|refine zqg (λ_=>?_) (λ_=>?_)|refine zqe ?_|fail)
    exact zAE (L1++(b,RDo w k' false)::L2) (zAA (hk {(default:TStmt) with fKind:=9} _ k' false I2 _ hs' zO zo hI1 ⟨_,_,_,_,_,_,_,_,_,_,_,_,_,rfl,zAD none 0,zAD none 0,zAD none 0,zAD none 0,zAD none 0,zAD none 0,zAD none 0,zAD none 0,zAD none 0,zAD none 0,zAD none 0,zAD none 0,zAD none 0⟩))
   ·have hy:Yes [99,111,109,109,105,116] st l:=hy;have n0:No [115,101,108,101,99,116] st:=n0 zx;have n1:No [105,110,115,101,114,116] st:=n1 zx;have n2:No [117,112,100,97,116,101] st:=n2 zx;have n3:No [100,101,108,101,116,101] st:=n3 zx;have n4:No [99,114,101,97,116,101] st:=n4 zx;have n5:No [100,114,111,112] st:=n5 zx;have n6:No [98,101,103,105,110] st:=n6 zx;simp only [show ((7:Nat):Int)=7 from rfl,wk,zQ,Int.reduceBEq,SSd,Nat.reduceAdd];repeat' (first|refine zqa ?_|refine zqh (λ_=>?_)|refine zqr ?_|refine zqb ?_|refine zqi ?_ ?_|refine zqc ?_|refine zqg (λ_=>?_) (λ_=>?_)|refine zqe ?_|fail)
    exact zAE (L1++(b,RDo w k' false)::L2) (zAA (hk {(default:TStmt) with fKind:=10} _ k' false I2 _ hs' zO zo hI1 ⟨_,_,_,_,_,_,_,_,_,_,_,_,_,rfl,zAD none 0,zAD none 0,zAD none 0,zAD none 0,zAD none 0,zAD none 0,zAD none 0,zAD none 0,zAD none 0,zAD none 0,zAD none 0,zAD none 0,zAD none 0⟩))
   ·have hy:Yes [114,111,108,108,98,97,99,107] st l:=hy;have n0:No [115,101,108,101,99,116] st:=n0 zx;have n1:No [105,110,115,101,114,116] st:=n1 zx;have n2:No [117,112,100,97,116,101] st:=n2 zx;have n3:No [100,101,108,101,116,101] st:=n3 zx;have n4:No [99,114,101,97,116,101] st:=n4 zx;have n5:No [100,114,111,112] st:=n5 zx;have n6:No [98,101,103,105,110] st:=n6 zx;have n7:No [99,111,109,109,105,116] st:=n7 zx;simp only [show ((8:Nat):Int)=8 from rfl,wk,zQ,Int.reduceBEq,SSd,Nat.reduceAdd];repeat' (first|refine zqa ?_|refine zqh (λ_=>?_)|refine zqr ?_|refine zqb ?_|refine zqi ?_ ?_|refine zqc ?_|refine zqg (λ_=>?_) (λ_=>?_)|refine zqe ?_|fail)
    exact zAE (L1++(b,RDo w k' false)::L2) (zAA (hk {(default:TStmt) with fKind:=11} _ k' false I2 _ hs' (CP n0 (CP n1 (CP n2 (CP n3 (CP n4 (CP n5 (CP n6 (CP n7 (BF (ADj hy) DU))))))))) zo hI1 ⟨_,_,_,_,_,_,_,_,_,_,_,_,_,rfl,zAD none 0,zAD none 0,zAD none 0,zAD none 0,zAD none 0,zAD none 0,zAD none 0,zAD none 0,zAD none 0,zAD none 0,zAD none 0,zAD none 0,zAD none 0⟩))
  ·simp only [zG,wrap_i64 ((i:Int)+1) zo,SSd,Nat.reduceAdd];refine zAA ⟨m - 1,by omega,i+1,by omega,rfl,rfl,rfl,λj hj=>?_⟩;rcases Nat.lt_succ_iff_lt_or_eq.1 hj with hj|rfl
   ·exact hno j hj
   ·exact hn'
 ·have hi:i=9:=by
   have:¬((i:Int) < 9):=by simpa using hlt
   omega
  subst hi;have n0:No [115,101,108,101,99,116] st:=hno 0 zx;have n1:No [105,110,115,101,114,116] st:=hno 1 zx;have n2:No [117,112,100,97,116,101] st:=hno 2 zx;have n3:No [100,101,108,101,116,101] st:=hno 3 zx;have n4:No [99,114,101,97,116,101] st:=hno 4 zx;have n5:No [100,114,111,112] st:=hno 5 zx;have n6:No [98,101,103,105,110] st:=hno 6 zx;have n7:No [99,111,109,109,105,116] st:=hno 7 zx;have n8:No [114,111,108,108,98,97,99,107] st:=hno 8 zx;unfold AFw;repeat' (first|refine zqa ?_|refine zqh (λ_=>?_)|refine zqr ?_|refine zqb ?_|refine zqi ?_ ?_|refine zqc ?_|refine zqg (λ_=>?_) (λ_=>?_)|refine zqe ?_|fail)
  exact zAE (L1++(b,RDo w k true)::L2) (zAA (hk default _ k true I2 _ hs.fail (by rw [AAg];exact CP n0 (CP n1 (CP n2 (CP n3 (CP n4 (CP n5 (CP n6 (CP n7 (BF (ADk hs n8) out_bad))))))))) (zak _) hI1 (TStmtV.zero _)))
end
def Xh {α:Type}(g:Pr α):Pr α:=λr=>if isK r 6||isT r [59] then g r else bad r
theorem QX (n m:Nat)(acc:List TStmt):Bj n (m+1) acc=kP 6 (okP acc) (itP [59] (Bj n m acc) (BC (Dy n) λs=>Xh (Bj n m (acc++[s])))):=rfl
theorem XK {α:Type}{g:Pr α}{x:α}{s s':Stt}(hn:∀l,s= .good l→(isK l 6||isT l [59])=true)(h:Out (run g s) x s'):Out (run (Xh g) s) x s':=by
 cases s with
 |bad e=>exact h
 |good l=>
  show Out (Xh g l) x s';simp only [Xh,hn l rfl,if_true];exact h
theorem AHf {α:Type}{g:Pr α}{x:α}{toks:List Tok}{s:Stt}{k:Nat}{bd:Bool}(hs:RdS toks s k bd)(hn:∀l,s= .good l→(isK l 6||isT l [59])=false):Out (run (Xh g) s) x (.bad (hd (toks.drop k)).at'):=by
 rcases hs.st with ⟨_,rfl⟩|⟨_,rfl⟩
 ·show Out (Xh g _) x _;simp only [Xh,hn _ rfl,zt,if_false];exact rfl
 ·exact rfl
theorem Out.bad {α:Type}{q:Res α}{x:α}{e:Nat}(h:Out q x (.bad e)):q= .err e:=by
 cases q with
 |ok y r=>cases h.2
 |err e'=>
  have h:Stt.bad e= .bad e':=h;cases h;rfl
theorem Out.good {α:Type}{q:Res α}{x:α}{r:List Tok}(h:Out q x (.good r)):q= .ok x r:=by
 cases q with
 |ok y r'=>
  obtain ⟨rfl,h⟩:=h;cases h;rfl
 |err e'=>
  have h:Stt.good r= .bad e':=h;cases h
section
variable {ω:Om}{w:Value}{toks:List Tok}
theorem AAD {I:Imm}{L:LH}{K:Value→M}(h:TD I w toks)(hT:Toks toks)(hl:toks.length≤1000000000)
  (hok:∀x r,Bj toks.length (toks.length+1) [] toks= .ok x r→∀I' v,Ext I I'→RL TStmtV 51 I' [] v x→K (.tuple #[v,.int .i64 (-1)]) I' L)
  (herr:∀e:Nat,Bj toks.length (toks.length+1) [] toks= .err e→∀I',Ext I I'→K (.tuple #[.slice none 0 0,.int .i64 e]) I' L):CT ω 23 #[w] K I L:=by
 refine AUd ?_;unfold ASd;obtain ⟨wa,wc,rfl⟩:=zAF h;try refine zqe ?_
 refine AQ (λb=>?_);have hs0:RdS toks (.good toks) 0 false:=⟨hT,hl,.inl ⟨rfl,rfl⟩⟩;refine loop (λm s I2 Lx=>∃(X:LH) (v:Value) (cells:List Value) (xs:List TStmt) (f:Nat) (st2:Stt) (k2:Nat) (bd2:Bool),st2.sz=m∧s=(.slice none 0 0,.int .i64 0,v,())∧Ext I I2∧Lx=X++((b,RDo (.slice wa toks.length wc) k2 bd2)::L)∧SlO 48 51 X v cells xs.length∧Recs (TStmtV I2) 51 xs cells∧RdS toks st2 k2 bd2∧st2.sz < f∧xs.length+st2.sz≤toks.length∧(∀y s',Out (run (Bj toks.length f xs) st2) y s'→Out (run (Bj toks.length (toks.length+1) []) (.good toks)) y s')) toks.length
  ⟨[],_,[],[],toks.length+1,.good toks,0,false,rfl,rfl,zAC _,rfl,SlO.none _ _,rfl,hs0,Nat.lt_succ_self _,by simp [Stt.sz],λ_ _ h=>h⟩ ?_
 rintro m s I2 Lx ⟨X,v,cells,xs,f,st2,k2,bd2,rfl,rfl,hI2,rfl,hX,hR,hs2,hf,hlen,hm⟩;unfold AGM;try refine zqe ?_
 refine rdb ?_;obtain ⟨bt,off,p1,p2⟩:=hs2.peek (h.mono hI2);cases bd2 with
 |true=>
  simp only [zQ,SSd,Nat.reduceAdd];unfold AGL;repeat' (first|refine zqa ?_|refine zqh (λ_=>?_)|(refine Gm (v:=.int .i64 (hd (toks.drop k2)).at') (λI' L' hS=>p2 I' L' hS.1 3 _ rfl) ?_)|refine zqr ?_|refine zqb ?_|refine zqi ?_ ?_|refine zqc ?_|refine zqg (λ_=>?_) (λ_=>?_)|(simp only [SSd,Nat.reduceAdd,p1]))
  rcases hs2.st with ⟨q,_⟩|⟨_,rfl⟩
  ·cases q
  exact zAE L (zAA (herr _ (Out.bad (hm [] _ out_bad)) I2 hI2))
 |false=>
  have h1:=hs2.one;obtain ⟨f,rfl⟩:∃q,f=q+1:=⟨f - 1,by omega⟩;rcases hs2.st with ⟨_,rfl⟩|⟨q,_⟩
  rotate_left
  ·cases q
  simp only [zG,SSd,Nat.reduceAdd];refine call (Ad _ zD hs2 (λl k' hy hs' hz'=>?_) (λhno=>?_))
  ·try refine zqe ?_
   have hk6:∀l,Stt.good (toks.drop k2)= .good l→isK l 6=false:=by
    intro l2 h2;have:=WG hy;rw [hy.1] at h2;cases h2;simpa [isK] using this
   exact zAA ⟨_,by omega,X,v,cells,xs,f,.good l.tail,k',false,rfl,rfl,hI2,rfl,hX,hR,hs',by omega,by omega,λy s' hh=>hm _ _ (by rw [QX];exact ZH hk6 (IK hy hh))⟩
  ·repeat' (first|refine zqa ?_|refine zqh (λ_=>?_)|(refine Gm (v:=.int .i64 (hd (toks.drop k2)).kind) (λI' L' hS=>p2 I' L' hS.1 0 _ rfl) ?_)|refine zqr ?_|refine zqb ?_|refine zqi ?_ ?_|refine zqc ?_|refine zqg (λ_=>?_) (λ_=>?_)|(simp only [SSd,Nat.reduceAdd,p1]))
   ·have hk6:∀l,Stt.good (toks.drop k2)= .good l→isK l 6=true:=by
     intro l2 h2;cases h2
     assumption
    exact RL.ofO (R:=TStmtV) (λh hI=>TStmtV.mono h hI) hX hR (λI3 hI3 hw=>zAE L (zAA (hok xs _ (Out.good (hm _ _ (by rw [QX];exact AHc hk6 DU))) I3 v (zAB hI2 hI3) hw)))
   ·have hk6:∀l,Stt.good (toks.drop k2)= .good l→isK l 6=false:=by
     intro l2 h2;cases h2
     first|assumption|exact Bool.eq_false_iff.2 zA
    refine call (AEM toks.length hl zD hs2 zo (λx s3 k3 bd3 I3 c3 hs3 ho3 hz3 hI3 hv3=>?_));refine AQ (λb5=>?_);refine stB (zAT hv3) rfl (TStmtV.one hv3) ?_;refine rdB (zAT hv3) ?_;refine CZ (X6:=X) (R:=TStmtV) (x:=x) rfl zx hX (hR.imp λ_ _ h=>TStmtV.mono h hI3) hv3 (zAT hv3) (TStmtV.one hv3) zo zo (λX1 X6 w6 cells6 hX6 hR6=>?_);have hI23:=zAB hI2 hI3;have next:∀{s4:Stt} {k4:Nat} {bd4:Bool},RdS toks s4 k4 bd4→s4.sz≤s3.sz→(∀y s',Out (run (Bj toks.length f (xs++[x])) s4) y s'→Out (run (Xh (Bj toks.length f (xs++[x]))) s3) y s')→∃(X:LH) (v:Value) (cells:List Value) (xs:List TStmt) (f:Nat) (st2:Stt) (k2:Nat) (bd2:Bool),st2.sz=s4.sz∧(((.slice none 0 0,.int .i64 0,w6,()):Value×Value×Value×Unit)=(.slice none 0 0,.int .i64 0,v,()))∧Ext I I3∧X6++((b,RDo (.slice wa toks.length wc) k4 bd4)::L)=X++((b,RDo (.slice wa toks.length wc) k2 bd2)::L)∧SlO 48 51 X v cells xs.length∧Recs (TStmtV I3) 51 xs cells∧RdS toks st2 k2 bd2∧st2.sz < f∧xs.length+st2.sz≤toks.length∧(∀y s',Out (run (Bj toks.length f xs) st2) y s'→Out (run (Bj toks.length (toks.length+1) []) (.good toks)) y s'):=by
     intro s4 k4 bd4 hs4 hz4 hh4;exact ⟨X6,w6,cells6,xs++[x],f,s4,k4,bd4,rfl,rfl,hI23,rfl,hX6,hR6,hs4,by omega,by rw [zn,zV];omega,λy s' hh=>hm _ _ (by rw [QX];exact ZH hk6 (CP hno (BF ho3 (hh4 _ _ hh))))⟩
    refine call (BP _ zD hs3 (λl hy=>?_) (λhno3=>?_))
    ·obtain ⟨br,or,r1,r2⟩:=hs3.peek (h.mono hI23);repeat' (first|refine zqa ?_|refine zqh (λ_=>?_)|refine zqr ?_|refine zqb ?_|refine zqi ?_ ?_|refine zqc ?_|refine zqg (λ_=>?_) (λ_=>?_)|refine zqe ?_|fail)
     exact zAE (X6++((b,RDo (.slice wa toks.length wc) k3 bd3)::L)) (zAA ⟨s3.sz,by omega,next hs3 (zW _) (λy s' hh=>XK (by
      intro l2 h2;rw [hy.1] at h2;cases h2;rw [hy.2];simp) hh)⟩)
    ·obtain ⟨br,or,r1,r2⟩:=hs3.peek (h.mono hI23);repeat' (first|refine zqa ?_|refine zqh (λ_=>?_)|(refine Gm (v:=.int .i64 (hd (toks.drop k3)).kind) (λI' L' hS=>r2 I' L' hS.1 0 _ rfl) ?_)|refine zqr ?_|refine zqb ?_|(with_reducible first|refine Ap (sh23_3.eq_1 ..) ?_|refine And.intro ?_ ?_)|refine zqc ?_|refine zqg (λ_=>?_) (λ_=>?_)|(simp only [SSd,Nat.reduceAdd,r1]))
     ·have hs4:=hs3.fail;refine zAE (X6++((b,RDo (.slice wa toks.length wc) k3 true)::L)) (zAA ⟨_,?_,next hs4 (zak _) (λy s' hh=>?_)⟩)
      ·show 0 < _;omega
      ·have hh:s'=_:=hh;subst hh;refine AHf hs3 λl hl=>?_;rw [hno3 l hl,Bool.or_false];rcases hs3.st with ⟨_,q⟩|⟨_,q⟩ <;> rw [q] at hl <;> cases hl
       simp_all [isK]
     ·refine zAE (X6++((b,RDo (.slice wa toks.length wc) k3 bd3)::L)) (zAA ⟨s3.sz,by omega,next hs3 (zW _) (λy s' hh=>XK (λl hl=>?_) hh)⟩);rcases hs3.st with ⟨_,q⟩|⟨_,q⟩ <;> rw [q] at hl <;> cases hl
      have:isK (toks.drop k3) 6=true:=by simp_all [isK]
      rw [this];rfl
end
theorem GY {p:UInt8→Bool}(h:(List.range 256).all (λn=>p (UInt8.ofNat n))=true)(c:UInt8):p c=true:=by
 have:=zaM.1 h c.toNat (zaI.2 c.toNat_lt);simpa using this
theorem ixS (s:Bs){a:Nat}{c:UInt8}(h:s[a]? =some c):Cb (.string ⟨s.toArray⟩) (.int .i64 (a:Nat))=some (.int .u8 c.toNat):=by
 obtain ⟨hlt,rfl⟩:=zY.1 h;have:(⟨s.toArray⟩:ByteArray)[a]? =some s[a]:=by
  rw [getElem?_pos _ _ (by simpa [ByteArray.size] using hlt)];rfl
 simp [Cb,this]
theorem Lu (s:Bs)(a b:Nat):(⟨s.toArray⟩:ByteArray).extract a b=⟨((s.drop a).take (b - a)).toArray⟩:=by
 apply ByteArray.ext
 simp [ByteArray.data_extract]
theorem slS (s:Bs){a b:Nat}(h1:a≤b)(h2:b≤s.length):DN (.string ⟨s.toArray⟩) (some (.int .i64 (a:Nat))) (some (.int .i64 (b:Nat)))=some (.string ⟨((s.drop a).take (b - a)).toArray⟩):=by
 have hs:(⟨s.toArray⟩:ByteArray).size=s.length:=rfl;simp [DN,EF,hs,h1,h2,Lu]
theorem ARX (s:Bs){b:Nat}(h2:b≤s.length):DN (.string ⟨s.toArray⟩) none (some (.int .i64 (b:Nat)))=some (.string ⟨(s.take b).toArray⟩):=by
 have hs:(⟨s.toArray⟩:ByteArray).size=s.length:=rfl;simp [DN,EF,hs,h2,Lu]
theorem Ya (s:Bs){a:Nat}(h1:a≤s.length):DN (.string ⟨s.toArray⟩) (some (.int .i64 (a:Nat))) none=some (.string ⟨(s.drop a).toArray⟩):=by
 have hs:(⟨s.toArray⟩:ByteArray).size=s.length:=rfl;have:List.take (s.length - a) (s.drop a)=s.drop a:=zg zy;simp [DN,EF,hs,h1,Lu,this]
section
variable {ω:Om}{I:Imm}{L:LH}{K Pn:Value→M}
theorem Ez (c:UInt8)(hk:K (.bool (Bq c)) I L):CT ω 135 #[.int .u8 c.toNat] K I L:=by
 refine AQd ?_;unfold AMh;have ht:=GY (p:=λc=>(Bq c==(((c.toNat:Int)==95)||(decide (97≤Hu .or .u8 c.toNat 32)&&decide (Hu .or .u8 c.toNat 32≤122))))) zq c;have ht:=eq_of_beq ht;rw [ht] at hk;repeat' (first|refine zqa ?_|refine zqh (λ_=>?_)|refine zqr ?_|refine zqb ?_|refine zqi ?_ ?_|refine zqc ?_|refine zqg (λ_=>?_) (λ_=>?_)|refine zqe ?_|fail)
 all_goals (refine zAA ?_;simp_all)
theorem Et (c:UInt8)(hk:K (.bool (BI c)) I L):CT ω 140 #[.int .u8 c.toNat] K I L:=by
 refine AQY ?_;unfold AMd;have ht:=GY (p:=λc=>(BI c==(decide ((48:Int)≤c.toNat)&&decide ((c.toNat:Int)≤57)))) zq c;have ht:=eq_of_beq ht;rw [ht] at hk;repeat' (first|refine zqa ?_|refine zqh (λ_=>?_)|refine zqr ?_|refine zqb ?_|refine zqi ?_ ?_|refine zqc ?_|refine zqg (λ_=>?_) (λ_=>?_)|refine zqe ?_|fail)
 all_goals (refine zAA ?_;simp_all)
def Ju (l:Bs)(c:UInt8):Int:=match l.findIdx? (·==c) with
 |some i=>i
 |none=> -1
theorem WB (l:Bs)(i:Nat)(h:i < l.length):(⟨l.toArray⟩:ByteArray)[i]! =l[i]:=by
 rw [getElem!_pos _ _ (by simpa [ByteArray.size] using h)];rfl
theorem Xe (l:Bs)(c:UInt8):(List.range (⟨l.toArray⟩:ByteArray).size).find? (λi=>(⟨l.toArray⟩:ByteArray)[i]! ==c)=l.findIdx? (·==c):=by
 have hs:(⟨l.toArray⟩:ByteArray).size=l.length:=rfl;cases h:l.findIdx? (·==c) with
 |none=>
  rw [List.find?_eq_none];intro i hi;rw [hs,zaI] at hi;rw [WB _ _ hi];have:=List.findIdx?_eq_none_iff.1 h l[i] (zH hi);simpa using this
 |some i=>
  obtain ⟨hi,h1,h2⟩:=List.findIdx?_eq_some_iff_getElem.1 h;rw [List.find?_range_eq_some];refine ⟨by rw [WB _ _ hi];exact h1,by rw [hs];simpa using hi,λj hj=>?_⟩;rw [WB _ _ zo];have:=h2 j hj;simpa using this
theorem Jt (l:Bs)(c:UInt8)(hk:K (.int .i64 (Ju l c)) I L):CT ω 133 #[.string ⟨l.toArray⟩,.int .u8 c.toNat] K I L:=by
 refine AQf ?_;unfold AMj;refine call ?_;refine AIm ?_;unfold AGT;refine ExtE.ret ⟨_,λw hs=>?_,zAA (zAA (zAA hk))⟩;show Sem.run _ (do
  let b ←Extern.Bytes.bytesOf (.string ⟨l.toArray⟩)
  let c ←Extern.Bytes.asByte (.int .u8 c.toNat)
  match (List.range b.size).find? λi=>b[i]! ==c with
  |some i=>pure (goInt i)
  |none=>pure (goInt (-1))) w=_
 have hc:((c.toNat:Int).toNat).toUInt8=c:=by simp
 simp only [Sem.run_bind,Extern.Bytes.bytesOf,Result.andThen_ok,Extern.Bytes.asByte,Sem.run_pure,hc,Xe];unfold Ju;cases l.findIdx? (·==c) <;> rfl
end
abbrev LBo (s:Bs)(a:Nat)(w:Value):Obj:=.cells [.string ⟨s.toArray⟩,.int .i64 (a:Nat),w].toArray 145 (0,0)
theorem TE:∀l:Bs,Bo true l=match l.findIdx? (·==10) with
  |some n=>Bo false (l.drop n)
  |none=>[]
 |[]=>rfl
 |c::r=>by
  have ih:=TE r;simp only [Bo,List.findIdx?_cons];by_cases hc:(c==10)=true
  ·have hc':c=10:=by simpa using hc
   subst hc';simp [Bo,NM]
  ·simp only [hc,zt,if_false];rw [ih];cases r.findIdx? (·==10) <;> rfl
def AUo:Bs:=[9,10,12,13,32]
theorem ALJ (c:UInt8):decide ((0:Int)≤Ju AUo c)=NM c:=by
 have:=GY (p:=λc=>(decide ((0:Int)≤Ju AUo c)==NM c)) zq c;exact eq_of_beq this
theorem Jw {ω:Om}{I:Imm}{L:LH}{K:Value→M}(s p:Bs)(hs:s.length≤1000000000)(hp:p.length≤1000000000)(hk:K (.bool (p.isPrefixOf s)) I L):CT ω 134 #[.string ⟨s.toArray⟩,.string ⟨p.toArray⟩] K I L:=by
 refine AQe ?_;unfold AMi;refine call ?_;refine APl ?_;unfold ALy;have hk':Gh (Gh (K (.bool (p.isPrefixOf s)))) I L:=zAA (zAA hk);try refine zqe ?_
 refine BD (λhb=>?_) (λhb=>?_)
 ·have hb:p.length≤s.length:=by simpa using hb
  simp only [ARX s hb,SSd,Nat.reduceAdd];have:(s.take p.length==p)=p.isPrefixOf s:=by
   rw [Bool.eq_iff_iff];simp only [beq_iff_eq,zaJ];constructor
   ·intro e;rw [←e];exact List.take_prefix _ _
   ·intro e;exact (List.prefix_iff_eq_take.1 e).symm
  rw [this];exact hk'
 ·have hb:¬p.length≤s.length:=by simpa using hb
  have:p.isPrefixOf s=false:=by
   cases h:p.isPrefixOf s with
   |false=>rfl
   |true=>exact absurd (zaJ.1 h).length_le hb
  rw [this] at hk';exact hk'
section
variable {ω:Om}{I:Imm}{L:LH}{K:Value→M}{C:Obj→LH}{b:Nat}{w:Value}{s:Bs}{a:Nat}
theorem Ff {s:Bs}{a:Nat}(h:a < s.length):∃c,s[a]? =some c∧s.drop a=c::s.drop (a+1):=⟨s[a],zan h,zaj h⟩
theorem TU [hF:Foc b L (LBo s a w) C](ha:a≤s.length)(hs:s.length≤900000000)(hk:∀a',a≤a'→a'≤s.length→s.drop a'=Bo false (s.drop a)→K (.tuple #[]) I (C (LBo s a' w))):CT ω 91 #[AL b] K I L:=by
 obtain ⟨L1,L2,rfl,rfl⟩:=hF.foc;refine ATc ?_;unfold ARh;refine loop (λm _ I2 Lx=>∃a2,a≤a2∧a2+m=s.length∧I2=I∧Lx=L1++(b,LBo s a2 w)::L2∧Bo false (s.drop a2)=Bo false (s.drop a)) (s.length - a) ⟨a,zW _,by omega,rfl,rfl,rfl⟩ ?_;rintro m _ I2 Lx ⟨a2,h1,h2,rfl,rfl,hm⟩;unfold AFV;repeat' (first|refine zqa ?_|refine zqh (λ_=>?_)|refine zqr ?_|refine zqb ?_|refine zqi ?_ ?_|refine zqc ?_|refine zqg (λ_=>?_) (λ_=>?_)|refine zqe ?_|fail)
 ·rename_i hb
  have hb:a2 < s.length:=by simpa using hb
  obtain ⟨c,hc,hd⟩:=Ff hb;simp only [ixS s hc,SSd,Nat.reduceAdd];refine call (Jt [9,10,12,13,32] c ?_);have hbi:decide ((0:Int)≤Ju [9,10,12,13,32] c)=NM c:=ALJ c;simp only [hbi,SSd,Nat.reduceAdd];refine AB (λhbl=>?_) (λhbl=>?_)
  ·refine rdb ?_;simp only [wrap_i64 ((a2:Int)+1) zo,SSd,Nat.reduceAdd];refine st1 rfl ?_;refine zAA ⟨m - 1,by omega,a2+1,by omega,by omega,rfl,rfl,?_⟩;rw [←hm,hd];simp [Bo,hbl]
  ·refine BM ?_;try refine zqe ?_
   refine CB ?_;try refine zqe ?_
   refine CB ?_;simp only [Ya s (zaN hb),SSd,Nat.reduceAdd];refine call (Jw (s.drop a2) [45,45] zu zy ?_);refine AB (λhp=>?_) (λhp=>?_)
   ·have h45:∃r,s.drop a2=45::45::r:=by
     obtain ⟨r,hr⟩:=zaJ.1 hp;exact ⟨r,hr.symm⟩
    obtain ⟨r,hr⟩:=h45;have hskip:Bo false (s.drop a2)=Bo true (s.drop a2):=by
     rw [hr];simp [Bo,NM]
    rw [TE] at hskip;refine BM ?_;try refine zqe ?_
    refine CB ?_;try refine zqe ?_
    refine CB ?_;simp only [Ya s (zaN hb),SSd,Nat.reduceAdd];refine call (Jt (s.drop a2) 10 ?_);cases hf:(s.drop a2).findIdx? (·==10) with
    |none=>
     rw [hf] at hskip;have hi:Ju (s.drop a2) 10= -1:=by simp only [Ju,hf]
     rw [hi];repeat' (first|refine zqa ?_|refine zqh (λ_=>?_)|refine zqr ?_|refine zqb ?_|refine zqi ?_ ?_|refine zqc ?_|refine zqg (λ_=>?_) (λ_=>?_)|refine zqe ?_|fail)
     exact zAA (hk s.length ha (zW _) (by rw [←hm,hskip];simp))
    |some n=>
     rw [hf] at hskip;obtain ⟨hn,hn1,hn2⟩:=List.findIdx?_eq_some_iff_getElem.1 hf;have hi:Ju (s.drop a2) 10=n:=by simp only [Ju,hf]
     have hn0:n≠0:=by
      rintro rfl;rw [hr] at hf;simp [List.findIdx?_cons] at hf
     have hlt:n < s.length - a2:=by simpa using hn
     rw [hi];have hneg:decide ((n:Int) < 0)=false:=by simp
     simp only [hneg,SSd,Nat.reduceAdd];refine rdb ?_;simp only [wrap_i64 ((a2:Int)+n) zo,SSd,Nat.reduceAdd];refine st1 rfl ?_;refine zAA ⟨m - n,by omega,a2+n,by omega,by omega,rfl,by simp,?_⟩;rw [←hm,hskip];simp
   ·refine zAA (hk a2 h1 zo ?_);rw [←hm,hd];rw [hd] at hp;have:(c==45&&(s.drop (a2+1)).head? ==some 45)=false:=by
     cases hx:(c==45&&(s.drop (a2+1)).head? ==some 45) with
     |false=>rfl
     |true=>
      simp only [zF,beq_iff_eq] at hx;obtain ⟨rfl,hx⟩:=hx;cases hy:s.drop (a2+1) with
      |nil=>rw [hy] at hx;simp at hx
      |cons d r=>
       rw [hy] at hx hp;simp at hx;subst hx;simp [List.isPrefixOf] at hp
    simp only [Bo,hbl,this,zt,if_false]
 ·rename_i hb
  have hb:¬a2 < s.length:=by simpa using hb
  refine zAA (hk a2 h1 zo ?_);rw [←hm];have:s.drop a2=[]:=zaa zo;rw [this];rfl
end
abbrev BuB (p v:Value):Obj:=.cells [p,v].toArray 111 (0,0)
def BuP (b:Nat)(p:Value):Prop:=p= .pointer none∨p=AL b
theorem ALI:liesAt Tryz.prog Tryz.prog.depth 111 (2 / Tryz.prog.cellsOf 111) 0 111 1=true:=by kernel_rfl
section
variable {ω:Om}{I:Imm}{L:LH}{K:Value→M}{C:Obj→LH}{b:Nat}{p v:Value}
theorem FU [hF:Foc b L (BuB p v) C](hp:BuP b p)(hk:K (.tuple #[]) I (C (BuB (AL b) v))):CT ω 209 #[AL b] K I L:=by
 obtain ⟨L1,L2,rfl,rfl⟩:=hF.foc;refine AIl ?_;unfold AGR;rcases hp with rfl|rfl
 ·have e1:Hw .eql (.pointer none) (.pointer none)=some (.bool true):=rfl;simp only [e1,SSd,Nat.reduceAdd];refine rdb ?_;simp only [e1,SSd,Nat.reduceAdd];refine ⟨_,⟨b,0,[.pointer none,v].toArray,111,(0,0),rfl,.inr zy,by simp,rfl⟩,?_⟩;refine XQ (zAA ?_);refine ⟨_,⟨b,0,[.pointer none,v].toArray,111,(0,0),rfl,.inr zy,ALI,rfl⟩,?_⟩;repeat' (first|refine zqa ?_|refine zqh (λ_=>?_)|refine zqr ?_|refine zqb ?_|refine zqi ?_ ?_|refine zqc ?_|refine zqg (λ_=>?_) (λ_=>?_)|refine zqe ?_|fail)
  exact zAE _ (zAA hk)
 ·try refine zqe ?_
  refine rdb ?_;have e2:Hw .neq (AL b) (AL b)=some (.bool false):=by simp [Hw]
  simp only [Gn,SSd,Nat.reduceAdd];refine rdb ?_;simp only [e2,SSd,Nat.reduceAdd];exact zAA hk
theorem Gu {X F:LH}{cells:List Value}{n:Nat}[hs:SplitL X L F][hF:Foc b F (BuB p v) C](hp:BuP b p)(hX:SlO 5 1 X v cells n)(hn:n≤1000000000)(c:UInt8)
  (hk:∀X' v',SlO 5 1 X' v' (cells++[.int .u8 c.toNat]) (n+1)→K .nilIface I (X'++C (BuB (AL b) v'))):CT ω 195 #[AL b,.int .u8 c.toNat] K I L:=by
 obtain ⟨L1,L2,rfl,rfl⟩:=hF.foc;refine zAN X ?_;refine APg ?_;unfold ALt;refine call (FU hp ?_);try refine zqe ?_
 refine rdb ?_;refine Dw rfl zo rfl (λX1 u hX1=>?_);refine Dx (X:=X) rfl hX (hX1.news (λx hx=>zaq _ hx)) (by simp [Value.cells,Value.oneCell']) zo zo (λX2 v2 hX2=>?_);have hX2:SlO 5 1 X2 v2 (cells++[.int .u8 c.toNat]) (n+1):=by simpa [Value.cells] using hX2
 obtain ⟨a2,k2,rfl⟩:=hX2.form;repeat' (first|refine zqa ?_|refine zqh (λ_=>?_)|refine zqr ?_|refine zqb ?_|refine zqi ?_ ?_|refine zqc ?_|refine zqg (λ_=>?_) (λ_=>?_)|refine zqe ?_|fail)
 exact zAE (X2++(L1++(b,BuB (AL b) (.slice a2 (n+1) k2))::L2)) (zAA (hk X2 _ hX2))
theorem byteCells_snoc (l:Bs)(c:UInt8):Lib.byteCells (l++[c])=Lib.byteCells l++[.int .u8 c.toNat]:=by rw [Lib.byteCells_append];rfl
theorem JS {X F:LH}{l:Bs}[hs:SplitL X L F][hF:Foc b F (BuB p v) C](hX:SlO 5 1 X v (Lib.byteCells l) l.length)(hn:l.length≤1000000000)(hv:l=[]→v= .slice none 0 0∨∃a k,v= .slice (some a) 0 (k+1))
  (hk:∀X',K (.string ⟨l.toArray⟩) I (X'++C (BuB p v))):CT ω 59 #[AL b] K I L:=by
 obtain ⟨L1,L2,rfl,rfl⟩:=hF.foc;refine zAN X ?_;refine ANK ?_;unfold ANr;obtain ⟨a,cap,rfl⟩:=hX.form;have hlenV:lenV (.slice a l.length cap)=some (.int .i64 l.length):=rfl;refine BM ?_;try refine zqe ?_
 refine CB ?_;by_cases hl:l=[]
 ·subst hl;have hp:∃p,ACz (.slice a 0 cap)=some (.pointer p):=by
   rcases hv rfl with h|⟨a',k',h⟩
   ·simp only [zac,Value.slice.injEq] at h;obtain ⟨rfl,_,rfl⟩:=h;exact ⟨none,rfl⟩
   ·simp only [zac,Value.slice.injEq] at h;obtain ⟨rfl,_,rfl⟩:=h;exact ⟨some a',rfl⟩
  obtain ⟨q,hq⟩:=hp;simp only [zac,hq,SSd,Nat.reduceAdd];refine CB ?_;try refine zqe ?_
  exact .inl ⟨q,rfl,rfl,zAA (zAA (hk X))⟩
 ·have hpos:0 < l.length:=List.length_pos_iff.2 hl;obtain ⟨hcl,hX⟩:=hX;rcases hX with ⟨_,h0,_⟩|⟨bb,cap',cs,rfl,e,hcs,hle,hcell⟩
  ·omega
  ·simp only [Value.slice.injEq] at e;obtain ⟨rfl,_,rfl⟩:=e;obtain ⟨k,rfl⟩:∃k,cap=k+1:=⟨cap - 1,by omega⟩;have hq:ACz (.slice (some ⟨bb,0,none⟩) l.length (k+1))=some (.pointer (some ⟨bb,0,none⟩)):=rfl;simp only [hq,SSd,Nat.reduceAdd];refine CB ?_;try refine zqe ?_
   refine .inr ⟨bb,cs,(0,0),l,[],L1++(b,BuB p (.slice (some ⟨bb,0,none⟩) l.length (k+1)))::L2,rfl,rfl,hl,by omega,by omega,rfl,λj u hu=>hcell j _ ?_,zAA (zAA (hk [_]))⟩;simp [Lib.byteCells,hu]
end
section
variable {P:Program}{ω:Om}{K:Value→M}{I:Imm}{L:LH}
theorem JR {f:FuncId}{args:Array Value}(he:Ce P f=true)(h:Cal P ω f args K I L):CalV P ω (.func (.func f) #[] #[]) args K I L:=by
 unfold CalV;simp only [he,if_true];simpa using h
theorem Gj {x:Value}{args:Array Value}(h:CalV P ω x args K I L):CalV P ω x args (SL.gh K) I L:=CalV.mono h (λ_ _ _ h=>zAA h)
end
def FnB (ω:Om)(fv:Value)(p:UInt8→Bool):Prop:=∀(c:UInt8) (K:Value→M) (I:Imm) (L:LH),K (.bool (p c)) I L→CW ω fv #[.int .u8 c.toNat] K I L
section
variable {ω:Om}{I:Imm}{L:LH}{K:Value→M}{C:Obj→LH}{b:Nat}{w:Value}{s:Bs}{a:Nat}
theorem AEQ:FnB ω (.func (.func 140) #[] #[]) BI:=by
 intro c K I L hk;exact JR (by kernel_rfl) (Et c hk)
theorem AEr:FnB ω (.func (.func 139) #[] #[]) (λc=>Bq c||BI c):=by
 intro c K I L hk;refine JR (by kernel_rfl) ?_;refine AQZ ?_;show AGa ω (.int .u8 c.toNat) _ I L;unfold AGa;refine call (Ez c ?_);refine BD (λh=>?_) (λh=>?_)
 ·refine call (Et c (zAA ?_));simpa [show Bq c=false from by simpa using h] using hk
 ·refine zAA ?_;have:Bq c=true:=by simpa using h
  simpa [this] using hk
theorem QP {fv:Value}{p:UInt8→Bool}(hf:FnB ω fv p)[hF:Foc b L (LBo s a w) C](ha:a≤s.length)(hs:s.length≤900000000)
  (hk:∀a',a≤a'→a'≤s.length→s.drop a'=(s.drop a).dropWhile p→K (.string ⟨((s.drop a).takeWhile p).toArray⟩) I (C (LBo s a' w))):CT ω 138 #[AL b,fv] K I L:=by
 obtain ⟨L1,L2,rfl,rfl⟩:=hF.foc;refine AQa ?_;unfold AMe;try refine zqe ?_
 refine rdb ?_;refine loop (λm _ I2 Lx=>∃a2,a≤a2∧a2+m=s.length∧I2=I∧Lx=L1++(b,LBo s a2 w)::L2∧(s.drop a).takeWhile p=(s.drop a).take (a2 - a)++(s.drop a2).takeWhile p∧(s.drop a).dropWhile p=(s.drop a2).dropWhile p) (s.length - a) ⟨a,zW _,by omega,rfl,rfl,by simp,rfl⟩ ?_;rintro m _ I2 Lx ⟨a2,h1,h2,rfl,rfl,ht,hd⟩;unfold ABh;have fin:(s.drop a2).takeWhile p=[]→Pg ω (AL b) (.string ⟨#[]⟩) (.int .i64 a) (λv=>Gh (K v)) I2 (L1++(b,LBo s a2 w)::L2):=by
  intro he;rw [he,zao] at ht;have hdw:(s.drop a2).dropWhile p=s.drop a2:=by
   have:=List.takeWhile_append_dropWhile (p:=p) (l:=s.drop a2);rw [he] at this;simpa using this
  unfold Pg;refine BM ?_;try refine zqe ?_
  refine CB ?_;try refine zqe ?_
  refine CB ?_;simp only [slS s h1 (show a2≤s.length by omega),SSd,Nat.reduceAdd];rw [←ht];exact zAA (hk a2 h1 zo (by rw [hd,hdw]))
 refine BM ?_;try refine zqe ?_
 refine CB ?_;try refine zqe ?_
 refine CB ?_;try refine zqe ?_
 refine BD (λhb=>?_) (λhb=>?_)
 ·have hb:a2 < s.length:=by simpa using hb
  obtain ⟨c,hc,hdc⟩:=Ff hb;try refine zqe ?_
  refine CB ?_;try refine zqe ?_
  refine CB ?_;simp only [ixS s hc,SSd,Nat.reduceAdd];refine Gj (hf c _ _ _ ?_);refine AB (λhp=>?_) (λhp=>?_)
  ·try refine zqe ?_
   refine rdb ?_;simp only [wrap_i64 ((a2:Int)+1) zo,SSd,Nat.reduceAdd];refine st1 rfl ?_;refine zAA ⟨m - 1,by omega,a2+1,by omega,by omega,rfl,rfl,?_,?_⟩
   ·rw [ht,hdc,zbn hp];have e:a2+1 - a=(a2 - a)+1:=by omega
    rw [e,List.take_add_one];have:(s.drop a)[a2 - a]? =some c:=by rw [zaR];rw [show a+(a2 - a)=a2 by omega];exact hc
    rw [this];simp
   ·rw [hd,hdc,List.dropWhile_cons_of_pos hp]
  ·exact fin (by rw [hdc,List.takeWhile_cons_of_neg (by simpa using hp)])
 ·have hb:¬a2 < s.length:=by simpa using hb
  exact fin (by rw [zaa zo];rfl)
end
section
variable {ω:Om}{I:Imm}{L:LH}{K:Value→M}{C:Obj→LH}{b:Nat}{w:Value}{s:Bs}{a:Nat}
theorem WP (c q:UInt8):((c.toNat:Int) != q.toNat)=(c != q):=by
 have:((c.toNat:Int)=q.toNat)↔c=q:=by
  constructor
  ·intro h;exact UInt8.toNat_inj.1 zo
  ·rintro rfl;rfl
 rw [Bool.eq_iff_iff];simp [this]
theorem JV (c q:UInt8):((c.toNat:Int)==q.toNat)=(c==q):=by
 have:=WP c q;simp only [bne] at this;exact Bool.not_inj this
theorem EC (q c:UInt8)(r:Bs):DZ q (c::r)=if c==0 then none else if c != q then (DZ q r).map λx=>(c::x.1,x.2) else match r with
  |[]=>some ([],[])
  |d::r'=>if d==q then (DZ q r').map λx=>(q::x.1,x.2) else some ([],d::r'):=by
 cases r with
 |nil=>rfl
 |cons d r=>rfl
theorem XC (q:UInt8)(hq0:q≠0)[hF:Foc b L (LBo s a w) C](ha:a < s.length)(hs:s.length≤900000000)
  (hno:DZ q (s.drop (a+1))=none→∀x,K (.tuple #[.string ⟨(x:Bs).toArray⟩,.bool false]) I L)
  (hyes:∀t r,DZ q (s.drop (a+1))=some (t,r)→∀a',a < a'→a'≤s.length→s.drop a'=r→K (.tuple #[.string ⟨t.toArray⟩,.bool true]) I (C (LBo s a' w))):
  CT ω 142 #[AL b,.int .u8 q.toNat] K I L:=by
 obtain ⟨L1,L2,rfl,rfl⟩:=hF.foc;refine AQW ?_;unfold AMb;refine AQ (λbb=>?_);try refine zqe ?_
 refine rdb ?_;simp only [wrap_i64 ((a:Int)+1) zo,SSd,Nat.reduceAdd];refine loop (λm st I2 Lx=>∃(i:Nat) (X:LH) (p v:Value) (acc:Bs),a < i∧i+m=s.length+1∧i≤s.length∧I2=I∧st=(.string ⟨#[]⟩,.bool false,.int .i64 i,())∧Lx=X++((bb,BuB p v)::(L1++(b,LBo s a w)::L2))∧BuP bb p∧SlO 5 1 X v (Lib.byteCells acc) acc.length∧(acc=[]→v= .slice none 0 0)∧acc.length≤i∧
   DZ q (s.drop (a+1))=(DZ q (s.drop i)).map λx=>(acc++x.1,x.2)) (s.length - a)
  ⟨a+1,[],.pointer none,.slice none 0 0,[],by omega,by omega,by omega,rfl,rfl,rfl,.inl rfl,SlO.none _ _,λ_=>rfl,by simp,by simp⟩ ?_
 rintro m st I2 Lx ⟨i,X,p,v,acc,h1,h2,h2',rfl,rfl,rfl,hp,hX,hv,hal,hm⟩;unfold ABg;try refine zqe ?_
 refine rdb ?_;try refine zqe ?_
 refine AB (λhb=>?_) (λhb=>?_);rotate_left
 ·have hb:¬i < s.length:=by simpa using hb
  have:s.drop i=[]:=zaa zo;rw [this] at hm;exact zAE (L1++(b,LBo s a w)::L2) (zAA (hno (by rw [hm];rfl) []))
 have hb:i < s.length:=by simpa using hb
 obtain ⟨c,hc,hdc⟩:=Ff hb;try refine zqe ?_
 refine rdb ?_;simp only [ixS s hc,SSd,Nat.reduceAdd];have hz:((c.toNat:Int)==0)=(c==0):=JV c 0;try simp only [hz,WP,SSd,Nat.reduceAdd]
 refine AB (λh0=>?_) (λh0=>?_)
 ·refine zAE (L1++(b,LBo s a w)::L2) (zAA (hno ?_ []));rw [hm,hdc];simp only [EC,h0,if_true,zbv]
 refine AB (λhne=>?_) (λhne=>?_)
 ·refine call (Gu hp hX zo c (λX' v' hX'=>?_));unfold Pe;try simp only [wrap_i64 ((i:Int)+1) zo,SSd,Nat.reduceAdd]
  refine zAA ⟨m - 1,by omega,i+1,X',AL bb,v',acc++[c],by omega,by omega,by omega,rfl,rfl,rfl,.inr rfl,?_,by simp,by simp;omega,?_⟩
  ·rw [byteCells_snoc];simpa using hX'
  ·rw [hm,hdc];simp only [EC,h0,hne,zt,if_false,if_true];cases DZ q (s.drop (i+1)) <;> simp
 ·simp only [wrap_i64 ((i:Int)+1) zo,SSd,Nat.reduceAdd];refine rdb ?_;try refine zqe ?_
  have hcq:c=q:=by simpa using hne
  have fin:DZ q (s.drop i)=some ([],s.drop (i+1))→PZ ω (AL b) (.string ⟨#[]⟩) (.bool false) (AL bb) (.int .i64 i) (λv=>Gh (K v)) I2 (X++((bb,BuB p v)::(L1++(b,LBo s a w)::L2))):=by
   intro hf;unfold PZ;simp only [wrap_i64 ((i:Int)+1) zo,SSd,Nat.reduceAdd];refine st1 rfl ?_;rw [show ((i:Int)+1)=((i+1:Nat):Int) from rfl];refine call (JS (p:=p) (v:=v) (X:=X) hX zo (λh=>.inl (hv h)) (λX'=>?_));try refine zqe ?_
   refine zAE (L1++(b,LBo s (i+1) w)::L2) (zAA (hyes acc _ (by rw [hm,hf];simp) (i+1) zo zo rfl))
  refine BD (λhb2=>?_) (λhb2=>?_)
  ·have hb2:i+1 < s.length:=by
    have:=of_decide_eq_true hb2;omega
   obtain ⟨d,hd,hdd⟩:=Ff hb2;refine rdb ?_;rw [show ((i:Int)+1)=((i+1:Nat):Int) from rfl,ixS s hd];simp only [JV,SSd,Nat.reduceAdd];refine AB (λhq=>?_) (λhq=>?_)
   ·have hdq:d=q:=by simpa using hq
    unfold ABf;refine call (Gu hp hX zo q (λX' v' hX'=>?_));unfold Pe;simp only [wrap_i64 ((i:Int)+1) zo,wrap_i64 ((i:Int)+1+1) zo,SSd,Nat.reduceAdd];refine zAA ⟨m - 2,by omega,i+2,X',AL bb,v',acc++[q],by omega,by omega,by omega,rfl,rfl,rfl,.inr rfl,?_,by simp,by simp;omega,?_⟩
    ·rw [byteCells_snoc];simpa using hX'
    ·rw [hm,hdc,hdd];have h0':(c==0)=false:=by simpa using h0
     have hne':(c != q)=false:=by simpa using hne
     simp only [EC,h0',hne',hq,zt,if_false,if_true];cases DZ q (s.drop (i+2)) <;> simp
   ·refine fin ?_;rw [hdc,hdd];have h0':(c==0)=false:=by simpa using h0
    have hne':(c != q)=false:=by simpa using hne
    simp only [EC,h0',hne',hq,zt,if_false]
  ·refine fin ?_;have hb2:¬i+1 < s.length:=by
    have h:¬((i:Int)+1 < s.length):=by simpa using hb2
    omega
   have:s.drop (i+1)=[]:=zaa zo;rw [hdc,this];have h0':(c==0)=false:=by simpa using h0
   have hne':(c != q)=false:=by simpa using hne
   simp only [EC,h0',hne',zt,if_false]
end
abbrev AFA (k:Int)(a:Nat)(t:Bs)(n:Int):Value:=.agg #[.int .i64 k,.int .i64 (a:Nat),.string ⟨t.toArray⟩,.int .i64 n]
section
variable {ω:Om}{I:Imm}{L:LH}{K:Value→M}{C:Obj→LH}{b:Nat}{w:Value}{s:Bs}{a:Nat}
theorem Vl {α:Type}{p:α→Bool}:∀{l:List α} {i:Nat} (h:i < l.length),(∀j (hj:j < i),p (l[j]'zo)=false)→p l[i]=true→l.find? p=some l[i]
 |x::l,0,_,_,h=>by simp at h;simp [h]
 |x::l,i+1,hi,h0,h=>by
  have:=h0 0 zo;simp at this;simp only [List.find?_cons,this];simp only [List.getElem_cons_succ] at h ⊢;exact Vl (l:=l) (by simpa using hi) (λj hj=>by simpa using h0 (j+1) zo) h
theorem QZ:∀{x:Bs},x∈signsL→x.length≤2:=by
 intro x hx;simp only [signsL,zZ,zaH,or_false] at hx;rcases hx with rfl|rfl|rfl|rfl|rfl|rfl|rfl|rfl|rfl|rfl|rfl|rfl|rfl|rfl|rfl|rfl|rfl|rfl <;> decide
theorem ADM [hF:Foc b L (LBo s a w) C](ha:a < s.length)(hs:s.length≤900000000)(m0:Nat)
  (hno:IC (s.drop a)=none→∀I',Ext I I'→K (.tuple #[AFA 5 m0 [] 0,.int .i64 171]) I' L)
  (hyes:∀x,IC (s.drop a)=some x→a+x.length≤s.length→∀I',Ext I I'→K (.tuple #[AFA 5 m0 (if x=[33,61] then [60,62] else x) 0,.int .i64 0]) I' (C (LBo s (a+x.length) w))):
  CT ω 143 #[AL b,AFA 0 m0 [] 0] K I L:=by
 obtain ⟨L1,L2,rfl,rfl⟩:=hF.foc;refine AQV ?_;unfold AMa;refine AQ (λb1=>?_);refine AQ (λb2=>?_);repeat' (first|refine zqa ?_|refine zqh (λ_=>?_)|refine zqr ?_|refine zqb ?_|refine zqi ?_ ?_|refine zqc ?_|refine zqg (λ_=>?_) (λ_=>?_)|refine zqe ?_|fail)
 refine DT signsL rfl rfl (λI1 av hI1 hw=>zAA ?_);have hlen:signsL.length=18:=rfl;try refine zqe ?_
 refine loop (λm st I2 Lx=>∃i:Nat,i+m=18∧I2=I1∧st=(.int .i64 0,.int .i64 i,())∧Lx=(b2,.cells [.int .i64 0,.int .i64 0,.string ⟨#[]⟩,.int .i64 0].toArray 93 (0,0))::(b1,.cells [.int .i64 5,.int .i64 (m0:Nat),.string ⟨#[]⟩,.int .i64 0].toArray 93 (0,0))::(L1++(b,LBo s a w)::L2)∧∀j (hj:j < signsL.length),j < i→(signsL[j]).isPrefixOf (s.drop a)=false) 18
  ⟨0,rfl,rfl,rfl,rfl,λj _ hj=>by omega⟩ ?_
 rintro m st I2 Lx ⟨i,h1,rfl,rfl,rfl,hall⟩;unfold ABe;try refine zqe ?_
 refine AB (λhb=>?_) (λhb=>?_);rotate_left
 ·have hb:¬i < 18:=by
   have:¬((i:Int) < 18):=by simpa using hb
   omega
  unfold ABd;repeat' (first|refine zqa ?_|refine zqh (λ_=>?_)|refine zqr ?_|refine zqb ?_|refine zqi ?_ ?_|refine zqc ?_|refine zqg (λ_=>?_) (λ_=>?_)|refine zqe ?_|fail)
  refine zAE (L1++(b,LBo s a w)::L2) (zAA (hno ?_ I2 hI1));rw [IC,List.find?_eq_none];intro x hx;obtain ⟨j,hj,rfl⟩:=List.mem_iff_getElem.1 hx;simp [hall j hj zo]
 have hb:i < signsL.length:=by
  have:((i:Int) < 18):=by simpa using hb
  omega
 obtain ⟨bw,off,cw,hi1,_,hi2,hi3⟩:=zAR hw (i:=i) zo zo;rw [Am hb] at hi2;obtain rfl:=hi2;have hi1:ixV 1 (.slice av 18 18) (.int .i64 i)=_:=hi1;simp only [hi1,SSd,Nat.reduceAdd];refine rd1 ((hi3 _ [] (zAC _) (λ_ h=>h) 0 _ rfl).mono (zAC _) (λ_ h=>by cases h)) ?_;refine BM ?_;try refine zqe ?_
 refine CB ?_;try refine zqe ?_
 refine CB ?_;simp only [Ya s (zaN ha),SSd,Nat.reduceAdd];have hle:=QZ (zH hb);refine call (Jw (s.drop a) signsL[i] zu zo ?_);refine AB (λhp=>?_) (λhp=>?_)
 ·have hf:IC (s.drop a)=some signsL[i]:=Vl (p:=λ(x:Bs)=>x.isPrefixOf (s.drop a)) hb (λj hj=>hall j zo hj) hp;have hpl:=(zaJ.1 hp).length_le;have hpl:a+(signsL[i]).length≤s.length:=by simp at hpl;omega
  try refine zqe ?_
  refine rdb ?_;simp only [wrap_i64 ((a:Int)+(signsL[i]).length) zo,SSd,Nat.reduceAdd];refine st1 rfl ?_;rw [show ((a:Int)+((signsL[i]).length:Nat))=((a+(signsL[i]).length:Nat):Int) from rfl];have hfin:=hyes _ hf hpl I2 hI1;have fin:∀t:Bs,t=(if signsL[i]=[33,61] then [60,62] else signsL[i])→PY ω (AL b1) (AL b2) (.int .i64 0) (λv=>Gh (K v)) I2 ((b2,.cells [.int .i64 0,.int .i64 0,.string ⟨#[]⟩,.int .i64 0].toArray 93 (0,0))::(b1,.cells [.int .i64 5,.int .i64 (m0:Nat),.string ⟨t.toArray⟩,.int .i64 0].toArray 93 (0,0))::(L1++(b,LBo s (a+(signsL[i]).length) w)::L2)):=by
   intro t ht;rw [←ht] at hfin;unfold PY;repeat' (first|refine zqa ?_|refine zqh (λ_=>?_)|refine zqr ?_|refine zqb ?_|refine zqi ?_ ?_|refine zqc ?_|refine zqg (λ_=>?_) (λ_=>?_)|refine zqe ?_|fail)
   exact zAE (L1++(b,LBo s (a+(signsL[i]).length) w)::L2) (zAA hfin)
  refine st1 rfl ?_;refine AB (λhe=>?_) (λhe=>?_)
  ·refine st1 rfl ?_;exact fin [60,62] (by rw [if_pos (by simpa using he)])
  ·exact fin _ (by rw [if_neg (by simpa using he)])
 ·simp only [wrap_i64 ((i:Int)+1) zo,SSd,Nat.reduceAdd];refine zAA ⟨m - 1,by omega,i+1,by omega,rfl,rfl,rfl,λj hj hji=>?_⟩;rcases zbi (Nat.le_of_lt_succ hji) with hlt|rfl
  ·exact hall j hj hlt
  ·simpa using hp
end
theorem AHV {T:Nat}{I:Imm}{X L:LH}{v:Value}{l:Bs}(h:SlO T 1 X v (Lib.byteCells l) l.length)(hL:∀x∈X,x∈L):bsR v I L (.string ⟨l.toArray⟩):=by
 have hf:=h.form;rcases h.news (I:=I) hL with ⟨a,cap,rfl,hl,hn⟩|⟨b,off,cap,rfl,hl,hc⟩|⟨s,rfl,_⟩
 ·have:l=[]:=zae hl;subst this;exact .inl ⟨a,cap,rfl,rfl⟩
 ·exact .inr ⟨b,off,_,cap,l,rfl,rfl,hc,rfl⟩
 ·obtain ⟨a,cap,hv⟩:=hf;cases hv
section
variable {ω:Om}{I:Imm}{L:LH}{K:Value→M}
theorem JL (c:UInt8)(hk:K (.bool (Bq c)) I L):CT ω 77 #[.int .u8 c.toNat] K I L:=by
 refine ATq ?_;unfold ARr;have ht:=GY (p:=λc=>(Bq c==((decide ((97:Int)≤c.toNat)&&decide ((c.toNat:Int)≤122))||(decide ((65:Int)≤c.toNat)&&decide ((c.toNat:Int)≤90))||((c.toNat:Int)==95)))) zq c;have ht:=eq_of_beq ht;rw [ht] at hk;repeat' (first|refine zqa ?_|refine zqh (λ_=>?_)|refine zqr ?_|refine zqb ?_|refine zqi ?_ ?_|refine zqc ?_|refine zqg (λ_=>?_) (λ_=>?_)|refine zqe ?_|fail)
 all_goals (refine zAA ?_;simp_all)
theorem KC (c:UInt8)(hk:K (.bool (BI c)) I L):CT ω 78 #[.int .u8 c.toNat] K I L:=by
 refine ATp ?_;unfold ARq;have ht:=GY (p:=λc=>(BI c==(decide ((48:Int)≤c.toNat)&&decide ((c.toNat:Int)≤57)))) zq c;have ht:=eq_of_beq ht;rw [ht] at hk;repeat' (first|refine zqa ?_|refine zqh (λ_=>?_)|refine zqr ?_|refine zqb ?_|refine zqi ?_ ?_|refine zqc ?_|refine zqg (λ_=>?_) (λ_=>?_)|refine zqe ?_|fail)
 all_goals (refine zAA ?_;simp_all)
theorem Xm (c:UInt8)(hk:K (.bool (NM c)) I L):CT ω 33 #[.int .u8 c.toNat] K I L:=by
 refine AUT ?_;unfold ASU;have ht:=GY (p:=λc=>(NM c==(((c.toNat:Int)==9)||((c.toNat:Int)==10)||((c.toNat:Int)==12)||((c.toNat:Int)==13)||((c.toNat:Int)==32)))) zq c;have ht:=eq_of_beq ht;rw [ht] at hk;repeat' (first|refine zqa ?_|refine zqh (λ_=>?_)|refine zqr ?_|refine zqb ?_|refine zqi ?_ ?_|refine zqc ?_|refine zqg (λ_=>?_) (λ_=>?_)|refine zqe ?_|fail)
 all_goals (refine zAA ?_;simp_all)
theorem AHO (x s:Bs)(h:x.length≤s.length):(s.take x.length==x)=x.isPrefixOf s:=by
 rw [Bool.eq_iff_iff,beq_iff_eq,zaJ,List.prefix_iff_eq_take];exact eq_comm
theorem AHP (x s:Bs)(h:s.length < x.length):x.isPrefixOf s=false:=by
 cases hp:x.isPrefixOf s with
 |false=>rfl
 |true=>
  have:=(zaJ.1 hp).length_le;omega
theorem AAC (s:Bs){a:Nat}(ha:a≤s.length)(hs:s.length≤900000000)(hk:∀I',Ext I I'→K (.string ⟨((IC (s.drop a)).getD []).toArray⟩) I' L):CT ω 82 #[.string ⟨s.toArray⟩,.int .i64 a] K I L:=by
 refine ATl ?_;unfold ARm;refine DT signsL rfl rfl (λI1 av hI1 hw=>zAA ?_);have hlen:signsL.length=18:=rfl;refine loop (λm st I2 Lx=>∃i:Nat,i+m=18∧I2=I1∧st=(.string ⟨#[]⟩,.int .i64 i,())∧Lx=L∧∀j (hj:j < signsL.length),j < i→(signsL[j]).isPrefixOf (s.drop a)=false) 18
  ⟨0,rfl,rfl,rfl,rfl,λj _ hj=>by omega⟩ ?_
 rintro m st I2 Lx ⟨i,h1,rfl,rfl,rfl,hall⟩;unfold AFZ;try refine zqe ?_
 refine AB (λhb=>?_) (λhb=>?_);rotate_left
 ·have hb:¬i < 18:=by
   have:¬((i:Int) < 18):=by simpa using hb
   omega
  have:IC (s.drop a)=none:=by
   rw [IC,List.find?_eq_none];intro x hx;obtain ⟨j,hj,rfl⟩:=List.mem_iff_getElem.1 hx;simp [hall j hj zo]
  have hk:=hk I2 hI1;rw [this] at hk;exact zAA hk
 have hb:i < signsL.length:=by
  have:((i:Int) < 18):=by simpa using hb
  omega
 obtain ⟨bw,off,cw,hi1,_,hi2,hi3⟩:=zAR hw (i:=i) zo zo;rw [Am hb] at hi2;obtain rfl:=hi2;have hi1:ixV 1 (.slice av 18 18) (.int .i64 i)=_:=hi1;have hle:=QZ (zH hb);simp only [hi1,SSd,Nat.reduceAdd];refine rd1 ((hi3 _ [] (zAC _) (λ_ h=>h) 0 _ rfl).mono (zAC _) (λ_ h=>by cases h)) ?_;try refine zqe ?_
 refine BM ?_;simp only [wrap_i64 ((s.length:Int) - a) zo,SSd,Nat.reduceAdd];have next:(signsL[i]).isPrefixOf (s.drop a)=false→∃m',m' < m∧∃i':Nat,i'+m'=18∧I2=I2∧((.string ⟨#[]⟩,.int .i64 ((i:Int)+1),()):Value×Value×Unit)=(.string ⟨#[]⟩,.int .i64 (i':Nat),())∧Lx=Lx∧∀j (hj:j < signsL.length),j < i'→(signsL[j]).isPrefixOf (s.drop a)=false:=by
  intro hp;refine ⟨m - 1,by omega,i+1,by omega,rfl,rfl,rfl,λj hj hji=>?_⟩;rcases zbi (Nat.le_of_lt_succ hji) with hlt|rfl
  ·exact hall j hj hlt
  ·exact hp
 refine BD (λhn=>?_) (λhn=>?_)
 ·have hn:a+(signsL[i]).length≤s.length:=by
   have:=of_decide_eq_true hn;omega
  have e:((a:Int)+((signsL[i]).length:Nat))=((a+(signsL[i]).length:Nat):Int):=rfl;rw [wrap_i64 _ zo,e,slS s (zbt _ _) hn,Nat.add_sub_cancel_left];try refine zqe ?_
  refine Gm (v:=.string ⟨(signsL[i]).toArray⟩) (λI' L' hS=>(hi3 _ [] (zAC _) (λ_ h=>h) 0 _ rfl).mono hS.1 (λ_ h=>by cases h)) ?_;have ep:(List.take (signsL[i]).length (List.drop a s)==signsL[i])=(signsL[i]).isPrefixOf (s.drop a):=AHO _ _ zu;simp only [ep,SSd,Nat.reduceAdd];refine AB (λhp=>?_) (λhp=>?_)
  ·have hf:IC (s.drop a)=some signsL[i]:=Vl (p:=λ(x:Bs)=>x.isPrefixOf (s.drop a)) hb (λj hj=>hall j zo hj) hp;have hk:=hk I2 hI1;rw [hf] at hk;unfold AFY;simp only [hi1,SSd,Nat.reduceAdd];refine rd1 ((hi3 _ [] (zAC _) (λ_ h=>h) 0 _ rfl).mono (zAC _) (λ_ h=>by cases h)) ?_;exact zAA hk
  ·simp only [wrap_i64 ((i:Int)+1) zo,SSd,Nat.reduceAdd];exact zAA (next (by simpa using hp))
 ·have hn:s.length < a+(signsL[i]).length:=by
   have:¬(((signsL[i]).length:Int)≤(s.length:Int) - a):=by simpa using hn
   omega
  simp only [wrap_i64 ((i:Int)+1) zo,SSd,Nat.reduceAdd];exact zAA (next (AHP _ _ zu))
end
section
variable {ω:Om}{I:Imm}{L:LH}{K:Value→M}
theorem Vs (s:Bs){a:Nat}{q:UInt8}(hq0:q≠0)(haq:s[a]? =some q)(hs:s.length≤900000000)
  (hno:DZ q (s.drop (a+1))=none→K (.tuple #[.string ⟨#[]⟩,.int .i64 0,.bool false]) I L)
  (hyes:∀t r,DZ q (s.drop (a+1))=some (t,r)→∀a':Nat,a < a'→a'≤s.length→s.drop a'=r→K (.tuple #[.string ⟨t.toArray⟩,.int .i64 a',.bool true]) I L):
  CT ω 81 #[.string ⟨s.toArray⟩,.int .i64 a] K I L:=by
 have ha:a < s.length:=(zY.1 haq).1;refine ATm ?_;unfold ARn;simp only [ixS s haq,wrap_i64 ((a:Int)+1) zo,SSd,Nat.reduceAdd];refine loop (λm st I2 Lx=>∃(i:Nat) (X:LH) (v:Value) (acc:Bs),a < i∧i+m=s.length+1∧i≤s.length∧I2=I∧st=(.string ⟨#[]⟩,.int .i64 0,.bool false,v,.int .i64 i,())∧Lx=X++L∧SlO 5 1 X v (Lib.byteCells acc) acc.length∧acc.length≤i∧
   DZ q (s.drop (a+1))=(DZ q (s.drop i)).map λx=>(acc++x.1,x.2)) (s.length - a)
  ⟨a+1,[],.slice none 0 0,[],by omega,by omega,by omega,rfl,rfl,rfl,SlO.none _ _,by simp,by simp⟩ ?_
 rintro m st I2 Lx ⟨i,X,v,acc,h1,h2,h2',rfl,rfl,rfl,hX,hal,hm⟩;unfold AFa;try refine zqe ?_
 refine AB (λhb=>?_) (λhb=>?_);rotate_left
 ·have hb:¬i < s.length:=by simpa using hb
  have:s.drop i=[]:=zaa zo;rw [this] at hm;exact zAE L (zAA (hno (by rw [hm];rfl)))
 have hb:i < s.length:=by simpa using hb
 obtain ⟨c,hc,hdc⟩:=Ff hb;have hz:((c.toNat:Int)==0)=(c==0):=JV c 0;simp only [ixS s hc,hz,WP,JV,SSd,Nat.reduceAdd];refine AB (λh0=>?_) (λh0=>?_)
 ·refine zAE L (zAA (hno ?_));rw [hm,hdc];simp only [EC,h0,if_true,zbv]
 have h0':(c==0)=false:=by simpa using h0
 have put:∀{j:Nat},i≤j→j < s.length→DZ q (s.drop (a+1))=(DZ q (s.drop (j+1))).map (λx=>(acc++[c]++x.1,x.2))→
   Uh ω (.string ⟨#[]⟩) (.int .i64 0) (.bool false) v (.int .i64 j) (.int .u8 c.toNat) (λs1=>Gh (λI3 L3=>∃m',m' < m∧∃(i:Nat) (X:LH) (v:Value) (acc:Bs),a < i∧i+m'=s.length+1∧i≤s.length∧I3=I2∧s1=(.string ⟨#[]⟩,.int .i64 0,.bool false,v,.int .i64 i,())∧L3=X++L∧SlO 5 1 X v (Lib.byteCells acc) acc.length∧acc.length≤i∧
   DZ q (s.drop (a+1))=(DZ q (s.drop i)).map λx=>(acc++x.1,x.2))) (λv=>Gh (K v)) I2 (X++L):=by
  intro j hij hj hh;unfold Uh;refine Dw rfl zx rfl (λX1 u hX1=>?_);refine Dx (X:=X) rfl hX (hX1.news (λx hx=>zaq _ hx)) (λu hu=>?_) zo zo (λX2 v2 hX2=>?_)
  ·rw [zX.1 hu];rfl
  have hX2:SlO 5 1 X2 v2 (Lib.byteCells (acc++[c])) (acc++[c]).length:=by rw [Lib.byteCells_append,zn];exact hX2
  simp only [wrap_i64 ((j:Int)+1) zo,SSd,Nat.reduceAdd];exact zAE (X2++L) (zAA ⟨s.length - j,by omega,j+1,X2,v2,acc++[c],by omega,by omega,by omega,rfl,rfl,rfl,hX2,by simp;omega,hh⟩)
 have fin:DZ q (s.drop i)=some ([],s.drop (i+1))→Ui ω (.string ⟨#[]⟩) (.int .i64 0) (.bool false) v (.int .i64 i) (λv=>Gh (K v)) I2 (X++L):=by
  intro hf;unfold Ui;refine ⟨_,AHV hX (λx hx=>zaq _ hx),?_⟩;simp only [wrap_i64 ((i:Int)+1) zo,SSd,Nat.reduceAdd];exact zAE L (zAA (hyes acc _ (by rw [hm,hf];simp) (i+1) zo zo rfl))
 refine AB (λhne=>?_) (λhne=>?_)
 ·have hcq:c=q:=by simpa using hne
  have hne':(c != q)=false:=by simp [hcq]
  simp only [wrap_i64 ((i:Int)+1) zo,SSd,Nat.reduceAdd];refine BD (λhb2=>?_) (λhb2=>?_)
  ·have hb2:i+1 < s.length:=by
    have:¬((i:Int)+1=s.length):=by simpa using hb2
    omega
   obtain ⟨d,hd,hdd⟩:=Ff hb2;rw [show ((i:Int)+1)=((i+1:Nat):Int) from rfl,ixS s hd];simp only [WP,SSd,Nat.reduceAdd];refine AB (λhq=>?_) (λhq=>?_)
   ·refine fin ?_;have hq':(d==q)=false:=by simpa using hq
    rw [hdc,hdd];simp only [EC,h0',hne',hq',zt,if_false]
   ·have hq':(d==q)=true:=by simpa using hq
    refine put (j:=i+1) (Nat.le_succ _) hb2 ?_;rw [hm,hdc,hdd];simp only [EC,h0',hne',hq',zt,if_false,if_true];rw [hcq];cases DZ q (s.drop (i+1+1)) <;> simp
  ·refine fin ?_;have hb2:i+1=s.length:=by
    have h:((i:Int)+1=s.length):=by simpa using hb2
    omega
   have:s.drop (i+1)=[]:=zaa zo;rw [hdc,this];simp only [EC,h0',hne',zt,if_false]
 ·have hne':(c != q)=true:=by simpa using hne
  refine put (zW _) hb ?_;rw [hm,hdc];simp only [EC,h0',hne',zt,if_false,if_true];cases DZ q (s.drop (i+1)) <;> simp
end
end Go.Proofs.YtkifgfanjcfedaaGreatDoor
