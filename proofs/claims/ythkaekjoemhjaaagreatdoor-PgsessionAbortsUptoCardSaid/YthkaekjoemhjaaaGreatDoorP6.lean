/-
  Lemmas, part 6: laid together by a program.
-/
import Derived.Test.YthkaekjoemhjaaaGreatDoorP5
import Derived.Test.YthkaekjoemhjaaaGreatDoorProg
import Derived.Shelf.Strconv.Itoa4
import Derived.Shelf.Lays
set_option maxRecDepth 100000
set_option linter.unusedVariables false
set_option linter.unusedSimpArgs false
set_option linter.unusedSectionVars false
namespace Go.Proofs.YthkaekjoemhjaaaGreatDoor
open Go.SL
abbrev LBo (s:Bs)(a:Nat)(w:Value):Obj:=.cells [.string ⟨s.toArray⟩,.int .i64 (a:Nat),w].toArray 266 (0,0)
theorem QL:∀l:Bs,Cc true l=match l.findIdx? (·==10) with
  |some n=>Cc false (l.drop n)
  |none=>[]
 |[]=>rfl
 |c::r=>by
  have ih:=QL r;simp only [Cc,List.findIdx?_cons];by_cases hc:(c==10)=true
  ·have hc':c=10:=by simpa using hc
   subst hc';simp [Cc,Qh]
  ·simp only [hc,Bool.false_eq_true,if_false];rw [ih];cases r.findIdx? (·==10) <;> rfl
def ARK:Bs:=[9,10,12,13,32]
theorem ALG (c:UInt8):decide ((0:Int)≤Fp ARK c)=Qh c:=by
 have:=Ey (p:=fun c=>(decide ((0:Int)≤Fp ARK c)==Qh c)) (by decide+kernel) c;exact eq_of_beq this
theorem Ik {ω:Om}{I:Imm}{L:LH}{K:Value→M}(s p:Bs)(hs:s.length≤1000000000)(hp:p.length≤1000000000)(hk:K (.bool (p.isPrefixOf s)) I L):CT ω 213 #[.string ⟨s.toArray⟩,.string ⟨p.toArray⟩] K I L:=by
 refine AOw ?_;unfold AEO;refine call ?_;refine AOX ?_;unfold ADV;have hk':Gh (Gh (K (.bool (p.isPrefixOf s)))) I L:=Gh.done (Gh.done hk);try simp only [SSd,Nat.reduceAdd]
 refine AP (fun hb=>?_) (fun hb=>?_)
 ·have hb:p.length≤s.length:=by simpa using hb
  simp only [AMI s hb,SSd,Nat.reduceAdd];have:(s.take p.length==p)=p.isPrefixOf s:=by
   rw [Bool.eq_iff_iff];simp only [beq_iff_eq,List.isPrefixOf_iff_prefix];constructor
   ·intro e;rw [←e];exact List.take_prefix _ _
   ·intro e;exact (List.prefix_iff_eq_take.1 e).symm
  rw [this];exact hk'
 ·have hb:¬p.length≤s.length:=by simpa using hb
  have:p.isPrefixOf s=false:=by
   cases h:p.isPrefixOf s with
   |false=>rfl
   |true=>exact absurd (List.isPrefixOf_iff_prefix.1 h).length_le hb
  rw [this] at hk';exact hk'
section
variable {ω:Om}{I:Imm}{L:LH}{K:Value→M}{C:Obj→LH}{b:Nat}{w:Value}{s:Bs}{a:Nat}
theorem PK {s:Bs}{a:Nat}(h:a < s.length):∃c,s[a]? =some c∧s.drop a=c::s.drop (a+1):=⟨s[a],List.getElem?_eq_getElem h,List.drop_eq_getElem_cons h⟩
theorem QX [hF:Foc b L (LBo s a w) C](ha:a≤s.length)(hs:s.length≤900000000)(hk:∀a',a≤a'→a'≤s.length→s.drop a'=Cc false (s.drop a)→K (.tuple #[]) I (C (LBo s a' w))):CT ω 183 #[Ai b] K I L:=by
 obtain ⟨L1,L2,rfl,rfl⟩:=hF.foc;refine APM ?_;unfold AEt;refine loop (fun m _ I2 Lx=>∃a2,a≤a2∧a2+m=s.length∧I2=I∧Lx=L1++(b,LBo s a2 w)::L2∧Cc false (s.drop a2)=Cc false (s.drop a)) (s.length - a) ⟨a,Nat.le_refl _,by omega,rfl,rfl,rfl⟩ ?_;rintro m _ I2 Lx ⟨a2,h1,h2,rfl,rfl,hm⟩;unfold YQ;repeat' (first|(with_reducible first|refine Aw ?_|refine Ag ?_|refine Ak ?_|refine keepA ?_|refine AZ (fun _=>?_)|refine rdb ?_)|((with_reducible first|refine st1 ?_ ?_|refine rdB ?_ ?_);rfl)|(with_reducible refine Ah ?_)|((with_reducible refine BB ?_ ?_);rfl)|((with_reducible refine stB ?_ ?_ ?_ ?_);rfl;rfl;exact AL rfl)|((with_reducible first|refine rdP _ rfl ?_ ?_|refine BC _ rfl ?_ ?_);rfl)|((with_reducible refine stP _ rfl ?_ ?_ ?_ ?_);rfl;rfl;rfl)|(with_reducible refine And.intro ?_ ?_)|(simp only [SSg,Int.reduceBEq,Int.reduceBNe,Int.reduceLT,Int.reduceLE,beq_self_eq_true,bne_self_eq_false])|(with_reducible first|refine AP (fun _=>?_) (fun _=>?_)|refine AB (fun _=>?_) (fun _=>?_))|(simp only [SSd,Nat.reduceAdd]))
 ·rename_i hb
  have hb:a2 < s.length:=by simpa using hb
  obtain ⟨c,hc,hd⟩:=PK hb;simp only [ixS s hc,SSd,Nat.reduceAdd];refine call (FZ [9,10,12,13,32] c ?_);have hbi:decide ((0:Int)≤Fp [9,10,12,13,32] c)=Qh c:=ALG c;simp only [hbi,SSd,Nat.reduceAdd];refine AB (fun hbl=>?_) (fun hbl=>?_)
  ·refine rdb ?_;simp only [wrap_i64 ((a2:Int)+1) (by omega),SSd,Nat.reduceAdd];refine st1 rfl ?_;refine Gh.done ⟨m - 1,by omega,a2+1,by omega,by omega,rfl,rfl,?_⟩;rw [←hm,hd];simp [Cc,hbl]
  ·refine Aw ?_;try simp only [SSd,Nat.reduceAdd]
   refine Ah ?_;try simp only [SSd,Nat.reduceAdd]
   refine Ah ?_;simp only [AAJ s (Nat.le_of_lt hb),SSd,Nat.reduceAdd];refine call (Ik (s.drop a2) [45,45] (by simp;omega) (by simp) ?_);refine AB (fun hp=>?_) (fun hp=>?_)
   ·have h45:∃r,s.drop a2=45::45::r:=by
     obtain ⟨r,hr⟩:=List.isPrefixOf_iff_prefix.1 hp;exact ⟨r,hr.symm⟩
    obtain ⟨r,hr⟩:=h45;have hskip:Cc false (s.drop a2)=Cc true (s.drop a2):=by
     rw [hr];simp [Cc,Qh]
    rw [QL] at hskip;refine Aw ?_;try simp only [SSd,Nat.reduceAdd]
    refine Ah ?_;try simp only [SSd,Nat.reduceAdd]
    refine Ah ?_;simp only [AAJ s (Nat.le_of_lt hb),SSd,Nat.reduceAdd];refine call (FZ (s.drop a2) 10 ?_);cases hf:(s.drop a2).findIdx? (·==10) with
    |none=>
     rw [hf] at hskip;have hi:Fp (s.drop a2) 10= -1:=by simp only [Fp,hf]
     rw [hi];repeat' (first|(with_reducible first|refine Aw ?_|refine Ag ?_|refine Ak ?_|refine keepA ?_|refine AZ (fun _=>?_)|refine rdb ?_)|((with_reducible first|refine st1 ?_ ?_|refine rdB ?_ ?_);rfl)|(with_reducible refine Ah ?_)|((with_reducible refine BB ?_ ?_);rfl)|((with_reducible refine stB ?_ ?_ ?_ ?_);rfl;rfl;exact AL rfl)|((with_reducible first|refine rdP _ rfl ?_ ?_|refine BC _ rfl ?_ ?_);rfl)|((with_reducible refine stP _ rfl ?_ ?_ ?_ ?_);rfl;rfl;rfl)|(with_reducible refine And.intro ?_ ?_)|(simp only [SSg,Int.reduceBEq,Int.reduceBNe,Int.reduceLT,Int.reduceLE,beq_self_eq_true,bne_self_eq_false])|(with_reducible first|refine AP (fun _=>?_) (fun _=>?_)|refine AB (fun _=>?_) (fun _=>?_))|(simp only [SSd,Nat.reduceAdd]))
     exact Gh.done (hk s.length ha (Nat.le_refl _) (by rw [←hm,hskip];simp))
    |some n=>
     rw [hf] at hskip;obtain ⟨hn,hn1,hn2⟩:=List.findIdx?_eq_some_iff_getElem.1 hf;have hi:Fp (s.drop a2) 10=n:=by simp only [Fp,hf]
     have hn0:n≠0:=by
      rintro rfl;rw [hr] at hf;simp [List.findIdx?_cons] at hf
     have hlt:n < s.length - a2:=by simpa using hn
     rw [hi];have hneg:decide ((n:Int) < 0)=false:=by simp
     simp only [hneg,SSd,Nat.reduceAdd];refine rdb ?_;simp only [wrap_i64 ((a2:Int)+n) (by omega),SSd,Nat.reduceAdd];refine st1 rfl ?_;refine Gh.done ⟨m - n,by omega,a2+n,by omega,by omega,rfl,by simp,?_⟩;rw [←hm,hskip];simp
   ·refine Gh.done (hk a2 h1 (by omega) ?_);rw [←hm,hd];rw [hd] at hp;have:(c==45&&(s.drop (a2+1)).head? ==some 45)=false:=by
     cases hx:(c==45&&(s.drop (a2+1)).head? ==some 45) with
     |false=>rfl
     |true=>
      simp only [Bool.and_eq_true,beq_iff_eq] at hx;obtain ⟨rfl,hx⟩:=hx;cases hy:s.drop (a2+1) with
      |nil=>rw [hy] at hx;simp at hx
      |cons d r=>
       rw [hy] at hx hp;simp at hx;subst hx;simp [List.isPrefixOf] at hp
    simp only [Cc,hbl,this,Bool.false_eq_true,if_false]
 ·rename_i hb
  have hb:¬a2 < s.length:=by simpa using hb
  refine Gh.done (hk a2 h1 (by omega) ?_);rw [←hm];have:s.drop a2=[]:=List.drop_eq_nil_of_le (by omega);rw [this];rfl
end
abbrev BuB (p v:Value):Obj:=.cells [p,v].toArray 313 (0,0)
def BuP (b:Nat)(p:Value):Prop:=p= .pointer none∨p=Ai b
theorem ALF:liesAt Tryz.prog Tryz.prog.depth 313 (2 / Tryz.prog.cellsOf 313) 0 313 1=true:=by kernel_rfl
section
variable {ω:Om}{I:Imm}{L:LH}{K:Value→M}{C:Obj→LH}{b:Nat}{p v:Value}
theorem EY [hF:Foc b L (BuB p v) C](hp:BuP b p)(hk:K (.tuple #[]) I (C (BuB (Ai b) v))):CT ω 269 #[Ai b] K I L:=by
 obtain ⟨L1,L2,rfl,rfl⟩:=hF.foc;refine AOF ?_;unfold ACm;rcases hp with rfl|rfl
 ·have e1:GU .eql (.pointer none) (.pointer none)=some (.bool true):=rfl;simp only [e1,SSd,Nat.reduceAdd];refine rdb ?_;simp only [e1,SSd,Nat.reduceAdd];refine ⟨_,⟨b,0,[.pointer none,v].toArray,313,(0,0),rfl,.inr (by simp),by simp,rfl⟩,?_⟩;refine AHC (Gh.done ?_);refine ⟨_,⟨b,0,[.pointer none,v].toArray,313,(0,0),rfl,.inr (by simp),ALF,rfl⟩,?_⟩;repeat' (first|(with_reducible first|refine Aw ?_|refine Ag ?_|refine Ak ?_|refine keepA ?_|refine AZ (fun _=>?_)|refine rdb ?_)|((with_reducible first|refine st1 ?_ ?_|refine rdB ?_ ?_);rfl)|(with_reducible refine Ah ?_)|((with_reducible refine BB ?_ ?_);rfl)|((with_reducible refine stB ?_ ?_ ?_ ?_);rfl;rfl;exact AL rfl)|((with_reducible first|refine rdP _ rfl ?_ ?_|refine BC _ rfl ?_ ?_);rfl)|((with_reducible refine stP _ rfl ?_ ?_ ?_ ?_);rfl;rfl;rfl)|(with_reducible refine And.intro ?_ ?_)|(simp only [SSg,Int.reduceBEq,Int.reduceBNe,Int.reduceLT,Int.reduceLE,beq_self_eq_true,bne_self_eq_false])|(with_reducible first|refine AP (fun _=>?_) (fun _=>?_)|refine AB (fun _=>?_) (fun _=>?_))|(simp only [SSd,Nat.reduceAdd]))
  exact Gh.to _ (Gh.done hk)
 ·try simp only [SSd,Nat.reduceAdd]
  refine rdb ?_;have e2:GU .neq (Ai b) (Ai b)=some (.bool false):=by simp [GU]
  simp only [II,SSd,Nat.reduceAdd];refine rdb ?_;simp only [e2,SSd,Nat.reduceAdd];exact Gh.done hk
theorem FN {X F:LH}{cells:List Value}{n:Nat}[hs:SplitL X L F][hF:Foc b F (BuB p v) C](hp:BuP b p)(hX:SlO 5 1 X v cells n)(hn:n≤1000000000)(c:UInt8)
  (hk:∀X' v',SlO 5 1 X' v' (cells++[.int .u8 c.toNat]) (n+1)→K .nilIface I (X'++C (BuB (Ai b) v'))):CT ω 253 #[Ai b,.int .u8 c.toNat] K I L:=by
 obtain ⟨L1,L2,rfl,rfl⟩:=hF.foc;refine Cal.split X ?_;refine AOR ?_;unfold ADJ;refine call (EY hp ?_);try simp only [SSd,Nat.reduceAdd]
 refine rdb ?_;refine CS rfl (by omega) rfl (fun X1 u hX1=>?_);refine Bd (X:=X) rfl hX (hX1.news (fun x hx=>List.mem_append_left _ hx)) (by simp [Value.cells,Value.oneCell']) (by omega) (by omega) (fun X2 v2 hX2=>?_);have hX2:SlO 5 1 X2 v2 (cells++[.int .u8 c.toNat]) (n+1):=by simpa [Value.cells] using hX2
 obtain ⟨a2,k2,rfl⟩:=hX2.form;repeat' (first|(with_reducible first|refine Aw ?_|refine Ag ?_|refine Ak ?_|refine keepA ?_|refine AZ (fun _=>?_)|refine rdb ?_)|((with_reducible first|refine st1 ?_ ?_|refine rdB ?_ ?_);rfl)|(with_reducible refine Ah ?_)|((with_reducible refine BB ?_ ?_);rfl)|((with_reducible refine stB ?_ ?_ ?_ ?_);rfl;rfl;exact AL rfl)|((with_reducible first|refine rdP _ rfl ?_ ?_|refine BC _ rfl ?_ ?_);rfl)|((with_reducible refine stP _ rfl ?_ ?_ ?_ ?_);rfl;rfl;rfl)|(with_reducible refine And.intro ?_ ?_)|(simp only [SSg,Int.reduceBEq,Int.reduceBNe,Int.reduceLT,Int.reduceLE,beq_self_eq_true,bne_self_eq_false])|(with_reducible first|refine AP (fun _=>?_) (fun _=>?_)|refine AB (fun _=>?_) (fun _=>?_))|(simp only [SSd,Nat.reduceAdd]))
 exact Gh.to (X2++(L1++(b,BuB (Ai b) (.slice a2 (n+1) k2))::L2)) (Gh.done (hk X2 _ hX2))
theorem byteCells_snoc (l:Bs)(c:UInt8):Lib.byteCells (l++[c])=Lib.byteCells l++[.int .u8 c.toNat]:=by rw [Lib.byteCells_append];rfl
theorem KX {X F:LH}{l:Bs}[hs:SplitL X L F][hF:Foc b F (BuB p v) C](hX:SlO 5 1 X v (Lib.byteCells l) l.length)(hn:l.length≤1000000000)(hv:l=[]→v= .slice none 0 0∨∃a k,v= .slice (some a) 0 (k+1))
  (hk:∀X',K (.string ⟨l.toArray⟩) I (X'++C (BuB p v))):CT ω 254 #[Ai b] K I L:=by
 obtain ⟨L1,L2,rfl,rfl⟩:=hF.foc;refine Cal.split X ?_;refine AOQ ?_;unfold ADH;obtain ⟨a,cap,rfl⟩:=hX.form;have hlenV:lenV (.slice a l.length cap)=some (.int .i64 l.length):=rfl;refine Aw ?_;try simp only [SSd,Nat.reduceAdd]
 refine Ah ?_;by_cases hl:l=[]
 ·subst hl;have hp:∃p,ABZ (.slice a 0 cap)=some (.pointer p):=by
   rcases hv rfl with h|⟨a',k',h⟩
   ·simp only [List.length_nil,Value.slice.injEq] at h;obtain ⟨rfl,_,rfl⟩:=h;exact ⟨none,rfl⟩
   ·simp only [List.length_nil,Value.slice.injEq] at h;obtain ⟨rfl,_,rfl⟩:=h;exact ⟨some a',rfl⟩
  obtain ⟨q,hq⟩:=hp;simp only [List.length_nil,hq,SSd,Nat.reduceAdd];refine Ah ?_;try simp only [SSd,Nat.reduceAdd]
  exact .inl ⟨q,rfl,rfl,Gh.done (Gh.done (hk X))⟩
 ·have hpos:0 < l.length:=List.length_pos_iff.2 hl;obtain ⟨hcl,hX⟩:=hX;rcases hX with ⟨_,h0,_⟩|⟨bb,cap',cs,rfl,e,hcs,hle,hcell⟩
  ·omega
  ·simp only [Value.slice.injEq] at e;obtain ⟨rfl,_,rfl⟩:=e;obtain ⟨k,rfl⟩:∃k,cap=k+1:=⟨cap - 1,by omega⟩;have hq:ABZ (.slice (some ⟨bb,0,none⟩) l.length (k+1))=some (.pointer (some ⟨bb,0,none⟩)):=rfl;simp only [hq,SSd,Nat.reduceAdd];refine Ah ?_;try simp only [SSd,Nat.reduceAdd]
   refine .inr ⟨bb,cs,(0,0),l,[],L1++(b,BuB p (.slice (some ⟨bb,0,none⟩) l.length (k+1)))::L2,rfl,rfl,hl,by omega,by omega,rfl,fun j u hu=>hcell j _ ?_,Gh.done (Gh.done (hk [_]))⟩;simp [Lib.byteCells,hu]
end
section
variable {P:Program}{ω:Om}{K:Value→M}{I:Imm}{L:LH}
theorem KU {f:FuncId}{args:Array Value}(he:CJ P f=true)(h:Cal P ω f args K I L):CalV P ω (.func (.func f) #[] #[]) args K I L:=by
 unfold CalV;simp only [he,if_true];simpa using h
theorem Qx {x:Value}{args:Array Value}(h:CalV P ω x args K I L):CalV P ω x args (SL.gh K) I L:=CalV.mono h (fun _ _ _ h=>Gh.done h)
end
def FnB (ω:Om)(fv:Value)(p:UInt8→Bool):Prop:=∀(c:UInt8) (K:Value→M) (I:Imm) (L:LH),K (.bool (p c)) I L→CW ω fv #[.int .u8 c.toNat] K I L
section
variable {ω:Om}{I:Imm}{L:LH}{K:Value→M}{C:Obj→LH}{b:Nat}{w:Value}{s:Bs}{a:Nat}
theorem AAz:FnB ω (.func (.func 219) #[] #[]) Bv:=by
 intro c K I L hk;exact KU (by kernel_rfl) (Jh c hk)
theorem ABV:FnB ω (.func (.func 218) #[] #[]) (fun c=>DL c||Bv c):=by
 intro c K I L hk;refine KU (by kernel_rfl) ?_;refine AOr ?_;show Xv ω (.int .u8 c.toNat) _ I L;unfold Xv;refine call (Ij c ?_);refine AP (fun h=>?_) (fun h=>?_)
 ·refine call (Jh c (Gh.done ?_));simpa [show DL c=false from by simpa using h] using hk
 ·refine Gh.done ?_;have:DL c=true:=by simpa using h
  simpa [this] using hk
theorem Nu {fv:Value}{p:UInt8→Bool}(hf:FnB ω fv p)[hF:Foc b L (LBo s a w) C](ha:a≤s.length)(hs:s.length≤900000000)
  (hk:∀a',a≤a'→a'≤s.length→s.drop a'=(s.drop a).dropWhile p→K (.string ⟨((s.drop a).takeWhile p).toArray⟩) I (C (LBo s a' w))):CT ω 217 #[Ai b,fv] K I L:=by
 obtain ⟨L1,L2,rfl,rfl⟩:=hF.foc;refine AOs ?_;unfold AEG;try simp only [SSd,Nat.reduceAdd]
 refine rdb ?_;refine loop (fun m _ I2 Lx=>∃a2,a≤a2∧a2+m=s.length∧I2=I∧Lx=L1++(b,LBo s a2 w)::L2∧(s.drop a).takeWhile p=(s.drop a).take (a2 - a)++(s.drop a2).takeWhile p∧(s.drop a).dropWhile p=(s.drop a2).dropWhile p) (s.length - a) ⟨a,Nat.le_refl _,by omega,rfl,rfl,by simp,rfl⟩ ?_;rintro m _ I2 Lx ⟨a2,h1,h2,rfl,rfl,ht,hd⟩;unfold Xw;have fin:(s.drop a2).takeWhile p=[]→NR ω (Ai b) (.string ⟨#[]⟩) (.int .i64 a) (fun v=>Gh (K v)) I2 (L1++(b,LBo s a2 w)::L2):=by
  intro he;rw [he,List.append_nil] at ht;have hdw:(s.drop a2).dropWhile p=s.drop a2:=by
   have:=List.takeWhile_append_dropWhile (p:=p) (l:=s.drop a2);rw [he] at this;simpa using this
  unfold NR;refine Aw ?_;try simp only [SSd,Nat.reduceAdd]
  refine Ah ?_;try simp only [SSd,Nat.reduceAdd]
  refine Ah ?_;simp only [slS s h1 (show a2≤s.length by omega),SSd,Nat.reduceAdd];rw [←ht];exact Gh.done (hk a2 h1 (by omega) (by rw [hd,hdw]))
 refine Aw ?_;try simp only [SSd,Nat.reduceAdd]
 refine Ah ?_;try simp only [SSd,Nat.reduceAdd]
 refine Ah ?_;try simp only [SSd,Nat.reduceAdd]
 refine AP (fun hb=>?_) (fun hb=>?_)
 ·have hb:a2 < s.length:=by simpa using hb
  obtain ⟨c,hc,hdc⟩:=PK hb;try simp only [SSd,Nat.reduceAdd]
  refine Ah ?_;try simp only [SSd,Nat.reduceAdd]
  refine Ah ?_;simp only [ixS s hc,SSd,Nat.reduceAdd];refine Qx (hf c _ _ _ ?_);refine AB (fun hp=>?_) (fun hp=>?_)
  ·try simp only [SSd,Nat.reduceAdd]
   refine rdb ?_;simp only [wrap_i64 ((a2:Int)+1) (by omega),SSd,Nat.reduceAdd];refine st1 rfl ?_;refine Gh.done ⟨m - 1,by omega,a2+1,by omega,by omega,rfl,rfl,?_,?_⟩
   ·rw [ht,hdc,List.takeWhile_cons_of_pos hp];have e:a2+1 - a=(a2 - a)+1:=by omega
    rw [e,List.take_add_one];have:(s.drop a)[a2 - a]? =some c:=by rw [List.getElem?_drop];rw [show a+(a2 - a)=a2 by omega];exact hc
    rw [this];simp
   ·rw [hd,hdc,List.dropWhile_cons_of_pos hp]
  ·exact fin (by rw [hdc,List.takeWhile_cons_of_neg (by simpa using hp)])
 ·have hb:¬a2 < s.length:=by simpa using hb
  exact fin (by rw [List.drop_eq_nil_of_le (by omega)];rfl)
end
theorem Cal.borrow {P:Program}{ω:Om}{f:FuncId}{args:Array Value}{K:Value→M}{I:Imm}{F:LH}{b:Nat}{o:Obj}
  (h:Cal P ω f args (fun v I' L'=>Ext (Imm.put I b o) I'∧∀I2,Ext I I2→K v I2 ((b,o)::L')) (Imm.put I b o) F):Cal P ω f args K I ((b,o)::F):=fun w hs=>by
 have hc:=hs.cons;have hb:I b=none:=hc.2 b o (List.mem_cons_self ..);refine (h w hs.freeze).mono ?_;rintro e w' ⟨v,I',L',rfl,hs',hE,hk⟩;have hI'b:I' b=some o:=hE b o (by simp [Imm.put]);have hx:Ext I (fun c=>if c=b then none else I' c):=fun c o' hc'=>by
  have hne:c≠b:=fun e=>by subst e;rw [hb] at hc';cases hc'
  show (if c=b then none else I' c)=some o';rw [if_neg hne];exact hE c o' (by simp only [Imm.put,if_neg hne];exact hc')
 refine ⟨v,_,_,rfl,⟨fun c o' hc'=>?_,fun c o' hm=>?_,?_,fun c o' hm=>?_,hs'.tape,hs'.os,hs'.out,hs'.dr⟩,hk _ hx⟩
 ·split at hc'
  ·cases hc'
  ·exact hs'.imm c o' hc'
 ·rcases List.mem_cons.1 hm with h|h
  ·simp only [Prod.mk.injEq] at h;obtain ⟨rfl,rfl⟩:=h;exact hs'.imm _ _ hI'b
  ·exact hs'.own c o' h
 ·refine List.nodup_cons.2 ⟨fun hmem=>?_,hs'.nodup⟩;obtain ⟨⟨c,o'⟩,hm,he⟩:=List.mem_map.1 hmem;simp only at he
  subst he;have:=hs'.apart _ o' hm;rw [hI'b] at this;cases this
 ·rcases List.mem_cons.1 hm with h|h
  ·simp only [Prod.mk.injEq] at h;obtain ⟨rfl,rfl⟩:=h;simp
  ·split
   ·rfl
   ·exact hs'.apart c o' h
theorem KY {P:Program}{ω:Om}{f:FuncId}{args:Array Value}{K:Value→M}{I:Imm}{X F:LH}{v:Value}{l:Bs}(ho:OwB X v l)
  (h:∀I1,Ext I I1→Bytes I1 v l→Cal P ω f args (fun u I' L'=>Ext I1 I'∧∀I2,Ext I I2→K u I2 (X++L')) I1 F):Cal P ω f args K I (X++F):=by
 obtain ⟨hl,h2⟩:=ho;rcases h2 with ⟨rfl,h0,hv⟩|⟨b,cap,cs,rfl,rfl,hcs,hle,hcell⟩
 ·obtain ⟨a,ha⟩:=hv;have hn:l=[]:=List.eq_nil_of_length_eq_zero h0;subst hn;subst ha;refine (h I (Ext.refl I) (SlI.nil _ _ _ _)).mono fun u I' L' ⟨h1,h2⟩=>h2 I' h1
 ·refine Cal.cons fun hc=>?_;have hE:Ext I (Imm.put I b (.cells cs 5 (0,0))):=hc.ext_put;exact Cal.borrow (h _ hE ⟨hl,_,cap,rfl,hle,fun _=>⟨b,0,cs,5,(0,0),rfl,by simp [Imm.put],fun j u hu=>by rw [Nat.zero_add];exact hcell j u hu⟩⟩)
section
variable {ω:Om}{I:Imm}{L:LH}{K:Value→M}
theorem ARb (s:Bs):decide (0≤Fp s 0)= !(s.all (· != 0)):=by
 unfold Fp;cases h:s.findIdx? (·==0) with
 |none=>
  have h1:=List.findIdx?_eq_none_iff.1 h;have:s.all (· != 0)=true:=List.all_eq_true.2 fun x hx=>by simpa [bne] using h1 x hx
  rw [this];rfl
 |some i=>
  obtain ⟨hi,h1,_⟩:=List.findIdx?_eq_some_iff_getElem.1 h;have:s.all (· != 0)=false:=by
   rw [List.all_eq_false];exact ⟨s[i],List.getElem_mem hi,by simpa using h1⟩
  rw [this];simp
theorem Ut (s:Bs)(hk:K (.bool (!(s.all (· != 0)))) I L):CW ω (.func (.func 119) #[] #[]) #[.string ⟨s.toArray⟩] K I L:=by
 refine KU (by kernel_rfl) ?_;refine APi ?_;unfold AFl;refine call ?_;rw [show (Value.int .u8 0)= .int .u8 ((0:UInt8).toNat:Nat) from rfl];refine FZ s 0 ?_;try simp only [SSd,Nat.reduceAdd]
 rw [ARb];exact Gh.done hk
theorem Jl {w:Value}{xs:List Bs}(hx:RL StrV 1 I [] w xs)(hx0:xs.length≤1000000000000)(hk:K (.bool (clB xs)) I L):CT ω 96 #[w] K I L:=by
 refine AQV ?_;unfold AMM;refine call ?_;refine APj ?_;unfold AFn;refine call ?_;refine APZ ?_;unfold AFS;simp only [RL.len hx,SSd,Nat.reduceAdd];refine loop (fun m st I' L'=>∃k:Nat,k+m=xs.length∧st=(Value.int .i64 0,Value.int .i64 (k:Nat),())∧I'=I∧L'=L∧clB (xs.take k)=true) xs.length ⟨0,by omega,rfl,rfl,rfl,rfl⟩ ?_;rintro m st I' L' ⟨k,hkm,rfl,rfl,rfl,hcl⟩;unfold YZ;try simp only [SSd,Nat.reduceAdd]
 refine AB (fun hb=>?_) (fun hb=>?_)
 ·have hb:k < xs.length:=by
   have:=of_decide_eq_true hb;omega
  obtain ⟨bt,off,c1,g1,gl,g2,g3⟩:=RL.ix hx (i:=k) (by omega) (by omega);rw [BM hb] at g2;obtain rfl:=g2;simp only [g1,SSd,Nat.reduceAdd];refine rdC (g3 I' [] (Ext.refl _) (fun _ h=>h) 0 _ rfl) (Ext.refl _) ?_;refine CalV.mono (Ut xs[k] (K:=fun v I'' L''=>v= .bool (!(xs[k].all (· != 0)))∧I''=I'∧L''=L') ⟨rfl,rfl,rfl⟩) ?_;rintro v I'' L'' ⟨rfl,rfl,rfl⟩;have e:clB (xs.take (k+1))=xs[k].all (· != 0):=by
   rw [List.take_succ_eq_append_getElem hb];unfold clB at *;rw [List.all_append,hcl];simp
  cases h:xs[k].all (· != 0) with
  |true=>
   rw [h] at e;simp only [Bool.not_true,wrap_i64 ((k:Int)+1) (by omega),SSd,Nat.reduceAdd];exact Gh.done (Gh.done ⟨m - 1,by omega,k+1,by omega,rfl,rfl,rfl,e⟩)
  |false=>
   rw [h] at e;have:clB xs=false:=by
    rw [←List.take_append_drop (k+1) xs];unfold clB at *;rw [List.all_append,e];rfl
   rw [this] at hk;simp only [Bool.not_false,show decide ((0:Int)≤(k:Nat))=true from decide_eq_true (by omega),SSd,Nat.reduceAdd];exact Gh.done (Gh.done (Gh.done (Gh.done hk)))
 ·have hb:¬k < xs.length:=by
   have:=of_decide_eq_false hb;omega
  rw [List.take_of_length_le (by omega)] at hcl;rw [hcl] at hk;simp only [show decide ((0:Int)≤ -1)=false from rfl,SSd,Nat.reduceAdd];exact Gh.done (Gh.done (Gh.done hk))
theorem Tf (n:Int)(hk:K (.bool (n != i32 n)) I L):CW ω (.func (.func 116) #[] #[]) #[.int .i64 n] K I L:=by
 refine KU (by kernel_rfl) ?_;refine APl ?_;unfold AFr;have hw:IntKind.i64.wrap (IntKind.i32.wrap n)=i32 n:=by
  exact wrap_i64 _ (by rw [IntKind.wrap_i32];omega)
 simp only [hw,SSd,Nat.reduceAdd];exact Gh.done hk
theorem Vt {w:Value}{xs:List Int}(hx:RL (ARk .i64) 1 I [] w xs)(hx0:xs.length≤1000000000000)(hk:K (.bool (smB xs)) I L):CT ω 92 #[w] K I L:=by
 refine AQZ ?_;unfold AMQ;refine call ?_;refine APm ?_;unfold AFt;refine call ?_;refine APa ?_;unfold AFU;simp only [RL.len hx,SSd,Nat.reduceAdd];refine loop (fun m st I' L'=>∃k:Nat,k+m=xs.length∧st=(Value.int .i64 0,Value.int .i64 (k:Nat),())∧I'=I∧L'=L∧smB (xs.take k)=true) xs.length ⟨0,by omega,rfl,rfl,rfl,rfl⟩ ?_;rintro m st I' L' ⟨k,hkm,rfl,rfl,rfl,hcl⟩;unfold Ya;try simp only [SSd,Nat.reduceAdd]
 refine AB (fun hb=>?_) (fun hb=>?_)
 ·have hb:k < xs.length:=by
   have:=of_decide_eq_true hb;omega
  obtain ⟨bt,off,c1,g1,gl,g2,g3⟩:=RL.ix hx (i:=k) (by omega) (by omega);rw [BM hb] at g2;obtain rfl:=g2;simp only [g1,SSd,Nat.reduceAdd];refine rdC (g3 I' [] (Ext.refl _) (fun _ h=>h) 0 _ rfl) (Ext.refl _) ?_;refine CalV.mono (Tf xs[k] (K:=fun v I'' L''=>v= .bool (xs[k] != i32 xs[k])∧I''=I'∧L''=L') ⟨rfl,rfl,rfl⟩) ?_;rintro v I'' L'' ⟨rfl,rfl,rfl⟩;have e:smB (xs.take (k+1))=(xs[k]==i32 xs[k]):=by
   rw [List.take_succ_eq_append_getElem hb];unfold smB at *;rw [List.all_append,hcl];simp
  cases h:(xs[k]==i32 xs[k]) with
  |true=>
   rw [h] at e;have h2:(xs[k] != i32 xs[k])=false:=by simp only [bne,h];rfl
   simp only [h2,wrap_i64 ((k:Int)+1) (by omega),SSd,Nat.reduceAdd];exact Gh.done (Gh.done ⟨m - 1,by omega,k+1,by omega,rfl,rfl,rfl,e⟩)
  |false=>
   rw [h] at e;have:smB xs=false:=by
    rw [←List.take_append_drop (k+1) xs];unfold smB at *;rw [List.all_append,e];rfl
   rw [this] at hk;have h2:(xs[k] != i32 xs[k])=true:=by simp only [bne,h];rfl
   simp only [h2,show decide ((0:Int)≤(k:Nat))=true from decide_eq_true (by omega),SSd,Nat.reduceAdd];exact Gh.done (Gh.done (Gh.done (Gh.done hk)))
 ·have hb:¬k < xs.length:=by
   have:=of_decide_eq_false hb;omega
  rw [List.take_of_length_le (by omega)] at hcl;rw [hcl] at hk;simp only [show decide ((0:Int)≤ -1)=false from rfl,SSd,Nat.reduceAdd];exact Gh.done (Gh.done (Gh.done hk))
end
def TFieldV (I:Imm)(x:TField)(c:List Value):Prop:=c=[.string ⟨x.fName.toArray⟩,.int .i64 x.fType]
theorem TFieldV.mono {I I':Imm}{x:TField}{c:List Value}(h:TFieldV I x c)(hI:Ext I I'):TFieldV I' x c:=by
 obtain rfl:=h;exact rfl
def TCellV (I:Imm)(x:TCell)(c:List Value):Prop:=c=[.bool x.fNull,.string ⟨x.fText.toArray⟩]
theorem TCellV.mono {I I':Imm}{x:TCell}{c:List Value}(h:TCellV I x c)(hI:Ext I I'):TCellV I' x c:=by
 obtain rfl:=h;exact rfl
theorem TCellV.len {I:Imm}{x:TCell}{c:List Value}(h:TCellV I x c):c.length=2:=by
 obtain rfl:=h;rfl
theorem TCellV.one {I:Imm}{x:TCell}{c:List Value}(h:TCellV I x c):∀u∈c,u.oneCell'=true:=by
 obtain rfl:=h;exact AL rfl
def TBackV (I:Imm)(x:TBack)(c:List Value):Prop:=∃v0 v1,c=[.int .i64 x.fKind,.string ⟨x.fName.toArray⟩,.string ⟨x.fText.toArray⟩,.int .i64 x.fPid,.int .i64 x.fSecret,.int .u8 x.fStatus,v0,v1,.string ⟨x.fState.toArray⟩,.bool x.fFatal]∧RL TFieldV 2 I [] v0 x.fFields∧RL TCellV 2 I [] v1 x.fCells
theorem TBackV.mono {I I':Imm}{x:TBack}{c:List Value}(h:TBackV I x c)(hI:Ext I I'):TBackV I' x c:=by
 obtain ⟨v0,v1,rfl,h0,h1⟩:=h;exact ⟨v0,v1,rfl,RL.mono (fun _ _ h=>TFieldV.mono h hI) h0 hI (fun _ h=>by cases h),RL.mono (fun _ _ h=>TCellV.mono h hI) h1 hI (fun _ h=>by cases h)⟩
theorem TBackV.len {I:Imm}{x:TBack}{c:List Value}(h:TBackV I x c):c.length=10:=by
 obtain ⟨v0,v1,rfl,h0,h1⟩:=h;rfl
theorem TBackV.one {I:Imm}{x:TBack}{c:List Value}(h:TBackV I x c):∀u∈c,u.oneCell'=true:=by
 obtain ⟨v0,v1,rfl,h0,h1⟩:=h;obtain ⟨_,_,rfl⟩:=RL.form h0;obtain ⟨_,_,rfl⟩:=RL.form h1;exact AL rfl
theorem AHc {I:Imm}{L:LH}{B:M→M}(Y:LH)[h:LSub Y L](hB:B (Stay I Y) I L):CY B I L:=draw _ ⟨Ext.refl I,h.sub⟩ hB
theorem Bj (n:Int):∀k,(beB n k).length=k
 |0=>rfl
 |k+1=>by rw [beB,List.length_cons,Bj n k]
section
variable {ω:Om}{I:Imm}{L F:LH}{K:Value→M}
theorem Gg {X:LH}{v:Value}{l:Bs}[hs:SplitL X L F](ho:OwB X v l)(n:Int)(k:Nat)(kv:Int)(hkv:kv=(k:Nat))(hk8:k≤8)(hl:l.length≤1000000000000)(hk:∀X' v',OwB X' v' (l++beB n k)→K v' I (X'++F)):CT ω 91 #[v,.int .i64 n,.int .i64 kv] K I L:=by
 subst hkv;exact Cal.split X (VR ho n k hk8 hl hk)
theorem AIy {X:LH}{v w:Value}{l:Bs}{xs:List Bs}[hs:SplitL X L F](ho:OwB X v l)(hx:RL StrV 1 I [] w xs)(hx0:xs.length≤1000000000000)(hl:l.length+(txB xs).length≤1000000000000)(hk:∀X' v',OwB X' v' (l++txB xs)→K v' I (X'++F)):CT ω 95 #[v,w] K I L:=
 Cal.split X (LG ho hx hx0 hl hk)
theorem ALM (n:Int)(k:Nat)(kv:Int)(hkv:kv=(k:Nat))(hk8:k≤8)(hk:∀X' v',OwB X' v' (beB n k)→K v' I (X'++L)):CT ω 91 #[.slice none 0 0,.int .i64 n,.int .i64 kv] K I L:=by
 subst hkv;exact VR (X:=[]) (l:=[]) (SlO.none _ _) n k hk8 (by simp) hk
theorem text0 {w:Value}{xs:List Bs}(hx:RL StrV 1 I [] w xs)(hx0:xs.length≤1000000000000)(hl:(txB xs).length≤1000000000000)(hk:∀X' v',OwB X' v' (txB xs)→K v' I (X'++L)):CT ω 95 #[.slice none 0 0,w] K I L:=
 LG (X:=[]) (l:=[]) (SlO.none _ _) hx hx0 (by simpa using hl) hk
def AKy (t:FI):Option Value:=(Ur t).map fun c=>.agg #[.int .i64 c.1,.int .i64 c.2]
theorem TC (hk:∀b es clock,MapSi es clock AKy→K (.map (some b)) I ((b,.map es clock)::L)):CT ω 117 #[] K I L:=by
 refine APk ?_;unfold AFp;refine AHG (fun b=>Gh.done ?_);try simp only [SSd,Nat.reduceAdd]
 obtain ⟨e1,k1,h1,m1⟩:=MapSi.empty.put 1 (.agg #[.int .i64 20,.int .i64 8]);refine AGq (k:=1) MapSi.empty h1 (Gh.done ?_);try simp only [SSd,Nat.reduceAdd]
 obtain ⟨e2,k2,h2,m2⟩:=m1.put 2 (.agg #[.int .i64 16,.int .i64 1]);refine AGq (k:=2) m1 h2 (Gh.done ?_);try simp only [SSd,Nat.reduceAdd]
 obtain ⟨e3,k3,h3,m3⟩:=m2.put 3 (.agg #[.int .i64 25,.int .i64 (-1)]);refine AGq (k:=3) m2 h3 (Gh.done ?_);refine Gh.done (hk b e3 k3 ?_);have e:(QF (QF (QF (fun _=>none) 1 (some (.agg #[.int .i64 20,.int .i64 8]))) 2 (some (.agg #[.int .i64 16,.int .i64 1]))) 3 (some (.agg #[.int .i64 25,.int .i64 (-1)])))=AKy:=by
  funext t
  unfold QF AKy Ur;by_cases h1:t=1
  ·subst h1;rfl
  by_cases h2:t=2
  ·subst h2;rfl
  by_cases h3:t=3
  ·subst h3;rfl
  simp [h1,h2,h3]
 rw [←e];exact m3
theorem Lh:∀(a b:List TField),DJ (a++b)=match DJ a with
  |none=>none
  |some s=>(DJ b).map (s++·)
 |[],b=>by simp [DJ]
 |f::a,b=>by
  simp only [List.cons_append,DJ,Lh a b];cases Ur f.fType with
  |none=>rfl
  |some c=>
   simp only
   split
   ·cases DJ a with
    |none=>rfl
    |some s=>cases DJ b <;> simp
   ·rfl
theorem AHZ (f:TField)(c:Int×Int):(WZ f c).length=f.fName.length+19:=by
 simp only [WZ,List.length_append,Bj,Iz,List.length_cons,List.length_nil]
theorem Le:∀{l:List TField} {s:Bs},DJ l=some s→s.length=(l.map fun f=>f.fName.length+19).sum
 |[],s,h=>by simp only [DJ,Option.some.injEq] at h;subst h;rfl
 |f::l,s,h=>by
  simp only [DJ] at h;cases hc:Ur f.fType with
  |none=>rw [hc] at h;cases h
  |some c=>
   rw [hc] at h;simp only at h
   split at h
   ·cases hs:DJ l with
    |none=>rw [hs] at h;cases h
    |some s'=>
     rw [hs] at h;simp only [Option.map_some,Option.some.injEq] at h;subst h;rw [List.length_append,AHZ,Le hs];simp
   ·cases h
theorem IR {α:Type}(f:α→Nat):∀(l:List α) (k:Nat),((l.take k).map f).sum≤(l.map f).sum
 |[],k=>by simp
 |x::l,0=>by simp
 |x::l,k+1=>by
  have:=IR f l k;simp only [List.take_succ_cons,List.map_cons,List.sum_cons];omega
theorem Ul {w:Value}{l:List TField}(hx:RL TFieldV 2 I [] w l)(hl:(l.map fun f=>f.fName.length+19).sum≤100000000000)(hk:∀I' X v,Ext I I'→OwB X v (EW l).1→K (.tuple #[v,.bool (EW l).2]) I' (X++L)):CT ω 93 #[w] K I L:=by
 have hln:l.length≤100000000000:=by
  have h:l.length≤(l.map fun f=>f.fName.length+19).sum:=by
   clear hl hx hk;induction l with
   |nil=>simp
   |cons x l ih=>simp only [List.map_cons,List.sum_cons,List.length_cons];omega
  omega
 refine AQY ?_;unfold AMP;refine call (TC (fun bm es clock hm=>?_));simp only [RL.len hx,SSd,Nat.reduceAdd];refine call (ALM _ 2 2 rfl (by omega) (fun X v hX=>?_));refine loop (fun m st I' L'=>∃(k:Nat) (X':LH) (v':Value) (t:Bs),k+m=l.length∧st=(Value.slice none 0 0,Value.bool false,v',Value.int .i64 (k:Nat),())∧Ext I I'∧L'=X'++((bm,.map es clock)::L)∧DJ (l.take k)=some t∧OwB X' v' (beB l.length 2++t)) l.length ⟨0,X,v,[],by omega,rfl,Ext.refl _,rfl,by simp [DJ],by simpa using hX⟩ ?_;rintro m st I' L' ⟨k,X',v',t,hkm,rfl,hI,rfl,ht,hX'⟩;unfold ABz;try simp only [SSd,Nat.reduceAdd]
 have hbad:k < l.length→DJ l=none→K (.tuple #[.slice none 0 0,.bool false]) I' L:=by
  intro _ hn;have:=hk I' [] (.slice none 0 0) hI;simp only [EW,hn] at this;exact this (SlO.none _ _)
 refine AB (fun hb=>?_) (fun hb=>?_)
 ·have hb:k < l.length:=by
   have:=of_decide_eq_true hb;omega
  obtain ⟨bt,off,c1,g1,gl,g2,g3⟩:=RL.ix hx (i:=k) (by omega) (by omega);rw [BM hb] at g2;have g2:c1=_:=g2;subst g2;have hsplit:DJ l=match DJ (l.take k) with
   |none=>none
   |some s=>(DJ (l[k]::l.drop (k+1))).map (s++·):=by
   rw [←Lh,←List.drop_eq_getElem_cons hb,List.take_append_drop]
  rw [ht] at hsplit;simp only at hsplit
  have hf1:∀c,Ur l[k].fType=some c→clB [l[k].fName]=true→DJ (l.take (k+1))=some (t++WZ l[k] c):=by
   intro c h1 h2;rw [List.take_succ_eq_append_getElem hb,Lh,ht];simp [DJ,h1,h2]
  have htl:=Le ht;have hst:=IR (fun f:TField=>f.fName.length+19) l k;have hst1:=IR (fun f:TField=>f.fName.length+19) l (k+1);rw [List.take_succ_eq_append_getElem hb,List.map_append,List.sum_append] at hst1;simp only [List.map_cons,List.map_nil,List.sum_cons,List.sum_nil] at hst1;generalize hf:l[k]=f at *;obtain ⟨fn,ft⟩:=f;simp only at *
  simp only [g1,SSd,Nat.reduceAdd];refine rdN rfl (g3 _ _ hI (fun _ h=>by cases h)) ?_;refine AZ (fun bf=>?_);refine stB rfl rfl (AL rfl) ?_;try simp only [SSd,Nat.reduceAdd]
  refine rdb ?_;refine ARa hm ?_;have hcm:AKy ft=(Ur ft).map fun c=>.agg #[.int .i64 c.1,.int .i64 c.2]:=rfl;rw [hcm];cases hc:Ur ft with
  |none=>
   have hn:DJ l=none:=by rw [hsplit];simp [DJ,hc]
   simp only [Option.map_none,lkV,SSd,Nat.reduceAdd];refine AZ (fun bc=>?_);refine stB rfl rfl (AL rfl) ?_;simp only [Bool.not_false,SSd,Nat.reduceAdd];exact Gh.to L (Gh.done (hbad hb hn))
  |some c=>
   obtain ⟨c1,c2⟩:=c;simp only [Option.map_some,lkV,SSd,Nat.reduceAdd];refine AZ (fun bc=>?_);refine stB rfl rfl (AL rfl) ?_;simp only [Bool.not_true,SSd,Nat.reduceAdd];refine rdb ?_;refine DR [fn] rfl rfl (fun I2 a hI2 hw2=>Gh.done ?_);refine call (Jl hw2 (by simp) ?_);cases hcl:clB [fn] with
   |false=>
    have hn:DJ l=none:=by rw [hsplit];simp [DJ,hc,hcl]
    simp only [Bool.not_false,SSd,Nat.reduceAdd];have:=hk I2 [] (.slice none 0 0) (Ext.trans hI hI2);simp only [EW,hn] at this;exact Gh.to L (Gh.done (this (SlO.none _ _)))
   |true=>
    simp only [Bool.not_true,SSd,Nat.reduceAdd];refine rdb ?_;refine DR [fn] rfl rfl (fun I3 a hI3 hw3=>Gh.done ?_);have hln2:(beB (l.length:Nat) 2++t).length≤100000000010:=by
     rw [List.length_append,Bj];omega
    have htx:(txB [fn]).length=fn.length+1:=by rw [Iz];simp
    refine call (AIy (X:=X') hX' hw3 (by simp) (by omega) (fun X1 u1 hX1=>?_));refine call (Gg (X:=X1) hX1 0 4 4 rfl (by omega) (by rw [List.length_append];omega) (fun X2 u2 hX2=>?_));refine call (Gg (X:=X2) hX2 0 2 2 rfl (by omega) (by simp only [List.length_append,Bj] at *; omega) (fun X3 u3 hX3=>?_));refine AHc [(bc,.cells [.int .i64 c1,.int .i64 c2].toArray 199 (0,0))] ?_;try simp only [SSd,Nat.reduceAdd]
    refine Ah ?_;refine call (Gg (X:=X3) hX3 c1 4 4 rfl (by omega) (by simp only [List.length_append,Bj] at *; omega) (fun X4 u4 hX4=>?_));refine DV (Ext.refl _) ?_;try simp only [SSd,Nat.reduceAdd]
    refine Ah ?_;refine call (Gg (X:=X4) hX4 c2 2 2 rfl (by omega) (by simp only [List.length_append,Bj] at *; omega) (fun X5 u5 hX5=>?_));refine call (Gg (X:=X5) hX5 (-1) 4 4 rfl (by omega) (by simp only [List.length_append,Bj] at *; omega) (fun X6 u6 hX6=>?_));refine call (Gg (X:=X6) hX6 0 2 2 rfl (by omega) (by simp only [List.length_append,Bj] at *; omega) (fun X7 u7 hX7=>?_));simp only [wrap_i64 ((k:Int)+1) (by omega),SSd,Nat.reduceAdd];refine Gh.to (X7++((bm,.map es clock)::L)) (Gh.done ⟨m - 1,by omega,k+1,X7,u7,t++WZ ⟨fn,ft⟩ (c1,c2),by omega,rfl,Ext.trans hI (Ext.trans hI2 hI3),rfl,hf1 _ hc hcl,?_⟩);have e:beB (l.length:Nat) 2++(t++WZ ⟨fn,ft⟩ (c1,c2))=beB (l.length:Nat) 2++t++txB [fn]++beB 0 4++beB 0 2++beB c1 4++beB c2 2++beB (-1) 4++beB 0 2:=by
     simp only [WZ,List.append_assoc]
    rw [e];exact hX7
 ·have hb:¬k < l.length:=by
   have:=of_decide_eq_false hb;omega
  rw [List.take_of_length_le (by omega)] at ht;unfold ABy;simp only [RL.len hx,SSd,Nat.reduceAdd];have e:decide ((l.length:Int)≤1600)=decide (l.length≤1600):=by
   by_cases h:l.length≤1600
   ·rw [decide_eq_true h,decide_eq_true (by omega)]
   ·rw [decide_eq_false h,decide_eq_false (by omega)]
  have:=hk I' X' v' hI;simp only [EW,ht] at this;rw [e];exact Gh.to (X'++L) (Gh.done (this hX'))
end
section
variable {ω:Om}{I:Imm}{L F:LH}{K:Value→M}
theorem Uw (c:TCell)(h:c.fNull=false∨c.fText=[]):(Eg c).length=4+c.fText.length:=by
 unfold Eg;split
 ·rename_i h1
  rcases h with h|h
  ·rw [h1] at h;cases h
  ·rw [h,Bj];rfl
 ·rw [List.length_append,Bj]
theorem Ls:∀{l:List TCell},(l.any fun c=>c.fNull&&c.fText != [])=false→(l.flatMap Eg).length=(l.map fun c=>4+c.fText.length).sum
 |[],_=>rfl
 |c::l,h=>by
  simp only [List.any_cons,Bool.or_eq_false_iff] at h;rw [List.flatMap_cons,List.length_append,Ls h.2,Uw c (by
   cases hn:c.fNull with
   |false=>exact .inl rfl
   |true=>
    have:=h.1;rw [hn,Bool.true_and] at this;right
    cases ht:c.fText with
    |nil=>rfl
    |cons x y=>rw [ht] at this;cases this)]
  simp
theorem Wv {w:Value}{l:List TCell}{v:Value}(hx:RL TCellV 2 I [] w l)(hno:(l.any fun c=>c.fNull&&c.fText != [])=false)(hl:BZ l≤1073741824)(hnl:l.length≤100000000000)
  (hk:∀X v,OwB X v (beB l.length 2++l.flatMap Eg)→K (.tuple #[v,.int .i64 (BZ l:Nat),.bool true]) I (X++L)) (p2 p3 p4:Value):
  ∀(X:LH) (v:Value),OwB X v (beB l.length 2)→BF ((v,(Value.int .i64 0),()):Value×Value×Unit) (fun s Kn1=>Vw ω p2 p3 p4 (.int .i64 (BZ l:Nat)) w (.int .i64 (l.length:Nat)) s.1 s.2.1 Kn1 (fun v=>Gh (K v))) I (X++L):=by
 intro X v hX;refine loop (fun m st I' L'=>∃(k:Nat) (X':LH) (v':Value),k+m=l.length∧st=(v',Value.int .i64 (k:Nat),())∧I'=I∧L'=X'++L∧OwB X' v' (beB l.length 2++(l.take k).flatMap Eg)) l.length ⟨0,X,v,by omega,rfl,rfl,rfl,by simpa using hX⟩ ?_;rintro m st I' L' ⟨k,X',v',hkm,rfl,rfl,rfl,hX'⟩;unfold Vw;try simp only [SSd,Nat.reduceAdd]
 refine AB (fun hb=>?_) (fun hb=>?_)
 ·have hb:k < l.length:=by
   have:=of_decide_eq_true hb;omega
  obtain ⟨bt,off,c1,g1,gl,g2,g3⟩:=RL.ix hx (i:=k) (by omega) (by omega);rw [BM hb] at g2;have g2:c1=_:=g2;subst g2;have et:(l.take (k+1)).flatMap Eg=(l.take k).flatMap Eg++Eg l[k]:=by
   rw [List.take_succ_eq_append_getElem hb,List.flatMap_append];simp
  have hno1:∀j,((l.take j).any fun c=>c.fNull&&c.fText != [])=false:=fun j=>by
   have h:=hno;rw [←List.take_append_drop j l,List.any_append,Bool.or_eq_false_iff] at h;exact h.1
  have hlk:=Ls (hno1 (k+1));have hst:=IR (fun c:TCell=>4+c.fText.length) l (k+1);rw [et,List.length_append] at hlk;unfold BZ at hl;have hcl:(Eg l[k]).length=4+l[k].fText.length∨l[k].fNull=true:=by
   cases h:l[k].fNull with
   |true=>exact .inr rfl
   |false=>exact .inl (Uw _ (.inl h))
  generalize hf:l[k]=f at *;obtain ⟨cn,ct⟩:=f;simp only at *
  have hnext:∀X2 u2,OwB X2 u2 (beB l.length 2++(l.take k).flatMap Eg++Eg ⟨cn,ct⟩)→∃m',m' < m∧∃(k':Nat) (X'':LH) (v'':Value),k'+m'=l.length∧(u2,Value.int .i64 ((k:Int)+1),())=(v'',Value.int .i64 (k':Nat),())∧I'=I'∧X2++L=X''++L∧OwB X'' v'' (beB l.length 2++(l.take k').flatMap Eg):=by
   intro X2 u2 h;exact ⟨m - 1,by omega,k+1,X2,u2,by omega,rfl,rfl,rfl,by rw [et,←List.append_assoc];exact h⟩
  simp only [g1,SSd,Nat.reduceAdd];refine rdN rfl (g3 _ _ (Ext.refl _) (fun _ h=>by cases h)) ?_;refine AZ (fun bf=>?_);refine stB rfl rfl (AL rfl) ?_;try simp only [SSd,Nat.reduceAdd]
  refine rdb ?_;cases cn with
  |true=>
   try simp only [SSd,Nat.reduceAdd]
   unfold ABv RN;refine call (Gg (X:=X') hX' (-1) 4 4 rfl (by omega) (by rw [List.length_append,Bj];omega) (fun X1 u1 hX1=>?_));simp only [wrap_i64 ((k:Int)+1) (by omega),SSd,Nat.reduceAdd];exact Gh.to (X1++L) (Gh.done (hnext X1 u1 hX1))
  |false=>
   have hcl:(Eg ⟨false,ct⟩).length=4+ct.length:=hcl.resolve_right (by simp);try simp only [SSd,Nat.reduceAdd]
   unfold XU;refine AHc [(bf,.cells [.bool false,.string ⟨ct.toArray⟩].toArray 113 (0,0))] ?_;try simp only [SSd,Nat.reduceAdd]
   refine Ah ?_;try simp only [SSd,Nat.reduceAdd]
   refine call (Gg (X:=X') hX' ct.length 4 4 rfl (by omega) (by rw [List.length_append,Bj];omega) (fun X1 u1 hX1=>?_));refine DV (Ext.refl _) ?_;try simp only [SSd,Nat.reduceAdd]
   refine Ah ?_;refine Bd (X:=X1) (n:=1) (m:=ct.length) rfl hX1 (news:=Lib.byteCells ct) (.inr (.inr ⟨⟨ct.toArray⟩,rfl,rfl,rfl,rfl⟩)) (fun u hu=>?_) (by simp only [List.length_append,Bj];omega) (by simp only [List.length_append,Bj];omega) (fun X2 u2 hX2=>?_)
   ·obtain ⟨d,_,rfl⟩:=List.mem_map.1 hu;rfl
   unfold RN;simp only [wrap_i64 ((k:Int)+1) (by omega),SSd,Nat.reduceAdd];refine Gh.to (X2++L) (Gh.done (hnext X2 u2 ?_));have e:beB (l.length:Nat) 2++(l.take k).flatMap Eg++Eg ⟨false,ct⟩=beB (l.length:Nat) 2++(l.take k).flatMap Eg++beB ct.length 4++ct:=by
    simp [Eg]
   rw [e];exact OwB.mk hX2
 ·have hb:¬k < l.length:=by
   have:=of_decide_eq_false hb;omega
  rw [List.take_of_length_le (by omega)] at hX';exact Gh.done (hk X' v' hX')
theorem Wu {w:Value}{l:List TCell}(hx:RL TCellV 2 I [] w l)(hl:BZ l≤100000000000)(hk:∀X v,OwB X v (EI l).1→K (.tuple #[v,.int .i64 (EI l).2.1,.bool (EI l).2.2]) I (X++L)):CT ω 94 #[w] K I L:=by
 have hln:l.length≤100000000000:=by
  have h:l.length≤(l.map fun c=>4+c.fText.length).sum:=by
   clear hl hx hk;induction l with
   |nil=>simp
   |cons x l ih=>simp only [List.map_cons,List.sum_cons,List.length_cons];omega
  unfold BZ at hl;omega
 refine AQX ?_;unfold AMO;simp only [RL.len hx,SSd,Nat.reduceAdd];refine loop (fun m st I' L'=>∃(k:Nat),k+m=l.length∧st=(Value.slice none 0 0,Value.int .i64 0,Value.bool false,Value.int .i64 (BZ (l.take k):Nat),Value.int .i64 (k:Nat),())∧I'=I∧L'=L∧((l.take k).any fun c=>c.fNull&&c.fText != [])=false) l.length ⟨0,by omega,rfl,rfl,rfl,rfl⟩ ?_;rintro m st I' L' ⟨k,hkm,rfl,rfl,rfl,hno⟩;unfold ABx;try simp only [SSd,Nat.reduceAdd]
 refine AB (fun hb=>?_) (fun hb=>?_)
 ·have hb:k < l.length:=by
   have:=of_decide_eq_true hb;omega
  obtain ⟨bt,off,c1,g1,gl,g2,g3⟩:=RL.ix hx (i:=k) (by omega) (by omega);rw [BM hb] at g2;have g2:c1=_:=g2;subst g2;have en:BZ (l.take (k+1))=BZ (l.take k)+(4+l[k].fText.length):=by
   unfold BZ;rw [List.take_succ_eq_append_getElem hb,List.map_append,List.sum_append];simp only [List.map_cons,List.map_nil,List.sum_cons,List.sum_nil];omega
  have hst:=IR (fun c:TCell=>4+c.fText.length) l (k+1);have hle:BZ (l.take (k+1))≤BZ l:=by unfold BZ;omega
  have hany:((l.take (k+1)).any fun c=>c.fNull&&c.fText != [])=(l[k].fNull&&l[k].fText != []):=by
   rw [List.take_succ_eq_append_getElem hb,List.any_append,hno];simp
  have hall:(l[k].fNull&&l[k].fText != [])=true→(l.any fun c=>c.fNull&&c.fText != [])=true:=fun h=>List.any_eq_true.2 ⟨l[k],List.getElem_mem hb,h⟩;generalize hf:l[k]=f at *;obtain ⟨cn,ct⟩:=f;simp only at *
  simp only [g1,SSd,Nat.reduceAdd];refine rdN rfl (g3 _ _ (Ext.refl _) (fun _ h=>by cases h)) ?_;refine AZ (fun bf=>?_);refine stB rfl rfl (AL rfl) ?_;try simp only [SSd,Nat.reduceAdd]
  refine rdb ?_;have e0:BK .neq (.string ⟨ct.toArray⟩) (.string ⟨#[]⟩)=some (.bool (!(ct==[]))):=sNe ct [];have hnext:((l.take (k+1)).any fun c=>c.fNull&&c.fText != [])=false→∃m',m' < m∧∃(k':Nat),k'+m'=l.length∧(Value.slice none 0 0,Value.int .i64 0,Value.bool false,Value.int .i64 ((BZ (l.take k):Int)+(4+ct.length)),Value.int .i64 ((k:Int)+1),())=(Value.slice none 0 0,Value.int .i64 0,Value.bool false,Value.int .i64 (BZ (l.take k'):Nat),Value.int .i64 (k':Nat),())∧I'=I'∧L'=L'∧((l.take k').any fun c=>c.fNull&&c.fText != [])=false:=by
   intro h;exact ⟨m - 1,by omega,k+1,by omega,by rw [en];simp,rfl,rfl,h⟩
  have w1:IntKind.i64.wrap (4+(ct.length:Int))=4+ct.length:=wrap_i64 _ (by omega);have w2:IntKind.i64.wrap ((BZ (l.take k):Int)+(4+ct.length))=(BZ (l.take k):Int)+(4+ct.length):=wrap_i64 _ (by omega);cases cn with
  |true=>
   try simp only [SSd,Nat.reduceAdd]
   refine rdb ?_;simp only [e0,SSd,Nat.reduceAdd];cases he:(ct==[]) with
   |true=>
    simp only [Bool.not_true,SSd,Nat.reduceAdd];refine rdb ?_;simp only [w1,w2,wrap_i64 ((k:Int)+1) (by omega),SSd,Nat.reduceAdd];have hct:ct=[]:=by simpa using he
    refine Gh.to L' (Gh.done (hnext ?_));rw [hany,hct];rfl
   |false=>
    simp only [Bool.not_false,SSd,Nat.reduceAdd];have h1:(l.any fun c=>c.fNull&&c.fText != [])=true:=hall (by simp only [bne,he];rfl);have:=hk [] (.slice none 0 0);simp only [EI,h1,if_true] at this;exact Gh.to L' (Gh.done (this (SlO.none _ _)))
  |false=>
   try simp only [SSd,Nat.reduceAdd]
   refine rdb ?_;simp only [w1,w2,wrap_i64 ((k:Int)+1) (by omega),SSd,Nat.reduceAdd];exact Gh.to L' (Gh.done (hnext (by rw [hany];rfl)))
 ·have hb:¬k < l.length:=by
   have:=of_decide_eq_false hb;omega
  rw [List.take_of_length_le (by omega)] at hno ⊢;unfold ABw;unfold EI at hk;rw [if_neg (by rw [hno];decide)] at hk;have hout:(1073741824 < BZ l+4∨1600 < l.length)→RP ω w (.slice none 0 0) (.int .i64 0) (.bool false) (.int .i64 (BZ l:Nat)) (fun v=>Gh (K v)) I' L':=by
   intro h;rw [if_pos h] at hk;unfold RP;simp only [RL.len hx,SSd,Nat.reduceAdd];have e:decide ((l.length:Int)≤1600)=decide (l.length≤1600):=by
    by_cases h:l.length≤1600
    ·rw [decide_eq_true h,decide_eq_true (by omega)]
    ·rw [decide_eq_false h,decide_eq_false (by omega)]
   rw [e];exact Gh.done (hk [] _ (SlO.none _ _))
  simp only [wrap_i64 ((BZ l:Int)+4) (by omega),SSd,Nat.reduceAdd];refine AP (fun hb1=>?_) (fun hb1=>?_)
  ·have hb1:¬(1073741824:Int) < (BZ l:Int)+4:=of_decide_eq_false (by simpa using hb1);simp only [RL.len hx,SSd,Nat.reduceAdd];refine AB (fun hb2=>?_) (fun hb2=>?_)
   ·exact hout (.inr (by have:=of_decide_eq_true hb2;omega))
   ·have hb2:=of_decide_eq_false hb2;rw [if_neg (by omega)] at hk;refine call (ALM _ 2 2 rfl (by omega) (fun X v hX=>?_));exact Wv (v:=v) hx hno (by omega) hln hk _ _ _ X v hX
  ·have hb1:(1073741824:Int) < (BZ l:Int)+4:=by simpa using hb1
   exact hout (.inl (by omega))
end
section
variable {ω:Om}{I:Imm}{L F:LH}{K:Value→M}
theorem WR {x y:TBack}{cx cy:List Value}(hx:TBackV I x cx)(hy:TBackV I y cy)(hk:K (.bool (QR x y)) I L):CT ω 98 #[.agg cx.toArray,.agg cy.toArray] K I L:=by
 obtain ⟨v0,v1,rfl,h0,h1⟩:=hx;obtain ⟨w0,w1,rfl,g0,g1⟩:=hy;refine AQT ?_;unfold AMK;have hs:QR x y=(x.fKind==y.fKind&&(x.fName==y.fName&&(x.fText==y.fText&&(x.fPid==y.fPid&&(x.fSecret==y.fSecret&&(x.fStatus==y.fStatus&&(x.fState==y.fState&&(x.fFatal==y.fFatal&&(x.fFields.length==y.fFields.length&&x.fCells.length==y.fCells.length))))))))):=by
  unfold QR;simp only [Bool.and_assoc]
 rw [hs] at hk;have l0:=RL.len h0;have l1:=RL.len h1;have m0:=RL.len g0;have m1:=RL.len g1;have en:∀a b:Nat,((a:Int)==(b:Int))=(a==b):=fun a b=>by
  by_cases h:a=b
  ·subst h;simp
  ·rw [beq_false_of_ne h,beq_false_of_ne (by omega)]
 try simp only [SSd,Nat.reduceAdd]
 refine AZ (fun b1=>?_);try simp only [SSd,Nat.reduceAdd]
 refine AZ (fun b2=>?_);repeat' first
  |(with_reducible refine rdb ?_)
  |(with_reducible refine AP (fun hb=>?_) (fun hb=>?_))
  |(simp only [l0,l1,m0,m1,en,SSd,Nat.reduceAdd])
 all_goals first
  |(refine Gh.to L (Gh.done ?_);simp_all;done)
  |skip
 all_goals (refine Gh.to L (Gh.done (AQQ hk ?_));simp_all)
theorem AAD (k:Nat)(hk10:k < 10)(hk:K (.int .u8 (tagsW.getD k 0).toNat) I L):CT ω 100 #[.int .i64 (k:Nat)] K I L:=by
 refine APu ?_;unfold AGI;have e:FD (.string ⟨tagsW.toArray⟩) (.int .i64 (k:Nat))=some (.int .u8 (tagsW.getD k 0).toNat):=by
  have hlt:k < tagsW.length:=hk10;rw [ixS tagsW (List.getElem?_eq_getElem hlt),List.getD_eq_getElem?_getD,List.getElem?_eq_getElem hlt];rfl
 show Pv (FD (.string ⟨tagsW.toArray⟩) _) _ _ _;rw [e];exact Gh.done hk
theorem Uo {w:Value}{ls:List Bs}(hx:RL ARm 1 I [] w ls)(hn:ls.length≤1000)(hl:ls.flatten.length≤1000000000000)(hk:∀X v,OwB X v ls.flatten→K v I (X++L)):CT ω 99 #[w] K I L:=by
 refine AQS ?_;unfold AMJ;simp only [RL.len hx,SSd,Nat.reduceAdd];have hstep:∀k (hk:k < ls.length),(ls.take (k+1)).flatten=(ls.take k).flatten++ls[k]:=fun k hk=>by
  rw [List.take_succ_eq_append_getElem hk,List.flatten_append];simp
 have hle:∀k,(ls.take k).flatten.length≤ls.flatten.length:=fun k=>by
  have h:ls.flatten=(ls.take k).flatten++(ls.drop k).flatten:=by rw [←List.flatten_append,List.take_append_drop]
  rw [h,List.length_append];omega
 refine loop (fun m st I' L'=>∃k:Nat,k+m=ls.length∧st=(Value.int .i64 ((ls.take k).flatten.length:Nat),Value.int .i64 (k:Nat),())∧I'=I∧L'=L) ls.length ⟨0,by omega,rfl,rfl,rfl⟩ ?_;rintro m st I' L' ⟨k,hkm,rfl,rfl,rfl⟩;unfold ABt;try simp only [SSd,Nat.reduceAdd]
 refine AB (fun hb=>?_) (fun hb=>?_)
 ·have hb:k < ls.length:=by
   have:=of_decide_eq_true hb;omega
  obtain ⟨bt,off,c1,g1,gl,g2,g3⟩:=RL.ix hx (i:=k) (by omega) (by omega);rw [BM hb] at g2;obtain ⟨u,rfl,hu⟩:=g2;have h1:=hle (k+1);have h2:=hstep k hb;rw [h2,List.length_append] at h1;simp only [g1,SSd,Nat.reduceAdd];refine rd1 (g3 _ _ (Ext.refl _) (fun _ h=>by cases h) 0 _ rfl) ?_;have hneg:decide (((((ls.take k).flatten.length:Nat):Int)+(ls[k].length:Nat)) < 0)=false:=decide_eq_false (by omega);simp only [hu.len,wrap_i64 ((((ls.take k).flatten.length:Nat):Int)+(ls[k].length:Nat)) (by omega),hneg,SSd,Nat.reduceAdd];unfold ABs;simp only [wrap_i64 ((k:Int)+1) (by omega),SSd,Nat.reduceAdd];exact Gh.done ⟨m - 1,by omega,k+1,by omega,by rw [h2,List.length_append];simp,rfl,rfl⟩
 have hb:¬k < ls.length:=by
  have:=of_decide_eq_false hb;omega
 rw [List.take_of_length_le (by omega)];unfold ABr;refine call ?_;have hgrow:∀(n:Nat) (K:Value→M),n≤1000000000000→(∀X v,OwB X v []→K v I' (X++L'))→CT ω 122 #[.slice none 0 0,.int .i64 (n:Nat)] K I' L':=by
  intro n K hn hk;refine APf ?_;unfold AFf;have hneg:decide (((n:Nat):Int) < 0)=false:=decide_eq_false (by omega);simp only [hneg,SSd,Nat.reduceAdd];unfold Ye;have e1:IntKind.i64.wrap (((0:Nat):Int) - ((0:Nat):Int))=0:=rfl;have e2:IntKind.i64.wrap (((n:Nat):Int) - 0)=(n:Nat):=by rw [wrap_i64 _ (by omega)];omega
  simp only [Wx,Ht,e1,e2,SSd,Nat.reduceAdd];refine AB (fun hb=>?_) (fun hb=>?_)
  ·have e3:CV 1 (.slice none 0 0) none (some (.int .i64 ((0:Nat):Int))) none=some (.slice none 0 0):=rfl;simp only [e3,SSd,Nat.reduceAdd];refine ⟨none,0,0,n,rfl,rfl,AL rfl,by omega,by omega,.inr (.inr ⟨by have:=of_decide_eq_true hb;omega,by omega,by omega,[],L',.inl ⟨none,0,rfl,rfl,rfl⟩,List.Sublist.refl _,fun b c hc=>?_⟩)⟩;have e4:CV 1 (.slice (some ⟨b,0,none⟩) n c) none (some (.int .i64 ((0:Nat):Int))) none=some (.slice (some ⟨b,0,none⟩) 0 c):=by
    simp [CV,Ci,Addr.add]
   refine Gh.done ?_;simp only [e4,SSd,Nat.reduceAdd];refine Gh.done (hk [(b,_)] _ ⟨rfl,.inr ⟨b,c,_,rfl,rfl,?_,Nat.zero_le _,fun j u hu=>by cases hu⟩⟩);simp only [Array.size_append,EJ];show 0+n * 1+(c - n) * 1=c * 1;omega
  ·exact Gh.done (hk [] _ (SlO.none _ _))
 refine hgrow _ _ hl (fun X v hX=>?_);simp only [RL.len hx,SSd,Nat.reduceAdd];refine loop (fun m st I2 L2=>∃(k:Nat) (X':LH) (v':Value),k+m=ls.length∧st=(v',Value.int .i64 (k:Nat),())∧I2=I'∧L2=X'++L'∧OwB X' v' (ls.take k).flatten) ls.length ⟨0,X,v,by omega,rfl,rfl,rfl,by simpa using hX⟩ ?_;rintro m st I2 L2 ⟨k,X',v',hkm,rfl,rfl,rfl,hX'⟩;unfold ABq;try simp only [SSd,Nat.reduceAdd]
 refine AB (fun hb=>?_) (fun hb=>?_)
 ·have hb:k < ls.length:=by
   have:=of_decide_eq_true hb;omega
  obtain ⟨bt,off,c1,g1,gl,g2,g3⟩:=RL.ix hx (i:=k) (by omega) (by omega);rw [BM hb] at g2;obtain ⟨u,rfl,hu⟩:=g2;have h1:=hle (k+1);have h2:=hstep k hb;rw [h2,List.length_append] at h1;simp only [g1,SSd,Nat.reduceAdd];refine rd1 (g3 _ _ (Ext.refl _) (fun _ h=>by cases h) 0 _ rfl) ?_;refine Bd (X:=X') (n:=1) (m:=ls[k].length) rfl hX' (news:=Lib.byteCells ls[k]) (SlI.news hu) (fun u hu=>?_) (by omega) (by omega) (fun X2 u2 hX2=>?_)
  ·obtain ⟨d,_,rfl⟩:=List.mem_map.1 hu;rfl
  simp only [wrap_i64 ((k:Int)+1) (by omega),SSd,Nat.reduceAdd];exact Gh.done ⟨m - 1,by omega,k+1,X2,u2,by omega,rfl,rfl,rfl,by rw [h2];exact OwB.mk hX2⟩
 ·have hb:¬k < ls.length:=by
   have:=of_decide_eq_false hb;omega
  rw [List.take_of_length_le (by omega)] at hX';exact Gh.done (hk X' v' hX')
end
theorem AQO {I:Imm}{L:LH}{K:Value→M}{o:Obj}(o':Obj)(e:o=o')(h:∀b,K (.pointer (some ⟨b,0,none⟩)) I ((b,o')::L)):New o (SL.gh K) I L:=by subst e;exact AZ h
def AsP (l:List Value)(cs:Bs):Prop:=l.length=256∧∀i,i < 256→l[i]? =some (.bool (cs.any fun c=>c.toNat==i))
abbrev AsO (l:List Value):Obj:=.cells l.toArray 232 (0,0)
def as0:List Value:=List.replicate 256 (.bool false)
theorem AHS (b:Nat)(c:UInt8):Lc 1 256 (.pointer (some ⟨b,0,none⟩)) (.int .u8 c.toNat)=some (.pointer (some ⟨b,c.toNat,none⟩)):=by
 have:=c.toNat_lt;have h2:((c.toNat:Int) < 256):=by omega
 simp [Lc,h2,Addr.add]
theorem AsP.one {l:List Value}{cs:Bs}(h:AsP l cs):∀u∈l,u.oneCell'=true:=fun u hu=>by
 obtain ⟨i,hi⟩:=List.getElem?_of_mem hu;have hlt:=(List.getElem?_eq_some_iff.1 hi).1;have:=h.2 i (by rw [←h.1];exact hlt);rw [hi] at this;simp only [Option.some.injEq] at this;subst this;rfl
section
variable {ω:Om}{I:Imm}{L:LH}{K:Value→M}
theorem Ed {b n T:Nat}{l:List Value}{fr:Nat×Nat}[h:InL b L (.cells l.toArray T fr)](hl:l.length=n)(hk:K (.agg l.toArray) I L):Rv none (AY n (.pointer (some ⟨b,0,none⟩))) K I L:=rdB hl hk
theorem XE (cs:Bs)(h7:cs.all (· < 128)=true)(hn:cs.length≤1000000)(hk:∀l,AsP l cs→K (.tuple #[.agg l.toArray,.bool true]) I L):CT ω 144 #[.string ⟨cs.toArray⟩] K I L:=by
 refine APX ?_;unfold AFO;refine AQO (AsO as0) (by kernel_rfl) (fun b=>?_);have h0:AsP as0 (cs.take 0):=⟨by simp [as0],fun i hi=>by unfold as0;rw [List.getElem?_replicate_of_lt hi];rfl⟩;refine loop (fun m st I' L'=>∃(k:Nat) (l:List Value),k+m=cs.length∧st=(Value.bool false,Value.int .i64 (k:Nat),())∧I'=I∧L'=(b,AsO l)::L∧AsP l (cs.take k)) cs.length ⟨0,as0,by omega,rfl,rfl,rfl,h0⟩ ?_;rintro m st I' L' ⟨k,l,hkm,rfl,rfl,rfl,hl⟩;unfold YY;try simp only [SSd,Nat.reduceAdd]
 refine AB (fun hb=>?_) (fun hb=>?_)
 ·have hb:k < cs.length:=by
   have:=of_decide_eq_true hb;omega
  have hc:cs[k]? =some cs[k]:=List.getElem?_eq_getElem hb;have h8:¬((128:Int)≤(cs[k].toNat:Nat)):=by
   have:=List.all_eq_true.1 h7 cs[k] (List.getElem_mem hb);have:cs[k] < 128:=by simpa using this
   have:cs[k].toNat < 128:=by simpa [UInt8.lt_iff_toNat_lt] using this
   omega
  simp only [ixS cs hc,decide_eq_false h8,AHS,wrap_i64 ((k:Int)+1) (by omega),SSd,Nat.reduceAdd];have hlt:cs[k].toNat < l.length:=by rw [hl.1];exact cs[k].toNat_lt
  refine st1 (g:=⟨rfl,hlt⟩) rfl ?_;refine Gh.done ⟨m - 1,by omega,k+1,_,by omega,rfl,rfl,rfl,by simpa using hl.1,fun i hi=>?_⟩;rw [List.take_succ_eq_append_getElem hb,List.any_append,List.getElem?_set];by_cases he:cs[k].toNat=i
  ·rw [if_pos he,if_pos hlt];subst he;simp
  ·rw [if_neg he,hl.2 i hi];simp [he]
 ·have hb:¬k < cs.length:=by
   have:=of_decide_eq_false hb;omega
  rw [List.take_of_length_le (by omega)] at hl;unfold YX;refine Ed hl.1 ?_;refine stB hl.1 hl.1 hl.one ?_;refine Ed hl.1 ?_;exact Gh.to L (Gh.done (hk l hl))
theorem UZ {b:Nat}{l:List Value}{cs:Bs}[h:InL b L (AsO l)](hl:AsP l cs)(c:UInt8)(hk:K (.bool (cs.any (·==c))) I L):CT ω 178 #[.pointer (some ⟨b,0,none⟩),.int .u8 c.toNat] K I L:=by
 refine APO ?_;unfold AEx;simp only [AHS,SSd,Nat.reduceAdd];have e:(cs.any fun d=>d.toNat==c.toNat)=cs.any (·==c):=by
  congr 1;funext d
  by_cases hd:d=c
  ·subst hd;simp
  ·have:¬d.toNat=c.toNat:=fun h=>hd (UInt8.toNat_inj.1 h);rw [beq_false_of_ne this,beq_false_of_ne hd]
 refine rdb (g:=⟨hl.2 c.toNat c.toNat_lt⟩) ?_;rw [e];exact Gh.done hk
theorem Vk {b:Nat}{l:List Value}{cs:Bs}[h:InL b L (AsO l)](hl:AsP l cs)(s:Bs)(hn:s.length≤1000000000000)(hk:∀k,k≤s.length→(s.drop k).all (fun c=>cs.any (·==c))=true→K (.string ⟨(s.take k).toArray⟩) I L):CT ω 146 #[.string ⟨s.toArray⟩,.pointer (some ⟨b,0,none⟩)] K I L:=by
 refine APV ?_;unfold AFK;refine loop (fun m st I' L'=>m≤s.length∧st=(Value.string ⟨(s.take m).toArray⟩,())∧I'=I∧L'=L∧(s.drop m).all (fun c=>cs.any (·==c))=true) s.length ⟨Nat.le_refl _,by rw [List.take_length],rfl,rfl,by simp⟩ ?_;rintro m st I' L' ⟨hm,rfl,rfl,rfl,hd⟩;unfold YV;have hlen:(s.take m).length=m:=by rw [List.length_take];omega
 simp only [hlen,SSd,Nat.reduceAdd];refine AB (fun hb=>?_) (fun hb=>?_)
 ·obtain ⟨q,rfl⟩:∃q,m=q+1:=⟨m - 1,by have:=of_decide_eq_true hb;omega⟩;have hq:q < s.length:=by omega
  have hc:(s.take (q+1))[q]? =some s[q]:=by rw [List.getElem?_take_of_lt (by omega)];exact List.getElem?_eq_getElem hq
  have ew:IntKind.i64.wrap (((q+1:Nat):Int) - 1)=(q:Nat):=by rw [wrap_i64 _ (by omega)];omega
  simp only [ew,ixS _ hc,SSd,Nat.reduceAdd];refine call (UZ hl s[q] ?_);try simp only [SSd,Nat.reduceAdd]
  refine AB (fun hb2=>?_) (fun hb2=>?_)
  ·exact Gh.done (hk _ hm hd)
  ·have e1:(s.take (q+1)).take q=s.take q:=by rw [List.take_take];congr 1;omega
   simp only [hlen,ew,AMI (s.take (q+1)) (b:=q) (by omega),e1,SSd,Nat.reduceAdd];refine Gh.done ⟨q,by omega,by omega,rfl,rfl,rfl,?_⟩;rw [List.drop_eq_getElem_cons hq,List.all_cons,hd];have:(cs.any (·==s[q]))=true:=by simpa using hb2
   rw [this];rfl
 ·exact Gh.done (hk _ hm hd)
theorem Vl {b:Nat}{l:List Value}{cs:Bs}[h:InL b L (AsO l)](hl:AsP l cs)(s:Bs)(hn:s.length≤1000000000000)(hk:∀t,(t==[])=s.all (fun c=>cs.any (·==c))→K (.string ⟨t.toArray⟩) I L):CT ω 145 #[.string ⟨s.toArray⟩,.pointer (some ⟨b,0,none⟩)] K I L:=by
 refine APW ?_;unfold AFM;refine loop (fun m st I' L'=>∃k,k+m=s.length∧st=(Value.string ⟨(s.drop k).toArray⟩,())∧I'=I∧L'=L∧(s.take k).all (fun c=>cs.any (·==c))=true) s.length ⟨0,by omega,rfl,rfl,rfl,rfl⟩ ?_;rintro m st I' L' ⟨k,hk2,rfl,rfl,rfl,hd⟩;unfold YW;have hlen:(s.drop k).length=m:=by rw [List.length_drop];omega
 simp only [hlen,SSd,Nat.reduceAdd];have hsp:s.all (fun c=>cs.any (·==c))=(s.drop k).all (fun c=>cs.any (·==c)):=by
  conv=>lhs;rw [←List.take_append_drop k s]
  rw [List.all_append,hd];rfl
 refine AB (fun hb=>?_) (fun hb=>?_)
 ·have hq:k < s.length:=by have:=of_decide_eq_true hb;omega
  have ed:=List.drop_eq_getElem_cons hq;have hc:(s.drop k)[0]? =some s[k]:=by rw [ed];rfl
  simp only [show (Value.int .i64 0)= .int .i64 ((0:Nat):Int) from rfl,ixS _ hc,SSd,Nat.reduceAdd];refine call (UZ hl s[k] ?_);try simp only [SSd,Nat.reduceAdd]
  refine AB (fun hb2=>?_) (fun hb2=>?_)
  ·have hb2:(cs.any (·==s[k]))=false:=by simpa using hb2
   refine Gh.done (hk _ ?_);rw [hsp,ed,List.all_cons,hb2];rfl
  ·have hb2:(cs.any (·==s[k]))=true:=by simpa using hb2
   have e1:(s.drop k).drop 1=s.drop (k+1):=by rw [List.drop_drop]
   simp only [show (Value.int .i64 1)= .int .i64 ((1:Nat):Int) from rfl,AAJ (s.drop k) (a:=1) (by omega),e1,SSd,Nat.reduceAdd];refine Gh.done ⟨m - 1,by omega,k+1,by omega,rfl,rfl,rfl,?_⟩;rw [List.take_succ_eq_append_getElem hq,List.all_append,hd];simpa using hb2
 ·have hm:m=0:=by have:=of_decide_eq_false hb;omega
  have e0:s.drop k=[]:=List.eq_nil_of_length_eq_zero (by omega);rw [e0] at hsp ⊢;exact Gh.done (hk [] (by rw [hsp];rfl))
def stSet:Bs:=[48,49,50,51,52,53,54,55,56,57,65,66,67,68,69,70,71,72,73,74,75,76,77,78,79,80,81,82,83,84,85,86,87,88,89,90]
theorem ABk (c:UInt8):stSet.any (·==c)=AJH c:=by
 have:=Ey (p:=fun c=>(stSet.any (·==c)==AJH c)) (by decide+kernel) c;exact eq_of_beq this
theorem MF (s:Bs)(hn:s.length≤1000000000000)(hk:K (.bool (Ju s)) I L):CT ω 97 #[.string ⟨s.toArray⟩] K I L:=by
 refine AQU ?_;unfold AML;try simp only [SSd,Nat.reduceAdd]
 refine AP (fun hb=>?_) (fun hb=>?_)
 ·have h5:s.length=5:=by have:=eq_of_beq hb;omega
  refine call ?_;refine APg ?_;unfold AFh;have hne:(s==[])=false:=by
   cases s with
   |nil=>cases h5
   |cons a s=>rfl
  show (Pv (BK .eql (.string ⟨s.toArray⟩) (.string ⟨([]:Bs).toArray⟩)) _) _ _;simp only [sEq,hne,SSd,Nat.reduceAdd];simp only [show (([48,49,50,51,52,53,54,55,56,57,65,66,67,68,69,70,71,72,73,74,75,76,77,78,79,80,81,82,83,84,85,86,87,88,89,90]:Bs)==[])=false from rfl,show ((([48,49,50,51,52,53,54,55,56,57,65,66,67,68,69,70,71,72,73,74,75,76,77,78,79,80,81,82,83,84,85,86,87,88,89,90]:Bs).length:Int)==1)=false from rfl,SSd,Nat.reduceAdd];refine call ?_;show Cal _ _ _ #[.string ⟨stSet.toArray⟩] _ _ _;refine XE stSet (by decide+kernel) (by decide) (fun l hl=>?_);try simp only [SSd,Nat.reduceAdd]
  refine AQO (AsO as0) (by kernel_rfl) (fun b=>?_);refine stB hl.1 rfl hl.one ?_;try simp only [SSd,Nat.reduceAdd]
  unfold SB;refine call (Vk hl s hn (fun k hk1 hk2=>?_));refine call (Vl hl (s.take k) (by rw [List.length_take];omega) (fun t ht=>?_));have e:(t==[])=s.all AJH:=by
   rw [ht];conv=>rhs;rw [←List.take_append_drop k s]
   rw [List.all_append];simp only [ABk] at hk2 ⊢;rw [hk2,Bool.and_true]
  have ek:Ju s=(t==[]):=by
   unfold Ju;rw [e,h5];rfl
  rw [ek] at hk;have e0:BK .eql (.string ⟨t.toArray⟩) (.string ⟨#[]⟩)=some (.bool (t==[])):=sEq t [];simp only [e0,SSd,Nat.reduceAdd];exact Gh.to L (Gh.done (Gh.done hk))
 ·have h5:(s.length==5)=false:=by
   have:((s.length:Int))≠5:=fun h=>hb (by rw [h];rfl);exact beq_false_of_ne (by omega)
  unfold Ju at hk;rw [h5] at hk;exact Gh.done hk
end
abbrev BkO (c:List Value):Obj:=.cells c.toArray 49 (0,0)
def Dq (m:TBack):Nat:=m.fName.length+m.fText.length+m.fState.length+(m.fFields.map fun f=>f.fName.length+19).sum+BZ m.fCells
section
variable {ω:Om}{I:Imm}{L F:LH}{K:Value→M}{m:TBack}{bm bo:Nat}{cm co:List Value}{p2 p3 p5 p6 p7:Value}
theorem Py {o:TBack}{body:Bs}{long:Int}{may:Bool}{X:LH}{v:Value}(ht:Cj m=(o,body,long,may))(hm:TBackV I m cm)(ho:TBackV I o co)(hX:OwB X v body)(hsz:body.length≤100000000100)(hlong:0≤long∧long≤100000000100)(hkind:0≤m.fKind)
  (hk:∀I' X v,Ext I I'→OwB X v (FW m).1→K (.tuple #[v,.int .i64 (FW m).2]) I' (X++F)):
  Af ω (.pointer (some ⟨bm,0,none⟩)) p2 p3 (.pointer (some ⟨bo,0,none⟩)) v (.bool may) (.int .i64 long) (fun v=>Gh (K v)) I (X++((bo,BkO co)::(bm,BkO cm)::F)):=by
 have hcm:=hm.len;have hco:=ho.len;unfold Af;unfold FW at hk;simp only [ht] at hk;have bad:(!may|| !QR o m)=true→K (.tuple #[.slice none 0 0,.int .i64 230]) I F:=by
  intro h;have:=hk I [] (.slice none 0 0) (Ext.refl _);rw [if_pos h] at this;exact this (SlO.none _ _)
 cases may with
 |false=>
  simp only [Bool.not_false,SSd,Nat.reduceAdd];exact Gh.to F (Gh.done (bad rfl))
 |true=>
 simp only [Bool.not_true,SSd,Nat.reduceAdd];refine Ed hco ?_;refine Ed hcm ?_;refine call (WR ho hm ?_);cases hs:QR o m with
 |false=>
  simp only [Bool.not_false,SSd,Nat.reduceAdd];exact Gh.to F (Gh.done (bad (by rw [hs];rfl)))
 |true=>
 simp only [hs,Bool.not_true,Bool.or_self,Bool.false_eq_true,if_false] at hk;simp only [Bool.not_true,SSd,Nat.reduceAdd];unfold ACD;obtain ⟨v0,v1,rfl,h0,h1⟩:=hm;try simp only [SSd,Nat.reduceAdd]
 refine rdb ?_;try simp only [SSd,Nat.reduceAdd]
 by_cases h10:(m.fKind==10)=true
 ·rw [if_pos h10] at hk;simp only [h10,SSd,Nat.reduceAdd];refine CS (v:=.int .u8 78) rfl (by decide) rfl (fun X1 u hX1=>?_);exact Gh.to (X1++F) (Gh.done (hk I X1 u (Ext.refl _) hX1))
 rw [if_neg h10] at hk;simp only [Bool.eq_false_iff.2 h10,SSd,Nat.reduceAdd];obtain ⟨a,k,rfl⟩:=hX.form;have hmax:(if ((body.length:Nat):Int) > long then ((body.length:Nat):Int) else long)=max long (body.length:Int):=by
  split <;> omega
 simp only [Ht,hmax,wrap_i64 (max long (body.length:Int)+4) (by omega),SSd,Nat.reduceAdd];by_cases hlg:(1073741824:Int) < max long (body.length:Int)+4
 ·rw [if_pos hlg] at hk;simp only [decide_eq_true hlg,SSd,Nat.reduceAdd];exact Gh.to F (Gh.done (hk I [] _ (Ext.refl _) (SlO.none _ _)))
 rw [if_neg hlg] at hk;simp only [decide_eq_false hlg,SSd,Nat.reduceAdd];refine rdb ?_;obtain ⟨kk,hkk⟩:∃kk:Nat,m.fKind=kk:=⟨m.fKind.toNat,by omega⟩;have hk9:kk < 10:=by
  unfold Cj at ht;by_cases h:kk < 10
  ·exact h
  ·have e:∀q:Int,q < 10→(m.fKind==q)=false:=fun q hq=>beq_false_of_ne (by omega);have h10f:=Bool.eq_false_iff.2 h10;rw [e 1 (by omega),e 3 (by omega),e 4 (by omega),e 5 (by omega),e 6 (by omega),e 2 (by omega),e 7 (by omega),e 9 (by omega)] at ht;rw [e 8 (by omega),h10f] at ht;simp at ht
 rw [hkk,Int.toNat_natCast] at hk;rw [hkk];refine call (AAD kk hk9 ?_);refine CS (v:=.int .u8 (tagsW.getD kk 0).toNat) rfl (by decide) rfl (fun X1 u1 hX1=>?_);have hX1:OwB X1 u1 [tagsW.getD kk 0]:=hX1;simp only [Ht,wrap_i64 ((body.length:Int)+4) (by omega),SSd,Nat.reduceAdd];refine MW (Gg (X:=X1) hX1 _ 4 4 rfl (by omega) (by simp) (fun X2 u2 hX2=>?_));obtain ⟨a2,k2,e2⟩:=hX2.form;refine SlO.freeze hX2 (fun I1 hI1 hS1=>?_);refine SlO.freeze hX (fun I2 hI2 hS2=>Gh.done ?_);have hb1:Bytes I2 u2 ([tagsW.getD kk 0]++beB ((body.length:Nat)+4) 4):=hS1.mono hI2;have hb2:Bytes I2 (.slice a body.length k) body:=hS2;refine KZ (n:=1) [u2,.slice a body.length k] rfl rfl (by rw [e2];simp [Value.cells]) (fun I3 a3 hI3 hS3=>Gh.done ?_);refine call (Uo (ls:=[[tagsW.getD kk 0]++beB ((body.length:Nat)+4) 4,body]) (RL.ofI hS3 ?_) (by simp) (by simp [Bj];omega) (fun X3 u3 hX3=>?_))
 ·rw [e2];rw [e2] at hb1;exact ⟨rfl,⟨_,rfl,hb1.mono hI3⟩,rfl,⟨_,rfl,hb2.mono hI3⟩,rfl⟩
 ·have e:(FW m).1=(FW m).1:=rfl;refine Gh.to (X3++F) (Gh.done (hk I3 X3 u3 (Ext.trans hI1 (Ext.trans hI2 hI3)) ?_));simpa [List.flatten_cons] using hX3
end
section
variable {ω:Om}{I:Imm}{L F:LH}{K:Value→M}{m:TBack}{bm bo:Nat}{v0 v1:Value}{p2 p3 p5 p6 p7:Value}
abbrev cmB (m:TBack)(v0 v1:Value):List Value:=[.int .i64 m.fKind,.string ⟨m.fName.toArray⟩,.string ⟨m.fText.toArray⟩,.int .i64 m.fPid,.int .i64 m.fSecret,.int .u8 m.fStatus,v0,v1,.string ⟨m.fState.toArray⟩,.bool m.fFatal]
theorem AQL {o:TBack}{pre:Bs}{X:LH}{v:Value}(ht:Cj m=(o,pre++txB [m.fText],0,clB [m.fName,m.fText]))(h0:RL TFieldV 2 I [] v0 m.fFields)(h1:RL TCellV 2 I [] v1 m.fCells)(hX:OwB X v pre)(nm:Bs)(ho:o={fKind:=m.fKind,fName:=nm,fText:=m.fText})
  (hsz:Dq m≤10000000000) (hpre:pre.length≤10000000100) (hkind:0≤m.fKind)
  (hk:∀I' X v,Ext I I'→OwB X v (FW m).1→K (.tuple #[v,.int .i64 (FW m).2]) I' (X++F)):
  RS ω (.pointer (some ⟨bm,0,none⟩)) p2 p3 (.pointer (some ⟨bo,0,none⟩)) v p6 (.int .i64 0) (fun v=>Gh (K v)) I (X++((bo,BkO [.int .i64 m.fKind,.string ⟨nm.toArray⟩,.string ⟨#[]⟩,.int .i64 0,.int .i64 0,.int .u8 0,.slice none 0 0,.slice none 0 0,.string ⟨#[]⟩,.bool false])::(bm,BkO (cmB m v0 v1))::F)):=by
 subst ho;have hm:TBackV I m (cmB m v0 v1):=⟨v0,v1,rfl,h0,h1⟩;have hs1:m.fName.length+m.fText.length≤10000000000:=by unfold Dq at hsz;omega
 have leaf:∀(I':Imm) (w:Value),Ext I I'→StL I' w [m.fText]→CT ω 95 #[v,w] (fun v119=>Gh (Af ω (.pointer (some ⟨bm,0,none⟩)) p2 p3 (.pointer (some ⟨bo,0,none⟩)) v119 (.bool (clB [m.fName,m.fText])) (.int .i64 0) (fun v=>Gh (K v)))) I' (X++((bo,BkO [.int .i64 m.fKind,.string ⟨nm.toArray⟩,.string ⟨m.fText.toArray⟩,.int .i64 0,.int .i64 0,.int .u8 0,.slice none 0 0,.slice none 0 0,.string ⟨#[]⟩,.bool false])::(bm,BkO (cmB m v0 v1))::F)):=by
  intro I' w hI hw;refine LG hX hw (by simp) (by rw [Iz,List.length_append];simp;omega) (fun X1 v1' hX1=>Gh.done ?_);refine Py (m:=m) ht (hm.mono hI) ⟨_,_,rfl,RL.nil none 0,RL.nil none 0⟩ hX1 (by rw [List.length_append,Iz,List.length_append];simp;omega) (by omega) hkind (fun I2 X2 v2 h2 h3=>hk I2 X2 v2 (Ext.trans hI h2) h3)
 unfold RS;try simp only [SSd,Nat.reduceAdd]
 refine rdb ?_;try simp only [SSd,Nat.reduceAdd]
 refine st1 rfl ?_;refine Aw ?_;try simp only [SSd,Nat.reduceAdd]
 refine Ah ?_;try simp only [SSd,Nat.reduceAdd]
 refine Ah ?_;try simp only [SSd,Nat.reduceAdd]
 refine Ah ?_;repeat' first
  |(with_reducible refine And.intro ?_ ?_)
  |(with_reducible refine keepA ?_)
  |(refine DR [m.fName,m.fText] rfl rfl (fun I' a hI' hw2=>Gh.done ?_))
  |(refine DR [m.fText] rfl rfl (fun I' a hI' hw1=>Gh.done ?_))
  |((with_reducible refine call ?_);with_reducible refine Jl (StL.mono (by assumption) (by repeat (first|exact Ext.refl _|assumption|refine Ext.trans ?_ (by assumption)))) (by simp) ?_)
  |(with_reducible refine MW (leaf _ _ (by repeat (first|exact Ext.refl _|assumption|refine Ext.trans ?_ (by assumption))) (StL.mono (by assumption) (by repeat (first|exact Ext.refl _|assumption|refine Ext.trans ?_ (by assumption))))))
theorem ALT {I0:Imm}{X:LH}[h:LSub X L](hI:Ext I0 I):Stay I0 X I L:=⟨hI,h.sub⟩
set_option maxHeartbeats 4000000 in
theorem AQK {sev:Bs}(hsev:sev.length=5)(hsv:sev=if m.fFatal then [70,65,84,65,76] else [69,82,82,79,82])(h9:m.fKind=9)(h0:RL TFieldV 2 I [] v0 m.fFields)(h1:RL TCellV 2 I [] v1 m.fCells)
  (hsz:Dq m≤10000000000)
  (hk:∀I' X v,Ext I I'→OwB X v (FW m).1→K (.tuple #[v,.int .i64 (FW m).2]) I' (X++F)):
  RQ ω (.pointer (some ⟨bm,0,none⟩)) p2 p3 (.pointer (some ⟨bo,0,none⟩)) p5 p6 (.int .i64 0) (.string ⟨sev.toArray⟩) (fun v=>Gh (K v)) I ((bo,BkO [.int .i64 m.fKind,.string ⟨#[]⟩,.string ⟨m.fText.toArray⟩,.int .i64 0,.int .i64 0,.int .u8 0,.slice none 0 0,.slice none 0 0,.string ⟨m.fState.toArray⟩,.bool m.fFatal])::(bm,BkO (cmB m v0 v1))::F):=by
 have hm:TBackV I m (cmB m v0 v1):=⟨v0,v1,rfl,h0,h1⟩;have hs1:m.fState.length+m.fText.length≤10000000000:=by unfold Dq at hsz;omega
 have ht:Cj m=({fKind:=m.fKind,fState:=m.fState,fText:=m.fText,fFatal:=m.fFatal},txB [83::sev,86::sev,67::m.fState,77::m.fText]++[0],0,Ju m.fState&&clB [m.fText]):=by
  unfold Cj;rw [h9];subst hsv;rfl
 have htl:(txB [83::sev,86::sev,67::m.fState,77::m.fText]).length=18+m.fState.length+m.fText.length:=by
  simp only [txB,List.flatMap_cons,List.flatMap_nil,List.length_append,List.length_cons,List.length_nil,hsev];omega
 have a1:BK .add (.string ⟨#[83]⟩) (.string ⟨sev.toArray⟩)=some (.string ⟨(83::sev).toArray⟩):=AKB [83] sev (by simp;omega);have a2:BK .add (.string ⟨#[86]⟩) (.string ⟨sev.toArray⟩)=some (.string ⟨(86::sev).toArray⟩):=AKB [86] sev (by simp;omega);have a3:BK .add (.string ⟨#[67]⟩) (.string ⟨m.fState.toArray⟩)=some (.string ⟨(67::m.fState).toArray⟩):=AKB [67] m.fState (by simp;omega);have a4:BK .add (.string ⟨#[77]⟩) (.string ⟨m.fText.toArray⟩)=some (.string ⟨(77::m.fText).toArray⟩):=AKB [77] m.fText (by simp;omega);have last:∀(I':Imm) (X:LH) (v:Value) (may:Bool),Ext I I'→may=(Ju m.fState&&clB [m.fText])→OwB X v (txB [83::sev,86::sev,67::m.fState,77::m.fText]++[0])→Af ω (.pointer (some ⟨bm,0,none⟩)) p2 p3 (.pointer (some ⟨bo,0,none⟩)) v (.bool may) (.int .i64 0) (fun v=>Gh (K v)) I' (X++((bo,BkO [.int .i64 m.fKind,.string ⟨#[]⟩,.string ⟨m.fText.toArray⟩,.int .i64 0,.int .i64 0,.int .u8 0,.slice none 0 0,.slice none 0 0,.string ⟨m.fState.toArray⟩,.bool m.fFatal])::(bm,BkO (cmB m v0 v1))::F)):=by
  intro I' X v may hI hmay hX;subst hmay;exact Py (m:=m) ht (hm.mono hI) ⟨_,_,rfl,RL.nil none 0,RL.nil none 0⟩ hX (by rw [List.length_append,htl];simp;omega) (by omega) (by omega) (fun I2 X2 v2 h2 h3=>hk I2 X2 v2 (Ext.trans hI h2) h3)
 have app:∀(I':Imm) (L' X X0 R:LH) (v w:Value) (may:Bool) [SplitL X L' R] [SubP ((bo,BkO [.int .i64 m.fKind,.string ⟨#[]⟩,.string ⟨m.fText.toArray⟩,.int .i64 0,.int .i64 0,.int .u8 0,.slice none 0 0,.slice none 0 0,.string ⟨m.fState.toArray⟩,.bool m.fFatal])::(bm,BkO (cmB m v0 v1))::F) R] [LSub X0 L'],Ext I I'→may=(Ju m.fState&&clB [m.fText])→OwB X v (txB [83::sev,86::sev,67::m.fState,77::m.fText])→OwB X0 w [0]→
   App 5 1 1 #[(Value.int .u8 0)] v w (gh fun v119=>Af ω (.pointer (some ⟨bm,0,none⟩)) p2 p3 (.pointer (some ⟨bo,0,none⟩)) v119 (.bool may) (.int .i64 0) (fun v=>Gh (K v))) I' L':=by
  intro I' L' X X0 R v w may _ _ hsub hI hmay hX hX0;refine VU (X:=X) (F:=R) (n:=1) (m:=1) (news:=Lib.byteCells [0]) rfl hX (SlO.news hX0 hsub.sub) (fun u hu=>?_) (by omega) (by omega) (fun X2 u2 hX2=>?_)
  ·obtain ⟨d,_,rfl⟩:=List.mem_map.1 hu;rfl
  exact Gh.to (X2++_) (Gh.done (last I' X2 u2 may hI hmay (OwB.mk hX2)))
 unfold RQ;refine Aw ?_;try simp only [SSd,Nat.reduceAdd]
 refine Ah ?_;simp only [a1,a2,SSd,Nat.reduceAdd];refine Ah ?_;simp only [a3,SSd,Nat.reduceAdd];refine Ah ?_;simp only [a4,SSd,Nat.reduceAdd];cases hst:Ju m.fState with
 |false=>
  have stc:∀{K:Value→M} {I:Imm} {L:LH},K (.bool false) I L→CT ω 97 #[.string ⟨m.fState.toArray⟩] K I L:=fun h=>MF _ (by omega) (by rw [hst];exact h);repeat' first
   |(with_reducible refine And.intro ?_ ?_)
   |(with_reducible exact ALT (by repeat (first|exact Ext.refl _|assumption|refine Ext.trans ?_ (by assumption))))
   |(with_reducible refine keepA ?_)
   |(simp only [Qz,Qy,SSd,Nat.reduceAdd])
   |(refine DR [83::sev,86::sev,67::m.fState,77::m.fText] rfl rfl (fun I' a hI' hw4=>Gh.done ?_))
   |(refine CS (v:=.int .u8 0) rfl (by decide) rfl (fun Xz uz hXz=>?_))
   |((with_reducible refine call ?_);with_reducible refine stc ?_)
   |((with_reducible refine call ?_);with_reducible refine text0 (StL.mono hw4 (by repeat (first|exact Ext.refl _|assumption|refine Ext.trans ?_ (by assumption)))) (by simp) (by omega) (fun Xt ut hXt=>?_))
   |(exact app _ _ _ _ _ _ _ _ (by repeat (first|exact Ext.refl _|assumption|refine Ext.trans ?_ (by assumption))) (by rw [hst];rfl) hXt hXz)
 |true=>
  have stc:∀{K:Value→M} {I:Imm} {L:LH},K (.bool true) I L→CT ω 97 #[.string ⟨m.fState.toArray⟩] K I L:=fun h=>MF _ (by omega) (by rw [hst];exact h);repeat' first
   |(with_reducible refine And.intro ?_ ?_)
   |(with_reducible exact ALT (by repeat (first|exact Ext.refl _|assumption|refine Ext.trans ?_ (by assumption))))
   |(with_reducible refine keepA ?_)
   |(simp only [Qz,Qy,SSd,Nat.reduceAdd])
   |(with_reducible refine rdb ?_)
   |(refine DR [m.fText] rfl rfl (fun I' a hI' hw1=>Gh.done ?_))
   |(refine DR [83::sev,86::sev,67::m.fState,77::m.fText] rfl rfl (fun I' a hI' hw4=>Gh.done ?_))
   |(refine CS (v:=.int .u8 0) rfl (by decide) rfl (fun Xz uz hXz=>?_))
   |((with_reducible refine call ?_);with_reducible refine stc ?_)
   |((with_reducible refine call ?_);with_reducible refine Jl (StL.mono hw1 (by repeat (first|exact Ext.refl _|assumption|refine Ext.trans ?_ (by assumption)))) (by simp) ?_)
   |((with_reducible refine call ?_);with_reducible refine text0 (StL.mono hw4 (by repeat (first|exact Ext.refl _|assumption|refine Ext.trans ?_ (by assumption)))) (by simp) (by omega) (fun Xt ut hXt=>?_))
   |(exact app _ _ _ _ _ _ _ _ (by repeat (first|exact Ext.refl _|assumption|refine Ext.trans ?_ (by assumption))) (by rw [hst];rfl) hXt hXz)
end
section
variable {ω:Om}{I:Imm}{L F:LH}{K:Value→M}{m:TBack}
theorem PG (l:List TField):(EW l).1.length≤2+(l.map fun f=>f.fName.length+19).sum:=by
 unfold EW;cases h:DJ l with
 |none=>simp
 |some t=>simp only [List.length_append,Bj,Le h];omega
theorem Pe (l:List TCell):(EI l).1.length≤BZ l∧0≤(EI l).2.1∧(EI l).2.1≤BZ l:=by
 unfold EI;split
 ·simp
 split
 ·simp
 ·rename_i h _
  simp only [List.length_append,Bj,Ls (Bool.eq_false_iff.2 h)];unfold BZ;omega
theorem FL.mono {I I':Imm}{v:Value}{l:List TField}(h:RL TFieldV 2 I [] v l)(hI:Ext I I'):RL TFieldV 2 I' [] v l:=RL.mono (fun _ _ h=>TFieldV.mono h hI) h hI (fun _ h=>h)
theorem CL.mono {I I':Imm}{v:Value}{l:List TCell}(h:RL TCellV 2 I [] v l)(hI:Ext I I'):RL TCellV 2 I' [] v l:=RL.mono (fun _ _ h=>TCellV.mono h hI) h hI (fun _ h=>h)
theorem AGr {cm:List Value}(hm:TBackV I m cm)(hsz:Dq m≤10000000000)(hst:0≤m.fStatus∧m.fStatus≤255)(hkind:0≤m.fKind)
  (hk:∀I' X v,Ext I I'→OwB X v (FW m).1→K (.tuple #[v,.int .i64 (FW m).2]) I' (X++L)):CT ω 71 #[.agg cm.toArray] K I L:=by
 have hm':=hm;obtain ⟨v0,v1,rfl,h0,h1⟩:=hm;have hms:m.fName.length+m.fText.length+m.fState.length+(m.fFields.map fun f=>f.fName.length+19).sum+BZ m.fCells≤10000000000:=hsz;refine AQi ?_;unfold AMa;obtain ⟨a0,k0,rfl⟩:=RL.form h0;obtain ⟨a1,k1,rfl⟩:=RL.form h1;try simp only [SSd,Nat.reduceAdd]
 refine AZ (fun bm=>?_);try simp only [SSd,Nat.reduceAdd]
 refine rdb ?_;try simp only [SSd,Nat.reduceAdd]
 refine AZ (fun bo=>?_);refine stB rfl rfl (AL rfl) ?_;try simp only [SSd,Nat.reduceAdd]
 refine rdb ?_;try simp only [SSd,Nat.reduceAdd]
 by_cases h:(m.fKind==1)=true
 ·have e:m.fKind=1:=by simpa using h
  have ht:Cj m=({fKind:=m.fKind},beB 0 4,0,true):=by unfold Cj;rw [if_pos h,e]
  simp only [h,SSd,Nat.reduceAdd];refine call (ALM _ 4 4 rfl (by omega) (fun X v hX=>?_));exact Py (m:=m) ht hm' ⟨_,_,rfl,RL.nil none 0,RL.nil none 0⟩ hX (by rw [Bj];omega) (by omega) hkind hk
 have n1:=Bool.eq_false_iff.2 h;simp only [n1,SSd,Nat.reduceAdd];by_cases h:(m.fKind==3)=true
 ·have e:m.fKind=3:=by simpa using h
  have ht:Cj m=({fKind:=m.fKind,fPid:=m.fPid,fSecret:=m.fSecret},beB m.fPid 4++beB m.fSecret 4,0,smB [m.fPid,m.fSecret]):=by unfold Cj;rw [e];rfl
  simp only [h,SSd,Nat.reduceAdd];refine Ag ?_;try simp only [SSd,Nat.reduceAdd]
  refine Ah ?_;try simp only [SSd,Nat.reduceAdd]
  refine Ah ?_;try simp only [SSd,Nat.reduceAdd]
  refine st1 rfl ?_;refine DV (Ext.refl _) ?_;try simp only [SSd,Nat.reduceAdd]
  refine st1 rfl ?_;refine Aw ?_;try simp only [SSd,Nat.reduceAdd]
  refine Ah ?_;try simp only [SSd,Nat.reduceAdd]
  refine Ah ?_;refine KZ (n:=1) [.int .i64 m.fPid,.int .i64 m.fSecret] rfl rfl (by simp [Value.cells]) (fun I3 a3 hI3 hS3=>Gh.done ?_);refine keepA ?_;refine call (Vt (xs:=[m.fPid,m.fSecret]) (RL.ofI hS3 ⟨rfl,rfl,rfl,rfl,rfl⟩) (by simp) ?_);refine keepA ?_;try simp only [SSd,Nat.reduceAdd]
  refine Ah ?_;refine call (ALM _ 4 4 rfl (by omega) (fun X v hX=>?_));refine keepA ?_;try simp only [SSd,Nat.reduceAdd]
  refine Ah ?_;refine call (Gg (X:=X) hX _ 4 4 rfl (by omega) (by rw [Bj];omega) (fun X2 v2 hX2=>?_));exact Py (m:=m) ht (hm'.mono hI3) ⟨_,_,rfl,RL.nil none 0,RL.nil none 0⟩ hX2 (by simp only [List.length_append,Bj];omega) (by omega) hkind (fun I2 X2 v2 h2 h3=>hk I2 X2 v2 (Ext.trans hI3 h2) h3)
 have n3:=Bool.eq_false_iff.2 h;simp only [n3,SSd,Nat.reduceAdd];by_cases h:(m.fKind==4)=true
 ·have e:m.fKind=4:=by simpa using h
  have ht:Cj m=({fKind:=m.fKind,fStatus:=m.fStatus},[byI m.fStatus],0,m.fStatus==73||m.fStatus==84||m.fStatus==69):=by unfold Cj;rw [e];rfl
  simp only [h,SSd,Nat.reduceAdd];have hby:(Value.int .u8 m.fStatus)= .int .u8 ((byI m.fStatus).toNat:Nat):=by
   rw [ZM,show IntKind.u8.wrap m.fStatus=m.fStatus from by rw [IntKind.wrap_u8];omega]
  have fin:∀(may:Bool),may=(m.fStatus==73||m.fStatus==84||m.fStatus==69)→∀(I0:Imm) (L0:LH),AU 5 1 #[(Value.int .u8 0)] 1 [(0,.int .u8 m.fStatus)] (gh (Aa (Stay I ((bo,BkO [.int .i64 m.fKind,.string ⟨#[]⟩,.string ⟨#[]⟩,.int .i64 0,.int .i64 0,.int .u8 m.fStatus,.slice none 0 0,.slice none 0 0,.string ⟨#[]⟩,.bool false])::(bm,BkO (cmB m (.slice a0 m.fFields.length k0) (.slice a1 m.fCells.length k1)))::L)) fun v=>Af ω (.pointer (some ⟨bm,0,none⟩)) (.slice none 0 0) (.int .i64 0) (.pointer (some ⟨bo,0,none⟩)) v (.bool may) (.int .i64 0) (fun v=>Gh (K v)))) I ((bo,BkO [.int .i64 m.fKind,.string ⟨#[]⟩,.string ⟨#[]⟩,.int .i64 0,.int .i64 0,.int .u8 m.fStatus,.slice none 0 0,.slice none 0 0,.string ⟨#[]⟩,.bool false])::(bm,BkO (cmB m (.slice a0 m.fFields.length k0) (.slice a1 m.fCells.length k1)))::L):=by
   intro may hmay _ _;subst hmay;refine CS (v:=.int .u8 m.fStatus) rfl (by decide) rfl (fun X1 u1 hX1=>?_);have hX1:SlO 5 1 X1 u1 [Value.int .u8 m.fStatus] 1:=hX1;have hX1:OwB X1 u1 [byI m.fStatus]:=by rw [hby] at hX1;exact hX1
   refine keepA ?_;exact Py (m:=m) ht hm' ⟨_,_,rfl,RL.nil none 0,RL.nil none 0⟩ hX1 (by simp) (by omega) hkind hk
  refine rdb ?_;try simp only [SSd,Nat.reduceAdd]
  refine st1 rfl ?_;refine Aw ?_;try simp only [SSd,Nat.reduceAdd]
  refine Ah ?_;try simp only [SSd,Nat.reduceAdd]
  cases h1:(m.fStatus==73) with
  |true=>
   try simp only [SSd,Nat.reduceAdd]
   refine Ah ?_;exact fin true (by rw [h1];rfl) I L
  |false=>
  try simp only [SSd,Nat.reduceAdd]
  refine Ah ?_;try simp only [SSd,Nat.reduceAdd]
  cases h2:(m.fStatus==84) with
  |true=>
   try simp only [SSd,Nat.reduceAdd]
   refine Ah ?_;exact fin true (by rw [h1,h2];rfl) I L
  |false=>
  try simp only [SSd,Nat.reduceAdd]
  refine Ah ?_;try simp only [SSd,Nat.reduceAdd]
  refine Ah ?_;exact fin _ (by rw [h1,h2];rfl) I L
 have n4:=Bool.eq_false_iff.2 h;simp only [n4,SSd,Nat.reduceAdd];by_cases h:(m.fKind==5)=true
 ·have e:m.fKind=5:=by simpa using h
  have ht:Cj m=({fKind:=m.fKind,fFields:=m.fFields},(EW m.fFields).1,0,(EW m.fFields).2):=by unfold Cj;rw [e];rfl
  simp only [h,SSd,Nat.reduceAdd];refine rdb ?_;try simp only [SSd,Nat.reduceAdd]
  refine st1 rfl ?_;refine rdb ?_;have hfl:=PG m.fFields;refine call (Ul h0 (by omega) (fun I' X v hI hX=>?_));try simp only [SSd,Nat.reduceAdd]
  exact Py (m:=m) ht (hm'.mono hI) ⟨_,_,rfl,FL.mono h0 hI,RL.nil none 0⟩ hX (by omega) (by omega) hkind (fun I2 X2 v2 h2 h3=>hk I2 X2 v2 (Ext.trans hI h2) h3)
 have n5:=Bool.eq_false_iff.2 h;simp only [n5,SSd,Nat.reduceAdd];by_cases h:(m.fKind==6)=true
 ·have e:m.fKind=6:=by simpa using h
  have ht:Cj m=({fKind:=m.fKind,fCells:=m.fCells},(EI m.fCells).1,(EI m.fCells).2.1,(EI m.fCells).2.2):=by unfold Cj;rw [e];rfl
  simp only [h,SSd,Nat.reduceAdd];refine rdb ?_;try simp only [SSd,Nat.reduceAdd]
  refine st1 rfl ?_;refine rdb ?_;have hcl:=Pe m.fCells;refine call (Wu h1 (by omega) (fun X v hX=>?_));try simp only [SSd,Nat.reduceAdd]
  exact Py (m:=m) ht hm' ⟨_,_,rfl,RL.nil none 0,h1⟩ hX (by omega) (by omega) hkind hk
 have n6:=Bool.eq_false_iff.2 h;simp only [n6,SSd,Nat.reduceAdd];by_cases h:(m.fKind==2)=true
 ·have e:m.fKind=2:=by simpa using h
  have ht:Cj m=({fKind:=m.fKind,fName:=m.fName,fText:=m.fText},txB [m.fName]++txB [m.fText],0,clB [m.fName,m.fText]):=by unfold Cj;rw [e];rfl
  simp only [h,SSd,Nat.reduceAdd];refine rdb ?_;try simp only [SSd,Nat.reduceAdd]
  refine st1 rfl ?_;refine rdb ?_;refine DR [m.fName] rfl rfl (fun I2 a hI2 hw2=>Gh.done ?_);have hl1:(txB [m.fName]).length=m.fName.length+1:=by rw [Iz,List.length_append];rfl
  refine call (text0 hw2 (by simp) (by omega) (fun X v hX=>?_));exact AQL (m:=m) ht (FL.mono h0 hI2) (CL.mono h1 hI2) hX m.fName rfl hsz (by omega) hkind (fun I3 X3 v3 h2 h3=>hk I3 X3 v3 (Ext.trans hI2 h2) h3)
 have n2:=Bool.eq_false_iff.2 h;simp only [n2,SSd,Nat.reduceAdd];by_cases h:(m.fKind==7)=true
 ·have e:m.fKind=7:=by simpa using h
  have ht:Cj m=({fKind:=m.fKind,fName:=[],fText:=m.fText},[]++txB [m.fText],0,clB [m.fName,m.fText]):=by unfold Cj;rw [e];rfl
  simp only [h,SSd,Nat.reduceAdd];exact AQL (m:=m) (X:=[]) ht h0 h1 (SlO.none _ _) [] rfl hsz (by simp) hkind hk
 have n7:=Bool.eq_false_iff.2 h;simp only [n7,SSd,Nat.reduceAdd];by_cases h:(m.fKind==9)=true
 ·have e:m.fKind=9:=by simpa using h
  simp only [h,SSd,Nat.reduceAdd];refine Ag ?_;try simp only [SSd,Nat.reduceAdd]
  refine Ah ?_;try simp only [SSd,Nat.reduceAdd]
  refine Ah ?_;try simp only [SSd,Nat.reduceAdd]
  refine Ah ?_;try simp only [SSd,Nat.reduceAdd]
  refine st1 rfl ?_;refine DV (Ext.refl _) ?_;try simp only [SSd,Nat.reduceAdd]
  refine st1 rfl ?_;refine DV (Ext.refl _) ?_;try simp only [SSd,Nat.reduceAdd]
  refine st1 rfl ?_;refine rdb ?_;cases hf:m.fFatal with
  |true=>
   try simp only [SSd,Nat.reduceAdd]
   have:=AQK (ω:=ω) (m:=m) (bm:=bm) (bo:=bo) (p2:=.slice none 0 0) (p3:=.int .i64 0) (p5:=.slice none 0 0) (p6:=.bool true) (sev:=[70,65,84,65,76]) rfl (by rw [hf];rfl) e h0 h1 hsz hk;simp only [cmB,hf] at this;exact this
  |false=>
   try simp only [SSd,Nat.reduceAdd]
   have:=AQK (ω:=ω) (m:=m) (bm:=bm) (bo:=bo) (p2:=.slice none 0 0) (p3:=.int .i64 0) (p5:=.slice none 0 0) (p6:=.bool true) (sev:=[69,82,82,79,82]) rfl (by rw [hf];rfl) e h0 h1 hsz hk;simp only [cmB,hf] at this;exact this
 have n9:=Bool.eq_false_iff.2 h;simp only [n9,SSd,Nat.reduceAdd];by_cases h:(m.fKind==8)=true
 ·have e:m.fKind=8:=by simpa using h
  have ht:Cj m=({fKind:=m.fKind},[],0,true):=by unfold Cj;rw [e];rfl
  simp only [h,SSd,Nat.reduceAdd];unfold NJ;try simp only [SSd,Nat.reduceAdd]
  exact Py (m:=m) (X:=[]) ht hm' ⟨_,_,rfl,RL.nil none 0,RL.nil none 0⟩ (SlO.none _ _) (by simp) (by omega) hkind hk
 have n8:=Bool.eq_false_iff.2 h;simp only [n8,SSd,Nat.reduceAdd];unfold NJ;by_cases h:(m.fKind==10)=true
 ·have e:m.fKind=10:=by simpa using h
  have ht:Cj m=({fKind:=m.fKind},[],0,true):=by unfold Cj;rw [e];rfl
  simp only [h,SSd,Nat.reduceAdd];exact Py (m:=m) (X:=[]) ht hm' ⟨_,_,rfl,RL.nil none 0,RL.nil none 0⟩ (SlO.none _ _) (by simp) (by omega) hkind hk
 have n10:=Bool.eq_false_iff.2 h;have ht:Cj m=({fKind:=m.fKind},[],0,false):=by
  unfold Cj;simp only [n1,n2,n3,n4,n5,n6,n7,n8,n9,n10,Bool.false_eq_true,if_false,or_self]
 simp only [n10,SSd,Nat.reduceAdd];exact Py (m:=m) (X:=[]) ht hm' ⟨_,_,rfl,RL.nil none 0,RL.nil none 0⟩ (SlO.none _ _) (by simp) (by omega) hkind hk
end
end Go.Proofs.YthkaekjoemhjaaaGreatDoor
namespace Go.Proofs
open Go.Shelf
def Tryz.lay173_ren:Go.Shelf.Ren:=⟨fun|173=>79|246=>108|283=>127|284=>128|285=>129|286=>130|129=>158|317=>157|318=>159|319=>160|320=>161|337=>198|338=>199|n=>n,fun|2=>2|3=>3|9=>9|4=>4|171=>212|0=>0|53=>194|37=>22|5=>5|173=>215|212=>250|51=>206|20=>20|213=>251|46=>152|232=>299|233=>300|n=>n,fun|17=>0|18=>2|19=>3|n=>n⟩
theorem Tryz.lay173:Go.Proofs.LaysM.n173 Tryz.prog Tryz.lay173_ren:={
 mixed:=by kernel_rfl
 f129:=Tryz.func158.trans (congrArg some (by kernel_rfl))
 f173:=Tryz.func79.trans (congrArg some (by kernel_rfl))
 f246:=Tryz.func108.trans (congrArg some (by kernel_rfl))
 f283:=Tryz.func127.trans (congrArg some (by kernel_rfl))
 f284:=Tryz.func128.trans (congrArg some (by kernel_rfl))
 f285:=Tryz.func129.trans (congrArg some (by kernel_rfl))
 f286:=Tryz.func130.trans (congrArg some (by kernel_rfl))
 f317:=Tryz.func157.trans (congrArg some (by kernel_rfl))
 f318:=Tryz.func159.trans (congrArg some (by kernel_rfl))
 f319:=Tryz.func160.trans (congrArg some (by kernel_rfl))
 f320:=Tryz.func161.trans (congrArg some (by kernel_rfl))
 f337:=Tryz.func198.trans (congrArg some (by kernel_rfl))
 f338:=Tryz.func199.trans (congrArg some (by kernel_rfl))
 t0:=Tryz.underlying0
 a0:=Tryz.isAgg0
 z0:=Tryz.sizeOf0
 v0:=Tryz.zeroValue0
 t2:=Tryz.underlying2
 a2:=Tryz.isAgg2
 z2:=Tryz.sizeOf2
 v2:=Tryz.zeroValue2
 t3:=Tryz.underlying3
 a3:=Tryz.isAgg3
 z3:=Tryz.sizeOf3
 v3:=Tryz.zeroValue3
 t4:=Tryz.underlying4
 a4:=Tryz.isAgg4
 z4:=Tryz.sizeOf4
 v4:=Tryz.zeroValue4
 t5:=Tryz.underlying5
 a5:=Tryz.isAgg5
 z5:=Tryz.sizeOf5
 v5:=Tryz.zeroValue5
 t9:=Tryz.underlying9
 a9:=Tryz.isAgg9
 z9:=Tryz.sizeOf9
 v9:=Tryz.zeroValue9
 t20:=Tryz.underlying20
 a20:=Tryz.isAgg20
 z20:=Tryz.sizeOf20
 v20:=Tryz.zeroValue20
 t37:=Tryz.underlying22
 a37:=Tryz.isAgg22
 z37:=Tryz.sizeOf22
 v37:=Tryz.zeroValue22
 t46:=Tryz.underlying152
 a46:=Tryz.isAgg152
 z46:=Tryz.sizeOf152
 v46:=Tryz.zeroValue152
 t51:=Tryz.underlying206
 a51:=Tryz.isAgg206
 z51:=Tryz.sizeOf206
 v51:=Tryz.zeroValue206
 t53:=Tryz.underlying194
 a53:=Tryz.isAgg194
 z53:=Tryz.sizeOf194
 v53:=Tryz.zeroValue194
 t171:=Tryz.underlying212
 a171:=Tryz.isAgg212
 z171:=Tryz.sizeOf212
 v171:=Tryz.zeroValue212
 t173:=Tryz.underlying215
 a173:=Tryz.isAgg215
 z173:=Tryz.sizeOf215
 v173:=Tryz.zeroValue215
 t212:=Tryz.underlying250
 a212:=Tryz.isAgg250
 z212:=Tryz.sizeOf250
 v212:=Tryz.zeroValue250
 t213:=Tryz.underlying251
 a213:=Tryz.isAgg251
 z213:=Tryz.sizeOf251
 t232:=Tryz.underlying299
 a232:=Tryz.isAgg299
 z232:=Tryz.sizeOf299
 v232:=Tryz.zeroValue299
 t233:=Tryz.underlying300
 a233:=Tryz.isAgg300
 z233:=Tryz.sizeOf300
 v233:=Tryz.zeroValue300
 g17:=by kernel_rfl
 g18:=by kernel_rfl
 g19:=by kernel_rfl
 i0:=by kernel_rfl
 i2:=by kernel_rfl
 i3:=by kernel_rfl
 i4:=by kernel_rfl
 i5:=by kernel_rfl
 i9:=by kernel_rfl
 i20:=by kernel_rfl
 i37:=by kernel_rfl
 i46:=by kernel_rfl
 i51:=by kernel_rfl
 i53:=by kernel_rfl
 i171:=by kernel_rfl
 i173:=by kernel_rfl
 i212:=by kernel_rfl
 i232:=by kernel_rfl
 i233:=by kernel_rfl
 m17:=by kernel_rfl
 m18:=by kernel_rfl
 m19:=by kernel_rfl}
end Go.Proofs
namespace Go.Proofs.YthkaekjoemhjaaaGreatDoor
open Go.SL
def RF (e:Int):Bs×Bs:=
 if e=190 then ([50,50,48,48,51],[110,117,109,98,101,114,32,111,117,116,32,111,102,32,114,97,110,103,101])
 else if e=191 then ([50,50,48,49,50],[100,105,118,105,115,105,111,110,32,98,121,32,122,101,114,111])
 else if e=192 then ([50,50,48,48,49],[116,101,120,116,32,105,115,32,116,111,111,32,108,111,110,103])
 else if e=221 then ([50,51,53,48,53],[116,104,101,32,107,101,121,32,105,115,32,116,104,101,114,101,32,97,108,114,101,97,100,121])
 else if e=222 then ([50,51,53,48,50],[110,117,108,108,32,119,104,101,114,101,32,110,111,110,101,32,109,97,121,32,98,101])
 else if e=24∨e=23 then ([53,51,49,48,48],[116,104,101,32,100,105,115,107,32,105,115,32,102,117,108,108])
 else if e=161∨e=144 then ([52,48,48,48,49],[98,101,103,105,110,32,116,104,101,32,116,114,97,110,115,97,99,116,105,111,110,32,97,103,97,105,110])
 else if e=82 then ([53,51,48,48,48],[111,117,116,32,111,102,32,116,105,109,101,115,116,97,109,112,115])
 else if e=230∨e=231∨e=232 then ([48,56,80,48,49],[112,114,111,116,111,99,111,108,32,118,105,111,108,97,116,105,111,110])
 else if e=224∨e=282 then ([88,88,48,48,49],[115,116,111,114,101,100,32,114,111,119,115,32,97,114,101,32,100,97,109,97,103,101,100])
 else ([88,88,48,48,48],[105,110,116,101,114,110,97,108,32,101,114,114,111,114])
section
theorem eqP {k:IntKind}{a c:Int}{K:Value→M}{I:Imm}{L:LH}(h:K (.bool (a==c)) I L):Pv (AA .eql (.int k a) (.int k c)) K I L:=by rw [Pj];exact h
theorem ALK {z:Array Value}{f:Array (Nat×Nat)}{p:List (Nat×Value)}{v:Value}{K:Value→M}{I:Imm}{L:LH}(e:Ad z f p=some v)(h:K v I L):Pv (Ad z f p) K I L:=by rw [e];exact h
theorem brT {b:Bool}{A B:M}{I:Imm}{L:LH}(e:b=true)(h:A I L):Br (.bool b) A B I L:=by subst e;exact h
theorem brF {b:Bool}{A B:M}{I:Imm}{L:LH}(e:b=false)(h:B I L):Br (.bool b) A B I L:=by subst e;exact h
end
section
variable {ω:Om}{I:Imm}{L:LH}{K:Value→M}
set_option maxHeartbeats 4000000 in
theorem Vf (e:Int)(hk:K (.agg #[.string ⟨(RF e).1.toArray⟩,.string ⟨(RF e).2.toArray⟩]) I L):CT ω 101 #[.int .i64 e] K I L:=by
 have fin:∀a b,RF e=(a,b)→K (.agg #[.string ⟨a.toArray⟩,.string ⟨b.toArray⟩]) I L:=by
  intro a b h;rw [h] at hk;exact hk
 clear hk;refine APt ?_;unfold sh101;refine AZ (fun b=>?_);repeat' first
  |(with_reducible refine eqP ?_)
  |(with_reducible refine brT (by assumption) ?_)
  |(with_reducible refine brF (by assumption) ?_)
  |(with_reducible refine AB (fun hb=>?_) (fun hb=>?_))
  |(first|(with_reducible refine BL (sh101_4.eq_1 ..) ?_)|(with_reducible refine BL (sh101_3.eq_1 ..) ?_)|(with_reducible refine BL (sh101_2.eq_1 ..) ?_)|(with_reducible refine BL (sh101_1.eq_1 ..) ?_)|(with_reducible refine BL (sh101.eq_1 ..) ?_))
  |(with_reducible refine ALK rfl ?_)
  |((with_reducible refine stB ?_ ?_ ?_ ?_);rfl;rfl;exact AL rfl)
  |((with_reducible refine rdB ?_ ?_);rfl)
 all_goals refine Gh.to L (Gh.done ?_)
 all_goals first
  |(exact fin _ _ (by have h:=eq_of_beq ‹(e==_)=true›;subst h;rfl))
  |(refine fin _ _ ?_;clear fin;unfold RF;simp_all)
set_option maxHeartbeats 4000000 in
theorem QS (e:Int)(hk:K (.agg #[.string ⟨(Fv e).1.toArray⟩,.string ⟨(Fv e).2.toArray⟩]) I L):CT ω 72 #[.int .i64 e] K I L:=by
 have fin:∀a b,Fv e=(a,b)→K (.agg #[.string ⟨a.toArray⟩,.string ⟨b.toArray⟩]) I L:=by
  intro a b h;rw [h] at hk;exact hk
 clear hk;refine AQh ?_;unfold sh72;refine AZ (fun b=>?_);repeat' first
  |(with_reducible refine eqP ?_)
  |(with_reducible refine brT (by assumption) ?_)
  |(with_reducible refine brF (by assumption) ?_)
  |(with_reducible refine AB (fun hb=>?_) (fun hb=>?_))
  |(first|(with_reducible refine BL (sh72_4.eq_1 ..) ?_)|(with_reducible refine BL (sh72_3.eq_1 ..) ?_)|(with_reducible refine BL (sh72_2.eq_1 ..) ?_)|(with_reducible refine BL (sh72_1.eq_1 ..) ?_)|(with_reducible refine BL (sh72.eq_1 ..) ?_))
  |(with_reducible refine ALK rfl ?_)
  |((with_reducible refine stB ?_ ?_ ?_ ?_);rfl;rfl;exact AL rfl)
  |((with_reducible refine rdB ?_ ?_);rfl)
  |((with_reducible refine call ?_);with_reducible refine Vf e ?_)
 all_goals refine Gh.to L (Gh.done ?_)
 all_goals first
  |(exact fin _ _ (by have h:=eq_of_beq ‹(e==_)=true›;subst h;rfl))
  |(refine fin _ _ ?_;clear fin;simp only [beq_eq_false_iff_ne,ne_eq] at *; unfold Fv;simp only [*,or_self,if_false];rfl)
end
def VV (G : Imm) : Prop := ∃ g T fr, Tryz.prog.globalNamed "internal/strconv.uint64pow10" = some g ∧ G g = some (.cells (Lib.pow10Tab.map fun z => Value.int .u64 z).toArray T fr)
theorem PO:∀(f n:Nat) (acc:Bs),n < f→Um f n acc=Lib.decDigits n++acc
 |0,n,acc,h=>by omega
 |f+1,n,acc,h=>by
  rw [Um,Lib.decDigits];split
  ·rfl
  ·rw [PO f (n / 10) _ (by omega),List.append_assoc];rfl
theorem ABC (n:Int):BU true n=Lib.itoa n:=by
 unfold BU Lib.itoa;split
 ·simp only [if_true];rw [PO _ _ _ (by omega),List.append_nil]
 ·rw [PO _ _ _ (by omega),List.append_nil]
section
variable {ω:Om}{I:Imm}{L:LH}{K:Value→M}
theorem St.grows {w:World}{k:Nat}{os:Array Obj}(hs:St ω w I L):St ω (Sort.grow (w.drewN k) os) I L:=by
 have hd:St ω (w.drewN k) I L:=hs.drew (Nat.le_add_right _ _);refine ⟨fun b o hb=>?_,fun b o hb=>?_,hd.nodup,hd.apart,hd.tape,hd.os,hd.out,hd.dr⟩
 ·have:=hd.imm b o hb;show ((w.drewN k).heap++os)[b]? =some o;rw [Array.getElem?_append_left (Array.getElem?_eq_some_iff.1 this).1];exact this
 ·have:=hd.own b o hb;show ((w.drewN k).heap++os)[b]? =some o;rw [Array.getElem?_append_left (Array.getElem?_eq_some_iff.1 this).1];exact this
theorem AKY {G : Imm}{w : World}(hG : VV G)(hI : Ext G I)(hs : St ω w I L) : Lib.TabIs Tryz.prog w "internal/strconv.uint64pow10" .u64 Lib.pow10Tab := by
 obtain ⟨g,T,fr,h1,h2⟩:=hG;unfold Lib.TabIs World.var?;rw [h1];have:=hs.imm g _ (hI g _ h2);simp only [Option.bind_some,this]
theorem Oy {G:Imm}(hG:VV G)(hI:Ext G I)(n:Int)(h0: -9223372036854775808≤n)(h1:n≤9223372036854775807)(hk:K (.string ⟨(BU true n).toArray⟩) I L):CT ω 79 #[.int .i64 n,.int .i64 10] K I L:=fun w hs=>by
 have h:=Go.Proofs.Any.strconv_FormatInt_10 Go.Proofs.Tryz.lay173 n h0 h1 w (AKY hG hI hs);refine Calls.mono h ?_;rintro e w' ⟨rfl,k,os,rfl⟩;rw [ABC] at hk;exact ⟨_,I,L,rfl,St.grows hs,hk⟩
theorem Vq (e:Int)(hk:K (.string ⟨(Fv e).1.toArray⟩) I L):CT ω 46 #[.int .i64 e] K I L:=by
 refine AQq ?_;unfold AMj;refine call (QS e ?_);try simp only [SSd,Nat.reduceAdd]
 exact Gh.done hk
theorem NE (e:Int)(hk:K (.string ⟨(Fv e).2.toArray⟩) I L):CT ω 47 #[.int .i64 e] K I L:=by
 refine AQp ?_;unfold AMi;refine call (QS e ?_);try simp only [SSd,Nat.reduceAdd]
 exact Gh.done hk
abbrev ALw (v:TValue):List Value:=[.int .i64 v.fType,.bool v.fNull,.int .i64 v.fInt,.string ⟨v.fText.toArray⟩]
theorem Uu {G:Imm}(hG:VV G)(hI:Ext G I)(v:TValue)(hv: -9223372036854775808≤v.fInt∧v.fInt≤9223372036854775807)(hk:∀c,TCellV I (EO (BU true) v) c→K (.agg c.toArray) I L):CT ω 53 #[.agg (ALw v).toArray] K I L:=by
 refine AQj ?_;unfold AMc;obtain ⟨ty,nl,n,tx⟩:=v;simp only at hv
 have fin:∀(cn:Bool) (ct:Bs),EO (BU true) ⟨ty,nl,n,tx⟩=⟨cn,ct⟩→K (.agg #[.bool cn,.string ⟨ct.toArray⟩]) I L:=by
  intro cn ct h;exact hk [.bool cn,.string ⟨ct.toArray⟩] (by rw [h];rfl)
 try simp only [SSd,Nat.reduceAdd]
 refine AZ (fun b1=>?_);refine AZ (fun b2=>?_);try simp only [SSd,Nat.reduceAdd]
 refine rdb ?_;cases nl with
 |true=>
  try simp only [SSd,Nat.reduceAdd]
  refine stB rfl rfl (AL rfl) ?_;refine Ed rfl ?_;exact Gh.to L (Gh.done (fin true [] rfl))
 |false=>
 try simp only [SSd,Nat.reduceAdd]
 refine rdb ?_;try simp only [SSd,Nat.reduceAdd]
 by_cases h1:(ty==1)=true
 ·simp only [h1,SSd,Nat.reduceAdd];refine rdb ?_;refine call (Oy hG hI n hv.1 hv.2 ?_);try simp only [SSd,Nat.reduceAdd]
  refine stB rfl rfl (AL rfl) ?_;refine Ed rfl ?_;exact Gh.to L (Gh.done (fin false _ (by simp only [EO,h1,if_true];rfl)))
 simp only [Bool.eq_false_iff.2 h1,SSd,Nat.reduceAdd];refine rdb ?_;try simp only [SSd,Nat.reduceAdd]
 by_cases h2:(ty==2)=true
 ·simp only [h2,SSd,Nat.reduceAdd];refine AHG (fun bm=>Gh.done ?_);refine ⟨bm,#[],0,[],_,none,rfl,rfl,rfl,Gh.done ?_⟩;refine ⟨bm,_,1,[],_,none,rfl,rfl,rfl,Gh.done ?_⟩;try simp only [SSd,Nat.reduceAdd]
  refine rdb ?_;try simp only [SSd,Nat.reduceAdd]
  have hl:∀(b:Bool) {K:Value→M} {L:LH} {es:Array MapEntry} {ck:Nat},es=#[{key:=.bool true,val:=.string ⟨#[116]⟩,born:=0},{key:=.bool false,val:=.string ⟨#[102]⟩,born:=1}]→K (.string ⟨(if b then ([116]:Bs) else [102]).toArray⟩) I ((bm,.map es ck)::L)→Rv none (lkR .bool (.string ⟨#[]⟩) false (.map (some bm)) (.bool b)) K I ((bm,.map es ck)::L):=by
   intro b K L es ck he h;subst he;cases b with
   |true=>exact ⟨_,⟨_,some (0,.string ⟨#[116]⟩),.inr ⟨bm,ck,rfl,.inl (List.mem_cons_self ..)⟩,rfl,rfl⟩,h⟩
   |false=>exact ⟨_,⟨_,some (1,.string ⟨#[102]⟩),.inr ⟨bm,ck,rfl,.inl (List.mem_cons_self ..)⟩,rfl,rfl⟩,h⟩
  refine hl (n==1) rfl ?_;try simp only [SSd,Nat.reduceAdd]
  refine stB rfl rfl (AL rfl) ?_;refine Ed rfl ?_;exact Gh.to L (Gh.done (fin false _ (by simp only [EO,Bool.eq_false_iff.2 h1,h2,if_true];rfl)))
 simp only [Bool.eq_false_iff.2 h2,SSd,Nat.reduceAdd];refine rdb ?_;try simp only [SSd,Nat.reduceAdd]
 refine stB rfl rfl (AL rfl) ?_;refine Ed rfl ?_;exact Gh.to L (Gh.done (fin false _ (by simp only [EO,Bool.eq_false_iff.2 h1,Bool.eq_false_iff.2 h2];rfl)))
end
theorem Bytes.drop {I:Imm}{v:Value}{l:List UInt8}{n:Nat}(h:Bytes I v l)(hn:n≤l.length):∃v',CV 1 v (some (.int .i64 n)) none none=some v'∧Bytes I v' (l.drop n):=by
 obtain ⟨v',h1,h2⟩:=SlI.part (lo:=n) (hi:=l.length) h hn (Nat.le_refl _) (some (.int .i64 n)) none (fun y hy=>.inl (Jo _ _ _ _ (by omega))) (fun cap hc=>rfl);refine ⟨v',h1,?_⟩;unfold Bytes;rw [List.length_drop];have:((u8s l).drop (n * 1)).take ((l.length - n) * 1)=u8s (l.drop n):=by
  rw [Nat.mul_one,Nat.mul_one,List.take_of_length_le (by simp [u8s])];simp [u8s]
 rwa [this] at h2
theorem Bytes.part {I:Imm}{v:Value}{l:List UInt8}{lo hi:Nat}(h:Bytes I v l)(h1:lo≤hi)(h2:hi≤l.length):∃v',CV 1 v (some (.int .i64 lo)) (some (.int .i64 hi)) none=some v'∧Bytes I v' ((l.drop lo).take (hi - lo)):=by
 obtain ⟨v',e1,e2⟩:=SlI.part (lo:=lo) (hi:=hi) h h1 h2 (some (.int .i64 lo)) (some (.int .i64 hi)) (fun y hy=>.inl (Jo _ _ _ _ (by omega))) (fun cap hc=>Jo _ _ _ _ (by omega));refine ⟨v',e1,?_⟩;unfold Bytes;rw [List.length_take,List.length_drop,Nat.min_eq_left (by omega)];have:((u8s l).drop (lo * 1)).take ((hi - lo) * 1)=u8s ((l.drop lo).take (hi - lo)):=by
  simp [u8s]
 rwa [this] at e2
theorem Bytes.take {I:Imm}{v:Value}{l:List UInt8}{n:Nat}(h:Bytes I v l)(hn:n≤l.length):∃v',CV 1 v none (some (.int .i64 n)) none=some v'∧Bytes I v' (l.take n):=by
 obtain ⟨v',e1,e2⟩:=SlI.part (lo:=0) (hi:=n) h (by omega) hn none (some (.int .i64 n)) (fun y hy=>.inl rfl) (fun cap hc=>Jo _ _ _ _ (by omega));refine ⟨v',e1,?_⟩;unfold Bytes;rw [List.length_take,Nat.min_eq_left (by omega)];have:((u8s l).drop (0 * 1)).take ((n - 0) * 1)=u8s (l.take n):=by
  simp [u8s]
 rwa [this] at e2
theorem Bytes.at {I:Imm}{v:Value}{l:List UInt8}{k:Nat}(h:Bytes I v l)(hk:k < l.length):∃b off,ixV 1 v (.int .i64 k)=some (.pointer (some ⟨b,off,none⟩))∧∀I' L,Ext I I'→Cell I' L b off (.int .u8 (l[k]).toNat):=by
 obtain ⟨b,off,hix,hc⟩:=SlI.ix h .i64 hk;have hone:((u8s l).drop (k * 1)).take 1=[.int .u8 (l[k]).toNat]:=by
  rw [Nat.mul_one,List.drop_eq_getElem_cons (by simpa [u8s] using hk),List.take_succ_cons];simp [u8s]
 rw [hone] at hc;exact ⟨b,off,hix,fun I' L hI=>hc I' L hI 0 _ rfl⟩
abbrev RdO (v:Value)(bad:Bool):Obj:=.cells [v,.bool bad].toArray 177 (0,0)
section
variable {ω:Om}{I:Imm}{L F:LH}{K:Value→M}{b:Nat}{v:Value}
theorem Hf {r:Rdq}(n:Int)[hs:SplitB (b,RdO v r.bad) L F](hv:Bytes I v r.b)(hk:∀v1 v2,Bytes I v1 (r.take n).1→Bytes I v2 (r.take n).2.b→K v1 I ((b,RdO v2 (r.take n).2.bad)::F)):CT ω 105 #[.pointer (some ⟨b,0,none⟩),.int .i64 n] K I L:=by
 refine Cal.perm hs.perm ?_;refine APp ?_;unfold AFz;have hbad:(n < 0∨(r.b.length:Int) < n)→Na ω (.pointer (some ⟨b,0,none⟩)) (.int .i64 n) (.slice none 0 0) (fun v=>Gh (K v)) I ((b,RdO v r.bad)::F):=by
  intro h;simp only [Rdq.take,if_pos h] at hk;unfold Na KD;obtain ⟨v1,e1,h1⟩:=Bytes.take hv (n:=0) (by omega);obtain ⟨v2,e2,h2⟩:=Bytes.drop hv (n:=0) (by omega);try simp only [SSd,Nat.reduceAdd]
  refine st1 rfl ?_;try simp only [SSd,Nat.reduceAdd]
  refine rdb ?_;simp only [show (Value.int .i64 0)= .int .i64 ((0:Nat):Int) from rfl,e1,SSd,Nat.reduceAdd];refine rdb ?_;simp only [show (Value.int .i64 0)= .int .i64 ((0:Nat):Int) from rfl,e2,SSd,Nat.reduceAdd];obtain ⟨a2,k2,rfl⟩:=h2.form;refine st1 rfl ?_;exact Gh.done (hk v1 _ h1 h2)
 have hok:¬(n < 0∨(r.b.length:Int) < n)→KD ω (.pointer (some ⟨b,0,none⟩)) (.int .i64 n) (.slice none 0 0) (fun v=>Gh (K v)) I ((b,RdO v r.bad)::F):=by
  intro h;simp only [Rdq.take,if_neg h] at hk;unfold KD;obtain ⟨m,rfl⟩:∃m:Nat,n=m:=⟨n.toNat,by omega⟩;simp only [Int.toNat_natCast] at hk;obtain ⟨v1,e1,h1⟩:=Bytes.take hv (n:=m) (by omega);obtain ⟨v2,e2,h2⟩:=Bytes.drop hv (n:=m) (by omega);try simp only [SSd,Nat.reduceAdd]
  refine rdb ?_;simp only [e1,SSd,Nat.reduceAdd];refine rdb ?_;simp only [e2,SSd,Nat.reduceAdd];obtain ⟨a2,k2,rfl⟩:=h2.form;refine st1 rfl ?_;exact Gh.done (hk v1 _ h1 h2)
 try simp only [SSd,Nat.reduceAdd]
 refine AP (fun hb=>?_) (fun hb=>?_)
 ·have hb:¬n < 0:=of_decide_eq_false (by simpa using hb);try simp only [SSd,Nat.reduceAdd]
  refine rdb ?_;simp only [hv.len,SSd,Nat.reduceAdd];refine AB (fun h2=>?_) (fun h2=>?_)
  ·exact hbad (.inr (of_decide_eq_true h2))
  ·exact hok (by have:=of_decide_eq_false h2;omega)
 ·exact hbad (.inl (by simpa using hb))
theorem VE {l:Bs}(c:UInt8)(hv:Bytes I v l)(hk:K (.int .i64 (Fp l c)) I L):CT ω 123 #[v,.int .u8 c.toNat] K I L:=by
 refine APe ?_;unfold AFd;refine ExtE.ret ⟨_,fun w hs=>?_,Gh.done (Gh.done hk)⟩;show Sem.run _ (do
  let b ←Extern.Bytes.bytesOf v
  let c ←Extern.Bytes.asByte (.int .u8 c.toNat)
  match (List.range b.size).find? fun i=>b[i]! ==c with
  |some i=>pure (goInt i)
  |none=>pure (goInt (-1))) w=_
 have hc:((c.toNat:Int).toNat).toUInt8=c:=by simp
 simp only [Sem.run_bind,VB hs hv,Result.andThen_ok,Extern.Bytes.asByte,Sem.run_pure,hc,Ui];unfold Fp;cases l.findIdx? (·==c) <;> rfl
theorem JZ {r:Rdq}[hs:SplitB (b,RdO v r.bad) L F](hv:Bytes I v r.b)(hk:∀v2,Bytes I v2 r.text.2.b→K (.string ⟨r.text.1.toArray⟩) I ((b,RdO v2 r.text.2.bad)::F)):CT ω 104 #[.pointer (some ⟨b,0,none⟩)] K I L:=by
 refine Cal.perm hs.perm ?_;refine APq ?_;unfold AGB;try simp only [SSd,Nat.reduceAdd]
 refine rdb ?_;refine call ?_;rw [show (Value.int .u8 0)= .int .u8 ((0:UInt8).toNat:Nat) from rfl];refine VE 0 hv ?_;refine call (Hf (r:=r) (Fp r.b 0) hv (fun v1 v2 h1 h2=>?_));refine ARf h1 (Ext.refl _) ?_;try simp only [SSd,Nat.reduceAdd]
 refine rdb ?_;have et:r.text=(if (r.take (Fp r.b 0)).2.bad=true then r.take (Fp r.b 0) else ((r.take (Fp r.b 0)).1,((r.take (Fp r.b 0)).2.take 1).2)):=rfl;rw [et] at hk;cases hb:(r.take (Fp r.b 0)).2.bad with
 |true=>
  rw [if_pos hb,hb] at hk;try simp only [SSd,Nat.reduceAdd]
  exact Gh.done (hk v2 h2)
 |false=>
  rw [if_neg (by rw [hb];decide)] at hk;simp only [Bool.not_false,SSd,Nat.reduceAdd];rw [show (r.take (Fp r.b 0)).2=⟨(r.take (Fp r.b 0)).2.b,false⟩ by rw [←hb]] at hk;refine call (Hf (r:=⟨(r.take (Fp r.b 0)).2.b,false⟩) 1 h2 (fun v3 v4 h3 h4=>?_));exact Gh.done (hk v4 h4)
theorem UC {r:Rdq}[hs:InL b L (RdO v r.bad)](hv:Bytes I v r.b)(hk:K (.bool r.whole) I L):CT ω 106 #[.pointer (some ⟨b,0,none⟩)] K I L:=by
 refine APo ?_;unfold AFx;unfold Rdq.whole at hk;try simp only [SSd,Nat.reduceAdd]
 refine rdb ?_;cases hb:r.bad with
 |true=>
  rw [hb] at hk;simp only [Bool.not_true,SSd,Nat.reduceAdd];exact Gh.done hk
 |false=>
  rw [hb] at hk;simp only [Bool.not_false,SSd,Nat.reduceAdd];refine rdb ?_;simp only [hv.len,SSd,Nat.reduceAdd];have e:(((r.b.length:Nat):Int)==0)=r.b.isEmpty:=by
   cases r.b with
   |nil=>rfl
   |cons x y=>simp;omega
  rw [e];simpa using Gh.done hk
theorem AHB (l:Bs)(c:UInt8):∀n,AKb n (l++[c])=Dx .or .i64 (IntKind.i64.wrap (AKb n l * 256)) c.toNat:=by
 induction l with
 |nil=>intro n;rfl
 |cons x l ih=>intro n;exact ih _
theorem LU {r:Rdq}(k:Int)[hs:SplitB (b,RdO v r.bad) L F](hv:Bytes I v r.b)(hn:r.b.length≤1000000000000)(hk:∀v2,Bytes I v2 (r.num k).2.b→K (.int .i64 (r.num k).1) I ((b,RdO v2 (r.num k).2.bad)::F)):CT ω 103 #[.pointer (some ⟨b,0,none⟩),.int .i64 k] K I L:=by
 refine Cal.perm hs.perm ?_;refine APr ?_;unfold AGD;refine call (Hf (r:=r) k hv (fun v1 v2 h1 h2=>?_));unfold Rdq.num at hk;have hl:(r.take k).1.length≤1000000000000:=by
  unfold Rdq.take;split
  ·simp
  ·simp only [List.length_take];omega
 generalize r.take k=q at *;obtain ⟨q1,q2⟩:=q;simp only at *
 simp only [h1.len,SSd,Nat.reduceAdd];refine loop (fun m st I' L'=>∃j:Nat,j+m=q1.length∧st=(Value.int .i64 (AKc (q1.take j)),Value.int .i64 (j:Nat),())∧I'=I∧L'=(b,RdO v2 q2.bad)::F) q1.length ⟨0,by omega,rfl,rfl,rfl⟩ ?_;rintro m st I' L' ⟨j,hj,rfl,rfl,rfl⟩;unfold Yf;try simp only [SSd,Nat.reduceAdd]
 refine AB (fun hb=>?_) (fun hb=>?_)
 ·have hb:j < q1.length:=by
   have:=of_decide_eq_true hb;omega
  obtain ⟨bt,off,e1,e2⟩:=Bytes.at h1 hb;simp only [e1,SSd,Nat.reduceAdd];refine rd1 (e2 _ _ (Ext.refl _)) ?_;try simp only [SSd,Nat.reduceAdd]
  have et:=List.take_succ_eq_append_getElem hb;cases j with
  |zero=>
   simp only [show ((((0:Nat):Int))==0)=true from rfl,SSd,Nat.reduceAdd];unfold Nb;have hw:IntKind.i64.wrap (IntKind.i8.wrap (q1[0].toNat:Nat))=ANB q1[0]:=eq_of_beq (Ey (p:=fun c=>IntKind.i64.wrap (IntKind.i8.wrap (c.toNat:Nat))==ANB c) (by decide+kernel) q1[0]);simp only [hw,show IntKind.i64.wrap (((0:Nat):Int)+1)=((0+1:Nat):Int) from rfl,SSd,Nat.reduceAdd];exact Gh.done ⟨m - 1,by omega,1,by omega,by rw [et];rfl,rfl,rfl⟩
  |succ j=>
   have h0:((((j+1:Nat):Int))==0)=false:=by simp;omega
   simp only [h0,SSd,Nat.reduceAdd];unfold Nb;have hw:IntKind.i64.wrap (q1[j+1].toNat:Nat)=(q1[j+1].toNat:Nat):=wrap_i64 _ (by have:=q1[j+1].toNat_lt;omega);have hn1:AKc (q1.take (j+1+1))=Dx .or .i64 (IntKind.i64.wrap (AKc (q1.take (j+1)) * 2 ^ (min (8:Int).toNat IntKind.i64.bits))) (q1[j+1].toNat:Nat):=by
    rw [et];cases hq:q1.take (j+1) with
    |nil=>
     have:=congrArg List.length hq;rw [List.length_take,List.length_nil] at this;omega
    |cons x y=>exact AHB y _ _
   simp only [Kt _ _ .i64 .u64 (show (0:Int)≤8 by decide),hw,wrap_i64 (((j+1:Nat):Int)+1) (by omega),SSd,Nat.reduceAdd];exact Gh.done ⟨m - 1,by omega,j+1+1,by omega,by rw [hn1];rfl,rfl,rfl⟩
 ·have hb:¬j < q1.length:=by
   have:=of_decide_eq_false hb;omega
  rw [List.take_of_length_le (by omega)];exact Gh.done (hk v2 h2)
end
section
variable {ω:Om}{I:Imm}{L F:LH}{K:Value→M}{b:Nat}{v:Value}
theorem Bytes.at' {I:Imm}{v:Value}{l:List UInt8}(h:Bytes I v l)(k:Nat)(hk:k < l.length):∃b off,ixV 1 v (.int .i64 k)=some (.pointer (some ⟨b,off,none⟩))∧∀I' L,Ext I I'→Cell I' L b off (.int .u8 (l.getD k 0).toNat):=by
 obtain ⟨b,off,h1,h2⟩:=Bytes.at h hk;refine ⟨b,off,h1,?_⟩;rw [List.getD_eq_getElem?_getD,List.getElem?_eq_getElem hk];exact h2
theorem XP (c:UInt8):IntKind.u32.wrap (c.toNat:Nat)=(c.toNat:Nat):=eq_of_beq (Ey (p:=fun c=>IntKind.u32.wrap (c.toNat:Nat)==((c.toNat:Nat):Int)) (by decide+kernel) c)
theorem UR {l:Bs}(hv:Bytes I v l)(h4:4≤l.length)(hk:K (.int .i64 (n4W (l.getD 0 0) (l.getD 1 0) (l.getD 2 0) (l.getD 3 0))) I L):CT ω 102 #[v] K I L:=by
 refine APs ?_;unfold AGF;obtain ⟨b0,o0,e0,c0⟩:=Bytes.at' hv 0 (by omega);obtain ⟨b1,o1,e1,c1⟩:=Bytes.at' hv 1 (by omega);obtain ⟨b2,o2,e2,c2⟩:=Bytes.at' hv 2 (by omega);obtain ⟨b3,o3,e3,c3⟩:=Bytes.at' hv 3 (by omega);generalize l.getD 0 0=x0 at *;generalize l.getD 1 0=x1 at *;generalize l.getD 2 0=x2 at *;generalize l.getD 3 0=x3 at *;have s24:∀a:Int,AA .shl (.int .u32 a) (.int .u64 24)=some (.int .u32 (IntKind.u32.wrap (a * 16777216))):=fun a=>Kt _ _ .u32 .u64 (by decide);have s16:∀a:Int,AA .shl (.int .u32 a) (.int .u64 16)=some (.int .u32 (IntKind.u32.wrap (a * 65536))):=fun a=>Kt _ _ .u32 .u64 (by decide);have s8:∀a:Int,AA .shl (.int .u32 a) (.int .u64 8)=some (.int .u32 (IntKind.u32.wrap (a * 256))):=fun a=>Kt _ _ .u32 .u64 (by decide);have e0:ixV 1 v (.int .i64 0)=some (.pointer (some ⟨b0,o0,none⟩)):=e0;have e1:ixV 1 v (.int .i64 1)=some (.pointer (some ⟨b1,o1,none⟩)):=e1;have e2:ixV 1 v (.int .i64 2)=some (.pointer (some ⟨b2,o2,none⟩)):=e2;have e3:ixV 1 v (.int .i64 3)=some (.pointer (some ⟨b3,o3,none⟩)):=e3;refine Aw ?_;simp only [e0,SSd,Nat.reduceAdd];refine AKV (c0 _ _ (Ext.refl _)) ?_;simp only [e1,XP,s24,SSd,Nat.reduceAdd];refine AKV (c1 _ _ (Ext.refl _)) ?_;simp only [e2,XP,s16,SSd,Nat.reduceAdd];refine AKV (c2 _ _ (Ext.refl _)) ?_;simp only [e3,XP,s8,SSd,Nat.reduceAdd];refine AKV (c3 _ _ (Ext.refl _)) ?_;have hw:∀n:Int,IntKind.i64.wrap (IntKind.i32.wrap n)=i32 n:=fun n=>by
  exact wrap_i64 _ (by rw [IntKind.wrap_i32];omega)
 simp only [XP,hw,SSd,Nat.reduceAdd];exact Gh.done hk
theorem AAe (a b c d:UInt8): -2147483648≤n4W a b c d∧n4W a b c d≤2147483647:=by
 unfold n4W i32;rw [IntKind.wrap_i32];omega
theorem Ud {l:Bs}(hv:Bytes I v l)(head:Nat)(least most:Int)(hh:head≤100)(hn:l.length≤1000000000000)(hk:K (.tuple #[.int .i64 (GZ l head least most).1,.int .i64 (GZ l head least most).2]) I L):CT ω 74 #[v,.int .i64 head,.int .i64 least,.int .i64 most] K I L:=by
 refine AQf ?_;unfold AMY;simp only [hv.len,wrap_i64 ((head:Int)+4) (by omega),SSd,Nat.reduceAdd];unfold GZ at hk;refine AB (fun hb=>?_) (fun hb=>?_)
 ·have hb:=of_decide_eq_true hb;rw [if_pos (by omega)] at hk;exact Gh.done hk
 ·have hb:=of_decide_eq_false hb;rw [if_neg (by omega)] at hk;obtain ⟨v1,e1,h1⟩:=Bytes.drop hv (n:=head) (by omega);simp only [e1,SSd,Nat.reduceAdd];refine call (UR h1 (by rw [List.length_drop];omega) ?_);have hg:∀i,(l.drop head).getD i 0=l.getD (head+i) 0:=fun i=>by
   simp only [List.getD_eq_getElem?_getD,List.getElem?_drop]
  rw [hg,hg,hg,hg,Nat.add_zero];simp only at hk
  have hr:=AAe (l.getD head 0) (l.getD (head+1) 0) (l.getD (head+2) 0) (l.getD (head+3) 0);generalize n4W (l.getD head 0) (l.getD (head+1) 0) (l.getD (head+2) 0) (l.getD (head+3) 0)=n at hk hr ⊢;try simp only [SSd,Nat.reduceAdd]
  refine AB (fun hb=>?_) (fun hb=>?_)
  ·rw [if_pos (of_decide_eq_true hb)] at hk;exact Gh.done hk
  have hb1:=of_decide_eq_false hb;rw [if_neg hb1] at hk;try simp only [SSd,Nat.reduceAdd]
  refine AB (fun hb=>?_) (fun hb=>?_)
  ·rw [if_pos (of_decide_eq_true hb)] at hk;exact Gh.done hk
  have hb2:=of_decide_eq_false hb;rw [if_neg hb2] at hk;simp only [hv.len,wrap_i64 ((l.length:Int) - head) (by omega),SSd,Nat.reduceAdd];refine AB (fun hb=>?_) (fun hb=>?_)
  ·rw [if_pos (of_decide_eq_true hb)] at hk;exact Gh.done hk
  ·rw [if_neg (of_decide_eq_false hb)] at hk;exact Gh.done hk
def FrC (f:TFront)(c:List Value):Prop:=∃(a:Option Addr) (n k:Nat) (p s t:Int),c=[.int .i64 f.fKind,.slice a n k,.string ⟨f.fText.toArray⟩,.int .i64 p,.int .i64 s,.int .u8 t]
theorem FrC.zero:FrC {} [.int .i64 0,.slice none 0 0,.string ⟨#[]⟩,.int .i64 0,.int .i64 0,.int .u8 0]:=⟨none,0,0,0,0,0,rfl⟩
abbrev FrO (c:List Value):Obj:=.cells c.toArray 106 (0,0)
theorem FrC.one {f:TFront}{c:List Value}(h:FrC f c):c.length=6∧∀u∈c,u.oneCell'=true:=by
 obtain ⟨a,n,k,p,s,t,rfl⟩:=h;exact ⟨rfl,AL rfl⟩
abbrev z6:List Value:=[.int .i64 0,.slice none 0 0,.string ⟨#[]⟩,.int .i64 0,.int .i64 0,.int .u8 0]
theorem KP {b1 b3 b5:Nat}{r:Rdq}{f:TFront}{c c1:List Value}{p5:Value}[hs:SubP ((b5,FrO c)::(b3,RdO v r.bad)::(b1,FrO c1)::F) L](hv:Bytes I v r.b)(hf:FrC f c)(h1:c1.length=6)
  (hk:∀c',FrC (if r.whole then f else {}) c'→K (.tuple #[.agg c'.toArray,.int .i64 (if r.whole then 0 else 230)]) I F):
  OH ω (.pointer (some ⟨b1,0,none⟩)) p5 (.pointer (some ⟨b3,0,none⟩)) (.pointer (some ⟨b5,0,none⟩)) (fun v=>Gh (K v)) I L:=by
 obtain ⟨hc6,hco⟩:=hf.one;unfold OH;refine call (Cal.to ((b5,FrO c)::(b3,RdO v r.bad)::(b1,FrO c1)::F) (UC hv ?_));cases hw:r.whole with
 |true=>
  simp only [hw,if_true] at hk;simp only [Bool.not_true,SSd,Nat.reduceAdd];refine Ed hc6 ?_;refine stB hc6 h1 hco ?_;refine Ed hc6 ?_;exact Gh.to F (Gh.done (hk c hf))
 |false=>
  simp only [hw,Bool.false_eq_true,if_false] at hk;simp only [Bool.not_false,SSd,Nat.reduceAdd];refine stB rfl h1 (AL rfl) ?_;refine Ed rfl ?_;exact Gh.to F (Gh.done (hk _ FrC.zero))
theorem Sj {l:Bs}(tag:UInt8)(hv:Bytes I v l)(hn:l.length≤1000000000000)(hk:∀c,FrC (AHK tag.toNat l).1 c→K (.tuple #[.agg c.toArray,.int .i64 (AHK tag.toNat l).2]) I F):CT ω 76 #[.int .u8 tag.toNat,v] K I F:=by
 obtain ⟨a0,k0,rfl⟩:=hv.form;refine AQd ?_;unfold AMW;refine AZ (fun b1=>?_);try simp only [SSd,Nat.reduceAdd]
 refine AZ (fun b3=>?_);try simp only [SSd,Nat.reduceAdd]
 refine AZ (fun b5=>?_);refine stB rfl rfl (AL rfl) ?_;have fin:∀(f:TFront) (r:Rdq),(∀c,FrC (if r.whole=true then (f,(0:Int)) else ({},230)).1 c→K (.tuple #[.agg c.toArray,.int .i64 (if r.whole=true then (f,(0:Int)) else ({},230)).2]) I F)→∀c',FrC (if r.whole then f else {}) c'→K (.tuple #[.agg c'.toArray,.int .i64 (if r.whole then 0 else 230)]) I F:=by
  intro f r h c' hc';cases hr:r.whole with
  |true=>rw [hr] at h hc';exact h c' hc'
  |false=>rw [hr] at h hc';exact h c' hc'
 unfold AHK at hk;try simp only [SSd,Nat.reduceAdd]
 by_cases h1:((tag.toNat:Int)==81)=true
 ·rw [if_pos h1] at hk;simp only [h1,SSd,Nat.reduceAdd];refine call (JZ (r:=⟨l,false⟩) hv (fun v2 h2=>?_));try simp only [SSd,Nat.reduceAdd]
  refine stB rfl rfl (AL rfl) ?_;exact KP (c1:=z6) (r:=(Rdq.text ⟨l,false⟩).2) (f:={fKind:=4,fText:=(Rdq.text ⟨l,false⟩).1}) h2 ⟨none,0,0,0,0,0,rfl⟩ rfl (fin _ _ hk)
 rw [if_neg h1] at hk;simp only [Bool.eq_false_iff.2 h1,SSd,Nat.reduceAdd];by_cases h2:((tag.toNat:Int)==88)=true
 ·rw [if_pos h2] at hk;simp only [h2,SSd,Nat.reduceAdd];refine stB rfl rfl (AL rfl) ?_;exact KP (c1:=z6) (r:=⟨l,false⟩) (f:={fKind:=5}) hv ⟨none,0,0,0,0,0,rfl⟩ rfl (fin _ _ hk)
 rw [if_neg h2] at hk;simp only [Bool.eq_false_iff.2 h2,SSd,Nat.reduceAdd];refine st1 rfl ?_;exact KP (c1:=z6) (r:=⟨[],false⟩) (f:={fKind:=6,fTag:=tag.toNat}) (SlI.nil _ _ none 0) ⟨none,0,0,0,0,tag.toNat,rfl⟩ rfl (fin _ _ hk)
theorem JG {l:Bs}(h:0 < l.length):l.headD 0=l[0]:=by
 cases l with
 |nil=>simp at h
 |cons x y=>rfl
theorem Uj {b1 b3 b5:Nat}{r:Rdq}{f:TFront}{c c1:List Value}{p5:Value}[hs:SubP ((b5,FrO c)::(b3,RdO v r.bad)::(b1,FrO c1)::F) L](hv:Bytes I v r.b)(hf:FrC f c)(h1:c1.length=6)
  (hk:∀c',FrC (if r.whole then f else {}) c'→K (.tuple #[.agg c'.toArray,.int .i64 (if r.whole then 0 else 230)]) I F):
  Vy ω (.pointer (some ⟨b1,0,none⟩)) p5 (.pointer (some ⟨b3,0,none⟩)) (.pointer (some ⟨b5,0,none⟩)) (fun v=>Gh (K v)) I L:=KP (p5:=p5) (c1:=c1) (f:=f) hv hf h1 hk
theorem AAv {b1 b3 b5:Nat}{r:Rdq}{f:TFront}{c c1:List Value}{p5:Value}[hs:SubP ((b5,FrO c)::(b3,RdO v r.bad)::(b1,FrO c1)::F) L](hv:Bytes I v r.b)(hf:FrC f c)(h1:c1.length=6)
  (hk:∀c',FrC (if r.whole then f else {}) c'→K (.tuple #[.agg c'.toArray,.int .i64 (if r.whole then 0 else 230)]) I F):
  ACB ω (.pointer (some ⟨b1,0,none⟩)) p5 (.pointer (some ⟨b3,0,none⟩)) (.pointer (some ⟨b5,0,none⟩)) (fun v=>Gh (K v)) I L:=KP (p5:=p5) (c1:=c1) (f:=f) hv hf h1 hk
theorem take_len (n:Int)(r:Rdq):(r.take n).2.b.length≤r.b.length:=by
 unfold Rdq.take;split
 ·exact Nat.le_refl _
 ·rw [List.length_drop];omega
theorem TV (r:Rdq):r.text.2.b.length≤r.b.length:=by
 unfold Rdq.text;simp only;split
 ·exact take_len _ r
 ·exact Nat.le_trans (take_len _ _) (take_len _ r)
theorem JA {r:Rdq}(h:r.text.2.bad=false):r.text.2.b.length < r.b.length:=by
 unfold Rdq.text at *;simp only at *
 split at h
 ·rename_i h1;rw [h1] at h;cases h
 rename_i h1
 rw [if_neg h1];have hle:=take_len (ix0 r.b) r;generalize hq:r.take (ix0 r.b)=q at *;obtain ⟨q1,q2,q3⟩:=q;simp only [Rdq.take] at h ⊢;split at h
 ·cases h
 ·rename_i h2
  rw [if_neg h2];simp only [List.length_drop] at *;omega
theorem OA {r:Rdq}(h:r.bad=true):r.text.2.bad=true:=by
 unfold Rdq.text Rdq.take;simp only;repeat' split
 all_goals first
  |exact h
  |rfl
  |(simp only at *; assumption)
theorem Hm:∀(n:Nat) {r:Rdq} (acc:List TParam),r.bad=true→CQ n r acc=some (acc,r)
 |0,r,acc,_=>rfl
 |n+1,r,acc,h=>by unfold CQ;rw [if_neg (by simp [h])]
theorem IZ:∀(n m:Nat) {r:Rdq} (acc:List TParam),r.b.length < n→r.b.length < m→CQ n r acc=CQ m r acc
 |0,m,r,acc,h,_=>by omega
 |n+1,0,r,acc,_,h=>by omega
 |n+1,m+1,r,acc,h1,h2=>by
  unfold CQ;split
  ·split
   ·rfl
   ·cases hb:r.text.2.text.2.bad with
    |true=>rw [Hm n _ hb,Hm m _ hb]
    |false=>
     have hb1:r.text.2.bad=false:=by
      cases h:r.text.2.bad with
      |false=>rfl
      |true=>rw [OA h] at hb;cases hb
     have:=JA hb1;have:=JA hb;exact IZ n m _ (by omega) (by omega)
  ·rfl
def ZP (_:Imm)(x:TParam)(c:List Value):Prop:=c=[.string ⟨x.fName.toArray⟩,.string ⟨x.fValue.toArray⟩]
theorem AAY {b1 b3 b5:Nat}{r:Rdq}{f:TFront}(hv:Bytes I v r.b)(hn:r.b.length≤1000000000000)(hf:f={fKind:=1})
  (hk:match CQ (r.b.length+1) r [] with
   |none=>∀c',FrC {} c'→K (.tuple #[.agg c'.toArray,.int .i64 231]) I F
   |some (l,r')=>∀c',FrC (if (r'.take 1).2.whole then f else {}) c'→K (.tuple #[.agg c'.toArray,.int .i64 (if (r'.take 1).2.whole then 0 else 230)]) I F):
  BF (((Value.int .i64 0),()):Value×Unit) (fun s Kn0=>Vx ω (.pointer (some ⟨b1,0,none⟩)) (.pointer (some ⟨b3,0,none⟩)) (.pointer (some ⟨b5,0,none⟩)) s.1 Kn0 (fun v=>Gh (K v))) I ((b3,RdO v r.bad)::(b5,FrO [.int .i64 1,.slice none 0 0,.string ⟨#[]⟩,.int .i64 0,.int .i64 0,.int .u8 0])::(b1,FrO z6)::F):=by
 refine loop (fun m st I' L'=>∃(r':Rdq) (v' vp:Value) (X:LH) (acc:List TParam) (cells:List Value),st=(Value.int .i64 0,())∧I'=I∧L'=X++((b3,RdO v' r'.bad)::(b5,FrO [.int .i64 1,vp,.string ⟨#[]⟩,.int .i64 0,.int .i64 0,.int .u8 0])::(b1,FrO z6)::F)∧
   Bytes I v' r'.b∧SlO 181 2 X vp cells acc.length∧Recs (ZP I) 2 acc cells∧acc.length≤32∧r'.b.length≤r.b.length∧CQ (r.b.length+1) r []=CQ (r'.b.length+1) r' acc∧(if r'.bad then 0 else r'.b.length+1)≤m) (r.b.length+1)
  ⟨r,v,.slice none 0 0,[],[],[],rfl,rfl,rfl,hv,SlO.none _ _,rfl,by simp,Nat.le_refl _,rfl,by split <;> omega⟩ ?_
 rintro m st I' L' ⟨⟨rb,bad⟩,v',vp,X,acc,cells,rfl,rfl,rfl,hv',hX,hR,ha,hle,he,hm⟩;simp only at hv' hle hm
 rw [he] at hk;unfold Vx;have fin:((rb.length > 0&&(rb.headD 0 != 0&& !bad))=false)→OI ω (.pointer (some ⟨b1,0,none⟩)) (.int .i64 0) (.pointer (some ⟨b3,0,none⟩)) (.pointer (some ⟨b5,0,none⟩)) (fun v=>Gh (K v)) I' (X++((b3,RdO v' bad)::(b5,FrO [.int .i64 1,vp,.string ⟨#[]⟩,.int .i64 0,.int .i64 0,.int .u8 0])::(b1,FrO z6)::F)):=by
  intro hc;unfold CQ at hk;rw [if_neg (by rw [hc];decide)] at hk;simp only at hk
  unfold OI;obtain ⟨a,k,rfl⟩:=hX.form;refine call (Hf (r:=⟨rb,bad⟩) 1 hv' (fun v1 v2 h1 h2=>?_));exact AAv (c1:=z6) (f:=f) (r:=((Rdq.mk rb bad).take 1).2) (c:=[.int .i64 1,.slice a acc.length k,.string ⟨#[]⟩,.int .i64 0,.int .i64 0,.int .u8 0]) h2 ⟨a,_,k,0,0,0,by subst hf;rfl⟩ rfl hk
 obtain ⟨a0,k0,rfl⟩:=hv'.form;try simp only [SSd,Nat.reduceAdd]
 refine rdb ?_;simp only [Ht,SSd,Nat.reduceAdd];refine AP (fun hb=>?_) (fun hb=>?_)
 ·have hb:=of_decide_eq_true hb;obtain ⟨bt,off,e1,e2⟩:=Bytes.at hv' (k:=0) (by omega);have e1:ixV 1 (.slice a0 rb.length k0) (.int .i64 0)=some (.pointer (some ⟨bt,off,none⟩)):=e1;try simp only [SSd,Nat.reduceAdd]
  refine rdb ?_;simp only [e1,SSd,Nat.reduceAdd];refine rd1 (e2 _ _ (Ext.refl _)) ?_;have hh:rb.headD 0=rb[0]:=JG (by omega);have hgt:decide (rb.length > 0)=true:=decide_eq_true (by omega);have hz:(((rb[0]).toNat:Int) != 0)=(rb.headD 0 != 0):=by
   rw [hh];exact eq_of_beq (Ey (p:=fun c=>((((c.toNat:Nat):Int) != 0)==(c != 0))) (by decide+kernel) rb[0])
  simp only [hz,SSd,Nat.reduceAdd];cases hd:(rb.headD 0 != 0) with
  |false=>
   try simp only [SSd,Nat.reduceAdd]
   exact fin (by rw [hgt,hd];rfl)
  |true=>
   try simp only [SSd,Nat.reduceAdd]
   refine rdb ?_;try simp only [SSd,Nat.reduceAdd]
   cases bad with
   |true=>
    simp only [Bool.not_true,SSd,Nat.reduceAdd];exact fin (by simp [hd])
   |false=>
    simp only [Bool.not_false,SSd,Nat.reduceAdd];have hc:(decide (rb.length > 0)&&(rb.headD 0 != 0&& !false))=true:=by rw [hgt,hd];rfl
    have ep:CQ (rb.length+1) ⟨rb,false⟩ acc=if acc.length==32 then none else CQ rb.length (Rdq.mk rb false).text.2.text.2 (acc++[⟨(Rdq.mk rb false).text.1,(Rdq.mk rb false).text.2.text.1⟩]):=by
     rw [CQ,if_pos hc]
    obtain ⟨a,k,rfl⟩:=hX.form;refine rdb ?_;simp only [Ht,SSd,Nat.reduceAdd];by_cases h32:acc.length=32
    ·rw [ep,if_pos (by rw [h32];rfl)] at hk;simp only at hk
     unfold ACC;simp only [h32,show (((32:Nat):Int)==32)=true from rfl,SSd,Nat.reduceAdd];refine stB rfl rfl (AL rfl) ?_;refine Ed rfl ?_;exact Gh.to F (Gh.done (hk _ FrC.zero))
    ·have h32':(((acc.length:Nat):Int)==32)=false:=by
      apply beq_false_of_ne;omega
     rw [if_neg (by simpa using h32)] at ep;simp only [h32',SSd,Nat.reduceAdd];refine call (JZ (r:=⟨rb,false⟩) hv' (fun v2 h2=>?_));try simp only [SSd,Nat.reduceAdd]
     refine AZ (fun bp=>?_);refine stB rfl rfl (AL rfl) ?_;refine call (JZ (r:=(Rdq.mk rb false).text.2) h2 (fun v3 h3=>?_));try simp only [SSd,Nat.reduceAdd]
     refine st1 rfl ?_;try simp only [SSd,Nat.reduceAdd]
     refine rdb ?_;refine Ed rfl ?_;have hl1:=TV (Rdq.mk rb false);have hl2:=TV (Rdq.mk rb false).text.2;refine GG (R:=ZP) (x:=⟨(Rdq.mk rb false).text.1,(Rdq.mk rb false).text.2.text.1⟩) (X6:=X) rfl (by omega) hX hR rfl rfl (AL rfl) (by omega) (by omega) (fun X1 X6 w6 cells6 hX6 hR6=>?_);obtain ⟨a6,k6,rfl⟩:=hX6.form;try simp only [SSd,Nat.reduceAdd]
     refine st1 rfl ?_;have ep2:CQ rb.length (Rdq.mk rb false).text.2.text.2 (acc++[⟨(Rdq.mk rb false).text.1,(Rdq.mk rb false).text.2.text.1⟩])=CQ ((Rdq.mk rb false).text.2.text.2.b.length+1) (Rdq.mk rb false).text.2.text.2 (acc++[⟨(Rdq.mk rb false).text.1,(Rdq.mk rb false).text.2.text.1⟩]):=by
      cases hb2:(Rdq.mk rb false).text.2.text.2.bad with
      |true=>rw [Hm _ _ hb2,Hm _ _ hb2]
      |false=>
       have hb1:(Rdq.mk rb false).text.2.bad=false:=by
        cases h:(Rdq.mk rb false).text.2.bad with
        |false=>rfl
        |true=>rw [OA h] at hb2;cases hb2
       have:=JA hb1;exact IZ _ _ _ (by simp only at this;omega) (by omega)
     have hdec:(if (Rdq.mk rb false).text.2.text.2.bad then 0 else (Rdq.mk rb false).text.2.text.2.b.length+1) < m:=by
      simp only [Bool.false_eq_true,if_false] at hm;split
      ·omega
      ·rename_i hb2
       have hb2:(Rdq.mk rb false).text.2.text.2.bad=false:=by simpa using hb2
       have hb1:(Rdq.mk rb false).text.2.bad=false:=by
        cases h:(Rdq.mk rb false).text.2.bad with
        |false=>rfl
        |true=>rw [OA h] at hb2;cases hb2
       have:=JA hb1;simp only at this
       omega
     simp only at hl1
     refine Gh.to (X6++((b3,RdO v3 (Rdq.mk rb false).text.2.text.2.bad)::(b5,FrO [.int .i64 1,.slice a6 (acc++[TParam.mk (Rdq.mk rb false).text.1 (Rdq.mk rb false).text.2.text.1]).length k6,.string ⟨#[]⟩,.int .i64 0,.int .i64 0,.int .u8 0])::(b1,FrO z6)::F)) (Gh.done ?_);exact ⟨_,hdec,(Rdq.mk rb false).text.2.text.2,v3,_,X6,_,cells6,by trivial,by trivial,by trivial,h3,hX6,hR6,by simp;omega,by omega,by rw [he,ep,ep2],Nat.le_refl _⟩
 ·refine fin ?_;have:¬rb.length > 0:=by
   intro h;exact hb (decide_eq_true (by omega))
  rw [decide_eq_false this];rfl
end
def BP {α:Type}(w:α→Nat)(g:Pr α):Prop:=∀l x r,g l= .ok x r→r.length+w x≤l.length
theorem Au {l:List Tok}{s:Bs}(h:isT l s=true):l.tail.length+1=l.length:=by
 cases l with
 |nil=>simp [isT,hd,default,instInhabitedTok] at h
 |cons t r=>rfl
theorem Ff {l:List Tok}{k:Int}(h:isK l k=true)(hk:k≠0):l.tail.length+1=l.length:=by
 cases l with
 |nil=>simp [isK,hd,default,instInhabitedTok] at h;exact absurd h.symm hk
 |cons t r=>rfl
theorem bind_ok {α β:Type}{x:Res α}{f:α→Pr β}{y:β}{r:List Tok}(h:x.bind f= .ok y r):∃a q,x= .ok a q∧f a q= .ok y r:=by
 cases x with
 |ok a q=>exact ⟨a,q,rfl,h⟩
 |err e=>cases h
theorem Aq {s:Bs}{l r:List Tok}{u:Unit}(h:AV s l= .ok u r):r.length+1=l.length:=by
 unfold AV at h;split at h
 ·rename_i ht
  simp only [Res.ok.injEq,true_and] at h;subst h;exact Au ht
 ·cases h
theorem BG:BP (fun _=>1) BD:=by
 intro l x r h;unfold BD at h;split at h
 ·rename_i ht
  simp only [Res.ok.injEq] at h;obtain ⟨_,rfl⟩:=h;have:=Ff ht (by decide);show l.tail.length+1≤l.length;omega
 ·cases h
theorem Cf:∀(a b:List Ex),Aj (a++b)=Aj a+Aj b
 |[],b=>by simp [Aj]
 |x::a,b=>by simp only [List.cons_append,Aj,Cf a b];omega
theorem Qu {g:Pr Ex}(hg:BP BA g):∀(n:Nat) (acc:List Ex) (l:List Tok) (x:List Ex) (r:List Tok),Ce g n acc l= .ok x r→r.length+Aj x≤l.length+Aj acc
 |0,acc,l,x,r,h=>by simp only [Ce,Res.ok.injEq] at h;obtain ⟨rfl,rfl⟩:=h;omega
 |n+1,acc,l,x,r,h=>by
  simp only [Ce] at h;split at h
  ·rename_i ht
   obtain ⟨a,q,h1,h2⟩:=bind_ok h;have c1:=hg _ _ _ h1;have c2:=Qu hg n _ _ _ _ h2;have c3:=Au ht;rw [Cf] at c2;simp only [Aj] at c2;omega
  ·simp only [Res.ok.injEq] at h;obtain ⟨rfl,rfl⟩:=h;omega
theorem ABE {g:Pr Ex}(hg:BP BA g)(n:Nat):BP Aj (BO n g):=by
 intro l x r h;obtain ⟨a,q,h1,h2⟩:=bind_ok h;have c1:=hg _ _ _ h1;have c2:=Qu hg n _ _ _ _ h2;simp only [Aj] at c2;omega
theorem Qo {g:Pr Ex}(hg:BP BA g)(n:Nat):BP (fun x=>Aj x+2) (CE n g):=by
 intro l x r h;obtain ⟨_,q,h1,h2⟩:=bind_ok h;obtain ⟨a,q2,h3,h4⟩:=bind_ok h2;obtain ⟨_,q3,h5,h6⟩:=bind_ok h4;simp only [Res.ok.injEq] at h6;obtain ⟨rfl,rfl⟩:=h6;have c1:=Aq h1;have c2:=ABE hg n _ _ _ h3;have c3:=Aq h5;simp only;omega
theorem Qv {g:Pr Ex}(hg:BP BA g){op:List Tok→Int}(hop:∀l,op l≠0→l.tail.length+1=l.length):∀(n:Nat) (x:Ex) (l:List Tok) (y:Ex) (r:List Tok),GK g op n x l= .ok y r→r.length+BA y≤l.length+BA x
 |0,x,l,y,r,h=>by simp only [GK,Res.ok.injEq] at h;obtain ⟨rfl,rfl⟩:=h;omega
 |n+1,x,l,y,r,h=>by
  simp only [GK] at h;split at h
  ·simp only [Res.ok.injEq] at h;obtain ⟨rfl,rfl⟩:=h;omega
  ·rename_i h0
   obtain ⟨a,q,h1,h2⟩:=bind_ok h;have c1:=hg _ _ _ h1;have c2:=Qv hg hop n _ _ _ _ h2;have c3:=hop l h0;simp only [exK,BA,Aj] at c2;omega
theorem IE {g:Pr Ex}(hg:BP BA g){op:List Tok→Int}(hop:∀l,op l≠0→l.tail.length+1=l.length)(n:Nat):BP BA (DF n g op):=by
 intro l x r h;obtain ⟨a,q,h1,h2⟩:=bind_ok h;have c1:=hg _ _ _ h1;have c2:=Qv hg hop n _ _ _ _ h2;omega
theorem ANb (l:List Tok)(h:SV l≠0):l.tail.length+1=l.length:=by
 unfold SV at h;split at h
 ·exact Au ‹_›
 ·exact absurd rfl h
theorem AKk (l:List Tok)(h:KI l≠0):l.tail.length+1=l.length:=by
 unfold KI at h;split at h
 ·exact Au ‹_›
 ·exact absurd rfl h
theorem AHV (f:Bs→Option Int)(l:List Tok)(h:Jd f l≠0):l.tail.length+1=l.length:=by
 unfold Jd at h;split at h
 ·exact Ff ‹_› (by decide)
 ·exact absurd rfl h
theorem AKj (l:List Tok)(h:GI l≠0):l.tail.length+1=l.length:=by
 unfold GI at h;repeat' split at h
 all_goals first
  |exact Au ‹_›
  |exact absurd rfl h
theorem UV {l:List Tok}{v:TValue}(h:KL l=some v):l.tail.length+1=l.length:=by
 unfold KL at h;repeat' split at h
 all_goals first
  |exact Ff ‹_› (by decide)
  |exact Au ‹_›
  |cases h
theorem PU:BP BA Pz:=by
 intro l x r h;unfold Pz at h;split at h
 ·rename_i ht
  simp only [Res.ok.injEq] at h;obtain ⟨rfl,rfl⟩:=h;have:=Ff ht (by decide);simp only [KR,BA,Aj];omega
 ·cases h
theorem Qq {E:Pr Ex}(hE:BP BA E)(n:Nat){acc:List Ex}{l:List Tok}{a:List Ex}{r:List Tok}(h:Es n E acc l= .ok a r):r.length+Aj a+2≤l.length+Aj acc:=by
 obtain ⟨_,q,h1,h2⟩:=bind_ok h;obtain ⟨x,q2,h3,h4⟩:=bind_ok h2;obtain ⟨_,q3,h5,h6⟩:=bind_ok h4;obtain ⟨y,q4,h7,h8⟩:=bind_ok h6;simp only [Res.ok.injEq] at h8;obtain ⟨rfl,rfl⟩:=h8;have c1:=Aq h1;have c2:=hE _ _ _ h3;have c3:=Aq h5;have c4:=hE _ _ _ h7;rw [Cf];simp only [Aj];omega
theorem PT {E:Pr Ex}(hE:BP BA E)(n:Nat):∀(m:Nat) (acc:List Ex) (l:List Tok) (a:List Ex) (r:List Tok),FO n E m acc l= .ok a r→r.length+Aj a≤l.length+Aj acc
 |0,acc,l,a,r,h=>by simp only [FO,Res.ok.injEq] at h;obtain ⟨rfl,rfl⟩:=h;omega
 |m+1,acc,l,a,r,h=>by
  simp only [FO] at h;split at h
  ·obtain ⟨x,q,h1,h2⟩:=bind_ok h;have c1:=Qq hE n h1;have c2:=PT hE n m _ _ _ _ h2;omega
  ·simp only [Res.ok.injEq] at h;obtain ⟨rfl,rfl⟩:=h;omega
theorem ABJ {E:Pr Ex}(hE:BP BA E)(n:Nat):BP BA (JV n E):=by
 intro l x r h;obtain ⟨a,q,h1,h2⟩:=bind_ok h;obtain ⟨a2,q2,h3,h4⟩:=bind_ok h2;obtain ⟨a3,q3,h5,h6⟩:=bind_ok h4;obtain ⟨_,q4,h7,h8⟩:=bind_ok h6;simp only [Res.ok.injEq] at h8;obtain ⟨rfl,rfl⟩:=h8;have c1:=Qq hE n h1;have c2:=PT hE n n _ _ _ _ h3;have c4:=Aq h7;have c3:q3.length+Aj a3≤q2.length+Aj a2:=by
  split at h5
  ·rename_i ht
   obtain ⟨y,q5,g1,g2⟩:=bind_ok h5;simp only [Res.ok.injEq] at g2;obtain ⟨rfl,rfl⟩:=g2;have d1:=hE _ _ _ g1;have d2:=Au ht;rw [Cf];simp only [Aj];omega
  ·simp only [Res.ok.injEq] at h5;obtain ⟨rfl,rfl⟩:=h5;omega
 simp only [Aj] at c1;simp only [exK,BA];omega
theorem ABK {E:Pr Ex}(hE:BP BA E)(n:Nat)(s:Bs):BP BA (EH n E s):=by
 intro l x r h;unfold EH at h;split at h
 ·obtain ⟨a,q,h1,h2⟩:=bind_ok h;simp only [Res.ok.injEq] at h2;obtain ⟨rfl,rfl⟩:=h2;have c1:=Qo hE n _ _ _ h1;simp only at c1
  simp only [exK,BA];omega
 obtain ⟨_,q,h1,h2⟩:=bind_ok h;have c1:=Aq h1;split at h2
 ·obtain ⟨a,q2,h3,h4⟩:=bind_ok h2;obtain ⟨_,q3,h5,h6⟩:=bind_ok h4;simp only [Res.ok.injEq] at h6;obtain ⟨rfl,rfl⟩:=h6;have c2:=hE _ _ _ h3;have c3:=Aq h5;simp only [exK,BA,Aj];omega
 split at h2
 ·rename_i ht
  simp only [Bool.and_eq_true] at ht;have c2:=Au ht.2;obtain ⟨_,q3,h5,h6⟩:=bind_ok h2;simp only [Res.ok.injEq] at h6;obtain ⟨rfl,rfl⟩:=h6;have c3:=Aq h5;simp only [exK,JU,BA,Aj];omega
 ·obtain ⟨a,q2,h3,h4⟩:=bind_ok h2;obtain ⟨_,q3,h5,h6⟩:=bind_ok h4;simp only [Res.ok.injEq] at h6;obtain ⟨rfl,rfl⟩:=h6;have c2:=hE _ _ _ h3;have c3:=Aq h5;have c4:(if isT q [100,105,115,116,105,110,99,116] then q.tail else q).length≤q.length:=by split <;> simp
  simp only [JU,BA,Aj];omega
theorem Wl {E U:Pr Ex}(hE:BP BA E)(hU:BP BA U)(n:Nat):BP BA (HY n E U):=by
 intro l x r h;unfold HY at h;split at h
 ·rename_i ht
  obtain ⟨a,q,h1,h2⟩:=bind_ok h;simp only [Res.ok.injEq] at h2;obtain ⟨rfl,rfl⟩:=h2;have c1:=hU _ _ _ h1;have c2:=Au ht;simp only [exK,BA,Aj];omega
 split at h
 ·rename_i ht
  obtain ⟨a,q,h1,h2⟩:=bind_ok h;obtain ⟨_,q2,h3,h4⟩:=bind_ok h2;simp only [Res.ok.injEq] at h4;obtain ⟨rfl,rfl⟩:=h4;have c1:=hE _ _ _ h1;have c2:=Au ht;have c3:=Aq h3;omega
 split at h
 ·rename_i ht
  have c1:=ABJ hE n _ _ _ h;have c2:=Au ht;omega
 split at h
 ·exact PU _ _ _ h
 split at h
 ·rename_i v hv
  simp only [Res.ok.injEq] at h;obtain ⟨rfl,rfl⟩:=h;have:=UV hv;simp only [KR,BA,Aj];omega
 ·obtain ⟨s,q,h1,h2⟩:=bind_ok h;have c1:=BG _ _ _ h1;simp only at c1
  split at h2
  ·have:=ABK hE n _ _ _ _ h2;omega
  split at h2
  ·rename_i ht
   obtain ⟨c,q2,h3,h4⟩:=bind_ok h2;simp only [Res.ok.injEq] at h4;obtain ⟨rfl,rfl⟩:=h4;have c2:=BG _ _ _ h3;have c3:=Au ht;simp only at c2
   simp only [Qm,BA,Aj];omega
  ·simp only [Res.ok.injEq] at h2;obtain ⟨rfl,rfl⟩:=h2;simp only [Qm,BA,Aj];omega
theorem LW (b:Bool)(x:Ex):BA (UU b x)=BA x+if b then 1 else 0:=by
 cases b
 ·simp [UU]
 ·simp [UU,exK,BA,Aj]
theorem ABF {E S:Pr Ex}(hE:BP BA E)(hS:BP BA S)(n:Nat):BP BA (KF n E S):=by
 intro l x r h;obtain ⟨a,q,h1,h2⟩:=bind_ok h;have c1:=hS _ _ _ h1;simp only at h2
 split at h2
 ·rename_i h0
  obtain ⟨y,q2,h3,h4⟩:=bind_ok h2;simp only [Res.ok.injEq] at h4;obtain ⟨rfl,rfl⟩:=h4;have c2:=hS _ _ _ h3;have c3:=AKj _ h0;simp only [exK,BA,Aj];omega
 split at h2
 ·rename_i ht
  have c2:=Au ht;split at h2
  ·rename_i ht2
   have c3:=Au ht2;obtain ⟨_,q2,h3,h4⟩:=bind_ok h2;simp only [Res.ok.injEq] at h4;obtain ⟨rfl,rfl⟩:=h4;have c4:=Aq h3;simp only [exK,BA,Aj];omega
  ·obtain ⟨_,q2,h3,h4⟩:=bind_ok h2;simp only [Res.ok.injEq] at h4;obtain ⟨rfl,rfl⟩:=h4;have c4:=Aq h3;simp only [exK,BA,Aj];omega
 have cb:(if isT q [110,111,116] then q.tail else q).length+(if isT q [110,111,116] then 1 else 0)=q.length:=by
  cases hn:isT q [110,111,116] with
  |true=>simpa using Au hn
  |false=>simp
 generalize hq:(if isT q [110,111,116] then q.tail else q)=q1 at h2 cb;split at h2
 ·rename_i ht
  have c2:=Au ht;obtain ⟨y,q2,h3,h4⟩:=bind_ok h2;simp only [Res.ok.injEq] at h4;obtain ⟨rfl,rfl⟩:=h4;have c3:=Qo hE n _ _ _ h3;simp only at c3
  rw [LW];simp only [exK,BA,Aj];omega
 split at h2
 ·rename_i ht
  have c2:=Au ht;obtain ⟨y,q2,h3,h4⟩:=bind_ok h2;obtain ⟨_,q3,h5,h6⟩:=bind_ok h4;obtain ⟨z,q4,h7,h8⟩:=bind_ok h6;simp only [Res.ok.injEq] at h8;obtain ⟨rfl,rfl⟩:=h8;have c3:=hS _ _ _ h3;have c4:=Aq h5;have c5:=hS _ _ _ h7;rw [LW];simp only [exK,BA,Aj];omega
 split at h2
 ·rename_i ht
  have c2:=Au ht;obtain ⟨y,q2,h3,h4⟩:=bind_ok h2;simp only [Res.ok.injEq] at h4;obtain ⟨rfl,rfl⟩:=h4;have c3:=hS _ _ _ h3;rw [LW];simp only [exK,BA,Aj];omega
 split at h2
 ·cases h2
 ·simp only [Res.ok.injEq] at h2;obtain ⟨rfl,rfl⟩:=h2;omega
theorem AHi {N Q:Pr Ex}(hN:BP BA N)(hQ:BP BA Q):BP BA (UT N Q):=by
 intro l x r h;unfold UT at h;split at h
 ·rename_i ht
  obtain ⟨y,q2,h3,h4⟩:=bind_ok h;simp only [Res.ok.injEq] at h4;obtain ⟨rfl,rfl⟩:=h4;have c1:=Au ht;have c2:=hN _ _ _ h3;simp only [exK,BA,Aj];omega
 ·exact hQ _ _ _ h
theorem Jj:∀n,BP BA (eP n)∧BP BA (nP n)∧BP BA (uP n)
 |0=>⟨fun l x r h=>by simp [eP,JS] at h,fun l x r h=>by simp [nP,JS] at h,fun l x r h=>by simp [uP,JS] at h⟩
 |n+1=>by
  obtain ⟨hE,hN,hU⟩:=Jj n;have u:=Wl hE hU n;have s:=IE (IE u (AHV OB) n) (AHV Vp) n;have nn:=AHi hN (ABF hE s n);exact ⟨IE (IE nn AKk n) ANb n,nn,u⟩
def pz (x:Ex):Nat:=if x.kind != 0 then BA x else 0
theorem Yp (x:Ex):pz x≤BA x:=by unfold pz;split <;> omega
theorem pz0:pz ex0=0:=rfl
theorem Hl:∀l:List Ex,Aj (l.filter fun x=>x.kind != 0)=(l.map pz).sum
 |[]=>rfl
 |x::l=>by
  simp only [List.filter_cons,List.map_cons,List.sum_cons,pz];cases h:(x.kind != 0) with
  |true=>simp only [if_true,Aj,Hl l]
  |false=>simp only [Bool.false_eq_true,if_false,Hl l];simp
theorem PV {α:Type}{w:α→Nat}{g:Pr α}(hg:BP w g):∀(n:Nat) (acc:List α) (l:List Tok) (x:List α) (r:List Tok),Ce g n acc l= .ok x r→r.length+(x.map w).sum≤l.length+(acc.map w).sum
 |0,acc,l,x,r,h=>by simp only [Ce,Res.ok.injEq] at h;obtain ⟨rfl,rfl⟩:=h;omega
 |n+1,acc,l,x,r,h=>by
  simp only [Ce] at h;split at h
  ·rename_i ht
   obtain ⟨a,q,h1,h2⟩:=bind_ok h;have c1:=hg _ _ _ h1;have c2:=PV hg n _ _ _ _ h2;have c3:=Au ht;simp only [List.map_append,List.map_cons,List.map_nil,List.sum_append,List.sum_cons,List.sum_nil] at c2;omega
  ·simp only [Res.ok.injEq] at h;obtain ⟨rfl,rfl⟩:=h;omega
theorem DZ {α:Type}{w:α→Nat}{g:Pr α}(hg:BP w g)(n:Nat):BP (fun x=>(x.map w).sum) (BO n g):=by
 intro l x r h;obtain ⟨a,q,h1,h2⟩:=bind_ok h;have c1:=hg _ _ _ h1;have c2:=PV hg n _ _ _ _ h2;simp only [List.map_cons,List.map_nil,List.sum_cons,List.sum_nil] at c2;simp only;omega
theorem PS {α:Type}{w:α→Nat}{g:Pr α}(hg:BP w g)(n:Nat):BP (fun x=>(x.map w).sum) (CE n g):=by
 intro l x r h;obtain ⟨_,q,h1,h2⟩:=bind_ok h;obtain ⟨a,q2,h3,h4⟩:=bind_ok h2;obtain ⟨_,q3,h5,h6⟩:=bind_ok h4;simp only [Res.ok.injEq] at h6;obtain ⟨rfl,rfl⟩:=h6;have c1:=Aq h1;have c2:=DZ hg n _ _ _ h3;have c3:=Aq h5;simp only at c2 ⊢;omega
theorem Jk (n:Nat):BP pz (eP n):=fun l x r h=>by
 have:=(Jj n).1 l x r h;have:=Yp x;omega
theorem Fg (n:Nat):BP (fun x=>0 * x.length) (CE n BD):=by
 intro l x r h;have:=PS (w:=fun _=>0) (fun l x r h=>by have:=BG l x r h;simp only at this ⊢;omega) n l x r h;simp only at this ⊢;omega
theorem Fh (n:Nat)(s:Bs):BP pz (Ec n s):=by
 intro l x r h;unfold Ec at h;split at h
 ·have c1:=Jk n _ _ _ h;have c2:=Au ‹_›;omega
 ·simp only [Res.ok.injEq] at h;obtain ⟨rfl,rfl⟩:=h;rw [pz0];omega
theorem ABG (n:Nat):BP (fun x=>pz x.fExpr) (IK n):=by
 intro l x r h;unfold IK at h;split at h
 ·simp only [Res.ok.injEq] at h;obtain ⟨rfl,rfl⟩:=h;have:=Au ‹_›;simp only [pz0];omega
 split at h
 ·simp only [Res.ok.injEq] at h;obtain ⟨rfl,rfl⟩:=h;simp only [pz0,List.length_tail];omega
 ·obtain ⟨y,q,h1,h2⟩:=bind_ok h;have c1:=Jk n _ _ _ h1;split at h2
  ·obtain ⟨a,q2,h3,h4⟩:=bind_ok h2;simp only [Res.ok.injEq] at h4;obtain ⟨rfl,rfl⟩:=h4;have c2:=BG _ _ _ h3;have c3:=Au ‹_›;simp only at c2 ⊢;omega
  ·simp only [Res.ok.injEq] at h2;obtain ⟨rfl,rfl⟩:=h2;exact c1
theorem Wq (n:Nat):BP (fun x=>pz x.fExpr) (Ia n):=by
 intro l x r h;obtain ⟨y,q,h1,h2⟩:=bind_ok h;have c1:=Jk n _ _ _ h1;split at h2
 ·simp only [Res.ok.injEq] at h2;obtain ⟨rfl,rfl⟩:=h2;have:=Au ‹_›;simp only;omega
 split at h2
 ·simp only [Res.ok.injEq] at h2;obtain ⟨rfl,rfl⟩:=h2;have:=Au ‹_›;simp only;omega
 ·simp only [Res.ok.injEq] at h2;obtain ⟨rfl,rfl⟩:=h2;exact c1
theorem AHh (n:Nat):BP (fun x=>pz x.fExpr) (Vz n):=by
 intro l x r h;obtain ⟨s,q,h1,h2⟩:=bind_ok h;obtain ⟨_,q2,h3,h4⟩:=bind_ok h2;obtain ⟨y,q3,h5,h6⟩:=bind_ok h4;simp only [Res.ok.injEq] at h6;obtain ⟨rfl,rfl⟩:=h6;have c1:=BG _ _ _ h1;have c2:=Aq h3;have c3:=Jk n _ _ _ h5;simp only at c1 ⊢;omega
theorem GR:BP (fun x=>pz x.fOn) Cm:=by
 intro l x r h;obtain ⟨s,q,h1,h2⟩:=bind_ok h;have c1:=BG _ _ _ h1;simp only at c1
 split at h2
 ·obtain ⟨a,q2,h3,h4⟩:=bind_ok h2;simp only [Res.ok.injEq] at h4;obtain ⟨rfl,rfl⟩:=h4;have c2:=BG _ _ _ h3;have c3:=Au ‹_›;simp only [pz0] at c2 ⊢;omega
 split at h2
 ·obtain ⟨a,q2,h3,h4⟩:=bind_ok h2;simp only [Res.ok.injEq] at h4;obtain ⟨rfl,rfl⟩:=h4;have c2:=BG _ _ _ h3;simp only [pz0] at c2 ⊢;omega
 ·simp only [Res.ok.injEq] at h2;obtain ⟨rfl,rfl⟩:=h2;simp only [pz0];omega
theorem Lm (n:Nat)(b:Bool):BP (fun x=>pz x.fOn) (Gq n b):=by
 intro l x r h;obtain ⟨_,q,h1,h2⟩:=bind_ok h;obtain ⟨s,q2,h3,h4⟩:=bind_ok h2;obtain ⟨_,q3,h5,h6⟩:=bind_ok h4;obtain ⟨y,q4,h7,h8⟩:=bind_ok h6;simp only [Res.ok.injEq] at h8;obtain ⟨rfl,rfl⟩:=h8;have c1:=Aq h1;have c2:=GR _ _ _ h3;have c3:=Aq h5;have c4:=Jk n _ _ _ h7;simp only at c2 ⊢;omega
theorem PW (n:Nat):∀(m:Nat) (acc:List TSource) (l:List Tok) (x:List TSource) (r:List Tok),DU n m acc l= .ok x r→r.length+(x.map fun x=>pz x.fOn).sum≤l.length+(acc.map fun x=>pz x.fOn).sum
 |0,acc,l,x,r,h=>by simp only [DU,Res.ok.injEq] at h;obtain ⟨rfl,rfl⟩:=h;omega
 |m+1,acc,l,x,r,h=>by
  have one:∀{g:Pr TSource} (_:BP (fun x=>pz x.fOn) g) {l':List Tok},l'.length≤l.length→(g l').bind (fun s r=>DU n m (acc++[s]) r)= .ok x r→r.length+(x.map fun x=>pz x.fOn).sum≤l.length+(acc.map fun x=>pz x.fOn).sum:=by
   intro g hg l' hl h;obtain ⟨a,q,h1,h2⟩:=bind_ok h;have c1:=hg _ _ _ h1;have c2:=PW n m _ _ _ _ h2;simp only [List.map_append,List.map_cons,List.map_nil,List.sum_append,List.sum_cons,List.sum_nil] at c2;simp only at c1;omega
  simp only [DU] at h;split at h
  ·exact one GR (by simp) h
  split at h
  ·obtain ⟨_,q,h1,h2⟩:=bind_ok h;have c1:=Aq h1;have c2:=Au ‹_›;exact one GR (by omega) h2
  split at h
  ·exact one (Lm n true) (by simp) h
  split at h
  ·exact one (Lm n false) (by simp) h
  split at h
  ·exact one (Lm n false) (Nat.le_refl _) h
  ·simp only [Res.ok.injEq] at h;obtain ⟨rfl,rfl⟩:=h;omega
theorem ABH (n:Nat):BP (fun x=>(x.map fun x=>pz x.fOn).sum) (MN n):=by
 intro l x r h;obtain ⟨a,q,h1,h2⟩:=bind_ok h;have c1:=GR _ _ _ h1;have c2:=PW n n _ _ _ _ h2;simp only [List.map_cons,List.map_nil,List.sum_cons,List.sum_nil] at c2;simp only at c1 ⊢;omega
theorem Du {α:Type}{w:α→Nat}{g:Pr α}(hg:BP w g)(s:Bs){d:α}(hd:w d=0):BP w (SQ s d g):=by
 intro l x r h;unfold SQ at h;split at h
 ·have c1:=hg _ _ _ h;have c2:=Au ‹_›;omega
 ·simp only [Res.ok.injEq] at h;obtain ⟨rfl,rfl⟩:=h;omega
theorem Nh {α:Type}{w:α→Nat}{g:Pr α}(hg:BP w g):BP w (byP g):=by
 intro l x r h;obtain ⟨_,q,h1,h2⟩:=bind_ok h;have c1:=Aq h1;have c2:=hg _ _ _ h2;omega
theorem IC:BP (fun _=>0) Fe:=by
 intro l x r h;unfold Fe at h;split at h
 ·simp only [Res.ok.injEq] at h;obtain ⟨_,rfl⟩:=h;simp
 ·cases h
def wQ (q:TSelect):Nat:=(q.fItems.map fun x=>pz x.fExpr).sum+(q.fFrom.map fun x=>pz x.fOn).sum+pz q.fWhere+(q.fGroup.map pz).sum+pz q.fHaving+(q.fOrder.map fun x=>pz x.fExpr).sum
def wS (s:TStmt):Nat:=wQ s.fSelect+pz s.fWhere+((s.fRows.flatten).map pz).sum+(s.fSets.map fun x=>pz x.fExpr).sum+(s.fCols.map fun x=>pz x.fDefault).sum
theorem AGt (s:TStmt):Jc s=wS s+1:=by
 simp only [Jc,Ez,Hl,wS,wQ,List.map_append,List.sum_append,List.map_cons,List.map_nil,List.sum_cons,List.sum_nil,List.map_map,Function.comp_def];omega
theorem Wp (n:Nat):BP wQ (IY n):=by
 intro l x r h;obtain ⟨a1,q1,h1,h⟩:=bind_ok h;obtain ⟨a2,q2,h2,h⟩:=bind_ok h;obtain ⟨a3,q3,h3,h⟩:=bind_ok h;obtain ⟨a4,q4,h4,h⟩:=bind_ok h;obtain ⟨a5,q5,h5,h⟩:=bind_ok h;obtain ⟨a6,q6,h6,h⟩:=bind_ok h;obtain ⟨a7,q7,h7,h⟩:=bind_ok h;obtain ⟨a8,q8,h8,h⟩:=bind_ok h;simp only [Res.ok.injEq] at h;obtain ⟨rfl,rfl⟩:=h;have c1:=DZ (ABG n) n _ _ _ h1;have c2:=Du (ABH n) _ rfl _ _ _ h2;have c3:=Fh n _ _ _ _ h3;have c4:=Du (Nh (DZ (Jk n) n)) _ rfl _ _ _ h4;have c5:=Fh n _ _ _ _ h5;have c6:=Du (Nh (DZ (Wq n) n)) _ rfl _ _ _ h6;have c7:=Du IC _ rfl _ _ _ h7;have c8:=Du IC _ rfl _ _ _ h8;have c0:(if isT l [100,105,115,116,105,110,99,116] then l.tail else l).length≤l.length:=by split <;> simp
 simp only at c1 c2 c4 c6 c7 c8
 simp only [wQ];omega
theorem Ws:BP pz Hy:=by
 intro l x r h;unfold Hy at h;split at h
 ·rename_i v hv
  simp only [Res.ok.injEq] at h;obtain ⟨rfl,rfl⟩:=h;have:=UV hv;have:=Yp (KR v);simp only [KR,BA,Aj] at this;simp only [KR];omega
 split at h
 ·obtain ⟨y,q,h1,h2⟩:=bind_ok h;simp only [Res.ok.injEq] at h2;obtain ⟨rfl,rfl⟩:=h2;have c1:=PU _ _ _ h1;have c2:=Au ‹_›;have:=Yp (exK 4 [y]);simp only [exK,BA,Aj] at this;simp only [exK];omega
 ·have c1:=PU _ _ _ h;have:=Yp x;omega
theorem FM:∀(m:Nat) (c:TCol) (l:List Tok) (y:TCol) (r:List Tok),GH m c l= .ok y r→r.length+pz y.fDefault≤l.length+pz c.fDefault
 |0,c,l,y,r,h=>by simp only [GH,Res.ok.injEq] at h;obtain ⟨rfl,rfl⟩:=h;omega
 |m+1,c,l,y,r,h=>by
  simp only [GH] at h;split at h
  ·obtain ⟨_,q,h1,h2⟩:=bind_ok h;have c1:=Aq h1;have c2:=FM m _ _ _ _ h2;have:l.tail.length≤l.length:=by simp
   simp only at c2;omega
  split at h
  ·obtain ⟨_,q,h1,h2⟩:=bind_ok h;have c1:=Aq h1;have c2:=FM m _ _ _ _ h2;have:l.tail.length≤l.length:=by simp
   simp only at c2;omega
  split at h
  ·have c2:=FM m _ _ _ _ h;have:l.tail.length≤l.length:=by simp
   simp only at c2;omega
  split at h
  ·obtain ⟨x,q,h1,h2⟩:=bind_ok h;have c1:=Ws _ _ _ h1;have c2:=FM m _ _ _ _ h2;have:l.tail.length≤l.length:=by simp
   simp only at c2;omega
  ·simp only [Res.ok.injEq] at h;obtain ⟨rfl,rfl⟩:=h;omega
theorem Un (n:Nat):BP (fun x=>pz x.fDefault) (FH n):=by
 intro l x r h;obtain ⟨s,q,h1,h2⟩:=bind_ok h;have c1:=BG _ _ _ h1;simp only at h2 c1
 generalize (if isK q 1 then typeOf (hd q).text else 0)=t at h2;split at h2
 ·cases h2
 ·have c2:=FM n _ _ _ _ h2;have:q.tail.length≤q.length:=by simp
  simp only [pz0] at c2 ⊢;omega
theorem Qr (n:Nat):∀(m:Nat) (cs:List TCol) (ks:List Bs) (l:List Tok) (x:List TCol×List Bs) (r:List Tok),FQ n m cs ks l= .ok x r→r.length+(x.1.map fun x=>pz x.fDefault).sum≤l.length+(cs.map fun x=>pz x.fDefault).sum
 |0,cs,ks,l,x,r,h=>by simp only [FQ,Res.ok.injEq] at h;obtain ⟨rfl,rfl⟩:=h;exact Nat.le_refl _
 |m+1,cs,ks,l,x,r,h=>by
  simp only [FQ] at h;obtain ⟨a,q,h1,h2⟩:=bind_ok h;have c1:q.length+(a.1.map fun x=>pz x.fDefault).sum≤l.length+(cs.map fun x=>pz x.fDefault).sum:=by
   split at h1
   ·obtain ⟨_,q1,g1,g2⟩:=bind_ok h1;obtain ⟨k,q2,g3,g4⟩:=bind_ok g2;simp only [Res.ok.injEq] at g4;obtain ⟨rfl,rfl⟩:=g4;have d1:=Aq g1;have d2:=Fg n _ _ _ g3;have:l.tail.length≤l.length:=by simp
    simp only at d2 ⊢;omega
   ·obtain ⟨c,q1,g1,g2⟩:=bind_ok h1;simp only [Res.ok.injEq] at g2;obtain ⟨rfl,rfl⟩:=g2;have d1:=Un n _ _ _ g1;simp only [List.map_append,List.map_cons,List.map_nil,List.sum_append,List.sum_cons,List.sum_nil] at d1 ⊢;omega
  split at h2
  ·have c2:=Qr n m _ _ _ _ _ h2;have:q.tail.length≤q.length:=by simp
   omega
  ·simp only [Res.ok.injEq] at h2;obtain ⟨rfl,rfl⟩:=h2;exact c1
theorem Wn (n:Nat):BP wS (RH n):=by
 intro l x r h;obtain ⟨s,q,h1,h⟩:=bind_ok h;obtain ⟨_,q2,h2,h⟩:=bind_ok h;obtain ⟨y,q3,h3,h⟩:=bind_ok h;have c1:=BG _ _ _ h1;have c2:=Aq h2;have c3:=Qr n _ _ _ _ _ _ h3;simp only [List.map_nil,List.sum_nil] at c3;split at h
 ·cases h
 ·obtain ⟨_,q4,h4,h⟩:=bind_ok h;simp only [Res.ok.injEq] at h;obtain ⟨rfl,rfl⟩:=h;have c4:=Aq h4;have:wS {(default:TStmt) with fKind:=5,fTable:=s,fCols:=y.1,fKey:=y.2}=(y.1.map fun x=>pz x.fDefault).sum:=by
   show 0+0+0+0+(y.1.map fun x=>pz x.fDefault).sum=_;simp
  rw [this];simp only at c1;omega
theorem TZ:∀(l:List (List Ex)),(l.flatten.map pz).sum=(l.map fun x=>(x.map pz).sum).sum
 |[]=>rfl
 |x::l=>by simp only [List.flatten_cons,List.map_append,List.sum_append,List.map_cons,List.sum_cons,TZ l]
theorem wS0 {s:TStmt}(h1:s.fSelect=default)(h2:s.fWhere=ex0)(h3:s.fRows=[])(h4:s.fSets=[])(h5:s.fCols=[]):wS s=0:=by
 simp only [wS,h1,h2,h3,h4,h5];rfl
theorem leW {a b:Nat}{s:TStmt}(h0:wS s=0)(h:a+1≤b):a+(fun s=>wS s+1) s≤b:=by simp only [h0];omega
theorem TB {l r:List Tok}{n:Nat}(h:r.length+n≤l.length):r.length≤l.length:=by omega
theorem Qs (n:Nat):BP (fun s=>wS s+1) (EL n):=by
 intro l x r h;unfold EL at h;split at h
 ·obtain ⟨q,r1,h1,h2⟩:=bind_ok h;simp only [Res.ok.injEq] at h2;obtain ⟨rfl,rfl⟩:=h2;have c1:=Wp n _ _ _ h1;have c2:=Au ‹_›;have:wS {(default:TStmt) with fKind:=1,fSelect:=q}=wQ q:=by show wQ q+0+0+0+0=_;simp
  simp only [this];omega
 split at h
 ·have c0:=Au ‹_›;obtain ⟨_,r1,h1,h⟩:=bind_ok h;obtain ⟨s,r2,h2,h⟩:=bind_ok h;obtain ⟨c,r3,h3,h⟩:=bind_ok h;obtain ⟨_,r4,h4,h⟩:=bind_ok h;obtain ⟨y,r5,h5,h⟩:=bind_ok h;simp only [Res.ok.injEq] at h;obtain ⟨rfl,rfl⟩:=h;have c1:=Aq h1;have c2:=BG _ _ _ h2;have c3:r3.length≤r2.length:=by
   split at h3
   ·exact TB (Fg n _ _ _ h3)
   ·simp only [Res.ok.injEq] at h3;obtain ⟨rfl,rfl⟩:=h3;exact Nat.le_refl _
  have c4:=Aq h4;have c5:=DZ (PS (Jk n) n) n _ _ _ h5;have:wS {(default:TStmt) with fKind:=2,fTable:=s,fColumns:=c,fRows:=y}=(y.flatten.map pz).sum:=by show 0+0+(y.flatten.map pz).sum+0+0=_;simp
  simp only at c2 c5
  simp only [this,TZ];omega
 split at h
 ·have c0:=Au ‹_›;obtain ⟨s,r1,h1,h⟩:=bind_ok h;obtain ⟨_,r2,h2,h⟩:=bind_ok h;obtain ⟨y,r3,h3,h⟩:=bind_ok h;obtain ⟨z,r4,h4,h⟩:=bind_ok h;simp only [Res.ok.injEq] at h;obtain ⟨rfl,rfl⟩:=h;have c1:=BG _ _ _ h1;have c2:=Aq h2;have c3:=DZ (AHh n) n _ _ _ h3;have c4:=Fh n _ _ _ _ h4;have:wS {(default:TStmt) with fKind:=3,fTable:=s,fSets:=y,fWhere:=z}=pz z+(y.map fun x=>pz x.fExpr).sum:=by show 0+pz z+0+(y.map fun x=>pz x.fExpr).sum+0=_;simp
  simp only at c1 c3
  simp only [this];omega
 split at h
 ·have c0:=Au ‹_›;obtain ⟨_,r1,h1,h⟩:=bind_ok h;obtain ⟨s,r2,h2,h⟩:=bind_ok h;obtain ⟨z,r3,h3,h⟩:=bind_ok h;simp only [Res.ok.injEq] at h;obtain ⟨rfl,rfl⟩:=h;have c1:=Aq h1;have c2:=BG _ _ _ h2;have c3:=Fh n _ _ _ _ h3;have:wS {(default:TStmt) with fKind:=4,fTable:=s,fWhere:=z}=pz z:=by show 0+pz z+0+0+0=_;simp
  simp only at c2
  simp only [this];omega
 split at h
 ·have c0:=Au ‹_›;unfold GN at h;split at h
  ·have c1:=Wn n _ _ _ h;have:l.tail.tail.length≤l.tail.length:=by simp
   simp only;omega
  ·obtain ⟨_,r1,h1,h⟩:=bind_ok h;obtain ⟨a,r2,h2,h⟩:=bind_ok h;obtain ⟨_,r3,h3,h⟩:=bind_ok h;obtain ⟨t,r4,h4,h⟩:=bind_ok h;obtain ⟨c,r5,h5,h⟩:=bind_ok h;simp only [Res.ok.injEq] at h;obtain ⟨rfl,rfl⟩:=h;have c1:=Aq h1;have c2:=BG _ _ _ h2;have c3:=Aq h3;have c4:=BG _ _ _ h4;have c5:=TB (Fg n _ _ _ h5);have c6:(if isT l.tail [117,110,105,113,117,101] then l.tail.tail else l.tail).length≤l.tail.length:=by split <;> simp
   refine leW (wS0 rfl rfl rfl rfl rfl) ?_;simp only at c2 c4;omega
 split at h
 ·have c0:=Au ‹_›;unfold GM at h;split at h
  ·obtain ⟨s,r1,h1,h⟩:=bind_ok h;simp only [Res.ok.injEq] at h;obtain ⟨rfl,rfl⟩:=h;have c1:=BG _ _ _ h1;have:l.tail.tail.length≤l.tail.length:=by simp
   refine leW (wS0 rfl rfl rfl rfl rfl) ?_;simp only at c1;omega
  ·obtain ⟨_,r1,h1,h⟩:=bind_ok h;obtain ⟨s,r2,h2,h⟩:=bind_ok h;simp only [Res.ok.injEq] at h;obtain ⟨rfl,rfl⟩:=h;have c1:=Aq h1;have c2:=BG _ _ _ h2;refine leW (wS0 rfl rfl rfl rfl rfl) ?_;simp only at c2;omega
 split at h
 ·have c0:=Au ‹_›;simp only [Res.ok.injEq] at h;obtain ⟨rfl,rfl⟩:=h;refine leW (wS0 rfl rfl rfl rfl rfl) ?_;omega
 split at h
 ·have c0:=Au ‹_›;simp only [Res.ok.injEq] at h;obtain ⟨rfl,rfl⟩:=h;refine leW (wS0 rfl rfl rfl rfl rfl) ?_;omega
 ·obtain ⟨_,r1,h1,h⟩:=bind_ok h;simp only [Res.ok.injEq] at h;obtain ⟨rfl,rfl⟩:=h;have c1:=Aq h1;refine leW (wS0 rfl rfl rfl rfl rfl) ?_;omega
theorem Ji (n:Nat):∀(m:Nat) (acc:List TStmt) (l:List Tok) (x:List TStmt) (r:List Tok),Cb n m acc l= .ok x r→BJ x≤l.length+BJ acc
 |0,acc,l,x,r,h=>by simp only [Cb,Res.ok.injEq] at h;obtain ⟨rfl,rfl⟩:=h;omega
 |m+1,acc,l,x,r,h=>by
  simp only [Cb] at h;split at h
  ·simp only [Res.ok.injEq] at h;obtain ⟨rfl,rfl⟩:=h;omega
  split at h
  ·have:=Ji n m _ _ _ _ h;have:l.tail.length≤l.length:=by simp
   omega
  ·obtain ⟨s,q,h1,h2⟩:=bind_ok h;have c1:=Qs n _ _ _ h1;simp only at c1
   split at h2
   ·have c2:=Ji n m _ _ _ _ h2;simp only [BJ,List.map_append,List.map_cons,List.map_nil,List.sum_append,List.sum_cons,List.sum_nil,AGt] at c2 ⊢;omega
   ·cases h2
theorem JX (n:Nat):∀(f:Nat) (acc:List Tok) (s:Bs) (l:List Tok),IQ n f acc s= .toks l→l.length≤acc.length+f
 |0,acc,s,l,h=>by simp only [IQ,LexA.toks.injEq] at h;subst h;omega
 |f+1,acc,s,l,h=>by
  simp only [IQ] at h;split at h
  ·simp only [LexA.toks.injEq] at h;subst h;simp
  ·split at h
   ·cases h
   ·have:=JX n f _ _ _ h;simp at this;omega
theorem WI (s:Bs):BJ (readA s).1≤s.length+1:=by
 unfold readA;split
 ·simp [BJ]
 ·rename_i l hl
  have hc:=JX _ _ _ _ _ hl;split
  ·rename_i x r hx
   have:=Ji _ _ _ _ _ _ hx;simp [BJ] at this hc ⊢;omega
  ·simp [BJ]
def cQ (q:TSelect):Nat:=q.fItems.length+q.fFrom.length+q.fGroup.length+q.fOrder.length
def cS (s:TStmt):Nat:=cQ s.fSelect+(s.fRows.flatten.length+s.fRows.length)+s.fSets.length+s.fCols.length
theorem AJD {α:Type}(l:List α):(l.map fun _=>1).sum=l.length:=by
 induction l with
 |nil=>rfl
 |cons x l ih=>simp only [List.map_cons,List.sum_cons,ih,List.length_cons];omega
theorem Ic {α:Type}{g:Pr α}(hg:BP (fun _=>1) g)(n:Nat):BP List.length (BO n g):=fun l x r h=>by
 have:=DZ hg n l x r h;simp only [AJD] at this;exact this
theorem Qc (n:Nat):BP (fun _=>1) (eP n):=fun l x r h=>by
 have:=(Jj n).1 l x r h;have:1≤BA x:=by cases x;simp [BA]
 simp only;omega
theorem UW (n:Nat)(s:Bs):BP (fun _=>0) (Ec n s):=fun l x r h=>by
 have:=Fh n s l x r h;simp only;omega
theorem AGy (n:Nat):BP (fun _=>1) (IK n):=by
 intro l x r h;unfold IK at h;split at h
 ·simp only [Res.ok.injEq] at h;obtain ⟨rfl,rfl⟩:=h;have:=Au ‹_›;simp only;omega
 split at h
 ·rename_i hb
  simp only [Bool.and_eq_true] at hb;have:=Ff hb.1.1.1.1 (by decide);simp only [Res.ok.injEq] at h;obtain ⟨rfl,rfl⟩:=h;simp only [List.length_tail] at this ⊢;omega
 ·obtain ⟨y,q,h1,h2⟩:=bind_ok h;have c1:=Qc n _ _ _ h1;split at h2
  ·obtain ⟨a,q2,h3,h4⟩:=bind_ok h2;simp only [Res.ok.injEq] at h4;obtain ⟨rfl,rfl⟩:=h4;have c2:=BG _ _ _ h3;have c3:=Au ‹_›;simp only at c1 c2 ⊢;omega
  ·simp only [Res.ok.injEq] at h2;obtain ⟨rfl,rfl⟩:=h2;exact c1
theorem AAa (n:Nat):BP (fun _=>1) (Ia n):=by
 intro l x r h;obtain ⟨y,q,h1,h2⟩:=bind_ok h;have c1:=Qc n _ _ _ h1;simp only at c1
 split at h2
 ·simp only [Res.ok.injEq] at h2;obtain ⟨rfl,rfl⟩:=h2;have:=Au ‹_›;simp only;omega
 split at h2
 ·simp only [Res.ok.injEq] at h2;obtain ⟨rfl,rfl⟩:=h2;have:=Au ‹_›;simp only;omega
 ·simp only [Res.ok.injEq] at h2;obtain ⟨rfl,rfl⟩:=h2;exact c1
theorem one_set (n:Nat):BP (fun _=>1) (Vz n):=by
 intro l x r h;obtain ⟨s,q,h1,h2⟩:=bind_ok h;obtain ⟨_,q2,h3,h4⟩:=bind_ok h2;obtain ⟨y,q3,h5,h6⟩:=bind_ok h4;simp only [Res.ok.injEq] at h6;obtain ⟨rfl,rfl⟩:=h6;have c1:=BG _ _ _ h1;have c2:=Aq h3;have c3:=Qc n _ _ _ h5;simp only at c1 c3 ⊢;omega
theorem Hr:BP (fun _=>1) Cm:=by
 intro l x r h;obtain ⟨s,q,h1,h2⟩:=bind_ok h;have c1:=BG _ _ _ h1;simp only at c1
 split at h2
 ·obtain ⟨a,q2,h3,h4⟩:=bind_ok h2;simp only [Res.ok.injEq] at h4;obtain ⟨rfl,rfl⟩:=h4;have c2:=BG _ _ _ h3;have c3:=Au ‹_›;simp only at c2 ⊢;omega
 split at h2
 ·obtain ⟨a,q2,h3,h4⟩:=bind_ok h2;simp only [Res.ok.injEq] at h4;obtain ⟨rfl,rfl⟩:=h4;have c2:=BG _ _ _ h3;simp only at c2 ⊢;omega
 ·simp only [Res.ok.injEq] at h2;obtain ⟨rfl,rfl⟩:=h2;simp only;omega
theorem Og (n:Nat)(b:Bool):BP (fun _=>1) (Gq n b):=by
 intro l x r h;obtain ⟨_,q,h1,h2⟩:=bind_ok h;obtain ⟨s,q2,h3,h4⟩:=bind_ok h2;obtain ⟨_,q3,h5,h6⟩:=bind_ok h4;obtain ⟨y,q4,h7,h8⟩:=bind_ok h6;simp only [Res.ok.injEq] at h8;obtain ⟨rfl,rfl⟩:=h8;have c1:=Aq h1;have c2:=Hr _ _ _ h3;have c3:=Aq h5;have c4:=Qc n _ _ _ h7;simp only at c2 c4 ⊢;omega
theorem Qb (n:Nat):∀(m:Nat) (acc:List TSource) (l:List Tok) (x:List TSource) (r:List Tok),DU n m acc l= .ok x r→r.length+x.length≤l.length+acc.length
 |0,acc,l,x,r,h=>by simp only [DU,Res.ok.injEq] at h;obtain ⟨rfl,rfl⟩:=h;omega
 |m+1,acc,l,x,r,h=>by
  have one:∀{g:Pr TSource} (_:BP (fun _=>1) g) {l':List Tok},l'.length≤l.length→(g l').bind (fun s r=>DU n m (acc++[s]) r)= .ok x r→r.length+x.length≤l.length+acc.length:=by
   intro g hg l' hl h;obtain ⟨a,q,h1,h2⟩:=bind_ok h;have c1:=hg _ _ _ h1;have c2:=Qb n m _ _ _ _ h2;simp only [List.length_append,List.length_cons,List.length_nil] at c2;simp only at c1;omega
  simp only [DU] at h;split at h
  ·exact one Hr (by simp) h
  split at h
  ·obtain ⟨_,q,h1,h2⟩:=bind_ok h;have c1:=Aq h1;have c2:=Au ‹_›;exact one Hr (by omega) h2
  split at h
  ·exact one (Og n true) (by simp) h
  split at h
  ·exact one (Og n false) (by simp) h
  split at h
  ·exact one (Og n false) (Nat.le_refl _) h
  ·simp only [Res.ok.injEq] at h;obtain ⟨rfl,rfl⟩:=h;omega
theorem AGz (n:Nat):BP List.length (MN n):=by
 intro l x r h;obtain ⟨a,q,h1,h2⟩:=bind_ok h;have c1:=Hr _ _ _ h1;have c2:=Qb n n _ _ _ _ h2;simp only [List.length_cons,List.length_nil] at c2;simp only at c1;omega
theorem ABM (n:Nat):BP cQ (IY n):=by
 intro l x r h;obtain ⟨a1,q1,h1,h⟩:=bind_ok h;obtain ⟨a2,q2,h2,h⟩:=bind_ok h;obtain ⟨a3,q3,h3,h⟩:=bind_ok h;obtain ⟨a4,q4,h4,h⟩:=bind_ok h;obtain ⟨a5,q5,h5,h⟩:=bind_ok h;obtain ⟨a6,q6,h6,h⟩:=bind_ok h;obtain ⟨a7,q7,h7,h⟩:=bind_ok h;obtain ⟨a8,q8,h8,h⟩:=bind_ok h;simp only [Res.ok.injEq] at h;obtain ⟨rfl,rfl⟩:=h;have c1:=Ic (AGy n) n _ _ _ h1;have c2:=Du (AGz n) _ rfl _ _ _ h2;have c3:=UW n _ _ _ _ h3;have c4:=Du (Nh (Ic (Qc n) n)) _ rfl _ _ _ h4;have c5:=UW n _ _ _ _ h5;have c6:=Du (Nh (Ic (AAa n) n)) _ rfl _ _ _ h6;have c7:=Du IC _ rfl _ _ _ h7;have c8:=Du IC _ rfl _ _ _ h8;have c0:(if isT l [100,105,115,116,105,110,99,116] then l.tail else l).length≤l.length:=by split <;> simp
 simp only at c1 c2 c3 c4 c5 c6 c7 c8
 simp only [cQ];omega
theorem WN (n:Nat):BP (fun _=>1) (FH n):=by
 intro l x r h;obtain ⟨s,q,h1,h2⟩:=bind_ok h;have c1:=BG _ _ _ h1;simp only at h2 c1
 generalize (if isK q 1 then typeOf (hd q).text else 0)=t at h2;split at h2
 ·cases h2
 ·have c2:=FM n _ _ _ _ h2;have:q.tail.length≤q.length:=by simp
  simp only [pz0] at c2 ⊢;omega
theorem UQ (n:Nat):∀(m:Nat) (cs:List TCol) (ks:List Bs) (l:List Tok) (x:List TCol×List Bs) (r:List Tok),FQ n m cs ks l= .ok x r→r.length+x.1.length≤l.length+cs.length
 |0,cs,ks,l,x,r,h=>by simp only [FQ,Res.ok.injEq] at h;obtain ⟨rfl,rfl⟩:=h;exact Nat.le_refl _
 |m+1,cs,ks,l,x,r,h=>by
  simp only [FQ] at h;obtain ⟨a,q,h1,h2⟩:=bind_ok h;have c1:q.length+a.1.length≤l.length+cs.length:=by
   split at h1
   ·obtain ⟨_,q1,g1,g2⟩:=bind_ok h1;obtain ⟨k,q2,g3,g4⟩:=bind_ok g2;simp only [Res.ok.injEq] at g4;obtain ⟨rfl,rfl⟩:=g4;have d1:=Aq g1;have d2:=Fg n _ _ _ g3;have:l.tail.length≤l.length:=by simp
    simp only at d2 ⊢;omega
   ·obtain ⟨c,q1,g1,g2⟩:=bind_ok h1;simp only [Res.ok.injEq] at g2;obtain ⟨rfl,rfl⟩:=g2;have d1:=WN n _ _ _ g1;simp only [List.length_append,List.length_cons,List.length_nil] at d1 ⊢;omega
  split at h2
  ·have c2:=UQ n m _ _ _ _ _ h2;have:q.tail.length≤q.length:=by simp
   omega
  ·simp only [Res.ok.injEq] at h2;obtain ⟨rfl,rfl⟩:=h2;exact c1
theorem cS0 {s:TStmt}(h1:s.fSelect=default)(h3:s.fRows=[])(h4:s.fSets=[])(h5:s.fCols=[]):cS s=0:=by
 simp only [cS,h1,h3,h4,h5];rfl
theorem ALD {s:TStmt}(h1:s.fSelect=default)(h4:s.fSets=[])(h5:s.fCols=[]):cS s=s.fRows.flatten.length+s.fRows.length:=by
 simp only [cS,h1,h4,h5];show 0+_+0+0=_;simp
theorem ALC {s:TStmt}(h1:s.fSelect=default)(h3:s.fRows=[])(h5:s.fCols=[]):cS s=s.fSets.length:=by
 simp only [cS,h1,h3,h5];show 0+0+_+0=_;simp
theorem ALE {s:TStmt}(h1:s.fSelect=default)(h3:s.fRows=[])(h4:s.fSets=[]):cS s=s.fCols.length:=by
 simp only [cS,h1,h3,h4];show 0+0+0+_=_;simp
theorem APv {s:TStmt}(h3:s.fRows=[])(h4:s.fSets=[])(h5:s.fCols=[]):cS s=cQ s.fSelect:=by
 simp only [cS,h3,h4,h5];show _+0+0+0=_;simp
theorem Qg {α:Type}:∀l:List (List α),(l.map fun x=>x.length+1).sum=l.flatten.length+l.length
 |[]=>rfl
 |x::l=>by simp only [List.flatten_cons,List.length_append,List.map_cons,List.sum_cons,Qg l,List.length_cons];omega
theorem AAZ {α:Type}{g:Pr α}(hg:BP (fun _=>1) g)(n:Nat):BP (fun x=>x.length+1) (CE n g):=by
 intro l x r h;obtain ⟨_,q,h1,h2⟩:=bind_ok h;obtain ⟨a,q2,h3,h4⟩:=bind_ok h2;obtain ⟨_,q3,h5,h6⟩:=bind_ok h4;simp only [Res.ok.injEq] at h6;obtain ⟨rfl,rfl⟩:=h6;have c1:=Aq h1;have c2:=Ic hg n _ _ _ h3;have c3:=Aq h5;simp only;omega
theorem AHk {n:Nat}{l r:List Tok}{x:TStmt}(h:EL n l= .ok x r):r.length≤l.length∧cS x≤l.length:=by
 have hle:r.length≤l.length:=by have:=Qs n _ _ _ h;omega
 refine ⟨hle,?_⟩;unfold EL at h;split at h
 ·obtain ⟨q,r1,h1,h2⟩:=bind_ok h;simp only [Res.ok.injEq] at h2;obtain ⟨rfl,rfl⟩:=h2;have c1:=ABM n _ _ _ h1;rw [APv rfl rfl rfl];simp only [List.length_tail] at c1 ⊢;omega
 split at h
 ·obtain ⟨_,r1,h1,h⟩:=bind_ok h;obtain ⟨s,r2,h2,h⟩:=bind_ok h;obtain ⟨c,r3,h3,h⟩:=bind_ok h;obtain ⟨_,r4,h4,h⟩:=bind_ok h;obtain ⟨y,r5,h5,h⟩:=bind_ok h;simp only [Res.ok.injEq] at h;obtain ⟨rfl,rfl⟩:=h;have c1:=Aq h1;have c2:=BG _ _ _ h2;have c3:r3.length≤r2.length:=by
   split at h3
   ·exact TB (Fg n _ _ _ h3)
   ·simp only [Res.ok.injEq] at h3;obtain ⟨rfl,rfl⟩:=h3;exact Nat.le_refl _
  have c4:=Aq h4;have c5:=DZ (AAZ (Qc n) n) n _ _ _ h5;rw [ALD rfl rfl rfl,←Qg];simp only [List.length_tail] at c1 c2 c5 ⊢;omega
 split at h
 ·obtain ⟨s,r1,h1,h⟩:=bind_ok h;obtain ⟨_,r2,h2,h⟩:=bind_ok h;obtain ⟨y,r3,h3,h⟩:=bind_ok h;obtain ⟨z,r4,h4,h⟩:=bind_ok h;simp only [Res.ok.injEq] at h;obtain ⟨rfl,rfl⟩:=h;have c1:=BG _ _ _ h1;have c2:=Aq h2;have c3:=Ic (one_set n) n _ _ _ h3;rw [ALC rfl rfl rfl];simp only [List.length_tail] at c1 ⊢;omega
 split at h
 ·obtain ⟨_,r1,h1,h⟩:=bind_ok h;obtain ⟨s,r2,h2,h⟩:=bind_ok h;obtain ⟨z,r3,h3,h⟩:=bind_ok h;simp only [Res.ok.injEq] at h;obtain ⟨rfl,rfl⟩:=h;rw [cS0 rfl rfl rfl rfl];omega
 split at h
 ·unfold GN at h;split at h
  ·obtain ⟨s,q,h1,h⟩:=bind_ok h;obtain ⟨_,q2,h2,h⟩:=bind_ok h;obtain ⟨y,q3,h3,h⟩:=bind_ok h;have c1:=BG _ _ _ h1;have c2:=Aq h2;have c3:=UQ n _ _ _ _ _ _ h3;split at h
   ·cases h
   ·obtain ⟨_,q4,h4,h⟩:=bind_ok h;simp only [Res.ok.injEq] at h;obtain ⟨rfl,rfl⟩:=h;rw [ALE rfl rfl rfl];simp only [List.length_tail,List.length_nil] at c1 c3 ⊢;omega
  ·obtain ⟨_,q1,h1,h⟩:=bind_ok h;obtain ⟨_,q2,h2,h⟩:=bind_ok h;obtain ⟨_,q3,h3,h⟩:=bind_ok h;obtain ⟨_,q4,h4,h⟩:=bind_ok h;obtain ⟨_,q5,h5,h⟩:=bind_ok h;simp only [Res.ok.injEq] at h;obtain ⟨rfl,rfl⟩:=h;rw [cS0 rfl rfl rfl rfl];omega
 split at h
 ·unfold GM at h;split at h
  ·obtain ⟨_,q1,h1,h⟩:=bind_ok h;simp only [Res.ok.injEq] at h;obtain ⟨rfl,rfl⟩:=h;rw [cS0 rfl rfl rfl rfl];omega
  ·obtain ⟨_,q1,h1,h⟩:=bind_ok h;obtain ⟨_,q2,h2,h⟩:=bind_ok h;simp only [Res.ok.injEq] at h;obtain ⟨rfl,rfl⟩:=h;rw [cS0 rfl rfl rfl rfl];omega
 split at h
 ·simp only [Res.ok.injEq] at h;obtain ⟨rfl,rfl⟩:=h;rw [cS0 rfl rfl rfl rfl];omega
 split at h
 ·simp only [Res.ok.injEq] at h;obtain ⟨rfl,rfl⟩:=h;rw [cS0 rfl rfl rfl rfl];omega
 ·obtain ⟨_,q1,h1,h⟩:=bind_ok h;simp only [Res.ok.injEq] at h;obtain ⟨rfl,rfl⟩:=h;rw [cS0 rfl rfl rfl rfl];omega
theorem Lr (n:Nat):∀(m:Nat) (acc:List TStmt) (l:List Tok) (x:List TStmt) (r:List Tok),Cb n m acc l= .ok x r→∀s∈x,s∈acc∨cS s≤l.length
 |0,acc,l,x,r,h,s,hs=>by simp only [Cb,Res.ok.injEq] at h;obtain ⟨rfl,rfl⟩:=h;exact .inl hs
 |m+1,acc,l,x,r,h,s,hs=>by
  simp only [Cb] at h;split at h
  ·simp only [Res.ok.injEq] at h;obtain ⟨rfl,rfl⟩:=h;exact .inl hs
  split at h
  ·have:=Lr n m _ _ _ _ h s hs;simp only [List.length_tail] at this;exact this.imp id (fun h=>by omega)
  ·obtain ⟨s',q,h1,h2⟩:=bind_ok h;have c1:=AHk h1;split at h2
   ·rcases Lr n m _ _ _ _ h2 s hs with h|h
    ·rcases List.mem_append.1 h with h|h
     ·exact .inl h
     ·rw [List.mem_singleton.1 h];exact .inr c1.2
    ·exact .inr (by omega)
   ·cases h2
theorem AHl (s:Bs):∀x∈(readA s).1,cS x≤s.length+1:=by
 unfold readA;split
 ·intro x hx;cases hx
 ·rename_i l hl
  have hc:=JX _ _ _ _ _ hl;split
  ·rename_i x r hx
   intro y hy;rcases Lr _ _ _ _ _ _ hx y hy with h|h
   ·cases h
   ·simp at hc;omega
  ·intro x hx;cases hx
theorem AGs (l:List TStmt):l.length≤BJ l:=by
 induction l with
 |nil=>exact Nat.zero_le _
 |cons s l ih=>simp only [BJ,List.map_cons,List.sum_cons,List.length_cons,Jc] at *; omega
theorem MI (t:Bs):(DY t).1.length≤2000:=by
 unfold DY;split
 ·simp
 split
 ·simp
 split
 ·simp
 ·rename_i h
  have:=AGs (readA t).1;unfold Sl at h;simp only [] at h ⊢;split at h
  ·simp at h
  split at h
  ·simp at h
  ·show (readA t).1.length≤2000;omega
theorem Qk {b:Bs}{head:Nat}{least most:Int}(h:(GZ b head least most).2=0):least≤(GZ b head least most).1∧(head:Int)+(GZ b head least most).1≤b.length:=by
 unfold GZ at h ⊢;split at h
 ·simp at h
 ·rename_i h0
  rw [if_neg h0];simp only at h ⊢
  split at h
  ·simp at h
  split at h
  ·simp at h
  split at h
  ·simp at h
  ·rename_i h1 h2 h3
   rw [if_neg h1,if_neg h2,if_neg h3];simp only
   omega
theorem AAr (c:Bool)(q:Int×Int)(o:TFront×Int)(h0:Int)(h:(if c then (({},0,230):TFront×Int×Int) else if q.2 != 0 then ({},0,q.2) else if o.2 != 0 then ({},0,o.2) else (o.1,h0+q.1,0)).2.2=0):
  (if c then (({},0,230):TFront×Int×Int) else if q.2 != 0 then ({},0,q.2) else if o.2 != 0 then ({},0,o.2) else (o.1,h0+q.1,0)).2.1=h0+q.1∧q.2=0:=by
 obtain ⟨q1,q2⟩:=q;obtain ⟨o1,o2⟩:=o;cases c with
 |true=>simp at h
 |false=>
  by_cases h1:q2=0
  ·subst h1;by_cases h2:o2=0
   ·subst h2;simp
   ·simp [h2] at h
  ·simp [h1] at h
theorem Ov {b:Bs}{st:Bool}(h:(Bo b st).2.2=0):1≤(Bo b st).2.1∧(Bo b st).2.1≤b.length:=by
 unfold Bo at h ⊢;obtain ⟨h1,h2⟩:=AAr _ _ _ _ h;rw [h1];have hp:=Qk h2;cases st <;> simp at hp ⊢ <;> omega
theorem AAq (st:Bool):(Bo [] st).2.2=10:=by cases st <;> simp [Bo,GZ]
def mu (s:Ses):Nat:=s.left.length * 2010+s.stmts.length+(if s.query then 1 else 0)
theorem BH (s:Ses)(l:List TBack):(BV s l).left=s.left∧(BV s l).stmts=s.stmts∧(BV s l).query=s.query∧(BV s l).kind=s.kind∧(BV s l).status=s.status∧(BV s l).ended=s.ended:=by
 unfold BV;split <;> exact ⟨rfl,rfl,rfl,rfl,rfl,rfl⟩
theorem ES (s:Ses)(l:List TBack):mu (BV s l)=mu s:=by
 obtain ⟨h1,h2,h3,_⟩:=BH s l;unfold mu;rw [h1,h2,h3]
theorem WQ (s:Ses):mu (Jg s)=0:=by simp [mu,Jg]
theorem ANR (s:Ses)(f:TFront):mu (LY s f)≤s.left.length * 2010+max s.stmts.length 2000+1:=by
 have hq:(if s.query=true then 1 else 0:Nat)≤1:=by split <;> omega
 unfold LY;split
 ·rw [ES];unfold mu;omega
 split
 ·rw [WQ];omega
 split
 ·unfold Jf;rw [ES];simp only [mu];omega
 split
 ·unfold XD;have hl:=MI f.fText;split
  ·have hb:∀t:Ses,mu (Dw t)≤t.left.length * 2010+1:=by
    intro t;have hq:(if t.query=true then 1 else 0:Nat)≤1:=by split <;> omega
    unfold Dw mu;split <;> simp <;> omega
   refine Nat.le_trans (hb _) ?_;unfold Dt;rw [(BH _ _).1];simp only;omega
  split
  ·rename_i h1 h2
   simp only [mu];rw [(BH _ _).1,(BH _ _).2.2.1];simp only [if_true];omega
  ·simp only [mu,if_true];omega
 ·rw [WQ];omega
theorem AKd (s:Ses)(x:TStmt):mu (Gn s x)≤mu s:=by
 unfold Gn;split
 ·split
  ·unfold Eu;rw [ES];exact Nat.le_refl _
  ·have h:=ES s [{fKind:=9,fState:=[50,53,80,48,50],fText:=[116,104,101,32,116,114,97,110,115,97,99,116,105,111,110,32,104,97,115,32,102,97,105,108,101,100]}];simp only [mu] at h ⊢;simp only [List.length_nil];omega
 split
 ·unfold KT;split
  ·exact Nat.le_refl _
  ·unfold Eu;rw [ES];exact Nat.le_refl _
 split
 ·unfold KT;split
  ·exact Nat.le_refl _
  ·unfold Eu;rw [ES];exact Nat.le_refl _
 split
 ·unfold KT;split
  ·exact Nat.le_refl _
  ·unfold Eu;rw [ES];exact Nat.le_refl _
 ·exact Nat.le_refl _
theorem IW {s t:Ses}(h:DC s=some t):mu t < mu s:=by
 unfold DC at h;split at h
 ·cases h
 split at h
 ·rename_i h1 h2
  simp only [Bool.and_eq_true,Bool.not_eq_true'] at h2;simp only [Option.some.injEq] at h;subst h;refine Nat.lt_of_le_of_lt (AKd _ _) ?_;have:s.stmts.length≠0:=by
   intro h;have:=List.eq_nil_of_length_eq_zero h;rw [this] at h2;simp at h2
  simp only [mu,List.length_tail];omega
 split at h
 ·rename_i h1 h2 h3
  simp only [Option.some.injEq] at h;subst h;rw [ES];simp only [mu,h3,if_true];simp
 ·rename_i h1 h2 h3
  simp only at h
  have hne:(Bo s.left (s.status==0)).2.2≠10→s.left.length≠0:=by
   intro h0 h4;rw [List.eq_nil_of_length_eq_zero h4] at h0;exact h0 (AAq _)
  split at h
  ·cases h
  rename_i h4
  have h4:(Bo s.left (s.status==0)).2.2≠10:=by simpa using h4
  have h5:=hne h4;split at h
  ·simp only [Option.some.injEq] at h;subst h;rw [WQ];simp only [mu];omega
  ·rename_i h6
   have h6:(Bo s.left (s.status==0)).2.2=0:=by simpa using h6
   have h7:=Ov h6;simp only [Option.some.injEq] at h;subst h;refine Nat.lt_of_le_of_lt (ANR _ _) ?_;simp only [mu,List.length_drop];omega
theorem AKa (n:Nat):∀(f g:Nat) (s:Ses),mu s < n→n≤f→n≤g→onF f s=onF g s:=by
 induction n with
 |zero=>intro f g s h;omega
 |succ n ih=>
  intro f g s h h1 h2;obtain ⟨f,rfl⟩:∃k,f=k+1:=⟨f - 1,by omega⟩;obtain ⟨g,rfl⟩:∃k,g=k+1:=⟨g - 1,by omega⟩;simp only [onF];cases hr:DC s with
  |none=>rfl
  |some t=>
   have:=IW hr;exact ih f g t (by omega) (by omega) (by omega)
theorem AKl (s:Ses):ALe s=mu s+1:=rfl
theorem ALd {f:Nat}{s:Ses}(h:mu s < f):onF f s=goF s:=AKa (mu s+1) f _ s (Nat.lt_succ_self _) h (Nat.le_of_eq (AKl s).symm)
theorem Il {s:Ses}:goF s=match DC s with
  |none=>s
  |some t=>goF t:=by
 rw [←ALd (f:=mu s+1) (Nat.lt_succ_self _)];simp only [onF];cases h:DC s with
 |none=>rfl
 |some t=>exact ALd (IW h)
structure Jn (s:Ses):Prop where
 ab:s.kind=4→s.status=84∨s.status=69
 en:s.ended=true→s.left=[]∧(s.kind=0∨s.kind=4)
theorem Jn.send {s:Ses}(h:Jn s)(l:List TBack):Jn (BV s l):=by
 obtain ⟨h1,h2,h3,h4,h5,h6⟩:=BH s l;exact ⟨by rw [h4,h5];exact h.ab,by rw [h1,h4,h6];exact h.en⟩
theorem Jn.end' {s:Ses}(h:Jn s):Jn (Jg s):=by
 have:=h.ab;unfold Jg;refine ⟨?_,?_⟩ <;> simp only
 ·intro hk;split at hk
  ·rename_i hc
   simp only [Bool.or_eq_true,beq_iff_eq] at hc;rcases hc with hc|hc
   ·exact .inl hc
   ·exact this hc
  ·simp at hk
 ·intro _;refine ⟨by trivial,?_⟩;split
  ·exact .inr rfl
  ·exact .inl rfl
theorem Jn.brok {s:Ses}(h:Jn s)(hn:s.ended=false):Jn (Dw s):=by
 unfold Dw;split
 ·exact ⟨fun _=>.inr rfl,fun h=>by simp only at h;rw [hn] at h;cases h⟩
 ·exact ⟨h.ab,h.en⟩
theorem Jn.next {s:Ses}(h:Jn s)(hn:s.ended=false)(x:TStmt)(hk:s.kind=0):Jn (Gn s x):=by
 have hb:∀t:Ses,t.ended=false→t.kind=0→Jn t:=fun t h1 h2=>⟨fun h=>by rw [h2] at h;simp at h,fun h=>by rw [h1] at h;cases h⟩;unfold Gn;split
 ·split
  ·exact Jn.send (s:={s with status:=73}) (hb _ hn hk) _
  ·have:=BH s [{fKind:=9,fState:=[50,53,80,48,50],fText:=[116,104,101,32,116,114,97,110,115,97,99,116,105,111,110,32,104,97,115,32,102,97,105,108,101,100]}];exact hb _ (by simp only;rw [this.2.2.2.2.2,hn]) (by simp only;rw [this.2.2.2.1,hk])
 split
 ·unfold KT;split
  ·exact ⟨fun h=>by simp at h,fun h=>by simp only at h;rw [hn] at h;cases h⟩
  ·exact h.send _
 split
 ·unfold KT;split
  ·exact ⟨fun h=>by simp at h,fun h=>by simp only at h;rw [hn] at h;cases h⟩
  ·exact h.send _
 split
 ·unfold KT;split
  ·rename_i h1
   exact ⟨fun _=>.inl (by simpa using h1),fun h=>by simp only at h;rw [hn] at h;cases h⟩
  ·exact h.send _
 ·exact ⟨fun h=>by simp at h,fun h=>by simp only at h;rw [hn] at h;cases h⟩
theorem Jn.msg {s:Ses}(h:Jn s)(hn:s.ended=false)(f:TFront)(hk:s.kind=0):Jn (LY s f):=by
 have hb:∀t:Ses,t.ended=false→t.kind=0→Jn t:=fun t h1 h2=>⟨fun h=>by rw [h2] at h;simp at h,fun h=>by rw [h1] at h;cases h⟩;unfold LY;split
 ·exact h.send _
 split
 ·exact h.end'
 split
 ·exact Jn.send (s:={s with status:=73}) (hb _ hn hk) _
 split
 ·unfold XD;split
  ·have hq:Jn {s with query:=true}:=hb _ hn hk;exact Jn.brok (s:=BV _ _) (hq.send _) (by rw [(BH _ _).2.2.2.2.2];exact hn)
  split
  ·exact hb _ (by simp only;rw [(BH _ _).2.2.2.2.2];exact hn) (by simp only;rw [(BH _ _).2.2.2.1];exact hk)
  ·exact hb _ hn hk
 ·exact (h.send _).end'
theorem Jn.round {s t:Ses}(h:Jn s)(hr:DC s=some t):Jn t:=by
 unfold DC at hr;split at hr
 ·cases hr
 rename_i h0
 simp only [Bool.or_eq_true,bne_iff_ne,ne_eq,not_or,Bool.not_eq_true,Decidable.not_not] at h0;have hb:∀t:Ses,t.ended=false→t.kind=0→Jn t:=fun t h1 h2=>⟨fun h=>by rw [h2] at h;simp at h,fun h=>by rw [h1] at h;cases h⟩;split at hr
 ·simp only [Option.some.injEq] at hr;subst hr;exact (hb {s with stmts:=s.stmts.tail} h0.1 h0.2).next h0.1 _ h0.2
 split at hr
 ·simp only [Option.some.injEq] at hr;subst hr;exact (hb {s with query:=false} h0.1 h0.2).send _
 simp only at hr
 split at hr
 ·cases hr
 split at hr
 ·simp only [Option.some.injEq] at hr;subst hr;exact (h.send _).end'
 ·simp only [Option.some.injEq] at hr;subst hr;exact (hb {s with left:=s.left.drop (Bo s.left (s.status==0)).2.1.toNat} h0.1 h0.2).msg h0.1 _ h0.2
theorem Jn.on:∀(f:Nat) {s:Ses},Jn s→Jn (onF f s)
 |0,_,h=>h
 |f+1,s,h=>by
  simp only [onF];cases hr:DC s with
  |none=>exact h
  |some t=>exact Jn.on f (h.round hr)
theorem Jn.go {s:Ses}(h:Jn s):Jn (goF s):=Jn.on _ h
theorem Jn.out {s:Ses}(h:Jn s)(l:Bs):Jn {s with out:=l}:=⟨h.ab,h.en⟩
theorem Jn.feed {s:Ses}(h:Jn s)(b:Bs):Jn (Gt s b).1:=by
 unfold Gt;split
 ·exact h
 rename_i hn
 have hn:s.ended=false:=by simpa using hn
 have h1:Jn {s with left:=s.left++b}:=⟨h.ab,fun h=>by simp only at h;rw [hn] at h;cases h⟩;simp only
 split
 ·exact (h1.send _).end'.out _
 ·exact h1.go.out _
theorem Jn.close {s:Ses}(h:Jn s):Jn (Fj s):=by
 unfold Fj;split
 ·exact h
 ·exact h.end'
theorem Jn.ans {s:Ses}(h:Jn s)(dec:Int→Bs)(o:TOut)(e:Int):Jn (Kv dec s o e).1:=by
 unfold Kv;split
 ·exact h
 rename_i hk
 have hk:s.kind≠0:=by simpa using hk
 have h0:Jn {s with kind:=0,stmt:=default,own:=false}:=⟨fun h=>by simp at h,fun he=>⟨(h.en he).1,.inl rfl⟩⟩;have hen:s.ended=true→s.kind=4:=fun he=>by
  rcases (h.en he).2 with h|h
  ·exact absurd h hk
  ·exact h
 refine (Jn.go ?_).out _;unfold Eb;simp only
 split
 ·rename_i ha
  have ha:s.kind=1:=by simpa using ha
  have hn:s.ended=false:=by
   cases he:s.ended with
   |false=>rfl
   |true=>have:=hen he;omega
  have h2:Jn (if e==0 then BV {s with kind:=0,stmt:=default,own:=false} (Bh dec o) else {s with kind:=0,stmt:=default,own:=false})∧(if e==0 then BV {s with kind:=0,stmt:=default,own:=false} (Bh dec o) else {s with kind:=0,stmt:=default,own:=false}).ended=false:=by
   split
   ·exact ⟨h0.send _,by rw [(BH _ _).2.2.2.2.2];exact hn⟩
   ·exact ⟨h0,hn⟩
  generalize (if e==0 then BV {s with kind:=0,stmt:=default,own:=false} (Bh dec o) else {s with kind:=0,stmt:=default,own:=false})=s2 at h2 ⊢;generalize (if (e==0)=true then (ER (Bh dec o) []).2 else e)=e1;split
  ·exact Jn.brok (s:=BV _ _) (h2.1.send _) (by rw [(BH _ _).2.2.2.2.2];exact h2.2)
  ·exact h2.1
 split
 ·split
  ·rename_i h1 h2
   simp only [Bool.and_eq_true,Bool.not_eq_true'] at h2;exact Jn.send (s:={s with kind:=0,stmt:=default,own:=false,status:=73}) ⟨fun h=>by simp at h,fun he=>by simp only at he;rw [h2.2] at he;cases he⟩ _
  ·exact h0
 ·rename_i h1 h2
  have h2:s.kind≠4:=by simpa using h2
  have hn:s.ended=false:=by
   cases he:s.ended with
   |false=>rfl
   |true=>exact absurd (hen he) h2
  have hb:∀t:Ses,t.ended=false→t.kind=0→Jn t:=fun t h1 h2=>⟨fun h=>by rw [h2] at h;simp at h,fun h=>by rw [h1] at h;cases h⟩;unfold Ny;simp only
  split
  ·exact hb _ (by simp only;unfold Dt;rw [(BH _ _).2.2.2.2.2];exact hn) (by simp only;unfold Dt;rw [(BH _ _).2.2.2.1])
  split
  ·exact Jn.send (s:={s with kind:=0,stmt:=default,own:=false,status:=84}) (hb _ hn rfl) _
  ·exact Jn.send (s:={s with kind:=0,stmt:=default,own:=false,status:=73}) (hb _ hn rfl) _
theorem Ub {s:Ses}(h:s.ended=true):goF s=s:=by
 rw [Il];simp [DC,h]
theorem AAM {s:Ses}(h:s.ended=true)(b:Bs):Gt s b=(s,[]):=by simp [Gt,h]
theorem Vu {s:Ses}:(Fj s).ended=true:=by
 unfold Fj;split
 ·assumption
 ·rfl
theorem ABp {s:Ses}(h:Jn s)(he:s.ended=true)(ho:s.out=[])(dec:Int→Bs)(o:TOut)(e:Int):(Kv dec s o e).2=[]∧(Kv dec s o e).1.kind=0∧(Kv dec s o e).1.left=[]:=by
 unfold Kv;split
 ·rename_i hk
  exact ⟨rfl,by simpa using hk,(h.en he).1⟩
 ·rename_i hk
  have hk:s.kind≠0:=by simpa using hk
  have h4:s.kind=4:=(h.en he).2.resolve_left hk;have e1:Eb dec s o e={s with kind:=0,stmt:=default,own:=false}:=by
   unfold Eb;simp only [h4];rw [if_neg (by decide),if_pos (by decide),if_neg (by simp [he])]
  rw [e1,Ub (by exact he)];exact ⟨ho,rfl,(h.en he).1⟩
section
variable {ω:Om}{I:Imm}{L F:LH}{K:Value→M}{b:Nat}{v:Value}
theorem We {f:TFront}{r:Rdq}{e:Int}(h:∀c,FrC (if r.whole=true then (f,(0:Int)) else ({},e)).1 c→K (.tuple #[.agg c.toArray,.int .i64 (if r.whole=true then (f,(0:Int)) else ({},e)).2]) I F):∀c',FrC (if r.whole then f else {}) c'→K (.tuple #[.agg c'.toArray,.int .i64 (if r.whole then 0 else e)]) I F:=by
 intro c' hc';cases hr:r.whole with
 |true=>rw [hr] at h hc';exact h c' hc'
 |false=>rw [hr] at h hc';exact h c' hc'
theorem SS {l:Bs}(hv:Bytes I v l)(hn:l.length≤1000000000000)(hk:∀c,FrC (UO l).1 c→K (.tuple #[.agg c.toArray,.int .i64 (UO l).2]) I F):CT ω 75 #[v] K I F:=by
 obtain ⟨a0,k0,rfl⟩:=hv.form;refine AQe ?_;unfold AMX;refine AZ (fun b1=>?_);try simp only [SSd,Nat.reduceAdd]
 refine AZ (fun b3=>?_);refine AZ (fun b5=>?_);refine call (LU (r:=⟨l,false⟩) 4 hv hn (fun v2 h2=>?_));unfold UO at hk;simp only at hk
 have hl2:=take_len 4 ⟨l,false⟩;simp only at hl2
 have hl3:((Rdq.mk l false).num 4).2.b.length≤l.length:=hl2;generalize hq:(Rdq.mk l false).num 4=q at *;obtain ⟨q1,q2⟩:=q;simp only at *
 try simp only [SSd,Nat.reduceAdd]
 by_cases h1:(q1==80877103)=true
 ·rw [if_pos h1] at hk;simp only [h1,SSd,Nat.reduceAdd];refine st1 rfl ?_;exact Uj (c1:=z6) (r:=q2) (f:={fKind:=2}) h2 ⟨none,0,0,0,0,0,rfl⟩ rfl (We hk)
 rw [if_neg h1] at hk;simp only [Bool.eq_false_iff.2 h1,SSd,Nat.reduceAdd];by_cases h1:(q1==80877102)=true
 ·rw [if_pos h1] at hk;simp only [h1,SSd,Nat.reduceAdd];refine st1 rfl ?_;refine call (LU (r:=q2) 4 h2 (by omega) (fun v3 h3=>?_));try simp only [SSd,Nat.reduceAdd]
  refine st1 rfl ?_;have hl4:(q2.num 4).2.b.length≤q2.b.length:=take_len 4 q2;refine call (LU (r:=(q2.num 4).2) 4 h3 (by omega) (fun v4 h4=>?_));try simp only [SSd,Nat.reduceAdd]
  refine st1 rfl ?_;exact Uj (c1:=z6) (r:=((q2.num 4).2.num 4).2) (f:={fKind:=3,fPid:=(q2.num 4).1,fSecret:=((q2.num 4).2.num 4).1}) h4 ⟨none,0,0,(q2.num 4).1,((q2.num 4).2.num 4).1,0,rfl⟩ rfl (We hk)
 rw [if_neg h1] at hk;simp only [Bool.eq_false_iff.2 h1,SSd,Nat.reduceAdd];by_cases h1:(q1==196608)=true
 ·rw [if_pos h1] at hk;simp only [h1,SSd,Nat.reduceAdd];refine st1 rfl ?_;have hlb:CQ (l.length+1) q2 []=CQ (q2.b.length+1) q2 []:=IZ _ _ _ (by omega) (by omega);rw [hlb] at hk;refine AAY (r:=q2) h2 (by omega) rfl ?_;cases hp:CQ (q2.b.length+1) q2 [] with
  |none=>rw [hp] at hk;exact hk
  |some z=>
   obtain ⟨l',r'⟩:=z;rw [hp] at hk;simp only at hk ⊢
   have hfr:∀c,FrC {fKind:=1,fParams:=l'} c↔FrC {fKind:=1} c:=fun c=>Iff.rfl;intro c' hc';have:=We hk c';cases hw:(r'.take 1).2.whole with
   |true=>rw [hw] at this hc';exact this ((hfr c').2 hc')
   |false=>rw [hw] at this hc';exact this hc'
 rw [if_neg h1] at hk;simp only [Bool.eq_false_iff.2 h1,SSd,Nat.reduceAdd];refine stB rfl rfl (AL rfl) ?_;refine Ed rfl ?_;exact Gh.to F (Gh.done (hk _ FrC.zero))
theorem Iy {l:Bs}(st:Bool)(hv:Bytes I v l)(hn:l.length≤1000000000)(hk:∀c,FrC (Bo l st).1 c→K (.tuple #[.agg c.toArray,.int .i64 (Bo l st).2.1,.int .i64 (Bo l st).2.2]) I F):CT ω 49 #[v,.bool st] K I F:=by
 refine AQn ?_;unfold AMg;refine AZ (fun b1=>?_);unfold Bo at hk;simp only at hk
 have h2:((!st&&(decide (l.length > 0)&&(l.headD 0==0||decide (127 < l.headD 0))))=false)→∀(head:Nat) (least most:Int),head=(if st then 0 else 1)→least=(if st then 8 else 4)→most=(if st then 10000 else 1048576)→
   OL ω v (.bool st) (.pointer (some ⟨b1,0,none⟩)) (.int .i64 0) (.int .i64 0) (.int .i64 head) (.int .i64 least) (.int .i64 most) (fun v=>Gh (K v)) I ((b1,FrO z6)::F):=by
  intro hc head least most eh el em;have hh:head≤1:=by rw [eh];split <;> omega
  rw [if_neg (by rw [hc];decide),←eh,←el,←em] at hk;unfold OL;refine call (Ud hv head least most (by omega) (by omega) ?_);have hfp:=Qk (b:=l) (head:=head) (least:=least) (most:=most);have hl4:4≤least:=by rw [el];split <;> omega
  generalize hq:GZ l head least most=q at *;obtain ⟨q1,q2⟩:=q;simp only at *
  try simp only [SSd,Nat.reduceAdd]
  by_cases h0:(q2 != 0)=true
  ·rw [if_pos h0] at hk;simp only [h0,SSd,Nat.reduceAdd];refine stB rfl rfl (AL rfl) ?_;refine Ed rfl ?_;exact Gh.to F (Gh.done (hk _ FrC.zero))
  rw [if_neg h0] at hk;have hq2:q2=0:=by simpa using h0
  obtain ⟨g1,g2⟩:=hfp hq2;obtain ⟨n,rfl⟩:∃n:Nat,q1=n:=⟨q1.toNat,by omega⟩;simp only [Bool.eq_false_iff.2 h0,wrap_i64 ((head:Int)+4) (by omega),wrap_i64 ((head:Int)+n) (by omega),SSd,Nat.reduceAdd];obtain ⟨v1,e1,h1⟩:=Bytes.part hv (lo:=head+4) (hi:=head+n) (by omega) (by omega);have e1:CV 1 v (some (.int .i64 ((head:Int)+4))) (some (.int .i64 ((head:Int)+n))) none=some v1:=e1;have hbody:head+n - (head+4)=n - 4:=by omega
  rw [hbody] at h1;rw [Int.toNat_natCast] at hk;have hbl:((l.drop (head+4)).take (n - 4)).length≤1000000000000:=by rw [List.length_take,List.length_drop];omega
  generalize (l.drop (head+4)).take (n - 4)=body at *;simp only [e1,SSd,Nat.reduceAdd];refine call (SS h1 hbl (fun c hc=>?_));obtain ⟨hc6,hco⟩:=hc.one;try simp only [SSd,Nat.reduceAdd]
  refine AZ (fun b2=>?_);refine stB hc6 rfl hco ?_;cases st with
  |true=>
   simp only [Bool.not_true,if_true,SSd,Nat.reduceAdd] at hk ⊢;unfold RV;generalize ho:UO body=o at *;obtain ⟨o1,o2⟩:=o;simp only at *
   try simp only [SSd,Nat.reduceAdd]
   by_cases h3:(o2 != 0)=true
   ·rw [if_pos h3] at hk;simp only [h3,SSd,Nat.reduceAdd];refine stB rfl rfl (AL rfl) ?_;refine Ed rfl ?_;exact Gh.to F (Gh.done (hk _ FrC.zero))
   ·rw [if_neg h3] at hk;simp only [Bool.eq_false_iff.2 h3,SSd,Nat.reduceAdd];refine Ed hc6 ?_;simp only [wrap_i64 ((head:Int)+n) (by omega),SSd,Nat.reduceAdd];refine stB hc6 rfl hco ?_;refine Ed hc6 ?_;exact Gh.to F (Gh.done (hk _ hc))
  |false=>
   have h1h:head=1:=eh;have hpos:0 < l.length:=by omega
   obtain ⟨bt,off,ee1,ee2⟩:=Bytes.at hv (k:=0) hpos;have ee1:ixV 1 v (.int .i64 0)=some (.pointer (some ⟨bt,off,none⟩)):=ee1;simp only [Bool.not_false,Bool.false_eq_true,if_false,SSd,Nat.reduceAdd] at hk ⊢;simp only [ee1,SSd,Nat.reduceAdd];refine rd1 (ee2 _ _ (Ext.refl _)) ?_;rw [JG hpos] at hk;refine call (Sj l[0] h1 hbl (fun c2 hc2=>?_));obtain ⟨hc26,hc2o⟩:=hc2.one;try simp only [SSd,Nat.reduceAdd]
   refine stB hc26 hc6 hc2o ?_;unfold RV;generalize ho:AHK l[0].toNat body=o at *;obtain ⟨o1,o2⟩:=o;simp only at *
   try simp only [SSd,Nat.reduceAdd]
   by_cases h3:(o2 != 0)=true
   ·rw [if_pos h3] at hk;simp only [h3,SSd,Nat.reduceAdd];refine stB rfl rfl (AL rfl) ?_;refine Ed rfl ?_;exact Gh.to F (Gh.done (hk _ FrC.zero))
   ·rw [if_neg h3] at hk;simp only [Bool.eq_false_iff.2 h3,SSd,Nat.reduceAdd];refine Ed hc26 ?_;simp only [wrap_i64 ((head:Int)+n) (by omega),SSd,Nat.reduceAdd];refine stB hc26 rfl hc2o ?_;refine Ed hc26 ?_;exact Gh.to F (Gh.done (hk _ hc2))
 have h1:((!st&&(decide (l.length > 0)&&(l.headD 0==0||decide (127 < l.headD 0))))=true)→RX ω (.pointer (some ⟨b1,0,none⟩)) (.int .i64 0) (.int .i64 0) (fun v=>Gh (K v)) I ((b1,FrO z6)::F):=by
  intro hc;rw [if_pos hc] at hk;unfold RX;try simp only [SSd,Nat.reduceAdd]
  refine stB rfl rfl (AL rfl) ?_;refine Ed rfl ?_;exact Gh.to F (Gh.done (hk _ FrC.zero))
 cases st with
 |true=>
  simp only [Bool.not_true,SSd,Nat.reduceAdd];exact h2 rfl 0 8 10000 rfl rfl rfl
 |false=>
  have h2':=fun hc=>h2 hc 1 4 1048576 rfl rfl rfl;simp only [Bool.not_false,hv.len,SSd,Nat.reduceAdd];refine AP (fun hb=>?_) (fun hb=>?_)
  ·have hpos:0 < l.length:=by have:=of_decide_eq_true hb;omega
   obtain ⟨bt,off,ee1,ee2⟩:=Bytes.at hv (k:=0) hpos;have ee1:ixV 1 v (.int .i64 0)=some (.pointer (some ⟨bt,off,none⟩)):=ee1;have hd:decide (l.length > 0)=true:=decide_eq_true hpos;have c0:(((l[0].toNat:Nat):Int)==0)=(l.headD 0==0):=by
    rw [JG hpos];exact eq_of_beq (Ey (p:=fun c=>((((c.toNat:Nat):Int)==0)==(c==0))) (by decide+kernel) l[0])
   have c1:decide ((127:Int) < ((l[0].toNat:Nat):Int))=decide (127 < l.headD 0):=by
    rw [JG hpos];exact eq_of_beq (Ey (p:=fun c=>(decide ((127:Int) < ((c.toNat:Nat):Int))==decide (127 < c))) (by decide+kernel) l[0])
   simp only [ee1,SSd,Nat.reduceAdd];refine rd1 (ee2 _ _ (Ext.refl _)) ?_;simp only [c0,SSd,Nat.reduceAdd];refine AP (fun hb1=>?_) (fun hb1=>?_)
   ·have hb1:(l.headD 0==0)=false:=by simpa using hb1
    refine rd1 (ee2 _ _ (Ext.refl _)) ?_;simp only [c1,SSd,Nat.reduceAdd];refine AB (fun hb2=>?_) (fun hb2=>?_)
    ·exact h1 (by rw [hd,hb1,hb2];rfl)
    ·exact h2' (by rw [hd,hb1,hb2];rfl)
   ·have hb1:(l.headD 0==0)=true:=by simpa using hb1
    exact h1 (by rw [hd,hb1];rfl)
  ·refine h2' ?_;have hd:decide (l.length > 0)=false:=decide_eq_false (fun h=>hb (decide_eq_true (by omega)));rw [hd];rfl
end
section
variable {ω:Om}{I:Imm}{L:LH}{K:Value→M}{C:Obj→LH}{b:Nat}{w:Value}{s:Bs}{a:Nat}
theorem ALS (c q:UInt8):((c.toNat:Int) != q.toNat)=(c != q):=by
 have:((c.toNat:Int)=q.toNat)↔c=q:=by
  constructor
  ·intro h;exact UInt8.toNat_inj.1 (by omega)
  ·rintro rfl;rfl
 rw [Bool.eq_iff_iff];simp [this]
theorem TR (c q:UInt8):((c.toNat:Int)==q.toNat)=(c==q):=by
 have:=ALS c q;simp only [bne] at this;exact Bool.not_inj this
theorem Gl (q c:UInt8)(r:Bs):FV q (c::r)=if c==0 then none else if c != q then (FV q r).map fun x=>(c::x.1,x.2) else match r with
  |[]=>some ([],[])
  |d::r'=>if d==q then (FV q r').map fun x=>(q::x.1,x.2) else some ([],d::r'):=by
 cases r with
 |nil=>rfl
 |cons d r=>rfl
theorem UK (q:UInt8)(hq0:q≠0)[hF:Foc b L (LBo s a w) C](ha:a < s.length)(hs:s.length≤900000000)
  (hno:FV q (s.drop (a+1))=none→∀x,K (.tuple #[.string ⟨(x:Bs).toArray⟩,.bool false]) I L)
  (hyes:∀t r,FV q (s.drop (a+1))=some (t,r)→∀a',a < a'→a'≤s.length→s.drop a'=r→K (.tuple #[.string ⟨t.toArray⟩,.bool true]) I (C (LBo s a' w))):
  CT ω 221 #[Ai b,.int .u8 q.toNat] K I L:=by
 obtain ⟨L1,L2,rfl,rfl⟩:=hF.foc;refine AOo ?_;unfold ADz;refine AZ (fun bb=>?_);try simp only [SSd,Nat.reduceAdd]
 refine rdb ?_;simp only [wrap_i64 ((a:Int)+1) (by omega),SSd,Nat.reduceAdd];refine loop (fun m st I2 Lx=>∃(i:Nat) (X:LH) (p v:Value) (acc:Bs),a < i∧i+m=s.length+1∧i≤s.length∧I2=I∧st=(.string ⟨#[]⟩,.bool false,.int .i64 i,())∧Lx=X++((bb,BuB p v)::(L1++(b,LBo s a w)::L2))∧BuP bb p∧SlO 5 1 X v (Lib.byteCells acc) acc.length∧(acc=[]→v= .slice none 0 0)∧acc.length≤i∧
   FV q (s.drop (a+1))=(FV q (s.drop i)).map fun x=>(acc++x.1,x.2)) (s.length - a)
  ⟨a+1,[],.pointer none,.slice none 0 0,[],by omega,by omega,by omega,rfl,rfl,rfl,.inl rfl,SlO.none _ _,fun _=>rfl,by simp,by simp⟩ ?_
 rintro m st I2 Lx ⟨i,X,p,v,acc,h1,h2,h2',rfl,rfl,rfl,hp,hX,hv,hal,hm⟩;unfold Xu;try simp only [SSd,Nat.reduceAdd]
 refine rdb ?_;try simp only [SSd,Nat.reduceAdd]
 refine AB (fun hb=>?_) (fun hb=>?_);rotate_left
 ·have hb:¬i < s.length:=by simpa using hb
  have:s.drop i=[]:=List.drop_eq_nil_of_le (by omega);rw [this] at hm;exact Gh.to (L1++(b,LBo s a w)::L2) (Gh.done (hno (by rw [hm];rfl) []))
 have hb:i < s.length:=by simpa using hb
 obtain ⟨c,hc,hdc⟩:=PK hb;try simp only [SSd,Nat.reduceAdd]
 refine rdb ?_;simp only [ixS s hc,SSd,Nat.reduceAdd];have hz:((c.toNat:Int)==0)=(c==0):=TR c 0;try simp only [hz,ALS,SSd,Nat.reduceAdd]
 refine AB (fun h0=>?_) (fun h0=>?_)
 ·refine Gh.to (L1++(b,LBo s a w)::L2) (Gh.done (hno ?_ []));rw [hm,hdc];simp only [Gl,h0,if_true,Option.map_none]
 refine AB (fun hne=>?_) (fun hne=>?_)
 ·refine call (FN hp hX (by omega) c (fun X' v' hX'=>?_));unfold NQ;try simp only [wrap_i64 ((i:Int)+1) (by omega),SSd,Nat.reduceAdd]
  refine Gh.done ⟨m - 1,by omega,i+1,X',Ai bb,v',acc++[c],by omega,by omega,by omega,rfl,rfl,rfl,.inr rfl,?_,by simp,by simp;omega,?_⟩
  ·rw [byteCells_snoc];simpa using hX'
  ·rw [hm,hdc];simp only [Gl,h0,hne,Bool.false_eq_true,if_false,if_true];cases FV q (s.drop (i+1)) <;> simp
 ·simp only [wrap_i64 ((i:Int)+1) (by omega),SSd,Nat.reduceAdd];refine rdb ?_;try simp only [SSd,Nat.reduceAdd]
  have hcq:c=q:=by simpa using hne
  have fin:FV q (s.drop i)=some ([],s.drop (i+1))→NP ω (Ai b) (.string ⟨#[]⟩) (.bool false) (Ai bb) (.int .i64 i) (fun v=>Gh (K v)) I2 (X++((bb,BuB p v)::(L1++(b,LBo s a w)::L2))):=by
   intro hf;unfold NP;simp only [wrap_i64 ((i:Int)+1) (by omega),SSd,Nat.reduceAdd];refine st1 rfl ?_;rw [show ((i:Int)+1)=((i+1:Nat):Int) from rfl];refine call (KX (p:=p) (v:=v) (X:=X) hX (by omega) (fun h=>.inl (hv h)) (fun X'=>?_));try simp only [SSd,Nat.reduceAdd]
   refine Gh.to (L1++(b,LBo s (i+1) w)::L2) (Gh.done (hyes acc _ (by rw [hm,hf];simp) (i+1) (by omega) (by omega) rfl))
  refine AP (fun hb2=>?_) (fun hb2=>?_)
  ·have hb2:i+1 < s.length:=by
    have:=of_decide_eq_true hb2;omega
   obtain ⟨d,hd,hdd⟩:=PK hb2;refine rdb ?_;rw [show ((i:Int)+1)=((i+1:Nat):Int) from rfl,ixS s hd];simp only [TR,SSd,Nat.reduceAdd];refine AB (fun hq=>?_) (fun hq=>?_)
   ·have hdq:d=q:=by simpa using hq
    unfold Xr;refine call (FN hp hX (by omega) q (fun X' v' hX'=>?_));unfold NQ;simp only [wrap_i64 ((i:Int)+1) (by omega),wrap_i64 ((i:Int)+1+1) (by omega),SSd,Nat.reduceAdd];refine Gh.done ⟨m - 2,by omega,i+2,X',Ai bb,v',acc++[q],by omega,by omega,by omega,rfl,rfl,rfl,.inr rfl,?_,by simp,by simp;omega,?_⟩
    ·rw [byteCells_snoc];simpa using hX'
    ·rw [hm,hdc,hdd];have h0':(c==0)=false:=by simpa using h0
     have hne':(c != q)=false:=by simpa using hne
     simp only [Gl,h0',hne',hq,Bool.false_eq_true,if_false,if_true];cases FV q (s.drop (i+2)) <;> simp
   ·refine fin ?_;rw [hdc,hdd];have h0':(c==0)=false:=by simpa using h0
    have hne':(c != q)=false:=by simpa using hne
    simp only [Gl,h0',hne',hq,Bool.false_eq_true,if_false]
  ·refine fin ?_;have hb2:¬i+1 < s.length:=by
    have h:¬((i:Int)+1 < s.length):=by simpa using hb2
    omega
   have:s.drop (i+1)=[]:=List.drop_eq_nil_of_le (by omega);rw [hdc,this];have h0':(c==0)=false:=by simpa using h0
   have hne':(c != q)=false:=by simpa using hne
   simp only [Gl,h0',hne',Bool.false_eq_true,if_false]
end
abbrev ABb (k:Int)(a:Nat)(t:Bs)(n:Int):Value:=.agg #[.int .i64 k,.int .i64 (a:Nat),.string ⟨t.toArray⟩,.int .i64 n]
section
variable {ω:Om}{I:Imm}{L:LH}{K:Value→M}{C:Obj→LH}{b:Nat}{w:Value}{s:Bs}{a:Nat}
theorem ZH {α:Type}{p:α→Bool}:∀{l:List α} {i:Nat} (h:i < l.length),(∀j (hj:j < i),p (l[j]'(by omega))=false)→p l[i]=true→l.find? p=some l[i]
 |x::l,0,_,_,h=>by simp at h;simp [h]
 |x::l,i+1,hi,h0,h=>by
  have:=h0 0 (by omega);simp at this;simp only [List.find?_cons,this];simp only [List.getElem_cons_succ] at h ⊢;exact ZH (l:=l) (by simpa using hi) (fun j hj=>by simpa using h0 (j+1) (by omega)) h
theorem ABo:∀{x:Bs},x∈signsL→x.length≤2:=by
 intro x hx;simp only [signsL,List.mem_cons,List.not_mem_nil,or_false] at hx;rcases hx with rfl|rfl|rfl|rfl|rfl|rfl|rfl|rfl|rfl|rfl|rfl|rfl|rfl|rfl|rfl|rfl|rfl|rfl <;> decide
theorem AAL [hF:Foc b L (LBo s a w) C](ha:a < s.length)(hs:s.length≤900000000)(m0:Nat)
  (hno:OE (s.drop a)=none→∀I',Ext I I'→K (.tuple #[ABb 5 m0 [] 0,.int .i64 171]) I' L)
  (hyes:∀x,OE (s.drop a)=some x→a+x.length≤s.length→∀I',Ext I I'→K (.tuple #[ABb 5 m0 (if x=[33,61] then [60,62] else x) 0,.int .i64 0]) I' (C (LBo s (a+x.length) w))):
  CT ω 222 #[Ai b,ABb 0 m0 [] 0] K I L:=by
 obtain ⟨L1,L2,rfl,rfl⟩:=hF.foc;refine AOn ?_;unfold ADx;refine AZ (fun b1=>?_);refine AZ (fun b2=>?_);repeat' (first|(with_reducible first|refine Aw ?_|refine Ag ?_|refine Ak ?_|refine keepA ?_|refine AZ (fun _=>?_)|refine rdb ?_)|((with_reducible first|refine st1 ?_ ?_|refine rdB ?_ ?_);rfl)|(with_reducible refine Ah ?_)|((with_reducible refine BB ?_ ?_);rfl)|((with_reducible refine stB ?_ ?_ ?_ ?_);rfl;rfl;exact AL rfl)|((with_reducible first|refine rdP _ rfl ?_ ?_|refine BC _ rfl ?_ ?_);rfl)|((with_reducible refine stP _ rfl ?_ ?_ ?_ ?_);rfl;rfl;rfl)|(with_reducible refine And.intro ?_ ?_)|(simp only [SSg,Int.reduceBEq,Int.reduceBNe,Int.reduceLT,Int.reduceLE,beq_self_eq_true,bne_self_eq_false])|(with_reducible first|refine AP (fun _=>?_) (fun _=>?_)|refine AB (fun _=>?_) (fun _=>?_))|(simp only [SSd,Nat.reduceAdd]))
 refine DR signsL rfl rfl (fun I1 av hI1 hw=>Gh.done ?_);have hlen:signsL.length=18:=rfl;try simp only [SSd,Nat.reduceAdd]
 refine loop (fun m st I2 Lx=>∃i:Nat,i+m=18∧I2=I1∧st=(.int .i64 0,.int .i64 i,())∧Lx=(b2,.cells [.int .i64 0,.int .i64 0,.string ⟨#[]⟩,.int .i64 0].toArray 247 (0,0))::(b1,.cells [.int .i64 5,.int .i64 (m0:Nat),.string ⟨#[]⟩,.int .i64 0].toArray 247 (0,0))::(L1++(b,LBo s a w)::L2)∧∀j (hj:j < signsL.length),j < i→(signsL[j]).isPrefixOf (s.drop a)=false) 18
  ⟨0,rfl,rfl,rfl,rfl,fun j _ hj=>by omega⟩ ?_
 rintro m st I2 Lx ⟨i,h1,rfl,rfl,rfl,hall⟩;unfold Xq;try simp only [SSd,Nat.reduceAdd]
 refine AB (fun hb=>?_) (fun hb=>?_);rotate_left
 ·have hb:¬i < 18:=by
   have:¬((i:Int) < 18):=by simpa using hb
   omega
  unfold Xp;repeat' (first|(with_reducible first|refine Aw ?_|refine Ag ?_|refine Ak ?_|refine keepA ?_|refine AZ (fun _=>?_)|refine rdb ?_)|((with_reducible first|refine st1 ?_ ?_|refine rdB ?_ ?_);rfl)|(with_reducible refine Ah ?_)|((with_reducible refine BB ?_ ?_);rfl)|((with_reducible refine stB ?_ ?_ ?_ ?_);rfl;rfl;exact AL rfl)|((with_reducible first|refine rdP _ rfl ?_ ?_|refine BC _ rfl ?_ ?_);rfl)|((with_reducible refine stP _ rfl ?_ ?_ ?_ ?_);rfl;rfl;rfl)|(with_reducible refine And.intro ?_ ?_)|(simp only [SSg,Int.reduceBEq,Int.reduceBNe,Int.reduceLT,Int.reduceLE,beq_self_eq_true,bne_self_eq_false])|(with_reducible first|refine AP (fun _=>?_) (fun _=>?_)|refine AB (fun _=>?_) (fun _=>?_))|(simp only [SSd,Nat.reduceAdd]))
  refine Gh.to (L1++(b,LBo s a w)::L2) (Gh.done (hno ?_ I2 hI1));rw [OE,List.find?_eq_none];intro x hx;obtain ⟨j,hj,rfl⟩:=List.mem_iff_getElem.1 hx;simp [hall j hj (by omega)]
 have hb:i < signsL.length:=by
  have:((i:Int) < 18):=by simpa using hb
  omega
 obtain ⟨bw,off,cw,hi1,_,hi2,hi3⟩:=RL.ix hw (i:=i) (by omega) (by omega);rw [BM hb] at hi2;obtain rfl:=hi2;have hi1:ixV 1 (.slice av 18 18) (.int .i64 i)=_:=hi1;simp only [hi1,SSd,Nat.reduceAdd];refine rd1 ((hi3 _ [] (Ext.refl _) (fun _ h=>h) 0 _ rfl).mono (Ext.refl _) (fun _ h=>by cases h)) ?_;refine Aw ?_;try simp only [SSd,Nat.reduceAdd]
 refine Ah ?_;try simp only [SSd,Nat.reduceAdd]
 refine Ah ?_;simp only [AAJ s (Nat.le_of_lt ha),SSd,Nat.reduceAdd];have hle:=ABo (List.getElem_mem hb);refine call (Ik (s.drop a) signsL[i] (by simp;omega) (by omega) ?_);refine AB (fun hp=>?_) (fun hp=>?_)
 ·have hf:OE (s.drop a)=some signsL[i]:=ZH (p:=fun (x:Bs)=>x.isPrefixOf (s.drop a)) hb (fun j hj=>hall j (by omega) hj) hp;have hpl:=(List.isPrefixOf_iff_prefix.1 hp).length_le;have hpl:a+(signsL[i]).length≤s.length:=by simp at hpl;omega
  try simp only [SSd,Nat.reduceAdd]
  refine rdb ?_;simp only [wrap_i64 ((a:Int)+(signsL[i]).length) (by omega),SSd,Nat.reduceAdd];refine st1 rfl ?_;rw [show ((a:Int)+((signsL[i]).length:Nat))=((a+(signsL[i]).length:Nat):Int) from rfl];have hfin:=hyes _ hf hpl I2 hI1;have fin:∀t:Bs,t=(if signsL[i]=[33,61] then [60,62] else signsL[i])→NM ω (Ai b1) (Ai b2) (.int .i64 0) (fun v=>Gh (K v)) I2 ((b2,.cells [.int .i64 0,.int .i64 0,.string ⟨#[]⟩,.int .i64 0].toArray 247 (0,0))::(b1,.cells [.int .i64 5,.int .i64 (m0:Nat),.string ⟨t.toArray⟩,.int .i64 0].toArray 247 (0,0))::(L1++(b,LBo s (a+(signsL[i]).length) w)::L2)):=by
   intro t ht;rw [←ht] at hfin;unfold NM;repeat' (first|(with_reducible first|refine Aw ?_|refine Ag ?_|refine Ak ?_|refine keepA ?_|refine AZ (fun _=>?_)|refine rdb ?_)|((with_reducible first|refine st1 ?_ ?_|refine rdB ?_ ?_);rfl)|(with_reducible refine Ah ?_)|((with_reducible refine BB ?_ ?_);rfl)|((with_reducible refine stB ?_ ?_ ?_ ?_);rfl;rfl;exact AL rfl)|((with_reducible first|refine rdP _ rfl ?_ ?_|refine BC _ rfl ?_ ?_);rfl)|((with_reducible refine stP _ rfl ?_ ?_ ?_ ?_);rfl;rfl;rfl)|(with_reducible refine And.intro ?_ ?_)|(simp only [SSg,Int.reduceBEq,Int.reduceBNe,Int.reduceLT,Int.reduceLE,beq_self_eq_true,bne_self_eq_false])|(with_reducible first|refine AP (fun _=>?_) (fun _=>?_)|refine AB (fun _=>?_) (fun _=>?_))|(simp only [SSd,Nat.reduceAdd]))
   exact Gh.to (L1++(b,LBo s (a+(signsL[i]).length) w)::L2) (Gh.done hfin)
  refine st1 rfl ?_;refine AB (fun he=>?_) (fun he=>?_)
  ·refine st1 rfl ?_;exact fin [60,62] (by rw [if_pos (by simpa using he)])
  ·exact fin _ (by rw [if_neg (by simpa using he)])
 ·simp only [wrap_i64 ((i:Int)+1) (by omega),SSd,Nat.reduceAdd];refine Gh.done ⟨m - 1,by omega,i+1,by omega,rfl,rfl,rfl,fun j hj hji=>?_⟩;rcases Nat.lt_or_eq_of_le (Nat.le_of_lt_succ hji) with hlt|rfl
  ·exact hall j hj hlt
  ·simpa using hp
end
end Go.Proofs.YthkaekjoemhjaaaGreatDoor
