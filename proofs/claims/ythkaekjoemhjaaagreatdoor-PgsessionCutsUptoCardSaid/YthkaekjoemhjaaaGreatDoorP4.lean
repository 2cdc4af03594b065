/- lemmas -/
import Derived.Test.YthkaekjoemhjaaaGreatDoorP3
import Derived.Test.YthkaekjoemhjaaaGreatDoorProg
import Derived.Shelf.Strconv.Itoa4
import Derived.Shelf.Lays
import Derived.Laws.RangeString
set_option maxRecDepth 100000
set_option maxHeartbeats 40000000
set_option linter.unusedVariables false
set_option linter.unusedSimpArgs false
set_option linter.unusedSectionVars false
namespace Go.Proofs.YthkaekjoemhjaaaGreatDoor
open Go.SL
abbrev BuB (p v:Value):Obj:=.cells [p,v].toArray 313 (0,0)
def BuP (b:Nat)(p:Value):Prop:=p= .pointer none∨p=Ac b
theorem AId:liesAt Tryz.prog Tryz.prog.depth 313 (2 / Tryz.prog.cellsOf 313) 0 313 1=true:=by kernel_rfl
section
variable {ω:Om}{I:Imm}{L:LH}{K:Value→M}{C:Obj→LH}{b:Nat}{p v:Value}
theorem Ep [hF:Foc b L (BuB p v) C](hp:BuP b p)(hk:K (.tuple #[]) I (C (BuB (Ac b) v))):CT ω 269 #[Ac b] K I L:=by
 obtain ⟨L1,L2,rfl,rfl⟩:=hF.foc;refine AMl ?_;unfold AJI;rcases hp with rfl|rfl
 ·have e1:Gp .eql (.pointer none) (.pointer none)=some (.bool true):=rfl;simp only [e1,SSd,Nat.reduceAdd];refine rdb ?_;simp only [e1,SSd,Nat.reduceAdd];refine ⟨_,⟨b,0,[.pointer none,v].toArray,313,(0,0),rfl,.inr zy,by simp,rfl⟩,?_⟩;refine AEt (zAA ?_);refine ⟨_,⟨b,0,[.pointer none,v].toArray,313,(0,0),rfl,.inr zy,AId,rfl⟩,?_⟩;repeat' (first|refine zqa ?_|refine zqh (λ_=>?_)|refine zqr ?_|refine zqb ?_|refine zqi ?_ ?_|refine zqc ?_|refine zqg (λ_=>?_) (λ_=>?_)|refine zqe ?_|fail)
  exact zAG _ (zAA hk)
 ·try refine zqe ?_
  refine rdb ?_;have e2:Gp .neq (Ac b) (Ac b)=some (.bool false):=by simp [Gp]
  simp only [Ip,SSd,Nat.reduceAdd];refine rdb ?_;simp only [e2,SSd,Nat.reduceAdd];exact zAA hk
theorem GI {X F:LH}{cells:List Value}{n:Nat}[hs:SplitL X L F][hF:Foc b F (BuB p v) C](hp:BuP b p)(hX:SlO 5 1 X v cells n)(hn:n≤1000000000)(c:UInt8)
  (hk:∀X' v',SlO 5 1 X' v' (cells++[.int .u8 c.toNat]) (n+1)→K .nilIface I (X'++C (BuB (Ac b) v'))):CT ω 253 #[Ac b,.int .u8 c.toNat] K I L:=by
 obtain ⟨L1,L2,rfl,rfl⟩:=hF.foc;refine zAP X ?_;refine AMx ?_;unfold AJS;refine call (Ep hp ?_);try refine zqe ?_
 refine rdb ?_;refine CU rfl zo rfl (λX1 u hX1=>?_);refine BQ (X:=X) rfl hX (hX1.news (λx hx=>zae _ hx)) (by simp [Value.cells,Value.oneCell']) zo zo (λX2 v2 hX2=>?_);have hX2:SlO 5 1 X2 v2 (cells++[.int .u8 c.toNat]) (n+1):=by simpa [Value.cells] using hX2
 obtain ⟨a2,k2,rfl⟩:=hX2.form;repeat' (first|refine zqa ?_|refine zqh (λ_=>?_)|refine zqr ?_|refine zqb ?_|refine zqi ?_ ?_|refine zqc ?_|refine zqg (λ_=>?_) (λ_=>?_)|refine zqe ?_|fail)
 exact zAG (X2++(L1++(b,BuB (Ac b) (.slice a2 (n+1) k2))::L2)) (zAA (hk X2 _ hX2))
theorem byteCells_snoc (l:Bs)(c:UInt8):Lib.byteCells (l++[c])=Lib.byteCells l++[.int .u8 c.toNat]:=by rw [Lib.byteCells_append];rfl
theorem Ll {X F:LH}{l:Bs}[hs:SplitL X L F][hF:Foc b F (BuB p v) C](hX:SlO 5 1 X v (Lib.byteCells l) l.length)(hn:l.length≤1000000000)(hv:l=[]→v= .slice none 0 0∨∃a k,v= .slice (some a) 0 (k+1))
  (hk:∀X',K (.string ⟨l.toArray⟩) I (X'++C (BuB p v))):CT ω 254 #[Ac b] K I L:=by
 obtain ⟨L1,L2,rfl,rfl⟩:=hF.foc;refine zAP X ?_;refine AMw ?_;unfold AJR;obtain ⟨a,cap,rfl⟩:=hX.form;have hlenV:lenV (.slice a l.length cap)=some (.int .i64 l.length):=rfl;refine Dy ?_;try refine zqe ?_
 refine BM ?_;by_cases hl:l=[]
 ·subst hl;have hp:∃p,ACt (.slice a 0 cap)=some (.pointer p):=by
   rcases hv rfl with h|⟨a',k',h⟩
   ·simp only [zh,Value.slice.injEq] at h;obtain ⟨rfl,_,rfl⟩:=h;exact ⟨none,rfl⟩
   ·simp only [zh,Value.slice.injEq] at h;obtain ⟨rfl,_,rfl⟩:=h;exact ⟨some a',rfl⟩
  obtain ⟨q,hq⟩:=hp;simp only [zh,hq,SSd,Nat.reduceAdd];refine BM ?_;try refine zqe ?_
  exact .inl ⟨q,rfl,rfl,zAA (zAA (hk X))⟩
 ·have hpos:0 < l.length:=zby.2 hl;obtain ⟨hcl,hX⟩:=hX;rcases hX with ⟨_,h0,_⟩|⟨bb,cap',cs,rfl,e,hcs,hle,hcell⟩
  ·omega
  ·simp only [Value.slice.injEq] at e;obtain ⟨rfl,_,rfl⟩:=e;obtain ⟨k,rfl⟩:∃k,cap=k+1:=⟨cap - 1,by omega⟩;have hq:ACt (.slice (some ⟨bb,0,none⟩) l.length (k+1))=some (.pointer (some ⟨bb,0,none⟩)):=rfl;simp only [hq,SSd,Nat.reduceAdd];refine BM ?_;try refine zqe ?_
   refine .inr ⟨bb,cs,(0,0),l,[],L1++(b,BuB p (.slice (some ⟨bb,0,none⟩) l.length (k+1)))::L2,rfl,rfl,hl,by omega,by omega,rfl,λj u hu=>hcell j _ ?_,zAA (zAA (hk [_]))⟩;simp [Lib.byteCells,hu]
end
section
variable {P:Program}{ω:Om}{K:Value→M}{I:Imm}{L:LH}
theorem Lh {f:FuncId}{args:Array Value}(he:CS P f=true)(h:Cal P ω f args K I L):CalV P ω (.func (.func f) #[] #[]) args K I L:=by
 unfold CalV;simp only [he,if_true];simpa using h
theorem SN {x:Value}{args:Array Value}(h:CalV P ω x args K I L):CalV P ω x args (SL.gh K) I L:=CalV.mono h (λ_ _ _ h=>zAA h)
end
def FnB (ω:Om)(fv:Value)(p:UInt8→Bool):Prop:=∀(c:UInt8) (K:Value→M) (I:Imm) (L:LH),K (.bool (p c)) I L→CW ω fv #[.int .u8 c.toNat] K I L
section
variable {ω:Om}{I:Imm}{L:LH}{K:Value→M}{C:Obj→LH}{b:Nat}{w:Value}{s:Bs}{a:Nat}
theorem ACS:FnB ω (.func (.func 219) #[] #[]) Bi:=by
 intro c K I L hk;exact Lh (by kernel_rfl) (KO c hk)
theorem ACn:FnB ω (.func (.func 218) #[] #[]) (λc=>DJ c||Bi c):=by
 intro c K I L hk;refine Lh (by kernel_rfl) ?_;refine ANa ?_;show ADo ω (.int .u8 c.toNat) _ I L;unfold ADo;refine call (JP c ?_);refine BZ (λh=>?_) (λh=>?_)
 ·refine call (KO c (zAA ?_));simpa [show DJ c=false from by simpa using h] using hk
 ·refine zAA ?_;have:DJ c=true:=by simpa using h
  simpa [this] using hk
theorem Oe {fv:Value}{p:UInt8→Bool}(hf:FnB ω fv p)[hF:Foc b L (LBo s a w) C](ha:a≤s.length)(hs:s.length≤900000000)
  (hk:∀a',a≤a'→a'≤s.length→s.drop a'=(s.drop a).dropWhile p→K (.string ⟨((s.drop a).takeWhile p).toArray⟩) I (C (LBo s a' w))):CT ω 217 #[Ac b,fv] K I L:=by
 obtain ⟨L1,L2,rfl,rfl⟩:=hF.foc;refine ANb ?_;unfold AJo;try refine zqe ?_
 refine rdb ?_;refine loop (λm _ I2 Lx=>∃a2,a≤a2∧a2+m=s.length∧I2=I∧Lx=L1++(b,LBo s a2 w)::L2∧(s.drop a).takeWhile p=(s.drop a).take (a2 - a)++(s.drop a2).takeWhile p∧(s.drop a).dropWhile p=(s.drop a2).dropWhile p) (s.length - a) ⟨a,zt _,by omega,rfl,rfl,by simp,rfl⟩ ?_;rintro m _ I2 Lx ⟨a2,h1,h2,rfl,rfl,ht,hd⟩;unfold ZC;have fin:(s.drop a2).takeWhile p=[]→OE ω (Ac b) (.string ⟨#[]⟩) (.int .i64 a) (λv=>Gh (K v)) I2 (L1++(b,LBo s a2 w)::L2):=by
  intro he;rw [he,zaK] at ht;have hdw:(s.drop a2).dropWhile p=s.drop a2:=by
   have:=List.takeWhile_append_dropWhile (p:=p) (l:=s.drop a2);rw [he] at this;simpa using this
  unfold OE;refine Dy ?_;try refine zqe ?_
  refine BM ?_;try refine zqe ?_
  refine BM ?_;simp only [slS s h1 (show a2≤s.length by omega),SSd,Nat.reduceAdd];rw [←ht];exact zAA (hk a2 h1 zo (by rw [hd,hdw]))
 refine Dy ?_;try refine zqe ?_
 refine BM ?_;try refine zqe ?_
 refine BM ?_;try refine zqe ?_
 refine BZ (λhb=>?_) (λhb=>?_)
 ·have hb:a2 < s.length:=by simpa using hb
  obtain ⟨c,hc,hdc⟩:=QP hb;try refine zqe ?_
  refine BM ?_;try refine zqe ?_
  refine BM ?_;simp only [ixS s hc,SSd,Nat.reduceAdd];refine SN (hf c _ _ _ ?_);refine AP (λhp=>?_) (λhp=>?_)
  ·try refine zqe ?_
   refine rdb ?_;simp only [wrap_i64 ((a2:Int)+1) zo,SSd,Nat.reduceAdd];refine st1 rfl ?_;refine zAA ⟨m - 1,by omega,a2+1,by omega,by omega,rfl,rfl,?_,?_⟩
   ·rw [ht,hdc,List.takeWhile_cons_of_pos hp];have e:a2+1 - a=(a2 - a)+1:=by omega
    rw [e,List.take_add_one];have:(s.drop a)[a2 - a]? =some c:=by rw [zax];rw [show a+(a2 - a)=a2 by omega];exact hc
    rw [this];simp
   ·rw [hd,hdc,List.dropWhile_cons_of_pos hp]
  ·exact fin (by rw [hdc,List.takeWhile_cons_of_neg (by simpa using hp)])
 ·have hb:¬a2 < s.length:=by simpa using hb
  exact fin (by rw [zat zo];rfl)
end
theorem Cal.borrow {P:Program}{ω:Om}{f:FuncId}{args:Array Value}{K:Value→M}{I:Imm}{F:LH}{b:Nat}{o:Obj}
  (h:Cal P ω f args (λv I' L'=>Ext (Imm.put I b o) I'∧∀I2,Ext I I2→K v I2 ((b,o)::L')) (Imm.put I b o) F):Cal P ω f args K I ((b,o)::F):=λw hs=>by
 have hc:=hs.cons;have hb:I b=none:=hc.2 b o (zK ..);refine (h w hs.freeze).mono ?_;rintro e w' ⟨v,I',L',rfl,hs',hE,hk⟩;have hI'b:I' b=some o:=hE b o (by simp [Imm.put]);have hx:Ext I (λc=>if c=b then none else I' c):=λc o' hc'=>by
  have hne:c≠b:=λe=>by subst e;rw [hb] at hc';cases hc'
  show (if c=b then none else I' c)=some o';rw [if_neg hne];exact hE c o' (by simp only [Imm.put,if_neg hne];exact hc')
 refine ⟨v,_,_,rfl,⟨λc o' hc'=>?_,λc o' hm=>?_,?_,λc o' hm=>?_,hs'.tape,hs'.os,hs'.out,hs'.dr⟩,hk _ hx⟩
 ·split at hc'
  ·cases hc'
  ·exact hs'.imm c o' hc'
 ·rcases zX.1 hm with h|h
  ·simp only [zah] at h;obtain ⟨rfl,rfl⟩:=h;exact hs'.imm _ _ hI'b
  ·exact hs'.own c o' h
 ·refine zaX.2 ⟨λhmem=>?_,hs'.nodup⟩;obtain ⟨⟨c,o'⟩,hm,he⟩:=zal.1 hmem;simp only at he
  subst he;have:=hs'.apart _ o' hm;rw [hI'b] at this;cases this
 ·rcases zX.1 hm with h|h
  ·simp only [zah] at h;obtain ⟨rfl,rfl⟩:=h;simp
  ·split
   ·rfl
   ·exact hs'.apart c o' h
theorem Lm {P:Program}{ω:Om}{f:FuncId}{args:Array Value}{K:Value→M}{I:Imm}{X F:LH}{v:Value}{l:Bs}(ho:OwB X v l)
  (h:∀I1,Ext I I1→Bytes I1 v l→Cal P ω f args (λu I' L'=>Ext I1 I'∧∀I2,Ext I I2→K u I2 (X++L')) I1 F):Cal P ω f args K I (X++F):=by
 obtain ⟨hl,h2⟩:=ho;rcases h2 with ⟨rfl,h0,hv⟩|⟨b,cap,cs,rfl,rfl,hcs,hle,hcell⟩
 ·obtain ⟨a,ha⟩:=hv;have hn:l=[]:=zQ h0;subst hn;subst ha;refine (h I (zAC I) (SlI.nil _ _ _ _)).mono λu I' L' ⟨h1,h2⟩=>h2 I' h1
 ·refine Cal.cons λhc=>?_;have hE:Ext I (Imm.put I b (.cells cs 5 (0,0))):=hc.ext_put;exact Cal.borrow (h _ hE ⟨hl,_,cap,rfl,hle,λ_=>⟨b,0,cs,5,(0,0),rfl,by simp [Imm.put],λj u hu=>by rw [zaS];exact hcell j u hu⟩⟩)
section
variable {ω:Om}{I:Imm}{L:LH}{K:Value→M}
theorem AQq (s:Bs):decide (0≤Gq s 0)= !(s.all (· != 0)):=by
 unfold Gq;cases h:s.findIdx? (·==0) with
 |none=>
  have h1:=List.findIdx?_eq_none_iff.1 h;have:s.all (· != 0)=true:=zaD.2 λx hx=>by simpa [bne] using h1 x hx
  rw [this];rfl
 |some i=>
  obtain ⟨hi,h1,_⟩:=List.findIdx?_eq_some_iff_getElem.1 h;have:s.all (· != 0)=false:=by
   rw [List.all_eq_false];exact ⟨s[i],zaG hi,by simpa using h1⟩
  rw [this];simp
theorem Vu (s:Bs)(hk:K (.bool (!(s.all (· != 0)))) I L):CW ω (.func (.func 119) #[] #[]) #[.string ⟨s.toArray⟩] K I L:=by
 refine Lh (by kernel_rfl) ?_;refine AOR ?_;unfold AKc;refine call ?_;rw [show (Value.int .u8 0)= .int .u8 ((0:UInt8).toNat:Nat) from rfl];refine GZ s 0 ?_;try refine zqe ?_
 rw [AQq];exact zAA hk
theorem KT {w:Value}{xs:List Bs}(hx:RL StrV 1 I [] w xs)(hx0:xs.length≤1000000000000)(hk:K (.bool (clB xs)) I L):CT ω 96 #[w] K I L:=by
 refine APq ?_;unfold AOs;refine call ?_;refine AOS ?_;unfold AKd;refine call ?_;refine AOI ?_;unfold AKT;simp only [zAQ hx,SSd,Nat.reduceAdd];refine loop (λm st I' L'=>∃k:Nat,k+m=xs.length∧st=(Value.int .i64 0,Value.int .i64 (k:Nat),())∧I'=I∧L'=L∧clB (xs.take k)=true) xs.length ⟨0,by omega,rfl,rfl,rfl,rfl⟩ ?_;rintro m st I' L' ⟨k,hkm,rfl,rfl,rfl,hcl⟩;unfold AAF;try refine zqe ?_
 refine AP (λhb=>?_) (λhb=>?_)
 ·have hb:k < xs.length:=by
   have:=of_decide_eq_true hb;omega
  obtain ⟨bt,off,c1,g1,gl,g2,g3⟩:=RL.ix hx (i:=k) zo zo;rw [BH hb] at g2;obtain rfl:=g2;simp only [g1,SSd,Nat.reduceAdd];refine rdC (g3 I' [] (zAC _) (λ_ h=>h) 0 _ rfl) (zAC _) ?_;refine CalV.mono (Vu xs[k] (K:=λv I'' L''=>v= .bool (!(xs[k].all (· != 0)))∧I''=I'∧L''=L') ⟨rfl,rfl,rfl⟩) ?_;rintro v I'' L'' ⟨rfl,rfl,rfl⟩;have e:clB (xs.take (k+1))=xs[k].all (· != 0):=by
   rw [zg hb];unfold clB at *;rw [zbn,hcl];simp
  cases h:xs[k].all (· != 0) with
  |true=>
   rw [h] at e;simp only [zad,wrap_i64 ((k:Int)+1) zo,SSd,Nat.reduceAdd];exact zAA (zAA ⟨m - 1,by omega,k+1,by omega,rfl,rfl,rfl,e⟩)
  |false=>
   rw [h] at e;have:clB xs=false:=by
    rw [←zaf (k+1) xs];unfold clB at *;rw [zbn,e];rfl
   rw [this] at hk;simp only [zan,show decide ((0:Int)≤(k:Nat))=true from decide_eq_true zo,SSd,Nat.reduceAdd];exact zAA (zAA (zAA (zAA hk)))
 ·have hb:¬k < xs.length:=by
   have:=of_decide_eq_false hb;omega
  rw [zY zo] at hcl;rw [hcl] at hk;simp only [show decide ((0:Int)≤ -1)=false from rfl,SSd,Nat.reduceAdd];exact zAA (zAA (zAA hk))
theorem Un (n:Int)(hk:K (.bool (n != i32 n)) I L):CW ω (.func (.func 116) #[] #[]) #[.int .i64 n] K I L:=by
 refine Lh (by kernel_rfl) ?_;refine AOU ?_;unfold AKf;have hw:IntKind.i64.wrap (IntKind.i32.wrap n)=i32 n:=by
  exact wrap_i64 _ (by rw [IntKind.wrap_i32];omega)
 simp only [hw,SSd,Nat.reduceAdd];exact zAA hk
theorem XQ {w:Value}{xs:List Int}(hx:RL (AGx .i64) 1 I [] w xs)(hx0:xs.length≤1000000000000)(hk:K (.bool (smB xs)) I L):CT ω 92 #[w] K I L:=by
 refine APu ?_;unfold AOw;refine call ?_;refine AOV ?_;unfold AKg;refine call ?_;refine AOJ ?_;unfold AKU;simp only [zAQ hx,SSd,Nat.reduceAdd];refine loop (λm st I' L'=>∃k:Nat,k+m=xs.length∧st=(Value.int .i64 0,Value.int .i64 (k:Nat),())∧I'=I∧L'=L∧smB (xs.take k)=true) xs.length ⟨0,by omega,rfl,rfl,rfl,rfl⟩ ?_;rintro m st I' L' ⟨k,hkm,rfl,rfl,rfl,hcl⟩;unfold AAG;try refine zqe ?_
 refine AP (λhb=>?_) (λhb=>?_)
 ·have hb:k < xs.length:=by
   have:=of_decide_eq_true hb;omega
  obtain ⟨bt,off,c1,g1,gl,g2,g3⟩:=RL.ix hx (i:=k) zo zo;rw [BH hb] at g2;obtain rfl:=g2;simp only [g1,SSd,Nat.reduceAdd];refine rdC (g3 I' [] (zAC _) (λ_ h=>h) 0 _ rfl) (zAC _) ?_;refine CalV.mono (Un xs[k] (K:=λv I'' L''=>v= .bool (xs[k] != i32 xs[k])∧I''=I'∧L''=L') ⟨rfl,rfl,rfl⟩) ?_;rintro v I'' L'' ⟨rfl,rfl,rfl⟩;have e:smB (xs.take (k+1))=(xs[k]==i32 xs[k]):=by
   rw [zg hb];unfold smB at *;rw [zbn,hcl];simp
  cases h:(xs[k]==i32 xs[k]) with
  |true=>
   rw [h] at e;have h2:(xs[k] != i32 xs[k])=false:=by simp only [bne,h];rfl
   simp only [h2,wrap_i64 ((k:Int)+1) zo,SSd,Nat.reduceAdd];exact zAA (zAA ⟨m - 1,by omega,k+1,by omega,rfl,rfl,rfl,e⟩)
  |false=>
   rw [h] at e;have:smB xs=false:=by
    rw [←zaf (k+1) xs];unfold smB at *;rw [zbn,e];rfl
   rw [this] at hk;have h2:(xs[k] != i32 xs[k])=true:=by simp only [bne,h];rfl
   simp only [h2,show decide ((0:Int)≤(k:Nat))=true from decide_eq_true zo,SSd,Nat.reduceAdd];exact zAA (zAA (zAA (zAA hk)))
 ·have hb:¬k < xs.length:=by
   have:=of_decide_eq_false hb;omega
  rw [zY zo] at hcl;rw [hcl] at hk;simp only [show decide ((0:Int)≤ -1)=false from rfl,SSd,Nat.reduceAdd];exact zAA (zAA (zAA hk))
end
def TFieldV (I:Imm)(x:TField)(c:List Value):Prop:=c=[.string ⟨x.fName.toArray⟩,.int .i64 x.fType]
theorem TFieldV.mono {I I':Imm}{x:TField}{c:List Value}(h:TFieldV I x c)(hI:Ext I I'):TFieldV I' x c:=by
 obtain rfl:=h;exact rfl
def TCellV (I:Imm)(x:TCell)(c:List Value):Prop:=c=[.bool x.fNull,.string ⟨x.fText.toArray⟩]
theorem TCellV.mono {I I':Imm}{x:TCell}{c:List Value}(h:TCellV I x c)(hI:Ext I I'):TCellV I' x c:=by
 obtain rfl:=h;exact rfl
theorem TCellV.len {I:Imm}{x:TCell}{c:List Value}(h:TCellV I x c):c.length=2:=by
 obtain rfl:=h;rfl
theorem TCellV.one {I:Imm}{x:TCell}{c:List Value}(h:TCellV I x c):∀u∈c,u.oneCell'=true:=by
 obtain rfl:=h;exact Ak rfl
def TBackV (I:Imm)(x:TBack)(c:List Value):Prop:=∃v0 v1,c=[.int .i64 x.fKind,.string ⟨x.fName.toArray⟩,.string ⟨x.fText.toArray⟩,.int .i64 x.fPid,.int .i64 x.fSecret,.int .u8 x.fStatus,v0,v1,.string ⟨x.fState.toArray⟩,.bool x.fFatal]∧RL TFieldV 2 I [] v0 x.fFields∧RL TCellV 2 I [] v1 x.fCells
theorem TBackV.mono {I I':Imm}{x:TBack}{c:List Value}(h:TBackV I x c)(hI:Ext I I'):TBackV I' x c:=by
 obtain ⟨v0,v1,rfl,h0,h1⟩:=h;exact ⟨v0,v1,rfl,zAL (λ_ _ h=>TFieldV.mono h hI) h0 hI (λ_ h=>by cases h),zAL (λ_ _ h=>TCellV.mono h hI) h1 hI (λ_ h=>by cases h)⟩
theorem TBackV.len {I:Imm}{x:TBack}{c:List Value}(h:TBackV I x c):c.length=10:=by
 obtain ⟨v0,v1,rfl,h0,h1⟩:=h;rfl
theorem TBackV.one {I:Imm}{x:TBack}{c:List Value}(h:TBackV I x c):∀u∈c,u.oneCell'=true:=by
 obtain ⟨v0,v1,rfl,h0,h1⟩:=h;obtain ⟨_,_,rfl⟩:=zAH h0;obtain ⟨_,_,rfl⟩:=zAH h1;exact Ak rfl
theorem AFZ {I:Imm}{L:LH}{B:M→M}(Y:LH)[h:LSub Y L](hB:B (Stay I Y) I L):CO B I L:=draw _ ⟨zAC I,h.sub⟩ hB
theorem Bv (n:Int):∀k,(beB n k).length=k
 |0=>rfl
 |k+1=>by rw [beB,zf,Bv n k]
section
variable {ω:Om}{I:Imm}{L F:LH}{K:Value→M}
theorem Ho {X:LH}{v:Value}{l:Bs}[hs:SplitL X L F](ho:OwB X v l)(n:Int)(k:Nat)(kv:Int)(hkv:kv=(k:Nat))(hk8:k≤8)(hl:l.length≤1000000000000)(hk:∀X' v',OwB X' v' (l++beB n k)→K v' I (X'++F)):CT ω 91 #[v,.int .i64 n,.int .i64 kv] K I L:=by
 subst hkv;exact zAP X (WW ho n k hk8 hl hk)
theorem AHE {X:LH}{v w:Value}{l:Bs}{xs:List Bs}[hs:SplitL X L F](ho:OwB X v l)(hx:RL StrV 1 I [] w xs)(hx0:xs.length≤1000000000000)(hl:l.length+(txB xs).length≤1000000000000)(hk:∀X' v',OwB X' v' (l++txB xs)→K v' I (X'++F)):CT ω 95 #[v,w] K I L:=
 zAP X (MI ho hx hx0 hl hk)
theorem AIj (n:Int)(k:Nat)(kv:Int)(hkv:kv=(k:Nat))(hk8:k≤8)(hk:∀X' v',OwB X' v' (beB n k)→K v' I (X'++L)):CT ω 91 #[.slice none 0 0,.int .i64 n,.int .i64 kv] K I L:=by
 subst hkv;exact WW (X:=[]) (l:=[]) (zAN _ _) n k hk8 zy hk
theorem text0 {w:Value}{xs:List Bs}(hx:RL StrV 1 I [] w xs)(hx0:xs.length≤1000000000000)(hl:(txB xs).length≤1000000000000)(hk:∀X' v',OwB X' v' (txB xs)→K v' I (X'++L)):CT ω 95 #[.slice none 0 0,w] K I L:=
 MI (X:=[]) (l:=[]) (zAN _ _) hx hx0 (by simpa using hl) hk
def AIW (t:Fv):Option Value:=(Vt t).map λc=>.agg #[.int .i64 c.1,.int .i64 c.2]
theorem UU (hk:∀b es clock,MapSi es clock AIW→K (.map (some b)) I ((b,.map es clock)::L)):CT ω 117 #[] K I L:=by
 refine AOT ?_;unfold AKe;refine AEy (λb=>zAA ?_);try refine zqe ?_
 obtain ⟨e1,k1,h1,m1⟩:=MapSi.empty.put 1 (.agg #[.int .i64 20,.int .i64 8]);refine AEg (k:=1) MapSi.empty h1 (zAA ?_);try refine zqe ?_
 obtain ⟨e2,k2,h2,m2⟩:=m1.put 2 (.agg #[.int .i64 16,.int .i64 1]);refine AEg (k:=2) m1 h2 (zAA ?_);try refine zqe ?_
 obtain ⟨e3,k3,h3,m3⟩:=m2.put 3 (.agg #[.int .i64 25,.int .i64 (-1)]);refine AEg (k:=3) m2 h3 (zAA ?_);refine zAA (hk b e3 k3 ?_);have e:(Qu (Qu (Qu (λ_=>none) 1 (some (.agg #[.int .i64 20,.int .i64 8]))) 2 (some (.agg #[.int .i64 16,.int .i64 1]))) 3 (some (.agg #[.int .i64 25,.int .i64 (-1)])))=AIW:=by
  funext t
  unfold Qu AIW Vt;by_cases h1:t=1
  ·subst h1;rfl
  by_cases h2:t=2
  ·subst h2;rfl
  by_cases h3:t=3
  ·subst h3;rfl
  simp [h1,h2,h3]
 rw [←e];exact m3
theorem ND:∀(a b:List TField),DW (a++b)=match DW a with
  |none=>none
  |some s=>(DW b).map (s++·)
 |[],b=>by simp [DW]
 |f::a,b=>by
  simp only [zau,DW,ND a b];cases Vt f.fType with
  |none=>rfl
  |some c=>
   simp only
   split
   ·cases DW a with
    |none=>rfl
    |some s=>cases DW b <;> simp
   ·rfl
theorem AFV (f:TField)(c:Int×Int):(Xv f c).length=f.fName.length+19:=by
 simp only [Xv,zk,Bv,Ja,zf,zh]
theorem NC:∀{l:List TField} {s:Bs},DW l=some s→s.length=(l.map λf=>f.fName.length+19).sum
 |[],s,h=>by simp only [DW,zn] at h;subst h;rfl
 |f::l,s,h=>by
  simp only [DW] at h;cases hc:Vt f.fType with
  |none=>rw [hc] at h;cases h
  |some c=>
   rw [hc] at h;simp only at h
   split at h
   ·cases hs:DW l with
    |none=>rw [hs] at h;cases h
    |some s'=>
     rw [hs] at h;simp only [zbb,zn] at h;subst h;rw [zk,AFV,NC hs];simp
   ·cases h
theorem JB {α:Type}(f:α→Nat):∀(l:List α) (k:Nat),((l.take k).map f).sum≤(l.map f).sum
 |[],k=>by simp
 |x::l,0=>by simp
 |x::l,k+1=>by
  have:=JB f l k;simp only [zbx,zG,zai];omega
theorem Vp {w:Value}{l:List TField}(hx:RL TFieldV 2 I [] w l)(hl:(l.map λf=>f.fName.length+19).sum≤100000000000)(hk:∀I' X v,Ext I I'→OwB X v (En l).1→K (.tuple #[v,.bool (En l).2]) I' (X++L)):CT ω 93 #[w] K I L:=by
 have hln:l.length≤100000000000:=by
  have h:l.length≤(l.map λf=>f.fName.length+19).sum:=by
   clear hl hx hk;induction l with
   |nil=>simp
   |cons x l ih=>simp only [zG,zai,zf];omega
  omega
 refine APt ?_;unfold AOv;refine call (UU (λbm es clock hm=>?_));simp only [zAQ hx,SSd,Nat.reduceAdd];refine call (AIj _ 2 2 rfl zo (λX v hX=>?_));refine loop (λm st I' L'=>∃(k:Nat) (X':LH) (v':Value) (t:Bs),k+m=l.length∧st=(Value.slice none 0 0,Value.bool false,v',Value.int .i64 (k:Nat),())∧Ext I I'∧L'=X'++((bm,.map es clock)::L)∧DW (l.take k)=some t∧OwB X' v' (beB l.length 2++t)) l.length ⟨0,X,v,[],by omega,rfl,zAC _,rfl,by simp [DW],by simpa using hX⟩ ?_;rintro m st I' L' ⟨k,X',v',t,hkm,rfl,hI,rfl,ht,hX'⟩;unfold ADY;try refine zqe ?_
 have hbad:k < l.length→DW l=none→K (.tuple #[.slice none 0 0,.bool false]) I' L:=by
  intro _ hn;have:=hk I' [] (.slice none 0 0) hI;simp only [En,hn] at this;exact this (zAN _ _)
 refine AP (λhb=>?_) (λhb=>?_)
 ·have hb:k < l.length:=by
   have:=of_decide_eq_true hb;omega
  obtain ⟨bt,off,c1,g1,gl,g2,g3⟩:=RL.ix hx (i:=k) zo zo;rw [BH hb] at g2;have g2:c1=_:=g2;subst g2;have hsplit:DW l=match DW (l.take k) with
   |none=>none
   |some s=>(DW (l[k]::l.drop (k+1))).map (s++·):=by
   rw [←ND,←zaz hb,zaf]
  rw [ht] at hsplit;simp only at hsplit
  have hf1:∀c,Vt l[k].fType=some c→clB [l[k].fName]=true→DW (l.take (k+1))=some (t++Xv l[k] c):=by
   intro c h1 h2;rw [zg hb,ND,ht];simp [DW,h1,h2]
  have htl:=NC ht;have hst:=JB (λf:TField=>f.fName.length+19) l k;have hst1:=JB (λf:TField=>f.fName.length+19) l (k+1);rw [zg hb,zM,zaL] at hst1;simp only [zG,zak,zai,zaC] at hst1;generalize hf:l[k]=f at *;obtain ⟨fn,ft⟩:=f;simp only at *
  simp only [g1,SSd,Nat.reduceAdd];refine rdN rfl (g3 _ _ hI (λ_ h=>by cases h)) ?_;refine Am (λbf=>?_);refine stB rfl rfl (Ak rfl) ?_;try refine zqe ?_
  refine rdb ?_;refine AQp hm ?_;have hcm:AIW ft=(Vt ft).map λc=>.agg #[.int .i64 c.1,.int .i64 c.2]:=rfl;rw [hcm];cases hc:Vt ft with
  |none=>
   have hn:DW l=none:=by rw [hsplit];simp [DW,hc]
   simp only [Option.map_none,lkV,SSd,Nat.reduceAdd];refine Am (λbc=>?_);refine stB rfl rfl (Ak rfl) ?_;simp only [zan,SSd,Nat.reduceAdd];exact zAG L (zAA (hbad hb hn))
  |some c=>
   obtain ⟨c1,c2⟩:=c;simp only [zbb,lkV,SSd,Nat.reduceAdd];refine Am (λbc=>?_);refine stB rfl rfl (Ak rfl) ?_;simp only [zad,SSd,Nat.reduceAdd];refine rdb ?_;refine Di [fn] rfl rfl (λI2 a hI2 hw2=>zAA ?_);refine call (KT hw2 zy ?_);cases hcl:clB [fn] with
   |false=>
    have hn:DW l=none:=by rw [hsplit];simp [DW,hc,hcl]
    simp only [zan,SSd,Nat.reduceAdd];have:=hk I2 [] (.slice none 0 0) (zAB hI hI2);simp only [En,hn] at this;exact zAG L (zAA (this (zAN _ _)))
   |true=>
    simp only [zad,SSd,Nat.reduceAdd];refine rdb ?_;refine Di [fn] rfl rfl (λI3 a hI3 hw3=>zAA ?_);have hln2:(beB (l.length:Nat) 2++t).length≤100000000010:=by
     rw [zk,Bv];omega
    have htx:(txB [fn]).length=fn.length+1:=by rw [Ja];simp
    refine call (AHE (X:=X') hX' hw3 zy zo (λX1 u1 hX1=>?_));refine call (Ho (X:=X1) hX1 0 4 4 rfl zo (by rw [zk];omega) (λX2 u2 hX2=>?_));refine call (Ho (X:=X2) hX2 0 2 2 rfl zo (by simp only [zk,Bv] at *; omega) (λX3 u3 hX3=>?_));refine AFZ [(bc,.cells [.int .i64 c1,.int .i64 c2].toArray 199 (0,0))] ?_;try refine zqe ?_
    refine BM ?_;refine call (Ho (X:=X3) hX3 c1 4 4 rfl zo (by simp only [zk,Bv] at *; omega) (λX4 u4 hX4=>?_));refine Dc (zAC _) ?_;try refine zqe ?_
    refine BM ?_;refine call (Ho (X:=X4) hX4 c2 2 2 rfl zo (by simp only [zk,Bv] at *; omega) (λX5 u5 hX5=>?_));refine call (Ho (X:=X5) hX5 (-1) 4 4 rfl zo (by simp only [zk,Bv] at *; omega) (λX6 u6 hX6=>?_));refine call (Ho (X:=X6) hX6 0 2 2 rfl zo (by simp only [zk,Bv] at *; omega) (λX7 u7 hX7=>?_));simp only [wrap_i64 ((k:Int)+1) zo,SSd,Nat.reduceAdd];refine zAG (X7++((bm,.map es clock)::L)) (zAA ⟨m - 1,by omega,k+1,X7,u7,t++Xv ⟨fn,ft⟩ (c1,c2),by omega,rfl,zAB hI (zAB hI2 hI3),rfl,hf1 _ hc hcl,?_⟩);have e:beB (l.length:Nat) 2++(t++Xv ⟨fn,ft⟩ (c1,c2))=beB (l.length:Nat) 2++t++txB [fn]++beB 0 4++beB 0 2++beB c1 4++beB c2 2++beB (-1) 4++beB 0 2:=by
     simp only [Xv,zi]
    rw [e];exact hX7
 ·have hb:¬k < l.length:=by
   have:=of_decide_eq_false hb;omega
  rw [zY zo] at ht;unfold ADX;simp only [zAQ hx,SSd,Nat.reduceAdd];have e:decide ((l.length:Int)≤1600)=decide (l.length≤1600):=by
   by_cases h:l.length≤1600
   ·rw [decide_eq_true h,decide_eq_true zo]
   ·rw [decide_eq_false h,decide_eq_false zo]
  have:=hk I' X' v' hI;simp only [En,ht] at this;rw [e];exact zAG (X'++L) (zAA (this hX'))
end
section
variable {ω:Om}{I:Imm}{L F:LH}{K:Value→M}
theorem Vx (c:TCell)(h:c.fNull=false∨c.fText=[]):(FC c).length=4+c.fText.length:=by
 unfold FC;split
 ·rename_i h1
  rcases h with h|h
  ·rw [h1] at h;cases h
  ·rw [h,Bv];rfl
 ·rw [zk,Bv]
theorem NH:∀{l:List TCell},(l.any λc=>c.fNull&&c.fText != [])=false→(l.flatMap FC).length=(l.map λc=>4+c.fText.length).sum
 |[],_=>rfl
 |c::l,h=>by
  simp only [List.any_cons,Bool.or_eq_false_iff] at h;rw [zbh,zk,NH h.2,Vx c (by
   cases hn:c.fNull with
   |false=>exact .inl rfl
   |true=>
    have:=h.1;rw [hn,Bool.true_and] at this;right
    cases ht:c.fText with
    |nil=>rfl
    |cons x y=>rw [ht] at this;cases this)]
  simp
theorem YI {w:Value}{l:List TCell}{v:Value}(hx:RL TCellV 2 I [] w l)(hno:(l.any λc=>c.fNull&&c.fText != [])=false)(hl:Bc l≤1073741824)(hnl:l.length≤100000000000)
  (hk:∀X v,OwB X v (beB l.length 2++l.flatMap FC)→K (.tuple #[v,.int .i64 (Bc l:Nat),.bool true]) I (X++L)) (p2 p3 p4:Value):
  ∀(X:LH) (v:Value),OwB X v (beB l.length 2)→Aw ((v,(Value.int .i64 0),()):Value×Value×Unit) (λs Kn1=>XR ω p2 p3 p4 (.int .i64 (Bc l:Nat)) w (.int .i64 (l.length:Nat)) s.1 s.2.1 Kn1 (λv=>Gh (K v))) I (X++L):=by
 intro X v hX;refine loop (λm st I' L'=>∃(k:Nat) (X':LH) (v':Value),k+m=l.length∧st=(v',Value.int .i64 (k:Nat),())∧I'=I∧L'=X'++L∧OwB X' v' (beB l.length 2++(l.take k).flatMap FC)) l.length ⟨0,X,v,by omega,rfl,rfl,rfl,by simpa using hX⟩ ?_;rintro m st I' L' ⟨k,X',v',hkm,rfl,rfl,rfl,hX'⟩;unfold XR;try refine zqe ?_
 refine AP (λhb=>?_) (λhb=>?_)
 ·have hb:k < l.length:=by
   have:=of_decide_eq_true hb;omega
  obtain ⟨bt,off,c1,g1,gl,g2,g3⟩:=RL.ix hx (i:=k) zo zo;rw [BH hb] at g2;have g2:c1=_:=g2;subst g2;have et:(l.take (k+1)).flatMap FC=(l.take k).flatMap FC++FC l[k]:=by
   rw [zg hb,List.flatMap_append];simp
  have hno1:∀j,((l.take j).any λc=>c.fNull&&c.fText != [])=false:=λj=>by
   have h:=hno;rw [←zaf j l,List.any_append,Bool.or_eq_false_iff] at h;exact h.1
  have hlk:=NH (hno1 (k+1));have hst:=JB (λc:TCell=>4+c.fText.length) l (k+1);rw [et,zk] at hlk;unfold Bc at hl;have hcl:(FC l[k]).length=4+l[k].fText.length∨l[k].fNull=true:=by
   cases h:l[k].fNull with
   |true=>exact .inr rfl
   |false=>exact .inl (Vx _ (.inl h))
  generalize hf:l[k]=f at *;obtain ⟨cn,ct⟩:=f;simp only at *
  have hnext:∀X2 u2,OwB X2 u2 (beB l.length 2++(l.take k).flatMap FC++FC ⟨cn,ct⟩)→∃m',m' < m∧∃(k':Nat) (X'':LH) (v'':Value),k'+m'=l.length∧(u2,Value.int .i64 ((k:Int)+1),())=(v'',Value.int .i64 (k':Nat),())∧I'=I'∧X2++L=X''++L∧OwB X'' v'' (beB l.length 2++(l.take k').flatMap FC):=by
   intro X2 u2 h;exact ⟨m - 1,by omega,k+1,X2,u2,by omega,rfl,rfl,rfl,by rw [et,←zi];exact h⟩
  simp only [g1,SSd,Nat.reduceAdd];refine rdN rfl (g3 _ _ (zAC _) (λ_ h=>by cases h)) ?_;refine Am (λbf=>?_);refine stB rfl rfl (Ak rfl) ?_;try refine zqe ?_
  refine rdb ?_;cases cn with
  |true=>
   try refine zqe ?_
   unfold ADU Su;refine call (Ho (X:=X') hX' (-1) 4 4 rfl zo (by rw [zk,Bv];omega) (λX1 u1 hX1=>?_));simp only [wrap_i64 ((k:Int)+1) zo,SSd,Nat.reduceAdd];exact zAG (X1++L) (zAA (hnext X1 u1 hX1))
  |false=>
   have hcl:(FC ⟨false,ct⟩).length=4+ct.length:=hcl.resolve_right zy;try refine zqe ?_
   unfold Ye;refine AFZ [(bf,.cells [.bool false,.string ⟨ct.toArray⟩].toArray 113 (0,0))] ?_;try refine zqe ?_
   refine BM ?_;try refine zqe ?_
   refine call (Ho (X:=X') hX' ct.length 4 4 rfl zo (by rw [zk,Bv];omega) (λX1 u1 hX1=>?_));refine Dc (zAC _) ?_;try refine zqe ?_
   refine BM ?_;refine BQ (X:=X1) (n:=1) (m:=ct.length) rfl hX1 (news:=Lib.byteCells ct) (.inr (.inr ⟨⟨ct.toArray⟩,rfl,rfl,rfl,rfl⟩)) (λu hu=>?_) (by simp only [zk,Bv];omega) (by simp only [zk,Bv];omega) (λX2 u2 hX2=>?_)
   ·obtain ⟨d,_,rfl⟩:=zal.1 hu;rfl
   unfold Su;simp only [wrap_i64 ((k:Int)+1) zo,SSd,Nat.reduceAdd];refine zAG (X2++L) (zAA (hnext X2 u2 ?_));have e:beB (l.length:Nat) 2++(l.take k).flatMap FC++FC ⟨false,ct⟩=beB (l.length:Nat) 2++(l.take k).flatMap FC++beB ct.length 4++ct:=by
    simp [FC]
   rw [e];exact OwB.mk hX2
 ·have hb:¬k < l.length:=by
   have:=of_decide_eq_false hb;omega
  rw [zY zo] at hX';exact zAA (hk X' v' hX')
theorem YH {w:Value}{l:List TCell}(hx:RL TCellV 2 I [] w l)(hl:Bc l≤100000000000)(hk:∀X v,OwB X v (EX l).1→K (.tuple #[v,.int .i64 (EX l).2.1,.bool (EX l).2.2]) I (X++L)):CT ω 94 #[w] K I L:=by
 have hln:l.length≤100000000000:=by
  have h:l.length≤(l.map λc=>4+c.fText.length).sum:=by
   clear hl hx hk;induction l with
   |nil=>simp
   |cons x l ih=>simp only [zG,zai,zf];omega
  unfold Bc at hl;omega
 refine APs ?_;unfold AOu;simp only [zAQ hx,SSd,Nat.reduceAdd];refine loop (λm st I' L'=>∃(k:Nat),k+m=l.length∧st=(Value.slice none 0 0,Value.int .i64 0,Value.bool false,Value.int .i64 (Bc (l.take k):Nat),Value.int .i64 (k:Nat),())∧I'=I∧L'=L∧((l.take k).any λc=>c.fNull&&c.fText != [])=false) l.length ⟨0,by omega,rfl,rfl,rfl,rfl⟩ ?_;rintro m st I' L' ⟨k,hkm,rfl,rfl,rfl,hno⟩;unfold ADW;try refine zqe ?_
 refine AP (λhb=>?_) (λhb=>?_)
 ·have hb:k < l.length:=by
   have:=of_decide_eq_true hb;omega
  obtain ⟨bt,off,c1,g1,gl,g2,g3⟩:=RL.ix hx (i:=k) zo zo;rw [BH hb] at g2;have g2:c1=_:=g2;subst g2;have en:Bc (l.take (k+1))=Bc (l.take k)+(4+l[k].fText.length):=by
   unfold Bc;rw [zg hb,zM,zaL];simp only [zG,zak,zai,zaC];omega
  have hst:=JB (λc:TCell=>4+c.fText.length) l (k+1);have hle:Bc (l.take (k+1))≤Bc l:=by unfold Bc;omega
  have hany:((l.take (k+1)).any λc=>c.fNull&&c.fText != [])=(l[k].fNull&&l[k].fText != []):=by
   rw [zg hb,List.any_append,hno];simp
  have hall:(l[k].fNull&&l[k].fText != [])=true→(l.any λc=>c.fNull&&c.fText != [])=true:=λh=>List.any_eq_true.2 ⟨l[k],zaG hb,h⟩;generalize hf:l[k]=f at *;obtain ⟨cn,ct⟩:=f;simp only at *
  simp only [g1,SSd,Nat.reduceAdd];refine rdN rfl (g3 _ _ (zAC _) (λ_ h=>by cases h)) ?_;refine Am (λbf=>?_);refine stB rfl rfl (Ak rfl) ?_;try refine zqe ?_
  refine rdb ?_;have e0:BF .neq (.string ⟨ct.toArray⟩) (.string ⟨#[]⟩)=some (.bool (!(ct==[]))):=sNe ct [];have hnext:((l.take (k+1)).any λc=>c.fNull&&c.fText != [])=false→∃m',m' < m∧∃(k':Nat),k'+m'=l.length∧(Value.slice none 0 0,Value.int .i64 0,Value.bool false,Value.int .i64 ((Bc (l.take k):Int)+(4+ct.length)),Value.int .i64 ((k:Int)+1),())=(Value.slice none 0 0,Value.int .i64 0,Value.bool false,Value.int .i64 (Bc (l.take k'):Nat),Value.int .i64 (k':Nat),())∧I'=I'∧L'=L'∧((l.take k').any λc=>c.fNull&&c.fText != [])=false:=by
   intro h;exact ⟨m - 1,by omega,k+1,by omega,by rw [en];simp,rfl,rfl,h⟩
  have w1:IntKind.i64.wrap (4+(ct.length:Int))=4+ct.length:=wrap_i64 _ zo;have w2:IntKind.i64.wrap ((Bc (l.take k):Int)+(4+ct.length))=(Bc (l.take k):Int)+(4+ct.length):=wrap_i64 _ zo;cases cn with
  |true=>
   try refine zqe ?_
   refine rdb ?_;simp only [e0,SSd,Nat.reduceAdd];cases he:(ct==[]) with
   |true=>
    simp only [zad,SSd,Nat.reduceAdd];refine rdb ?_;simp only [w1,w2,wrap_i64 ((k:Int)+1) zo,SSd,Nat.reduceAdd];have hct:ct=[]:=by simpa using he
    refine zAG L' (zAA (hnext ?_));rw [hany,hct];rfl
   |false=>
    simp only [zan,SSd,Nat.reduceAdd];have h1:(l.any λc=>c.fNull&&c.fText != [])=true:=hall (by simp only [bne,he];rfl);have:=hk [] (.slice none 0 0);simp only [EX,h1,if_true] at this;exact zAG L' (zAA (this (zAN _ _)))
  |false=>
   try refine zqe ?_
   refine rdb ?_;simp only [w1,w2,wrap_i64 ((k:Int)+1) zo,SSd,Nat.reduceAdd];exact zAG L' (zAA (hnext (by rw [hany];rfl)))
 ·have hb:¬k < l.length:=by
   have:=of_decide_eq_false hb;omega
  rw [zY zo] at hno ⊢;unfold ADV;unfold EX at hk;rw [if_neg (by rw [hno];decide)] at hk;have hout:(1073741824 < Bc l+4∨1600 < l.length)→Sv ω w (.slice none 0 0) (.int .i64 0) (.bool false) (.int .i64 (Bc l:Nat)) (λv=>Gh (K v)) I' L':=by
   intro h;rw [if_pos h] at hk;unfold Sv;simp only [zAQ hx,SSd,Nat.reduceAdd];have e:decide ((l.length:Int)≤1600)=decide (l.length≤1600):=by
    by_cases h:l.length≤1600
    ·rw [decide_eq_true h,decide_eq_true zo]
    ·rw [decide_eq_false h,decide_eq_false zo]
   rw [e];exact zAA (hk [] _ (zAN _ _))
  simp only [wrap_i64 ((Bc l:Int)+4) zo,SSd,Nat.reduceAdd];refine BZ (λhb1=>?_) (λhb1=>?_)
  ·have hb1:¬(1073741824:Int) < (Bc l:Int)+4:=of_decide_eq_false (by simpa using hb1);simp only [zAQ hx,SSd,Nat.reduceAdd];refine AP (λhb2=>?_) (λhb2=>?_)
   ·exact hout (.inr (by have:=of_decide_eq_true hb2;omega))
   ·have hb2:=of_decide_eq_false hb2;rw [if_neg zo] at hk;refine call (AIj _ 2 2 rfl zo (λX v hX=>?_));exact YI (v:=v) hx hno zo hln hk _ _ _ X v hX
  ·have hb1:(1073741824:Int) < (Bc l:Int)+4:=by simpa using hb1
   exact hout (.inl zo)
end
section
variable {ω:Om}{I:Imm}{L F:LH}{K:Value→M}
theorem Xm {x y:TBack}{cx cy:List Value}(hx:TBackV I x cx)(hy:TBackV I y cy)(hk:K (.bool (RN x y)) I L):CT ω 98 #[.agg cx.toArray,.agg cy.toArray] K I L:=by
 obtain ⟨v0,v1,rfl,h0,h1⟩:=hx;obtain ⟨w0,w1,rfl,g0,g1⟩:=hy;refine APo ?_;unfold AOq;have hs:RN x y=(x.fKind==y.fKind&&(x.fName==y.fName&&(x.fText==y.fText&&(x.fPid==y.fPid&&(x.fSecret==y.fSecret&&(x.fStatus==y.fStatus&&(x.fState==y.fState&&(x.fFatal==y.fFatal&&(x.fFields.length==y.fFields.length&&x.fCells.length==y.fCells.length))))))))):=by
  unfold RN;simp only [Bool.and_assoc]
 rw [hs] at hk;have l0:=zAQ h0;have l1:=zAQ h1;have m0:=zAQ g0;have m1:=zAQ g1;have en:∀a b:Nat,((a:Int)==(b:Int))=(a==b):=λa b=>by
  by_cases h:a=b
  ·subst h;simp
  ·rw [beq_false_of_ne h,beq_false_of_ne zo]
 try refine zqe ?_
 refine Am (λb1=>?_);try refine zqe ?_
 refine Am (λb2=>?_);repeat' first
  |(with_reducible refine rdb ?_)
  |(with_reducible refine BZ (λhb=>?_) (λhb=>?_))
  |(simp only [l0,l1,m0,m1,en,SSd,Nat.reduceAdd])
 all_goals first
  |(refine zAG L (zAA ?_);simp_all;done)
  |skip
 all_goals (refine zAG L (zAA (APk hk ?_));simp_all)
theorem ABM (k:Nat)(hk10:k < 10)(hk:K (.int .u8 (tagsW.getD k 0).toNat) I L):CT ω 100 #[.int .i64 (k:Nat)] K I L:=by
 refine AOd ?_;unfold AKn;have e:Fq (.string ⟨tagsW.toArray⟩) (.int .i64 (k:Nat))=some (.int .u8 (tagsW.getD k 0).toNat):=by
  have hlt:k < tagsW.length:=hk10;rw [ixS tagsW (zao hlt),zbf,zao hlt];rfl
 show Pv (Fq (.string ⟨tagsW.toArray⟩) _) _ _ _;rw [e];exact zAA hk
theorem Vs {w:Value}{ls:List Bs}(hx:RL ARC 1 I [] w ls)(hn:ls.length≤1000)(hl:ls.flatten.length≤1000000000000)(hk:∀X v,OwB X v ls.flatten→K v I (X++L)):CT ω 99 #[w] K I L:=by
 refine APn ?_;unfold AOp;simp only [zAQ hx,SSd,Nat.reduceAdd];have hstep:∀k (hk:k < ls.length),(ls.take (k+1)).flatten=(ls.take k).flatten++ls[k]:=λk hk=>by
  rw [zg hk,List.flatten_append];simp
 have hle:∀k,(ls.take k).flatten.length≤ls.flatten.length:=λk=>by
  have h:ls.flatten=(ls.take k).flatten++(ls.drop k).flatten:=by rw [←List.flatten_append,zaf]
  rw [h,zk];omega
 refine loop (λm st I' L'=>∃k:Nat,k+m=ls.length∧st=(Value.int .i64 ((ls.take k).flatten.length:Nat),Value.int .i64 (k:Nat),())∧I'=I∧L'=L) ls.length ⟨0,by omega,rfl,rfl,rfl⟩ ?_;rintro m st I' L' ⟨k,hkm,rfl,rfl,rfl⟩;unfold ADS;try refine zqe ?_
 refine AP (λhb=>?_) (λhb=>?_)
 ·have hb:k < ls.length:=by
   have:=of_decide_eq_true hb;omega
  obtain ⟨bt,off,c1,g1,gl,g2,g3⟩:=RL.ix hx (i:=k) zo zo;rw [BH hb] at g2;obtain ⟨u,rfl,hu⟩:=g2;have h1:=hle (k+1);have h2:=hstep k hb;rw [h2,zk] at h1;simp only [g1,SSd,Nat.reduceAdd];refine rd1 (g3 _ _ (zAC _) (λ_ h=>by cases h) 0 _ rfl) ?_;have hneg:decide (((((ls.take k).flatten.length:Nat):Int)+(ls[k].length:Nat)) < 0)=false:=decide_eq_false zo;simp only [hu.len,wrap_i64 ((((ls.take k).flatten.length:Nat):Int)+(ls[k].length:Nat)) zo,hneg,SSd,Nat.reduceAdd];unfold ADR;simp only [wrap_i64 ((k:Int)+1) zo,SSd,Nat.reduceAdd];exact zAA ⟨m - 1,by omega,k+1,by omega,by rw [h2,zk];simp,rfl,rfl⟩
 have hb:¬k < ls.length:=by
  have:=of_decide_eq_false hb;omega
 rw [zY zo];unfold ADQ;refine call ?_;have hgrow:∀(n:Nat) (K:Value→M),n≤1000000000000→(∀X v,OwB X v []→K v I' (X++L'))→CT ω 122 #[.slice none 0 0,.int .i64 (n:Nat)] K I' L':=by
  intro n K hn hk;refine AOO ?_;unfold AKZ;have hneg:decide (((n:Nat):Int) < 0)=false:=decide_eq_false zo;simp only [hneg,SSd,Nat.reduceAdd];unfold AAK;have e1:IntKind.i64.wrap (((0:Nat):Int) - ((0:Nat):Int))=0:=rfl;have e2:IntKind.i64.wrap (((n:Nat):Int) - 0)=(n:Nat):=by rw [wrap_i64 _ zo];omega
  simp only [YJ,Hl,e1,e2,SSd,Nat.reduceAdd];refine AP (λhb=>?_) (λhb=>?_)
  ·have e3:Cb 1 (.slice none 0 0) none (some (.int .i64 ((0:Nat):Int))) none=some (.slice none 0 0):=rfl;simp only [e3,SSd,Nat.reduceAdd];refine ⟨none,0,0,n,rfl,rfl,Ak rfl,by omega,by omega,.inr (.inr ⟨by have:=of_decide_eq_true hb;omega,by omega,by omega,[],L',.inl ⟨none,0,rfl,rfl,rfl⟩,List.Sublist.refl _,λb c hc=>?_⟩)⟩;have e4:Cb 1 (.slice (some ⟨b,0,none⟩) n c) none (some (.int .i64 ((0:Nat):Int))) none=some (.slice (some ⟨b,0,none⟩) 0 c):=by
    simp [Cb,DL,Addr.add]
   refine zAA ?_;simp only [e4,SSd,Nat.reduceAdd];refine zAA (hk [(b,_)] _ ⟨rfl,.inr ⟨b,c,_,rfl,rfl,?_,zaw _,λj u hu=>by cases hu⟩⟩);simp only [Array.size_append,EY];show 0+n * 1+(c - n) * 1=c * 1;omega
  ·exact zAA (hk [] _ (zAN _ _))
 refine hgrow _ _ hl (λX v hX=>?_);simp only [zAQ hx,SSd,Nat.reduceAdd];refine loop (λm st I2 L2=>∃(k:Nat) (X':LH) (v':Value),k+m=ls.length∧st=(v',Value.int .i64 (k:Nat),())∧I2=I'∧L2=X'++L'∧OwB X' v' (ls.take k).flatten) ls.length ⟨0,X,v,by omega,rfl,rfl,rfl,by simpa using hX⟩ ?_;rintro m st I2 L2 ⟨k,X',v',hkm,rfl,rfl,rfl,hX'⟩;unfold ADP;try refine zqe ?_
 refine AP (λhb=>?_) (λhb=>?_)
 ·have hb:k < ls.length:=by
   have:=of_decide_eq_true hb;omega
  obtain ⟨bt,off,c1,g1,gl,g2,g3⟩:=RL.ix hx (i:=k) zo zo;rw [BH hb] at g2;obtain ⟨u,rfl,hu⟩:=g2;have h1:=hle (k+1);have h2:=hstep k hb;rw [h2,zk] at h1;simp only [g1,SSd,Nat.reduceAdd];refine rd1 (g3 _ _ (zAC _) (λ_ h=>by cases h) 0 _ rfl) ?_;refine BQ (X:=X') (n:=1) (m:=ls[k].length) rfl hX' (news:=Lib.byteCells ls[k]) (SlI.news hu) (λu hu=>?_) zo zo (λX2 u2 hX2=>?_)
  ·obtain ⟨d,_,rfl⟩:=zal.1 hu;rfl
  simp only [wrap_i64 ((k:Int)+1) zo,SSd,Nat.reduceAdd];exact zAA ⟨m - 1,by omega,k+1,X2,u2,by omega,rfl,rfl,rfl,by rw [h2];exact OwB.mk hX2⟩
 ·have hb:¬k < ls.length:=by
   have:=of_decide_eq_false hb;omega
  rw [zY zo] at hX';exact zAA (hk X' v' hX')
end
theorem APg {I:Imm}{L:LH}{K:Value→M}{o:Obj}(o':Obj)(e:o=o')(h:∀b,K (.pointer (some ⟨b,0,none⟩)) I ((b,o')::L)):New o (SL.gh K) I L:=by subst e;exact Am h
def AsP (l:List Value)(cs:Bs):Prop:=l.length=256∧∀i,i < 256→l[i]? =some (.bool (cs.any λc=>c.toNat==i))
abbrev AsO (l:List Value):Obj:=.cells l.toArray 232 (0,0)
def as0:List Value:=List.replicate 256 (.bool false)
theorem AFN (b:Nat)(c:UInt8):MZ 1 256 (.pointer (some ⟨b,0,none⟩)) (.int .u8 c.toNat)=some (.pointer (some ⟨b,c.toNat,none⟩)):=by
 have:=c.toNat_lt;have h2:((c.toNat:Int) < 256):=by omega
 simp [MZ,h2,Addr.add]
theorem AsP.one {l:List Value}{cs:Bs}(h:AsP l cs):∀u∈l,u.oneCell'=true:=λu hu=>by
 obtain ⟨i,hi⟩:=List.getElem?_of_mem hu;have hlt:=(zaj.1 hi).1;have:=h.2 i (by rw [←h.1];exact hlt);rw [hi] at this;simp only [zn] at this;subst this;rfl
section
variable {ω:Om}{I:Imm}{L:LH}{K:Value→M}
theorem Ew {b n T:Nat}{l:List Value}{fr:Nat×Nat}[h:InL b L (.cells l.toArray T fr)](hl:l.length=n)(hk:K (.agg l.toArray) I L):Rv none (AO n (.pointer (some ⟨b,0,none⟩))) K I L:=rdB hl hk
theorem YP (cs:Bs)(h7:cs.all (· < 128)=true)(hn:cs.length≤1000000)(hk:∀l,AsP l cs→K (.tuple #[.agg l.toArray,.bool true]) I L):CT ω 144 #[.string ⟨cs.toArray⟩] K I L:=by
 refine AOG ?_;unfold AKR;refine APg (AsO as0) (by kernel_rfl) (λb=>?_);have h0:AsP as0 (cs.take 0):=⟨by simp [as0],λi hi=>by unfold as0;rw [List.getElem?_replicate_of_lt hi];rfl⟩;refine loop (λm st I' L'=>∃(k:Nat) (l:List Value),k+m=cs.length∧st=(Value.bool false,Value.int .i64 (k:Nat),())∧I'=I∧L'=(b,AsO l)::L∧AsP l (cs.take k)) cs.length ⟨0,as0,by omega,rfl,rfl,rfl,h0⟩ ?_;rintro m st I' L' ⟨k,l,hkm,rfl,rfl,rfl,hl⟩;unfold AAE;try refine zqe ?_
 refine AP (λhb=>?_) (λhb=>?_)
 ·have hb:k < cs.length:=by
   have:=of_decide_eq_true hb;omega
  have hc:cs[k]? =some cs[k]:=zao hb;have h8:¬((128:Int)≤(cs[k].toNat:Nat)):=by
   have:=zaD.1 h7 cs[k] (zaG hb);have:cs[k] < 128:=by simpa using this
   have:cs[k].toNat < 128:=by simpa [UInt8.lt_iff_toNat_lt] using this
   omega
  simp only [ixS cs hc,decide_eq_false h8,AFN,wrap_i64 ((k:Int)+1) zo,SSd,Nat.reduceAdd];have hlt:cs[k].toNat < l.length:=by rw [hl.1];exact cs[k].toNat_lt
  refine st1 (g:=⟨rfl,hlt⟩) rfl ?_;refine zAA ⟨m - 1,by omega,k+1,_,by omega,rfl,rfl,rfl,by simpa using hl.1,λi hi=>?_⟩;rw [zg hb,List.any_append,List.getElem?_set];by_cases he:cs[k].toNat=i
  ·rw [if_pos he,if_pos hlt];subst he;simp
  ·rw [if_neg he,hl.2 i hi];simp [he]
 ·have hb:¬k < cs.length:=by
   have:=of_decide_eq_false hb;omega
  rw [zY zo] at hl;unfold AAD;refine Ew hl.1 ?_;refine stB hl.1 hl.1 hl.one ?_;refine Ew hl.1 ?_;exact zAG L (zAA (hk l hl))
theorem Va {b:Nat}{l:List Value}{cs:Bs}[h:InL b L (AsO l)](hl:AsP l cs)(c:UInt8)(hk:K (.bool (cs.any (·==c))) I L):CT ω 178 #[.pointer (some ⟨b,0,none⟩),.int .u8 c.toNat] K I L:=by
 refine ANx ?_;unfold AKJ;simp only [AFN,SSd,Nat.reduceAdd];have e:(cs.any λd=>d.toNat==c.toNat)=cs.any (·==c):=by
  congr 1;funext d
  by_cases hd:d=c
  ·subst hd;simp
  ·have:¬d.toNat=c.toNat:=λh=>hd (UInt8.toNat_inj.1 h);rw [beq_false_of_ne this,beq_false_of_ne hd]
 refine rdb (g:=⟨hl.2 c.toNat c.toNat_lt⟩) ?_;rw [e];exact zAA hk
theorem XF {b:Nat}{l:List Value}{cs:Bs}[h:InL b L (AsO l)](hl:AsP l cs)(s:Bs)(hn:s.length≤1000000000000)(hk:∀k,k≤s.length→(s.drop k).all (λc=>cs.any (·==c))=true→K (.string ⟨(s.take k).toArray⟩) I L):CT ω 146 #[.string ⟨s.toArray⟩,.pointer (some ⟨b,0,none⟩)] K I L:=by
 refine AOE ?_;unfold AKP;refine loop (λm st I' L'=>m≤s.length∧st=(Value.string ⟨(s.take m).toArray⟩,())∧I'=I∧L'=L∧(s.drop m).all (λc=>cs.any (·==c))=true) s.length ⟨zt _,by rw [List.take_length],rfl,rfl,by simp⟩ ?_;rintro m st I' L' ⟨hm,rfl,rfl,rfl,hd⟩;unfold AAB;have hlen:(s.take m).length=m:=by rw [zB];omega
 simp only [hlen,SSd,Nat.reduceAdd];refine AP (λhb=>?_) (λhb=>?_)
 ·obtain ⟨q,rfl⟩:∃q,m=q+1:=⟨m - 1,by have:=of_decide_eq_true hb;omega⟩;have hq:q < s.length:=by omega
  have hc:(s.take (q+1))[q]? =some s[q]:=by rw [List.getElem?_take_of_lt zo];exact zao hq
  have ew:IntKind.i64.wrap (((q+1:Nat):Int) - 1)=(q:Nat):=by rw [wrap_i64 _ zo];omega
  simp only [ew,ixS _ hc,SSd,Nat.reduceAdd];refine call (Va hl s[q] ?_);try refine zqe ?_
  refine AP (λhb2=>?_) (λhb2=>?_)
  ·exact zAA (hk _ hm hd)
  ·have e1:(s.take (q+1)).take q=s.take q:=by rw [List.take_take];congr 1;omega
   simp only [hlen,ew,ALe (s.take (q+1)) (b:=q) zo,e1,SSd,Nat.reduceAdd];refine zAA ⟨q,by omega,by omega,rfl,rfl,rfl,?_⟩;rw [zaz hq,List.all_cons,hd];have:(cs.any (·==s[q]))=true:=by simpa using hb2
   rw [this];rfl
 ·exact zAA (hk _ hm hd)
theorem XG {b:Nat}{l:List Value}{cs:Bs}[h:InL b L (AsO l)](hl:AsP l cs)(s:Bs)(hn:s.length≤1000000000000)(hk:∀t,(t==[])=s.all (λc=>cs.any (·==c))→K (.string ⟨t.toArray⟩) I L):CT ω 145 #[.string ⟨s.toArray⟩,.pointer (some ⟨b,0,none⟩)] K I L:=by
 refine AOF ?_;unfold AKQ;refine loop (λm st I' L'=>∃k,k+m=s.length∧st=(Value.string ⟨(s.drop k).toArray⟩,())∧I'=I∧L'=L∧(s.take k).all (λc=>cs.any (·==c))=true) s.length ⟨0,by omega,rfl,rfl,rfl,rfl⟩ ?_;rintro m st I' L' ⟨k,hk2,rfl,rfl,rfl,hd⟩;unfold AAC;have hlen:(s.drop k).length=m:=by rw [zZ];omega
 simp only [hlen,SSd,Nat.reduceAdd];have hsp:s.all (λc=>cs.any (·==c))=(s.drop k).all (λc=>cs.any (·==c)):=by
  conv=>lhs;rw [←zaf k s]
  rw [zbn,hd];rfl
 refine AP (λhb=>?_) (λhb=>?_)
 ·have hq:k < s.length:=by have:=of_decide_eq_true hb;omega
  have ed:=zaz hq;have hc:(s.drop k)[0]? =some s[k]:=by rw [ed];rfl
  simp only [show (Value.int .i64 0)= .int .i64 ((0:Nat):Int) from rfl,ixS _ hc,SSd,Nat.reduceAdd];refine call (Va hl s[k] ?_);try refine zqe ?_
  refine AP (λhb2=>?_) (λhb2=>?_)
  ·have hb2:(cs.any (·==s[k]))=false:=by simpa using hb2
   refine zAA (hk _ ?_);rw [hsp,ed,List.all_cons,hb2];rfl
  ·have hb2:(cs.any (·==s[k]))=true:=by simpa using hb2
   have e1:(s.drop k).drop 1=s.drop (k+1):=by rw [List.drop_drop]
   simp only [show (Value.int .i64 1)= .int .i64 ((1:Nat):Int) from rfl,ABS (s.drop k) (a:=1) zo,e1,SSd,Nat.reduceAdd];refine zAA ⟨m - 1,by omega,k+1,by omega,rfl,rfl,rfl,?_⟩;rw [zg hq,zbn,hd];simpa using hb2
 ·have hm:m=0:=by have:=of_decide_eq_false hb;omega
  have e0:s.drop k=[]:=zQ zo;rw [e0] at hsp ⊢;exact zAA (hk [] (by rw [hsp];rfl))
def stSet:Bs:=[48,49,50,51,52,53,54,55,56,57,65,66,67,68,69,70,71,72,73,74,75,76,77,78,79,80,81,82,83,84,85,86,87,88,89,90]
theorem ADK (c:UInt8):stSet.any (·==c)=AHM c:=by
 have:=FY (p:=λc=>(stSet.any (·==c)==AHM c)) zq c;exact eq_of_beq this
theorem NM (s:Bs)(hn:s.length≤1000000000000)(hk:K (.bool (Ku s)) I L):CT ω 97 #[.string ⟨s.toArray⟩] K I L:=by
 refine APp ?_;unfold AOr;try refine zqe ?_
 refine BZ (λhb=>?_) (λhb=>?_)
 ·have h5:s.length=5:=by have:=eq_of_beq hb;omega
  refine call ?_;refine AOP ?_;unfold AKa;have hne:(s==[])=false:=by
   cases s with
   |nil=>cases h5
   |cons a s=>rfl
  show (Pv (BF .eql (.string ⟨s.toArray⟩) (.string ⟨([]:Bs).toArray⟩)) _) _ _;simp only [sEq,hne,SSd,Nat.reduceAdd];simp only [show (([48,49,50,51,52,53,54,55,56,57,65,66,67,68,69,70,71,72,73,74,75,76,77,78,79,80,81,82,83,84,85,86,87,88,89,90]:Bs)==[])=false from rfl,show ((([48,49,50,51,52,53,54,55,56,57,65,66,67,68,69,70,71,72,73,74,75,76,77,78,79,80,81,82,83,84,85,86,87,88,89,90]:Bs).length:Int)==1)=false from rfl,SSd,Nat.reduceAdd];refine call ?_;show Cal _ _ _ #[.string ⟨stSet.toArray⟩] _ _ _;refine YP stSet zq zx (λl hl=>?_);try refine zqe ?_
  refine APg (AsO as0) (by kernel_rfl) (λb=>?_);refine stB hl.1 rfl hl.one ?_;try refine zqe ?_
  unfold Tc;refine call (XF hl s hn (λk hk1 hk2=>?_));refine call (XG hl (s.take k) (by rw [zB];omega) (λt ht=>?_));have e:(t==[])=s.all AHM:=by
   rw [ht];conv=>rhs;rw [←zaf k s]
   rw [zbn];simp only [ADK] at hk2 ⊢;rw [hk2,Bool.and_true]
  have ek:Ku s=(t==[]):=by
   unfold Ku;rw [e,h5];rfl
  rw [ek] at hk;have e0:BF .eql (.string ⟨t.toArray⟩) (.string ⟨#[]⟩)=some (.bool (t==[])):=sEq t [];simp only [e0,SSd,Nat.reduceAdd];exact zAG L (zAA (zAA hk))
 ·have h5:(s.length==5)=false:=by
   have:((s.length:Int))≠5:=λh=>hb (by rw [h];rfl);exact beq_false_of_ne zo
  unfold Ku at hk;rw [h5] at hk;exact zAA hk
end
abbrev BkO (c:List Value):Obj:=.cells c.toArray 49 (0,0)
def EP (m:TBack):Nat:=m.fName.length+m.fText.length+m.fState.length+(m.fFields.map λf=>f.fName.length+19).sum+Bc m.fCells
section
variable {ω:Om}{I:Imm}{L F:LH}{K:Value→M}{m:TBack}{bm bo:Nat}{cm co:List Value}{p2 p3 p5 p6 p7:Value}
theorem Qm {o:TBack}{body:Bs}{long:Int}{may:Bool}{X:LH}{v:Value}(ht:DN m=(o,body,long,may))(hm:TBackV I m cm)(ho:TBackV I o co)(hX:OwB X v body)(hsz:body.length≤100000000100)(hlong:0≤long∧long≤100000000100)(hkind:0≤m.fKind)
  (hk:∀I' X v,Ext I I'→OwB X v (GU m).1→K (.tuple #[v,.int .i64 (GU m).2]) I' (X++F)):
  AZ ω (.pointer (some ⟨bm,0,none⟩)) p2 p3 (.pointer (some ⟨bo,0,none⟩)) v (.bool may) (.int .i64 long) (λv=>Gh (K v)) I (X++((bo,BkO co)::(bm,BkO cm)::F)):=by
 have hcm:=hm.len;have hco:=ho.len;unfold AZ;unfold GU at hk;simp only [ht] at hk;have bad:(!may|| !RN o m)=true→K (.tuple #[.slice none 0 0,.int .i64 230]) I F:=by
  intro h;have:=hk I [] (.slice none 0 0) (zAC _);rw [if_pos h] at this;exact this (zAN _ _)
 cases may with
 |false=>
  simp only [zan,SSd,Nat.reduceAdd];exact zAG F (zAA (bad rfl))
 |true=>
 simp only [zad,SSd,Nat.reduceAdd];refine Ew hco ?_;refine Ew hcm ?_;refine call (Xm ho hm ?_);cases hs:RN o m with
 |false=>
  simp only [zan,SSd,Nat.reduceAdd];exact zAG F (zAA (bad (by rw [hs];rfl)))
 |true=>
 simp only [hs,zad,Bool.or_self,zl,if_false] at hk;simp only [zad,SSd,Nat.reduceAdd];unfold ADc;obtain ⟨v0,v1,rfl,h0,h1⟩:=hm;try refine zqe ?_
 refine rdb ?_;try refine zqe ?_
 by_cases h10:(m.fKind==10)=true
 ·rw [if_pos h10] at hk;simp only [h10,SSd,Nat.reduceAdd];refine CU (v:=.int .u8 78) rfl zx rfl (λX1 u hX1=>?_);exact zAG (X1++F) (zAA (hk I X1 u (zAC _) hX1))
 rw [if_neg h10] at hk;simp only [zW.2 h10,SSd,Nat.reduceAdd];obtain ⟨a,k,rfl⟩:=hX.form;have hmax:(if ((body.length:Nat):Int) > long then ((body.length:Nat):Int) else long)=max long (body.length:Int):=by
  split <;> omega
 simp only [Hl,hmax,wrap_i64 (max long (body.length:Int)+4) zo,SSd,Nat.reduceAdd];by_cases hlg:(1073741824:Int) < max long (body.length:Int)+4
 ·rw [if_pos hlg] at hk;simp only [decide_eq_true hlg,SSd,Nat.reduceAdd];exact zAG F (zAA (hk I [] _ (zAC _) (zAN _ _)))
 rw [if_neg hlg] at hk;simp only [decide_eq_false hlg,SSd,Nat.reduceAdd];refine rdb ?_;obtain ⟨kk,hkk⟩:∃kk:Nat,m.fKind=kk:=⟨m.fKind.toNat,by omega⟩;have hk9:kk < 10:=by
  unfold DN at ht;by_cases h:kk < 10
  ·exact h
  ·have e:∀q:Int,q < 10→(m.fKind==q)=false:=λq hq=>beq_false_of_ne zo;have h10f:=zW.2 h10;rw [e 1 zo,e 3 zo,e 4 zo,e 5 zo,e 6 zo,e 2 zo,e 7 zo,e 9 zo] at ht;rw [e 8 zo,h10f] at ht;simp at ht
 rw [hkk,Int.toNat_natCast] at hk;rw [hkk];refine call (ABM kk hk9 ?_);refine CU (v:=.int .u8 (tagsW.getD kk 0).toNat) rfl zx rfl (λX1 u1 hX1=>?_);have hX1:OwB X1 u1 [tagsW.getD kk 0]:=hX1;simp only [Hl,wrap_i64 ((body.length:Int)+4) zo,SSd,Nat.reduceAdd];refine WA (Ho (X:=X1) hX1 _ 4 4 rfl zo zy (λX2 u2 hX2=>?_));obtain ⟨a2,k2,e2⟩:=hX2.form;refine SlO.freeze hX2 (λI1 hI1 hS1=>?_);refine SlO.freeze hX (λI2 hI2 hS2=>zAA ?_);have hb1:Bytes I2 u2 ([tagsW.getD kk 0]++beB ((body.length:Nat)+4) 4):=hS1.mono hI2;have hb2:Bytes I2 (.slice a body.length k) body:=hS2;refine Lr (n:=1) [u2,.slice a body.length k] rfl rfl (by rw [e2];simp [Value.cells]) (λI3 a3 hI3 hS3=>zAA ?_);refine call (Vs (ls:=[[tagsW.getD kk 0]++beB ((body.length:Nat)+4) 4,body]) (RL.ofI hS3 ?_) zy (by simp [Bv];omega) (λX3 u3 hX3=>?_))
 ·rw [e2];rw [e2] at hb1;exact ⟨rfl,⟨_,rfl,hb1.mono hI3⟩,rfl,⟨_,rfl,hb2.mono hI3⟩,rfl⟩
 ·have e:(GU m).1=(GU m).1:=rfl;refine zAG (X3++F) (zAA (hk I3 X3 u3 (zAB hI1 (zAB hI2 hI3)) ?_));simpa [zbr] using hX3
end
section
variable {ω:Om}{I:Imm}{L F:LH}{K:Value→M}{m:TBack}{bm bo:Nat}{v0 v1:Value}{p2 p3 p5 p6 p7:Value}
abbrev cmB (m:TBack)(v0 v1:Value):List Value:=[.int .i64 m.fKind,.string ⟨m.fName.toArray⟩,.string ⟨m.fText.toArray⟩,.int .i64 m.fPid,.int .i64 m.fSecret,.int .u8 m.fStatus,v0,v1,.string ⟨m.fState.toArray⟩,.bool m.fFatal]
theorem APe {o:TBack}{pre:Bs}{X:LH}{v:Value}(ht:DN m=(o,pre++txB [m.fText],0,clB [m.fName,m.fText]))(h0:RL TFieldV 2 I [] v0 m.fFields)(h1:RL TCellV 2 I [] v1 m.fCells)(hX:OwB X v pre)(nm:Bs)(ho:o={fKind:=m.fKind,fName:=nm,fText:=m.fText})
  (hsz:EP m≤10000000000) (hpre:pre.length≤10000000100) (hkind:0≤m.fKind)
  (hk:∀I' X v,Ext I I'→OwB X v (GU m).1→K (.tuple #[v,.int .i64 (GU m).2]) I' (X++F)):
  TA ω (.pointer (some ⟨bm,0,none⟩)) p2 p3 (.pointer (some ⟨bo,0,none⟩)) v p6 (.int .i64 0) (λv=>Gh (K v)) I (X++((bo,BkO [.int .i64 m.fKind,.string ⟨nm.toArray⟩,.string ⟨#[]⟩,.int .i64 0,.int .i64 0,.int .u8 0,.slice none 0 0,.slice none 0 0,.string ⟨#[]⟩,.bool false])::(bm,BkO (cmB m v0 v1))::F)):=by
 subst ho;have hm:TBackV I m (cmB m v0 v1):=⟨v0,v1,rfl,h0,h1⟩;have hs1:m.fName.length+m.fText.length≤10000000000:=by unfold EP at hsz;omega
 have leaf:∀(I':Imm) (w:Value),Ext I I'→StL I' w [m.fText]→CT ω 95 #[v,w] (λv119=>Gh (AZ ω (.pointer (some ⟨bm,0,none⟩)) p2 p3 (.pointer (some ⟨bo,0,none⟩)) v119 (.bool (clB [m.fName,m.fText])) (.int .i64 0) (λv=>Gh (K v)))) I' (X++((bo,BkO [.int .i64 m.fKind,.string ⟨nm.toArray⟩,.string ⟨m.fText.toArray⟩,.int .i64 0,.int .i64 0,.int .u8 0,.slice none 0 0,.slice none 0 0,.string ⟨#[]⟩,.bool false])::(bm,BkO (cmB m v0 v1))::F)):=by
  intro I' w hI hw;refine MI hX hw zy (by rw [Ja,zk];simp;omega) (λX1 v1' hX1=>zAA ?_);refine Qm (m:=m) ht (hm.mono hI) ⟨_,_,rfl,zAD none 0,zAD none 0⟩ hX1 (by rw [zk,Ja,zk];simp;omega) zo hkind (λI2 X2 v2 h2 h3=>hk I2 X2 v2 (zAB hI h2) h3)
 unfold TA;try refine zqe ?_
 refine rdb ?_;try refine zqe ?_
 refine st1 rfl ?_;refine Dy ?_;try refine zqe ?_
 refine BM ?_;try refine zqe ?_
 refine BM ?_;try refine zqe ?_
 refine BM ?_;repeat' first
  |refine zqi ?_ ?_
  |(with_reducible refine keepA ?_)
  |(refine Di [m.fName,m.fText] rfl rfl (λI' a hI' hw2=>zAA ?_))
  |(refine Di [m.fText] rfl rfl (λI' a hI' hw1=>zAA ?_))
  |(with_reducible refine call ?_;refine KT (StL.mono zA zE) zy ?_)
  |(with_reducible refine WA (leaf _ _ zE (StL.mono zA zE)))
theorem AIt {I0:Imm}{X:LH}[h:LSub X L](hI:Ext I0 I):Stay I0 X I L:=⟨hI,h.sub⟩
theorem APd {sev:Bs}(hsev:sev.length=5)(hsv:sev=if m.fFatal then [70,65,84,65,76] else [69,82,82,79,82])(h9:m.fKind=9)(h0:RL TFieldV 2 I [] v0 m.fFields)(h1:RL TCellV 2 I [] v1 m.fCells)
  (hsz:EP m≤10000000000)
  (hk:∀I' X v,Ext I I'→OwB X v (GU m).1→K (.tuple #[v,.int .i64 (GU m).2]) I' (X++F)):
  Sz ω (.pointer (some ⟨bm,0,none⟩)) p2 p3 (.pointer (some ⟨bo,0,none⟩)) p5 p6 (.int .i64 0) (.string ⟨sev.toArray⟩) (λv=>Gh (K v)) I ((bo,BkO [.int .i64 m.fKind,.string ⟨#[]⟩,.string ⟨m.fText.toArray⟩,.int .i64 0,.int .i64 0,.int .u8 0,.slice none 0 0,.slice none 0 0,.string ⟨m.fState.toArray⟩,.bool m.fFatal])::(bm,BkO (cmB m v0 v1))::F):=by
 have hm:TBackV I m (cmB m v0 v1):=⟨v0,v1,rfl,h0,h1⟩;have hs1:m.fState.length+m.fText.length≤10000000000:=by unfold EP at hsz;omega
 have ht:DN m=({fKind:=m.fKind,fState:=m.fState,fText:=m.fText,fFatal:=m.fFatal},txB [83::sev,86::sev,67::m.fState,77::m.fText]++[0],0,Ku m.fState&&clB [m.fText]):=by
  unfold DN;rw [h9];subst hsv;rfl
 have htl:(txB [83::sev,86::sev,67::m.fState,77::m.fText]).length=18+m.fState.length+m.fText.length:=by
  simp only [txB,zbh,List.flatMap_nil,zU,hsev];omega
 have a1:BF .add (.string ⟨#[83]⟩) (.string ⟨sev.toArray⟩)=some (.string ⟨(83::sev).toArray⟩):=AHU [83] sev zu;have a2:BF .add (.string ⟨#[86]⟩) (.string ⟨sev.toArray⟩)=some (.string ⟨(86::sev).toArray⟩):=AHU [86] sev zu;have a3:BF .add (.string ⟨#[67]⟩) (.string ⟨m.fState.toArray⟩)=some (.string ⟨(67::m.fState).toArray⟩):=AHU [67] m.fState zu;have a4:BF .add (.string ⟨#[77]⟩) (.string ⟨m.fText.toArray⟩)=some (.string ⟨(77::m.fText).toArray⟩):=AHU [77] m.fText zu;have last:∀(I':Imm) (X:LH) (v:Value) (may:Bool),Ext I I'→may=(Ku m.fState&&clB [m.fText])→OwB X v (txB [83::sev,86::sev,67::m.fState,77::m.fText]++[0])→AZ ω (.pointer (some ⟨bm,0,none⟩)) p2 p3 (.pointer (some ⟨bo,0,none⟩)) v (.bool may) (.int .i64 0) (λv=>Gh (K v)) I' (X++((bo,BkO [.int .i64 m.fKind,.string ⟨#[]⟩,.string ⟨m.fText.toArray⟩,.int .i64 0,.int .i64 0,.int .u8 0,.slice none 0 0,.slice none 0 0,.string ⟨m.fState.toArray⟩,.bool m.fFatal])::(bm,BkO (cmB m v0 v1))::F)):=by
  intro I' X v may hI hmay hX;subst hmay;exact Qm (m:=m) ht (hm.mono hI) ⟨_,_,rfl,zAD none 0,zAD none 0⟩ hX (by rw [zk,htl];simp;omega) zo zo (λI2 X2 v2 h2 h3=>hk I2 X2 v2 (zAB hI h2) h3)
 have app:∀(I':Imm) (L' X X0 R:LH) (v w:Value) (may:Bool) [SplitL X L' R] [SubP ((bo,BkO [.int .i64 m.fKind,.string ⟨#[]⟩,.string ⟨m.fText.toArray⟩,.int .i64 0,.int .i64 0,.int .u8 0,.slice none 0 0,.slice none 0 0,.string ⟨m.fState.toArray⟩,.bool m.fFatal])::(bm,BkO (cmB m v0 v1))::F) R] [LSub X0 L'],Ext I I'→may=(Ku m.fState&&clB [m.fText])→OwB X v (txB [83::sev,86::sev,67::m.fState,77::m.fText])→OwB X0 w [0]→
   App 5 1 1 #[(Value.int .u8 0)] v w (gh λv119=>AZ ω (.pointer (some ⟨bm,0,none⟩)) p2 p3 (.pointer (some ⟨bo,0,none⟩)) v119 (.bool may) (.int .i64 0) (λv=>Gh (K v))) I' L':=by
  intro I' L' X X0 R v w may _ _ hsub hI hmay hX hX0;refine We (X:=X) (F:=R) (n:=1) (m:=1) (news:=Lib.byteCells [0]) rfl hX (SlO.news hX0 hsub.sub) (λu hu=>?_) zo zo (λX2 u2 hX2=>?_)
  ·obtain ⟨d,_,rfl⟩:=zal.1 hu;rfl
  exact zAG (X2++_) (zAA (last I' X2 u2 may hI hmay (OwB.mk hX2)))
 unfold Sz;refine Dy ?_;try refine zqe ?_
 refine BM ?_;simp only [a1,a2,SSd,Nat.reduceAdd];refine BM ?_;simp only [a3,SSd,Nat.reduceAdd];refine BM ?_;simp only [a4,SSd,Nat.reduceAdd];cases hst:Ku m.fState with
 |false=>
  have stc:∀{K:Value→M} {I:Imm} {L:LH},K (.bool false) I L→CT ω 97 #[.string ⟨m.fState.toArray⟩] K I L:=λh=>NM _ zo (by rw [hst];exact h);repeat' first
   |refine zqi ?_ ?_
   |(with_reducible exact AIt zE)
   |(with_reducible refine keepA ?_)
   |(simp only [SV,SS,SSd,Nat.reduceAdd])
   |(refine Di [83::sev,86::sev,67::m.fState,77::m.fText] rfl rfl (λI' a hI' hw4=>zAA ?_))
   |(refine CU (v:=.int .u8 0) rfl zx rfl (λXz uz hXz=>?_))
   |(with_reducible refine call ?_;refine stc ?_)
   |(with_reducible refine call ?_;refine text0 (StL.mono hw4 zE) zy zo (λXt ut hXt=>?_))
   |(exact app _ _ _ _ _ _ _ _ zE (by rw [hst];rfl) hXt hXz)
 |true=>
  have stc:∀{K:Value→M} {I:Imm} {L:LH},K (.bool true) I L→CT ω 97 #[.string ⟨m.fState.toArray⟩] K I L:=λh=>NM _ zo (by rw [hst];exact h);repeat' first
   |refine zqi ?_ ?_
   |(with_reducible exact AIt zE)
   |(with_reducible refine keepA ?_)
   |(simp only [SV,SS,SSd,Nat.reduceAdd])
   |(with_reducible refine rdb ?_)
   |(refine Di [m.fText] rfl rfl (λI' a hI' hw1=>zAA ?_))
   |(refine Di [83::sev,86::sev,67::m.fState,77::m.fText] rfl rfl (λI' a hI' hw4=>zAA ?_))
   |(refine CU (v:=.int .u8 0) rfl zx rfl (λXz uz hXz=>?_))
   |(with_reducible refine call ?_;refine stc ?_)
   |(with_reducible refine call ?_;refine KT (StL.mono hw1 zE) zy ?_)
   |(with_reducible refine call ?_;refine text0 (StL.mono hw4 zE) zy zo (λXt ut hXt=>?_))
   |(exact app _ _ _ _ _ _ _ _ zE (by rw [hst];rfl) hXt hXz)
end
section
variable {ω:Om}{I:Imm}{L F:LH}{K:Value→M}{m:TBack}
theorem QM (l:List TField):(En l).1.length≤2+(l.map λf=>f.fName.length+19).sum:=by
 unfold En;cases h:DW l with
 |none=>simp
 |some t=>simp only [zk,Bv,NC h];omega
theorem Qb (l:List TCell):(EX l).1.length≤Bc l∧0≤(EX l).2.1∧(EX l).2.1≤Bc l:=by
 unfold EX;split
 ·simp
 split
 ·simp
 ·rename_i h _
  simp only [zk,Bv,NH (zW.2 h)];unfold Bc;omega
theorem FL.mono {I I':Imm}{v:Value}{l:List TField}(h:RL TFieldV 2 I [] v l)(hI:Ext I I'):RL TFieldV 2 I' [] v l:=zAL (λ_ _ h=>TFieldV.mono h hI) h hI (λ_ h=>h)
theorem CL.mono {I I':Imm}{v:Value}{l:List TCell}(h:RL TCellV 2 I [] v l)(hI:Ext I I'):RL TCellV 2 I' [] v l:=zAL (λ_ _ h=>TCellV.mono h hI) h hI (λ_ h=>h)
theorem AEh {cm:List Value}(hm:TBackV I m cm)(hsz:EP m≤10000000000)(hst:0≤m.fStatus∧m.fStatus≤255)(hkind:0≤m.fKind)
  (hk:∀I' X v,Ext I I'→OwB X v (GU m).1→K (.tuple #[v,.int .i64 (GU m).2]) I' (X++L)):CT ω 71 #[.agg cm.toArray] K I L:=by
 have hm':=hm;obtain ⟨v0,v1,rfl,h0,h1⟩:=hm;have hms:m.fName.length+m.fText.length+m.fState.length+(m.fFields.map λf=>f.fName.length+19).sum+Bc m.fCells≤10000000000:=hsz;refine AQD ?_;unfold APE;obtain ⟨a0,k0,rfl⟩:=zAH h0;obtain ⟨a1,k1,rfl⟩:=zAH h1;try refine zqe ?_
 refine Am (λbm=>?_);try refine zqe ?_
 refine rdb ?_;try refine zqe ?_
 refine Am (λbo=>?_);refine stB rfl rfl (Ak rfl) ?_;try refine zqe ?_
 refine rdb ?_;try refine zqe ?_
 by_cases h:(m.fKind==1)=true
 ·have e:m.fKind=1:=by simpa using h
  have ht:DN m=({fKind:=m.fKind},beB 0 4,0,true):=by unfold DN;rw [if_pos h,e]
  simp only [h,SSd,Nat.reduceAdd];refine call (AIj _ 4 4 rfl zo (λX v hX=>?_));exact Qm (m:=m) ht hm' ⟨_,_,rfl,zAD none 0,zAD none 0⟩ hX (by rw [Bv];omega) zo hkind hk
 have n1:=zW.2 h;simp only [n1,SSd,Nat.reduceAdd];by_cases h:(m.fKind==3)=true
 ·have e:m.fKind=3:=by simpa using h
  have ht:DN m=({fKind:=m.fKind,fPid:=m.fPid,fSecret:=m.fSecret},beB m.fPid 4++beB m.fSecret 4,0,smB [m.fPid,m.fSecret]):=by unfold DN;rw [e];rfl
  simp only [h,SSd,Nat.reduceAdd];refine Xy ?_;try refine zqe ?_
  refine BM ?_;try refine zqe ?_
  refine BM ?_;try refine zqe ?_
  refine st1 rfl ?_;refine Dc (zAC _) ?_;try refine zqe ?_
  refine st1 rfl ?_;refine Dy ?_;try refine zqe ?_
  refine BM ?_;try refine zqe ?_
  refine BM ?_;refine Lr (n:=1) [.int .i64 m.fPid,.int .i64 m.fSecret] rfl rfl (by simp [Value.cells]) (λI3 a3 hI3 hS3=>zAA ?_);refine keepA ?_;refine call (XQ (xs:=[m.fPid,m.fSecret]) (RL.ofI hS3 ⟨rfl,rfl,rfl,rfl,rfl⟩) zy ?_);refine keepA ?_;try refine zqe ?_
  refine BM ?_;refine call (AIj _ 4 4 rfl zo (λX v hX=>?_));refine keepA ?_;try refine zqe ?_
  refine BM ?_;refine call (Ho (X:=X) hX _ 4 4 rfl zo (by rw [Bv];omega) (λX2 v2 hX2=>?_));exact Qm (m:=m) ht (hm'.mono hI3) ⟨_,_,rfl,zAD none 0,zAD none 0⟩ hX2 (by simp only [zk,Bv];omega) zo hkind (λI2 X2 v2 h2 h3=>hk I2 X2 v2 (zAB hI3 h2) h3)
 have n3:=zW.2 h;simp only [n3,SSd,Nat.reduceAdd];by_cases h:(m.fKind==4)=true
 ·have e:m.fKind=4:=by simpa using h
  have ht:DN m=({fKind:=m.fKind,fStatus:=m.fStatus},[byI m.fStatus],0,m.fStatus==73||m.fStatus==84||m.fStatus==69):=by unfold DN;rw [e];rfl
  simp only [h,SSd,Nat.reduceAdd];have hby:(Value.int .u8 m.fStatus)= .int .u8 ((byI m.fStatus).toNat:Nat):=by
   rw [AAu,show IntKind.u8.wrap m.fStatus=m.fStatus from by rw [IntKind.wrap_u8];omega]
  have fin:∀(may:Bool),may=(m.fStatus==73||m.fStatus==84||m.fStatus==69)→∀(I0:Imm) (L0:LH),AB 5 1 #[(Value.int .u8 0)] 1 [(0,.int .u8 m.fStatus)] (gh (AQ (Stay I ((bo,BkO [.int .i64 m.fKind,.string ⟨#[]⟩,.string ⟨#[]⟩,.int .i64 0,.int .i64 0,.int .u8 m.fStatus,.slice none 0 0,.slice none 0 0,.string ⟨#[]⟩,.bool false])::(bm,BkO (cmB m (.slice a0 m.fFields.length k0) (.slice a1 m.fCells.length k1)))::L)) λv=>AZ ω (.pointer (some ⟨bm,0,none⟩)) (.slice none 0 0) (.int .i64 0) (.pointer (some ⟨bo,0,none⟩)) v (.bool may) (.int .i64 0) (λv=>Gh (K v)))) I ((bo,BkO [.int .i64 m.fKind,.string ⟨#[]⟩,.string ⟨#[]⟩,.int .i64 0,.int .i64 0,.int .u8 m.fStatus,.slice none 0 0,.slice none 0 0,.string ⟨#[]⟩,.bool false])::(bm,BkO (cmB m (.slice a0 m.fFields.length k0) (.slice a1 m.fCells.length k1)))::L):=by
   intro may hmay _ _;subst hmay;refine CU (v:=.int .u8 m.fStatus) rfl zx rfl (λX1 u1 hX1=>?_);have hX1:SlO 5 1 X1 u1 [Value.int .u8 m.fStatus] 1:=hX1;have hX1:OwB X1 u1 [byI m.fStatus]:=by rw [hby] at hX1;exact hX1
   refine keepA ?_;exact Qm (m:=m) ht hm' ⟨_,_,rfl,zAD none 0,zAD none 0⟩ hX1 zy zo hkind hk
  refine rdb ?_;try refine zqe ?_
  refine st1 rfl ?_;refine Dy ?_;try refine zqe ?_
  refine BM ?_;try refine zqe ?_
  cases h1:(m.fStatus==73) with
  |true=>
   try refine zqe ?_
   refine BM ?_;exact fin true (by rw [h1];rfl) I L
  |false=>
  try refine zqe ?_
  refine BM ?_;try refine zqe ?_
  cases h2:(m.fStatus==84) with
  |true=>
   try refine zqe ?_
   refine BM ?_;exact fin true (by rw [h1,h2];rfl) I L
  |false=>
  try refine zqe ?_
  refine BM ?_;try refine zqe ?_
  refine BM ?_;exact fin _ (by rw [h1,h2];rfl) I L
 have n4:=zW.2 h;simp only [n4,SSd,Nat.reduceAdd];by_cases h:(m.fKind==5)=true
 ·have e:m.fKind=5:=by simpa using h
  have ht:DN m=({fKind:=m.fKind,fFields:=m.fFields},(En m.fFields).1,0,(En m.fFields).2):=by unfold DN;rw [e];rfl
  simp only [h,SSd,Nat.reduceAdd];refine rdb ?_;try refine zqe ?_
  refine st1 rfl ?_;refine rdb ?_;have hfl:=QM m.fFields;refine call (Vp h0 zo (λI' X v hI hX=>?_));try refine zqe ?_
  exact Qm (m:=m) ht (hm'.mono hI) ⟨_,_,rfl,FL.mono h0 hI,zAD none 0⟩ hX zo zo hkind (λI2 X2 v2 h2 h3=>hk I2 X2 v2 (zAB hI h2) h3)
 have n5:=zW.2 h;simp only [n5,SSd,Nat.reduceAdd];by_cases h:(m.fKind==6)=true
 ·have e:m.fKind=6:=by simpa using h
  have ht:DN m=({fKind:=m.fKind,fCells:=m.fCells},(EX m.fCells).1,(EX m.fCells).2.1,(EX m.fCells).2.2):=by unfold DN;rw [e];rfl
  simp only [h,SSd,Nat.reduceAdd];refine rdb ?_;try refine zqe ?_
  refine st1 rfl ?_;refine rdb ?_;have hcl:=Qb m.fCells;refine call (YH h1 zo (λX v hX=>?_));try refine zqe ?_
  exact Qm (m:=m) ht hm' ⟨_,_,rfl,zAD none 0,h1⟩ hX zo zo hkind hk
 have n6:=zW.2 h;simp only [n6,SSd,Nat.reduceAdd];by_cases h:(m.fKind==2)=true
 ·have e:m.fKind=2:=by simpa using h
  have ht:DN m=({fKind:=m.fKind,fName:=m.fName,fText:=m.fText},txB [m.fName]++txB [m.fText],0,clB [m.fName,m.fText]):=by unfold DN;rw [e];rfl
  simp only [h,SSd,Nat.reduceAdd];refine rdb ?_;try refine zqe ?_
  refine st1 rfl ?_;refine rdb ?_;refine Di [m.fName] rfl rfl (λI2 a hI2 hw2=>zAA ?_);have hl1:(txB [m.fName]).length=m.fName.length+1:=by rw [Ja,zk];rfl
  refine call (text0 hw2 zy zo (λX v hX=>?_));exact APe (m:=m) ht (FL.mono h0 hI2) (CL.mono h1 hI2) hX m.fName rfl hsz zo hkind (λI3 X3 v3 h2 h3=>hk I3 X3 v3 (zAB hI2 h2) h3)
 have n2:=zW.2 h;simp only [n2,SSd,Nat.reduceAdd];by_cases h:(m.fKind==7)=true
 ·have e:m.fKind=7:=by simpa using h
  have ht:DN m=({fKind:=m.fKind,fName:=[],fText:=m.fText},[]++txB [m.fText],0,clB [m.fName,m.fText]):=by unfold DN;rw [e];rfl
  simp only [h,SSd,Nat.reduceAdd];exact APe (m:=m) (X:=[]) ht h0 h1 (zAN _ _) [] rfl hsz zy hkind hk
 have n7:=zW.2 h;simp only [n7,SSd,Nat.reduceAdd];by_cases h:(m.fKind==9)=true
 ·have e:m.fKind=9:=by simpa using h
  simp only [h,SSd,Nat.reduceAdd];refine Xy ?_;try refine zqe ?_
  refine BM ?_;try refine zqe ?_
  refine BM ?_;try refine zqe ?_
  refine BM ?_;try refine zqe ?_
  refine st1 rfl ?_;refine Dc (zAC _) ?_;try refine zqe ?_
  refine st1 rfl ?_;refine Dc (zAC _) ?_;try refine zqe ?_
  refine st1 rfl ?_;refine rdb ?_;cases hf:m.fFatal with
  |true=>
   try refine zqe ?_
   have:=APd (ω:=ω) (m:=m) (bm:=bm) (bo:=bo) (p2:=.slice none 0 0) (p3:=.int .i64 0) (p5:=.slice none 0 0) (p6:=.bool true) (sev:=[70,65,84,65,76]) rfl (by rw [hf];rfl) e h0 h1 hsz hk;simp only [cmB,hf] at this;exact this
  |false=>
   try refine zqe ?_
   have:=APd (ω:=ω) (m:=m) (bm:=bm) (bo:=bo) (p2:=.slice none 0 0) (p3:=.int .i64 0) (p5:=.slice none 0 0) (p6:=.bool true) (sev:=[69,82,82,79,82]) rfl (by rw [hf];rfl) e h0 h1 hsz hk;simp only [cmB,hf] at this;exact this
 have n9:=zW.2 h;simp only [n9,SSd,Nat.reduceAdd];by_cases h:(m.fKind==8)=true
 ·have e:m.fKind=8:=by simpa using h
  have ht:DN m=({fKind:=m.fKind},[],0,true):=by unfold DN;rw [e];rfl
  simp only [h,SSd,Nat.reduceAdd];unfold Ny;try refine zqe ?_
  exact Qm (m:=m) (X:=[]) ht hm' ⟨_,_,rfl,zAD none 0,zAD none 0⟩ (zAN _ _) zy zo hkind hk
 have n8:=zW.2 h;simp only [n8,SSd,Nat.reduceAdd];unfold Ny;by_cases h:(m.fKind==10)=true
 ·have e:m.fKind=10:=by simpa using h
  have ht:DN m=({fKind:=m.fKind},[],0,true):=by unfold DN;rw [e];rfl
  simp only [h,SSd,Nat.reduceAdd];exact Qm (m:=m) (X:=[]) ht hm' ⟨_,_,rfl,zAD none 0,zAD none 0⟩ (zAN _ _) zy zo hkind hk
 have n10:=zW.2 h;have ht:DN m=({fKind:=m.fKind},[],0,false):=by
  unfold DN;simp only [n1,n2,n3,n4,n5,n6,n7,n8,n9,n10,zl,if_false,or_self]
 simp only [n10,SSd,Nat.reduceAdd];exact Qm (m:=m) (X:=[]) ht hm' ⟨_,_,rfl,zAD none 0,zAD none 0⟩ (zAN _ _) zy zo hkind hk
end
end Go.Proofs.YthkaekjoemhjaaaGreatDoor
namespace Go.Proofs
open Go.Shelf
def Tryz.lay173_ren:Go.Shelf.Ren:=⟨λ|173=>79|246=>108|283=>127|284=>128|285=>129|286=>130|129=>158|317=>157|318=>159|319=>160|320=>161|337=>198|338=>199|n=>n,λ|2=>2|3=>3|9=>9|4=>4|171=>212|0=>0|53=>194|37=>22|5=>5|173=>215|212=>250|51=>206|20=>20|213=>251|46=>152|232=>299|233=>300|n=>n,λ|17=>0|18=>2|19=>3|n=>n⟩
theorem Tryz.lay173:Go.Proofs.LaysM.n173 Tryz.prog Tryz.lay173_ren:={
 mixed:=by kernel_rfl
 f129:=Tryz.func158.trans (congrArg some (by kernel_rfl))
 f173:=Tryz.func79.trans (congrArg some (by kernel_rfl))
 f246:=Tryz.func108.trans (congrArg some (by kernel_rfl))
 f283:=Tryz.func127.trans (congrArg some (by kernel_rfl))
 f284:=Tryz.func128.trans (congrArg some (by kernel_rfl))
 f285:=Tryz.func129.trans (congrArg some (by kernel_rfl))
 f286:=Tryz.func130.trans (congrArg some (by kernel_rfl))
 f317:=Tryz.func157.trans (congrArg some (by kernel_rfl))
 f318:=Tryz.func159.trans (congrArg some (by kernel_rfl))
 f319:=Tryz.func160.trans (congrArg some (by kernel_rfl))
 f320:=Tryz.func161.trans (congrArg some (by kernel_rfl))
 f337:=Tryz.func198.trans (congrArg some (by kernel_rfl))
 f338:=Tryz.func199.trans (congrArg some (by kernel_rfl))
 t0:=Tryz.underlying0
 a0:=Tryz.isAgg0
 z0:=Tryz.sizeOf0
 v0:=Tryz.zeroValue0
 t2:=Tryz.underlying2
 a2:=Tryz.isAgg2
 z2:=Tryz.sizeOf2
 v2:=Tryz.zeroValue2
 t3:=Tryz.underlying3
 a3:=Tryz.isAgg3
 z3:=Tryz.sizeOf3
 v3:=Tryz.zeroValue3
 t4:=Tryz.underlying4
 a4:=Tryz.isAgg4
 z4:=Tryz.sizeOf4
 v4:=Tryz.zeroValue4
 t5:=Tryz.underlying5
 a5:=Tryz.isAgg5
 z5:=Tryz.sizeOf5
 v5:=Tryz.zeroValue5
 t9:=Tryz.underlying9
 a9:=Tryz.isAgg9
 z9:=Tryz.sizeOf9
 v9:=Tryz.zeroValue9
 t20:=Tryz.underlying20
 a20:=Tryz.isAgg20
 z20:=Tryz.sizeOf20
 v20:=Tryz.zeroValue20
 t37:=Tryz.underlying22
 a37:=Tryz.isAgg22
 z37:=Tryz.sizeOf22
 v37:=Tryz.zeroValue22
 t46:=Tryz.underlying152
 a46:=Tryz.isAgg152
 z46:=Tryz.sizeOf152
 v46:=Tryz.zeroValue152
 t51:=Tryz.underlying206
 a51:=Tryz.isAgg206
 z51:=Tryz.sizeOf206
 v51:=Tryz.zeroValue206
 t53:=Tryz.underlying194
 a53:=Tryz.isAgg194
 z53:=Tryz.sizeOf194
 v53:=Tryz.zeroValue194
 t171:=Tryz.underlying212
 a171:=Tryz.isAgg212
 z171:=Tryz.sizeOf212
 v171:=Tryz.zeroValue212
 t173:=Tryz.underlying215
 a173:=Tryz.isAgg215
 z173:=Tryz.sizeOf215
 v173:=Tryz.zeroValue215
 t212:=Tryz.underlying250
 a212:=Tryz.isAgg250
 z212:=Tryz.sizeOf250
 v212:=Tryz.zeroValue250
 t213:=Tryz.underlying251
 a213:=Tryz.isAgg251
 z213:=Tryz.sizeOf251
 t232:=Tryz.underlying299
 a232:=Tryz.isAgg299
 z232:=Tryz.sizeOf299
 v232:=Tryz.zeroValue299
 t233:=Tryz.underlying300
 a233:=Tryz.isAgg300
 z233:=Tryz.sizeOf300
 v233:=Tryz.zeroValue300
 g17:=by kernel_rfl
 g18:=by kernel_rfl
 g19:=by kernel_rfl
 i0:=by kernel_rfl
 i2:=by kernel_rfl
 i3:=by kernel_rfl
 i4:=by kernel_rfl
 i5:=by kernel_rfl
 i9:=by kernel_rfl
 i20:=by kernel_rfl
 i37:=by kernel_rfl
 i46:=by kernel_rfl
 i51:=by kernel_rfl
 i53:=by kernel_rfl
 i171:=by kernel_rfl
 i173:=by kernel_rfl
 i212:=by kernel_rfl
 i232:=by kernel_rfl
 i233:=by kernel_rfl
 m17:=by kernel_rfl
 m18:=by kernel_rfl
 m19:=by kernel_rfl}
end Go.Proofs
namespace Go.Proofs.YthkaekjoemhjaaaGreatDoor
open Go.SL
def SY (e:Int):Bs×Bs:=
 if e=190 then ([50,50,48,48,51],[110,117,109,98,101,114,32,111,117,116,32,111,102,32,114,97,110,103,101])
 else if e=191 then ([50,50,48,49,50],[100,105,118,105,115,105,111,110,32,98,121,32,122,101,114,111])
 else if e=192 then ([50,50,48,48,49],[116,101,120,116,32,105,115,32,116,111,111,32,108,111,110,103])
 else if e=221 then ([50,51,53,48,53],[116,104,101,32,107,101,121,32,105,115,32,116,104,101,114,101,32,97,108,114,101,97,100,121])
 else if e=222 then ([50,51,53,48,50],[110,117,108,108,32,119,104,101,114,101,32,110,111,110,101,32,109,97,121,32,98,101])
 else if e=24∨e=23 then ([53,51,49,48,48],[116,104,101,32,100,105,115,107,32,105,115,32,102,117,108,108])
 else if e=161∨e=144 then ([52,48,48,48,49],[98,101,103,105,110,32,116,104,101,32,116,114,97,110,115,97,99,116,105,111,110,32,97,103,97,105,110])
 else if e=82 then ([53,51,48,48,48],[111,117,116,32,111,102,32,116,105,109,101,115,116,97,109,112,115])
 else if e=230∨e=231∨e=232 then ([48,56,80,48,49],[112,114,111,116,111,99,111,108,32,118,105,111,108,97,116,105,111,110])
 else if e=224∨e=282 then ([88,88,48,48,49],[115,116,111,114,101,100,32,114,111,119,115,32,97,114,101,32,100,97,109,97,103,101,100])
 else ([88,88,48,48,48],[105,110,116,101,114,110,97,108,32,101,114,114,111,114])
section
theorem eqP {k:IntKind}{a c:Int}{K:Value→M}{I:Imm}{L:LH}(h:K (.bool (a==c)) I L):Pv (AA .eql (.int k a) (.int k c)) K I L:=by rw [Qg];exact h
theorem AIi {z:Array Value}{f:Array (Nat×Nat)}{p:List (Nat×Value)}{v:Value}{K:Value→M}{I:Imm}{L:LH}(e:AV z f p=some v)(h:K v I L):Pv (AV z f p) K I L:=by rw [e];exact h
theorem brT {b:Bool}{A B:M}{I:Imm}{L:LH}(e:b=true)(h:A I L):Br (.bool b) A B I L:=by subst e;exact h
theorem brF {b:Bool}{A B:M}{I:Imm}{L:LH}(e:b=false)(h:B I L):Br (.bool b) A B I L:=by subst e;exact h
end
section
variable {ω:Om}{I:Imm}{L:LH}{K:Value→M}
theorem Wx (e:Int)(hk:K (.agg #[.string ⟨(SY e).1.toArray⟩,.string ⟨(SY e).2.toArray⟩]) I L):CT ω 101 #[.int .i64 e] K I L:=by
 have fin:∀a b,SY e=(a,b)→K (.agg #[.string ⟨a.toArray⟩,.string ⟨b.toArray⟩]) I L:=by
  intro a b h;rw [h] at hk;exact hk
 clear hk;refine AOc ?_;unfold sh101;refine Am (λb=>?_);repeat' first
  |(with_reducible refine eqP ?_)
  |(with_reducible refine brT zA ?_)
  |(with_reducible refine brF zA ?_)
  |(with_reducible refine AP (λhb=>?_) (λhb=>?_))
  |(first|(with_reducible refine BJ (sh101_4.eq_1 ..) ?_)|(with_reducible refine BJ (sh101_3.eq_1 ..) ?_)|(with_reducible refine BJ (sh101_2.eq_1 ..) ?_)|(with_reducible refine BJ (sh101_1.eq_1 ..) ?_)|(with_reducible refine BJ (sh101.eq_1 ..) ?_))
  |(with_reducible refine AIi rfl ?_)
  |((with_reducible refine stB ?_ ?_ ?_ ?_);rfl;rfl;exact Ak rfl)
  |((with_reducible refine rdB ?_ ?_);rfl)
 all_goals refine zAG L (zAA ?_)
 all_goals first
  |(exact fin _ _ (by have h:=eq_of_beq ‹(e==_)=true›;subst h;rfl))
  |(refine fin _ _ ?_;clear fin;unfold SY;simp_all)
theorem RP (e:Int)(hk:K (.agg #[.string ⟨(Ey e).1.toArray⟩,.string ⟨(Ey e).2.toArray⟩]) I L):CT ω 72 #[.int .i64 e] K I L:=by
 have fin:∀a b,Ey e=(a,b)→K (.agg #[.string ⟨a.toArray⟩,.string ⟨b.toArray⟩]) I L:=by
  intro a b h;rw [h] at hk;exact hk
 clear hk;refine AQC ?_;unfold sh72;refine Am (λb=>?_);repeat' first
  |(with_reducible refine eqP ?_)
  |(with_reducible refine brT zA ?_)
  |(with_reducible refine brF zA ?_)
  |(with_reducible refine AP (λhb=>?_) (λhb=>?_))
  |(first|(with_reducible refine BJ (sh72_4.eq_1 ..) ?_)|(with_reducible refine BJ (sh72_3.eq_1 ..) ?_)|(with_reducible refine BJ (sh72_2.eq_1 ..) ?_)|(with_reducible refine BJ (sh72_1.eq_1 ..) ?_)|(with_reducible refine BJ (sh72.eq_1 ..) ?_))
  |(with_reducible refine AIi rfl ?_)
  |((with_reducible refine stB ?_ ?_ ?_ ?_);rfl;rfl;exact Ak rfl)
  |((with_reducible refine rdB ?_ ?_);rfl)
  |(with_reducible refine call ?_;refine Wx e ?_)
 all_goals refine zAG L (zAA ?_)
 all_goals first
  |(exact fin _ _ (by have h:=eq_of_beq ‹(e==_)=true›;subst h;rfl))
  |(refine fin _ _ ?_;clear fin;simp only [beq_eq_false_iff_ne,ne_eq] at *; unfold Ey;simp only [*,or_self,if_false];rfl)
end
def Ua (G : Imm) : Prop := ∃ g T fr, Tryz.prog.globalNamed "internal/strconv.uint64pow10" = some g ∧ G g = some (.cells (Lib.pow10Tab.map λz => Value.int .u64 z).toArray T fr)
theorem QT:∀(f n:Nat) (acc:Bs),n < f→Vq f n acc=Lib.decDigits n++acc
 |0,n,acc,h=>by omega
 |f+1,n,acc,h=>by
  rw [Vq,Lib.decDigits];split
  ·rfl
  ·rw [QT f (n / 10) _ zo,zi];rfl
theorem ACV (n:Int):BB true n=Lib.itoa n:=by
 unfold BB Lib.itoa;split
 ·simp only [if_true];rw [QT _ _ _ zo,zaK]
 ·rw [QT _ _ _ zo,zaK]
section
variable {ω:Om}{I:Imm}{L:LH}{K:Value→M}
theorem St.grows {w:World}{k:Nat}{os:Array Obj}(hs:St ω w I L):St ω (Sort.grow (w.drewN k) os) I L:=by
 have hd:St ω (w.drewN k) I L:=hs.drew (Nat.le_add_right _ _);refine ⟨λb o hb=>?_,λb o hb=>?_,hd.nodup,hd.apart,hd.tape,hd.os,hd.out,hd.dr⟩
 ·have:=hd.imm b o hb;show ((w.drewN k).heap++os)[b]? =some o;rw [zaP (zV.1 this).1];exact this
 ·have:=hd.own b o hb;show ((w.drewN k).heap++os)[b]? =some o;rw [zaP (zV.1 this).1];exact this
theorem AHt {G : Imm}{w : World}(hG : Ua G)(hI : Ext G I)(hs : St ω w I L) : Lib.TabIs Tryz.prog w "internal/strconv.uint64pow10" .u64 Lib.pow10Tab := by
 obtain ⟨g,T,fr,h1,h2⟩:=hG;unfold Lib.TabIs World.var?;rw [h1];have:=hs.imm g _ (hI g _ h2);simp only [zbw,this]
theorem QI {G:Imm}(hG:Ua G)(hI:Ext G I)(n:Int)(h0: -9223372036854775808≤n)(h1:n≤9223372036854775807)(hk:K (.string ⟨(BB true n).toArray⟩) I L):CT ω 79 #[.int .i64 n,.int .i64 10] K I L:=λw hs=>by
 have h:=Go.Proofs.Any.strconv_FormatInt_10 Go.Proofs.Tryz.lay173 n h0 h1 w (AHt hG hI hs);refine Calls.mono h ?_;rintro e w' ⟨rfl,k,os,rfl⟩;rw [ACV] at hk;exact ⟨_,I,L,rfl,St.grows hs,hk⟩
theorem XK (e:Int)(hk:K (.string ⟨(Ey e).1.toArray⟩) I L):CT ω 46 #[.int .i64 e] K I L:=by
 refine AQL ?_;unfold APM;refine call (RP e ?_);try refine zqe ?_
 exact zAA hk
theorem Nq (e:Int)(hk:K (.string ⟨(Ey e).2.toArray⟩) I L):CT ω 47 #[.int .i64 e] K I L:=by
 refine AQK ?_;unfold APL;refine call (RP e ?_);try refine zqe ?_
 exact zAA hk
abbrev ALR (v:TValue):List Value:=[.int .i64 v.fType,.bool v.fNull,.int .i64 v.fInt,.string ⟨v.fText.toArray⟩]
theorem Vw {G:Imm}(hG:Ua G)(hI:Ext G I)(v:TValue)(hv: -9223372036854775808≤v.fInt∧v.fInt≤9223372036854775807)(hk:∀c,TCellV I (Ec (BB true) v) c→K (.agg c.toArray) I L):CT ω 53 #[.agg (ALR v).toArray] K I L:=by
 refine AQE ?_;unfold APF;obtain ⟨ty,nl,n,tx⟩:=v;simp only at hv
 have fin:∀(cn:Bool) (ct:Bs),Ec (BB true) ⟨ty,nl,n,tx⟩=⟨cn,ct⟩→K (.agg #[.bool cn,.string ⟨ct.toArray⟩]) I L:=by
  intro cn ct h;exact hk [.bool cn,.string ⟨ct.toArray⟩] (by rw [h];rfl)
 try refine zqe ?_
 refine Am (λb1=>?_);refine Am (λb2=>?_);try refine zqe ?_
 refine rdb ?_;cases nl with
 |true=>
  try refine zqe ?_
  refine stB rfl rfl (Ak rfl) ?_;refine Ew rfl ?_;exact zAG L (zAA (fin true [] rfl))
 |false=>
 try refine zqe ?_
 refine rdb ?_;try refine zqe ?_
 by_cases h1:(ty==1)=true
 ·simp only [h1,SSd,Nat.reduceAdd];refine rdb ?_;refine call (QI hG hI n hv.1 hv.2 ?_);try refine zqe ?_
  refine stB rfl rfl (Ak rfl) ?_;refine Ew rfl ?_;exact zAG L (zAA (fin false _ (by simp only [Ec,h1,if_true];rfl)))
 simp only [zW.2 h1,SSd,Nat.reduceAdd];refine rdb ?_;try refine zqe ?_
 by_cases h2:(ty==2)=true
 ·simp only [h2,SSd,Nat.reduceAdd];refine AEy (λbm=>zAA ?_);refine ⟨bm,#[],0,[],_,none,rfl,rfl,rfl,zAA ?_⟩;refine ⟨bm,_,1,[],_,none,rfl,rfl,rfl,zAA ?_⟩;try refine zqe ?_
  refine rdb ?_;try refine zqe ?_
  have hl:∀(b:Bool) {K:Value→M} {L:LH} {es:Array MapEntry} {ck:Nat},es=#[{key:=.bool true,val:=.string ⟨#[116]⟩,born:=0},{key:=.bool false,val:=.string ⟨#[102]⟩,born:=1}]→K (.string ⟨(if b then ([116]:Bs) else [102]).toArray⟩) I ((bm,.map es ck)::L)→Rv none (lkR .bool (.string ⟨#[]⟩) false (.map (some bm)) (.bool b)) K I ((bm,.map es ck)::L):=by
   intro b K L es ck he h;subst he;cases b with
   |true=>exact ⟨_,⟨_,some (0,.string ⟨#[116]⟩),.inr ⟨bm,ck,rfl,.inl (zK ..)⟩,rfl,rfl⟩,h⟩
   |false=>exact ⟨_,⟨_,some (1,.string ⟨#[102]⟩),.inr ⟨bm,ck,rfl,.inl (zK ..)⟩,rfl,rfl⟩,h⟩
  refine hl (n==1) rfl ?_;try refine zqe ?_
  refine stB rfl rfl (Ak rfl) ?_;refine Ew rfl ?_;exact zAG L (zAA (fin false _ (by simp only [Ec,zW.2 h1,h2,if_true];rfl)))
 simp only [zW.2 h2,SSd,Nat.reduceAdd];refine rdb ?_;try refine zqe ?_
 refine stB rfl rfl (Ak rfl) ?_;refine Ew rfl ?_;exact zAG L (zAA (fin false _ (by simp only [Ec,zW.2 h1,zW.2 h2];rfl)))
end
theorem Bytes.drop {I:Imm}{v:Value}{l:List UInt8}{n:Nat}(h:Bytes I v l)(hn:n≤l.length):∃v',Cb 1 v (some (.int .i64 n)) none none=some v'∧Bytes I v' (l.drop n):=by
 obtain ⟨v',h1,h2⟩:=SlI.part (lo:=n) (hi:=l.length) h hn (zt _) (some (.int .i64 n)) none (λy hy=>.inl (KW _ _ _ _ zo)) (λcap hc=>rfl);refine ⟨v',h1,?_⟩;unfold Bytes;rw [zZ];have:((u8s l).drop (n * 1)).take ((l.length - n) * 1)=u8s (l.drop n):=by
  rw [Nat.mul_one,Nat.mul_one,zY (by simp [u8s])];simp [u8s]
 rwa [this] at h2
theorem Bytes.part {I:Imm}{v:Value}{l:List UInt8}{lo hi:Nat}(h:Bytes I v l)(h1:lo≤hi)(h2:hi≤l.length):∃v',Cb 1 v (some (.int .i64 lo)) (some (.int .i64 hi)) none=some v'∧Bytes I v' ((l.drop lo).take (hi - lo)):=by
 obtain ⟨v',e1,e2⟩:=SlI.part (lo:=lo) (hi:=hi) h h1 h2 (some (.int .i64 lo)) (some (.int .i64 hi)) (λy hy=>.inl (KW _ _ _ _ zo)) (λcap hc=>KW _ _ _ _ zo);refine ⟨v',e1,?_⟩;unfold Bytes;rw [zB,zZ,zba zo];have:((u8s l).drop (lo * 1)).take ((hi - lo) * 1)=u8s ((l.drop lo).take (hi - lo)):=by
  simp [u8s]
 rwa [this] at e2
theorem Bytes.take {I:Imm}{v:Value}{l:List UInt8}{n:Nat}(h:Bytes I v l)(hn:n≤l.length):∃v',Cb 1 v none (some (.int .i64 n)) none=some v'∧Bytes I v' (l.take n):=by
 obtain ⟨v',e1,e2⟩:=SlI.part (lo:=0) (hi:=n) h zo hn none (some (.int .i64 n)) (λy hy=>.inl rfl) (λcap hc=>KW _ _ _ _ zo);refine ⟨v',e1,?_⟩;unfold Bytes;rw [zB,zba zo];have:((u8s l).drop (0 * 1)).take ((n - 0) * 1)=u8s (l.take n):=by
  simp [u8s]
 rwa [this] at e2
theorem Bytes.at {I:Imm}{v:Value}{l:List UInt8}{k:Nat}(h:Bytes I v l)(hk:k < l.length):∃b off,ixV 1 v (.int .i64 k)=some (.pointer (some ⟨b,off,none⟩))∧∀I' L,Ext I I'→Cell I' L b off (.int .u8 (l[k]).toNat):=by
 obtain ⟨b,off,hix,hc⟩:=SlI.ix h .i64 hk;have hone:((u8s l).drop (k * 1)).take 1=[.int .u8 (l[k]).toNat]:=by
  rw [Nat.mul_one,zaz (by simpa [u8s] using hk),zbx];simp [u8s]
 rw [hone] at hc;exact ⟨b,off,hix,λI' L hI=>hc I' L hI 0 _ rfl⟩
abbrev RdO (v:Value)(bad:Bool):Obj:=.cells [v,.bool bad].toArray 177 (0,0)
section
variable {ω:Om}{I:Imm}{L F:LH}{K:Value→M}{b:Nat}{v:Value}
theorem IR {r:Rdq}(n:Int)[hs:SplitB (b,RdO v r.bad) L F](hv:Bytes I v r.b)(hk:∀v1 v2,Bytes I v1 (r.take n).1→Bytes I v2 (r.take n).2.b→K v1 I ((b,RdO v2 (r.take n).2.bad)::F)):CT ω 105 #[.pointer (some ⟨b,0,none⟩),.int .i64 n] K I L:=by
 refine Cal.perm hs.perm ?_;refine AOY ?_;unfold AKj;have hbad:(n < 0∨(r.b.length:Int) < n)→OQ ω (.pointer (some ⟨b,0,none⟩)) (.int .i64 n) (.slice none 0 0) (λv=>Gh (K v)) I ((b,RdO v r.bad)::F):=by
  intro h;simp only [Rdq.take,if_pos h] at hk;unfold OQ LG;obtain ⟨v1,e1,h1⟩:=Bytes.take hv (n:=0) zo;obtain ⟨v2,e2,h2⟩:=Bytes.drop hv (n:=0) zo;try refine zqe ?_
  refine st1 rfl ?_;try refine zqe ?_
  refine rdb ?_;simp only [show (Value.int .i64 0)= .int .i64 ((0:Nat):Int) from rfl,e1,SSd,Nat.reduceAdd];refine rdb ?_;simp only [show (Value.int .i64 0)= .int .i64 ((0:Nat):Int) from rfl,e2,SSd,Nat.reduceAdd];obtain ⟨a2,k2,rfl⟩:=h2.form;refine st1 rfl ?_;exact zAA (hk v1 _ h1 h2)
 have hok:¬(n < 0∨(r.b.length:Int) < n)→LG ω (.pointer (some ⟨b,0,none⟩)) (.int .i64 n) (.slice none 0 0) (λv=>Gh (K v)) I ((b,RdO v r.bad)::F):=by
  intro h;simp only [Rdq.take,if_neg h] at hk;unfold LG;obtain ⟨m,rfl⟩:∃m:Nat,n=m:=⟨n.toNat,by omega⟩;simp only [Int.toNat_natCast] at hk;obtain ⟨v1,e1,h1⟩:=Bytes.take hv (n:=m) zo;obtain ⟨v2,e2,h2⟩:=Bytes.drop hv (n:=m) zo;try refine zqe ?_
  refine rdb ?_;simp only [e1,SSd,Nat.reduceAdd];refine rdb ?_;simp only [e2,SSd,Nat.reduceAdd];obtain ⟨a2,k2,rfl⟩:=h2.form;refine st1 rfl ?_;exact zAA (hk v1 _ h1 h2)
 try refine zqe ?_
 refine BZ (λhb=>?_) (λhb=>?_)
 ·have hb:¬n < 0:=of_decide_eq_false (by simpa using hb);try refine zqe ?_
  refine rdb ?_;simp only [hv.len,SSd,Nat.reduceAdd];refine AP (λh2=>?_) (λh2=>?_)
  ·exact hbad (.inr (of_decide_eq_true h2))
  ·exact hok (by have:=of_decide_eq_false h2;omega)
 ·exact hbad (.inl (by simpa using hb))
theorem WI {l:Bs}(c:UInt8)(hv:Bytes I v l)(hk:K (.int .i64 (Gq l c)) I L):CT ω 123 #[v,.int .u8 c.toNat] K I L:=by
 refine AON ?_;unfold AKY;refine ExtE.ret ⟨_,λw hs=>?_,zAA (zAA hk)⟩;show Sem.run _ (do
  let b ←Extern.Bytes.bytesOf v
  let c ←Extern.Bytes.asByte (.int .u8 c.toNat)
  match (List.range b.size).find? λi=>b[i]! ==c with
  |some i=>pure (goInt i)
  |none=>pure (goInt (-1))) w=_
 have hc:((c.toNat:Int).toNat).toUInt8=c:=by simp
 simp only [Sem.run_bind,WE hs hv,Result.andThen_ok,Extern.Bytes.asByte,Sem.run_pure,hc,Vl];unfold Gq;cases l.findIdx? (·==c) <;> rfl
theorem KE {r:Rdq}[hs:SplitB (b,RdO v r.bad) L F](hv:Bytes I v r.b)(hk:∀v2,Bytes I v2 r.text.2.b→K (.string ⟨r.text.1.toArray⟩) I ((b,RdO v2 r.text.2.bad)::F)):CT ω 104 #[.pointer (some ⟨b,0,none⟩)] K I L:=by
 refine Cal.perm hs.perm ?_;refine AOZ ?_;unfold AKk;try refine zqe ?_
 refine rdb ?_;refine call ?_;rw [show (Value.int .u8 0)= .int .u8 ((0:UInt8).toNat:Nat) from rfl];refine WI 0 hv ?_;refine call (IR (r:=r) (Gq r.b 0) hv (λv1 v2 h1 h2=>?_));refine AQv h1 (zAC _) ?_;try refine zqe ?_
 refine rdb ?_;have et:r.text=(if (r.take (Gq r.b 0)).2.bad=true then r.take (Gq r.b 0) else ((r.take (Gq r.b 0)).1,((r.take (Gq r.b 0)).2.take 1).2)):=rfl;rw [et] at hk;cases hb:(r.take (Gq r.b 0)).2.bad with
 |true=>
  rw [if_pos hb,hb] at hk;try refine zqe ?_
  exact zAA (hk v2 h2)
 |false=>
  rw [if_neg (by rw [hb];decide)] at hk;simp only [zan,SSd,Nat.reduceAdd];rw [show (r.take (Gq r.b 0)).2=⟨(r.take (Gq r.b 0)).2.b,false⟩ by rw [←hb]] at hk;refine call (IR (r:=⟨(r.take (Gq r.b 0)).2.b,false⟩) 1 h2 (λv3 v4 h3 h4=>?_));exact zAA (hk v4 h4)
theorem VG {r:Rdq}[hs:InL b L (RdO v r.bad)](hv:Bytes I v r.b)(hk:K (.bool r.whole) I L):CT ω 106 #[.pointer (some ⟨b,0,none⟩)] K I L:=by
 refine AOX ?_;unfold AKi;unfold Rdq.whole at hk;try refine zqe ?_
 refine rdb ?_;cases hb:r.bad with
 |true=>
  rw [hb] at hk;simp only [zad,SSd,Nat.reduceAdd];exact zAA hk
 |false=>
  rw [hb] at hk;simp only [zan,SSd,Nat.reduceAdd];refine rdb ?_;simp only [hv.len,SSd,Nat.reduceAdd];have e:(((r.b.length:Nat):Int)==0)=r.b.isEmpty:=by
   cases r.b with
   |nil=>rfl
   |cons x y=>simp;omega
  rw [e];simpa using zAA hk
theorem AEs (l:Bs)(c:UInt8):∀n,AHw n (l++[c])=ES .or .i64 (IntKind.i64.wrap (AHw n l * 256)) c.toNat:=by
 induction l with
 |nil=>intro n;rfl
 |cons x l ih=>intro n;exact ih _
theorem MP {r:Rdq}(k:Int)[hs:SplitB (b,RdO v r.bad) L F](hv:Bytes I v r.b)(hn:r.b.length≤1000000000000)(hk:∀v2,Bytes I v2 (r.num k).2.b→K (.int .i64 (r.num k).1) I ((b,RdO v2 (r.num k).2.bad)::F)):CT ω 103 #[.pointer (some ⟨b,0,none⟩),.int .i64 k] K I L:=by
 refine Cal.perm hs.perm ?_;refine AOa ?_;unfold AKl;refine call (IR (r:=r) k hv (λv1 v2 h1 h2=>?_));unfold Rdq.num at hk;have hl:(r.take k).1.length≤1000000000000:=by
  unfold Rdq.take;split
  ·simp
  ·simp only [zB];omega
 generalize r.take k=q at *;obtain ⟨q1,q2⟩:=q;simp only at *
 simp only [h1.len,SSd,Nat.reduceAdd];refine loop (λm st I' L'=>∃j:Nat,j+m=q1.length∧st=(Value.int .i64 (AHx (q1.take j)),Value.int .i64 (j:Nat),())∧I'=I∧L'=(b,RdO v2 q2.bad)::F) q1.length ⟨0,by omega,rfl,rfl,rfl⟩ ?_;rintro m st I' L' ⟨j,hj,rfl,rfl,rfl⟩;unfold AAL;try refine zqe ?_
 refine AP (λhb=>?_) (λhb=>?_)
 ·have hb:j < q1.length:=by
   have:=of_decide_eq_true hb;omega
  obtain ⟨bt,off,e1,e2⟩:=Bytes.at h1 hb;simp only [e1,SSd,Nat.reduceAdd];refine rd1 (e2 _ _ (zAC _)) ?_;try refine zqe ?_
  have et:=zg hb;cases j with
  |zero=>
   simp only [show ((((0:Nat):Int))==0)=true from rfl,SSd,Nat.reduceAdd];unfold OT;have hw:IntKind.i64.wrap (IntKind.i8.wrap (q1[0].toNat:Nat))=ALf q1[0]:=eq_of_beq (FY (p:=λc=>IntKind.i64.wrap (IntKind.i8.wrap (c.toNat:Nat))==ALf c) zq q1[0]);simp only [hw,show IntKind.i64.wrap (((0:Nat):Int)+1)=((0+1:Nat):Int) from rfl,SSd,Nat.reduceAdd];exact zAA ⟨m - 1,by omega,1,by omega,by rw [et];rfl,rfl,rfl⟩
  |succ j=>
   have h0:((((j+1:Nat):Int))==0)=false:=by simp;omega
   simp only [h0,SSd,Nat.reduceAdd];unfold OT;have hw:IntKind.i64.wrap (q1[j+1].toNat:Nat)=(q1[j+1].toNat:Nat):=wrap_i64 _ (by have:=q1[j+1].toNat_lt;omega);have hn1:AHx (q1.take (j+1+1))=ES .or .i64 (IntKind.i64.wrap (AHx (q1.take (j+1)) * 2 ^ (min (8:Int).toNat IntKind.i64.bits))) (q1[j+1].toNat:Nat):=by
    rw [et];cases hq:q1.take (j+1) with
    |nil=>
     have:=congrArg List.length hq;rw [zB,zh] at this;omega
    |cons x y=>exact AEs y _ _
   simp only [MB _ _ .i64 .u64 (show (0:Int)≤8 by decide),hw,wrap_i64 (((j+1:Nat):Int)+1) zo,SSd,Nat.reduceAdd];exact zAA ⟨m - 1,by omega,j+1+1,by omega,by rw [hn1];rfl,rfl,rfl⟩
 ·have hb:¬j < q1.length:=by
   have:=of_decide_eq_false hb;omega
  rw [zY zo];exact zAA (hk v2 h2)
end
section
variable {ω:Om}{I:Imm}{L F:LH}{K:Value→M}{b:Nat}{v:Value}
theorem Bytes.at' {I:Imm}{v:Value}{l:List UInt8}(h:Bytes I v l)(k:Nat)(hk:k < l.length):∃b off,ixV 1 v (.int .i64 k)=some (.pointer (some ⟨b,off,none⟩))∧∀I' L,Ext I I'→Cell I' L b off (.int .u8 (l.getD k 0).toNat):=by
 obtain ⟨b,off,h1,h2⟩:=Bytes.at h hk;refine ⟨b,off,h1,?_⟩;rw [zbf,zao hk];exact h2
theorem YY (c:UInt8):IntKind.u32.wrap (c.toNat:Nat)=(c.toNat:Nat):=eq_of_beq (FY (p:=λc=>IntKind.u32.wrap (c.toNat:Nat)==((c.toNat:Nat):Int)) zq c)
theorem VT {l:Bs}(hv:Bytes I v l)(h4:4≤l.length)(hk:K (.int .i64 (n4W (l.getD 0 0) (l.getD 1 0) (l.getD 2 0) (l.getD 3 0))) I L):CT ω 102 #[v] K I L:=by
 refine AOb ?_;unfold AKm;obtain ⟨b0,o0,e0,c0⟩:=Bytes.at' hv 0 zo;obtain ⟨b1,o1,e1,c1⟩:=Bytes.at' hv 1 zo;obtain ⟨b2,o2,e2,c2⟩:=Bytes.at' hv 2 zo;obtain ⟨b3,o3,e3,c3⟩:=Bytes.at' hv 3 zo;generalize l.getD 0 0=x0 at *;generalize l.getD 1 0=x1 at *;generalize l.getD 2 0=x2 at *;generalize l.getD 3 0=x3 at *;have s24:∀a:Int,AA .shl (.int .u32 a) (.int .u64 24)=some (.int .u32 (IntKind.u32.wrap (a * 16777216))):=λa=>MB _ _ .u32 .u64 zx;have s16:∀a:Int,AA .shl (.int .u32 a) (.int .u64 16)=some (.int .u32 (IntKind.u32.wrap (a * 65536))):=λa=>MB _ _ .u32 .u64 zx;have s8:∀a:Int,AA .shl (.int .u32 a) (.int .u64 8)=some (.int .u32 (IntKind.u32.wrap (a * 256))):=λa=>MB _ _ .u32 .u64 zx;have e0:ixV 1 v (.int .i64 0)=some (.pointer (some ⟨b0,o0,none⟩)):=e0;have e1:ixV 1 v (.int .i64 1)=some (.pointer (some ⟨b1,o1,none⟩)):=e1;have e2:ixV 1 v (.int .i64 2)=some (.pointer (some ⟨b2,o2,none⟩)):=e2;have e3:ixV 1 v (.int .i64 3)=some (.pointer (some ⟨b3,o3,none⟩)):=e3;refine Dy ?_;simp only [e0,SSd,Nat.reduceAdd];refine AHq (c0 _ _ (zAC _)) ?_;simp only [e1,YY,s24,SSd,Nat.reduceAdd];refine AHq (c1 _ _ (zAC _)) ?_;simp only [e2,YY,s16,SSd,Nat.reduceAdd];refine AHq (c2 _ _ (zAC _)) ?_;simp only [e3,YY,s8,SSd,Nat.reduceAdd];refine AHq (c3 _ _ (zAC _)) ?_;have hw:∀n:Int,IntKind.i64.wrap (IntKind.i32.wrap n)=i32 n:=λn=>by
  exact wrap_i64 _ (by rw [IntKind.wrap_i32];omega)
 simp only [YY,hw,SSd,Nat.reduceAdd];exact zAA hk
theorem ABt (a b c d:UInt8): -2147483648≤n4W a b c d∧n4W a b c d≤2147483647:=by
 unfold n4W i32;rw [IntKind.wrap_i32];omega
theorem Vf {l:Bs}(hv:Bytes I v l)(head:Nat)(least most:Int)(hh:head≤100)(hn:l.length≤1000000000000)(hk:K (.tuple #[.int .i64 (DX l head least most).1,.int .i64 (DX l head least most).2]) I L):CT ω 74 #[v,.int .i64 head,.int .i64 least,.int .i64 most] K I L:=by
 refine AQA ?_;unfold APC;simp only [hv.len,wrap_i64 ((head:Int)+4) zo,SSd,Nat.reduceAdd];unfold DX at hk;refine AP (λhb=>?_) (λhb=>?_)
 ·have hb:=of_decide_eq_true hb;rw [if_pos zo] at hk;exact zAA hk
 ·have hb:=of_decide_eq_false hb;rw [if_neg zo] at hk;obtain ⟨v1,e1,h1⟩:=Bytes.drop hv (n:=head) zo;simp only [e1,SSd,Nat.reduceAdd];refine call (VT h1 (by rw [zZ];omega) ?_);have hg:∀i,(l.drop head).getD i 0=l.getD (head+i) 0:=λi=>by
   simp only [zbf,zax]
  rw [hg,hg,hg,hg,Nat.add_zero];simp only at hk
  have hr:=ABt (l.getD head 0) (l.getD (head+1) 0) (l.getD (head+2) 0) (l.getD (head+3) 0);generalize n4W (l.getD head 0) (l.getD (head+1) 0) (l.getD (head+2) 0) (l.getD (head+3) 0)=n at hk hr ⊢;try refine zqe ?_
  refine AP (λhb=>?_) (λhb=>?_)
  ·rw [if_pos (of_decide_eq_true hb)] at hk;exact zAA hk
  have hb1:=of_decide_eq_false hb;rw [if_neg hb1] at hk;try refine zqe ?_
  refine AP (λhb=>?_) (λhb=>?_)
  ·rw [if_pos (of_decide_eq_true hb)] at hk;exact zAA hk
  have hb2:=of_decide_eq_false hb;rw [if_neg hb2] at hk;simp only [hv.len,wrap_i64 ((l.length:Int) - head) zo,SSd,Nat.reduceAdd];refine AP (λhb=>?_) (λhb=>?_)
  ·rw [if_pos (of_decide_eq_true hb)] at hk;exact zAA hk
  ·rw [if_neg (of_decide_eq_false hb)] at hk;exact zAA hk
def FrC (f:TFront)(c:List Value):Prop:=∃(a:Option Addr) (n k:Nat) (p s t:Int),c=[.int .i64 f.fKind,.slice a n k,.string ⟨f.fText.toArray⟩,.int .i64 p,.int .i64 s,.int .u8 t]
theorem FrC.zero:FrC {} [.int .i64 0,.slice none 0 0,.string ⟨#[]⟩,.int .i64 0,.int .i64 0,.int .u8 0]:=⟨none,0,0,0,0,0,rfl⟩
abbrev FrO (c:List Value):Obj:=.cells c.toArray 106 (0,0)
theorem FrC.one {f:TFront}{c:List Value}(h:FrC f c):c.length=6∧∀u∈c,u.oneCell'=true:=by
 obtain ⟨a,n,k,p,s,t,rfl⟩:=h;exact ⟨rfl,Ak rfl⟩
abbrev z6:List Value:=[.int .i64 0,.slice none 0 0,.string ⟨#[]⟩,.int .i64 0,.int .i64 0,.int .u8 0]
theorem Lc {b1 b3 b5:Nat}{r:Rdq}{f:TFront}{c c1:List Value}{p5:Value}[hs:SubP ((b5,FrO c)::(b3,RdO v r.bad)::(b1,FrO c1)::F) L](hv:Bytes I v r.b)(hf:FrC f c)(h1:c1.length=6)
  (hk:∀c',FrC (if r.whole then f else {}) c'→K (.tuple #[.agg c'.toArray,.int .i64 (if r.whole then 0 else 230)]) I F):
  PE ω (.pointer (some ⟨b1,0,none⟩)) p5 (.pointer (some ⟨b3,0,none⟩)) (.pointer (some ⟨b5,0,none⟩)) (λv=>Gh (K v)) I L:=by
 obtain ⟨hc6,hco⟩:=hf.one;unfold PE;refine call (Cal.to ((b5,FrO c)::(b3,RdO v r.bad)::(b1,FrO c1)::F) (VG hv ?_));cases hw:r.whole with
 |true=>
  simp only [hw,if_true] at hk;simp only [zad,SSd,Nat.reduceAdd];refine Ew hc6 ?_;refine stB hc6 h1 hco ?_;refine Ew hc6 ?_;exact zAG F (zAA (hk c hf))
 |false=>
  simp only [hw,zl,if_false] at hk;simp only [zan,SSd,Nat.reduceAdd];refine stB rfl h1 (Ak rfl) ?_;refine Ew rfl ?_;exact zAG F (zAA (hk _ FrC.zero))
theorem UI {l:Bs}(tag:UInt8)(hv:Bytes I v l)(hn:l.length≤1000000000000)(hk:∀c,FrC (UH tag.toNat l).1 c→K (.tuple #[.agg c.toArray,.int .i64 (UH tag.toNat l).2]) I F):CT ω 76 #[.int .u8 tag.toNat,v] K I F:=by
 obtain ⟨a0,k0,rfl⟩:=hv.form;refine APy ?_;unfold APA;refine Am (λb1=>?_);try refine zqe ?_
 refine Am (λb3=>?_);try refine zqe ?_
 refine Am (λb5=>?_);refine stB rfl rfl (Ak rfl) ?_;have fin:∀(f:TFront) (r:Rdq),(∀c,FrC (if r.whole=true then (f,(0:Int)) else ({},230)).1 c→K (.tuple #[.agg c.toArray,.int .i64 (if r.whole=true then (f,(0:Int)) else ({},230)).2]) I F)→∀c',FrC (if r.whole then f else {}) c'→K (.tuple #[.agg c'.toArray,.int .i64 (if r.whole then 0 else 230)]) I F:=by
  intro f r h c' hc';cases hr:r.whole with
  |true=>rw [hr] at h hc';exact h c' hc'
  |false=>rw [hr] at h hc';exact h c' hc'
 unfold UH at hk;try refine zqe ?_
 by_cases h1:((tag.toNat:Int)==81)=true
 ·rw [if_pos h1] at hk;simp only [h1,SSd,Nat.reduceAdd];refine call (KE (r:=⟨l,false⟩) hv (λv2 h2=>?_));try refine zqe ?_
  refine stB rfl rfl (Ak rfl) ?_;exact Lc (c1:=z6) (r:=(Rdq.text ⟨l,false⟩).2) (f:={fKind:=4,fText:=(Rdq.text ⟨l,false⟩).1}) h2 ⟨none,0,0,0,0,0,rfl⟩ rfl (fin _ _ hk)
 rw [if_neg h1] at hk;simp only [zW.2 h1,SSd,Nat.reduceAdd];by_cases h2:((tag.toNat:Int)==88)=true
 ·rw [if_pos h2] at hk;simp only [h2,SSd,Nat.reduceAdd];refine stB rfl rfl (Ak rfl) ?_;exact Lc (c1:=z6) (r:=⟨l,false⟩) (f:={fKind:=5}) hv ⟨none,0,0,0,0,0,rfl⟩ rfl (fin _ _ hk)
 rw [if_neg h2] at hk;simp only [zW.2 h2,SSd,Nat.reduceAdd];refine st1 rfl ?_;exact Lc (c1:=z6) (r:=⟨[],false⟩) (f:={fKind:=6,fTag:=tag.toNat}) (SlI.nil _ _ none 0) ⟨none,0,0,0,0,tag.toNat,rfl⟩ rfl (fin _ _ hk)
theorem Jk {l:Bs}(h:0 < l.length):l.headD 0=l[0]:=by
 cases l with
 |nil=>simp at h
 |cons x y=>rfl
theorem Vm {b1 b3 b5:Nat}{r:Rdq}{f:TFront}{c c1:List Value}{p5:Value}[hs:SubP ((b5,FrO c)::(b3,RdO v r.bad)::(b1,FrO c1)::F) L](hv:Bytes I v r.b)(hf:FrC f c)(h1:c1.length=6)
  (hk:∀c',FrC (if r.whole then f else {}) c'→K (.tuple #[.agg c'.toArray,.int .i64 (if r.whole then 0 else 230)]) I F):
  XU ω (.pointer (some ⟨b1,0,none⟩)) p5 (.pointer (some ⟨b3,0,none⟩)) (.pointer (some ⟨b5,0,none⟩)) (λv=>Gh (K v)) I L:=Lc (p5:=p5) (c1:=c1) (f:=f) hv hf h1 hk
theorem ACO {b1 b3 b5:Nat}{r:Rdq}{f:TFront}{c c1:List Value}{p5:Value}[hs:SubP ((b5,FrO c)::(b3,RdO v r.bad)::(b1,FrO c1)::F) L](hv:Bytes I v r.b)(hf:FrC f c)(h1:c1.length=6)
  (hk:∀c',FrC (if r.whole then f else {}) c'→K (.tuple #[.agg c'.toArray,.int .i64 (if r.whole then 0 else 230)]) I F):
  ADa ω (.pointer (some ⟨b1,0,none⟩)) p5 (.pointer (some ⟨b3,0,none⟩)) (.pointer (some ⟨b5,0,none⟩)) (λv=>Gh (K v)) I L:=Lc (p5:=p5) (c1:=c1) (f:=f) hv hf h1 hk
theorem Fz (n:Int)(r:Rdq):(r.take n).2.b.length≤r.b.length:=by
 unfold Rdq.take;split
 ·exact zt _
 ·rw [zZ];omega
theorem RS (r:Rdq):r.text.2.b.length≤r.b.length:=by
 unfold Rdq.text;simp only;split
 ·exact Fz _ r
 ·exact zaq (Fz _ _) (Fz _ r)
theorem Jb {r:Rdq}(h:r.text.2.bad=false):r.text.2.b.length < r.b.length:=by
 unfold Rdq.text at *;simp only at *
 split at h
 ·rename_i h1;rw [h1] at h;cases h
 rename_i h1
 rw [if_neg h1];have hle:=Fz (ix0 r.b) r;generalize hq:r.take (ix0 r.b)=q at *;obtain ⟨q1,q2,q3⟩:=q;simp only [Rdq.take] at h ⊢;split at h
 ·cases h
 ·rename_i h2
  rw [if_neg h2];simp only [zZ] at *;omega
theorem Oo {r:Rdq}(h:r.bad=true):r.text.2.bad=true:=by
 unfold Rdq.text Rdq.take;simp only;repeat' split
 all_goals first
  |exact h
  |rfl
  |(simp only at *; assumption)
theorem IW:∀(n:Nat) {r:Rdq} (acc:List TParam),r.bad=true→Cf n r acc=some (acc,r)
 |0,r,acc,_=>rfl
 |n+1,r,acc,h=>by unfold Cf;rw [if_neg (by simp [h])]
theorem JI:∀(n m:Nat) {r:Rdq} (acc:List TParam),r.b.length < n→r.b.length < m→Cf n r acc=Cf m r acc
 |0,m,r,acc,h,_=>by omega
 |n+1,0,r,acc,_,h=>by omega
 |n+1,m+1,r,acc,h1,h2=>by
  unfold Cf;split
  ·split
   ·rfl
   ·cases hb:r.text.2.text.2.bad with
    |true=>rw [IW n _ hb,IW m _ hb]
    |false=>
     have hb1:r.text.2.bad=false:=by
      cases h:r.text.2.bad with
      |false=>rfl
      |true=>rw [Oo h] at hb;cases hb
     have:=Jb hb1;have:=Jb hb;exact JI n m _ zo zo
  ·rfl
def AAy (_:Imm)(x:TParam)(c:List Value):Prop:=c=[.string ⟨x.fName.toArray⟩,.string ⟨x.fValue.toArray⟩]
theorem ABm {b1 b3 b5:Nat}{r:Rdq}{f:TFront}(hv:Bytes I v r.b)(hn:r.b.length≤1000000000000)(hf:f={fKind:=1})
  (hk:match Cf (r.b.length+1) r [] with
   |none=>∀c',FrC {} c'→K (.tuple #[.agg c'.toArray,.int .i64 231]) I F
   |some (l,r')=>∀c',FrC (if (r'.take 1).2.whole then f else {}) c'→K (.tuple #[.agg c'.toArray,.int .i64 (if (r'.take 1).2.whole then 0 else 230)]) I F):
  Aw (((Value.int .i64 0),()):Value×Unit) (λs Kn0=>XT ω (.pointer (some ⟨b1,0,none⟩)) (.pointer (some ⟨b3,0,none⟩)) (.pointer (some ⟨b5,0,none⟩)) s.1 Kn0 (λv=>Gh (K v))) I ((b3,RdO v r.bad)::(b5,FrO [.int .i64 1,.slice none 0 0,.string ⟨#[]⟩,.int .i64 0,.int .i64 0,.int .u8 0])::(b1,FrO z6)::F):=by
 refine loop (λm st I' L'=>∃(r':Rdq) (v' vp:Value) (X:LH) (acc:List TParam) (cells:List Value),st=(Value.int .i64 0,())∧I'=I∧L'=X++((b3,RdO v' r'.bad)::(b5,FrO [.int .i64 1,vp,.string ⟨#[]⟩,.int .i64 0,.int .i64 0,.int .u8 0])::(b1,FrO z6)::F)∧
   Bytes I v' r'.b∧SlO 181 2 X vp cells acc.length∧Recs (AAy I) 2 acc cells∧acc.length≤32∧r'.b.length≤r.b.length∧Cf (r.b.length+1) r []=Cf (r'.b.length+1) r' acc∧(if r'.bad then 0 else r'.b.length+1)≤m) (r.b.length+1)
  ⟨r,v,.slice none 0 0,[],[],[],rfl,rfl,rfl,hv,zAN _ _,rfl,by simp,zt _,rfl,by split <;> omega⟩ ?_
 rintro m st I' L' ⟨⟨rb,bad⟩,v',vp,X,acc,cells,rfl,rfl,rfl,hv',hX,hR,ha,hle,he,hm⟩;simp only at hv' hle hm
 rw [he] at hk;unfold XT;have fin:((rb.length > 0&&(rb.headD 0 != 0&& !bad))=false)→PG ω (.pointer (some ⟨b1,0,none⟩)) (.int .i64 0) (.pointer (some ⟨b3,0,none⟩)) (.pointer (some ⟨b5,0,none⟩)) (λv=>Gh (K v)) I' (X++((b3,RdO v' bad)::(b5,FrO [.int .i64 1,vp,.string ⟨#[]⟩,.int .i64 0,.int .i64 0,.int .u8 0])::(b1,FrO z6)::F)):=by
  intro hc;unfold Cf at hk;rw [if_neg (by rw [hc];decide)] at hk;simp only at hk
  unfold PG;obtain ⟨a,k,rfl⟩:=hX.form;refine call (IR (r:=⟨rb,bad⟩) 1 hv' (λv1 v2 h1 h2=>?_));exact ACO (c1:=z6) (f:=f) (r:=((Rdq.mk rb bad).take 1).2) (c:=[.int .i64 1,.slice a acc.length k,.string ⟨#[]⟩,.int .i64 0,.int .i64 0,.int .u8 0]) h2 ⟨a,_,k,0,0,0,by subst hf;rfl⟩ rfl hk
 obtain ⟨a0,k0,rfl⟩:=hv'.form;try refine zqe ?_
 refine rdb ?_;simp only [Hl,SSd,Nat.reduceAdd];refine BZ (λhb=>?_) (λhb=>?_)
 ·have hb:=of_decide_eq_true hb;obtain ⟨bt,off,e1,e2⟩:=Bytes.at hv' (k:=0) zo;have e1:ixV 1 (.slice a0 rb.length k0) (.int .i64 0)=some (.pointer (some ⟨bt,off,none⟩)):=e1;try refine zqe ?_
  refine rdb ?_;simp only [e1,SSd,Nat.reduceAdd];refine rd1 (e2 _ _ (zAC _)) ?_;have hh:rb.headD 0=rb[0]:=Jk zo;have hgt:decide (rb.length > 0)=true:=decide_eq_true zo;have hz:(((rb[0]).toNat:Int) != 0)=(rb.headD 0 != 0):=by
   rw [hh];exact eq_of_beq (FY (p:=λc=>((((c.toNat:Nat):Int) != 0)==(c != 0))) zq rb[0])
  simp only [hz,SSd,Nat.reduceAdd];cases hd:(rb.headD 0 != 0) with
  |false=>
   try refine zqe ?_
   exact fin (by rw [hgt,hd];rfl)
  |true=>
   try refine zqe ?_
   refine rdb ?_;try refine zqe ?_
   cases bad with
   |true=>
    simp only [zad,SSd,Nat.reduceAdd];exact fin (by simp [hd])
   |false=>
    simp only [zan,SSd,Nat.reduceAdd];have hc:(decide (rb.length > 0)&&(rb.headD 0 != 0&& !false))=true:=by rw [hgt,hd];rfl
    have ep:Cf (rb.length+1) ⟨rb,false⟩ acc=if acc.length==32 then none else Cf rb.length (Rdq.mk rb false).text.2.text.2 (acc++[⟨(Rdq.mk rb false).text.1,(Rdq.mk rb false).text.2.text.1⟩]):=by
     rw [Cf,if_pos hc]
    obtain ⟨a,k,rfl⟩:=hX.form;refine rdb ?_;simp only [Hl,SSd,Nat.reduceAdd];by_cases h32:acc.length=32
    ·rw [ep,if_pos (by rw [h32];rfl)] at hk;simp only at hk
     unfold ADb;simp only [h32,show (((32:Nat):Int)==32)=true from rfl,SSd,Nat.reduceAdd];refine stB rfl rfl (Ak rfl) ?_;refine Ew rfl ?_;exact zAG F (zAA (hk _ FrC.zero))
    ·have h32':(((acc.length:Nat):Int)==32)=false:=by
      apply beq_false_of_ne;omega
     rw [if_neg (by simpa using h32)] at ep;simp only [h32',SSd,Nat.reduceAdd];refine call (KE (r:=⟨rb,false⟩) hv' (λv2 h2=>?_));try refine zqe ?_
     refine Am (λbp=>?_);refine stB rfl rfl (Ak rfl) ?_;refine call (KE (r:=(Rdq.mk rb false).text.2) h2 (λv3 h3=>?_));try refine zqe ?_
     refine st1 rfl ?_;try refine zqe ?_
     refine rdb ?_;refine Ew rfl ?_;have hl1:=RS (Rdq.mk rb false);have hl2:=RS (Rdq.mk rb false).text.2;refine Gw (R:=AAy) (x:=⟨(Rdq.mk rb false).text.1,(Rdq.mk rb false).text.2.text.1⟩) (X6:=X) rfl zo hX hR rfl rfl (Ak rfl) zo zo (λX1 X6 w6 cells6 hX6 hR6=>?_);obtain ⟨a6,k6,rfl⟩:=hX6.form;try refine zqe ?_
     refine st1 rfl ?_;have ep2:Cf rb.length (Rdq.mk rb false).text.2.text.2 (acc++[⟨(Rdq.mk rb false).text.1,(Rdq.mk rb false).text.2.text.1⟩])=Cf ((Rdq.mk rb false).text.2.text.2.b.length+1) (Rdq.mk rb false).text.2.text.2 (acc++[⟨(Rdq.mk rb false).text.1,(Rdq.mk rb false).text.2.text.1⟩]):=by
      cases hb2:(Rdq.mk rb false).text.2.text.2.bad with
      |true=>rw [IW _ _ hb2,IW _ _ hb2]
      |false=>
       have hb1:(Rdq.mk rb false).text.2.bad=false:=by
        cases h:(Rdq.mk rb false).text.2.bad with
        |false=>rfl
        |true=>rw [Oo h] at hb2;cases hb2
       have:=Jb hb1;exact JI _ _ _ (by simp only at this;omega) zo
     have hdec:(if (Rdq.mk rb false).text.2.text.2.bad then 0 else (Rdq.mk rb false).text.2.text.2.b.length+1) < m:=by
      simp only [zl,if_false] at hm;split
      ·omega
      ·rename_i hb2
       have hb2:(Rdq.mk rb false).text.2.text.2.bad=false:=by simpa using hb2
       have hb1:(Rdq.mk rb false).text.2.bad=false:=by
        cases h:(Rdq.mk rb false).text.2.bad with
        |false=>rfl
        |true=>rw [Oo h] at hb2;cases hb2
       have:=Jb hb1;simp only at this
       omega
     simp only at hl1
     refine zAG (X6++((b3,RdO v3 (Rdq.mk rb false).text.2.text.2.bad)::(b5,FrO [.int .i64 1,.slice a6 (acc++[TParam.mk (Rdq.mk rb false).text.1 (Rdq.mk rb false).text.2.text.1]).length k6,.string ⟨#[]⟩,.int .i64 0,.int .i64 0,.int .u8 0])::(b1,FrO z6)::F)) (zAA ?_);exact ⟨_,hdec,(Rdq.mk rb false).text.2.text.2,v3,_,X6,_,cells6,by trivial,by trivial,by trivial,h3,hX6,hR6,by simp;omega,by omega,by rw [he,ep,ep2],zt _⟩
 ·refine fin ?_;have:¬rb.length > 0:=by
   intro h;exact hb (decide_eq_true zo)
  rw [decide_eq_false this];rfl
end
def BU {α:Type}(w:α→Nat)(g:Pr α):Prop:=∀l x r,g l= .ok x r→r.length+w x≤l.length
theorem Ag {l:List Tok}{s:Bs}(h:isT l s=true):l.tail.length+1=l.length:=by
 cases l with
 |nil=>simp [isT,hd,default,instInhabitedTok] at h
 |cons t r=>rfl
theorem Gl {l:List Tok}{k:Int}(h:isK l k=true)(hk:k≠0):l.tail.length+1=l.length:=by
 cases l with
 |nil=>simp [isK,hd,default,instInhabitedTok] at h;exact absurd h.symm hk
 |cons t r=>rfl
theorem bind_ok {α β:Type}{x:Res α}{f:α→Pr β}{y:β}{r:List Tok}(h:x.bind f= .ok y r):∃a q,x= .ok a q∧f a q= .ok y r:=by
 cases x with
 |ok a q=>exact ⟨a,q,rfl,h⟩
 |err e=>cases h
theorem Af {s:Bs}{l r:List Tok}{u:Unit}(h:AC s l= .ok u r):r.length+1=l.length:=by
 unfold AC at h;split at h
 ·rename_i ht
  simp only [Res.ok.injEq,true_and] at h;subst h;exact Ag ht
 ·cases h
theorem BA:BU (λ_=>1) Aq:=by
 intro l x r h;unfold Aq at h;split at h
 ·rename_i ht
  simp only [Res.ok.injEq] at h;obtain ⟨_,rfl⟩:=h;have:=Gl ht zx;show l.tail.length+1≤l.length;omega
 ·cases h
theorem DK:∀(a b:List Ex),Ad (a++b)=Ad a+Ad b
 |[],b=>by simp [Ad]
 |x::a,b=>by simp only [zau,Ad,DK a b];omega
theorem SH {g:Pr Ex}(hg:BU Aj g):∀(n:Nat) (acc:List Ex) (l:List Tok) (x:List Ex) (r:List Tok),Cj g n acc l= .ok x r→r.length+Ad x≤l.length+Ad acc
 |0,acc,l,x,r,h=>by simp only [Cj,Res.ok.injEq] at h;obtain ⟨rfl,rfl⟩:=h;omega
 |n+1,acc,l,x,r,h=>by
  simp only [Cj] at h;split at h
  ·rename_i ht
   obtain ⟨a,q,h1,h2⟩:=bind_ok h;have c1:=hg _ _ _ h1;have c2:=SH hg n _ _ _ _ h2;have c3:=Ag ht;rw [DK] at c2;simp only [Ad] at c2;omega
  ·simp only [Res.ok.injEq] at h;obtain ⟨rfl,rfl⟩:=h;omega
theorem ACX {g:Pr Ex}(hg:BU Aj g)(n:Nat):BU Ad (BO n g):=by
 intro l x r h;obtain ⟨a,q,h1,h2⟩:=bind_ok h;have c1:=hg _ _ _ h1;have c2:=SH hg n _ _ _ _ h2;simp only [Ad] at c2;omega
theorem SB {g:Pr Ex}(hg:BU Aj g)(n:Nat):BU (λx=>Ad x+2) (CE n g):=by
 intro l x r h;obtain ⟨_,q,h1,h2⟩:=bind_ok h;obtain ⟨a,q2,h3,h4⟩:=bind_ok h2;obtain ⟨_,q3,h5,h6⟩:=bind_ok h4;simp only [Res.ok.injEq] at h6;obtain ⟨rfl,rfl⟩:=h6;have c1:=Af h1;have c2:=ACX hg n _ _ _ h3;have c3:=Af h5;simp only;omega
theorem SI {g:Pr Ex}(hg:BU Aj g){op:List Tok→Int}(hop:∀l,op l≠0→l.tail.length+1=l.length):∀(n:Nat) (x:Ex) (l:List Tok) (y:Ex) (r:List Tok),Fg g op n x l= .ok y r→r.length+Aj y≤l.length+Aj x
 |0,x,l,y,r,h=>by simp only [Fg,Res.ok.injEq] at h;obtain ⟨rfl,rfl⟩:=h;omega
 |n+1,x,l,y,r,h=>by
  simp only [Fg] at h;split at h
  ·simp only [Res.ok.injEq] at h;obtain ⟨rfl,rfl⟩:=h;omega
  ·rename_i h0
   obtain ⟨a,q,h1,h2⟩:=bind_ok h;have c1:=hg _ _ _ h1;have c2:=SI hg hop n _ _ _ _ h2;have c3:=hop l h0;simp only [exK,Aj,Ad] at c2;omega
theorem Ik {g:Pr Ex}(hg:BU Aj g){op:List Tok→Int}(hop:∀l,op l≠0→l.tail.length+1=l.length)(n:Nat):BU Aj (DI n g op):=by
 intro l x r h;obtain ⟨a,q,h1,h2⟩:=bind_ok h;have c1:=hg _ _ _ h1;have c2:=SI hg hop n _ _ _ _ h2;omega
theorem AMG (l:List Tok)(h:UC l≠0):l.tail.length+1=l.length:=by
 unfold UC at h;split at h
 ·exact Ag ‹_›
 ·exact absurd rfl h
theorem AIG (l:List Tok)(h:LV l≠0):l.tail.length+1=l.length:=by
 unfold LV at h;split at h
 ·exact Ag ‹_›
 ·exact absurd rfl h
theorem AFQ (f:Bs→Option Int)(l:List Tok)(h:KI f l≠0):l.tail.length+1=l.length:=by
 unfold KI at h;split at h
 ·exact Gl ‹_› zx
 ·exact absurd rfl h
theorem AIF (l:List Tok)(h:Gx l≠0):l.tail.length+1=l.length:=by
 unfold Gx at h;repeat' split at h
 all_goals first
  |exact Ag ‹_›
  |exact absurd rfl h
theorem VV {l:List Tok}{v:TValue}(h:LX l=some v):l.tail.length+1=l.length:=by
 unfold LX at h;repeat' split at h
 all_goals first
  |exact Gl ‹_› zx
  |exact Ag ‹_›
  |cases h
theorem QX:BU Aj Ns:=by
 intro l x r h;unfold Ns at h;split at h
 ·rename_i ht
  simp only [Res.ok.injEq] at h;obtain ⟨rfl,rfl⟩:=h;have:=Gl ht zx;simp only [Ld,Aj,Ad];omega
 ·cases h
theorem SC {E:Pr Ex}(hE:BU Aj E)(n:Nat){acc:List Ex}{l:List Tok}{a:List Ex}{r:List Tok}(h:Ed n E acc l= .ok a r):r.length+Ad a+2≤l.length+Ad acc:=by
 obtain ⟨_,q,h1,h2⟩:=bind_ok h;obtain ⟨x,q2,h3,h4⟩:=bind_ok h2;obtain ⟨_,q3,h5,h6⟩:=bind_ok h4;obtain ⟨y,q4,h7,h8⟩:=bind_ok h6;simp only [Res.ok.injEq] at h8;obtain ⟨rfl,rfl⟩:=h8;have c1:=Af h1;have c2:=hE _ _ _ h3;have c3:=Af h5;have c4:=hE _ _ _ h7;rw [DK];simp only [Ad];omega
theorem QW {E:Pr Ex}(hE:BU Aj E)(n:Nat):∀(m:Nat) (acc:List Ex) (l:List Tok) (a:List Ex) (r:List Tok),FH n E m acc l= .ok a r→r.length+Ad a≤l.length+Ad acc
 |0,acc,l,a,r,h=>by simp only [FH,Res.ok.injEq] at h;obtain ⟨rfl,rfl⟩:=h;omega
 |m+1,acc,l,a,r,h=>by
  simp only [FH] at h;split at h
  ·obtain ⟨x,q,h1,h2⟩:=bind_ok h;have c1:=SC hE n h1;have c2:=QW hE n m _ _ _ _ h2;omega
  ·simp only [Res.ok.injEq] at h;obtain ⟨rfl,rfl⟩:=h;omega
theorem ACb {E:Pr Ex}(hE:BU Aj E)(n:Nat):BU Aj (Iy n E):=by
 intro l x r h;obtain ⟨a,q,h1,h2⟩:=bind_ok h;obtain ⟨a2,q2,h3,h4⟩:=bind_ok h2;obtain ⟨a3,q3,h5,h6⟩:=bind_ok h4;obtain ⟨_,q4,h7,h8⟩:=bind_ok h6;simp only [Res.ok.injEq] at h8;obtain ⟨rfl,rfl⟩:=h8;have c1:=SC hE n h1;have c2:=QW hE n n _ _ _ _ h3;have c4:=Af h7;have c3:q3.length+Ad a3≤q2.length+Ad a2:=by
  split at h5
  ·rename_i ht
   obtain ⟨y,q5,g1,g2⟩:=bind_ok h5;simp only [Res.ok.injEq] at g2;obtain ⟨rfl,rfl⟩:=g2;have d1:=hE _ _ _ g1;have d2:=Ag ht;rw [DK];simp only [Ad];omega
  ·simp only [Res.ok.injEq] at h5;obtain ⟨rfl,rfl⟩:=h5;omega
 simp only [Ad] at c1;simp only [exK,Aj];omega
theorem ACc {E:Pr Ex}(hE:BU Aj E)(n:Nat)(s:Bs):BU Aj (Dx n E s):=by
 intro l x r h;unfold Dx at h;split at h
 ·obtain ⟨a,q,h1,h2⟩:=bind_ok h;simp only [Res.ok.injEq] at h2;obtain ⟨rfl,rfl⟩:=h2;have c1:=SB hE n _ _ _ h1;simp only at c1
  simp only [exK,Aj];omega
 obtain ⟨_,q,h1,h2⟩:=bind_ok h;have c1:=Af h1;split at h2
 ·obtain ⟨a,q2,h3,h4⟩:=bind_ok h2;obtain ⟨_,q3,h5,h6⟩:=bind_ok h4;simp only [Res.ok.injEq] at h6;obtain ⟨rfl,rfl⟩:=h6;have c2:=hE _ _ _ h3;have c3:=Af h5;simp only [exK,Aj,Ad];omega
 split at h2
 ·rename_i ht
  simp only [zF] at ht;have c2:=Ag ht.2;obtain ⟨_,q3,h5,h6⟩:=bind_ok h2;simp only [Res.ok.injEq] at h6;obtain ⟨rfl,rfl⟩:=h6;have c3:=Af h5;simp only [exK,Jz,Aj,Ad];omega
 ·obtain ⟨a,q2,h3,h4⟩:=bind_ok h2;obtain ⟨_,q3,h5,h6⟩:=bind_ok h4;simp only [Res.ok.injEq] at h6;obtain ⟨rfl,rfl⟩:=h6;have c2:=hE _ _ _ h3;have c3:=Af h5;have c4:(if isT q [100,105,115,116,105,110,99,116] then q.tail else q).length≤q.length:=by split <;> simp
  simp only [Jz,Aj,Ad];omega
theorem YC {E U:Pr Ex}(hE:BU Aj E)(hU:BU Aj U)(n:Nat):BU Aj (GM n E U):=by
 intro l x r h;unfold GM at h;split at h
 ·rename_i ht
  obtain ⟨a,q,h1,h2⟩:=bind_ok h;simp only [Res.ok.injEq] at h2;obtain ⟨rfl,rfl⟩:=h2;have c1:=hU _ _ _ h1;have c2:=Ag ht;simp only [exK,Aj,Ad];omega
 split at h
 ·rename_i ht
  obtain ⟨a,q,h1,h2⟩:=bind_ok h;obtain ⟨_,q2,h3,h4⟩:=bind_ok h2;simp only [Res.ok.injEq] at h4;obtain ⟨rfl,rfl⟩:=h4;have c1:=hE _ _ _ h1;have c2:=Ag ht;have c3:=Af h3;omega
 split at h
 ·rename_i ht
  have c1:=ACb hE n _ _ _ h;have c2:=Ag ht;omega
 split at h
 ·exact QX _ _ _ h
 split at h
 ·rename_i v hv
  simp only [Res.ok.injEq] at h;obtain ⟨rfl,rfl⟩:=h;have:=VV hv;simp only [Ld,Aj,Ad];omega
 ·obtain ⟨s,q,h1,h2⟩:=bind_ok h;have c1:=BA _ _ _ h1;simp only at c1
  split at h2
  ·have:=ACc hE n _ _ _ _ h2;omega
  split at h2
  ·rename_i ht
   obtain ⟨c,q2,h3,h4⟩:=bind_ok h2;simp only [Res.ok.injEq] at h4;obtain ⟨rfl,rfl⟩:=h4;have c2:=BA _ _ _ h3;have c3:=Ag ht;simp only at c2
   simp only [Rz,Aj,Ad];omega
  ·simp only [Res.ok.injEq] at h2;obtain ⟨rfl,rfl⟩:=h2;simp only [Rz,Aj,Ad];omega
theorem MR (b:Bool)(x:Ex):Aj (VU b x)=Aj x+if b then 1 else 0:=by
 cases b
 ·simp [VU]
 ·simp [VU,exK,Aj,Ad]
theorem ACY {E S:Pr Ex}(hE:BU Aj E)(hS:BU Aj S)(n:Nat):BU Aj (JH n E S):=by
 intro l x r h;obtain ⟨a,q,h1,h2⟩:=bind_ok h;have c1:=hS _ _ _ h1;simp only at h2
 split at h2
 ·rename_i h0
  obtain ⟨y,q2,h3,h4⟩:=bind_ok h2;simp only [Res.ok.injEq] at h4;obtain ⟨rfl,rfl⟩:=h4;have c2:=hS _ _ _ h3;have c3:=AIF _ h0;simp only [exK,Aj,Ad];omega
 split at h2
 ·rename_i ht
  have c2:=Ag ht;split at h2
  ·rename_i ht2
   have c3:=Ag ht2;obtain ⟨_,q2,h3,h4⟩:=bind_ok h2;simp only [Res.ok.injEq] at h4;obtain ⟨rfl,rfl⟩:=h4;have c4:=Af h3;simp only [exK,Aj,Ad];omega
  ·obtain ⟨_,q2,h3,h4⟩:=bind_ok h2;simp only [Res.ok.injEq] at h4;obtain ⟨rfl,rfl⟩:=h4;have c4:=Af h3;simp only [exK,Aj,Ad];omega
 have cb:(if isT q [110,111,116] then q.tail else q).length+(if isT q [110,111,116] then 1 else 0)=q.length:=by
  cases hn:isT q [110,111,116] with
  |true=>simpa using Ag hn
  |false=>simp
 generalize hq:(if isT q [110,111,116] then q.tail else q)=q1 at h2 cb;split at h2
 ·rename_i ht
  have c2:=Ag ht;obtain ⟨y,q2,h3,h4⟩:=bind_ok h2;simp only [Res.ok.injEq] at h4;obtain ⟨rfl,rfl⟩:=h4;have c3:=SB hE n _ _ _ h3;simp only at c3
  rw [MR];simp only [exK,Aj,Ad];omega
 split at h2
 ·rename_i ht
  have c2:=Ag ht;obtain ⟨y,q2,h3,h4⟩:=bind_ok h2;obtain ⟨_,q3,h5,h6⟩:=bind_ok h4;obtain ⟨z,q4,h7,h8⟩:=bind_ok h6;simp only [Res.ok.injEq] at h8;obtain ⟨rfl,rfl⟩:=h8;have c3:=hS _ _ _ h3;have c4:=Af h5;have c5:=hS _ _ _ h7;rw [MR];simp only [exK,Aj,Ad];omega
 split at h2
 ·rename_i ht
  have c2:=Ag ht;obtain ⟨y,q2,h3,h4⟩:=bind_ok h2;simp only [Res.ok.injEq] at h4;obtain ⟨rfl,rfl⟩:=h4;have c3:=hS _ _ _ h3;rw [MR];simp only [exK,Aj,Ad];omega
 split at h2
 ·cases h2
 ·simp only [Res.ok.injEq] at h2;obtain ⟨rfl,rfl⟩:=h2;omega
theorem AFg {N Q:Pr Ex}(hN:BU Aj N)(hQ:BU Aj Q):BU Aj (Qn N Q):=by
 intro l x r h;unfold Qn at h;split at h
 ·rename_i ht
  obtain ⟨y,q2,h3,h4⟩:=bind_ok h;simp only [Res.ok.injEq] at h4;obtain ⟨rfl,rfl⟩:=h4;have c1:=Ag ht;have c2:=hN _ _ _ h3;simp only [exK,Aj,Ad];omega
 ·exact hQ _ _ _ h
theorem KQ:∀n,BU Aj (eP n)∧BU Aj (nP n)∧BU Aj (uP n)
 |0=>⟨λl x r h=>by simp [eP,IC] at h,λl x r h=>by simp [nP,IC] at h,λl x r h=>by simp [uP,IC] at h⟩
 |n+1=>by
  obtain ⟨hE,hN,hU⟩:=KQ n;have u:=YC hE hU n;have s:=Ik (Ik u (AFQ Oq) n) (AFQ XJ) n;have nn:=AFg hN (ACY hE s n);exact ⟨Ik (Ik nn AIG n) AMG n,nn,u⟩
def pz (x:Ex):Nat:=if x.kind != 0 then Aj x else 0
theorem AAZ (x:Ex):pz x≤Aj x:=by unfold pz;split <;> omega
theorem pz0:pz ex0=0:=rfl
theorem IV:∀l:List Ex,Ad (l.filter λx=>x.kind != 0)=(l.map pz).sum
 |[]=>rfl
 |x::l=>by
  simp only [List.filter_cons,zG,zai,pz];cases h:(x.kind != 0) with
  |true=>simp only [if_true,Ad,IV l]
  |false=>simp only [zl,if_false,IV l];simp
theorem QY {α:Type}{w:α→Nat}{g:Pr α}(hg:BU w g):∀(n:Nat) (acc:List α) (l:List Tok) (x:List α) (r:List Tok),Cj g n acc l= .ok x r→r.length+(x.map w).sum≤l.length+(acc.map w).sum
 |0,acc,l,x,r,h=>by simp only [Cj,Res.ok.injEq] at h;obtain ⟨rfl,rfl⟩:=h;omega
 |n+1,acc,l,x,r,h=>by
  simp only [Cj] at h;split at h
  ·rename_i ht
   obtain ⟨a,q,h1,h2⟩:=bind_ok h;have c1:=hg _ _ _ h1;have c2:=QY hg n _ _ _ _ h2;have c3:=Ag ht;simp only [zM,zG,zak,zaL,zai,zaC] at c2;omega
  ·simp only [Res.ok.injEq] at h;obtain ⟨rfl,rfl⟩:=h;omega
theorem Dz {α:Type}{w:α→Nat}{g:Pr α}(hg:BU w g)(n:Nat):BU (λx=>(x.map w).sum) (BO n g):=by
 intro l x r h;obtain ⟨a,q,h1,h2⟩:=bind_ok h;have c1:=hg _ _ _ h1;have c2:=QY hg n _ _ _ _ h2;simp only [zG,zak,zai,zaC] at c2;simp only;omega
theorem QV {α:Type}{w:α→Nat}{g:Pr α}(hg:BU w g)(n:Nat):BU (λx=>(x.map w).sum) (CE n g):=by
 intro l x r h;obtain ⟨_,q,h1,h2⟩:=bind_ok h;obtain ⟨a,q2,h3,h4⟩:=bind_ok h2;obtain ⟨_,q3,h5,h6⟩:=bind_ok h4;simp only [Res.ok.injEq] at h6;obtain ⟨rfl,rfl⟩:=h6;have c1:=Af h1;have c2:=Dz hg n _ _ _ h3;have c3:=Af h5;simp only at c2 ⊢;omega
theorem KR (n:Nat):BU pz (eP n):=λl x r h=>by
 have:=(KQ n).1 l x r h;have:=AAZ x;omega
theorem Gm (n:Nat):BU (λx=>0 * x.length) (CE n Aq):=by
 intro l x r h;have:=QV (w:=λ_=>0) (λl x r h=>by have:=BA l x r h;simp only at this ⊢;omega) n l x r h;simp only at this ⊢;omega
theorem Gn (n:Nat)(s:Bs):BU pz (EK n s):=by
 intro l x r h;unfold EK at h;split at h
 ·have c1:=KR n _ _ _ h;have c2:=Ag ‹_›;omega
 ·simp only [Res.ok.injEq] at h;obtain ⟨rfl,rfl⟩:=h;rw [pz0];omega
theorem ACZ (n:Nat):BU (λx=>pz x.fExpr) (Gy n):=by
 intro l x r h;unfold Gy at h;split at h
 ·simp only [Res.ok.injEq] at h;obtain ⟨rfl,rfl⟩:=h;have:=Ag ‹_›;simp only [pz0];omega
 split at h
 ·simp only [Res.ok.injEq] at h;obtain ⟨rfl,rfl⟩:=h;simp only [pz0,zaU];omega
 ·obtain ⟨y,q,h1,h2⟩:=bind_ok h;have c1:=KR n _ _ _ h1;split at h2
  ·obtain ⟨a,q2,h3,h4⟩:=bind_ok h2;simp only [Res.ok.injEq] at h4;obtain ⟨rfl,rfl⟩:=h4;have c2:=BA _ _ _ h3;have c3:=Ag ‹_›;simp only at c2 ⊢;omega
  ·simp only [Res.ok.injEq] at h2;obtain ⟨rfl,rfl⟩:=h2;exact c1
theorem YF (n:Nat):BU (λx=>pz x.fExpr) (Hf n):=by
 intro l x r h;obtain ⟨y,q,h1,h2⟩:=bind_ok h;have c1:=KR n _ _ _ h1;split at h2
 ·simp only [Res.ok.injEq] at h2;obtain ⟨rfl,rfl⟩:=h2;have:=Ag ‹_›;simp only;omega
 split at h2
 ·simp only [Res.ok.injEq] at h2;obtain ⟨rfl,rfl⟩:=h2;have:=Ag ‹_›;simp only;omega
 ·simp only [Res.ok.injEq] at h2;obtain ⟨rfl,rfl⟩:=h2;exact c1
theorem AFf (n:Nat):BU (λx=>pz x.fExpr) (Tj n):=by
 intro l x r h;obtain ⟨s,q,h1,h2⟩:=bind_ok h;obtain ⟨_,q2,h3,h4⟩:=bind_ok h2;obtain ⟨y,q3,h5,h6⟩:=bind_ok h4;simp only [Res.ok.injEq] at h6;obtain ⟨rfl,rfl⟩:=h6;have c1:=BA _ _ _ h1;have c2:=Af h3;have c3:=KR n _ _ _ h5;simp only at c1 ⊢;omega
theorem Gz:BU (λx=>pz x.fOn) DC:=by
 intro l x r h;obtain ⟨s,q,h1,h2⟩:=bind_ok h;have c1:=BA _ _ _ h1;simp only at c1
 split at h2
 ·obtain ⟨a,q2,h3,h4⟩:=bind_ok h2;simp only [Res.ok.injEq] at h4;obtain ⟨rfl,rfl⟩:=h4;have c2:=BA _ _ _ h3;have c3:=Ag ‹_›;simp only [pz0] at c2 ⊢;omega
 split at h2
 ·obtain ⟨a,q2,h3,h4⟩:=bind_ok h2;simp only [Res.ok.injEq] at h4;obtain ⟨rfl,rfl⟩:=h4;have c2:=BA _ _ _ h3;simp only [pz0] at c2 ⊢;omega
 ·simp only [Res.ok.injEq] at h2;obtain ⟨rfl,rfl⟩:=h2;simp only [pz0];omega
theorem NF (n:Nat)(b:Bool):BU (λx=>pz x.fOn) (GY n b):=by
 intro l x r h;obtain ⟨_,q,h1,h2⟩:=bind_ok h;obtain ⟨s,q2,h3,h4⟩:=bind_ok h2;obtain ⟨_,q3,h5,h6⟩:=bind_ok h4;obtain ⟨y,q4,h7,h8⟩:=bind_ok h6;simp only [Res.ok.injEq] at h8;obtain ⟨rfl,rfl⟩:=h8;have c1:=Af h1;have c2:=Gz _ _ _ h3;have c3:=Af h5;have c4:=KR n _ _ _ h7;simp only at c2 ⊢;omega
theorem QZ (n:Nat):∀(m:Nat) (acc:List TSource) (l:List Tok) (x:List TSource) (r:List Tok),DU n m acc l= .ok x r→r.length+(x.map λx=>pz x.fOn).sum≤l.length+(acc.map λx=>pz x.fOn).sum
 |0,acc,l,x,r,h=>by simp only [DU,Res.ok.injEq] at h;obtain ⟨rfl,rfl⟩:=h;omega
 |m+1,acc,l,x,r,h=>by
  have one:∀{g:Pr TSource} (_:BU (λx=>pz x.fOn) g) {l':List Tok},l'.length≤l.length→(g l').bind (λs r=>DU n m (acc++[s]) r)= .ok x r→r.length+(x.map λx=>pz x.fOn).sum≤l.length+(acc.map λx=>pz x.fOn).sum:=by
   intro g hg l' hl h;obtain ⟨a,q,h1,h2⟩:=bind_ok h;have c1:=hg _ _ _ h1;have c2:=QZ n m _ _ _ _ h2;simp only [zM,zG,zak,zaL,zai,zaC] at c2;simp only at c1;omega
  simp only [DU] at h;split at h
  ·exact one Gz zy h
  split at h
  ·obtain ⟨_,q,h1,h2⟩:=bind_ok h;have c1:=Af h1;have c2:=Ag ‹_›;exact one Gz zo h2
  split at h
  ·exact one (NF n true) zy h
  split at h
  ·exact one (NF n false) zy h
  split at h
  ·exact one (NF n false) (zt _) h
  ·simp only [Res.ok.injEq] at h;obtain ⟨rfl,rfl⟩:=h;omega
theorem ACa (n:Nat):BU (λx=>(x.map λx=>pz x.fOn).sum) (Jy n):=by
 intro l x r h;obtain ⟨a,q,h1,h2⟩:=bind_ok h;have c1:=Gz _ _ _ h1;have c2:=QZ n n _ _ _ _ h2;simp only [zG,zak,zai,zaC] at c2;simp only at c1 ⊢;omega
theorem EQ {α:Type}{w:α→Nat}{g:Pr α}(hg:BU w g)(s:Bs){d:α}(hd:w d=0):BU w (Po s d g):=by
 intro l x r h;unfold Po at h;split at h
 ·have c1:=hg _ _ _ h;have c2:=Ag ‹_›;omega
 ·simp only [Res.ok.injEq] at h;obtain ⟨rfl,rfl⟩:=h;omega
theorem OW {α:Type}{w:α→Nat}{g:Pr α}(hg:BU w g):BU w (byP g):=by
 intro l x r h;obtain ⟨_,q,h1,h2⟩:=bind_ok h;have c1:=Af h1;have c2:=hg _ _ _ h2;omega
theorem Ij:BU (λ_=>0) FN:=by
 intro l x r h;unfold FN at h;split at h
 ·simp only [Res.ok.injEq] at h;obtain ⟨_,rfl⟩:=h;simp
 ·cases h
def wQ (q:TSelect):Nat:=(q.fItems.map λx=>pz x.fExpr).sum+(q.fFrom.map λx=>pz x.fOn).sum+pz q.fWhere+(q.fGroup.map pz).sum+pz q.fHaving+(q.fOrder.map λx=>pz x.fExpr).sum
def wS (s:TStmt):Nat:=wQ s.fSelect+pz s.fWhere+((s.fRows.flatten).map pz).sum+(s.fSets.map λx=>pz x.fExpr).sum+(s.fCols.map λx=>pz x.fDefault).sum
theorem AEj (s:TStmt):KH s=wS s+1:=by
 simp only [KH,FZ,IV,wS,wQ,zM,zaL,zG,zak,zai,zaC,List.map_map,Function.comp_def];omega
theorem YE (n:Nat):BU wQ (Ha n):=by
 intro l x r h;obtain ⟨a1,q1,h1,h⟩:=bind_ok h;obtain ⟨a2,q2,h2,h⟩:=bind_ok h;obtain ⟨a3,q3,h3,h⟩:=bind_ok h;obtain ⟨a4,q4,h4,h⟩:=bind_ok h;obtain ⟨a5,q5,h5,h⟩:=bind_ok h;obtain ⟨a6,q6,h6,h⟩:=bind_ok h;obtain ⟨a7,q7,h7,h⟩:=bind_ok h;obtain ⟨a8,q8,h8,h⟩:=bind_ok h;simp only [Res.ok.injEq] at h;obtain ⟨rfl,rfl⟩:=h;have c1:=Dz (ACZ n) n _ _ _ h1;have c2:=EQ (ACa n) _ rfl _ _ _ h2;have c3:=Gn n _ _ _ _ h3;have c4:=EQ (OW (Dz (KR n) n)) _ rfl _ _ _ h4;have c5:=Gn n _ _ _ _ h5;have c6:=EQ (OW (Dz (YF n) n)) _ rfl _ _ _ h6;have c7:=EQ Ij _ rfl _ _ _ h7;have c8:=EQ Ij _ rfl _ _ _ h8;have c0:(if isT l [100,105,115,116,105,110,99,116] then l.tail else l).length≤l.length:=by split <;> simp
 simp only at c1 c2 c4 c6 c7 c8
 simp only [wQ];omega
theorem YG:BU pz Gg:=by
 intro l x r h;unfold Gg at h;split at h
 ·rename_i v hv
  simp only [Res.ok.injEq] at h;obtain ⟨rfl,rfl⟩:=h;have:=VV hv;have:=AAZ (Ld v);simp only [Ld,Aj,Ad] at this;simp only [Ld];omega
 split at h
 ·obtain ⟨y,q,h1,h2⟩:=bind_ok h;simp only [Res.ok.injEq] at h2;obtain ⟨rfl,rfl⟩:=h2;have c1:=QX _ _ _ h1;have c2:=Ag ‹_›;have:=AAZ (exK 4 [y]);simp only [exK,Aj,Ad] at this;simp only [exK];omega
 ·have c1:=QX _ _ _ h;have:=AAZ x;omega
theorem GH:∀(m:Nat) (c:TCol) (l:List Tok) (y:TCol) (r:List Tok),Ff m c l= .ok y r→r.length+pz y.fDefault≤l.length+pz c.fDefault
 |0,c,l,y,r,h=>by simp only [Ff,Res.ok.injEq] at h;obtain ⟨rfl,rfl⟩:=h;omega
 |m+1,c,l,y,r,h=>by
  simp only [Ff] at h;split at h
  ·obtain ⟨_,q,h1,h2⟩:=bind_ok h;have c1:=Af h1;have c2:=GH m _ _ _ _ h2;have:l.tail.length≤l.length:=by simp
   simp only at c2;omega
  split at h
  ·obtain ⟨_,q,h1,h2⟩:=bind_ok h;have c1:=Af h1;have c2:=GH m _ _ _ _ h2;have:l.tail.length≤l.length:=by simp
   simp only at c2;omega
  split at h
  ·have c2:=GH m _ _ _ _ h;have:l.tail.length≤l.length:=by simp
   simp only at c2;omega
  split at h
  ·obtain ⟨x,q,h1,h2⟩:=bind_ok h;have c1:=YG _ _ _ h1;have c2:=GH m _ _ _ _ h2;have:l.tail.length≤l.length:=by simp
   simp only at c2;omega
  ·simp only [Res.ok.injEq] at h;obtain ⟨rfl,rfl⟩:=h;omega
theorem Vr (n:Nat):BU (λx=>pz x.fDefault) (Es n):=by
 intro l x r h;obtain ⟨s,q,h1,h2⟩:=bind_ok h;have c1:=BA _ _ _ h1;simp only at h2 c1
 generalize (if isK q 1 then typeOf (hd q).text else 0)=t at h2;split at h2
 ·cases h2
 ·have c2:=GH n _ _ _ _ h2;have:q.tail.length≤q.length:=by simp
  simp only [pz0] at c2 ⊢;omega
theorem SE (n:Nat):∀(m:Nat) (cs:List TCol) (ks:List Bs) (l:List Tok) (x:List TCol×List Bs) (r:List Tok),FV n m cs ks l= .ok x r→r.length+(x.1.map λx=>pz x.fDefault).sum≤l.length+(cs.map λx=>pz x.fDefault).sum
 |0,cs,ks,l,x,r,h=>by simp only [FV,Res.ok.injEq] at h;obtain ⟨rfl,rfl⟩:=h;exact zt _
 |m+1,cs,ks,l,x,r,h=>by
  simp only [FV] at h;obtain ⟨a,q,h1,h2⟩:=bind_ok h;have c1:q.length+(a.1.map λx=>pz x.fDefault).sum≤l.length+(cs.map λx=>pz x.fDefault).sum:=by
   split at h1
   ·obtain ⟨_,q1,g1,g2⟩:=bind_ok h1;obtain ⟨k,q2,g3,g4⟩:=bind_ok g2;simp only [Res.ok.injEq] at g4;obtain ⟨rfl,rfl⟩:=g4;have d1:=Af g1;have d2:=Gm n _ _ _ g3;have:l.tail.length≤l.length:=by simp
    simp only at d2 ⊢;omega
   ·obtain ⟨c,q1,g1,g2⟩:=bind_ok h1;simp only [Res.ok.injEq] at g2;obtain ⟨rfl,rfl⟩:=g2;have d1:=Vr n _ _ _ g1;simp only [zM,zG,zak,zaL,zai,zaC] at d1 ⊢;omega
  split at h2
  ·have c2:=SE n m _ _ _ _ _ h2;have:q.tail.length≤q.length:=by simp
   omega
  ·simp only [Res.ok.injEq] at h2;obtain ⟨rfl,rfl⟩:=h2;exact c1
theorem YD (n:Nat):BU wS (MK n):=by
 intro l x r h;obtain ⟨s,q,h1,h⟩:=bind_ok h;obtain ⟨_,q2,h2,h⟩:=bind_ok h;obtain ⟨y,q3,h3,h⟩:=bind_ok h;have c1:=BA _ _ _ h1;have c2:=Af h2;have c3:=SE n _ _ _ _ _ _ h3;simp only [zak,zaC] at c3;split at h
 ·cases h
 ·obtain ⟨_,q4,h4,h⟩:=bind_ok h;simp only [Res.ok.injEq] at h;obtain ⟨rfl,rfl⟩:=h;have c4:=Af h4;have:wS {(default:TStmt) with fKind:=5,fTable:=s,fCols:=y.1,fKey:=y.2}=(y.1.map λx=>pz x.fDefault).sum:=by
   show 0+0+0+0+(y.1.map λx=>pz x.fDefault).sum=_;simp
  rw [this];simp only at c1;omega
theorem Ul:∀(l:List (List Ex)),(l.flatten.map pz).sum=(l.map λx=>(x.map pz).sum).sum
 |[]=>rfl
 |x::l=>by simp only [zbr,zM,zaL,zG,zai,Ul l]
theorem wS0 {s:TStmt}(h1:s.fSelect=default)(h2:s.fWhere=ex0)(h3:s.fRows=[])(h4:s.fSets=[])(h5:s.fCols=[]):wS s=0:=by
 simp only [wS,h1,h2,h3,h4,h5];rfl
theorem leW {a b:Nat}{s:TStmt}(h0:wS s=0)(h:a+1≤b):a+(λs=>wS s+1) s≤b:=by simp only [h0];omega
theorem UT {l r:List Tok}{n:Nat}(h:r.length+n≤l.length):r.length≤l.length:=by omega
theorem SG (n:Nat):BU (λs=>wS s+1) (EF n):=by
 intro l x r h;unfold EF at h;split at h
 ·obtain ⟨q,r1,h1,h2⟩:=bind_ok h;simp only [Res.ok.injEq] at h2;obtain ⟨rfl,rfl⟩:=h2;have c1:=YE n _ _ _ h1;have c2:=Ag ‹_›;have:wS {(default:TStmt) with fKind:=1,fSelect:=q}=wQ q:=by show wQ q+0+0+0+0=_;simp
  simp only [this];omega
 split at h
 ·have c0:=Ag ‹_›;obtain ⟨_,r1,h1,h⟩:=bind_ok h;obtain ⟨s,r2,h2,h⟩:=bind_ok h;obtain ⟨c,r3,h3,h⟩:=bind_ok h;obtain ⟨_,r4,h4,h⟩:=bind_ok h;obtain ⟨y,r5,h5,h⟩:=bind_ok h;simp only [Res.ok.injEq] at h;obtain ⟨rfl,rfl⟩:=h;have c1:=Af h1;have c2:=BA _ _ _ h2;have c3:r3.length≤r2.length:=by
   split at h3
   ·exact UT (Gm n _ _ _ h3)
   ·simp only [Res.ok.injEq] at h3;obtain ⟨rfl,rfl⟩:=h3;exact zt _
  have c4:=Af h4;have c5:=Dz (QV (KR n) n) n _ _ _ h5;have:wS {(default:TStmt) with fKind:=2,fTable:=s,fColumns:=c,fRows:=y}=(y.flatten.map pz).sum:=by show 0+0+(y.flatten.map pz).sum+0+0=_;simp
  simp only at c2 c5
  simp only [this,Ul];omega
 split at h
 ·have c0:=Ag ‹_›;obtain ⟨s,r1,h1,h⟩:=bind_ok h;obtain ⟨_,r2,h2,h⟩:=bind_ok h;obtain ⟨y,r3,h3,h⟩:=bind_ok h;obtain ⟨z,r4,h4,h⟩:=bind_ok h;simp only [Res.ok.injEq] at h;obtain ⟨rfl,rfl⟩:=h;have c1:=BA _ _ _ h1;have c2:=Af h2;have c3:=Dz (AFf n) n _ _ _ h3;have c4:=Gn n _ _ _ _ h4;have:wS {(default:TStmt) with fKind:=3,fTable:=s,fSets:=y,fWhere:=z}=pz z+(y.map λx=>pz x.fExpr).sum:=by show 0+pz z+0+(y.map λx=>pz x.fExpr).sum+0=_;simp
  simp only at c1 c3
  simp only [this];omega
 split at h
 ·have c0:=Ag ‹_›;obtain ⟨_,r1,h1,h⟩:=bind_ok h;obtain ⟨s,r2,h2,h⟩:=bind_ok h;obtain ⟨z,r3,h3,h⟩:=bind_ok h;simp only [Res.ok.injEq] at h;obtain ⟨rfl,rfl⟩:=h;have c1:=Af h1;have c2:=BA _ _ _ h2;have c3:=Gn n _ _ _ _ h3;have:wS {(default:TStmt) with fKind:=4,fTable:=s,fWhere:=z}=pz z:=by show 0+pz z+0+0+0=_;simp
  simp only at c2
  simp only [this];omega
 split at h
 ·have c0:=Ag ‹_›;unfold FQ at h;split at h
  ·have c1:=YD n _ _ _ h;have:l.tail.tail.length≤l.tail.length:=by simp
   simp only;omega
  ·obtain ⟨_,r1,h1,h⟩:=bind_ok h;obtain ⟨a,r2,h2,h⟩:=bind_ok h;obtain ⟨_,r3,h3,h⟩:=bind_ok h;obtain ⟨t,r4,h4,h⟩:=bind_ok h;obtain ⟨c,r5,h5,h⟩:=bind_ok h;simp only [Res.ok.injEq] at h;obtain ⟨rfl,rfl⟩:=h;have c1:=Af h1;have c2:=BA _ _ _ h2;have c3:=Af h3;have c4:=BA _ _ _ h4;have c5:=UT (Gm n _ _ _ h5);have c6:(if isT l.tail [117,110,105,113,117,101] then l.tail.tail else l.tail).length≤l.tail.length:=by split <;> simp
   refine leW (wS0 rfl rfl rfl rfl rfl) ?_;simp only at c2 c4;omega
 split at h
 ·have c0:=Ag ‹_›;unfold Gi at h;split at h
  ·obtain ⟨s,r1,h1,h⟩:=bind_ok h;simp only [Res.ok.injEq] at h;obtain ⟨rfl,rfl⟩:=h;have c1:=BA _ _ _ h1;have:l.tail.tail.length≤l.tail.length:=by simp
   refine leW (wS0 rfl rfl rfl rfl rfl) ?_;simp only at c1;omega
  ·obtain ⟨_,r1,h1,h⟩:=bind_ok h;obtain ⟨s,r2,h2,h⟩:=bind_ok h;simp only [Res.ok.injEq] at h;obtain ⟨rfl,rfl⟩:=h;have c1:=Af h1;have c2:=BA _ _ _ h2;refine leW (wS0 rfl rfl rfl rfl rfl) ?_;simp only at c2;omega
 split at h
 ·have c0:=Ag ‹_›;simp only [Res.ok.injEq] at h;obtain ⟨rfl,rfl⟩:=h;refine leW (wS0 rfl rfl rfl rfl rfl) ?_;omega
 split at h
 ·have c0:=Ag ‹_›;simp only [Res.ok.injEq] at h;obtain ⟨rfl,rfl⟩:=h;refine leW (wS0 rfl rfl rfl rfl rfl) ?_;omega
 ·obtain ⟨_,r1,h1,h⟩:=bind_ok h;simp only [Res.ok.injEq] at h;obtain ⟨rfl,rfl⟩:=h;have c1:=Af h1;refine leW (wS0 rfl rfl rfl rfl rfl) ?_;omega
theorem KP (n:Nat):∀(m:Nat) (acc:List TStmt) (l:List Tok) (x:List TStmt) (r:List Tok),CV n m acc l= .ok x r→BG x≤l.length+BG acc
 |0,acc,l,x,r,h=>by simp only [CV,Res.ok.injEq] at h;obtain ⟨rfl,rfl⟩:=h;omega
 |m+1,acc,l,x,r,h=>by
  simp only [CV] at h;split at h
  ·simp only [Res.ok.injEq] at h;obtain ⟨rfl,rfl⟩:=h;omega
  split at h
  ·have:=KP n m _ _ _ _ h;have:l.tail.length≤l.length:=by simp
   omega
  ·obtain ⟨s,q,h1,h2⟩:=bind_ok h;have c1:=SG n _ _ _ h1;simp only at c1
   split at h2
   ·have c2:=KP n m _ _ _ _ h2;simp only [BG,zM,zG,zak,zaL,zai,zaC,AEj] at c2 ⊢;omega
   ·cases h2
theorem KC (n:Nat):∀(f:Nat) (acc:List Tok) (s:Bs) (l:List Tok),Gu n f acc s= .toks l→l.length≤acc.length+f
 |0,acc,s,l,h=>by simp only [Gu,LexA.toks.injEq] at h;subst h;omega
 |f+1,acc,s,l,h=>by
  simp only [Gu] at h;split at h
  ·simp only [LexA.toks.injEq] at h;subst h;simp
  ·split at h
   ·cases h
   ·have:=KC n f _ _ _ h;simp at this;omega
theorem Xf (s:Bs):BG (readA s).1≤s.length+1:=by
 unfold readA;split
 ·simp [BG]
 ·rename_i l hl
  have hc:=KC _ _ _ _ _ hl;split
  ·rename_i x r hx
   have:=KP _ _ _ _ _ _ hx;simp [BG] at this hc ⊢;omega
  ·simp [BG]
def cQ (q:TSelect):Nat:=q.fItems.length+q.fFrom.length+q.fGroup.length+q.fOrder.length
def cS (s:TStmt):Nat:=cQ s.fSelect+(s.fRows.flatten.length+s.fRows.length)+s.fSets.length+s.fCols.length
theorem AHJ {α:Type}(l:List α):(l.map λ_=>1).sum=l.length:=by
 induction l with
 |nil=>rfl
 |cons x l ih=>simp only [zG,zai,ih,zf];omega
theorem JK {α:Type}{g:Pr α}(hg:BU (λ_=>1) g)(n:Nat):BU List.length (BO n g):=λl x r h=>by
 have:=Dz hg n l x r h;simp only [AHJ] at this;exact this
theorem Rj (n:Nat):BU (λ_=>1) (eP n):=λl x r h=>by
 have:=(KQ n).1 l x r h;have:1≤Aj x:=by cases x;simp [Aj]
 simp only;omega
theorem VW (n:Nat)(s:Bs):BU (λ_=>0) (EK n s):=λl x r h=>by
 have:=Gn n s l x r h;simp only;omega
theorem AEp (n:Nat):BU (λ_=>1) (Gy n):=by
 intro l x r h;unfold Gy at h;split at h
 ·simp only [Res.ok.injEq] at h;obtain ⟨rfl,rfl⟩:=h;have:=Ag ‹_›;simp only;omega
 split at h
 ·rename_i hb
  simp only [zF] at hb;have:=Gl hb.1.1.1.1 zx;simp only [Res.ok.injEq] at h;obtain ⟨rfl,rfl⟩:=h;simp only [zaU] at this ⊢;omega
 ·obtain ⟨y,q,h1,h2⟩:=bind_ok h;have c1:=Rj n _ _ _ h1;split at h2
  ·obtain ⟨a,q2,h3,h4⟩:=bind_ok h2;simp only [Res.ok.injEq] at h4;obtain ⟨rfl,rfl⟩:=h4;have c2:=BA _ _ _ h3;have c3:=Ag ‹_›;simp only at c1 c2 ⊢;omega
  ·simp only [Res.ok.injEq] at h2;obtain ⟨rfl,rfl⟩:=h2;exact c1
theorem ABp (n:Nat):BU (λ_=>1) (Hf n):=by
 intro l x r h;obtain ⟨y,q,h1,h2⟩:=bind_ok h;have c1:=Rj n _ _ _ h1;simp only at c1
 split at h2
 ·simp only [Res.ok.injEq] at h2;obtain ⟨rfl,rfl⟩:=h2;have:=Ag ‹_›;simp only;omega
 split at h2
 ·simp only [Res.ok.injEq] at h2;obtain ⟨rfl,rfl⟩:=h2;have:=Ag ‹_›;simp only;omega
 ·simp only [Res.ok.injEq] at h2;obtain ⟨rfl,rfl⟩:=h2;exact c1
theorem one_set (n:Nat):BU (λ_=>1) (Tj n):=by
 intro l x r h;obtain ⟨s,q,h1,h2⟩:=bind_ok h;obtain ⟨_,q2,h3,h4⟩:=bind_ok h2;obtain ⟨y,q3,h5,h6⟩:=bind_ok h4;simp only [Res.ok.injEq] at h6;obtain ⟨rfl,rfl⟩:=h6;have c1:=BA _ _ _ h1;have c2:=Af h3;have c3:=Rj n _ _ _ h5;simp only at c1 c3 ⊢;omega
theorem IZ:BU (λ_=>1) DC:=by
 intro l x r h;obtain ⟨s,q,h1,h2⟩:=bind_ok h;have c1:=BA _ _ _ h1;simp only at c1
 split at h2
 ·obtain ⟨a,q2,h3,h4⟩:=bind_ok h2;simp only [Res.ok.injEq] at h4;obtain ⟨rfl,rfl⟩:=h4;have c2:=BA _ _ _ h3;have c3:=Ag ‹_›;simp only at c2 ⊢;omega
 split at h2
 ·obtain ⟨a,q2,h3,h4⟩:=bind_ok h2;simp only [Res.ok.injEq] at h4;obtain ⟨rfl,rfl⟩:=h4;have c2:=BA _ _ _ h3;simp only at c2 ⊢;omega
 ·simp only [Res.ok.injEq] at h2;obtain ⟨rfl,rfl⟩:=h2;simp only;omega
theorem Px (n:Nat)(b:Bool):BU (λ_=>1) (GY n b):=by
 intro l x r h;obtain ⟨_,q,h1,h2⟩:=bind_ok h;obtain ⟨s,q2,h3,h4⟩:=bind_ok h2;obtain ⟨_,q3,h5,h6⟩:=bind_ok h4;obtain ⟨y,q4,h7,h8⟩:=bind_ok h6;simp only [Res.ok.injEq] at h8;obtain ⟨rfl,rfl⟩:=h8;have c1:=Af h1;have c2:=IZ _ _ _ h3;have c3:=Af h5;have c4:=Rj n _ _ _ h7;simp only at c2 c4 ⊢;omega
theorem Ri (n:Nat):∀(m:Nat) (acc:List TSource) (l:List Tok) (x:List TSource) (r:List Tok),DU n m acc l= .ok x r→r.length+x.length≤l.length+acc.length
 |0,acc,l,x,r,h=>by simp only [DU,Res.ok.injEq] at h;obtain ⟨rfl,rfl⟩:=h;omega
 |m+1,acc,l,x,r,h=>by
  have one:∀{g:Pr TSource} (_:BU (λ_=>1) g) {l':List Tok},l'.length≤l.length→(g l').bind (λs r=>DU n m (acc++[s]) r)= .ok x r→r.length+x.length≤l.length+acc.length:=by
   intro g hg l' hl h;obtain ⟨a,q,h1,h2⟩:=bind_ok h;have c1:=hg _ _ _ h1;have c2:=Ri n m _ _ _ _ h2;simp only [zU] at c2;simp only at c1;omega
  simp only [DU] at h;split at h
  ·exact one IZ zy h
  split at h
  ·obtain ⟨_,q,h1,h2⟩:=bind_ok h;have c1:=Af h1;have c2:=Ag ‹_›;exact one IZ zo h2
  split at h
  ·exact one (Px n true) zy h
  split at h
  ·exact one (Px n false) zy h
  split at h
  ·exact one (Px n false) (zt _) h
  ·simp only [Res.ok.injEq] at h;obtain ⟨rfl,rfl⟩:=h;omega
theorem AEq (n:Nat):BU List.length (Jy n):=by
 intro l x r h;obtain ⟨a,q,h1,h2⟩:=bind_ok h;have c1:=IZ _ _ _ h1;have c2:=Ri n n _ _ _ _ h2;simp only [zf,zh] at c2;simp only at c1;omega
theorem ACe (n:Nat):BU cQ (Ha n):=by
 intro l x r h;obtain ⟨a1,q1,h1,h⟩:=bind_ok h;obtain ⟨a2,q2,h2,h⟩:=bind_ok h;obtain ⟨a3,q3,h3,h⟩:=bind_ok h;obtain ⟨a4,q4,h4,h⟩:=bind_ok h;obtain ⟨a5,q5,h5,h⟩:=bind_ok h;obtain ⟨a6,q6,h6,h⟩:=bind_ok h;obtain ⟨a7,q7,h7,h⟩:=bind_ok h;obtain ⟨a8,q8,h8,h⟩:=bind_ok h;simp only [Res.ok.injEq] at h;obtain ⟨rfl,rfl⟩:=h;have c1:=JK (AEp n) n _ _ _ h1;have c2:=EQ (AEq n) _ rfl _ _ _ h2;have c3:=VW n _ _ _ _ h3;have c4:=EQ (OW (JK (Rj n) n)) _ rfl _ _ _ h4;have c5:=VW n _ _ _ _ h5;have c6:=EQ (OW (JK (ABp n) n)) _ rfl _ _ _ h6;have c7:=EQ Ij _ rfl _ _ _ h7;have c8:=EQ Ij _ rfl _ _ _ h8;have c0:(if isT l [100,105,115,116,105,110,99,116] then l.tail else l).length≤l.length:=by split <;> simp
 simp only at c1 c2 c3 c4 c5 c6 c7 c8
 simp only [cQ];omega
theorem Xj (n:Nat):BU (λ_=>1) (Es n):=by
 intro l x r h;obtain ⟨s,q,h1,h2⟩:=bind_ok h;have c1:=BA _ _ _ h1;simp only at h2 c1
 generalize (if isK q 1 then typeOf (hd q).text else 0)=t at h2;split at h2
 ·cases h2
 ·have c2:=GH n _ _ _ _ h2;have:q.tail.length≤q.length:=by simp
  simp only [pz0] at c2 ⊢;omega
theorem VS (n:Nat):∀(m:Nat) (cs:List TCol) (ks:List Bs) (l:List Tok) (x:List TCol×List Bs) (r:List Tok),FV n m cs ks l= .ok x r→r.length+x.1.length≤l.length+cs.length
 |0,cs,ks,l,x,r,h=>by simp only [FV,Res.ok.injEq] at h;obtain ⟨rfl,rfl⟩:=h;exact zt _
 |m+1,cs,ks,l,x,r,h=>by
  simp only [FV] at h;obtain ⟨a,q,h1,h2⟩:=bind_ok h;have c1:q.length+a.1.length≤l.length+cs.length:=by
   split at h1
   ·obtain ⟨_,q1,g1,g2⟩:=bind_ok h1;obtain ⟨k,q2,g3,g4⟩:=bind_ok g2;simp only [Res.ok.injEq] at g4;obtain ⟨rfl,rfl⟩:=g4;have d1:=Af g1;have d2:=Gm n _ _ _ g3;have:l.tail.length≤l.length:=by simp
    simp only at d2 ⊢;omega
   ·obtain ⟨c,q1,g1,g2⟩:=bind_ok h1;simp only [Res.ok.injEq] at g2;obtain ⟨rfl,rfl⟩:=g2;have d1:=Xj n _ _ _ g1;simp only [zU] at d1 ⊢;omega
  split at h2
  ·have c2:=VS n m _ _ _ _ _ h2;have:q.tail.length≤q.length:=by simp
   omega
  ·simp only [Res.ok.injEq] at h2;obtain ⟨rfl,rfl⟩:=h2;exact c1
theorem cS0 {s:TStmt}(h1:s.fSelect=default)(h3:s.fRows=[])(h4:s.fSets=[])(h5:s.fCols=[]):cS s=0:=by
 simp only [cS,h1,h3,h4,h5];rfl
theorem AIb {s:TStmt}(h1:s.fSelect=default)(h4:s.fSets=[])(h5:s.fCols=[]):cS s=s.fRows.flatten.length+s.fRows.length:=by
 simp only [cS,h1,h4,h5];show 0+_+0+0=_;simp
theorem AIa {s:TStmt}(h1:s.fSelect=default)(h3:s.fRows=[])(h5:s.fCols=[]):cS s=s.fSets.length:=by
 simp only [cS,h1,h3,h5];show 0+0+_+0=_;simp
theorem AIc {s:TStmt}(h1:s.fSelect=default)(h3:s.fRows=[])(h4:s.fSets=[]):cS s=s.fCols.length:=by
 simp only [cS,h1,h3,h4];show 0+0+0+_=_;simp
theorem AOe {s:TStmt}(h3:s.fRows=[])(h4:s.fSets=[])(h5:s.fCols=[]):cS s=cQ s.fSelect:=by
 simp only [cS,h3,h4,h5];show _+0+0+0=_;simp
theorem Ro {α:Type}:∀l:List (List α),(l.map λx=>x.length+1).sum=l.flatten.length+l.length
 |[]=>rfl
 |x::l=>by simp only [zbr,zk,zG,zai,Ro l,zf];omega
theorem ABo {α:Type}{g:Pr α}(hg:BU (λ_=>1) g)(n:Nat):BU (λx=>x.length+1) (CE n g):=by
 intro l x r h;obtain ⟨_,q,h1,h2⟩:=bind_ok h;obtain ⟨a,q2,h3,h4⟩:=bind_ok h2;obtain ⟨_,q3,h5,h6⟩:=bind_ok h4;simp only [Res.ok.injEq] at h6;obtain ⟨rfl,rfl⟩:=h6;have c1:=Af h1;have c2:=JK hg n _ _ _ h3;have c3:=Af h5;simp only;omega
theorem AFi {n:Nat}{l r:List Tok}{x:TStmt}(h:EF n l= .ok x r):r.length≤l.length∧cS x≤l.length:=by
 have hle:r.length≤l.length:=by have:=SG n _ _ _ h;omega
 refine ⟨hle,?_⟩;unfold EF at h;split at h
 ·obtain ⟨q,r1,h1,h2⟩:=bind_ok h;simp only [Res.ok.injEq] at h2;obtain ⟨rfl,rfl⟩:=h2;have c1:=ACe n _ _ _ h1;rw [AOe rfl rfl rfl];simp only [zaU] at c1 ⊢;omega
 split at h
 ·obtain ⟨_,r1,h1,h⟩:=bind_ok h;obtain ⟨s,r2,h2,h⟩:=bind_ok h;obtain ⟨c,r3,h3,h⟩:=bind_ok h;obtain ⟨_,r4,h4,h⟩:=bind_ok h;obtain ⟨y,r5,h5,h⟩:=bind_ok h;simp only [Res.ok.injEq] at h;obtain ⟨rfl,rfl⟩:=h;have c1:=Af h1;have c2:=BA _ _ _ h2;have c3:r3.length≤r2.length:=by
   split at h3
   ·exact UT (Gm n _ _ _ h3)
   ·simp only [Res.ok.injEq] at h3;obtain ⟨rfl,rfl⟩:=h3;exact zt _
  have c4:=Af h4;have c5:=Dz (ABo (Rj n) n) n _ _ _ h5;rw [AIb rfl rfl rfl,←Ro];simp only [zaU] at c1 c2 c5 ⊢;omega
 split at h
 ·obtain ⟨s,r1,h1,h⟩:=bind_ok h;obtain ⟨_,r2,h2,h⟩:=bind_ok h;obtain ⟨y,r3,h3,h⟩:=bind_ok h;obtain ⟨z,r4,h4,h⟩:=bind_ok h;simp only [Res.ok.injEq] at h;obtain ⟨rfl,rfl⟩:=h;have c1:=BA _ _ _ h1;have c2:=Af h2;have c3:=JK (one_set n) n _ _ _ h3;rw [AIa rfl rfl rfl];simp only [zaU] at c1 ⊢;omega
 split at h
 ·obtain ⟨_,r1,h1,h⟩:=bind_ok h;obtain ⟨s,r2,h2,h⟩:=bind_ok h;obtain ⟨z,r3,h3,h⟩:=bind_ok h;simp only [Res.ok.injEq] at h;obtain ⟨rfl,rfl⟩:=h;rw [cS0 rfl rfl rfl rfl];omega
 split at h
 ·unfold FQ at h;split at h
  ·obtain ⟨s,q,h1,h⟩:=bind_ok h;obtain ⟨_,q2,h2,h⟩:=bind_ok h;obtain ⟨y,q3,h3,h⟩:=bind_ok h;have c1:=BA _ _ _ h1;have c2:=Af h2;have c3:=VS n _ _ _ _ _ _ h3;split at h
   ·cases h
   ·obtain ⟨_,q4,h4,h⟩:=bind_ok h;simp only [Res.ok.injEq] at h;obtain ⟨rfl,rfl⟩:=h;rw [AIc rfl rfl rfl];simp only [zaU,zh] at c1 c3 ⊢;omega
  ·obtain ⟨_,q1,h1,h⟩:=bind_ok h;obtain ⟨_,q2,h2,h⟩:=bind_ok h;obtain ⟨_,q3,h3,h⟩:=bind_ok h;obtain ⟨_,q4,h4,h⟩:=bind_ok h;obtain ⟨_,q5,h5,h⟩:=bind_ok h;simp only [Res.ok.injEq] at h;obtain ⟨rfl,rfl⟩:=h;rw [cS0 rfl rfl rfl rfl];omega
 split at h
 ·unfold Gi at h;split at h
  ·obtain ⟨_,q1,h1,h⟩:=bind_ok h;simp only [Res.ok.injEq] at h;obtain ⟨rfl,rfl⟩:=h;rw [cS0 rfl rfl rfl rfl];omega
  ·obtain ⟨_,q1,h1,h⟩:=bind_ok h;obtain ⟨_,q2,h2,h⟩:=bind_ok h;simp only [Res.ok.injEq] at h;obtain ⟨rfl,rfl⟩:=h;rw [cS0 rfl rfl rfl rfl];omega
 split at h
 ·simp only [Res.ok.injEq] at h;obtain ⟨rfl,rfl⟩:=h;rw [cS0 rfl rfl rfl rfl];omega
 split at h
 ·simp only [Res.ok.injEq] at h;obtain ⟨rfl,rfl⟩:=h;rw [cS0 rfl rfl rfl rfl];omega
 ·obtain ⟨_,q1,h1,h⟩:=bind_ok h;simp only [Res.ok.injEq] at h;obtain ⟨rfl,rfl⟩:=h;rw [cS0 rfl rfl rfl rfl];omega
theorem NG (n:Nat):∀(m:Nat) (acc:List TStmt) (l:List Tok) (x:List TStmt) (r:List Tok),CV n m acc l= .ok x r→∀s∈x,s∈acc∨cS s≤l.length
 |0,acc,l,x,r,h,s,hs=>by simp only [CV,Res.ok.injEq] at h;obtain ⟨rfl,rfl⟩:=h;exact .inl hs
 |m+1,acc,l,x,r,h,s,hs=>by
  simp only [CV] at h;split at h
  ·simp only [Res.ok.injEq] at h;obtain ⟨rfl,rfl⟩:=h;exact .inl hs
  split at h
  ·have:=NG n m _ _ _ _ h s hs;simp only [zaU] at this;exact this.imp id (λh=>by omega)
  ·obtain ⟨s',q,h1,h2⟩:=bind_ok h;have c1:=AFi h1;split at h2
   ·rcases NG n m _ _ _ _ h2 s hs with h|h
    ·rcases zav.1 h with h|h
     ·exact .inl h
     ·rw [zN.1 h];exact .inr c1.2
    ·exact .inr zo
   ·cases h2
theorem AFj (s:Bs):∀x∈(readA s).1,cS x≤s.length+1:=by
 unfold readA;split
 ·intro x hx;cases hx
 ·rename_i l hl
  have hc:=KC _ _ _ _ _ hl;split
  ·rename_i x r hx
   intro y hy;rcases NG _ _ _ _ _ _ hx y hy with h|h
   ·cases h
   ·simp at hc;omega
  ·intro x hx;cases hx
theorem AEi (l:List TStmt):l.length≤BG l:=by
 induction l with
 |nil=>exact zaw _
 |cons s l ih=>simp only [BG,zG,zai,zf,KH] at *; omega
theorem NR (t:Bs):(Ce t).1.length≤2000:=by
 unfold Ce;split
 ·simp
 split
 ·simp
 split
 ·simp
 ·rename_i h
  have:=AEi (readA t).1;unfold UJ at h;simp only [] at h ⊢;split at h
  ·simp at h
  split at h
  ·simp at h
  ·show (readA t).1.length≤2000;omega
theorem Jl {b:Bs}{head:Nat}{least most:Int}(h:(DX b head least most).2=0):least≤(DX b head least most).1∧(head:Int)+(DX b head least most).1≤b.length:=by
 unfold DX at h ⊢;split at h
 ·simp at h
 ·rename_i h0
  rw [if_neg h0];simp only at h ⊢
  split at h
  ·simp at h
  split at h
  ·simp at h
  split at h
  ·simp at h
  ·rename_i h1 h2 h3
   rw [if_neg h1,if_neg h2,if_neg h3];simp only
   omega
theorem ACI (c:Bool)(q:Int×Int)(o:TFront×Int)(h0:Int)(h:(if c then (({},0,230):TFront×Int×Int) else if q.2 != 0 then ({},0,q.2) else if o.2 != 0 then ({},0,o.2) else (o.1,h0+q.1,0)).2.2=0):
  (if c then (({},0,230):TFront×Int×Int) else if q.2 != 0 then ({},0,q.2) else if o.2 != 0 then ({},0,o.2) else (o.1,h0+q.1,0)).2.1=h0+q.1∧q.2=0:=by
 obtain ⟨q1,q2⟩:=q;obtain ⟨o1,o2⟩:=o;cases c with
 |true=>simp at h
 |false=>
  by_cases h1:q2=0
  ·subst h1;by_cases h2:o2=0
   ·subst h2;simp
   ·simp [h2] at h
  ·simp [h1] at h
theorem Ie {b:Bs}{st:Bool}(h:(Ap b st).2.2=0):1≤(Ap b st).2.1∧(Ap b st).2.1≤b.length:=by
 unfold Ap at h ⊢;obtain ⟨h1,h2⟩:=ACI _ _ _ _ h;rw [h1];have hp:=Jl h2;cases st <;> simp at hp ⊢ <;> omega
theorem Me (st:Bool):(Ap [] st).2.2=10:=by cases st <;> simp [Ap,DX]
def mu (s:Ses):Nat:=s.left.length * 2010+s.stmts.length+(if s.query then 1 else 0)
theorem Ar (s:Ses)(l:List TBack):(BD s l).left=s.left∧(BD s l).stmts=s.stmts∧(BD s l).query=s.query∧(BD s l).kind=s.kind∧(BD s l).status=s.status∧(BD s l).ended=s.ended:=by
 unfold BD;split <;> exact ⟨rfl,rfl,rfl,rfl,rfl,rfl⟩
theorem Eh (s:Ses)(l:List TBack):mu (BD s l)=mu s:=by
 obtain ⟨h1,h2,h3,_⟩:=Ar s l;unfold mu;rw [h1,h2,h3]
theorem UG (s:Ses):mu (Fa s)=0:=by simp [mu,Fa]
theorem ALy (s:Ses)(f:TFront):mu (Hg s f)≤s.left.length * 2010+max s.stmts.length 2000+1:=by
 have hq:(if s.query=true then 1 else 0:Nat)≤1:=by split <;> omega
 unfold Hg;split
 ·rw [Eh];unfold mu;omega
 split
 ·rw [UG];omega
 split
 ·unfold Ic;rw [Eh];simp only [mu];omega
 split
 ·unfold UX;have hl:=NR f.fText;split
  ·have hb:∀t:Ses,mu (BR t)≤t.left.length * 2010+1:=by
    intro t;have hq:(if t.query=true then 1 else 0:Nat)≤1:=by split <;> omega
    unfold BR mu;split <;> simp <;> omega
   refine zaq (hb _) ?_;unfold BP;rw [(Ar _ _).1];simp only;omega
  split
  ·rename_i h1 h2
   simp only [mu];rw [(Ar _ _).1,(Ar _ _).2.2.1];simp only [if_true];omega
  ·simp only [mu,if_true];omega
 ·rw [UG];omega
theorem AHy (s:Ses)(x:TStmt):mu (EG s x)≤mu s:=by
 unfold EG;split
 ·split
  ·unfold DD;rw [Eh];exact zt _
  ·have h:=Eh s [{fKind:=9,fState:=[50,53,80,48,50],fText:=[116,104,101,32,116,114,97,110,115,97,99,116,105,111,110,32,104,97,115,32,102,97,105,108,101,100]}];simp only [mu] at h ⊢;simp only [zh];omega
 split
 ·unfold JX;split
  ·exact zt _
  ·unfold DD;rw [Eh];exact zt _
 split
 ·unfold JX;split
  ·exact zt _
  ·unfold DD;rw [Eh];exact zt _
 split
 ·unfold JX;split
  ·exact zt _
  ·unfold DD;rw [Eh];exact zt _
 ·exact zt _
theorem Du {s t:Ses}(h:Az s=some t):mu t < mu s:=by
 unfold Az at h;split at h
 ·cases h
 split at h
 ·rename_i h1 h2
  simp only [zF,zaV] at h2;simp only [zn] at h;subst h;refine Nat.lt_of_le_of_lt (AHy _ _) ?_;have:s.stmts.length≠0:=by
   intro h;have:=zQ h;rw [this] at h2;simp at h2
  simp only [mu,zaU];omega
 split at h
 ·rename_i h1 h2 h3
  simp only [zn] at h;subst h;rw [Eh];simp only [mu,h3,if_true];simp
 ·rename_i h1 h2 h3
  simp only at h
  have hne:(Ap s.left (s.status==0)).2.2≠10→s.left.length≠0:=by
   intro h0 h4;rw [zQ h4] at h0;exact h0 (Me _)
  split at h
  ·cases h
  rename_i h4
  have h4:(Ap s.left (s.status==0)).2.2≠10:=by simpa using h4
  have h5:=hne h4;split at h
  ·simp only [zn] at h;subst h;rw [UG];simp only [mu];omega
  ·rename_i h6
   have h6:(Ap s.left (s.status==0)).2.2=0:=by simpa using h6
   have h7:=Ie h6;simp only [zn] at h;subst h;refine Nat.lt_of_le_of_lt (ALy _ _) ?_;simp only [mu,zZ];omega
theorem AHv (n:Nat):∀(f g:Nat) (s:Ses),mu s < n→n≤f→n≤g→onF f s=onF g s:=by
 induction n with
 |zero=>intro f g s h;omega
 |succ n ih=>
  intro f g s h h1 h2;obtain ⟨f,rfl⟩:∃k,f=k+1:=⟨f - 1,by omega⟩;obtain ⟨g,rfl⟩:∃k,g=k+1:=⟨g - 1,by omega⟩;simp only [onF];cases hr:Az s with
  |none=>rfl
  |some t=>
   have:=Du hr;exact ih f g t zo zo zo
theorem AIJ (s:Ses):AKw s=mu s+1:=rfl
theorem AKv {f:Nat}{s:Ses}(h:mu s < f):onF f s=goF s:=AHv (mu s+1) f _ s (zaM _) h (Nat.le_of_eq (AIJ s).symm)
theorem Dw {s:Ses}:goF s=match Az s with
  |none=>s
  |some t=>goF t:=by
 rw [←AKv (f:=mu s+1) (zaM _)];simp only [onF];cases h:Az s with
 |none=>rfl
 |some t=>exact AKv (Du h)
theorem AFS {s:Ses}(h:s.ended=true):goF s=s:=by
 rw [Dw];simp [Az,h]
section
variable {ω:Om}{I:Imm}{L F:LH}{K:Value→M}{b:Nat}{v:Value}
theorem Xw {f:TFront}{r:Rdq}{e:Int}(h:∀c,FrC (if r.whole=true then (f,(0:Int)) else ({},e)).1 c→K (.tuple #[.agg c.toArray,.int .i64 (if r.whole=true then (f,(0:Int)) else ({},e)).2]) I F):∀c',FrC (if r.whole then f else {}) c'→K (.tuple #[.agg c'.toArray,.int .i64 (if r.whole then 0 else e)]) I F:=by
 intro c' hc';cases hr:r.whole with
 |true=>rw [hr] at h hc';exact h c' hc'
 |false=>rw [hr] at h hc';exact h c' hc'
theorem UB {l:Bs}(hv:Bytes I v l)(hn:l.length≤1000000000000)(hk:∀c,FrC (Pq l).1 c→K (.tuple #[.agg c.toArray,.int .i64 (Pq l).2]) I F):CT ω 75 #[v] K I F:=by
 obtain ⟨a0,k0,rfl⟩:=hv.form;refine APz ?_;unfold APB;refine Am (λb1=>?_);try refine zqe ?_
 refine Am (λb3=>?_);refine Am (λb5=>?_);refine call (MP (r:=⟨l,false⟩) 4 hv hn (λv2 h2=>?_));unfold Pq at hk;simp only at hk
 have hl2:=Fz 4 ⟨l,false⟩;simp only at hl2
 have hl3:((Rdq.mk l false).num 4).2.b.length≤l.length:=hl2;generalize hq:(Rdq.mk l false).num 4=q at *;obtain ⟨q1,q2⟩:=q;simp only at *
 try refine zqe ?_
 by_cases h1:(q1==80877103)=true
 ·rw [if_pos h1] at hk;simp only [h1,SSd,Nat.reduceAdd];refine st1 rfl ?_;exact Vm (c1:=z6) (r:=q2) (f:={fKind:=2}) h2 ⟨none,0,0,0,0,0,rfl⟩ rfl (Xw hk)
 rw [if_neg h1] at hk;simp only [zW.2 h1,SSd,Nat.reduceAdd];by_cases h1:(q1==80877102)=true
 ·rw [if_pos h1] at hk;simp only [h1,SSd,Nat.reduceAdd];refine st1 rfl ?_;refine call (MP (r:=q2) 4 h2 zo (λv3 h3=>?_));try refine zqe ?_
  refine st1 rfl ?_;have hl4:(q2.num 4).2.b.length≤q2.b.length:=Fz 4 q2;refine call (MP (r:=(q2.num 4).2) 4 h3 zo (λv4 h4=>?_));try refine zqe ?_
  refine st1 rfl ?_;exact Vm (c1:=z6) (r:=((q2.num 4).2.num 4).2) (f:={fKind:=3,fPid:=(q2.num 4).1,fSecret:=((q2.num 4).2.num 4).1}) h4 ⟨none,0,0,(q2.num 4).1,((q2.num 4).2.num 4).1,0,rfl⟩ rfl (Xw hk)
 rw [if_neg h1] at hk;simp only [zW.2 h1,SSd,Nat.reduceAdd];by_cases h1:(q1==196608)=true
 ·rw [if_pos h1] at hk;simp only [h1,SSd,Nat.reduceAdd];refine st1 rfl ?_;have hlb:Cf (l.length+1) q2 []=Cf (q2.b.length+1) q2 []:=JI _ _ _ zo zo;rw [hlb] at hk;refine ABm (r:=q2) h2 zo rfl ?_;cases hp:Cf (q2.b.length+1) q2 [] with
  |none=>rw [hp] at hk;exact hk
  |some z=>
   obtain ⟨l',r'⟩:=z;rw [hp] at hk;simp only at hk ⊢
   have hfr:∀c,FrC {fKind:=1,fParams:=l'} c↔FrC {fKind:=1} c:=λc=>Iff.rfl;intro c' hc';have:=Xw hk c';cases hw:(r'.take 1).2.whole with
   |true=>rw [hw] at this hc';exact this ((hfr c').2 hc')
   |false=>rw [hw] at this hc';exact this hc'
 rw [if_neg h1] at hk;simp only [zW.2 h1,SSd,Nat.reduceAdd];refine stB rfl rfl (Ak rfl) ?_;refine Ew rfl ?_;exact zAG F (zAA (hk _ FrC.zero))
theorem JZ {l:Bs}(st:Bool)(hv:Bytes I v l)(hn:l.length≤1000000000)(hk:∀c,FrC (Ap l st).1 c→K (.tuple #[.agg c.toArray,.int .i64 (Ap l st).2.1,.int .i64 (Ap l st).2.2]) I F):CT ω 49 #[v,.bool st] K I F:=by
 refine AQI ?_;unfold APJ;refine Am (λb1=>?_);unfold Ap at hk;simp only at hk
 have h2:((!st&&(decide (l.length > 0)&&(l.headD 0==0||decide (127 < l.headD 0))))=false)→∀(head:Nat) (least most:Int),head=(if st then 0 else 1)→least=(if st then 8 else 4)→most=(if st then 10000 else 1048576)→
   PH ω v (.bool st) (.pointer (some ⟨b1,0,none⟩)) (.int .i64 0) (.int .i64 0) (.int .i64 head) (.int .i64 least) (.int .i64 most) (λv=>Gh (K v)) I ((b1,FrO z6)::F):=by
  intro hc head least most eh el em;have hh:head≤1:=by rw [eh];split <;> omega
  rw [if_neg (by rw [hc];decide),←eh,←el,←em] at hk;unfold PH;refine call (Vf hv head least most zo zo ?_);have hfp:=Jl (b:=l) (head:=head) (least:=least) (most:=most);have hl4:4≤least:=by rw [el];split <;> omega
  generalize hq:DX l head least most=q at *;obtain ⟨q1,q2⟩:=q;simp only at *
  try refine zqe ?_
  by_cases h0:(q2 != 0)=true
  ·rw [if_pos h0] at hk;simp only [h0,SSd,Nat.reduceAdd];refine stB rfl rfl (Ak rfl) ?_;refine Ew rfl ?_;exact zAG F (zAA (hk _ FrC.zero))
  rw [if_neg h0] at hk;have hq2:q2=0:=by simpa using h0
  obtain ⟨g1,g2⟩:=hfp hq2;obtain ⟨n,rfl⟩:∃n:Nat,q1=n:=⟨q1.toNat,by omega⟩;simp only [zW.2 h0,wrap_i64 ((head:Int)+4) zo,wrap_i64 ((head:Int)+n) zo,SSd,Nat.reduceAdd];obtain ⟨v1,e1,h1⟩:=Bytes.part hv (lo:=head+4) (hi:=head+n) zo zo;have e1:Cb 1 v (some (.int .i64 ((head:Int)+4))) (some (.int .i64 ((head:Int)+n))) none=some v1:=e1;have hbody:head+n - (head+4)=n - 4:=by omega
  rw [hbody] at h1;rw [Int.toNat_natCast] at hk;have hbl:((l.drop (head+4)).take (n - 4)).length≤1000000000000:=by rw [zB,zZ];omega
  generalize (l.drop (head+4)).take (n - 4)=body at *;simp only [e1,SSd,Nat.reduceAdd];refine call (UB h1 hbl (λc hc=>?_));obtain ⟨hc6,hco⟩:=hc.one;try refine zqe ?_
  refine Am (λb2=>?_);refine stB hc6 rfl hco ?_;cases st with
  |true=>
   simp only [zad,if_true,SSd,Nat.reduceAdd] at hk ⊢;unfold TC;generalize ho:Pq body=o at *;obtain ⟨o1,o2⟩:=o;simp only at *
   try refine zqe ?_
   by_cases h3:(o2 != 0)=true
   ·rw [if_pos h3] at hk;simp only [h3,SSd,Nat.reduceAdd];refine stB rfl rfl (Ak rfl) ?_;refine Ew rfl ?_;exact zAG F (zAA (hk _ FrC.zero))
   ·rw [if_neg h3] at hk;simp only [zW.2 h3,SSd,Nat.reduceAdd];refine Ew hc6 ?_;simp only [wrap_i64 ((head:Int)+n) zo,SSd,Nat.reduceAdd];refine stB hc6 rfl hco ?_;refine Ew hc6 ?_;exact zAG F (zAA (hk _ hc))
  |false=>
   have h1h:head=1:=eh;have hpos:0 < l.length:=by omega
   obtain ⟨bt,off,ee1,ee2⟩:=Bytes.at hv (k:=0) hpos;have ee1:ixV 1 v (.int .i64 0)=some (.pointer (some ⟨bt,off,none⟩)):=ee1;simp only [zan,zl,if_false,SSd,Nat.reduceAdd] at hk ⊢;simp only [ee1,SSd,Nat.reduceAdd];refine rd1 (ee2 _ _ (zAC _)) ?_;rw [Jk hpos] at hk;refine call (UI l[0] h1 hbl (λc2 hc2=>?_));obtain ⟨hc26,hc2o⟩:=hc2.one;try refine zqe ?_
   refine stB hc26 hc6 hc2o ?_;unfold TC;generalize ho:UH l[0].toNat body=o at *;obtain ⟨o1,o2⟩:=o;simp only at *
   try refine zqe ?_
   by_cases h3:(o2 != 0)=true
   ·rw [if_pos h3] at hk;simp only [h3,SSd,Nat.reduceAdd];refine stB rfl rfl (Ak rfl) ?_;refine Ew rfl ?_;exact zAG F (zAA (hk _ FrC.zero))
   ·rw [if_neg h3] at hk;simp only [zW.2 h3,SSd,Nat.reduceAdd];refine Ew hc26 ?_;simp only [wrap_i64 ((head:Int)+n) zo,SSd,Nat.reduceAdd];refine stB hc26 rfl hc2o ?_;refine Ew hc26 ?_;exact zAG F (zAA (hk _ hc2))
 have h1:((!st&&(decide (l.length > 0)&&(l.headD 0==0||decide (127 < l.headD 0))))=true)→TE ω (.pointer (some ⟨b1,0,none⟩)) (.int .i64 0) (.int .i64 0) (λv=>Gh (K v)) I ((b1,FrO z6)::F):=by
  intro hc;rw [if_pos hc] at hk;unfold TE;try refine zqe ?_
  refine stB rfl rfl (Ak rfl) ?_;refine Ew rfl ?_;exact zAG F (zAA (hk _ FrC.zero))
 cases st with
 |true=>
  simp only [zad,SSd,Nat.reduceAdd];exact h2 rfl 0 8 10000 rfl rfl rfl
 |false=>
  have h2':=λhc=>h2 hc 1 4 1048576 rfl rfl rfl;simp only [zan,hv.len,SSd,Nat.reduceAdd];refine BZ (λhb=>?_) (λhb=>?_)
  ·have hpos:0 < l.length:=by have:=of_decide_eq_true hb;omega
   obtain ⟨bt,off,ee1,ee2⟩:=Bytes.at hv (k:=0) hpos;have ee1:ixV 1 v (.int .i64 0)=some (.pointer (some ⟨bt,off,none⟩)):=ee1;have hd:decide (l.length > 0)=true:=decide_eq_true hpos;have c0:(((l[0].toNat:Nat):Int)==0)=(l.headD 0==0):=by
    rw [Jk hpos];exact eq_of_beq (FY (p:=λc=>((((c.toNat:Nat):Int)==0)==(c==0))) zq l[0])
   have c1:decide ((127:Int) < ((l[0].toNat:Nat):Int))=decide (127 < l.headD 0):=by
    rw [Jk hpos];exact eq_of_beq (FY (p:=λc=>(decide ((127:Int) < ((c.toNat:Nat):Int))==decide (127 < c))) zq l[0])
   simp only [ee1,SSd,Nat.reduceAdd];refine rd1 (ee2 _ _ (zAC _)) ?_;simp only [c0,SSd,Nat.reduceAdd];refine BZ (λhb1=>?_) (λhb1=>?_)
   ·have hb1:(l.headD 0==0)=false:=by simpa using hb1
    refine rd1 (ee2 _ _ (zAC _)) ?_;simp only [c1,SSd,Nat.reduceAdd];refine AP (λhb2=>?_) (λhb2=>?_)
    ·exact h1 (by rw [hd,hb1,hb2];rfl)
    ·exact h2' (by rw [hd,hb1,hb2];rfl)
   ·have hb1:(l.headD 0==0)=true:=by simpa using hb1
    exact h1 (by rw [hd,hb1];rfl)
  ·refine h2' ?_;have hd:decide (l.length > 0)=false:=decide_eq_false (λh=>hb (decide_eq_true zo));rw [hd];rfl
end
section
variable {ω:Om}{I:Imm}{L:LH}{K:Value→M}{C:Obj→LH}{b:Nat}{w:Value}{s:Bs}{a:Nat}
theorem AIr (c q:UInt8):((c.toNat:Int) != q.toNat)=(c != q):=by
 have:((c.toNat:Int)=q.toNat)↔c=q:=by
  constructor
  ·intro h;exact UInt8.toNat_inj.1 zo
  ·rintro rfl;rfl
 rw [Bool.eq_iff_iff];simp [this]
theorem Ug (c q:UInt8):((c.toNat:Int)==q.toNat)=(c==q):=by
 have:=AIr c q;simp only [bne] at this;exact Bool.not_inj this
theorem Hu (q c:UInt8)(r:Bs):Eg q (c::r)=if c==0 then none else if c != q then (Eg q r).map λx=>(c::x.1,x.2) else match r with
  |[]=>some ([],[])
  |d::r'=>if d==q then (Eg q r').map λx=>(q::x.1,x.2) else some ([],d::r'):=by
 cases r with
 |nil=>rfl
 |cons d r=>rfl
theorem VO (q:UInt8)(hq0:q≠0)[hF:Foc b L (LBo s a w) C](ha:a < s.length)(hs:s.length≤900000000)
  (hno:Eg q (s.drop (a+1))=none→∀x,K (.tuple #[.string ⟨(x:Bs).toArray⟩,.bool false]) I L)
  (hyes:∀t r,Eg q (s.drop (a+1))=some (t,r)→∀a',a < a'→a'≤s.length→s.drop a'=r→K (.tuple #[.string ⟨t.toArray⟩,.bool true]) I (C (LBo s a' w))):
  CT ω 221 #[Ac b,.int .u8 q.toNat] K I L:=by
 obtain ⟨L1,L2,rfl,rfl⟩:=hF.foc;refine ANW ?_;unfold AJl;refine Am (λbb=>?_);try refine zqe ?_
 refine rdb ?_;simp only [wrap_i64 ((a:Int)+1) zo,SSd,Nat.reduceAdd];refine loop (λm st I2 Lx=>∃(i:Nat) (X:LH) (p v:Value) (acc:Bs),a < i∧i+m=s.length+1∧i≤s.length∧I2=I∧st=(.string ⟨#[]⟩,.bool false,.int .i64 i,())∧Lx=X++((bb,BuB p v)::(L1++(b,LBo s a w)::L2))∧BuP bb p∧SlO 5 1 X v (Lib.byteCells acc) acc.length∧(acc=[]→v= .slice none 0 0)∧acc.length≤i∧
   Eg q (s.drop (a+1))=(Eg q (s.drop i)).map λx=>(acc++x.1,x.2)) (s.length - a)
  ⟨a+1,[],.pointer none,.slice none 0 0,[],by omega,by omega,by omega,rfl,rfl,rfl,.inl rfl,zAN _ _,λ_=>rfl,by simp,by simp⟩ ?_
 rintro m st I2 Lx ⟨i,X,p,v,acc,h1,h2,h2',rfl,rfl,rfl,hp,hX,hv,hal,hm⟩;unfold ZB;try refine zqe ?_
 refine rdb ?_;try refine zqe ?_
 refine AP (λhb=>?_) (λhb=>?_);rotate_left
 ·have hb:¬i < s.length:=by simpa using hb
  have:s.drop i=[]:=zat zo;rw [this] at hm;exact zAG (L1++(b,LBo s a w)::L2) (zAA (hno (by rw [hm];rfl) []))
 have hb:i < s.length:=by simpa using hb
 obtain ⟨c,hc,hdc⟩:=QP hb;try refine zqe ?_
 refine rdb ?_;simp only [ixS s hc,SSd,Nat.reduceAdd];have hz:((c.toNat:Int)==0)=(c==0):=Ug c 0;try simp only [hz,AIr,SSd,Nat.reduceAdd]
 refine AP (λh0=>?_) (λh0=>?_)
 ·refine zAG (L1++(b,LBo s a w)::L2) (zAA (hno ?_ []));rw [hm,hdc];simp only [Hu,h0,if_true,Option.map_none]
 refine AP (λhne=>?_) (λhne=>?_)
 ·refine call (GI hp hX zo c (λX' v' hX'=>?_));unfold OD;try simp only [wrap_i64 ((i:Int)+1) zo,SSd,Nat.reduceAdd]
  refine zAA ⟨m - 1,by omega,i+1,X',Ac bb,v',acc++[c],by omega,by omega,by omega,rfl,rfl,rfl,.inr rfl,?_,by simp,by simp;omega,?_⟩
  ·rw [byteCells_snoc];simpa using hX'
  ·rw [hm,hdc];simp only [Hu,h0,hne,zl,if_false,if_true];cases Eg q (s.drop (i+1)) <;> simp
 ·simp only [wrap_i64 ((i:Int)+1) zo,SSd,Nat.reduceAdd];refine rdb ?_;try refine zqe ?_
  have hcq:c=q:=by simpa using hne
  have fin:Eg q (s.drop i)=some ([],s.drop (i+1))→OC ω (Ac b) (.string ⟨#[]⟩) (.bool false) (Ac bb) (.int .i64 i) (λv=>Gh (K v)) I2 (X++((bb,BuB p v)::(L1++(b,LBo s a w)::L2))):=by
   intro hf;unfold OC;simp only [wrap_i64 ((i:Int)+1) zo,SSd,Nat.reduceAdd];refine st1 rfl ?_;rw [show ((i:Int)+1)=((i+1:Nat):Int) from rfl];refine call (Ll (p:=p) (v:=v) (X:=X) hX zo (λh=>.inl (hv h)) (λX'=>?_));try refine zqe ?_
   refine zAG (L1++(b,LBo s (i+1) w)::L2) (zAA (hyes acc _ (by rw [hm,hf];simp) (i+1) zo zo rfl))
  refine BZ (λhb2=>?_) (λhb2=>?_)
  ·have hb2:i+1 < s.length:=by
    have:=of_decide_eq_true hb2;omega
   obtain ⟨d,hd,hdd⟩:=QP hb2;refine rdb ?_;rw [show ((i:Int)+1)=((i+1:Nat):Int) from rfl,ixS s hd];simp only [Ug,SSd,Nat.reduceAdd];refine AP (λhq=>?_) (λhq=>?_)
   ·have hdq:d=q:=by simpa using hq
    unfold ZA;refine call (GI hp hX zo q (λX' v' hX'=>?_));unfold OD;simp only [wrap_i64 ((i:Int)+1) zo,wrap_i64 ((i:Int)+1+1) zo,SSd,Nat.reduceAdd];refine zAA ⟨m - 2,by omega,i+2,X',Ac bb,v',acc++[q],by omega,by omega,by omega,rfl,rfl,rfl,.inr rfl,?_,by simp,by simp;omega,?_⟩
    ·rw [byteCells_snoc];simpa using hX'
    ·rw [hm,hdc,hdd];have h0':(c==0)=false:=by simpa using h0
     have hne':(c != q)=false:=by simpa using hne
     simp only [Hu,h0',hne',hq,zl,if_false,if_true];cases Eg q (s.drop (i+2)) <;> simp
   ·refine fin ?_;rw [hdc,hdd];have h0':(c==0)=false:=by simpa using h0
    have hne':(c != q)=false:=by simpa using hne
    simp only [Hu,h0',hne',hq,zl,if_false]
  ·refine fin ?_;have hb2:¬i+1 < s.length:=by
    have h:¬((i:Int)+1 < s.length):=by simpa using hb2
    omega
   have:s.drop (i+1)=[]:=zat zo;rw [hdc,this];have h0':(c==0)=false:=by simpa using h0
   have hne':(c != q)=false:=by simpa using hne
   simp only [Hu,h0',hne',zl,if_false]
end
abbrev ACw (k:Int)(a:Nat)(t:Bs)(n:Int):Value:=.agg #[.int .i64 k,.int .i64 (a:Nat),.string ⟨t.toArray⟩,.int .i64 n]
section
variable {ω:Om}{I:Imm}{L:LH}{K:Value→M}{C:Obj→LH}{b:Nat}{w:Value}{s:Bs}{a:Nat}
theorem AAp {α:Type}{p:α→Bool}:∀{l:List α} {i:Nat} (h:i < l.length),(∀j (hj:j < i),p (l[j]'zo)=false)→p l[i]=true→l.find? p=some l[i]
 |x::l,0,_,_,h=>by simp at h;simp [h]
 |x::l,i+1,hi,h0,h=>by
  have:=h0 0 zo;simp at this;simp only [List.find?_cons,this];simp only [List.getElem_cons_succ] at h ⊢;exact AAp (l:=l) (by simpa using hi) (λj hj=>by simpa using h0 (j+1) zo) h
theorem ADO:∀{x:Bs},x∈signsL→x.length≤2:=by
 intro x hx;simp only [signsL,zX,zaT,or_false] at hx;rcases hx with rfl|rfl|rfl|rfl|rfl|rfl|rfl|rfl|rfl|rfl|rfl|rfl|rfl|rfl|rfl|rfl|rfl|rfl <;> decide
theorem ABU [hF:Foc b L (LBo s a w) C](ha:a < s.length)(hs:s.length≤900000000)(m0:Nat)
  (hno:Oz (s.drop a)=none→∀I',Ext I I'→K (.tuple #[ACw 5 m0 [] 0,.int .i64 171]) I' L)
  (hyes:∀x,Oz (s.drop a)=some x→a+x.length≤s.length→∀I',Ext I I'→K (.tuple #[ACw 5 m0 (if x=[33,61] then [60,62] else x) 0,.int .i64 0]) I' (C (LBo s (a+x.length) w))):
  CT ω 222 #[Ac b,ACw 0 m0 [] 0] K I L:=by
 obtain ⟨L1,L2,rfl,rfl⟩:=hF.foc;refine ANV ?_;unfold AJk;refine Am (λb1=>?_);refine Am (λb2=>?_);repeat' (first|refine zqa ?_|refine zqh (λ_=>?_)|refine zqr ?_|refine zqb ?_|refine zqi ?_ ?_|refine zqc ?_|refine zqg (λ_=>?_) (λ_=>?_)|refine zqe ?_|fail)
 refine Di signsL rfl rfl (λI1 av hI1 hw=>zAA ?_);have hlen:signsL.length=18:=rfl;try refine zqe ?_
 refine loop (λm st I2 Lx=>∃i:Nat,i+m=18∧I2=I1∧st=(.int .i64 0,.int .i64 i,())∧Lx=(b2,.cells [.int .i64 0,.int .i64 0,.string ⟨#[]⟩,.int .i64 0].toArray 247 (0,0))::(b1,.cells [.int .i64 5,.int .i64 (m0:Nat),.string ⟨#[]⟩,.int .i64 0].toArray 247 (0,0))::(L1++(b,LBo s a w)::L2)∧∀j (hj:j < signsL.length),j < i→(signsL[j]).isPrefixOf (s.drop a)=false) 18
  ⟨0,rfl,rfl,rfl,rfl,λj _ hj=>by omega⟩ ?_
 rintro m st I2 Lx ⟨i,h1,rfl,rfl,rfl,hall⟩;unfold Yz;try refine zqe ?_
 refine AP (λhb=>?_) (λhb=>?_);rotate_left
 ·have hb:¬i < 18:=by
   have:¬((i:Int) < 18):=by simpa using hb
   omega
  unfold Yy;repeat' (first|refine zqa ?_|refine zqh (λ_=>?_)|refine zqr ?_|refine zqb ?_|refine zqi ?_ ?_|refine zqc ?_|refine zqg (λ_=>?_) (λ_=>?_)|refine zqe ?_|fail)
  refine zAG (L1++(b,LBo s a w)::L2) (zAA (hno ?_ I2 hI1));rw [Oz,List.find?_eq_none];intro x hx;obtain ⟨j,hj,rfl⟩:=List.mem_iff_getElem.1 hx;simp [hall j hj zo]
 have hb:i < signsL.length:=by
  have:((i:Int) < 18):=by simpa using hb
  omega
 obtain ⟨bw,off,cw,hi1,_,hi2,hi3⟩:=RL.ix hw (i:=i) zo zo;rw [BH hb] at hi2;obtain rfl:=hi2;have hi1:ixV 1 (.slice av 18 18) (.int .i64 i)=_:=hi1;simp only [hi1,SSd,Nat.reduceAdd];refine rd1 ((hi3 _ [] (zAC _) (λ_ h=>h) 0 _ rfl).mono (zAC _) (λ_ h=>by cases h)) ?_;refine Dy ?_;try refine zqe ?_
 refine BM ?_;try refine zqe ?_
 refine BM ?_;simp only [ABS s (zbv ha),SSd,Nat.reduceAdd];have hle:=ADO (zaG hb);refine call (JR (s.drop a) signsL[i] zu zo ?_);refine AP (λhp=>?_) (λhp=>?_)
 ·have hf:Oz (s.drop a)=some signsL[i]:=AAp (p:=λ(x:Bs)=>x.isPrefixOf (s.drop a)) hb (λj hj=>hall j zo hj) hp;have hpl:=(zbe.1 hp).length_le;have hpl:a+(signsL[i]).length≤s.length:=by simp at hpl;omega
  try refine zqe ?_
  refine rdb ?_;simp only [wrap_i64 ((a:Int)+(signsL[i]).length) zo,SSd,Nat.reduceAdd];refine st1 rfl ?_;rw [show ((a:Int)+((signsL[i]).length:Nat))=((a+(signsL[i]).length:Nat):Int) from rfl];have hfin:=hyes _ hf hpl I2 hI1;have fin:∀t:Bs,t=(if signsL[i]=[33,61] then [60,62] else signsL[i])→OB ω (Ac b1) (Ac b2) (.int .i64 0) (λv=>Gh (K v)) I2 ((b2,.cells [.int .i64 0,.int .i64 0,.string ⟨#[]⟩,.int .i64 0].toArray 247 (0,0))::(b1,.cells [.int .i64 5,.int .i64 (m0:Nat),.string ⟨t.toArray⟩,.int .i64 0].toArray 247 (0,0))::(L1++(b,LBo s (a+(signsL[i]).length) w)::L2)):=by
   intro t ht;rw [←ht] at hfin;unfold OB;repeat' (first|refine zqa ?_|refine zqh (λ_=>?_)|refine zqr ?_|refine zqb ?_|refine zqi ?_ ?_|refine zqc ?_|refine zqg (λ_=>?_) (λ_=>?_)|refine zqe ?_|fail)
   exact zAG (L1++(b,LBo s (a+(signsL[i]).length) w)::L2) (zAA hfin)
  refine st1 rfl ?_;refine AP (λhe=>?_) (λhe=>?_)
  ·refine st1 rfl ?_;exact fin [60,62] (by rw [if_pos (by simpa using he)])
  ·exact fin _ (by rw [if_neg (by simpa using he)])
 ·simp only [wrap_i64 ((i:Int)+1) zo,SSd,Nat.reduceAdd];refine zAA ⟨m - 1,by omega,i+1,by omega,rfl,rfl,rfl,λj hj hji=>?_⟩;rcases Nat.lt_or_eq_of_le (Nat.le_of_lt_succ hji) with hlt|rfl
  ·exact hall j hj hlt
  ·simpa using hp
end
def AQk (v:Value):Prop:=v= .slice none 0 0∨∃a m k,v= .slice (some a) m (k+1)
theorem SlO.buf {T n len:Nat}{X:LH}{v:Value}{cells:List Value}(h:SlO T n X v cells len)(h0:0 < len):AQk v:=by
 obtain ⟨_,h8⟩:=h;rcases h8 with ⟨_,h1,_⟩|⟨b8,k8,_,_,h8,_,hle,_⟩
 ·omega
 ·obtain ⟨k,rfl⟩:∃k,k8=k+1:=⟨k8 - 1,by omega⟩;exact .inr ⟨_,_,_,h8⟩
theorem AOf:Tryz.prog.underlying 22=some (.slice 5):=by kernel_rfl
section
variable {ω:Om}{I:Imm}{L:LH}{K:Value→M}{C:Obj→LH}{b:Nat}{p v:Value}
theorem ACF [hF:Foc b L (BuB p (.slice none 0 0)) C](hp:BuP b p){n:Nat}(hn:0 < n)(hn2:n≤100000000000)
  (hk:∀X' v',SlO 5 1 X' v' [] 0→AQk v'→K (.tuple #[]) I (X'++C (BuB (Ac b) v'))):CT ω 249 #[Ac b,.int .i64 (n:Nat)] K I L:=by
 obtain ⟨L1,L2,rfl,rfl⟩:=hF.foc;refine ANB ?_;unfold AJW;refine call (Ep hp ?_);have h1:decide ((n:Int) < 0)=false:=by simp
 simp only [h1,SSd,Nat.reduceAdd];unfold Ym;have h2:decide ((0:Int) < (n:Int))=true:=by simpa using hn
 repeat' (first|refine zqa ?_|refine zqh (λ_=>?_)|refine zqr ?_|refine zqb ?_|refine zqi ?_ ?_|refine zqc ?_|refine zqg (λ_=>?_) (λ_=>?_)|(simp only [SSd,Nat.reduceAdd,h2,wrap_i64 ((0:Int)) zo]))
 rotate_left
 ·rename_i hx
  have hx:=of_decide_eq_false hx;exact absurd (show IntKind.i64.wrap (((0:Nat):Int) - ((0:Nat):Int)) < (n:Int) from by rw [show IntKind.i64.wrap (((0:Nat):Int) - ((0:Nat):Int))=0 from rfl];omega) hx
 refine call ?_;refine AMk ?_;unfold AJH;refine Dy ?_;try refine zqe ?_
 refine BM ?_;have e1:IntKind.i64.wrap (2 * ((0:Nat):Int))=0:=rfl;have e2:IntKind.i64.wrap (0+(n:Int))=n:=by rw [Int.zero_add];exact wrap_i64 (n:Int) zo
 simp only [e1,e2,SSd,Nat.reduceAdd];refine AQo AOf zo (λb' cs hcs=>zAA ?_);refine Dc (zAC _) ?_;try refine zqe ?_
 refine BM ?_;have e3:Cb 1 (.slice (some ⟨b',0,none⟩) n cs.size) none (some (.int .i64 ((0:Nat):Int))) none=some (.slice (some ⟨b',0,none⟩) 0 cs.size):=by
  simp [Cb,DL,Addr.add]
 simp only [e3,SSd,Nat.reduceAdd];refine rdb ?_;refine ⟨_,0,cs.size,0,[],rfl,.inl ⟨_,_,rfl,rfl,rfl⟩,.inl ⟨rfl,?_⟩⟩;refine zAA ?_;try refine zqe ?_
 refine st1 rfl ?_;refine zAA (zAA (hk [(b',.cells cs 5 (0,0))] _ ⟨rfl,.inr ⟨b',cs.size,cs,rfl,rfl,by simp,by omega,λj u hu=>by simp at hu⟩⟩ ?_));obtain ⟨k,hk0⟩:∃k,cs.size=k+1:=⟨cs.size - 1,by omega⟩;rw [hk0];exact .inr ⟨_,_,_,rfl⟩
theorem MG {X F:LH}{l:Bs}[hs:SplitL X L F][hF:Foc b F (BuB p v) C](hp:BuP b p)(hX:SlO 5 1 X v (Lib.byteCells l) l.length)(hn:l.length≤1000000000)(t:Bs)(ht:t.length≤1000000000)
  (hk:∀X' v',SlO 5 1 X' v' (Lib.byteCells (l++t)) (l++t).length→K (.tuple #[.int .i64 t.length,.nilIface]) I (X'++C (BuB (Ac b) v'))):CT ω 250 #[Ac b,.string ⟨t.toArray⟩] K I L:=by
 obtain ⟨L1,L2,rfl,rfl⟩:=hF.foc;refine zAP X ?_;refine ANA ?_;unfold AJV;refine call (Ep hp ?_);try refine zqe ?_
 refine rdb ?_;refine BQ (X:=X) (n:=1) (m:=t.length) rfl hX (news:=Lib.byteCells t) (.inr (.inr ⟨⟨t.toArray⟩,rfl,rfl,rfl,rfl⟩)) (λu hu=>?_) zo zo (λX2 v2 hX2=>?_)
 ·obtain ⟨c,_,rfl⟩:=zal.1 hu;rfl
 have hX2:SlO 5 1 X2 v2 (Lib.byteCells (l++t)) (l++t).length:=by rw [Lib.byteCells_append];simpa using hX2
 obtain ⟨a2,k2,rfl⟩:=hX2.form;repeat' (first|refine zqa ?_|refine zqh (λ_=>?_)|refine zqr ?_|refine zqb ?_|refine zqi ?_ ?_|refine zqc ?_|refine zqg (λ_=>?_) (λ_=>?_)|refine zqe ?_|fail)
 exact zAG (X2++(L1++(b,BuB (Ac b) (.slice a2 (l++t).length k2))::L2)) (zAA (hk X2 _ hX2))
theorem OZ {X F:LH}{l:Bs}[hs:SplitL X L F][hF:Foc b F (BuB p v) C](hp:BuP b p)(hX:SlO 5 1 X v (Lib.byteCells l) l.length)(hn:l.length≤1000000000)(c:UInt8)(hc:c.toNat < 128)
  (hk:∀X' v' x,SlO 5 1 X' v' (Lib.byteCells (l++[c])) (l++[c]).length→K (.tuple #[x,.nilIface]) I (X'++C (BuB (Ac b) v'))):CT ω 251 #[Ac b,.int .i32 c.toNat] K I L:=by
 obtain ⟨L1,L2,rfl,rfl⟩:=hF.foc;refine zAP X ?_;refine AMz ?_;unfold AJU;refine call (Ep hp ?_);obtain ⟨a1,k1,rfl⟩:=hX.form;try refine zqe ?_
 refine rdb ?_;try refine zqe ?_
 refine rdb ?_;refine call ?_;refine AMj ?_;unfold AJG;have e1:IntKind.u32.wrap (c.toNat:Int)=c.toNat:=IntWalk.u32_in _ zo;have e2:IntKind.u8.wrap (c.toNat:Int)=c.toNat:=IntWalk.u8_in _ zo;have e3:decide ((c.toNat:Int)≤127)=true:=by simp;omega
 simp only [e1,e2,e3,SSd,Nat.reduceAdd];refine CU rfl zo rfl (λX1 u hX1=>?_);refine BQ (X:=X) rfl hX (hX1.news (λx hx=>zae _ hx)) (by simp [Value.cells,Value.oneCell']) zo zo (λX2 v2 hX2=>?_);have hX2:SlO 5 1 X2 v2 (Lib.byteCells (l++[c])) (l++[c]).length:=by rw [byteCells_snoc];simpa [Value.cells] using hX2
 obtain ⟨a2,k2,rfl⟩:=hX2.form;refine zAA ?_;repeat' (first|refine zqa ?_|refine zqh (λ_=>?_)|refine zqr ?_|refine zqb ?_|refine zqi ?_ ?_|refine zqc ?_|refine zqg (λ_=>?_) (λ_=>?_)|refine zqe ?_|fail)
 exact zAG (X2++(L1++(b,BuB (Ac b) (.slice a2 (l++[c]).length k2))::L2)) (zAA (hk X2 _ _ hX2))
end
theorem UF {I:Imm}{K:Value→M}{s:Bs}{i b:Nat}{L1 L2:LH}(hasc:∀c∈s,c.toNat < 128)
  (hmore:∀c,s[i]? =some c→c.toNat < 128→K (.tuple #[.bool true,.int .i64 (i:Nat),.int .i32 c.toNat]) I (L1++(b,.stringIter ⟨s.toArray⟩ (i+1))::L2))
  (hend:s.length≤i→K (.tuple #[.bool false]) I (L1++(b,.stringIter ⟨s.toArray⟩ i)::L2)):ACm (Ac b) K I (L1++(b,.stringIter ⟨s.toArray⟩ i)::L2):=by
 refine ⟨b,⟨s.toArray⟩,i,L1,L2,rfl,rfl,?_⟩;have hsz:(⟨s.toArray⟩:ByteArray).size=s.length:=rfl;rw [hsz];split
 ·rename_i hlt
  have ha:s[i].toNat < 128:=hasc _ (zaG hlt);have hd:Utf8.decode (⟨s.toArray⟩:ByteArray) i=(s[i].toNat,1):=decode_ascii ⟨s.toArray⟩ i hlt ha;rw [hd];exact hmore s[i] (zao hlt) ha
 ·exact hend zo
def FnR (ω:Om)(fv:Value)(f:UInt8→UInt8):Prop:=∀(c:UInt8) (K:Value→M) (I:Imm) (L:LH),c.toNat < 128→K (.int .i32 (f c).toNat) I L→CW ω fv #[.int .i32 c.toNat] K I L
theorem AFI (c:UInt8)(h:c.toNat < 128):(Ej c).toNat < 128:=by
 have:=FY (p:=λc=>decide (c.toNat < 128→(Ej c).toNat < 128)) zq c;exact of_decide_eq_true this h
section
variable {ω:Om}{I:Imm}{L:LH}{K:Value→M}{C:Obj→LH}{b:Nat}{p v:Value}
theorem Rl:FnR ω (.func (.func 216) #[] #[]) Ej:=by
 intro c K I L hc hk;refine Lh (by kernel_rfl) ?_;refine ANc ?_;unfold AJp;have ht:=FY (p:=λc=>decide (c.toNat < 128→((Ej c).toNat:Int)=if (65:Int)≤c.toNat∧(c.toNat:Int)≤90 then IntKind.i32.wrap (IntKind.i32.wrap ((c.toNat:Int)+97) - 65) else (c.toNat:Int))) zq c;have ht:=of_decide_eq_true ht hc;rw [ht] at hk;try refine zqe ?_
 refine BZ (λh1=>?_) (λh1=>?_)
 ·refine AP (λh2=>?_) (λh2=>?_)
  ·unfold ZE;rw [if_pos ⟨by simpa using h1,by simpa using h2⟩] at hk;try refine zqe ?_
   exact zAA hk
  ·rw [if_neg (λh=>by simp [h.2] at h2)] at hk;exact zAA hk
 ·rw [if_neg (λh=>by simp [h.1] at h1)] at hk;exact zAA hk
theorem Tq {c:Nat}(hc:c < 128)(hk:K (.int .i64 1) I L):CT ω 248 #[.int .i32 (c:Nat)] K I L:=by
 refine ANC ?_;unfold AJX;have h1:decide ((c:Int) < 0)=false:=by simp
 have h2:decide ((c:Int)≤127)=true:=by simp;omega
 simp only [h1,h2,SSd,Nat.reduceAdd];exact zAA hk
theorem Vy {a:Option Addr}{m k:Nat}[hF:Foc b L (BuB p (.slice a m k)) C](hk:K (.int .i64 (k:Nat)) I L):CT ω 252 #[Ac b] K I L:=by
 obtain ⟨L1,L2,rfl,rfl⟩:=hF.foc;refine AMy ?_;unfold AJT;repeat' (first|refine zqa ?_|refine zqh (λ_=>?_)|refine zqr ?_|refine zqb ?_|refine zqi ?_ ?_|refine zqc ?_|refine zqg (λ_=>?_) (λ_=>?_)|refine zqe ?_|fail)
 exact zAA hk
theorem map_rest {X:LH}{acc r:Bs}{bs:Nat}{it:Obj}{z:Value}(hlen:acc.length+r.length≤900000000)(h0:0 < acc.length)(hasc:∀c∈r,c.toNat < 128)(hp:BuP b p)(hX:SlO 5 1 X v (Lib.byteCells acc) acc.length)(hk:K (.string ⟨(acc++r.map Ej).toArray⟩) I L):
  Kz ω (.func (.func 216) #[] #[]) (.string ⟨r.toArray⟩) z (Ac b) (λv=>Gh (K v)) I (X++((bs,it)::(b,BuB p v)::L)):=by
 have hF:=Rl (ω:=ω);unfold Kz;obtain ⟨a,m,k,rfl⟩:∃a m k,v= .slice (some a) m (k+1):=by
  rcases SlO.buf hX h0 with rfl|h
  ·obtain ⟨_,h8⟩:=hX;rcases h8 with ⟨_,h1,_⟩|⟨b8,k8,_,_,h8,_⟩
   ·omega
   ·cases h8
  ·exact h
 refine call (Vy ?_);have e0:(((k+1:Nat):Int)==0)=false:=by simp;omega
 simp only [e0,SSd,Nat.reduceAdd];refine ⟨⟨r.toArray⟩,rfl,λb2=>?_⟩;refine zAG (X++((b2,.stringIter ⟨r.toArray⟩ 0)::(bs,it)::(b,BuB p (.slice (some a) m (k+1)))::L)) (zAA ?_);refine loop (λm st I2 Lx=>∃(j:Nat) (X:LH) (p v:Value),j+m=r.length∧I2=I∧Lx=X++((b2,.stringIter ⟨r.toArray⟩ j)::(bs,it)::(b,BuB p v)::L)∧BuP b p∧SlO 5 1 X v (Lib.byteCells (acc++(r.take j).map Ej)) (acc++(r.take j).map Ej).length) r.length ⟨0,X,p,_,by omega,rfl,rfl,hp,by simpa using hX⟩ ?_;clear hX hp;rintro m2 st I2 Lx ⟨j,X,p,v,h1,rfl,rfl,hp,hX⟩;have hjl:(acc++(r.take j).map Ej).length≤900000000:=by simp;omega
 unfold ZF;refine UF hasc (λc hc hca=>zAA ?_) (λhe=>zAA ?_)
 ·obtain ⟨hlt,hce⟩:=zaj.1 hc;try refine zqe ?_
  refine SN (hF c _ _ _ hca ?_);have hll:=AFI c hca;have e1:decide ((0:Int)≤((Ej c).toNat:Int))=true:=by simp
  have e2:decide (((Ej c).toNat:Int) < 128)=true:=by simp;omega
  have e3:IntKind.u8.wrap ((Ej c).toNat:Int)=(Ej c).toNat:=IntWalk.u8_in _ zo;simp only [e1,e2,e3,SSd,Nat.reduceAdd];refine call (GI hp hX zo (Ej c) (λX' v' hX'=>?_));refine zAA ⟨m2 - 1,by omega,j+1,X',Ac b,v',by omega,rfl,rfl,.inr rfl,?_⟩;have et:r.take (j+1)=r.take j++[c]:=by rw [List.take_add_one,hc];rfl
  rw [et,zM,←zi];rw [show (List.map Ej [c])=[Ej c] from rfl,byteCells_snoc];simpa [zbp] using hX'
 ·try refine zqe ?_
  unfold Ut;refine call (Ll (p:=p) (v:=v) (X:=X) hX zo (λh=>by simp at h;exact absurd h.1 (zby.1 h0)) (λX'=>?_));have et:r.take j=r:=zY zo;rw [et];exact zAG L (zAA hk)
theorem AFH (s:Bs)(hs:s.length≤900000000)(hasc:∀c∈s,c.toNat < 128)(hk:K (.string ⟨(s.map Ej).toArray⟩) I L):CT ω 215 #[.func (.func 216) #[] #[],.string ⟨s.toArray⟩] K I L:=by
 have hF:=Rl (ω:=ω);refine ANd ?_;unfold AJq;refine Am (λbb=>?_);refine ⟨⟨s.toArray⟩,rfl,λbs=>zAA ?_⟩;refine loop (λm st I2 Lx=>∃i,i+m=s.length∧I2=I∧st=(.string ⟨s.toArray⟩,())∧Lx=(bs,.stringIter ⟨s.toArray⟩ i)::(bb,BuB (.pointer none) (.slice none 0 0))::L∧(s.take i).map Ej=s.take i) s.length ⟨0,by omega,rfl,rfl,rfl,rfl⟩ ?_;rintro m st I2 Lx ⟨i,h1,rfl,rfl,rfl,hfix⟩;unfold ZH;refine UF (L1:=[]) hasc (λc hc hca=>zAA ?_) (λhe=>zAA ?_)
 ·obtain ⟨hlt,hce⟩:=zaj.1 hc;try refine zqe ?_
  refine SN (hF c _ _ _ hca ?_);have hll:=AFI c hca;have e0:((c.toNat:Int) != 65533)=true:=by simp;omega
  have e0':((c.toNat:Int)==65533)=false:=by simp;omega
  simp only [Ug,e0,e0',SSd,Nat.reduceAdd];refine BZ (λhe=>?_) (λhe=>?_)
  ·have he:Ej c=c:=by simpa using he
   refine zAA ⟨m - 1,by omega,i+1,by omega,rfl,trivial,rfl,?_⟩;rw [List.take_add_one,hc];simp [hfix,he]
  ·unfold PI;refine call (Tq hca ?_);unfold OG;have e4:IntKind.i64.wrap ((s.length:Int)+4)=((s.length+4:Nat):Int):=wrap_i64 _ zo;simp only [e4,SSd,Nat.reduceAdd];refine call (ACF (.inl rfl) zo zo (λX1 v1 hX1 hb1=>?_));simp only [ALe s (zbv hlt),SSd,Nat.reduceAdd];refine call (MG (X:=X1) (l:=[]) (.inr rfl) hX1 zy (s.take i) zu (λX2 v2 hX2=>?_));have e5:decide ((0:Int)≤((Ej c).toNat:Int))=true:=by simp
   simp only [e5,SSd,Nat.reduceAdd];refine call (OZ (X:=X2) (l:=[]++s.take i) (.inr rfl) hX2 zu (Ej c) hll (λX3 v3 x hX3=>?_));unfold TP;have e6:IntKind.i64.wrap ((i:Int)+1)=((i+1:Nat):Int):=wrap_i64 _ zo;simp only [e6,SSd,Nat.reduceAdd];simp only [ABS s (show i+1≤s.length by omega),SSd,Nat.reduceAdd];refine map_rest (X:=X3) (acc:=[]++s.take i++[Ej c]) (r:=s.drop (i+1)) zu zy (λd hd=>hasc d (List.mem_of_mem_drop hd)) (.inr rfl) hX3 ?_;have e7:s.map Ej=[]++s.take i++[Ej c]++(s.drop (i+1)).map Ej:=by
    conv=>lhs;rw [←zaf i s]
    rw [zM,hfix,zaz hlt,hce];simp
   rw [←e7];exact hk
 ·try refine zqe ?_
  unfold Kz;have hi:i=s.length:=by omega
  subst hi;refine call (Vy ?_);try refine zqe ?_
  rw [List.take_length] at hfix;rw [hfix] at hk;exact zAG L (zAA hk)
end
end Go.Proofs.YthkaekjoemhjaaaGreatDoor
