/- lemmas -/
import Derived.Test.YthkaekjoemhjaaaGreatDoorP3
import Derived.Test.YthkaekjoemhjaaaGreatDoorProg
import Derived.Shelf.Strconv.Itoa4
import Derived.Shelf.Lays
set_option maxRecDepth 100000
set_option maxHeartbeats 40000000
set_option linter.unusedVariables false
set_option linter.unusedSimpArgs false
set_option linter.unusedSectionVars false
namespace Go.SL
def AAp (α:Type):Setoid (List α):=⟨List.Perm,List.Perm.refl,List.Perm.symm,List.Perm.trans⟩
def MS (α:Type):Type:=Quotient (AAp α)
def ms {α:Type}(l:List α):MS α:=Quotient.mk (AAp α) l
def ALF {α:Type}(a b:MS α):MS α:=Quotient.liftOn₂ a b (λx y=>ms (x++y)) (λ_ _ _ _ h1 h2=>Quotient.sound (s:=AAp α) (List.Perm.append h1 h2))
instance {α:Type}:Std.Associative (ALF (α:=α)):=⟨λa b c=>by
 refine Quotient.inductionOn₃ a b c λx y z=>?_;show ms (x++y++z)=ms (x++(y++z));rw [zt]⟩
instance {α:Type}:Std.Commutative (ALF (α:=α)):=⟨λa b=>by
 refine Quotient.inductionOn₂ a b λx y=>?_;exact Quotient.sound (s:=AAp α) List.perm_append_comm⟩
abbrev Key:=List UInt8
def He (k:Key):Value:=.string ⟨k.toArray⟩
def Ih (e:MapEntry):Key:=match e.key with
 | .string s=>s.data.toList
 |_=>[]
def fnd (k:Key):List MapEntry→Nat→Option (Nat×Value)
 |[],_=>none
 |e::r,i=>if Ih e=k then some (i,e.val) else fnd k r (i+1)
def Ii (m:Key→Option Value)(k:Key)(v:Option Value):Key→Option Value:=λq=>if q=k then v else m q
structure MapS (es:Array MapEntry)(clock:Nat)(m:Key→Option Value):Prop where
 str:∀e∈es.toList,∃s:ByteArray,e.key= .string s
 nod:(es.toList.map Ih).Nodup
 brn:∀e∈es.toList,e.born < clock
 bnd:(es.toList.map (·.born)).Nodup
 val:∀k,m k=(fnd k es.toList 0).map (·.2)
theorem ACq {a b:ByteArray}:(a==b)=decide (a.data.toList=b.data.toList):=by
 cases a with
 |mk a=>cases b with
  |mk b=>
   show (a==b)=_;rw [Bool.eq_iff_iff];simp only [beq_iff_eq,decide_eq_true_eq];exact ⟨λh=>by rw [h],λh=>by cases a;cases b;simpa using h⟩
theorem NZ {k:Key}:∀{l:List MapEntry} {i:Nat},(∀e∈l,∃s:ByteArray,e.key= .string s)→Instr.findNow .string (He k) l i=some (fnd k l i)
 |[],_,_=>rfl
 |e::l,i,h=>by
  obtain ⟨s,hs⟩:=h e (zJ ..);have ih:=NZ (k:=k) (l:=l) (i:=i+1) (λx hx=>h x (zV _ hx));simp only [Instr.findNow,fnd,Ih,hs,He,Instr.sameNow];rw [ACq];by_cases hk:s.data.toList=k
  ·have:decide ((⟨k.toArray⟩:ByteArray).data.toList=s.data.toList)=true:=by simp [hk]
   rw [this,if_pos hk]
  ·have:decide ((⟨k.toArray⟩:ByteArray).data.toList=s.data.toList)=false:=by simp;exact λh=>hk h.symm
   rw [this,if_neg hk];exact ih
theorem MapS.find {es:Array MapEntry}{clock:Nat}{m:Key→Option Value}(h:MapS es clock m)(k:Key):Instr.findNow .string (He k) es.toList 0=some (fnd k es.toList 0):=NZ h.str
theorem MapS.empty:MapS #[] 0 (λ_=>none):=⟨λe h=>by simp at h,by simp,λe h=>by simp at h,by simp,λk=>rfl⟩
theorem fnd_none {k:Key}:∀{l:List MapEntry} {i:Nat},fnd k l i=none↔k ∉ l.map Ih
 |[],_=>by simp [fnd]
 |e::l,i=>by
  simp only [fnd,zF,zK,not_or];by_cases h:Ih e=k
  ·simp [h]
  ·rw [if_neg h,fnd_none (l:=l)];exact ⟨λh'=>⟨λe'=>h e'.symm,h'⟩,λh'=>h'.2⟩
theorem Vx {k:Key}:∀{l:List MapEntry} {i j:Nat} {v:Value},fnd k l i=some (j,v)→∃n e,j=i+n∧l[n]? =some e∧Ih e=k∧e.val=v
 |[],_,_,_,h=>by simp [fnd] at h
 |e::l,i,j,v,h=>by
  simp only [fnd] at h;split at h
  ·rename_i hk
   simp only [zn,zaN] at h;exact ⟨0,e,by omega,rfl,hk,h.2⟩
  ·obtain ⟨n,e',h1,h2,h3,h4⟩:=Vx h;exact ⟨n+1,e',by omega,by simpa using h2,h3,h4⟩
theorem JW {k:Key}:∀{l:List MapEntry} {i j:Nat},(fnd k l i).map (·.2)=(fnd k l j).map (·.2)
 |[],_,_=>rfl
 |e::l,i,j=>by
  simp only [fnd];split
  ·rfl
  ·exact JW
theorem QI {k:Key}:∀{l l':List MapEntry} {i:Nat},(fnd k (l++l') i).map (·.2)=match (fnd k l i).map (·.2) with
  |some v=>some v
  |none=>(fnd k l' 0).map (·.2)
 |[],l',i=>by simp only [zaF,fnd,Option.map_none];exact JW
 |e::l,l',i=>by
  simp only [zah,fnd];split
  ·rfl
  ·exact QI
theorem AAx {k q:Key}{v:Value}:∀{l:List MapEntry} {n:Nat} {e:MapEntry},l[n]? =some e→Ih e=k→(l.map Ih).Nodup→
  (fnd q (l.set n {e with key:=He k,val:=v}) 0).map (·.2)=if q=k then some v else (fnd q l 0).map (·.2)
 |[],n,e,h,_,_=>by simp at h
 |x::l,0,e,h,hk,hn=>by
  simp only [zad,zn] at h;subst h;have hko:Ih {x with key:=He k,val:=v}=k:=by simp [Ih,He]
  simp only [List.set_cons_zero,fnd,hko,hk];by_cases h:k=q
  ·simp [h]
  ·rw [if_neg h,if_neg (λe=>h e.symm),if_neg h]
 |x::l,n+1,e,h,hk,hn=>by
  simp only [zac] at h;simp only [zF,zaX] at hn;simp only [zbj,fnd];have hmem:k∈l.map Ih:=zaf.2 ⟨e,List.mem_of_getElem? h,hk⟩;by_cases hx:Ih x=q
  ·rw [if_pos hx,if_pos hx,if_neg];intro e';rw [hx,e'] at hn;exact hn.1 hmem
  ·rw [if_neg hx,if_neg hx];have ih:=AAx (q:=q) (v:=v) h hk hn.2;rw [JW (j:=0),ih,JW (i:=0+1) (j:=0)]
theorem VH {k:Key}{v:Value}:∀{l:List MapEntry} {n:Nat} {e:MapEntry},l[n]? =some e→Ih e=k→(l.set n {e with key:=He k,val:=v}).map Ih=l.map Ih
 |[],n,e,h,_=>by simp at h
 |x::l,0,e,h,hk=>by
  simp only [zad,zn] at h;subst h;simp [Ih,He] at hk ⊢;exact hk.symm
 |x::l,n+1,e,h,hk=>by
  simp only [zac] at h;simp only [zbj,zF,VH h hk]
theorem RQ {k:Key}{v:Value}:∀{l:List MapEntry} {n:Nat} {e:MapEntry},l[n]? =some e→(l.set n {e with key:=He k,val:=v}).map (·.born)=l.map (·.born)
 |[],n,e,h=>by simp at h
 |x::l,0,e,h=>by
  simp only [zad,zn] at h;subst h;simp
 |x::l,n+1,e,h=>by
  simp only [zac] at h;simp only [zbj,zF,RQ (k:=k) h]
def AIG (k:Key)(v:Value)(es:Array MapEntry)(clock:Nat):Obj:=match fnd k es.toList 0 with
 |some (i,_)=>.map (es.modify i λe=>{e with key:=He k,val:=v}) clock
 |none=>.map (es.push {key:=He k,val:=v,born:=clock}) (clock+1)
theorem QA {α:Type}{a:Array α}{i:Nat}{f:α→α}{x:α}(h:a.toList[i]? =some x):(a.modify i f).toList=a.toList.set i (f x):=by
 have hlt:i < a.size:=by
  have:=(zaj.1 h).1;simpa using this
 apply List.ext_getElem?
 intro j;simp only [Array.getElem?_toList,Array.getElem?_modify];rw [List.getElem?_set];by_cases e:i=j
 ·subst e;simp only [Array.getElem?_toList] at h;rw [h];simp [hlt]
 ·simp [e]
theorem MapS.put {es:Array MapEntry}{clock:Nat}{m:Key→Option Value}(h:MapS es clock m)(k:Key)(v:Value):∃es' clock',AIG k v es clock= .map es' clock'∧MapS es' clock' (Ii m k (some v)):=by
 unfold AIG;cases hf:fnd k es.toList 0 with
 |none=>
  refine ⟨_,_,rfl,?_⟩;have hn:=fnd_none.1 hf;have hl:(es.push {key:=He k,val:=v,born:=clock}).toList=es.toList++[{key:=He k,val:=v,born:=clock}]:=by simp
  have hko:Ih {key:=He k,val:=v,born:=clock}=k:=by simp [Ih,He]
  refine ⟨λe he=>?_,?_,λe he=>?_,?_,λq=>?_⟩
  ·rw [hl] at he;rcases zaz.1 he with he|he
   ·exact h.str e he
   ·simp only [zM] at he;subst he;exact ⟨_,rfl⟩
  ·rw [hl,zaa,zbo];refine ⟨h.nod,by simp,λa ha b hb=>?_⟩;simp only [zF,zal,zM,hko] at hb;subst hb;exact λe=>hn (e ▸ ha)
  ·rw [hl] at he;rcases zaz.1 he with he|he
   ·have:=h.brn e he;omega
   ·simp only [zM] at he;subst he;simp
  ·rw [hl,zaa,zbo];refine ⟨h.bnd,by simp,λa ha b hb=>?_⟩;simp only [zF,zal,zM] at hb;subst hb;obtain ⟨e,he,rfl⟩:=zaf.1 ha;have:=h.brn e he;omega
  ·rw [hl,QI,←h.val q];unfold Ii;by_cases e:q=k
   ·subst e;rw [if_pos rfl,h.val q,hf];simp [fnd,hko]
   ·rw [if_neg e];have hf0:fnd q [{key:=He k,val:=v,born:=clock}] 0=none:=by
     simp only [fnd,hko];rw [if_neg (λe'=>e (Eq.symm e'))]
    rw [hf0];cases m q <;> rfl
 |some p=>
  obtain ⟨i,u⟩:=p;obtain ⟨n,e,h1,h2,h3,h4⟩:=Vx hf;obtain rfl:i=n:=by omega
  refine ⟨_,_,rfl,?_⟩;have hl:=QA (f:=λe=>{e with key:=He k,val:=v}) h2;refine ⟨λx hx=>?_,?_,λx hx=>?_,?_,λq=>?_⟩
  ·rw [hl] at hx;rcases List.mem_or_eq_of_mem_set hx with hx|rfl
   ·exact h.str x hx
   ·exact ⟨_,rfl⟩
  ·rw [hl,VH h2 h3];exact h.nod
  ·rw [hl] at hx;rcases List.mem_or_eq_of_mem_set hx with hx|rfl
   ·exact h.brn x hx
   ·exact h.brn e (List.mem_of_getElem? h2)
  ·rw [hl,RQ (k:=k) h2];exact h.bnd
  ·rw [hl,AAx h2 h3 h.nod,←h.val q];rfl
section rules
variable {I:Imm}{L:LH}{K:Value→M}{b:Nat}{es:Array MapEntry}{clock:Nat}{m:Key→Option Value}{k:Key}{v:Value}{S:M}
def lkV (zero:Value)(ok:Bool):Option Value→Value
 |some u=>if ok then .tuple #[u,.bool true] else u
 |none=>if ok then .tuple #[zero,.bool false] else zero
theorem AQX {zero:Value}{ok:Bool}(h:MapS es clock m):(match fnd k es.toList 0 with
  |some (_,u)=>if ok then .tuple #[u,.bool true] else u
  |none=>if ok then .tuple #[zero,.bool false] else zero)=lkV zero ok (m k):=by
 rw [h.val k];cases fnd k es.toList 0 <;> rfl
theorem ALG {zero:Value}{ok:Bool}(ha:MapAt I L b es clock)(h:MapS es clock m):lkR .string zero ok (.map (some b)) (He k) I L (lkV zero ok (m k)):=
 ⟨es,_,.inr ⟨b,clock,rfl,ha⟩,h.find k,(AQX h).symm⟩
theorem lkm {zero:Value}{ok:Bool}[hin:InL b L (.map es clock)](h:MapS es clock m)(hk:K (lkV zero ok (m k)) I L):Rv none (lkR .string zero ok (.map (some b)) (He k)) K I L:=
 ⟨_,ALG (.inl hin.mem) h,hk⟩
theorem Np {L':LH}{es':Array MapEntry}{clock':Nat}(h:MapS es clock m)(he:AIG k v es clock= .map es' clock')[u:UpL b L (.map es clock) (.map es' clock') L'](hk:K undef I L'):
  GR .string (.map (some b)) (He k) v K I L:=by
 obtain ⟨L1,L2,rfl,rfl⟩:=u.up;refine ⟨b,es,clock,L1,L2,_,rfl,rfl,h.find k,?_⟩;unfold AIG at he;cases hf:fnd k es.toList 0 with
 |none=>rw [hf] at he;simp only at he ⊢;rw [he];exact hk
 |some p=>obtain ⟨i,w⟩:=p;rw [hf] at he;simp only at he ⊢;rw [he];exact hk
theorem AFS (hk:∀b,K (.map (some b)) I ((b,.map #[] 0)::L)):Uk K I L:=hk
end rules
theorem CalV.mono {P:Program}{ω:Om}{x:Value}{args:Array Value}{K K':Value→M}{I:Imm}{L:LH}(h:CalV P ω x args K I L)(hk:∀v I' L',K v I' L'→K' v I' L'):CalV P ω x args K' I L:=by
 match x,h with
 | .func (.func f) first cap,h=>
  simp only [CalV] at h ⊢;by_cases he:CU P f=true
  ·rw [if_pos he] at h ⊢;exact Cal.mono h hk
  ·rw [if_neg he] at h ⊢;cases hx:QO P f with
   |none=>rw [hx] at h;exact h.elim
   |some e=>
    rw [hx] at h;intro w hs;obtain ⟨v,w',I',L',h1,h2,h3⟩:=h w hs;exact ⟨v,w',I',L',h1,h2,hk _ _ _ h3⟩
 | .func (.yield l) first cap,h=>
  intro w hs;obtain ⟨f,tmps,assign,body,h1,h2⟩:=h w hs;exact ⟨f,tmps,assign,body,h1,RoundIn.mono h2 λe w' ⟨v,I',L',e1,e2,e3⟩=>⟨v,I',L',e1,e2,hk _ _ _ e3⟩⟩
section iter
variable {I:Imm}{L0:LH}{K:Value→M}{b r clock:Nat}{es:Array MapEntry}{m:Key→Option Value}{vis:List MapEntry}
end iter
abbrev FO:=Int
def EU (k:FO):Value:=.int .i64 k
def Em (e:MapEntry):FO:=match e.key with
 | .int _ n=>n
 |_=>0
def EO (k:FO):List MapEntry→Nat→Option (Nat×Value)
 |[],_=>none
 |e::r,i=>if Em e=k then some (i,e.val) else EO k r (i+1)
def Qz (m:FO→Option Value)(k:FO)(v:Option Value):FO→Option Value:=λq=>if q=k then v else m q
structure MapSi (es:Array MapEntry)(clock:Nat)(m:FO→Option Value):Prop where
 str:∀e∈es.toList,∃s:Int,e.key= .int .i64 s
 nod:(es.toList.map Em).Nodup
 brn:∀e∈es.toList,e.born < clock
 bnd:(es.toList.map (·.born)).Nodup
 val:∀k,m k=(EO k es.toList 0).map (·.2)
theorem LV {k:FO}:∀{l:List MapEntry} {i:Nat},(∀e∈l,∃s:Int,e.key= .int .i64 s)→Instr.findNow (.int .i64) (EU k) l i=some (EO k l i)
 |[],_,_=>rfl
 |e::l,i,h=>by
  obtain ⟨s,hs⟩:=h e (zJ ..);have ih:=LV (k:=k) (l:=l) (i:=i+1) (λx hx=>h x (zV _ hx));simp only [Instr.findNow,EO,Em,hs,EU,Instr.sameNow,if_true];by_cases hk:s=k
  ·have:(k==s)=true:=by simp [hk]
   rw [this,if_pos hk]
  ·have:(k==s)=false:=by simp;exact λh=>hk h.symm
   rw [this,if_neg hk];exact ih
theorem MapSi.find {es:Array MapEntry}{clock:Nat}{m:FO→Option Value}(h:MapSi es clock m)(k:FO):Instr.findNow (.int .i64) (EU k) es.toList 0=some (EO k es.toList 0):=LV h.str
theorem MapSi.empty:MapSi #[] 0 (λ_=>none):=⟨λe h=>by simp at h,by simp,λe h=>by simp at h,by simp,λk=>rfl⟩
theorem fnd_nonei {k:FO}:∀{l:List MapEntry} {i:Nat},EO k l i=none↔k ∉ l.map Em
 |[],_=>by simp [EO]
 |e::l,i=>by
  simp only [EO,zF,zK,not_or];by_cases h:Em e=k
  ·simp [h]
  ·rw [if_neg h,fnd_nonei (l:=l)];exact ⟨λh'=>⟨λe'=>h e'.symm,h'⟩,λh'=>h'.2⟩
theorem SE {k:FO}:∀{l:List MapEntry} {i j:Nat} {v:Value},EO k l i=some (j,v)→∃n e,j=i+n∧l[n]? =some e∧Em e=k∧e.val=v
 |[],_,_,_,h=>by simp [EO] at h
 |e::l,i,j,v,h=>by
  simp only [EO] at h;split at h
  ·rename_i hk
   simp only [zn,zaN] at h;exact ⟨0,e,by omega,rfl,hk,h.2⟩
  ·obtain ⟨n,e',h1,h2,h3,h4⟩:=SE h;exact ⟨n+1,e',by omega,by simpa using h2,h3,h4⟩
theorem IQ {k:FO}:∀{l:List MapEntry} {i j:Nat},(EO k l i).map (·.2)=(EO k l j).map (·.2)
 |[],_,_=>rfl
 |e::l,i,j=>by
  simp only [EO];split
  ·rfl
  ·exact IQ
theorem NY {k:FO}:∀{l l':List MapEntry} {i:Nat},(EO k (l++l') i).map (·.2)=match (EO k l i).map (·.2) with
  |some v=>some v
  |none=>(EO k l' 0).map (·.2)
 |[],l',i=>by simp only [zaF,EO,Option.map_none];exact IQ
 |e::l,l',i=>by
  simp only [zah,EO];split
  ·rfl
  ·exact NY
theorem Vy {k q:FO}{v:Value}:∀{l:List MapEntry} {n:Nat} {e:MapEntry},l[n]? =some e→Em e=k→(l.map Em).Nodup→
  (EO q (l.set n {e with key:=EU k,val:=v}) 0).map (·.2)=if q=k then some v else (EO q l 0).map (·.2)
 |[],n,e,h,_,_=>by simp at h
 |x::l,0,e,h,hk,hn=>by
  simp only [zad,zn] at h;subst h;have hko:Em {x with key:=EU k,val:=v}=k:=by simp [Em,EU]
  simp only [List.set_cons_zero,EO,hko,hk];by_cases h:k=q
  ·simp [h]
  ·rw [if_neg h,if_neg (λe=>h e.symm),if_neg h]
 |x::l,n+1,e,h,hk,hn=>by
  simp only [zac] at h;simp only [zF,zaX] at hn;simp only [zbj,EO];have hmem:k∈l.map Em:=zaf.2 ⟨e,List.mem_of_getElem? h,hk⟩;by_cases hx:Em x=q
  ·rw [if_pos hx,if_pos hx,if_neg];intro e';rw [hx,e'] at hn;exact hn.1 hmem
  ·rw [if_neg hx,if_neg hx];have ih:=Vy (q:=q) (v:=v) h hk hn.2;rw [IQ (j:=0),ih,IQ (i:=0+1) (j:=0)]
theorem RP {k:FO}{v:Value}:∀{l:List MapEntry} {n:Nat} {e:MapEntry},l[n]? =some e→Em e=k→(l.set n {e with key:=EU k,val:=v}).map Em=l.map Em
 |[],n,e,h,_=>by simp at h
 |x::l,0,e,h,hk=>by
  simp only [zad,zn] at h;subst h;simp [Em,EU] at hk ⊢;exact hk.symm
 |x::l,n+1,e,h,hk=>by
  simp only [zac] at h;simp only [zbj,zF,RP h hk]
theorem PR {k:FO}{v:Value}:∀{l:List MapEntry} {n:Nat} {e:MapEntry},l[n]? =some e→(l.set n {e with key:=EU k,val:=v}).map (·.born)=l.map (·.born)
 |[],n,e,h=>by simp at h
 |x::l,0,e,h=>by
  simp only [zad,zn] at h;subst h;simp
 |x::l,n+1,e,h=>by
  simp only [zac] at h;simp only [zbj,zF,PR (k:=k) h]
def AAh (k:FO)(v:Value)(es:Array MapEntry)(clock:Nat):Obj:=match EO k es.toList 0 with
 |some (i,_)=>.map (es.modify i λe=>{e with key:=EU k,val:=v}) clock
 |none=>.map (es.push {key:=EU k,val:=v,born:=clock}) (clock+1)
theorem MapSi.put {es:Array MapEntry}{clock:Nat}{m:FO→Option Value}(h:MapSi es clock m)(k:FO)(v:Value):∃es' clock',AAh k v es clock= .map es' clock'∧MapSi es' clock' (Qz m k (some v)):=by
 unfold AAh;cases hf:EO k es.toList 0 with
 |none=>
  refine ⟨_,_,rfl,?_⟩;have hn:=fnd_nonei.1 hf;have hl:(es.push {key:=EU k,val:=v,born:=clock}).toList=es.toList++[{key:=EU k,val:=v,born:=clock}]:=by simp
  have hko:Em {key:=EU k,val:=v,born:=clock}=k:=by simp [Em,EU]
  refine ⟨λe he=>?_,?_,λe he=>?_,?_,λq=>?_⟩
  ·rw [hl] at he;rcases zaz.1 he with he|he
   ·exact h.str e he
   ·simp only [zM] at he;subst he;exact ⟨_,rfl⟩
  ·rw [hl,zaa,zbo];refine ⟨h.nod,by simp,λa ha b hb=>?_⟩;simp only [zF,zal,zM,hko] at hb;subst hb;exact λe=>hn (e ▸ ha)
  ·rw [hl] at he;rcases zaz.1 he with he|he
   ·have:=h.brn e he;omega
   ·simp only [zM] at he;subst he;simp
  ·rw [hl,zaa,zbo];refine ⟨h.bnd,by simp,λa ha b hb=>?_⟩;simp only [zF,zal,zM] at hb;subst hb;obtain ⟨e,he,rfl⟩:=zaf.1 ha;have:=h.brn e he;omega
  ·rw [hl,NY,←h.val q];unfold Qz;by_cases e:q=k
   ·subst e;rw [if_pos rfl,h.val q,hf];simp [EO,hko]
   ·rw [if_neg e];have hf0:EO q [{key:=EU k,val:=v,born:=clock}] 0=none:=by
     simp only [EO,hko];rw [if_neg (λe'=>e (Eq.symm e'))]
    rw [hf0];cases m q <;> rfl
 |some p=>
  obtain ⟨i,u⟩:=p;obtain ⟨n,e,h1,h2,h3,h4⟩:=SE hf;obtain rfl:i=n:=by omega
  refine ⟨_,_,rfl,?_⟩;have hl:=QA (f:=λe=>{e with key:=EU k,val:=v}) h2;refine ⟨λx hx=>?_,?_,λx hx=>?_,?_,λq=>?_⟩
  ·rw [hl] at hx;rcases List.mem_or_eq_of_mem_set hx with hx|rfl
   ·exact h.str x hx
   ·exact ⟨_,rfl⟩
  ·rw [hl,RP h2 h3];exact h.nod
  ·rw [hl] at hx;rcases List.mem_or_eq_of_mem_set hx with hx|rfl
   ·exact h.brn x hx
   ·exact h.brn e (List.mem_of_getElem? h2)
  ·rw [hl,PR (k:=k) h2];exact h.bnd
  ·rw [hl,Vy h2 h3 h.nod,←h.val q];rfl
section rules
variable {I:Imm}{L:LH}{K:Value→M}{b:Nat}{es:Array MapEntry}{clock:Nat}{m:FO→Option Value}{k:FO}{v:Value}{S:M}
theorem AMM {zero:Value}{ok:Bool}(h:MapSi es clock m):(match EO k es.toList 0 with
  |some (_,u)=>if ok then .tuple #[u,.bool true] else u
  |none=>if ok then .tuple #[zero,.bool false] else zero)=lkV zero ok (m k):=by
 rw [h.val k];cases EO k es.toList 0 <;> rfl
theorem AMN {zero:Value}{ok:Bool}(ha:MapAt I L b es clock)(h:MapSi es clock m):lkR (.int .i64) zero ok (.map (some b)) (EU k) I L (lkV zero ok (m k)):=
 ⟨es,_,.inr ⟨b,clock,rfl,ha⟩,h.find k,(AMM h).symm⟩
theorem ASA {zero:Value}{ok:Bool}[hin:InL b L (.map es clock)](h:MapSi es clock m)(hk:K (lkV zero ok (m k)) I L):Rv none (lkR (.int .i64) zero ok (.map (some b)) (EU k)) K I L:=
 ⟨_,AMN (.inl hin.mem) h,hk⟩
theorem AFC {L':LH}{es':Array MapEntry}{clock':Nat}(h:MapSi es clock m)(he:AAh k v es clock= .map es' clock')[u:UpL b L (.map es clock) (.map es' clock') L'](hk:K undef I L'):
  GR (.int .i64) (.map (some b)) (EU k) v K I L:=by
 obtain ⟨L1,L2,rfl,rfl⟩:=u.up;refine ⟨b,es,clock,L1,L2,_,rfl,rfl,h.find k,?_⟩;unfold AAh at he;cases hf:EO k es.toList 0 with
 |none=>rw [hf] at he;simp only at he ⊢;rw [he];exact hk
 |some p=>obtain ⟨i,w⟩:=p;rw [hf] at he;simp only at he ⊢;rw [he];exact hk
end rules
section iter
variable {I:Imm}{L0:LH}{K:Value→M}{b r clock:Nat}{es:Array MapEntry}{m:FO→Option Value}{vis:List MapEntry}
end iter
end Go.SL
namespace Go.Proofs.YthkaekjoemhjaaaGreatDoor
open Go.SL
class Foc (b:Nat) (L:LH) (o:outParam Obj) (C:outParam (Obj→LH)):Prop where
 foc:∃L1 L2,L=L1++(b,o)::L2∧C=λo'=>L1++(b,o')::L2
instance focRight (b:Nat)(A L:LH)(o:Obj)(C:Obj→LH)[h:Foc b L o C]:Foc b (A++L) o (λo'=>A++C o'):=by
 obtain ⟨L1,L2,rfl,rfl⟩:=h.foc;exact ⟨A++L1,L2,by simp,by simp⟩
instance focThere (b:Nat)(x:Nat×Obj)(L:LH)(o:Obj)(C:Obj→LH)[h:Foc b L o C]:Foc b (x::L) o (λo'=>x::C o'):=by
 obtain ⟨L1,L2,rfl,rfl⟩:=h.foc;exact ⟨x::L1,L2,rfl,rfl⟩
instance focHere (b:Nat)(L:LH)(o:Obj):Foc b ((b,o)::L) o (λo'=>(b,o')::L):=⟨[],L,rfl,rfl⟩
instance (priority:=95) lsubCC (L L':LH)(y:Nat×Obj)[h:LSub L L']:LSub (y::L) (y::L'):=⟨λx hx=>by
 rcases zK.1 hx with rfl|hx
 ·exact zJ ..
 ·exact zV _ (h.sub x hx)⟩
instance (priority:=95) lsubAA (A L L':LH)[h:LSub L L']:LSub (A++L) (A++L'):=⟨λx hx=>by
 rcases zaz.1 hx with hx|hx
 ·exact zY _ hx
 ·exact zaT _ (h.sub x hx)⟩
instance delApp (b:Nat)(A L X:LH)[h:DelB b L X]:DelB b (A++L) (A++X):=⟨λx hx=>by
 rcases zaz.1 hx with hx|hx
 ·exact zY _ hx
 ·exact zaT _ (h.sub x hx)⟩
theorem Bo {I:Imm}{L X:LH}{B:M→M}{b:Nat}[h:DelB b L X](hB:B (Stay I X) I L):Bg B I L:=draw _ ⟨zAC I,h.sub⟩ hB
section
variable {α:Type}{R:Imm→α→List Value→Prop}{I:Imm}{L:LH}{K:Value→M}
theorem Ri {R:α→List Value→Prop}{n:Nat}:∀{xs:List α} {cs:List (List Value)},(∀c∈cs,c.length=n)→xs.length=cs.length→(∀p∈xs.zip cs,R p.1 p.2)→Recs R n xs cs.flatten
 |[],[],_,_,_=>rfl
 |x::xs,c::cs,h1,h2,h3=>by
  have hc:=h1 c (zJ ..);rw [zbq];exact zAN (Recs.one hc (h3 (x,c) (zJ ..))) (Ri (λd hd=>h1 d (zV _ hd)) (by simpa using h2) (λp hp=>h3 p (zV _ hp)))
theorem Eg {T n len:Nat}{z:Array Value}{parts:List (Nat×Value)}(xs:List α)(cs:List (List Value))(hp:parts=Qj 0 (cs.map λc=>.agg c.toArray))(hl:cs.length=len)(hx:xs.length=cs.length)(hn:∀c∈cs,c.length=n)
  (hR:∀p∈xs.zip cs,R I p.1 p.2) (hm:∀{I I':Imm} {x:α} {c:List Value},Ext I I'→R I x c→R I' x c)
  (hk:∀I' a,Ext I I'→RL R n I' [] (.slice a len len) xs→Gh (K (.slice a len len)) I' L):AC T n z len parts (gh K) I L:=by
 refine Lh (cs.map λc=>.agg c.toArray) hp (by simp [hl]) (by simp only [zaf];rintro v ⟨c,hc,rfl⟩;simpa [Value.cells] using hn c hc) (λI' a hI hS=>hk I' a hI ?_);subst hl;rw [←hx] at hS ⊢;refine RL.ofI hS ?_;have:(cs.map λc=>Value.agg c.toArray).flatMap (·.cells.toList)=cs.flatten:=by
  clear hS hp hn hR hx hk;induction cs with
  |nil=>rfl
  |cons c cs ih=>
   rw [zF,zaH,zbq,ih];rfl
 rw [this];exact Ri hn hx λp hp=>hm hI (hR p hp)
theorem DW {T len:Nat}{z:Array Value}{parts:List (Nat×Value)}(xs:List Bs)(hp:parts=Qj 0 (xs.map λc=>.string ⟨c.toArray⟩))(hl:xs.length=len)
  (hk:∀I' a,Ext I I'→StL I' (.slice a len len) xs→Gh (K (.slice a len len)) I' L):AC T 1 z len parts (gh K) I L:=by
 refine Lh (n:=1) (xs.map λc=>.string ⟨c.toArray⟩) hp (by simp [hl]) (by simp only [zaf];rintro v ⟨c,hc,rfl⟩;rfl) (λI' a hI hS=>hk I' a hI ?_);subst hl;refine RL.ofI hS ?_;clear hS hp hk;induction xs with
 |nil=>rfl
 |cons c cs ih=>exact ⟨rfl,rfl,ih⟩
end
def TokV (_:Imm)(t:Tok)(c:List Value):Prop:=c=[.int .i64 t.kind,.int .i64 t.at',.string ⟨t.text.toArray⟩,.int .i64 t.num]
theorem TokV.mono {I I':Imm}{t:Tok}{c:List Value}(h:TokV I t c):TokV I' t c:=h
abbrev TL (I:Imm)(v:Value)(l:List Tok):Prop:=RL TokV 4 I [] v l
theorem TL.mono {I I':Imm}{v:Value}{l:List Tok}(h:TL I v l)(hI:Ext I I'):TL I' v l:=zAI (λ_ _ h=>TokV.mono h) h hI (λ_ h=>h)
def ABH (t:Tok):Prop:=t.kind≠6∧(t.kind=2→t.text∈wordsL)∧(t.kind=5→t.text∈signsL)∧(t.kind=3→0≤t.num∧t.num≤9223372036854775807)
def Toks:List Tok→Prop
 |[]=>False
 |[t]=>t.kind=6
 |t::u::l=>ABH t∧Toks (u::l)
theorem Toks.ne {l:List Tok}(h:Toks l):∃t r,l=t::r:=by
 match l,h with
 |t::r,_=>exact ⟨t,r,rfl⟩
theorem Toks.tail {l:List Tok}(h:Toks l)(hk:(hd l).kind≠6):Toks l.tail:=by
 match l,h with
 |[t],h=>exact absurd h hk
 |t::u::r,h=>exact h.2
theorem AFi {l:List Tok}{s:Bs}(h:isT l s=true):(hd l).kind≠6:=by
 simp only [isT,zQ,zaJ,beq_iff_eq] at h;rcases h.1 with h|h <;> omega
theorem Toks.tailT {l:List Tok}{s:Bs}(h:Toks l)(hs:isT l s=true):Toks l.tail:=h.tail (AFi hs)
theorem AFj {l:List Tok}{k:Int}(h:isK l k=true):(hd l).kind=k:=by simpa [isK] using h
theorem Toks.tailK {l:List Tok}{k:Int}(h:Toks l)(hs:isK l k=true)(hk:k≠6:=by decide):Toks l.tail:=h.tail (by rw [AFj hs];exact hk)
theorem Toks.len {l:List Tok}(h:Toks l):l.tail.length+1=l.length:=by
 obtain ⟨t,r,rfl⟩:=h.ne;rfl
abbrev PBo (v:Value):Obj:=.cells [v].toArray 245 (0,0)
def En (e:Nat):Value:=.iface 241 (.agg #[.int .i64 e])
abbrev Ac (b:Nat):Value:=.pointer (some ⟨b,0,none⟩)
abbrev POk {α:Type}(g:Res α)(V:Imm→α→Value→Prop)(n:Nat)(K:Value→M)(C:Obj→LH)(I:Imm):Prop:=
 ∀x r,g= .ok x r→Toks r→r.length≤n→∀I' v' c,Ext I I'→TL I' v' r→V I' x c→K c I' (C (PBo v'))
abbrev PEr {α:Type}(g:Res α)(Pn:Value→M)(C:Obj→LH)(I:Imm):Prop:=∀e,g= .err e→∀I' v',Ext I I'→Pn (En e) I' (C (PBo v'))
section
variable {ω:Om}{I:Imm}{L:LH}{K Pn:Value→M}{C:Obj→LH}{b:Nat}{v:Value}{l:List Tok}
theorem TL.hd (h:TL I v l)(hT:Toks l):∃bt off,ixV 4 v (.int .i64 0)=some (.pointer (some ⟨bt,off,none⟩))∧∀I' L',Ext I I'→Cells I' L' bt off [.int .i64 (hd l).kind,.int .i64 (hd l).at',.string ⟨(hd l).text.toArray⟩,.int .i64 (hd l).num]:=by
 obtain ⟨t,r,rfl⟩:=hT.ne;obtain ⟨bt,off,c,h1,_,h2,h3⟩:=RL.ix h (i:=0) zo zy;refine ⟨bt,off,h1,λI' L' hI=>?_⟩;have:QE (t::r) 0=t:=rfl;rw [this] at h2;rw [show c=_ from h2] at h3;exact h3 I' L' hI (λ_ h=>by cases h)
theorem TL.tl (h:TL I v l)(hT:Toks l):∃v',Bi 4 v (some (.int .i64 1)) none none=some v'∧v'.oneCell'=true∧TL I v' l.tail:=by
 obtain ⟨t,r,rfl⟩:=hT.ne;obtain ⟨v',h1,h2⟩:=RL.part h (lo:=1) (hi:=(t::r).length) zy (zh _) (some (.int .i64 1)) none (by simp [DJ];omega) (λcap hc=>by simp [DJ]);refine ⟨v',h1,?_,by simpa using h2⟩;obtain ⟨a,c,rfl⟩:=h2.form;rfl
theorem IK (s:Bs)[hF:Foc b L (PBo v) C](h:TL I v l)(hT:Toks l)(ht:isT l s=true→K (.bool true) I L)(hf:isT l s=false→K (.bool false) I L):CT ω 154 #[Ac b,.string ⟨s.toArray⟩] K I L:=by
 obtain ⟨L1,L2,rfl,rfl⟩:=hF.foc;obtain ⟨bt,off,h1,h2⟩:=h.hd hT;refine AOR ?_;unfold AKZ;have hk:∀{x:Bool} {L':LH},(isT l s=x)→SubP (L1++(b,PBo v)::L2) L'→Gh (K (.bool x)) I L':=by
  intro x L' hx hs;refine zAE (L1++(b,PBo v)::L2) (zAA ?_);cases x
  ·exact hf hx
  ·exact ht hx
 simp only [PBo];repeat' (first|refine zqa ?_|refine zqh (λ_=>?_)|(refine UH (h2 _ [] (zAC _)) (zAC _) rfl ?_)|refine zqr ?_|refine zqb ?_|refine zqi ?_ ?_|refine zqc ?_|refine zqg (λ_=>?_) (λ_=>?_)|(simp only [SSd,Nat.reduceAdd,h1]))
 all_goals (first|exact hk (by simp_all [isT]) inferInstance|skip)
theorem Af [hF:Foc b L (PBo v) C](h:TL I v l)(hT:Toks l)(hp:Pn (En (hd l).at') I L):CalP Tryz.prog ω 155 #[Ac b] K Pn I L:=by
 obtain ⟨L1,L2,rfl,rfl⟩:=hF.foc;obtain ⟨bt,off,h1,h2⟩:=h.hd hT;refine AOQ ?_;unfold AKY;have hp:Gh (Pn (En (hd l).at')) I (L1++(b,PBo v)::L2):=zAA hp;simp only [PBo] at hp ⊢;repeat' (first|refine zqa ?_|refine zqh (λ_=>?_)|(refine rd1 ((h2 _ [] (zAC _) 1 _ rfl).mono (zAC _) (λ_ h=>by cases h)) ?_)|refine zqr ?_|refine zqb ?_|refine zqi ?_ ?_|refine zqc ?_|refine zqg (λ_=>?_) (λ_=>?_)|(simp only [SSd,Nat.reduceAdd,h1]))
 exact hp
theorem Gv [hF:Foc b L (PBo v) C](h:TL I v l)(hT:Toks l)(hk:∀v',TL I v' l.tail→K (.agg #[.int .i64 (hd l).kind,.int .i64 (hd l).at',.string ⟨(hd l).text.toArray⟩,.int .i64 (hd l).num]) I (C (PBo v'))):
  CT ω 185 #[Ac b] K I L:=by
 obtain ⟨L1,L2,rfl,rfl⟩:=hF.foc;obtain ⟨bt,off,h1,h2⟩:=h.hd hT;obtain ⟨v',h3,h4,h5⟩:=h.tl hT;have hk:Gh (K (.agg #[.int .i64 (hd l).kind,.int .i64 (hd l).at',.string ⟨(hd l).text.toArray⟩,.int .i64 (hd l).num])) I (L1++(b,PBo v')::L2):=zAA (hk v' h5);refine AOK ?_;unfold AKS;simp only [PBo] at hk ⊢;repeat' (first|refine zqa ?_|refine zqh (λ_=>?_)|(refine UH (h2 _ [] (zAC _)) (zAC _) rfl ?_)|((with_reducible refine st1 ?_ ?_);exact h4)|refine zqr ?_|refine zqb ?_|refine zqi ?_ ?_|refine zqc ?_|refine zqg (λ_=>?_) (λ_=>?_)|(simp only [SSd,Nat.reduceAdd,h1,h3]))
 exact zAE _ hk
end
section
variable {ω:Om}{I:Imm}{L:LH}{K Pn:Value→M}{C:Obj→LH}{b:Nat}{v:Value}{l:List Tok}
theorem ER (s:Bs)[hF:Foc b L (PBo v) C](h:TL I v l)(hT:Toks l)(ht:isT l s=true→∀v',TL I v' l.tail→K (.bool true) I (C (PBo v')))(hf:isT l s=false→K (.bool false) I L):CT ω 152 #[Ac b,.string ⟨s.toArray⟩] K I L:=by
 refine AOT ?_;unfold AKa;refine call (IK s h hT (λhb=>?_) (λhb=>?_))
 ·try refine zqe ?_
  exact call (Gv h hT (λv' hv=>zAA (ht hb v' hv)))
 ·try refine zqe ?_
  exact zAA (hf hb)
def Eo:List Bs→Pr Unit
 |[],l=>.ok () l
 |s::ss,l=>(AO s l).bind λ_ r=>Eo ss r
theorem Qy (ws:List Bs){w:Value}(hw:StL I w ws)(hws:ws.length < 1000)[hF:Foc b L (PBo v) C](h:TL I v l)(hT:Toks l)
  (hok:∀r,Eo ws l= .ok () r→Toks r→r.length≤l.length→∀v',TL I v' r→K (.tuple #[]) I (C (PBo v'))) (herr:∀e,Eo ws l= .err e→∀v',Pn (En e) I (C (PBo v'))):
  CalP Tryz.prog ω 187 #[Ac b,w] K Pn I L:=by
 obtain ⟨L1,L2,rfl,rfl⟩:=hF.foc;refine AOI ?_;unfold AKQ;simp only [zAK hw,SSd,Nat.reduceAdd];refine loop (λm s I' L'=>∃(k:Nat) (v':Value) (l':List Tok),k+m=ws.length∧s=(.int .i64 k,())∧I'=I∧L'=L1++(b,PBo v')::L2∧Eo ws l=Eo (ws.drop k) l'∧Toks l'∧l'.length≤l.length∧TL I v' l') ws.length ⟨0,v,l,by omega,rfl,rfl,rfl,rfl,hT,zh _,h⟩ ?_;rintro m s I' L' ⟨k,v',l',hkm,rfl,rfl,rfl,hg,hT',hlen,hTL⟩;unfold AAB;try refine zqe ?_
 refine AL (λhlt=>?_) (λhlt=>?_)
 ·simp at hlt;have hlt:k < ws.length:=by omega
  obtain ⟨bw,off,c,h1,_,h2,h3⟩:=RL.ix hw (i:=k) zo zo;rw [BA hlt] at h2;obtain rfl:=h2;have hdr:ws.drop k=ws[k]::ws.drop (k+1):=zab hlt;rw [hdr] at hg;simp only [h1,SSd,Nat.reduceAdd];refine rd1 ((h3 _ [] (zAC _) (λ_ h=>h) 0 _ rfl).mono (zAC _) (λ_ h=>by cases h)) ?_;refine Ai (ER ws[k] hTL hT' (λhb v2 hv2=>?_) (λhb=>?_))
  ·try refine zqe ?_
   unfold Tt;simp only [SSd,Nat.reduceAdd,wrap_i64 ((k:Int)+1) zo];refine zAA ⟨m - 1,by omega,k+1,v2,l'.tail,by omega,rfl,rfl,rfl,?_,hT'.tailT hb,?_,hv2⟩
   ·rw [hg];simp only [Eo,AO,hb,if_true,Res.bind]
   ·have:=hT'.len;omega
  ·try refine zqe ?_
   refine AX (Af hTL hT' (zAA (herr _ ?_ v')));rw [hg];simp [Eo,AO,hb,Res.bind,bad]
 ·simp at hlt;have:ws.drop k=[]:=zan zo;rw [this] at hg;exact zAA (hok l' hg hT' hlen v' hTL)
abbrev ARx (t:Tok):Value:=.agg #[.int .i64 t.kind,.int .i64 t.at',.string ⟨t.text.toArray⟩,.int .i64 t.num]
theorem UN (k:Int)(hk6:k≠6)[hF:Foc b L (PBo v) C](h:TL I v l)(hT:Toks l)
  (hok:isK l k=true→∀v',TL I v' l.tail→K (ARx (hd l)) I (C (PBo v'))) (herr:isK l k=false→Pn (En (hd l).at') I L):
  CalP Tryz.prog ω 231 #[Ac b,.int .i64 k] K Pn I L:=by
 obtain ⟨L1,L2,rfl,rfl⟩:=hF.foc;obtain ⟨bt,off,h1,h2⟩:=h.hd hT;refine ANe ?_;unfold AJr;repeat' (first|refine zqa ?_|refine zqh (λ_=>?_)|(refine rd1 ((h2 _ [] (zAC _) 0 _ rfl).mono (zAC _) (λ_ h=>by cases h)) ?_)|refine zqr ?_|refine zqb ?_|refine zqi ?_ ?_|refine zqc ?_|refine zqg (λ_=>?_) (λ_=>?_)|(simp only [SSd,Nat.reduceAdd,h1]))
 ·rename_i hb
  refine AX (Af h hT (zAE (L1++(b,PBo v)::L2) (zAA (herr ?_))));simpa [isK] using hb
 ·rename_i hb
  have hb:isK l k=true:=by simpa [isK] using hb
  unfold TV;refine Ai (Gv h hT (λv' hv'=>?_));repeat' (first|refine zqa ?_|refine zqh (λ_=>?_)|refine zqr ?_|refine zqb ?_|refine zqi ?_ ?_|refine zqc ?_|refine zqg (λ_=>?_) (λ_=>?_)|refine zqe ?_|fail)
  exact zAE (L1++(b,PBo v')::L2) (zAA (hok hb v' hv'))
theorem ACA [hF:Foc b L (PBo v) C](h:TL I v l)(hT:Toks l)
  (hok:isK l 1=true→∀v',TL I v' l.tail→K (.string ⟨(hd l).text.toArray⟩) I (C (PBo v'))) (herr:isK l 1=false→Pn (En (hd l).at') I L):
  CalP Tryz.prog ω 188 #[Ac b] K Pn I L:=by
 refine AOH ?_;unfold AKP;refine AX (UN 1 zx h hT (λhb v' hv'=>?_) (λhb=>zAA (herr hb)));try refine zqe ?_
 exact zAA (hok hb v' hv')
end
theorem EX {p:UInt8→Bool}(h:(List.range 256).all (λn=>p (UInt8.ofNat n))=true)(c:UInt8):p c=true:=by
 have:=zas.1 h c.toNat (zaQ.2 c.toNat_lt);simpa using this
theorem ixS (s:Bs){a:Nat}{c:UInt8}(h:s[a]? =some c):Ei (.string ⟨s.toArray⟩) (.int .i64 (a:Nat))=some (.int .u8 c.toNat):=by
 obtain ⟨hlt,rfl⟩:=zaj.1 h;have:(⟨s.toArray⟩:ByteArray)[a]? =some s[a]:=by
  rw [getElem?_pos _ _ (by simpa [ByteArray.size] using hlt)];rfl
 simp [Ei,this]
theorem KO (s:Bs)(a b:Nat):(⟨s.toArray⟩:ByteArray).extract a b=⟨((s.drop a).take (b - a)).toArray⟩:=by
 apply ByteArray.ext
 simp [ByteArray.data_extract]
theorem slS (s:Bs){a b:Nat}(h1:a≤b)(h2:b≤s.length):DT (.string ⟨s.toArray⟩) (some (.int .i64 (a:Nat))) (some (.int .i64 (b:Nat)))=some (.string ⟨((s.drop a).take (b - a)).toArray⟩):=by
 have hs:(⟨s.toArray⟩:ByteArray).size=s.length:=rfl;simp [DT,DJ,hs,h1,h2,KO]
theorem ALt (s:Bs){b:Nat}(h2:b≤s.length):DT (.string ⟨s.toArray⟩) none (some (.int .i64 (b:Nat)))=some (.string ⟨(s.take b).toArray⟩):=by
 have hs:(⟨s.toArray⟩:ByteArray).size=s.length:=rfl;simp [DT,DJ,hs,h2,KO]
theorem VB (s:Bs){a:Nat}(h1:a≤s.length):DT (.string ⟨s.toArray⟩) (some (.int .i64 (a:Nat))) none=some (.string ⟨(s.drop a).toArray⟩):=by
 have hs:(⟨s.toArray⟩:ByteArray).size=s.length:=rfl;have:List.take (s.length - a) (s.drop a)=s.drop a:=zW zy;simp [DT,DJ,hs,h1,KO,this]
section
variable {ω:Om}{I:Imm}{L:LH}{K Pn:Value→M}
theorem JD (c:UInt8)(hk:K (.bool (DV c)) I L):CT ω 214 #[.int .u8 c.toNat] K I L:=by
 refine ANv ?_;unfold AKE;have ht:=EX (p:=λc=>(DV c==(((c.toNat:Int)==95)||(decide (97≤Dv .or .u8 c.toNat 32)&&decide (Dv .or .u8 c.toNat 32≤122))))) zq c;have ht:=eq_of_beq ht;rw [ht] at hk;repeat' (first|refine zqa ?_|refine zqh (λ_=>?_)|refine zqr ?_|refine zqb ?_|refine zqi ?_ ?_|refine zqc ?_|refine zqg (λ_=>?_) (λ_=>?_)|refine zqe ?_|fail)
 all_goals (refine zAA ?_;simp_all)
theorem KE (c:UInt8)(hk:K (.bool (CG c)) I L):CT ω 219 #[.int .u8 c.toNat] K I L:=by
 refine ANq ?_;unfold AKA;have ht:=EX (p:=λc=>(CG c==(decide ((48:Int)≤c.toNat)&&decide ((c.toNat:Int)≤57)))) zq c;have ht:=eq_of_beq ht;rw [ht] at hk;repeat' (first|refine zqa ?_|refine zqh (λ_=>?_)|refine zqr ?_|refine zqb ?_|refine zqi ?_ ?_|refine zqc ?_|refine zqg (λ_=>?_) (λ_=>?_)|refine zqe ?_|fail)
 all_goals (refine zAA ?_;simp_all)
def GN (l:Bs)(c:UInt8):Int:=match l.findIdx? (·==c) with
 |some i=>i
 |none=> -1
theorem Uf (l:Bs)(i:Nat)(h:i < l.length):(⟨l.toArray⟩:ByteArray)[i]! =l[i]:=by
 rw [getElem!_pos _ _ (by simpa [ByteArray.size] using h)];rfl
theorem WB (l:Bs)(c:UInt8):(List.range (⟨l.toArray⟩:ByteArray).size).find? (λi=>(⟨l.toArray⟩:ByteArray)[i]! ==c)=l.findIdx? (·==c):=by
 have hs:(⟨l.toArray⟩:ByteArray).size=l.length:=rfl;cases h:l.findIdx? (·==c) with
 |none=>
  rw [List.find?_eq_none];intro i hi;rw [hs,zaQ] at hi;rw [Uf _ _ hi];have:=List.findIdx?_eq_none_iff.1 h l[i] (zar hi);simpa using this
 |some i=>
  obtain ⟨hi,h1,h2⟩:=List.findIdx?_eq_some_iff_getElem.1 h;rw [List.find?_range_eq_some];refine ⟨by rw [Uf _ _ hi];exact h1,by rw [hs];simpa using hi,λj hj=>?_⟩;rw [Uf _ _ zo];have:=h2 j hj;simpa using this
theorem Fp (l:Bs)(c:UInt8)(hk:K (.int .i64 (GN l c)) I L):CT ω 120 #[.string ⟨l.toArray⟩,.int .u8 c.toNat] K I L:=by
 refine AOh ?_;unfold AKo;refine call ?_;refine AOY ?_;unfold AKf;refine ExtE.ret ⟨_,λw hs=>?_,zAA (zAA (zAA hk))⟩;show Sem.run _ (do
  let b ←Extern.Bytes.bytesOf (.string ⟨l.toArray⟩)
  let c ←Extern.Bytes.asByte (.int .u8 c.toNat)
  match (List.range b.size).find? λi=>b[i]! ==c with
  |some i=>pure (goInt i)
  |none=>pure (goInt (-1))) w=_
 have hc:((c.toNat:Int).toNat).toUInt8=c:=by simp
 simp only [Sem.run_bind,Extern.Bytes.bytesOf,Result.andThen_ok,Extern.Bytes.asByte,Sem.run_pure,hc,WB];unfold GN;cases l.findIdx? (·==c) <;> rfl
end
abbrev LBo (s:Bs)(a:Nat)(w:Value):Obj:=.cells [.string ⟨s.toArray⟩,.int .i64 (a:Nat),w].toArray 266 (0,0)
theorem RJ:∀l:Bs,DC true l=match l.findIdx? (·==10) with
  |some n=>DC false (l.drop n)
  |none=>[]
 |[]=>rfl
 |c::r=>by
  have ih:=RJ r;simp only [DC,List.findIdx?_cons];by_cases hc:(c==10)=true
  ·have hc':c=10:=by simpa using hc
   subst hc';simp [DC,Rz]
  ·simp only [hc,zl,if_false];rw [ih];cases r.findIdx? (·==10) <;> rfl
def ARl:Bs:=[9,10,12,13,32]
theorem AIu (c:UInt8):decide ((0:Int)≤GN ARl c)=Rz c:=by
 have:=EX (p:=λc=>(decide ((0:Int)≤GN ARl c)==Rz c)) zq c;exact eq_of_beq this
theorem JE {ω:Om}{I:Imm}{L:LH}{K:Value→M}(s p:Bs)(hs:s.length≤1000000000)(hp:p.length≤1000000000)(hk:K (.bool (p.isPrefixOf s)) I L):CT ω 213 #[.string ⟨s.toArray⟩,.string ⟨p.toArray⟩] K I L:=by
 refine ANw ?_;unfold AKF;refine call ?_;refine ANW ?_;unfold AJl;have hk':Gh (Gh (K (.bool (p.isPrefixOf s)))) I L:=zAA (zAA hk);try refine zqe ?_
 refine BX (λhb=>?_) (λhb=>?_)
 ·have hb:p.length≤s.length:=by simpa using hb
  simp only [ALt s hb,SSd,Nat.reduceAdd];have:(s.take p.length==p)=p.isPrefixOf s:=by
   rw [Bool.eq_iff_iff];simp only [beq_iff_eq,zbm];constructor
   ·intro e;rw [←e];exact List.take_prefix _ _
   ·intro e;exact (List.prefix_iff_eq_take.1 e).symm
  rw [this];exact hk'
 ·have hb:¬p.length≤s.length:=by simpa using hb
  have:p.isPrefixOf s=false:=by
   cases h:p.isPrefixOf s with
   |false=>rfl
   |true=>exact absurd (zbm.1 h).length_le hb
  rw [this] at hk';exact hk'
section
variable {ω:Om}{I:Imm}{L:LH}{K:Value→M}{C:Obj→LH}{b:Nat}{w:Value}{s:Bs}{a:Nat}
theorem QP {s:Bs}{a:Nat}(h:a < s.length):∃c,s[a]? =some c∧s.drop a=c::s.drop (a+1):=⟨s[a],zam h,zab h⟩
theorem Rj [hF:Foc b L (LBo s a w) C](ha:a≤s.length)(hs:s.length≤900000000)(hk:∀a',a≤a'→a'≤s.length→s.drop a'=DC false (s.drop a)→K (.tuple #[]) I (C (LBo s a' w))):CT ω 183 #[Ac b] K I L:=by
 obtain ⟨L1,L2,rfl,rfl⟩:=hF.foc;refine AOM ?_;unfold AKU;refine loop (λm _ I2 Lx=>∃a2,a≤a2∧a2+m=s.length∧I2=I∧Lx=L1++(b,LBo s a2 w)::L2∧DC false (s.drop a2)=DC false (s.drop a)) (s.length - a) ⟨a,zh _,by omega,rfl,rfl,rfl⟩ ?_;rintro m _ I2 Lx ⟨a2,h1,h2,rfl,rfl,hm⟩;unfold AAF;repeat' (first|refine zqa ?_|refine zqh (λ_=>?_)|refine zqr ?_|refine zqb ?_|refine zqi ?_ ?_|refine zqc ?_|refine zqg (λ_=>?_) (λ_=>?_)|refine zqe ?_|fail)
 ·rename_i hb
  have hb:a2 < s.length:=by simpa using hb
  obtain ⟨c,hc,hd⟩:=QP hb;simp only [ixS s hc,SSd,Nat.reduceAdd];refine call (Fp [9,10,12,13,32] c ?_);have hbi:decide ((0:Int)≤GN [9,10,12,13,32] c)=Rz c:=AIu c;simp only [hbi,SSd,Nat.reduceAdd];refine AL (λhbl=>?_) (λhbl=>?_)
  ·refine rdb ?_;simp only [wrap_i64 ((a2:Int)+1) zo,SSd,Nat.reduceAdd];refine st1 rfl ?_;refine zAA ⟨m - 1,by omega,a2+1,by omega,by omega,rfl,rfl,?_⟩;rw [←hm,hd];simp [DC,hbl]
  ·refine Ci ?_;try refine zqe ?_
   refine BJ ?_;try refine zqe ?_
   refine BJ ?_;simp only [VB s (zbu hb),SSd,Nat.reduceAdd];refine call (JE (s.drop a2) [45,45] zu zy ?_);refine AL (λhp=>?_) (λhp=>?_)
   ·have h45:∃r,s.drop a2=45::45::r:=by
     obtain ⟨r,hr⟩:=zbm.1 hp;exact ⟨r,hr.symm⟩
    obtain ⟨r,hr⟩:=h45;have hskip:DC false (s.drop a2)=DC true (s.drop a2):=by
     rw [hr];simp [DC,Rz]
    rw [RJ] at hskip;refine Ci ?_;try refine zqe ?_
    refine BJ ?_;try refine zqe ?_
    refine BJ ?_;simp only [VB s (zbu hb),SSd,Nat.reduceAdd];refine call (Fp (s.drop a2) 10 ?_);cases hf:(s.drop a2).findIdx? (·==10) with
    |none=>
     rw [hf] at hskip;have hi:GN (s.drop a2) 10= -1:=by simp only [GN,hf]
     rw [hi];repeat' (first|refine zqa ?_|refine zqh (λ_=>?_)|refine zqr ?_|refine zqb ?_|refine zqi ?_ ?_|refine zqc ?_|refine zqg (λ_=>?_) (λ_=>?_)|refine zqe ?_|fail)
     exact zAA (hk s.length ha (zh _) (by rw [←hm,hskip];simp))
    |some n=>
     rw [hf] at hskip;obtain ⟨hn,hn1,hn2⟩:=List.findIdx?_eq_some_iff_getElem.1 hf;have hi:GN (s.drop a2) 10=n:=by simp only [GN,hf]
     have hn0:n≠0:=by
      rintro rfl;rw [hr] at hf;simp [List.findIdx?_cons] at hf
     have hlt:n < s.length - a2:=by simpa using hn
     rw [hi];have hneg:decide ((n:Int) < 0)=false:=by simp
     simp only [hneg,SSd,Nat.reduceAdd];refine rdb ?_;simp only [wrap_i64 ((a2:Int)+n) zo,SSd,Nat.reduceAdd];refine st1 rfl ?_;refine zAA ⟨m - n,by omega,a2+n,by omega,by omega,rfl,by simp,?_⟩;rw [←hm,hskip];simp
   ·refine zAA (hk a2 h1 zo ?_);rw [←hm,hd];rw [hd] at hp;have:(c==45&&(s.drop (a2+1)).head? ==some 45)=false:=by
     cases hx:(c==45&&(s.drop (a2+1)).head? ==some 45) with
     |false=>rfl
     |true=>
      simp only [zQ,beq_iff_eq] at hx;obtain ⟨rfl,hx⟩:=hx;cases hy:s.drop (a2+1) with
      |nil=>rw [hy] at hx;simp at hx
      |cons d r=>
       rw [hy] at hx hp;simp at hx;subst hx;simp [List.isPrefixOf] at hp
    simp only [DC,hbl,this,zl,if_false]
 ·rename_i hb
  have hb:¬a2 < s.length:=by simpa using hb
  refine zAA (hk a2 h1 zo ?_);rw [←hm];have:s.drop a2=[]:=zan zo;rw [this];rfl
end
abbrev BuB (p v:Value):Obj:=.cells [p,v].toArray 313 (0,0)
def BuP (b:Nat)(p:Value):Prop:=p= .pointer none∨p=Ac b
theorem AIt:liesAt Tryz.prog Tryz.prog.depth 313 (2 / Tryz.prog.cellsOf 313) 0 313 1=true:=by kernel_rfl
section
variable {ω:Om}{I:Imm}{L:LH}{K:Value→M}{C:Obj→LH}{b:Nat}{p v:Value}
theorem Ee [hF:Foc b L (BuB p v) C](hp:BuP b p)(hk:K (.tuple #[]) I (C (BuB (Ac b) v))):CT ω 269 #[Ac b] K I L:=by
 obtain ⟨L1,L2,rfl,rfl⟩:=hF.foc;refine ANC ?_;unfold AJV;rcases hp with rfl|rfl
 ·have e1:Gl .eql (.pointer none) (.pointer none)=some (.bool true):=rfl;simp only [e1,SSd,Nat.reduceAdd];refine rdb ?_;simp only [e1,SSd,Nat.reduceAdd];refine ⟨_,⟨b,0,[.pointer none,v].toArray,313,(0,0),rfl,.inr zy,by simp,rfl⟩,?_⟩;refine AFO (zAA ?_);refine ⟨_,⟨b,0,[.pointer none,v].toArray,313,(0,0),rfl,.inr zy,AIt,rfl⟩,?_⟩;repeat' (first|refine zqa ?_|refine zqh (λ_=>?_)|refine zqr ?_|refine zqb ?_|refine zqi ?_ ?_|refine zqc ?_|refine zqg (λ_=>?_) (λ_=>?_)|refine zqe ?_|fail)
  exact zAE _ (zAA hk)
 ·try refine zqe ?_
  refine rdb ?_;have e2:Gl .neq (Ac b) (Ac b)=some (.bool false):=by simp [Gl]
  simp only [Ia,SSd,Nat.reduceAdd];refine rdb ?_;simp only [e2,SSd,Nat.reduceAdd];exact zAA hk
theorem FV {X F:LH}{cells:List Value}{n:Nat}[hs:SplitL X L F][hF:Foc b F (BuB p v) C](hp:BuP b p)(hX:SlO 5 1 X v cells n)(hn:n≤1000000000)(c:UInt8)
  (hk:∀X' v',SlO 5 1 X' v' (cells++[.int .u8 c.toNat]) (n+1)→K .nilIface I (X'++C (BuB (Ac b) v'))):CT ω 253 #[Ac b,.int .u8 c.toNat] K I L:=by
 obtain ⟨L1,L2,rfl,rfl⟩:=hF.foc;refine zAM X ?_;refine ANP ?_;unfold AJf;refine call (Ee hp ?_);try refine zqe ?_
 refine rdb ?_;refine Bh rfl zo rfl (λX1 u hX1=>?_);refine BL (X:=X) rfl hX (hX1.news (λx hx=>zY _ hx)) (by simp [Value.cells,Value.oneCell']) zo zo (λX2 v2 hX2=>?_);have hX2:SlO 5 1 X2 v2 (cells++[.int .u8 c.toNat]) (n+1):=by simpa [Value.cells] using hX2
 obtain ⟨a2,k2,rfl⟩:=hX2.form;repeat' (first|refine zqa ?_|refine zqh (λ_=>?_)|refine zqr ?_|refine zqb ?_|refine zqi ?_ ?_|refine zqc ?_|refine zqg (λ_=>?_) (λ_=>?_)|refine zqe ?_|fail)
 exact zAE (X2++(L1++(b,BuB (Ac b) (.slice a2 (n+1) k2))::L2)) (zAA (hk X2 _ hX2))
theorem byteCells_snoc (l:Bs)(c:UInt8):Lib.byteCells (l++[c])=Lib.byteCells l++[.int .u8 c.toNat]:=by rw [Lib.byteCells_append];rfl
theorem Ld {X F:LH}{l:Bs}[hs:SplitL X L F][hF:Foc b F (BuB p v) C](hX:SlO 5 1 X v (Lib.byteCells l) l.length)(hn:l.length≤1000000000)(hv:l=[]→v= .slice none 0 0∨∃a k,v= .slice (some a) 0 (k+1))
  (hk:∀X',K (.string ⟨l.toArray⟩) I (X'++C (BuB p v))):CT ω 254 #[Ac b] K I L:=by
 obtain ⟨L1,L2,rfl,rfl⟩:=hF.foc;refine zAM X ?_;refine ANO ?_;unfold AJe;obtain ⟨a,cap,rfl⟩:=hX.form;have hlenV:lenV (.slice a l.length cap)=some (.int .i64 l.length):=rfl;refine Ci ?_;try refine zqe ?_
 refine BJ ?_;by_cases hl:l=[]
 ·subst hl;have hp:∃p,ACz (.slice a 0 cap)=some (.pointer p):=by
   rcases hv rfl with h|⟨a',k',h⟩
   ·simp only [zH,Value.slice.injEq] at h;obtain ⟨rfl,_,rfl⟩:=h;exact ⟨none,rfl⟩
   ·simp only [zH,Value.slice.injEq] at h;obtain ⟨rfl,_,rfl⟩:=h;exact ⟨some a',rfl⟩
  obtain ⟨q,hq⟩:=hp;simp only [zH,hq,SSd,Nat.reduceAdd];refine BJ ?_;try refine zqe ?_
  exact .inl ⟨q,rfl,rfl,zAA (zAA (hk X))⟩
 ·have hpos:0 < l.length:=List.length_pos_iff.2 hl;obtain ⟨hcl,hX⟩:=hX;rcases hX with ⟨_,h0,_⟩|⟨bb,cap',cs,rfl,e,hcs,hle,hcell⟩
  ·omega
  ·simp only [Value.slice.injEq] at e;obtain ⟨rfl,_,rfl⟩:=e;obtain ⟨k,rfl⟩:∃k,cap=k+1:=⟨cap - 1,by omega⟩;have hq:ACz (.slice (some ⟨bb,0,none⟩) l.length (k+1))=some (.pointer (some ⟨bb,0,none⟩)):=rfl;simp only [hq,SSd,Nat.reduceAdd];refine BJ ?_;try refine zqe ?_
   refine .inr ⟨bb,cs,(0,0),l,[],L1++(b,BuB p (.slice (some ⟨bb,0,none⟩) l.length (k+1)))::L2,rfl,rfl,hl,by omega,by omega,rfl,λj u hu=>hcell j _ ?_,zAA (zAA (hk [_]))⟩;simp [Lib.byteCells,hu]
end
section
variable {P:Program}{ω:Om}{K:Value→M}{I:Imm}{L:LH}
theorem La {f:FuncId}{args:Array Value}(he:CU P f=true)(h:Cal P ω f args K I L):CalV P ω (.func (.func f) #[] #[]) args K I L:=by
 unfold CalV;simp only [he,if_true];simpa using h
theorem Si {x:Value}{args:Array Value}(h:CalV P ω x args K I L):CalV P ω x args (SL.gh K) I L:=CalV.mono h (λ_ _ _ h=>zAA h)
end
def FnB (ω:Om)(fv:Value)(p:UInt8→Bool):Prop:=∀(c:UInt8) (K:Value→M) (I:Imm) (L:LH),K (.bool (p c)) I L→CW ω fv #[.int .u8 c.toNat] K I L
section
variable {ω:Om}{I:Imm}{L:LH}{K:Value→M}{C:Obj→LH}{b:Nat}{w:Value}{s:Bs}{a:Nat}
theorem ACZ:FnB ω (.func (.func 219) #[] #[]) CG:=by
 intro c K I L hk;exact La (by kernel_rfl) (KE c hk)
theorem ACv:FnB ω (.func (.func 218) #[] #[]) (λc=>DV c||CG c):=by
 intro c K I L hk;refine La (by kernel_rfl) ?_;refine ANr ?_;show AEM ω (.int .u8 c.toNat) _ I L;unfold AEM;refine call (JD c ?_);refine BX (λh=>?_) (λh=>?_)
 ·refine call (KE c (zAA ?_));simpa [show DV c=false from by simpa using h] using hk
 ·refine zAA ?_;have:DV c=true:=by simpa using h
  simpa [this] using hk
theorem Og {fv:Value}{p:UInt8→Bool}(hf:FnB ω fv p)[hF:Foc b L (LBo s a w) C](ha:a≤s.length)(hs:s.length≤900000000)
  (hk:∀a',a≤a'→a'≤s.length→s.drop a'=(s.drop a).dropWhile p→K (.string ⟨((s.drop a).takeWhile p).toArray⟩) I (C (LBo s a' w))):CT ω 217 #[Ac b,fv] K I L:=by
 obtain ⟨L1,L2,rfl,rfl⟩:=hF.foc;refine ANs ?_;unfold AKB;try refine zqe ?_
 refine rdb ?_;refine loop (λm _ I2 Lx=>∃a2,a≤a2∧a2+m=s.length∧I2=I∧Lx=L1++(b,LBo s a2 w)::L2∧(s.drop a).takeWhile p=(s.drop a).take (a2 - a)++(s.drop a2).takeWhile p∧(s.drop a).dropWhile p=(s.drop a2).dropWhile p) (s.length - a) ⟨a,zh _,by omega,rfl,rfl,by simp,rfl⟩ ?_;rintro m _ I2 Lx ⟨a2,h1,h2,rfl,rfl,ht,hd⟩;unfold ZM;have fin:(s.drop a2).takeWhile p=[]→OD ω (Ac b) (.string ⟨#[]⟩) (.int .i64 a) (λv=>Gh (K v)) I2 (L1++(b,LBo s a2 w)::L2):=by
  intro he;rw [he,zaK] at ht;have hdw:(s.drop a2).dropWhile p=s.drop a2:=by
   have:=List.takeWhile_append_dropWhile (p:=p) (l:=s.drop a2);rw [he] at this;simpa using this
  unfold OD;refine Ci ?_;try refine zqe ?_
  refine BJ ?_;try refine zqe ?_
  refine BJ ?_;simp only [slS s h1 (show a2≤s.length by omega),SSd,Nat.reduceAdd];rw [←ht];exact zAA (hk a2 h1 zo (by rw [hd,hdw]))
 refine Ci ?_;try refine zqe ?_
 refine BJ ?_;try refine zqe ?_
 refine BJ ?_;try refine zqe ?_
 refine BX (λhb=>?_) (λhb=>?_)
 ·have hb:a2 < s.length:=by simpa using hb
  obtain ⟨c,hc,hdc⟩:=QP hb;try refine zqe ?_
  refine BJ ?_;try refine zqe ?_
  refine BJ ?_;simp only [ixS s hc,SSd,Nat.reduceAdd];refine Si (hf c _ _ _ ?_);refine AL (λhp=>?_) (λhp=>?_)
  ·try refine zqe ?_
   refine rdb ?_;simp only [wrap_i64 ((a2:Int)+1) zo,SSd,Nat.reduceAdd];refine st1 rfl ?_;refine zAA ⟨m - 1,by omega,a2+1,by omega,by omega,rfl,rfl,?_,?_⟩
   ·rw [ht,hdc,List.takeWhile_cons_of_pos hp];have e:a2+1 - a=(a2 - a)+1:=by omega
    rw [e,List.take_add_one];have:(s.drop a)[a2 - a]? =some c:=by rw [zat];rw [show a+(a2 - a)=a2 by omega];exact hc
    rw [this];simp
   ·rw [hd,hdc,List.dropWhile_cons_of_pos hp]
  ·exact fin (by rw [hdc,List.takeWhile_cons_of_neg (by simpa using hp)])
 ·have hb:¬a2 < s.length:=by simpa using hb
  exact fin (by rw [zan zo];rfl)
end
theorem Cal.borrow {P:Program}{ω:Om}{f:FuncId}{args:Array Value}{K:Value→M}{I:Imm}{F:LH}{b:Nat}{o:Obj}
  (h:Cal P ω f args (λv I' L'=>Ext (Imm.put I b o) I'∧∀I2,Ext I I2→K v I2 ((b,o)::L')) (Imm.put I b o) F):Cal P ω f args K I ((b,o)::F):=λw hs=>by
 have hc:=hs.cons;have hb:I b=none:=hc.2 b o (zJ ..);refine (h w hs.freeze).mono ?_;rintro e w' ⟨v,I',L',rfl,hs',hE,hk⟩;have hI'b:I' b=some o:=hE b o (by simp [Imm.put]);have hx:Ext I (λc=>if c=b then none else I' c):=λc o' hc'=>by
  have hne:c≠b:=λe=>by subst e;rw [hb] at hc';cases hc'
  show (if c=b then none else I' c)=some o';rw [if_neg hne];exact hE c o' (by simp only [Imm.put,if_neg hne];exact hc')
 refine ⟨v,_,_,rfl,⟨λc o' hc'=>?_,λc o' hm=>?_,?_,λc o' hm=>?_,hs'.tape,hs'.os,hs'.out,hs'.dr⟩,hk _ hx⟩
 ·split at hc'
  ·cases hc'
  ·exact hs'.imm c o' hc'
 ·rcases zK.1 hm with h|h
  ·simp only [zaN] at h;obtain ⟨rfl,rfl⟩:=h;exact hs'.imm _ _ hI'b
  ·exact hs'.own c o' h
 ·refine zaX.2 ⟨λhmem=>?_,hs'.nodup⟩;obtain ⟨⟨c,o'⟩,hm,he⟩:=zaf.1 hmem;simp only at he
  subst he;have:=hs'.apart _ o' hm;rw [hI'b] at this;cases this
 ·rcases zK.1 hm with h|h
  ·simp only [zaN] at h;obtain ⟨rfl,rfl⟩:=h;simp
  ·split
   ·rfl
   ·exact hs'.apart c o' h
theorem Le {P:Program}{ω:Om}{f:FuncId}{args:Array Value}{K:Value→M}{I:Imm}{X F:LH}{v:Value}{l:Bs}(ho:OwB X v l)
  (h:∀I1,Ext I I1→Bytes I1 v l→Cal P ω f args (λu I' L'=>Ext I1 I'∧∀I2,Ext I I2→K u I2 (X++L')) I1 F):Cal P ω f args K I (X++F):=by
 obtain ⟨hl,h2⟩:=ho;rcases h2 with ⟨rfl,h0,hv⟩|⟨b,cap,cs,rfl,rfl,hcs,hle,hcell⟩
 ·obtain ⟨a,ha⟩:=hv;have hn:l=[]:=zG h0;subst hn;subst ha;refine (h I (zAC I) (SlI.nil _ _ _ _)).mono λu I' L' ⟨h1,h2⟩=>h2 I' h1
 ·refine Cal.cons λhc=>?_;have hE:Ext I (Imm.put I b (.cells cs 5 (0,0))):=hc.ext_put;exact Cal.borrow (h _ hE ⟨hl,_,cap,rfl,hle,λ_=>⟨b,0,cs,5,(0,0),rfl,by simp [Imm.put],λj u hu=>by rw [zaS];exact hcell j u hu⟩⟩)
section
variable {ω:Om}{I:Imm}{L:LH}{K:Value→M}
theorem ASB (s:Bs):decide (0≤GN s 0)= !(s.all (· != 0)):=by
 unfold GN;cases h:s.findIdx? (·==0) with
 |none=>
  have h1:=List.findIdx?_eq_none_iff.1 h;have:s.all (· != 0)=true:=zas.2 λx hx=>by simpa [bne] using h1 x hx
  rw [this];rfl
 |some i=>
  obtain ⟨hi,h1,_⟩:=List.findIdx?_eq_some_iff_getElem.1 h;have:s.all (· != 0)=false:=by
   rw [List.all_eq_false];exact ⟨s[i],zar hi,by simpa using h1⟩
  rw [this];simp
theorem WM (s:Bs)(hk:K (.bool (!(s.all (· != 0)))) I L):CW ω (.func (.func 119) #[] #[]) #[.string ⟨s.toArray⟩] K I L:=by
 refine La (by kernel_rfl) ?_;refine AOi ?_;unfold AKp;refine call ?_;rw [show (Value.int .u8 0)= .int .u8 ((0:UInt8).toNat:Nat) from rfl];refine Fp s 0 ?_;try refine zqe ?_
 rw [ASB];exact zAA hk
theorem KJ {w:Value}{xs:List Bs}(hx:RL StrV 1 I [] w xs)(hx0:xs.length≤1000000000000)(hk:K (.bool (clB xs)) I L):CT ω 96 #[w] K I L:=by
 refine AQf ?_;unfold APO;refine call ?_;refine AOj ?_;unfold AKq;refine call ?_;refine AOZ ?_;unfold AKg;simp only [zAK hx,SSd,Nat.reduceAdd];refine loop (λm st I' L'=>∃k:Nat,k+m=xs.length∧st=(Value.int .i64 0,Value.int .i64 (k:Nat),())∧I'=I∧L'=L∧clB (xs.take k)=true) xs.length ⟨0,by omega,rfl,rfl,rfl,rfl⟩ ?_;rintro m st I' L' ⟨k,hkm,rfl,rfl,rfl,hcl⟩;unfold AAO;try refine zqe ?_
 refine AL (λhb=>?_) (λhb=>?_)
 ·have hb:k < xs.length:=by
   have:=of_decide_eq_true hb;omega
  obtain ⟨bt,off,c1,g1,gl,g2,g3⟩:=RL.ix hx (i:=k) zo zo;rw [BA hb] at g2;obtain rfl:=g2;simp only [g1,SSd,Nat.reduceAdd];refine rdC (g3 I' [] (zAC _) (λ_ h=>h) 0 _ rfl) (zAC _) ?_;refine CalV.mono (WM xs[k] (K:=λv I'' L''=>v= .bool (!(xs[k].all (· != 0)))∧I''=I'∧L''=L') ⟨rfl,rfl,rfl⟩) ?_;rintro v I'' L'' ⟨rfl,rfl,rfl⟩;have e:clB (xs.take (k+1))=xs[k].all (· != 0):=by
   rw [zf hb];unfold clB at *;rw [zbc,hcl];simp
  cases h:xs[k].all (· != 0) with
  |true=>
   rw [h] at e;simp only [zB,wrap_i64 ((k:Int)+1) zo,SSd,Nat.reduceAdd];exact zAA (zAA ⟨m - 1,by omega,k+1,by omega,rfl,rfl,rfl,e⟩)
  |false=>
   rw [h] at e;have:clB xs=false:=by
    rw [←zZ (k+1) xs];unfold clB at *;rw [zbc,e];rfl
   rw [this] at hk;simp only [zak,show decide ((0:Int)≤(k:Nat))=true from decide_eq_true zo,SSd,Nat.reduceAdd];exact zAA (zAA (zAA (zAA hk)))
 ·have hb:¬k < xs.length:=by
   have:=of_decide_eq_false hb;omega
  rw [zW zo] at hcl;rw [hcl] at hk;simp only [show decide ((0:Int)≤ -1)=false from rfl,SSd,Nat.reduceAdd];exact zAA (zAA (zAA hk))
theorem VA (n:Int)(hk:K (.bool (n != i32 n)) I L):CW ω (.func (.func 116) #[] #[]) #[.int .i64 n] K I L:=by
 refine La (by kernel_rfl) ?_;refine AOl ?_;unfold AKs;have hw:IntKind.i64.wrap (IntKind.i32.wrap n)=i32 n:=by
  exact wrap_i64 _ (by rw [IntKind.wrap_i32];omega)
 simp only [hw,SSd,Nat.reduceAdd];exact zAA hk
theorem Xc {w:Value}{xs:List Int}(hx:RL (ASJ .i64) 1 I [] w xs)(hx0:xs.length≤1000000000000)(hk:K (.bool (smB xs)) I L):CT ω 92 #[w] K I L:=by
 refine AQj ?_;unfold APS;refine call ?_;refine AOm ?_;unfold AKt;refine call ?_;refine AOa ?_;unfold AKh;simp only [zAK hx,SSd,Nat.reduceAdd];refine loop (λm st I' L'=>∃k:Nat,k+m=xs.length∧st=(Value.int .i64 0,Value.int .i64 (k:Nat),())∧I'=I∧L'=L∧smB (xs.take k)=true) xs.length ⟨0,by omega,rfl,rfl,rfl,rfl⟩ ?_;rintro m st I' L' ⟨k,hkm,rfl,rfl,rfl,hcl⟩;unfold AAP;try refine zqe ?_
 refine AL (λhb=>?_) (λhb=>?_)
 ·have hb:k < xs.length:=by
   have:=of_decide_eq_true hb;omega
  obtain ⟨bt,off,c1,g1,gl,g2,g3⟩:=RL.ix hx (i:=k) zo zo;rw [BA hb] at g2;obtain rfl:=g2;simp only [g1,SSd,Nat.reduceAdd];refine rdC (g3 I' [] (zAC _) (λ_ h=>h) 0 _ rfl) (zAC _) ?_;refine CalV.mono (VA xs[k] (K:=λv I'' L''=>v= .bool (xs[k] != i32 xs[k])∧I''=I'∧L''=L') ⟨rfl,rfl,rfl⟩) ?_;rintro v I'' L'' ⟨rfl,rfl,rfl⟩;have e:smB (xs.take (k+1))=(xs[k]==i32 xs[k]):=by
   rw [zf hb];unfold smB at *;rw [zbc,hcl];simp
  cases h:(xs[k]==i32 xs[k]) with
  |true=>
   rw [h] at e;have h2:(xs[k] != i32 xs[k])=false:=by simp only [bne,h];rfl
   simp only [h2,wrap_i64 ((k:Int)+1) zo,SSd,Nat.reduceAdd];exact zAA (zAA ⟨m - 1,by omega,k+1,by omega,rfl,rfl,rfl,e⟩)
  |false=>
   rw [h] at e;have:smB xs=false:=by
    rw [←zZ (k+1) xs];unfold smB at *;rw [zbc,e];rfl
   rw [this] at hk;have h2:(xs[k] != i32 xs[k])=true:=by simp only [bne,h];rfl
   simp only [h2,show decide ((0:Int)≤(k:Nat))=true from decide_eq_true zo,SSd,Nat.reduceAdd];exact zAA (zAA (zAA (zAA hk)))
 ·have hb:¬k < xs.length:=by
   have:=of_decide_eq_false hb;omega
  rw [zW zo] at hcl;rw [hcl] at hk;simp only [show decide ((0:Int)≤ -1)=false from rfl,SSd,Nat.reduceAdd];exact zAA (zAA (zAA hk))
end
def TFieldV (I:Imm)(x:TField)(c:List Value):Prop:=c=[.string ⟨x.fName.toArray⟩,.int .i64 x.fType]
theorem TFieldV.mono {I I':Imm}{x:TField}{c:List Value}(h:TFieldV I x c)(hI:Ext I I'):TFieldV I' x c:=by
 obtain rfl:=h;exact rfl
def TCellV (I:Imm)(x:TCell)(c:List Value):Prop:=c=[.bool x.fNull,.string ⟨x.fText.toArray⟩]
theorem TCellV.mono {I I':Imm}{x:TCell}{c:List Value}(h:TCellV I x c)(hI:Ext I I'):TCellV I' x c:=by
 obtain rfl:=h;exact rfl
theorem TCellV.len {I:Imm}{x:TCell}{c:List Value}(h:TCellV I x c):c.length=2:=by
 obtain rfl:=h;rfl
theorem TCellV.one {I:Imm}{x:TCell}{c:List Value}(h:TCellV I x c):∀u∈c,u.oneCell'=true:=by
 obtain rfl:=h;exact AV rfl
def TBackV (I:Imm)(x:TBack)(c:List Value):Prop:=∃v0 v1,c=[.int .i64 x.fKind,.string ⟨x.fName.toArray⟩,.string ⟨x.fText.toArray⟩,.int .i64 x.fPid,.int .i64 x.fSecret,.int .u8 x.fStatus,v0,v1,.string ⟨x.fState.toArray⟩,.bool x.fFatal]∧RL TFieldV 2 I [] v0 x.fFields∧RL TCellV 2 I [] v1 x.fCells
theorem TBackV.mono {I I':Imm}{x:TBack}{c:List Value}(h:TBackV I x c)(hI:Ext I I'):TBackV I' x c:=by
 obtain ⟨v0,v1,rfl,h0,h1⟩:=h;exact ⟨v0,v1,rfl,zAI (λ_ _ h=>TFieldV.mono h hI) h0 hI (λ_ h=>by cases h),zAI (λ_ _ h=>TCellV.mono h hI) h1 hI (λ_ h=>by cases h)⟩
theorem TBackV.len {I:Imm}{x:TBack}{c:List Value}(h:TBackV I x c):c.length=10:=by
 obtain ⟨v0,v1,rfl,h0,h1⟩:=h;rfl
theorem TBackV.one {I:Imm}{x:TBack}{c:List Value}(h:TBackV I x c):∀u∈c,u.oneCell'=true:=by
 obtain ⟨v0,v1,rfl,h0,h1⟩:=h;obtain ⟨_,_,rfl⟩:=zAF h0;obtain ⟨_,_,rfl⟩:=zAF h1;exact AV rfl
theorem WG {I:Imm}{L:LH}{B:M→M}(Y:LH)[h:LSub Y L](hB:B (Stay I Y) I L):Bg B I L:=draw _ ⟨zAC I,h.sub⟩ hB
theorem Ak (n:Int):∀k,(beB n k).length=k
 |0=>rfl
 |k+1=>by rw [beB,zi,Ak n k]
section
variable {ω:Om}{I:Imm}{L F:LH}{K:Value→M}
theorem Gu {X:LH}{v:Value}{l:Bs}[hs:SplitL X L F](ho:OwB X v l)(n:Int)(k:Nat)(kv:Int)(hkv:kv=(k:Nat))(hk8:k≤8)(hl:l.length≤1000000000000)(hk:∀X' v',OwB X' v' (l++beB n k)→K v' I (X'++F)):CT ω 91 #[v,.int .i64 n,.int .i64 kv] K I L:=by
 subst hkv;exact zAM X (Wu ho n k hk8 hl hk)
theorem AHY {X:LH}{v w:Value}{l:Bs}{xs:List Bs}[hs:SplitL X L F](ho:OwB X v l)(hx:RL StrV 1 I [] w xs)(hx0:xs.length≤1000000000000)(hl:l.length+(txB xs).length≤1000000000000)(hk:∀X' v',OwB X' v' (l++txB xs)→K v' I (X'++F)):CT ω 95 #[v,w] K I L:=
 zAM X (MG ho hx hx0 hl hk)
theorem AIz (n:Int)(k:Nat)(kv:Int)(hkv:kv=(k:Nat))(hk8:k≤8)(hk:∀X' v',OwB X' v' (beB n k)→K v' I (X'++L)):CT ω 91 #[.slice none 0 0,.int .i64 n,.int .i64 kv] K I L:=by
 subst hkv;exact Wu (X:=[]) (l:=[]) (zAJ _ _) n k hk8 zy hk
theorem text0 {w:Value}{xs:List Bs}(hx:RL StrV 1 I [] w xs)(hx0:xs.length≤1000000000000)(hl:(txB xs).length≤1000000000000)(hk:∀X' v',OwB X' v' (txB xs)→K v' I (X'++L)):CT ω 95 #[.slice none 0 0,w] K I L:=
 MG (X:=[]) (l:=[]) (zAJ _ _) hx hx0 (by simpa using hl) hk
def AIm (t:FO):Option Value:=(KI t).map λc=>.agg #[.int .i64 c.1,.int .i64 c.2]
theorem Ud (hk:∀b es clock,MapSi es clock AIm→K (.map (some b)) I ((b,.map es clock)::L)):CT ω 117 #[] K I L:=by
 refine AOk ?_;unfold AKr;refine AFS (λb=>zAA ?_);try refine zqe ?_
 obtain ⟨e1,k1,h1,m1⟩:=MapSi.empty.put 1 (.agg #[.int .i64 20,.int .i64 8]);refine AFC (k:=1) MapSi.empty h1 (zAA ?_);try refine zqe ?_
 obtain ⟨e2,k2,h2,m2⟩:=m1.put 2 (.agg #[.int .i64 16,.int .i64 1]);refine AFC (k:=2) m1 h2 (zAA ?_);try refine zqe ?_
 obtain ⟨e3,k3,h3,m3⟩:=m2.put 3 (.agg #[.int .i64 25,.int .i64 (-1)]);refine AFC (k:=3) m2 h3 (zAA ?_);refine zAA (hk b e3 k3 ?_);have e:(Qz (Qz (Qz (λ_=>none) 1 (some (.agg #[.int .i64 20,.int .i64 8]))) 2 (some (.agg #[.int .i64 16,.int .i64 1]))) 3 (some (.agg #[.int .i64 25,.int .i64 (-1)])))=AIm:=by
  funext t
  unfold Qz AIm KI;by_cases h1:t=1
  ·subst h1;rfl
  by_cases h2:t=2
  ·subst h2;rfl
  by_cases h3:t=3
  ·subst h3;rfl
  simp [h1,h2,h3]
 rw [←e];exact m3
theorem Me:∀(a b:List TField),Bl (a++b)=match Bl a with
  |none=>none
  |some s=>(Bl b).map (s++·)
 |[],b=>by simp [Bl]
 |f::a,b=>by
  simp only [zah,Bl,Me a b];cases KI f.fType with
  |none=>rfl
  |some c=>
   simp only
   split
   ·cases Bl a with
    |none=>rfl
    |some s=>cases Bl b <;> simp
   ·rfl
theorem JF (f:TField)(c:Int×Int):(NC f c).length=f.fName.length+19:=by
 simp only [NC,zk,Ak,EH,zi,zH]
theorem JX:∀{l:List TField} {s:Bs},Bl l=some s→s.length=(l.map λf=>f.fName.length+19).sum
 |[],s,h=>by simp only [Bl,zn] at h;subst h;rfl
 |f::l,s,h=>by
  simp only [Bl] at h;cases hc:KI f.fType with
  |none=>rw [hc] at h;cases h
  |some c=>
   rw [hc] at h;simp only at h
   split at h
   ·cases hs:Bl l with
    |none=>rw [hs] at h;cases h
    |some s'=>
     rw [hs] at h;simp only [Option.map_some,zn] at h;subst h;rw [zk,JF,JX hs];simp
   ·cases h
theorem Gw {α:Type}(f:α→Nat):∀(l:List α) (k:Nat),((l.take k).map f).sum≤(l.map f).sum
 |[],k=>by simp
 |x::l,0=>by simp
 |x::l,k+1=>by
  have:=Gw f l k;simp only [List.take_succ_cons,zF,zae];omega
theorem WF {w:Value}{l:List TField}(hx:RL TFieldV 2 I [] w l)(hl:(l.map λf=>f.fName.length+19).sum≤100000000000)(hk:∀I' X v,Ext I I'→OwB X v (DF l).1→K (.tuple #[v,.bool (DF l).2]) I' (X++L)):CT ω 93 #[w] K I L:=by
 have hln:l.length≤100000000000:=by
  have h:l.length≤(l.map λf=>f.fName.length+19).sum:=by
   clear hl hx hk;induction l with
   |nil=>simp
   |cons x l ih=>simp only [zF,zae,zi];omega
  omega
 refine AQi ?_;unfold APR;refine call (Ud (λbm es clock hm=>?_));simp only [zAK hx,SSd,Nat.reduceAdd];refine call (AIz _ 2 2 rfl zo (λX v hX=>?_));refine loop (λm st I' L'=>∃(k:Nat) (X':LH) (v':Value) (t:Bs),k+m=l.length∧st=(Value.slice none 0 0,Value.bool false,v',Value.int .i64 (k:Nat),())∧Ext I I'∧L'=X'++((bm,.map es clock)::L)∧Bl (l.take k)=some t∧OwB X' v' (beB l.length 2++t)) l.length ⟨0,X,v,[],by omega,rfl,zAC _,rfl,by simp [Bl],by simpa using hX⟩ ?_;rintro m st I' L' ⟨k,X',v',t,hkm,rfl,hI,rfl,ht,hX'⟩;unfold ADa;try refine zqe ?_
 have hbad:k < l.length→Bl l=none→K (.tuple #[.slice none 0 0,.bool false]) I' L:=by
  intro _ hn;have:=hk I' [] (.slice none 0 0) hI;simp only [DF,hn] at this;exact this (zAJ _ _)
 refine AL (λhb=>?_) (λhb=>?_)
 ·have hb:k < l.length:=by
   have:=of_decide_eq_true hb;omega
  obtain ⟨bt,off,c1,g1,gl,g2,g3⟩:=RL.ix hx (i:=k) zo zo;rw [BA hb] at g2;have g2:c1=_:=g2;subst g2;have hsplit:Bl l=match Bl (l.take k) with
   |none=>none
   |some s=>(Bl (l[k]::l.drop (k+1))).map (s++·):=by
   rw [←Me,←zab hb,zZ]
  rw [ht] at hsplit;simp only at hsplit
  have hf1:∀c,KI l[k].fType=some c→clB [l[k].fName]=true→Bl (l.take (k+1))=some (t++NC l[k] c):=by
   intro c h1 h2;rw [zf hb,Me,ht];simp [Bl,h1,h2]
  have htl:=JX ht;have hst:=Gw (λf:TField=>f.fName.length+19) l k;have hst1:=Gw (λf:TField=>f.fName.length+19) l (k+1);rw [zf hb,zaa,zaR] at hst1;simp only [zF,zal,zae,zaA] at hst1;generalize hf:l[k]=f at *;obtain ⟨fn,ft⟩:=f;simp only at *
  simp only [g1,SSd,Nat.reduceAdd];refine rdN rfl (g3 _ _ hI (λ_ h=>by cases h)) ?_;refine Ap (λbf=>?_);refine stB rfl rfl (AV rfl) ?_;try refine zqe ?_
  refine rdb ?_;refine ASA hm ?_;have hcm:AIm ft=(KI ft).map λc=>.agg #[.int .i64 c.1,.int .i64 c.2]:=rfl;rw [hcm];cases hc:KI ft with
  |none=>
   have hn:Bl l=none:=by rw [hsplit];simp [Bl,hc]
   simp only [Option.map_none,lkV,SSd,Nat.reduceAdd];refine Ap (λbc=>?_);refine stB rfl rfl (AV rfl) ?_;simp only [zak,SSd,Nat.reduceAdd];exact zAE L (zAA (hbad hb hn))
  |some c=>
   obtain ⟨c1,c2⟩:=c;simp only [Option.map_some,lkV,SSd,Nat.reduceAdd];refine Ap (λbc=>?_);refine stB rfl rfl (AV rfl) ?_;simp only [zB,SSd,Nat.reduceAdd];refine rdb ?_;refine DW [fn] rfl rfl (λI2 a hI2 hw2=>zAA ?_);refine call (KJ hw2 zy ?_);cases hcl:clB [fn] with
   |false=>
    have hn:Bl l=none:=by rw [hsplit];simp [Bl,hc,hcl]
    simp only [zak,SSd,Nat.reduceAdd];have:=hk I2 [] (.slice none 0 0) (zAB hI hI2);simp only [DF,hn] at this;exact zAE L (zAA (this (zAJ _ _)))
   |true=>
    simp only [zB,SSd,Nat.reduceAdd];refine rdb ?_;refine DW [fn] rfl rfl (λI3 a hI3 hw3=>zAA ?_);have hln2:(beB (l.length:Nat) 2++t).length≤100000000010:=by
     rw [zk,Ak];omega
    have htx:(txB [fn]).length=fn.length+1:=by rw [EH];simp
    refine call (AHY (X:=X') hX' hw3 zy zo (λX1 u1 hX1=>?_));refine call (Gu (X:=X1) hX1 0 4 4 rfl zo (by rw [zk];omega) (λX2 u2 hX2=>?_));refine call (Gu (X:=X2) hX2 0 2 2 rfl zo (by simp only [zk,Ak] at *; omega) (λX3 u3 hX3=>?_));refine WG [(bc,.cells [.int .i64 c1,.int .i64 c2].toArray 199 (0,0))] ?_;try refine zqe ?_
    refine BJ ?_;refine call (Gu (X:=X3) hX3 c1 4 4 rfl zo (by simp only [zk,Ak] at *; omega) (λX4 u4 hX4=>?_));refine BK (zAC _) ?_;try refine zqe ?_
    refine BJ ?_;refine call (Gu (X:=X4) hX4 c2 2 2 rfl zo (by simp only [zk,Ak] at *; omega) (λX5 u5 hX5=>?_));refine call (Gu (X:=X5) hX5 (-1) 4 4 rfl zo (by simp only [zk,Ak] at *; omega) (λX6 u6 hX6=>?_));refine call (Gu (X:=X6) hX6 0 2 2 rfl zo (by simp only [zk,Ak] at *; omega) (λX7 u7 hX7=>?_));simp only [wrap_i64 ((k:Int)+1) zo,SSd,Nat.reduceAdd];refine zAE (X7++((bm,.map es clock)::L)) (zAA ⟨m - 1,by omega,k+1,X7,u7,t++NC ⟨fn,ft⟩ (c1,c2),by omega,rfl,zAB hI (zAB hI2 hI3),rfl,hf1 _ hc hcl,?_⟩);have e:beB (l.length:Nat) 2++(t++NC ⟨fn,ft⟩ (c1,c2))=beB (l.length:Nat) 2++t++txB [fn]++beB 0 4++beB 0 2++beB c1 4++beB c2 2++beB (-1) 4++beB 0 2:=by
     simp only [NC,zt]
    rw [e];exact hX7
 ·have hb:¬k < l.length:=by
   have:=of_decide_eq_false hb;omega
  rw [zW zo] at ht;unfold ADZ;simp only [zAK hx,SSd,Nat.reduceAdd];have e:decide ((l.length:Int)≤1600)=decide (l.length≤1600):=by
   by_cases h:l.length≤1600
   ·rw [decide_eq_true h,decide_eq_true zo]
   ·rw [decide_eq_false h,decide_eq_false zo]
  have:=hk I' X' v' hI;simp only [DF,ht] at this;rw [e];exact zAE (X'++L) (zAA (this hX'))
end
section
variable {ω:Om}{I:Imm}{L F:LH}{K:Value→M}
theorem WO (c:TCell)(h:c.fNull=false∨c.fText=[]):(Au c).length=4+c.fText.length:=by
 unfold Au;split
 ·rename_i h1
  rcases h with h|h
  ·rw [h1] at h;cases h
  ·rw [h,Ak];rfl
 ·rw [zk,Ak]
theorem NG:∀{l:List TCell},(l.any λc=>c.fNull&&c.fText != [])=false→(l.flatMap Au).length=(l.map λc=>4+c.fText.length).sum
 |[],_=>rfl
 |c::l,h=>by
  simp only [List.any_cons,Bool.or_eq_false_iff] at h;rw [zaH,zk,NG h.2,WO c (by
   cases hn:c.fNull with
   |false=>exact .inl rfl
   |true=>
    have:=h.1;rw [hn,Bool.true_and] at this;right
    cases ht:c.fText with
    |nil=>rfl
    |cons x y=>rw [ht] at this;cases this)]
  simp
theorem YV {w:Value}{l:List TCell}{v:Value}(hx:RL TCellV 2 I [] w l)(hno:(l.any λc=>c.fNull&&c.fText != [])=false)(hl:BH l≤1073741824)(hnl:l.length≤100000000000)
  (hk:∀X v,OwB X v (beB l.length 2++l.flatMap Au)→K (.tuple #[v,.int .i64 (BH l:Nat),.bool true]) I (X++L)) (p2 p3 p4:Value):
  ∀(X:LH) (v:Value),OwB X v (beB l.length 2)→Aq ((v,(Value.int .i64 0),()):Value×Value×Unit) (λs Kn1=>Xd ω p2 p3 p4 (.int .i64 (BH l:Nat)) w (.int .i64 (l.length:Nat)) s.1 s.2.1 Kn1 (λv=>Gh (K v))) I (X++L):=by
 intro X v hX;refine loop (λm st I' L'=>∃(k:Nat) (X':LH) (v':Value),k+m=l.length∧st=(v',Value.int .i64 (k:Nat),())∧I'=I∧L'=X'++L∧OwB X' v' (beB l.length 2++(l.take k).flatMap Au)) l.length ⟨0,X,v,by omega,rfl,rfl,rfl,by simpa using hX⟩ ?_;rintro m st I' L' ⟨k,X',v',hkm,rfl,rfl,rfl,hX'⟩;unfold Xd;try refine zqe ?_
 refine AL (λhb=>?_) (λhb=>?_)
 ·have hb:k < l.length:=by
   have:=of_decide_eq_true hb;omega
  obtain ⟨bt,off,c1,g1,gl,g2,g3⟩:=RL.ix hx (i:=k) zo zo;rw [BA hb] at g2;have g2:c1=_:=g2;subst g2;have et:(l.take (k+1)).flatMap Au=(l.take k).flatMap Au++Au l[k]:=by
   rw [zf hb,zbx];simp
  have hno1:∀j,((l.take j).any λc=>c.fNull&&c.fText != [])=false:=λj=>by
   have h:=hno;rw [←zZ j l,List.any_append,Bool.or_eq_false_iff] at h;exact h.1
  have hlk:=NG (hno1 (k+1));have hst:=Gw (λc:TCell=>4+c.fText.length) l (k+1);rw [et,zk] at hlk;unfold BH at hl;have hcl:(Au l[k]).length=4+l[k].fText.length∨l[k].fNull=true:=by
   cases h:l[k].fNull with
   |true=>exact .inr rfl
   |false=>exact .inl (WO _ (.inl h))
  generalize hf:l[k]=f at *;obtain ⟨cn,ct⟩:=f;simp only at *
  have hnext:∀X2 u2,OwB X2 u2 (beB l.length 2++(l.take k).flatMap Au++Au ⟨cn,ct⟩)→∃m',m' < m∧∃(k':Nat) (X'':LH) (v'':Value),k'+m'=l.length∧(u2,Value.int .i64 ((k:Int)+1),())=(v'',Value.int .i64 (k':Nat),())∧I'=I'∧X2++L=X''++L∧OwB X'' v'' (beB l.length 2++(l.take k').flatMap Au):=by
   intro X2 u2 h;exact ⟨m - 1,by omega,k+1,X2,u2,by omega,rfl,rfl,rfl,by rw [et,←zt];exact h⟩
  simp only [g1,SSd,Nat.reduceAdd];refine rdN rfl (g3 _ _ (zAC _) (λ_ h=>by cases h)) ?_;refine Ap (λbf=>?_);refine stB rfl rfl (AV rfl) ?_;try refine zqe ?_
  refine rdb ?_;cases cn with
  |true=>
   try refine zqe ?_
   unfold ADW TC;refine call (Gu (X:=X') hX' (-1) 4 4 rfl zo (by rw [zk,Ak];omega) (λX1 u1 hX1=>?_));simp only [wrap_i64 ((k:Int)+1) zo,SSd,Nat.reduceAdd];exact zAE (X1++L) (zAA (hnext X1 u1 hX1))
  |false=>
   have hcl:(Au ⟨false,ct⟩).length=4+ct.length:=hcl.resolve_right zy;try refine zqe ?_
   unfold Yn;refine WG [(bf,.cells [.bool false,.string ⟨ct.toArray⟩].toArray 113 (0,0))] ?_;try refine zqe ?_
   refine BJ ?_;try refine zqe ?_
   refine call (Gu (X:=X') hX' ct.length 4 4 rfl zo (by rw [zk,Ak];omega) (λX1 u1 hX1=>?_));refine BK (zAC _) ?_;try refine zqe ?_
   refine BJ ?_;refine BL (X:=X1) (n:=1) (m:=ct.length) rfl hX1 (news:=Lib.byteCells ct) (.inr (.inr ⟨⟨ct.toArray⟩,rfl,rfl,rfl,rfl⟩)) (λu hu=>?_) (by simp only [zk,Ak];omega) (by simp only [zk,Ak];omega) (λX2 u2 hX2=>?_)
   ·obtain ⟨d,_,rfl⟩:=zaf.1 hu;rfl
   unfold TC;simp only [wrap_i64 ((k:Int)+1) zo,SSd,Nat.reduceAdd];refine zAE (X2++L) (zAA (hnext X2 u2 ?_));have e:beB (l.length:Nat) 2++(l.take k).flatMap Au++Au ⟨false,ct⟩=beB (l.length:Nat) 2++(l.take k).flatMap Au++beB ct.length 4++ct:=by
    simp [Au]
   rw [e];exact OwB.mk hX2
 ·have hb:¬k < l.length:=by
   have:=of_decide_eq_false hb;omega
  rw [zW zo] at hX';exact zAA (hk X' v' hX')
theorem YU {w:Value}{l:List TCell}(hx:RL TCellV 2 I [] w l)(hl:BH l≤100000000000)(hk:∀X v,OwB X v (CE l).1→K (.tuple #[v,.int .i64 (CE l).2.1,.bool (CE l).2.2]) I (X++L)):CT ω 94 #[w] K I L:=by
 have hln:l.length≤100000000000:=by
  have h:l.length≤(l.map λc=>4+c.fText.length).sum:=by
   clear hl hx hk;induction l with
   |nil=>simp
   |cons x l ih=>simp only [zF,zae,zi];omega
  unfold BH at hl;omega
 refine AQh ?_;unfold APQ;simp only [zAK hx,SSd,Nat.reduceAdd];refine loop (λm st I' L'=>∃(k:Nat),k+m=l.length∧st=(Value.slice none 0 0,Value.int .i64 0,Value.bool false,Value.int .i64 (BH (l.take k):Nat),Value.int .i64 (k:Nat),())∧I'=I∧L'=L∧((l.take k).any λc=>c.fNull&&c.fText != [])=false) l.length ⟨0,by omega,rfl,rfl,rfl,rfl⟩ ?_;rintro m st I' L' ⟨k,hkm,rfl,rfl,rfl,hno⟩;unfold ADY;try refine zqe ?_
 refine AL (λhb=>?_) (λhb=>?_)
 ·have hb:k < l.length:=by
   have:=of_decide_eq_true hb;omega
  obtain ⟨bt,off,c1,g1,gl,g2,g3⟩:=RL.ix hx (i:=k) zo zo;rw [BA hb] at g2;have g2:c1=_:=g2;subst g2;have en:BH (l.take (k+1))=BH (l.take k)+(4+l[k].fText.length):=by
   unfold BH;rw [zf hb,zaa,zaR];simp only [zF,zal,zae,zaA];omega
  have hst:=Gw (λc:TCell=>4+c.fText.length) l (k+1);have hle:BH (l.take (k+1))≤BH l:=by unfold BH;omega
  have hany:((l.take (k+1)).any λc=>c.fNull&&c.fText != [])=(l[k].fNull&&l[k].fText != []):=by
   rw [zf hb,List.any_append,hno];simp
  have hall:(l[k].fNull&&l[k].fText != [])=true→(l.any λc=>c.fNull&&c.fText != [])=true:=λh=>List.any_eq_true.2 ⟨l[k],zar hb,h⟩;generalize hf:l[k]=f at *;obtain ⟨cn,ct⟩:=f;simp only at *
  simp only [g1,SSd,Nat.reduceAdd];refine rdN rfl (g3 _ _ (zAC _) (λ_ h=>by cases h)) ?_;refine Ap (λbf=>?_);refine stB rfl rfl (AV rfl) ?_;try refine zqe ?_
  refine rdb ?_;have e0:BB .neq (.string ⟨ct.toArray⟩) (.string ⟨#[]⟩)=some (.bool (!(ct==[]))):=sNe ct [];have hnext:((l.take (k+1)).any λc=>c.fNull&&c.fText != [])=false→∃m',m' < m∧∃(k':Nat),k'+m'=l.length∧(Value.slice none 0 0,Value.int .i64 0,Value.bool false,Value.int .i64 ((BH (l.take k):Int)+(4+ct.length)),Value.int .i64 ((k:Int)+1),())=(Value.slice none 0 0,Value.int .i64 0,Value.bool false,Value.int .i64 (BH (l.take k'):Nat),Value.int .i64 (k':Nat),())∧I'=I'∧L'=L'∧((l.take k').any λc=>c.fNull&&c.fText != [])=false:=by
   intro h;exact ⟨m - 1,by omega,k+1,by omega,by rw [en];simp,rfl,rfl,h⟩
  have w1:IntKind.i64.wrap (4+(ct.length:Int))=4+ct.length:=wrap_i64 _ zo;have w2:IntKind.i64.wrap ((BH (l.take k):Int)+(4+ct.length))=(BH (l.take k):Int)+(4+ct.length):=wrap_i64 _ zo;cases cn with
  |true=>
   try refine zqe ?_
   refine rdb ?_;simp only [e0,SSd,Nat.reduceAdd];cases he:(ct==[]) with
   |true=>
    simp only [zB,SSd,Nat.reduceAdd];refine rdb ?_;simp only [w1,w2,wrap_i64 ((k:Int)+1) zo,SSd,Nat.reduceAdd];have hct:ct=[]:=by simpa using he
    refine zAE L' (zAA (hnext ?_));rw [hany,hct];rfl
   |false=>
    simp only [zak,SSd,Nat.reduceAdd];have h1:(l.any λc=>c.fNull&&c.fText != [])=true:=hall (by simp only [bne,he];rfl);have:=hk [] (.slice none 0 0);simp only [CE,h1,if_true] at this;exact zAE L' (zAA (this (zAJ _ _)))
  |false=>
   try refine zqe ?_
   refine rdb ?_;simp only [w1,w2,wrap_i64 ((k:Int)+1) zo,SSd,Nat.reduceAdd];exact zAE L' (zAA (hnext (by rw [hany];rfl)))
 ·have hb:¬k < l.length:=by
   have:=of_decide_eq_false hb;omega
  rw [zW zo] at hno ⊢;unfold ADX;unfold CE at hk;rw [if_neg (by rw [hno];decide)] at hk;have hout:(1073741824 < BH l+4∨1600 < l.length)→TE ω w (.slice none 0 0) (.int .i64 0) (.bool false) (.int .i64 (BH l:Nat)) (λv=>Gh (K v)) I' L':=by
   intro h;rw [if_pos h] at hk;unfold TE;simp only [zAK hx,SSd,Nat.reduceAdd];have e:decide ((l.length:Int)≤1600)=decide (l.length≤1600):=by
    by_cases h:l.length≤1600
    ·rw [decide_eq_true h,decide_eq_true zo]
    ·rw [decide_eq_false h,decide_eq_false zo]
   rw [e];exact zAA (hk [] _ (zAJ _ _))
  simp only [wrap_i64 ((BH l:Int)+4) zo,SSd,Nat.reduceAdd];refine BX (λhb1=>?_) (λhb1=>?_)
  ·have hb1:¬(1073741824:Int) < (BH l:Int)+4:=of_decide_eq_false (by simpa using hb1);simp only [zAK hx,SSd,Nat.reduceAdd];refine AL (λhb2=>?_) (λhb2=>?_)
   ·exact hout (.inr (by have:=of_decide_eq_true hb2;omega))
   ·have hb2:=of_decide_eq_false hb2;rw [if_neg zo] at hk;refine call (AIz _ 2 2 rfl zo (λX v hX=>?_));exact YV (v:=v) hx hno zo hln hk _ _ _ X v hX
  ·have hb1:(1073741824:Int) < (BH l:Int)+4:=by simpa using hb1
   exact hout (.inl zo)
end
section
variable {ω:Om}{I:Imm}{L F:LH}{K:Value→M}
theorem YC {x y:TBack}{cx cy:List Value}(hx:TBackV I x cx)(hy:TBackV I y cy)(hk:K (.bool (Jc x y)) I L):CT ω 98 #[.agg cx.toArray,.agg cy.toArray] K I L:=by
 obtain ⟨v0,v1,rfl,h0,h1⟩:=hx;obtain ⟨w0,w1,rfl,g0,g1⟩:=hy;refine AQd ?_;unfold APM;have hs:Jc x y=(x.fKind==y.fKind&&(x.fName==y.fName&&(x.fText==y.fText&&(x.fPid==y.fPid&&(x.fSecret==y.fSecret&&(x.fStatus==y.fStatus&&(x.fState==y.fState&&(x.fFatal==y.fFatal&&(x.fFields.length==y.fFields.length&&x.fCells.length==y.fCells.length))))))))):=by
  unfold Jc;simp only [Bool.and_assoc]
 rw [hs] at hk;have l0:=zAK h0;have l1:=zAK h1;have m0:=zAK g0;have m1:=zAK g1;have en:∀a b:Nat,((a:Int)==(b:Int))=(a==b):=λa b=>by
  by_cases h:a=b
  ·subst h;simp
  ·rw [beq_false_of_ne h,beq_false_of_ne zo]
 try refine zqe ?_
 refine Ap (λb1=>?_);try refine zqe ?_
 refine Ap (λb2=>?_);repeat' first
  |(with_reducible refine rdb ?_)
  |(with_reducible refine BX (λhb=>?_) (λhb=>?_))
  |(simp only [l0,l1,m0,m1,en,SSd,Nat.reduceAdd])
 all_goals first
  |(refine zAE L (zAA ?_);simp_all;done)
  |skip
 all_goals (refine zAE L (zAA (AQY hk ?_));simp_all)
theorem ABX (k:Nat)(hk10:k < 10)(hk:K (.int .u8 (tagsW.getD k 0).toNat) I L):CT ω 100 #[.int .i64 (k:Nat)] K I L:=by
 refine AOw ?_;unfold ALC;have e:Ei (.string ⟨tagsW.toArray⟩) (.int .i64 (k:Nat))=some (.int .u8 (tagsW.getD k 0).toNat):=by
  have hlt:k < tagsW.length:=hk10;rw [ixS tagsW (zam hlt),List.getD_eq_getElem?_getD,zam hlt];rfl
 show Pv (Ei (.string ⟨tagsW.toArray⟩) _) _ _ _;rw [e];exact zAA hk
theorem WJ {w:Value}{ls:List Bs}(hx:RL ASM 1 I [] w ls)(hn:ls.length≤1000)(hl:ls.flatten.length≤1000000000000)(hk:∀X v,OwB X v ls.flatten→K v I (X++L)):CT ω 99 #[w] K I L:=by
 refine AQc ?_;unfold APL;simp only [zAK hx,SSd,Nat.reduceAdd];have hstep:∀k (hk:k < ls.length),(ls.take (k+1)).flatten=(ls.take k).flatten++ls[k]:=λk hk=>by
  rw [zf hk,List.flatten_append];simp
 have hle:∀k,(ls.take k).flatten.length≤ls.flatten.length:=λk=>by
  have h:ls.flatten=(ls.take k).flatten++(ls.drop k).flatten:=by rw [←List.flatten_append,zZ]
  rw [h,zk];omega
 refine loop (λm st I' L'=>∃k:Nat,k+m=ls.length∧st=(Value.int .i64 ((ls.take k).flatten.length:Nat),Value.int .i64 (k:Nat),())∧I'=I∧L'=L) ls.length ⟨0,by omega,rfl,rfl,rfl⟩ ?_;rintro m st I' L' ⟨k,hkm,rfl,rfl,rfl⟩;unfold ADU;try refine zqe ?_
 refine AL (λhb=>?_) (λhb=>?_)
 ·have hb:k < ls.length:=by
   have:=of_decide_eq_true hb;omega
  obtain ⟨bt,off,c1,g1,gl,g2,g3⟩:=RL.ix hx (i:=k) zo zo;rw [BA hb] at g2;obtain ⟨u,rfl,hu⟩:=g2;have h1:=hle (k+1);have h2:=hstep k hb;rw [h2,zk] at h1;simp only [g1,SSd,Nat.reduceAdd];refine rd1 (g3 _ _ (zAC _) (λ_ h=>by cases h) 0 _ rfl) ?_;have hneg:decide (((((ls.take k).flatten.length:Nat):Int)+(ls[k].length:Nat)) < 0)=false:=decide_eq_false zo;simp only [hu.len,wrap_i64 ((((ls.take k).flatten.length:Nat):Int)+(ls[k].length:Nat)) zo,hneg,SSd,Nat.reduceAdd];unfold ADT;simp only [wrap_i64 ((k:Int)+1) zo,SSd,Nat.reduceAdd];exact zAA ⟨m - 1,by omega,k+1,by omega,by rw [h2,zk];simp,rfl,rfl⟩
 have hb:¬k < ls.length:=by
  have:=of_decide_eq_false hb;omega
 rw [zW zo];unfold ADS;refine call ?_;have hgrow:∀(n:Nat) (K:Value→M),n≤1000000000000→(∀X v,OwB X v []→K v I' (X++L'))→CT ω 122 #[.slice none 0 0,.int .i64 (n:Nat)] K I' L':=by
  intro n K hn hk;refine AOf ?_;unfold AKm;have hneg:decide (((n:Nat):Int) < 0)=false:=decide_eq_false zo;simp only [hneg,SSd,Nat.reduceAdd];unfold AAT;have e1:IntKind.i64.wrap (((0:Nat):Int) - ((0:Nat):Int))=0:=rfl;have e2:IntKind.i64.wrap (((n:Nat):Int) - 0)=(n:Nat):=by rw [wrap_i64 _ zo];omega
  simp only [YW,Dx,e1,e2,SSd,Nat.reduceAdd];refine AL (λhb=>?_) (λhb=>?_)
  ·have e3:Bi 1 (.slice none 0 0) none (some (.int .i64 ((0:Nat):Int))) none=some (.slice none 0 0):=rfl;simp only [e3,SSd,Nat.reduceAdd];refine ⟨none,0,0,n,rfl,rfl,AV rfl,by omega,by omega,.inr (.inr ⟨by have:=of_decide_eq_true hb;omega,by omega,by omega,[],L',.inl ⟨none,0,rfl,rfl,rfl⟩,List.Sublist.refl _,λb c hc=>?_⟩)⟩;have e4:Bi 1 (.slice (some ⟨b,0,none⟩) n c) none (some (.int .i64 ((0:Nat):Int))) none=some (.slice (some ⟨b,0,none⟩) 0 c):=by
    simp [Bi,DJ,Addr.add]
   refine zAA ?_;simp only [e4,SSd,Nat.reduceAdd];refine zAA (hk [(b,_)] _ ⟨rfl,.inr ⟨b,c,_,rfl,rfl,?_,zao _,λj u hu=>by cases hu⟩⟩);simp only [Array.size_append,EQ];show 0+n * 1+(c - n) * 1=c * 1;omega
  ·exact zAA (hk [] _ (zAJ _ _))
 refine hgrow _ _ hl (λX v hX=>?_);simp only [zAK hx,SSd,Nat.reduceAdd];refine loop (λm st I2 L2=>∃(k:Nat) (X':LH) (v':Value),k+m=ls.length∧st=(v',Value.int .i64 (k:Nat),())∧I2=I'∧L2=X'++L'∧OwB X' v' (ls.take k).flatten) ls.length ⟨0,X,v,by omega,rfl,rfl,rfl,by simpa using hX⟩ ?_;rintro m st I2 L2 ⟨k,X',v',hkm,rfl,rfl,rfl,hX'⟩;unfold ADR;try refine zqe ?_
 refine AL (λhb=>?_) (λhb=>?_)
 ·have hb:k < ls.length:=by
   have:=of_decide_eq_true hb;omega
  obtain ⟨bt,off,c1,g1,gl,g2,g3⟩:=RL.ix hx (i:=k) zo zo;rw [BA hb] at g2;obtain ⟨u,rfl,hu⟩:=g2;have h1:=hle (k+1);have h2:=hstep k hb;rw [h2,zk] at h1;simp only [g1,SSd,Nat.reduceAdd];refine rd1 (g3 _ _ (zAC _) (λ_ h=>by cases h) 0 _ rfl) ?_;refine BL (X:=X') (n:=1) (m:=ls[k].length) rfl hX' (news:=Lib.byteCells ls[k]) (SlI.news hu) (λu hu=>?_) zo zo (λX2 u2 hX2=>?_)
  ·obtain ⟨d,_,rfl⟩:=zaf.1 hu;rfl
  simp only [wrap_i64 ((k:Int)+1) zo,SSd,Nat.reduceAdd];exact zAA ⟨m - 1,by omega,k+1,X2,u2,by omega,rfl,rfl,rfl,by rw [h2];exact OwB.mk hX2⟩
 ·have hb:¬k < ls.length:=by
   have:=of_decide_eq_false hb;omega
  rw [zW zo] at hX';exact zAA (hk X' v' hX')
end
theorem AQW {I:Imm}{L:LH}{K:Value→M}{o:Obj}(o':Obj)(e:o=o')(h:∀b,K (.pointer (some ⟨b,0,none⟩)) I ((b,o')::L)):New o (SL.gh K) I L:=by subst e;exact Ap h
def AsP (l:List Value)(cs:Bs):Prop:=l.length=256∧∀i,i < 256→l[i]? =some (.bool (cs.any λc=>c.toNat==i))
abbrev AsO (l:List Value):Obj:=.cells l.toArray 232 (0,0)
def as0:List Value:=List.replicate 256 (.bool false)
theorem AFh (b:Nat)(c:UInt8):MZ 1 256 (.pointer (some ⟨b,0,none⟩)) (.int .u8 c.toNat)=some (.pointer (some ⟨b,c.toNat,none⟩)):=by
 have:=c.toNat_lt;have h2:((c.toNat:Int) < 256):=by omega
 simp [MZ,h2,Addr.add]
theorem AsP.one {l:List Value}{cs:Bs}(h:AsP l cs):∀u∈l,u.oneCell'=true:=λu hu=>by
 obtain ⟨i,hi⟩:=List.getElem?_of_mem hu;have hlt:=(zaj.1 hi).1;have:=h.2 i (by rw [←h.1];exact hlt);rw [hi] at this;simp only [zn] at this;subst this;rfl
section
variable {ω:Om}{I:Imm}{L:LH}{K:Value→M}
theorem BV {b n T:Nat}{l:List Value}{fr:Nat×Nat}[h:InL b L (.cells l.toArray T fr)](hl:l.length=n)(hk:K (.agg l.toArray) I L):Rv none (AB n (.pointer (some ⟨b,0,none⟩))) K I L:=rdB hl hk
theorem Yb (cs:Bs)(h7:cs.all (· < 128)=true)(hn:cs.length≤1000000)(hk:∀l,AsP l cs→K (.tuple #[.agg l.toArray,.bool true]) I L):CT ω 144 #[.string ⟨cs.toArray⟩] K I L:=by
 refine AOX ?_;unfold AKe;refine AQW (AsO as0) (by kernel_rfl) (λb=>?_);have h0:AsP as0 (cs.take 0):=⟨by simp [as0],λi hi=>by unfold as0;rw [List.getElem?_replicate_of_lt hi];rfl⟩;refine loop (λm st I' L'=>∃(k:Nat) (l:List Value),k+m=cs.length∧st=(Value.bool false,Value.int .i64 (k:Nat),())∧I'=I∧L'=(b,AsO l)::L∧AsP l (cs.take k)) cs.length ⟨0,as0,by omega,rfl,rfl,rfl,h0⟩ ?_;rintro m st I' L' ⟨k,l,hkm,rfl,rfl,rfl,hl⟩;unfold AAN;try refine zqe ?_
 refine AL (λhb=>?_) (λhb=>?_)
 ·have hb:k < cs.length:=by
   have:=of_decide_eq_true hb;omega
  have hc:cs[k]? =some cs[k]:=zam hb;have h8:¬((128:Int)≤(cs[k].toNat:Nat)):=by
   have:=zas.1 h7 cs[k] (zar hb);have:cs[k] < 128:=by simpa using this
   have:cs[k].toNat < 128:=by simpa [UInt8.lt_iff_toNat_lt] using this
   omega
  simp only [ixS cs hc,decide_eq_false h8,AFh,wrap_i64 ((k:Int)+1) zo,SSd,Nat.reduceAdd];have hlt:cs[k].toNat < l.length:=by rw [hl.1];exact cs[k].toNat_lt
  refine st1 (g:=⟨rfl,hlt⟩) rfl ?_;refine zAA ⟨m - 1,by omega,k+1,_,by omega,rfl,rfl,rfl,by simpa using hl.1,λi hi=>?_⟩;rw [zf hb,List.any_append,List.getElem?_set];by_cases he:cs[k].toNat=i
  ·rw [if_pos he,if_pos hlt];subst he;simp
  ·rw [if_neg he,hl.2 i hi];simp [he]
 ·have hb:¬k < cs.length:=by
   have:=of_decide_eq_false hb;omega
  rw [zW zo] at hl;unfold AAM;refine BV hl.1 ?_;refine stB hl.1 hl.1 hl.one ?_;refine BV hl.1 ?_;exact zAE L (zAA (hk l hl))
theorem Vq {b:Nat}{l:List Value}{cs:Bs}[h:InL b L (AsO l)](hl:AsP l cs)(c:UInt8)(hk:K (.bool (cs.any (·==c))) I L):CT ω 178 #[.pointer (some ⟨b,0,none⟩),.int .u8 c.toNat] K I L:=by
 refine AOO ?_;unfold AKW;simp only [AFh,SSd,Nat.reduceAdd];have e:(cs.any λd=>d.toNat==c.toNat)=cs.any (·==c):=by
  congr 1;funext d
  by_cases hd:d=c
  ·subst hd;simp
  ·have:¬d.toNat=c.toNat:=λh=>hd (UInt8.toNat_inj.1 h);rw [beq_false_of_ne this,beq_false_of_ne hd]
 refine rdb (g:=⟨hl.2 c.toNat c.toNat_lt⟩) ?_;rw [e];exact zAA hk
theorem XQ {b:Nat}{l:List Value}{cs:Bs}[h:InL b L (AsO l)](hl:AsP l cs)(s:Bs)(hn:s.length≤1000000000000)(hk:∀k,k≤s.length→(s.drop k).all (λc=>cs.any (·==c))=true→K (.string ⟨(s.take k).toArray⟩) I L):CT ω 146 #[.string ⟨s.toArray⟩,.pointer (some ⟨b,0,none⟩)] K I L:=by
 refine AOV ?_;unfold AKc;refine loop (λm st I' L'=>m≤s.length∧st=(Value.string ⟨(s.take m).toArray⟩,())∧I'=I∧L'=L∧(s.drop m).all (λc=>cs.any (·==c))=true) s.length ⟨zh _,by rw [List.take_length],rfl,rfl,by simp⟩ ?_;rintro m st I' L' ⟨hm,rfl,rfl,rfl,hd⟩;unfold AAK;have hlen:(s.take m).length=m:=by rw [zai];omega
 simp only [hlen,SSd,Nat.reduceAdd];refine AL (λhb=>?_) (λhb=>?_)
 ·obtain ⟨q,rfl⟩:∃q,m=q+1:=⟨m - 1,by have:=of_decide_eq_true hb;omega⟩;have hq:q < s.length:=by omega
  have hc:(s.take (q+1))[q]? =some s[q]:=by rw [List.getElem?_take_of_lt zo];exact zam hq
  have ew:IntKind.i64.wrap (((q+1:Nat):Int) - 1)=(q:Nat):=by rw [wrap_i64 _ zo];omega
  simp only [ew,ixS _ hc,SSd,Nat.reduceAdd];refine call (Vq hl s[q] ?_);try refine zqe ?_
  refine AL (λhb2=>?_) (λhb2=>?_)
  ·exact zAA (hk _ hm hd)
  ·have e1:(s.take (q+1)).take q=s.take q:=by rw [List.take_take];congr 1;omega
   simp only [hlen,ew,ALt (s.take (q+1)) (b:=q) zo,e1,SSd,Nat.reduceAdd];refine zAA ⟨q,by omega,by omega,rfl,rfl,rfl,?_⟩;rw [zab hq,zbg,hd];have:(cs.any (·==s[q]))=true:=by simpa using hb2
   rw [this];rfl
 ·exact zAA (hk _ hm hd)
theorem XR {b:Nat}{l:List Value}{cs:Bs}[h:InL b L (AsO l)](hl:AsP l cs)(s:Bs)(hn:s.length≤1000000000000)(hk:∀t,(t==[])=s.all (λc=>cs.any (·==c))→K (.string ⟨t.toArray⟩) I L):CT ω 145 #[.string ⟨s.toArray⟩,.pointer (some ⟨b,0,none⟩)] K I L:=by
 refine AOW ?_;unfold AKd;refine loop (λm st I' L'=>∃k,k+m=s.length∧st=(Value.string ⟨(s.drop k).toArray⟩,())∧I'=I∧L'=L∧(s.take k).all (λc=>cs.any (·==c))=true) s.length ⟨0,by omega,rfl,rfl,rfl,rfl⟩ ?_;rintro m st I' L' ⟨k,hk2,rfl,rfl,rfl,hd⟩;unfold AAL;have hlen:(s.drop k).length=m:=by rw [zaq];omega
 simp only [hlen,SSd,Nat.reduceAdd];have hsp:s.all (λc=>cs.any (·==c))=(s.drop k).all (λc=>cs.any (·==c)):=by
  conv=>lhs;rw [←zZ k s]
  rw [zbc,hd];rfl
 refine AL (λhb=>?_) (λhb=>?_)
 ·have hq:k < s.length:=by have:=of_decide_eq_true hb;omega
  have ed:=zab hq;have hc:(s.drop k)[0]? =some s[k]:=by rw [ed];rfl
  simp only [show (Value.int .i64 0)= .int .i64 ((0:Nat):Int) from rfl,ixS _ hc,SSd,Nat.reduceAdd];refine call (Vq hl s[k] ?_);try refine zqe ?_
  refine AL (λhb2=>?_) (λhb2=>?_)
  ·have hb2:(cs.any (·==s[k]))=false:=by simpa using hb2
   refine zAA (hk _ ?_);rw [hsp,ed,zbg,hb2];rfl
  ·have hb2:(cs.any (·==s[k]))=true:=by simpa using hb2
   have e1:(s.drop k).drop 1=s.drop (k+1):=by rw [zbs]
   simp only [show (Value.int .i64 1)= .int .i64 ((1:Nat):Int) from rfl,VB (s.drop k) (a:=1) zo,e1,SSd,Nat.reduceAdd];refine zAA ⟨m - 1,by omega,k+1,by omega,rfl,rfl,rfl,?_⟩;rw [zf hq,zbc,hd];simpa using hb2
 ·have hm:m=0:=by have:=of_decide_eq_false hb;omega
  have e0:s.drop k=[]:=zG zo;rw [e0] at hsp ⊢;exact zAA (hk [] (by rw [hsp];rfl))
def stSet:Bs:=[48,49,50,51,52,53,54,55,56,57,65,66,67,68,69,70,71,72,73,74,75,76,77,78,79,80,81,82,83,84,85,86,87,88,89,90]
theorem ADM (c:UInt8):stSet.any (·==c)=ABb c:=by
 have:=EX (p:=λc=>(stSet.any (·==c)==ABb c)) zq c;exact eq_of_beq this
theorem NM (s:Bs)(hn:s.length≤1000000000000)(hk:K (.bool (Dq s)) I L):CT ω 97 #[.string ⟨s.toArray⟩] K I L:=by
 refine AQe ?_;unfold APN;try refine zqe ?_
 refine BX (λhb=>?_) (λhb=>?_)
 ·have h5:s.length=5:=by have:=eq_of_beq hb;omega
  refine call ?_;refine AOg ?_;unfold AKn;have hne:(s==[])=false:=by
   cases s with
   |nil=>cases h5
   |cons a s=>rfl
  show (Pv (BB .eql (.string ⟨s.toArray⟩) (.string ⟨([]:Bs).toArray⟩)) _) _ _;simp only [sEq,hne,SSd,Nat.reduceAdd];simp only [show (([48,49,50,51,52,53,54,55,56,57,65,66,67,68,69,70,71,72,73,74,75,76,77,78,79,80,81,82,83,84,85,86,87,88,89,90]:Bs)==[])=false from rfl,show ((([48,49,50,51,52,53,54,55,56,57,65,66,67,68,69,70,71,72,73,74,75,76,77,78,79,80,81,82,83,84,85,86,87,88,89,90]:Bs).length:Int)==1)=false from rfl,SSd,Nat.reduceAdd];refine call ?_;show Cal _ _ _ #[.string ⟨stSet.toArray⟩] _ _ _;refine Yb stSet zq zx (λl hl=>?_);try refine zqe ?_
  refine AQW (AsO as0) (by kernel_rfl) (λb=>?_);refine stB hl.1 rfl hl.one ?_;try refine zqe ?_
  unfold Tz;refine call (XQ hl s hn (λk hk1 hk2=>?_));refine call (XR hl (s.take k) (by rw [zai];omega) (λt ht=>?_));have e:(t==[])=s.all ABb:=by
   rw [ht];conv=>rhs;rw [←zZ k s]
   rw [zbc];simp only [ADM] at hk2 ⊢;rw [hk2,Bool.and_true]
  have ek:Dq s=(t==[]):=by
   unfold Dq;rw [e,h5];rfl
  rw [ek] at hk;have e0:BB .eql (.string ⟨t.toArray⟩) (.string ⟨#[]⟩)=some (.bool (t==[])):=sEq t [];simp only [e0,SSd,Nat.reduceAdd];exact zAE L (zAA (zAA hk))
 ·have h5:(s.length==5)=false:=by
   have:((s.length:Int))≠5:=λh=>hb (by rw [h];rfl);exact beq_false_of_ne zo
  unfold Dq at hk;rw [h5] at hk;exact zAA hk
end
abbrev BkO (c:List Value):Obj:=.cells c.toArray 49 (0,0)
def Di (m:TBack):Nat:=m.fName.length+m.fText.length+m.fState.length+(m.fFields.map λf=>f.fName.length+19).sum+BH m.fCells
section
variable {ω:Om}{I:Imm}{L F:LH}{K:Value→M}{m:TBack}{bm bo:Nat}{cm co:List Value}{p2 p3 p5 p6 p7:Value}
theorem Qq {o:TBack}{body:Bs}{long:Int}{may:Bool}{X:LH}{v:Value}(ht:Am m=(o,body,long,may))(hm:TBackV I m cm)(ho:TBackV I o co)(hX:OwB X v body)(hsz:body.length≤100000000100)(hlong:0≤long∧long≤100000000100)(hkind:0≤m.fKind)
  (hk:∀I' X v,Ext I I'→OwB X v (Bq m).1→K (.tuple #[v,.int .i64 (Bq m).2]) I' (X++F)):
  AZ ω (.pointer (some ⟨bm,0,none⟩)) p2 p3 (.pointer (some ⟨bo,0,none⟩)) v (.bool may) (.int .i64 long) (λv=>Gh (K v)) I (X++((bo,BkO co)::(bm,BkO cm)::F)):=by
 have hcm:=hm.len;have hco:=ho.len;unfold AZ;unfold Bq at hk;simp only [ht] at hk;have bad:(!may|| !Jc o m)=true→K (.tuple #[.slice none 0 0,.int .i64 230]) I F:=by
  intro h;have:=hk I [] (.slice none 0 0) (zAC _);rw [if_pos h] at this;exact this (zAJ _ _)
 cases may with
 |false=>
  simp only [zak,SSd,Nat.reduceAdd];exact zAE F (zAA (bad rfl))
 |true=>
 simp only [zB,SSd,Nat.reduceAdd];refine BV hco ?_;refine BV hcm ?_;refine call (YC ho hm ?_);cases hs:Jc o m with
 |false=>
  simp only [zak,SSd,Nat.reduceAdd];exact zAE F (zAA (bad (by rw [hs];rfl)))
 |true=>
 simp only [hs,zB,Bool.or_self,zl,if_false] at hk;simp only [zB,SSd,Nat.reduceAdd];unfold ADk;obtain ⟨v0,v1,rfl,h0,h1⟩:=hm;try refine zqe ?_
 refine rdb ?_;try refine zqe ?_
 by_cases h10:(m.fKind==10)=true
 ·rw [if_pos h10] at hk;simp only [h10,SSd,Nat.reduceAdd];refine Bh (v:=.int .u8 78) rfl zx rfl (λX1 u hX1=>?_);exact zAE (X1++F) (zAA (hk I X1 u (zAC _) hX1))
 rw [if_neg h10] at hk;simp only [zg.2 h10,SSd,Nat.reduceAdd];obtain ⟨a,k,rfl⟩:=hX.form;have hmax:(if ((body.length:Nat):Int) > long then ((body.length:Nat):Int) else long)=max long (body.length:Int):=by
  split <;> omega
 simp only [Dx,hmax,wrap_i64 (max long (body.length:Int)+4) zo,SSd,Nat.reduceAdd];by_cases hlg:(1073741824:Int) < max long (body.length:Int)+4
 ·rw [if_pos hlg] at hk;simp only [decide_eq_true hlg,SSd,Nat.reduceAdd];exact zAE F (zAA (hk I [] _ (zAC _) (zAJ _ _)))
 rw [if_neg hlg] at hk;simp only [decide_eq_false hlg,SSd,Nat.reduceAdd];refine rdb ?_;obtain ⟨kk,hkk⟩:∃kk:Nat,m.fKind=kk:=⟨m.fKind.toNat,by omega⟩;have hk9:kk < 10:=by
  unfold Am at ht;by_cases h:kk < 10
  ·exact h
  ·have e:∀q:Int,q < 10→(m.fKind==q)=false:=λq hq=>beq_false_of_ne zo;have h10f:=zg.2 h10;rw [e 1 zo,e 3 zo,e 4 zo,e 5 zo,e 6 zo,e 2 zo,e 7 zo,e 9 zo] at ht;rw [e 8 zo,h10f] at ht;simp at ht
 rw [hkk,zbp] at hk;rw [hkk];refine call (ABX kk hk9 ?_);refine Bh (v:=.int .u8 (tagsW.getD kk 0).toNat) rfl zx rfl (λX1 u1 hX1=>?_);have hX1:OwB X1 u1 [tagsW.getD kk 0]:=hX1;simp only [Dx,wrap_i64 ((body.length:Int)+4) zo,SSd,Nat.reduceAdd];refine Sj (Gu (X:=X1) hX1 _ 4 4 rfl zo zy (λX2 u2 hX2=>?_));obtain ⟨a2,k2,e2⟩:=hX2.form;refine SlO.freeze hX2 (λI1 hI1 hS1=>?_);refine SlO.freeze hX (λI2 hI2 hS2=>zAA ?_);have hb1:Bytes I2 u2 ([tagsW.getD kk 0]++beB ((body.length:Nat)+4) 4):=hS1.mono hI2;have hb2:Bytes I2 (.slice a body.length k) body:=hS2;refine Lh (n:=1) [u2,.slice a body.length k] rfl rfl (by rw [e2];simp [Value.cells]) (λI3 a3 hI3 hS3=>zAA ?_);refine call (WJ (ls:=[[tagsW.getD kk 0]++beB ((body.length:Nat)+4) 4,body]) (RL.ofI hS3 ?_) zy (by simp [Ak];omega) (λX3 u3 hX3=>?_))
 ·rw [e2];rw [e2] at hb1;exact ⟨rfl,⟨_,rfl,hb1.mono hI3⟩,rfl,⟨_,rfl,hb2.mono hI3⟩,rfl⟩
 ·have e:(Bq m).1=(Bq m).1:=rfl;refine zAE (X3++F) (zAA (hk I3 X3 u3 (zAB hI1 (zAB hI2 hI3)) ?_));simpa [zbq] using hX3
end
theorem AHX (a b:Bs):txB [a]++txB [b]=txB [a,b]:=by rw [←KU];rfl
section
variable {ω:Om}{I:Imm}{L F:LH}{K:Value→M}{m:TBack}{bm bo:Nat}{v0 v1:Value}{p2 p3 p5 p6 p7:Value}
abbrev cmB (m:TBack)(v0 v1:Value):List Value:=[.int .i64 m.fKind,.string ⟨m.fName.toArray⟩,.string ⟨m.fText.toArray⟩,.int .i64 m.fPid,.int .i64 m.fSecret,.int .u8 m.fStatus,v0,v1,.string ⟨m.fState.toArray⟩,.bool m.fFatal]
theorem AQT {o:TBack}{pre:Bs}{X:LH}{v:Value}(ht:Am m=(o,pre++txB [m.fText],0,clB [m.fName,m.fText]))(h0:RL TFieldV 2 I [] v0 m.fFields)(h1:RL TCellV 2 I [] v1 m.fCells)(hX:OwB X v pre)(nm:Bs)(ho:o={fKind:=m.fKind,fName:=nm,fText:=m.fText})
  (hsz:Di m≤10000000000) (hpre:pre.length≤10000000100) (hkind:0≤m.fKind)
  (hk:∀I' X v,Ext I I'→OwB X v (Bq m).1→K (.tuple #[v,.int .i64 (Bq m).2]) I' (X++F)):
  TJ ω (.pointer (some ⟨bm,0,none⟩)) p2 p3 (.pointer (some ⟨bo,0,none⟩)) v p6 (.int .i64 0) (λv=>Gh (K v)) I (X++((bo,BkO [.int .i64 m.fKind,.string ⟨nm.toArray⟩,.string ⟨#[]⟩,.int .i64 0,.int .i64 0,.int .u8 0,.slice none 0 0,.slice none 0 0,.string ⟨#[]⟩,.bool false])::(bm,BkO (cmB m v0 v1))::F)):=by
 subst ho;have hm:TBackV I m (cmB m v0 v1):=⟨v0,v1,rfl,h0,h1⟩;have hs1:m.fName.length+m.fText.length≤10000000000:=by unfold Di at hsz;omega
 have leaf:∀(I':Imm) (w:Value),Ext I I'→StL I' w [m.fText]→CT ω 95 #[v,w] (λv119=>Gh (AZ ω (.pointer (some ⟨bm,0,none⟩)) p2 p3 (.pointer (some ⟨bo,0,none⟩)) v119 (.bool (clB [m.fName,m.fText])) (.int .i64 0) (λv=>Gh (K v)))) I' (X++((bo,BkO [.int .i64 m.fKind,.string ⟨nm.toArray⟩,.string ⟨m.fText.toArray⟩,.int .i64 0,.int .i64 0,.int .u8 0,.slice none 0 0,.slice none 0 0,.string ⟨#[]⟩,.bool false])::(bm,BkO (cmB m v0 v1))::F)):=by
  intro I' w hI hw;refine MG hX hw zy (by rw [EH,zk];simp;omega) (λX1 v1' hX1=>zAA ?_);refine Qq (m:=m) ht (hm.mono hI) ⟨_,_,rfl,zAD none 0,zAD none 0⟩ hX1 (by rw [zk,EH,zk];simp;omega) zo hkind (λI2 X2 v2 h2 h3=>hk I2 X2 v2 (zAB hI h2) h3)
 unfold TJ;try refine zqe ?_
 refine rdb ?_;try refine zqe ?_
 refine st1 rfl ?_;refine Ci ?_;try refine zqe ?_
 refine BJ ?_;try refine zqe ?_
 refine BJ ?_;try refine zqe ?_
 refine BJ ?_;repeat' first
  |refine zqi ?_ ?_
  |(with_reducible refine keepA ?_)
  |(refine DW [m.fName,m.fText] rfl rfl (λI' a hI' hw2=>zAA ?_))
  |(refine DW [m.fText] rfl rfl (λI' a hI' hw1=>zAA ?_))
  |(with_reducible refine call ?_;refine KJ (StL.mono zA zE) zy ?_)
  |(with_reducible refine Sj (leaf _ _ zE (StL.mono zA zE)))
theorem AJH {I0:Imm}{X:LH}[h:LSub X L](hI:Ext I0 I):Stay I0 X I L:=⟨hI,h.sub⟩
theorem AQS {sev:Bs}(hsev:sev.length=5)(hsv:sev=if m.fFatal then [70,65,84,65,76] else [69,82,82,79,82])(h9:m.fKind=9)(h0:RL TFieldV 2 I [] v0 m.fFields)(h1:RL TCellV 2 I [] v1 m.fCells)
  (hsz:Di m≤10000000000)
  (hk:∀I' X v,Ext I I'→OwB X v (Bq m).1→K (.tuple #[v,.int .i64 (Bq m).2]) I' (X++F)):
  TI ω (.pointer (some ⟨bm,0,none⟩)) p2 p3 (.pointer (some ⟨bo,0,none⟩)) p5 p6 (.int .i64 0) (.string ⟨sev.toArray⟩) (λv=>Gh (K v)) I ((bo,BkO [.int .i64 m.fKind,.string ⟨#[]⟩,.string ⟨m.fText.toArray⟩,.int .i64 0,.int .i64 0,.int .u8 0,.slice none 0 0,.slice none 0 0,.string ⟨m.fState.toArray⟩,.bool m.fFatal])::(bm,BkO (cmB m v0 v1))::F):=by
 have hm:TBackV I m (cmB m v0 v1):=⟨v0,v1,rfl,h0,h1⟩;have hs1:m.fState.length+m.fText.length≤10000000000:=by unfold Di at hsz;omega
 have ht:Am m=({fKind:=m.fKind,fState:=m.fState,fText:=m.fText,fFatal:=m.fFatal},txB [83::sev,86::sev,67::m.fState,77::m.fText]++[0],0,Dq m.fState&&clB [m.fText]):=by
  unfold Am;rw [h9];subst hsv;rfl
 have htl:(txB [83::sev,86::sev,67::m.fState,77::m.fText]).length=18+m.fState.length+m.fText.length:=by
  simp only [txB,zaH,List.flatMap_nil,zU,hsev];omega
 have a1:BB .add (.string ⟨#[83]⟩) (.string ⟨sev.toArray⟩)=some (.string ⟨(83::sev).toArray⟩):=AHm [83] sev zu;have a2:BB .add (.string ⟨#[86]⟩) (.string ⟨sev.toArray⟩)=some (.string ⟨(86::sev).toArray⟩):=AHm [86] sev zu;have a3:BB .add (.string ⟨#[67]⟩) (.string ⟨m.fState.toArray⟩)=some (.string ⟨(67::m.fState).toArray⟩):=AHm [67] m.fState zu;have a4:BB .add (.string ⟨#[77]⟩) (.string ⟨m.fText.toArray⟩)=some (.string ⟨(77::m.fText).toArray⟩):=AHm [77] m.fText zu;have last:∀(I':Imm) (X:LH) (v:Value) (may:Bool),Ext I I'→may=(Dq m.fState&&clB [m.fText])→OwB X v (txB [83::sev,86::sev,67::m.fState,77::m.fText]++[0])→AZ ω (.pointer (some ⟨bm,0,none⟩)) p2 p3 (.pointer (some ⟨bo,0,none⟩)) v (.bool may) (.int .i64 0) (λv=>Gh (K v)) I' (X++((bo,BkO [.int .i64 m.fKind,.string ⟨#[]⟩,.string ⟨m.fText.toArray⟩,.int .i64 0,.int .i64 0,.int .u8 0,.slice none 0 0,.slice none 0 0,.string ⟨m.fState.toArray⟩,.bool m.fFatal])::(bm,BkO (cmB m v0 v1))::F)):=by
  intro I' X v may hI hmay hX;subst hmay;exact Qq (m:=m) ht (hm.mono hI) ⟨_,_,rfl,zAD none 0,zAD none 0⟩ hX (by rw [zk,htl];simp;omega) zo zo (λI2 X2 v2 h2 h3=>hk I2 X2 v2 (zAB hI h2) h3)
 have app:∀(I':Imm) (L' X X0 R:LH) (v w:Value) (may:Bool) [SplitL X L' R] [SubP ((bo,BkO [.int .i64 m.fKind,.string ⟨#[]⟩,.string ⟨m.fText.toArray⟩,.int .i64 0,.int .i64 0,.int .u8 0,.slice none 0 0,.slice none 0 0,.string ⟨m.fState.toArray⟩,.bool m.fFatal])::(bm,BkO (cmB m v0 v1))::F) R] [LSub X0 L'],Ext I I'→may=(Dq m.fState&&clB [m.fText])→OwB X v (txB [83::sev,86::sev,67::m.fState,77::m.fText])→OwB X0 w [0]→
   App 5 1 1 #[(Value.int .u8 0)] v w (gh λv119=>AZ ω (.pointer (some ⟨bm,0,none⟩)) p2 p3 (.pointer (some ⟨bo,0,none⟩)) v119 (.bool may) (.int .i64 0) (λv=>Gh (K v))) I' L':=by
  intro I' L' X X0 R v w may _ _ hsub hI hmay hX hX0;refine Ls (X:=X) (F:=R) (n:=1) (m:=1) (news:=Lib.byteCells [0]) rfl hX (SlO.news hX0 hsub.sub) (λu hu=>?_) zo zo (λX2 u2 hX2=>?_)
  ·obtain ⟨d,_,rfl⟩:=zaf.1 hu;rfl
  exact zAE (X2++_) (zAA (last I' X2 u2 may hI hmay (OwB.mk hX2)))
 unfold TI;refine Ci ?_;try refine zqe ?_
 refine BJ ?_;simp only [a1,a2,SSd,Nat.reduceAdd];refine BJ ?_;simp only [a3,SSd,Nat.reduceAdd];refine BJ ?_;simp only [a4,SSd,Nat.reduceAdd];cases hst:Dq m.fState with
 |false=>
  have stc:∀{K:Value→M} {I:Imm} {L:LH},K (.bool false) I L→CT ω 97 #[.string ⟨m.fState.toArray⟩] K I L:=λh=>NM _ zo (by rw [hst];exact h);repeat' first
   |refine zqi ?_ ?_
   |(with_reducible exact AJH zE)
   |(with_reducible refine keepA ?_)
   |(simp only [Sr,Qh,SSd,Nat.reduceAdd])
   |(refine DW [83::sev,86::sev,67::m.fState,77::m.fText] rfl rfl (λI' a hI' hw4=>zAA ?_))
   |(refine Bh (v:=.int .u8 0) rfl zx rfl (λXz uz hXz=>?_))
   |(with_reducible refine call ?_;refine stc ?_)
   |(with_reducible refine call ?_;refine text0 (StL.mono hw4 zE) zy zo (λXt ut hXt=>?_))
   |(exact app _ _ _ _ _ _ _ _ zE (by rw [hst];rfl) hXt hXz)
 |true=>
  have stc:∀{K:Value→M} {I:Imm} {L:LH},K (.bool true) I L→CT ω 97 #[.string ⟨m.fState.toArray⟩] K I L:=λh=>NM _ zo (by rw [hst];exact h);repeat' first
   |refine zqi ?_ ?_
   |(with_reducible exact AJH zE)
   |(with_reducible refine keepA ?_)
   |(simp only [Sr,Qh,SSd,Nat.reduceAdd])
   |(with_reducible refine rdb ?_)
   |(refine DW [m.fText] rfl rfl (λI' a hI' hw1=>zAA ?_))
   |(refine DW [83::sev,86::sev,67::m.fState,77::m.fText] rfl rfl (λI' a hI' hw4=>zAA ?_))
   |(refine Bh (v:=.int .u8 0) rfl zx rfl (λXz uz hXz=>?_))
   |(with_reducible refine call ?_;refine stc ?_)
   |(with_reducible refine call ?_;refine KJ (StL.mono hw1 zE) zy ?_)
   |(with_reducible refine call ?_;refine text0 (StL.mono hw4 zE) zy zo (λXt ut hXt=>?_))
   |(exact app _ _ _ _ _ _ _ _ zE (by rw [hst];rfl) hXt hXz)
end
section
variable {ω:Om}{I:Imm}{L F:LH}{K:Value→M}{m:TBack}
theorem KD (l:List TField):(DF l).1.length≤2+(l.map λf=>f.fName.length+19).sum:=by
 unfold DF;cases h:Bl l with
 |none=>simp
 |some t=>simp only [zk,Ak,JX h];omega
theorem Qb (l:List TCell):(CE l).1.length≤BH l∧0≤(CE l).2.1∧(CE l).2.1≤BH l:=by
 unfold CE;split
 ·simp
 split
 ·simp
 ·rename_i h _
  simp only [zk,Ak,NG (zg.2 h)];unfold BH;omega
theorem FL.mono {I I':Imm}{v:Value}{l:List TField}(h:RL TFieldV 2 I [] v l)(hI:Ext I I'):RL TFieldV 2 I' [] v l:=zAI (λ_ _ h=>TFieldV.mono h hI) h hI (λ_ h=>h)
theorem CL.mono {I I':Imm}{v:Value}{l:List TCell}(h:RL TCellV 2 I [] v l)(hI:Ext I I'):RL TCellV 2 I' [] v l:=zAI (λ_ _ h=>TCellV.mono h hI) h hI (λ_ h=>h)
theorem AFD {cm:List Value}(hm:TBackV I m cm)(hsz:Di m≤10000000000)(hst:0≤m.fStatus∧m.fStatus≤255)(hkind:0≤m.fKind)
  (hk:∀I' X v,Ext I I'→OwB X v (Bq m).1→K (.tuple #[v,.int .i64 (Bq m).2]) I' (X++L)):CT ω 71 #[.agg cm.toArray] K I L:=by
 have hm':=hm;obtain ⟨v0,v1,rfl,h0,h1⟩:=hm;have hms:m.fName.length+m.fText.length+m.fState.length+(m.fFields.map λf=>f.fName.length+19).sum+BH m.fCells≤10000000000:=hsz;refine AQz ?_;unfold APh;obtain ⟨a0,k0,rfl⟩:=zAF h0;obtain ⟨a1,k1,rfl⟩:=zAF h1;try refine zqe ?_
 refine Ap (λbm=>?_);try refine zqe ?_
 refine rdb ?_;try refine zqe ?_
 refine Ap (λbo=>?_);refine stB rfl rfl (AV rfl) ?_;try refine zqe ?_
 refine rdb ?_;try refine zqe ?_
 by_cases h:(m.fKind==1)=true
 ·have e:m.fKind=1:=by simpa using h
  have ht:Am m=({fKind:=m.fKind},beB 0 4,0,true):=by unfold Am;rw [if_pos h,e]
  simp only [h,SSd,Nat.reduceAdd];refine call (AIz _ 4 4 rfl zo (λX v hX=>?_));exact Qq (m:=m) ht hm' ⟨_,_,rfl,zAD none 0,zAD none 0⟩ hX (by rw [Ak];omega) zo hkind hk
 have n1:=zg.2 h;simp only [n1,SSd,Nat.reduceAdd];by_cases h:(m.fKind==3)=true
 ·have e:m.fKind=3:=by simpa using h
  have ht:Am m=({fKind:=m.fKind,fPid:=m.fPid,fSecret:=m.fSecret},beB m.fPid 4++beB m.fSecret 4,0,smB [m.fPid,m.fSecret]):=by unfold Am;rw [e];rfl
  simp only [h,SSd,Nat.reduceAdd];refine UZ ?_;try refine zqe ?_
  refine BJ ?_;try refine zqe ?_
  refine BJ ?_;try refine zqe ?_
  refine st1 rfl ?_;refine BK (zAC _) ?_;try refine zqe ?_
  refine st1 rfl ?_;refine Ci ?_;try refine zqe ?_
  refine BJ ?_;try refine zqe ?_
  refine BJ ?_;refine Lh (n:=1) [.int .i64 m.fPid,.int .i64 m.fSecret] rfl rfl (by simp [Value.cells]) (λI3 a3 hI3 hS3=>zAA ?_);refine keepA ?_;refine call (Xc (xs:=[m.fPid,m.fSecret]) (RL.ofI hS3 ⟨rfl,rfl,rfl,rfl,rfl⟩) zy ?_);refine keepA ?_;try refine zqe ?_
  refine BJ ?_;refine call (AIz _ 4 4 rfl zo (λX v hX=>?_));refine keepA ?_;try refine zqe ?_
  refine BJ ?_;refine call (Gu (X:=X) hX _ 4 4 rfl zo (by rw [Ak];omega) (λX2 v2 hX2=>?_));exact Qq (m:=m) ht (hm'.mono hI3) ⟨_,_,rfl,zAD none 0,zAD none 0⟩ hX2 (by simp only [zk,Ak];omega) zo hkind (λI2 X2 v2 h2 h3=>hk I2 X2 v2 (zAB hI3 h2) h3)
 have n3:=zg.2 h;simp only [n3,SSd,Nat.reduceAdd];by_cases h:(m.fKind==4)=true
 ·have e:m.fKind=4:=by simpa using h
  have ht:Am m=({fKind:=m.fKind,fStatus:=m.fStatus},[byI m.fStatus],0,m.fStatus==73||m.fStatus==84||m.fStatus==69):=by unfold Am;rw [e];rfl
  simp only [h,SSd,Nat.reduceAdd];have hby:(Value.int .u8 m.fStatus)= .int .u8 ((byI m.fStatus).toNat:Nat):=by
   rw [OW,show IntKind.u8.wrap m.fStatus=m.fStatus from by rw [IntKind.wrap_u8];omega]
  have fin:∀(may:Bool),may=(m.fStatus==73||m.fStatus==84||m.fStatus==69)→∀(I0:Imm) (L0:LH),AC 5 1 #[(Value.int .u8 0)] 1 [(0,.int .u8 m.fStatus)] (gh (AQ (Stay I ((bo,BkO [.int .i64 m.fKind,.string ⟨#[]⟩,.string ⟨#[]⟩,.int .i64 0,.int .i64 0,.int .u8 m.fStatus,.slice none 0 0,.slice none 0 0,.string ⟨#[]⟩,.bool false])::(bm,BkO (cmB m (.slice a0 m.fFields.length k0) (.slice a1 m.fCells.length k1)))::L)) λv=>AZ ω (.pointer (some ⟨bm,0,none⟩)) (.slice none 0 0) (.int .i64 0) (.pointer (some ⟨bo,0,none⟩)) v (.bool may) (.int .i64 0) (λv=>Gh (K v)))) I ((bo,BkO [.int .i64 m.fKind,.string ⟨#[]⟩,.string ⟨#[]⟩,.int .i64 0,.int .i64 0,.int .u8 m.fStatus,.slice none 0 0,.slice none 0 0,.string ⟨#[]⟩,.bool false])::(bm,BkO (cmB m (.slice a0 m.fFields.length k0) (.slice a1 m.fCells.length k1)))::L):=by
   intro may hmay _ _;subst hmay;refine Bh (v:=.int .u8 m.fStatus) rfl zx rfl (λX1 u1 hX1=>?_);have hX1:SlO 5 1 X1 u1 [Value.int .u8 m.fStatus] 1:=hX1;have hX1:OwB X1 u1 [byI m.fStatus]:=by rw [hby] at hX1;exact hX1
   refine keepA ?_;exact Qq (m:=m) ht hm' ⟨_,_,rfl,zAD none 0,zAD none 0⟩ hX1 zy zo hkind hk
  refine rdb ?_;try refine zqe ?_
  refine st1 rfl ?_;refine Ci ?_;try refine zqe ?_
  refine BJ ?_;try refine zqe ?_
  cases h1:(m.fStatus==73) with
  |true=>
   try refine zqe ?_
   refine BJ ?_;exact fin true (by rw [h1];rfl) I L
  |false=>
  try refine zqe ?_
  refine BJ ?_;try refine zqe ?_
  cases h2:(m.fStatus==84) with
  |true=>
   try refine zqe ?_
   refine BJ ?_;exact fin true (by rw [h1,h2];rfl) I L
  |false=>
  try refine zqe ?_
  refine BJ ?_;try refine zqe ?_
  refine BJ ?_;exact fin _ (by rw [h1,h2];rfl) I L
 have n4:=zg.2 h;simp only [n4,SSd,Nat.reduceAdd];by_cases h:(m.fKind==5)=true
 ·have e:m.fKind=5:=by simpa using h
  have ht:Am m=({fKind:=m.fKind,fFields:=m.fFields},(DF m.fFields).1,0,(DF m.fFields).2):=by unfold Am;rw [e];rfl
  simp only [h,SSd,Nat.reduceAdd];refine rdb ?_;try refine zqe ?_
  refine st1 rfl ?_;refine rdb ?_;have hfl:=KD m.fFields;refine call (WF h0 zo (λI' X v hI hX=>?_));try refine zqe ?_
  exact Qq (m:=m) ht (hm'.mono hI) ⟨_,_,rfl,FL.mono h0 hI,zAD none 0⟩ hX zo zo hkind (λI2 X2 v2 h2 h3=>hk I2 X2 v2 (zAB hI h2) h3)
 have n5:=zg.2 h;simp only [n5,SSd,Nat.reduceAdd];by_cases h:(m.fKind==6)=true
 ·have e:m.fKind=6:=by simpa using h
  have ht:Am m=({fKind:=m.fKind,fCells:=m.fCells},(CE m.fCells).1,(CE m.fCells).2.1,(CE m.fCells).2.2):=by unfold Am;rw [e];rfl
  simp only [h,SSd,Nat.reduceAdd];refine rdb ?_;try refine zqe ?_
  refine st1 rfl ?_;refine rdb ?_;have hcl:=Qb m.fCells;refine call (YU h1 zo (λX v hX=>?_));try refine zqe ?_
  exact Qq (m:=m) ht hm' ⟨_,_,rfl,zAD none 0,h1⟩ hX zo zo hkind hk
 have n6:=zg.2 h;simp only [n6,SSd,Nat.reduceAdd];by_cases h:(m.fKind==2)=true
 ·have e:m.fKind=2:=by simpa using h
  have ht:Am m=({fKind:=m.fKind,fName:=m.fName,fText:=m.fText},txB [m.fName]++txB [m.fText],0,clB [m.fName,m.fText]):=by unfold Am;rw [e];rfl
  simp only [h,SSd,Nat.reduceAdd];refine rdb ?_;try refine zqe ?_
  refine st1 rfl ?_;refine rdb ?_;refine DW [m.fName] rfl rfl (λI2 a hI2 hw2=>zAA ?_);have hl1:(txB [m.fName]).length=m.fName.length+1:=by rw [EH,zk];rfl
  refine call (text0 hw2 zy zo (λX v hX=>?_));exact AQT (m:=m) ht (FL.mono h0 hI2) (CL.mono h1 hI2) hX m.fName rfl hsz zo hkind (λI3 X3 v3 h2 h3=>hk I3 X3 v3 (zAB hI2 h2) h3)
 have n2:=zg.2 h;simp only [n2,SSd,Nat.reduceAdd];by_cases h:(m.fKind==7)=true
 ·have e:m.fKind=7:=by simpa using h
  have ht:Am m=({fKind:=m.fKind,fName:=[],fText:=m.fText},[]++txB [m.fText],0,clB [m.fName,m.fText]):=by unfold Am;rw [e];rfl
  simp only [h,SSd,Nat.reduceAdd];exact AQT (m:=m) (X:=[]) ht h0 h1 (zAJ _ _) [] rfl hsz zy hkind hk
 have n7:=zg.2 h;simp only [n7,SSd,Nat.reduceAdd];by_cases h:(m.fKind==9)=true
 ·have e:m.fKind=9:=by simpa using h
  simp only [h,SSd,Nat.reduceAdd];refine UZ ?_;try refine zqe ?_
  refine BJ ?_;try refine zqe ?_
  refine BJ ?_;try refine zqe ?_
  refine BJ ?_;try refine zqe ?_
  refine st1 rfl ?_;refine BK (zAC _) ?_;try refine zqe ?_
  refine st1 rfl ?_;refine BK (zAC _) ?_;try refine zqe ?_
  refine st1 rfl ?_;refine rdb ?_;cases hf:m.fFatal with
  |true=>
   try refine zqe ?_
   have:=AQS (ω:=ω) (m:=m) (bm:=bm) (bo:=bo) (p2:=.slice none 0 0) (p3:=.int .i64 0) (p5:=.slice none 0 0) (p6:=.bool true) (sev:=[70,65,84,65,76]) rfl (by rw [hf];rfl) e h0 h1 hsz hk;simp only [cmB,hf] at this;exact this
  |false=>
   try refine zqe ?_
   have:=AQS (ω:=ω) (m:=m) (bm:=bm) (bo:=bo) (p2:=.slice none 0 0) (p3:=.int .i64 0) (p5:=.slice none 0 0) (p6:=.bool true) (sev:=[69,82,82,79,82]) rfl (by rw [hf];rfl) e h0 h1 hsz hk;simp only [cmB,hf] at this;exact this
 have n9:=zg.2 h;simp only [n9,SSd,Nat.reduceAdd];by_cases h:(m.fKind==8)=true
 ·have e:m.fKind=8:=by simpa using h
  have ht:Am m=({fKind:=m.fKind},[],0,true):=by unfold Am;rw [e];rfl
  simp only [h,SSd,Nat.reduceAdd];unfold Nw;try refine zqe ?_
  exact Qq (m:=m) (X:=[]) ht hm' ⟨_,_,rfl,zAD none 0,zAD none 0⟩ (zAJ _ _) zy zo hkind hk
 have n8:=zg.2 h;simp only [n8,SSd,Nat.reduceAdd];unfold Nw;by_cases h:(m.fKind==10)=true
 ·have e:m.fKind=10:=by simpa using h
  have ht:Am m=({fKind:=m.fKind},[],0,true):=by unfold Am;rw [e];rfl
  simp only [h,SSd,Nat.reduceAdd];exact Qq (m:=m) (X:=[]) ht hm' ⟨_,_,rfl,zAD none 0,zAD none 0⟩ (zAJ _ _) zy zo hkind hk
 have n10:=zg.2 h;have ht:Am m=({fKind:=m.fKind},[],0,false):=by
  unfold Am;simp only [n1,n2,n3,n4,n5,n6,n7,n8,n9,n10,zl,if_false,or_self]
 simp only [n10,SSd,Nat.reduceAdd];exact Qq (m:=m) (X:=[]) ht hm' ⟨_,_,rfl,zAD none 0,zAD none 0⟩ (zAJ _ _) zy zo hkind hk
end
end Go.Proofs.YthkaekjoemhjaaaGreatDoor
namespace Go.Proofs
open Go.Shelf
def Tryz.lay173_ren:Go.Shelf.Ren:=⟨λ|173=>79|246=>108|283=>127|284=>128|285=>129|286=>130|129=>158|317=>157|318=>159|319=>160|320=>161|337=>198|338=>199|n=>n,λ|2=>2|3=>3|9=>9|4=>4|171=>212|0=>0|53=>194|37=>22|5=>5|173=>215|212=>250|51=>206|20=>20|213=>251|46=>152|232=>299|233=>300|n=>n,λ|17=>0|18=>2|19=>3|n=>n⟩
theorem Tryz.lay173:Go.Proofs.LaysM.n173 Tryz.prog Tryz.lay173_ren:={
 mixed:=by kernel_rfl
 f129:=Tryz.func158.trans (congrArg some (by kernel_rfl))
 f173:=Tryz.func79.trans (congrArg some (by kernel_rfl))
 f246:=Tryz.func108.trans (congrArg some (by kernel_rfl))
 f283:=Tryz.func127.trans (congrArg some (by kernel_rfl))
 f284:=Tryz.func128.trans (congrArg some (by kernel_rfl))
 f285:=Tryz.func129.trans (congrArg some (by kernel_rfl))
 f286:=Tryz.func130.trans (congrArg some (by kernel_rfl))
 f317:=Tryz.func157.trans (congrArg some (by kernel_rfl))
 f318:=Tryz.func159.trans (congrArg some (by kernel_rfl))
 f319:=Tryz.func160.trans (congrArg some (by kernel_rfl))
 f320:=Tryz.func161.trans (congrArg some (by kernel_rfl))
 f337:=Tryz.func198.trans (congrArg some (by kernel_rfl))
 f338:=Tryz.func199.trans (congrArg some (by kernel_rfl))
 t0:=Tryz.underlying0
 a0:=Tryz.isAgg0
 z0:=Tryz.sizeOf0
 v0:=Tryz.zeroValue0
 t2:=Tryz.underlying2
 a2:=Tryz.isAgg2
 z2:=Tryz.sizeOf2
 v2:=Tryz.zeroValue2
 t3:=Tryz.underlying3
 a3:=Tryz.isAgg3
 z3:=Tryz.sizeOf3
 v3:=Tryz.zeroValue3
 t4:=Tryz.underlying4
 a4:=Tryz.isAgg4
 z4:=Tryz.sizeOf4
 v4:=Tryz.zeroValue4
 t5:=Tryz.underlying5
 a5:=Tryz.isAgg5
 z5:=Tryz.sizeOf5
 v5:=Tryz.zeroValue5
 t9:=Tryz.underlying9
 a9:=Tryz.isAgg9
 z9:=Tryz.sizeOf9
 v9:=Tryz.zeroValue9
 t20:=Tryz.underlying20
 a20:=Tryz.isAgg20
 z20:=Tryz.sizeOf20
 v20:=Tryz.zeroValue20
 t37:=Tryz.underlying22
 a37:=Tryz.isAgg22
 z37:=Tryz.sizeOf22
 v37:=Tryz.zeroValue22
 t46:=Tryz.underlying152
 a46:=Tryz.isAgg152
 z46:=Tryz.sizeOf152
 v46:=Tryz.zeroValue152
 t51:=Tryz.underlying206
 a51:=Tryz.isAgg206
 z51:=Tryz.sizeOf206
 v51:=Tryz.zeroValue206
 t53:=Tryz.underlying194
 a53:=Tryz.isAgg194
 z53:=Tryz.sizeOf194
 v53:=Tryz.zeroValue194
 t171:=Tryz.underlying212
 a171:=Tryz.isAgg212
 z171:=Tryz.sizeOf212
 v171:=Tryz.zeroValue212
 t173:=Tryz.underlying215
 a173:=Tryz.isAgg215
 z173:=Tryz.sizeOf215
 v173:=Tryz.zeroValue215
 t212:=Tryz.underlying250
 a212:=Tryz.isAgg250
 z212:=Tryz.sizeOf250
 v212:=Tryz.zeroValue250
 t213:=Tryz.underlying251
 a213:=Tryz.isAgg251
 z213:=Tryz.sizeOf251
 t232:=Tryz.underlying299
 a232:=Tryz.isAgg299
 z232:=Tryz.sizeOf299
 v232:=Tryz.zeroValue299
 t233:=Tryz.underlying300
 a233:=Tryz.isAgg300
 z233:=Tryz.sizeOf300
 v233:=Tryz.zeroValue300
 g17:=by kernel_rfl
 g18:=by kernel_rfl
 g19:=by kernel_rfl
 i0:=by kernel_rfl
 i2:=by kernel_rfl
 i3:=by kernel_rfl
 i4:=by kernel_rfl
 i5:=by kernel_rfl
 i9:=by kernel_rfl
 i20:=by kernel_rfl
 i37:=by kernel_rfl
 i46:=by kernel_rfl
 i51:=by kernel_rfl
 i53:=by kernel_rfl
 i171:=by kernel_rfl
 i173:=by kernel_rfl
 i212:=by kernel_rfl
 i232:=by kernel_rfl
 i233:=by kernel_rfl
 m17:=by kernel_rfl
 m18:=by kernel_rfl
 m19:=by kernel_rfl}
end Go.Proofs
namespace Go.Proofs.YthkaekjoemhjaaaGreatDoor
open Go.SL
def Su (e:Int):Bs×Bs:=
 if e=190 then ([50,50,48,48,51],[110,117,109,98,101,114,32,111,117,116,32,111,102,32,114,97,110,103,101])
 else if e=191 then ([50,50,48,49,50],[100,105,118,105,115,105,111,110,32,98,121,32,122,101,114,111])
 else if e=192 then ([50,50,48,48,49],[116,101,120,116,32,105,115,32,116,111,111,32,108,111,110,103])
 else if e=221 then ([50,51,53,48,53],[116,104,101,32,107,101,121,32,105,115,32,116,104,101,114,101,32,97,108,114,101,97,100,121])
 else if e=222 then ([50,51,53,48,50],[110,117,108,108,32,119,104,101,114,101,32,110,111,110,101,32,109,97,121,32,98,101])
 else if e=24∨e=23 then ([53,51,49,48,48],[116,104,101,32,100,105,115,107,32,105,115,32,102,117,108,108])
 else if e=161∨e=144 then ([52,48,48,48,49],[98,101,103,105,110,32,116,104,101,32,116,114,97,110,115,97,99,116,105,111,110,32,97,103,97,105,110])
 else if e=82 then ([53,51,48,48,48],[111,117,116,32,111,102,32,116,105,109,101,115,116,97,109,112,115])
 else if e=230∨e=231∨e=232 then ([48,56,80,48,49],[112,114,111,116,111,99,111,108,32,118,105,111,108,97,116,105,111,110])
 else if e=224∨e=282 then ([88,88,48,48,49],[115,116,111,114,101,100,32,114,111,119,115,32,97,114,101,32,100,97,109,97,103,101,100])
 else ([88,88,48,48,48],[105,110,116,101,114,110,97,108,32,101,114,114,111,114])
section
theorem eqP {k:IntKind}{a c:Int}{K:Value→M}{I:Imm}{L:LH}(h:K (.bool (a==c)) I L):Pv (AA .eql (.int k a) (.int k c)) K I L:=by rw [Qg];exact h
theorem AIy {z:Array Value}{f:Array (Nat×Nat)}{p:List (Nat×Value)}{v:Value}{K:Value→M}{I:Imm}{L:LH}(e:AU z f p=some v)(h:K v I L):Pv (AU z f p) K I L:=by rw [e];exact h
theorem brT {b:Bool}{A B:M}{I:Imm}{L:LH}(e:b=true)(h:A I L):Br (.bool b) A B I L:=by subst e;exact h
theorem brF {b:Bool}{A B:M}{I:Imm}{L:LH}(e:b=false)(h:B I L):Br (.bool b) A B I L:=by subst e;exact h
end
section
variable {ω:Om}{I:Imm}{L:LH}{K:Value→M}
theorem XJ (e:Int)(hk:K (.agg #[.string ⟨(Su e).1.toArray⟩,.string ⟨(Su e).2.toArray⟩]) I L):CT ω 101 #[.int .i64 e] K I L:=by
 have fin:∀a b,Su e=(a,b)→K (.agg #[.string ⟨a.toArray⟩,.string ⟨b.toArray⟩]) I L:=by
  intro a b h;rw [h] at hk;exact hk
 clear hk;refine AOv ?_;unfold sh101;refine Ap (λb=>?_);repeat' first
  |(with_reducible refine eqP ?_)
  |(with_reducible refine brT zA ?_)
  |(with_reducible refine brF zA ?_)
  |(with_reducible refine AL (λhb=>?_) (λhb=>?_))
  |(first|(with_reducible refine BI (sh101_4.eq_1 ..) ?_)|(with_reducible refine BI (sh101_3.eq_1 ..) ?_)|(with_reducible refine BI (sh101_2.eq_1 ..) ?_)|(with_reducible refine BI (sh101_1.eq_1 ..) ?_)|(with_reducible refine BI (sh101.eq_1 ..) ?_))
  |(with_reducible refine AIy rfl ?_)
  |((with_reducible refine stB ?_ ?_ ?_ ?_);rfl;rfl;exact AV rfl)
  |((with_reducible refine rdB ?_ ?_);rfl)
 all_goals refine zAE L (zAA ?_)
 all_goals first
  |(exact fin _ _ (by have h:=eq_of_beq ‹(e==_)=true›;subst h;rfl))
  |(refine fin _ _ ?_;clear fin;unfold Su;simp_all)
theorem RV (e:Int)(hk:K (.agg #[.string ⟨(CZ e).1.toArray⟩,.string ⟨(CZ e).2.toArray⟩]) I L):CT ω 72 #[.int .i64 e] K I L:=by
 have fin:∀a b,CZ e=(a,b)→K (.agg #[.string ⟨a.toArray⟩,.string ⟨b.toArray⟩]) I L:=by
  intro a b h;rw [h] at hk;exact hk
 clear hk;refine AQy ?_;unfold sh72;refine Ap (λb=>?_);repeat' first
  |(with_reducible refine eqP ?_)
  |(with_reducible refine brT zA ?_)
  |(with_reducible refine brF zA ?_)
  |(with_reducible refine AL (λhb=>?_) (λhb=>?_))
  |(first|(with_reducible refine BI (sh72_4.eq_1 ..) ?_)|(with_reducible refine BI (sh72_3.eq_1 ..) ?_)|(with_reducible refine BI (sh72_2.eq_1 ..) ?_)|(with_reducible refine BI (sh72_1.eq_1 ..) ?_)|(with_reducible refine BI (sh72.eq_1 ..) ?_))
  |(with_reducible refine AIy rfl ?_)
  |((with_reducible refine stB ?_ ?_ ?_ ?_);rfl;rfl;exact AV rfl)
  |((with_reducible refine rdB ?_ ?_);rfl)
  |(with_reducible refine call ?_;refine XJ e ?_)
 all_goals refine zAE L (zAA ?_)
 all_goals first
  |(exact fin _ _ (by have h:=eq_of_beq ‹(e==_)=true›;subst h;rfl))
  |(refine fin _ _ ?_;clear fin;simp only [beq_eq_false_iff_ne,ne_eq] at *; unfold CZ;simp only [*,or_self,if_false];rfl)
end
def XA (G : Imm) : Prop := ∃ g T fr, Tryz.prog.globalNamed "internal/strconv.uint64pow10" = some g ∧ G g = some (.cells (Lib.pow10Tab.map λz => Value.int .u64 z).toArray T fr)
theorem QT:∀(f n:Nat) (acc:Bs),n < f→WH f n acc=Lib.decDigits n++acc
 |0,n,acc,h=>by omega
 |f+1,n,acc,h=>by
  rw [WH,Lib.decDigits];split
  ·rfl
  ·rw [QT f (n / 10) _ zo,zt];rfl
theorem ACc (n:Int):BQ true n=Lib.itoa n:=by
 unfold BQ Lib.itoa;split
 ·simp only [if_true];rw [QT _ _ _ zo,zaK]
 ·rw [QT _ _ _ zo,zaK]
section
variable {ω:Om}{I:Imm}{L:LH}{K:Value→M}
theorem St.grows {w:World}{k:Nat}{os:Array Obj}(hs:St ω w I L):St ω (Sort.grow (w.drewN k) os) I L:=by
 have hd:St ω (w.drewN k) I L:=hs.drew (zbi _ _);refine ⟨λb o hb=>?_,λb o hb=>?_,hd.nodup,hd.apart,hd.tape,hd.os,hd.out,hd.dr⟩
 ·have:=hd.imm b o hb;show ((w.drewN k).heap++os)[b]? =some o;rw [zaO (zN.1 this).1];exact this
 ·have:=hd.own b o hb;show ((w.drewN k).heap++os)[b]? =some o;rw [zaO (zN.1 this).1];exact this
theorem AII {G : Imm}{w : World}(hG : XA G)(hI : Ext G I)(hs : St ω w I L) : Lib.TabIs Tryz.prog w "internal/strconv.uint64pow10" .u64 Lib.pow10Tab := by
 obtain ⟨g,T,fr,h1,h2⟩:=hG;unfold Lib.TabIs World.var?;rw [h1];have:=hs.imm g _ (hI g _ h2);simp only [zbv,this]
theorem QH {G:Imm}(hG:XA G)(hI:Ext G I)(n:Int)(h0: -9223372036854775808≤n)(h1:n≤9223372036854775807)(hk:K (.string ⟨(BQ true n).toArray⟩) I L):CT ω 79 #[.int .i64 n,.int .i64 10] K I L:=λw hs=>by
 have h:=Go.Proofs.Any.strconv_FormatInt_10 Go.Proofs.Tryz.lay173 n h0 h1 w (AII hG hI hs);refine Calls.mono h ?_;rintro e w' ⟨rfl,k,os,rfl⟩;rw [ACc] at hk;exact ⟨_,I,L,rfl,St.grows hs,hk⟩
theorem XX (e:Int)(hk:K (.string ⟨(CZ e).1.toArray⟩) I L):CT ω 46 #[.int .i64 e] K I L:=by
 refine ARQ ?_;unfold APv;refine call (RV e ?_);try refine zqe ?_
 exact zAA hk
theorem Nl (e:Int)(hk:K (.string ⟨(CZ e).2.toArray⟩) I L):CT ω 47 #[.int .i64 e] K I L:=by
 refine ARP ?_;unfold APu;refine call (RV e ?_);try refine zqe ?_
 exact zAA hk
abbrev ALg (v:TValue):List Value:=[.int .i64 v.fType,.bool v.fNull,.int .i64 v.fInt,.string ⟨v.fText.toArray⟩]
theorem WN {G:Imm}(hG:XA G)(hI:Ext G I)(v:TValue)(hv: -9223372036854775808≤v.fInt∧v.fInt≤9223372036854775807)(hk:∀c,TCellV I (EF (BQ true) v) c→K (.agg c.toArray) I L):CT ω 53 #[.agg (ALg v).toArray] K I L:=by
 refine ARI ?_;unfold APo;obtain ⟨ty,nl,n,tx⟩:=v;simp only at hv
 have fin:∀(cn:Bool) (ct:Bs),EF (BQ true) ⟨ty,nl,n,tx⟩=⟨cn,ct⟩→K (.agg #[.bool cn,.string ⟨ct.toArray⟩]) I L:=by
  intro cn ct h;exact hk [.bool cn,.string ⟨ct.toArray⟩] (by rw [h];rfl)
 try refine zqe ?_
 refine Ap (λb1=>?_);refine Ap (λb2=>?_);try refine zqe ?_
 refine rdb ?_;cases nl with
 |true=>
  try refine zqe ?_
  refine stB rfl rfl (AV rfl) ?_;refine BV rfl ?_;exact zAE L (zAA (fin true [] rfl))
 |false=>
 try refine zqe ?_
 refine rdb ?_;try refine zqe ?_
 by_cases h1:(ty==1)=true
 ·simp only [h1,SSd,Nat.reduceAdd];refine rdb ?_;refine call (QH hG hI n hv.1 hv.2 ?_);try refine zqe ?_
  refine stB rfl rfl (AV rfl) ?_;refine BV rfl ?_;exact zAE L (zAA (fin false _ (by simp only [EF,h1,if_true];rfl)))
 simp only [zg.2 h1,SSd,Nat.reduceAdd];refine rdb ?_;try refine zqe ?_
 by_cases h2:(ty==2)=true
 ·simp only [h2,SSd,Nat.reduceAdd];refine AFS (λbm=>zAA ?_);refine ⟨bm,#[],0,[],_,none,rfl,rfl,rfl,zAA ?_⟩;refine ⟨bm,_,1,[],_,none,rfl,rfl,rfl,zAA ?_⟩;try refine zqe ?_
  refine rdb ?_;try refine zqe ?_
  have hl:∀(b:Bool) {K:Value→M} {L:LH} {es:Array MapEntry} {ck:Nat},es=#[{key:=.bool true,val:=.string ⟨#[116]⟩,born:=0},{key:=.bool false,val:=.string ⟨#[102]⟩,born:=1}]→K (.string ⟨(if b then ([116]:Bs) else [102]).toArray⟩) I ((bm,.map es ck)::L)→Rv none (lkR .bool (.string ⟨#[]⟩) false (.map (some bm)) (.bool b)) K I ((bm,.map es ck)::L):=by
   intro b K L es ck he h;subst he;cases b with
   |true=>exact ⟨_,⟨_,some (0,.string ⟨#[116]⟩),.inr ⟨bm,ck,rfl,.inl (zJ ..)⟩,rfl,rfl⟩,h⟩
   |false=>exact ⟨_,⟨_,some (1,.string ⟨#[102]⟩),.inr ⟨bm,ck,rfl,.inl (zJ ..)⟩,rfl,rfl⟩,h⟩
  refine hl (n==1) rfl ?_;try refine zqe ?_
  refine stB rfl rfl (AV rfl) ?_;refine BV rfl ?_;exact zAE L (zAA (fin false _ (by simp only [EF,zg.2 h1,h2,if_true];rfl)))
 simp only [zg.2 h2,SSd,Nat.reduceAdd];refine rdb ?_;try refine zqe ?_
 refine stB rfl rfl (AV rfl) ?_;refine BV rfl ?_;exact zAE L (zAA (fin false _ (by simp only [EF,zg.2 h1,zg.2 h2];rfl)))
end
theorem Bytes.drop {I:Imm}{v:Value}{l:List UInt8}{n:Nat}(h:Bytes I v l)(hn:n≤l.length):∃v',Bi 1 v (some (.int .i64 n)) none none=some v'∧Bytes I v' (l.drop n):=by
 obtain ⟨v',h1,h2⟩:=SlI.part (lo:=n) (hi:=l.length) h hn (zh _) (some (.int .i64 n)) none (λy hy=>.inl (KN _ _ _ _ zo)) (λcap hc=>rfl);refine ⟨v',h1,?_⟩;unfold Bytes;rw [zaq];have:((u8s l).drop (n * 1)).take ((l.length - n) * 1)=u8s (l.drop n):=by
  rw [Nat.mul_one,Nat.mul_one,zW (by simp [u8s])];simp [u8s]
 rwa [this] at h2
theorem Bytes.part {I:Imm}{v:Value}{l:List UInt8}{lo hi:Nat}(h:Bytes I v l)(h1:lo≤hi)(h2:hi≤l.length):∃v',Bi 1 v (some (.int .i64 lo)) (some (.int .i64 hi)) none=some v'∧Bytes I v' ((l.drop lo).take (hi - lo)):=by
 obtain ⟨v',e1,e2⟩:=SlI.part (lo:=lo) (hi:=hi) h h1 h2 (some (.int .i64 lo)) (some (.int .i64 hi)) (λy hy=>.inl (KN _ _ _ _ zo)) (λcap hc=>KN _ _ _ _ zo);refine ⟨v',e1,?_⟩;unfold Bytes;rw [zai,zaq,zbb zo];have:((u8s l).drop (lo * 1)).take ((hi - lo) * 1)=u8s ((l.drop lo).take (hi - lo)):=by
  simp [u8s]
 rwa [this] at e2
theorem Bytes.take {I:Imm}{v:Value}{l:List UInt8}{n:Nat}(h:Bytes I v l)(hn:n≤l.length):∃v',Bi 1 v none (some (.int .i64 n)) none=some v'∧Bytes I v' (l.take n):=by
 obtain ⟨v',e1,e2⟩:=SlI.part (lo:=0) (hi:=n) h zo hn none (some (.int .i64 n)) (λy hy=>.inl rfl) (λcap hc=>KN _ _ _ _ zo);refine ⟨v',e1,?_⟩;unfold Bytes;rw [zai,zbb zo];have:((u8s l).drop (0 * 1)).take ((n - 0) * 1)=u8s (l.take n):=by
  simp [u8s]
 rwa [this] at e2
theorem Bytes.at {I:Imm}{v:Value}{l:List UInt8}{k:Nat}(h:Bytes I v l)(hk:k < l.length):∃b off,ixV 1 v (.int .i64 k)=some (.pointer (some ⟨b,off,none⟩))∧∀I' L,Ext I I'→Cell I' L b off (.int .u8 (l[k]).toNat):=by
 obtain ⟨b,off,hix,hc⟩:=SlI.ix h .i64 hk;have hone:((u8s l).drop (k * 1)).take 1=[.int .u8 (l[k]).toNat]:=by
  rw [Nat.mul_one,zab (by simpa [u8s] using hk),List.take_succ_cons];simp [u8s]
 rw [hone] at hc;exact ⟨b,off,hix,λI' L hI=>hc I' L hI 0 _ rfl⟩
abbrev RdO (v:Value)(bad:Bool):Obj:=.cells [v,.bool bad].toArray 177 (0,0)
section
variable {ω:Om}{I:Imm}{L F:LH}{K:Value→M}{b:Nat}{v:Value}
theorem IA {r:Rdq}(n:Int)[hs:SplitB (b,RdO v r.bad) L F](hv:Bytes I v r.b)(hk:∀v1 v2,Bytes I v1 (r.take n).1→Bytes I v2 (r.take n).2.b→K v1 I ((b,RdO v2 (r.take n).2.bad)::F)):CT ω 105 #[.pointer (some ⟨b,0,none⟩),.int .i64 n] K I L:=by
 refine Cal.perm hs.perm ?_;refine AOr ?_;unfold AKy;have hbad:(n < 0∨(r.b.length:Int) < n)→OO ω (.pointer (some ⟨b,0,none⟩)) (.int .i64 n) (.slice none 0 0) (λv=>Gh (K v)) I ((b,RdO v r.bad)::F):=by
  intro h;simp only [Rdq.take,if_pos h] at hk;unfold OO Kt;obtain ⟨v1,e1,h1⟩:=Bytes.take hv (n:=0) zo;obtain ⟨v2,e2,h2⟩:=Bytes.drop hv (n:=0) zo;try refine zqe ?_
  refine st1 rfl ?_;try refine zqe ?_
  refine rdb ?_;simp only [show (Value.int .i64 0)= .int .i64 ((0:Nat):Int) from rfl,e1,SSd,Nat.reduceAdd];refine rdb ?_;simp only [show (Value.int .i64 0)= .int .i64 ((0:Nat):Int) from rfl,e2,SSd,Nat.reduceAdd];obtain ⟨a2,k2,rfl⟩:=h2.form;refine st1 rfl ?_;exact zAA (hk v1 _ h1 h2)
 have hok:¬(n < 0∨(r.b.length:Int) < n)→Kt ω (.pointer (some ⟨b,0,none⟩)) (.int .i64 n) (.slice none 0 0) (λv=>Gh (K v)) I ((b,RdO v r.bad)::F):=by
  intro h;simp only [Rdq.take,if_neg h] at hk;unfold Kt;obtain ⟨m,rfl⟩:∃m:Nat,n=m:=⟨n.toNat,by omega⟩;simp only [zbp] at hk;obtain ⟨v1,e1,h1⟩:=Bytes.take hv (n:=m) zo;obtain ⟨v2,e2,h2⟩:=Bytes.drop hv (n:=m) zo;try refine zqe ?_
  refine rdb ?_;simp only [e1,SSd,Nat.reduceAdd];refine rdb ?_;simp only [e2,SSd,Nat.reduceAdd];obtain ⟨a2,k2,rfl⟩:=h2.form;refine st1 rfl ?_;exact zAA (hk v1 _ h1 h2)
 try refine zqe ?_
 refine BX (λhb=>?_) (λhb=>?_)
 ·have hb:¬n < 0:=of_decide_eq_false (by simpa using hb);try refine zqe ?_
  refine rdb ?_;simp only [hv.len,SSd,Nat.reduceAdd];refine AL (λh2=>?_) (λh2=>?_)
  ·exact hbad (.inr (of_decide_eq_true h2))
  ·exact hok (by have:=of_decide_eq_false h2;omega)
 ·exact hbad (.inl (by simpa using hb))
theorem WW {l:Bs}(c:UInt8)(hv:Bytes I v l)(hk:K (.int .i64 (GN l c)) I L):CT ω 123 #[v,.int .u8 c.toNat] K I L:=by
 refine AOe ?_;unfold AKl;refine ExtE.ret ⟨_,λw hs=>?_,zAA (zAA hk)⟩;show Sem.run _ (do
  let b ←Extern.Bytes.bytesOf v
  let c ←Extern.Bytes.asByte (.int .u8 c.toNat)
  match (List.range b.size).find? λi=>b[i]! ==c with
  |some i=>pure (goInt i)
  |none=>pure (goInt (-1))) w=_
 have hc:((c.toNat:Int).toNat).toUInt8=c:=by simp
 simp only [Sem.run_bind,WT hs hv,Result.andThen_ok,Extern.Bytes.asByte,Sem.run_pure,hc,WB];unfold GN;cases l.findIdx? (·==c) <;> rfl
theorem Ju {r:Rdq}[hs:SplitB (b,RdO v r.bad) L F](hv:Bytes I v r.b)(hk:∀v2,Bytes I v2 r.text.2.b→K (.string ⟨r.text.1.toArray⟩) I ((b,RdO v2 r.text.2.bad)::F)):CT ω 104 #[.pointer (some ⟨b,0,none⟩)] K I L:=by
 refine Cal.perm hs.perm ?_;refine AOs ?_;unfold AKz;try refine zqe ?_
 refine rdb ?_;refine call ?_;rw [show (Value.int .u8 0)= .int .u8 ((0:UInt8).toNat:Nat) from rfl];refine WW 0 hv ?_;refine call (IA (r:=r) (GN r.b 0) hv (λv1 v2 h1 h2=>?_));refine ARk h1 (zAC _) ?_;try refine zqe ?_
 refine rdb ?_;have et:r.text=(if (r.take (GN r.b 0)).2.bad=true then r.take (GN r.b 0) else ((r.take (GN r.b 0)).1,((r.take (GN r.b 0)).2.take 1).2)):=rfl;rw [et] at hk;cases hb:(r.take (GN r.b 0)).2.bad with
 |true=>
  rw [if_pos hb,hb] at hk;try refine zqe ?_
  exact zAA (hk v2 h2)
 |false=>
  rw [if_neg (by rw [hb];decide)] at hk;simp only [zak,SSd,Nat.reduceAdd];rw [show (r.take (GN r.b 0)).2=⟨(r.take (GN r.b 0)).2.b,false⟩ by rw [←hb]] at hk;refine call (IA (r:=⟨(r.take (GN r.b 0)).2.b,false⟩) 1 h2 (λv3 v4 h3 h4=>?_));exact zAA (hk v4 h4)
theorem VL {r:Rdq}[hs:InL b L (RdO v r.bad)](hv:Bytes I v r.b)(hk:K (.bool r.whole) I L):CT ω 106 #[.pointer (some ⟨b,0,none⟩)] K I L:=by
 refine AOq ?_;unfold AKx;unfold Rdq.whole at hk;try refine zqe ?_
 refine rdb ?_;cases hb:r.bad with
 |true=>
  rw [hb] at hk;simp only [zB,SSd,Nat.reduceAdd];exact zAA hk
 |false=>
  rw [hb] at hk;simp only [zak,SSd,Nat.reduceAdd];refine rdb ?_;simp only [hv.len,SSd,Nat.reduceAdd];have e:(((r.b.length:Nat):Int)==0)=r.b.isEmpty:=by
   cases r.b with
   |nil=>rfl
   |cons x y=>simp;omega
  rw [e];simpa using zAA hk
theorem AFN (l:Bs)(c:UInt8):∀n,AIM n (l++[c])=Dv .or .i64 (IntKind.i64.wrap (AIM n l * 256)) c.toNat:=by
 induction l with
 |nil=>intro n;rfl
 |cons x l ih=>intro n;exact ih _
theorem MO {r:Rdq}(k:Int)[hs:SplitB (b,RdO v r.bad) L F](hv:Bytes I v r.b)(hn:r.b.length≤1000000000000)(hk:∀v2,Bytes I v2 (r.num k).2.b→K (.int .i64 (r.num k).1) I ((b,RdO v2 (r.num k).2.bad)::F)):CT ω 103 #[.pointer (some ⟨b,0,none⟩),.int .i64 k] K I L:=by
 refine Cal.perm hs.perm ?_;refine AOt ?_;unfold ALA;refine call (IA (r:=r) k hv (λv1 v2 h1 h2=>?_));unfold Rdq.num at hk;have hl:(r.take k).1.length≤1000000000000:=by
  unfold Rdq.take;split
  ·simp
  ·simp only [zai];omega
 generalize r.take k=q at *;obtain ⟨q1,q2⟩:=q;simp only at *
 simp only [h1.len,SSd,Nat.reduceAdd];refine loop (λm st I' L'=>∃j:Nat,j+m=q1.length∧st=(Value.int .i64 (AIN (q1.take j)),Value.int .i64 (j:Nat),())∧I'=I∧L'=(b,RdO v2 q2.bad)::F) q1.length ⟨0,by omega,rfl,rfl,rfl⟩ ?_;rintro m st I' L' ⟨j,hj,rfl,rfl,rfl⟩;unfold AAW;try refine zqe ?_
 refine AL (λhb=>?_) (λhb=>?_)
 ·have hb:j < q1.length:=by
   have:=of_decide_eq_true hb;omega
  obtain ⟨bt,off,e1,e2⟩:=Bytes.at h1 hb;simp only [e1,SSd,Nat.reduceAdd];refine rd1 (e2 _ _ (zAC _)) ?_;try refine zqe ?_
  have et:=zf hb;cases j with
  |zero=>
   simp only [show ((((0:Nat):Int))==0)=true from rfl,SSd,Nat.reduceAdd];unfold OQ;have hw:IntKind.i64.wrap (IntKind.i8.wrap (q1[0].toNat:Nat))=ALu q1[0]:=eq_of_beq (EX (p:=λc=>IntKind.i64.wrap (IntKind.i8.wrap (c.toNat:Nat))==ALu c) zq q1[0]);simp only [hw,show IntKind.i64.wrap (((0:Nat):Int)+1)=((0+1:Nat):Int) from rfl,SSd,Nat.reduceAdd];exact zAA ⟨m - 1,by omega,1,by omega,by rw [et];rfl,rfl,rfl⟩
  |succ j=>
   have h0:((((j+1:Nat):Int))==0)=false:=by simp;omega
   simp only [h0,SSd,Nat.reduceAdd];unfold OQ;have hw:IntKind.i64.wrap (q1[j+1].toNat:Nat)=(q1[j+1].toNat:Nat):=wrap_i64 _ (by have:=q1[j+1].toNat_lt;omega);have hn1:AIN (q1.take (j+1+1))=Dv .or .i64 (IntKind.i64.wrap (AIN (q1.take (j+1)) * 2 ^ (min (8:Int).toNat IntKind.i64.bits))) (q1[j+1].toNat:Nat):=by
    rw [et];cases hq:q1.take (j+1) with
    |nil=>
     have:=congrArg List.length hq;rw [zai,zH] at this;omega
    |cons x y=>exact AFN y _ _
   simp only [Lr _ _ .i64 .u64 (show (0:Int)≤8 by decide),hw,wrap_i64 (((j+1:Nat):Int)+1) zo,SSd,Nat.reduceAdd];exact zAA ⟨m - 1,by omega,j+1+1,by omega,by rw [hn1];rfl,rfl,rfl⟩
 ·have hb:¬j < q1.length:=by
   have:=of_decide_eq_false hb;omega
  rw [zW zo];exact zAA (hk v2 h2)
end
section
variable {ω:Om}{I:Imm}{L F:LH}{K:Value→M}{b:Nat}{v:Value}
theorem Bytes.at' {I:Imm}{v:Value}{l:List UInt8}(h:Bytes I v l)(k:Nat)(hk:k < l.length):∃b off,ixV 1 v (.int .i64 k)=some (.pointer (some ⟨b,off,none⟩))∧∀I' L,Ext I I'→Cell I' L b off (.int .u8 (l.getD k 0).toNat):=by
 obtain ⟨b,off,h1,h2⟩:=Bytes.at h hk;refine ⟨b,off,h1,?_⟩;rw [List.getD_eq_getElem?_getD,zam hk];exact h2
theorem Yj (c:UInt8):IntKind.u32.wrap (c.toNat:Nat)=(c.toNat:Nat):=eq_of_beq (EX (p:=λc=>IntKind.u32.wrap (c.toNat:Nat)==((c.toNat:Nat):Int)) zq c)
theorem Ve {l:Bs}(hv:Bytes I v l)(h4:4≤l.length)(hk:K (.int .i64 (n4W (l.getD 0 0) (l.getD 1 0) (l.getD 2 0) (l.getD 3 0))) I L):CT ω 102 #[v] K I L:=by
 refine AOu ?_;unfold ALB;obtain ⟨b0,o0,e0,c0⟩:=Bytes.at' hv 0 zo;obtain ⟨b1,o1,e1,c1⟩:=Bytes.at' hv 1 zo;obtain ⟨b2,o2,e2,c2⟩:=Bytes.at' hv 2 zo;obtain ⟨b3,o3,e3,c3⟩:=Bytes.at' hv 3 zo;generalize l.getD 0 0=x0 at *;generalize l.getD 1 0=x1 at *;generalize l.getD 2 0=x2 at *;generalize l.getD 3 0=x3 at *;have s24:∀a:Int,AA .shl (.int .u32 a) (.int .u64 24)=some (.int .u32 (IntKind.u32.wrap (a * 16777216))):=λa=>Lr _ _ .u32 .u64 zx;have s16:∀a:Int,AA .shl (.int .u32 a) (.int .u64 16)=some (.int .u32 (IntKind.u32.wrap (a * 65536))):=λa=>Lr _ _ .u32 .u64 zx;have s8:∀a:Int,AA .shl (.int .u32 a) (.int .u64 8)=some (.int .u32 (IntKind.u32.wrap (a * 256))):=λa=>Lr _ _ .u32 .u64 zx;have e0:ixV 1 v (.int .i64 0)=some (.pointer (some ⟨b0,o0,none⟩)):=e0;have e1:ixV 1 v (.int .i64 1)=some (.pointer (some ⟨b1,o1,none⟩)):=e1;have e2:ixV 1 v (.int .i64 2)=some (.pointer (some ⟨b2,o2,none⟩)):=e2;have e3:ixV 1 v (.int .i64 3)=some (.pointer (some ⟨b3,o3,none⟩)):=e3;refine Ci ?_;simp only [e0,SSd,Nat.reduceAdd];refine PZ (c0 _ _ (zAC _)) ?_;simp only [e1,Yj,s24,SSd,Nat.reduceAdd];refine PZ (c1 _ _ (zAC _)) ?_;simp only [e2,Yj,s16,SSd,Nat.reduceAdd];refine PZ (c2 _ _ (zAC _)) ?_;simp only [e3,Yj,s8,SSd,Nat.reduceAdd];refine PZ (c3 _ _ (zAC _)) ?_;have hw:∀n:Int,IntKind.i64.wrap (IntKind.i32.wrap n)=i32 n:=λn=>by
  exact wrap_i64 _ (by rw [IntKind.wrap_i32];omega)
 simp only [Yj,hw,SSd,Nat.reduceAdd];exact zAA hk
theorem ACB (a b c d:UInt8): -2147483648≤n4W a b c d∧n4W a b c d≤2147483647:=by
 unfold n4W i32;rw [IntKind.wrap_i32];omega
theorem Vw {l:Bs}(hv:Bytes I v l)(head:Nat)(least most:Int)(hh:head≤100)(hn:l.length≤1000000000000)(hk:K (.tuple #[.int .i64 (Gt l head least most).1,.int .i64 (Gt l head least most).2]) I L):CT ω 74 #[v,.int .i64 head,.int .i64 least,.int .i64 most] K I L:=by
 refine AQw ?_;unfold APf;simp only [hv.len,wrap_i64 ((head:Int)+4) zo,SSd,Nat.reduceAdd];unfold Gt at hk;refine AL (λhb=>?_) (λhb=>?_)
 ·have hb:=of_decide_eq_true hb;rw [if_pos zo] at hk;exact zAA hk
 ·have hb:=of_decide_eq_false hb;rw [if_neg zo] at hk;obtain ⟨v1,e1,h1⟩:=Bytes.drop hv (n:=head) zo;simp only [e1,SSd,Nat.reduceAdd];refine call (Ve h1 (by rw [zaq];omega) ?_);have hg:∀i,(l.drop head).getD i 0=l.getD (head+i) 0:=λi=>by
   simp only [List.getD_eq_getElem?_getD,zat]
  rw [hg,hg,hg,hg,Nat.add_zero];simp only at hk
  have hr:=ACB (l.getD head 0) (l.getD (head+1) 0) (l.getD (head+2) 0) (l.getD (head+3) 0);generalize n4W (l.getD head 0) (l.getD (head+1) 0) (l.getD (head+2) 0) (l.getD (head+3) 0)=n at hk hr ⊢;try refine zqe ?_
  refine AL (λhb=>?_) (λhb=>?_)
  ·rw [if_pos (of_decide_eq_true hb)] at hk;exact zAA hk
  have hb1:=of_decide_eq_false hb;rw [if_neg hb1] at hk;try refine zqe ?_
  refine AL (λhb=>?_) (λhb=>?_)
  ·rw [if_pos (of_decide_eq_true hb)] at hk;exact zAA hk
  have hb2:=of_decide_eq_false hb;rw [if_neg hb2] at hk;simp only [hv.len,wrap_i64 ((l.length:Int) - head) zo,SSd,Nat.reduceAdd];refine AL (λhb=>?_) (λhb=>?_)
  ·rw [if_pos (of_decide_eq_true hb)] at hk;exact zAA hk
  ·rw [if_neg (of_decide_eq_false hb)] at hk;exact zAA hk
def FrC (f:TFront)(c:List Value):Prop:=∃(a:Option Addr) (n k:Nat) (p s t:Int),c=[.int .i64 f.fKind,.slice a n k,.string ⟨f.fText.toArray⟩,.int .i64 p,.int .i64 s,.int .u8 t]
theorem FrC.zero:FrC {} [.int .i64 0,.slice none 0 0,.string ⟨#[]⟩,.int .i64 0,.int .i64 0,.int .u8 0]:=⟨none,0,0,0,0,0,rfl⟩
abbrev FrO (c:List Value):Obj:=.cells c.toArray 106 (0,0)
theorem FrC.one {f:TFront}{c:List Value}(h:FrC f c):c.length=6∧∀u∈c,u.oneCell'=true:=by
 obtain ⟨a,n,k,p,s,t,rfl⟩:=h;exact ⟨rfl,AV rfl⟩
abbrev z6:List Value:=[.int .i64 0,.slice none 0 0,.string ⟨#[]⟩,.int .i64 0,.int .i64 0,.int .u8 0]
theorem LW {b1 b3 b5:Nat}{r:Rdq}{f:TFront}{c c1:List Value}{p5:Value}[hs:SubP ((b5,FrO c)::(b3,RdO v r.bad)::(b1,FrO c1)::F) L](hv:Bytes I v r.b)(hf:FrC f c)(h1:c1.length=6)
  (hk:∀c',FrC (if r.whole then f else {}) c'→K (.tuple #[.agg c'.toArray,.int .i64 (if r.whole then 0 else 230)]) I F):
  Ox ω (.pointer (some ⟨b1,0,none⟩)) p5 (.pointer (some ⟨b3,0,none⟩)) (.pointer (some ⟨b5,0,none⟩)) (λv=>Gh (K v)) I L:=by
 obtain ⟨hc6,hco⟩:=hf.one;unfold Ox;refine call (Cal.to ((b5,FrO c)::(b3,RdO v r.bad)::(b1,FrO c1)::F) (VL hv ?_));cases hw:r.whole with
 |true=>
  simp only [hw,if_true] at hk;simp only [zB,SSd,Nat.reduceAdd];refine BV hc6 ?_;refine stB hc6 h1 hco ?_;refine BV hc6 ?_;exact zAE F (zAA (hk c hf))
 |false=>
  simp only [hw,zl,if_false] at hk;simp only [zak,SSd,Nat.reduceAdd];refine stB rfl h1 (AV rfl) ?_;refine BV rfl ?_;exact zAE F (zAA (hk _ FrC.zero))
theorem UQ {l:Bs}(tag:UInt8)(hv:Bytes I v l)(hn:l.length≤1000000000000)(hk:∀c,FrC (Qs tag.toNat l).1 c→K (.tuple #[.agg c.toArray,.int .i64 (Qs tag.toNat l).2]) I F):CT ω 76 #[.int .u8 tag.toNat,v] K I F:=by
 obtain ⟨a0,k0,rfl⟩:=hv.form;refine AQu ?_;unfold APd;refine Ap (λb1=>?_);try refine zqe ?_
 refine Ap (λb3=>?_);try refine zqe ?_
 refine Ap (λb5=>?_);refine stB rfl rfl (AV rfl) ?_;have fin:∀(f:TFront) (r:Rdq),(∀c,FrC (if r.whole=true then (f,(0:Int)) else ({},230)).1 c→K (.tuple #[.agg c.toArray,.int .i64 (if r.whole=true then (f,(0:Int)) else ({},230)).2]) I F)→∀c',FrC (if r.whole then f else {}) c'→K (.tuple #[.agg c'.toArray,.int .i64 (if r.whole then 0 else 230)]) I F:=by
  intro f r h c' hc';cases hr:r.whole with
  |true=>rw [hr] at h hc';exact h c' hc'
  |false=>rw [hr] at h hc';exact h c' hc'
 unfold Qs at hk;try refine zqe ?_
 by_cases h1:((tag.toNat:Int)==81)=true
 ·rw [if_pos h1] at hk;simp only [h1,SSd,Nat.reduceAdd];refine call (Ju (r:=⟨l,false⟩) hv (λv2 h2=>?_));try refine zqe ?_
  refine stB rfl rfl (AV rfl) ?_;exact LW (c1:=z6) (r:=(Rdq.text ⟨l,false⟩).2) (f:={fKind:=4,fText:=(Rdq.text ⟨l,false⟩).1}) h2 ⟨none,0,0,0,0,0,rfl⟩ rfl (fin _ _ hk)
 rw [if_neg h1] at hk;simp only [zg.2 h1,SSd,Nat.reduceAdd];by_cases h2:((tag.toNat:Int)==88)=true
 ·rw [if_pos h2] at hk;simp only [h2,SSd,Nat.reduceAdd];refine stB rfl rfl (AV rfl) ?_;exact LW (c1:=z6) (r:=⟨l,false⟩) (f:={fKind:=5}) hv ⟨none,0,0,0,0,0,rfl⟩ rfl (fin _ _ hk)
 rw [if_neg h2] at hk;simp only [zg.2 h2,SSd,Nat.reduceAdd];refine st1 rfl ?_;exact LW (c1:=z6) (r:=⟨[],false⟩) (f:={fKind:=6,fTag:=tag.toNat}) (SlI.nil _ _ none 0) ⟨none,0,0,0,0,tag.toNat,rfl⟩ rfl (fin _ _ hk)
theorem JV {l:Bs}(h:0 < l.length):l.headD 0=l[0]:=by
 cases l with
 |nil=>simp at h
 |cons x y=>rfl
theorem WC {b1 b3 b5:Nat}{r:Rdq}{f:TFront}{c c1:List Value}{p5:Value}[hs:SubP ((b5,FrO c)::(b3,RdO v r.bad)::(b1,FrO c1)::F) L](hv:Bytes I v r.b)(hf:FrC f c)(h1:c1.length=6)
  (hk:∀c',FrC (if r.whole then f else {}) c'→K (.tuple #[.agg c'.toArray,.int .i64 (if r.whole then 0 else 230)]) I F):
  Xg ω (.pointer (some ⟨b1,0,none⟩)) p5 (.pointer (some ⟨b3,0,none⟩)) (.pointer (some ⟨b5,0,none⟩)) (λv=>Gh (K v)) I L:=LW (p5:=p5) (c1:=c1) (f:=f) hv hf h1 hk
theorem ACT {b1 b3 b5:Nat}{r:Rdq}{f:TFront}{c c1:List Value}{p5:Value}[hs:SubP ((b5,FrO c)::(b3,RdO v r.bad)::(b1,FrO c1)::F) L](hv:Bytes I v r.b)(hf:FrC f c)(h1:c1.length=6)
  (hk:∀c',FrC (if r.whole then f else {}) c'→K (.tuple #[.agg c'.toArray,.int .i64 (if r.whole then 0 else 230)]) I F):
  ADi ω (.pointer (some ⟨b1,0,none⟩)) p5 (.pointer (some ⟨b3,0,none⟩)) (.pointer (some ⟨b5,0,none⟩)) (λv=>Gh (K v)) I L:=LW (p5:=p5) (c1:=c1) (f:=f) hv hf h1 hk
theorem FP (n:Int)(r:Rdq):(r.take n).2.b.length≤r.b.length:=by
 unfold Rdq.take;split
 ·exact zh _
 ·rw [zaq];omega
theorem RY (r:Rdq):r.text.2.b.length≤r.b.length:=by
 unfold Rdq.text;simp only;split
 ·exact FP _ r
 ·exact zaC (FP _ _) (FP _ r)
theorem JM {r:Rdq}(h:r.text.2.bad=false):r.text.2.b.length < r.b.length:=by
 unfold Rdq.text at *;simp only at *
 split at h
 ·rename_i h1;rw [h1] at h;cases h
 rename_i h1
 rw [if_neg h1];have hle:=FP (ix0 r.b) r;generalize hq:r.take (ix0 r.b)=q at *;obtain ⟨q1,q2,q3⟩:=q;simp only [Rdq.take] at h ⊢;split at h
 ·cases h
 ·rename_i h2
  rw [if_neg h2];simp only [zaq] at *;omega
theorem Ol {r:Rdq}(h:r.bad=true):r.text.2.bad=true:=by
 unfold Rdq.text Rdq.take;simp only;repeat' split
 all_goals first
  |exact h
  |rfl
  |(simp only at *; assumption)
theorem IE:∀(n:Nat) {r:Rdq} (acc:List TParam),r.bad=true→CQ n r acc=some (acc,r)
 |0,r,acc,_=>rfl
 |n+1,r,acc,h=>by unfold CQ;rw [if_neg (by simp [h])]
theorem Ir:∀(n m:Nat) {r:Rdq} (acc:List TParam),r.b.length < n→r.b.length < m→CQ n r acc=CQ m r acc
 |0,m,r,acc,h,_=>by omega
 |n+1,0,r,acc,_,h=>by omega
 |n+1,m+1,r,acc,h1,h2=>by
  unfold CQ;split
  ·split
   ·rfl
   ·cases hb:r.text.2.text.2.bad with
    |true=>rw [IE n _ hb,IE m _ hb]
    |false=>
     have hb1:r.text.2.bad=false:=by
      cases h:r.text.2.bad with
      |false=>rfl
      |true=>rw [Ol h] at hb;cases hb
     have:=JM hb1;have:=JM hb;exact Ir n m _ zo zo
  ·rfl
def ABJ (_:Imm)(x:TParam)(c:List Value):Prop:=c=[.string ⟨x.fName.toArray⟩,.string ⟨x.fValue.toArray⟩]
theorem ABu {b1 b3 b5:Nat}{r:Rdq}{f:TFront}(hv:Bytes I v r.b)(hn:r.b.length≤1000000000000)(hf:f={fKind:=1})
  (hk:match CQ (r.b.length+1) r [] with
   |none=>∀c',FrC {} c'→K (.tuple #[.agg c'.toArray,.int .i64 231]) I F
   |some (l,r')=>∀c',FrC (if (r'.take 1).2.whole then f else {}) c'→K (.tuple #[.agg c'.toArray,.int .i64 (if (r'.take 1).2.whole then 0 else 230)]) I F):
  Aq (((Value.int .i64 0),()):Value×Unit) (λs Kn0=>Xf ω (.pointer (some ⟨b1,0,none⟩)) (.pointer (some ⟨b3,0,none⟩)) (.pointer (some ⟨b5,0,none⟩)) s.1 Kn0 (λv=>Gh (K v))) I ((b3,RdO v r.bad)::(b5,FrO [.int .i64 1,.slice none 0 0,.string ⟨#[]⟩,.int .i64 0,.int .i64 0,.int .u8 0])::(b1,FrO z6)::F):=by
 refine loop (λm st I' L'=>∃(r':Rdq) (v' vp:Value) (X:LH) (acc:List TParam) (cells:List Value),st=(Value.int .i64 0,())∧I'=I∧L'=X++((b3,RdO v' r'.bad)::(b5,FrO [.int .i64 1,vp,.string ⟨#[]⟩,.int .i64 0,.int .i64 0,.int .u8 0])::(b1,FrO z6)::F)∧
   Bytes I v' r'.b∧SlO 181 2 X vp cells acc.length∧Recs (ABJ I) 2 acc cells∧acc.length≤32∧r'.b.length≤r.b.length∧CQ (r.b.length+1) r []=CQ (r'.b.length+1) r' acc∧(if r'.bad then 0 else r'.b.length+1)≤m) (r.b.length+1)
  ⟨r,v,.slice none 0 0,[],[],[],rfl,rfl,rfl,hv,zAJ _ _,rfl,by simp,zh _,rfl,by split <;> omega⟩ ?_
 rintro m st I' L' ⟨⟨rb,bad⟩,v',vp,X,acc,cells,rfl,rfl,rfl,hv',hX,hR,ha,hle,he,hm⟩;simp only at hv' hle hm
 rw [he] at hk;unfold Xf;have fin:((rb.length > 0&&(rb.headD 0 != 0&& !bad))=false)→Oy ω (.pointer (some ⟨b1,0,none⟩)) (.int .i64 0) (.pointer (some ⟨b3,0,none⟩)) (.pointer (some ⟨b5,0,none⟩)) (λv=>Gh (K v)) I' (X++((b3,RdO v' bad)::(b5,FrO [.int .i64 1,vp,.string ⟨#[]⟩,.int .i64 0,.int .i64 0,.int .u8 0])::(b1,FrO z6)::F)):=by
  intro hc;unfold CQ at hk;rw [if_neg (by rw [hc];decide)] at hk;simp only at hk
  unfold Oy;obtain ⟨a,k,rfl⟩:=hX.form;refine call (IA (r:=⟨rb,bad⟩) 1 hv' (λv1 v2 h1 h2=>?_));exact ACT (c1:=z6) (f:=f) (r:=((Rdq.mk rb bad).take 1).2) (c:=[.int .i64 1,.slice a acc.length k,.string ⟨#[]⟩,.int .i64 0,.int .i64 0,.int .u8 0]) h2 ⟨a,_,k,0,0,0,by subst hf;rfl⟩ rfl hk
 obtain ⟨a0,k0,rfl⟩:=hv'.form;try refine zqe ?_
 refine rdb ?_;simp only [Dx,SSd,Nat.reduceAdd];refine BX (λhb=>?_) (λhb=>?_)
 ·have hb:=of_decide_eq_true hb;obtain ⟨bt,off,e1,e2⟩:=Bytes.at hv' (k:=0) zo;have e1:ixV 1 (.slice a0 rb.length k0) (.int .i64 0)=some (.pointer (some ⟨bt,off,none⟩)):=e1;try refine zqe ?_
  refine rdb ?_;simp only [e1,SSd,Nat.reduceAdd];refine rd1 (e2 _ _ (zAC _)) ?_;have hh:rb.headD 0=rb[0]:=JV zo;have hgt:decide (rb.length > 0)=true:=decide_eq_true zo;have hz:(((rb[0]).toNat:Int) != 0)=(rb.headD 0 != 0):=by
   rw [hh];exact eq_of_beq (EX (p:=λc=>((((c.toNat:Nat):Int) != 0)==(c != 0))) zq rb[0])
  simp only [hz,SSd,Nat.reduceAdd];cases hd:(rb.headD 0 != 0) with
  |false=>
   try refine zqe ?_
   exact fin (by rw [hgt,hd];rfl)
  |true=>
   try refine zqe ?_
   refine rdb ?_;try refine zqe ?_
   cases bad with
   |true=>
    simp only [zB,SSd,Nat.reduceAdd];exact fin (by simp [hd])
   |false=>
    simp only [zak,SSd,Nat.reduceAdd];have hc:(decide (rb.length > 0)&&(rb.headD 0 != 0&& !false))=true:=by rw [hgt,hd];rfl
    have ep:CQ (rb.length+1) ⟨rb,false⟩ acc=if acc.length==32 then none else CQ rb.length (Rdq.mk rb false).text.2.text.2 (acc++[⟨(Rdq.mk rb false).text.1,(Rdq.mk rb false).text.2.text.1⟩]):=by
     rw [CQ,if_pos hc]
    obtain ⟨a,k,rfl⟩:=hX.form;refine rdb ?_;simp only [Dx,SSd,Nat.reduceAdd];by_cases h32:acc.length=32
    ·rw [ep,if_pos (by rw [h32];rfl)] at hk;simp only at hk
     unfold ADj;simp only [h32,show (((32:Nat):Int)==32)=true from rfl,SSd,Nat.reduceAdd];refine stB rfl rfl (AV rfl) ?_;refine BV rfl ?_;exact zAE F (zAA (hk _ FrC.zero))
    ·have h32':(((acc.length:Nat):Int)==32)=false:=by
      apply beq_false_of_ne;omega
     rw [if_neg (by simpa using h32)] at ep;simp only [h32',SSd,Nat.reduceAdd];refine call (Ju (r:=⟨rb,false⟩) hv' (λv2 h2=>?_));try refine zqe ?_
     refine Ap (λbp=>?_);refine stB rfl rfl (AV rfl) ?_;refine call (Ju (r:=(Rdq.mk rb false).text.2) h2 (λv3 h3=>?_));try refine zqe ?_
     refine st1 rfl ?_;try refine zqe ?_
     refine rdb ?_;refine BV rfl ?_;have hl1:=RY (Rdq.mk rb false);have hl2:=RY (Rdq.mk rb false).text.2;refine GX (R:=ABJ) (x:=⟨(Rdq.mk rb false).text.1,(Rdq.mk rb false).text.2.text.1⟩) (X6:=X) rfl zo hX hR rfl rfl (AV rfl) zo zo (λX1 X6 w6 cells6 hX6 hR6=>?_);obtain ⟨a6,k6,rfl⟩:=hX6.form;try refine zqe ?_
     refine st1 rfl ?_;have ep2:CQ rb.length (Rdq.mk rb false).text.2.text.2 (acc++[⟨(Rdq.mk rb false).text.1,(Rdq.mk rb false).text.2.text.1⟩])=CQ ((Rdq.mk rb false).text.2.text.2.b.length+1) (Rdq.mk rb false).text.2.text.2 (acc++[⟨(Rdq.mk rb false).text.1,(Rdq.mk rb false).text.2.text.1⟩]):=by
      cases hb2:(Rdq.mk rb false).text.2.text.2.bad with
      |true=>rw [IE _ _ hb2,IE _ _ hb2]
      |false=>
       have hb1:(Rdq.mk rb false).text.2.bad=false:=by
        cases h:(Rdq.mk rb false).text.2.bad with
        |false=>rfl
        |true=>rw [Ol h] at hb2;cases hb2
       have:=JM hb1;exact Ir _ _ _ (by simp only at this;omega) zo
     have hdec:(if (Rdq.mk rb false).text.2.text.2.bad then 0 else (Rdq.mk rb false).text.2.text.2.b.length+1) < m:=by
      simp only [zl,if_false] at hm;split
      ·omega
      ·rename_i hb2
       have hb2:(Rdq.mk rb false).text.2.text.2.bad=false:=by simpa using hb2
       have hb1:(Rdq.mk rb false).text.2.bad=false:=by
        cases h:(Rdq.mk rb false).text.2.bad with
        |false=>rfl
        |true=>rw [Ol h] at hb2;cases hb2
       have:=JM hb1;simp only at this
       omega
     simp only at hl1
     refine zAE (X6++((b3,RdO v3 (Rdq.mk rb false).text.2.text.2.bad)::(b5,FrO [.int .i64 1,.slice a6 (acc++[TParam.mk (Rdq.mk rb false).text.1 (Rdq.mk rb false).text.2.text.1]).length k6,.string ⟨#[]⟩,.int .i64 0,.int .i64 0,.int .u8 0])::(b1,FrO z6)::F)) (zAA ?_);exact ⟨_,hdec,(Rdq.mk rb false).text.2.text.2,v3,_,X6,_,cells6,by trivial,by trivial,by trivial,h3,hX6,hR6,by simp;omega,by omega,by rw [he,ep,ep2],zh _⟩
 ·refine fin ?_;have:¬rb.length > 0:=by
   intro h;exact hb (decide_eq_true zo)
  rw [decide_eq_false this];rfl
end
def BZ {α:Type}(w:α→Nat)(g:Pr α):Prop:=∀l x r,g l= .ok x r→r.length+w x≤l.length
theorem Ah {l:List Tok}{s:Bs}(h:isT l s=true):l.tail.length+1=l.length:=by
 cases l with
 |nil=>simp [isT,hd,default,instInhabitedTok] at h
 |cons t r=>rfl
theorem GI {l:List Tok}{k:Int}(h:isK l k=true)(hk:k≠0):l.tail.length+1=l.length:=by
 cases l with
 |nil=>simp [isK,hd,default,instInhabitedTok] at h;exact absurd h.symm hk
 |cons t r=>rfl
theorem bind_ok {α β:Type}{x:Res α}{f:α→Pr β}{y:β}{r:List Tok}(h:x.bind f= .ok y r):∃a q,x= .ok a q∧f a q= .ok y r:=by
 cases x with
 |ok a q=>exact ⟨a,q,rfl,h⟩
 |err e=>cases h
theorem Ag {s:Bs}{l r:List Tok}{u:Unit}(h:AO s l= .ok u r):r.length+1=l.length:=by
 unfold AO at h;split at h
 ·rename_i ht
  simp only [Res.ok.injEq,true_and] at h;subst h;exact Ah ht
 ·cases h
theorem Az:BZ (λ_=>1) Aw:=by
 intro l x r h;unfold Aw at h;split at h
 ·rename_i ht
  simp only [Res.ok.injEq] at h;obtain ⟨_,rfl⟩:=h;have:=GI ht zx;show l.tail.length+1≤l.length;omega
 ·cases h
theorem DI:∀(a b:List Ex),Aa (a++b)=Aa a+Aa b
 |[],b=>by simp [Aa]
 |x::a,b=>by simp only [zah,Aa,DI a b];omega
theorem SV {g:Pr Ex}(hg:BZ Aj g):∀(n:Nat) (acc:List Ex) (l:List Tok) (x:List Ex) (r:List Tok),DD g n acc l= .ok x r→r.length+Aa x≤l.length+Aa acc
 |0,acc,l,x,r,h=>by simp only [DD,Res.ok.injEq] at h;obtain ⟨rfl,rfl⟩:=h;omega
 |n+1,acc,l,x,r,h=>by
  simp only [DD] at h;split at h
  ·rename_i ht
   obtain ⟨a,q,h1,h2⟩:=bind_ok h;have c1:=hg _ _ _ h1;have c2:=SV hg n _ _ _ _ h2;have c3:=Ah ht;rw [DI] at c2;simp only [Aa] at c2;omega
  ·simp only [Res.ok.injEq] at h;obtain ⟨rfl,rfl⟩:=h;omega
theorem ACe {g:Pr Ex}(hg:BZ Aj g)(n:Nat):BZ Aa (BR n g):=by
 intro l x r h;obtain ⟨a,q,h1,h2⟩:=bind_ok h;have c1:=hg _ _ _ h1;have c2:=SV hg n _ _ _ _ h2;simp only [Aa] at c2;omega
theorem SK {g:Pr Ex}(hg:BZ Aj g)(n:Nat):BZ (λx=>Aa x+2) (CP n g):=by
 intro l x r h;obtain ⟨_,q,h1,h2⟩:=bind_ok h;obtain ⟨a,q2,h3,h4⟩:=bind_ok h2;obtain ⟨_,q3,h5,h6⟩:=bind_ok h4;simp only [Res.ok.injEq] at h6;obtain ⟨rfl,rfl⟩:=h6;have c1:=Ag h1;have c2:=ACe hg n _ _ _ h3;have c3:=Ag h5;simp only;omega
theorem SX {g:Pr Ex}(hg:BZ Aj g){op:List Tok→Int}(hop:∀l,op l≠0→l.tail.length+1=l.length):∀(n:Nat) (x:Ex) (l:List Tok) (y:Ex) (r:List Tok),Gf g op n x l= .ok y r→r.length+Aj y≤l.length+Aj x
 |0,x,l,y,r,h=>by simp only [Gf,Res.ok.injEq] at h;obtain ⟨rfl,rfl⟩:=h;omega
 |n+1,x,l,y,r,h=>by
  simp only [Gf] at h;split at h
  ·simp only [Res.ok.injEq] at h;obtain ⟨rfl,rfl⟩:=h;omega
  ·rename_i h0
   obtain ⟨a,q,h1,h2⟩:=bind_ok h;have c1:=hg _ _ _ h1;have c2:=SX hg hop n _ _ _ _ h2;have c3:=hop l h0;simp only [exK,Aj,Aa] at c2;omega
theorem IX {g:Pr Ex}(hg:BZ Aj g){op:List Tok→Int}(hop:∀l,op l≠0→l.tail.length+1=l.length)(n:Nat):BZ Aj (DN n g op):=by
 intro l x r h;obtain ⟨a,q,h1,h2⟩:=bind_ok h;have c1:=hg _ _ _ h1;have c2:=SX hg hop n _ _ _ _ h2;omega
theorem AMQ (l:List Tok)(h:UL l≠0):l.tail.length+1=l.length:=by
 unfold UL at h;split at h
 ·exact Ah ‹_›
 ·exact absurd rfl h
theorem AIW (l:List Tok)(h:LG l≠0):l.tail.length+1=l.length:=by
 unfold LG at h;split at h
 ·exact Ah ‹_›
 ·exact absurd rfl h
theorem AFk (f:Bs→Option Int)(l:List Tok)(h:KA f l≠0):l.tail.length+1=l.length:=by
 unfold KA at h;split at h
 ·exact GI ‹_› zx
 ·exact absurd rfl h
theorem AIV (l:List Tok)(h:GZ l≠0):l.tail.length+1=l.length:=by
 unfold GZ at h;repeat' split at h
 all_goals first
  |exact Ah ‹_›
  |exact absurd rfl h
theorem Vj {l:List Tok}{v:TValue}(h:LK l=some v):l.tail.length+1=l.length:=by
 unfold LK at h;repeat' split at h
 all_goals first
  |exact GI ‹_› zx
  |exact Ah ‹_›
  |cases h
theorem QX:BZ Aj Qr:=by
 intro l x r h;unfold Qr at h;split at h
 ·rename_i ht
  simp only [Res.ok.injEq] at h;obtain ⟨rfl,rfl⟩:=h;have:=GI ht zx;simp only [LY,Aj,Aa];omega
 ·cases h
theorem SN {E:Pr Ex}(hE:BZ Aj E)(n:Nat){acc:List Ex}{l:List Tok}{a:List Ex}{r:List Tok}(h:Ez n E acc l= .ok a r):r.length+Aa a+2≤l.length+Aa acc:=by
 obtain ⟨_,q,h1,h2⟩:=bind_ok h;obtain ⟨x,q2,h3,h4⟩:=bind_ok h2;obtain ⟨_,q3,h5,h6⟩:=bind_ok h4;obtain ⟨y,q4,h7,h8⟩:=bind_ok h6;simp only [Res.ok.injEq] at h8;obtain ⟨rfl,rfl⟩:=h8;have c1:=Ag h1;have c2:=hE _ _ _ h3;have c3:=Ag h5;have c4:=hE _ _ _ h7;rw [DI];simp only [Aa];omega
theorem QW {E:Pr Ex}(hE:BZ Aj E)(n:Nat):∀(m:Nat) (acc:List Ex) (l:List Tok) (a:List Ex) (r:List Tok),FW n E m acc l= .ok a r→r.length+Aa a≤l.length+Aa acc
 |0,acc,l,a,r,h=>by simp only [FW,Res.ok.injEq] at h;obtain ⟨rfl,rfl⟩:=h;omega
 |m+1,acc,l,a,r,h=>by
  simp only [FW] at h;split at h
  ·obtain ⟨x,q,h1,h2⟩:=bind_ok h;have c1:=SN hE n h1;have c2:=QW hE n m _ _ _ _ h2;omega
  ·simp only [Res.ok.injEq] at h;obtain ⟨rfl,rfl⟩:=h;omega
theorem ACi {E:Pr Ex}(hE:BZ Aj E)(n:Nat):BZ Aj (Jo n E):=by
 intro l x r h;obtain ⟨a,q,h1,h2⟩:=bind_ok h;obtain ⟨a2,q2,h3,h4⟩:=bind_ok h2;obtain ⟨a3,q3,h5,h6⟩:=bind_ok h4;obtain ⟨_,q4,h7,h8⟩:=bind_ok h6;simp only [Res.ok.injEq] at h8;obtain ⟨rfl,rfl⟩:=h8;have c1:=SN hE n h1;have c2:=QW hE n n _ _ _ _ h3;have c4:=Ag h7;have c3:q3.length+Aa a3≤q2.length+Aa a2:=by
  split at h5
  ·rename_i ht
   obtain ⟨y,q5,g1,g2⟩:=bind_ok h5;simp only [Res.ok.injEq] at g2;obtain ⟨rfl,rfl⟩:=g2;have d1:=hE _ _ _ g1;have d2:=Ah ht;rw [DI];simp only [Aa];omega
  ·simp only [Res.ok.injEq] at h5;obtain ⟨rfl,rfl⟩:=h5;omega
 simp only [Aa] at c1;simp only [exK,Aj];omega
theorem ACj {E:Pr Ex}(hE:BZ Aj E)(n:Nat)(s:Bs):BZ Aj (EP n E s):=by
 intro l x r h;unfold EP at h;split at h
 ·obtain ⟨a,q,h1,h2⟩:=bind_ok h;simp only [Res.ok.injEq] at h2;obtain ⟨rfl,rfl⟩:=h2;have c1:=SK hE n _ _ _ h1;simp only at c1
  simp only [exK,Aj];omega
 obtain ⟨_,q,h1,h2⟩:=bind_ok h;have c1:=Ag h1;split at h2
 ·obtain ⟨a,q2,h3,h4⟩:=bind_ok h2;obtain ⟨_,q3,h5,h6⟩:=bind_ok h4;simp only [Res.ok.injEq] at h6;obtain ⟨rfl,rfl⟩:=h6;have c2:=hE _ _ _ h3;have c3:=Ag h5;simp only [exK,Aj,Aa];omega
 split at h2
 ·rename_i ht
  simp only [zQ] at ht;have c2:=Ah ht.2;obtain ⟨_,q3,h5,h6⟩:=bind_ok h2;simp only [Res.ok.injEq] at h6;obtain ⟨rfl,rfl⟩:=h6;have c3:=Ag h5;simp only [exK,Jl,Aj,Aa];omega
 ·obtain ⟨a,q2,h3,h4⟩:=bind_ok h2;obtain ⟨_,q3,h5,h6⟩:=bind_ok h4;simp only [Res.ok.injEq] at h6;obtain ⟨rfl,rfl⟩:=h6;have c2:=hE _ _ _ h3;have c3:=Ag h5;have c4:(if isT q [100,105,115,116,105,110,99,116] then q.tail else q).length≤q.length:=by split <;> simp
  simp only [Jl,Aj,Aa];omega
theorem YN {E U:Pr Ex}(hE:BZ Aj E)(hU:BZ Aj U)(n:Nat):BZ Aj (Hw n E U):=by
 intro l x r h;unfold Hw at h;split at h
 ·rename_i ht
  obtain ⟨a,q,h1,h2⟩:=bind_ok h;simp only [Res.ok.injEq] at h2;obtain ⟨rfl,rfl⟩:=h2;have c1:=hU _ _ _ h1;have c2:=Ah ht;simp only [exK,Aj,Aa];omega
 split at h
 ·rename_i ht
  obtain ⟨a,q,h1,h2⟩:=bind_ok h;obtain ⟨_,q2,h3,h4⟩:=bind_ok h2;simp only [Res.ok.injEq] at h4;obtain ⟨rfl,rfl⟩:=h4;have c1:=hE _ _ _ h1;have c2:=Ah ht;have c3:=Ag h3;omega
 split at h
 ·rename_i ht
  have c1:=ACi hE n _ _ _ h;have c2:=Ah ht;omega
 split at h
 ·exact QX _ _ _ h
 split at h
 ·rename_i v hv
  simp only [Res.ok.injEq] at h;obtain ⟨rfl,rfl⟩:=h;have:=Vj hv;simp only [LY,Aj,Aa];omega
 ·obtain ⟨s,q,h1,h2⟩:=bind_ok h;have c1:=Az _ _ _ h1;simp only at c1
  split at h2
  ·have:=ACj hE n _ _ _ _ h2;omega
  split at h2
  ·rename_i ht
   obtain ⟨c,q2,h3,h4⟩:=bind_ok h2;simp only [Res.ok.injEq] at h4;obtain ⟨rfl,rfl⟩:=h4;have c2:=Az _ _ _ h3;have c3:=Ah ht;simp only at c2
   simp only [SH,Aj,Aa];omega
  ·simp only [Res.ok.injEq] at h2;obtain ⟨rfl,rfl⟩:=h2;simp only [SH,Aj,Aa];omega
theorem MV (b:Bool)(x:Ex):Aj (Vg b x)=Aj x+if b then 1 else 0:=by
 cases b
 ·simp [Vg]
 ·simp [Vg,exK,Aj,Aa]
theorem ACf {E S:Pr Ex}(hE:BZ Aj E)(hS:BZ Aj S)(n:Nat):BZ Aj (Kz n E S):=by
 intro l x r h;obtain ⟨a,q,h1,h2⟩:=bind_ok h;have c1:=hS _ _ _ h1;simp only at h2
 split at h2
 ·rename_i h0
  obtain ⟨y,q2,h3,h4⟩:=bind_ok h2;simp only [Res.ok.injEq] at h4;obtain ⟨rfl,rfl⟩:=h4;have c2:=hS _ _ _ h3;have c3:=AIV _ h0;simp only [exK,Aj,Aa];omega
 split at h2
 ·rename_i ht
  have c2:=Ah ht;split at h2
  ·rename_i ht2
   have c3:=Ah ht2;obtain ⟨_,q2,h3,h4⟩:=bind_ok h2;simp only [Res.ok.injEq] at h4;obtain ⟨rfl,rfl⟩:=h4;have c4:=Ag h3;simp only [exK,Aj,Aa];omega
  ·obtain ⟨_,q2,h3,h4⟩:=bind_ok h2;simp only [Res.ok.injEq] at h4;obtain ⟨rfl,rfl⟩:=h4;have c4:=Ag h3;simp only [exK,Aj,Aa];omega
 have cb:(if isT q [110,111,116] then q.tail else q).length+(if isT q [110,111,116] then 1 else 0)=q.length:=by
  cases hn:isT q [110,111,116] with
  |true=>simpa using Ah hn
  |false=>simp
 generalize hq:(if isT q [110,111,116] then q.tail else q)=q1 at h2 cb;split at h2
 ·rename_i ht
  have c2:=Ah ht;obtain ⟨y,q2,h3,h4⟩:=bind_ok h2;simp only [Res.ok.injEq] at h4;obtain ⟨rfl,rfl⟩:=h4;have c3:=SK hE n _ _ _ h3;simp only at c3
  rw [MV];simp only [exK,Aj,Aa];omega
 split at h2
 ·rename_i ht
  have c2:=Ah ht;obtain ⟨y,q2,h3,h4⟩:=bind_ok h2;obtain ⟨_,q3,h5,h6⟩:=bind_ok h4;obtain ⟨z,q4,h7,h8⟩:=bind_ok h6;simp only [Res.ok.injEq] at h8;obtain ⟨rfl,rfl⟩:=h8;have c3:=hS _ _ _ h3;have c4:=Ag h5;have c5:=hS _ _ _ h7;rw [MV];simp only [exK,Aj,Aa];omega
 split at h2
 ·rename_i ht
  have c2:=Ah ht;obtain ⟨y,q2,h3,h4⟩:=bind_ok h2;simp only [Res.ok.injEq] at h4;obtain ⟨rfl,rfl⟩:=h4;have c3:=hS _ _ _ h3;rw [MV];simp only [exK,Aj,Aa];omega
 split at h2
 ·cases h2
 ·simp only [Res.ok.injEq] at h2;obtain ⟨rfl,rfl⟩:=h2;omega
theorem AGC {N Q:Pr Ex}(hN:BZ Aj N)(hQ:BZ Aj Q):BZ Aj (Vf N Q):=by
 intro l x r h;unfold Vf at h;split at h
 ·rename_i ht
  obtain ⟨y,q2,h3,h4⟩:=bind_ok h;simp only [Res.ok.injEq] at h4;obtain ⟨rfl,rfl⟩:=h4;have c1:=Ah ht;have c2:=hN _ _ _ h3;simp only [exK,Aj,Aa];omega
 ·exact hQ _ _ _ h
theorem KG:∀n,BZ Aj (eP n)∧BZ Aj (nP n)∧BZ Aj (uP n)
 |0=>⟨λl x r h=>by simp [eP,Jk] at h,λl x r h=>by simp [nP,Jk] at h,λl x r h=>by simp [uP,Jk] at h⟩
 |n+1=>by
  obtain ⟨hE,hN,hU⟩:=KG n;have u:=YN hE hU n;have s:=IX (IX u (AFk Oo) n) (AFk XW) n;have nn:=AGC hN (ACf hE s n);exact ⟨IX (IX nn AIW n) AMQ n,nn,u⟩
def pz (x:Ex):Nat:=if x.kind != 0 then Aj x else 0
theorem AAg (x:Ex):pz x≤Aj x:=by unfold pz;split <;> omega
theorem pz0:pz ex0=0:=rfl
theorem IC:∀l:List Ex,Aa (l.filter λx=>x.kind != 0)=(l.map pz).sum
 |[]=>rfl
 |x::l=>by
  simp only [List.filter_cons,zF,zae,pz];cases h:(x.kind != 0) with
  |true=>simp only [if_true,Aa,IC l]
  |false=>simp only [zl,if_false,IC l];simp
theorem QY {α:Type}{w:α→Nat}{g:Pr α}(hg:BZ w g):∀(n:Nat) (acc:List α) (l:List Tok) (x:List α) (r:List Tok),DD g n acc l= .ok x r→r.length+(x.map w).sum≤l.length+(acc.map w).sum
 |0,acc,l,x,r,h=>by simp only [DD,Res.ok.injEq] at h;obtain ⟨rfl,rfl⟩:=h;omega
 |n+1,acc,l,x,r,h=>by
  simp only [DD] at h;split at h
  ·rename_i ht
   obtain ⟨a,q,h1,h2⟩:=bind_ok h;have c1:=hg _ _ _ h1;have c2:=QY hg n _ _ _ _ h2;have c3:=Ah ht;simp only [zaa,zF,zal,zaR,zae,zaA] at c2;omega
  ·simp only [Res.ok.injEq] at h;obtain ⟨rfl,rfl⟩:=h;omega
theorem Dk {α:Type}{w:α→Nat}{g:Pr α}(hg:BZ w g)(n:Nat):BZ (λx=>(x.map w).sum) (BR n g):=by
 intro l x r h;obtain ⟨a,q,h1,h2⟩:=bind_ok h;have c1:=hg _ _ _ h1;have c2:=QY hg n _ _ _ _ h2;simp only [zF,zal,zae,zaA] at c2;simp only;omega
theorem QV {α:Type}{w:α→Nat}{g:Pr α}(hg:BZ w g)(n:Nat):BZ (λx=>(x.map w).sum) (CP n g):=by
 intro l x r h;obtain ⟨_,q,h1,h2⟩:=bind_ok h;obtain ⟨a,q2,h3,h4⟩:=bind_ok h2;obtain ⟨_,q3,h5,h6⟩:=bind_ok h4;simp only [Res.ok.injEq] at h6;obtain ⟨rfl,rfl⟩:=h6;have c1:=Ag h1;have c2:=Dk hg n _ _ _ h3;have c3:=Ag h5;simp only at c2 ⊢;omega
theorem KH (n:Nat):BZ pz (eP n):=λl x r h=>by
 have:=(KG n).1 l x r h;have:=AAg x;omega
theorem GK (n:Nat):BZ (λx=>0 * x.length) (CP n Aw):=by
 intro l x r h;have:=QV (w:=λ_=>0) (λl x r h=>by have:=Az l x r h;simp only at this ⊢;omega) n l x r h;simp only at this ⊢;omega
theorem GM (n:Nat)(s:Bs):BZ pz (Eh n s):=by
 intro l x r h;unfold Eh at h;split at h
 ·have c1:=KH n _ _ _ h;have c2:=Ah ‹_›;omega
 ·simp only [Res.ok.injEq] at h;obtain ⟨rfl,rfl⟩:=h;rw [pz0];omega
theorem ACg (n:Nat):BZ (λx=>pz x.fExpr) (Ic n):=by
 intro l x r h;unfold Ic at h;split at h
 ·simp only [Res.ok.injEq] at h;obtain ⟨rfl,rfl⟩:=h;have:=Ah ‹_›;simp only [pz0];omega
 split at h
 ·simp only [Res.ok.injEq] at h;obtain ⟨rfl,rfl⟩:=h;simp only [pz0,zaV];omega
 ·obtain ⟨y,q,h1,h2⟩:=bind_ok h;have c1:=KH n _ _ _ h1;split at h2
  ·obtain ⟨a,q2,h3,h4⟩:=bind_ok h2;simp only [Res.ok.injEq] at h4;obtain ⟨rfl,rfl⟩:=h4;have c2:=Az _ _ _ h3;have c3:=Ah ‹_›;simp only at c2 ⊢;omega
  ·simp only [Res.ok.injEq] at h2;obtain ⟨rfl,rfl⟩:=h2;exact c1
theorem YQ (n:Nat):BZ (λx=>pz x.fExpr) (Iu n):=by
 intro l x r h;obtain ⟨y,q,h1,h2⟩:=bind_ok h;have c1:=KH n _ _ _ h1;split at h2
 ·simp only [Res.ok.injEq] at h2;obtain ⟨rfl,rfl⟩:=h2;have:=Ah ‹_›;simp only;omega
 split at h2
 ·simp only [Res.ok.injEq] at h2;obtain ⟨rfl,rfl⟩:=h2;have:=Ah ‹_›;simp only;omega
 ·simp only [Res.ok.injEq] at h2;obtain ⟨rfl,rfl⟩:=h2;exact c1
theorem AGB (n:Nat):BZ (λx=>pz x.fExpr) (Xi n):=by
 intro l x r h;obtain ⟨s,q,h1,h2⟩:=bind_ok h;obtain ⟨_,q2,h3,h4⟩:=bind_ok h2;obtain ⟨y,q3,h5,h6⟩:=bind_ok h4;simp only [Res.ok.injEq] at h6;obtain ⟨rfl,rfl⟩:=h6;have c1:=Az _ _ _ h1;have c2:=Ag h3;have c3:=KH n _ _ _ h5;simp only at c1 ⊢;omega
theorem Gj:BZ (λx=>pz x.fOn) DK:=by
 intro l x r h;obtain ⟨s,q,h1,h2⟩:=bind_ok h;have c1:=Az _ _ _ h1;simp only at c1
 split at h2
 ·obtain ⟨a,q2,h3,h4⟩:=bind_ok h2;simp only [Res.ok.injEq] at h4;obtain ⟨rfl,rfl⟩:=h4;have c2:=Az _ _ _ h3;have c3:=Ah ‹_›;simp only [pz0] at c2 ⊢;omega
 split at h2
 ·obtain ⟨a,q2,h3,h4⟩:=bind_ok h2;simp only [Res.ok.injEq] at h4;obtain ⟨rfl,rfl⟩:=h4;have c2:=Az _ _ _ h3;simp only [pz0] at c2 ⊢;omega
 ·simp only [Res.ok.injEq] at h2;obtain ⟨rfl,rfl⟩:=h2;simp only [pz0];omega
theorem NE (n:Nat)(b:Bool):BZ (λx=>pz x.fOn) (Hf n b):=by
 intro l x r h;obtain ⟨_,q,h1,h2⟩:=bind_ok h;obtain ⟨s,q2,h3,h4⟩:=bind_ok h2;obtain ⟨_,q3,h5,h6⟩:=bind_ok h4;obtain ⟨y,q4,h7,h8⟩:=bind_ok h6;simp only [Res.ok.injEq] at h8;obtain ⟨rfl,rfl⟩:=h8;have c1:=Ag h1;have c2:=Gj _ _ _ h3;have c3:=Ag h5;have c4:=KH n _ _ _ h7;simp only at c2 ⊢;omega
theorem QZ (n:Nat):∀(m:Nat) (acc:List TSource) (l:List Tok) (x:List TSource) (r:List Tok),DZ n m acc l= .ok x r→r.length+(x.map λx=>pz x.fOn).sum≤l.length+(acc.map λx=>pz x.fOn).sum
 |0,acc,l,x,r,h=>by simp only [DZ,Res.ok.injEq] at h;obtain ⟨rfl,rfl⟩:=h;omega
 |m+1,acc,l,x,r,h=>by
  have one:∀{g:Pr TSource} (_:BZ (λx=>pz x.fOn) g) {l':List Tok},l'.length≤l.length→(g l').bind (λs r=>DZ n m (acc++[s]) r)= .ok x r→r.length+(x.map λx=>pz x.fOn).sum≤l.length+(acc.map λx=>pz x.fOn).sum:=by
   intro g hg l' hl h;obtain ⟨a,q,h1,h2⟩:=bind_ok h;have c1:=hg _ _ _ h1;have c2:=QZ n m _ _ _ _ h2;simp only [zaa,zF,zal,zaR,zae,zaA] at c2;simp only at c1;omega
  simp only [DZ] at h;split at h
  ·exact one Gj zy h
  split at h
  ·obtain ⟨_,q,h1,h2⟩:=bind_ok h;have c1:=Ag h1;have c2:=Ah ‹_›;exact one Gj zo h2
  split at h
  ·exact one (NE n true) zy h
  split at h
  ·exact one (NE n false) zy h
  split at h
  ·exact one (NE n false) (zh _) h
  ·simp only [Res.ok.injEq] at h;obtain ⟨rfl,rfl⟩:=h;omega
theorem ACh (n:Nat):BZ (λx=>(x.map λx=>pz x.fOn).sum) (NW n):=by
 intro l x r h;obtain ⟨a,q,h1,h2⟩:=bind_ok h;have c1:=Gj _ _ _ h1;have c2:=QZ n n _ _ _ _ h2;simp only [zF,zal,zae,zaA] at c2;simp only at c1 ⊢;omega
theorem ED {α:Type}{w:α→Nat}{g:Pr α}(hg:BZ w g)(s:Bs){d:α}(hd:w d=0):BZ w (UJ s d g):=by
 intro l x r h;unfold UJ at h;split at h
 ·have c1:=hg _ _ _ h;have c2:=Ah ‹_›;omega
 ·simp only [Res.ok.injEq] at h;obtain ⟨rfl,rfl⟩:=h;omega
theorem OV {α:Type}{w:α→Nat}{g:Pr α}(hg:BZ w g):BZ w (byP g):=by
 intro l x r h;obtain ⟨_,q,h1,h2⟩:=bind_ok h;have c1:=Ag h1;have c2:=hg _ _ _ h2;omega
theorem IW:BZ (λ_=>0) GH:=by
 intro l x r h;unfold GH at h;split at h
 ·simp only [Res.ok.injEq] at h;obtain ⟨_,rfl⟩:=h;simp
 ·cases h
def wQ (q:TSelect):Nat:=(q.fItems.map λx=>pz x.fExpr).sum+(q.fFrom.map λx=>pz x.fOn).sum+pz q.fWhere+(q.fGroup.map pz).sum+pz q.fHaving+(q.fOrder.map λx=>pz x.fExpr).sum
def wS (s:TStmt):Nat:=wQ s.fSelect+pz s.fWhere+((s.fRows.flatten).map pz).sum+(s.fSets.map λx=>pz x.fExpr).sum+(s.fCols.map λx=>pz x.fDefault).sum
theorem AFF (s:TStmt):Jz s=wS s+1:=by
 simp only [Jz,FH,IC,wS,wQ,zaa,zaR,zF,zal,zae,zaA,List.map_map,Function.comp_def];omega
theorem YP (n:Nat):BZ wQ (Iq n):=by
 intro l x r h;obtain ⟨a1,q1,h1,h⟩:=bind_ok h;obtain ⟨a2,q2,h2,h⟩:=bind_ok h;obtain ⟨a3,q3,h3,h⟩:=bind_ok h;obtain ⟨a4,q4,h4,h⟩:=bind_ok h;obtain ⟨a5,q5,h5,h⟩:=bind_ok h;obtain ⟨a6,q6,h6,h⟩:=bind_ok h;obtain ⟨a7,q7,h7,h⟩:=bind_ok h;obtain ⟨a8,q8,h8,h⟩:=bind_ok h;simp only [Res.ok.injEq] at h;obtain ⟨rfl,rfl⟩:=h;have c1:=Dk (ACg n) n _ _ _ h1;have c2:=ED (ACh n) _ rfl _ _ _ h2;have c3:=GM n _ _ _ _ h3;have c4:=ED (OV (Dk (KH n) n)) _ rfl _ _ _ h4;have c5:=GM n _ _ _ _ h5;have c6:=ED (OV (Dk (YQ n) n)) _ rfl _ _ _ h6;have c7:=ED IW _ rfl _ _ _ h7;have c8:=ED IW _ rfl _ _ _ h8;have c0:(if isT l [100,105,115,116,105,110,99,116] then l.tail else l).length≤l.length:=by split <;> simp
 simp only at c1 c2 c4 c6 c7 c8
 simp only [wQ];omega
theorem YR:BZ pz IP:=by
 intro l x r h;unfold IP at h;split at h
 ·rename_i v hv
  simp only [Res.ok.injEq] at h;obtain ⟨rfl,rfl⟩:=h;have:=Vj hv;have:=AAg (LY v);simp only [LY,Aj,Aa] at this;simp only [LY];omega
 split at h
 ·obtain ⟨y,q,h1,h2⟩:=bind_ok h;simp only [Res.ok.injEq] at h2;obtain ⟨rfl,rfl⟩:=h2;have c1:=QX _ _ _ h1;have c2:=Ah ‹_›;have:=AAg (exK 4 [y]);simp only [exK,Aj,Aa] at this;simp only [exK];omega
 ·have c1:=QX _ _ _ h;have:=AAg x;omega
theorem FU:∀(m:Nat) (c:TCol) (l:List Tok) (y:TCol) (r:List Tok),GY m c l= .ok y r→r.length+pz y.fDefault≤l.length+pz c.fDefault
 |0,c,l,y,r,h=>by simp only [GY,Res.ok.injEq] at h;obtain ⟨rfl,rfl⟩:=h;omega
 |m+1,c,l,y,r,h=>by
  simp only [GY] at h;split at h
  ·obtain ⟨_,q,h1,h2⟩:=bind_ok h;have c1:=Ag h1;have c2:=FU m _ _ _ _ h2;have:l.tail.length≤l.length:=by simp
   simp only at c2;omega
  split at h
  ·obtain ⟨_,q,h1,h2⟩:=bind_ok h;have c1:=Ag h1;have c2:=FU m _ _ _ _ h2;have:l.tail.length≤l.length:=by simp
   simp only at c2;omega
  split at h
  ·have c2:=FU m _ _ _ _ h;have:l.tail.length≤l.length:=by simp
   simp only at c2;omega
  split at h
  ·obtain ⟨x,q,h1,h2⟩:=bind_ok h;have c1:=YR _ _ _ h1;have c2:=FU m _ _ _ _ h2;have:l.tail.length≤l.length:=by simp
   simp only at c2;omega
  ·simp only [Res.ok.injEq] at h;obtain ⟨rfl,rfl⟩:=h;omega
theorem WI (n:Nat):BZ (λx=>pz x.fDefault) (FN n):=by
 intro l x r h;obtain ⟨s,q,h1,h2⟩:=bind_ok h;have c1:=Az _ _ _ h1;simp only at h2 c1
 generalize (if isK q 1 then typeOf (hd q).text else 0)=t at h2;split at h2
 ·cases h2
 ·have c2:=FU n _ _ _ _ h2;have:q.tail.length≤q.length:=by simp
  simp only [pz0] at c2 ⊢;omega
theorem SQ (n:Nat):∀(m:Nat) (cs:List TCol) (ks:List Bs) (l:List Tok) (x:List TCol×List Bs) (r:List Tok),FY n m cs ks l= .ok x r→r.length+(x.1.map λx=>pz x.fDefault).sum≤l.length+(cs.map λx=>pz x.fDefault).sum
 |0,cs,ks,l,x,r,h=>by simp only [FY,Res.ok.injEq] at h;obtain ⟨rfl,rfl⟩:=h;exact zh _
 |m+1,cs,ks,l,x,r,h=>by
  simp only [FY] at h;obtain ⟨a,q,h1,h2⟩:=bind_ok h;have c1:q.length+(a.1.map λx=>pz x.fDefault).sum≤l.length+(cs.map λx=>pz x.fDefault).sum:=by
   split at h1
   ·obtain ⟨_,q1,g1,g2⟩:=bind_ok h1;obtain ⟨k,q2,g3,g4⟩:=bind_ok g2;simp only [Res.ok.injEq] at g4;obtain ⟨rfl,rfl⟩:=g4;have d1:=Ag g1;have d2:=GK n _ _ _ g3;have:l.tail.length≤l.length:=by simp
    simp only at d2 ⊢;omega
   ·obtain ⟨c,q1,g1,g2⟩:=bind_ok h1;simp only [Res.ok.injEq] at g2;obtain ⟨rfl,rfl⟩:=g2;have d1:=WI n _ _ _ g1;simp only [zaa,zF,zal,zaR,zae,zaA] at d1 ⊢;omega
  split at h2
  ·have c2:=SQ n m _ _ _ _ _ h2;have:q.tail.length≤q.length:=by simp
   omega
  ·simp only [Res.ok.injEq] at h2;obtain ⟨rfl,rfl⟩:=h2;exact c1
theorem YO (n:Nat):BZ wS (Sz n):=by
 intro l x r h;obtain ⟨s,q,h1,h⟩:=bind_ok h;obtain ⟨_,q2,h2,h⟩:=bind_ok h;obtain ⟨y,q3,h3,h⟩:=bind_ok h;have c1:=Az _ _ _ h1;have c2:=Ag h2;have c3:=SQ n _ _ _ _ _ _ h3;simp only [zal,zaA] at c3;split at h
 ·cases h
 ·obtain ⟨_,q4,h4,h⟩:=bind_ok h;simp only [Res.ok.injEq] at h;obtain ⟨rfl,rfl⟩:=h;have c4:=Ag h4;have:wS {(default:TStmt) with fKind:=5,fTable:=s,fCols:=y.1,fKey:=y.2}=(y.1.map λx=>pz x.fDefault).sum:=by
   show 0+0+0+0+(y.1.map λx=>pz x.fDefault).sum=_;simp
  rw [this];simp only at c1;omega
theorem Uw:∀(l:List (List Ex)),(l.flatten.map pz).sum=(l.map λx=>(x.map pz).sum).sum
 |[]=>rfl
 |x::l=>by simp only [zbq,zaa,zaR,zF,zae,Uw l]
theorem wS0 {s:TStmt}(h1:s.fSelect=default)(h2:s.fWhere=ex0)(h3:s.fRows=[])(h4:s.fSets=[])(h5:s.fCols=[]):wS s=0:=by
 simp only [wS,h1,h2,h3,h4,h5];rfl
theorem leW {a b:Nat}{s:TStmt}(h0:wS s=0)(h:a+1≤b):a+(λs=>wS s+1) s≤b:=by simp only [h0];omega
theorem Uc {l r:List Tok}{n:Nat}(h:r.length+n≤l.length):r.length≤l.length:=by omega
theorem SS (n:Nat):BZ (λs=>wS s+1) (ES n):=by
 intro l x r h;unfold ES at h;split at h
 ·obtain ⟨q,r1,h1,h2⟩:=bind_ok h;simp only [Res.ok.injEq] at h2;obtain ⟨rfl,rfl⟩:=h2;have c1:=YP n _ _ _ h1;have c2:=Ah ‹_›;have:wS {(default:TStmt) with fKind:=1,fSelect:=q}=wQ q:=by show wQ q+0+0+0+0=_;simp
  simp only [this];omega
 split at h
 ·have c0:=Ah ‹_›;obtain ⟨_,r1,h1,h⟩:=bind_ok h;obtain ⟨s,r2,h2,h⟩:=bind_ok h;obtain ⟨c,r3,h3,h⟩:=bind_ok h;obtain ⟨_,r4,h4,h⟩:=bind_ok h;obtain ⟨y,r5,h5,h⟩:=bind_ok h;simp only [Res.ok.injEq] at h;obtain ⟨rfl,rfl⟩:=h;have c1:=Ag h1;have c2:=Az _ _ _ h2;have c3:r3.length≤r2.length:=by
   split at h3
   ·exact Uc (GK n _ _ _ h3)
   ·simp only [Res.ok.injEq] at h3;obtain ⟨rfl,rfl⟩:=h3;exact zh _
  have c4:=Ag h4;have c5:=Dk (QV (KH n) n) n _ _ _ h5;have:wS {(default:TStmt) with fKind:=2,fTable:=s,fColumns:=c,fRows:=y}=(y.flatten.map pz).sum:=by show 0+0+(y.flatten.map pz).sum+0+0=_;simp
  simp only at c2 c5
  simp only [this,Uw];omega
 split at h
 ·have c0:=Ah ‹_›;obtain ⟨s,r1,h1,h⟩:=bind_ok h;obtain ⟨_,r2,h2,h⟩:=bind_ok h;obtain ⟨y,r3,h3,h⟩:=bind_ok h;obtain ⟨z,r4,h4,h⟩:=bind_ok h;simp only [Res.ok.injEq] at h;obtain ⟨rfl,rfl⟩:=h;have c1:=Az _ _ _ h1;have c2:=Ag h2;have c3:=Dk (AGB n) n _ _ _ h3;have c4:=GM n _ _ _ _ h4;have:wS {(default:TStmt) with fKind:=3,fTable:=s,fSets:=y,fWhere:=z}=pz z+(y.map λx=>pz x.fExpr).sum:=by show 0+pz z+0+(y.map λx=>pz x.fExpr).sum+0=_;simp
  simp only at c1 c3
  simp only [this];omega
 split at h
 ·have c0:=Ah ‹_›;obtain ⟨_,r1,h1,h⟩:=bind_ok h;obtain ⟨s,r2,h2,h⟩:=bind_ok h;obtain ⟨z,r3,h3,h⟩:=bind_ok h;simp only [Res.ok.injEq] at h;obtain ⟨rfl,rfl⟩:=h;have c1:=Ag h1;have c2:=Az _ _ _ h2;have c3:=GM n _ _ _ _ h3;have:wS {(default:TStmt) with fKind:=4,fTable:=s,fWhere:=z}=pz z:=by show 0+pz z+0+0+0=_;simp
  simp only at c2
  simp only [this];omega
 split at h
 ·have c0:=Ah ‹_›;unfold Gi at h;split at h
  ·have c1:=YO n _ _ _ h;have:l.tail.tail.length≤l.tail.length:=by simp
   simp only;omega
  ·obtain ⟨_,r1,h1,h⟩:=bind_ok h;obtain ⟨a,r2,h2,h⟩:=bind_ok h;obtain ⟨_,r3,h3,h⟩:=bind_ok h;obtain ⟨t,r4,h4,h⟩:=bind_ok h;obtain ⟨c,r5,h5,h⟩:=bind_ok h;simp only [Res.ok.injEq] at h;obtain ⟨rfl,rfl⟩:=h;have c1:=Ag h1;have c2:=Az _ _ _ h2;have c3:=Ag h3;have c4:=Az _ _ _ h4;have c5:=Uc (GK n _ _ _ h5);have c6:(if isT l.tail [117,110,105,113,117,101] then l.tail.tail else l.tail).length≤l.tail.length:=by split <;> simp
   refine leW (wS0 rfl rfl rfl rfl rfl) ?_;simp only at c2 c4;omega
 split at h
 ·have c0:=Ah ‹_›;unfold Gg at h;split at h
  ·obtain ⟨s,r1,h1,h⟩:=bind_ok h;simp only [Res.ok.injEq] at h;obtain ⟨rfl,rfl⟩:=h;have c1:=Az _ _ _ h1;have:l.tail.tail.length≤l.tail.length:=by simp
   refine leW (wS0 rfl rfl rfl rfl rfl) ?_;simp only at c1;omega
  ·obtain ⟨_,r1,h1,h⟩:=bind_ok h;obtain ⟨s,r2,h2,h⟩:=bind_ok h;simp only [Res.ok.injEq] at h;obtain ⟨rfl,rfl⟩:=h;have c1:=Ag h1;have c2:=Az _ _ _ h2;refine leW (wS0 rfl rfl rfl rfl rfl) ?_;simp only at c2;omega
 split at h
 ·have c0:=Ah ‹_›;simp only [Res.ok.injEq] at h;obtain ⟨rfl,rfl⟩:=h;refine leW (wS0 rfl rfl rfl rfl rfl) ?_;omega
 split at h
 ·have c0:=Ah ‹_›;simp only [Res.ok.injEq] at h;obtain ⟨rfl,rfl⟩:=h;refine leW (wS0 rfl rfl rfl rfl rfl) ?_;omega
 ·obtain ⟨_,r1,h1,h⟩:=bind_ok h;simp only [Res.ok.injEq] at h;obtain ⟨rfl,rfl⟩:=h;have c1:=Ag h1;refine leW (wS0 rfl rfl rfl rfl rfl) ?_;omega
theorem KF (n:Nat):∀(m:Nat) (acc:List TStmt) (l:List Tok) (x:List TStmt) (r:List Tok),Cm n m acc l= .ok x r→BG x≤l.length+BG acc
 |0,acc,l,x,r,h=>by simp only [Cm,Res.ok.injEq] at h;obtain ⟨rfl,rfl⟩:=h;omega
 |m+1,acc,l,x,r,h=>by
  simp only [Cm] at h;split at h
  ·simp only [Res.ok.injEq] at h;obtain ⟨rfl,rfl⟩:=h;omega
  split at h
  ·have:=KF n m _ _ _ _ h;have:l.tail.length≤l.length:=by simp
   omega
  ·obtain ⟨s,q,h1,h2⟩:=bind_ok h;have c1:=SS n _ _ _ h1;simp only at c1
   split at h2
   ·have c2:=KF n m _ _ _ _ h2;simp only [BG,zaa,zF,zal,zaR,zae,zaA,AFF] at c2 ⊢;omega
   ·cases h2
theorem Jr (n:Nat):∀(f:Nat) (acc:List Tok) (s:Bs) (l:List Tok),Ij n f acc s= .toks l→l.length≤acc.length+f
 |0,acc,s,l,h=>by simp only [Ij,LexA.toks.injEq] at h;subst h;omega
 |f+1,acc,s,l,h=>by
  simp only [Ij] at h;split at h
  ·simp only [LexA.toks.injEq] at h;subst h;simp
  ·split at h
   ·cases h
   ·have:=Jr n f _ _ _ h;simp at this;omega
theorem Xq (s:Bs):BG (readA s).1≤s.length+1:=by
 unfold readA;split
 ·simp [BG]
 ·rename_i l hl
  have hc:=Jr _ _ _ _ _ hl;split
  ·rename_i x r hx
   have:=KF _ _ _ _ _ _ hx;simp [BG] at this hc ⊢;omega
  ·simp [BG]
end Go.Proofs.YthkaekjoemhjaaaGreatDoor
