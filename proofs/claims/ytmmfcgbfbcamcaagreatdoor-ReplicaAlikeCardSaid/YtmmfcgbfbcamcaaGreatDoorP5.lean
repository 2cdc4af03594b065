/-
  Lemmas, part 5: laid together by a program.
-/
import Derived.Test.YtmmfcgbfbcamcaaGreatDoorP4
import Derived.Lib.Overlaps
import Derived.Lib.Bytealg
set_option maxRecDepth 100000
set_option linter.unusedVariables false
set_option linter.unusedSimpArgs false
set_option linter.unusedSectionVars false
namespace Go.Proofs.YtmmfcgbfbcamcaaGreatDoor
open Go.SL
section
variable {ω:Om}{I:Imm}{L:LH}{K:Value→M}
abbrev Strs (I:Imm)(L:LH)(v:Value)(l:List (List UInt8)):Prop:=RL StrV 1 I L v l
abbrev BR (a:List UInt8):Value:=.string ⟨a.toArray⟩
theorem Yl {a:List UInt8}(hk:K (.bool false) I L):CT ω 211 #[BR a] K I L:=by
 refine AMC ?_;unfold ABq;simp only [SSd,Nat.reduceAdd,sNe,beq_self_eq_true,Bool.not_true];exact Gh.done hk
theorem AAA {a:List UInt8}(hk:K (.bool false) I L):CT ω 244 #[BR a] K I L:=by
 refine ALi ?_;unfold ABH;simp only [SSd,Nat.reduceAdd,sNe,beq_self_eq_true,Bool.not_true];exact Gh.done hk
theorem ZG {a b:List UInt8}(hk:K (.bool (blt a b)) I L):CT ω 210 #[BR a,BR b] K I L:=by
 refine AMD ?_;unfold sh210;repeat' (first|(with_reducible first|refine AZ ?_|refine Aa ?_|refine Ac ?_|refine keepA ?_|refine AV (fun _=>?_))|((with_reducible refine call ?_);refine (AAA ?_))|(with_reducible refine rdb ?_)|((with_reducible first|refine st1 ?_ ?_|refine rdB ?_ ?_);rfl)|(with_reducible refine Ah ?_)|((with_reducible refine Ai ?_ ?_);rfl)|((with_reducible refine stB ?_ ?_ ?_ ?_);rfl;rfl;exact AK rfl)|((with_reducible first|refine rdP _ rfl ?_ ?_|refine As _ rfl ?_ ?_);rfl)|((with_reducible refine stP _ rfl ?_ ?_ ?_ ?_);rfl;rfl;rfl)|(with_reducible first|refine AW (sh210.eq_1 ..) ?_|refine And.intro ?_ ?_)|(simp only [SSg,Int.reduceBEq,Int.reduceBNe,Int.reduceLT,Int.reduceLE,beq_self_eq_true,bne_self_eq_false])|(with_reducible first|refine AG (fun _=>?_) (fun _=>?_)|refine AC (fun _=>?_) (fun _=>?_))|(simp only [SSd,Nat.reduceAdd]))
 exact Gh.done hk
theorem wrap_u64 (n:Int)(h0:0≤n)(h1:n < 18446744073709551616):IntKind.u64.wrap n=n:=by
 unfold IntKind.wrap;simp [IntKind.bits,IntKind.signed];omega
theorem ALE (i j:Nat)(hb:i+j < 9223372036854775808):AB .shr (.int .u64 (IntKind.u64.wrap (IntKind.i64.wrap ((i:Int)+j)))) (.int .u64 1)=some (.int .u64 ((i+j) / 2:Nat)):=by
 have h:=Jy (a:=(i:Int)+j) (c:=1) .u64 .u64 (by decide);rw [wrap_i64 _ (by omega),wrap_u64 _ (by omega) (by omega),h];congr 2
 show ((i:Int)+j).fdiv (2 ^ 1)=_;rw [Int.fdiv_eq_ediv_of_nonneg _ (by decide)];omega
def SrtK (l:List (List UInt8)):Prop:=l.Pairwise fun a b=>blt a b=true
theorem SrtK.get {l:List (List UInt8)}(h:SrtK l){p q:Nat}(h1:p < q)(h2:q < l.length):blt (Dh l (p:Int)) (Dh l (q:Int))=true:=by
 rw [Aq (by omega),Aq h2];exact List.pairwise_iff_getElem.1 h p q (by omega) h2 h1
theorem Fa {v:Value}{l:List (List UInt8)}{k:List UInt8}(h:Strs I L v l)(hlen:l.length < 4611686018427387904)(hs:SrtK l)
  (hk:∀i:Nat,i≤l.length→(∀x∈l.take i,blt x k=true)→(∀x∈l.drop i,blt x k=false)→K (.tuple #[.int .i64 i,.bool (decide (l[i]? =some k))]) I L):
  CT ω 144 #[v,BR k] K I L:=by
 refine AMm ?_;unfold ADA;simp only [RL.len h,SSd,Nat.reduceAdd];refine loop (fun m s I' L'=>I'=I∧L'=L∧∃i j:Nat,i+m=j∧j≤l.length∧s=(.int .i64 i,.int .i64 j,())∧(∀q:Nat,q < i→blt (Dh l (q:Int)) k=true)∧(∀q:Nat,j≤q→q < l.length→blt (Dh l (q:Int)) k=false)) l.length ⟨rfl,rfl,0,l.length,by omega,Nat.le_refl _,rfl,by omega,by omega⟩ ?_;rintro m s I' L' ⟨rfl,rfl,i,j,hij,hjl,rfl,hA,hB⟩;unfold XF;try simp only [SSd,Nat.reduceAdd]
 refine AC (fun hlt=>?_) (fun hlt=>?_)
 ·simp at hlt;simp only [ALE i j (by omega),SSd,Nat.reduceAdd];have hm1:i≤(i+j) / 2:=by omega
  have hm2:(i+j) / 2 < j:=by omega
  generalize (i+j) / 2=p at *;simp only [wrap_i64 (p:Int) (by omega),SSd,Nat.reduceAdd];obtain ⟨b,off,c,hix,hl,hc,hcc⟩:=RL.ix h (i:=p) (by omega) (by omega);obtain rfl:c=_:=hc;simp only [hix,SSd,Nat.reduceAdd];refine rd1 (hcc I' L' (Ext.refl _) (fun _ h=>h) 0 _ rfl) ?_;refine call (ZG ?_);refine AC (fun e=>?_) (fun e=>?_)
  ·simp only [SSd,Nat.reduceAdd,wrap_i64 ((p:Int)+1) (by omega)];refine Gh.done ⟨j - (p+1),by omega,rfl,rfl,p+1,j,by omega,hjl,by simp,fun q hq=>?_,hB⟩;by_cases hq':q=p
   ·rw [hq'];exact e
   ·exact Bj (hs.get (p:=q) (q:=p) (by omega) (by omega)) e
  ·refine Gh.done ⟨p - i,by omega,rfl,rfl,i,p,by omega,by omega,rfl,hA,fun q hq hq2=>?_⟩;cases hb:blt (Dh l (q:Int)) k with
   |false=>rfl
   |true=>
    by_cases hq':q=p
    ·rw [hq'] at hb;exact absurd hb (by simpa using e)
    ·exact absurd (Bj (hs.get (p:=p) (q:=q) (by omega) hq2) hb) (by simpa using e)
 ·simp at hlt;have hij':i=j:=by omega
  subst hij';have hA':∀x∈l.take i,blt x k=true:=by
   intro x hx;obtain ⟨q,hq,rfl⟩:=List.getElem_of_mem hx;have hq':q < i:=by simp at hq;omega
   have:=hA q hq';rw [Aq (by omega)] at this;simpa using this
  have hB':∀x∈l.drop i,blt x k=false:=by
   intro x hx;obtain ⟨q,hq,rfl⟩:=List.getElem_of_mem hx;have hq':i+q < l.length:=by simp at hq;omega
   have:=hB (i+q) (by omega) hq';rw [Aq hq'] at this;simpa using this
  have fin:=hk i hjl hA' hB';unfold XE;try simp only [SSd,Nat.reduceAdd]
  refine AG (fun e=>?_) (fun e=>?_)
  ·simp at e;obtain ⟨b,off,c,hix,hl,hc,hcc⟩:=RL.ix h (i:=i) (by omega) (by omega);obtain rfl:c=_:=hc;have hge:l[i]? =some (Dh l (i:Int)):=by rw [List.getElem?_eq_getElem e,Aq e]
   rw [hge] at fin;simp only [hix,SSd,Nat.reduceAdd];refine rd1 (hcc I' L' (Ext.refl _) (fun _ h=>h) 0 _ rfl) ?_;simp only [sEq,SSd,Nat.reduceAdd];refine AG (fun e2=>?_) (fun e2=>?_)
   ·refine rd1 (hcc I' L' (Ext.refl _) (fun _ h=>h) 0 _ rfl) ?_;refine call (Yl ?_);try simp only [SSd,Nat.reduceAdd]
    have hd:decide (some (Dh l (i:Int))=some k)=false:=by simpa using e2
    rw [hd] at fin;exact Gh.done fin
   ·have hd:decide (some (Dh l (i:Int))=some k)=true:=by simpa using e2
    rw [hd] at fin;exact Gh.done fin
  ·simp at e;rw [List.getElem?_eq_none e] at fin;exact Gh.done fin
def strs (l:List (List UInt8)):List Value:=l.map BR
theorem NF (l:List (List UInt8)):(strs l).length=l.length:=by simp [strs]
theorem KJ:∀(l:List (List UInt8)),Recs (StrV I) 1 l (strs l)
 |[]=>rfl
 |x::l=>⟨rfl,rfl,KJ l⟩
theorem Ja (l:List (List UInt8)):∀u∈strs l,u.oneCell'=true:=by
 intro u hu;obtain ⟨x,_,rfl⟩:=List.mem_map.1 hu;rfl
abbrev StrO (X:LH)(v:Value)(l:List (List UInt8)):Prop:=SlO 9 1 X v (strs l) l.length
theorem StrO.rl {X L:LH}{v:Value}{l:List (List UInt8)}(h:StrO X v l)(hX:∀x∈X,x∈L):Strs I L v l:=by
 have hn:=h.news (I:=I) hX;obtain ⟨_,hh⟩:=h;rcases hh with ⟨_,h0,a,rfl⟩|⟨b,cap,cs,_,rfl,_,hle,_⟩
 ·refine ⟨a,0,_,?_,by omega,hn,KJ l⟩;rw [h0]
 ·exact ⟨_,cap,_,rfl,hle,hn,KJ l⟩
theorem RL.news' {α:Type}{R:Imm→α→List Value→Prop}{n:Nat}{v:Value}{xs:List α}(h:RL R n I L v xs):∃cells,News n v I L xs.length cells∧Recs (R I) n xs cells:=by
 obtain ⟨a,cap,cells,rfl,hle,hn,hr⟩:=h;exact ⟨cells,hn,hr⟩
theorem Jb:∀{l:List (List UInt8)} {cells:List Value},Recs (StrV I) 1 l cells→cells=strs l
 |[],_,h=>h
 |x::l,cells,⟨h1,h2,h3⟩=>by
  have:=Jb h3;obtain ⟨c,cs,rfl⟩:∃c cs,cells=c::cs:=by
   cases cells with
   |nil=>simp at h1
   |cons c cs=>exact ⟨c,cs,rfl⟩
  have e:c=BR x:=by simpa [StrV] using h2
  simp only [List.drop_succ_cons,List.drop_zero] at this;rw [this,e];rfl
theorem JJ {v:Value}{l:List (List UInt8)}(h:Strs I L v l)(hlen:l.length * 16≤140737488355328)(hk:∀X v',StrO X v' l→K v' I (X++L)):CT ω 145 #[v] K I L:=by
 refine AMl ?_;unfold ACy;obtain ⟨cells,hn,hr⟩:=RL.news' h;obtain rfl:=Jb hr;obtain ⟨a,cap,rfl⟩:=RL.form h;cases a with
 |none=>
  try simp only [SSd,Nat.reduceAdd]
  have hl0:l.length=0:=by
   rcases hn with ⟨_,_,_,h0,_⟩|⟨_,_,_,e,_⟩|⟨_,e,_⟩
   ·exact h0
   ·cases e
   ·cases e
  have:l=[]:=List.eq_nil_of_length_eq_zero hl0;subst this;exact Gh.done (hk [] _ (SlO.none _ 1))
 |some a=>
  try simp only [SSd,Nat.reduceAdd]
  refine UC (fun X u hX=>?_);refine Dz rfl hX (hn.mono (Ext.refl _) (fun _ h=>List.mem_append_right _ h)) (Ja _) (by omega) (by omega) (fun X' v' hX'=>?_);simp only [Nat.zero_add,List.nil_append] at hX' ⊢;exact Gh.done (hk X' _ hX')
theorem Je {b off len cap lo hi n:Nat}{blo bhi:Option Value}(hlo:Di blo 0 hi=some lo)(hhi:Di bhi len cap=some hi)(hne:lo < cap):
  Ao n (.slice (some ⟨b,off,none⟩) len cap) blo bhi none=some (.slice (some ⟨b,off+lo * n,none⟩) (hi - lo) (cap - lo)):=by
 have h0:Di none cap cap=some cap:=rfl;simp only [Ao,Option.isNone_none,Option.isSome_none,Bool.and_false,Bool.false_eq_true,if_false,h0,Option.bind_some,hhi,hlo];rw [if_neg (by omega)];simp [Ba]
theorem AOs {a:Option Addr}{len cap lo hi n:Nat}{blo bhi:Option Value}(hlo:Di blo 0 hi=some lo)(hhi:Di bhi len cap=some hi):∃u,Ao n (.slice a len cap) blo bhi none=some u:=by
 have h0:Di none cap cap=some cap:=rfl;simp only [Ao,Option.isNone_none,Option.isSome_none,Bool.and_false,Bool.false_eq_true,if_false,h0,Option.bind_some,hhi,hlo];exact ⟨_,rfl⟩
theorem AOf {d y:Nat}:Di none d y=some d:=rfl
theorem AFS {b off len cap m n T:Nat}{cs:Array Value}{L1 L2:LH}{x:Value}{xs:List Value}{K:Value→M}(hn:News n x I (L1++(b,.cells cs T (0,0))::L2) m xs)(hle:off+(min m len) * n≤cs.size)
  (h1:∀u∈xs.take (min m len * n),u.oneCell'=true) (hk:K (.int .i64 (min m len:Nat)) I (L1++(b,.cells (wr cs off (xs.take (min m len * n))) T (0,0))::L2)):
  JP n (.slice (some ⟨b,off,none⟩) len cap) x (gh K) I (L1++(b,.cells cs T (0,0))::L2):=
 ⟨_,len,cap,m,xs,rfl,hn,.inr ⟨b,off,cs,T,L1,L2,rfl,rfl,hle,h1,Gh.done hk⟩⟩
theorem QJ {l:List (List UInt8)}{k:List UInt8}{i:Nat}(hi:i≤l.length){cs:Array Value}(h1:∀(j:Nat) (u:Value),j < i→(strs l)[j]? =some u→cs[j]? =some u)(h2:cs[i]? =some (BR k))
  (h3:∀(j:Nat) (u:Value),i≤j→(strs l)[j]? =some u→cs[j+1]? =some u):∀(j:Nat) (u:Value),(strs (l.take i++k::l.drop i))[j]? =some u→cs[j]? =some u:=by
 intro j u hu;have ht:(l.take i).length=i:=by simp;omega
 have e:strs (l.take i++k::l.drop i)=(strs l).take i++BR k::(strs l).drop i:=by simp [strs]
 have ht':((strs l).take i).length=i:=by simp [strs];omega
 rw [e] at hu;by_cases hj:j < i
 ·rw [List.getElem?_append_left (by omega),List.getElem?_take] at hu;rw [if_pos hj] at hu;exact h1 j u hj hu
 ·rw [List.getElem?_append_right (by omega),ht'] at hu;by_cases hj':j=i
  ·subst hj';simp at hu;rw [h2,hu]
  ·obtain ⟨q,rfl⟩:∃q,j=i+q+1:=⟨j - i - 1,by omega⟩;rw [show i+q+1 - i=q+1 by omega,List.getElem?_cons_succ,List.getElem?_drop] at hu;exact h3 (i+q) u (by omega) hu
theorem RS {bv b off la ca lb cb T T2:Nat}{va cs:Array Value}{F:LH}(hsz:0 < cs.size)(hk:K (.bool false) I ((b,Obj.cells cs T2 (0,0))::(bv,Obj.cells va T (0,0))::F)):
  SI Tryz.prog ω (Extern.SlicesOverlaps.overlaps #[177,177] #[4]) #[.slice (some ⟨bv,0,none⟩) la ca,.slice (some ⟨b,off,none⟩) lb cb] K I ((b,Obj.cells cs T2 (0,0))::(bv,Obj.cells va T (0,0))::F):=by
 refine ⟨.bool false,fun w hs=>?_,hk⟩;have h1:=hs.own b _ (List.mem_cons_self ..);have h2:=hs.own bv _ (List.mem_cons_of_mem _ (List.mem_cons_self ..));have hn:=hs.nodup;have hne:bv≠b:=by
  rintro rfl;simp at hn
 obtain ⟨inf,zv,hi',hz,_,hn1,_,_,_⟩:=Aw (show BU Tryz.prog 9=some (1,16,#[.string ⟨#[]⟩]) by kernel_rfl);refine Lib.run_overlaps_apart w _ _ 9 Tryz.underlying177 1 (fun w=>by rw [run_sizeOf hi',hn1]) _ _ _ _ _ _ hne T T2 va.size cs.size ?_ ?_ (by omega) ?_ ?_
 ·simp [World.shape?,h2]
 ·simp [World.shape?,h1]
 ·simp [World.frozen?,h2]
 ·simp [World.frozen?,h2]
theorem TX {X F:LH}{v:Value}{l:List (List UInt8)}{i bv:Nat}{k:List UInt8}{T:Nat}(h:StrO X v l)(hi:i≤l.length)(hlen:l.length≤1000000000)
  (hk:∀X' v',StrO X' v' (l.take i++k::l.drop i)→K v' I (X'++F)):
  CT ω 242 #[v,.int .i64 i,.slice (some ⟨bv,0,none⟩) 1 1] K I (X++(bv,.cells #[BR k] T (0,0))::F):=by
 refine ALk ?_;unfold ABL;have hv:∀L',(bv,Obj.cells #[BR k] T (0,0))∈L'→News 1 (.slice (some ⟨bv,0,none⟩) 1 1) I L' 1 [BR k]:=fun L' hm=>.inr (.inl ⟨bv,0,1,rfl,rfl,fun j u hu=>Cell.own hm (by simpa using hu)⟩);have hmem:(bv,Obj.cells #[BR k] T (0,0))∈X++(bv,Obj.cells #[BR k] T (0,0))::F:=List.mem_append_right _ (List.mem_cons_self ..);by_cases hin:i=l.length
 ·obtain ⟨a,cap,rfl⟩:=h.form;obtain ⟨u,hu⟩:=AOs (n:=1) (a:=a) (len:=l.length) (cap:=cap) (lo:=i) (hi:=l.length) (blo:=some (.int .i64 i)) (bhi:=none) (BD _ _ _ _ (by omega)) rfl;simp only [hu,SSd,Nat.reduceAdd];have e1:((1:Int)==0)=false:=rfl;have e2:((i:Int)==(l.length:Int))=true:=by rw [hin];simp
  simp only [Int.natCast_one,e1,e2,SSd,Nat.reduceAdd];refine Dz (len:=l.length) (m:=1) rfl h (hv _ hmem) (AK rfl) (by omega) (by omega) (fun X' v' hX'=>?_);refine Gh.to (X'++F) (Gh.done (hk X' v' ?_));subst hin;simpa [strs,StrO] using hX'
 ·obtain ⟨hcl,⟨_,h0,_⟩|⟨b,cap,cs,rfl,rfl,hsz,hle,hcs⟩⟩:=h
  ·omega
  have s1:=Je (b:=b) (off:=0) (len:=l.length) (cap:=cap) (lo:=i) (hi:=l.length) (n:=1) (blo:=some (.int .i64 i)) (bhi:=none) (BD _ _ _ _ (by omega)) rfl (by omega);have e1:((1:Int)==0)=false:=rfl;have e2:((i:Int)==(l.length:Int))=false:=by simp;omega
  simp only [s1,SSd,Nat.reduceAdd];simp only [Int.natCast_one,e1,e2,SSd,Nat.reduceAdd];simp only [wrap_i64 ((l.length:Int)+1) (by omega)];refine AC (fun e=>?_) (fun e=>?_)
  ·simp at e;have hcap:cap=l.length:=by omega
   have s2:=Je (b:=b) (off:=0) (len:=l.length) (cap:=cap) (lo:=0) (hi:=i) (n:=1) (blo:=none) (bhi:=some (.int .i64 i)) rfl (BD _ _ _ _ (by omega)) (by omega);simp only [s2,SSd,Nat.reduceAdd];simp only [wrap_i64 ((l.length:Int)+1 - i) (by omega)];have em:((l.length:Int)+1 - i)=((l.length+1 - i:Nat):Int):=by omega
   rw [em];refine ⟨_,_,_,l.length+1 - i,rfl,rfl,AK rfl,by omega,by omega,.inr (.inr ⟨by omega,by omega,by omega,strs (l.take i),_,.inr (.inl ⟨b,0,cap,by simp,by simp [strs];omega,fun j u hu=>Cell.own (List.mem_cons_self ..) (hcs _ _ ?_)⟩),List.Sublist.refl _,fun b' c hc=>Gh.done ?_⟩)⟩
   ·have:strs (l.take i)=(strs l).take i:=by simp [strs]
    rw [this,List.getElem?_take] at hu;split at hu
    ·simpa using hu
    ·cases hu
   have hilen:i - 0+(l.length+1 - i)=l.length+1:=by omega
   have hilen':i+(l.length+1 - i)=l.length+1:=by omega
   simp only [Nat.sub_zero,hilen'] at hc ⊢;have s3:=Je (b:=b') (off:=0) (len:=l.length+1) (cap:=c) (lo:=i) (hi:=l.length+1) (n:=1) (blo:=some (.int .i64 i)) (bhi:=none) (BD _ _ _ _ (by omega)) rfl (by omega);simp only [s3,SSd,Nat.reduceAdd];have hS:∀L',(b,Obj.cells cs 9 (0,0))∈L'→News 1 (.slice (some ⟨b,i * 1,none⟩) (l.length - i) (cap - i)) I L' (l.length - i) ((strs l).drop i):=fun L' hm=>.inr (.inl ⟨b,i * 1,cap - i,rfl,by simp [strs],fun j u hu=>Cell.own hm (by
    rw [List.getElem?_drop] at hu;simpa using hcs _ _ hu)⟩)
   have hz1:=Ce #[Value.string (ByteArray.mk #[])] (l.length+1 - i);have hz2:=Ce #[Value.string (ByteArray.mk #[])] (c - (l.length+1));have hz0:(#[Value.string (ByteArray.mk #[])]:Array Value).size=1:=rfl;rw [hz0,Nat.mul_one] at hz1 hz2;have hst:(strs (l.take i)).length=i:=by simp [strs];omega
   obtain ⟨A,hA,hAs,hA1⟩:∃A:Array Value,A=(strs (l.take i)).toArray++Builtin.zeroCells #[Value.string (ByteArray.mk #[])] (l.length+1 - i)++Builtin.zeroCells #[Value.string (ByteArray.mk #[])] (c - (l.length+1))∧A.size=c∧
     ∀(j:Nat) (u:Value),j < i→(strs l)[j]? =some u→A[j]? =some u:=by
    refine ⟨_,rfl,by simp only [Array.size_append,List.size_toArray,hz1,hz2,hst];omega,fun j u hj hu=>?_⟩;have:strs (l.take i)=(strs l).take i:=by simp [strs]
    rw [Array.append_assoc,Array.getElem?_append_left (by simp only [List.size_toArray];omega),List.getElem?_toArray,this,List.getElem?_take,if_pos hj];exact hu
   rw [←hA];refine AFS (L1:=[]) (hv _ (List.mem_cons_of_mem _ hmem)) (by rw [hAs];have:=Nat.min_le_left 1 (l.length+1 - i);omega) (fun u hu=>AK (vs:=[BR k]) rfl u (List.mem_of_mem_take hu)) ?_;refine draw (fun _ _=>True) trivial ?_;simp only [wrap_i64 ((i:Int)+1) (by omega),SSd,Nat.reduceAdd];have s4:=Je (b:=b') (off:=0) (len:=l.length+1) (cap:=c) (lo:=i+1) (hi:=l.length+1) (n:=1) (blo:=some (.int .i64 ((i+1:Nat):Int))) (bhi:=none) (BD _ _ _ _ (by omega)) rfl (by omega);rw [Int.natCast_add,Int.natCast_one] at s4;simp only [s4,s1,SSd,Nat.reduceAdd];refine AFS (L1:=[]) (hS _ (by simp)) (by rw [Bf,hAs];have:=Nat.min_le_left (l.length - i) (l.length+1 - (i+1));omega) (fun u hu=>Ja l u (List.mem_of_mem_drop (List.mem_of_mem_take hu))) ?_;generalize hW:wr (wr A (i * 1) _) ((i+1) * 1) _=W;have hWs:W.size=c:=by rw [←hW,Bf,Bf,hAs]
   refine Gh.to ((b',Obj.cells W 9 (0,0))::F) (Gh.done (hk [(b',Obj.cells W 9 (0,0))] _ ⟨by first|(simp [strs];done)|(simp [strs];omega),.inr ⟨b',c,W,rfl,?_,by omega,by first|(simp [strs];done)|(simp [strs];omega),?_⟩⟩))
   ·first|(simp;done)|(simp;omega)
   subst hW;have hm1:min 1 (l.length+1 - i)=1:=Nat.min_eq_left (by omega);have hm2:min (l.length - i) (l.length+1 - (i+1))=l.length - i:=Nat.min_eq_left (by omega);have ht:((strs l).drop i).take (l.length - i)=(strs l).drop i:=List.take_of_length_le (by simp [strs]);have hdl:((strs l).drop i).length=l.length - i:=by simp [strs]
   simp only [hm1,hm2,Nat.mul_one,ht,List.take_succ_cons,List.take_zero];refine QJ hi (fun j u hj hu=>?_) ?_ (fun j u hj hu=>?_)
   ·rw [DG _ _ _ _ (by rw [Bf,hAs,hdl];omega),if_pos (by omega),DG _ _ _ _ (by rw [hAs];simp;omega),if_pos hj];exact hA1 j u hj hu
   ·rw [DG _ _ _ _ (by rw [Bf,hAs,hdl];omega),if_pos (by omega),DG _ _ _ _ (by rw [hAs];simp;omega),if_neg (by omega),if_pos (by simp)];simp
   ·have hjl:j < (strs l).length:=(List.getElem?_eq_some_iff.1 hu).1;rw [NF] at hjl;rw [DG _ _ _ _ (by rw [Bf,hAs,hdl];omega),if_neg (by omega),if_pos (by rw [hdl];omega),List.getElem?_drop,show i+(j+1 - (i+1))=j by omega];exact hu
  ·simp at e;have s2:=Je (b:=b) (off:=0) (len:=l.length) (cap:=cap) (lo:=0) (hi:=l.length+1) (n:=1) (blo:=none) (bhi:=some (.int .i64 ((l.length+1:Nat):Int))) rfl (BD _ _ _ _ (by omega)) (by omega);rw [Int.natCast_add,Int.natCast_one] at s2;simp only [s2,SSd,Nat.reduceAdd];simp only [wrap_i64 ((i:Int)+1) (by omega)];have s4:=Je (b:=b) (off:=0) (len:=l.length+1) (cap:=cap) (lo:=i+1) (hi:=l.length+1) (n:=1) (blo:=some (.int .i64 ((i+1:Nat):Int))) (bhi:=none) (BD _ _ _ _ (by omega)) rfl (by omega);rw [Int.natCast_add,Int.natCast_one] at s4;have s5:=Je (b:=b) (off:=0) (len:=l.length+1) (cap:=cap) (lo:=i) (hi:=l.length+1) (n:=1) (blo:=some (.int .i64 i)) (bhi:=none) (BD _ _ _ _ (by omega)) rfl (by omega);simp only [Nat.sub_zero] at *;simp only [s4,SSd,Nat.reduceAdd];refine RS (by omega) (Gh.done ?_);simp only [Bool.not_false,SSd,Nat.reduceAdd];refine draw (fun _ _=>True) trivial ?_;simp only [s4,s5,SSd,Nat.reduceAdd];have hgu:∃g,cs[l.length]? =some g:=⟨_,Array.getElem?_eq_getElem (by omega)⟩;obtain ⟨g,hg⟩:=hgu;have hdl:((strs l).drop i).length=l.length - i:=by simp [strs]
   have hS:∀L',(b,Obj.cells cs 9 (0,0))∈L'→News 1 (.slice (some ⟨b,i * 1,none⟩) (l.length+1 - i) (cap - i)) I L' (l.length+1 - i) ((strs l).drop i++[g]):=fun L' hm=>.inr (.inl ⟨b,i * 1,cap - i,rfl,by simp [hdl];omega,fun j u hu=>Cell.own hm (by
    by_cases hj:j < l.length - i
    ·rw [List.getElem?_append_left (by omega),List.getElem?_drop] at hu;simpa using hcs _ _ hu
    ·rw [List.getElem?_append_right (by omega),hdl] at hu;have:j - (l.length - i)=0:=by
      have:=(List.getElem?_eq_some_iff.1 hu).1;simp at this;omega
     rw [this] at hu;simp at hu;subst hu;rw [←hg];congr 1;omega)⟩)
   have hm2:min (l.length+1 - i) (l.length+1 - (i+1))=l.length - i:=by omega
   have ht:((strs l).drop i++[g]).take (l.length - i)=(strs l).drop i:=by rw [←hdl];simp
   refine AFS (L1:=[]) (hS _ (by simp)) (by rw [hm2];omega) (fun u hu=>?_) ?_
   ·rw [hm2,Nat.mul_one,ht] at hu;exact Ja l u (List.mem_of_mem_drop hu)
   simp only [hm2,Nat.mul_one,ht];refine AFS (L1:=[]) (hv _ (by simp)) (by rw [Bf];have:=Nat.min_le_left 1 (l.length+1 - i);omega) (fun u hu=>AK (vs:=[BR k]) rfl u (List.mem_of_mem_take hu)) ?_;have hm1:min 1 (l.length+1 - i)=1:=Nat.min_eq_left (by omega);simp only [hm1,Nat.mul_one,List.take_succ_cons,List.take_zero];generalize hW:wr (wr cs (i+1) _) i _=W;have hWs:W.size=cap:=by rw [←hW,Bf,Bf];omega
   refine Gh.to ((b,Obj.cells W 9 (0,0))::F) (Gh.done (hk [(b,Obj.cells W 9 (0,0))] _ ⟨by first|(simp [strs];done)|(simp [strs];omega),.inr ⟨b,cap,W,rfl,?_,by omega,by first|(simp [strs];done)|(simp [strs];omega),?_⟩⟩))
   ·first|(simp;done)|(simp;omega)
   subst hW;refine QJ hi (fun j u hj hu=>?_) ?_ (fun j u hj hu=>?_)
   ·rw [DG _ _ _ _ (by rw [Bf];simp;omega),if_pos hj,DG _ _ _ _ (by rw [hdl];omega),if_pos (by omega)];exact hcs j u hu
   ·rw [DG _ _ _ _ (by rw [Bf];simp;omega),if_neg (by omega),if_pos (by simp)];simp
   ·have hjl:j < (strs l).length:=(List.getElem?_eq_some_iff.1 hu).1;rw [NF] at hjl;rw [DG _ _ _ _ (by rw [Bf];simp;omega),if_neg (by omega),if_neg (by simp;omega),DG _ _ _ _ (by rw [hdl];omega),if_neg (by omega),if_pos (by rw [hdl];omega),List.getElem?_drop,show i+(j+1 - (i+1))=j by omega];exact hu
theorem Tq {X F:LH}{v:Value}{l:List (List UInt8)}{i:Nat}(h:StrO X v l)(hi:i < l.length)(hlen:l.length≤1000000000)
  (hk:∀X' v',StrO X' v' (l.take i++l.drop (i+1))→K v' I (X'++F)):
  CT ω 246 #[v,.int .i64 i,.int .i64 ((i:Int)+1)] K I (X++F):=by
 refine ALg ?_;unfold ABD;obtain ⟨hcl,⟨_,h0,_⟩|⟨b,cap,cs,rfl,rfl,hsz,hle,hcs⟩⟩:=h
 ·omega
 have hcast:((i:Int)+1)=((i+1:Nat):Int):=by omega
 have s0:∃u,Ao 1 (.slice (some ⟨b,0,none⟩) l.length cap) (some (.int .i64 i)) (some (.int .i64 ((i:Int)+1))) (some (.int .i64 l.length))=some u:=by
  rw [hcast];simp only [Ao,Option.isNone_some,Bool.false_and,Bool.false_eq_true,if_false,BD _ _ _ _ hle,BD _ _ _ _ (show i+1≤l.length by omega),BD _ _ _ _ (show i≤i+1 by omega),Option.bind_some];exact ⟨_,rfl⟩
 obtain ⟨u0,s0⟩:=s0;have e2:((i:Int)==(i:Int)+1)=false:=by simp;omega
 have s1:=Je (b:=b) (off:=0) (len:=l.length) (cap:=cap) (lo:=0) (hi:=i) (n:=1) (blo:=none) (bhi:=some (.int .i64 i)) rfl (BD _ _ _ _ (by omega)) (by omega);obtain ⟨p,s2⟩:∃p,Ao 1 (.slice (some ⟨b,0,none⟩) l.length cap) (some (.int .i64 ((i:Int)+1))) none none=some (.slice p (l.length - (i+1)) (cap - (i+1)))∧(0 < l.length - (i+1)→p=some ⟨b,i+1,none⟩):=by
  by_cases hc:i+1 < cap
  ·have:=Je (b:=b) (off:=0) (len:=l.length) (cap:=cap) (lo:=i+1) (hi:=l.length) (n:=1) (blo:=some (.int .i64 ((i+1:Nat):Int))) (bhi:=none) (BD _ _ _ _ (by omega)) rfl (by omega);rw [←hcast] at this;exact ⟨_,this,fun _=>by simp⟩
  ·rw [hcast];have hh:i+1=cap:=by omega
   refine ⟨some ⟨b,0,none⟩,?_,fun h0=>by omega⟩;have h0:Di none cap cap=some cap:=rfl;have h1:Di none l.length cap=some l.length:=rfl;simp only [Ao,Option.isNone_none,Option.isSome_none,Bool.and_false,Bool.false_eq_true,if_false,h0,h1,Option.bind_some,BD _ _ _ _ (show i+1≤l.length by omega)];rw [if_pos hh.symm]
 obtain ⟨s2,hp⟩:=s2;simp only [s0,e2,SSd,Nat.reduceAdd];refine draw (fun _ _=>True) trivial ?_;simp only [s1,s2,SSd,Nat.reduceAdd];have hdl:((strs l).drop (i+1)).length=l.length - (i+1):=by simp [strs]
 refine ⟨_,_,_,l.length - (i+1),(strs l).drop (i+1),rfl,?_,fun u hu=>Ja l u (List.mem_of_mem_drop hu),.inr (.inl ⟨by omega,b,0,cs,9,[],F,by simp,rfl,by omega,Gh.done ?_⟩)⟩
 ·by_cases h0:l.length - (i+1)=0
  ·exact .inl ⟨p,_,by rw [h0],h0,List.eq_nil_of_length_eq_zero (by omega)⟩
  ·refine .inr (.inl ⟨b,i+1,_,by rw [hp (by omega)],by omega,fun j u hu=>Cell.own (List.mem_cons_self ..) ?_⟩);rw [List.getElem?_drop] at hu;exact hcs _ _ hu
 have hil:i+(l.length - (i+1))=l.length - 1:=by omega
 simp only [Nat.sub_zero,hil,SSd,Nat.reduceAdd];have s3:=Je (b:=b) (off:=0) (len:=l.length - 1) (cap:=cap) (lo:=l.length - 1) (hi:=l.length) (n:=1) (blo:=some (.int .i64 ((l.length - 1:Nat):Int))) (bhi:=some (.int .i64 l.length)) (BD _ _ _ _ (by omega)) (BD _ _ _ _ (by omega)) (by omega);simp only [s3,SSd,Nat.reduceAdd];refine .inr ⟨b,_,l.length - (l.length - 1),_,_,9,[],F,rfl,rfl,by rw [Bf];simp;omega,AK rfl,Gh.done ?_⟩;generalize hW:wr (wr cs _ _) _ _=W;have hWs:W.size=cap:=by rw [←hW,Bf,Bf];omega
 refine Gh.to ((b,Obj.cells W 9 (0,0))::F) (Gh.done (hk [(b,Obj.cells W 9 (0,0))] _ ⟨by first|(simp [strs];done)|(simp [strs];omega),.inr ⟨b,cap,W,rfl,?_,by omega,by first|(simp [strs];done)|(simp [strs];omega),?_⟩⟩))
 ·first|(simp;done)|(simp;omega)
 subst hW;intro j u hu;have e:strs (l.take i++l.drop (i+1))=(strs l).take i++(strs l).drop (i+1):=by simp [strs]
 have ht':((strs l).take i).length=i:=by simp [strs];omega
 have hjl:=(List.getElem?_eq_some_iff.1 hu).1;rw [NF] at hjl;simp at hjl;rw [e] at hu;have hzl:(Builtin.zeroCells #[Value.string (ByteArray.mk #[])] (l.length - (l.length - 1))).toList.length=1:=by
  rw [Array.length_toList,Ce];simp;omega
 rw [DG _ _ _ _ (by rw [Bf,hzl];omega),if_pos (by omega),DG _ _ _ _ (by rw [hdl];omega)];by_cases hj:j < i
 ·rw [if_pos (by omega)];rw [List.getElem?_append_left (by omega),List.getElem?_take,if_pos hj] at hu;exact hcs j u hu
 ·rw [if_neg (by omega),if_pos (by rw [hdl];omega)];rw [List.getElem?_append_right (by omega),ht'] at hu;rw [←hu];congr 1;omega
end
theorem AHI:∃C:Om→Value→Value→(Value→M)→Value→Value→Value→M,∀(ω:Om) (a0 a1:Value) (K:Value→M),vcF Tryz.prog ω Tryz.f285 [a0,a1] K=
 (Pv (lenV a1) fun v1=>
 Pv (AB .eql v1 (Value.int .i64 0)) fun v2=>
 Br v2
  (K (Value.int .i64 0))
  (Pv (AB .eql v1 (Value.int .i64 1)) fun v3=>
  Br v3
   (Pv (ixV 1 a1 (Value.int .i64 0)) fun v4=>
   Rv none (AD v4) fun v5=>
   CT ω 243 #[a0,v5]<|gh fun v6=>
   K v6)
   (C ω a0 a1 K v1 v2 v3))):=⟨_,fun _ _ _ _=>rfl⟩
section
variable {ω:Om}{I:Imm}{L:LH}{K:Value→M}
theorem SC (l:List UInt8)(i:Nat)(h:i < l.length):(⟨l.toArray⟩:ByteArray)[i]! =l[i]:=by
 rw [getElem!_pos _ _ (by simpa [ByteArray.size] using h)];rfl
theorem ZO {l pre rest:List UInt8}(hl:l=pre++0::rest)(h0:(0:UInt8) ∉ pre):(List.range (⟨l.toArray⟩:ByteArray).size).find? (fun i=>(⟨l.toArray⟩:ByteArray)[i]! ==0)=some pre.length:=by
 have hlen:pre.length < l.length:=by rw [hl];simp
 rw [List.find?_range_eq_some];refine ⟨?_,?_,fun j hj=>?_⟩
 ·rw [SC _ _ hlen];simp [hl]
 ·simpa [ByteArray.size] using hlen
 ·rw [SC _ _ (by omega)];have:l[j]'(by omega)=pre[j]:=by simp only [hl];rw [List.getElem_append_left hj]
  rw [this];simp only [Bool.not_eq_true',beq_eq_false_iff_ne];exact fun e=>h0 (e ▸ List.getElem_mem hj)
theorem Ht {v:Value}{l pre rest:List UInt8}(h:Bytes I v l)(hl:l=pre++0::rest)(h0:(0:UInt8) ∉ pre)(hk:K (.int .i64 pre.length) I L):CT ω 243 #[v,.int .u8 0] K I L:=by
 refine ALj ?_;unfold ABJ;refine ⟨_,fun w hs=>?_,Gh.done (Gh.done hk)⟩;show Sem.run _ (do
  let b ←Extern.Bytes.bytesOf v
  let c ←Extern.Bytes.asByte (.int .u8 0)
  match (List.range b.size).find? fun i=>b[i]! ==c with
  |some i=>pure (goInt i)
  |none=>pure (goInt (-1))) w=_
 simp only [Sem.run_bind,GY (P:=Tryz.prog) hs h,Result.andThen_ok,Extern.Bytes.asByte,Sem.run_pure];have:=ZO hl h0;rw [show ((0:Int).toNat.toUInt8)=0 from rfl,this];rfl
theorem index_spec {v u:Value}{l pre rest:List UInt8}(h:Bytes I v l)(hu:Bytes I u [0])(hl:l=pre++0::rest)(h0:(0:UInt8) ∉ pre)(hk:K (.int .i64 pre.length) I L):CT ω 285 #[v,u] K I L:=by
 obtain ⟨C,hC⟩:=AHI;refine Cal.gh (AE mixed Tryz.func285 ?_);show vcF Tryz.prog ω Tryz.f285 [v,u] _ I L;rw [hC];obtain ⟨a,c,rfl⟩:=Bytes.form hu;obtain ⟨b,off,hix,hc⟩:=SlI.ix (i:=0) hu .i64 (by simp);have hc0:=hc I L (Ext.refl _) 0 _ rfl;have e0:((([0]:List UInt8).length:Int)==0)=false:=rfl;have e1:((([0]:List UInt8).length:Int)==1)=true:=rfl;have hix':ixV 1 (.slice a ([0]:List UInt8).length c) (.int .i64 0)=some (.pointer (some ⟨b,off,none⟩)):=hix;simp only [e0,e1,hix',SSd,Nat.reduceAdd];refine rd1 hc0 ?_;exact call (Ht h hl h0 (Gh.done hk))
theorem ZY {v:Value}{l:List UInt8}(h:Bytes I v l)(hk:K (.int .i64 (l.count 0:Nat)) I L):SI Tryz.prog ω Extern.BytealgCount.count #[v,.int .u8 0] K I L:=by
 refine ⟨_,fun w hs=>?_,hk⟩;show Sem.run _ (do
  let b ←Extern.Bytes.bytesOf v
  let c ←Extern.Bytes.asByte (.int .u8 0)
  pure (goInt (b.foldl (fun n x=>if x==c then n+1 else n) (0:Nat)))) w=_
 simp only [Sem.run_bind,GY (P:=Tryz.prog) hs h,Result.andThen_ok,Extern.Bytes.asByte,Sem.run_pure,goInt,Lib.foldl_data];rw [show ((0:Int).toNat.toUInt8)=0 from rfl];have:∀(l:List UInt8) (n:Int),l.foldl (fun n x=>if x==0 then n+1 else n) n=n+(l.count 0:Nat):=by
  intro l;induction l with
  |nil=>intro n;simp
  |cons x l ih=>
   intro n;rw [List.foldl_cons,ih,List.count_cons];split <;> omega
 rw [this];simp
theorem Vk {v u:Value}{l:List UInt8}(h:Bytes I v l)(hu:Bytes I u [0])(hk:K (.int .i64 (l.count 0:Nat)) I L):CT ω 284 #[v,u] K I L:=by
 refine ALZ ?_;unfold AAm;obtain ⟨a,c,rfl⟩:=Bytes.form hu;obtain ⟨b,off,hix,hc⟩:=SlI.ix (i:=0) hu .i64 (by simp);have hc0:=hc I L (Ext.refl _) 0 _ rfl;have e0:((([0]:List UInt8).length:Int)==0)=false:=rfl;have e1:((([0]:List UInt8).length:Int)==1)=true:=rfl;have hix':ixV 1 (.slice a ([0]:List UInt8).length c) (.int .i64 0)=some (.pointer (some ⟨b,off,none⟩)):=hix;simp only [e0,e1,hix',SSd,Nat.reduceAdd];refine rd1 hc0 ?_;exact ZY h (Gh.done (Gh.done hk))
def esc (l:List UInt8):List UInt8:=l.flatMap fun c=>if c=0 then [0,255] else [c]
theorem HM (a b:List UInt8):esc (a++b)=esc a++esc b:=by simp [esc]
theorem GX:∀l:List UInt8,(esc l).length=l.length+l.count 0
 |[]=>rfl
 |x::l=>by
  have:=GX l;unfold esc at this ⊢;rw [List.flatMap_cons,List.length_append,this,List.count_cons];by_cases h:x=0 <;> simp [h] <;> omega
theorem IW:∀{l:List UInt8},(0:UInt8) ∉ l→esc l=l
 |[],_=>rfl
 |x::l,h=>by
  have h1:x≠0:=fun e=>h (e ▸ List.mem_cons_self ..);have:=IW (l:=l) (fun e=>h (List.mem_cons_of_mem _ e));unfold esc at this ⊢;rw [List.flatMap_cons,this,if_neg h1];rfl
theorem ON:∀{l:List UInt8},0 < l.count 0→∃pre rest,l=pre++0::rest∧(0:UInt8) ∉ pre
 |[],h=>by simp at h
 |x::l,h=>by
  by_cases hx:x=0
  ·exact ⟨[],l,by rw [hx];rfl,by simp⟩
  ·obtain ⟨pre,rest,e,h0⟩:=ON (l:=l) (by rw [List.count_cons_of_ne (fun e=>hx (by simpa using e))] at h;exact h);refine ⟨x::pre,rest,by rw [e];rfl,?_⟩;intro hm;rcases List.mem_cons.1 hm with e'|e'
   ·exact hx e'.symm
   ·exact h0 e'
def dAt (b N w:Nat):Value:=.slice (if N=w then some ⟨b,0,none⟩ else some ⟨b,w,none⟩) (N - w) (N - w)
theorem Ui {b N w:Nat}(h:w≤N):Ao 1 (.slice (some ⟨b,0,none⟩) N N) (some (.int .i64 w)) none none=some (dAt b N w):=by
 have h0:Di none N N=some N:=rfl;simp only [Ao,Option.isNone_none,Option.isSome_none,Bool.and_false,Bool.false_eq_true,if_false,h0,Option.bind_some,BD _ _ _ _ h,dAt];split <;> simp [Ba]
theorem Vj {b N w m T:Nat}{arr:Array Value}{P xs:List Value}{x:Value}{F:LH}{K:Value→M}(hs:arr.size=N)(hP:∀(j:Nat) (u:Value),P[j]? =some u→arr[j]? =some u)(hw:w=P.length)(hwm:w+m≤N)
  (hn:News 1 x I ((b,.cells arr T (0,0))::F) m xs) (h1:∀u∈xs,u.oneCell'=true)
  (hk:∀arr':Array Value,arr'.size=N→(∀(j:Nat) (u:Value),(P++xs)[j]? =some u→arr'[j]? =some u)→K (.int .i64 m) I ((b,.cells arr' T (0,0))::F)):
  JP 1 (dAt b N w) x (gh K) I ((b,.cells arr T (0,0))::F):=by
 have hxl:=hn.length;rw [Nat.mul_one] at hxl;by_cases h0:m=0
 ·subst h0;have hx:xs=[]:=List.eq_nil_of_length_eq_zero hxl;subst hx;exact ⟨_,_,_,0,[],rfl,hn,.inl ⟨Nat.zero_min _,Gh.done (hk arr hs (by simpa using hP))⟩⟩
 ·have hne:¬N=w:=by omega
  have hm:min m (N - w)=m:=Nat.min_eq_left (by omega);unfold dAt;rw [if_neg hne];refine AFS (L1:=[]) hn (by rw [hm,hs];omega) (fun u hu=>h1 u (List.mem_of_mem_take hu)) ?_;rw [hm,Nat.mul_one,List.take_of_length_le (by omega)];refine hk _ (by rw [Bf,hs]) (fun j u hu=>?_);rw [DG _ _ _ _ (by omega)];by_cases hj:j < w
  ·rw [if_pos hj];rw [List.getElem?_append_left (by omega)] at hu;exact hP j u hu
  ·have hlt:=(List.getElem?_eq_some_iff.1 hu).1;rw [List.length_append] at hlt;rw [if_neg hj,if_pos (by omega)];rw [List.getElem?_append_right (by omega),←hw] at hu;exact hu
theorem Fq (a b:List UInt8):u8s (a++b)=u8s a++u8s b:=by simp [u8s]
theorem JV (l:List UInt8):(u8s l).length=l.length:=by simp [u8s]
theorem Ob {v:Value}{l:List UInt8}(h:Bytes I v l){lo hi:Nat}(h1:lo≤hi)(h2:hi≤l.length){bhi:Option Value}(hhi:∀cap,l.length≤cap→Di bhi l.length cap=some hi):
  ∃v',Ao 1 v (some (.int .i64 lo)) bhi none=some v'∧Bytes I v' ((l.drop lo).take (hi - lo)):=by
 obtain ⟨v',hs,hv⟩:=SlI.part h h1 h2 (some (.int .i64 lo)) bhi (fun y hy=>.inl (BD _ _ _ _ (by omega))) hhi;refine ⟨v',hs,?_⟩;have e:u8s ((l.drop lo).take (hi - lo))=((u8s l).drop (lo * 1)).take ((hi - lo) * 1):=by simp [u8s]
 have e2:((l.drop lo).take (hi - lo)).length=hi - lo:=by simp;omega
 unfold Bytes;rw [e,e2];exact hv
theorem RF {v u z:Value}{l:List UInt8}(h:Bytes I v l)(hu:Bytes I u [0])(hz:Bytes I z [0,255])(hl:l.length≤1000000000)
  (hk:∀X v',SlO 5 1 X v' (u8s (esc l)) (esc l).length→K v' I (X++L)):CT ω 281 #[v,u,z,.int .i64 (-1)] K I L:=by
 refine ALb ?_;unfold AAq;obtain ⟨ua,uc,rfl⟩:=Bytes.form hu;obtain ⟨za,zc,rfl⟩:=Bytes.form hz;obtain ⟨va,vc,rfl⟩:=Bytes.form h;have hcl:=List.count_le_length (a:=(0:UInt8)) (l:=l);have em:((-1:Int) != 0)=true:=rfl;simp only [em,SSd,Nat.reduceAdd];refine call (Vk h hu ?_);unfold Qk;try simp only [SSd,Nat.reduceAdd]
 refine AC (fun e=>?_) (fun e=>?_)
 ·simp at e;have h0:l.count 0=0:=by omega
  have hn0:(0:UInt8) ∉ l:=List.count_eq_zero.1 h0;refine Dz (hsp:=⟨List.Perm.refl _⟩) (X:=[]) (F:=L) (cells:=[]) (len:=0) rfl (SlO.none _ 1) (SlI.news h) (Gu _) (by omega) (by omega) (fun X' v' hX'=>?_);rw [IW hn0] at hk;exact Gh.done (hk X' v' (by simpa using hX'))
 have hpos:0 < l.count 0:=by
  have:¬(l.count 0=0):=by simpa using e
  omega
 have ed:decide ((-1:Int) < 0)=true:=rfl;simp only [ed,SSd,Nat.reduceAdd];unfold Ls;have ez:((([0,255]:List UInt8).length:Nat):Int)=2:=rfl;have eu:((([0]:List UInt8).length:Nat):Int)=1:=rfl;have ew:IntKind.i64.wrap (2 - 1)=1:=rfl;try simp only [SSd,Nat.reduceAdd]
 simp only [ez,eu,ew,Int.mul_one];simp only [wrap_i64 ((l.count 0:Nat):Int) (by omega),wrap_i64 ((l.length:Int)+(l.count 0:Nat)) (by omega),SSd,Nat.reduceAdd];rw [show ((l.length:Int)+(l.count 0:Nat))=((l.length+l.count 0:Nat):Int) by omega];refine ⟨.i64,.i64,_,_,rfl,rfl,Nat.le_refl _,by omega,by omega,fun b=>Gh.done ?_⟩;have eg:decide ((0:Int) < 1)=true:=rfl;simp only [eg,SSd,Nat.reduceAdd];have hz0:=Ce #[Value.int .u8 0] (l.length+l.count 0);have hz1:(#[Value.int .u8 0]:Array Value).size=1:=rfl;rw [hz1,Nat.mul_one] at hz0;generalize Builtin.zeroCells #[Value.int .u8 0] (l.length+l.count 0)=arr0 at hz0 ⊢;refine loop (fun m s I' L'=>I'=I∧∃(st w r:Nat) (arr:Array Value),r+m=l.count 0∧s=(.int .i64 w,.int .i64 st,.int .i64 r,())∧L'=(b,Obj.cells arr 5 (0,0))::L∧arr.size=l.length+l.count 0∧st≤l.length∧r=(l.take st).count 0∧w=(esc (l.take st)).length∧
  ∀(j:Nat) (u:Value),(u8s (esc (l.take st)))[j]? =some u→arr[j]? =some u) (l.count 0) ⟨rfl,0,0,0,arr0,by omega,rfl,rfl,hz0,by omega,by simp,by simp [esc],fun j u hu=>by simp [u8s,esc] at hu⟩ ?_
 rintro m s I' L' ⟨rfl,st,w,r,arr,hrm,rfl,rfl,hs,hst,hr,hw,hP⟩;have hwl:=GX (l.take st);rw [←hw,List.length_take,Nat.min_eq_left hst,←hr] at hwl;have hsplit:l.count 0=(l.take st).count 0+(l.drop st).count 0:=by rw [←List.count_append,List.take_append_drop]
 unfold WM;try simp only [SSd,Nat.reduceAdd]
 refine AC (fun e=>?_) (fun e=>?_)
 ·simp at e;obtain ⟨pre,rest,hd,hp0⟩:=ON (l:=l.drop st) (by omega);have hdl:l.length - st=pre.length+1+rest.length:=by
   have:=congrArg List.length hd;simp at this;omega
  obtain ⟨v1,hs1,hv1⟩:=Ob h (lo:=st) (hi:=l.length) (by omega) (Nat.le_refl _) (bhi:=none) (fun _ _=>rfl);rw [List.take_of_length_le (by simp)] at hv1;simp only [hs1,SSd,Nat.reduceAdd];refine call (index_spec hv1 hu hd hp0 ?_);simp only [wrap_i64 ((st:Int)+pre.length) (by omega),SSd,Nat.reduceAdd];obtain ⟨v2,hs2,hv2⟩:=Ob h (lo:=st) (hi:=st+pre.length) (by omega) (by omega) (bhi:=some (.int .i64 ((st+pre.length:Nat):Int))) (fun cap hc=>BD _ _ _ _ (by omega));rw [show st+pre.length - st=pre.length by omega,hd,List.take_left] at hv2;rw [Int.natCast_add] at hs2;refine draw (fun _ _=>True) trivial ?_;have hdP:=hP;simp only [Ui (show w≤l.length+l.count 0 by omega),hs2,SSd,Nat.reduceAdd];refine Vj hs hP (by rw [JV,hw]) (by omega) (SlI.news hv2) (Gu _) (fun arr1 hs1' hP1=>?_);simp only [wrap_i64 ((w:Int)+pre.length) (by omega),SSd,Nat.reduceAdd];rw [show ((w:Int)+pre.length)=((w+pre.length:Nat):Int) by omega];simp only [Ui (show w+pre.length≤l.length+l.count 0 by omega),SSd,Nat.reduceAdd];refine Vj hs1' hP1 (by rw [List.length_append,JV,JV,hw]) (by simp;omega) (SlI.news hz) (Gu _) (fun arr2 hs2' hP2=>?_);have e2:(([0,255]:List UInt8).length:Nat)=2:=rfl;simp only [e2];have ht:l.take (st+pre.length+1)=l.take st++pre++[0]:=by
   rw [Nat.add_assoc,List.take_add,hd,List.append_assoc];congr 1
   rw [List.take_length_add_append];rfl
  have he:esc (l.take (st+pre.length+1))=esc (l.take st)++pre++[0,255]:=by
   rw [ht,HM,HM,IW hp0];rfl
  have hpc:pre.count 0=0:=List.count_eq_zero.2 hp0;simp only [eu,Int.natCast_add,SSd,Nat.reduceAdd];rw [wrap_i64 ((w:Int)+pre.length+((2:Nat):Int)) (by omega),wrap_i64 ((st:Int)+pre.length+1) (by omega),wrap_i64 ((r:Int)+1) (by omega)];refine Gh.done ⟨m - 1,by omega,rfl,st+pre.length+1,w+pre.length+2,r+1,arr2,by omega,by simp [Int.natCast_add],rfl,hs2',by omega,?_,?_,?_⟩
  ·rw [ht,List.count_append,List.count_append,hpc,←hr];rfl
  ·rw [he,List.length_append,List.length_append,←hw];rfl
  ·rw [he,Fq,Fq];exact hP2
 ·simp at e;have hr0:(l.drop st).count 0=0:=by omega
  have hn0:(0:UInt8) ∉ l.drop st:=List.count_eq_zero.1 hr0;have he:esc l=esc (l.take st)++l.drop st:=by
   conv=>lhs;rw [←List.take_append_drop st l,HM,IW hn0]
  obtain ⟨v1,hs1,hv1⟩:=Ob h (lo:=st) (hi:=l.length) (by omega) (Nat.le_refl _) (bhi:=none) (fun _ _=>rfl);rw [List.take_of_length_le (by simp)] at hv1;have hdl:(l.drop st).length=l.length - st:=by simp
  unfold Qj;refine draw (fun _ _=>True) trivial ?_;simp only [Ui (show w≤l.length+l.count 0 by omega),hs1,SSd,Nat.reduceAdd];refine Vj hs hP (by rw [JV,hw]) (by omega) (SlI.news hv1) (Gu _) (fun arr1 hs1' hP1=>?_);have hN:w+(l.drop st).length=l.length+l.count 0:=by omega
  try simp only [SSd,Nat.reduceAdd]
  rw [wrap_i64 ((w:Int)+((l.drop st).length:Nat)) (by omega),show ((w:Int)+((l.drop st).length:Nat))=((l.length+l.count 0:Nat):Int) by omega];have s3:Ao 1 (.slice (some ⟨b,0,none⟩) (l.length+l.count 0) (l.length+l.count 0)) (some (.int .i64 0)) (some (.int .i64 ((l.length+l.count 0:Nat):Int))) none=some (.slice (some ⟨b,0,none⟩) (l.length+l.count 0) (l.length+l.count 0)):=by
   have:=Je (b:=b) (off:=0) (len:=l.length+l.count 0) (cap:=l.length+l.count 0) (lo:=0) (hi:=l.length+l.count 0) (n:=1) (blo:=some (.int .i64 0)) (bhi:=some (.int .i64 ((l.length+l.count 0:Nat):Int))) rfl (BD _ _ _ _ (Nat.le_refl _)) (by omega);simpa using this
  simp only [s3,SSd,Nat.reduceAdd];have hel:=GX l;refine Gh.done (hk [(b,Obj.cells arr1 5 (0,0))] _ ⟨by rw [JV,Nat.mul_one],.inr ⟨b,l.length+l.count 0,arr1,rfl,by rw [hel],by omega,by omega,?_⟩⟩);rw [he,Fq];exact hP1
end
section
variable {ω:Om}{I:Imm}{L:LH}{K:Value→M}
def byteOf (n:Int):UInt8:=UInt8.ofNat (n % 256).toNat
theorem JW (n:Int):IntKind.u8.wrap n=((byteOf n).toNat:Int):=by
 have e:IntKind.u8.wrap n=n % 256:=by
  simp only [IntKind.wrap];simp [IntKind.bits,IntKind.signed]
 rw [e,byteOf];simp
 omega
def Bc (n:Nat):List UInt8:=if n < 128 then [UInt8.ofNat n] else UInt8.ofNat (n % 128+128)::Bc (n / 128)
termination_by n
theorem EB {n:Nat}(h:n < 128):Bc n=[UInt8.ofNat n]:=by rw [Bc,if_pos h]
theorem Fo {n:Nat}(h:¬n < 128):Bc n=UInt8.ofNat (n % 128+128)::Bc (n / 128):=by rw [Bc,if_neg h]
theorem Me:∀(k n:Nat),1≤k→n < 128 ^ k→(Bc n).length≤k
 |0,n,h,_=>by omega
 |k+1,n,_,h=>by
  by_cases h1:n < 128
  ·rw [EB h1];simp
  ·rw [Fo h1];simp only [List.length_cons];have hk:1≤k:=by
    rcases Nat.eq_zero_or_pos k with h0|h0
    ·subst h0;simp at h;omega
    ·omega
   have:=Me k (n / 128) hk (by rw [Nat.pow_succ] at h;omega);omega
theorem KH {n:Nat}(h:n < 9223372036854775808):(Bc n).length≤9:=Me 9 n (by omega) (by omega)
theorem Vq {n:Nat}(h:n < 128):byteOf n=UInt8.ofNat n:=by
 unfold byteOf;congr 1;omega
theorem AKG {X6 L0 F:LH}[SplitL X6 L0 F]{v:Value}{l:List UInt8}{x:UInt8}{K:Value→M}(h6:SlO 5 1 X6 v (u8s l) l.length)(hl:l.length+1≤140737488355328)
  (hk:∀X1 X6' v',SlO 5 1 X6' v' (u8s (l++[x])) (l++[x]).length→K v' I (X6'++(X1++F))):
  BN 5 1 #[.int .u8 0] 1 [(0,.int .u8 x.toNat)] (gh fun u=>App 5 1 1 #[.int .u8 0] v u (gh K)) I L0:=by
 refine Fb rfl (by omega) rfl (fun X1 u hX1=>?_);refine Dz (X:=X6) rfl h6 (hX1.news (fun x hx=>List.mem_append_left _ hx)) (by simp [Value.cells,Value.oneCell']) (by omega) (by omega) (fun X' v' hX'=>?_);exact hk X1 X' v' (by simpa [Value.cells,u8s] using hX')
abbrev OB (X:LH)(v:Value)(l:List UInt8):Prop:=SlO 5 1 X v (u8s l) l.length
theorem OB.freeze {A:M}{X F:LH}{v:Value}{l:List UInt8}(h:OB X v l)(hk:∀I',Ext I I'→Bytes I' v l→Gh A I' F):Gh A I (X++F):=SlO.freeze h hk
theorem by1 {F:LH}{c:UInt8}{K:Value→M}(hk:∀X u,OB X u [c]→Gh (K u) I (X++F)):BN 5 1 #[.int .u8 0] 1 [(0,.int .u8 c.toNat)] (gh K) I F:=
 Oc rfl (by omega) rfl (fun X1 u hX1=>hk X1 u (by unfold OB;simpa [Value.cells,u8s] using hX1))
theorem by2 {F:LH}{c d:UInt8}{K:Value→M}(hk:∀X u,OB X u [c,d]→Gh (K u) I (X++F)):BN 5 1 #[.int .u8 0] 2 [(0,.int .u8 c.toNat),(1,.int .u8 d.toNat)] (gh K) I F:=by
 refine ⟨#[.int .u8 c.toNat,.int .u8 d.toNat],by kernel_rfl,fun bb=>hk [(bb,_)] _ ⟨rfl,.inr ⟨bb,2,_,rfl,rfl,rfl,Nat.le_refl _,fun j u hu=>by simpa [u8s] using hu⟩⟩⟩
theorem Hm {X6 L0 F:LH}[SplitL X6 L0 F]{v x:Value}{l y:List UInt8}{K:Value→M}(h6:OB X6 v l)(hy:News 1 x I L0 y.length (u8s y))(hl:l.length+y.length≤140737488355328)
  (hk:∀X6' v',OB X6' v' (l++y)→K v' I (X6'++F)):App 5 1 1 #[.int .u8 0] v x (gh K) I L0:=
 Dz (X:=X6) rfl h6 hy (Gu _) (by omega) (by omega) (fun X' v' hX'=>hk X' v' (by
  unfold OB;rw [Fq,List.length_append];exact hX'))
theorem GT {X6 L0 F:LH}[SplitL X6 L0 F]{v x:Value}{l y:List UInt8}{K:Value→M}(h6:OB X6 v l)(hy:News 1 x I L0 y.length (u8s y))(hl:l.length+y.length≤140737488355328)
  (hk:∀X6' v',OB X6' v' (l++y)→Gh (K v') I (X6'++F)):App 5 1 1 #[.int .u8 0] v x (gh K) I L0:=
 KA (X:=X6) rfl h6 hy (Gu _) (by omega) (by omega) (fun X' v' hX'=>hk X' v' (by
  unfold OB;rw [Fq,List.length_append];exact hX'))
theorem Yv {v u z:Value}{l:List UInt8}(h:Bytes I v l)(hu:Bytes I u [0])(hz:Bytes I z [0,255])(hl:l.length≤1000000000)
  (hk:∀X v',OB X v' (esc l)→K v' I (X++L)):CT ω 276 #[v,u,z] K I L:=by
 refine ALd ?_;unfold AAv;exact call (RF h hu hz hl (fun X v' h'=>Gh.done (hk X v' h')))
theorem ZL {n:Nat}(hn:0 < n)(hn2:n≤1000000000000)(hk:∀X v',OB X v' []→K v' I (X++L)):CT ω 282 #[.slice none 0 0,.int .i64 n] K I L:=by
 refine ALa ?_;unfold AAo;have e1:decide ((n:Int) < 0)=false:=by simp
 have e2:decide ((0:Int) < (n:Int))=true:=by simp;omega
 have e3:IntKind.i64.wrap ((0:Nat) - (0:Nat):Int)=0:=rfl;simp only [e1,SSd,Nat.reduceAdd];unfold WL;try simp only [SSd,Nat.reduceAdd]
 simp only [e3,Int.sub_zero,wrap_i64 (n:Int) (by omega),e2,SSd,Nat.reduceAdd];have s1:Ao 1 (.slice none 0 0) none (some (.int .i64 ((0:Nat):Int))) none=some (.slice none 0 0):=rfl;simp only [s1,SSd,Nat.reduceAdd];refine ⟨none,0,0,n,rfl,rfl,AK rfl,by omega,by omega,.inr (.inr ⟨by omega,by omega,by omega,[],L,.inl ⟨none,0,rfl,rfl,rfl⟩,List.Sublist.refl _,fun b c hc=>Gh.done ?_⟩)⟩;have s2:=Je (b:=b) (off:=0) (len:=n) (cap:=c) (lo:=0) (hi:=0) (n:=1) (blo:=none) (bhi:=some (.int .i64 ((0:Nat):Int))) rfl (BD _ _ _ _ (by omega)) (by omega);simp only [Nat.zero_add] at hc ⊢;simp only [s2,SSd,Nat.reduceAdd];refine Gh.done (hk [(b,_)] _ ⟨rfl,.inr ⟨b,c,_,rfl,rfl,?_,by simp,fun j u hu=>by simp [u8s] at hu⟩⟩);simp only [Array.size_append,Ce];simp;omega
def Hg (a b:List UInt8)(k:Nat):List UInt8:=if k=0 then [] else if k=1 then a else a++b
theorem Tt {bb:Nat}{v1 v2:Value}{T:Nat}{F:LH}{a b:List UInt8}(h1:Bytes I v1 a)(h2:Bytes I v2 b)(hb:0 < b.length)(hl:a.length+b.length≤1000000000000)
  (hk:∀X v',OB X v' (a++b)→K v' I (X++(bb,Obj.cells #[v1,v2] T (0,0))::F)):
  CT ω 277 #[.slice (some ⟨bb,0,none⟩) 2 2] K I ((bb,Obj.cells #[v1,v2] T (0,0))::F):=by
 have hc:∀(k:Nat) (L':LH),k < 2→(bb,Obj.cells #[v1,v2] T (0,0))∈L'→Cell I L' bb (0+k) (if k=0 then v1 else v2):=by
  intro k L' hk hm;match k,hk with
  |0,_=>exact Cell.own hm rfl
  |1,_=>exact Cell.own hm rfl
 have hs:∀k:Nat,k < 2→(Hg a b (k+1)).length=(Hg a b k).length+(if k=0 then a else b).length∧Hg a b (k+1)=Hg a b k++(if k=0 then a else b):=by
  intro k hk;match k,hk with
  |0,_=>simp [Hg]
  |1,_=>simp [Hg]
 have hle:∀k:Nat,k≤2→(Hg a b k).length≤a.length+b.length:=by
  intro k hk;match k,hk with
  |0,_=>simp [Hg]
  |1,_=>simp [Hg]
  |2,_=>simp [Hg]
 refine ALc ?_;unfold AAt;try simp only [SSd,Nat.reduceAdd]
 refine loop (fun m s I' L'=>I'=I∧L'=(bb,Obj.cells #[v1,v2] T (0,0))::F∧∃k:Nat,k+m=2∧s=(.int .i64 (Hg a b k).length,.int .i64 k,())) 2 ⟨rfl,rfl,0,rfl,rfl⟩ ?_;rintro m s I' L' ⟨rfl,rfl,k,hkm,rfl⟩;unfold WT;try simp only [SSd,Nat.reduceAdd]
 refine AC (fun e=>?_) (fun e=>?_)
 ·simp at e;have hk2:k < 2:=by omega
  have hix:=IU bb 0 1 .i64 2 2 k (by omega) (by omega);simp only [hix,SSd,Nat.reduceAdd];obtain ⟨g1,g2⟩:=hs k hk2;have hlk:lenV (if k=0 then v1 else v2)=some (.int .i64 (if k=0 then a else b).length):=by
   by_cases h0:k=0
   ·obtain ⟨_,_,rfl⟩:=Bytes.form h1;simp [h0,lenV]
   ·obtain ⟨_,_,rfl⟩:=Bytes.form h2;simp [h0,lenV]
  have hck:=hc k ((bb,Obj.cells #[v1,v2] T (0,0))::F) hk2 (List.mem_cons_self ..);refine rd1 (v:=if k=0 then v1 else v2) (by simpa using hck) ?_;have hle2:=hle (k+1) (by omega);simp only [hlk,SSd,Nat.reduceAdd];rw [wrap_i64 _ (by omega)];rw [show (((Hg a b k).length:Int)+((if k=0 then a else b).length:Nat))=(((Hg a b (k+1)).length:Nat):Int) by omega];refine AC (fun e=>?_) (fun e=>?_)
  ·simp at e;omega
  unfold WS;try simp only [SSd,Nat.reduceAdd]
  rw [wrap_i64 _ (by omega)];exact Gh.done ⟨m - 1,by omega,rfl,rfl,k+1,by omega,by simp⟩
 ·simp at e;have hk2:k=2:=by omega
  subst hk2;unfold WR;have e2:(Hg a b 2).length=a.length+b.length:=by simp [Hg]
  refine call (ZL (by omega) (by omega) (fun X v' hX=>?_));try simp only [SSd,Nat.reduceAdd]
  refine loop (fun m s I2 L2=>I2=I'∧∃(k:Nat) (X6:LH) (v6:Value),k+m=2∧s=(v6,.int .i64 k,())∧L2=X6++(bb,Obj.cells #[v1,v2] T (0,0))::F∧OB X6 v6 (Hg a b k)) 2 ⟨rfl,0,X,v',rfl,rfl,rfl,hX⟩ ?_;rintro m2 s2 I2 L2 ⟨rfl,k,X6,v6,hkm2,rfl,rfl,h6⟩;unfold WQ;try simp only [SSd,Nat.reduceAdd]
  refine AC (fun e=>?_) (fun e=>?_)
  ·simp at e;have hk2:k < 2:=by omega
   have hix:=IU bb 0 1 .i64 2 2 k (by omega) (by omega);simp only [hix,SSd,Nat.reduceAdd];obtain ⟨g1,g2⟩:=hs k hk2;have hck:=hc k (X6++(bb,Obj.cells #[v1,v2] T (0,0))::F) hk2 (List.mem_append_right _ (List.mem_cons_self ..));refine rd1 (v:=if k=0 then v1 else v2) (by simpa using hck) ?_;have hle2:=hle (k+1) (by omega);have hn:Bytes I2 (if k=0 then v1 else v2) (if k=0 then a else b):=by split <;> assumption
   refine Hm (y:=if k=0 then a else b) h6 (SlI.news hn) (by omega) (fun X7 v7 h7=>?_);try simp only [SSd,Nat.reduceAdd]
   rw [wrap_i64 _ (by omega)];exact Gh.done ⟨m2 - 1,by omega,rfl,k+1,X7,v7,by omega,by simp,rfl,by rw [g2];exact h7⟩
  ·simp at e;have hk2:k=2:=by omega
   subst hk2;exact Gh.done (hk X6 v6 (by simpa [Hg] using h6))
def ktF (l:List UInt8):List UInt8:=esc l++[0,1]
theorem Rf {v:Value}{l:List UInt8}(h:Bytes I v l)(hl:l.length≤1000000000)(hk:∀X v' I',Ext I I'→OB X v' (ktF l)→K v' I' (X++L)):CT ω 265 #[v] K I L:=by
 refine ALe ?_;unfold AAx;refine by1 (c:=0) (fun X1 u1 h1=>OB.freeze h1 (fun I1 hI1 hb1=>Gh.done ?_));refine by2 (c:=0) (d:=255) (fun X2 u2 h2=>OB.freeze h2 (fun I2 hI2 hb2=>Gh.done ?_));refine Bz (Yv (h.mono (hI1.trans hI2)) (hb1.mono hI2) hb2 hl (fun X3 u3 h3=>?_));refine OB.freeze h3 (fun I3 hI3 hb3=>Gh.done ?_);refine by2 (c:=0) (d:=1) (fun X4 u4 h4=>OB.freeze h4 (fun I4 hI4 hb4=>Gh.done ?_));have hel:=GX l;have hcl:=List.count_le_length (a:=(0:UInt8)) (l:=l);obtain ⟨a3,c3,rfl⟩:=Bytes.form hb3;obtain ⟨a4,c4,rfl⟩:=Bytes.form hb4;refine ⟨#[.slice a3 (esc l).length c3,.slice a4 ([0,1]:List UInt8).length c4],by kernel_rfl,fun bb=>Gh.done ?_⟩;refine call (Tt (hb3.mono hI4) hb4 (by simp) (by simp;omega) (fun X v' hX=>?_));exact Gh.to (X++L) (Gh.done (hk X v' I4 (hI1.trans (hI2.trans (hI3.trans hI4))) hX))
end
section
variable {ω:Om}{I:Imm}{L:LH}{K:Value→M}
theorem AGd {X6 L0 F:LH}[SplitL X6 L0 F]{v:Value}{l:List UInt8}{x:UInt8}{K:Value→M}(h6:OB X6 v l)(hl:l.length+1≤140737488355328)
  (hk:∀X1 X6' v',OB X6' v' (l++[x])→Gh (K v') I (X6'++(X1++F))):
  BN 5 1 #[.int .u8 0] 1 [(0,.int .u8 x.toNat)] (gh fun u=>App 5 1 1 #[.int .u8 0] v u (gh K)) I L0:=by
 refine Fb rfl (by omega) rfl (fun X1 u hX1=>?_);refine KA (X:=X6) rfl h6 (hX1.news (fun x hx=>List.mem_append_left _ hx)) (by simp [Value.cells,Value.oneCell']) (by omega) (by omega) (fun X' v' hX'=>?_);exact hk X1 X' v' (by unfold OB;simpa [Value.cells,u8s] using hX')
theorem ZX {l:List UInt8}{T:Nat}(hk:∀v I',Ext I I'→Bytes I' v l→Gh (K v) I' L):SJ T (BR l) (gh K) I L:=by
 refine ⟨⟨l.toArray⟩,rfl,fun b c hc=>Gh.freeze (fun hE=>hk _ _ hE ?_)⟩;rw [Jz] at hc ⊢;refine ⟨by simp [u8s],_,c,rfl,hc,fun h0=>⟨b,0,_,T,_,rfl,if_pos rfl,fun j u hu=>?_⟩⟩;have hj:j < l.length:=by have:=(List.getElem?_eq_some_iff.1 hu).1;simpa [u8s] using this
 simp only [u8s,List.getElem?_map] at hu;rw [Nat.zero_add,Array.getElem?_append_left (by simpa using hj)];simpa using hu
theorem OV {v:Value}{l:List UInt8}(h:Bytes I v l)(hk:∀v',Bytes I v' l→K v' I L):CT ω 178 #[v] K I L:=by
 refine AMS ?_;unfold ACZ;obtain ⟨hcl,a,cap,rfl,hle,hb⟩:=h;have s1:Ao 1 (.slice a l.length cap) none (some (.int .i64 l.length)) (some (.int .i64 l.length))=some (.slice (if l.length=0 then a else a.map (·.add (0 * 1))) l.length l.length):=by
  simp only [Ao,Option.isNone_some,Bool.false_and,Bool.false_eq_true,if_false,BD _ _ _ _ hle,BD _ _ _ _ (Nat.le_refl _),Option.bind_some,AOf,Nat.sub_zero]
 simp only [s1,SSd,Nat.reduceAdd];refine Gh.done (hk _ ⟨hcl,_,l.length,rfl,Nat.le_refl _,fun h0=>?_⟩);obtain ⟨b,off,cs,T,fr,rfl,hm,hcs⟩:=hb h0;exact ⟨b,off,cs,T,fr,by rw [if_neg h0];simp [Ba],hm,hcs⟩
theorem ANV:∀x:Fin 256,Eb .or .u8 ((x.val:Nat):Int) 128=((x.val % 128+128:Nat):Int):=by decide
theorem Hn {n:Nat}(hn:n < 9223372036854775808)(hk:∀v' I',Ext I I'→Bytes I' v' (Bc n)→K v' I' L):CT ω 121 #[.int .u64 n] K I L:=by
 refine AMx ?_;unfold ADa;refine loop (fun m s I' L'=>I'=I∧∃(c:Nat) (d:List UInt8) (X:LH) (v:Value),c=m∧c≤n∧Bc n=d++Bc c∧d.length≤64∧s=(.int .u64 c,v,())∧L'=X++L∧OB X v d) n ⟨rfl,n,[],[],_,rfl,Nat.le_refl _,rfl,by simp,rfl,rfl,SlO.none _ 1⟩ ?_;rintro m s I' L' ⟨rfl,c,d,X,v,rfl,hcn,he,hd,rfl,rfl,hX⟩;have hlen:=KH hn;rw [he,List.length_append] at hlen;unfold XT;try simp only [SSd,Nat.reduceAdd]
 refine AC (fun e=>?_) (fun e=>?_)
 ·simp at e;simp only [JW,SSd,Nat.reduceAdd];have hb:=ANV ⟨(byteOf (c:Int)).toNat,(byteOf (c:Int)).toNat_lt⟩;simp only at hb
  have hbo:(byteOf (c:Int)).toNat % 128+128=(UInt8.ofNat (c % 128+128)).toNat:=by
   simp [byteOf];omega
  rw [hb,hbo];refine AKG hX (by omega) (fun X1 X6 v6 h6=>?_);have hsh:=Jy (a:=(c:Int)) (c:=7) .u64 .u64 (by decide);have hdv:(c:Int).fdiv (2 ^ (min (7:Int).toNat IntKind.u64.bits))=((c / 128:Nat):Int):=by
   show (c:Int).fdiv (2 ^ 7)=_;rw [Int.fdiv_eq_ediv_of_nonneg _ (by decide)];omega
  rw [hdv] at hsh;simp only [hsh,SSd,Nat.reduceAdd];refine Gh.to (X6++L) (Gh.done ⟨c / 128,by omega,rfl,c / 128,d++[UInt8.ofNat (c % 128+128)],X6,v6,rfl,by omega,?_,by simp;omega,rfl,rfl,h6⟩);rw [he,Fo (by omega)];simp
 ·simp at e;unfold XS;simp only [JW,SSd,Nat.reduceAdd];refine AGd hX (by omega) (fun X1 X6 v6 h6=>?_);rw [Vq (by omega),←EB (by omega),←he] at h6;refine OB.freeze h6 (fun I2 hI2 hB=>Gh.done ?_);refine call (OV hB (fun v' hv'=>?_));exact Gh.to L (Gh.done (hk v' I2 hI2 hv'))
def wb (w:Int)(k:Nat):UInt8:=byteOf (w.fdiv (2 ^ k))
def Ih (w:Int)(k:Nat):List UInt8:=(List.range k).map fun j=>wb w (48 - 8 * j)
def stF (s:TStamp):List UInt8:=Ih s.fWall 7++[wb s.fLogic 8,byteOf s.fLogic]
theorem EK {x:TStamp}(hr:AU x=true)(hk:∀X v',OB X v' (stF x)→K (.tuple #[v',.int .i64 0]) I (X++L)):CT ω 186 #[sv x] K I L:=by
 refine AMN ?_;unfold ACO;refine AV (fun b=>?_);refine rdB rfl ?_;refine call (BS ?_);rw [hr];simp only [Bool.not_true,SSd,Nat.reduceAdd];refine ALD (ln:=0) (cn:=9) (by omega) (by omega) (by omega) (fun X v hX=>?_);have hX0:OB X v []:=by
  have e:(Builtin.zeroCells #[Value.int .u8 0] 0).toList=[]:=by simp [Builtin.zeroCells]
  rw [e] at hX;exact hX
 refine loop (fun m s I' L'=>I'=I∧∃(k:Nat) (X6:LH) (v6:Value),k+m=7∧s=(v6,.int .i64 (48 - 8 * (k:Int)),())∧L'=X6++(b,Obj.cells #[.int .i64 x.fWall,.int .i64 x.fLogic] 41 (0,0))::L∧OB X6 v6 (Ih x.fWall k)) 7 ⟨rfl,0,X,v,rfl,rfl,rfl,hX0⟩ ?_;rintro m s I' L' ⟨rfl,k,X6,v6,hkm,rfl,rfl,h6⟩;have hwl:(Ih x.fWall k).length=k:=by simp [Ih]
 unfold Wu;try simp only [SSd,Nat.reduceAdd]
 refine AC (fun e=>?_) (fun e=>?_)
 ·simp at e;refine rdb ?_;have hsh:=Jy (a:=x.fWall) (c:=48 - 8 * (k:Int)) .i64 .i64 (by omega);have hmin:min (48 - 8 * (k:Int)).toNat IntKind.i64.bits=48 - 8 * k:=by
   have:IntKind.i64.bits=64:=rfl;omega
  rw [hmin] at hsh;simp only [hsh,JW,SSd,Nat.reduceAdd];refine AKG (x:=wb x.fWall (48 - 8 * k)) h6 (by omega) (fun X1 X7 v7 h7=>?_);try simp only [SSd,Nat.reduceAdd]
  rw [wrap_i64 _ (by omega)];refine Gh.to (X7++(b,Obj.cells #[.int .i64 x.fWall,.int .i64 x.fLogic] 41 (0,0))::L) (Gh.done ⟨m - 1,by omega,rfl,k+1,X7,v7,by omega,?_,rfl,?_⟩)
  ·congr 2;congr 1;omega
  ·have:Ih x.fWall (k+1)=Ih x.fWall k++[wb x.fWall (48 - 8 * k)]:=by simp [Ih,List.range_succ]
   rw [this];exact h7
 ·simp at e;have hk7:k=7:=by omega
  subst hk7;unfold Wt;try simp only [SSd,Nat.reduceAdd]
  refine rdb ?_;have hsh:=Jy (a:=x.fLogic) (c:=8) .i64 .u64 (by omega);have hmin:min (8:Int).toNat IntKind.i64.bits=8:=rfl;rw [hmin] at hsh;simp only [hsh,JW,SSd,Nat.reduceAdd];refine rdb ?_;simp only [JW,SSd,Nat.reduceAdd];refine by2 (c:=wb x.fLogic 8) (d:=byteOf x.fLogic) (fun X2 u2 h2=>Gh.done ?_);refine Hm (y:=[wb x.fLogic 8,byteOf x.fLogic]) h6 (h2.news (fun x hx=>List.mem_append_left _ hx)) (by simp [hwl]) (fun X7 v7 h7=>?_);exact Gh.to (X7++L) (Gh.done (hk X7 v7 h7))
def Af (v:TVer):List UInt8:=if v.fDel then [1] else 0::v.fValue
abbrev vv (v:TVer):Value:=.agg #[.int .i64 v.fAt.fWall,.int .i64 v.fAt.fLogic,.bool v.fDel,BR v.fValue]
theorem IF {v:TVer}(hl:v.fValue.length≤1000000000)(hk:∀X u,OB X u (Af v)→K u I (X++L)):CT ω 235 #[vv v] K I L:=by
 refine ALl ?_;unfold ABN;refine AV (fun b=>?_);try simp only [SSd,Nat.reduceAdd]
 refine rdb ?_;refine AC (fun e=>?_) (fun e=>?_)
 ·refine by1 (c:=1) (fun X1 u1 h1=>?_);refine Gh.to (X1++L) (Gh.done (Gh.done (hk X1 u1 ?_)));unfold Af;rw [if_pos e];exact h1
 ·refine by1 (c:=0) (fun X1 u1 h1=>Gh.done ?_);try simp only [SSd,Nat.reduceAdd]
  refine rdb ?_;refine Hm (y:=v.fValue) h1 (.inr (.inr ⟨_,rfl,rfl,by simp [ByteArray.size],by simp [u8s]⟩)) (by simp;omega) (fun X7 v7 h7=>?_);refine Gh.to (X7++L) (Gh.done (hk X7 v7 ?_));unfold Af;rw [if_neg (by simp [e])];exact h7
def Ag (k:List UInt8)(v:TVer):List UInt8:=118::(ktF k++stF v.fAt)
theorem KF {k:List UInt8}{v:TVer}(hr:AU v.fAt=true)(hl:k.length≤1000000000)(hk:∀X u I',Ext I I'→OB X u (Ag k v)→K u I' (X++L)):CT ω 234 #[BR k,vv v] K I L:=by
 refine ALm ?_;unfold ABP;refine AV (fun b=>?_);try simp only [SSd,Nat.reduceAdd]
 refine rdP [.int .i64 v.fAt.fWall,.int .i64 v.fAt.fLogic] rfl rfl ?_;refine call (EK (x:=v.fAt) hr (fun X1 u1 h1=>?_));try simp only [SSd,Nat.reduceAdd]
 have hs9:(stF v.fAt).length=9:=rfl;have hel:=GX k;have hcl:=List.count_le_length (a:=(0:UInt8)) (l:=k);have hkl:(ktF k).length≤3000000000:=by unfold ktF;simp;omega
 refine by1 (c:=118) (fun X2 u2 h2=>Gh.done ?_);refine ZX (fun v3 I3 hI3 hb3=>Gh.done ?_);refine call (Rf hb3 hl (fun X4 u4 I4 hI4 h4=>?_));refine Hm (X6:=X2) (y:=ktF k) h2 (h4.news (fun x hx=>by simp [hx])) (by simp;omega) (fun X5 u5 h5=>?_);refine Hm (X6:=X5) (y:=stF v.fAt) h5 (h1.news (fun x hx=>by simp [hx])) (by simp;omega) (fun X6 u6 h6=>?_);refine Gh.to (X6++L) (Gh.done (hk X6 u6 I4 (hI3.trans hI4) ?_));unfold Ag;simpa using h6
end
end Go.Proofs.YtmmfcgbfbcamcaaGreatDoor
namespace Go.SL
def QD (α:Type):Setoid (List α):=⟨List.Perm,List.Perm.refl,List.Perm.symm,List.Perm.trans⟩
def MS (α:Type):Type:=Quotient (QD α)
def ms {α:Type}(l:List α):MS α:=Quotient.mk (QD α) l
def QE {α:Type}(a b:MS α):MS α:=Quotient.liftOn₂ a b (fun x y=>ms (x++y)) (fun _ _ _ _ h1 h2=>Quotient.sound (s:=QD α) (List.Perm.append h1 h2))
instance {α:Type}:Std.Associative (QE (α:=α)):=⟨fun a b c=>by
 refine Quotient.inductionOn₃ a b c fun x y z=>?_;show ms (x++y++z)=ms (x++(y++z));rw [List.append_assoc]⟩
instance {α:Type}:Std.Commutative (QE (α:=α)):=⟨fun a b=>by
 refine Quotient.inductionOn₂ a b fun x y=>?_;exact Quotient.sound (s:=QD α) List.perm_append_comm⟩
theorem AN {α:Type}(a b:List α):ms (a++b)=QE (ms a) (ms b):=rfl
def ms1 {α:Type}(x:α):MS α:=ms [x]
theorem AM {α:Type}(x:α)(b:List α):ms (x::b)=QE (ms1 x) (ms b):=rfl
theorem AY {α:Type}(a:MS α):QE a (ms [])=a:=Quotient.inductionOn a fun x=>by show ms (x++[])=ms x;rw [List.append_nil]
theorem AQ {α:Type}(a:MS α):QE (ms []) a=a:=Quotient.inductionOn a fun x=>rfl
theorem BA {α:Type}{a b:List α}(h:a.Perm b):ms a=ms b:=Quotient.sound (s:=QD α) h
theorem AP {α:Type}{a b:List α}(h:ms a=ms b):a.Perm b:=Quotient.exact (s:=QD α) h
abbrev Key:=List UInt8
def CY (k:Key):Value:=.string ⟨k.toArray⟩
def Au (e:MapEntry):Key:=match e.key with
 | .string s=>s.data.toList
 |_=>[]
def fnd (k:Key):List MapEntry→Nat→Option (Nat×Value)
 |[],_=>none
 |e::r,i=>if Au e=k then some (i,e.val) else fnd k r (i+1)
def HZ (m:Key→Option Value)(k:Key)(v:Option Value):Key→Option Value:=fun q=>if q=k then v else m q
structure MapS (es:Array MapEntry)(clock:Nat)(m:Key→Option Value):Prop where
 str:∀e∈es.toList,∃s:ByteArray,e.key= .string s
 nod:(es.toList.map Au).Nodup
 brn:∀e∈es.toList,e.born < clock
 bnd:(es.toList.map (·.born)).Nodup
 val:∀k,m k=(fnd k es.toList 0).map (·.2)
theorem AAB {a b:ByteArray}:(a==b)=decide (a.data.toList=b.data.toList):=by
 cases a with
 |mk a=>cases b with
  |mk b=>
   show (a==b)=_;rw [Bool.eq_iff_iff];simp only [beq_iff_eq,decide_eq_true_eq];exact ⟨fun h=>by rw [h],fun h=>by cases a;cases b;simpa using h⟩
theorem LU {k:Key}:∀{l:List MapEntry} {i:Nat},(∀e∈l,∃s:ByteArray,e.key= .string s)→Instr.findNow .string (CY k) l i=some (fnd k l i)
 |[],_,_=>rfl
 |e::l,i,h=>by
  obtain ⟨s,hs⟩:=h e (List.mem_cons_self ..);have ih:=LU (k:=k) (l:=l) (i:=i+1) (fun x hx=>h x (List.mem_cons_of_mem _ hx));simp only [Instr.findNow,fnd,Au,hs,CY,Instr.sameNow];rw [AAB];by_cases hk:s.data.toList=k
  ·have:decide ((⟨k.toArray⟩:ByteArray).data.toList=s.data.toList)=true:=by simp [hk]
   rw [this,if_pos hk]
  ·have:decide ((⟨k.toArray⟩:ByteArray).data.toList=s.data.toList)=false:=by simp;exact fun h=>hk h.symm
   rw [this,if_neg hk];exact ih
theorem MapS.find {es:Array MapEntry}{clock:Nat}{m:Key→Option Value}(h:MapS es clock m)(k:Key):Instr.findNow .string (CY k) es.toList 0=some (fnd k es.toList 0):=LU h.str
theorem MapS.empty:MapS #[] 0 (fun _=>none):=⟨fun e h=>by simp at h,by simp,fun e h=>by simp at h,by simp,fun k=>rfl⟩
theorem fnd_none {k:Key}:∀{l:List MapEntry} {i:Nat},fnd k l i=none↔k ∉ l.map Au
 |[],_=>by simp [fnd]
 |e::l,i=>by
  simp only [fnd,List.map_cons,List.mem_cons,not_or];by_cases h:Au e=k
  ·simp [h]
  ·rw [if_neg h,fnd_none (l:=l)];exact ⟨fun h'=>⟨fun e'=>h e'.symm,h'⟩,fun h'=>h'.2⟩
theorem Jo {k:Key}:∀{l:List MapEntry} {i j:Nat} {v:Value},fnd k l i=some (j,v)→∃n e,j=i+n∧l[n]? =some e∧Au e=k∧e.val=v
 |[],_,_,_,h=>by simp [fnd] at h
 |e::l,i,j,v,h=>by
  simp only [fnd] at h;split at h
  ·rename_i hk
   simp only [Option.some.injEq,Prod.mk.injEq] at h;exact ⟨0,e,by omega,rfl,hk,h.2⟩
  ·obtain ⟨n,e',h1,h2,h3,h4⟩:=Jo h;exact ⟨n+1,e',by omega,by simpa using h2,h3,h4⟩
theorem Ej {k:Key}:∀{l:List MapEntry} {i j:Nat},(fnd k l i).map (·.2)=(fnd k l j).map (·.2)
 |[],_,_=>rfl
 |e::l,i,j=>by
  simp only [fnd];split
  ·rfl
  ·exact Ej
theorem OL {k:Key}:∀{l l':List MapEntry} {i:Nat},(fnd k (l++l') i).map (·.2)=match (fnd k l i).map (·.2) with
  |some v=>some v
  |none=>(fnd k l' 0).map (·.2)
 |[],l',i=>by simp only [List.nil_append,fnd,Option.map_none];exact Ej
 |e::l,l',i=>by
  simp only [List.cons_append,fnd];split
  ·rfl
  ·exact OL
theorem Xx {k q:Key}{v:Value}:∀{l:List MapEntry} {n:Nat} {e:MapEntry},l[n]? =some e→Au e=k→(l.map Au).Nodup→
  (fnd q (l.set n {e with key:=CY k,val:=v}) 0).map (·.2)=if q=k then some v else (fnd q l 0).map (·.2)
 |[],n,e,h,_,_=>by simp at h
 |x::l,0,e,h,hk,hn=>by
  simp only [List.getElem?_cons_zero,Option.some.injEq] at h;subst h;have hko:Au {x with key:=CY k,val:=v}=k:=by simp [Au,CY]
  simp only [List.set_cons_zero,fnd,hko,hk];by_cases h:k=q
  ·simp [h]
  ·rw [if_neg h,if_neg (fun e=>h e.symm),if_neg h]
 |x::l,n+1,e,h,hk,hn=>by
  simp only [List.getElem?_cons_succ] at h;simp only [List.map_cons,List.nodup_cons] at hn;simp only [List.set_cons_succ,fnd];have hmem:k∈l.map Au:=List.mem_map.2 ⟨e,List.mem_of_getElem? h,hk⟩;by_cases hx:Au x=q
  ·rw [if_pos hx,if_pos hx,if_neg];intro e';rw [hx,e'] at hn;exact hn.1 hmem
  ·rw [if_neg hx,if_neg hx];have ih:=Xx (q:=q) (v:=v) h hk hn.2;rw [Ej (j:=0),ih,Ej (i:=0+1) (j:=0)]
theorem SU {k:Key}{v:Value}:∀{l:List MapEntry} {n:Nat} {e:MapEntry},l[n]? =some e→Au e=k→(l.set n {e with key:=CY k,val:=v}).map Au=l.map Au
 |[],n,e,h,_=>by simp at h
 |x::l,0,e,h,hk=>by
  simp only [List.getElem?_cons_zero,Option.some.injEq] at h;subst h;simp [Au,CY] at hk ⊢;exact hk.symm
 |x::l,n+1,e,h,hk=>by
  simp only [List.getElem?_cons_succ] at h;simp only [List.set_cons_succ,List.map_cons,SU h hk]
theorem PZ {k:Key}{v:Value}:∀{l:List MapEntry} {n:Nat} {e:MapEntry},l[n]? =some e→(l.set n {e with key:=CY k,val:=v}).map (·.born)=l.map (·.born)
 |[],n,e,h=>by simp at h
 |x::l,0,e,h=>by
  simp only [List.getElem?_cons_zero,Option.some.injEq] at h;subst h;simp
 |x::l,n+1,e,h=>by
  simp only [List.getElem?_cons_succ] at h;simp only [List.set_cons_succ,List.map_cons,PZ (k:=k) h]
def AIj (k:Key)(v:Value)(es:Array MapEntry)(clock:Nat):Obj:=match fnd k es.toList 0 with
 |some (i,_)=>.map (es.modify i fun e=>{e with key:=CY k,val:=v}) clock
 |none=>.map (es.push {key:=CY k,val:=v,born:=clock}) (clock+1)
theorem Ns {α:Type}{a:Array α}{i:Nat}{f:α→α}{x:α}(h:a.toList[i]? =some x):(a.modify i f).toList=a.toList.set i (f x):=by
 have hlt:i < a.size:=by
  have:=(List.getElem?_eq_some_iff.1 h).1;simpa using this
 apply List.ext_getElem?
 intro j;simp only [Array.getElem?_toList,Array.getElem?_modify];rw [List.getElem?_set];by_cases e:i=j
 ·subst e;simp only [Array.getElem?_toList] at h;rw [h];simp [hlt]
 ·simp [e]
theorem MapS.put {es:Array MapEntry}{clock:Nat}{m:Key→Option Value}(h:MapS es clock m)(k:Key)(v:Value):∃es' clock',AIj k v es clock= .map es' clock'∧MapS es' clock' (HZ m k (some v)):=by
 unfold AIj;cases hf:fnd k es.toList 0 with
 |none=>
  refine ⟨_,_,rfl,?_⟩;have hn:=fnd_none.1 hf;have hl:(es.push {key:=CY k,val:=v,born:=clock}).toList=es.toList++[{key:=CY k,val:=v,born:=clock}]:=by simp
  have hko:Au {key:=CY k,val:=v,born:=clock}=k:=by simp [Au,CY]
  refine ⟨fun e he=>?_,?_,fun e he=>?_,?_,fun q=>?_⟩
  ·rw [hl] at he;rcases List.mem_append.1 he with he|he
   ·exact h.str e he
   ·simp only [List.mem_singleton] at he;subst he;exact ⟨_,rfl⟩
  ·rw [hl,List.map_append,List.nodup_append];refine ⟨h.nod,by simp,fun a ha b hb=>?_⟩;simp only [List.map_cons,List.map_nil,List.mem_singleton,hko] at hb;subst hb;exact fun e=>hn (e ▸ ha)
  ·rw [hl] at he;rcases List.mem_append.1 he with he|he
   ·have:=h.brn e he;omega
   ·simp only [List.mem_singleton] at he;subst he;simp
  ·rw [hl,List.map_append,List.nodup_append];refine ⟨h.bnd,by simp,fun a ha b hb=>?_⟩;simp only [List.map_cons,List.map_nil,List.mem_singleton] at hb;subst hb;obtain ⟨e,he,rfl⟩:=List.mem_map.1 ha;have:=h.brn e he;omega
  ·rw [hl,OL,←h.val q];unfold HZ;by_cases e:q=k
   ·subst e;rw [if_pos rfl,h.val q,hf];simp [fnd,hko]
   ·rw [if_neg e];have hf0:fnd q [{key:=CY k,val:=v,born:=clock}] 0=none:=by
     simp only [fnd,hko];rw [if_neg (fun e'=>e (Eq.symm e'))]
    rw [hf0];cases m q <;> rfl
 |some p=>
  obtain ⟨i,u⟩:=p;obtain ⟨n,e,h1,h2,h3,h4⟩:=Jo hf;obtain rfl:i=n:=by omega
  refine ⟨_,_,rfl,?_⟩;have hl:=Ns (f:=fun e=>{e with key:=CY k,val:=v}) h2;refine ⟨fun x hx=>?_,?_,fun x hx=>?_,?_,fun q=>?_⟩
  ·rw [hl] at hx;rcases List.mem_or_eq_of_mem_set hx with hx|rfl
   ·exact h.str x hx
   ·exact ⟨_,rfl⟩
  ·rw [hl,SU h2 h3];exact h.nod
  ·rw [hl] at hx;rcases List.mem_or_eq_of_mem_set hx with hx|rfl
   ·exact h.brn x hx
   ·exact h.brn e (List.mem_of_getElem? h2)
  ·rw [hl,PZ (k:=k) h2];exact h.bnd
  ·rw [hl,Xx h2 h3 h.nod,←h.val q];rfl
def ZV (k:Key)(es:Array MapEntry)(clock:Nat):Obj:=match fnd k es.toList 0 with
 |some (i,_)=>.map (es.eraseIdxIfInBounds i) clock
 |none=>.map es clock
theorem QN {k q:Key}:∀{l:List MapEntry} {n:Nat} {e:MapEntry},l[n]? =some e→Au e=k→(l.map Au).Nodup→(fnd q (l.eraseIdx n) 0).map (·.2)=if q=k then none else (fnd q l 0).map (·.2)
 |[],n,e,h,_,_=>by simp at h
 |x::l,0,e,h,hk,hn=>by
  simp only [List.getElem?_cons_zero,Option.some.injEq] at h;subst h;simp only [List.map_cons,List.nodup_cons] at hn;simp only [List.eraseIdx_cons_zero,fnd,hk];by_cases h:q=k
  ·subst h;rw [if_pos rfl,fnd_none.2 (by rw [←hk];exact hn.1)];rfl
  ·rw [if_neg h,if_neg (fun e=>h e.symm)];exact Ej
 |x::l,n+1,e,h,hk,hn=>by
  simp only [List.getElem?_cons_succ] at h;simp only [List.map_cons,List.nodup_cons] at hn;simp only [List.eraseIdx_cons_succ,fnd];have hmem:k∈l.map Au:=List.mem_map.2 ⟨e,List.mem_of_getElem? h,hk⟩;by_cases hx:Au x=q
  ·rw [if_pos hx,if_pos hx,if_neg];intro e';rw [hx,e'] at hn;exact hn.1 hmem
  ·rw [if_neg hx,if_neg hx,Ej (j:=0),QN h hk hn.2,Ej (i:=0+1) (j:=0)]
theorem MapS.del {es:Array MapEntry}{clock:Nat}{m:Key→Option Value}(h:MapS es clock m)(k:Key):∃es',ZV k es clock= .map es' clock∧MapS es' clock (HZ m k none):=by
 unfold ZV;cases hf:fnd k es.toList 0 with
 |none=>
  refine ⟨es,rfl,h.str,h.nod,h.brn,h.bnd,fun q=>?_⟩;unfold HZ;by_cases e:q=k
  ·subst e;rw [if_pos rfl,hf];rfl
  ·rw [if_neg e];exact h.val q
 |some p=>
  obtain ⟨i,u⟩:=p;obtain ⟨n,e,h1,h2,h3,h4⟩:=Jo hf;obtain rfl:i=n:=by omega
  have hlt:i < es.size:=by
   have:=(List.getElem?_eq_some_iff.1 h2).1;simpa using this
  have hl:(es.eraseIdxIfInBounds i).toList=es.toList.eraseIdx i:=by simp [Array.eraseIdxIfInBounds,hlt]
  refine ⟨_,rfl,fun x hx=>?_,?_,fun x hx=>?_,?_,fun q=>?_⟩
  ·rw [hl] at hx;exact h.str x (List.mem_of_mem_eraseIdx hx)
  ·rw [hl];exact h.nod.sublist (List.Sublist.map _ (List.eraseIdx_sublist ..))
  ·rw [hl] at hx;exact h.brn x (List.mem_of_mem_eraseIdx hx)
  ·rw [hl];exact h.bnd.sublist (List.Sublist.map _ (List.eraseIdx_sublist ..))
  ·rw [hl,QN h2 h3 h.nod,←h.val q];rfl
section rules
variable {I:Imm}{L:LH}{K:Value→M}{b:Nat}{es:Array MapEntry}{clock:Nat}{m:Key→Option Value}{k:Key}{v:Value}{S:M}
def lkV (zero:Value)(ok:Bool):Option Value→Value
 |some u=>if ok then .tuple #[u,.bool true] else u
 |none=>if ok then .tuple #[zero,.bool false] else zero
theorem ANX {zero:Value}{ok:Bool}(h:MapS es clock m):(match fnd k es.toList 0 with
  |some (_,u)=>if ok then .tuple #[u,.bool true] else u
  |none=>if ok then .tuple #[zero,.bool false] else zero)=lkV zero ok (m k):=by
 rw [h.val k];cases fnd k es.toList 0 <;> rfl
theorem GV {zero:Value}{ok:Bool}(ha:MapAt I L b es clock)(h:MapS es clock m):lkR .string zero ok (.map (some b)) (CY k) I L (lkV zero ok (m k)):=
 ⟨es,_,.inr ⟨b,clock,rfl,ha⟩,h.find k,(ANX h).symm⟩
theorem lkm {zero:Value}{ok:Bool}[hin:InL b L (.map es clock)](h:MapS es clock m)(hk:K (lkV zero ok (m k)) I L):Rv none (lkR .string zero ok (.map (some b)) (CY k)) K I L:=
 ⟨_,GV (.inl hin.mem) h,hk⟩
theorem AOy {I0:Imm}{X:LH}{zero:Value}{ok:Bool}[hin:InL b X (.map es clock)](h:MapS es clock m)(hk:K (lkV zero ok (m k)) I L):Rv (some (Stay I0 X)) (lkR .string zero ok (.map (some b)) (CY k)) K I L:=
 ⟨_,fun I' L' hS=>GV (.inl (hS.2 _ hin.mem)) h,hk⟩
theorem AOz [hin:InL b L (.map es clock)](hk:K (.int .i64 es.size) I L):Rv none (Ho (.map (some b))) K I L:=⟨_,⟨es,.inr ⟨b,clock,rfl,.inl hin.mem⟩,rfl⟩,hk⟩
theorem AId {L':LH}{es':Array MapEntry}{clock':Nat}(h:MapS es clock m)(he:AIj k v es clock= .map es' clock')[u:UpL b L (.map es clock) (.map es' clock') L'](hk:K undef I L'):
  Gs .string (.map (some b)) (CY k) v K I L:=by
 obtain ⟨L1,L2,rfl,rfl⟩:=u.up;refine ⟨b,es,clock,L1,L2,_,rfl,rfl,h.find k,?_⟩;unfold AIj at he;cases hf:fnd k es.toList 0 with
 |none=>rw [hf] at he;simp only at he ⊢;rw [he];exact hk
 |some p=>obtain ⟨i,w⟩:=p;rw [hf] at he;simp only at he ⊢;rw [he];exact hk
theorem ALU {L':LH}{es':Array MapEntry}{clock':Nat}(h:MapS es clock m)(he:ZV k es clock= .map es' clock')[u:UpL b L (.map es clock) (.map es' clock') L'](hk:K (.tuple #[]) I L'):
  PH .string (.map (some b)) (CY k) K I L:=by
 obtain ⟨L1,L2,rfl,rfl⟩:=u.up;refine .inr ⟨b,es,clock,L1,L2,_,rfl,rfl,h.find k,?_⟩;unfold ZV at he;cases hf:fnd k es.toList 0 with
 |none=>rw [hf] at he;simp only at he ⊢;rw [he];exact hk
 |some p=>obtain ⟨i,w⟩:=p;rw [hf] at he;simp only at he ⊢;rw [he];exact hk
theorem RZ (hk:∀b,K (.map (some b)) I ((b,.map #[] 0)::L)):Ll K I L:=hk
end rules
theorem CalV.mono {P:Program}{ω:Om}{x:Value}{args:Array Value}{K K':Value→M}{I:Imm}{L:LH}(h:CalV P ω x args K I L)(hk:∀v I' L',K v I' L'→K' v I' L'):CalV P ω x args K' I L:=by
 match x,h with
 | .func (.func f) first cap,h=>
  simp only [CalV] at h ⊢;by_cases he:Bh P f=true
  ·rw [if_pos he] at h ⊢;exact Cal.mono h hk
  ·rw [if_neg he] at h ⊢;cases hx:Tn P f with
   |none=>rw [hx] at h;exact h.elim
   |some e=>
    rw [hx] at h;obtain ⟨v,h1,h2⟩:=h;exact ⟨v,h1,hk _ _ _ h2⟩
 | .func (.yield l) first cap,h=>
  intro w hs;obtain ⟨f,tmps,assign,body,h1,h2⟩:=h w hs;exact ⟨f,tmps,assign,body,h1,RoundIn.mono h2 fun e w' ⟨v,I',L',e1,e2,e3⟩=>⟨v,I',L',e1,e2,hk _ _ _ e3⟩⟩
def BX (r clock:Nat)(vis:List MapEntry):Obj:=.mapIter (some r) clock (vis.map (·.born)).toArray clock
structure It (es:Array MapEntry)(vis:List MapEntry):Prop where
 sub:∀e∈vis,e∈es.toList
 nod:(vis.map (·.born)).Nodup
theorem It.none (es:Array MapEntry):It es []:=⟨(fun e h=>by cases h),by simp⟩
theorem BG {α β:Type}{f:α→β}{l:List α}(h:(l.map f).Nodup):l.Nodup:=(List.pairwise_map.1 h).imp fun h e=>h (by rw [e])
theorem FY {α β:Type}{f:α→β}:∀{l:List α},(l.map f).Nodup→∀{x y:α},x∈l→y∈l→f x=f y→x=y
 |a::l,h,x,y,hx,hy,e=>by
  simp only [List.map_cons,List.nodup_cons] at h;rcases List.mem_cons.1 hx with hx'|hx'
  ·rcases List.mem_cons.1 hy with hy'|hy'
   ·rw [hx',hy']
   ·exact absurd (List.mem_map.2 ⟨y,hy',by rw [←e,hx']⟩) h.1
  ·rcases List.mem_cons.1 hy with hy'|hy'
   ·exact absurd (List.mem_map.2 ⟨x,hx',by rw [e,hy']⟩) h.1
   ·exact FY h.2 hx' hy' e
section iter
variable {I:Imm}{L0:LH}{K:Value→M}{b r clock:Nat}{es:Array MapEntry}{m:Key→Option Value}{vis:List MapEntry}
theorem Yq (ha:MapAt I L0 r es clock)(hk:∀b,K (.pointer (some ⟨b,0,.none⟩)) I ((b,BX r clock [])::L0)):KB (.map (some r)) K I L0:=.inr ⟨r,es,clock,rfl,ha,hk⟩
theorem MapAt.skip {x:Nat×Obj}(ha:MapAt I L0 r es clock):MapAt I (x::L0) r es clock:=ha.imp (List.mem_cons_of_mem _) id
theorem AKz (h:MapS es clock m)(ha:MapAt I L0 r es clock)(hi:It es vis)(hend:vis.Perm es.toList→K (.tuple #[.bool false]) I ((b,BX r clock vis)::L0))
  (hstep:∀e,e∈es.toList→It es (vis++[e])→K (.tuple #[.bool true,e.key,e.val]) I ((b,BX r clock (vis++[e]))::L0)):Oj (.pointer (some ⟨b,0,.none⟩)) K I ((b,BX r clock vis)::L0):=by
 refine ⟨b,[],L0,rfl,.inr ⟨r,clock,(vis.map (·.born)).toArray,clock,es,clock,rfl,MapAt.skip ha,?_,fun hh=>hend ?_,fun e he hs=>?_⟩⟩
 ·intro hc;simp only [Bool.and_eq_true,Bool.not_eq_true',Array.isEmpty_iff,Array.all_eq_true',decide_eq_true_eq] at hc;cases hl:es.toList with
  |nil=>
   have:es=#[]:=by cases es;simpa using hl
   have h2:=hc.1.2;rw [this] at h2;simp at h2
  |cons e l=>
   have he:e∈es.toList:=by rw [hl];exact List.mem_cons_self ..
   have h1:=h.brn e he;have h2:=hc.2 e (by simpa using he);omega
 ·refine (List.perm_ext_iff_of_nodup (BG hi.nod) (BG h.bnd)).2 fun e=>⟨hi.sub e,fun he=>?_⟩;cases hc:(vis.map (·.born)).toArray.contains e.born with
  |false=>have:=hh e (by simpa using he) hc;have:=h.brn e he;omega
  |true=>
   have:e.born∈vis.map (·.born):=by simpa using hc
   obtain ⟨v,hv,hve⟩:=List.mem_map.1 this;have:=FY h.bnd (hi.sub v hv) he hve;rw [←this];exact hv
 ·have hne:e.born ∉ vis.map (·.born):=by simpa using hs
  have hit:It es (vis++[e]):=⟨fun x hx=>by
   rcases List.mem_append.1 hx with hx|hx
   ·exact hi.sub x hx
   ·simp only [List.mem_singleton] at hx;subst hx;simpa using he,by
   rw [List.map_append,List.nodup_append];refine ⟨hi.nod,by simp,fun a ha b hb=>?_⟩;simp only [List.map_cons,List.map_nil,List.mem_singleton] at hb;subst hb;exact fun e'=>hne (e' ▸ ha)⟩
  have:=hstep e (by simpa using he) hit;simpa [BX] using this
theorem AJG (h:MapS es clock m)(ha:MapAt I L0 r es clock){e:MapEntry}(he:e∈es.toList):Ox (.pointer (some ⟨b,0,.none⟩)) I ((b,BX r clock (vis++[e]))::L0) (.tuple #[e.key,e.val]):=by
 refine ⟨b,r,clock,((vis++[e]).map (·.born)).toArray,clock,es,clock,e.born,e,rfl,.inl (List.mem_cons_self ..),by simp,MapAt.skip ha,by simp,?_,rfl⟩;cases hf:es.find? (·.born==e.born) with
 |none=>
  rw [←Array.find?_toList] at hf;have:=List.find?_eq_none.1 hf e he;simp at this
 |some e'=>
  rw [←Array.find?_toList] at hf;have h1:=List.find?_some hf;rw [FY h.bnd (List.mem_of_find?_eq_some hf) he (by simpa using h1)]
end iter
end Go.SL
namespace Go.Proofs.YtmmfcgbfbcamcaaGreatDoor
open Go.SL
structure Itn where
 ver:TVer
 txn:Int
def noIt:Itn:=⟨⟨⟨0,0⟩,false,[]⟩,0⟩
structure Row where
 key:List UInt8
 vs:List TVer
 it:Itn
structure Sp where
 rows:List Row
 floor:TStamp
abbrev z0:TStamp:=⟨0,0⟩
def DF:TGot:=⟨false,[],⟨0,0⟩,0⟩
def ANd (v:List UInt8)(a:TStamp):TGot:=⟨true,v,a,0⟩
def ANe (n:Int):TGot:=⟨false,[],⟨0,0⟩,n⟩
def keysOf (rows:List Row):List (List UInt8):=rows.map (·.key)
def rowOf (rows:List Row)(k:List UInt8):Option Row:=rows.find? fun r=>r.key==k
def upTo (vs:List TVer)(m:TStamp):Option TVer:=vs.reverse.find? fun v=> !bhd v.fAt m
def FS:Option TVer→TGot
 |none=>DF
 |some v=>if v.fDel=true then DF else ANd v.fValue v.fAt
def seen (r:Row)(m:TStamp)(txn:Int):TGot×Int:=
 if r.it.txn=0 then (FS (upTo r.vs m),0) else if r.it.txn=txn then (FS (some r.it.ver),0) else if bhd r.it.ver.fAt m=false then (ANe r.it.txn,130) else (FS (upTo r.vs m),0)
def FZ (sp:Sp)(k:List UInt8)(m:TStamp)(txn:Int):TGot×Int:=
 if Ap k=false∨(AU m&&BW txn)=false then (DF,1) else if bhd sp.floor m=true then (DF,131) else match rowOf sp.rows k with
 |none=>(DF,0)
 |some r=>seen r m txn
def push (r:Row)(g:TGot)(acc:List TKV):List TKV:=if g.fFound=true then acc++[⟨r.key,g.fValue⟩] else acc
def FT (m:TStamp)(txn most:Int):List Row→List TKV→List TKV×Int×Int
 |[],acc=>(acc,0,0)
 |r::rs,acc=>if (seen r m txn).2≠0 then ([],(seen r m txn).1.fBy,(seen r m txn).2) else
   if ((push r (seen r m txn).1 acc).length:Int)=most then (push r (seen r m txn).1 acc,0,0) else FT m txn most rs (push r (seen r m txn).1 acc)
def inR (p:TSpan)(rows:List Row):List Row:=rows.filter fun r=>inB p r.key
def Do (sp:Sp)(p:TSpan)(m:TStamp)(txn most:Int):List TKV×Int×Int:=
 if (AU m&&BW txn)=false∨most < 1 then ([],0,1) else if bhd sp.floor m=true then ([],0,131) else FT m txn most (inR p sp.rows) []
def Aj (rows:List Row)(k:List UInt8):Itn:=match rowOf rows k with
 |none=>noIt
 |some r=>r.it
def Ak (rows:List Row)(k:List UInt8):List TVer:=match rowOf rows k with
 |none=>[]
 |some r=>r.vs
def setIt (k:List UInt8)(it:Itn):List Row→List Row
 |[]=>[⟨k,[],it⟩]
 |r::rs=>if r.key=k then ⟨k,r.vs,it⟩::rs else if blt k r.key=true then ⟨k,[],it⟩::r::rs else r::setIt k it rs
def Ez (a:TStamp):Option TVer→TStamp×Int
 |none=>(a,0)
 |some v=>if bhd a v.fAt=true then (a,0) else Dw v.fAt
def GA (x:TIntent):Prop:=Ap x.fKey=false∨CB x.fTxn=false∨AU x.fAt=false∨10000 < x.fValue.length∨(x.fDel=true∧x.fValue≠[])
instance (x:TIntent):Decidable (GA x):=by unfold GA;infer_instance
def putAt (sp:Sp)(x:TIntent):TStamp:=
 let a:=if bhd sp.floor x.fAt=true then sp.floor else x.fAt
 if (Aj sp.rows x.fKey).txn≠0∧bhd (Aj sp.rows x.fKey).ver.fAt a=true then (Aj sp.rows x.fKey).ver.fAt else a
def Bo (sp:Sp)(x:TIntent):TStamp×Int×Int:=
 if GA x then (z0,0,1) else
 if (Aj sp.rows x.fKey).txn≠0∧(Aj sp.rows x.fKey).txn≠x.fTxn then (z0,(Aj sp.rows x.fKey).txn,130) else
 if (Ez (putAt sp x) (Ak sp.rows x.fKey).getLast?).2≠0 then (z0,0,(Ez (putAt sp x) (Ak sp.rows x.fKey).getLast?).2) else ((Ez (putAt sp x) (Ak sp.rows x.fKey).getLast?).1,0,0)
def ET (sp:Sp)(x:TIntent):Sp:=if (Bo sp x).2.2≠0 then sp else ⟨setIt x.fKey ⟨⟨(Bo sp x).1,x.fDel,x.fValue⟩,x.fTxn⟩ sp.rows,sp.floor⟩
def SR (k:List UInt8)(f:Row→Row)(rows:List Row):List Row:=rows.map fun r=>if r.key=k then f r else r
def Ax (r:Row):Bool:=r.vs.isEmpty&&r.it.txn==0
def Cd (rows:List Row):List Row:=rows.filter fun r=> !Ax r
def JH (a:TStamp):Option TVer→Bool
 |none=>false
 |some v=> !bhd a v.fAt
def FK (sp:Sp)(k:List UInt8)(txn:Int)(yes:Bool)(a:TStamp):Bool×Int:=
 if Ap k=false∨CB txn=false∨(yes=true∧AU a=false) then (false,1) else
 if (Aj sp.rows k).txn≠txn then (false,0) else
 if yes=true∧(bhd (Aj sp.rows k).ver.fAt a=true∨JH a (Ak sp.rows k).getLast? =true) then (false,1) else (true,0)
def Gi (yes:Bool)(a:TStamp)(r:Row):Row:=⟨r.key,if yes=true then r.vs++[⟨a,r.it.ver.fDel,r.it.ver.fValue⟩] else r.vs,noIt⟩
def Dv (sp:Sp)(k:List UInt8)(txn:Int)(yes:Bool)(a:TStamp):Sp:=if (FK sp k txn yes a).1=true then ⟨Cd (SR k (Gi yes a) sp.rows),sp.floor⟩ else sp
def Xu (a b:TStamp)(vs:List TVer):Bool:=match upTo vs b with
 |none=>false
 |some v=>bhd v.fAt a
def chR (a b:TStamp)(txn:Int)(r:Row):Bool:=(r.it.txn != 0&&(r.it.txn != txn)&& !bhd r.it.ver.fAt b)||Xu a b r.vs
def chF (sp:Sp)(p:TSpan)(a b:TStamp)(txn:Int):Bool×Int:=
 if (AU a&&BW txn)=false∨AU b=false then (false,1) else if bhd sp.floor a=true then (false,131) else ((inR p sp.rows).any (chR a b txn),0)
def CE (k v:TVer):Bool:=bhd k.fAt v.fAt||(k.fDel&&(v.fAt.fWall==k.fAt.fWall&&v.fAt.fLogic==k.fAt.fLogic))
def colR (fl:TStamp)(r:Row):Row:=match upTo r.vs fl with
 |none=>r
 |some k=>⟨r.key,r.vs.filter fun v=> !CE k v,r.it⟩
def Ae (rows:List Row):Nat:=(rows.map (·.vs.length)).sum
def CM (sp:Sp)(b:TStamp):TStamp:=if bhd b sp.floor=true then b else sp.floor
def colS (sp:Sp)(b:TStamp):Sp:=if AU b=false then sp else ⟨Cd (sp.rows.map (colR (CM sp b))),CM sp b⟩
def PD (sp:Sp)(b:TStamp):Int×Int:=if AU b=false then (0,1) else ((Ae sp.rows:Int) - Ae (colS sp b).rows,0)
def itF (r:Row):TIntent:=⟨r.key,r.it.txn,r.it.ver.fAt,r.it.ver.fDel,r.it.ver.fValue⟩
def intsOf (rows:List Row):List TIntent:=(rows.filter fun r=>r.it.txn != 0).map itF
structure VerOk (v:TVer):Prop where
 right:AU v.fAt=true
 len:v.fValue.length≤10000
 del:v.fDel=true→v.fValue=[]
structure RowOk (r:Row):Prop where
 key:Ap r.key=true
 vs:∀v∈r.vs,VerOk v
 rise:r.vs.Pairwise fun a b=>bhd b.fAt a.fAt=true
 it:r.it=noIt∨(CB r.it.txn=true∧VerOk r.it.ver)
 some:Ax r=false
structure SpOk (sp:Sp):Prop where
 rise:SrtK (keysOf sp.rows)
 rows:∀r∈sp.rows,RowOk r
 floor:AU sp.floor=true
theorem RowOk.txn {r:Row}(h:RowOk r):0≤r.it.txn∧r.it.txn≤9007199254740991:=by
 rcases h.it with h|⟨h,_⟩
 ·rw [h];decide
 ·simp [CB] at h;omega
theorem RowOk.keyL {r:Row}(h:RowOk r):1≤r.key.length∧r.key.length≤110:=by simpa [Ap] using h.key
theorem RowOk.zero {r:Row}(h:RowOk r)(h0:r.it.txn=0):r.it=noIt:=by
 rcases h.it with h|⟨h,_⟩
 ·exact h
 ·rw [h0] at h;cases h
structure Mid (A:List Row)(k:List UInt8)(B:List Row):Prop where
 lt:∀x∈A,blt x.key k=true
 gt:∀x∈B,blt k x.key=true
theorem RY {p:Row→Prop}:∀x∈([]:List Row),p x:=fun x hx=>by cases hx
theorem HQ {a b:List UInt8}(h:blt a b=true):a≠b:=fun e=>by rw [e,BQ] at h;cases h
theorem IZ {a b:List UInt8}(h:blt a b=true):b≠a:=fun e=>by rw [e,BQ] at h;cases h
theorem SrtK.mid {A B:List Row}{r:Row}(h:SrtK (keysOf (A++r::B))):Mid A r.key B:=by
 unfold SrtK keysOf at h;rw [List.map_append,List.map_cons,List.pairwise_append] at h;obtain ⟨h1,h2,h3⟩:=h;rw [List.pairwise_cons] at h2;exact ⟨fun x hx=>h3 _ (List.mem_map_of_mem hx) _ (List.mem_cons_self ..),fun x hx=>h2.1 _ (List.mem_map_of_mem hx)⟩
theorem SrtK.join {A B:List Row}{r:Row}(hA:SrtK (keysOf A))(hB:SrtK (keysOf B))(h:Mid A r.key B):SrtK (keysOf (A++r::B)):=by
 unfold SrtK keysOf at *;rw [List.map_append,List.map_cons,List.pairwise_append,List.pairwise_cons];refine ⟨hA,⟨fun x hx=>?_,hB⟩,fun x hx y hy=>?_⟩
 ·obtain ⟨z,hz,rfl⟩:=List.mem_map.1 hx;exact h.gt z hz
 ·obtain ⟨z,hz,rfl⟩:=List.mem_map.1 hx;rcases List.mem_cons.1 hy with rfl|hy
  ·exact h.lt z hz
  ·obtain ⟨w,hw,rfl⟩:=List.mem_map.1 hy;exact Bj (h.lt z hz) (h.gt w hw)
theorem SrtK.sub {A B:List Row}(h:SrtK (keysOf A))(hs:B.Sublist A):SrtK (keysOf B):=List.Pairwise.sublist (hs.map _) h
theorem Cj {A B:List Row}{r:Row}{k:List UInt8}(h:Mid A k B)(hk:r.key=k):rowOf (A++r::B) k=some r:=by
 unfold rowOf;rw [List.find?_append,List.find?_eq_none.2 (fun x hx=>by simpa using HQ (h.lt x hx))];simp [hk]
theorem Sm {rows:List Row}{k:List UInt8}{r:Row}(hs:SrtK (keysOf rows))(h:rowOf rows k=some r):∃A B,rows=A++r::B∧r.key=k∧Mid A k B:=by
 unfold rowOf at h;obtain ⟨h1,A,B,rfl,h2⟩:=List.find?_eq_some_iff_append.1 h;have hk:r.key=k:=by simpa using h1
 exact ⟨A,B,rfl,hk,hk ▸ hs.mid⟩
theorem Uw {rows:List Row}{k:List UInt8}(h:rowOf rows k=none):∀x∈rows,x.key≠k:=fun x hx=>by
 simpa using List.find?_eq_none.1 h x hx
theorem Eu {rows:List Row}{k:List UInt8}(h:∀x∈rows,x.key≠k):rowOf rows k=none:=List.find?_eq_none.2 fun x hx=>by simpa using h x hx
theorem BL {rows:List Row}{k:List UInt8}{r:Row}(h:rowOf rows k=some r):r∈rows:=List.mem_of_find?_eq_some h
theorem gap {rows:List Row}{k:List UInt8}(hs:SrtK (keysOf rows))(h:∀x∈rows,x.key≠k):∃A B,rows=A++B∧Mid A k B:=by
 induction rows with
 |nil=>exact ⟨[],[],rfl,RY,RY⟩
 |cons r rs ih=>
  obtain ⟨h1,h2⟩:=List.pairwise_cons.1 (show List.Pairwise _ (r.key::keysOf rs) from hs);cases hb:blt k r.key with
  |true=>exact ⟨[],r::rs,rfl,RY,fun x hx=>by
    rcases List.mem_cons.1 hx with rfl|hx
    ·exact hb
    ·exact Bj hb (h1 _ (List.mem_map_of_mem hx))⟩
  |false=>
   obtain ⟨A,B,rfl,hm⟩:=ih h2 (fun x hx=>h x (List.mem_cons_of_mem _ hx));refine ⟨r::A,B,rfl,fun x hx=>?_,hm.gt⟩;rcases List.mem_cons.1 hx with rfl|hx
   ·cases hb2:blt x.key k with
    |true=>rfl
    |false=>exact absurd (Dn _ _ hb2 hb) (h x (List.mem_cons_self ..))
   ·exact hm.lt x hx
theorem Fp {A B:List Row}{r:Row}{k:List UInt8}{f:Row→Row}(h:Mid A k B)(hk:r.key=k):SR k f (A++r::B)=A++f r::B:=by
 unfold SR;rw [List.map_append,List.map_cons,if_pos hk];congr 1
 ·conv=>rhs;rw [←List.map_id A]
  exact List.map_congr_left fun x hx=>if_neg (HQ (h.lt x hx))
 ·congr 1
  conv=>rhs;rw [←List.map_id B]
  exact List.map_congr_left fun x hx=>if_neg (IZ (h.gt x hx))
theorem Fg {k:List UInt8}{it:Itn}{r:Row}{B:List Row}(hk:r.key=k):∀{A:List Row},Mid A k B→setIt k it (A++r::B)=A++⟨k,r.vs,it⟩::B
 |[],_=>by simp only [List.nil_append,setIt];rw [if_pos hk]
 |x::A,h=>by
  have hx:=h.lt x (List.mem_cons_self ..);simp only [List.cons_append,setIt];rw [if_neg (HQ hx),if_neg (by rw [EM hx];simp),Fg hk ⟨fun y hy=>h.lt y (List.mem_cons_of_mem _ hy),h.gt⟩]
theorem Fh {k:List UInt8}{it:Itn}{B:List Row}:∀{A:List Row},Mid A k B→setIt k it (A++B)=A++⟨k,[],it⟩::B
 |[],h=>by
  cases B with
  |nil=>rfl
  |cons x B=>
   have hx:=h.gt x (List.mem_cons_self ..);simp only [List.nil_append,setIt];rw [if_neg (IZ hx),if_pos hx]
 |x::A,h=>by
  have hx:=h.lt x (List.mem_cons_self ..);simp only [List.cons_append,setIt];rw [if_neg (HQ hx),if_neg (by rw [EM hx];simp),Fh ⟨fun y hy=>h.lt y (List.mem_cons_of_mem _ hy),h.gt⟩]
theorem KI {rows:List Row}(h:∀r∈rows,Ax r=false):Cd rows=rows:=List.filter_eq_self.2 fun r hr=>by simp [h r hr]
theorem Ff {A B:List Row}{r:Row}(hA:∀x∈A,Ax x=false)(hB:∀x∈B,Ax x=false):Cd (A++r::B)=if Ax r=true then A++B else A++r::B:=by
 have h1:=KI hA;have h2:=KI hB;unfold Cd at *;rw [List.filter_append,List.filter_cons,h1,h2];cases Ax r <;> simp
section ok
variable {sp:Sp}{A B:List Row}{r r':Row}{fl:TStamp}
theorem SpOk.part (h:SpOk ⟨A++r::B,fl⟩):(∀x∈A,RowOk x)∧RowOk r∧(∀x∈B,RowOk x):=by
 have:=h.rows;simp only [List.mem_append,List.mem_cons] at this;exact ⟨fun x hx=>this x (.inl hx),this r (.inr (.inl rfl)),fun x hx=>this x (.inr (.inr hx))⟩
theorem SpOk.swap (h:SpOk ⟨A++r::B,fl⟩)(hk:r'.key=r.key)(hr:RowOk r'):SpOk ⟨A++r'::B,fl⟩:=by
 obtain ⟨h1,h2,h3⟩:=h.part;have e:keysOf (A++r'::B)=keysOf (A++r::B):=by simp [keysOf,hk]
 refine ⟨by simp only [e];exact h.rise,fun x hx=>?_,h.floor⟩;simp only [List.mem_append,List.mem_cons] at hx;rcases hx with hx|rfl|hx
 ·exact h1 x hx
 ·exact hr
 ·exact h3 x hx
theorem SpOk.less (h:SpOk ⟨A++r::B,fl⟩):SpOk ⟨A++B,fl⟩:=by
 obtain ⟨h1,h2,h3⟩:=h.part;refine ⟨SrtK.sub h.rise (List.Sublist.append (List.Sublist.refl _) (List.sublist_cons_self ..)),fun x hx=>?_,h.floor⟩;rcases List.mem_append.1 hx with hx|hx
 ·exact h1 x hx
 ·exact h3 x hx
theorem SpOk.more {k:List UInt8}(h:SpOk ⟨A++B,fl⟩)(hm:Mid A k B)(hr:RowOk r)(hk:r.key=k):SpOk ⟨A++r::B,fl⟩:=by
 have hr':=h.rows;simp only [List.mem_append] at hr';subst hk;refine ⟨SrtK.join (SrtK.sub h.rise (List.sublist_append_left ..)) (SrtK.sub h.rise (List.sublist_append_right ..)) hm,fun x hx=>?_,h.floor⟩;simp only [List.mem_append,List.mem_cons] at hx;rcases hx with hx|rfl|hx
 ·exact hr' x (.inl hx)
 ·exact hr
 ·exact hr' x (.inr hx)
end ok
theorem Gn {A B:List Row}{r:Row}{k:List UInt8}(h:Mid A k B)(hk:r.key=k):Aj (A++r::B) k=r.it:=by unfold Aj;rw [Cj h hk]
theorem EO {A B:List Row}{r:Row}{k:List UInt8}(h:Mid A k B)(hk:r.key=k):Ak (A++r::B) k=r.vs:=by unfold Ak;rw [Cj h hk]
theorem Mid.notin {A B:List Row}{k:List UInt8}(h:Mid A k B):∀x∈A++B,x.key≠k:=fun x hx=>by
 rcases List.mem_append.1 hx with hx|hx
 ·exact HQ (h.lt x hx)
 ·exact IZ (h.gt x hx)
theorem GH {A B:List Row}{k:List UInt8}(h:Mid A k B):Aj (A++B) k=noIt:=by unfold Aj;rw [Eu h.notin]
theorem MU {A B:List Row}{k:List UInt8}(h:Mid A k B):Ak (A++B) k=[]:=by unfold Ak;rw [Eu h.notin]
theorem place {rows:List Row}(k:List UInt8)(hs:SrtK (keysOf rows)):(∃A r B,rows=A++r::B∧r.key=k∧Mid A k B)∨(∃A B,rows=A++B∧Mid A k B):=by
 cases h:rowOf rows k with
 |none=>exact .inr (gap hs (Uw h))
 |some r=>obtain ⟨A,B,h1,h2,h3⟩:=Sm hs h;exact .inl ⟨A,r,B,h1,h2,h3⟩
theorem TI {x:TStamp}(h:(Dw x).2=0):AU (Dw x).1=true∧bhd (Dw x).1 x=true:=by
 unfold Dw at h ⊢;by_cases h1:AU x=false
 ·simp [h1] at h
 ·have hr:=Db (x:=x) (by simpa using h1);rw [if_neg h1] at h ⊢;by_cases h2:x.fLogic < 65535
  ·rw [if_pos h2];simp [AU,MQ,bhd];omega
  ·rw [if_neg h2] at h ⊢;by_cases h3:x.fWall=9007199254740991
   ·rw [if_pos h3] at h;simp at h
   ·rw [if_neg h3];simp [AU,MQ,bhd];omega
theorem Ky {a b c:TStamp}(h1:bhd a b=true)(h2:bhd b c=true):bhd a c=true:=by
 simp [bhd] at *; omega
theorem YI (a:TStamp):bhd a a=false:=by simp [bhd]
theorem TS {vs:List TVer}(h:vs.Pairwise fun a b=>bhd b.fAt a.fAt=true){v:TVer}(hl:vs.getLast? =some v):∀x∈vs,x=v∨bhd v.fAt x.fAt=true:=by
 intro x hx;obtain ⟨ys,rfl⟩:=List.getLast?_eq_some_iff.1 hl;rcases List.mem_append.1 hx with hx|hx
 ·exact .inr ((List.pairwise_append.1 h).2.2 x hx v (List.mem_singleton.2 rfl))
 ·exact .inl (List.mem_singleton.1 hx)
theorem AEa {a:TStamp}{vs:List TVer}(h:vs.Pairwise fun a b=>bhd b.fAt a.fAt=true)(ha:AU a=true)(h0:(Ez a vs.getLast?).2=0):
  AU (Ez a vs.getLast?).1=true∧∀v∈vs,bhd (Ez a vs.getLast?).1 v.fAt=true:=by
 cases hl:vs.getLast? with
 |none=>
  have:vs=[]:=List.getLast?_eq_none_iff.1 hl;subst this;exact ⟨ha,(fun v hv=>by cases hv)⟩
 |some v=>
  rw [hl] at h0;have ht:=TS h hl;simp only [Ez] at h0 ⊢;by_cases hb:bhd a v.fAt=true
  ·rw [if_pos hb];refine ⟨ha,fun x hx=>?_⟩;rcases ht x hx with rfl|h1
   ·exact hb
   ·exact Ky hb h1
  ·rw [if_neg hb] at h0 ⊢;obtain ⟨g1,g2⟩:=TI h0;refine ⟨g1,fun x hx=>?_⟩;rcases ht x hx with rfl|h1
   ·exact g2
   ·exact Ky g2 h1
theorem AEV {sp:Sp}{x:TIntent}(h:SpOk sp)(hx:AU x.fAt=true):AU (putAt sp x)=true:=by
 unfold putAt;have h1:AU (if bhd sp.floor x.fAt=true then sp.floor else x.fAt)=true:=by
  split
  ·exact h.floor
  ·exact hx
 simp only
 generalize (if bhd sp.floor x.fAt=true then sp.floor else x.fAt)=a at h1 ⊢;by_cases hc:(Aj sp.rows x.fKey).txn≠0∧bhd (Aj sp.rows x.fKey).ver.fAt a=true
 ·rw [if_pos hc];unfold Aj at hc ⊢;cases hr:rowOf sp.rows x.fKey with
  |none=>simp [hr,noIt] at hc
  |some r=>
   simp only [hr] at hc ⊢;rcases (h.rows r (BL hr)).it with h2|⟨_,h2⟩
   ·rw [h2] at hc;simp [noIt] at hc
   ·exact h2.right
 ·rw [if_neg hc];exact h1
theorem DR {sp:Sp}(h:SpOk sp)(k:List UInt8):(Ak sp.rows k).Pairwise (fun a b=>bhd b.fAt a.fAt=true)∧∀v∈Ak sp.rows k,VerOk v:=by
 unfold Ak;cases hr:rowOf sp.rows k with
 |none=>exact ⟨List.Pairwise.nil,(fun v hv=>by cases hv)⟩
 |some r=>exact ⟨(h.rows r (BL hr)).rise,(h.rows r (BL hr)).vs⟩
theorem MH {sp:Sp}{x:TIntent}(h:SpOk sp)(h0:(Bo sp x).2.2=0):¬GA x∧AU (Bo sp x).1=true∧VerOk ⟨(Bo sp x).1,x.fDel,x.fValue⟩∧CB x.fTxn=true∧Ap x.fKey=true:=by
 have hr:=DR h x.fKey;unfold Bo at h0 ⊢;by_cases hb:GA x
 ·rw [if_pos hb] at h0;simp at h0
 ·rw [if_neg hb] at h0 ⊢;have hb':=hb;unfold GA at hb';simp only [not_or,not_and,Bool.not_eq_false,Nat.not_lt,Decidable.not_not] at hb';by_cases h1:(Aj sp.rows x.fKey).txn≠0∧(Aj sp.rows x.fKey).txn≠x.fTxn
  ·rw [if_pos h1] at h0;simp at h0
  ·rw [if_neg h1] at h0 ⊢;by_cases h2:(Ez (putAt sp x) (Ak sp.rows x.fKey).getLast?).2≠0
   ·rw [if_pos h2] at h0;exact absurd h0 h2
   ·rw [if_neg h2];have g:=AEa hr.1 (AEV h hb'.2.2.1) (by simpa using h2);exact ⟨hb,g.1,⟨g.1,hb'.2.2.2.1,hb'.2.2.2.2⟩,hb'.2.1,hb'.1⟩
theorem Gv {n:Int}(h:CB n=true):n≠0:=by simp [CB] at h;omega
theorem Kt {r:Row}(h:r.it.txn≠0):Ax r=false:=by simp [Ax,h]
theorem SpOk.put {sp:Sp}{x:TIntent}(h:SpOk sp):SpOk (ET sp x):=by
 unfold ET;by_cases h0:(Bo sp x).2.2≠0
 ·rw [if_pos h0];exact h
 ·rw [if_neg h0];obtain ⟨_,h1,h2,h3,h4⟩:=MH h (by simpa using h0);obtain ⟨rows,fl⟩:=sp;rcases place x.fKey h.rise with ⟨A,r,B,e,hk,hm⟩|⟨A,B,e,hm⟩
  ·simp only at e;subst e
   rw [Fg hk hm];exact h.swap hk.symm ⟨hk ▸ h.part.2.1.key,h.part.2.1.vs,h.part.2.1.rise,.inr ⟨h3,h2⟩,Kt (Gv h3)⟩
  ·simp only at e;subst e
   rw [Fh hm];exact h.more hm ⟨h4,(fun v hv=>by cases hv),List.Pairwise.nil,.inr ⟨h3,h2⟩,Kt (Gv h3)⟩ rfl
theorem ME {sp:Sp}{k:List UInt8}{txn:Int}{yes:Bool}{a:TStamp}(h0:(FK sp k txn yes a).1=true):(Aj sp.rows k).txn=txn∧CB txn=true∧(yes=true→AU a=true∧bhd (Aj sp.rows k).ver.fAt a=false∧JH a (Ak sp.rows k).getLast? =false):=by
 unfold FK at h0;split at h0
 ·cases h0
 ·rename_i h1
  split at h0
  ·cases h0
  ·rename_i h2
   split at h0
   ·cases h0
   ·rename_i h3
    refine ⟨by simpa using h2,by simp_all,fun hy=>by simp_all⟩
theorem SpOk.res {sp:Sp}{k:List UInt8}{txn:Int}{yes:Bool}{a:TStamp}(h:SpOk sp):SpOk (Dv sp k txn yes a):=by
 unfold Dv;split
 ·rename_i h0
  obtain ⟨h1,h2,h3⟩:=ME h0;obtain ⟨rows,fl⟩:=sp;rcases place k h.rise with ⟨A,r,B,e,hk,hm⟩|⟨A,B,e,hm⟩
  ·simp only at e;subst e
   simp only [Gn hm hk,EO hm hk] at h1 h3;obtain ⟨p1,p2,p3⟩:=h.part;rw [Fp hm hk,Ff (fun x hx=>(p1 x hx).some) (fun x hx=>(p3 x hx).some)];split
   ·exact h.less
   ·rename_i he
    refine h.swap rfl ⟨p2.key,?_,?_,.inl rfl,by simpa using he⟩
    ·intro v hv;unfold Gi at hv;simp only at hv
     split at hv
     ·rename_i hy
      rcases List.mem_append.1 hv with hv|hv
      ·exact p2.vs v hv
      ·simp only [List.mem_singleton] at hv;subst hv;rcases p2.it with h4|⟨_,h4⟩
       ·rw [h4] at h1;exact absurd h1.symm (Gv h2)
       ·exact ⟨(h3 hy).1,h4.len,h4.del⟩
     ·exact p2.vs v hv
    ·unfold Gi;simp only
     split
     ·rename_i hy
      refine List.pairwise_append.2 ⟨p2.rise,List.pairwise_singleton ..,fun u hu v hv=>?_⟩;simp only [List.mem_singleton] at hv;subst hv;have h5:=(h3 hy).2.2;cases hl:r.vs.getLast? with
      |none=>rw [List.getLast?_eq_none_iff.1 hl] at hu;cases hu
      |some w=>
       rw [hl] at h5;simp [JH] at h5;rcases TS p2.rise hl u hu with rfl|h6
       ·exact h5
       ·exact Ky h5 h6
     ·exact p2.rise
  ·simp only at e;subst e
   rw [GH hm] at h1;exact absurd h1.symm (Gv h2)
 ·exact h
theorem FD (fl:TStamp)(r:Row):(colR fl r).key=r.key:=by unfold colR;split <;> rfl
theorem Rx (fl:TStamp)(r:Row):(colR fl r).it=r.it:=by unfold colR;split <;> rfl
theorem Js (fl:TStamp)(r:Row):(colR fl r).vs.Sublist r.vs:=by
 unfold colR;split
 ·exact List.Sublist.refl _
 ·exact List.filter_sublist
theorem SpOk.col {sp:Sp}{b:TStamp}(h:SpOk sp):SpOk (colS sp b):=by
 unfold colS;split
 ·exact h
 ·rename_i hb
  refine ⟨?_,fun x hx=>?_,?_⟩
  ·have e:keysOf (sp.rows.map (colR (CM sp b)))=keysOf sp.rows:=by simp [keysOf,FD,Function.comp_def]
   exact SrtK.sub (show SrtK (keysOf (sp.rows.map (colR (CM sp b)))) from e ▸ h.rise) List.filter_sublist
  ·simp only [Cd,List.mem_filter,List.mem_map] at hx;obtain ⟨⟨r,hr,rfl⟩,he⟩:=hx;have ho:=h.rows r hr;exact ⟨by rw [FD];exact ho.key,fun v hv=>ho.vs v ((Js _ r).subset hv),ho.rise.sublist (Js _ r),by rw [Rx];exact ho.it,by simpa using he⟩
  ·simp only [CM];split
   ·simpa using hb
   ·exact h.floor
theorem AIe {sp:Sp}{x:TIntent}(h:SpOk sp):(ET sp x).rows.length≤sp.rows.length+1∧Ae (ET sp x).rows=Ae sp.rows:=by
 unfold ET;split
 ·exact ⟨by omega,rfl⟩
 ·obtain ⟨rows,fl⟩:=sp;rcases place x.fKey h.rise with ⟨A,r,B,e,hk,hm⟩|⟨A,B,e,hm⟩
  ·simp only at e;subst e
   simp only [Fg hk hm];simp [Ae]
  ·simp only at e;subst e
   simp only [Fh hm];simp [Ae];omega
theorem Ge {A B:List Row}(h:A.Sublist B):Ae A≤Ae B:=by
 unfold Ae;have:∀{a b:List Nat},a.Sublist b→a.sum≤b.sum:=by
  intro a b h;induction h with
  |slnil=>exact Nat.le_refl _
  |cons x h ih=>simp;omega
  |cons_cons x h ih=>simp;omega
 exact this (h.map _)
theorem YX {rows:List Row}{f:Row→Row}(h:∀r∈rows,(f r).vs.length≤r.vs.length):Ae (rows.map f)≤Ae rows:=by
 induction rows with
 |nil=>exact Nat.le_refl _
 |cons r rs ih=>
  have h1:=h r (List.mem_cons_self ..);have h2:=ih (fun x hx=>h x (List.mem_cons_of_mem _ hx));simp [Ae] at h2 ⊢;omega
theorem Xd {sp:Sp}{k:List UInt8}{txn:Int}{yes:Bool}{a:TStamp}(h:SpOk sp):(Dv sp k txn yes a).rows.length≤sp.rows.length∧Ae (Dv sp k txn yes a).rows≤Ae sp.rows+1:=by
 unfold Dv;split
 ·obtain ⟨rows,fl⟩:=sp;refine ⟨Nat.le_trans (List.length_filter_le ..) (by simp [SR]),Nat.le_trans (Ge List.filter_sublist) ?_⟩;rcases place k h.rise with ⟨A,r,B,e,hk,hm⟩|⟨A,B,e,hm⟩
  ·simp only at e;subst e
   rw [Fp hm hk];simp only [Ae,Gi,List.map_append,List.map_cons,List.sum_append,List.sum_cons];split <;> simp <;> omega
  ·simp only at e;subst e
   rw [show SR k (Gi yes a) (A++B)=A++B from by
    unfold SR;conv=>rhs;rw [←List.map_id (A++B)]
    exact List.map_congr_left fun x hx=>if_neg (hm.notin x hx)]
   exact Nat.le_succ _
 ·exact ⟨Nat.le_refl _,by omega⟩
theorem AJK {sp:Sp}{b:TStamp}:(colS sp b).rows.length≤sp.rows.length∧Ae (colS sp b).rows≤Ae sp.rows:=by
 unfold colS;split
 ·exact ⟨Nat.le_refl _,Nat.le_refl _⟩
 ·refine ⟨Nat.le_trans (List.length_filter_le ..) (by simp),Nat.le_trans (Ge List.filter_sublist) (YX fun r _=>(Js _ r).length_le)⟩
class RemL (b:Nat) (L:LH) (o:outParam Obj) (L':outParam LH):Prop where
 ex:∃L1 L2,L=L1++(b,o)::L2∧L'=L1++L2
instance remRight (b:Nat)(A L:LH)(o:Obj)(L':LH)[h:RemL b L o L']:RemL b (A++L) o (A++L'):=by
 obtain ⟨L1,L2,rfl,rfl⟩:=h.ex;exact ⟨A++L1,L2,by simp,by simp⟩
instance remThere (b:Nat)(x:Nat×Obj)(L:LH)(o:Obj)(L':LH)[h:RemL b L o L']:RemL b (x::L) o (x::L'):=by
 obtain ⟨L1,L2,rfl,rfl⟩:=h.ex;exact ⟨x::L1,L2,rfl,rfl⟩
instance remHere (b:Nat)(o:Obj)(L:LH):RemL b ((b,o)::L) o L:=⟨[],L,rfl,rfl⟩
section
variable {I:Imm}{L L':LH}{l D:Nat}{Lo:LoF}{K:Value→M}{A:M}
theorem Vs [u:UpL l L (Lo .ready none) (Lo .busy none) L'](h:A I L'):ANO l Lo A I L:=by
 obtain ⟨L1,L2,rfl,rfl⟩:=u.up;exact ⟨L1,L2,rfl,h⟩
theorem Rq [u:UpL l L (Lo .busy none) (Lo .ready none) L'](h:K (.bool true) I L'):Ol l Lo none K I L:=by
 obtain ⟨L1,L2,rfl,rfl⟩:=u.up;exact ⟨L1,L2,rfl,h⟩
theorem YA {c:Code}[u:UpL l L (Lo .busy none) (Lo .done (some c)) L'](h:K (.bool false) I L'):Ol l Lo (some c) K I L:=by
 obtain ⟨L1,L2,rfl,rfl⟩:=u.up;exact ⟨L1,L2,rfl,h⟩
theorem tak [r:RemL D L (.deferred (some [])) L'](h:A I L'):Tak D A I L:=by
 obtain ⟨L1,L2,rfl,rfl⟩:=r.ex;exact ⟨L1,L2,rfl,h⟩
theorem Rt {J:Option Code→M}{s:LoopState}{j:Option Code}[r:RemL l L (Lo s j) L'](hs:s≠.busy)(h:J j I L'):UW l Lo J I L:=by
 obtain ⟨L1,L2,rfl,rfl⟩:=r.ex;exact ⟨L1,L2,s,j,hs,rfl,h⟩
theorem UY {B:RB}[u:InL l L (Lo .ready none)](h:B (ANO l Lo) (Ol l Lo none K) (fun id=>Ol l Lo (some (.exit id)) K) (Ol l Lo (some .ret) K) I L):AJY l Lo B K I L:=by
 obtain ⟨L1,L2,h1⟩:=List.append_of_mem u.mem;exact ⟨⟨L1,L2,h1⟩,h⟩
end
abbrev Nts:=List UInt8→Option (Bool×List UInt8)
def CO (nt:Nts)(k:List UInt8)(x:Bool×List UInt8):Nts:=fun q=>if q=k then some x else nt q
def Et (v:TVer):List Value:=[.int .i64 v.fAt.fWall,.int .i64 v.fAt.fLogic,.bool v.fDel,BR v.fValue]
def EP (l:List TVer):List Value:=l.flatMap Et
abbrev Am (sl:Value)(x:Itn):Obj:=.cells #[sl,.int .i64 x.ver.fAt.fWall,.int .i64 x.ver.fAt.fLogic,.bool x.ver.fDel,BR x.ver.fValue,.int .i64 x.txn] 257 (0,0)
abbrev spO (m:Nat)(kv:Value)(fl:TStamp)(ch:Nat):Obj:=.cells #[.map (some m),kv,.int .i64 fl.fWall,.int .i64 fl.fLogic,.map (some ch)] 179 (0,0)
abbrev pt (p:Nat):Value:=.pointer (some ⟨p,0,none⟩)
theorem Fj {I:Imm}:∀(l:List TVer),Recs (TVerV I) 4 l (EP l)
 |[]=>rfl
 |x::l=>⟨rfl,rfl,by
  have:(EP (x::l)).drop 4=EP l:=rfl;rw [this];exact Fj l⟩
theorem KG (l:List TVer):(EP l).length=l.length * 4:=(Fj (I:=fun _=>none) l).length
abbrev VsO (Y:LH)(sl:Value)(vs:List TVer):Prop:=SlO 253 4 Y sl (EP vs) vs.length
def RowsR:LH→List Nat→List Row→Prop
 |X,[],[]=>X=[]
 |X,p::ps,r::rs=>∃sl Y Z,X.Perm ((p,Am sl r.it)::(Y++Z))∧VsO Y sl r.vs∧RowsR Z ps rs
 |_,_,_=>False
theorem RowsR.len:∀{ps:List Nat} {rs:List Row} {X:LH},RowsR X ps rs→ps.length=rs.length
 |[],[],_,_=>rfl
 |p::ps,r::rs,X,⟨sl,Y,Z,h1,h2,h3⟩=>by simp [RowsR.len h3]
theorem RowsR.pick {B:List Row}{r:Row}{Q:List Nat}{p:Nat}:∀{P:List Nat} {A:List Row} {X:LH},P.length=A.length→RowsR X (P++p::Q) (A++r::B)→
  ∃sl Y Z,X.Perm ((p,Am sl r.it)::(Y++Z))∧VsO Y sl r.vs∧RowsR Z (P++Q) (A++B)
 |[],[],X,_,h=>h
 |q::P,a::A,X,hl,⟨sl,Y,Z,h1,h2,h3⟩=>by
  obtain ⟨sl',Y',Z',g1,g2,g3⟩:=RowsR.pick (P:=P) (A:=A) (by simpa using hl) h3;refine ⟨sl',Y',(q,Am sl a.it)::(Y++Z'),AP ?_,g2,sl,Y,Z',List.Perm.refl _,h2,g3⟩;rw [BA h1,AM,AN,BA g1]
  ((try simp only [AM,AN,AY,AQ]);(try ac_rfl))
 |[],_::_,_,hl,_=>by simp at hl
 |_::_,[],_,hl,_=>by simp at hl
theorem RowsR.put {B:List Row}{r:Row}{Q:List Nat}{p:Nat}{sl:Value}{Y:LH}:∀{P:List Nat} {A:List Row} {X Z:LH},P.length=A.length→X.Perm ((p,Am sl r.it)::(Y++Z))→VsO Y sl r.vs→RowsR Z (P++Q) (A++B)→RowsR X (P++p::Q) (A++r::B)
 |[],[],X,Z,_,h1,h2,h3=>⟨sl,Y,Z,h1,h2,h3⟩
 |q::P,a::A,X,Z,hl,h1,h2,⟨sl',Y',Z',g1,g2,g3⟩=>by
  refine ⟨sl',Y',(p,Am sl r.it)::(Y++Z'),AP ?_,g2,RowsR.put (P:=P) (A:=A) (by simpa using hl) (List.Perm.refl _) h2 g3⟩;rw [BA h1,AM,AN,BA g1]
  ((try simp only [AM,AN,AY,AQ]);(try ac_rfl))
 |[],_::_,_,_,hl,_,_,_=>by simp at hl
 |_::_,[],_,_,hl,_,_,_=>by simp at hl
def Az (ps:List Nat)(rows:List Row):List UInt8→Option Value:=fun k=>((ps.zip rows).find? fun q=>q.2.key==k).map fun q=>pt q.1
theorem PI {P:List Nat}{A:List Row}{k:List UInt8}(h:∀x∈A,x.key≠k):(P.zip A).find? (fun q=>q.2.key==k)=none:=
 List.find?_eq_none.2 fun q hq=>by
  have:=h q.2 (List.of_mem_zip hq).2;simpa using this
theorem EG {P Q:List Nat}{A B:List Row}{p:Nat}{r:Row}{k:List UInt8}(hl:P.length=A.length)(hm:Mid A k B)(hk:r.key=k):Az (P++p::Q) (A++r::B) k=some (pt p):=by
 unfold Az;rw [List.zip_append hl,List.find?_append,PI (fun x hx=>HQ (hm.lt x hx))];simp [hk]
theorem HO {P:List Nat}{A:List Row}{k:List UInt8}(h:∀x∈A,x.key≠k):Az P A k=none:=by
 unfold Az;rw [PI h];rfl
theorem GL {P Q:List Nat}{A B:List Row}{p:Nat}{r:Row}{k:List UInt8}(hl:P.length=A.length)(hm:Mid A k B)(hk:r.key=k):Az (P++p::Q) (A++r::B)=HZ (Az (P++Q) (A++B)) k (some (pt p)):=by
 funext q
 unfold HZ;by_cases hq:q=k
 ·rw [if_pos hq,hq,EG hl hm hk]
 ·rw [if_neg hq];unfold Az;rw [List.zip_append hl,List.zip_append hl,List.find?_append,List.find?_append,List.zip_cons_cons,List.find?_cons_of_neg (by simp [hk];exact fun e=>hq e.symm)]
theorem OY {P Q:List Nat}{A B:List Row}{p:Nat}{r:Row}{k:List UInt8}(hl:P.length=A.length)(hm:Mid A k B)(hk:r.key=k):Az (P++Q) (A++B)=HZ (Az (P++p::Q) (A++r::B)) k none:=by
 rw [GL hl hm hk];funext q
 unfold HZ;by_cases hq:q=k
 ·rw [if_pos hq,hq,HO hm.notin]
 ·rw [if_neg hq,if_neg hq]
theorem LW {P Q:List Nat}{A B:List Row}{p:Nat}{r r':Row}(hl:P.length=A.length)(hm:Mid A r.key B)(hk:r'.key=r.key):Az (P++p::Q) (A++r'::B)=Az (P++p::Q) (A++r::B):=by
 rw [GL hl hm hk,GL hl hm rfl]
theorem Jc {ps:List Nat}{A B:List Row}{r:Row}(h:ps.length=(A++r::B).length):∃P p Q,ps=P++p::Q∧P.length=A.length∧Q.length=B.length:=by
 rw [List.length_append,List.length_cons] at h;refine ⟨ps.take A.length,ps[A.length]'(by omega),ps.drop (A.length+1),?_,by simp;omega,by simp;omega⟩;rw [←List.drop_eq_getElem_cons (by omega),List.take_append_drop]
theorem PV {ps:List Nat}{A B:List Row}(h:ps.length=(A++B).length):∃P Q,ps=P++Q∧P.length=A.length∧Q.length=B.length:=by
 rw [List.length_append] at h;exact ⟨ps.take A.length,ps.drop A.length,(List.take_append_drop ..).symm,by simp;omega,by simp;omega⟩
def NotesR (I:Imm)(mm:List UInt8→Option Value)(nt:Nts):Prop:=∀k,(nt k=none∧mm k=none)∨∃d l kv v,nt k=some (d,l)∧mm k=some (.agg #[.bool d,kv,v])∧Bytes I kv k∧Bytes I v l
theorem NotesR.mono {I I':Imm}{mm:List UInt8→Option Value}{nt:Nts}(h:NotesR I mm nt)(hI:Ext I I'):NotesR I' mm nt:=fun k=>by
 rcases h k with h|⟨d,l,kv,v,h1,h2,h3,h4⟩
 ·exact .inl h
 ·exact .inr ⟨d,l,kv,v,h1,h2,h3.mono hI,h4.mono hI⟩
def NtR (I:Imm)(ch:Nat)(X:LH)(nt:Nts):Prop:=∃ces cclock mm,X=[(ch,.map ces cclock)]∧MapS ces cclock mm∧NotesR I mm nt
theorem NtR.mono {I I':Imm}{ch:Nat}{X:LH}{nt:Nts}(h:NtR I ch X nt)(hI:Ext I I'):NtR I' ch X nt:=by
 obtain ⟨ces,cclock,mm,h1,h2,h3⟩:=h;exact ⟨ces,cclock,mm,h1,h2,h3.mono hI⟩
structure SpF (I:Imm)(ch:Nat)(kv:Value)(es:Array MapEntry)(clock:Nat)(ps:List Nat)(KX RX NX:LH)(sp:Sp)(nt:Nts):Prop where
 map:MapS es clock (Az ps sp.rows)
 keys:StrO KX kv (keysOf sp.rows)
 rows:RowsR RX ps sp.rows
 nts:NtR I ch NX nt
def SpP (I:Imm)(b:Nat)(ps:List Nat)(X:LH)(sp:Sp)(nt:Nts):Prop:=∃m ch kv es clock KX RX NX,X.Perm ((b,spO m kv sp.floor ch)::(m,.map es clock)::(KX++(RX++NX)))∧SpF I ch kv es clock ps KX RX NX sp nt
theorem SpF.mono {I I':Imm}{ch:Nat}{kv:Value}{es:Array MapEntry}{clock:Nat}{ps:List Nat}{KX RX NX:LH}{sp:Sp}{nt:Nts}(h:SpF I ch kv es clock ps KX RX NX sp nt)(hI:Ext I I'):SpF I' ch kv es clock ps KX RX NX sp nt:=⟨h.map,h.keys,h.rows,h.nts.mono hI⟩
def SpR (I:Imm)(b:Nat)(X:LH)(sp:Sp)(nt:Nts):Prop:=∃ps,SpP I b ps X sp nt
theorem SpP.mono {I I':Imm}{b:Nat}{ps:List Nat}{X:LH}{sp:Sp}{nt:Nts}(h:SpP I b ps X sp nt)(hI:Ext I I'):SpP I' b ps X sp nt:=by
 obtain ⟨m,ch,kv,es,clock,KX,RX,NX,h1,h2⟩:=h;exact ⟨m,ch,kv,es,clock,KX,RX,NX,h1,h2.mono hI⟩
theorem SpR.mono {I I':Imm}{b:Nat}{X:LH}{sp:Sp}{nt:Nts}(h:SpR I b X sp nt)(hI:Ext I I'):SpR I' b X sp nt:=by
 obtain ⟨ps,h⟩:=h;exact ⟨ps,h.mono hI⟩
section
variable {ω:Om}{I:Imm}{L:LH}{K:Value→M}
theorem Pz {b m ch:Nat}{kv a1 a2:Value}{fl:TStamp}{NX F:LH}{nt:Nts}{d:Bool}{k l:List UInt8}(hN:NtR I ch NX nt)(h1:Bytes I a1 k)(h2:Bytes I a2 l)
  (hk:∀NX',NtR I ch NX' (CO nt k (d,l))→K (.tuple #[]) I ((b,spO m kv fl ch)::(NX'++F))):
  CT ω 187 #[pt b,a1,a2,.bool d] K I ((b,spO m kv fl ch)::(NX++F)):=by
 obtain ⟨ces,cclock,mm,rfl,hm,hn⟩:=hN;refine AMM ?_;unfold ACM;refine AZ ?_;try simp only [SSd,Nat.reduceAdd]
 refine Ah ?_;refine Ek h1 (Ext.refl _) ?_;obtain ⟨ka,kc,rfl⟩:=Bytes.form h1;obtain ⟨va,vc,rfl⟩:=Bytes.form h2;try simp only [SSd,Nat.reduceAdd]
 obtain ⟨es',c',he,hm'⟩:=hm.put k (.agg #[.bool d,.slice ka k.length kc,.slice va l.length vc]);refine AId hm he ?_;refine Gh.done (Gh.done (hk [(ch,.map es' c')] ⟨es',c',_,rfl,hm',fun q=>?_⟩));unfold CO HZ;by_cases hq:q=k
 ·subst hq;simp only [if_true];exact .inr ⟨d,l,_,_,rfl,rfl,h1,h2⟩
 ·simp only [if_neg hq];exact hn q
theorem MJ {b:Nat}{ps:List Nat}{a1 a2:Value}{X F:LH}{sp:Sp}{nt:Nts}{d:Bool}{k l:List UInt8}(hS:SpP I b ps X sp nt)(h1:Bytes I a1 k)(h2:Bytes I a2 l)
  (hk:∀X',SpP I b ps X' sp (CO nt k (d,l))→K (.tuple #[]) I (X'++F)):CT ω 187 #[pt b,a1,a2,.bool d] K I (X++F):=by
 obtain ⟨m,ch,kv,es,clock,KX,RX,NX,hp,hF⟩:=hS;refine Cal.gh (Cal.perm (L':=(b,spO m kv sp.floor ch)::(NX++((m,.map es clock)::(KX++(RX++F))))) (AP (by rw [AN,BA hp];((try simp only [AM,AN,AY,AQ]);(try ac_rfl)))) (Pz hF.nts h1 h2 fun NX' h'=>?_));refine Gh.perm (L':=((b,spO m kv sp.floor ch)::(m,.map es clock)::(KX++(RX++NX')))++F) (AP (by ((try simp only [AM,AN,AY,AQ]);(try ac_rfl)))) (Gh.done (hk _ ⟨m,ch,kv,es,clock,KX,RX,NX',List.Perm.refl _,hF.map,hF.keys,hF.rows,h'⟩))
theorem KV {b:Nat}{ps:List Nat}{X F:LH}{sp:Sp}{nt:Nts}{k:List UInt8}{v:TVer}(hS:SpP I b ps X sp nt)(hr:AU v.fAt=true)(hl:k.length≤1000000000)(hvl:v.fValue.length≤1000000000)
  (hk:∀X' I',Ext I I'→SpP I' b ps X' sp (CO nt (Ag k v) (false,Af v))→K (.tuple #[]) I' (X'++F)):
  CT ω 189 #[pt b,BR k,vv v] K I (X++F):=by
 refine AFe ?_;unfold Ws;refine AV (fun q=>?_);refine AZ ?_;refine Ai rfl ?_;refine Bz (KF hr hl (fun X1 u I1 hI1 hX=>?_));refine OB.freeze hX (fun I2 hI2 hB=>Gh.done ?_);refine LO (hI1.trans hI2) (fun x hx=>hx) ?_;refine Ai rfl ?_;refine Bz (IF hvl (fun X3 u3 hX3=>?_));refine OB.freeze hX3 (fun I3 hI3 hB3=>Gh.done ?_);refine call (Cal.to (X++F) ?_);refine MJ (hS.mono (hI1.trans (hI2.trans hI3))) (hB.mono hI3) hB3 (fun X' h'=>?_);exact Gh.done (hk X' I3 (hI1.trans (hI2.trans hI3)) h')
theorem Nj {b:Nat}{ps:List Nat}{X F:LH}{sp:Sp}{nt:Nts}(hS:SpP I b ps X sp nt)(hr:AU sp.floor=true)
  (hk:∀X' I',Ext I I'→SpP I' b ps X' sp (CO nt [102] (false,stF sp.floor))→K (.tuple #[]) I' (X'++F)):
  CT ω 131 #[pt b] K I (X++F):=by
 have hS0:=hS;obtain ⟨m,ch,kv,es,clock,KX,RX,NX,hp,hF⟩:=hS;have hmem:(b,spO m kv sp.floor ch)∈X:=hp.mem_iff.2 (List.mem_cons_self ..);refine AFi ?_;unfold XJ;try simp only [SSd,Nat.reduceAdd]
 refine rdN (vs:=[.int .i64 sp.floor.fWall,.int .i64 sp.floor.fLogic]) rfl (fun j u hu=>Cell.own (List.mem_append_left _ hmem) ?_) ?_
 ·match j,hu with
  |0,hu=>simpa using hu
  |1,hu=>simpa using hu
 refine Bz (EK (x:=sp.floor) hr (fun X1 u hX=>?_));refine OB.freeze hX (fun I2 hI2 hB=>Gh.done ?_);try simp only [SSd,Nat.reduceAdd]
 refine by1 (c:=102) (fun X1 u1 h1=>OB.freeze h1 (fun I3 hI3 hB3=>Gh.done ?_));refine call (MJ (hS0.mono (hI2.trans hI3)) hB3 (hB.mono hI3) (fun X' h'=>?_));exact Gh.done (hk X' I3 (hI2.trans hI3) h')
def BP (x:Itn):Bool×List UInt8:=if x.txn=0 then (true,[]) else (false,stF x.ver.fAt++Bc x.txn.toNat++Af x.ver)
def CellV (I:Imm)(L:LH)(p:Nat)(r:Row):Prop:=∃sl,Cells I L p 0 [sl,.int .i64 r.it.ver.fAt.fWall,.int .i64 r.it.ver.fAt.fLogic,.bool r.it.ver.fDel,BR r.it.ver.fValue,.int .i64 r.it.txn]∧RL TVerV 4 I L sl r.vs
structure ViewF (I:Imm)(L:LH)(b m:Nat)(kv:Value)(es:Array MapEntry)(clock:Nat)(ps:List Nat)(sp:Sp):Prop where
 head:Cells I L b 0 [.map (some m),kv,.int .i64 sp.floor.fWall,.int .i64 sp.floor.fLogic]
 at':MapAt I L m es clock
 map:MapS es clock (Az ps sp.rows)
 keys:Strs I L kv (keysOf sp.rows)
 len:ps.length=sp.rows.length
 cell:∀(i p:Nat) r,ps[i]? =some p→sp.rows[i]? =some r→CellV I L p r
def AAG (I:Imm)(L:LH)(b:Nat)(sp:Sp):Prop:=∃m kv es clock ps,ViewF I L b m kv es clock ps sp
theorem CellV.mono {I I':Imm}{L L':LH}{p:Nat}{r:Row}(h:CellV I L p r)(hI:Ext I I')(hL:∀x∈L,x∈L'):CellV I' L' p r:=by
 obtain ⟨sl,h1,h2⟩:=h;exact ⟨sl,h1.mono hI hL,h2.mono (fun x c h=>TVerV.mono h hI) hI hL⟩
theorem MapAt.mono {I I':Imm}{L L':LH}{m:Nat}{es:Array MapEntry}{clock:Nat}(h:MapAt I L m es clock)(hI:Ext I I')(hL:∀x∈L,x∈L'):MapAt I' L' m es clock:=h.imp (hL _) (hI _ _)
theorem ViewF.mono {I I':Imm}{L L':LH}{b m:Nat}{kv:Value}{es:Array MapEntry}{clock:Nat}{ps:List Nat}{sp:Sp}(h:ViewF I L b m kv es clock ps sp)(hI:Ext I I')(hL:∀x∈L,x∈L'):ViewF I' L' b m kv es clock ps sp:=
 ⟨h.head.mono hI hL,MapAt.mono h.at' hI hL,h.map,h.keys.mono (fun x c h=>StrV.mono h hI) hI hL,h.len,fun i p r h1 h2=>(h.cell i p r h1 h2).mono hI hL⟩
theorem Dj {L:LH}{b:Nat}{l:List Value}{T:Nat}{fr:Nat×Nat}(h:(b,Obj.cells l.toArray T fr)∈L)(n:Nat):Cells I L b 0 (l.take n):=fun j u hu=>Cell.own h (by
 rw [List.getElem?_take] at hu;split at hu
 ·simpa using hu
 ·cases hu)
theorem VsO.rl {Y L:LH}{sl:Value}{vs:List TVer}(h:VsO Y sl vs)(hY:∀x∈Y,x∈L):RL TVerV 4 I L sl vs:=by
 have hn:=h.news (I:=I) hY;obtain ⟨_,hh⟩:=h;rcases hh with ⟨_,h0,a,rfl⟩|⟨b,cap,cs,_,rfl,_,hle,_⟩
 ·refine ⟨a,0,_,?_,by omega,hn,Fj vs⟩;rw [h0]
 ·exact ⟨_,cap,_,rfl,hle,hn,Fj vs⟩
theorem RowsR.cell {L:LH}:∀{ps:List Nat} {rs:List Row} {X:LH},RowsR X ps rs→(∀x∈X,x∈L)→∀(i p:Nat) r,ps[i]? =some p→rs[i]? =some r→CellV I L p r
 |[],[],_,_,_,i,p,r,h1,_=>by simp at h1
 |q::ps,a::rs,X,⟨sl,Y,Z,h1,h2,h3⟩,hL,0,p,r,g1,g2=>by
  simp only [List.getElem?_cons_zero,Option.some.injEq] at g1 g2;subst g1 g2;exact ⟨sl,Dj (hL _ (h1.mem_iff.2 (List.mem_cons_self ..))) 6,h2.rl (fun x hx=>hL _ (h1.mem_iff.2 (by simp [hx])))⟩
 |q::ps,a::rs,X,⟨sl,Y,Z,h1,h2,h3⟩,hL,i+1,p,r,g1,g2=>
  RowsR.cell h3 (fun x hx=>hL _ (h1.mem_iff.2 (by simp [hx]))) i p r (by simpa using g1) (by simpa using g2)
theorem SpP.view {b:Nat}{ps:List Nat}{X L:LH}{sp:Sp}{nt:Nts}(h:SpP I b ps X sp nt)(hL:∀x∈X,x∈L):AAG I L b sp:=by
 obtain ⟨m,ch,kv,es,clock,KX,RX,NX,hp,hF⟩:=h;have hmem:∀x,x∈((b,spO m kv sp.floor ch)::(m,Obj.map es clock)::(KX++(RX++NX)))→x∈L:=fun x hx=>hL _ (hp.mem_iff.2 hx);refine ⟨m,kv,es,clock,ps,Dj (hmem _ (List.mem_cons_self ..)) 4,.inl (hmem _ (by simp)),hF.map,StrO.rl hF.keys (fun x hx=>hmem _ (by simp [hx])),hF.rows.len,hF.rows.cell (fun x hx=>hmem _ (by simp [hx]))⟩
theorem SpR.view {b:Nat}{X L:LH}{sp:Sp}{nt:Nts}(h:SpR I b X sp nt)(hL:∀x∈X,x∈L):AAG I L b sp:=by
 obtain ⟨ps,h⟩:=h;exact h.view hL
theorem ViewF.look {b m:Nat}{kv:Value}{es:Array MapEntry}{clock:Nat}{ps:List Nat}{sp:Sp}(h:ViewF I L b m kv es clock ps sp)(hs:SrtK (keysOf sp.rows))(k:List UInt8):
  (rowOf sp.rows k=none∧Az ps sp.rows k=none)∨∃r p,rowOf sp.rows k=some r∧Az ps sp.rows k=some (pt p)∧CellV I L p r∧r.key=k:=by
 have hlen:=h.len;have hcell:=h.cell;obtain ⟨rows,fl⟩:=sp;rcases place k hs with ⟨A,r,B,e,hk,hm⟩|⟨A,B,e,hm⟩
 ·simp only at e;subst e
  obtain ⟨P,p,Q,rfl,hl,_⟩:=Jc hlen;refine .inr ⟨r,p,Cj hm hk,EG hl hm hk,hcell A.length p r ?_ ?_,hk⟩
  ·rw [←hl];simp
  ·simp
 ·simp only at e;subst e
  exact .inl ⟨Eu hm.notin,HO hm.notin⟩
theorem itC {r:Row}{L:LH}{p:Nat}{sl:Value}(h:Cells I L p 0 [sl,.int .i64 r.it.ver.fAt.fWall,.int .i64 r.it.ver.fAt.fLogic,.bool r.it.ver.fDel,BR r.it.ver.fValue,.int .i64 r.it.txn]):
  Cell I L p 0 sl∧Cells I L p 1 [.int .i64 r.it.ver.fAt.fWall,.int .i64 r.it.ver.fAt.fLogic]∧Cells I L p 1 [.int .i64 r.it.ver.fAt.fWall,.int .i64 r.it.ver.fAt.fLogic,.bool r.it.ver.fDel,BR r.it.ver.fValue]∧Cell I L p 3 (.bool r.it.ver.fDel)∧Cell I L p 4 (BR r.it.ver.fValue)∧Cell I L p 5 (.int .i64 r.it.txn)∧
  Cells I L p 1 [.int .i64 r.it.ver.fAt.fWall,.int .i64 r.it.ver.fAt.fLogic,.bool r.it.ver.fDel,BR r.it.ver.fValue,.int .i64 r.it.txn]:=
 ⟨h 0 _ rfl,by simpa using h.sub (k:=1) (m:=2),by simpa using h.sub (k:=1) (m:=4),by simpa using h 3 _ rfl,by simpa using h 4 _ rfl,by simpa using h 5 _ rfl,by simpa using h.sub (k:=1) (m:=5)⟩
theorem FM {b:Nat}{ps:List Nat}{X F:LH}{sp:Sp}{nt:Nts}{k:List UInt8}{r:Row}(hS:SpP I b ps X sp nt)(hs:SrtK (keysOf sp.rows))(hr:rowOf sp.rows k=some r)
  (ht:0≤r.it.txn∧r.it.txn < 9223372036854775808) (hri:r.it.txn≠0→AU r.it.ver.fAt=true) (hl:k.length≤1000000000) (hvl:r.it.ver.fValue.length≤1000000000)
  (hk:∀X' I',Ext I I'→SpP I' b ps X' sp (CO nt (105::k) (BP r.it))→K (.tuple #[]) I' (X'++F)):
  CT ω 190 #[pt b,BR k] K I (X++F):=by
 obtain ⟨m,kv,es,clock,ps',hV⟩:=hS.view (L:=X++F) (fun x hx=>List.mem_append_left _ hx);obtain ⟨h0,_⟩|⟨r',p,h1,hc,⟨sl,hC,hVs⟩,hkr⟩:=hV.look hs k
 ·rw [hr] at h0;cases h0
 obtain rfl:r'=r:=by rw [hr] at h1;exact (Option.some.inj h1).symm
 obtain ⟨c0,c1,c14,c3,c4,c5,_⟩:=itC hC;refine AFd ?_;unfold Wq;refine by1 (c:=105) (fun X1 u1 h1=>Gh.done ?_);refine GT (y:=k) h1 (.inr (.inr ⟨_,rfl,rfl,by simp [ByteArray.size],by simp [u8s]⟩)) (by simp;omega) (fun X2 u2 h2=>?_);refine OB.freeze h2 (fun I2 hI2 hB2=>Gh.done ?_);try simp only [SSd,Nat.reduceAdd]
 refine rdC (hV.head 0 _ rfl) hI2 ?_;refine ⟨_,GV ((MapAt.mono hV.at' hI2 (fun x hx=>by simp [hx]))) hV.map,?_⟩;simp only [hc,lkV];simp only [Bool.false_eq_true,if_false,SSd,Nat.reduceAdd];refine rdC c5 hI2 ?_;try simp only [SSd,Nat.reduceAdd]
 refine AC (fun e=>?_) (fun e=>?_)
 ·simp at e;refine call (Cal.to (X++F) ?_);refine MJ (hS.mono hI2) hB2 (show Bytes I2 _ [] from SlI.nil I2 1 none 0) (fun X' h'=>?_);refine Gh.done (hk X' I2 hI2 ?_);unfold BP;rw [if_pos e];exact h'
 ·simp at e;refine Jl c1 hI2 rfl ?_;have hs9:(stF r'.it.ver.fAt).length=9:=rfl;have hv9:=KH (n:=r'.it.txn.toNat) (by omega);refine Bz (EK (hri e) (fun X3 u3 h3=>Gh.done ?_));try simp only [SSd,Nat.reduceAdd]
  refine rdC c5 hI2 ?_;try simp only [SSd,Nat.reduceAdd]
  rw [wrap_u64 _ ht.1 (by omega),show r'.it.txn=((r'.it.txn.toNat:Nat):Int) by omega];refine call (Hn (by omega) (fun u4 I4 hI4 hB4=>?_));refine GT (y:=Bc r'.it.txn.toNat) h3 (SlI.news hB4) (by omega) (fun X5 u5 h5=>Gh.done ?_);refine Jl c14 (hI2.trans hI4) rfl ?_;refine call (IF hvl (fun X6 u6 h6=>?_));have hvt:(Af r'.it.ver).length≤1000000001:=by unfold Af;split <;> simp;omega
  refine GT (X6:=X5) (y:=Af r'.it.ver) h5 (h6.news (fun x hx=>by simp [hx])) (by rw [List.length_append];omega) (fun X7 u7 h7=>?_);refine OB.freeze h7 (fun I7 hI7 hB7=>Gh.done ?_);refine call (Cal.to (X++F) ?_);refine MJ (hS.mono (hI2.trans (hI4.trans hI7))) (hB2.mono (hI4.trans hI7)) hB7 (fun X' h'=>?_);refine Gh.done (hk X' I7 (hI2.trans (hI4.trans hI7)) ?_);unfold BP;rw [if_neg e];exact h'
end
section
variable {ω:Om}{I:Imm}{L:LH}{K:Value→M}
theorem AGt {vs:List TVer}{m:TStamp}{k:Nat}(hk:k < vs.length)(h:bhd vs[k].fAt m=false)(h2:∀w∈vs.drop (k+1),bhd w.fAt m=true):upTo vs m=some vs[k]:=by
 unfold upTo;have e:vs=vs.take k++vs[k]::vs.drop (k+1):=by rw [←List.drop_eq_getElem_cons hk,List.take_append_drop]
 generalize vs[k]=v at *;rw [e,List.reverse_append,List.reverse_cons,List.append_assoc,List.find?_append,List.find?_eq_none.2 (fun w hw=>by simpa using h2 w (List.mem_reverse.1 hw))];simp [h]
theorem AGs {vs:List TVer}{m:TStamp}(h2:∀w∈vs,bhd w.fAt m=true):upTo vs m=none:=by
 unfold upTo;exact List.find?_eq_none.2 fun w hw=>by simpa using h2 w (List.mem_reverse.1 hw)
theorem AAQ {vs:List TVer}{m:TStamp}{v:TVer}(h:upTo vs m=some v):v∈vs:=by
 unfold upTo at h;exact List.mem_reverse.1 (List.mem_of_find?_eq_some h)
theorem PN {v:TVer}{q off:Nat}(h:Cells I L q off (Et v)):Cells I L q off [.int .i64 v.fAt.fWall,.int .i64 v.fAt.fLogic]∧Cell I L q (off+2) (.bool v.fDel)∧Cell I L q (off+3) (BR v.fValue):=
 ⟨by simpa [Et] using h.sub (k:=0) (m:=2),h 2 _ rfl,h 3 _ rfl⟩
theorem PO {L0:LH}[LSub L0 L]{p:Nat}{r:Row}{m:TStamp}(hV:CellV I L0 p r)(hlen:r.vs.length≤1000000000)(hn:upTo r.vs m=none→K (.pointer none) I L)
  (hs:∀q off v,upTo r.vs m=some v→Cells I L0 q off (Et v)→K (.pointer (some ⟨q,off,none⟩)) I L):CT ω 221 #[pt p,sv m] K I L:=by
 obtain ⟨sl,hC,hVs⟩:=hV;refine ALs ?_;unfold ABc;refine AV (fun b=>?_);try simp only [SSd,Nat.reduceAdd]
 refine rdC (hC 0 _ rfl) (Ext.refl _) ?_;simp only [RL.len hVs,SSd,Nat.reduceAdd];refine loop (fun n s I' L'=>I'=I∧L'=(b,Obj.cells #[.int .i64 m.fWall,.int .i64 m.fLogic] 41 (0,0))::L∧∃k:Nat,n=k∧k≤r.vs.length∧s=(.pointer none,.int .i64 ((k:Int) - 1),())∧∀w∈r.vs.drop k,bhd w.fAt m=true) r.vs.length ⟨rfl,rfl,r.vs.length,rfl,Nat.le_refl _,by rw [wrap_i64 _ (by omega)],by simp⟩ ?_;rintro n s I' L' ⟨rfl,rfl,k,rfl,hkl,rfl,hA⟩;unfold WZ;try simp only [SSd,Nat.reduceAdd]
 refine AC (fun e=>?_) (fun e=>?_)
 ·simp at e;obtain ⟨j,rfl⟩:∃j,n=j+1:=⟨n - 1,by omega⟩;rw [show ((j+1:Nat):Int) - 1=(j:Int) by omega];refine AZ ?_;try simp only [SSd,Nat.reduceAdd]
  refine CQ (hC 0 _ rfl) (Ext.refl _) ?_;obtain ⟨q,off,c,hix,hl,hc,hcc⟩:=RL.ix hVs (i:=j) (by omega) (by omega);obtain rfl:c=Et _:=hc;simp only [hix,SSd,Nat.reduceAdd];have hc4:=hcc I' L0 (Ext.refl _) (fun _ h=>h);rw [Aq (by omega)] at hc4;obtain ⟨g1,g2,g3⟩:=PN hc4;refine Gl g1 (Ext.refl _) rfl ?_;refine Ai rfl ?_;refine call (BE ?_);try simp only [SSd,Nat.reduceAdd]
  refine AC (fun e2=>?_) (fun e2=>?_)
  ·simp at e2;try simp only [SSd,Nat.reduceAdd]
   refine rdC (hC 0 _ rfl) (Ext.refl _) ?_;simp only [hix,SSd,Nat.reduceAdd];exact Gh.to L (Gh.done (hs q off _ (AGt (by omega) e2 hA) hc4))
  ·simp at e2;try simp only [SSd,Nat.reduceAdd]
   rw [wrap_i64 _ (by omega)];refine Gh.done ⟨j,by omega,rfl,rfl,j,rfl,by omega,rfl,fun w hw=>?_⟩;rw [List.drop_eq_getElem_cons (by omega)] at hw;rcases List.mem_cons.1 hw with rfl|hw
   ·exact e2
   ·exact hA w hw
 ·simp at e;have h0:n=0:=by omega
  subst h0;exact Gh.to L (Gh.done (hn (AGs (by simpa using hA))))
abbrev gvV (g:TGot)(v0:Value):Value:=.agg #[.bool g.fFound,v0,.int .i64 g.fAt.fWall,.int .i64 g.fAt.fLogic,.int .i64 g.fBy]
def ANN (I:Imm)(L:LH)(pv:Value):Option TVer→Prop
 |none=>pv= .pointer none
 |some v=>∃q off,pv= .pointer (some ⟨q,off,none⟩)∧Cells I L q off (Et v)
theorem Ix {b1 b2:Nat}{o1:Obj}{pv:Value}{ov:Option TVer}(h:ANN I L pv ov)
  (hk:∀I' v0,Ext I I'→Bytes I' v0 (FS ov).fValue→K (.tuple #[gvV (FS ov) v0,.int .i64 0]) I' L):
  sh214_2 ω (.pointer (some ⟨b2,0,none⟩)) (.int .i64 0) pv (fun v=>Gh (K v)) I ((b2,.cells #[.bool false,.slice none 0 0,.int .i64 0,.int .i64 0,.int .i64 0] 49 (0,0))::(b1,o1)::L):=by
 have hz:∀I',Bytes I' (.slice none 0 0) []:=fun I'=>SlI.nil I' 1 none 0;unfold sh214_2;cases ov with
 |none=>
  obtain rfl:pv= .pointer none:=h;have e:BZ .eql (.pointer none) (.pointer none)=some (.bool true):=rfl;simp only [e,SSd,Nat.reduceAdd];unfold sh214_3;repeat' (first|(with_reducible first|refine AZ ?_|refine Aa ?_|refine Ac ?_|refine keepA ?_|refine AV (fun _=>?_)|refine rdb ?_)|((with_reducible first|refine st1 ?_ ?_|refine rdB ?_ ?_);rfl)|(with_reducible refine Ah ?_)|((with_reducible refine Ai ?_ ?_);rfl)|((with_reducible refine stB ?_ ?_ ?_ ?_);rfl;rfl;exact AK rfl)|((with_reducible first|refine rdP _ rfl ?_ ?_|refine As _ rfl ?_ ?_);rfl)|((with_reducible refine stP _ rfl ?_ ?_ ?_ ?_);rfl;rfl;rfl)|(with_reducible first|refine AW (sh214_3.eq_1 ..) ?_|refine AW (sh214_2.eq_1 ..) ?_|refine AW (sh214.eq_1 ..) ?_|refine And.intro ?_ ?_)|(simp only [SSg,Int.reduceBEq,Int.reduceBNe,Int.reduceLT,Int.reduceLE,beq_self_eq_true,bne_self_eq_false])|(with_reducible first|refine AG (fun _=>?_) (fun _=>?_)|refine AC (fun _=>?_) (fun _=>?_))|(simp only [SSd,Nat.reduceAdd]))
  exact Gh.to L (Gh.done (hk I _ (Ext.refl _) (hz I)))
 |some v=>
  obtain ⟨q,off,rfl,hc⟩:=h;obtain ⟨g1,g2,g3⟩:=PN hc;try simp only [SSd,Nat.reduceAdd]
  refine rdC g2 (Ext.refl _) ?_;refine AC (fun e=>?_) (fun e=>?_)
  ·unfold sh214_3;have es:FS (some v)=DF:=by simp [FS,e]
   rw [es] at hk;repeat' (first|(with_reducible first|refine AZ ?_|refine Aa ?_|refine Ac ?_|refine keepA ?_|refine AV (fun _=>?_)|refine rdb ?_)|((with_reducible first|refine st1 ?_ ?_|refine rdB ?_ ?_);rfl)|(with_reducible refine Ah ?_)|((with_reducible refine Ai ?_ ?_);rfl)|((with_reducible refine stB ?_ ?_ ?_ ?_);rfl;rfl;exact AK rfl)|((with_reducible first|refine rdP _ rfl ?_ ?_|refine As _ rfl ?_ ?_);rfl)|((with_reducible refine stP _ rfl ?_ ?_ ?_ ?_);rfl;rfl;rfl)|(with_reducible first|refine AW (sh214_3.eq_1 ..) ?_|refine AW (sh214_2.eq_1 ..) ?_|refine AW (sh214.eq_1 ..) ?_|refine And.intro ?_ ?_)|(simp only [SSg,Int.reduceBEq,Int.reduceBNe,Int.reduceLT,Int.reduceLE,beq_self_eq_true,bne_self_eq_false])|(with_reducible first|refine AG (fun _=>?_) (fun _=>?_)|refine AC (fun _=>?_) (fun _=>?_))|(simp only [SSd,Nat.reduceAdd]))
   exact Gh.to L (Gh.done (hk I _ (Ext.refl _) (hz I)))
  ·have es:FS (some v)=ANd v.fValue v.fAt:=by simp [FS,e]
   rw [es] at hk;refine AZ ?_;try simp only [SSd,Nat.reduceAdd]
   refine CQ g3 (Ext.refl _) ?_;refine ZX (fun u I2 hI2 hB=>?_);obtain ⟨a,c,rfl⟩:=Bytes.form hB;refine Gh.done (FC hI2 ?_);try simp only [SSd,Nat.reduceAdd]
   refine Gl g1 (Ext.refl _) rfl ?_;repeat' (first|(with_reducible first|refine AZ ?_|refine Aa ?_|refine Ac ?_|refine keepA ?_|refine AV (fun _=>?_)|refine rdb ?_)|((with_reducible first|refine st1 ?_ ?_|refine rdB ?_ ?_);rfl)|(with_reducible refine Ah ?_)|((with_reducible refine Ai ?_ ?_);rfl)|((with_reducible refine stB ?_ ?_ ?_ ?_);rfl;rfl;exact AK rfl)|((with_reducible first|refine rdP _ rfl ?_ ?_|refine As _ rfl ?_ ?_);rfl)|((with_reducible refine stP _ rfl ?_ ?_ ?_ ?_);rfl;rfl;rfl)|(with_reducible first|refine AW (sh214_3.eq_1 ..) ?_|refine AW (sh214_2.eq_1 ..) ?_|refine AW (sh214.eq_1 ..) ?_|refine And.intro ?_ ?_)|(simp only [SSg,Int.reduceBEq,Int.reduceBNe,Int.reduceLT,Int.reduceLE,beq_self_eq_true,bne_self_eq_false])|(with_reducible first|refine AG (fun _=>?_) (fun _=>?_)|refine AC (fun _=>?_) (fun _=>?_))|(simp only [SSd,Nat.reduceAdd]))
   exact Gh.to L (Gh.done (hk I2 _ hI2 hB))
theorem OS {p:Nat}{r:Row}{m:TStamp}{txn:Int}(hV:CellV I L p r)(hlen:r.vs.length≤1000000000)
  (hk:∀I' v0,Ext I I'→Bytes I' v0 (seen r m txn).1.fValue→K (.tuple #[gvV (seen r m txn).1 v0,.int .i64 (seen r m txn).2]) I' L):CT ω 214 #[pt p,sv m,.int .i64 txn] K I L:=by
 obtain ⟨sl,hC,hVs⟩:=hV;have hV':CellV I L p r:=⟨sl,hC,hVs⟩;obtain ⟨c0,c1,c14,c3,c4,c5,_⟩:=itC hC;have hz:∀I',Bytes I' (.slice none 0 0) []:=fun I'=>SlI.nil I' 1 none 0;have hX:∀b1 b2 pv,ANN I L pv (upTo r.vs m)→Pv (AO (pt p)) (fun v5=>Pv (AA 1 v5) fun v6=>Pv (AO v6) fun v7=>Pv (AA 4 v7) fun v8=>Rv none (AD v8) fun v9=>Pv (AB .eql v9 (.int .i64 0)) fun v10=>Br v10 (sh214_2 ω (.pointer (some ⟨b2,0,none⟩)) (.int .i64 0) pv (fun v=>Gh (K v)))
  (Pv (AO v6) fun v26=>Pv (AA 4 v26) fun v27=>Rv none (AD v27) fun v28=>Pv (AB .eql v28 (.int .i64 txn)) fun v29=>Br v29 (Pv (AO v6) fun v30=>Pv (AA 0 v30) fun v31=>sh214_2 ω (.pointer (some ⟨b2,0,none⟩)) (.int .i64 0) v31 (fun v=>Gh (K v)))
   (Ad fun S=>Pv (AO v6) fun v32=>Pv (AA 0 v32) fun v33=>Pv (AA 0 v33) fun v34=>Rv (some S) (AH 2 v34) fun v35=>Rv (some S) (AH 2 (.pointer (some ⟨b1,0,none⟩))) fun v36=>CT ω 213 #[v35,v36]<|gh fun v37=>Pv (unV .not v37) fun v38=>
    Br v38 (Pv (AO v6) fun v39=>Pv (AA 4 v39) fun v40=>Rv none (AD v40) fun v41=>Pv (Ab #[.bool false,.slice none 0 0,.int .i64 0,.int .i64 0,.int .i64 0] #[(0,1),(1,1),(2,2),(4,1)] [(3,v41)]) fun v42=>Sto 5 (.pointer (some ⟨b2,0,none⟩)) v42<|gh fun _=>Rv none (AH 5 (.pointer (some ⟨b2,0,none⟩))) fun v43=>Gh (K (.tuple #[v43,.int .i64 130])))
     (sh214_2 ω (.pointer (some ⟨b2,0,none⟩)) (.int .i64 0) pv (fun v=>Gh (K v)))))) I ((b2,.cells #[.bool false,.slice none 0 0,.int .i64 0,.int .i64 0,.int .i64 0] 49 (0,0))::(b1,Obj.cells #[.int .i64 m.fWall,.int .i64 m.fLogic] 41 (0,0))::L):=by
  intro b1 b2 pv hpv;try simp only [SSd,Nat.reduceAdd]
  refine rdC c5 (Ext.refl _) ?_;try simp only [SSd,Nat.reduceAdd]
  refine AC (fun e=>?_) (fun e=>?_)
  ·simp at e;have es:seen r m txn=(FS (upTo r.vs m),0):=by unfold seen;rw [if_pos e]
   rw [es] at hk;exact Ix hpv hk
  simp at e;try simp only [SSd,Nat.reduceAdd]
  refine rdC c5 (Ext.refl _) ?_;try simp only [SSd,Nat.reduceAdd]
  refine AC (fun e2=>?_) (fun e2=>?_)
  ·simp at e2;try simp only [SSd,Nat.reduceAdd]
   have es:seen r m txn=(FS (some r.it.ver),0):=by unfold seen;rw [if_neg e,if_pos e2]
   rw [es] at hk;exact Ix (ov:=some r.it.ver) ⟨p,1,rfl,c14⟩ hk
  simp at e2;refine AZ ?_;try simp only [SSd,Nat.reduceAdd]
  refine Gl c1 (Ext.refl _) rfl ?_;refine Ai rfl ?_;refine call (BE ?_);try simp only [SSd,Nat.reduceAdd]
  refine AC (fun e3=>?_) (fun e3=>?_)
  ·simp at e3;have es:seen r m txn=(ANe r.it.txn,130):=by unfold seen;rw [if_neg e,if_neg e2,if_pos e3]
   rw [es] at hk;try simp only [SSd,Nat.reduceAdd]
   refine rdC c5 (Ext.refl _) ?_;repeat' (first|(with_reducible first|refine AZ ?_|refine Aa ?_|refine Ac ?_|refine keepA ?_|refine AV (fun _=>?_)|refine rdb ?_)|((with_reducible first|refine st1 ?_ ?_|refine rdB ?_ ?_);rfl)|(with_reducible refine Ah ?_)|((with_reducible refine Ai ?_ ?_);rfl)|((with_reducible refine stB ?_ ?_ ?_ ?_);rfl;rfl;exact AK rfl)|((with_reducible first|refine rdP _ rfl ?_ ?_|refine As _ rfl ?_ ?_);rfl)|((with_reducible refine stP _ rfl ?_ ?_ ?_ ?_);rfl;rfl;rfl)|(with_reducible first|refine AW (sh214_3.eq_1 ..) ?_|refine AW (sh214_2.eq_1 ..) ?_|refine AW (sh214.eq_1 ..) ?_|refine And.intro ?_ ?_)|(simp only [SSg,Int.reduceBEq,Int.reduceBNe,Int.reduceLT,Int.reduceLE,beq_self_eq_true,bne_self_eq_false])|(with_reducible first|refine AG (fun _=>?_) (fun _=>?_)|refine AC (fun _=>?_) (fun _=>?_))|(simp only [SSd,Nat.reduceAdd]))
   exact Gh.to L (Gh.done (hk I _ (Ext.refl _) (hz I)))
  ·simp at e3;have es:seen r m txn=(FS (upTo r.vs m),0):=by unfold seen;rw [if_neg e,if_neg e2,if_neg (by simp [e3])]
   rw [es] at hk;exact Ix hpv hk
 refine ALz ?_;unfold sh214;refine AV (fun b1=>?_);refine AV (fun b2=>?_);refine rdB rfl ?_;refine call (PO hV' hlen (fun h0=>?_) (fun q off v h0 hc=>?_))
 ·exact hX b1 b2 _ (by rw [h0];rfl)
 ·exact hX b1 b2 _ (by rw [h0];exact ⟨q,off,rfl,hc⟩)
theorem AJd {L0:LH}[LSub L0 L]{p:Nat}{r:Row}{m:TStamp}(hV:CellV I L0 p r)(hlen:r.vs.length≤1000000000)(hk:∀pv,ANN I L0 pv (upTo r.vs m)→K pv I L):CT ω 221 #[pt p,sv m] K I L:=
 PO hV hlen (fun h0=>hk _ (by rw [h0];rfl)) (fun q off v h0 hc=>hk _ (by rw [h0];exact ⟨q,off,rfl,hc⟩))
theorem ViewF.cellAt {b m q:Nat}{kv:Value}{es:Array MapEntry}{clock:Nat}{ps:List Nat}{sp:Sp}{r:Row}{k:List UInt8}(h:ViewF I L b m kv es clock ps sp)(hs:SrtK (keysOf sp.rows))(h1:rowOf sp.rows k=some r)(h2:Az ps sp.rows k=some (pt q)):CellV I L q r:=by
 obtain ⟨g1,g2⟩|⟨r',p,g1,g2,g3,g4⟩:=h.look hs k
 ·rw [h1] at g1;cases g1
 ·rw [h1] at g1;rw [h2] at g2;cases g1;cases g2;exact g3
theorem AFG {b:Nat}{sp:Sp}{a:Value}{k:List UInt8}{m:TStamp}{txn:Int}(hV:AAG I L b sp)(hs:SrtK (keysOf sp.rows))(hvs:∀r∈sp.rows,r.vs.length≤1000000000)(hB:Bytes I a k)
  (hk:∀I' v0,Ext I I'→Bytes I' v0 (FZ sp k m txn).1.fValue→K (.tuple #[gvV (FZ sp k m txn).1 v0,.int .i64 (FZ sp k m txn).2]) I' L):
  CT ω 149 #[pt b,a,sv m,.int .i64 txn] K I L:=by
 obtain ⟨mm,kv,es,clock,ps,hV⟩:=hV;have hz:∀I',Bytes I' (.slice none 0 0) []:=fun I'=>SlI.nil I' 1 none 0;refine AMh ?_;unfold sh149;refine AV (fun b1=>AV (fun b2=>AZ ?_));try simp only [SSd,Nat.reduceAdd]
 refine CQ (hV.head 0 _ rfl) (Ext.refl _) ?_;refine Ek hB (Ext.refl _) ?_;refine ⟨_,fun I' L' hS=>GV (MapAt.mono hV.at' hS.1 (fun x hx=>hS.2 _ (by simp [hx]))) hV.map,?_⟩;refine call (Cb hB ?_);have hc2:Cells I L b 2 [.int .i64 sp.floor.fWall,.int .i64 sp.floor.fLogic]:=by simpa using hV.head.sub (k:=2) (m:=2)
 have main:∀t:Bool,(t=true→Ap k=false∨(AU m&&BW txn)=false)→(t=false→¬(Ap k=false∨(AU m&&BW txn)=false))→
   sh149_1 ω (pt b) (.int .i64 txn) (.pointer (some ⟨b1,0,none⟩)) (.pointer (some ⟨b2,0,none⟩)) (.int .i64 0) (lkV (.pointer none) false (Az ps sp.rows k)) (.bool t) (fun v=>Gh (K v)) I
    ((b2,.cells #[.bool false,.slice none 0 0,.int .i64 0,.int .i64 0,.int .i64 0] 49 (0,0))::(b1,Obj.cells #[.int .i64 m.fWall,.int .i64 m.fLogic] 41 (0,0))::L):=by
  intro t ht hf;unfold sh149_1;refine AC (fun e=>?_) (fun e=>?_)
  ·have eg:FZ sp k m txn=(DF,1):=by unfold FZ;rw [if_pos (ht e)]
   rw [eg] at hk;repeat' (first|(with_reducible first|refine AZ ?_|refine Aa ?_|refine Ac ?_|refine keepA ?_|refine AV (fun _=>?_)|refine rdb ?_)|((with_reducible first|refine st1 ?_ ?_|refine rdB ?_ ?_);rfl)|(with_reducible refine Ah ?_)|((with_reducible refine Ai ?_ ?_);rfl)|((with_reducible refine stB ?_ ?_ ?_ ?_);rfl;rfl;exact AK rfl)|((with_reducible first|refine rdP _ rfl ?_ ?_|refine As _ rfl ?_ ?_);rfl)|((with_reducible refine stP _ rfl ?_ ?_ ?_ ?_);rfl;rfl;rfl)|(with_reducible first|refine AW (sh149_1.eq_1 ..) ?_|refine AW (sh149.eq_1 ..) ?_|refine And.intro ?_ ?_)|(simp only [SSg,Int.reduceBEq,Int.reduceBNe,Int.reduceLT,Int.reduceLE,beq_self_eq_true,bne_self_eq_false])|(with_reducible first|refine AG (fun _=>?_) (fun _=>?_)|refine AC (fun _=>?_) (fun _=>?_))|(simp only [SSd,Nat.reduceAdd]))
   exact Gh.to L (Gh.done (hk I _ (Ext.refl _) (hz I)))
  ·have hf':=hf e;refine AZ ?_;try simp only [SSd,Nat.reduceAdd]
   refine Gl hc2 (Ext.refl _) rfl ?_;refine Ai rfl ?_;refine call (BE ?_);refine AC (fun e2=>?_) (fun e2=>?_)
   ·have eg:FZ sp k m txn=(DF,131):=by unfold FZ;rw [if_neg hf',if_pos e2]
    rw [eg] at hk;repeat' (first|(with_reducible first|refine AZ ?_|refine Aa ?_|refine Ac ?_|refine keepA ?_|refine AV (fun _=>?_)|refine rdb ?_)|((with_reducible first|refine st1 ?_ ?_|refine rdB ?_ ?_);rfl)|(with_reducible refine Ah ?_)|((with_reducible refine Ai ?_ ?_);rfl)|((with_reducible refine stB ?_ ?_ ?_ ?_);rfl;rfl;exact AK rfl)|((with_reducible first|refine rdP _ rfl ?_ ?_|refine As _ rfl ?_ ?_);rfl)|((with_reducible refine stP _ rfl ?_ ?_ ?_ ?_);rfl;rfl;rfl)|(with_reducible first|refine AW (sh149_1.eq_1 ..) ?_|refine AW (sh149.eq_1 ..) ?_|refine And.intro ?_ ?_)|(simp only [SSg,Int.reduceBEq,Int.reduceBNe,Int.reduceLT,Int.reduceLE,beq_self_eq_true,bne_self_eq_false])|(with_reducible first|refine AG (fun _=>?_) (fun _=>?_)|refine AC (fun _=>?_) (fun _=>?_))|(simp only [SSd,Nat.reduceAdd]))
    exact Gh.to L (Gh.done (hk I _ (Ext.refl _) (hz I)))
   ·obtain ⟨h1,h2⟩|⟨r,p,h1,h2,h3,h4⟩:=hV.look hs k
    ·have eg:FZ sp k m txn=(DF,0):=by unfold FZ;rw [if_neg hf',if_neg (by simp [e2]),h1]
     rw [eg] at hk;rw [h2];have en:BZ .eql (lkV (.pointer none) false none) (.pointer none)=some (.bool true):=rfl;simp only [en];repeat' (first|(with_reducible first|refine AZ ?_|refine Aa ?_|refine Ac ?_|refine keepA ?_|refine AV (fun _=>?_)|refine rdb ?_)|((with_reducible first|refine st1 ?_ ?_|refine rdB ?_ ?_);rfl)|(with_reducible refine Ah ?_)|((with_reducible refine Ai ?_ ?_);rfl)|((with_reducible refine stB ?_ ?_ ?_ ?_);rfl;rfl;exact AK rfl)|((with_reducible first|refine rdP _ rfl ?_ ?_|refine As _ rfl ?_ ?_);rfl)|((with_reducible refine stP _ rfl ?_ ?_ ?_ ?_);rfl;rfl;rfl)|(with_reducible first|refine AW (sh149_1.eq_1 ..) ?_|refine AW (sh149.eq_1 ..) ?_|refine And.intro ?_ ?_)|(simp only [SSg,Int.reduceBEq,Int.reduceBNe,Int.reduceLT,Int.reduceLE,beq_self_eq_true,bne_self_eq_false])|(with_reducible first|refine AG (fun _=>?_) (fun _=>?_)|refine AC (fun _=>?_) (fun _=>?_))|(simp only [SSd,Nat.reduceAdd]))
     exact Gh.to L (Gh.done (hk I _ (Ext.refl _) (hz I)))
    ·have eg:FZ sp k m txn=seen r m txn:=by unfold FZ;rw [if_neg hf',if_neg (by simp [e2]),h1]
     rw [eg] at hk;rw [h2];simp only [lkV,Bool.false_eq_true,if_false,SSd,Nat.reduceAdd];refine rdB rfl ?_;refine call (OS (h3.mono (Ext.refl _) (fun x hx=>by simp [hx])) (hvs r (BL h1)) (fun I' v0 hI' hB0=>?_));try simp only [SSd,Nat.reduceAdd]
     refine stB rfl rfl ?_ ?_
     ·obtain ⟨_,_,rfl⟩:=Bytes.form hB0;exact AK rfl
     refine rdB rfl ?_;exact Gh.to L (Gh.done (hk I' v0 hI' hB0))
 try simp only [SSd,Nat.reduceAdd]
 cases hkk:Ap k with
 |false=>
  simp only [Bool.not_false,SSd,Nat.reduceAdd];exact main true (fun _=>.inl hkk) (by simp)
 |true=>
  simp only [Bool.not_true,SSd,Nat.reduceAdd];refine rdB rfl ?_;refine call (Of ?_);try simp only [SSd,Nat.reduceAdd]
  refine main _ (fun h=>.inr (by rw [Bool.not_eq_true'] at h;exact h)) (fun h=>by rw [Bool.not_eq_false'] at h;rw [hkk,h];simp)
theorem AFC {p:TSpan}{A B:List Row}(h:∀r∈A,blt r.key p.fFrom=true):inR p (A++B)=inR p B:=by
 unfold inR;rw [List.filter_append,List.filter_eq_nil_iff.2 (fun r hr=>by simp [inB,h r hr]),List.nil_append]
theorem AFD {p:TSpan}{r:Row}{rs:List Row}(hs:SrtK (keysOf (r::rs)))(h0:p.fTo≠[])(h:blt r.key p.fTo=false):inR p (r::rs)=[]:=by
 unfold inR;refine List.filter_eq_nil_iff.2 fun x hx=>?_;have hx2:blt x.key p.fTo=false:=by
  rcases List.mem_cons.1 hx with rfl|hx
  ·exact h
  ·cases hb:blt x.key p.fTo with
   |false=>rfl
   |true=>
    have h1:=(List.pairwise_cons.1 (show List.Pairwise _ (r.key::keysOf rs) from hs)).1 _ (List.mem_map_of_mem hx);rw [Bj h1 hb] at h;cases h
 have h3:p.fTo.length≠0:=fun e=>h0 (List.eq_nil_of_length_eq_zero e);simp [inB,hx2,h0]
theorem Rj {yv:Value}{b m qs qp:Nat}{kv v0 v1:Value}{es:Array MapEntry}{clock:Nat}{ps:List Nat}{sp:Sp}{p:TSpan}(J:List Row→M)(Post:M)(hs:SrtK (keysOf sp.rows))(hlen:sp.rows.length≤1000000000)
  (hJ:∀rs I' L',J rs I' L'→ViewF I' L' b m kv es clock ps sp∧Cell I' L' qs 0 (pt b)∧Cells I' L' qp 0 [v0,v1]∧Bytes I' v0 p.fFrom∧Bytes I' v1 p.fTo)
  (hstep:∀r rs I' L' q,J (r::rs) I' L'→rowOf sp.rows r.key=some r→Az ps sp.rows r.key=some (pt q)→CW ω yv #[BR r.key,pt q] (fun v=>Gh fun I2 L2=>(v= .bool true∧J rs I2 L2)∨(v= .bool false∧Post I2 L2)) I' L')
  (hend:∀I' L',J [] I' L'→Post I' L') (h0:J (inR p sp.rows) I L) (hk:∀I' L',Post I' L'→K (.tuple #[]) I' L'):
  CT ω 229 #[yv,pt qs,pt qp] K I L:=by
 obtain ⟨hV,hqs,hqp,hB0,hB1⟩:=hJ _ _ _ h0;refine ALo ?_;unfold ABU;refine AZ ?_;refine CQ hqs (Ext.refl _) ?_;try simp only [SSd,Nat.reduceAdd]
 refine CQ (hV.head 1 _ rfl) (Ext.refl _) ?_;refine CQ (hqp 0 _ rfl) (Ext.refl _) ?_;refine Ek hB0 (Ext.refl _) ?_;have hkl:(keysOf sp.rows).length=sp.rows.length:=by simp [keysOf]
 refine call (Fa hV.keys (by omega) hs (fun i hi hlo hhi=>?_));try simp only [SSd,Nat.reduceAdd]
 refine rdC hqs (Ext.refl _) ?_;try simp only [SSd,Nat.reduceAdd]
 refine rdC (hV.head 1 _ rfl) (Ext.refl _) ?_;obtain ⟨kv',hsl,hK'⟩:=RL.part hV.keys (lo:=i) (hi:=(keysOf sp.rows).length) (by omega) (Nat.le_refl _) (some (.int .i64 i)) none (BD _ _ _ _ (by omega)) (fun _ _=>rfl);rw [List.take_of_length_le (by simp)] at hK';simp only [hsl,RL.len hK',SSd,Nat.reduceAdd];have hrest:inR p sp.rows=inR p (sp.rows.drop i):=by
  conv=>lhs;rw [←List.take_append_drop i sp.rows]
  refine AFC fun r hr=>hlo r.key ?_;rw [show (keysOf sp.rows).take i=keysOf (sp.rows.take i) by simp [keysOf]];exact List.mem_map_of_mem hr
 rw [hrest] at h0;have hdl:((keysOf sp.rows).drop i).length=sp.rows.length - i:=by simp [keysOf]
 rw [hdl];have hge:∀r∈sp.rows.drop i,blt r.key p.fFrom=false:=fun r hr=>hhi r.key (by
  rw [show (keysOf sp.rows).drop i=keysOf (sp.rows.drop i) by simp [keysOf]];exact List.mem_map_of_mem hr)
 refine loop (fun n s I' L'=>∃j:Nat,n+j=sp.rows.length - i∧s=(.int .i64 j,())∧J (inR p ((sp.rows.drop i).drop j)) I' L') (sp.rows.length - i) ⟨0,rfl,rfl,by simpa using h0⟩ ?_;rintro n s I' L' ⟨j,hnj,rfl,hj⟩;obtain ⟨hV',hqs',hqp',hB0',hB1'⟩:=hJ _ _ _ hj;unfold WW;try simp only [SSd,Nat.reduceAdd]
 refine AC (fun e=>?_) (fun e=>?_);rotate_left
 ·simp at e;rw [List.drop_drop,List.drop_eq_nil_of_le (by omega)] at hj;exact Gh.done (hk _ _ (hend _ _ hj))
 simp at e;obtain ⟨kv2,hsl2,hK2⟩:=RL.part hV'.keys (lo:=i) (hi:=(keysOf sp.rows).length) (by omega) (Nat.le_refl _) (some (.int .i64 i)) none (BD _ _ _ _ (by omega)) (fun _ _=>rfl);rw [List.take_of_length_le (by simp)] at hK2;obtain rfl:kv2=kv':=by rw [hsl] at hsl2;exact (Option.some.inj hsl2).symm
 obtain ⟨bb,off,c,hix,hl,hc,hcc⟩:=RL.ix hK2 (i:=j) (by omega) (by omega);obtain rfl:c=_:=hc;simp only [hix,SSd,Nat.reduceAdd];refine rdC (hcc I' L' (Ext.refl _) (fun _ h=>h) 0 _ rfl) (Ext.refl _) ?_;have hij:i+j < sp.rows.length:=by omega
 have hkey:Dh ((keysOf sp.rows).drop i) (j:Int)=sp.rows[i+j].key:=by
  rw [Aq (by omega)];simp [keysOf]
 rw [hkey];have hd:(sp.rows.drop i).drop j=sp.rows[i+j]::(sp.rows.drop i).drop (j+1):=by
  rw [List.drop_drop,List.drop_drop,←Nat.add_assoc];exact List.drop_eq_getElem_cons hij
 have hmem:sp.rows[i+j]∈sp.rows.drop i:=by
  have:sp.rows[i+j]∈(sp.rows.drop i).drop j:=by rw [hd];exact List.mem_cons_self ..
  exact List.mem_of_mem_drop this
 have hsd:SrtK (keysOf (sp.rows[i+j]::(sp.rows.drop i).drop (j+1))):=by
  rw [←hd];exact SrtK.sub hs ((List.drop_sublist ..).trans (List.drop_sublist ..))
 rw [hd] at hj;have hg:=hge _ hmem;have e0:sp.rows=sp.rows.take (i+j)++sp.rows[i+j]::sp.rows.drop (i+j+1):=by rw [←List.drop_eq_getElem_cons hij,List.take_append_drop]
 generalize sp.rows[i+j]=r at *;have hrow:rowOf sp.rows r.key=some r:=by
  have hm:Mid (sp.rows.take (i+j)) r.key (sp.rows.drop (i+j+1)):=SrtK.mid (e0 ▸ hs);conv=>lhs;rw [e0]
  exact Cj hm rfl
 have hrm:r∈sp.rows:=List.mem_of_mem_drop hmem;refine rdC (hqp' 1 _ rfl) (Ext.refl _) ?_;simp only [Bytes.len hB1',SSd,Nat.reduceAdd];have fin:∀(hin:inB p r.key=true),Rv none (AD (.pointer (some ⟨qs,0,none⟩))) (fun v28=>Pv (AO v28) fun v29=>Pv (AA 0 v29) fun v30=>Rv none (AD v30) fun v31=>Rv none (lkR .string (.pointer none) false v31 (BR r.key)) fun v32=>
   CW ω yv #[BR r.key,v32]<|gh fun v33=>Pv (unV .not v33) fun v34=>Br v34 (Gh (K (.tuple #[]))) (Pv (AB .add (.int .i64 j) (.int .i64 1)) fun v35=>
    (fun s'=>Gh fun I2 L2=>∃m',m' < n∧∃j:Nat,m'+j=sp.rows.length - i∧s'=(.int .i64 j,())∧J (inR p ((sp.rows.drop i).drop j)) I2 L2) (v35,()))) I' L':=by
  intro hin;refine rdC hqs' (Ext.refl _) ?_;try simp only [SSd,Nat.reduceAdd]
  refine rdC (hV'.head 0 _ rfl) (Ext.refl _) ?_;refine ⟨_,GV hV'.at' hV'.map,?_⟩;obtain ⟨h1,h2⟩|⟨r',q,h1,h2,h3,h4⟩:=hV'.look hs r.key
  ·rw [hrow] at h1;cases h1
  obtain rfl:r'=r:=by rw [hrow] at h1;exact (Option.some.inj h1).symm
  rw [h2];simp only [lkV,Bool.false_eq_true,if_false];have hj':J (r'::inR p ((sp.rows.drop i).drop (j+1))) I' L':=by
   rw [show inR p (r'::(sp.rows.drop i).drop (j+1))=r'::inR p ((sp.rows.drop i).drop (j+1)) by simp [inR,hin]] at hj;exact hj
  refine CalV.mono (hstep r' _ I' L' q hj' hrow h2) (fun v I2 L2 hh=>Gh.mono hh fun I2 L2 h=>?_);clear hh;rcases h with ⟨rfl,h⟩|⟨rfl,h⟩
  ·simp only [SSd,Nat.reduceAdd,Bool.not_true];rw [wrap_i64 _ (by omega)];exact Gh.done ⟨n - 1,by omega,j+1,by omega,rfl,h⟩
  ·simp only [SSd,Nat.reduceAdd,Bool.not_false];exact Gh.done (hk _ _ h)
 refine AG (fun e2=>?_) (fun e2=>?_)
 ·simp at e2;refine rdC (hqp' 1 _ rfl) (Ext.refl _) ?_;refine Gq hB1' (Ext.refl _) ?_;simp only [sGe,SSd,Nat.reduceAdd];refine AG (fun e3=>?_) (fun e3=>?_)
  ·have hlt:blt r.key p.fTo=true:=by simpa using e3
   exact fin (by simp [inB,hg,hlt])
  ·have hlt:blt r.key p.fTo=false:=by simpa using e3
   rw [AFD hsd (fun e=>by rw [e] at e2;exact absurd e2 (by simp)) hlt] at hj;exact Gh.done (hk _ _ (hend _ _ hj))
 ·simp at e2;exact fin (by simp [inB,hg,e2])
theorem OH {b:Nat}{v0 v1:Value}(hk:∀qs qp,K (.func (.func 229) #[] #[pt qs,pt qp]) I ((qp,.cells #[v0,v1] 31 (0,0))::(qs,.cells #[pt b] 99 (0,0))::L)):
  CT ω 177 #[pt b,.agg #[v0,v1]] K I L:=by
 refine AMT ?_;unfold ACb;exact AV (fun qs=>AV (fun qp=>Gh.done (hk qs qp)))
theorem AEO {qs qp:Nat}{B:Value→Value→RB}{Kn:Nat→M}{Xs:Nat→List (Nat×M)}{Rr:Nat→M}
  (h:∀(l D:Nat) (Lo:LoF),(∀a b K' I' L',AJY l Lo (B a b) K' I' L'→CW ω (.func (.yield l) #[] #[]) #[a,b] K' I' L')→
   CT ω 229 #[.func (.yield l) #[] #[],pt qs,pt qp] (fun _=>Gh (UW l Lo (LP (Kn D) (Xs D) (Rr D)))) I ((l,Lo .ready none)::(D,.deferred (some []))::L)):
  QX Tryz.prog ω (.func (.func 229) #[] #[pt qs,pt qp]) B Kn Xs Rr I L:=by
 unfold QX PG;simp only
 rw [if_pos (show Bh Tryz.prog 229=true by kernel_rfl)];intro l D Lo _ hy;exact h l D Lo (fun a b K' I' L' hh=>hy [a,b] K' I' L' rfl hh)
end
section
variable {ω:Om}{I:Imm}{L:LH}{K:Value→M}
theorem Vo {X:LH}{v:Value}{cells:List Value}{len:Nat}(h:SlO 113 2 X v cells len)(hk:∀a',(∀I',SlI I' 2 v cells len→SlI I' 2 (.slice a' len len) cells len)→K (.slice a' len len) I L):CT ω 215 #[v] K I L:=by
 refine ALy ?_;unfold ABl;obtain ⟨a,cap,rfl⟩:=h.form;have hle:len≤cap:=by
  rcases h.2 with ⟨_,h0,a',e⟩|⟨b,cap',cs,_,e,_,hle,_⟩
  ·omega
  ·cases e;exact hle
 have s1:Ao 2 (.slice a len cap) none (some (.int .i64 len)) (some (.int .i64 len))=some (.slice (if len=0 then a else a.map (·.add (0 * 2))) len len):=by
  simp only [Ao,Option.isNone_some,Bool.false_and,Bool.false_eq_true,if_false,BD _ _ _ _ hle,BD _ _ _ _ (Nat.le_refl _),Option.bind_some,AOf,Nat.sub_zero]
 simp only [s1,SSd,Nat.reduceAdd];refine Gh.done (hk _ fun I' ⟨h1,a',cap',e,h2,h3⟩=>⟨h1,_,len,rfl,Nat.le_refl _,fun h0=>?_⟩);obtain ⟨b,off,cs,T,fr,h4,hm,hcs⟩:=h3 h0;cases e
 subst h4;exact ⟨b,off,cs,T,fr,by rw [if_neg h0];simp [Ba],hm,hcs⟩
theorem AJh {b4 b8 len cap T4 T8:Nat}{a:Option Addr}{most:Int}{Nk:M}{Xk:Nat→M}[h8:InL b8 L (.cells #[.slice a len cap] T8 (0,0))][h4:InL b4 L (.cells #[.int .i64 most] T4 (0,0))](hx:(len:Int)=most→Xk 1 I L)(hn:¬(len:Int)=most→Nk I L):
  sh152_2 ω (.pointer (some ⟨b4,0,none⟩)) (.pointer (some ⟨b8,0,none⟩)) Nk Xk K I L:=by
 unfold sh152_2;refine rd1 (Cell.own h8.mem rfl) ?_;try simp only [SSd,Nat.reduceAdd]
 refine rd1 (Cell.own h4.mem rfl) ?_;try simp only [SSd,Nat.reduceAdd]
 refine AC (fun e=>hx (by simpa using e)) (fun e=>hn (by simpa using e))
theorem Yj {b:Nat}{sp:Sp}{p:TSpan}{pc:List Value}{m:TStamp}{txn most:Int}(hV:AAG I L b sp)(hs:SrtK (keysOf sp.rows))(hlen:sp.rows.length≤1000000000)(hvs:∀r∈sp.rows,r.vs.length≤1000000000)(hp:TSpanV I p pc)
  (hk:∀I' v,Ext I I'→RL TKVV 2 I' [] v (Do sp p m txn most).1→K (.tuple #[v,.int .i64 (Do sp p m txn most).2.1,.int .i64 (Do sp p m txn most).2.2]) I' L):
  CT ω 152 #[pt b,.agg pc.toArray,sv m,.int .i64 txn,.int .i64 most] K I L:=by
 obtain ⟨v0,v1,rfl,hb0,hb1⟩:=hp;refine AMe ?_;unfold sh152;refine AV (fun b1=>AV (fun b2=>AV (fun b3=>AV (fun b4=>AV (fun b5=>AV (fun b6=>AV (fun b7=>?_)))))));refine rdB rfl ?_;refine rdb ?_;refine call (Of ?_);have main:∀t:Bool,(t=true→(AU m&&BW txn)=false∨most < 1)→(t=false→¬((AU m&&BW txn)=false∨most < 1))→
   sh152_1 ω (pt b) (pt b1) (pt b2) (pt b3) (pt b4) (pt b5) (pt b6) (pt b7) (.bool t) (fun v=>Gh (K v)) I
    ((b7,.cells #[.int .i64 0] 26 (0,0))::(b6,.cells #[.int .i64 0] 3 (0,0))::(b5,.cells #[.slice none 0 0] 50 (0,0))::(b4,.cells #[.int .i64 most] 3 (0,0))::(b3,.cells #[.int .i64 txn] 3 (0,0))::(b2,Obj.cells #[.int .i64 m.fWall,.int .i64 m.fLogic] 41 (0,0))::(b1,Obj.cells #[v0,v1] 31 (0,0))::L):=by
  intro t ht hf;unfold sh152_1;refine AC (fun e=>?_) (fun e=>?_)
  ·have eg:Do sp p m txn most=([],0,1):=by unfold Do;rw [if_pos (ht e)]
   rw [eg] at hk;repeat' (first|(with_reducible first|refine AZ ?_|refine Aa ?_|refine Ac ?_|refine keepA ?_|refine AV (fun _=>?_)|refine rdb ?_)|((with_reducible first|refine st1 ?_ ?_|refine rdB ?_ ?_);rfl)|(with_reducible refine Ah ?_)|((with_reducible refine Ai ?_ ?_);rfl)|((with_reducible refine stB ?_ ?_ ?_ ?_);rfl;rfl;exact AK rfl)|((with_reducible first|refine rdP _ rfl ?_ ?_|refine As _ rfl ?_ ?_);rfl)|((with_reducible refine stP _ rfl ?_ ?_ ?_ ?_);rfl;rfl;rfl)|(with_reducible first|refine AW (sh152_2.eq_1 ..) ?_|refine AW (sh152_4.eq_1 ..) ?_|refine AW (sh152_1.eq_1 ..) ?_|refine AW (sh152.eq_1 ..) ?_|refine And.intro ?_ ?_)|(simp only [SSg,Int.reduceBEq,Int.reduceBNe,Int.reduceLT,Int.reduceLE,beq_self_eq_true,bne_self_eq_false])|(with_reducible first|refine AG (fun _=>?_) (fun _=>?_)|refine AC (fun _=>?_) (fun _=>?_))|(simp only [SSd,Nat.reduceAdd]))
   exact Gh.to L (Gh.done (hk I _ (Ext.refl _) (RL.nil _ _)))
  ·have hf':=hf e;obtain ⟨mm,kv,es,clock,ps,hV⟩:=hV;have hc2:Cells I L b 2 [.int .i64 sp.floor.fWall,.int .i64 sp.floor.fLogic]:=by simpa using hV.head.sub (k:=2) (m:=2)
   refine AZ ?_;try simp only [SSd,Nat.reduceAdd]
   refine Gl hc2 (Ext.refl _) rfl ?_;refine Ai rfl ?_;refine call (BE ?_);refine AC (fun e2=>?_) (fun e2=>?_)
   ·have eg:Do sp p m txn most=([],0,131):=by unfold Do;rw [if_neg hf',if_pos e2]
    rw [eg] at hk;repeat' (first|(with_reducible first|refine AZ ?_|refine Aa ?_|refine Ac ?_|refine keepA ?_|refine AV (fun _=>?_)|refine rdb ?_)|((with_reducible first|refine st1 ?_ ?_|refine rdB ?_ ?_);rfl)|(with_reducible refine Ah ?_)|((with_reducible refine Ai ?_ ?_);rfl)|((with_reducible refine stB ?_ ?_ ?_ ?_);rfl;rfl;exact AK rfl)|((with_reducible first|refine rdP _ rfl ?_ ?_|refine As _ rfl ?_ ?_);rfl)|((with_reducible refine stP _ rfl ?_ ?_ ?_ ?_);rfl;rfl;rfl)|(with_reducible first|refine AW (sh152_2.eq_1 ..) ?_|refine AW (sh152_4.eq_1 ..) ?_|refine AW (sh152_1.eq_1 ..) ?_|refine AW (sh152.eq_1 ..) ?_|refine And.intro ?_ ?_)|(simp only [SSg,Int.reduceBEq,Int.reduceBNe,Int.reduceLT,Int.reduceLE,beq_self_eq_true,bne_self_eq_false])|(with_reducible first|refine AG (fun _=>?_) (fun _=>?_)|refine AC (fun _=>?_) (fun _=>?_))|(simp only [SSd,Nat.reduceAdd]))
    exact Gh.to L (Gh.done (hk I _ (Ext.refl _) (RL.nil _ _)))
   ·have eg:Do sp p m txn most=FT m txn most (inR p sp.rows) []:=by unfold Do;rw [if_neg hf',if_neg (by simp [e2])]
    rw [eg] at hk;refine AV (fun b8=>?_);refine rdB rfl ?_;refine call (OH (fun qs qp=>?_));refine AEO (fun l D Lo hy=>?_);have hfin:∀(s:LoopState) (j:Option Code) (hs:s≠.busy) (hj:j=none∨j=some (.exit 1)) (I2:Imm) (XO:LH) (vo:Value) (acc:List TKV) (cells:List Value),Ext I I2→SlO 113 2 XO vo cells acc.length→Recs (TKVV I2) 2 acc cells→FT m txn most (inR p sp.rows) []=(acc,0,0)→
      UW l Lo (LP (sh152_4 ω (pt b5) (pt b6) (pt b7) (.pointer (some ⟨b8,0,none⟩)) D fun v=>Gh (K v)) [(1,sh152_4 ω (pt b5) (pt b6) (pt b7) (.pointer (some ⟨b8,0,none⟩)) D fun v=>Gh (K v))]
       (Tak D (Rv none (AD (pt b5)) fun v20=>Rv none (AD (pt b6)) fun v21=>Rv none (AD (pt b7)) fun v22=>Gh (K (.tuple #[v20,v21,v22]))))) I2
       ((l,Lo s j)::(D,.deferred (some []))::(qp,.cells #[v0,v1] 31 (0,0))::(qs,.cells #[pt b] 99 (0,0))::(b8,.cells #[vo] 50 (0,0))::(b7,.cells #[.int .i64 0] 26 (0,0))::(b6,.cells #[.int .i64 0] 3 (0,0))::(b5,.cells #[.slice none 0 0] 50 (0,0))::(b4,.cells #[.int .i64 most] 3 (0,0))::(b3,.cells #[.int .i64 txn] 3 (0,0))::(b2,Obj.cells #[.int .i64 m.fWall,.int .i64 m.fLogic] 41 (0,0))::(b1,Obj.cells #[v0,v1] 31 (0,0))::(XO++L)):=by
     intro s j hs hj I2 XO vo acc cells hI2 hO hR hsc;refine Rt (s:=s) (j:=j) hs ?_;have body:sh152_4 ω (pt b5) (pt b6) (pt b7) (.pointer (some ⟨b8,0,none⟩)) D (fun v=>Gh (K v)) I2
       ((D,.deferred (some []))::(qp,.cells #[v0,v1] 31 (0,0))::(qs,.cells #[pt b] 99 (0,0))::(b8,.cells #[vo] 50 (0,0))::(b7,.cells #[.int .i64 0] 26 (0,0))::(b6,.cells #[.int .i64 0] 3 (0,0))::(b5,.cells #[.slice none 0 0] 50 (0,0))::(b4,.cells #[.int .i64 most] 3 (0,0))::(b3,.cells #[.int .i64 txn] 3 (0,0))::(b2,Obj.cells #[.int .i64 m.fWall,.int .i64 m.fLogic] 41 (0,0))::(b1,Obj.cells #[v0,v1] 31 (0,0))::(XO++L)):=by
      unfold sh152_4;refine rdb ?_;refine call (Vo hO (fun v' hv'=>?_));refine st1 rfl ?_;refine st1 rfl ?_;refine st1 rfl ?_;refine tak ?_;refine rdb (rdb (rdb ?_));refine Gh.to (XO++L) (SlO.freeze hO (fun I3 hI3 hSl=>Gh.done ?_));rw [hsc] at hk;exact hk I3 _ (hI2.trans hI3) (RL.ofI (hv' _ hSl) (hR.imp fun x c h=>h.mono hI3))
     rcases hj with rfl|rfl
     ·exact body
     ·exact body
    refine Rj (J:=fun rs I' L'=>Ext I I'∧∃XO vo acc cells,L'=(l,Lo .ready none)::(D,.deferred (some []))::(qp,.cells #[v0,v1] 31 (0,0))::(qs,.cells #[pt b] 99 (0,0))::(b8,.cells #[vo] 50 (0,0))::(b7,.cells #[.int .i64 0] 26 (0,0))::(b6,.cells #[.int .i64 0] 3 (0,0))::(b5,.cells #[.slice none 0 0] 50 (0,0))::(b4,.cells #[.int .i64 most] 3 (0,0))::(b3,.cells #[.int .i64 txn] 3 (0,0))::(b2,Obj.cells #[.int .i64 m.fWall,.int .i64 m.fLogic] 41 (0,0))::(b1,Obj.cells #[v0,v1] 31 (0,0))::(XO++L)∧
      SlO 113 2 XO vo cells acc.length∧Recs (TKVV I') 2 acc cells∧acc.length+rs.length≤1000000000∧FT m txn most rs acc=FT m txn most (inR p sp.rows) []) (Post:=UW l Lo (LP (sh152_4 ω (pt b5) (pt b6) (pt b7) (.pointer (some ⟨b8,0,none⟩)) D fun v=>Gh (K v)) [(1,sh152_4 ω (pt b5) (pt b6) (pt b7) (.pointer (some ⟨b8,0,none⟩)) D fun v=>Gh (K v))]
       (Tak D (Rv none (AD (pt b5)) fun v20=>Rv none (AD (pt b6)) fun v21=>Rv none (AD (pt b7)) fun v22=>Gh (K (.tuple #[v20,v21,v22])))))) (p:=p) (v0:=v0) (v1:=v1) (sp:=sp) (b:=b) (m:=mm) (kv:=kv) (es:=es) (clock:=clock) (ps:=ps) hs hlen ?_ ?_ ?_ ?_ (fun I' L' h=>Gh.done h)
    ·rintro rs I' L' ⟨hI,XO,vo,acc,cells,rfl,_⟩;exact ⟨hV.mono hI (fun x hx=>by simp [hx]),Cell.own (b:=qs) (cs:=#[pt b]) (T:=99) (fr:=(0,0)) (by simp) rfl,Dj (l:=[v0,v1]) (T:=31) (fr:=(0,0)) (by simp) 2,hb0.mono hI,hb1.mono hI⟩
    ·rintro r rs I' L' q ⟨hI,XO,vo,acc,cells,rfl,hO,hR,hlen2,hsc⟩ hrow hcl;have hC:=hV.cellAt hs hrow hcl;simp only [List.length_cons] at hlen2;refine hy _ _ _ _ _ (UY ?_);refine Vs ?_;refine rdB rfl ?_;refine rdb ?_;refine call (OS (hC.mono hI (fun x hx=>by simp [hx])) (hvs r (BL hrow)) (fun I2 g0 hI2 hg0=>?_));obtain ⟨ga,gc,rfl⟩:=Bytes.form hg0;try simp only [SSd,Nat.reduceAdd]
     refine AV (fun b9=>?_);refine stB rfl rfl (AK rfl) ?_;try simp only [SSd,Nat.reduceAdd]
     refine AC (fun e3=>?_) (fun e3=>?_)
     ·have e3':(seen r m txn).2≠0:=by simpa using e3
      simp only [FT] at hsc;rw [if_pos e3'] at hsc;refine Aa ?_;try simp only [SSd,Nat.reduceAdd]
      refine Ah ?_;refine st1 rfl ?_;refine FC (Ext.refl _) ?_;refine st1 rfl ?_;refine st1 rfl ?_;refine YA ?_;refine Gh.to ((l,Lo .done (some .ret))::(D,.deferred (some []))::(b7,.cells #[.int .i64 (seen r m txn).2] 26 (0,0))::(b6,.cells #[.int .i64 (seen r m txn).1.fBy] 3 (0,0))::(b5,.cells #[.slice none 0 0] 50 (0,0))::L) (Gh.done (.inr ⟨rfl,?_⟩));refine Rt (s:=.done) (j:=some .ret) (by simp) ?_;refine tak (rdb (rdb (rdb ?_)));rw [←hsc] at hk;exact Gh.to L (Gh.done (hk I2 _ (hI.trans hI2) (RL.nil _ _)))
     ·have e3':¬((seen r m txn).2≠0):=by simpa using e3
      simp only [FT] at hsc;rw [if_neg e3'] at hsc;try simp only [SSd,Nat.reduceAdd]
      refine rdb ?_;refine AC (fun e4=>?_) (fun e4=>?_)
      ·refine rdb ?_;refine ZX (fun ku I3 hI3 hKB=>Gh.done ?_);obtain ⟨ka,kc,rfl⟩:=Bytes.form hKB;refine rdb ?_;try simp only [SSd,Nat.reduceAdd]
       refine HB (R:=TKVV) (X6:=XO) (x:=⟨r.key,(seen r m txn).1.fValue⟩) rfl (by omega) hO (hR.imp fun x c h=>h.mono (hI2.trans hI3)) ⟨_,_,rfl,hKB,hg0.mono hI3⟩ rfl (AK rfl) (by omega) (by omega) (fun X1 X6 v6 cells6 h6 hR6=>?_);have hpush:push r (seen r m txn).1 acc=acc++[⟨r.key,(seen r m txn).1.fValue⟩]:=by unfold push;rw [if_pos e4]
       rw [hpush] at hsc;obtain ⟨a6,c6,rfl⟩:=h6.form;refine st1 rfl ?_;refine AJh (fun hm=>YA ?_) (fun hm=>Rq ?_)
       ·rw [if_pos hm] at hsc;refine Gh.to ((l,Lo .done (some (.exit 1)))::(D,.deferred (some []))::(qp,.cells #[v0,v1] 31 (0,0))::(qs,.cells #[pt b] 99 (0,0))::(b8,.cells #[.slice a6 (acc++[(⟨r.key,(seen r m txn).1.fValue⟩:TKV)]).length c6] 50 (0,0))::(b7,.cells #[.int .i64 0] 26 (0,0))::(b6,.cells #[.int .i64 0] 3 (0,0))::(b5,.cells #[.slice none 0 0] 50 (0,0))::(b4,.cells #[.int .i64 most] 3 (0,0))::(b3,.cells #[.int .i64 txn] 3 (0,0))::(b2,Obj.cells #[.int .i64 m.fWall,.int .i64 m.fLogic] 41 (0,0))::(b1,Obj.cells #[v0,v1] 31 (0,0))::(X6++L)) (Gh.done (.inr ⟨rfl,?_⟩));exact hfin .done (some (.exit 1)) (by simp) (.inr rfl) I3 X6 _ _ cells6 (hI.trans (hI2.trans hI3)) h6 hR6 hsc.symm
       ·rw [if_neg hm] at hsc;refine Gh.to ((l,Lo .ready none)::(D,.deferred (some []))::(qp,.cells #[v0,v1] 31 (0,0))::(qs,.cells #[pt b] 99 (0,0))::(b8,.cells #[.slice a6 (acc++[(⟨r.key,(seen r m txn).1.fValue⟩:TKV)]).length c6] 50 (0,0))::(b7,.cells #[.int .i64 0] 26 (0,0))::(b6,.cells #[.int .i64 0] 3 (0,0))::(b5,.cells #[.slice none 0 0] 50 (0,0))::(b4,.cells #[.int .i64 most] 3 (0,0))::(b3,.cells #[.int .i64 txn] 3 (0,0))::(b2,Obj.cells #[.int .i64 m.fWall,.int .i64 m.fLogic] 41 (0,0))::(b1,Obj.cells #[v0,v1] 31 (0,0))::(X6++L)) (Gh.done (.inl ⟨rfl,hI.trans (hI2.trans hI3),X6,_,_,cells6,rfl,h6,hR6,by simp;omega,hsc⟩))
      ·have hpush:push r (seen r m txn).1 acc=acc:=by unfold push;rw [if_neg (by simp [e4])]
       rw [hpush] at hsc;obtain ⟨a6,c6,rfl⟩:=hO.form;refine AJh (fun hm=>YA ?_) (fun hm=>Rq ?_)
       ·rw [if_pos hm] at hsc;refine Gh.to ((l,Lo .done (some (.exit 1)))::(D,.deferred (some []))::(qp,.cells #[v0,v1] 31 (0,0))::(qs,.cells #[pt b] 99 (0,0))::(b8,.cells #[.slice a6 acc.length c6] 50 (0,0))::(b7,.cells #[.int .i64 0] 26 (0,0))::(b6,.cells #[.int .i64 0] 3 (0,0))::(b5,.cells #[.slice none 0 0] 50 (0,0))::(b4,.cells #[.int .i64 most] 3 (0,0))::(b3,.cells #[.int .i64 txn] 3 (0,0))::(b2,Obj.cells #[.int .i64 m.fWall,.int .i64 m.fLogic] 41 (0,0))::(b1,Obj.cells #[v0,v1] 31 (0,0))::(XO++L)) (Gh.done (.inr ⟨rfl,?_⟩));exact hfin .done (some (.exit 1)) (by simp) (.inr rfl) I2 XO _ _ cells (hI.trans hI2) hO (hR.imp fun x c h=>h.mono hI2) hsc.symm
       ·rw [if_neg hm] at hsc;refine Gh.to ((l,Lo .ready none)::(D,.deferred (some []))::(qp,.cells #[v0,v1] 31 (0,0))::(qs,.cells #[pt b] 99 (0,0))::(b8,.cells #[.slice a6 acc.length c6] 50 (0,0))::(b7,.cells #[.int .i64 0] 26 (0,0))::(b6,.cells #[.int .i64 0] 3 (0,0))::(b5,.cells #[.slice none 0 0] 50 (0,0))::(b4,.cells #[.int .i64 most] 3 (0,0))::(b3,.cells #[.int .i64 txn] 3 (0,0))::(b2,Obj.cells #[.int .i64 m.fWall,.int .i64 m.fLogic] 41 (0,0))::(b1,Obj.cells #[v0,v1] 31 (0,0))::(XO++L)) (Gh.done (.inl ⟨rfl,hI.trans hI2,XO,_,_,cells,rfl,hO,hR.imp fun x c h=>h.mono hI2,by omega,hsc⟩))
    ·rintro I' L' ⟨hI,XO,vo,acc,cells,rfl,hO,hR,hlen2,hsc⟩;exact hfin .ready none (by simp) (.inl rfl) I' XO vo acc cells hI hO hR hsc.symm
    ·refine ⟨Ext.refl _,[],_,[],[],rfl,SlO.none _ _,rfl,?_,rfl⟩;have:=List.length_filter_le (fun r:Row=>inB p r.key) sp.rows;simp [inR];omega
 cases hq:(AU m&&BW txn) with
 |false=>
  simp only [Bool.not_false,SSd,Nat.reduceAdd];exact main true (fun _=>.inl hq) (by simp)
 |true=>
  simp only [Bool.not_true,SSd,Nat.reduceAdd];refine rdb ?_;try simp only [SSd,Nat.reduceAdd]
  exact main _ (fun h=>.inr (by simpa using h)) (fun h=>by rw [hq];simpa using h)
theorem OX {L0:LH}[LSub L0 L]{q b2 b3:Nat}{r:Row}{a b:TStamp}{X Nk:M}[h2:InL b2 L (.cells #[.int .i64 a.fWall,.int .i64 a.fLogic] 41 (0,0))][h3:InL b3 L (.cells #[.int .i64 b.fWall,.int .i64 b.fLogic] 41 (0,0))]
  (hC:CellV I L0 q r) (hlen:r.vs.length≤1000000000) (hx:Xu a b r.vs=true→X I L) (hn:Xu a b r.vs=false→Nk I L):
  (Rv none (AH 2 (.pointer (some ⟨b3,0,none⟩))) fun v=>CT ω 221 #[pt q,v]<|gh fun w=>Ad fun S=>Pv (BZ .neq w (.pointer none)) fun x=>Gd x true (Pv (AO w) fun y=>Pv (AA 0 y) fun z=>Rv (some S) (AH 2 z) fun z2=>Rv (some S) (AH 2 (.pointer (some ⟨b2,0,none⟩))) fun z3=>
   CT ω 213 #[z2,z3]<|gh fun z4=>Br z4 X Nk) Nk) I L:=by
 refine rdN (vs:=[.int .i64 b.fWall,.int .i64 b.fLogic]) rfl (fun j u hu=>Cell.own h3.mem (by simpa using hu)) ?_;refine call (AJd hC hlen (fun pv hpv=>?_));refine AZ ?_;unfold Xu at hx hn;cases hu:upTo r.vs b with
 |none=>
  rw [hu] at hpv hx hn;obtain rfl:pv= .pointer none:=hpv;have e:BZ .neq (.pointer none) (.pointer none)=some (.bool false):=rfl;simp only [e,SSd,Nat.reduceAdd];exact hn rfl
 |some v=>
  rw [hu] at hpv hx hn;obtain ⟨qq,off,rfl,hc⟩:=hpv;obtain ⟨g1,_,_⟩:=PN hc;try simp only [SSd,Nat.reduceAdd]
  refine Gl g1 (Ext.refl _) rfl ?_;refine VG (vs:=[.int .i64 a.fWall,.int .i64 a.fLogic]) rfl (fun I' L' hS j u hu=>Cell.own (hS.2 _ h2.mem) (by simpa using hu)) ?_;refine call (BE (x:=v.fAt) (y:=a) ?_);exact AC (fun e=>hx e) (fun e=>hn e)
abbrev AFX (b b1 b2 b3 b4 b5 b6 qs qp D:Nat)(v0 v1:Value)(fr to:TStamp)(txn:Int)(v5 v6:Value)(L:LH):LH:=
 (D,.deferred (some []))::(qp,.cells #[v0,v1] 31 (0,0))::(qs,.cells #[pt b] 99 (0,0))::(b6,.cells #[v6] 26 (0,0))::(b5,.cells #[v5] 4 (0,0))::(b4,.cells #[.int .i64 txn] 3 (0,0))::(b3,.cells #[.int .i64 to.fWall,.int .i64 to.fLogic] 41 (0,0))::(b2,.cells #[.int .i64 fr.fWall,.int .i64 fr.fLogic] 41 (0,0))::(b1,.cells #[v0,v1] 31 (0,0))::L
theorem Rz {b:Nat}{sp:Sp}{p:TSpan}{pc:List Value}{fr to:TStamp}{txn:Int}(hV:AAG I L b sp)(hs:SrtK (keysOf sp.rows))(hlen:sp.rows.length≤1000000000)(hvs:∀r∈sp.rows,r.vs.length≤1000000000)(hp:TSpanV I p pc)
  (hk:K (.tuple #[.bool (chF sp p fr to txn).1,.int .i64 (chF sp p fr to txn).2]) I L):
  CT ω 159 #[pt b,.agg pc.toArray,sv fr,sv to,.int .i64 txn] K I L:=by
 obtain ⟨v0,v1,rfl,hb0,hb1⟩:=hp;refine AMX ?_;unfold sh159;refine AV (fun b1=>AV (fun b2=>AV (fun b3=>AV (fun b4=>AV (fun b5=>AV (fun b6=>?_))))));refine rdB rfl ?_;refine rdb ?_;refine call (Of ?_);have main:∀t:Bool,(t=true→(AU fr&&BW txn)=false∨AU to=false)→(t=false→¬((AU fr&&BW txn)=false∨AU to=false))→
   sh159_1 ω (pt b) (pt b1) (pt b2) (pt b3) (pt b4) (pt b5) (pt b6) (.bool t) (fun v=>Gh (K v)) I
    ((b6,.cells #[.int .i64 0] 26 (0,0))::(b5,.cells #[.bool false] 4 (0,0))::(b4,.cells #[.int .i64 txn] 3 (0,0))::(b3,.cells #[.int .i64 to.fWall,.int .i64 to.fLogic] 41 (0,0))::(b2,.cells #[.int .i64 fr.fWall,.int .i64 fr.fLogic] 41 (0,0))::(b1,.cells #[v0,v1] 31 (0,0))::L):=by
  intro t ht hf;unfold sh159_1;refine AC (fun e=>?_) (fun e=>?_)
  ·have eg:chF sp p fr to txn=(false,1):=by unfold chF;rw [if_pos (ht e)]
   rw [eg] at hk;repeat' (first|(with_reducible first|refine AZ ?_|refine Aa ?_|refine Ac ?_|refine keepA ?_|refine AV (fun _=>?_)|refine rdb ?_)|((with_reducible first|refine st1 ?_ ?_|refine rdB ?_ ?_);rfl)|(with_reducible refine Ah ?_)|((with_reducible refine Ai ?_ ?_);rfl)|((with_reducible refine stB ?_ ?_ ?_ ?_);rfl;rfl;exact AK rfl)|((with_reducible first|refine rdP _ rfl ?_ ?_|refine As _ rfl ?_ ?_);rfl)|((with_reducible refine stP _ rfl ?_ ?_ ?_ ?_);rfl;rfl;rfl)|(with_reducible first|refine AW (sh159_2.eq_1 ..) ?_|refine AW (sh159_3.eq_1 ..) ?_|refine AW (sh159_5.eq_1 ..) ?_|refine AW (sh159_1.eq_1 ..) ?_|refine AW (sh159.eq_1 ..) ?_|refine And.intro ?_ ?_)|(simp only [SSg,Int.reduceBEq,Int.reduceBNe,Int.reduceLT,Int.reduceLE,beq_self_eq_true,bne_self_eq_false])|(with_reducible first|refine AG (fun _=>?_) (fun _=>?_)|refine AC (fun _=>?_) (fun _=>?_))|(simp only [SSd,Nat.reduceAdd]))
   exact Gh.to L (Gh.done hk)
  ·have hf':=hf e;obtain ⟨mm,kv,es,clock,ps,hV⟩:=hV;have hc2:Cells I L b 2 [.int .i64 sp.floor.fWall,.int .i64 sp.floor.fLogic]:=by simpa using hV.head.sub (k:=2) (m:=2)
   refine AZ ?_;try simp only [SSd,Nat.reduceAdd]
   refine Gl hc2 (Ext.refl _) rfl ?_;refine Ai rfl ?_;refine call (BE ?_);refine AC (fun e2=>?_) (fun e2=>?_)
   ·have eg:chF sp p fr to txn=(false,131):=by unfold chF;rw [if_neg hf',if_pos e2]
    rw [eg] at hk;repeat' (first|(with_reducible first|refine AZ ?_|refine Aa ?_|refine Ac ?_|refine keepA ?_|refine AV (fun _=>?_)|refine rdb ?_)|((with_reducible first|refine st1 ?_ ?_|refine rdB ?_ ?_);rfl)|(with_reducible refine Ah ?_)|((with_reducible refine Ai ?_ ?_);rfl)|((with_reducible refine stB ?_ ?_ ?_ ?_);rfl;rfl;exact AK rfl)|((with_reducible first|refine rdP _ rfl ?_ ?_|refine As _ rfl ?_ ?_);rfl)|((with_reducible refine stP _ rfl ?_ ?_ ?_ ?_);rfl;rfl;rfl)|(with_reducible first|refine AW (sh159_2.eq_1 ..) ?_|refine AW (sh159_3.eq_1 ..) ?_|refine AW (sh159_5.eq_1 ..) ?_|refine AW (sh159_1.eq_1 ..) ?_|refine AW (sh159.eq_1 ..) ?_|refine And.intro ?_ ?_)|(simp only [SSg,Int.reduceBEq,Int.reduceBNe,Int.reduceLT,Int.reduceLE,beq_self_eq_true,bne_self_eq_false])|(with_reducible first|refine AG (fun _=>?_) (fun _=>?_)|refine AC (fun _=>?_) (fun _=>?_))|(simp only [SSd,Nat.reduceAdd]))
    exact Gh.to L (Gh.done hk)
   ·have eg:chF sp p fr to txn=((inR p sp.rows).any (chR fr to txn),0):=by unfold chF;rw [if_neg hf',if_neg (by simp [e2])]
    rw [eg] at hk;refine rdB rfl ?_;refine call (OH (fun qs qp=>?_));refine AEO (fun l D Lo hy=>?_);refine Rj (J:=fun rs I' L'=>I'=I∧L'=(l,Lo .ready none)::AFX b b1 b2 b3 b4 b5 b6 qs qp D v0 v1 fr to txn (.bool false) (.int .i64 0) L∧rs.any (chR fr to txn)=(inR p sp.rows).any (chR fr to txn)) (p:=p) (v0:=v0) (v1:=v1) (sp:=sp) (b:=b) (m:=mm) (kv:=kv) (es:=es) (clock:=clock) (ps:=ps) (Post:=_) hs hlen ?_ ?_ ?_ ⟨rfl,rfl,rfl⟩ (fun I' L' h=>Gh.done h)
    ·rintro rs I' L' ⟨rfl,rfl,_⟩;exact ⟨hV.mono (Ext.refl _) (fun x hx=>by simp [hx]),Cell.own (b:=qs) (cs:=#[pt b]) (T:=99) (fr:=(0,0)) (by simp) rfl,Dj (l:=[v0,v1]) (T:=31) (fr:=(0,0)) (by simp) 2,hb0,hb1⟩
    ·rintro r rs I' L' q ⟨rfl,rfl,hA⟩ hrow hcl;have hC:=hV.cellAt hs hrow hcl;obtain ⟨sl,hCC,hVs⟩:=hC;have hC:=hV.cellAt hs hrow hcl;obtain ⟨c0,c1,c14,c3,c4,c5,_⟩:=itC hCC;have hl:=hvs r (BL hrow);rw [List.any_cons] at hA;refine hy _ _ _ _ _ (UY ?_);refine Vs ?_;have yes:∀(sh:chR fr to txn r=true),sh159_3 ω (pt b5) (pt b6) (Ol l Lo (some .ret) (fun v=>Gh fun I2 L2=>(v= .bool true∧I2=I'∧L2=(l,Lo .ready none)::AFX b b1 b2 b3 b4 b5 b6 qs qp D v0 v1 fr to txn (.bool false) (.int .i64 0) L∧rs.any (chR fr to txn)=(inR p sp.rows).any (chR fr to txn))∨(v= .bool false∧UW l Lo (LP (sh159_5 ω (pt b5) (pt b6) D fun v=>Gh (K v)) [] (Tak D (Rv none (AD (pt b5)) fun v65=>Rv none (AD (pt b6)) fun v66=>Gh (K (.tuple #[v65,v66]))))) I2 L2))) (fun v=>Gh (K v)) I' ((l,Lo .busy none)::AFX b b1 b2 b3 b4 b5 b6 qs qp D v0 v1 fr to txn (.bool false) (.int .i64 0) L):=by
      intro sh;rw [sh,Bool.true_or] at hA;rw [←hA] at hk;unfold sh159_3;refine st1 rfl ?_;refine st1 rfl ?_;refine YA ?_;refine Gh.done (.inr ⟨rfl,?_⟩);refine Rt (s:=.done) (j:=some .ret) (by simp) ?_;refine tak (rdb (rdb ?_));exact Gh.to L (Gh.done hk)
     have no:∀(sh:chR fr to txn r=false),Ol l Lo none (fun v=>Gh fun I2 L2=>(v= .bool true∧I2=I'∧L2=(l,Lo .ready none)::AFX b b1 b2 b3 b4 b5 b6 qs qp D v0 v1 fr to txn (.bool false) (.int .i64 0) L∧rs.any (chR fr to txn)=(inR p sp.rows).any (chR fr to txn))∨(v= .bool false∧UW l Lo (LP (sh159_5 ω (pt b5) (pt b6) D fun v=>Gh (K v)) [] (Tak D (Rv none (AD (pt b5)) fun v65=>Rv none (AD (pt b6)) fun v66=>Gh (K (.tuple #[v65,v66]))))) I2 L2)) I' ((l,Lo .busy none)::AFX b b1 b2 b3 b4 b5 b6 qs qp D v0 v1 fr to txn (.bool false) (.int .i64 0) L):=by
      intro sh;rw [sh,Bool.false_or] at hA;exact Rq (Gh.done (.inl ⟨rfl,rfl,rfl,hA⟩))
     refine AZ ?_;try simp only [SSd,Nat.reduceAdd]
     refine CQ c5 (Ext.refl _) ?_;try simp only [SSd,Nat.reduceAdd]
     refine AG (fun e3=>?_) (fun e3=>?_)
     ·refine CQ c5 (Ext.refl _) ?_;refine Ah ?_;try simp only [SSd,Nat.reduceAdd]
      refine AG (fun e4=>?_) (fun e4=>?_)
      ·refine Gl c1 (Ext.refl _) rfl ?_;refine Ai rfl ?_;refine call (BE (x:=r.it.ver.fAt) (y:=to) ?_);try simp only [SSd,Nat.reduceAdd]
       refine AC (fun e5=>?_) (fun e5=>?_)
       ·exact yes (by simp only [chR];rw [e3,e4,e5];rfl)
       ·exact OX (L0:=L) hC hl (fun h=>yes (by simp only [chR];rw [h,Bool.or_true])) (fun h=>no (by simp only [chR];rw [h,e5];simp))
      ·exact OX (L0:=L) hC hl (fun h=>yes (by simp only [chR];rw [h,Bool.or_true])) (fun h=>no (by simp only [chR];rw [h,Bool.eq_false_iff.2 e4];simp))
     ·exact OX (L0:=L) hC hl (fun h=>yes (by simp only [chR];rw [h,Bool.or_true])) (fun h=>no (by simp only [chR];rw [h,Bool.eq_false_iff.2 e3];simp))
    ·rintro I' L' ⟨rfl,rfl,hA⟩;refine Rt (s:=.ready) (j:=none) (by simp) ?_;show sh159_5 ω (pt b5) (pt b6) D (fun v=>Gh (K v)) _ _;unfold sh159_5;refine st1 rfl ?_;refine st1 rfl ?_;refine tak (rdb (rdb ?_));rw [←hA] at hk;exact Gh.to L (Gh.done hk)
 cases hq:(AU fr&&BW txn) with
 |false=>
  simp only [Bool.not_false,SSd,Nat.reduceAdd];exact main true (fun _=>.inl hq) (by simp)
 |true=>
  simp only [Bool.not_true,SSd,Nat.reduceAdd];refine rdB rfl ?_;refine call (BS ?_);try simp only [SSd,Nat.reduceAdd]
  exact main _ (fun h=>.inr (by simpa using h)) (fun h=>by rw [hq];simpa using h)
end
section
variable {ω:Om}{I:Imm}{L:LH}{K:Value→M}
theorem AIx (rows:List Row):inR ⟨[],[]⟩ rows=rows:=by
 unfold inR;exact List.filter_eq_self.2 fun r _=>by simp [inB,YG]
abbrev ALM (b b1 qs qp D:Nat)(vo:Value)(XO L:LH):LH:=(D,.deferred (some []))::(qp,.cells #[.slice none 0 0,.slice none 0 0] 31 (0,0))::(qs,.cells #[pt b] 99 (0,0))::(b1,.cells #[vo] 118 (0,0))::(XO++L)
theorem Ri {b:Nat}{sp:Sp}(hV:AAG I L b sp)(hs:SrtK (keysOf sp.rows))(hlen:sp.rows.length≤1000000000)(hk:∀I' v,Ext I I'→RL TIntentV 6 I' [] v (intsOf sp.rows)→K v I' L):
  CT ω 120 #[pt b] K I L:=by
 obtain ⟨mm,kv,es,clock,ps,hV⟩:=hV;have hz:∀I',Bytes I' (.slice none 0 0) []:=fun I'=>SlI.nil I' 1 none 0;refine AMy ?_;unfold ADc;refine AV (fun b1=>?_);try simp only [SSd,Nat.reduceAdd]
 refine call (OH (fun qs qp=>?_));refine AEO (fun l D Lo hy=>?_);refine Rj (J:=fun rs I' L'=>Ext I I'∧∃XO vo acc cells,L'=(l,Lo .ready none)::ALM b b1 qs qp D vo XO L∧SlO 190 6 XO vo cells acc.length∧Recs (TIntentV I') 6 acc cells∧acc.length+rs.length≤1000000000∧acc++intsOf rs=intsOf sp.rows) (p:=⟨[],[]⟩) (v0:=.slice none 0 0) (v1:=.slice none 0 0) (sp:=sp) (b:=b) (m:=mm) (kv:=kv) (es:=es) (clock:=clock) (ps:=ps) (Post:=_) hs hlen ?_ ?_ ?_ ?_ (fun I' L' h=>Gh.done h)
 ·rintro rs I' L' ⟨hI,XO,vo,acc,cells,rfl,_⟩;exact ⟨hV.mono hI (fun x hx=>by simp [hx]),Cell.own (b:=qs) (cs:=#[pt b]) (T:=99) (fr:=(0,0)) (by simp) rfl,Dj (l:=[.slice none 0 0,.slice none 0 0]) (T:=31) (fr:=(0,0)) (by simp) 2,hz _,hz _⟩
 ·rintro r rs I' L' q ⟨hI,XO,vo,acc,cells,rfl,hO,hR,hlen2,hA⟩ hrow hcl;obtain ⟨sl,hCC,hVs⟩:=hV.cellAt hs hrow hcl;obtain ⟨c0,c1,c14,c3,c4,c5,c15⟩:=itC hCC;simp only [List.length_cons] at hlen2;refine hy _ _ _ _ _ (UY ?_);refine Vs ?_;try simp only [SSd,Nat.reduceAdd]
  refine Jl c15 hI rfl ?_;refine AV (fun b2=>?_);refine stB rfl rfl (AK rfl) ?_;try simp only [SSd,Nat.reduceAdd]
  refine rdb ?_;try simp only [SSd,Nat.reduceAdd]
  refine AC (fun e=>?_) (fun e=>?_)
  ·have hi:intsOf (r::rs)=itF r::intsOf rs:=by unfold intsOf;rw [List.filter_cons,if_pos e,List.map_cons]
   rw [hi] at hA;refine rdb ?_;refine ZX (fun ku I3 hI3 hKB=>Gh.done ?_);obtain ⟨ka,kc,rfl⟩:=Bytes.form hKB;refine rdb ?_;try simp only [SSd,Nat.reduceAdd]
   refine rdP [.int .i64 r.it.ver.fAt.fWall,.int .i64 r.it.ver.fAt.fLogic] rfl rfl ?_;try simp only [SSd,Nat.reduceAdd]
   refine rdb ?_;try simp only [SSd,Nat.reduceAdd]
   refine rdb ?_;refine ZX (fun vu I4 hI4 hVB=>Gh.done ?_);obtain ⟨va,vc,rfl⟩:=Bytes.form hVB;try simp only [SSd,Nat.reduceAdd]
   refine HB (R:=TIntentV) (X6:=XO) (x:=itF r) rfl (by omega) hO (hR.imp fun x c h=>h.mono (hI3.trans hI4)) ⟨_,_,rfl,hKB.mono hI4,hVB⟩ rfl (AK rfl) (by omega) (by omega) (fun X1 X6 v6 cells6 h6 hR6=>?_);obtain ⟨a6,c6,rfl⟩:=h6.form;refine st1 rfl ?_;refine Rq ?_;refine Gh.to ((l,Lo .ready none)::ALM b b1 qs qp D (.slice a6 (acc++[itF r]).length c6) X6 L) (Gh.done (.inl ⟨rfl,hI.trans (hI3.trans hI4),X6,_,_,cells6,rfl,h6,hR6,by simp;omega,by rw [←hA];simp⟩))
  ·have hi:intsOf (r::rs)=intsOf rs:=by unfold intsOf;rw [List.filter_cons,if_neg (by simp [e])]
   rw [hi] at hA;refine Rq ?_;refine Gh.to ((l,Lo .ready none)::ALM b b1 qs qp D vo XO L) (Gh.done (.inl ⟨rfl,hI,XO,_,_,cells,rfl,hO,hR,by omega,hA⟩))
 ·rintro I' L' ⟨hI,XO,vo,acc,cells,rfl,hO,hR,hlen2,hA⟩;refine Rt (s:=.ready) (j:=none) (by simp) ?_;show Qq ω (.slice none 0 0) (.pointer (some ⟨b1,0,none⟩)) D (fun v=>Gh (K v)) _ _;unfold Qq;refine rdb ?_;refine tak ?_;have hA':acc=intsOf sp.rows:=by rw [←hA];simp [intsOf]
  subst hA';refine Gh.to (XO++L) (SlO.freeze hO (fun I3 hI3 hSl=>Gh.done ?_));exact hk I3 _ (hI.trans hI3) (RL.ofI hSl (hR.imp fun x c h=>h.mono hI3))
 ·rw [AIx];exact ⟨Ext.refl _,[],_,[],[],rfl,SlO.none _ _,rfl,by simpa using hlen,rfl⟩
end
section
variable {ω:Om}{I:Imm}{L:LH}{K:Value→M}
structure SpX (I:Imm)(b:Nat)(ps:List Nat)(R:LH)(A:List Row)(k:List UInt8)(B:List Row)(fl:TStamp)(nt:Nts)(p:Nat):Prop where
 close:∀(r:Row) (sl:Value) (Y X:LH),r.key=k→VsO Y sl r.vs→X.Perm ((p,Am sl r.it)::(Y++R))→SpP I b ps X ⟨A++r::B,fl⟩ nt
theorem SpP.open' {b:Nat}{ps:List Nat}{X:LH}{A B:List Row}{r:Row}{fl:TStamp}{nt:Nts}{k:List UInt8}(h:SpP I b ps X ⟨A++r::B,fl⟩ nt)(hm:Mid A k B)(hk:r.key=k):
  ∃p sl Y R,ps[A.length]? =some p∧X.Perm ((p,Am sl r.it)::(Y++R))∧VsO Y sl r.vs∧SpX I b ps R A k B fl nt p∧(∀L',(∀x∈X,x∈L')→∃m kv es clock,ViewF I L' b m kv es clock ps ⟨A++r::B,fl⟩∧Az ps (A++r::B) k=some (pt p)):=by
 have h0:=h;obtain ⟨m,ch,kv,es,clock,KX,RX,NX,hp,hF⟩:=h;obtain ⟨P,p,Q,rfl,hl,hl2⟩:=Jc hF.rows.len;obtain ⟨sl,Y,Z,h1,h2,h3⟩:=RowsR.pick hl hF.rows;refine ⟨p,sl,Y,(b,spO m kv fl ch)::(m,.map es clock)::(KX++(Z++NX)),by rw [←hl];simp,AP ?_,h2,⟨fun r' sl' Y' X' hk' hv hX=>?_⟩,fun L' hL=>?_⟩
 ·rw [BA hp];simp only [AM,AN,BA h1]
  ((try simp only [AM,AN,AY,AQ]);(try ac_rfl))
 ·refine ⟨m,ch,kv,es,clock,KX,(p,Am sl' r'.it)::(Y'++Z),NX,AP ?_,?_,?_,?_,hF.nts⟩
  ·rw [BA hX];((try simp only [AM,AN,AY,AQ]);(try ac_rfl))
  ·have:=hF.map;rw [show Az (P++p::Q) (A++r'::B)=Az (P++p::Q) (A++r::B) from LW hl (hk ▸ hm) (hk'.trans hk.symm)];exact this
  ·have e:keysOf (A++r'::B)=keysOf (A++r::B):=by simp [keysOf,hk',hk]
   show StrO KX kv (keysOf (A++r'::B));rw [e];exact hF.keys
  ·exact RowsR.put hl (List.Perm.refl _) hv h3
 ·refine ⟨m,kv,es,clock,?_,EG hl hm hk⟩;have hmem:∀x,x∈((b,spO m kv fl ch)::(m,Obj.map es clock)::(KX++(RX++NX)))→x∈L':=fun x hx=>hL _ (hp.mem_iff.2 hx);exact ⟨Dj (hmem _ (List.mem_cons_self ..)) 4,.inl (hmem _ (by simp)),hF.map,StrO.rl hF.keys (fun x hx=>hmem _ (by simp [hx])),hF.rows.len,hF.rows.cell (fun x hx=>hmem _ (by simp [hx]))⟩
theorem Ku {b:Nat}{X F:LH}{sp:Sp}{nt:Nts}{k:List UInt8}(hS:SpR I b X sp nt)(hs:SrtK (keysOf sp.rows))(hlen:sp.rows.length≤100000000)
  (h1:∀ps A r B p sl Y R,sp.rows=A++r::B→r.key=k→Mid A k B→X.Perm ((p,Am sl r.it)::(Y++R))→VsO Y sl r.vs→SpX I b ps R A k B sp.floor nt p→K (pt p) I (X++F))
  (h2:∀ps A B p X' R,sp.rows=A++B→Mid A k B→X'.Perm ((p,Am (.slice none 0 0) noIt)::R)→SpX I b ps R A k B sp.floor nt p→K (pt p) I (X'++F)):
  CT ω 206 #[pt b,BR k] K I (X++F):=by
 have hS0:=hS;obtain ⟨rows,fl⟩:=sp;rcases place k hs with ⟨A,r,B,e,hk,hm⟩|⟨A,B,e,hm⟩
 ·simp only at e;subst e
  obtain ⟨ps,hS⟩:=hS;obtain ⟨p,sl,Y,R,_,g1,g2,g3,g4⟩:=hS.open' hm hk;obtain ⟨m,kv,es,clock,hV,hc⟩:=g4 (X++F) (fun x hx=>List.mem_append_left _ hx);refine AFc ?_;unfold Wj;try simp only [SSd,Nat.reduceAdd]
  refine rdC (hV.head 0 _ rfl) (Ext.refl _) ?_;refine ⟨_,GV hV.at' hV.map,?_⟩;simp only [hc,lkV,Bool.false_eq_true,if_false,SSd,Nat.reduceAdd];exact Gh.done (h1 ps A r B p sl Y R rfl hk hm g1 g2 g3)
 ·simp only at e;subst e
  obtain ⟨ps,m,ch,kv,es,clock,KX,RX,NX,hp,hF⟩:=hS;have hn:Az ps (A++B) k=none:=HO hm.notin;obtain ⟨P,Q,rfl,hl,hl2⟩:=PV hF.rows.len;refine Cal.perm (L':=(b,spO m kv fl ch)::(m,.map es clock)::(KX++(RX++(NX++F)))) (AP (by rw [AN,BA hp];((try simp only [AM,AN,AY,AQ]);(try ac_rfl)))) ?_;refine AFc ?_;unfold Wj;try simp only [SSd,Nat.reduceAdd]
  refine rdb ?_;refine lkm hF.map ?_;have en:BZ .eql (.pointer none) (.pointer none)=some (.bool true):=rfl;simp only [hn,lkV,Bool.false_eq_true,if_false,en,SSd,Nat.reduceAdd];refine AV (fun p=>?_);refine rdb ?_;obtain ⟨es',c',he,hm'⟩:=hF.map.put k (pt p);refine AId hF.map he (Gh.done ?_);try simp only [SSd,Nat.reduceAdd]
  refine rdb ?_;have hkl:(keysOf (A++B)).length=(A++B).length:=by simp [keysOf]
  refine call (Fa (StrO.rl hF.keys (fun x hx=>by simp [hx])) (by simp only at hlen ⊢;omega) hs (fun i hi hlo hhi=>?_));try simp only [SSd,Nat.reduceAdd]
  refine rdb ?_;refine ⟨#[BR k],by kernel_rfl,fun bv=>Gh.done ?_⟩;refine call (Cal.perm (L':=KX++(bv,.cells #[BR k] 9 (0,0))::(p,Am (.slice none 0 0) noIt)::(b,spO m kv fl ch)::(m,.map es' c')::(RX++(NX++F))) (AP (by ((try simp only [AM,AN,AY,AQ]);(try ac_rfl)))) ?_);refine TX hF.keys hi (by simp only at hlen ⊢;omega) (fun KX' kv' hK'=>?_);try simp only [SSd,Nat.reduceAdd]
  have hkv1:kv'.oneCell'=true:=by obtain ⟨a',c',rfl⟩:=hK'.form;rfl
  have hia:i=A.length:=by
   have hAB:keysOf (A++B)=keysOf A++keysOf B:=by simp [keysOf]
   have hAl:(keysOf A).length=A.length:=by simp [keysOf]
   simp only at hlo hhi hi
   apply Classical.byContradiction
   intro hne;rcases Nat.lt_or_gt_of_ne hne with hlt|hgt
   ·have h1:=hhi A[i].key (by
     rw [hAB,List.drop_append_of_le_length (by omega)];refine List.mem_append_left _ ?_;rw [show keysOf A=A.map (·.key) from rfl,←List.map_drop];exact List.mem_map_of_mem (by rw [List.drop_eq_getElem_cons hlt];exact List.mem_cons_self ..))
    rw [hm.lt _ (List.getElem_mem hlt)] at h1;cases h1
   ·have hb:A.length < (A++B).length:=by omega
    have hBl:0 < B.length:=by simp at hb;omega
    have h1:=hlo B[0].key (by
     rw [hAB,List.take_append,hAl,List.take_of_length_le (by omega)];refine List.mem_append_right _ ?_;rw [show keysOf B=B.map (·.key) from rfl,←List.map_take];refine List.mem_map_of_mem ?_;have:(B.take (i - A.length))[0]'(by simp;omega)=B[0]:=by simp
     rw [←this];exact List.getElem_mem _)
    rw [EM (hm.gt _ (List.getElem_mem hBl))] at h1;cases h1
  subst hia;refine st1 hkv1 ?_;refine Gh.perm (L':=((p,Am (.slice none 0 0) noIt)::(b,spO m kv' fl ch)::(m,.map es' c')::(KX'++(RX++NX)))++F) (AP (by ((try simp only [AM,AN,AY,AQ]);(try ac_rfl)))) (Gh.done ?_);refine h2 (P++p::Q) A B p _ _ rfl hm (List.Perm.refl _) ⟨fun r' sl' Y' X' hk' hv hX=>?_⟩;refine ⟨m,ch,kv',es',c',KX',(p,Am sl' r'.it)::(Y'++RX),NX,AP (by rw [BA hX];((try simp only [AM,AN,AY,AQ]);(try ac_rfl))),?_,?_,RowsR.put hl (List.Perm.refl _) hv hF.rows,hF.nts⟩
  ·rw [show Az (P++p::Q) (A++r'::B)=HZ (Az (P++Q) (A++B)) k (some (pt p)) from GL hl hm hk'];exact hm'
  ·have e:keysOf (A++r'::B)=(keysOf (A++B)).take A.length++k::(keysOf (A++B)).drop A.length:=by
    have hAl:(A.map (·.key)).length=A.length:=by simp
    simp only [keysOf,List.map_append,List.map_cons,hk'];rw [←hAl,List.take_left,List.drop_left]
   show StrO KX' kv' (keysOf (A++r'::B));rw [e];exact hK'
theorem PS {b:Nat}{X F:LH}{A B:List Row}{r:Row}{fl:TStamp}{nt:Nts}{k:List UInt8}(hS:SpR I b X ⟨A++r::B,fl⟩ nt)(hm:Mid A k B)(hkr:r.key=k)(hs:SrtK (keysOf (A++r::B)))(hlen:(A++r::B).length≤100000000)
  (hk:∀X',SpR I b X' ⟨if Ax r=true then A++B else A++r::B,fl⟩ nt→K (.tuple #[]) I (X'++F)):CT ω 222 #[pt b,BR k] K I (X++F):=by
 have hS0:=hS;obtain ⟨ps,m,ch,kv,es,clock,KX,RX,NX,hp,hF⟩:=hS;obtain ⟨P,p,Q,rfl,hl,hl2⟩:=Jc hF.rows.len;obtain ⟨sl,Y,Z,g1,g2,g3⟩:=RowsR.pick hl hF.rows;have hc:Az (P++p::Q) (A++r::B) k=some (pt p):=EG hl hm hkr;refine Cal.perm (L':=(b,spO m kv fl ch)::(m,.map es clock)::(p,Am sl r.it)::(KX++(Y++(Z++(NX++F))))) (AP (by rw [AN,BA hp];simp only [AM,AN,BA g1];((try simp only [AM,AN,AY,AQ]);(try ac_rfl)))) ?_;refine ALr ?_;unfold ABa;try simp only [SSd,Nat.reduceAdd]
 refine rdb ?_;refine lkm hF.map ?_;simp only [hc,lkV,Bool.false_eq_true,if_false,SSd,Nat.reduceAdd];refine rdb ?_;obtain ⟨sa,sc,rfl⟩:=g2.form;try simp only [SSd,Nat.reduceAdd]
 have keep:∀(he:Ax r=false),Gh (K (.tuple #[])) I ((b,spO m kv fl ch)::(m,.map es clock)::(p,Am (.slice sa r.vs.length sc) r.it)::(KX++(Y++(Z++(NX++F))))):=by
  intro he;rw [he] at hk;refine Gh.perm (L':=X++F) (AP (by rw [AN,BA hp];simp only [AM,AN,BA g1];((try simp only [AM,AN,AY,AQ]);(try ac_rfl)))) (Gh.done (hk X hS0))
 refine AG (fun e=>?_) (fun e=>?_)
 ·refine rdb ?_;try simp only [SSd,Nat.reduceAdd]
  refine AC (fun e2=>?_) (fun e2=>?_)
  ·exact keep (by simp at e2;simp [Ax,e2])
  ·have he:Ax r=true:=by
    have hv:r.vs=[]:=by
     cases hv:r.vs with
     |nil=>rfl
     |cons x xs=>rw [hv] at e;simp at e
    simp at e2;simp [Ax,hv,e2]
   rw [he] at hk;have hkl:(keysOf (A++r::B)).length=(A++r::B).length:=by simp [keysOf]
   refine rdb ?_;obtain ⟨es',hde,hm'⟩:=hF.map.del k;refine ALU hF.map hde (Gh.done ?_);try simp only [SSd,Nat.reduceAdd]
   refine rdb ?_;refine call (Fa (StrO.rl hF.keys (fun x hx=>by simp [hx])) (by show (keysOf (A++r::B)).length < _;rw [hkl];exact Nat.lt_of_le_of_lt hlen (by decide)) hs (fun i hi hlo hhi=>?_));try simp only [SSd,Nat.reduceAdd]
   refine rdb ?_;have hAl:(keysOf A).length=A.length:=by simp [keysOf]
   have hAB:keysOf (A++r::B)=keysOf A++k::keysOf B:=by simp [keysOf,hkr]
   simp only at hlo hhi hi
   have hia:i=A.length:=by
    apply Classical.byContradiction
    intro hne;rcases Nat.lt_or_gt_of_ne hne with hlt|hgt
    ·have h1:=hhi A[i].key (by
      rw [hAB,List.drop_append_of_le_length (by omega)];refine List.mem_append_left _ ?_;rw [show keysOf A=A.map (·.key) from rfl,←List.map_drop];exact List.mem_map_of_mem (by rw [List.drop_eq_getElem_cons hlt];exact List.mem_cons_self ..))
     rw [hm.lt _ (List.getElem_mem hlt)] at h1;cases h1
    ·have h1:=hlo k (by
      rw [hAB,List.take_append,hAl,List.take_of_length_le (by omega)];refine List.mem_append_right _ ?_;obtain ⟨j,hj⟩:∃j,i - A.length=j+1:=⟨i - A.length - 1,by omega⟩;rw [hj,List.take_succ_cons];exact List.mem_cons_self ..)
     rw [BQ] at h1;cases h1
   subst hia;rw [wrap_i64 _ (by rw [List.length_append,List.length_cons] at hlen;omega)];refine call (Cal.perm (L':=KX++((b,spO m kv fl ch)::(m,.map es' clock)::(p,Am (.slice sa r.vs.length sc) r.it)::(Y++(Z++(NX++F))))) (AP (by ((try simp only [AM,AN,AY,AQ]);(try ac_rfl)))) ?_);refine Tq hF.keys (by show A.length < (keysOf (A++r::B)).length;rw [hkl,List.length_append,List.length_cons];omega) (by show (keysOf (A++r::B)).length≤_;rw [hkl];omega) (fun KX' kv' hK'=>?_);try simp only [SSd,Nat.reduceAdd]
   have hkv1:kv'.oneCell'=true:=by obtain ⟨a',c',rfl⟩:=hK'.form;rfl
   refine st1 hkv1 ?_;refine Gh.to ((b,spO m kv' fl ch)::(m,.map es' clock)::(KX'++(Z++(NX++F)))) (Gh.perm (L':=((b,spO m kv' fl ch)::(m,.map es' clock)::(KX'++(Z++NX)))++F) (AP (by ((try simp only [AM,AN,AY,AQ]);(try ac_rfl)))) (Gh.done (hk _ ⟨P++Q,m,ch,kv',es',clock,KX',Z,NX,List.Perm.refl _,?_,?_,g3,hF.nts⟩)))
   ·rw [show Az (P++Q) (if true=true then A++B else A++r::B)=HZ (Az (P++p::Q) (A++r::B)) k none from OY hl hm hkr];exact hm'
   ·have e3:keysOf (A++B)=(keysOf (A++r::B)).take A.length++(keysOf (A++r::B)).drop (A.length+1):=by
     rw [hAB,←hAl,List.take_left,List.drop_append,List.drop_eq_nil_of_le (by omega)];simp [keysOf]
    show StrO KX' kv' (keysOf (A++B));rw [e3];exact hK'
 ·exact keep (by simp at e;cases hv:r.vs with
   |nil=>rw [hv] at e;simp at e
   |cons x xs=>simp [Ax,hv])
end
section
variable {ω:Om}{I:Imm}{L:LH}{K:Value→M}
abbrev stO (a:TStamp):Obj:=.cells #[.int .i64 a.fWall,.int .i64 a.fLogic] 41 (0,0)
abbrev Ib (b1 b2 bat:Nat)(v0 v1:Value)(x:TIntent)(a:TStamp)(R:LH):LH:=
 (bat,stO a)::(b2,.cells #[.int .i64 0,.int .i64 0] 41 (0,0))::(b1,.cells #[v0,.int .i64 x.fTxn,.int .i64 x.fAt.fWall,.int .i64 x.fAt.fLogic,.bool x.fDel,v1] 190 (0,0))::R
def Ea (x:TIntent)(a:TStamp):Itn:=⟨⟨a,x.fDel,x.fValue⟩,x.fTxn⟩
theorem IR {A B:List Row}{r r':Row}(h:r'.key=r.key):keysOf (A++r'::B)=keysOf (A++r::B):=by simp [keysOf,h]
theorem Mid.srt {A B:List Row}{k:List UInt8}{r:Row}(hm:Mid A k B)(hs:SrtK (keysOf (A++B)))(h:r.key=k):SrtK (keysOf (A++r::B)):=by
 subst h;exact SrtK.join (SrtK.sub hs (List.sublist_append_left ..)) (SrtK.sub hs (List.sublist_append_right ..)) hm
theorem Yz {b b1 b2 bat:Nat}{v0 v1:Value}{x:TIntent}{a:TStamp}{X F:LH}{sp:Sp}{nt:Nts}(hS:SpR I b X sp nt)(hs:SrtK (keysOf sp.rows))(hlen:sp.rows.length≤100000000)
  (h0:Bytes I v0 x.fKey) (h1:Bytes I v1 x.fValue) (ha:AU a=true) (ht:CB x.fTxn=true) (hkl:x.fKey.length≤1000) (hvl:x.fValue.length≤10000)
  (hk:∀X' I',Ext I I'→SpR I' b X' ⟨setIt x.fKey (Ea x a) sp.rows,sp.floor⟩ (CO nt (105::x.fKey) (BP (Ea x a)))→K (.tuple #[sv a,.int .i64 0,.int .i64 0]) I' (X'++F)):
  sh156_8 ω (pt b) (pt b1) (pt b2) (.int .i64 0) (.int .i64 0) (pt bat) (fun v=>Gh (K v)) I (Ib b1 b2 bat v0 v1 x a (X++F)):=by
 have htx:1≤x.fTxn∧x.fTxn≤9007199254740991:=by simpa [CB] using ht
 unfold sh156_8;try simp only [SSd,Nat.reduceAdd]
 refine rdb ?_;refine Gq h0 (Ext.refl _) ?_;refine Bz (Cal.perm (L':=X++Ib b1 b2 bat v0 v1 x a F) (AP (by ((try simp only [AM,AN,AY,AQ]);(try ac_rfl)))) ?_);have main:∀(A B:List Row) (vs:List TVer) (ps:List Nat) (p:Nat) (sl:Value) (Y R:LH) (o:Itn),Mid A x.fKey B→VsO Y sl vs→SpX I b ps R A x.fKey B sp.floor nt p→setIt x.fKey (Ea x a) sp.rows=A++⟨x.fKey,vs,Ea x a⟩::B→SrtK (keysOf (A++⟨x.fKey,vs,Ea x a⟩::B))→
   (Rv none (AH 2 (pt bat)) fun v115=>Pv (AA 4 (pt b1)) fun v116=>Rv none (AD v116) fun v117=>Pv (AA 5 (pt b1)) fun v118=>Rv none (AD v118) fun v119=>Rv none (bsR v119) fun v120=>
    Pv (Ab #[.int .i64 0,.int .i64 0,.bool false,.string (ByteArray.mk #[])] #[(0,2),(2,1),(3,1)] [(0,v115),(1,v117),(2,v120)]) fun v121=>Pv (AA 1 (pt b1)) fun v122=>Rv none (AD v122) fun v123=>
    Pv (Ab #[.int .i64 0,.int .i64 0,.bool false,.string (ByteArray.mk #[]),.int .i64 0] #[(0,4),(4,1)] [(0,v121),(1,v123)]) fun v124=>Pv (AO (pt p)) fun v125=>Pv (AA 1 v125) fun v126=>Sto 5 v126 v124<|gh fun _=>
    Pv (AA 0 (pt b1)) fun v127=>Rv none (AD v127) fun v128=>Rv none (bsR v128) fun v129=>CT ω 190 #[pt b,v129]<|gh fun _=>Rv none (AH 2 (pt bat)) fun v131=>Sto 2 (pt b2) v131<|gh fun _=>Rv none (AH 2 (pt b2)) fun v132=>Gh (K (.tuple #[v132,.int .i64 0,.int .i64 0]))) I
    ((p,Am sl o)::(Y++(R++Ib b1 b2 bat v0 v1 x a F))):=by
  intro A B vs ps p sl Y R o hm hv hX hset hsrt;refine rdB rfl ?_;try simp only [SSd,Nat.reduceAdd]
  refine rdb ?_;try simp only [SSd,Nat.reduceAdd]
  refine rdb ?_;refine Gq h1 (Ext.refl _) ?_;try simp only [SSd,Nat.reduceAdd]
  refine rdb ?_;try simp only [SSd,Nat.reduceAdd]
  refine stP _ rfl rfl rfl rfl ?_;try simp only [SSd,Nat.reduceAdd]
  refine rdb ?_;refine Gq h0 (Ext.refl _) ?_;have hS':=hX.close ⟨x.fKey,vs,Ea x a⟩ sl Y ((p,Am sl (Ea x a))::(Y++R)) rfl hv (List.Perm.refl _);refine call (Cal.perm (L':=((p,Am sl (Ea x a))::(Y++R))++Ib b1 b2 bat v0 v1 x a F) (AP (by ((try simp only [AM,AN,AY,AQ]);(try ac_rfl)))) ?_);refine FM hS' hsrt (Cj hm rfl) (by simp [Ea];omega) (fun _=>ha) (by omega) (by simp only [Ea];omega) (fun X' I' hI' h'=>?_);refine rdB rfl ?_;refine stB rfl rfl (AK rfl) ?_;refine rdB rfl ?_;rw [←hset] at h';exact Gh.to (X'++F) (Gh.done (hk X' I' hI' ⟨ps,h'⟩))
 refine Ku hS hs hlen (fun ps A r B p sl Y R e hkr hm hp hv hX=>?_) (fun ps A B p X' R e hm hp hX=>?_)
 ·refine Gh.perm (L':=(p,Am sl r.it)::(Y++(R++Ib b1 b2 bat v0 v1 x a F))) (AP (by rw [AN,BA hp];((try simp only [AM,AN,AY,AQ]);(try ac_rfl)))) (Gh.done ?_);exact main A B r.vs ps p sl Y R r.it hm hv hX (by rw [e];exact Fg hkr hm) (by rw [IR (r:=r) hkr.symm,←e];exact hs)
 ·refine Gh.perm (L':=(p,Am (.slice none 0 0) noIt)::([]++(R++Ib b1 b2 bat v0 v1 x a F))) (AP (by rw [AN,BA hp];((try simp only [AM,AN,AY,AQ]);(try ac_rfl)))) (Gh.done ?_);exact main A B [] ps p _ [] R noIt hm (SlO.none _ _) hX (by rw [e];exact Fh hm) (Mid.srt hm (e ▸ hs) rfl)
theorem AOp {L':LH}{b n T:Nat}{l vs:List Value}[h:InL b L (.cells l.toArray T (0,0))][u:UpL b L (.cells l.toArray T (0,0)) (.cells vs.toArray T (0,0)) L'](hl:vs.length=n)(hl':l.length=n)(h1:∀u∈vs,u.oneCell'=true)(hk:Gh (K undef) I L'):
  Sto n (.pointer (some ⟨b,0,none⟩)) (.agg vs.toArray) (gh K) I L:=by
 obtain ⟨L1,L2,rfl,rfl⟩:=u.up;refine ⟨b,0,l.toArray,T,L1,L2,rfl,by simp [Value.cells,hl],by simpa [Value.cells] using h1,by simp [hl'],rfl,?_⟩;simp only [Value.cells];rw [AAJ vs l 0 (by omega)];have e:List.take 0 l++vs=vs:=rfl;rw [e];exact hk
def Fz (sp:Sp)(x:TIntent)(nt:Nts):Nts:=if (Bo sp x).2.2≠0 then nt else CO nt (105::x.fKey) (BP (Ea x (Bo sp x).1))
theorem Xv {α:Type}[Inhabited α]{l:List α}{v:α}(h:l.getLast? =some v):0 < l.length∧Dh l ((l.length - 1:Nat):Int)=v:=by
 obtain ⟨ys,rfl⟩:=List.getLast?_eq_some_iff.1 h;refine ⟨by simp,?_⟩;rw [Aq (by simp)];simp
theorem AET {b:Nat}{x:TIntent}{c:List Value}{X F:LH}{sp:Sp}{nt:Nts}(hS:SpR I b X sp nt)(hok:SpOk sp)(hlen:sp.rows.length≤100000000)(hvs:∀r∈sp.rows,r.vs.length≤100000000)(hx:TIntentV I x c)
  (hk:∀X' I',Ext I I'→SpR I' b X' (ET sp x) (Fz sp x nt)→K (.tuple #[sv (Bo sp x).1,.int .i64 (Bo sp x).2.1,.int .i64 (Bo sp x).2.2]) I' (X'++F)):
  CT ω 156 #[pt b,.agg c.toArray] K I (X++F):=by
 obtain ⟨v0,v1,rfl,h0,h1⟩:=hx;have hs:=hok.rise;obtain ⟨m,kv,es,clock,ps,hV⟩:=hS.view (L:=X++F) (fun y hy=>List.mem_append_left _ hy);have hc2:Cells I (X++F) b 2 [.int .i64 sp.floor.fWall,.int .i64 sp.floor.fLogic]:=by simpa using hV.head.sub (k:=2) (m:=2)
 refine AMa ?_;unfold sh156;refine AV (fun b1=>AV (fun b2=>?_));have bad:∀hb:GA x,sh156_1 ω (pt b2) (.int .i64 0) (.int .i64 0) (fun v=>Gh (K v)) I ((b2,.cells #[.int .i64 0,.int .i64 0] 41 (0,0))::(b1,.cells #[v0,.int .i64 x.fTxn,.int .i64 x.fAt.fWall,.int .i64 x.fAt.fLogic,.bool x.fDel,v1] 190 (0,0))::(X++F)):=by
  intro hb;have e:Bo sp x=(z0,0,1):=by unfold Bo;rw [if_pos hb]
  have e2:ET sp x=sp:=by unfold ET;rw [e];rfl
  have e3:Fz sp x nt=nt:=by unfold Fz;rw [e];rfl
  rw [e2,e3] at hk;have hk':=hk X I (Ext.refl _) hS;rw [e] at hk';unfold sh156_1;repeat' (first|(with_reducible first|refine AZ ?_|refine Aa ?_|refine Ac ?_|refine keepA ?_|refine AV (fun _=>?_)|refine rdb ?_)|((with_reducible first|refine st1 ?_ ?_|refine rdB ?_ ?_);rfl)|(with_reducible refine Ah ?_)|((with_reducible refine Ai ?_ ?_);rfl)|((with_reducible refine stB ?_ ?_ ?_ ?_);rfl;rfl;exact AK rfl)|((with_reducible first|refine rdP _ rfl ?_ ?_|refine As _ rfl ?_ ?_);rfl)|((with_reducible refine stP _ rfl ?_ ?_ ?_ ?_);rfl;rfl;rfl)|(with_reducible first|refine AW (sh156_1.eq_1 ..) ?_|refine AW (sh156_4.eq_1 ..) ?_|refine AW (sh156_8.eq_1 ..) ?_|refine AW (sh156_7.eq_1 ..) ?_|refine AW (sh156_6.eq_1 ..) ?_|refine AW (sh156_5.eq_1 ..) ?_|refine AW (sh156_3.eq_1 ..) ?_|refine AW (sh156_2.eq_1 ..) ?_|refine AW (sh156.eq_1 ..) ?_|refine And.intro ?_ ?_)|(simp only [SSg,Int.reduceBEq,Int.reduceBNe,Int.reduceLT,Int.reduceLE,beq_self_eq_true,bne_self_eq_false])|(with_reducible first|refine AG (fun _=>?_) (fun _=>?_)|refine AC (fun _=>?_) (fun _=>?_))|(simp only [SSd,Nat.reduceAdd]))
  exact Gh.to (X++F) (Gh.done hk')
 have main:∀(bat:Nat) (hb:¬GA x),sh156_3 ω (pt b) (pt b1) (pt b2) (.int .i64 0) (.int .i64 0) (pt bat) (fun v=>Gh (K v)) I (Ib b1 b2 bat v0 v1 x (if bhd sp.floor x.fAt=true then sp.floor else x.fAt) (X++F)):=by
  intro bat hb;have hb':=hb;unfold GA at hb';simp only [not_or,not_and,Bool.not_eq_false,Nat.not_lt,Decidable.not_not] at hb';have hkey:1≤x.fKey.length∧x.fKey.length≤110:=by simpa [Ap] using hb'.1
  have fin:∀a,Bo sp x=(a,0,0)→sh156_8 ω (pt b) (pt b1) (pt b2) (.int .i64 0) (.int .i64 0) (pt bat) (fun v=>Gh (K v)) I (Ib b1 b2 bat v0 v1 x a (X++F)):=by
   intro a ha;have g:=MH hok (show (Bo sp x).2.2=0 by rw [ha]);have e2:ET sp x=⟨setIt x.fKey (Ea x a) sp.rows,sp.floor⟩:=by unfold ET;rw [ha];rfl
   have e3:Fz sp x nt=CO nt (105::x.fKey) (BP (Ea x a)):=by unfold Fz;rw [ha];rfl
   rw [ha] at hk g;rw [e2,e3] at hk;exact Yz hS hs hlen h0 h1 g.2.1 hb'.2.1 (by omega) hb'.2.2.2.1 hk
  have err:∀by' e,Bo sp x=(z0,by',e)→e≠0→K (.tuple #[sv z0,.int .i64 by',.int .i64 e]) I (X++F):=by
   intro by' e ha he;have e2:ET sp x=sp:=by unfold ET;rw [ha];exact if_pos he
   have e3:Fz sp x nt=nt:=by unfold Fz;rw [ha];exact if_pos he
   rw [e2,e3] at hk;have hk':=hk X I (Ext.refl _) hS;rw [ha] at hk';exact hk'
  unfold sh156_3;refine AZ ?_;try simp only [SSd,Nat.reduceAdd]
  refine CQ (hV.head 0 _ rfl) (Ext.refl _) ?_;refine Ah ?_;refine Ek h0 (Ext.refl _) ?_;refine ⟨_,fun I' L' hS=>GV (MapAt.mono hV.at' hS.1 (fun x hx=>hS.2 _ (by simp [hx]))) hV.map,?_⟩;have hA:Bo sp x=if (Aj sp.rows x.fKey).txn≠0∧(Aj sp.rows x.fKey).txn≠x.fTxn then (z0,(Aj sp.rows x.fKey).txn,130) else
    if (Ez (putAt sp x) (Ak sp.rows x.fKey).getLast?).2≠0 then (z0,0,(Ez (putAt sp x) (Ak sp.rows x.fKey).getLast?).2) else ((Ez (putAt sp x) (Ak sp.rows x.fKey).getLast?).1,0,0):=by
   unfold Bo;rw [if_neg hb]
  obtain ⟨g1,g2⟩|⟨r,q,g1,g2,g3,g4⟩:=hV.look hs x.fKey
  ·have en:BZ .neq (.pointer none) (.pointer none)=some (.bool false):=rfl;simp only [g2,lkV,Bool.false_eq_true,if_false,en,SSd,Nat.reduceAdd];refine fin _ ?_;have ei:Aj sp.rows x.fKey=noIt:=by unfold Aj;rw [g1]
   have ev:Ak sp.rows x.fKey=[]:=by unfold Ak;rw [g1]
   rw [hA,ei,ev];simp [noIt,Ez,putAt,ei]
  ·have ei:Aj sp.rows x.fKey=r.it:=by unfold Aj;rw [g1]
   have ev:Ak sp.rows x.fKey=r.vs:=by unfold Ak;rw [g1]
   rw [ei,ev] at hA;have hat:putAt sp x=if r.it.txn≠0∧bhd r.it.ver.fAt (if bhd sp.floor x.fAt=true then sp.floor else x.fAt)=true then r.it.ver.fAt else (if bhd sp.floor x.fAt=true then sp.floor else x.fAt):=by
    unfold putAt;rw [ei]
   obtain ⟨sl,hC,hVs⟩:=g3;obtain ⟨c0,c1,c14,c3,c4,c5,c15⟩:=itC hC;have hvl:=hvs r (BL g1);simp only [g2,lkV,Bool.false_eq_true,if_false,SSd,Nat.reduceAdd];generalize (if bhd sp.floor x.fAt=true then sp.floor else x.fAt)=a0 at hat ⊢;have six:∀a,a=putAt sp x→¬(r.it.txn≠0∧r.it.txn≠x.fTxn)→sh156_6 ω (pt b) (pt b1) (pt b2) (.int .i64 0) (.int .i64 0) (pt bat) (pt q) (fun v=>Gh (K v)) I (Ib b1 b2 bat v0 v1 x a (X++F)):=by
    intro a ha hno;rw [if_neg hno,←ha] at hA;unfold sh156_6;try simp only [SSd,Nat.reduceAdd]
    refine rdC c0 (Ext.refl _) ?_;simp only [RL.len hVs,SSd,Nat.reduceAdd];refine AZ ?_;cases hl:r.vs.getLast? with
    |none=>
     have hv0:r.vs=[]:=List.getLast?_eq_none_iff.1 hl;have eg:decide ((0:Int) < ((r.vs.length:Nat):Int))=false:=by rw [hv0];rfl
     simp only [eg,SSd,Nat.reduceAdd];rw [hl] at hA;exact fin a (by rw [hA];rfl)
    |some v=>
     obtain ⟨hv0,hlx⟩:=Xv hl;have eg:decide ((0:Int) < ((r.vs.length:Nat):Int))=true:=by simpa using hv0
     simp only [eg,SSd,Nat.reduceAdd];refine Ai rfl ?_;refine CQ c0 (Ext.refl _) ?_;rw [wrap_i64 _ (by omega)];have el:((r.vs.length:Nat):Int) - 1=((r.vs.length - 1:Nat):Int):=by omega
     rw [el];obtain ⟨qq,off,cc,hix,hl4,hcc,hcr⟩:=RL.ix hVs (i:=((r.vs.length - 1:Nat):Int)) (by omega) (by omega);obtain rfl:cc=Et _:=hcc;rw [hlx] at hcr;obtain ⟨w1,w2,w3⟩:=PN (hcr I (X++F) (Ext.refl _) (fun _ h=>h));simp only [hix,SSd,Nat.reduceAdd];refine Gl w1 (Ext.refl _) rfl ?_;refine call (BE (x:=a) (y:=v.fAt) ?_);try simp only [SSd,Nat.reduceAdd]
     rw [hl] at hA;refine AC (fun e=>?_) (fun e=>?_)
     ·have e':¬bhd a v.fAt=true:=by simpa using e
      have ep:Ez a (some v)=Dw v.fAt:=if_neg e';rw [ep] at hA;unfold sh156_7;try simp only [SSd,Nat.reduceAdd]
      refine rdC c0 (Ext.refl _) ?_;rw [wrap_i64 _ (by omega),el];simp only [hix,SSd,Nat.reduceAdd];refine Jl w1 (Ext.refl _) rfl ?_;refine call (OI (x:=v.fAt) ?_);try simp only [SSd,Nat.reduceAdd]
      refine AV (fun bn=>?_);refine stB rfl rfl (AK rfl) ?_;try simp only [SSd,Nat.reduceAdd]
      refine AC (fun e2=>?_) (fun e2=>?_)
      ·have e2':(Dw v.fAt).2≠0:=by simpa using e2
       rw [if_pos e2'] at hA;have hk':=err _ _ hA e2';repeat' (first|(with_reducible first|refine AZ ?_|refine Aa ?_|refine Ac ?_|refine keepA ?_|refine AV (fun _=>?_)|refine rdb ?_)|((with_reducible first|refine st1 ?_ ?_|refine rdB ?_ ?_);rfl)|(with_reducible refine Ah ?_)|((with_reducible refine Ai ?_ ?_);rfl)|((with_reducible refine stB ?_ ?_ ?_ ?_);rfl;rfl;exact AK rfl)|((with_reducible first|refine rdP _ rfl ?_ ?_|refine As _ rfl ?_ ?_);rfl)|((with_reducible refine stP _ rfl ?_ ?_ ?_ ?_);rfl;rfl;rfl)|(with_reducible first|refine AW (sh156_1.eq_1 ..) ?_|refine AW (sh156_4.eq_1 ..) ?_|refine AW (sh156_8.eq_1 ..) ?_|refine AW (sh156_7.eq_1 ..) ?_|refine AW (sh156_6.eq_1 ..) ?_|refine AW (sh156_5.eq_1 ..) ?_|refine AW (sh156_3.eq_1 ..) ?_|refine AW (sh156_2.eq_1 ..) ?_|refine AW (sh156.eq_1 ..) ?_|refine And.intro ?_ ?_)|(simp only [SSg,Int.reduceBEq,Int.reduceBNe,Int.reduceLT,Int.reduceLE,beq_self_eq_true,bne_self_eq_false])|(with_reducible first|refine AG (fun _=>?_) (fun _=>?_)|refine AC (fun _=>?_) (fun _=>?_))|(simp only [SSd,Nat.reduceAdd]))
       exact Gh.to (X++F) (Gh.done hk')
      ·have e2':¬(Dw v.fAt).2≠0:=by simpa using e2
       rw [if_neg e2'] at hA;refine rdB rfl ?_;refine AOp rfl rfl (AK rfl) ?_;exact Gh.to (Ib b1 b2 bat v0 v1 x (Dw v.fAt).1 (X++F)) (Gh.done (fin _ hA))
     ·have e':bhd a v.fAt=true:=by simpa using e
      have ep:Ez a (some v)=(a,0):=if_pos e';rw [ep] at hA;exact fin a hA
   refine AZ ?_;try simp only [SSd,Nat.reduceAdd]
   refine CQ c5 (Ext.refl _) ?_;try simp only [SSd,Nat.reduceAdd]
   have rest:∀(hno:¬(r.it.txn≠0∧r.it.txn≠x.fTxn)),(Ad fun S=>Pv (AO (pt q)) fun v64=>Pv (AA 1 v64) fun v65=>Pv (AA 4 v65) fun v66=>Rv (some S) (AD v66) fun v67=>Pv (AB .neq v67 (.int .i64 0)) fun v68=>Gd v68 true
     (Pv (AO (pt q)) fun v69=>Pv (AA 1 v69) fun v70=>Pv (AA 0 v70) fun v71=>Pv (AA 0 v71) fun v72=>Rv (some S) (AH 2 v72) fun v73=>Rv (some S) (AH 2 (pt bat)) fun v74=>CT ω 213 #[v73,v74]<|gh fun v75=>
      Br v75 (sh156_5 ω (pt b) (pt b1) (pt b2) (.int .i64 0) (.int .i64 0) (pt bat) (pt q) (fun v=>Gh (K v))) (sh156_6 ω (pt b) (pt b1) (pt b2) (.int .i64 0) (.int .i64 0) (pt bat) (pt q) (fun v=>Gh (K v))))
     (sh156_6 ω (pt b) (pt b1) (pt b2) (.int .i64 0) (.int .i64 0) (pt bat) (pt q) (fun v=>Gh (K v)))) I (Ib b1 b2 bat v0 v1 x a0 (X++F)):=by
    intro hno;refine AZ ?_;try simp only [SSd,Nat.reduceAdd]
    refine CQ c5 (Ext.refl _) ?_;try simp only [SSd,Nat.reduceAdd]
    refine AG (fun e=>?_) (fun e=>?_)
    ·have e':r.it.txn≠0:=by simpa using e
     refine Gl c1 (Ext.refl _) rfl ?_;refine Ai rfl ?_;refine call (BE (x:=r.it.ver.fAt) (y:=a0) ?_);refine AC (fun e2=>?_) (fun e2=>?_)
     ·rw [if_pos ⟨e',e2⟩] at hat;unfold sh156_5;try simp only [SSd,Nat.reduceAdd]
      refine Jl c1 (Ext.refl _) rfl ?_;refine stB rfl rfl (AK rfl) ?_;exact six _ hat.symm hno
     ·rw [if_neg (fun h=>by rw [h.2] at e2;cases e2)] at hat;exact six _ hat.symm hno
    ·have e':¬r.it.txn≠0:=by simpa using e
     rw [if_neg (fun h=>e' h.1)] at hat;exact six _ hat.symm hno
   refine AG (fun e=>?_) (fun e=>?_)
   ·have e':r.it.txn≠0:=by simpa using e
    refine CQ c5 (Ext.refl _) ?_;refine Ah ?_;try simp only [SSd,Nat.reduceAdd]
    refine AC (fun e2=>?_) (fun e2=>?_)
    ·have e2':r.it.txn≠x.fTxn:=by simpa using e2
     rw [if_pos ⟨e',e2'⟩] at hA;have hk':=err _ _ hA (by simp);unfold sh156_4;refine Aa ?_;try simp only [SSd,Nat.reduceAdd]
     refine CQ c5 (Ext.refl _) ?_;refine stB rfl rfl (AK rfl) ?_;refine FC (Ext.refl _) ?_;refine rdB rfl ?_;exact Gh.to (X++F) (Gh.done hk')
    ·exact rest (fun h=>h.2 (by simpa using e2))
   ·exact rest (fun h=>by simp at e;exact h.1 e)
 try simp only [SSd,Nat.reduceAdd]
 refine rdb ?_;refine call (Cb h0 ?_);try simp only [SSd,Nat.reduceAdd]
 refine AG (fun e=>?_) (fun e=>bad (.inl (by simpa using e)));have k1:Ap x.fKey=true:=by simpa using e
 try simp only [SSd,Nat.reduceAdd]
 refine rdb ?_;refine call (ED ?_);try simp only [SSd,Nat.reduceAdd]
 refine AG (fun e=>?_) (fun e=>bad (.inr (.inl (by simpa using e))));have k2:CB x.fTxn=true:=by simpa using e
 try simp only [SSd,Nat.reduceAdd]
 refine rdP [.int .i64 x.fAt.fWall,.int .i64 x.fAt.fLogic] rfl rfl ?_;refine call (BS (x:=x.fAt) ?_);try simp only [SSd,Nat.reduceAdd]
 refine AG (fun e=>?_) (fun e=>bad (.inr (.inr (.inl (by simpa using e)))));have k3:AU x.fAt=true:=by simpa using e
 try simp only [SSd,Nat.reduceAdd]
 refine rdb ?_;simp only [Bytes.len h1,SSd,Nat.reduceAdd];refine AG (fun e=>?_) (fun e=>bad (.inr (.inr (.inr (.inl (by simp at e;omega))))));have k4:x.fValue.length≤10000:=by simp at e;omega
 try simp only [SSd,Nat.reduceAdd]
 refine rdb ?_;have tail:∀(hd:¬(x.fDel=true∧x.fValue≠[])),(Pv (AA 2 (pt b1)) fun v27=>Rv none (AH 2 v27) fun v28=>New (.cells #[.int .i64 0,.int .i64 0] 41 (0,0))<|gh fun at_29=>Sto 2 at_29 v28<|gh fun _=>
   Ad fun S=>Pv (AO (pt b)) fun v30=>Pv (AA 2 v30) fun v31=>Rv (some S) (AH 2 v31) fun v32=>Rv (some S) (AH 2 at_29) fun v33=>CT ω 213 #[v32,v33]<|gh fun v34=>
    Br v34 (sh156_2 ω (pt b) (pt b1) (pt b2) (.int .i64 0) (.int .i64 0) at_29 (fun v=>Gh (K v))) (sh156_3 ω (pt b) (pt b1) (pt b2) (.int .i64 0) (.int .i64 0) at_29 (fun v=>Gh (K v)))) I
   ((b2,.cells #[.int .i64 0,.int .i64 0] 41 (0,0))::(b1,.cells #[v0,.int .i64 x.fTxn,.int .i64 x.fAt.fWall,.int .i64 x.fAt.fLogic,.bool x.fDel,v1] 190 (0,0))::(X++F)):=by
  intro hd;have hb:¬GA x:=by
   unfold GA;rintro (h|h|h|h|h)
   ·rw [k1] at h;cases h
   ·rw [k2] at h;cases h
   ·rw [k3] at h;cases h
   ·omega
   ·exact hd h
  try simp only [SSd,Nat.reduceAdd]
  refine rdP [.int .i64 x.fAt.fWall,.int .i64 x.fAt.fLogic] rfl rfl ?_;refine AV (fun bat=>?_);have hm:=main bat hb;refine stB rfl rfl (AK rfl) ?_;refine AZ ?_;try simp only [SSd,Nat.reduceAdd]
  refine Gl hc2 (Ext.refl _) rfl ?_;refine Ai rfl ?_;refine call (BE (x:=sp.floor) (y:=x.fAt) ?_);refine AC (fun e2=>?_) (fun e2=>?_)
  ·rw [if_pos e2] at hm;unfold sh156_2;try simp only [SSd,Nat.reduceAdd]
   refine Jl hc2 (Ext.refl _) rfl ?_;refine stB rfl rfl (AK rfl) ?_;exact hm
  ·rw [if_neg (by rw [e2];simp)] at hm;exact hm
 refine AG (fun e=>?_) (fun e=>tail (fun h=>e h.1));try simp only [SSd,Nat.reduceAdd]
 refine rdb ?_;simp only [Bytes.len h1,SSd,Nat.reduceAdd];refine AC (fun e2=>?_) (fun e2=>?_)
 ·exact bad (.inr (.inr (.inr (.inr ⟨e,fun h=>by rw [h] at e2;simp at e2⟩))))
 ·exact tail (fun h=>by simp at e2;exact h.2 e2)
end
end Go.Proofs.YtmmfcgbfbcamcaaGreatDoor
