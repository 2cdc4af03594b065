/-
  Lemmas, part 6: laid together by a program.
-/
import Derived.Test.YtmmfcgbfbcamcaaGreatDoorP5
import Derived.Lib.Bytealg
set_option maxRecDepth 100000
set_option linter.unusedVariables false
set_option linter.unusedSimpArgs false
set_option linter.unusedSectionVars false
namespace Go.Proofs.YtmmfcgbfbcamcaaGreatDoor
open Go.SL
theorem ADe:∃C:Om→Value→Value→(Value→M)→Value→Value→Value→M,∀(ω:Om) (a0 a1:Value) (K:Value→M),vcF Tryz.prog ω Tryz.f285 [a0,a1] K=
 (Pv (lenV a1) fun v1=>
 Pv (AC .eql v1 (Value.int .i64 0)) fun v2=>
 Br v2
  (K (Value.int .i64 0))
  (Pv (AC .eql v1 (Value.int .i64 1)) fun v3=>
  Br v3
   (Pv (ixV 1 a1 (Value.int .i64 0)) fun v4=>
   Rv none (AB v4) fun v5=>
   CT ω 243 #[a0,v5]<|gh fun v6=>
   K v6)
   (C ω a0 a1 K v1 v2 v3))):=⟨_,fun _ _ _ _=>rfl⟩
section
variable {ω:Om}{I:Imm}{L:LH}{K:Value→M}
theorem OZ (l:List UInt8)(i:Nat)(h:i < l.length):(⟨l.toArray⟩:ByteArray)[i]! =l[i]:=by
 rw [getElem!_pos _ _ (by simpa [ByteArray.size] using h)];rfl
theorem VW {l pre rest:List UInt8}(hl:l=pre++0::rest)(h0:(0:UInt8) ∉ pre):(List.range (⟨l.toArray⟩:ByteArray).size).find? (fun i=>(⟨l.toArray⟩:ByteArray)[i]! ==0)=some pre.length:=by
 have hlen:pre.length < l.length:=by rw [hl];simp
 rw [List.find?_range_eq_some];refine ⟨?_,?_,fun j hj=>?_⟩
 ·rw [OZ _ _ hlen];simp [hl]
 ·simpa [ByteArray.size] using hlen
 ·rw [OZ _ _ (by omega)];have:l[j]'(by omega)=pre[j]:=by simp only [hl];rw [List.getElem_append_left hj]
  rw [this];simp only [Bool.not_eq_true',beq_eq_false_iff_ne];exact fun e=>h0 (e ▸ List.getElem_mem hj)
theorem LP {v:Value}{l pre rest:List UInt8}(h:Bytes I v l)(hl:l=pre++0::rest)(h0:(0:UInt8) ∉ pre)(hk:K (.int .i64 pre.length) I L):CT ω 243 #[v,.int .u8 0] K I L:=by
 refine AHP ?_;unfold Wm;refine ⟨_,fun w hs=>?_,Gh.done (Gh.done hk)⟩;show Sem.run _ (do
  let b ←Extern.Bytes.bytesOf v
  let c ←Extern.Bytes.asByte (.int .u8 0)
  match (List.range b.size).find? fun i=>b[i]! ==c with
  |some i=>pure (goInt i)
  |none=>pure (goInt (-1))) w=_
 simp only [Sem.run_bind,FB (P:=Tryz.prog) hs h,Result.andThen_ok,Extern.Bytes.asByte,Sem.run_pure];have:=VW hl h0;rw [show ((0:Int).toNat.toUInt8)=0 from rfl,this];rfl
theorem index_spec {v u:Value}{l pre rest:List UInt8}(h:Bytes I v l)(hu:Bytes I u [0])(hl:l=pre++0::rest)(h0:(0:UInt8) ∉ pre)(hk:K (.int .i64 pre.length) I L):CT ω 285 #[v,u] K I L:=by
 obtain ⟨C,hC⟩:=ADe;refine Cal.gh (AG mixed Tryz.func285 ?_);show vcF Tryz.prog ω Tryz.f285 [v,u] _ I L;rw [hC];obtain ⟨a,c,rfl⟩:=Bytes.form hu;obtain ⟨b,off,hix,hc⟩:=SlI.ix (i:=0) hu .i64 (by simp);have hc0:=hc I L (Ext.refl _) 0 _ rfl;have e0:((([0]:List UInt8).length:Int)==0)=false:=rfl;have e1:((([0]:List UInt8).length:Int)==1)=true:=rfl;have hix':ixV 1 (.slice a ([0]:List UInt8).length c) (.int .i64 0)=some (.pointer (some ⟨b,off,none⟩)):=hix;simp only [e0,e1,hix',SSd,Nat.reduceAdd];refine rd1 hc0 ?_;exact call (LP h hl h0 (Gh.done hk))
theorem Ve {v:Value}{l:List UInt8}(h:Bytes I v l)(hk:K (.int .i64 (l.count 0:Nat)) I L):Og Tryz.prog ω Extern.BytealgCount.count #[v,.int .u8 0] K I L:=by
 refine ⟨_,fun w hs=>?_,hk⟩;show Sem.run _ (do
  let b ←Extern.Bytes.bytesOf v
  let c ←Extern.Bytes.asByte (.int .u8 0)
  pure (goInt (b.foldl (fun n x=>if x==c then n+1 else n) (0:Nat)))) w=_
 simp only [Sem.run_bind,FB (P:=Tryz.prog) hs h,Result.andThen_ok,Extern.Bytes.asByte,Sem.run_pure,goInt,Lib.foldl_data];rw [show ((0:Int).toNat.toUInt8)=0 from rfl];have:∀(l:List UInt8) (n:Int),l.foldl (fun n x=>if x==0 then n+1 else n) n=n+(l.count 0:Nat):=by
  intro l;induction l with
  |nil=>intro n;simp
  |cons x l ih=>
   intro n;rw [List.foldl_cons,ih,List.count_cons];split <;> omega
 rw [this];simp
theorem Ru {v u:Value}{l:List UInt8}(h:Bytes I v l)(hu:Bytes I u [0])(hk:K (.int .i64 (l.count 0:Nat)) I L):CT ω 284 #[v,u] K I L:=by
 refine AHF ?_;unfold WS;obtain ⟨a,c,rfl⟩:=Bytes.form hu;obtain ⟨b,off,hix,hc⟩:=SlI.ix (i:=0) hu .i64 (by simp);have hc0:=hc I L (Ext.refl _) 0 _ rfl;have e0:((([0]:List UInt8).length:Int)==0)=false:=rfl;have e1:((([0]:List UInt8).length:Int)==1)=true:=rfl;have hix':ixV 1 (.slice a ([0]:List UInt8).length c) (.int .i64 0)=some (.pointer (some ⟨b,off,none⟩)):=hix;simp only [e0,e1,hix',SSd,Nat.reduceAdd];refine rd1 hc0 ?_;exact Ve h (Gh.done (Gh.done hk))
def esc (l:List UInt8):List UInt8:=l.flatMap fun c=>if c=0 then [0,255] else [c]
theorem HO (a b:List UInt8):esc (a++b)=esc a++esc b:=by simp [esc]
theorem ID:∀l:List UInt8,(esc l).length=l.length+l.count 0
 |[]=>rfl
 |x::l=>by
  have:=ID l;unfold esc at this ⊢;rw [List.flatMap_cons,List.length_append,this,List.count_cons];by_cases h:x=0 <;> simp [h] <;> omega
theorem Gq:∀{l:List UInt8},(0:UInt8) ∉ l→esc l=l
 |[],_=>rfl
 |x::l,h=>by
  have h1:x≠0:=fun e=>h (e ▸ List.mem_cons_self ..);have:=Gq (l:=l) (fun e=>h (List.mem_cons_of_mem _ e));unfold esc at this ⊢;rw [List.flatMap_cons,this,if_neg h1];rfl
theorem LZ:∀{l:List UInt8},0 < l.count 0→∃pre rest,l=pre++0::rest∧(0:UInt8) ∉ pre
 |[],h=>by simp at h
 |x::l,h=>by
  by_cases hx:x=0
  ·exact ⟨[],l,by rw [hx];rfl,by simp⟩
  ·obtain ⟨pre,rest,e,h0⟩:=LZ (l:=l) (by rw [List.count_cons_of_ne (fun e=>hx (by simpa using e))] at h;exact h);refine ⟨x::pre,rest,by rw [e];rfl,?_⟩;intro hm;rcases List.mem_cons.1 hm with e'|e'
   ·exact hx e'.symm
   ·exact h0 e'
def dAt (b N w:Nat):Value:=.slice (if N=w then some ⟨b,0,none⟩ else some ⟨b,w,none⟩) (N - w) (N - w)
theorem Qr {b N w:Nat}(h:w≤N):BL 1 (.slice (some ⟨b,0,none⟩) N N) (some (.int .i64 w)) none none=some (dAt b N w):=by
 have h0:Co none N N=some N:=rfl;simp only [BL,Option.isNone_none,Option.isSome_none,Bool.and_false,Bool.false_eq_true,if_false,h0,Option.bind_some,BG _ _ _ _ h,dAt];split <;> simp [Be]
theorem Rt {b N w m T:Nat}{arr:Array Value}{P xs:List Value}{x:Value}{F:LH}{K:Value→M}(hs:arr.size=N)(hP:∀(j:Nat) (u:Value),P[j]? =some u→arr[j]? =some u)(hw:w=P.length)(hwm:w+m≤N)
  (hn:News 1 x I ((b,.cells arr T (0,0))::F) m xs) (h1:∀u∈xs,u.oneCell'=true)
  (hk:∀arr':Array Value,arr'.size=N→(∀(j:Nat) (u:Value),(P++xs)[j]? =some u→arr'[j]? =some u)→K (.int .i64 m) I ((b,.cells arr' T (0,0))::F)):
  HX 1 (dAt b N w) x (gh K) I ((b,.cells arr T (0,0))::F):=by
 have hxl:=hn.length;rw [Nat.mul_one] at hxl;by_cases h0:m=0
 ·subst h0;have hx:xs=[]:=List.eq_nil_of_length_eq_zero hxl;subst hx;exact ⟨_,_,_,0,[],rfl,hn,.inl ⟨Nat.zero_min _,Gh.done (hk arr hs (by simpa using hP))⟩⟩
 ·have hne:¬N=w:=by omega
  have hm:min m (N - w)=m:=Nat.min_eq_left (by omega);unfold dAt;rw [if_neg hne];refine ABo (L1:=[]) hn (by rw [hm,hs];omega) (fun u hu=>h1 u (List.mem_of_mem_take hu)) ?_;rw [hm,Nat.mul_one,List.take_of_length_le (by omega)];refine hk _ (by rw [Bi,hs]) (fun j u hu=>?_);rw [CS _ _ _ _ (by omega)];by_cases hj:j < w
  ·rw [if_pos hj];rw [List.getElem?_append_left (by omega)] at hu;exact hP j u hu
  ·have hlt:=(List.getElem?_eq_some_iff.1 hu).1;rw [List.length_append] at hlt;rw [if_neg hj,if_pos (by omega)];rw [List.getElem?_append_right (by omega),←hw] at hu;exact hu
theorem Ef (a b:List UInt8):u8s (a++b)=u8s a++u8s b:=by simp [u8s]
theorem Hd (l:List UInt8):(u8s l).length=l.length:=by simp [u8s]
theorem Lm {v:Value}{l:List UInt8}(h:Bytes I v l){lo hi:Nat}(h1:lo≤hi)(h2:hi≤l.length){bhi:Option Value}(hhi:∀cap,l.length≤cap→Co bhi l.length cap=some hi):
  ∃v',BL 1 v (some (.int .i64 lo)) bhi none=some v'∧Bytes I v' ((l.drop lo).take (hi - lo)):=by
 obtain ⟨v',hs,hv⟩:=SlI.part h h1 h2 (some (.int .i64 lo)) bhi (fun y hy=>.inl (BG _ _ _ _ (by omega))) hhi;refine ⟨v',hs,?_⟩;have e:u8s ((l.drop lo).take (hi - lo))=((u8s l).drop (lo * 1)).take ((hi - lo) * 1):=by simp [u8s]
 have e2:((l.drop lo).take (hi - lo)).length=hi - lo:=by simp;omega
 unfold Bytes;rw [e,e2];exact hv
theorem OA {v u z:Value}{l:List UInt8}(h:Bytes I v l)(hu:Bytes I u [0])(hz:Bytes I z [0,255])(hl:l.length≤1000000000)
  (hk:∀X v',SlO 5 1 X v' (u8s (esc l)) (esc l).length→K v' I (X++L)):CT ω 281 #[v,u,z,.int .i64 (-1)] K I L:=by
 refine AHH ?_;unfold WW;obtain ⟨ua,uc,rfl⟩:=Bytes.form hu;obtain ⟨za,zc,rfl⟩:=Bytes.form hz;obtain ⟨va,vc,rfl⟩:=Bytes.form h;have hcl:=List.count_le_length (a:=(0:UInt8)) (l:=l);have em:((-1:Int) != 0)=true:=rfl;simp only [em,SSd,Nat.reduceAdd];refine call (Ru h hu ?_);unfold Nn;try simp only [SSd,Nat.reduceAdd]
 refine AD (fun e=>?_) (fun e=>?_)
 ·simp at e;have h0:l.count 0=0:=by omega
  have hn0:(0:UInt8) ∉ l:=List.count_eq_zero.1 h0;refine DJ (hsp:=⟨List.Perm.refl _⟩) (X:=[]) (F:=L) (cells:=[]) (len:=0) rfl (SlO.none _ 1) (SlI.news h) (FX _) (by omega) (by omega) (fun X' v' hX'=>?_);rw [Gq hn0] at hk;exact Gh.done (hk X' v' (by simpa using hX'))
 have hpos:0 < l.count 0:=by
  have:¬(l.count 0=0):=by simpa using e
  omega
 have ed:decide ((-1:Int) < 0)=true:=rfl;simp only [ed,SSd,Nat.reduceAdd];unfold Jl;have ez:((([0,255]:List UInt8).length:Nat):Int)=2:=rfl;have eu:((([0]:List UInt8).length:Nat):Int)=1:=rfl;have ew:IntKind.i64.wrap (2 - 1)=1:=rfl;try simp only [SSd,Nat.reduceAdd]
 simp only [ez,eu,ew,Int.mul_one];simp only [wrap_i64 ((l.count 0:Nat):Int) (by omega),wrap_i64 ((l.length:Int)+(l.count 0:Nat)) (by omega),SSd,Nat.reduceAdd];rw [show ((l.length:Int)+(l.count 0:Nat))=((l.length+l.count 0:Nat):Int) by omega];refine ⟨.i64,.i64,_,_,rfl,rfl,Nat.le_refl _,by omega,by omega,fun b=>Gh.done ?_⟩;have eg:decide ((0:Int) < 1)=true:=rfl;simp only [eg,SSd,Nat.reduceAdd];have hz0:=CK #[Value.int .u8 0] (l.length+l.count 0);have hz1:(#[Value.int .u8 0]:Array Value).size=1:=rfl;rw [hz1,Nat.mul_one] at hz0;generalize Builtin.zeroCells #[Value.int .u8 0] (l.length+l.count 0)=arr0 at hz0 ⊢;refine loop (fun m s I' L'=>I'=I∧∃(st w r:Nat) (arr:Array Value),r+m=l.count 0∧s=(.int .i64 w,.int .i64 st,.int .i64 r,())∧L'=(b,Obj.cells arr 5 (0,0))::L∧arr.size=l.length+l.count 0∧st≤l.length∧r=(l.take st).count 0∧w=(esc (l.take st)).length∧
  ∀(j:Nat) (u:Value),(u8s (esc (l.take st)))[j]? =some u→arr[j]? =some u) (l.count 0) ⟨rfl,0,0,0,arr0,by omega,rfl,rfl,hz0,by omega,by simp,by simp [esc],fun j u hu=>by simp [u8s,esc] at hu⟩ ?_
 rintro m s I' L' ⟨rfl,st,w,r,arr,hrm,rfl,rfl,hs,hst,hr,hw,hP⟩;have hwl:=ID (l.take st);rw [←hw,List.length_take,Nat.min_eq_left hst,←hr] at hwl;have hsplit:l.count 0=(l.take st).count 0+(l.drop st).count 0:=by rw [←List.count_append,List.take_append_drop]
 unfold SV;try simp only [SSd,Nat.reduceAdd]
 refine AD (fun e=>?_) (fun e=>?_)
 ·simp at e;obtain ⟨pre,rest,hd,hp0⟩:=LZ (l:=l.drop st) (by omega);have hdl:l.length - st=pre.length+1+rest.length:=by
   have:=congrArg List.length hd;simp at this;omega
  obtain ⟨v1,hs1,hv1⟩:=Lm h (lo:=st) (hi:=l.length) (by omega) (Nat.le_refl _) (bhi:=none) (fun _ _=>rfl);rw [List.take_of_length_le (by simp)] at hv1;simp only [hs1,SSd,Nat.reduceAdd];refine call (index_spec hv1 hu hd hp0 ?_);simp only [wrap_i64 ((st:Int)+pre.length) (by omega),SSd,Nat.reduceAdd];obtain ⟨v2,hs2,hv2⟩:=Lm h (lo:=st) (hi:=st+pre.length) (by omega) (by omega) (bhi:=some (.int .i64 ((st+pre.length:Nat):Int))) (fun cap hc=>BG _ _ _ _ (by omega));rw [show st+pre.length - st=pre.length by omega,hd,List.take_left] at hv2;rw [Int.natCast_add] at hs2;refine draw (fun _ _=>True) trivial ?_;have hdP:=hP;simp only [Qr (show w≤l.length+l.count 0 by omega),hs2,SSd,Nat.reduceAdd];refine Rt hs hP (by rw [Hd,hw]) (by omega) (SlI.news hv2) (FX _) (fun arr1 hs1' hP1=>?_);simp only [wrap_i64 ((w:Int)+pre.length) (by omega),SSd,Nat.reduceAdd];rw [show ((w:Int)+pre.length)=((w+pre.length:Nat):Int) by omega];simp only [Qr (show w+pre.length≤l.length+l.count 0 by omega),SSd,Nat.reduceAdd];refine Rt hs1' hP1 (by rw [List.length_append,Hd,Hd,hw]) (by simp;omega) (SlI.news hz) (FX _) (fun arr2 hs2' hP2=>?_);have e2:(([0,255]:List UInt8).length:Nat)=2:=rfl;simp only [e2];have ht:l.take (st+pre.length+1)=l.take st++pre++[0]:=by
   rw [Nat.add_assoc,List.take_add,hd,List.append_assoc];congr 1
   rw [List.take_length_add_append];rfl
  have he:esc (l.take (st+pre.length+1))=esc (l.take st)++pre++[0,255]:=by
   rw [ht,HO,HO,Gq hp0];rfl
  have hpc:pre.count 0=0:=List.count_eq_zero.2 hp0;simp only [eu,Int.natCast_add,SSd,Nat.reduceAdd];rw [wrap_i64 ((w:Int)+pre.length+((2:Nat):Int)) (by omega),wrap_i64 ((st:Int)+pre.length+1) (by omega),wrap_i64 ((r:Int)+1) (by omega)];refine Gh.done ⟨m - 1,by omega,rfl,st+pre.length+1,w+pre.length+2,r+1,arr2,by omega,by simp [Int.natCast_add],rfl,hs2',by omega,?_,?_,?_⟩
  ·rw [ht,List.count_append,List.count_append,hpc,←hr];rfl
  ·rw [he,List.length_append,List.length_append,←hw];rfl
  ·rw [he,Ef,Ef];exact hP2
 ·simp at e;have hr0:(l.drop st).count 0=0:=by omega
  have hn0:(0:UInt8) ∉ l.drop st:=List.count_eq_zero.1 hr0;have he:esc l=esc (l.take st)++l.drop st:=by
   conv=>lhs;rw [←List.take_append_drop st l,HO,Gq hn0]
  obtain ⟨v1,hs1,hv1⟩:=Lm h (lo:=st) (hi:=l.length) (by omega) (Nat.le_refl _) (bhi:=none) (fun _ _=>rfl);rw [List.take_of_length_le (by simp)] at hv1;have hdl:(l.drop st).length=l.length - st:=by simp
  unfold Nm;refine draw (fun _ _=>True) trivial ?_;simp only [Qr (show w≤l.length+l.count 0 by omega),hs1,SSd,Nat.reduceAdd];refine Rt hs hP (by rw [Hd,hw]) (by omega) (SlI.news hv1) (FX _) (fun arr1 hs1' hP1=>?_);have hN:w+(l.drop st).length=l.length+l.count 0:=by omega
  try simp only [SSd,Nat.reduceAdd]
  rw [wrap_i64 ((w:Int)+((l.drop st).length:Nat)) (by omega),show ((w:Int)+((l.drop st).length:Nat))=((l.length+l.count 0:Nat):Int) by omega];have s3:BL 1 (.slice (some ⟨b,0,none⟩) (l.length+l.count 0) (l.length+l.count 0)) (some (.int .i64 0)) (some (.int .i64 ((l.length+l.count 0:Nat):Int))) none=some (.slice (some ⟨b,0,none⟩) (l.length+l.count 0) (l.length+l.count 0)):=by
   have:=Hj (b:=b) (off:=0) (len:=l.length+l.count 0) (cap:=l.length+l.count 0) (lo:=0) (hi:=l.length+l.count 0) (n:=1) (blo:=some (.int .i64 0)) (bhi:=some (.int .i64 ((l.length+l.count 0:Nat):Int))) rfl (BG _ _ _ _ (Nat.le_refl _)) (by omega);simpa using this
  simp only [s3,SSd,Nat.reduceAdd];have hel:=ID l;refine Gh.done (hk [(b,Obj.cells arr1 5 (0,0))] _ ⟨by rw [Hd,Nat.mul_one],.inr ⟨b,l.length+l.count 0,arr1,rfl,by rw [hel],by omega,by omega,?_⟩⟩);rw [he,Ef];exact hP1
end
section
variable {ω:Om}{I:Imm}{L:LH}{K:Value→M}
def byteOf (n:Int):UInt8:=UInt8.ofNat (n % 256).toNat
theorem He (n:Int):IntKind.u8.wrap n=((byteOf n).toNat:Int):=by
 have e:IntKind.u8.wrap n=n % 256:=by
  simp only [IntKind.wrap];simp [IntKind.bits,IntKind.signed]
 rw [e,byteOf];simp
 omega
def Hc (n:Nat):List UInt8:=if n < 128 then [UInt8.ofNat n] else UInt8.ofNat (n % 128+128)::Hc (n / 128)
termination_by n
theorem KQ {n:Nat}(h:n < 128):Hc n=[UInt8.ofNat n]:=by rw [Hc,if_pos h]
theorem Oo {n:Nat}(h:¬n < 128):Hc n=UInt8.ofNat (n % 128+128)::Hc (n / 128):=by rw [Hc,if_neg h]
theorem On:∀(k n:Nat),1≤k→n < 128 ^ k→(Hc n).length≤k
 |0,n,h,_=>by omega
 |k+1,n,_,h=>by
  by_cases h1:n < 128
  ·rw [KQ h1];simp
  ·rw [Oo h1];simp only [List.length_cons];have hk:1≤k:=by
    rcases Nat.eq_zero_or_pos k with h0|h0
    ·subst h0;simp at h;omega
    ·omega
   have:=On k (n / 128) hk (by rw [Nat.pow_succ] at h;omega);omega
theorem Qk {n:Nat}(h:n < 9223372036854775808):(Hc n).length≤9:=On 9 n (by omega) (by omega)
theorem Rz {n:Nat}(h:n < 128):byteOf n=UInt8.ofNat n:=by
 unfold byteOf;congr 1;omega
theorem AFy {X6 L0 F:LH}[SplitL X6 L0 F]{v:Value}{l:List UInt8}{x:UInt8}{K:Value→M}(h6:SlO 5 1 X6 v (u8s l) l.length)(hl:l.length+1≤140737488355328)
  (hk:∀X1 X6' v',SlO 5 1 X6' v' (u8s (l++[x])) (l++[x]).length→K v' I (X6'++(X1++F))):
  Ay 5 1 #[.int .u8 0] 1 [(0,.int .u8 x.toNat)] (gh fun u=>App 5 1 1 #[.int .u8 0] v u (gh K)) I L0:=by
 refine Dg rfl (by omega) rfl (fun X1 u hX1=>?_);refine DJ (X:=X6) rfl h6 (hX1.news (fun x hx=>List.mem_append_left _ hx)) (by simp [Value.cells,Value.oneCell']) (by omega) (by omega) (fun X' v' hX'=>?_);exact hk X1 X' v' (by simpa [Value.cells,u8s] using hX')
abbrev OB (X:LH)(v:Value)(l:List UInt8):Prop:=SlO 5 1 X v (u8s l) l.length
theorem OB.freeze {A:M}{X F:LH}{v:Value}{l:List UInt8}(h:OB X v l)(hk:∀I',Ext I I'→Bytes I' v l→Gh A I' F):Gh A I (X++F):=SlO.freeze h hk
theorem by1 {F:LH}{c:UInt8}{K:Value→M}(hk:∀X u,OB X u [c]→Gh (K u) I (X++F)):Ay 5 1 #[.int .u8 0] 1 [(0,.int .u8 c.toNat)] (gh K) I F:=
 Ln rfl (by omega) rfl (fun X1 u hX1=>hk X1 u (by unfold OB;simpa [Value.cells,u8s] using hX1))
theorem by2 {F:LH}{c d:UInt8}{K:Value→M}(hk:∀X u,OB X u [c,d]→Gh (K u) I (X++F)):Ay 5 1 #[.int .u8 0] 2 [(0,.int .u8 c.toNat),(1,.int .u8 d.toNat)] (gh K) I F:=by
 refine ⟨#[.int .u8 c.toNat,.int .u8 d.toNat],by kernel_rfl,fun bb=>hk [(bb,_)] _ ⟨rfl,.inr ⟨bb,2,_,rfl,rfl,rfl,Nat.le_refl _,fun j u hu=>by simpa [u8s] using hu⟩⟩⟩
theorem LA {X6 L0 F:LH}[SplitL X6 L0 F]{v x:Value}{l y:List UInt8}{K:Value→M}(h6:OB X6 v l)(hy:News 1 x I L0 y.length (u8s y))(hl:l.length+y.length≤140737488355328)
  (hk:∀X6' v',OB X6' v' (l++y)→K v' I (X6'++F)):App 5 1 1 #[.int .u8 0] v x (gh K) I L0:=
 DJ (X:=X6) rfl h6 hy (FX _) (by omega) (by omega) (fun X' v' hX'=>hk X' v' (by
  unfold OB;rw [Ef,List.length_append];exact hX'))
theorem Fk {X6 L0 F:LH}[SplitL X6 L0 F]{v x:Value}{l y:List UInt8}{K:Value→M}(h6:OB X6 v l)(hy:News 1 x I L0 y.length (u8s y))(hl:l.length+y.length≤140737488355328)
  (hk:∀X6' v',OB X6' v' (l++y)→Gh (K v') I (X6'++F)):App 5 1 1 #[.int .u8 0] v x (gh K) I L0:=
 Et (X:=X6) rfl h6 hy (FX _) (by omega) (by omega) (fun X' v' hX'=>hk X' v' (by
  unfold OB;rw [Ef,List.length_append];exact hX'))
theorem VE {v u z:Value}{l:List UInt8}(h:Bytes I v l)(hu:Bytes I u [0])(hz:Bytes I z [0,255])(hl:l.length≤1000000000)
  (hk:∀X v',OB X v' (esc l)→K v' I (X++L)):CT ω 276 #[v,u,z] K I L:=by
 refine AHJ ?_;unfold Wa;exact call (OA h hu hz hl (fun X v' h'=>Gh.done (hk X v' h')))
theorem VT {n:Nat}(hn:0 < n)(hn2:n≤1000000000000)(hk:∀X v',OB X v' []→K v' I (X++L)):CT ω 282 #[.slice none 0 0,.int .i64 n] K I L:=by
 refine AHG ?_;unfold WU;have e1:decide ((n:Int) < 0)=false:=by simp
 have e2:decide ((0:Int) < (n:Int))=true:=by simp;omega
 have e3:IntKind.i64.wrap ((0:Nat) - (0:Nat):Int)=0:=rfl;simp only [e1,SSd,Nat.reduceAdd];unfold SU;try simp only [SSd,Nat.reduceAdd]
 simp only [e3,Int.sub_zero,wrap_i64 (n:Int) (by omega),e2,SSd,Nat.reduceAdd];have s1:BL 1 (.slice none 0 0) none (some (.int .i64 ((0:Nat):Int))) none=some (.slice none 0 0):=rfl;simp only [s1,SSd,Nat.reduceAdd];refine ⟨none,0,0,n,rfl,rfl,AE rfl,by omega,by omega,.inr (.inr ⟨by omega,by omega,by omega,[],L,.inl ⟨none,0,rfl,rfl,rfl⟩,List.Sublist.refl _,fun b c hc=>Gh.done ?_⟩)⟩;have s2:=Hj (b:=b) (off:=0) (len:=n) (cap:=c) (lo:=0) (hi:=0) (n:=1) (blo:=none) (bhi:=some (.int .i64 ((0:Nat):Int))) rfl (BG _ _ _ _ (by omega)) (by omega);simp only [Nat.zero_add] at hc ⊢;simp only [s2,SSd,Nat.reduceAdd];refine Gh.done (hk [(b,_)] _ ⟨rfl,.inr ⟨b,c,_,rfl,rfl,?_,by simp,fun j u hu=>by simp [u8s] at hu⟩⟩);simp only [Array.size_append,CK];simp;omega
def Fz (a b:List UInt8)(k:Nat):List UInt8:=if k=0 then [] else if k=1 then a else a++b
theorem QJ {bb:Nat}{v1 v2:Value}{T:Nat}{F:LH}{a b:List UInt8}(h1:Bytes I v1 a)(h2:Bytes I v2 b)(hb:0 < b.length)(hl:a.length+b.length≤1000000000000)
  (hk:∀X v',OB X v' (a++b)→K v' I (X++(bb,Obj.cells #[v1,v2] T (0,0))::F)):
  CT ω 277 #[.slice (some ⟨bb,0,none⟩) 2 2] K I ((bb,Obj.cells #[v1,v2] T (0,0))::F):=by
 have hc:∀(k:Nat) (L':LH),k < 2→(bb,Obj.cells #[v1,v2] T (0,0))∈L'→Cell I L' bb (0+k) (if k=0 then v1 else v2):=by
  intro k L' hk hm;match k,hk with
  |0,_=>exact Cell.own hm rfl
  |1,_=>exact Cell.own hm rfl
 have hs:∀k:Nat,k < 2→(Fz a b (k+1)).length=(Fz a b k).length+(if k=0 then a else b).length∧Fz a b (k+1)=Fz a b k++(if k=0 then a else b):=by
  intro k hk;match k,hk with
  |0,_=>simp [Fz]
  |1,_=>simp [Fz]
 have hle:∀k:Nat,k≤2→(Fz a b k).length≤a.length+b.length:=by
  intro k hk;match k,hk with
  |0,_=>simp [Fz]
  |1,_=>simp [Fz]
  |2,_=>simp [Fz]
 refine AHI ?_;unfold WY;try simp only [SSd,Nat.reduceAdd]
 refine loop (fun m s I' L'=>I'=I∧L'=(bb,Obj.cells #[v1,v2] T (0,0))::F∧∃k:Nat,k+m=2∧s=(.int .i64 (Fz a b k).length,.int .i64 k,())) 2 ⟨rfl,rfl,0,rfl,rfl⟩ ?_;rintro m s I' L' ⟨rfl,rfl,k,hkm,rfl⟩;unfold Sa;try simp only [SSd,Nat.reduceAdd]
 refine AD (fun e=>?_) (fun e=>?_)
 ·simp at e;have hk2:k < 2:=by omega
  have hix:=Gp bb 0 1 .i64 2 2 k (by omega) (by omega);simp only [hix,SSd,Nat.reduceAdd];obtain ⟨g1,g2⟩:=hs k hk2;have hlk:lenV (if k=0 then v1 else v2)=some (.int .i64 (if k=0 then a else b).length):=by
   by_cases h0:k=0
   ·obtain ⟨_,_,rfl⟩:=Bytes.form h1;simp [h0,lenV]
   ·obtain ⟨_,_,rfl⟩:=Bytes.form h2;simp [h0,lenV]
  have hck:=hc k ((bb,Obj.cells #[v1,v2] T (0,0))::F) hk2 (List.mem_cons_self ..);refine rd1 (v:=if k=0 then v1 else v2) (by simpa using hck) ?_;have hle2:=hle (k+1) (by omega);simp only [hlk,SSd,Nat.reduceAdd];rw [wrap_i64 _ (by omega)];rw [show (((Fz a b k).length:Int)+((if k=0 then a else b).length:Nat))=(((Fz a b (k+1)).length:Nat):Int) by omega];refine AD (fun e=>?_) (fun e=>?_)
  ·simp at e;omega
  unfold SZ;try simp only [SSd,Nat.reduceAdd]
  rw [wrap_i64 _ (by omega)];exact Gh.done ⟨m - 1,by omega,rfl,rfl,k+1,by omega,by simp⟩
 ·simp at e;have hk2:k=2:=by omega
  subst hk2;unfold SY;have e2:(Fz a b 2).length=a.length+b.length:=by simp [Fz]
  refine call (VT (by omega) (by omega) (fun X v' hX=>?_));try simp only [SSd,Nat.reduceAdd]
  refine loop (fun m s I2 L2=>I2=I'∧∃(k:Nat) (X6:LH) (v6:Value),k+m=2∧s=(v6,.int .i64 k,())∧L2=X6++(bb,Obj.cells #[v1,v2] T (0,0))::F∧OB X6 v6 (Fz a b k)) 2 ⟨rfl,0,X,v',rfl,rfl,rfl,hX⟩ ?_;rintro m2 s2 I2 L2 ⟨rfl,k,X6,v6,hkm2,rfl,rfl,h6⟩;unfold SW;try simp only [SSd,Nat.reduceAdd]
  refine AD (fun e=>?_) (fun e=>?_)
  ·simp at e;have hk2:k < 2:=by omega
   have hix:=Gp bb 0 1 .i64 2 2 k (by omega) (by omega);simp only [hix,SSd,Nat.reduceAdd];obtain ⟨g1,g2⟩:=hs k hk2;have hck:=hc k (X6++(bb,Obj.cells #[v1,v2] T (0,0))::F) hk2 (List.mem_append_right _ (List.mem_cons_self ..));refine rd1 (v:=if k=0 then v1 else v2) (by simpa using hck) ?_;have hle2:=hle (k+1) (by omega);have hn:Bytes I2 (if k=0 then v1 else v2) (if k=0 then a else b):=by split <;> assumption
   refine LA (y:=if k=0 then a else b) h6 (SlI.news hn) (by omega) (fun X7 v7 h7=>?_);try simp only [SSd,Nat.reduceAdd]
   rw [wrap_i64 _ (by omega)];exact Gh.done ⟨m2 - 1,by omega,rfl,k+1,X7,v7,by omega,by simp,rfl,by rw [g2];exact h7⟩
  ·simp at e;have hk2:k=2:=by omega
   subst hk2;exact Gh.done (hk X6 v6 (by simpa [Fz] using h6))
def ktF (l:List UInt8):List UInt8:=esc l++[0,1]
theorem OP {v:Value}{l:List UInt8}(h:Bytes I v l)(hl:l.length≤1000000000)(hk:∀X v' I',Ext I I'→OB X v' (ktF l)→K v' I' (X++L)):CT ω 265 #[v] K I L:=by
 refine AHK ?_;unfold Wc;refine by1 (c:=0) (fun X1 u1 h1=>OB.freeze h1 (fun I1 hI1 hb1=>Gh.done ?_));refine by2 (c:=0) (d:=255) (fun X2 u2 h2=>OB.freeze h2 (fun I2 hI2 hb2=>Gh.done ?_));refine CI (VE (h.mono (hI1.trans hI2)) (hb1.mono hI2) hb2 hl (fun X3 u3 h3=>?_));refine OB.freeze h3 (fun I3 hI3 hb3=>Gh.done ?_);refine by2 (c:=0) (d:=1) (fun X4 u4 h4=>OB.freeze h4 (fun I4 hI4 hb4=>Gh.done ?_));have hel:=ID l;have hcl:=List.count_le_length (a:=(0:UInt8)) (l:=l);obtain ⟨a3,c3,rfl⟩:=Bytes.form hb3;obtain ⟨a4,c4,rfl⟩:=Bytes.form hb4;refine ⟨#[.slice a3 (esc l).length c3,.slice a4 ([0,1]:List UInt8).length c4],by kernel_rfl,fun bb=>Gh.done ?_⟩;refine call (QJ (hb3.mono hI4) hb4 (by simp) (by simp;omega) (fun X v' hX=>?_));exact Gh.to (X++L) (Gh.done (hk X v' I4 (hI1.trans (hI2.trans (hI3.trans hI4))) hX))
end
section
variable {ω:Om}{I:Imm}{L:LH}{K:Value→M}
theorem AJC {X6 L0 F:LH}[SplitL X6 L0 F]{v:Value}{l:List UInt8}{x:UInt8}{K:Value→M}(h6:OB X6 v l)(hl:l.length+1≤140737488355328)
  (hk:∀X1 X6' v',OB X6' v' (l++[x])→Gh (K v') I (X6'++(X1++F))):
  Ay 5 1 #[.int .u8 0] 1 [(0,.int .u8 x.toNat)] (gh fun u=>App 5 1 1 #[.int .u8 0] v u (gh K)) I L0:=by
 refine Dg rfl (by omega) rfl (fun X1 u hX1=>?_);refine Et (X:=X6) rfl h6 (hX1.news (fun x hx=>List.mem_append_left _ hx)) (by simp [Value.cells,Value.oneCell']) (by omega) (by omega) (fun X' v' hX'=>?_);exact hk X1 X' v' (by unfold OB;simpa [Value.cells,u8s] using hX')
theorem Vd {l:List UInt8}{T:Nat}(hk:∀v I',Ext I I'→Bytes I' v l→Gh (K v) I' L):Oh T (BW l) (gh K) I L:=by
 refine ⟨⟨l.toArray⟩,rfl,fun b c hc=>Gh.freeze (fun hE=>hk _ _ hE ?_)⟩;rw [IL] at hc ⊢;refine ⟨by simp [u8s],_,c,rfl,hc,fun h0=>⟨b,0,_,T,_,rfl,if_pos rfl,fun j u hu=>?_⟩⟩;have hj:j < l.length:=by have:=(List.getElem?_eq_some_iff.1 hu).1;simpa [u8s] using this
 simp only [u8s,List.getElem?_map] at hu;rw [Nat.zero_add,Array.getElem?_append_left (by simpa using hj)];simpa using hu
theorem Rx {v:Value}{l:List UInt8}(h:Bytes I v l)(hk:∀v',Bytes I v' l→K v' I L):CT ω 178 #[v] K I L:=by
 refine AHu ?_;unfold YH;obtain ⟨hcl,a,cap,rfl,hle,hb⟩:=h;have s1:BL 1 (.slice a l.length cap) none (some (.int .i64 l.length)) (some (.int .i64 l.length))=some (.slice (if l.length=0 then a else a.map (·.add (0 * 1))) l.length l.length):=by
  simp only [BL,Option.isNone_some,Bool.false_and,Bool.false_eq_true,if_false,BG _ _ _ _ hle,BG _ _ _ _ (Nat.le_refl _),Option.bind_some,AKh,Nat.sub_zero]
 simp only [s1,SSd,Nat.reduceAdd];refine Gh.done (hk _ ⟨hcl,_,l.length,rfl,Nat.le_refl _,fun h0=>?_⟩);obtain ⟨b,off,cs,T,fr,rfl,hm,hcs⟩:=hb h0;exact ⟨b,off,cs,T,fr,by rw [if_neg h0];simp [Be],hm,hcs⟩
theorem AJT:∀x:Fin 256,JS .or .u8 ((x.val:Nat):Int) 128=((x.val % 128+128:Nat):Int):=by decide
theorem JE {n:Nat}(hn:n < 9223372036854775808)(hk:∀v' I',Ext I I'→Bytes I' v' (Hc n)→K v' I' L):CT ω 121 #[.int .u64 n] K I L:=by
 refine AIg ?_;unfold ZR;refine loop (fun m s I' L'=>I'=I∧∃(c:Nat) (d:List UInt8) (X:LH) (v:Value),c=m∧c≤n∧Hc n=d++Hc c∧d.length≤64∧s=(.int .u64 c,v,())∧L'=X++L∧OB X v d) n ⟨rfl,n,[],[],_,rfl,Nat.le_refl _,rfl,by simp,rfl,rfl,SlO.none _ 1⟩ ?_;rintro m s I' L' ⟨rfl,c,d,X,v,rfl,hcn,he,hd,rfl,rfl,hX⟩;have hlen:=Qk hn;rw [he,List.length_append] at hlen;unfold TX;try simp only [SSd,Nat.reduceAdd]
 refine AD (fun e=>?_) (fun e=>?_)
 ·simp at e;simp only [He,SSd,Nat.reduceAdd];have hb:=AJT ⟨(byteOf (c:Int)).toNat,(byteOf (c:Int)).toNat_lt⟩;simp only at hb
  have hbo:(byteOf (c:Int)).toNat % 128+128=(UInt8.ofNat (c % 128+128)).toNat:=by
   simp [byteOf];omega
  rw [hb,hbo];refine AFy hX (by omega) (fun X1 X6 v6 h6=>?_);have hsh:=IK (a:=(c:Int)) (c:=7) .u64 .u64 (by decide);have hdv:(c:Int).fdiv (2 ^ (min (7:Int).toNat IntKind.u64.bits))=((c / 128:Nat):Int):=by
   show (c:Int).fdiv (2 ^ 7)=_;rw [Int.fdiv_eq_ediv_of_nonneg _ (by decide)];omega
  rw [hdv] at hsh;simp only [hsh,SSd,Nat.reduceAdd];refine Gh.to (X6++L) (Gh.done ⟨c / 128,by omega,rfl,c / 128,d++[UInt8.ofNat (c % 128+128)],X6,v6,rfl,by omega,?_,by simp;omega,rfl,rfl,h6⟩);rw [he,Oo (by omega)];simp
 ·simp at e;unfold TW;simp only [He,SSd,Nat.reduceAdd];refine AJC hX (by omega) (fun X1 X6 v6 h6=>?_);rw [Rz (by omega),←KQ (by omega),←he] at h6;refine OB.freeze h6 (fun I2 hI2 hB=>Gh.done ?_);refine call (Rx hB (fun v' hv'=>?_));exact Gh.to L (Gh.done (hk v' I2 hI2 hv'))
def wb (w:Int)(k:Nat):UInt8:=byteOf (w.fdiv (2 ^ k))
def KN (w:Int)(k:Nat):List UInt8:=(List.range k).map fun j=>wb w (48 - 8 * j)
def stF (s:TStamp):List UInt8:=KN s.fWall 7++[wb s.fLogic 8,byteOf s.fLogic]
theorem EE {x:TStamp}(hr:AU x=true)(hk:∀X v',OB X v' (stF x)→K (.tuple #[v',.int .i64 0]) I (X++L)):CT ω 186 #[sv x] K I L:=by
 refine AHp ?_;unfold Xw;refine AM (fun b=>?_);refine rdB rfl ?_;refine call (BZ ?_);rw [hr];simp only [Bool.not_true,SSd,Nat.reduceAdd];refine AGk (ln:=0) (cn:=9) (by omega) (by omega) (by omega) (fun X v hX=>?_);have hX0:OB X v []:=by
  have e:(Builtin.zeroCells #[Value.int .u8 0] 0).toList=[]:=by simp [Builtin.zeroCells]
  rw [e] at hX;exact hX
 refine loop (fun m s I' L'=>I'=I∧∃(k:Nat) (X6:LH) (v6:Value),k+m=7∧s=(v6,.int .i64 (48 - 8 * (k:Int)),())∧L'=X6++(b,Obj.cells #[.int .i64 x.fWall,.int .i64 x.fLogic] 41 (0,0))::L∧OB X6 v6 (KN x.fWall k)) 7 ⟨rfl,0,X,v,rfl,rfl,rfl,hX0⟩ ?_;rintro m s I' L' ⟨rfl,k,X6,v6,hkm,rfl,rfl,h6⟩;have hwl:(KN x.fWall k).length=k:=by simp [KN]
 unfold Ss;try simp only [SSd,Nat.reduceAdd]
 refine AD (fun e=>?_) (fun e=>?_)
 ·simp at e;refine rdb ?_;have hsh:=IK (a:=x.fWall) (c:=48 - 8 * (k:Int)) .i64 .i64 (by omega);have hmin:min (48 - 8 * (k:Int)).toNat IntKind.i64.bits=48 - 8 * k:=by
   have:IntKind.i64.bits=64:=rfl;omega
  rw [hmin] at hsh;simp only [hsh,He,SSd,Nat.reduceAdd];refine AFy (x:=wb x.fWall (48 - 8 * k)) h6 (by omega) (fun X1 X7 v7 h7=>?_);try simp only [SSd,Nat.reduceAdd]
  rw [wrap_i64 _ (by omega)];refine Gh.to (X7++(b,Obj.cells #[.int .i64 x.fWall,.int .i64 x.fLogic] 41 (0,0))::L) (Gh.done ⟨m - 1,by omega,rfl,k+1,X7,v7,by omega,?_,rfl,?_⟩)
  ·congr 2;congr 1;omega
  ·have:KN x.fWall (k+1)=KN x.fWall k++[wb x.fWall (48 - 8 * k)]:=by simp [KN,List.range_succ]
   rw [this];exact h7
 ·simp at e;have hk7:k=7:=by omega
  subst hk7;unfold Sr;try simp only [SSd,Nat.reduceAdd]
  refine rdb ?_;have hsh:=IK (a:=x.fLogic) (c:=8) .i64 .u64 (by omega);have hmin:min (8:Int).toNat IntKind.i64.bits=8:=rfl;rw [hmin] at hsh;simp only [hsh,He,SSd,Nat.reduceAdd];refine rdb ?_;simp only [He,SSd,Nat.reduceAdd];refine by2 (c:=wb x.fLogic 8) (d:=byteOf x.fLogic) (fun X2 u2 h2=>Gh.done ?_);refine LA (y:=[wb x.fLogic 8,byteOf x.fLogic]) h6 (h2.news (fun x hx=>List.mem_append_left _ hx)) (by simp [hwl]) (fun X7 v7 h7=>?_);exact Gh.to (X7++L) (Gh.done (hk X7 v7 h7))
def CU (v:TVer):List UInt8:=if v.fDel then [1] else 0::v.fValue
abbrev vv (v:TVer):Value:=.agg #[.int .i64 v.fAt.fWall,.int .i64 v.fAt.fLogic,.bool v.fDel,BW v.fValue]
theorem GY {v:TVer}(hl:v.fValue.length≤1000000000)(hk:∀X u,OB X u (CU v)→K u I (X++L)):CT ω 235 #[vv v] K I L:=by
 refine AHR ?_;unfold Wq;refine AM (fun b=>?_);try simp only [SSd,Nat.reduceAdd]
 refine rdb ?_;refine AD (fun e=>?_) (fun e=>?_)
 ·refine by1 (c:=1) (fun X1 u1 h1=>?_);refine Gh.to (X1++L) (Gh.done (Gh.done (hk X1 u1 ?_)));unfold CU;rw [if_pos e];exact h1
 ·refine by1 (c:=0) (fun X1 u1 h1=>Gh.done ?_);try simp only [SSd,Nat.reduceAdd]
  refine rdb ?_;refine LA (y:=v.fValue) h1 (.inr (.inr ⟨_,rfl,rfl,by simp [ByteArray.size],by simp [u8s]⟩)) (by simp;omega) (fun X7 v7 h7=>?_);refine Gh.to (X7++L) (Gh.done (hk X7 v7 ?_));unfold CU;rw [if_neg (by simp [e])];exact h7
def Lx (k:List UInt8)(v:TVer):List UInt8:=118::(ktF k++stF v.fAt)
theorem IP {k:List UInt8}{v:TVer}(hr:AU v.fAt=true)(hl:k.length≤1000000000)(hk:∀X u I',Ext I I'→OB X u (Lx k v)→K u I' (X++L)):CT ω 234 #[BW k,vv v] K I L:=by
 refine AHS ?_;unfold Ws;refine AM (fun b=>?_);try simp only [SSd,Nat.reduceAdd]
 refine rdP [.int .i64 v.fAt.fWall,.int .i64 v.fAt.fLogic] rfl rfl ?_;refine call (EE (x:=v.fAt) hr (fun X1 u1 h1=>?_));try simp only [SSd,Nat.reduceAdd]
 have hs9:(stF v.fAt).length=9:=rfl;have hel:=ID k;have hcl:=List.count_le_length (a:=(0:UInt8)) (l:=k);have hkl:(ktF k).length≤3000000000:=by unfold ktF;simp;omega
 refine by1 (c:=118) (fun X2 u2 h2=>Gh.done ?_);refine Vd (fun v3 I3 hI3 hb3=>Gh.done ?_);refine call (OP hb3 hl (fun X4 u4 I4 hI4 h4=>?_));refine LA (X6:=X2) (y:=ktF k) h2 (h4.news (fun x hx=>by simp [hx])) (by simp;omega) (fun X5 u5 h5=>?_);refine LA (X6:=X5) (y:=stF v.fAt) h5 (h1.news (fun x hx=>by simp [hx])) (by simp;omega) (fun X6 u6 h6=>?_);refine Gh.to (X6++L) (Gh.done (hk X6 u6 I4 (hI3.trans hI4) ?_));unfold Lx;simpa using h6
end
end Go.Proofs.YtmmfcgbfbcamcaaGreatDoor
namespace Go.SL
def NB (α:Type):Setoid (List α):=⟨List.Perm,List.Perm.refl,List.Perm.symm,List.Perm.trans⟩
def MS (α:Type):Type:=Quotient (NB α)
def ms {α:Type}(l:List α):MS α:=Quotient.mk (NB α) l
def NC {α:Type}(a b:MS α):MS α:=Quotient.liftOn₂ a b (fun x y=>ms (x++y)) (fun _ _ _ _ h1 h2=>Quotient.sound (s:=NB α) (List.Perm.append h1 h2))
instance {α:Type}:Std.Associative (NC (α:=α)):=⟨fun a b c=>by
 refine Quotient.inductionOn₃ a b c fun x y z=>?_;show ms (x++y++z)=ms (x++(y++z));rw [List.append_assoc]⟩
instance {α:Type}:Std.Commutative (NC (α:=α)):=⟨fun a b=>by
 refine Quotient.inductionOn₂ a b fun x y=>?_;exact Quotient.sound (s:=NB α) List.perm_append_comm⟩
theorem AP {α:Type}(a b:List α):ms (a++b)=NC (ms a) (ms b):=rfl
def ms1 {α:Type}(x:α):MS α:=ms [x]
theorem AN {α:Type}(x:α)(b:List α):ms (x::b)=NC (ms1 x) (ms b):=rfl
theorem Aa {α:Type}(a:MS α):NC a (ms [])=a:=Quotient.inductionOn a fun x=>by show ms (x++[])=ms x;rw [List.append_nil]
theorem AR {α:Type}(a:MS α):NC (ms []) a=a:=Quotient.inductionOn a fun x=>rfl
theorem BH {α:Type}{a b:List α}(h:a.Perm b):ms a=ms b:=Quotient.sound (s:=NB α) h
theorem AQ {α:Type}{a b:List α}(h:ms a=ms b):a.Perm b:=Quotient.exact (s:=NB α) h
abbrev Key:=List UInt8
def CM (k:Key):Value:=.string ⟨k.toArray⟩
def BM (e:MapEntry):Key:=match e.key with
 | .string s=>s.data.toList
 |_=>[]
def fnd (k:Key):List MapEntry→Nat→Option (Nat×Value)
 |[],_=>none
 |e::r,i=>if BM e=k then some (i,e.val) else fnd k r (i+1)
def Fv (m:Key→Option Value)(k:Key)(v:Option Value):Key→Option Value:=fun q=>if q=k then v else m q
structure MapS (es:Array MapEntry)(clock:Nat)(m:Key→Option Value):Prop where
 str:∀e∈es.toList,∃s:ByteArray,e.key= .string s
 nod:(es.toList.map BM).Nodup
 brn:∀e∈es.toList,e.born < clock
 bnd:(es.toList.map (·.born)).Nodup
 val:∀k,m k=(fnd k es.toList 0).map (·.2)
theorem Vp {a b:ByteArray}:(a==b)=decide (a.data.toList=b.data.toList):=by
 cases a with
 |mk a=>cases b with
  |mk b=>
   show (a==b)=_;rw [Bool.eq_iff_iff];simp only [beq_iff_eq,decide_eq_true_eq];exact ⟨fun h=>by rw [h],fun h=>by cases a;cases b;simpa using h⟩
theorem JP {k:Key}:∀{l:List MapEntry} {i:Nat},(∀e∈l,∃s:ByteArray,e.key= .string s)→Instr.findNow .string (CM k) l i=some (fnd k l i)
 |[],_,_=>rfl
 |e::l,i,h=>by
  obtain ⟨s,hs⟩:=h e (List.mem_cons_self ..);have ih:=JP (k:=k) (l:=l) (i:=i+1) (fun x hx=>h x (List.mem_cons_of_mem _ hx));simp only [Instr.findNow,fnd,BM,hs,CM,Instr.sameNow];rw [Vp];by_cases hk:s.data.toList=k
  ·have:decide ((⟨k.toArray⟩:ByteArray).data.toList=s.data.toList)=true:=by simp [hk]
   rw [this,if_pos hk]
  ·have:decide ((⟨k.toArray⟩:ByteArray).data.toList=s.data.toList)=false:=by simp;exact fun h=>hk h.symm
   rw [this,if_neg hk];exact ih
theorem MapS.find {es:Array MapEntry}{clock:Nat}{m:Key→Option Value}(h:MapS es clock m)(k:Key):Instr.findNow .string (CM k) es.toList 0=some (fnd k es.toList 0):=JP h.str
theorem MapS.empty:MapS #[] 0 (fun _=>none):=⟨fun e h=>by simp at h,by simp,fun e h=>by simp at h,by simp,fun k=>rfl⟩
theorem fnd_none {k:Key}:∀{l:List MapEntry} {i:Nat},fnd k l i=none↔k ∉ l.map BM
 |[],_=>by simp [fnd]
 |e::l,i=>by
  simp only [fnd,List.map_cons,List.mem_cons,not_or];by_cases h:BM e=k
  ·simp [h]
  ·rw [if_neg h,fnd_none (l:=l)];exact ⟨fun h'=>⟨fun e'=>h e'.symm,h'⟩,fun h'=>h'.2⟩
theorem IA {k:Key}:∀{l:List MapEntry} {i j:Nat} {v:Value},fnd k l i=some (j,v)→∃n e,j=i+n∧l[n]? =some e∧BM e=k∧e.val=v
 |[],_,_,_,h=>by simp [fnd] at h
 |e::l,i,j,v,h=>by
  simp only [fnd] at h;split at h
  ·rename_i hk
   simp only [Option.some.injEq,Prod.mk.injEq] at h;exact ⟨0,e,by omega,rfl,hk,h.2⟩
  ·obtain ⟨n,e',h1,h2,h3,h4⟩:=IA h;exact ⟨n+1,e',by omega,by simpa using h2,h3,h4⟩
theorem Dq {k:Key}:∀{l:List MapEntry} {i j:Nat},(fnd k l i).map (·.2)=(fnd k l j).map (·.2)
 |[],_,_=>rfl
 |e::l,i,j=>by
  simp only [fnd];split
  ·rfl
  ·exact Dq
theorem LX {k:Key}:∀{l l':List MapEntry} {i:Nat},(fnd k (l++l') i).map (·.2)=match (fnd k l i).map (·.2) with
  |some v=>some v
  |none=>(fnd k l' 0).map (·.2)
 |[],l',i=>by simp only [List.nil_append,fnd,Option.map_none];exact Dq
 |e::l,l',i=>by
  simp only [List.cons_append,fnd];split
  ·rfl
  ·exact LX
theorem UD {k q:Key}{v:Value}:∀{l:List MapEntry} {n:Nat} {e:MapEntry},l[n]? =some e→BM e=k→(l.map BM).Nodup→
  (fnd q (l.set n {e with key:=CM k,val:=v}) 0).map (·.2)=if q=k then some v else (fnd q l 0).map (·.2)
 |[],n,e,h,_,_=>by simp at h
 |x::l,0,e,h,hk,hn=>by
  simp only [List.getElem?_cons_zero,Option.some.injEq] at h;subst h;have hko:BM {x with key:=CM k,val:=v}=k:=by simp [BM,CM]
  simp only [List.set_cons_zero,fnd,hko,hk];by_cases h:k=q
  ·simp [h]
  ·rw [if_neg h,if_neg (fun e=>h e.symm),if_neg h]
 |x::l,n+1,e,h,hk,hn=>by
  simp only [List.getElem?_cons_succ] at h;simp only [List.map_cons,List.nodup_cons] at hn;simp only [List.set_cons_succ,fnd];have hmem:k∈l.map BM:=List.mem_map.2 ⟨e,List.mem_of_getElem? h,hk⟩;by_cases hx:BM x=q
  ·rw [if_pos hx,if_pos hx,if_neg];intro e';rw [hx,e'] at hn;exact hn.1 hmem
  ·rw [if_neg hx,if_neg hx];have ih:=UD (q:=q) (v:=v) h hk hn.2;rw [Dq (j:=0),ih,Dq (i:=0+1) (j:=0)]
theorem PC {k:Key}{v:Value}:∀{l:List MapEntry} {n:Nat} {e:MapEntry},l[n]? =some e→BM e=k→(l.set n {e with key:=CM k,val:=v}).map BM=l.map BM
 |[],n,e,h,_=>by simp at h
 |x::l,0,e,h,hk=>by
  simp only [List.getElem?_cons_zero,Option.some.injEq] at h;subst h;simp [BM,CM] at hk ⊢;exact hk.symm
 |x::l,n+1,e,h,hk=>by
  simp only [List.getElem?_cons_succ] at h;simp only [List.set_cons_succ,List.map_cons,PC h hk]
theorem Mi {k:Key}{v:Value}:∀{l:List MapEntry} {n:Nat} {e:MapEntry},l[n]? =some e→(l.set n {e with key:=CM k,val:=v}).map (·.born)=l.map (·.born)
 |[],n,e,h=>by simp at h
 |x::l,0,e,h=>by
  simp only [List.getElem?_cons_zero,Option.some.injEq] at h;subst h;simp
 |x::l,n+1,e,h=>by
  simp only [List.getElem?_cons_succ] at h;simp only [List.set_cons_succ,List.map_cons,Mi (k:=k) h]
def AFA (k:Key)(v:Value)(es:Array MapEntry)(clock:Nat):Obj:=match fnd k es.toList 0 with
 |some (i,_)=>.map (es.modify i fun e=>{e with key:=CM k,val:=v}) clock
 |none=>.map (es.push {key:=CM k,val:=v,born:=clock}) (clock+1)
theorem LD {α:Type}{a:Array α}{i:Nat}{f:α→α}{x:α}(h:a.toList[i]? =some x):(a.modify i f).toList=a.toList.set i (f x):=by
 have hlt:i < a.size:=by
  have:=(List.getElem?_eq_some_iff.1 h).1;simpa using this
 apply List.ext_getElem?
 intro j;simp only [Array.getElem?_toList,Array.getElem?_modify];rw [List.getElem?_set];by_cases e:i=j
 ·subst e;simp only [Array.getElem?_toList] at h;rw [h];simp [hlt]
 ·simp [e]
theorem MapS.put {es:Array MapEntry}{clock:Nat}{m:Key→Option Value}(h:MapS es clock m)(k:Key)(v:Value):∃es' clock',AFA k v es clock= .map es' clock'∧MapS es' clock' (Fv m k (some v)):=by
 unfold AFA;cases hf:fnd k es.toList 0 with
 |none=>
  refine ⟨_,_,rfl,?_⟩;have hn:=fnd_none.1 hf;have hl:(es.push {key:=CM k,val:=v,born:=clock}).toList=es.toList++[{key:=CM k,val:=v,born:=clock}]:=by simp
  have hko:BM {key:=CM k,val:=v,born:=clock}=k:=by simp [BM,CM]
  refine ⟨fun e he=>?_,?_,fun e he=>?_,?_,fun q=>?_⟩
  ·rw [hl] at he;rcases List.mem_append.1 he with he|he
   ·exact h.str e he
   ·simp only [List.mem_singleton] at he;subst he;exact ⟨_,rfl⟩
  ·rw [hl,List.map_append,List.nodup_append];refine ⟨h.nod,by simp,fun a ha b hb=>?_⟩;simp only [List.map_cons,List.map_nil,List.mem_singleton,hko] at hb;subst hb;exact fun e=>hn (e ▸ ha)
  ·rw [hl] at he;rcases List.mem_append.1 he with he|he
   ·have:=h.brn e he;omega
   ·simp only [List.mem_singleton] at he;subst he;simp
  ·rw [hl,List.map_append,List.nodup_append];refine ⟨h.bnd,by simp,fun a ha b hb=>?_⟩;simp only [List.map_cons,List.map_nil,List.mem_singleton] at hb;subst hb;obtain ⟨e,he,rfl⟩:=List.mem_map.1 ha;have:=h.brn e he;omega
  ·rw [hl,LX,←h.val q];unfold Fv;by_cases e:q=k
   ·subst e;rw [if_pos rfl,h.val q,hf];simp [fnd,hko]
   ·rw [if_neg e];have hf0:fnd q [{key:=CM k,val:=v,born:=clock}] 0=none:=by
     simp only [fnd,hko];rw [if_neg (fun e'=>e (Eq.symm e'))]
    rw [hf0];cases m q <;> rfl
 |some p=>
  obtain ⟨i,u⟩:=p;obtain ⟨n,e,h1,h2,h3,h4⟩:=IA hf;obtain rfl:i=n:=by omega
  refine ⟨_,_,rfl,?_⟩;have hl:=LD (f:=fun e=>{e with key:=CM k,val:=v}) h2;refine ⟨fun x hx=>?_,?_,fun x hx=>?_,?_,fun q=>?_⟩
  ·rw [hl] at hx;rcases List.mem_or_eq_of_mem_set hx with hx|rfl
   ·exact h.str x hx
   ·exact ⟨_,rfl⟩
  ·rw [hl,PC h2 h3];exact h.nod
  ·rw [hl] at hx;rcases List.mem_or_eq_of_mem_set hx with hx|rfl
   ·exact h.brn x hx
   ·exact h.brn e (List.mem_of_getElem? h2)
  ·rw [hl,Mi (k:=k) h2];exact h.bnd
  ·rw [hl,UD h2 h3 h.nod,←h.val q];rfl
def Vb (k:Key)(es:Array MapEntry)(clock:Nat):Obj:=match fnd k es.toList 0 with
 |some (i,_)=>.map (es.eraseIdxIfInBounds i) clock
 |none=>.map es clock
theorem NL {k q:Key}:∀{l:List MapEntry} {n:Nat} {e:MapEntry},l[n]? =some e→BM e=k→(l.map BM).Nodup→(fnd q (l.eraseIdx n) 0).map (·.2)=if q=k then none else (fnd q l 0).map (·.2)
 |[],n,e,h,_,_=>by simp at h
 |x::l,0,e,h,hk,hn=>by
  simp only [List.getElem?_cons_zero,Option.some.injEq] at h;subst h;simp only [List.map_cons,List.nodup_cons] at hn;simp only [List.eraseIdx_cons_zero,fnd,hk];by_cases h:q=k
  ·subst h;rw [if_pos rfl,fnd_none.2 (by rw [←hk];exact hn.1)];rfl
  ·rw [if_neg h,if_neg (fun e=>h e.symm)];exact Dq
 |x::l,n+1,e,h,hk,hn=>by
  simp only [List.getElem?_cons_succ] at h;simp only [List.map_cons,List.nodup_cons] at hn;simp only [List.eraseIdx_cons_succ,fnd];have hmem:k∈l.map BM:=List.mem_map.2 ⟨e,List.mem_of_getElem? h,hk⟩;by_cases hx:BM x=q
  ·rw [if_pos hx,if_pos hx,if_neg];intro e';rw [hx,e'] at hn;exact hn.1 hmem
  ·rw [if_neg hx,if_neg hx,Dq (j:=0),NL h hk hn.2,Dq (i:=0+1) (j:=0)]
theorem MapS.del {es:Array MapEntry}{clock:Nat}{m:Key→Option Value}(h:MapS es clock m)(k:Key):∃es',Vb k es clock= .map es' clock∧MapS es' clock (Fv m k none):=by
 unfold Vb;cases hf:fnd k es.toList 0 with
 |none=>
  refine ⟨es,rfl,h.str,h.nod,h.brn,h.bnd,fun q=>?_⟩;unfold Fv;by_cases e:q=k
  ·subst e;rw [if_pos rfl,hf];rfl
  ·rw [if_neg e];exact h.val q
 |some p=>
  obtain ⟨i,u⟩:=p;obtain ⟨n,e,h1,h2,h3,h4⟩:=IA hf;obtain rfl:i=n:=by omega
  have hlt:i < es.size:=by
   have:=(List.getElem?_eq_some_iff.1 h2).1;simpa using this
  have hl:(es.eraseIdxIfInBounds i).toList=es.toList.eraseIdx i:=by simp [Array.eraseIdxIfInBounds,hlt]
  refine ⟨_,rfl,fun x hx=>?_,?_,fun x hx=>?_,?_,fun q=>?_⟩
  ·rw [hl] at hx;exact h.str x (List.mem_of_mem_eraseIdx hx)
  ·rw [hl];exact h.nod.sublist (List.Sublist.map _ (List.eraseIdx_sublist ..))
  ·rw [hl] at hx;exact h.brn x (List.mem_of_mem_eraseIdx hx)
  ·rw [hl];exact h.bnd.sublist (List.Sublist.map _ (List.eraseIdx_sublist ..))
  ·rw [hl,NL h2 h3 h.nod,←h.val q];rfl
section rules
variable {I:Imm}{L:LH}{K:Value→M}{b:Nat}{es:Array MapEntry}{clock:Nat}{m:Key→Option Value}{k:Key}{v:Value}{S:M}
def lkV (zero:Value)(ok:Bool):Option Value→Value
 |some u=>if ok then .tuple #[u,.bool true] else u
 |none=>if ok then .tuple #[zero,.bool false] else zero
theorem AJX {zero:Value}{ok:Bool}(h:MapS es clock m):(match fnd k es.toList 0 with
  |some (_,u)=>if ok then .tuple #[u,.bool true] else u
  |none=>if ok then .tuple #[zero,.bool false] else zero)=lkV zero ok (m k):=by
 rw [h.val k];cases fnd k es.toList 0 <;> rfl
theorem FS {zero:Value}{ok:Bool}(ha:MapAt I L b es clock)(h:MapS es clock m):lkR .string zero ok (.map (some b)) (CM k) I L (lkV zero ok (m k)):=
 ⟨es,_,.inr ⟨b,clock,rfl,ha⟩,h.find k,(AJX h).symm⟩
theorem lkm {zero:Value}{ok:Bool}[hin:InL b L (.map es clock)](h:MapS es clock m)(hk:K (lkV zero ok (m k)) I L):Rv none (lkR .string zero ok (.map (some b)) (CM k)) K I L:=
 ⟨_,FS (.inl hin.mem) h,hk⟩
theorem AKy {I0:Imm}{X:LH}{zero:Value}{ok:Bool}[hin:InL b X (.map es clock)](h:MapS es clock m)(hk:K (lkV zero ok (m k)) I L):Rv (some (Stay I0 X)) (lkR .string zero ok (.map (some b)) (CM k)) K I L:=
 ⟨_,fun I' L' hS=>FS (.inl (hS.2 _ hin.mem)) h,hk⟩
theorem AKz [hin:InL b L (.map es clock)](hk:K (.int .i64 es.size) I L):Rv none (JJ (.map (some b))) K I L:=⟨_,⟨es,.inr ⟨b,clock,rfl,.inl hin.mem⟩,rfl⟩,hk⟩
theorem AEw {L':LH}{es':Array MapEntry}{clock':Nat}(h:MapS es clock m)(he:AFA k v es clock= .map es' clock')[u:UpL b L (.map es clock) (.map es' clock') L'](hk:K undef I L'):
  GU .string (.map (some b)) (CM k) v K I L:=by
 obtain ⟨L1,L2,rfl,rfl⟩:=u.up;refine ⟨b,es,clock,L1,L2,_,rfl,rfl,h.find k,?_⟩;unfold AFA at he;cases hf:fnd k es.toList 0 with
 |none=>rw [hf] at he;simp only at he ⊢;rw [he];exact hk
 |some p=>obtain ⟨i,w⟩:=p;rw [hf] at he;simp only at he ⊢;rw [he];exact hk
theorem AHA {L':LH}{es':Array MapEntry}{clock':Nat}(h:MapS es clock m)(he:Vb k es clock= .map es' clock')[u:UpL b L (.map es clock) (.map es' clock') L'](hk:K (.tuple #[]) I L'):
  MT .string (.map (some b)) (CM k) K I L:=by
 obtain ⟨L1,L2,rfl,rfl⟩:=u.up;refine .inr ⟨b,es,clock,L1,L2,_,rfl,rfl,h.find k,?_⟩;unfold Vb at he;cases hf:fnd k es.toList 0 with
 |none=>rw [hf] at he;simp only at he ⊢;rw [he];exact hk
 |some p=>obtain ⟨i,w⟩:=p;rw [hf] at he;simp only at he ⊢;rw [he];exact hk
theorem VJ (hk:∀b,K (.map (some b)) I ((b,.map #[] 0)::L)):MR K I L:=hk
end rules
theorem CalV.mono {P:Program}{ω:Om}{x:Value}{args:Array Value}{K K':Value→M}{I:Imm}{L:LH}(h:CalV P ω x args K I L)(hk:∀v I' L',K v I' L'→K' v I' L'):CalV P ω x args K' I L:=by
 match x,h with
 | .func (.func f) first cap,h=>
  simp only [CalV] at h ⊢;by_cases he:Bo P f=true
  ·rw [if_pos he] at h ⊢;exact Cal.mono h hk
  ·rw [if_neg he] at h ⊢;cases hx:QC P f with
   |none=>rw [hx] at h;exact h.elim
   |some e=>
    rw [hx] at h;obtain ⟨v,h1,h2⟩:=h;exact ⟨v,h1,hk _ _ _ h2⟩
 | .func (.yield l) first cap,h=>
  intro w hs;obtain ⟨f,tmps,assign,body,h1,h2⟩:=h w hs;exact ⟨f,tmps,assign,body,h1,RoundIn.mono h2 fun e w' ⟨v,I',L',e1,e2,e3⟩=>⟨v,I',L',e1,e2,hk _ _ _ e3⟩⟩
def Bt (r clock:Nat)(vis:List MapEntry):Obj:=.mapIter (some r) clock (vis.map (·.born)).toArray clock
structure It (es:Array MapEntry)(vis:List MapEntry):Prop where
 sub:∀e∈vis,e∈es.toList
 nod:(vis.map (·.born)).Nodup
theorem It.none (es:Array MapEntry):It es []:=⟨(fun e h=>by cases h),by simp⟩
theorem BT {α β:Type}{f:α→β}{l:List α}(h:(l.map f).Nodup):l.Nodup:=(List.pairwise_map.1 h).imp fun h e=>h (by rw [e])
theorem EX {α β:Type}{f:α→β}:∀{l:List α},(l.map f).Nodup→∀{x y:α},x∈l→y∈l→f x=f y→x=y
 |a::l,h,x,y,hx,hy,e=>by
  simp only [List.map_cons,List.nodup_cons] at h;rcases List.mem_cons.1 hx with hx'|hx'
  ·rcases List.mem_cons.1 hy with hy'|hy'
   ·rw [hx',hy']
   ·exact absurd (List.mem_map.2 ⟨y,hy',by rw [←e,hx']⟩) h.1
  ·rcases List.mem_cons.1 hy with hy'|hy'
   ·exact absurd (List.mem_map.2 ⟨x,hx',by rw [e,hy']⟩) h.1
   ·exact EX h.2 hx' hy' e
section iter
variable {I:Imm}{L0:LH}{K:Value→M}{b r clock:Nat}{es:Array MapEntry}{m:Key→Option Value}{vis:List MapEntry}
theorem AAv (ha:MapAt I L0 r es clock)(hk:∀b,K (.pointer (some ⟨b,0,.none⟩)) I ((b,Bt r clock [])::L0)):JW (.map (some r)) K I L0:=.inr ⟨r,es,clock,rfl,ha,hk⟩
theorem MapAt.skip {x:Nat×Obj}(ha:MapAt I L0 r es clock):MapAt I (x::L0) r es clock:=ha.imp (List.mem_cons_of_mem _) id
theorem AJV (h:MapS es clock m)(ha:MapAt I L0 r es clock)(hi:It es vis)(hend:vis.Perm es.toList→K (.tuple #[.bool false]) I ((b,Bt r clock vis)::L0))
  (hstep:∀e,e∈es.toList→It es (vis++[e])→K (.tuple #[.bool true,e.key,e.val]) I ((b,Bt r clock (vis++[e]))::L0)):MQ (.pointer (some ⟨b,0,.none⟩)) K I ((b,Bt r clock vis)::L0):=by
 refine ⟨b,[],L0,rfl,.inr ⟨r,clock,(vis.map (·.born)).toArray,clock,es,clock,rfl,MapAt.skip ha,?_,fun hh=>hend ?_,fun e he hs=>?_⟩⟩
 ·intro hc;simp only [Bool.and_eq_true,Bool.not_eq_true',Array.isEmpty_iff,Array.all_eq_true',decide_eq_true_eq] at hc;cases hl:es.toList with
  |nil=>
   have:es=#[]:=by cases es;simpa using hl
   have h2:=hc.1.2;rw [this] at h2;simp at h2
  |cons e l=>
   have he:e∈es.toList:=by rw [hl];exact List.mem_cons_self ..
   have h1:=h.brn e he;have h2:=hc.2 e (by simpa using he);omega
 ·refine (List.perm_ext_iff_of_nodup (BT hi.nod) (BT h.bnd)).2 fun e=>⟨hi.sub e,fun he=>?_⟩;cases hc:(vis.map (·.born)).toArray.contains e.born with
  |false=>have:=hh e (by simpa using he) hc;have:=h.brn e he;omega
  |true=>
   have:e.born∈vis.map (·.born):=by simpa using hc
   obtain ⟨v,hv,hve⟩:=List.mem_map.1 this;have:=EX h.bnd (hi.sub v hv) he hve;rw [←this];exact hv
 ·have hne:e.born ∉ vis.map (·.born):=by simpa using hs
  have hit:It es (vis++[e]):=⟨fun x hx=>by
   rcases List.mem_append.1 hx with hx|hx
   ·exact hi.sub x hx
   ·simp only [List.mem_singleton] at hx;subst hx;simpa using he,by
   rw [List.map_append,List.nodup_append];refine ⟨hi.nod,by simp,fun a ha b hb=>?_⟩;simp only [List.map_cons,List.map_nil,List.mem_singleton] at hb;subst hb;exact fun e'=>hne (e' ▸ ha)⟩
  have:=hstep e (by simpa using he) hit;simpa [Bt] using this
theorem AGy (h:MapS es clock m)(ha:MapAt I L0 r es clock){e:MapEntry}(he:e∈es.toList):OT (.pointer (some ⟨b,0,.none⟩)) I ((b,Bt r clock (vis++[e]))::L0) (.tuple #[e.key,e.val]):=by
 refine ⟨b,r,clock,((vis++[e]).map (·.born)).toArray,clock,es,clock,e.born,e,rfl,.inl (List.mem_cons_self ..),by simp,MapAt.skip ha,by simp,?_,rfl⟩;cases hf:es.find? (·.born==e.born) with
 |none=>
  rw [←Array.find?_toList] at hf;have:=List.find?_eq_none.1 hf e he;simp at this
 |some e'=>
  rw [←Array.find?_toList] at hf;have h1:=List.find?_some hf;rw [EX h.bnd (List.mem_of_find?_eq_some hf) he (by simpa using h1)]
end iter
end Go.SL
namespace Go.Proofs.YtmmfcgbfbcamcaaGreatDoor
open Go.SL
structure Itn where
 ver:TVer
 txn:Int
def noIt:Itn:=⟨⟨⟨0,0⟩,false,[]⟩,0⟩
structure Row where
 key:List UInt8
 vs:List TVer
 it:Itn
structure Sp where
 rows:List Row
 floor:TStamp
abbrev z0:TStamp:=⟨0,0⟩
def BK:TGot:=⟨false,[],⟨0,0⟩,0⟩
def ABd (v:List UInt8)(a:TStamp):TGot:=⟨true,v,a,0⟩
def ABe (n:Int):TGot:=⟨false,[],⟨0,0⟩,n⟩
def keysOf (rows:List Row):List (List UInt8):=rows.map (·.key)
def rowOf (rows:List Row)(k:List UInt8):Option Row:=rows.find? fun r=>r.key==k
def upTo (vs:List TVer)(m:TStamp):Option TVer:=vs.reverse.find? fun v=> !bhd v.fAt m
def DC:Option TVer→TGot
 |none=>BK
 |some v=>if v.fDel=true then BK else ABd v.fValue v.fAt
def seen (r:Row)(m:TStamp)(txn:Int):TGot×Int:=
 if r.it.txn=0 then (DC (upTo r.vs m),0) else if r.it.txn=txn then (DC (some r.it.ver),0) else if bhd r.it.ver.fAt m=false then (ABe r.it.txn,130) else (DC (upTo r.vs m),0)
def CG (sp:Sp)(k:List UInt8)(m:TStamp)(txn:Int):TGot×Int:=
 if An k=false∨(AU m&&Ak txn)=false then (BK,1) else if bhd sp.floor m=true then (BK,131) else match rowOf sp.rows k with
 |none=>(BK,0)
 |some r=>seen r m txn
def push (r:Row)(g:TGot)(acc:List TKV):List TKV:=if g.fFound=true then acc++[⟨r.key,g.fValue⟩] else acc
def Ci (m:TStamp)(txn most:Int):List Row→List TKV→List TKV×Int×Int
 |[],acc=>(acc,0,0)
 |r::rs,acc=>if (seen r m txn).2≠0 then ([],(seen r m txn).1.fBy,(seen r m txn).2) else
   if ((push r (seen r m txn).1 acc).length:Int)=most then (push r (seen r m txn).1 acc,0,0) else Ci m txn most rs (push r (seen r m txn).1 acc)
def inR (p:TSpan)(rows:List Row):List Row:=rows.filter fun r=>inB p r.key
def Bk (sp:Sp)(p:TSpan)(m:TStamp)(txn most:Int):List TKV×Int×Int:=
 if (AU m&&Ak txn)=false∨most < 1 then ([],0,1) else if bhd sp.floor m=true then ([],0,131) else Ci m txn most (inR p sp.rows) []
def Bm (rows:List Row)(k:List UInt8):Itn:=match rowOf rows k with
 |none=>noIt
 |some r=>r.it
def Dh (rows:List Row)(k:List UInt8):List TVer:=match rowOf rows k with
 |none=>[]
 |some r=>r.vs
def FL (k:List UInt8)(it:Itn):List Row→List Row
 |[]=>[⟨k,[],it⟩]
 |r::rs=>if r.key=k then ⟨k,r.vs,it⟩::rs else if blt k r.key=true then ⟨k,[],it⟩::r::rs else r::FL k it rs
def Cu (a:TStamp):Option TVer→TStamp×Int
 |none=>(a,0)
 |some v=>if bhd a v.fAt=true then (a,0) else Bs v.fAt
def Cz (x:TIntent):Prop:=An x.fKey=false∨Bj x.fTxn=false∨AU x.fAt=false∨10000 < x.fValue.length∨(x.fDel=true∧x.fValue≠[])
instance (x:TIntent):Decidable (Cz x):=by unfold Cz;infer_instance
def putAt (sp:Sp)(x:TIntent):TStamp:=
 let a:=if bhd sp.floor x.fAt=true then sp.floor else x.fAt
 if (Bm sp.rows x.fKey).txn≠0∧bhd (Bm sp.rows x.fKey).ver.fAt a=true then (Bm sp.rows x.fKey).ver.fAt else a
def Az (sp:Sp)(x:TIntent):TStamp×Int×Int:=
 if Cz x then (z0,0,1) else
 if (Bm sp.rows x.fKey).txn≠0∧(Bm sp.rows x.fKey).txn≠x.fTxn then (z0,(Bm sp.rows x.fKey).txn,130) else
 if (Cu (putAt sp x) (Dh sp.rows x.fKey).getLast?).2≠0 then (z0,0,(Cu (putAt sp x) (Dh sp.rows x.fKey).getLast?).2) else ((Cu (putAt sp x) (Dh sp.rows x.fKey).getLast?).1,0,0)
def CL (sp:Sp)(x:TIntent):Sp:=if (Az sp x).2.2≠0 then sp else ⟨FL x.fKey ⟨⟨(Az sp x).1,x.fDel,x.fValue⟩,x.fTxn⟩ sp.rows,sp.floor⟩
def Ly (k:List UInt8)(f:Row→Row)(rows:List Row):List Row:=rows.map fun r=>if r.key=k then f r else r
def BO (r:Row):Bool:=r.vs.isEmpty&&r.it.txn==0
def Bq (rows:List Row):List Row:=rows.filter fun r=> !BO r
def FH (a:TStamp):Option TVer→Bool
 |none=>false
 |some v=> !bhd a v.fAt
def DU (sp:Sp)(k:List UInt8)(txn:Int)(yes:Bool)(a:TStamp):Bool×Int:=
 if An k=false∨Bj txn=false∨(yes=true∧AU a=false) then (false,1) else
 if (Bm sp.rows k).txn≠txn then (false,0) else
 if yes=true∧(bhd (Bm sp.rows k).ver.fAt a=true∨FH a (Dh sp.rows k).getLast? =true) then (false,1) else (true,0)
def HK (yes:Bool)(a:TStamp)(r:Row):Row:=⟨r.key,if yes=true then r.vs++[⟨a,r.it.ver.fDel,r.it.ver.fValue⟩] else r.vs,noIt⟩
def Dl (sp:Sp)(k:List UInt8)(txn:Int)(yes:Bool)(a:TStamp):Sp:=if (DU sp k txn yes a).1=true then ⟨Bq (Ly k (HK yes a) sp.rows),sp.floor⟩ else sp
def JL (a b:TStamp)(vs:List TVer):Bool:=match upTo vs b with
 |none=>false
 |some v=>bhd v.fAt a
def chR (a b:TStamp)(txn:Int)(r:Row):Bool:=(r.it.txn != 0&&(r.it.txn != txn)&& !bhd r.it.ver.fAt b)||JL a b r.vs
def chF (sp:Sp)(p:TSpan)(a b:TStamp)(txn:Int):Bool×Int:=
 if (AU a&&Ak txn)=false∨AU b=false then (false,1) else if bhd sp.floor a=true then (false,131) else ((inR p sp.rows).any (chR a b txn),0)
def CD (k v:TVer):Bool:=bhd k.fAt v.fAt||(k.fDel&&(v.fAt.fWall==k.fAt.fWall&&v.fAt.fLogic==k.fAt.fLogic))
def CJ (fl:TStamp)(r:Row):Row:=match upTo r.vs fl with
 |none=>r
 |some k=>⟨r.key,r.vs.filter fun v=> !CD k v,r.it⟩
def Ah (rows:List Row):Nat:=(rows.map (·.vs.length)).sum
def Cn (sp:Sp)(b:TStamp):TStamp:=if bhd b sp.floor=true then b else sp.floor
def colS (sp:Sp)(b:TStamp):Sp:=if AU b=false then sp else ⟨Bq (sp.rows.map (CJ (Cn sp b))),Cn sp b⟩
def Gy (sp:Sp)(b:TStamp):Int×Int:=if AU b=false then (0,1) else ((Ah sp.rows:Int) - Ah (colS sp b).rows,0)
def itF (r:Row):TIntent:=⟨r.key,r.it.txn,r.it.ver.fAt,r.it.ver.fDel,r.it.ver.fValue⟩
def intsOf (rows:List Row):List TIntent:=(rows.filter fun r=>r.it.txn != 0).map itF
def FJ (k:List UInt8)(v:TVer):TVersion:=⟨k,v.fAt,v.fDel,v.fValue⟩
def Ad (rows:List Row):List TVersion:=rows.flatMap fun r=>r.vs.map (FJ r.key)
structure VerOk (v:TVer):Prop where
 right:AU v.fAt=true
 len:v.fValue.length≤10000
 del:v.fDel=true→v.fValue=[]
structure RowOk (r:Row):Prop where
 key:An r.key=true
 vs:∀v∈r.vs,VerOk v
 rise:r.vs.Pairwise fun a b=>bhd b.fAt a.fAt=true
 it:r.it=noIt∨(Bj r.it.txn=true∧VerOk r.it.ver)
 some:BO r=false
structure SpOk (sp:Sp):Prop where
 rise:SrtK (keysOf sp.rows)
 rows:∀r∈sp.rows,RowOk r
 floor:AU sp.floor=true
theorem RowOk.txn {r:Row}(h:RowOk r):0≤r.it.txn∧r.it.txn≤9007199254740991:=by
 rcases h.it with h|⟨h,_⟩
 ·rw [h];decide
 ·simp [Bj] at h;omega
theorem RowOk.keyL {r:Row}(h:RowOk r):1≤r.key.length∧r.key.length≤110:=by simpa [An] using h.key
structure Mid (A:List Row)(k:List UInt8)(B:List Row):Prop where
 lt:∀x∈A,blt x.key k=true
 gt:∀x∈B,blt k x.key=true
theorem OL {p:Row→Prop}:∀x∈([]:List Row),p x:=fun x hx=>by cases hx
theorem FI {a b:List UInt8}(h:blt a b=true):a≠b:=fun e=>by rw [e,Bx] at h;cases h
theorem DI {a b:List UInt8}(h:blt a b=true):b≠a:=fun e=>by rw [e,Bx] at h;cases h
theorem SrtK.mid {A B:List Row}{r:Row}(h:SrtK (keysOf (A++r::B))):Mid A r.key B:=by
 unfold SrtK keysOf at h;rw [List.map_append,List.map_cons,List.pairwise_append] at h;obtain ⟨h1,h2,h3⟩:=h;rw [List.pairwise_cons] at h2;exact ⟨fun x hx=>h3 _ (List.mem_map_of_mem hx) _ (List.mem_cons_self ..),fun x hx=>h2.1 _ (List.mem_map_of_mem hx)⟩
theorem SrtK.join {A B:List Row}{r:Row}(hA:SrtK (keysOf A))(hB:SrtK (keysOf B))(h:Mid A r.key B):SrtK (keysOf (A++r::B)):=by
 unfold SrtK keysOf at *;rw [List.map_append,List.map_cons,List.pairwise_append,List.pairwise_cons];refine ⟨hA,⟨fun x hx=>?_,hB⟩,fun x hx y hy=>?_⟩
 ·obtain ⟨z,hz,rfl⟩:=List.mem_map.1 hx;exact h.gt z hz
 ·obtain ⟨z,hz,rfl⟩:=List.mem_map.1 hx;rcases List.mem_cons.1 hy with rfl|hy
  ·exact h.lt z hz
  ·obtain ⟨w,hw,rfl⟩:=List.mem_map.1 hy;exact Ct (h.lt z hz) (h.gt w hw)
theorem SrtK.sub {A B:List Row}(h:SrtK (keysOf A))(hs:B.Sublist A):SrtK (keysOf B):=List.Pairwise.sublist (hs.map _) h
theorem Bn {A B:List Row}{r:Row}{k:List UInt8}(h:Mid A k B)(hk:r.key=k):rowOf (A++r::B) k=some r:=by
 unfold rowOf;rw [List.find?_append,List.find?_eq_none.2 (fun x hx=>by simpa using FI (h.lt x hx))];simp [hk]
theorem Iz {rows:List Row}{k:List UInt8}{r:Row}(hs:SrtK (keysOf rows))(h:rowOf rows k=some r):∃A B,rows=A++r::B∧r.key=k∧Mid A k B:=by
 unfold rowOf at h;obtain ⟨h1,A,B,rfl,h2⟩:=List.find?_eq_some_iff_append.1 h;have hk:r.key=k:=by simpa using h1
 exact ⟨A,B,rfl,hk,hk ▸ hs.mid⟩
theorem RE {rows:List Row}{k:List UInt8}(h:rowOf rows k=none):∀x∈rows,x.key≠k:=fun x hx=>by
 simpa using List.find?_eq_none.1 h x hx
theorem Ew {rows:List Row}{k:List UInt8}(h:∀x∈rows,x.key≠k):rowOf rows k=none:=List.find?_eq_none.2 fun x hx=>by simpa using h x hx
theorem Ca {rows:List Row}{k:List UInt8}{r:Row}(h:rowOf rows k=some r):r∈rows:=List.mem_of_find?_eq_some h
theorem gap {rows:List Row}{k:List UInt8}(hs:SrtK (keysOf rows))(h:∀x∈rows,x.key≠k):∃A B,rows=A++B∧Mid A k B:=by
 induction rows with
 |nil=>exact ⟨[],[],rfl,OL,OL⟩
 |cons r rs ih=>
  obtain ⟨h1,h2⟩:=List.pairwise_cons.1 (show List.Pairwise _ (r.key::keysOf rs) from hs);cases hb:blt k r.key with
  |true=>exact ⟨[],r::rs,rfl,OL,fun x hx=>by
    rcases List.mem_cons.1 hx with rfl|hx
    ·exact hb
    ·exact Ct hb (h1 _ (List.mem_map_of_mem hx))⟩
  |false=>
   obtain ⟨A,B,rfl,hm⟩:=ih h2 (fun x hx=>h x (List.mem_cons_of_mem _ hx));refine ⟨r::A,B,rfl,fun x hx=>?_,hm.gt⟩;rcases List.mem_cons.1 hx with rfl|hx
   ·cases hb2:blt x.key k with
    |true=>rfl
    |false=>exact absurd (Ds _ _ hb2 hb) (h x (List.mem_cons_self ..))
   ·exact hm.lt x hx
theorem Ee {A B:List Row}{r:Row}{k:List UInt8}{f:Row→Row}(h:Mid A k B)(hk:r.key=k):Ly k f (A++r::B)=A++f r::B:=by
 unfold Ly;rw [List.map_append,List.map_cons,if_pos hk];congr 1
 ·conv=>rhs;rw [←List.map_id A]
  exact List.map_congr_left fun x hx=>if_neg (FI (h.lt x hx))
 ·congr 1
  conv=>rhs;rw [←List.map_id B]
  exact List.map_congr_left fun x hx=>if_neg (DI (h.gt x hx))
theorem Ea {k:List UInt8}{it:Itn}{r:Row}{B:List Row}(hk:r.key=k):∀{A:List Row},Mid A k B→FL k it (A++r::B)=A++⟨k,r.vs,it⟩::B
 |[],_=>by simp only [List.nil_append,FL];rw [if_pos hk]
 |x::A,h=>by
  have hx:=h.lt x (List.mem_cons_self ..);simp only [List.cons_append,FL];rw [if_neg (FI hx),if_neg (by rw [CO hx];simp),Ea hk ⟨fun y hy=>h.lt y (List.mem_cons_of_mem _ hy),h.gt⟩]
theorem Eb {k:List UInt8}{it:Itn}{B:List Row}:∀{A:List Row},Mid A k B→FL k it (A++B)=A++⟨k,[],it⟩::B
 |[],h=>by
  cases B with
  |nil=>rfl
  |cons x B=>
   have hx:=h.gt x (List.mem_cons_self ..);simp only [List.nil_append,FL];rw [if_neg (DI hx),if_pos hx]
 |x::A,h=>by
  have hx:=h.lt x (List.mem_cons_self ..);simp only [List.cons_append,FL];rw [if_neg (FI hx),if_neg (by rw [CO hx];simp),Eb ⟨fun y hy=>h.lt y (List.mem_cons_of_mem _ hy),h.gt⟩]
theorem Mc {rows:List Row}(h:∀r∈rows,BO r=false):Bq rows=rows:=List.filter_eq_self.2 fun r hr=>by simp [h r hr]
theorem IU {A B:List Row}{r:Row}(hA:∀x∈A,BO x=false)(hB:∀x∈B,BO x=false):Bq (A++r::B)=if BO r=true then A++B else A++r::B:=by
 have h1:=Mc hA;have h2:=Mc hB;unfold Bq at *;rw [List.filter_append,List.filter_cons,h1,h2];cases BO r <;> simp
section ok
variable {sp:Sp}{A B:List Row}{r r':Row}{fl:TStamp}
theorem SpOk.part (h:SpOk ⟨A++r::B,fl⟩):(∀x∈A,RowOk x)∧RowOk r∧(∀x∈B,RowOk x):=by
 have:=h.rows;simp only [List.mem_append,List.mem_cons] at this;exact ⟨fun x hx=>this x (.inl hx),this r (.inr (.inl rfl)),fun x hx=>this x (.inr (.inr hx))⟩
theorem SpOk.swap (h:SpOk ⟨A++r::B,fl⟩)(hk:r'.key=r.key)(hr:RowOk r'):SpOk ⟨A++r'::B,fl⟩:=by
 obtain ⟨h1,h2,h3⟩:=h.part;have e:keysOf (A++r'::B)=keysOf (A++r::B):=by simp [keysOf,hk]
 refine ⟨by simp only [e];exact h.rise,fun x hx=>?_,h.floor⟩;simp only [List.mem_append,List.mem_cons] at hx;rcases hx with hx|rfl|hx
 ·exact h1 x hx
 ·exact hr
 ·exact h3 x hx
theorem SpOk.less (h:SpOk ⟨A++r::B,fl⟩):SpOk ⟨A++B,fl⟩:=by
 obtain ⟨h1,h2,h3⟩:=h.part;refine ⟨SrtK.sub h.rise (List.Sublist.append (List.Sublist.refl _) (List.sublist_cons_self ..)),fun x hx=>?_,h.floor⟩;rcases List.mem_append.1 hx with hx|hx
 ·exact h1 x hx
 ·exact h3 x hx
theorem SpOk.more {k:List UInt8}(h:SpOk ⟨A++B,fl⟩)(hm:Mid A k B)(hr:RowOk r)(hk:r.key=k):SpOk ⟨A++r::B,fl⟩:=by
 have hr':=h.rows;simp only [List.mem_append] at hr';subst hk;refine ⟨SrtK.join (SrtK.sub h.rise (List.sublist_append_left ..)) (SrtK.sub h.rise (List.sublist_append_right ..)) hm,fun x hx=>?_,h.floor⟩;simp only [List.mem_append,List.mem_cons] at hx;rcases hx with hx|rfl|hx
 ·exact hr' x (.inl hx)
 ·exact hr
 ·exact hr' x (.inr hx)
end ok
theorem Pq {A B:List Row}{r:Row}{k:List UInt8}(h:Mid A k B)(hk:r.key=k):Bm (A++r::B) k=r.it:=by unfold Bm;rw [Bn h hk]
theorem Ok {A B:List Row}{r:Row}{k:List UInt8}(h:Mid A k B)(hk:r.key=k):Dh (A++r::B) k=r.vs:=by unfold Dh;rw [Bn h hk]
theorem Mid.notin {A B:List Row}{k:List UInt8}(h:Mid A k B):∀x∈A++B,x.key≠k:=fun x hx=>by
 rcases List.mem_append.1 hx with hx|hx
 ·exact FI (h.lt x hx)
 ·exact DI (h.gt x hx)
theorem Ps {A B:List Row}{k:List UInt8}(h:Mid A k B):Bm (A++B) k=noIt:=by unfold Bm;rw [Ew h.notin]
theorem place {rows:List Row}(k:List UInt8)(hs:SrtK (keysOf rows)):(∃A r B,rows=A++r::B∧r.key=k∧Mid A k B)∨(∃A B,rows=A++B∧Mid A k B):=by
 cases h:rowOf rows k with
 |none=>exact .inr (gap hs (RE h))
 |some r=>obtain ⟨A,B,h1,h2,h3⟩:=Iz hs h;exact .inl ⟨A,r,B,h1,h2,h3⟩
theorem Pd {x:TStamp}(h:(Bs x).2=0):AU (Bs x).1=true∧bhd (Bs x).1 x=true:=by
 unfold Bs at h ⊢;by_cases h1:AU x=false
 ·simp [h1] at h
 ·have hr:=DM (x:=x) (by simpa using h1);rw [if_neg h1] at h ⊢;by_cases h2:x.fLogic < 65535
  ·rw [if_pos h2];simp [AU,Ix,bhd];omega
  ·rw [if_neg h2] at h ⊢;by_cases h3:x.fWall=9007199254740991
   ·rw [if_pos h3] at h;simp at h
   ·rw [if_neg h3];simp [AU,Ix,bhd];omega
theorem Gs {a b c:TStamp}(h1:bhd a b=true)(h2:bhd b c=true):bhd a c=true:=by
 simp [bhd] at *; omega
theorem Pm {vs:List TVer}(h:vs.Pairwise fun a b=>bhd b.fAt a.fAt=true){v:TVer}(hl:vs.getLast? =some v):∀x∈vs,x=v∨bhd v.fAt x.fAt=true:=by
 intro x hx;obtain ⟨ys,rfl⟩:=List.getLast?_eq_some_iff.1 hl;rcases List.mem_append.1 hx with hx|hx
 ·exact .inr ((List.pairwise_append.1 h).2.2 x hx v (List.mem_singleton.2 rfl))
 ·exact .inl (List.mem_singleton.1 hx)
theorem ABK {a:TStamp}{vs:List TVer}(h:vs.Pairwise fun a b=>bhd b.fAt a.fAt=true)(ha:AU a=true)(h0:(Cu a vs.getLast?).2=0):
  AU (Cu a vs.getLast?).1=true∧∀v∈vs,bhd (Cu a vs.getLast?).1 v.fAt=true:=by
 cases hl:vs.getLast? with
 |none=>
  have:vs=[]:=List.getLast?_eq_none_iff.1 hl;subst this;exact ⟨ha,(fun v hv=>by cases hv)⟩
 |some v=>
  rw [hl] at h0;have ht:=Pm h hl;simp only [Cu] at h0 ⊢;by_cases hb:bhd a v.fAt=true
  ·rw [if_pos hb];refine ⟨ha,fun x hx=>?_⟩;rcases ht x hx with rfl|h1
   ·exact hb
   ·exact Gs hb h1
  ·rw [if_neg hb] at h0 ⊢;obtain ⟨g1,g2⟩:=Pd h0;refine ⟨g1,fun x hx=>?_⟩;rcases ht x hx with rfl|h1
   ·exact g2
   ·exact Gs g2 h1
theorem ABI {sp:Sp}{x:TIntent}(h:SpOk sp)(hx:AU x.fAt=true):AU (putAt sp x)=true:=by
 unfold putAt;have h1:AU (if bhd sp.floor x.fAt=true then sp.floor else x.fAt)=true:=by
  split
  ·exact h.floor
  ·exact hx
 simp only
 generalize (if bhd sp.floor x.fAt=true then sp.floor else x.fAt)=a at h1 ⊢;by_cases hc:(Bm sp.rows x.fKey).txn≠0∧bhd (Bm sp.rows x.fKey).ver.fAt a=true
 ·rw [if_pos hc];unfold Bm at hc ⊢;cases hr:rowOf sp.rows x.fKey with
  |none=>simp [hr,noIt] at hc
  |some r=>
   simp only [hr] at hc ⊢;rcases (h.rows r (Ca hr)).it with h2|⟨_,h2⟩
   ·rw [h2] at hc;simp [noIt] at hc
   ·exact h2.right
 ·rw [if_neg hc];exact h1
theorem UY {sp:Sp}(h:SpOk sp)(k:List UInt8):(Dh sp.rows k).Pairwise (fun a b=>bhd b.fAt a.fAt=true)∧∀v∈Dh sp.rows k,VerOk v:=by
 unfold Dh;cases hr:rowOf sp.rows k with
 |none=>exact ⟨List.Pairwise.nil,(fun v hv=>by cases hv)⟩
 |some r=>exact ⟨(h.rows r (Ca hr)).rise,(h.rows r (Ca hr)).vs⟩
theorem OG {sp:Sp}{x:TIntent}(h:SpOk sp)(h0:(Az sp x).2.2=0):¬Cz x∧AU (Az sp x).1=true∧VerOk ⟨(Az sp x).1,x.fDel,x.fValue⟩∧Bj x.fTxn=true∧An x.fKey=true:=by
 have hr:=UY h x.fKey;unfold Az at h0 ⊢;by_cases hb:Cz x
 ·rw [if_pos hb] at h0;simp at h0
 ·rw [if_neg hb] at h0 ⊢;have hb':=hb;unfold Cz at hb';simp only [not_or,not_and,Bool.not_eq_false,Nat.not_lt,Decidable.not_not] at hb';by_cases h1:(Bm sp.rows x.fKey).txn≠0∧(Bm sp.rows x.fKey).txn≠x.fTxn
  ·rw [if_pos h1] at h0;simp at h0
  ·rw [if_neg h1] at h0 ⊢;by_cases h2:(Cu (putAt sp x) (Dh sp.rows x.fKey).getLast?).2≠0
   ·rw [if_pos h2] at h0;exact absurd h0 h2
   ·rw [if_neg h2];have g:=ABK hr.1 (ABI h hb'.2.2.1) (by simpa using h2);exact ⟨hb,g.1,⟨g.1,hb'.2.2.2.1,hb'.2.2.2.2⟩,hb'.2.1,hb'.1⟩
theorem FY {n:Int}(h:Bj n=true):n≠0:=by simp [Bj] at h;omega
theorem NP {r:Row}(h:r.it.txn≠0):BO r=false:=by simp [BO,h]
theorem SpOk.put {sp:Sp}{x:TIntent}(h:SpOk sp):SpOk (CL sp x):=by
 unfold CL;by_cases h0:(Az sp x).2.2≠0
 ·rw [if_pos h0];exact h
 ·rw [if_neg h0];obtain ⟨_,h1,h2,h3,h4⟩:=OG h (by simpa using h0);obtain ⟨rows,fl⟩:=sp;rcases place x.fKey h.rise with ⟨A,r,B,e,hk,hm⟩|⟨A,B,e,hm⟩
  ·simp only at e;subst e
   rw [Ea hk hm];exact h.swap hk.symm ⟨hk ▸ h.part.2.1.key,h.part.2.1.vs,h.part.2.1.rise,.inr ⟨h3,h2⟩,NP (FY h3)⟩
  ·simp only at e;subst e
   rw [Eb hm];exact h.more hm ⟨h4,(fun v hv=>by cases hv),List.Pairwise.nil,.inr ⟨h3,h2⟩,NP (FY h3)⟩ rfl
theorem AEt {sp:Sp}{k:List UInt8}{txn:Int}{yes:Bool}{a:TStamp}(h0:(DU sp k txn yes a).1=true):(Bm sp.rows k).txn=txn∧Bj txn=true∧(yes=true→AU a=true∧bhd (Bm sp.rows k).ver.fAt a=false∧FH a (Dh sp.rows k).getLast? =false):=by
 unfold DU at h0;split at h0
 ·cases h0
 ·rename_i h1
  split at h0
  ·cases h0
  ·rename_i h2
   split at h0
   ·cases h0
   ·rename_i h3
    refine ⟨by simpa using h2,by simp_all,fun hy=>by simp_all⟩
theorem SpOk.res {sp:Sp}{k:List UInt8}{txn:Int}{yes:Bool}{a:TStamp}(h:SpOk sp):SpOk (Dl sp k txn yes a):=by
 unfold Dl;split
 ·rename_i h0
  obtain ⟨h1,h2,h3⟩:=AEt h0;obtain ⟨rows,fl⟩:=sp;rcases place k h.rise with ⟨A,r,B,e,hk,hm⟩|⟨A,B,e,hm⟩
  ·simp only at e;subst e
   simp only [Pq hm hk,Ok hm hk] at h1 h3;obtain ⟨p1,p2,p3⟩:=h.part;rw [Ee hm hk,IU (fun x hx=>(p1 x hx).some) (fun x hx=>(p3 x hx).some)];split
   ·exact h.less
   ·rename_i he
    refine h.swap rfl ⟨p2.key,?_,?_,.inl rfl,by simpa using he⟩
    ·intro v hv;unfold HK at hv;simp only at hv
     split at hv
     ·rename_i hy
      rcases List.mem_append.1 hv with hv|hv
      ·exact p2.vs v hv
      ·simp only [List.mem_singleton] at hv;subst hv;rcases p2.it with h4|⟨_,h4⟩
       ·rw [h4] at h1;exact absurd h1.symm (FY h2)
       ·exact ⟨(h3 hy).1,h4.len,h4.del⟩
     ·exact p2.vs v hv
    ·unfold HK;simp only
     split
     ·rename_i hy
      refine List.pairwise_append.2 ⟨p2.rise,List.pairwise_singleton ..,fun u hu v hv=>?_⟩;simp only [List.mem_singleton] at hv;subst hv;have h5:=(h3 hy).2.2;cases hl:r.vs.getLast? with
      |none=>rw [List.getLast?_eq_none_iff.1 hl] at hu;cases hu
      |some w=>
       rw [hl] at h5;simp [FH] at h5;rcases Pm p2.rise hl u hu with rfl|h6
       ·exact h5
       ·exact Gs h5 h6
     ·exact p2.rise
  ·simp only at e;subst e
   rw [Ps hm] at h1;exact absurd h1.symm (FY h2)
 ·exact h
theorem GR (fl:TStamp)(r:Row):(CJ fl r).key=r.key:=by unfold CJ;split <;> rfl
theorem OV (fl:TStamp)(r:Row):(CJ fl r).it=r.it:=by unfold CJ;split <;> rfl
theorem IE (fl:TStamp)(r:Row):(CJ fl r).vs.Sublist r.vs:=by
 unfold CJ;split
 ·exact List.Sublist.refl _
 ·exact List.filter_sublist
theorem SpOk.col {sp:Sp}{b:TStamp}(h:SpOk sp):SpOk (colS sp b):=by
 unfold colS;split
 ·exact h
 ·rename_i hb
  refine ⟨?_,fun x hx=>?_,?_⟩
  ·have e:keysOf (sp.rows.map (CJ (Cn sp b)))=keysOf sp.rows:=by simp [keysOf,GR,Function.comp_def]
   exact SrtK.sub (show SrtK (keysOf (sp.rows.map (CJ (Cn sp b)))) from e ▸ h.rise) List.filter_sublist
  ·simp only [Bq,List.mem_filter,List.mem_map] at hx;obtain ⟨⟨r,hr,rfl⟩,he⟩:=hx;have ho:=h.rows r hr;exact ⟨by rw [GR];exact ho.key,fun v hv=>ho.vs v ((IE _ r).subset hv),ho.rise.sublist (IE _ r),by rw [OV];exact ho.it,by simpa using he⟩
  ·simp only [Cn];split
   ·simpa using hb
   ·exact h.floor
theorem AEx {sp:Sp}{x:TIntent}(h:SpOk sp):(CL sp x).rows.length≤sp.rows.length+1∧Ah (CL sp x).rows=Ah sp.rows:=by
 unfold CL;split
 ·exact ⟨by omega,rfl⟩
 ·obtain ⟨rows,fl⟩:=sp;rcases place x.fKey h.rise with ⟨A,r,B,e,hk,hm⟩|⟨A,B,e,hm⟩
  ·simp only at e;subst e
   simp only [Ea hk hm];simp [Ah]
  ·simp only at e;subst e
   simp only [Eb hm];simp [Ah];omega
theorem GW {A B:List Row}(h:A.Sublist B):Ah A≤Ah B:=by
 unfold Ah;have:∀{a b:List Nat},a.Sublist b→a.sum≤b.sum:=by
  intro a b h;induction h with
  |slnil=>exact Nat.le_refl _
  |cons x h ih=>simp;omega
  |cons_cons x h ih=>simp;omega
 exact this (h.map _)
theorem UZ {rows:List Row}{f:Row→Row}(h:∀r∈rows,(f r).vs.length≤r.vs.length):Ah (rows.map f)≤Ah rows:=by
 induction rows with
 |nil=>exact Nat.le_refl _
 |cons r rs ih=>
  have h1:=h r (List.mem_cons_self ..);have h2:=ih (fun x hx=>h x (List.mem_cons_of_mem _ hx));simp [Ah] at h2 ⊢;omega
theorem Ny {sp:Sp}{k:List UInt8}{txn:Int}{yes:Bool}{a:TStamp}(h:SpOk sp):(Dl sp k txn yes a).rows.length≤sp.rows.length∧Ah (Dl sp k txn yes a).rows≤Ah sp.rows+1:=by
 unfold Dl;split
 ·obtain ⟨rows,fl⟩:=sp;refine ⟨Nat.le_trans (List.length_filter_le ..) (by simp [Ly]),Nat.le_trans (GW List.filter_sublist) ?_⟩;rcases place k h.rise with ⟨A,r,B,e,hk,hm⟩|⟨A,B,e,hm⟩
  ·simp only at e;subst e
   rw [Ee hm hk];simp only [Ah,HK,List.map_append,List.map_cons,List.sum_append,List.sum_cons];split <;> simp <;> omega
  ·simp only at e;subst e
   rw [show Ly k (HK yes a) (A++B)=A++B from by
    unfold Ly;conv=>rhs;rw [←List.map_id (A++B)]
    exact List.map_congr_left fun x hx=>if_neg (hm.notin x hx)]
   exact Nat.le_succ _
 ·exact ⟨Nat.le_refl _,by omega⟩
theorem AFS {sp:Sp}{b:TStamp}:(colS sp b).rows.length≤sp.rows.length∧Ah (colS sp b).rows≤Ah sp.rows:=by
 unfold colS;split
 ·exact ⟨Nat.le_refl _,Nat.le_refl _⟩
 ·refine ⟨Nat.le_trans (List.length_filter_le ..) (by simp),Nat.le_trans (GW List.filter_sublist) (UZ fun r _=>(IE _ r).length_le)⟩
class RemL (b:Nat) (L:LH) (o:outParam Obj) (L':outParam LH):Prop where
 ex:∃L1 L2,L=L1++(b,o)::L2∧L'=L1++L2
instance remRight (b:Nat)(A L:LH)(o:Obj)(L':LH)[h:RemL b L o L']:RemL b (A++L) o (A++L'):=by
 obtain ⟨L1,L2,rfl,rfl⟩:=h.ex;exact ⟨A++L1,L2,by simp,by simp⟩
instance remThere (b:Nat)(x:Nat×Obj)(L:LH)(o:Obj)(L':LH)[h:RemL b L o L']:RemL b (x::L) o (x::L'):=by
 obtain ⟨L1,L2,rfl,rfl⟩:=h.ex;exact ⟨x::L1,L2,rfl,rfl⟩
instance remHere (b:Nat)(o:Obj)(L:LH):RemL b ((b,o)::L) o L:=⟨[],L,rfl,rfl⟩
section
variable {I:Imm}{L L':LH}{l D:Nat}{Lo:LoF}{K:Value→M}{A:M}
theorem Vr [u:UpL l L (Lo .ready none) (Lo .busy none) L'](h:A I L'):AJJ l Lo A I L:=by
 obtain ⟨L1,L2,rfl,rfl⟩:=u.up;exact ⟨L1,L2,rfl,h⟩
theorem QD [u:UpL l L (Lo .busy none) (Lo .ready none) L'](h:K (.bool true) I L'):Lt l Lo none K I L:=by
 obtain ⟨L1,L2,rfl,rfl⟩:=u.up;exact ⟨L1,L2,rfl,h⟩
theorem UF {c:Code}[u:UpL l L (Lo .busy none) (Lo .done (some c)) L'](h:K (.bool false) I L'):Lt l Lo (some c) K I L:=by
 obtain ⟨L1,L2,rfl,rfl⟩:=u.up;exact ⟨L1,L2,rfl,h⟩
theorem tak [r:RemL D L (.deferred (some [])) L'](h:A I L'):Tak D A I L:=by
 obtain ⟨L1,L2,rfl,rfl⟩:=r.ex;exact ⟨L1,L2,rfl,h⟩
theorem QG {J:Option Code→M}{s:LoopState}{j:Option Code}[r:RemL l L (Lo s j) L'](hs:s≠.busy)(h:J j I L'):SG l Lo J I L:=by
 obtain ⟨L1,L2,rfl,rfl⟩:=r.ex;exact ⟨L1,L2,s,j,hs,rfl,h⟩
theorem UU {B:RB}[u:InL l L (Lo .ready none)](h:B (AJJ l Lo) (Lt l Lo none K) (fun id=>Lt l Lo (some (.exit id)) K) (Lt l Lo (some .ret) K) I L):AJG l Lo B K I L:=by
 obtain ⟨L1,L2,h1⟩:=List.append_of_mem u.mem;exact ⟨⟨L1,L2,h1⟩,h⟩
end
abbrev Nts:=List UInt8→Option (Bool×List UInt8)
def Di (nt:Nts)(k:List UInt8)(x:Bool×List UInt8):Nts:=fun q=>if q=k then some x else nt q
def EI (v:TVer):List Value:=[.int .i64 v.fAt.fWall,.int .i64 v.fAt.fLogic,.bool v.fDel,BW v.fValue]
def DV (l:List TVer):List Value:=l.flatMap EI
abbrev Aw (sl:Value)(x:Itn):Obj:=.cells #[sl,.int .i64 x.ver.fAt.fWall,.int .i64 x.ver.fAt.fLogic,.bool x.ver.fDel,BW x.ver.fValue,.int .i64 x.txn] 257 (0,0)
abbrev spO (m:Nat)(kv:Value)(fl:TStamp)(ch:Nat):Obj:=.cells #[.map (some m),kv,.int .i64 fl.fWall,.int .i64 fl.fLogic,.map (some ch)] 179 (0,0)
abbrev pt (p:Nat):Value:=.pointer (some ⟨p,0,none⟩)
theorem Ed {I:Imm}:∀(l:List TVer),Recs (TVerV I) 4 l (DV l)
 |[]=>rfl
 |x::l=>⟨rfl,rfl,by
  have:(DV (x::l)).drop 4=DV l:=rfl;rw [this];exact Ed l⟩
theorem IQ (l:List TVer):(DV l).length=l.length * 4:=(Ed (I:=fun _=>none) l).length
abbrev VsO (Y:LH)(sl:Value)(vs:List TVer):Prop:=SlO 253 4 Y sl (DV vs) vs.length
def RowsR:LH→List Nat→List Row→Prop
 |X,[],[]=>X=[]
 |X,p::ps,r::rs=>∃sl Y Z,X.Perm ((p,Aw sl r.it)::(Y++Z))∧VsO Y sl r.vs∧RowsR Z ps rs
 |_,_,_=>False
theorem RowsR.len:∀{ps:List Nat} {rs:List Row} {X:LH},RowsR X ps rs→ps.length=rs.length
 |[],[],_,_=>rfl
 |p::ps,r::rs,X,⟨sl,Y,Z,h1,h2,h3⟩=>by simp [RowsR.len h3]
theorem RowsR.pick {B:List Row}{r:Row}{Q:List Nat}{p:Nat}:∀{P:List Nat} {A:List Row} {X:LH},P.length=A.length→RowsR X (P++p::Q) (A++r::B)→
  ∃sl Y Z,X.Perm ((p,Aw sl r.it)::(Y++Z))∧VsO Y sl r.vs∧RowsR Z (P++Q) (A++B)
 |[],[],X,_,h=>h
 |q::P,a::A,X,hl,⟨sl,Y,Z,h1,h2,h3⟩=>by
  obtain ⟨sl',Y',Z',g1,g2,g3⟩:=RowsR.pick (P:=P) (A:=A) (by simpa using hl) h3;refine ⟨sl',Y',(q,Aw sl a.it)::(Y++Z'),AQ ?_,g2,sl,Y,Z',List.Perm.refl _,h2,g3⟩;rw [BH h1,AN,AP,BH g1]
  ((try simp only [AN,AP,Aa,AR]);(try ac_rfl))
 |[],_::_,_,hl,_=>by simp at hl
 |_::_,[],_,hl,_=>by simp at hl
theorem RowsR.put {B:List Row}{r:Row}{Q:List Nat}{p:Nat}{sl:Value}{Y:LH}:∀{P:List Nat} {A:List Row} {X Z:LH},P.length=A.length→X.Perm ((p,Aw sl r.it)::(Y++Z))→VsO Y sl r.vs→RowsR Z (P++Q) (A++B)→RowsR X (P++p::Q) (A++r::B)
 |[],[],X,Z,_,h1,h2,h3=>⟨sl,Y,Z,h1,h2,h3⟩
 |q::P,a::A,X,Z,hl,h1,h2,⟨sl',Y',Z',g1,g2,g3⟩=>by
  refine ⟨sl',Y',(p,Aw sl r.it)::(Y++Z'),AQ ?_,g2,RowsR.put (P:=P) (A:=A) (by simpa using hl) (List.Perm.refl _) h2 g3⟩;rw [BH h1,AN,AP,BH g1]
  ((try simp only [AN,AP,Aa,AR]);(try ac_rfl))
 |[],_::_,_,_,hl,_,_,_=>by simp at hl
 |_::_,[],_,_,hl,_,_,_=>by simp at hl
def BA (ps:List Nat)(rows:List Row):List UInt8→Option Value:=fun k=>((ps.zip rows).find? fun q=>q.2.key==k).map fun q=>pt q.1
theorem MU {P:List Nat}{A:List Row}{k:List UInt8}(h:∀x∈A,x.key≠k):(P.zip A).find? (fun q=>q.2.key==k)=none:=
 List.find?_eq_none.2 fun q hq=>by
  have:=h q.2 (List.of_mem_zip hq).2;simpa using this
theorem DR {P Q:List Nat}{A B:List Row}{p:Nat}{r:Row}{k:List UInt8}(hl:P.length=A.length)(hm:Mid A k B)(hk:r.key=k):BA (P++p::Q) (A++r::B) k=some (pt p):=by
 unfold BA;rw [List.zip_append hl,List.find?_append,MU (fun x hx=>FI (hm.lt x hx))];simp [hk]
theorem Fo {P:List Nat}{A:List Row}{k:List UInt8}(h:∀x∈A,x.key≠k):BA P A k=none:=by
 unfold BA;rw [MU h];rfl
theorem Es {P Q:List Nat}{A B:List Row}{p:Nat}{r:Row}{k:List UInt8}(hl:P.length=A.length)(hm:Mid A k B)(hk:r.key=k):BA (P++p::Q) (A++r::B)=Fv (BA (P++Q) (A++B)) k (some (pt p)):=by
 funext q
 unfold Fv;by_cases hq:q=k
 ·rw [if_pos hq,hq,DR hl hm hk]
 ·rw [if_neg hq];unfold BA;rw [List.zip_append hl,List.zip_append hl,List.find?_append,List.find?_append,List.zip_cons_cons,List.find?_cons_of_neg (by simp [hk];exact fun e=>hq e.symm)]
theorem Lk {P Q:List Nat}{A B:List Row}{p:Nat}{r:Row}{k:List UInt8}(hl:P.length=A.length)(hm:Mid A k B)(hk:r.key=k):BA (P++Q) (A++B)=Fv (BA (P++p::Q) (A++r::B)) k none:=by
 rw [Es hl hm hk];funext q
 unfold Fv;by_cases hq:q=k
 ·rw [if_pos hq,hq,Fo hm.notin]
 ·rw [if_neg hq,if_neg hq]
theorem JR {P Q:List Nat}{A B:List Row}{p:Nat}{r r':Row}(hl:P.length=A.length)(hm:Mid A r.key B)(hk:r'.key=r.key):BA (P++p::Q) (A++r'::B)=BA (P++p::Q) (A++r::B):=by
 rw [Es hl hm hk,Es hl hm rfl]
theorem Hi {ps:List Nat}{A B:List Row}{r:Row}(h:ps.length=(A++r::B).length):∃P p Q,ps=P++p::Q∧P.length=A.length∧Q.length=B.length:=by
 rw [List.length_append,List.length_cons] at h;refine ⟨ps.take A.length,ps[A.length]'(by omega),ps.drop (A.length+1),?_,by simp;omega,by simp;omega⟩;rw [←List.drop_eq_getElem_cons (by omega),List.take_append_drop]
theorem Mf {ps:List Nat}{A B:List Row}(h:ps.length=(A++B).length):∃P Q,ps=P++Q∧P.length=A.length∧Q.length=B.length:=by
 rw [List.length_append] at h;exact ⟨ps.take A.length,ps.drop A.length,(List.take_append_drop ..).symm,by simp;omega,by simp;omega⟩
def NotesR (I:Imm)(mm:List UInt8→Option Value)(nt:Nts):Prop:=∀k,(nt k=none∧mm k=none)∨∃d l kv v,nt k=some (d,l)∧mm k=some (.agg #[.bool d,kv,v])∧Bytes I kv k∧Bytes I v l
theorem NotesR.mono {I I':Imm}{mm:List UInt8→Option Value}{nt:Nts}(h:NotesR I mm nt)(hI:Ext I I'):NotesR I' mm nt:=fun k=>by
 rcases h k with h|⟨d,l,kv,v,h1,h2,h3,h4⟩
 ·exact .inl h
 ·exact .inr ⟨d,l,kv,v,h1,h2,h3.mono hI,h4.mono hI⟩
def NtR (I:Imm)(ch:Nat)(X:LH)(nt:Nts):Prop:=∃ces cclock mm,X=[(ch,.map ces cclock)]∧MapS ces cclock mm∧NotesR I mm nt
theorem NtR.mono {I I':Imm}{ch:Nat}{X:LH}{nt:Nts}(h:NtR I ch X nt)(hI:Ext I I'):NtR I' ch X nt:=by
 obtain ⟨ces,cclock,mm,h1,h2,h3⟩:=h;exact ⟨ces,cclock,mm,h1,h2,h3.mono hI⟩
structure SpF (I:Imm)(ch:Nat)(kv:Value)(es:Array MapEntry)(clock:Nat)(ps:List Nat)(KX RX NX:LH)(sp:Sp)(nt:Nts):Prop where
 map:MapS es clock (BA ps sp.rows)
 keys:StrO KX kv (keysOf sp.rows)
 rows:RowsR RX ps sp.rows
 nts:NtR I ch NX nt
def SpP (I:Imm)(b:Nat)(ps:List Nat)(X:LH)(sp:Sp)(nt:Nts):Prop:=∃m ch kv es clock KX RX NX,X.Perm ((b,spO m kv sp.floor ch)::(m,.map es clock)::(KX++(RX++NX)))∧SpF I ch kv es clock ps KX RX NX sp nt
theorem SpF.mono {I I':Imm}{ch:Nat}{kv:Value}{es:Array MapEntry}{clock:Nat}{ps:List Nat}{KX RX NX:LH}{sp:Sp}{nt:Nts}(h:SpF I ch kv es clock ps KX RX NX sp nt)(hI:Ext I I'):SpF I' ch kv es clock ps KX RX NX sp nt:=⟨h.map,h.keys,h.rows,h.nts.mono hI⟩
def SpR (I:Imm)(b:Nat)(X:LH)(sp:Sp)(nt:Nts):Prop:=∃ps,SpP I b ps X sp nt
theorem SpP.mono {I I':Imm}{b:Nat}{ps:List Nat}{X:LH}{sp:Sp}{nt:Nts}(h:SpP I b ps X sp nt)(hI:Ext I I'):SpP I' b ps X sp nt:=by
 obtain ⟨m,ch,kv,es,clock,KX,RX,NX,h1,h2⟩:=h;exact ⟨m,ch,kv,es,clock,KX,RX,NX,h1,h2.mono hI⟩
theorem SpR.mono {I I':Imm}{b:Nat}{X:LH}{sp:Sp}{nt:Nts}(h:SpR I b X sp nt)(hI:Ext I I'):SpR I' b X sp nt:=by
 obtain ⟨ps,h⟩:=h;exact ⟨ps,h.mono hI⟩
section
variable {ω:Om}{I:Imm}{L:LH}{K:Value→M}
theorem Mx {b m ch:Nat}{kv a1 a2:Value}{fl:TStamp}{NX F:LH}{nt:Nts}{d:Bool}{k l:List UInt8}(hN:NtR I ch NX nt)(h1:Bytes I a1 k)(h2:Bytes I a2 l)
  (hk:∀NX',NtR I ch NX' (Di nt k (d,l))→K (.tuple #[]) I ((b,spO m kv fl ch)::(NX'++F))):
  CT ω 187 #[pt b,a1,a2,.bool d] K I ((b,spO m kv fl ch)::(NX++F)):=by
 obtain ⟨ces,cclock,mm,rfl,hm,hn⟩:=hN;refine AHo ?_;unfold Xu;refine AK ?_;try simp only [SSd,Nat.reduceAdd]
 refine AV ?_;refine BS h1 (Ext.refl _) ?_;obtain ⟨ka,kc,rfl⟩:=Bytes.form h1;obtain ⟨va,vc,rfl⟩:=Bytes.form h2;try simp only [SSd,Nat.reduceAdd]
 obtain ⟨es',c',he,hm'⟩:=hm.put k (.agg #[.bool d,.slice ka k.length kc,.slice va l.length vc]);refine AEw hm he ?_;refine Gh.done (Gh.done (hk [(ch,.map es' c')] ⟨es',c',_,rfl,hm',fun q=>?_⟩));unfold Di Fv;by_cases hq:q=k
 ·subst hq;simp only [if_true];exact .inr ⟨d,l,_,_,rfl,rfl,h1,h2⟩
 ·simp only [if_neg hq];exact hn q
theorem KJ {b:Nat}{ps:List Nat}{a1 a2:Value}{X F:LH}{sp:Sp}{nt:Nts}{d:Bool}{k l:List UInt8}(hS:SpP I b ps X sp nt)(h1:Bytes I a1 k)(h2:Bytes I a2 l)
  (hk:∀X',SpP I b ps X' sp (Di nt k (d,l))→K (.tuple #[]) I (X'++F)):CT ω 187 #[pt b,a1,a2,.bool d] K I (X++F):=by
 obtain ⟨m,ch,kv,es,clock,KX,RX,NX,hp,hF⟩:=hS;refine Cal.gh (Cal.perm (L':=(b,spO m kv sp.floor ch)::(NX++((m,.map es clock)::(KX++(RX++F))))) (AQ (by rw [AP,BH hp];((try simp only [AN,AP,Aa,AR]);(try ac_rfl)))) (Mx hF.nts h1 h2 fun NX' h'=>?_));refine Gh.perm (L':=((b,spO m kv sp.floor ch)::(m,.map es clock)::(KX++(RX++NX')))++F) (AQ (by ((try simp only [AN,AP,Aa,AR]);(try ac_rfl)))) (Gh.done (hk _ ⟨m,ch,kv,es,clock,KX,RX,NX',List.Perm.refl _,hF.map,hF.keys,hF.rows,h'⟩))
theorem Ie {b:Nat}{ps:List Nat}{X F:LH}{sp:Sp}{nt:Nts}{k:List UInt8}{v:TVer}(hS:SpP I b ps X sp nt)(hr:AU v.fAt=true)(hl:k.length≤1000000000)(hvl:v.fValue.length≤1000000000)
  (hk:∀X' I',Ext I I'→SpP I' b ps X' sp (Di nt (Lx k v) (false,CU v))→K (.tuple #[]) I' (X'++F)):
  CT ω 189 #[pt b,BW k,vv v] K I (X++F):=by
 refine ACD ?_;unfold Sq;refine AM (fun q=>?_);refine AK ?_;refine Ae rfl ?_;refine CI (IP hr hl (fun X1 u I1 hI1 hX=>?_));refine OB.freeze hX (fun I2 hI2 hB=>Gh.done ?_);refine JM (hI1.trans hI2) (fun x hx=>hx) ?_;refine Ae rfl ?_;refine CI (GY hvl (fun X3 u3 hX3=>?_));refine OB.freeze hX3 (fun I3 hI3 hB3=>Gh.done ?_);refine call (Cal.to (X++F) ?_);refine KJ (hS.mono (hI1.trans (hI2.trans hI3))) (hB.mono hI3) hB3 (fun X' h'=>?_);exact Gh.done (hk X' I3 (hI1.trans (hI2.trans hI3)) h')
theorem LB {b:Nat}{ps:List Nat}{X F:LH}{sp:Sp}{nt:Nts}(hS:SpP I b ps X sp nt)(hr:AU sp.floor=true)
  (hk:∀X' I',Ext I I'→SpP I' b ps X' sp (Di nt [102] (false,stF sp.floor))→K (.tuple #[]) I' (X'++F)):
  CT ω 131 #[pt b] K I (X++F):=by
 have hS0:=hS;obtain ⟨m,ch,kv,es,clock,KX,RX,NX,hp,hF⟩:=hS;have hmem:(b,spO m kv sp.floor ch)∈X:=hp.mem_iff.2 (List.mem_cons_self ..);refine ACH ?_;unfold TV;try simp only [SSd,Nat.reduceAdd]
 refine rdN (vs:=[.int .i64 sp.floor.fWall,.int .i64 sp.floor.fLogic]) rfl (fun j u hu=>Cell.own (List.mem_append_left _ hmem) ?_) ?_
 ·match j,hu with
  |0,hu=>simpa using hu
  |1,hu=>simpa using hu
 refine CI (EE (x:=sp.floor) hr (fun X1 u hX=>?_));refine OB.freeze hX (fun I2 hI2 hB=>Gh.done ?_);try simp only [SSd,Nat.reduceAdd]
 refine by1 (c:=102) (fun X1 u1 h1=>OB.freeze h1 (fun I3 hI3 hB3=>Gh.done ?_));refine call (KJ (hS0.mono (hI2.trans hI3)) hB3 (hB.mono hI3) (fun X' h'=>?_));exact Gh.done (hk X' I3 (hI2.trans hI3) h')
def FE (x:Itn):Bool×List UInt8:=if x.txn=0 then (true,[]) else (false,stF x.ver.fAt++Hc x.txn.toNat++CU x.ver)
def CellV (I:Imm)(L:LH)(p:Nat)(r:Row):Prop:=∃sl,Cells I L p 0 [sl,.int .i64 r.it.ver.fAt.fWall,.int .i64 r.it.ver.fAt.fLogic,.bool r.it.ver.fDel,BW r.it.ver.fValue,.int .i64 r.it.txn]∧RL TVerV 4 I L sl r.vs
structure ViewF (I:Imm)(L:LH)(b m:Nat)(kv:Value)(es:Array MapEntry)(clock:Nat)(ps:List Nat)(sp:Sp):Prop where
 head:Cells I L b 0 [.map (some m),kv,.int .i64 sp.floor.fWall,.int .i64 sp.floor.fLogic]
 at':MapAt I L m es clock
 map:MapS es clock (BA ps sp.rows)
 keys:AFb I L kv (keysOf sp.rows)
 len:ps.length=sp.rows.length
 cell:∀(i p:Nat) r,ps[i]? =some p→sp.rows[i]? =some r→CellV I L p r
def SD (I:Imm)(L:LH)(b:Nat)(sp:Sp):Prop:=∃m kv es clock ps,ViewF I L b m kv es clock ps sp
theorem CellV.mono {I I':Imm}{L L':LH}{p:Nat}{r:Row}(h:CellV I L p r)(hI:Ext I I')(hL:∀x∈L,x∈L'):CellV I' L' p r:=by
 obtain ⟨sl,h1,h2⟩:=h;exact ⟨sl,h1.mono hI hL,h2.mono (fun x c h=>TVerV.mono h hI) hI hL⟩
theorem MapAt.mono {I I':Imm}{L L':LH}{m:Nat}{es:Array MapEntry}{clock:Nat}(h:MapAt I L m es clock)(hI:Ext I I')(hL:∀x∈L,x∈L'):MapAt I' L' m es clock:=h.imp (hL _) (hI _ _)
theorem ViewF.mono {I I':Imm}{L L':LH}{b m:Nat}{kv:Value}{es:Array MapEntry}{clock:Nat}{ps:List Nat}{sp:Sp}(h:ViewF I L b m kv es clock ps sp)(hI:Ext I I')(hL:∀x∈L,x∈L'):ViewF I' L' b m kv es clock ps sp:=
 ⟨h.head.mono hI hL,MapAt.mono h.at' hI hL,h.map,h.keys.mono (fun x c h=>StrV.mono h hI) hI hL,h.len,fun i p r h1 h2=>(h.cell i p r h1 h2).mono hI hL⟩
theorem Cb {L:LH}{b:Nat}{l:List Value}{T:Nat}{fr:Nat×Nat}(h:(b,Obj.cells l.toArray T fr)∈L)(n:Nat):Cells I L b 0 (l.take n):=fun j u hu=>Cell.own h (by
 rw [List.getElem?_take] at hu;split at hu
 ·simpa using hu
 ·cases hu)
theorem VsO.rl {Y L:LH}{sl:Value}{vs:List TVer}(h:VsO Y sl vs)(hY:∀x∈Y,x∈L):RL TVerV 4 I L sl vs:=by
 have hn:=h.news (I:=I) hY;obtain ⟨_,hh⟩:=h;rcases hh with ⟨_,h0,a,rfl⟩|⟨b,cap,cs,_,rfl,_,hle,_⟩
 ·refine ⟨a,0,_,?_,by omega,hn,Ed vs⟩;rw [h0]
 ·exact ⟨_,cap,_,rfl,hle,hn,Ed vs⟩
theorem RowsR.cell {L:LH}:∀{ps:List Nat} {rs:List Row} {X:LH},RowsR X ps rs→(∀x∈X,x∈L)→∀(i p:Nat) r,ps[i]? =some p→rs[i]? =some r→CellV I L p r
 |[],[],_,_,_,i,p,r,h1,_=>by simp at h1
 |q::ps,a::rs,X,⟨sl,Y,Z,h1,h2,h3⟩,hL,0,p,r,g1,g2=>by
  simp only [List.getElem?_cons_zero,Option.some.injEq] at g1 g2;subst g1 g2;exact ⟨sl,Cb (hL _ (h1.mem_iff.2 (List.mem_cons_self ..))) 6,h2.rl (fun x hx=>hL _ (h1.mem_iff.2 (by simp [hx])))⟩
 |q::ps,a::rs,X,⟨sl,Y,Z,h1,h2,h3⟩,hL,i+1,p,r,g1,g2=>
  RowsR.cell h3 (fun x hx=>hL _ (h1.mem_iff.2 (by simp [hx]))) i p r (by simpa using g1) (by simpa using g2)
theorem SpP.view {b:Nat}{ps:List Nat}{X L:LH}{sp:Sp}{nt:Nts}(h:SpP I b ps X sp nt)(hL:∀x∈X,x∈L):SD I L b sp:=by
 obtain ⟨m,ch,kv,es,clock,KX,RX,NX,hp,hF⟩:=h;have hmem:∀x,x∈((b,spO m kv sp.floor ch)::(m,Obj.map es clock)::(KX++(RX++NX)))→x∈L:=fun x hx=>hL _ (hp.mem_iff.2 hx);refine ⟨m,kv,es,clock,ps,Cb (hmem _ (List.mem_cons_self ..)) 4,.inl (hmem _ (by simp)),hF.map,StrO.rl hF.keys (fun x hx=>hmem _ (by simp [hx])),hF.rows.len,hF.rows.cell (fun x hx=>hmem _ (by simp [hx]))⟩
theorem SpR.view {b:Nat}{X L:LH}{sp:Sp}{nt:Nts}(h:SpR I b X sp nt)(hL:∀x∈X,x∈L):SD I L b sp:=by
 obtain ⟨ps,h⟩:=h;exact h.view hL
theorem ViewF.look {b m:Nat}{kv:Value}{es:Array MapEntry}{clock:Nat}{ps:List Nat}{sp:Sp}(h:ViewF I L b m kv es clock ps sp)(hs:SrtK (keysOf sp.rows))(k:List UInt8):
  (rowOf sp.rows k=none∧BA ps sp.rows k=none)∨∃r p,rowOf sp.rows k=some r∧BA ps sp.rows k=some (pt p)∧CellV I L p r∧r.key=k:=by
 have hlen:=h.len;have hcell:=h.cell;obtain ⟨rows,fl⟩:=sp;rcases place k hs with ⟨A,r,B,e,hk,hm⟩|⟨A,B,e,hm⟩
 ·simp only at e;subst e
  obtain ⟨P,p,Q,rfl,hl,_⟩:=Hi hlen;refine .inr ⟨r,p,Bn hm hk,DR hl hm hk,hcell A.length p r ?_ ?_,hk⟩
  ·rw [←hl];simp
  ·simp
 ·simp only at e;subst e
  exact .inl ⟨Ew hm.notin,Fo hm.notin⟩
theorem itC {r:Row}{L:LH}{p:Nat}{sl:Value}(h:Cells I L p 0 [sl,.int .i64 r.it.ver.fAt.fWall,.int .i64 r.it.ver.fAt.fLogic,.bool r.it.ver.fDel,BW r.it.ver.fValue,.int .i64 r.it.txn]):
  Cell I L p 0 sl∧Cells I L p 1 [.int .i64 r.it.ver.fAt.fWall,.int .i64 r.it.ver.fAt.fLogic]∧Cells I L p 1 [.int .i64 r.it.ver.fAt.fWall,.int .i64 r.it.ver.fAt.fLogic,.bool r.it.ver.fDel,BW r.it.ver.fValue]∧Cell I L p 3 (.bool r.it.ver.fDel)∧Cell I L p 4 (BW r.it.ver.fValue)∧Cell I L p 5 (.int .i64 r.it.txn)∧
  Cells I L p 1 [.int .i64 r.it.ver.fAt.fWall,.int .i64 r.it.ver.fAt.fLogic,.bool r.it.ver.fDel,BW r.it.ver.fValue,.int .i64 r.it.txn]:=
 ⟨h 0 _ rfl,by simpa using h.sub (k:=1) (m:=2),by simpa using h.sub (k:=1) (m:=4),by simpa using h 3 _ rfl,by simpa using h 4 _ rfl,by simpa using h 5 _ rfl,by simpa using h.sub (k:=1) (m:=5)⟩
theorem EJ {b:Nat}{ps:List Nat}{X F:LH}{sp:Sp}{nt:Nts}{k:List UInt8}{r:Row}(hS:SpP I b ps X sp nt)(hs:SrtK (keysOf sp.rows))(hr:rowOf sp.rows k=some r)
  (ht:0≤r.it.txn∧r.it.txn < 9223372036854775808) (hri:r.it.txn≠0→AU r.it.ver.fAt=true) (hl:k.length≤1000000000) (hvl:r.it.ver.fValue.length≤1000000000)
  (hk:∀X' I',Ext I I'→SpP I' b ps X' sp (Di nt (105::k) (FE r.it))→K (.tuple #[]) I' (X'++F)):
  CT ω 190 #[pt b,BW k] K I (X++F):=by
 obtain ⟨m,kv,es,clock,ps',hV⟩:=hS.view (L:=X++F) (fun x hx=>List.mem_append_left _ hx);obtain ⟨h0,_⟩|⟨r',p,h1,hc,⟨sl,hC,hVs⟩,hkr⟩:=hV.look hs k
 ·rw [hr] at h0;cases h0
 obtain rfl:r'=r:=by rw [hr] at h1;exact (Option.some.inj h1).symm
 obtain ⟨c0,c1,c14,c3,c4,c5,_⟩:=itC hC;refine ACC ?_;unfold So;refine by1 (c:=105) (fun X1 u1 h1=>Gh.done ?_);refine Fk (y:=k) h1 (.inr (.inr ⟨_,rfl,rfl,by simp [ByteArray.size],by simp [u8s]⟩)) (by simp;omega) (fun X2 u2 h2=>?_);refine OB.freeze h2 (fun I2 hI2 hB2=>Gh.done ?_);try simp only [SSd,Nat.reduceAdd]
 refine rdC (hV.head 0 _ rfl) hI2 ?_;refine ⟨_,FS ((MapAt.mono hV.at' hI2 (fun x hx=>by simp [hx]))) hV.map,?_⟩;simp only [hc,lkV];simp only [Bool.false_eq_true,if_false,SSd,Nat.reduceAdd];refine rdC c5 hI2 ?_;try simp only [SSd,Nat.reduceAdd]
 refine AD (fun e=>?_) (fun e=>?_)
 ·simp at e;refine call (Cal.to (X++F) ?_);refine KJ (hS.mono hI2) hB2 (show Bytes I2 _ [] from SlI.nil I2 1 none 0) (fun X' h'=>?_);refine Gh.done (hk X' I2 hI2 ?_);unfold FE;rw [if_pos e];exact h'
 ·simp at e;refine FO c1 hI2 rfl ?_;have hs9:(stF r'.it.ver.fAt).length=9:=rfl;have hv9:=Qk (n:=r'.it.txn.toNat) (by omega);refine CI (EE (hri e) (fun X3 u3 h3=>Gh.done ?_));try simp only [SSd,Nat.reduceAdd]
  refine rdC c5 hI2 ?_;try simp only [SSd,Nat.reduceAdd]
  rw [wrap_u64 _ ht.1 (by omega),show r'.it.txn=((r'.it.txn.toNat:Nat):Int) by omega];refine call (JE (by omega) (fun u4 I4 hI4 hB4=>?_));refine Fk (y:=Hc r'.it.txn.toNat) h3 (SlI.news hB4) (by omega) (fun X5 u5 h5=>Gh.done ?_);refine FO c14 (hI2.trans hI4) rfl ?_;refine call (GY hvl (fun X6 u6 h6=>?_));have hvt:(CU r'.it.ver).length≤1000000001:=by unfold CU;split <;> simp;omega
  refine Fk (X6:=X5) (y:=CU r'.it.ver) h5 (h6.news (fun x hx=>by simp [hx])) (by rw [List.length_append];omega) (fun X7 u7 h7=>?_);refine OB.freeze h7 (fun I7 hI7 hB7=>Gh.done ?_);refine call (Cal.to (X++F) ?_);refine KJ (hS.mono (hI2.trans (hI4.trans hI7))) (hB2.mono (hI4.trans hI7)) hB7 (fun X' h'=>?_);refine Gh.done (hk X' I7 (hI2.trans (hI4.trans hI7)) ?_);unfold FE;rw [if_neg e];exact h'
end
section
variable {ω:Om}{I:Imm}{L:LH}{K:Value→M}
theorem ADT {vs:List TVer}{m:TStamp}{k:Nat}(hk:k < vs.length)(h:bhd vs[k].fAt m=false)(h2:∀w∈vs.drop (k+1),bhd w.fAt m=true):upTo vs m=some vs[k]:=by
 unfold upTo;have e:vs=vs.take k++vs[k]::vs.drop (k+1):=by rw [←List.drop_eq_getElem_cons hk,List.take_append_drop]
 generalize vs[k]=v at *;rw [e,List.reverse_append,List.reverse_cons,List.append_assoc,List.find?_append,List.find?_eq_none.2 (fun w hw=>by simpa using h2 w (List.mem_reverse.1 hw))];simp [h]
theorem ADS {vs:List TVer}{m:TStamp}(h2:∀w∈vs,bhd w.fAt m=true):upTo vs m=none:=by
 unfold upTo;exact List.find?_eq_none.2 fun w hw=>by simpa using h2 w (List.mem_reverse.1 hw)
theorem Or {vs:List TVer}{m:TStamp}{v:TVer}(h:upTo vs m=some v):v∈vs:=by
 unfold upTo at h;exact List.mem_reverse.1 (List.mem_of_find?_eq_some h)
theorem MY {v:TVer}{q off:Nat}(h:Cells I L q off (EI v)):Cells I L q off [.int .i64 v.fAt.fWall,.int .i64 v.fAt.fLogic]∧Cell I L q (off+2) (.bool v.fDel)∧Cell I L q (off+3) (BW v.fValue):=
 ⟨by simpa [EI] using h.sub (k:=0) (m:=2),h 2 _ rfl,h 3 _ rfl⟩
theorem MZ {L0:LH}[LSub L0 L]{p:Nat}{r:Row}{m:TStamp}(hV:CellV I L0 p r)(hlen:r.vs.length≤1000000000)(hn:upTo r.vs m=none→K (.pointer none) I L)
  (hs:∀q off v,upTo r.vs m=some v→Cells I L0 q off (EI v)→K (.pointer (some ⟨q,off,none⟩)) I L):CT ω 221 #[pt p,sv m] K I L:=by
 obtain ⟨sl,hC,hVs⟩:=hV;refine AHb ?_;unfold XQ;refine AM (fun b=>?_);try simp only [SSd,Nat.reduceAdd]
 refine rdC (hC 0 _ rfl) (Ext.refl _) ?_;simp only [RL.len hVs,SSd,Nat.reduceAdd];refine loop (fun n s I' L'=>I'=I∧L'=(b,Obj.cells #[.int .i64 m.fWall,.int .i64 m.fLogic] 41 (0,0))::L∧∃k:Nat,n=k∧k≤r.vs.length∧s=(.pointer none,.int .i64 ((k:Int) - 1),())∧∀w∈r.vs.drop k,bhd w.fAt m=true) r.vs.length ⟨rfl,rfl,r.vs.length,rfl,Nat.le_refl _,by rw [wrap_i64 _ (by omega)],by simp⟩ ?_;rintro n s I' L' ⟨rfl,rfl,k,rfl,hkl,rfl,hA⟩;unfold Sj;try simp only [SSd,Nat.reduceAdd]
 refine AD (fun e=>?_) (fun e=>?_)
 ·simp at e;obtain ⟨j,rfl⟩:∃j,n=j+1:=⟨n - 1,by omega⟩;rw [show ((j+1:Nat):Int) - 1=(j:Int) by omega];refine AK ?_;try simp only [SSd,Nat.reduceAdd]
  refine Aq (hC 0 _ rfl) (Ext.refl _) ?_;obtain ⟨q,off,c,hix,hl,hc,hcc⟩:=RL.ix hVs (i:=j) (by omega) (by omega);obtain rfl:c=EI _:=hc;simp only [hix,SSd,Nat.reduceAdd];have hc4:=hcc I' L0 (Ext.refl _) (fun _ h=>h);rw [Ab (by omega)] at hc4;obtain ⟨g1,g2,g3⟩:=MY hc4;refine BX g1 (Ext.refl _) rfl ?_;refine Ae rfl ?_;refine call (BE ?_);try simp only [SSd,Nat.reduceAdd]
  refine AD (fun e2=>?_) (fun e2=>?_)
  ·simp at e2;try simp only [SSd,Nat.reduceAdd]
   refine rdC (hC 0 _ rfl) (Ext.refl _) ?_;simp only [hix,SSd,Nat.reduceAdd];exact Gh.to L (Gh.done (hs q off _ (ADT (by omega) e2 hA) hc4))
  ·simp at e2;try simp only [SSd,Nat.reduceAdd]
   rw [wrap_i64 _ (by omega)];refine Gh.done ⟨j,by omega,rfl,rfl,j,rfl,by omega,rfl,fun w hw=>?_⟩;rw [List.drop_eq_getElem_cons (by omega)] at hw;rcases List.mem_cons.1 hw with rfl|hw
   ·exact e2
   ·exact hA w hw
 ·simp at e;have h0:n=0:=by omega
  subst h0;exact Gh.to L (Gh.done (hn (ADS (by simpa using hA))))
abbrev gvV (g:TGot)(v0:Value):Value:=.agg #[.bool g.fFound,v0,.int .i64 g.fAt.fWall,.int .i64 g.fAt.fLogic,.int .i64 g.fBy]
def AJI (I:Imm)(L:LH)(pv:Value):Option TVer→Prop
 |none=>pv= .pointer none
 |some v=>∃q off,pv= .pointer (some ⟨q,off,none⟩)∧Cells I L q off (EI v)
theorem HH {b1 b2:Nat}{o1:Obj}{pv:Value}{ov:Option TVer}(h:AJI I L pv ov)
  (hk:∀I' v0,Ext I I'→Bytes I' v0 (DC ov).fValue→K (.tuple #[gvV (DC ov) v0,.int .i64 0]) I' L):
  sh214_2 ω (.pointer (some ⟨b2,0,none⟩)) (.int .i64 0) pv (fun v=>Gh (K v)) I ((b2,.cells #[.bool false,.slice none 0 0,.int .i64 0,.int .i64 0,.int .i64 0] 49 (0,0))::(b1,o1)::L):=by
 have hz:∀I',Bytes I' (.slice none 0 0) []:=fun I'=>SlI.nil I' 1 none 0;unfold sh214_2;cases ov with
 |none=>
  obtain rfl:pv= .pointer none:=h;have e:Bh .eql (.pointer none) (.pointer none)=some (.bool true):=rfl;simp only [e,SSd,Nat.reduceAdd];unfold sh214_3;repeat' (first|(with_reducible first|refine AK ?_|refine AX ?_|refine AY ?_|refine keepA ?_|refine AM (fun _=>?_)|refine rdb ?_)|((with_reducible first|refine st1 ?_ ?_|refine rdB ?_ ?_);rfl)|(with_reducible refine AV ?_)|((with_reducible refine Ae ?_ ?_);rfl)|((with_reducible refine stB ?_ ?_ ?_ ?_);rfl;rfl;exact AE rfl)|((with_reducible first|refine rdP _ rfl ?_ ?_|refine Af _ rfl ?_ ?_);rfl)|((with_reducible refine stP _ rfl ?_ ?_ ?_ ?_);rfl;rfl;rfl)|(with_reducible first|refine AO (sh214_3.eq_1 ..) ?_|refine AO (sh214_2.eq_1 ..) ?_|refine AO (sh214.eq_1 ..) ?_|refine And.intro ?_ ?_)|(simp only [SSg,Int.reduceBEq,Int.reduceBNe,Int.reduceLT,Int.reduceLE,beq_self_eq_true,bne_self_eq_false])|(with_reducible first|refine AH (fun _=>?_) (fun _=>?_)|refine AD (fun _=>?_) (fun _=>?_))|(simp only [SSd,Nat.reduceAdd]))
  exact Gh.to L (Gh.done (hk I _ (Ext.refl _) (hz I)))
 |some v=>
  obtain ⟨q,off,rfl,hc⟩:=h;obtain ⟨g1,g2,g3⟩:=MY hc;try simp only [SSd,Nat.reduceAdd]
  refine rdC g2 (Ext.refl _) ?_;refine AD (fun e=>?_) (fun e=>?_)
  ·unfold sh214_3;have es:DC (some v)=BK:=by simp [DC,e]
   rw [es] at hk;repeat' (first|(with_reducible first|refine AK ?_|refine AX ?_|refine AY ?_|refine keepA ?_|refine AM (fun _=>?_)|refine rdb ?_)|((with_reducible first|refine st1 ?_ ?_|refine rdB ?_ ?_);rfl)|(with_reducible refine AV ?_)|((with_reducible refine Ae ?_ ?_);rfl)|((with_reducible refine stB ?_ ?_ ?_ ?_);rfl;rfl;exact AE rfl)|((with_reducible first|refine rdP _ rfl ?_ ?_|refine Af _ rfl ?_ ?_);rfl)|((with_reducible refine stP _ rfl ?_ ?_ ?_ ?_);rfl;rfl;rfl)|(with_reducible first|refine AO (sh214_3.eq_1 ..) ?_|refine AO (sh214_2.eq_1 ..) ?_|refine AO (sh214.eq_1 ..) ?_|refine And.intro ?_ ?_)|(simp only [SSg,Int.reduceBEq,Int.reduceBNe,Int.reduceLT,Int.reduceLE,beq_self_eq_true,bne_self_eq_false])|(with_reducible first|refine AH (fun _=>?_) (fun _=>?_)|refine AD (fun _=>?_) (fun _=>?_))|(simp only [SSd,Nat.reduceAdd]))
   exact Gh.to L (Gh.done (hk I _ (Ext.refl _) (hz I)))
  ·have es:DC (some v)=ABd v.fValue v.fAt:=by simp [DC,e]
   rw [es] at hk;refine AK ?_;try simp only [SSd,Nat.reduceAdd]
   refine Aq g3 (Ext.refl _) ?_;refine Vd (fun u I2 hI2 hB=>?_);obtain ⟨a,c,rfl⟩:=Bytes.form hB;refine Gh.done (Bv hI2 ?_);try simp only [SSd,Nat.reduceAdd]
   refine BX g1 (Ext.refl _) rfl ?_;repeat' (first|(with_reducible first|refine AK ?_|refine AX ?_|refine AY ?_|refine keepA ?_|refine AM (fun _=>?_)|refine rdb ?_)|((with_reducible first|refine st1 ?_ ?_|refine rdB ?_ ?_);rfl)|(with_reducible refine AV ?_)|((with_reducible refine Ae ?_ ?_);rfl)|((with_reducible refine stB ?_ ?_ ?_ ?_);rfl;rfl;exact AE rfl)|((with_reducible first|refine rdP _ rfl ?_ ?_|refine Af _ rfl ?_ ?_);rfl)|((with_reducible refine stP _ rfl ?_ ?_ ?_ ?_);rfl;rfl;rfl)|(with_reducible first|refine AO (sh214_3.eq_1 ..) ?_|refine AO (sh214_2.eq_1 ..) ?_|refine AO (sh214.eq_1 ..) ?_|refine And.intro ?_ ?_)|(simp only [SSg,Int.reduceBEq,Int.reduceBNe,Int.reduceLT,Int.reduceLE,beq_self_eq_true,bne_self_eq_false])|(with_reducible first|refine AH (fun _=>?_) (fun _=>?_)|refine AD (fun _=>?_) (fun _=>?_))|(simp only [SSd,Nat.reduceAdd]))
   exact Gh.to L (Gh.done (hk I2 _ hI2 hB))
theorem Lg {p:Nat}{r:Row}{m:TStamp}{txn:Int}(hV:CellV I L p r)(hlen:r.vs.length≤1000000000)
  (hk:∀I' v0,Ext I I'→Bytes I' v0 (seen r m txn).1.fValue→K (.tuple #[gvV (seen r m txn).1 v0,.int .i64 (seen r m txn).2]) I' L):CT ω 214 #[pt p,sv m,.int .i64 txn] K I L:=by
 obtain ⟨sl,hC,hVs⟩:=hV;have hV':CellV I L p r:=⟨sl,hC,hVs⟩;obtain ⟨c0,c1,c14,c3,c4,c5,_⟩:=itC hC;have hz:∀I',Bytes I' (.slice none 0 0) []:=fun I'=>SlI.nil I' 1 none 0;have hX:∀b1 b2 pv,AJI I L pv (upTo r.vs m)→Pv (AJ (pt p)) (fun v5=>Pv (AA 1 v5) fun v6=>Pv (AJ v6) fun v7=>Pv (AA 4 v7) fun v8=>Rv none (AB v8) fun v9=>Pv (AC .eql v9 (.int .i64 0)) fun v10=>Br v10 (sh214_2 ω (.pointer (some ⟨b2,0,none⟩)) (.int .i64 0) pv (fun v=>Gh (K v)))
  (Pv (AJ v6) fun v26=>Pv (AA 4 v26) fun v27=>Rv none (AB v27) fun v28=>Pv (AC .eql v28 (.int .i64 txn)) fun v29=>Br v29 (Pv (AJ v6) fun v30=>Pv (AA 0 v30) fun v31=>sh214_2 ω (.pointer (some ⟨b2,0,none⟩)) (.int .i64 0) v31 (fun v=>Gh (K v)))
   (Ac fun S=>Pv (AJ v6) fun v32=>Pv (AA 0 v32) fun v33=>Pv (AA 0 v33) fun v34=>Rv (some S) (AF 2 v34) fun v35=>Rv (some S) (AF 2 (.pointer (some ⟨b1,0,none⟩))) fun v36=>CT ω 213 #[v35,v36]<|gh fun v37=>Pv (unV .not v37) fun v38=>
    Br v38 (Pv (AJ v6) fun v39=>Pv (AA 4 v39) fun v40=>Rv none (AB v40) fun v41=>Pv (AW #[.bool false,.slice none 0 0,.int .i64 0,.int .i64 0,.int .i64 0] #[(0,1),(1,1),(2,2),(4,1)] [(3,v41)]) fun v42=>Sto 5 (.pointer (some ⟨b2,0,none⟩)) v42<|gh fun _=>Rv none (AF 5 (.pointer (some ⟨b2,0,none⟩))) fun v43=>Gh (K (.tuple #[v43,.int .i64 130])))
     (sh214_2 ω (.pointer (some ⟨b2,0,none⟩)) (.int .i64 0) pv (fun v=>Gh (K v)))))) I ((b2,.cells #[.bool false,.slice none 0 0,.int .i64 0,.int .i64 0,.int .i64 0] 49 (0,0))::(b1,Obj.cells #[.int .i64 m.fWall,.int .i64 m.fLogic] 41 (0,0))::L):=by
  intro b1 b2 pv hpv;try simp only [SSd,Nat.reduceAdd]
  refine rdC c5 (Ext.refl _) ?_;try simp only [SSd,Nat.reduceAdd]
  refine AD (fun e=>?_) (fun e=>?_)
  ·simp at e;have es:seen r m txn=(DC (upTo r.vs m),0):=by unfold seen;rw [if_pos e]
   rw [es] at hk;exact HH hpv hk
  simp at e;try simp only [SSd,Nat.reduceAdd]
  refine rdC c5 (Ext.refl _) ?_;try simp only [SSd,Nat.reduceAdd]
  refine AD (fun e2=>?_) (fun e2=>?_)
  ·simp at e2;try simp only [SSd,Nat.reduceAdd]
   have es:seen r m txn=(DC (some r.it.ver),0):=by unfold seen;rw [if_neg e,if_pos e2]
   rw [es] at hk;exact HH (ov:=some r.it.ver) ⟨p,1,rfl,c14⟩ hk
  simp at e2;refine AK ?_;try simp only [SSd,Nat.reduceAdd]
  refine BX c1 (Ext.refl _) rfl ?_;refine Ae rfl ?_;refine call (BE ?_);try simp only [SSd,Nat.reduceAdd]
  refine AD (fun e3=>?_) (fun e3=>?_)
  ·simp at e3;have es:seen r m txn=(ABe r.it.txn,130):=by unfold seen;rw [if_neg e,if_neg e2,if_pos e3]
   rw [es] at hk;try simp only [SSd,Nat.reduceAdd]
   refine rdC c5 (Ext.refl _) ?_;repeat' (first|(with_reducible first|refine AK ?_|refine AX ?_|refine AY ?_|refine keepA ?_|refine AM (fun _=>?_)|refine rdb ?_)|((with_reducible first|refine st1 ?_ ?_|refine rdB ?_ ?_);rfl)|(with_reducible refine AV ?_)|((with_reducible refine Ae ?_ ?_);rfl)|((with_reducible refine stB ?_ ?_ ?_ ?_);rfl;rfl;exact AE rfl)|((with_reducible first|refine rdP _ rfl ?_ ?_|refine Af _ rfl ?_ ?_);rfl)|((with_reducible refine stP _ rfl ?_ ?_ ?_ ?_);rfl;rfl;rfl)|(with_reducible first|refine AO (sh214_3.eq_1 ..) ?_|refine AO (sh214_2.eq_1 ..) ?_|refine AO (sh214.eq_1 ..) ?_|refine And.intro ?_ ?_)|(simp only [SSg,Int.reduceBEq,Int.reduceBNe,Int.reduceLT,Int.reduceLE,beq_self_eq_true,bne_self_eq_false])|(with_reducible first|refine AH (fun _=>?_) (fun _=>?_)|refine AD (fun _=>?_) (fun _=>?_))|(simp only [SSd,Nat.reduceAdd]))
   exact Gh.to L (Gh.done (hk I _ (Ext.refl _) (hz I)))
  ·simp at e3;have es:seen r m txn=(DC (upTo r.vs m),0):=by unfold seen;rw [if_neg e,if_neg e2,if_neg (by simp [e3])]
   rw [es] at hk;exact HH hpv hk
 refine AHi ?_;unfold sh214;refine AM (fun b1=>?_);refine AM (fun b2=>?_);refine rdB rfl ?_;refine call (MZ hV' hlen (fun h0=>?_) (fun q off v h0 hc=>?_))
 ·exact hX b1 b2 _ (by rw [h0];rfl)
 ·exact hX b1 b2 _ (by rw [h0];exact ⟨q,off,rfl,hc⟩)
theorem AFf {L0:LH}[LSub L0 L]{p:Nat}{r:Row}{m:TStamp}(hV:CellV I L0 p r)(hlen:r.vs.length≤1000000000)(hk:∀pv,AJI I L0 pv (upTo r.vs m)→K pv I L):CT ω 221 #[pt p,sv m] K I L:=
 MZ hV hlen (fun h0=>hk _ (by rw [h0];rfl)) (fun q off v h0 hc=>hk _ (by rw [h0];exact ⟨q,off,rfl,hc⟩))
theorem ViewF.cellAt {b m q:Nat}{kv:Value}{es:Array MapEntry}{clock:Nat}{ps:List Nat}{sp:Sp}{r:Row}{k:List UInt8}(h:ViewF I L b m kv es clock ps sp)(hs:SrtK (keysOf sp.rows))(h1:rowOf sp.rows k=some r)(h2:BA ps sp.rows k=some (pt q)):CellV I L q r:=by
 obtain ⟨g1,g2⟩|⟨r',p,g1,g2,g3,g4⟩:=h.look hs k
 ·rw [h1] at g1;cases g1
 ·rw [h1] at g1;rw [h2] at g2;cases g1;cases g2;exact g3
theorem ABg {b:Nat}{sp:Sp}{a:Value}{k:List UInt8}{m:TStamp}{txn:Int}(hV:SD I L b sp)(hs:SrtK (keysOf sp.rows))(hvs:∀r∈sp.rows,r.vs.length≤1000000000)(hB:Bytes I a k)
  (hk:∀I' v0,Ext I I'→Bytes I' v0 (CG sp k m txn).1.fValue→K (.tuple #[gvV (CG sp k m txn).1 v0,.int .i64 (CG sp k m txn).2]) I' L):
  CT ω 149 #[pt b,a,sv m,.int .i64 txn] K I L:=by
 obtain ⟨mm,kv,es,clock,ps,hV⟩:=hV;have hz:∀I',Bytes I' (.slice none 0 0) []:=fun I'=>SlI.nil I' 1 none 0;refine AIT ?_;unfold sh149;refine AM (fun b1=>AM (fun b2=>AK ?_));try simp only [SSd,Nat.reduceAdd]
 refine Aq (hV.head 0 _ rfl) (Ext.refl _) ?_;refine BS hB (Ext.refl _) ?_;refine ⟨_,fun I' L' hS=>FS (MapAt.mono hV.at' hS.1 (fun x hx=>hS.2 _ (by simp [hx]))) hV.map,?_⟩;refine call (Cm hB ?_);have hc2:Cells I L b 2 [.int .i64 sp.floor.fWall,.int .i64 sp.floor.fLogic]:=by simpa using hV.head.sub (k:=2) (m:=2)
 have main:∀t:Bool,(t=true→An k=false∨(AU m&&Ak txn)=false)→(t=false→¬(An k=false∨(AU m&&Ak txn)=false))→
   sh149_1 ω (pt b) (.int .i64 txn) (.pointer (some ⟨b1,0,none⟩)) (.pointer (some ⟨b2,0,none⟩)) (.int .i64 0) (lkV (.pointer none) false (BA ps sp.rows k)) (.bool t) (fun v=>Gh (K v)) I
    ((b2,.cells #[.bool false,.slice none 0 0,.int .i64 0,.int .i64 0,.int .i64 0] 49 (0,0))::(b1,Obj.cells #[.int .i64 m.fWall,.int .i64 m.fLogic] 41 (0,0))::L):=by
  intro t ht hf;unfold sh149_1;refine AD (fun e=>?_) (fun e=>?_)
  ·have eg:CG sp k m txn=(BK,1):=by unfold CG;rw [if_pos (ht e)]
   rw [eg] at hk;repeat' (first|(with_reducible first|refine AK ?_|refine AX ?_|refine AY ?_|refine keepA ?_|refine AM (fun _=>?_)|refine rdb ?_)|((with_reducible first|refine st1 ?_ ?_|refine rdB ?_ ?_);rfl)|(with_reducible refine AV ?_)|((with_reducible refine Ae ?_ ?_);rfl)|((with_reducible refine stB ?_ ?_ ?_ ?_);rfl;rfl;exact AE rfl)|((with_reducible first|refine rdP _ rfl ?_ ?_|refine Af _ rfl ?_ ?_);rfl)|((with_reducible refine stP _ rfl ?_ ?_ ?_ ?_);rfl;rfl;rfl)|(with_reducible first|refine AO (sh149_1.eq_1 ..) ?_|refine AO (sh149.eq_1 ..) ?_|refine And.intro ?_ ?_)|(simp only [SSg,Int.reduceBEq,Int.reduceBNe,Int.reduceLT,Int.reduceLE,beq_self_eq_true,bne_self_eq_false])|(with_reducible first|refine AH (fun _=>?_) (fun _=>?_)|refine AD (fun _=>?_) (fun _=>?_))|(simp only [SSd,Nat.reduceAdd]))
   exact Gh.to L (Gh.done (hk I _ (Ext.refl _) (hz I)))
  ·have hf':=hf e;refine AK ?_;try simp only [SSd,Nat.reduceAdd]
   refine BX hc2 (Ext.refl _) rfl ?_;refine Ae rfl ?_;refine call (BE ?_);refine AD (fun e2=>?_) (fun e2=>?_)
   ·have eg:CG sp k m txn=(BK,131):=by unfold CG;rw [if_neg hf',if_pos e2]
    rw [eg] at hk;repeat' (first|(with_reducible first|refine AK ?_|refine AX ?_|refine AY ?_|refine keepA ?_|refine AM (fun _=>?_)|refine rdb ?_)|((with_reducible first|refine st1 ?_ ?_|refine rdB ?_ ?_);rfl)|(with_reducible refine AV ?_)|((with_reducible refine Ae ?_ ?_);rfl)|((with_reducible refine stB ?_ ?_ ?_ ?_);rfl;rfl;exact AE rfl)|((with_reducible first|refine rdP _ rfl ?_ ?_|refine Af _ rfl ?_ ?_);rfl)|((with_reducible refine stP _ rfl ?_ ?_ ?_ ?_);rfl;rfl;rfl)|(with_reducible first|refine AO (sh149_1.eq_1 ..) ?_|refine AO (sh149.eq_1 ..) ?_|refine And.intro ?_ ?_)|(simp only [SSg,Int.reduceBEq,Int.reduceBNe,Int.reduceLT,Int.reduceLE,beq_self_eq_true,bne_self_eq_false])|(with_reducible first|refine AH (fun _=>?_) (fun _=>?_)|refine AD (fun _=>?_) (fun _=>?_))|(simp only [SSd,Nat.reduceAdd]))
    exact Gh.to L (Gh.done (hk I _ (Ext.refl _) (hz I)))
   ·obtain ⟨h1,h2⟩|⟨r,p,h1,h2,h3,h4⟩:=hV.look hs k
    ·have eg:CG sp k m txn=(BK,0):=by unfold CG;rw [if_neg hf',if_neg (by simp [e2]),h1]
     rw [eg] at hk;rw [h2];have en:Bh .eql (lkV (.pointer none) false none) (.pointer none)=some (.bool true):=rfl;simp only [en];repeat' (first|(with_reducible first|refine AK ?_|refine AX ?_|refine AY ?_|refine keepA ?_|refine AM (fun _=>?_)|refine rdb ?_)|((with_reducible first|refine st1 ?_ ?_|refine rdB ?_ ?_);rfl)|(with_reducible refine AV ?_)|((with_reducible refine Ae ?_ ?_);rfl)|((with_reducible refine stB ?_ ?_ ?_ ?_);rfl;rfl;exact AE rfl)|((with_reducible first|refine rdP _ rfl ?_ ?_|refine Af _ rfl ?_ ?_);rfl)|((with_reducible refine stP _ rfl ?_ ?_ ?_ ?_);rfl;rfl;rfl)|(with_reducible first|refine AO (sh149_1.eq_1 ..) ?_|refine AO (sh149.eq_1 ..) ?_|refine And.intro ?_ ?_)|(simp only [SSg,Int.reduceBEq,Int.reduceBNe,Int.reduceLT,Int.reduceLE,beq_self_eq_true,bne_self_eq_false])|(with_reducible first|refine AH (fun _=>?_) (fun _=>?_)|refine AD (fun _=>?_) (fun _=>?_))|(simp only [SSd,Nat.reduceAdd]))
     exact Gh.to L (Gh.done (hk I _ (Ext.refl _) (hz I)))
    ·have eg:CG sp k m txn=seen r m txn:=by unfold CG;rw [if_neg hf',if_neg (by simp [e2]),h1]
     rw [eg] at hk;rw [h2];simp only [lkV,Bool.false_eq_true,if_false,SSd,Nat.reduceAdd];refine rdB rfl ?_;refine call (Lg (h3.mono (Ext.refl _) (fun x hx=>by simp [hx])) (hvs r (Ca h1)) (fun I' v0 hI' hB0=>?_));try simp only [SSd,Nat.reduceAdd]
     refine stB rfl rfl ?_ ?_
     ·obtain ⟨_,_,rfl⟩:=Bytes.form hB0;exact AE rfl
     refine rdB rfl ?_;exact Gh.to L (Gh.done (hk I' v0 hI' hB0))
 try simp only [SSd,Nat.reduceAdd]
 cases hkk:An k with
 |false=>
  simp only [Bool.not_false,SSd,Nat.reduceAdd];exact main true (fun _=>.inl hkk) (by simp)
 |true=>
  simp only [Bool.not_true,SSd,Nat.reduceAdd];refine rdB rfl ?_;refine call (Lr ?_);try simp only [SSd,Nat.reduceAdd]
  refine main _ (fun h=>.inr (by rw [Bool.not_eq_true'] at h;exact h)) (fun h=>by rw [Bool.not_eq_false'] at h;rw [hkk,h];simp)
theorem ABa {p:TSpan}{A B:List Row}(h:∀r∈A,blt r.key p.fFrom=true):inR p (A++B)=inR p B:=by
 unfold inR;rw [List.filter_append,List.filter_eq_nil_iff.2 (fun r hr=>by simp [inB,h r hr]),List.nil_append]
theorem ABb {p:TSpan}{r:Row}{rs:List Row}(hs:SrtK (keysOf (r::rs)))(h0:p.fTo≠[])(h:blt r.key p.fTo=false):inR p (r::rs)=[]:=by
 unfold inR;refine List.filter_eq_nil_iff.2 fun x hx=>?_;have hx2:blt x.key p.fTo=false:=by
  rcases List.mem_cons.1 hx with rfl|hx
  ·exact h
  ·cases hb:blt x.key p.fTo with
   |false=>rfl
   |true=>
    have h1:=(List.pairwise_cons.1 (show List.Pairwise _ (r.key::keysOf rs) from hs)).1 _ (List.mem_map_of_mem hx);rw [Ct h1 hb] at h;cases h
 have h3:p.fTo.length≠0:=fun e=>h0 (List.eq_nil_of_length_eq_zero e);simp [inB,hx2,h0]
theorem OR {yv:Value}{b m qs qp:Nat}{kv v0 v1:Value}{es:Array MapEntry}{clock:Nat}{ps:List Nat}{sp:Sp}{p:TSpan}(J:List Row→M)(Post:M)(hs:SrtK (keysOf sp.rows))(hlen:sp.rows.length≤1000000000)
  (hJ:∀rs I' L',J rs I' L'→ViewF I' L' b m kv es clock ps sp∧Cell I' L' qs 0 (pt b)∧Cells I' L' qp 0 [v0,v1]∧Bytes I' v0 p.fFrom∧Bytes I' v1 p.fTo)
  (hstep:∀r rs I' L' q,J (r::rs) I' L'→rowOf sp.rows r.key=some r→BA ps sp.rows r.key=some (pt q)→CW ω yv #[BW r.key,pt q] (fun v=>Gh fun I2 L2=>(v= .bool true∧J rs I2 L2)∨(v= .bool false∧Post I2 L2)) I' L')
  (hend:∀I' L',J [] I' L'→Post I' L') (h0:J (inR p sp.rows) I L) (hk:∀I' L',Post I' L'→K (.tuple #[]) I' L'):
  CT ω 229 #[yv,pt qs,pt qp] K I L:=by
 obtain ⟨hV,hqs,hqp,hB0,hB1⟩:=hJ _ _ _ h0;refine AHU ?_;unfold Wx;refine AK ?_;refine Aq hqs (Ext.refl _) ?_;try simp only [SSd,Nat.reduceAdd]
 refine Aq (hV.head 1 _ rfl) (Ext.refl _) ?_;refine Aq (hqp 0 _ rfl) (Ext.refl _) ?_;refine BS hB0 (Ext.refl _) ?_;have hkl:(keysOf sp.rows).length=sp.rows.length:=by simp [keysOf]
 refine call (EZ hV.keys (by omega) hs (fun i hi hlo hhi=>?_));try simp only [SSd,Nat.reduceAdd]
 refine rdC hqs (Ext.refl _) ?_;try simp only [SSd,Nat.reduceAdd]
 refine rdC (hV.head 1 _ rfl) (Ext.refl _) ?_;obtain ⟨kv',hsl,hK'⟩:=RL.part hV.keys (lo:=i) (hi:=(keysOf sp.rows).length) (by omega) (Nat.le_refl _) (some (.int .i64 i)) none (BG _ _ _ _ (by omega)) (fun _ _=>rfl);rw [List.take_of_length_le (by simp)] at hK';simp only [hsl,RL.len hK',SSd,Nat.reduceAdd];have hrest:inR p sp.rows=inR p (sp.rows.drop i):=by
  conv=>lhs;rw [←List.take_append_drop i sp.rows]
  refine ABa fun r hr=>hlo r.key ?_;rw [show (keysOf sp.rows).take i=keysOf (sp.rows.take i) by simp [keysOf]];exact List.mem_map_of_mem hr
 rw [hrest] at h0;have hdl:((keysOf sp.rows).drop i).length=sp.rows.length - i:=by simp [keysOf]
 rw [hdl];have hge:∀r∈sp.rows.drop i,blt r.key p.fFrom=false:=fun r hr=>hhi r.key (by
  rw [show (keysOf sp.rows).drop i=keysOf (sp.rows.drop i) by simp [keysOf]];exact List.mem_map_of_mem hr)
 refine loop (fun n s I' L'=>∃j:Nat,n+j=sp.rows.length - i∧s=(.int .i64 j,())∧J (inR p ((sp.rows.drop i).drop j)) I' L') (sp.rows.length - i) ⟨0,rfl,rfl,by simpa using h0⟩ ?_;rintro n s I' L' ⟨j,hnj,rfl,hj⟩;obtain ⟨hV',hqs',hqp',hB0',hB1'⟩:=hJ _ _ _ hj;unfold Sd;try simp only [SSd,Nat.reduceAdd]
 refine AD (fun e=>?_) (fun e=>?_);rotate_left
 ·simp at e;rw [List.drop_drop,List.drop_eq_nil_of_le (by omega)] at hj;exact Gh.done (hk _ _ (hend _ _ hj))
 simp at e;obtain ⟨kv2,hsl2,hK2⟩:=RL.part hV'.keys (lo:=i) (hi:=(keysOf sp.rows).length) (by omega) (Nat.le_refl _) (some (.int .i64 i)) none (BG _ _ _ _ (by omega)) (fun _ _=>rfl);rw [List.take_of_length_le (by simp)] at hK2;obtain rfl:kv2=kv':=by rw [hsl] at hsl2;exact (Option.some.inj hsl2).symm
 obtain ⟨bb,off,c,hix,hl,hc,hcc⟩:=RL.ix hK2 (i:=j) (by omega) (by omega);obtain rfl:c=_:=hc;simp only [hix,SSd,Nat.reduceAdd];refine rdC (hcc I' L' (Ext.refl _) (fun _ h=>h) 0 _ rfl) (Ext.refl _) ?_;have hij:i+j < sp.rows.length:=by omega
 have hkey:EY ((keysOf sp.rows).drop i) (j:Int)=sp.rows[i+j].key:=by
  rw [Ab (by omega)];simp [keysOf]
 rw [hkey];have hd:(sp.rows.drop i).drop j=sp.rows[i+j]::(sp.rows.drop i).drop (j+1):=by
  rw [List.drop_drop,List.drop_drop,←Nat.add_assoc];exact List.drop_eq_getElem_cons hij
 have hmem:sp.rows[i+j]∈sp.rows.drop i:=by
  have:sp.rows[i+j]∈(sp.rows.drop i).drop j:=by rw [hd];exact List.mem_cons_self ..
  exact List.mem_of_mem_drop this
 have hsd:SrtK (keysOf (sp.rows[i+j]::(sp.rows.drop i).drop (j+1))):=by
  rw [←hd];exact SrtK.sub hs ((List.drop_sublist ..).trans (List.drop_sublist ..))
 rw [hd] at hj;have hg:=hge _ hmem;have e0:sp.rows=sp.rows.take (i+j)++sp.rows[i+j]::sp.rows.drop (i+j+1):=by rw [←List.drop_eq_getElem_cons hij,List.take_append_drop]
 generalize sp.rows[i+j]=r at *;have hrow:rowOf sp.rows r.key=some r:=by
  have hm:Mid (sp.rows.take (i+j)) r.key (sp.rows.drop (i+j+1)):=SrtK.mid (e0 ▸ hs);conv=>lhs;rw [e0]
  exact Bn hm rfl
 have hrm:r∈sp.rows:=List.mem_of_mem_drop hmem;refine rdC (hqp' 1 _ rfl) (Ext.refl _) ?_;simp only [Bytes.len hB1',SSd,Nat.reduceAdd];have fin:∀(hin:inB p r.key=true),Rv none (AB (.pointer (some ⟨qs,0,none⟩))) (fun v28=>Pv (AJ v28) fun v29=>Pv (AA 0 v29) fun v30=>Rv none (AB v30) fun v31=>Rv none (lkR .string (.pointer none) false v31 (BW r.key)) fun v32=>
   CW ω yv #[BW r.key,v32]<|gh fun v33=>Pv (unV .not v33) fun v34=>Br v34 (Gh (K (.tuple #[]))) (Pv (AC .add (.int .i64 j) (.int .i64 1)) fun v35=>
    (fun s'=>Gh fun I2 L2=>∃m',m' < n∧∃j:Nat,m'+j=sp.rows.length - i∧s'=(.int .i64 j,())∧J (inR p ((sp.rows.drop i).drop j)) I2 L2) (v35,()))) I' L':=by
  intro hin;refine rdC hqs' (Ext.refl _) ?_;try simp only [SSd,Nat.reduceAdd]
  refine rdC (hV'.head 0 _ rfl) (Ext.refl _) ?_;refine ⟨_,FS hV'.at' hV'.map,?_⟩;obtain ⟨h1,h2⟩|⟨r',q,h1,h2,h3,h4⟩:=hV'.look hs r.key
  ·rw [hrow] at h1;cases h1
  obtain rfl:r'=r:=by rw [hrow] at h1;exact (Option.some.inj h1).symm
  rw [h2];simp only [lkV,Bool.false_eq_true,if_false];have hj':J (r'::inR p ((sp.rows.drop i).drop (j+1))) I' L':=by
   rw [show inR p (r'::(sp.rows.drop i).drop (j+1))=r'::inR p ((sp.rows.drop i).drop (j+1)) by simp [inR,hin]] at hj;exact hj
  refine CalV.mono (hstep r' _ I' L' q hj' hrow h2) (fun v I2 L2 hh=>Gh.mono hh fun I2 L2 h=>?_);clear hh;rcases h with ⟨rfl,h⟩|⟨rfl,h⟩
  ·simp only [SSd,Nat.reduceAdd,Bool.not_true];rw [wrap_i64 _ (by omega)];exact Gh.done ⟨n - 1,by omega,j+1,by omega,rfl,h⟩
  ·simp only [SSd,Nat.reduceAdd,Bool.not_false];exact Gh.done (hk _ _ h)
 refine AH (fun e2=>?_) (fun e2=>?_)
 ·simp at e2;refine rdC (hqp' 1 _ rfl) (Ext.refl _) ?_;refine EG hB1' (Ext.refl _) ?_;simp only [sGe,SSd,Nat.reduceAdd];refine AH (fun e3=>?_) (fun e3=>?_)
  ·have hlt:blt r.key p.fTo=true:=by simpa using e3
   exact fin (by simp [inB,hg,hlt])
  ·have hlt:blt r.key p.fTo=false:=by simpa using e3
   rw [ABb hsd (fun e=>by rw [e] at e2;exact absurd e2 (by simp)) hlt] at hj;exact Gh.done (hk _ _ (hend _ _ hj))
 ·simp at e2;exact fin (by simp [inB,hg,e2])
theorem LR {b:Nat}{v0 v1:Value}(hk:∀qs qp,K (.func (.func 229) #[] #[pt qs,pt qp]) I ((qp,.cells #[v0,v1] 31 (0,0))::(qs,.cells #[pt b] 99 (0,0))::L)):
  CT ω 177 #[pt b,.agg #[v0,v1]] K I L:=by
 refine AHv ?_;unfold YJ;exact AM (fun qs=>AM (fun qp=>Gh.done (hk qs qp)))
theorem AAu {qs qp:Nat}{B:Value→Value→RB}{Kn:Nat→M}{Xs:Nat→List (Nat×M)}{Rr:Nat→M}
  (h:∀(l D:Nat) (Lo:LoF),(∀a b K' I' L',AJG l Lo (B a b) K' I' L'→CW ω (.func (.yield l) #[] #[]) #[a,b] K' I' L')→
   CT ω 229 #[.func (.yield l) #[] #[],pt qs,pt qp] (fun _=>Gh (SG l Lo (LL (Kn D) (Xs D) (Rr D)))) I ((l,Lo .ready none)::(D,.deferred (some []))::L)):
  NY Tryz.prog ω (.func (.func 229) #[] #[pt qs,pt qp]) B Kn Xs Rr I L:=by
 unfold NY Of;simp only
 rw [if_pos (show Bo Tryz.prog 229=true by kernel_rfl)];intro l D Lo _ hy;exact h l D Lo (fun a b K' I' L' hh=>hy [a,b] K' I' L' rfl hh)
end
section
variable {ω:Om}{I:Imm}{L:LH}{K:Value→M}
theorem Rw {X:LH}{v:Value}{cells:List Value}{len:Nat}(h:SlO 113 2 X v cells len)(hk:∀a',(∀I',SlI I' 2 v cells len→SlI I' 2 (.slice a' len len) cells len)→K (.slice a' len len) I L):CT ω 215 #[v] K I L:=by
 refine AHh ?_;unfold Xd;obtain ⟨a,cap,rfl⟩:=h.form;have hle:len≤cap:=by
  rcases h.2 with ⟨_,h0,a',e⟩|⟨b,cap',cs,_,e,_,hle,_⟩
  ·omega
  ·cases e;exact hle
 have s1:BL 2 (.slice a len cap) none (some (.int .i64 len)) (some (.int .i64 len))=some (.slice (if len=0 then a else a.map (·.add (0 * 2))) len len):=by
  simp only [BL,Option.isNone_some,Bool.false_and,Bool.false_eq_true,if_false,BG _ _ _ _ hle,BG _ _ _ _ (Nat.le_refl _),Option.bind_some,AKh,Nat.sub_zero]
 simp only [s1,SSd,Nat.reduceAdd];refine Gh.done (hk _ fun I' ⟨h1,a',cap',e,h2,h3⟩=>⟨h1,_,len,rfl,Nat.le_refl _,fun h0=>?_⟩);obtain ⟨b,off,cs,T,fr,h4,hm,hcs⟩:=h3 h0;cases e
 subst h4;exact ⟨b,off,cs,T,fr,by rw [if_neg h0];simp [Be],hm,hcs⟩
theorem AFi {b4 b8 len cap T4 T8:Nat}{a:Option Addr}{most:Int}{Nk:M}{Xk:Nat→M}[h8:InL b8 L (.cells #[.slice a len cap] T8 (0,0))][h4:InL b4 L (.cells #[.int .i64 most] T4 (0,0))](hx:(len:Int)=most→Xk 1 I L)(hn:¬(len:Int)=most→Nk I L):
  sh152_2 ω (.pointer (some ⟨b4,0,none⟩)) (.pointer (some ⟨b8,0,none⟩)) Nk Xk K I L:=by
 unfold sh152_2;refine rd1 (Cell.own h8.mem rfl) ?_;try simp only [SSd,Nat.reduceAdd]
 refine rd1 (Cell.own h4.mem rfl) ?_;try simp only [SSd,Nat.reduceAdd]
 refine AD (fun e=>hx (by simpa using e)) (fun e=>hn (by simpa using e))
theorem Us {b:Nat}{sp:Sp}{p:TSpan}{pc:List Value}{m:TStamp}{txn most:Int}(hV:SD I L b sp)(hs:SrtK (keysOf sp.rows))(hlen:sp.rows.length≤1000000000)(hvs:∀r∈sp.rows,r.vs.length≤1000000000)(hp:TSpanV I p pc)
  (hk:∀I' v,Ext I I'→RL TKVV 2 I' [] v (Bk sp p m txn most).1→K (.tuple #[v,.int .i64 (Bk sp p m txn most).2.1,.int .i64 (Bk sp p m txn most).2.2]) I' L):
  CT ω 152 #[pt b,.agg pc.toArray,sv m,.int .i64 txn,.int .i64 most] K I L:=by
 obtain ⟨v0,v1,rfl,hb0,hb1⟩:=hp;refine AIQ ?_;unfold sh152;refine AM (fun b1=>AM (fun b2=>AM (fun b3=>AM (fun b4=>AM (fun b5=>AM (fun b6=>AM (fun b7=>?_)))))));refine rdB rfl ?_;refine rdb ?_;refine call (Lr ?_);have main:∀t:Bool,(t=true→(AU m&&Ak txn)=false∨most < 1)→(t=false→¬((AU m&&Ak txn)=false∨most < 1))→
   sh152_1 ω (pt b) (pt b1) (pt b2) (pt b3) (pt b4) (pt b5) (pt b6) (pt b7) (.bool t) (fun v=>Gh (K v)) I
    ((b7,.cells #[.int .i64 0] 26 (0,0))::(b6,.cells #[.int .i64 0] 3 (0,0))::(b5,.cells #[.slice none 0 0] 50 (0,0))::(b4,.cells #[.int .i64 most] 3 (0,0))::(b3,.cells #[.int .i64 txn] 3 (0,0))::(b2,Obj.cells #[.int .i64 m.fWall,.int .i64 m.fLogic] 41 (0,0))::(b1,Obj.cells #[v0,v1] 31 (0,0))::L):=by
  intro t ht hf;unfold sh152_1;refine AD (fun e=>?_) (fun e=>?_)
  ·have eg:Bk sp p m txn most=([],0,1):=by unfold Bk;rw [if_pos (ht e)]
   rw [eg] at hk;repeat' (first|(with_reducible first|refine AK ?_|refine AX ?_|refine AY ?_|refine keepA ?_|refine AM (fun _=>?_)|refine rdb ?_)|((with_reducible first|refine st1 ?_ ?_|refine rdB ?_ ?_);rfl)|(with_reducible refine AV ?_)|((with_reducible refine Ae ?_ ?_);rfl)|((with_reducible refine stB ?_ ?_ ?_ ?_);rfl;rfl;exact AE rfl)|((with_reducible first|refine rdP _ rfl ?_ ?_|refine Af _ rfl ?_ ?_);rfl)|((with_reducible refine stP _ rfl ?_ ?_ ?_ ?_);rfl;rfl;rfl)|(with_reducible first|refine AO (sh152_2.eq_1 ..) ?_|refine AO (sh152_4.eq_1 ..) ?_|refine AO (sh152_1.eq_1 ..) ?_|refine AO (sh152.eq_1 ..) ?_|refine And.intro ?_ ?_)|(simp only [SSg,Int.reduceBEq,Int.reduceBNe,Int.reduceLT,Int.reduceLE,beq_self_eq_true,bne_self_eq_false])|(with_reducible first|refine AH (fun _=>?_) (fun _=>?_)|refine AD (fun _=>?_) (fun _=>?_))|(simp only [SSd,Nat.reduceAdd]))
   exact Gh.to L (Gh.done (hk I _ (Ext.refl _) (RL.nil _ _)))
  ·have hf':=hf e;obtain ⟨mm,kv,es,clock,ps,hV⟩:=hV;have hc2:Cells I L b 2 [.int .i64 sp.floor.fWall,.int .i64 sp.floor.fLogic]:=by simpa using hV.head.sub (k:=2) (m:=2)
   refine AK ?_;try simp only [SSd,Nat.reduceAdd]
   refine BX hc2 (Ext.refl _) rfl ?_;refine Ae rfl ?_;refine call (BE ?_);refine AD (fun e2=>?_) (fun e2=>?_)
   ·have eg:Bk sp p m txn most=([],0,131):=by unfold Bk;rw [if_neg hf',if_pos e2]
    rw [eg] at hk;repeat' (first|(with_reducible first|refine AK ?_|refine AX ?_|refine AY ?_|refine keepA ?_|refine AM (fun _=>?_)|refine rdb ?_)|((with_reducible first|refine st1 ?_ ?_|refine rdB ?_ ?_);rfl)|(with_reducible refine AV ?_)|((with_reducible refine Ae ?_ ?_);rfl)|((with_reducible refine stB ?_ ?_ ?_ ?_);rfl;rfl;exact AE rfl)|((with_reducible first|refine rdP _ rfl ?_ ?_|refine Af _ rfl ?_ ?_);rfl)|((with_reducible refine stP _ rfl ?_ ?_ ?_ ?_);rfl;rfl;rfl)|(with_reducible first|refine AO (sh152_2.eq_1 ..) ?_|refine AO (sh152_4.eq_1 ..) ?_|refine AO (sh152_1.eq_1 ..) ?_|refine AO (sh152.eq_1 ..) ?_|refine And.intro ?_ ?_)|(simp only [SSg,Int.reduceBEq,Int.reduceBNe,Int.reduceLT,Int.reduceLE,beq_self_eq_true,bne_self_eq_false])|(with_reducible first|refine AH (fun _=>?_) (fun _=>?_)|refine AD (fun _=>?_) (fun _=>?_))|(simp only [SSd,Nat.reduceAdd]))
    exact Gh.to L (Gh.done (hk I _ (Ext.refl _) (RL.nil _ _)))
   ·have eg:Bk sp p m txn most=Ci m txn most (inR p sp.rows) []:=by unfold Bk;rw [if_neg hf',if_neg (by simp [e2])]
    rw [eg] at hk;refine AM (fun b8=>?_);refine rdB rfl ?_;refine call (LR (fun qs qp=>?_));refine AAu (fun l D Lo hy=>?_);have hfin:∀(s:LoopState) (j:Option Code) (hs:s≠.busy) (hj:j=none∨j=some (.exit 1)) (I2:Imm) (XO:LH) (vo:Value) (acc:List TKV) (cells:List Value),Ext I I2→SlO 113 2 XO vo cells acc.length→Recs (TKVV I2) 2 acc cells→Ci m txn most (inR p sp.rows) []=(acc,0,0)→
      SG l Lo (LL (sh152_4 ω (pt b5) (pt b6) (pt b7) (.pointer (some ⟨b8,0,none⟩)) D fun v=>Gh (K v)) [(1,sh152_4 ω (pt b5) (pt b6) (pt b7) (.pointer (some ⟨b8,0,none⟩)) D fun v=>Gh (K v))]
       (Tak D (Rv none (AB (pt b5)) fun v20=>Rv none (AB (pt b6)) fun v21=>Rv none (AB (pt b7)) fun v22=>Gh (K (.tuple #[v20,v21,v22]))))) I2
       ((l,Lo s j)::(D,.deferred (some []))::(qp,.cells #[v0,v1] 31 (0,0))::(qs,.cells #[pt b] 99 (0,0))::(b8,.cells #[vo] 50 (0,0))::(b7,.cells #[.int .i64 0] 26 (0,0))::(b6,.cells #[.int .i64 0] 3 (0,0))::(b5,.cells #[.slice none 0 0] 50 (0,0))::(b4,.cells #[.int .i64 most] 3 (0,0))::(b3,.cells #[.int .i64 txn] 3 (0,0))::(b2,Obj.cells #[.int .i64 m.fWall,.int .i64 m.fLogic] 41 (0,0))::(b1,Obj.cells #[v0,v1] 31 (0,0))::(XO++L)):=by
     intro s j hs hj I2 XO vo acc cells hI2 hO hR hsc;refine QG (s:=s) (j:=j) hs ?_;have body:sh152_4 ω (pt b5) (pt b6) (pt b7) (.pointer (some ⟨b8,0,none⟩)) D (fun v=>Gh (K v)) I2
       ((D,.deferred (some []))::(qp,.cells #[v0,v1] 31 (0,0))::(qs,.cells #[pt b] 99 (0,0))::(b8,.cells #[vo] 50 (0,0))::(b7,.cells #[.int .i64 0] 26 (0,0))::(b6,.cells #[.int .i64 0] 3 (0,0))::(b5,.cells #[.slice none 0 0] 50 (0,0))::(b4,.cells #[.int .i64 most] 3 (0,0))::(b3,.cells #[.int .i64 txn] 3 (0,0))::(b2,Obj.cells #[.int .i64 m.fWall,.int .i64 m.fLogic] 41 (0,0))::(b1,Obj.cells #[v0,v1] 31 (0,0))::(XO++L)):=by
      unfold sh152_4;refine rdb ?_;refine call (Rw hO (fun v' hv'=>?_));refine st1 rfl ?_;refine st1 rfl ?_;refine st1 rfl ?_;refine tak ?_;refine rdb (rdb (rdb ?_));refine Gh.to (XO++L) (SlO.freeze hO (fun I3 hI3 hSl=>Gh.done ?_));rw [hsc] at hk;exact hk I3 _ (hI2.trans hI3) (RL.ofI (hv' _ hSl) (hR.imp fun x c h=>h.mono hI3))
     rcases hj with rfl|rfl
     ·exact body
     ·exact body
    refine OR (J:=fun rs I' L'=>Ext I I'∧∃XO vo acc cells,L'=(l,Lo .ready none)::(D,.deferred (some []))::(qp,.cells #[v0,v1] 31 (0,0))::(qs,.cells #[pt b] 99 (0,0))::(b8,.cells #[vo] 50 (0,0))::(b7,.cells #[.int .i64 0] 26 (0,0))::(b6,.cells #[.int .i64 0] 3 (0,0))::(b5,.cells #[.slice none 0 0] 50 (0,0))::(b4,.cells #[.int .i64 most] 3 (0,0))::(b3,.cells #[.int .i64 txn] 3 (0,0))::(b2,Obj.cells #[.int .i64 m.fWall,.int .i64 m.fLogic] 41 (0,0))::(b1,Obj.cells #[v0,v1] 31 (0,0))::(XO++L)∧
      SlO 113 2 XO vo cells acc.length∧Recs (TKVV I') 2 acc cells∧acc.length+rs.length≤1000000000∧Ci m txn most rs acc=Ci m txn most (inR p sp.rows) []) (Post:=SG l Lo (LL (sh152_4 ω (pt b5) (pt b6) (pt b7) (.pointer (some ⟨b8,0,none⟩)) D fun v=>Gh (K v)) [(1,sh152_4 ω (pt b5) (pt b6) (pt b7) (.pointer (some ⟨b8,0,none⟩)) D fun v=>Gh (K v))]
       (Tak D (Rv none (AB (pt b5)) fun v20=>Rv none (AB (pt b6)) fun v21=>Rv none (AB (pt b7)) fun v22=>Gh (K (.tuple #[v20,v21,v22])))))) (p:=p) (v0:=v0) (v1:=v1) (sp:=sp) (b:=b) (m:=mm) (kv:=kv) (es:=es) (clock:=clock) (ps:=ps) hs hlen ?_ ?_ ?_ ?_ (fun I' L' h=>Gh.done h)
    ·rintro rs I' L' ⟨hI,XO,vo,acc,cells,rfl,_⟩;exact ⟨hV.mono hI (fun x hx=>by simp [hx]),Cell.own (b:=qs) (cs:=#[pt b]) (T:=99) (fr:=(0,0)) (by simp) rfl,Cb (l:=[v0,v1]) (T:=31) (fr:=(0,0)) (by simp) 2,hb0.mono hI,hb1.mono hI⟩
    ·rintro r rs I' L' q ⟨hI,XO,vo,acc,cells,rfl,hO,hR,hlen2,hsc⟩ hrow hcl;have hC:=hV.cellAt hs hrow hcl;simp only [List.length_cons] at hlen2;refine hy _ _ _ _ _ (UU ?_);refine Vr ?_;refine rdB rfl ?_;refine rdb ?_;refine call (Lg (hC.mono hI (fun x hx=>by simp [hx])) (hvs r (Ca hrow)) (fun I2 g0 hI2 hg0=>?_));obtain ⟨ga,gc,rfl⟩:=Bytes.form hg0;try simp only [SSd,Nat.reduceAdd]
     refine AM (fun b9=>?_);refine stB rfl rfl (AE rfl) ?_;try simp only [SSd,Nat.reduceAdd]
     refine AD (fun e3=>?_) (fun e3=>?_)
     ·have e3':(seen r m txn).2≠0:=by simpa using e3
      simp only [Ci] at hsc;rw [if_pos e3'] at hsc;refine AX ?_;try simp only [SSd,Nat.reduceAdd]
      refine AV ?_;refine st1 rfl ?_;refine Bv (Ext.refl _) ?_;refine st1 rfl ?_;refine st1 rfl ?_;refine UF ?_;refine Gh.to ((l,Lo .done (some .ret))::(D,.deferred (some []))::(b7,.cells #[.int .i64 (seen r m txn).2] 26 (0,0))::(b6,.cells #[.int .i64 (seen r m txn).1.fBy] 3 (0,0))::(b5,.cells #[.slice none 0 0] 50 (0,0))::L) (Gh.done (.inr ⟨rfl,?_⟩));refine QG (s:=.done) (j:=some .ret) (by simp) ?_;refine tak (rdb (rdb (rdb ?_)));rw [←hsc] at hk;exact Gh.to L (Gh.done (hk I2 _ (hI.trans hI2) (RL.nil _ _)))
     ·have e3':¬((seen r m txn).2≠0):=by simpa using e3
      simp only [Ci] at hsc;rw [if_neg e3'] at hsc;try simp only [SSd,Nat.reduceAdd]
      refine rdb ?_;refine AD (fun e4=>?_) (fun e4=>?_)
      ·refine rdb ?_;refine Vd (fun ku I3 hI3 hKB=>Gh.done ?_);obtain ⟨ka,kc,rfl⟩:=Bytes.form hKB;refine rdb ?_;try simp only [SSd,Nat.reduceAdd]
       refine DY (R:=TKVV) (X6:=XO) (x:=⟨r.key,(seen r m txn).1.fValue⟩) rfl (by omega) hO (hR.imp fun x c h=>h.mono (hI2.trans hI3)) ⟨_,_,rfl,hKB,hg0.mono hI3⟩ rfl (AE rfl) (by omega) (by omega) (fun X1 X6 v6 cells6 h6 hR6=>?_);have hpush:push r (seen r m txn).1 acc=acc++[⟨r.key,(seen r m txn).1.fValue⟩]:=by unfold push;rw [if_pos e4]
       rw [hpush] at hsc;obtain ⟨a6,c6,rfl⟩:=h6.form;refine st1 rfl ?_;refine AFi (fun hm=>UF ?_) (fun hm=>QD ?_)
       ·rw [if_pos hm] at hsc;refine Gh.to ((l,Lo .done (some (.exit 1)))::(D,.deferred (some []))::(qp,.cells #[v0,v1] 31 (0,0))::(qs,.cells #[pt b] 99 (0,0))::(b8,.cells #[.slice a6 (acc++[(⟨r.key,(seen r m txn).1.fValue⟩:TKV)]).length c6] 50 (0,0))::(b7,.cells #[.int .i64 0] 26 (0,0))::(b6,.cells #[.int .i64 0] 3 (0,0))::(b5,.cells #[.slice none 0 0] 50 (0,0))::(b4,.cells #[.int .i64 most] 3 (0,0))::(b3,.cells #[.int .i64 txn] 3 (0,0))::(b2,Obj.cells #[.int .i64 m.fWall,.int .i64 m.fLogic] 41 (0,0))::(b1,Obj.cells #[v0,v1] 31 (0,0))::(X6++L)) (Gh.done (.inr ⟨rfl,?_⟩));exact hfin .done (some (.exit 1)) (by simp) (.inr rfl) I3 X6 _ _ cells6 (hI.trans (hI2.trans hI3)) h6 hR6 hsc.symm
       ·rw [if_neg hm] at hsc;refine Gh.to ((l,Lo .ready none)::(D,.deferred (some []))::(qp,.cells #[v0,v1] 31 (0,0))::(qs,.cells #[pt b] 99 (0,0))::(b8,.cells #[.slice a6 (acc++[(⟨r.key,(seen r m txn).1.fValue⟩:TKV)]).length c6] 50 (0,0))::(b7,.cells #[.int .i64 0] 26 (0,0))::(b6,.cells #[.int .i64 0] 3 (0,0))::(b5,.cells #[.slice none 0 0] 50 (0,0))::(b4,.cells #[.int .i64 most] 3 (0,0))::(b3,.cells #[.int .i64 txn] 3 (0,0))::(b2,Obj.cells #[.int .i64 m.fWall,.int .i64 m.fLogic] 41 (0,0))::(b1,Obj.cells #[v0,v1] 31 (0,0))::(X6++L)) (Gh.done (.inl ⟨rfl,hI.trans (hI2.trans hI3),X6,_,_,cells6,rfl,h6,hR6,by simp;omega,hsc⟩))
      ·have hpush:push r (seen r m txn).1 acc=acc:=by unfold push;rw [if_neg (by simp [e4])]
       rw [hpush] at hsc;obtain ⟨a6,c6,rfl⟩:=hO.form;refine AFi (fun hm=>UF ?_) (fun hm=>QD ?_)
       ·rw [if_pos hm] at hsc;refine Gh.to ((l,Lo .done (some (.exit 1)))::(D,.deferred (some []))::(qp,.cells #[v0,v1] 31 (0,0))::(qs,.cells #[pt b] 99 (0,0))::(b8,.cells #[.slice a6 acc.length c6] 50 (0,0))::(b7,.cells #[.int .i64 0] 26 (0,0))::(b6,.cells #[.int .i64 0] 3 (0,0))::(b5,.cells #[.slice none 0 0] 50 (0,0))::(b4,.cells #[.int .i64 most] 3 (0,0))::(b3,.cells #[.int .i64 txn] 3 (0,0))::(b2,Obj.cells #[.int .i64 m.fWall,.int .i64 m.fLogic] 41 (0,0))::(b1,Obj.cells #[v0,v1] 31 (0,0))::(XO++L)) (Gh.done (.inr ⟨rfl,?_⟩));exact hfin .done (some (.exit 1)) (by simp) (.inr rfl) I2 XO _ _ cells (hI.trans hI2) hO (hR.imp fun x c h=>h.mono hI2) hsc.symm
       ·rw [if_neg hm] at hsc;refine Gh.to ((l,Lo .ready none)::(D,.deferred (some []))::(qp,.cells #[v0,v1] 31 (0,0))::(qs,.cells #[pt b] 99 (0,0))::(b8,.cells #[.slice a6 acc.length c6] 50 (0,0))::(b7,.cells #[.int .i64 0] 26 (0,0))::(b6,.cells #[.int .i64 0] 3 (0,0))::(b5,.cells #[.slice none 0 0] 50 (0,0))::(b4,.cells #[.int .i64 most] 3 (0,0))::(b3,.cells #[.int .i64 txn] 3 (0,0))::(b2,Obj.cells #[.int .i64 m.fWall,.int .i64 m.fLogic] 41 (0,0))::(b1,Obj.cells #[v0,v1] 31 (0,0))::(XO++L)) (Gh.done (.inl ⟨rfl,hI.trans hI2,XO,_,_,cells,rfl,hO,hR.imp fun x c h=>h.mono hI2,by omega,hsc⟩))
    ·rintro I' L' ⟨hI,XO,vo,acc,cells,rfl,hO,hR,hlen2,hsc⟩;exact hfin .ready none (by simp) (.inl rfl) I' XO vo acc cells hI hO hR hsc.symm
    ·refine ⟨Ext.refl _,[],_,[],[],rfl,SlO.none _ _,rfl,?_,rfl⟩;have:=List.length_filter_le (fun r:Row=>inB p r.key) sp.rows;simp [inR];omega
 cases hq:(AU m&&Ak txn) with
 |false=>
  simp only [Bool.not_false,SSd,Nat.reduceAdd];exact main true (fun _=>.inl hq) (by simp)
 |true=>
  simp only [Bool.not_true,SSd,Nat.reduceAdd];refine rdb ?_;try simp only [SSd,Nat.reduceAdd]
  exact main _ (fun h=>.inr (by simpa using h)) (fun h=>by rw [hq];simpa using h)
theorem Lj {L0:LH}[LSub L0 L]{q b2 b3:Nat}{r:Row}{a b:TStamp}{X Nk:M}[h2:InL b2 L (.cells #[.int .i64 a.fWall,.int .i64 a.fLogic] 41 (0,0))][h3:InL b3 L (.cells #[.int .i64 b.fWall,.int .i64 b.fLogic] 41 (0,0))]
  (hC:CellV I L0 q r) (hlen:r.vs.length≤1000000000) (hx:JL a b r.vs=true→X I L) (hn:JL a b r.vs=false→Nk I L):
  (Rv none (AF 2 (.pointer (some ⟨b3,0,none⟩))) fun v=>CT ω 221 #[pt q,v]<|gh fun w=>Ac fun S=>Pv (Bh .neq w (.pointer none)) fun x=>Gd x true (Pv (AJ w) fun y=>Pv (AA 0 y) fun z=>Rv (some S) (AF 2 z) fun z2=>Rv (some S) (AF 2 (.pointer (some ⟨b2,0,none⟩))) fun z3=>
   CT ω 213 #[z2,z3]<|gh fun z4=>Br z4 X Nk) Nk) I L:=by
 refine rdN (vs:=[.int .i64 b.fWall,.int .i64 b.fLogic]) rfl (fun j u hu=>Cell.own h3.mem (by simpa using hu)) ?_;refine call (AFf hC hlen (fun pv hpv=>?_));refine AK ?_;unfold JL at hx hn;cases hu:upTo r.vs b with
 |none=>
  rw [hu] at hpv hx hn;obtain rfl:pv= .pointer none:=hpv;have e:Bh .neq (.pointer none) (.pointer none)=some (.bool false):=rfl;simp only [e,SSd,Nat.reduceAdd];exact hn rfl
 |some v=>
  rw [hu] at hpv hx hn;obtain ⟨qq,off,rfl,hc⟩:=hpv;obtain ⟨g1,_,_⟩:=MY hc;try simp only [SSd,Nat.reduceAdd]
  refine BX g1 (Ext.refl _) rfl ?_;refine ABD (vs:=[.int .i64 a.fWall,.int .i64 a.fLogic]) rfl (fun I' L' hS j u hu=>Cell.own (hS.2 _ h2.mem) (by simpa using hu)) ?_;refine call (BE (x:=v.fAt) (y:=a) ?_);exact AD (fun e=>hx e) (fun e=>hn e)
abbrev ABv (b b1 b2 b3 b4 b5 b6 qs qp D:Nat)(v0 v1:Value)(fr to:TStamp)(txn:Int)(v5 v6:Value)(L:LH):LH:=
 (D,.deferred (some []))::(qp,.cells #[v0,v1] 31 (0,0))::(qs,.cells #[pt b] 99 (0,0))::(b6,.cells #[v6] 26 (0,0))::(b5,.cells #[v5] 4 (0,0))::(b4,.cells #[.int .i64 txn] 3 (0,0))::(b3,.cells #[.int .i64 to.fWall,.int .i64 to.fLogic] 41 (0,0))::(b2,.cells #[.int .i64 fr.fWall,.int .i64 fr.fLogic] 41 (0,0))::(b1,.cells #[v0,v1] 31 (0,0))::L
theorem OX {b:Nat}{sp:Sp}{p:TSpan}{pc:List Value}{fr to:TStamp}{txn:Int}(hV:SD I L b sp)(hs:SrtK (keysOf sp.rows))(hlen:sp.rows.length≤1000000000)(hvs:∀r∈sp.rows,r.vs.length≤1000000000)(hp:TSpanV I p pc)
  (hk:K (.tuple #[.bool (chF sp p fr to txn).1,.int .i64 (chF sp p fr to txn).2]) I L):
  CT ω 159 #[pt b,.agg pc.toArray,sv fr,sv to,.int .i64 txn] K I L:=by
 obtain ⟨v0,v1,rfl,hb0,hb1⟩:=hp;refine AIJ ?_;unfold sh159;refine AM (fun b1=>AM (fun b2=>AM (fun b3=>AM (fun b4=>AM (fun b5=>AM (fun b6=>?_))))));refine rdB rfl ?_;refine rdb ?_;refine call (Lr ?_);have main:∀t:Bool,(t=true→(AU fr&&Ak txn)=false∨AU to=false)→(t=false→¬((AU fr&&Ak txn)=false∨AU to=false))→
   sh159_1 ω (pt b) (pt b1) (pt b2) (pt b3) (pt b4) (pt b5) (pt b6) (.bool t) (fun v=>Gh (K v)) I
    ((b6,.cells #[.int .i64 0] 26 (0,0))::(b5,.cells #[.bool false] 4 (0,0))::(b4,.cells #[.int .i64 txn] 3 (0,0))::(b3,.cells #[.int .i64 to.fWall,.int .i64 to.fLogic] 41 (0,0))::(b2,.cells #[.int .i64 fr.fWall,.int .i64 fr.fLogic] 41 (0,0))::(b1,.cells #[v0,v1] 31 (0,0))::L):=by
  intro t ht hf;unfold sh159_1;refine AD (fun e=>?_) (fun e=>?_)
  ·have eg:chF sp p fr to txn=(false,1):=by unfold chF;rw [if_pos (ht e)]
   rw [eg] at hk;repeat' (first|(with_reducible first|refine AK ?_|refine AX ?_|refine AY ?_|refine keepA ?_|refine AM (fun _=>?_)|refine rdb ?_)|((with_reducible first|refine st1 ?_ ?_|refine rdB ?_ ?_);rfl)|(with_reducible refine AV ?_)|((with_reducible refine Ae ?_ ?_);rfl)|((with_reducible refine stB ?_ ?_ ?_ ?_);rfl;rfl;exact AE rfl)|((with_reducible first|refine rdP _ rfl ?_ ?_|refine Af _ rfl ?_ ?_);rfl)|((with_reducible refine stP _ rfl ?_ ?_ ?_ ?_);rfl;rfl;rfl)|(with_reducible first|refine AO (sh159_2.eq_1 ..) ?_|refine AO (sh159_3.eq_1 ..) ?_|refine AO (sh159_5.eq_1 ..) ?_|refine AO (sh159_1.eq_1 ..) ?_|refine AO (sh159.eq_1 ..) ?_|refine And.intro ?_ ?_)|(simp only [SSg,Int.reduceBEq,Int.reduceBNe,Int.reduceLT,Int.reduceLE,beq_self_eq_true,bne_self_eq_false])|(with_reducible first|refine AH (fun _=>?_) (fun _=>?_)|refine AD (fun _=>?_) (fun _=>?_))|(simp only [SSd,Nat.reduceAdd]))
   exact Gh.to L (Gh.done hk)
  ·have hf':=hf e;obtain ⟨mm,kv,es,clock,ps,hV⟩:=hV;have hc2:Cells I L b 2 [.int .i64 sp.floor.fWall,.int .i64 sp.floor.fLogic]:=by simpa using hV.head.sub (k:=2) (m:=2)
   refine AK ?_;try simp only [SSd,Nat.reduceAdd]
   refine BX hc2 (Ext.refl _) rfl ?_;refine Ae rfl ?_;refine call (BE ?_);refine AD (fun e2=>?_) (fun e2=>?_)
   ·have eg:chF sp p fr to txn=(false,131):=by unfold chF;rw [if_neg hf',if_pos e2]
    rw [eg] at hk;repeat' (first|(with_reducible first|refine AK ?_|refine AX ?_|refine AY ?_|refine keepA ?_|refine AM (fun _=>?_)|refine rdb ?_)|((with_reducible first|refine st1 ?_ ?_|refine rdB ?_ ?_);rfl)|(with_reducible refine AV ?_)|((with_reducible refine Ae ?_ ?_);rfl)|((with_reducible refine stB ?_ ?_ ?_ ?_);rfl;rfl;exact AE rfl)|((with_reducible first|refine rdP _ rfl ?_ ?_|refine Af _ rfl ?_ ?_);rfl)|((with_reducible refine stP _ rfl ?_ ?_ ?_ ?_);rfl;rfl;rfl)|(with_reducible first|refine AO (sh159_2.eq_1 ..) ?_|refine AO (sh159_3.eq_1 ..) ?_|refine AO (sh159_5.eq_1 ..) ?_|refine AO (sh159_1.eq_1 ..) ?_|refine AO (sh159.eq_1 ..) ?_|refine And.intro ?_ ?_)|(simp only [SSg,Int.reduceBEq,Int.reduceBNe,Int.reduceLT,Int.reduceLE,beq_self_eq_true,bne_self_eq_false])|(with_reducible first|refine AH (fun _=>?_) (fun _=>?_)|refine AD (fun _=>?_) (fun _=>?_))|(simp only [SSd,Nat.reduceAdd]))
    exact Gh.to L (Gh.done hk)
   ·have eg:chF sp p fr to txn=((inR p sp.rows).any (chR fr to txn),0):=by unfold chF;rw [if_neg hf',if_neg (by simp [e2])]
    rw [eg] at hk;refine rdB rfl ?_;refine call (LR (fun qs qp=>?_));refine AAu (fun l D Lo hy=>?_);refine OR (J:=fun rs I' L'=>I'=I∧L'=(l,Lo .ready none)::ABv b b1 b2 b3 b4 b5 b6 qs qp D v0 v1 fr to txn (.bool false) (.int .i64 0) L∧rs.any (chR fr to txn)=(inR p sp.rows).any (chR fr to txn)) (p:=p) (v0:=v0) (v1:=v1) (sp:=sp) (b:=b) (m:=mm) (kv:=kv) (es:=es) (clock:=clock) (ps:=ps) (Post:=_) hs hlen ?_ ?_ ?_ ⟨rfl,rfl,rfl⟩ (fun I' L' h=>Gh.done h)
    ·rintro rs I' L' ⟨rfl,rfl,_⟩;exact ⟨hV.mono (Ext.refl _) (fun x hx=>by simp [hx]),Cell.own (b:=qs) (cs:=#[pt b]) (T:=99) (fr:=(0,0)) (by simp) rfl,Cb (l:=[v0,v1]) (T:=31) (fr:=(0,0)) (by simp) 2,hb0,hb1⟩
    ·rintro r rs I' L' q ⟨rfl,rfl,hA⟩ hrow hcl;have hC:=hV.cellAt hs hrow hcl;obtain ⟨sl,hCC,hVs⟩:=hC;have hC:=hV.cellAt hs hrow hcl;obtain ⟨c0,c1,c14,c3,c4,c5,_⟩:=itC hCC;have hl:=hvs r (Ca hrow);rw [List.any_cons] at hA;refine hy _ _ _ _ _ (UU ?_);refine Vr ?_;have yes:∀(sh:chR fr to txn r=true),sh159_3 ω (pt b5) (pt b6) (Lt l Lo (some .ret) (fun v=>Gh fun I2 L2=>(v= .bool true∧I2=I'∧L2=(l,Lo .ready none)::ABv b b1 b2 b3 b4 b5 b6 qs qp D v0 v1 fr to txn (.bool false) (.int .i64 0) L∧rs.any (chR fr to txn)=(inR p sp.rows).any (chR fr to txn))∨(v= .bool false∧SG l Lo (LL (sh159_5 ω (pt b5) (pt b6) D fun v=>Gh (K v)) [] (Tak D (Rv none (AB (pt b5)) fun v65=>Rv none (AB (pt b6)) fun v66=>Gh (K (.tuple #[v65,v66]))))) I2 L2))) (fun v=>Gh (K v)) I' ((l,Lo .busy none)::ABv b b1 b2 b3 b4 b5 b6 qs qp D v0 v1 fr to txn (.bool false) (.int .i64 0) L):=by
      intro sh;rw [sh,Bool.true_or] at hA;rw [←hA] at hk;unfold sh159_3;refine st1 rfl ?_;refine st1 rfl ?_;refine UF ?_;refine Gh.done (.inr ⟨rfl,?_⟩);refine QG (s:=.done) (j:=some .ret) (by simp) ?_;refine tak (rdb (rdb ?_));exact Gh.to L (Gh.done hk)
     have no:∀(sh:chR fr to txn r=false),Lt l Lo none (fun v=>Gh fun I2 L2=>(v= .bool true∧I2=I'∧L2=(l,Lo .ready none)::ABv b b1 b2 b3 b4 b5 b6 qs qp D v0 v1 fr to txn (.bool false) (.int .i64 0) L∧rs.any (chR fr to txn)=(inR p sp.rows).any (chR fr to txn))∨(v= .bool false∧SG l Lo (LL (sh159_5 ω (pt b5) (pt b6) D fun v=>Gh (K v)) [] (Tak D (Rv none (AB (pt b5)) fun v65=>Rv none (AB (pt b6)) fun v66=>Gh (K (.tuple #[v65,v66]))))) I2 L2)) I' ((l,Lo .busy none)::ABv b b1 b2 b3 b4 b5 b6 qs qp D v0 v1 fr to txn (.bool false) (.int .i64 0) L):=by
      intro sh;rw [sh,Bool.false_or] at hA;exact QD (Gh.done (.inl ⟨rfl,rfl,rfl,hA⟩))
     refine AK ?_;try simp only [SSd,Nat.reduceAdd]
     refine Aq c5 (Ext.refl _) ?_;try simp only [SSd,Nat.reduceAdd]
     refine AH (fun e3=>?_) (fun e3=>?_)
     ·refine Aq c5 (Ext.refl _) ?_;refine AV ?_;try simp only [SSd,Nat.reduceAdd]
      refine AH (fun e4=>?_) (fun e4=>?_)
      ·refine BX c1 (Ext.refl _) rfl ?_;refine Ae rfl ?_;refine call (BE (x:=r.it.ver.fAt) (y:=to) ?_);try simp only [SSd,Nat.reduceAdd]
       refine AD (fun e5=>?_) (fun e5=>?_)
       ·exact yes (by simp only [chR];rw [e3,e4,e5];rfl)
       ·exact Lj (L0:=L) hC hl (fun h=>yes (by simp only [chR];rw [h,Bool.or_true])) (fun h=>no (by simp only [chR];rw [h,e5];simp))
      ·exact Lj (L0:=L) hC hl (fun h=>yes (by simp only [chR];rw [h,Bool.or_true])) (fun h=>no (by simp only [chR];rw [h,Bool.eq_false_iff.2 e4];simp))
     ·exact Lj (L0:=L) hC hl (fun h=>yes (by simp only [chR];rw [h,Bool.or_true])) (fun h=>no (by simp only [chR];rw [h,Bool.eq_false_iff.2 e3];simp))
    ·rintro I' L' ⟨rfl,rfl,hA⟩;refine QG (s:=.ready) (j:=none) (by simp) ?_;show sh159_5 ω (pt b5) (pt b6) D (fun v=>Gh (K v)) _ _;unfold sh159_5;refine st1 rfl ?_;refine st1 rfl ?_;refine tak (rdb (rdb ?_));rw [←hA] at hk;exact Gh.to L (Gh.done hk)
 cases hq:(AU fr&&Ak txn) with
 |false=>
  simp only [Bool.not_false,SSd,Nat.reduceAdd];exact main true (fun _=>.inl hq) (by simp)
 |true=>
  simp only [Bool.not_true,SSd,Nat.reduceAdd];refine rdB rfl ?_;refine call (BZ ?_);try simp only [SSd,Nat.reduceAdd]
  exact main _ (fun h=>.inr (by simpa using h)) (fun h=>by rw [hq];simpa using h)
end
section
variable {ω:Om}{I:Imm}{L:LH}{K:Value→M}
theorem AFK (rows:List Row):inR ⟨[],[]⟩ rows=rows:=by
 unfold inR;exact List.filter_eq_self.2 fun r _=>by simp [inB,UJ]
abbrev AGt (b b1 qs qp D:Nat)(vo:Value)(XO L:LH):LH:=(D,.deferred (some []))::(qp,.cells #[.slice none 0 0,.slice none 0 0] 31 (0,0))::(qs,.cells #[pt b] 99 (0,0))::(b1,.cells #[vo] 118 (0,0))::(XO++L)
theorem Hy {b:Nat}{sp:Sp}(hV:SD I L b sp)(hs:SrtK (keysOf sp.rows))(hlen:sp.rows.length≤1000000000)(hk:∀I' v,Ext I I'→RL TIntentV 6 I' [] v (intsOf sp.rows)→K v I' L):
  CT ω 120 #[pt b] K I L:=by
 obtain ⟨mm,kv,es,clock,ps,hV⟩:=hV;have hz:∀I',Bytes I' (.slice none 0 0) []:=fun I'=>SlI.nil I' 1 none 0;refine AIh ?_;unfold ZT;refine AM (fun b1=>?_);try simp only [SSd,Nat.reduceAdd]
 refine call (LR (fun qs qp=>?_));refine AAu (fun l D Lo hy=>?_);refine OR (J:=fun rs I' L'=>Ext I I'∧∃XO vo acc cells,L'=(l,Lo .ready none)::AGt b b1 qs qp D vo XO L∧SlO 190 6 XO vo cells acc.length∧Recs (TIntentV I') 6 acc cells∧acc.length+rs.length≤1000000000∧acc++intsOf rs=intsOf sp.rows) (p:=⟨[],[]⟩) (v0:=.slice none 0 0) (v1:=.slice none 0 0) (sp:=sp) (b:=b) (m:=mm) (kv:=kv) (es:=es) (clock:=clock) (ps:=ps) (Post:=_) hs hlen ?_ ?_ ?_ ?_ (fun I' L' h=>Gh.done h)
 ·rintro rs I' L' ⟨hI,XO,vo,acc,cells,rfl,_⟩;exact ⟨hV.mono hI (fun x hx=>by simp [hx]),Cell.own (b:=qs) (cs:=#[pt b]) (T:=99) (fr:=(0,0)) (by simp) rfl,Cb (l:=[.slice none 0 0,.slice none 0 0]) (T:=31) (fr:=(0,0)) (by simp) 2,hz _,hz _⟩
 ·rintro r rs I' L' q ⟨hI,XO,vo,acc,cells,rfl,hO,hR,hlen2,hA⟩ hrow hcl;obtain ⟨sl,hCC,hVs⟩:=hV.cellAt hs hrow hcl;obtain ⟨c0,c1,c14,c3,c4,c5,c15⟩:=itC hCC;simp only [List.length_cons] at hlen2;refine hy _ _ _ _ _ (UU ?_);refine Vr ?_;try simp only [SSd,Nat.reduceAdd]
  refine FO c15 hI rfl ?_;refine AM (fun b2=>?_);refine stB rfl rfl (AE rfl) ?_;try simp only [SSd,Nat.reduceAdd]
  refine rdb ?_;try simp only [SSd,Nat.reduceAdd]
  refine AD (fun e=>?_) (fun e=>?_)
  ·have hi:intsOf (r::rs)=itF r::intsOf rs:=by unfold intsOf;rw [List.filter_cons,if_pos e,List.map_cons]
   rw [hi] at hA;refine rdb ?_;refine Vd (fun ku I3 hI3 hKB=>Gh.done ?_);obtain ⟨ka,kc,rfl⟩:=Bytes.form hKB;refine rdb ?_;try simp only [SSd,Nat.reduceAdd]
   refine rdP [.int .i64 r.it.ver.fAt.fWall,.int .i64 r.it.ver.fAt.fLogic] rfl rfl ?_;try simp only [SSd,Nat.reduceAdd]
   refine rdb ?_;try simp only [SSd,Nat.reduceAdd]
   refine rdb ?_;refine Vd (fun vu I4 hI4 hVB=>Gh.done ?_);obtain ⟨va,vc,rfl⟩:=Bytes.form hVB;try simp only [SSd,Nat.reduceAdd]
   refine DY (R:=TIntentV) (X6:=XO) (x:=itF r) rfl (by omega) hO (hR.imp fun x c h=>h.mono (hI3.trans hI4)) ⟨_,_,rfl,hKB.mono hI4,hVB⟩ rfl (AE rfl) (by omega) (by omega) (fun X1 X6 v6 cells6 h6 hR6=>?_);obtain ⟨a6,c6,rfl⟩:=h6.form;refine st1 rfl ?_;refine QD ?_;refine Gh.to ((l,Lo .ready none)::AGt b b1 qs qp D (.slice a6 (acc++[itF r]).length c6) X6 L) (Gh.done (.inl ⟨rfl,hI.trans (hI3.trans hI4),X6,_,_,cells6,rfl,h6,hR6,by simp;omega,by rw [←hA];simp⟩))
  ·have hi:intsOf (r::rs)=intsOf rs:=by unfold intsOf;rw [List.filter_cons,if_neg (by simp [e])]
   rw [hi] at hA;refine QD ?_;refine Gh.to ((l,Lo .ready none)::AGt b b1 qs qp D vo XO L) (Gh.done (.inl ⟨rfl,hI,XO,_,_,cells,rfl,hO,hR,by omega,hA⟩))
 ·rintro I' L' ⟨hI,XO,vo,acc,cells,rfl,hO,hR,hlen2,hA⟩;refine QG (s:=.ready) (j:=none) (by simp) ?_;show Nq ω (.slice none 0 0) (.pointer (some ⟨b1,0,none⟩)) D (fun v=>Gh (K v)) _ _;unfold Nq;refine rdb ?_;refine tak ?_;have hA':acc=intsOf sp.rows:=by rw [←hA];simp [intsOf]
  subst hA';refine Gh.to (XO++L) (SlO.freeze hO (fun I3 hI3 hSl=>Gh.done ?_));exact hk I3 _ (hI.trans hI3) (RL.ofI hSl (hR.imp fun x c h=>h.mono hI3))
 ·rw [AFK];exact ⟨Ext.refl _,[],_,[],[],rfl,SlO.none _ _,rfl,by simpa using hlen,rfl⟩
end
section
variable {ω:Om}{I:Imm}{L:LH}{K:Value→M}
structure SpX (I:Imm)(b:Nat)(ps:List Nat)(R:LH)(A:List Row)(k:List UInt8)(B:List Row)(fl:TStamp)(nt:Nts)(p:Nat):Prop where
 close:∀(r:Row) (sl:Value) (Y X:LH),r.key=k→VsO Y sl r.vs→X.Perm ((p,Aw sl r.it)::(Y++R))→SpP I b ps X ⟨A++r::B,fl⟩ nt
theorem SpP.open' {b:Nat}{ps:List Nat}{X:LH}{A B:List Row}{r:Row}{fl:TStamp}{nt:Nts}{k:List UInt8}(h:SpP I b ps X ⟨A++r::B,fl⟩ nt)(hm:Mid A k B)(hk:r.key=k):
  ∃p sl Y R,ps[A.length]? =some p∧X.Perm ((p,Aw sl r.it)::(Y++R))∧VsO Y sl r.vs∧SpX I b ps R A k B fl nt p∧(∀L',(∀x∈X,x∈L')→∃m kv es clock,ViewF I L' b m kv es clock ps ⟨A++r::B,fl⟩∧BA ps (A++r::B) k=some (pt p)):=by
 have h0:=h;obtain ⟨m,ch,kv,es,clock,KX,RX,NX,hp,hF⟩:=h;obtain ⟨P,p,Q,rfl,hl,hl2⟩:=Hi hF.rows.len;obtain ⟨sl,Y,Z,h1,h2,h3⟩:=RowsR.pick hl hF.rows;refine ⟨p,sl,Y,(b,spO m kv fl ch)::(m,.map es clock)::(KX++(Z++NX)),by rw [←hl];simp,AQ ?_,h2,⟨fun r' sl' Y' X' hk' hv hX=>?_⟩,fun L' hL=>?_⟩
 ·rw [BH hp];simp only [AN,AP,BH h1]
  ((try simp only [AN,AP,Aa,AR]);(try ac_rfl))
 ·refine ⟨m,ch,kv,es,clock,KX,(p,Aw sl' r'.it)::(Y'++Z),NX,AQ ?_,?_,?_,?_,hF.nts⟩
  ·rw [BH hX];((try simp only [AN,AP,Aa,AR]);(try ac_rfl))
  ·have:=hF.map;rw [show BA (P++p::Q) (A++r'::B)=BA (P++p::Q) (A++r::B) from JR hl (hk ▸ hm) (hk'.trans hk.symm)];exact this
  ·have e:keysOf (A++r'::B)=keysOf (A++r::B):=by simp [keysOf,hk',hk]
   show StrO KX kv (keysOf (A++r'::B));rw [e];exact hF.keys
  ·exact RowsR.put hl (List.Perm.refl _) hv h3
 ·refine ⟨m,kv,es,clock,?_,DR hl hm hk⟩;have hmem:∀x,x∈((b,spO m kv fl ch)::(m,Obj.map es clock)::(KX++(RX++NX)))→x∈L':=fun x hx=>hL _ (hp.mem_iff.2 hx);exact ⟨Cb (hmem _ (List.mem_cons_self ..)) 4,.inl (hmem _ (by simp)),hF.map,StrO.rl hF.keys (fun x hx=>hmem _ (by simp [hx])),hF.rows.len,hF.rows.cell (fun x hx=>hmem _ (by simp [hx]))⟩
theorem Vl {b:Nat}{X F:LH}{sp:Sp}{nt:Nts}{k:List UInt8}(hS:SpR I b X sp nt)(hs:SrtK (keysOf sp.rows))(hlen:sp.rows.length≤100000000)
  (h1:∀ps A r B p sl Y R,sp.rows=A++r::B→r.key=k→Mid A k B→X.Perm ((p,Aw sl r.it)::(Y++R))→VsO Y sl r.vs→SpX I b ps R A k B sp.floor nt p→K (pt p) I (X++F))
  (h2:∀ps A B p X' R,sp.rows=A++B→Mid A k B→X'.Perm ((p,Aw (.slice none 0 0) noIt)::R)→SpX I b ps R A k B sp.floor nt p→K (pt p) I (X'++F)):
  CT ω 206 #[pt b,BW k] K I (X++F):=by
 have hS0:=hS;obtain ⟨rows,fl⟩:=sp;rcases place k hs with ⟨A,r,B,e,hk,hm⟩|⟨A,B,e,hm⟩
 ·simp only at e;subst e
  obtain ⟨ps,hS⟩:=hS;obtain ⟨p,sl,Y,R,_,g1,g2,g3,g4⟩:=hS.open' hm hk;obtain ⟨m,kv,es,clock,hV,hc⟩:=g4 (X++F) (fun x hx=>List.mem_append_left _ hx);refine ACB ?_;unfold Sn;try simp only [SSd,Nat.reduceAdd]
  refine rdC (hV.head 0 _ rfl) (Ext.refl _) ?_;refine ⟨_,FS hV.at' hV.map,?_⟩;simp only [hc,lkV,Bool.false_eq_true,if_false,SSd,Nat.reduceAdd];exact Gh.done (h1 ps A r B p sl Y R rfl hk hm g1 g2 g3)
 ·simp only at e;subst e
  obtain ⟨ps,m,ch,kv,es,clock,KX,RX,NX,hp,hF⟩:=hS;have hn:BA ps (A++B) k=none:=Fo hm.notin;obtain ⟨P,Q,rfl,hl,hl2⟩:=Mf hF.rows.len;refine Cal.perm (L':=(b,spO m kv fl ch)::(m,.map es clock)::(KX++(RX++(NX++F)))) (AQ (by rw [AP,BH hp];((try simp only [AN,AP,Aa,AR]);(try ac_rfl)))) ?_;refine ACB ?_;unfold Sn;try simp only [SSd,Nat.reduceAdd]
  refine rdb ?_;refine lkm hF.map ?_;have en:Bh .eql (.pointer none) (.pointer none)=some (.bool true):=rfl;simp only [hn,lkV,Bool.false_eq_true,if_false,en,SSd,Nat.reduceAdd];refine AM (fun p=>?_);refine rdb ?_;obtain ⟨es',c',he,hm'⟩:=hF.map.put k (pt p);refine AEw hF.map he (Gh.done ?_);try simp only [SSd,Nat.reduceAdd]
  refine rdb ?_;have hkl:(keysOf (A++B)).length=(A++B).length:=by simp [keysOf]
  refine call (EZ (StrO.rl hF.keys (fun x hx=>by simp [hx])) (by simp only at hlen ⊢;omega) hs (fun i hi hlo hhi=>?_));try simp only [SSd,Nat.reduceAdd]
  refine rdb ?_;refine ⟨#[BW k],by kernel_rfl,fun bv=>Gh.done ?_⟩;refine call (Cal.perm (L':=KX++(bv,.cells #[BW k] 9 (0,0))::(p,Aw (.slice none 0 0) noIt)::(b,spO m kv fl ch)::(m,.map es' c')::(RX++(NX++F))) (AQ (by ((try simp only [AN,AP,Aa,AR]);(try ac_rfl)))) ?_);refine Pu hF.keys hi (by simp only at hlen ⊢;omega) (fun KX' kv' hK'=>?_);try simp only [SSd,Nat.reduceAdd]
  have hkv1:kv'.oneCell'=true:=by obtain ⟨a',c',rfl⟩:=hK'.form;rfl
  have hia:i=A.length:=by
   have hAB:keysOf (A++B)=keysOf A++keysOf B:=by simp [keysOf]
   have hAl:(keysOf A).length=A.length:=by simp [keysOf]
   simp only at hlo hhi hi
   apply Classical.byContradiction
   intro hne;rcases Nat.lt_or_gt_of_ne hne with hlt|hgt
   ·have h1:=hhi A[i].key (by
     rw [hAB,List.drop_append_of_le_length (by omega)];refine List.mem_append_left _ ?_;rw [show keysOf A=A.map (·.key) from rfl,←List.map_drop];exact List.mem_map_of_mem (by rw [List.drop_eq_getElem_cons hlt];exact List.mem_cons_self ..))
    rw [hm.lt _ (List.getElem_mem hlt)] at h1;cases h1
   ·have hb:A.length < (A++B).length:=by omega
    have hBl:0 < B.length:=by simp at hb;omega
    have h1:=hlo B[0].key (by
     rw [hAB,List.take_append,hAl,List.take_of_length_le (by omega)];refine List.mem_append_right _ ?_;rw [show keysOf B=B.map (·.key) from rfl,←List.map_take];refine List.mem_map_of_mem ?_;have:(B.take (i - A.length))[0]'(by simp;omega)=B[0]:=by simp
     rw [←this];exact List.getElem_mem _)
    rw [CO (hm.gt _ (List.getElem_mem hBl))] at h1;cases h1
  subst hia;refine st1 hkv1 ?_;refine Gh.perm (L':=((p,Aw (.slice none 0 0) noIt)::(b,spO m kv' fl ch)::(m,.map es' c')::(KX'++(RX++NX)))++F) (AQ (by ((try simp only [AN,AP,Aa,AR]);(try ac_rfl)))) (Gh.done ?_);refine h2 (P++p::Q) A B p _ _ rfl hm (List.Perm.refl _) ⟨fun r' sl' Y' X' hk' hv hX=>?_⟩;refine ⟨m,ch,kv',es',c',KX',(p,Aw sl' r'.it)::(Y'++RX),NX,AQ (by rw [BH hX];((try simp only [AN,AP,Aa,AR]);(try ac_rfl))),?_,?_,RowsR.put hl (List.Perm.refl _) hv hF.rows,hF.nts⟩
  ·rw [show BA (P++p::Q) (A++r'::B)=Fv (BA (P++Q) (A++B)) k (some (pt p)) from Es hl hm hk'];exact hm'
  ·have e:keysOf (A++r'::B)=(keysOf (A++B)).take A.length++k::(keysOf (A++B)).drop A.length:=by
    have hAl:(A.map (·.key)).length=A.length:=by simp
    simp only [keysOf,List.map_append,List.map_cons,hk'];rw [←hAl,List.take_left,List.drop_left]
   show StrO KX' kv' (keysOf (A++r'::B));rw [e];exact hK'
theorem Ma {b:Nat}{X F:LH}{A B:List Row}{r:Row}{fl:TStamp}{nt:Nts}{k:List UInt8}(hS:SpR I b X ⟨A++r::B,fl⟩ nt)(hm:Mid A k B)(hkr:r.key=k)(hs:SrtK (keysOf (A++r::B)))(hlen:(A++r::B).length≤100000000)
  (hk:∀X',SpR I b X' ⟨if BO r=true then A++B else A++r::B,fl⟩ nt→K (.tuple #[]) I (X'++F)):CT ω 222 #[pt b,BW k] K I (X++F):=by
 have hS0:=hS;obtain ⟨ps,m,ch,kv,es,clock,KX,RX,NX,hp,hF⟩:=hS;obtain ⟨P,p,Q,rfl,hl,hl2⟩:=Hi hF.rows.len;obtain ⟨sl,Y,Z,g1,g2,g3⟩:=RowsR.pick hl hF.rows;have hc:BA (P++p::Q) (A++r::B) k=some (pt p):=DR hl hm hkr;refine Cal.perm (L':=(b,spO m kv fl ch)::(m,.map es clock)::(p,Aw sl r.it)::(KX++(Y++(Z++(NX++F))))) (AQ (by rw [AP,BH hp];simp only [AN,AP,BH g1];((try simp only [AN,AP,Aa,AR]);(try ac_rfl)))) ?_;refine AHa ?_;unfold XJ;try simp only [SSd,Nat.reduceAdd]
 refine rdb ?_;refine lkm hF.map ?_;simp only [hc,lkV,Bool.false_eq_true,if_false,SSd,Nat.reduceAdd];refine rdb ?_;obtain ⟨sa,sc,rfl⟩:=g2.form;try simp only [SSd,Nat.reduceAdd]
 have keep:∀(he:BO r=false),Gh (K (.tuple #[])) I ((b,spO m kv fl ch)::(m,.map es clock)::(p,Aw (.slice sa r.vs.length sc) r.it)::(KX++(Y++(Z++(NX++F))))):=by
  intro he;rw [he] at hk;refine Gh.perm (L':=X++F) (AQ (by rw [AP,BH hp];simp only [AN,AP,BH g1];((try simp only [AN,AP,Aa,AR]);(try ac_rfl)))) (Gh.done (hk X hS0))
 refine AH (fun e=>?_) (fun e=>?_)
 ·refine rdb ?_;try simp only [SSd,Nat.reduceAdd]
  refine AD (fun e2=>?_) (fun e2=>?_)
  ·exact keep (by simp at e2;simp [BO,e2])
  ·have he:BO r=true:=by
    have hv:r.vs=[]:=by
     cases hv:r.vs with
     |nil=>rfl
     |cons x xs=>rw [hv] at e;simp at e
    simp at e2;simp [BO,hv,e2]
   rw [he] at hk;have hkl:(keysOf (A++r::B)).length=(A++r::B).length:=by simp [keysOf]
   refine rdb ?_;obtain ⟨es',hde,hm'⟩:=hF.map.del k;refine AHA hF.map hde (Gh.done ?_);try simp only [SSd,Nat.reduceAdd]
   refine rdb ?_;refine call (EZ (StrO.rl hF.keys (fun x hx=>by simp [hx])) (by show (keysOf (A++r::B)).length < _;rw [hkl];exact Nat.lt_of_le_of_lt hlen (by decide)) hs (fun i hi hlo hhi=>?_));try simp only [SSd,Nat.reduceAdd]
   refine rdb ?_;have hAl:(keysOf A).length=A.length:=by simp [keysOf]
   have hAB:keysOf (A++r::B)=keysOf A++k::keysOf B:=by simp [keysOf,hkr]
   simp only at hlo hhi hi
   have hia:i=A.length:=by
    apply Classical.byContradiction
    intro hne;rcases Nat.lt_or_gt_of_ne hne with hlt|hgt
    ·have h1:=hhi A[i].key (by
      rw [hAB,List.drop_append_of_le_length (by omega)];refine List.mem_append_left _ ?_;rw [show keysOf A=A.map (·.key) from rfl,←List.map_drop];exact List.mem_map_of_mem (by rw [List.drop_eq_getElem_cons hlt];exact List.mem_cons_self ..))
     rw [hm.lt _ (List.getElem_mem hlt)] at h1;cases h1
    ·have h1:=hlo k (by
      rw [hAB,List.take_append,hAl,List.take_of_length_le (by omega)];refine List.mem_append_right _ ?_;obtain ⟨j,hj⟩:∃j,i - A.length=j+1:=⟨i - A.length - 1,by omega⟩;rw [hj,List.take_succ_cons];exact List.mem_cons_self ..)
     rw [Bx] at h1;cases h1
   subst hia;rw [wrap_i64 _ (by rw [List.length_append,List.length_cons] at hlen;omega)];refine call (Cal.perm (L':=KX++((b,spO m kv fl ch)::(m,.map es' clock)::(p,Aw (.slice sa r.vs.length sc) r.it)::(Y++(Z++(NX++F))))) (AQ (by ((try simp only [AN,AP,Aa,AR]);(try ac_rfl)))) ?_);refine QI hF.keys (by show A.length < (keysOf (A++r::B)).length;rw [hkl,List.length_append,List.length_cons];omega) (by show (keysOf (A++r::B)).length≤_;rw [hkl];omega) (fun KX' kv' hK'=>?_);try simp only [SSd,Nat.reduceAdd]
   have hkv1:kv'.oneCell'=true:=by obtain ⟨a',c',rfl⟩:=hK'.form;rfl
   refine st1 hkv1 ?_;refine Gh.to ((b,spO m kv' fl ch)::(m,.map es' clock)::(KX'++(Z++(NX++F)))) (Gh.perm (L':=((b,spO m kv' fl ch)::(m,.map es' clock)::(KX'++(Z++NX)))++F) (AQ (by ((try simp only [AN,AP,Aa,AR]);(try ac_rfl)))) (Gh.done (hk _ ⟨P++Q,m,ch,kv',es',clock,KX',Z,NX,List.Perm.refl _,?_,?_,g3,hF.nts⟩)))
   ·rw [show BA (P++Q) (if true=true then A++B else A++r::B)=Fv (BA (P++p::Q) (A++r::B)) k none from Lk hl hm hkr];exact hm'
   ·have e3:keysOf (A++B)=(keysOf (A++r::B)).take A.length++(keysOf (A++r::B)).drop (A.length+1):=by
     rw [hAB,←hAl,List.take_left,List.drop_append,List.drop_eq_nil_of_le (by omega)];simp [keysOf]
    show StrO KX' kv' (keysOf (A++B));rw [e3];exact hK'
 ·exact keep (by simp at e;cases hv:r.vs with
   |nil=>rw [hv] at e;simp at e
   |cons x xs=>simp [BO,hv])
end
section
variable {ω:Om}{I:Imm}{L:LH}{K:Value→M}
abbrev stO (a:TStamp):Obj:=.cells #[.int .i64 a.fWall,.int .i64 a.fLogic] 41 (0,0)
abbrev Gv (b1 b2 bat:Nat)(v0 v1:Value)(x:TIntent)(a:TStamp)(R:LH):LH:=
 (bat,stO a)::(b2,.cells #[.int .i64 0,.int .i64 0] 41 (0,0))::(b1,.cells #[v0,.int .i64 x.fTxn,.int .i64 x.fAt.fWall,.int .i64 x.fAt.fLogic,.bool x.fDel,v1] 190 (0,0))::R
def El (x:TIntent)(a:TStamp):Itn:=⟨⟨a,x.fDel,x.fValue⟩,x.fTxn⟩
theorem Gn {A B:List Row}{r r':Row}(h:r'.key=r.key):keysOf (A++r'::B)=keysOf (A++r::B):=by simp [keysOf,h]
theorem Mid.srt {A B:List Row}{k:List UInt8}{r:Row}(hm:Mid A k B)(hs:SrtK (keysOf (A++B)))(h:r.key=k):SrtK (keysOf (A++r::B)):=by
 subst h;exact SrtK.join (SrtK.sub hs (List.sublist_append_left ..)) (SrtK.sub hs (List.sublist_append_right ..)) hm
theorem VH {b b1 b2 bat:Nat}{v0 v1:Value}{x:TIntent}{a:TStamp}{X F:LH}{sp:Sp}{nt:Nts}(hS:SpR I b X sp nt)(hs:SrtK (keysOf sp.rows))(hlen:sp.rows.length≤100000000)
  (h0:Bytes I v0 x.fKey) (h1:Bytes I v1 x.fValue) (ha:AU a=true) (ht:Bj x.fTxn=true) (hkl:x.fKey.length≤1000) (hvl:x.fValue.length≤10000)
  (hk:∀X' I',Ext I I'→SpR I' b X' ⟨FL x.fKey (El x a) sp.rows,sp.floor⟩ (Di nt (105::x.fKey) (FE (El x a)))→K (.tuple #[sv a,.int .i64 0,.int .i64 0]) I' (X'++F)):
  sh156_8 ω (pt b) (pt b1) (pt b2) (.int .i64 0) (.int .i64 0) (pt bat) (fun v=>Gh (K v)) I (Gv b1 b2 bat v0 v1 x a (X++F)):=by
 have htx:1≤x.fTxn∧x.fTxn≤9007199254740991:=by simpa [Bj] using ht
 unfold sh156_8;try simp only [SSd,Nat.reduceAdd]
 refine rdb ?_;refine EG h0 (Ext.refl _) ?_;refine CI (Cal.perm (L':=X++Gv b1 b2 bat v0 v1 x a F) (AQ (by ((try simp only [AN,AP,Aa,AR]);(try ac_rfl)))) ?_);have main:∀(A B:List Row) (vs:List TVer) (ps:List Nat) (p:Nat) (sl:Value) (Y R:LH) (o:Itn),Mid A x.fKey B→VsO Y sl vs→SpX I b ps R A x.fKey B sp.floor nt p→FL x.fKey (El x a) sp.rows=A++⟨x.fKey,vs,El x a⟩::B→SrtK (keysOf (A++⟨x.fKey,vs,El x a⟩::B))→
   (Rv none (AF 2 (pt bat)) fun v115=>Pv (AA 4 (pt b1)) fun v116=>Rv none (AB v116) fun v117=>Pv (AA 5 (pt b1)) fun v118=>Rv none (AB v118) fun v119=>Rv none (bsR v119) fun v120=>
    Pv (AW #[.int .i64 0,.int .i64 0,.bool false,.string (ByteArray.mk #[])] #[(0,2),(2,1),(3,1)] [(0,v115),(1,v117),(2,v120)]) fun v121=>Pv (AA 1 (pt b1)) fun v122=>Rv none (AB v122) fun v123=>
    Pv (AW #[.int .i64 0,.int .i64 0,.bool false,.string (ByteArray.mk #[]),.int .i64 0] #[(0,4),(4,1)] [(0,v121),(1,v123)]) fun v124=>Pv (AJ (pt p)) fun v125=>Pv (AA 1 v125) fun v126=>Sto 5 v126 v124<|gh fun _=>
    Pv (AA 0 (pt b1)) fun v127=>Rv none (AB v127) fun v128=>Rv none (bsR v128) fun v129=>CT ω 190 #[pt b,v129]<|gh fun _=>Rv none (AF 2 (pt bat)) fun v131=>Sto 2 (pt b2) v131<|gh fun _=>Rv none (AF 2 (pt b2)) fun v132=>Gh (K (.tuple #[v132,.int .i64 0,.int .i64 0]))) I
    ((p,Aw sl o)::(Y++(R++Gv b1 b2 bat v0 v1 x a F))):=by
  intro A B vs ps p sl Y R o hm hv hX hset hsrt;refine rdB rfl ?_;try simp only [SSd,Nat.reduceAdd]
  refine rdb ?_;try simp only [SSd,Nat.reduceAdd]
  refine rdb ?_;refine EG h1 (Ext.refl _) ?_;try simp only [SSd,Nat.reduceAdd]
  refine rdb ?_;try simp only [SSd,Nat.reduceAdd]
  refine stP _ rfl rfl rfl rfl ?_;try simp only [SSd,Nat.reduceAdd]
  refine rdb ?_;refine EG h0 (Ext.refl _) ?_;have hS':=hX.close ⟨x.fKey,vs,El x a⟩ sl Y ((p,Aw sl (El x a))::(Y++R)) rfl hv (List.Perm.refl _);refine call (Cal.perm (L':=((p,Aw sl (El x a))::(Y++R))++Gv b1 b2 bat v0 v1 x a F) (AQ (by ((try simp only [AN,AP,Aa,AR]);(try ac_rfl)))) ?_);refine EJ hS' hsrt (Bn hm rfl) (by simp [El];omega) (fun _=>ha) (by omega) (by simp only [El];omega) (fun X' I' hI' h'=>?_);refine rdB rfl ?_;refine stB rfl rfl (AE rfl) ?_;refine rdB rfl ?_;rw [←hset] at h';exact Gh.to (X'++F) (Gh.done (hk X' I' hI' ⟨ps,h'⟩))
 refine Vl hS hs hlen (fun ps A r B p sl Y R e hkr hm hp hv hX=>?_) (fun ps A B p X' R e hm hp hX=>?_)
 ·refine Gh.perm (L':=(p,Aw sl r.it)::(Y++(R++Gv b1 b2 bat v0 v1 x a F))) (AQ (by rw [AP,BH hp];((try simp only [AN,AP,Aa,AR]);(try ac_rfl)))) (Gh.done ?_);exact main A B r.vs ps p sl Y R r.it hm hv hX (by rw [e];exact Ea hkr hm) (by rw [Gn (r:=r) hkr.symm,←e];exact hs)
 ·refine Gh.perm (L':=(p,Aw (.slice none 0 0) noIt)::([]++(R++Gv b1 b2 bat v0 v1 x a F))) (AQ (by rw [AP,BH hp];((try simp only [AN,AP,Aa,AR]);(try ac_rfl)))) (Gh.done ?_);exact main A B [] ps p _ [] R noIt hm (SlO.none _ _) hX (by rw [e];exact Eb hm) (Mid.srt hm (e ▸ hs) rfl)
theorem Qo {L':LH}{b n T:Nat}{l vs:List Value}[h:InL b L (.cells l.toArray T (0,0))][u:UpL b L (.cells l.toArray T (0,0)) (.cells vs.toArray T (0,0)) L'](hl:vs.length=n)(hl':l.length=n)(h1:∀u∈vs,u.oneCell'=true)(hk:Gh (K undef) I L'):
  Sto n (.pointer (some ⟨b,0,none⟩)) (.agg vs.toArray) (gh K) I L:=by
 obtain ⟨L1,L2,rfl,rfl⟩:=u.up;refine ⟨b,0,l.toArray,T,L1,L2,rfl,by simp [Value.cells,hl],by simpa [Value.cells] using h1,by simp [hl'],rfl,?_⟩;simp only [Value.cells];rw [Vv vs l 0 (by omega)];have e:List.take 0 l++vs=vs:=rfl;rw [e];exact hk
def Ek (sp:Sp)(x:TIntent)(nt:Nts):Nts:=if (Az sp x).2.2≠0 then nt else Di nt (105::x.fKey) (FE (El x (Az sp x).1))
theorem OO {α:Type}[Inhabited α]{l:List α}{v:α}(h:l.getLast? =some v):0 < l.length∧EY l ((l.length - 1:Nat):Int)=v:=by
 obtain ⟨ys,rfl⟩:=List.getLast?_eq_some_iff.1 h;refine ⟨by simp,?_⟩;rw [Ab (by simp)];simp
theorem ABG {b:Nat}{x:TIntent}{c:List Value}{X F:LH}{sp:Sp}{nt:Nts}(hS:SpR I b X sp nt)(hok:SpOk sp)(hlen:sp.rows.length≤100000000)(hvs:∀r∈sp.rows,r.vs.length≤100000000)(hx:TIntentV I x c)
  (hk:∀X' I',Ext I I'→SpR I' b X' (CL sp x) (Ek sp x nt)→K (.tuple #[sv (Az sp x).1,.int .i64 (Az sp x).2.1,.int .i64 (Az sp x).2.2]) I' (X'++F)):
  CT ω 156 #[pt b,.agg c.toArray] K I (X++F):=by
 obtain ⟨v0,v1,rfl,h0,h1⟩:=hx;have hs:=hok.rise;obtain ⟨m,kv,es,clock,ps,hV⟩:=hS.view (L:=X++F) (fun y hy=>List.mem_append_left _ hy);have hc2:Cells I (X++F) b 2 [.int .i64 sp.floor.fWall,.int .i64 sp.floor.fLogic]:=by simpa using hV.head.sub (k:=2) (m:=2)
 refine AIM ?_;unfold sh156;refine AM (fun b1=>AM (fun b2=>?_));have bad:∀hb:Cz x,sh156_1 ω (pt b2) (.int .i64 0) (.int .i64 0) (fun v=>Gh (K v)) I ((b2,.cells #[.int .i64 0,.int .i64 0] 41 (0,0))::(b1,.cells #[v0,.int .i64 x.fTxn,.int .i64 x.fAt.fWall,.int .i64 x.fAt.fLogic,.bool x.fDel,v1] 190 (0,0))::(X++F)):=by
  intro hb;have e:Az sp x=(z0,0,1):=by unfold Az;rw [if_pos hb]
  have e2:CL sp x=sp:=by unfold CL;rw [e];rfl
  have e3:Ek sp x nt=nt:=by unfold Ek;rw [e];rfl
  rw [e2,e3] at hk;have hk':=hk X I (Ext.refl _) hS;rw [e] at hk';unfold sh156_1;repeat' (first|(with_reducible first|refine AK ?_|refine AX ?_|refine AY ?_|refine keepA ?_|refine AM (fun _=>?_)|refine rdb ?_)|((with_reducible first|refine st1 ?_ ?_|refine rdB ?_ ?_);rfl)|(with_reducible refine AV ?_)|((with_reducible refine Ae ?_ ?_);rfl)|((with_reducible refine stB ?_ ?_ ?_ ?_);rfl;rfl;exact AE rfl)|((with_reducible first|refine rdP _ rfl ?_ ?_|refine Af _ rfl ?_ ?_);rfl)|((with_reducible refine stP _ rfl ?_ ?_ ?_ ?_);rfl;rfl;rfl)|(with_reducible first|refine AO (sh156_1.eq_1 ..) ?_|refine AO (sh156_4.eq_1 ..) ?_|refine AO (sh156_8.eq_1 ..) ?_|refine AO (sh156_7.eq_1 ..) ?_|refine AO (sh156_6.eq_1 ..) ?_|refine AO (sh156_5.eq_1 ..) ?_|refine AO (sh156_3.eq_1 ..) ?_|refine AO (sh156_2.eq_1 ..) ?_|refine AO (sh156.eq_1 ..) ?_|refine And.intro ?_ ?_)|(simp only [SSg,Int.reduceBEq,Int.reduceBNe,Int.reduceLT,Int.reduceLE,beq_self_eq_true,bne_self_eq_false])|(with_reducible first|refine AH (fun _=>?_) (fun _=>?_)|refine AD (fun _=>?_) (fun _=>?_))|(simp only [SSd,Nat.reduceAdd]))
  exact Gh.to (X++F) (Gh.done hk')
 have main:∀(bat:Nat) (hb:¬Cz x),sh156_3 ω (pt b) (pt b1) (pt b2) (.int .i64 0) (.int .i64 0) (pt bat) (fun v=>Gh (K v)) I (Gv b1 b2 bat v0 v1 x (if bhd sp.floor x.fAt=true then sp.floor else x.fAt) (X++F)):=by
  intro bat hb;have hb':=hb;unfold Cz at hb';simp only [not_or,not_and,Bool.not_eq_false,Nat.not_lt,Decidable.not_not] at hb';have hkey:1≤x.fKey.length∧x.fKey.length≤110:=by simpa [An] using hb'.1
  have fin:∀a,Az sp x=(a,0,0)→sh156_8 ω (pt b) (pt b1) (pt b2) (.int .i64 0) (.int .i64 0) (pt bat) (fun v=>Gh (K v)) I (Gv b1 b2 bat v0 v1 x a (X++F)):=by
   intro a ha;have g:=OG hok (show (Az sp x).2.2=0 by rw [ha]);have e2:CL sp x=⟨FL x.fKey (El x a) sp.rows,sp.floor⟩:=by unfold CL;rw [ha];rfl
   have e3:Ek sp x nt=Di nt (105::x.fKey) (FE (El x a)):=by unfold Ek;rw [ha];rfl
   rw [ha] at hk g;rw [e2,e3] at hk;exact VH hS hs hlen h0 h1 g.2.1 hb'.2.1 (by omega) hb'.2.2.2.1 hk
  have err:∀by' e,Az sp x=(z0,by',e)→e≠0→K (.tuple #[sv z0,.int .i64 by',.int .i64 e]) I (X++F):=by
   intro by' e ha he;have e2:CL sp x=sp:=by unfold CL;rw [ha];exact if_pos he
   have e3:Ek sp x nt=nt:=by unfold Ek;rw [ha];exact if_pos he
   rw [e2,e3] at hk;have hk':=hk X I (Ext.refl _) hS;rw [ha] at hk';exact hk'
  unfold sh156_3;refine AK ?_;try simp only [SSd,Nat.reduceAdd]
  refine Aq (hV.head 0 _ rfl) (Ext.refl _) ?_;refine AV ?_;refine BS h0 (Ext.refl _) ?_;refine ⟨_,fun I' L' hS=>FS (MapAt.mono hV.at' hS.1 (fun x hx=>hS.2 _ (by simp [hx]))) hV.map,?_⟩;have hA:Az sp x=if (Bm sp.rows x.fKey).txn≠0∧(Bm sp.rows x.fKey).txn≠x.fTxn then (z0,(Bm sp.rows x.fKey).txn,130) else
    if (Cu (putAt sp x) (Dh sp.rows x.fKey).getLast?).2≠0 then (z0,0,(Cu (putAt sp x) (Dh sp.rows x.fKey).getLast?).2) else ((Cu (putAt sp x) (Dh sp.rows x.fKey).getLast?).1,0,0):=by
   unfold Az;rw [if_neg hb]
  obtain ⟨g1,g2⟩|⟨r,q,g1,g2,g3,g4⟩:=hV.look hs x.fKey
  ·have en:Bh .neq (.pointer none) (.pointer none)=some (.bool false):=rfl;simp only [g2,lkV,Bool.false_eq_true,if_false,en,SSd,Nat.reduceAdd];refine fin _ ?_;have ei:Bm sp.rows x.fKey=noIt:=by unfold Bm;rw [g1]
   have ev:Dh sp.rows x.fKey=[]:=by unfold Dh;rw [g1]
   rw [hA,ei,ev];simp [noIt,Cu,putAt,ei]
  ·have ei:Bm sp.rows x.fKey=r.it:=by unfold Bm;rw [g1]
   have ev:Dh sp.rows x.fKey=r.vs:=by unfold Dh;rw [g1]
   rw [ei,ev] at hA;have hat:putAt sp x=if r.it.txn≠0∧bhd r.it.ver.fAt (if bhd sp.floor x.fAt=true then sp.floor else x.fAt)=true then r.it.ver.fAt else (if bhd sp.floor x.fAt=true then sp.floor else x.fAt):=by
    unfold putAt;rw [ei]
   obtain ⟨sl,hC,hVs⟩:=g3;obtain ⟨c0,c1,c14,c3,c4,c5,c15⟩:=itC hC;have hvl:=hvs r (Ca g1);simp only [g2,lkV,Bool.false_eq_true,if_false,SSd,Nat.reduceAdd];generalize (if bhd sp.floor x.fAt=true then sp.floor else x.fAt)=a0 at hat ⊢;have six:∀a,a=putAt sp x→¬(r.it.txn≠0∧r.it.txn≠x.fTxn)→sh156_6 ω (pt b) (pt b1) (pt b2) (.int .i64 0) (.int .i64 0) (pt bat) (pt q) (fun v=>Gh (K v)) I (Gv b1 b2 bat v0 v1 x a (X++F)):=by
    intro a ha hno;rw [if_neg hno,←ha] at hA;unfold sh156_6;try simp only [SSd,Nat.reduceAdd]
    refine rdC c0 (Ext.refl _) ?_;simp only [RL.len hVs,SSd,Nat.reduceAdd];refine AK ?_;cases hl:r.vs.getLast? with
    |none=>
     have hv0:r.vs=[]:=List.getLast?_eq_none_iff.1 hl;have eg:decide ((0:Int) < ((r.vs.length:Nat):Int))=false:=by rw [hv0];rfl
     simp only [eg,SSd,Nat.reduceAdd];rw [hl] at hA;exact fin a (by rw [hA];rfl)
    |some v=>
     obtain ⟨hv0,hlx⟩:=OO hl;have eg:decide ((0:Int) < ((r.vs.length:Nat):Int))=true:=by simpa using hv0
     simp only [eg,SSd,Nat.reduceAdd];refine Ae rfl ?_;refine Aq c0 (Ext.refl _) ?_;rw [wrap_i64 _ (by omega)];have el:((r.vs.length:Nat):Int) - 1=((r.vs.length - 1:Nat):Int):=by omega
     rw [el];obtain ⟨qq,off,cc,hix,hl4,hcc,hcr⟩:=RL.ix hVs (i:=((r.vs.length - 1:Nat):Int)) (by omega) (by omega);obtain rfl:cc=EI _:=hcc;rw [hlx] at hcr;obtain ⟨w1,w2,w3⟩:=MY (hcr I (X++F) (Ext.refl _) (fun _ h=>h));simp only [hix,SSd,Nat.reduceAdd];refine BX w1 (Ext.refl _) rfl ?_;refine call (BE (x:=a) (y:=v.fAt) ?_);try simp only [SSd,Nat.reduceAdd]
     rw [hl] at hA;refine AD (fun e=>?_) (fun e=>?_)
     ·have e':¬bhd a v.fAt=true:=by simpa using e
      have ep:Cu a (some v)=Bs v.fAt:=if_neg e';rw [ep] at hA;unfold sh156_7;try simp only [SSd,Nat.reduceAdd]
      refine rdC c0 (Ext.refl _) ?_;rw [wrap_i64 _ (by omega),el];simp only [hix,SSd,Nat.reduceAdd];refine FO w1 (Ext.refl _) rfl ?_;refine call (LT (x:=v.fAt) ?_);try simp only [SSd,Nat.reduceAdd]
      refine AM (fun bn=>?_);refine stB rfl rfl (AE rfl) ?_;try simp only [SSd,Nat.reduceAdd]
      refine AD (fun e2=>?_) (fun e2=>?_)
      ·have e2':(Bs v.fAt).2≠0:=by simpa using e2
       rw [if_pos e2'] at hA;have hk':=err _ _ hA e2';repeat' (first|(with_reducible first|refine AK ?_|refine AX ?_|refine AY ?_|refine keepA ?_|refine AM (fun _=>?_)|refine rdb ?_)|((with_reducible first|refine st1 ?_ ?_|refine rdB ?_ ?_);rfl)|(with_reducible refine AV ?_)|((with_reducible refine Ae ?_ ?_);rfl)|((with_reducible refine stB ?_ ?_ ?_ ?_);rfl;rfl;exact AE rfl)|((with_reducible first|refine rdP _ rfl ?_ ?_|refine Af _ rfl ?_ ?_);rfl)|((with_reducible refine stP _ rfl ?_ ?_ ?_ ?_);rfl;rfl;rfl)|(with_reducible first|refine AO (sh156_1.eq_1 ..) ?_|refine AO (sh156_4.eq_1 ..) ?_|refine AO (sh156_8.eq_1 ..) ?_|refine AO (sh156_7.eq_1 ..) ?_|refine AO (sh156_6.eq_1 ..) ?_|refine AO (sh156_5.eq_1 ..) ?_|refine AO (sh156_3.eq_1 ..) ?_|refine AO (sh156_2.eq_1 ..) ?_|refine AO (sh156.eq_1 ..) ?_|refine And.intro ?_ ?_)|(simp only [SSg,Int.reduceBEq,Int.reduceBNe,Int.reduceLT,Int.reduceLE,beq_self_eq_true,bne_self_eq_false])|(with_reducible first|refine AH (fun _=>?_) (fun _=>?_)|refine AD (fun _=>?_) (fun _=>?_))|(simp only [SSd,Nat.reduceAdd]))
       exact Gh.to (X++F) (Gh.done hk')
      ·have e2':¬(Bs v.fAt).2≠0:=by simpa using e2
       rw [if_neg e2'] at hA;refine rdB rfl ?_;refine Qo rfl rfl (AE rfl) ?_;exact Gh.to (Gv b1 b2 bat v0 v1 x (Bs v.fAt).1 (X++F)) (Gh.done (fin _ hA))
     ·have e':bhd a v.fAt=true:=by simpa using e
      have ep:Cu a (some v)=(a,0):=if_pos e';rw [ep] at hA;exact fin a hA
   refine AK ?_;try simp only [SSd,Nat.reduceAdd]
   refine Aq c5 (Ext.refl _) ?_;try simp only [SSd,Nat.reduceAdd]
   have rest:∀(hno:¬(r.it.txn≠0∧r.it.txn≠x.fTxn)),(Ac fun S=>Pv (AJ (pt q)) fun v64=>Pv (AA 1 v64) fun v65=>Pv (AA 4 v65) fun v66=>Rv (some S) (AB v66) fun v67=>Pv (AC .neq v67 (.int .i64 0)) fun v68=>Gd v68 true
     (Pv (AJ (pt q)) fun v69=>Pv (AA 1 v69) fun v70=>Pv (AA 0 v70) fun v71=>Pv (AA 0 v71) fun v72=>Rv (some S) (AF 2 v72) fun v73=>Rv (some S) (AF 2 (pt bat)) fun v74=>CT ω 213 #[v73,v74]<|gh fun v75=>
      Br v75 (sh156_5 ω (pt b) (pt b1) (pt b2) (.int .i64 0) (.int .i64 0) (pt bat) (pt q) (fun v=>Gh (K v))) (sh156_6 ω (pt b) (pt b1) (pt b2) (.int .i64 0) (.int .i64 0) (pt bat) (pt q) (fun v=>Gh (K v))))
     (sh156_6 ω (pt b) (pt b1) (pt b2) (.int .i64 0) (.int .i64 0) (pt bat) (pt q) (fun v=>Gh (K v)))) I (Gv b1 b2 bat v0 v1 x a0 (X++F)):=by
    intro hno;refine AK ?_;try simp only [SSd,Nat.reduceAdd]
    refine Aq c5 (Ext.refl _) ?_;try simp only [SSd,Nat.reduceAdd]
    refine AH (fun e=>?_) (fun e=>?_)
    ·have e':r.it.txn≠0:=by simpa using e
     refine BX c1 (Ext.refl _) rfl ?_;refine Ae rfl ?_;refine call (BE (x:=r.it.ver.fAt) (y:=a0) ?_);refine AD (fun e2=>?_) (fun e2=>?_)
     ·rw [if_pos ⟨e',e2⟩] at hat;unfold sh156_5;try simp only [SSd,Nat.reduceAdd]
      refine FO c1 (Ext.refl _) rfl ?_;refine stB rfl rfl (AE rfl) ?_;exact six _ hat.symm hno
     ·rw [if_neg (fun h=>by rw [h.2] at e2;cases e2)] at hat;exact six _ hat.symm hno
    ·have e':¬r.it.txn≠0:=by simpa using e
     rw [if_neg (fun h=>e' h.1)] at hat;exact six _ hat.symm hno
   refine AH (fun e=>?_) (fun e=>?_)
   ·have e':r.it.txn≠0:=by simpa using e
    refine Aq c5 (Ext.refl _) ?_;refine AV ?_;try simp only [SSd,Nat.reduceAdd]
    refine AD (fun e2=>?_) (fun e2=>?_)
    ·have e2':r.it.txn≠x.fTxn:=by simpa using e2
     rw [if_pos ⟨e',e2'⟩] at hA;have hk':=err _ _ hA (by simp);unfold sh156_4;refine AX ?_;try simp only [SSd,Nat.reduceAdd]
     refine Aq c5 (Ext.refl _) ?_;refine stB rfl rfl (AE rfl) ?_;refine Bv (Ext.refl _) ?_;refine rdB rfl ?_;exact Gh.to (X++F) (Gh.done hk')
    ·exact rest (fun h=>h.2 (by simpa using e2))
   ·exact rest (fun h=>by simp at e;exact h.1 e)
 try simp only [SSd,Nat.reduceAdd]
 refine rdb ?_;refine call (Cm h0 ?_);try simp only [SSd,Nat.reduceAdd]
 refine AH (fun e=>?_) (fun e=>bad (.inl (by simpa using e)));have k1:An x.fKey=true:=by simpa using e
 try simp only [SSd,Nat.reduceAdd]
 refine rdb ?_;refine call (DN ?_);try simp only [SSd,Nat.reduceAdd]
 refine AH (fun e=>?_) (fun e=>bad (.inr (.inl (by simpa using e))));have k2:Bj x.fTxn=true:=by simpa using e
 try simp only [SSd,Nat.reduceAdd]
 refine rdP [.int .i64 x.fAt.fWall,.int .i64 x.fAt.fLogic] rfl rfl ?_;refine call (BZ (x:=x.fAt) ?_);try simp only [SSd,Nat.reduceAdd]
 refine AH (fun e=>?_) (fun e=>bad (.inr (.inr (.inl (by simpa using e)))));have k3:AU x.fAt=true:=by simpa using e
 try simp only [SSd,Nat.reduceAdd]
 refine rdb ?_;simp only [Bytes.len h1,SSd,Nat.reduceAdd];refine AH (fun e=>?_) (fun e=>bad (.inr (.inr (.inr (.inl (by simp at e;omega))))));have k4:x.fValue.length≤10000:=by simp at e;omega
 try simp only [SSd,Nat.reduceAdd]
 refine rdb ?_;have tail:∀(hd:¬(x.fDel=true∧x.fValue≠[])),(Pv (AA 2 (pt b1)) fun v27=>Rv none (AF 2 v27) fun v28=>New (.cells #[.int .i64 0,.int .i64 0] 41 (0,0))<|gh fun at_29=>Sto 2 at_29 v28<|gh fun _=>
   Ac fun S=>Pv (AJ (pt b)) fun v30=>Pv (AA 2 v30) fun v31=>Rv (some S) (AF 2 v31) fun v32=>Rv (some S) (AF 2 at_29) fun v33=>CT ω 213 #[v32,v33]<|gh fun v34=>
    Br v34 (sh156_2 ω (pt b) (pt b1) (pt b2) (.int .i64 0) (.int .i64 0) at_29 (fun v=>Gh (K v))) (sh156_3 ω (pt b) (pt b1) (pt b2) (.int .i64 0) (.int .i64 0) at_29 (fun v=>Gh (K v)))) I
   ((b2,.cells #[.int .i64 0,.int .i64 0] 41 (0,0))::(b1,.cells #[v0,.int .i64 x.fTxn,.int .i64 x.fAt.fWall,.int .i64 x.fAt.fLogic,.bool x.fDel,v1] 190 (0,0))::(X++F)):=by
  intro hd;have hb:¬Cz x:=by
   unfold Cz;rintro (h|h|h|h|h)
   ·rw [k1] at h;cases h
   ·rw [k2] at h;cases h
   ·rw [k3] at h;cases h
   ·omega
   ·exact hd h
  try simp only [SSd,Nat.reduceAdd]
  refine rdP [.int .i64 x.fAt.fWall,.int .i64 x.fAt.fLogic] rfl rfl ?_;refine AM (fun bat=>?_);have hm:=main bat hb;refine stB rfl rfl (AE rfl) ?_;refine AK ?_;try simp only [SSd,Nat.reduceAdd]
  refine BX hc2 (Ext.refl _) rfl ?_;refine Ae rfl ?_;refine call (BE (x:=sp.floor) (y:=x.fAt) ?_);refine AD (fun e2=>?_) (fun e2=>?_)
  ·rw [if_pos e2] at hm;unfold sh156_2;try simp only [SSd,Nat.reduceAdd]
   refine FO hc2 (Ext.refl _) rfl ?_;refine stB rfl rfl (AE rfl) ?_;exact hm
  ·rw [if_neg (by rw [e2];simp)] at hm;exact hm
 refine AH (fun e=>?_) (fun e=>tail (fun h=>e h.1));try simp only [SSd,Nat.reduceAdd]
 refine rdb ?_;simp only [Bytes.len h1,SSd,Nat.reduceAdd];refine AD (fun e2=>?_) (fun e2=>?_)
 ·exact bad (.inr (.inr (.inr (.inr ⟨e,fun h=>by rw [h] at e2;simp at e2⟩))))
 ·exact tail (fun h=>by simp at e2;exact h.2 e2)
end
section
variable {ω:Om}{I:Imm}{L:LH}{K:Value→M}
abbrev Na (v:TVer):Obj:=.cells #[.int .i64 v.fAt.fWall,.int .i64 v.fAt.fLogic,.bool v.fDel,BW v.fValue] 253 (0,0)
def Ej (a:TStamp)(r:Row):TVer:=⟨a,r.it.ver.fDel,r.it.ver.fValue⟩
def AJP (k:List UInt8)(yes:Bool)(a:TStamp)(r:Row)(nt:Nts):Nts:=if yes=true then Di (Di nt (105::k) (true,[])) (Lx k (Ej a r)) (false,CU (Ej a r)) else Di nt (105::k) (true,[])
def HL (sp:Sp)(k:List UInt8)(txn:Int)(yes:Bool)(a:TStamp)(nt:Nts):Nts:=if (DU sp k txn yes a).1=true then (match rowOf sp.rows k with
 |some r=>AJP k yes a r nt
 |none=>nt) else nt
theorem FW (a b:List TVer):DV (a++b)=DV a++DV b:=by simp [DV]
theorem Mo {b:Nat}{a1:Value}{k:List UInt8}{X F:LH}{A B:List Row}{r:Row}{fl:TStamp}{nt:Nts}{p10 p11:Value}[hsub:SubP (X++F) L](h1:Bytes I a1 k)(hS:SpR I b X ⟨A++r::B,fl⟩ nt)(hm:Mid A k B)(hkr:r.key=k)(hs:SrtK (keysOf (A++r::B)))(hlen:(A++r::B).length≤100000000)
  (hk:∀X',SpR I b X' ⟨if BO r=true then A++B else A++r::B,fl⟩ nt→K (.tuple #[.bool true,.int .i64 0]) I (X'++F)):Du ω (pt b) a1 p10 p11 (fun v=>Gh (K v)) I L:=by
 unfold Du;refine EG h1 (Ext.refl _) ?_;refine call (Cal.to (X++F) ?_);exact Ma hS hm hkr hs hlen (fun X' h'=>Gh.done (hk X' h'))
theorem Nx {b:Nat}{a1:Value}{k:List UInt8}{txn:Int}{yes:Bool}{a:TStamp}{X F:LH}{sp:Sp}{nt:Nts}(hS:SpR I b X sp nt)(hok:SpOk sp)(hlen:sp.rows.length≤100000000)(hvs:∀r∈sp.rows,r.vs.length≤100000000)(h1:Bytes I a1 k)
  (hk:∀X' I',Ext I I'→SpR I' b X' (Dl sp k txn yes a) (HL sp k txn yes a nt)→K (.tuple #[.bool (DU sp k txn yes a).1,.int .i64 (DU sp k txn yes a).2]) I' (X'++F)):
  CT ω 161 #[pt b,a1,.int .i64 txn,.bool yes,sv a] K I (X++F):=by
 have hs:=hok.rise;have same:∀x,DU sp k txn yes a=(false,x)→K (.tuple #[.bool false,.int .i64 x]) I (X++F):=by
  intro x e;have e2:Dl sp k txn yes a=sp:=by unfold Dl;rw [e];rfl
  have e3:HL sp k txn yes a nt=nt:=by unfold HL;rw [e];rfl
  rw [e2,e3] at hk;have hk':=hk X I (Ext.refl _) hS;rw [e] at hk';exact hk'
 by_cases hbad:An k=false∨Bj txn=false∨(yes=true∧AU a=false)
 ·have hk':=same 1 (by unfold DU;rw [if_pos hbad]);refine Ll ?_;unfold KW;refine AM (fun bat=>?_);refine call (Cm h1 ?_);try simp only [SSd,Nat.reduceAdd]
  refine AH (fun e=>?_) (fun e=>Gh.to (X++F) (Gh.done hk'));refine call (DN ?_);try simp only [SSd,Nat.reduceAdd]
  refine AH (fun e2=>?_) (fun e2=>Gh.to (X++F) (Gh.done hk'));have hy:yes=true∧AU a=false:=by
   rcases hbad with h|h|h
   ·rw [h] at e;simp at e
   ·rw [h] at e2;simp at e2
   ·exact h
  simp only [hy.1,SSd,Nat.reduceAdd];refine rdB rfl ?_;refine call (BZ (x:=a) ?_);simp only [hy.2,Bool.not_false,SSd,Nat.reduceAdd];exact Gh.to (X++F) (Gh.done hk')
 have hA:DU sp k txn yes a=if (Bm sp.rows k).txn≠txn then (false,0) else if yes=true∧(bhd (Bm sp.rows k).ver.fAt a=true∨FH a (Dh sp.rows k).getLast? =true) then (false,1) else (true,0):=by unfold DU;rw [if_neg hbad]
 simp only [not_or,Bool.not_eq_false,not_and] at hbad;obtain ⟨k1,k2,k3⟩:=hbad;have kl:1≤k.length∧k.length≤110:=by simpa [An] using k1
 have kt:=FY k2;obtain ⟨rows,fl⟩:=sp;rcases place k hs with ⟨A,r,B,e,hkr,hm⟩|⟨A,B,e,hm⟩
 rotate_left
 ·simp only at e;subst e
  rw [Ps hm,if_pos (show noIt.txn≠txn from fun h=>kt h.symm)] at hA;have hk':=same 0 hA;obtain ⟨m,kv,es,clock,ps,hV⟩:=hS.view (L:=X++F) (fun y hy=>List.mem_append_left _ hy);have hn:BA ps (A++B) k=none:=Fo hm.notin;cases yes
  ·refine Ll ?_;unfold KW;refine AM (fun bat=>?_);refine call (Cm h1 ?_);simp only [k1,Bool.not_true,SSd,Nat.reduceAdd];refine call (DN ?_);simp only [k2,Bool.not_true,SSd,Nat.reduceAdd];refine AK ?_;try simp only [SSd,Nat.reduceAdd]
   refine Aq (hV.head 0 _ rfl) (Ext.refl _) ?_;refine BS h1 (Ext.refl _) ?_;refine ⟨_,fun I' L' hS=>FS (MapAt.mono hV.at' hS.1 (fun x hx=>hS.2 _ (by simp [hx]))) hV.map,?_⟩;have en:Bh .eql (.pointer none) (.pointer none)=some (.bool true):=rfl;simp only [hn,lkV,Bool.false_eq_true,if_false,en,SSd,Nat.reduceAdd];exact Gh.to (X++F) (Gh.done hk')
  ·refine Ll ?_;unfold KW;refine AM (fun bat=>?_);refine call (Cm h1 ?_);simp only [k1,Bool.not_true,SSd,Nat.reduceAdd];refine call (DN ?_);simp only [k2,Bool.not_true,SSd,Nat.reduceAdd];refine rdB rfl ?_;refine call (BZ (x:=a) ?_);simp only [k3 rfl,Bool.not_true,SSd,Nat.reduceAdd];refine AK ?_;try simp only [SSd,Nat.reduceAdd]
   refine Aq (hV.head 0 _ rfl) (Ext.refl _) ?_;refine BS h1 (Ext.refl _) ?_;refine ⟨_,fun I' L' hS=>FS (MapAt.mono hV.at' hS.1 (fun x hx=>hS.2 _ (by simp [hx]))) hV.map,?_⟩;have en:Bh .eql (.pointer none) (.pointer none)=some (.bool true):=rfl;simp only [hn,lkV,Bool.false_eq_true,if_false,en,SSd,Nat.reduceAdd];exact Gh.to (X++F) (Gh.done hk')
 ·simp only at e;subst e
  rw [Pq hm hkr,Ok hm hkr] at hA;obtain ⟨p1,p2,p3⟩:=hok.part;obtain ⟨ps,hS⟩:=hS;obtain ⟨p,sl,Y,R,hps,hp,hv,hX,g4⟩:=hS.open' hm hkr;obtain ⟨m,kv,es,clock,hV,hcp⟩:=g4 ((p,Aw sl r.it)::(Y++(R++F))) (fun x hx=>by
   have:=hp.mem_iff.1 hx;simp only [List.mem_cons,List.mem_append] at this ⊢;rcases this with h|h|h
   ·exact .inl h
   ·exact .inr (.inl h)
   ·exact .inr (.inr (.inl h)))
  have hs1:SrtK (keysOf (A++⟨k,r.vs,noIt⟩::B)):=by rw [Gn (r:=r) hkr.symm];exact hs
  have hlen1:(A++(⟨k,r.vs,noIt⟩:Row)::B).length≤100000000:=by simpa using hlen
  refine Cal.perm (L':=(p,Aw sl r.it)::(Y++(R++F))) (AQ (by rw [AP,BH hp];((try simp only [AN,AP,Aa,AR]);(try ac_rfl)))) ?_;have back:∀(bat:Nat) {v:Value},K v I (X++F)→Gh (K v) I ((bat,stO a)::(p,Aw sl r.it)::(Y++(R++F))):=fun bat v h=>Gh.to ((p,Aw sl r.it)::(Y++(R++F))) (Gh.perm (L':=X++F) (AQ (by rw [AP,BH hp];((try simp only [AN,AP,Aa,AR]);(try ac_rfl)))) (Gh.done h));have back2:∀(bv bat:Nat) {v:Value},K v I (X++F)→Gh (K v) I ((bv,Na r.it.ver)::(bat,stO a)::(p,Aw sl r.it)::(Y++(R++F))):=fun bv bat v h=>Gh.to ((p,Aw sl r.it)::(Y++(R++F))) (Gh.perm (L':=X++F) (AQ (by rw [AP,BH hp];((try simp only [AN,AP,Aa,AR]);(try ac_rfl)))) (Gh.done h));cases yes
  ·refine Ll ?_;unfold KW;refine AM (fun bat=>?_);refine call (Cm h1 ?_);simp only [k1,Bool.not_true,SSd,Nat.reduceAdd];refine call (DN ?_);simp only [k2,Bool.not_true,SSd,Nat.reduceAdd];refine AK ?_;try simp only [SSd,Nat.reduceAdd]
   refine Aq (hV.head 0 _ rfl) (Ext.refl _) ?_;refine BS h1 (Ext.refl _) ?_;refine ⟨_,fun I' L' hS=>FS (MapAt.mono hV.at' hS.1 (fun x hx=>hS.2 _ (by simp [hx]))) hV.map,?_⟩;simp only [hcp,lkV,Bool.false_eq_true,if_false,SSd,Nat.reduceAdd];refine rdb ?_;try simp only [SSd,Nat.reduceAdd]
   refine AD (fun e=>?_) (fun e=>?_)
   ·have e':r.it.txn≠txn:=by simpa using e
    rw [if_pos e'] at hA;exact back _ (same 0 hA)
   have e':¬r.it.txn≠txn:=by simpa using e
   rw [if_neg e'] at hA;try simp only [SSd,Nat.reduceAdd]
   refine rdP [.int .i64 r.it.ver.fAt.fWall,.int .i64 r.it.ver.fAt.fLogic,.bool r.it.ver.fDel,BW r.it.ver.fValue] rfl rfl ?_;refine AM (fun bv=>?_);refine stB rfl rfl (AE rfl) ?_;try simp only [SSd,Nat.reduceAdd]
   refine rdb ?_;obtain ⟨sa,sc,rfl⟩:=hv.form;try simp only [SSd,Nat.reduceAdd]
   refine AK ?_;try simp only [SSd,Nat.reduceAdd]
   refine ⟨⟨Ext.refl _,fun _ h=>h⟩,?_⟩;have hA':DU ⟨A++r::B,fl⟩ k txn false a=(true,0):=by rw [hA];rfl
   try simp only [SSd,Nat.reduceAdd]
   refine stP _ rfl rfl rfl rfl ?_;refine EG h1 (Ext.refl _) ?_;have hS':=hX.close ⟨k,r.vs,noIt⟩ _ Y ((p,Aw (.slice sa r.vs.length sc) noIt)::(Y++R)) rfl hv (List.Perm.refl _);refine call (Cal.perm (L':=((p,Aw (.slice sa r.vs.length sc) noIt)::(Y++R))++((bv,Na r.it.ver)::(bat,stO a)::F)) (AQ (by ((try simp only [AN,AP,Aa,AR]);(try ac_rfl)))) ?_);refine EJ hS' hs1 (Bn hm rfl) (by simp [noIt]) (fun h=>absurd rfl h) (by omega) (by simp [noIt]) (fun X' I' hI' h'=>?_);refine Mo (X:=X') (F:=F) (h1.mono hI') ⟨_,h'⟩ hm rfl hs1 hlen1 (fun X2 h2=>?_);have hk':=hk X2 I' hI';rw [hA'] at hk';refine hk' ?_;have e2:Dl ⟨A++r::B,fl⟩ k txn false a=⟨if BO ⟨k,r.vs,noIt⟩=true then A++B else A++⟨k,r.vs,noIt⟩::B,fl⟩:=by
    unfold Dl;rw [hA'];simp only [if_true];rw [Ee hm hkr,IU (fun x hx=>(p1 x hx).some) (fun x hx=>(p3 x hx).some)];simp [HK,hkr]
   have e3:HL ⟨A++r::B,fl⟩ k txn false a nt=Di nt (105::k) (true,[]):=by
    unfold HL;rw [hA'];simp only [if_true];rw [Bn hm hkr];rfl
   rw [e2,e3];exact h2
  ·refine Ll ?_;unfold KW;refine AM (fun bat=>?_);refine call (Cm h1 ?_);simp only [k1,Bool.not_true,SSd,Nat.reduceAdd];refine call (DN ?_);simp only [k2,Bool.not_true,SSd,Nat.reduceAdd];refine rdB rfl ?_;refine call (BZ (x:=a) ?_);simp only [k3 rfl,Bool.not_true,SSd,Nat.reduceAdd];refine AK ?_;try simp only [SSd,Nat.reduceAdd]
   refine Aq (hV.head 0 _ rfl) (Ext.refl _) ?_;refine BS h1 (Ext.refl _) ?_;refine ⟨_,fun I' L' hS=>FS (MapAt.mono hV.at' hS.1 (fun x hx=>hS.2 _ (by simp [hx]))) hV.map,?_⟩;simp only [hcp,lkV,Bool.false_eq_true,if_false,SSd,Nat.reduceAdd];refine rdb ?_;try simp only [SSd,Nat.reduceAdd]
   refine AD (fun e=>?_) (fun e=>?_)
   ·have e':r.it.txn≠txn:=by simpa using e
    rw [if_pos e'] at hA;exact back _ (same 0 hA)
   have e':¬r.it.txn≠txn:=by simpa using e
   rw [if_neg e'] at hA;try simp only [SSd,Nat.reduceAdd]
   refine rdP [.int .i64 r.it.ver.fAt.fWall,.int .i64 r.it.ver.fAt.fLogic,.bool r.it.ver.fDel,BW r.it.ver.fValue] rfl rfl ?_;refine AM (fun bv=>?_);refine stB rfl rfl (AE rfl) ?_;try simp only [SSd,Nat.reduceAdd]
   refine rdb ?_;obtain ⟨sa,sc,rfl⟩:=hv.form;try simp only [SSd,Nat.reduceAdd]
   refine AK ?_;try simp only [SSd,Nat.reduceAdd]
   refine Af [.int .i64 r.it.ver.fAt.fWall,.int .i64 r.it.ver.fAt.fLogic] rfl rfl ?_;refine Ae rfl ?_;refine call (BE (x:=r.it.ver.fAt) (y:=a) ?_);refine Bv (Ext.refl _) ?_;refine AH (fun e2=>?_) (fun e2=>?_);rotate_left
   ·have e2':bhd r.it.ver.fAt a=true:=by simpa using e2
    rw [if_pos ⟨rfl,.inl e2'⟩] at hA;exact back2 _ _ (same 1 hA)
   have tail:∀hA':DU ⟨A++r::B,fl⟩ k txn true a=(true,0),(Pv (AW #[.int .i64 0,.int .i64 0,.bool false,.string (ByteArray.mk #[]),.int .i64 0] #[(0,4),(4,1)] []) fun v44=>Pv (AJ (pt p)) fun v45=>Pv (AA 1 v45) fun v46=>Sto 5 v46 v44<|gh fun _=>Rv none (bsR a1) fun v47=>
     CT ω 190 #[pt b,v47]<|gh fun v48=>Br (.bool true) (Ev ω (pt b) a1 (pt bat) (.bool false) (.int .i64 0) (pt p) (pt bv) (fun v=>Gh (K v))) (Du ω (pt b) a1 (.bool false) (.int .i64 0) (fun v=>Gh (K v)))) I
     ((bv,Na r.it.ver)::(bat,stO a)::(p,Aw (.slice sa r.vs.length sc) r.it)::(Y++(R++F))):=by
    intro hA';try simp only [SSd,Nat.reduceAdd]
    refine stP _ rfl rfl rfl rfl ?_;refine EG h1 (Ext.refl _) ?_;have hS':=hX.close ⟨k,r.vs,noIt⟩ _ Y ((p,Aw (.slice sa r.vs.length sc) noIt)::(Y++R)) rfl hv (List.Perm.refl _);refine CI (Cal.perm (L':=((p,Aw (.slice sa r.vs.length sc) noIt)::(Y++R))++((bv,Na r.it.ver)::(bat,stO a)::F)) (AQ (by ((try simp only [AN,AP,Aa,AR]);(try ac_rfl)))) ?_);refine EJ hS' hs1 (Bn hm rfl) (by simp [noIt]) (fun h=>absurd rfl h) (by omega) (by simp [noIt]) (fun X' I' hI' h'=>?_);obtain ⟨p',sl',Y',R',hps',gp,gv,gX,g4'⟩:=h'.open' hm rfl;obtain rfl:p'=p:=by rw [hps] at hps';exact (Option.some.inj hps').symm
    refine Gh.perm (L':=(p',Aw sl' noIt)::(Y'++(R'++((bv,Na r.it.ver)::(bat,stO a)::F)))) (AQ (by rw [AP,BH gp];((try simp only [AN,AP,Aa,AR]);(try ac_rfl)))) (Gh.done ?_);obtain ⟨sa2,sc2,rfl⟩:=gv.form;try simp only [SSd,Nat.reduceAdd]
    unfold Ev;try simp only [SSd,Nat.reduceAdd]
    refine rdB rfl ?_;refine stP _ rfl rfl rfl rfl ?_;refine AK ?_;try simp only [SSd,Nat.reduceAdd]
    refine AV ?_;refine Ae rfl ?_;refine Dg rfl (by omega) rfl (fun X1 u hX1=>?_);refine Bv (Ext.refl _) ?_;have hvl:r.vs.length≤100000000:=hvs r (by simp);refine DJ (X:=Y') (news:=EI (Ej a r)) rfl gv (hX1.news (fun x hx=>List.mem_append_left _ hx)) (AE rfl) (by simp only;omega) (by simp only;omega) (fun Y2 sl2 hY2=>?_);obtain ⟨sa3,sc3,rfl⟩:=hY2.form;try simp only [SSd,Nat.reduceAdd]
    refine st1 rfl ?_;refine EG (h1.mono hI') (Ext.refl _) ?_;refine rdB rfl ?_;have hv2:VsO Y2 (.slice sa3 (r.vs.length+1) sc3) (r.vs++[Ej a r]):=by
     unfold VsO;rw [FW,List.length_append];exact hY2
    have hS2:=gX.close ⟨k,r.vs++[Ej a r],noIt⟩ _ Y2 ((p',Aw (.slice sa3 (r.vs.length+1) sc3) noIt)::(Y2++R')) rfl hv2 (List.Perm.refl _);have hvalL:r.it.ver.fValue.length≤10000:=by
     rcases p2.it with h|⟨_,h⟩
     ·rw [h];simp [noIt]
     ·exact h.len
    refine call (Cal.perm (L':=((p',Aw (.slice sa3 (r.vs.length+1) sc3) noIt)::(Y2++R'))++((bv,Na (Ej a r))::(bat,stO a)::(X1++F))) (AQ (by ((try simp only [AN,AP,Aa,AR]);(try ac_rfl)))) ?_);refine Ie (v:=Ej a r) hS2 (k3 rfl) (by omega) (by simp only [Ej];omega) (fun X2 I2 hI2 h2=>?_);have hs2:SrtK (keysOf (A++⟨k,r.vs++[Ej a r],noIt⟩::B)):=by rw [Gn (r:=r) hkr.symm];exact hs
    refine Mo (X:=X2) (F:=F) (h1.mono (hI'.trans hI2)) ⟨_,h2⟩ hm rfl hs2 (by simpa using hlen) (fun X3 h3=>?_);have hk':=hk X3 I2 (hI'.trans hI2);rw [hA'] at hk';refine hk' ?_;have e2:Dl ⟨A++r::B,fl⟩ k txn true a=⟨if BO ⟨k,r.vs++[Ej a r],noIt⟩=true then A++B else A++⟨k,r.vs++[Ej a r],noIt⟩::B,fl⟩:=by
     unfold Dl;rw [hA'];simp only [if_true];rw [Ee hm hkr,IU (fun x hx=>(p1 x hx).some) (fun x hx=>(p3 x hx).some)];rw [show HK true a r=⟨k,r.vs++[Ej a r],noIt⟩ from by simp [HK,hkr,Ej]]
    have e3:HL ⟨A++r::B,fl⟩ k txn true a nt=Di (Di nt (105::k) (true,[])) (Lx k (Ej a r)) (false,CU (Ej a r)):=by
     unfold HL;rw [hA'];simp only [if_true];rw [Bn hm hkr];rfl
    rw [e2,e3];exact h3
   cases hl:r.vs.getLast? with
   |none=>
    have hv0:r.vs=[]:=List.getLast?_eq_none_iff.1 hl;have eg:decide ((0:Int) < ((r.vs.length:Nat):Int))=false:=by rw [hv0];rfl
    have hA':DU ⟨A++r::B,fl⟩ k txn true a=(true,0):=by
     rw [hA,hl,if_neg];rintro ⟨_,h|h⟩
     ·rw [h] at e2;cases e2
     ·cases h
    have htail:=tail hA';simp only [SSd,Nat.reduceAdd] at htail;simp only [eg,SSd,Nat.reduceAdd];exact htail
   |some v=>
    obtain ⟨hv0,hlx⟩:=OO hl;have eg:decide ((0:Int) < ((r.vs.length:Nat):Int))=true:=by simpa using hv0
    simp only [eg,SSd,Nat.reduceAdd];refine Ae rfl ?_;refine AV ?_;have hvl:r.vs.length≤100000000:=hvs r (by simp);rw [wrap_i64 _ (by omega)];have el:((r.vs.length:Nat):Int) - 1=((r.vs.length - 1:Nat):Int):=by omega
    rw [el];obtain ⟨qq,off,cc,hix,hl4,hcc,hcr⟩:=RL.ix (VsO.rl (I:=I) (L:=Y) hv (fun _ h=>h)) (i:=((r.vs.length - 1:Nat):Int)) (by omega) (by omega);obtain rfl:cc=EI _:=hcc;rw [hlx] at hcr;obtain ⟨w1,w2,w3⟩:=MY (hcr I Y (Ext.refl _) (fun _ h=>h));simp only [hix,SSd,Nat.reduceAdd];refine ABD (vs:=[.int .i64 v.fAt.fWall,.int .i64 v.fAt.fLogic]) rfl (fun I' L' hS=>w1.mono hS.1 (fun x hx=>hS.2 _ (by simp [hx]))) ?_;refine call (BE (x:=a) (y:=v.fAt) ?_);try simp only [SSd,Nat.reduceAdd]
    refine AD (fun e3=>?_) (fun e3=>?_)
    ·have e3':FH a r.vs.getLast? =true:=by rw [hl];simpa [FH] using e3
     rw [if_pos ⟨rfl,.inr e3'⟩] at hA;exact back2 _ _ (same 1 hA)
    ·have hA':DU ⟨A++r::B,fl⟩ k txn true a=(true,0):=by
      rw [hA,hl,if_neg];rintro ⟨_,h|h⟩
      ·rw [h] at e2;cases e2
      ·simp only [FH] at h;rw [h] at e3;cases e3
     have htail:=tail hA';simp only [SSd,Nat.reduceAdd] at htail;exact htail
end
end Go.Proofs.YtmmfcgbfbcamcaaGreatDoor
