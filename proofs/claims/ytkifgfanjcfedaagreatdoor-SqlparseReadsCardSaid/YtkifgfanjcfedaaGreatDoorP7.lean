/- lemmas -/
import Derived.Test.YtkifgfanjcfedaaGreatDoorP6
import Derived.Laws.RangeString
import Derived.Test.YtkifgfanjcfedaaGreatDoorP2
import Derived.Lib.Bytealg
import Derived.Test.YtkifgfanjcfedaaGreatDoorProg
import Derived.Shelf.Strconv.Itoa4
import Derived.Shelf.Lays
import Derived.Test.YtkifgfanjcfedaaGreatDoorP4
set_option maxRecDepth 100000
set_option maxHeartbeats 40000000
set_option linter.unusedVariables false
set_option linter.unusedSimpArgs false
set_option linter.unusedSectionVars false
namespace Go.Proofs.YtkifgfanjcfedaaGreatDoor
open Go.SL
def byR (l:Bs)(c:Nat):List Value:=Lib.byteCells l++List.replicate (c - l.length) (.int .u8 0)
theorem ACi {l:Bs}{c i:Nat}{u:UInt8}(h:l[i]? =some u):(byR l c)[i]? =some (.int .u8 u.toNat):=by
 have hi:=(zY.1 h).1;rw [byR,List.getElem?_append_left (by simpa [Lib.byteCells] using hi)];simp [Lib.byteCells,h]
theorem ALG {l:Bs}{c i:Nat}{u:UInt8}(hi:i < l.length):(byR l c).set i (.int .u8 u.toNat)=byR (l.set i u) c:=by
 rw [byR,byR,List.set_append_left _ _ (by simpa [Lib.byteCells] using hi),List.length_set];simp [Lib.byteCells,List.map_set]
theorem ALH {l:Bs}{c:Nat}(h:l.length≤c):(byR l c).length=c:=by simp [byR,Lib.byteCells];omega
theorem AKv {c:UInt8}(h1:(65:Int)≤c.toNat)(h2:(c.toNat:Int)≤90):IntKind.u8.wrap ((c.toNat:Int)+32)=((Di c).toNat:Int):=by
 have ht:=GY (p:=λc=> !(decide ((65:Int)≤c.toNat)&&decide ((c.toNat:Int)≤90))||(IntKind.u8.wrap ((c.toNat:Int)+32)==((Di c).toNat:Int))) zq c;rw [decide_eq_true h1,decide_eq_true h2] at ht;simpa using ht
theorem ACf {c:UInt8}(h:¬((65:Int)≤c.toNat∧(c.toNat:Int)≤90)):Di c=c:=by
 have ht:=GY (p:=λc=>(decide ((65:Int)≤c.toNat)&&decide ((c.toNat:Int)≤90))||(Di c==c)) zq c;simp only [zaF,zF,decide_eq_true_eq,beq_iff_eq] at ht;exact ht.resolve_left h
theorem Wl {l:Bs}{i:Nat}{d:UInt8}(h:l[i]? =some d):l.set i d=l:=by
 obtain ⟨hi,rfl⟩:=zY.1 h;exact List.set_getElem_self hi
section
variable {ω:Om}{I:Imm}{L:LH}{K:Value→M}
theorem Xk (s:Bs)(hs:s.length≤900000000)(hk:K (.string ⟨(s.map Di).toArray⟩) I L):CT ω 79 #[.string ⟨s.toArray⟩] K I L:=by
 refine ATo ?_;unfold ARp;refine ⟨⟨s.toArray⟩,rfl,λb c hc=>zAA ?_⟩;have hc:s.length≤c:=hc;have e0:(s.toArray.map (λb=>Value.int .u8 b.toNat)++Array.replicate (c - (⟨s.toArray⟩:ByteArray).size) (.int .u8 0))=(byR s c).toArray:=by
  apply Array.ext'
  simp [byR,Lib.byteCells,ByteArray.size]
 show Ac _ _ I ((b,.cells (s.toArray.map (λb=>Value.int .u8 b.toNat)++Array.replicate (c - (⟨s.toArray⟩:ByteArray).size) (.int .u8 0)) _ (c,c+1))::L);rw [e0];have e1:(⟨s.toArray⟩:ByteArray).size=s.length:=rfl;simp only [e1];refine loop (λm st I2 Lx=>∃(i:Nat) (l:Bs),i+m=s.length∧l.length=s.length∧I2=I∧st=(.int .i64 i,())∧Lx=(b,Obj.cells (byR l c).toArray 5 (c,c+1))::L∧l=(s.take i).map Di++s.drop i) s.length
  ⟨0,s,by omega,rfl,rfl,rfl,rfl,by simp⟩ ?_
 rintro m st I2 Lx ⟨i,l,him,hl,rfl,rfl,rfl,he⟩;unfold AFe;try refine zqe ?_
 refine AB (λhb=>?_) (λhb=>?_);rotate_left
 ·have hb:¬i < s.length:=by
   have:¬((i:Int) < s.length):=by simpa using hb
   omega
  have hl2:l=s.map Di:=by
   rw [he,zg zo,zaa zo,zao]
  unfold AFc;refine ⟨_,.inr ⟨b,0,s.length,c,l,rfl,hl,λj u hu=>?_,rfl⟩,?_⟩
  ·have hj:j < l.length:=by have:=(zY.1 hu).1;simpa using this
   refine Cell.own (zK ..) ?_;rw [zaA,zam,ACi (u:=l[j]) (zan hj)];simpa [zan hj] using hu
  ·rw [hl2];exact zAE L (zAA hk)
 have hb:i < s.length:=by
  have:((i:Int) < s.length):=by simpa using hb
  omega
 obtain ⟨d,hd,hdd⟩:=Ff hb;have hli:l[i]? =some d:=by
  rw [he,List.getElem?_append_right zu];simp [zbk (zaN hb),hdd]
 have hix:ixV 1 (.slice (some ⟨b,0,none⟩) s.length c) (.int .i64 i)=some (.pointer (some ⟨b,i,none⟩)):=by
  have:=AOL (b:=b) (off:=0) (n:=1) .i64 s.length c i hb;simpa using this
 have hrd:Cell I2 ((b,Obj.cells (byR l c).toArray 5 (c,c+1))::L) b i (.int .u8 d.toNat):=Cell.own (zK ..) (by rw [zam];exact ACi hli);have next:∀l2:Bs,l2=l.set i (Di d)→Qb ω (.int .i64 i) (λs1=>Gh (λI3 L3=>∃m',m' < m∧∃(i:Nat) (l:Bs),i+m'=s.length∧l.length=s.length∧I3=I2∧s1=(.int .i64 i,())∧L3=(b,Obj.cells (byR l c).toArray 5 (c,c+1))::L∧l=(s.take i).map Di++s.drop i)) (λv=>Gh (K v)) I2 ((b,Obj.cells (byR l2 c).toArray 5 (c,c+1))::L):=by
  intro l2 h2;unfold Qb;simp only [wrap_i64 ((i:Int)+1) zo,SSd,Nat.reduceAdd];refine zAA ⟨m - 1,by omega,i+1,l2,by omega,by rw [h2,List.length_set];exact hl,rfl,rfl,rfl,?_⟩;rw [h2,he,List.set_append_right _ _ zu,List.take_add_one,hd];have:i - ((s.take i).map Di).length=0:=by simp;omega
  rw [this,hdd];simp
 simp only [hix,SSd,Nat.reduceAdd];refine ⟨_,⟨b,i,rfl,hrd⟩,?_⟩;try refine zqe ?_
 refine BD (λg1=>?_) (λg1=>?_)
 ·refine ⟨_,⟨b,i,rfl,hrd⟩,?_⟩;try refine zqe ?_
  refine AB (λg2=>?_) (λg2=>?_)
  ·have w:=AKv (of_decide_eq_true g1) (of_decide_eq_true g2);unfold AFd;simp only [hix,SSd,Nat.reduceAdd];refine ⟨_,⟨b,i,rfl,hrd⟩,?_⟩;simp only [w,SSd,Nat.reduceAdd];have hsz:i+1≤c:=by omega
   refine ⟨b,i,(byR l c).toArray,5,(c,c+1),[],L,rfl,rfl,(by intro u hu;simp [Value.cells] at hu;rw [hu];rfl),by rw [List.size_toArray,ALH zo];exact hsz,.inr hsz,rfl,zAA ?_⟩;have e:wr (byR l c).toArray i (Value.int .u8 ((Di d).toNat:Int)).cells.toList=(byR (l.set i (Di d)) c).toArray:=AEq _ _ _ _ (ALG zo);rw [e];exact next _ rfl
  ·refine next l ?_;rw [ACf (by intro h;exact of_decide_eq_false g2 h.2),Wl hli]
 ·refine next l ?_;rw [ACf (by intro h;exact g1 (decide_eq_true h.1)),Wl hli]
end
def AUz (v:Value):Prop:=v= .slice none 0 0∨∃a m k,v= .slice (some a) m (k+1)
theorem SlO.buf {T n len:Nat}{X:LH}{v:Value}{cells:List Value}(h:SlO T n X v cells len)(h0:0 < len):AUz v:=by
 obtain ⟨_,h8⟩:=h;rcases h8 with ⟨_,h1,_⟩|⟨b8,k8,_,_,h8,_,hle,_⟩
 ·omega
 ·obtain ⟨k,rfl⟩:∃k,k8=k+1:=⟨k8 - 1,by omega⟩;exact .inr ⟨_,_,_,h8⟩
theorem ARJ:Tryz.prog.underlying 71=some (.slice 5):=by kernel_rfl
section
variable {ω:Om}{I:Imm}{L:LH}{K:Value→M}{C:Obj→LH}{b:Nat}{p v:Value}
theorem Tq [hF:Foc b L (BuB p (.slice none 0 0)) C](hp:BuP b p){n:Nat}(hn:0 < n)(hn2:n≤100000000000)
  (hk:∀X' v',SlO 5 1 X' v' [] 0→AUz v'→K (.tuple #[]) I (X'++C (BuB (AL b) v'))):CT ω 192 #[AL b,.int .i64 (n:Nat)] K I L:=by
 obtain ⟨L1,L2,rfl,rfl⟩:=hF.foc;refine APj ?_;unfold ALw;refine call (FU hp ?_);have h1:decide ((n:Int) < 0)=false:=by simp
 simp only [h1,SSd,Nat.reduceAdd];unfold ABG;have h2:decide ((0:Int) < (n:Int))=true:=by simpa using hn
 repeat' (first|refine zqa ?_|refine zqh (λ_=>?_)|refine zqr ?_|refine zqb ?_|refine zqi ?_ ?_|refine zqc ?_|refine zqg (λ_=>?_) (λ_=>?_)|(simp only [SSd,Nat.reduceAdd,h2,wrap_i64 ((0:Int)) zo]))
 rotate_left
 ·rename_i hx
  have hx:=of_decide_eq_false hx;exact absurd (show IntKind.i64.wrap (((0:Nat):Int) - ((0:Nat):Int)) < (n:Int) from by rw [show IntKind.i64.wrap (((0:Nat):Int) - ((0:Nat):Int))=0 from rfl];omega) hx
 refine call ?_;refine APO ?_;unfold ALg;refine BM ?_;try refine zqe ?_
 refine CB ?_;have e1:IntKind.i64.wrap (2 * ((0:Nat):Int))=0:=rfl;have e2:IntKind.i64.wrap (0+(n:Int))=n:=by rw [Int.zero_add];exact wrap_i64 (n:Int) zo
 simp only [e1,e2,SSd,Nat.reduceAdd];refine AVG ARJ zo (λb' cs hcs=>zAA ?_);refine CV (zAC _) ?_;try refine zqe ?_
 refine CB ?_;have e3:Gw 1 (.slice (some ⟨b',0,none⟩) n cs.size) none (some (.int .i64 ((0:Nat):Int))) none=some (.slice (some ⟨b',0,none⟩) 0 cs.size):=by
  simp [Gw,EF,Addr.add]
 simp only [e3,SSd,Nat.reduceAdd];refine rdb ?_;refine ⟨_,0,cs.size,0,[],rfl,.inl ⟨_,_,rfl,rfl,rfl⟩,.inl ⟨rfl,?_⟩⟩;refine zAA ?_;try refine zqe ?_
 refine st1 rfl ?_;refine zAA (zAA (hk [(b',.cells cs 5 (0,0))] _ ⟨rfl,.inr ⟨b',cs.size,cs,rfl,rfl,by simp,by omega,λj u hu=>by simp at hu⟩⟩ ?_));obtain ⟨k,hk0⟩:∃k,cs.size=k+1:=⟨cs.size - 1,by omega⟩;rw [hk0];exact .inr ⟨_,_,_,rfl⟩
theorem ET {X F:LH}{l:Bs}[hs:SplitL X L F][hF:Foc b F (BuB p v) C](hp:BuP b p)(hX:SlO 5 1 X v (Lib.byteCells l) l.length)(hn:l.length≤1000000000)(t:Bs)(ht:t.length≤1000000000)
  (hk:∀X' v',SlO 5 1 X' v' (Lib.byteCells (l++t)) (l++t).length→K (.tuple #[.int .i64 t.length,.nilIface]) I (X'++C (BuB (AL b) v'))):CT ω 172 #[AL b,.string ⟨t.toArray⟩] K I L:=by
 obtain ⟨L1,L2,rfl,rfl⟩:=hF.foc;refine zAN X ?_;refine AIn ?_;unfold AGV;refine call (FU hp ?_);try refine zqe ?_
 refine rdb ?_;refine Dx (X:=X) (n:=1) (m:=t.length) rfl hX (news:=Lib.byteCells t) (.inr (.inr ⟨⟨t.toArray⟩,rfl,rfl,rfl,rfl⟩)) (λu hu=>?_) zo zo (λX2 v2 hX2=>?_)
 ·obtain ⟨c,_,rfl⟩:=zaz.1 hu;rfl
 have hX2:SlO 5 1 X2 v2 (Lib.byteCells (l++t)) (l++t).length:=by rw [Lib.byteCells_append];simpa using hX2
 obtain ⟨a2,k2,rfl⟩:=hX2.form;repeat' (first|refine zqa ?_|refine zqh (λ_=>?_)|refine zqr ?_|refine zqb ?_|refine zqi ?_ ?_|refine zqc ?_|refine zqg (λ_=>?_) (λ_=>?_)|refine zqe ?_|fail)
 exact zAE (X2++(L1++(b,BuB (AL b) (.slice a2 (l++t).length k2))::L2)) (zAA (hk X2 _ hX2))
theorem QL {X F:LH}{l:Bs}[hs:SplitL X L F][hF:Foc b F (BuB p v) C](hp:BuP b p)(hX:SlO 5 1 X v (Lib.byteCells l) l.length)(hn:l.length≤1000000000)(c:UInt8)(hc:c.toNat < 128)
  (hk:∀X' v' x,SlO 5 1 X' v' (Lib.byteCells (l++[c])) (l++[c]).length→K (.tuple #[x,.nilIface]) I (X'++C (BuB (AL b) v'))):CT ω 193 #[AL b,.int .i32 c.toNat] K I L:=by
 obtain ⟨L1,L2,rfl,rfl⟩:=hF.foc;refine zAN X ?_;refine APi ?_;unfold ALv;refine call (FU hp ?_);obtain ⟨a1,k1,rfl⟩:=hX.form;try refine zqe ?_
 refine rdb ?_;try refine zqe ?_
 refine rdb ?_;refine call ?_;refine APN ?_;unfold ALf;have e1:IntKind.u32.wrap (c.toNat:Int)=c.toNat:=IntWalk.u32_in _ zo;have e2:IntKind.u8.wrap (c.toNat:Int)=c.toNat:=IntWalk.u8_in _ zo;have e3:decide ((c.toNat:Int)≤127)=true:=by simp;omega
 simp only [e1,e2,e3,SSd,Nat.reduceAdd];refine Dw rfl zo rfl (λX1 u hX1=>?_);refine Dx (X:=X) rfl hX (hX1.news (λx hx=>zaq _ hx)) (by simp [Value.cells,Value.oneCell']) zo zo (λX2 v2 hX2=>?_);have hX2:SlO 5 1 X2 v2 (Lib.byteCells (l++[c])) (l++[c]).length:=by rw [byteCells_snoc];simpa [Value.cells] using hX2
 obtain ⟨a2,k2,rfl⟩:=hX2.form;refine zAA ?_;repeat' (first|refine zqa ?_|refine zqh (λ_=>?_)|refine zqr ?_|refine zqb ?_|refine zqi ?_ ?_|refine zqc ?_|refine zqg (λ_=>?_) (λ_=>?_)|refine zqe ?_|fail)
 exact zAE (X2++(L1++(b,BuB (AL b) (.slice a2 (l++[c]).length k2))::L2)) (zAA (hk X2 _ _ hX2))
end
theorem Ve {I:Imm}{K:Value→M}{s:Bs}{i b:Nat}{L1 L2:LH}(hasc:∀c∈s,c.toNat < 128)
  (hmore:∀c,s[i]? =some c→c.toNat < 128→K (.tuple #[.bool true,.int .i64 (i:Nat),.int .i32 c.toNat]) I (L1++(b,.stringIter ⟨s.toArray⟩ (i+1))::L2))
  (hend:s.length≤i→K (.tuple #[.bool false]) I (L1++(b,.stringIter ⟨s.toArray⟩ i)::L2)):AEp (AL b) K I (L1++(b,.stringIter ⟨s.toArray⟩ i)::L2):=by
 refine ⟨b,⟨s.toArray⟩,i,L1,L2,rfl,rfl,?_⟩;have hsz:(⟨s.toArray⟩:ByteArray).size=s.length:=rfl;rw [hsz];split
 ·rename_i hlt
  have ha:s[i].toNat < 128:=hasc _ (zH hlt);have hd:Utf8.decode (⟨s.toArray⟩:ByteArray) i=(s[i].toNat,1):=decode_ascii ⟨s.toArray⟩ i hlt ha;rw [hd];exact hmore s[i] (zan hlt) ha
 ·exact hend zo
def FnR (ω:Om)(fv:Value)(f:UInt8→UInt8):Prop:=∀(c:UInt8) (K:Value→M) (I:Imm) (L:LH),c.toNat < 128→K (.int .i32 (f c).toNat) I L→CW ω fv #[.int .i32 c.toNat] K I L
theorem AIC (c:UInt8)(h:c.toNat < 128):(Di c).toNat < 128:=by
 have:=GY (p:=λc=>decide (c.toNat < 128→(Di c).toNat < 128)) zq c;exact of_decide_eq_true this h
section
variable {ω:Om}{I:Imm}{L:LH}{K:Value→M}{C:Obj→LH}{b:Nat}{p v:Value}
theorem Td:FnR ω (.func (.func 137) #[] #[]) Di:=by
 intro c K I L hc hk;refine JR (by kernel_rfl) ?_;refine AQb ?_;unfold AMf;have ht:=GY (p:=λc=>decide (c.toNat < 128→((Di c).toNat:Int)=if (65:Int)≤c.toNat∧(c.toNat:Int)≤90 then IntKind.i32.wrap (IntKind.i32.wrap ((c.toNat:Int)+97) - 65) else (c.toNat:Int))) zq c;have ht:=of_decide_eq_true ht hc;rw [ht] at hk;try refine zqe ?_
 refine BD (λh1=>?_) (λh1=>?_)
 ·refine AB (λh2=>?_) (λh2=>?_)
  ·unfold ABi;rw [if_pos ⟨by simpa using h1,by simpa using h2⟩] at hk;try refine zqe ?_
   exact zAA hk
  ·rw [if_neg (λh=>by simp [h.2] at h2)] at hk;exact zAA hk
 ·rw [if_neg (λh=>by simp [h.1] at h1)] at hk;exact zAA hk
theorem VT {c:Nat}(hc:c < 128)(hk:K (.int .i64 1) I L):CT ω 191 #[.int .i32 (c:Nat)] K I L:=by
 refine APk ?_;unfold ALx;have h1:decide ((c:Int) < 0)=false:=by simp
 have h2:decide ((c:Int)≤127)=true:=by simp;omega
 simp only [h1,h2,SSd,Nat.reduceAdd];exact zAA hk
theorem Xt {a:Option Addr}{m k:Nat}[hF:Foc b L (BuB p (.slice a m k)) C](hk:K (.int .i64 (k:Nat)) I L):CT ω 194 #[AL b] K I L:=by
 obtain ⟨L1,L2,rfl,rfl⟩:=hF.foc;refine APh ?_;unfold ALu;repeat' (first|refine zqa ?_|refine zqh (λ_=>?_)|refine zqr ?_|refine zqb ?_|refine zqi ?_ ?_|refine zqc ?_|refine zqg (λ_=>?_) (λ_=>?_)|refine zqe ?_|fail)
 exact zAA hk
theorem map_rest {X:LH}{acc r:Bs}{bs:Nat}{it:Obj}{z:Value}(hlen:acc.length+r.length≤900000000)(h0:0 < acc.length)(hasc:∀c∈r,c.toNat < 128)(hp:BuP b p)(hX:SlO 5 1 X v (Lib.byteCells acc) acc.length)(hk:K (.string ⟨(acc++r.map Di).toArray⟩) I L):
  MQ ω (.func (.func 137) #[] #[]) (.string ⟨r.toArray⟩) z (AL b) (λv=>Gh (K v)) I (X++((bs,it)::(b,BuB p v)::L)):=by
 have hF:=Td (ω:=ω);unfold MQ;obtain ⟨a,m,k,rfl⟩:∃a m k,v= .slice (some a) m (k+1):=by
  rcases SlO.buf hX h0 with rfl|h
  ·obtain ⟨_,h8⟩:=hX;rcases h8 with ⟨_,h1,_⟩|⟨b8,k8,_,_,h8,_⟩
   ·omega
   ·cases h8
  ·exact h
 refine call (Xt ?_);have e0:(((k+1:Nat):Int)==0)=false:=by simp;omega
 simp only [e0,SSd,Nat.reduceAdd];refine ⟨⟨r.toArray⟩,rfl,λb2=>?_⟩;refine zAE (X++((b2,.stringIter ⟨r.toArray⟩ 0)::(bs,it)::(b,BuB p (.slice (some a) m (k+1)))::L)) (zAA ?_);refine loop (λm st I2 Lx=>∃(j:Nat) (X:LH) (p v:Value),j+m=r.length∧I2=I∧Lx=X++((b2,.stringIter ⟨r.toArray⟩ j)::(bs,it)::(b,BuB p v)::L)∧BuP b p∧SlO 5 1 X v (Lib.byteCells (acc++(r.take j).map Di)) (acc++(r.take j).map Di).length) r.length ⟨0,X,p,_,by omega,rfl,rfl,hp,by simpa using hX⟩ ?_;clear hX hp;rintro m2 st I2 Lx ⟨j,X,p,v,h1,rfl,rfl,hp,hX⟩;have hjl:(acc++(r.take j).map Di).length≤900000000:=by simp;omega
 unfold ABj;refine Ve hasc (λc hc hca=>zAA ?_) (λhe=>zAA ?_)
 ·obtain ⟨hlt,hce⟩:=zY.1 hc;try refine zqe ?_
  refine Gj (hF c _ _ _ hca ?_);have hll:=AIC c hca;have e1:decide ((0:Int)≤((Di c).toNat:Int))=true:=by simp
  have e2:decide (((Di c).toNat:Int) < 128)=true:=by simp;omega
  have e3:IntKind.u8.wrap ((Di c).toNat:Int)=(Di c).toNat:=IntWalk.u8_in _ zo;simp only [e1,e2,e3,SSd,Nat.reduceAdd];refine call (Gu hp hX zo (Di c) (λX' v' hX'=>?_));refine zAA ⟨m2 - 1,by omega,j+1,X',AL b,v',by omega,rfl,rfl,.inr rfl,?_⟩;have et:r.take (j+1)=r.take j++[c]:=by rw [List.take_add_one,hc];rfl
  rw [et,zab,←zi];rw [show (List.map Di [c])=[Di c] from rfl,byteCells_snoc];simpa [zbe] using hX'
 ·try refine zqe ?_
  unfold We;refine call (JS (p:=p) (v:=v) (X:=X) hX zo (λh=>by simp at h;exact absurd h.1 (List.length_pos_iff.1 h0)) (λX'=>?_));have et:r.take j=r:=zg zo;rw [et];exact zAE L (zAA hk)
theorem AIB (s:Bs)(hs:s.length≤900000000)(hasc:∀c∈s,c.toNat < 128)(hk:K (.string ⟨(s.map Di).toArray⟩) I L):CT ω 136 #[.func (.func 137) #[] #[],.string ⟨s.toArray⟩] K I L:=by
 have hF:=Td (ω:=ω);refine AQc ?_;unfold AMg;refine AQ (λbb=>?_);refine ⟨⟨s.toArray⟩,rfl,λbs=>zAA ?_⟩;refine loop (λm st I2 Lx=>∃i,i+m=s.length∧I2=I∧st=(.string ⟨s.toArray⟩,())∧Lx=(bs,.stringIter ⟨s.toArray⟩ i)::(bb,BuB (.pointer none) (.slice none 0 0))::L∧(s.take i).map Di=s.take i) s.length ⟨0,by omega,rfl,rfl,rfl,rfl⟩ ?_;rintro m st I2 Lx ⟨i,h1,rfl,rfl,rfl,hfix⟩;unfold ABl;refine Ve (L1:=[]) hasc (λc hc hca=>zAA ?_) (λhe=>zAA ?_)
 ·obtain ⟨hlt,hce⟩:=zY.1 hc;try refine zqe ?_
  refine Gj (hF c _ _ _ hca ?_);have hll:=AIC c hca;have e0:((c.toNat:Int) != 65533)=true:=by simp;omega
  have e0':((c.toNat:Int)==65533)=false:=by simp;omega
  simp only [JV,e0,e0',SSd,Nat.reduceAdd];refine BD (λhe=>?_) (λhe=>?_)
  ·have he:Di c=c:=by simpa using he
   refine zAA ⟨m - 1,by omega,i+1,by omega,rfl,trivial,rfl,?_⟩;rw [List.take_add_one,hc];simp [hfix,he]
  ·unfold Qc;refine call (VT hca ?_);unfold Ph;have e4:IntKind.i64.wrap ((s.length:Int)+4)=((s.length+4:Nat):Int):=wrap_i64 _ zo;simp only [e4,SSd,Nat.reduceAdd];refine call (Tq (.inl rfl) zo zo (λX1 v1 hX1 hb1=>?_));simp only [ARX s (zaN hlt),SSd,Nat.reduceAdd];refine call (ET (X:=X1) (l:=[]) (.inr rfl) hX1 zy (s.take i) zu (λX2 v2 hX2=>?_));have e5:decide ((0:Int)≤((Di c).toNat:Int))=true:=by simp
   simp only [e5,SSd,Nat.reduceAdd];refine call (QL (X:=X2) (l:=[]++s.take i) (.inr rfl) hX2 zu (Di c) hll (λX3 v3 x hX3=>?_));unfold VF;have e6:IntKind.i64.wrap ((i:Int)+1)=((i+1:Nat):Int):=wrap_i64 _ zo;simp only [e6,SSd,Nat.reduceAdd];simp only [Ya s (show i+1≤s.length by omega),SSd,Nat.reduceAdd];refine map_rest (X:=X3) (acc:=[]++s.take i++[Di c]) (r:=s.drop (i+1)) zu zy (λd hd=>hasc d (List.mem_of_mem_drop hd)) (.inr rfl) hX3 ?_;have e7:s.map Di=[]++s.take i++[Di c]++(s.drop (i+1)).map Di:=by
    conv=>lhs;rw [←zad i s]
    rw [zab,hfix,zaj hlt,hce];simp
   rw [←e7];exact hk
 ·try refine zqe ?_
  unfold MQ;have hi:i=s.length:=by omega
  subst hi;refine call (Xt ?_);try refine zqe ?_
  rw [List.take_length] at hfix;rw [hfix] at hk;exact zAE L (zAA hk)
end
section
variable {ω:Om}{I:Imm}{L:LH}{K:Value→M}{C:Obj→LH}{b:Nat}{w:Value}{s:Bs}{a:Nat}
theorem LD {v:Value}{ws:List Bs}(hw:StL I v ws)(hws:ws.length≤1000)(t:Bs)(hk:K (.bool (ws.contains t)) I L):CT ω 141 #[v,.string ⟨t.toArray⟩] K I L:=by
 refine AQX ?_;unfold AMc;refine call ?_;refine APf ?_;unfold ALs;simp only [zAK hw,SSd,Nat.reduceAdd];refine loop (λm st I2 Lx=>∃i:Nat,i+m=ws.length∧I2=I∧st=(.int .i64 0,.int .i64 i,())∧Lx=L∧∀j (hj:j < ws.length),j < i→(ws[j]==t)=false) ws.length ⟨0,by omega,rfl,rfl,rfl,λj _ h=>by omega⟩ ?_;rintro m st I2 Lx ⟨i,h1,rfl,rfl,rfl,hall⟩;unfold ABF;try refine zqe ?_
 refine AB (λhb=>?_) (λhb=>?_)
 ·have hb:i < ws.length:=by
   have:((i:Int) < ws.length):=by simpa using hb
   omega
  obtain ⟨bw,off,cw,hi1,_,hi2,hi3⟩:=zAR hw (i:=i) zo zo;rw [Am hb] at hi2;obtain rfl:=hi2;simp only [hi1,SSd,Nat.reduceAdd];refine rd1 ((hi3 _ [] (zAC _) (λ_ h=>h) 0 _ rfl).mono (zAC _) (λ_ h=>by cases h)) ?_;try refine zqe ?_
  refine AB (λhe=>?_) (λhe=>?_)
  ·have he:t=ws[i]:=by simpa using he
   have hc:ws.contains t=true:=by
    rw [zbl,he];exact zH hb
   rw [hc] at hk;refine zAA ?_;have e1:decide ((0:Int)≤(i:Int))=true:=by simp
   simp only [e1,SSd,Nat.reduceAdd];exact zAA hk
  ·have he:t≠ws[i]:=by simpa using he
   simp only [wrap_i64 ((i:Int)+1) zo,SSd,Nat.reduceAdd];refine zAA ⟨m - 1,by omega,i+1,by omega,rfl,rfl,rfl,λj hj hji=>?_⟩;rcases zbi (Nat.le_of_lt_succ hji) with hlt|rfl
   ·exact hall j hj hlt
   ·simpa using λe=>he e.symm
 ·have hb:¬i < ws.length:=by
   have:¬((i:Int) < ws.length):=by simpa using hb
   omega
  have hc:ws.contains t=false:=by
   cases hc:ws.contains t with
   |false=>rfl
   |true=>
    rw [zbl] at hc;obtain ⟨j,hj,e⟩:=List.mem_iff_getElem.1 hc;have:=hall j hj zo;simp [e] at this
  rw [hc] at hk;refine zAA ?_;repeat' (first|refine zqa ?_|refine zqh (λ_=>?_)|refine zqr ?_|refine zqb ?_|refine zqi ?_ ?_|refine zqc ?_|refine zqg (λ_=>?_) (λ_=>?_)|refine zqe ?_|fail)
  exact zAA hk
theorem ACW (c:UInt8)(h:(Bq c||BI c)=true):c.toNat < 128:=by
 have:=GY (p:=λc=>decide ((Bq c||BI c)=true→c.toNat < 128)) zq c;exact of_decide_eq_true this h
theorem AKw (c:UInt8)(h:BI c=true):c.toNat < 128:=ACW c (by simp [h])
theorem Eh {p:UInt8→Bool}:∀{l:Bs} {c:UInt8},c∈l.takeWhile p→p c=true
 |x::l,c,h=>by
  by_cases hx:p x=true
  ·rw [zbn hx] at h;rcases zZ.1 h with rfl|h
   ·exact hx
   ·exact Eh h
  ·rw [List.takeWhile_cons_of_neg hx] at h;cases h
def AUu (s:Bs)(a:Nat)(K:Value→M)(C:Obj→LH)(w:Value)(I:Imm):Prop:=
 (∀t r,EE a (s.drop a)= .tok t r→∀I' a',Ext I I'→a < a'→a'≤s.length→s.drop a'=r→K (.tuple #[AFA t.kind t.at' t.text t.num,.int .i64 0]) I' (C (LBo s a' w)))∧
 (∀e,EE a (s.drop a)= .bad e→e≠0∧∀I' a' k x n,Ext I I'→K (.tuple #[AFA k a x n,.int .i64 e]) I' (C (LBo s a' w)))
theorem MF {p:UInt8→Bool}{s:Bs}{a a':Nat}{c:UInt8}(hd:s.drop a=c::s.drop (a+1))(hp:p c=true)(h1:a≤a')(hdr:s.drop a'=(s.drop a).dropWhile p):a < a':=by
 rcases zbi h1 with h|rfl
 ·exact h
 ·rw [hd,List.dropWhile_cons_of_pos hp] at hdr;have h2:=congrArg List.length hdr;have h3:((s.drop (a+1)).dropWhile p).length≤(s.drop (a+1)).length:=(List.dropWhile_suffix p).length_le;simp only [zh] at h2;omega
theorem ADq [hF:Foc b L (LBo s a w) C](ha:a < s.length)(hs:s.length≤900000000)(hw:StL I w wordsL)(hk:AUu s a K C w I):CT ω 92 #[AL b] K I L:=by
 obtain ⟨L1,L2,rfl,rfl⟩:=hF.foc;obtain ⟨aw,kw,rfl⟩:=zAF hw;obtain ⟨hok,hbad⟩:=hk;obtain ⟨c,hc,hd⟩:=Ff ha;refine ATb ?_;unfold ARg;refine AQ (λb1=>?_);try refine zqe ?_
 refine rdb ?_;repeat' (first|refine zqa ?_|refine zqh (λ_=>?_)|refine zqr ?_|refine zqb ?_|refine zqi ?_ ?_|refine zqc ?_|refine zqg (λ_=>?_) (λ_=>?_)|refine zqe ?_|fail)
 rename_i bt
 simp only [ixS s hc,SSd,Nat.reduceAdd];refine call (Ez c ?_);refine AB (λhl=>?_) (λhl=>?_)
 ·have hp:(Bq c||BI c)=true:=by rw [show Bq c=true from hl];rfl
  refine call (QP (s:=s) (a:=a) (w:=.slice aw wordsL.length kw) AEr (zaN ha) hs (λa' h1 h2 hdr=>?_));have hlt:=MF hd hp h1 hdr;have htl:((s.drop a).takeWhile λc=>Bq c||BI c).length≤900000000:=Nat.le_trans (List.takeWhile_prefix _).length_le zu;refine call (AIB _ htl (λd hd=>ACW d (Eh (p:=λc=>Bq c||BI c) hd)) ?_);have hone:EE a (s.drop a)=JU (((s.drop a).takeWhile λc=>Bq c||BI c).map Di) a ((s.drop a).dropWhile λc=>Bq c||BI c):=by
   rw [hd];simp only [EE];rw [if_pos (show Bq c=true from hl)]
  generalize htx:(((s.drop a).takeWhile λc=>Bq c||BI c).map Di)=tx at hone ⊢;repeat' (first|refine zqa ?_|refine zqh (λ_=>?_)|refine zqr ?_|refine zqb ?_|refine zqi ?_ ?_|refine zqc ?_|refine zqg (λ_=>?_) (λ_=>?_)|refine zqe ?_|fail)
  refine call (LD hw zx tx ?_);refine AB (λhcn=>?_) (λhcn=>?_);all_goals repeat' (first|refine zqa ?_|refine zqh (λ_=>?_)|refine zqr ?_|refine zqb ?_|(with_reducible first|refine Ap (sh92_1.eq_1 ..) ?_|refine Ap (sh92_3.eq_1 ..) ?_|refine And.intro ?_ ?_)|refine zqc ?_|refine zqg (λ_=>?_) (λ_=>?_)|refine zqe ?_|fail)
  all_goals (rename_i h63;simp only [decide_eq_true_eq,decide_eq_false_iff_not] at h63)
  all_goals first
   |exact zAE (L1++(b,LBo s a' (.slice aw wordsL.length kw))::L2) (zAA ((hbad 173 (by rw [hone];unfold JU;rw [if_pos zo])).2 I a' _ _ _ (zAC _)))
   |exact zAE (L1++(b,LBo s a' (.slice aw wordsL.length kw))::L2) (zAA (hok ⟨2,a,tx,0⟩ _ (by rw [hone];unfold JU;rw [if_neg zo,hcn];rfl) I a' (zAC _) hlt h2 hdr))
   |exact zAE (L1++(b,LBo s a' (.slice aw wordsL.length kw))::L2) (zAA (hok ⟨1,a,tx,0⟩ _ (by rw [hone];unfold JU;rw [if_neg zo,hcn];rfl) I a' (zAC _) hlt h2 hdr))
 have hl:Bq c=false:=by simpa using hl
 refine call (Et c ?_);refine AB (λhg=>?_) (λhg=>?_)
 ·repeat' (first|refine zqa ?_|refine zqh (λ_=>?_)|refine zqr ?_|refine zqb ?_|refine zqi ?_ ?_|refine zqc ?_|refine zqg (λ_=>?_) (λ_=>?_)|refine zqe ?_|fail)
  refine call (QP (s:=s) (a:=a) (w:=.slice aw wordsL.length kw) AEQ (zaN ha) hs (λa' h1 h2 hdr=>?_));have hlt:=MF hd hg h1 hdr;have htl:((s.drop a).takeWhile BI).length≤900000000:=Nat.le_trans (List.takeWhile_prefix _).length_le zu;have hasc:∀d∈(s.drop a).takeWhile BI,d.toNat < 128:=λd hd=>AKw d (Eh hd);have hdig:∀d∈(s.drop a).takeWhile BI,BI d=true:=λd hd=>Eh hd;have hone:EE a (s.drop a)=match Ic ((s.drop a).takeWhile BI) 0 with
   |none=>.bad 172
   |some k=>if ((s.drop a).dropWhile BI).head?.any Bq then .bad 172 else .tok ⟨3,a,[],k⟩ ((s.drop a).dropWhile BI):=by
   rw [hd];simp only [EE];rw [if_neg (by rw [hl];decide),if_pos hg];cases Ic (List.takeWhile BI (c::List.drop (a+1) s)) 0 <;> rfl
  generalize (s.drop a).takeWhile BI=ds at hone hasc hdig htl ⊢;refine ⟨⟨ds.toArray⟩,rfl,λb2=>zAA ?_⟩;refine loop (λm st I2 Lx=>∃(j:Nat) (n:Int),j+m=ds.length∧I2=I∧st=(.int .i64 0,())∧Lx=(b2,.stringIter ⟨ds.toArray⟩ j)::(bt,.cells [.int .i64 3,.int .i64 (a:Nat),.string ⟨#[]⟩,.int .i64 n].toArray 93 (0,0))::(b1,.cells [.int .i64 0,.int .i64 0,.string ⟨#[]⟩,.int .i64 0].toArray 93 (0,0))::(L1++(b,LBo s a' (.slice aw wordsL.length kw))::L2)∧0≤n∧n≤9223372036854775807∧Ic ds 0=Ic (ds.drop j) n) ds.length ⟨0,0,by omega,rfl,rfl,rfl,by omega,by omega,rfl⟩ ?_;rintro m st I2 Lx ⟨j,n,hj,rfl,rfl,rfl,hn0,hn1,hm⟩;unfold AFU;refine Ve (L1:=[]) hasc (λd hdj hda=>zAA ?_) (λhe=>zAA ?_)
  ·obtain ⟨hjl,hje⟩:=zY.1 hdj;have hdg:=hdig d (hje ▸ zH hjl);simp only [BI,zF,decide_eq_true_eq] at hdg;have g1:(48:Nat)≤d.toNat:=hdg.1;have g2:d.toNat≤57:=hdg.2;have hdd:ds.drop j=d::ds.drop (j+1):=by rw [zaj hjl,hje]
   rw [hdd] at hm;simp only [Ic] at hm;have e1:IntKind.i32.wrap ((d.toNat:Int) - 48)=(d.toNat:Int) - 48:=IntWalk.i32_in _ zo;have e2:IntKind.i64.wrap ((d.toNat:Int) - 48)=(d.toNat:Int) - 48:=wrap_i64 _ zo;have e3:IntKind.i64.wrap (9223372036854775807 - ((d.toNat:Int) - 48))=9223372036854775807 - ((d.toNat:Int) - 48):=wrap_i64 _ zo;have e4:AA .quo (.int .i64 (9223372036854775807 - ((d.toNat:Int) - 48))) (.int .i64 10)=some (.int .i64 ((9223372036854775807 - ((d.toNat:Int) - 48)) / 10)):=by
    rw [Xz _ _ .i64 zx,Int.tdiv_eq_ediv_of_nonneg zo,wrap_i64 _ zo]
   repeat' (first|refine zqa ?_|refine zqh (λ_=>?_)|refine zqr ?_|refine zqb ?_|refine zqi ?_ ?_|refine zqc ?_|refine zqg (λ_=>?_) (λ_=>?_)|(simp only [SSd,Nat.reduceAdd,e1,e2,e3,e4]))
   ·rename_i hgt
    have hgt:=of_decide_eq_true hgt;rw [if_pos hgt] at hm;exact zAE (L1++(b,LBo s a' (.slice aw wordsL.length kw))::L2) (zAA ((hbad 172 (by rw [hone,hm])).2 I2 a' _ _ _ (zAC _)))
   ·rename_i hgt
    have hgt:=of_decide_eq_false hgt;rw [if_neg hgt] at hm;have hle:n≤(9223372036854775807 - ((d.toNat:Int) - 48)) / 10:=by omega
    have e5:IntKind.i64.wrap (10 * n)=10 * n:=wrap_i64 _ zo;have e6:IntKind.i64.wrap (10 * n+((d.toNat:Int) - 48))=10 * n+((d.toNat:Int) - 48):=wrap_i64 _ zo;rw [e5,e6];exact zAA ⟨m - 1,by omega,j+1,10 * n+((d.toNat:Int) - 48),by omega,rfl,trivial,rfl,by omega,by omega,hm⟩
  ·try refine zqe ?_
   have hjn:ds.drop j=[]:=zaa he;rw [hjn] at hm;have hm:Ic ds 0=some n:=hm;simp only [hm] at hone;unfold AFT;refine BM ?_;try refine zqe ?_
   refine CB ?_;try refine zqe ?_
   refine CB ?_;try refine zqe ?_
   refine BD (λhb=>?_) (λhb=>?_)
   ·have hb:a' < s.length:=by
     have:=of_decide_eq_true hb;omega
    obtain ⟨c2,hc2,hd2⟩:=Ff hb;refine CB ?_;try refine zqe ?_
    refine CB ?_;simp only [ixS s hc2,SSd,Nat.reduceAdd];refine call (Ez c2 ?_);have hany:((s.drop a).dropWhile BI).head?.any Bq=Bq c2:=by rw [←hdr,hd2];rfl
    rw [hany] at hone;refine AB (λhl2=>?_) (λhl2=>?_)
    ·unfold AFS;repeat' (first|refine zqa ?_|refine zqh (λ_=>?_)|refine zqr ?_|refine zqb ?_|refine zqi ?_ ?_|refine zqc ?_|refine zqg (λ_=>?_) (λ_=>?_)|refine zqe ?_|fail)
     exact zAE (L1++(b,LBo s a' (.slice aw wordsL.length kw))::L2) (zAA ((hbad 172 (by rw [hone,if_pos hl2])).2 I2 a' _ _ _ (zAC _)))
    ·unfold UX;repeat' (first|refine zqa ?_|refine zqh (λ_=>?_)|refine zqr ?_|refine zqb ?_|refine zqi ?_ ?_|refine zqc ?_|refine zqg (λ_=>?_) (λ_=>?_)|refine zqe ?_|fail)
     exact zAE (L1++(b,LBo s a' (.slice aw wordsL.length kw))::L2) (zAA (hok ⟨3,a,[],n⟩ _ (by rw [hone,if_neg (by simpa using hl2)]) I2 a' (zAC _) hlt h2 hdr))
   ·have hb:¬a' < s.length:=by
     have hb:¬((a':Int) < s.length):=by simpa using hb
     omega
    have hany:((s.drop a).dropWhile BI).head?.any Bq=false:=by
     rw [←hdr,zaa zo];rfl
    rw [hany] at hone;unfold UX;repeat' (first|refine zqa ?_|refine zqh (λ_=>?_)|refine zqr ?_|refine zqb ?_|refine zqi ?_ ?_|refine zqc ?_|refine zqg (λ_=>?_) (λ_=>?_)|refine zqe ?_|fail)
    exact zAE (L1++(b,LBo s a' (.slice aw wordsL.length kw))::L2) (zAA (hok ⟨3,a,[],n⟩ _ (by rw [hone];rfl) I2 a' (zAC _) hlt h2 hdr))
 ·have hg:BI c=false:=by simpa using hg
  have hone:EE a (s.drop a)=if c==34||c==39 then (match DZ c (s.drop (a+1)) with
   |none=>.bad 173
   |some (x,r')=>if c==34 then (if x.isEmpty||decide (63 < x.length) then .bad 173 else .tok ⟨1,a,x,0⟩ r') else .tok ⟨4,a,x,0⟩ r') else
   match IC (s.drop a) with
   |none=>.bad 171
   |some x=>.tok ⟨5,a,if x=[33,61] then [60,62] else x,0⟩ ((s.drop a).drop x.length):=by
   rw [hd];simp only [EE];rw [if_neg (by rw [hl];decide),if_neg (by rw [hg];decide)];split
   ·cases DZ c (s.drop (a+1)) <;> rfl
   ·cases IC (c::s.drop (a+1)) <;> rfl
  have e34:((c.toNat:Int)==34)=(c==34):=JV c 34;have e39:((c.toNat:Int)==39)=(c==39):=JV c 39;simp only [e34,e39,SSd,Nat.reduceAdd];have quo:(c==34||c==39)=true→MI ω (AL b) (AL b1) (.int .i64 0) (AL bt) (.int .u8 c.toNat) (.bool true) (λv=>Gh (K v)) I ((bt,.cells [.int .i64 0,.int .i64 (a:Nat),.string ⟨#[]⟩,.int .i64 0].toArray 93 (0,0))::(b1,.cells [.int .i64 0,.int .i64 0,.string ⟨#[]⟩,.int .i64 0].toArray 93 (0,0))::(L1++(b,LBo s a (.slice aw wordsL.length kw))::L2)):=by
   intro hq;rw [if_pos hq] at hone;have hc0:c≠0:=by rintro rfl;simp at hq
   unfold MI;try refine zqe ?_
   refine call (XC (s:=s) (a:=a) (w:=.slice aw wordsL.length kw) c hc0 ha hs (λhn x=>?_) (λx r hy a' h1 h2 hdr=>?_))
   ·rw [hn] at hone;repeat' (first|refine zqa ?_|refine zqh (λ_=>?_)|refine zqr ?_|refine zqb ?_|(with_reducible first|refine Ap (sh92_11.eq_1 ..) ?_|refine Ap (sh92_3.eq_1 ..) ?_|refine And.intro ?_ ?_)|refine zqc ?_|refine zqg (λ_=>?_) (λ_=>?_)|(simp only [SSd,Nat.reduceAdd,e34]))
    all_goals exact zAE (L1++(b,LBo s a (.slice aw wordsL.length kw))::L2) (zAA ((hbad 173 hone).2 I a _ _ _ (zAC _)))
   ·rw [hy] at hone;simp only at hone
    repeat' (first|refine zqa ?_|refine zqh (λ_=>?_)|refine zqr ?_|refine zqb ?_|(with_reducible first|refine Ap (sh92_11.eq_1 ..) ?_|refine Ap (sh92_3.eq_1 ..) ?_|refine And.intro ?_ ?_)|refine zqc ?_|refine zqg (λ_=>?_) (λ_=>?_)|(simp only [SSd,Nat.reduceAdd,e34]))
    all_goals clear hw
    all_goals first
     |exact zAE (L1++(b,LBo s a' (.slice aw wordsL.length kw))::L2) (zAA ((hbad 173 (by rw [hone];first|(clear hok hbad;simp_all [zbu];done)|(clear hok hbad;simp_all [zbu] <;> omega))).2 I a' _ _ _ (zAC _)))
     |exact zAE (L1++(b,LBo s a' (.slice aw wordsL.length kw))::L2) (zAA (hok ⟨1,a,x,0⟩ _ (by rw [hone];first|(clear hok hbad;simp_all [zbu];done)|(clear hok hbad;simp_all [zbu] <;> omega)) I a' (zAC _) h1 h2 hdr))
     |exact zAE (L1++(b,LBo s a' (.slice aw wordsL.length kw))::L2) (zAA (hok ⟨4,a,x,0⟩ _ (by rw [hone];first|(clear hok hbad;simp_all [zbu];done)|(clear hok hbad;simp_all [zbu] <;> omega)) I a' (zAC _) h1 h2 hdr))
  refine AB (λh34=>?_) (λh34=>?_)
  ·rw [show (c==34)=true from h34];exact quo (by simp [show (c==34)=true from h34])
  have h34:(c==34)=false:=by simpa using h34
  cases h39:(c==39) with
  |true=>exact quo (by simp [h39])
  |false=>
   rw [h34,h39] at hone;simp only [Bool.or_self,zt,if_false] at hone;unfold MI;try refine zqe ?_
   refine rdB rfl ?_;refine call (ADM (s:=s) (a:=a) (w:=.slice aw wordsL.length kw) ha hs a (λhn I' hI'=>?_) (λx hx hle I' hI'=>?_))
   ·rw [hn] at hone;simp only at hone
    repeat' (first|refine zqa ?_|refine zqh (λ_=>?_)|refine zqr ?_|refine zqb ?_|refine zqi ?_ ?_|refine zqc ?_|refine zqg (λ_=>?_) (λ_=>?_)|refine zqe ?_|fail)
    exact zAE (L1++(b,LBo s a (.slice aw wordsL.length kw))::L2) (zAA ((hbad 171 hone).2 I' a _ _ _ hI'))
   ·rw [hx] at hone;simp only at hone
    have hx0:0 < x.length:=by
     have:x∈signsL:=List.mem_of_find?_eq_some hx;simp only [signsL,zZ,zaH,or_false] at this;rcases this with rfl|rfl|rfl|rfl|rfl|rfl|rfl|rfl|rfl|rfl|rfl|rfl|rfl|rfl|rfl|rfl|rfl|rfl <;> decide
    repeat' (first|refine zqa ?_|refine zqh (λ_=>?_)|refine zqr ?_|refine zqb ?_|refine zqi ?_ ?_|refine zqc ?_|refine zqg (λ_=>?_) (λ_=>?_)|refine zqe ?_|fail)
    exact zAE (L1++(b,LBo s (a+x.length) (.slice aw wordsL.length kw))::L2) (zAA (hok _ _ hone I' (a+x.length) hI' zo hle (by rw [zbr])))
end
abbrev WrO (p v w:Value):Obj:=.cells [p,v,w].toArray 113 (0,0)
theorem AJj:liesAt Tryz.prog Tryz.prog.depth 113 (3 / Tryz.prog.cellsOf 113) 0 111 1=true:=by kernel_rfl
def WrS (b:Nat)(w:Value)(X:LH)(l:Bs):Prop:=∃p v X0,BuP b p∧SlO 5 1 X0 v (Lib.byteCells l) l.length∧X=X0++[(b,WrO p v w)]
section
variable {ω:Om}{I:Imm}{L F:LH}{K:Value→M}{b:Nat}{w:Value}{X:LH}{l:Bs}
theorem Og {p v:Value}{L1 L2:LH}(hp:BuP b p)(hk:K (.tuple #[]) I (L1++(b,WrO (AL b) v w)::L2)):CT ω 209 #[AL b] K I (L1++(b,WrO p v w)::L2):=by
 refine AIl ?_;unfold AGR;rcases hp with rfl|rfl
 ·have e1:Hw .eql (.pointer none) (.pointer none)=some (.bool true):=rfl;simp only [e1,SSd,Nat.reduceAdd];refine rdb ?_;simp only [e1,SSd,Nat.reduceAdd];refine ⟨_,⟨b,0,[.pointer none,v,w].toArray,113,(0,0),rfl,.inr zy,by simp,rfl⟩,?_⟩;refine XQ (zAA ?_);refine ⟨_,⟨b,0,[.pointer none,v,w].toArray,113,(0,0),rfl,.inr zy,AJj,rfl⟩,?_⟩;repeat' (first|refine zqa ?_|refine zqh (λ_=>?_)|refine zqr ?_|refine zqb ?_|refine zqi ?_ ?_|refine zqc ?_|refine zqg (λ_=>?_) (λ_=>?_)|refine zqe ?_|fail)
  exact zAE _ (zAA hk)
 ·try refine zqe ?_
  refine rdb ?_;have e2:Hw .neq (AL b) (AL b)=some (.bool false):=by simp [Hw]
  simp only [Gn,SSd,Nat.reduceAdd];refine rdb ?_;simp only [e2,SSd,Nat.reduceAdd];exact zAA hk
theorem WH [hs:SplitL X L F](hW:WrS b w X l)(t:Bs)(hn:(l++t).length≤1000000000)(hk:∀X',WrS b w X' (l++t)→∀v,K v I (X'++F)):CT ω 172 #[AL b,.string ⟨t.toArray⟩] K I L:=by
 obtain ⟨p,v,X0,hp,hX,rfl⟩:=hW;rw [zn] at hn;refine zAN (X0++[(b,WrO p v w)]) ?_;rw [zi,zai,zat];refine AIn ?_;unfold AGV;refine call (Og hp ?_);try refine zqe ?_
 refine rdb ?_;refine Dx (X:=X0) (n:=1) (m:=t.length) rfl hX (news:=Lib.byteCells t) (.inr (.inr ⟨⟨t.toArray⟩,rfl,rfl,rfl,rfl⟩)) (λu hu=>?_) zo zo (λX2 v2 hX2=>?_)
 ·obtain ⟨c,_,rfl⟩:=zaz.1 hu;rfl
 have hX2:SlO 5 1 X2 v2 (Lib.byteCells (l++t)) (l++t).length:=by rw [Lib.byteCells_append];simpa using hX2
 obtain ⟨a2,k2,rfl⟩:=hX2.form;repeat' (first|refine zqa ?_|refine zqh (λ_=>?_)|refine zqr ?_|refine zqb ?_|refine zqi ?_ ?_|refine zqc ?_|refine zqg (λ_=>?_) (λ_=>?_)|refine zqe ?_|fail)
 refine zAA ?_;have:=hk (X2++[(b,WrO (AL b) (.slice a2 (l++t).length k2) w)]) ⟨_,_,X2,.inr rfl,hX2,rfl⟩ (.tuple #[.int .i64 t.length,.nilIface]);rwa [zi,zai,zat] at this
theorem UO [hs:SplitL X L F](hW:WrS b w X l)(h0:l≠[])(hn:l.length≤1000000000)(hk:∀X',K (.string ⟨l.toArray⟩) I (X'++F)):CT ω 59 #[AL b] K I L:=by
 obtain ⟨p,v,X0,hp,hX,rfl⟩:=hW;refine zAN (X0++[(b,WrO p v w)]) ?_;rw [zi,zai,zat];refine ANK ?_;unfold ANr;obtain ⟨a,cap,rfl⟩:=hX.form;have hlenV:lenV (.slice a l.length cap)=some (.int .i64 l.length):=rfl;refine BM ?_;try refine zqe ?_
 refine CB ?_;have hpos:0 < l.length:=List.length_pos_iff.2 h0;obtain ⟨hcl,hX⟩:=hX;rcases hX with ⟨_,h0',_⟩|⟨bb,cap',cs,rfl,e,hcs,hle,hcell⟩
 ·omega
 ·simp only [Value.slice.injEq] at e;obtain ⟨rfl,_,rfl⟩:=e;obtain ⟨k,rfl⟩:∃k,cap=k+1:=⟨cap - 1,by omega⟩;have hq:ACz (.slice (some ⟨bb,0,none⟩) l.length (k+1))=some (.pointer (some ⟨bb,0,none⟩)):=rfl;simp only [hq,SSd,Nat.reduceAdd];refine CB ?_;try refine zqe ?_
  refine .inr ⟨bb,cs,(0,0),l,[],(b,WrO p (.slice (some ⟨bb,0,none⟩) l.length (k+1)) w)::F,rfl,rfl,h0,by omega,by omega,rfl,λj u hu=>hcell j _ ?_,zAA (zAA ?_)⟩
  ·simp [Lib.byteCells,hu]
  ·have:=hk [(bb,.cells cs 5 (frz (0,0) l.length)),(b,WrO p (.slice (some ⟨bb,0,none⟩) l.length (k+1)) w)];simpa using this
theorem XE {v:Value}{ts:List Bs}(hW:WrS b w X l)(hv:StL I v ts)(hts:ts.length≤1000)(hn:(l++ts.flatten).length≤1000000000)(hk:∀X',WrS b w X' (l++ts.flatten)→K (.tuple #[]) I (X'++F)):Wi ω (AL b) v (λv=>Gh (K v)) I (X++F):=by
 unfold Wi;simp only [zAK hv,SSd,Nat.reduceAdd];refine loop (λq st I' L'=>∃(k:Nat) (X':LH),k+q=ts.length∧st=(.int .i64 k,())∧I'=I∧L'=X'++F∧WrS b w X' (l++(ts.take k).flatten)) ts.length ⟨0,X,by omega,rfl,rfl,rfl,by simpa using hW⟩ ?_;rintro q st I' L' ⟨k,X',hkq,rfl,rfl,rfl,hW'⟩;unfold ABw;try refine zqe ?_
 refine AB (λhb=>?_) (λhb=>?_)
 ·have hb:k < ts.length:=by
   have:=of_decide_eq_true hb;omega
  obtain ⟨bt,off,c1,g1,gl,g2,g3⟩:=zAR hv (i:=k) zo zo;rw [Am hb] at g2;obtain rfl:=g2;simp only [g1,SSd,Nat.reduceAdd];refine rdC (g3 _ [] (zAC _) (λ_ h=>h) 0 _ rfl) (zAC _) ?_;have hfl:(ts.take (k+1)).flatten=(ts.take k).flatten++ts[k]:=by rw [zl hb,zbf];simp only [zaD,zaX,zao]
  have hle:(ts.take (k+1)).flatten.length≤ts.flatten.length:=by
   have h:ts.flatten=(ts.take (k+1)).flatten++(ts.drop (k+1)).flatten:=by rw [←zbf,zad]
   rw [h,zn];omega
  rw [hfl,zn] at hle;rw [zn] at hn;refine call (WH (X:=X') hW' ts[k] (by simp only [zn];omega) (λX2 hW2 v=>?_));simp only [wrap_i64 ((k:Int)+1) zo,SSd,Nat.reduceAdd];refine zAA ⟨q - 1,by omega,k+1,X2,by omega,rfl,rfl,rfl,?_⟩;rw [hfl,←zi];exact hW2
 ·have hb:¬k < ts.length:=by
   have:=of_decide_eq_false hb;omega
  rw [zg zo] at hW';exact zAA (hk X' hW')
theorem IY {v:Value}{ts:List Bs}[hs:SplitL X L F](hW:WrS b w X l)(hv:StL I v ts)(hts:ts.length≤1000)(hn:(l++ts.flatten).length≤1000000000)(hk:∀X',WrS b w X' (l++ts.flatten)→K (.tuple #[]) I (X'++F)):CT ω 113 #[AL b,v] K I L:=
 zAN X (AQy (XE hW hv hts hn hk))
theorem AEO {v:Value}{ts:List Bs}(hW:WrS b w X l)(hv:StL I v ts)(hts:ts.length≤1000)(hn:(l++ts.flatten).length≤1000000000)(hk:∀X',WrS b w X' (l++ts.flatten)→K (.tuple #[]) I (X'++F)):CalD Tryz.prog ω 113 #[AL b,v] K I (X++F):=
 ALC (XE hW hv hts hn hk)
theorem Bd {K':M}{z:Array Value}{s:Bs}[hs:SplitL X L F](hW:WrS b w X l)(hn:(l++s).length≤1000000000)(hk:∀I' X',Ext I I'→WrS b w X' (l++s)→K' I' (X'++F)):
  AU 9 1 z 1 [(0,.string ⟨s.toArray⟩)] (gh λv=>CT ω 113 #[AL b,v] (gh λ_=>K')) I L:=by
 refine DT [s] rfl rfl (λI' a hI' hw'=>zAA ?_);refine call (IY hW hw' zy (by simpa using hn) (λX' hW'=>hk I' X' hI' (by simpa using hW')))
theorem AVF {K':M}{z:Array Value}{s t:Bs}[hs:SplitL X L F](hW:WrS b w X l)(hn:(l++(s++t)).length≤1000000000)(hk:∀I' X',Ext I I'→WrS b w X' (l++(s++t))→K' I' (X'++F)):
  AU 9 1 z 2 [(0,.string ⟨s.toArray⟩),(1,.string ⟨t.toArray⟩)] (gh λv=>CT ω 113 #[AL b,v] (gh λ_=>K')) I L:=by
 refine DT [s,t] rfl rfl (λI' a hI' hw'=>zAA ?_);refine call (IY hW hw' zy (by simpa using hn) (λX' hW'=>hk I' X' hI' (by simpa using hW')))
theorem AOB {K':M}{z:Array Value}{s t u:Bs}[hs:SplitL X L F](hW:WrS b w X l)(hn:(l++(s++(t++u))).length≤1000000000)(hk:∀I' X',Ext I I'→WrS b w X' (l++(s++(t++u)))→K' I' (X'++F)):
  AU 9 1 z 3 [(0,.string ⟨s.toArray⟩),(1,.string ⟨t.toArray⟩),(2,.string ⟨u.toArray⟩)] (gh λv=>CT ω 113 #[AL b,v] (gh λ_=>K')) I L:=by
 refine DT [s,t,u] rfl rfl (λI' a hI' hw'=>zAA ?_);refine call (IY hW hw' zy (by simpa using hn) (λX' hW'=>hk I' X' hI' (by simpa using hW')))
end
def FH (q:UInt8)(s:Bs):Nat:=(s.filter (·==q)).length
def EH (q:UInt8)(s:Bs):Bs:=s.flatMap λc=>if c==q then [q,q] else [c]
theorem QH {q c:UInt8}(s:Bs)(h:(c==q)=true):FH q (c::s)=FH q s+1:=by
 unfold FH;simp only [List.filter_cons,h,if_true,zh]
theorem NS {q c:UInt8}(s:Bs)(h:¬(c==q)=true):FH q (c::s)=FH q s:=by
 unfold FH;simp only [List.filter_cons,h];simp
theorem AKy {q c:UInt8}(s:Bs)(h:(c==q)=true):EH q (c::s)=q::q::EH q s:=by
 unfold EH;simp only [zbp,h,if_true];rfl
theorem ACh {q c:UInt8}(s:Bs)(h:¬(c==q)=true):EH q (c::s)=c::EH q s:=by
 unfold EH;simp only [zbp,h];rfl
theorem Vw (q:UInt8):∀s:Bs,(EH q s).length=s.length+FH q s
 |[]=>rfl
 |c::s=>by
  have ih:=Vw q s;by_cases h:(c==q)=true
  ·rw [AKy s h,QH s h];simp only [zh,ih];omega
  ·rw [ACh s h,NS s h];simp only [zh,ih];omega
theorem Xq (q:UInt8):∀(s:Bs) (n:Int),s.foldl (λn x=>if x==q then n+1 else n) n=n+FH q s
 |[],n=>by simp [FH]
 |c::s,n=>by
  simp only [List.foldl_cons];rw [Xq q s];by_cases h:(c==q)=true
  ·rw [if_pos h,QH s h];omega
  ·rw [if_neg h,NS s h]
theorem NR (q:UInt8)(a b:Bs):EH q (a++b)=EH q a++EH q b:=by simp [EH]
theorem Vu (q:UInt8):∀s:Bs,FH q s=0→EH q s=s
 |[],_=>rfl
 |c::s,h=>by
  by_cases hc:(c==q)=true
  ·rw [QH s hc] at h;omega
  ·rw [NS s hc] at h;rw [ACh s hc,Vu q s h]
theorem Tm (q:UInt8):∀s:Bs,FH q s≠0→∃i,Ju s q=(i:Nat)∧i < s.length∧FH q (s.take i)=0∧s.drop i=q::s.drop (i+1)∧FH q (s.drop (i+1))+1=FH q s
 |[],h=>absurd rfl h
 |c::s,h=>by
  by_cases hc:(c==q)=true
  ·have hc':c=q:=by simpa using hc
   subst hc';refine ⟨0,by simp [Ju,List.findIdx?_cons],by simp,rfl,rfl,?_⟩;rw [QH s hc];rfl
  ·rw [NS s hc] at h ⊢;obtain ⟨i,h1,h2,h3,h4,h5⟩:=Tm q s h;refine ⟨i+1,?_,by simp;omega,?_,by simpa using h4,by simpa using h5⟩
   ·unfold Ju at h1 ⊢;rw [List.findIdx?_cons,if_neg hc];cases hf:s.findIdx? (·==q) with
    |none=>rw [hf] at h1;simp only at h1;omega
    |some j=>rw [hf] at h1;simp only [Option.map_some] at h1 ⊢;omega
   ·rw [List.take_succ_cons,NS _ hc];exact h3
theorem cnt_le (q:UInt8)(s:Bs):FH q s≤s.length:=List.length_filter_le _ _
section
variable {ω:Om}{I:Imm}{L:LH}{K:Value→M}
theorem Ws (s:Bs)(q:UInt8)(hk:K (.int .i64 (FH q s:Nat)) I L):CT ω 239 #[.string ⟨s.toArray⟩,.string ⟨[q].toArray⟩] K I L:=by
 refine APB ?_;unfold ALY;have hq:([q]:Bs)[0]? =some q:=rfl;simp only [VS,zh,zac,show ((0+1:Nat):Int)=1 from rfl,show ((1:Int)==0)=false from rfl,show ((1:Int)==1)=true from rfl,show (.int .i64 0:Value)= .int .i64 ((0:Nat):Int) from rfl,ixS [q] hq,SSd,Nat.reduceAdd];refine ExtE.ret ⟨_,λw hs=>?_,zAA (zAA hk)⟩;show Sem.run _ (do
  let b ←Extern.Bytes.bytesOf (.string ⟨s.toArray⟩)
  let c ←Extern.Bytes.asByte (.int .u8 q.toNat)
  pure (goInt (b.foldl (λn x=>if x==c then n+1 else n) (0:Nat)))) w=_
 have hc:((q.toNat:Int).toNat).toUInt8=q:=by simp
 simp only [Sem.run_bind,Extern.Bytes.bytesOf,Result.andThen_ok,Extern.Bytes.asByte,Sem.run_pure,hc];rw [Lib.foldl_data,show (⟨s.toArray⟩:ByteArray).data.toList=s from rfl,Xq];simp [goInt]
theorem Oi (l:Bs)(c:UInt8)(hk:K (.int .i64 (Ju l c)) I L):CT ω 188 #[.string ⟨l.toArray⟩,.int .u8 c.toNat] K I L:=by
 refine AIm ?_;unfold AGT;refine ExtE.ret ⟨_,λw hs=>?_,zAA (zAA hk)⟩;show Sem.run _ (do
  let b ←Extern.Bytes.bytesOf (.string ⟨l.toArray⟩)
  let c ←Extern.Bytes.asByte (.int .u8 c.toNat)
  match (List.range b.size).find? λi=>b[i]! ==c with
  |some i=>pure (goInt i)
  |none=>pure (goInt (-1))) w=_
 have hc:((c.toNat:Int).toNat).toUInt8=c:=by simp
 simp only [Sem.run_bind,Extern.Bytes.bytesOf,Result.andThen_ok,Extern.Bytes.asByte,Sem.run_pure,hc,Xe];unfold Ju;cases l.findIdx? (·==c) <;> rfl
theorem XY (s:Bs)(q:UInt8)(hk:K (.int .i64 (Ju s q)) I L):CT ω 240 #[.string ⟨s.toArray⟩,.string ⟨[q].toArray⟩] K I L:=by
 refine APA ?_;unfold ALX;refine call ?_;refine AOw ?_;unfold ALT;have hq:([q]:Bs)[0]? =some q:=rfl;simp only [VS,sEq,zh,zac,show ((0+1:Nat):Int)=1 from rfl,show ((1:Int)==0)=false from rfl,show ((1:Int)==1)=true from rfl,SSd,Nat.reduceAdd];refine AB (λhe=>?_) (λhe=>?_)
 ·have he:[q]=s:=by simpa using he
  subst he;have:Ju [q] q=0:=by simp [Ju,List.findIdx?_cons]
  rw [this] at hk;exact zAA (zAA hk)
 ·unfold AAu;simp only [show ((1:Int)==1)=true from rfl,show (.int .i64 0:Value)= .int .i64 ((0:Nat):Int) from rfl,ixS [q] hq,SSd,Nat.reduceAdd];exact call (Oi s q (zAA (zAA hk)))
theorem VW (s:Bs)(q:UInt8)(hs:(EH q s).length≤1000000000)(hk:K (.string ⟨(EH q s).toArray⟩) I L):CT ω 210 #[.string ⟨s.toArray⟩,.string ⟨[q].toArray⟩,.string ⟨[q,q].toArray⟩] K I L:=by
 refine APT ?_;unfold ALj;refine call ?_;refine APJ ?_;unfold ALc;have hne:(([q]:Bs)==[q,q])=false:=by simp
 simp only [sEq,hne,show ((-1:Int)==0)=false from rfl,SSd,Nat.reduceAdd];refine call (Ws s q ?_);try refine zqe ?_
 have hlen:=Vw q s;refine AB (λh0=>?_) (λh0=>?_)
 ·have h0:FH q s=0:=by
   have:((FH q s:Nat):Int)=0:=by simpa using h0
   omega
  rw [Vu q s h0] at hk;exact zAA (zAA hk)
 have h0:FH q s≠0:=by
  have:¬((FH q s:Nat):Int)=0:=by simpa using h0
  omega
 unfold AAz;simp only [show decide ((-1:Int) < 0)=true from rfl,SSd,Nat.reduceAdd];unfold PK;refine AQ (λb=>?_);have hcl:=cnt_le q s;have e1:IntKind.i64.wrap (((2:Nat):Int) - ((1:Nat):Int))=1:=rfl;have e2:IntKind.i64.wrap ((FH q s:Int) * 1)=FH q s:=by rw [Int.mul_one];exact wrap_i64 _ zo
 have e3:IntKind.i64.wrap ((s.length:Int)+FH q s)=((s.length+FH q s:Nat):Int):=by rw [wrap_i64 _ zo];omega
 simp only [VS,zh,zac,zaA,Nat.reduceAdd,e1,e2,e3,SSd,Nat.reduceAdd];refine call (Tq (b:=b) (p:=.pointer none) (.inl rfl) zo zo (λX v hX hb=>?_));simp only [show decide (((1:Nat):Int) > 0)=true from rfl,show decide ((0:Int) < ((1:Nat):Int))=true from rfl,SSd,Nat.reduceAdd];refine loop (λm st I' L'=>∃(k a:Nat) (X':LH) (v':Value),k+m=FH q s∧st=(Value.int .i64 (a:Nat),Value.int .i64 (k:Nat),())∧I'=I∧L'=X'++((b,BuB (AL b) v')::L)∧a≤s.length∧FH q (s.drop a)+k=FH q s∧SlO 5 1 X' v' (Lib.byteCells (EH q (s.take a))) (EH q (s.take a)).length) (FH q s) ⟨0,0,X,v,by omega,rfl,rfl,rfl,zak _,rfl,hX⟩ ?_;rintro m st I' L' ⟨k,a,X',v',hkm,rfl,rfl,rfl,ha,hck,hX'⟩;unfold AAy;try refine zqe ?_
 have hle:(EH q s).length=(EH q (s.take a)).length+(EH q (s.drop a)).length:=by
  rw [←zn,←NR,zad]
 refine AB (λhb=>?_) (λhb=>?_)
 ·have hb:k < FH q s:=by
   have:=of_decide_eq_true hb;omega
  obtain ⟨i,g1,g2,g3,g4,g5⟩:=Tm q (s.drop a) zo;have hal:a+i < s.length:=by rw [zar] at g2;omega
  have e4:IntKind.i64.wrap ((a:Int)+(i:Nat))=((a+i:Nat):Int):=by rw [wrap_i64 _ zo];omega
  have e5:IntKind.i64.wrap (((a+i:Nat):Int)+((1:Nat):Int))=((a+i+1:Nat):Int):=by rw [wrap_i64 _ zo];omega
  simp only [Ya s ha,SSd,Nat.reduceAdd];refine call (XY (s.drop a) q ?_);simp only [g1,e4,slS s (zbt a i) (zaN hal),Nat.add_sub_cancel_left,SSd,Nat.reduceAdd];have hp1:EH q ((s.drop a).take i)=(s.drop a).take i:=Vu q _ g3;have htk:s.take (a+i)=s.take a++(s.drop a).take i:=by rw [List.take_add]
  have hgc:s[a+i]=q:=by
   rw [zaj g2] at g4;simp only [List.cons.injEq] at g4;simpa using g4.1
  have htk1:s.take (a+i+1)=s.take a++((s.drop a).take i++[q]):=by
   rw [zl hal,hgc,htk,zi]
  have hdt:EH q (s.take (a+i+1))=EH q (s.take a)++((s.drop a).take i++[q,q]):=by
   rw [htk1,NR,NR,hp1];simp [EH]
  have hle2:(EH q (s.take (a+i+1))).length≤(EH q s).length:=by
   have h:EH q s=EH q (s.take (a+i+1))++EH q (s.drop (a+i+1)):=by rw [←NR,zad]
   rw [h,zn];omega
  have hl3:(EH q (s.take (a+i+1))).length=(EH q (s.take a)).length+(((s.drop a).take i).length+2):=by rw [hdt];simp
  refine call (ET (b:=b) (X:=X') (.inr rfl) hX' zo ((s.drop a).take i) zo (λX2 v2 hX2=>?_));refine call (ET (b:=b) (X:=X2) (.inr rfl) hX2 (by rw [zn];omega) [q,q] zy (λX3 v3 hX3=>?_));simp only [zh,zac,zaA,e5,wrap_i64 ((k:Int)+1) zo,SSd,Nat.reduceAdd];rw [zi,←hdt] at hX3;refine zAA ⟨m - 1,by omega,k+1,a+i+1,X3,v3,by omega,rfl,rfl,rfl,by omega,?_,hX3⟩;rw [show s.drop (a+i+1)=(s.drop a).drop (i+1) by rw [zbr];congr 1];omega
 ·have hb:¬k < FH q s:=by
   have:=of_decide_eq_false hb;omega
  have hd0:=Vu q (s.drop a) zo;unfold VA;simp only [Ya s ha,SSd,Nat.reduceAdd];rw [hd0] at hle;refine call (ET (b:=b) (X:=X') (.inr rfl) hX' zo (s.drop a) zo (λX2 v2 hX2=>?_));have hfin:EH q (s.take a)++s.drop a=EH q s:=by
   rw [←hd0,←NR,zad]
  rw [hfin] at hX2;have hpos:0 < (EH q s).length:=by omega
  have hbuf:=SlO.buf hX2 hpos;refine call (JS (b:=b) (X:=X2) hX2 hs (λh=>by rw [h] at hpos;simp at hpos) (λX4=>?_));exact zAA (zAE L (zAA hk))
end
section
variable {ω:Om}{I:Imm}{L F:LH}{K:Value→M}{b:Nat}{w:Value}{X:LH}{l:Bs}
theorem Qq [hs:SplitL X L F](hW:WrS b w X l)(s:Bs)(q:UInt8)(hn:(l++LV q s).length≤1000000000)(hk:∀I' X',Ext I I'→WrS b w X' (l++LV q s)→K (.tuple #[]) I' (X'++F)):
  CT ω 173 #[AL b,.string ⟨s.toArray⟩,.string ⟨[q].toArray⟩] K I L:=by
 refine APy ?_;unfold AMJ;have e1:AZ .add (.string ⟨[q].toArray⟩) (.string ⟨[q].toArray⟩)=some (.string ⟨[q,q].toArray⟩):=by
  exact AVE (a:=[q]) (b:=[q]) zy
 simp only [e1,SSd,Nat.reduceAdd];have hq:LV q s=[q]++(EH q s++[q]):=rfl;rw [hq] at hn hk;have hd:(EH q s).length≤1000000000:=by simp only [zn] at hn;omega
 refine call (VW s q hd ?_);refine AOB hW hn (λI' X' hI' hW'=>?_);exact zAA (hk I' X' hI' hW')
end
section
variable {ω:Om}{b:Nat}
theorem AHL (n:Nat)(hn0:n≤1000000000)(hE:FnE ω n b 148 (eP n)){I:Imm}{L:LH}{K Pn:Value→M}{C:Obj→LH}{v:Value}{l:List Tok}[hF:Foc b L (PBo v) C](h:TL I v l)(hT:Toks l)(hl:l.length≤n)
  (hok:∀x r,FM n l= .ok x r→Toks r→r.length≤l.length→∀I' v' a0 k0 a1 k1 a2 k2 a3 k3 a4 k4 a5 k5,Ext I I'→TL I' v' r→RL TItemV 14 I' [] (.slice a0 x.fItems.length k0) x.fItems→RL TSourceV 14 I' [] (.slice a1 x.fFrom.length k1) x.fFrom→ExL I' (.slice a2 x.fWhere.args.length k2) x.fWhere.args→RL ExV 11 I' [] (.slice a3 x.fGroup.length k3) x.fGroup→ExL I' (.slice a4 x.fHaving.args.length k4) x.fHaving.args→RL TOrderV 12 I' [] (.slice a5 x.fOrder.length k5) x.fOrder→K (.agg #[.bool x.fDistinct,.slice a0 x.fItems.length k0,.slice a1 x.fFrom.length k1,.int .i64 x.fWhere.kind,.int .i64 x.fWhere.value.fType,.bool x.fWhere.value.fNull,.int .i64 x.fWhere.value.fInt,.string ⟨x.fWhere.value.fText.toArray⟩,.string ⟨x.fWhere.table.toArray⟩,.string ⟨x.fWhere.name.toArray⟩,.int .i64 x.fWhere.slot,.int .i64 x.fWhere.type,.bool x.fWhere.distinct,.slice a2 x.fWhere.args.length k2,.slice a3 x.fGroup.length k3,.int .i64 x.fHaving.kind,.int .i64 x.fHaving.value.fType,.bool x.fHaving.value.fNull,.int .i64 x.fHaving.value.fInt,.string ⟨x.fHaving.value.fText.toArray⟩,.string ⟨x.fHaving.table.toArray⟩,.string ⟨x.fHaving.name.toArray⟩,.int .i64 x.fHaving.slot,.int .i64 x.fHaving.type,.bool x.fHaving.distinct,.slice a4 x.fHaving.args.length k4,.slice a5 x.fOrder.length k5,.int .i64 x.fLimit,.int .i64 x.fOffset]) I' (C (PBo v')))
  (herr:PEr (FM n l) Pn C I):CalP Tryz.prog ω 94 #[AL b] K Pn I L:=by
 refine (AHM n hn0 hE).go h hT hl (λx r hg hT' hr I' v' c hI' hv' hc=>?_) herr;obtain ⟨v0,v1,v2,v3,v4,v5,rfl,h0,h1,h2,h3,h4,h5⟩:=hc;obtain ⟨a0,k0,rfl⟩:=zAF h0;obtain ⟨a1,k1,rfl⟩:=zAF h1;obtain ⟨a2,k2,rfl⟩:=zAF h2;obtain ⟨a3,k3,rfl⟩:=zAF h3;obtain ⟨a4,k4,rfl⟩:=zAF h4;obtain ⟨a5,k5,rfl⟩:=zAF h5;exact hok x r hg hT' hr I' v' a0 k0 a1 k1 a2 k2 a3 k3 a4 k4 a5 k5 hI' hv' h0 h1 h2 h3 h4 h5
theorem row_one (n:Nat)(hn0:n≤1000000000)(hE:FnE ω n b 148 (eP n)){I:Imm}:OneP ω n b (Bc n (eP n)) (AAa ExV 11) (.func (.func 99) #[AL b] #[]) I:=by
 intro K Pn I' L C v l hF hI h hT hl hok herr;refine NU (by kernel_rfl) (XA n hn0 hE h hT hl (λx r hg hT' hr I' v' w hI hv' hw=>hok x r hg hT' hr I' v' w hI hv' hw.1) herr)
theorem AEW (n:Nat)(hn0:n≤1000000000):FnV ω n b 103 (EX n) TStmtV:=by
 intro K Pn I L C v l hF h hT hl hok herr;obtain ⟨L1,L2,rfl,rfl⟩:=hF.foc;have hTb:=AFD (ω:=ω) (b:=b) n hn0;refine ARC ?_;unfold ANA;have hl0:=hT.len;repeat' (first|(with_reducible first|refine CX (b:=b) ?_|refine keepA ?_|refine AQ (λ_=>?_))|(with_reducible refine Aa ?_;refine hTb.go zT zA zo (λx r hg hT3 hr I' v' c hI' hv' hc=>?_) (λe hg I' v' hI'=>?_))|(with_reducible refine Aa ?_;refine RG n hn0 zT zA zo (λx r hg hT3 hr I' v' a' k' hI' hv' hw' hpos=>?_) (λe hg I' v' hI'=>?_))|((with_reducible refine stB ?_ ?_ ?_ ?_);exact zAT zA;rfl;exact TStmtV.one zA)|((with_reducible refine rdB ?_ ?_);exact zAT zA)|(with_reducible refine Az ?_;refine CY _ zT zA (λhb hT' hl' v' hv'=>?_) (λhb=>?_))|(with_reducible refine CG _ zT zA (λhb hT' hl' I' v' hI' hv'=>?_) (λhb I' v' hI'=>?_))|(with_reducible refine Aa ?_;refine Cj zT zA (λhb hT' hl' v' hv'=>?_) (λhb=>?_))|(with_reducible refine Aa ?_;refine Ak zT zA ?_)|(with_reducible first|refine BQ zC (λI' a hI' hw'=>zAA ?_)|refine BJ zC zC (λI' a hI' hw'=>zAA ?_)|refine Ba zC zC zC (λI' a hI' hw'=>zAA ?_))|(with_reducible refine Az ?_;refine BV zC ?_)|refine zqr ?_|refine zqb ?_|refine zqi ?_ ?_|refine zqc ?_|refine zqg (λhb=>?_) (λhb=>?_)|refine zqe ?_|fail)
 all_goals first
  |exact zAE (L1++(b,PBo v')::L2) (zAA (herr _ (by simp [EX,Ar,Res.bind,bad,AP, *] <;> rfl) _ _ zE))
  |exact zAE (L1++(b,PBo v')::L2) (zAA (hok x _ (by simp [EX,Res.bind, *] <;> rfl) zA zo _ _ _ zE zT zA))
  |exact zAE (L1++(b,PBo v')::L2) (zAA (hok {(default:TStmt) with fKind:=6,fIndex:=⟨(hd l.tail.tail).text,(hd l.tail.tail.tail.tail).text,x,true⟩} _ (by simp [EX,Ar,AP,Res.bind, *] <;> rfl) zA zo _ _ _ zE zT ⟨_,_,_,_,_,_,_,_,_,_,_,_,_,rfl,zAD none 0,zAD none 0,zAD none 0,zAD none 0,zAD none 0,zAD none 0,zAD none 0,zAD none 0,zAD none 0,zAD none 0,zAD none 0,zAD none 0,(zAJ hw' zE)⟩))
  |exact zAE (L1++(b,PBo v')::L2) (zAA (hok {(default:TStmt) with fKind:=6,fIndex:=⟨(hd l.tail).text,(hd l.tail.tail.tail).text,x,false⟩} _ (by simp [EX,Ar,AP,Res.bind, *] <;> rfl) zA zo _ _ _ zE zT ⟨_,_,_,_,_,_,_,_,_,_,_,_,_,rfl,zAD none 0,zAD none 0,zAD none 0,zAD none 0,zAD none 0,zAD none 0,zAD none 0,zAD none 0,zAD none 0,zAD none 0,zAD none 0,zAD none 0,(zAJ hw' zE)⟩))
theorem ADH (n:Nat)(hn0:n≤1000000000)(hE:FnE ω n b 148 (eP n)){I:Imm}{L:LH}{K Pn:Value→M}{C:Obj→LH}{v:Value}{l:List Tok}[hF:Foc b L (PBo v) C](h:TL I v l)(hT:Toks l)(hl:l.length≤n)
  (hok:VOk TStmtV (Dy n l) (l.length - 1) K C I) (herr:PEr (Dy n l) Pn C I):CalP Tryz.prog ω 44 #[AL b] K Pn I L:=by
 obtain ⟨L1,L2,rfl,rfl⟩:=hF.foc;have hCr:=AEW (ω:=ω) (b:=b) n hn0;refine AUJ ?_;unfold sh44;have hl0:=hT.len;repeat' (first|(with_reducible first|refine CX (b:=b) ?_|refine keepA ?_|refine AQ (λ_=>?_))|(with_reducible refine Aa ?_;refine AHL n hn0 hE zT zA zo (λx r hg hT3 hr I' v' a0 k0 a1 k1 a2 k2 a3 k3 a4 k4 a5 k5 hI' hv' h0 h1 h2 h3 h4 h5=>?_) (λe hg I' v' hI'=>?_))|(with_reducible refine Aa ?_;refine hCr.go zT zA zo (λx r hg hT3 hr I' v' c hI' hv' hc=>?_) (λe hg I' v' hI'=>?_))|(with_reducible refine Aa ?_;refine RG n hn0 zT zA zo (λns r1 hg1 hT4 hr1 I' v' a1 k1 hI' hv' hw1 hpos=>?_) (λe hg I' v' hI'=>?_))|(with_reducible refine Az ?_;refine JG _ zT zA (λhb=>?_) (λhb=>?_))|(with_reducible refine Aa ?_;refine ANo n hn0 (row_one n hn0 hE) zT zA zo (NF (λx r hg hT3 hr I' v' a' k' hI' hv' hw' hx'=>?_)) (λe hg I' v' hI'=>?_))|(with_reducible refine Aa ?_;refine ANl n hn0 ((ANs n hE).one rfl) zT zA zo (NF (λss r1 hg1 hT4 hr1 I' v' a1 k1 hI' hv' hw1 hx1=>?_)) (λe hg I' v' hI'=>?_))|(with_reducible refine Aa ?_;refine MB n hE _ zT zA zo (λy r hg hT3 hr I' v' a' k' hI' hv' hw'=>?_) (λe hg I' v' hI'=>?_))|((with_reducible refine stB ?_ ?_ ?_ ?_);exact zAT zA;rfl;exact TStmtV.one zA)|((with_reducible refine rdB ?_ ?_);exact zAT zA)|(with_reducible refine Az ?_;refine CY _ zT zA (λhb hT' hl' v' hv'=>?_) (λhb=>?_))|(with_reducible refine CG _ zT zA (λhb hT' hl' I' v' hI' hv'=>?_) (λhb I' v' hI'=>?_))|(with_reducible refine Aa ?_;refine Cj zT zA (λhb hT' hl' v' hv'=>?_) (λhb=>?_))|(with_reducible refine Aa ?_;refine Ak zT zA ?_)|(with_reducible first|refine BQ zC (λI' a hI' hw'=>zAA ?_)|refine BJ zC zC (λI' a hI' hw'=>zAA ?_)|refine Ba zC zC zC (λI' a hI' hw'=>zAA ?_))|(with_reducible refine Az ?_;refine BV zC ?_)|refine zqr ?_|refine zqb ?_|(with_reducible first|refine Ap (sh44_1.eq_1 ..) ?_|refine Ap (sh44.eq_1 ..) ?_|refine And.intro ?_ ?_)|refine zqc ?_|refine zqg (λhb=>?_) (λhb=>?_)|refine zqe ?_|fail)
 all_goals first
  |exact zAE (L1++(b,PBo v')::L2) (zAA (herr _ (by simp [Dy,Du,Dp,EG,Fe,Ar,AP,Res.bind,bad, *] <;> rfl) _ _ zE))
  |exact zAE (L1++(b,PBo v')::L2) (zAA (hok x _ (by simp [Dy,Res.bind, *] <;> rfl) zA zo _ _ _ zE zT zA))
  |exact zAE (L1++(b,PBo v')::L2) (zAA (hok {(default:TStmt) with fKind:=1,fSelect:=x} _ (by simp [Dy,Du,Dp,EG,Fe,Ar,AP,Res.bind, *] <;> rfl) zA zo _ _ _ zE zT ⟨_,_,_,_,_,_,_,_,_,_,_,_,_,rfl,h0,h1,h2,h3,h4,h5,zAD none 0,zAD none 0,zAD none 0,zAD none 0,zAD none 0,zAD none 0,zAD none 0⟩))
  |exact zAE (L1++(b,PBo v')::L2) (zAA (hok {(default:TStmt) with fKind:=2,fTable:=(hd l.tail.tail).text,fColumns:=ns,fRows:=x} _ (by simp [Dy,Du,Dp,EG,Fe,Ar,AP,Res.bind, *] <;> rfl) zA zo _ _ _ zE zT ⟨_,_,_,_,_,_,_,_,_,_,_,_,_,rfl,zAD none 0,zAD none 0,zAD none 0,zAD none 0,zAD none 0,zAD none 0,(zAJ hw1 zE),hw',zAD none 0,zAD none 0,zAD none 0,zAD none 0,zAD none 0⟩))
  |exact zAE (L1++(b,PBo v')::L2) (zAA (hok {(default:TStmt) with fKind:=2,fTable:=(hd l.tail.tail).text,fColumns:=[],fRows:=x} _ (by simp [Dy,Du,Dp,EG,Fe,Ar,AP,Res.bind, *] <;> rfl) zA zo _ _ _ zE zT ⟨_,_,_,_,_,_,_,_,_,_,_,_,_,rfl,zAD none 0,zAD none 0,zAD none 0,zAD none 0,zAD none 0,zAD none 0,zAD none 0,hw',zAD none 0,zAD none 0,zAD none 0,zAD none 0,zAD none 0⟩))
  |exact zAE (L1++(b,PBo v')::L2) (zAA (hok {(default:TStmt) with fKind:=3,fTable:=(hd l.tail).text,fSets:=ss,fWhere:=y} _ (by simp [Dy,Du,Dp,EG,Fe,Ar,AP,Res.bind, *] <;> rfl) zA zo _ _ _ zE zT ⟨_,_,_,_,_,_,_,_,_,_,_,_,_,rfl,zAD none 0,zAD none 0,zAD none 0,zAD none 0,zAD none 0,zAD none 0,zAD none 0,zAD none 0,(zAL (λ_ _ h=>TSetV.mono h zE) hw1 zE (λ_ h=>by cases h)),zC,zAD none 0,zAD none 0,zAD none 0⟩))
  |exact zAE (L1++(b,PBo v')::L2) (zAA (hok {(default:TStmt) with fKind:=4,fTable:=(hd l.tail.tail).text,fWhere:=y} _ (by simp [Dy,Du,Dp,EG,Fe,Ar,AP,Res.bind, *] <;> rfl) zA zo _ _ _ zE zT ⟨_,_,_,_,_,_,_,_,_,_,_,_,_,rfl,zAD none 0,zAD none 0,zAD none 0,zAD none 0,zAD none 0,zAD none 0,zAD none 0,zAD none 0,zAD none 0,zC,zAD none 0,zAD none 0,zAD none 0⟩))
  |exact zAE (L1++(b,PBo v')::L2) (zAA (hok {(default:TStmt) with fKind:=7,fTable:=(hd l.tail.tail).text} _ (by simp [Dy,Du,Dp,EG,Fe,Ar,AP,Res.bind, *] <;> rfl) zA zo _ _ _ zE zT ⟨_,_,_,_,_,_,_,_,_,_,_,_,_,rfl,zAD none 0,zAD none 0,zAD none 0,zAD none 0,zAD none 0,zAD none 0,zAD none 0,zAD none 0,zAD none 0,zAD none 0,zAD none 0,zAD none 0,zAD none 0⟩))
  |exact zAE (L1++(b,PBo v')::L2) (zAA (hok {(default:TStmt) with fKind:=8,fIndex:=⟨(hd l.tail.tail).text,[],[],false⟩} _ (by simp [Dy,Du,Dp,EG,Fe,Ar,AP,Res.bind, *] <;> rfl) zA zo _ _ _ zE zT ⟨_,_,_,_,_,_,_,_,_,_,_,_,_,rfl,zAD none 0,zAD none 0,zAD none 0,zAD none 0,zAD none 0,zAD none 0,zAD none 0,zAD none 0,zAD none 0,zAD none 0,zAD none 0,zAD none 0,zAD none 0⟩))
  |exact zAE (L1++(b,PBo v')::L2) (zAA (hok {(default:TStmt) with fKind:=9} _ (by simp [Dy,Du,Dp,EG,Fe,Ar,AP,Res.bind, *] <;> rfl) zA zo _ _ _ zE zT ⟨_,_,_,_,_,_,_,_,_,_,_,_,_,rfl,zAD none 0,zAD none 0,zAD none 0,zAD none 0,zAD none 0,zAD none 0,zAD none 0,zAD none 0,zAD none 0,zAD none 0,zAD none 0,zAD none 0,zAD none 0⟩))
  |exact zAE (L1++(b,PBo v')::L2) (zAA (hok {(default:TStmt) with fKind:=10} _ (by simp [Dy,Du,Dp,EG,Fe,Ar,AP,Res.bind, *] <;> rfl) zA zo _ _ _ zE zT ⟨_,_,_,_,_,_,_,_,_,_,_,_,_,rfl,zAD none 0,zAD none 0,zAD none 0,zAD none 0,zAD none 0,zAD none 0,zAD none 0,zAD none 0,zAD none 0,zAD none 0,zAD none 0,zAD none 0,zAD none 0⟩))
  |exact zAE (L1++(b,PBo v')::L2) (zAA (hok {(default:TStmt) with fKind:=11} _ (by simp [Dy,Du,Dp,EG,Fe,Ar,AP,Res.bind, *] <;> rfl) zA zo _ _ _ zE zT ⟨_,_,_,_,_,_,_,_,_,_,_,_,_,rfl,zAD none 0,zAD none 0,zAD none 0,zAD none 0,zAD none 0,zAD none 0,zAD none 0,zAD none 0,zAD none 0,zAD none 0,zAD none 0,zAD none 0,zAD none 0⟩))
end
def WC (ω:Om)(G:Imm):Prop:=∀(s:Bs) (K:Value→M) (I:Imm) (L:LH),Ext G I→s.length≤900000000→
 (∀l,Vf s= .toks l→Toks l→l.length≤s.length+1→∀I' v,Ext I I'→TL I' v l→K (.tuple #[v,.agg #[.int .i64 0,.int .i64 0]]) I' L)→
 (∀f,Vf s= .bad f→f.code≠0→∀I' a m k,Ext I I'→K (.tuple #[.slice a m k,.agg #[.int .i64 f.code,.int .i64 f.at']]) I' L)→CT ω 41 #[.string ⟨s.toArray⟩] K I L
theorem AVK {I:Imm}{L:LH}{K:Value→M}{x:TStmt}{c:List Value}(hc:TStmtV I x c)(hk:∀I' a,Ext I I'→RL TStmtV 51 I' [] (.slice a 1 1) [x]→Gh (K (.slice a 1 1)) I' L):
  AU 48 51 #[.int .i64 0,.bool false,.slice none 0 0,.slice none 0 0,.int .i64 0,.int .i64 0,.bool false,.int .i64 0,.string ⟨#[]⟩,.string ⟨#[]⟩,.string ⟨#[]⟩,.int .i64 0,.int .i64 0,.bool false,.slice none 0 0,.slice none 0 0,.int .i64 0,.int .i64 0,.bool false,.int .i64 0,.string ⟨#[]⟩,.string ⟨#[]⟩,.string ⟨#[]⟩,.int .i64 0,.int .i64 0,.bool false,.slice none 0 0,.slice none 0 0,.int .i64 0,.int .i64 0,.string ⟨#[]⟩,.slice none 0 0,.slice none 0 0,.slice none 0 0,.int .i64 0,.int .i64 0,.bool false,.int .i64 0,.string ⟨#[]⟩,.string ⟨#[]⟩,.string ⟨#[]⟩,.int .i64 0,.int .i64 0,.bool false,.slice none 0 0,.slice none 0 0,.slice none 0 0,.string ⟨#[]⟩,.string ⟨#[]⟩,.slice none 0 0,.bool false] 1 [(0,.agg c.toArray)] (gh K) I L:=
 EQ (R:=TStmtV) [x] [c] rfl rfl rfl (by simpa using hc.len) (by simpa using hc) (λhI h=>TStmtV.mono h hI) hk
theorem WV (n m:Nat)(acc:List TStmt)(l:List Tok):Bj n (m+1) acc l=if isK l 6 then .ok acc l else if isT l [59] then Bj n m acc l.tail else
  (Dy n l).bind λs r=>if isK r 6||isT r [59] then Bj n m (acc++[s]) r else Go.Proofs.YtkifgfanjcfedaaGreatDoor.bad r:=rfl
section
variable {ω:Om}
theorem AKQ {I:Imm}{L1 L2:LH}{bo bf:Nat}{K:Value→M}{e:Nat}{w c a:Value}(hk:K (.tuple #[]) I (L1++((bf,.cells #[.int .i64 174,.int .i64 e] 26 (0,0))::(bo,.cells #[.slice none 0 0] 23 (0,0))::L2))):
  CalDR Tryz.prog ω 42 #[AL bo,AL bf] (Fh e) K I (L1++((bf,.cells #[c,a] 26 (0,0))::(bo,.cells #[w] 23 (0,0))::L2)):=by
 refine AOk ?_;unfold sh42;have e1:Oc true .neq (Fh e) .nilIface=some (.bool true):=rfl;have e2:YL 87 (.agg #[.int .i64 0]) (Fh e)=some (.tuple #[.agg #[.int .i64 e],.bool true]):=rfl;simp only [e1,e2,SSd,Nat.reduceAdd];refine AQ (λb1=>?_);repeat' (first|refine zqa ?_|refine zqh (λ_=>?_)|refine zqr ?_|refine zqb ?_|(with_reducible first|refine Ap (sh42_1.eq_1 ..) ?_|refine Ap (sh42.eq_1 ..) ?_|refine And.intro ?_ ?_)|refine zqc ?_|refine zqg (λ_=>?_) (λ_=>?_)|(simp only [SSd,Nat.reduceAdd,GU]))
 exact zAE _ (zAA hk)
theorem AOA {I:Imm}{L:LH}{bo bf:Nat}{K:Value→M}(hk:K (.tuple #[]) I L):CalD Tryz.prog ω 42 #[AL bo,AL bf] K I L:=by
 refine AOl ?_;unfold sh42;have e1:Oc true .neq .nilIface .nilIface=some (.bool false):=rfl;simp only [e1,SSd,Nat.reduceAdd];exact zAA hk
theorem TP {G:Imm}(hTok:WC ω G)(s:Bs)(hs:s.length≤900000000){I:Imm}{L:LH}{K:Value→M}(hG:Ext G I)
  (hok:∀I' a k,Ext I I'→RL TStmtV 51 I' [] (.slice a (readA s).1.length k) (readA s).1→K (.tuple #[.slice a (readA s).1.length k,.agg #[.int .i64 (readA s).2.code,.int .i64 (readA s).2.at']]) I' L):
  CT ω 25 #[.string ⟨s.toArray⟩] K I L:=by
 refine AUb ?_;unfold ASb;refine AQ (λbo=>?_);refine AQ (λbf=>?_);refine Az (hTok s _ _ _ hG hs (λl hlx hT hlen I1 v1 hI1 hv1=>?_) (λf hlx hf I1 a m k hI1=>?_))
 ·have hrd:readA s=match Bj l.length (l.length+1) [] l with
    | .ok x _=>(x,ok0)
    | .err a=>([],⟨174,a⟩):=by
   simp only [readA,hlx];cases Bj l.length (l.length+1) [] l <;> rfl
  obtain ⟨a,k,rfl⟩:=zAF hv1;repeat' (first|refine zqa ?_|refine zqh (λ_=>?_)|refine zqr ?_|refine zqb ?_|refine zqi ?_ ?_|refine zqc ?_|refine zqg (λ_=>?_) (λ_=>?_)|refine zqe ?_|fail)
  rename_i bp
  have bad:∀(e:Nat) {I2:Imm} {X:LH} {vp w c d:Value},Ext I1 I2→Bj l.length (l.length+1) [] l= .err e→CalDR Tryz.prog ω 42 #[AL bo,AL bf] (Fh e) (gh λ_=>Rv none (BA (AL bo)) λv25=>Rv none (AC 2 (AL bf)) λv26=>Gh (K (.tuple #[v25,v26]))) I2 (X++((bp,PBo vp)::((bf,.cells #[c,d] 26 (0,0))::(bo,.cells #[w] 23 (0,0))::L))):=by
   intro e I2 X vp w c d hI2 hg;rw [hg] at hrd;have:=AKQ (ω:=ω) (L1:=X++[(bp,PBo vp)]) (L2:=L) (bo:=bo) (bf:=bf) (e:=e) (w:=w) (c:=c) (a:=d) (I:=I2) (K:=gh λ_=>Rv none (BA (AL bo)) λv25=>Rv none (AC 2 (AL bf)) λv26=>Gh (K (.tuple #[v25,v26])));simp only [zi,List.singleton_append] at this;refine this (zAA ?_);refine rdb ?_;refine rdB rfl ?_;refine zAE L (zAA ?_);rw [hrd] at hok;exact hok I2 none 0 (zAB hI1 hI2) (zAD none 0)
  refine loop (λm s I2 Lx=>∃X v l2 w cells xs f,l2.length=m∧Ext I1 I2∧Lx=X++((bp,PBo v)::((bf,.cells #[.int .i64 0,.int .i64 0] 26 (0,0))::(bo,.cells #[w] 23 (0,0))::L))∧TL I2 v l2∧Toks l2∧SlO 48 51 X w cells xs.length∧Recs (TStmtV I2) 51 xs cells∧l2.length≤f∧xs.length+l2.length≤l.length∧Bj l.length (l.length+1) [] l=Bj l.length f xs l2) l.length
   ⟨[],_,l,.slice none 0 0,[],[],l.length+1,rfl,zAC _,rfl,hv1,hT,SlO.none _ _,rfl,by omega,by simp,rfl⟩ ?_
  rintro m s I2 Lx ⟨X,v2,l2,w,cells,xs,f,rfl,hI2,rfl,hTL,hT2,hX,hR,hf,hlen2,hm⟩;have hl2:=hT2.len;obtain ⟨f,rfl⟩:∃q,f=q+1:=⟨f - 1,by omega⟩;obtain ⟨aw,kw,rfl⟩:=hX.form;unfold AGH;obtain ⟨bt,off,h1,h2⟩:=hTL.hd hT2;have step:∀{I3:Imm} {X:LH} {v3 w3:Value} {cells3:List Value} {xs3:List TStmt} {l3:List Tok} {f3:Nat},Ext I2 I3→TL I3 v3 l3→Toks l3→l3.length < l2.length→SlO 48 51 X w3 cells3 xs3.length→Recs (TStmtV I3) 51 xs3 cells3→l3.length≤f3→xs3.length+l3.length≤l.length→Bj l.length (l.length+1) [] l=Bj l.length f3 xs3 l3→
    Gh (λI2 L'=>∃m',m' < l2.length∧∃X v l2 w cells xs f,l2.length=m'∧Ext I1 I2∧L'=X++((bp,PBo v)::((bf,.cells #[.int .i64 0,.int .i64 0] 26 (0,0))::(bo,.cells #[w] 23 (0,0))::L))∧TL I2 v l2∧Toks l2∧SlO 48 51 X w cells xs.length∧Recs (TStmtV I2) 51 xs cells∧l2.length≤f∧xs.length+l2.length≤l.length∧Bj l.length (l.length+1) [] l=Bj l.length f xs l2) I3 (X++((bp,PBo v3)::((bf,.cells #[.int .i64 0,.int .i64 0] 26 (0,0))::(bo,.cells #[w3] 23 (0,0))::L))):=
   λ{I3 X v3 w3 cells3 xs3 l3 f3} hI3 hv3 hT3 hlt hX3 hR3 hf3 hs3 hm3=>zAA ⟨l3.length,hlt,X,v3,l3,w3,cells3,xs3,f3,rfl,zAB hI2 hI3,rfl,hv3,hT3,hX3,hR3,hf3,hs3,hm3⟩
  rw [WV l.length f xs l2] at hm;repeat' (first|refine zqa ?_|refine zqh (λ_=>?_)|((with_reducible refine rd1 (v:=.int .i64 (hd l2).kind) ?_ ?_);exact (h2 _ [] (zAC _) 0 _ rfl).mono (zAC _) (λ_ h=>by cases h))|refine zqr ?_|refine zqb ?_|refine zqi ?_ ?_|refine zqc ?_|refine zqg (λ_=>?_) (λ_=>?_)|(simp only [SSd,Nat.reduceAdd,h1]))
  ·rename_i hk
   have hk:isK l2 6=false:=by simpa [isK] using hk
   refine Az (CY [59] hTL hT2 (λhb hT3 hl3 v3 hv3=>?_) (λhb=>?_))
   ·repeat' (first|refine zqa ?_|refine zqh (λ_=>?_)|refine zqr ?_|refine zqb ?_|refine zqi ?_ ?_|refine zqc ?_|refine zqg (λ_=>?_) (λ_=>?_)|refine zqe ?_|fail)
    exact step (f3:=f) (zAC _) hv3 hT3 zo hX hR zo zo (by rw [hm];simp [hk,hb])
   try refine zqe ?_
   refine CX (b:=bp) ?_;refine CB ?_;refine Aa (ADH l.length zo (exprs ω bp l.length zo).1 hTL hT2 zo (λy r hg hTr hr I3 v3 c hI3 hv3 hc=>?_) (λe hg I3 v3 hI3=>bad e (zAB hI2 hI3) (by rw [hm];simp [hk,hb,hg,Res.bind])));refine CV hI3 ?_;refine AVK hc (λI4 a4 hI4 hw4=>zAA ?_);refine CV (zAB hI3 hI4) ?_;obtain ⟨c4,s4,r4⟩:=RL.toI zx hw4;refine Dx (X:=X) rfl hX s4.news (r4.one_cells λx c h=>TStmtV.one h) zL zL (λX5 w5 hX5=>?_);have e5:xs.length+[y].length=(xs++[y]).length:=by simp
   rw [e5] at hX5;have hR5:=zAS (zAU (R':=TStmtV I4) (λ_ _ h=>TStmtV.mono h (zAB hI3 hI4)) hR) r4;obtain ⟨a5,k5,rfl⟩:=hX5.form;have hv4:=hv3.mono hI4;obtain ⟨bt4,off4,h14,h24⟩:=hv4.hd hTr;have next:isK r 6=true∨isT r [59]=true→_:=λhc=>step (l3:=r) (f3:=f) (xs3:=xs++[y]) (zAB hI3 hI4) hv4 hTr zo hX5 hR5 zo zu (by rw [hm];simp [hk,hb,hg,Res.bind];intro h1 h2;rw [h1,h2] at hc;simp at hc);repeat' (first|refine zqa ?_|refine zqh (λ_=>?_)|((with_reducible refine rd1 (v:=.int .i64 (hd r).kind) ?_ ?_);exact (h24 _ [] (zAC _) 0 _ rfl).mono (zAC _) (λ_ h=>by cases h))|(with_reducible refine Az ?_;refine JG _ hv4 hTr (λhb2=>?_) (λhb2=>?_))|refine zqr ?_|refine zqb ?_|refine zqi ?_ ?_|refine zqc ?_|refine zqg (λ_=>?_) (λ_=>?_)|(simp only [SSd,Nat.reduceAdd,h14]))
   ·exact next (.inr hb2)
   ·rename_i hk6
    have hk6:isK r 6=false:=by simpa [isK] using hk6
    unfold AGG;exact Aa (Ak hv4 hTr (bad _ (zAB hI2 (zAB hI3 hI4)) (by rw [hm];simp [hk,hb,hg,Res.bind,hk6,hb2];rfl)))
   ·rename_i hk6
    exact next (.inl (by simpa [isK] using hk6))
  ·rename_i hk
   have hk:isK l2 6=true:=by simpa [isK] using hk
   have hm:Bj l.length (l.length+1) [] l= .ok xs l2:=by rw [hm];simp [hk]
   rw [hm] at hrd;unfold AGF;repeat' (first|refine zqa ?_|refine zqh (λ_=>?_)|refine zqr ?_|refine zqb ?_|refine zqi ?_ ?_|refine zqc ?_|refine zqg (λ_=>?_) (λ_=>?_)|refine zqe ?_|fail)
   refine AOA (zAA ?_);refine rdb ?_;refine rdB rfl ?_;refine zAE (X++L) ?_;refine RL.ofO (R:=TStmtV) (λ{I I' x c} h hI=>TStmtV.mono h hI) hX hR (λI3 hI3 hw=>zAA ?_);rw [hrd] at hok;exact hok I3 _ _ (zAB hI1 (zAB hI2 hI3)) hw
 ·have hrd:readA s=([],f):=by simp only [readA,hlx]
  rw [hrd] at hok;repeat' (first|refine zqa ?_|refine zqh (λ_=>?_)|refine zqr ?_|refine zqb ?_|refine zqi ?_ ?_|refine zqc ?_|refine zqg (λ_=>?_) (λ_=>?_)|refine zqe ?_|fail)
  ·exact zAE L (zAA (hok I1 none 0 hI1 (zAD none 0)))
  ·rename_i hz _
   exact absurd (by simpa using hz) hf
end
theorem ACS:∀{l:Bs} {n k:Int},(∀d∈l,BI d=true)→0≤n→n≤9223372036854775807→Ic l n=some k→0≤k∧k≤9223372036854775807
 |[],n,k,_,h0,h1,h=>by simp only [Ic,zf] at h;subst h;exact ⟨h0,h1⟩
 |d::r,n,k,hd,h0,h1,h=>by
  have hdg:=hd d (zK ..);simp only [BI,zF,decide_eq_true_eq] at hdg;have g1:(48:Nat)≤d.toNat:=hdg.1;have g2:d.toNat≤57:=hdg.2;simp only [Ic] at h;split at h
  ·cases h
  ·exact ACS (λe he=>hd e (zN _ he)) zo zo h
theorem QF {a:Nat}:∀{l:Bs} {t:Tok} {r:Bs},EE a l= .tok t r→UN t
 |[],t,r,h=>by simp [EE] at h
 |c::l,t,r,h=>by
  simp only [EE] at h;split at h
  ·unfold JU at h;split at h
   ·cases h
   ·simp only [LexR.tok.injEq] at h;obtain ⟨rfl,_⟩:=h;refine ⟨?_,?_,?_,?_⟩
    ·simp only;split <;> decide
    ·simp only
     intro hk;split at hk
     ·rename_i hc;exact zbl.1 hc
     ·exact absurd hk zx
    iterate 2
     ·simp only;intro hk;split at hk <;> exact absurd hk zx
  split at h
  ·split at h
   ·cases h
   ·rename_i k hk
    split at h
    ·cases h
    ·simp only [LexR.tok.injEq] at h;obtain ⟨rfl,_⟩:=h;exact ⟨by simp,by simp,by simp,λ_=>ACS (λd hd=>Eh hd) zo zo hk⟩
  split at h
  ·split at h
   ·cases h
   ·split at h
    ·split at h
     ·cases h
     ·simp only [LexR.tok.injEq] at h;obtain ⟨rfl,_⟩:=h;exact ⟨by simp,by simp,by simp,by simp⟩
    ·simp only [LexR.tok.injEq] at h;obtain ⟨rfl,_⟩:=h;exact ⟨by simp,by simp,by simp,by simp⟩
  split at h
  ·cases h
  ·rename_i x hx
   simp only [LexR.tok.injEq] at h;obtain ⟨rfl,_⟩:=h;refine ⟨by simp,by simp,λ_=>?_,by simp⟩;simp only
   split
   ·decide
   ·exact List.mem_of_find?_eq_some hx
theorem FN {a:Nat}:∀{l:Bs} {e:Int},EE a l= .bad e→e≠0
 |[],e,h=>by simp only [EE,LexR.bad.injEq] at h;subst h;decide
 |c::l,e,h=>by
  simp only [EE,JU] at h;repeat' split at h
  all_goals first
   |(simp only [LexR.bad.injEq] at h;subst h;decide)
   |cases h
theorem Toks.snoc:∀{l:List Tok} {t:Tok},(∀x∈l,UN x)→t.kind=6→Toks (l++[t])
 |[],t,_,h=>h
 |[x],t,hl,h=>⟨hl x (zK ..),h⟩
 |x::y::l,t,hl,h=>⟨hl x (zK ..),Toks.snoc (l:=y::l) (λz hz=>hl z (zN _ hz)) h⟩
theorem TF (l:Bs):Bo false (Bo false l)=Bo false l:=by
 have go:∀(b:Bool) (l:Bs),Bo false (Bo b l)=Bo b l:=by
  intro b l;induction l generalizing b with
  |nil=>cases b <;> rfl
  |cons c r ih=>
   cases b with
   |true=>
    simp only [Bo];split
    ·exact ih false
    ·exact ih true
   |false=>
    simp only [Bo];split
    ·exact ih false
    ·rename_i h1
     split
     ·exact ih true
     ·rename_i h2
      simp only [Bo,h1,h2,zt,if_false]
 exact go false l
def AFB (n f:Nat)(acc:List Tok):Bs→LexA
 |[]=>.toks (acc++[⟨6,n,[],0⟩])
 |c::r=>match EE (n - (r.length+1)) (c::r) with
   | .bad e=>.bad ⟨e,(n - (r.length+1):Nat)⟩
   | .tok t r'=>Dh n f (acc++[t]) r'
theorem QV (n f:Nat)(acc:List Tok)(s:Bs):Dh n (f+1) acc s=AFB n f acc (Bo false s):=by
 rw [Dh];unfold AFB;cases Bo false s <;> rfl
def AAX (ω:Om)(G:Imm):Prop:=∀(K:Value→M) (I:Imm) (L:LH),Ext G I→(∀I' v,Ext I I'→StL I' v wordsL→K v I' L)→CT ω 19 #[] K I L
section
variable {ω:Om}
theorem AJa {I:Imm}{L:LH}{K:Value→M}(t:Tok)(hk:∀I' a,Ext I I'→TL I' (.slice a 1 1) [t]→Gh (K (.slice a 1 1)) I' L):
  AU 93 4 #[.int .i64 0,.int .i64 0,.string ⟨#[]⟩,.int .i64 0] 1 [(0,.agg #[.int .i64 t.kind,.int .i64 t.at',.string ⟨t.text.toArray⟩,.int .i64 t.num])] (gh K) I L:=
 EQ (R:=TokV) [t] [[.int .i64 t.kind,.int .i64 t.at',.string ⟨t.text.toArray⟩,.int .i64 t.num]] rfl rfl rfl zy (by simp [TokV]) (λhI h=>TokV.mono h) hk
theorem Jd {G:Imm}(hW:AAX ω G):WC ω G:=by
 intro s K I L hG hs hok hbad;refine AUL ?_;unfold ASM;refine AQ (λb1=>?_);refine call (hW _ _ _ hG (λI1 w hI1 hw=>?_));obtain ⟨aw,kw,rfl⟩:=zAF hw;try refine zqe ?_
 refine AQ (λb=>?_);have e0:Obj.cells #[.string ⟨s.toArray⟩,.int .i64 0,.slice aw wordsL.length kw] 145 (0,0)=LBo s 0 (.slice aw wordsL.length kw):=rfl;rw [e0];refine call (TU (s:=s) (a:=0) (w:=.slice aw wordsL.length kw) (zak _) hs (λa0 _ h0 hd0=>?_));refine loop (λm st I2 Lx=>∃(a:Nat) (X:LH) (v:Value) (cells:List Value) (acc:List Tok) (f:Nat),a+m=s.length∧Ext I1 I2∧st=(.slice none 0 0,v,())∧Lx=X++((b,LBo s a (.slice aw wordsL.length kw))::(b1,.cells [.int .i64 0,.int .i64 0].toArray 26 (0,0))::L)∧SlO 93 4 X v cells acc.length∧Recs (TokV I2) 4 acc cells∧(∀t∈acc,UN t)∧acc.length≤a∧s.length - a≤f∧Bo false (s.drop a)=s.drop a∧Vf s=AFB s.length f acc (s.drop a)) (s.length - a0)
  ⟨a0,[],_,[],[],s.length,by omega,zAC _,rfl,rfl,SlO.none _ _,rfl,(λt h=>by cases h),by simp,by omega,by rw [hd0,TF],by rw [hd0];exact QV s.length s.length [] s⟩ ?_
 rintro m st I2 Lx ⟨a,X,v,cells,acc,f,hm,hI2,rfl,rfl,hX,hR,hTk,hal,hf,hsk,hlx⟩;obtain ⟨av,kv,rfl⟩:=hX.form;unfold AFs;try refine zqe ?_
 refine rdb ?_;try refine zqe ?_
 refine AB (λhb=>?_) (λhb=>?_)
 ·have ha:a < s.length:=by
   have:=of_decide_eq_true hb;omega
  obtain ⟨c,hc,hd⟩:=Ff ha;have hla:s.length - ((s.drop (a+1)).length+1)=a:=by rw [zar];omega
  have hlx:Vf s=match EE a (s.drop a) with
    | .bad e=>.bad ⟨e,(a:Nat)⟩
    | .tok t r'=>Dh s.length f (acc++[t]) r':=by
   rw [hlx,hd];simp only [AFB,hla]
  refine call (ADq (s:=s) (a:=a) (w:=.slice aw wordsL.length kw) ha hs (zAJ hw hI2) ⟨λt r ht I3 a' hI3 h1 h2 hdr=>?_,λe he=>⟨FN he,λI3 a' k x n hI3=>?_⟩⟩)
  ·rw [ht] at hlx;simp only at hlx
   repeat' (first|refine zqa ?_|refine zqh (λ_=>?_)|refine zqr ?_|refine zqb ?_|refine zqi ?_ ?_|refine zqc ?_|refine zqg (λ_=>?_) (λ_=>?_)|(simp only [SSd,Nat.reduceAdd,GU]))
   refine AJa t (λI4 a4 hI4 hw4=>zAA ?_);obtain ⟨c4,s4,r4⟩:=RL.toI zx hw4;refine Dx (X:=X) rfl hX s4.news (r4.one_cells λx c h=>by rw [show c=_ from h];exact AY rfl) zL zL (λX5 w5 hX5=>?_);have e5:acc.length+[t].length=(acc++[t]).length:=by simp
   rw [e5] at hX5;have hR5:=zAS (zAU (R':=TokV I4) (λ_ _ h=>h) hR) r4;refine call (TU (s:=s) (a:=a') (w:=.slice aw wordsL.length kw) h2 hs (λa6 h6 h7 hd6=>?_));obtain ⟨f,rfl⟩:∃q,f=q+1:=⟨f - 1,by omega⟩;rw [←hdr,QV,←hd6] at hlx;refine zAE (X5++((b,LBo s a6 (.slice aw wordsL.length kw))::(b1,.cells [.int .i64 0,.int .i64 0].toArray 26 (0,0))::L)) (zAA ⟨s.length - a6,by omega,a6,X5,w5,_,acc++[t],f,by omega,zAB hI2 (zAB hI3 hI4),rfl,rfl,hX5,hR5,?_,by simp;omega,by omega,by rw [hd6,TF],hlx⟩);intro x hx;rcases zal.1 hx with hx|hx
   ·exact hTk x hx
   ·rw [zX.1 hx];exact QF ht
  ·rw [he] at hlx;have hne:=FN he;repeat' (first|refine zqa ?_|refine zqh (λ_=>?_)|refine zqr ?_|refine zqb ?_|refine zqi ?_ ?_|refine zqc ?_|refine zqg (λ_=>?_) (λ_=>?_)|(simp only [SSd,Nat.reduceAdd,GU]))
   ·rename_i hz
    have hz:=hz;exact zAE L (zAA (hbad _ hlx hne I3 none 0 0 (zAB hI1 (zAB hI2 hI3))))
   ·rename_i hz
    exact absurd (by simpa using hz) hne
 ·have ha:¬a < s.length:=by
   have:=of_decide_eq_false hb;omega
  have hdn:s.drop a=[]:=zaa zo;rw [hdn] at hlx;unfold AFr;repeat' (first|refine zqa ?_|refine zqh (λ_=>?_)|refine zqr ?_|refine zqb ?_|refine zqi ?_ ?_|refine zqc ?_|refine zqg (λ_=>?_) (λ_=>?_)|refine zqe ?_|fail)
  refine AJa (⟨6,s.length,[],0⟩:Tok) (λI4 a4 hI4 hw4=>zAA ?_);obtain ⟨c4,s4,r4⟩:=RL.toI zx hw4;refine Dx (X:=X) rfl hX s4.news (r4.one_cells λx c h=>by rw [show c=_ from h];exact AY rfl) zL zL (λX5 w5 hX5=>?_);have e5:acc.length+[(⟨6,s.length,[],0⟩:Tok)].length=(acc++[(⟨6,s.length,[],0⟩:Tok)]).length:=by simp
  rw [e5] at hX5;have hR5:=zAS (zAU (R':=TokV I4) (λ_ _ h=>h) hR) r4;obtain ⟨a5,k5,rfl⟩:=hX5.form;repeat' (first|refine zqa ?_|refine zqh (λ_=>?_)|refine zqr ?_|refine zqb ?_|refine zqi ?_ ?_|refine zqc ?_|refine zqg (λ_=>?_) (λ_=>?_)|refine zqe ?_|fail)
  refine zAE (X5++L) ?_;refine RL.ofO (R:=TokV) (λ{I I' x c} h hI=>h) hX5 hR5 (λI6 hI6 hw6=>zAA ?_);exact hok _ hlx (Toks.snoc hTk rfl) zu I6 _ (zAB hI1 (zAB hI2 (zAB hI4 hI6))) hw6
end
end Go.Proofs.YtkifgfanjcfedaaGreatDoor
namespace Go.Proofs
open Go.Shelf
def Tryz.lay173_ren:Go.Shelf.Ren:=⟨λ|173=>212|246=>223|283=>235|284=>236|285=>237|286=>238|129=>245|317=>244|318=>246|319=>247|320=>248|337=>256|338=>257|n=>n,λ|2=>2|3=>3|9=>9|4=>4|171=>267|0=>0|53=>268|37=>71|5=>5|173=>271|212=>275|51=>173|20=>20|213=>276|46=>252|232=>282|233=>283|n=>n,λ|17=>5|18=>6|19=>7|n=>n⟩
theorem Tryz.lay173:Go.Proofs.LaysM.n173 Tryz.prog Tryz.lay173_ren:={
 mixed:=by kernel_rfl
 f129:=Tryz.func245.trans (congrArg some (by kernel_rfl))
 f173:=Tryz.func212.trans (congrArg some (by kernel_rfl))
 f246:=Tryz.func223.trans (congrArg some (by kernel_rfl))
 f283:=Tryz.func235.trans (congrArg some (by kernel_rfl))
 f284:=Tryz.func236.trans (congrArg some (by kernel_rfl))
 f285:=Tryz.func237.trans (congrArg some (by kernel_rfl))
 f286:=Tryz.func238.trans (congrArg some (by kernel_rfl))
 f317:=Tryz.func244.trans (congrArg some (by kernel_rfl))
 f318:=Tryz.func246.trans (congrArg some (by kernel_rfl))
 f319:=Tryz.func247.trans (congrArg some (by kernel_rfl))
 f320:=Tryz.func248.trans (congrArg some (by kernel_rfl))
 f337:=Tryz.func256.trans (congrArg some (by kernel_rfl))
 f338:=Tryz.func257.trans (congrArg some (by kernel_rfl))
 t0:=Tryz.underlying0
 a0:=Tryz.isAgg0
 z0:=Tryz.sizeOf0
 v0:=Tryz.zeroValue0
 t2:=Tryz.underlying2
 a2:=Tryz.isAgg2
 z2:=Tryz.sizeOf2
 v2:=Tryz.zeroValue2
 t3:=Tryz.underlying3
 a3:=Tryz.isAgg3
 z3:=Tryz.sizeOf3
 v3:=Tryz.zeroValue3
 t4:=Tryz.underlying4
 a4:=Tryz.isAgg4
 z4:=Tryz.sizeOf4
 v4:=Tryz.zeroValue4
 t5:=Tryz.underlying5
 a5:=Tryz.isAgg5
 z5:=Tryz.sizeOf5
 v5:=Tryz.zeroValue5
 t9:=Tryz.underlying9
 a9:=Tryz.isAgg9
 z9:=Tryz.sizeOf9
 v9:=Tryz.zeroValue9
 t20:=Tryz.underlying20
 a20:=Tryz.isAgg20
 z20:=Tryz.sizeOf20
 v20:=Tryz.zeroValue20
 t37:=Tryz.underlying71
 a37:=Tryz.isAgg71
 z37:=Tryz.sizeOf71
 v37:=Tryz.zeroValue71
 t46:=Tryz.underlying252
 a46:=Tryz.isAgg252
 z46:=Tryz.sizeOf252
 v46:=Tryz.zeroValue252
 t51:=Tryz.underlying173
 a51:=Tryz.isAgg173
 z51:=Tryz.sizeOf173
 v51:=Tryz.zeroValue173
 t53:=Tryz.underlying268
 a53:=Tryz.isAgg268
 z53:=Tryz.sizeOf268
 v53:=Tryz.zeroValue268
 t171:=Tryz.underlying267
 a171:=Tryz.isAgg267
 z171:=Tryz.sizeOf267
 v171:=Tryz.zeroValue267
 t173:=Tryz.underlying271
 a173:=Tryz.isAgg271
 z173:=Tryz.sizeOf271
 v173:=Tryz.zeroValue271
 t212:=Tryz.underlying275
 a212:=Tryz.isAgg275
 z212:=Tryz.sizeOf275
 v212:=Tryz.zeroValue275
 t213:=Tryz.underlying276
 a213:=Tryz.isAgg276
 z213:=Tryz.sizeOf276
 t232:=Tryz.underlying282
 a232:=Tryz.isAgg282
 z232:=Tryz.sizeOf282
 v232:=Tryz.zeroValue282
 t233:=Tryz.underlying283
 a233:=Tryz.isAgg283
 z233:=Tryz.sizeOf283
 v233:=Tryz.zeroValue283
 g17:=by kernel_rfl
 g18:=by kernel_rfl
 g19:=by kernel_rfl
 i0:=by kernel_rfl
 i2:=by kernel_rfl
 i3:=by kernel_rfl
 i4:=by kernel_rfl
 i5:=by kernel_rfl
 i9:=by kernel_rfl
 i20:=by kernel_rfl
 i37:=by kernel_rfl
 i46:=by kernel_rfl
 i51:=by kernel_rfl
 i53:=by kernel_rfl
 i171:=by kernel_rfl
 i173:=by kernel_rfl
 i212:=by kernel_rfl
 i232:=by kernel_rfl
 i233:=by kernel_rfl
 m17:=by kernel_rfl
 m18:=by kernel_rfl
 m19:=by kernel_rfl}
def Tryz.lay171_ren:Go.Shelf.Ren:=⟨λ|171=>171|243=>208|246=>223|283=>235|284=>236|285=>237|286=>238|129=>245|317=>244|318=>246|319=>247|320=>248|337=>256|338=>257|n=>n,λ|3=>3|9=>9|2=>2|4=>4|171=>267|0=>0|53=>268|37=>71|5=>5|173=>271|212=>275|51=>173|20=>20|213=>276|46=>252|232=>282|233=>283|n=>n,λ|17=>5|18=>6|19=>7|n=>n⟩
theorem Tryz.lay171:Go.Proofs.LaysM.n171 Tryz.prog Tryz.lay171_ren:={
 mixed:=by kernel_rfl
 f129:=Tryz.func245.trans (congrArg some (by kernel_rfl))
 f171:=Tryz.func171.trans (congrArg some (by kernel_rfl))
 f243:=Tryz.func208.trans (congrArg some (by kernel_rfl))
 f246:=Tryz.func223.trans (congrArg some (by kernel_rfl))
 f283:=Tryz.func235.trans (congrArg some (by kernel_rfl))
 f284:=Tryz.func236.trans (congrArg some (by kernel_rfl))
 f285:=Tryz.func237.trans (congrArg some (by kernel_rfl))
 f286:=Tryz.func238.trans (congrArg some (by kernel_rfl))
 f317:=Tryz.func244.trans (congrArg some (by kernel_rfl))
 f318:=Tryz.func246.trans (congrArg some (by kernel_rfl))
 f319:=Tryz.func247.trans (congrArg some (by kernel_rfl))
 f320:=Tryz.func248.trans (congrArg some (by kernel_rfl))
 f337:=Tryz.func256.trans (congrArg some (by kernel_rfl))
 f338:=Tryz.func257.trans (congrArg some (by kernel_rfl))
 t0:=Tryz.underlying0
 a0:=Tryz.isAgg0
 z0:=Tryz.sizeOf0
 v0:=Tryz.zeroValue0
 t2:=Tryz.underlying2
 a2:=Tryz.isAgg2
 z2:=Tryz.sizeOf2
 v2:=Tryz.zeroValue2
 t3:=Tryz.underlying3
 a3:=Tryz.isAgg3
 z3:=Tryz.sizeOf3
 v3:=Tryz.zeroValue3
 t4:=Tryz.underlying4
 a4:=Tryz.isAgg4
 z4:=Tryz.sizeOf4
 v4:=Tryz.zeroValue4
 t5:=Tryz.underlying5
 a5:=Tryz.isAgg5
 z5:=Tryz.sizeOf5
 v5:=Tryz.zeroValue5
 t9:=Tryz.underlying9
 a9:=Tryz.isAgg9
 z9:=Tryz.sizeOf9
 v9:=Tryz.zeroValue9
 t20:=Tryz.underlying20
 a20:=Tryz.isAgg20
 z20:=Tryz.sizeOf20
 v20:=Tryz.zeroValue20
 t37:=Tryz.underlying71
 a37:=Tryz.isAgg71
 z37:=Tryz.sizeOf71
 v37:=Tryz.zeroValue71
 t46:=Tryz.underlying252
 a46:=Tryz.isAgg252
 z46:=Tryz.sizeOf252
 v46:=Tryz.zeroValue252
 t51:=Tryz.underlying173
 a51:=Tryz.isAgg173
 z51:=Tryz.sizeOf173
 v51:=Tryz.zeroValue173
 t53:=Tryz.underlying268
 a53:=Tryz.isAgg268
 z53:=Tryz.sizeOf268
 v53:=Tryz.zeroValue268
 t171:=Tryz.underlying267
 a171:=Tryz.isAgg267
 z171:=Tryz.sizeOf267
 v171:=Tryz.zeroValue267
 t173:=Tryz.underlying271
 a173:=Tryz.isAgg271
 z173:=Tryz.sizeOf271
 v173:=Tryz.zeroValue271
 t212:=Tryz.underlying275
 a212:=Tryz.isAgg275
 z212:=Tryz.sizeOf275
 v212:=Tryz.zeroValue275
 t213:=Tryz.underlying276
 a213:=Tryz.isAgg276
 z213:=Tryz.sizeOf276
 t232:=Tryz.underlying282
 a232:=Tryz.isAgg282
 z232:=Tryz.sizeOf282
 v232:=Tryz.zeroValue282
 t233:=Tryz.underlying283
 a233:=Tryz.isAgg283
 z233:=Tryz.sizeOf283
 v233:=Tryz.zeroValue283
 g17:=by kernel_rfl
 g18:=by kernel_rfl
 g19:=by kernel_rfl
 i0:=by kernel_rfl
 i2:=by kernel_rfl
 i3:=by kernel_rfl
 i4:=by kernel_rfl
 i5:=by kernel_rfl
 i9:=by kernel_rfl
 i20:=by kernel_rfl
 i37:=by kernel_rfl
 i46:=by kernel_rfl
 i51:=by kernel_rfl
 i53:=by kernel_rfl
 i171:=by kernel_rfl
 i173:=by kernel_rfl
 i212:=by kernel_rfl
 i232:=by kernel_rfl
 i233:=by kernel_rfl
 m17:=by kernel_rfl
 m18:=by kernel_rfl
 m19:=by kernel_rfl}
end Go.Proofs
namespace Go.Proofs.YtkifgfanjcfedaaGreatDoor
open Go.SL
def FY (G : Imm) : Prop := ∃ g T fr, Tryz.prog.globalNamed "internal/strconv.uint64pow10" = some g ∧ G g = some (.cells (Lib.pow10Tab.map λz => Value.int .u64 z).toArray T fr)
theorem Rk:∀(f n:Nat) (acc:Bs),n < f→AIa f n acc=Lib.decDigits n++acc
 |0,n,acc,h=>by omega
 |f+1,n,acc,h=>by
  rw [AIa,Lib.decDigits];split
  ·rfl
  ·rw [Rk f (n / 10) _ zo,zi];rfl
theorem UE (n:Int):Rl true n=Lib.itoa n:=by
 unfold Rl Lib.itoa;split
 ·simp only [if_true];rw [Rk _ _ _ zo,zao]
 ·rw [Rk _ _ _ zo,zao]
section
variable {ω:Om}{I:Imm}{L:LH}{K:Value→M}
theorem St.grows {w:World}{k:Nat}{os:Array Obj}(hs:St ω w I L):St ω (Sort.grow (w.drewN k) os) I L:=by
 have hd:St ω (w.drewN k) I L:=hs.drew (zbt _ _);refine ⟨λb o hb=>?_,λb o hb=>?_,hd.nodup,hd.apart,hd.tape,hd.os,hd.out,hd.dr⟩
 ·have:=hd.imm b o hb;show ((w.drewN k).heap++os)[b]? =some o;rw [zaL (zB.1 this).1];exact this
 ·have:=hd.own b o hb;show ((w.drewN k).heap++os)[b]? =some o;rw [zaL (zB.1 this).1];exact this
theorem ACM {G : Imm}{w : World}(hG : FY G)(hI : Ext G I)(hs : St ω w I L) : Lib.TabIs Tryz.prog w "internal/strconv.uint64pow10" .u64 Lib.pow10Tab := by
 obtain ⟨g,T,fr,h1,h2⟩:=hG;unfold Lib.TabIs World.var?;rw [h1];have:=hs.imm g _ (hI g _ h2);simp only [zbs,this]
theorem RQ {G:Imm}(hG:FY G)(hI:Ext G I)(n:Int)(h0: -9223372036854775808≤n)(h1:n≤9223372036854775807)(hk:K (.string ⟨(Rl true n).toArray⟩) I L):CT ω 212 #[.int .i64 n,.int .i64 10] K I L:=λw hs=>by
 have h:=Go.Proofs.Any.strconv_FormatInt_10 Go.Proofs.Tryz.lay173 n h0 h1 w (ACM hG hI hs);refine Calls.mono h ?_;rintro e w' ⟨rfl,k,os,rfl⟩;rw [UE] at hk;exact ⟨_,I,L,rfl,St.grows hs,hk⟩
theorem Ti {G:Imm}(hG:FY G)(hI:Ext G I)(n:Int)(h0: -9223372036854775808≤n)(h1:n≤9223372036854775807)(hk:K (.string ⟨(Rl true n).toArray⟩) I L):CT ω 171 #[.int .i64 n] K I L:=λw hs=>by
 have h:=Go.Proofs.Any.strconv_Itoa Go.Proofs.Tryz.lay171 n h0 h1 w (ACM hG hI hs);refine Calls.mono h ?_;rintro e w' ⟨rfl,k,os,rfl⟩;rw [UE] at hk;exact ⟨_,I,L,rfl,St.grows hs,hk⟩
end
def okc (c:UInt8):Bool:=(Bq c||BI c)&& !(65≤c&&c≤90)
theorem VZ (c:UInt8):okc c=((Bq c||BI c)&&(decide ((c.toNat:Int) < 65)||decide ((90:Int) < c.toNat))):=by
 have:=GY (p:=λc=>okc c==((Bq c||BI c)&&(decide ((c.toNat:Int) < 65)||decide ((90:Int) < c.toNat)))) zq c;exact eq_of_beq this
theorem ADf (s:Bs):NG s=((!s.isEmpty&&(!s.head?.any BI&& !wordsL.contains s))&&s.all okc):=by
 unfold NG okc;simp only [Bool.and_assoc]
theorem SG {p:UInt8→Bool}{s:Bs}{i:Nat}(h:i < s.length):(s.take (i+1)).all p=((s.take i).all p&&p s[i]):=by
 rw [zl h,List.all_append];simp
theorem ZP {ω:Om}{I:Imm}{L:LH}{K:Value→M}{s:Bs}{pl:Bool}{p0:Value}(hs:s.length≤1000000000)(hk:IE ω p0 (.string ⟨s.toArray⟩) (.bool (pl&&s.all okc)) (λv=>Gh (K v)) I L):
  Ac ((.bool pl,.int .i64 0,()):Value×Value×Unit) (λst Kn=>VI ω p0 (.string ⟨s.toArray⟩) (.int .i64 s.length) st.1 st.2.1 Kn (λv=>Gh (K v))) I L:=by
 refine loop (λq st I' L'=>∃i:Nat,i+q=s.length∧st=(Value.bool (pl&&(s.take i).all okc),Value.int .i64 (i:Nat),())∧I'=I∧L'=L) s.length ⟨0,by omega,by simp,rfl,rfl⟩ ?_;rintro q st I' L' ⟨i,hq,rfl,rfl,rfl⟩;unfold VI;try refine zqe ?_
 refine AB (λhb=>?_) (λhb=>?_)
 ·have hb:i < s.length:=by
   have:=of_decide_eq_true hb;omega
  have hc:s[i]? =some s[i]:=zan hb;have hat:=SG (p:=okc) hb;rw [VZ] at hat;generalize s[i]=c at hc hat;generalize (s.take i).all okc=tk at hat ⊢;repeat' (first|refine zqa ?_|refine zqh (λ_=>?_)|(with_reducible refine call ?_;refine Ez c ?_)|(with_reducible refine call ?_;refine Et c ?_)|refine zqr ?_|refine zqb ?_|refine zqi ?_ ?_|refine zqc ?_|refine zqg (λ_=>?_) (λ_=>?_)|(simp only [SSd,Nat.reduceAdd,ixS s hc,wrap_i64 ((i:Int)+1) zo]))
  all_goals (refine zAA ⟨q - 1,by omega,i+1,by omega,?_,rfl,rfl⟩;rw [hat];clear hk hat;simp_all;try omega)
 ·have hb:¬i < s.length:=by
   have:=of_decide_eq_false hb;omega
  rw [zg zo];exact hk
theorem ZO {ω:Om}{I:Imm}{L:LH}{K:Value→M}{s:Bs}{pl:Bool}{p0:Value}(hs:s.length≤1000000000)(hk:IE ω p0 (.string ⟨s.toArray⟩) (.bool (pl&&s.all okc)) (λv=>Gh (K v)) I L):
  Ac ((.bool pl,.int .i64 0,()):Value×Value×Unit) (λst Kn=>VH ω p0 (.string ⟨s.toArray⟩) (.int .i64 s.length) st.1 st.2.1 Kn (λv=>Gh (K v))) I L:=by
 refine loop (λq st I' L'=>∃i:Nat,i+q=s.length∧st=(Value.bool (pl&&(s.take i).all okc),Value.int .i64 (i:Nat),())∧I'=I∧L'=L) s.length ⟨0,by omega,by simp,rfl,rfl⟩ ?_;rintro q st I' L' ⟨i,hq,rfl,rfl,rfl⟩;unfold VH;try refine zqe ?_
 refine AB (λhb=>?_) (λhb=>?_)
 ·have hb:i < s.length:=by
   have:=of_decide_eq_true hb;omega
  have hc:s[i]? =some s[i]:=zan hb;have hat:=SG (p:=okc) hb;rw [VZ] at hat;generalize s[i]=c at hc hat;generalize (s.take i).all okc=tk at hat ⊢;repeat' (first|refine zqa ?_|refine zqh (λ_=>?_)|(with_reducible refine call ?_;refine Ez c ?_)|(with_reducible refine call ?_;refine Et c ?_)|refine zqr ?_|refine zqb ?_|refine zqi ?_ ?_|refine zqc ?_|refine zqg (λ_=>?_) (λ_=>?_)|(simp only [SSd,Nat.reduceAdd,ixS s hc,wrap_i64 ((i:Int)+1) zo]))
  all_goals (refine zAA ⟨q - 1,by omega,i+1,by omega,?_,rfl,rfl⟩;rw [hat];clear hk hat;simp_all;try omega)
 ·have hb:¬i < s.length:=by
   have:=of_decide_eq_false hb;omega
  rw [zg zo];exact hk
theorem ZN {ω:Om}{I:Imm}{L:LH}{K:Value→M}{s:Bs}{pl:Bool}{p0:Value}(hs:s.length≤1000000000)(hk:IE ω p0 (.string ⟨s.toArray⟩) (.bool (pl&&s.all okc)) (λv=>Gh (K v)) I L):
  Ac ((.bool pl,.int .i64 0,()):Value×Value×Unit) (λst Kn=>VG ω p0 (.string ⟨s.toArray⟩) (.int .i64 s.length) st.1 st.2.1 Kn (λv=>Gh (K v))) I L:=by
 refine loop (λq st I' L'=>∃i:Nat,i+q=s.length∧st=(Value.bool (pl&&(s.take i).all okc),Value.int .i64 (i:Nat),())∧I'=I∧L'=L) s.length ⟨0,by omega,by simp,rfl,rfl⟩ ?_;rintro q st I' L' ⟨i,hq,rfl,rfl,rfl⟩;unfold VG;try refine zqe ?_
 refine AB (λhb=>?_) (λhb=>?_)
 ·have hb:i < s.length:=by
   have:=of_decide_eq_true hb;omega
  have hc:s[i]? =some s[i]:=zan hb;have hat:=SG (p:=okc) hb;rw [VZ] at hat;generalize s[i]=c at hc hat;generalize (s.take i).all okc=tk at hat ⊢;repeat' (first|refine zqa ?_|refine zqh (λ_=>?_)|(with_reducible refine call ?_;refine Ez c ?_)|(with_reducible refine call ?_;refine Et c ?_)|refine zqr ?_|refine zqb ?_|refine zqi ?_ ?_|refine zqc ?_|refine zqg (λ_=>?_) (λ_=>?_)|(simp only [SSd,Nat.reduceAdd,ixS s hc,wrap_i64 ((i:Int)+1) zo]))
  all_goals (refine zAA ⟨q - 1,by omega,i+1,by omega,?_,rfl,rfl⟩;rw [hat];clear hk hat;simp_all;try omega)
 ·have hb:¬i < s.length:=by
   have:=of_decide_eq_false hb;omega
  rw [zg zo];exact hk
section
variable {ω:Om}{I:Imm}{L F:LH}{K:Value→M}{b:Nat}{w:Value}{X:LH}{l:Bs}
theorem AHx (s:Bs):s.length≤(nameB s).length:=by
 unfold nameB;split
 ·exact zW _
 ·show s.length≤(LV 34 s).length;have:=Vw 34 s;have h:LV 34 s=[34]++(EH 34 s++[34]):=rfl;rw [h];simp only [zn];omega
theorem Bh [hs:SplitL X L F](hW:WrS b w X l)(hw:StL I w wordsL)(s:Bs)(hn:(l++nameB s).length≤1000000000)(hk:∀I' X',Ext I I'→WrS b w X' (l++nameB s)→K (.tuple #[]) I' (X'++F)):
  CT ω 114 #[AL b,.string ⟨s.toArray⟩] K I L:=by
 have hsl:s.length≤1000000000:=by have:=AHx s;rw [zn] at hn;omega
 refine zAN X ?_;refine AQx ?_;unfold AMx;have fin:∀pl:Bool,(pl&&s.all okc)=NG s→IE ω (AL b) (.string ⟨s.toArray⟩) (.bool (pl&&s.all okc)) (λv=>Gh (K v)) I (X++F):=by
  intro pl hpl;rw [hpl];unfold IE;unfold nameB at hn hk;cases hp:NG s with
  |true=>
   rw [hp] at hn hk;try refine zqe ?_
   refine Bd hW (by simpa using hn) (λI' X' hI' hW'=>zAA (hk I' X' hI' (by simpa using hW')))
  |false=>
   rw [hp] at hn hk;try refine zqe ?_
   refine call (Qq hW s 34 (by simpa using hn) (λI' X' hI' hW'=>zAA (hk I' X' hI' (by simpa using hW'))))
 have hpe:=ADf s;cases s with
 |nil=>
  have e0:((([]:Bs)==[])=true):=rfl;simp only [sNe,VS,e0,zQ,SSd,Nat.reduceAdd];exact ZN hsl (fin false (by rw [hpe];rfl))
 |cons c r=>
  have e0:((c::r)==([]:Bs))=false:=rfl;have hc0:(c::r)[0]? =some c:=rfl;simp only [sNe,VS,e0,zG,show (.int .i64 0:Value)= .int .i64 ((0:Nat):Int) from rfl,ixS (c::r) hc0,SSd,Nat.reduceAdd];refine call (Et c ?_);simp only [zbo,List.head?_cons,Option.any_some,zG,Bool.true_and] at hpe;cases hd:BI c with
  |true=>
   rw [hd] at hpe;simp only [SSd,Nat.reduceAdd,VS];exact ZO hsl (fin false (by rw [hpe];rfl))
  |false=>
   rw [hd] at hpe;obtain ⟨p,v,X0,hp,hX,rfl⟩:=hW;simp only [zi,zai,zat,SSd,Nat.reduceAdd] at fin ⊢;refine rdb ?_;refine call (LD hw zx (c::r) ?_);simp only [SSd,Nat.reduceAdd,VS];exact ZP hsl (fin _ (by rw [hpe];rfl))
def AFO (k:Int):Option Value:=(Gx k).map λx=>.agg #[.string ⟨x.1.toArray⟩,.int .i64 x.2]
theorem AJu:EZ (EZ (EZ (EZ (EZ (EZ (EZ (EZ (EZ (EZ (EZ (EZ (EZ (EZ (EZ ((λ_=>none)) 22 (some (.agg #[.string ⟨[111,114].toArray⟩,.int .i64 1]))) 21 (some (.agg #[.string ⟨[97,110,100].toArray⟩,.int .i64 2]))) 23 (some (.agg #[.string ⟨[108,105,107,101].toArray⟩,.int .i64 4]))) 15 (some (.agg #[.string ⟨[61].toArray⟩,.int .i64 4]))) 16 (some (.agg #[.string ⟨[60,62].toArray⟩,.int .i64 4]))) 17 (some (.agg #[.string ⟨[60].toArray⟩,.int .i64 4]))) 18 (some (.agg #[.string ⟨[60,61].toArray⟩,.int .i64 4]))) 19 (some (.agg #[.string ⟨[62].toArray⟩,.int .i64 4]))) 20 (some (.agg #[.string ⟨[62,61].toArray⟩,.int .i64 4]))) 9 (some (.agg #[.string ⟨[43].toArray⟩,.int .i64 5]))) 10 (some (.agg #[.string ⟨[45].toArray⟩,.int .i64 5]))) 14 (some (.agg #[.string ⟨[124,124].toArray⟩,.int .i64 5]))) 11 (some (.agg #[.string ⟨[42].toArray⟩,.int .i64 6]))) 12 (some (.agg #[.string ⟨[47].toArray⟩,.int .i64 6]))) 13 (some (.agg #[.string ⟨[37].toArray⟩,.int .i64 6]))=AFO:=by
 funext k
 simp only [EZ,AFO,Gx];by_cases h22:k=22
 ·subst h22;rfl
 by_cases h21:k=21
 ·subst h21;rfl
 by_cases h23:k=23
 ·subst h23;rfl
 by_cases h15:k=15
 ·subst h15;rfl
 by_cases h16:k=16
 ·subst h16;rfl
 by_cases h17:k=17
 ·subst h17;rfl
 by_cases h18:k=18
 ·subst h18;rfl
 by_cases h19:k=19
 ·subst h19;rfl
 by_cases h20:k=20
 ·subst h20;rfl
 by_cases h9:k=9
 ·subst h9;rfl
 by_cases h10:k=10
 ·subst h10;rfl
 by_cases h14:k=14
 ·subst h14;rfl
 by_cases h11:k=11
 ·subst h11;rfl
 by_cases h12:k=12
 ·subst h12;rfl
 by_cases h13:k=13
 ·subst h13;rfl
 simp only [h22,h21,h23,h15,h16,h17,h18,h19,h20,h9,h10,h14,h11,h12,h13,if_false];rfl
theorem Dv (s:Bs)(n:Int):Ai Ze #[(0,1),(1,1)] [(0,.string ⟨s.toArray⟩),(1,.int .i64 n)]=some (.agg #[.string ⟨s.toArray⟩,.int .i64 n]):=rfl
theorem GI (hk:∀bm es clock,MapSi es clock AFO→K (.map (some bm)) I ((bm,.map es clock)::L)):CT ω 176 #[] K I L:=by
 refine APv ?_;unfold AMG;refine AHt (λbm=>?_);obtain ⟨es0,c0,e0,p0⟩:=MapSi.empty.put 22 (.agg #[.string ⟨[111,114].toArray⟩,.int .i64 1]);obtain ⟨es1,c1,e1,p1⟩:=p0.put 21 (.agg #[.string ⟨[97,110,100].toArray⟩,.int .i64 2]);obtain ⟨es2,c2,e2,p2⟩:=p1.put 23 (.agg #[.string ⟨[108,105,107,101].toArray⟩,.int .i64 4]);obtain ⟨es3,c3,e3,p3⟩:=p2.put 15 (.agg #[.string ⟨[61].toArray⟩,.int .i64 4]);obtain ⟨es4,c4,e4,p4⟩:=p3.put 16 (.agg #[.string ⟨[60,62].toArray⟩,.int .i64 4]);obtain ⟨es5,c5,e5,p5⟩:=p4.put 17 (.agg #[.string ⟨[60].toArray⟩,.int .i64 4]);obtain ⟨es6,c6,e6,p6⟩:=p5.put 18 (.agg #[.string ⟨[60,61].toArray⟩,.int .i64 4]);obtain ⟨es7,c7,e7,p7⟩:=p6.put 19 (.agg #[.string ⟨[62].toArray⟩,.int .i64 4]);obtain ⟨es8,c8,e8,p8⟩:=p7.put 20 (.agg #[.string ⟨[62,61].toArray⟩,.int .i64 4]);obtain ⟨es9,c9,e9,p9⟩:=p8.put 9 (.agg #[.string ⟨[43].toArray⟩,.int .i64 5]);obtain ⟨es10,c10,e10,p10⟩:=p9.put 10 (.agg #[.string ⟨[45].toArray⟩,.int .i64 5]);obtain ⟨es11,c11,e11,p11⟩:=p10.put 14 (.agg #[.string ⟨[124,124].toArray⟩,.int .i64 5]);obtain ⟨es12,c12,e12,p12⟩:=p11.put 11 (.agg #[.string ⟨[42].toArray⟩,.int .i64 6]);obtain ⟨es13,c13,e13,p13⟩:=p12.put 12 (.agg #[.string ⟨[47].toArray⟩,.int .i64 6]);obtain ⟨es14,c14,e14,p14⟩:=p13.put 13 (.agg #[.string ⟨[37].toArray⟩,.int .i64 6]);rw [AJu] at p14;refine zAA ?_;simp only [Dv,DY];refine FZ (k:=22) MapSi.empty e0 ?_;refine zAA ?_;simp only [Dv,DY];refine FZ (k:=21) p0 e1 ?_;refine zAA ?_;simp only [Dv,DY]
 refine FZ (k:=23) p1 e2 ?_;refine zAA ?_;simp only [Dv,DY];refine FZ (k:=15) p2 e3 ?_;refine zAA ?_;simp only [Dv,DY];refine FZ (k:=16) p3 e4 ?_;refine zAA ?_;simp only [Dv,DY];refine FZ (k:=17) p4 e5 ?_;refine zAA ?_;simp only [Dv,DY];refine FZ (k:=18) p5 e6 ?_;refine zAA ?_;simp only [Dv,DY];refine FZ (k:=19) p6 e7 ?_;refine zAA ?_;simp only [Dv,DY];refine FZ (k:=20) p7 e8 ?_;refine zAA ?_;simp only [Dv,DY];refine FZ (k:=9) p8 e9 ?_;refine zAA ?_;simp only [Dv,DY];refine FZ (k:=10) p9 e10 ?_;refine zAA ?_;simp only [Dv,DY];refine FZ (k:=14) p10 e11 ?_;refine zAA ?_;simp only [Dv,DY];refine FZ (k:=11) p11 e12 ?_;refine zAA ?_;simp only [Dv,DY];refine FZ (k:=12) p12 e13 ?_;refine zAA ?_;simp only [Dv,DY];refine FZ (k:=13) p13 e14 ?_;refine zAA ?_;exact zAA (hk bm _ _ p14)
theorem Gy {k:Int}{es:Array MapEntry}{clock bm:Nat}{K:Value→M}[hin:InL bm L (.map es clock)](h:MapSi es clock AFO)(hy:∀s n,Gx k=some (s,n)→K (.tuple #[.agg #[.string ⟨s.toArray⟩,.int .i64 n],.bool true]) I L)(hn:Gx k=none→K (.tuple #[.agg #[.string (ByteArray.mk #[]),.int .i64 0],.bool false]) I L):
  Rv none (lkR (.int .i64) (.agg #[.string (ByteArray.mk #[]),.int .i64 0]) true (.map (some bm)) (.int .i64 k)) K I L:=by
 refine ASt (k:=k) h ?_;unfold AFO;cases hs:Gx k with
 |none=>exact hn hs
 |some x=>exact hy x.1 x.2 hs
theorem ZU (k : Int) (hk : K (.int .i64 (AKX k)) I L) : CT ω 175 #[.int .i64 k] K I L := by
  refine APw ?_
  unfold AMH
  unfold AKX at hk
  try simp only [SSd, Nat.reduceAdd]
  refine AB (λh => ?_) (λh => ?_)
  · have h : k = 5 := by simpa using h
    rw [if_pos h] at hk; exact zAA hk
  have h5 : k ≠ 5 := by simpa using h
  rw [if_neg h5] at hk
  have rest : ∀ q : Bool, q = decide (k = 6 ∨ k = 7 ∨ k = 24 ∨ k = 25) → KH ω (.int .i64 k) (.int .i64 0) (.int .i64 k) (.bool q) (λv => Gh (K v)) I L := by
    rintro q hq
    unfold KH
    refine AB (λh => ?_) (λh => ?_)
    · rw [h] at hq
      rw [if_pos (of_decide_eq_true hq.symm)] at hk; exact zAA hk
    rw [h] at hq
    rw [if_neg (of_decide_eq_false hq.symm)] at hk
    try simp only [SSd, Nat.reduceAdd]
    refine AB (λh => ?_) (λh => ?_)
    · have h : k = 4 := by simpa using h
      rw [if_pos h] at hk; exact zAA hk
    have h4 : k ≠ 4 := by simpa using h
    rw [if_neg h4] at hk
    refine call (GI (λbm es clock hm => ?_))
    refine Gy hm (λs n hs => ?_) (λhs => ?_)
    · rw [hs] at hk
      try simp only [SSd, Nat.reduceAdd]
      refine AQ (λbs => ?_)
      refine stB rfl rfl (AY rfl) ?_
      try simp only [SSd, Nat.reduceAdd]
      refine rdb ?_
      exact zAE L (zAA hk)
    · rw [hs] at hk
      try simp only [SSd, Nat.reduceAdd]
      refine AQ (λbs => ?_)
      refine stB rfl rfl (AY rfl) ?_
      try simp only [SSd, Nat.reduceAdd]
      exact zAE L (zAA hk)
  refine AB (λh => ?_) (λh => ?_)
  · have h : k = 6 := by simpa using h
    rw [show ((k == 6) = true) by simpa using h]
    exact rest true (by simp [h])
  have h6 : k ≠ 6 := by simpa using h
  try simp only [SSd, Nat.reduceAdd]
  refine AB (λh => ?_) (λh => ?_)
  · have h : k = 7 := by simpa using h
    rw [show ((k == 7) = true) by simpa using h]
    exact rest true (by simp [h])
  have h7 : k ≠ 7 := by simpa using h
  try simp only [SSd, Nat.reduceAdd]
  refine AB (λh => ?_) (λh => ?_)
  · have h : k = 24 := by simpa using h
    rw [show ((k == 24) = true) by simpa using h]
    exact rest true (by simp [h])
  have h24 : k ≠ 24 := by simpa using h
  try simp only [SSd, Nat.reduceAdd]
  refine rest _ ?_
  simp only [h6, h7, h24, false_or]
  cases h25 : (k == 25) with
  | true => have : k = 25 := by simpa using h25
            simp [this]
  | false => have : k ≠ 25 := by simpa using h25
             simp [this]
def okI (n:Int):Prop:= -9223372036854775808≤n∧n≤9223372036854775807
theorem QU {G:Imm}(hG:FY G)(hGI:Ext G I)[hs:SplitL X L F](hW:WrS b w X l)(x:TValue)(hx:okI x.fInt)(hn:(l++ACy true x).length≤1000000000)(hk:∀I' X',Ext I I'→WrS b w X' (l++ACy true x)→K (.tuple #[]) I' (X'++F)):
  CT ω 178 #[AL b,.agg #[.int .i64 x.fType,.bool x.fNull,.int .i64 x.fInt,.string ⟨x.fText.toArray⟩]] K I L:=by
 refine zAN X ?_;refine APt ?_;unfold AME;refine AQ (λbv=>?_);unfold ACy at hn hk;try refine zqe ?_
 refine rdb ?_;refine AB (λh=>?_) (λh=>?_)
 ·rw [if_pos h] at hn hk;refine Bd hW hn (λI' X' hI' hW'=>zAE (X'++F) (zAA (hk I' X' hI' hW')))
 rw [if_neg (by simp [h])] at hn hk;try refine zqe ?_
 refine rdb ?_;try refine zqe ?_
 refine AB (λh=>?_) (λh=>?_)
 ·have h:x.fType=3:=by simpa using h
  rw [if_pos h] at hn hk;try refine zqe ?_
  refine rdb ?_;refine call (Qq hW x.fText 39 hn (λI' X' hI' hW'=>zAE (X'++F) (zAA (hk I' X' hI' hW'))))
 have h:x.fType≠3:=by simpa using h
 rw [if_neg h] at hn hk;try refine zqe ?_
 refine rdb ?_;try refine zqe ?_
 refine AB (λh=>?_) (λh=>?_)
 ·have h:x.fType=2:=by simpa using h
  rw [if_pos h] at hn hk;try refine zqe ?_
  refine rdb ?_;try refine zqe ?_
  refine call ?_;refine APS ?_;unfold ALi;refine call ?_;refine API ?_;unfold ALb;refine AB (λh1=>?_) (λh1=>?_)
  ·have h1:x.fInt=1:=by simpa using h1
   rw [if_pos h1] at hn hk;refine zAA (zAA ?_);refine Bd hW hn (λI' X' hI' hW'=>zAE (X'++F) (zAA (hk I' X' hI' hW')))
  ·have h1:x.fInt≠1:=by simpa using h1
   rw [if_neg h1] at hn hk;refine zAA (zAA ?_);refine Bd hW hn (λI' X' hI' hW'=>zAE (X'++F) (zAA (hk I' X' hI' hW')))
 have h:x.fType≠2:=by simpa using h
 rw [if_neg h] at hn hk;try refine zqe ?_
 refine rdb ?_;refine call (RQ hG hGI _ hx.1 hx.2 ?_);refine Bd hW hn (λI' X' hI' hW'=>zAE (X'++F) (zAA (hk I' X' hI' hW')))
end
def Bl {α:Type}(w:α→Nat)(g:Pr α):Prop:=∀l x r,g l= .ok x r→r.length+w x≤l.length
theorem Au {l:List Tok}{s:Bs}(h:isT l s=true):l.tail.length+1=l.length:=by
 cases l with
 |nil=>simp [isT,hd,default,instInhabitedTok] at h
 |cons t r=>rfl
theorem Hm {l:List Tok}{k:Int}(h:isK l k=true)(hk:k≠0):l.tail.length+1=l.length:=by
 cases l with
 |nil=>simp [isK,hd,default,instInhabitedTok] at h;exact absurd h.symm hk
 |cons t r=>rfl
theorem bind_ok {α β:Type}{x:Res α}{f:α→Pr β}{y:β}{r:List Tok}(h:x.bind f= .ok y r):∃a q,x= .ok a q∧f a q= .ok y r:=by
 cases x with
 |ok a q=>exact ⟨a,q,rfl,h⟩
 |err e=>cases h
theorem Aq {s:Bs}{l r:List Tok}{u:Unit}(h:AP s l= .ok u r):r.length+1=l.length:=by
 unfold AP at h;split at h
 ·rename_i ht
  simp only [Res.ok.injEq,true_and] at h;subst h;exact Au ht
 ·cases h
theorem BK:Bl (λ_=>1) Ar:=by
 intro l x r h;unfold Ar at h;split at h
 ·rename_i ht
  simp only [Res.ok.injEq] at h;obtain ⟨_,rfl⟩:=h;have:=Hm ht zx;show l.tail.length+1≤l.length;omega
 ·cases h
theorem DD:∀(a b:List Ex),AX (a++b)=AX a+AX b
 |[],b=>by simp [AX]
 |x::a,b=>by simp only [zai,AX,DD a b];omega
theorem UK {g:Pr Ex}(hg:Bl Af g):∀(n:Nat) (acc:List Ex) (l:List Tok) (x:List Ex) (r:List Tok),Cm g n acc l= .ok x r→r.length+AX x≤l.length+AX acc
 |0,acc,l,x,r,h=>by simp only [Cm,Res.ok.injEq] at h;obtain ⟨rfl,rfl⟩:=h;omega
 |n+1,acc,l,x,r,h=>by
  simp only [Cm] at h;split at h
  ·rename_i ht
   obtain ⟨a,q,h1,h2⟩:=bind_ok h;have c1:=hg _ _ _ h1;have c2:=UK hg n _ _ _ _ h2;have c3:=Au ht;rw [DD] at c2;simp only [AX] at c2;omega
  ·simp only [Res.ok.injEq] at h;obtain ⟨rfl,rfl⟩:=h;omega
theorem AEY {g:Pr Ex}(hg:Bl Af g)(n:Nat):Bl AX (BL n g):=by
 intro l x r h;obtain ⟨a,q,h1,h2⟩:=bind_ok h;have c1:=hg _ _ _ h1;have c2:=UK hg n _ _ _ _ h2;simp only [AX] at c2;omega
theorem UG {g:Pr Ex}(hg:Bl Af g)(n:Nat):Bl (λx=>AX x+2) (Bc n g):=by
 intro l x r h;obtain ⟨_,q,h1,h2⟩:=bind_ok h;obtain ⟨a,q2,h3,h4⟩:=bind_ok h2;obtain ⟨_,q3,h5,h6⟩:=bind_ok h4;simp only [Res.ok.injEq] at h6;obtain ⟨rfl,rfl⟩:=h6;have c1:=Aq h1;have c2:=AEY hg n _ _ _ h3;have c3:=Aq h5;simp only;omega
theorem UL {g:Pr Ex}(hg:Bl Af g){op:List Tok→Int}(hop:∀l,op l≠0→l.tail.length+1=l.length):∀(n:Nat) (x:Ex) (l:List Tok) (y:Ex) (r:List Tok),Eb g op n x l= .ok y r→r.length+Af y≤l.length+Af x
 |0,x,l,y,r,h=>by simp only [Eb,Res.ok.injEq] at h;obtain ⟨rfl,rfl⟩:=h;omega
 |n+1,x,l,y,r,h=>by
  simp only [Eb] at h;split at h
  ·simp only [Res.ok.injEq] at h;obtain ⟨rfl,rfl⟩:=h;omega
  ·rename_i h0
   obtain ⟨a,q,h1,h2⟩:=bind_ok h;have c1:=hg _ _ _ h1;have c2:=UL hg hop n _ _ _ _ h2;have c3:=hop l h0;simp only [exK,Af,AX] at c2;omega
theorem JQ {g:Pr Ex}(hg:Bl Af g){op:List Tok→Int}(hop:∀l,op l≠0→l.tail.length+1=l.length)(n:Nat):Bl Af (Ci n g op):=by
 intro l x r h;obtain ⟨a,q,h1,h2⟩:=bind_ok h;have c1:=hg _ _ _ h1;have c2:=UL hg hop n _ _ _ _ h2;omega
theorem AON (l:List Tok)(h:KW l≠0):l.tail.length+1=l.length:=by
 unfold KW at h;split at h
 ·exact Au ‹_›
 ·exact absurd rfl h
theorem AKc (l:List Tok)(h:Gi l≠0):l.tail.length+1=l.length:=by
 unfold Gi at h;split at h
 ·exact Au ‹_›
 ·exact absurd rfl h
theorem AII (f:Bs→Option Int)(l:List Tok)(h:IA f l≠0):l.tail.length+1=l.length:=by
 unfold IA at h;split at h
 ·exact Hm ‹_› zx
 ·exact absurd rfl h
theorem AKb (l:List Tok)(h:DJ l≠0):l.tail.length+1=l.length:=by
 unfold DJ at h;repeat' split at h
 all_goals first
  |exact Au ‹_›
  |exact absurd rfl h
theorem XT {l:List Tok}{v:TValue}(h:GR l=some v):l.tail.length+1=l.length:=by
 unfold GR at h;repeat' split at h
 all_goals first
  |exact Hm ‹_› zx
  |exact Au ‹_›
  |cases h
theorem Rw:Bl Af KX:=by
 intro l x r h;unfold KX at h;split at h
 ·rename_i ht
  simp only [Res.ok.injEq] at h;obtain ⟨rfl,rfl⟩:=h;have:=Hm ht zx;simp only [GU,Af,AX];omega
 ·cases h
theorem UH {E:Pr Ex}(hE:Bl Af E)(n:Nat){acc:List Ex}{l:List Tok}{a:List Ex}{r:List Tok}(h:Dl n E acc l= .ok a r):r.length+AX a+2≤l.length+AX acc:=by
 obtain ⟨_,q,h1,h2⟩:=bind_ok h;obtain ⟨x,q2,h3,h4⟩:=bind_ok h2;obtain ⟨_,q3,h5,h6⟩:=bind_ok h4;obtain ⟨y,q4,h7,h8⟩:=bind_ok h6;simp only [Res.ok.injEq] at h8;obtain ⟨rfl,rfl⟩:=h8;have c1:=Aq h1;have c2:=hE _ _ _ h3;have c3:=Aq h5;have c4:=hE _ _ _ h7;rw [DD];simp only [AX];omega
theorem Ru {E:Pr Ex}(hE:Bl Af E)(n:Nat):∀(m:Nat) (acc:List Ex) (l:List Tok) (a:List Ex) (r:List Tok),DV n E m acc l= .ok a r→r.length+AX a≤l.length+AX acc
 |0,acc,l,a,r,h=>by simp only [DV,Res.ok.injEq] at h;obtain ⟨rfl,rfl⟩:=h;omega
 |m+1,acc,l,a,r,h=>by
  simp only [DV] at h;split at h
  ·obtain ⟨x,q,h1,h2⟩:=bind_ok h;have c1:=UH hE n h1;have c2:=Ru hE n m _ _ _ _ h2;omega
  ·simp only [Res.ok.injEq] at h;obtain ⟨rfl,rfl⟩:=h;omega
theorem AEc {E:Pr Ex}(hE:Bl Af E)(n:Nat):Bl Af (FD n E):=by
 intro l x r h;obtain ⟨a,q,h1,h2⟩:=bind_ok h;obtain ⟨a2,q2,h3,h4⟩:=bind_ok h2;obtain ⟨a3,q3,h5,h6⟩:=bind_ok h4;obtain ⟨_,q4,h7,h8⟩:=bind_ok h6;simp only [Res.ok.injEq] at h8;obtain ⟨rfl,rfl⟩:=h8;have c1:=UH hE n h1;have c2:=Ru hE n n _ _ _ _ h3;have c4:=Aq h7;have c3:q3.length+AX a3≤q2.length+AX a2:=by
  split at h5
  ·rename_i ht
   obtain ⟨y,q5,g1,g2⟩:=bind_ok h5;simp only [Res.ok.injEq] at g2;obtain ⟨rfl,rfl⟩:=g2;have d1:=hE _ _ _ g1;have d2:=Au ht;rw [DD];simp only [AX];omega
  ·simp only [Res.ok.injEq] at h5;obtain ⟨rfl,rfl⟩:=h5;omega
 simp only [AX] at c1;simp only [exK,Af];omega
theorem AEd {E:Pr Ex}(hE:Bl Af E)(n:Nat)(s:Bs):Bl Af (DF n E s):=by
 intro l x r h;unfold DF at h;split at h
 ·obtain ⟨a,q,h1,h2⟩:=bind_ok h;simp only [Res.ok.injEq] at h2;obtain ⟨rfl,rfl⟩:=h2;have c1:=UG hE n _ _ _ h1;simp only at c1
  simp only [exK,Af];omega
 obtain ⟨_,q,h1,h2⟩:=bind_ok h;have c1:=Aq h1;split at h2
 ·obtain ⟨a,q2,h3,h4⟩:=bind_ok h2;obtain ⟨_,q3,h5,h6⟩:=bind_ok h4;simp only [Res.ok.injEq] at h6;obtain ⟨rfl,rfl⟩:=h6;have c2:=hE _ _ _ h3;have c3:=Aq h5;simp only [exK,Af,AX];omega
 split at h2
 ·rename_i ht
  simp only [zF] at ht;have c2:=Au ht.2;obtain ⟨_,q3,h5,h6⟩:=bind_ok h2;simp only [Res.ok.injEq] at h6;obtain ⟨rfl,rfl⟩:=h6;have c3:=Aq h5;simp only [exK,Ed,Af,AX];omega
 ·obtain ⟨a,q2,h3,h4⟩:=bind_ok h2;obtain ⟨_,q3,h5,h6⟩:=bind_ok h4;simp only [Res.ok.injEq] at h6;obtain ⟨rfl,rfl⟩:=h6;have c2:=hE _ _ _ h3;have c3:=Aq h5;have c4:(if isT q [100,105,115,116,105,110,99,116] then q.tail else q).length≤q.length:=by split <;> simp
  simp only [Ed,Af,AX];omega
theorem AAI {E U:Pr Ex}(hE:Bl Af E)(hU:Bl Af U)(n:Nat):Bl Af (Fp n E U):=by
 intro l x r h;unfold Fp at h;split at h
 ·rename_i ht
  obtain ⟨a,q,h1,h2⟩:=bind_ok h;simp only [Res.ok.injEq] at h2;obtain ⟨rfl,rfl⟩:=h2;have c1:=hU _ _ _ h1;have c2:=Au ht;simp only [exK,Af,AX];omega
 split at h
 ·rename_i ht
  obtain ⟨a,q,h1,h2⟩:=bind_ok h;obtain ⟨_,q2,h3,h4⟩:=bind_ok h2;simp only [Res.ok.injEq] at h4;obtain ⟨rfl,rfl⟩:=h4;have c1:=hE _ _ _ h1;have c2:=Au ht;have c3:=Aq h3;omega
 split at h
 ·rename_i ht
  have c1:=AEc hE n _ _ _ h;have c2:=Au ht;omega
 split at h
 ·exact Rw _ _ _ h
 split at h
 ·rename_i v hv
  simp only [Res.ok.injEq] at h;obtain ⟨rfl,rfl⟩:=h;have:=XT hv;simp only [GU,Af,AX];omega
 ·obtain ⟨s,q,h1,h2⟩:=bind_ok h;have c1:=BK _ _ _ h1;simp only at c1
  split at h2
  ·have:=AEd hE n _ _ _ _ h2;omega
  split at h2
  ·rename_i ht
   obtain ⟨c,q2,h3,h4⟩:=bind_ok h2;simp only [Res.ok.injEq] at h4;obtain ⟨rfl,rfl⟩:=h4;have c2:=BK _ _ _ h3;have c3:=Au ht;simp only at c2
   simp only [FQ,Af,AX];omega
  ·simp only [Res.ok.injEq] at h2;obtain ⟨rfl,rfl⟩:=h2;simp only [FQ,Af,AX];omega
theorem Nr (b:Bool)(x:Ex):Af (Lh b x)=Af x+if b then 1 else 0:=by
 cases b
 ·simp [Lh]
 ·simp [Lh,exK,Af,AX]
theorem AEZ {E S:Pr Ex}(hE:Bl Af E)(hS:Bl Af S)(n:Nat):Bl Af (II n E S):=by
 intro l x r h;obtain ⟨a,q,h1,h2⟩:=bind_ok h;have c1:=hS _ _ _ h1;simp only at h2
 split at h2
 ·rename_i h0
  obtain ⟨y,q2,h3,h4⟩:=bind_ok h2;simp only [Res.ok.injEq] at h4;obtain ⟨rfl,rfl⟩:=h4;have c2:=hS _ _ _ h3;have c3:=AKb _ h0;simp only [exK,Af,AX];omega
 split at h2
 ·rename_i ht
  have c2:=Au ht;split at h2
  ·rename_i ht2
   have c3:=Au ht2;obtain ⟨_,q2,h3,h4⟩:=bind_ok h2;simp only [Res.ok.injEq] at h4;obtain ⟨rfl,rfl⟩:=h4;have c4:=Aq h3;simp only [exK,Af,AX];omega
  ·obtain ⟨_,q2,h3,h4⟩:=bind_ok h2;simp only [Res.ok.injEq] at h4;obtain ⟨rfl,rfl⟩:=h4;have c4:=Aq h3;simp only [exK,Af,AX];omega
 have cb:(if isT q [110,111,116] then q.tail else q).length+(if isT q [110,111,116] then 1 else 0)=q.length:=by
  cases hn:isT q [110,111,116] with
  |true=>simpa using Au hn
  |false=>simp
 generalize hq:(if isT q [110,111,116] then q.tail else q)=q1 at h2 cb;split at h2
 ·rename_i ht
  have c2:=Au ht;obtain ⟨y,q2,h3,h4⟩:=bind_ok h2;simp only [Res.ok.injEq] at h4;obtain ⟨rfl,rfl⟩:=h4;have c3:=UG hE n _ _ _ h3;simp only at c3
  rw [Nr];simp only [exK,Af,AX];omega
 split at h2
 ·rename_i ht
  have c2:=Au ht;obtain ⟨y,q2,h3,h4⟩:=bind_ok h2;obtain ⟨_,q3,h5,h6⟩:=bind_ok h4;obtain ⟨z,q4,h7,h8⟩:=bind_ok h6;simp only [Res.ok.injEq] at h8;obtain ⟨rfl,rfl⟩:=h8;have c3:=hS _ _ _ h3;have c4:=Aq h5;have c5:=hS _ _ _ h7;rw [Nr];simp only [exK,Af,AX];omega
 split at h2
 ·rename_i ht
  have c2:=Au ht;obtain ⟨y,q2,h3,h4⟩:=bind_ok h2;simp only [Res.ok.injEq] at h4;obtain ⟨rfl,rfl⟩:=h4;have c3:=hS _ _ _ h3;rw [Nr];simp only [exK,Af,AX];omega
 split at h2
 ·cases h2
 ·simp only [Res.ok.injEq] at h2;obtain ⟨rfl,rfl⟩:=h2;omega
theorem AIf {N Q:Pr Ex}(hN:Bl Af N)(hQ:Bl Af Q):Bl Af (RF N Q):=by
 intro l x r h;unfold RF at h;split at h
 ·rename_i ht
  obtain ⟨y,q2,h3,h4⟩:=bind_ok h;simp only [Res.ok.injEq] at h4;obtain ⟨rfl,rfl⟩:=h4;have c1:=Au ht;have c2:=hN _ _ _ h3;simp only [exK,Af,AX];omega
 ·exact hQ _ _ _ h
theorem JO:∀n,Bl Af (eP n)∧Bl Af (nP n)∧Bl Af (uP n)
 |0=>⟨λl x r h=>by simp [eP,Ii] at h,λl x r h=>by simp [nP,Ii] at h,λl x r h=>by simp [uP,Ii] at h⟩
 |n+1=>by
  obtain ⟨hE,hN,hU⟩:=JO n;have u:=AAI hE hU n;have s:=JQ (JQ u (AII IB) n) (AII MH) n;have nn:=AIf hN (AEZ hE s n);exact ⟨JQ (JQ nn AKc n) AON n,nn,u⟩
def pz (x:Ex):Nat:=if x.kind != 0 then Af x else 0
theorem ACJ (x:Ex):pz x≤Af x:=by unfold pz;split <;> omega
theorem pz0:pz ex0=0:=rfl
theorem JC:∀l:List Ex,AX (l.filter λx=>x.kind != 0)=(l.map pz).sum
 |[]=>rfl
 |x::l=>by
  simp only [List.filter_cons,zM,zaK,pz];cases h:(x.kind != 0) with
  |true=>simp only [if_true,AX,JC l]
  |false=>simp only [zt,if_false,JC l];simp
theorem Rx {α:Type}{w:α→Nat}{g:Pr α}(hg:Bl w g):∀(n:Nat) (acc:List α) (l:List Tok) (x:List α) (r:List Tok),Cm g n acc l= .ok x r→r.length+(x.map w).sum≤l.length+(acc.map w).sum
 |0,acc,l,x,r,h=>by simp only [Cm,Res.ok.injEq] at h;obtain ⟨rfl,rfl⟩:=h;omega
 |n+1,acc,l,x,r,h=>by
  simp only [Cm] at h;split at h
  ·rename_i ht
   obtain ⟨a,q,h1,h2⟩:=bind_ok h;have c1:=hg _ _ _ h1;have c2:=Rx hg n _ _ _ _ h2;have c3:=Au ht;simp only [zab,zM,zay,zbb,zaK,zbg] at c2;omega
  ·simp only [Res.ok.injEq] at h;obtain ⟨rfl,rfl⟩:=h;omega
theorem EP {α:Type}{w:α→Nat}{g:Pr α}(hg:Bl w g)(n:Nat):Bl (λx=>(x.map w).sum) (BL n g):=by
 intro l x r h;obtain ⟨a,q,h1,h2⟩:=bind_ok h;have c1:=hg _ _ _ h1;have c2:=Rx hg n _ _ _ _ h2;simp only [zM,zay,zaK,zbg] at c2;simp only;omega
theorem Lm {α:Type}{w:α→Nat}{g:Pr α}(hg:Bl w g)(n:Nat):Bl (λx=>(x.map w).sum) (Bc n g):=by
 intro l x r h;obtain ⟨_,q,h1,h2⟩:=bind_ok h;obtain ⟨a,q2,h3,h4⟩:=bind_ok h2;obtain ⟨_,q3,h5,h6⟩:=bind_ok h4;simp only [Res.ok.injEq] at h6;obtain ⟨rfl,rfl⟩:=h6;have c1:=Aq h1;have c2:=EP hg n _ _ _ h3;have c3:=Aq h5;simp only at c2 ⊢;omega
theorem Ls (n:Nat):Bl pz (eP n):=λl x r h=>by
 have:=(JO n).1 l x r h;have:=ACJ x;omega
theorem Ho (n:Nat):Bl (λx=>0 * x.length) (Bc n Ar):=by
 intro l x r h;have:=Lm (w:=λ_=>0) (λl x r h=>by have:=BK l x r h;simp only at this ⊢;omega) n l x r h;simp only at this ⊢;omega
theorem Hq (n:Nat)(s:Bs):Bl pz (DW n s):=by
 intro l x r h;unfold DW at h;split at h
 ·have c1:=Ls n _ _ _ h;have c2:=Au ‹_›;omega
 ·simp only [Res.ok.injEq] at h;obtain ⟨rfl,rfl⟩:=h;rw [pz0];omega
theorem AEa (n:Nat):Bl (λx=>pz x.fExpr) (Ec n):=by
 intro l x r h;unfold Ec at h;split at h
 ·simp only [Res.ok.injEq] at h;obtain ⟨rfl,rfl⟩:=h;have:=Au ‹_›;simp only [pz0];omega
 split at h
 ·simp only [Res.ok.injEq] at h;obtain ⟨rfl,rfl⟩:=h;simp only [pz0,zaW];omega
 ·obtain ⟨y,q,h1,h2⟩:=bind_ok h;have c1:=Ls n _ _ _ h1;split at h2
  ·obtain ⟨a,q2,h3,h4⟩:=bind_ok h2;simp only [Res.ok.injEq] at h4;obtain ⟨rfl,rfl⟩:=h4;have c2:=BK _ _ _ h3;have c3:=Au ‹_›;simp only at c2 ⊢;omega
  ·simp only [Res.ok.injEq] at h2;obtain ⟨rfl,rfl⟩:=h2;exact c1
theorem AAL (n:Nat):Bl (λx=>pz x.fExpr) (Ef n):=by
 intro l x r h;obtain ⟨y,q,h1,h2⟩:=bind_ok h;have c1:=Ls n _ _ _ h1;split at h2
 ·simp only [Res.ok.injEq] at h2;obtain ⟨rfl,rfl⟩:=h2;have:=Au ‹_›;simp only;omega
 split at h2
 ·simp only [Res.ok.injEq] at h2;obtain ⟨rfl,rfl⟩:=h2;have:=Au ‹_›;simp only;omega
 ·simp only [Res.ok.injEq] at h2;obtain ⟨rfl,rfl⟩:=h2;exact c1
theorem AIe (n:Nat):Bl (λx=>pz x.fExpr) (Nh n):=by
 intro l x r h;obtain ⟨s,q,h1,h2⟩:=bind_ok h;obtain ⟨_,q2,h3,h4⟩:=bind_ok h2;obtain ⟨y,q3,h5,h6⟩:=bind_ok h4;simp only [Res.ok.injEq] at h6;obtain ⟨rfl,rfl⟩:=h6;have c1:=BK _ _ _ h1;have c2:=Aq h3;have c3:=Ls n _ _ _ h5;simp only at c1 ⊢;omega
theorem IP:Bl (λx=>pz x.fOn) CU:=by
 intro l x r h;obtain ⟨s,q,h1,h2⟩:=bind_ok h;have c1:=BK _ _ _ h1;simp only at c1
 split at h2
 ·obtain ⟨a,q2,h3,h4⟩:=bind_ok h2;simp only [Res.ok.injEq] at h4;obtain ⟨rfl,rfl⟩:=h4;have c2:=BK _ _ _ h3;have c3:=Au ‹_›;simp only [pz0] at c2 ⊢;omega
 split at h2
 ·obtain ⟨a,q2,h3,h4⟩:=bind_ok h2;simp only [Res.ok.injEq] at h4;obtain ⟨rfl,rfl⟩:=h4;have c2:=BK _ _ _ h3;simp only [pz0] at c2 ⊢;omega
 ·simp only [Res.ok.injEq] at h2;obtain ⟨rfl,rfl⟩:=h2;simp only [pz0];omega
theorem OB (n:Nat)(b:Bool):Bl (λx=>pz x.fOn) (Hg n b):=by
 intro l x r h;obtain ⟨_,q,h1,h2⟩:=bind_ok h;obtain ⟨s,q2,h3,h4⟩:=bind_ok h2;obtain ⟨_,q3,h5,h6⟩:=bind_ok h4;obtain ⟨y,q4,h7,h8⟩:=bind_ok h6;simp only [Res.ok.injEq] at h8;obtain ⟨rfl,rfl⟩:=h8;have c1:=Aq h1;have c2:=IP _ _ _ h3;have c3:=Aq h5;have c4:=Ls n _ _ _ h7;simp only at c2 ⊢;omega
theorem Rz (n:Nat):∀(m:Nat) (acc:List TSource) (l:List Tok) (x:List TSource) (r:List Tok),CS n m acc l= .ok x r→r.length+(x.map λx=>pz x.fOn).sum≤l.length+(acc.map λx=>pz x.fOn).sum
 |0,acc,l,x,r,h=>by simp only [CS,Res.ok.injEq] at h;obtain ⟨rfl,rfl⟩:=h;omega
 |m+1,acc,l,x,r,h=>by
  have one:∀{g:Pr TSource} (_:Bl (λx=>pz x.fOn) g) {l':List Tok},l'.length≤l.length→(g l').bind (λs r=>CS n m (acc++[s]) r)= .ok x r→r.length+(x.map λx=>pz x.fOn).sum≤l.length+(acc.map λx=>pz x.fOn).sum:=by
   intro g hg l' hl h;obtain ⟨a,q,h1,h2⟩:=bind_ok h;have c1:=hg _ _ _ h1;have c2:=Rz n m _ _ _ _ h2;simp only [zab,zM,zay,zbb,zaK,zbg] at c2;simp only at c1;omega
  simp only [CS] at h;split at h
  ·exact one IP zy h
  split at h
  ·obtain ⟨_,q,h1,h2⟩:=bind_ok h;have c1:=Aq h1;have c2:=Au ‹_›;exact one IP zo h2
  split at h
  ·exact one (OB n true) zy h
  split at h
  ·exact one (OB n false) zy h
  split at h
  ·exact one (OB n false) (zW _) h
  ·simp only [Res.ok.injEq] at h;obtain ⟨rfl,rfl⟩:=h;omega
theorem AEb (n:Nat):Bl (λx=>(x.map λx=>pz x.fOn).sum) (JY n):=by
 intro l x r h;obtain ⟨a,q,h1,h2⟩:=bind_ok h;have c1:=IP _ _ _ h1;have c2:=Rz n n _ _ _ _ h2;simp only [zM,zay,zaK,zbg] at c2;simp only at c1 ⊢;omega
theorem Ej {α:Type}{w:α→Nat}{g:Pr α}(hg:Bl w g)(s:Bs){d:α}(hd:w d=0):Bl w (SS s d g):=by
 intro l x r h;unfold SS at h;split at h
 ·have c1:=hg _ _ _ h;have c2:=Au ‹_›;omega
 ·simp only [Res.ok.injEq] at h;obtain ⟨rfl,rfl⟩:=h;omega
theorem QG {α:Type}{w:α→Nat}{g:Pr α}(hg:Bl w g):Bl w (byP g):=by
 intro l x r h;obtain ⟨_,q,h1,h2⟩:=bind_ok h;have c1:=Aq h1;have c2:=hg _ _ _ h2;omega
theorem JP:Bl (λ_=>0) EO:=by
 intro l x r h;unfold EO at h;split at h
 ·simp only [Res.ok.injEq] at h;obtain ⟨_,rfl⟩:=h;simp
 ·cases h
def wQ (q:TSelect):Nat:=(q.fItems.map λx=>pz x.fExpr).sum+(q.fFrom.map λx=>pz x.fOn).sum+pz q.fWhere+(q.fGroup.map pz).sum+pz q.fHaving+(q.fOrder.map λx=>pz x.fExpr).sum
def wS (s:TStmt):Nat:=wQ s.fSelect+pz s.fWhere+((s.fRows.flatten).map pz).sum+(s.fSets.map λx=>pz x.fExpr).sum+(s.fCols.map λx=>pz x.fDefault).sum
theorem AHU (s:TStmt):Ha s=wS s+1:=by
 simp only [Ha,EL,JC,wS,wQ,zab,zbb,zM,zay,zaK,zbg,List.map_map,Function.comp_def];omega
theorem AAK (n:Nat):Bl wQ (FM n):=by
 intro l x r h;obtain ⟨a1,q1,h1,h⟩:=bind_ok h;obtain ⟨a2,q2,h2,h⟩:=bind_ok h;obtain ⟨a3,q3,h3,h⟩:=bind_ok h;obtain ⟨a4,q4,h4,h⟩:=bind_ok h;obtain ⟨a5,q5,h5,h⟩:=bind_ok h;obtain ⟨a6,q6,h6,h⟩:=bind_ok h;obtain ⟨a7,q7,h7,h⟩:=bind_ok h;obtain ⟨a8,q8,h8,h⟩:=bind_ok h;simp only [Res.ok.injEq] at h;obtain ⟨rfl,rfl⟩:=h;have c1:=EP (AEa n) n _ _ _ h1;have c2:=Ej (AEb n) _ rfl _ _ _ h2;have c3:=Hq n _ _ _ _ h3;have c4:=Ej (QG (EP (Ls n) n)) _ rfl _ _ _ h4;have c5:=Hq n _ _ _ _ h5;have c6:=Ej (QG (EP (AAL n) n)) _ rfl _ _ _ h6;have c7:=Ej JP _ rfl _ _ _ h7;have c8:=Ej JP _ rfl _ _ _ h8;have c0:(if isT l [100,105,115,116,105,110,99,116] then l.tail else l).length≤l.length:=by split <;> simp
 simp only at c1 c2 c4 c6 c7 c8
 simp only [wQ];omega
theorem Ry:Bl pz FP:=by
 intro l x r h;unfold FP at h;split at h
 ·rename_i v hv
  simp only [Res.ok.injEq] at h;obtain ⟨rfl,rfl⟩:=h;have:=XT hv;have:=ACJ (GU v);simp only [GU,Af,AX] at this;simp only [GU];omega
 split at h
 ·obtain ⟨y,q,h1,h2⟩:=bind_ok h;simp only [Res.ok.injEq] at h2;obtain ⟨rfl,rfl⟩:=h2;have c1:=Rw _ _ _ h1;have c2:=Au ‹_›;have:=ACJ (exK 4 [y]);simp only [exK,Af,AX] at this;simp only [exK];omega
 ·have c1:=Rw _ _ _ h;have:=ACJ x;omega
theorem Gt:∀(m:Nat) (c:TCol) (l:List Tok) (y:TCol) (r:List Tok),Dc m c l= .ok y r→r.length+pz y.fDefault≤l.length+pz c.fDefault
 |0,c,l,y,r,h=>by simp only [Dc,Res.ok.injEq] at h;obtain ⟨rfl,rfl⟩:=h;omega
 |m+1,c,l,y,r,h=>by
  simp only [Dc] at h;split at h
  ·obtain ⟨_,q,h1,h2⟩:=bind_ok h;have c1:=Aq h1;have c2:=Gt m _ _ _ _ h2;have:l.tail.length≤l.length:=by simp
   simp only at c2;omega
  split at h
  ·obtain ⟨_,q,h1,h2⟩:=bind_ok h;have c1:=Aq h1;have c2:=Gt m _ _ _ _ h2;have:l.tail.length≤l.length:=by simp
   simp only at c2;omega
  split at h
  ·have c2:=Gt m _ _ _ _ h;have:l.tail.length≤l.length:=by simp
   simp only at c2;omega
  split at h
  ·obtain ⟨x,q,h1,h2⟩:=bind_ok h;have c1:=Ry _ _ _ h1;have c2:=Gt m _ _ _ _ h2;have:l.tail.length≤l.length:=by simp
   simp only at c2;omega
  ·simp only [Res.ok.injEq] at h;obtain ⟨rfl,rfl⟩:=h;omega
theorem Xn (n:Nat):Bl (λx=>pz x.fDefault) (DX n):=by
 intro l x r h;obtain ⟨s,q,h1,h2⟩:=bind_ok h;have c1:=BK _ _ _ h1;simp only at h2 c1
 generalize (if isK q 1 then typeOf (hd q).text else 0)=t at h2;split at h2
 ·cases h2
 ·have c2:=Gt n _ _ _ _ h2;have:q.tail.length≤q.length:=by simp
  simp only [pz0] at c2 ⊢;omega
theorem UI (n:Nat):∀(m:Nat) (cs:List TCol) (ks:List Bs) (l:List Tok) (x:List TCol×List Bs) (r:List Tok),EJ n m cs ks l= .ok x r→r.length+(x.1.map λx=>pz x.fDefault).sum≤l.length+(cs.map λx=>pz x.fDefault).sum
 |0,cs,ks,l,x,r,h=>by simp only [EJ,Res.ok.injEq] at h;obtain ⟨rfl,rfl⟩:=h;exact zW _
 |m+1,cs,ks,l,x,r,h=>by
  simp only [EJ] at h;obtain ⟨a,q,h1,h2⟩:=bind_ok h;have c1:q.length+(a.1.map λx=>pz x.fDefault).sum≤l.length+(cs.map λx=>pz x.fDefault).sum:=by
   split at h1
   ·obtain ⟨_,q1,g1,g2⟩:=bind_ok h1;obtain ⟨k,q2,g3,g4⟩:=bind_ok g2;simp only [Res.ok.injEq] at g4;obtain ⟨rfl,rfl⟩:=g4;have d1:=Aq g1;have d2:=Ho n _ _ _ g3;have:l.tail.length≤l.length:=by simp
    simp only at d2 ⊢;omega
   ·obtain ⟨c,q1,g1,g2⟩:=bind_ok h1;simp only [Res.ok.injEq] at g2;obtain ⟨rfl,rfl⟩:=g2;have d1:=Xn n _ _ _ g1;simp only [zab,zM,zay,zbb,zaK,zbg] at d1 ⊢;omega
  split at h2
  ·have c2:=UI n m _ _ _ _ _ h2;have:q.tail.length≤q.length:=by simp
   omega
  ·simp only [Res.ok.injEq] at h2;obtain ⟨rfl,rfl⟩:=h2;exact c1
theorem AAJ (n:Nat):Bl wS (Je n):=by
 intro l x r h;obtain ⟨s,q,h1,h⟩:=bind_ok h;obtain ⟨_,q2,h2,h⟩:=bind_ok h;obtain ⟨y,q3,h3,h⟩:=bind_ok h;have c1:=BK _ _ _ h1;have c2:=Aq h2;have c3:=UI n _ _ _ _ _ _ h3;simp only [zay,zbg] at c3;split at h
 ·cases h
 ·obtain ⟨_,q4,h4,h⟩:=bind_ok h;simp only [Res.ok.injEq] at h;obtain ⟨rfl,rfl⟩:=h;have c4:=Aq h4;have:wS {(default:TStmt) with fKind:=5,fTable:=s,fCols:=y.1,fKey:=y.2}=(y.1.map λx=>pz x.fDefault).sum:=by
   show 0+0+0+0+(y.1.map λx=>pz x.fDefault).sum=_;simp
  rw [this];simp only at c1;omega
theorem WU:∀(l:List (List Ex)),(l.flatten.map pz).sum=(l.map λx=>(x.map pz).sum).sum
 |[]=>rfl
 |x::l=>by simp only [zaD,zab,zbb,zM,zaK,WU l]
theorem wS0 {s:TStmt}(h1:s.fSelect=default)(h2:s.fWhere=ex0)(h3:s.fRows=[])(h4:s.fSets=[])(h5:s.fCols=[]):wS s=0:=by
 simp only [wS,h1,h2,h3,h4,h5];rfl
theorem leW {a b:Nat}{s:TStmt}(h0:wS s=0)(h:a+1≤b):a+(λs=>wS s+1) s≤b:=by simp only [h0];omega
theorem Vx {l r:List Tok}{n:Nat}(h:r.length+n≤l.length):r.length≤l.length:=by omega
theorem UJ (n:Nat):Bl (λs=>wS s+1) (Dy n):=by
 intro l x r h;unfold Dy at h;split at h
 ·obtain ⟨q,r1,h1,h2⟩:=bind_ok h;simp only [Res.ok.injEq] at h2;obtain ⟨rfl,rfl⟩:=h2;have c1:=AAK n _ _ _ h1;have c2:=Au ‹_›;have:wS {(default:TStmt) with fKind:=1,fSelect:=q}=wQ q:=by show wQ q+0+0+0+0=_;simp
  simp only [this];omega
 split at h
 ·have c0:=Au ‹_›;obtain ⟨_,r1,h1,h⟩:=bind_ok h;obtain ⟨s,r2,h2,h⟩:=bind_ok h;obtain ⟨c,r3,h3,h⟩:=bind_ok h;obtain ⟨_,r4,h4,h⟩:=bind_ok h;obtain ⟨y,r5,h5,h⟩:=bind_ok h;simp only [Res.ok.injEq] at h;obtain ⟨rfl,rfl⟩:=h;have c1:=Aq h1;have c2:=BK _ _ _ h2;have c3:r3.length≤r2.length:=by
   split at h3
   ·exact Vx (Ho n _ _ _ h3)
   ·simp only [Res.ok.injEq] at h3;obtain ⟨rfl,rfl⟩:=h3;exact zW _
  have c4:=Aq h4;have c5:=EP (Lm (Ls n) n) n _ _ _ h5;have:wS {(default:TStmt) with fKind:=2,fTable:=s,fColumns:=c,fRows:=y}=(y.flatten.map pz).sum:=by show 0+0+(y.flatten.map pz).sum+0+0=_;simp
  simp only at c2 c5
  simp only [this,WU];omega
 split at h
 ·have c0:=Au ‹_›;obtain ⟨s,r1,h1,h⟩:=bind_ok h;obtain ⟨_,r2,h2,h⟩:=bind_ok h;obtain ⟨y,r3,h3,h⟩:=bind_ok h;obtain ⟨z,r4,h4,h⟩:=bind_ok h;simp only [Res.ok.injEq] at h;obtain ⟨rfl,rfl⟩:=h;have c1:=BK _ _ _ h1;have c2:=Aq h2;have c3:=EP (AIe n) n _ _ _ h3;have c4:=Hq n _ _ _ _ h4;have:wS {(default:TStmt) with fKind:=3,fTable:=s,fSets:=y,fWhere:=z}=pz z+(y.map λx=>pz x.fExpr).sum:=by show 0+pz z+0+(y.map λx=>pz x.fExpr).sum+0=_;simp
  simp only at c1 c3
  simp only [this];omega
 split at h
 ·have c0:=Au ‹_›;obtain ⟨_,r1,h1,h⟩:=bind_ok h;obtain ⟨s,r2,h2,h⟩:=bind_ok h;obtain ⟨z,r3,h3,h⟩:=bind_ok h;simp only [Res.ok.injEq] at h;obtain ⟨rfl,rfl⟩:=h;have c1:=Aq h1;have c2:=BK _ _ _ h2;have c3:=Hq n _ _ _ _ h3;have:wS {(default:TStmt) with fKind:=4,fTable:=s,fWhere:=z}=pz z:=by show 0+pz z+0+0+0=_;simp
  simp only at c2
  simp only [this];omega
 split at h
 ·have c0:=Au ‹_›;unfold EX at h;split at h
  ·have c1:=AAJ n _ _ _ h;have:l.tail.tail.length≤l.tail.length:=by simp
   simp only;omega
  ·obtain ⟨_,r1,h1,h⟩:=bind_ok h;obtain ⟨a,r2,h2,h⟩:=bind_ok h;obtain ⟨_,r3,h3,h⟩:=bind_ok h;obtain ⟨t,r4,h4,h⟩:=bind_ok h;obtain ⟨c,r5,h5,h⟩:=bind_ok h;simp only [Res.ok.injEq] at h;obtain ⟨rfl,rfl⟩:=h;have c1:=Aq h1;have c2:=BK _ _ _ h2;have c3:=Aq h3;have c4:=BK _ _ _ h4;have c5:=Vx (Ho n _ _ _ h5);have c6:(if isT l.tail [117,110,105,113,117,101] then l.tail.tail else l.tail).length≤l.tail.length:=by split <;> simp
   refine leW (wS0 rfl rfl rfl rfl rfl) ?_;simp only at c2 c4;omega
 split at h
 ·have c0:=Au ‹_›;unfold Fe at h;split at h
  ·obtain ⟨s,r1,h1,h⟩:=bind_ok h;simp only [Res.ok.injEq] at h;obtain ⟨rfl,rfl⟩:=h;have c1:=BK _ _ _ h1;have:l.tail.tail.length≤l.tail.length:=by simp
   refine leW (wS0 rfl rfl rfl rfl rfl) ?_;simp only at c1;omega
  ·obtain ⟨_,r1,h1,h⟩:=bind_ok h;obtain ⟨s,r2,h2,h⟩:=bind_ok h;simp only [Res.ok.injEq] at h;obtain ⟨rfl,rfl⟩:=h;have c1:=Aq h1;have c2:=BK _ _ _ h2;refine leW (wS0 rfl rfl rfl rfl rfl) ?_;simp only at c2;omega
 split at h
 ·have c0:=Au ‹_›;simp only [Res.ok.injEq] at h;obtain ⟨rfl,rfl⟩:=h;refine leW (wS0 rfl rfl rfl rfl rfl) ?_;omega
 split at h
 ·have c0:=Au ‹_›;simp only [Res.ok.injEq] at h;obtain ⟨rfl,rfl⟩:=h;refine leW (wS0 rfl rfl rfl rfl rfl) ?_;omega
 ·obtain ⟨_,r1,h1,h⟩:=bind_ok h;simp only [Res.ok.injEq] at h;obtain ⟨rfl,rfl⟩:=h;have c1:=Aq h1;refine leW (wS0 rfl rfl rfl rfl rfl) ?_;omega
theorem Lr (n:Nat):∀(m:Nat) (acc:List TStmt) (l:List Tok) (x:List TStmt) (r:List Tok),Bj n m acc l= .ok x r→BH x≤l.length+BH acc
 |0,acc,l,x,r,h=>by simp only [Bj,Res.ok.injEq] at h;obtain ⟨rfl,rfl⟩:=h;omega
 |m+1,acc,l,x,r,h=>by
  simp only [Bj] at h;split at h
  ·simp only [Res.ok.injEq] at h;obtain ⟨rfl,rfl⟩:=h;omega
  split at h
  ·have:=Lr n m _ _ _ _ h;have:l.tail.length≤l.length:=by simp
   omega
  ·obtain ⟨s,q,h1,h2⟩:=bind_ok h;have c1:=UJ n _ _ _ h1;simp only at c1
   split at h2
   ·have c2:=Lr n m _ _ _ _ h2;simp only [BH,zab,zM,zay,zbb,zaK,zbg,AHU] at c2 ⊢;omega
   ·cases h2
theorem Iw (n:Nat):∀(f:Nat) (acc:List Tok) (s:Bs) (l:List Tok),Dh n f acc s= .toks l→l.length≤acc.length+f
 |0,acc,s,l,h=>by simp only [Dh,LexA.toks.injEq] at h;subst h;omega
 |f+1,acc,s,l,h=>by
  simp only [Dh] at h;split at h
  ·simp only [LexA.toks.injEq] at h;subst h;simp
  ·split at h
   ·cases h
   ·have:=Iw n f _ _ _ h;simp at this;omega
theorem LZ (s:Bs):BH (readA s).1≤s.length+1:=by
 unfold readA;split
 ·simp [BH]
 ·rename_i l hl
  have hc:=Iw _ _ _ _ _ hl;split
  ·rename_i x r hx
   have:=Lr _ _ _ _ _ _ hx;simp [BH] at this hc ⊢;omega
  ·simp [BH]
def cQ (q:TSelect):Nat:=q.fItems.length+q.fFrom.length+q.fGroup.length+q.fOrder.length
def cS (s:TStmt):Nat:=cQ s.fSelect+(s.fRows.flatten.length+s.fRows.length)+s.fSets.length+s.fCols.length
theorem AAf {α:Type}(l:List α):(l.map λ_=>1).sum=l.length:=by
 induction l with
 |nil=>rfl
 |cons x l ih=>simp only [zM,zaK,ih,zh];omega
theorem Jn {α:Type}{g:Pr α}(hg:Bl (λ_=>1) g)(n:Nat):Bl List.length (BL n g):=λl x r h=>by
 have:=EP hg n l x r h;simp only [AAf] at this;exact this
theorem XN {α:Type}{g:Pr α}(hg:Bl (λ_=>1) g)(n:Nat):Bl List.length (Bc n g):=λl x r h=>by
 have:=Lm hg n l x r h;simp only [AAf] at this;exact this
theorem RD (n:Nat):Bl (λ_=>1) (eP n):=λl x r h=>by
 have:=(JO n).1 l x r h;have:1≤Af x:=by cases x;simp [Af]
 simp only;omega
theorem XV (n:Nat)(s:Bs):Bl (λ_=>0) (DW n s):=λl x r h=>by
 have:=Hq n s l x r h;simp only;omega
theorem AHn (n:Nat):Bl (λ_=>1) (Ec n):=by
 intro l x r h;unfold Ec at h;split at h
 ·simp only [Res.ok.injEq] at h;obtain ⟨rfl,rfl⟩:=h;have:=Au ‹_›;simp only;omega
 split at h
 ·rename_i hb
  simp only [zF] at hb;have:=Hm hb.1.1.1.1 zx;simp only [Res.ok.injEq] at h;obtain ⟨rfl,rfl⟩:=h;simp only [zaW] at this ⊢;omega
 ·obtain ⟨y,q,h1,h2⟩:=bind_ok h;have c1:=RD n _ _ _ h1;split at h2
  ·obtain ⟨a,q2,h3,h4⟩:=bind_ok h2;simp only [Res.ok.injEq] at h4;obtain ⟨rfl,rfl⟩:=h4;have c2:=BK _ _ _ h3;have c3:=Au ‹_›;simp only at c1 c2 ⊢;omega
  ·simp only [Res.ok.injEq] at h2;obtain ⟨rfl,rfl⟩:=h2;exact c1
theorem ADp (n:Nat):Bl (λ_=>1) (Ef n):=by
 intro l x r h;obtain ⟨y,q,h1,h2⟩:=bind_ok h;have c1:=RD n _ _ _ h1;simp only at c1
 split at h2
 ·simp only [Res.ok.injEq] at h2;obtain ⟨rfl,rfl⟩:=h2;have:=Au ‹_›;simp only;omega
 split at h2
 ·simp only [Res.ok.injEq] at h2;obtain ⟨rfl,rfl⟩:=h2;have:=Au ‹_›;simp only;omega
 ·simp only [Res.ok.injEq] at h2;obtain ⟨rfl,rfl⟩:=h2;exact c1
theorem one_set (n:Nat):Bl (λ_=>1) (Nh n):=by
 intro l x r h;obtain ⟨s,q,h1,h2⟩:=bind_ok h;obtain ⟨_,q2,h3,h4⟩:=bind_ok h2;obtain ⟨y,q3,h5,h6⟩:=bind_ok h4;simp only [Res.ok.injEq] at h6;obtain ⟨rfl,rfl⟩:=h6;have c1:=BK _ _ _ h1;have c2:=Aq h3;have c3:=RD n _ _ _ h5;simp only at c1 c3 ⊢;omega
theorem JF:Bl (λ_=>1) CU:=by
 intro l x r h;obtain ⟨s,q,h1,h2⟩:=bind_ok h;have c1:=BK _ _ _ h1;simp only at c1
 split at h2
 ·obtain ⟨a,q2,h3,h4⟩:=bind_ok h2;simp only [Res.ok.injEq] at h4;obtain ⟨rfl,rfl⟩:=h4;have c2:=BK _ _ _ h3;have c3:=Au ‹_›;simp only at c2 ⊢;omega
 split at h2
 ·obtain ⟨a,q2,h3,h4⟩:=bind_ok h2;simp only [Res.ok.injEq] at h4;obtain ⟨rfl,rfl⟩:=h4;have c2:=BK _ _ _ h3;simp only at c2 ⊢;omega
 ·simp only [Res.ok.injEq] at h2;obtain ⟨rfl,rfl⟩:=h2;simp only;omega
theorem Qz (n:Nat)(b:Bool):Bl (λ_=>1) (Hg n b):=by
 intro l x r h;obtain ⟨_,q,h1,h2⟩:=bind_ok h;obtain ⟨s,q2,h3,h4⟩:=bind_ok h2;obtain ⟨_,q3,h5,h6⟩:=bind_ok h4;obtain ⟨y,q4,h7,h8⟩:=bind_ok h6;simp only [Res.ok.injEq] at h8;obtain ⟨rfl,rfl⟩:=h8;have c1:=Aq h1;have c2:=JF _ _ _ h3;have c3:=Aq h5;have c4:=RD n _ _ _ h7;simp only at c2 c4 ⊢;omega
theorem TZ (n:Nat):∀(m:Nat) (acc:List TSource) (l:List Tok) (x:List TSource) (r:List Tok),CS n m acc l= .ok x r→r.length+x.length≤l.length+acc.length
 |0,acc,l,x,r,h=>by simp only [CS,Res.ok.injEq] at h;obtain ⟨rfl,rfl⟩:=h;omega
 |m+1,acc,l,x,r,h=>by
  have one:∀{g:Pr TSource} (_:Bl (λ_=>1) g) {l':List Tok},l'.length≤l.length→(g l').bind (λs r=>CS n m (acc++[s]) r)= .ok x r→r.length+x.length≤l.length+acc.length:=by
   intro g hg l' hl h;obtain ⟨a,q,h1,h2⟩:=bind_ok h;have c1:=hg _ _ _ h1;have c2:=TZ n m _ _ _ _ h2;simp only [zU] at c2;simp only at c1;omega
  simp only [CS] at h;split at h
  ·exact one JF zy h
  split at h
  ·obtain ⟨_,q,h1,h2⟩:=bind_ok h;have c1:=Aq h1;have c2:=Au ‹_›;exact one JF zo h2
  split at h
  ·exact one (Qz n true) zy h
  split at h
  ·exact one (Qz n false) zy h
  split at h
  ·exact one (Qz n false) (zW _) h
  ·simp only [Res.ok.injEq] at h;obtain ⟨rfl,rfl⟩:=h;omega
theorem AHo (n:Nat):Bl List.length (JY n):=by
 intro l x r h;obtain ⟨a,q,h1,h2⟩:=bind_ok h;have c1:=JF _ _ _ h1;have c2:=TZ n n _ _ _ _ h2;simp only [zh,zac] at c2;simp only at c1;omega
theorem AEg (n:Nat):Bl cQ (FM n):=by
 intro l x r h;obtain ⟨a1,q1,h1,h⟩:=bind_ok h;obtain ⟨a2,q2,h2,h⟩:=bind_ok h;obtain ⟨a3,q3,h3,h⟩:=bind_ok h;obtain ⟨a4,q4,h4,h⟩:=bind_ok h;obtain ⟨a5,q5,h5,h⟩:=bind_ok h;obtain ⟨a6,q6,h6,h⟩:=bind_ok h;obtain ⟨a7,q7,h7,h⟩:=bind_ok h;obtain ⟨a8,q8,h8,h⟩:=bind_ok h;simp only [Res.ok.injEq] at h;obtain ⟨rfl,rfl⟩:=h;have c1:=Jn (AHn n) n _ _ _ h1;have c2:=Ej (AHo n) _ rfl _ _ _ h2;have c3:=XV n _ _ _ _ h3;have c4:=Ej (QG (Jn (RD n) n)) _ rfl _ _ _ h4;have c5:=XV n _ _ _ _ h5;have c6:=Ej (QG (Jn (ADp n) n)) _ rfl _ _ _ h6;have c7:=Ej JP _ rfl _ _ _ h7;have c8:=Ej JP _ rfl _ _ _ h8;have c0:(if isT l [100,105,115,116,105,110,99,116] then l.tail else l).length≤l.length:=by split <;> simp
 simp only at c1 c2 c3 c4 c5 c6 c7 c8
 simp only [cQ];omega
theorem ZJ (n:Nat):Bl (λ_=>1) (DX n):=by
 intro l x r h;obtain ⟨s,q,h1,h2⟩:=bind_ok h;have c1:=BK _ _ _ h1;simp only at h2 c1
 generalize (if isK q 1 then typeOf (hd q).text else 0)=t at h2;split at h2
 ·cases h2
 ·have c2:=Gt n _ _ _ _ h2;have:q.tail.length≤q.length:=by simp
  simp only [pz0] at c2 ⊢;omega
theorem XO (n:Nat):∀(m:Nat) (cs:List TCol) (ks:List Bs) (l:List Tok) (x:List TCol×List Bs) (r:List Tok),EJ n m cs ks l= .ok x r→r.length+x.1.length≤l.length+cs.length
 |0,cs,ks,l,x,r,h=>by simp only [EJ,Res.ok.injEq] at h;obtain ⟨rfl,rfl⟩:=h;exact zW _
 |m+1,cs,ks,l,x,r,h=>by
  simp only [EJ] at h;obtain ⟨a,q,h1,h2⟩:=bind_ok h;have c1:q.length+a.1.length≤l.length+cs.length:=by
   split at h1
   ·obtain ⟨_,q1,g1,g2⟩:=bind_ok h1;obtain ⟨k,q2,g3,g4⟩:=bind_ok g2;simp only [Res.ok.injEq] at g4;obtain ⟨rfl,rfl⟩:=g4;have d1:=Aq g1;have d2:=Ho n _ _ _ g3;have:l.tail.length≤l.length:=by simp
    simp only at d2 ⊢;omega
   ·obtain ⟨c,q1,g1,g2⟩:=bind_ok h1;simp only [Res.ok.injEq] at g2;obtain ⟨rfl,rfl⟩:=g2;have d1:=ZJ n _ _ _ g1;simp only [zU] at d1 ⊢;omega
  split at h2
  ·have c2:=XO n m _ _ _ _ _ h2;have:q.tail.length≤q.length:=by simp
   omega
  ·simp only [Res.ok.injEq] at h2;obtain ⟨rfl,rfl⟩:=h2;exact c1
theorem cS0 {s:TStmt}(h1:s.fSelect=default)(h3:s.fRows=[])(h4:s.fSets=[])(h5:s.fCols=[]):cS s=0:=by
 simp only [cS,h1,h3,h4,h5];rfl
theorem ALE {s:TStmt}(h1:s.fSelect=default)(h4:s.fSets=[])(h5:s.fCols=[]):cS s=s.fRows.flatten.length+s.fRows.length:=by
 simp only [cS,h1,h4,h5];show 0+_+0+0=_;simp
theorem ALD {s:TStmt}(h1:s.fSelect=default)(h3:s.fRows=[])(h5:s.fCols=[]):cS s=s.fSets.length:=by
 simp only [cS,h1,h3,h5];show 0+0+_+0=_;simp
theorem ALF {s:TStmt}(h1:s.fSelect=default)(h3:s.fRows=[])(h4:s.fSets=[]):cS s=s.fCols.length:=by
 simp only [cS,h1,h3,h4];show 0+0+0+_=_;simp
theorem ARI {s:TStmt}(h3:s.fRows=[])(h4:s.fSets=[])(h5:s.fCols=[]):cS s=cQ s.fSelect:=by
 simp only [cS,h3,h4,h5];show _+0+0+0=_;simp
theorem Tf {α:Type}:∀l:List (List α),(l.map λx=>x.length+1).sum=l.flatten.length+l.length
 |[]=>rfl
 |x::l=>by simp only [zaD,zn,zM,zaK,Tf l,zh];omega
theorem ADo {α:Type}{g:Pr α}(hg:Bl (λ_=>1) g)(n:Nat):Bl (λx=>x.length+1) (Bc n g):=by
 intro l x r h;obtain ⟨_,q,h1,h2⟩:=bind_ok h;obtain ⟨a,q2,h3,h4⟩:=bind_ok h2;obtain ⟨_,q3,h5,h6⟩:=bind_ok h4;simp only [Res.ok.injEq] at h6;obtain ⟨rfl,rfl⟩:=h6;have c1:=Aq h1;have c2:=Jn hg n _ _ _ h3;have c3:=Aq h5;simp only;omega
theorem AIh {n:Nat}{l r:List Tok}{x:TStmt}(h:Dy n l= .ok x r):r.length≤l.length∧cS x≤l.length:=by
 have hle:r.length≤l.length:=by have:=UJ n _ _ _ h;omega
 refine ⟨hle,?_⟩;unfold Dy at h;split at h
 ·obtain ⟨q,r1,h1,h2⟩:=bind_ok h;simp only [Res.ok.injEq] at h2;obtain ⟨rfl,rfl⟩:=h2;have c1:=AEg n _ _ _ h1;rw [ARI rfl rfl rfl];simp only [zaW] at c1 ⊢;omega
 split at h
 ·obtain ⟨_,r1,h1,h⟩:=bind_ok h;obtain ⟨s,r2,h2,h⟩:=bind_ok h;obtain ⟨c,r3,h3,h⟩:=bind_ok h;obtain ⟨_,r4,h4,h⟩:=bind_ok h;obtain ⟨y,r5,h5,h⟩:=bind_ok h;simp only [Res.ok.injEq] at h;obtain ⟨rfl,rfl⟩:=h;have c1:=Aq h1;have c2:=BK _ _ _ h2;have c3:r3.length≤r2.length:=by
   split at h3
   ·exact Vx (Ho n _ _ _ h3)
   ·simp only [Res.ok.injEq] at h3;obtain ⟨rfl,rfl⟩:=h3;exact zW _
  have c4:=Aq h4;have c5:=EP (ADo (RD n) n) n _ _ _ h5;rw [ALE rfl rfl rfl,←Tf];simp only [zaW] at c1 c2 c5 ⊢;omega
 split at h
 ·obtain ⟨s,r1,h1,h⟩:=bind_ok h;obtain ⟨_,r2,h2,h⟩:=bind_ok h;obtain ⟨y,r3,h3,h⟩:=bind_ok h;obtain ⟨z,r4,h4,h⟩:=bind_ok h;simp only [Res.ok.injEq] at h;obtain ⟨rfl,rfl⟩:=h;have c1:=BK _ _ _ h1;have c2:=Aq h2;have c3:=Jn (one_set n) n _ _ _ h3;rw [ALD rfl rfl rfl];simp only [zaW] at c1 ⊢;omega
 split at h
 ·obtain ⟨_,r1,h1,h⟩:=bind_ok h;obtain ⟨s,r2,h2,h⟩:=bind_ok h;obtain ⟨z,r3,h3,h⟩:=bind_ok h;simp only [Res.ok.injEq] at h;obtain ⟨rfl,rfl⟩:=h;rw [cS0 rfl rfl rfl rfl];omega
 split at h
 ·unfold EX at h;split at h
  ·obtain ⟨s,q,h1,h⟩:=bind_ok h;obtain ⟨_,q2,h2,h⟩:=bind_ok h;obtain ⟨y,q3,h3,h⟩:=bind_ok h;have c1:=BK _ _ _ h1;have c2:=Aq h2;have c3:=XO n _ _ _ _ _ _ h3;split at h
   ·cases h
   ·obtain ⟨_,q4,h4,h⟩:=bind_ok h;simp only [Res.ok.injEq] at h;obtain ⟨rfl,rfl⟩:=h;rw [ALF rfl rfl rfl];simp only [zaW,zac] at c1 c3 ⊢;omega
  ·obtain ⟨_,q1,h1,h⟩:=bind_ok h;obtain ⟨_,q2,h2,h⟩:=bind_ok h;obtain ⟨_,q3,h3,h⟩:=bind_ok h;obtain ⟨_,q4,h4,h⟩:=bind_ok h;obtain ⟨_,q5,h5,h⟩:=bind_ok h;simp only [Res.ok.injEq] at h;obtain ⟨rfl,rfl⟩:=h;rw [cS0 rfl rfl rfl rfl];omega
 split at h
 ·unfold Fe at h;split at h
  ·obtain ⟨_,q1,h1,h⟩:=bind_ok h;simp only [Res.ok.injEq] at h;obtain ⟨rfl,rfl⟩:=h;rw [cS0 rfl rfl rfl rfl];omega
  ·obtain ⟨_,q1,h1,h⟩:=bind_ok h;obtain ⟨_,q2,h2,h⟩:=bind_ok h;simp only [Res.ok.injEq] at h;obtain ⟨rfl,rfl⟩:=h;rw [cS0 rfl rfl rfl rfl];omega
 split at h
 ·simp only [Res.ok.injEq] at h;obtain ⟨rfl,rfl⟩:=h;rw [cS0 rfl rfl rfl rfl];omega
 split at h
 ·simp only [Res.ok.injEq] at h;obtain ⟨rfl,rfl⟩:=h;rw [cS0 rfl rfl rfl rfl];omega
 ·obtain ⟨_,q1,h1,h⟩:=bind_ok h;simp only [Res.ok.injEq] at h;obtain ⟨rfl,rfl⟩:=h;rw [cS0 rfl rfl rfl rfl];omega
theorem OC (n:Nat):∀(m:Nat) (acc:List TStmt) (l:List Tok) (x:List TStmt) (r:List Tok),Bj n m acc l= .ok x r→∀s∈x,s∈acc∨cS s≤l.length
 |0,acc,l,x,r,h,s,hs=>by simp only [Bj,Res.ok.injEq] at h;obtain ⟨rfl,rfl⟩:=h;exact .inl hs
 |m+1,acc,l,x,r,h,s,hs=>by
  simp only [Bj] at h;split at h
  ·simp only [Res.ok.injEq] at h;obtain ⟨rfl,rfl⟩:=h;exact .inl hs
  split at h
  ·have:=OC n m _ _ _ _ h s hs;simp only [zaW] at this;exact this.imp id (λh=>by omega)
  ·obtain ⟨s',q,h1,h2⟩:=bind_ok h;have c1:=AIh h1;split at h2
   ·rcases OC n m _ _ _ _ h2 s hs with h|h
    ·rcases zal.1 h with h|h
     ·exact .inl h
     ·rw [zX.1 h];exact .inr c1.2
    ·exact .inr zo
   ·cases h2
theorem SB (s:Bs):∀x∈(readA s).1,cS x≤s.length+1:=by
 unfold readA;split
 ·intro x hx;cases hx
 ·rename_i l hl
  have hc:=Iw _ _ _ _ _ hl;split
  ·rename_i x r hx
   intro y hy;rcases OC _ _ _ _ _ _ hx y hy with h|h
   ·cases h
   ·simp at hc;omega
  ·intro x hx;cases hx
def AUx (ω:Om):Prop:=∀(v:Value) (l:List TStmt) (K:Value→M) (I:Imm) (L:LH),RL TStmtV 51 I [] v l→BH l≤1000000000→(∀s∈l,cS s≤1000000000)→(∀I',Ext I I'→K (.int .i64 (Jr (BH l) (Cc l))) I' L)→CT ω 26 #[v] K I L
theorem Sr {n:Nat}:∀{f:Nat} {acc:List Tok} {s:Bs} {e:Flt},Dh n f acc s= .bad e→e.code≠0
 |0,acc,s,e,h=>by simp [Dh] at h
 |f+1,acc,s,e,h=>by
  rw [QV] at h;unfold AFB at h;split at h
  ·cases h
  ·split at h
   ·rename_i x hx
    simp only [LexA.bad.injEq] at h;subst h;exact FN hx
   ·exact Sr h
theorem Yy (s:Bs):(readA s).2=ok0∨((readA s).2.code≠0∧(readA s).1=[]):=by
 unfold readA;split
 ·rename_i f hf
  exact .inr ⟨Sr hf,rfl⟩
 ·split
  ·exact .inl rfl
  ·exact .inr ⟨by simp,rfl⟩
section
variable {ω:Om}
theorem AOj {I:Imm}{L:LH}{K:Value→M}{w:Value}{xs:List TStmt}(hw:RL TStmtV 51 I [] w xs)(hk:∀a k,RL TStmtV 51 I [] (.slice a xs.length k) xs→K (.slice a xs.length k) I L):CT ω 27 #[w] K I L:=by
 refine AUZ ?_;unfold ASZ;obtain ⟨w',h1,h2⟩:=GX hw;simp only [zAK hw,h1,SSd,Nat.reduceAdd];obtain ⟨a,k,rfl⟩:=zAF h2;exact zAA (hk a k h2)
theorem Ld {G:Imm}(hTok:WC ω G)(hLim:AUx ω)(s:Bs){I:Imm}{L:LH}{K:Value→M}(hG:Ext G I)
  (hok:∀I' a k,Ext I I'→RL TStmtV 51 I' [] (.slice a (CQ s).1.length k) (CQ s).1→K (.tuple #[.slice a (CQ s).1.length k,.agg #[.int .i64 (CQ s).2.code,.int .i64 (CQ s).2.at']]) I' L):
  CT ω 12 #[.string ⟨s.toArray⟩] K I L:=by
 have hparts:s.length≤65536→BH (readA s).1≤1000000000∧∀x∈(readA s).1,cS x≤1000000000:=λh=>⟨by have:=LZ s;omega,λx hx=>by have:=SB s x hx;omega⟩;refine AUl ?_;unfold ASl;refine AQ (λb1=>?_);try refine zqe ?_
 refine AB (λhb=>?_) (λhb=>?_)
 ·have hb:65536 < s.length:=by
   have:=of_decide_eq_true hb;omega
  have hp:CQ s=([],⟨170,65536⟩):=by unfold CQ;rw [if_pos hb]
  rw [hp] at hok;repeat' (first|refine zqa ?_|refine zqh (λ_=>?_)|refine zqr ?_|refine zqb ?_|refine zqi ?_ ?_|refine zqc ?_|refine zqg (λ_=>?_) (λ_=>?_)|refine zqe ?_|fail)
  exact zAE L (zAA (hok I none 0 (zAC _) (zAD none 0)))
 have hb:s.length≤65536:=by
  have:=of_decide_eq_false hb;omega
 refine call (TP hTok s zo hG (λI1 a k hI1 hw=>?_));have hcode:=Yy s;generalize hr:readA s=q at hw hok hparts hcode ⊢;obtain ⟨l,f⟩:=q;have hp:CQ s=if f≠ok0 then ([],f) else if Jr (BH l) (Cc l)≠0 then ([],⟨Jr (BH l) (Cc l),0⟩) else (l,ok0):=by
  unfold CQ;rw [if_neg zo,hr]
 simp only at hw hparts hcode ⊢
 rcases hcode with rfl|⟨hc,rfl⟩
 ·rw [if_neg zy] at hp;repeat' (first|refine zqa ?_|refine zqh (λ_=>?_)|refine zqr ?_|refine zqb ?_|refine zqi ?_ ?_|refine zqc ?_|refine zqg (λ_=>?_) (λ_=>?_)|(simp only [SSd,Nat.reduceAdd,ok0]))
  rename_i bt
  refine call (hLim _ l _ _ _ hw (hparts hb).1 (hparts hb).2 (λI2 hI2=>?_));by_cases h0:Jr (BH l) (Cc l)=0
  ·rw [h0];rw [if_neg (by simpa using h0)] at hp;rw [hp] at hok;repeat' (first|refine zqa ?_|refine zqh (λ_=>?_)|refine zqr ?_|refine zqb ?_|(with_reducible first|refine Ap (sh12_1.eq_1 ..) ?_|refine And.intro ?_ ?_)|refine zqc ?_|refine zqg (λ_=>?_) (λ_=>?_)|refine zqe ?_|fail)
   refine call (AOj (zAL (λ_ _ h=>TStmtV.mono h hI2) hw hI2 (λ_ h=>h)) (λa' k' hw'=>?_));repeat' (first|refine zqa ?_|refine zqh (λ_=>?_)|refine zqr ?_|refine zqb ?_|refine zqi ?_ ?_|refine zqc ?_|refine zqg (λ_=>?_) (λ_=>?_)|refine zqe ?_|fail)
   exact zAE L (zAA (hok I2 a' k' (zAB hI1 hI2) hw'))
  ·rw [if_pos h0] at hp;rw [hp] at hok;have e2:(Jr (BH l) (Cc l) != 0)=true:=by simpa using h0
   repeat' (first|refine zqa ?_|refine zqh (λ_=>?_)|refine zqr ?_|refine zqb ?_|(with_reducible first|refine Ap (sh12_1.eq_1 ..) ?_|refine And.intro ?_ ?_)|refine zqc ?_|refine zqg (λ_=>?_) (λ_=>?_)|(simp only [SSd,Nat.reduceAdd,e2]))
   exact zAE L (zAA (hok I2 none 0 (zAB hI1 hI2) (zAD none 0)))
 ·rw [if_pos (by rintro rfl;exact hc rfl)] at hp;rw [hp] at hok;have e1:(f.code==0)=false:=by simpa using hc
  have e2:(f.code != 0)=true:=by simpa using hc
  repeat' (first|refine zqa ?_|refine zqh (λ_=>?_)|refine zqr ?_|refine zqb ?_|(with_reducible first|refine Ap (sh12_1.eq_1 ..) ?_|refine And.intro ?_ ?_)|refine zqc ?_|refine zqg (λ_=>?_) (λ_=>?_)|(simp only [SSd,Nat.reduceAdd,e1,e2]))
  exact zAE L (zAA (hok I1 none 0 hI1 (zAD none 0)))
end
end Go.Proofs.YtkifgfanjcfedaaGreatDoor
