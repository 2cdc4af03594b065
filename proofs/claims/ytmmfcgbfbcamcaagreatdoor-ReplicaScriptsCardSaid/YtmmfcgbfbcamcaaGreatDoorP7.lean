/-
  Lemmas, part 7: laid together by a program.
-/
import Derived.Test.YtmmfcgbfbcamcaaGreatDoorP6
set_option maxRecDepth 100000
set_option linter.unusedVariables false
set_option linter.unusedSimpArgs false
set_option linter.unusedSectionVars false
namespace Go.Proofs.YtmmfcgbfbcamcaaGreatDoor
open Go.SL
section
variable {ω:Om}{I:Imm}{L:LH}{K:Value→M}
theorem NV {P:Program}{f:FuncId}{first cap args:Array Value}(he:Bo P f=true)(h:Cal P ω f (first++args++cap) K I L):CalV P ω (.func (.func f) first cap) args K I L:=by
 simp only [CalV];rw [if_pos he];exact h
structure Clo (ω:Om)(fid:FuncId)(caps:Array Value)(f:TVer→Bool)(vs:List TVer)(J:List TVer→Imm→LH→Prop):Prop where
 ent:Bo Tryz.prog fid=true
 mono:∀done I I' G,J done I G→Ext I I'→J done I' G
 step:∀done v rest I G L (K:Value→M),vs=done++v::rest→J done I G→(∀I' G',Ext I I'→J (done++[v]) I' G'→K (.bool (f v)) I' (G'++L))→CT ω fid (#[]++#[vv v]++caps) K I (G++L)
theorem take_snoc {α:Type}{l:List α}{j:Nat}(h:j < l.length):l.take (j+1)=l.take j++[l[j]]:=by
 rw [List.take_add_one,List.getElem?_eq_getElem h];rfl
theorem GB {α:Type}{l:List α}{j:Nat}(h:j < l.length):l=l.take j++l[j]::l.drop (j+1):=by
 rw [←List.drop_eq_getElem_cons h,List.take_append_drop]
theorem Pw {fid:FuncId}{caps:Array Value}{f:TVer→Bool}{vs:List TVer}{J:List TVer→Imm→LH→Prop}{Y G F:LH}{sl:Value}(hc:Clo ω fid caps f vs J)(hv:VsO Y sl vs)(hlen:vs.length≤1000000000)(hJ:J [] I G)
  (h1:∀I' G',Ext I I'→J vs I' G'→(∀v∈vs,f v=false)→K (.int .i64 (-1)) I' (Y++(G'++F)))
  (h2:∀I' G' (i:Nat) (hi:i < vs.length),Ext I I'→J (vs.take (i+1)) I' G'→(∀v∈vs.take i,f v=false)→f vs[i]=true→K (.int .i64 i) I' (Y++(G'++F))):
  CT ω 247 #[sl,.func (.func fid) #[] caps] K I (Y++(G++F)):=by
 refine AHL ?_;unfold We;obtain ⟨sa,sc,rfl⟩:=hv.form;try simp only [SSd,Nat.reduceAdd]
 refine loop (fun n s I' L'=>Ext I I'∧∃(j:Nat) (G':LH),n+j=vs.length∧s=(.int .i64 0,.int .i64 j,())∧L'=Y++(G'++F)∧J (vs.take j) I' G'∧∀v∈vs.take j,f v=false) vs.length ⟨Ext.refl _,0,G,rfl,rfl,rfl,by simpa using hJ,by simp⟩ ?_;rintro n s I' L' ⟨hI,j,G',hnj,rfl,rfl,hj,hA⟩;unfold Sb;try simp only [SSd,Nat.reduceAdd]
 refine AD (fun e=>?_) (fun e=>?_)
 ·have hjl:j < vs.length:=by simpa using e
  obtain ⟨qq,off,cc,hix,hl4,hcc,hcr⟩:=RL.ix (VsO.rl (I:=I') (L:=Y) hv (fun _ h=>h)) (i:=(j:Int)) (by omega) (by omega);obtain rfl:cc=EI _:=hcc;rw [Ab hjl] at hcr;simp only [hix,SSd,Nat.reduceAdd];refine FO (hcr I' Y (Ext.refl _) (fun _ h=>h)) (Ext.refl _) rfl ?_;refine NV hc.ent (Cal.gh (Cal.perm (L':=G'++(Y++F)) (AQ (by ((try simp only [AN,AP,Aa,AR]);(try ac_rfl)))) (hc.step (vs.take j) vs[j] (vs.drop (j+1)) _ _ _ _ (GB hjl) hj (fun I2 G2 hI2 h2'=>Gh.perm (L':=Y++(G2++F)) (AQ (by ((try simp only [AN,AP,Aa,AR]);(try ac_rfl)))) (Gh.done (Gh.done ?_))))));rw [←take_snoc hjl] at h2';refine AD (fun e2=>?_) (fun e2=>?_)
  ·exact Gh.done (h2 I2 G2 j hjl (hI.trans hI2) h2' hA e2)
  ·try simp only [SSd,Nat.reduceAdd]
   rw [wrap_i64 _ (by omega)];refine Gh.done ⟨n - 1,by omega,hI.trans hI2,j+1,G2,by omega,rfl,rfl,h2',fun v hv=>?_⟩;rw [take_snoc hjl] at hv;rcases List.mem_append.1 hv with hv|hv
   ·exact hA v hv
   ·simp only [List.mem_singleton] at hv;subst hv;exact e2
 ·have hjl:j=vs.length:=by simp at e;omega
  subst hjl;rw [List.take_length] at hj hA;exact Gh.done (h1 I' G' hI hj hA)
theorem Vw {vs:List TVer}{j:Nat}(hj:j < vs.length):((DV vs).drop (j * 4)).take 4=EI vs[j]:=by
 have h:=(Ed (I:=fun _=>none) vs).get (i:=j) (x:=vs[j]) (by simp [hj]);exact h.2
theorem Uc {vs:List TVer}{j k:Nat}{u:Value}(hj:j < vs.length)(hk:(EI vs[j])[k]? =some u):(DV vs)[j * 4+k]? =some u:=by
 have hlt:k < 4:=by have:=(List.getElem?_eq_some_iff.1 hk).1;simpa [EI] using this
 rw [←Vw hj,List.getElem?_take,if_pos hlt,List.getElem?_drop] at hk;exact hk
theorem Va {fid:FuncId}{caps:Array Value}{f:TVer→Bool}{vs:List TVer}{J:List TVer→Imm→LH→Prop}{Y G F:LH}{sl:Value}(hc:Clo ω fid caps f vs J)(hv:VsO Y sl vs)(hlen:vs.length≤1000000000)(hJ:J [] I G)
  (hk:∀I' G' Y' v',Ext I I'→J vs I' G'→VsO Y' v' (vs.filter fun v=> !f v)→K v' I' (Y'++(G'++F))):
  CT ω 223 #[sl,.func (.func fid) #[] caps] K I (Y++(G++F)):=by
 refine AHZ ?_;unfold XH;refine call (Pw hc hv hlen hJ (fun I1 G1 hI1 hJ1 hA=>?_) (fun I1 G1 i hi hI1 hJ1 hA hf=>?_))
 ·have e:((-1:Int)== -1)=true:=rfl;simp only [e,SSd,Nat.reduceAdd];rw [List.filter_eq_self.2 (fun v hv=>by simp [hA v hv])] at hk;exact Gh.done (hk I1 G1 Y sl hI1 hJ1 hv)
 have e:((i:Int)== -1)=false:=by simp
 simp only [e,SSd,Nat.reduceAdd];rw [wrap_i64 _ (by omega)];obtain ⟨hcl,⟨_,h0,_⟩|⟨b,cap,cs,rfl,rfl,hsz,hle,hcs⟩⟩:=hv
 ·omega
 have hkeep0:(vs.take (i+1)).filter (fun v=> !f v)=vs.take i:=by
  rw [take_snoc hi,List.filter_append,List.filter_eq_self.2 (fun v hv=>by simp [hA v hv])];simp [hf]
 refine loop (fun n s I' L'=>Ext I I'∧∃(j q:Nat) (W:Array Value) (G':LH),n+j=vs.length∧s=(.int .i64 q,.int .i64 j,())∧L'=[(b,Obj.cells W 253 (0,0))]++(G'++F)∧J (vs.take j) I' G'∧q < j∧W.size=cap * 4∧q=((vs.take j).filter (fun v=> !f v)).length∧
   (∀(k:Nat) (u:Value),(DV ((vs.take j).filter (fun v=> !f v)))[k]? =some u→W[k]? =some u)∧(∀(k:Nat) (u:Value),j * 4≤k→(DV vs)[k]? =some u→W[k]? =some u)) (vs.length - (i+1))
  ⟨hI1,i+1,i,cs,G1,by omega,by simp,rfl,hJ1,by omega,hsz,by rw [hkeep0,List.length_take];omega,fun k u hu=>?_,fun k u _ hu=>hcs k u hu⟩ ?_
 ·rw [hkeep0] at hu;refine hcs k u ?_;rw [show DV vs=DV (vs.take i)++DV (vs.drop i) by rw [←FW,List.take_append_drop],List.getElem?_append_left (List.getElem?_eq_some_iff.1 hu).1];exact hu
 rintro n s I' L' ⟨hI,j,q,W,G',hnj,rfl,rfl,hj,hqj,hW,hq,hA1,hA2⟩;unfold Si;try simp only [SSd,Nat.reduceAdd]
 refine AD (fun e=>?_) (fun e=>?_)
 ·have hjl:j < vs.length:=by simpa using e
  simp only [Gp b 0 4 .i64 vs.length cap (j:Int) (by omega) (by omega),Int.toNat_natCast,SSd,Nat.reduceAdd];refine rdN (vs:=EI vs[j]) rfl (fun k u hu=>Cell.own (List.mem_append_left _ (List.mem_singleton.2 rfl)) (hA2 _ u (by omega) (Uc hjl hu))) ?_;refine AM (fun bv=>?_);refine stB (vs:=EI vs[j]) rfl rfl (AE rfl) ?_;refine rdB (l:=EI vs[j]) rfl ?_;refine NV hc.ent (Cal.gh (Cal.perm (L':=G'++((bv,.cells (EI vs[j]).toArray 253 (0,0))::(b,Obj.cells W 253 (0,0))::F)) (AQ (by ((try simp only [AN,AP,Aa,AR]);(try ac_rfl)))) (hc.step (vs.take j) vs[j] (vs.drop (j+1)) _ _ _ _ (GB hjl) hj (fun I2 G2 hI2 h2'=>
   Gh.perm (L':=(bv,.cells (EI vs[j]).toArray 253 (0,0))::(b,Obj.cells W 253 (0,0))::(G2++F)) (AQ (by ((try simp only [AN,AP,Aa,AR]);(try ac_rfl)))) (Gh.done (Gh.done ?_))))))
  rw [←take_snoc hjl] at h2';have hfil:(vs.take (j+1)).filter (fun v=> !f v)=if f vs[j]=true then (vs.take j).filter (fun v=> !f v) else (vs.take j).filter (fun v=> !f v)++[vs[j]]:=by
   rw [take_snoc hjl,List.filter_append];by_cases hfj:f vs[j]=true <;> simp [hfj]
  try simp only [SSd,Nat.reduceAdd]
  refine AD (fun e2=>?_) (fun e2=>?_)
  ·have e2':f vs[j]=false:=by simpa using e2
   rw [if_neg (by rw [e2'];simp)] at hfil;refine rdB (l:=EI vs[j]) rfl ?_;simp only [Gp b 0 4 .i64 vs.length cap (q:Int) (by omega) (by omega),Int.toNat_natCast,SSd,Nat.reduceAdd];have hkl:(DV ((vs.take j).filter (fun v=> !f v))).length=q * 4:=by rw [IQ,hq]
   have hfit:q * 4+(EI vs[j]).length≤W.size:=by rw [hW];simp [EI];omega
   refine ⟨b,q * 4,W,253,[(bv,.cells (EI vs[j]).toArray 253 (0,0))],G2++F,rfl,rfl,AE rfl,by rw [hW];omega,rfl,?_⟩;unfold Jp;try simp only [SSd,Nat.reduceAdd]
   rw [wrap_i64 _ (by omega),wrap_i64 _ (by omega)];refine Gh.to ((b,Obj.cells (wr W (q * 4) (EI vs[j])) 253 (0,0))::(G2++F)) (Gh.done (Gh.done ⟨n - 1,by omega,hI.trans hI2,j+1,q+1,_,G2,by omega,rfl,rfl,h2',by omega,by rw [Bi];exact hW,by rw [hfil,List.length_append,←hq];rfl,fun k u hu=>?_,fun k u hk hu=>?_⟩))
   ·rw [hfil,FW] at hu;rw [CS _ _ _ _ hfit];by_cases hk:k < q * 4
    ·rw [if_pos hk];rw [List.getElem?_append_left (by omega)] at hu;exact hA1 k u hu
    ·rw [List.getElem?_append_right (by omega),hkl] at hu;have hlt:=(List.getElem?_eq_some_iff.1 hu).1;have e4:DV [vs[j]]=EI vs[j]:=by simp [DV]
     rw [e4] at hu hlt;rw [if_neg hk,if_pos (by omega)];exact hu
   ·rw [CS _ _ _ _ hfit,if_neg (by omega),if_neg (by simp [EI];omega)];exact hA2 k u (by omega) hu
  ·have e2':f vs[j]=true:=by simpa using e2
   rw [if_pos e2'] at hfil;unfold Jp;try simp only [SSd,Nat.reduceAdd]
   rw [wrap_i64 _ (by omega)];refine Gh.to ((b,Obj.cells W 253 (0,0))::(G2++F)) (Gh.done ⟨n - 1,by omega,hI.trans hI2,j+1,q,W,G2,by omega,rfl,rfl,h2',by omega,hW,by rw [hfil];exact hq,by rw [hfil];exact hA1,fun k u hk hu=>hA2 k u (by omega) hu⟩)
 ·have hjl:j=vs.length:=by simp at e;omega
  subst hjl;rw [List.take_length] at hj hA1 hq;unfold Sh;have s1:=Hj (b:=b) (off:=0) (len:=vs.length) (cap:=cap) (lo:=q) (hi:=vs.length) (n:=4) (blo:=some (.int .i64 q)) (bhi:=none) (BG _ _ _ _ (by omega)) rfl (by omega);have s2:=Hj (b:=b) (off:=0) (len:=vs.length) (cap:=cap) (lo:=0) (hi:=q) (n:=4) (blo:=none) (bhi:=some (.int .i64 q)) rfl (BG _ _ _ _ (by omega)) (by omega);simp only [s1,SSd,Nat.reduceAdd];refine .inr ⟨b,_,vs.length - q,cap - q,W,253,[],G'++F,rfl,rfl,by rw [hW];simp;omega,AE rfl,Gh.done ?_⟩;simp only [Nat.sub_zero,Nat.zero_mul,Nat.add_zero] at s2;simp only [s2,SSd,Nat.reduceAdd];have hzl:(Builtin.zeroCells #[Value.int .i64 0,.int .i64 0,.bool false,.string (ByteArray.mk #[])] (vs.length - q)).toList.length=(vs.length - q) * 4:=by
   rw [Array.length_toList,CK];rfl
  generalize hz:(Builtin.zeroCells #[Value.int .i64 0,.int .i64 0,.bool false,.string (ByteArray.mk #[])] (vs.length - q)).toList=z at hzl ⊢;refine Gh.done (hk I' G' [(b,.cells (wr W (q * 4) z) 253 (0,0))] _ hI hj ⟨by rw [IQ],.inr ⟨b,cap,_,rfl,?_,by rw [Bi];exact hW,by omega,fun k u hu=>?_⟩⟩)
  ·rw [←hq]
  ·have hlt:=(List.getElem?_eq_some_iff.1 hu).1;rw [IQ,←hq] at hlt;rw [CS _ _ _ _ (by rw [hW,hzl];omega),if_pos hlt];exact hA1 k u hu
def NoteR (I:Imm)(b m ch:Nat)(kv:Value)(fl:TStamp)(X:LH)(nt:Nts):Prop:=∃NX,X.Perm ((b,spO m kv fl ch)::NX)∧NtR I ch NX nt
theorem NoteR.mono {I I':Imm}{b m ch:Nat}{kv:Value}{fl:TStamp}{X:LH}{nt:Nts}(h:NoteR I b m ch kv fl X nt)(hI:Ext I I'):NoteR I' b m ch kv fl X nt:=by
 obtain ⟨NX,h1,h2⟩:=h;exact ⟨NX,h1,h2.mono hI⟩
theorem Mz {b m ch:Nat}{kv a1 a2:Value}{fl:TStamp}{X F:LH}{nt:Nts}{d:Bool}{k l:List UInt8}(hN:NoteR I b m ch kv fl X nt)(h1:Bytes I a1 k)(h2:Bytes I a2 l)
  (hk:∀X',NoteR I b m ch kv fl X' (Di nt k (d,l))→K (.tuple #[]) I (X'++F)):CT ω 187 #[pt b,a1,a2,.bool d] K I (X++F):=by
 obtain ⟨NX,hp,hN⟩:=hN;refine Cal.gh (Cal.perm (L':=(b,spO m kv fl ch)::(NX++F)) (AQ (by rw [AP,BH hp];((try simp only [AN,AP,Aa,AR]);(try ac_rfl)))) (Mx hN h1 h2 fun NX' h'=>?_));exact Gh.perm (L':=((b,spO m kv fl ch)::NX')++F) (AQ (by ((try simp only [AN,AP,Aa,AR]);(try ac_rfl)))) (Gh.done (hk _ ⟨NX',List.Perm.refl _,h'⟩))
theorem My {b m ch:Nat}{kv:Value}{fl:TStamp}{X F:LH}{nt:Nts}{k:List UInt8}{v:TVer}(hN:NoteR I b m ch kv fl X nt)(hr:AU v.fAt=true)(hl:k.length≤1000000000)
  (hk:∀X' I',Ext I I'→NoteR I' b m ch kv fl X' (Di nt (Lx k v) (true,[]))→K (.tuple #[]) I' (X'++F)):
  CT ω 188 #[pt b,BW k,vv v] K I (X++F):=by
 refine AHn ?_;unfold Xq;refine AM (fun q=>?_);refine rdB rfl ?_;refine CI (IP hr hl (fun X1 u I1 hI1 hX=>?_));refine OB.freeze hX (fun I2 hI2 hB=>Gh.done ?_);refine call (Cal.to (X++F) ?_);refine Mz (hN.mono (hI1.trans hI2)) hB (show Bytes I2 _ [] from SlI.nil I2 1 none 0) (fun X' h'=>?_);exact Gh.done (hk X' I2 (hI1.trans hI2) h')
theorem SpP.open2 {b:Nat}{ps:List Nat}{X:LH}{A B:List Row}{r:Row}{fl:TStamp}{nt:Nts}{k:List UInt8}(h:SpP I b ps X ⟨A++r::B,fl⟩ nt)(hm:Mid A k B)(hk:r.key=k):
  ∃p sl Y XN R m ch kv,X.Perm ((p,Aw sl r.it)::(Y++(XN++R)))∧VsO Y sl r.vs∧NoteR I b m ch kv fl XN nt∧
   (∀I' r' sl' Y' XN' X' nt',Ext I I'→r'.key=k→VsO Y' sl' r'.vs→NoteR I' b m ch kv fl XN' nt'→X'.Perm ((p,Aw sl' r'.it)::(Y'++(XN'++R)))→SpP I' b ps X' ⟨A++r'::B,fl⟩ nt')∧
   (∀L',(∀x∈X,x∈L')→∃m kv es clock,ViewF I L' b m kv es clock ps ⟨A++r::B,fl⟩∧BA ps (A++r::B) k=some (pt p)):=by
 obtain ⟨m,ch,kv,es,clock,KX,RX,NX,hp,hF⟩:=h;obtain ⟨P,p,Q,rfl,hl,hl2⟩:=Hi hF.rows.len;obtain ⟨sl,Y,Z,h1,h2,h3⟩:=RowsR.pick hl hF.rows;refine ⟨p,sl,Y,(b,spO m kv fl ch)::NX,(m,.map es clock)::(KX++Z),m,ch,kv,AQ ?_,h2,⟨NX,List.Perm.refl _,hF.nts⟩,fun I' r' sl' Y' XN' X' nt' hI hk' hv hN hX=>?_,fun L' hL=>?_⟩
 ·rw [BH hp];simp only [AN,AP,BH h1]
  ((try simp only [AN,AP,Aa,AR]);(try ac_rfl))
 ·obtain ⟨NX',hq,hN'⟩:=hN;refine ⟨m,ch,kv,es,clock,KX,(p,Aw sl' r'.it)::(Y'++Z),NX',AQ ?_,?_,?_,?_,hN'⟩
  ·rw [BH hX];simp only [AN,AP,BH hq];((try simp only [AN,AP,Aa,AR]);(try ac_rfl))
  ·have:=hF.map;rw [show BA (P++p::Q) (A++r'::B)=BA (P++p::Q) (A++r::B) from JR hl (hk ▸ hm) (hk'.trans hk.symm)];exact this
  ·have e:keysOf (A++r'::B)=keysOf (A++r::B):=by simp [keysOf,hk',hk]
   show StrO KX kv (keysOf (A++r'::B));rw [e];exact hF.keys
  ·exact RowsR.put hl (List.Perm.refl _) hv h3
 ·refine ⟨m,kv,es,clock,?_,DR hl hm hk⟩;have hmem:∀x,x∈((b,spO m kv fl ch)::(m,Obj.map es clock)::(KX++(RX++NX)))→x∈L':=fun x hx=>hL _ (hp.mem_iff.2 hx);exact ⟨Cb (hmem _ (List.mem_cons_self ..)) 4,.inl (hmem _ (by simp)),hF.map,StrO.rl hF.keys (fun x hx=>hmem _ (by simp [hx])),hF.rows.len,hF.rows.cell (fun x hx=>hmem _ (by simp [hx]))⟩
def NK (k:List UInt8)(l:List TVer)(nt:Nts):Nts:=l.foldl (fun nt v=>Di nt (Lx k v) (true,[])) nt
abbrev Li (bl bd bg bs bk b:Nat)(kp:TVer)(g:Nat)(k:List UInt8)(XN:LH):LH:=
 (bl,stO kp.fAt)::(bd,.cells #[.bool kp.fDel] 4 (0,0))::(bg,.cells #[.int .i64 g] 3 (0,0))::(bs,.cells #[pt b] 99 (0,0))::(bk,.cells #[BW k] 9 (0,0))::XN
theorem AJi {bl bd bg bs bk b m ch g0:Nat}{kv:Value}{fl:TStamp}{kp:TVer}{k:List UInt8}{vs:List TVer}{nt:Nts}(hvs:∀v∈vs,AU v.fAt=true)(hg:g0+vs.length≤1000000000)(hkl:k.length≤1000):
  Clo ω 224 #[pt bl,pt bd,pt bg,pt bs,pt bk] (CD kp) vs (fun done I G=>∃XN,G=Li bl bd bg bs bk b kp (g0+(done.filter (CD kp)).length) k XN∧NoteR I b m ch kv fl XN (NK k (done.filter (CD kp)) nt)):=by
 refine ⟨by kernel_rfl,fun done I I' G ⟨XN,h1,h2⟩ hI=>⟨XN,h1,h2.mono hI⟩,?_⟩;rintro done v rest I G L K hv ⟨XN,rfl,hN⟩ hk;have hvr:=hvs v (by rw [hv];simp);have hfl:(done.filter (CD kp)).length≤done.length:=List.length_filter_le ..;have hlen:done.length+1≤vs.length:=by rw [hv];simp
 show CT ω 224 #[vv v,pt bl,pt bd,pt bg,pt bs,pt bk] K I _;refine AHY ?_;unfold XF;refine AM (fun q=>?_);have hfilt:(done++[v]).filter (CD kp)=if CD kp v=true then done.filter (CD kp)++[v] else done.filter (CD kp):=by
  rw [List.filter_append];by_cases h:CD kp v=true <;> simp [h]
 rw [hfilt] at hk;have old:∀(ho:CD kp v=true) (p7 p8:Value),p8= .bool true→Jo ω (pt bg) (pt bs) (pt bk) (pt q) p7 p8 (fun v=>Gh (K v)) I ((q,Na v)::(Li bl bd bg bs bk b kp (g0+(done.filter (CD kp)).length) k XN++L)):=by
  rintro ho p7 p8 rfl;rw [ho] at hk;simp only [if_true] at hk;unfold Jo;simp only [Li,List.cons_append];refine rdb ?_;try simp only [SSd,Nat.reduceAdd]
  rw [wrap_i64 _ (by omega)];refine st1 rfl ?_;refine rdb ?_;refine rdb ?_;refine rdB rfl ?_;refine call (Cal.perm (L':=XN++((q,Na v)::(bl,stO kp.fAt)::(bd,.cells #[.bool kp.fDel] 4 (0,0))::(bg,.cells #[.int .i64 ((g0+(done.filter (CD kp)).length:Nat)+1)] 3 (0,0))::(bs,.cells #[pt b] 99 (0,0))::(bk,.cells #[BW k] 9 (0,0))::L)) (AQ (by ((try simp only [AN,AP,Aa,AR]);(try ac_rfl)))) ?_);refine My hN hvr (by omega) (fun X' I' hI' h'=>?_);have h:=hk I' (Li bl bd bg bs bk b kp (g0+(done.filter (CD kp)++[v]).length) k X') hI' ⟨X',rfl,by unfold NK;rw [List.foldl_append];exact h'⟩;have e:((g0+(done.filter (CD kp)++[v]).length:Nat):Int)=((g0+(done.filter (CD kp)).length:Nat):Int)+1:=by simp;omega
  simp only [Li,List.cons_append] at h;rw [e] at h;exact Gh.to ((bl,stO kp.fAt)::(bd,.cells #[.bool kp.fDel] 4 (0,0))::(bg,.cells #[.int .i64 ((g0+(done.filter (CD kp)).length:Nat)+1)] 3 (0,0))::(bs,.cells #[pt b] 99 (0,0))::(bk,.cells #[BW k] 9 (0,0))::(X'++L)) (Gh.done h)
 have new:∀(ho:CD kp v=false),Gh (K (.bool false)) I ((q,Na v)::(Li bl bd bg bs bk b kp (g0+(done.filter (CD kp)).length) k XN++L)):=by
  intro ho;rw [ho] at hk;exact Gh.drop (List.sublist_cons_self ..) (Gh.done (hk I _ (Ext.refl _) ⟨XN,rfl,hN⟩))
 simp only [Li,List.cons_append] at old new ⊢;refine rdB rfl ?_;try simp only [SSd,Nat.reduceAdd]
 refine rdP [.int .i64 v.fAt.fWall,.int .i64 v.fAt.fLogic] rfl rfl ?_;refine call (BE (x:=kp.fAt) (y:=v.fAt) ?_);refine AH (fun e=>?_) (fun e=>?_)
 ·refine rdb ?_;refine AH (fun e2=>?_) (fun e2=>?_)
  ·try simp only [SSd,Nat.reduceAdd]
   refine rdP [.int .i64 v.fAt.fWall,.int .i64 v.fAt.fLogic] rfl rfl ?_;refine rdB rfl ?_;try simp only [SSd,Nat.reduceAdd]
   refine AD (fun e3=>?_) (fun e3=>?_)
   ·exact old (by simp only [CD];rw [e2,e3];simp) _ _ (by rw [e3])
   ·have h:=new (by simp only [CD];rw [e,e3];simp);rw [e3];exact h
  ·exact new (by simp only [CD];rw [e,Bool.eq_false_iff.2 e2];simp)
 ·have e':bhd kp.fAt v.fAt=true:=by simpa using e
  exact old (by simp only [CD];rw [e'];simp) _ _ rfl
end
def HR (fl:TStamp)(rows:List Row)(i:Nat):List Row:=Bq ((rows.take i).map (CJ fl))++rows.drop i
def JN (fl:TStamp)(r:Row):Nat:=r.vs.length - (CJ fl r).vs.length
def EN (fl:TStamp)(rows:List Row):Nat:=(rows.map (JN fl)).sum
def OJ (fl:TStamp)(nt:Nts)(r:Row):Nts:=match upTo r.vs fl with
 |none=>nt
 |some k=>NK r.key (r.vs.filter (CD k)) nt
def FQ (fl:TStamp)(rows:List Row)(nt:Nts):Nts:=rows.foldl (OJ fl) nt
def OW (sp:Sp)(b:TStamp)(nt:Nts):Nts:=if AU b=false then nt else FQ (Cn sp b) sp.rows (if bhd b sp.floor=true then Di nt [102] (false,stF b) else nt)
theorem ABr {fl:TStamp}{rows:List Row}(hs:SrtK (keysOf rows))(i:Nat):SrtK (keysOf (HR fl rows i)):=by
 have h:(keysOf (HR fl rows i)).Sublist (keysOf rows):=by
  unfold HR;conv=>rhs;rw [←List.take_append_drop i rows]
  simp only [keysOf,List.map_append];refine List.Sublist.append ?_ (List.Sublist.refl _);have e:(rows.take i).map (·.key)=((rows.take i).map (CJ fl)).map (·.key):=by rw [List.map_map];exact List.map_congr_left fun x _=>(GR fl x).symm
  rw [e];exact List.Sublist.map _ List.filter_sublist
 exact List.Pairwise.sublist h hs
theorem AFU {fl:TStamp}{rows:List Row}{i:Nat}(hi:i < rows.length):HR fl rows i=Bq ((rows.take i).map (CJ fl))++rows[i]::rows.drop (i+1):=by
 unfold HR;rw [List.drop_eq_getElem_cons hi]
theorem Vi {fl:TStamp}{rows:List Row}{i:Nat}(hi:i < rows.length):HR fl rows (i+1)=if BO (CJ fl rows[i])=true then Bq ((rows.take i).map (CJ fl))++rows.drop (i+1) else Bq ((rows.take i).map (CJ fl))++CJ fl rows[i]::rows.drop (i+1):=by
 unfold HR;rw [take_snoc hi,List.map_append];unfold Bq;rw [List.filter_append];by_cases h:BO (CJ fl rows[i])=true <;> simp [h]
theorem ABf (fl:TStamp)(r:Row):JN fl r+(CJ fl r).vs.length=r.vs.length:=by
 have:=(IE fl r).length_le;unfold JN;omega
theorem Lb {α:Type}(f:α→Bool):∀l:List α,(l.filter f).length+(l.filter fun x=> !f x).length=l.length
 |[]=>rfl
 |x::l=>by
  have:=Lb f l;by_cases h:f x=true <;> simp [h] <;> omega
theorem Rg {fl:TStamp}{r:Row}{k:TVer}(h:upTo r.vs fl=some k):JN fl r=(r.vs.filter (CD k)).length:=by
 have e:(CJ fl r).vs=r.vs.filter fun v=> !CD k v:=by unfold CJ;rw [h]
 have:=Lb (CD k) r.vs;unfold JN;rw [e];omega
theorem Rh {fl:TStamp}{r:Row}(h:upTo r.vs fl=none):JN fl r=0:=by
 have e:(CJ fl r).vs=r.vs:=by unfold CJ;rw [h]
 unfold JN;rw [e];omega
theorem Qi (rows:List Row):Ah (Bq rows)=Ah rows:=by
 induction rows with
 |nil=>rfl
 |cons r rs ih=>
  unfold Bq Ah at *;rw [List.filter_cons];by_cases h:BO r=true
  ·have hv:r.vs=[]:=by
    simp [BO] at h;exact h.1
   simp [h,hv];exact ih
  ·simp [h];exact ih
theorem KO (fl:TStamp)(rows:List Row):Ah (rows.map (CJ fl))+EN fl rows=Ah rows:=by
 induction rows with
 |nil=>rfl
 |cons r rs ih=>
  have:=ABf fl r;simp [Ah,EN] at ih ⊢;omega
theorem Ri {fl:TStamp}{rows:List Row}{i:Nat}(hi:i < rows.length):EN fl (rows.take (i+1))=EN fl (rows.take i)+JN fl rows[i]:=by
 unfold EN;rw [take_snoc hi,List.map_append,List.sum_append];simp only [List.map_cons,List.map_nil,List.sum_cons,List.sum_nil,Nat.add_zero]
theorem RR {fl:TStamp}{rows:List Row}{i:Nat}(hi:i < rows.length)(nt:Nts):FQ fl (rows.take (i+1)) nt=OJ fl (FQ fl (rows.take i) nt) rows[i]:=by
 unfold FQ;rw [take_snoc hi,List.foldl_append];rfl
section
variable {ω:Om}{I:Imm}{L:LH}{K:Value→M}
theorem NQ {b bl bd bg bb bs bk p:Nat}{kp:TVer}{g i:Nat}{k:List UInt8}{A B:List Row}{r:Row}{fl below:TStamp}{nt:Nts}{ps:List Nat}{sl:Value}{Y XN R XC F:LH}{m ch:Nat}{kv:Value}{Kn0:(Value×Unit)→M}
  (hm:Mid A k B) (hkr:r.key=k) (hs:SrtK (keysOf (A++r::B))) (hlen:(A++r::B).length≤100000000) (hvs:∀v∈r.vs,AU v.fAt=true) (hg:g+r.vs.length≤1000000000) (hkl:k.length≤1000) (hi:i < 1000000000)
  (hv:VsO Y sl r.vs) (hN:NoteR I b m ch kv fl XN nt)
  (hclose:∀I' r' sl' Y' XN' X' nt',Ext I I'→r'.key=k→VsO Y' sl' r'.vs→NoteR I' b m ch kv fl XN' nt'→X'.Perm ((p,Aw sl' r'.it)::(Y'++(XN'++R)))→SpP I' b ps X' ⟨A++r'::B,fl⟩ nt')
  (hL:L.Perm ((p,Aw sl r.it)::(Y++(Li bl bd bg bs bk b kp g k XN++((bb,stO below)::(R++(XC++F)))))))
  (hk:∀I' X',Ext I I'→SpR I' b X' ⟨if BO ⟨k,r.vs.filter (fun v=> !CD kp v),r.it⟩=true then A++B else A++⟨k,r.vs.filter (fun v=> !CD kp v),r.it⟩::B,fl⟩ (NK k (r.vs.filter (CD kp)) nt)→
   Gh (Kn0 (.int .i64 ((i:Int)+1),())) I' ((bg,.cells #[.int .i64 ((g+(r.vs.filter (CD kp)).length:Nat):Int)] 3 (0,0))::(bb,stO below)::(bs,.cells #[pt b] 99 (0,0))::(XC++(X'++F)))):
  Ju ω (pt bs) (pt bg) (pt bk) (pt p) (pt bl) (pt bd) (.int .i64 i) (fun s=>Gh (Kn0 s)) (fun v=>Gh (K v)) I L:=by
 have hmem:(p,Aw sl r.it)∈L:=hL.mem_iff.2 (List.mem_cons_self ..);unfold Ju;try simp only [SSd,Nat.reduceAdd]
 refine rd1 (Cell.own hmem rfl) ?_;have hvl:r.vs.length≤1000000000:=by omega
 refine CI (Cal.perm (L':=Y++(Li bl bd bg bs bk b kp g k XN++((p,Aw sl r.it)::(bb,stO below)::(R++(XC++F))))) (AQ (by rw [BH hL];((try simp only [AN,AP,Aa,AR]);(try ac_rfl)))) ?_);refine Va (G:=Li bl bd bg bs bk b kp g k XN) (AJi (nt:=nt) (m:=m) (ch:=ch) (kv:=kv) (fl:=fl) (g0:=g) hvs hg hkl) hv hvl ⟨XN,rfl,hN⟩ (fun I' G' Y' v' hI ⟨XN',hG',hN'⟩ hv'=>?_);subst hG';obtain ⟨sa,sc,rfl⟩:=hv'.form;refine Gh.perm (L':=(p,Aw sl r.it)::(Y'++(Li bl bd bg bs bk b kp (g+(r.vs.filter (CD kp)).length) k XN'++((bb,stO below)::(R++(XC++F)))))) (AQ (by ((try simp only [AN,AP,Aa,AR]);(try ac_rfl)))) (Gh.done ?_);try simp only [SSd,Nat.reduceAdd]
 refine st1 rfl ?_;have hS2:=hclose I' ⟨k,r.vs.filter (fun v=> !CD kp v),r.it⟩ _ Y' XN' ((p,Aw (.slice sa (r.vs.filter (fun v=> !CD kp v)).length sc) r.it)::(Y'++(XN'++R))) _ hI rfl hv' hN' (List.Perm.refl _);refine rdb ?_;refine rdb ?_;refine call (Cal.perm (L':=((p,Aw (.slice sa (r.vs.filter (fun v=> !CD kp v)).length sc) r.it)::(Y'++(XN'++R)))++((bl,stO kp.fAt)::(bd,.cells #[.bool kp.fDel] 4 (0,0))::(bg,.cells #[.int .i64 ((g+(r.vs.filter (CD kp)).length:Nat):Int)] 3 (0,0))::(bs,.cells #[pt b] 99 (0,0))::(bk,.cells #[BW k] 9 (0,0))::(bb,stO below)::(XC++F))) (AQ (by ((try simp only [AN,AP,Aa,AR]);(try ac_rfl)))) ?_);refine Ma ⟨ps,hS2⟩ hm rfl (by rw [Gn (r:=r) hkr.symm];exact hs) (by simpa using hlen) (fun X3 h3=>?_);unfold Jv;try simp only [SSd,Nat.reduceAdd]
 rw [wrap_i64 _ (by omega)];refine Gh.to ((bg,.cells #[.int .i64 ((g+(r.vs.filter (CD kp)).length:Nat):Int)] 3 (0,0))::(bb,stO below)::(bs,.cells #[pt b] 99 (0,0))::(XC++(X3++F))) ?_;exact hk I' X3 hI h3
theorem Vh (fl:TStamp)(rows:List Row):HR fl rows 0=rows:=by simp [HR,Bq]
theorem ABt (fl:TStamp)(rows:List Row):HR fl rows rows.length=Bq (rows.map (CJ fl)):=by simp [HR]
theorem ABs (fl:TStamp)(rows:List Row)(i:Nat):(HR fl rows i).length≤rows.length:=by
 unfold HR Bq;rw [List.length_append];have h1:=List.length_filter_le (fun r=> !BO r) ((rows.take i).map (CJ fl));simp at h1 ⊢;omega
abbrev Vg (b bs bb bg:Nat)(below:TStamp)(g:Nat)(R:LH):LH:=(bg,.cells #[.int .i64 g] 3 (0,0))::(bb,stO below)::(bs,.cells #[pt b] 99 (0,0))::R
theorem NR {b bs bb:Nat}{rows:List Row}{fl below:TStamp}{nt:Nts}{X F:LH}(hS:SpR I b X ⟨rows,fl⟩ nt)(hok:SpOk ⟨rows,fl⟩)(hlen:rows.length≤100000000)(hn:Ah rows≤100000000)
  (hk:∀I' X',Ext I I'→SpR I' b X' ⟨Bq (rows.map (CJ fl)),fl⟩ (FQ fl rows nt)→K (.tuple #[.int .i64 (EN fl rows:Nat),.int .i64 0]) I' (X'++F)):
  Jw ω (pt bs) (.int .i64 0) (.int .i64 0) (fun v=>Gh (K v)) I ((bb,stO below)::(bs,.cells #[pt b] 99 (0,0))::(X++F)):=by
 have hs:=hok.rise;simp only at hs
 unfold Jw;refine AM (fun bg=>?_);refine st1 rfl ?_;refine rdb ?_;obtain ⟨m0,kv0,es0,clock0,ps0,hV0⟩:=hS.view (L:=(bg,.cells #[.int .i64 0] 3 (0,0))::(bb,stO below)::(bs,.cells #[pt b] 99 (0,0))::(X++F)) (fun x hx=>by simp [hx]);try simp only [SSd,Nat.reduceAdd]
 refine rdC (hV0.head 1 _ rfl) (Ext.refl _) ?_;have hkl:(keysOf rows).length=rows.length:=by simp [keysOf]
 refine CI (HS hV0.keys (by show (keysOf rows).length * 16≤_;rw [hkl];omega) (fun XC cv hC=>Gh.perm (L':=Vg b bs bb bg below 0 (XC++(X++F))) (AQ (by ((try simp only [AN,AP,Aa,AR]);(try ac_rfl)))) (Gh.done ?_)));obtain ⟨ca,cc,rfl⟩:=hC.form;try simp only [SSd,Nat.reduceAdd]
 simp only at hC ⊢
 rw [hkl];have hgt:∀i,EN fl (rows.take i)≤100000000:=by
  intro i;have h1:=KO fl (rows.take i);have h2:Ah (rows.take i)≤Ah rows:=GW (List.take_sublist ..);omega
 refine loop (fun n s I' L'=>Ext I I'∧∃(i:Nat) (X':LH),n+i=rows.length∧s=(.int .i64 i,())∧L'=Vg b bs bb bg below (EN fl (rows.take i)) (XC++(X'++F))∧SpR I' b X' ⟨HR fl rows i,fl⟩ (FQ fl (rows.take i) nt)) rows.length
  ⟨Ext.refl _,0,X,rfl,rfl,rfl,by rw [Vh];exact hS⟩ ?_
 rintro n s I' L' ⟨hI,i,X',hni,rfl,rfl,hS'⟩;unfold TP;try simp only [SSd,Nat.reduceAdd]
 refine AD (fun e=>?_) (fun e=>?_);rotate_left
 ·have hil:i=rows.length:=by simp at e;omega
  subst hil;rw [List.take_length] at hS' ⊢;rw [ABt] at hS';unfold TO;refine rdb ?_;exact Gh.to (X'++F) (Gh.done (hk I' X' hI hS'))
 have hil:i < rows.length:=by simpa using e
 have hok1:=hok.rows rows[i] (List.getElem_mem hil);have hat:=AFU (fl:=fl) hil;have hsrt:SrtK (keysOf (Bq ((rows.take i).map (CJ fl))++rows[i]::rows.drop (i+1))):=hat ▸ ABr hs i;have hclen:(Bq ((rows.take i).map (CJ fl))++rows[i]::rows.drop (i+1)).length≤100000000:=by rw [←hat];exact Nat.le_trans (ABs ..) hlen
 rw [hat] at hS';have hsucc:=Vi (fl:=fl) hil;have hgc:=Ri (fl:=fl) hil;have hnc:=RR (fl:=fl) hil nt;have hgi:=hgt i;have hgs:=hgt (i+1);have hvl:rows[i].vs.length≤100000000:=by
  have h1:Ah [rows[i]]≤Ah rows:=GW (List.singleton_sublist.2 (List.getElem_mem hil));simp [Ah] at h1 hn ⊢;omega
 have hkeyg:EY (keysOf rows) (i:Int)=rows[i].key:=by rw [Ab (by omega)];simp [keysOf]
 generalize rows[i]=r at *;have hm:=hsrt.mid;obtain ⟨ps,hS'⟩:=hS';obtain ⟨p,sl,Y,XN,R,m,ch,kv,hp,hv,hN,hclose,hview⟩:=hS'.open2 hm rfl;obtain ⟨qq,off,c2,hix,hl4,hcc,hcr⟩:=RL.ix (StrO.rl (I:=I') (L:=XC) hC (fun _ h=>h)) (i:=(i:Int)) (by omega) (by rw [hkl];omega);obtain rfl:c2=_:=hcc;rw [hkeyg] at hcr;rw [hkl] at hix;simp only [hix,SSd,Nat.reduceAdd];refine rdC (hcr I' XC (Ext.refl _) (fun _ h=>h) 0 _ rfl) (Ext.refl _) ?_;refine AM (fun bk=>?_);refine st1 rfl ?_;refine AK ?_;try simp only [SSd,Nat.reduceAdd]
 obtain ⟨m',kv',es',clock',hV,hcp⟩:=hview ((bk,.cells #[BW r.key] 9 (0,0))::Vg b bs bb bg below (EN fl (rows.take i)) (XC++(X'++F))) (fun x hx=>by simp [hx]);refine AV ?_;try simp only [SSd,Nat.reduceAdd]
 refine Aq (hV.head 0 _ rfl) (Ext.refl _) ?_;refine AV ?_;refine ⟨_,fun I2 L2 hS=>FS (MapAt.mono hV.at' hS.1 (fun x hx=>hS.2 _ (by simpa using hx))) hV.map,?_⟩;simp only [hcp,lkV,Bool.false_eq_true,if_false,SSd,Nat.reduceAdd];refine rdb ?_;try simp only [SSd,Nat.reduceAdd]
 have hfl:Cells I' ((bk,.cells #[BW r.key] 9 (0,0))::Vg b bs bb bg below (EN fl (rows.take i)) (XC++(X'++F))) b 2 [.int .i64 fl.fWall,.int .i64 fl.fLogic]:=by simpa using hV.head.sub (k:=2) (m:=2)
 refine FO hfl (Ext.refl _) rfl ?_;refine call (AFf (hV.cellAt hsrt (Bn hm rfl) hcp) (by omega) (fun pv hpv=>?_));cases hu:upTo r.vs fl with
 |none=>
  rw [hu] at hpv;obtain rfl:pv= .pointer none:=hpv;have en:Bh .eql (.pointer none) (.pointer none)=some (.bool true):=rfl;simp only [en,SSd,Nat.reduceAdd];unfold Jv;try simp only [SSd,Nat.reduceAdd]
  rw [wrap_i64 _ (by omega)];have hc:CJ fl r=r:=by unfold CJ;rw [hu]
  rw [hc,hok1.some] at hsucc;have hg0:=Rh hu;rw [hg0] at hgc;have hn1:FQ fl (rows.take (i+1)) nt=FQ fl (rows.take i) nt:=by rw [hnc];unfold OJ;rw [hu]
  refine Gh.to (Vg b bs bb bg below (EN fl (rows.take i)) (XC++(X'++F))) (Gh.done ⟨n - 1,by omega,hI,i+1,X',by omega,rfl,by rw [hgc];rfl,?_⟩);rw [hn1,hsucc];exact ⟨ps,hS'⟩
 |some kp=>
  rw [hu] at hpv;obtain ⟨qq,off2,rfl,hc⟩:=hpv;obtain ⟨g1,g2,g3⟩:=MY hc;try simp only [SSd,Nat.reduceAdd]
  refine AK ?_;try simp only [SSd,Nat.reduceAdd]
  refine BX g1 (Ext.refl _) rfl ?_;refine Aq g2 (Ext.refl _) ?_;have hcv:CJ fl r=⟨r.key,r.vs.filter (fun v=> !CD kp v),r.it⟩:=by unfold CJ;rw [hu]
  have hg0:=Rg hu;rw [hcv] at hsucc;rw [hg0] at hgc;have hn1:FQ fl (rows.take (i+1)) nt=NK r.key (r.vs.filter (CD kp)) (FQ fl (rows.take i) nt):=by rw [hnc];unfold OJ;rw [hu]
  have fin:∀I2 X2,Ext I' I2→SpR I2 b X2 ⟨if BO ⟨r.key,r.vs.filter (fun v=> !CD kp v),r.it⟩=true then Bq ((rows.take i).map (CJ fl))++rows.drop (i+1) else Bq ((rows.take i).map (CJ fl))++⟨r.key,r.vs.filter (fun v=> !CD kp v),r.it⟩::rows.drop (i+1),fl⟩ (NK r.key (r.vs.filter (CD kp)) (FQ fl (rows.take i) nt))→
    Gh ((fun s'=>fun I2 L2=>∃m',m' < n∧Ext I I2∧∃i X',m'+i=rows.length∧s'=(Value.int .i64 (i:Nat),())∧L2=Vg b bs bb bg below (EN fl (rows.take i)) (XC++(X'++F))∧SpR I2 b X' ⟨HR fl rows i,fl⟩ (FQ fl (rows.take i) nt)) (.int .i64 ((i:Int)+1),())) I2 ((bg,.cells #[.int .i64 ((EN fl (rows.take i)+(r.vs.filter (CD kp)).length:Nat):Int)] 3 (0,0))::(bb,stO below)::(bs,.cells #[pt b] 99 (0,0))::(XC++(X2++F))):=by
   intro I2 X2 hI2 h2;refine Gh.done ⟨n - 1,by omega,hI.trans hI2,i+1,X2,by omega,rfl,by rw [hgc],?_⟩;rw [hn1,hsucc];exact h2
  refine And.intro ?_ ?_
  ·refine AM (fun bl=>Bv (Ext.refl _) ?_);refine AM (fun bd=>Bv (Ext.refl _) ?_);refine stB rfl rfl (AE rfl) ?_;refine Bv (Ext.refl _) ?_;refine st1 rfl ?_;exact NQ (XC:=XC) (Y:=Y) (XN:=XN) (R:=R) (g:=EN fl (rows.take i)) (i:=i) (kp:=kp) (below:=below) (F:=F) hm rfl hsrt hclen (fun v hv=>(hok1.vs v hv).right) (by omega) (by have:=hok1.keyL;omega) (by omega) hv hN hclose (AQ (by simp only [AN,AP,BH hp];((try simp only [AN,AP,Aa,AR]);(try ac_rfl)))) fin
  ·refine AM (fun bd=>Bv (Ext.refl _) ?_);refine AM (fun bl=>Bv (Ext.refl _) ?_);refine stB rfl rfl (AE rfl) ?_;refine Bv (Ext.refl _) ?_;refine st1 rfl ?_;exact NQ (XC:=XC) (Y:=Y) (XN:=XN) (R:=R) (g:=EN fl (rows.take i)) (i:=i) (kp:=kp) (below:=below) (F:=F) hm rfl hsrt hclen (fun v hv=>(hok1.vs v hv).right) (by omega) (by have:=hok1.keyL;omega) (by omega) hv hN hclose (AQ (by simp only [AN,AP,BH hp];((try simp only [AN,AP,Aa,AR]);(try ac_rfl)))) fin
theorem OU {b:Nat}{sp:Sp}{below:TStamp}{nt:Nts}{X F:LH}(hS:SpR I b X sp nt)(hok:SpOk sp)(hlen:sp.rows.length≤100000000)(hn:Ah sp.rows≤100000000)
  (hk:∀X' I',Ext I I'→SpR I' b X' (colS sp below) (OW sp below nt)→K (.tuple #[.int .i64 (Gy sp below).1,.int .i64 (Gy sp below).2]) I' (X'++F)):
  CT ω 162 #[pt b,sv below] K I (X++F):=by
 obtain ⟨rows,fl⟩:=sp;obtain ⟨ps,m,ch,kv,es,clock,KX,RX,NX,hp,hF⟩:=hS;simp only at hp hF hlen hn
 by_cases hr:AU below=false
 ·have e1:colS ⟨rows,fl⟩ below=⟨rows,fl⟩:=by unfold colS;rw [if_pos hr]
  have e2:OW ⟨rows,fl⟩ below nt=nt:=by unfold OW;rw [if_pos hr]
  have e3:Gy ⟨rows,fl⟩ below=(0,1):=by unfold Gy;rw [if_pos hr]
  rw [e1,e2] at hk;have hk':=hk X I (Ext.refl _) ⟨ps,m,ch,kv,es,clock,KX,RX,NX,hp,hF⟩;rw [e3] at hk';refine ACG ?_;unfold TQ;refine AM (fun bs=>AM (fun bb=>?_));refine rdB rfl ?_;refine call (BZ (x:=below) ?_);simp only [hr,Bool.not_false,SSd,Nat.reduceAdd];exact Gh.to (X++F) (Gh.done hk')
 have e1:colS ⟨rows,fl⟩ below=⟨Bq (rows.map (CJ (Cn ⟨rows,fl⟩ below))),Cn ⟨rows,fl⟩ below⟩:=by unfold colS;rw [if_neg hr]
 have e2:OW ⟨rows,fl⟩ below nt=FQ (Cn ⟨rows,fl⟩ below) rows (if bhd below fl=true then Di nt [102] (false,stF below) else nt):=by unfold OW;rw [if_neg hr]
 have e3:Gy ⟨rows,fl⟩ below=(((EN (Cn ⟨rows,fl⟩ below) rows:Nat):Int),0):=by
  unfold Gy;rw [if_neg hr,e1];have h1:=KO (Cn ⟨rows,fl⟩ below) rows;have h2:=Qi (rows.map (CJ (Cn ⟨rows,fl⟩ below)));simp only [h2];congr 1
  omega
 rw [e1,e2] at hk;rw [e3] at hk;simp only at hk
 refine Cal.perm (L':=(b,spO m kv fl ch)::(m,.map es clock)::(KX++(RX++(NX++F)))) (AQ (by rw [AP,BH hp];((try simp only [AN,AP,Aa,AR]);(try ac_rfl)))) ?_;refine ACG ?_;unfold TQ;refine AM (fun bs=>AM (fun bb=>?_));refine rdB rfl ?_;refine call (BZ (x:=below) ?_);simp only [hr,Bool.not_true,SSd,Nat.reduceAdd];refine AK ?_;refine Ae rfl ?_;refine AV ?_;try simp only [SSd,Nat.reduceAdd]
 refine Af [.int .i64 fl.fWall,.int .i64 fl.fLogic] rfl rfl ?_;have hok2:SpOk ⟨rows,Cn ⟨rows,fl⟩ below⟩:=⟨hok.rise,hok.rows,by
  unfold Cn;simp only
  split
  ·simpa using hr
  ·exact hok.floor⟩
 have hr':AU below=true:=by simpa using hr
 by_cases hb:bhd below fl=true
 ·have ef:Cn ⟨rows,fl⟩ below=below:=if_pos hb;rw [ef,if_pos hb] at hk;rw [ef] at hok2;refine call (BE (x:=below) (y:=fl) ?_);simp only [hb,SSd,Nat.reduceAdd];refine rdb ?_;refine rdB rfl ?_;try simp only [SSd,Nat.reduceAdd]
  refine stP _ rfl rfl rfl rfl ?_;try simp only [SSd,Nat.reduceAdd]
  refine rdb ?_;refine CI (Cal.perm (L':=((b,spO m kv below ch)::(m,.map es clock)::(KX++(RX++NX)))++((bb,stO below)::(bs,.cells #[pt b] 99 (0,0))::F)) (AQ (by ((try simp only [AN,AP,Aa,AR]);(try ac_rfl)))) ?_);refine LB (sp:=⟨rows,below⟩) (ps:=ps) (nt:=nt) ⟨m,ch,kv,es,clock,KX,RX,NX,List.Perm.refl _,hF.map,hF.keys,hF.rows,hF.nts⟩ hr' (fun X' I' hI' h'=>?_);refine Gh.perm (L':=(bb,stO below)::(bs,.cells #[pt b] 99 (0,0))::(X'++F)) (AQ (by ((try simp only [AN,AP,Aa,AR]);(try ac_rfl)))) (Gh.done ?_);exact NR ⟨ps,h'⟩ hok2 hlen hn (fun I2 X2 hI2 h2=>hk X2 I2 (hI'.trans hI2) h2)
 ·have ef:Cn ⟨rows,fl⟩ below=fl:=if_neg hb;rw [ef,if_neg hb] at hk;rw [ef] at hok2;refine CI (BE (x:=below) (y:=fl) ?_);refine Gh.perm (L':=(bb,stO below)::(bs,.cells #[pt b] 99 (0,0))::(X++F)) (AQ (by simp only [AN,AP,BH hp];((try simp only [AN,AP,Aa,AR]);(try ac_rfl)))) (Gh.done ?_);simp only [Bool.eq_false_iff.2 hb,SSd,Nat.reduceAdd];exact NR ⟨ps,m,ch,kv,es,clock,KX,RX,NX,hp,hF⟩ hok2 hlen hn (fun I2 X2 hI2 h2=>hk X2 I2 hI2 h2)
end
theorem DO (A B:List Row):intsOf (A++B)=intsOf A++intsOf B:=by simp [intsOf]
theorem BP (r:Row)(B:List Row):intsOf (r::B)=(if r.it.txn=0 then [] else [itF r])++intsOf B:=by
 unfold intsOf;rw [List.filter_cons];by_cases h:r.it.txn=0 <;> simp [h]
theorem DL (A B:List Row):Ad (A++B)=Ad A++Ad B:=by simp [Ad]
theorem BB (r:Row)(B:List Row):Ad (r::B)=r.vs.map (FJ r.key)++Ad B:=by simp [Ad]
theorem Cp (rows:List Row):(Ad rows).length=Ah rows:=by
 induction rows with
 |nil=>rfl
 |cons r rs ih=>rw [BB];simp [Ah] at ih ⊢;omega
theorem ED {A:List Row}{x:TIntent}(h:x∈intsOf A):∃r∈A,x.fKey=r.key:=by
 obtain ⟨r,hr,rfl⟩:=List.mem_map.1 h;exact ⟨r,(List.mem_filter.1 hr).1,rfl⟩
theorem HZ {A:List Row}{x:TVersion}(h:x∈Ad A):∃r∈A,x.fKey=r.key∧∃v∈r.vs,x=FJ r.key v:=by
 obtain ⟨r,hr,hx⟩:=List.mem_flatMap.1 h;obtain ⟨v,hv,rfl⟩:=List.mem_map.1 hx;exact ⟨r,hr,rfl,v,hv,rfl⟩
def Dd (rows:List Row)(k:List UInt8):Option TIntent:=match rowOf rows k with
 |none=>none
 |some r=>if r.it.txn=0 then none else some (itF r)
theorem Ik {rows:List Row}(hs:SrtK (keysOf rows))(k:List UInt8):(intsOf rows).find? (fun x=>x.fKey==k)=Dd rows k:=by
 unfold Dd;rcases place k hs with ⟨A,r,B,e,hk,hm⟩|⟨A,B,e,hm⟩
 ·subst e;rw [Bn hm hk,DO,BP,List.find?_append,List.find?_append];have h1:(intsOf A).find? (fun x=>x.fKey==k)=none:=List.find?_eq_none.2 fun x hx=>by
   obtain ⟨y,hy,e⟩:=ED hx;rw [e];simpa using FI (hm.lt y hy)
  have h2:(intsOf B).find? (fun x=>x.fKey==k)=none:=List.find?_eq_none.2 fun x hx=>by
   obtain ⟨y,hy,e⟩:=ED hx;rw [e];simpa using DI (hm.gt y hy)
  rw [h1,h2];by_cases h:r.it.txn=0 <;> simp [h,itF,hk]
 ·subst e;rw [Ew hm.notin];exact List.find?_eq_none.2 fun x hx=>by
   obtain ⟨y,hy,e⟩:=ED hx;rw [e];simpa using hm.notin y hy
def At (V:List TVersion)(k:List UInt8)(m:TStamp):Option TVersion:=V.reverse.find? fun v=>v.fKey==k&& !bhd v.fAt m
def Fx (rows:List Row)(k:List UInt8)(m:TStamp):Option TVersion:=match rowOf rows k with
 |none=>none
 |some r=>(upTo r.vs m).map (FJ k)
theorem Rc {V:List TVersion}{k:List UInt8}{m:TStamp}(h:∀x∈V,x.fKey≠k):At V k m=none:=by
 unfold At;exact List.find?_eq_none.2 fun x hx=>by simp [h x (List.mem_reverse.1 hx)]
theorem Ii (A B:List TVersion)(k:List UInt8)(m:TStamp):At (A++B) k m=(At B k m).or (At A k m):=by
 unfold At;rw [List.reverse_append,List.find?_append]
theorem VP (vs:List TVer)(k:List UInt8)(m:TStamp):At (vs.map (FJ k)) k m=(upTo vs m).map (FJ k):=by
 unfold At upTo;rw [←List.map_reverse,List.find?_map];simp [Function.comp_def,FJ]
theorem GV {rows:List Row}(hs:SrtK (keysOf rows))(k:List UInt8)(m:TStamp):At (Ad rows) k m=Fx rows k m:=by
 unfold Fx;have no:∀{A:List Row},(∀x∈A,x.key≠k)→At (Ad A) k m=none:=fun h=>Rc fun x hx=>by
  obtain ⟨y,hy,e,_⟩:=HZ hx;rw [e];exact h y hy
 rcases place k hs with ⟨A,r,B,e,hk,hm⟩|⟨A,B,e,hm⟩
 ·subst e;rw [Bn hm hk,DL,BB,Ii,Ii,no (fun x hx=>FI (hm.lt x hx)),no (fun x hx=>DI (hm.gt x hx)),hk,VP];simp
 ·subst e;rw [Ew hm.notin];exact no hm.notin
abbrev KR:TStamp:=⟨9007199254740991,65535⟩
theorem Vy {vs:List TVer}(h:∀v∈vs,VerOk v):upTo vs KR=vs.getLast? :=by
 unfold upTo;rw [List.getLast?_eq_head?_reverse];cases hr:vs.reverse with
 |nil=>rfl
 |cons v l=>
  have hv:v∈vs:=List.mem_reverse.1 (by rw [hr];exact List.mem_cons_self ..);have:=DM (h v hv).right;have hb:bhd v.fAt KR=false:=by simp [bhd];omega
  simp [hb]
theorem Po {sp:Sp}(h:SpOk sp)(k:List UInt8):Fx sp.rows k KR=(Dh sp.rows k).getLast?.map (FJ k):=by
 unfold Fx Dh;cases hr:rowOf sp.rows k with
 |none=>rfl
 |some r=>
  show Option.map _ (upTo r.vs KR)=Option.map _ r.vs.getLast?;rw [Vy (h.rows r (Ca hr)).vs]
def FC (x:TIntent):Bool→List TIntent→List TIntent
 |d,[]=>if d then [] else [x]
 |d,i::r=>(if !d&& !blt i.fKey x.fKey then [x] else [])++((if i.fKey≠x.fKey then [i] else [])++FC x (d|| !blt i.fKey x.fKey) r)
theorem Nr {x:TIntent}{B:List TIntent}:∀{A:List TIntent},(∀i∈A,blt i.fKey x.fKey=true)→FC x false (A++B)=A++FC x false B
 |[],_=>rfl
 |i::A,h=>by
  have h1:=h i (List.mem_cons_self ..);simp only [List.cons_append,FC,h1,Bool.not_true,Bool.and_false,Bool.or_false];rw [if_neg (by simp),if_pos (FI h1),Nr (fun y hy=>h y (List.mem_cons_of_mem _ hy))];rfl
theorem IW {x:TIntent}:∀{A:List TIntent},(∀i∈A,i.fKey≠x.fKey)→FC x true A=A
 |[],_=>rfl
 |i::A,h=>by
  simp only [FC,Bool.not_true,Bool.false_and,Bool.true_or];rw [if_neg (by simp),if_pos (h i (List.mem_cons_self ..)),IW (fun y hy=>h y (List.mem_cons_of_mem _ hy))];rfl
theorem Tg {x:TIntent}{A:List TIntent}(h:∀i∈A,blt x.fKey i.fKey=true):FC x false A=x::A:=by
 cases A with
 |nil=>rfl
 |cons i A=>
  have h1:=h i (List.mem_cons_self ..);simp only [FC,CO h1,Bool.not_false,Bool.and_true,Bool.or_true];rw [if_pos trivial,if_pos (DI h1),IW (fun y hy=>DI (h y (List.mem_cons_of_mem _ hy)))];rfl
theorem Uo {rows:List Row}{k:List UInt8}{it:Itn}(hs:SrtK (keysOf rows))(h0:it.txn≠0):FC (itF ⟨k,[],it⟩) false (intsOf rows)=intsOf (FL k it rows):=by
 have lt:∀{A B:List Row},Mid A k B→∀i∈intsOf A,blt i.fKey (itF ⟨k,[],it⟩).fKey=true:=fun hm i hi=>by
  obtain ⟨y,hy,e⟩:=ED hi;rw [e];exact hm.lt y hy
 have gt:∀{A B:List Row},Mid A k B→∀i∈intsOf B,blt (itF ⟨k,[],it⟩).fKey i.fKey=true:=fun hm i hi=>by
  obtain ⟨y,hy,e⟩:=ED hi;rw [e];exact hm.gt y hy
 rcases place k hs with ⟨A,r,B,e,hk,hm⟩|⟨A,B,e,hm⟩
 ·subst e;rw [Ea hk hm,DO,DO,Nr (lt hm),BP,BP];congr 1
  simp only [if_neg h0];by_cases h:r.it.txn=0
  ·rw [if_pos h];simp only [List.nil_append];rw [Tg (gt hm)];rfl
  ·rw [if_neg h];have e1:(itF r).fKey=k:=hk;have e2:(itF ⟨k,[],it⟩).fKey=k:=rfl;simp only [List.cons_append,List.nil_append,FC,e1,e2,Bx,Bool.not_false,Bool.and_true,Bool.or_true];rw [if_pos trivial,if_neg (by simp),IW (fun y hy=>DI (gt hm y hy))];rfl
 ·subst e;rw [Eb hm,DO,DO,Nr (lt hm),BP,Tg (gt hm)];simp only [if_neg h0];rfl
def insL (v:TVersion):Bool→List TVersion→List TVersion
 |d,[]=>if d then [] else [v]
 |d,u::r=>(if !d&&blt v.fKey u.fKey then [v] else [])++(u::insL v (d||blt v.fKey u.fKey) r)
theorem NH {v:TVersion}:∀{A:List TVersion},insL v true A=A
 |[]=>rfl
 |u::A=>by
  simp only [insL,Bool.not_true,Bool.false_and,Bool.true_or];rw [if_neg (by simp),NH];rfl
theorem OQ {v:TVersion}{B:List TVersion}:∀{A:List TVersion},(∀u∈A,blt v.fKey u.fKey=false)→insL v false (A++B)=A++insL v false B
 |[],_=>rfl
 |u::A,h=>by
  have h1:=h u (List.mem_cons_self ..);simp only [List.cons_append,insL,h1,Bool.and_false,Bool.or_false];rw [if_neg (by simp),OQ (fun y hy=>h y (List.mem_cons_of_mem _ hy))];rfl
theorem AFJ {v:TVersion}{A:List TVersion}(h:∀u∈A,blt v.fKey u.fKey=true):insL v false A=v::A:=by
 cases A with
 |nil=>rfl
 |cons u A=>
  simp only [insL,h u (List.mem_cons_self ..),Bool.not_false,Bool.and_true,Bool.or_true];rw [if_pos trivial,NH];rfl
theorem Mb (rows:List Row):intsOf (Bq rows)=intsOf rows:=by
 induction rows with
 |nil=>rfl
 |cons r rs ih=>
  unfold Bq at *;rw [List.filter_cons];by_cases h:BO r=true
  ·have h0:r.it.txn=0:=by simp [BO] at h;exact h.2
   simp only [h,Bool.not_true,Bool.false_eq_true,if_false];rw [ih,BP,if_pos h0];rfl
  ·simp only [Bool.eq_false_iff.2 h,Bool.not_false,if_true];rw [BP,BP,ih]
theorem IR (rows:List Row):Ad (Bq rows)=Ad rows:=by
 induction rows with
 |nil=>rfl
 |cons r rs ih=>
  unfold Bq at *;rw [List.filter_cons];by_cases h:BO r=true
  ·have h0:r.vs=[]:=by simp [BO] at h;exact h.1
   simp only [h,Bool.not_true,Bool.false_eq_true,if_false];rw [ih,BB,h0];rfl
  ·simp only [Bool.eq_false_iff.2 h,Bool.not_false,if_true];rw [BB,BB,ih]
theorem AAx {A B:List Row}{r:Row}{k:List UInt8}{yes:Bool}{a:TStamp}(hm:Mid A k B)(hk:r.key=k):intsOf (Bq (Ly k (HK yes a) (A++r::B)))=(intsOf (A++r::B)).filter fun x=>x.fKey != k:=by
 rw [Mb,Ee hm hk,DO,DO,BP,BP,List.filter_append,List.filter_append];have h1:(intsOf A).filter (fun x=>x.fKey != k)=intsOf A:=List.filter_eq_self.2 fun x hx=>by
  obtain ⟨y,hy,e⟩:=ED hx;rw [e];simpa using FI (hm.lt y hy)
 have h2:(intsOf B).filter (fun x=>x.fKey != k)=intsOf B:=List.filter_eq_self.2 fun x hx=>by
  obtain ⟨y,hy,e⟩:=ED hx;rw [e];simpa using DI (hm.gt y hy)
 rw [h1,h2];congr 1
 have e:(HK yes a r).it.txn=0:=rfl;rw [if_pos e];by_cases h:r.it.txn=0 <;> simp [h,itF,hk]
theorem AAw {A B:List Row}{r:Row}{k:List UInt8}{a:TStamp}(hm:Mid A k B)(hk:r.key=k):Ad (Bq (Ly k (HK true a) (A++r::B)))=insL ⟨k,a,r.it.ver.fDel,r.it.ver.fValue⟩ false (Ad (A++r::B)):=by
 rw [IR,Ee hm hk,DL,DL,BB,BB];rw [OQ (fun u hu=>by
  obtain ⟨y,hy,e,_⟩:=HZ hu;rw [e];exact CO (hm.lt y hy)),OQ (fun u hu=>by
  obtain ⟨v,hv,rfl⟩:=List.mem_map.1 hu;show blt k r.key=false;rw [hk];exact Bx k),AFJ (fun u hu=>by
  obtain ⟨y,hy,e,_⟩:=HZ hu;rw [e];exact hm.gt y hy)]
 simp [HK,FJ,hk]
theorem Uz {A B:List Row}{r:Row}{k:List UInt8}{a:TStamp}(hm:Mid A k B)(hk:r.key=k):Ad (Bq (Ly k (HK false a) (A++r::B)))=Ad (A++r::B):=by
 rw [IR,Ee hm hk,DL,DL,BB,BB];simp [HK]
def Cl (V:List TVersion)(fl:TStamp)(v:TVersion):Bool:=match At V v.fKey fl with
 |none=>true
 |some k=> !(bhd k.fAt v.fAt||(k.fAt.fWall==v.fAt.fWall&&k.fAt.fLogic==v.fAt.fLogic)&&k.fDel)
theorem ABq (rows:List Row)(fl:TStamp):intsOf (Bq (rows.map (CJ fl)))=intsOf rows:=by
 rw [Mb];induction rows with
 |nil=>rfl
 |cons r rs ih=>rw [List.map_cons,BP,BP,ih,OV];congr 2;unfold itF;rw [OV,GR]
theorem ABp {rows:List Row}(hs:SrtK (keysOf rows))(fl:TStamp):Ad (Bq (rows.map (CJ fl)))=(Ad rows).filter (Cl (Ad rows) fl):=by
 rw [IR];have:∀(A B:List Row),SrtK (keysOf (A++B))→Ad (B.map (CJ fl))=(Ad B).filter (Cl (Ad (A++B)) fl):=by
  intro A B;induction B generalizing A with
  |nil=>intro _;rfl
  |cons r B ih=>
   intro hs;have h1:=ih (A++[r]) (by simpa using hs);rw [List.append_assoc,List.singleton_append] at h1;rw [List.map_cons,BB,BB,List.filter_append,h1];congr 1
   have hl:=GV hs r.key fl;have hv:Fx (A++r::B) r.key fl=(upTo r.vs fl).map (FJ r.key):=by unfold Fx;rw [Bn hs.mid rfl]
   rw [hv] at hl;rw [GR];have hkeep:∀v:TVer,Cl (Ad (A++r::B)) fl (FJ r.key v)=match upTo r.vs fl with
     |none=>true
     |some k=> !CD k v:=by
    intro v;unfold Cl;rw [show (FJ r.key v).fKey=r.key from rfl,hl];cases upTo r.vs fl with
    |none=>rfl
    |some k=>
     simp only [Option.map_some,FJ,CD];congr 2
     rw [Bool.and_comm];congr 1
     rw [Bool.eq_iff_iff];simp only [Bool.and_eq_true,beq_iff_eq];exact ⟨fun h=>⟨h.1.symm,h.2.symm⟩,fun h=>⟨h.1.symm,h.2.symm⟩⟩
   unfold CJ;cases hu:upTo r.vs fl with
   |none=>
    rw [hu] at hkeep;symm
    exact List.filter_eq_self.2 fun x hx=>by
     obtain ⟨v,hv,rfl⟩:=List.mem_map.1 hx;exact hkeep v
   |some k=>
    rw [hu] at hkeep;simp only [List.filter_map,Function.comp_def];congr 1
    exact List.filter_congr fun v _=>(hkeep v).symm
 exact this [] rows hs
section
variable {ω:Om}{I:Imm}{L:LH}{K:Value→M}
structure RefF (I:Imm)(L:LH)(b:Nat)(vV vI:Value)(V:List TVersion)(Is:List TIntent)(fl:TStamp):Prop where
 head:Cells I L b 0 [vV,vI,.int .i64 fl.fWall,.int .i64 fl.fLogic]
 vers:RL TVersionV 5 I [] vV V
 ints:RL TIntentV 6 I [] vI Is
theorem RefF.mono {I':Imm}{L':LH}{b:Nat}{vV vI:Value}{V:List TVersion}{Is:List TIntent}{fl:TStamp}(h:RefF I L b vV vI V Is fl)(hI:Ext I I')(hL:∀x∈L,x∈L'):RefF I' L' b vV vI V Is fl:=
 ⟨h.head.mono hI hL,h.vers.mono (fun x c h=>h.mono hI) hI (fun _ h=>h),h.ints.mono (fun x c h=>h.mono hI) hI (fun _ h=>h)⟩
def Pc:TIntent:=⟨[],0,⟨0,0⟩,false,[]⟩
def CQ:TVersion:=⟨[],⟨0,0⟩,false,[]⟩
abbrev itV (v0 v1:Value)(x:TIntent):List Value:=[v0,.int .i64 x.fTxn,.int .i64 x.fAt.fWall,.int .i64 x.fAt.fLogic,.bool x.fDel,v1]
abbrev veV (v0 v1:Value)(x:TVersion):List Value:=[v0,.int .i64 x.fAt.fWall,.int .i64 x.fAt.fLogic,.bool x.fDel,v1]
theorem Ff {L0:LH}[LSub L0 L]{b:Nat}{vV vI a:Value}{V:List TVersion}{Is:List TIntent}{fl:TStamp}{k:List UInt8}(hR:RefF I L0 b vV vI V Is fl)(hB:Bytes I a k)(hlen:Is.length≤1000000000)
  (hk:∀v0 v1,Bytes I v0 ((Is.find? (fun x=>x.fKey==k)).getD Pc).fKey→Bytes I v1 ((Is.find? (fun x=>x.fKey==k)).getD Pc).fValue→K (.tuple #[.agg (itV v0 v1 ((Is.find? (fun x=>x.fKey==k)).getD Pc)).toArray,.bool (Is.find? (fun x=>x.fKey==k)).isSome]) I L):
  CT ω 166 #[pt b,a] K I L:=by
 refine AIF ?_;unfold sh166;refine AM (fun b1=>?_);refine loop (fun n s I' L'=>I'=I∧∃j:Nat,n+j=Is.length∧s=(.bool false,.int .i64 j,())∧L'=(b1,.cells #[.slice none 0 0,.int .i64 0,.int .i64 0,.int .i64 0,.bool false,.slice none 0 0] 190 (0,0))::L∧∀x∈Is.take j,x.fKey≠k) Is.length ⟨rfl,0,rfl,rfl,rfl,by simp⟩ ?_;rintro n s I' L' ⟨rfl,j,hnj,rfl,rfl,hA⟩;unfold sh166_1;try simp only [SSd,Nat.reduceAdd]
 refine rdC (hR.head 1 _ rfl) (Ext.refl _) ?_;simp only [RL.len hR.ints,SSd,Nat.reduceAdd];refine AD (fun e=>?_) (fun e=>?_)
 ·have hjl:j < Is.length:=by simpa using e
  obtain ⟨q,off,c,hix,hl,hc,hcc⟩:=RL.ix hR.ints (i:=(j:Int)) (by omega) (by omega);rw [Ab hjl] at hc;obtain ⟨v0,v1,rfl,h0,h1⟩:=hc;have hcc':=hcc I' [] (Ext.refl _) (fun _ h=>h);refine AK ?_;try simp only [SSd,Nat.reduceAdd]
  refine Aq (hR.head 1 _ rfl) (Ext.refl _) ?_;simp only [hix,SSd,Nat.reduceAdd];refine Aq (hcc' 0 _ rfl) (Ext.refl _) ?_;refine BS h0 (Ext.refl _) ?_;refine BS hB (Ext.refl _) ?_;simp only [sEq,SSd,Nat.reduceAdd];have hAll:∀x∈Is.take j,¬(x.fKey==k)=true:=fun x hx=>by simpa using hA x hx
  refine AD (fun e2=>?_) (fun e2=>?_)
  ·have hf:Is.find? (fun x=>x.fKey==k)=some Is[j]:=by
    conv=>lhs;rw [GB hjl]
    rw [List.find?_append,List.find?_eq_none.2 hAll,List.find?_cons,e2];rfl
   rw [hf] at hk;try simp only [SSd,Nat.reduceAdd]
   refine rdC (hR.head 1 _ rfl) (Ext.refl _) ?_;simp only [hix,SSd,Nat.reduceAdd];refine FO hcc' (Ext.refl _) rfl ?_;refine stB rfl rfl ?_ ?_
   ·obtain ⟨_,_,rfl⟩:=Bytes.form h0;obtain ⟨_,_,rfl⟩:=Bytes.form h1;exact AE rfl
   refine rdB rfl ?_;exact Gh.to L (Gh.done (hk v0 v1 h0 h1))
  ·try simp only [SSd,Nat.reduceAdd]
   rw [wrap_i64 _ (by omega)];refine Gh.done ⟨n - 1,by omega,rfl,j+1,by omega,rfl,rfl,fun x hx=>?_⟩;rw [take_snoc hjl] at hx;rcases List.mem_append.1 hx with hx|hx
   ·exact hA x hx
   ·simp only [List.mem_singleton] at hx;subst hx;simpa using e2
 ·have hjl:j=Is.length:=by simp at e;omega
  subst hjl;rw [List.take_length] at hA;have hf:Is.find? (fun x=>x.fKey==k)=none:=List.find?_eq_none.2 fun x hx=>by simpa using hA x hx
  rw [hf] at hk;unfold sh166_3;repeat' (first|(with_reducible first|refine AK ?_|refine AX ?_|refine AY ?_|refine keepA ?_|refine AM (fun _=>?_)|refine rdb ?_)|((with_reducible first|refine st1 ?_ ?_|refine rdB ?_ ?_);rfl)|(with_reducible refine AV ?_)|((with_reducible refine Ae ?_ ?_);rfl)|((with_reducible refine stB ?_ ?_ ?_ ?_);rfl;rfl;exact AE rfl)|((with_reducible first|refine rdP _ rfl ?_ ?_|refine Af _ rfl ?_ ?_);rfl)|((with_reducible refine stP _ rfl ?_ ?_ ?_ ?_);rfl;rfl;rfl)|(with_reducible first|refine AO (sh166_3.eq_1 ..) ?_|refine AO (sh166_1.eq_1 ..) ?_|refine AO (sh166.eq_1 ..) ?_|refine And.intro ?_ ?_)|(simp only [SSg,Int.reduceBEq,Int.reduceBNe,Int.reduceLT,Int.reduceLE,beq_self_eq_true,bne_self_eq_false])|(with_reducible first|refine AH (fun _=>?_) (fun _=>?_)|refine AD (fun _=>?_) (fun _=>?_))|(simp only [SSd,Nat.reduceAdd]))
  exact Gh.to L (Gh.done (hk _ _ (SlI.nil I' 1 none 0) (SlI.nil I' 1 none 0)))
theorem Rb {V:List TVersion}{v:TVersion}{k:List UInt8}{m:TStamp}:At (V++[v]) k m=if (v.fKey==k&& !bhd v.fAt m)=true then some v else At V k m:=by
 rw [Ii];unfold At;by_cases h:(v.fKey==k&& !bhd v.fAt m)=true <;> simp [h]
theorem Dv {L0:LH}[LSub L0 L]{b:Nat}{vV vI a:Value}{V:List TVersion}{Is:List TIntent}{fl m:TStamp}{k:List UInt8}(hR:RefF I L0 b vV vI V Is fl)(hB:Bytes I a k)(hlen:V.length≤1000000000)
  (hk:∀v0 v1,Bytes I v0 ((At V k m).getD CQ).fKey→Bytes I v1 ((At V k m).getD CQ).fValue→K (.tuple #[.agg (veV v0 v1 ((At V k m).getD CQ)).toArray,.bool (At V k m).isSome]) I L):
  CT ω 167 #[pt b,a,sv m] K I L:=by
 refine AIE ?_;unfold Yd;refine AM (fun b1=>AM (fun b2=>?_));try simp only [SSd,Nat.reduceAdd]
 refine AM (fun b3=>?_);refine stB rfl rfl (AE rfl) ?_;refine loop (fun n s I' L'=>I'=I∧∃(j:Nat) (v0 v1:Value),n+j=V.length∧s=(.bool (At (V.take j) k m).isSome,.int .i64 j,())∧L'=(b3,.cells (veV v0 v1 ((At (V.take j) k m).getD CQ)).toArray 188 (0,0))::(b2,.cells #[.slice none 0 0,.int .i64 0,.int .i64 0,.bool false,.slice none 0 0] 188 (0,0))::(b1,.cells #[.int .i64 m.fWall,.int .i64 m.fLogic] 41 (0,0))::L∧
   Bytes I v0 ((At (V.take j) k m).getD CQ).fKey∧Bytes I v1 ((At (V.take j) k m).getD CQ).fValue) V.length ⟨rfl,0,_,_,rfl,rfl,rfl,SlI.nil I 1 none 0,SlI.nil I 1 none 0⟩ ?_
 rintro n s I' L' ⟨rfl,j,w0,w1,hnj,rfl,rfl,hw0,hw1⟩;obtain ⟨wa,wc,rfl⟩:=Bytes.form hw0;obtain ⟨xa,xc,rfl⟩:=Bytes.form hw1;unfold TM;try simp only [SSd,Nat.reduceAdd]
 refine rdC (hR.head 0 _ rfl) (Ext.refl _) ?_;simp only [RL.len hR.vers,SSd,Nat.reduceAdd];refine AD (fun e=>?_) (fun e=>?_)
 ·have hjl:j < V.length:=by simpa using e
  obtain ⟨q,off,c,hix,hl,hc,hcc⟩:=RL.ix hR.vers (i:=(j:Int)) (by omega) (by omega);rw [Ab hjl] at hc;obtain ⟨v0,v1,rfl,h0,h1⟩:=hc;have hcc':=hcc I' [] (Ext.refl _) (fun _ h=>h);have hst:Cells I' [] q (off+1) [.int .i64 V[j].fAt.fWall,.int .i64 V[j].fAt.fLogic]:=by simpa using hcc'.sub (k:=1) (m:=2)
  have hsn:=Rb (V:=V.take j) (v:=V[j]) (k:=k) (m:=m);rw [←take_snoc hjl] at hsn;have next:∀(hno:(V[j].fKey==k&& !bhd V[j].fAt m)=false),Gb ω (.bool (At (V.take j) k m).isSome) (.int .i64 j) (fun s'=>Gh fun I2 L2=>∃m',m' < n∧I2=I'∧∃(j:Nat) (v0 v1:Value),m'+j=V.length∧s'=(.bool (At (V.take j) k m).isSome,.int .i64 j,())∧L2=(b3,.cells (veV v0 v1 ((At (V.take j) k m).getD CQ)).toArray 188 (0,0))::(b2,.cells #[.slice none 0 0,.int .i64 0,.int .i64 0,.bool false,.slice none 0 0] 188 (0,0))::(b1,.cells #[.int .i64 m.fWall,.int .i64 m.fLogic] 41 (0,0))::L∧
   Bytes I' v0 ((At (V.take j) k m).getD CQ).fKey∧Bytes I' v1 ((At (V.take j) k m).getD CQ).fValue) (fun v=>Gh (K v)) I' ((b3,.cells (veV (.slice wa ((At (V.take j) k m).getD CQ).fKey.length wc) (.slice xa ((At (V.take j) k m).getD CQ).fValue.length xc) ((At (V.take j) k m).getD CQ)).toArray 188 (0,0))::(b2,.cells #[.slice none 0 0,.int .i64 0,.int .i64 0,.bool false,.slice none 0 0] 188 (0,0))::(b1,.cells #[.int .i64 m.fWall,.int .i64 m.fLogic] 41 (0,0))::L):=by
   intro hno;rw [if_neg (by rw [hno];simp)] at hsn;unfold Gb;try simp only [SSd,Nat.reduceAdd]
   rw [wrap_i64 _ (by omega)];refine Gh.done ⟨n - 1,by omega,rfl,j+1,_,_,by omega,by rw [hsn];rfl,by rw [hsn],by rw [hsn];exact hw0,by rw [hsn];exact hw1⟩
  refine AK ?_;try simp only [SSd,Nat.reduceAdd]
  refine Aq (hR.head 0 _ rfl) (Ext.refl _) ?_;simp only [hix,SSd,Nat.reduceAdd];refine BX hst (Ext.refl _) rfl ?_;refine Ae rfl ?_;refine call (Ai (x:=V[j].fAt) (y:=m) ?_);refine AK ?_;try simp only [SSd,Nat.reduceAdd]
  refine Aq (hR.head 0 _ rfl) (Ext.refl _) ?_;simp only [hix,SSd,Nat.reduceAdd];refine Aq (hcc' 0 _ rfl) (Ext.refl _) ?_;refine BS h0 (Ext.refl _) ?_;refine BS hB (Ext.refl _) ?_;simp only [sEq,SSd,Nat.reduceAdd];refine AH (fun e2=>?_) (fun e2=>next (by rw [Bool.eq_false_iff.2 e2];rfl));try simp only [SSd,Nat.reduceAdd]
  refine AD (fun e3=>?_) (fun e3=>next (by rw [e2,e3];rfl));unfold TL;try simp only [SSd,Nat.reduceAdd]
  refine rdC (hR.head 0 _ rfl) (Ext.refl _) ?_;simp only [hix,SSd,Nat.reduceAdd];refine FO hcc' (Ext.refl _) rfl ?_;refine stB rfl rfl ?_ ?_
  ·obtain ⟨_,_,rfl⟩:=Bytes.form h0;obtain ⟨_,_,rfl⟩:=Bytes.form h1;exact AE rfl
  unfold Gb;try simp only [SSd,Nat.reduceAdd]
  rw [wrap_i64 _ (by omega)];rw [if_pos (by rw [e2,e3];rfl)] at hsn;refine Gh.done ⟨n - 1,by omega,rfl,j+1,v0,v1,by omega,by rw [hsn];rfl,by rw [hsn];rfl,by rw [hsn];exact h0,by rw [hsn];exact h1⟩
 ·have hjl:j=V.length:=by simp at e;omega
  subst hjl;simp only [List.take_length] at hw0 hw1 ⊢;unfold TK;refine rdB rfl ?_;refine stB rfl rfl (AE rfl) ?_;refine rdB rfl ?_;exact Gh.to L (Gh.done (hk _ _ hw0 hw1))
theorem Kk {L0:LH}[LSub L0 L]{b:Nat}{vV vI a:Value}{V:List TVersion}{Is:List TIntent}{fl:TStamp}{k:List UInt8}(hR:RefF I L0 b vV vI V Is fl)(hB:Bytes I a k)(hlen:V.length≤1000000000)
  (hk:∀v0 v1,Bytes I v0 ((At V k KR).getD CQ).fKey→Bytes I v1 ((At V k KR).getD CQ).fValue→K (.tuple #[.agg (veV v0 v1 ((At V k KR).getD CQ)).toArray,.bool (At V k KR).isSome]) I L):
  CT ω 227 #[pt b,a] K I L:=by
 refine AHW ?_;unfold XB;refine AM (fun b1=>?_);try simp only [SSd,Nat.reduceAdd]
 refine call (Dv (m:=KR) hR hB hlen (fun v0 v1 h0 h1=>?_));obtain ⟨wa,wc,rfl⟩:=Bytes.form h0;obtain ⟨xa,xc,rfl⟩:=Bytes.form h1;try simp only [SSd,Nat.reduceAdd]
 refine AM (fun b2=>?_);refine stB rfl rfl (AE rfl) ?_;refine rdB rfl ?_;refine stB rfl rfl (AE rfl) ?_;refine rdB rfl ?_;exact Gh.to L (Gh.done (hk _ _ h0 h1))
def GM (rows:List Row)(k:List UInt8)(m:TStamp)(txn:Int):TGot×Int:=match rowOf rows k with
 |none=>(BK,0)
 |some r=>seen r m txn
def EL:Option TVersion→TGot
 |none=>BK
 |some v=>if v.fDel=true then BK else ABd v.fValue v.fAt
theorem Rf (k:List UInt8)(o:Option TVer):EL (o.map (FJ k))=DC o:=by cases o <;> rfl
abbrev AFM:Obj:=.cells #[.bool false,.slice none 0 0,.int .i64 0,.int .i64 0,.int .i64 0] 49 (0,0)
theorem RA {L0:LH}[LSub L0 L]{b b1 b2 b3:Nat}{o3:Obj}{vV vI a:Value}{V:List TVersion}{Is:List TIntent}{fl m:TStamp}{k:List UInt8}(hR:RefF I L0 b vV vI V Is fl)(hB:Bytes I a k)(hlen:V.length≤1000000000)
  (hk:∀v0,Bytes I v0 (EL (At V k m)).fValue→K (.tuple #[gvV (EL (At V k m)) v0,.int .i64 0]) I L):
  (Rv none (AF 2 (pt b1)) fun v30=>CT ω 167 #[pt b,a,v30]<|gh fun v31=>Pv (exV v31 0) fun v32=>Pv (exV v31 1) fun v33=>New (.cells #[.slice none 0 0,.int .i64 0,.int .i64 0,.bool false,.slice none 0 0] 188 (0,0))<|gh fun v34=>Sto 5 v34 v32<|gh fun _=>
   Pv (unV .not v33) fun v35=>Gd v35 false (Pv (AA 3 v34) fun v36=>Rv none (AB v36) fun v37=>Br v37 (sh110_3 ω (pt b2) (.int .i64 0) (fun v=>Gh (K v))) (Pv (AA 4 v34) fun v40=>Rv none (AB v40) fun v41=>Pv (AA 1 v34) fun v42=>Rv none (AF 2 v42) fun v43=>
    Pv (AW #[.bool false,.slice none 0 0,.int .i64 0,.int .i64 0,.int .i64 0] #[(0,1),(1,1),(2,2),(4,1)] [(0,.bool true),(1,v41),(2,v43)]) fun v44=>Sto 5 (pt b2) v44<|gh fun _=>Rv none (AF 5 (pt b2)) fun v45=>Gh (K (.tuple #[v45,.int .i64 0]))))
    (sh110_3 ω (pt b2) (.int .i64 0) (fun v=>Gh (K v)))) I ((b3,o3)::(b2,AFM)::(b1,.cells #[.int .i64 m.fWall,.int .i64 m.fLogic] 41 (0,0))::L):=by
 have hz:∀I',Bytes I' (.slice none 0 0) []:=fun I'=>SlI.nil I' 1 none 0;refine rdB rfl ?_;refine call (Dv (L0:=L0) (m:=m) hR hB hlen (fun v0 v1 h0 h1=>?_));obtain ⟨wa,wc,rfl⟩:=Bytes.form h0;obtain ⟨xa,xc,rfl⟩:=Bytes.form h1;try simp only [SSd,Nat.reduceAdd]
 refine AM (fun b4=>?_);refine stB rfl rfl (AE rfl) ?_;have three:∀(he:EL (At V k m)=BK),sh110_3 ω (pt b2) (.int .i64 0) (fun v=>Gh (K v)) I ((b4,.cells (veV (.slice wa ((At V k m).getD CQ).fKey.length wc) (.slice xa ((At V k m).getD CQ).fValue.length xc) ((At V k m).getD CQ)).toArray 188 (0,0))::(b3,o3)::(b2,AFM)::(b1,.cells #[.int .i64 m.fWall,.int .i64 m.fLogic] 41 (0,0))::L):=by
  intro he;rw [he] at hk;unfold sh110_3;repeat' (first|(with_reducible first|refine AK ?_|refine AX ?_|refine AY ?_|refine keepA ?_|refine AM (fun _=>?_)|refine rdb ?_)|((with_reducible first|refine st1 ?_ ?_|refine rdB ?_ ?_);rfl)|(with_reducible refine AV ?_)|((with_reducible refine Ae ?_ ?_);rfl)|((with_reducible refine stB ?_ ?_ ?_ ?_);rfl;rfl;exact AE rfl)|((with_reducible first|refine rdP _ rfl ?_ ?_|refine Af _ rfl ?_ ?_);rfl)|((with_reducible refine stP _ rfl ?_ ?_ ?_ ?_);rfl;rfl;rfl)|(with_reducible first|refine AO (sh110_1.eq_1 ..) ?_|refine AO (sh110_2.eq_1 ..) ?_|refine AO (sh110_3.eq_1 ..) ?_|refine AO (sh110.eq_1 ..) ?_|refine And.intro ?_ ?_)|(simp only [SSg,Int.reduceBEq,Int.reduceBNe,Int.reduceLT,Int.reduceLE,beq_self_eq_true,bne_self_eq_false])|(with_reducible first|refine AH (fun _=>?_) (fun _=>?_)|refine AD (fun _=>?_) (fun _=>?_))|(simp only [SSd,Nat.reduceAdd]))
  exact Gh.to L (Gh.done (hk _ (hz I)))
 cases hl:At V k m with
 |none=>
  rw [hl] at three;simp only [Option.isSome_none,Bool.not_false,SSd,Nat.reduceAdd];exact three rfl
 |some v=>
  rw [hl] at three hk h1;simp only [Option.isSome_some,Bool.not_true,SSd,Nat.reduceAdd];refine rdb ?_;refine AD (fun e=>?_) (fun e=>?_)
  ·exact three (if_pos e)
  ·have hg:EL (some v)=ABd v.fValue v.fAt:=if_neg (by rw [show v.fDel=false from e];simp);rw [hg] at hk;try simp only [SSd,Nat.reduceAdd]
   refine rdb ?_;try simp only [SSd,Nat.reduceAdd]
   refine rdP [.int .i64 v.fAt.fWall,.int .i64 v.fAt.fLogic] rfl rfl ?_;repeat' (first|(with_reducible first|refine AK ?_|refine AX ?_|refine AY ?_|refine keepA ?_|refine AM (fun _=>?_)|refine rdb ?_)|((with_reducible first|refine st1 ?_ ?_|refine rdB ?_ ?_);rfl)|(with_reducible refine AV ?_)|((with_reducible refine Ae ?_ ?_);rfl)|((with_reducible refine stB ?_ ?_ ?_ ?_);rfl;rfl;exact AE rfl)|((with_reducible first|refine rdP _ rfl ?_ ?_|refine Af _ rfl ?_ ?_);rfl)|((with_reducible refine stP _ rfl ?_ ?_ ?_ ?_);rfl;rfl;rfl)|(with_reducible first|refine AO (sh110_1.eq_1 ..) ?_|refine AO (sh110_2.eq_1 ..) ?_|refine AO (sh110_3.eq_1 ..) ?_|refine AO (sh110.eq_1 ..) ?_|refine And.intro ?_ ?_)|(simp only [SSg,Int.reduceBEq,Int.reduceBNe,Int.reduceLT,Int.reduceLE,beq_self_eq_true,bne_self_eq_false])|(with_reducible first|refine AH (fun _=>?_) (fun _=>?_)|refine AD (fun _=>?_) (fun _=>?_))|(simp only [SSd,Nat.reduceAdd]))
   exact Gh.to L (Gh.done (hk _ h1))
theorem Kh {L0:LH}[LSub L0 L]{b:Nat}{vV vI a:Value}{sp:Sp}{fl m:TStamp}{k:List UInt8}{txn:Int}(hR:RefF I L0 b vV vI (Ad sp.rows) (intsOf sp.rows) fl)(hok:SpOk sp)(hB:Bytes I a k)(hlen:sp.rows.length≤100000000)(hn:Ah sp.rows≤100000000)
  (hk:∀v0,Bytes I v0 (GM sp.rows k m txn).1.fValue→K (.tuple #[gvV (GM sp.rows k m txn).1 v0,.int .i64 (GM sp.rows k m txn).2]) I L):
  CT ω 110 #[pt b,a,sv m,.int .i64 txn] K I L:=by
 have hz:∀I',Bytes I' (.slice none 0 0) []:=fun I'=>SlI.nil I' 1 none 0;have hs:=hok.rise;have hIl:(intsOf sp.rows).length≤1000000000:=by
  have:=List.length_filter_le (fun r:Row=>r.it.txn != 0) sp.rows;simp [intsOf];omega
 have hVl:(Ad sp.rows).length≤1000000000:=by rw [Cp];omega
 refine AIr ?_;unfold sh110;refine AM (fun b1=>AM (fun b2=>?_));refine call (Ff (L0:=L0) hR hB hIl (fun v0 v1 h0 h1=>?_));rw [Ik hs k] at h0 h1 ⊢;obtain ⟨wa,wc,rfl⟩:=Bytes.form h0;obtain ⟨xa,xc,rfl⟩:=Bytes.form h1;try simp only [SSd,Nat.reduceAdd]
 refine AM (fun b3=>?_);refine stB rfl rfl (AE rfl) ?_;have tail:=fun (o3:Obj) (hg:GM sp.rows k m txn=(EL (At (Ad sp.rows) k m),0))=>RA (ω:=ω) (K:=K) (L:=L) (b1:=b1) (b2:=b2) (b3:=b3) (o3:=o3) (m:=m) hR hB hVl (by rw [hg] at hk;exact hk);have hlv:=GV hs k m;cases hr:rowOf sp.rows k with
 |none=>
  have ei:Dd sp.rows k=none:=by unfold Dd;rw [hr]
  have eg:GM sp.rows k m txn=(EL (At (Ad sp.rows) k m),0):=by
   unfold GM;rw [hr,hlv];unfold Fx;rw [hr];rfl
  simp only [ei,Option.isSome_none,Option.getD_none,SSd,Nat.reduceAdd];refine rdP [.int .i64 0,.int .i64 0] rfl rfl ?_;refine rdB rfl ?_;refine call (Ai (x:=⟨0,0⟩) (y:=m) ?_);exact tail _ eg
 |some r=>
  have egv:EL (At (Ad sp.rows) k m)=DC (upTo r.vs m):=by rw [hlv];unfold Fx;rw [hr];exact Rf k _
  have eg0:GM sp.rows k m txn=seen r m txn:=by unfold GM;rw [hr]
  by_cases h0':r.it.txn=0
  ·have ei:Dd sp.rows k=none:=by unfold Dd;rw [hr];exact if_pos h0'
   have eg:GM sp.rows k m txn=(EL (At (Ad sp.rows) k m),0):=by rw [eg0,egv];unfold seen;rw [if_pos h0']
   simp only [ei,Option.isSome_none,Option.getD_none,SSd,Nat.reduceAdd];refine rdP [.int .i64 0,.int .i64 0] rfl rfl ?_;refine rdB rfl ?_;refine call (Ai (x:=⟨0,0⟩) (y:=m) ?_);exact tail _ eg
  ·have ei:Dd sp.rows k=some (itF r):=by unfold Dd;rw [hr];exact if_neg h0'
   rw [ei] at h1;simp only [ei,Option.isSome_some,Option.getD_some,itF,SSd,Nat.reduceAdd];have late:(GM sp.rows k m txn=if bhd r.it.ver.fAt m=false then (ABe r.it.txn,130) else (EL (At (Ad sp.rows) k m),0))→∀(hnx:¬r.it.txn=txn),True:=fun _ _=>trivial;by_cases htx:r.it.txn=txn
   ·have eg:GM sp.rows k m txn=(DC (some r.it.ver),0):=by rw [eg0];unfold seen;rw [if_neg h0',if_pos htx]
    rw [eg] at hk;have e1:(txn != 0)=true:=by simp;rw [←htx];exact h0'
    have e2:(r.it.txn==txn)=true:=by simpa using htx
    simp only [e1,SSd,Nat.reduceAdd];refine rdb ?_;simp only [e2,SSd,Nat.reduceAdd];unfold sh110_1;try simp only [SSd,Nat.reduceAdd]
    refine rdb ?_;refine AD (fun e=>?_) (fun e=>?_)
    ·have hg:DC (some r.it.ver)=BK:=if_pos e;rw [hg] at hk;repeat' (first|(with_reducible first|refine AK ?_|refine AX ?_|refine AY ?_|refine keepA ?_|refine AM (fun _=>?_)|refine rdb ?_)|((with_reducible first|refine st1 ?_ ?_|refine rdB ?_ ?_);rfl)|(with_reducible refine AV ?_)|((with_reducible refine Ae ?_ ?_);rfl)|((with_reducible refine stB ?_ ?_ ?_ ?_);rfl;rfl;exact AE rfl)|((with_reducible first|refine rdP _ rfl ?_ ?_|refine Af _ rfl ?_ ?_);rfl)|((with_reducible refine stP _ rfl ?_ ?_ ?_ ?_);rfl;rfl;rfl)|(with_reducible first|refine AO (sh110_1.eq_1 ..) ?_|refine AO (sh110_2.eq_1 ..) ?_|refine AO (sh110_3.eq_1 ..) ?_|refine AO (sh110.eq_1 ..) ?_|refine And.intro ?_ ?_)|(simp only [SSg,Int.reduceBEq,Int.reduceBNe,Int.reduceLT,Int.reduceLE,beq_self_eq_true,bne_self_eq_false])|(with_reducible first|refine AH (fun _=>?_) (fun _=>?_)|refine AD (fun _=>?_) (fun _=>?_))|(simp only [SSd,Nat.reduceAdd]))
     exact Gh.to L (Gh.done (hk _ (hz I)))
    ·have hg:DC (some r.it.ver)=ABd r.it.ver.fValue r.it.ver.fAt:=if_neg (by rw [show r.it.ver.fDel=false from e];simp);rw [hg] at hk;try simp only [SSd,Nat.reduceAdd]
     refine rdb ?_;try simp only [SSd,Nat.reduceAdd]
     refine rdP [.int .i64 r.it.ver.fAt.fWall,.int .i64 r.it.ver.fAt.fLogic] rfl rfl ?_;repeat' (first|(with_reducible first|refine AK ?_|refine AX ?_|refine AY ?_|refine keepA ?_|refine AM (fun _=>?_)|refine rdb ?_)|((with_reducible first|refine st1 ?_ ?_|refine rdB ?_ ?_);rfl)|(with_reducible refine AV ?_)|((with_reducible refine Ae ?_ ?_);rfl)|((with_reducible refine stB ?_ ?_ ?_ ?_);rfl;rfl;exact AE rfl)|((with_reducible first|refine rdP _ rfl ?_ ?_|refine Af _ rfl ?_ ?_);rfl)|((with_reducible refine stP _ rfl ?_ ?_ ?_ ?_);rfl;rfl;rfl)|(with_reducible first|refine AO (sh110_1.eq_1 ..) ?_|refine AO (sh110_2.eq_1 ..) ?_|refine AO (sh110_3.eq_1 ..) ?_|refine AO (sh110.eq_1 ..) ?_|refine And.intro ?_ ?_)|(simp only [SSg,Int.reduceBEq,Int.reduceBNe,Int.reduceLT,Int.reduceLE,beq_self_eq_true,bne_self_eq_false])|(with_reducible first|refine AH (fun _=>?_) (fun _=>?_)|refine AD (fun _=>?_) (fun _=>?_))|(simp only [SSd,Nat.reduceAdd]))
     exact Gh.to L (Gh.done (hk _ h1))
   ·have e2:(r.it.txn==txn)=false:=by simpa using htx
    have fin:∀(hg:GM sp.rows k m txn=if bhd r.it.ver.fAt m=false then (ABe r.it.txn,130) else (EL (At (Ad sp.rows) k m),0)),bhd r.it.ver.fAt m=false→
      sh110_2 ω (pt b2) (.int .i64 0) (pt b3) (fun v=>Gh (K v)) I ((b3,.cells (itV (.slice wa (itF r).fKey.length wc) (.slice xa (itF r).fValue.length xc) (itF r)).toArray 190 (0,0))::(b2,AFM)::(b1,.cells #[.int .i64 m.fWall,.int .i64 m.fLogic] 41 (0,0))::L):=by
     intro hg hb;rw [hg,if_pos hb] at hk;unfold sh110_2;try simp only [SSd,Nat.reduceAdd]
     refine rdb ?_;repeat' (first|(with_reducible first|refine AK ?_|refine AX ?_|refine AY ?_|refine keepA ?_|refine AM (fun _=>?_)|refine rdb ?_)|((with_reducible first|refine st1 ?_ ?_|refine rdB ?_ ?_);rfl)|(with_reducible refine AV ?_)|((with_reducible refine Ae ?_ ?_);rfl)|((with_reducible refine stB ?_ ?_ ?_ ?_);rfl;rfl;exact AE rfl)|((with_reducible first|refine rdP _ rfl ?_ ?_|refine Af _ rfl ?_ ?_);rfl)|((with_reducible refine stP _ rfl ?_ ?_ ?_ ?_);rfl;rfl;rfl)|(with_reducible first|refine AO (sh110_1.eq_1 ..) ?_|refine AO (sh110_2.eq_1 ..) ?_|refine AO (sh110_3.eq_1 ..) ?_|refine AO (sh110.eq_1 ..) ?_|refine And.intro ?_ ?_)|(simp only [SSg,Int.reduceBEq,Int.reduceBNe,Int.reduceLT,Int.reduceLE,beq_self_eq_true,bne_self_eq_false])|(with_reducible first|refine AH (fun _=>?_) (fun _=>?_)|refine AD (fun _=>?_) (fun _=>?_))|(simp only [SSd,Nat.reduceAdd]))
     exact Gh.to L (Gh.done (hk _ (hz I)))
    have eg:GM sp.rows k m txn=if bhd r.it.ver.fAt m=false then (ABe r.it.txn,130) else (EL (At (Ad sp.rows) k m),0):=by
     rw [eg0,egv];unfold seen;rw [if_neg h0',if_neg htx]
    by_cases e1:(txn != 0)=true
    ·simp only [e1,SSd,Nat.reduceAdd];refine rdb ?_;simp only [e2,SSd,Nat.reduceAdd];refine rdP [.int .i64 r.it.ver.fAt.fWall,.int .i64 r.it.ver.fAt.fLogic] rfl rfl ?_;refine rdB rfl ?_;refine call (Ai (x:=r.it.ver.fAt) (y:=m) ?_);try simp only [SSd,Nat.reduceAdd]
     refine AD (fun e=>fin eg (by simpa using e)) (fun e=>?_);have e':bhd r.it.ver.fAt m=true:=by simpa using e
     exact tail _ (by rw [eg,if_neg (by rw [e'];simp)])
    ·simp only [Bool.eq_false_iff.2 e1,SSd,Nat.reduceAdd];refine rdP [.int .i64 r.it.ver.fAt.fWall,.int .i64 r.it.ver.fAt.fLogic] rfl rfl ?_;refine rdB rfl ?_;refine call (Ai (x:=r.it.ver.fAt) (y:=m) ?_);try simp only [SSd,Nat.reduceAdd]
     refine AD (fun e=>fin eg (by simpa using e)) (fun e=>?_);have e':bhd r.it.ver.fAt m=true:=by simpa using e
     exact tail _ (by rw [eg,if_neg (by rw [e'];simp)])
end
def FP (out:List (List UInt8))(x:List UInt8):List (List UInt8):=if out.getLast? =some x then out else out++[x]
def Da:Nat→List (List UInt8)→List (List UInt8)→List (List UInt8)→List (List UInt8)
 |0,_,_,out=>out
 |_+1,[],[],out=>out
 |n+1,x::a,[],out=>Da n a [] (FP out x)
 |n+1,[],y::b,out=>Da n [] b (FP out y)
 |n+1,x::a,y::b,out=>if (blt x y||x==y)=true then Da n a (y::b) (FP out x) else Da n (x::a) b (FP out y)
theorem Ec {k:List UInt8}{a b:List (List UInt8)}(ha:∀x∈a,blt k x=true)(hb:∀x∈b,blt k x=true):∀(n e N:Nat) (out:List (List UInt8)),out.getLast? =some k→
  Da (n+e+N) (List.replicate n k++a) (List.replicate e k++b) out=Da N a b out
 |0,0,N,out,_=>by simp
 |0,e+1,N,out,h=>by
  have hp:FP out k=out:=if_pos h;have ih:=Ec ha hb 0 e N out h;rw [show 0+(e+1)+N=(0+e+N)+1 by omega,List.replicate_succ];simp only [List.replicate_zero,List.nil_append,List.cons_append] at ih ⊢;cases a with
  |nil=>simp only [Da,hp];exact ih
  |cons x a=>
   have hx:=ha x (List.mem_cons_self ..);simp only [Da,hp];rw [if_neg (by rw [CO hx];simpa using DI hx)];exact ih
 |n+1,0,N,out,h=>by
  have hp:FP out k=out:=if_pos h;have ih:=Ec ha hb n 0 N out h;rw [show n+1+0+N=(n+0+N)+1 by omega,List.replicate_succ];simp only [List.replicate_zero,List.nil_append,List.cons_append] at ih ⊢;cases b with
  |nil=>simp only [Da,hp];exact ih
  |cons y b=>
   have hy:=hb y (List.mem_cons_self ..);simp only [Da,hp];rw [if_pos (by rw [hy];rfl)];exact ih
 |n+1,e+1,N,out,h=>by
  have hp:FP out k=out:=if_pos h;have ih:=Ec ha hb n (e+1) N out h;rw [show n+1+(e+1)+N=(n+(e+1)+N)+1 by omega,List.replicate_succ];rw [List.replicate_succ] at ih ⊢;simp only [List.cons_append] at ih ⊢;simp only [Da,hp];rw [if_pos (by simp)];exact ih
theorem ABO {k:List UInt8}{a b:List (List UInt8)}(ha:∀x∈a,blt k x=true)(hb:∀x∈b,blt k x=true)(n e N:Nat)(out:List (List UInt8))(h:out.getLast? ≠some k)(h0:0 < n+e):
  Da (n+e+N) (List.replicate n k++a) (List.replicate e k++b) out=Da N a b (out++[k]):=by
 have hp:FP out k=out++[k]:=if_neg h;have hl:(out++[k]).getLast? =some k:=by simp
 match n,e,h0 with
 |0,e+1,_=>
  have ih:=Ec ha hb 0 e N (out++[k]) hl;rw [show 0+(e+1)+N=(0+e+N)+1 by omega,List.replicate_succ];simp only [List.replicate_zero,List.nil_append,List.cons_append] at ih ⊢;cases a with
  |nil=>simp only [Da,hp];exact ih
  |cons x a=>
   have hx:=ha x (List.mem_cons_self ..);simp only [Da,hp];rw [if_neg (by rw [CO hx];simpa using DI hx)];exact ih
 |n+1,0,_=>
  have ih:=Ec ha hb n 0 N (out++[k]) hl;rw [show n+1+0+N=(n+0+N)+1 by omega,List.replicate_succ];simp only [List.replicate_zero,List.nil_append,List.cons_append] at ih ⊢;cases b with
  |nil=>simp only [Da,hp];exact ih
  |cons y b=>
   have hy:=hb y (List.mem_cons_self ..);simp only [Da,hp];rw [if_pos (by rw [hy];rfl)];exact ih
 |n+1,e+1,_=>
  have ih:=Ec ha hb n (e+1) N (out++[k]) hl;rw [show n+1+(e+1)+N=(n+(e+1)+N)+1 by omega,List.replicate_succ];rw [List.replicate_succ] at ih ⊢;simp only [List.cons_append] at ih ⊢;simp only [Da,hp];rw [if_pos (by simp)];exact ih
def Fy (rows:List Row):List (List UInt8):=(Ad rows).map (·.fKey)
def GL (rows:List Row):List (List UInt8):=(intsOf rows).map (·.fKey)
theorem Ql (r:Row)(rs:List Row):Fy (r::rs)=List.replicate r.vs.length r.key++Fy rs:=by
 unfold Fy;rw [BB,List.map_append,List.map_map];congr 1
 exact List.eq_replicate_iff.2 ⟨by simp,fun b hb=>by
  obtain ⟨v,_,rfl⟩:=List.mem_map.1 hb;rfl⟩
theorem Re (r:Row)(rs:List Row):GL (r::rs)=List.replicate (if r.it.txn=0 then 0 else 1) r.key++GL rs:=by
 unfold GL;rw [BP,List.map_append];congr 1
 by_cases h:r.it.txn=0 <;> simp [h,itF]
theorem ND:∀{rows:List Row} {out:List (List UInt8)},SrtK (keysOf rows)→(∀r∈rows,BO r=false)→(∀l,out.getLast? =some l→∀r∈rows,blt l r.key=true)→
  Da ((Fy rows).length+(GL rows).length) (Fy rows) (GL rows) out=out++keysOf rows
 |[],out,_,_,_=>by simp [Fy,GL,Ad,intsOf,keysOf,Da]
 |r::rs,out,hs,he,hl=>by
  obtain ⟨h1,h2⟩:=List.pairwise_cons.1 (show List.Pairwise _ (r.key::keysOf rs) from hs);have ih:=ND (rows:=rs) (out:=out++[r.key]) h2 (fun x hx=>he x (List.mem_cons_of_mem _ hx)) (fun l hl' x hx=>by
   simp at hl';subst hl';exact h1 _ (List.mem_map_of_mem hx))
  rw [Ql,Re,List.length_append,List.length_append,List.length_replicate,List.length_replicate];have hv:∀x∈Fy rs,blt r.key x=true:=fun x hx=>by
   obtain ⟨u,hu,rfl⟩:=List.mem_map.1 hx;obtain ⟨y,hy,e,_⟩:=HZ hu;rw [e];exact h1 _ (List.mem_map_of_mem hy)
  have hi:∀x∈GL rs,blt r.key x=true:=fun x hx=>by
   obtain ⟨u,hu,rfl⟩:=List.mem_map.1 hx;obtain ⟨y,hy,e⟩:=ED hu;rw [e];exact h1 _ (List.mem_map_of_mem hy)
  have hne:0 < r.vs.length+(if r.it.txn=0 then 0 else 1):=by
   have:=he r (List.mem_cons_self ..);by_cases h:r.it.txn=0
   ·rw [if_pos h];cases hvs:r.vs with
    |nil=>simp [BO,hvs,h] at this
    |cons v l=>simp
   ·rw [if_neg h];omega
  have:=ABO hv hi r.vs.length (if r.it.txn=0 then 0 else 1) ((Fy rs).length+(GL rs).length) out (fun e=>by
   have:=hl _ e r (List.mem_cons_self ..);rw [Bx] at this;cases this) hne
  rw [show r.vs.length+(Fy rs).length+((if r.it.txn=0 then 0 else 1)+(GL rs).length)=r.vs.length+(if r.it.txn=0 then 0 else 1)+((Fy rs).length+(GL rs).length) by omega,this,ih];simp [keysOf]
section
variable {ω:Om}{I:Imm}{L:LH}{K:Value→M}
theorem Mm {L0:LH}[LSub L0 L]{b:Nat}{vV vI a:Value}{sp:Sp}{m:TStamp}{k:List UInt8}{txn:Int}(hR:RefF I L0 b vV vI (Ad sp.rows) (intsOf sp.rows) sp.floor)(hok:SpOk sp)(hB:Bytes I a k)(hlen:sp.rows.length≤100000000)(hn:Ah sp.rows≤100000000)
  (hk:∀v0,Bytes I v0 (CG sp k m txn).1.fValue→K (.tuple #[gvV (CG sp k m txn).1 v0,.int .i64 (CG sp k m txn).2]) I L):
  CT ω 47 #[pt b,a,sv m,.int .i64 txn] K I L:=by
 have hz:∀I',Bytes I' (.slice none 0 0) []:=fun I'=>SlI.nil I' 1 none 0;refine AKP ?_;unfold sh47;refine AM (fun b1=>AM (fun b2=>?_));refine call (Dz hB ?_);refine rdB rfl ?_;refine call (Bl (x:=m) ?_);refine call (Fe ?_);have bad:∀(hb:An k=false∨(AU m&&Ak txn)=false),sh47_1 ω (pt b2) (.int .i64 0) (fun v=>Gh (K v)) I ((b2,AFM)::(b1,.cells #[.int .i64 m.fWall,.int .i64 m.fLogic] 41 (0,0))::L):=by
  intro hb;have eg:CG sp k m txn=(BK,1):=by unfold CG;rw [if_pos hb]
  rw [eg] at hk;unfold sh47_1;repeat' (first|(with_reducible first|refine AK ?_|refine AX ?_|refine AY ?_|refine keepA ?_|refine AM (fun _=>?_)|refine rdb ?_)|((with_reducible first|refine st1 ?_ ?_|refine rdB ?_ ?_);rfl)|(with_reducible refine AV ?_)|((with_reducible refine Ae ?_ ?_);rfl)|((with_reducible refine stB ?_ ?_ ?_ ?_);rfl;rfl;exact AE rfl)|((with_reducible first|refine rdP _ rfl ?_ ?_|refine Af _ rfl ?_ ?_);rfl)|((with_reducible refine stP _ rfl ?_ ?_ ?_ ?_);rfl;rfl;rfl)|(with_reducible first|refine AO (sh47_1.eq_1 ..) ?_|refine AO (sh47_2.eq_1 ..) ?_|refine AO (sh47.eq_1 ..) ?_|refine And.intro ?_ ?_)|(simp only [SSg,Int.reduceBEq,Int.reduceBNe,Int.reduceLT,Int.reduceLE,beq_self_eq_true,bne_self_eq_false])|(with_reducible first|refine AH (fun _=>?_) (fun _=>?_)|refine AD (fun _=>?_) (fun _=>?_))|(simp only [SSd,Nat.reduceAdd]))
  exact Gh.to L (Gh.done (hk _ (hz I)))
 try simp only [SSd,Nat.reduceAdd]
 refine AH (fun e=>?_) (fun e=>bad (.inl (by simpa using e)));have k1:An k=true:=by simpa using e
 try simp only [SSd,Nat.reduceAdd]
 refine AH (fun e=>?_) (fun e=>bad (.inr (by have:AU m=false:=(by simpa using e);rw [this];rfl)));have k2:AU m=true:=by simpa using e
 try simp only [SSd,Nat.reduceAdd]
 refine AD (fun e=>bad (.inr (by have:Ak txn=false:=(by simpa using e);rw [this];simp))) (fun e=>?_);have k3:Ak txn=true:=by simpa using e
 have hf:¬(An k=false∨(AU m&&Ak txn)=false):=by rw [k1,k2,k3];simp
 have hc2:Cells I L0 b 2 [.int .i64 sp.floor.fWall,.int .i64 sp.floor.fLogic]:=by simpa using hR.head.sub (k:=2) (m:=2)
 refine AK ?_;try simp only [SSd,Nat.reduceAdd]
 refine BX hc2 (Ext.refl _) rfl ?_;refine Ae rfl ?_;refine call (Ai (x:=sp.floor) (y:=m) ?_);refine AD (fun e2=>?_) (fun e2=>?_)
 ·have eg:CG sp k m txn=(BK,131):=by unfold CG;rw [if_neg hf,if_pos e2]
  rw [eg] at hk;unfold sh47_2;repeat' (first|(with_reducible first|refine AK ?_|refine AX ?_|refine AY ?_|refine keepA ?_|refine AM (fun _=>?_)|refine rdb ?_)|((with_reducible first|refine st1 ?_ ?_|refine rdB ?_ ?_);rfl)|(with_reducible refine AV ?_)|((with_reducible refine Ae ?_ ?_);rfl)|((with_reducible refine stB ?_ ?_ ?_ ?_);rfl;rfl;exact AE rfl)|((with_reducible first|refine rdP _ rfl ?_ ?_|refine Af _ rfl ?_ ?_);rfl)|((with_reducible refine stP _ rfl ?_ ?_ ?_ ?_);rfl;rfl;rfl)|(with_reducible first|refine AO (sh47_1.eq_1 ..) ?_|refine AO (sh47_2.eq_1 ..) ?_|refine AO (sh47.eq_1 ..) ?_|refine And.intro ?_ ?_)|(simp only [SSg,Int.reduceBEq,Int.reduceBNe,Int.reduceLT,Int.reduceLE,beq_self_eq_true,bne_self_eq_false])|(with_reducible first|refine AH (fun _=>?_) (fun _=>?_)|refine AD (fun _=>?_) (fun _=>?_))|(simp only [SSd,Nat.reduceAdd]))
  exact Gh.to L (Gh.done (hk _ (hz I)))
 ·have eg:CG sp k m txn=GM sp.rows k m txn:=by unfold CG GM;rw [if_neg hf,if_neg (by rw [e2];simp)];cases rowOf sp.rows k <;> rfl
  rw [eg] at hk;refine rdB rfl ?_;refine call (Kh (L0:=L0) hR hok hB hlen hn (fun v0 h0=>?_));obtain ⟨wa,wc,rfl⟩:=Bytes.form h0;try simp only [SSd,Nat.reduceAdd]
  refine AM (fun b3=>?_);refine stB rfl rfl (AE rfl) ?_;refine rdB rfl ?_;refine stB rfl rfl (AE rfl) ?_;refine rdB rfl ?_;exact Gh.to L (Gh.done (hk _ h0))
theorem Mu {X F:LH}{v p4 p5:Value}{out:List (List UInt8)}{key:List UInt8}{Kn0:(Value×Value×Value×Unit)→M}(h:StrO X v out)(hl:out.length≤1000000000)(hk:∀X' v',StrO X' v' (FP out key)→Gh (Kn0 (v',p4,p5,())) I (X'++F)):
  KI ω v p4 p5 (BW key) (fun s=>Gh (Kn0 s)) (fun v=>Gh (K v)) I (X++F):=by
 have app:∀(hn:out.getLast? ≠some key),KH ω v p4 p5 (BW key) (fun s=>Gh (Kn0 s)) (fun v=>Gh (K v)) I (X++F):=by
  intro hn;have hp:FP out key=out++[key]:=if_neg hn;rw [hp] at hk;unfold KH;refine Dg rfl (by omega) rfl (fun X1 u hX1=>?_);refine Et (X:=X) (news:=[BW key]) rfl h (by simpa [Value.cells] using hX1.news (fun x hx=>List.mem_append_left _ hx)) (AE rfl) (by omega) (by omega) (fun X' v' hX'=>?_);have hS:StrO X' v' (out++[key]):=by
   unfold StrO;have e:strs (out++[key])=strs out++[BW key]:=by simp [strs]
   rw [e,List.length_append];exact hX'
  exact Gh.to (X'++F) (Gh.done (hk X' v' hS))
 obtain ⟨sa,sc,rfl⟩:=h.form;unfold KI;try simp only [SSd,Nat.reduceAdd]
 cases hgl:out.getLast? with
 |none=>
  have h0:out=[]:=List.getLast?_eq_none_iff.1 hgl;have e:(((out.length:Nat):Int)==0)=true:=by rw [h0];rfl
  simp only [e,SSd,Nat.reduceAdd];exact app (by rw [hgl];simp)
 |some l=>
  obtain ⟨h0,hlx⟩:=OO hgl;have e:(((out.length:Nat):Int)==0)=false:=by simp;intro h;rw [h] at h0;simp at h0
  simp only [e,SSd,Nat.reduceAdd];rw [wrap_i64 _ (by omega)];have el:((out.length:Nat):Int) - 1=((out.length - 1:Nat):Int):=by omega
  rw [el];obtain ⟨q,off,c,hix,hcl,hc,hcc⟩:=RL.ix (StrO.rl (I:=I) (L:=X) h (fun _ h=>h)) (i:=((out.length - 1:Nat):Int)) (by omega) (by omega);obtain rfl:c=_:=hc;rw [hlx] at hcc;simp only [hix,SSd,Nat.reduceAdd];refine rdC (hcc I X (Ext.refl _) (fun _ h=>h) 0 _ rfl) (Ext.refl _) ?_;simp only [sNe,SSd,Nat.reduceAdd];refine AD (fun e2=>app (by rw [hgl];simpa using e2)) (fun e2=>?_);have e2':l=key:=by simpa using e2
  have hp:FP out key=out:=if_pos (by rw [hgl,e2']);rw [hp] at hk;exact hk X _ h
theorem RG {L0:LH}[LSub L0 L]{b:Nat}{vV vI:Value}{V:List TVersion}{Is:List TIntent}{fl:TStamp}(hR:RefF I L0 b vV vI V Is fl)(hlV:V.length≤400000000)(hlI:Is.length≤400000000)
  (hk:∀X v,StrO X v (Da (V.length+Is.length) (V.map (·.fKey)) (Is.map (·.fKey)) [])→K v I (X++L)):
  CT ω 111 #[pt b] K I L:=by
 refine AIq ?_;unfold AAK;refine loop (fun n s I' L'=>I'=I∧∃(i j:Nat) (out:List (List UInt8)) (X:LH) (v:Value),n+i+j=V.length+Is.length∧i≤V.length∧j≤Is.length∧s=(v,.int .i64 i,.int .i64 j,())∧L'=X++L∧StrO X v out∧out.length≤i+j∧
   Da n ((V.map (·.fKey)).drop i) ((Is.map (·.fKey)).drop j) out=Da (V.length+Is.length) (V.map (·.fKey)) (Is.map (·.fKey)) []) (V.length+Is.length) ⟨rfl,0,0,[],[],_,by omega,by omega,by omega,rfl,rfl,SlO.none _ 1,by simp,rfl⟩ ?_
 rintro n s I' L' ⟨rfl,i,j,out,X,v,hn,hi,hj,rfl,rfl,hX,hol,hm⟩;have hVl:(V.map (·.fKey)).length=V.length:=by simp
 have hIl:(Is.map (·.fKey)).length=Is.length:=by simp
 have hpl:∀key,(FP out key).length≤out.length+1:=fun key=>by unfold FP;split <;> simp
 have two:∀(hiv:i < V.length),(Is.length≤j∨∃hji:j < Is.length,(blt V[i].fKey Is[j].fKey||V[i].fKey==Is[j].fKey)=true)→Gf ω (pt b) v (.int .i64 i) (.int .i64 j) (.string (ByteArray.mk #[])) (fun s'=>Gh fun I2 L2=>∃m',m' < n∧I2=I'∧∃(i j:Nat) (out:List (List UInt8)) (X:LH) (v:Value),m'+i+j=V.length+Is.length∧i≤V.length∧j≤Is.length∧s'=(v,.int .i64 i,.int .i64 j,())∧L2=X++L∧StrO X v out∧out.length≤i+j∧
   Da m' ((V.map (·.fKey)).drop i) ((Is.map (·.fKey)).drop j) out=Da (V.length+Is.length) (V.map (·.fKey)) (Is.map (·.fKey)) []) (fun v=>Gh (K v)) I' (X++L):=by
  intro hiv hc;obtain ⟨q,off,c,hix,hl,hcR,hcc⟩:=RL.ix hR.vers (i:=(i:Int)) (by omega) (by omega);rw [Ab hiv] at hcR;obtain ⟨v0,v1,rfl,h0,h1⟩:=hcR;have hcv:=hcc I' [] (Ext.refl _) (fun _ h=>h);unfold Gf;try simp only [SSd,Nat.reduceAdd]
  refine rdC (hR.head 0 _ rfl) (Ext.refl _) ?_;simp only [hix,SSd,Nat.reduceAdd];refine rdC (hcv 0 _ rfl) (Ext.refl _) ?_;refine EG h0 (Ext.refl _) ?_;try simp only [SSd,Nat.reduceAdd]
  rw [wrap_i64 _ (by omega)];refine Mu hX (by omega) (fun X' v' h'=>Gh.done ⟨n - 1,by omega,rfl,i+1,j,_,X',v',by omega,by omega,hj,rfl,rfl,h',by have:=hpl V[i].fKey;omega,?_⟩);rw [←hm];have hn1:n=(n - 1)+1:=by omega
  generalize n - 1=n' at hn1 ⊢;subst hn1;rw [List.drop_eq_getElem_cons (l:=V.map (·.fKey)) (i:=i) (by omega)];simp only [List.getElem_map];rcases hc with hc|⟨hji,hc⟩
  ·rw [show (Is.map (·.fKey)).drop j=[] from List.drop_eq_nil_of_le (by omega)];rfl
  ·rw [List.drop_eq_getElem_cons (l:=Is.map (·.fKey)) (i:=j) (by omega)];simp only [List.getElem_map,Da];rw [if_pos hc]
 have sixg:∀(hji:j < Is.length),(V.length≤i∨∃hiv:i < V.length,(blt V[i].fKey Is[j].fKey||V[i].fKey==Is[j].fKey)=false)→Ge ω (pt b) v (.int .i64 i) (.int .i64 j) (.string (ByteArray.mk #[])) (fun s'=>Gh fun I2 L2=>∃m',m' < n∧I2=I'∧∃(i j:Nat) (out:List (List UInt8)) (X:LH) (v:Value),m'+i+j=V.length+Is.length∧i≤V.length∧j≤Is.length∧s'=(v,.int .i64 i,.int .i64 j,())∧L2=X++L∧StrO X v out∧out.length≤i+j∧
   Da m' ((V.map (·.fKey)).drop i) ((Is.map (·.fKey)).drop j) out=Da (V.length+Is.length) (V.map (·.fKey)) (Is.map (·.fKey)) []) (fun v=>Gh (K v)) I' (X++L):=by
  intro hji hc;obtain ⟨q,off,c,hix,hl,hcR,hcc⟩:=RL.ix hR.ints (i:=(j:Int)) (by omega) (by omega);rw [Ab hji] at hcR;obtain ⟨v0,v1,rfl,h0,h1⟩:=hcR;have hcv:=hcc I' [] (Ext.refl _) (fun _ h=>h);unfold Ge;try simp only [SSd,Nat.reduceAdd]
  refine rdC (hR.head 1 _ rfl) (Ext.refl _) ?_;simp only [hix,SSd,Nat.reduceAdd];refine rdC (hcv 0 _ rfl) (Ext.refl _) ?_;refine EG h0 (Ext.refl _) ?_;try simp only [SSd,Nat.reduceAdd]
  rw [wrap_i64 _ (by omega)];refine Mu hX (by omega) (fun X' v' h'=>Gh.done ⟨n - 1,by omega,rfl,i,j+1,_,X',v',by omega,hi,by omega,rfl,rfl,h',by have:=hpl Is[j].fKey;omega,?_⟩);rw [←hm];have hn1:n=(n - 1)+1:=by omega
  generalize n - 1=n' at hn1 ⊢;subst hn1;rw [List.drop_eq_getElem_cons (l:=Is.map (·.fKey)) (i:=j) (by omega)];simp only [List.getElem_map];rcases hc with hc|⟨hiv,hc⟩
  ·rw [show (V.map (·.fKey)).drop i=[] from List.drop_eq_nil_of_le (by omega)];rfl
  ·rw [List.drop_eq_getElem_cons (l:=V.map (·.fKey)) (i:=i) (by omega)];simp only [List.getElem_map,Da];rw [if_neg (by rw [hc];simp)]
 have six':∀(hiv:i < V.length) (hji:j < Is.length),(blt V[i].fKey Is[j].fKey||V[i].fKey==Is[j].fKey)=false→_:=fun hiv hji h=>sixg hji (.inr ⟨hiv,h⟩);unfold Tf;try simp only [SSd,Nat.reduceAdd]
 refine rdC (hR.head 0 _ rfl) (Ext.refl _) ?_;simp only [RL.len hR.vers,SSd,Nat.reduceAdd];refine AH (fun e=>?_) (fun e=>?_)
 ·have hiV:i=V.length:=by simp at e;omega
  try simp only [SSd,Nat.reduceAdd]
  refine rdC (hR.head 1 _ rfl) (Ext.refl _) ?_;simp only [RL.len hR.ints,SSd,Nat.reduceAdd];refine AD (fun e2=>?_) (fun e2=>?_);rotate_left
  ·have hjI:j=Is.length:=by simp at e2;omega
   have hn0:n=0:=by omega
   subst hn0;rw [←hm] at hk;exact Gh.done (hk X v hX)
  have hji:j < Is.length:=by simpa using e2
  have six:V.length≤i→_:=fun h=>sixg hji (.inl h);refine AK ?_;try simp only [SSd,Nat.reduceAdd]
  refine Aq (hR.head 0 _ rfl) (Ext.refl _) ?_;simp only [RL.len hR.vers,SSd,Nat.reduceAdd];refine AH (fun ei=>?_) (fun ei=>six (by simpa using ei));try simp only [SSd,Nat.reduceAdd]
  refine Aq (hR.head 1 _ rfl) (Ext.refl _) ?_;simp only [RL.len hR.ints,SSd,Nat.reduceAdd];refine AH (fun ej=>?_) (fun ej=>two (by simpa using ei) (.inl (by simp at ej;omega)));have hiv:i < V.length:=by simpa using ei
  have hji:j < Is.length:=by simp at ej;omega
  obtain ⟨q,off,c,hix,hl,hc,hcc⟩:=RL.ix hR.vers (i:=(i:Int)) (by omega) (by omega);rw [Ab hiv] at hc;obtain ⟨v0,v1,rfl,h0,h1⟩:=hc;have hcv:=hcc I' [] (Ext.refl _) (fun _ h=>h);obtain ⟨q2,off2,c2,hix2,hl2,hc2,hcc2⟩:=RL.ix hR.ints (i:=(j:Int)) (by omega) (by omega);rw [Ab hji] at hc2;obtain ⟨w0,w1,rfl,g0,g1⟩:=hc2;have hci:=hcc2 I' [] (Ext.refl _) (fun _ h=>h);try simp only [SSd,Nat.reduceAdd]
  refine Aq (hR.head 0 _ rfl) (Ext.refl _) ?_;simp only [hix,SSd,Nat.reduceAdd];refine Aq (hcv 0 _ rfl) (Ext.refl _) ?_;refine BS h0 (Ext.refl _) ?_;try simp only [SSd,Nat.reduceAdd]
  refine Aq (hR.head 1 _ rfl) (Ext.refl _) ?_;simp only [hix2,SSd,Nat.reduceAdd];refine Aq (hci 0 _ rfl) (Ext.refl _) ?_;refine BS g0 (Ext.refl _) ?_;try simp only [SSd,Nat.reduceAdd]
  refine AD (fun e3=>two hiv (.inr ⟨hji,e3⟩)) (fun e3=>six' hiv hji e3)
 ·have hiv':i < V.length:=by simpa using e
  refine AK ?_;try simp only [SSd,Nat.reduceAdd]
  refine Aq (hR.head 0 _ rfl) (Ext.refl _) ?_;simp only [RL.len hR.vers,SSd,Nat.reduceAdd];refine AH (fun ei=>?_) (fun ei=>absurd hiv' (by simpa using ei));try simp only [SSd,Nat.reduceAdd]
  refine Aq (hR.head 1 _ rfl) (Ext.refl _) ?_;simp only [RL.len hR.ints,SSd,Nat.reduceAdd];refine AH (fun ej=>?_) (fun ej=>two (by simpa using ei) (.inl (by simp at ej;omega)));have hiv:i < V.length:=by simpa using ei
  have hji:j < Is.length:=by simp at ej;omega
  obtain ⟨q,off,c,hix,hl,hc,hcc⟩:=RL.ix hR.vers (i:=(i:Int)) (by omega) (by omega);rw [Ab hiv] at hc;obtain ⟨v0,v1,rfl,h0,h1⟩:=hc;have hcv:=hcc I' [] (Ext.refl _) (fun _ h=>h);obtain ⟨q2,off2,c2,hix2,hl2,hc2,hcc2⟩:=RL.ix hR.ints (i:=(j:Int)) (by omega) (by omega);rw [Ab hji] at hc2;obtain ⟨w0,w1,rfl,g0,g1⟩:=hc2;have hci:=hcc2 I' [] (Ext.refl _) (fun _ h=>h);try simp only [SSd,Nat.reduceAdd]
  refine Aq (hR.head 0 _ rfl) (Ext.refl _) ?_;simp only [hix,SSd,Nat.reduceAdd];refine Aq (hcv 0 _ rfl) (Ext.refl _) ?_;refine BS h0 (Ext.refl _) ?_;try simp only [SSd,Nat.reduceAdd]
  refine Aq (hR.head 1 _ rfl) (Ext.refl _) ?_;simp only [hix2,SSd,Nat.reduceAdd];refine Aq (hci 0 _ rfl) (Ext.refl _) ?_;refine BS g0 (Ext.refl _) ?_;try simp only [SSd,Nat.reduceAdd]
  refine AD (fun e3=>two hiv (.inr ⟨hji,e3⟩)) (fun e3=>six' hiv hji e3)
end
section
variable {ω:Om}{I:Imm}{L:LH}{K:Value→M}
theorem Px (p:TSpan)(r:Row)(rs:List Row):inR p (r::rs)=if inB p r.key=true then r::inR p rs else inR p rs:=by
 unfold inR;rw [List.filter_cons]
theorem AAt {rows:List Row}(hs:SrtK (keysOf rows)){i:Nat}(hi:i < rows.length):rowOf rows rows[i].key=some rows[i]:=by
 have e:=GB hi;generalize rows[i]=r at e ⊢;have hm:Mid (rows.take i) r.key (rows.drop (i+1)):=SrtK.mid (e ▸ hs);conv=>lhs;rw [e]
 exact Bn hm rfl
def Gz (m:TStamp)(txn most:Int)(rows:List Row)(acc:List TKV):List TKV×Int×Int:=if (acc.length:Int)=most then (acc,0,0) else Ci m txn most rows acc
theorem Qx {m:TStamp}{txn most:Int}{r:Row}{rs:List Row}{acc:List TKV}(h:¬(acc.length:Int)=most):
  Gz m txn most (r::rs) acc=if (seen r m txn).2≠0 then ([],(seen r m txn).1.fBy,(seen r m txn).2) else Gz m txn most rs (push r (seen r m txn).1 acc):=by
 unfold Gz;rw [if_neg h];rfl
abbrev Ux (b1 b2:Nat)(v0 v1:Value)(m:TStamp)(R:LH):LH:=(b2,.cells #[.int .i64 m.fWall,.int .i64 m.fLogic] 41 (0,0))::(b1,.cells #[v0,v1] 31 (0,0))::R
theorem Qz {L0:LH}[LSub L0 L]{b:Nat}{vV vI:Value}{sp:Sp}{p:TSpan}{pc:List Value}{m:TStamp}{txn most:Int}(hR:RefF I L0 b vV vI (Ad sp.rows) (intsOf sp.rows) sp.floor)(hok:SpOk sp)(hlen:sp.rows.length≤100000000)(hn:Ah sp.rows≤100000000)(hp:TSpanV I p pc)
  (hk:∀I' v,Ext I I'→RL TKVV 2 I' [] v (Bk sp p m txn most).1→K (.tuple #[v,.int .i64 (Bk sp p m txn most).2.1,.int .i64 (Bk sp p m txn most).2.2]) I' L):
  CT ω 50 #[pt b,.agg pc.toArray,sv m,.int .i64 txn,.int .i64 most] K I L:=by
 obtain ⟨v0,v1,rfl,hb0,hb1⟩:=hp;have hs:=hok.rise;have hz:∀I',Bytes I' (.slice none 0 0) []:=fun I'=>SlI.nil I' 1 none 0;have bad:∀(b1 b2:Nat),((AU m&&Ak txn)=false∨most < 1)→Gh (K (.tuple #[.slice none 0 0,.int .i64 0,.int .i64 1])) I (Ux b1 b2 v0 v1 m L):=by
  intro b1 b2 hb;have eg:Bk sp p m txn most=([],0,1):=by unfold Bk;rw [if_pos hb]
  rw [eg] at hk;exact Gh.to L (Gh.done (hk I _ (Ext.refl _) (RL.nil _ _)))
 refine AKM ?_;unfold AGV;refine AM (fun b1=>AM (fun b2=>?_));refine rdB rfl ?_;refine call (Bl (x:=m) ?_);refine call (Fe ?_);try simp only [SSd,Nat.reduceAdd]
 refine AH (fun e=>?_) (fun e=>bad _ _ (.inl (by have:AU m=false:=(by simpa using e);rw [this];rfl)));have k2:AU m=true:=by simpa using e
 try simp only [SSd,Nat.reduceAdd]
 refine AH (fun e=>?_) (fun e=>bad _ _ (.inl (by have:Ak txn=false:=(by simpa using e);rw [this];simp)));have k3:Ak txn=true:=by simpa using e
 try simp only [SSd,Nat.reduceAdd]
 refine AD (fun e=>bad _ _ (.inr (by simpa using e))) (fun e=>?_);have k4:¬most < 1:=by simpa using e
 have hf:¬((AU m&&Ak txn)=false∨most < 1):=by rw [k2,k3];simpa using k4
 have hc2:Cells I L0 b 2 [.int .i64 sp.floor.fWall,.int .i64 sp.floor.fLogic]:=by simpa using hR.head.sub (k:=2) (m:=2)
 refine AK ?_;try simp only [SSd,Nat.reduceAdd]
 refine BX hc2 (Ext.refl _) rfl ?_;refine Ae rfl ?_;refine call (Ai (x:=sp.floor) (y:=m) ?_);refine AD (fun e2=>?_) (fun e2=>?_)
 ·have eg:Bk sp p m txn most=([],0,131):=by unfold Bk;rw [if_neg hf,if_pos e2]
  rw [eg] at hk;exact Gh.to L (Gh.done (hk I _ (Ext.refl _) (RL.nil _ _)))
 have eg:Bk sp p m txn most=Ci m txn most (inR p sp.rows) []:=by unfold Bk;rw [if_neg hf,if_neg (by rw [e2];simp)]
 rw [eg] at hk;have hIl:(intsOf sp.rows).length≤100000000:=by
  have:=List.length_filter_le (fun r:Row=>r.it.txn != 0) sp.rows;simp [intsOf];omega
 refine call (RG (L0:=L0) hR (by rw [Cp];omega) (by omega) (fun XK kv hK=>?_));have hmk:=ND (out:=[]) hs (fun r hr=>(hok.rows r hr).some) (fun l h=>by simp at h);unfold Fy GL at hmk;rw [List.length_map,List.length_map,List.nil_append] at hmk;rw [hmk] at hK;have hkl:(keysOf sp.rows).length=sp.rows.length:=by simp [keysOf]
 have h0:Gz m txn most (inR p sp.rows) []=Ci m txn most (inR p sp.rows) []:=by unfold Gz;rw [if_neg (by simp;omega)]
 refine loop (fun n s I' L'=>Ext I I'∧∃(i:Nat) (XO:LH) (vo:Value) (acc:List TKV) (cells:List Value),n+i=sp.rows.length∧s=(.slice none 0 0,.int .i64 0,.int .i64 0,vo,.int .i64 i,())∧L'=XK++Ux b1 b2 v0 v1 m (XO++L)∧
   SlO 113 2 XO vo cells acc.length∧Recs (TKVV I') 2 acc cells∧acc.length≤i∧(acc.length:Int)≤most∧Gz m txn most (inR p (sp.rows.drop i)) acc=Ci m txn most (inR p sp.rows) []) sp.rows.length
  ⟨Ext.refl _,0,[],_,[],[],rfl,rfl,rfl,SlO.none _ _,rfl,by simp,by simp;omega,by simpa using h0⟩ ?_
 rintro n s I' L' ⟨hI,i,XO,vo,acc,cells,hni,rfl,rfl,hO,hRc,hai,hmost,hsc⟩;have hR':=hR.mono (L':=L0) hI (fun _ h=>h);obtain ⟨oa,oc,rfl⟩:=hO.form;obtain ⟨ka,kc,rfl⟩:=hK.form;have fin:Ci m txn most (inR p sp.rows) []=(acc,0,0)→Gh (K (.tuple #[.slice oa acc.length oc,.int .i64 0,.int .i64 0])) I' (XK++Ux b1 b2 v0 v1 m (XO++L)):=by
  intro he;rw [he] at hk;refine Gh.to (XO++L) (SlO.freeze hO (fun I3 hI3 hSl=>Gh.done ?_));exact hk I3 _ (hI.trans hI3) (RL.ofI hSl (hRc.imp fun x c h=>h.mono hI3))
 unfold WL;try simp only [SSd,Nat.reduceAdd]
 refine AH (fun e3=>?_) (fun e3=>?_);rotate_left
 ·have hil:¬i < sp.rows.length:=by simpa [hkl] using e3
  refine fin ?_;rw [←hsc,List.drop_eq_nil_of_le (by omega)];unfold Gz;split <;> rfl
 have hil:i < sp.rows.length:=by simpa [hkl] using e3
 try simp only [SSd,Nat.reduceAdd]
 refine AD (fun e4=>?_) (fun e4=>?_);rotate_left
 ·have hm':(acc.length:Int)=most:=by simp at e4;omega
  refine fin ?_;rw [←hsc];unfold Gz;rw [if_pos hm']
 have hlt:¬(acc.length:Int)=most:=by simp at e4;omega
 have hrow:=AAt hs hil;have hdrop:sp.rows.drop i=sp.rows[i]::sp.rows.drop (i+1):=List.drop_eq_getElem_cons hil;have hkg:EY (keysOf sp.rows) (i:Int)=sp.rows[i].key:=by rw [Ab (by omega)];simp [keysOf]
 rw [hdrop] at hsc;generalize sp.rows[i]=r at *;obtain ⟨q,off,c,hix,hcl,hc,hcc⟩:=RL.ix (StrO.rl (I:=I') (L:=XK) hK (fun _ h=>h)) (i:=(i:Int)) (by omega) (by omega);obtain rfl:c=_:=hc;rw [hkg] at hcc;simp only [hix,SSd,Nat.reduceAdd];refine rdC (hcc I' XK (Ext.refl _) (fun _ h=>h) 0 _ rfl) (Ext.refl _) ?_;refine Vd (fun ku I3 hI3 hKB=>Gh.done ?_);obtain ⟨ga,gc,rfl⟩:=Bytes.form hKB;refine rdB rfl ?_;refine call (Ei (p:=p) ⟨v0,v1,rfl,hb0.mono (hI.trans hI3),hb1.mono (hI.trans hI3)⟩ hKB ?_);try simp only [SSd,Nat.reduceAdd]
 have next:∀(I4:Imm) (XO4:LH) (v4:Value) (acc4:List TKV) (cells4:List Value) (L4:LH),Ext I' I4→SubP (XK++Ux b1 b2 v0 v1 m (XO4++L)) L4→SlO 113 2 XO4 v4 cells4 acc4.length→Recs (TKVV I4) 2 acc4 cells4→acc4.length≤i+1→(acc4.length:Int)≤most→Gz m txn most (inR p (sp.rows.drop (i+1))) acc4=Ci m txn most (inR p sp.rows) []→
   KT ω (.slice none 0 0) (.int .i64 0) (.int .i64 0) v4 (.int .i64 i) (fun s'=>Gh fun I2 L2=>∃m',m' < n∧Ext I I2∧∃(i:Nat) (XO:LH) (vo:Value) (acc:List TKV) (cells:List Value),m'+i=sp.rows.length∧s'=(.slice none 0 0,.int .i64 0,.int .i64 0,vo,.int .i64 i,())∧L2=XK++Ux b1 b2 v0 v1 m (XO++L)∧
   SlO 113 2 XO vo cells acc.length∧Recs (TKVV I2) 2 acc cells∧acc.length≤i∧(acc.length:Int)≤most∧Gz m txn most (inR p (sp.rows.drop i)) acc=Ci m txn most (inR p sp.rows) []) (fun v=>Gh (K v)) I4 L4:=by
  intro I4 XO4 v4 acc4 cells4 L4 hI4 hsub hO4 hR4 ha4 hm4 hs4;unfold KT;try simp only [SSd,Nat.reduceAdd]
  rw [wrap_i64 _ (by omega)];exact Gh.to (XK++Ux b1 b2 v0 v1 m (XO4++L)) (Gh.done ⟨n - 1,by omega,hI.trans hI4,i+1,XO4,v4,acc4,cells4,by omega,rfl,rfl,hO4,hR4,ha4,hm4,hs4⟩)
 rw [Px] at hsc;refine AD (fun e5=>?_) (fun e5=>?_)
 ·have hin:inB p r.key=false:=by simpa using e5
  rw [if_neg (by rw [hin];simp)] at hsc;exact next I3 XO _ acc cells _ hI3 inferInstance hO (hRc.imp fun x c h=>h.mono hI3) (by omega) hmost hsc
 have hin:inB p r.key=true:=by simpa using e5
 rw [if_pos hin,Qx hlt] at hsc;refine rdB rfl ?_;have hg:GM sp.rows r.key m txn=seen r m txn:=by unfold GM;rw [hrow]
 refine call (Kh (L0:=L0) (hR'.mono hI3 (fun _ h=>h)) hok hKB hlen hn (fun w0 hw0=>?_));rw [hg] at hw0 ⊢;obtain ⟨wa,wc,rfl⟩:=Bytes.form hw0;try simp only [SSd,Nat.reduceAdd]
 refine AM (fun b3=>?_);refine stB rfl rfl (AE rfl) ?_;try simp only [SSd,Nat.reduceAdd]
 refine AD (fun e6=>?_) (fun e6=>?_)
 ·have e6':(seen r m txn).2≠0:=by simpa using e6
  rw [if_pos e6'] at hsc;rw [←hsc] at hk;unfold WK;refine AK ?_;try simp only [SSd,Nat.reduceAdd]
  refine AV ?_;exact Gh.to L (Gh.done (hk I3 _ (hI.trans hI3) (RL.nil _ _)))
 have e6':¬(seen r m txn).2≠0:=by simpa using e6
 rw [if_neg e6'] at hsc;try simp only [SSd,Nat.reduceAdd]
 refine rdb ?_;refine AD (fun e7=>?_) (fun e7=>?_)
 ·have hpush:push r (seen r m txn).1 acc=acc++[⟨r.key,(seen r m txn).1.fValue⟩]:=by unfold push;rw [if_pos e7]
  rw [hpush] at hsc;unfold WJ;try simp only [SSd,Nat.reduceAdd]
  refine rdb ?_;try simp only [SSd,Nat.reduceAdd]
  refine DY (R:=TKVV) (X6:=XO) (x:=⟨r.key,(seen r m txn).1.fValue⟩) rfl (by omega) hO (hRc.imp fun x c h=>h.mono hI3) ⟨_,_,rfl,hKB,hw0⟩ rfl (AE rfl) (by omega) (by omega) (fun X1 X6 v6 cells6 h6 hR6=>?_);refine next I3 X6 v6 _ cells6 _ hI3 inferInstance h6 hR6 (by simp;omega) (by simp;omega) hsc
 ·have hpush:push r (seen r m txn).1 acc=acc:=by unfold push;rw [if_neg (by rw [e7];simp)]
  rw [hpush] at hsc;exact next I3 XO _ acc cells _ hI3 inferInstance hO (hRc.imp fun x c h=>h.mono hI3) (by omega) hmost hsc
theorem VO {a b:TStamp}{vs:List TVer}(h:vs.Pairwise fun x y=>bhd y.fAt x.fAt=true):JL a b vs=vs.any fun v=>bhd v.fAt a&& !bhd v.fAt b:=by
 rw [Bool.eq_iff_iff,List.any_eq_true];unfold JL;constructor
 ·intro hl;cases hu:upTo vs b with
  |none=>rw [hu] at hl;cases hl
  |some v=>
   rw [hu] at hl;have h1:bhd v.fAt b=false:=by
    unfold upTo at hu;simpa using List.find?_some hu
   exact ⟨v,Or hu,by simp only at hl;rw [hl,h1];rfl⟩
 ·rintro ⟨v,hv,hc⟩;simp only [Bool.and_eq_true,Bool.not_eq_true'] at hc;cases hu:upTo vs b with
  |none=>
   unfold upTo at hu;have:=List.find?_eq_none.1 hu v (List.mem_reverse.2 hv);rw [hc.2] at this;simp at this
  |some u=>
   simp only
   unfold upTo at hu;obtain ⟨h1,A,B,he,hA⟩:=List.find?_eq_some_iff_append.1 hu;have e:vs=B.reverse++u::A.reverse:=by
    have:=congrArg List.reverse he;simpa using this
   rw [e] at hv h;rcases List.mem_append.1 hv with hv|hv
   ·exact Gs ((List.pairwise_append.1 h).2.2 v hv u (List.mem_cons_self ..)) hc.1
   ·rcases List.mem_cons.1 hv with rfl|hv
    ·exact hc.1
    ·have:=hA v (List.mem_reverse.1 hv);rw [hc.2] at this;simp at this
def chV (p:TSpan)(a b:TStamp)(v:TVersion):Bool:=inB p v.fKey&&(bhd v.fAt a&& !bhd v.fAt b)
def chI (p:TSpan)(b:TStamp)(txn:Int)(x:TIntent):Bool:=inB p x.fKey&&((x.fTxn != txn)&& !bhd x.fAt b)
theorem ABw {p:TSpan}{a b:TStamp}{txn:Int}:∀{rows:List Row},(∀r∈rows,RowOk r)→((Ad rows).any (chV p a b)||(intsOf rows).any (chI p b txn))=(inR p rows).any (chR a b txn)
 |[],_=>rfl
 |r::rs,h=>by
  have ih:=ABw (p:=p) (a:=a) (b:=b) (txn:=txn) (rows:=rs) (fun x hx=>h x (List.mem_cons_of_mem _ hx));have hr:=h r (List.mem_cons_self ..);rw [BB,BP,Px,List.any_append,List.any_append];have e1:(r.vs.map (FJ r.key)).any (chV p a b)=(inB p r.key&&JL a b r.vs):=by
   rw [VO hr.rise,List.any_map];have ef:(chV p a b ∘ FJ r.key)=fun x=>inB p r.key&&(bhd x.fAt a&& !bhd x.fAt b):=rfl;rw [ef];cases inB p r.key <;> simp
  have e2:((if r.it.txn=0 then [] else [itF r]).any (chI p b txn))=(inB p r.key&&(r.it.txn != 0&&(r.it.txn != txn)&& !bhd r.it.ver.fAt b)):=by
   by_cases h0:r.it.txn=0
   ·rw [if_pos h0,h0];simp
   ·rw [if_neg h0];have h0':(r.it.txn != 0)=true:=by simpa using h0
    show (chI p b txn (itF r)||false)=_;simp only [chI,itF,h0',Bool.true_and,Bool.or_false]
  rw [e1,e2];cases hb:inB p r.key with
  |false=>simp only [Bool.false_and,Bool.false_or];rw [if_neg (by simp)];exact ih
  |true=>
   rw [if_pos rfl,List.any_cons,←ih];unfold chR;generalize (Ad rs).any (chV p a b)=w1;generalize (intsOf rs).any (chI p b txn)=w2;generalize JL a b r.vs=w3;generalize (r.it.txn != 0&&r.it.txn != txn&& !bhd r.it.ver.fAt b)=w4;cases w1 <;> cases w2 <;> cases w3 <;> cases w4 <;> rfl
abbrev RN (b1 b2 b3:Nat)(v0 v1:Value)(fr to:TStamp)(R:LH):LH:=(b3,.cells #[.int .i64 to.fWall,.int .i64 to.fLogic] 41 (0,0))::(b2,.cells #[.int .i64 fr.fWall,.int .i64 fr.fLogic] 41 (0,0))::(b1,.cells #[v0,v1] 31 (0,0))::R
theorem Qe {α:Type}{f:α→Bool}{l:List α}{i:Nat}(hi:i < l.length):(l.take (i+1)).any f=((l.take i).any f||f l[i]):=by
 rw [take_snoc hi,List.any_append];simp
theorem ADK {α:Type}{f:α→Bool}{l:List α}{i:Nat}(hi:i < l.length)(h:f l[i]=true):l.any f=true:=List.any_eq_true.2 ⟨_,List.getElem_mem hi,h⟩
theorem MI {L0:LH}[LSub L0 L]{b:Nat}{vV vI:Value}{sp:Sp}{p:TSpan}{pc:List Value}{fr to:TStamp}{txn:Int}(hR:RefF I L0 b vV vI (Ad sp.rows) (intsOf sp.rows) sp.floor)(hok:SpOk sp)(hlen:sp.rows.length≤100000000)(hn:Ah sp.rows≤100000000)(hp:TSpanV I p pc)
  (hk:K (.tuple #[.bool (chF sp p fr to txn).1,.int .i64 (chF sp p fr to txn).2]) I L):
  CT ω 172 #[pt b,.agg pc.toArray,sv fr,sv to,.int .i64 txn] K I L:=by
 obtain ⟨v0,v1,rfl,hb0,hb1⟩:=hp;have hp:TSpanV I p [v0,v1]:=⟨v0,v1,rfl,hb0,hb1⟩;have bad:∀(b1 b2 b3:Nat),((AU fr&&Ak txn)=false∨AU to=false)→Gh (K (.tuple #[.bool false,.int .i64 1])) I (RN b1 b2 b3 v0 v1 fr to L):=by
  intro b1 b2 b3 hb;have eg:chF sp p fr to txn=(false,1):=by unfold chF;rw [if_pos hb]
  rw [eg] at hk;exact Gh.to L (Gh.done hk)
 have hch:=ABw (p:=p) (a:=fr) (b:=to) (txn:=txn) hok.rows;have hVl:(Ad sp.rows).length≤100000000:=by rw [Cp];exact hn
 have hIl:(intsOf sp.rows).length≤100000000:=by
  have:=List.length_filter_le (fun r:Row=>r.it.txn != 0) sp.rows;simp [intsOf];omega
 refine AHz ?_;unfold YV;refine AM (fun b1=>AM (fun b2=>AM (fun b3=>?_)));refine rdB rfl ?_;refine call (Bl (x:=fr) ?_);refine rdB rfl ?_;refine call (Bl (x:=to) ?_);refine call (Fe ?_);try simp only [SSd,Nat.reduceAdd]
 refine AH (fun e=>?_) (fun e=>bad _ _ _ (.inl (by have:AU fr=false:=(by simpa using e);rw [this];rfl)));have k1:AU fr=true:=by simpa using e
 try simp only [SSd,Nat.reduceAdd]
 refine AH (fun e=>?_) (fun e=>bad _ _ _ (.inr (by simpa using e)));have k2:AU to=true:=by simpa using e
 try simp only [SSd,Nat.reduceAdd]
 refine AD (fun e=>bad _ _ _ (.inl (by have:Ak txn=false:=(by simpa using e);rw [this];simp))) (fun e=>?_);have k3:Ak txn=true:=by simpa using e
 have hf:¬((AU fr&&Ak txn)=false∨AU to=false):=by rw [k1,k2,k3];simp
 have hc2:Cells I L0 b 2 [.int .i64 sp.floor.fWall,.int .i64 sp.floor.fLogic]:=by simpa using hR.head.sub (k:=2) (m:=2)
 refine AK ?_;try simp only [SSd,Nat.reduceAdd]
 refine BX hc2 (Ext.refl _) rfl ?_;refine Ae rfl ?_;refine call (Ai (x:=sp.floor) (y:=fr) ?_);refine AD (fun e2=>?_) (fun e2=>?_)
 ·have eg:chF sp p fr to txn=(false,131):=by unfold chF;rw [if_neg hf,if_pos e2]
  rw [eg] at hk;exact Gh.to L (Gh.done hk)
 have eg:chF sp p fr to txn=((inR p sp.rows).any (chR fr to txn),0):=by unfold chF;rw [if_neg hf,if_neg (by rw [e2];simp)]
 rw [eg,←hch] at hk;have hR1:=hR.vers;have hR2:=hR.ints;generalize Ad sp.rows=V at *;generalize intsOf sp.rows=Is at *;refine loop (fun n s I' L'=>I'=I∧∃i:Nat,n+i=V.length∧s=(.bool false,.int .i64 0,.int .i64 i,())∧L'=RN b1 b2 b3 v0 v1 fr to L∧(V.take i).any (chV p fr to)=false) V.length ⟨rfl,0,rfl,rfl,rfl,by simp⟩ ?_;rintro n s I' L' ⟨rfl,i,hni,rfl,rfl,hA⟩;unfold TG;try simp only [SSd,Nat.reduceAdd]
 refine rdC (hR.head 0 _ rfl) (Ext.refl _) ?_;simp only [RL.len hR1,SSd,Nat.reduceAdd];refine AD (fun e3=>?_) (fun e3=>?_)
 ·have hil:i < V.length:=by simpa using e3
  have hat:=Qe (f:=chV p fr to) hil;rw [hA,Bool.false_or] at hat;obtain ⟨q,off,c,hix,hcl,hc,hcc⟩:=RL.ix hR1 (i:=(i:Int)) (by omega) (by omega);rw [Ab hil] at hc;have hanyV:chV p fr to V[i]=true→V.any (chV p fr to)=true:=ADK hil;generalize V[i]=v at *;obtain ⟨w0,w1,rfl,h0,h1⟩:=hc;have hcv:=hcc I' [] (Ext.refl _) (fun _ h=>h);have hst:Cells I' [] q (off+1) [.int .i64 v.fAt.fWall,.int .i64 v.fAt.fLogic]:=by simpa using hcv.sub (k:=1) (m:=2)
  have next:∀(hno:chV p fr to v=false),Gh (fun I2 L2=>∃m',m' < n∧I2=I'∧∃j:Nat,m'+j=V.length∧((Value.bool false,Value.int .i64 0,Value.int .i64 ((i:Int)+1),()):Value×Value×Value×Unit)=(.bool false,.int .i64 0,.int .i64 j,())∧L2=RN b1 b2 b3 v0 v1 fr to L∧(V.take j).any (chV p fr to)=false) I' (RN b1 b2 b3 v0 v1 fr to L):=
   fun hno=>Gh.done ⟨n - 1,by omega,rfl,i+1,by omega,rfl,rfl,by rw [hat,hno]⟩
  refine AK ?_;refine Ae rfl ?_;try simp only [SSd,Nat.reduceAdd]
  refine Aq (hR.head 0 _ rfl) (Ext.refl _) ?_;simp only [hix,SSd,Nat.reduceAdd];refine Aq (hcv 0 _ rfl) (Ext.refl _) ?_;refine call (Ei hp h0 ?_);refine AK ?_;try simp only [SSd,Nat.reduceAdd]
  refine Aq (hR.head 0 _ rfl) (Ext.refl _) ?_;simp only [hix,SSd,Nat.reduceAdd];refine BX hst (Ext.refl _) rfl ?_;refine Ae rfl ?_;refine call (Ai (x:=v.fAt) (y:=fr) ?_);refine AK ?_;try simp only [SSd,Nat.reduceAdd]
  refine Aq (hR.head 0 _ rfl) (Ext.refl _) ?_;simp only [hix,SSd,Nat.reduceAdd];refine BX hst (Ext.refl _) rfl ?_;refine Ae rfl ?_;refine call (Ai (x:=v.fAt) (y:=to) ?_);simp only [wrap_i64 ((i:Int)+1) (by omega),SSd,Nat.reduceAdd];refine AH (fun c1=>?_) (fun c1=>next (by unfold chV;rw [Bool.eq_false_iff.2 c1];rfl));refine AH (fun c2=>?_) (fun c2=>next (by unfold chV;rw [Bool.eq_false_iff.2 c2];simp));refine AD (fun c3=>?_) (fun c3=>next (by unfold chV;rw [c3];simp));have hy:=hanyV (by unfold chV;rw [c1,c2,c3];rfl);rw [hy,Bool.true_or] at hk;exact Gh.to L (Gh.done hk)
 have hiV:i=V.length:=by simp at e3;omega
 subst hiV;rw [List.take_length] at hA;rw [hA,Bool.false_or] at hk;unfold TF;refine loop (fun n s I2 L'=>I2=I'∧∃i:Nat,n+i=Is.length∧s=(.bool false,.int .i64 0,.int .i64 i,())∧L'=RN b1 b2 b3 v0 v1 fr to L∧(Is.take i).any (chI p to txn)=false) Is.length ⟨rfl,0,rfl,rfl,rfl,by simp⟩ ?_;rintro n2 s2 I2 L2 ⟨rfl,i,hni2,rfl,rfl,hA2⟩;unfold TE;try simp only [SSd,Nat.reduceAdd]
 refine rdC (hR.head 1 _ rfl) (Ext.refl _) ?_;simp only [RL.len hR2,SSd,Nat.reduceAdd];refine AD (fun e4=>?_) (fun e4=>?_)
 ·have hil:i < Is.length:=by simpa using e4
  have hat:=Qe (f:=chI p to txn) hil;rw [hA2,Bool.false_or] at hat;obtain ⟨q,off,c,hix,hcl,hc,hcc⟩:=RL.ix hR2 (i:=(i:Int)) (by omega) (by omega);rw [Ab hil] at hc;have hanyI:chI p to txn Is[i]=true→Is.any (chI p to txn)=true:=ADK hil;generalize Is[i]=v at *;obtain ⟨w0,w1,rfl,h0,h1⟩:=hc;have hcv:=hcc I2 [] (Ext.refl _) (fun _ h=>h);have hst:Cells I2 [] q (off+2) [.int .i64 v.fAt.fWall,.int .i64 v.fAt.fLogic]:=by simpa using hcv.sub (k:=2) (m:=2)
  have next:∀(hno:chI p to txn v=false),Gh (fun I3 L3=>∃m',m' < n2∧I3=I2∧∃j:Nat,m'+j=Is.length∧((Value.bool false,Value.int .i64 0,Value.int .i64 ((i:Int)+1),()):Value×Value×Value×Unit)=(.bool false,.int .i64 0,.int .i64 j,())∧L3=RN b1 b2 b3 v0 v1 fr to L∧(Is.take j).any (chI p to txn)=false) I2 (RN b1 b2 b3 v0 v1 fr to L):=
   fun hno=>Gh.done ⟨n2 - 1,by omega,rfl,i+1,by omega,rfl,rfl,by rw [hat,hno]⟩
  refine AK ?_;refine Ae rfl ?_;try simp only [SSd,Nat.reduceAdd]
  refine Aq (hR.head 1 _ rfl) (Ext.refl _) ?_;simp only [hix,SSd,Nat.reduceAdd];refine Aq (hcv 0 _ rfl) (Ext.refl _) ?_;refine call (Ei hp h0 ?_);refine AK ?_;try simp only [SSd,Nat.reduceAdd]
  refine Aq (hR.head 1 _ rfl) (Ext.refl _) ?_;simp only [hix,SSd,Nat.reduceAdd];refine BX hst (Ext.refl _) rfl ?_;refine Ae rfl ?_;refine call (Ai (x:=v.fAt) (y:=to) ?_);simp only [wrap_i64 ((i:Int)+1) (by omega),SSd,Nat.reduceAdd];refine AH (fun c1=>?_) (fun c1=>next (by unfold chI;rw [Bool.eq_false_iff.2 c1];rfl));try simp only [SSd,Nat.reduceAdd]
  refine rdC (hR.head 1 _ rfl) (Ext.refl _) ?_;simp only [hix,SSd,Nat.reduceAdd];refine rdC (hcv 1 _ rfl) (Ext.refl _) ?_;try simp only [SSd,Nat.reduceAdd]
  refine AH (fun c2=>?_) (fun c2=>next (by unfold chI;rw [Bool.eq_false_iff.2 c2];simp));try simp only [SSd,Nat.reduceAdd]
  refine AD (fun c3=>?_) (fun c3=>next (by unfold chI;rw [c3];simp));have hy:=hanyI (by unfold chI;rw [c1,c2,c3];rfl);rw [hy] at hk;exact Gh.to L (Gh.done hk)
 have hiI:i=Is.length:=by simp at e4;omega
 subst hiI;rw [List.take_length] at hA2;rw [hA2] at hk;exact Gh.to L (Gh.done hk)
end
section
variable {ω:Om}{I:Imm}{L:LH}{K:Value→M}
theorem Ck {α:Type}{R:Imm→α→List Value→Prop}{T n bytes:Nat}{z:Array Value}{X6 L0 F:LH}{v:Value}{xs:List α}{x:α}{c cells:List Value}[SplitL X6 L0 F](hz:z.size=n)(hn:0 < n)(h6:SlO T n X6 v cells xs.length)(hR:Recs (R I) n xs cells)(hx:R I x c)(hcl:c.length=n)(h1:∀u∈c,u.oneCell'=true)(hb:(xs.length+1) * bytes≤150000000000000)(hl:xs.length+1≤150000000000000)
  (hk:∀X1 X6' v' cells',SlO T n X6' v' cells' (xs++[x]).length→Recs (R I) n (xs++[x]) cells'→Gh (K v') I (X6'++(X1++F))):
  Ay T n z 1 [(0,.agg c.toArray)] (gh fun u=>App T n bytes z v u (gh K)) I L0:=by
 refine Dg hz hn (by simpa [Value.cells] using hcl) (fun X1 u hX1=>?_);refine Et (X:=X6) hz h6 (hX1.news (fun x hx=>List.mem_append_left _ hx)) (fun u hu=>h1 u (by simpa [Value.cells] using hu)) hb hl (fun X' v' hX'=>?_);exact hk X1 X' v' _ (by simpa [Value.cells] using hX') (Recs.append hR (Recs.one (by simpa [Value.cells] using hcl) (by simpa [Value.cells] using hx)))
abbrev BC (vV vI:Value)(fl:TStamp):Obj:=.cells #[vV,vI,.int .i64 fl.fWall,.int .i64 fl.fLogic] 120 (0,0)
theorem ABA {b:Nat}{vV vI:Value}{V:List TVersion}{Is:List TIntent}{fl:TStamp}(hm:(b,BC vV vI fl)∈L)(h1:RL TVersionV 5 I [] vV V)(h2:RL TIntentV 6 I [] vI Is):RefF I L b vV vI V Is fl:=
 ⟨Cb (l:=[vV,vI,.int .i64 fl.fWall,.int .i64 fl.fLogic]) hm 4,h1,h2⟩
abbrev Jd (v0 v1:Value)(x:TIntent):Obj:=.cells #[v0,.int .i64 x.fTxn,.int .i64 x.fAt.fWall,.int .i64 x.fAt.fLogic,.bool x.fDel,v1] 190 (0,0)
theorem Up {b b1 i:Nat}{vV vI v0 v1 v:Value}{V:List TVersion}{Is:List TIntent}{fl:TStamp}{x:TIntent}{d:Bool}{acc:List TIntent}{cells:List Value}{XO F:LH}{Kn0:(Value×Value×Value×Unit)→M}(hV:RL TVersionV 5 I [] vV V)(hI:RL TIntentV 6 I [] vI Is)(h0:Bytes I v0 x.fKey)(hi:i < Is.length)(hil:Is.length≤400000000)
  (hO:SlO 190 6 XO v cells acc.length) (hR:Recs (TIntentV I) 6 acc cells) (hal:acc.length≤800000000)
  (hk:∀XO' v' cells',SlO 190 6 XO' v' cells' (acc++(if Is[i].fKey≠x.fKey then [Is[i]] else [])).length→Recs (TIntentV I) 6 (acc++(if Is[i].fKey≠x.fKey then [Is[i]] else [])) cells'→Gh (Kn0 (v',.bool d,.int .i64 ((i:Int)+1),())) I ((b1,Jd v0 v1 x)::(b,BC vV vI fl)::(XO'++F))):
  GZ ω (pt b) (pt b1) v (.bool d) (.int .i64 i) (fun s=>Gh (Kn0 s)) (fun v=>Gh (K v)) I ((b1,Jd v0 v1 x)::(b,BC vV vI fl)::(XO++F)):=by
 obtain ⟨q,off,c,hix,hcl,hc,hcc⟩:=RL.ix hI (i:=(i:Int)) (by omega) (by omega);rw [Ab hi] at hc;generalize Is[i]=y at *;obtain ⟨w0,w1,rfl,g0,g1⟩:=hc;have hcv:=hcc I [] (Ext.refl _) (fun _ h=>h);unfold GZ;refine AK ?_;try simp only [SSd,Nat.reduceAdd]
 refine AV ?_;simp only [hix,SSd,Nat.reduceAdd];refine Aq (hcv 0 _ rfl) (Ext.refl _) ?_;refine BS g0 (Ext.refl _) ?_;try simp only [SSd,Nat.reduceAdd]
 refine AV ?_;refine BS h0 (Ext.refl _) ?_;simp only [sNe,SSd,Nat.reduceAdd];refine AD (fun e=>?_) (fun e=>?_)
 ·have e':y.fKey≠x.fKey:=by simpa using e
  rw [if_pos e'] at hk;refine rdb ?_;simp only [hix,SSd,Nat.reduceAdd];refine FO hcv (Ext.refl _) rfl ?_;refine DY (R:=TIntentV) (X6:=XO) (x:=y) rfl (by omega) hO hR ⟨w0,w1,rfl,g0,g1⟩ rfl (by
   obtain ⟨_,_,rfl⟩:=Bytes.form g0;obtain ⟨_,_,rfl⟩:=Bytes.form g1;exact AE rfl) (by omega) (by omega) (fun X1 X6 v6 cells6 h6 hR6=>?_)
  unfold Jn;try simp only [SSd,Nat.reduceAdd]
  rw [wrap_i64 _ (by omega)];exact Gh.to ((b1,Jd v0 v1 x)::(b,BC vV vI fl)::(X6++F)) (hk X6 v6 cells6 h6 hR6)
 ·have e':¬y.fKey≠x.fKey:=by simpa using e
  rw [if_neg e',List.append_nil] at hk;unfold Jn;try simp only [SSd,Nat.reduceAdd]
  rw [wrap_i64 _ (by omega)];exact hk XO v cells hO hR
theorem Oz {b:Nat}{vV vI v0 v1:Value}{V:List TVersion}{Is:List TIntent}{fl:TStamp}{x:TIntent}{F:LH}(hV:RL TVersionV 5 I [] vV V)(hI:RL TIntentV 6 I [] vI Is)(h0:Bytes I v0 x.fKey)(h1:Bytes I v1 x.fValue)(hil:Is.length≤400000000)
  (hk:∀I' vI',Ext I I'→RL TIntentV 6 I' [] vI' (FC x false Is)→K (.tuple #[]) I' ((b,BC vV vI' fl)::F)):
  CT ω 228 #[pt b,.agg (itV v0 v1 x).toArray] K I ((b,BC vV vI fl)::F):=by
 have hx:TIntentV I x (itV v0 v1 x):=⟨v0,v1,rfl,h0,h1⟩;have hx1:∀u∈itV v0 v1 x,u.oneCell'=true:=by
  obtain ⟨_,_,rfl⟩:=Bytes.form h0;obtain ⟨_,_,rfl⟩:=Bytes.form h1;exact AE rfl
 refine AHV ?_;unfold Wz;refine AM (fun b1=>?_);refine loop (fun n s I' L'=>I'=I∧∃(i:Nat) (d:Bool) (XO:LH) (v:Value) (acc:List TIntent) (cells:List Value),n+i=Is.length∧s=(v,.bool d,.int .i64 i,())∧L'=(b1,Jd v0 v1 x)::(b,BC vV vI fl)::(XO++F)∧SlO 190 6 XO v cells acc.length∧Recs (TIntentV I) 6 acc cells∧acc.length≤2 * i∧
   acc++FC x d (Is.drop i)=FC x false Is) Is.length ⟨rfl,0,false,[],_,[],[],rfl,rfl,rfl,SlO.none _ _,rfl,by simp,rfl⟩ ?_
 rintro n s I' L' ⟨rfl,i,d,XO,v,acc,cells,hni,rfl,rfl,hO,hR,hal,hA⟩;unfold Sg;try simp only [SSd,Nat.reduceAdd]
 refine rdb ?_;simp only [RL.len hI,SSd,Nat.reduceAdd];have end8:∀(XO:LH) (v:Value) (cells:List Value) (acc:List TIntent),SlO 190 6 XO v cells acc.length→Recs (TIntentV I') 6 acc cells→acc=FC x false Is→Jm ω (pt b) v (fun v=>Gh (K v)) I' ((b1,Jd v0 v1 x)::(b,BC vV vI fl)::(XO++F)):=by
  intro XO v cells acc hO hR he;subst he;obtain ⟨oa,oc,rfl⟩:=hO.form;unfold Jm;try simp only [SSd,Nat.reduceAdd]
  refine st1 rfl ?_;refine Gh.to (XO++((b,BC vV (.slice oa (FC x false Is).length oc) fl)::F)) (SlO.freeze hO (fun I3 hI3 hSl=>Gh.done ?_));exact hk I3 _ hI3 (RL.ofI hSl (hR.imp fun x c h=>h.mono hI3))
 refine AD (fun e=>?_) (fun e=>?_)
 ·have hi:i < Is.length:=by simpa using e
  have hd:Is.drop i=Is[i]::Is.drop (i+1):=List.drop_eq_getElem_cons hi;rw [hd,FC] at hA;obtain ⟨q,off,c,hix,hcl,hc,hcc⟩:=RL.ix hI (i:=(i:Int)) (by omega) (by omega);rw [Ab hi] at hc;have three:∀(XO:LH) (v:Value) (cells:List Value) (acc:List TIntent) (d:Bool),SlO 190 6 XO v cells acc.length→Recs (TIntentV I') 6 acc cells→acc.length≤2 * i+1→acc++((if Is[i].fKey≠x.fKey then [Is[i]] else [])++FC x d (Is.drop (i+1)))=FC x false Is→
    GZ ω (pt b) (pt b1) v (.bool d) (.int .i64 i) (fun s'=>Gh fun I2 L2=>∃m',m' < n∧I2=I'∧∃(i:Nat) (d:Bool) (XO:LH) (v:Value) (acc:List TIntent) (cells:List Value),m'+i=Is.length∧s'=(v,.bool d,.int .i64 i,())∧L2=(b1,Jd v0 v1 x)::(b,BC vV vI fl)::(XO++F)∧SlO 190 6 XO v cells acc.length∧Recs (TIntentV I') 6 acc cells∧acc.length≤2 * i∧
   acc++FC x d (Is.drop i)=FC x false Is) (fun v=>Gh (K v)) I' ((b1,Jd v0 v1 x)::(b,BC vV vI fl)::(XO++F)):=by
   intro XO v cells acc d hO hR hal hA;refine Up hV hI h0 hi hil hO hR (by omega) (fun XO' v' cells' hO' hR'=>Gh.done ⟨n - 1,by omega,rfl,i+1,d,XO',v',_,cells',by omega,rfl,rfl,hO',hR',?_,by rw [List.append_assoc];exact hA⟩);rw [List.length_append];split <;> simp <;> omega
  generalize Is[i]=y at *;obtain ⟨w0,w1,rfl,g0,g1⟩:=hc;have hcv:=hcc I' [] (Ext.refl _) (fun _ h=>h);refine AK ?_;try simp only [SSd,Nat.reduceAdd]
  cases d with
  |true=>
   simp only [Bool.not_true,Bool.false_and,Bool.true_or] at hA;rw [if_neg (by simp)] at hA;simp only [Bool.not_true,SSd,Nat.reduceAdd];exact three XO v cells acc true hO hR (by omega) hA
  |false=>
   simp only [Bool.not_false,SSd,Nat.reduceAdd];refine AV ?_;simp only [hix,SSd,Nat.reduceAdd];refine Aq (hcv 0 _ rfl) (Ext.refl _) ?_;refine BS g0 (Ext.refl _) ?_;try simp only [SSd,Nat.reduceAdd]
   refine AV ?_;refine BS h0 (Ext.refl _) ?_;simp only [sGe,SSd,Nat.reduceAdd];refine AD (fun e2=>?_) (fun e2=>?_)
   ·rw [e2] at hA;simp only [Bool.not_false,Bool.and_self,Bool.or_true,if_true] at hA;unfold Sf;refine rdB rfl ?_;refine Ck (R:=TIntentV) (X6:=XO) (x:=x) rfl (by omega) hO hR hx rfl hx1 (by omega) (by omega) (fun X1 X6 v6 cells6 h6 hR6=>?_);refine Gh.to ((b1,Jd v0 v1 x)::(b,BC vV vI fl)::(X6++F)) (Gh.done (three X6 v6 cells6 _ true h6 hR6 (by simp;omega) ?_));rw [List.append_assoc];exact hA
   ·rw [e2] at hA;simp only [Bool.not_false,Bool.and_false,Bool.or_false] at hA;rw [if_neg (by simp)] at hA;exact three XO v cells acc false hO hR (by omega) hA
 ·have hi:i=Is.length:=by simp at e;omega
  subst hi;rw [List.drop_length,FC] at hA;unfold Se;try simp only [SSd,Nat.reduceAdd]
  cases d with
  |true=>
   simp only [Bool.not_true,SSd,Nat.reduceAdd];exact end8 XO v cells acc hO hR (by simpa using hA)
  |false=>
   simp only [Bool.not_false,SSd,Nat.reduceAdd];refine rdB rfl ?_;refine Ck (R:=TIntentV) (X6:=XO) (x:=x) rfl (by omega) hO hR hx rfl hx1 (by omega) (by omega) (fun X1 X6 v6 cells6 h6 hR6=>?_);exact Gh.to ((b1,Jd v0 v1 x)::(b,BC vV vI fl)::(X6++F)) (Gh.done (end8 X6 v6 cells6 _ h6 hR6 (by simpa using hA)))
def xAt (x:TIntent)(a:TStamp):TIntent:=⟨x.fKey,x.fTxn,a,x.fDel,x.fValue⟩
abbrev rpL (b b1 b2:Nat)(vV vI v0 v1:Value)(x:TIntent)(a fl:TStamp)(F:LH):LH:=(b2,.cells #[.int .i64 0,.int .i64 0] 41 (0,0))::(b1,Jd v0 v1 (xAt x a))::(b,BC vV vI fl)::F
theorem Ml {b:Nat}{vV vI:Value}{x:TIntent}{c:List Value}{F:LH}{sp:Sp}(h1:RL TVersionV 5 I [] vV (Ad sp.rows))(h2:RL TIntentV 6 I [] vI (intsOf sp.rows))(hok:SpOk sp)(hlen:sp.rows.length≤100000000)(hn:Ah sp.rows≤100000000)(hx:TIntentV I x c)
  (hk:∀I' vI',Ext I I'→RL TIntentV 6 I' [] vI' (intsOf (CL sp x).rows)→K (.tuple #[sv (Az sp x).1,.int .i64 (Az sp x).2.1,.int .i64 (Az sp x).2.2]) I' ((b,BC vV vI' sp.floor)::F)):
  CT ω 170 #[pt b,.agg c.toArray] K I ((b,BC vV vI sp.floor)::F):=by
 obtain ⟨v0,v1,rfl,g0,g1⟩:=hx;have hs:=hok.rise;have hVl:(Ad sp.rows).length≤100000000:=by rw [Cp];exact hn
 have hIl:(intsOf sp.rows).length≤100000000:=by
  have:=List.length_filter_le (fun r:Row=>r.it.txn != 0) sp.rows;simp [intsOf];omega
 have hR:∀{L':LH},(b,BC vV vI sp.floor)∈L'→RefF I L' b vV vI (Ad sp.rows) (intsOf sp.rows) sp.floor:=fun hm=>ABA hm h1 h2;obtain ⟨ka,kc,rfl⟩:=Bytes.form g0;obtain ⟨va,vc,rfl⟩:=Bytes.form g1;have err:∀by' e,Az sp x=(z0,by',e)→e≠0→K (.tuple #[sv z0,.int .i64 by',.int .i64 e]) I ((b,BC vV vI sp.floor)::F):=by
  intro by' e ha he;have e2:CL sp x=sp:=by unfold CL;rw [ha];exact if_pos he
  rw [e2] at hk;have hk':=hk I vI (Ext.refl _) h2;rw [ha] at hk';exact hk'
 refine AIB ?_;unfold sh170;refine AM (fun b1=>AM (fun b2=>?_));have bad:∀hb:Cz x,sh170_1 ω (pt b2) (.int .i64 0) (.int .i64 0) (fun v=>Gh (K v)) I (rpL b b1 b2 vV vI (.slice ka x.fKey.length kc) (.slice va x.fValue.length vc) x x.fAt sp.floor F):=by
  intro hb;have hk':=err 0 1 (by unfold Az;rw [if_pos hb]) (by decide);unfold sh170_1;repeat' (first|(with_reducible first|refine AK ?_|refine AX ?_|refine AY ?_|refine keepA ?_|refine AM (fun _=>?_)|refine rdb ?_)|((with_reducible first|refine st1 ?_ ?_|refine rdB ?_ ?_);rfl)|(with_reducible refine AV ?_)|((with_reducible refine Ae ?_ ?_);rfl)|((with_reducible refine stB ?_ ?_ ?_ ?_);rfl;rfl;exact AE rfl)|((with_reducible first|refine rdP _ rfl ?_ ?_|refine Af _ rfl ?_ ?_);rfl)|((with_reducible refine stP _ rfl ?_ ?_ ?_ ?_);rfl;rfl;rfl)|(with_reducible first|refine AO (sh170_1.eq_1 ..) ?_|refine AO (sh170_2.eq_1 ..) ?_|refine AO (sh170_8.eq_1 ..) ?_|refine AO (sh170_7.eq_1 ..) ?_|refine AO (sh170_6.eq_1 ..) ?_|refine AO (sh170_5.eq_1 ..) ?_|refine AO (sh170_4.eq_1 ..) ?_|refine AO (sh170_3.eq_1 ..) ?_|refine AO (sh170.eq_1 ..) ?_|refine And.intro ?_ ?_)|(simp only [SSg,Int.reduceBEq,Int.reduceBNe,Int.reduceLT,Int.reduceLE,beq_self_eq_true,bne_self_eq_false])|(with_reducible first|refine AH (fun _=>?_) (fun _=>?_)|refine AD (fun _=>?_) (fun _=>?_))|(simp only [SSd,Nat.reduceAdd]))
  exact Gh.to ((b,BC vV vI sp.floor)::F) (Gh.done hk')
 have main:∀(hb:¬Cz x),(Pv (AA 0 (pt b1)) fun v27=>Rv none (AB v27) fun v28=>CT ω 166 #[pt b,v28]<|gh fun v29=>Pv (exV v29 0) fun v30=>Pv (exV v29 1) fun v31=>New (.cells #[.slice none 0 0,.int .i64 0,.int .i64 0,.int .i64 0,.bool false,.slice none 0 0] 190 (0,0))<|gh fun own=>Sto 6 own v30<|gh fun _=>
   Gd v31 true (Pv (AA 1 own) fun v33=>Rv none (AB v33) fun v34=>Pv (AA 1 (pt b1)) fun v35=>Rv none (AB v35) fun v36=>Pv (AC .neq v34 v36) fun v37=>Br v37 (sh170_2 ω (pt b2) (.int .i64 0) (.int .i64 0) own (fun v=>Gh (K v)))
    (Ac fun S=>Pv (AJ (pt b)) fun v42=>Pv (AA 2 v42) fun v43=>Rv (some S) (AF 2 v43) fun v44=>Pv (AA 2 (pt b1)) fun v45=>Rv (some S) (AF 2 v45) fun v46=>CT ω 109 #[v44,v46]<|gh fun v47=>Br v47 (sh170_3 ω (pt b) (pt b1) (pt b2) (.int .i64 0) (.int .i64 0) own v31 (fun v=>Gh (K v))) (sh170_4 ω (pt b) (pt b1) (pt b2) (.int .i64 0) (.int .i64 0) own v31 (fun v=>Gh (K v)))))
    (Ac fun S=>Pv (AJ (pt b)) fun v88=>Pv (AA 2 v88) fun v89=>Rv (some S) (AF 2 v89) fun v90=>Pv (AA 2 (pt b1)) fun v91=>Rv (some S) (AF 2 v91) fun v92=>CT ω 109 #[v90,v92]<|gh fun v93=>Br v93 (sh170_3 ω (pt b) (pt b1) (pt b2) (.int .i64 0) (.int .i64 0) own v31 (fun v=>Gh (K v))) (sh170_4 ω (pt b) (pt b1) (pt b2) (.int .i64 0) (.int .i64 0) own v31 (fun v=>Gh (K v))))) I
   (rpL b b1 b2 vV vI (.slice ka x.fKey.length kc) (.slice va x.fValue.length vc) x x.fAt sp.floor F):=by
  intro hb;have hb':=hb;unfold Cz at hb';simp only [not_or,not_and,Bool.not_eq_false,Nat.not_lt,Decidable.not_not] at hb';have hA:Az sp x=if (Bm sp.rows x.fKey).txn≠0∧(Bm sp.rows x.fKey).txn≠x.fTxn then (z0,(Bm sp.rows x.fKey).txn,130) else
    if (Cu (putAt sp x) (Dh sp.rows x.fKey).getLast?).2≠0 then (z0,0,(Cu (putAt sp x) (Dh sp.rows x.fKey).getLast?).2) else ((Cu (putAt sp x) (Dh sp.rows x.fKey).getLast?).1,0,0):=by
   unfold Az;rw [if_neg hb]
  have eight:∀(a:TStamp) (Z:LH),Az sp x=(a,0,0)→sh170_8 ω (pt b) (pt b1) (pt b2) (.int .i64 0) (.int .i64 0) (fun v=>Gh (K v)) I (Z++rpL b b1 b2 vV vI (.slice ka x.fKey.length kc) (.slice va x.fValue.length vc) x a sp.floor F):=by
   intro a Z ha;have e2:CL sp x=⟨FL x.fKey (El x a) sp.rows,sp.floor⟩:=by unfold CL;rw [ha];rfl
   rw [e2,ha] at hk;have hset:=Uo (it:=El x a) (k:=x.fKey) hs (FY hb'.2.1);unfold sh170_8;refine rdB rfl ?_;refine call (Cal.perm (L':=(b,BC vV vI sp.floor)::(Z++((b2,.cells #[.int .i64 0,.int .i64 0] 41 (0,0))::(b1,Jd (.slice ka x.fKey.length kc) (.slice va x.fValue.length vc) (xAt x a))::F))) (AQ (by ((try simp only [AN,AP,Aa,AR]);(try ac_rfl)))) ?_);refine Oz (x:=xAt x a) h1 h2 g0 g1 (by omega) (fun I' vI' hI' h'=>?_);try simp only [SSd,Nat.reduceAdd]
   refine rdP [.int .i64 a.fWall,.int .i64 a.fLogic] rfl rfl ?_;refine stB rfl rfl (AE rfl) ?_;refine rdB rfl ?_;refine Gh.to ((b,BC vV vI' sp.floor)::F) (Gh.done (hk I' vI' hI' ?_));rw [←hset];exact h'
  try simp only [SSd,Nat.reduceAdd]
  refine rdb ?_;refine call (Ff (L0:=(b,BC vV vI sp.floor)::F) (hR (List.mem_cons_self ..)) g0 (by omega) (fun o0 o1 ho0 ho1=>?_));rw [Ik hs x.fKey] at ho0 ho1 ⊢;obtain ⟨oa,oc,rfl⟩:=Bytes.form ho0;obtain ⟨pa,pc,rfl⟩:=Bytes.form ho1;try simp only [SSd,Nat.reduceAdd]
  refine AM (fun b3=>?_);refine stB rfl rfl (AE rfl) ?_;generalize hown:(Dd sp.rows x.fKey).getD Pc=own at *;have hz3:∀a,(b3,Obj.cells (itV (.slice oa own.fKey.length oc) (.slice pa own.fValue.length pc) own).toArray 190 (0,0))::rpL b b1 b2 vV vI (.slice ka x.fKey.length kc) (.slice va x.fValue.length vc) x a sp.floor F=[(b3,Obj.cells (itV (.slice oa own.fKey.length oc) (.slice pa own.fValue.length pc) own).toArray 190 (0,0))]++rpL b b1 b2 vV vI (.slice ka x.fKey.length kc) (.slice va x.fValue.length vc) x a sp.floor F:=fun _=>rfl;have six:∀a,a=putAt sp x→¬((Bm sp.rows x.fKey).txn≠0∧(Bm sp.rows x.fKey).txn≠x.fTxn)→sh170_6 ω (pt b) (pt b1) (pt b2) (.int .i64 0) (.int .i64 0) (fun v=>Gh (K v)) I ((b3,Obj.cells (itV (.slice oa own.fKey.length oc) (.slice pa own.fValue.length pc) own).toArray 190 (0,0))::rpL b b1 b2 vV vI (.slice ka x.fKey.length kc) (.slice va x.fValue.length vc) x a sp.floor F):=by
   intro a ha hno;rw [if_neg hno,←ha] at hA;unfold sh170_6;try simp only [SSd,Nat.reduceAdd]
   refine rdb ?_;refine call (Kk (L0:=(b,BC vV vI sp.floor)::F) (hR (List.mem_cons_self ..)) g0 (by omega) (fun u0 u1 hu0 hu1=>?_));rw [GV hs x.fKey KR,Po hok x.fKey] at hu0 hu1 ⊢;obtain ⟨ua,uc,rfl⟩:=Bytes.form hu0;obtain ⟨wa,wc,rfl⟩:=Bytes.form hu1;try simp only [SSd,Nat.reduceAdd]
   refine AM (fun b4=>?_);refine stB rfl rfl (AE rfl) ?_;try simp only [SSd,Nat.reduceAdd]
   refine rdP [.int .i64 a.fWall,.int .i64 a.fLogic] rfl rfl ?_;try simp only [SSd,Nat.reduceAdd]
   cases hl:(Dh sp.rows x.fKey).getLast? with
   |none=>
    rw [hl] at hA;simp only [Option.map_none,Option.getD_none,Option.isSome_none];refine rdP [.int .i64 0,.int .i64 0] rfl rfl ?_;refine call (Ai (x:=a) (y:=⟨0,0⟩) ?_);try simp only [SSd,Nat.reduceAdd]
    exact eight a (_::[_]) hA
   |some v=>
    rw [hl] at hA;simp only [Option.map_some,Option.getD_some,Option.isSome_some,FJ];refine rdP [.int .i64 v.fAt.fWall,.int .i64 v.fAt.fLogic] rfl rfl ?_;refine call (Ai (x:=a) (y:=v.fAt) ?_);try simp only [SSd,Nat.reduceAdd]
    refine AD (fun e=>?_) (fun e=>?_)
    ·have e':¬bhd a v.fAt=true:=by simpa using e
     have ep:Cu a (some v)=Bs v.fAt:=if_neg e';rw [ep] at hA;unfold sh170_7;try simp only [SSd,Nat.reduceAdd]
     refine rdP [.int .i64 v.fAt.fWall,.int .i64 v.fAt.fLogic] rfl rfl ?_;refine call (Kj (x:=v.fAt) ?_);try simp only [SSd,Nat.reduceAdd]
     refine AM (fun b5=>?_);refine stB rfl rfl (AE rfl) ?_;try simp only [SSd,Nat.reduceAdd]
     refine AD (fun e2=>?_) (fun e2=>?_)
     ·have e2':(Bs v.fAt).2≠0:=by simpa using e2
      rw [if_pos e2'] at hA;have hk':=err _ _ hA e2';repeat' (first|(with_reducible first|refine AK ?_|refine AX ?_|refine AY ?_|refine keepA ?_|refine AM (fun _=>?_)|refine rdb ?_)|((with_reducible first|refine st1 ?_ ?_|refine rdB ?_ ?_);rfl)|(with_reducible refine AV ?_)|((with_reducible refine Ae ?_ ?_);rfl)|((with_reducible refine stB ?_ ?_ ?_ ?_);rfl;rfl;exact AE rfl)|((with_reducible first|refine rdP _ rfl ?_ ?_|refine Af _ rfl ?_ ?_);rfl)|((with_reducible refine stP _ rfl ?_ ?_ ?_ ?_);rfl;rfl;rfl)|(with_reducible first|refine AO (sh170_1.eq_1 ..) ?_|refine AO (sh170_2.eq_1 ..) ?_|refine AO (sh170_8.eq_1 ..) ?_|refine AO (sh170_7.eq_1 ..) ?_|refine AO (sh170_6.eq_1 ..) ?_|refine AO (sh170_5.eq_1 ..) ?_|refine AO (sh170_4.eq_1 ..) ?_|refine AO (sh170_3.eq_1 ..) ?_|refine AO (sh170.eq_1 ..) ?_|refine And.intro ?_ ?_)|(simp only [SSg,Int.reduceBEq,Int.reduceBNe,Int.reduceLT,Int.reduceLE,beq_self_eq_true,bne_self_eq_false])|(with_reducible first|refine AH (fun _=>?_) (fun _=>?_)|refine AD (fun _=>?_) (fun _=>?_))|(simp only [SSd,Nat.reduceAdd]))
      exact Gh.to ((b,BC vV vI sp.floor)::F) (Gh.done hk')
     ·have e2':¬(Bs v.fAt).2≠0:=by simpa using e2
      rw [if_neg e2'] at hA;refine rdB rfl ?_;try simp only [SSd,Nat.reduceAdd]
      refine stP _ rfl rfl rfl rfl ?_;exact eight (Bs v.fAt).1 (_::_::[_]) hA
    ·have e':bhd a v.fAt=true:=by simpa using e
     have ep:Cu a (some v)=(a,0):=if_pos e';rw [ep] at hA;exact eight a (_::[_]) hA
  have hcase:((Dd sp.rows x.fKey).isSome=false∧(Bm sp.rows x.fKey).txn=0)∨((Dd sp.rows x.fKey).isSome=true∧(Bm sp.rows x.fKey).txn≠0∧own.fTxn=(Bm sp.rows x.fKey).txn∧own.fAt=(Bm sp.rows x.fKey).ver.fAt):=by
   subst hown;unfold Dd Bm;cases hr:rowOf sp.rows x.fKey with
   |none=>exact .inl ⟨rfl,rfl⟩
   |some r=>
    simp only
    by_cases h0:r.it.txn=0
    ·rw [if_pos h0];exact .inl ⟨rfl,h0⟩
    ·rw [if_neg h0];exact .inr ⟨rfl,h0,rfl,rfl⟩
  have four:∀a0,a0=(if bhd sp.floor x.fAt=true then sp.floor else x.fAt)→¬((Bm sp.rows x.fKey).txn≠0∧(Bm sp.rows x.fKey).txn≠x.fTxn)→sh170_4 ω (pt b) (pt b1) (pt b2) (.int .i64 0) (.int .i64 0) (pt b3) (.bool (Dd sp.rows x.fKey).isSome) (fun v=>Gh (K v)) I ((b3,Obj.cells (itV (.slice oa own.fKey.length oc) (.slice pa own.fValue.length pc) own).toArray 190 (0,0))::rpL b b1 b2 vV vI (.slice ka x.fKey.length kc) (.slice va x.fValue.length vc) x a0 sp.floor F):=by
   intro a0 ha hno;have hat:putAt sp x=if (Bm sp.rows x.fKey).txn≠0∧bhd (Bm sp.rows x.fKey).ver.fAt a0=true then (Bm sp.rows x.fKey).ver.fAt else a0:=by unfold putAt;rw [ha]
   unfold sh170_4;try simp only [SSd,Nat.reduceAdd]
   refine rdP [.int .i64 own.fAt.fWall,.int .i64 own.fAt.fLogic] rfl rfl ?_;try simp only [SSd,Nat.reduceAdd]
   refine rdP [.int .i64 a0.fWall,.int .i64 a0.fLogic] rfl rfl ?_;refine call (Ai (x:=own.fAt) (y:=a0) ?_);rcases hcase with ⟨hc1,hc2⟩|⟨hc1,hc2,hc3,hc4⟩
   ·rw [hc1];try simp only [SSd,Nat.reduceAdd]
    rw [if_neg (fun h=>h.1 hc2)] at hat;exact six a0 hat.symm hno
   ·rw [hc1,hc4];try simp only [SSd,Nat.reduceAdd]
    refine AD (fun e=>?_) (fun e=>?_)
    ·rw [if_pos ⟨hc2,e⟩] at hat;unfold sh170_5;try simp only [SSd,Nat.reduceAdd]
     refine rdP [.int .i64 own.fAt.fWall,.int .i64 own.fAt.fLogic] rfl rfl ?_;try simp only [SSd,Nat.reduceAdd]
     refine stP _ rfl rfl rfl rfl ?_;exact six own.fAt (by rw [hat,hc4]) hno
    ·rw [if_neg (fun h=>by rw [h.2] at e;cases e)] at hat;exact six a0 hat.symm hno
  have three:∀(hno:¬((Bm sp.rows x.fKey).txn≠0∧(Bm sp.rows x.fKey).txn≠x.fTxn)),(Ac fun S=>Pv (AJ (pt b)) fun v42=>Pv (AA 2 v42) fun v43=>Rv (some S) (AF 2 v43) fun v44=>Pv (AA 2 (pt b1)) fun v45=>Rv (some S) (AF 2 v45) fun v46=>CT ω 109 #[v44,v46]<|gh fun v47=>
    Br v47 (sh170_3 ω (pt b) (pt b1) (pt b2) (.int .i64 0) (.int .i64 0) (pt b3) (.bool (Dd sp.rows x.fKey).isSome) (fun v=>Gh (K v))) (sh170_4 ω (pt b) (pt b1) (pt b2) (.int .i64 0) (.int .i64 0) (pt b3) (.bool (Dd sp.rows x.fKey).isSome) (fun v=>Gh (K v)))) I ((b3,Obj.cells (itV (.slice oa own.fKey.length oc) (.slice pa own.fValue.length pc) own).toArray 190 (0,0))::rpL b b1 b2 vV vI (.slice ka x.fKey.length kc) (.slice va x.fValue.length vc) x x.fAt sp.floor F):=by
   intro hno;refine AK ?_;try simp only [SSd,Nat.reduceAdd]
   refine Af [.int .i64 sp.floor.fWall,.int .i64 sp.floor.fLogic] rfl rfl ?_;try simp only [SSd,Nat.reduceAdd]
   refine Af [.int .i64 x.fAt.fWall,.int .i64 x.fAt.fLogic] rfl rfl ?_;refine call (Ai (x:=sp.floor) (y:=x.fAt) ?_);refine AD (fun e=>?_) (fun e=>?_)
   ·unfold sh170_3;try simp only [SSd,Nat.reduceAdd]
    refine rdP [.int .i64 sp.floor.fWall,.int .i64 sp.floor.fLogic] rfl rfl ?_;try simp only [SSd,Nat.reduceAdd]
    refine stP _ rfl rfl rfl rfl ?_;exact four sp.floor (by rw [if_pos e]) hno
   ·exact four x.fAt (by rw [if_neg (by rw [e];simp)]) hno
  rcases hcase with ⟨hc1,hc2⟩|⟨hc1,hc2,hc3,hc4⟩
  ·have th:=three (fun h=>h.1 hc2);rw [hc1] at th ⊢;simp only [SSd,Nat.reduceAdd] at th ⊢;exact th
  ·rw [hc1];try simp only [SSd,Nat.reduceAdd]
   refine rdb ?_;try simp only [SSd,Nat.reduceAdd]
   refine rdb ?_;try simp only [SSd,Nat.reduceAdd]
   refine AD (fun e=>?_) (fun e=>?_)
   ·have e':own.fTxn≠x.fTxn:=by simpa [xAt] using e
    rw [if_pos ⟨hc2,by rw [←hc3];exact e'⟩,←hc3] at hA;have hk':=err _ _ hA (by decide);unfold sh170_2;refine AX ?_;try simp only [SSd,Nat.reduceAdd]
    refine AV ?_;refine stB rfl rfl (AE rfl) ?_;refine Bv (Ext.refl _) ?_;refine rdB rfl ?_;exact Gh.to ((b,BC vV vI sp.floor)::F) (Gh.done hk')
   ·have e':own.fTxn=x.fTxn:=by simpa [xAt] using e
    have th:=three (fun h=>h.2 (by rw [←hc3];exact e'));rw [hc1] at th;simp only [SSd,Nat.reduceAdd] at th;exact th
 try simp only [SSd,Nat.reduceAdd]
 refine rdb ?_;refine call (Dz g0 ?_);try simp only [SSd,Nat.reduceAdd]
 refine rdb ?_;refine call (Dy ?_);try simp only [SSd,Nat.reduceAdd]
 refine rdP [.int .i64 x.fAt.fWall,.int .i64 x.fAt.fLogic] rfl rfl ?_;refine call (Bl (x:=x.fAt) ?_);try simp only [SSd,Nat.reduceAdd]
 refine AH (fun e=>?_) (fun e=>bad (.inl (by simpa using e)));have k1:An x.fKey=true:=by simpa using e
 try simp only [SSd,Nat.reduceAdd]
 refine AH (fun e=>?_) (fun e=>bad (.inr (.inl (by simpa using e))));have k2:Bj x.fTxn=true:=by simpa using e
 try simp only [SSd,Nat.reduceAdd]
 refine AH (fun e=>?_) (fun e=>bad (.inr (.inr (.inl (by simpa using e)))));have k3:AU x.fAt=true:=by simpa using e
 try simp only [SSd,Nat.reduceAdd]
 refine rdb ?_;try simp only [SSd,Nat.reduceAdd]
 refine AH (fun e=>?_) (fun e=>bad (.inr (.inr (.inr (.inl (by simp at e;omega))))));have k4:x.fValue.length≤10000:=by simp at e;omega
 try simp only [SSd,Nat.reduceAdd]
 refine rdb ?_;have tail:∀(hd:¬(x.fDel=true∧x.fValue≠[])),¬Cz x:=by
  intro hd;unfold Cz;rintro (h|h|h|h|h)
  ·rw [k1] at h;cases h
  ·rw [k2] at h;cases h
  ·rw [k3] at h;cases h
  ·omega
  ·exact hd h
 refine AH (fun e=>?_) (fun e=>main (tail (fun h=>e h.1)));try simp only [SSd,Nat.reduceAdd]
 refine rdb ?_;try simp only [SSd,Nat.reduceAdd]
 refine AD (fun e2=>?_) (fun e2=>?_)
 ·exact bad (.inr (.inr (.inr (.inr ⟨e,fun h=>by rw [h] at e2;simp at e2⟩))))
 ·have hm:=main (tail (fun h=>by simp at e2;exact h.2 e2));simp only [SSd,Nat.reduceAdd] at hm;exact hm
end
section
variable {ω:Om}{I:Imm}{L:LH}{K:Value→M}
theorem AGu (a b:List UInt8):(!(blt a b||a==b))=blt b a:=by
 cases h:blt b a with
 |true=>
  have h1:=CO h;have h2:=DI h;rw [h1];simpa using h2
 |false=>
  cases h2:blt a b with
  |true=>rfl
  |false=>rw [Ds a b h2 h];simp
abbrev rrL (b bat b3:Nat)(vV vI o0 o1:Value)(own:TIntent)(a fl:TStamp)(Z F:LH):LH:=Z++((b3,Jd o0 o1 own)::(bat,stO a)::(b,BC vV vI fl)::F)
theorem Uy {b bat b3 i:Nat}{vV vI o0 o1 v:Value}{own:TIntent}{a fl:TStamp}{Z XO F:LH}{V acc:List TVersion}{cells:List Value}{d:Bool}{Kn1:(Value×Value×Value×Unit)→M}(hV:RL TVersionV 5 I [] vV V)(hi:i < V.length)(hVl:V.length≤400000000)
  (hO:SlO 188 5 XO v cells acc.length) (hR:Recs (TVersionV I) 5 acc cells) (hal:acc.length≤800000000)
  (hk:∀XO' v' cells',SlO 188 5 XO' v' cells' (acc++[V[i]]).length→Recs (TVersionV I) 5 (acc++[V[i]]) cells'→Gh (Kn1 (v',.bool d,.int .i64 ((i:Int)+1),())) I (rrL b bat b3 vV vI o0 o1 own a fl Z (XO'++F))):
  FK ω (pt b) v (.bool d) (.int .i64 i) (fun s=>Gh (Kn1 s)) (fun v=>Gh (K v)) I (rrL b bat b3 vV vI o0 o1 own a fl Z (XO++F)):=by
 obtain ⟨q,off,c,hix,hcl,hc,hcc⟩:=RL.ix hV (i:=(i:Int)) (by omega) (by omega);rw [Ab hi] at hc;generalize V[i]=y at *;obtain ⟨w0,w1,rfl,g0,g1⟩:=hc;have hcv:=hcc I [] (Ext.refl _) (fun _ h=>h);unfold FK;try simp only [SSd,Nat.reduceAdd]
 refine rdb ?_;simp only [hix,SSd,Nat.reduceAdd];refine FO hcv (Ext.refl _) rfl ?_;refine DY (R:=TVersionV) (X6:=XO) (x:=y) rfl (by omega) hO hR ⟨w0,w1,rfl,g0,g1⟩ rfl (by
  obtain ⟨_,_,rfl⟩:=Bytes.form g0;obtain ⟨_,_,rfl⟩:=Bytes.form g1;exact AE rfl) (by omega) (by omega) (fun X1 X6 v6 cells6 h6 hR6=>?_)
 try simp only [SSd,Nat.reduceAdd]
 rw [wrap_i64 _ (by omega)];exact Gh.to (rrL b bat b3 vV vI o0 o1 own a fl Z (X6++F)) (hk X6 v6 cells6 h6 hR6)
theorem AAr {b bat b3:Nat}{vV vI a1 o0 o1 p10 p11:Value}{own:TIntent}{a fl:TStamp}{Z F:LH}{V:List TVersion}{k:List UInt8}(hV:RL TVersionV 5 I [] vV V)(hVl:V.length≤400000000)(hB:Bytes I a1 k)(h1:Bytes I o1 own.fValue)
  (hk:∀I' vV',Ext I I'→RL TVersionV 5 I' [] vV' (insL ⟨k,a,own.fDel,own.fValue⟩ false V)→K (.tuple #[.bool true,.int .i64 0]) I' ((b,BC vV' vI fl)::F)):
  (Aj ((.slice none 0 0,.bool false,.int .i64 0,()):Value×Value×Value×Unit) fun s Kn1=>KU ω (pt b) a1 (pt bat) p10 p11 (pt b3) s.1 s.2.1 s.2.2.1 Kn1 (fun v=>Gh (K v))) I (rrL b bat b3 vV vI o0 o1 own a fl Z F):=by
 obtain ⟨ka,kc,rfl⟩:=Bytes.form hB;obtain ⟨va,vc,rfl⟩:=Bytes.form h1;generalize hnv:(⟨k,a,own.fDel,own.fValue⟩:TVersion)=nv at *;have hnk:nv.fKey=k:=by rw [←hnv]
 have hrec:∀{I':Imm},Ext I I'→TVersionV I' nv [.slice ka k.length kc,.int .i64 a.fWall,.int .i64 a.fLogic,.bool own.fDel,.slice va own.fValue.length vc]:=fun hI=>by
  rw [←hnv];exact ⟨_,_,rfl,hB.mono hI,h1.mono hI⟩
 refine loop (fun n s I' L'=>I'=I∧∃(i:Nat) (d:Bool) (XO:LH) (v:Value) (acc:List TVersion) (cells:List Value),n+i=V.length∧s=(v,.bool d,.int .i64 i,())∧L'=rrL b bat b3 vV vI o0 (.slice va own.fValue.length vc) own a fl Z (XO++F)∧SlO 188 5 XO v cells acc.length∧Recs (TVersionV I) 5 acc cells∧acc.length≤2 * i∧
   acc++insL nv d (V.drop i)=insL nv false V) V.length ⟨rfl,0,false,[],_,[],[],rfl,rfl,rfl,SlO.none _ _,rfl,by simp,rfl⟩ ?_
 rintro n s I' L' ⟨rfl,i,d,XO,v,acc,cells,hni,rfl,rfl,hO,hR,hal,hA⟩;unfold KU;try simp only [SSd,Nat.reduceAdd]
 refine rdb ?_;simp only [RL.len hV,SSd,Nat.reduceAdd];have end8:∀(XO:LH) (v:Value) (cells:List Value) (acc:List TVersion),SlO 188 5 XO v cells acc.length→Recs (TVersionV I') 5 acc cells→acc=insL nv false V→Hm ω (pt b) p10 p11 v (fun v=>Gh (K v)) I' (rrL b bat b3 vV vI o0 (.slice va own.fValue.length vc) own a fl Z (XO++F)):=by
  intro XO v cells acc hO hR he;subst he;obtain ⟨oa,oc,rfl⟩:=hO.form;unfold Hm;try simp only [SSd,Nat.reduceAdd]
  refine st1 rfl ?_;refine Gh.to (XO++((b,BC (.slice oa (insL nv false V).length oc) vI fl)::F)) (SlO.freeze hO (fun I3 hI3 hSl=>Gh.done ?_));exact hk I3 _ hI3 (RL.ofI hSl (hR.imp fun x c h=>h.mono hI3))
 refine AD (fun e=>?_) (fun e=>?_)
 ·have hi:i < V.length:=by simpa using e
  have hd:V.drop i=V[i]::V.drop (i+1):=List.drop_eq_getElem_cons hi;rw [hd,insL,hnk] at hA;obtain ⟨q,off,c,hix,hcl,hc,hcc⟩:=RL.ix hV (i:=(i:Int)) (by omega) (by omega);rw [Ab hi] at hc;have three:∀(XO:LH) (v:Value) (cells:List Value) (acc:List TVersion) (d:Bool),SlO 188 5 XO v cells acc.length→Recs (TVersionV I') 5 acc cells→acc.length≤2 * i+1→acc++(V[i]::insL nv d (V.drop (i+1)))=insL nv false V→
    FK ω (pt b) v (.bool d) (.int .i64 i) (fun s'=>Gh fun I2 L2=>∃m',m' < n∧I2=I'∧∃(i:Nat) (d:Bool) (XO:LH) (v:Value) (acc:List TVersion) (cells:List Value),m'+i=V.length∧s'=(v,.bool d,.int .i64 i,())∧L2=rrL b bat b3 vV vI o0 (.slice va own.fValue.length vc) own a fl Z (XO++F)∧SlO 188 5 XO v cells acc.length∧Recs (TVersionV I') 5 acc cells∧acc.length≤2 * i∧
   acc++insL nv d (V.drop i)=insL nv false V) (fun v=>Gh (K v)) I' (rrL b bat b3 vV vI o0 (.slice va own.fValue.length vc) own a fl Z (XO++F)):=by
   intro XO v cells acc d hO hR hal hA;refine Uy hV hi hVl hO hR (by omega) (fun XO' v' cells' hO' hR'=>Gh.done ⟨n - 1,by omega,rfl,i+1,d,XO',v',_,cells',by omega,rfl,rfl,hO',hR',?_,by rw [List.append_assoc];exact hA⟩);rw [List.length_append];simp;omega
  generalize V[i]=y at *;obtain ⟨w0,w1,rfl,g0,g1⟩:=hc;have hcv:=hcc I' [] (Ext.refl _) (fun _ h=>h);refine AK ?_;try simp only [SSd,Nat.reduceAdd]
  cases d with
  |true=>
   simp only [Bool.not_true,Bool.false_and,Bool.true_or] at hA;rw [if_neg (by simp)] at hA;simp only [Bool.not_true,SSd,Nat.reduceAdd];exact three XO v cells acc true hO hR (by omega) hA
  |false=>
   simp only [Bool.not_false,SSd,Nat.reduceAdd];refine AV ?_;simp only [hix,SSd,Nat.reduceAdd];refine Aq (hcv 0 _ rfl) (Ext.refl _) ?_;refine BS g0 (Ext.refl _) ?_;refine BS hB (Ext.refl _) ?_;simp only [sGt,AGu,SSd,Nat.reduceAdd];refine AD (fun e2=>?_) (fun e2=>?_)
   ·rw [e2] at hA;simp only [Bool.not_false,Bool.and_self,Bool.or_true,if_true] at hA;unfold Oy;refine rdB rfl ?_;try simp only [SSd,Nat.reduceAdd]
    refine rdb ?_;try simp only [SSd,Nat.reduceAdd]
    refine rdb ?_;try simp only [SSd,Nat.reduceAdd]
    refine Ck (R:=TVersionV) (X6:=XO) (x:=nv) rfl (by omega) hO hR (hrec (Ext.refl _)) rfl (AE rfl) (by omega) (by omega) (fun X1 X6 v6 cells6 h6 hR6=>?_);refine Gh.to (rrL b bat b3 vV vI o0 (.slice va own.fValue.length vc) own a fl Z (X6++F)) (Gh.done (three X6 v6 cells6 _ true h6 hR6 (by simp;omega) ?_));rw [List.append_assoc];exact hA
   ·rw [e2] at hA;simp only [Bool.not_false,Bool.and_false,Bool.or_false] at hA;rw [if_neg (by simp)] at hA;exact three XO v cells acc false hO hR (by omega) hA
 ·have hi:i=V.length:=by simp at e;omega
  subst hi;rw [List.drop_length,insL] at hA;unfold Ox;try simp only [SSd,Nat.reduceAdd]
  cases d with
  |true=>
   simp only [Bool.not_true,SSd,Nat.reduceAdd];exact end8 XO v cells acc hO hR (by simpa using hA)
  |false=>
   simp only [Bool.not_false,SSd,Nat.reduceAdd];refine rdB rfl ?_;try simp only [SSd,Nat.reduceAdd]
   refine rdb ?_;try simp only [SSd,Nat.reduceAdd]
   refine rdb ?_;try simp only [SSd,Nat.reduceAdd]
   refine Ck (R:=TVersionV) (X6:=XO) (x:=nv) rfl (by omega) hO hR (hrec (Ext.refl _)) rfl (AE rfl) (by omega) (by omega) (fun X1 X6 v6 cells6 h6 hR6=>?_);exact Gh.to (rrL b bat b3 vV vI o0 (.slice va own.fValue.length vc) own a fl Z (X6++F)) (Gh.done (end8 X6 v6 cells6 _ h6 hR6 (by simpa using hA)))
theorem AAs {b bat b3:Nat}{vV vI a1 o0 o1 p10 p11:Value}{own:TIntent}{a fl:TStamp}{yes:Bool}{Z F:LH}{V:List TVersion}{Is:List TIntent}{k:List UInt8}(hV:RL TVersionV 5 I [] vV V)(hI:RL TIntentV 6 I [] vI Is)(hVl:V.length≤400000000)(hIl:Is.length≤400000000)(hB:Bytes I a1 k)(h1:Bytes I o1 own.fValue)
  (hk:∀I' vV' vI',Ext I I'→RL TVersionV 5 I' [] vV' (if yes=true then insL ⟨k,a,own.fDel,own.fValue⟩ false V else V)→RL TIntentV 6 I' [] vI' (Is.filter fun x=>x.fKey != k)→K (.tuple #[.bool true,.int .i64 0]) I' ((b,BC vV' vI' fl)::F)):
  (Aj ((.slice none 0 0,.int .i64 0,()):Value×Value×Unit) fun s Kn0=>EQ ω (pt b) a1 (.bool yes) (pt bat) p10 p11 (pt b3) s.1 s.2.1 Kn0 (fun v=>Gh (K v))) I (rrL b bat b3 vV vI o0 o1 own a fl Z F):=by
 refine loop (fun n s I' L'=>I'=I∧∃(i:Nat) (XO:LH) (v:Value) (cells:List Value),n+i=Is.length∧s=(v,.int .i64 i,())∧L'=rrL b bat b3 vV vI o0 o1 own a fl Z (XO++F)∧SlO 190 6 XO v cells ((Is.take i).filter fun x=>x.fKey != k).length∧Recs (TIntentV I) 6 ((Is.take i).filter fun x=>x.fKey != k) cells) Is.length ⟨rfl,0,[],_,[],rfl,rfl,rfl,SlO.none _ _,rfl⟩ ?_;rintro n s I' L' ⟨rfl,i,XO,v,cells,hni,rfl,rfl,hO,hR⟩;unfold EQ;try simp only [SSd,Nat.reduceAdd]
 refine rdb ?_;simp only [RL.len hI,SSd,Nat.reduceAdd];refine AD (fun e=>?_) (fun e=>?_)
 ·have hi:i < Is.length:=by simpa using e
  obtain ⟨q,off,c,hix,hcl,hc,hcc⟩:=RL.ix hI (i:=(i:Int)) (by omega) (by omega);rw [Ab hi] at hc;have hfl:((Is.take i).filter fun x=>x.fKey != k).length≤i:=by
   have:=List.length_filter_le (fun x:TIntent=>x.fKey != k) (Is.take i);rw [List.length_take] at this;omega
  have hsucc:(Is.take (i+1)).filter (fun x=>x.fKey != k)=(Is.take i).filter (fun x=>x.fKey != k)++(if (Is[i].fKey != k)=true then [Is[i]] else []):=by
   rw [take_snoc hi,List.filter_append,List.filter_cons];rfl
  generalize Is[i]=y at *;obtain ⟨w0,w1,rfl,g0,g1⟩:=hc;have hcv:=hcc I' [] (Ext.refl _) (fun _ h=>h);refine AK ?_;try simp only [SSd,Nat.reduceAdd]
  refine AV ?_;simp only [hix,SSd,Nat.reduceAdd];refine Aq (hcv 0 _ rfl) (Ext.refl _) ?_;refine BS g0 (Ext.refl _) ?_;refine BS hB (Ext.refl _) ?_;simp only [sNe,SSd,Nat.reduceAdd];refine AD (fun e2=>?_) (fun e2=>?_)
  ·rw [if_pos (by simpa using e2)] at hsucc;unfold Fb;try simp only [SSd,Nat.reduceAdd]
   refine rdb ?_;simp only [hix,SSd,Nat.reduceAdd];refine FO hcv (Ext.refl _) rfl ?_;refine DY (R:=TIntentV) (X6:=XO) (x:=y) rfl (by omega) hO hR ⟨w0,w1,rfl,g0,g1⟩ rfl (by
    obtain ⟨_,_,rfl⟩:=Bytes.form g0;obtain ⟨_,_,rfl⟩:=Bytes.form g1;exact AE rfl) (by omega) (by omega) (fun X1 X6 v6 cells6 h6 hR6=>?_)
   unfold EP;try simp only [SSd,Nat.reduceAdd]
   rw [wrap_i64 _ (by omega)];rw [←hsucc] at h6 hR6;exact Gh.to (rrL b bat b3 vV vI o0 o1 own a fl Z (X6++F)) (Gh.done ⟨n - 1,by omega,rfl,i+1,X6,v6,cells6,by omega,rfl,rfl,h6,hR6⟩)
  ·rw [if_neg (by simpa using e2),List.append_nil] at hsucc;unfold EP;try simp only [SSd,Nat.reduceAdd]
   rw [wrap_i64 _ (by omega)];rw [←hsucc] at hO hR;exact Gh.done ⟨n - 1,by omega,rfl,i+1,XO,v,cells,by omega,rfl,rfl,hO,hR⟩
 ·have hi:i=Is.length:=by simp at e;omega
  subst hi;rw [List.take_length] at hO hR;obtain ⟨oa,oc,rfl⟩:=hO.form;unfold Fa;try simp only [SSd,Nat.reduceAdd]
  refine WB rfl ?_;refine Gh.perm (L':=XO++rrL b bat b3 vV (.slice oa (Is.filter fun x=>x.fKey != k).length oc) o0 o1 own a fl Z F) (AQ (by ((try simp only [AN,AP,Aa,AR]);(try ac_rfl)))) (SlO.freeze hO (fun I3 hI3 hSl=>Gh.done ?_));have hIn:RL TIntentV 6 I3 [] (.slice oa (Is.filter fun x=>x.fKey != k).length oc) (Is.filter fun x=>x.fKey != k):=RL.ofI hSl (hR.imp fun x c h=>h.mono hI3);have hV3:RL TVersionV 5 I3 [] vV V:=hV.mono (fun x c h=>h.mono hI3) hI3 (fun _ h=>h);cases yes with
  |false=>
   simp only [Bool.not_false,SSd,Nat.reduceAdd];exact Gh.to ((b,BC vV (.slice oa (Is.filter fun x=>x.fKey != k).length oc) fl)::F) (Gh.done (hk I3 vV _ hI3 hV3 hIn))
  |true=>
   simp only [Bool.not_true,SSd,Nat.reduceAdd];exact AAr hV3 hVl (hB.mono hI3) (h1.mono hI3) (fun I4 vV' hI4 h4=>hk I4 vV' _ (hI3.trans hI4) h4 (hIn.mono (fun x c h=>h.mono hI4) hI4 (fun _ h=>h)))
theorem AKt:@Ow=@EQ:=rfl
theorem AKs:@Ov=@EQ:=rfl
theorem MD {b:Nat}{vV vI a1:Value}{k:List UInt8}{txn:Int}{yes:Bool}{a:TStamp}{F:LH}{sp:Sp}(h1:RL TVersionV 5 I [] vV (Ad sp.rows))(h2:RL TIntentV 6 I [] vI (intsOf sp.rows))(hok:SpOk sp)(hlen:sp.rows.length≤100000000)(hn:Ah sp.rows≤100000000)(hB:Bytes I a1 k)
  (hk:∀I' vV' vI',Ext I I'→RL TVersionV 5 I' [] vV' (Ad (Dl sp k txn yes a).rows)→RL TIntentV 6 I' [] vI' (intsOf (Dl sp k txn yes a).rows)→K (.tuple #[.bool (DU sp k txn yes a).1,.int .i64 (DU sp k txn yes a).2]) I' ((b,BC vV' vI' sp.floor)::F)):
  CT ω 176 #[pt b,a1,.int .i64 txn,.bool yes,sv a] K I ((b,BC vV vI sp.floor)::F):=by
 have hs:=hok.rise;have hVl:(Ad sp.rows).length≤100000000:=by rw [Cp];exact hn
 have hIl:(intsOf sp.rows).length≤100000000:=by
  have:=List.length_filter_le (fun r:Row=>r.it.txn != 0) sp.rows;simp [intsOf];omega
 have hR:∀{L':LH},(b,BC vV vI sp.floor)∈L'→RefF I L' b vV vI (Ad sp.rows) (intsOf sp.rows) sp.floor:=fun hm=>ABA hm h1 h2;have same:∀x,DU sp k txn yes a=(false,x)→K (.tuple #[.bool false,.int .i64 x]) I ((b,BC vV vI sp.floor)::F):=by
  intro x e;have e2:Dl sp k txn yes a=sp:=by unfold Dl;rw [e];rfl
  rw [e2] at hk;have hk':=hk I vV vI (Ext.refl _) h1 h2;rw [e] at hk';exact hk'
 by_cases hbad:An k=false∨Bj txn=false∨(yes=true∧AU a=false)
 ·have hk':=same 1 (by unfold DU;rw [if_pos hbad]);refine ACF ?_;unfold Sz;refine AM (fun bat=>?_);refine call (Dz hB ?_);refine call (Dy ?_);refine rdB rfl ?_;refine call (Bl (x:=a) ?_);try simp only [SSd,Nat.reduceAdd]
  refine AH (fun e=>?_) (fun e=>Gh.to ((b,BC vV vI sp.floor)::F) (Gh.done hk'));try simp only [SSd,Nat.reduceAdd]
  refine AH (fun e2=>?_) (fun e2=>Gh.to ((b,BC vV vI sp.floor)::F) (Gh.done hk'));have hy:yes=true∧AU a=false:=by
   rcases hbad with h|h|h
   ·rw [h] at e;simp at e
   ·rw [h] at e2;simp at e2
   ·exact h
  simp only [hy.1,hy.2,Bool.not_false,SSd,Nat.reduceAdd];exact Gh.to ((b,BC vV vI sp.floor)::F) (Gh.done hk')
 have hA:DU sp k txn yes a=if (Bm sp.rows k).txn≠txn then (false,0) else if yes=true∧(bhd (Bm sp.rows k).ver.fAt a=true∨FH a (Dh sp.rows k).getLast? =true) then (false,1) else (true,0):=by unfold DU;rw [if_neg hbad]
 simp only [not_or,Bool.not_eq_false,not_and] at hbad;obtain ⟨k1,k2,k3⟩:=hbad;have kt:=FY k2;have work:∀(bat:Nat),(CT ω 166 #[pt b,a1]<|gh fun v9=>Pv (exV v9 0) fun v10=>Pv (exV v9 1) fun v11=>New (.cells #[.slice none 0 0,.int .i64 0,.int .i64 0,.int .i64 0,.bool false,.slice none 0 0] 190 (0,0))<|gh fun x12=>Sto 6 x12 v10<|gh fun _=>Pv (unV .not v11) fun v13=>Gd v13 false
   (Pv (AA 1 x12) fun v14=>Rv none (AB v14) fun v15=>Pv (AC .neq v15 (.int .i64 txn)) fun v16=>Br v16 (Gh (K (.tuple #[.bool false,.int .i64 0])))
    (Pv (AA 2 x12) fun v17=>Rv none (AF 2 v17) fun v18=>Rv none (AF 2 (pt bat)) fun v19=>CT ω 109 #[v18,v19]<|gh fun v20=>CT ω 227 #[pt b,a1]<|gh fun v21=>Pv (exV v21 0) fun v22=>Pv (exV v21 1) fun v23=>New (.cells #[.slice none 0 0,.int .i64 0,.int .i64 0,.bool false,.slice none 0 0] 188 (0,0))<|gh fun v24=>Sto 5 v24 v22<|gh fun _=>
     Rv none (AF 2 (pt bat)) fun v25=>Pv (AA 1 v24) fun v26=>Rv none (AF 2 v26) fun v27=>CT ω 109 #[v25,v27]<|gh fun v28=>Gd (.bool yes) true
      (Gd v20 false (Gd v23 true (Pv (unV .not v28) fun v29=>Br v29 (Gh (K (.tuple #[.bool false,.int .i64 1]))) (Aj ((.slice none 0 0,.int .i64 0,()):Value×Value×Unit) fun s Kn0=>EQ ω (pt b) a1 (.bool yes) (pt bat) (.bool false) (.int .i64 0) x12 s.1 s.2.1 Kn0 (fun v=>Gh (K v))))
       (Aj ((.slice none 0 0,.int .i64 0,()):Value×Value×Unit) fun s Kn0=>EQ ω (pt b) a1 (.bool yes) (pt bat) (.bool false) (.int .i64 0) x12 s.1 s.2.1 Kn0 (fun v=>Gh (K v))))
       (Gh (K (.tuple #[.bool false,.int .i64 1]))))
      (Aj ((.slice none 0 0,.int .i64 0,()):Value×Value×Unit) fun s Kn0=>EQ ω (pt b) a1 (.bool yes) (pt bat) (.bool false) (.int .i64 0) x12 s.1 s.2.1 Kn0 (fun v=>Gh (K v)))))
   (Gh (K (.tuple #[.bool false,.int .i64 0])))) I ((bat,stO a)::(b,BC vV vI sp.floor)::F):=by
  intro bat;refine call (Ff (L0:=(b,BC vV vI sp.floor)::F) (hR (List.mem_cons_self ..)) hB (by omega) (fun o0 o1 ho0 ho1=>?_));rw [Ik hs k] at ho0 ho1 ⊢;obtain ⟨oa,oc,rfl⟩:=Bytes.form ho0;obtain ⟨pa,pc,rfl⟩:=Bytes.form ho1;try simp only [SSd,Nat.reduceAdd]
  refine AM (fun b3=>?_);refine stB rfl rfl (AE rfl) ?_;have gone:∀{x:Int} {L':LH} [SubP ((b,BC vV vI sp.floor)::F) L'],DU sp k txn yes a=(false,x)→Gh (K (.tuple #[.bool false,.int .i64 x])) I L':=fun h=>Gh.to ((b,BC vV vI sp.floor)::F) (Gh.done (same _ h));cases ho:Dd sp.rows k with
  |none=>
   have h0:(Bm sp.rows k).txn=0:=by
    unfold Dd at ho;unfold Bm;cases hr:rowOf sp.rows k with
    |none=>rfl
    |some r=>
     rw [hr] at ho;simp only at ho ⊢
     by_cases h0:r.it.txn=0
     ·exact h0
     ·rw [if_neg h0] at ho;cases ho
   rw [if_pos (by rw [h0];exact fun h=>kt h.symm)] at hA;simp only [Option.isSome_none,Bool.not_false,SSd,Nat.reduceAdd];exact gone hA
  |some own=>
   have hr:∃r,rowOf sp.rows k=some r∧own=itF r∧r.it.txn≠0:=by
    unfold Dd at ho;cases hr:rowOf sp.rows k with
    |none=>rw [hr] at ho;cases ho
    |some r=>
     rw [hr] at ho;simp only at ho
     by_cases h0:r.it.txn=0
     ·rw [if_pos h0] at ho;cases ho
     ·rw [if_neg h0] at ho;exact ⟨r,rfl,(Option.some.inj ho).symm,h0⟩
   obtain ⟨r,hr,rfl,h0⟩:=hr;have eit:Bm sp.rows k=r.it:=by unfold Bm;rw [hr]
   have evs:Dh sp.rows k=r.vs:=by unfold Dh;rw [hr]
   rw [eit,evs] at hA;rw [ho] at ho1;simp only [Option.isSome_some,Option.getD_some,Bool.not_true,SSd,Nat.reduceAdd];refine rdb ?_;try simp only [SSd,Nat.reduceAdd]
   refine AD (fun e=>?_) (fun e=>?_)
   ·have e':r.it.txn≠txn:=by simpa [itF] using e
    rw [if_pos e'] at hA;exact gone hA
   have e':¬r.it.txn≠txn:=by simpa [itF] using e
   rw [if_neg e'] at hA;try simp only [SSd,Nat.reduceAdd]
   refine rdP [.int .i64 r.it.ver.fAt.fWall,.int .i64 r.it.ver.fAt.fLogic] rfl rfl ?_;refine rdB rfl ?_;refine call (Ai (x:=r.it.ver.fAt) (y:=a) ?_);refine call (Kk (L0:=(b,BC vV vI sp.floor)::F) (hR (List.mem_cons_self ..)) hB (by omega) (fun u0 u1 hu0 hu1=>?_));rw [GV hs k KR,Po hok k,evs] at hu0 hu1 ⊢;obtain ⟨ua,uc,rfl⟩:=Bytes.form hu0;obtain ⟨wa,wc,rfl⟩:=Bytes.form hu1;try simp only [SSd,Nat.reduceAdd]
   refine AM (fun b4=>?_);refine stB rfl rfl (AE rfl) ?_;refine rdB rfl ?_;try simp only [SSd,Nat.reduceAdd]
   have fin:DU sp k txn yes a=(true,0)→∀Z:LH,(Aj ((.slice none 0 0,.int .i64 0,()):Value×Value×Unit) fun s Kn0=>EQ ω (pt b) a1 (.bool yes) (pt bat) (.bool false) (.int .i64 0) (.pointer (some ⟨b3,0,none⟩)) s.1 s.2.1 Kn0 (fun v=>Gh (K v))) I (rrL b bat b3 vV vI (.slice oa ((Dd sp.rows k).getD Pc).fKey.length oc) (.slice pa (itF r).fValue.length pc) (itF r) a sp.floor Z F):=by
    intro hA' Z;have hsp:Dl sp k txn yes a=⟨Bq (Ly k (HK yes a) sp.rows),sp.floor⟩:=by unfold Dl;rw [hA'];rfl
    rw [hA',hsp] at hk;obtain ⟨A,B,e0,hkr,hm⟩:=Iz hs hr;refine AAs h1 h2 (by omega) (by omega) hB ho1 (fun I' vV' vI' hI' g1 g2=>hk I' vV' vI' hI' ?_ ?_)
    ·simp only [e0] at g1 ⊢;cases yes with
     |true=>rw [AAw hm hkr];exact g1
     |false=>rw [Uz hm hkr];exact g1
    ·simp only [e0] at g2 ⊢;rw [AAx hm hkr];exact g2
   rw [ho] at fin;cases hl:r.vs.getLast? with
   |none=>
    simp only [Option.map_none,Option.getD_none,Option.isSome_none];refine rdP [.int .i64 0,.int .i64 0] rfl rfl ?_;refine call (Ai (x:=a) (y:=⟨0,0⟩) ?_);rw [hl] at hA;cases hy:yes with
    |false=>
     rw [hy] at fin hA;try simp only [SSd,Nat.reduceAdd]
     exact fin (by rw [hA];rfl) [_]
    |true=>
     rw [hy] at fin hA;try simp only [SSd,Nat.reduceAdd]
     cases hb:bhd r.it.ver.fAt a with
     |true=>
      rw [if_pos ⟨rfl,.inl hb⟩] at hA;try simp only [SSd,Nat.reduceAdd]
      rw [←hy] at hA;exact gone hA
     |false=>
      try simp only [SSd,Nat.reduceAdd]
      exact fin (by rw [hA,hb];rfl) [_]
   |some v=>
    simp only [Option.map_some,Option.getD_some,Option.isSome_some,FJ];refine rdP [.int .i64 v.fAt.fWall,.int .i64 v.fAt.fLogic] rfl rfl ?_;refine call (Ai (x:=a) (y:=v.fAt) ?_);rw [hl] at hA;cases hy:yes with
    |false=>
     rw [hy] at fin hA;try simp only [SSd,Nat.reduceAdd]
     exact fin (by rw [hA];rfl) [_]
    |true=>
     rw [hy] at fin hA;try simp only [SSd,Nat.reduceAdd]
     cases hb:bhd r.it.ver.fAt a with
     |true=>
      rw [if_pos ⟨rfl,.inl hb⟩] at hA;try simp only [SSd,Nat.reduceAdd]
      rw [←hy] at hA;exact gone hA
     |false=>
      try simp only [SSd,Nat.reduceAdd]
      cases hb2:bhd a v.fAt with
      |true=>
       simp only [Bool.not_true,SSd,Nat.reduceAdd];exact fin (by rw [hA,hb];simp [FH,hb2]) [_]
      |false=>
       rw [if_pos ⟨rfl,.inr (by simp [FH,hb2])⟩] at hA;simp only [Bool.not_false,SSd,Nat.reduceAdd];rw [←hy] at hA;exact gone hA
 refine ACF ?_;unfold Sz;refine AM (fun bat=>?_);refine call (Dz hB ?_);refine call (Dy ?_);refine rdB rfl ?_;refine call (Bl (x:=a) ?_);have w:=work bat;cases yes with
 |true=>
  simp only [k1,k2,k3 rfl,Bool.not_true,SSd,Nat.reduceAdd] at w ⊢;rw [AKt];exact w
 |false=>
  simp only [k1,k2,Bool.not_true,SSd,Nat.reduceAdd] at w ⊢;rw [AKs];exact w
theorem PT {b bb b3 i:Nat}{vV vI v w0 w1:Value}{fl below:TStamp}{XO F:LH}{V:List TVersion}{cells:List Value}{Kn0:(Value×Value×Unit)→M}(hV:RL TVersionV 5 I [] vV V)(hi:i < V.length)(hVl:V.length≤400000000)
  (hO:SlO 188 5 XO v cells ((V.take i).filter (Cl V fl)).length) (hR:Recs (TVersionV I) 5 ((V.take i).filter (Cl V fl)) cells)
  (hk:∀XO' v' cells',SlO 188 5 XO' v' cells' ((V.take (i+1)).filter (Cl V fl)).length→Recs (TVersionV I) 5 ((V.take (i+1)).filter (Cl V fl)) cells'→Gh (Kn0 (v',.int .i64 ((i:Int)+1),())) I ((bb,stO below)::(b,BC vV vI fl)::(XO'++F))):
  Jy ω (pt b) v (.int .i64 i) (pt b3) (.bool (At V V[i].fKey fl).isSome) (fun s=>Gh (Kn0 s)) (fun v=>Gh (K v)) I ((b3,.cells (veV w0 w1 ((At V V[i].fKey fl).getD CQ)).toArray 188 (0,0))::(bb,stO below)::(b,BC vV vI fl)::(XO++F)):=by
 obtain ⟨q,off,c,hix,hcl,hc,hcc⟩:=RL.ix hV (i:=(i:Int)) (by omega) (by omega);rw [Ab hi] at hc;have hfl:((V.take i).filter (Cl V fl)).length≤i:=by
  have:=List.length_filter_le (Cl V fl) (V.take i);rw [List.length_take] at this;omega
 have hsucc:(V.take (i+1)).filter (Cl V fl)=(V.take i).filter (Cl V fl)++(if Cl V fl V[i]=true then [V[i]] else []):=by
  rw [take_snoc hi,List.filter_append,List.filter_cons];rfl
 have hkp:Cl V fl V[i]=match At V V[i].fKey fl with
  |none=>true
  |some k=> !(bhd k.fAt V[i].fAt||(k.fAt.fWall==V[i].fAt.fWall&&k.fAt.fLogic==V[i].fAt.fLogic)&&k.fDel):=rfl
 generalize V[i]=y at *;obtain ⟨u0,u1,rfl,g0,g1⟩:=hc;have hcv:=hcc I [] (Ext.refl _) (fun _ h=>h);have hst:Cells I [] q (off+1) [.int .i64 y.fAt.fWall,.int .i64 y.fAt.fLogic]:=by simpa using hcv.sub (k:=1) (m:=2)
 have skip:∀(h:Cl V fl y=false),ER ω v (.int .i64 i) (fun s=>Gh (Kn0 s)) (fun v=>Gh (K v)) I ((b3,.cells (veV w0 w1 ((At V y.fKey fl).getD CQ)).toArray 188 (0,0))::(bb,stO below)::(b,BC vV vI fl)::(XO++F)):=by
  intro h;rw [if_neg (by rw [h];simp),List.append_nil] at hsucc;rw [hsucc] at hk;unfold ER;try simp only [SSd,Nat.reduceAdd]
  rw [wrap_i64 _ (by omega)];exact Gh.to ((bb,stO below)::(b,BC vV vI fl)::(XO++F)) (hk XO v cells hO hR)
 have take:∀(h:Cl V fl y=true),(Pv (AJ (pt b)) fun v39=>Pv (AA 0 v39) fun v40=>Rv none (AB v40) fun v41=>Pv (ixV 5 v41 (.int .i64 i)) fun v42=>Rv none (AF 5 v42) fun v43=>Ay 188 5 #[.slice none 0 0,.int .i64 0,.int .i64 0,.bool false,.slice none 0 0] 1 [(0,v43)]<|gh fun v44=>
   App 188 5 72 #[.slice none 0 0,.int .i64 0,.int .i64 0,.bool false,.slice none 0 0] v v44<|gh fun v45=>ER ω v45 (.int .i64 i) (fun s=>Gh (Kn0 s)) (fun v=>Gh (K v))) I ((b3,.cells (veV w0 w1 ((At V y.fKey fl).getD CQ)).toArray 188 (0,0))::(bb,stO below)::(b,BC vV vI fl)::(XO++F)):=by
  intro h;rw [if_pos h] at hsucc;rw [hsucc] at hk;try simp only [SSd,Nat.reduceAdd]
  refine rdb ?_;simp only [hix,SSd,Nat.reduceAdd];refine FO hcv (Ext.refl _) rfl ?_;refine DY (R:=TVersionV) (X6:=XO) (x:=y) rfl (by omega) hO hR ⟨u0,u1,rfl,g0,g1⟩ rfl (by
   obtain ⟨_,_,rfl⟩:=Bytes.form g0;obtain ⟨_,_,rfl⟩:=Bytes.form g1;exact AE rfl) (by omega) (by omega) (fun X1 X6 v6 cells6 h6 hR6=>?_)
  unfold ER;try simp only [SSd,Nat.reduceAdd]
  rw [wrap_i64 _ (by omega)];exact Gh.to ((bb,stO below)::(b,BC vV vI fl)::(X6++F)) (hk X6 v6 cells6 h6 hR6)
 unfold Jy;generalize hlv:At V y.fKey fl=lv at *;refine AK ?_;try simp only [SSd,Nat.reduceAdd]
 refine Af [.int .i64 (lv.getD CQ).fAt.fWall,.int .i64 (lv.getD CQ).fAt.fLogic] rfl rfl ?_;try simp only [SSd,Nat.reduceAdd]
 refine AV ?_;simp only [hix,SSd,Nat.reduceAdd];refine BX hst (Ext.refl _) rfl ?_;refine call (Ai (x:=(lv.getD CQ).fAt) (y:=y.fAt) ?_);refine AK ?_;try simp only [SSd,Nat.reduceAdd]
 refine Af [.int .i64 (lv.getD CQ).fAt.fWall,.int .i64 (lv.getD CQ).fAt.fLogic] rfl rfl ?_;try simp only [SSd,Nat.reduceAdd]
 refine AV ?_;simp only [hix,SSd,Nat.reduceAdd];refine BX hst (Ext.refl _) rfl ?_;try simp only [SSd,Nat.reduceAdd]
 cases lv with
 |none=>
  have t:=take hkp;simp only [Option.isSome_none,SSd,Nat.reduceAdd] at t ⊢;exact t
 |some kk=>
  simp only at hkp
  simp only [Option.isSome_some,Option.getD_some,SSd,Nat.reduceAdd] at skip take ⊢;refine AH (fun c1=>?_) (fun c1=>skip (by rw [hkp];have:bhd kk.fAt y.fAt=true:=(by simpa using c1);rw [this];rfl));refine AH (fun c2=>?_) (fun c2=>take (by rw [hkp,c1,Bool.eq_false_iff.2 c2];rfl));refine rdb ?_;refine AD (fun c3=>skip (by rw [hkp,c1,c2,c3];rfl)) (fun c3=>take (by rw [hkp,c1,c2,c3];rfl))
theorem ABE {b bb:Nat}{vV vI:Value}{fl below:TStamp}{F:LH}{V:List TVersion}{Is:List TIntent}(hV:RL TVersionV 5 I [] vV V)(hI:RL TIntentV 6 I [] vI Is)(hVl:V.length≤400000000)
  (hk:∀I' vV',Ext I I'→RL TVersionV 5 I' [] vV' (V.filter (Cl V fl))→K (.tuple #[.int .i64 ((V.length:Int) - (V.filter (Cl V fl)).length),.int .i64 0]) I' ((b,BC vV' vI fl)::F)):
  Ho ω (pt b) (.int .i64 0) (.int .i64 0) (fun v=>Gh (K v)) I ((bb,stO below)::(b,BC vV vI fl)::F):=by
 unfold Ho;refine loop (fun n s I' L'=>I'=I∧∃(i:Nat) (XO:LH) (v:Value) (cells:List Value),n+i=V.length∧s=(v,.int .i64 i,())∧L'=(bb,stO below)::(b,BC vV vI fl)::(XO++F)∧SlO 188 5 XO v cells ((V.take i).filter (Cl V fl)).length∧Recs (TVersionV I) 5 ((V.take i).filter (Cl V fl)) cells) V.length ⟨rfl,0,[],_,[],rfl,rfl,rfl,SlO.none _ _,rfl⟩ ?_;rintro n s I' L' ⟨rfl,i,XO,v,cells,hni,rfl,rfl,hO,hR⟩;unfold TZ;try simp only [SSd,Nat.reduceAdd]
 refine rdb ?_;simp only [RL.len hV,SSd,Nat.reduceAdd];refine AD (fun e=>?_) (fun e=>?_)
 ·have hi:i < V.length:=by simpa using e
  obtain ⟨q,off,c,hix,hcl,hc,hcc⟩:=RL.ix hV (i:=(i:Int)) (by omega) (by omega);rw [Ab hi] at hc;obtain ⟨u0,u1,rfl,g0,g1⟩:=hc;have hcv:=hcc I' [] (Ext.refl _) (fun _ h=>h);refine AK ?_;try simp only [SSd,Nat.reduceAdd]
  refine AV ?_;simp only [hix,SSd,Nat.reduceAdd];refine Aq (hcv 0 _ rfl) (Ext.refl _) ?_;try simp only [SSd,Nat.reduceAdd]
  refine Af [.int .i64 fl.fWall,.int .i64 fl.fLogic] rfl rfl ?_;refine And.intro ?_ ?_
  ·refine call (Dv (L0:=(b,BC vV vI fl)::F) (m:=fl) (ABA (List.mem_cons_self ..) hV hI) g0 (by omega) (fun w0 w1 hw0 hw1=>?_));obtain ⟨wa,wc,rfl⟩:=Bytes.form hw0;obtain ⟨xa,xc,rfl⟩:=Bytes.form hw1;try simp only [SSd,Nat.reduceAdd]
   refine AM (fun b3=>Bv (Ext.refl _) ?_);refine stB rfl rfl (AE rfl) ?_;exact PT hV hi hVl hO hR (fun XO' v' cells' h1 h2=>Gh.done ⟨n - 1,by omega,rfl,i+1,XO',v',cells',by omega,rfl,rfl,h1,h2⟩)
  ·refine AM (fun b3=>Bv (Ext.refl _) ?_);refine call (Dv (L0:=(b,BC vV vI fl)::F) (m:=fl) (ABA (List.mem_cons_self ..) hV hI) g0 (by omega) (fun w0 w1 hw0 hw1=>?_));obtain ⟨wa,wc,rfl⟩:=Bytes.form hw0;obtain ⟨xa,xc,rfl⟩:=Bytes.form hw1;try simp only [SSd,Nat.reduceAdd]
   refine stB rfl rfl (AE rfl) ?_;exact PT hV hi hVl hO hR (fun XO' v' cells' h1 h2=>Gh.done ⟨n - 1,by omega,rfl,i+1,XO',v',cells',by omega,rfl,rfl,h1,h2⟩)
 ·have hi:i=V.length:=by simp at e;omega
  subst hi;rw [List.take_length] at hO hR;have hfl:=List.length_filter_le (Cl V fl) V;obtain ⟨oa,oc,rfl⟩:=hO.form;unfold TY;try simp only [SSd,Nat.reduceAdd]
  refine rdb ?_;simp only [RL.len hV,SSd,Nat.reduceAdd];rw [wrap_i64 _ (by omega)];refine st1 rfl ?_;refine Gh.to (XO++((b,BC (.slice oa (V.filter (Cl V fl)).length oc) vI fl)::F)) (SlO.freeze hO (fun I3 hI3 hSl=>Gh.done ?_));exact hk I3 _ hI3 (RL.ofI hSl (hR.imp fun x c h=>h.mono hI3))
theorem MH {b:Nat}{vV vI:Value}{below:TStamp}{F:LH}{sp:Sp}(h1:RL TVersionV 5 I [] vV (Ad sp.rows))(h2:RL TIntentV 6 I [] vI (intsOf sp.rows))(hok:SpOk sp)(hn:Ah sp.rows≤100000000)
  (hk:∀I' vV',Ext I I'→RL TVersionV 5 I' [] vV' (Ad (colS sp below).rows)→RL TIntentV 6 I' [] vI (intsOf (colS sp below).rows)→K (.tuple #[.int .i64 (Gy sp below).1,.int .i64 (Gy sp below).2]) I' ((b,BC vV' vI (colS sp below).floor)::F)):
  CT ω 119 #[pt b,sv below] K I ((b,BC vV vI sp.floor)::F):=by
 have hVl:(Ad sp.rows).length≤100000000:=by rw [Cp];exact hn
 refine AIi ?_;unfold ZV;refine AM (fun bb=>?_);refine rdB rfl ?_;refine call (Bl (x:=below) ?_);by_cases hr:AU below=false
 ·have e1:colS sp below=sp:=by unfold colS;rw [if_pos hr]
  have e3:Gy sp below=(0,1):=by unfold Gy;rw [if_pos hr]
  rw [e1,e3] at hk;simp only [hr,Bool.not_false,SSd,Nat.reduceAdd];exact Gh.to ((b,BC vV vI sp.floor)::F) (Gh.done (hk I vV (Ext.refl _) h1 h2))
 have e1:colS sp below=⟨Bq (sp.rows.map (CJ (Cn sp below))),Cn sp below⟩:=by unfold colS;rw [if_neg hr]
 have hcv:=ABp hok.rise (Cn sp below);have e3:Gy sp below=(((Ad sp.rows).length:Int) - ((Ad sp.rows).filter (Cl (Ad sp.rows) (Cn sp below))).length,0):=by
  unfold Gy;rw [if_neg hr,e1,←hcv,Cp,Cp]
 rw [e1,e3] at hk;simp only [hcv,ABq] at hk;have hr':AU below=true:=by simpa using hr
 simp only [hr',Bool.not_true,SSd,Nat.reduceAdd];refine AK ?_;refine Ae rfl ?_;try simp only [SSd,Nat.reduceAdd]
 refine Af [.int .i64 sp.floor.fWall,.int .i64 sp.floor.fLogic] rfl rfl ?_;refine call (Ai (x:=below) (y:=sp.floor) ?_);have fin:∀fl,fl=Cn sp below→Ho ω (pt b) (.int .i64 0) (.int .i64 0) (fun v=>Gh (K v)) I ((bb,stO below)::(b,BC vV vI fl)::F):=by
  intro fl hf;subst hf;exact ABE h1 h2 (by omega) (fun I' vV' hI' h'=>hk I' vV' hI' h' (h2.mono (fun x c h=>h.mono hI') hI' (fun _ h=>h)))
 refine AD (fun e=>?_) (fun e=>?_)
 ·refine rdB rfl ?_;try simp only [SSd,Nat.reduceAdd]
  refine stP _ rfl rfl rfl rfl ?_;exact fin below (by unfold Cn;rw [if_pos e])
 ·exact fin sp.floor (by unfold Cn;rw [if_neg (by rw [e];simp)])
end
def ON (k:List UInt8)(rows:List Row):List Row:=rows.filter fun r=>blt r.key k
def CN (k:List UInt8)(rows:List Row):List Row:=rows.filter fun r=> !blt r.key k
theorem LI {k:List UInt8}:∀{rows:List Row},SrtK (keysOf rows)→rows=ON k rows++CN k rows
 |[],_=>rfl
 |r::rs,h=>by
  obtain ⟨h1,h2⟩:=List.pairwise_cons.1 (show List.Pairwise _ (r.key::keysOf rs) from h);have ih:=LI (k:=k) h2;unfold ON CN at ih ⊢;have g1:(r::rs).filter (fun r=>blt r.key k)=if blt r.key k=true then r::rs.filter (fun r=>blt r.key k) else rs.filter (fun r=>blt r.key k):=List.filter_cons
  have g2:(r::rs).filter (fun r=> !blt r.key k)=if (!blt r.key k)=true then r::rs.filter (fun r=> !blt r.key k) else rs.filter (fun r=> !blt r.key k):=List.filter_cons
  rw [g1,g2];cases hb:blt r.key k with
  |true=>rw [if_pos rfl,if_neg (by simp),List.cons_append,←ih]
  |false=>
   have hall:∀x∈rs,blt x.key k=false:=fun x hx=>by
    cases hx2:blt x.key k with
    |false=>rfl
    |true=>rw [Ct (h1 _ (List.mem_map_of_mem hx)) hx2] at hb;cases hb
   rw [if_neg (by simp),if_pos (by simp),List.filter_eq_nil_iff.2 (fun x hx=>by simp [hall x hx]),List.filter_eq_self.2 (fun x hx=>by simp [hall x hx])];rfl
def Gu (k:List UInt8)(sp:Sp):Sp:=⟨ON k sp.rows,sp.floor⟩
def Fw (k:List UInt8)(sp:Sp):Sp:=⟨CN k sp.rows,sp.floor⟩
theorem ADX {k:List UInt8}{sp:Sp}(h:SpOk sp):SpOk (Gu k sp):=⟨h.rise.sub List.filter_sublist,fun r hr=>h.rows r (List.mem_filter.1 hr).1,h.floor⟩
theorem ADW {k:List UInt8}{sp:Sp}(h:SpOk sp):SpOk (Fw k sp):=⟨h.rise.sub List.filter_sublist,fun r hr=>h.rows r (List.mem_filter.1 hr).1,h.floor⟩
theorem Ub (A B:List Row):Ah (A++B)=Ah A+Ah B:=by simp [Ah]
def AJL (g:Bool)(v:TVer):Bool×List UInt8:=if g=true then (true,[]) else (false,CU v)
def Ue (g:Bool)(k:List UInt8)(l:List TVer)(nt:Nts):Nts:=l.foldl (fun nt v=>Di nt (Lx k v) (AJL g v)) nt
def Pb (g:Bool)(r:Row)(nt:Nts):Nts:=if r.it.txn=0 then Ue g r.key r.vs nt else Di (Ue g r.key r.vs nt) (105::r.key) (if g=true then (true,[]) else FE r.it)
def CE (g:Bool)(rs:List Row)(nt:Nts):Nts:=rs.foldl (fun nt r=>Pb g r nt) nt
def nt0:Nts:=fun _=>none
noncomputable instance (fl:TStamp):Decidable (fl=z0):=Classical.propDecidable _
noncomputable def DB (fl:TStamp):Nts:=if fl=z0 then nt0 else Di nt0 [102] (false,stF fl)
section
variable {ω:Om}{I:Imm}{L:LH}{K:Value→M}
def sp0:Sp:=⟨[],⟨0,0⟩⟩
theorem AGG:SpOk sp0:=⟨List.Pairwise.nil,(fun r hr=>by cases hr),by decide⟩
theorem Pe (hk:∀b X,SpR I b X sp0 nt0→K (pt b) I (X++L)):CT ω 32 #[] K I L:=by
 refine AKW ?_;unfold AGa;refine VJ (fun m=>Gh.done (VJ (fun ch=>Gh.done ?_)));try simp only [SSd,Nat.reduceAdd]
 refine AM (fun b=>?_);refine Gh.perm (L':=((b,spO m (.slice none 0 0) ⟨0,0⟩ ch)::(m,.map #[] 0)::([]++([]++[(ch,.map #[] 0)])))++L) (AQ (by ((try simp only [AN,AP,Aa,AR]);(try ac_rfl)))) (Gh.done (hk b _ ?_));exact ⟨[],m,ch,_,_,_,[],[],[(ch,.map #[] 0)],List.Perm.refl _,MapS.empty,SlO.none _ 1,rfl,⟨#[],0,fun _=>none,rfl,MapS.empty,fun k=>.inl ⟨rfl,rfl⟩⟩⟩
end
theorem Ua {k:List UInt8}{sp:Sp}(h:SpOk sp):(Gu k sp).rows.length≤sp.rows.length∧(Fw k sp).rows.length≤sp.rows.length∧Ah (Gu k sp).rows≤Ah sp.rows∧Ah (Fw k sp).rows≤Ah sp.rows:=by
 have e:=LI (k:=k) h.rise;have e1:sp.rows.length=(Gu k sp).rows.length+(Fw k sp).rows.length:=by
  conv=>lhs;rw [e]
  rw [List.length_append];rfl
 have e2:Ah sp.rows=Ah (Gu k sp).rows+Ah (Fw k sp).rows:=by
  conv=>lhs;rw [e]
  rw [Ub];rfl
 omega
def CB (p:TSpan):Bool:=decide (p.fFrom.length≤111)&&decide (p.fTo.length≤111)&&(p.fTo.length==0||blt p.fFrom p.fTo)
def BI (c:TCmd):Bool:=c.fKey.length==0&&c.fValue.length==0&& !c.fDel
def EM (c:TCmd):Bool:=c.fValue.length==0&& !c.fDel
def CF (c:TCmd):Bool:=c.fSpan.fFrom.length==0&&c.fSpan.fTo.length==0
def EW (c:TCmd):Bool:=c.fTo.fWall==0&&c.fTo.fLogic==0
def OK (c:TCmd):Bool:=c.fAt.fWall==0&&c.fAt.fLogic==0
def kindOk (c:TCmd):Bool:=
 if c.fKind=1 then Ak c.fTxn&&An c.fKey&&EM c&&CF c&&c.fBy==0&& !c.fYes&&EW c&&c.fMost==0&&c.fSeq==0 else
 if c.fKind=2 then Ak c.fTxn&&decide (1≤c.fMost∧c.fMost≤90)&&BI c&&c.fBy==0&& !c.fYes&&EW c&&c.fSeq==0 else
 if c.fKind=3 then Bj c.fTxn&&decide (0 < c.fSeq)&&An c.fKey&&decide (c.fValue.length≤10000)&&(!c.fDel||c.fValue.length==0)&&CF c&&c.fBy==0&& !c.fYes&&EW c&&c.fMost==0 else
 if c.fKind=4 then Bj c.fTxn&&decide (0 < c.fSeq)&&BI c&&c.fBy==0&& !c.fYes&&c.fMost==0 else
 if c.fKind=5 then Bj c.fTxn&&decide (0 < c.fSeq)&&BI c&&CF c&&c.fBy==0&& !c.fYes&&EW c&&c.fMost==0 else
 if c.fKind=6 then Bj c.fTxn&&BI c&&CF c&&c.fBy==0&&EW c&&c.fMost==0&&c.fSeq==0 else
 if c.fKind=7 then Bj c.fTxn&&Bj c.fBy&&BI c&&CF c&& !c.fYes&&EW c&&c.fMost==0&&c.fSeq==0 else
 if c.fKind=8 then Bj c.fTxn&&OK c&&BI c&&CF c&&c.fBy==0&& !c.fYes&&EW c&&c.fMost==0&&c.fSeq==0 else
 if c.fKind=9 then Bj c.fTxn&&BI c&&c.fBy==0&&EW c&&c.fMost==0&&c.fSeq==0 else
 if c.fKind=10 then c.fTxn==0&&BI c&&CF c&&c.fBy==0&& !c.fYes&&EW c&&c.fMost==0&&c.fSeq==0 else
 if c.fKind=11 then c.fTxn==0&&OK c&&An c.fKey&&EM c&&decide (1≤c.fBy∧c.fBy≤255)&&CF c&& !c.fYes&&EW c&&c.fMost==0&&c.fSeq==0 else false
def Ba (c:TCmd):Bool:=AU c.fAt&&AU c.fTo&&CB c.fSpan&&decide (0≤c.fSeq∧c.fSeq≤9007199254740991)&&kindOk c
def Jc (n:Int):Prop:=0≤n∧n≤9007199254740991
theorem Cg {n:Int}(h:Bj n=true):Jc n:=by simp [Bj] at h;exact ⟨by omega,by omega⟩
theorem JB {n:Int}(h:Ak n=true):Jc n:=by
 simp only [Ak,Bool.or_eq_true,beq_iff_eq] at h;rcases h with h|h
 ·rw [h];exact ⟨by omega,by omega⟩
 ·exact Cg h
structure CmdOk (c:TCmd):Prop where
 kind:1≤c.fKind∧c.fKind≤11
 txn:Jc c.fTxn
 seq:Jc c.fSeq
 by':Jc c.fBy
 most:0≤c.fMost∧c.fMost≤90
 at':AU c.fAt=true
 to:AU c.fTo=true
 key:c.fKey.length≤110
 value:c.fValue.length≤10000
 span:CB c.fSpan=true
theorem CX:Jc 0:=⟨by omega,by omega⟩
set_option maxHeartbeats 4000000 in
theorem IY {c:TCmd}(h:Ba c=true):CmdOk c:=by
 simp only [Ba,Bool.and_eq_true,decide_eq_true_eq] at h;obtain ⟨⟨⟨⟨h1,h2⟩,h3⟩,h4⟩,h5⟩:=h;have key:∀(q:Prop) [Decidable q] (a b:Bool),(if q then a else b)=true→(q∧a=true)∨b=true:=by
  intro q _ a b h;split at h
  ·exact .inl ⟨by assumption,h⟩
  ·exact .inr h
 have hk:(1≤c.fKind∧c.fKind≤11)∧Jc c.fTxn∧Jc c.fBy∧(0≤c.fMost∧c.fMost≤90)∧c.fKey.length≤110∧c.fValue.length≤10000:=by
  unfold kindOk at h5;rcases key _ _ _ h5 with ⟨e,h⟩|h5
  ·simp only [Bool.and_eq_true,EM,BI,An,beq_iff_eq,decide_eq_true_eq] at h;exact ⟨by omega,JB h.1.1.1.1.1.1.1.1,by rw [h.1.1.1.1.2];exact CX,by omega,by omega,by omega⟩
  rcases key _ _ _ h5 with ⟨e,h⟩|h5
  ·simp only [Bool.and_eq_true,EM,BI,An,beq_iff_eq,decide_eq_true_eq] at h;exact ⟨by omega,JB h.1.1.1.1.1.1,by rw [h.1.1.1.2];exact CX,by omega,by omega,by omega⟩
  rcases key _ _ _ h5 with ⟨e,h⟩|h5
  ·simp only [Bool.and_eq_true,EM,BI,An,beq_iff_eq,decide_eq_true_eq] at h;exact ⟨by omega,Cg h.1.1.1.1.1.1.1.1.1,by rw [h.1.1.1.2];exact CX,by omega,by omega,by omega⟩
  rcases key _ _ _ h5 with ⟨e,h⟩|h5
  ·simp only [Bool.and_eq_true,EM,BI,An,beq_iff_eq,decide_eq_true_eq] at h;exact ⟨by omega,Cg h.1.1.1.1.1,by rw [h.1.1.2];exact CX,by omega,by omega,by omega⟩
  rcases key _ _ _ h5 with ⟨e,h⟩|h5
  ·simp only [Bool.and_eq_true,EM,BI,An,beq_iff_eq,decide_eq_true_eq] at h;exact ⟨by omega,Cg h.1.1.1.1.1.1.1,by rw [h.1.1.1.2];exact CX,by omega,by omega,by omega⟩
  rcases key _ _ _ h5 with ⟨e,h⟩|h5
  ·simp only [Bool.and_eq_true,EM,BI,An,beq_iff_eq,decide_eq_true_eq] at h;exact ⟨by omega,Cg h.1.1.1.1.1.1,by rw [h.1.1.1.2];exact CX,by omega,by omega,by omega⟩
  rcases key _ _ _ h5 with ⟨e,h⟩|h5
  ·simp only [Bool.and_eq_true,EM,BI,An,beq_iff_eq,decide_eq_true_eq] at h;exact ⟨by omega,Cg h.1.1.1.1.1.1.1,Cg h.1.1.1.1.1.1.2,by omega,by omega,by omega⟩
  rcases key _ _ _ h5 with ⟨e,h⟩|h5
  ·simp only [Bool.and_eq_true,EM,BI,An,beq_iff_eq,decide_eq_true_eq] at h;exact ⟨by omega,Cg h.1.1.1.1.1.1.1.1,by rw [h.1.1.1.1.2];exact CX,by omega,by omega,by omega⟩
  rcases key _ _ _ h5 with ⟨e,h⟩|h5
  ·simp only [Bool.and_eq_true,EM,BI,An,beq_iff_eq,decide_eq_true_eq] at h;exact ⟨by omega,Cg h.1.1.1.1.1,by rw [h.1.1.1.2];exact CX,by omega,by omega,by omega⟩
  rcases key _ _ _ h5 with ⟨e,h⟩|h5
  ·simp only [Bool.and_eq_true,EM,BI,An,beq_iff_eq,decide_eq_true_eq] at h;exact ⟨by omega,by rw [h.1.1.1.1.1.1.1];exact CX,by rw [h.1.1.1.1.2];exact CX,by omega,by omega,by omega⟩
  rcases key _ _ _ h5 with ⟨e,h⟩|h5
  ·simp only [Bool.and_eq_true,EM,BI,An,beq_iff_eq,decide_eq_true_eq] at h;exact ⟨by omega,by rw [h.1.1.1.1.1.1.1.1.1];exact CX,⟨by omega,by omega⟩,by omega,by omega,by omega⟩
  ·cases h5
 exact ⟨hk.1,hk.2.1,⟨h4.1,h4.2⟩,hk.2.2.1,hk.2.2.2.1,h1,h2,hk.2.2.2.2.1,hk.2.2.2.2.2,h3⟩
end Go.Proofs.YtmmfcgbfbcamcaaGreatDoor
namespace Go.SL
abbrev Dt:=Int
def Cv (k:Dt):Value:=.int .i64 k
def Bf (e:MapEntry):Dt:=match e.key with
 | .int _ n=>n
 |_=>0
def CV (k:Dt):List MapEntry→Nat→Option (Nat×Value)
 |[],_=>none
 |e::r,i=>if Bf e=k then some (i,e.val) else CV k r (i+1)
def Iy (m:Dt→Option Value)(k:Dt)(v:Option Value):Dt→Option Value:=fun q=>if q=k then v else m q
structure MapSi (es:Array MapEntry)(clock:Nat)(m:Dt→Option Value):Prop where
 str:∀e∈es.toList,∃s:Int,e.key= .int .i64 s
 nod:(es.toList.map Bf).Nodup
 brn:∀e∈es.toList,e.born < clock
 bnd:(es.toList.map (·.born)).Nodup
 val:∀k,m k=(CV k es.toList 0).map (·.2)
theorem IB {k:Dt}:∀{l:List MapEntry} {i:Nat},(∀e∈l,∃s:Int,e.key= .int .i64 s)→Instr.findNow (.int .i64) (Cv k) l i=some (CV k l i)
 |[],_,_=>rfl
 |e::l,i,h=>by
  obtain ⟨s,hs⟩:=h e (List.mem_cons_self ..);have ih:=IB (k:=k) (l:=l) (i:=i+1) (fun x hx=>h x (List.mem_cons_of_mem _ hx));simp only [Instr.findNow,CV,Bf,hs,Cv,Instr.sameNow,if_true];by_cases hk:s=k
  ·have:(k==s)=true:=by simp [hk]
   rw [this,if_pos hk]
  ·have:(k==s)=false:=by simp;exact fun h=>hk h.symm
   rw [this,if_neg hk];exact ih
theorem MapSi.find {es:Array MapEntry}{clock:Nat}{m:Dt→Option Value}(h:MapSi es clock m)(k:Dt):Instr.findNow (.int .i64) (Cv k) es.toList 0=some (CV k es.toList 0):=IB h.str
theorem MapSi.empty:MapSi #[] 0 (fun _=>none):=⟨fun e h=>by simp at h,by simp,fun e h=>by simp at h,by simp,fun k=>rfl⟩
theorem fnd_nonei {k:Dt}:∀{l:List MapEntry} {i:Nat},CV k l i=none↔k ∉ l.map Bf
 |[],_=>by simp [CV]
 |e::l,i=>by
  simp only [CV,List.map_cons,List.mem_cons,not_or];by_cases h:Bf e=k
  ·simp [h]
  ·rw [if_neg h,fnd_nonei (l:=l)];exact ⟨fun h'=>⟨fun e'=>h e'.symm,h'⟩,fun h'=>h'.2⟩
theorem Ip {k:Dt}:∀{l:List MapEntry} {i j:Nat} {v:Value},CV k l i=some (j,v)→∃n e,j=i+n∧l[n]? =some e∧Bf e=k∧e.val=v
 |[],_,_,_,h=>by simp [CV] at h
 |e::l,i,j,v,h=>by
  simp only [CV] at h;split at h
  ·rename_i hk
   simp only [Option.some.injEq,Prod.mk.injEq] at h;exact ⟨0,e,by omega,rfl,hk,h.2⟩
  ·obtain ⟨n,e',h1,h2,h3,h4⟩:=Ip h;exact ⟨n+1,e',by omega,by simpa using h2,h3,h4⟩
theorem DP {k:Dt}:∀{l:List MapEntry} {i j:Nat},(CV k l i).map (·.2)=(CV k l j).map (·.2)
 |[],_,_=>rfl
 |e::l,i,j=>by
  simp only [CV];split
  ·rfl
  ·exact DP
theorem JO {k:Dt}:∀{l l':List MapEntry} {i:Nat},(CV k (l++l') i).map (·.2)=match (CV k l i).map (·.2) with
  |some v=>some v
  |none=>(CV k l' 0).map (·.2)
 |[],l',i=>by simp only [List.nil_append,CV,Option.map_none];exact DP
 |e::l,l',i=>by
  simp only [List.cons_append,CV];split
  ·rfl
  ·exact JO
theorem Pz {k q:Dt}{v:Value}:∀{l:List MapEntry} {n:Nat} {e:MapEntry},l[n]? =some e→Bf e=k→(l.map Bf).Nodup→
  (CV q (l.set n {e with key:=Cv k,val:=v}) 0).map (·.2)=if q=k then some v else (CV q l 0).map (·.2)
 |[],n,e,h,_,_=>by simp at h
 |x::l,0,e,h,hk,hn=>by
  simp only [List.getElem?_cons_zero,Option.some.injEq] at h;subst h;have hko:Bf {x with key:=Cv k,val:=v}=k:=by simp [Bf,Cv]
  simp only [List.set_cons_zero,CV,hko,hk];by_cases h:k=q
  ·simp [h]
  ·rw [if_neg h,if_neg (fun e=>h e.symm),if_neg h]
 |x::l,n+1,e,h,hk,hn=>by
  simp only [List.getElem?_cons_succ] at h;simp only [List.map_cons,List.nodup_cons] at hn;simp only [List.set_cons_succ,CV];have hmem:k∈l.map Bf:=List.mem_map.2 ⟨e,List.mem_of_getElem? h,hk⟩;by_cases hx:Bf x=q
  ·rw [if_pos hx,if_pos hx,if_neg];intro e';rw [hx,e'] at hn;exact hn.1 hmem
  ·rw [if_neg hx,if_neg hx];have ih:=Pz (q:=q) (v:=v) h hk hn.2;rw [DP (j:=0),ih,DP (i:=0+1) (j:=0)]
theorem Mh {k:Dt}{v:Value}:∀{l:List MapEntry} {n:Nat} {e:MapEntry},l[n]? =some e→Bf e=k→(l.set n {e with key:=Cv k,val:=v}).map Bf=l.map Bf
 |[],n,e,h,_=>by simp at h
 |x::l,0,e,h,hk=>by
  simp only [List.getElem?_cons_zero,Option.some.injEq] at h;subst h;simp [Bf,Cv] at hk ⊢;exact hk.symm
 |x::l,n+1,e,h,hk=>by
  simp only [List.getElem?_cons_succ] at h;simp only [List.set_cons_succ,List.map_cons,Mh h hk]
theorem KY {k:Dt}{v:Value}:∀{l:List MapEntry} {n:Nat} {e:MapEntry},l[n]? =some e→(l.set n {e with key:=Cv k,val:=v}).map (·.born)=l.map (·.born)
 |[],n,e,h=>by simp at h
 |x::l,0,e,h=>by
  simp only [List.getElem?_cons_zero,Option.some.injEq] at h;subst h;simp
 |x::l,n+1,e,h=>by
  simp only [List.getElem?_cons_succ] at h;simp only [List.set_cons_succ,List.map_cons,KY (k:=k) h]
def To (k:Dt)(v:Value)(es:Array MapEntry)(clock:Nat):Obj:=match CV k es.toList 0 with
 |some (i,_)=>.map (es.modify i fun e=>{e with key:=Cv k,val:=v}) clock
 |none=>.map (es.push {key:=Cv k,val:=v,born:=clock}) (clock+1)
theorem MapSi.put {es:Array MapEntry}{clock:Nat}{m:Dt→Option Value}(h:MapSi es clock m)(k:Dt)(v:Value):∃es' clock',To k v es clock= .map es' clock'∧MapSi es' clock' (Iy m k (some v)):=by
 unfold To;cases hf:CV k es.toList 0 with
 |none=>
  refine ⟨_,_,rfl,?_⟩;have hn:=fnd_nonei.1 hf;have hl:(es.push {key:=Cv k,val:=v,born:=clock}).toList=es.toList++[{key:=Cv k,val:=v,born:=clock}]:=by simp
  have hko:Bf {key:=Cv k,val:=v,born:=clock}=k:=by simp [Bf,Cv]
  refine ⟨fun e he=>?_,?_,fun e he=>?_,?_,fun q=>?_⟩
  ·rw [hl] at he;rcases List.mem_append.1 he with he|he
   ·exact h.str e he
   ·simp only [List.mem_singleton] at he;subst he;exact ⟨_,rfl⟩
  ·rw [hl,List.map_append,List.nodup_append];refine ⟨h.nod,by simp,fun a ha b hb=>?_⟩;simp only [List.map_cons,List.map_nil,List.mem_singleton,hko] at hb;subst hb;exact fun e=>hn (e ▸ ha)
  ·rw [hl] at he;rcases List.mem_append.1 he with he|he
   ·have:=h.brn e he;omega
   ·simp only [List.mem_singleton] at he;subst he;simp
  ·rw [hl,List.map_append,List.nodup_append];refine ⟨h.bnd,by simp,fun a ha b hb=>?_⟩;simp only [List.map_cons,List.map_nil,List.mem_singleton] at hb;subst hb;obtain ⟨e,he,rfl⟩:=List.mem_map.1 ha;have:=h.brn e he;omega
  ·rw [hl,JO,←h.val q];unfold Iy;by_cases e:q=k
   ·subst e;rw [if_pos rfl,h.val q,hf];simp [CV,hko]
   ·rw [if_neg e];have hf0:CV q [{key:=Cv k,val:=v,born:=clock}] 0=none:=by
     simp only [CV,hko];rw [if_neg (fun e'=>e (Eq.symm e'))]
    rw [hf0];cases m q <;> rfl
 |some p=>
  obtain ⟨i,u⟩:=p;obtain ⟨n,e,h1,h2,h3,h4⟩:=Ip hf;obtain rfl:i=n:=by omega
  refine ⟨_,_,rfl,?_⟩;have hl:=LD (f:=fun e=>{e with key:=Cv k,val:=v}) h2;refine ⟨fun x hx=>?_,?_,fun x hx=>?_,?_,fun q=>?_⟩
  ·rw [hl] at hx;rcases List.mem_or_eq_of_mem_set hx with hx|rfl
   ·exact h.str x hx
   ·exact ⟨_,rfl⟩
  ·rw [hl,Mh h2 h3];exact h.nod
  ·rw [hl] at hx;rcases List.mem_or_eq_of_mem_set hx with hx|rfl
   ·exact h.brn x hx
   ·exact h.brn e (List.mem_of_getElem? h2)
  ·rw [hl,KY (k:=k) h2];exact h.bnd
  ·rw [hl,Pz h2 h3 h.nod,←h.val q];rfl
def UG (k:Dt)(es:Array MapEntry)(clock:Nat):Obj:=match CV k es.toList 0 with
 |some (i,_)=>.map (es.eraseIdxIfInBounds i) clock
 |none=>.map es clock
theorem LW {k q:Dt}:∀{l:List MapEntry} {n:Nat} {e:MapEntry},l[n]? =some e→Bf e=k→(l.map Bf).Nodup→(CV q (l.eraseIdx n) 0).map (·.2)=if q=k then none else (CV q l 0).map (·.2)
 |[],n,e,h,_,_=>by simp at h
 |x::l,0,e,h,hk,hn=>by
  simp only [List.getElem?_cons_zero,Option.some.injEq] at h;subst h;simp only [List.map_cons,List.nodup_cons] at hn;simp only [List.eraseIdx_cons_zero,CV,hk];by_cases h:q=k
  ·subst h;rw [if_pos rfl,fnd_nonei.2 (by rw [←hk];exact hn.1)];rfl
  ·rw [if_neg h,if_neg (fun e=>h e.symm)];exact DP
 |x::l,n+1,e,h,hk,hn=>by
  simp only [List.getElem?_cons_succ] at h;simp only [List.map_cons,List.nodup_cons] at hn;simp only [List.eraseIdx_cons_succ,CV];have hmem:k∈l.map Bf:=List.mem_map.2 ⟨e,List.mem_of_getElem? h,hk⟩;by_cases hx:Bf x=q
  ·rw [if_pos hx,if_pos hx,if_neg];intro e';rw [hx,e'] at hn;exact hn.1 hmem
  ·rw [if_neg hx,if_neg hx,DP (j:=0),LW h hk hn.2,DP (i:=0+1) (j:=0)]
theorem MapSi.del {es:Array MapEntry}{clock:Nat}{m:Dt→Option Value}(h:MapSi es clock m)(k:Dt):∃es',UG k es clock= .map es' clock∧MapSi es' clock (Iy m k none):=by
 unfold UG;cases hf:CV k es.toList 0 with
 |none=>
  refine ⟨es,rfl,h.str,h.nod,h.brn,h.bnd,fun q=>?_⟩;unfold Iy;by_cases e:q=k
  ·subst e;rw [if_pos rfl,hf];rfl
  ·rw [if_neg e];exact h.val q
 |some p=>
  obtain ⟨i,u⟩:=p;obtain ⟨n,e,h1,h2,h3,h4⟩:=Ip hf;obtain rfl:i=n:=by omega
  have hlt:i < es.size:=by
   have:=(List.getElem?_eq_some_iff.1 h2).1;simpa using this
  have hl:(es.eraseIdxIfInBounds i).toList=es.toList.eraseIdx i:=by simp [Array.eraseIdxIfInBounds,hlt]
  refine ⟨_,rfl,fun x hx=>?_,?_,fun x hx=>?_,?_,fun q=>?_⟩
  ·rw [hl] at hx;exact h.str x (List.mem_of_mem_eraseIdx hx)
  ·rw [hl];exact h.nod.sublist (List.Sublist.map _ (List.eraseIdx_sublist ..))
  ·rw [hl] at hx;exact h.brn x (List.mem_of_mem_eraseIdx hx)
  ·rw [hl];exact h.bnd.sublist (List.Sublist.map _ (List.eraseIdx_sublist ..))
  ·rw [hl,LW h2 h3 h.nod,←h.val q];rfl
section rules
variable {I:Imm}{L:LH}{K:Value→M}{b:Nat}{es:Array MapEntry}{clock:Nat}{m:Dt→Option Value}{k:Dt}{v:Value}{S:M}
theorem AGo {zero:Value}{ok:Bool}(h:MapSi es clock m):(match CV k es.toList 0 with
  |some (_,u)=>if ok then .tuple #[u,.bool true] else u
  |none=>if ok then .tuple #[zero,.bool false] else zero)=lkV zero ok (m k):=by
 rw [h.val k];cases CV k es.toList 0 <;> rfl
theorem ABX {zero:Value}{ok:Bool}(ha:MapAt I L b es clock)(h:MapSi es clock m):lkR (.int .i64) zero ok (.map (some b)) (Cv k) I L (lkV zero ok (m k)):=
 ⟨es,_,.inr ⟨b,clock,rfl,ha⟩,h.find k,(AGo h).symm⟩
theorem AKx {zero:Value}{ok:Bool}[hin:InL b L (.map es clock)](h:MapSi es clock m)(hk:K (lkV zero ok (m k)) I L):Rv none (lkR (.int .i64) zero ok (.map (some b)) (Cv k)) K I L:=
 ⟨_,ABX (.inl hin.mem) h,hk⟩
theorem AJW {I0:Imm}{X:LH}{zero:Value}{ok:Bool}[hin:InL b X (.map es clock)](h:MapSi es clock m)(hk:K (lkV zero ok (m k)) I L):Rv (some (Stay I0 X)) (lkR (.int .i64) zero ok (.map (some b)) (Cv k)) K I L:=
 ⟨_,fun I' L' hS=>ABX (.inl (hS.2 _ hin.mem)) h,hk⟩
theorem Tx [hin:InL b L (.map es clock)](hk:K (.int .i64 es.size) I L):Rv none (JJ (.map (some b))) K I L:=⟨_,⟨es,.inr ⟨b,clock,rfl,.inl hin.mem⟩,rfl⟩,hk⟩
theorem AJS {L':LH}{es':Array MapEntry}{clock':Nat}(h:MapSi es clock m)(he:To k v es clock= .map es' clock')[u:UpL b L (.map es clock) (.map es' clock') L'](hk:K undef I L'):
  GU (.int .i64) (.map (some b)) (Cv k) v K I L:=by
 obtain ⟨L1,L2,rfl,rfl⟩:=u.up;refine ⟨b,es,clock,L1,L2,_,rfl,rfl,h.find k,?_⟩;unfold To at he;cases hf:CV k es.toList 0 with
 |none=>rw [hf] at he;simp only at he ⊢;rw [he];exact hk
 |some p=>obtain ⟨i,w⟩:=p;rw [hf] at he;simp only at he ⊢;rw [he];exact hk
theorem AJh {L':LH}{es':Array MapEntry}{clock':Nat}(h:MapSi es clock m)(he:UG k es clock= .map es' clock')[u:UpL b L (.map es clock) (.map es' clock') L'](hk:K (.tuple #[]) I L'):
  MT (.int .i64) (.map (some b)) (Cv k) K I L:=by
 obtain ⟨L1,L2,rfl,rfl⟩:=u.up;refine .inr ⟨b,es,clock,L1,L2,_,rfl,rfl,h.find k,?_⟩;unfold UG at he;cases hf:CV k es.toList 0 with
 |none=>rw [hf] at he;simp only at he ⊢;rw [he];exact hk
 |some p=>obtain ⟨i,w⟩:=p;rw [hf] at he;simp only at he ⊢;rw [he];exact hk
end rules
section iter
variable {I:Imm}{L0:LH}{K:Value→M}{b r clock:Nat}{es:Array MapEntry}{m:Dt→Option Value}{vis:List MapEntry}
theorem AFj (h:MapSi es clock m)(ha:MapAt I L0 r es clock)(hi:It es vis)(hend:vis.Perm es.toList→K (.tuple #[.bool false]) I ((b,Bt r clock vis)::L0))
  (hstep:∀e,e∈es.toList→It es (vis++[e])→K (.tuple #[.bool true,e.key,e.val]) I ((b,Bt r clock (vis++[e]))::L0)):MQ (.pointer (some ⟨b,0,.none⟩)) K I ((b,Bt r clock vis)::L0):=by
 refine ⟨b,[],L0,rfl,.inr ⟨r,clock,(vis.map (·.born)).toArray,clock,es,clock,rfl,MapAt.skip ha,?_,fun hh=>hend ?_,fun e he hs=>?_⟩⟩
 ·intro hc;simp only [Bool.and_eq_true,Bool.not_eq_true',Array.isEmpty_iff,Array.all_eq_true',decide_eq_true_eq] at hc;cases hl:es.toList with
  |nil=>
   have:es=#[]:=by cases es;simpa using hl
   have h2:=hc.1.2;rw [this] at h2;simp at h2
  |cons e l=>
   have he:e∈es.toList:=by rw [hl];exact List.mem_cons_self ..
   have h1:=h.brn e he;have h2:=hc.2 e (by simpa using he);omega
 ·refine (List.perm_ext_iff_of_nodup (BT hi.nod) (BT h.bnd)).2 fun e=>⟨hi.sub e,fun he=>?_⟩;cases hc:(vis.map (·.born)).toArray.contains e.born with
  |false=>have:=hh e (by simpa using he) hc;have:=h.brn e he;omega
  |true=>
   have:e.born∈vis.map (·.born):=by simpa using hc
   obtain ⟨v,hv,hve⟩:=List.mem_map.1 this;have:=EX h.bnd (hi.sub v hv) he hve;rw [←this];exact hv
 ·have hne:e.born ∉ vis.map (·.born):=by simpa using hs
  have hit:It es (vis++[e]):=⟨fun x hx=>by
   rcases List.mem_append.1 hx with hx|hx
   ·exact hi.sub x hx
   ·simp only [List.mem_singleton] at hx;subst hx;simpa using he,by
   rw [List.map_append,List.nodup_append];refine ⟨hi.nod,by simp,fun a ha b hb=>?_⟩;simp only [List.map_cons,List.map_nil,List.mem_singleton] at hb;subst hb;exact fun e'=>hne (e' ▸ ha)⟩
  have:=hstep e (by simpa using he) hit;simpa [Bt] using this
theorem AFm (h:MapSi es clock m)(ha:MapAt I L0 r es clock){e:MapEntry}(he:e∈es.toList):OT (.pointer (some ⟨b,0,.none⟩)) I ((b,Bt r clock (vis++[e]))::L0) (.tuple #[e.key,e.val]):=by
 refine ⟨b,r,clock,((vis++[e]).map (·.born)).toArray,clock,es,clock,e.born,e,rfl,.inl (List.mem_cons_self ..),by simp,MapAt.skip ha,by simp,?_,rfl⟩;cases hf:es.find? (·.born==e.born) with
 |none=>
  rw [←Array.find?_toList] at hf;have:=List.find?_eq_none.1 hf e he;simp at this
 |some e'=>
  rw [←Array.find?_toList] at hf;have h1:=List.find?_some hf;rw [EX h.bnd (List.mem_of_find?_eq_some hf) he (by simpa using h1)]
end iter
structure Ord (κ:Type)(lt:κ→κ→Bool):Prop where
 irr:∀a,lt a a=false
 tr:∀a b c,lt a b=true→lt b c=true→lt a c=true
 tot:∀a b,lt a b=false→lt b a=false→a=b
theorem bltO:Ord (List UInt8) blt:=⟨Bx,fun _ _ _=>Ct,Ds⟩
abbrev ilt (a b:Int):Bool:=decide (a < b)
theorem LS:Ord Int ilt:=⟨fun a=>by simp,fun a b c h1 h2=>by simp at *; omega,fun a b h1 h2=>by simp at *; omega⟩
section
variable {κ β:Type}[DecidableEq κ]{lt:κ→κ→Bool}
abbrev AL (κ β:Type):Type:=List (κ×β)
def lkA (l:AL κ β)(k:κ):Option β:=(l.find? fun q=>q.1==k).map (·.2)
def SrtA (lt:κ→κ→Bool)(l:AL κ β):Prop:=l.Pairwise fun a b=>lt a.1 b.1=true
def Ap (lt:κ→κ→Bool)(k:κ)(v:β):AL κ β→AL κ β
 |[]=>[(k,v)]
 |q::l=>if q.1=k then (k,v)::l else if lt k q.1=true then (k,v)::q::l else q::Ap lt k v l
def HQ (k:κ)(l:AL κ β):AL κ β:=l.filter fun q=> !(q.1==k)
theorem Gm (k:κ):lkA ([]:AL κ β) k=none:=rfl
theorem Bc (q:κ×β)(l:AL κ β)(k:κ):lkA (q::l) k=if q.1=k then some q.2 else lkA l k:=by
 unfold lkA;by_cases h:q.1=k <;> simp [h]
theorem lkA_none {l:AL κ β}{k:κ}:lkA l k=none↔∀q∈l,q.1≠k:=by
 unfold lkA;simp [List.find?_eq_none]
theorem Dc {l:AL κ β}{k:κ}{v:β}(h:lkA l k=some v):(k,v)∈l:=by
 unfold lkA at h;cases hf:l.find? (fun q=>q.1==k) with
 |none=>rw [hf] at h;cases h
 |some q=>
  rw [hf] at h;have h1:=List.find?_some hf;have h2:=List.mem_of_find?_eq_some hf;simp at h1 h;rw [←h1,←h];exact h2
theorem SrtA.ne (ho:Ord κ lt){a b:κ}(h:lt a b=true):a≠b:=fun e=>by rw [e,ho.irr] at h;cases h
theorem SrtA.nodup (ho:Ord κ lt){l:AL κ β}(h:SrtA lt l):(l.map (·.1)).Nodup:=List.pairwise_map.2 (h.imp fun hab=>SrtA.ne ho hab)
theorem FD (ho:Ord κ lt):∀{l:AL κ β} {k:κ} {v:β},SrtA lt l→(k,v)∈l→lkA l k=some v
 |q::l,k,v,h,hm=>by
  obtain ⟨h1,h2⟩:=List.pairwise_cons.1 h;rw [Bc];rcases List.mem_cons.1 hm with rfl|hm
  ·simp
  ·rw [if_neg (SrtA.ne ho (h1 _ hm))];exact FD ho h2 hm
theorem FA:∀(l:AL κ β) (k:κ) (v:β) (q:κ),lkA (Ap lt k v l) q=if q=k then some v else lkA l q
 |[],k,v,q=>by
  simp only [Ap,Bc,Gm];by_cases h:q=k
  ·rw [if_pos h.symm,if_pos h]
  ·rw [if_neg (Ne.symm h),if_neg h]
 |x::l,k,v,q=>by
  have ih:=FA l k v q;simp only [Ap];by_cases h:x.1=k
  ·rw [if_pos h];simp only [Bc];by_cases e:q=k
   ·rw [if_pos e.symm,if_pos e]
   ·rw [if_neg (Ne.symm e),if_neg e,if_neg (fun e2=>e (by rw [←e2,h]))]
  ·rw [if_neg h];split
   ·simp only [Bc];by_cases e:q=k
    ·rw [if_pos e.symm,if_pos e]
    ·rw [if_neg (Ne.symm e),if_neg e]
   ·simp only [Bc,ih];by_cases e:x.1=q
    ·rw [if_pos e,if_pos e,if_neg (fun e2=>h (by rw [e,e2]))]
    ·rw [if_neg e,if_neg e]
theorem AFF (l:AL κ β)(k q:κ):lkA (HQ k l) q=if q=k then none else lkA l q:=by
 induction l with
 |nil=>unfold HQ;simp [Gm]
 |cons x l ih=>
  unfold HQ at ih ⊢;rw [List.filter_cons];by_cases h:x.1=k
  ·simp only [h,beq_self_eq_true,Bool.not_true,Bool.false_eq_true,if_false,ih,Bc];by_cases e:q=k
   ·simp [e]
   ·rw [if_neg e,if_neg e,if_neg (Ne.symm e)]
  ·have:(!(x.1==k))=true:=by simp [h]
   rw [if_pos this];simp only [Bc,ih];by_cases e:q=k
   ·rw [if_pos e,if_neg (fun e2=>h (by rw [e2,e]))];rw [if_pos e]
   ·rw [if_neg e,if_neg e]
theorem GK {l:AL κ β}{k:κ}{v:β}{q:κ×β}(h:q∈Ap lt k v l):q=(k,v)∨q∈l:=by
 induction l with
 |nil=>simp [Ap] at h;exact .inl h
 |cons x l ih=>
  simp only [Ap] at h;split at h
  ·rcases List.mem_cons.1 h with h|h
   ·exact .inl h
   ·exact .inr (List.mem_cons_of_mem _ h)
  ·split at h
   ·rcases List.mem_cons.1 h with h|h
    ·exact .inl h
    ·exact .inr h
   ·rcases List.mem_cons.1 h with h|h
    ·exact .inr (by rw [h];exact List.mem_cons_self ..)
    ·rcases ih h with h|h
     ·exact .inl h
     ·exact .inr (List.mem_cons_of_mem _ h)
theorem SrtA.ins (ho:Ord κ lt){k:κ}{v:β}:∀{l:AL κ β},SrtA lt l→SrtA lt (Ap lt k v l)
 |[],_=>List.pairwise_singleton ..
 |x::l,h=>by
  obtain ⟨h1,h2⟩:=List.pairwise_cons.1 h;simp only [Ap];split
  ·rename_i e
   exact List.pairwise_cons.2 ⟨fun y hy=>by have:=h1 y hy;rw [e] at this;exact this,h2⟩
  ·rename_i e
   split
   ·rename_i hb
    refine List.pairwise_cons.2 ⟨fun y hy=>?_,h⟩;rcases List.mem_cons.1 hy with rfl|hy
    ·exact hb
    ·exact ho.tr _ _ _ hb (h1 y hy)
   ·rename_i hb
    refine List.pairwise_cons.2 ⟨fun y hy=>?_,SrtA.ins ho h2⟩;rcases GK hy with rfl|hy
    ·cases hx:lt x.1 k with
     |true=>rfl
     |false=>exact absurd (ho.tot _ _ hx (by simpa using hb)) e
    ·exact h1 y hy
theorem SrtA.del {k:κ}{l:AL κ β}(h:SrtA lt l):SrtA lt (HQ k l):=List.Pairwise.sublist List.filter_sublist h
theorem FT (k:κ)(v:β):∀l:AL κ β,(Ap lt k v l).length≤l.length+1∧l.length≤(Ap lt k v l).length
 |[]=>by simp [Ap]
 |x::l=>by
  have ih:=FT k v l;simp only [Ap];split
  ·simp
  ·split <;> simp <;> omega
theorem LO (ho:Ord κ lt){k:κ}{v:β}:∀{l:AL κ β},SrtA lt l→lkA l k≠none→(Ap lt k v l).length=l.length
 |[],_,h=>absurd rfl h
 |x::l,hs,h=>by
  obtain ⟨h1,h2⟩:=List.pairwise_cons.1 hs;simp only [Ap];split
  ·simp
  ·rename_i e
   rw [Bc,if_neg e] at h;split
   ·rename_i hb
    exfalso
    cases hv:lkA l k with
    |none=>exact h hv
    |some w=>
     have:=h1 _ (Dc hv);have h3:=ho.tr _ _ _ hb this;simp only at h3
     rw [ho.irr] at h3;cases h3
   ·simp [LO ho h2 h]
theorem SrtA.ext (ho:Ord κ lt):∀{a b:AL κ β},SrtA lt a→SrtA lt b→(∀k,lkA a k=lkA b k)→a=b
 |[],[],_,_,_=>rfl
 |[],y::b,_,hb,h=>by have:=h y.1;rw [Gm,FD ho hb (List.mem_cons_self ..)] at this;cases this
 |x::a,[],ha,_,h=>by have:=h x.1;rw [Gm,FD ho ha (List.mem_cons_self ..)] at this;cases this
 |x::a,y::b,ha,hb,h=>by
  obtain ⟨a1,a2⟩:=List.pairwise_cons.1 ha;obtain ⟨b1,b2⟩:=List.pairwise_cons.1 hb;have hxy:x.1=y.1:=by
   have hx:=h x.1;have hy:=h y.1;rw [FD ho ha (List.mem_cons_self ..),Bc] at hx;rw [FD ho hb (List.mem_cons_self ..),Bc] at hy;apply Classical.byContradiction
   intro hne;rw [if_neg (Ne.symm hne)] at hx;rw [if_neg hne] at hy;have g1:=b1 _ (Dc hx.symm);have g2:=a1 _ (Dc hy);have:=ho.tr _ _ _ g1 g2;rw [ho.irr] at this;cases this
  have hv:x.2=y.2:=by
   have hx:=h x.1;rw [FD ho ha (List.mem_cons_self ..),Bc,if_pos hxy.symm] at hx;exact Option.some.inj hx
  have he:x=y:=Prod.ext hxy hv;rw [he,SrtA.ext ho a2 b2 (fun k=>?_)];have hk:=h k;rw [Bc,Bc,he] at hk;by_cases e:y.1=k
  ·have n1:lkA a k=none:=lkA_none.2 fun q hq=>by
    have:=SrtA.ne ho (a1 q hq);rw [←e,←hxy];exact Ne.symm this
   have n2:lkA b k=none:=lkA_none.2 fun q hq=>by
    have:=SrtA.ne ho (b1 q hq);rw [←e];exact Ne.symm this
   rw [n1,n2]
  ·rw [if_neg e,if_neg e] at hk;exact hk
end
section
variable {κ β:Type}[DecidableEq κ]{lt:κ→κ→Bool}
def Bb (enc:β→Value)(l:AL κ β):κ→Option Value:=fun k=>(lkA l k).map enc
theorem Tw {l:AL κ β}{k:κ}:lkA l k≠none↔k∈l.map (·.1):=by
 constructor
 ·intro h;cases hv:lkA l k with
  |none=>exact absurd hv h
  |some v=>exact List.mem_map.2 ⟨_,Dc hv,rfl⟩
 ·intro h hn;obtain ⟨q,hq,rfl⟩:=List.mem_map.1 h;exact lkA_none.1 hn q hq rfl
end
theorem ABm {β:Type}(enc:β→Value)(l:AL Key β)(k:Key)(v:β):Fv (Bb enc l) k (some (enc v))=Bb enc (Ap blt k v l):=by
 funext q;unfold Fv Bb;rw [FA];split <;> rfl
theorem VY {β:Type}(enc:β→Value)(l:AL Int β)(k:Int)(v:β):Iy (Bb enc l) k (some (enc v))=Bb enc (Ap ilt k v l):=by
 funext q;unfold Iy Bb;rw [FA];split <;> rfl
theorem VZ {β:Type}(enc:β→Value)(l:AL Int β)(k:Int):Iy (Bb enc l) k none=Bb enc (HQ k l):=by
 funext q;unfold Iy Bb;rw [AFF];split <;> rfl
theorem MapS.keysA {β:Type}{enc:β→Value}{l:AL Key β}{es:Array MapEntry}{clock:Nat}(h:MapS es clock (Bb enc l))(hs:SrtA blt l):(es.toList.map BM).Perm (l.map (·.1)):=by
 refine (List.perm_ext_iff_of_nodup h.nod (hs.nodup bltO)).2 fun k=>?_;rw [←Tw];have hv:=h.val k;unfold Bb at hv;rw [←Classical.not_not (a:=k∈es.toList.map BM),←fnd_none (l:=es.toList) (i:=0)];constructor
 ·intro hn he;rw [he] at hv;cases hf:fnd k es.toList 0 with
  |none=>exact hn hf
  |some p=>rw [hf] at hv;cases hv
 ·intro hn he;rw [he] at hv;cases hl:lkA l k with
  |none=>exact hn hl
  |some p=>rw [hl] at hv;cases hv
theorem MapSi.keysA {β:Type}{enc:β→Value}{l:AL Int β}{es:Array MapEntry}{clock:Nat}(h:MapSi es clock (Bb enc l))(hs:SrtA ilt l):(es.toList.map Bf).Perm (l.map (·.1)):=by
 refine (List.perm_ext_iff_of_nodup h.nod (hs.nodup LS)).2 fun k=>?_;rw [←Tw];have hv:=h.val k;unfold Bb at hv;rw [←Classical.not_not (a:=k∈es.toList.map Bf),←fnd_nonei (l:=es.toList) (i:=0)];constructor
 ·intro hn he;rw [he] at hv;cases hf:CV k es.toList 0 with
  |none=>exact hn hf
  |some p=>rw [hf] at hv;cases hv
 ·intro hn he;rw [he] at hv;cases hl:lkA l k with
  |none=>exact hn hl
  |some p=>rw [hl] at hv;cases hv
theorem MapS.sizeA {β:Type}{enc:β→Value}{l:AL Key β}{es:Array MapEntry}{clock:Nat}(h:MapS es clock (Bb enc l))(hs:SrtA blt l):es.size=l.length:=by
 have:=(h.keysA hs).length_eq;simpa using this
theorem MapSi.sizeA {β:Type}{enc:β→Value}{l:AL Int β}{es:Array MapEntry}{clock:Nat}(h:MapSi es clock (Bb enc l))(hs:SrtA ilt l):es.size=l.length:=by
 have:=(h.keysA hs).length_eq;simpa using this
end Go.SL
