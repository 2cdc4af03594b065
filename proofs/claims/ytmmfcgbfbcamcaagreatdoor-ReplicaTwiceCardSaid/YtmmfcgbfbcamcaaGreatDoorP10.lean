/- lemmas -/
import Derived.Test.YtmmfcgbfbcamcaaGreatDoorP7
import Derived.Test.YtmmfcgbfbcamcaaGreatDoorP9
import Derived.Test.YtmmfcgbfbcamcaaGreatDoorProg
import Derived.Shelf.Sort.Plain
import Derived.Shelf.Slices.In.SortNone
import Derived.Shelf.Lays
import Derived.Shelf.SlSortCmp.NoneTotal
import Derived.Shelf.Small.Strs
set_option maxRecDepth 100000
set_option maxHeartbeats 2000000
set_option linter.unusedVariables false
set_option linter.unusedSimpArgs false
set_option linter.unusedSectionVars false
namespace Go.Proofs.YtmmfcgbfbcamcaaGreatDoor
open Go.SL
section
variable {ω:Om}{I:Imm}{L:LH}{K:Value→M}
theorem NoteR.head {b m ch:Nat}{kv:Value}{fl:TStamp}{X:LH}{nt:Nts}(h:NoteR I b m ch kv fl X nt):Cells I X b 0 [.map (some m),kv,.int .i64 fl.fWall,.int .i64 fl.fLogic]:=by
 obtain ⟨NX,hp,_⟩:=h;exact Ch (l:=[.map (some m),kv,.int .i64 fl.fWall,.int .i64 fl.fLogic,.map (some ch)]) (T:=179) (fr:=(0,0)) (hp.mem_iff.2 (List.mem_cons_self ..)) 4
theorem Pe {b m ch:Nat}{kv:Value}{fl:TStamp}{X F:LH}{nt:Nts}{k:List UInt8}{v:TVer}(hN:NoteR I b m ch kv fl X nt)(hr:AN v.fAt=true)(hl:k.length≤1000000000)(hvl:v.fValue.length≤1000000000)
  (hk:∀X' I',Ext I I'→NoteR I' b m ch kv fl X' (Cj nt (CH k v) (false,Bi v))→K (.tuple #[]) I' (X'++F)):
  CT ω 189 #[pt b,BS k,vv v] K I (X++F):=by
 refine AEm ?_;unfold Uh;refine AQ (λq=>?_);refine AZ ?_;refine Ck rfl ?_;refine Bu (JD hr hl (λX1 u I1 hI1 hX=>?_));refine OB.freeze hX (λI2 hI2 hB=>Gh.done ?_);refine Vy (hI1.trans hI2) (λx hx=>hx) ?_;refine Ck rfl ?_;refine Bu (HA hvl (λX3 u3 hX3=>?_));refine OB.freeze hX3 (λI3 hI3 hB3=>Gh.done ?_);refine call (Cal.to (X++F) ?_);refine OH (hN.mono (hI1.trans (hI2.trans hI3))) (hB.mono hI3) hB3 (λX' h'=>?_);exact Gh.done (hk X' I3 (hI1.trans (hI2.trans hI3)) h')
theorem MA {b m ch:Nat}{kv:Value}{fl:TStamp}{X F:LH}{nt:Nts}(hN:NoteR I b m ch kv fl X nt)(hr:AN fl=true)
  (hk:∀X' I',Ext I I'→NoteR I' b m ch kv fl X' (Cj nt [102] (false,stF fl))→K (.tuple #[]) I' (X'++F)):
  CT ω 131 #[pt b] K I (X++F):=by
 have hh:=hN.head;refine AEq ?_;unfold VN;try refine O ?_
 refine rdN (vs:=[.int .i64 fl.fWall,.int .i64 fl.fLogic]) rfl (λj u hu=>?_) ?_
 ·match j,hu with
  |0,hu=>exact (hh 2 u (by simpa using hu)).mono (Ext.refl _) (λx hx=>List.mem_append_left _ hx)
  |1,hu=>exact (hh 3 u (by simpa using hu)).mono (Ext.refl _) (λx hx=>List.mem_append_left _ hx)
 refine Bu (ES (x:=fl) hr (λX1 u hX=>?_));refine OB.freeze hX (λI2 hI2 hB=>Gh.done ?_);try refine O ?_
 refine by1 (c:=102) (λX1 u1 h1=>OB.freeze h1 (λI3 hI3 hB3=>Gh.done ?_));refine call (OH (hN.mono (hI2.trans hI3)) hB3 (hB.mono hI3) (λX' h'=>?_));exact Gh.done (hk X' I3 (hI2.trans hI3) h')
theorem Qs {b m ch p clock:Nat}{kv:Value}{es:Array MapEntry}{mm:Key→Option Value}{fl:TStamp}{X F:LH}{nt:Nts}{k:List UInt8}{r:Row}(hN:NoteR I b m ch kv fl X nt)(hA:MapAt I F m es clock)(hM:MapS es clock mm)(hpk:mm k=some (pt p))(hCV:CellV I F p r)
  (ht:0≤r.it.txn∧r.it.txn < 9223372036854775808) (hri:r.it.txn≠0→AN r.it.ver.fAt=true) (hl:k.length≤1000000000) (hvl:r.it.ver.fValue.length≤1000000000)
  (hk:∀X' I',Ext I I'→NoteR I' b m ch kv fl X' (Cj nt (105::k) (CX r.it))→K (.tuple #[]) I' (X'++F)):
  CT ω 190 #[pt b,BS k] K I (X++F):=by
 have hh:=hN.head;obtain ⟨sl,hC,hVs⟩:=hCV.mono (Ext.refl I) (show ∀x∈F,x∈X++F from λx hx=>List.mem_append_right _ hx);obtain ⟨c0,c1,c14,c3,c4,c5,_⟩:=itC hC;refine AEl ?_;unfold Ug;refine by1 (c:=105) (λX1 u1 h1=>Gh.done ?_);refine GA (y:=k) h1 (.inr (.inr ⟨_,rfl,rfl,by simp [ByteArray.size],by simp [u8s]⟩)) (by simp;omega) (λX2 u2 h2=>?_);refine OB.freeze h2 (λI2 hI2 hB2=>Gh.done ?_);try refine O ?_
 refine rdC (L0:=X++F) ((hh 0 _ rfl).mono (Ext.refl _) (λx hx=>List.mem_append_left _ hx)) hI2 ?_;refine ⟨_,FP (MapAt.mono hA hI2 (λx hx=>by simp [hx])) hM,?_⟩;simp only [hpk,lkV];simp only [Bool.false_eq_true,if_false,SSd,Nat.reduceAdd];refine rdC c5 hI2 ?_;try refine O ?_
 refine AF (λe=>?_) (λe=>?_)
 ·simp at e;refine call (Cal.to (X++F) ?_);refine OH (hN.mono hI2) hB2 (show Bytes I2 _ [] from SlI.nil I2 1 none 0) (λX' h'=>?_);refine Gh.done (hk X' I2 hI2 ?_);unfold CX;rw [if_pos e];exact h'
 ·simp at e;refine FT c1 hI2 rfl ?_;have hs9:(stF r.it.ver.fAt).length=9:=rfl;have hv9:=JF (n:=r.it.txn.toNat) (by omega);refine Bu (ES (hri e) (λX3 u3 h3=>Gh.done ?_));try refine O ?_
  refine rdC c5 hI2 ?_;try refine O ?_
  rw [wrap_u64 _ ht.1 (by omega),show r.it.txn=((r.it.txn.toNat:Nat):Int) by omega];refine call (Gf (by omega) (λu4 I4 hI4 hB4=>?_));refine GA (y:=Ev r.it.txn.toNat) h3 (SlI.news hB4) (by omega) (λX5 u5 h5=>Gh.done ?_);refine FT c14 (hI2.trans hI4) rfl ?_;refine call (HA hvl (λX6 u6 h6=>?_));have hvt:(Bi r.it.ver).length≤1000000001:=by unfold Bi;split <;> simp;omega
  refine GA (X6:=X5) (y:=Bi r.it.ver) h5 (h6.news (λx hx=>by simp [hx])) (by rw [List.length_append];omega) (λX7 u7 h7=>?_);refine OB.freeze h7 (λI7 hI7 hB7=>Gh.done ?_);refine call (Cal.to (X++F) ?_);refine OH (hN.mono (hI2.trans (hI4.trans hI7))) (hB2.mono (hI4.trans hI7)) hB7 (λX' h'=>?_);refine Gh.done (hk X' I7 (hI2.trans (hI4.trans hI7)) ?_);unfold CX;rw [if_neg e];exact h'
theorem Wc {g:Bool}{k:List UInt8}{l:List TVer}{i:Nat}(hi:i < l.length)(nt:Nts):verN g k (l.take (i+1)) nt=Cj (verN g k (l.take i) nt) (CH k l[i]) (Wd g l[i]):=by
 unfold verN;rw [take_snoc hi,List.foldl_append];rfl
theorem MB {b m ch p clock:Nat}{kv:Value}{es:Array MapEntry}{mm:Key→Option Value}{fl:TStamp}{X F:LH}{nt:Nts}{r:Row}{g:Bool}(hN:NoteR I b m ch kv fl X nt)(hA:g=false→MapAt I F m es clock∧MapS es clock mm∧mm r.key=some (pt p))(hCV:CellV I F p r)
  (hr:RowOk r) (hvs:r.vs.length≤1000000000)
  (hk:∀X' I',Ext I I'→NoteR I' b m ch kv fl X' (noteA g r nt)→K (.tuple #[]) I' (X'++F)):
  CT ω 132 #[pt b,BS r.key,pt p,.bool g] K I (X++F):=by
 obtain ⟨sl,hC,hVs⟩:=hCV;obtain ⟨c0,c1,c14,c3,c4,c5,_⟩:=itC hC;have hkl:=hr.keyL;refine ALp ?_;unfold ACI;try refine O ?_
 refine rdC c0 (Ext.refl _) ?_;simp only [RL.len hVs,SSd,Nat.reduceAdd];refine loop (λn s I' L'=>∃(i:Nat) (X':LH),n+i=r.vs.length∧s=(.int .i64 i,())∧Ext I I'∧NoteR I' b m ch kv fl X' (verN g r.key (r.vs.take i) nt)∧L'=X'++F) r.vs.length ⟨0,X,rfl,rfl,Ext.refl _,hN,rfl⟩ ?_;rintro n s I' L' ⟨i,X',hn,rfl,hI,hN',rfl⟩;unfold VL;try refine O ?_
 refine AF (λe=>?_) (λe=>?_)
 ·have hi:i < r.vs.length:=by simpa using e
  obtain ⟨bx,off,c,hix,hcl,hc,hcc⟩:=RL.ix hVs (i:=(i:Int)) (by omega) (by omega);have hget:Dk r.vs (i:Int)=r.vs[i]:=AX hi;rw [hget] at hc;have hce:c=_:=hc;have hv:=hr.vs r.vs[i] (List.getElem_mem hi);have hvlen:r.vs[i].fValue.length≤1000000000:=by have:=hv.len;omega
  have hnext:=Wc (g:=g) (k:=r.key) hi nt;simp only [hix,SSd,Nat.reduceAdd];refine rdN hcl (hcc I' (X'++F) hI (λx hx=>List.mem_append_right _ hx)) ?_;subst hce;refine AQ (λq=>?_);refine stB rfl rfl (AH rfl) ?_;cases g with
  |true=>
   try refine O ?_
   refine rdB rfl ?_;refine call (Cal.to (X'++F) (OG (v:=r.vs[i]) hN' hv.right (by omega) (λX2 I2 hI2 hN2=>?_)));unfold Kh;try refine O ?_
   rw [wrap_i64 _ (by omega)];exact (Gh.done ⟨n - 1,by omega,i+1,X2,by omega,rfl,hI.trans hI2,by rw [hnext];exact hN2,rfl⟩)
  |false=>
   try refine O ?_
   refine rdB rfl ?_;refine call (Cal.to (X'++F) (Pe (v:=r.vs[i]) hN' hv.right (by omega) hvlen (λX2 I2 hI2 hN2=>?_)));unfold Kh;try refine O ?_
   rw [wrap_i64 _ (by omega)];exact (Gh.done ⟨n - 1,by omega,i+1,X2,by omega,rfl,hI.trans hI2,by rw [hnext];exact hN2,rfl⟩)
 ·have hi:i=r.vs.length:=by
   have:¬i < r.vs.length:=by simpa using e
   omega
  rw [hi,List.take_length] at hN';unfold VK;try refine O ?_
  refine rdC c5 hI ?_;try refine O ?_
  refine AF (λe2=>?_) (λe2=>?_)
  ·simp at e2;refine Gh.done (hk X' I' hI ?_);unfold noteA;rw [if_pos e2];exact hN'
  ·simp at e2;cases g with
   |true=>
    try refine O ?_
    refine by1 (c:=105) (λX1 u1 h1=>Gh.done ?_);refine GA (y:=r.key) h1 (.inr (.inr ⟨_,rfl,rfl,by simp [ByteArray.size],by simp [u8s]⟩)) (by simp;omega) (λX2 u2 h2=>?_);refine OB.freeze h2 (λI2 hI2 hB2=>Gh.done ?_);refine call (Cal.to (X'++F) (OH (hN'.mono hI2) hB2 (show Bytes I2 _ [] from SlI.nil I2 1 none 0) (λX3 h3=>?_)));refine (Gh.done (hk X3 I2 (hI.trans hI2) ?_));unfold noteA;rw [if_neg e2];exact h3
   |false=>
    obtain ⟨hA1,hA2,hA3⟩:=hA rfl;have hit:r.it.txn≠0→AN r.it.ver.fAt=true∧r.it.ver.fValue.length≤10000:=λh0=>by
     rcases hr.it with h|⟨_,h⟩
     ·rw [h] at h0;exact absurd rfl h0
     ·exact ⟨h.right,h.len⟩
    have hvl:r.it.ver.fValue.length≤1000000000:=by have:=(hit e2).2;omega
    have htx:=hr.txn;try refine O ?_
    refine call (Qs hN' (MapAt.mono hA1 hI (λx hx=>hx)) hA2 hA3 (CellV.mono ⟨sl,hC,hVs⟩ hI (λx hx=>hx)) (by omega) (λh0=>(hit h0).1) (by omega) hvl (λX2 I2 hI2 hN2=>?_));refine (Gh.done (hk X2 I2 (hI.trans hI2) ?_));unfold noteA;rw [if_neg e2];exact hN2
end
theorem AEE {k:List UInt8}{rows:List Row}{i:Nat}(h1:∀x∈(keysOf rows).take i,blt x k=true)(h2:∀x∈(keysOf rows).drop i,blt x k=false):Pj k rows=rows.take i∧CY k rows=rows.drop i:=by
 have g1:∀r∈rows.take i,blt r.key k=true:=λr hr=>h1 _ (by unfold keysOf;rw [←List.map_take];exact List.mem_map_of_mem hr);have g2:∀r∈rows.drop i,blt r.key k=false:=λr hr=>h2 _ (by unfold keysOf;rw [←List.map_drop];exact List.mem_map_of_mem hr);unfold Pj CY;constructor
 ·conv=>lhs;rw [←List.take_append_drop i rows]
  rw [List.filter_append,List.filter_eq_self.2 g1,List.filter_eq_nil_iff.2 (λr hr=>by simp [g2 r hr]),List.append_nil]
 ·conv=>lhs;rw [←List.take_append_drop i rows]
  rw [List.filter_append,List.filter_eq_nil_iff.2 (λr hr=>by simp [g1 r hr]),List.filter_eq_self.2 (λr hr=>by simp [g2 r hr]),List.nil_append]
theorem RowsR.nil {X:LH}{ps:List Nat}(h:RowsR X ps []):X=[]∧ps=[]:=by
 cases ps with
 |nil=>exact ⟨h,rfl⟩
 |cons p ps=>exact absurd h (by simp [RowsR])
theorem Od {L Y:LH}{p:Nat}{sl:Value}{r:Row}(hp:(p,Ay sl r.it)∈L)(hv:VsO Y sl r.vs)(hY:∀x∈Y,x∈L){I:Imm}:CellV I L p r:=⟨sl,Ch hp 6,hv.rl hY⟩
section
variable {ω:Om}{I:Imm}{L:LH}{K:Value→M}
theorem Sa {b:Nat}{v1:Value}{k:List UInt8}{X F:LH}{sp:Sp}{nt:Nts}(hS:SpR I b X sp nt)(hok:SpOk sp)(hlen:sp.rows.length≤100000000)(hvs:∀r∈sp.rows,r.vs.length≤1000000000)(hB:Bytes I v1 k)
  (hno:Aj k=false→K (.tuple #[.pointer none,.int .i64 1]) I (X++F))
  (hk:∀I' bt X' Xt,Aj k=true→Ext I I'→SpR I' b X' (HV k sp) (noteAs true (CY k sp.rows) nt)→SpR I' bt Xt (GN k sp) (noteAs false (CY k sp.rows) (BL sp.floor))→K (.tuple #[pt bt,.int .i64 0]) I' (X'++(Xt++F))):
  CT ω 88 #[pt b,v1] K I (X++F):=by
 obtain ⟨rows,fl⟩:=sp;refine ANE ?_;unfold AJP;refine call (Cx hB ?_);try refine O ?_
 cases hko:Aj k with
 |false=>
  simp only [Bool.not_false,SSd,Nat.reduceAdd];exact Gh.done (hno hko)
 |true=>
 simp only [Bool.not_true,SSd,Nat.reduceAdd];refine Bu (Qx (λbt X0 hS0=>?_));obtain ⟨ps,m,ch,kv,es,clock,KX,RX,NX,hp,hF⟩:=hS;obtain ⟨ps0,mt,cht,kvt,est,clockt,KX0,RX0,NX0,hp0,hF0⟩:=hS0;obtain ⟨rfl,rfl⟩:=RowsR.nil hF0.rows;have hmap0:MapS est clockt (BA [] []):=hF0.map;have hfl0:sp0.floor=z0:=rfl;rw [hfl0] at hp0;simp only at hp hlen hvs ⊢
 refine Gh.perm (L':=(b,spO m kv fl ch)::(bt,spO mt kvt z0 cht)::((m,.map es clock)::(mt,.map est clockt)::(NX++(NX0++(KX++(KX0++(RX++F))))))) (AO (by simp only [AM,AJ,BQ hp,BQ hp0];((try simp only [AJ,AM,AU,AP]);(try ac_rfl)))) (Gh.done ?_);try refine O ?_
 refine rdP [.int .i64 fl.fWall,.int .i64 fl.fLogic] rfl rfl ?_;refine stP [.map (some mt),kvt,.int .i64 fl.fWall,.int .i64 fl.fLogic,.map (some cht)] rfl rfl rfl rfl ?_;refine rdP [.int .i64 fl.fWall,.int .i64 fl.fLogic] rfl rfl ?_;have hs:=hok.rise;have hkl:(keysOf rows).length=rows.length:=by simp [keysOf]
 have main:∀I1 NX1 cht1,Ext I I1→NtR I1 cht1 NX1 (BL fl)→
   Ow ω (pt b) v1 (.pointer none) (.int .i64 0) (pt bt) (λv=>Gh (K v)) I1 ((b,spO m kv fl ch)::(bt,spO mt kvt fl cht1)::((m,.map es clock)::(mt,.map est clockt)::(NX++(NX1++(KX++(KX0++(RX++F))))))):=by
  intro I1 NX1 cht1 hI1 hN1;unfold Ow;refine AZ ?_;try refine O ?_
  refine Ab ?_;refine Bd hB hI1 ?_;refine call (En (StrO.rl hF.keys (λx hx=>by simp [hx])) (by simp only;omega) hs (λi hi hlo hhi=>?_));obtain ⟨eA,eD⟩:=AEE hlo hhi;simp only [hkl] at hi;try refine O ?_
  refine rdb ?_;obtain ⟨va,hsl,hV1⟩:=RL.part (StrO.rl (I:=I1) (L:=(b,spO m kv fl ch)::(bt,spO mt kvt fl cht1)::((m,.map es clock)::(mt,.map est clockt)::(NX++(NX1++(KX++(KX0++(RX++F))))))) hF.keys (λx hx=>by simp [hx])) (lo:=i) (hi:=(keysOf rows).length) (by omega) (Nat.le_refl _) (some (.int .i64 i)) none (BI _ _ _ _ (by omega)) (λ_ _=>rfl);have eR:((keysOf rows).drop i).take ((keysOf rows).length - i)=keysOf (CY k rows):=by
   rw [eD,List.take_of_length_le (by simp)];unfold keysOf;rw [List.map_drop]
  rw [eR] at hV1;have hDl:(keysOf (CY k rows)).length≤100000000:=by rw [eD];simp [keysOf];omega
  have hAl:(keysOf (Pj k rows)).length≤100000000:=by rw [eA];simp [keysOf];omega
  simp only [hsl,SSd,Nat.reduceAdd];refine Bu (Hz hV1 (by omega) (λXR kvR hKR=>?_));obtain ⟨aR,cR,rfl⟩:=hKR.form;refine Gh.perm (L':=(b,spO m kv fl ch)::(bt,spO mt kvt fl cht1)::((m,.map es clock)::(mt,.map est clockt)::(NX++(NX1++(KX++(KX0++(RX++(XR++F)))))))) (AO (by ((try simp only [AJ,AM,AU,AP]);(try ac_rfl)))) (Gh.done ?_);try refine O ?_
  refine st1 rfl ?_;refine rdb ?_;obtain ⟨va2,hsl2,hV2⟩:=RL.part (StrO.rl (I:=I1) (L:=(b,spO m kv fl ch)::(bt,spO mt (.slice aR (keysOf (CY k rows)).length cR) fl cht1)::((m,.map es clock)::(mt,.map est clockt)::(NX++(NX1++(KX++(KX0++(RX++(XR++F)))))))) hF.keys (λx hx=>by simp [hx])) (lo:=0) (hi:=i) (by omega) (by simp only [hkl];exact hi) none (some (.int .i64 i)) rfl (λcap hcap=>BI _ _ _ _ (by simp only [hkl] at hcap;omega));have eL:((keysOf rows).drop 0).take (i - 0)=keysOf (Pj k rows):=by
   rw [eA];simp [keysOf,List.map_take]
  rw [eL] at hV2;simp only [hsl2,SSd,Nat.reduceAdd];refine Bu (Hz hV2 (by omega) (λXL kvL hKL=>?_));obtain ⟨aL,cL,rfl⟩:=hKL.form;refine Gh.perm (L':=(m,.map es clock)::(mt,.map est clockt)::(b,spO m kv fl ch)::(NX++((bt,spO mt (.slice aR (keysOf (CY k rows)).length cR) fl cht1)::(NX1++(XL++(XR++(RX++([]++(KX++(KX0++F)))))))))) (AO (by ((try simp only [AJ,AM,AU,AP]);(try ac_rfl)))) (Gh.done ?_);try refine O ?_
  refine st1 rfl ?_;refine rdb ?_;try refine O ?_
  have hrows:rows=Pj k rows++CY k rows:=MI hs;generalize eA2:Pj k rows=A at *;generalize eD2:CY k rows=D at *;clear hsl hsl2 hV1 hV2 hlo hhi eR eL va va2 eA eD;subst hrows;obtain ⟨P,Q,rfl,hPl,hQl⟩:=Ni hF.rows.len;have hkD:(keysOf D).length=D.length:=by simp [keysOf]
  have hDl2:D.length≤100000000:=by omega
  refine loop (λn s I' L'=>∃(j:Nat) (Xs Xt RXs RXt:LH) (es' est':Array MapEntry) (clock' clockt' ch' cht':Nat),n+j=D.length∧s=(.int .i64 j,())∧Ext I I'∧NoteR I' b m ch' (.slice aL (keysOf A).length cL) fl Xs (noteAs true (D.take j) nt)∧NoteR I' bt mt cht' (.slice aR (keysOf D).length cR) fl Xt (noteAs false (D.take j) (BL fl))∧
   MapS es' clock' (BA (P++Q.drop j) (A++D.drop j))∧MapS est' clockt' (BA (Q.take j) (D.take j))∧RowsR RXs (P++Q.drop j) (A++D.drop j)∧RowsR RXt (Q.take j) (D.take j)∧L'=(m,.map es' clock')::(mt,.map est' clockt')::(Xs++(Xt++(XL++(XR++(RXs++(RXt++(KX++(KX0++F))))))))) D.length
   ⟨0,(b,spO m (.slice aL (keysOf A).length cL) fl ch)::NX,(bt,spO mt (.slice aR (keysOf D).length cR) fl cht1)::NX1,RX,[],es,est,clock,clockt,ch,cht1,rfl,rfl,hI1,⟨NX,List.Perm.refl _,hF.nts.mono hI1⟩,⟨NX1,List.Perm.refl _,hN1⟩,hF.map,hmap0,hF.rows,rfl,rfl⟩ ?_
  rintro n s I' L' ⟨j,Xs,Xt,RXs,RXt,es',est',clock',clockt',ch',cht',hn,rfl,hI,hNs,hNt,hMs,hMt,hRs,hRt,rfl⟩;unfold Yf;try refine O ?_
  refine AF (λe=>?_) (λe=>?_)
  ·have hj:j < D.length:=by simp only [hkD] at e;simpa using e
   have hjQ:j < Q.length:=by omega
   have eD:D.drop j=D[j]::D.drop (j+1):=List.drop_eq_getElem_cons hj;have eQ:Q.drop j=Q[j]::Q.drop (j+1):=List.drop_eq_getElem_cons hjQ;obtain ⟨bx,off,c,hix,hcl,hc,hcc⟩:=RL.ix (StrO.rl (I:=I') (L:=(m,.map es' clock')::(mt,.map est' clockt')::(Xs++(Xt++(XL++(XR++(RXs++(RXt++(KX++(KX0++F))))))))) hKR (λx hx=>by simp [hx])) (i:=(j:Int)) (by omega) (by omega);have hce:c=[BS D[j].key]:=by
    have h1:c=[BS (Dk (keysOf D) (j:Int))]:=by simpa [StrV] using hc
    rw [h1,AX (by omega)];simp [keysOf]
   subst hce;have hmid:Mid (A++D.take j) D[j].key (D.drop (j+1)):=by
    refine SrtK.mid ?_;have e2:(A++D.take j)++D[j]::D.drop (j+1)=A++D:=by rw [List.append_assoc,←GT hj]
    rw [e2];exact hs
   have hrm:D[j]∈A++D:=List.mem_append_right _ (List.getElem_mem hj);have hrok:=hok.rows _ hrm;have hrvs:=hvs _ hrm;have hl1:(Q.take j).length=(D.take j).length:=by simp;omega
   have eD1:D.take (j+1)=D.take j++[D[j]]:=take_snoc hj;have eQ1:Q.take (j+1)=Q.take j++[Q[j]]:=take_snoc hjQ;rw [eD,eQ] at hMs hRs;generalize er:D[j]=r at *;generalize eD2':D.drop (j+1)=D2 at *;generalize ep:Q[j]=p at *;generalize eQ2':Q.drop (j+1)=Q2 at *;generalize eD1':D.take j=D1 at *;generalize eQ1':Q.take j=Q1 at *;have hmA:Mid A r.key D2:=⟨λx hx=>hmid.lt x (List.mem_append_left _ hx),hmid.gt⟩;have hm1:Mid D1 r.key []:=⟨λx hx=>hmid.lt x (List.mem_append_right _ hx),λx hx=>by cases hx⟩;simp only [hix,SSd,Nat.reduceAdd];refine rd1 (hcc I' _ (Ext.refl _) (λx h=>h) 0 _ rfl) ?_;try refine O ?_
   refine rdC (L0:=Xs) (hNs.head 0 _ rfl) (Ext.refl _) ?_;refine lkm hMs ?_;simp only [De hPl hmA rfl,lkV,Bool.false_eq_true,if_false];refine rdC (L0:=Xs) (hNs.head 0 _ rfl) (Ext.refl _) ?_;obtain ⟨es2,he2,hMs2⟩:=hMs.del r.key;rw [←Mp hPl hmA rfl] at hMs2;refine AKK hMs he2 (Gh.done ?_);try refine O ?_
   refine rdC (L0:=Xt) (hNt.head 0 _ rfl) (Ext.refl _) ?_;obtain ⟨est2,ct2,he3,hMt2⟩:=hMt.put r.key (pt p);have eM:BA (Q1++[p]) (D1++[r])=GL (BA Q1 D1) r.key (some (pt p)):=by
    have:=FH (P:=Q1) (Q:=[]) (A:=D1) (B:=[]) (p:=p) (r:=r) hl1 hm1 rfl;simpa using this
   rw [←eM] at hMt2;refine AHq hMt he3 ?_;obtain ⟨sl,Y,Z,hq,hv,hRs2⟩:=RowsR.pick hPl hRs;refine Gh.perm (L':=Xs++((m,.map es2 clock')::(mt,.map est2 ct2)::(p,Ay sl r.it)::(Y++(Z++(Xt++(XL++(XR++(RXt++(KX++(KX0++F)))))))))) (AO (by simp only [AM,AJ,BQ hq];((try simp only [AJ,AM,AU,AP]);(try ac_rfl)))) (Gh.done ?_);refine Bu (MB (g:=true) (es:=#[]) (clock:=0) (mm:=λ_=>none) hNs (λh=>by cases h) (Od (sl:=sl) (Y:=Y) (by simp) hv (λx hx=>by simp [hx])) hrok hrvs (λXs2 I2 hI2 hNs2=>?_));refine Gh.perm (L':=Xt++((m,.map es2 clock')::(mt,.map est2 ct2)::(p,Ay sl r.it)::(Y++(Z++(Xs2++(XL++(XR++(RXt++(KX++(KX0++F)))))))))) (AO (by ((try simp only [AJ,AM,AU,AP]);(try ac_rfl)))) (Gh.done ?_);refine Bu (MB (g:=false) (m:=mt) (hNt.mono hI2) (λ_=>⟨.inl (by simp),hMt2,De (Q:=[]) (B:=[]) hl1 hm1 rfl⟩) (Od (sl:=sl) (Y:=Y) (by simp) hv (λx hx=>by simp [hx])) hrok hrvs (λXt2 I3 hI3 hNt2=>?_));refine Gh.perm (L':=(m,.map es2 clock')::(mt,.map est2 ct2)::(Xs2++(Xt2++(XL++(XR++(Z++(((p,Ay sl r.it)::(Y++RXt))++(KX++(KX0++F))))))))) (AO (by ((try simp only [AJ,AM,AU,AP]);(try ac_rfl)))) (Gh.done ?_);try refine O ?_
   rw [wrap_i64 _ (by omega)];have hNt2':NoteR I3 bt mt cht' (.slice aR (keysOf D).length cR) fl Xt2 (noteAs false (D1++[r]) (BL fl)):=by
    unfold noteAs at hNt2 ⊢;rw [List.foldl_append];exact hNt2
   have hNs2':NoteR I3 b m ch' (.slice aL (keysOf A).length cL) fl Xs2 (noteAs true (D1++[r]) nt):=by
    have:=hNs2.mono hI3;unfold noteAs at this ⊢;rw [List.foldl_append];exact this
   refine Gh.done ⟨n - 1,by omega,j+1,Xs2,Xt2,Z,(p,Ay sl r.it)::(Y++RXt),es2,est2,clock',ct2,ch',cht',by omega,rfl,hI.trans (hI2.trans hI3),?_,?_,?_,?_,?_,?_,rfl⟩
   ·rw [eD1];exact hNs2'
   ·rw [eD1];exact hNt2'
   ·rw [eQ2',eD2'];exact hMs2
   ·rw [eQ1,eD1];exact hMt2
   ·rw [eQ2',eD2'];exact hRs2
   ·rw [eQ1,eD1];exact RowsR.put (Q:=[]) (B:=[]) hl1 (List.Perm.refl _) hv (by simpa using hRt)
  ·have hj:j=D.length:=by
    have:¬j < D.length:=by simp only [hkD] at e;simpa using e
    omega
   rw [hj,List.take_length] at hNs hNt hMt hRt;rw [hj,List.drop_length,List.append_nil] at hMs hRs;have eQ0:Q.drop D.length=[]:=by rw [←hQl];exact List.drop_length
   have eQ1:Q.take D.length=Q:=by rw [←hQl];exact List.take_length
   rw [eQ0,List.append_nil] at hMs hRs;rw [eQ1] at hMt hRt;obtain ⟨NXs,hqs,hNs⟩:=hNs;obtain ⟨NXt,hqt,hNt⟩:=hNt;refine Gh.perm (L':=((b,spO m (.slice aL (keysOf A).length cL) fl ch')::(m,.map es' clock')::(XL++(RXs++NXs)))++(((bt,spO mt (.slice aR (keysOf D).length cR) fl cht')::(mt,.map est' clockt')::(XR++(RXt++NXt)))++(KX++(KX0++F)))) (AO (by simp only [AM,AJ,BQ hqs,BQ hqt];((try simp only [AJ,AM,AU,AP]);(try ac_rfl)))) ?_;refine Gh.to (((b,spO m (.slice aL (keysOf A).length cL) fl ch')::(m,.map es' clock')::(XL++(RXs++NXs)))++(((bt,spO mt (.slice aR (keysOf D).length cR) fl cht')::(mt,.map est' clockt')::(XR++(RXt++NXt)))++F)) ?_;refine Gh.done (hk I' bt _ _ hko hI ?_ ?_)
   ·exact ⟨P,m,ch',_,es',clock',XL,RXs,NXs,List.Perm.refl _,by rw [show (HV k ⟨A++D,fl⟩)=⟨A,fl⟩ from by unfold HV;simp only [eA2]];exact ⟨hMs,hKL,hRs,hNs⟩⟩
   ·exact ⟨Q,mt,cht',_,est',clockt',XR,RXt,NXt,List.Perm.refl _,by rw [show (GN k ⟨A++D,fl⟩)=⟨D,fl⟩ from by unfold GN;simp only [eD2]];exact ⟨hMt,hKR,hRt,hNt⟩⟩
 obtain ⟨fw,fg⟩:=fl;simp only [KP,SSd,Nat.reduceAdd];refine AF (λe=>?_) (λe=>?_)
 ·have hne:(⟨fw,fg⟩:TStamp)≠z0:=λh=>by
   simp only [TStamp.mk.injEq] at h;simp [h.1,h.2] at e
  have hfn:BL ⟨fw,fg⟩=Cj nt0 [102] (false,stF ⟨fw,fg⟩):=by unfold BL;rw [if_neg hne]
  refine Bu (Cal.perm (L':=((bt,spO mt kvt ⟨fw,fg⟩ cht)::NX0)++((b,spO m kv ⟨fw,fg⟩ ch)::(m,.map es clock)::(mt,.map est clockt)::(NX++(KX++(KX0++(RX++F)))))) (AO (by ((try simp only [AJ,AM,AU,AP]);(try ac_rfl)))) (MA (m:=mt) ⟨NX0,List.Perm.refl _,hF0.nts⟩ hok.floor (λX' I' hI' hN'=>?_)));obtain ⟨NX1,hq1,hNt1⟩:=hN';refine Gh.perm (L':=(b,spO m kv ⟨fw,fg⟩ ch)::(bt,spO mt kvt ⟨fw,fg⟩ cht)::((m,.map es clock)::(mt,.map est clockt)::(NX++(NX1++(KX++(KX0++(RX++F))))))) (AO (by simp only [AM,AJ,BQ hq1];((try simp only [AJ,AM,AU,AP]);(try ac_rfl)))) (Gh.done ?_);exact main I' NX1 cht hI' (by rw [hfn];exact hNt1)
 ·have he:(⟨fw,fg⟩:TStamp)=z0:=by
   have:fw=0∧fg=0:=by simpa using e
   rw [this.1,this.2]
  have hfn:BL ⟨fw,fg⟩=nt0:=by unfold BL;rw [if_pos he]
  exact main I NX0 cht (Ext.refl _) (by rw [hfn];exact hF0.nts)
end
theorem RD {κ β:Type}[DecidableEq κ]{p:κ→Bool}:∀(l:AL κ β) (k:κ),lkA (l.filter λq=>p q.1) k=if p k=true then lkA l k else none
 |[],k=>by simp [HN]
 |q::l,k=>by
  have ih:=RD (p:=p) l k;rw [List.filter_cons];by_cases e:q.1=k
  ·subst e;cases hp:p q.1 with
   |true=>simp only [if_true,BZ]
   |false=>
    simp only [Bool.false_eq_true,if_false];rw [ih,hp];rfl
  ·cases hp:p q.1 with
   |true=>simp only [if_true,BZ,e,if_false,ih]
   |false=>simp only [Bool.false_eq_true,if_false,ih,BZ,e]
section
variable {ω:Om}{I:Imm}{L:LH}{K:Value→M}{b s N:Nat}{V:MV}{m:Mch}{SX F:LH}{c:TCmd}{cc:List Value}
theorem QQ (hM:MOk m N)(hN:N≤5000)(hF:MF I V m)(hSp:SpR I s SX m.sp m.nt)(hc:TCmdV I c cc)(hky:Aj c.fKey=true)(hk:PostA K b F I (CB m c)):
  CT ω 104 #[pt b,.agg cc.toArray] K I (mL b s V m (SX++F)):=by
 have h1:=hM.vers;have h2:=GS (show N≤10000 by omega);have h3:=hM.rows;have hvs:∀r∈m.sp.rows,r.vs.length≤1000000000:=Fj (by omega);obtain ⟨w0,w1,w2,w3,rfl,g0,g1,g2,g3⟩:=hc;have hkl:c.fKey.length≤140737488355328:=by simp only [Aj,Bool.and_eq_true,decide_eq_true_eq] at hky;omega
 have hto:m.span.fTo.length≤140737488355328:=by have:=hM.span;simp only [CC,Bool.and_eq_true,decide_eq_true_eq] at this;omega
 obtain ⟨aK,cK,rfl⟩:=Bytes.form g0;obtain ⟨aT,cT,hT⟩:=Bytes.form hF.f1;refine AMJ ?_;unfold sh104;refine AQ (λb1=>AQ (λb2=>?_));repeat' (first|refine Γ ?_|refine Θ (λ_=>?_)|(refine Ψ ?_;refine (EN (p:=m.span) ⟨_,_,rfl,hF.f0,hF.f1⟩ g0 ?_))|(refine Ψ ?_;refine (Au ?_))|(refine Ψ ?_;refine (Tc g0 hF.f0 ?_))|(refine Ψ ?_;refine (Cal.split SX (Sa hSp hM.sp (by omega) hvs g0 (λh=>by rw [hky] at h;cases h) (λI1 bt X1 Xt _ hI1 hS1 hSt=>?_))))|(refine Ψ ?_;refine (OL (p:=⟨c.fKey,m.span.fTo⟩) (pc:=[.slice aK c.fKey.length cK,.slice aT m.span.fTo.length cT]) (GN c.fKey m.sp) (noteAs false (CY c.fKey m.sp.rows) (BL m.sp.floor)) ⟨_,_,rfl,g0.mono hI1,by rw [←hT];exact hF.f1.mono hI1⟩ hkl hto (λbm Vm I2 hI2 hF2=>?_)))|(refine Ψ ?_;refine (Mm (es:=V.e3) (clock:=V.c3) (by simp) (λnb=>?_)))|refine Δ ?_|(with_reducible first|refine AK (sh104_1.eq_1 ..) ?_|refine AK (sh104_2.eq_1 ..) ?_|refine AK (sh104_4.eq_1 ..) ?_|refine AK (sh104_7.eq_1 ..) ?_|refine AK (sh104_3.eq_1 ..) ?_|refine AK (sh104.eq_1 ..) ?_|refine And.intro ?_ ?_)|refine Φ ?_|refine Ξ (λ_=>?_) (λ_=>?_)|(simp only [SSd,Nat.reduceAdd,hT]))
 ·have e:CB m c=Al (Ag 141,m):=by unfold CB Al;rw [if_pos (by first|(simp_all;done)|(simp_all;omega)|omega)]
  rw [e] at hk;exact Gh.to (mL b s V m (SX++F)) (Gh.done (hk.plain (Ext.refl _) ⟨s,V,SX,List.Perm.refl _,hF,hSp⟩ (Cm ..)))
 ·refine XD (es:=V.e1) (clock:=V.c1) (.inl (by simp)) (λit=>Gh.done ?_);refine loop (λn s' I' L'=>I'=I2∧∃(vis:List MapEntry) (e:Array MapEntry) (c':Nat) (lst:AL Key TMk),It V.e1 vis∧n+vis.length=V.e1.toList.length∧MapS e c' (BO mv lst)∧SrtA blt lst∧(∀k,lkA lst k=if k∈vis.map Aw∧blt k c.fKey=false then lkA m.marks k else none)∧
   L'=(it,Bc V.km V.c1 vis)::(nb,.map V.e3 V.c3)::(bm,AJw Vm.v0 Vm.v1 bt Vm.km m.low Vm.rc nb m.oldest Vm.kv)::(Vm.km,.map e c')::(Vm.rc,.map Vm.e2 Vm.c2)::(Vm.sn,.map Vm.e3 Vm.c3)::(X1++(Xt++(b2,FI)::
    (b1,.cells #[.int .i64 c.fKind,.int .i64 c.fTxn,.int .i64 c.fSeq,.int .i64 c.fAt.fWall,.int .i64 c.fAt.fLogic,.int .i64 c.fTo.fWall,.int .i64 c.fTo.fLogic,.int .i64 c.fBy,.bool c.fYes,.bool c.fDel,.slice aK c.fKey.length cK,w1,w2,w3,.int .i64 c.fMost] 56 (0,0))::
    (b,AJw V.v0 (.slice aT m.span.fTo.length cT) s V.km m.low V.rc V.sn m.oldest V.kv)::(V.km,.map V.e1 V.c1)::(V.rc,.map V.e2 V.c2)::(V.sn,.map V.e3 V.c3)::F))) V.e1.toList.length ⟨rfl,[],Vm.e1,Vm.c1,[],It.none _,rfl,hF2.mks,List.Pairwise.nil,λk=>by simp [HN],rfl⟩ ?_
  rintro n s' I' L' ⟨rfl,vis,e,c',lst,hi,hn,hM1,hS1',hlk,rfl⟩;unfold sh104_3;refine AJt hF.mks (.inl (by simp)) hi (λhp=>Gh.done ?_) (λx hx hi'=>Gh.done ?_)
  ·try refine O ?_
   have hfin:lst=m.marks.filter λq=> !blt q.1 c.fKey:=by
    refine SrtA.ext bltO hS1' (List.Pairwise.sublist List.filter_sublist hM.marks) (λk=>?_);rw [hlk k,RD (p:=λk=> !blt k c.fKey)];cases hb:blt k c.fKey with
    |true=>simp
    |false=>
     by_cases hkv:k∈vis.map Aw
     ·simp [hkv]
     ·rw [if_neg (λh=>hkv h.1)];cases hq:lkA m.marks k with
      |none=>simp
      |some y=>
       obtain ⟨e0,he0,hke,_⟩:=HM (v:=mv y) hF.mks (by unfold BO;rw [hq];rfl);exact absurd (List.mem_map.2 ⟨e0,hp.mem_iff.2 he0,hke⟩) hkv
   subst hfin;unfold sh104_7;try refine O ?_
   refine rdb ?_;refine call (Cal.pick V.km (Tg (l:=m.marks) (del:=λq=> !blt q.1 c.fKey) hF.mks hM.marks (λq Y K' hq hK'=>?_) (λes' hM3=>?_)))
   ·refine Ri (by kernel_rfl) ?_;refine show Cal _ _ _ #[CJ q.1,mv q.2,pt b1] _ _ _ from ALS ?_
    simp only [CJ];unfold sh165;repeat' (first|refine Γ ?_|(with_reducible first|refine AQ (λ_=>?_)|refine DF (g0.mono (hI1.trans hI2)) (Ext.refl _) ?_)|refine Δ ?_|(with_reducible first|refine AK (sh165.eq_1 ..) ?_|refine And.intro ?_ ?_)|refine Φ ?_|refine Ξ (λ_=>?_) (λ_=>?_)|refine O ?_|fail)
    exact Gh.to (Y++_) (Gh.done hK')
   ·have hM3':MapS es' V.c1 (BO mv (m.marks.filter λq=>blt q.1 c.fKey)):=by simpa only [Bool.not_not] using hM3
    try refine O ?_
    refine rdb ?_;refine call (Gs (g0.mono (hI1.trans hI2)) hkl (λa9 c9 I9 hI9 hB9=>?_));have t9:=hI1.trans (hI2.trans hI9);try refine O ?_
    refine st1 rfl ?_;try refine O ?_
    refine stB rfl rfl (AH rfl) ?_;refine rdB rfl ?_;have e9:CB m c=(okR,{m with span:=⟨m.span.fFrom,c.fKey⟩,sp:=HV c.fKey m.sp,nt:=noteAs true (CY c.fKey m.sp.rows) m.nt,marks:=m.marks.filter λq=>blt q.1 c.fKey},
      some ⟨⟨c.fKey,m.span.fTo⟩,GN c.fKey m.sp,noteAs false (CY c.fKey m.sp.rows) (BL m.sp.floor),m.marks.filter λq=> !blt q.1 c.fKey,m.low,[],m.seen,m.oldest,[]⟩):=by
     unfold CB;rw [if_neg (by rintro (h|h) <;> simp_all)]
    rw [e9] at hk;have hFa:MF I9 {V with v1:=.slice a9 c.fKey.length c9,e1:=es'} {m with span:=⟨m.span.fFrom,c.fKey⟩,sp:=HV c.fKey m.sp,nt:=noteAs true (CY c.fKey m.sp.rows) m.nt,marks:=m.marks.filter λq=>blt q.1 c.fKey}:=
     {hF.mono t9 with f1:=hB9,mks:=hM3'}
    have hFb:MF I9 {Vm with e1:=e,c1:=c',sn:=nb,e3:=V.e3,c3:=V.c3} ⟨⟨c.fKey,m.span.fTo⟩,GN c.fKey m.sp,noteAs false (CY c.fKey m.sp.rows) (BL m.sp.floor),m.marks.filter λq=> !blt q.1 c.fKey,m.low,[],m.seen,m.oldest,[]⟩:=
     ⟨hF2.f0.mono hI9,hF2.f1.mono hI9,hM1,hF2.rcs,hF.sns,hF2.kpt.mono hI9⟩
    have h9:=(hk I9 (mL b s {V with v1:=.slice a9 c.fKey.length c9,e1:=es'} {m with span:=⟨m.span.fFrom,c.fKey⟩,sp:=HV c.fKey m.sp,nt:=noteAs true (CY c.fKey m.sp.rows) m.nt,marks:=m.marks.filter λq=>blt q.1 c.fKey} X1) _ t9 ⟨s,_,X1,List.Perm.refl _,hFa,hS1.mono (hI2.trans hI9)⟩ (Cm ..)).2 _ bm
     (mL bm bt {Vm with e1:=e,c1:=c',sn:=nb,e3:=V.e3,c3:=V.c3} ⟨⟨c.fKey,m.span.fTo⟩,GN c.fKey m.sp,noteAs false (CY c.fKey m.sp.rows) (BL m.sp.floor),m.marks.filter λq=> !blt q.1 c.fKey,m.low,[],m.seen,m.oldest,[]⟩ Xt) rfl ⟨bt,_,Xt,List.Perm.refl _,hFb,hSt.mono (hI2.trans hI9)⟩
    refine Gh.to (mL b s {V with v1:=.slice a9 c.fKey.length c9,e1:=es'} {m with span:=⟨m.span.fFrom,c.fKey⟩,sp:=HV c.fKey m.sp,nt:=noteAs true (CY c.fKey m.sp.rows) m.nt,marks:=m.marks.filter λq=>blt q.1 c.fKey} (X1++mL bm bt {Vm with e1:=e,c1:=c',sn:=nb,e3:=V.e3,c3:=V.c3} ⟨⟨c.fKey,m.span.fTo⟩,GN c.fKey m.sp,noteAs false (CY c.fKey m.sp.rows) (BL m.sp.floor),m.marks.filter λq=> !blt q.1 c.fKey,m.low,[],m.seen,m.oldest,[]⟩ (Xt++F))) (Gh.done h9)
  ·have hek:=RA hF.mks hx;obtain ⟨y,hy,hev⟩:∃y,lkA m.marks (Aw x)=some y∧x.val=mv y:=by
    have:=FD hF.mks hx;unfold BO at this;cases hq:lkA m.marks (Aw x) with
    |none=>rw [hq] at this;cases this
    |some y=>rw [hq] at this;exact ⟨y,rfl,(Option.some.inj this).symm⟩
   try refine O ?_
   refine ⟨_,AIM hF.mks (.inl (by simp)) hx,?_⟩;rw [hek,hev];simp only [CJ];repeat' (first|refine Γ ?_|(with_reducible first|refine AQ (λ_=>?_)|refine DF (g0.mono (hI1.trans hI2)) (Ext.refl _) ?_)|((with_reducible refine Vl (x:=y) hM1 rfl (λe2 c2 hM2=>?_)))|refine Δ ?_|(with_reducible first|refine AK (sh104_1.eq_1 ..) ?_|refine AK (sh104_2.eq_1 ..) ?_|refine AK (sh104_4.eq_1 ..) ?_|refine AK (sh104_7.eq_1 ..) ?_|refine AK (sh104_3.eq_1 ..) ?_|refine AK (sh104.eq_1 ..) ?_|refine And.intro ?_ ?_)|refine Φ ?_|refine Ξ (λ_=>?_) (λ_=>?_)|refine O ?_|fail)
   all_goals have hlen:vis.length+1≤V.e1.toList.length:=(by have:=Dh (BH hi'.nod) hi'.sub;simpa using this)
   ·rename_i _ ec
    have ec':blt (Aw x) c.fKey=false:=by simpa using ec
    refine Gh.drop (List.sublist_cons_self _ _) (Gh.done (Gh.done ⟨n - 1,by omega,rfl,vis++[x],e2,c2,Am blt (Aw x) y lst,hi',by rw [List.length_append,List.length_singleton];omega,hM2,hS1'.ins bltO,λk=>?_,rfl⟩));rw [Em,hlk k,List.map_append,List.map_cons,List.map_nil];by_cases hk1:k=Aw x
    ·subst hk1;simp [ec',hy]
    ·rw [if_neg hk1];simp [hk1]
   ·rename_i ec
    have ec':blt (Aw x) c.fKey=true:=by simpa using ec
    refine Gh.drop (List.sublist_cons_self _ _) (Gh.done ⟨n - 1,by omega,rfl,vis++[x],e,c',lst,hi',by rw [List.length_append,List.length_singleton];omega,hM1,hS1',λk=>?_,rfl⟩);rw [hlk k,List.map_append,List.map_cons,List.map_nil];by_cases hk1:k=Aw x
    ·subst hk1;simp [ec']
    ·simp [hk1]
 ·have e:CB m c=Al (Ag 141,m):=by unfold CB Al;rw [if_pos (by first|(simp_all;done)|(simp_all;omega)|omega)]
  rw [e] at hk;exact Gh.to (mL b s V m (SX++F)) (Gh.done (hk.plain (Ext.refl _) ⟨s,V,SX,List.Perm.refl _,hF,hSp⟩ (Cm ..)))
theorem AJL:AFz:=λω I K b N X F m c cc hM hN hX hc hky hk=>by
 obtain ⟨s,V,SX,hp,hF,hSp⟩:=hX;refine Cal.perm (L':=mL b s V m (SX++F)) (AO (by simp only [AM,BQ hp];((try simp only [AJ,AM,AU,AP]);(try ac_rfl)))) (QQ hM hN hF hSp hc hky hk)
end
section
variable {ω:Om}{I:Imm}{L:LH}{K:Value→M}
theorem Ld {g:TGot}{v w:Value}(hv:Bytes I v g.fValue)(hw:Bytes I w g.fValue)(hk:K (.bool true) I L):CT ω 54 #[gvV g v,gvV g w] K I L:=by
 obtain ⟨va,vc,rfl⟩:=Bytes.form hv;obtain ⟨wa,wc,rfl⟩:=Bytes.form hw;refine AIr ?_;unfold sh54;repeat' (first|refine Γ ?_|(with_reducible first|refine AQ (λ_=>?_)|refine DF hv (Ext.refl _) ?_|refine DF hw (Ext.refl _) ?_)|refine Δ ?_|(with_reducible first|refine AK (sh54.eq_1 ..) ?_|refine And.intro ?_ ?_)|refine Φ ?_|refine Ξ (λ_=>?_) (λ_=>?_)|(simp only [SSd,Nat.reduceAdd,sEq,beq_self_eq_true,Bool.and_self]))
 all_goals exact Gh.to L (Gh.done hk)
theorem KH {L0:LH}[LSub L0 L]{a:List TKV}{v w:Value}(ha:RL TKVV 2 I L0 v a)(hb:RL TKVV 2 I L0 w a)(hl:a.length≤1000000000)(hk:K (.bool true) I L):CT ω 55 #[v,w] K I L:=by
 refine AIq ?_;unfold AGr;simp only [RL.len ha,RL.len hb,SSd,Nat.reduceAdd];refine AF (λe=>?_) (λe=>?_)
 ·simp at e
 refine loop (λn s I' L'=>I'=I∧L'=L∧∃i:Nat,n+i=a.length∧s=(.bool false,.int .i64 i,())) a.length ⟨rfl,rfl,0,rfl,rfl⟩ ?_;rintro n s I' L' ⟨rfl,rfl,i,hni,rfl⟩;unfold Sh;simp only [RL.len ha,SSd,Nat.reduceAdd];refine AF (λe2=>?_) (λe2=>Gh.done hk);have hi:i < a.length:=by simpa using e2
 obtain ⟨q,off,c,hix,hcl,hc,hcc⟩:=RL.ix ha (i:=(i:Int)) (by omega) (by omega);obtain ⟨q2,off2,c2,hix2,hcl2,hc2,hcc2⟩:=RL.ix hb (i:=(i:Int)) (by omega) (by omega);rw [AX hi] at hc hc2;generalize a[i]=x at *;obtain ⟨w0,w1,rfl,g0,g1⟩:=hc;obtain ⟨u0,u1,rfl,f0,f1⟩:=hc2;have hcv:=hcc I' L0 (Ext.refl _) (λ_ h=>h);have hcu:=hcc2 I' L0 (Ext.refl _) (λ_ h=>h);refine AZ ?_;simp only [hix,SSd,Nat.reduceAdd];refine Av (hcv 0 _ rfl) (Ext.refl _) ?_;refine Bd g0 (Ext.refl _) ?_;simp only [hix2,SSd,Nat.reduceAdd];refine Av (hcu 0 _ rfl) (Ext.refl _) ?_;refine Bd f0 (Ext.refl _) ?_;simp only [sNe,SSd,Nat.reduceAdd];refine AV (λe3=>?_) (λe3=>?_);rotate_left
 ·simp at e3
 try refine O ?_
 refine Av (hcv 1 _ rfl) (Ext.refl _) ?_;refine Bd g1 (Ext.refl _) ?_;try refine O ?_
 refine Av (hcu 1 _ rfl) (Ext.refl _) ?_;refine Bd f1 (Ext.refl _) ?_;simp only [sNe,SSd,Nat.reduceAdd];refine AF (λe4=>?_) (λe4=>?_)
 ·simp at e4
 try refine O ?_
 rw [wrap_i64 _ (by omega)];exact Gh.done ⟨n - 1,by omega,rfl,rfl,i+1,by omega,rfl⟩
theorem Lc {r:TRes}{ca cb:List Value}(h:TResV I r ca)(h':TResV I r cb)(hl:r.fRows.length≤1000000000)(hk:K (.bool true) I L):CT ω 17 #[.agg ca.toArray,.agg cb.toArray] K I L:=by
 obtain ⟨v0,v1,rfl,g0,g1⟩:=h;obtain ⟨w0,w1,rfl,f0,f1⟩:=h';obtain ⟨a0,c0,rfl⟩:=Bytes.form g0;obtain ⟨a1,c1,rfl⟩:=Bytes.form f0;obtain ⟨a2,c2,rfl⟩:=RL.form g1;obtain ⟨a3,c3,rfl⟩:=RL.form f1;refine AIs ?_;unfold sh17;repeat' (first|refine Γ ?_|refine Θ (λ_=>?_)|(refine Ψ ?_;with_reducible refine Ld (g:=r.fGot) g0 f0 ?_)|(refine Ψ ?_;with_reducible refine KH g1 f1 hl ?_)|refine Δ ?_|(with_reducible first|refine AK (sh17.eq_1 ..) ?_|refine And.intro ?_ ?_)|refine Φ ?_|refine Ξ (λ_=>?_) (λ_=>?_)|(simp only [SSd,Nat.reduceAdd,beq_self_eq_true,Bool.and_self]))
 all_goals exact Gh.to L (Gh.done hk)
end
theorem Wh {W:World}{v:Value}(h:TrR reachBytes Tryz.prog W 60 [v]):∃cs:List TCmd,RL TCmdV 15 (Eb W) [] v cs∧(∀c∈cs,Lens c)∧cs.length≤900000000000:=by
 obtain ⟨cells,xs,hS,hRR,hlen⟩:=Oo (R:=λx c=>AFy reachBytes x∧TCmdV (Eb W) x c) Tryz.underlying60 (by rw [Tn];omega) h (λc hc=>YP hc);rw [Tn] at hS hRR;rw [AMO] at hlen;have e:reachBytes=140737488351232:=by rfl
 exact ⟨xs,RL.ofI hS (hRR.imp λ_ _ h=>h.2),λc hc=>AIB (Qj (λ_ _ h=>h.1) hRR c hc),by omega⟩
section
variable {ω:Om}{I:Imm}{L:LH}{K:Value→M}
end
section
variable {ω:Om}{I:Imm}{K:Value→M}{b s br N:Nat}{VM:MV}{V:RV}{m:Mch}{R SX F:LH}
end
theorem Hp {br:Nat}{V:RV}{m:Mch}{R:LH}:rL br V m R=rL br V m []++R:=by simp [rL]
def AOQ (I:Imm)(v:Value)(X:LH)(o:Option Mch):Prop:=match o with
 |none=>v= .pointer none∧X=[]
 |some m=>∃b,v=pt b∧MchR I b X m
def ANx (I:Imm)(v:Value)(X:LH)(o:Option Mch):Prop:=match o with
 |none=>v= .pointer none∧X=[]
 |some m=>∃b,v=pt b∧R14 I b X m
section
variable {ω:Om}{I:Imm}{L:LH}{K:Value→M}{b br N:Nat}{m:Mch}{X Y F:LH}{c:TCmd}{cc:List Value}
theorem Ga (hM:MOk m N)(hN:N≤5000)(hX:MchR I b X m)(hc:TCmdV I c cc)(hL:Lens c)
  (hk:∀I' X' X2 pv cells,Ext I I'→MchR I' b X' (Ap m c).2.1→TResV I' (Ap m c).1 cells→AOQ I' pv X2 (Ap m c).2.2→K (.tuple #[.agg cells.toArray,pv]) I' (X'++(X2++F))):
  CT ω 12 #[pt b,.agg cc.toArray] K I (X++F):=
 ID hM hN hX hc hL (λ_=>AId) (λ_=>AJL) (λI' X' cells hI hM' hr=>
  ⟨λhn=>hk I' X' [] _ cells hI hM' hr (by rw [hn];exact ⟨rfl,rfl⟩),λm2 b2 X2 hm hX2=>hk I' X' X2 _ cells hI hM' hr (by rw [hm];exact ⟨b2,rfl,hX2⟩)⟩)
theorem Pa (hM:MOk m N)(hN:N≤5000)(hY:R14 I br Y m)(hc:TCmdV I c cc)
  (hk:∀I' Y' Y2 pv cells,Ext I I'→R14 I' br Y' (Ap m c).2.1→TResV I' (Ap m c).1 cells→ANx I' pv Y2 (Ap m c).2.2→K (.tuple #[.agg cells.toArray,pv]) I' (Y'++(Y2++F))):
  CT ω 16 #[pt br,.agg cc.toArray] K I (Y++F):=by
 obtain ⟨V,hp,hF⟩:=hY;refine Cal.perm (L':=rL br V m F) (by rw [Hp];exact List.Perm.append_right F hp) (NO hF hM hN hc (λI' V' cells hI hF' hr=>⟨λhn=>?_,λm2 b2 V2 hm hF2=>?_⟩))
 ·have:=hk I' (rL br V' (Ap m c).2.1 []) [] (.pointer none) cells hI ⟨V',List.Perm.refl _,hF'⟩ hr (by rw [hn];exact ⟨rfl,rfl⟩);rw [Hp];exact this
 ·have:=hk I' (rL br V' (Ap m c).2.1 []) (rL b2 V2 m2 []) (pt b2) cells hI ⟨V',List.Perm.refl _,hF'⟩ hr (by rw [hm];exact ⟨b2,rfl,V2,List.Perm.refl _,hF2⟩);rw [Hp,Hp (br:=b2)];exact this
theorem Qf {p:TSpan}{pc:List Value}(hp:DO I p pc)(h0:CC p=false→K (.tuple #[.pointer none,.int .i64 1]) I L)
  (hk:CC p=true→∀b X,R14 I b X (GO p)→K (.tuple #[pt b,.int .i64 0]) I (X++L)):CT ω 15 #[.agg pc.toArray] K I L:=by
 have hp':=hp;obtain ⟨v0,v1,rfl,g0,g1⟩:=hp;obtain ⟨a0,c0,rfl⟩:=Bytes.form g0;obtain ⟨a1,c1,rfl⟩:=Bytes.form g1;refine ANm ?_;unfold AJk;refine AQ (λq=>?_);refine rdB rfl ?_;refine call (Ib (p:=p) hp' ?_);try refine O ?_
 refine AF (λe=>?_) (λe=>?_)
 ·exact Gh.to L (Gh.done (h0 (by simpa using e)))
 ·refine rdB rfl ?_;try refine O ?_
  refine AQ (λbs=>?_);try refine O ?_
  refine AQ (λbr=>?_);refine Gh.to ((br,Lr (.slice a0 p.fFrom.length c0) (.slice a1 p.fTo.length c1) bs (.slice none 0 0) mk0 (.slice none 0 0) (.slice none 0 0) 0)::(bs,BC (.slice none 0 0) (.slice none 0 0) ⟨0,0⟩)::L) (Gh.done ?_);exact hk (by simpa using e) br [_,_] ⟨⟨bs,.slice a0 p.fFrom.length c0,.slice a1 p.fTo.length c1,.slice none 0 0,.slice none 0 0,.slice none 0 0,[],[],.slice none 0 0,[],[],.slice none 0 0⟩,List.Perm.refl _,⟨g0,g1,SlO.none _ _,rfl,SlO.none _ _,rfl,RL.nil _ _,RL.nil _ _,RL.nil _ _⟩⟩
end
instance:Inhabited Mch:=⟨GO ⟨[],[]⟩⟩
end Go.Proofs.YtmmfcgbfbcamcaaGreatDoor
namespace Go.Proofs
open Go.Shelf
def Tryz.lay183_ren:Go.Shelf.Ren:=⟨λ|189=>183|125=>138|257=>233|128=>202|129=>203|294=>256|295=>257|296=>258|297=>259|298=>260|299=>261|216=>262|300=>263|301=>264|328=>273|329=>238|330=>239|331=>274|332=>275|215=>245|343=>280|n=>n,λ|28=>23|3=>3|46=>219|0=>0|51=>275|53=>196|4=>4|183=>269|182=>268|131=>221|5=>5|9=>9|218=>310|222=>314|228=>332|229=>333|n=>n,λ|n=>n⟩
theorem Tryz.lay183:Go.Proofs.Lays.n189 Tryz.prog Tryz.lay183_ren:={
 mixed:=by kernel_rfl
 f125:=Tryz.func138.trans (congrArg some (by kernel_rfl))
 f128:=Tryz.func202.trans (congrArg some (by kernel_rfl))
 f129:=Tryz.func203.trans (congrArg some (by kernel_rfl))
 f189:=Tryz.func183.trans (congrArg some (by kernel_rfl))
 f215:=Tryz.func245.trans (congrArg some (by kernel_rfl))
 f216:=Tryz.func262.trans (congrArg some (by kernel_rfl))
 f257:=Tryz.func233.trans (congrArg some (by kernel_rfl))
 f294:=Tryz.func256.trans (congrArg some (by kernel_rfl))
 f295:=Tryz.func257.trans (congrArg some (by kernel_rfl))
 f296:=Tryz.func258.trans (congrArg some (by kernel_rfl))
 f297:=Tryz.func259.trans (congrArg some (by kernel_rfl))
 f298:=Tryz.func260.trans (congrArg some (by kernel_rfl))
 f299:=Tryz.func261.trans (congrArg some (by kernel_rfl))
 f300:=Tryz.func263.trans (congrArg some (by kernel_rfl))
 f301:=Tryz.func264.trans (congrArg some (by kernel_rfl))
 f328:=Tryz.func273.trans (congrArg some (by kernel_rfl))
 f329:=Tryz.func238.trans (congrArg some (by kernel_rfl))
 f330:=Tryz.func239.trans (congrArg some (by kernel_rfl))
 f331:=Tryz.func274.trans (congrArg some (by kernel_rfl))
 f332:=Tryz.func275.trans (congrArg some (by kernel_rfl))
 f343:=Tryz.func280.trans (congrArg some (by kernel_rfl))
 t0:=Tryz.underlying0
 a0:=Tryz.isAgg0
 z0:=Tryz.sizeOf0
 v0:=Tryz.zeroValue0
 t3:=Tryz.underlying3
 a3:=Tryz.isAgg3
 z3:=Tryz.sizeOf3
 v3:=Tryz.zeroValue3
 t4:=Tryz.underlying4
 a4:=Tryz.isAgg4
 z4:=Tryz.sizeOf4
 v4:=Tryz.zeroValue4
 t5:=Tryz.underlying5
 a5:=Tryz.isAgg5
 z5:=Tryz.sizeOf5
 v5:=Tryz.zeroValue5
 t9:=Tryz.underlying9
 a9:=Tryz.isAgg9
 z9:=Tryz.sizeOf9
 v9:=Tryz.zeroValue9
 t28:=Tryz.underlying23
 a28:=Tryz.isAgg23
 z28:=Tryz.sizeOf23
 v28:=Tryz.zeroValue23
 t46:=Tryz.underlying219
 a46:=Tryz.isAgg219
 z46:=Tryz.sizeOf219
 v46:=Tryz.zeroValue219
 t51:=Tryz.underlying275
 a51:=Tryz.isAgg275
 z51:=Tryz.sizeOf275
 v51:=Tryz.zeroValue275
 t53:=Tryz.underlying196
 a53:=Tryz.isAgg196
 z53:=Tryz.sizeOf196
 v53:=Tryz.zeroValue196
 t131:=Tryz.underlying221
 a131:=Tryz.isAgg221
 z131:=Tryz.sizeOf221
 v131:=Tryz.zeroValue221
 t182:=Tryz.underlying268
 a182:=Tryz.isAgg268
 z182:=Tryz.sizeOf268
 v182:=Tryz.zeroValue268
 t183:=Tryz.underlying269
 a183:=Tryz.isAgg269
 z183:=Tryz.sizeOf269
 v183:=Tryz.zeroValue269
 t218:=Tryz.underlying310
 a218:=Tryz.isAgg310
 z218:=Tryz.sizeOf310
 v218:=Tryz.zeroValue310
 t222:=Tryz.underlying314
 a222:=Tryz.isAgg314
 z222:=Tryz.sizeOf314
 v222:=Tryz.zeroValue314
 t228:=Tryz.underlying332
 a228:=Tryz.isAgg332
 z228:=Tryz.sizeOf332
 v228:=Tryz.zeroValue332
 t229:=Tryz.underlying333
 a229:=Tryz.isAgg333
 z229:=Tryz.sizeOf333
 v229:=Tryz.zeroValue333}
end Go.Proofs
namespace Go.Proofs.YtmmfcgbfbcamcaaGreatDoor
open Go.SL
def mkE (q:List UInt8×TMk):List UInt8:=GM q.1++LQ q.2.fAt++CP [q.2.fBy]
def rcE (q:Int×TRc):List UInt8:=CP [q.1,q.2.fState]++LQ q.2.fAt
def snE (q:Int×TSn):List UInt8:=CP [q.1,q.2.fSeq,q.2.fCode]++LQ q.2.fAt
def Jn (m:Mch):List UInt8:=GM m.span.fFrom++GM m.span.fTo++CP [m.oldest]++LQ m.low.fAt++CP [m.low.fBy,(m.marks.length:Int)]
def Jm (m:Mch):List UInt8:=Jn m++m.marks.flatMap mkE++CP [(m.recs.length:Int)]
def Lm (m:Mch):List UInt8:=Jm m++m.recs.flatMap rcE++CP [(m.seen.length:Int)]
def GH (m:Mch):List UInt8:=Lm m++m.seen.flatMap snE
theorem DT {α:Type}{f:α→List UInt8}{c:Nat}:∀{l:List α},(∀x∈l,(f x).length≤c)→(l.flatMap f).length≤c * l.length
 |[],_=>by simp
 |x::l,h=>by
  have h1:=h x (List.mem_cons_self ..);have h2:=DT (f:=f) (c:=c) (l:=l) (λy hy=>h y (List.mem_cons_of_mem _ hy));simp only [List.flatMap_cons,List.length_append,List.length_cons,Nat.mul_add];omega
section
variable {m:Mch}{N:Nat}
theorem GB {n:Int}(h:Dj n=true):EQ n:=maxB_iff.1 h
theorem Pi (h:MOk m N):∀q∈m.marks,(mkE q).length≤200:=λq hq=>by
 obtain ⟨h1,h2⟩:=h.mark q hq;have h1:=Et h1;have:=Cp (b:=q.1) (by omega);have:=FZ h2.right;have:=Bx (l:=[q.2.fBy]) (by simp [GB h2.by']);simp only [mkE,List.length_append,List.length_cons,List.length_nil] at *; omega
theorem UC {n:Int}(h:BU n=true):EQ n:=Ce h
theorem Vj (h:MOk m N):∀q∈m.recs,(∀n∈[q.1,q.2.fState],EQ n)∧AN q.2.fAt=true:=λq hq=>by
 obtain ⟨h1,h2⟩:=h.rec' q hq;have h3:=h2.state;refine ⟨λn hn=>?_,h2.right⟩;simp only [List.mem_cons,List.not_mem_nil,or_false] at hn;rcases hn with rfl|rfl
 ·exact UC h1
 ·exact ⟨by omega,by omega⟩
theorem PZ (h:MOk m N):∀q∈m.recs,(rcE q).length≤200:=λq hq=>by
 obtain ⟨h1,h2⟩:=Vj h q hq;have:=FZ h2;have:=Bx h1;simp only [rcE,List.length_append,List.length_cons,List.length_nil] at *; omega
theorem UF (h:MOk m N):∀q∈m.seen,(∀n∈[q.1,q.2.fSeq,q.2.fCode],EQ n)∧AN q.2.fAt=true:=λq hq=>by
 obtain ⟨h1,h2⟩:=h.sn q hq;have h3:=h2.code;refine ⟨λn hn=>?_,h2.right⟩;simp only [List.mem_cons,List.not_mem_nil,or_false] at hn;rcases hn with rfl|rfl|rfl
 ·exact UC h1
 ·exact GB h2.seq
 ·rw [h3];exact CS
theorem UG (h:MOk m N):∀q∈m.seen,(snE q).length≤200:=λq hq=>by
 obtain ⟨h1,h2⟩:=UF h q hq;have:=FZ h2;have:=Bx h1;simp only [snE,List.length_append,List.length_cons,List.length_nil] at *; omega
theorem JN (h:MOk m N):(Jn m).length≤1000:=by
 have hs:=h.span;have hm:=h.marksL;simp only [CC,Bool.and_eq_true,decide_eq_true_eq] at hs;have:=Cp (b:=m.span.fFrom) (by omega);have:=Cp (b:=m.span.fTo) (by omega);have:=FZ h.low.right;have:=Bx (l:=[m.oldest]) (by simp [GB h.oldest]);have:=Bx (l:=[m.low.fBy,(m.marks.length:Int)]) (by simp [GB h.low.by'];exact ⟨by omega,by omega⟩);simp only [Jn,List.length_append,List.length_cons,List.length_nil] at *; omega
theorem Kz {n:Nat}(h:n≤1000):∀k∈[(n:Int)],EQ k:=λk hk=>by
 simp only [List.mem_singleton] at hk;subst hk;exact ⟨by omega,by omega⟩
theorem JM (h:MOk m N):(Jm m).length≤10000:=by
 have h0:=JN h;have hm:=h.marksL;have hr:=h.recsL;have h1:=DT (Pi h);have h2:=Bx (Kz (n:=m.recs.length) (by omega));simp only [Jm,List.length_append,List.length_cons,List.length_nil] at *; omega
theorem Nt (h:MOk m N):(Lm m).length≤30000:=by
 have h0:=JM h;have hm:=h.seenL;have hr:=h.recsL;have h1:=DT (PZ h);have h2:=Bx (Kz (n:=m.seen.length) (by omega));simp only [Lm,List.length_append,List.length_cons,List.length_nil] at *; omega
theorem XF (h:MOk m N):(GH m).length≤50000:=by
 have h0:=Nt h;have hm:=h.seenL;have h1:=DT (UG h);simp only [GH,List.length_append] at *; omega
end
section
variable {ω:Om}{I:Imm}{L:LH}{K:Value→M}
theorem AIe {T:Nat}{X F:LH}{v:Value}{zs:List Int}(hO:SlO T 1 X v (zs.map (Value.int .i64)) zs.length)(hl:zs.length≤1000000)
  (hk:∀(X':LH) (ys:List Int),ys.Perm zs→ys.Pairwise (λa b=>a≤b)→SlO T 1 X' v (ys.map (Value.int .i64)) ys.length→K (.tuple #[]) I (X'++F)):CT ω 183 #[v] K I (X++F):=Wn Go.Proofs.Tryz.lay183 hO (by omega) hk
theorem Ov {qm r c:Nat}{es:Array MapEntry}{l:AL Key TMk}(hm:MapS es c (BO mv l))(hs:SrtA blt l)(hl:l.length≤1000)(hat:MapAt I L r es c)
  (hk:∀X v,SlO 9 1 X v ((l.map (·.1)).map CJ) l.length→K v I (X++L)):
  CT ω 126 #[.func (.func 181) #[] #[pt qm]] K I ((qm,.cells #[.map (some r)] 157 (0,0))::L):=by
 refine AEs ?_;unfold VP;have hsz:=hm.sizeA hs;refine call (AIl hm (by simp [hsz];omega) hat (λX v vis hvp hO=>?_));have hO':SlO 9 1 X v ((vis.map Aw).map CJ) (vis.map Aw).length:=by simpa using hO
 have hpk:=(hvp.map Aw).trans (hm.keysA hs);have hvl:(vis.map Aw).length=l.length:=by rw [hpk.length_eq];simp
 refine call (AId _ _ _ _ _ _ _ _ hO' (by omega) (λX' ys hp hpw hO2=>?_));have hys:ys=l.map (·.1):=Kx bltO (hp.trans hpk) hpw (List.pairwise_map.2 hs);subst hys;rw [List.length_map] at hO2;exact Gh.done (hk X' v hO2)
theorem Ou {qm r c:Nat}{es:Array MapEntry}{l:AL Int TRc}(hm:MapSi es c (BO rcv l))(hs:SrtA ilt l)(hl:l.length≤1000)(hat:MapAt I L r es c)
  (hk:∀X v,SlO 3 1 X v ((l.map (·.1)).map (Value.int .i64)) l.length→K v I (X++L)):
  CT ω 128 #[.func (.func 184) #[] #[pt qm]] K I ((qm,.cells #[.map (some r)] 160 (0,0))::L):=by
 refine AEr ?_;unfold VO;have hsz:=hm.sizeA hs;refine call (AMo hm (by simp [hsz];omega) hat (λX v vis hvp hO=>?_));have hO':SlO 3 1 X v ((vis.map BN).map (Value.int .i64)) (vis.map BN).length:=by simpa using hO
 have hpk:=(hvp.map BN).trans (hm.keysA hs);have hvl:(vis.map BN).length=l.length:=by rw [hpk.length_eq];simp
 refine call (AIe hO' (by omega) (λX' ys hp hpw hO2=>?_));have hys:ys=l.map (·.1):=Kx HZ (hp.trans hpk) (hpw.imp λh=>by simp;omega) (List.pairwise_map.2 hs);subst hys;rw [List.length_map] at hO2;exact Gh.done (hk X' v hO2)
theorem Ot {qm r c:Nat}{es:Array MapEntry}{l:AL Int TSn}(hm:MapSi es c (BO snv l))(hs:SrtA ilt l)(hl:l.length≤1000)(hat:MapAt I L r es c)
  (hk:∀X v,SlO 3 1 X v ((l.map (·.1)).map (Value.int .i64)) l.length→K v I (X++L)):
  CT ω 128 #[.func (.func 185) #[] #[pt qm]] K I ((qm,.cells #[.map (some r)] 161 (0,0))::L):=by
 refine AEr ?_;unfold VO;have hsz:=hm.sizeA hs;refine call (AIk hm (by simp [hsz];omega) hat (λX v vis hvp hO=>?_));have hO':SlO 3 1 X v ((vis.map BN).map (Value.int .i64)) (vis.map BN).length:=by simpa using hO
 have hpk:=(hvp.map BN).trans (hm.keysA hs);have hvl:(vis.map BN).length=l.length:=by rw [hpk.length_eq];simp
 refine call (AIe hO' (by omega) (λX' ys hp hpw hO2=>?_));have hys:ys=l.map (·.1):=Kx HZ (hp.trans hpk) (hpw.imp λh=>by simp;omega) (List.pairwise_map.2 hs);subst hys;rw [List.length_map] at hO2;exact Gh.done (hk X' v hO2)
end
theorem AKA {I I0:Imm}{L X:LH}{K:Value→M}{r clock:Nat}{es:Array MapEntry}[hin:InL r X (.map es clock)](hk:K (.int .i64 es.size) I L):Rv (some (Stay I0 X)) (Gg (.map (some r))) K I L:=⟨_,λ_ _ hS=>⟨es,.inr ⟨r,clock,rfl,.inl (hS.2 _ hin.mem)⟩,rfl⟩,hk⟩
section
variable {ω:Om}{I:Imm}{L:LH}{K:Value→M}{b s N w:Nat}{VM:MV}{m:Mch}{R:LH}
theorem TB {X Y:LH}{v u v2:Value}{I0:Imm}(hF:MF I0 VM m)(hM:MOk m N)(hI:Ext I0 I)(hX:SlO 3 1 X u ((m.seen.map (·.1)).map (Value.int .i64)) m.seen.length)(hO:OB Y v (Lm m))
  (hk:∀I' u,Ext I I'→Bytes I' u (GH m)→K u I' (mL b s VM m R)):
  Ae ((.int .i64 0,()):Value×Unit) (λst Kn2=>Sd ω (pt b) v2 (pt w) u (.int .i64 m.seen.length) st.1 Kn2 (λv=>Gh (K v))) I (X++((w,wrO v)::(Y++mL b s VM m R))):=by
 have h2l:=Nt hM;have hsl:=hM.seenL;refine loop (λn (st:Value×Unit) I' L'=>Ext I I'∧∃(i:Nat) (Y:LH) (v:Value),n+i=m.seen.length∧st=(.int .i64 i,())∧L'=X++((w,wrO v)::(Y++mL b s VM m R))∧OB Y v (Lm m++(m.seen.take i).flatMap snE)) m.seen.length ⟨Ext.refl _,0,Y,v,rfl,rfl,rfl,by simpa using hO⟩ ?_;rintro n st I' L' ⟨hI',i,Y,v,hni,rfl,rfl,hO⟩;unfold Sd;try refine O ?_
 refine AF (λe=>?_) (λe=>?_)
 ·have hi:i < m.seen.length:=by simpa using e
  obtain ⟨bq,hix,hcq⟩:=hX.ix .i64 (i:=i) (by omega);have hcq1:=hcq I' (X++((w,wrO v)::(Y++mL b s VM m R))) (λx hx=>List.mem_append_left _ hx) 0 (.int .i64 m.seen[i].1) (by simp [hi]);have hq:lkA m.seen m.seen[i].1=some m.seen[i].2:=EV HZ hM.seen (List.getElem_mem hi);have hlq:BO snv m.seen m.seen[i].1=some (snv m.seen[i].2):=by unfold BO;rw [hq];rfl
  obtain ⟨hn1,hn2⟩:=UF hM m.seen[i] (List.getElem_mem hi);have hsn:=take_snoc hi;have hfl:=DT (f:=snE) (c:=200) (l:=m.seen.take i) (λx hx=>UG hM x (List.mem_of_mem_take hx));rw [List.length_take] at hfl;generalize m.seen[i]=x at *;simp only [hix,SSd,Nat.reduceAdd];refine rd1 (by simpa using hcq1) ?_;try refine O ?_
  refine rdb ?_;refine lkI hF.sns ?_;simp only [hlq,lkV,Bool.false_eq_true,if_false];refine AQ (λq=>?_);refine stB rfl rfl (AH rfl) ?_;try refine O ?_
  refine rdb ?_;try refine O ?_
  refine rdb ?_;refine ANr (λu3 I3 hI3 hU3=>?_);refine call (Cal.perm (L':=(w,wrO v)::(Y++((q,.cells #[.int .i64 x.2.fSeq,.int .i64 x.2.fCode,.int .i64 x.2.fAt.fWall,.int .i64 x.2.fAt.fLogic] 209 (0,0))::(X++mL b s VM m R)))) (AO (by ((try simp only [AJ,AM,AU,AP]);(try ac_rfl)))) (Ci hO hU3 hn1 (by simp only [List.length_append,List.length_cons,List.length_nil];omega) (λY4 v4 I4 hI4 hO4=>?_)));try refine O ?_
  refine rdP [.int .i64 x.2.fAt.fWall,.int .i64 x.2.fAt.fLogic] rfl rfl ?_;have hl4:=Bx hn1;refine call (FK hO4 hn2 (by simp only [List.length_append,List.length_cons,List.length_nil] at hl4 ⊢;omega) (λY5 v5 I5 hI5 hO5=>?_));try refine O ?_
  rw [wrap_i64 _ (by omega)];refine Gh.to (X++((w,wrO v5)::(Y5++mL b s VM m R))) (Gh.done ⟨n - 1,by omega,hI'.trans (hI3.trans (hI4.trans hI5)),i+1,Y5,v5,by omega,rfl,rfl,?_⟩);have e5:Lm m++(m.seen.take (i+1)).flatMap snE=Lm m++(m.seen.take i).flatMap snE++CP [x.1,x.2.fSeq,x.2.fCode]++LQ x.2.fAt:=by
   rw [hsn,List.flatMap_append];simp [snE]
  rw [e5];exact hO5
 ·have hi:i=m.seen.length:=by simp at e;omega
  rw [hi,List.take_length] at hO;unfold Yi;try refine O ?_
  refine rdb ?_;refine Gh.to (Y++mL b s VM m R) (OB.freeze hO (λI9 hI9 hB=>Gh.done ?_));exact hk I9 v (hI'.trans hI9) hB
theorem TC {X0 Y:LH}{v v2:Value}{I0:Imm}(hF:MF I0 VM m)(hM:MOk m N)(hI:Ext I0 I)(hO:OB Y v (Jm m++m.recs.flatMap rcE))
  (hk:∀I' u,Ext I I'→Bytes I' u (GH m)→K u I' (mL b s VM m R)):
  Se ω (pt b) v2 (pt w) (λv=>Gh (K v)) I (X0++((w,wrO v)::(Y++mL b s VM m R))):=by
 have h1l:=JM hM;have hsl:=hM.seenL;have hrl:=hM.recsL;have hfl:=DT (PZ hM);unfold Se;try refine O ?_
 refine rdb ?_;refine RG ?_;rw [hF.sns.sizeA hM.seen];refine Of (λu3 I3 hI3 hU3=>?_);refine call (Cal.to ((w,wrO v)::(Y++mL b s VM m R)) (Ci hO hU3 (Kz (by omega)) (by simp only [List.length_append,List.length_cons,List.length_nil];omega) (λY4 v4 I4 hI4 hO4=>?_)));try refine O ?_
 refine rdb ?_;refine call (AIh (λqm=>?_));refine call (Ot hF.sns hM.seen (by omega) (.inl (by simp)) (λX u hX=>?_));obtain ⟨ua,uc,rfl⟩:=hX.form;try refine O ?_
 exact TB hF hM (hI.trans (hI3.trans hI4)) hX hO4 (λI' u hI' hB=>hk I' u (hI3.trans (hI4.trans hI')) hB)
theorem TD {X Y:LH}{v u v2:Value}{I0:Imm}(hF:MF I0 VM m)(hM:MOk m N)(hI:Ext I0 I)(hX:SlO 3 1 X u ((m.recs.map (·.1)).map (Value.int .i64)) m.recs.length)(hO:OB Y v (Jm m))
  (hk:∀I' u,Ext I I'→Bytes I' u (GH m)→K u I' (mL b s VM m R)):
  Ae ((.int .i64 0,()):Value×Unit) (λst Kn2=>Sf ω (pt b) v2 (pt w) u (.int .i64 m.recs.length) st.1 Kn2 (λv=>Gh (K v))) I (X++((w,wrO v)::(Y++mL b s VM m R))):=by
 have h2l:=JM hM;have hsl:=hM.recsL;obtain ⟨ua,uc,hu⟩:=hX.form;refine loop (λn (st:Value×Unit) I' L'=>Ext I I'∧∃(i:Nat) (Y:LH) (v:Value),n+i=m.recs.length∧st=(.int .i64 i,())∧L'=X++((w,wrO v)::(Y++mL b s VM m R))∧OB Y v (Jm m++(m.recs.take i).flatMap rcE)) m.recs.length ⟨Ext.refl _,0,Y,v,rfl,rfl,rfl,by simpa using hO⟩ ?_;rintro n st I' L' ⟨hI',i,Y,v,hni,rfl,rfl,hO⟩;unfold Sf;try refine O ?_
 refine AF (λe=>?_) (λe=>?_)
 ·have hi:i < m.recs.length:=by simpa using e
  obtain ⟨bq,hix,hcq⟩:=hX.ix .i64 (i:=i) (by omega);have hcq1:=hcq I' (X++((w,wrO v)::(Y++mL b s VM m R))) (λx hx=>List.mem_append_left _ hx) 0 (.int .i64 m.recs[i].1) (by simp [hi]);have hq:lkA m.recs m.recs[i].1=some m.recs[i].2:=EV HZ hM.recs (List.getElem_mem hi);have hlq:BO rcv m.recs m.recs[i].1=some (rcv m.recs[i].2):=by unfold BO;rw [hq];rfl
  obtain ⟨hn1,hn2⟩:=Vj hM m.recs[i] (List.getElem_mem hi);have hsn:=take_snoc hi;have hfl:=DT (f:=rcE) (c:=200) (l:=m.recs.take i) (λx hx=>PZ hM x (List.mem_of_mem_take hx));rw [List.length_take] at hfl;generalize m.recs[i]=x at *;simp only [hix,SSd,Nat.reduceAdd];refine rd1 (by simpa using hcq1) ?_;try refine O ?_
  refine rdb ?_;refine lkI hF.rcs ?_;simp only [hlq,lkV,Bool.false_eq_true,if_false];refine AQ (λq=>?_);refine stB rfl rfl (AH rfl) ?_;try refine O ?_
  refine rdb ?_;refine AFi (λu3 I3 hI3 hU3=>?_);refine call (Cal.perm (L':=(w,wrO v)::(Y++((q,.cells #[.int .i64 x.2.fState,.int .i64 x.2.fAt.fWall,.int .i64 x.2.fAt.fLogic] 194 (0,0))::(X++mL b s VM m R)))) (AO (by ((try simp only [AJ,AM,AU,AP]);(try ac_rfl)))) (Ci hO hU3 hn1 (by simp only [List.length_append,List.length_cons,List.length_nil];omega) (λY4 v4 I4 hI4 hO4=>?_)));try refine O ?_
  refine rdP [.int .i64 x.2.fAt.fWall,.int .i64 x.2.fAt.fLogic] rfl rfl ?_;have hl4:=Bx hn1;refine call (FK hO4 hn2 (by simp only [List.length_append,List.length_cons,List.length_nil] at hl4 ⊢;omega) (λY5 v5 I5 hI5 hO5=>?_));try refine O ?_
  rw [wrap_i64 _ (by omega)];refine Gh.to (X++((w,wrO v5)::(Y5++mL b s VM m R))) (Gh.done ⟨n - 1,by omega,hI'.trans (hI3.trans (hI4.trans hI5)),i+1,Y5,v5,by omega,rfl,rfl,?_⟩);have e5:Jm m++(m.recs.take (i+1)).flatMap rcE=Jm m++(m.recs.take i).flatMap rcE++CP [x.1,x.2.fState]++LQ x.2.fAt:=by
   rw [hsn,List.flatMap_append];simp [rcE]
  rw [e5];exact hO5
 ·have hi:i=m.recs.length:=by simp at e;omega
  rw [hi,List.take_length] at hO;exact TC hF hM (hI.trans hI') hO (λI9 u9 hI9 hB=>hk I9 u9 (hI'.trans hI9) hB)
theorem TE {X0 Y:LH}{v v2:Value}{I0:Imm}(hF:MF I0 VM m)(hM:MOk m N)(hI:Ext I0 I)(hO:OB Y v (Jn m++m.marks.flatMap mkE))
  (hk:∀I' u,Ext I I'→Bytes I' u (GH m)→K u I' (mL b s VM m R)):
  Sg ω (pt b) v2 (pt w) (λv=>Gh (K v)) I (X0++((w,wrO v)::(Y++mL b s VM m R))):=by
 have h1l:=JN hM;have hsl:=hM.marksL;have hrl:=hM.recsL;have hfl:=DT (Pi hM);unfold Sg;try refine O ?_
 refine rdb ?_;refine RG ?_;rw [hF.rcs.sizeA hM.recs];refine Of (λu3 I3 hI3 hU3=>?_);refine call (Cal.to ((w,wrO v)::(Y++mL b s VM m R)) (Ci hO hU3 (Kz (by omega)) (by simp only [List.length_append,List.length_cons,List.length_nil];omega) (λY4 v4 I4 hI4 hO4=>?_)));try refine O ?_
 refine rdb ?_;refine call (AMk (λqm=>?_));refine call (Ou hF.rcs hM.recs (by omega) (.inl (by simp)) (λX u hX=>?_));obtain ⟨ua,uc,rfl⟩:=hX.form;try refine O ?_
 exact TD hF hM (hI.trans (hI3.trans hI4)) hX hO4 (λI' u hI' hB=>hk I' u (hI3.trans (hI4.trans hI')) hB)
theorem XE (hF:MF I VM m)(hM:MOk m N)(hk:∀I' u,Ext I I'→Bytes I' u (GH m)→K u I' (mL b s VM m R)):
  CT ω 79 #[pt b] K I (mL b s VM m R):=by
 have h1l:=JN hM;have hsl:=hM.marksL;have hs:=hM.span;simp only [CC,Bool.and_eq_true,decide_eq_true_eq] at hs;refine ANJ ?_;unfold AJU;try refine O ?_
 refine AQ (λw=>?_);try refine O ?_
 refine rdP [VM.v0,VM.v1] rfl rfl ?_;refine call (Cal.perm (L':=(w,wrO (.slice none 0 0))::([]++mL b s VM m R)) (List.Perm.refl _) (ST (Y:=[]) (l:=[]) (p:=m.span) (SlO.none _ 1) ⟨_,_,rfl,hF.f0,hF.f1⟩ (by simp) (by omega) (by omega) (λY1 v1 I1 hI1 hO1=>?_)));rw [List.nil_append] at hO1;have t1:=Cp (b:=m.span.fFrom) (by omega);have t2:=Cp (b:=m.span.fTo) (by omega);try refine O ?_
 refine rdb ?_;refine Of (λu2 I2 hI2 hU2=>?_);have n2:∀n∈[m.oldest],EQ n:=by simp [GB hM.oldest]
 refine call (Ci hO1 hU2 n2 (by simp only [List.length_append,List.length_cons,List.length_nil];omega) (λY3 v3 I3 hI3 hO3=>?_));have t3:=Bx n2;try refine O ?_
 refine rdP [.int .i64 m.low.fAt.fWall,.int .i64 m.low.fAt.fLogic] rfl rfl ?_;refine call (FK hO3 hM.low.right (by simp only [List.length_append,List.length_cons,List.length_nil] at t3 ⊢;omega) (λY4 v4 I4 hI4 hO4=>?_));have t4:=FZ hM.low.right;refine AZ ?_;try refine O ?_
 refine Ab ?_;try refine O ?_
 refine Ab ?_;refine AKA ?_;rw [hF.mks.sizeA hM.marks];refine AFi (λu5 I5 hI5 hU5=>?_);have n5:∀n∈[m.low.fBy,(m.marks.length:Int)],EQ n:=by simp [GB hM.low.by'];exact ⟨by omega,by omega⟩
 refine call (Ci hO4 hU5 n5 (by simp only [List.length_append,List.length_cons,List.length_nil] at t3 ⊢;omega) (λY6 v6 I6 hI6 hO6=>?_));have t16:=hI1.trans (hI2.trans (hI3.trans (hI4.trans (hI5.trans hI6))));try refine O ?_
 refine rdb ?_;refine call (AIi (λqm=>?_));refine call (Ov hF.mks hM.marks (by omega) (.inl (by simp)) (λX u hX=>?_));obtain ⟨ua,uc,rfl⟩:=hX.form;try refine O ?_
 have hO0:OB Y6 v6 (Jn m):=hO6;clear hO6 hO4 hO3 hO1;refine loop (λn (st:Value×Unit) I' L'=>Ext I I'∧∃(i:Nat) (Y:LH) (v:Value),n+i=m.marks.length∧st=(.int .i64 i,())∧L'=X++((w,wrO v)::(Y++mL b s VM m R))∧OB Y v (Jn m++(m.marks.take i).flatMap mkE)) m.marks.length ⟨t16,0,Y6,v6,rfl,rfl,rfl,by simpa using hO0⟩ ?_;rintro n st I' L' ⟨hI',i,Y,v,hni,rfl,rfl,hO⟩;unfold Yj;try refine O ?_
 refine AF (λe=>?_) (λe=>?_)
 ·have hi:i < m.marks.length:=by simpa using e
  obtain ⟨bq,hix,hcq⟩:=hX.ix .i64 (i:=i) (by omega);have hcq1:=hcq I' (X++((w,wrO v)::(Y++mL b s VM m R))) (λx hx=>List.mem_append_left _ hx) 0 (CJ m.marks[i].1) (by simp [hi]);have hq:lkA m.marks m.marks[i].1=some m.marks[i].2:=EV bltO hM.marks (List.getElem_mem hi);have hlq:BO mv m.marks m.marks[i].1=some (mv m.marks[i].2):=by unfold BO;rw [hq];rfl
  obtain ⟨hk1,hk2⟩:=hM.mark m.marks[i] (List.getElem_mem hi);have hk1:=Et hk1;have hsn:=take_snoc hi;have hfl:=DT (f:=mkE) (c:=200) (l:=m.marks.take i) (λx hx=>Pi hM x (List.mem_of_mem_take hx));rw [List.length_take] at hfl;generalize m.marks[i]=x at *;have nx:∀n∈[x.2.fBy],EQ n:=by simp [GB hk2.by']
  have tx:=Cp (b:=x.1) (by omega);have ts:=FZ hk2.right;simp only [hix,SSd,Nat.reduceAdd];refine rd1 (by simpa using hcq1) ?_;try refine O ?_
  refine rdb ?_;refine lkT hF.mks ?_;simp only [hlq,lkV,Bool.false_eq_true,if_false];refine AQ (λq=>?_);refine stB rfl rfl (AH rfl) ?_;refine Th (λvk J1 j1 hB1=>Gh.done ?_);refine call (Cal.perm (L':=(w,wrO v)::(Y++((q,.cells #[.int .i64 x.2.fAt.fWall,.int .i64 x.2.fAt.fLogic,.int .i64 x.2.fBy] 159 (0,0))::(X++mL b s VM m R)))) (AO (by ((try simp only [AJ,AM,AU,AP]);(try ac_rfl)))) (Dv hO hB1 (by simp only [List.length_append];omega) (by omega) (λY7 v7 J2 j2 hO7=>?_)));try refine O ?_
  refine rdP [.int .i64 x.2.fAt.fWall,.int .i64 x.2.fAt.fLogic] rfl rfl ?_;refine call (FK hO7 hk2.right (by simp only [List.length_append];omega) (λY8 v8 J3 j3 hO8=>?_));try refine O ?_
  refine rdb ?_;refine Of (λu9 J4 j4 hU9=>?_);refine call (Ci hO8 hU9 nx (by simp only [List.length_append,List.length_cons,List.length_nil];omega) (λY10 v10 J5 j5 hO10=>?_));try refine O ?_
  rw [wrap_i64 _ (by omega)];refine Gh.to (X++((w,wrO v10)::(Y10++mL b s VM m R))) (Gh.done ⟨n - 1,by omega,hI'.trans (j1.trans (j2.trans (j3.trans (j4.trans j5)))),i+1,Y10,v10,by omega,rfl,rfl,?_⟩);have e5:Jn m++(m.marks.take (i+1)).flatMap mkE=Jn m++(m.marks.take i).flatMap mkE++GM x.1++LQ x.2.fAt++CP [x.2.fBy]:=by
   rw [hsn,List.flatMap_append];simp [mkE]
  rw [e5];exact hO10
 ·have hi:i=m.marks.length:=by simp at e;omega
  rw [hi,List.take_length] at hO;exact TE hF hM hI' hO (λI9 u9 hI9 hB=>hk I9 u9 (hI'.trans hI9) hB)
end
end Go.Proofs.YtmmfcgbfbcamcaaGreatDoor
namespace Go.Proofs
open Go.Shelf
def Tryz.lay31_ren:Go.Shelf.Ren:=⟨λ|6=>83|15=>138|14=>137|28=>202|29=>203|20=>194|21=>195|22=>196|23=>197|24=>198|25=>199|26=>200|27=>201|46=>237|47=>238|48=>239|49=>240|50=>241|57=>266|n=>n,λ|22=>90|24=>167|25=>170|3=>3|39=>219|0=>0|53=>275|55=>196|4=>4|46=>269|45=>268|50=>221|5=>5|9=>9|66=>310|70=>314|76=>332|77=>333|n=>n,λ|n=>n⟩
theorem Tryz.lay31:Go.Proofs.SlLaysF0.n6 Tryz.prog Tryz.lay31_ren:={
 mixed:=by kernel_rfl
 f6:=⟨Tryz.f83.name,by decide,Tryz.func83.trans (congrArg some (by kernel_rfl))⟩
 f14:=⟨Tryz.f137.name,by decide,Tryz.func137.trans (congrArg some (by kernel_rfl))⟩
 f15:=Tryz.func138.trans (congrArg some (by kernel_rfl))
 f20:=⟨Tryz.f194.name,by decide,Tryz.func194.trans (congrArg some (by kernel_rfl))⟩
 f21:=⟨Tryz.f195.name,by decide,Tryz.func195.trans (congrArg some (by kernel_rfl))⟩
 f22:=⟨Tryz.f196.name,by decide,Tryz.func196.trans (congrArg some (by kernel_rfl))⟩
 f23:=⟨Tryz.f197.name,by decide,Tryz.func197.trans (congrArg some (by kernel_rfl))⟩
 f24:=⟨Tryz.f198.name,by decide,Tryz.func198.trans (congrArg some (by kernel_rfl))⟩
 f25:=⟨Tryz.f199.name,by decide,Tryz.func199.trans (congrArg some (by kernel_rfl))⟩
 f26:=⟨Tryz.f200.name,by decide,Tryz.func200.trans (congrArg some (by kernel_rfl))⟩
 f27:=⟨Tryz.f201.name,by decide,Tryz.func201.trans (congrArg some (by kernel_rfl))⟩
 f28:=Tryz.func202.trans (congrArg some (by kernel_rfl))
 f29:=Tryz.func203.trans (congrArg some (by kernel_rfl))
 f46:=⟨Tryz.f237.name,by decide,Tryz.func237.trans (congrArg some (by kernel_rfl))⟩
 f47:=Tryz.func238.trans (congrArg some (by kernel_rfl))
 f48:=Tryz.func239.trans (congrArg some (by kernel_rfl))
 f49:=⟨Tryz.f240.name,by decide,Tryz.func240.trans (congrArg some (by kernel_rfl))⟩
 f50:=⟨Tryz.f241.name,by decide,Tryz.func241.trans (congrArg some (by kernel_rfl))⟩
 f57:=⟨Tryz.f266.name,by decide,Tryz.func266.trans (congrArg some (by kernel_rfl))⟩
 t0:=Tryz.underlying0
 a0:=Tryz.isAgg0
 z0:=Tryz.sizeOf0
 v0:=Tryz.zeroValue0
 t3:=Tryz.underlying3
 a3:=Tryz.isAgg3
 z3:=Tryz.sizeOf3
 v3:=Tryz.zeroValue3
 t4:=Tryz.underlying4
 a4:=Tryz.isAgg4
 z4:=Tryz.sizeOf4
 v4:=Tryz.zeroValue4
 t5:=Tryz.underlying5
 a5:=Tryz.isAgg5
 z5:=Tryz.sizeOf5
 v5:=Tryz.zeroValue5
 t9:=Tryz.underlying9
 a9:=Tryz.isAgg9
 z9:=Tryz.sizeOf9
 v9:=Tryz.zeroValue9
 t22:=Tryz.underlying90
 a22:=Tryz.isAgg90
 z22:=Tryz.sizeOf90
 v22:=Tryz.zeroValue90
 t25:=Tryz.underlying170
 a25:=Tryz.isAgg170
 z25:=Tryz.sizeOf170
 v25:=Tryz.zeroValue170
 t39:=Tryz.underlying219
 a39:=Tryz.isAgg219
 z39:=Tryz.sizeOf219
 v39:=Tryz.zeroValue219
 t45:=Tryz.underlying268
 a45:=Tryz.isAgg268
 z45:=Tryz.sizeOf268
 v45:=Tryz.zeroValue268
 t46:=Tryz.underlying269
 a46:=Tryz.isAgg269
 z46:=Tryz.sizeOf269
 v46:=Tryz.zeroValue269
 t50:=Tryz.underlying221
 a50:=Tryz.isAgg221
 z50:=Tryz.sizeOf221
 v50:=Tryz.zeroValue221
 t53:=Tryz.underlying275
 a53:=Tryz.isAgg275
 z53:=Tryz.sizeOf275
 v53:=Tryz.zeroValue275
 t55:=Tryz.underlying196
 a55:=Tryz.isAgg196
 z55:=Tryz.sizeOf196
 v55:=Tryz.zeroValue196
 t66:=Tryz.underlying310
 a66:=Tryz.isAgg310
 z66:=Tryz.sizeOf310
 v66:=Tryz.zeroValue310
 t70:=Tryz.underlying314
 a70:=Tryz.isAgg314
 z70:=Tryz.sizeOf314
 v70:=Tryz.zeroValue314
 t76:=Tryz.underlying332
 a76:=Tryz.isAgg332
 z76:=Tryz.sizeOf332
 v76:=Tryz.zeroValue332
 t77:=Tryz.underlying333
 a77:=Tryz.isAgg333
 z77:=Tryz.sizeOf333
 v77:=Tryz.zeroValue333}
def Tryz.lay33_ren:Go.Shelf.Ren:=⟨λ|106=>136|213=>193|265=>236|n=>n,λ|9=>9|3=>3|n=>n,λ|n=>n⟩
theorem Tryz.lay33:Go.Proofs.Lays.n106 Tryz.prog Tryz.lay33_ren:={
 mixed:=by kernel_rfl
 f106:=Tryz.func136.trans (congrArg some (by kernel_rfl))
 f213:=Tryz.func193.trans (congrArg some (by kernel_rfl))
 f265:=Tryz.func236.trans (congrArg some (by kernel_rfl))
 t3:=Tryz.underlying3
 a3:=Tryz.isAgg3
 z3:=Tryz.sizeOf3
 v3:=Tryz.zeroValue3
 t9:=Tryz.underlying9
 a9:=Tryz.isAgg9
 z9:=Tryz.sizeOf9
 v9:=Tryz.zeroValue9}
end Go.Proofs
namespace Go.Proofs.YtmmfcgbfbcamcaaGreatDoor
open Go.SL
section
variable {ω:Om}{I:Imm}{L:LH}{K:Value→M}
theorem AMZ {rows:List Row}{n:Nat}(h:Ac rows≤n):∀r∈rows,r.vs.length≤n:=λr hr=>by
 have h1:Ac [r]≤Ac rows:=FX (List.singleton_sublist.2 hr);simp [Ac] at h1 h ⊢;omega
end
theorem MM {A B:List Row}{r:Row}{k q:List UInt8}(hm:Mid A k B)(hk:r.key=k):Ba (A++r::B) q=if q=k then r.it else Ba (A++B) q:=by
 by_cases h:q=k
 ·subst h;rw [if_pos rfl,MN hm hk]
 ·rw [if_neg h];unfold Ba rowOf;rw [List.find?_append,List.find?_append,List.find?_cons_of_neg (by simp [hk];exact λe=>h e.symm)]
def SN (l:List TKV):Prop:=l.Pairwise λa b=>blt a.fKey b.fKey=true
def LO:List UInt8→Option (List UInt8×List UInt8)
 |[]=>none
 |c::r=>if c=0 then (match r with
  |[]=>none
  |d::r'=>if d=1 then some ([],r') else if d=255 then (LO r').map λp=>(0::p.1,p.2) else none) else (LO r).map λp=>(c::p.1,p.2)
theorem LN:∀(k r:List UInt8),LO (ktF k++r)=some (k,r)
 |[],r=>by simp [ktF,esc,LO]
 |c::k,r=>by
  have ih:=LN k r;have e:ktF (c::k)++r=(if c=0 then [0,255] else [c])++(ktF k++r):=by simp [ktF,esc]
  rw [e];by_cases h:c=0
  ·subst h;simp [LO,ih]
  ·rw [if_neg h];show LO (c::(ktF k++r))=_;unfold LO;rw [if_neg h,ih];rfl
theorem AIE {k k' a a':List UInt8}(h:ktF k++a=ktF k'++a'):k=k'∧a=a':=by
 have h1:=LN k a;rw [h,LN] at h1;simp only [Option.some.injEq,Prod.mk.injEq] at h1;exact ⟨h1.1.symm,h1.2.symm⟩
def unB (l:List UInt8):Int:=l.foldl (λn b=>n * 256+(b.toNat:Int)) 0
def AMa (l:List UInt8):TStamp:=⟨unB (l.take 7),unB (l.drop 7)⟩
theorem Mr (n:Int):((byteOf n).toNat:Int)=n % 256:=by
 unfold byteOf;have h1:=Int.emod_nonneg n (show (256:Int)≠0 by decide);have h2:=Int.emod_lt_of_pos n (show (0:Int) < 256 by decide);simp only [UInt8.toNat_ofNat'];omega
theorem Ol {s:TStamp}(h:AN s=true):AMa (stF s)=s:=by
 obtain ⟨⟨h1,h2⟩,h3,h4⟩:=CM h;obtain ⟨w,g⟩:=s;simp only at h1 h2 h3 h4
 have e1:unB (Hb w 7)=w:=by
  have e:Hb w 7=[wb w 48,wb w 40,wb w 32,wb w 24,wb w 16,wb w 8,wb w 0]:=rfl;rw [e];simp only [unB,List.foldl_cons,List.foldl_nil,wb,Mr];simp only [Int.fdiv_eq_ediv_of_nonneg _ (show (0:Int)≤2 ^ 48 by decide),Int.fdiv_eq_ediv_of_nonneg _ (show (0:Int)≤2 ^ 40 by decide),Int.fdiv_eq_ediv_of_nonneg _ (show (0:Int)≤2 ^ 32 by decide),Int.fdiv_eq_ediv_of_nonneg _ (show (0:Int)≤2 ^ 24 by decide),Int.fdiv_eq_ediv_of_nonneg _ (show (0:Int)≤2 ^ 16 by decide),Int.fdiv_eq_ediv_of_nonneg _ (show (0:Int)≤2 ^ 8 by decide),Int.fdiv_eq_ediv_of_nonneg _ (show (0:Int)≤2 ^ 0 by decide)];omega
 have e2:unB [wb g 8,byteOf g]=g:=by
  simp only [unB,List.foldl_cons,List.foldl_nil,wb,Mr];simp only [Int.fdiv_eq_ediv_of_nonneg _ (show (0:Int)≤2 ^ 8 by decide)];omega
 have e3:(Hb w 7).length=7:=rfl;unfold AMa stF;rw [List.take_left' e3,List.drop_left' e3,e1,e2]
theorem AGL {a b:TStamp}(ha:AN a=true)(hb:AN b=true)(h:stF a=stF b):a=b:=by rw [←Ol ha,←Ol hb,h]
theorem AGK (a:TStamp):(stF a).length=9:=rfl
theorem YT {k k':List UInt8}{v v':TVer}(ha:AN v.fAt=true)(hb:AN v'.fAt=true)(h:CH k v=CH k' v'):k=k'∧v.fAt=v'.fAt:=by
 unfold CH at h;obtain ⟨h1,h2⟩:=AIE (List.cons.inj h).2;exact ⟨h1,AGL ha hb h2⟩
def Du (sp:Sp)(q t:List UInt8):Prop:=(q=[102]∧sp.floor≠z0∧t=stF sp.floor)∨(∃k,q=105::k∧CX (Ba sp.rows k)=(false,t))∨(∃k v,q=CH k v∧v∈Cn sp.rows k∧t=Bi v)
def SP (q:List UInt8):Prop:=1≤q.length∧q.length≤250
def Cur (sp:Sp)(nt:Nts)(q:List UInt8):Prop:=SP q∧((nt q=some (true,[])∧∀t,¬Du sp q t)∨∃t,nt q=some (false,t)∧Du sp q t)
def AJE (sp:Sp)(nt:Nts)(sp':Sp)(nt':Nts):Prop:=∀q,(nt' q=nt q∧∀t,Du sp' q t↔Du sp q t)∨Cur sp' nt' q
def Noted (base:List UInt8→List UInt8→Prop)(sp:Sp)(nt:Nts):Prop:=∀q,Cur sp nt q∨(nt q=none∧∀t,Du sp q t↔base q t)
theorem Noted.step {base:List UInt8→List UInt8→Prop}{sp sp':Sp}{nt nt':Nts}(h:Noted base sp nt)(hs:AJE sp nt sp' nt'):Noted base sp' nt':=by
 intro q;rcases hs q with ⟨h1,h2⟩|h1
 ·rcases h q with ⟨h3,h4⟩|⟨h3,h4⟩
  ·refine .inl ⟨h3,?_⟩;rcases h4 with ⟨h4,h5⟩|⟨t,h4,h5⟩
   ·exact .inl ⟨by rw [h1,h4],λt ht=>h5 t ((h2 t).1 ht)⟩
   ·exact .inr ⟨t,by rw [h1,h4],(h2 t).2 h5⟩
  ·exact .inr ⟨by rw [h1,h3],λt=>(h2 t).trans (h4 t)⟩
 ·exact .inl h1
theorem ADp {k:List UInt8}(h:Aj k=true):SP (105::k):=by
 have:=Et h;simp only [SP,List.length_cons];omega
theorem Vq {k:List UInt8}(h:Aj k=true)(v:TVer):SP (CH k v):=by
 have h1:=Et h;have h2:=HR k;have h3:=List.count_le_length (a:=(0:UInt8)) (l:=k);simp only [SP,CH,ktF,List.length_cons,List.length_append,AGK,List.length_nil];omega
theorem Gx (nt:Nts)(k:List UInt8)(x:Bool×List UInt8):Cj nt k x k=some x:=by simp [Cj]
theorem Gy (nt:Nts){k q:List UInt8}(x:Bool×List UInt8)(h:q≠k):Cj nt k x q=nt q:=by simp [Cj,h]
theorem AJr {vs:List TVer}(h:vs.Pairwise λa b=>bhd b.fAt a.fAt=true){v w:TVer}(hv:v∈vs)(hw:w∈vs)(e:v.fAt=w.fAt):v=w:=by
 induction vs with
 |nil=>cases hv
 |cons x vs ih=>
  obtain ⟨h1,h2⟩:=List.pairwise_cons.1 h;rcases List.mem_cons.1 hv with e1|hv2
  ·rcases List.mem_cons.1 hw with e2|hw2
   ·rw [e1,e2]
   ·have:=h1 w hw2;rw [←e1,e,WK] at this;cases this
  ·rcases List.mem_cons.1 hw with e2|hw2
   ·have:=h1 v hv2;rw [←e2,e,WK] at this;cases this
   ·exact ih h2 hv2 hw2
theorem Xi {sp:Sp}(hok:SpOk sp){q t t':List UInt8}(h:Du sp q t)(h':Du sp q t'):t=t':=by
 rcases h with ⟨h1,_,h2⟩|⟨k,h1,h2⟩|⟨k,v,h1,h2,h3⟩
 ·rcases h' with ⟨_,_,g2⟩|⟨k',g1,_⟩|⟨k',v',g1,_⟩
  ·rw [h2,g2]
  ·rw [h1] at g1;simp at g1
  ·rw [h1] at g1;simp [CH] at g1
 ·rcases h' with ⟨g1,_⟩|⟨k',g1,g2⟩|⟨k',v',g1,_⟩
  ·rw [h1] at g1;simp at g1
  ·rw [h1] at g1;have:k=k':=by simpa using g1
   subst this;rw [h2] at g2;simpa using g2
  ·rw [h1] at g1;simp [CH] at g1
 ·rcases h' with ⟨g1,_⟩|⟨k',g1,_⟩|⟨k',v',g1,g2,g3⟩
  ·rw [h1] at g1;simp [CH] at g1
  ·rw [h1] at g1;simp [CH] at g1
  ·rw [h1] at g1;obtain ⟨e1,e2⟩:=YT (((Gv hok k).2 v h2).right) (((Gv hok k').2 v' g2).right) g1;subst e1;rw [h3,g3,AJr (Gv hok k).1 h2 g2 e2]
structure TookOk (nt:Nts)(ops:List TOp):Prop where
 mem:∀y∈ops,nt y.fKey=some (y.fDel,y.fValue)
 all:∀q d t,nt q=some (d,t)→(⟨d,q,t⟩:TOp)∈ops
 rise:ops.Pairwise λa b=>blt a.fKey b.fKey=true
theorem On:∀(l:List UInt8) (n:Int),l.foldl (λn b=>n * 256+(b.toNat:Int)) n=n * 256 ^ l.length+unB l
 |[],n=>by simp [unB]
 |c::l,n=>by
  have e:unB (c::l)=(c.toNat:Int) * 256 ^ l.length+unB l:=by
   show l.foldl (λn b=>n * 256+(b.toNat:Int)) (0 * 256+(c.toNat:Int))=_;rw [On l];simp
  rw [List.foldl_cons,On l,e,List.length_cons,Int.pow_succ,Int.add_mul,Int.mul_assoc,Int.mul_comm 256,←Int.add_assoc]
theorem LK (c:UInt8)(l:List UInt8):unB (c::l)=(c.toNat:Int) * 256 ^ l.length+unB l:=by
 show l.foldl (λn b=>n * 256+(b.toNat:Int)) (0 * 256+(c.toNat:Int))=_;rw [On l];simp
theorem SZ (l l':List UInt8):unB (l++l')=unB l * 256 ^ l'.length+unB l':=by
 unfold unB;rw [List.foldl_append,On];rfl
theorem JG:∀l:List UInt8,0≤unB l∧unB l < 256 ^ l.length
 |[]=>by simp [unB]
 |c::l=>by
  obtain ⟨h1,h2⟩:=JG l;rw [LK,List.length_cons,Int.pow_succ];have hc:(c.toNat:Int)≤255:=by have:=c.toNat_lt;omega
  have hp:(0:Int)≤256 ^ l.length:=by omega
  have h3:=Int.mul_le_mul_of_nonneg_right hc hp;have h4:=Int.mul_nonneg (Int.natCast_nonneg c.toNat) hp;omega
theorem WH:∀{l l':List UInt8},l.length=l'.length→unB l < unB l'→blt l l'=true
 |[],[],_,h=>by simp at h
 |[],_::_,h,_=>by simp at h
 |_::_,[],h,_=>by simp at h
 |c::l,d::l',hl,h=>by
  have hl':l.length=l'.length:=by simpa using hl
  rw [LK,LK,hl'] at h;obtain ⟨a1,a2⟩:=JG l;obtain ⟨b1,b2⟩:=JG l';have hp:(0:Int)≤256 ^ l'.length:=by omega
  simp only [Op.bytesLess,Bool.or_eq_true,Bool.and_eq_true,decide_eq_true_eq,beq_iff_eq,UInt8.lt_iff_toNat_lt];rcases Nat.lt_trichotomy c.toNat d.toNat with e|e|e
  ·exact .inl e
  ·refine .inr ⟨UInt8.toNat_inj.1 e,WH hl' ?_⟩;rw [e] at h;omega
  ·have h3:=Int.mul_le_mul_of_nonneg_right (show (d.toNat:Int)+1≤c.toNat by omega) hp;rw [Int.add_mul] at h3;omega
theorem YX {s:TStamp}(h:AN s=true):unB (stF s)=s.fWall * 65536+s.fLogic:=by
 have e:=Ol h;have e1:unB ((stF s).take 7)=s.fWall:=congrArg TStamp.fWall e;have e2:unB ((stF s).drop 7)=s.fLogic:=congrArg TStamp.fLogic e;conv=>lhs;rw [←List.take_append_drop 7 (stF s)]
 rw [SZ,e1,e2];rfl
theorem AGJ {a b:TStamp}(ha:AN a=true)(hb:AN b=true)(h:bhd b a=true):blt (stF a) (stF b)=true:=by
 refine WH rfl ?_;rw [YX ha,YX hb];obtain ⟨_,h3,h4⟩:=CM ha;obtain ⟨_,g3,g4⟩:=CM hb;simp [bhd] at h;omega
theorem Rj:∀(p a b:List UInt8),blt (p++a) (p++b)=blt a b
 |[],a,b=>rfl
 |c::p,a,b=>by
  show blt (c::(p++a)) (c::(p++b))=_;have:=Rj p a b;simp only [Op.bytesLess] at this ⊢;simp [this]
theorem WX {k:List UInt8}{v w:TVer}(hv:AN v.fAt=true)(hw:AN w.fAt=true)(h:bhd w.fAt v.fAt=true):blt (CH k v) (CH k w)=true:=by
 have:=Rj (118::ktF k) (stF v.fAt) (stF w.fAt);unfold CH;simp only [List.cons_append] at this;rw [this];exact AGJ hv hw h
section
variable {ω:Om}{I:Imm}{L:LH}{K:Value→M}
end
def NtFin (nt:Nts)(N:Nat):Prop:=∃Q:List (List UInt8),Q.length≤N∧∀q,nt q≠none→q∈Q
theorem NtFin.upd {nt:Nts}{N:Nat}(h:NtFin nt N)(k:List UInt8)(x:Bool×List UInt8):NtFin (Cj nt k x) (N+1):=by
 obtain ⟨Q,h1,h2⟩:=h;refine ⟨k::Q,by simp;omega,λq hq=>?_⟩;by_cases e:q=k
 ·rw [e];exact List.mem_cons_self ..
 ·rw [Gy _ _ e] at hq;exact List.mem_cons_of_mem _ (h2 q hq)
theorem NtFin.more {nt:Nts}{N M:Nat}(h:NtFin nt N)(hm:N≤M):NtFin nt M:=by
 obtain ⟨Q,h1,h2⟩:=h;exact ⟨Q,by omega,h2⟩
theorem JU:∀{l Q:List (List UInt8)},l.Nodup→(∀x∈l,x∈Q)→l.length≤Q.length
 |[],_,_,_=>by simp
 |x::l,Q,hn,h=>by
  obtain ⟨h1,h2⟩:=List.nodup_cons.1 hn;have hx:=h x (List.mem_cons_self ..);have ih:=JU (Q:=Q.erase x) h2 λy hy=>(List.mem_erase_of_ne (show y≠x from λe=>h1 (by rw [←e];exact hy))).2 (h y (List.mem_cons_of_mem _ hy));rw [List.length_erase_of_mem hx] at ih;have:=List.length_pos_of_mem hx;simp only [List.length_cons];omega
theorem Ya {nt:Nts}{ops:List TOp}{N:Nat}(h:TookOk nt ops)(hN:NtFin nt N):ops.length≤N:=by
 obtain ⟨Q,h1,h2⟩:=hN;have:=JU (l:=ops.map (·.fKey)) (Q:=Q) (List.pairwise_map.2 (h.rise.imp λhb=>EY hb)) (λq hq=>by
  obtain ⟨y,hy,rfl⟩:=List.mem_map.1 hq;exact h2 _ (by rw [h.mem y hy];simp))
 rw [List.length_map] at this;omega
theorem noted0:Noted (λq t=>(⟨q,t⟩:TKV)∈([]:List TKV)) sp0 nt0:=λq=>.inr ⟨rfl,λt=>⟨λhq=>(by
 rcases hq with ⟨_,h2,_⟩|⟨k,_,h2⟩|⟨k,w,_,h2,_⟩
 ·exact absurd rfl h2
 ·cases h2
 ·cases h2),λhq=>(by cases hq)⟩⟩
theorem AEt (a b:UInt8)(x y:List UInt8):blt (a::x) (b::y)=(decide (a < b)||(a==b&&blt x y)):=rfl
theorem Oa:∀a b:List UInt8,Lib.compareBytes a b=EZ a b
 |[],[]=>by simp [Lib.compareBytes,EZ,BM]
 |[],_::_=>rfl
 |_::_,[]=>rfl
 |a::p,b::q=>by
  have ih:=Oa p q;unfold Lib.compareBytes;rw [ih];unfold EZ;simp only [AEt];by_cases h1:a < b
  ·simp [h1]
  ·by_cases h2:b < a
   ·have:a≠b:=λe=>by subst e;exact h1 h2
    simp [h1,h2,this.symm,this]
   ·have:a=b:=UInt8.le_antisymm (UInt8.not_lt.1 h2) (UInt8.not_lt.1 h1);subst this;simp
theorem Mw {a b:List UInt8}:EZ a b < 0↔blt a b=true:=by
 unfold EZ;cases h:blt a b <;> cases h2:blt b a <;> simp [h,h2]
theorem bcmp_nlt {a b:List UInt8}:¬EZ a b < 0↔blt a b=false:=by rw [Mw];simp
theorem Tp {a b c:List UInt8}(h1:blt a b=false)(h2:blt b c=false):blt a c=false:=by
 cases h:blt a c with
 |false=>rfl
 |true=>
  cases h3:blt b a with
  |true=>rw [CG h3 h] at h2;cases h2
  |false=>rw [DG a b h1 h3] at h;rw [h] at h2;cases h2
section
variable {ω:Om}{I:Imm}{L:LH}{K:Value→M}
theorem Pt {a b:List UInt8}(hk:K (.int .i64 (EZ a b)) I L):CT ω 136 #[BS a,BS b] K I L:=λw hs=>by
 have h:=Go.Proofs.Any.strings_Compare Go.Proofs.Tryz.lay33 ⟨a.toArray⟩ ⟨b.toArray⟩ w;refine Calls.mono h ?_;rintro e w' ⟨rfl,rfl⟩;refine ⟨_,I,L,rfl,hs,?_⟩;simp only [Oa];exact hk
theorem Oq {x y:TOp}{c d:List Value}(hx:TOpV I x c)(hy:TOpV I y d)(hk:K (.int .i64 (EZ x.fKey y.fKey)) I L):CT ω 135 #[.agg c.toArray,.agg d.toArray] K I L:=by
 obtain ⟨k0,v0,rfl,hk0,_⟩:=hx;obtain ⟨k1,v1,rfl,hk1,_⟩:=hy;refine ALm ?_;unfold ACC;refine AQ (λb1=>AQ (λb2=>?_));try refine O ?_
 refine rdb ?_;refine DF hk0 (Ext.refl _) ?_;try refine O ?_
 refine rdb ?_;refine DF hk1 (Ext.refl _) ?_;refine call (Pt ?_);exact Gh.to L (Gh.done hk)
end
def Ge (nt:Nts)(e:MapEntry):TOp:=match nt (Aw e) with
 |some (d,l)=>⟨d,Aw e,l⟩
 |none=>default
theorem Ii {I:Imm}{mm:List UInt8→Option Value}{nt:Nts}{es:Array MapEntry}{clock:Nat}(hn:NotesR I mm nt)(hm:MapS es clock mm){e:MapEntry}(he:e∈es.toList):
  ∃d l kv v,nt (Aw e)=some (d,l)∧e.val= .agg #[.bool d,kv,v]∧Ge nt e=⟨d,Aw e,l⟩∧TOpV I (Ge nt e) [.bool d,kv,v]:=by
 rcases hn (Aw e) with ⟨_,h⟩|⟨d,l,kv,v,h1,h2,h3,h4⟩
 ·rw [FD hm he] at h;cases h
 ·rw [FD hm he] at h2;have e1:Ge nt e=⟨d,Aw e,l⟩:=by unfold Ge;rw [h1]
  exact ⟨d,l,kv,v,h1,Option.some.inj h2,e1,by rw [e1];exact ⟨kv,v,rfl,h3,h4⟩⟩
theorem ADo {I:Imm}{mm:List UInt8→Option Value}{nt:Nts}{es:Array MapEntry}{clock:Nat}(hn:NotesR I mm nt)(hm:MapS es clock mm){e:MapEntry}(he:e∈es.toList):(Ge nt e).fKey=Aw e:=by
 obtain ⟨d,l,kv,v,_,_,h,_⟩:=Ii hn hm he;rw [h]
theorem AGG {I:Imm}{mm:List UInt8→Option Value}{nt:Nts}{es:Array MapEntry}{clock:Nat}(hn:NotesR I mm nt)(hm:MapS es clock mm){vis:List MapEntry}(hv:vis.Perm es.toList){ops:List TOp}(hp:ops.Perm (vis.map (Ge nt)))
  (hs:ops.Pairwise λa b=>¬EZ b.fKey a.fKey < 0):TookOk nt ops:=by
 have hmem:∀y,y∈ops↔∃e∈es.toList,Ge nt e=y:=λy=>by
  rw [hp.mem_iff,List.mem_map];exact ⟨λ⟨e,h1,h2⟩=>⟨e,hv.mem_iff.1 h1,h2⟩,λ⟨e,h1,h2⟩=>⟨e,hv.mem_iff.2 h1,h2⟩⟩
 have hnd:(ops.map (·.fKey)).Nodup:=by
  rw [(hp.map _).nodup_iff,List.map_map,((hv.map _).nodup_iff)];have e1:es.toList.map ((λx:TOp=>x.fKey) ∘ Ge nt)=es.toList.map Aw:=List.map_congr_left λe he=>ADo hn hm he;rw [e1];exact hm.nod
 refine ⟨λy hy=>?_,λq d t h=>?_,?_⟩
 ·obtain ⟨e,he,rfl⟩:=(hmem y).1 hy;obtain ⟨d,l,kv,v,h1,_,h3,_⟩:=Ii hn hm he;rw [h3];exact h1
 ·rcases hn q with ⟨h1,_⟩|⟨d',l',kv,v,h1,h2,_,_⟩
  ·rw [h] at h1;cases h1
  ·obtain ⟨e,he,hk,_⟩:=HM hm h2;rw [hmem];refine ⟨e,he,?_⟩;unfold Ge;rw [hk,h]
 ·have h1:ops.Pairwise λa b=>a.fKey≠b.fKey:=List.pairwise_map.1 hnd;refine (hs.and h1).imp λ{a b} h=>?_;have h2:=bcmp_nlt.1 h.1;cases h3:blt a.fKey b.fKey with
  |true=>rfl
  |false=>exact absurd (DG _ _ h3 h2) h.2
theorem Mi:∀{a c:List MapEntry},a.Nodup→(∀x∈a,x∈c)→a.length≤c.length
 |[],c,_,_=>by simp
 |x::a,c,hn,hs=>by
  obtain ⟨C1,C2,rfl⟩:=List.append_of_mem (hs x (List.mem_cons_self ..));have:=Mi (a:=a) (c:=C1++C2) (List.nodup_cons.1 hn).2 (λy hy=>by
   have h1:=hs y (List.mem_cons_of_mem _ hy);simp only [List.mem_append,List.mem_cons] at h1 ⊢;rcases h1 with h1|rfl|h1
   ·exact .inl h1
   ·exact absurd hy (List.nodup_cons.1 hn).1
   ·exact .inr h1)
  simp only [List.length_append,List.length_cons] at this ⊢;omega
theorem WC {mm:List UInt8→Option Value}{I:Imm}{nt:Nts}{es:Array MapEntry}{clock N:Nat}(hn:NotesR I mm nt)(hm:MapS es clock mm)(hN:NtFin nt N):es.toList.length≤N:=by
 obtain ⟨Q,h1,h2⟩:=hN;have:=JU (l:=es.toList.map Aw) (Q:=Q) hm.nod (λq hq=>by
  obtain ⟨e,he,rfl⟩:=List.mem_map.1 hq;obtain ⟨d,l,kv,v,h3,_⟩:=Ii hn hm he;exact h2 _ (by rw [h3];simp))
 rw [List.length_map] at this;omega
section
variable {ω:Om}{I:Imm}{L:LH}{K:Value→M}
theorem We {yv:Value}{qm m:Nat}{es:Array MapEntry}{clock:Nat}{mm:Key→Option Value}(J:List MapEntry→M)(hm:MapS es clock mm)
  (hJ:∀vis I' L',J vis I' L'→Cell I' L' qm 0 (.map (some m))∧MapAt I' L' m es clock) (hval:∀e∈es.toList,∃d kv v,e.val= .agg #[.bool d,kv,v]∧kv.oneCell'=true∧v.oneCell'=true)
  (hstep:∀vis e b I' L',J vis I' L'→e∈es.toList→It es (vis++[e])→∀bv,CW ω yv #[e.val] (λv=>Gh λI2 L2=>v= .bool true∧∃L3,L2=(b,Bc m clock (vis++[e]))::L3∧J (vis++[e]) I2 L3) I' ((bv,.cells e.val.cells 167 (0,0))::(b,Bc m clock (vis++[e]))::L'))
  (h0:J [] I L) (hk:∀vis I' L',vis.Perm es.toList→J vis I' L'→K (.tuple #[]) I' L'):
  CT ω 192 #[yv,pt qm] K I L:=by
 obtain ⟨hc,hmp⟩:=hJ _ _ _ h0;refine AKx ?_;unfold AAj;refine rdC hc (Ext.refl _) ?_;refine XD hmp (λb=>?_);refine Gh.done ?_;refine loop (λn s I' L'=>∃vis L3,It es vis∧n+vis.length=es.toList.length∧L'=(b,Bc m clock vis)::L3∧J vis I' L3) es.toList.length ⟨[],L,It.none es,rfl,rfl,h0⟩ ?_;rintro n s I' L' ⟨vis,L3,hi,hn,rfl,hJ3⟩;unfold Uf;obtain ⟨hc3,hmp3⟩:=hJ _ _ _ hJ3;refine AJt hm hmp3 hi (λhp=>Gh.done ?_) (λe he hi'=>Gh.done ?_)
 ·try refine O ?_
  exact Gh.to L3 (Gh.done (hk vis I' L3 hp hJ3))
 ·have hlen:vis.length+1≤es.toList.length:=by
   have:=Mi (BH hi'.nod) hi'.sub;simpa using this
  try refine O ?_
  refine ⟨_,AIM hm hmp3 he,?_⟩;obtain ⟨d,kv,v,hev,h1,h2⟩:=hval e he;have hev2:e.val.cells=#[.bool d,kv,v]:=by rw [hev];rfl
  have hs:=hstep vis e b I' L3 hJ3 he hi';rw [hev2] at hs;try refine O ?_
  refine AQ (λbv=>?_);rw [hev] at hs ⊢;refine stB rfl rfl (λu hu=>?_) ?_
  ·simp only [List.mem_cons,List.not_mem_nil,or_false] at hu;rcases hu with rfl|rfl|rfl
   ·rfl
   ·exact h1
   ·exact h2
  refine rdB rfl ?_;refine CalV.mono (hs bv) (λv2 I2 L2 hv2=>Gh.mono hv2 ?_);rintro I3 L3' ⟨rfl,L4,rfl,hJ4⟩;simp only [Bool.not_true,SSd,Nat.reduceAdd];exact (Gh.done ⟨n - 1,by omega,_,L4,hi',by rw [List.length_append,List.length_singleton];omega,rfl,hJ4⟩)
theorem AHl {qm:Nat}{B:Value→RB}{Kn:Nat→M}{Xs:Nat→List (Nat×M)}{Rr:Nat→M}
  (h:∀(l D:Nat) (Lo:LoF),(∀a K' I' L',AIX l Lo (B a) K' I' L'→CW ω (.func (.yield l) #[] #[]) #[a] K' I' L')→
   CT ω 192 #[.func (.yield l) #[] #[],pt qm] (λ_=>Gh (SQ l Lo (Jw (Kn D) (Xs D) (Rr D)))) I ((l,Lo .ready none)::(D,.deferred (some []))::L)):
  JB Tryz.prog ω (.func (.func 192) #[] #[pt qm]) B Kn Xs Rr I L:=by
 unfold JB NU;simp only
 rw [if_pos (show Bj Tryz.prog 192=true by kernel_rfl)];intro l D Lo _ hy;exact h l D Lo (λa K' I' L' hh=>hy [a] K' I' L' rfl hh)
theorem Xz {qm m:Nat}{es:Array MapEntry}{clock N:Nat}{mm:Key→Option Value}{nt:Nts}(hm:MapS es clock mm)(hn:NotesR I mm nt)(hN:NtFin nt N)(hNl:N≤1000000)
  (hc:Cell I L qm 0 (.map (some m))) (hmp:MapAt I L m es clock)
  (hk:∀(X:LH) (v:Value) (vis:List MapEntry) (cells:List Value),vis.Perm es.toList→SlO 167 3 X v cells vis.length→Recs (TOpV I) 3 (vis.map (Ge nt)) cells→K v I (X++L)):
  CT ω 133 #[.func (.func 192) #[] #[pt qm]] K I L:=by
 have hle:=WC hn hm hN;refine ALo ?_;unfold ACG;refine call ?_;refine AKy ?_;unfold AAl;refine AQ (λbs=>?_);refine AHl (λl D Lo hy=>?_);refine We (qm:=qm) (m:=m) (es:=es) (clock:=clock) (mm:=mm) (L:=(l,Lo .ready none)::(D,.deferred (some []))::(bs,.cells #[.slice none 0 0] 90 (0,0))::L)
  (λvis I' L'=>I'=I∧∃XO vo cells,SlO 167 3 XO vo cells vis.length∧Recs (TOpV I) 3 (vis.map (Ge nt)) cells∧vis.length≤es.toList.length∧L'=(l,Lo .ready none)::(D,.deferred (some []))::(bs,.cells #[vo] 90 (0,0))::(XO++L)) hm ?_ ?_ ?_ ?_ ?_
 ·rintro vis I' L' ⟨rfl,XO,vo,cells,_,_,_,rfl⟩;exact ⟨hc.mono (Ext.refl _) (λx hx=>by simp [hx]),MapAt.mono hmp (Ext.refl _) (λx hx=>by simp [hx])⟩
 ·intro e he;obtain ⟨d,l,kv,v,_,h2,_,h4⟩:=Ii hn hm he;have h5:=h4.one;exact ⟨d,kv,v,h2,h5 kv (by simp),h5 v (by simp)⟩
 ·rintro vis e b I' L' ⟨rfl,XO,vo,cells,hO,hR,hlv,rfl⟩ he hi' bv;obtain ⟨d,l2,kv,v,h1,h2,h3,h4⟩:=Ii hn hm he;have hlen:vis.length+1≤es.toList.length:=by
   have:=Mi (BH hi'.nod) hi'.sub;simpa using this
  refine hy _ _ _ _ (SS ?_);have h2c:e.val.cells=#[.bool d,kv,v]:=by rw [h2];rfl
  rw [h2c,h2];refine AQ (λb2=>?_);refine stB rfl rfl h4.one ?_;refine Tt ?_;refine rdb ?_;refine rdB rfl ?_;obtain ⟨va,vc,rfl⟩:=hO.form;refine DD (R:=TOpV) (X6:=XO) (x:=Ge nt e) (xs:=vis.map (Ge nt)) (cells:=cells) rfl (by omega) (by simpa using hO) hR h4 rfl h4.one (by simp;omega) (by simp;omega) (λX1 X6 v6 cells6 h6 hR6=>?_);obtain ⟨a6,c6,rfl⟩:=h6.form;refine st1 rfl ?_;refine Pr ?_;refine Gh.to ((b,Bc m clock (vis++[e]))::(l,Lo .ready none)::(D,.deferred (some []))::(bs,.cells #[.slice a6 (vis.map (Ge nt)++[Ge nt e]).length c6] 90 (0,0))::(X6++L)) (Gh.done ⟨rfl,_,rfl,rfl,X6,_,cells6,?_,?_,?_,rfl⟩)
  ·simpa using h6
  ·simpa using hR6
  ·simpa using hlen
 ·exact ⟨rfl,[],_,[],SlO.none _ _,rfl,Nat.zero_le _,rfl⟩
 ·rintro vis I' L' hp ⟨rfl,XO,vo,cells,hO,hR,hlv,rfl⟩;refine Gh.done (Ps (s:=.ready) (j:=none) (by simp) ?_);show PI ω (pt bs) (.slice none 0 0) D _ _ _;unfold PI;refine rdb ?_;refine tak ?_;exact Gh.to (XO++L) (Gh.done (Gh.done (hk XO vo vis cells hp hO hR)))
theorem take0 {b m ch N:Nat}{kv:Value}{fl:TStamp}{X F:LH}{nt:Nts}(hNR:NoteR I b m ch kv fl X nt)(hN:NtFin nt N)(hNl:N≤1000000)
  (hk:∀X' I' v ops ch',Ext I I'→NoteR I' b m ch' kv fl X' nt0→TookOk nt ops→RL TOpV 3 I' [] v ops→K v I' (X'++F)):CT ω 81 #[pt b] K I (X++F):=by
 obtain ⟨NX,hp,hNt⟩:=hNR;obtain ⟨ces,cclock,mm,rfl,hm,hn⟩:=hNt;refine Cal.perm (L':=(b,spO m kv fl ch)::(ch,.map ces cclock)::F) (AO (by rw [AM,BQ hp];((try simp only [AJ,AM,AU,AP]);(try ac_rfl)))) ?_;refine ANH ?_;unfold AJS;try refine O ?_
 refine rdb ?_;refine call ?_;refine ALn ?_;unfold ACE;refine AQ (λqm=>?_);refine Gh.done ?_;refine call (Xz hm hn hN (by omega) (Cell.own (b:=qm) (cs:=#[.map (some ch)]) (T:=176) (fr:=(0,0)) (List.mem_cons_self ..) rfl) (.inl (by simp)) (λXO vo vis cells hp2 hO hR=>?_));have hle:=WC hn hm hN;have hvl:vis.length=ces.toList.length:=hp2.length_eq;refine call ?_;have hO':SlO 167 3 XO vo cells (vis.map (Ge nt)).length:=by simpa using hO
 refine Wo Go.Proofs.Tryz.lay31 (ω:=ω) (K:=_) (k:=3) (R:=TOpV) (cf:=λx y=>EZ x.fKey y.fKey) (g:=135) Tryz.isAgg167 Tryz.sizeOf167 (λI x c h=>h.len) (λI x c h=>h.one) (λx=>by rw [Mw,BM];simp) (λx y z h1 h2=>by rw [Mw] at *; exact CG h1 h2)
  (λx y z h1 h2=>by rw [bcmp_nlt] at *; exact Tp h1 h2) (enters_of Tryz.func135 (by kernel_rfl) rfl)
  (λω' I' x y c d hI hx hy=>Oq (hx.mono hI) (hy.mono hI) ⟨rfl,Ext.refl _⟩) hO' hR (by simp;omega) (λX' ops cells' hperm hsrt hO2 hR2=>?_)
 have hto:=AGG hn hm hp2 hperm hsrt;have hlo:(vis.map (Ge nt)).length=ops.length:=hperm.length_eq.symm;rw [hlo] at hO2;refine Qw (λch2=>?_);try refine O ?_
 refine Gh.perm (L':=(b,spO m kv fl ch)::(X'++((ch2,.map #[] 0)::(qm,.cells #[.map (some ch)] 176 (0,0))::(ch,.map ces cclock)::F))) (AO (by ((try simp only [AJ,AM,AU,AP]);(try ac_rfl)))) ?_;refine Gh.done ?_;refine st1 rfl ?_;refine Gh.perm (L':=X'++((b,spO m kv fl ch2)::(ch2,.map #[] 0)::(qm,.cells #[.map (some ch)] 176 (0,0))::(ch,.map ces cclock)::F)) (AO (by ((try simp only [AJ,AM,AU,AP]);(try ac_rfl)))) ?_;refine RL.ofO (R:=TOpV) (λh hI=>h.mono hI) hO2 hR2 (λI' hI hRL=>?_);refine Gh.to ((b,spO m kv fl ch2)::(ch2,.map #[] 0)::F) ?_;exact Gh.done (hk [(b,spO m kv fl ch2),(ch2,.map #[] 0)] I' _ ops ch2 hI ⟨[(ch2,.map #[] 0)],List.Perm.refl _,⟨#[],0,λ_=>none,rfl,MapS.empty,λk=>.inl ⟨rfl,rfl⟩⟩⟩ hto hRL)
end
theorem KO {g:Bool}{k q:List UInt8}:∀{l:List TVer} {nt:Nts},(∀v∈l,CH k v≠q)→verN g k l nt q=nt q
 |[],nt,_=>rfl
 |v::l,nt,h=>by
  show verN g k l (Cj nt (CH k v) _) q=_;rw [KO (λw hw=>h w (List.mem_cons_of_mem _ hw)),Gy _ _ (λe=>h v (List.mem_cons_self ..) e.symm)]
theorem LG {g:Bool}{k:List UInt8}{v:TVer}:∀{l:List TVer} {nt:Nts},(l.Pairwise λa b=>CH k a≠CH k b)→v∈l→verN g k l nt (CH k v)=some (Wd g v)
 |w::l,nt,h,hv=>by
  obtain ⟨h1,h2⟩:=List.pairwise_cons.1 h;show verN g k l (Cj nt (CH k w) _) _=_;rcases List.mem_cons.1 hv with rfl|hv
  ·rw [KO (λx hx e=>h1 x hx e.symm),Gx]
  ·exact LG h2 hv
def AIj (r:Row)(q t:List UInt8):Prop:=(q=105::r.key∧CX r.it=(false,t))∨∃v∈r.vs,q=CH r.key v∧t=Bi v
theorem ON {it:Itn}{t:List UInt8}(h:CX it=(false,t)):it.txn≠0:=λe=>by unfold CX at h;rw [if_pos e] at h;cases h
theorem Hs {it:Itn}(h:it.txn≠0):CX it=(false,(CX it).2):=by unfold CX;rw [if_neg h]
theorem RowOk.apart {r:Row}(h:RowOk r):r.vs.Pairwise λa b=>CH r.key a≠CH r.key b:=
 (List.pairwise_iff_forall_sublist.2 λ{a b} hs=>by
  have hab:=List.pairwise_iff_forall_sublist.1 h.rise hs;have ha:=hs.subset (List.mem_cons_self ..);have hb:=hs.subset (List.mem_cons_of_mem _ (List.mem_cons_self ..));exact EY (WX (h.vs a ha).right (h.vs b hb).right hab))
theorem AGC {k k':List UInt8}{v:TVer}:CH k v≠105::k':=λe=>by
 unfold CH at e;cases (List.cons.inj e).1
theorem Xc {g:Bool}{r:Row}{nt:Nts}{v:TVer}(h:RowOk r)(hv:v∈r.vs):noteA g r nt (CH r.key v)=some (Wd g v):=by
 unfold noteA;split
 ·exact LG h.apart hv
 ·rw [Gy _ _ AGC];exact LG h.apart hv
theorem ADs {g:Bool}{r:Row}{nt:Nts}(h:r.it.txn≠0):noteA g r nt (105::r.key)=some (if g=true then (true,[]) else CX r.it):=by
 unfold noteA;rw [if_neg h,Gx]
theorem ADr {g:Bool}{r:Row}{nt:Nts}{q:List UInt8}(h1:∀v∈r.vs,CH r.key v≠q)(h2:r.it.txn≠0→q≠105::r.key):noteA g r nt q=nt q:=by
 unfold noteA;split
 ·exact KO h1
 ·rw [Gy _ _ (h2 (by assumption))];exact KO h1
theorem LE {A B:List Row}{r:Row}{q:List UInt8}(hm:Mid A r.key B):Cn (A++r::B) q=if q=r.key then r.vs else Cn (A++B) q:=by
 by_cases e:q=r.key
 ·rw [if_pos e,e,LD hm rfl]
 ·rw [if_neg e];unfold Cn rowOf;rw [List.find?_append,List.find?_append,List.find?_cons_of_neg (by simp;exact λe2=>e e2.symm)]
section
variable {A B:List Row}{r:Row}{fl:TStamp}
theorem ML (hm:Mid A r.key B)(q t:List UInt8):Du ⟨A++r::B,fl⟩ q t↔(((∃v∈r.vs,CH r.key v=q)∨(r.it.txn≠0∧q=105::r.key))∧AIj r q t)∨((¬((∃v∈r.vs,CH r.key v=q)∨(r.it.txn≠0∧q=105::r.key)))∧Du ⟨A++B,fl⟩ q t)∨(((∃v∈r.vs,CH r.key v=q)∨(r.it.txn≠0∧q=105::r.key))∧Du ⟨A++B,fl⟩ q t):=by
 have key:Du ⟨A++r::B,fl⟩ q t↔AIj r q t∨Du ⟨A++B,fl⟩ q t:=by
  constructor
  ·rintro (h|⟨k,h,h2⟩|⟨k,v,h,h2,h3⟩)
   ·exact .inr (.inl h)
   ·simp only [MM hm rfl] at h2;by_cases e:k=r.key
    ·rw [if_pos e] at h2;exact .inl (.inl ⟨by rw [h,e],h2⟩)
    ·rw [if_neg e] at h2;exact .inr (.inr (.inl ⟨k,h,h2⟩))
   ·simp only [LE hm] at h2;by_cases e:k=r.key
    ·rw [if_pos e] at h2;exact .inl (.inr ⟨v,h2,by rw [h,e],h3⟩)
    ·rw [if_neg e] at h2;exact .inr (.inr (.inr ⟨k,v,h,h2,h3⟩))
  ·rintro ((⟨h,h2⟩|⟨v,h,h2,h3⟩)|(h|⟨k,h,h2⟩|⟨k,v,h,h2,h3⟩))
   ·exact .inr (.inl ⟨r.key,h,by simp only [MM hm rfl,if_true];exact h2⟩)
   ·exact .inr (.inr ⟨r.key,v,h2,by simp only [LE hm,if_true];exact h,h3⟩)
   ·exact .inl h
   ·by_cases e:k=r.key
    ·subst e;simp only [MO hm] at h2;exact absurd rfl (ON h2)
    ·exact .inr (.inl ⟨k,h,by simp only [MM hm rfl,if_neg e];exact h2⟩)
   ·by_cases e:k=r.key
    ·subst e;simp only [YS hm] at h2;cases h2
    ·exact .inr (.inr ⟨k,v,h,by simp only [LE hm,if_neg e];exact h2,h3⟩)
 rw [key];constructor
 ·rintro (h|h)
  ·refine .inl ⟨?_,h⟩;rcases h with ⟨h,h2⟩|⟨v,h,h2,_⟩
   ·exact .inr ⟨ON h2,h⟩
   ·exact .inl ⟨v,h,h2.symm⟩
  ·by_cases e:(∃v∈r.vs,CH r.key v=q)∨(r.it.txn≠0∧q=105::r.key)
   ·exact .inr (.inr ⟨e,h⟩)
   ·exact .inr (.inl ⟨e,h⟩)
 ·rintro (⟨_,h⟩|⟨_,h⟩|⟨_,h⟩)
  ·exact .inl h
  ·exact .inr h
  ·exact .inr h
theorem AFw (hm:Mid A r.key B)(hr:RowOk r)(nt:Nts):AJE ⟨A++B,fl⟩ nt ⟨A++r::B,fl⟩ (noteA false r nt):=by
 intro q;by_cases e1:∃v∈r.vs,CH r.key v=q
 ·obtain ⟨v,hv,rfl⟩:=e1;exact .inr ⟨Vq hr.key v,.inr ⟨Bi v,by rw [Xc hr hv];rfl,(ML hm _ _).2 (.inl ⟨.inl ⟨v,hv,rfl⟩,.inr ⟨v,hv,rfl,rfl⟩⟩)⟩⟩
 ·by_cases e2:r.it.txn≠0∧q=105::r.key
  ·obtain ⟨h1,rfl⟩:=e2;exact .inr ⟨ADp hr.key,.inr ⟨(CX r.it).2,by rw [ADs h1];exact congrArg some (Hs h1),(ML hm _ _).2 (.inl ⟨.inr ⟨h1,rfl⟩,.inl ⟨rfl,Hs h1⟩⟩)⟩⟩
  ·refine .inl ⟨ADr (λv hv e=>e1 ⟨v,hv,e⟩) (λh1 e=>e2 ⟨h1,e⟩),λt=>?_⟩;have hne:¬((∃v∈r.vs,CH r.key v=q)∨(r.it.txn≠0∧q=105::r.key)):=λh=>h.elim e1 e2;rw [ML hm];constructor
   ·rintro (⟨h,_⟩|⟨_,h⟩|⟨h,_⟩)
    ·exact absurd h hne
    ·exact h
    ·exact absurd h hne
   ·exact λh=>.inr (.inl ⟨hne,h⟩)
end
theorem Oi {base:List UInt8→List UInt8→Prop}{fl:TStamp}:∀{rs A:List Row} {nt:Nts},SpOk ⟨A++rs,fl⟩→Noted base ⟨A,fl⟩ nt→Noted base ⟨A++rs,fl⟩ (noteAs false rs nt)
 |[],A,nt,_,h=>by rw [List.append_nil];exact h
 |r::rs,A,nt,hok,h=>by
  obtain ⟨p1,p2,p3⟩:=hok.part;have hm:Mid A r.key rs:=SrtK.mid hok.rise;have hm0:Mid A r.key []:=⟨hm.lt,λx hx=>by cases hx⟩;have e:A++r::rs=(A++[r])++rs:=by simp
  have:=Oi (rs:=rs) (A:=A++[r]) (nt:=noteA false r nt) (by rw [←e];exact hok) ((by rw [List.append_nil];exact h:Noted base ⟨A++[],fl⟩ nt).step (AFw hm0 p2 nt));rw [e];exact this
theorem RT (fl:TStamp):Noted (λq t=>(⟨q,t⟩:TKV)∈([]:List TKV)) ⟨[],fl⟩ (BL fl):=by
 refine noted0.step (sp':=⟨[],fl⟩) (nt':=BL fl) (λq=>?_);have no:∀t,Du (⟨[],fl⟩:Sp) q t↔(q=[102]∧fl≠z0∧t=stF fl):=λt=>by
  constructor
  ·rintro (h|⟨k,_,h2⟩|⟨k,v,_,h2,_⟩)
   ·exact h
   ·cases h2
   ·cases h2
  ·exact λh=>.inl h
 by_cases hf:fl=z0
 ·refine .inl ⟨by unfold BL;rw [if_pos hf],λt=>?_⟩;rw [hf];exact Iff.rfl
 ·by_cases hq:q=[102]
  ·subst hq;exact .inr ⟨⟨by decide,by decide⟩,.inr ⟨stF fl,by unfold BL;rw [if_neg hf,Gx],(no _).2 ⟨rfl,hf,rfl⟩⟩⟩
  ·refine .inl ⟨by unfold BL;rw [if_neg hf,Gy _ _ hq],λt=>?_⟩;rw [no];constructor
   ·exact λh=>absurd h.1 hq
   ·rintro (⟨h,_⟩|⟨k,_,h2⟩|⟨k,v,_,h2,_⟩)
    ·exact absurd h hq
    ·cases h2
    ·cases h2
theorem NtFin.verN {g:Bool}{k:List UInt8}:∀{l:List TVer} {nt:Nts} {N:Nat},NtFin nt N→NtFin (verN g k l nt) (N+l.length)
 |[],nt,N,h=>h
 |v::l,nt,N,h=>by
  have:=NtFin.verN (l:=l) (g:=g) (k:=k) (h.upd (CH k v) (Wd g v));rw [show N+(v::l).length=N+1+l.length by simp;omega];exact this
theorem NtFin.noteA {g:Bool}{r:Row}{nt:Nts}{N:Nat}(h:NtFin nt N):NtFin (noteA g r nt) (N+r.vs.length+1):=by
 unfold Go.Proofs.YtmmfcgbfbcamcaaGreatDoor.noteA;split
 ·exact h.verN.more (by omega)
 ·exact h.verN.upd _ _
theorem NtFin.noteAs {g:Bool}:∀{rs:List Row} {nt:Nts} {N:Nat},NtFin nt N→NtFin (noteAs g rs nt) (N+Ac rs+rs.length)
 |[],nt,N,h=>h
 |r::rs,nt,N,h=>by
  have:=NtFin.noteAs (rs:=rs) (g:=g) (h.noteA (g:=g) (r:=r));exact this.more (by simp [Ac];omega)
theorem NtFin.floor (fl:TStamp):NtFin (BL fl) 1:=by
 unfold BL;split
 ·exact ⟨[],by simp,λq hq=>absurd rfl hq⟩
 ·exact NtFin.upd ⟨[],by simp,λq hq=>absurd rfl hq⟩ _ _
def NoDel (nt:Nts):Prop:=∀q p,nt q=some p→p.1=false
theorem NoDel.upd {nt:Nts}(h:NoDel nt){k:List UInt8}{x:Bool×List UInt8}(hx:x.1=false):NoDel (Cj nt k x):=λq p hq=>by
 by_cases e:q=k
 ·rw [e,Gx] at hq;rw [←Option.some.inj hq];exact hx
 ·rw [Gy _ _ e] at hq;exact h q p hq
theorem NoDel.verN {k:List UInt8}:∀{l:List TVer} {nt:Nts},NoDel nt→NoDel (verN false k l nt)
 |[],nt,h=>h
 |v::l,nt,h=>NoDel.verN (l:=l) (h.upd (k:=CH k v) (x:=Wd false v) rfl)
theorem NoDel.noteA {r:Row}{nt:Nts}(h:NoDel nt):NoDel (noteA false r nt):=by
 unfold Go.Proofs.YtmmfcgbfbcamcaaGreatDoor.noteA;split
 ·exact h.verN
 ·exact h.verN.upd (by simp only [Bool.false_eq_true,if_false];rw [Hs (by assumption)])
theorem NoDel.noteAs:∀{rs:List Row} {nt:Nts},NoDel nt→NoDel (noteAs false rs nt)
 |[],nt,h=>h
 |r::rs,nt,h=>NoDel.noteAs (rs:=rs) (h.noteA (r:=r))
theorem NoDel.floor (fl:TStamp):NoDel (BL fl):=by
 have h0:NoDel nt0:=λq p h=>by cases h
 unfold BL;split
 ·exact h0
 ·exact h0.upd rfl
def FQ (ops:List TOp):List TKV:=ops.map λy=>⟨y.fKey,y.fValue⟩
theorem AEI {sp:Sp}(hok:SpOk sp){nt:Nts}{ops:List TOp}(h:TookOk nt ops)(hd:NoDel nt)(hN:Noted (λq t=>(⟨q,t⟩:TKV)∈([]:List TKV)) sp nt)(x:TKV):x∈FQ ops↔Du sp x.fKey x.fValue:=by
 constructor
 ·intro hx;obtain ⟨y,hy,rfl⟩:=List.mem_map.1 hx;have h1:=h.mem y hy;rcases hN y.fKey with ⟨_,⟨h2,_⟩|⟨t,h2,h3⟩⟩|⟨h2,_⟩
  ·have:=hd _ _ h2;cases this
  ·rw [h1] at h2;have h4:=(Prod.mk.inj (Option.some.inj h2)).2;show Du sp y.fKey y.fValue;rw [h4];exact h3
  ·rw [h1] at h2;cases h2
 ·intro hx;rcases hN x.fKey with ⟨_,⟨h2,h3⟩|⟨t,h2,h3⟩⟩|⟨_,h3⟩
  ·exact absurd hx (h3 _)
  ·have e:=Xi hok h3 hx;exact List.mem_map.2 ⟨⟨false,x.fKey,t⟩,h.all _ _ _ h2,by rw [e]⟩
  ·cases (h3 _).1 hx
theorem AID {nt:Nts}{ops:List TOp}(h:TookOk nt ops):SN (FQ ops):=List.pairwise_map.2 h.rise
theorem Qt {g:Bool}{rows:List Row}{i:Nat}(hi:i < rows.length)(nt:Nts):noteAs g (rows.take (i+1)) nt=noteA g rows[i] (noteAs g (rows.take i) nt):=by
 unfold noteAs;rw [take_snoc hi,List.foldl_append];rfl
section
variable {ω:Om}{I:Imm}{L:LH}{K:Value→M}
theorem YM {p2 v:Value}{ops:List TOp}{F:LH}(h:RL TOpV 3 I [] v ops)(hl:ops.length≤1000000)(hk:∀I' u,Ext I I'→RL TKVV 2 I' [] u (FQ ops)→Gh (K u) I' F):
  Ae ((.slice none 0 0,.int .i64 0,()):Value×Value×Unit) (λs Kn1=>Sc ω p2 v (.int .i64 ops.length) s.1 s.2.1 Kn1 (λv=>Gh (K v))) I F:=by
 refine loop (λn s I' L'=>∃(i:Nat) (XO:LH) (vo:Value) (cells:List Value),n+i=ops.length∧s=(vo,.int .i64 i,())∧Ext I I'∧SlO 113 2 XO vo cells i∧Recs (TKVV I') 2 (FQ (ops.take i)) cells∧L'=XO++F) ops.length ⟨0,[],_,[],rfl,rfl,Ext.refl _,SlO.none _ _,rfl,rfl⟩ ?_;rintro n s I' L' ⟨i,XO,vo,cells,hn,rfl,hI,hO,hR,rfl⟩;unfold Sc;try refine O ?_
 refine AF (λe=>?_) (λe=>?_)
 ·have hi:i < ops.length:=by simpa using e
  obtain ⟨bx,off,c,hix,hcl,hc,hcc⟩:=RL.ix h (i:=(i:Int)) (by omega) (by omega);rw [AX hi] at hc;obtain ⟨v1,v2,rfl,hb1,hb2⟩:=hc;simp only [hix,SSd,Nat.reduceAdd];refine rdN hcl (hcc I' _ hI (λx hx=>by cases hx)) ?_;refine AQ (λq=>?_);obtain ⟨a1,c1,rfl⟩:=Bytes.form hb1;obtain ⟨a2,c2,rfl⟩:=Bytes.form hb2;refine stB rfl rfl (AH rfl) ?_;refine rdb ?_;try refine O ?_
  refine rdb ?_;try refine O ?_
  have hlen:(FQ (ops.take i)).length=i:=by simp [FQ];omega
  refine DD (R:=TKVV) (X6:=XO) (x:=⟨ops[i].fKey,ops[i].fValue⟩) (xs:=FQ (ops.take i)) (cells:=cells) rfl (by omega) (by rw [hlen];exact hO) hR ⟨_,_,rfl,hb1.mono hI,hb2.mono hI⟩ rfl (AH rfl) (by omega) (by omega) (λX1 X6 v6 cells6 h6 hR6=>?_);have e1:FQ (ops.take (i+1))=FQ (ops.take i)++[⟨ops[i].fKey,ops[i].fValue⟩]:=by unfold FQ;rw [take_snoc hi,List.map_append];rfl
  rw [wrap_i64 _ (by omega)];refine Gh.to (X6++F) (Gh.done ⟨n - 1,by omega,i+1,X6,v6,cells6,by omega,rfl,hI,?_,by rw [e1];exact hR6,rfl⟩);rw [List.length_append,hlen] at h6;exact h6
 ·have hi:i=ops.length:=by
   have:¬i < ops.length:=by simpa using e
   have:i≤ops.length:=by omega
   omega
  rw [hi,List.take_length] at hR;have hlen:(FQ ops).length=i:=by simp [FQ,hi]
  rw [←hlen] at hO;exact RL.ofO (R:=TKVV) (λh hI=>h.mono hI) hO hR (λI2 hI2 hRL=>hk I2 _ (hI.trans hI2) hRL)
theorem AFv {b:Nat}{X F:LH}{sp:Sp}{nt:Nts}(hS:SpR I b X sp nt)(hok:SpOk sp)(hlen:sp.rows.length≤10000)(hn:Ac sp.rows≤100000)
  (hk:∀I' u l,Ext I I'→RL TKVV 2 I' [] u l→(∀x:TKV,x∈l↔Du sp x.fKey x.fValue)→SN l→l.length≤1000000→K u I' (X++F)):CT ω 80 #[pt b] K I (X++F):=by
 obtain ⟨m,kv,es,clock,ps,hV⟩:=hS.view (L:=X++F) (λx hx=>List.mem_append_left _ hx);obtain ⟨rows,fl⟩:=sp;have hvs:∀r∈rows,r.vs.length≤1000000000:=λr hr=>by have:=AMZ hn r hr;omega
 refine ANI ?_;unfold AJT;refine AZ ?_;try refine O ?_
 refine Av (L0:=X++F) (hV.head 0 _ rfl) (Ext.refl _) ?_;refine Av (L0:=X++F) (hV.head 1 _ rfl) (Ext.refl _) ?_;refine Bo (L0:=X++F) (vs:=[.int .i64 fl.fWall,.int .i64 fl.fLogic]) (by simpa using hV.head.sub (k:=2) (m:=2)) (Ext.refl _) rfl ?_;refine Qw (λcht=>?_);refine Gh.done (Bt (Ext.refl _) ?_);have hkf:∃a c,kv= .slice a (keysOf rows).length c:=RL.form hV.keys;obtain ⟨ka,kc,rfl⟩:=hkf;try refine O ?_
 refine AQ (λbt=>?_);try refine O ?_
 refine rdP [.int .i64 fl.fWall,.int .i64 fl.fLogic] rfl rfl ?_;have hkl:(keysOf rows).length=rows.length:=by simp [keysOf]
 have hlen':rows.length≤10000:=hlen;have main:∀I1 Xt ch1,Ext I I1→NoteR I1 bt m ch1 (.slice ka (keysOf rows).length kc) fl Xt (BL fl)→
   Ox ω (.slice none 0 0) (pt bt) (λv=>Gh (K v)) I1 (Xt++(X++F)):=by
  intro I1 Xt ch1 hI1 hN1;unfold Ox;try refine O ?_
  refine rdC (L0:=Xt) (hN1.head 1 _ rfl) (Ext.refl _) ?_;try refine O ?_
  refine loop (λn s I' L'=>∃(j:Nat) (Xt:LH) (ch':Nat),n+j=rows.length∧s=(.int .i64 j,())∧Ext I I'∧NoteR I' bt m ch' (.slice ka (keysOf rows).length kc) fl Xt (noteAs false (rows.take j) (BL fl))∧L'=Xt++(X++F)) rows.length ⟨0,Xt,ch1,rfl,rfl,hI1,hN1,rfl⟩ ?_;rintro n s I' L' ⟨j,Xt,ch',hn2,rfl,hI,hNt,rfl⟩;unfold Yh;try refine O ?_
  refine AF (λe=>?_) (λe=>?_)
  ·have hj:j < rows.length:=by simp only [hkl] at e;simpa using e
   obtain ⟨bx,off,c,hix,hcl,hc,hcc⟩:=RL.ix hV.keys (i:=(j:Int)) (by omega) (by simp only [hkl];omega);have hce:c=[BS rows[j].key]:=by
    have h1:c=[BS (Dk (keysOf rows) (j:Int))]:=by simpa [StrV] using hc
    rw [h1,AX (by omega)];simp [keysOf]
   subst hce;have hrok:=hok.rows _ (List.getElem_mem hj);have hrvs:=hvs _ (List.getElem_mem hj);have hrow:=Qd hok.rise hj;obtain ⟨h0,_⟩|⟨r',p,h1,hcm,hCV,hkr⟩:=hV.look hok.rise rows[j].key
   ·rw [hrow] at h0;cases h0
   obtain rfl:r'=rows[j]:=by rw [hrow] at h1;exact (Option.some.inj h1).symm
   simp only [hix,SSd,Nat.reduceAdd];refine rd1 (hcc I' _ hI (λx hx=>List.mem_append_right _ hx) 0 _ rfl) ?_;try refine O ?_
   refine rdC (L0:=Xt) (hNt.head 0 _ rfl) (Ext.refl _) ?_;refine ⟨_,FP (MapAt.mono hV.at' hI (λx hx=>List.mem_append_right _ hx)) hV.map,?_⟩;simp only [hcm,lkV,Bool.false_eq_true,if_false];refine Bu (MB (g:=false) hNt (λ_=>⟨MapAt.mono hV.at' hI (λx hx=>hx),hV.map,hcm⟩) (hCV.mono hI (λx hx=>hx)) hrok hrvs (λXt2 I3 hI3 hNt2=>?_));try refine O ?_
   rw [wrap_i64 _ (by omega)];refine Gh.done (Gh.done ⟨n - 1,by omega,j+1,Xt2,ch',by omega,rfl,hI.trans hI3,?_,rfl⟩);rw [Qt hj];exact hNt2
  ·have hj:j=rows.length:=by
    have:¬j < rows.length:=by simp only [hkl] at e;simpa using e
    omega
   rw [hj,List.take_length] at hNt;have hok0:SpOk ⟨([]:List Row)++rows,fl⟩:=hok;have hNoted:=Oi hok0 (RT fl);have hND:NoDel (noteAs false rows (BL fl)):=NoDel.noteAs (NoDel.floor fl);have hNF:NtFin (noteAs false rows (BL fl)) (1+Ac rows+rows.length):=(NtFin.floor fl).noteAs;unfold Yg;refine Bu (take0 hNt hNF (by simp only at hn;omega) (λX2 I3 v ops ch2 hI3 _ hto hops=>?_));have hol:=Ya hto hNF;simp only [RL.len hops,SSd,Nat.reduceAdd];refine Gh.to (X++F) (Gh.done ?_);refine YM hops (by simp only at hn;omega) (λI4 u hI4 hu=>Gh.done (hk I4 u (FQ ops) (hI.trans (hI3.trans hI4)) hu (λx=>AEI hok hto hND hNoted x) (AID hto) (by simp [FQ];simp only at hn;omega)))
 have hN0:NoteR I bt m cht (.slice ka (keysOf rows).length kc) fl [(bt,spO m (.slice ka (keysOf rows).length kc) fl cht),(cht,.map #[] 0)] nt0:=
  ⟨[(cht,.map #[] 0)],List.Perm.refl _,⟨#[],0,λ_=>none,rfl,MapS.empty,λk=>.inl ⟨rfl,rfl⟩⟩⟩
 obtain ⟨fw,fg⟩:=fl;simp only [KP,SSd,Nat.reduceAdd];refine AF (λe=>?_) (λe=>?_)
 ·have hne:(⟨fw,fg⟩:TStamp)≠z0:=λh=>by
   simp only [TStamp.mk.injEq] at h;simp [h.1,h.2] at e
  have hfn:BL ⟨fw,fg⟩=Cj nt0 [102] (false,stF ⟨fw,fg⟩):=by unfold BL;rw [if_neg hne]
  refine Bu (MA (m:=m) (X:=[(bt,spO m (.slice ka (keysOf rows).length kc) ⟨fw,fg⟩ cht),(cht,.map #[] 0)]) hN0 hok.floor (λX' I' hI' hN'=>Gh.done ?_));exact main I' X' cht hI' (by rw [hfn];exact hN')
 ·have he:(⟨fw,fg⟩:TStamp)=z0:=by
   have:fw=0∧fg=0:=by simpa using e
   rw [this.1,this.2]
  have hfn:BL ⟨fw,fg⟩=nt0:=by unfold BL;rw [if_pos he]
  exact main I [(bt,spO m (.slice ka (keysOf rows).length kc) ⟨fw,fg⟩ cht),(cht,.map #[] 0)] cht (Ext.refl _) (by rw [hfn];exact hN0)
end
structure AllOf (sp:Sp)(l:List TKV):Prop where
 mem:∀x:TKV,x∈l↔Du sp x.fKey x.fValue
 srt:SN l
theorem LR:∀{a b:List TKV},SN a→SN b→(∀x,x∈a↔x∈b)→a=b
 |[],[],_,_,_=>rfl
 |[],y::b,_,_,h=>by have:=(h y).2 (List.mem_cons_self ..);cases this
 |x::a,[],_,_,h=>by have:=(h x).1 (List.mem_cons_self ..);cases this
 |x::a,y::b,ha,hb,h=>by
  obtain ⟨a1,a2⟩:=List.pairwise_cons.1 ha;obtain ⟨b1,b2⟩:=List.pairwise_cons.1 hb;have hxy:x=y:=by
   rcases List.mem_cons.1 ((h x).1 (List.mem_cons_self ..)) with e|e
   ·exact e
   ·rcases List.mem_cons.1 ((h y).2 (List.mem_cons_self ..)) with e2|e2
    ·exact e2.symm
    ·have h1:=b1 x e;have h2:=a1 y e2;have:=CG h1 h2;rw [BM] at this;cases this
  subst hxy;rw [LR a2 b2 (λz=>?_)];have hz:=h z;constructor
  ·intro hza;rcases List.mem_cons.1 (hz.1 (List.mem_cons_of_mem _ hza)) with e|e
   ·subst e;have:=a1 z hza;rw [BM] at this;cases this
   ·exact e
  ·intro hzb;rcases List.mem_cons.1 (hz.2 (List.mem_cons_of_mem _ hzb)) with e|e
   ·subst e;have:=b1 z hzb;rw [BM] at this;cases this
   ·exact e
theorem AllOf.uniq {sp:Sp}{a b:List TKV}(ha:AllOf sp a)(hb:AllOf sp b):a=b:=LR ha.srt hb.srt (λx=>(ha.mem x).trans (hb.mem x).symm)
theorem Jj (v:TVer):(Bi v).length≤v.fValue.length+1:=by unfold Bi;split <;> simp
theorem kept_len {sp:Sp}(h:SpOk sp){q t:List UInt8}(hk:Du sp q t):q.length≤250∧t.length≤20000:=by
 have key:∀{k:List UInt8} {r:Row},rowOf sp.rows k=some r→Aj k=true∧RowOk r:=λ{k r} e=>by
  have hr:=h.rows r (CU e);have:r.key=k:=by simpa using List.find?_some e
  exact ⟨by rw [←this];exact hr.key,hr⟩
 rcases hk with ⟨rfl,_,rfl⟩|⟨k,rfl,hi⟩|⟨k,v,rfl,hv,rfl⟩
 ·exact ⟨by simp,by show 9≤20000;omega⟩
 ·unfold CX at hi;split at hi
  ·simp at hi
  ·rename_i hne
   have ht:=(Prod.mk.inj hi).2;cases e:rowOf sp.rows k with
   |none=>exact absurd (by unfold Ba;rw [e];rfl) hne
   |some r=>
    have hi2:Ba sp.rows k=r.it:=by unfold Ba;rw [e]
    rw [hi2] at hne ht;obtain ⟨h1,h2⟩:=key e;have hkl:=Et h1;have h3:BU r.it.txn=true∧VerOk r.it.ver:=by
     rcases h2.it with h4|h4
     ·rw [h4] at hne;exact absurd rfl hne
     ·exact h4
    have h5:=h3.2.len;have h6:=JF (n:=r.it.txn.toNat) (by have:=h2.txn;omega);have h7:=Jj r.it.ver;have h8:(stF r.it.ver.fAt).length=9:=rfl;have h9:t.length=(stF r.it.ver.fAt++Ev r.it.txn.toNat++Bi r.it.ver).length:=by rw [←ht]
    simp only [List.length_append] at h9;exact ⟨by simp;omega,by omega⟩
 ·unfold Cn at hv;cases e:rowOf sp.rows k with
  |none=>rw [e] at hv;cases hv
  |some r=>
   rw [e] at hv;simp only at hv
   obtain ⟨h1,h2⟩:=key e;have h3:=(h2.vs v hv).len;have h4:=Jj v;exact ⟨(Vq h1 v).2,by omega⟩
def Or (m:Mch)(l:List TKV):List UInt8:=GM (GH m)++CP [(l.length:Int)]++l.flatMap Qe
theorem ADX {sp:Sp}(h:SpOk sp){l:List TKV}(ha:AllOf sp l):∀x∈l,x.fKey.length≤250∧x.fValue.length≤20000:=λx hx=>kept_len h ((ha.mem x).1 hx)
theorem XB {x:TKV}(h:x.fKey.length≤250∧x.fValue.length≤20000):(Qe x).length≤20300:=by
 have h1:=Cp (b:=x.fKey) (by omega);have h2:=Cp (b:=x.fValue) (by omega);simp only [Qe,List.length_append];omega
section
variable {ω:Om}{I:Imm}{L:LH}{K:Value→M}{b s N w:Nat}{VM:MV}{m:Mch}{SX R:LH}
theorem Hj (hF:MF I VM m)(hS:SpR I s SX m.sp m.nt)(hM:MOk m N)(hN:N≤300)
  (hk1:∀I' l,Ext I I'→AllOf m.sp l→60000 < (Or m l).length→K (.tuple #[.slice none 0 0,.int .i64 143]) I' (mL b s VM m (SX++R)))
  (hk2:∀I' u l,Ext I I'→AllOf m.sp l→(Or m l).length≤60000→Bytes I' u (Or m l)→K (.tuple #[u,.int .i64 0]) I' (mL b s VM m (SX++R))):
  CT ω 25 #[pt b] K I (mL b s VM m (SX++R)):=by
 have hrw:=hM.rows;have hvs:=hM.vers;have hsq:N * N≤300 * 300:=Nat.mul_le_mul hN hN;have hrl:=XF hM;refine ANj ?_;unfold AJi;try refine O ?_
 refine AQ (λw=>?_);refine call (Cal.perm (L':=mL b s VM m ((w,wrO (.slice none 0 0))::(SX++R))) (AO (by ((try simp only [AJ,AM,AU,AP]);(try ac_rfl)))) (XE hF hM (λI1 u hI1 hB=>?_)));refine call (Cal.perm (L':=(w,wrO (.slice none 0 0))::([]++mL b s VM m (SX++R))) (AO (by ((try simp only [AJ,AM,AU,AP]);(try ac_rfl)))) (Dv (Y:=[]) (l:=[]) (SlO.none _ 1) hB (by simp) (by omega) (λY2 v2 I2 hI2 hO2=>?_)));rw [List.nil_append] at hO2;have t2:=Cp (b:=GH m) (by omega);try refine O ?_
 refine rdb ?_;have h12:=hI1.trans hI2;refine call (Cal.perm (L':=SX++((w,wrO v2)::(Y2++mL b s VM m R))) (AO (by ((try simp only [AJ,AM,AU,AP]);(try ac_rfl)))) (AFv (hS.mono h12) hM.sp (by omega) (by omega) (λI3 u3 l hI3 hu3 hmem hsrt hlen=>?_)));have hA:AllOf m.sp l:=⟨hmem,hsrt⟩;have hxl:=ADX hM.sp hA;have h13:=h12.trans hI3;obtain ⟨a3,c3,rfl⟩:=RL.form hu3;try refine O ?_
 refine Of (λu4 I4 hI4 hU4=>?_);have n4:∀n∈[(l.length:Int)],EQ n:=λn hn=>by
  simp only [List.mem_singleton] at hn;subst hn;exact ⟨by omega,by omega⟩
 have t4:=Bx n4;refine call (Cal.perm (L':=(w,wrO v2)::(Y2++(SX++mL b s VM m R))) (AO (by ((try simp only [AJ,AM,AU,AP]);(try ac_rfl)))) (Ci hO2 hU4 n4 (by simp only [List.length_cons,List.length_nil];omega) (λY5 v5 I5 hI5 hO5=>?_)));have h15:=h13.trans (hI4.trans hI5);try refine O ?_
 refine loop (λn (st:Value×Unit) I' L'=>Ext I5 I'∧∃(i:Nat) (Y:LH) (v:Value),n+i=l.length∧st=(.int .i64 i,())∧L'=(w,wrO v)::(Y++(SX++mL b s VM m R))∧OB Y v (GM (GH m)++CP [(l.length:Int)]++(l.take i).flatMap Qe)) l.length ⟨Ext.refl _,0,Y5,v5,rfl,rfl,rfl,by simpa using hO5⟩ ?_;rintro n st I' L' ⟨hI',i,Y,v,hni,rfl,rfl,hO⟩;unfold ZJ;try refine O ?_
 refine AF (λe=>?_) (λe=>?_)
 ·have hi:i < l.length:=by simpa using e
  obtain ⟨bx,off,c,hix,hcl,hc,hcc⟩:=RL.ix hu3 (i:=(i:Int)) (by omega) (by omega);rw [AX hi] at hc;have hx:=hxl l[i] (List.getElem_mem hi);have hsn:=take_snoc hi;have hfl:=DT (f:=Qe) (c:=20300) (l:=l.take i) (λx hx=>XB (hxl x (List.mem_of_mem_take hx)));rw [List.length_take] at hfl;generalize l[i]=x at *;have hc1:=hc.one;obtain ⟨y0,y1,rfl,k0,k1⟩:=hc;have hq:=(hI4.trans hI5).trans hI';have tx:=Cp (b:=x.fKey) (by omega);simp only [List.length_cons,List.length_nil] at t4;simp only [hix,SSd,Nat.reduceAdd];refine rdN hcl (hcc I' _ hq (λx hx=>by cases hx)) ?_;refine AQ (λq=>?_);refine stB rfl rfl hc1 ?_;try refine O ?_
  refine rdb ?_;refine call (Cal.perm (L':=(w,wrO v)::(Y++((q,.cells #[y0,y1] 113 (0,0))::(SX++mL b s VM m R)))) (AO (by ((try simp only [AJ,AM,AU,AP]);(try ac_rfl)))) (Dv hO (k0.mono hq) (by simp only [List.length_append];omega) (by omega) (λY6 v6 I6 hI6 hO6=>?_)));try refine O ?_
  refine rdb ?_;refine call (Dv hO6 (k1.mono (hq.trans hI6)) (by simp only [List.length_append];omega) (by omega) (λY7 v7 I7 hI7 hO7=>?_));try refine O ?_
  rw [wrap_i64 _ (by omega)];refine Gh.to ((w,wrO v7)::(Y7++(SX++mL b s VM m R))) (Gh.done ⟨n - 1,by omega,hI'.trans (hI6.trans hI7),i+1,Y7,v7,by omega,rfl,rfl,?_⟩);have e7:GM (GH m)++CP [(l.length:Int)]++(l.take (i+1)).flatMap Qe=GM (GH m)++CP [(l.length:Int)]++(l.take i).flatMap Qe++GM x.fKey++GM x.fValue:=by
   rw [hsn,List.flatMap_append];simp [Qe]
  rw [e7];exact hO7
 ·have hi:i=l.length:=by simp at e;omega
  rw [hi,List.take_length] at hO;have hO':OB Y v (Or m l):=hO;obtain ⟨va,vc,rfl⟩:=hO'.form;unfold ZI;try refine O ?_
  refine rdb ?_;try refine O ?_
  refine AF (λe6=>?_) (λe6=>?_)
  ·exact Gh.to (mL b s VM m (SX++R)) (Gh.done (hk1 I' l (h15.trans hI') hA (by simp at e6;omega)))
  ·try refine O ?_
   refine rdb ?_;refine Gh.to (Y++mL b s VM m (SX++R)) (OB.freeze hO' (λI9 hI9 hB9=>Gh.done ?_));exact hk2 I9 _ l (h15.trans (hI'.trans hI9)) hA (by simp at e6;omega) hB9
end
section
variable {ω:Om}{I:Imm}{L:LH}{K:Value→M}
theorem NG {g h:TGot}{v w:Value}(hv:Bytes I v g.fValue)(hw:Bytes I w h.fValue)(hk:∀t:Bool,(g=h→t=true)→K (.bool t) I L):CT ω 54 #[gvV g v,gvV h w] K I L:=by
 obtain ⟨va,vc,rfl⟩:=Bytes.form hv;obtain ⟨wa,wc,rfl⟩:=Bytes.form hw;refine AIr ?_;unfold sh54;repeat' (first|refine Γ ?_|refine Θ (λ_=>?_)|(refine DF hv (Ext.refl _) ?_)|(refine DF hw (Ext.refl _) ?_)|refine Δ ?_|(with_reducible first|refine AK (sh54.eq_1 ..) ?_|refine And.intro ?_ ?_)|refine Φ ?_|refine Ξ (λ_=>?_) (λ_=>?_)|(simp only [SSd,Nat.reduceAdd,sEq]))
 all_goals (refine Gh.to L (Gh.done (hk _ ?_));rintro rfl;simp_all)
theorem Lb {L0:LH}[LSub L0 L]{a b:List TKV}{v w:Value}(ha:RL TKVV 2 I L0 v a)(hb:RL TKVV 2 I L0 w b)(hl:a.length≤1000000000)(hk:∀t:Bool,(a=b→t=true)→K (.bool t) I L):CT ω 55 #[v,w] K I L:=by
 refine AIq ?_;unfold AGr;simp only [RL.len ha,RL.len hb,SSd,Nat.reduceAdd];refine AF (λe=>?_) (λe=>?_)
 ·exact Gh.done (hk false (λh=>by rw [h] at e;simp at e))
 have hlen:a.length=b.length:=by simp at e;omega
 refine loop (λn s I' L'=>I'=I∧L'=L∧∃i:Nat,n+i=a.length∧s=(.bool false,.int .i64 i,())) a.length ⟨rfl,rfl,0,rfl,rfl⟩ ?_;rintro n s I' L' ⟨rfl,rfl,i,hni,rfl⟩;unfold Sh;simp only [RL.len ha,SSd,Nat.reduceAdd];refine AF (λe2=>?_) (λe2=>Gh.done (hk true (λ_=>rfl)));have hi:i < a.length:=by simpa using e2
 obtain ⟨q,off,c,hix,hcl,hc,hcc⟩:=RL.ix ha (i:=(i:Int)) (by omega) (by omega);obtain ⟨q2,off2,c2,hix2,hcl2,hc2,hcc2⟩:=RL.ix hb (i:=(i:Int)) (by omega) (by omega);rw [AX hi] at hc;rw [AX (by omega)] at hc2;have hne:a[i]≠b[i]→a≠b:=λh e=>h (by subst e;rfl);generalize a[i]=x at *;generalize b[i]=y at *;obtain ⟨w0,w1,rfl,g0,g1⟩:=hc;obtain ⟨u0,u1,rfl,f0,f1⟩:=hc2;have hcv:=hcc I' L0 (Ext.refl _) (λ_ h=>h);have hcu:=hcc2 I' L0 (Ext.refl _) (λ_ h=>h);refine AZ ?_;simp only [hix,SSd,Nat.reduceAdd];refine Av (hcv 0 _ rfl) (Ext.refl _) ?_;refine Bd g0 (Ext.refl _) ?_;simp only [hix2,SSd,Nat.reduceAdd];refine Av (hcu 0 _ rfl) (Ext.refl _) ?_;refine Bd f0 (Ext.refl _) ?_;simp only [sNe,SSd,Nat.reduceAdd];refine AV (λe3=>?_) (λe3=>Gh.done (hk false (λh=>absurd h (hne (λe=>by subst e;simp at e3)))));try refine O ?_
 refine Av (hcv 1 _ rfl) (Ext.refl _) ?_;refine Bd g1 (Ext.refl _) ?_;try refine O ?_
 refine Av (hcu 1 _ rfl) (Ext.refl _) ?_;refine Bd f1 (Ext.refl _) ?_;simp only [sNe,SSd,Nat.reduceAdd];refine AF (λe4=>Gh.done (hk false (λh=>absurd h (hne (λe=>by subst e;simp at e4))))) (λe4=>?_);try refine O ?_
 rw [wrap_i64 _ (by omega)];exact Gh.done ⟨n - 1,by omega,rfl,rfl,i+1,by omega,rfl⟩
theorem NF {r q:TRes}{ca cb:List Value}(h:TResV I r ca)(h':TResV I q cb)(hl:r.fRows.length≤1000000000)(hk:∀t:Bool,(r=q→t=true)→K (.bool t) I L):CT ω 17 #[.agg ca.toArray,.agg cb.toArray] K I L:=by
 obtain ⟨v0,v1,rfl,g0,g1⟩:=h;obtain ⟨w0,w1,rfl,f0,f1⟩:=h';obtain ⟨a0,c0,rfl⟩:=Bytes.form g0;obtain ⟨a1,c1,rfl⟩:=Bytes.form f0;obtain ⟨a2,c2,rfl⟩:=RL.form g1;obtain ⟨a3,c3,rfl⟩:=RL.form f1;refine AIs ?_;unfold sh17;repeat' (first|refine Γ ?_|refine Θ (λ_=>?_)|(refine Ψ ?_;with_reducible refine NG (g:=r.fGot) (h:=q.fGot) g0 f0 (λt ht=>?_))|(refine Ψ ?_;with_reducible refine Lb g1 f1 hl (λt2 ht2=>?_))|refine Δ ?_|(with_reducible first|refine AK (sh17.eq_1 ..) ?_|refine And.intro ?_ ?_)|refine Φ ?_|refine Ξ (λ_=>?_) (λ_=>?_)|refine O ?_|fail)
 all_goals (refine Gh.to L (Gh.done (hk _ ?_));rintro rfl;simp_all)
end
theorem YN {m:Mch}{c:TCmd}{a:TStamp}(hs:SrtA ilt m.seen)(ht:BU c.fTxn=true):
  Ax (Bw m c 0 a) c=some ⟨0,BE,[],a,0,0⟩∨(Ax (Bw m c 0 a) c=some (Ag 144)∧0 < (Bw m c 0 a).oldest∧c.fTxn≤(Bw m c 0 a).oldest):=by
 have hlk:lkA (CL m c 0 a) c.fTxn=some ⟨c.fSeq,0,a⟩:=by unfold CL;rw [Em,if_pos rfl]
 by_cases h64:64 < (CL m c 0 a).length
 ·have hE:Bw m c 0 a={m with seen:=(CL m c 0 a).tail,oldest:=((CL m c 0 a).head?.map (·.1)).getD 0}:=if_pos h64;rw [hE];cases hl:CL m c 0 a with
  |nil=>rw [hl] at h64;simp at h64
  |cons q l=>
   rw [hl,BZ] at hlk;by_cases hq:q.1=c.fTxn
   ·right
    have hsr:SrtA ilt (q::l):=by rw [←hl];exact hs.ins HZ
    have hn:lkA l c.fTxn=none:=lkA_none.2 λx hx=>by
     have:=SrtA.ne HZ ((List.pairwise_cons.1 hsr).1 x hx);rw [←hq];exact Ne.symm this
    have h1:1≤c.fTxn:=by simp [BU] at ht;omega
    refine ⟨?_,?_,?_⟩
    ·unfold Ax;simp only [List.tail_cons,List.head?_cons,Option.map_some,Option.getD_some];rw [hn];simp [hq]
    ·simp [hq];omega
    ·simp [hq]
   ·left
    rw [if_neg hq] at hlk;unfold Ax;simp only [List.tail_cons];rw [hlk];simp
 ·have hE:Bw m c 0 a={m with seen:=CL m c 0 a}:=if_neg h64;left
  rw [hE];unfold Ax;simp only
  rw [hlk];simp
def Jh (m':Mch)(c:TCmd)(r:TRes)(x:TRes×Mch):Prop:=x.2=m'∧((0 < m'.oldest∧c.fTxn≤m'.oldest∧x.1.fCode=144)∨(x.1.fCode=0∧(c.fKind≠5→x.1=r)))
theorem Np (m:Mch)(c:TCmd)(e:Int)(a:TStamp):(Bw m c e a).span=m.span:=by unfold Bw;split <;> rfl
theorem AHv {sp:Sp}{x:TIntent}(h:(At sp x).2.2=0):(At sp x).2.1=0:=by
 unfold At at h ⊢;split
 ·rfl
 ·rename_i h1;rw [if_neg h1] at h
  split
  ·rename_i h2;rw [if_pos h2] at h;first|done|(simp at h)
  ·rename_i h2;rw [if_neg h2] at h
   first|rfl|(split <;> rfl)
theorem LL {m1:Mch}{c:TCmd}{a:TStamp}{r:TRes}{f:Mch→TRes×Mch}(hs:SrtA ilt m1.seen)(ht:BU c.fTxn=true)(hr:c.fKind≠5→r=⟨0,BE,[],a,0,0⟩)(hf:∀q,Ax (Bw m1 c 0 a) c=some q→f (Bw m1 c 0 a)=(q,Bw m1 c 0 a)):
  Jh (Bw m1 c 0 a) c r (f (Bw m1 c 0 a)):=by
 rcases YN (c:=c) (a:=a) hs ht with h|⟨h,h1,h2⟩
 ·rw [hf _ h];exact ⟨rfl,.inr ⟨rfl,λh5=>(hr h5).symm⟩⟩
 ·rw [hf _ h];exact ⟨rfl,.inl ⟨h1,h2,rfl⟩⟩
theorem XV {m:Mch}{N:Nat}{c:TCmd}(hM:MOk m N)(ht:BU c.fTxn=true)(h0:(Bm m c).1.fCode=0):Jh (Bm m c).2 c (Bm m c).1 (Bm (Bm m c).2 c):=by
 by_cases hi:inB m.span c.fKey=false
 ·rw [show Bm m c=(Ag 141,m) from if_pos hi] at h0;cases h0
 cases ha:Ax m c with
 |some r=>
  have hp:Bm m c=(r,m):=by unfold Bm;rw [if_neg hi,ha]
  rw [hp] at h0 ⊢;simp only
  rw [hp];exact ⟨rfl,.inr ⟨h0,λ_=>rfl⟩⟩
 |none=>
  have hp:Bm m c=if (Ar m c).2≠0 then (Ag (Ar m c).2,m) else if (Ad m.low (Ar m c).1 c.fTxn).2≠0 then (Ag (Ad m.low (Ar m c).1 c.fTxn).2,m) else
    (⟨(At m.sp (Ak c (Ad m.low (Ar m c).1 c.fTxn).1)).2.2,BE,[],(At m.sp (Ak c (Ad m.low (Ar m c).1 c.fTxn).1)).1,(At m.sp (Ak c (Ad m.low (Ar m c).1 c.fTxn).1)).2.1,0⟩,if (At m.sp (Ak c (Ad m.low (Ar m c).1 c.fTxn).1)).2.2=0 then Bw {m with sp:=CI m.sp (Ak c (Ad m.low (Ar m c).1 c.fTxn).1),nt:=EM m.sp (Ak c (Ad m.low (Ar m c).1 c.fTxn).1) m.nt} c 0 (At m.sp (Ak c (Ad m.low (Ar m c).1 c.fTxn).1)).1 else {m with sp:=CI m.sp (Ak c (Ad m.low (Ar m c).1 c.fTxn).1),nt:=EM m.sp (Ak c (Ad m.low (Ar m c).1 c.fTxn).1) m.nt}):=by
   unfold Bm;rw [if_neg hi,ha]
  by_cases h1:(Ar m c).2≠0
  ·rw [hp,if_pos h1] at h0;exact absurd h0 h1
  by_cases h2:(Ad m.low (Ar m c).1 c.fTxn).2≠0
  ·rw [hp,if_neg h1,if_pos h2] at h0;exact absurd h0 h2
  rw [hp,if_neg h1,if_neg h2] at h0 ⊢;simp only at h0 ⊢
  rw [if_pos h0,h0,AHv h0];refine LL (m1:={m with sp:=CI m.sp (Ak c (Ad m.low (Ar m c).1 c.fTxn).1),nt:=EM m.sp (Ak c (Ad m.low (Ar m c).1 c.fTxn).1) m.nt}) (f:=λm'=>Bm m' c) hM.seen ht (λ_=>rfl) (λq hq=>?_);unfold Bm;rw [Np,if_neg hi,hq]
theorem XQ {m:Mch}{N:Nat}{c:TCmd}(hM:MOk m N)(ht:BU c.fTxn=true)(h0:(CV m c).1.fCode=0):Jh (CV m c).2 c (CV m c).1 (CV (CV m c).2 c):=by
 by_cases hi:Gb m.span c.fSpan=false
 ·rw [show CV m c=(Ag 141,m) from if_pos hi] at h0;cases h0
 cases ha:Ax m c with
 |some r=>
  have hp:CV m c=(r,m):=by unfold CV;rw [if_neg hi,ha]
  rw [hp] at h0 ⊢;simp only
  rw [hp];exact ⟨rfl,.inr ⟨h0,λ_=>rfl⟩⟩
 |none=>
  have hp:CV m c=if bhd c.fAt c.fTo=true then (Ag 1,m) else
    if (chF m.sp c.fSpan c.fAt c.fTo c.fTxn).2≠0 then (Ag (chF m.sp c.fSpan c.fAt c.fTo c.fTxn).2,m) else
    if (chF m.sp c.fSpan c.fAt c.fTo c.fTxn).1=true then (Ag 144,m) else
    (okR,Bw {m with low:=An m.low c.fTo c.fTxn} c 0 z0):=by unfold CV;rw [if_neg hi,ha]
  by_cases h1:bhd c.fAt c.fTo=true
  ·rw [hp,if_pos h1] at h0;cases h0
  by_cases h2:(chF m.sp c.fSpan c.fAt c.fTo c.fTxn).2≠0
  ·rw [hp,if_neg h1,if_pos h2] at h0;exact absurd h0 h2
  by_cases h3:(chF m.sp c.fSpan c.fAt c.fTo c.fTxn).1=true
  ·rw [hp,if_neg h1,if_neg h2,if_pos h3] at h0;cases h0
  rw [hp,if_neg h1,if_neg h2,if_neg h3];refine LL (m1:={m with low:=An m.low c.fTo c.fTxn}) (f:=λm'=>CV m' c) hM.seen ht (λ_=>rfl) (λq hq=>?_);unfold CV;rw [Np,if_neg hi,hq]
theorem YK {m:Mch}{N:Nat}{c:TCmd}(hM:MOk m N)(ht:BU c.fTxn=true)(h5:c.fKind=5)(h0:(DA m c).1.fCode=0):Jh (DA m c).2 c (DA m c).1 (DA (DA m c).2 c):=by
 cases ha:Ax m c with
 |some r=>
  have hp:DA m c=(r,m):=IB ha;rw [hp] at h0 ⊢;simp only
  rw [hp];exact ⟨rfl,.inr ⟨h0,λ_=>rfl⟩⟩
 |none=>
  cases hr:Cu m c.fTxn 1 c.fAt with
  |none=>rw [Og ha hr] at h0;cases h0
  |some m1=>
   by_cases h1:(recAt m1 c.fTxn).fState=1
   ·have hp:DA m c=(⟨0,BE,[],z0,0,1⟩,Bw m1 c 0 z0):=SH ha hr h1;rw [hp];have hs:m1.seen=m.seen:=(Er hr).1;refine LL (m1:=m1) (f:=λm'=>DA m' c) (by rw [hs];exact hM.seen) ht (λh=>absurd h5 h) (λq hq=>IB hq)
   ·rw [SI ha hr h1] at h0;cases h0
theorem LS {m:Mch}{c:TCmd}(h:c.fKind≠11):(Ap m c).2.2=none:=by
 unfold Ap;split
 ·rfl
 ·unfold doM;repeat' split
  all_goals first|rfl|skip
  rename_i hr _ _ _ _ _ _ _ _ _ _
  have:=(HJ (by simpa using hr)).kind;omega
theorem SJ {m:Mch}{N:Nat}{c:TCmd}(hM:MOk m N)(hK:c.fKind=3∨c.fKind=4∨c.fKind=5)(h0:(Ap m c).1.fCode=0):Jh (Ap m c).2.1 c (Ap m c).1 ((Ap (Ap m c).2.1 c).1,(Ap (Ap m c).2.1 c).2.1):=by
 by_cases hr:BV c=true
 ·have hkk:kindOk c=true:=by
   simp only [BV,Bool.and_eq_true] at hr;exact hr.2
  have ht:=EB hkk (by omega);have hA:∀m,Ap m c=doM m c:=λm=>by unfold Ap;rw [if_neg (by simp [hr])]
  rw [hA] at h0 ⊢;rw [hA];rcases hK with h|h|h
  ·have hD:∀m,doM m c=Al (Bm m c):=λm=>by unfold doM;simp [h]
   rw [hD] at h0 ⊢;rw [hD];exact XV hM ht h0
  ·have hD:∀m,doM m c=Al (CV m c):=λm=>by unfold doM;simp [h]
   rw [hD] at h0 ⊢;rw [hD];exact XQ hM ht h0
  ·have hD:∀m,doM m c=Al (DA m c):=λm=>by unfold doM;simp [h]
   rw [hD] at h0 ⊢;rw [hD];exact YK hM ht h h0
 ·have hA:Ap m c=(Ag 140,m,none):=by unfold Ap;rw [if_pos (by simpa using hr)]
  rw [hA] at h0;cases h0
abbrev rsT (cs:List Value):Obj:=.cells cs.toArray 52 (0,0)
section
variable {ω:Om}{I:Imm}{L:LH}{K:Value→M}
theorem QO {ba bb N:Nat}{m:Mch}{Xa Xb F:LH}{v2:Value}(ha:MchR I ba Xa m)(hb:MchR I bb Xb m)(hM:MOk m N)(hN:N≤300)(hk:∀I' L',Ext I I'→K (.bool true) I' L'):
  sh8_9 ω v2 (pt ba) (pt bb) (λv=>Gh (K v)) I (Xa++(Xb++F)):=by
 obtain ⟨sa,VA,SA,hpa,hFa,hSa⟩:=ha;obtain ⟨sb,VB,SB,hpb,hFb,hSb⟩:=hb;have p1:(Xa++(Xb++F)).Perm (mL ba sa VA m (SA++(mL bb sb VB m SB++F))):=AO (by simp only [AM,BQ hpa,BQ hpb];((try simp only [AJ,AM,AU,AP]);(try ac_rfl)));have p2:(mL ba sa VA m (SA++(mL bb sb VB m SB++F))).Perm (mL bb sb VB m (SB++(mL ba sa VA m SA++F))):=AO (by ((try simp only [AJ,AM,AU,AP]);(try ac_rfl)));unfold sh8_9;refine call (Cal.perm p1 (Hj hFa hSa hM hN (λI1 l1 hI1 hA1 hl1=>?_) (λI1 u1 l1 hI1 hA1 hl1 hB1=>?_)))
 ·try refine O ?_
  refine call (Cal.perm p2 (Hj (hFb.mono hI1) (hSb.mono hI1) hM hN (λI2 l2 hI2 hA2 hl2=>?_) (λI2 u2 l2 hI2 hA2 hl2 hB2=>?_)))
  ·simp only [beq_self_eq_true,SSd,Nat.reduceAdd];refine DF (Fh I2) (Ext.refl _) ?_;refine DF (Fh I2) (Ext.refl _) ?_;simp only [sEq,beq_self_eq_true,SSd,Nat.reduceAdd];exact Gh.done (hk I2 _ (hI1.trans hI2))
  ·rw [hA1.uniq hA2] at hl1;omega
 ·try refine O ?_
  refine call (Cal.perm p2 (Hj (hFb.mono hI1) (hSb.mono hI1) hM hN (λI2 l2 hI2 hA2 hl2=>?_) (λI2 u2 l2 hI2 hA2 hl2 hB2=>?_)))
  ·rw [hA1.uniq hA2] at hl1;omega
  ·rw [hA1.uniq hA2] at hB1;simp only [beq_self_eq_true,SSd,Nat.reduceAdd];refine DF hB1 hI2 ?_;refine DF hB2 (Ext.refl _) ?_;simp only [sEq,beq_self_eq_true,SSd,Nat.reduceAdd];exact Gh.done (hk I2 _ (hI1.trans hI2))
theorem YY {bb br i q q2 N:Nat}{m':Mch}{V:RV}{Xb F:LH}{c:TCmd}{cc ca:List Value}{r:TRes}{Kn0:(Value×Value×Unit)→M}(hb:MchR I bb Xb m')(hF:RF14 I V m')(hM:MOk m' N)(hN:N≤300)(hi:i≤120)(hc:TCmdV I c cc)(hL:Lens c)(hr:TResV I r ca)(hrl:r.fRows.length≤1000000000)
  (hT:Jh m' c r ((Ap m' c).1,(Ap m' c).2.1)) (h11:c.fKind≠11)
  (hk:∀I' Xb' L',Ext I I'→MchR I' bb Xb' m'→SubP (Xb'++rL br V m' F) L'→Gh (Kn0 (.bool false,.int .i64 ((i+1:Nat):Int),())) I' L'):
  sh8_6 ω (.bool false) (pt bb) (pt br) (.int .i64 i) (pt q) (pt q2) (λs=>Gh (Kn0 s)) (λv=>Gh (K v)) I ((q2,rsT ca)::(q,.cells cc.toArray 56 (0,0))::(Xb++rL br V m' F)):=by
 have w64:IntKind.i64.wrap ((i:Int)+1)=((i+1:Nat):Int):=by rw [wrap_i64 _ (by omega)];rfl
 have hn:=LS (m:=m') h11;obtain ⟨w0,w1,w2,w3,rfl,g0,g1,g2,g3⟩:=id hc;have fin:∀I' Xb' L',Ext I I'→MchR I' bb Xb' m'→SubP (Xb'++rL br V m' F) L'→sh8_4 ω (.bool false) (.int .i64 i) (λs=>Gh (Kn0 s)) (λv=>Gh (K v)) I' L':=by
  intro I' Xb' L' h1 h2 h3;unfold sh8_4;simp only [w64,SSd,Nat.reduceAdd];exact hk I' Xb' L' h1 h2 h3
 unfold sh8_6;refine rdB rfl ?_;refine call (Cal.perm (L':=Xb++((q2,rsT ca)::(q,.cells #[.int .i64 c.fKind,.int .i64 c.fTxn,.int .i64 c.fSeq,.int .i64 c.fAt.fWall,.int .i64 c.fAt.fLogic,.int .i64 c.fTo.fWall,.int .i64 c.fTo.fLogic,.int .i64 c.fBy,.bool c.fYes,.bool c.fDel,w0,w1,w2,w3,.int .i64 c.fMost] 56 (0,0))::rL br V m' F)) (AO (by ((try simp only [AJ,AM,AU,AP]);(try ac_rfl)))) (Ga hM (by omega) hb hc hL (λI2 Xb' X2 pv cb hI2 hb' hr2 ho=>?_)));rw [hn] at ho;obtain ⟨rfl,rfl⟩:=ho;obtain ⟨hT1,hT2⟩:=hT;simp only at hT1 hT2
 rw [hT1] at hb';generalize (Ap m' c).1=r2 at *;have hr1:=hr2.one;have hl2:=hr2.len;obtain ⟨z1,z2,rfl,y1,y2⟩:=id hr2;simp only [List.nil_append,SSd,Nat.reduceAdd];refine AQ (λq4=>?_);refine stB hl2 rfl hr1 ?_;refine rdB hr.len ?_;refine rdB hl2 ?_;refine call (NF (hr.mono hI2) hr2 hrl (λt ht=>?_));have hT3:(0 < m'.oldest∧c.fTxn≤m'.oldest∧r2.fCode=144)∨(r2.fCode=0∧(c.fKind≠5→t=true)):=by
  rcases hT2 with h|⟨h1,h2⟩
  ·exact .inl h
  ·exact .inr ⟨h1,λh=>ht (h2 h).symm⟩
 clear ht hT2;repeat' (first|refine Γ ?_|refine Θ (λ_=>?_)|refine Δ ?_|(with_reducible first|refine AK (sh8_4.eq_1 ..) ?_|refine AK (sh8_6.eq_1 ..) ?_|refine AK (sh8_9.eq_1 ..) ?_|refine AK (sh8_2.eq_1 ..) ?_|refine AK (sh8.eq_1 ..) ?_|refine And.intro ?_ ?_)|refine Φ ?_|refine Ξ (λ_=>?_) (λ_=>?_)|(simp only [SSd,Nat.reduceAdd,w64]))
 all_goals first
  |exact hk I2 Xb' _ hI2 hb' inferInstance
  |(exfalso;clear hk fin hc hr2 hr1 hl2 hr hb' y1 y2 g0 g1 g2 g3 hL hF hM hT1 hn;rcases hT3 with ⟨h1,h2,h3⟩|⟨h1,h2⟩ <;> simp_all;done)
  |(exfalso;clear hk fin hc hr2 hr1 hl2 hr hb' y1 y2 g0 g1 g2 g3 hL hF hM hT1 hn;rcases hT3 with ⟨h1,h2,h3⟩|⟨h1,h2⟩ <;> simp_all <;> omega)
  |trace_state
theorem QP {i:Nat}{Kn0:(Value×Value×Unit)→M}(hi:i≤120)(hk:Gh (Kn0 (.bool false,.int .i64 ((i+1:Nat):Int),())) I L):
  sh8_4 ω (.bool false) (.int .i64 i) (λs=>Gh (Kn0 s)) (λv=>Gh (K v)) I L:=by
 have w64:IntKind.i64.wrap ((i:Int)+1)=((i+1:Nat):Int):=by rw [wrap_i64 _ (by omega)];rfl
 unfold sh8_4;simp only [w64,SSd,Nat.reduceAdd];exact hk
theorem Wf {v:Value}{cs:List TCmd}(h:RL TCmdV 15 I [] v cs)(hL:∀c∈cs,Lens c)(hl:cs.length≤9000000000000000000)(hk:∀I' L',Ext I I'→K (.bool true) I' L'):CT ω 8 #[v] K I L:=by
 refine AOP ?_;unfold sh8;refine call (Tu (λI1 hI1=>?_));try refine O ?_
 refine call (JV (p:=GU) ⟨_,_,rfl,Fh I1,Fh I1⟩ (λh=>by cases h) (λ_ ba Xa I2 hI2 hXa=>?_));try refine O ?_
 refine call (JV (p:=GU) ⟨_,_,rfl,Fh I2,Fh I2⟩ (λh=>by cases h) (λ_ bb Xb I3 hI3 hXb=>?_));simp only [Bool.not_true,bne_self_eq_false,SSd,Nat.reduceAdd];refine Bu (Qf (p:=GU) ⟨_,_,rfl,Fh I3,Fh I3⟩ (λh=>by cases h) (λ_ br Y hY=>?_));refine Gh.to (Xa++(Xb++(Y++L))) (Gh.done ?_);try refine O ?_
 refine loop (λn (s:Value×Value×Unit) I' L'=>Ext I I'∧∃(i:Nat) (m:Mch) (Xa Xb Y:LH),n+i=cs.length∧s=(.bool false,.int .i64 i,())∧i≤120∧MchR I' ba Xa m∧MchR I' bb Xb m∧R14 I' br Y m∧MOk m i∧L'=Xa++(Xb++(Y++L))) cs.length ⟨hI1.trans (hI2.trans hI3),0,GO GU,Xa,Xb,Y,rfl,rfl,by omega,hXa.mono hI3,hXb,hY,Vr (p:=GU) (by decide),rfl⟩ ?_;clear hXa hXb hY;rintro n s I' L' ⟨hI,i,m,Xa,Xb,Y,hni,rfl,hi1,ha,hb,hY,hM,rfl⟩;unfold sh8_2;simp only [RL.len h,SSd,Nat.reduceAdd];refine AV (λe=>?_) (λe=>QO ha hb hM (by omega) (λI9 L9 hI9=>hk I9 L9 (hI.trans hI9)));have hi:i < cs.length:=by simpa using e
 try refine O ?_
 refine AF (λe2=>?_) (λe2=>QO ha hb hM (by omega) (λI9 L9 hI9=>hk I9 L9 (hI.trans hI9)));have hi2:i < 120:=by simp at e2;omega
 obtain ⟨qc,off,c,hix,hcl,hc,hcc⟩:=RL.ix h (i:=(i:Int)) (by omega) (by omega);have hLx:=hL (Dk cs (i:Int)) (by rw [AX hi];exact List.getElem_mem hi);generalize Dk cs (i:Int)=x at *;have hc:=hc.mono hI;have hc1:=hc.one;obtain ⟨w0,w1,w2,w3,rfl,g0,g1,g2,g3⟩:=id hc;simp only [hix,SSd,Nat.reduceAdd];refine FT (hcc I' [] hI (λ_ h=>h)) (Ext.refl _) hcl ?_;refine AQ (λq=>?_);refine stB rfl rfl hc1 ?_;try refine O ?_
 refine rdb ?_;try refine O ?_
 refine AF (λe3=>?_) (λe3=>?_)
 ·exact QP hi1 (Gh.to (Xa++(Xb++(Y++L))) (Gh.done ⟨n - 1,by omega,hI,i+1,m,Xa,Xb,Y,by omega,rfl,by omega,ha,hb,hY,hM.more (Nat.le_succ i),rfl⟩))
 have h11:x.fKind≠11:=by simpa using e3
 have hn:=LS (m:=m) h11;obtain ⟨hok1,hok2,_⟩:=Oh (c:=x) hM;have hrl:=(AIW hok1).len;have htw:=λhK h0=>SJ (c:=x) hM hK h0;refine rdB rfl ?_;refine call (Cal.perm (L':=Y++((q,DU x w0 w1 w2 w3)::(Xa++(Xb++L)))) (AO (by ((try simp only [AJ,AM,AU,AP]);(try ac_rfl)))) (Pa hM (by omega) hY hc (λI4 Y' Y2 pv cb hI4 hY' hr' ho'=>?_)));rw [hn] at ho';obtain ⟨rfl,rfl⟩:=ho';simp only [List.nil_append,SSd,Nat.reduceAdd];refine rdB rfl ?_;refine call (Cal.perm (L':=Xa++(Y'++((q,DU x w0 w1 w2 w3)::(Xb++L)))) (AO (by ((try simp only [AJ,AM,AU,AP]);(try ac_rfl)))) (Ga hM (by omega) (ha.mono hI4) (hc.mono hI4) hLx (λI5 Xa' X2 pv2 ca hI5 ha' hra ho2=>?_)));rw [hn] at ho2;obtain ⟨rfl,rfl⟩:=ho2;have h45:=hI4.trans hI5;simp only [List.nil_append,SSd,Nat.reduceAdd];refine AQ (λq2=>?_);refine stB hra.len rfl hra.one ?_;refine rdB rfl ?_;refine call (Cal.perm (L':=Xb++((q2,rsT ca)::(q,DU x w0 w1 w2 w3)::(Xa'++(Y'++L)))) (AO (by ((try simp only [AJ,AM,AU,AP]);(try ac_rfl)))) (Ga hM (by omega) (hb.mono h45) (hc.mono h45) hLx (λI6 Xb' X2 pv3 cb2 hI6 hb' hrb ho3=>?_)));rw [hn] at ho3;obtain ⟨rfl,rfl⟩:=ho3;have h46:=h45.trans hI6;simp only [List.nil_append,SSd,Nat.reduceAdd];refine AQ (λq3=>?_);refine stB hrb.len rfl hrb.one ?_;refine rdB (hra.mono hI6).len ?_;refine rdB hrb.len ?_;refine Bu (Lc (hra.mono hI6) hrb (by omega) ?_);obtain ⟨V,hpV,hFV⟩:=(hY'.mono (hI5.trans hI6))
 have hraV:=hra.mono hI6;have haV:=ha'.mono hI6;have hcV:=hc.mono h46;generalize (Ap m x).1=r at *;generalize (Ap m x).2.1=m' at *;obtain ⟨z1,z2,rfl,_,_⟩:=id hraV;refine Gh.perm (L':=(q2,rsT [.int .i64 r.fCode,.bool r.fGot.fFound,z1,.int .i64 r.fGot.fAt.fWall,.int .i64 r.fGot.fAt.fLogic,.int .i64 r.fGot.fBy,z2,.int .i64 r.fAt.fWall,.int .i64 r.fAt.fLogic,.int .i64 r.fBy,.int .i64 r.fState])::(q,DU x w0 w1 w2 w3)::(Xb'++rL br V m' ((q3,rsT cb2)::(Xa'++L)))) (AO (by rw [Hp];simp only [AM,AJ,BQ hpV];((try simp only [AJ,AM,AU,AP]);(try ac_rfl)))) (Gh.done ?_);have four:∀L',SubP (Xa'++(Xb'++(rL br V m' L))) L'→sh8_4 ω (.bool false) (.int .i64 i) (λs'=>Gh λI2 L2=>∃m_1,m_1 < n∧Ext I I2∧∃(i:Nat) (m:Mch) (Xa Xb Y:LH),m_1+i=cs.length∧s'=(.bool false,.int .i64 i,())∧i≤120∧MchR I2 ba Xa m∧MchR I2 bb Xb m∧R14 I2 br Y m∧MOk m i∧L2=Xa++(Xb++(Y++L))) (λv=>Gh (K v)) I6 L':=by
  intro L' hsub;refine QP hi1 (Gh.to (Xa'++(Xb'++(rL br V m' L))) (Gh.done ⟨n - 1,by omega,hI.trans h46,i+1,m',Xa',Xb',rL br V m' [],by omega,rfl,by omega,haV,hb',⟨V,List.Perm.refl _,hFV⟩,hok2,by rw [Hp]⟩))
 have six:(x.fKind=3∨x.fKind=4∨x.fKind=5)→r.fCode=0→sh8_6 ω (.bool false) (pt bb) (pt br) (.int .i64 i) (pt q) (pt q2) (λs'=>Gh λI2 L2=>∃m_1,m_1 < n∧Ext I I2∧∃(i:Nat) (m:Mch) (Xa Xb Y:LH),m_1+i=cs.length∧s'=(.bool false,.int .i64 i,())∧i≤120∧MchR I2 ba Xa m∧MchR I2 bb Xb m∧R14 I2 br Y m∧MOk m i∧L2=Xa++(Xb++(Y++L))) (λv=>Gh (K v)) I6 ((q2,rsT [.int .i64 r.fCode,.bool r.fGot.fFound,z1,.int .i64 r.fGot.fAt.fWall,.int .i64 r.fGot.fAt.fLogic,.int .i64 r.fGot.fBy,z2,.int .i64 r.fAt.fWall,.int .i64 r.fAt.fLogic,.int .i64 r.fBy,.int .i64 r.fState])::(q,DU x w0 w1 w2 w3)::(Xb'++rL br V m' ((q3,rsT cb2)::(Xa'++L)))):=by
  intro hK h0;refine YY hb' hFV hok2 (by omega) hi1 hcV hLx hraV (by omega) (htw hK h0) h11 (λI7 Xb7 L7 hI7 hb7 hsub=>?_);refine Gh.to (Xb7++rL br V m' ((q3,rsT cb2)::(Xa'++L))) ?_;refine Gh.to (Xa'++(Xb7++(rL br V m' L))) (Gh.done ⟨n - 1,by omega,hI.trans (h46.trans hI7),i+1,m',Xa',Xb7,rL br V m' [],by omega,rfl,by omega,haV.mono hI7,hb7,⟨V,List.Perm.refl _,hFV.mono hI7⟩,hok2,by rw [Hp]⟩)
 simp only [Bool.not_true,SSd,Nat.reduceAdd];refine rdb ?_;try refine O ?_
 refine AV (λe4=>?_) (λe4=>?_)
 ·try refine O ?_
  refine rdb ?_;try refine O ?_
  refine AV (λe5=>?_) (λe5=>?_)
  ·try refine O ?_
   refine rdb ?_;try refine O ?_
   refine AV (λe6=>?_) (λe6=>four _ inferInstance);try refine O ?_
   refine rdb ?_;try refine O ?_
   exact AF (λe7=>six (.inr (.inr (by simpa using e6))) (by simpa using e7)) (λe7=>four _ inferInstance)
  ·try refine O ?_
   refine rdb ?_;try refine O ?_
   exact AF (λe7=>six (.inr (.inl (by simpa using e5))) (by simpa using e7)) (λe7=>four _ inferInstance)
 ·try refine O ?_
  refine rdb ?_;try refine O ?_
  exact AF (λe7=>six (.inl (by simpa using e4)) (by simpa using e7)) (λe7=>four _ inferInstance)
end
theorem twice_walk2 {W:World}{base:Nat}{v0:Value}(o0:Value.okWide Tryz.prog W .any base 60 v0)(t0:Tr Tryz.prog W 60 v0.cells.toList)(ω:Om):
  CT ω 8 #[v0] (λv I' _=>v= .bool true∧Ext (Eb W) I') (Eb W) []:=by
 obtain ⟨cs,h1,h2,h3⟩:=Wh (Wi Tryz.underlying60 o0 t0);exact Wf h1 h2 (by omega) (λI' _ hI=>⟨rfl,hI⟩)
end Go.Proofs.YtmmfcgbfbcamcaaGreatDoor
