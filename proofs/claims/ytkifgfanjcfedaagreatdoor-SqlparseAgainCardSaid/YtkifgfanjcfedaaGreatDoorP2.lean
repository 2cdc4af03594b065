/- lemmas -/
import Derived.Test.YtkifgfanjcfedaaGreatDoorP1
import Derived.Deep.LoopGhost
import Derived.RangeFuncRecord
import Derived.IntWalk
import GoSem.ClaimJoined
import Derived.Below
import Derived.WideShapes
set_option maxRecDepth 100000
set_option maxHeartbeats 4000000
set_option linter.unusedVariables false
set_option linter.unusedSimpArgs false
set_option linter.unusedSectionVars false
namespace Go.SL
section
variable {P:Program}{PQ:List PanicEntry→List Deferred→World→Prop}{ops:Array Oper}{Sw:World→Prop}{kd:Nat→Nat}{nd:Nat→Bool}{rc:Nat→Nat→Bool}{Fin:Act→World→Prop}
def Rdy (rc:Nat→Nat→Bool)(i:Nat)(l:List Nat):Prop:=∀j∈l,j≠i→rc i j=false
theorem Rdy.erase {i j:Nat}{l:List Nat}(h:Rdy rc i l):Rdy rc i (l.erase j):=λk hk hne=>h k (List.mem_of_mem_erase hk) hne
def XM (P:Program)(PQ:List PanicEntry→List Deferred→World→Prop)(ops:Array Oper)(Sw:World→Prop)(kd:Nat→Nat)(nd:Nat→Bool)(rc:Nat→Nat→Bool)(Fin:Act→World→Prop):Nat→List Nat→Act→World→Prop
 |0,_,a,w=>Fin a w
 |f+1,l,a,w=>
  (∃i o v,i∈l∧kd i≠2∧Rdy rc i l∧ops[i]? =some o∧YieldsIf P ops (λw=>kd i=1→Sw w) o v a∧XM P PQ ops Sw kd nd rc Fin f (l.erase i) (a.put o.dst v) w)∨
  ((∀i∈l,Rdy rc i l→kd i=2)∧∀k∈l,Rdy rc k l→DL P ops (Qp PQ) k (λa' w'=>(nd k=true→Sw w')∧XM P PQ ops Sw kd nd rc Fin f (l.erase k) a' w') a w)
structure SerGOk (ops:Array Oper)(kd:Nat→Nat)(nd:Nat→Bool)(rc:Nat→Nat→Bool):Prop where
 sel:∀(j:Nat) (o:Oper) cs b,ops[j]? =some o→o.op≠.select cs b
 dep:∀i o,ops[i]? =some o→∀e∈o.after,Region.binds .any e=true→e.on < i
 ord:∀i j oi oj,j < i→ops[i]? =some oi→ops[j]? =some oj→rc i j=true∨(oj.apart ops oi=true∧oi.apart ops oj=true)
 need:∀i j,i < ops.size→j < ops.size→kd j=1→i≠j→rc i j=false→nd i=true
section main
variable (ok:SerGOk ops kd nd rc)
include ok
theorem SerGOk.apart {i j:Nat}{oi oj:Oper}(hi:ops[i]? =some oi)(hj:ops[j]? =some oj)(hne:i≠j)(h1:rc i j=false)(h2:rc j i=false):oi.apart ops oj=true∧oj.apart ops oi=true:=by
 rcases Nat.lt_or_gt_of_ne hne with h|h
 ·have:=(ok.ord j i oj oi h hj hi).resolve_left (by simp [h2]);exact this
 ·have:=(ok.ord i j oi oj h hi hj).resolve_left (by simp [h1]);exact ⟨this.2,this.1⟩
theorem AAW {i:Nat}{oi:Oper}(hi:ops[i]? =some oi)(hk:kd i≠2):∀(f:Nat) (l:List Nat) (a:Act) (w:World),l.Nodup→l.length=f+1→i∈l→Rdy rc i l→XM P PQ ops Sw kd nd rc Fin (f+1) l a w→
  ∃v,YieldsIf P ops (λw=>kd i=1→Sw w) oi v a∧XM P PQ ops Sw kd nd rc Fin f (l.erase i) (a.put oi.dst v) w:=by
 intro f;induction f with
 |zero=>
  intro l a w hnd hlen hm hrd h;rcases h with ⟨i',o',v',hm',hk',hrd',ho',hy',hs'⟩|⟨h2,_⟩
  ·have:i'=i:=by
    cases l with
    |nil=>cases hm
    |cons x l=>
     have:l=[]:=List.eq_nil_of_length_eq_zero (by simpa using hlen);subst this;simp only [List.mem_singleton] at hm hm';rw [hm,hm']
   subst this;rw [hi] at ho';simp only [Option.some.injEq] at ho';subst ho';exact ⟨v',hy',hs'⟩
  ·exact absurd (h2 i hm hrd) hk
 |succ f ih=>
  intro l a w hnd hlen hm hrd h;rcases h with ⟨i',o',v',hm',hk',hrd',ho',hy',hs'⟩|⟨h2,_⟩
  ·by_cases hii:i'=i
   ·subst hii;rw [hi] at ho';simp only [Option.some.injEq] at ho';subst ho';exact ⟨v',hy',hs'⟩
   ·have hm1:i∈l.erase i':=(List.mem_erase_of_ne (λe=>hii e.symm)).2 hm;obtain ⟨v,hy,hs⟩:=ih (l.erase i') _ w (hnd.erase i') (by rw [List.length_erase_of_mem hm',hlen];rfl) hm1 hrd.erase hs';obtain ⟨ap1,ap2⟩:=ok.apart hi ho' (λe=>hii e.symm) (hrd i' hm' hii) (hrd' i hm (λe=>hii e.symm));obtain ⟨a1,a2,a3⟩:=Oper.apart_spec ap1;obtain ⟨b1,b2,b3⟩:=Oper.apart_spec ap2;refine ⟨v,(Gv (ds:=a.defers) (ok.sel i oi · · hi) a3).1 hy,.inl ⟨i',o',v',(List.mem_erase_of_ne hii).2 hm',hk',hrd'.erase,ho',?_,?_⟩⟩
    ·exact (Gv (ds:=a.defers) (ok.sel i' o' · · ho') b3).2 hy'
    ·rw [List.erase_comm,Act.put_comm a v v' a2];exact hs
  ·exact absurd (h2 i hm hrd) hk
theorem AHi {k:Nat}{ok':Oper}(hi:ops[k]? =some ok')(hk:kd k=2):∀(f:Nat) (l:List Nat) (a:Act) (w:World),l.Nodup→l.length=f+1→k∈l→Rdy rc k l→XM P PQ ops Sw kd nd rc Fin (f+1) l a w→
  DL P ops (Qp PQ) k (λa' w'=>(nd k=true→Sw w')∧XM P PQ ops Sw kd nd rc Fin f (l.erase k) a' w') a w:=by
 intro f;induction f with
 |zero=>
  intro l a w hnd hlen hm hrd h;rcases h with ⟨i',o',v',hm',hk',hrd',ho',hy',hs'⟩|⟨_,h2⟩
  ·have:i'=k:=by
    cases l with
    |nil=>cases hm
    |cons x l=>
     have:l=[]:=List.eq_nil_of_length_eq_zero (by simpa using hlen);subst this;simp only [List.mem_singleton] at hm hm';rw [hm,hm']
   subst this;exact absurd hk hk'
  ·exact h2 k hm hrd
 |succ f ih=>
  intro l a w hnd hlen hm hrd h;rcases h with ⟨i',o',v',hm',hk',hrd',ho',hy',hs'⟩|⟨_,h2⟩
  ·have hii:i'≠k:=λe=>by subst e;exact hk' hk
   have hm1:k∈l.erase i':=(List.mem_erase_of_ne (λe=>hii e.symm)).2 hm;have:=ih (l.erase i') _ w (hnd.erase i') (by rw [List.length_erase_of_mem hm',hlen];rfl) hm1 hrd.erase hs';obtain ⟨ap1,ap2⟩:=ok.apart hi ho' (λe=>hii e.symm) (hrd i' hm' hii) (hrd' k hm (λe=>hii e.symm));have:=PM hi ap2 (ok.sel i' o' · · ho') (ok.sel k ok' · · hi) hy' this;refine FU ?_ this;rintro a' w' ⟨hy,hS,hs⟩;refine ⟨hS,.inl ⟨i',o',v',(List.mem_erase_of_ne hii).2 hm',hk',hrd'.erase,ho',hy,?_⟩⟩;rw [List.erase_comm];exact hs
  ·exact h2 k hm hrd
theorem Xt {Q:Exit→Act→World→Prop}(hQ:∀a w,Fin a w→Q .normal a w){Iv:Act→Prop}(hI:∀a o v ds,o∈ops→Iv a→Iv (({a with defers:=ds}:Act).put o.dst v))(hQP:∀c a w,Iv a→PQ c a.defers w→Q (.panic c) a w)
  (hrl:∀(listed:Array Bool) i,(∀k,listed.getD k false=true→∀o,ops[k]? =some o→∀e∈o.after,Region.binds .any e=true→listed.getD e.on false=true)→
   i∈Region.ready .any ops listed→∀j,rc i j=true→listed.getD j false=true):
  ∀(fuel:Nat) (listed:Array Bool) (l:List Nat) (a:Act) (w:World),Iv a→listed.size=ops.size→l.length=fuel→l.Pairwise (· < ·)→(∀i,i∈l↔i < ops.size∧listed.getD i true=false)→
   (∀k,listed.getD k false=true→∀o,ops[k]? =some o→∀e∈o.after,Region.binds .any e=true→listed.getD e.on false=true)→
   ((∃j∈l,kd j=1)→Sw w)→XM P PQ ops Sw kd nd rc Fin fuel l a w→MQ P ops Q fuel listed a w
 |0,listed,l,a,w,hv,hsz,hlen,hp,hmem,hdc,hS,h=>by
  have hl:l=[]:=List.eq_nil_of_length_eq_zero hlen;subst hl;refine ⟨?_,hQ a w h⟩;apply List.eq_nil_iff_forall_not_mem.2
  intro i hi;obtain ⟨h0,o,ho,_⟩:=mem_ready.1 hi;have:=(hmem i).2 ⟨(Array.getElem?_eq_some_iff.1 ho).1,h0⟩;cases this
 |fuel+1,listed,l,a,w,hv,hsz,hlen,hp,hmem,hdc,hS,h=>by
  have both:∀j,j < ops.size→(listed.getD j false=true∨listed.getD j true=false):=by
   intro j hj;have:j < listed.size:=by omega
   rw [Array.getD_eq_getD_getElem?,Array.getD_eq_getD_getElem?,Array.getElem?_eq_getElem this];cases listed[j] <;> simp
  refine ⟨λhnil=>?_,λi hi=>?_⟩
  ·cases l with
   |nil=>simp at hlen
   |cons j l=>
    exfalso
    have hjm:=(hmem j).1 (List.mem_cons_self ..);obtain ⟨oj,hj⟩:∃oj,ops[j]? =some oj:=⟨_,Array.getElem?_eq_getElem hjm.1⟩;have:j∈Region.ready .any ops listed:=mem_ready.2 ⟨hjm.2,oj,hj,λe he hb=>by
     have hlt:=ok.dep j oj hj e he hb;rcases both e.on (by omega) with h|h
     ·exact h
     ·have hm:=(hmem e.on).2 ⟨by omega,h⟩;rcases List.mem_cons.1 hm with h|h
      ·omega
      ·have:=(List.pairwise_cons.1 hp).1 _ h;omega⟩
    rw [hnil] at this;cases this
  ·obtain ⟨h0,oi,ho,hdeps⟩:=mem_ready.1 hi;have hlt:=(Array.getElem?_eq_some_iff.1 ho).1;have him:i∈l:=(hmem i).2 ⟨hlt,h0⟩;have hnd:l.Nodup:=hp.imp (λh=>Nat.ne_of_lt h);have hrc:∀j∈l,rc i j=false:=by
    intro j hj;cases hr:rc i j with
    |false=>rfl
    |true=>
     have h1:=hrl listed i hdc hi j hr;have h2:=((hmem j).1 hj).2;have:j < listed.size:=by have:=((hmem j).1 hj).1;omega
     rw [Array.getD_eq_getD_getElem?,Array.getElem?_eq_getElem this] at h1 h2;simp only [Option.getD_some] at h1 h2;rw [h1] at h2;cases h2
   have hom:oi∈ops:=Array.mem_of_getElem? ho;have next:∀a' w',Iv a'→((∃j∈l.erase i,kd j=1)→Sw w')→XM P PQ ops Sw kd nd rc Fin fuel (l.erase i) a' w'→MQ P ops Q fuel (listed.setIfInBounds i true) a' w':=by
    intro a' w' hv' hS' hs';refine Xt hQ hI hQP hrl fuel _ (l.erase i) a' w' hv' (by simp [hsz]) (by rw [List.length_erase_of_mem him,hlen];rfl) (hp.sublist List.erase_sublist) (λk=>?_) (λk hk o hok e he hb=>?_) hS' hs'
    ·rw [hnd.mem_erase_iff,hmem k];by_cases hki:k=i
     ·subst hki;have:k < listed.size:=by omega
      simp [this]
     ·rw [getD_set_ne true (λe=>hki e.symm)];simp [hki]
    ·by_cases hki:k=i
     ·subst hki;rw [ho] at hok;simp only [Option.some.injEq] at hok;subst hok;exact getD_set_true (hdeps e he hb)
     ·rw [getD_set_ne false (λe=>hki e.symm)] at hk;exact getD_set_true (hdc k hk o hok e he hb)
   by_cases hk:kd i=2
   ·refine ABi (λc w=>hQP c a w hv) (FU ?_ (OX ho (AHi ok ho hk fuel l a w hnd hlen him (λj hj _=>hrc j hj) h)));rintro a' w' ⟨⟨u,ds,rfl⟩,hS',hs'⟩;refine next _ w' (hI a oi u ds hom hv) (λ⟨j,hj,hkj⟩=>hS' ?_) hs';have hj':=(hnd.mem_erase_iff.1 hj);exact ok.need i j hlt ((hmem j).1 hj'.2).1 hkj (λe=>hj'.1 e.symm) (hrc j hj'.2)
   ·obtain ⟨v,hy,hs'⟩:=AAW ok ho hk fuel l a w hnd hlen him (λj hj _=>hrc j hj) h;have hSi:kd i=1→Sw w:=λh1=>hS ⟨i,him,h1⟩;exact ABh ho hy hSi (next _ w (hI a oi v a.defers hom hv) (λ⟨j,hj,hkj⟩=>hS ⟨j,List.mem_of_mem_erase hj,hkj⟩) hs')
end main
end
section
variable {P:Program}{ω:Om}{n:Nat}
def ANM (ω:Om)(S:M)(w:World):Prop:=∃I L,St ω w I L∧S I L
def AEM (ω:Om)(n:Nat)(Iv:Act→Prop)(K:Env→M)(a:Act)(w:World):Prop:=Iv a∧∃e I L,Rep n a e∧St ω w I L∧K e I L
def PP (ω:Om)(pn:Pnf)(c:List PanicEntry)(ds:List Deferred)(w:World):Prop:=∃e v I L,ds=dfs e.df∧c=[{v,recovered:=false}]∧St ω w I L∧ANO (Oi pn e) v I L
theorem PP.none {c:List PanicEntry}{ds:List Deferred}{w:World}:¬PP ω none c ds w:=λ⟨_,_,_,_,_,_,_,h⟩=>h
theorem Eh {pn:Pnf}{ops:Array Oper}{nd:Nat→Bool}{S:M}{K:Env→M}{Iv:Act→Prop}(hI:∀a o v,o∈ops→Iv a→Iv (a.put o.dst v)):
  ∀(rest:List Oper) (i:Nat) (md:Md) (e:Env) (a:Act) (w:World) (I:Imm) (L:LH),(∀k,rest[k]? =ops[i+k]?)→Iv a→Rep n a e→MdOk n ops md e→St ω w I L→
   FB P ω pn (some S) nd n ops i md rest e K I L→Ser P (PP ω pn) ops (ANM ω S) (EJ P ops) nd (AEM ω n Iv K) (List.range' i rest.length) a w
 |[],i,md,e,a,w,I,L,_,hv,hr,_,hs,h=>⟨hv,e,I,L,hr,hs,h⟩
 |o::rest,i,md,e,a,w,I,L,hops,hv,hr,hmd,hs,h=>by
  have ho:ops[i]? =some o:=by have:=hops 0;simpa using this.symm
  have hom:o∈ops:=Array.mem_of_getElem? ho;have hops':∀k,rest[k]? =ops[(i+1)+k]? :=λk=>by
   have:=hops (k+1);simp only [List.getElem?_cons_succ] at this;rw [this];congr 1;omega
  have hkd:EJ P ops i=opk P o.op:=by simp [EJ,ho]
  simp only [List.length_cons,List.range'_succ];refine ⟨o,ho,?_⟩;obtain ⟨e',hr,hpe,hstep⟩:=UY hr hmd h;rcases hstep with ⟨hw,md',hmd',h⟩|⟨hw,md',hmd',h⟩|⟨_,hS,_⟩
  rotate_right
  ·cases hS
  ·unfold RX at h;cases hop:BV P ω (Oi pn e) (e'.ev n) o.op with
   |pure r=>
    rw [hop] at h;simp only [chk,Option.isSome_some,Bool.not_true,Bool.false_or] at h;split at h
    ·rename_i hk
     have hk:=Nat.eq_of_beq_eq_true hk;cases r with
     |none=>exact h.elim
     |some v=>
      refine .inr ⟨by rw [hkd,hk];decide,v,.inl ⟨hw,λw' _=>JM hr hop w'⟩,?_⟩;exact Eh hI rest (i+1) md' _ _ w I L hops' (hI _ o _ hom hv) (hr.put _ _) (hmd' v) hs h
    ·exact h.elim
   |read R=>
    rw [hop] at h;simp only [chk,Option.isSome_some,Bool.not_true,Bool.false_or] at h;split at h
    ·rename_i hk
     have hk:=Nat.eq_of_beq_eq_true hk;obtain ⟨v,hR,hK⟩:=h;refine .inr ⟨by rw [hkd,hk];decide,v,.inl ⟨hw,λw' hS=>?_⟩,?_⟩
     ·obtain ⟨I',L',hs',hS'⟩:=hS (by rw [hkd,hk]);exact Lj hr hop hs' (hR I' L' hS')
     ·exact Eh hI rest (i+1) md' _ _ w I L hops' (hI _ o _ hom hv) (hr.put _ _) (hmd' v) hs hK
    ·exact h.elim
   |eff E=>
    rw [hop] at h;simp only [chk,Option.isSome_some,Bool.not_true,Bool.false_or] at h;split at h
    ·rename_i hk
     have hk:=Nat.eq_of_beq_eq_true hk;refine .inl ⟨by rw [hkd,hk],?_⟩;unfold DL;simp only [ho,hw,if_true];unfold wpR;refine Ja (λv w' I0 L0 hs0 hg=>?_) (λv w' I0 L0 hs0 hp=>⟨e',v,I0,L0,hr.defers,rfl,hs0,by rw [hpe];exact hp⟩) (TA hr hop hs h);obtain ⟨I',L',hs',hk'⟩:=OB hs0 hg;simp only [kp] at hk';split at hk'
     ·exact ⟨λ_=>⟨I',L',hs',hk'.1⟩,Eh hI rest (i+1) md' _ _ w' I' L' hops' (hI _ o _ hom hv) (hr.put _ _) (hmd' v) hs' hk'.2⟩
     ·rename_i hn
      exact ⟨λh=>absurd h hn,Eh hI rest (i+1) md' _ _ w' I' L' hops' (hI _ o _ hom hv) (hr.put _ _) (hmd' v) hs' hk'⟩
    ·exact h.elim
   |no=>rw [hop] at h;exact h.elim
  ·simp only [skM] at h;by_cases hk:EJ P ops i=2
   ·refine .inl ⟨hk,?_⟩;unfold DL;simp only [ho,hw,Bool.false_eq_true,if_false];rw [hkd] at hk;rw [hk] at h;cases hn:nd i with
    |true=>
     rw [hn] at h;simp only [Nat.beq_refl,Bool.and_self,if_true] at h;exact ⟨λ_=>⟨I,L,hs,h.1⟩,Eh hI rest (i+1) md' _ _ w I L hops' (hI _ o _ hom hv) (hr.put _ _) hmd' hs h.2⟩
    |false=>
     rw [hn] at h;simp only [Bool.false_and,Bool.false_eq_true,if_false] at h;exact ⟨(λh=>absurd h (by decide)),Eh hI rest (i+1) md' _ _ w I L hops' (hI _ o _ hom hv) (hr.put _ _) hmd' hs h⟩
   ·refine .inr ⟨hk,undef,.inr ⟨hw,rfl⟩,?_⟩;rw [hkd] at hk;have hb:Nat.beq (opk P o.op) 2=false:=by
     cases hb:Nat.beq (opk P o.op) 2 with
     |false=>rfl
     |true=>exact absurd (Nat.eq_of_beq_eq_true hb) hk
    simp only [hb,Bool.and_false,Bool.false_eq_true,if_false] at h;exact Eh hI rest (i+1) md' _ _ w I L hops' (hI _ o _ hom hv) (hr.put _ _) hmd' hs h
theorem Fb {b:Frame}{a:Act}{k:List Item}{cs:List Frame}{w:World}{c:Code}:step P (lone (b.atR a (.code (.scope c)::k)) cs w)= .next (lone (b.atR a (.code c:: .inScope c::k)) cs w):=
 step_lone_go (by simp [stepG,stepG.exec,Frame.atR])
theorem UN {b:Frame}{a:Act}{k:List Item}{cs:List Frame}{w:World}{c:Code}:step P (lone (b.atR a (.inScope c::k)) cs w)= .next (lone (b.atR a k) cs w):=
 step_lone_go (by simp [stepG,stepG.exec,Frame.atR])
theorem AAA {F:Fence}{n:Nat}{Q:Exit→Act→World→Prop}{a:Act}{w:World}{c:Code}(h:c.wpIn F n P Q a w)(hq0:∀l a w,¬Q (.goto l) a w):(Code.scope c).wpIn F n P Q a w:=by
 intro b k cs hro hb hr;have h0:(lone (b.atR a (.code (.scope c)::k)) cs w).fenced P F:=fenced_calm hb hr rfl;obtain ⟨e,a₁,w₁,hq,harr⟩:=h b (.inScope c::k) cs hro hb hr;cases e with
 |normal=>exact ⟨.normal,a₁,w₁,hq,.head h0 Fb (StepsIn.trans harr (.one (fenced_calm hb hr rfl) UN))⟩
 |exit id'=>
  have hx:exitTo id' (.inScope c::k)=exitTo id' k:=by simp [exitTo]
  exact ⟨.exit id',a₁,w₁,hq,λk' hk=>.head h0 Fb (harr.1 k' (by rw [hx];exact hk)),
   λhr' hk=>let ⟨k₁,h1,h2⟩:=harr.2 hr' (by rw [hx];exact hk);⟨k₁,h1,.head h0 Fb h2⟩⟩
 |goto l=>exact absurd hq (hq0 _ _ _)
 |ret=>exact ⟨_,a₁,w₁,hq,.of_steps (.one h0 Fb) harr⟩
 |panic ch=>exact ⟨_,a₁,w₁,hq,.of_steps (.one h0 Fb) harr⟩
 |outgrown=>exact ⟨_,a₁,w₁,hq,.of_steps (.one h0 Fb) harr⟩
theorem ZZ {I:Imm}{L:LH}:∀{Ms:List M} {A:M},ATU Ms I L→A∈Ms→A I L
 |[],_,h,_=>h.elim
 |[B],A,h,hm=>by simp only [List.mem_singleton] at hm;subst hm;exact h
 |B::C::r,A,h,hm=>by
  rcases List.mem_cons.1 hm with hm|hm
  ·subst hm;exact h.1
  ·exact ZZ h.2 hm
theorem rdyB_spec {rc:Nat→Nat→Bool}{i:Nat}{l:List Nat}:AIR rc i l=true↔Rdy rc i l:=by
 simp only [AIR,List.all_eq_true,Bool.or_eq_true,Bool.not_eq_true'];constructor
 ·intro h j hj hne;rcases h j hj with h|h
  ·exact absurd (Nat.eq_of_beq_eq_true h) hne
  ·exact h
 ·intro h j hj;by_cases e:j=i
  ·left;rw [e];exact Nat.beq_refl i
  ·right;exact h j hj e
theorem AFS {ops:Array Oper}{i:Nat}(h:EJ P ops i=2):GU P ops i=2:=by
 unfold GU;split
 ·rfl
 ·exact h
theorem AFU {ops:Array Oper}{i:Nat}(h:GU P ops i≠2)(h1:EJ P ops i=1):GU P ops i=1:=by
 unfold GU at h ⊢;split at h
 ·exact absurd rfl h
 ·rename_i hc;rw [if_neg hc];exact h1
theorem AFT {ops:Array Oper}{i:Nat}(h:GU P ops i=2):EJ P ops i≠0:=by
 unfold GU at h;split at h
 ·rename_i hc
  simp only [Bool.and_eq_true] at hc;have:=Nat.eq_of_beq_eq_true hc.1;omega
 ·omega
theorem JZ {pn:Pnf}{ops:Array Oper}{nd:Nat→Bool}{rc:Nat→Nat→Bool}{S:M}{K:Env→M}{Iv:Act→Prop}(hI:∀a o v,o∈ops→Iv a→Iv (a.put o.dst v))(hg:∀(i:Nat) o,ops[i]? =some o→o.guard=none):
  ∀(f:Nat) (l:List Nat) (e:Env) (a:Act) (w:World) (I:Imm) (L:LH),Iv a→Rep n a e→St ω w I L→(∀i∈l,i < ops.size)→
   vcG P ω pn S nd (GU P ops) rc n ops f l e K I L→XM P (PP ω pn) ops (ANM ω S) (GU P ops) nd rc (AEM ω n Iv K) f l a w
 |0,l,e,a,w,I,L,hv,hr,hs,_,h=>⟨hv,e,I,L,hr,hs,h⟩
 |f+1,l,e,a,w,I,L,hv,hr,hs,hlt,h=>by
  unfold vcG at h;have hlt':∀i,∀j∈l.erase i,j < ops.size:=λi j hj=>hlt j (List.mem_of_mem_erase hj);have hw:∀(i:Nat) (o:Oper),ops[i]? =some o→Region.wanted o (yielded ops a.tmps)=true:=λi o ho=>by simp [Region.wanted,hg i o ho]
  cases hf:l.find? (λi=> !Nat.beq (GU P ops i) 2&&AIR rc i l) with
  |some i=>
   simp only [hf] at h;have hp:=List.find?_some hf;have hm:=List.mem_of_find?_eq_some hf;simp only [Bool.and_eq_true,Bool.not_eq_true'] at hp;have hrd:=rdyB_spec.1 hp.2;have hk2:GU P ops i≠2:=λe=>by rw [e] at hp;simp at hp
   cases ho:ops[i]? with
   |some o=>
    simp only [ho] at h;have hom:o∈ops:=Array.mem_of_getElem? ho;have hkd:EJ P ops i=opk P o.op:=by simp [EJ,ho]
    unfold RX at h;cases hop:BV P ω (Oi pn e) (e.ev n) o.op with
    |pure r=>
     rw [hop] at h;simp only [chk,Option.isSome_some,Bool.not_true,Bool.false_or] at h;split at h
     ·cases r with
      |none=>exact h.elim
      |some v=>exact .inl ⟨i,o,v,hm,hk2,hrd,ho,.inl ⟨hw i o ho,λw' _=>JM hr hop w'⟩,JZ hI hg f _ _ _ w I L (hI _ o _ hom hv) (hr.put _ _) hs (hlt' i) h⟩
     ·exact h.elim
    |read R=>
     rw [hop] at h;simp only [chk,Option.isSome_some,Bool.not_true,Bool.false_or] at h;split at h
     ·rename_i hk
      have hk:=Nat.eq_of_beq_eq_true hk;obtain ⟨v,hR,hK⟩:=h;refine .inl ⟨i,o,v,hm,hk2,hrd,ho,.inl ⟨hw i o ho,λw' hS=>?_⟩,JZ hI hg f _ _ _ w I L (hI _ o _ hom hv) (hr.put _ _) hs (hlt' i) hK⟩;obtain ⟨I',L',hs',hS'⟩:=hS (AFU hk2 (by rw [hkd,hk]));exact Lj hr hop hs' (hR I' L' hS')
     ·exact h.elim
    |eff E=>
     rw [hop] at h;simp only [chk,Option.isSome_some,Bool.not_true,Bool.false_or] at h;split at h
     ·rename_i hk
      have hk:=Nat.eq_of_beq_eq_true hk;exact absurd (AFS (hkd.trans hk)) hk2
     ·exact h.elim
    |no=>rw [hop] at h;exact h.elim
   |none=>simp only [ho] at h;exact h.elim
  |none=>
   simp only [hf] at h;refine .inr ⟨λi hi hrd=>?_,λk hk hrd=>?_⟩
   ·have:=List.find?_eq_none.1 hf i hi;simp only [Bool.and_eq_true,Bool.not_eq_true',not_and,Bool.not_eq_true] at this;cases hb:Nat.beq (GU P ops i) 2 with
    |true=>exact Nat.eq_of_beq_eq_true hb
    |false=>have:=this hb;rw [rdyB_spec.2 hrd] at this;cases this
   ·have h:=ZZ h (List.mem_map.2 ⟨k,List.mem_filter.2 ⟨hk,rdyB_spec.2 hrd⟩,rfl⟩);have hk2:GU P ops k=2:=by
     have:=List.find?_eq_none.1 hf k hk;simp only [Bool.and_eq_true,Bool.not_eq_true',not_and,Bool.not_eq_true] at this;cases hb:Nat.beq (GU P ops k) 2 with
     |true=>exact Nat.eq_of_beq_eq_true hb
     |false=>have:=this hb;rw [rdyB_spec.2 hrd] at this;cases this
    cases ho:ops[k]? with
    |some o=>
     simp only [ho] at h;have hom:o∈ops:=Array.mem_of_getElem? ho;have hkd:EJ P ops k=opk P o.op:=by simp [EJ,ho]
     have hk0:=AFT hk2;rw [hkd] at hk0;unfold ANR RX at h;cases hop:BV P ω (Oi pn e) (e.ev n) o.op with
     |pure r=>
      rw [hop] at h;simp only [chk,Option.isSome_some,Bool.not_true,Bool.false_or] at h;split at h
      ·rename_i hz
       exact absurd (Nat.eq_of_beq_eq_true hz) hk0
      ·exact h.elim
     |read R=>
      rw [hop] at h;obtain ⟨v,hR,hK⟩:=h;unfold DL;simp only [ho,hw k o ho,if_true];unfold wpR;rw [Lj hr hop hs hR];refine Ja (K:=λv' I0 L0=>v'=v∧kp (some S) (nd k) (λv=>vcG P ω pn S nd (GU P ops) rc n ops f (l.erase k) (e.upd o.dst v) K) v I0 L0) (Pn:=λ_ _ _=>False) (λv' w' I0 L0 hs0 hgg=>?_) (λ_ _ _ _ _ hp=>hp.elim) (show ZW P ω _ _ (.ok (.value v) w) from ⟨I,L,hs,rfl,hK⟩);obtain ⟨rfl,hk'⟩:=hgg;simp only [kp] at hk';split at hk'
      ·exact ⟨λ_=>⟨I0,L0,hs0,hk'.1⟩,JZ hI hg f _ _ _ w' I0 L0 (hI _ o _ hom hv) (hr.put _ _) hs0 (hlt' k) hk'.2⟩
      ·rename_i hn
       exact ⟨λh=>absurd h hn,JZ hI hg f _ _ _ w' I0 L0 (hI _ o _ hom hv) (hr.put _ _) hs0 (hlt' k) hk'⟩
     |eff E=>
      rw [hop] at h;simp only [chk,Option.isSome_some,Bool.not_true,Bool.false_or] at h;split at h
      case isFalse=>exact h.elim
      unfold DL;simp only [ho,hw k o ho,if_true];unfold wpR;refine Ja (λv w' I0 L0 hs0 hgg=>?_) (λv w' I0 L0 hs0 hp=>⟨e,v,I0,L0,hr.defers,rfl,hs0,hp⟩) (TA hr hop hs h);obtain ⟨I',L',hs',hk'⟩:=OB hs0 hgg;simp only [kp] at hk';split at hk'
      ·exact ⟨λ_=>⟨I',L',hs',hk'.1⟩,JZ hI hg f _ _ _ w' I' L' (hI _ o _ hom hv) (hr.put _ _) hs' (hlt' k) hk'.2⟩
      ·rename_i hn
       exact ⟨λh=>absurd h hn,JZ hI hg f _ _ _ w' I' L' (hI _ o _ hom hv) (hr.put _ _) hs' (hlt' k) hk'⟩
     |no=>rw [hop] at h;exact h.elim
    |none=>simp only [ho] at h;exact h.elim
theorem AIQ {ops:Array Oper}(hdep:∀i o,ops[i]? =some o→∀e∈o.after,Region.binds .any e=true→e.on < i):∀(f i j:Nat),reach ops f i j=true→j < i
 |0,_,_,h=>by simp [reach] at h
 |f+1,i,j,h=>by
  simp only [reach] at h;cases ho:ops[i]? with
  |none=>rw [ho] at h;simp at h
  |some o=>
   rw [ho] at h;simp only at h
   obtain ⟨e,he,hb⟩:=Array.any_eq_true'.1 h;simp only [Bool.and_eq_true,Bool.or_eq_true] at hb;have hlt:=hdep i o ho e he hb.1;rcases hb.2 with hb|hb
   ·have:=Nat.eq_of_beq_eq_true hb;omega
   ·have:=hb.1;simp [Nat.blt_eq] at this;omega
theorem Jg {ops:Array Oper}{listed:Array Bool}(hdc:∀k,listed.getD k false=true→∀o,ops[k]? =some o→∀e∈o.after,Region.binds .any e=true→listed.getD e.on false=true):
  ∀(f i j:Nat),(∀o,ops[i]? =some o→∀e∈o.after,Region.binds .any e=true→listed.getD e.on false=true)→reach ops f i j=true→listed.getD j false=true
 |0,_,_,_,h=>by simp [reach] at h
 |f+1,i,j,hi,h=>by
  simp only [reach] at h;cases ho:ops[i]? with
  |none=>rw [ho] at h;simp at h
  |some o=>
   rw [ho] at h;simp only at h
   obtain ⟨e,he,hb⟩:=Array.any_eq_true'.1 h;simp only [Bool.and_eq_true,Bool.or_eq_true] at hb;have hl:=hi o ho e he hb.1;rcases hb.2 with hb|hb
   ·have:=Nat.eq_of_beq_eq_true hb;rw [←this];exact hl
   ·exact Jg hdc f e.on j (λo' ho'=>hdc e.on hl o' ho') hb.2
theorem AEn {PQ:List PanicEntry→List Deferred→World→Prop}{ops:Array Oper}(h:WO P ops=true)(hpan:(∀c ds w,¬PQ c ds w)∨AQV P ops=true):SerOk PQ ops (EJ P ops) (AAt P ops) (λi j=>reach ops ops.size i j):=by
 unfold WO at h;simp only [Bool.and_eq_true,List.all_eq_true,List.mem_range] at h;obtain ⟨hsel,hall⟩:=h;have hdep:∀i o,ops[i]? =some o→∀e∈o.after,Region.binds .any e=true→e.on < i:=by
  intro i o ho e he hb;have:=hall i (Array.getElem?_eq_some_iff.1 ho).1;rw [ho] at this;simp only [Bool.and_eq_true,Array.all_eq_true_iff_forall_mem] at this;have h1:=this.1 e he;rw [hb] at h1;simpa [Nat.blt_eq] using h1
 refine ⟨hpan.imp id (λhp i j hji hi hk hk2=>?_),Region.noSelect_spec hsel,hdep,λi j oi oj hji hi hj=>?_,λi j hr=>AIQ hdep _ _ _ hr,λi j hi hj hk hne hr=>?_⟩
 ·unfold AQV at hp;simp only [List.all_eq_true,List.mem_range,Bool.or_eq_true,Bool.not_eq_true'] at hp;rcases hp i hi j hji with (h1|h1)|h1
  ·exact absurd (Nat.eq_of_beq_eq_true h1) hk
  ·rw [hk2] at h1;simp at h1
  ·exact h1
 ·have:=hall i (Array.getElem?_eq_some_iff.1 hi).1;rw [hi] at this;simp only [Bool.and_eq_true,List.all_eq_true,List.mem_range] at this;have h1:=this.2 j hji;rw [hj] at h1;simp only [Bool.or_eq_true,Bool.and_eq_true] at h1;rcases h1 with h1|h1
  ·exact .inl h1
  ·refine .inr ⟨h1.1.1,h1.1.2,?_⟩;rintro ⟨k1,k2⟩;simp only [EJ,hi] at k1;simp only [EJ,hj] at k2;rw [k1,k2] at h1;simp at h1
 ·unfold AAt;simp only [List.any_eq_true,List.mem_range,Bool.and_eq_true,Bool.not_eq_true'];refine ⟨j,hj,⟨by rw [hk];rfl,?_⟩,hr⟩;cases hb:Nat.beq i j with
  |false=>rfl
  |true=>exact absurd (Nat.eq_of_beq_eq_true hb) hne
theorem AQp {ops:Array Oper}(h:AQq ops=true):SerGOk ops (GU P ops) (AIy P ops) (λi j=>reach ops ops.size i j)∧∀(i:Nat) o,ops[i]? =some o→o.guard=none:=by
 unfold AQq at h;simp only [Bool.and_eq_true,List.all_eq_true,List.mem_range] at h;obtain ⟨hsel,hall⟩:=h;have hdep:∀i o,ops[i]? =some o→∀e∈o.after,Region.binds .any e=true→e.on < i:=by
  intro i o ho e he hb;have:=hall i (Array.getElem?_eq_some_iff.1 ho).1;rw [ho] at this;simp only [Bool.and_eq_true,Array.all_eq_true_iff_forall_mem] at this;have h1:=this.1.2 e he;rw [hb] at h1;simpa [Nat.blt_eq] using h1
 refine ⟨⟨Region.noSelect_spec hsel,hdep,λi j oi oj hji hi hj=>?_,λi j hi hj hk hne hr=>?_⟩,λi o ho=>?_⟩
 ·have:=hall i (Array.getElem?_eq_some_iff.1 hi).1;rw [hi] at this;simp only [Bool.and_eq_true,List.all_eq_true,List.mem_range] at this;have h1:=this.2 j hji;rw [hj] at h1;simp only [Bool.or_eq_true,Bool.and_eq_true] at h1;exact h1
 ·unfold AIy;simp only [List.any_eq_true,List.mem_range,Bool.and_eq_true,Bool.not_eq_true'];refine ⟨j,hj,⟨by rw [hk];rfl,?_⟩,hr⟩;cases hb:Nat.beq i j with
  |false=>rfl
  |true=>exact absurd (Nat.eq_of_beq_eq_true hb) hne
 ·have:=hall i (Array.getElem?_eq_some_iff.1 ho).1;rw [ho] at this;simp only [Bool.and_eq_true] at this;simpa using this.1.1
theorem YB {r:Option Nat}{m:Nat}{pn:Pnf}{ops:Array Oper}{K:Env→M}{Q:Exit→Act→World→Prop}{id:Nat}{e:Env}{a:Act}{w:World}{I:Imm}{L:LH}(hm:P.follows .mixedOrders=true)
  {Iv Jv:Act→Prop} (hd:∀o∈ops,okD r o) (hI:∀a o v,o∈ops→Iv a→Iv (a.put o.dst v)) (hJ:∀a o v ds,o∈ops→Jv a→Jv (({a with defers:=ds}:Act).put o.dst v)) (hv:Iv a) (hj:Jv a) (hQ:∀a w e I L,Iv a→Rep n a e→St ω w I L→K e I L→Q .normal a w) (hP:AEH ω pn Jv Q) (hr:Rep n a e) (hs:St ω w I L) (h:AAC P ω pn n ops e K I L):
  (Code.region id ops true).wpIn (Fr r) m P Q a w:=by
 have hQP:∀c a w,Jv a→PP ω pn c a.defers w→Q (.panic c) a w:=λc a w hj ⟨e,v,I,L,h1,h2,h3,h4⟩=>by
  subst h2;exact hP a e w v I L hj h1 h3 h4
 unfold AAC at h;split at h
 ·rename_i hser
  obtain ⟨S,hS,h⟩:=h;simp only [Bool.and_eq_true,Bool.or_eq_true] at hser;have ok:=AEn (P:=P) (PQ:=PP ω pn) hser.1 (hser.2.imp (λh=>by
   cases pn with
   |none=>exact λ_ _ _=>PP.none
   |some _=>cases h) (λh=>h))
  refine SI hm hd ?_;have hs':St ω {w with drawn:=w.drawn+1} I L:=hs.drew (Nat.le_succ _);have hser':=Eh hI ops.toList 0 [] e a _ I L (λk=>by simp) hv hr (MdOk.none _ _) hs' h;refine ADE ok (Sw:=ANM ω S) (Fin:=AEM ω n Iv K) (λa w ⟨h0,e,I,L,h1,h2,h3⟩=>hQ a w e I L h0 h1 h2 h3) hJ hQP ?_ ops.size (Array.replicate ops.size false) (List.range ops.size) a _ hj (by simp) (by simp)
   List.pairwise_lt_range (λi=>?_) (λk hk=>?_) (λ_=>⟨I,L,hs',hS⟩) ?_
  ·intro listed i hdc hi j hr;obtain ⟨_,o,ho,hdeps⟩:=mem_ready.1 hi;exact Jg hdc _ i j (λo' ho'=>by rw [ho] at ho';simp only [Option.some.injEq] at ho';subst ho';exact hdeps) hr
  ·rw [List.mem_range];constructor
   ·intro hi;exact ⟨hi,by simp [hi]⟩
   ·exact λh=>h.1
  ·exfalso
   by_cases hk':k < ops.size
   ·simp [hk'] at hk
   ·simp [hk'] at hk
  ·rw [List.range_eq_range'];simpa using hser'
 ·split at h
  ·rename_i hgen
   obtain ⟨S,hS,h⟩:=h;obtain ⟨ok,hg⟩:=AQp (P:=P) hgen;refine SI hm hd ?_;have hs':St ω {w with drawn:=w.drawn+1} I L:=hs.drew (Nat.le_succ _);have hser':=JZ hI hg ops.size (List.range ops.size) e a _ I L hv hr hs' (λi hi=>List.mem_range.1 hi) h;refine Xt ok (Sw:=ANM ω S) (Fin:=AEM ω n Iv K) (λa w ⟨h0,e,I,L,h1,h2,h3⟩=>hQ a w e I L h0 h1 h2 h3) hJ hQP ?_ ops.size (Array.replicate ops.size false) (List.range ops.size) a _ hj (by simp) (by simp)
    List.pairwise_lt_range (λi=>?_) (λk hk=>?_) (λ_=>⟨I,L,hs',hS⟩) hser'
   ·intro listed i hdc hi j hr;obtain ⟨_,o,ho,hdeps⟩:=mem_ready.1 hi;exact Jg hdc _ i j (λo' ho'=>by rw [ho] at ho';simp only [Option.some.injEq] at ho';subst ho';exact hdeps) hr
   ·rw [List.mem_range];constructor
    ·intro hi;exact ⟨hi,by simp [hi]⟩
    ·exact λh=>h.1
   ·exfalso
    by_cases hk':k < ops.size
    ·simp [hk'] at hk
    ·simp [hk'] at hk
  ·exact h.elim
def PnX:Pnx→Env→Value→M
 |none,_,_=>F
 |some p,e,v=>p e v
def PX (ω:Om)(n:Nat)(pn:Pnx)(c:List PanicEntry)(a:Act)(w:World):Prop:=∃e v I L,Rep n a e∧c=[{v,recovered:=false}]∧St ω w I L∧PnX pn e v I L
theorem PX.none {c:List PanicEntry}{a:Act}{w:World}:¬PX ω n none c a w:=λ⟨_,_,_,_,_,_,_,h⟩=>h
def AVz (ω:Om)(n:Nat)(pn:Pnx)(K:Env→M)(X:Nat→Env→M)(R:Env→M)(S:Act→Prop):Exit→Act→World→Prop
 | .normal,a,w=>S a∧∃e I L,Rep n a e∧St ω w I L∧K e I L
 | .exit id,a,w=>S a∧∃e I L,Rep n a e∧St ω w I L∧X id e I L
 | .ret,a,w=>S a∧∃e I L,Rep n a e∧St ω w I L∧R e I L
 | .panic c,a,w=>PX ω n pn c a w
 |_,_,_=>False
structure Same (l:List Nat)(pl:Bool)(a a':Act):Prop where
 tm:∀t,MC t l=false→a'.tmps.getD t undef=a.tmps.getD t undef
 df:pl=true→a'.defers=a.defers
theorem memB_mem {t:Nat}:∀{l:List Nat},MC t l=true↔t∈l
 |[]=>by simp [MC]
 |x::xs=>by
  simp only [MC,Bool.or_eq_true,List.mem_cons,memB_mem (l:=xs)];constructor
  ·rintro (h|h)
   ·exact .inl (Nat.eq_of_beq_eq_true h)
   ·exact .inr h
  ·rintro (h|h)
   ·subst h;exact .inl (Nat.beq_refl _)
   ·exact .inr h
theorem Ov {n:Nat}{a:Act}{e:Env}(hr:Rep n a e):∀(ss:List Nat) (s:Tup ss),ABB e ss=some s→∀(e0:Env),Rep n a e0→a.defers=dfs e0.df→Rep n a (AHg e0 ss s)
 |[],_,_,e0,h0,_=>h0
 |t::ss,s,h,e0,h0,hd0=>by
  simp only [ABB] at h;split at h
  ·cases h
  ·rename_i v hv
   split at h
   ·cases h
   ·rename_i r hrr
    injection h with h'
    subst h';have ih:=Ov hr ss r hrr e0 h0 hd0;refine ⟨ih.size,ih.defers,λt' v' ht' hv'=>?_⟩;simp only [AHg,Env.upd] at hv';split at hv'
    ·rename_i hb
     have:=Nat.eq_of_beq_eq_true hb;subst this;simp only [Option.some.injEq] at hv';subst hv';exact hr.at' t' _ ht' hv
    ·exact ih.at' t' v' ht' hv'
theorem Rep.weaken {n:Nat}{a:Act}{e e':Env}(h:Rep n a e)(hle:∀t v,e'.t t=some v→e.t t=some v)(hd:e'.df=e.df):Rep n a e':=
 ⟨h.size,by rw [hd];exact h.defers,λt v ht hv=>h.at' t v ht (hle t v hv)⟩
theorem AQx (e:Env)(l:List Nat):∀t v,(clr e l).t t=some v→e.t t=some v:=by
 intro t v h;unfold clr at h;simp only at h
 split at h
 ·cases h
 ·exact h
theorem Same.refl (l:List Nat)(pl:Bool)(a:Act):Same l pl a a:=⟨λ_ _=>rfl,λ_=>rfl⟩
theorem PU {t:Nat}{l l':List Nat}:MC t (l++l')=false→MC t l=false∧MC t l'=false:=by
 intro h;constructor
 ·cases hb:MC t l with
  |false=>rfl
  |true=>rw [memB_mem.2 (List.mem_append_left _ (memB_mem.1 hb))] at h;cases h
 ·cases hb:MC t l' with
  |false=>rfl
  |true=>rw [memB_mem.2 (List.mem_append_right _ (memB_mem.1 hb))] at h;cases h
theorem Same.trans {l:List Nat}{pl:Bool}{a b c:Act}(h:Same l pl a b)(h':Same l pl b c):Same l pl a c:=⟨λt ht=>(h'.tm t ht).trans (h.tm t ht),λhp=>(h'.df hp).trans (h.df hp)⟩
theorem Same.left {l l':List Nat}{p p':Bool}{a b:Act}(h:Same l p a b):Same (l++l') (p&&p') a b:=⟨λt ht=>h.tm t (PU ht).1,λhp=>h.df (by simp at hp;exact hp.1)⟩
theorem Same.right {l l':List Nat}{p p':Bool}{a b:Act}(h:Same l' p' a b):Same (l++l') (p&&p') a b:=⟨λt ht=>h.tm t (PU ht).2,λhp=>h.df (by simp at hp;exact hp.2)⟩
theorem Same.any {l:List Nat}{p:Bool}{a b:Act}(h:Same l true a b):Same l p a b:=⟨h.tm,λ_=>h.df rfl⟩
theorem AHk {l:List Nat}{pl:Bool}{a b:Act}(h:Same l pl a b){d:Option Tmp}{v:Value}(hd:∀t,d=some t→MC t l=true):Same l pl a (b.put d v):=by
 refine ⟨λt ht=>?_,λhp=>?_⟩
 ·cases d with
  |none=>exact h.tm t ht
  |some d=>
   have hne:d≠t:=λe=>by subst e;rw [hd d rfl] at ht;cases ht
   rw [←h.tm t ht];simp only [Act.put,Array.getD_eq_getD_getElem?];rw [Array.getElem?_setIfInBounds_ne hne]
 ·cases d with
  |none=>exact h.df hp
  |some d=>exact h.df hp
theorem TG:∀(l:List Oper) (o:Oper) (t:Nat),o∈l→o.dst=some t→MC t (Hq l)=true
 |[],_,_,h,_=>by cases h
 |x::l,o,t,h,hd=>by
  simp only [Hq];rcases List.mem_cons.1 h with h|h
  ·subst h;rw [hd];simp only [MC,Nat.beq_refl,Bool.true_or]
  ·have:=TG l o t h hd;split
   ·simp only [MC,this,Bool.or_true]
   ·exact this
theorem AHf {n:Nat}{l:List Nat}{e:Env}{a a':Act}(hr:Rep n a e)(hsz:a'.tmps.size=n)(hs:Same l true a a'):Rep n a' (clr e l):=by
 refine ⟨hsz,(hs.df rfl).trans hr.defers,λt v ht hv=>?_⟩;unfold clr at hv;simp only at hv
 split at hv
 ·cases hv
 ·rename_i hm
  rw [hs.tm t (by simpa using hm)];exact hr.at' t v ht hv
theorem AAy {F:Fence}{rm:Nat}{Q:Exit→Act→World→Prop}{a:Act}{w:World}{c:Code}(I:Nat→Act→World→Prop)(n₀:Nat)(h₀:I n₀ a w)
  (round:∀n a w,I n a w→c.wpIn F rm P (Exit.then (λa' w'=>∃n',n' < n∧I n' a' w') Q) a w):(Code.loop c).wpIn F rm P Q a w:=by
 refine wpIn_loop (λa w=>∃n,I n a w) (λa w=>leastOf (λn=>I n a w)) ⟨n₀,h₀⟩ ?_;intro a w hI;refine wpIn_mono (round _ a w (leastOf_spec hI).1) ?_;intro e a' w' hq;cases e with
 |normal=>
  obtain ⟨n',hlt,hI'⟩:=hq;exact show (∃n,I n a' w')∧leastOf (λn=>I n a' w') < leastOf (λn=>I n a w) from ⟨⟨n',hI'⟩,Nat.lt_of_le_of_lt ((leastOf_spec ⟨n',hI'⟩).2 n' hI') hlt⟩
 |exit id=>exact hq
 |goto l=>exact hq
 |ret=>exact hq
 |panic ch=>exact hq
 |outgrown=>exact hq
theorem JC:∀{l:List Oper},Gy l=true→∀o∈l,∀c,o.op≠.defer c
 |[],_,o,h,_=>by cases h
 |x::l,hp,o,h,c=>by
  simp only [Gy,Bool.and_eq_true] at hp;rcases List.mem_cons.1 h with rfl|h
  ·intro e;rw [e] at hp;simp at hp
  ·exact JC hp.2 o h c
theorem AIu {r:Option Nat}{ops:Array Oper}(h:r=none∨Gy ops.toList=true):∀o∈ops,okD r o:=λo ho=>h.imp id λh=>JC h o (Array.mem_toList_iff.2 ho)
def AMQ:Env→List Tmp→List Value→Env
 |e,p::ps,v::vs=>AMQ (e.upd (some p) v) ps vs
 |e,_,_=>e
theorem YA:∀{ps:List Tmp} {vs:List Value} {a:Act} {e:Env},Rep n a e→Rep n {tmps:=(ps.zip vs).foldl (λt (p,v)=>t.setIfInBounds p v) a.tmps,defers:=[]} ((AMQ e ps vs).df' [])
 |[],vs,a,e,h=>by
  refine ⟨h.size,rfl,λt v ht hv=>?_⟩;cases vs <;> exact h.at' t v ht hv
 |p::ps,[],a,e,h=>⟨h.size,rfl,λt v ht hv=>h.at' t v ht hv⟩
 |p::ps,v::vs,a,e,h=>YA (a:=a.put (some p) v) (e:=e.upd (some p) v) (h.put (some p) v)
theorem AEE {I:Imm}{L:LH}{id:Nat}:∀{l:List (Nat×M)},asL l id I L→∃A,(id,A)∈l∧A I L
 |[],h=>h.elim
 |(i,A)::r,h=>by
  simp only [asL] at h;split at h
  ·rename_i hb
   have:=Nat.eq_of_beq_eq_true hb;subst this;exact ⟨A,List.mem_cons_self ..,h⟩
  ·obtain ⟨B,h1,h2⟩:=AEE h;exact ⟨B,List.mem_cons_of_mem _ h1,h2⟩
theorem Wv {f:FuncId}(he:CX P f=true)(args:Array Value)(w:World):(callFunc f args).run P w= .ok (.enter f args) w:=by
 unfold CX at he;split at he
 ·rename_i fn hf
  simp only [Bool.and_eq_true,bne_iff_ne,ne_eq] at he;have hn : (fn.name == "runtime.NumGoroutine") = false := by simpa using he.1
  have hb:fn.body.isNone=false:=by
   cases hb:fn.body with
   |none=>simp [hb] at he
   |some _=>rfl
  simp only [callFunc,Sem.run_bind,run_program,Result.andThen_ok,hf,hn,hb,Bool.false_eq_true,if_false,Sem.run_pure]
 ·cases he
theorem RU (hm:P.follows .mixedOrders=true):∀(c:Code) (r:Option Nat) (m:Nat) (pn:Pnx) (K:Env→M) (X:Nat→Env→M) (R:Env→M) (e:Env) (a:Act) (w:World) (I:Imm) (L:LH),
  (r=none∨DR c=true)→Rep n a e→St ω w I L→vc P ω pn n c K X R e I L→c.wpIn (Fr r) m P (AVz ω n pn K X R (Same (asg c) (DR c) a)) a w:=by
 intro c;induction c with
 |skip=>exact λr m pn K X R e a w I L hpl hr hs h=>wpIn_skip ⟨Same.refl _ _ _,e,I,L,hr,hs,h⟩
 |label l=>exact λr m pn K X R e a w I L hpl hr hs h=>wpIn_label ⟨Same.refl _ _ _,e,I,L,hr,hs,h⟩
 |region id ops draw=>
  intro r m pn K X R e a w I L hpl hr hs h;have hI:∀pl a' o v,o∈ops→Same (Hq ops.toList) pl a a'→Same (Hq ops.toList) pl a (a'.put o.dst v):=
   λpl a' o v ho hsm=>AHk hsm λt ht=>TG ops.toList o t (Array.mem_toList_iff.2 ho) ht
  have hsz:∀(a':Act) (o:Oper) (v:Value) (ds:List Deferred),(({a' with defers:=ds}:Act).put o.dst v).tmps.size=a'.tmps.size:=λa' o v ds=>by cases hd:o.dst <;> simp [Act.put]
  have hsz':∀(a':Act) (o:Oper) (v:Value),(a'.put o.dst v).tmps.size=a'.tmps.size:=λa' o v=>hsz a' o v a'.defers;have hP:AEH ω (pnR pn e ops) (λa'=>Same (Hq ops.toList) false a a'∧a'.tmps.size=a.tmps.size) (AVz ω n pn K X R (Same (asg (.region id ops draw)) (DR (.region id ops draw)) a)):=λa' e1 w v I L hj hd hs hp=>by
   cases pn with
   |none=>exact hp.elim
   |some p=>
    refine ⟨⟨(clr e (Hq ops.toList)).t,e1.df⟩,v,I,L,⟨hj.2.trans hr.size,hd,λt u ht hu=>?_⟩,rfl,hs,hp⟩;unfold clr at hu;simp only at hu
    split at hu
    ·cases hu
    ·rename_i hmm
     rw [hj.1.tm t (by simpa using hmm)];exact hr.at' t u ht hu
  cases draw with
  |false=>
   refine AAe (Iv:=λa'=>Same (Hq ops.toList) (Gy ops.toList) a a'∧a'.tmps.size=a.tmps.size) (AIu hpl) (λa' o v ho h=>⟨hI _ a' o v ho h.1,(hsz' a' o v).trans h.2⟩) (λa' o ds ho hdo h=>?_) ⟨Same.refl _ _ _,rfl⟩ (λa w e I L hv hr hs hk=>⟨hv.1,e,I,L,hr,hs,hk⟩)
    (λa' h=>⟨⟨h.1.tm,λh=>by cases h⟩,h.2⟩) hP hr hs h
   have hpf:Gy ops.toList=false:=by
    cases hb:Gy ops.toList with
    |false=>rfl
    |true=>obtain ⟨c,hc⟩:=hdo;exact absurd hc (JC hb o (Array.mem_toList_iff.2 ho) c)
   refine ⟨⟨λt ht=>?_,λh=>by rw [hpf] at h;cases h⟩,(hsz a' o undef ds).trans h.2⟩;have:=(hI _ a' o undef ho h.1).tm t ht;cases hd:o.dst <;> simp only [hd,Act.put] at this ⊢ <;> exact this
  |true=>
   refine YB (Iv:=Same (Hq ops.toList) true a) hm (AIu hpl) (hI true) (λa' o v ds ho h=>⟨⟨λt ht=>?_,λh=>by cases h⟩,(hsz a' o v ds).trans h.2⟩) (Same.refl _ _ _) ⟨⟨λ_ _=>rfl,λh=>by cases h⟩,rfl⟩ (λa w e I L hv hr hs hk=>⟨hv.any,e,I,L,hr,hs,hk⟩) hP hr hs h;have:=(hI _ a' o v ho h.1).tm t ht;cases hd:o.dst <;> simp only [hd,Act.put] at this ⊢ <;> exact this
 |seq x y ihx ihy=>
  intro r m pn K X R e a w I L hpl hr hs h;have hpl':(r=none∨DR x=true)∧(r=none∨DR y=true):=by
   rcases hpl with h|h
   ·exact ⟨.inl h,.inl h⟩
   ·simp only [DR,Bool.and_eq_true] at h;exact ⟨.inr h.1,.inr h.2⟩
  refine wpIn_seq (wpIn_mono (ihx r m pn _ X R e a w I L hpl'.1 hr hs h) ?_);rintro ex a1 w1 hp;cases ex with
  |normal=>
   obtain ⟨hsm,e1,I1,L1,hr1,hs1,h1⟩:=hp;refine wpIn_mono (ihy r m pn K X R e1 a1 w1 I1 L1 hpl'.2 hr1 hs1 h1) ?_;rintro ex2 a2 w2 hp2;cases ex2 with
   |normal=>exact ⟨hsm.left.trans hp2.1.right,hp2.2⟩
   |exit id=>exact ⟨hsm.left.trans hp2.1.right,hp2.2⟩
   |ret=>exact ⟨hsm.left.trans hp2.1.right,hp2.2⟩
   |panic ch=>exact hp2
   |goto l=>exact hp2.elim
   |outgrown=>exact hp2.elim
  |exit id=>exact ⟨hp.1.left,hp.2⟩
  |ret=>exact ⟨hp.1.left,hp.2⟩
  |panic ch=>exact hp
  |goto l=>exact hp.elim
  |outgrown=>exact hp.elim
 |cond c x y ihx ihy=>
  intro r m pn K X R e a w I L hpl hr hs h;have hpl':(r=none∨DR x=true)∧(r=none∨DR y=true):=by
   rcases hpl with h|h
   ·exact ⟨.inl h,.inl h⟩
   ·simp only [DR,Bool.and_eq_true] at h;exact ⟨.inr h.1,.inr h.2⟩
  simp only [vc] at h;cases hv:e.ev n c with
  |none=>rw [hv] at h;exact h.elim
  |some v=>
   rw [hv] at h;simp only at h
   cases v with
   |bool b=>
    refine wpIn_cond (t:=b) (hr.ev hv) ?_;cases b with
    |true=>
     refine wpIn_mono (ihx r m pn K X R e a w I L hpl'.1 hr hs h) ?_;rintro ex a2 w2 hp2;cases ex with
     |normal=>exact ⟨hp2.1.left,hp2.2⟩
     |exit id=>exact ⟨hp2.1.left,hp2.2⟩
     |ret=>exact ⟨hp2.1.left,hp2.2⟩
     |panic ch=>exact hp2
     |goto l=>exact hp2.elim
     |outgrown=>exact hp2.elim
    |false=>
     refine wpIn_mono (ihy r m pn K X R e a w I L hpl'.2 hr hs h) ?_;rintro ex a2 w2 hp2;cases ex with
     |normal=>exact ⟨hp2.1.right,hp2.2⟩
     |exit id=>exact ⟨hp2.1.right,hp2.2⟩
     |ret=>exact ⟨hp2.1.right,hp2.2⟩
     |panic ch=>exact hp2
     |goto l=>exact hp2.elim
     |outgrown=>exact hp2.elim
   |_=>exact h.elim
 |block id c ih=>
  intro r m pn K X R e a w I L hpl hr hs h;refine wpIn_block (wpIn_mono (ih r m pn K _ R e a w I L hpl hr hs h) ?_);rintro ex a1 w1 hp;cases ex with
  |normal=>exact hp
  |exit id'=>
   obtain ⟨hsm,e1,I1,L1,hr1,hs1,h1⟩:=hp;simp only [Exit.inBlock];by_cases hid:id'=id
   ·subst hid;simp only [Nat.beq_refl,if_true] at h1;rw [if_pos rfl];exact ⟨hsm,e1,I1,L1,hr1,hs1,h1⟩
   ·have hb:Nat.beq id' id=false:=by
     cases hb:Nat.beq id' id with
     |false=>rfl
     |true=>exact absurd (Nat.eq_of_beq_eq_true hb) hid
    simp only [hb,Bool.false_eq_true,if_false] at h1;rw [if_neg hid];exact ⟨hsm,e1,I1,L1,hr1,hs1,h1⟩
  |ret=>exact hp
  |panic ch=>exact hp
  |goto l=>exact hp.elim
  |outgrown=>exact hp.elim
 |loop c ih=>
  intro r m pn K X R e a w I L hpl hr hs h;simp only [vc] at h;split at h
  rotate_left
  ·exact h.elim
  rename_i hpc
  simp only [Lp] at h;cases hg:ABB e (Lt n (asg c) e) with
  |none=>rw [hg] at h;exact h.elim
  |some s0=>
   rw [hg] at h;simp only [onT] at h;obtain ⟨Inv,m0,h0,hround⟩:=h;refine AAy (λk a' w'=>Same (asg c) true a a'∧∃s I' L',Rep n a' (AHg (clr e (asg c)) (Lt n (asg c) e) s)∧St ω w' I' L'∧Inv k s I' L') m0
    ⟨Same.refl _ _ _,s0,I,L,Ov hr _ s0 hg _ (hr.weaken (AQx e _) rfl) hr.defers,hs,h0⟩ ?_
   rintro k a1 w1 ⟨hsm,s,I1,L1,hr1,hs1,hinv⟩;refine wpIn_mono (ih r m pn _ X R _ a1 w1 I1 L1 (.inr hpc) hr1 hs1 (hround k s I1 L1 hinv)) ?_;rintro ex a2 w2 hp;cases ex with
   |normal=>
    obtain ⟨hsm2,e2,I2,L2,hr2,hs2,h2⟩:=hp;have hsm2:Same (asg c) true a1 a2:=⟨hsm2.tm,λ_=>hsm2.df hpc⟩;cases hg2:ABB e2 (Lt n (asg c) e) with
    |none=>rw [hg2] at h2;exact h2.elim
    |some s2=>
     rw [hg2] at h2;obtain ⟨I3,L3,h3,m',hlt,h2⟩:=h2 hs2.cons;exact ⟨m',hlt,hsm.trans hsm2,s2,I3,L3,Ov hr2 _ s2 hg2 _ (AHf hr hr2.size (hsm.trans hsm2)) ((hsm.trans hsm2).df rfl |>.trans hr.defers),h3 ω w2 hs2,h2⟩
   |exit id=>exact ⟨(hsm.any).trans hp.1,hp.2⟩
   |ret=>exact ⟨(hsm.any).trans hp.1,hp.2⟩
   |panic ch=>exact hp
   |goto l=>exact hp.elim
   |outgrown=>exact hp.elim
 |exit id=>exact λr m pn K X R e a w I L hpl hr hs h=>wpIn_exit ⟨Same.refl _ _ _,e,I,L,hr,hs,h⟩
 |ret=>exact λr m pn K X R e a w I L hpl hr hs h=>wpIn_ret ⟨Same.refl _ _ _,e,I,L,hr,hs,h⟩
 |scope c ih=>
  intro r m pn K X R e a w I L hpl hr hs h;refine AAA (ih r m pn K X R e a w I L hpl hr hs h) ?_;intro l a1 w1 hp;exact hp.elim
 |goto l=>exact λr m pn K X R e a w I L hpl hr hs h=>h.elim
 |refuse s=>exact λr m pn K X R e a w I L hpl hr hs h=>h.elim
 |rangeFunc f ps x y ihx ihy=>
  intro r m pn K X R e a w I L hpl hr hs h;obtain rfl:r=none:=hpl.resolve_right (by simp [DR]);simp only [vc] at h;cases hv:e.ev n f with
  |none=>rw [hv] at h;exact h.elim
  |some fv=>
   rw [hv] at h;simp only at h
   split at h
   rotate_left
   ·exact h.elim
   rename_i hp
   simp only [Bool.and_eq_true] at hp;have hB:∃B:List Value→RB,ALF P ω fv ps.size B (λD=>K (e.df' (.col D::e.df))) (λD=>(OD y).map λid=>(id,X id (e.df' (.col D::e.df)))) (λD=>R (e.df' (.col D::e.df))) I L∧
     ∀vs,vs.length=ps.size→∀Bg Nk Xk Rk,B vs Bg Nk Xk Rk=vc P ω none n x (λe2=>Bg (vc P ω none n y (λ_=>Nk) (λid _=>Xk id) (λ_=>Rk) e2)) (λ_ _=>F) (λ_=>F) ((AMQ e ps.toList vs).df' []):=by
    rcases hps:ps.toList with _|⟨p,_|⟨q,_|⟨z,rest⟩⟩⟩
    ·rw [hps] at h;have hsz:ps.size=0:=by rw [←Array.length_toList,hps];rfl
     rw [hsz];refine ⟨_,h,λvs hl=>?_⟩;obtain rfl:=List.eq_nil_of_length_eq_zero hl;intro _ _ _ _;rfl
    ·rw [hps] at h;have hsz:ps.size=1:=by rw [←Array.length_toList,hps];rfl
     rw [hsz];refine ⟨_,h,λvs hl=>?_⟩;match vs,hl with
     |[v],_=>intro _ _ _ _;rfl
    ·rw [hps] at h;have hsz:ps.size=2:=by rw [←Array.length_toList,hps];rfl
     rw [hsz];refine ⟨_,h,λvs hl=>?_⟩;match vs,hl with
     |[v,u],_=>intro _ _ _ _;rfl
    ·rw [hps] at h;exact h.elim
   clear h;obtain ⟨B,h,hB⟩:=hB;unfold ALF at h;split at h
   rotate_left
   ·exact h.elim
   rename_i g first cap
   split at h
   rotate_left
   ·exact h.elim
   rename_i hent
   have hev:=hr.ev hv;refine wpIn_rangeFunc ?_;intro fn _;obtain ⟨rec,hrec⟩:∃rec:LoopState→Option Code→Loop,rec=λs j=>{state:=s,pending:=j,fn,tmps:=a.tmps,params:=ps,assign:=x,body:=y,defers:=w.heap.size}:=⟨_,rfl⟩;have hinj:∀s j s' j',Obj.loop (rec s j)=Obj.loop (rec s' j')→s=s'∧j=j':=by
    intro s j s' j' h;rw [hrec] at h;simp only [Obj.loop.injEq,Loop.mk.injEq] at h;exact ⟨h.1,h.2.1⟩
   have hput:∀{w':World} {I':Imm} {L1 L2:LH} {o o':Obj},St ω w' I' (L1++(w.heap.size+1,o)::L2)→St ω (w'.putObj (w.heap.size+1) o') I' (L1++(w.heap.size+1,o')::L2):=λh=>IQ h;have hcall:=h (w.heap.size+1) w.heap.size (λs j=>.loop (rec s j)) hinj (by
    intro vs K' I' L' hlen hY;show ATO P ω (w.heap.size+1) (#[]++vs.toArray) K' I' L';rw [Array.empty_append];intro w' hs';obtain ⟨⟨L1,L2,hL⟩,hY⟩:=hY;have hb:w'.heap[w.heap.size+1]? =some (.loop (rec .ready none)):=hs'.own _ _ (by rw [hL];simp);refine ⟨_,_,_,_,run_yield hb (by rw [hrec];simpa using hlen),?_⟩;rw [hB vs hlen] at hY;have hrep:Rep n {tmps:=(Array.zip ps vs.toArray).foldl (λt (p,v)=>t.setIfInBounds p v) a.tmps,defers:=[]} ((AMQ e ps.toList vs).df' []):=by
     have:=YA (ps:=ps.toList) (vs:=vs) hr;rw [←Array.foldl_toList,Array.toList_zip];exact this
    have e1:(rec .ready none).fn=fn:=by rw [hrec]
    have e2:(rec .ready none).params=ps:=by rw [hrec]
    have e3:(rec .ready none).tmps=a.tmps:=by rw [hrec]
    have e4:(rec .ready none).assign=x:=by rw [hrec]
    have e5:(rec .ready none).body=y:=by rw [hrec]
    rw [e1,e2,e3,e4,e5];refine roundIn_of_wpIn (F:=Fence.wide) trivial ?_;refine wpIn_mono (ihx (some (w.heap.size+1)) 0 none _ _ _ _ _ w' I' L' (.inr hp.1) hrep hs' hY) ?_;rintro ex a1 w1 hq;cases ex with
    |normal=>
     obtain ⟨_,e1,I1,L1',hr1,hs1,A1,A2,rfl,hbody⟩:=hq;have hb1:w1.heap[w.heap.size+1]? =some (.loop (rec .ready none)):=hs1.own _ _ (by simp);refine ⟨_,run_beginRound hb1 (by rw [hrec]),?_⟩;have ebusy:({rec .ready none with state:=.busy}:Loop)=rec .busy none:=by rw [hrec]
     rw [ebusy];refine wpIn_mono (ihy (some (w.heap.size+1)) 0 none _ _ _ _ _ _ I1 _ (.inr hp.2) hr1 (hput hs1) hbody) ?_;have fin:∀(j:Option Code) (a2:Act) (w2:World) (e2:Env) (I2:Imm) (L2:LH),St ω w2 I2 L2→ANP (w.heap.size+1) (λs j=>Obj.loop (rec s j)) j K' I2 L2→
       ∃v w3,(Instr.endRound (w.heap.size+1) j).run P w2= .ok v w3∧Ret ω K' (.returned v) w3:=by
      rintro j a2 w2 e2 I2 _ hs2 ⟨A1,A2,rfl,hk⟩;have hb2:w2.heap[w.heap.size+1]? =some (.loop (rec .busy none)):=hs2.own _ _ (by simp);have er:({rec .busy none with state:=if j.isNone then .ready else .done,pending:=j}:Loop)=rec (if j.isNone then .ready else .done) j:=by rw [hrec]
      refine ⟨_,_,run_endRound j hb2,_,I2,_,rfl,?_,hk⟩;rw [er];exact hput hs2
     rintro ex2 a2 w2 hq2;cases ex2 with
     |normal=>obtain ⟨_,e2,I2,L2,_,hs2,hk⟩:=hq2;exact fin none a2 w2 e2 I2 L2 hs2 hk
     |ret=>obtain ⟨_,e2,I2,L2,_,hs2,hk⟩:=hq2;exact fin (some .ret) a2 w2 e2 I2 L2 hs2 hk
     |exit id=>obtain ⟨_,e2,I2,L2,_,hs2,hk⟩:=hq2;exact fin (some (.exit id)) a2 w2 e2 I2 L2 hs2 hk
     |panic ch=>exact (PX.none hq2).elim
     |goto l=>exact hq2.elim
     |outgrown=>exact hq2.elim
    |exit id=>obtain ⟨_,_,_,_,_,_,hf⟩:=hq;exact hf.elim
    |ret=>obtain ⟨_,_,_,_,_,_,hf⟩:=hq;exact hf.elim
    |panic ch=>exact (PX.none hq).elim
    |goto l=>exact hq.elim
    |outgrown=>exact hq.elim)
   have hst:St ω ((w.alloc (.deferred (some []))).alloc (.loop (rec .ready none))) I ((w.heap.size+1,.loop (rec .ready none))::(w.heap.size,.deferred (some []))::L):=by
    have:=(hs.push (.deferred (some []))).push (.loop (rec .ready none));simp only [Array.size_push] at this;exact this
   let W1:World:=(w.alloc (.deferred (some []))).alloc (.loop {state:=.ready,pending:=none,fn,tmps:=a.tmps,params:=ps,assign:=x,body:=y,defers:=w.heap.size})
   refine ⟨w.heap.size+1,[{target:=.collected w.heap.size,args:=#[]}],W1,{target:=.fn (.func g) cap,args:=first++#[.func (.yield (w.heap.size+1)) #[] #[]]},W1,g,first++#[.func (.yield (w.heap.size+1)) #[] #[]]++cap,W1,run_enterLoop_outer fn a.tmps ps x y,?_,λ_ _=>trivial,?_,λh=>by simp [Fr,Fence.wide] at h,?_⟩
   ·show (Deferred.ofValue (a.eval f) ((#[Operand.const (.func (.yield (w.heap.size+1)) #[] #[])]:Array Operand).map a.eval)).run P W1=_;rw [hev];simp [Deferred.ofValue,Act.eval]
   ·exact Wv hent _ _
   ·have hc:=hcall _ hst;have hrl:(Loop.mk .ready none fn a.tmps ps x y w.heap.size)=rec .ready none:=by rw [hrec]
    show CallsIn (Fr none) (m - 1) P g _ ((w.alloc (.deferred (some []))).alloc (.loop (Loop.mk .ready none fn a.tmps ps x y w.heap.size))) _;rw [hrl];refine (callsIn_wide (n:=m - 1)).2 (Calls.mono hc ?_);rintro en w3 ⟨v,I0,L0,rfl,hs0,hg⟩;obtain ⟨I3,L3,hs3f,A1,A2,s,j,hnb,rfl,hJ⟩:=hg hs0.cons;have hs3:=hs3f ω w3 hs0;have hb3:w3.heap[w.heap.size+1]? =some (.loop (rec s j)):=hs3.own _ _ (by simp);have hend:=run_endLoop (P:=P) hb3 (by rw [hrec];exact hnb);have ep:(rec s j).pending=j:=by rw [hrec]
    rw [ep] at hend;refine ⟨j,_,hend,?_⟩;have hs4:∀o':Obj,St ω (w3.putObj (w.heap.size+1) o') I3 (A1++A2):=λo'=>
     (hput hs3).drop (List.Sublist.append_left (List.sublist_cons_self ..) _)
    have hrep:Rep n {a with defers:=[{target:=.collected w.heap.size,args:=#[]}]++a.defers} (e.df' (.col w.heap.size::e.df)):=
     ⟨hr.size,by simp only [Env.df',dfs,List.cons_append,List.nil_append,hr.defers],λt v ht hv=>hr.at' t v ht hv⟩
    have hsame:Same (asg (.rangeFunc f ps x y)) (DR (.rangeFunc f ps x y)) a {a with defers:=[{target:=.collected w.heap.size,args:=#[]}]++a.defers}:=⟨λ_ _=>rfl,λh=>by simp [DR] at h⟩;unfold APC at hJ;split at hJ
    ·exact ⟨hsame,_,I3,_,hrep,hs4 _,hJ⟩
    ·rename_i id
     refine wpIn_exit ⟨hsame,_,I3,_,hrep,hs4 _,?_⟩;obtain ⟨A,hA,hAI⟩:=AEE hJ;obtain ⟨id',_,hid⟩:=List.mem_map.1 hA;simp only [Prod.mk.injEq] at hid;obtain ⟨rfl,rfl⟩:=hid;exact hAI
    ·exact wpIn_ret ⟨hsame,_,I3,_,hrep,hs4 _,hJ⟩
    ·exact hJ.elim
def AIP (tmps:Array Value):ResultVar→Sem Value
 | .tmp t=>pure (tmps.getD t undef)
 | .cell a t=>do loadVar t (←asAddr (tmps.getD a undef))
theorem La {a:Act}{e:Env}(hr:Rep n a e){w:World}{I:Imm}{L:LH}(hs:St ω w I L):∀(rs:List ResultVar) (K:List Value→M),Ht P n e rs K I L→
  ∃vs,(rs.mapM (AIP a.tmps)).run P w= .ok vs w∧K vs I L
 |[],K,h=>⟨[],by simp,h⟩
 | .tmp t::rs,K,h=>by
  simp only [Ht] at h;cases hv:e.ev n (.tmp t) with
  |none=>rw [hv] at h;exact h.elim
  |some v=>
   rw [hv] at h;obtain ⟨vs,h1,h2⟩:=La hr hs rs _ h;have hev:=hr.ev hv;simp only [Act.eval] at hev;exact ⟨v::vs,by simp only [List.mapM_cons,Sem.run_bind,Sem.run_pure,Result.andThen_ok,AIP,h1,hev],h2⟩
 | .cell t T::rs,K,h=>by
  simp only [Ht] at h;cases hv:e.ev n (.tmp t) with
  |none=>rw [hv] at h;exact h.elim
  |some x=>
   rw [hv] at h;cases ht:CO P T with
   |none=>rw [ht] at h;exact h.elim
   |some m=>
    obtain ⟨m,by',z⟩:=m;rw [ht] at h;cases hu:P.underlying T with
    |none=>rw [hu] at h;exact h.elim
    |some d=>
     rw [hu] at h;simp only at h
     have hev:=hr.ev hv;simp only [Act.eval] at hev;split at h
     ·rename_i hag
      obtain ⟨v,hR,h⟩:=h;obtain ⟨vs,h1,h2⟩:=La hr hs rs _ h;have hl:=PZ ht hag hs hR;obtain ⟨b,off,us,rfl,_⟩:=hR;simp only [Instr.loadAt,Instr.sureAddr,Sem.run_bind,Sem.run_pure,Result.andThen_ok] at hl;exact ⟨v::vs,by simp only [List.mapM_cons,Sem.run_bind,Sem.run_pure,Result.andThen_ok,AIP,h1,hev,asAddr,hl],h2⟩
     ·rename_i hag
      obtain ⟨v,hR,h⟩:=h;obtain ⟨vs,h1,h2⟩:=La hr hs rs _ h;have hl:=PY hu (by simpa using hag) hs hR;obtain ⟨b,off,rfl,_⟩:=hR;simp only [Instr.loadAt,Instr.sureAddr,Sem.run_bind,Sem.run_pure,Result.andThen_ok] at hl;exact ⟨v::vs,by simp only [List.mapM_cons,Sem.run_bind,Sem.run_pure,Result.andThen_ok,AIP,h1,hev,asAddr,hl],h2⟩
theorem CalD.leaves {f:FuncId}{args:List Value}{fn:Func}{tmps:Array Value}{R:Ending→World→Prop}{cap:List Value}{ds:List Deferred}{K:Value→M}{w:World}{I:Imm}{L:LH}
  (he:CX P f=true) (h:CalD P ω f (args++cap).toArray (gh K) I L) (hs:St ω w I L)
  (hk:∀v w' I' L',St ω w' I' L'→K v I' L'→LeavesInM Fence.wide 0 P fn tmps R ds .returning w'):
  LeavesInM Fence.wide 0 P fn tmps R ({target:=.fn (.func f) cap.toArray,args:=args.toArray}::ds) .returning w:=by
 refine ⟨by simp,.inr ⟨λh=>by simp [Fence.wide] at h,.func f,cap.toArray,f,(args++cap).toArray,rfl,?_,λ_ _=>trivial,?_⟩⟩
 ·have:=Wv he (args++cap).toArray w;simpa [invoke] using this
 ·refine CallsDIn.mono (h w hs) ?_;rintro e u' w' ⟨rfl,v,I',L',rfl,hs',hg⟩;obtain ⟨I2,L2,hs2,hk2⟩:=OB hs' hg;exact hk v w' I2 L2 hs2 hk2
theorem CalDR.leaves {f:FuncId}{args:List Value}{fn:Func}{tmps:Array Value}{R:Ending→World→Prop}{cap:List Value}{ds:List Deferred}{K:Value→M}{w:World}{I:Imm}{L:LH}{x:Value}
  (he:CX P f=true) (h:CalDR P ω f (args++cap).toArray x (gh K) I L) (hs:St ω w I L)
  (hk:∀v w' I' L',St ω w' I' L'→K v I' L'→LeavesInM Fence.wide 0 P fn tmps R ds .returning w'):
  LeavesInM Fence.wide 0 P fn tmps R ({target:=.fn (.func f) cap.toArray,args:=args.toArray}::ds) (.panicking [{v:=x,recovered:=false}]) w:=by
 refine ⟨by simp,.inr ⟨λh=>by simp [Fence.wide] at h,.func f,cap.toArray,f,(args++cap).toArray,rfl,?_,λ_ _=>trivial,?_⟩⟩
 ·have:=Wv he (args++cap).toArray w;simpa [invoke] using this
 ·refine CallsDIn.mono (h w hs) ?_;rintro e u' w' ⟨rfl,v,I',L',rfl,hs',hg⟩;obtain ⟨I2,L2,hs2,hk2⟩:=OB hs' hg;exact hk v w' I2 L2 hs2 hk2
theorem Jr {fn:Func}{tmps:Array Value}{R:Ending→World→Prop}{A:M}(hA:∀w I L,St ω w I L→A I L→LeavesInM Fence.wide 0 P fn tmps R [] .returning w):
  ∀(df:List Df) (w:World) (I:Imm) (L:LH),St ω w I L→fin P ω df A I L→LeavesInM Fence.wide 0 P fn tmps R (dfs df) .returning w
 |[],w,I,L,hs,h=>hA w I L hs h
 | .col D::r,w,I,L,hs,h=>by
  obtain ⟨L1,L2,rfl,h⟩:=h;have hb:=hs.own D (.deferred (some [])) (by simp);refine ⟨by simp,.inl ⟨D,_,rfl,run_takeDeferred hb,?_⟩⟩;exact Jr hA r _ I (L1++L2) ((IQ hs).drop (List.Sublist.append_left (List.sublist_cons_self ..) _)) h
 | .fn f cap args::r,w,I,L,hs,h=>by
  simp only [fin] at h;split at h
  ·rename_i he
   exact CalD.leaves he h hs λv w' I' L' hs' hk=>Jr hA r w' I' L' hs' hk
  ·exact h.elim
theorem Ph {fn:Func}{tmps:Array Value}{R:Ending→World→Prop}{A B:M}{x:Value}(hA:∀w I L,St ω w I L→A I L→LeavesInM Fence.wide 0 P fn tmps R [] .returning w)
  (hB:∀w I L,St ω w I L→B I L→LeavesInM Fence.wide 0 P fn tmps R [] (.panicking [{v:=x,recovered:=false}]) w):
  ∀(df:List Df) (w:World) (I:Imm) (L:LH),St ω w I L→AMi P ω x df A B I L→LeavesInM Fence.wide 0 P fn tmps R (dfs df) (.panicking [{v:=x,recovered:=false}]) w
 |[],w,I,L,hs,h=>hB w I L hs h
 | .col D::r,w,I,L,hs,h=>by
  obtain ⟨L1,L2,rfl,h⟩:=h;have hb:=hs.own D (.deferred (some [])) (by simp);refine ⟨by simp,.inl ⟨D,_,rfl,run_takeDeferred hb,?_⟩⟩;exact Ph hA hB r _ I (L1++L2) ((IQ hs).drop (List.Sublist.append_left (List.sublist_cons_self ..) _)) h
 | .fn f cap args::r,w,I,L,hs,h=>by
  simp only [AMi] at h;split at h
  ·rename_i he
   exact CalDR.leaves he h hs λv w' I' L' hs' hk=>Jr hA r w' I' L' hs' hk
  ·exact h.elim
theorem KX {fn:Func}{a:Act}{e:Env}(hr:Rep n a e){w:World}{I:Imm}{L:LH}(hs:St ω w I L){K:Value→M}(h:Ht P n e fn.results.toList (λvs=>K (resV vs)) I L):
  ∃v,(results fn a.tmps).run P w= .ok v w∧K v I L:=by
 obtain ⟨vs,hrun,hk⟩:=La hr hs _ _ h;refine ⟨resV vs,?_,hk⟩;have hres':results fn a.tmps=(do
   let vs ←fn.results.mapM (AIP a.tmps)
   pure (if h:vs.size=1 then vs[0] else .tuple vs)):=by
  unfold results;congr 1
 rw [hres',Array.mapM_eq_mapM_toList];simp only [Sem.run_bind,Sem.run_map,hrun,Result.andThen_ok,Sem.run_pure];congr 1
 unfold resV;match vs with
 |[]=>simp
 |[v]=>simp
 |v::u::r=>simp
theorem LP (hm:P.follows .mixedOrders=true){f:FuncId}{fn:Func}(hf:P.funcs[f]? =some fn){pn:Option (Value→M)}{args:List Value}{K Pn:Value→M}{I:Imm}{L:LH}(hpn:∀p,pn=some p→p=Pn)(h:AES P ω pn fn args K I L)
  {w:World} (hs:St ω w I L):Calls P f args.toArray w (ABf ω K Pn):=by
 unfold AES at h;cases hb:fn.body with
 |none=>rw [hb] at h;exact h.elim
 |some c=>
  rw [hb] at h;simp only at h
  split at h
  ·rename_i hle
   have hle:args.length≤fn.ntmps:=by simpa using hle
   refine (callsIn_wide (n:=0)).1 (callsIn_of_wp_marks hf hb trivial (wpIn_mono (RU hm c none 0 _ _ _ _ _ _ w I L (.inl rfl) (Rep.init args.toArray _ _ fn.ntmps (by simp;omega) (λt v hv=>by simpa using hv) rfl) hs h) ?_));have hA:∀(a':Act) (e:Env),Rep fn.ntmps a' e→∀(w2:World) (I2:Imm) (L2:LH),St ω w2 I2 L2→Ht P fn.ntmps e fn.results.toList (λvs=>K (resV vs)) I2 L2→
     LeavesInM Fence.wide 0 P fn a'.tmps (ABf ω K Pn) [] .returning w2:=by
    intro a' e hr w2 I2 L2 hs2 hres;obtain ⟨v,hrun,hk⟩:=KX hr hs2 hres;exact ⟨v,hrun,v,I2,L2,hs2,.inl ⟨rfl,hk⟩⟩
   have fin':∀(a':Act) (w':World) (e:Env) (I':Imm) (L':LH),Rep fn.ntmps a' e→St ω w' I' L'→SL.fin P ω e.df (Ht P fn.ntmps e fn.results.toList (λvs=>K (resV vs))) I' L'→
     LeavesInM Fence.wide 0 P fn a'.tmps (ABf ω K Pn) a'.defers .returning w':=by
    intro a' w' e I' L' hr hs' hres;rw [hr.defers];exact Jr (hA a' e hr) e.df w' I' L' hs' hres
   rintro ex a' w' hp;cases ex with
   |normal=>obtain ⟨_,e,I',L',h1,h2,h3⟩:=hp;exact fin' a' w' e I' L' h1 h2 h3
   |ret=>obtain ⟨_,e,I',L',h1,h2,h3⟩:=hp;exact fin' a' w' e I' L' h1 h2 h3
   |exit id=>obtain ⟨_,e,I',L',h1,h2,h3⟩:=hp;exact h3.elim
   |goto l=>exact hp.elim
   |panic ch=>
    obtain ⟨e,v,I',L',hr,rfl,hs',hpp⟩:=hp;show LeavesInM Fence.wide 0 P fn a'.tmps (ABf ω K Pn) a'.defers (.panicking _) w';rw [hr.defers];cases pn with
    |none=>exact hpp.elim
    |some p=>
     have:=hpn p rfl;subst this;exact Ph (hA a' e hr) (λw2 I2 L2 hs2 hk=>(show ABf ω K p (.panicked [{v,recovered:=false}]) w2 from ⟨v,I2,L2,hs2,.inr ⟨rfl,hk⟩⟩)) e.df w' I' L' hs' hpp
   |outgrown=>exact hp.elim
  ·exact h.elim
theorem AFu (hm:P.follows .mixedOrders=true){f:FuncId}{fn:Func}(hf:P.funcs[f]? =some fn){args:List Value}{K:Value→M}{I:Imm}{L:LH}(h:vcF P ω fn args K I L):
  Cal P ω f args.toArray K I L:=λw hs=>Calls.mono (LP (Pn:=λ_=>F) hm hf (by simp) h hs) λe w' ⟨v,I',L',hs',hk⟩=>by
 rcases hk with ⟨he,hk⟩|⟨_,hk⟩
 ·exact ⟨v,I',L',he,hs',hk⟩
 ·exact hk.elim
theorem ABV (hm:P.follows .mixedOrders=true){f:FuncId}{fn:Func}(hf:P.funcs[f]? =some fn){args:List Value}{K Pn:Value→M}{I:Imm}{L:LH}(h:vcP P ω fn args K Pn I L):
  CalP P ω f args.toArray K Pn I L:=λw hs=>LP hm hf (λp hp=>by simp only [Option.some.injEq] at hp;exact hp.symm) h hs
theorem ABU (hm:P.follows .mixedOrders=true){f:FuncId}{fn:Func}(hf:P.funcs[f]? =some fn){args:List Value}{K:Value→M}{I:Imm}{L:LH}(h:vcQ P ω fn args K I L):
  Cal P ω f args.toArray K I L:=λw hs=>Calls.mono (LP (Pn:=λ_=>F) hm hf (λp hp=>by simpa using hp.symm) h hs) λe w' ⟨v,I',L',hs',hk⟩=>by
 rcases hk with ⟨he,hk⟩|⟨_,hk⟩
 ·exact ⟨v,I',L',he,hs',hk⟩
 ·exact hk.elim
theorem AMu {l:List Df}(h:dfs l=[]):l=[]:=by
 cases l with
 |nil=>rfl
 |cons d r=>cases d <;> simp [dfs] at h
theorem ABW (hm:P.follows .mixedOrders=true){f:FuncId}{fn:Func}(hf:P.funcs[f]? =some fn)(hpl:(match fn.body with
  |some c=>DR c
  |none=>false)=true) {args:List Value} {K:Value→M} {I:Imm} {L:LH} (h:vcF P ω fn args K I L):CalD P ω f args.toArray K I L:=by
 intro w hs;unfold vcF AES at h;cases hb:fn.body with
 |none=>rw [hb] at h;exact h.elim
 |some c=>
  rw [hb] at h hpl;simp only at h hpl
  split at h
  ·rename_i hle
   have hle:args.length≤fn.ntmps:=by simpa using hle
   refine callsDIn_of_wp hf hb trivial (wpIn_mono (RU hm c none 0 _ _ _ _ _ _ w I L (.inl rfl) (Rep.init args.toArray _ _ fn.ntmps (by simp;omega) (λt v hv=>by simpa using hv) rfl) hs h) ?_);have fin':∀(a':Act) (w':World) (e:Env) (I':Imm) (L':LH),a'.defers=[]→Rep fn.ntmps a' e→St ω w' I' L'→SL.fin P ω e.df (Ht P fn.ntmps e fn.results.toList (λvs=>K (resV vs))) I' L'→
     a'.defers=[]∧∃v,(results fn a'.tmps).run P w'= .ok v w'∧Ret ω K (.returned v) w':=by
    intro a' w' e I' L' hd hr hs' hres;have hdf:e.df=[]:=AMu (hr.defers.symm.trans hd);rw [hdf] at hres;obtain ⟨v,hrun,hk⟩:=KX hr hs' hres;exact ⟨hd,v,hrun,v,I',L',rfl,hs',hk⟩
   rintro ex a' w' hp;cases ex with
   |normal=>obtain ⟨hsm,e,I',L',h1,h2,h3⟩:=hp;exact fin' a' w' e I' L' (hsm.df hpl) h1 h2 h3
   |ret=>obtain ⟨hsm,e,I',L',h1,h2,h3⟩:=hp;exact fin' a' w' e I' L' (hsm.df hpl) h1 h2 h3
   |exit id=>obtain ⟨_,e,I',L',h1,h2,h3⟩:=hp;exact h3.elim
   |goto l=>exact hp.elim
   |panic ch=>exact (PX.none hp).elim
   |outgrown=>exact hp.elim
  ·exact h.elim
def PostR (ω:Om)(n:Nat)(K R:Env→M)(cs':List Frame):Exit→Act→List Frame→World→Prop
 | .normal,a,cs,w=>cs=cs'∧a.defers=[]∧∃e I L,Rep n a e∧St ω w I L∧K e I L
 | .ret,a,cs,w=>cs=cs'∧a.defers=[]∧∃e I L,Rep n a e∧St ω w I L∧R e I L
 |_,_,_,_=>False
theorem RH {c:Code}{F:Fence}{m:Nat}{Q Q':Exit→Act→List Frame→World→Prop}{a:Act}{cs:List Frame}{w:World}(h:c.wpSIn F m P Q a cs w)(hq:∀e a cs w,Q e a cs w→Q' e a cs w):c.wpSIn F m P Q' a cs w:=
 λb k hb hr hF hroom=>let ⟨e,a',cs',w',l,q,r⟩:=h b k hb hr hF hroom;⟨e,a',cs',w',l,hq _ _ _ _ q,r⟩
theorem Xx {o:Oper}(h:AQN o.op=true)(ρ:Operand→Value)(w:World):(execOp ρ o).run P w= .ok .recover w:=by
 obtain ⟨dst,op,type,pos,after,guard⟩:=o;unfold AQN at h;split at h
 ·rename_i hop
  simp only at hop
  subst hop;simp [execOp,resolve,invoke,builtin]
 ·cases h
theorem put_defers (a:Act)(d:Option Tmp)(v:Value):(a.put d v).defers=a.defers:=by cases d <;> rfl
theorem PN {ops:Array Oper}{K R:Env→M}{cs:List Frame}:∀(rest:List Oper) (i:Nat) (e:Env) (a:Act) (w:World) (I:Imm) (L:LH),(∀k,rest[k]? =ops[i+k]?)→a.defers=[]→Rep n a e→St ω w I L→
  vcRl.vcRl2 P ω n rest e K I L→wpOpsSIn Fence.wide 0 P ops (PostR ω n K R cs) (List.range' i rest.length) a cs w
 |[],i,e,a,w,I,L,_,hd,hr,hs,h=>⟨rfl,hd,e,I,L,hr,hs,h⟩
 |o::rest,i,e,a,w,I,L,hops,hd,hr,hs,h=>by
  have ho:ops[i]? =some o:=by have:=hops 0;simpa using this.symm
  have hops':∀k,rest[k]? =ops[(i+1)+k]? :=λk=>by
   have:=hops (k+1);simp only [List.getElem?_cons_succ] at this;rw [this];congr 1;omega
  simp only [vcRl.vcRl2] at h;simp only [List.length_cons,List.range'_succ,wpOpsSIn,ho];refine ⟨λ_ _=>trivial,?_⟩;cases hg:o.guard with
  |some _=>rw [hg] at h;exact h.elim
  |none=>
   rw [hg] at h;simp only at h
   have hw:Region.wanted o (yielded ops a.tmps)=true:=by simp [Region.wanted,hg]
   rw [hw];simp only [if_true];generalize hop:BV P ω Option.none (e.ev n) o.op=q at h;cases q with
   |pure r=>
    cases r with
    |none=>exact h.elim
    |some v=>
    rw [JM hr hop w];exact PN rest (i+1) _ _ w I L hops' ((put_defers a o.dst v).trans hd) (hr.put _ _) hs h
   |read _=>exact h.elim
   |eff _=>exact h.elim
   |no=>exact h.elim
theorem RV {ops:Array Oper}{K R:Env→M}{cs cs':List Frame}{rv:Value}(hrv:recoverD cs=some (rv,cs')∨(recoverD cs=none∧rv= .nilIface∧cs'=cs)):
  ∀(rest:List Oper) (i:Nat) (e:Env) (a:Act) (w:World) (I:Imm) (L:LH),(∀k,rest[k]? =ops[i+k]?)→a.defers=[]→Rep n a e→St ω w I L→
  vcRl P ω rv n rest e K I L→wpOpsSIn Fence.wide 0 P ops (PostR ω n K R cs') (List.range' i rest.length) a cs w
 |[],i,e,a,w,I,L,_,hd,hr,hs,h=>h.elim
 |o::rest,i,e,a,w,I,L,hops,hd,hr,hs,h=>by
  have ho:ops[i]? =some o:=by have:=hops 0;simpa using this.symm
  have hops':∀k,rest[k]? =ops[(i+1)+k]? :=λk=>by
   have:=hops (k+1);simp only [List.getElem?_cons_succ] at this;rw [this];congr 1;omega
  simp only [vcRl] at h;simp only [List.length_cons,List.range'_succ,wpOpsSIn,ho];refine ⟨λ_ _=>trivial,?_⟩;cases hg:o.guard with
  |some _=>rw [hg] at h;exact h.elim
  |none=>
   rw [hg] at h;simp only at h
   have hw:Region.wanted o (yielded ops a.tmps)=true:=by simp [Region.wanted,hg]
   rw [hw];simp only [if_true];split at h
   ·rename_i hrec
    rw [Xx hrec];simp only
    have:=PN (P:=P) (ops:=ops) (K:=K) (R:=R) (cs:=cs') rest (i+1) (e.upd o.dst rv) (a.put o.dst rv) w I L hops' ((put_defers a o.dst rv).trans hd) (hr.put _ _) hs h;rcases hrv with hrv|⟨hrv,rfl,rfl⟩
    ·rw [hrv];exact this
    ·rw [hrv];exact this
   ·generalize hop:BV P ω Option.none (e.ev n) o.op=q at h;cases q with
    |pure r=>
     cases r with
     |none=>exact h.elim
     |some v=>
     rw [JM hr hop w];exact RV hrv rest (i+1) _ _ w I L hops' ((put_defers a o.dst v).trans hd) (hr.put _ _) hs h
    |read _=>exact h.elim
    |eff _=>exact h.elim
    |no=>exact h.elim
theorem AER (hm:P.follows .mixedOrders=true){cs cs':List Frame}{rv:Value}(hrv:recoverD cs=some (rv,cs')∨(recoverD cs=none∧rv= .nilIface∧cs'=cs)):
  ∀(c:Code) (K R:Env→M) (e:Env) (a:Act) (w:World) (I:Imm) (L:LH),a.defers=[]→Rep n a e→St ω w I L→vcS P ω rv n c K R e I L→c.wpSIn Fence.wide 0 P (PostR ω n K R cs') a cs w:=by
 intro c;induction c with
 |seq x y ihx _=>
  intro K R e a w I L hd hr hs h;refine wpSIn_seq (RH (ihx _ R e a w I L hd hr hs h) ?_);rintro ex a1 cs1 w1 hp;cases ex with
  |normal=>
   obtain ⟨rfl,hd1,e1,I1,L1,hr1,hs1,h1⟩:=hp;split at h1
   ·rename_i hpy
    refine wpSIn_of_wpIn rfl (wpIn_mono (RU hm y none 0 none K (λ_ _=>F) R e1 a1 w1 I1 L1 (.inl rfl) hr1 hs1 h1) ?_);rintro ex2 a2 w2 hp2;cases ex2 with
    |normal=>exact ⟨rfl,(hp2.1.df hpy).trans hd1,hp2.2⟩
    |ret=>exact ⟨rfl,(hp2.1.df hpy).trans hd1,hp2.2⟩
    |exit id=>obtain ⟨_,_,_,_,_,_,hf⟩:=hp2;exact hf.elim
    |panic ch=>exact (PX.none hp2).elim
    |goto l=>exact hp2.elim
    |outgrown=>exact hp2.elim
   ·exact h1.elim
  |ret=>exact hp
  |exit id=>exact hp.elim
  |panic ch=>exact hp.elim
  |goto l=>exact hp.elim
  |outgrown=>exact hp.elim
 |region id ops dr=>
  intro K R e a w I L hd hr hs h;cases dr with
  |true=>exact h.elim
  |false=>
   refine wpSIn_region ?_;have:=RV (P:=P) (ops:=ops) (K:=K) (R:=R) hrv ops.toList 0 e a w I L (λk=>by simp) hd hr hs h;rw [List.range_eq_range'];simpa using this
 |_=>intro K R e a w I L hd hr hs h;exact h.elim
theorem AUw {f:FuncId}{fn:Func}(hm:P.follows .mixedOrders=true)(hf:P.funcs[f]? =some fn){args:List Value}{K:Value→M}{I:Imm}{L:LH}{rv:Value}(h:vcR P ω rv fn args K I L){u u':FrameMode}
  (hrv:∀(c0:Frame) (cs:List Frame),c0.mode=u→recoverD (c0::cs)=some (rv,{c0 with mode:=u'}::cs)∨(recoverD (c0::cs)=none∧rv= .nilIface∧({c0 with mode:=u'}::cs)=c0::cs)) {w:World} (hs:St ω w I L):
  CallsDIn Fence.wide 0 P f args.toArray u w (λe u1 w'=>u1=u'∧Ret ω K e w'):=by
 unfold vcR at h;cases hb:fn.body with
 |none=>rw [hb] at h;exact h.elim
 |some c=>
  rw [hb] at h;simp only at h
  split at h
  ·rename_i hle
   have hle:args.length≤fn.ntmps:=by simpa using hle
   refine callsDIn_of_wpSIn hf hb trivial λc0 cs hu=>?_;refine RH (AER hm (hrv c0 cs hu) c _ _ _ _ w I L rfl (Rep.init args.toArray _ _ fn.ntmps (by simp;omega) (λt v hv=>by simpa using hv) rfl) hs h) ?_;have fin':∀(a':Act) (w':World),(∃e I L,Rep fn.ntmps a' e∧St ω w' I L∧Ht P fn.ntmps e fn.results.toList (λvs=>K (resV vs)) I L)→∃v,(results fn a'.tmps).run P w'= .ok v w'∧Ret ω K (.returned v) w':=by
    rintro a' w' ⟨e,I',L',hr,hs',hres⟩;obtain ⟨v,hrun,hk⟩:=KX hr hs' hres;exact ⟨v,hrun,v,I',L',rfl,hs',hk⟩
   rintro ex a' cs1 w' hp;cases ex with
   |normal=>
    obtain ⟨rfl,hd,hx⟩:=hp;obtain ⟨v,h1,h2⟩:=fin' a' w' hx;exact ⟨hd,u',rfl,v,h1,rfl,h2⟩
   |ret=>
    obtain ⟨rfl,hd,hx⟩:=hp;obtain ⟨v,h1,h2⟩:=fin' a' w' hx;exact ⟨hd,u',rfl,v,h1,rfl,h2⟩
   |exit id=>exact hp.elim
   |panic ch=>exact hp.elim
   |goto l=>exact hp.elim
   |outgrown=>exact hp.elim
  ·exact h.elim
theorem ZB (hm:P.follows .mixedOrders=true){f:FuncId}{fn:Func}(hf:P.funcs[f]? =some fn){args:List Value}{K:Value→M}{I:Imm}{L:LH}(h:vcR P ω .nilIface fn args K I L):CalD P ω f args.toArray K I L:=
 λw hs=>AUw hm hf h (u':=.returning) (λc0 cs hu=>by
  obtain ⟨cfn,ctm,ctd,cdf,cmo,cki,cro⟩:=c0;simp only at hu
  subst hu;exact .inr ⟨rfl,rfl,rfl⟩) hs
theorem XG (hm:P.follows .mixedOrders=true){f:FuncId}{fn:Func}(hf:P.funcs[f]? =some fn){args:List Value}{K:Value→M}{I:Imm}{L:LH}{v:Value}(h:vcR P ω v fn args K I L):CalDR P ω f args.toArray v K I L:=
 λw hs=>AUw hm hf h (λc0 cs hu=>by
  obtain ⟨cfn,ctm,ctd,cdf,cmo,cki,cro⟩:=c0;simp only at hu
  subst hu;exact .inl rfl) hs
theorem CalD.gh {f:FuncId}{args:Array Value}{K:Value→M}{I:Imm}{L:LH}(h:CalD P ω f args (λv=>Gh (K v)) I L):CalD P ω f args K I L:=λw hs=>
 CallsDIn.mono (h w hs) λ_ _ _ ⟨hu,v,_,_,he,hs',hg⟩=>by
  obtain ⟨I2,L2,h1,h2⟩:=hg hs'.cons;exact ⟨hu,v,I2,L2,he,h1 ω _ hs',h2⟩
theorem CalDR.gh {f:FuncId}{args:Array Value}{x:Value}{K:Value→M}{I:Imm}{L:LH}(h:CalDR P ω f args x (λv=>Gh (K v)) I L):CalDR P ω f args x K I L:=λw hs=>
 CallsDIn.mono (h w hs) λ_ _ _ ⟨hu,v,_,_,he,hs',hg⟩=>by
  obtain ⟨I2,L2,h1,h2⟩:=hg hs'.cons;exact ⟨hu,v,I2,L2,he,h1 ω _ hs',h2⟩
end
section pure
variable (b off k n:Nat)(a c:Int)(t u:Bool)(K:Value→M)(v:Value)
theorem Dz:Pv (some v) K=K v:=rfl
theorem AJf:AO k (.pointer (some ⟨b,off,none⟩))=some (.pointer (some ⟨b,off+k,none⟩)):=rfl
theorem AIv (x:Addr):BI (.pointer (some x))=some (.pointer (some x)):=rfl
theorem AIw (f:FuncId)(xs ys:Array Value):BI (.func (.func f) xs ys)=some (.func (.func f) xs ys):=rfl
theorem AJL (x:Option Addr)(l m:Nat):lenV (.slice x l m)=some (.int .i64 l):=rfl
theorem AJz (x:Option Addr)(l m:Nat):AFs (.slice x l m)=some (.int .i64 m):=rfl
theorem AJB (k k':IntKind):AJC (.int k a) (.int k' c)=some (.int k (if c < a then c else a)):=rfl
theorem AJD (k k':IntKind):AMY (.int k a) (.int k' c)=some (.int k (if c > a then c else a)):=rfl
theorem AMb (s:ByteArray):Bv (.string s)=some (.int .i64 s.size):=rfl
theorem AGS (s:ByteArray):APm (.string s)=some (.string s):=rfl
theorem ABk:unV .not (.bool t)=some (.bool !t):=rfl
theorem ABl (k:IntKind):unV .neg (.int k a)=some (.int k (k.wrap (0 - a))):=rfl
theorem ALQ (k:IntKind):unV .xor (.int k a)=some (.int k (Ic .xor k (if k.signed then -1 else k.max) a)):=rfl
theorem ADc (x y:Value):ADe (.bool true) x y=some x:=rfl
theorem ADd (x y:Value):ADe (.bool false) x y=some y:=rfl
theorem APF (vs:Array Value)(i:Nat):exV (.tuple vs) i=vs[i]? :=rfl
theorem AJq (k k':IntKind):XC k (.int k' a)=some (.int k (k.wrap a)):=rfl
theorem ZR (k:IntKind):AA .add (.int k a) (.int k c)=some (.int k (k.wrap (a+c))):=by simp [AA]
theorem ZI (k:IntKind):AA .sub (.int k a) (.int k c)=some (.int k (k.wrap (a - c))):=by simp [AA]
theorem ZK (k:IntKind):AA .mul (.int k a) (.int k c)=some (.int k (k.wrap (a * c))):=by simp [AA]
theorem ZP (k:IntKind):AA .eql (.int k a) (.int k c)=some (.bool (a==c)):=by simp [AA]
theorem ZJ (k:IntKind):AA .neq (.int k a) (.int k c)=some (.bool (a != c)):=by simp [AA]
theorem ZL (k:IntKind):AA .lss (.int k a) (.int k c)=some (.bool (decide (a < c))):=by simp [AA]
theorem ZM (k:IntKind):AA .leq (.int k a) (.int k c)=some (.bool (decide (a≤c))):=by simp [AA]
theorem ZN (k:IntKind):AA .gtr (.int k a) (.int k c)=some (.bool (decide (c < a))):=by simp [AA]
theorem ZO (k:IntKind):AA .geq (.int k a) (.int k c)=some (.bool (decide (c≤a))):=by simp [AA]
theorem AKx (k:IntKind)(h:c≠0):AA .quo (.int k a) (.int k c)=some (.int k (k.wrap (a.tdiv c))):=by simp [AA,h]
theorem AKw (k:IntKind)(h:c≠0):AA .rem (.int k a) (.int k c)=some (.int k (a.tmod c)):=by simp [AA,h]
theorem ZQ (k:IntKind):AA .and (.int k a) (.int k c)=some (.int k (Ic .and k a c)):=by simp [AA]
theorem AED (k:IntKind):AA .or (.int k a) (.int k c)=some (.int k (Ic .or k a c)):=by simp [AA]
theorem ZU:Dp .eql (.bool t) (.bool u)=some (.bool (t==u)):=rfl
theorem ZT:Dp .neq (.bool t) (.bool u)=some (.bool (!(t==u))):=rfl
theorem IB (x:Addr):Ie .eql (.pointer (some x)) (.pointer none)=some (.bool false):=rfl
theorem OO (x:Addr):Ie .neq (.pointer (some x)) (.pointer none)=some (.bool true):=rfl
theorem OT (x:Addr)(l m l' m':Nat):KH .eql (.slice (some x) l m) (.slice none l' m')=some (.bool false):=rfl
theorem OQ (x:Addr)(l m l' m':Nat):KH .neq (.slice (some x) l m) (.slice none l' m')=some (.bool true):=rfl
theorem Po (l m l' m':Nat):KH .eql (.slice none l m) (.slice none l' m')=some (.bool true):=rfl
theorem Pm (l m l' m':Nat):KH .neq (.slice none l m) (.slice none l' m')=some (.bool false):=rfl
theorem wrap_i64 (h: -9223372036854775808≤a∧a≤9223372036854775807):IntKind.i64.wrap a=a:=IntWalk.i64_in a h
theorem VY (cs:Array Value):Value.cells (.agg cs)=cs:=rfl
end pure
class InL (b:Nat) (L:LH) (o:outParam Obj):Prop where
 mem:(b,o)∈L
instance inRight (b:Nat)(A L:LH)(o:Obj)[h:InL b L o]:InL b (A++L) o:=⟨List.mem_append_right _ h.mem⟩
instance inThere (b:Nat)(x:Nat×Obj)(L:LH)(o:Obj)[h:InL b L o]:InL b (x::L) o:=⟨List.mem_cons_of_mem _ h.mem⟩
instance inHere (b:Nat)(L:LH)(o:Obj):InL b ((b,o)::L) o:=⟨List.mem_cons_self ..⟩
class GetL (l:List Value) (k:Nat) (v:outParam Value):Prop where
 get:l[k]? =some v
instance getThere (x:Value)(l:List Value)(k:Nat)(v:Value)[h:GetL l k v]:GetL (x::l) (k+1) v:=⟨by simpa using h.get⟩
instance getHere (v:Value)(l:List Value):GetL (v::l) 0 v:=⟨rfl⟩
class SetL (l:List Value) (k:Nat) (v:Value) (l':outParam (List Value)):Prop where
 set:l.set k v=l'∧k < l.length
instance setThere (x:Value)(l:List Value)(k:Nat)(v:Value)(l':List Value)[h:SetL l k v l']:SetL (x::l) (k+1) v (x::l'):=
 ⟨by simp [h.set.1],by simpa using h.set.2⟩
instance setHere (x v:Value)(l:List Value):SetL (x::l) 0 v (v::l):=⟨rfl,by simp⟩
class SplitL (X L:LH) (R:outParam LH):Prop where
 perm:L.Perm (X++R)
instance splitRight (X A L R:LH)[h:SplitL X L R]:SplitL X (A++L) (A++R):=⟨(List.Perm.append_left A h.perm).trans (by
 rw [←List.append_assoc,←List.append_assoc];exact List.Perm.append_right R List.perm_append_comm)⟩
instance splitThere (X L R:LH)(y:Nat×Obj)[h:SplitL X L R]:SplitL X (y::L) (y::R):=⟨(List.Perm.cons y h.perm).trans List.perm_middle.symm⟩
instance splitHere (X R:LH):SplitL X (X++R) R:=⟨List.Perm.refl _⟩
class SplitB (x:Nat×Obj) (L:LH) (R:outParam LH):Prop where
 perm:L.Perm (x::R)
instance splitBRight (x:Nat×Obj)(A L R:LH)[h:SplitB x L R]:SplitB x (A++L) (A++R):=⟨(List.Perm.append_left A h.perm).trans List.perm_middle⟩
instance splitBThere (x y:Nat×Obj)(L R:LH)[h:SplitB x L R]:SplitB x (y::L) (y::R):=⟨(List.Perm.cons y h.perm).trans (List.Perm.swap ..)⟩
instance splitBHere (x:Nat×Obj)(R:LH):SplitB x (x::R) R:=⟨List.Perm.refl _⟩
class SubP (L' L:LH):Prop where
 sub:∃R,L.Perm (L'++R)
instance (priority:=50) subRight (L' A L:LH)[h:SubP L' L]:SubP L' (A++L):=by
 obtain ⟨R,hR⟩:=h.sub;exact ⟨A++R,(List.Perm.append_left A hR).trans (by rw [←List.append_assoc,←List.append_assoc];exact List.Perm.append_right R List.perm_append_comm)⟩
instance (priority:=50) subThere (L' L:LH)(y:Nat×Obj)[h:SubP L' L]:SubP L' (y::L):=by
 obtain ⟨R,hR⟩:=h.sub;exact ⟨y::R,(List.Perm.cons y hR).trans List.perm_middle.symm⟩
instance (priority:=40) subNil (L:LH):SubP [] L:=⟨L,List.Perm.refl _⟩
instance subCons (x:Nat×Obj)(L' L R:LH)[h:SplitB x L R][h':SubP L' R]:SubP (x::L') L:=by
 obtain ⟨R',hR⟩:=h'.sub;exact ⟨R',h.perm.trans (List.Perm.cons x hR)⟩
instance subApp (A L' L R:LH)[h:SplitL A L R][h':SubP L' R]:SubP (A++L') L:=by
 obtain ⟨R',hR⟩:=h'.sub;exact ⟨R',h.perm.trans (by rw [List.append_assoc];exact List.Perm.append_left A hR)⟩
instance subSelf (L:LH):SubP L L:=⟨[],by simp⟩
class UpL (b:Nat) (L:LH) (o o':Obj) (L':outParam LH):Prop where
 up:∃L1 L2,L=L1++(b,o)::L2∧L'=L1++(b,o')::L2
instance upRight (b:Nat)(A L:LH)(o o':Obj)(L':LH)[h:UpL b L o o' L']:UpL b (A++L) o o' (A++L'):=by
 obtain ⟨L1,L2,rfl,rfl⟩:=h.up;exact ⟨A++L1,L2,by simp,by simp⟩
instance upThere (b:Nat)(x:Nat×Obj)(L:LH)(o o':Obj)(L':LH)[h:UpL b L o o' L']:UpL b (x::L) o o' (x::L'):=by
 obtain ⟨L1,L2,rfl,rfl⟩:=h.up;exact ⟨x::L1,L2,rfl,rfl⟩
instance upHere (b:Nat)(L:LH)(o o':Obj):UpL b ((b,o)::L) o o' ((b,o')::L):=⟨[],L,rfl,rfl⟩
theorem Cell.own {I:Imm}{L:LH}{b off:Nat}{v:Value}{cs:Array Value}{T:Nat}{fr:Nat×Nat}(hm:(b,Obj.cells cs T fr)∈L)(hv:cs[off]? =some v):Cell I L b off v:=⟨cs,T,fr,.inl hm,hv⟩
theorem Cell.imm {I:Imm}{L:LH}{b off:Nat}{v:Value}{cs:Array Value}{T:Nat}{fr:Nat×Nat}(hm:I b=some (Obj.cells cs T fr))(hv:cs[off]? =some v):Cell I L b off v:=⟨cs,T,fr,.inr hm,hv⟩
theorem Cell.mono {I I':Imm}{L L':LH}{b off:Nat}{v:Value}(h:Cell I L b off v)(hI:Ext I I')(hL:∀x∈L,x∈L'):Cell I' L' b off v:=by
 obtain ⟨cs,T,fr,hm,hv⟩:=h;exact ⟨cs,T,fr,hm.imp (hL _) (hI _ _),hv⟩
section reads
variable {I:Imm}{L:LH}{K:Value→M}{b off n:Nat}{v:Value}
theorem rd1 (h:Cell I L b off v)(hk:K v I L):Rv none (Aq (.pointer (some ⟨b,off,none⟩))) K I L:=⟨v,⟨b,off,rfl,h⟩,hk⟩
theorem rdb {l:List Value}{T:Nat}{fr:Nat×Nat}[h:InL b L (.cells l.toArray T fr)][g:GetL l off v](hk:K v I L):Rv none (Aq (.pointer (some ⟨b,off,none⟩))) K I L:=
 rd1 (Cell.own h.mem (by simpa using g.get)) hk
theorem rdN {vs:List Value}(hl:vs.length=n)(h:Cells I L b off vs)(hk:K (.agg vs.toArray) I L):Rv none (AC n (.pointer (some ⟨b,off,none⟩))) K I L:=⟨_,⟨b,off,vs,rfl,hl,h,rfl⟩,hk⟩
theorem rdB {l:List Value}{T:Nat}{fr:Nat×Nat}[h:InL b L (.cells l.toArray T fr)](hl:l.length=n)(hk:K (.agg l.toArray) I L):Rv none (AC n (.pointer (some ⟨b,0,none⟩))) K I L:=
 rdN hl (λj u hu=>Cell.own h.mem (by simpa using hu)) hk
theorem rdP {l:List Value}{T:Nat}{fr:Nat×Nat}[h:InL b L (.cells l.toArray T fr)](vs:List Value)(he:(l.drop off).take n=vs)(hl:vs.length=n)(hk:K (.agg vs.toArray) I L):Rv none (AC n (.pointer (some ⟨b,off,none⟩))) K I L:=
 rdN hl (λj u hu=>Cell.own h.mem (by
  subst he;rw [List.getElem?_take] at hu;split at hu
  ·rw [List.getElem?_drop] at hu;simpa using hu
  ·cases hu)) hk
variable {S:M}
theorem AUb (h:∀I' L',S I' L'→Cell I' L' b off v)(hk:K v I L):Rv (some S) (Aq (.pointer (some ⟨b,off,none⟩))) K I L:=⟨v,λI' L' hS=>⟨b,off,rfl,h I' L' hS⟩,hk⟩
theorem AQP {vs:List Value}(hl:vs.length=n)(h:∀I' L',S I' L'→Cells I' L' b off vs)(hk:K (.agg vs.toArray) I L):Rv (some S) (AC n (.pointer (some ⟨b,off,none⟩))) K I L:=
 ⟨_,λI' L' hS=>⟨b,off,vs,rfl,hl,h I' L' hS,rfl⟩,hk⟩
end reads
def Stay (I0:Imm)(X:LH):M:=λI L=>Ext I0 I∧∀x∈X,x∈L
theorem Stay.start (I:Imm)(L:LH):Stay I L I L:=⟨zAC I,λ_ h=>h⟩
section stay
variable {I I0:Imm}{L X:LH}{K:Value→M}{b off n:Nat}{v:Value}
theorem EO {l:List Value}{T:Nat}{fr:Nat×Nat}[h:InL b X (.cells l.toArray T fr)][g:GetL l off v](hk:K v I L):Rv (some (Stay I0 X)) (Aq (.pointer (some ⟨b,off,none⟩))) K I L:=
 AUb (λI' L' hS=>Cell.own (hS.2 _ h.mem) (by simpa using g.get)) hk
theorem SK {l:List Value}{T:Nat}{fr:Nat×Nat}[h:InL b X (.cells l.toArray T fr)](hl:l.length=n)(hk:K (.agg l.toArray) I L):Rv (some (Stay I0 X)) (AC n (.pointer (some ⟨b,0,none⟩))) K I L:=
 AQP hl (λI' L' hS j u hu=>Cell.own (hS.2 _ h.mem) (by simpa using hu)) hk
theorem JB (h:Cell I0 X b off v)(hk:K v I L):Rv (some (Stay I0 X)) (Aq (.pointer (some ⟨b,off,none⟩))) K I L:=
 AUb (λ_ _ hS=>h.mono hS.1 hS.2) hk
theorem Oe {vs:List Value}(hl:vs.length=n)(h:Cells I0 X b off vs)(hk:K (.agg vs.toArray) I L):Rv (some (Stay I0 X)) (AC n (.pointer (some ⟨b,off,none⟩))) K I L:=
 AQP hl (λ_ _ hS j u hu=>(h j u hu).mono hS.1 hS.2) hk
theorem AUh (h1:Ext I0 I)(h2:∀x∈X,x∈L)(hk:K v I L):Dh (Stay I0 X) K v I L:=⟨⟨h1,h2⟩,hk⟩
theorem draw {B:M→M}(S:M)(h1:S I L)(h2:B S I L):Ci B I L:=⟨S,h1,h2⟩
end stay
section ghosts
variable {I:Imm}{L:LH}
theorem Cons.ext_put {b:Nat}{o:Obj}(h:Cons I ((b,o)::L)):Ext I (Imm.put I b o):=by
 intro b' o' hb';unfold Imm.put;have:=h.2 b o (List.mem_cons_self ..);rw [if_neg (λe=>by subst e;rw [this] at hb';cases hb')];exact hb'
theorem Cons.freeze {b:Nat}{o:Obj}(h:Cons I ((b,o)::L)):Cons (Imm.put I b o) L:=by
 refine ⟨(List.nodup_cons.1 h.1).2,λb' o' hm=>?_⟩;unfold Imm.put;have hn:=(List.nodup_cons.1 h.1).1;rw [if_neg (λe=>hn (by subst e;exact List.mem_map.2 ⟨(b',o'),hm,rfl⟩))];exact h.2 b' o' (List.mem_cons_of_mem _ hm)
theorem Cons.perm {L':LH}(h:Cons I L)(hp:L.Perm L'):Cons I L':=⟨(hp.map _).nodup_iff.1 h.1,λb o hb=>h.2 b o (hp.mem_iff.2 hb)⟩
theorem Cons.drop {L':LH}(h:Cons I L)(hs:L'.Sublist L):Cons I L':=⟨h.1.sublist (hs.map _),λb o hb=>h.2 b o (hs.subset hb)⟩
theorem Gh.done {A:M}(h:A I L):Gh A I L:=λ_=>⟨I,L,λ_ _ h=>h,h⟩
theorem zAA:type_of% @Gh.done:=@Gh.done
theorem Gh.freeze {A:M}{b:Nat}{o:Obj}(h:Ext I (Imm.put I b o)→Gh A (Imm.put I b o) L):Gh A I ((b,o)::L):=by
 intro hc;obtain ⟨I',L',h1,h2⟩:=h hc.ext_put hc.freeze;exact ⟨I',L',λω w hs=>h1 ω w hs.freeze,h2⟩
theorem Gh.perm {A:M}{L':LH}(hp:L.Perm L')(h:Gh A I L'):Gh A I L:=by
 intro hc;obtain ⟨I',L',h1,h2⟩:=h (hc.perm hp);exact ⟨I',L',λω w hs=>h1 ω w (hs.perm hp),h2⟩
theorem Gh.drop {A:M}{L':LH}(hp:L'.Sublist L)(h:Gh A I L'):Gh A I L:=by
 intro hc;obtain ⟨I',L',h1,h2⟩:=h (hc.drop hp);exact ⟨I',L',λω w hs=>h1 ω w (hs.drop hp),h2⟩
theorem Gh.to {A:M}(L':LH)[hs:SubP L' L](h:Gh A I L'):Gh A I L:=by
 obtain ⟨R,hR⟩:=hs.sub;exact Gh.perm hR (Gh.drop (List.sublist_append_left L' R) h)
theorem zAE:type_of% @Gh.to:=@Gh.to
end ghosts
section effs
variable {I:Imm}{L L':LH}{K:Value→M}{b off n T:Nat}{v:Value}
theorem APb (l l':List Value)(k:Nat)(v:Value)(h:l.set k v=l'):wr l.toArray k [v]=l'.toArray:=by
 simp [wr,h]
theorem st1 {l l':List Value}[h:InL b L (.cells l.toArray T (0,0))][g:SetL l off v l'][u:UpL b L (.cells l.toArray T (0,0)) (.cells l'.toArray T (0,0)) L'](hv:v.oneCell'=true)(hk:K undef I L'):
  Sto 1 (.pointer (some ⟨b,off,none⟩)) v (gh K) I L:=by
 obtain ⟨L1,L2,rfl,rfl⟩:=u.up;have hc:v.cells=#[v]:=by cases v <;> first|rfl|simp [Value.oneCell'] at hv
 refine ⟨b,off,l.toArray,T,L1,L2,rfl,by simp [hc],by simp [hc];exact hv,by simp;have:=g.set.2;omega,rfl,?_⟩;rw [hc,APb l l' off v g.set.1];exact zAA hk
theorem APc:∀(vs l:List Value) (off:Nat),off+vs.length=l.length→wr l.toArray off vs=(l.take off++vs).toArray:=by
 intro vs l off h;rw [XQ vs l.toArray off (by simp;omega)];simp [h]
theorem stB {l vs:List Value}[h:InL b L (.cells l.toArray T (0,0))][u:UpL b L (.cells l.toArray T (0,0)) (.cells vs.toArray T (0,0)) L'](hl:vs.length=n)(hl':l.length=n)(h1:∀u∈vs,u.oneCell'=true)(hk:K undef I L'):
  Sto n (.pointer (some ⟨b,0,none⟩)) (.agg vs.toArray) (gh K) I L:=by
 obtain ⟨L1,L2,rfl,rfl⟩:=u.up;refine ⟨b,0,l.toArray,T,L1,L2,rfl,by simp [Value.cells,hl],by simpa [Value.cells] using h1,by simp [hl'],rfl,?_⟩;simp only [Value.cells];rw [APc vs l 0 (by omega)];exact zAA (by simpa using hk)
theorem Au {vs:List Value}(h:vs.all (·.oneCell')=true):∀u∈vs,u.oneCell'=true:=λu hu=>List.all_eq_true.1 h u hu
theorem Ac {o:Obj}(h:∀b,K (.pointer (some ⟨b,0,none⟩)) I ((b,o)::L)):New o (gh K) I L:=λb=>zAA (h b)
end effs
section calls
variable {P:Program}{ω:Om}{f:FuncId}{args:Array Value}{K:Value→M}{I:Imm}{L:LH}
theorem Cal.gh (h:Cal P ω f args (λv=>Gh (K v)) I L):Cal P ω f args K I L:=λw hs=>
 (h w hs).mono λ_ _ ⟨v,_,_,he,hs',hg⟩=>by
  obtain ⟨I2,L2,h1,h2⟩:=hg hs'.cons;exact ⟨v,I2,L2,he,h1 ω _ hs',h2⟩
theorem zAI:type_of% @Cal.gh:=@Cal.gh
theorem call (h:Cal P ω f args K I L):Cal P ω f args (SL.gh K) I L:=λw hs=>
 (h w hs).mono λ_ _ ⟨v,I',L',he,hs',h2⟩=>⟨v,I',L',he,hs',zAA h2⟩
theorem Cal.to (L':LH)[hs:SubP L' L](h:Cal P ω f args K I L'):Cal P ω f args K I L:=λw hw=>by
 obtain ⟨R,hR⟩:=hs.sub;exact h w ((hw.perm hR).drop (List.sublist_append_left L' R))
theorem Cal.split (X:LH){R:LH}[h:SplitL X L R](hc:Cal P ω f args K I (X++R)):Cal P ω f args K I L:=λw hs=>hc w (hs.perm h.perm)
theorem zAQ:type_of% @Cal.split:=@Cal.split
theorem Cal.mono {K':Value→M}(h:Cal P ω f args K I L)(hk:∀v I' L',K v I' L'→K' v I' L'):Cal P ω f args K' I L:=λw hs=>
 (h w hs).mono λ_ _ ⟨v,I',L',he,hs',h2⟩=>⟨v,I',L',he,hs',hk v I' L' h2⟩
theorem loop {σ:Type}{s0:σ}{B:σ→(σ→M)→M}(Inv:Nat→σ→M)(m:Nat)(h0:Inv m s0 I L)
  (h:∀m s I' L',Inv m s I' L'→B s (λs'=>Gh λI2 L2=>∃m',m' < m∧Inv m' s' I2 L2) I' L'):Am s0 B I L:=⟨Inv,m,h0,h⟩
end calls
abbrev AQ (P:Program)(ω:Om)(f:FuncId)(args:Array Value)(Pn K:Value→M):M:=CalP P ω f args K Pn
abbrev JA (P:Program)(ω:Om)(x:Value)(args:Array Value)(Pn K:Value→M):M:=CalVP P ω x args K Pn
abbrev ATS (P:Program)(ω:Om)(f:FuncId)(args:Array Value)(K:Value→M):M:=CalD P ω f args K
abbrev ANN (P:Program)(ω:Om)(f:FuncId)(args:Array Value)(v:Value)(K:Value→M):M:=CalDR P ω f args v K
section callsP
variable {P:Program}{ω:Om}{f:FuncId}{args:Array Value}{K Pn:Value→M}{I:Imm}{L:LH}
theorem CalP.of (h:Cal P ω f args K I L):CalP P ω f args K Pn I L:=λw hs=>
 (h w hs).mono λ_ _ ⟨v,I',L',he,hs',hk⟩=>⟨v,I',L',hs',.inl ⟨he,hk⟩⟩
theorem CalP.gh (h:CalP P ω f args (λv=>Gh (K v)) (λv=>Gh (Pn v)) I L):CalP P ω f args K Pn I L:=λw hs=>
 (h w hs).mono λ_ _ ⟨v,_,_,hs',hg⟩=>by
  rcases hg with ⟨he,hg⟩|⟨he,hg⟩
  ·obtain ⟨I2,L2,h1,h2⟩:=hg hs'.cons;exact ⟨v,I2,L2,h1 ω _ hs',.inl ⟨he,h2⟩⟩
  ·obtain ⟨I2,L2,h1,h2⟩:=hg hs'.cons;exact ⟨v,I2,L2,h1 ω _ hs',.inr ⟨he,h2⟩⟩
theorem zAR:type_of% @CalP.gh:=@CalP.gh
theorem CalP.mono {K' Pn':Value→M}(h:CalP P ω f args K Pn I L)(hk:∀v I' L',K v I' L'→K' v I' L')(hp:∀v I' L',Pn v I' L'→Pn' v I' L'):CalP P ω f args K' Pn' I L:=λw hs=>
 (h w hs).mono λ_ _ ⟨v,I',L',hs',hg⟩=>⟨v,I',L',hs',hg.imp (λh=>⟨h.1,hk _ _ _ h.2⟩) (λh=>⟨h.1,hp _ _ _ h.2⟩)⟩
theorem AX (h:CalP P ω f args K Pn I L):CalP P ω f args (SL.gh K) Pn I L:=h.mono (λ_ _ _ h=>zAA h) (λ_ _ _ h=>h)
theorem Aj (h:Cal P ω f args K I L):CalP P ω f args (SL.gh K) Pn I L:=CalP.of (call h)
theorem CalP.pre (h:Gh (CalP P ω f args K Pn) I L):CalP P ω f args K Pn I L:=λw hs=>by
 obtain ⟨I',L',h1,h2⟩:=h hs.cons;exact h2 w (h1 ω w hs)
end callsP
theorem ExtE.ret {P:Program}{ω:Om}{e:Array Value→Sem Value}{args:Array Value}{K:Value→M}{I:Imm}{L:LH}(h:∃v,(∀w,St ω w I L→(e args).run P w= .ok v w)∧K v I L):ExtE P ω e args K I L:=λw hs=>by
 obtain ⟨v,h1,h2⟩:=h;exact ⟨v,w,I,L,h1 w hs,hs,h2⟩
theorem YU {P:Program}{ω:Om}{x:Value}{K:Value→M}{I:Imm}{L:LH}(hk:K x I L):ExtE P ω Extern.AbiNoEscape.same #[x] K I L:=ExtE.ret ⟨x,λw _=>Lib.run_noEscape w x,hk⟩
theorem AWR {P:Program}{ω:Om}{ps:Array TypeId}{t e n:Nat}{K:Value→M}{I:Imm}{L:LH}(ht:P.underlying t=some (.slice e))(hn:n≤281474976710656)(hk:∀(b:Nat) (cs:Array Value),n≤cs.size→K (.slice (some ⟨b,0,none⟩) n cs.size) I ((b,.cells cs e (0,0))::L)):
  ExtE P ω (Extern.BytealgMakeNoZero.makeNoZero ps #[t]) #[.int .i64 n] K I L:=λw hs=>by
 obtain ⟨cs,h1,h2,_⟩:=Lib.run_makeNoZero (P:=P) w ps t e ht n hn;refine ⟨_,_,I,_,h1,?_,hk w.heap.size cs h2⟩;have hd:St ω w.drew.drew I L:=St.drew hs (n:=w.drew.drew.drawn) (by show w.drawn≤w.drawn+1+1;omega);exact St.push hd (.cells cs e (0,0))
def SlI (I:Imm)(n:Nat)(v:Value)(cells:List Value)(len:Nat):Prop:=
 cells.length=len * n∧∃a cap,v= .slice a len cap∧len≤cap∧
  (len≠0→∃b off cs T fr,a=some ⟨b,off,none⟩∧I b=some (Obj.cells cs T fr)∧∀j u,cells[j]? =some u→cs[off+j]? =some u)
theorem SlI.mono {I I':Imm}{n len:Nat}{v:Value}{cells:List Value}(h:SlI I n v cells len)(hI:Ext I I'):SlI I' n v cells len:=by
 obtain ⟨hl,a,cap,hv,hc,h⟩:=h;refine ⟨hl,a,cap,hv,hc,λh0=>?_⟩;obtain ⟨b,off,cs,T,fr,ha,hb,hcs⟩:=h h0;exact ⟨b,off,cs,T,fr,ha,hI _ _ hb,hcs⟩
theorem SlI.news {I:Imm}{L:LH}{n len:Nat}{v:Value}{cells:List Value}(h:SlI I n v cells len):News n v I L len cells:=by
 obtain ⟨hl,a,cap,rfl,hc,h⟩:=h;by_cases h0:len=0
 ·subst h0;exact .inl ⟨a,cap,rfl,rfl,List.eq_nil_of_length_eq_zero (by simpa using hl)⟩
 ·obtain ⟨b,off,cs,T,fr,rfl,hb,hcs⟩:=h h0;exact .inr (.inl ⟨b,off,cap,rfl,hl,λj u hu=>Cell.imm hb (hcs j u hu)⟩)
def SlO (T n : Nat) (X : LH) (v : Value) (cells : List Value) (len : Nat) : Prop :=
  cells.length = len * n ∧
  ((X = [] ∧ len = 0 ∧ ∃ a, v = .slice a 0 0) ∨
   (∃ (b cap : Nat) (cs : Array Value), X = [(b, Obj.cells cs T (0, 0))] ∧ v = .slice (some ⟨b, 0, Option.none⟩) len cap ∧ cs.size = cap * n ∧ len ≤ cap ∧ ∀ (j : Nat) (u : Value), cells[j]? = some u → cs[j]? = some u))
theorem SlO.none (T n:Nat):SlO T n [] (.slice none 0 0) [] 0:=⟨by simp,.inl ⟨rfl,rfl,_,rfl⟩⟩
theorem SlO.empty (T n:Nat)(a:Option Addr):SlO T n [] (.slice a 0 0) [] 0:=⟨by simp,.inl ⟨rfl,rfl,_,rfl⟩⟩
theorem SlO.form {T n len:Nat}{X:LH}{v:Value}{cells:List Value}(h:SlO T n X v cells len):∃a cap,v= .slice a len cap:=by
 rcases h.2 with ⟨_,rfl,a,rfl⟩|⟨b,cap,cs,_,rfl,_⟩
 ·exact ⟨a,0,rfl⟩
 ·exact ⟨_,cap,rfl⟩
theorem SlO.news {I:Imm}{T n len:Nat}{X F:LH}{v:Value}{cells:List Value}(h:SlO T n X v cells len)(hF:∀x∈X,x∈F):News n v I F len cells:=by
 obtain ⟨hl,h⟩:=h;rcases h with ⟨rfl,rfl,a,rfl⟩|⟨b,cap,cs,rfl,rfl,hcs,hle,hc⟩
 ·exact .inl ⟨a,0,rfl,rfl,List.eq_nil_of_length_eq_zero (by simpa using hl)⟩
 ·exact .inr (.inl ⟨b,0,cap,rfl,hl,λj u hu=>Cell.own (hF _ (List.mem_singleton.2 rfl)) (by rw [Nat.zero_add];exact hc j u hu)⟩)
theorem SlO.freeze {A:M}{I:Imm}{T n len:Nat}{X F:LH}{v:Value}{cells:List Value}(h:SlO T n X v cells len)(hk:∀I',Ext I I'→SlI I' n v cells len→Gh A I' F):Gh A I (X++F):=by
 obtain ⟨hl,h⟩:=h;rcases h with ⟨rfl,rfl,a,rfl⟩|⟨b,cap,cs,rfl,rfl,hcs,hle,hc⟩
 ·exact hk I (zAC I) ⟨hl,a,0,rfl,Nat.le_refl _,λh=>absurd rfl h⟩
 ·exact Gh.freeze λhext=>hk _ hext ⟨hl,_,cap,rfl,hle,λ_=>⟨b,0,cs,T,(0,0),rfl,by simp [Imm.put],λj u hu=>by rw [Nat.zero_add];exact hc j u hu⟩⟩
theorem GX (z:Array Value)(k:Nat):(Builtin.zeroCells z k).size=k * z.size:=by simp [Builtin.zeroCells]
theorem ALB {I:Imm}{X L F:LH}[hsp:SplitL X L F]{T n bytes len m:Nat}{z:Array Value}{s x:Value}{cells news:List Value}{K:Value→M}(hz:z.size=n)(ho:SlO T n X s cells len)(hn:News n x I L m news)
  (h1:∀u∈news,u.oneCell'=true) (hb:(len+m) * bytes≤150000000000000) (hm:len+m≤150000000000000)
  (hk:∀X' v',SlO T n X' v' (cells++news) (len+m)→Gh (K v') I (X'++F)):App T n bytes z s x (gh K) I L:=by
 have hp:=hsp.perm;obtain ⟨hl,ho'⟩:=ho;have hnl:=hn.length;have hlen:(cells++news).length=(len+m) * n:=by rw [List.length_append,hl,hnl,Nat.add_mul]
 rcases ho' with ⟨rfl,rfl,a,rfl⟩|⟨b,cap,cs,rfl,rfl,hcs,hle,hc⟩
 ·have hce:cells=[]:=List.eq_nil_of_length_eq_zero (by simpa using hl);subst hce;refine ⟨a,0,0,m,news,rfl,hn,h1,?_⟩;by_cases h0:m=0
  ·subst h0;have:news=[]:=List.eq_nil_of_length_eq_zero (by simpa using hnl);subst this;exact .inl ⟨Nat.le_refl _,rfl,Gh.perm hp (hk [] (.slice a 0 0) (SlO.empty T n a))⟩
  ·refine .inr (.inr ⟨by omega,hb,hm,[],L,.inl ⟨a,0,rfl,rfl,rfl⟩,List.Sublist.refl _,λb c hc=>?_⟩);refine Gh.perm (List.Perm.cons _ hp) (hk [(b,_)] _ ⟨hlen,.inr ⟨b,c,_,rfl,rfl,?_,hc,?_⟩⟩)
   ·simp only [List.nil_append,Array.size_append,List.size_toArray,GX,hz,hnl];rw [←Nat.add_mul];congr 1;omega
   ·intro j u hu;simp only [List.nil_append] at hu ⊢;have hlt:j < news.length:=(List.getElem?_eq_some_iff.1 hu).1;rw [Array.getElem?_append_left (by simpa using hlt)];simpa using hu
 ·have hmem:(b,Obj.cells cs T (0,0))∈L:=hp.mem_iff.2 (List.mem_append_left _ (List.mem_singleton.2 rfl));obtain ⟨L1,L2,rfl⟩:=List.append_of_mem hmem;have hF:(L1++L2).Perm F:=by
   have h2:(L1++(b,Obj.cells cs T (0,0))::L2).Perm ((b,Obj.cells cs T (0,0))::(L1++L2)):=List.perm_middle;exact (List.perm_cons _).1 (h2.symm.trans hp)
  refine ⟨_,len,cap,m,news,rfl,hn,h1,?_⟩;by_cases hfit:len+m≤cap
  ·refine .inr (.inl ⟨hfit,b,0,cs,T,L1,L2,rfl,rfl,by rw [hcs,Nat.zero_add];exact Nat.mul_le_mul_right n hfit,?_⟩);refine Gh.perm (List.perm_middle.trans (List.Perm.cons _ hF)) (hk [(b,_)] _ ⟨hlen,.inr ⟨b,cap,_,rfl,rfl,by rw [QG];exact hcs,hfit,?_⟩⟩);have hroom:0+len * n+news.length≤cs.size:=by
    rw [hcs,hnl,Nat.zero_add,←Nat.add_mul];exact Nat.mul_le_mul_right n hfit
   intro j u hu;rw [Zz news cs (0+len * n) j hroom];simp only [Nat.zero_add] at hroom ⊢;by_cases hj:j < len * n
   ·rw [if_pos hj];rw [List.getElem?_append_left (by omega)] at hu;exact hc j u hu
   ·rw [if_neg hj];rw [List.getElem?_append_right (by omega),hl] at hu;have hlt:=(List.getElem?_eq_some_iff.1 hu).1;rw [if_pos (by omega)];exact hu
  ·refine .inr (.inr ⟨by omega,hb,hm,cells,L1++L2,.inr (.inl ⟨b,0,cap,rfl,hl,λj u hu=>Cell.own hmem (by rw [Nat.zero_add];exact hc j u hu)⟩),
    List.Sublist.append (List.Sublist.refl _) (List.sublist_cons_self ..),λb' c hcc=>?_⟩)
   refine Gh.perm (List.Perm.cons _ hF) (hk [(b',_)] _ ⟨hlen,.inr ⟨b',c,_,rfl,rfl,?_,hcc,?_⟩⟩)
   ·simp only [Array.size_append,List.size_toArray,GX,hz,hlen];rw [←Nat.add_mul];congr 1;omega
   ·intro j u hu;have hlt:j < (cells++news).length:=(List.getElem?_eq_some_iff.1 hu).1;rw [Array.getElem?_append_left (by simpa using hlt)];simpa using hu
theorem Ee {I:Imm}{X L F:LH}[hsp:SplitL X L F]{T n bytes len m:Nat}{z:Array Value}{s x:Value}{cells news:List Value}{K:Value→M}(hz:z.size=n)(ho:SlO T n X s cells len)(hn:News n x I L m news)
  (h1:∀u∈news,u.oneCell'=true) (hb:(len+m) * bytes≤150000000000000) (hm:len+m≤150000000000000)
  (hk:∀X' v',SlO T n X' v' (cells++news) (len+m)→K v' I (X'++F)):App T n bytes z s x (gh K) I L:=ALB hz ho hn h1 hb hm (λX' v' h=>zAA (hk X' v' h))
theorem AQa {I:Imm}{F:LH}{T bytes:Nat}{z:Array Value}{ln cn:Nat}{K:Value→M}(hlc:ln≤cn)(hc:cn≤140737488355328)(hb:cn * bytes≤281474976710656)
  (hk:∀X v,SlO T z.size X v (Builtin.zeroCells z ln).toList ln→K v I (X++F)):MkS T bytes z (.int .i64 ln) (.int .i64 cn) (gh K) I F:=by
 refine ⟨.i64,.i64,ln,cn,rfl,rfl,hlc,hc,hb,λb=>?_⟩;refine zAA (hk [(b,_)] _ ⟨by simp [GX],.inr ⟨b,cn,_,rfl,rfl,GX z cn,hlc,?_⟩⟩);intro j u hu;have hlt:j < ln * z.size:=by have:=(List.getElem?_eq_some_iff.1 hu).1;simpa [GX] using this
 have hlt':j < cn * z.size:=Nat.lt_of_lt_of_le hlt (Nat.mul_le_mul_right _ hlc);simp only [Builtin.zeroCells,Array.toList_map,List.getElem?_map,Array.toList_range,List.getElem?_range hlt,Option.map_some,Option.some.injEq] at hu;simp only [Builtin.zeroCells,Array.getElem?_map,Array.getElem?_range,hlt',if_true,Option.map_some,hu]
theorem AKI {I:Imm}{F:LH}{T n:Nat}{z:Array Value}{v:Value}{K:Value→M}(hz:z.size=n)(hn:0 < n)(hv:v.cells.size=n)
  (hk:∀X u,SlO T n X u v.cells.toList 1→Gh (K u) I (X++F)):AY T n z 1 [(0,v)] (gh K) I F:=by
 have hfold:∀(vs:List Value) (cs:Array Value) (k:Nat),k+vs.length≤cs.size→(vs.zipIdx k).foldl (λcs (c,j)=>cs.setIfInBounds (0+j) c) cs=wr cs k vs:=by
  intro vs;induction vs with
  |nil=>intro cs k _;rfl
  |cons v vs ih=>
   intro cs k hk;simp only [List.zipIdx_cons,List.foldl_cons,wr,Nat.zero_add];simp only [List.length_cons] at hk;have:=ih (cs.setIfInBounds k v) (k+1) (by simp;omega);simpa using this
 refine ⟨v.cells,?_,λb=>?_⟩
 ·simp only [Instr.fill];have h0:((Array.range (1 * n)).map (λx=>z[x % z.size]!)).size=n:=by simp
  rw [h0];have hc:¬((decide (v.cells.size≠n)||decide (0 * n+v.cells.size > n))=true):=by simp [hv]
  rw [if_neg hc];congr 1
  rw [←Array.foldl_toList];simp only [Array.toList_zipIdx,Nat.zero_mul];rw [hfold _ _ 0 (by rw [h0];simp [hv]),XQ _ _ 0 (by rw [h0];simp [hv])];apply Array.ext'
  simp [hv]
 ·exact hk [(b,_)] _ ⟨by simp [hv],.inr ⟨b,1,_,rfl,rfl,by omega,Nat.le_refl _,λj u hu=>by simpa using hu⟩⟩
theorem GK {I:Imm}{F:LH}{T n:Nat}{z:Array Value}{v:Value}{K:Value→M}(hz:z.size=n)(hn:0 < n)(hv:v.cells.size=n)
  (hk:∀X u,SlO T n X u v.cells.toList 1→K u I (X++F)):AY T n z 1 [(0,v)] (gh K) I F:=AKI hz hn hv (λX u h=>zAA (hk X u h))
theorem XI (k:IntKind)(i d y:Nat)(h:i≤y):ER (some (.int k i)) d y=some i:=by
 simp only [ER];rw [if_pos (by omega)];simp
def u8s (l:List UInt8):List Value:=l.map λc=>.int .u8 c.toNat
def Bytes (I:Imm)(v:Value)(l:List UInt8):Prop:=SlI I 1 v (u8s l) l.length
def Recs {α:Type}(R:α→List Value→Prop)(n:Nat):List α→List Value→Prop
 |[],cells=>cells=[]
 |x::xs,cells=>(cells.take n).length=n∧R x (cells.take n)∧Recs R n xs (cells.drop n)
section recs
variable {α:Type}{R R':α→List Value→Prop}{n:Nat}
theorem Recs.length:∀{xs:List α} {cells:List Value},Recs R n xs cells→cells.length=xs.length * n
 |[],cells,h=>by rw [h];simp
 |x::xs,cells,⟨h1,_,h2⟩=>by
  have:=Recs.length h2;rw [List.length_drop] at this;rw [List.length_take] at h1;simp only [List.length_cons,Nat.add_mul,Nat.one_mul];omega
theorem Recs.imp (hR:∀x c,R x c→R' x c):∀{xs:List α} {cells:List Value},Recs R n xs cells→Recs R' n xs cells
 |[],_,h=>h
 |_::_,_,⟨h1,h2,h3⟩=>⟨h1,hR _ _ h2,Recs.imp hR h3⟩
theorem Recs.append:∀{xs ys:List α} {cs ds:List Value},Recs R n xs cs→Recs R n ys ds→Recs R n (xs++ys) (cs++ds)
 |[],ys,cs,ds,h,h'=>by rw [show cs=[] from h];exact h'
 |x::xs,ys,cs,ds,⟨h1,h2,h3⟩,h'=>by
  have hle:n≤cs.length:=by rw [List.length_take] at h1;omega
  refine ⟨?_,?_,?_⟩
  ·rw [List.take_append_of_le_length hle];exact h1
  ·rw [List.take_append_of_le_length hle];exact h2
  ·rw [List.drop_append_of_le_length hle];exact Recs.append h3 h'
theorem Recs.one {x:α}{c:List Value}(hl:c.length=n)(h:R x c):Recs R n [x] c:=by
 refine ⟨by rw [List.take_of_length_le (by omega)];exact hl,by rw [List.take_of_length_le (by omega)];exact h,?_⟩;show c.drop n=[];simp [hl]
theorem Recs.one_cells (hR:∀x c,R x c→∀u∈c,u.oneCell'=true):∀{xs:List α} {cells:List Value},Recs R n xs cells→∀u∈cells,u.oneCell'=true
 |[],cells,h,u,hu=>by rw [show cells=[] from h] at hu;cases hu
 |x::xs,cells,⟨_,h2,h3⟩,u,hu=>by
  rw [←List.take_append_drop n cells] at hu;rcases List.mem_append.1 hu with hu|hu
  ·exact hR _ _ h2 u hu
  ·exact Recs.one_cells hR h3 u hu
theorem Recs.get:∀{xs:List α} {cells:List Value} {i:Nat} {x:α},Recs R n xs cells→xs[i]? =some x→((cells.drop (i * n)).take n).length=n∧R x ((cells.drop (i * n)).take n)
 |[],_,_,_,_,h=>by simp at h
 |y::ys,cells,0,x,⟨h1,h2,_⟩,h=>by
  simp only [List.getElem?_cons_zero,Option.some.injEq] at h;subst h;simpa using ⟨by simpa using h1,h2⟩
 |y::ys,cells,i+1,x,⟨_,_,h3⟩,h=>by
  have:=Recs.get (i:=i) h3 (by simpa using h);rw [List.drop_drop] at this;rwa [show (i+1) * n=n+i * n from by rw [Nat.add_mul];omega]
theorem Recs.take:∀{xs:List α} {cells:List Value} (k:Nat),Recs R n xs cells→Recs R n (xs.take k) (cells.take (k * n))
 |[],cells,k,h=>by rw [show cells=[] from h];simp [Recs]
 |x::xs,cells,0,_=>by simp [Recs]
 |x::xs,cells,k+1,⟨h1,h2,h3⟩=>by
  have hle:n≤(k+1) * n:=by rw [Nat.add_mul];omega
  refine ⟨?_,?_,?_⟩
  ·rw [List.take_take,Nat.min_eq_left hle];exact h1
  ·rw [List.take_take,Nat.min_eq_left hle];exact h2
  ·have:=Recs.take k h3;rw [List.drop_take];rwa [show (k+1) * n - n=k * n from by rw [Nat.add_mul];omega]
theorem Recs.drop:∀{xs:List α} {cells:List Value} (k:Nat),Recs R n xs cells→Recs R n (xs.drop k) (cells.drop (k * n))
 |[],cells,k,h=>by rw [show cells=[] from h];simp [Recs]
 |x::xs,cells,0,h=>by simpa using h
 |x::xs,cells,k+1,⟨_,_,h3⟩=>by
  have:=Recs.drop k h3;rw [List.drop_drop] at this;rwa [show (k+1) * n=n+k * n from by rw [Nat.add_mul];omega]
end recs
section
variable {I:Imm}{L:LH}{K:Value→M}
theorem Bl {A B:M}(e:A=B)(h:B I L):A I L:=e ▸ h
end
theorem AEI (A B:M):Gd (.bool true) true A B=A:=rfl
theorem AEK (A B:M):Gd (.bool false) true A B=B:=rfl
theorem AEJ (A B:M):Gd (.bool true) false A B=B:=rfl
theorem AEL (A B:M):Gd (.bool false) false A B=A:=rfl
class LSub (L L':LH):Prop where
 sub:∀x∈L,x∈L'
instance (priority:=100) lsubRefl (L:LH):LSub L L:=⟨λ_ h=>h⟩
instance (priority:=110) lsubNil (L:LH):LSub [] L:=⟨λ_ h=>by cases h⟩
instance (priority:=90) lsubCons (L L':LH)(y:Nat×Obj)[h:LSub L L']:LSub L (y::L'):=⟨λx hx=>List.mem_cons_of_mem _ (h.sub x hx)⟩
instance (priority:=90) lsubApp (L A L':LH)[h:LSub L L']:LSub L (A++L'):=⟨λx hx=>List.mem_append_right _ (h.sub x hx)⟩
instance (priority:=80) lsubAppL (L A L':LH)[h:LSub L A]:LSub L (A++L'):=⟨λx hx=>List.mem_append_left _ (h.sub x hx)⟩
section readsC
variable {I I0 I1:Imm}{L L0 X:LH}{K:Value→M}{b off n:Nat}{v:Value}
theorem Cells.mono {vs:List Value}(h:Cells I0 L0 b off vs)(hI:Ext I0 I)(hL:∀x∈L0,x∈L):Cells I L b off vs:=λj u hu=>(h j u hu).mono hI hL
theorem Cells.sub {vs:List Value}{k m:Nat}(h:Cells I L b off vs):Cells I L b (off+k) ((vs.drop k).take m):=λj u hu=>by
 rw [List.getElem?_take] at hu;split at hu
 ·rw [List.getElem?_drop] at hu;have:=h (k+j) u hu;rwa [←Nat.add_assoc] at this
 ·cases hu
theorem rdC [hl:LSub L0 L](hc:Cell I0 L0 b off v)(hI:Ext I0 I)(hk:K v I L):Rv none (Aq (.pointer (some ⟨b,off,none⟩))) K I L:=rd1 (hc.mono hI hl.sub) hk
theorem AUa [hl:LSub L0 X](hc:Cell I0 L0 b off v)(hI:Ext I0 I1)(hk:K v I L):Rv (some (Stay I1 X)) (Aq (.pointer (some ⟨b,off,none⟩))) K I L:=JB (hc.mono hI hl.sub) hk
theorem FK [hl:LSub L0 L]{vs:List Value}(hc:Cells I0 L0 b off vs)(hI:Ext I0 I)(hn:vs.length=n)(hk:K (.agg vs.toArray) I L):Rv none (AC n (.pointer (some ⟨b,off,none⟩))) K I L:=rdN hn (hc.mono hI hl.sub) hk
theorem AUZ [hl:LSub L0 X]{vs:List Value}(hc:Cells I0 L0 b off vs)(hI:Ext I0 I1)(hn:vs.length=n)(hk:K (.agg vs.toArray) I L):Rv (some (Stay I1 X)) (AC n (.pointer (some ⟨b,off,none⟩))) K I L:=Oe hn (hc.mono hI hl.sub) hk
theorem CS [hl:LSub X L](hI:Ext I0 I)(hk:K v I L):Dh (Stay I0 X) K v I L:=AUh hI hl.sub hk
theorem keepA [hl:LSub X L](hk:K v I L)(hI:Ext I0 I:=by repeat (first|exact zAC _|assumption|refine zAB ?_ zA)):Dh (Stay I0 X) K v I L:=CS hI hk
theorem Em {B:M→M}(h:B (Stay I L) I L):Ci B I L:=draw _ (Stay.start I L) h
end readsC
def QD {α:Type}[Inhabited α](l:List α)(i:Int):α:=l.getD i.toNat default
theorem Af {α:Type}[Inhabited α]{l:List α}{k:Nat}(h:k < l.length):QD l (k:Int)=l[k]:=by
 simp [QD,List.getD,h]
theorem AFY {α:Type}[Inhabited α]{l:List α}{i:Int}(h0:0≤i)(h1:i < l.length):l[i.toNat]? =some (QD l i):=by
 have:i.toNat < l.length:=by omega
 simp [QD,List.getD,this]
theorem ADl (b off n:Nat)(k:IntKind)(len cap:Nat)(i:Int)(h0:0≤i)(h1:i < len):ixV n (.slice (some ⟨b,off,none⟩) len cap) (.int k i)=some (.pointer (some ⟨b,off+i.toNat * n,none⟩)):=by
 simp only [ixV];rw [if_pos ⟨h0,h1⟩]
theorem News.ix {I:Imm}{L:LH}{n m:Nat}{a:Option Addr}{cap:Nat}{cells:List Value}(h:News n (.slice a m cap) I L m cells)(k:IntKind){i:Int}(h0:0≤i)(h1:i < m):
  ∃b off,ixV n (.slice a m cap) (.int k i)=some (.pointer (some ⟨b,off,none⟩))∧∀I' L',Ext I I'→(∀x∈L,x∈L')→Cells I' L' b off ((cells.drop (i.toNat * n)).take n):=by
 rcases h with ⟨a',cap',h2,h3,_⟩|⟨b,off,cap',h2,hl,hc⟩|⟨s,h2,_⟩
 ·omega
 ·simp only [Value.slice.injEq] at h2;obtain ⟨rfl,_,rfl⟩:=h2;refine ⟨b,off+i.toNat * n,ADl b off n k m cap i h0 h1,λI' L' hI hL j u hu=>?_⟩;rw [List.getElem?_take] at hu;split at hu
  ·rw [List.getElem?_drop] at hu;have:=(hc _ u hu).mono hI hL;rwa [←Nat.add_assoc] at this
  ·cases hu
 ·cases h2
def RL {α:Type}(R:Imm→α→List Value→Prop)(n:Nat)(I:Imm)(L:LH)(v:Value)(xs:List α):Prop:=
 ∃a cap cells,v= .slice a xs.length cap∧xs.length≤cap∧News n v I L xs.length cells∧Recs (R I) n xs cells
section rl
variable {α:Type}{R:Imm→α→List Value→Prop}{n:Nat}{I I':Imm}{L L':LH}{v:Value}{xs:List α}
theorem RL.len (h:RL R n I L v xs):lenV v=some (.int .i64 xs.length):=by
 obtain ⟨a,cap,cells,rfl,_⟩:=h;rfl
theorem zAM:type_of% @RL.len:=@RL.len
theorem RL.form (h:RL R n I L v xs):∃a cap,v= .slice a xs.length cap:=by
 obtain ⟨a,cap,cells,rfl,_⟩:=h;exact ⟨a,cap,rfl⟩
theorem zAG:type_of% @RL.form:=@RL.form
theorem News.mono {m:Nat}{news:List Value}(h:News n v I L m news)(hI:Ext I I')(hL:∀x∈L,x∈L'):News n v I' L' m news:=by
 rcases h with h|⟨b,off,cap,h1,h2,h3⟩|h
 ·exact .inl h
 ·exact .inr (.inl ⟨b,off,cap,h1,h2,λj u hu=>(h3 j u hu).mono hI hL⟩)
 ·exact .inr (.inr h)
theorem RL.mono (hR:∀x c,R I x c→R I' x c)(h:RL R n I L v xs)(hI:Ext I I')(hL:∀x∈L,x∈L'):RL R n I' L' v xs:=by
 obtain ⟨a,cap,cells,hv,hc,hn,hr⟩:=h;exact ⟨a,cap,cells,hv,hc,hn.mono hI hL,hr.imp hR⟩
theorem zAP:type_of% @RL.mono:=@RL.mono
theorem RL.ofI {cells:List Value}(h:SlI I n v cells xs.length)(hr:Recs (R I) n xs cells):RL R n I L v xs:=by
 have hn:=SlI.news (L:=L) h;obtain ⟨_,a,cap,hv,hle,_⟩:=h;exact ⟨a,cap,cells,hv,hle,hn,hr⟩
theorem RL.nil (a:Option Addr)(cap:Nat):RL R n I L (.slice a 0 cap) []:=⟨a,cap,[],rfl,Nat.zero_le _,.inl ⟨a,cap,rfl,rfl,rfl⟩,rfl⟩
theorem zAD:type_of% @RL.nil:=@RL.nil
theorem RL.ix [Inhabited α](h:RL R n I L v xs){i:Int}(h0:0≤i)(h1:i < xs.length):
  ∃b off c,ixV n v (.int .i64 i)=some (.pointer (some ⟨b,off,none⟩))∧c.length=n∧R I (QD xs i) c∧∀I' L',Ext I I'→(∀x∈L,x∈L')→Cells I' L' b off c:=by
 obtain ⟨a,cap,cells,rfl,_,hn,hr⟩:=h;obtain ⟨b,off,hix,hc⟩:=News.ix hn .i64 h0 h1;obtain ⟨g1,g2⟩:=hr.get (AFY h0 h1);exact ⟨b,off,_,hix,g1,g2,hc⟩
theorem zAS:type_of% @RL.ix:=@RL.ix
theorem RL.part (h:RL R n I L v xs){lo hi:Nat}(h1:lo≤hi)(h2:hi≤xs.length)(blo bhi:Option Value)(hlo:ER blo 0 hi=some lo)(hhi:∀cap,xs.length≤cap→ER bhi xs.length cap=some hi):
  ∃v',Hy n v blo bhi none=some v'∧RL R n I L v' ((xs.drop lo).take (hi - lo)):=by
 obtain ⟨a,cap,cells,rfl,hcap,hn,hr⟩:=h;have hb1:=hhi cap hcap;have hlen:((xs.drop lo).take (hi - lo)).length=hi - lo:=by rw [List.length_take,List.length_drop];omega
 refine ⟨.slice (if cap=lo then a else a.map (·.add (lo * n))) (hi - lo) (cap - lo),?_,_,cap - lo,(cells.drop (lo * n)).take ((hi - lo) * n),by rw [hlen],by rw [hlen];omega,?_,?_⟩
 ·simp only [Hy];rw [if_neg (by simp)];simp only [ER] at hb1 hlo ⊢;simp [hb1,hlo]
 ·rw [hlen];by_cases h0:hi - lo=0
  ·rw [h0];exact .inl ⟨_,_,rfl,rfl,by simp⟩
  ·rcases hn with ⟨a',cap',e1,e2,_⟩|⟨b,off,cap',e1,hl,hc⟩|⟨s,e1,_⟩
   ·omega
   ·simp only [Value.slice.injEq] at e1;obtain ⟨rfl,_,rfl⟩:=e1;refine .inr (.inl ⟨b,off+lo * n,cap - lo,by rw [if_neg (by omega)];simp [GM],?_,λj u hu=>?_⟩)
    ·rw [List.length_take,List.length_drop,hl];apply Nat.min_eq_left
     rw [←Nat.sub_mul];exact Nat.mul_le_mul_right n (by omega)
    ·rw [List.getElem?_take] at hu;split at hu
     ·rw [List.getElem?_drop] at hu;have:=hc _ u hu;rwa [←Nat.add_assoc] at this
     ·cases hu
   ·cases e1
 ·exact (hr.drop lo).take (hi - lo)
theorem RL.clip (h:RL R n I L v xs){j:Nat}(hj:j≤xs.length):∃a',Hy n v none (some (.int .i64 j)) (some (.int .i64 j))=some (.slice a' j j)∧RL R n I L (.slice a' j j) (xs.take j):=by
 obtain ⟨a,cap,cells,rfl,hcap,hn,hr⟩:=h;have hlen:(xs.take j).length=j:=by rw [List.length_take];omega
 refine ⟨if j=0 then a else a.map (·.add (0 * n)),?_,_,j,cells.take (j * n),by rw [hlen],by rw [hlen];exact Nat.le_refl _,?_,hr.take j⟩
 ·simp only [Hy,Option.isNone_some,Bool.false_and,Bool.false_eq_true,if_false];rw [XI _ _ _ _ (by omega),Option.bind_some,XI _ _ _ _ (Nat.le_refl _),Option.bind_some,show ER none 0 j=some 0 from rfl,Option.bind_some];simp
 ·rw [hlen];by_cases h0:j=0
  ·subst h0;exact .inl ⟨_,_,rfl,rfl,by simp⟩
  ·rcases hn with ⟨a',cap',e1,e2,_⟩|⟨b,off,cap',e1,hl,hc⟩|⟨s,e1,_⟩
   ·omega
   ·simp only [Value.slice.injEq] at e1;obtain ⟨rfl,_,rfl⟩:=e1;refine .inr (.inl ⟨b,off,j,by rw [if_neg h0];simp [GM],?_,λi u hu=>?_⟩)
    ·rw [List.length_take,hl];exact Nat.min_eq_left (Nat.mul_le_mul_right n hj)
    ·rw [List.getElem?_take] at hu;split at hu
     ·exact hc _ u hu
     ·cases hu
   ·cases e1
end rl
def GrO (I:Imm)(T n:Nat)(X:LH)(v:Value)(cells:List Value)(len:Nat):Prop:=
 SlO T n X v cells len∨(X=[]∧(∃a,v= .slice a len len)∧SlI I n v cells len)
theorem GrO.mono {I I':Imm}{T n:Nat}{X:LH}{v:Value}{cells:List Value}{len:Nat}(h:GrO I T n X v cells len)(hI:Ext I I'):GrO I' T n X v cells len:=by
 rcases h with h|⟨h1,h2,h3⟩
 ·exact .inl h
 ·exact .inr ⟨h1,h2,h3.mono hI⟩
theorem GrO.news {I:Imm}{T n len:Nat}{X F:LH}{v:Value}{cells:List Value}(h:GrO I T n X v cells len)(hF:∀x∈X,x∈F):News n v I F len cells:=by
 rcases h with h|⟨h1,h2,h3⟩
 ·exact h.news hF
 ·exact SlI.news h3
theorem GrO.form {I:Imm}{T n len:Nat}{X:LH}{v:Value}{cells:List Value}(h:GrO I T n X v cells len):∃a cap,v= .slice a len cap∧len≤cap:=by
 rcases h with h|⟨h1,⟨a,h2⟩,h3⟩
 ·obtain ⟨_,h⟩:=h;rcases h with ⟨_,rfl,a,rfl⟩|⟨b,cap,cs,_,rfl,_,hle,_⟩
  ·exact ⟨a,0,rfl,Nat.le_refl _⟩
  ·exact ⟨_,cap,rfl,hle⟩
 ·exact ⟨a,len,h2,Nat.le_refl _⟩
theorem ALA {I:Imm}{L F:LH}(hp:L.Perm F){T n bytes len m:Nat}{z:Array Value}{s x:Value}{a:Option Addr}{olds news:List Value}{K:Value→M}(hz:z.size=n)(hs:s= .slice a len len)(ho:News n s I L len olds)(hn:News n x I L m news)
  (h1:∀u∈news,u.oneCell'=true) (hm:0 < m) (hb:(len+m) * bytes≤150000000000000) (hm':len+m≤150000000000000) (hk:∀X' v',SlO T n X' v' (olds++news) (len+m)→K v' I (X'++F)):App T n bytes z s x (gh K) I L:=by
 have hol:=ho.length;have hnl:=hn.length;have hlen:(olds++news).length=(len+m) * n:=by rw [List.length_append,hol,hnl,Nat.add_mul]
 refine ⟨a,len,len,m,news,hs,hn,h1,.inr (.inr ⟨by omega,hb,hm',olds,L,ho,List.Sublist.refl _,λb c hc=>?_⟩)⟩;refine Gh.perm (List.Perm.cons _ hp) (zAA (hk [(b,_)] _ ⟨hlen,.inr ⟨b,c,_,rfl,rfl,?_,hc,?_⟩⟩))
 ·simp only [Array.size_append,List.size_toArray,GX,hz,hlen];rw [←Nat.add_mul];congr 1;omega
 ·intro j u hu;have hlt:j < (olds++news).length:=(List.getElem?_eq_some_iff.1 hu).1;rw [Array.getElem?_append_left (by simpa using hlt)];simpa using hu
theorem ATM {I:Imm}{X L F:LH}[hsp:SplitL X L F]{T n bytes len m:Nat}{z:Array Value}{s x:Value}{cells news:List Value}{K:Value→M}(hz:z.size=n)(ho:GrO I T n X s cells len)(hn:News n x I L m news)
  (h1:∀u∈news,u.oneCell'=true) (hb:(len+m) * bytes≤150000000000000) (hm:len+m≤150000000000000)
  (hk:∀X' v',GrO I T n X' v' (cells++news) (len+m)→K v' I (X'++F)):App T n bytes z s x (gh K) I L:=by
 rcases ho with ho|⟨rfl,⟨a,ha⟩,h3⟩
 ·exact Ee hz ho hn h1 hb hm (λX' v' h=>hk X' v' (.inl h))
 ·have hp:=hsp.perm;by_cases h0:m=0
  ·subst h0;have hnil:news=[]:=List.eq_nil_of_length_eq_zero (by simpa using hn.length);subst hnil;refine ⟨a,len,len,0,[],ha,hn,h1,.inl ⟨Nat.le_refl _,rfl,Gh.perm hp (zAA ?_)⟩⟩;have:=hk [] s (.inr ⟨rfl,⟨a,ha⟩,by simpa using h3⟩);rw [ha] at this;exact this
  ·exact ALA hp hz ha (SlI.news h3 (L:=L)) hn h1 (by omega) hb hm (λX' v' h=>hk X' v' (.inl h))
theorem ADB {I:Imm}{X L F:LH}[hsp:SplitL X L F]{T len:Nat}{v u:Value}{cells:List Value}{K:Value→M}{i:Int}(ho:SlO T 1 X v cells len)(h0:0≤i)(h1:i < len)(hu:u.oneCell'=true)
  (hk:∀X',SlO T 1 X' v (cells.set i.toNat u) len→K undef I (X'++F)):
  ∃b,ixV 1 v (.int .i64 i)=some (.pointer (some ⟨b,i.toNat,none⟩))∧Sto 1 (.pointer (some ⟨b,i.toNat,none⟩)) u (gh K) I L:=by
 have hp:=hsp.perm;obtain ⟨hl,ho'⟩:=ho;rcases ho' with ⟨rfl,rfl,a,rfl⟩|⟨b,cap,cs,rfl,rfl,hcs,hle,hc⟩
 ·omega
 ·refine ⟨b,by rw [ADl b 0 1 .i64 len cap i h0 h1,Nat.zero_add,Nat.mul_one],?_⟩;have hmem:(b,Obj.cells cs T (0,0))∈L:=hp.mem_iff.2 (List.mem_append_left _ (List.mem_singleton.2 rfl));obtain ⟨L1,L2,rfl⟩:=List.append_of_mem hmem;have hF:(L1++L2).Perm F:=by
   have h2:(L1++(b,Obj.cells cs T (0,0))::L2).Perm ((b,Obj.cells cs T (0,0))::(L1++L2)):=List.perm_middle;exact (List.perm_cons _).1 (h2.symm.trans hp)
  have huc:u.cells=#[u]:=by cases u <;> first|rfl|simp [Value.oneCell'] at hu
  refine ⟨b,i.toNat,cs,T,L1,L2,rfl,by simp [huc],by simp [huc];exact hu,by omega,rfl,?_⟩;refine Gh.perm (List.perm_middle.trans (List.Perm.cons _ hF)) (zAA (hk [(b,_)] ⟨by simp [hl],.inr ⟨b,cap,_,rfl,rfl,by rw [QG];exact hcs,hle,?_⟩⟩));intro j w hw;simp only [huc,wr];rw [List.getElem?_set] at hw;split at hw
  ·rename_i e
   subst e;split at hw
   ·cases hw
    rw [Array.getElem?_setIfInBounds_self_of_lt (by omega)]
   ·cases hw
  ·rename_i e
   rw [Array.getElem?_setIfInBounds_ne e];exact hc j w hw
def MM (w:World):Imm:=λb=>w.heap[b]?
def AUe (w:World):Om:=⟨w.tape,w.os,w.output,w.drawn⟩
theorem st_start (w:World):St (AUe w) w (MM w) []:=⟨λ_ _ h=>h,λ_ _ h=>(List.not_mem_nil h).elim,List.nodup_nil,λ_ _ h=>(List.not_mem_nil h).elim,rfl,rfl,rfl,Nat.le_refl _⟩
theorem law_below {P:Program}{f:FuncId}{args:Array Value}{w:World}(h:∀ω,Cal P ω f args (λv I' _=>v= .bool true∧Ext (MM w) I') (MM w) []):
  Calls P f args w λe w'=>e= .returned (.bool true)∧RowKit.Below w.heap.size w w':=by
 refine (h (AUe w) w (st_start w)).mono ?_;rintro e w' ⟨v,I',L',rfl,hs,rfl,hI⟩;have hblk:∀k,k < w.heap.size→w'.heap[k]? =w.heap[k]? :=by
  intro k hk;have h1:MM w k=some w.heap[k]:=Array.getElem?_eq_getElem hk;rw [hs.imm k _ (hI k _ h1)];exact h1.symm
 refine ⟨rfl,hs.os,hs.tape,hs.out,?_,hblk⟩;rcases Nat.eq_zero_or_pos w.heap.size with h0|h0
 ·omega
 ·have:=hblk (w.heap.size - 1) (by omega);rw [Array.getElem?_eq_getElem (by omega:w.heap.size - 1 < w.heap.size)] at this;have:=(Array.getElem?_eq_some_iff.1 this).1;omega
def TrR (rz:Nat)(P:Program)(w:World)(T:TypeId)(cs:List Value):Prop:=
 ∃(H:Type) (enc:TypeId×Value→H) (fuel:Nat) (d:DataW H) (ps:List MemPlace),DataW.trod enc P w 0 (λ_=>true) true fuel T cs=some (d,ps)∧(d.weights P T).all (·≤rz)=true
abbrev Tr:=TrR reachBytes
section
variable {rz:Nat}{P:Program}{w:World}{T:TypeId}{cs:List Value}
theorem AEV (hu:P.underlying T=some .string)(h:TrR rz P w T cs):∃s,cs=[.string s]∧s.size≤rz:=by
 obtain ⟨H,enc,fuel,d,ps,h,hw⟩:=h;cases fuel with
 |zero=>simp [DataW.trod] at h
 |succ fuel=>
  simp only [DataW.trod,hu] at h;split at h <;> simp_all
  obtain ⟨_,rfl,_⟩:=h;simpa [DataW.weights] using hw
variable {r:Reach}{base:Nat}{v:Value}
end
def str (l:List UInt8):Value:=.string ⟨l.toArray⟩
def StrV (_:Imm)(x:List UInt8)(c:List Value):Prop:=c=[.string ⟨x.toArray⟩]
def Hl {α:Type}(R:Imm→α→List Value→Prop)(n:Nat)(I:Imm)(xs:List α)(c:List Value):Prop:=∃v,c=[v]∧RL R n I [] v xs
theorem StrV.mono {I I':Imm}{x:List UInt8}{c:List Value}(h:StrV I x c)(hI:Ext I I'):StrV I' x c:=h
section
variable {rz:Nat}{P:Program}{W:World}{T:TypeId}
theorem APi {cs:List Value}(hu:P.underlying T=some .string)(h:TrR rz P W T cs):∃s:List UInt8,cs=[.string ⟨s.toArray⟩]∧s.length≤rz:=by
 obtain ⟨s,hs,hb⟩:=AEV hu h;refine ⟨s.data.toList,by rw [hs],?_⟩;rw [Array.length_toList];exact hb
end
end Go.SL
namespace Go.Proofs.YtkifgfanjcfedaaGreatDoor
open Go.SL
abbrev Bs:=List UInt8
structure Tok where
 kind:Int
 at':Nat
 text:Bs
 num:Int
deriving DecidableEq
instance:Inhabited Tok:=⟨⟨0,0,[],0⟩⟩
structure Flt where
 code:Int
 at':Int
deriving DecidableEq
def BN (c:UInt8):Bool:=(97≤c&&c≤122)||(65≤c&&c≤90)||c==95
def Az (c:UInt8):Bool:=48≤c&&c≤57
def Hu (c:UInt8):Bool:=c==9||c==10||c==12||c==13||c==32
def Ef (c:UInt8):UInt8:=if 65≤c&&c≤90 then c+32 else c
def wordsL:List Bs:=[[97,110,100],[97,115],[97,115,99],[98,101,103,105,110],[98,101,116,119,101,101,110],[98,121],[99,97,115,101],[99,111,109,109,105,116],[99,114,101,97,116,101],[99,114,111,115,115],[100,101,102,97,117,108,116],[100,101,108,101,116,101],[100,101,115,99],[100,105,115,116,105,110,99,116],[100,114,111,112],[101,108,115,101],[101,110,100],[102,97,108,115,101],[102,114,111,109],[103,114,111,117,112],[104,97,118,105,110,103],[105,110],[105,110,100,101,120],[105,110,110,101,114],[105,110,115,101,114,116],[105,110,116,111],[105,115],[106,111,105,110],[107,101,121],[108,101,102,116],[108,105,107,101],[108,105,109,105,116],[110,111,116],[110,117,108,108],[111,102,102,115,101,116],[111,110],[111,114],[111,114,100,101,114],[112,114,105,109,97,114,121],[114,111,108,108,98,97,99,107],[115,101,108,101,99,116],[115,101,116],[116,97,98,108,101],[116,104,101,110],[116,114,117,101],[117,110,105,113,117,101],[117,112,100,97,116,101],[118,97,108,117,101,115],[119,104,101,110],[119,104,101,114,101]]
def signsL:List Bs:=[[60,61],[62,61],[60,62],[33,61],[124,124],[40],[41],[44],[46],[59],[42],[43],[45],[47],[37],[61],[60],[62]]
def BL:Bool→Bs→Bs
 |_,[]=>[]
 |true,c::r=>if c==10 then BL false r else BL true r
 |false,c::r=>if Hu c then BL false r else if c==45&&r.head? ==some 45 then BL true r else c::r
def CG (q:UInt8):Bs→Option (Bs×Bs)
 |[]=>none
 |c::r=>if c==0 then none else if c != q then (CG q r).map λx=>(c::x.1,x.2) else match r with
  |[]=>some ([],[])
  |d::r'=>if d==q then (CG q r').map λx=>(q::x.1,x.2) else some ([],d::r')
def Ij:Bs→Int→Option Int
 |[],n=>some n
 |d::r,n=>if n > (9223372036854775807 - ((d.toNat:Int) - 48)) / 10 then none else Ij r (10 * n+((d.toNat:Int) - 48))
def Il (s:Bs):Option Bs:=signsL.find? λx=>x.isPrefixOf s
inductive LexR where
 |tok (t:Tok) (r:Bs)
 |bad (e:Int)
def Hr (w:Bs)(at':Nat)(r:Bs):LexR:=if 63 < w.length then .bad 173 else .tok ⟨if wordsL.contains w then 2 else 1,at',w,0⟩ r
def Dj (at':Nat):Bs→LexR
 |[]=>.bad 171
 |c::r=>
  if BN c then Hr (((c::r).takeWhile λc=>BN c||Az c).map Ef) at' ((c::r).dropWhile λc=>BN c||Az c) else
  if Az c then (match Ij ((c::r).takeWhile Az) 0 with
   |none=>.bad 172
   |some k=>if ((c::r).dropWhile Az).head?.any BN then .bad 172 else .tok ⟨3,at',[],k⟩ ((c::r).dropWhile Az)) else
  if c==34||c==39 then (match CG c r with
   |none=>.bad 173
   |some (s,r')=>if c==34 then (if s.isEmpty||decide (63 < s.length) then .bad 173 else .tok ⟨1,at',s,0⟩ r') else .tok ⟨4,at',s,0⟩ r') else
  match Il (c::r) with
  |none=>.bad 171
  |some s=>.tok ⟨5,at',if s=[33,61] then [60,62] else s,0⟩ ((c::r).drop s.length)
inductive LexA where
 |toks (l:List Tok)
 |bad (f:Flt)
def DU (n:Nat):Nat→List Tok→Bs→LexA
 |0,acc,_=>.toks acc
 |m+1,acc,s=>match BL false s with
  |[]=>.toks (acc++[⟨6,n,[],0⟩])
  |c::r=>match Dj (n - (r.length+1)) (c::r) with
   | .bad e=>.bad ⟨e,(n - (r.length+1):Nat)⟩
   | .tok t r'=>DU n m (acc++[t]) r'
def Wh (s:Bs):LexA:=DU s.length (s.length+1) [] s
structure TValue where
 fType:Int
 fNull:Bool
 fInt:Int
 fText:Bs
deriving DecidableEq
inductive Ex where
 |mk (kind:Int) (value:TValue) (table name:Bs) (slot type:Int) (distinct:Bool) (args:List Ex)
def Ex.kind:Ex→Int| .mk k _ _ _ _ _ _ _=>k
def Ex.value:Ex→TValue| .mk _ v _ _ _ _ _ _=>v
def Ex.table:Ex→Bs| .mk _ _ t _ _ _ _ _=>t
def Ex.name:Ex→Bs| .mk _ _ _ n _ _ _ _=>n
def Ex.slot:Ex→Int| .mk _ _ _ _ s _ _ _=>s
def Ex.type:Ex→Int| .mk _ _ _ _ _ t _ _=>t
def Ex.distinct:Ex→Bool| .mk _ _ _ _ _ _ d _=>d
def Ex.args:Ex→List Ex| .mk _ _ _ _ _ _ _ l=>l
def v0:TValue:=⟨0,false,0,[]⟩
def ex0:Ex:=.mk 0 v0 [] [] 0 0 false []
instance:Inhabited Ex:=⟨ex0⟩
instance:Inhabited TValue:=⟨v0⟩
def exK (k:Int)(l:List Ex):Ex:=.mk k v0 [] [] 0 0 false l
def Et (v:TValue):Ex:=.mk 1 v [] [] 0 0 false []
def Ec (t n:Bs):Ex:=.mk 2 v0 t n 0 0 false []
def Dw (n:Bs)(d:Bool)(l:List Ex):Ex:=.mk 28 v0 [] n 0 0 d l
structure TItem where
 fStar:Bool
 fTable:Bs
 fExpr:Ex
 fAs:Bs
instance:Inhabited TItem:=⟨⟨false,[],ex0,[]⟩⟩
structure TSource where
 fTable:Bs
 fAs:Bs
 fLeft:Bool
 fOn:Ex
instance:Inhabited TSource:=⟨⟨[],[],false,ex0⟩⟩
structure TOrder where
 fExpr:Ex
 fDesc:Bool
instance:Inhabited TOrder:=⟨⟨ex0,false⟩⟩
structure TSelect where
 fDistinct:Bool
 fItems:List TItem
 fFrom:List TSource
 fWhere:Ex
 fGroup:List Ex
 fHaving:Ex
 fOrder:List TOrder
 fLimit:Int
 fOffset:Int
instance:Inhabited TSelect:=⟨⟨false,[],[],ex0,[],ex0,[],0,0⟩⟩
structure TSet where
 fColumn:Bs
 fExpr:Ex
instance:Inhabited TSet:=⟨⟨[],ex0⟩⟩
structure TCol where
 fName:Bs
 fType:Int
 fNotNull:Bool
 fKey:Bool
 fUnique:Bool
 fDefault:Ex
instance:Inhabited TCol:=⟨⟨[],0,false,false,false,ex0⟩⟩
structure TIdx where
 fName:Bs
 fTable:Bs
 fColumns:List Bs
 fUnique:Bool
instance:Inhabited TIdx:=⟨⟨[],[],[],false⟩⟩
structure TStmt where
 fKind:Int
 fSelect:TSelect
 fTable:Bs
 fColumns:List Bs
 fRows:List (List Ex)
 fSets:List TSet
 fWhere:Ex
 fCols:List TCol
 fKey:List Bs
 fIndex:TIdx
instance:Inhabited TStmt:=⟨⟨0,default,[],[],[],[],ex0,[],[],default⟩⟩
inductive Res (α:Type) where
 |ok (x:α) (r:List Tok)
 |err (at':Nat)
abbrev Pr (α:Type):=List Tok→Res α
def Res.bind {α β:Type}(x:Res α)(f:α→Pr β):Res β:=match x with
 | .ok a r=>f a r
 | .err e=>.err e
def hd (l:List Tok):Tok:=l.headD default
def bad {α:Type}(l:List Tok):Res α:=.err (hd l).at'
def isT (l:List Tok)(s:Bs):Bool:=((hd l).kind==2||(hd l).kind==5)&&(hd l).text==s
def isK (l:List Tok)(k:Int):Bool:=(hd l).kind==k
def AL (s:Bs):Pr Unit:=λl=>if isT l s then .ok () l.tail else bad l
def Ae:Pr Bs:=λl=>if isK l 1 then .ok (hd l).text l.tail else bad l
def Bq {α:Type}(one:Pr α):Nat→List α→Pr (List α)
 |0,acc,l=>.ok acc l
 |n+1,acc,l=>if isT l [44] then (one l.tail).bind λx r=>Bq one n (acc++[x]) r else .ok acc l
def BG {α:Type}(n:Nat)(one:Pr α):Pr (List α):=λl=>(one l).bind λx r=>Bq one n [x] r
def BC {α:Type}(n:Nat)(one:Pr α):Pr (List α):=λl=>(AL [40] l).bind λ_ r=>(BG n one r).bind λx r=>(AL [41] r).bind λ_ r=>.ok x r
def Dv (one:Pr Ex)(op:List Tok→Int):Nat→Ex→Pr Ex
 |0,x,l=>.ok x l
 |n+1,x,l=>if op l=0 then .ok x l else (one l.tail).bind λy r=>Dv one op n (exK (op l) [x,y]) r
def CB (n:Nat)(one:Pr Ex)(op:List Tok→Int):Pr Ex:=λl=>(one l).bind λx r=>Dv one op n x r
def Ii (l:List Tok):Int:=if isT l [111,114] then 22 else 0
def Ez (l:List Tok):Int:=if isT l [97,110,100] then 21 else 0
def Hm (f:Bs→Option Int)(l:List Tok):Int:=if isK l 5 then (f (hd l).text).getD 0 else 0
def Pz (s:Bs):Option Int:=if s=[43] then some 9 else if s=[45] then some 10 else if s=[124,124] then some 14 else none
def KD (s:Bs):Option Int:=if s=[42] then some 11 else if s=[47] then some 12 else if s=[37] then some 13 else none
def VC:List Tok→Int:=Hm Pz
def Oo:List Tok→Int:=Hm KD
def Dk (l:List Tok):Int:=if isT l [61] then 15 else if isT l [60,62] then 16 else if isT l [60] then 17 else if isT l [60,61] then 18 else if isT l [62] then 19 else if isT l [62,61] then 20 else 0
def Ha (l:List Tok):Option TValue:=
 if isK l 4 then some ⟨3,false,0,(hd l).text⟩ else if isT l [116,114,117,101] then some ⟨2,false,1,[]⟩ else if isT l [102,97,108,115,101] then some ⟨2,false,0,[]⟩ else if isT l [110,117,108,108] then some ⟨4,true,0,[]⟩ else none
def JQ:Pr Ex:=λl=>if isK l 3 then .ok (Et ⟨1,false,(hd l).num,[]⟩) l.tail else bad l
def EK:Pr Ex:=λl=>match Ha l with
 |some v=>.ok (Et v) l.tail
 |none=>if isT l [45] then (JQ l.tail).bind λx r=>.ok (exK 4 [x]) r else JQ l
def EZ (n:Nat)(E:Pr Ex)(acc:List Ex):Pr (List Ex):=λl=>(AL [119,104,101,110] l).bind λ_ r=>(E r).bind λa r=>(AL [116,104,101,110] r).bind λ_ r=>(E r).bind λb r=>.ok (acc++[a,b]) r
def DJ (n:Nat)(E:Pr Ex):Nat→List Ex→Pr (List Ex)
 |0,acc,l=>.ok acc l
 |m+1,acc,l=>if isT l [119,104,101,110] then (EZ n E acc l).bind λa r=>DJ n E m a r else .ok acc l
def Hg (n:Nat)(E:Pr Ex):Pr Ex:=λl=>(EZ n E [] l).bind λa r=>(DJ n E n a r).bind λa r=>
 (if isT r [101,108,115,101] then (E r.tail).bind λx r=>.ok (a++[x]) r else Res.ok a r).bind λa r=>(AL [101,110,100] r).bind λ_ r=>.ok (exK 26 a) r
def isAgg (s:Bs):Bool:=s==[99,111,117,110,116]||s==[115,117,109]||s==[109,105,110]||s==[109,97,120]||s==[97,118,103]
def DZ (s:Bs):Bool:=s==[99,111,97,108,101,115,99,101]||s==[108,101,110,103,116,104]||isAgg s
def Cf (n:Nat)(E:Pr Ex)(s:Bs):Pr Ex:=λl=>
 if s=[99,111,97,108,101,115,99,101] then (BC n E l).bind λa r=>.ok (exK 27 a) r else
 (AL [40] l).bind λ_ r=>
 if s=[108,101,110,103,116,104] then (E r).bind λx r=>(AL [41] r).bind λ_ r=>.ok (exK 8 [x]) r else
 if (s==[99,111,117,110,116]&&isT r [42])=true then (AL [41] r.tail).bind λ_ r=>.ok (Dw s false [exK 3 []]) r else
 (E (if isT r [100,105,115,116,105,110,99,116] then r.tail else r)).bind λx r'=>(AL [41] r').bind λ_ r'=>.ok (Dw s (isT r [100,105,115,116,105,110,99,116]) [x]) r'
def DK (n:Nat)(E U:Pr Ex):Pr Ex:=λl=>
 if isT l [45] then (U l.tail).bind λx r=>.ok (exK 4 [x]) r else
 if isT l [40] then (E l.tail).bind λx r=>(AL [41] r).bind λ_ r=>.ok x r else
 if isT l [99,97,115,101] then Hg n E l.tail else
 if isK l 3 then JQ l else
 match Ha l with
 |some v=>.ok (Et v) l.tail
 |none=>(Ae l).bind λs r=>
  if isT r [40]&&DZ s then Cf n E s r else
  if isT r [46] then (Ae r.tail).bind λc r=>.ok (Ec s c) r else .ok (Ec [] s) r
def JR (b:Bool)(x:Ex):Ex:=if b then exK 5 [x] else x
def EG (n:Nat)(E S:Pr Ex):Pr Ex:=λl=>(S l).bind λx r=>
 if Dk r≠0 then (S r.tail).bind λy r'=>.ok (exK (Dk r) [x,y]) r' else
 if isT r [105,115] then (if isT r.tail [110,111,116] then (AL [110,117,108,108] r.tail.tail).bind λ_ r=>.ok (exK 7 [x]) r else (AL [110,117,108,108] r.tail).bind λ_ r=>.ok (exK 6 [x]) r) else
 let b:=isT r [110,111,116]
 let q:=if b then r.tail else r
 if isT q [105,110] then (BC n E q.tail).bind λa r=>.ok (JR b (exK 24 (x::a))) r else
 if isT q [98,101,116,119,101,101,110] then (S q.tail).bind λy r=>(AL [97,110,100] r).bind λ_ r=>(S r).bind λz r=>.ok (JR b (exK 25 [x,y,z])) r else
 if isT q [108,105,107,101] then (S q.tail).bind λy r=>.ok (JR b (exK 23 [x,y])) r else
 if b then bad q else .ok x q
def KI (N Q:Pr Ex):Pr Ex:=λl=>if isT l [110,111,116] then (N l.tail).bind λx r=>.ok (exK 5 [x]) r else Q l
def DI:Nat→Pr Ex×Pr Ex×Pr Ex
 |0=>(λ_=>.err 0,λ_=>.err 0,λ_=>.err 0)
 |n+1=>
  let U:=DK n (DI n).1 (DI n).2.2
  let S:=CB n (CB n U Oo) VC
  let N:=KI (DI n).2.1 (EG n (DI n).1 S)
  (CB n (CB n N Ez) Ii,N,U)
def eP (n:Nat):Pr Ex:=(DI n).1
def nP (n:Nat):Pr Ex:=(DI n).2.1
def uP (n:Nat):Pr Ex:=(DI n).2.2
def Dq (n:Nat)(s:Bs):Pr Ex:=λl=>if isT l s then eP n l.tail else .ok ex0 l
def Eb (n:Nat):Pr TItem:=λl=>
 if isT l [42] then .ok ⟨true,[],ex0,[]⟩ l.tail else
 if isK l 1&&isK l.tail 5&&(hd l.tail).text==[46]&&isK l.tail.tail 5&&(hd l.tail.tail).text==[42] then .ok ⟨true,(hd l).text,ex0,[]⟩ l.tail.tail.tail else
 (eP n l).bind λx r=>if isT r [97,115] then (Ae r.tail).bind λa r=>.ok ⟨false,[],x,a⟩ r else .ok ⟨false,[],x,[]⟩ r
def Ej (n:Nat):Pr TOrder:=λl=>(eP n l).bind λx r=>if isT r [100,101,115,99] then .ok ⟨x,true⟩ r.tail else if isT r [97,115,99] then .ok ⟨x,false⟩ r.tail else .ok ⟨x,false⟩ r
def Bh:Pr TSource:=λl=>(Ae l).bind λs r=>if isT r [97,115] then (Ae r.tail).bind λa r=>.ok ⟨s,a,false,ex0⟩ r else if isK r 1 then (Ae r).bind λa r=>.ok ⟨s,a,false,ex0⟩ r else .ok ⟨s,[],false,ex0⟩ r
def FM (n:Nat)(b:Bool):Pr TSource:=λl=>(AL [106,111,105,110] l).bind λ_ r=>(Bh r).bind λs r=>(AL [111,110] r).bind λ_ r=>(eP n r).bind λx r=>.ok ⟨s.fTable,s.fAs,b,x⟩ r
def Ba (n:Nat):Nat→List TSource→Pr (List TSource)
 |0,acc,l=>.ok acc l
 |m+1,acc,l=>
  if isT l [44] then (Bh l.tail).bind λs r=>Ba n m (acc++[s]) r else
  if isT l [99,114,111,115,115] then (AL [106,111,105,110] l.tail).bind λ_ r=>(Bh r).bind λs r=>Ba n m (acc++[s]) r else
  if isT l [108,101,102,116] then (FM n true l.tail).bind λs r=>Ba n m (acc++[s]) r else
  if isT l [105,110,110,101,114] then (FM n false l.tail).bind λs r=>Ba n m (acc++[s]) r else
  if isT l [106,111,105,110] then (FM n false l).bind λs r=>Ba n m (acc++[s]) r else .ok acc l
def Iw (n:Nat):Pr (List TSource):=λl=>(Bh l).bind λs r=>Ba n n [s] r
def Dc:Pr Int:=λl=>if isK l 3&&decide ((hd l).num≤2147483647) then .ok (hd l).num l.tail else bad l
def JO {α:Type}(s:Bs)(d:α)(p:Pr α):Pr α:=λl=>if isT l s then p l.tail else .ok d l
def byP {α:Type}(p:Pr α):Pr α:=λl=>(AL [98,121] l).bind λ_ r=>p r
def EY (n:Nat):Pr TSelect:=λl=>
 let d:=isT l [100,105,115,116,105,110,99,116]
 (BG n (Eb n) (if d then l.tail else l)).bind λitems r=>
 (JO [102,114,111,109] [] (Iw n) r).bind λfroms r=>
 (Dq n [119,104,101,114,101] r).bind λwh r=>
 (JO [103,114,111,117,112] [] (byP (BG n (eP n))) r).bind λgr r=>
 (Dq n [104,97,118,105,110,103] r).bind λha r=>
 (JO [111,114,100,101,114] [] (byP (BG n (Ej n))) r).bind λod r=>
 (JO [108,105,109,105,116] (-1) Dc r).bind λli r=>
 (JO [111,102,102,115,101,116] 0 Dc r).bind λoff r=>.ok ⟨d,items,froms,wh,gr,ha,od,li,off⟩ r
def Nj (n:Nat):Pr TSet:=λl=>(Ae l).bind λs r=>(AL [61] r).bind λ_ r=>(eP n r).bind λx r=>.ok ⟨s,x⟩ r
def typeOf (s:Bs):Int:=if s=[105,110,116]∨s=[105,110,116,101,103,101,114]∨s=[98,105,103,105,110,116] then 1 else if s=[98,111,111,108]∨s=[98,111,111,108,101,97,110] then 2 else if s=[116,101,120,116] then 3 else 0
def Cj:Nat→TCol→Pr TCol
 |0,c,l=>.ok c l
 |n+1,c,l=>
  if !c.fNotNull&&isT l [110,111,116] then (AL [110,117,108,108] l.tail).bind λ_ r=>Cj n {c with fNotNull:=true} r else
  if !c.fKey&&isT l [112,114,105,109,97,114,121] then (AL [107,101,121] l.tail).bind λ_ r=>Cj n {c with fKey:=true} r else
  if !c.fUnique&&isT l [117,110,105,113,117,101] then Cj n {c with fUnique:=true} l.tail else
  if c.fDefault.kind==0&&isT l [100,101,102,97,117,108,116] then (EK l.tail).bind λx r=>Cj n {c with fDefault:=x} r else .ok c l
def Dx (n:Nat):Pr TCol:=λl=>(Ae l).bind λs r=>
 let t:=if isK r 1 then typeOf (hd r).text else 0
 if t=0 then bad r else Cj n ⟨s,t,false,false,false,ex0⟩ r.tail
def DD (n:Nat):Nat→List TCol→List Bs→Pr (List TCol×List Bs)
 |0,cs,ks,l=>.ok (cs,ks) l
 |m+1,cs,ks,l=>
  (if ks.isEmpty&&isT l [112,114,105,109,97,114,121] then (AL [107,101,121] l.tail).bind λ_ r=>(BC n Ae r).bind λk r=>.ok (cs,k) r else (Dx n l).bind λc r=>Res.ok (cs++[c],ks) r).bind λx r=>
  if isT r [44] then DD n m x.1 x.2 r.tail else .ok x r
def Ob (n:Nat):Pr TStmt:=λl=>(Ae l).bind λs r=>(AL [40] r).bind λ_ r=>(DD n (n+1) [] [] r).bind λx r=>
 if x.1.isEmpty then bad r else (AL [41] r).bind λ_ r=>.ok {(default:TStmt) with fKind:=5,fTable:=s,fCols:=x.1,fKey:=x.2} r
def Ed (n:Nat):Pr TStmt:=λl=>if isT l [116,97,98,108,101] then Ob n l.tail else
 let u:=isT l [117,110,105,113,117,101]
 (AL [105,110,100,101,120] (if u then l.tail else l)).bind λ_ r=>(Ae r).bind λa r=>(AL [111,110] r).bind λ_ r=>(Ae r).bind λt r=>(BC n Ae r).bind λc r=>
 .ok {(default:TStmt) with fKind:=6,fIndex:=⟨a,t,c,u⟩} r
def Fg:Pr TStmt:=λl=>if isT l [116,97,98,108,101] then (Ae l.tail).bind λs r=>.ok {(default:TStmt) with fKind:=7,fTable:=s} r else
 (AL [105,110,100,101,120] l).bind λ_ r=>(Ae r).bind λs r=>.ok {(default:TStmt) with fKind:=8,fIndex:=⟨s,[],[],false⟩} r
def EP (n:Nat):Pr TStmt:=λl=>(AL [105,110,116,111] l).bind λ_ r=>(Ae r).bind λs r=>
 (if isT r [40] then BC n Ae r else Res.ok [] r).bind λc r=>(AL [118,97,108,117,101,115] r).bind λ_ r=>(BG n (BC n (eP n)) r).bind λx r=>.ok {(default:TStmt) with fKind:=2,fTable:=s,fColumns:=c,fRows:=x} r
def EN (n:Nat):Pr TStmt:=λl=>(Ae l).bind λs r=>(AL [115,101,116] r).bind λ_ r=>(BG n (Nj n) r).bind λx r=>(Dq n [119,104,101,114,101] r).bind λw r=>.ok {(default:TStmt) with fKind:=3,fTable:=s,fSets:=x,fWhere:=w} r
def EQ (n:Nat):Pr TStmt:=λl=>(AL [102,114,111,109] l).bind λ_ r=>(Ae r).bind λs r=>(Dq n [119,104,101,114,101] r).bind λw r=>.ok {(default:TStmt) with fKind:=4,fTable:=s,fWhere:=w} r
def DV (n:Nat):Pr TStmt:=λl=>
 if isT l [115,101,108,101,99,116] then (EY n l.tail).bind λq r=>.ok {(default:TStmt) with fKind:=1,fSelect:=q} r else
 if isT l [105,110,115,101,114,116] then EP n l.tail else
 if isT l [117,112,100,97,116,101] then EN n l.tail else
 if isT l [100,101,108,101,116,101] then EQ n l.tail else
 if isT l [99,114,101,97,116,101] then Ed n l.tail else
 if isT l [100,114,111,112] then Fg l.tail else
 if isT l [98,101,103,105,110] then .ok {(default:TStmt) with fKind:=9} l.tail else
 if isT l [99,111,109,109,105,116] then .ok {(default:TStmt) with fKind:=10} l.tail else
 (AL [114,111,108,108,98,97,99,107] l).bind λ_ r=>.ok {(default:TStmt) with fKind:=11} r
def Bd (n:Nat):Nat→List TStmt→Pr (List TStmt)
 |0,acc,l=>.ok acc l
 |m+1,acc,l=>if isK l 6 then .ok acc l else if isT l [59] then Bd n m acc l.tail else
  (DV n l).bind λs r=>if isK r 6||isT r [59] then Bd n m (acc++[s]) r else bad r
mutual
def Aa:Ex→Nat
 | .mk _ _ _ _ _ _ _ l=>AZ l+1
def AZ:List Ex→Nat
 |[]=>0
 |x::l=>Aa x+AZ l
end
mutual
def Dl:Ex→Nat
 | .mk _ _ _ _ _ _ _ l=>Bc l+1
def Bc:List Ex→Nat
 |[]=>0
 |x::l=>max (Dl x) (Bc l)
end
def Ho (s:TStmt):List Ex:=
 (s.fSelect.fItems.map (·.fExpr)++s.fSelect.fFrom.map (·.fOn)++[s.fSelect.fWhere,s.fSelect.fHaving,s.fWhere]++s.fSelect.fGroup++s.fSelect.fOrder.map (·.fExpr)++s.fRows.flatten++s.fSets.map (·.fExpr)++s.fCols.map (·.fDefault)).filter λx=>x.kind != 0
def FW (s:TStmt):Nat:=AZ (Ho s)+1
def Pi (s:TStmt):Nat:=Bc (Ho s)
def BD (l:List TStmt):Nat:=(l.map FW).sum
def EF:List TStmt→Nat
 |[]=>0
 |s::l=>max (Pi s) (EF l)
def ok0:Flt:=⟨0,0⟩
def readA (s:Bs):List TStmt×Flt:=match Wh s with
 | .bad f=>([],f)
 | .toks l=>match Bd l.length (l.length+1) [] l with
  | .ok x _=>(x,ok0)
  | .err a=>([],⟨174,a⟩)
def Kv (parts deep:Nat):Int:=if 64 < deep then 175 else if 2000 < parts then 176 else 0
def Bi (s:Bs):List TStmt×Flt:=
 if 65536 < s.length then ([],⟨170,65536⟩) else
 if (readA s).2≠ok0 then ([],(readA s).2) else
 if Kv (BD (readA s).1) (EF (readA s).1)≠0 then ([],⟨Kv (BD (readA s).1) (EF (readA s).1),0⟩) else ((readA s).1,ok0)
def Be {α:Type}(w:α→Nat)(g:Pr α):Prop:=∀l x r,g l= .ok x r→r.length+w x≤l.length
theorem Ai {l:List Tok}{s:Bs}(h:isT l s=true):l.tail.length+1=l.length:=by
 cases l with
 |nil=>simp [isT,hd,default,instInhabitedTok] at h
 |cons t r=>rfl
theorem IX {l:List Tok}{k:Int}(h:isK l k=true)(hk:k≠0):l.tail.length+1=l.length:=by
 cases l with
 |nil=>simp [isK,hd,default,instInhabitedTok] at h;exact absurd h.symm hk
 |cons t r=>rfl
theorem bind_ok {α β:Type}{x:Res α}{f:α→Pr β}{y:β}{r:List Tok}(h:x.bind f= .ok y r):∃a q,x= .ok a q∧f a q= .ok y r:=by
 cases x with
 |ok a q=>exact ⟨a,q,rfl,h⟩
 |err e=>cases h
theorem Ag {s:Bs}{l r:List Tok}{u:Unit}(h:AL s l= .ok u r):r.length+1=l.length:=by
 unfold AL at h;split at h
 ·rename_i ht
  simp only [Res.ok.injEq,true_and] at h;subst h;exact Ai ht
 ·cases h
theorem BF:Be (λ_=>1) Ae:=by
 intro l x r h;unfold Ae at h;split at h
 ·rename_i ht
  simp only [Res.ok.injEq] at h;obtain ⟨_,rfl⟩:=h;have:=IX ht (by decide);show l.tail.length+1≤l.length;omega
 ·cases h
theorem EC:∀(a b:List Ex),AZ (a++b)=AZ a+AZ b
 |[],b=>by simp [AZ]
 |x::a,b=>by simp only [List.cons_append,AZ,EC a b];omega
theorem VW {g:Pr Ex}(hg:Be Aa g):∀(n:Nat) (acc:List Ex) (l:List Tok) (x:List Ex) (r:List Tok),Bq g n acc l= .ok x r→r.length+AZ x≤l.length+AZ acc
 |0,acc,l,x,r,h=>by simp only [Bq,Res.ok.injEq] at h;obtain ⟨rfl,rfl⟩:=h;omega
 |n+1,acc,l,x,r,h=>by
  simp only [Bq] at h;split at h
  ·rename_i ht
   obtain ⟨a,q,h1,h2⟩:=bind_ok h;have c1:=hg _ _ _ h1;have c2:=VW hg n _ _ _ _ h2;have c3:=Ai ht;rw [EC] at c2;simp only [AZ] at c2;omega
  ·simp only [Res.ok.injEq] at h;obtain ⟨rfl,rfl⟩:=h;omega
theorem AFj {g:Pr Ex}(hg:Be Aa g)(n:Nat):Be AZ (BG n g):=by
 intro l x r h;obtain ⟨a,q,h1,h2⟩:=bind_ok h;have c1:=hg _ _ _ h1;have c2:=VW hg n _ _ _ _ h2;simp only [AZ] at c2;omega
theorem VS {g:Pr Ex}(hg:Be Aa g)(n:Nat):Be (λx=>AZ x+2) (BC n g):=by
 intro l x r h;obtain ⟨_,q,h1,h2⟩:=bind_ok h;obtain ⟨a,q2,h3,h4⟩:=bind_ok h2;obtain ⟨_,q3,h5,h6⟩:=bind_ok h4;simp only [Res.ok.injEq] at h6;obtain ⟨rfl,rfl⟩:=h6;have c1:=Ag h1;have c2:=AFj hg n _ _ _ h3;have c3:=Ag h5;simp only;omega
theorem VX {g:Pr Ex}(hg:Be Aa g){op:List Tok→Int}(hop:∀l,op l≠0→l.tail.length+1=l.length):∀(n:Nat) (x:Ex) (l:List Tok) (y:Ex) (r:List Tok),Dv g op n x l= .ok y r→r.length+Aa y≤l.length+Aa x
 |0,x,l,y,r,h=>by simp only [Dv,Res.ok.injEq] at h;obtain ⟨rfl,rfl⟩:=h;omega
 |n+1,x,l,y,r,h=>by
  simp only [Dv] at h;split at h
  ·simp only [Res.ok.injEq] at h;obtain ⟨rfl,rfl⟩:=h;omega
  ·rename_i h0
   obtain ⟨a,q,h1,h2⟩:=bind_ok h;have c1:=hg _ _ _ h1;have c2:=VX hg hop n _ _ _ _ h2;have c3:=hop l h0;simp only [exK,Aa,AZ] at c2;omega
theorem Jy {g:Pr Ex}(hg:Be Aa g){op:List Tok→Int}(hop:∀l,op l≠0→l.tail.length+1=l.length)(n:Nat):Be Aa (CB n g op):=by
 intro l x r h;obtain ⟨a,q,h1,h2⟩:=bind_ok h;have c1:=hg _ _ _ h1;have c2:=VX hg hop n _ _ _ _ h2;omega
theorem AQo (l:List Tok)(h:Ii l≠0):l.tail.length+1=l.length:=by
 unfold Ii at h;split at h
 ·exact Ai ‹_›
 ·exact absurd rfl h
theorem AMe (l:List Tok)(h:Ez l≠0):l.tail.length+1=l.length:=by
 unfold Ez at h;split at h
 ·exact Ai ‹_›
 ·exact absurd rfl h
theorem AJZ (f:Bs→Option Int)(l:List Tok)(h:Hm f l≠0):l.tail.length+1=l.length:=by
 unfold Hm at h;split at h
 ·exact IX ‹_› (by decide)
 ·exact absurd rfl h
theorem AMd (l:List Tok)(h:Dk l≠0):l.tail.length+1=l.length:=by
 unfold Dk at h;repeat' split at h
 all_goals first
  |exact Ai ‹_›
  |exact absurd rfl h
theorem YV {l:List Tok}{v:TValue}(h:Ha l=some v):l.tail.length+1=l.length:=by
 unfold Ha at h;repeat' split at h
 all_goals first
  |exact IX ‹_› (by decide)
  |exact Ai ‹_›
  |cases h
theorem Tq:Be Aa JQ:=by
 intro l x r h;unfold JQ at h;split at h
 ·rename_i ht
  simp only [Res.ok.injEq] at h;obtain ⟨rfl,rfl⟩:=h;have:=IX ht (by decide);simp only [Et,Aa,AZ];omega
 ·cases h
theorem VT {E:Pr Ex}(hE:Be Aa E)(n:Nat){acc:List Ex}{l:List Tok}{a:List Ex}{r:List Tok}(h:EZ n E acc l= .ok a r):r.length+AZ a+2≤l.length+AZ acc:=by
 obtain ⟨_,q,h1,h2⟩:=bind_ok h;obtain ⟨x,q2,h3,h4⟩:=bind_ok h2;obtain ⟨_,q3,h5,h6⟩:=bind_ok h4;obtain ⟨y,q4,h7,h8⟩:=bind_ok h6;simp only [Res.ok.injEq] at h8;obtain ⟨rfl,rfl⟩:=h8;have c1:=Ag h1;have c2:=hE _ _ _ h3;have c3:=Ag h5;have c4:=hE _ _ _ h7;rw [EC];simp only [AZ];omega
theorem Tm {E:Pr Ex}(hE:Be Aa E)(n:Nat):∀(m:Nat) (acc:List Ex) (l:List Tok) (a:List Ex) (r:List Tok),DJ n E m acc l= .ok a r→r.length+AZ a≤l.length+AZ acc
 |0,acc,l,a,r,h=>by simp only [DJ,Res.ok.injEq] at h;obtain ⟨rfl,rfl⟩:=h;omega
 |m+1,acc,l,a,r,h=>by
  simp only [DJ] at h;split at h
  ·obtain ⟨x,q,h1,h2⟩:=bind_ok h;have c1:=VT hE n h1;have c2:=Tm hE n m _ _ _ _ h2;omega
  ·simp only [Res.ok.injEq] at h;obtain ⟨rfl,rfl⟩:=h;omega
theorem AFn {E:Pr Ex}(hE:Be Aa E)(n:Nat):Be Aa (Hg n E):=by
 intro l x r h;obtain ⟨a,q,h1,h2⟩:=bind_ok h;obtain ⟨a2,q2,h3,h4⟩:=bind_ok h2;obtain ⟨a3,q3,h5,h6⟩:=bind_ok h4;obtain ⟨_,q4,h7,h8⟩:=bind_ok h6;simp only [Res.ok.injEq] at h8;obtain ⟨rfl,rfl⟩:=h8;have c1:=VT hE n h1;have c2:=Tm hE n n _ _ _ _ h3;have c4:=Ag h7;have c3:q3.length+AZ a3≤q2.length+AZ a2:=by
  split at h5
  ·rename_i ht
   obtain ⟨y,q5,g1,g2⟩:=bind_ok h5;simp only [Res.ok.injEq] at g2;obtain ⟨rfl,rfl⟩:=g2;have d1:=hE _ _ _ g1;have d2:=Ai ht;rw [EC];simp only [AZ];omega
  ·simp only [Res.ok.injEq] at h5;obtain ⟨rfl,rfl⟩:=h5;omega
 simp only [AZ] at c1;simp only [exK,Aa];omega
theorem AFo {E:Pr Ex}(hE:Be Aa E)(n:Nat)(s:Bs):Be Aa (Cf n E s):=by
 intro l x r h;unfold Cf at h;split at h
 ·obtain ⟨a,q,h1,h2⟩:=bind_ok h;simp only [Res.ok.injEq] at h2;obtain ⟨rfl,rfl⟩:=h2;have c1:=VS hE n _ _ _ h1;simp only at c1
  simp only [exK,Aa];omega
 obtain ⟨_,q,h1,h2⟩:=bind_ok h;have c1:=Ag h1;split at h2
 ·obtain ⟨a,q2,h3,h4⟩:=bind_ok h2;obtain ⟨_,q3,h5,h6⟩:=bind_ok h4;simp only [Res.ok.injEq] at h6;obtain ⟨rfl,rfl⟩:=h6;have c2:=hE _ _ _ h3;have c3:=Ag h5;simp only [exK,Aa,AZ];omega
 split at h2
 ·rename_i ht
  simp only [Bool.and_eq_true] at ht;have c2:=Ai ht.2;obtain ⟨_,q3,h5,h6⟩:=bind_ok h2;simp only [Res.ok.injEq] at h6;obtain ⟨rfl,rfl⟩:=h6;have c3:=Ag h5;simp only [exK,Dw,Aa,AZ];omega
 ·obtain ⟨a,q2,h3,h4⟩:=bind_ok h2;obtain ⟨_,q3,h5,h6⟩:=bind_ok h4;simp only [Res.ok.injEq] at h6;obtain ⟨rfl,rfl⟩:=h6;have c2:=hE _ _ _ h3;have c3:=Ag h5;have c4:(if isT q [100,105,115,116,105,110,99,116] then q.tail else q).length≤q.length:=by split <;> simp
  simp only [Dw,Aa,AZ];omega
theorem ABL {E U:Pr Ex}(hE:Be Aa E)(hU:Be Aa U)(n:Nat):Be Aa (DK n E U):=by
 intro l x r h;unfold DK at h;split at h
 ·rename_i ht
  obtain ⟨a,q,h1,h2⟩:=bind_ok h;simp only [Res.ok.injEq] at h2;obtain ⟨rfl,rfl⟩:=h2;have c1:=hU _ _ _ h1;have c2:=Ai ht;simp only [exK,Aa,AZ];omega
 split at h
 ·rename_i ht
  obtain ⟨a,q,h1,h2⟩:=bind_ok h;obtain ⟨_,q2,h3,h4⟩:=bind_ok h2;simp only [Res.ok.injEq] at h4;obtain ⟨rfl,rfl⟩:=h4;have c1:=hE _ _ _ h1;have c2:=Ai ht;have c3:=Ag h3;omega
 split at h
 ·rename_i ht
  have c1:=AFn hE n _ _ _ h;have c2:=Ai ht;omega
 split at h
 ·exact Tq _ _ _ h
 split at h
 ·rename_i v hv
  simp only [Res.ok.injEq] at h;obtain ⟨rfl,rfl⟩:=h;have:=YV hv;simp only [Et,Aa,AZ];omega
 ·obtain ⟨s,q,h1,h2⟩:=bind_ok h;have c1:=BF _ _ _ h1;simp only at c1
  split at h2
  ·have:=AFo hE n _ _ _ _ h2;omega
  split at h2
  ·rename_i ht
   obtain ⟨c,q2,h3,h4⟩:=bind_ok h2;simp only [Res.ok.injEq] at h4;obtain ⟨rfl,rfl⟩:=h4;have c2:=BF _ _ _ h3;have c3:=Ai ht;simp only at c2
   simp only [Ec,Aa,AZ];omega
  ·simp only [Res.ok.injEq] at h2;obtain ⟨rfl,rfl⟩:=h2;simp only [Ec,Aa,AZ];omega
theorem Oj (b:Bool)(x:Ex):Aa (JR b x)=Aa x+if b then 1 else 0:=by
 cases b
 ·simp [JR]
 ·simp [JR,exK,Aa,AZ]
theorem AFk {E S:Pr Ex}(hE:Be Aa E)(hS:Be Aa S)(n:Nat):Be Aa (EG n E S):=by
 intro l x r h;obtain ⟨a,q,h1,h2⟩:=bind_ok h;have c1:=hS _ _ _ h1;simp only at h2
 split at h2
 ·rename_i h0
  obtain ⟨y,q2,h3,h4⟩:=bind_ok h2;simp only [Res.ok.injEq] at h4;obtain ⟨rfl,rfl⟩:=h4;have c2:=hS _ _ _ h3;have c3:=AMd _ h0;simp only [exK,Aa,AZ];omega
 split at h2
 ·rename_i ht
  have c2:=Ai ht;split at h2
  ·rename_i ht2
   have c3:=Ai ht2;obtain ⟨_,q2,h3,h4⟩:=bind_ok h2;simp only [Res.ok.injEq] at h4;obtain ⟨rfl,rfl⟩:=h4;have c4:=Ag h3;simp only [exK,Aa,AZ];omega
  ·obtain ⟨_,q2,h3,h4⟩:=bind_ok h2;simp only [Res.ok.injEq] at h4;obtain ⟨rfl,rfl⟩:=h4;have c4:=Ag h3;simp only [exK,Aa,AZ];omega
 have cb:(if isT q [110,111,116] then q.tail else q).length+(if isT q [110,111,116] then 1 else 0)=q.length:=by
  cases hn:isT q [110,111,116] with
  |true=>simpa using Ai hn
  |false=>simp
 generalize hq:(if isT q [110,111,116] then q.tail else q)=q1 at h2 cb;split at h2
 ·rename_i ht
  have c2:=Ai ht;obtain ⟨y,q2,h3,h4⟩:=bind_ok h2;simp only [Res.ok.injEq] at h4;obtain ⟨rfl,rfl⟩:=h4;have c3:=VS hE n _ _ _ h3;simp only at c3
  rw [Oj];simp only [exK,Aa,AZ];omega
 split at h2
 ·rename_i ht
  have c2:=Ai ht;obtain ⟨y,q2,h3,h4⟩:=bind_ok h2;obtain ⟨_,q3,h5,h6⟩:=bind_ok h4;obtain ⟨z,q4,h7,h8⟩:=bind_ok h6;simp only [Res.ok.injEq] at h8;obtain ⟨rfl,rfl⟩:=h8;have c3:=hS _ _ _ h3;have c4:=Ag h5;have c5:=hS _ _ _ h7;rw [Oj];simp only [exK,Aa,AZ];omega
 split at h2
 ·rename_i ht
  have c2:=Ai ht;obtain ⟨y,q2,h3,h4⟩:=bind_ok h2;simp only [Res.ok.injEq] at h4;obtain ⟨rfl,rfl⟩:=h4;have c3:=hS _ _ _ h3;rw [Oj];simp only [exK,Aa,AZ];omega
 split at h2
 ·cases h2
 ·simp only [Res.ok.injEq] at h2;obtain ⟨rfl,rfl⟩:=h2;omega
theorem AJs {N Q:Pr Ex}(hN:Be Aa N)(hQ:Be Aa Q):Be Aa (KI N Q):=by
 intro l x r h;unfold KI at h;split at h
 ·rename_i ht
  obtain ⟨y,q2,h3,h4⟩:=bind_ok h;simp only [Res.ok.injEq] at h4;obtain ⟨rfl,rfl⟩:=h4;have c1:=Ai ht;have c2:=hN _ _ _ h3;simp only [exK,Aa,AZ];omega
 ·exact hQ _ _ _ h
theorem Ju:∀n,Be Aa (eP n)∧Be Aa (nP n)∧Be Aa (uP n)
 |0=>⟨λl x r h=>by simp [eP,DI] at h,λl x r h=>by simp [nP,DI] at h,λl x r h=>by simp [uP,DI] at h⟩
 |n+1=>by
  obtain ⟨hE,hN,hU⟩:=Ju n;have u:=ABL hE hU n;have s:=Jy (Jy u (AJZ KD) n) (AJZ Pz) n;have nn:=AJs hN (AFk hE s n);exact ⟨Jy (Jy nn AMe n) AQo n,nn,u⟩
def pz (x:Ex):Nat:=if x.kind != 0 then Aa x else 0
theorem ADT (x:Ex):pz x≤Aa x:=by unfold pz;split <;> omega
theorem pz0:pz ex0=0:=rfl
theorem Jl:∀l:List Ex,AZ (l.filter λx=>x.kind != 0)=(l.map pz).sum
 |[]=>rfl
 |x::l=>by
  simp only [List.filter_cons,List.map_cons,List.sum_cons,pz];cases h:(x.kind != 0) with
  |true=>simp only [if_true,AZ,Jl l]
  |false=>simp only [Bool.false_eq_true,if_false,Jl l];simp
theorem Tt {α:Type}{w:α→Nat}{g:Pr α}(hg:Be w g):∀(n:Nat) (acc:List α) (l:List Tok) (x:List α) (r:List Tok),Bq g n acc l= .ok x r→r.length+(x.map w).sum≤l.length+(acc.map w).sum
 |0,acc,l,x,r,h=>by simp only [Bq,Res.ok.injEq] at h;obtain ⟨rfl,rfl⟩:=h;omega
 |n+1,acc,l,x,r,h=>by
  simp only [Bq] at h;split at h
  ·rename_i ht
   obtain ⟨a,q,h1,h2⟩:=bind_ok h;have c1:=hg _ _ _ h1;have c2:=Tt hg n _ _ _ _ h2;have c3:=Ai ht;simp only [List.map_append,List.map_cons,List.map_nil,List.sum_append,List.sum_cons,List.sum_nil] at c2;omega
  ·simp only [Res.ok.injEq] at h;obtain ⟨rfl,rfl⟩:=h;omega
theorem En {α:Type}{w:α→Nat}{g:Pr α}(hg:Be w g)(n:Nat):Be (λx=>(x.map w).sum) (BG n g):=by
 intro l x r h;obtain ⟨a,q,h1,h2⟩:=bind_ok h;have c1:=hg _ _ _ h1;have c2:=Tt hg n _ _ _ _ h2;simp only [List.map_cons,List.map_nil,List.sum_cons,List.sum_nil] at c2;simp only;omega
theorem NE {α:Type}{w:α→Nat}{g:Pr α}(hg:Be w g)(n:Nat):Be (λx=>(x.map w).sum) (BC n g):=by
 intro l x r h;obtain ⟨_,q,h1,h2⟩:=bind_ok h;obtain ⟨a,q2,h3,h4⟩:=bind_ok h2;obtain ⟨_,q3,h5,h6⟩:=bind_ok h4;simp only [Res.ok.injEq] at h6;obtain ⟨rfl,rfl⟩:=h6;have c1:=Ag h1;have c2:=En hg n _ _ _ h3;have c3:=Ag h5;simp only at c2 ⊢;omega
theorem NG (n:Nat):Be pz (eP n):=λl x r h=>by
 have:=(Ju n).1 l x r h;have:=ADT x;omega
theorem IY (n:Nat):Be (λx=>0 * x.length) (BC n Ae):=by
 intro l x r h;have:=NE (w:=λ_=>0) (λl x r h=>by have:=BF l x r h;simp only at this ⊢;omega) n l x r h;simp only at this ⊢;omega
theorem IZ (n:Nat)(s:Bs):Be pz (Dq n s):=by
 intro l x r h;unfold Dq at h;split at h
 ·have c1:=NG n _ _ _ h;have c2:=Ai ‹_›;omega
 ·simp only [Res.ok.injEq] at h;obtain ⟨rfl,rfl⟩:=h;rw [pz0];omega
theorem AFl (n:Nat):Be (λx=>pz x.fExpr) (Eb n):=by
 intro l x r h;unfold Eb at h;split at h
 ·simp only [Res.ok.injEq] at h;obtain ⟨rfl,rfl⟩:=h;have:=Ai ‹_›;simp only [pz0];omega
 split at h
 ·simp only [Res.ok.injEq] at h;obtain ⟨rfl,rfl⟩:=h;simp only [pz0,List.length_tail];omega
 ·obtain ⟨y,q,h1,h2⟩:=bind_ok h;have c1:=NG n _ _ _ h1;split at h2
  ·obtain ⟨a,q2,h3,h4⟩:=bind_ok h2;simp only [Res.ok.injEq] at h4;obtain ⟨rfl,rfl⟩:=h4;have c2:=BF _ _ _ h3;have c3:=Ai ‹_›;simp only at c2 ⊢;omega
  ·simp only [Res.ok.injEq] at h2;obtain ⟨rfl,rfl⟩:=h2;exact c1
theorem ABO (n:Nat):Be (λx=>pz x.fExpr) (Ej n):=by
 intro l x r h;obtain ⟨y,q,h1,h2⟩:=bind_ok h;have c1:=NG n _ _ _ h1;split at h2
 ·simp only [Res.ok.injEq] at h2;obtain ⟨rfl,rfl⟩:=h2;have:=Ai ‹_›;simp only;omega
 split at h2
 ·simp only [Res.ok.injEq] at h2;obtain ⟨rfl,rfl⟩:=h2;have:=Ai ‹_›;simp only;omega
 ·simp only [Res.ok.injEq] at h2;obtain ⟨rfl,rfl⟩:=h2;exact c1
theorem AJr (n:Nat):Be (λx=>pz x.fExpr) (Nj n):=by
 intro l x r h;obtain ⟨s,q,h1,h2⟩:=bind_ok h;obtain ⟨_,q2,h3,h4⟩:=bind_ok h2;obtain ⟨y,q3,h5,h6⟩:=bind_ok h4;simp only [Res.ok.injEq] at h6;obtain ⟨rfl,rfl⟩:=h6;have c1:=BF _ _ _ h1;have c2:=Ag h3;have c3:=NG n _ _ _ h5;simp only at c1 ⊢;omega
theorem Iz:Be (λx=>pz x.fOn) Bh:=by
 intro l x r h;obtain ⟨s,q,h1,h2⟩:=bind_ok h;have c1:=BF _ _ _ h1;simp only at c1
 split at h2
 ·obtain ⟨a,q2,h3,h4⟩:=bind_ok h2;simp only [Res.ok.injEq] at h4;obtain ⟨rfl,rfl⟩:=h4;have c2:=BF _ _ _ h3;have c3:=Ai ‹_›;simp only [pz0] at c2 ⊢;omega
 split at h2
 ·obtain ⟨a,q2,h3,h4⟩:=bind_ok h2;simp only [Res.ok.injEq] at h4;obtain ⟨rfl,rfl⟩:=h4;have c2:=BF _ _ _ h3;simp only [pz0] at c2 ⊢;omega
 ·simp only [Res.ok.injEq] at h2;obtain ⟨rfl,rfl⟩:=h2;simp only [pz0];omega
theorem PG (n:Nat)(b:Bool):Be (λx=>pz x.fOn) (FM n b):=by
 intro l x r h;obtain ⟨_,q,h1,h2⟩:=bind_ok h;obtain ⟨s,q2,h3,h4⟩:=bind_ok h2;obtain ⟨_,q3,h5,h6⟩:=bind_ok h4;obtain ⟨y,q4,h7,h8⟩:=bind_ok h6;simp only [Res.ok.injEq] at h8;obtain ⟨rfl,rfl⟩:=h8;have c1:=Ag h1;have c2:=Iz _ _ _ h3;have c3:=Ag h5;have c4:=NG n _ _ _ h7;simp only at c2 ⊢;omega
theorem Tv (n:Nat):∀(m:Nat) (acc:List TSource) (l:List Tok) (x:List TSource) (r:List Tok),Ba n m acc l= .ok x r→r.length+(x.map λx=>pz x.fOn).sum≤l.length+(acc.map λx=>pz x.fOn).sum
 |0,acc,l,x,r,h=>by simp only [Ba,Res.ok.injEq] at h;obtain ⟨rfl,rfl⟩:=h;omega
 |m+1,acc,l,x,r,h=>by
  have one:∀{g:Pr TSource} (_:Be (λx=>pz x.fOn) g) {l':List Tok},l'.length≤l.length→(g l').bind (λs r=>Ba n m (acc++[s]) r)= .ok x r→r.length+(x.map λx=>pz x.fOn).sum≤l.length+(acc.map λx=>pz x.fOn).sum:=by
   intro g hg l' hl h;obtain ⟨a,q,h1,h2⟩:=bind_ok h;have c1:=hg _ _ _ h1;have c2:=Tv n m _ _ _ _ h2;simp only [List.map_append,List.map_cons,List.map_nil,List.sum_append,List.sum_cons,List.sum_nil] at c2;simp only at c1;omega
  simp only [Ba] at h;split at h
  ·exact one Iz (by simp) h
  split at h
  ·obtain ⟨_,q,h1,h2⟩:=bind_ok h;have c1:=Ag h1;have c2:=Ai ‹_›;exact one Iz (by omega) h2
  split at h
  ·exact one (PG n true) (by simp) h
  split at h
  ·exact one (PG n false) (by simp) h
  split at h
  ·exact one (PG n false) (Nat.le_refl _) h
  ·simp only [Res.ok.injEq] at h;obtain ⟨rfl,rfl⟩:=h;omega
theorem AFm (n:Nat):Be (λx=>(x.map λx=>pz x.fOn).sum) (Iw n):=by
 intro l x r h;obtain ⟨a,q,h1,h2⟩:=bind_ok h;have c1:=Iz _ _ _ h1;have c2:=Tv n n _ _ _ _ h2;simp only [List.map_cons,List.map_nil,List.sum_cons,List.sum_nil] at c2;simp only at c1 ⊢;omega
theorem FO {α:Type}{w:α→Nat}{g:Pr α}(hg:Be w g)(s:Bs){d:α}(hd:w d=0):Be w (JO s d g):=by
 intro l x r h;unfold JO at h;split at h
 ·have c1:=hg _ _ _ h;have c2:=Ai ‹_›;omega
 ·simp only [Res.ok.injEq] at h;obtain ⟨rfl,rfl⟩:=h;omega
theorem Qw {α:Type}{w:α→Nat}{g:Pr α}(hg:Be w g):Be w (byP g):=by
 intro l x r h;obtain ⟨_,q,h1,h2⟩:=bind_ok h;have c1:=Ag h1;have c2:=hg _ _ _ h2;omega
theorem Jw:Be (λ_=>0) Dc:=by
 intro l x r h;unfold Dc at h;split at h
 ·simp only [Res.ok.injEq] at h;obtain ⟨_,rfl⟩:=h;simp
 ·cases h
def wQ (q:TSelect):Nat:=(q.fItems.map λx=>pz x.fExpr).sum+(q.fFrom.map λx=>pz x.fOn).sum+pz q.fWhere+(q.fGroup.map pz).sum+pz q.fHaving+(q.fOrder.map λx=>pz x.fExpr).sum
def wS (s:TStmt):Nat:=wQ s.fSelect+pz s.fWhere+((s.fRows.flatten).map pz).sum+(s.fSets.map λx=>pz x.fExpr).sum+(s.fCols.map λx=>pz x.fDefault).sum
theorem AIf (s:TStmt):FW s=wS s+1:=by
 simp only [FW,Ho,Jl,wS,wQ,List.map_append,List.sum_append,List.map_cons,List.map_nil,List.sum_cons,List.sum_nil,List.map_map,Function.comp_def];omega
theorem ABN (n:Nat):Be wQ (EY n):=by
 intro l x r h;obtain ⟨a1,q1,h1,h⟩:=bind_ok h;obtain ⟨a2,q2,h2,h⟩:=bind_ok h;obtain ⟨a3,q3,h3,h⟩:=bind_ok h;obtain ⟨a4,q4,h4,h⟩:=bind_ok h;obtain ⟨a5,q5,h5,h⟩:=bind_ok h;obtain ⟨a6,q6,h6,h⟩:=bind_ok h;obtain ⟨a7,q7,h7,h⟩:=bind_ok h;obtain ⟨a8,q8,h8,h⟩:=bind_ok h;simp only [Res.ok.injEq] at h;obtain ⟨rfl,rfl⟩:=h;have c1:=En (AFl n) n _ _ _ h1;have c2:=FO (AFm n) _ rfl _ _ _ h2;have c3:=IZ n _ _ _ _ h3;have c4:=FO (Qw (En (NG n) n)) _ rfl _ _ _ h4;have c5:=IZ n _ _ _ _ h5;have c6:=FO (Qw (En (ABO n) n)) _ rfl _ _ _ h6;have c7:=FO Jw _ rfl _ _ _ h7;have c8:=FO Jw _ rfl _ _ _ h8;have c0:(if isT l [100,105,115,116,105,110,99,116] then l.tail else l).length≤l.length:=by split <;> simp
 simp only at c1 c2 c4 c6 c7 c8
 simp only [wQ];omega
theorem Tu:Be pz EK:=by
 intro l x r h;unfold EK at h;split at h
 ·rename_i v hv
  simp only [Res.ok.injEq] at h;obtain ⟨rfl,rfl⟩:=h;have:=YV hv;have:=ADT (Et v);simp only [Et,Aa,AZ] at this;simp only [Et];omega
 split at h
 ·obtain ⟨y,q,h1,h2⟩:=bind_ok h;simp only [Res.ok.injEq] at h2;obtain ⟨rfl,rfl⟩:=h2;have c1:=Tq _ _ _ h1;have c2:=Ai ‹_›;have:=ADT (exK 4 [y]);simp only [exK,Aa,AZ] at this;simp only [exK];omega
 ·have c1:=Tq _ _ _ h;have:=ADT x;omega
theorem IG:∀(m:Nat) (c:TCol) (l:List Tok) (y:TCol) (r:List Tok),Cj m c l= .ok y r→r.length+pz y.fDefault≤l.length+pz c.fDefault
 |0,c,l,y,r,h=>by simp only [Cj,Res.ok.injEq] at h;obtain ⟨rfl,rfl⟩:=h;omega
 |m+1,c,l,y,r,h=>by
  simp only [Cj] at h;split at h
  ·obtain ⟨_,q,h1,h2⟩:=bind_ok h;have c1:=Ag h1;have c2:=IG m _ _ _ _ h2;have:l.tail.length≤l.length:=by simp
   simp only at c2;omega
  split at h
  ·obtain ⟨_,q,h1,h2⟩:=bind_ok h;have c1:=Ag h1;have c2:=IG m _ _ _ _ h2;have:l.tail.length≤l.length:=by simp
   simp only at c2;omega
  split at h
  ·have c2:=IG m _ _ _ _ h;have:l.tail.length≤l.length:=by simp
   simp only at c2;omega
  split at h
  ·obtain ⟨x,q,h1,h2⟩:=bind_ok h;have c1:=Tu _ _ _ h1;have c2:=IG m _ _ _ _ h2;have:l.tail.length≤l.length:=by simp
   simp only at c2;omega
  ·simp only [Res.ok.injEq] at h;obtain ⟨rfl,rfl⟩:=h;omega
theorem Yp (n:Nat):Be (λx=>pz x.fDefault) (Dx n):=by
 intro l x r h;obtain ⟨s,q,h1,h2⟩:=bind_ok h;have c1:=BF _ _ _ h1;simp only at h2 c1
 generalize (if isK q 1 then typeOf (hd q).text else 0)=t at h2;split at h2
 ·cases h2
 ·have c2:=IG n _ _ _ _ h2;have:q.tail.length≤q.length:=by simp
  simp only [pz0] at c2 ⊢;omega
theorem VU (n:Nat):∀(m:Nat) (cs:List TCol) (ks:List Bs) (l:List Tok) (x:List TCol×List Bs) (r:List Tok),DD n m cs ks l= .ok x r→r.length+(x.1.map λx=>pz x.fDefault).sum≤l.length+(cs.map λx=>pz x.fDefault).sum
 |0,cs,ks,l,x,r,h=>by simp only [DD,Res.ok.injEq] at h;obtain ⟨rfl,rfl⟩:=h;exact Nat.le_refl _
 |m+1,cs,ks,l,x,r,h=>by
  simp only [DD] at h;obtain ⟨a,q,h1,h2⟩:=bind_ok h;have c1:q.length+(a.1.map λx=>pz x.fDefault).sum≤l.length+(cs.map λx=>pz x.fDefault).sum:=by
   split at h1
   ·obtain ⟨_,q1,g1,g2⟩:=bind_ok h1;obtain ⟨k,q2,g3,g4⟩:=bind_ok g2;simp only [Res.ok.injEq] at g4;obtain ⟨rfl,rfl⟩:=g4;have d1:=Ag g1;have d2:=IY n _ _ _ g3;have:l.tail.length≤l.length:=by simp
    simp only at d2 ⊢;omega
   ·obtain ⟨c,q1,g1,g2⟩:=bind_ok h1;simp only [Res.ok.injEq] at g2;obtain ⟨rfl,rfl⟩:=g2;have d1:=Yp n _ _ _ g1;simp only [List.map_append,List.map_cons,List.map_nil,List.sum_append,List.sum_cons,List.sum_nil] at d1 ⊢;omega
  split at h2
  ·have c2:=VU n m _ _ _ _ _ h2;have:q.tail.length≤q.length:=by simp
   omega
  ·simp only [Res.ok.injEq] at h2;obtain ⟨rfl,rfl⟩:=h2;exact c1
theorem ABM (n:Nat):Be wS (Ob n):=by
 intro l x r h;obtain ⟨s,q,h1,h⟩:=bind_ok h;obtain ⟨_,q2,h2,h⟩:=bind_ok h;obtain ⟨y,q3,h3,h⟩:=bind_ok h;have c1:=BF _ _ _ h1;have c2:=Ag h2;have c3:=VU n _ _ _ _ _ _ h3;simp only [List.map_nil,List.sum_nil] at c3;split at h
 ·cases h
 ·obtain ⟨_,q4,h4,h⟩:=bind_ok h;simp only [Res.ok.injEq] at h;obtain ⟨rfl,rfl⟩:=h;have c4:=Ag h4;have:wS {(default:TStmt) with fKind:=5,fTable:=s,fCols:=y.1,fKey:=y.2}=(y.1.map λx=>pz x.fDefault).sum:=by
   show 0+0+0+0+(y.1.map λx=>pz x.fDefault).sum=_;simp
  rw [this];simp only at c1;omega
theorem Xc:∀(l:List (List Ex)),(l.flatten.map pz).sum=(l.map λx=>(x.map pz).sum).sum
 |[]=>rfl
 |x::l=>by simp only [List.flatten_cons,List.map_append,List.sum_append,List.map_cons,List.sum_cons,Xc l]
theorem wS0 {s:TStmt}(h1:s.fSelect=default)(h2:s.fWhere=ex0)(h3:s.fRows=[])(h4:s.fSets=[])(h5:s.fCols=[]):wS s=0:=by
 simp only [wS,h1,h2,h3,h4,h5];rfl
theorem leW {a b:Nat}{s:TStmt}(h0:wS s=0)(h:a+1≤b):a+(λs=>wS s+1) s≤b:=by simp only [h0];omega
theorem XD {l r:List Tok}{n:Nat}(h:r.length+n≤l.length):r.length≤l.length:=by omega
theorem VV (n:Nat):Be (λs=>wS s+1) (DV n):=by
 intro l x r h;unfold DV at h;split at h
 ·obtain ⟨q,r1,h1,h2⟩:=bind_ok h;simp only [Res.ok.injEq] at h2;obtain ⟨rfl,rfl⟩:=h2;have c1:=ABN n _ _ _ h1;have c2:=Ai ‹_›;have:wS {(default:TStmt) with fKind:=1,fSelect:=q}=wQ q:=by show wQ q+0+0+0+0=_;simp
  simp only [this];omega
 split at h
 ·have c0:=Ai ‹_›;obtain ⟨_,r1,h1,h⟩:=bind_ok h;obtain ⟨s,r2,h2,h⟩:=bind_ok h;obtain ⟨c,r3,h3,h⟩:=bind_ok h;obtain ⟨_,r4,h4,h⟩:=bind_ok h;obtain ⟨y,r5,h5,h⟩:=bind_ok h;simp only [Res.ok.injEq] at h;obtain ⟨rfl,rfl⟩:=h;have c1:=Ag h1;have c2:=BF _ _ _ h2;have c3:r3.length≤r2.length:=by
   split at h3
   ·exact XD (IY n _ _ _ h3)
   ·simp only [Res.ok.injEq] at h3;obtain ⟨rfl,rfl⟩:=h3;exact Nat.le_refl _
  have c4:=Ag h4;have c5:=En (NE (NG n) n) n _ _ _ h5;have:wS {(default:TStmt) with fKind:=2,fTable:=s,fColumns:=c,fRows:=y}=(y.flatten.map pz).sum:=by show 0+0+(y.flatten.map pz).sum+0+0=_;simp
  simp only at c2 c5
  simp only [this,Xc];omega
 split at h
 ·have c0:=Ai ‹_›;obtain ⟨s,r1,h1,h⟩:=bind_ok h;obtain ⟨_,r2,h2,h⟩:=bind_ok h;obtain ⟨y,r3,h3,h⟩:=bind_ok h;obtain ⟨z,r4,h4,h⟩:=bind_ok h;simp only [Res.ok.injEq] at h;obtain ⟨rfl,rfl⟩:=h;have c1:=BF _ _ _ h1;have c2:=Ag h2;have c3:=En (AJr n) n _ _ _ h3;have c4:=IZ n _ _ _ _ h4;have:wS {(default:TStmt) with fKind:=3,fTable:=s,fSets:=y,fWhere:=z}=pz z+(y.map λx=>pz x.fExpr).sum:=by show 0+pz z+0+(y.map λx=>pz x.fExpr).sum+0=_;simp
  simp only at c1 c3
  simp only [this];omega
 split at h
 ·have c0:=Ai ‹_›;obtain ⟨_,r1,h1,h⟩:=bind_ok h;obtain ⟨s,r2,h2,h⟩:=bind_ok h;obtain ⟨z,r3,h3,h⟩:=bind_ok h;simp only [Res.ok.injEq] at h;obtain ⟨rfl,rfl⟩:=h;have c1:=Ag h1;have c2:=BF _ _ _ h2;have c3:=IZ n _ _ _ _ h3;have:wS {(default:TStmt) with fKind:=4,fTable:=s,fWhere:=z}=pz z:=by show 0+pz z+0+0+0=_;simp
  simp only at c2
  simp only [this];omega
 split at h
 ·have c0:=Ai ‹_›;unfold Ed at h;split at h
  ·have c1:=ABM n _ _ _ h;have:l.tail.tail.length≤l.tail.length:=by simp
   simp only;omega
  ·obtain ⟨_,r1,h1,h⟩:=bind_ok h;obtain ⟨a,r2,h2,h⟩:=bind_ok h;obtain ⟨_,r3,h3,h⟩:=bind_ok h;obtain ⟨t,r4,h4,h⟩:=bind_ok h;obtain ⟨c,r5,h5,h⟩:=bind_ok h;simp only [Res.ok.injEq] at h;obtain ⟨rfl,rfl⟩:=h;have c1:=Ag h1;have c2:=BF _ _ _ h2;have c3:=Ag h3;have c4:=BF _ _ _ h4;have c5:=XD (IY n _ _ _ h5);have c6:(if isT l.tail [117,110,105,113,117,101] then l.tail.tail else l.tail).length≤l.tail.length:=by split <;> simp
   refine leW (wS0 rfl rfl rfl rfl rfl) ?_;simp only at c2 c4;omega
 split at h
 ·have c0:=Ai ‹_›;unfold Fg at h;split at h
  ·obtain ⟨s,r1,h1,h⟩:=bind_ok h;simp only [Res.ok.injEq] at h;obtain ⟨rfl,rfl⟩:=h;have c1:=BF _ _ _ h1;have:l.tail.tail.length≤l.tail.length:=by simp
   refine leW (wS0 rfl rfl rfl rfl rfl) ?_;simp only at c1;omega
  ·obtain ⟨_,r1,h1,h⟩:=bind_ok h;obtain ⟨s,r2,h2,h⟩:=bind_ok h;simp only [Res.ok.injEq] at h;obtain ⟨rfl,rfl⟩:=h;have c1:=Ag h1;have c2:=BF _ _ _ h2;refine leW (wS0 rfl rfl rfl rfl rfl) ?_;simp only at c2;omega
 split at h
 ·have c0:=Ai ‹_›;simp only [Res.ok.injEq] at h;obtain ⟨rfl,rfl⟩:=h;refine leW (wS0 rfl rfl rfl rfl rfl) ?_;omega
 split at h
 ·have c0:=Ai ‹_›;simp only [Res.ok.injEq] at h;obtain ⟨rfl,rfl⟩:=h;refine leW (wS0 rfl rfl rfl rfl rfl) ?_;omega
 ·obtain ⟨_,r1,h1,h⟩:=bind_ok h;simp only [Res.ok.injEq] at h;obtain ⟨rfl,rfl⟩:=h;have c1:=Ag h1;refine leW (wS0 rfl rfl rfl rfl rfl) ?_;omega
theorem NF (n:Nat):∀(m:Nat) (acc:List TStmt) (l:List Tok) (x:List TStmt) (r:List Tok),Bd n m acc l= .ok x r→BD x≤l.length+BD acc
 |0,acc,l,x,r,h=>by simp only [Bd,Res.ok.injEq] at h;obtain ⟨rfl,rfl⟩:=h;omega
 |m+1,acc,l,x,r,h=>by
  simp only [Bd] at h;split at h
  ·simp only [Res.ok.injEq] at h;obtain ⟨rfl,rfl⟩:=h;omega
  split at h
  ·have:=NF n m _ _ _ _ h;have:l.tail.length≤l.length:=by simp
   omega
  ·obtain ⟨s,q,h1,h2⟩:=bind_ok h;have c1:=VV n _ _ _ h1;simp only at c1
   split at h2
   ·have c2:=NF n m _ _ _ _ h2;simp only [BD,List.map_append,List.map_cons,List.map_nil,List.sum_append,List.sum_cons,List.sum_nil,AIf] at c2 ⊢;omega
   ·cases h2
theorem Jb (n:Nat):∀(f:Nat) (acc:List Tok) (s:Bs) (l:List Tok),DU n f acc s= .toks l→l.length≤acc.length+f
 |0,acc,s,l,h=>by simp only [DU,LexA.toks.injEq] at h;subst h;omega
 |f+1,acc,s,l,h=>by
  simp only [DU] at h;split at h
  ·simp only [LexA.toks.injEq] at h;subst h;simp
  ·split at h
   ·cases h
   ·have:=Jb n f _ _ _ h;simp at this;omega
theorem NC (s:Bs):BD (readA s).1≤s.length+1:=by
 unfold readA;split
 ·simp [BD]
 ·rename_i l hl
  have hc:=Jb _ _ _ _ _ hl;split
  ·rename_i x r hx
   have:=NF _ _ _ _ _ _ hx;simp [BD] at this hc ⊢;omega
  ·simp [BD]
def cQ (q:TSelect):Nat:=q.fItems.length+q.fFrom.length+q.fGroup.length+q.fOrder.length
def cS (s:TStmt):Nat:=cQ s.fSelect+(s.fRows.flatten.length+s.fRows.length)+s.fSets.length+s.fCols.length
theorem ABr {α:Type}(l:List α):(l.map λ_=>1).sum=l.length:=by
 induction l with
 |nil=>rfl
 |cons x l ih=>simp only [List.map_cons,List.sum_cons,ih,List.length_cons];omega
theorem Kq {α:Type}{g:Pr α}(hg:Be (λ_=>1) g)(n:Nat):Be List.length (BG n g):=λl x r h=>by
 have:=En hg n l x r h;simp only [ABr] at this;exact this
theorem YR {α:Type}{g:Pr α}(hg:Be (λ_=>1) g)(n:Nat):Be List.length (BC n g):=λl x r h=>by
 have:=NE hg n l x r h;simp only [ABr] at this;exact this
theorem TC (n:Nat):Be (λ_=>1) (eP n):=λl x r h=>by
 have:=(Ju n).1 l x r h;have:1≤Aa x:=by cases x;simp [Aa]
 simp only;omega
theorem YX (n:Nat)(s:Bs):Be (λ_=>0) (Dq n s):=λl x r h=>by
 have:=IZ n s l x r h;simp only;omega
theorem AIp (n:Nat):Be (λ_=>1) (Eb n):=by
 intro l x r h;unfold Eb at h;split at h
 ·simp only [Res.ok.injEq] at h;obtain ⟨rfl,rfl⟩:=h;have:=Ai ‹_›;simp only;omega
 split at h
 ·rename_i hb
  simp only [Bool.and_eq_true] at hb;have:=IX hb.1.1.1.1 (by decide);simp only [Res.ok.injEq] at h;obtain ⟨rfl,rfl⟩:=h;simp only [List.length_tail] at this ⊢;omega
 ·obtain ⟨y,q,h1,h2⟩:=bind_ok h;have c1:=TC n _ _ _ h1;split at h2
  ·obtain ⟨a,q2,h3,h4⟩:=bind_ok h2;simp only [Res.ok.injEq] at h4;obtain ⟨rfl,rfl⟩:=h4;have c2:=BF _ _ _ h3;have c3:=Ai ‹_›;simp only at c1 c2 ⊢;omega
  ·simp only [Res.ok.injEq] at h2;obtain ⟨rfl,rfl⟩:=h2;exact c1
theorem AFP (n:Nat):Be (λ_=>1) (Ej n):=by
 intro l x r h;obtain ⟨y,q,h1,h2⟩:=bind_ok h;have c1:=TC n _ _ _ h1;simp only at c1
 split at h2
 ·simp only [Res.ok.injEq] at h2;obtain ⟨rfl,rfl⟩:=h2;have:=Ai ‹_›;simp only;omega
 split at h2
 ·simp only [Res.ok.injEq] at h2;obtain ⟨rfl,rfl⟩:=h2;have:=Ai ‹_›;simp only;omega
 ·simp only [Res.ok.injEq] at h2;obtain ⟨rfl,rfl⟩:=h2;exact c1
theorem one_set (n:Nat):Be (λ_=>1) (Nj n):=by
 intro l x r h;obtain ⟨s,q,h1,h2⟩:=bind_ok h;obtain ⟨_,q2,h3,h4⟩:=bind_ok h2;obtain ⟨y,q3,h5,h6⟩:=bind_ok h4;simp only [Res.ok.injEq] at h6;obtain ⟨rfl,rfl⟩:=h6;have c1:=BF _ _ _ h1;have c2:=Ag h3;have c3:=TC n _ _ _ h5;simp only at c1 c3 ⊢;omega
theorem Jn:Be (λ_=>1) Bh:=by
 intro l x r h;obtain ⟨s,q,h1,h2⟩:=bind_ok h;have c1:=BF _ _ _ h1;simp only at c1
 split at h2
 ·obtain ⟨a,q2,h3,h4⟩:=bind_ok h2;simp only [Res.ok.injEq] at h4;obtain ⟨rfl,rfl⟩:=h4;have c2:=BF _ _ _ h3;have c3:=Ai ‹_›;simp only at c2 ⊢;omega
 split at h2
 ·obtain ⟨a,q2,h3,h4⟩:=bind_ok h2;simp only [Res.ok.injEq] at h4;obtain ⟨rfl,rfl⟩:=h4;have c2:=BF _ _ _ h3;simp only at c2 ⊢;omega
 ·simp only [Res.ok.injEq] at h2;obtain ⟨rfl,rfl⟩:=h2;simp only;omega
theorem TB (n:Nat)(b:Bool):Be (λ_=>1) (FM n b):=by
 intro l x r h;obtain ⟨_,q,h1,h2⟩:=bind_ok h;obtain ⟨s,q2,h3,h4⟩:=bind_ok h2;obtain ⟨_,q3,h5,h6⟩:=bind_ok h4;obtain ⟨y,q4,h7,h8⟩:=bind_ok h6;simp only [Res.ok.injEq] at h8;obtain ⟨rfl,rfl⟩:=h8;have c1:=Ag h1;have c2:=Jn _ _ _ h3;have c3:=Ag h5;have c4:=TC n _ _ _ h7;simp only at c2 c4 ⊢;omega
theorem VD (n:Nat):∀(m:Nat) (acc:List TSource) (l:List Tok) (x:List TSource) (r:List Tok),Ba n m acc l= .ok x r→r.length+x.length≤l.length+acc.length
 |0,acc,l,x,r,h=>by simp only [Ba,Res.ok.injEq] at h;obtain ⟨rfl,rfl⟩:=h;omega
 |m+1,acc,l,x,r,h=>by
  have one:∀{g:Pr TSource} (_:Be (λ_=>1) g) {l':List Tok},l'.length≤l.length→(g l').bind (λs r=>Ba n m (acc++[s]) r)= .ok x r→r.length+x.length≤l.length+acc.length:=by
   intro g hg l' hl h;obtain ⟨a,q,h1,h2⟩:=bind_ok h;have c1:=hg _ _ _ h1;have c2:=VD n m _ _ _ _ h2;simp only [zU] at c2;simp only at c1;omega
  simp only [Ba] at h;split at h
  ·exact one Jn (by simp) h
  split at h
  ·obtain ⟨_,q,h1,h2⟩:=bind_ok h;have c1:=Ag h1;have c2:=Ai ‹_›;exact one Jn (by omega) h2
  split at h
  ·exact one (TB n true) (by simp) h
  split at h
  ·exact one (TB n false) (by simp) h
  split at h
  ·exact one (TB n false) (Nat.le_refl _) h
  ·simp only [Res.ok.injEq] at h;obtain ⟨rfl,rfl⟩:=h;omega
theorem AIq (n:Nat):Be List.length (Iw n):=by
 intro l x r h;obtain ⟨a,q,h1,h2⟩:=bind_ok h;have c1:=Jn _ _ _ h1;have c2:=VD n n _ _ _ _ h2;simp only [List.length_cons,List.length_nil] at c2;simp only at c1;omega
theorem AFr (n:Nat):Be cQ (EY n):=by
 intro l x r h;obtain ⟨a1,q1,h1,h⟩:=bind_ok h;obtain ⟨a2,q2,h2,h⟩:=bind_ok h;obtain ⟨a3,q3,h3,h⟩:=bind_ok h;obtain ⟨a4,q4,h4,h⟩:=bind_ok h;obtain ⟨a5,q5,h5,h⟩:=bind_ok h;obtain ⟨a6,q6,h6,h⟩:=bind_ok h;obtain ⟨a7,q7,h7,h⟩:=bind_ok h;obtain ⟨a8,q8,h8,h⟩:=bind_ok h;simp only [Res.ok.injEq] at h;obtain ⟨rfl,rfl⟩:=h;have c1:=Kq (AIp n) n _ _ _ h1;have c2:=FO (AIq n) _ rfl _ _ _ h2;have c3:=YX n _ _ _ _ h3;have c4:=FO (Qw (Kq (TC n) n)) _ rfl _ _ _ h4;have c5:=YX n _ _ _ _ h5;have c6:=FO (Qw (Kq (AFP n) n)) _ rfl _ _ _ h6;have c7:=FO Jw _ rfl _ _ _ h7;have c8:=FO Jw _ rfl _ _ _ h8;have c0:(if isT l [100,105,115,116,105,110,99,116] then l.tail else l).length≤l.length:=by split <;> simp
 simp only at c1 c2 c3 c4 c5 c6 c7 c8
 simp only [cQ];omega
theorem AAr (n:Nat):Be (λ_=>1) (Dx n):=by
 intro l x r h;obtain ⟨s,q,h1,h2⟩:=bind_ok h;have c1:=BF _ _ _ h1;simp only at h2 c1
 generalize (if isK q 1 then typeOf (hd q).text else 0)=t at h2;split at h2
 ·cases h2
 ·have c2:=IG n _ _ _ _ h2;have:q.tail.length≤q.length:=by simp
  simp only [pz0] at c2 ⊢;omega
theorem YS (n:Nat):∀(m:Nat) (cs:List TCol) (ks:List Bs) (l:List Tok) (x:List TCol×List Bs) (r:List Tok),DD n m cs ks l= .ok x r→r.length+x.1.length≤l.length+cs.length
 |0,cs,ks,l,x,r,h=>by simp only [DD,Res.ok.injEq] at h;obtain ⟨rfl,rfl⟩:=h;exact Nat.le_refl _
 |m+1,cs,ks,l,x,r,h=>by
  simp only [DD] at h;obtain ⟨a,q,h1,h2⟩:=bind_ok h;have c1:q.length+a.1.length≤l.length+cs.length:=by
   split at h1
   ·obtain ⟨_,q1,g1,g2⟩:=bind_ok h1;obtain ⟨k,q2,g3,g4⟩:=bind_ok g2;simp only [Res.ok.injEq] at g4;obtain ⟨rfl,rfl⟩:=g4;have d1:=Ag g1;have d2:=IY n _ _ _ g3;have:l.tail.length≤l.length:=by simp
    simp only at d2 ⊢;omega
   ·obtain ⟨c,q1,g1,g2⟩:=bind_ok h1;simp only [Res.ok.injEq] at g2;obtain ⟨rfl,rfl⟩:=g2;have d1:=AAr n _ _ _ g1;simp only [zU] at d1 ⊢;omega
  split at h2
  ·have c2:=YS n m _ _ _ _ _ h2;have:q.tail.length≤q.length:=by simp
   omega
  ·simp only [Res.ok.injEq] at h2;obtain ⟨rfl,rfl⟩:=h2;exact c1
theorem cS0 {s:TStmt}(h1:s.fSelect=default)(h3:s.fRows=[])(h4:s.fSets=[])(h5:s.fCols=[]):cS s=0:=by
 simp only [cS,h1,h3,h4,h5];rfl
theorem ANH {s:TStmt}(h1:s.fSelect=default)(h4:s.fSets=[])(h5:s.fCols=[]):cS s=s.fRows.flatten.length+s.fRows.length:=by
 simp only [cS,h1,h4,h5];show 0+_+0+0=_;simp
theorem ANG {s:TStmt}(h1:s.fSelect=default)(h3:s.fRows=[])(h5:s.fCols=[]):cS s=s.fSets.length:=by
 simp only [cS,h1,h3,h5];show 0+0+_+0=_;simp
theorem ANI {s:TStmt}(h1:s.fSelect=default)(h3:s.fRows=[])(h4:s.fSets=[]):cS s=s.fCols.length:=by
 simp only [cS,h1,h3,h4];show 0+0+0+_=_;simp
theorem ATI {s:TStmt}(h3:s.fRows=[])(h4:s.fSets=[])(h5:s.fCols=[]):cS s=cQ s.fSelect:=by
 simp only [cS,h3,h4,h5];show _+0+0+0=_;simp
theorem AJK {α:Type}:∀l:List (List α),l.flatten.length=(l.map List.length).sum
 |[]=>rfl
 |x::l=>by simp only [List.flatten_cons,List.length_append,List.map_cons,List.sum_cons,AJK l]
theorem VH {α:Type}:∀l:List (List α),(l.map λx=>x.length+1).sum=l.flatten.length+l.length
 |[]=>rfl
 |x::l=>by simp only [List.flatten_cons,List.length_append,List.map_cons,List.sum_cons,VH l,List.length_cons];omega
theorem AFO {α:Type}{g:Pr α}(hg:Be (λ_=>1) g)(n:Nat):Be (λx=>x.length+1) (BC n g):=by
 intro l x r h;obtain ⟨_,q,h1,h2⟩:=bind_ok h;obtain ⟨a,q2,h3,h4⟩:=bind_ok h2;obtain ⟨_,q3,h5,h6⟩:=bind_ok h4;simp only [Res.ok.injEq] at h6;obtain ⟨rfl,rfl⟩:=h6;have c1:=Ag h1;have c2:=Kq hg n _ _ _ h3;have c3:=Ag h5;simp only;omega
theorem AJv {n:Nat}{l r:List Tok}{x:TStmt}(h:DV n l= .ok x r):r.length≤l.length∧cS x≤l.length:=by
 have hle:r.length≤l.length:=by have:=VV n _ _ _ h;omega
 refine ⟨hle,?_⟩;unfold DV at h;split at h
 ·obtain ⟨q,r1,h1,h2⟩:=bind_ok h;simp only [Res.ok.injEq] at h2;obtain ⟨rfl,rfl⟩:=h2;have c1:=AFr n _ _ _ h1;rw [ATI rfl rfl rfl];simp only [List.length_tail] at c1 ⊢;omega
 split at h
 ·obtain ⟨_,r1,h1,h⟩:=bind_ok h;obtain ⟨s,r2,h2,h⟩:=bind_ok h;obtain ⟨c,r3,h3,h⟩:=bind_ok h;obtain ⟨_,r4,h4,h⟩:=bind_ok h;obtain ⟨y,r5,h5,h⟩:=bind_ok h;simp only [Res.ok.injEq] at h;obtain ⟨rfl,rfl⟩:=h;have c1:=Ag h1;have c2:=BF _ _ _ h2;have c3:r3.length≤r2.length:=by
   split at h3
   ·exact XD (IY n _ _ _ h3)
   ·simp only [Res.ok.injEq] at h3;obtain ⟨rfl,rfl⟩:=h3;exact Nat.le_refl _
  have c4:=Ag h4;have c5:=En (AFO (TC n) n) n _ _ _ h5;rw [ANH rfl rfl rfl,←VH];simp only [List.length_tail] at c1 c2 c5 ⊢;omega
 split at h
 ·obtain ⟨s,r1,h1,h⟩:=bind_ok h;obtain ⟨_,r2,h2,h⟩:=bind_ok h;obtain ⟨y,r3,h3,h⟩:=bind_ok h;obtain ⟨z,r4,h4,h⟩:=bind_ok h;simp only [Res.ok.injEq] at h;obtain ⟨rfl,rfl⟩:=h;have c1:=BF _ _ _ h1;have c2:=Ag h2;have c3:=Kq (one_set n) n _ _ _ h3;rw [ANG rfl rfl rfl];simp only [List.length_tail] at c1 ⊢;omega
 split at h
 ·obtain ⟨_,r1,h1,h⟩:=bind_ok h;obtain ⟨s,r2,h2,h⟩:=bind_ok h;obtain ⟨z,r3,h3,h⟩:=bind_ok h;simp only [Res.ok.injEq] at h;obtain ⟨rfl,rfl⟩:=h;rw [cS0 rfl rfl rfl rfl];omega
 split at h
 ·unfold Ed at h;split at h
  ·obtain ⟨s,q,h1,h⟩:=bind_ok h;obtain ⟨_,q2,h2,h⟩:=bind_ok h;obtain ⟨y,q3,h3,h⟩:=bind_ok h;have c1:=BF _ _ _ h1;have c2:=Ag h2;have c3:=YS n _ _ _ _ _ _ h3;split at h
   ·cases h
   ·obtain ⟨_,q4,h4,h⟩:=bind_ok h;simp only [Res.ok.injEq] at h;obtain ⟨rfl,rfl⟩:=h;rw [ANI rfl rfl rfl];simp only [List.length_tail,List.length_nil] at c1 c3 ⊢;omega
  ·obtain ⟨_,q1,h1,h⟩:=bind_ok h;obtain ⟨_,q2,h2,h⟩:=bind_ok h;obtain ⟨_,q3,h3,h⟩:=bind_ok h;obtain ⟨_,q4,h4,h⟩:=bind_ok h;obtain ⟨_,q5,h5,h⟩:=bind_ok h;simp only [Res.ok.injEq] at h;obtain ⟨rfl,rfl⟩:=h;rw [cS0 rfl rfl rfl rfl];omega
 split at h
 ·unfold Fg at h;split at h
  ·obtain ⟨_,q1,h1,h⟩:=bind_ok h;simp only [Res.ok.injEq] at h;obtain ⟨rfl,rfl⟩:=h;rw [cS0 rfl rfl rfl rfl];omega
  ·obtain ⟨_,q1,h1,h⟩:=bind_ok h;obtain ⟨_,q2,h2,h⟩:=bind_ok h;simp only [Res.ok.injEq] at h;obtain ⟨rfl,rfl⟩:=h;rw [cS0 rfl rfl rfl rfl];omega
 split at h
 ·simp only [Res.ok.injEq] at h;obtain ⟨rfl,rfl⟩:=h;rw [cS0 rfl rfl rfl rfl];omega
 split at h
 ·simp only [Res.ok.injEq] at h;obtain ⟨rfl,rfl⟩:=h;rw [cS0 rfl rfl rfl rfl];omega
 ·obtain ⟨_,q1,h1,h⟩:=bind_ok h;simp only [Res.ok.injEq] at h;obtain ⟨rfl,rfl⟩:=h;rw [cS0 rfl rfl rfl rfl];omega
theorem PH (n:Nat):∀(m:Nat) (acc:List TStmt) (l:List Tok) (x:List TStmt) (r:List Tok),Bd n m acc l= .ok x r→∀s∈x,s∈acc∨cS s≤l.length
 |0,acc,l,x,r,h,s,hs=>by simp only [Bd,Res.ok.injEq] at h;obtain ⟨rfl,rfl⟩:=h;exact .inl hs
 |m+1,acc,l,x,r,h,s,hs=>by
  simp only [Bd] at h;split at h
  ·simp only [Res.ok.injEq] at h;obtain ⟨rfl,rfl⟩:=h;exact .inl hs
  split at h
  ·have:=PH n m _ _ _ _ h s hs;simp only [List.length_tail] at this;exact this.imp id (λh=>by omega)
  ·obtain ⟨s',q,h1,h2⟩:=bind_ok h;have c1:=AJv h1;split at h2
   ·rcases PH n m _ _ _ _ h2 s hs with h|h
    ·rcases List.mem_append.1 h with h|h
     ·exact .inl h
     ·rw [List.mem_singleton.1 h];exact .inr c1.2
    ·exact .inr (by omega)
   ·cases h2
theorem UC (s:Bs):∀x∈(readA s).1,cS x≤s.length+1:=by
 unfold readA;split
 ·intro x hx;cases hx
 ·rename_i l hl
  have hc:=Jb _ _ _ _ _ hl;split
  ·rename_i x r hx
   intro y hy;rcases PH _ _ _ _ _ _ hx y hy with h|h
   ·cases h
   ·simp at hc;omega
  ·intro x hx;cases hx
def PD:Nat→Nat→Bs→Bs
 |0,_,acc=>acc
 |f+1,n,acc=>if n < 10 then UInt8.ofNat (48+n)::acc else PD f (n / 10) (UInt8.ofNat (48+n % 10)::acc)
def IW (b:Bool)(n:Int):Bs:=if n < 0 then (if b then 45::PD (n.natAbs+1) n.natAbs [] else [45]) else PD (n.toNat+1) n.toNat []
def FV (q:UInt8)(s:Bs):Bs:=q::(s.flatMap λc=>if c==q then [q,q] else [c])++[q]
def Jk (s:Bs):Bool:= !s.isEmpty&& !s.head?.any Az&& !wordsL.contains s&&s.all λc=>(BN c||Az c)&& !(65≤c&&c≤90)
def nameB (s:Bs):Bs:=if Jk s then s else FV 34 s
def AU:List Bs→Bs
 |[]=>[]
 |[x]=>x
 |x::y::l=>x++[44,32]++AU (y::l)
def DC (l:List Bs):Bs:=[40]++AU (l.map nameB)++[41]
def CQ (k:Int):Option (Bs×Int):=
 if k=22 then some ([111,114],1) else if k=21 then some ([97,110,100],2) else if k=23 then some ([108,105,107,101],4) else
 if k=15 then some ([61],4) else if k=16 then some ([60,62],4) else if k=17 then some ([60],4) else if k=18 then some ([60,61],4) else if k=19 then some ([62],4) else if k=20 then some ([62,61],4) else
 if k=9 then some ([43],5) else if k=10 then some ([45],5) else if k=14 then some ([124,124],5) else if k=11 then some ([42],6) else if k=12 then some ([47],6) else if k=13 then some ([37],6) else none
def Wi (k:Int):Int:=if k=5 then 3 else if k=6∨k=7∨k=24∨k=25 then 4 else if k=4 then 7 else match CQ k with
 |some s=>s.2
 |none=>8
def RZ (b:Bool)(v:TValue):Bs:=if v.fNull then [110,117,108,108] else if v.fType=3 then FV 39 v.fText else if v.fType=2 then (if v.fInt=1 then [116,114,117,101] else [102,97,108,115,101]) else IW b v.fInt
def YP (b:Bool)(s:Bs):Bs:=if b then [40]++s++[41] else s
def Ap (b:Bool)(x:Ex)(arg:Nat→Int→Bs):Bs:=
 match CQ x.kind with
 |some (s,l)=>arg 0 (if l=4 then 5 else l)++[32]++s++[32]++arg 1 (l+1)
 |none=>
  if x.kind=1 then RZ b x.value else
  if x.kind=2 then (if x.table.isEmpty then [] else nameB x.table++[46])++nameB x.name else
  if x.kind=4 then [45]++arg 0 8 else
  if x.kind=5 then [110,111,116,32]++arg 0 3 else
  if x.kind=6 then arg 0 5++[32,105,115,32,110,117,108,108] else
  if x.kind=7 then arg 0 5++[32,105,115,32,110,111,116,32,110,117,108,108] else
  if x.kind=24 then arg 0 5++[32,105,110,32,40]++AU ((List.range (x.args.length - 1)).map λi=>arg (i+1) 1)++[41] else
  if x.kind=25 then arg 0 5++[32,98,101,116,119,101,101,110,32]++arg 1 5++[32,97,110,100,32]++arg 2 5 else
  if x.kind=8 then [108,101,110,103,116,104,40]++arg 0 1++[41] else
  if x.kind=27 then [99,111,97,108,101,115,99,101,40]++AU ((List.range x.args.length).map λi=>arg i 1)++[41] else
  if x.kind=26 then [99,97,115,101]++((List.range x.args.length).flatMap λi=>(if i % 2=1 then [32,116,104,101,110,32] else if i+1=x.args.length then [32,101,108,115,101,32] else [32,119,104,101,110,32])++arg i 1)++[32,101,110,100] else
  if x.kind=28 then x.name++[40]++(if x.distinct&&(b|| !(x.name==[99,111,117,110,116]&&x.args.length==1&&(x.args.getD 0 ex0).kind==3)) then [100,105,115,116,105,110,99,116,32] else [])++
   (if x.name==[99,111,117,110,116]&&x.args.length==1&&(x.args.getD 0 ex0).kind==3 then [42] else arg 0 1)++[41] else [63]
def MN (b:Bool):Nat→Ex→Int→Bs
 |0,_,_=>[]
 |n+1,x,asked=>YP (decide (Wi x.kind < asked)) (Ap b x λi l=>match x.args[i]? with
  |some y=>MN b n y l
  |none=>[63])
def exB (b:Bool)(x:Ex)(asked:Int):Bs:=MN b (Dl x) x asked
def Iu (b:Bool)(l:List Ex):Bs:=AU (l.map λx=>exB b x 1)
def rowB (b:Bool)(l:List Ex):Bs:=[40]++Iu b l++[41]
def Di (b:Bool)(s:Bs)(x:Ex):Bs:=if x.kind=0 then [] else s++exB b x 1
def asB (s:Bs):Bs:=if s.isEmpty then [] else [32,97,115,32]++nameB s
def He (b:Bool)(x:TItem):Bs:=(if x.fStar then (if x.fTable.isEmpty then [42] else nameB x.fTable++[46,42]) else exB b x.fExpr 1)++asB x.fAs
def KQ (b:Bool)(i:Nat)(x:TSource):Bs:=
 (if i=0 then [32,102,114,111,109,32] else if x.fLeft then [32,108,101,102,116,32,106,111,105,110,32] else if x.fOn.kind≠0 then [32,106,111,105,110,32] else [32,99,114,111,115,115,32,106,111,105,110,32])++nameB x.fTable++asB x.fAs++(if 0 < i∧(x.fLeft=true∨x.fOn.kind≠0) then [32,111,110,32]++exB b x.fOn 1 else [])
def DW (b:Bool):Nat→List TSource→Bs
 |_,[]=>[]
 |i,x::l=>KQ b i x++DW b (i+1) l
def Sz (b:Bool)(x:TOrder):Bs:=exB b x.fExpr 1++(if x.fDesc then [32,100,101,115,99] else [])
def Jh (b:Bool)(q:TSelect):Bs:=
 [115,101,108,101,99,116,32]++(if q.fDistinct then [100,105,115,116,105,110,99,116,32] else [])++AU (q.fItems.map (He b))++DW b 0 q.fFrom++Di b [32,119,104,101,114,101,32] q.fWhere++(if q.fGroup.isEmpty then [] else [32,103,114,111,117,112,32,98,121,32]++Iu b q.fGroup)++
 Di b [32,104,97,118,105,110,103,32] q.fHaving++(if q.fOrder.isEmpty then [] else [32,111,114,100,101,114,32,98,121,32]++AU (q.fOrder.map (Sz b)))++(if 0≤q.fLimit then [32,108,105,109,105,116,32]++IW b q.fLimit else [])++(if q.fOffset=0 then [] else [32,111,102,102,115,101,116,32]++IW b q.fOffset)
def KC (t:Int):Bs:=if t=1 then [105,110,116] else if t=2 then [98,111,111,108] else if t=3 then [116,101,120,116] else [63]
def LM (b:Bool)(c:TCol):Bs:=nameB c.fName++[32]++KC c.fType++(if c.fNotNull then [32,110,111,116,32,110,117,108,108] else [])++(if c.fKey then [32,112,114,105,109,97,114,121,32,107,101,121] else [])++(if c.fUnique then [32,117,110,105,113,117,101] else [])++
 (if c.fDefault.kind=0 then [] else [32,100,101,102,97,117,108,116,32]++exB b c.fDefault (if b then 1 else 7))
def KP (b:Bool)(s:TStmt):Bs:=[99,114,101,97,116,101,32,116,97,98,108,101,32]++nameB s.fTable++[32,40]++AU (s.fCols.map (LM b))++(if s.fKey.isEmpty then [] else [44,32,112,114,105,109,97,114,121,32,107,101,121,32]++DC s.fKey)++[41]
def BB (b:Bool)(s:TStmt):Bs:=
 if s.fKind=1 then Jh b s.fSelect else
 if s.fKind=2 then [105,110,115,101,114,116,32,105,110,116,111,32]++nameB s.fTable++(if s.fColumns.isEmpty then [] else [32]++DC s.fColumns)++[32,118,97,108,117,101,115,32]++AU (s.fRows.map (rowB b)) else
 if s.fKind=3 then [117,112,100,97,116,101,32]++nameB s.fTable++[32,115,101,116,32]++AU (s.fSets.map λx=>nameB x.fColumn++[32,61,32]++exB b x.fExpr 1)++Di b [32,119,104,101,114,101,32] s.fWhere else
 if s.fKind=4 then [100,101,108,101,116,101,32,102,114,111,109,32]++nameB s.fTable++Di b [32,119,104,101,114,101,32] s.fWhere else
 if s.fKind=5 then KP b s else
 if s.fKind=6 then [99,114,101,97,116,101,32]++(if s.fIndex.fUnique then [117,110,105,113,117,101,32] else [])++[105,110,100,101,120,32]++nameB s.fIndex.fName++[32,111,110,32]++nameB s.fIndex.fTable++[32]++DC s.fIndex.fColumns else
 if s.fKind=7 then [100,114,111,112,32,116,97,98,108,101,32]++nameB s.fTable else
 if s.fKind=8 then [100,114,111,112,32,105,110,100,101,120,32]++nameB s.fIndex.fName else
 if s.fKind=9 then [98,101,103,105,110] else if s.fKind=10 then [99,111,109,109,105,116] else if s.fKind=11 then [114,111,108,108,98,97,99,107] else [63]
mutual
def Ea:Ex→Ex→Bool
 | .mk k v t n s ty d l,y=>k==y.kind&&v==y.value&&t==y.table&&n==y.name&&s==y.slot&&ty==y.type&&d==y.distinct&&ADF l y.args
def ADF:List Ex→List Ex→Bool
 |[],l=>l.isEmpty
 |x::xs,l=>match l with
  |[]=>false
  |y::ys=>Ea x y&&ADF xs ys
end
mutual
def gdE:Ex→Prop
 | .mk k v _ n _ _ d l=>(0≤v.fInt∧v.fInt≤9223372036854775807)∧(k=28→isAgg n=true∧l.length=1∧(d=true→∀y∈l,y.kind≠3))∧gdL l
def gdL:List Ex→Prop
 |[]=>True
 |x::l=>gdE x∧gdL l
end
theorem Wp:∀{a b:List Ex},gdL a→gdL b→gdL (a++b)
 |[],_,_,h=>h
 |_::a,b,h,h2=>⟨h.1,Wp h.2 h2⟩
theorem ADq {x:Ex}:∀{l:List Ex},gdL l→x∈l→gdE x
 |y::l,h,hx=>by
  rcases List.mem_cons.1 hx with rfl|hx
  ·exact h.1
  ·exact ADq h.2 hx
def PE (x:Ex):Prop:=gdE x∧x.kind≠0∧x.kind≠3
theorem Nv {k:Int}{l:List Ex}(h0:k≠0)(h3:k≠3)(h28:k≠28)(hl:gdL l):PE (exK k l):=
 ⟨by simp only [exK,gdE,v0];exact ⟨by decide,λh=>absurd h h28,hl⟩,h0,h3⟩
theorem AQU {v:TValue}(h:0≤v.fInt∧v.fInt≤9223372036854775807):PE (Et v):=
 ⟨by simp only [Et,gdE];exact ⟨h,λh=>absurd h (by decide),trivial⟩,by simp [Et,Ex.kind],by simp [Et,Ex.kind]⟩
theorem AId (t n:Bs):PE (Ec t n):=
 ⟨by simp only [Ec,gdE,v0];exact ⟨by decide,λh=>absurd h (by decide),trivial⟩,by simp [Ec,Ex.kind],by simp [Ec,Ex.kind]⟩
theorem AIe {n:Bs}{d:Bool}{x:Ex}(hn:isAgg n=true)(hd:d=true→x.kind≠3)(hx:gdE x):PE (Dw n d [x]):=
 ⟨by simp only [Dw,gdE,v0];exact ⟨by decide,λ_=>⟨hn,rfl,λh y hy=>by rw [List.mem_singleton.1 hy];exact hd h⟩,hx,trivial⟩,by simp [Dw,Ex.kind],by simp [Dw,Ex.kind]⟩
theorem AUo:gdE (exK 3 []):=by simp only [exK,gdE,v0];exact ⟨by decide,λh=>absurd h (by decide),trivial⟩
theorem AQr:gdE ex0:=by simp only [ex0,gdE,v0];exact ⟨by decide,λh=>absurd h (by decide),trivial⟩
def Px (t:Tok):Prop:=0≤t.num∧t.num≤9223372036854775807
structure TOk (N:Nat)(l:List Tok):Prop where
 len:l.length≤N
 num:∀t∈l,Px t
theorem TOk.tl {N:Nat}{l:List Tok}(h:TOk N l):TOk N l.tail:=⟨by have:=h.len;simp only [List.length_tail];omega,λt ht=>h.num t (List.mem_of_mem_tail ht)⟩
theorem TOk.hd {N:Nat}{l:List Tok}(h:TOk N l):Px (hd l):=by
 cases l with
 |nil=>exact ⟨by decide,by decide⟩
 |cons t l=>exact h.num t (List.mem_cons_self ..)
theorem TOk.if {N:Nat}{l:List Tok}{b:Bool}(h:TOk N l):TOk N (if b then l.tail else l):=by
 cases b
 ·exact h
 ·exact h.tl
def Postq {α:Type}(N:Nat)(Q:α→Prop)(g:Pr α):Prop:=∀l x r,TOk N l→g l= .ok x r→Q x∧TOk N r
theorem Postq.imp {α:Type}{N:Nat}{Q R:α→Prop}{g:Pr α}(h1:Postq N Q g)(h2:∀x,Q x→R x):Postq N R g:=λl x r hl h=>⟨h2 _ (h1 l x r hl h).1,(h1 l x r hl h).2⟩
theorem Postq.cost {α:Type}{N:Nat}{Q:α→Prop}{w:α→Nat}{g:Pr α}(h1:Postq N Q g)(h2:Be w g):Postq N (λx=>Q x∧w x≤N) g:=λl x r hl h=>⟨⟨(h1 l x r hl h).1,by have:=h2 l x r h;have:=hl.len;omega⟩,(h1 l x r hl h).2⟩
theorem Postq.bind {α β:Type}{N:Nat}{Q:α→Prop}{R:β→Prop}{g:Pr α}{f:α→Pr β}(hg:Postq N Q g)(hf:∀a,Q a→Postq N R (f a)):Postq N R (λl=>(g l).bind f):=by
 intro l x r hl h;obtain ⟨a,q,h1,h2⟩:=bind_ok h;have:=hg _ _ _ hl h1;exact hf a this.1 _ _ _ this.2 h2
theorem zAF:type_of% @Postq.bind:=@Postq.bind
theorem Postq.ok {α:Type}{N:Nat}{Q:α→Prop}{x:α}(h:Q x):Postq N Q (λl=>.ok x l):=by
 intro l y r hl h';simp only [Res.ok.injEq] at h';obtain ⟨rfl,rfl⟩:=h';exact ⟨h,hl⟩
theorem zAO:type_of% @Postq.ok:=@Postq.ok
theorem Postq.tl {α:Type}{N:Nat}{Q:α→Prop}{g:Pr α}(h:Postq N Q g):Postq N Q (λl=>g l.tail):=λl x r hl h'=>h _ x r hl.tl h'
theorem Postq.ite {α:Type}{N:Nat}{Q:α→Prop}{c:List Tok→Prop}[DecidablePred c]{f g:Pr α}(h1:Postq N Q f)(h2:Postq N Q g):Postq N Q (λl=>if c l then f l else g l):=by
 intro l x r hl h;simp only at h
 split at h
 ·exact h1 _ _ _ hl h
 ·exact h2 _ _ _ hl h
theorem Postq.bad {α:Type}{N:Nat}{Q:α→Prop}:Postq N Q (λl=>bad (α:=α) l):=λl x r hl h=>nomatch h
def Tru {α:Type}(_:α):Prop:=True
theorem BA {N:Nat}{s:Bs}:Postq N Tru (AL s):=Postq.ite (c:=λl=>isT l s=true) (Postq.tl (g:=λl=>.ok () l) (zAO trivial)) Postq.bad
theorem CP {N:Nat}:Postq N Tru Ae:=by
 intro l x r hl h;unfold Ae at h;split at h
 ·simp only [Res.ok.injEq] at h;obtain ⟨rfl,rfl⟩:=h;exact ⟨trivial,hl.tl⟩
 ·cases h
theorem Ux {α:Type}{N:Nat}{Q:α→Prop}{one:Pr α}(h1:Postq N Q one):∀n acc,(∀x∈acc,Q x)→Postq N (λl=>∀x∈l,Q x) (Bq one n acc)
 |0,acc,ha=>zAO ha
 |n+1,acc,ha=>Postq.ite (c:=λl=>isT l [44]=true) (Postq.tl (g:=λl=>(one l).bind λx r=>Bq one n (acc++[x]) r) (zAF h1 λx hx=>Ux h1 n _ (by
   intro y hy;rcases List.mem_append.1 hy with h|h
   ·exact ha y h
   ·rw [List.mem_singleton.1 h];exact hx))) (zAO ha)
theorem IE {α:Type}{N:Nat}{Q:α→Prop}{one:Pr α}(h1:Postq N Q one)(n:Nat):Postq N (λl=>∀x∈l,Q x) (BG n one):=zAF h1 λx hx=>Ux h1 n _ (by intro y hy;rw [List.mem_singleton.1 hy];exact hx)
theorem Lh {α:Type}{N:Nat}{Q:α→Prop}{one:Pr α}(h1:Postq N Q one)(n:Nat):Postq N (λl=>∀x∈l,Q x) (BC n one):=
 zAF BA λ_ _=>zAF (IE h1 n) λ_ hx=>zAF BA λ_ _=>zAO hx
theorem ABC:∀{l:List Ex},(∀x∈l,PE x)→gdL l
 |[],_=>trivial
 |x::l,h=>⟨(h x (List.mem_cons_self ..)).1,ABC λy hy=>h y (List.mem_cons_of_mem _ hy)⟩
def OpK (k:Int):Prop:=k≠0∧k≠3∧k≠28
theorem Uy {N:Nat}{one:Pr Ex}{op:List Tok→Int}(hop:∀l,op l≠0→OpK (op l))(h1:Postq N PE one):∀n x,PE x→Postq N PE (Dv one op n x)
 |0,x,hx=>zAO hx
 |n+1,x,hx=>by
  intro l y r hl h;simp only [Dv] at h;split at h
  ·simp only [Res.ok.injEq] at h;obtain ⟨rfl,rfl⟩:=h;exact ⟨hx,hl⟩
  ·rename_i hn
   obtain ⟨z,q,h2,h3⟩:=bind_ok h;have c1:=h1 _ _ _ hl.tl h2;exact Uy hop h1 n _ (Nv (l:=[x,z]) (hop _ hn).1 (hop _ hn).2.1 (hop _ hn).2.2 ⟨hx.1,c1.1.1,trivial⟩) _ _ _ c1.2 h3
theorem Ji {N:Nat}{one:Pr Ex}{op:List Tok→Int}(hop:∀l,op l≠0→OpK (op l))(h1:Postq N PE one)(n:Nat):Postq N PE (CB n one op):=
 zAF h1 λx hx=>Uy hop h1 n x hx
theorem AWS (l:List Tok)(h:Ii l≠0):OpK (Ii l):=by unfold Ii at *; split <;> simp_all [OpK]
theorem AUk (l:List Tok)(h:Ez l≠0):OpK (Ez l):=by unfold Ez at *; split <;> simp_all [OpK]
theorem AUj {f:Bs→Option Int}(hf:∀s k,f s=some k→OpK k)(l:List Tok)(h:Hm f l≠0):OpK (Hm f l):=by
 unfold Hm at *;split at h
 ·rename_i hc
  rw [if_pos hc];cases hs:f (hd l).text with
  |none=>rw [hs] at h;exact absurd rfl h
  |some k=>exact hf _ _ hs
 ·exact absurd rfl h
theorem AUi (s:Bs)(k:Int)(h:Pz s=some k):OpK k:=by
 unfold Pz at h;repeat (split at h;· simp only [Option.some.injEq] at h;subst h;exact ⟨by decide,by decide,by decide⟩)
 cases h
theorem AQk (s:Bs)(k:Int)(h:KD s=some k):OpK k:=by
 unfold KD at h;repeat (split at h;· simp only [Option.some.injEq] at h;subst h;exact ⟨by decide,by decide,by decide⟩)
 cases h
theorem AJP (l:List Tok)(h:Dk l≠0):OpK (Dk l):=by
 unfold Dk at *;repeat (split;· exact ⟨by decide,by decide,by decide⟩)
 simp_all
theorem AJI {l:List Tok}{v:TValue}(h:Ha l=some v):0≤v.fInt∧v.fInt≤9223372036854775807:=by
 unfold Ha at h;repeat (split at h;· simp only [Option.some.injEq] at h;subst h;simp)
 cases h
theorem Sm {N:Nat}:Postq N (λx=>PE x∧x.kind=1) JQ:=by
 intro l x r hl h;unfold JQ at h;split at h
 ·simp only [Res.ok.injEq] at h;obtain ⟨rfl,rfl⟩:=h;exact ⟨⟨AQU hl.hd,rfl⟩,hl.tl⟩
 ·cases h
theorem post_given {N:Nat}:Postq N (λx=>PE x∧(x.kind=1∨x.kind=4)) EK:=by
 intro l x r hl h;unfold EK at h;split at h
 ·rename_i v hv
  simp only [Res.ok.injEq] at h;obtain ⟨rfl,rfl⟩:=h;exact ⟨⟨AQU (AJI hv),.inl rfl⟩,hl.tl⟩
 split at h
 ·obtain ⟨y,q,h1,h2⟩:=bind_ok h;have c1:=Sm _ _ _ hl.tl h1;simp only [Res.ok.injEq] at h2;obtain ⟨rfl,rfl⟩:=h2;exact ⟨⟨Nv (by decide) (by decide) (by decide) ⟨c1.1.1.1,trivial⟩,.inr rfl⟩,c1.2⟩
 ·have c1:=Sm _ _ _ hl h;exact ⟨⟨c1.1.1,.inl c1.1.2⟩,c1.2⟩
theorem Uu {N:Nat}{E:Pr Ex}(hE:Postq N PE E)(n:Nat)(acc:List Ex)(ha:gdL acc):Postq N gdL (EZ n E acc):=
 zAF BA λ_ _=>zAF hE λ_ hx=>zAF BA λ_ _=>zAF hE λ_ hy=>zAO (Wp ha ⟨hx.1,hy.1,trivial⟩)
theorem Sl {N:Nat}{E:Pr Ex}(hE:Postq N PE E)(n:Nat):∀m acc,gdL acc→Postq N gdL (DJ n E m acc)
 |0,acc,ha=>zAO ha
 |m+1,acc,ha=>Postq.ite (c:=λl=>isT l [119,104,101,110]=true) (zAF (Uu hE n acc ha) λa h=>Sl hE n m a h) (zAO ha)
theorem AFH {N:Nat}{E:Pr Ex}(hE:Postq N PE E)(n:Nat):Postq N PE (Hg n E):=
 zAF (Uu hE n [] trivial) λa ha=>zAF (Sl hE n n a ha) λb hb=>
  zAF (Q:=gdL) (g:=λr=>if isT r [101,108,115,101] then (E r.tail).bind λx r=>.ok (b++[x]) r else Res.ok b r)
   (Postq.ite (c:=λl=>isT l [101,108,115,101]=true) (Postq.tl (g:=λl=>(E l).bind λx r=>.ok (b++[x]) r) (zAF hE λx hx=>zAO (Wp hb ⟨hx.1,trivial⟩))) (zAO hb))
   λc hc=>zAF BA λ_ _=>zAO (Nv (by decide) (by decide) (by decide) hc)
theorem ALD {s:Bs}(h1:¬s=[99,111,97,108,101,115,99,101])(h2:¬s=[108,101,110,103,116,104])(h:DZ s=true):isAgg s=true:=by
 unfold DZ at h;simpa [h1,h2] using h
theorem AAm {N:Nat}{E:Pr Ex}(hE:Postq N PE E)(n:Nat)(s:Bs)(hs:DZ s=true):Postq N PE (Cf n E s):=by
 intro l x r hl h;unfold Cf at h;split at h
 ·exact zAF (Lh hE n) (λa ha=>zAO (x:=exK 27 a) (Nv (by decide) (by decide) (by decide) (ABC ha))) l x r hl h
 rename_i h1
 obtain ⟨_,q,g1,h⟩:=bind_ok h;have hq:=(BA _ _ _ hl g1).2;split at h
 ·exact zAF hE (λa ha=>zAF BA λ_ _=>zAO (x:=exK 8 [a]) (Nv (by decide) (by decide) (by decide) ⟨ha.1,trivial⟩)) q x r hq h
 rename_i h2
 have hag:=ALD h1 h2 hs;split at h
 ·obtain ⟨_,q2,g2,h⟩:=bind_ok h;simp only [Res.ok.injEq] at h;obtain ⟨rfl,rfl⟩:=h;exact ⟨AIe hag (λh=>nomatch h) AUo,(BA _ _ _ hq.tl g2).2⟩
 ·obtain ⟨y,q2,g2,h⟩:=bind_ok h;have c1:=hE _ _ _ hq.if g2;obtain ⟨_,q3,g3,h⟩:=bind_ok h;simp only [Res.ok.injEq] at h;obtain ⟨rfl,rfl⟩:=h;exact ⟨AIe hag (λ_=>c1.1.2.2) c1.1.1,(BA _ _ _ c1.2 g3).2⟩
theorem AAj {N:Nat}{E U:Pr Ex}(hE:Postq N PE E)(hU:Postq N PE U)(n:Nat):Postq N PE (DK n E U):=by
 intro l x r hl h;unfold DK at h;split at h
 ·exact zAF hU (λa ha=>zAO (x:=exK 4 [a]) (Nv (by decide) (by decide) (by decide) ⟨ha.1,trivial⟩)) l.tail x r hl.tl h
 split at h
 ·exact zAF hE (λa ha=>zAF BA λ_ _=>zAO ha) l.tail x r hl.tl h
 split at h
 ·exact AFH hE n _ _ _ hl.tl h
 split at h
 ·have:=Sm _ _ _ hl h;exact ⟨this.1.1,this.2⟩
 split at h
 ·rename_i v hv
  simp only [Res.ok.injEq] at h;obtain ⟨rfl,rfl⟩:=h;exact ⟨AQU (AJI hv),hl.tl⟩
 obtain ⟨s,q,g1,h⟩:=bind_ok h;have hq:=(CP _ _ _ hl g1).2;split at h
 ·rename_i hc
  exact AAm hE n s (by simp only [Bool.and_eq_true] at hc;exact hc.2) _ _ _ hq h
 split at h
 ·exact zAF CP (λa _=>zAO (AId s a)) q.tail x r hq.tl h
 ·simp only [Res.ok.injEq] at h;obtain ⟨rfl,rfl⟩:=h;exact ⟨AId _ _,hq⟩
theorem AAn {b:Bool}{x:Ex}(h:PE x):PE (JR b x):=by
 cases b
 ·exact h
 ·exact Nv (by decide) (by decide) (by decide) ⟨h.1,trivial⟩
theorem AFE {N:Nat}{E S:Pr Ex}(hE:Postq N PE E)(hS:Postq N PE S)(n:Nat):Postq N PE (EG n E S):=by
 intro l z r hl h;unfold EG at h;obtain ⟨x,q,g1,h⟩:=bind_ok h;obtain ⟨hx,hq⟩:=hS _ _ _ hl g1;split at h
 ·rename_i hn
  exact zAF hS (λy hy=>zAO (x:=exK (Dk q) [x,y]) (Nv (AJP _ hn).1 (AJP _ hn).2.1 (AJP _ hn).2.2 ⟨hx.1,hy.1,trivial⟩)) q.tail z r hq.tl h
 split at h
 ·split at h
  ·exact zAF BA (λ_ _=>zAO (x:=exK 7 [x]) (Nv (by decide) (by decide) (by decide) ⟨hx.1,trivial⟩)) _ z r hq.tl.tl h
  ·exact zAF BA (λ_ _=>zAO (x:=exK 6 [x]) (Nv (by decide) (by decide) (by decide) ⟨hx.1,trivial⟩)) _ z r hq.tl h
 simp only at h
 generalize hb:isT q [110,111,116]=b at h;have hq2:TOk N (if b then q.tail else q):=hq.if;generalize (if b then q.tail else q)=q2 at h hq2;split at h
 ·exact zAF (Lh hE n) (λa ha=>zAO (x:=JR b (exK 24 (x::a))) (AAn (Nv (by decide) (by decide) (by decide) ⟨hx.1,ABC ha⟩))) _ z r hq2.tl h
 split at h
 ·exact zAF hS (λy hy=>zAF BA λ_ _=>zAF hS λw hw=>zAO (x:=JR b (exK 25 [x,y,w])) (AAn (Nv (by decide) (by decide) (by decide) ⟨hx.1,hy.1,hw.1,trivial⟩))) _ z r hq2.tl h
 split at h
 ·exact zAF hS (λy hy=>zAO (x:=JR b (exK 23 [x,y])) (AAn (Nv (by decide) (by decide) (by decide) ⟨hx.1,hy.1,trivial⟩))) _ z r hq2.tl h
 split at h
 ·cases h
 ·simp only [Res.ok.injEq] at h;obtain ⟨rfl,rfl⟩:=h;exact ⟨hx,hq2⟩
theorem AIc {N:Nat}{M Q:Pr Ex}(hM:Postq N PE M)(hQ:Postq N PE Q):Postq N PE (KI M Q):=
 Postq.ite (c:=λl=>isT l [110,111,116]=true) (Postq.tl (g:=λl=>(M l).bind λx r=>.ok (exK 5 [x]) r) (zAF hM λa ha=>zAO (Nv (by decide) (by decide) (by decide) ⟨ha.1,trivial⟩))) hQ
theorem Su (N:Nat):∀n,Postq N PE (eP n)∧Postq N PE (nP n)∧Postq N PE (uP n)
 |0=>⟨λl x r _ h=>by simp [eP,DI] at h,λl x r _ h=>by simp [nP,DI] at h,λl x r _ h=>by simp [uP,DI] at h⟩
 |n+1=>by
  obtain ⟨hE,hN,hU⟩:=Su N n;have u:=AAj hE hU n;have s:=Ji (AUj AUi) (Ji (AUj AQk) u n) n;have nn:=AIc hN (AFE hE s n);exact ⟨Ji AWS (Ji AUk nn n) n,nn,u⟩
end Go.Proofs.YtkifgfanjcfedaaGreatDoor
