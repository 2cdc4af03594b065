/-
  Lemmas, part 2: laid together by a program.
-/
import Derived.Test.YtkifgfanjcfedaaGreatDoorP1
import Derived.Deep.LoopGhost
import Derived.RangeFuncRecord
import Derived.IntWalk
import GoSem.ClaimJoined
import Derived.Below
import Derived.WideShapes
import Derived.Test.YtkifgfanjcfedaaGreatDoorRows
set_option maxRecDepth 100000
set_option maxHeartbeats 4000000
set_option linter.unusedVariables false
set_option linter.unusedSimpArgs false
set_option linter.unusedSectionVars false
namespace Go.SL
section
variable {P:Program}{PQ:List PanicEntry→List Deferred→World→Prop}{ops:Array Oper}{Sw:World→Prop}{kd:Nat→Nat}{nd:Nat→Bool}{rc:Nat→Nat→Bool}{Fin:Act→World→Prop}
def Rdy (rc:Nat→Nat→Bool)(i:Nat)(l:List Nat):Prop:=∀j∈l,j≠i→rc i j=false
theorem Rdy.erase {i j:Nat}{l:List Nat}(h:Rdy rc i l):Rdy rc i (l.erase j):=fun k hk hne=>h k (List.mem_of_mem_erase hk) hne
def WI (P:Program)(PQ:List PanicEntry→List Deferred→World→Prop)(ops:Array Oper)(Sw:World→Prop)(kd:Nat→Nat)(nd:Nat→Bool)(rc:Nat→Nat→Bool)(Fin:Act→World→Prop):Nat→List Nat→Act→World→Prop
 |0,_,a,w=>Fin a w
 |f+1,l,a,w=>
  (∃i o v,i∈l∧kd i≠2∧Rdy rc i l∧ops[i]? =some o∧YieldsIf P ops (fun w=>kd i=1→Sw w) o v a∧WI P PQ ops Sw kd nd rc Fin f (l.erase i) (a.put o.dst v) w)∨
  ((∀i∈l,Rdy rc i l→kd i=2)∧∀k∈l,Rdy rc k l→CX P ops (Qp PQ) k (fun a' w'=>(nd k=true→Sw w')∧WI P PQ ops Sw kd nd rc Fin f (l.erase k) a' w') a w)
structure SerGOk (ops:Array Oper)(kd:Nat→Nat)(nd:Nat→Bool)(rc:Nat→Nat→Bool):Prop where
 sel:∀(j:Nat) (o:Oper) cs b,ops[j]? =some o→o.op≠.select cs b
 dep:∀i o,ops[i]? =some o→∀e∈o.after,Region.binds .any e=true→e.on < i
 ord:∀i j oi oj,j < i→ops[i]? =some oi→ops[j]? =some oj→rc i j=true∨(oj.apart ops oi=true∧oi.apart ops oj=true)
 need:∀i j,i < ops.size→j < ops.size→kd j=1→i≠j→rc i j=false→nd i=true
section main
variable (ok:SerGOk ops kd nd rc)
include ok
theorem SerGOk.apart {i j:Nat}{oi oj:Oper}(hi:ops[i]? =some oi)(hj:ops[j]? =some oj)(hne:i≠j)(h1:rc i j=false)(h2:rc j i=false):oi.apart ops oj=true∧oj.apart ops oi=true:=by
 rcases Nat.lt_or_gt_of_ne hne with h|h
 ·have:=(ok.ord j i oj oi h hj hi).resolve_left (by simp [h2]);exact this
 ·have:=(ok.ord i j oi oj h hi hj).resolve_left (by simp [h1]);exact ⟨this.2,this.1⟩
theorem ZI {i:Nat}{oi:Oper}(hi:ops[i]? =some oi)(hk:kd i≠2):∀(f:Nat) (l:List Nat) (a:Act) (w:World),l.Nodup→l.length=f+1→i∈l→Rdy rc i l→WI P PQ ops Sw kd nd rc Fin (f+1) l a w→
  ∃v,YieldsIf P ops (fun w=>kd i=1→Sw w) oi v a∧WI P PQ ops Sw kd nd rc Fin f (l.erase i) (a.put oi.dst v) w:=by
 intro f;induction f with
 |zero=>
  intro l a w hnd hlen hm hrd h;rcases h with ⟨i',o',v',hm',hk',hrd',ho',hy',hs'⟩|⟨h2,_⟩
  ·have:i'=i:=by
    cases l with
    |nil=>cases hm
    |cons x l=>
     have:l=[]:=List.eq_nil_of_length_eq_zero (by simpa using hlen);subst this;simp only [List.mem_singleton] at hm hm';rw [hm,hm']
   subst this;rw [hi] at ho';simp only [Option.some.injEq] at ho';subst ho';exact ⟨v',hy',hs'⟩
  ·exact absurd (h2 i hm hrd) hk
 |succ f ih=>
  intro l a w hnd hlen hm hrd h;rcases h with ⟨i',o',v',hm',hk',hrd',ho',hy',hs'⟩|⟨h2,_⟩
  ·by_cases hii:i'=i
   ·subst hii;rw [hi] at ho';simp only [Option.some.injEq] at ho';subst ho';exact ⟨v',hy',hs'⟩
   ·have hm1:i∈l.erase i':=(List.mem_erase_of_ne (fun e=>hii e.symm)).2 hm;obtain ⟨v,hy,hs⟩:=ih (l.erase i') _ w (hnd.erase i') (by rw [List.length_erase_of_mem hm',hlen];rfl) hm1 hrd.erase hs';obtain ⟨ap1,ap2⟩:=ok.apart hi ho' (fun e=>hii e.symm) (hrd i' hm' hii) (hrd' i hm (fun e=>hii e.symm));obtain ⟨a1,a2,a3⟩:=Oper.apart_spec ap1;obtain ⟨b1,b2,b3⟩:=Oper.apart_spec ap2;refine ⟨v,(Gi (ds:=a.defers) (ok.sel i oi · · hi) a3).1 hy,.inl ⟨i',o',v',(List.mem_erase_of_ne hii).2 hm',hk',hrd'.erase,ho',?_,?_⟩⟩
    ·exact (Gi (ds:=a.defers) (ok.sel i' o' · · ho') b3).2 hy'
    ·rw [List.erase_comm,Act.put_comm a v v' a2];exact hs
  ·exact absurd (h2 i hm hrd) hk
theorem AGX {k:Nat}{ok':Oper}(hi:ops[k]? =some ok')(hk:kd k=2):∀(f:Nat) (l:List Nat) (a:Act) (w:World),l.Nodup→l.length=f+1→k∈l→Rdy rc k l→WI P PQ ops Sw kd nd rc Fin (f+1) l a w→
  CX P ops (Qp PQ) k (fun a' w'=>(nd k=true→Sw w')∧WI P PQ ops Sw kd nd rc Fin f (l.erase k) a' w') a w:=by
 intro f;induction f with
 |zero=>
  intro l a w hnd hlen hm hrd h;rcases h with ⟨i',o',v',hm',hk',hrd',ho',hy',hs'⟩|⟨_,h2⟩
  ·have:i'=k:=by
    cases l with
    |nil=>cases hm
    |cons x l=>
     have:l=[]:=List.eq_nil_of_length_eq_zero (by simpa using hlen);subst this;simp only [List.mem_singleton] at hm hm';rw [hm,hm']
   subst this;exact absurd hk hk'
  ·exact h2 k hm hrd
 |succ f ih=>
  intro l a w hnd hlen hm hrd h;rcases h with ⟨i',o',v',hm',hk',hrd',ho',hy',hs'⟩|⟨_,h2⟩
  ·have hii:i'≠k:=fun e=>by subst e;exact hk' hk
   have hm1:k∈l.erase i':=(List.mem_erase_of_ne (fun e=>hii e.symm)).2 hm;have:=ih (l.erase i') _ w (hnd.erase i') (by rw [List.length_erase_of_mem hm',hlen];rfl) hm1 hrd.erase hs';obtain ⟨ap1,ap2⟩:=ok.apart hi ho' (fun e=>hii e.symm) (hrd i' hm' hii) (hrd' k hm (fun e=>hii e.symm));have:=Oe hi ap2 (ok.sel i' o' · · ho') (ok.sel k ok' · · hi) hy' this;refine Eo ?_ this;rintro a' w' ⟨hy,hS,hs⟩;refine ⟨hS,.inl ⟨i',o',v',(List.mem_erase_of_ne hii).2 hm',hk',hrd'.erase,ho',hy,?_⟩⟩;rw [List.erase_comm];exact hs
  ·exact h2 k hm hrd
theorem XF {Q:Exit→Act→World→Prop}(hQ:∀a w,Fin a w→Q .normal a w){Iv:Act→Prop}(hI:∀a o v ds,o∈ops→Iv a→Iv (({a with defers:=ds}:Act).put o.dst v))(hQP:∀c a w,Iv a→PQ c a.defers w→Q (.panic c) a w)
  (hrl:∀(listed:Array Bool) i,(∀k,listed.getD k false=true→∀o,ops[k]? =some o→∀e∈o.after,Region.binds .any e=true→listed.getD e.on false=true)→
   i∈Region.ready .any ops listed→∀j,rc i j=true→listed.getD j false=true):
  ∀(fuel:Nat) (listed:Array Bool) (l:List Nat) (a:Act) (w:World),Iv a→listed.size=ops.size→l.length=fuel→l.Pairwise (· < ·)→(∀i,i∈l↔i < ops.size∧listed.getD i true=false)→
   (∀k,listed.getD k false=true→∀o,ops[k]? =some o→∀e∈o.after,Region.binds .any e=true→listed.getD e.on false=true)→
   ((∃j∈l,kd j=1)→Sw w)→WI P PQ ops Sw kd nd rc Fin fuel l a w→Ls P ops Q fuel listed a w
 |0,listed,l,a,w,hv,hsz,hlen,hp,hmem,hdc,hS,h=>by
  have hl:l=[]:=List.eq_nil_of_length_eq_zero hlen;subst hl;refine ⟨?_,hQ a w h⟩;apply List.eq_nil_iff_forall_not_mem.2
  intro i hi;obtain ⟨h0,o,ho,_⟩:=mem_ready.1 hi;have:=(hmem i).2 ⟨(Array.getElem?_eq_some_iff.1 ho).1,h0⟩;cases this
 |fuel+1,listed,l,a,w,hv,hsz,hlen,hp,hmem,hdc,hS,h=>by
  have both:∀j,j < ops.size→(listed.getD j false=true∨listed.getD j true=false):=by
   intro j hj;have:j < listed.size:=by omega
   rw [Array.getD_eq_getD_getElem?,Array.getD_eq_getD_getElem?,Array.getElem?_eq_getElem this];cases listed[j] <;> simp
  refine ⟨fun hnil=>?_,fun i hi=>?_⟩
  ·cases l with
   |nil=>simp at hlen
   |cons j l=>
    exfalso
    have hjm:=(hmem j).1 (List.mem_cons_self ..);obtain ⟨oj,hj⟩:∃oj,ops[j]? =some oj:=⟨_,Array.getElem?_eq_getElem hjm.1⟩;have:j∈Region.ready .any ops listed:=mem_ready.2 ⟨hjm.2,oj,hj,fun e he hb=>by
     have hlt:=ok.dep j oj hj e he hb;rcases both e.on (by omega) with h|h
     ·exact h
     ·have hm:=(hmem e.on).2 ⟨by omega,h⟩;rcases List.mem_cons.1 hm with h|h
      ·omega
      ·have:=(List.pairwise_cons.1 hp).1 _ h;omega⟩
    rw [hnil] at this;cases this
  ·obtain ⟨h0,oi,ho,hdeps⟩:=mem_ready.1 hi;have hlt:=(Array.getElem?_eq_some_iff.1 ho).1;have him:i∈l:=(hmem i).2 ⟨hlt,h0⟩;have hnd:l.Nodup:=hp.imp (fun h=>Nat.ne_of_lt h);have hrc:∀j∈l,rc i j=false:=by
    intro j hj;cases hr:rc i j with
    |false=>rfl
    |true=>
     have h1:=hrl listed i hdc hi j hr;have h2:=((hmem j).1 hj).2;have:j < listed.size:=by have:=((hmem j).1 hj).1;omega
     rw [Array.getD_eq_getD_getElem?,Array.getElem?_eq_getElem this] at h1 h2;simp only [Option.getD_some] at h1 h2;rw [h1] at h2;cases h2
   have hom:oi∈ops:=Array.mem_of_getElem? ho;have next:∀a' w',Iv a'→((∃j∈l.erase i,kd j=1)→Sw w')→WI P PQ ops Sw kd nd rc Fin fuel (l.erase i) a' w'→Ls P ops Q fuel (listed.setIfInBounds i true) a' w':=by
    intro a' w' hv' hS' hs';refine XF hQ hI hQP hrl fuel _ (l.erase i) a' w' hv' (by simp [hsz]) (by rw [List.length_erase_of_mem him,hlen];rfl) (hp.sublist List.erase_sublist) (fun k=>?_) (fun k hk o hok e he hb=>?_) hS' hs'
    ·rw [hnd.mem_erase_iff,hmem k];by_cases hki:k=i
     ·subst hki;have:k < listed.size:=by omega
      simp [this]
     ·rw [getD_set_ne true (fun e=>hki e.symm)];simp [hki]
    ·by_cases hki:k=i
     ·subst hki;rw [ho] at hok;simp only [Option.some.injEq] at hok;subst hok;exact getD_set_true (hdeps e he hb)
     ·rw [getD_set_ne false (fun e=>hki e.symm)] at hk;exact getD_set_true (hdc k hk o hok e he hb)
   by_cases hk:kd i=2
   ·refine AAk (fun c w=>hQP c a w hv) (Eo ?_ (Nv ho (AGX ok ho hk fuel l a w hnd hlen him (fun j hj _=>hrc j hj) h)));rintro a' w' ⟨⟨u,ds,rfl⟩,hS',hs'⟩;refine next _ w' (hI a oi u ds hom hv) (fun ⟨j,hj,hkj⟩=>hS' ?_) hs';have hj':=(hnd.mem_erase_iff.1 hj);exact ok.need i j hlt ((hmem j).1 hj'.2).1 hkj (fun e=>hj'.1 e.symm) (hrc j hj'.2)
   ·obtain ⟨v,hy,hs'⟩:=ZI ok ho hk fuel l a w hnd hlen him (fun j hj _=>hrc j hj) h;have hSi:kd i=1→Sw w:=fun h1=>hS ⟨i,him,h1⟩;exact AAj ho hy hSi (next _ w (hI a oi v a.defers hom hv) (fun ⟨j,hj,hkj⟩=>hS ⟨j,List.mem_of_mem_erase hj,hkj⟩) hs')
end main
end
section
variable {P:Program}{ω:Om}{n:Nat}
def ALX (ω:Om)(S:M)(w:World):Prop:=∃I L,St ω w I L∧S I L
def ADH (ω:Om)(n:Nat)(Iv:Act→Prop)(K:Env→M)(a:Act)(w:World):Prop:=Iv a∧∃e I L,Rep n a e∧St ω w I L∧K e I L
def PP (ω:Om)(pn:Pnf)(c:List PanicEntry)(ds:List Deferred)(w:World):Prop:=∃e v I L,ds=dfs e.df∧c=[{v,recovered:=false}]∧St ω w I L∧ALZ (OI pn e) v I L
theorem PP.none {c:List PanicEntry}{ds:List Deferred}{w:World}:¬PP ω none c ds w:=fun ⟨_,_,_,_,_,_,_,h⟩=>h
theorem EH {pn:Pnf}{ops:Array Oper}{nd:Nat→Bool}{S:M}{K:Env→M}{Iv:Act→Prop}(hI:∀a o v,o∈ops→Iv a→Iv (a.put o.dst v)):
  ∀(rest:List Oper) (i:Nat) (md:Md) (e:Env) (a:Act) (w:World) (I:Imm) (L:LH),(∀k,rest[k]? =ops[i+k]?)→Iv a→Rep n a e→MdOk n ops md e→St ω w I L→
   EX P ω pn (some S) nd n ops i md rest e K I L→Ser P (PP ω pn) ops (ALX ω S) (Dc P ops) nd (ADH ω n Iv K) (List.range' i rest.length) a w
 |[],i,md,e,a,w,I,L,_,hv,hr,_,hs,h=>⟨hv,e,I,L,hr,hs,h⟩
 |o::rest,i,md,e,a,w,I,L,hops,hv,hr,hmd,hs,h=>by
  have ho:ops[i]? =some o:=by have:=hops 0;simpa using this.symm
  have hom:o∈ops:=Array.mem_of_getElem? ho;have hops':∀k,rest[k]? =ops[(i+1)+k]? :=fun k=>by
   have:=hops (k+1);simp only [List.getElem?_cons_succ] at this;rw [this];congr 1;omega
  have hkd:Dc P ops i=opk P o.op:=by simp [Dc,ho]
  simp only [List.length_cons,List.range'_succ];refine ⟨o,ho,?_⟩;obtain ⟨e',hr,hpe,hstep⟩:=Ti hr hmd h;rcases hstep with ⟨hw,md',hmd',h⟩|⟨hw,md',hmd',h⟩|⟨_,hS,_⟩
  rotate_right
  ·cases hS
  ·unfold Qd at h;cases hop:BQ P ω (OI pn e) (e'.ev n) o.op with
   |pure r=>
    rw [hop] at h;simp only [chk,Option.isSome_some,Bool.not_true,Bool.false_or] at h;split at h
    ·rename_i hk
     have hk:=Nat.eq_of_beq_eq_true hk;cases r with
     |none=>exact h.elim
     |some v=>
      refine .inr ⟨by rw [hkd,hk];decide,v,.inl ⟨hw,fun w' _=>JE hr hop w'⟩,?_⟩;exact EH hI rest (i+1) md' _ _ w I L hops' (hI _ o _ hom hv) (hr.put _ _) (hmd' v) hs h
    ·exact h.elim
   |read R=>
    rw [hop] at h;simp only [chk,Option.isSome_some,Bool.not_true,Bool.false_or] at h;split at h
    ·rename_i hk
     have hk:=Nat.eq_of_beq_eq_true hk;obtain ⟨v,hR,hK⟩:=h;refine .inr ⟨by rw [hkd,hk];decide,v,.inl ⟨hw,fun w' hS=>?_⟩,?_⟩
     ·obtain ⟨I',L',hs',hS'⟩:=hS (by rw [hkd,hk]);exact LP hr hop hs' (hR I' L' hS')
     ·exact EH hI rest (i+1) md' _ _ w I L hops' (hI _ o _ hom hv) (hr.put _ _) (hmd' v) hs hK
    ·exact h.elim
   |eff E=>
    rw [hop] at h;simp only [chk,Option.isSome_some,Bool.not_true,Bool.false_or] at h;split at h
    ·rename_i hk
     have hk:=Nat.eq_of_beq_eq_true hk;refine .inl ⟨by rw [hkd,hk],?_⟩;unfold CX;simp only [ho,hw,if_true];unfold wpR;refine JS (fun v w' I0 L0 hs0 hg=>?_) (fun v w' I0 L0 hs0 hp=>⟨e',v,I0,L0,hr.defers,rfl,hs0,by rw [hpe];exact hp⟩) (RY hr hop hs h);obtain ⟨I',L',hs',hk'⟩:=Na hs0 hg;simp only [kp] at hk';split at hk'
     ·exact ⟨fun _=>⟨I',L',hs',hk'.1⟩,EH hI rest (i+1) md' _ _ w' I' L' hops' (hI _ o _ hom hv) (hr.put _ _) (hmd' v) hs' hk'.2⟩
     ·rename_i hn
      exact ⟨fun h=>absurd h hn,EH hI rest (i+1) md' _ _ w' I' L' hops' (hI _ o _ hom hv) (hr.put _ _) (hmd' v) hs' hk'⟩
    ·exact h.elim
   |no=>rw [hop] at h;exact h.elim
  ·simp only [skM] at h;by_cases hk:Dc P ops i=2
   ·refine .inl ⟨hk,?_⟩;unfold CX;simp only [ho,hw,Bool.false_eq_true,if_false];rw [hkd] at hk;rw [hk] at h;cases hn:nd i with
    |true=>
     rw [hn] at h;simp only [Nat.beq_refl,Bool.and_self,if_true] at h;exact ⟨fun _=>⟨I,L,hs,h.1⟩,EH hI rest (i+1) md' _ _ w I L hops' (hI _ o _ hom hv) (hr.put _ _) hmd' hs h.2⟩
    |false=>
     rw [hn] at h;simp only [Bool.false_and,Bool.false_eq_true,if_false] at h;exact ⟨(fun h=>absurd h (by decide)),EH hI rest (i+1) md' _ _ w I L hops' (hI _ o _ hom hv) (hr.put _ _) hmd' hs h⟩
   ·refine .inr ⟨hk,undef,.inr ⟨hw,rfl⟩,?_⟩;rw [hkd] at hk;have hb:Nat.beq (opk P o.op) 2=false:=by
     cases hb:Nat.beq (opk P o.op) 2 with
     |false=>rfl
     |true=>exact absurd (Nat.eq_of_beq_eq_true hb) hk
    simp only [hb,Bool.and_false,Bool.false_eq_true,if_false] at h;exact EH hI rest (i+1) md' _ _ w I L hops' (hI _ o _ hom hv) (hr.put _ _) hmd' hs h
theorem FB {b:Frame}{a:Act}{k:List Item}{cs:List Frame}{w:World}{c:Code}:step P (lone (b.atR a (.code (.scope c)::k)) cs w)= .next (lone (b.atR a (.code c:: .inScope c::k)) cs w):=
 step_lone_go (by simp [stepG,stepG.exec,Frame.atR])
theorem TQ {b:Frame}{a:Act}{k:List Item}{cs:List Frame}{w:World}{c:Code}:step P (lone (b.atR a (.inScope c::k)) cs w)= .next (lone (b.atR a k) cs w):=
 step_lone_go (by simp [stepG,stepG.exec,Frame.atR])
theorem Yh {F:Fence}{n:Nat}{Q:Exit→Act→World→Prop}{a:Act}{w:World}{c:Code}(h:c.wpIn F n P Q a w)(hq0:∀l a w,¬Q (.goto l) a w):(Code.scope c).wpIn F n P Q a w:=by
 intro b k cs hro hb hr;have h0:(lone (b.atR a (.code (.scope c)::k)) cs w).fenced P F:=fenced_calm hb hr rfl;obtain ⟨e,a₁,w₁,hq,harr⟩:=h b (.inScope c::k) cs hro hb hr;cases e with
 |normal=>exact ⟨.normal,a₁,w₁,hq,.head h0 FB (StepsIn.trans harr (.one (fenced_calm hb hr rfl) TQ))⟩
 |exit id'=>
  have hx:exitTo id' (.inScope c::k)=exitTo id' k:=by simp [exitTo]
  exact ⟨.exit id',a₁,w₁,hq,fun k' hk=>.head h0 FB (harr.1 k' (by rw [hx];exact hk)),
   fun hr' hk=>let ⟨k₁,h1,h2⟩:=harr.2 hr' (by rw [hx];exact hk);⟨k₁,h1,.head h0 FB h2⟩⟩
 |goto l=>exact absurd hq (hq0 _ _ _)
 |ret=>exact ⟨_,a₁,w₁,hq,.of_steps (.one h0 FB) harr⟩
 |panic ch=>exact ⟨_,a₁,w₁,hq,.of_steps (.one h0 FB) harr⟩
 |outgrown=>exact ⟨_,a₁,w₁,hq,.of_steps (.one h0 FB) harr⟩
theorem Yb {I:Imm}{L:LH}:∀{Ms:List M} {A:M},ARB Ms I L→A∈Ms→A I L
 |[],_,h,_=>h.elim
 |[B],A,h,hm=>by simp only [List.mem_singleton] at hm;subst hm;exact h
 |B::C::r,A,h,hm=>by
  rcases List.mem_cons.1 hm with hm|hm
  ·subst hm;exact h.1
  ·exact Yb h.2 hm
theorem rdyB_spec {rc:Nat→Nat→Bool}{i:Nat}{l:List Nat}:AHD rc i l=true↔Rdy rc i l:=by
 simp only [AHD,List.all_eq_true,Bool.or_eq_true,Bool.not_eq_true'];constructor
 ·intro h j hj hne;rcases h j hj with h|h
  ·exact absurd (Nat.eq_of_beq_eq_true h) hne
  ·exact h
 ·intro h j hj;by_cases e:j=i
  ·left;rw [e];exact Nat.beq_refl i
  ·right;exact h j hj e
theorem AEG {ops:Array Oper}{i:Nat}(h:Dc P ops i=2):Fp P ops i=2:=by
 unfold Fp;split
 ·rfl
 ·exact h
theorem AEI {ops:Array Oper}{i:Nat}(h:Fp P ops i≠2)(h1:Dc P ops i=1):Fp P ops i=1:=by
 unfold Fp at h ⊢;split at h
 ·exact absurd rfl h
 ·rename_i hc;rw [if_neg hc];exact h1
theorem AEH {ops:Array Oper}{i:Nat}(h:Fp P ops i=2):Dc P ops i≠0:=by
 unfold Fp at h;split at h
 ·rename_i hc
  simp only [Bool.and_eq_true] at hc;have:=Nat.eq_of_beq_eq_true hc.1;omega
 ·omega
theorem JR {pn:Pnf}{ops:Array Oper}{nd:Nat→Bool}{rc:Nat→Nat→Bool}{S:M}{K:Env→M}{Iv:Act→Prop}(hI:∀a o v,o∈ops→Iv a→Iv (a.put o.dst v))(hg:∀(i:Nat) o,ops[i]? =some o→o.guard=none):
  ∀(f:Nat) (l:List Nat) (e:Env) (a:Act) (w:World) (I:Imm) (L:LH),Iv a→Rep n a e→St ω w I L→(∀i∈l,i < ops.size)→
   vcG P ω pn S nd (Fp P ops) rc n ops f l e K I L→WI P (PP ω pn) ops (ALX ω S) (Fp P ops) nd rc (ADH ω n Iv K) f l a w
 |0,l,e,a,w,I,L,hv,hr,hs,_,h=>⟨hv,e,I,L,hr,hs,h⟩
 |f+1,l,e,a,w,I,L,hv,hr,hs,hlt,h=>by
  unfold vcG at h;have hlt':∀i,∀j∈l.erase i,j < ops.size:=fun i j hj=>hlt j (List.mem_of_mem_erase hj);have hw:∀(i:Nat) (o:Oper),ops[i]? =some o→Region.wanted o (yielded ops a.tmps)=true:=fun i o ho=>by simp [Region.wanted,hg i o ho]
  cases hf:l.find? (fun i=> !Nat.beq (Fp P ops i) 2&&AHD rc i l) with
  |some i=>
   simp only [hf] at h;have hp:=List.find?_some hf;have hm:=List.mem_of_find?_eq_some hf;simp only [Bool.and_eq_true,Bool.not_eq_true'] at hp;have hrd:=rdyB_spec.1 hp.2;have hk2:Fp P ops i≠2:=fun e=>by rw [e] at hp;simp at hp
   cases ho:ops[i]? with
   |some o=>
    simp only [ho] at h;have hom:o∈ops:=Array.mem_of_getElem? ho;have hkd:Dc P ops i=opk P o.op:=by simp [Dc,ho]
    unfold Qd at h;cases hop:BQ P ω (OI pn e) (e.ev n) o.op with
    |pure r=>
     rw [hop] at h;simp only [chk,Option.isSome_some,Bool.not_true,Bool.false_or] at h;split at h
     ·cases r with
      |none=>exact h.elim
      |some v=>exact .inl ⟨i,o,v,hm,hk2,hrd,ho,.inl ⟨hw i o ho,fun w' _=>JE hr hop w'⟩,JR hI hg f _ _ _ w I L (hI _ o _ hom hv) (hr.put _ _) hs (hlt' i) h⟩
     ·exact h.elim
    |read R=>
     rw [hop] at h;simp only [chk,Option.isSome_some,Bool.not_true,Bool.false_or] at h;split at h
     ·rename_i hk
      have hk:=Nat.eq_of_beq_eq_true hk;obtain ⟨v,hR,hK⟩:=h;refine .inl ⟨i,o,v,hm,hk2,hrd,ho,.inl ⟨hw i o ho,fun w' hS=>?_⟩,JR hI hg f _ _ _ w I L (hI _ o _ hom hv) (hr.put _ _) hs (hlt' i) hK⟩;obtain ⟨I',L',hs',hS'⟩:=hS (AEI hk2 (by rw [hkd,hk]));exact LP hr hop hs' (hR I' L' hS')
     ·exact h.elim
    |eff E=>
     rw [hop] at h;simp only [chk,Option.isSome_some,Bool.not_true,Bool.false_or] at h;split at h
     ·rename_i hk
      have hk:=Nat.eq_of_beq_eq_true hk;exact absurd (AEG (hkd.trans hk)) hk2
     ·exact h.elim
    |no=>rw [hop] at h;exact h.elim
   |none=>simp only [ho] at h;exact h.elim
  |none=>
   simp only [hf] at h;refine .inr ⟨fun i hi hrd=>?_,fun k hk hrd=>?_⟩
   ·have:=List.find?_eq_none.1 hf i hi;simp only [Bool.and_eq_true,Bool.not_eq_true',not_and,Bool.not_eq_true] at this;cases hb:Nat.beq (Fp P ops i) 2 with
    |true=>exact Nat.eq_of_beq_eq_true hb
    |false=>have:=this hb;rw [rdyB_spec.2 hrd] at this;cases this
   ·have h:=Yb h (List.mem_map.2 ⟨k,List.mem_filter.2 ⟨hk,rdyB_spec.2 hrd⟩,rfl⟩);have hk2:Fp P ops k=2:=by
     have:=List.find?_eq_none.1 hf k hk;simp only [Bool.and_eq_true,Bool.not_eq_true',not_and,Bool.not_eq_true] at this;cases hb:Nat.beq (Fp P ops k) 2 with
     |true=>exact Nat.eq_of_beq_eq_true hb
     |false=>have:=this hb;rw [rdyB_spec.2 hrd] at this;cases this
    cases ho:ops[k]? with
    |some o=>
     simp only [ho] at h;have hom:o∈ops:=Array.mem_of_getElem? ho;have hkd:Dc P ops k=opk P o.op:=by simp [Dc,ho]
     have hk0:=AEH hk2;rw [hkd] at hk0;unfold ALb Qd at h;cases hop:BQ P ω (OI pn e) (e.ev n) o.op with
     |pure r=>
      rw [hop] at h;simp only [chk,Option.isSome_some,Bool.not_true,Bool.false_or] at h;split at h
      ·rename_i hz
       exact absurd (Nat.eq_of_beq_eq_true hz) hk0
      ·exact h.elim
     |read R=>
      rw [hop] at h;obtain ⟨v,hR,hK⟩:=h;unfold CX;simp only [ho,hw k o ho,if_true];unfold wpR;rw [LP hr hop hs hR];refine JS (K:=fun v' I0 L0=>v'=v∧kp (some S) (nd k) (fun v=>vcG P ω pn S nd (Fp P ops) rc n ops f (l.erase k) (e.upd o.dst v) K) v I0 L0) (Pn:=fun _ _ _=>False) (fun v' w' I0 L0 hs0 hgg=>?_) (fun _ _ _ _ _ hp=>hp.elim) (show YZ P ω _ _ (.ok (.value v) w) from ⟨I,L,hs,rfl,hK⟩);obtain ⟨rfl,hk'⟩:=hgg;simp only [kp] at hk';split at hk'
      ·exact ⟨fun _=>⟨I0,L0,hs0,hk'.1⟩,JR hI hg f _ _ _ w' I0 L0 (hI _ o _ hom hv) (hr.put _ _) hs0 (hlt' k) hk'.2⟩
      ·rename_i hn
       exact ⟨fun h=>absurd h hn,JR hI hg f _ _ _ w' I0 L0 (hI _ o _ hom hv) (hr.put _ _) hs0 (hlt' k) hk'⟩
     |eff E=>
      rw [hop] at h;simp only [chk,Option.isSome_some,Bool.not_true,Bool.false_or] at h;split at h
      case isFalse=>exact h.elim
      unfold CX;simp only [ho,hw k o ho,if_true];unfold wpR;refine JS (fun v w' I0 L0 hs0 hgg=>?_) (fun v w' I0 L0 hs0 hp=>⟨e,v,I0,L0,hr.defers,rfl,hs0,hp⟩) (RY hr hop hs h);obtain ⟨I',L',hs',hk'⟩:=Na hs0 hgg;simp only [kp] at hk';split at hk'
      ·exact ⟨fun _=>⟨I',L',hs',hk'.1⟩,JR hI hg f _ _ _ w' I' L' (hI _ o _ hom hv) (hr.put _ _) hs' (hlt' k) hk'.2⟩
      ·rename_i hn
       exact ⟨fun h=>absurd h hn,JR hI hg f _ _ _ w' I' L' (hI _ o _ hom hv) (hr.put _ _) hs' (hlt' k) hk'⟩
     |no=>rw [hop] at h;exact h.elim
    |none=>simp only [ho] at h;exact h.elim
theorem AHC {ops:Array Oper}(hdep:∀i o,ops[i]? =some o→∀e∈o.after,Region.binds .any e=true→e.on < i):∀(f i j:Nat),reach ops f i j=true→j < i
 |0,_,_,h=>by simp [reach] at h
 |f+1,i,j,h=>by
  simp only [reach] at h;cases ho:ops[i]? with
  |none=>rw [ho] at h;simp at h
  |some o=>
   rw [ho] at h;simp only at h
   obtain ⟨e,he,hb⟩:=Array.any_eq_true'.1 h;simp only [Bool.and_eq_true,Bool.or_eq_true] at hb;have hlt:=hdep i o ho e he hb.1;rcases hb.2 with hb|hb
   ·have:=Nat.eq_of_beq_eq_true hb;omega
   ·have:=hb.1;simp [Nat.blt_eq] at this;omega
theorem Ja {ops:Array Oper}{listed:Array Bool}(hdc:∀k,listed.getD k false=true→∀o,ops[k]? =some o→∀e∈o.after,Region.binds .any e=true→listed.getD e.on false=true):
  ∀(f i j:Nat),(∀o,ops[i]? =some o→∀e∈o.after,Region.binds .any e=true→listed.getD e.on false=true)→reach ops f i j=true→listed.getD j false=true
 |0,_,_,_,h=>by simp [reach] at h
 |f+1,i,j,hi,h=>by
  simp only [reach] at h;cases ho:ops[i]? with
  |none=>rw [ho] at h;simp at h
  |some o=>
   rw [ho] at h;simp only at h
   obtain ⟨e,he,hb⟩:=Array.any_eq_true'.1 h;simp only [Bool.and_eq_true,Bool.or_eq_true] at hb;have hl:=hi o ho e he hb.1;rcases hb.2 with hb|hb
   ·have:=Nat.eq_of_beq_eq_true hb;rw [←this];exact hl
   ·exact Ja hdc f e.on j (fun o' ho'=>hdc e.on hl o' ho') hb.2
theorem ADj {PQ:List PanicEntry→List Deferred→World→Prop}{ops:Array Oper}(h:VZ P ops=true)(hpan:(∀c ds w,¬PQ c ds w)∨AOK P ops=true):SerOk PQ ops (Dc P ops) (Zx P ops) (fun i j=>reach ops ops.size i j):=by
 unfold VZ at h;simp only [Bool.and_eq_true,List.all_eq_true,List.mem_range] at h;obtain ⟨hsel,hall⟩:=h;have hdep:∀i o,ops[i]? =some o→∀e∈o.after,Region.binds .any e=true→e.on < i:=by
  intro i o ho e he hb;have:=hall i (Array.getElem?_eq_some_iff.1 ho).1;rw [ho] at this;simp only [Bool.and_eq_true,Array.all_eq_true_iff_forall_mem] at this;have h1:=this.1 e he;rw [hb] at h1;simpa [Nat.blt_eq] using h1
 refine ⟨hpan.imp id (fun hp i j hji hi hk hk2=>?_),Region.noSelect_spec hsel,hdep,fun i j oi oj hji hi hj=>?_,fun i j hr=>AHC hdep _ _ _ hr,fun i j hi hj hk hne hr=>?_⟩
 ·unfold AOK at hp;simp only [List.all_eq_true,List.mem_range,Bool.or_eq_true,Bool.not_eq_true'] at hp;rcases hp i hi j hji with (h1|h1)|h1
  ·exact absurd (Nat.eq_of_beq_eq_true h1) hk
  ·rw [hk2] at h1;simp at h1
  ·exact h1
 ·have:=hall i (Array.getElem?_eq_some_iff.1 hi).1;rw [hi] at this;simp only [Bool.and_eq_true,List.all_eq_true,List.mem_range] at this;have h1:=this.2 j hji;rw [hj] at h1;simp only [Bool.or_eq_true,Bool.and_eq_true] at h1;rcases h1 with h1|h1
  ·exact .inl h1
  ·refine .inr ⟨h1.1.1,h1.1.2,?_⟩;rintro ⟨k1,k2⟩;simp only [Dc,hi] at k1;simp only [Dc,hj] at k2;rw [k1,k2] at h1;simp at h1
 ·unfold Zx;simp only [List.any_eq_true,List.mem_range,Bool.and_eq_true,Bool.not_eq_true'];refine ⟨j,hj,⟨by rw [hk];rfl,?_⟩,hr⟩;cases hb:Nat.beq i j with
  |false=>rfl
  |true=>exact absurd (Nat.eq_of_beq_eq_true hb) hne
theorem AOZ {ops:Array Oper}(h:AOa ops=true):SerGOk ops (Fp P ops) (AHb P ops) (fun i j=>reach ops ops.size i j)∧∀(i:Nat) o,ops[i]? =some o→o.guard=none:=by
 unfold AOa at h;simp only [Bool.and_eq_true,List.all_eq_true,List.mem_range] at h;obtain ⟨hsel,hall⟩:=h;have hdep:∀i o,ops[i]? =some o→∀e∈o.after,Region.binds .any e=true→e.on < i:=by
  intro i o ho e he hb;have:=hall i (Array.getElem?_eq_some_iff.1 ho).1;rw [ho] at this;simp only [Bool.and_eq_true,Array.all_eq_true_iff_forall_mem] at this;have h1:=this.1.2 e he;rw [hb] at h1;simpa [Nat.blt_eq] using h1
 refine ⟨⟨Region.noSelect_spec hsel,hdep,fun i j oi oj hji hi hj=>?_,fun i j hi hj hk hne hr=>?_⟩,fun i o ho=>?_⟩
 ·have:=hall i (Array.getElem?_eq_some_iff.1 hi).1;rw [hi] at this;simp only [Bool.and_eq_true,List.all_eq_true,List.mem_range] at this;have h1:=this.2 j hji;rw [hj] at h1;simp only [Bool.or_eq_true,Bool.and_eq_true] at h1;exact h1
 ·unfold AHb;simp only [List.any_eq_true,List.mem_range,Bool.and_eq_true,Bool.not_eq_true'];refine ⟨j,hj,⟨by rw [hk];rfl,?_⟩,hr⟩;cases hb:Nat.beq i j with
  |false=>rfl
  |true=>exact absurd (Nat.eq_of_beq_eq_true hb) hne
 ·have:=hall i (Array.getElem?_eq_some_iff.1 ho).1;rw [ho] at this;simp only [Bool.and_eq_true] at this;simpa using this.1.1
theorem XN {r:Option Nat}{m:Nat}{pn:Pnf}{ops:Array Oper}{K:Env→M}{Q:Exit→Act→World→Prop}{id:Nat}{e:Env}{a:Act}{w:World}{I:Imm}{L:LH}(hm:P.follows .mixedOrders=true)
  {Iv Jv:Act→Prop} (hd:∀o∈ops,okD r o) (hI:∀a o v,o∈ops→Iv a→Iv (a.put o.dst v)) (hJ:∀a o v ds,o∈ops→Jv a→Jv (({a with defers:=ds}:Act).put o.dst v)) (hv:Iv a) (hj:Jv a) (hQ:∀a w e I L,Iv a→Rep n a e→St ω w I L→K e I L→Q .normal a w) (hP:ADB ω pn Jv Q) (hr:Rep n a e) (hs:St ω w I L) (h:Yi P ω pn n ops e K I L):
  (Code.region id ops true).wpIn (Fr r) m P Q a w:=by
 have hQP:∀c a w,Jv a→PP ω pn c a.defers w→Q (.panic c) a w:=fun c a w hj ⟨e,v,I,L,h1,h2,h3,h4⟩=>by
  subst h2;exact hP a e w v I L hj h1 h3 h4
 unfold Yi at h;split at h
 ·rename_i hser
  obtain ⟨S,hS,h⟩:=h;simp only [Bool.and_eq_true,Bool.or_eq_true] at hser;have ok:=ADj (P:=P) (PQ:=PP ω pn) hser.1 (hser.2.imp (fun h=>by
   cases pn with
   |none=>exact fun _ _ _=>PP.none
   |some _=>cases h) (fun h=>h))
  refine RF hm hd ?_;have hs':St ω {w with drawn:=w.drawn+1} I L:=hs.drew (Nat.le_succ _);have hser':=EH hI ops.toList 0 [] e a _ I L (fun k=>by simp) hv hr (MdOk.none _ _) hs' h;refine ACF ok (Sw:=ALX ω S) (Fin:=ADH ω n Iv K) (fun a w ⟨h0,e,I,L,h1,h2,h3⟩=>hQ a w e I L h0 h1 h2 h3) hJ hQP ?_ ops.size (Array.replicate ops.size false) (List.range ops.size) a _ hj (by simp) (by simp)
   List.pairwise_lt_range (fun i=>?_) (fun k hk=>?_) (fun _=>⟨I,L,hs',hS⟩) ?_
  ·intro listed i hdc hi j hr;obtain ⟨_,o,ho,hdeps⟩:=mem_ready.1 hi;exact Ja hdc _ i j (fun o' ho'=>by rw [ho] at ho';simp only [Option.some.injEq] at ho';subst ho';exact hdeps) hr
  ·rw [List.mem_range];constructor
   ·intro hi;exact ⟨hi,by simp [hi]⟩
   ·exact fun h=>h.1
  ·exfalso
   by_cases hk':k < ops.size
   ·simp [hk'] at hk
   ·simp [hk'] at hk
  ·rw [List.range_eq_range'];simpa using hser'
 ·split at h
  ·rename_i hgen
   obtain ⟨S,hS,h⟩:=h;obtain ⟨ok,hg⟩:=AOZ (P:=P) hgen;refine RF hm hd ?_;have hs':St ω {w with drawn:=w.drawn+1} I L:=hs.drew (Nat.le_succ _);have hser':=JR hI hg ops.size (List.range ops.size) e a _ I L hv hr hs' (fun i hi=>List.mem_range.1 hi) h;refine XF ok (Sw:=ALX ω S) (Fin:=ADH ω n Iv K) (fun a w ⟨h0,e,I,L,h1,h2,h3⟩=>hQ a w e I L h0 h1 h2 h3) hJ hQP ?_ ops.size (Array.replicate ops.size false) (List.range ops.size) a _ hj (by simp) (by simp)
    List.pairwise_lt_range (fun i=>?_) (fun k hk=>?_) (fun _=>⟨I,L,hs',hS⟩) hser'
   ·intro listed i hdc hi j hr;obtain ⟨_,o,ho,hdeps⟩:=mem_ready.1 hi;exact Ja hdc _ i j (fun o' ho'=>by rw [ho] at ho';simp only [Option.some.injEq] at ho';subst ho';exact hdeps) hr
   ·rw [List.mem_range];constructor
    ·intro hi;exact ⟨hi,by simp [hi]⟩
    ·exact fun h=>h.1
   ·exfalso
    by_cases hk':k < ops.size
    ·simp [hk'] at hk
    ·simp [hk'] at hk
  ·exact h.elim
def PnX:Pnx→Env→Value→M
 |none,_,_=>F
 |some p,e,v=>p e v
def PX (ω:Om)(n:Nat)(pn:Pnx)(c:List PanicEntry)(a:Act)(w:World):Prop:=∃e v I L,Rep n a e∧c=[{v,recovered:=false}]∧St ω w I L∧PnX pn e v I L
theorem PX.none {c:List PanicEntry}{a:Act}{w:World}:¬PX ω n none c a w:=fun ⟨_,_,_,_,_,_,_,h⟩=>h
def ATi (ω:Om)(n:Nat)(pn:Pnx)(K:Env→M)(X:Nat→Env→M)(R:Env→M)(S:Act→Prop):Exit→Act→World→Prop
 | .normal,a,w=>S a∧∃e I L,Rep n a e∧St ω w I L∧K e I L
 | .exit id,a,w=>S a∧∃e I L,Rep n a e∧St ω w I L∧X id e I L
 | .ret,a,w=>S a∧∃e I L,Rep n a e∧St ω w I L∧R e I L
 | .panic c,a,w=>PX ω n pn c a w
 |_,_,_=>False
structure Same (l:List Nat)(pl:Bool)(a a':Act):Prop where
 tm:∀t,LY t l=false→a'.tmps.getD t undef=a.tmps.getD t undef
 df:pl=true→a'.defers=a.defers
theorem memB_mem {t:Nat}:∀{l:List Nat},LY t l=true↔t∈l
 |[]=>by simp [LY]
 |x::xs=>by
  simp only [LY,Bool.or_eq_true,List.mem_cons,memB_mem (l:=xs)];constructor
  ·rintro (h|h)
   ·exact .inl (Nat.eq_of_beq_eq_true h)
   ·exact .inr h
  ·rintro (h|h)
   ·subst h;exact .inl (Nat.beq_refl _)
   ·exact .inr h
theorem OU {n:Nat}{a:Act}{e:Env}(hr:Rep n a e):∀(ss:List Nat) (s:Tup ss),AAI e ss=some s→∀(e0:Env),Rep n a e0→a.defers=dfs e0.df→Rep n a (AGV e0 ss s)
 |[],_,_,e0,h0,_=>h0
 |t::ss,s,h,e0,h0,hd0=>by
  simp only [AAI] at h;split at h
  ·cases h
  ·rename_i v hv
   split at h
   ·cases h
   ·rename_i r hrr
    injection h with h'
    subst h';have ih:=OU hr ss r hrr e0 h0 hd0;refine ⟨ih.size,ih.defers,fun t' v' ht' hv'=>?_⟩;simp only [AGV,Env.upd] at hv';split at hv'
    ·rename_i hb
     have:=Nat.eq_of_beq_eq_true hb;subst this;simp only [Option.some.injEq] at hv';subst hv';exact hr.at' t' _ ht' hv
    ·exact ih.at' t' v' ht' hv'
theorem Rep.weaken {n:Nat}{a:Act}{e e':Env}(h:Rep n a e)(hle:∀t v,e'.t t=some v→e.t t=some v)(hd:e'.df=e.df):Rep n a e':=
 ⟨h.size,by rw [hd];exact h.defers,fun t v ht hv=>h.at' t v ht (hle t v hv)⟩
theorem AOh (e:Env)(l:List Nat):∀t v,(clr e l).t t=some v→e.t t=some v:=by
 intro t v h;unfold clr at h;simp only at h
 split at h
 ·cases h
 ·exact h
theorem Same.refl (l:List Nat)(pl:Bool)(a:Act):Same l pl a a:=⟨fun _ _=>rfl,fun _=>rfl⟩
theorem Ol {t:Nat}{l l':List Nat}:LY t (l++l')=false→LY t l=false∧LY t l'=false:=by
 intro h;constructor
 ·cases hb:LY t l with
  |false=>rfl
  |true=>rw [memB_mem.2 (List.mem_append_left _ (memB_mem.1 hb))] at h;cases h
 ·cases hb:LY t l' with
  |false=>rfl
  |true=>rw [memB_mem.2 (List.mem_append_right _ (memB_mem.1 hb))] at h;cases h
theorem Same.trans {l:List Nat}{pl:Bool}{a b c:Act}(h:Same l pl a b)(h':Same l pl b c):Same l pl a c:=⟨fun t ht=>(h'.tm t ht).trans (h.tm t ht),fun hp=>(h'.df hp).trans (h.df hp)⟩
theorem Same.left {l l':List Nat}{p p':Bool}{a b:Act}(h:Same l p a b):Same (l++l') (p&&p') a b:=⟨fun t ht=>h.tm t (Ol ht).1,fun hp=>h.df (by simp at hp;exact hp.1)⟩
theorem Same.right {l l':List Nat}{p p':Bool}{a b:Act}(h:Same l' p' a b):Same (l++l') (p&&p') a b:=⟨fun t ht=>h.tm t (Ol ht).2,fun hp=>h.df (by simp at hp;exact hp.2)⟩
theorem Same.any {l:List Nat}{p:Bool}{a b:Act}(h:Same l true a b):Same l p a b:=⟨h.tm,fun _=>h.df rfl⟩
theorem AGZ {l:List Nat}{pl:Bool}{a b:Act}(h:Same l pl a b){d:Option Tmp}{v:Value}(hd:∀t,d=some t→LY t l=true):Same l pl a (b.put d v):=by
 refine ⟨fun t ht=>?_,fun hp=>?_⟩
 ·cases d with
  |none=>exact h.tm t ht
  |some d=>
   have hne:d≠t:=fun e=>by subst e;rw [hd d rfl] at ht;cases ht
   rw [←h.tm t ht];simp only [Act.put,Array.getD_eq_getD_getElem?];rw [Array.getElem?_setIfInBounds_ne hne]
 ·cases d with
  |none=>exact h.df hp
  |some d=>exact h.df hp
theorem Ro:∀(l:List Oper) (o:Oper) (t:Nat),o∈l→o.dst=some t→LY t (Gv l)=true
 |[],_,_,h,_=>by cases h
 |x::l,o,t,h,hd=>by
  simp only [Gv];rcases List.mem_cons.1 h with h|h
  ·subst h;rw [hd];simp only [LY,Nat.beq_refl,Bool.true_or]
  ·have:=Ro l o t h hd;split
   ·simp only [LY,this,Bool.or_true]
   ·exact this
theorem AGU {n:Nat}{l:List Nat}{e:Env}{a a':Act}(hr:Rep n a e)(hsz:a'.tmps.size=n)(hs:Same l true a a'):Rep n a' (clr e l):=by
 refine ⟨hsz,(hs.df rfl).trans hr.defers,fun t v ht hv=>?_⟩;unfold clr at hv;simp only at hv
 split at hv
 ·cases hv
 ·rename_i hm
  rw [hs.tm t (by simpa using hm)];exact hr.at' t v ht hv
theorem AAE {F:Fence}{rm:Nat}{Q:Exit→Act→World→Prop}{a:Act}{w:World}{c:Code}(I:Nat→Act→World→Prop)(n₀:Nat)(h₀:I n₀ a w)
  (round:∀n a w,I n a w→c.wpIn F rm P (Exit.then (fun a' w'=>∃n',n' < n∧I n' a' w') Q) a w):(Code.loop c).wpIn F rm P Q a w:=by
 refine wpIn_loop (fun a w=>∃n,I n a w) (fun a w=>leastOf (fun n=>I n a w)) ⟨n₀,h₀⟩ ?_;intro a w hI;refine wpIn_mono (round _ a w (leastOf_spec hI).1) ?_;intro e a' w' hq;cases e with
 |normal=>
  obtain ⟨n',hlt,hI'⟩:=hq;exact show (∃n,I n a' w')∧leastOf (fun n=>I n a' w') < leastOf (fun n=>I n a w) from ⟨⟨n',hI'⟩,Nat.lt_of_le_of_lt ((leastOf_spec ⟨n',hI'⟩).2 n' hI') hlt⟩
 |exit id=>exact hq
 |goto l=>exact hq
 |ret=>exact hq
 |panic ch=>exact hq
 |outgrown=>exact hq
theorem Ir:∀{l:List Oper},Gl l=true→∀o∈l,∀c,o.op≠.defer c
 |[],_,o,h,_=>by cases h
 |x::l,hp,o,h,c=>by
  simp only [Gl,Bool.and_eq_true] at hp;rcases List.mem_cons.1 h with rfl|h
  ·intro e;rw [e] at hp;simp at hp
  ·exact Ir hp.2 o h c
theorem AHX {r:Option Nat}{ops:Array Oper}(h:r=none∨Gl ops.toList=true):∀o∈ops,okD r o:=fun o ho=>h.imp id fun h=>Ir h o (Array.mem_toList_iff.2 ho)
def AKb:Env→List Tmp→List Value→Env
 |e,p::ps,v::vs=>AKb (e.upd (some p) v) ps vs
 |e,_,_=>e
theorem XM:∀{ps:List Tmp} {vs:List Value} {a:Act} {e:Env},Rep n a e→Rep n {tmps:=(ps.zip vs).foldl (fun t (p,v)=>t.setIfInBounds p v) a.tmps,defers:=[]} ((AKb e ps vs).df' [])
 |[],vs,a,e,h=>by
  refine ⟨h.size,rfl,fun t v ht hv=>?_⟩;cases vs <;> exact h.at' t v ht hv
 |p::ps,[],a,e,h=>⟨h.size,rfl,fun t v ht hv=>h.at' t v ht hv⟩
 |p::ps,v::vs,a,e,h=>XM (a:=a.put (some p) v) (e:=e.upd (some p) v) (h.put (some p) v)
theorem ACy {I:Imm}{L:LH}{id:Nat}:∀{l:List (Nat×M)},asL l id I L→∃A,(id,A)∈l∧A I L
 |[],h=>h.elim
 |(i,A)::r,h=>by
  simp only [asL] at h;split at h
  ·rename_i hb
   have:=Nat.eq_of_beq_eq_true hb;subst this;exact ⟨A,List.mem_cons_self ..,h⟩
  ·obtain ⟨B,h1,h2⟩:=ACy h;exact ⟨B,List.mem_cons_of_mem _ h1,h2⟩
theorem Vx {f:FuncId}(he:CG P f=true)(args:Array Value)(w:World):(callFunc f args).run P w= .ok (.enter f args) w:=by
 unfold CG at he;split at he
 ·rename_i fn hf
  simp only [Bool.and_eq_true,bne_iff_ne,ne_eq] at he;have hn : (fn.name == "runtime.NumGoroutine") = false := by simpa using he.1
  have hb:fn.body.isNone=false:=by
   cases hb:fn.body with
   |none=>simp [hb] at he
   |some _=>rfl
  simp only [callFunc,Sem.run_bind,run_program,Result.andThen_ok,hf,hn,hb,Bool.false_eq_true,if_false,Sem.run_pure]
 ·cases he
theorem Qb (hm:P.follows .mixedOrders=true):∀(c:Code) (r:Option Nat) (m:Nat) (pn:Pnx) (K:Env→M) (X:Nat→Env→M) (R:Env→M) (e:Env) (a:Act) (w:World) (I:Imm) (L:LH),
  (r=none∨CZ c=true)→Rep n a e→St ω w I L→vc P ω pn n c K X R e I L→c.wpIn (Fr r) m P (ATi ω n pn K X R (Same (asg c) (CZ c) a)) a w:=by
 intro c;induction c with
 |skip=>exact fun r m pn K X R e a w I L hpl hr hs h=>wpIn_skip ⟨Same.refl _ _ _,e,I,L,hr,hs,h⟩
 |label l=>exact fun r m pn K X R e a w I L hpl hr hs h=>wpIn_label ⟨Same.refl _ _ _,e,I,L,hr,hs,h⟩
 |region id ops draw=>
  intro r m pn K X R e a w I L hpl hr hs h;have hI:∀pl a' o v,o∈ops→Same (Gv ops.toList) pl a a'→Same (Gv ops.toList) pl a (a'.put o.dst v):=
   fun pl a' o v ho hsm=>AGZ hsm fun t ht=>Ro ops.toList o t (Array.mem_toList_iff.2 ho) ht
  have hsz:∀(a':Act) (o:Oper) (v:Value) (ds:List Deferred),(({a' with defers:=ds}:Act).put o.dst v).tmps.size=a'.tmps.size:=fun a' o v ds=>by cases hd:o.dst <;> simp [Act.put]
  have hsz':∀(a':Act) (o:Oper) (v:Value),(a'.put o.dst v).tmps.size=a'.tmps.size:=fun a' o v=>hsz a' o v a'.defers;have hP:ADB ω (pnR pn e ops) (fun a'=>Same (Gv ops.toList) false a a'∧a'.tmps.size=a.tmps.size) (ATi ω n pn K X R (Same (asg (.region id ops draw)) (CZ (.region id ops draw)) a)):=fun a' e1 w v I L hj hd hs hp=>by
   cases pn with
   |none=>exact hp.elim
   |some p=>
    refine ⟨⟨(clr e (Gv ops.toList)).t,e1.df⟩,v,I,L,⟨hj.2.trans hr.size,hd,fun t u ht hu=>?_⟩,rfl,hs,hp⟩;unfold clr at hu;simp only at hu
    split at hu
    ·cases hu
    ·rename_i hmm
     rw [hj.1.tm t (by simpa using hmm)];exact hr.at' t u ht hu
  cases draw with
  |false=>
   refine ZO (Iv:=fun a'=>Same (Gv ops.toList) (Gl ops.toList) a a'∧a'.tmps.size=a.tmps.size) (AHX hpl) (fun a' o v ho h=>⟨hI _ a' o v ho h.1,(hsz' a' o v).trans h.2⟩) (fun a' o ds ho hdo h=>?_) ⟨Same.refl _ _ _,rfl⟩ (fun a w e I L hv hr hs hk=>⟨hv.1,e,I,L,hr,hs,hk⟩)
    (fun a' h=>⟨⟨h.1.tm,fun h=>by cases h⟩,h.2⟩) hP hr hs h
   have hpf:Gl ops.toList=false:=by
    cases hb:Gl ops.toList with
    |false=>rfl
    |true=>obtain ⟨c,hc⟩:=hdo;exact absurd hc (Ir hb o (Array.mem_toList_iff.2 ho) c)
   refine ⟨⟨fun t ht=>?_,fun h=>by rw [hpf] at h;cases h⟩,(hsz a' o undef ds).trans h.2⟩;have:=(hI _ a' o undef ho h.1).tm t ht;cases hd:o.dst <;> simp only [hd,Act.put] at this ⊢ <;> exact this
  |true=>
   refine XN (Iv:=Same (Gv ops.toList) true a) hm (AHX hpl) (hI true) (fun a' o v ds ho h=>⟨⟨fun t ht=>?_,fun h=>by cases h⟩,(hsz a' o v ds).trans h.2⟩) (Same.refl _ _ _) ⟨⟨fun _ _=>rfl,fun h=>by cases h⟩,rfl⟩ (fun a w e I L hv hr hs hk=>⟨hv.any,e,I,L,hr,hs,hk⟩) hP hr hs h;have:=(hI _ a' o v ho h.1).tm t ht;cases hd:o.dst <;> simp only [hd,Act.put] at this ⊢ <;> exact this
 |seq x y ihx ihy=>
  intro r m pn K X R e a w I L hpl hr hs h;have hpl':(r=none∨CZ x=true)∧(r=none∨CZ y=true):=by
   rcases hpl with h|h
   ·exact ⟨.inl h,.inl h⟩
   ·simp only [CZ,Bool.and_eq_true] at h;exact ⟨.inr h.1,.inr h.2⟩
  refine wpIn_seq (wpIn_mono (ihx r m pn _ X R e a w I L hpl'.1 hr hs h) ?_);rintro ex a1 w1 hp;cases ex with
  |normal=>
   obtain ⟨hsm,e1,I1,L1,hr1,hs1,h1⟩:=hp;refine wpIn_mono (ihy r m pn K X R e1 a1 w1 I1 L1 hpl'.2 hr1 hs1 h1) ?_;rintro ex2 a2 w2 hp2;cases ex2 with
   |normal=>exact ⟨hsm.left.trans hp2.1.right,hp2.2⟩
   |exit id=>exact ⟨hsm.left.trans hp2.1.right,hp2.2⟩
   |ret=>exact ⟨hsm.left.trans hp2.1.right,hp2.2⟩
   |panic ch=>exact hp2
   |goto l=>exact hp2.elim
   |outgrown=>exact hp2.elim
  |exit id=>exact ⟨hp.1.left,hp.2⟩
  |ret=>exact ⟨hp.1.left,hp.2⟩
  |panic ch=>exact hp
  |goto l=>exact hp.elim
  |outgrown=>exact hp.elim
 |cond c x y ihx ihy=>
  intro r m pn K X R e a w I L hpl hr hs h;have hpl':(r=none∨CZ x=true)∧(r=none∨CZ y=true):=by
   rcases hpl with h|h
   ·exact ⟨.inl h,.inl h⟩
   ·simp only [CZ,Bool.and_eq_true] at h;exact ⟨.inr h.1,.inr h.2⟩
  simp only [vc] at h;cases hv:e.ev n c with
  |none=>rw [hv] at h;exact h.elim
  |some v=>
   rw [hv] at h;simp only at h
   cases v with
   |bool b=>
    refine wpIn_cond (t:=b) (hr.ev hv) ?_;cases b with
    |true=>
     refine wpIn_mono (ihx r m pn K X R e a w I L hpl'.1 hr hs h) ?_;rintro ex a2 w2 hp2;cases ex with
     |normal=>exact ⟨hp2.1.left,hp2.2⟩
     |exit id=>exact ⟨hp2.1.left,hp2.2⟩
     |ret=>exact ⟨hp2.1.left,hp2.2⟩
     |panic ch=>exact hp2
     |goto l=>exact hp2.elim
     |outgrown=>exact hp2.elim
    |false=>
     refine wpIn_mono (ihy r m pn K X R e a w I L hpl'.2 hr hs h) ?_;rintro ex a2 w2 hp2;cases ex with
     |normal=>exact ⟨hp2.1.right,hp2.2⟩
     |exit id=>exact ⟨hp2.1.right,hp2.2⟩
     |ret=>exact ⟨hp2.1.right,hp2.2⟩
     |panic ch=>exact hp2
     |goto l=>exact hp2.elim
     |outgrown=>exact hp2.elim
   |_=>exact h.elim
 |block id c ih=>
  intro r m pn K X R e a w I L hpl hr hs h;refine wpIn_block (wpIn_mono (ih r m pn K _ R e a w I L hpl hr hs h) ?_);rintro ex a1 w1 hp;cases ex with
  |normal=>exact hp
  |exit id'=>
   obtain ⟨hsm,e1,I1,L1,hr1,hs1,h1⟩:=hp;simp only [Exit.inBlock];by_cases hid:id'=id
   ·subst hid;simp only [Nat.beq_refl,if_true] at h1;rw [if_pos rfl];exact ⟨hsm,e1,I1,L1,hr1,hs1,h1⟩
   ·have hb:Nat.beq id' id=false:=by
     cases hb:Nat.beq id' id with
     |false=>rfl
     |true=>exact absurd (Nat.eq_of_beq_eq_true hb) hid
    simp only [hb,Bool.false_eq_true,if_false] at h1;rw [if_neg hid];exact ⟨hsm,e1,I1,L1,hr1,hs1,h1⟩
  |ret=>exact hp
  |panic ch=>exact hp
  |goto l=>exact hp.elim
  |outgrown=>exact hp.elim
 |loop c ih=>
  intro r m pn K X R e a w I L hpl hr hs h;simp only [vc] at h;split at h
  rotate_left
  ·exact h.elim
  rename_i hpc
  simp only [Lp] at h;cases hg:AAI e (LX n (asg c) e) with
  |none=>rw [hg] at h;exact h.elim
  |some s0=>
   rw [hg] at h;simp only [onT] at h;obtain ⟨Inv,m0,h0,hround⟩:=h;refine AAE (fun k a' w'=>Same (asg c) true a a'∧∃s I' L',Rep n a' (AGV (clr e (asg c)) (LX n (asg c) e) s)∧St ω w' I' L'∧Inv k s I' L') m0
    ⟨Same.refl _ _ _,s0,I,L,OU hr _ s0 hg _ (hr.weaken (AOh e _) rfl) hr.defers,hs,h0⟩ ?_
   rintro k a1 w1 ⟨hsm,s,I1,L1,hr1,hs1,hinv⟩;refine wpIn_mono (ih r m pn _ X R _ a1 w1 I1 L1 (.inr hpc) hr1 hs1 (hround k s I1 L1 hinv)) ?_;rintro ex a2 w2 hp;cases ex with
   |normal=>
    obtain ⟨hsm2,e2,I2,L2,hr2,hs2,h2⟩:=hp;have hsm2:Same (asg c) true a1 a2:=⟨hsm2.tm,fun _=>hsm2.df hpc⟩;cases hg2:AAI e2 (LX n (asg c) e) with
    |none=>rw [hg2] at h2;exact h2.elim
    |some s2=>
     rw [hg2] at h2;obtain ⟨I3,L3,h3,m',hlt,h2⟩:=h2 hs2.cons;exact ⟨m',hlt,hsm.trans hsm2,s2,I3,L3,OU hr2 _ s2 hg2 _ (AGU hr hr2.size (hsm.trans hsm2)) ((hsm.trans hsm2).df rfl |>.trans hr.defers),h3 ω w2 hs2,h2⟩
   |exit id=>exact ⟨(hsm.any).trans hp.1,hp.2⟩
   |ret=>exact ⟨(hsm.any).trans hp.1,hp.2⟩
   |panic ch=>exact hp
   |goto l=>exact hp.elim
   |outgrown=>exact hp.elim
 |exit id=>exact fun r m pn K X R e a w I L hpl hr hs h=>wpIn_exit ⟨Same.refl _ _ _,e,I,L,hr,hs,h⟩
 |ret=>exact fun r m pn K X R e a w I L hpl hr hs h=>wpIn_ret ⟨Same.refl _ _ _,e,I,L,hr,hs,h⟩
 |scope c ih=>
  intro r m pn K X R e a w I L hpl hr hs h;refine Yh (ih r m pn K X R e a w I L hpl hr hs h) ?_;intro l a1 w1 hp;exact hp.elim
 |goto l=>exact fun r m pn K X R e a w I L hpl hr hs h=>h.elim
 |refuse s=>exact fun r m pn K X R e a w I L hpl hr hs h=>h.elim
 |rangeFunc f ps x y ihx ihy=>
  intro r m pn K X R e a w I L hpl hr hs h;obtain rfl:r=none:=hpl.resolve_right (by simp [CZ]);simp only [vc] at h;cases hv:e.ev n f with
  |none=>rw [hv] at h;exact h.elim
  |some fv=>
   rw [hv] at h;simp only at h
   split at h
   rotate_left
   ·exact h.elim
   rename_i hp
   simp only [Bool.and_eq_true] at hp;have hB:∃B:List Value→RB,AJY P ω fv ps.size B (fun D=>K (e.df' (.col D::e.df))) (fun D=>(Nc y).map fun id=>(id,X id (e.df' (.col D::e.df)))) (fun D=>R (e.df' (.col D::e.df))) I L∧
     ∀vs,vs.length=ps.size→∀Bg Nk Xk Rk,B vs Bg Nk Xk Rk=vc P ω none n x (fun e2=>Bg (vc P ω none n y (fun _=>Nk) (fun id _=>Xk id) (fun _=>Rk) e2)) (fun _ _=>F) (fun _=>F) ((AKb e ps.toList vs).df' []):=by
    rcases hps:ps.toList with _|⟨p,_|⟨q,_|⟨z,rest⟩⟩⟩
    ·rw [hps] at h;have hsz:ps.size=0:=by rw [←Array.length_toList,hps];rfl
     rw [hsz];refine ⟨_,h,fun vs hl=>?_⟩;obtain rfl:=List.eq_nil_of_length_eq_zero hl;intro _ _ _ _;rfl
    ·rw [hps] at h;have hsz:ps.size=1:=by rw [←Array.length_toList,hps];rfl
     rw [hsz];refine ⟨_,h,fun vs hl=>?_⟩;match vs,hl with
     |[v],_=>intro _ _ _ _;rfl
    ·rw [hps] at h;have hsz:ps.size=2:=by rw [←Array.length_toList,hps];rfl
     rw [hsz];refine ⟨_,h,fun vs hl=>?_⟩;match vs,hl with
     |[v,u],_=>intro _ _ _ _;rfl
    ·rw [hps] at h;exact h.elim
   clear h;obtain ⟨B,h,hB⟩:=hB;unfold AJY at h;split at h
   rotate_left
   ·exact h.elim
   rename_i g first cap
   split at h
   rotate_left
   ·exact h.elim
   rename_i hent
   have hev:=hr.ev hv;refine wpIn_rangeFunc ?_;intro fn _;obtain ⟨rec,hrec⟩:∃rec:LoopState→Option Code→Loop,rec=fun s j=>{state:=s,pending:=j,fn,tmps:=a.tmps,params:=ps,assign:=x,body:=y,defers:=w.heap.size}:=⟨_,rfl⟩;have hinj:∀s j s' j',Obj.loop (rec s j)=Obj.loop (rec s' j')→s=s'∧j=j':=by
    intro s j s' j' h;rw [hrec] at h;simp only [Obj.loop.injEq,Loop.mk.injEq] at h;exact ⟨h.1,h.2.1⟩
   have hput:∀{w':World} {I':Imm} {L1 L2:LH} {o o':Obj},St ω w' I' (L1++(w.heap.size+1,o)::L2)→St ω (w'.putObj (w.heap.size+1) o') I' (L1++(w.heap.size+1,o')::L2):=fun h=>IE h;have hcall:=h (w.heap.size+1) w.heap.size (fun s j=>.loop (rec s j)) hinj (by
    intro vs K' I' L' hlen hY;show AQw P ω (w.heap.size+1) (#[]++vs.toArray) K' I' L';rw [Array.empty_append];intro w' hs';obtain ⟨⟨L1,L2,hL⟩,hY⟩:=hY;have hb:w'.heap[w.heap.size+1]? =some (.loop (rec .ready none)):=hs'.own _ _ (by rw [hL];simp);refine ⟨_,_,_,_,run_yield hb (by rw [hrec];simpa using hlen),?_⟩;rw [hB vs hlen] at hY;have hrep:Rep n {tmps:=(Array.zip ps vs.toArray).foldl (fun t (p,v)=>t.setIfInBounds p v) a.tmps,defers:=[]} ((AKb e ps.toList vs).df' []):=by
     have:=XM (ps:=ps.toList) (vs:=vs) hr;rw [←Array.foldl_toList,Array.toList_zip];exact this
    have e1:(rec .ready none).fn=fn:=by rw [hrec]
    have e2:(rec .ready none).params=ps:=by rw [hrec]
    have e3:(rec .ready none).tmps=a.tmps:=by rw [hrec]
    have e4:(rec .ready none).assign=x:=by rw [hrec]
    have e5:(rec .ready none).body=y:=by rw [hrec]
    rw [e1,e2,e3,e4,e5];refine roundIn_of_wpIn (F:=Fence.wide) trivial ?_;refine wpIn_mono (ihx (some (w.heap.size+1)) 0 none _ _ _ _ _ w' I' L' (.inr hp.1) hrep hs' hY) ?_;rintro ex a1 w1 hq;cases ex with
    |normal=>
     obtain ⟨_,e1,I1,L1',hr1,hs1,A1,A2,rfl,hbody⟩:=hq;have hb1:w1.heap[w.heap.size+1]? =some (.loop (rec .ready none)):=hs1.own _ _ (by simp);refine ⟨_,run_beginRound hb1 (by rw [hrec]),?_⟩;have ebusy:({rec .ready none with state:=.busy}:Loop)=rec .busy none:=by rw [hrec]
     rw [ebusy];refine wpIn_mono (ihy (some (w.heap.size+1)) 0 none _ _ _ _ _ _ I1 _ (.inr hp.2) hr1 (hput hs1) hbody) ?_;have fin:∀(j:Option Code) (a2:Act) (w2:World) (e2:Env) (I2:Imm) (L2:LH),St ω w2 I2 L2→ALa (w.heap.size+1) (fun s j=>Obj.loop (rec s j)) j K' I2 L2→
       ∃v w3,(Instr.endRound (w.heap.size+1) j).run P w2= .ok v w3∧Ret ω K' (.returned v) w3:=by
      rintro j a2 w2 e2 I2 _ hs2 ⟨A1,A2,rfl,hk⟩;have hb2:w2.heap[w.heap.size+1]? =some (.loop (rec .busy none)):=hs2.own _ _ (by simp);have er:({rec .busy none with state:=if j.isNone then .ready else .done,pending:=j}:Loop)=rec (if j.isNone then .ready else .done) j:=by rw [hrec]
      refine ⟨_,_,run_endRound j hb2,_,I2,_,rfl,?_,hk⟩;rw [er];exact hput hs2
     rintro ex2 a2 w2 hq2;cases ex2 with
     |normal=>obtain ⟨_,e2,I2,L2,_,hs2,hk⟩:=hq2;exact fin none a2 w2 e2 I2 L2 hs2 hk
     |ret=>obtain ⟨_,e2,I2,L2,_,hs2,hk⟩:=hq2;exact fin (some .ret) a2 w2 e2 I2 L2 hs2 hk
     |exit id=>obtain ⟨_,e2,I2,L2,_,hs2,hk⟩:=hq2;exact fin (some (.exit id)) a2 w2 e2 I2 L2 hs2 hk
     |panic ch=>exact (PX.none hq2).elim
     |goto l=>exact hq2.elim
     |outgrown=>exact hq2.elim
    |exit id=>obtain ⟨_,_,_,_,_,_,hf⟩:=hq;exact hf.elim
    |ret=>obtain ⟨_,_,_,_,_,_,hf⟩:=hq;exact hf.elim
    |panic ch=>exact (PX.none hq).elim
    |goto l=>exact hq.elim
    |outgrown=>exact hq.elim)
   have hst:St ω ((w.alloc (.deferred (some []))).alloc (.loop (rec .ready none))) I ((w.heap.size+1,.loop (rec .ready none))::(w.heap.size,.deferred (some []))::L):=by
    have:=(hs.push (.deferred (some []))).push (.loop (rec .ready none));simp only [Array.size_push] at this;exact this
   let W1:World:=(w.alloc (.deferred (some []))).alloc (.loop {state:=.ready,pending:=none,fn,tmps:=a.tmps,params:=ps,assign:=x,body:=y,defers:=w.heap.size})
   refine ⟨w.heap.size+1,[{target:=.collected w.heap.size,args:=#[]}],W1,{target:=.fn (.func g) cap,args:=first++#[.func (.yield (w.heap.size+1)) #[] #[]]},W1,g,first++#[.func (.yield (w.heap.size+1)) #[] #[]]++cap,W1,run_enterLoop_outer fn a.tmps ps x y,?_,fun _ _=>trivial,?_,fun h=>by simp [Fr,Fence.wide] at h,?_⟩
   ·show (Deferred.ofValue (a.eval f) ((#[Operand.const (.func (.yield (w.heap.size+1)) #[] #[])]:Array Operand).map a.eval)).run P W1=_;rw [hev];simp [Deferred.ofValue,Act.eval]
   ·exact Vx hent _ _
   ·have hc:=hcall _ hst;have hrl:(Loop.mk .ready none fn a.tmps ps x y w.heap.size)=rec .ready none:=by rw [hrec]
    show CallsIn (Fr none) (m - 1) P g _ ((w.alloc (.deferred (some []))).alloc (.loop (Loop.mk .ready none fn a.tmps ps x y w.heap.size))) _;rw [hrl];refine (callsIn_wide (n:=m - 1)).2 (Calls.mono hc ?_);rintro en w3 ⟨v,I0,L0,rfl,hs0,hg⟩;obtain ⟨I3,L3,hs3f,A1,A2,s,j,hnb,rfl,hJ⟩:=hg hs0.cons;have hs3:=hs3f ω w3 hs0;have hb3:w3.heap[w.heap.size+1]? =some (.loop (rec s j)):=hs3.own _ _ (by simp);have hend:=run_endLoop (P:=P) hb3 (by rw [hrec];exact hnb);have ep:(rec s j).pending=j:=by rw [hrec]
    rw [ep] at hend;refine ⟨j,_,hend,?_⟩;have hs4:∀o':Obj,St ω (w3.putObj (w.heap.size+1) o') I3 (A1++A2):=fun o'=>
     (hput hs3).drop (List.Sublist.append_left (List.sublist_cons_self ..) _)
    have hrep:Rep n {a with defers:=[{target:=.collected w.heap.size,args:=#[]}]++a.defers} (e.df' (.col w.heap.size::e.df)):=
     ⟨hr.size,by simp only [Env.df',dfs,List.cons_append,List.nil_append,hr.defers],fun t v ht hv=>hr.at' t v ht hv⟩
    have hsame:Same (asg (.rangeFunc f ps x y)) (CZ (.rangeFunc f ps x y)) a {a with defers:=[{target:=.collected w.heap.size,args:=#[]}]++a.defers}:=⟨fun _ _=>rfl,fun h=>by simp [CZ] at h⟩;unfold ANI at hJ;split at hJ
    ·exact ⟨hsame,_,I3,_,hrep,hs4 _,hJ⟩
    ·rename_i id
     refine wpIn_exit ⟨hsame,_,I3,_,hrep,hs4 _,?_⟩;obtain ⟨A,hA,hAI⟩:=ACy hJ;obtain ⟨id',_,hid⟩:=List.mem_map.1 hA;simp only [Prod.mk.injEq] at hid;obtain ⟨rfl,rfl⟩:=hid;exact hAI
    ·exact wpIn_ret ⟨hsame,_,I3,_,hrep,hs4 _,hJ⟩
    ·exact hJ.elim
def AHB (tmps:Array Value):ResultVar→Sem Value
 | .tmp t=>pure (tmps.getD t undef)
 | .cell a t=>do loadVar t (←asAddr (tmps.getD a undef))
theorem LG {a:Act}{e:Env}(hr:Rep n a e){w:World}{I:Imm}{L:LH}(hs:St ω w I L):∀(rs:List ResultVar) (K:List Value→M),Gx P n e rs K I L→
  ∃vs,(rs.mapM (AHB a.tmps)).run P w= .ok vs w∧K vs I L
 |[],K,h=>⟨[],by simp,h⟩
 | .tmp t::rs,K,h=>by
  simp only [Gx] at h;cases hv:e.ev n (.tmp t) with
  |none=>rw [hv] at h;exact h.elim
  |some v=>
   rw [hv] at h;obtain ⟨vs,h1,h2⟩:=LG hr hs rs _ h;have hev:=hr.ev hv;simp only [Act.eval] at hev;exact ⟨v::vs,by simp only [List.mapM_cons,Sem.run_bind,Sem.run_pure,Result.andThen_ok,AHB,h1,hev],h2⟩
 | .cell t T::rs,K,h=>by
  simp only [Gx] at h;cases hv:e.ev n (.tmp t) with
  |none=>rw [hv] at h;exact h.elim
  |some x=>
   rw [hv] at h;cases ht:Bo P T with
   |none=>rw [ht] at h;exact h.elim
   |some m=>
    obtain ⟨m,by',z⟩:=m;rw [ht] at h;cases hu:P.underlying T with
    |none=>rw [hu] at h;exact h.elim
    |some d=>
     rw [hu] at h;simp only at h
     have hev:=hr.ev hv;simp only [Act.eval] at hev;split at h
     ·rename_i hag
      obtain ⟨v,hR,h⟩:=h;obtain ⟨vs,h1,h2⟩:=LG hr hs rs _ h;have hl:=Oq ht hag hs hR;obtain ⟨b,off,us,rfl,_⟩:=hR;simp only [Instr.loadAt,Instr.sureAddr,Sem.run_bind,Sem.run_pure,Result.andThen_ok] at hl;exact ⟨v::vs,by simp only [List.mapM_cons,Sem.run_bind,Sem.run_pure,Result.andThen_ok,AHB,h1,hev,asAddr,hl],h2⟩
     ·rename_i hag
      obtain ⟨v,hR,h⟩:=h;obtain ⟨vs,h1,h2⟩:=LG hr hs rs _ h;have hl:=Oo hu (by simpa using hag) hs hR;obtain ⟨b,off,rfl,_⟩:=hR;simp only [Instr.loadAt,Instr.sureAddr,Sem.run_bind,Sem.run_pure,Result.andThen_ok] at hl;exact ⟨v::vs,by simp only [List.mapM_cons,Sem.run_bind,Sem.run_pure,Result.andThen_ok,AHB,h1,hev,asAddr,hl],h2⟩
theorem CalD.leaves {f:FuncId}{args:List Value}{fn:Func}{tmps:Array Value}{R:Ending→World→Prop}{cap:List Value}{ds:List Deferred}{K:Value→M}{w:World}{I:Imm}{L:LH}
  (he:CG P f=true) (h:CalD P ω f (args++cap).toArray (gh K) I L) (hs:St ω w I L)
  (hk:∀v w' I' L',St ω w' I' L'→K v I' L'→LeavesInM Fence.wide 0 P fn tmps R ds .returning w'):
  LeavesInM Fence.wide 0 P fn tmps R ({target:=.fn (.func f) cap.toArray,args:=args.toArray}::ds) .returning w:=by
 refine ⟨by simp,.inr ⟨fun h=>by simp [Fence.wide] at h,.func f,cap.toArray,f,(args++cap).toArray,rfl,?_,fun _ _=>trivial,?_⟩⟩
 ·have:=Vx he (args++cap).toArray w;simpa [invoke] using this
 ·refine CallsDIn.mono (h w hs) ?_;rintro e u' w' ⟨rfl,v,I',L',rfl,hs',hg⟩;obtain ⟨I2,L2,hs2,hk2⟩:=Na hs' hg;exact hk v w' I2 L2 hs2 hk2
theorem CalDR.leaves {f:FuncId}{args:List Value}{fn:Func}{tmps:Array Value}{R:Ending→World→Prop}{cap:List Value}{ds:List Deferred}{K:Value→M}{w:World}{I:Imm}{L:LH}{x:Value}
  (he:CG P f=true) (h:CalDR P ω f (args++cap).toArray x (gh K) I L) (hs:St ω w I L)
  (hk:∀v w' I' L',St ω w' I' L'→K v I' L'→LeavesInM Fence.wide 0 P fn tmps R ds .returning w'):
  LeavesInM Fence.wide 0 P fn tmps R ({target:=.fn (.func f) cap.toArray,args:=args.toArray}::ds) (.panicking [{v:=x,recovered:=false}]) w:=by
 refine ⟨by simp,.inr ⟨fun h=>by simp [Fence.wide] at h,.func f,cap.toArray,f,(args++cap).toArray,rfl,?_,fun _ _=>trivial,?_⟩⟩
 ·have:=Vx he (args++cap).toArray w;simpa [invoke] using this
 ·refine CallsDIn.mono (h w hs) ?_;rintro e u' w' ⟨rfl,v,I',L',rfl,hs',hg⟩;obtain ⟨I2,L2,hs2,hk2⟩:=Na hs' hg;exact hk v w' I2 L2 hs2 hk2
theorem Jk {fn:Func}{tmps:Array Value}{R:Ending→World→Prop}{A:M}(hA:∀w I L,St ω w I L→A I L→LeavesInM Fence.wide 0 P fn tmps R [] .returning w):
  ∀(df:List Df) (w:World) (I:Imm) (L:LH),St ω w I L→fin P ω df A I L→LeavesInM Fence.wide 0 P fn tmps R (dfs df) .returning w
 |[],w,I,L,hs,h=>hA w I L hs h
 | .col D::r,w,I,L,hs,h=>by
  obtain ⟨L1,L2,rfl,h⟩:=h;have hb:=hs.own D (.deferred (some [])) (by simp);refine ⟨by simp,.inl ⟨D,_,rfl,run_takeDeferred hb,?_⟩⟩;exact Jk hA r _ I (L1++L2) ((IE hs).drop (List.Sublist.append_left (List.sublist_cons_self ..) _)) h
 | .fn f cap args::r,w,I,L,hs,h=>by
  simp only [fin] at h;split at h
  ·rename_i he
   exact CalD.leaves he h hs fun v w' I' L' hs' hk=>Jk hA r w' I' L' hs' hk
  ·exact h.elim
theorem Ov {fn:Func}{tmps:Array Value}{R:Ending→World→Prop}{A B:M}{x:Value}(hA:∀w I L,St ω w I L→A I L→LeavesInM Fence.wide 0 P fn tmps R [] .returning w)
  (hB:∀w I L,St ω w I L→B I L→LeavesInM Fence.wide 0 P fn tmps R [] (.panicking [{v:=x,recovered:=false}]) w):
  ∀(df:List Df) (w:World) (I:Imm) (L:LH),St ω w I L→AKs P ω x df A B I L→LeavesInM Fence.wide 0 P fn tmps R (dfs df) (.panicking [{v:=x,recovered:=false}]) w
 |[],w,I,L,hs,h=>hB w I L hs h
 | .col D::r,w,I,L,hs,h=>by
  obtain ⟨L1,L2,rfl,h⟩:=h;have hb:=hs.own D (.deferred (some [])) (by simp);refine ⟨by simp,.inl ⟨D,_,rfl,run_takeDeferred hb,?_⟩⟩;exact Ov hA hB r _ I (L1++L2) ((IE hs).drop (List.Sublist.append_left (List.sublist_cons_self ..) _)) h
 | .fn f cap args::r,w,I,L,hs,h=>by
  simp only [AKs] at h;split at h
  ·rename_i he
   exact CalDR.leaves he h hs fun v w' I' L' hs' hk=>Jk hA r w' I' L' hs' hk
  ·exact h.elim
theorem KJ {fn:Func}{a:Act}{e:Env}(hr:Rep n a e){w:World}{I:Imm}{L:LH}(hs:St ω w I L){K:Value→M}(h:Gx P n e fn.results.toList (fun vs=>K (resV vs)) I L):
  ∃v,(results fn a.tmps).run P w= .ok v w∧K v I L:=by
 obtain ⟨vs,hrun,hk⟩:=LG hr hs _ _ h;refine ⟨resV vs,?_,hk⟩;have hres':results fn a.tmps=(do
   let vs ←fn.results.mapM (AHB a.tmps)
   pure (if h:vs.size=1 then vs[0] else .tuple vs)):=by
  unfold results;congr 1
 rw [hres',Array.mapM_eq_mapM_toList];simp only [Sem.run_bind,Sem.run_map,hrun,Result.andThen_ok,Sem.run_pure];congr 1
 unfold resV;match vs with
 |[]=>simp
 |[v]=>simp
 |v::u::r=>simp
theorem Kt (hm:P.follows .mixedOrders=true){f:FuncId}{fn:Func}(hf:P.funcs[f]? =some fn){pn:Option (Value→M)}{args:List Value}{K Pn:Value→M}{I:Imm}{L:LH}(hpn:∀p,pn=some p→p=Pn)(h:ADN P ω pn fn args K I L)
  {w:World} (hs:St ω w I L):Calls P f args.toArray w (AAi ω K Pn):=by
 unfold ADN at h;cases hb:fn.body with
 |none=>rw [hb] at h;exact h.elim
 |some c=>
  rw [hb] at h;simp only at h
  split at h
  ·rename_i hle
   have hle:args.length≤fn.ntmps:=by simpa using hle
   refine (callsIn_wide (n:=0)).1 (callsIn_of_wp_marks hf hb trivial (wpIn_mono (Qb hm c none 0 _ _ _ _ _ _ w I L (.inl rfl) (Rep.init args.toArray _ _ fn.ntmps (by simp;omega) (fun t v hv=>by simpa using hv) rfl) hs h) ?_));have hA:∀(a':Act) (e:Env),Rep fn.ntmps a' e→∀(w2:World) (I2:Imm) (L2:LH),St ω w2 I2 L2→Gx P fn.ntmps e fn.results.toList (fun vs=>K (resV vs)) I2 L2→
     LeavesInM Fence.wide 0 P fn a'.tmps (AAi ω K Pn) [] .returning w2:=by
    intro a' e hr w2 I2 L2 hs2 hres;obtain ⟨v,hrun,hk⟩:=KJ hr hs2 hres;exact ⟨v,hrun,v,I2,L2,hs2,.inl ⟨rfl,hk⟩⟩
   have fin':∀(a':Act) (w':World) (e:Env) (I':Imm) (L':LH),Rep fn.ntmps a' e→St ω w' I' L'→SL.fin P ω e.df (Gx P fn.ntmps e fn.results.toList (fun vs=>K (resV vs))) I' L'→
     LeavesInM Fence.wide 0 P fn a'.tmps (AAi ω K Pn) a'.defers .returning w':=by
    intro a' w' e I' L' hr hs' hres;rw [hr.defers];exact Jk (hA a' e hr) e.df w' I' L' hs' hres
   rintro ex a' w' hp;cases ex with
   |normal=>obtain ⟨_,e,I',L',h1,h2,h3⟩:=hp;exact fin' a' w' e I' L' h1 h2 h3
   |ret=>obtain ⟨_,e,I',L',h1,h2,h3⟩:=hp;exact fin' a' w' e I' L' h1 h2 h3
   |exit id=>obtain ⟨_,e,I',L',h1,h2,h3⟩:=hp;exact h3.elim
   |goto l=>exact hp.elim
   |panic ch=>
    obtain ⟨e,v,I',L',hr,rfl,hs',hpp⟩:=hp;show LeavesInM Fence.wide 0 P fn a'.tmps (AAi ω K Pn) a'.defers (.panicking _) w';rw [hr.defers];cases pn with
    |none=>exact hpp.elim
    |some p=>
     have:=hpn p rfl;subst this;exact Ov (hA a' e hr) (fun w2 I2 L2 hs2 hk=>(show AAi ω K p (.panicked [{v,recovered:=false}]) w2 from ⟨v,I2,L2,hs2,.inr ⟨rfl,hk⟩⟩)) e.df w' I' L' hs' hpp
   |outgrown=>exact hp.elim
  ·exact h.elim
theorem AEh (hm:P.follows .mixedOrders=true){f:FuncId}{fn:Func}(hf:P.funcs[f]? =some fn){args:List Value}{K:Value→M}{I:Imm}{L:LH}(h:vcF P ω fn args K I L):
  Cal P ω f args.toArray K I L:=fun w hs=>Calls.mono (Kt (Pn:=fun _=>F) hm hf (by simp) h hs) fun e w' ⟨v,I',L',hs',hk⟩=>by
 rcases hk with ⟨he,hk⟩|⟨_,hk⟩
 ·exact ⟨v,I',L',he,hs',hk⟩
 ·exact hk.elim
theorem AAc (hm:P.follows .mixedOrders=true){f:FuncId}{fn:Func}(hf:P.funcs[f]? =some fn){args:List Value}{K Pn:Value→M}{I:Imm}{L:LH}(h:vcP P ω fn args K Pn I L):
  CalP P ω f args.toArray K Pn I L:=fun w hs=>Kt hm hf (fun p hp=>by simp only [Option.some.injEq] at hp;exact hp.symm) h hs
theorem AAb (hm:P.follows .mixedOrders=true){f:FuncId}{fn:Func}(hf:P.funcs[f]? =some fn){args:List Value}{K:Value→M}{I:Imm}{L:LH}(h:vcQ P ω fn args K I L):
  Cal P ω f args.toArray K I L:=fun w hs=>Calls.mono (Kt (Pn:=fun _=>F) hm hf (fun p hp=>by simpa using hp.symm) h hs) fun e w' ⟨v,I',L',hs',hk⟩=>by
 rcases hk with ⟨he,hk⟩|⟨_,hk⟩
 ·exact ⟨v,I',L',he,hs',hk⟩
 ·exact hk.elim
theorem ALE {l:List Df}(h:dfs l=[]):l=[]:=by
 cases l with
 |nil=>rfl
 |cons d r=>cases d <;> simp [dfs] at h
theorem AAd (hm:P.follows .mixedOrders=true){f:FuncId}{fn:Func}(hf:P.funcs[f]? =some fn)(hpl:(match fn.body with
  |some c=>CZ c
  |none=>false)=true) {args:List Value} {K:Value→M} {I:Imm} {L:LH} (h:vcF P ω fn args K I L):CalD P ω f args.toArray K I L:=by
 intro w hs;unfold vcF ADN at h;cases hb:fn.body with
 |none=>rw [hb] at h;exact h.elim
 |some c=>
  rw [hb] at h hpl;simp only at h hpl
  split at h
  ·rename_i hle
   have hle:args.length≤fn.ntmps:=by simpa using hle
   refine callsDIn_of_wp hf hb trivial (wpIn_mono (Qb hm c none 0 _ _ _ _ _ _ w I L (.inl rfl) (Rep.init args.toArray _ _ fn.ntmps (by simp;omega) (fun t v hv=>by simpa using hv) rfl) hs h) ?_);have fin':∀(a':Act) (w':World) (e:Env) (I':Imm) (L':LH),a'.defers=[]→Rep fn.ntmps a' e→St ω w' I' L'→SL.fin P ω e.df (Gx P fn.ntmps e fn.results.toList (fun vs=>K (resV vs))) I' L'→
     a'.defers=[]∧∃v,(results fn a'.tmps).run P w'= .ok v w'∧Ret ω K (.returned v) w':=by
    intro a' w' e I' L' hd hr hs' hres;have hdf:e.df=[]:=ALE (hr.defers.symm.trans hd);rw [hdf] at hres;obtain ⟨v,hrun,hk⟩:=KJ hr hs' hres;exact ⟨hd,v,hrun,v,I',L',rfl,hs',hk⟩
   rintro ex a' w' hp;cases ex with
   |normal=>obtain ⟨hsm,e,I',L',h1,h2,h3⟩:=hp;exact fin' a' w' e I' L' (hsm.df hpl) h1 h2 h3
   |ret=>obtain ⟨hsm,e,I',L',h1,h2,h3⟩:=hp;exact fin' a' w' e I' L' (hsm.df hpl) h1 h2 h3
   |exit id=>obtain ⟨_,e,I',L',h1,h2,h3⟩:=hp;exact h3.elim
   |goto l=>exact hp.elim
   |panic ch=>exact (PX.none hp).elim
   |outgrown=>exact hp.elim
  ·exact h.elim
def PostR (ω:Om)(n:Nat)(K R:Env→M)(cs':List Frame):Exit→Act→List Frame→World→Prop
 | .normal,a,cs,w=>cs=cs'∧a.defers=[]∧∃e I L,Rep n a e∧St ω w I L∧K e I L
 | .ret,a,cs,w=>cs=cs'∧a.defers=[]∧∃e I L,Rep n a e∧St ω w I L∧R e I L
 |_,_,_,_=>False
theorem QW {c:Code}{F:Fence}{m:Nat}{Q Q':Exit→Act→List Frame→World→Prop}{a:Act}{cs:List Frame}{w:World}(h:c.wpSIn F m P Q a cs w)(hq:∀e a cs w,Q e a cs w→Q' e a cs w):c.wpSIn F m P Q' a cs w:=
 fun b k hb hr hF hroom=>let ⟨e,a',cs',w',l,q,r⟩:=h b k hb hr hF hroom;⟨e,a',cs',w',l,hq _ _ _ _ q,r⟩
theorem XJ {o:Oper}(h:AOF o.op=true)(ρ:Operand→Value)(w:World):(execOp ρ o).run P w= .ok .recover w:=by
 obtain ⟨dst,op,type,pos,after,guard⟩:=o;unfold AOF at h;split at h
 ·rename_i hop
  simp only at hop
  subst hop;simp [execOp,resolve,invoke,builtin]
 ·cases h
theorem put_defers (a:Act)(d:Option Tmp)(v:Value):(a.put d v).defers=a.defers:=by cases d <;> rfl
theorem Og {ops:Array Oper}{K R:Env→M}{cs:List Frame}:∀(rest:List Oper) (i:Nat) (e:Env) (a:Act) (w:World) (I:Imm) (L:LH),(∀k,rest[k]? =ops[i+k]?)→a.defers=[]→Rep n a e→St ω w I L→
  vcRl.vcRl2 P ω n rest e K I L→wpOpsSIn Fence.wide 0 P ops (PostR ω n K R cs) (List.range' i rest.length) a cs w
 |[],i,e,a,w,I,L,_,hd,hr,hs,h=>⟨rfl,hd,e,I,L,hr,hs,h⟩
 |o::rest,i,e,a,w,I,L,hops,hd,hr,hs,h=>by
  have ho:ops[i]? =some o:=by have:=hops 0;simpa using this.symm
  have hops':∀k,rest[k]? =ops[(i+1)+k]? :=fun k=>by
   have:=hops (k+1);simp only [List.getElem?_cons_succ] at this;rw [this];congr 1;omega
  simp only [vcRl.vcRl2] at h;simp only [List.length_cons,List.range'_succ,wpOpsSIn,ho];refine ⟨fun _ _=>trivial,?_⟩;cases hg:o.guard with
  |some _=>rw [hg] at h;exact h.elim
  |none=>
   rw [hg] at h;simp only at h
   have hw:Region.wanted o (yielded ops a.tmps)=true:=by simp [Region.wanted,hg]
   rw [hw];simp only [if_true];generalize hop:BQ P ω Option.none (e.ev n) o.op=q at h;cases q with
   |pure r=>
    cases r with
    |none=>exact h.elim
    |some v=>
    rw [JE hr hop w];exact Og rest (i+1) _ _ w I L hops' ((put_defers a o.dst v).trans hd) (hr.put _ _) hs h
   |read _=>exact h.elim
   |eff _=>exact h.elim
   |no=>exact h.elim
theorem Qc {ops:Array Oper}{K R:Env→M}{cs cs':List Frame}{rv:Value}(hrv:recoverD cs=some (rv,cs')∨(recoverD cs=none∧rv= .nilIface∧cs'=cs)):
  ∀(rest:List Oper) (i:Nat) (e:Env) (a:Act) (w:World) (I:Imm) (L:LH),(∀k,rest[k]? =ops[i+k]?)→a.defers=[]→Rep n a e→St ω w I L→
  vcRl P ω rv n rest e K I L→wpOpsSIn Fence.wide 0 P ops (PostR ω n K R cs') (List.range' i rest.length) a cs w
 |[],i,e,a,w,I,L,_,hd,hr,hs,h=>h.elim
 |o::rest,i,e,a,w,I,L,hops,hd,hr,hs,h=>by
  have ho:ops[i]? =some o:=by have:=hops 0;simpa using this.symm
  have hops':∀k,rest[k]? =ops[(i+1)+k]? :=fun k=>by
   have:=hops (k+1);simp only [List.getElem?_cons_succ] at this;rw [this];congr 1;omega
  simp only [vcRl] at h;simp only [List.length_cons,List.range'_succ,wpOpsSIn,ho];refine ⟨fun _ _=>trivial,?_⟩;cases hg:o.guard with
  |some _=>rw [hg] at h;exact h.elim
  |none=>
   rw [hg] at h;simp only at h
   have hw:Region.wanted o (yielded ops a.tmps)=true:=by simp [Region.wanted,hg]
   rw [hw];simp only [if_true];split at h
   ·rename_i hrec
    rw [XJ hrec];simp only
    have:=Og (P:=P) (ops:=ops) (K:=K) (R:=R) (cs:=cs') rest (i+1) (e.upd o.dst rv) (a.put o.dst rv) w I L hops' ((put_defers a o.dst rv).trans hd) (hr.put _ _) hs h;rcases hrv with hrv|⟨hrv,rfl,rfl⟩
    ·rw [hrv];exact this
    ·rw [hrv];exact this
   ·generalize hop:BQ P ω Option.none (e.ev n) o.op=q at h;cases q with
    |pure r=>
     cases r with
     |none=>exact h.elim
     |some v=>
     rw [JE hr hop w];exact Qc hrv rest (i+1) _ _ w I L hops' ((put_defers a o.dst v).trans hd) (hr.put _ _) hs h
    |read _=>exact h.elim
    |eff _=>exact h.elim
    |no=>exact h.elim
theorem ADM (hm:P.follows .mixedOrders=true){cs cs':List Frame}{rv:Value}(hrv:recoverD cs=some (rv,cs')∨(recoverD cs=none∧rv= .nilIface∧cs'=cs)):
  ∀(c:Code) (K R:Env→M) (e:Env) (a:Act) (w:World) (I:Imm) (L:LH),a.defers=[]→Rep n a e→St ω w I L→vcS P ω rv n c K R e I L→c.wpSIn Fence.wide 0 P (PostR ω n K R cs') a cs w:=by
 intro c;induction c with
 |seq x y ihx _=>
  intro K R e a w I L hd hr hs h;refine wpSIn_seq (QW (ihx _ R e a w I L hd hr hs h) ?_);rintro ex a1 cs1 w1 hp;cases ex with
  |normal=>
   obtain ⟨rfl,hd1,e1,I1,L1,hr1,hs1,h1⟩:=hp;split at h1
   ·rename_i hpy
    refine wpSIn_of_wpIn rfl (wpIn_mono (Qb hm y none 0 none K (fun _ _=>F) R e1 a1 w1 I1 L1 (.inl rfl) hr1 hs1 h1) ?_);rintro ex2 a2 w2 hp2;cases ex2 with
    |normal=>exact ⟨rfl,(hp2.1.df hpy).trans hd1,hp2.2⟩
    |ret=>exact ⟨rfl,(hp2.1.df hpy).trans hd1,hp2.2⟩
    |exit id=>obtain ⟨_,_,_,_,_,_,hf⟩:=hp2;exact hf.elim
    |panic ch=>exact (PX.none hp2).elim
    |goto l=>exact hp2.elim
    |outgrown=>exact hp2.elim
   ·exact h1.elim
  |ret=>exact hp
  |exit id=>exact hp.elim
  |panic ch=>exact hp.elim
  |goto l=>exact hp.elim
  |outgrown=>exact hp.elim
 |region id ops dr=>
  intro K R e a w I L hd hr hs h;cases dr with
  |true=>exact h.elim
  |false=>
   refine wpSIn_region ?_;have:=Qc (P:=P) (ops:=ops) (K:=K) (R:=R) hrv ops.toList 0 e a w I L (fun k=>by simp) hd hr hs h;rw [List.range_eq_range'];simpa using this
 |_=>intro K R e a w I L hd hr hs h;exact h.elim
theorem ASd {f:FuncId}{fn:Func}(hm:P.follows .mixedOrders=true)(hf:P.funcs[f]? =some fn){args:List Value}{K:Value→M}{I:Imm}{L:LH}{rv:Value}(h:vcR P ω rv fn args K I L){u u':FrameMode}
  (hrv:∀(c0:Frame) (cs:List Frame),c0.mode=u→recoverD (c0::cs)=some (rv,{c0 with mode:=u'}::cs)∨(recoverD (c0::cs)=none∧rv= .nilIface∧({c0 with mode:=u'}::cs)=c0::cs)) {w:World} (hs:St ω w I L):
  CallsDIn Fence.wide 0 P f args.toArray u w (fun e u1 w'=>u1=u'∧Ret ω K e w'):=by
 unfold vcR at h;cases hb:fn.body with
 |none=>rw [hb] at h;exact h.elim
 |some c=>
  rw [hb] at h;simp only at h
  split at h
  ·rename_i hle
   have hle:args.length≤fn.ntmps:=by simpa using hle
   refine callsDIn_of_wpSIn hf hb trivial fun c0 cs hu=>?_;refine QW (ADM hm (hrv c0 cs hu) c _ _ _ _ w I L rfl (Rep.init args.toArray _ _ fn.ntmps (by simp;omega) (fun t v hv=>by simpa using hv) rfl) hs h) ?_;have fin':∀(a':Act) (w':World),(∃e I L,Rep fn.ntmps a' e∧St ω w' I L∧Gx P fn.ntmps e fn.results.toList (fun vs=>K (resV vs)) I L)→∃v,(results fn a'.tmps).run P w'= .ok v w'∧Ret ω K (.returned v) w':=by
    rintro a' w' ⟨e,I',L',hr,hs',hres⟩;obtain ⟨v,hrun,hk⟩:=KJ hr hs' hres;exact ⟨v,hrun,v,I',L',rfl,hs',hk⟩
   rintro ex a' cs1 w' hp;cases ex with
   |normal=>
    obtain ⟨rfl,hd,hx⟩:=hp;obtain ⟨v,h1,h2⟩:=fin' a' w' hx;exact ⟨hd,u',rfl,v,h1,rfl,h2⟩
   |ret=>
    obtain ⟨rfl,hd,hx⟩:=hp;obtain ⟨v,h1,h2⟩:=fin' a' w' hx;exact ⟨hd,u',rfl,v,h1,rfl,h2⟩
   |exit id=>exact hp.elim
   |panic ch=>exact hp.elim
   |goto l=>exact hp.elim
   |outgrown=>exact hp.elim
  ·exact h.elim
theorem YM (hm:P.follows .mixedOrders=true){f:FuncId}{fn:Func}(hf:P.funcs[f]? =some fn){args:List Value}{K:Value→M}{I:Imm}{L:LH}(h:vcR P ω .nilIface fn args K I L):CalD P ω f args.toArray K I L:=
 fun w hs=>ASd hm hf h (u':=.returning) (fun c0 cs hu=>by
  obtain ⟨cfn,ctm,ctd,cdf,cmo,cki,cro⟩:=c0;simp only at hu
  subst hu;exact .inr ⟨rfl,rfl,rfl⟩) hs
theorem WE (hm:P.follows .mixedOrders=true){f:FuncId}{fn:Func}(hf:P.funcs[f]? =some fn){args:List Value}{K:Value→M}{I:Imm}{L:LH}{v:Value}(h:vcR P ω v fn args K I L):CalDR P ω f args.toArray v K I L:=
 fun w hs=>ASd hm hf h (fun c0 cs hu=>by
  obtain ⟨cfn,ctm,ctd,cdf,cmo,cki,cro⟩:=c0;simp only at hu
  subst hu;exact .inl rfl) hs
theorem CalD.gh {f:FuncId}{args:Array Value}{K:Value→M}{I:Imm}{L:LH}(h:CalD P ω f args (fun v=>Gh (K v)) I L):CalD P ω f args K I L:=fun w hs=>
 CallsDIn.mono (h w hs) fun _ _ _ ⟨hu,v,_,_,he,hs',hg⟩=>by
  obtain ⟨I2,L2,h1,h2⟩:=hg hs'.cons;exact ⟨hu,v,I2,L2,he,h1 ω _ hs',h2⟩
theorem CalDR.gh {f:FuncId}{args:Array Value}{x:Value}{K:Value→M}{I:Imm}{L:LH}(h:CalDR P ω f args x (fun v=>Gh (K v)) I L):CalDR P ω f args x K I L:=fun w hs=>
 CallsDIn.mono (h w hs) fun _ _ _ ⟨hu,v,_,_,he,hs',hg⟩=>by
  obtain ⟨I2,L2,h1,h2⟩:=hg hs'.cons;exact ⟨hu,v,I2,L2,he,h1 ω _ hs',h2⟩
end
section pure
variable (b off k n:Nat)(a c:Int)(t u:Bool)(K:Value→M)(v:Value)
theorem DU:Pv (some v) K=K v:=rfl
theorem AIB:AL k (.pointer (some ⟨b,off,none⟩))=some (.pointer (some ⟨b,off+k,none⟩)):=rfl
theorem AHY (x:Addr):BI (.pointer (some x))=some (.pointer (some x)):=rfl
theorem AHZ (f:FuncId)(xs ys:Array Value):BI (.func (.func f) xs ys)=some (.func (.func f) xs ys):=rfl
theorem AHm (x:Option Addr)(l m:Nat):lenV (.slice x l m)=some (.int .i64 l):=rfl
theorem AIY (x:Option Addr)(l m:Nat):AEf (.slice x l m)=some (.int .i64 m):=rfl
theorem AHe (k k':IntKind):AHf (.int k a) (.int k' c)=some (.int k (if c < a then c else a)):=rfl
theorem AHg (k k':IntKind):AKi (.int k a) (.int k' c)=some (.int k (if c > a then c else a)):=rfl
theorem AKj (s:ByteArray):Ba (.string s)=some (.int .i64 s.size):=rfl
theorem AFD (s:ByteArray):ANq (.string s)=some (.string s):=rfl
theorem AAl:unV .not (.bool t)=some (.bool !t):=rfl
theorem AAm (k:IntKind):unV .neg (.int k a)=some (.int k (k.wrap (0 - a))):=rfl
theorem AJh (k:IntKind):unV .xor (.int k a)=some (.int k (IU .xor k (if k.signed then -1 else k.max) a)):=rfl
theorem ACU (x y:Value):ACW (.bool true) x y=some x:=rfl
theorem ACV (x y:Value):ACW (.bool false) x y=some y:=rfl
theorem ANK (vs:Array Value)(i:Nat):exV (.tuple vs) i=vs[i]? :=rfl
theorem AIO (k k':IntKind):WA k (.int k' a)=some (.int k (k.wrap a)):=rfl
theorem TI (k:IntKind):AA .add (.int k a) (.int k c)=some (.int k (k.wrap (a+c))):=by simp [AA]
theorem TF (k:IntKind):AA .sub (.int k a) (.int k c)=some (.int k (k.wrap (a - c))):=by simp [AA]
theorem YP (k:IntKind):AA .mul (.int k a) (.int k c)=some (.int k (k.wrap (a * c))):=by simp [AA]
theorem YU (k:IntKind):AA .eql (.int k a) (.int k c)=some (.bool (a==c)):=by simp [AA]
theorem YO (k:IntKind):AA .neq (.int k a) (.int k c)=some (.bool (a != c)):=by simp [AA]
theorem YQ (k:IntKind):AA .lss (.int k a) (.int k c)=some (.bool (decide (a < c))):=by simp [AA]
theorem YR (k:IntKind):AA .leq (.int k a) (.int k c)=some (.bool (decide (a≤c))):=by simp [AA]
theorem YS (k:IntKind):AA .gtr (.int k a) (.int k c)=some (.bool (decide (c < a))):=by simp [AA]
theorem YT (k:IntKind):AA .geq (.int k a) (.int k c)=some (.bool (decide (c≤a))):=by simp [AA]
theorem AJQ (k:IntKind)(h:c≠0):AA .quo (.int k a) (.int k c)=some (.int k (k.wrap (a.tdiv c))):=by simp [AA,h]
theorem TG (k:IntKind)(h:c≠0):AA .rem (.int k a) (.int k c)=some (.int k (a.tmod c)):=by simp [AA,h]
theorem YV (k:IntKind):AA .and (.int k a) (.int k c)=some (.int k (IU .and k a c)):=by simp [AA]
theorem ACx (k:IntKind):AA .or (.int k a) (.int k c)=some (.int k (IU .or k a c)):=by simp [AA]
theorem YX:DI .eql (.bool t) (.bool u)=some (.bool (t==u)):=rfl
theorem YW:DI .neq (.bool t) (.bool u)=some (.bool (!(t==u))):=rfl
theorem Hg (x:Addr):IV .eql (.pointer (some x)) (.pointer none)=some (.bool false):=rfl
theorem Nq (x:Addr):IV .neq (.pointer (some x)) (.pointer none)=some (.bool true):=rfl
theorem Ns (x:Addr)(l m l' m':Nat):Jw .eql (.slice (some x) l m) (.slice none l' m')=some (.bool false):=rfl
theorem Nr (x:Addr)(l m l' m':Nat):Jw .neq (.slice (some x) l m) (.slice none l' m')=some (.bool true):=rfl
theorem Oz (l m l' m':Nat):Jw .eql (.slice none l m) (.slice none l' m')=some (.bool true):=rfl
theorem Oy (l m l' m':Nat):Jw .neq (.slice none l m) (.slice none l' m')=some (.bool false):=rfl
theorem wrap_i64 (h: -9223372036854775808≤a∧a≤9223372036854775807):IntKind.i64.wrap a=a:=IntWalk.i64_in a h
theorem Uo (cs:Array Value):Value.cells (.agg cs)=cs:=rfl
end pure
class InL (b:Nat) (L:LH) (o:outParam Obj):Prop where
 mem:(b,o)∈L
instance inRight (b:Nat)(A L:LH)(o:Obj)[h:InL b L o]:InL b (A++L) o:=⟨List.mem_append_right _ h.mem⟩
instance inThere (b:Nat)(x:Nat×Obj)(L:LH)(o:Obj)[h:InL b L o]:InL b (x::L) o:=⟨List.mem_cons_of_mem _ h.mem⟩
instance inHere (b:Nat)(L:LH)(o:Obj):InL b ((b,o)::L) o:=⟨List.mem_cons_self ..⟩
class GetL (l:List Value) (k:Nat) (v:outParam Value):Prop where
 get:l[k]? =some v
instance getThere (x:Value)(l:List Value)(k:Nat)(v:Value)[h:GetL l k v]:GetL (x::l) (k+1) v:=⟨by simpa using h.get⟩
instance getHere (v:Value)(l:List Value):GetL (v::l) 0 v:=⟨rfl⟩
class SetL (l:List Value) (k:Nat) (v:Value) (l':outParam (List Value)):Prop where
 set:l.set k v=l'∧k < l.length
instance setThere (x:Value)(l:List Value)(k:Nat)(v:Value)(l':List Value)[h:SetL l k v l']:SetL (x::l) (k+1) v (x::l'):=
 ⟨by simp [h.set.1],by simpa using h.set.2⟩
instance setHere (x v:Value)(l:List Value):SetL (x::l) 0 v (v::l):=⟨rfl,by simp⟩
class SplitL (X L:LH) (R:outParam LH):Prop where
 perm:L.Perm (X++R)
instance splitRight (X A L R:LH)[h:SplitL X L R]:SplitL X (A++L) (A++R):=⟨(List.Perm.append_left A h.perm).trans (by
 rw [←List.append_assoc,←List.append_assoc];exact List.Perm.append_right R List.perm_append_comm)⟩
instance splitThere (X L R:LH)(y:Nat×Obj)[h:SplitL X L R]:SplitL X (y::L) (y::R):=⟨(List.Perm.cons y h.perm).trans List.perm_middle.symm⟩
instance splitHere (X R:LH):SplitL X (X++R) R:=⟨List.Perm.refl _⟩
class SplitB (x:Nat×Obj) (L:LH) (R:outParam LH):Prop where
 perm:L.Perm (x::R)
instance splitBRight (x:Nat×Obj)(A L R:LH)[h:SplitB x L R]:SplitB x (A++L) (A++R):=⟨(List.Perm.append_left A h.perm).trans List.perm_middle⟩
instance splitBThere (x y:Nat×Obj)(L R:LH)[h:SplitB x L R]:SplitB x (y::L) (y::R):=⟨(List.Perm.cons y h.perm).trans (List.Perm.swap ..)⟩
instance splitBHere (x:Nat×Obj)(R:LH):SplitB x (x::R) R:=⟨List.Perm.refl _⟩
class SubP (L' L:LH):Prop where
 sub:∃R,L.Perm (L'++R)
instance (priority:=50) subRight (L' A L:LH)[h:SubP L' L]:SubP L' (A++L):=by
 obtain ⟨R,hR⟩:=h.sub;exact ⟨A++R,(List.Perm.append_left A hR).trans (by rw [←List.append_assoc,←List.append_assoc];exact List.Perm.append_right R List.perm_append_comm)⟩
instance (priority:=50) subThere (L' L:LH)(y:Nat×Obj)[h:SubP L' L]:SubP L' (y::L):=by
 obtain ⟨R,hR⟩:=h.sub;exact ⟨y::R,(List.Perm.cons y hR).trans List.perm_middle.symm⟩
instance (priority:=40) subNil (L:LH):SubP [] L:=⟨L,List.Perm.refl _⟩
instance subCons (x:Nat×Obj)(L' L R:LH)[h:SplitB x L R][h':SubP L' R]:SubP (x::L') L:=by
 obtain ⟨R',hR⟩:=h'.sub;exact ⟨R',h.perm.trans (List.Perm.cons x hR)⟩
instance subApp (A L' L R:LH)[h:SplitL A L R][h':SubP L' R]:SubP (A++L') L:=by
 obtain ⟨R',hR⟩:=h'.sub;exact ⟨R',h.perm.trans (by rw [List.append_assoc];exact List.Perm.append_left A hR)⟩
instance subSelf (L:LH):SubP L L:=⟨[],by simp⟩
class UpL (b:Nat) (L:LH) (o o':Obj) (L':outParam LH):Prop where
 up:∃L1 L2,L=L1++(b,o)::L2∧L'=L1++(b,o')::L2
instance upRight (b:Nat)(A L:LH)(o o':Obj)(L':LH)[h:UpL b L o o' L']:UpL b (A++L) o o' (A++L'):=by
 obtain ⟨L1,L2,rfl,rfl⟩:=h.up;exact ⟨A++L1,L2,by simp,by simp⟩
instance upThere (b:Nat)(x:Nat×Obj)(L:LH)(o o':Obj)(L':LH)[h:UpL b L o o' L']:UpL b (x::L) o o' (x::L'):=by
 obtain ⟨L1,L2,rfl,rfl⟩:=h.up;exact ⟨x::L1,L2,rfl,rfl⟩
instance upHere (b:Nat)(L:LH)(o o':Obj):UpL b ((b,o)::L) o o' ((b,o')::L):=⟨[],L,rfl,rfl⟩
theorem Cell.own {I:Imm}{L:LH}{b off:Nat}{v:Value}{cs:Array Value}{T:Nat}{fr:Nat×Nat}(hm:(b,Obj.cells cs T fr)∈L)(hv:cs[off]? =some v):Cell I L b off v:=⟨cs,T,fr,.inl hm,hv⟩
theorem Cell.imm {I:Imm}{L:LH}{b off:Nat}{v:Value}{cs:Array Value}{T:Nat}{fr:Nat×Nat}(hm:I b=some (Obj.cells cs T fr))(hv:cs[off]? =some v):Cell I L b off v:=⟨cs,T,fr,.inr hm,hv⟩
theorem Cell.mono {I I':Imm}{L L':LH}{b off:Nat}{v:Value}(h:Cell I L b off v)(hI:Ext I I')(hL:∀x∈L,x∈L'):Cell I' L' b off v:=by
 obtain ⟨cs,T,fr,hm,hv⟩:=h;exact ⟨cs,T,fr,hm.imp (hL _) (hI _ _),hv⟩
section reads
variable {I:Imm}{L:LH}{K:Value→M}{b off n:Nat}{v:Value}
theorem rd1 (h:Cell I L b off v)(hk:K v I L):Rv none (Ap (.pointer (some ⟨b,off,none⟩))) K I L:=⟨v,⟨b,off,rfl,h⟩,hk⟩
theorem rdb {l:List Value}{T:Nat}{fr:Nat×Nat}[h:InL b L (.cells l.toArray T fr)][g:GetL l off v](hk:K v I L):Rv none (Ap (.pointer (some ⟨b,off,none⟩))) K I L:=
 rd1 (Cell.own h.mem (by simpa using g.get)) hk
theorem rdN {vs:List Value}(hl:vs.length=n)(h:Cells I L b off vs)(hk:K (.agg vs.toArray) I L):Rv none (AC n (.pointer (some ⟨b,off,none⟩))) K I L:=⟨_,⟨b,off,vs,rfl,hl,h,rfl⟩,hk⟩
theorem rdB {l:List Value}{T:Nat}{fr:Nat×Nat}[h:InL b L (.cells l.toArray T fr)](hl:l.length=n)(hk:K (.agg l.toArray) I L):Rv none (AC n (.pointer (some ⟨b,0,none⟩))) K I L:=
 rdN hl (fun j u hu=>Cell.own h.mem (by simpa using hu)) hk
theorem rdP {l:List Value}{T:Nat}{fr:Nat×Nat}[h:InL b L (.cells l.toArray T fr)](vs:List Value)(he:(l.drop off).take n=vs)(hl:vs.length=n)(hk:K (.agg vs.toArray) I L):Rv none (AC n (.pointer (some ⟨b,off,none⟩))) K I L:=
 rdN hl (fun j u hu=>Cell.own h.mem (by
  subst he;rw [List.getElem?_take] at hu;split at hu
  ·rw [List.getElem?_drop] at hu;simpa using hu
  ·cases hu)) hk
variable {S:M}
theorem ASI (h:∀I' L',S I' L'→Cell I' L' b off v)(hk:K v I L):Rv (some S) (Ap (.pointer (some ⟨b,off,none⟩))) K I L:=⟨v,fun I' L' hS=>⟨b,off,rfl,h I' L' hS⟩,hk⟩
theorem AOG {vs:List Value}(hl:vs.length=n)(h:∀I' L',S I' L'→Cells I' L' b off vs)(hk:K (.agg vs.toArray) I L):Rv (some S) (AC n (.pointer (some ⟨b,off,none⟩))) K I L:=
 ⟨_,fun I' L' hS=>⟨b,off,vs,rfl,hl,h I' L' hS,rfl⟩,hk⟩
end reads
def Stay (I0:Imm)(X:LH):M:=fun I L=>Ext I0 I∧∀x∈X,x∈L
theorem Stay.start (I:Imm)(L:LH):Stay I L I L:=⟨Ext.refl I,fun _ h=>h⟩
section stay
variable {I I0:Imm}{L X:LH}{K:Value→M}{b off n:Nat}{v:Value}
theorem Dt {l:List Value}{T:Nat}{fr:Nat×Nat}[h:InL b X (.cells l.toArray T fr)][g:GetL l off v](hk:K v I L):Rv (some (Stay I0 X)) (Ap (.pointer (some ⟨b,off,none⟩))) K I L:=
 ASI (fun I' L' hS=>Cell.own (hS.2 _ h.mem) (by simpa using g.get)) hk
theorem RH {l:List Value}{T:Nat}{fr:Nat×Nat}[h:InL b X (.cells l.toArray T fr)](hl:l.length=n)(hk:K (.agg l.toArray) I L):Rv (some (Stay I0 X)) (AC n (.pointer (some ⟨b,0,none⟩))) K I L:=
 AOG hl (fun I' L' hS j u hu=>Cell.own (hS.2 _ h.mem) (by simpa using hu)) hk
theorem Ip (h:Cell I0 X b off v)(hk:K v I L):Rv (some (Stay I0 X)) (Ap (.pointer (some ⟨b,off,none⟩))) K I L:=
 ASI (fun _ _ hS=>h.mono hS.1 hS.2) hk
theorem OG {vs:List Value}(hl:vs.length=n)(h:Cells I0 X b off vs)(hk:K (.agg vs.toArray) I L):Rv (some (Stay I0 X)) (AC n (.pointer (some ⟨b,off,none⟩))) K I L:=
 AOG hl (fun _ _ hS j u hu=>(h j u hu).mono hS.1 hS.2) hk
theorem ASQ (h1:Ext I0 I)(h2:∀x∈X,x∈L)(hk:K v I L):Cm (Stay I0 X) K v I L:=⟨⟨h1,h2⟩,hk⟩
theorem draw {B:M→M}(S:M)(h1:S I L)(h2:B S I L):CP B I L:=⟨S,h1,h2⟩
end stay
section ghosts
variable {I:Imm}{L:LH}
theorem Cons.ext_put {b:Nat}{o:Obj}(h:Cons I ((b,o)::L)):Ext I (Imm.put I b o):=by
 intro b' o' hb';unfold Imm.put;have:=h.2 b o (List.mem_cons_self ..);rw [if_neg (fun e=>by subst e;rw [this] at hb';cases hb')];exact hb'
theorem Cons.freeze {b:Nat}{o:Obj}(h:Cons I ((b,o)::L)):Cons (Imm.put I b o) L:=by
 refine ⟨(List.nodup_cons.1 h.1).2,fun b' o' hm=>?_⟩;unfold Imm.put;have hn:=(List.nodup_cons.1 h.1).1;rw [if_neg (fun e=>hn (by subst e;exact List.mem_map.2 ⟨(b',o'),hm,rfl⟩))];exact h.2 b' o' (List.mem_cons_of_mem _ hm)
theorem Cons.perm {L':LH}(h:Cons I L)(hp:L.Perm L'):Cons I L':=⟨(hp.map _).nodup_iff.1 h.1,fun b o hb=>h.2 b o (hp.mem_iff.2 hb)⟩
theorem Cons.drop {L':LH}(h:Cons I L)(hs:L'.Sublist L):Cons I L':=⟨h.1.sublist (hs.map _),fun b o hb=>h.2 b o (hs.subset hb)⟩
theorem Gh.done {A:M}(h:A I L):Gh A I L:=fun _=>⟨I,L,fun _ _ h=>h,h⟩
theorem Gh.freeze {A:M}{b:Nat}{o:Obj}(h:Ext I (Imm.put I b o)→Gh A (Imm.put I b o) L):Gh A I ((b,o)::L):=by
 intro hc;obtain ⟨I',L',h1,h2⟩:=h hc.ext_put hc.freeze;exact ⟨I',L',fun ω w hs=>h1 ω w hs.freeze,h2⟩
theorem Gh.perm {A:M}{L':LH}(hp:L.Perm L')(h:Gh A I L'):Gh A I L:=by
 intro hc;obtain ⟨I',L',h1,h2⟩:=h (hc.perm hp);exact ⟨I',L',fun ω w hs=>h1 ω w (hs.perm hp),h2⟩
theorem Gh.drop {A:M}{L':LH}(hp:L'.Sublist L)(h:Gh A I L'):Gh A I L:=by
 intro hc;obtain ⟨I',L',h1,h2⟩:=h (hc.drop hp);exact ⟨I',L',fun ω w hs=>h1 ω w (hs.drop hp),h2⟩
theorem Gh.to {A:M}(L':LH)[hs:SubP L' L](h:Gh A I L'):Gh A I L:=by
 obtain ⟨R,hR⟩:=hs.sub;exact Gh.perm hR (Gh.drop (List.sublist_append_left L' R) h)
end ghosts
section effs
variable {I:Imm}{L L':LH}{K:Value→M}{b off n T:Nat}{v:Value}
theorem ANh (l l':List Value)(k:Nat)(v:Value)(h:l.set k v=l'):wr l.toArray k [v]=l'.toArray:=by
 simp [wr,h]
theorem st1 {l l':List Value}[h:InL b L (.cells l.toArray T (0,0))][g:SetL l off v l'][u:UpL b L (.cells l.toArray T (0,0)) (.cells l'.toArray T (0,0)) L'](hv:v.oneCell'=true)(hk:K undef I L'):
  Sto 1 (.pointer (some ⟨b,off,none⟩)) v (gh K) I L:=by
 obtain ⟨L1,L2,rfl,rfl⟩:=u.up;have hc:v.cells=#[v]:=by cases v <;> first|rfl|simp [Value.oneCell'] at hv
 refine ⟨b,off,l.toArray,T,L1,L2,rfl,by simp [hc],by simp [hc];exact hv,by simp;have:=g.set.2;omega,rfl,?_⟩;rw [hc,ANh l l' off v g.set.1];exact Gh.done hk
theorem ANi:∀(vs l:List Value) (off:Nat),off+vs.length=l.length→wr l.toArray off vs=(l.take off++vs).toArray:=by
 intro vs l off h;rw [WN vs l.toArray off (by simp;omega)];simp [h]
theorem stB {l vs:List Value}[h:InL b L (.cells l.toArray T (0,0))][u:UpL b L (.cells l.toArray T (0,0)) (.cells vs.toArray T (0,0)) L'](hl:vs.length=n)(hl':l.length=n)(h1:∀u∈vs,u.oneCell'=true)(hk:K undef I L'):
  Sto n (.pointer (some ⟨b,0,none⟩)) (.agg vs.toArray) (gh K) I L:=by
 obtain ⟨L1,L2,rfl,rfl⟩:=u.up;refine ⟨b,0,l.toArray,T,L1,L2,rfl,by simp [Value.cells,hl],by simpa [Value.cells] using h1,by simp [hl'],rfl,?_⟩;simp only [Value.cells];rw [ANi vs l 0 (by omega)];exact Gh.done (by simpa using hk)
theorem Au {vs:List Value}(h:vs.all (·.oneCell')=true):∀u∈vs,u.oneCell'=true:=fun u hu=>List.all_eq_true.1 h u hu
theorem Ad {o:Obj}(h:∀b,K (.pointer (some ⟨b,0,none⟩)) I ((b,o)::L)):New o (gh K) I L:=fun b=>Gh.done (h b)
end effs
section calls
variable {P:Program}{ω:Om}{f:FuncId}{args:Array Value}{K:Value→M}{I:Imm}{L:LH}
theorem Cal.gh (h:Cal P ω f args (fun v=>Gh (K v)) I L):Cal P ω f args K I L:=fun w hs=>
 (h w hs).mono fun _ _ ⟨v,_,_,he,hs',hg⟩=>by
  obtain ⟨I2,L2,h1,h2⟩:=hg hs'.cons;exact ⟨v,I2,L2,he,h1 ω _ hs',h2⟩
theorem call (h:Cal P ω f args K I L):Cal P ω f args (SL.gh K) I L:=fun w hs=>
 (h w hs).mono fun _ _ ⟨v,I',L',he,hs',h2⟩=>⟨v,I',L',he,hs',Gh.done h2⟩
theorem Cal.to (L':LH)[hs:SubP L' L](h:Cal P ω f args K I L'):Cal P ω f args K I L:=fun w hw=>by
 obtain ⟨R,hR⟩:=hs.sub;exact h w ((hw.perm hR).drop (List.sublist_append_left L' R))
theorem Cal.split (X:LH){R:LH}[h:SplitL X L R](hc:Cal P ω f args K I (X++R)):Cal P ω f args K I L:=fun w hs=>hc w (hs.perm h.perm)
theorem Cal.mono {K':Value→M}(h:Cal P ω f args K I L)(hk:∀v I' L',K v I' L'→K' v I' L'):Cal P ω f args K' I L:=fun w hs=>
 (h w hs).mono fun _ _ ⟨v,I',L',he,hs',h2⟩=>⟨v,I',L',he,hs',hk v I' L' h2⟩
theorem loop {σ:Type}{s0:σ}{B:σ→(σ→M)→M}(Inv:Nat→σ→M)(m:Nat)(h0:Inv m s0 I L)
  (h:∀m s I' L',Inv m s I' L'→B s (fun s'=>Gh fun I2 L2=>∃m',m' < m∧Inv m' s' I2 L2) I' L'):Am s0 B I L:=⟨Inv,m,h0,h⟩
end calls
abbrev AQ (P:Program)(ω:Om)(f:FuncId)(args:Array Value)(Pn K:Value→M):M:=CalP P ω f args K Pn
abbrev Il (P:Program)(ω:Om)(x:Value)(args:Array Value)(Pn K:Value→M):M:=CalVP P ω x args K Pn
abbrev AQz (P:Program)(ω:Om)(f:FuncId)(args:Array Value)(K:Value→M):M:=CalD P ω f args K
abbrev ALY (P:Program)(ω:Om)(f:FuncId)(args:Array Value)(v:Value)(K:Value→M):M:=CalDR P ω f args v K
section callsP
variable {P:Program}{ω:Om}{f:FuncId}{args:Array Value}{K Pn:Value→M}{I:Imm}{L:LH}
theorem CalP.of (h:Cal P ω f args K I L):CalP P ω f args K Pn I L:=fun w hs=>
 (h w hs).mono fun _ _ ⟨v,I',L',he,hs',hk⟩=>⟨v,I',L',hs',.inl ⟨he,hk⟩⟩
theorem CalP.gh (h:CalP P ω f args (fun v=>Gh (K v)) (fun v=>Gh (Pn v)) I L):CalP P ω f args K Pn I L:=fun w hs=>
 (h w hs).mono fun _ _ ⟨v,_,_,hs',hg⟩=>by
  rcases hg with ⟨he,hg⟩|⟨he,hg⟩
  ·obtain ⟨I2,L2,h1,h2⟩:=hg hs'.cons;exact ⟨v,I2,L2,h1 ω _ hs',.inl ⟨he,h2⟩⟩
  ·obtain ⟨I2,L2,h1,h2⟩:=hg hs'.cons;exact ⟨v,I2,L2,h1 ω _ hs',.inr ⟨he,h2⟩⟩
theorem CalP.mono {K' Pn':Value→M}(h:CalP P ω f args K Pn I L)(hk:∀v I' L',K v I' L'→K' v I' L')(hp:∀v I' L',Pn v I' L'→Pn' v I' L'):CalP P ω f args K' Pn' I L:=fun w hs=>
 (h w hs).mono fun _ _ ⟨v,I',L',hs',hg⟩=>⟨v,I',L',hs',hg.imp (fun h=>⟨h.1,hk _ _ _ h.2⟩) (fun h=>⟨h.1,hp _ _ _ h.2⟩)⟩
theorem AV (h:CalP P ω f args K Pn I L):CalP P ω f args (SL.gh K) Pn I L:=h.mono (fun _ _ _ h=>Gh.done h) (fun _ _ _ h=>h)
theorem Ak (h:Cal P ω f args K I L):CalP P ω f args (SL.gh K) Pn I L:=CalP.of (call h)
theorem CalP.pre (h:Gh (CalP P ω f args K Pn) I L):CalP P ω f args K Pn I L:=fun w hs=>by
 obtain ⟨I',L',h1,h2⟩:=h hs.cons;exact h2 w (h1 ω w hs)
end callsP
theorem ExtE.ret {P:Program}{ω:Om}{e:Array Value→Sem Value}{args:Array Value}{K:Value→M}{I:Imm}{L:LH}(h:∃v,(∀w,St ω w I L→(e args).run P w= .ok v w)∧K v I L):ExtE P ω e args K I L:=fun w hs=>by
 obtain ⟨v,h1,h2⟩:=h;exact ⟨v,w,I,L,h1 w hs,hs,h2⟩
theorem Xh {P:Program}{ω:Om}{x:Value}{K:Value→M}{I:Imm}{L:LH}(hk:K x I L):ExtE P ω Extern.AbiNoEscape.same #[x] K I L:=ExtE.ret ⟨x,fun w _=>Lib.run_noEscape w x,hk⟩
theorem ATy {P:Program}{ω:Om}{ps:Array TypeId}{t e n:Nat}{K:Value→M}{I:Imm}{L:LH}(ht:P.underlying t=some (.slice e))(hn:n≤281474976710656)(hk:∀(b:Nat) (cs:Array Value),n≤cs.size→K (.slice (some ⟨b,0,none⟩) n cs.size) I ((b,.cells cs e (0,0))::L)):
  ExtE P ω (Extern.BytealgMakeNoZero.makeNoZero ps #[t]) #[.int .i64 n] K I L:=fun w hs=>by
 obtain ⟨cs,h1,h2,_⟩:=Lib.run_makeNoZero (P:=P) w ps t e ht n hn;refine ⟨_,_,I,_,h1,?_,hk w.heap.size cs h2⟩;have hd:St ω w.drew.drew I L:=St.drew hs (n:=w.drew.drew.drawn) (by show w.drawn≤w.drawn+1+1;omega);exact St.push hd (.cells cs e (0,0))
def SlI (I:Imm)(n:Nat)(v:Value)(cells:List Value)(len:Nat):Prop:=
 cells.length=len * n∧∃a cap,v= .slice a len cap∧len≤cap∧
  (len≠0→∃b off cs T fr,a=some ⟨b,off,none⟩∧I b=some (Obj.cells cs T fr)∧∀j u,cells[j]? =some u→cs[off+j]? =some u)
theorem SlI.mono {I I':Imm}{n len:Nat}{v:Value}{cells:List Value}(h:SlI I n v cells len)(hI:Ext I I'):SlI I' n v cells len:=by
 obtain ⟨hl,a,cap,hv,hc,h⟩:=h;refine ⟨hl,a,cap,hv,hc,fun h0=>?_⟩;obtain ⟨b,off,cs,T,fr,ha,hb,hcs⟩:=h h0;exact ⟨b,off,cs,T,fr,ha,hI _ _ hb,hcs⟩
theorem SlI.nil (I:Imm)(n:Nat)(a:Option Addr)(cap:Nat):SlI I n (.slice a 0 cap) [] 0:=⟨by simp,a,cap,rfl,Nat.zero_le _,fun h=>absurd rfl h⟩
theorem SlI.news {I:Imm}{L:LH}{n len:Nat}{v:Value}{cells:List Value}(h:SlI I n v cells len):News n v I L len cells:=by
 obtain ⟨hl,a,cap,rfl,hc,h⟩:=h;by_cases h0:len=0
 ·subst h0;exact .inl ⟨a,cap,rfl,rfl,List.eq_nil_of_length_eq_zero (by simpa using hl)⟩
 ·obtain ⟨b,off,cs,T,fr,rfl,hb,hcs⟩:=h h0;exact .inr (.inl ⟨b,off,cap,rfl,hl,fun j u hu=>Cell.imm hb (hcs j u hu)⟩)
def SlO (T n : Nat) (X : LH) (v : Value) (cells : List Value) (len : Nat) : Prop :=
  cells.length = len * n ∧
  ((X = [] ∧ len = 0 ∧ ∃ a, v = .slice a 0 0) ∨
   (∃ (b cap : Nat) (cs : Array Value), X = [(b, Obj.cells cs T (0, 0))] ∧ v = .slice (some ⟨b, 0, Option.none⟩) len cap ∧ cs.size = cap * n ∧ len ≤ cap ∧ ∀ (j : Nat) (u : Value), cells[j]? = some u → cs[j]? = some u))
theorem SlO.none (T n:Nat):SlO T n [] (.slice none 0 0) [] 0:=⟨by simp,.inl ⟨rfl,rfl,_,rfl⟩⟩
theorem SlO.empty (T n:Nat)(a:Option Addr):SlO T n [] (.slice a 0 0) [] 0:=⟨by simp,.inl ⟨rfl,rfl,_,rfl⟩⟩
theorem SlO.form {T n len:Nat}{X:LH}{v:Value}{cells:List Value}(h:SlO T n X v cells len):∃a cap,v= .slice a len cap:=by
 rcases h.2 with ⟨_,rfl,a,rfl⟩|⟨b,cap,cs,_,rfl,_⟩
 ·exact ⟨a,0,rfl⟩
 ·exact ⟨_,cap,rfl⟩
theorem SlO.news {I:Imm}{T n len:Nat}{X F:LH}{v:Value}{cells:List Value}(h:SlO T n X v cells len)(hF:∀x∈X,x∈F):News n v I F len cells:=by
 obtain ⟨hl,h⟩:=h;rcases h with ⟨rfl,rfl,a,rfl⟩|⟨b,cap,cs,rfl,rfl,hcs,hle,hc⟩
 ·exact .inl ⟨a,0,rfl,rfl,List.eq_nil_of_length_eq_zero (by simpa using hl)⟩
 ·exact .inr (.inl ⟨b,0,cap,rfl,hl,fun j u hu=>Cell.own (hF _ (List.mem_singleton.2 rfl)) (by rw [Nat.zero_add];exact hc j u hu)⟩)
theorem SlO.freeze {A:M}{I:Imm}{T n len:Nat}{X F:LH}{v:Value}{cells:List Value}(h:SlO T n X v cells len)(hk:∀I',Ext I I'→SlI I' n v cells len→Gh A I' F):Gh A I (X++F):=by
 obtain ⟨hl,h⟩:=h;rcases h with ⟨rfl,rfl,a,rfl⟩|⟨b,cap,cs,rfl,rfl,hcs,hle,hc⟩
 ·exact hk I (Ext.refl I) ⟨hl,a,0,rfl,Nat.le_refl _,fun h=>absurd rfl h⟩
 ·exact Gh.freeze fun hext=>hk _ hext ⟨hl,_,cap,rfl,hle,fun _=>⟨b,0,cs,T,(0,0),rfl,by simp [Imm.put],fun j u hu=>by rw [Nat.zero_add];exact hc j u hu⟩⟩
theorem Fz (z:Array Value)(k:Nat):(Builtin.zeroCells z k).size=k * z.size:=by simp [Builtin.zeroCells]
theorem AJT {I:Imm}{X L F:LH}[hsp:SplitL X L F]{T n bytes len m:Nat}{z:Array Value}{s x:Value}{cells news:List Value}{K:Value→M}(hz:z.size=n)(ho:SlO T n X s cells len)(hn:News n x I L m news)
  (h1:∀u∈news,u.oneCell'=true) (hb:(len+m) * bytes≤150000000000000) (hm:len+m≤150000000000000)
  (hk:∀X' v',SlO T n X' v' (cells++news) (len+m)→Gh (K v') I (X'++F)):App T n bytes z s x (gh K) I L:=by
 have hp:=hsp.perm;obtain ⟨hl,ho'⟩:=ho;have hnl:=hn.length;have hlen:(cells++news).length=(len+m) * n:=by rw [List.length_append,hl,hnl,Nat.add_mul]
 rcases ho' with ⟨rfl,rfl,a,rfl⟩|⟨b,cap,cs,rfl,rfl,hcs,hle,hc⟩
 ·have hce:cells=[]:=List.eq_nil_of_length_eq_zero (by simpa using hl);subst hce;refine ⟨a,0,0,m,news,rfl,hn,h1,?_⟩;by_cases h0:m=0
  ·subst h0;have:news=[]:=List.eq_nil_of_length_eq_zero (by simpa using hnl);subst this;exact .inl ⟨Nat.le_refl _,rfl,Gh.perm hp (hk [] (.slice a 0 0) (SlO.empty T n a))⟩
  ·refine .inr (.inr ⟨by omega,hb,hm,[],L,.inl ⟨a,0,rfl,rfl,rfl⟩,List.Sublist.refl _,fun b c hc=>?_⟩);refine Gh.perm (List.Perm.cons _ hp) (hk [(b,_)] _ ⟨hlen,.inr ⟨b,c,_,rfl,rfl,?_,hc,?_⟩⟩)
   ·simp only [List.nil_append,Array.size_append,List.size_toArray,Fz,hz,hnl];rw [←Nat.add_mul];congr 1;omega
   ·intro j u hu;simp only [List.nil_append] at hu ⊢;have hlt:j < news.length:=(List.getElem?_eq_some_iff.1 hu).1;rw [Array.getElem?_append_left (by simpa using hlt)];simpa using hu
 ·have hmem:(b,Obj.cells cs T (0,0))∈L:=hp.mem_iff.2 (List.mem_append_left _ (List.mem_singleton.2 rfl));obtain ⟨L1,L2,rfl⟩:=List.append_of_mem hmem;have hF:(L1++L2).Perm F:=by
   have h2:(L1++(b,Obj.cells cs T (0,0))::L2).Perm ((b,Obj.cells cs T (0,0))::(L1++L2)):=List.perm_middle;exact (List.perm_cons _).1 (h2.symm.trans hp)
  refine ⟨_,len,cap,m,news,rfl,hn,h1,?_⟩;by_cases hfit:len+m≤cap
  ·refine .inr (.inl ⟨hfit,b,0,cs,T,L1,L2,rfl,rfl,by rw [hcs,Nat.zero_add];exact Nat.mul_le_mul_right n hfit,?_⟩);refine Gh.perm (List.perm_middle.trans (List.Perm.cons _ hF)) (hk [(b,_)] _ ⟨hlen,.inr ⟨b,cap,_,rfl,rfl,by rw [PS];exact hcs,hfit,?_⟩⟩);have hroom:0+len * n+news.length≤cs.size:=by
    rw [hcs,hnl,Nat.zero_add,←Nat.add_mul];exact Nat.mul_le_mul_right n hfit
   intro j u hu;rw [Yg news cs (0+len * n) j hroom];simp only [Nat.zero_add] at hroom ⊢;by_cases hj:j < len * n
   ·rw [if_pos hj];rw [List.getElem?_append_left (by omega)] at hu;exact hc j u hu
   ·rw [if_neg hj];rw [List.getElem?_append_right (by omega),hl] at hu;have hlt:=(List.getElem?_eq_some_iff.1 hu).1;rw [if_pos (by omega)];exact hu
  ·refine .inr (.inr ⟨by omega,hb,hm,cells,L1++L2,.inr (.inl ⟨b,0,cap,rfl,hl,fun j u hu=>Cell.own hmem (by rw [Nat.zero_add];exact hc j u hu)⟩),
    List.Sublist.append (List.Sublist.refl _) (List.sublist_cons_self ..),fun b' c hcc=>?_⟩)
   refine Gh.perm (List.Perm.cons _ hF) (hk [(b',_)] _ ⟨hlen,.inr ⟨b',c,_,rfl,rfl,?_,hcc,?_⟩⟩)
   ·simp only [Array.size_append,List.size_toArray,Fz,hz,hlen];rw [←Nat.add_mul];congr 1;omega
   ·intro j u hu;have hlt:j < (cells++news).length:=(List.getElem?_eq_some_iff.1 hu).1;rw [Array.getElem?_append_left (by simpa using hlt)];simpa using hu
theorem DW {I:Imm}{X L F:LH}[hsp:SplitL X L F]{T n bytes len m:Nat}{z:Array Value}{s x:Value}{cells news:List Value}{K:Value→M}(hz:z.size=n)(ho:SlO T n X s cells len)(hn:News n x I L m news)
  (h1:∀u∈news,u.oneCell'=true) (hb:(len+m) * bytes≤150000000000000) (hm:len+m≤150000000000000)
  (hk:∀X' v',SlO T n X' v' (cells++news) (len+m)→K v' I (X'++F)):App T n bytes z s x (gh K) I L:=AJT hz ho hn h1 hb hm (fun X' v' h=>Gh.done (hk X' v' h))
theorem AOQ {I:Imm}{F:LH}{T bytes:Nat}{z:Array Value}{ln cn:Nat}{K:Value→M}(hlc:ln≤cn)(hc:cn≤140737488355328)(hb:cn * bytes≤281474976710656)
  (hk:∀X v,SlO T z.size X v (Builtin.zeroCells z ln).toList ln→K v I (X++F)):MkS T bytes z (.int .i64 ln) (.int .i64 cn) (gh K) I F:=by
 refine ⟨.i64,.i64,ln,cn,rfl,rfl,hlc,hc,hb,fun b=>?_⟩;refine Gh.done (hk [(b,_)] _ ⟨by simp [Fz],.inr ⟨b,cn,_,rfl,rfl,Fz z cn,hlc,?_⟩⟩);intro j u hu;have hlt:j < ln * z.size:=by have:=(List.getElem?_eq_some_iff.1 hu).1;simpa [Fz] using this
 have hlt':j < cn * z.size:=Nat.lt_of_lt_of_le hlt (Nat.mul_le_mul_right _ hlc);simp only [Builtin.zeroCells,Array.toList_map,List.getElem?_map,Array.toList_range,List.getElem?_range hlt,Option.map_some,Option.some.injEq] at hu;simp only [Builtin.zeroCells,Array.getElem?_map,Array.getElem?_range,hlt',if_true,Option.map_some,hu]
theorem AIc {I:Imm}{F:LH}{T n:Nat}{z:Array Value}{v:Value}{K:Value→M}(hz:z.size=n)(hn:0 < n)(hv:v.cells.size=n)
  (hk:∀X u,SlO T n X u v.cells.toList 1→Gh (K u) I (X++F)):AX T n z 1 [(0,v)] (gh K) I F:=by
 have hfold:∀(vs:List Value) (cs:Array Value) (k:Nat),k+vs.length≤cs.size→(vs.zipIdx k).foldl (fun cs (c,j)=>cs.setIfInBounds (0+j) c) cs=wr cs k vs:=by
  intro vs;induction vs with
  |nil=>intro cs k _;rfl
  |cons v vs ih=>
   intro cs k hk;simp only [List.zipIdx_cons,List.foldl_cons,wr,Nat.zero_add];simp only [List.length_cons] at hk;have:=ih (cs.setIfInBounds k v) (k+1) (by simp;omega);simpa using this
 refine ⟨v.cells,?_,fun b=>?_⟩
 ·simp only [Instr.fill];have h0:((Array.range (1 * n)).map (fun x=>z[x % z.size]!)).size=n:=by simp
  rw [h0];have hc:¬((decide (v.cells.size≠n)||decide (0 * n+v.cells.size > n))=true):=by simp [hv]
  rw [if_neg hc];congr 1
  rw [←Array.foldl_toList];simp only [Array.toList_zipIdx,Nat.zero_mul];rw [hfold _ _ 0 (by rw [h0];simp [hv]),WN _ _ 0 (by rw [h0];simp [hv])];apply Array.ext'
  simp [hv]
 ·exact hk [(b,_)] _ ⟨by simp [hv],.inr ⟨b,1,_,rfl,rfl,by omega,Nat.le_refl _,fun j u hu=>by simpa using hu⟩⟩
theorem En {I:Imm}{F:LH}{T n:Nat}{z:Array Value}{v:Value}{K:Value→M}(hz:z.size=n)(hn:0 < n)(hv:v.cells.size=n)
  (hk:∀X u,SlO T n X u v.cells.toList 1→K u I (X++F)):AX T n z 1 [(0,v)] (gh K) I F:=AIc hz hn hv (fun X u h=>Gh.done (hk X u h))
theorem WF (k:IntKind)(i d y:Nat)(h:i≤y):EC (some (.int k i)) d y=some i:=by
 simp only [EC];rw [if_pos (by omega)];simp
def u8s (l:List UInt8):List Value:=l.map fun c=>.int .u8 c.toNat
def Bytes (I:Imm)(v:Value)(l:List UInt8):Prop:=SlI I 1 v (u8s l) l.length
def Recs {α:Type}(R:α→List Value→Prop)(n:Nat):List α→List Value→Prop
 |[],cells=>cells=[]
 |x::xs,cells=>(cells.take n).length=n∧R x (cells.take n)∧Recs R n xs (cells.drop n)
section recs
variable {α:Type}{R R':α→List Value→Prop}{n:Nat}
theorem Recs.length:∀{xs:List α} {cells:List Value},Recs R n xs cells→cells.length=xs.length * n
 |[],cells,h=>by rw [h];simp
 |x::xs,cells,⟨h1,_,h2⟩=>by
  have:=Recs.length h2;rw [List.length_drop] at this;rw [List.length_take] at h1;simp only [List.length_cons,Nat.add_mul,Nat.one_mul];omega
theorem Recs.imp (hR:∀x c,R x c→R' x c):∀{xs:List α} {cells:List Value},Recs R n xs cells→Recs R' n xs cells
 |[],_,h=>h
 |_::_,_,⟨h1,h2,h3⟩=>⟨h1,hR _ _ h2,Recs.imp hR h3⟩
theorem Recs.append:∀{xs ys:List α} {cs ds:List Value},Recs R n xs cs→Recs R n ys ds→Recs R n (xs++ys) (cs++ds)
 |[],ys,cs,ds,h,h'=>by rw [show cs=[] from h];exact h'
 |x::xs,ys,cs,ds,⟨h1,h2,h3⟩,h'=>by
  have hle:n≤cs.length:=by rw [List.length_take] at h1;omega
  refine ⟨?_,?_,?_⟩
  ·rw [List.take_append_of_le_length hle];exact h1
  ·rw [List.take_append_of_le_length hle];exact h2
  ·rw [List.drop_append_of_le_length hle];exact Recs.append h3 h'
theorem Recs.one {x:α}{c:List Value}(hl:c.length=n)(h:R x c):Recs R n [x] c:=by
 refine ⟨by rw [List.take_of_length_le (by omega)];exact hl,by rw [List.take_of_length_le (by omega)];exact h,?_⟩;show c.drop n=[];simp [hl]
theorem Recs.one_cells (hR:∀x c,R x c→∀u∈c,u.oneCell'=true):∀{xs:List α} {cells:List Value},Recs R n xs cells→∀u∈cells,u.oneCell'=true
 |[],cells,h,u,hu=>by rw [show cells=[] from h] at hu;cases hu
 |x::xs,cells,⟨_,h2,h3⟩,u,hu=>by
  rw [←List.take_append_drop n cells] at hu;rcases List.mem_append.1 hu with hu|hu
  ·exact hR _ _ h2 u hu
  ·exact Recs.one_cells hR h3 u hu
theorem Recs.get:∀{xs:List α} {cells:List Value} {i:Nat} {x:α},Recs R n xs cells→xs[i]? =some x→((cells.drop (i * n)).take n).length=n∧R x ((cells.drop (i * n)).take n)
 |[],_,_,_,_,h=>by simp at h
 |y::ys,cells,0,x,⟨h1,h2,_⟩,h=>by
  simp only [List.getElem?_cons_zero,Option.some.injEq] at h;subst h;simpa using ⟨by simpa using h1,h2⟩
 |y::ys,cells,i+1,x,⟨_,_,h3⟩,h=>by
  have:=Recs.get (i:=i) h3 (by simpa using h);rw [List.drop_drop] at this;rwa [show (i+1) * n=n+i * n from by rw [Nat.add_mul];omega]
theorem Recs.take:∀{xs:List α} {cells:List Value} (k:Nat),Recs R n xs cells→Recs R n (xs.take k) (cells.take (k * n))
 |[],cells,k,h=>by rw [show cells=[] from h];simp [Recs]
 |x::xs,cells,0,_=>by simp [Recs]
 |x::xs,cells,k+1,⟨h1,h2,h3⟩=>by
  have hle:n≤(k+1) * n:=by rw [Nat.add_mul];omega
  refine ⟨?_,?_,?_⟩
  ·rw [List.take_take,Nat.min_eq_left hle];exact h1
  ·rw [List.take_take,Nat.min_eq_left hle];exact h2
  ·have:=Recs.take k h3;rw [List.drop_take];rwa [show (k+1) * n - n=k * n from by rw [Nat.add_mul];omega]
theorem Recs.drop:∀{xs:List α} {cells:List Value} (k:Nat),Recs R n xs cells→Recs R n (xs.drop k) (cells.drop (k * n))
 |[],cells,k,h=>by rw [show cells=[] from h];simp [Recs]
 |x::xs,cells,0,h=>by simpa using h
 |x::xs,cells,k+1,⟨_,_,h3⟩=>by
  have:=Recs.drop k h3;rw [List.drop_drop] at this;rwa [show (k+1) * n=n+k * n from by rw [Nat.add_mul];omega]
end recs
def DC (w:World):Imm:=fun b=>w.heap[b]?
def ASM (w:World):Om:=⟨w.tape,w.os,w.output,w.drawn⟩
theorem st_start (w:World):St (ASM w) w (DC w) []:=⟨fun _ _ h=>h,fun _ _ h=>(List.not_mem_nil h).elim,List.nodup_nil,fun _ _ h=>(List.not_mem_nil h).elim,rfl,rfl,rfl,Nat.le_refl _⟩
theorem law_below {P:Program}{f:FuncId}{args:Array Value}{w:World}(h:∀ω,Cal P ω f args (fun v I' _=>v= .bool true∧Ext (DC w) I') (DC w) []):
  Calls P f args w fun e w'=>e= .returned (.bool true)∧RowKit.Below w.heap.size w w':=by
 refine (h (ASM w) w (st_start w)).mono ?_;rintro e w' ⟨v,I',L',rfl,hs,rfl,hI⟩;have hblk:∀k,k < w.heap.size→w'.heap[k]? =w.heap[k]? :=by
  intro k hk;have h1:DC w k=some w.heap[k]:=Array.getElem?_eq_getElem hk;rw [hs.imm k _ (hI k _ h1)];exact h1.symm
 refine ⟨rfl,hs.os,hs.tape,hs.out,?_,hblk⟩;rcases Nat.eq_zero_or_pos w.heap.size with h0|h0
 ·omega
 ·have:=hblk (w.heap.size - 1) (by omega);rw [Array.getElem?_eq_getElem (by omega:w.heap.size - 1 < w.heap.size)] at this;have:=(Array.getElem?_eq_some_iff.1 this).1;omega
def TrR (rz:Nat)(P:Program)(w:World)(T:TypeId)(cs:List Value):Prop:=
 ∃(H:Type) (enc:TypeId×Value→H) (fuel:Nat) (d:DataW H) (ps:List MemPlace),DataW.trod enc P w 0 (fun _=>true) true fuel T cs=some (d,ps)∧(d.weights P T).all (·≤rz)=true
section
variable {rz:Nat}{P:Program}{w:World}{T:TypeId}{cs:List Value}
theorem ARC {fs:Array Field}(hu:P.underlying T=some (.struct fs))(h:TrR rz P w T cs):cs.length=P.cellsOf T∧∀f∈fs.toList,TrR rz P w f.type ((cs.drop f.offset).take (P.cellsOf f.type)):=by
 obtain ⟨H,enc,fuel,d,ps,h,hw⟩:=h;cases fuel with
 |zero=>simp [DataW.trod] at h
 |succ fuel=>
  have h':(if cs.length=P.cellsOf T then (fs.toList.mapM fun f=>DataW.trod enc P w 0 (fun _=>true) true fuel f.type ((cs.drop f.offset).take (P.cellsOf f.type))).map fun xs=>(DataW.agg (xs.map (·.1)),xs.flatMap (·.2)) else none)=some (d,ps):=by
   rw [←h];simp only [DataW.trod,hu]
  split at h'
  ·rename_i hlen
   refine ⟨hlen,?_⟩;obtain ⟨xs,hxs,hd⟩:=Option.map_eq_some_iff.1 h';simp only [Prod.mk.injEq] at hd;obtain ⟨rfl,_⟩:=hd;simp only [DataW.weights,hu] at hw;have key:∀(l:List Field) (xs:List (DataW H×List MemPlace)),(l.mapM fun f=>DataW.trod enc P w 0 (fun _=>true) true fuel f.type ((cs.drop f.offset).take (P.cellsOf f.type)))=some xs→
     (DataW.weightsEach P (l.map (·.type)) (xs.map (·.1))).all (·≤rz)=true→∀f∈l,TrR rz P w f.type ((cs.drop f.offset).take (P.cellsOf f.type)):=by
    intro l;induction l with
    |nil=>intro xs _ _ f hf;cases hf
    |cons g l ih=>
     intro xs hxs hw f hf;simp only [List.mapM_cons,Option.bind_eq_bind,Option.bind_eq_some_iff] at hxs;obtain ⟨y,hy,ys,hys,he⟩:=hxs;simp only [Option.pure_def,Option.some.injEq] at he;subst he;simp only [List.map_cons,DataW.weightsEach,List.all_append,Bool.and_eq_true] at hw;rcases List.mem_cons.1 hf with rfl|hf
     ·exact ⟨H,enc,fuel,y.1,y.2,hy,hw.1⟩
     ·exact ih ys hys hw.2 f hf
   exact key fs.toList xs hxs hw
  ·cases h'
theorem mapM_len {α β:Type}{f:α→Option β}:∀(l:List α) (r:List β),l.mapM f=some r→r.length=l.length
 |[],r,h=>by simp at h;subst h;rfl
 |x::l,r,h=>by
  simp only [List.mapM_cons,Option.bind_eq_bind,Option.bind_eq_some_iff] at h;obtain ⟨y,_,ys,hys,he⟩:=h;simp only [Option.pure_def,Option.some.injEq] at he;subst he;simp [mapM_len l ys hys]
theorem KT {α β:Type}{f:α→Option β}:∀(l:List α) (r:List β),l.mapM f=some r→∀(i:Nat) (x:α),l[i]? =some x→∃y,r[i]? =some y∧f x=some y
 |[],r,h,i,x,hx=>by simp at hx
 |z::l,r,h,i,x,hx=>by
  simp only [List.mapM_cons,Option.bind_eq_bind,Option.bind_eq_some_iff] at h;obtain ⟨y,hy,ys,hys,he⟩:=h;simp only [Option.pure_def,Option.some.injEq] at he;subst he;cases i with
  |zero=>simp at hx;subst hx;exact ⟨y,rfl,hy⟩
  |succ i=>simpa using KT l ys hys i x (by simpa using hx)
theorem wf_i64 {n:Int}(h:(Lit.int .i64 n).wf=true): -9223372036854775808≤n∧n≤9223372036854775807:=by
 have e1:IntKind.i64.min= -9223372036854775808:=by decide
 have e2:IntKind.i64.max=9223372036854775807:=by decide
 simp only [Lit.wf,e1,e2,Bool.and_eq_true,decide_eq_true_eq] at h;exact h
variable {r:Reach}{base:Nat}{v:Value}
end
end Go.SL
namespace Go.Proofs.YtkifgfanjcfedaaGreatDoor.bulk
open Go.SL
def KD (P:Program)(N C T:Nat):Bool:=Nat.ble (P.bytesOf T) C&&match P.underlying T with
 |some (.pointer e)=>Nat.blt e N
 |some (.slice e)=>Nat.blt e N
 |some (.array _ e)=>Nat.blt e N
 |some (.struct fs)=>fs.toList.all fun f=>Nat.blt f.type N
 |some (.map k e)=>Nat.blt k N&&Nat.blt e N
 |_=>true
def closedB (P:Program)(N C:Nat):Bool:=(List.range N).all (KD P N C)
theorem AQq {a b:Nat}(h:Nat.ble a b=true):a≤b:=Nat.le_of_ble_eq_true h
theorem MV {a b:Nat}(h:Nat.blt a b=true):a < b:=Nat.le_of_ble_eq_true h
section
variable {H:Type}{P:Program}{C N:Nat}(hC1:1≤C)(hcl:closedB P N C=true)
theorem typ {T:Nat}(hcl:closedB P N C=true)(h:T < N):KD P N C T=true:=List.all_eq_true.1 hcl T (List.mem_range.2 h)
theorem byt {T:Nat}(hcl:closedB P N C=true)(h:T < N):P.bytesOf T≤C:=by
 have:=typ hcl h;simp only [KD,Bool.and_eq_true] at this;exact AQq this.1
theorem one_le (d:DataW H):1≤Rows.uptoBulk d:=by
 cases d with
 |lit l=>cases l <;> simp [Rows.uptoBulk]
 |_=>simp [Rows.uptoBulk]
theorem AAH:∀l:List (DataW H),l.length≤Rows.uptoBulkAll l
 |[]=>by simp [Rows.uptoBulkAll]
 |x::r=>by
  have h1:=one_le x;have h2:=AAH r;simp only [Rows.uptoBulkAll,List.length_cons];omega
theorem ACh:∀l:List (Lit×DataW H),l.length≤Rows.uptoBulkEntries l
 |[]=>by simp [Rows.uptoBulkEntries]
 |(a,d)::r=>by
  have h1:1≤Rows.uptoBulkEntry (a,d):=by cases a <;> simp [Rows.uptoBulkEntry]
  have h2:=ACh r;simp only [Rows.uptoBulkEntries,List.length_cons];omega
include hC1 hcl
mutual
theorem w1:∀(d:DataW H) (T:TypeId),T < N→∀x∈d.weights P T,x≤Rows.uptoBulk d * (2 * C)
 | .lit (.string bytes),T=>fun hT x hx=>by
  simp only [DataW.weights,List.mem_singleton] at hx;subst hx;simp only [Rows.uptoBulk];exact Nat.le_trans (Nat.le_succ _) (Nat.le_mul_of_pos_right _ (by omega))
 | .lit (.bool _),T=>fun hT x hx=>by simp [DataW.weights] at hx
 | .lit (.int _ _),T=>fun hT x hx=>by simp [DataW.weights] at hx
 | .lit (.float _ _),T=>fun hT x hx=>by simp [DataW.weights] at hx
 | .lit .nil,T=>fun hT x hx=>by simp [DataW.weights] at hx
 | .nil,T=>fun hT x hx=>by simp [DataW.weights] at hx
 | .ptr d,T=>fun hT x hx=>by
  simp only [DataW.weights] at hx;split at hx
  ·rename_i e he
   have hk:=typ hcl hT;simp only [KD,he,Bool.and_eq_true] at hk;exact Nat.le_trans (w1 d _ (MV hk.2) x hx) (Nat.mul_le_mul_right _ (by simp only [Rows.uptoBulk];omega))
  ·cases hx
 | .slice elems spare,T=>fun hT x hx=>by
  simp only [DataW.weights] at hx;split at hx
  ·rename_i e he
   have hk:=typ hcl hT;simp only [KD,he,Bool.and_eq_true] at hk;have hT:=MV hk.2;rcases List.mem_cons.1 hx with rfl|hx
   ·have h1:=AAH elems;have h2:=AAH spare;refine Nat.mul_le_mul ?_ (Nat.le_trans (byt hcl hT) (by omega));simp only [Rows.uptoBulk];omega
   ·rcases List.mem_append.1 hx with hx|hx
    ·exact Nat.le_trans (AJe elems _ hT x hx) (Nat.mul_le_mul_right _ (by simp only [Rows.uptoBulk];omega))
    ·exact Nat.le_trans (AJe spare _ hT x hx) (Nat.mul_le_mul_right _ (by simp only [Rows.uptoBulk];omega))
  ·cases hx
 | .agg parts,T=>fun hT x hx=>by
  simp only [DataW.weights] at hx;split at hx
  ·rename_i fs he
   have hk:=typ hcl hT;simp only [KD,he,Bool.and_eq_true,List.all_eq_true] at hk;refine Nat.le_trans (AEr parts _ (fun t ht=>?_) x hx) (Nat.mul_le_mul_right _ (by simp only [Rows.uptoBulk];omega));obtain ⟨f,hf,rfl⟩:=List.mem_map.1 ht;exact MV (hk.2 f hf)
  ·rename_i n e he
   have hk:=typ hcl hT;simp only [KD,he,Bool.and_eq_true] at hk;exact Nat.le_trans (AJe parts _ (MV hk.2) x hx) (Nat.mul_le_mul_right _ (by simp only [Rows.uptoBulk];omega))
  ·cases hx
 | .iface _ _,T=>fun hT x hx=>by simp [DataW.weights] at hx
 | .map entries,T=>fun hT x hx=>by
  simp only [DataW.weights] at hx;split at hx
  ·rename_i k e he
   have hk:=typ hcl hT;simp only [KD,he,Bool.and_eq_true] at hk;rcases List.mem_cons.1 hx with rfl|hx
   ·have h1:=ACh entries;have h2:=byt hcl (MV hk.2.1);have h3:=byt hcl (MV hk.2.2);refine Nat.mul_le_mul ?_ (by omega);simp only [Rows.uptoBulk];omega
   ·exact Nat.le_trans (WT entries _ (MV hk.2.2) x hx) (Nat.mul_le_mul_right _ (by simp only [Rows.uptoBulk];omega))
  ·cases hx
 | .held _,T=>fun hT x hx=>by simp [DataW.weights] at hx
theorem AJe:∀(l:List (DataW H)) (T:TypeId),T < N→∀x∈DataW.weightsAll P T l,x≤Rows.uptoBulkAll l * (2 * C)
 |[],_=>fun hT x hx=>by simp [DataW.weightsAll] at hx
 |d::r,T=>fun hT x hx=>by
  simp only [DataW.weightsAll] at hx;rcases List.mem_append.1 hx with hx|hx
  ·exact Nat.le_trans (w1 d _ hT x hx) (Nat.mul_le_mul_right _ (by simp only [Rows.uptoBulkAll];omega))
  ·exact Nat.le_trans (AJe r _ hT x hx) (Nat.mul_le_mul_right _ (by simp only [Rows.uptoBulkAll];omega))
theorem AEr:∀(l:List (DataW H)) (ts:List TypeId),(∀t∈ts,t < N)→∀x∈DataW.weightsEach P ts l,x≤Rows.uptoBulkAll l * (2 * C)
 |[],ts=>fun hT x hx=>by cases ts <;> simp [DataW.weightsEach] at hx
 |d::r,[]=>fun hT x hx=>by simp [DataW.weightsEach] at hx
 |d::r,t::ts=>fun hT x hx=>by
  simp only [DataW.weightsEach] at hx;rcases List.mem_append.1 hx with hx|hx
  ·exact Nat.le_trans (w1 d _ (hT t (List.mem_cons_self ..)) x hx) (Nat.mul_le_mul_right _ (by simp only [Rows.uptoBulkAll];omega))
  ·exact Nat.le_trans (AEr r ts (fun t ht=>hT t (List.mem_cons_of_mem _ ht)) x hx) (Nat.mul_le_mul_right _ (by simp only [Rows.uptoBulkAll];omega))
theorem WT:∀(l:List (Lit×DataW H)) (T:TypeId),T < N→∀x∈DataW.weightsEntries P T l,x≤Rows.uptoBulkEntries l * (2 * C)
 |[],_=>fun hT x hx=>by simp [DataW.weightsEntries] at hx
 |d::r,T=>fun hT x hx=>by
  simp only [DataW.weightsEntries] at hx;rcases List.mem_append.1 hx with hx|hx
  ·exact Nat.le_trans (ANk d _ hT x hx) (Nat.mul_le_mul_right _ (by simp only [Rows.uptoBulkEntries];omega))
  ·exact Nat.le_trans (WT r _ hT x hx) (Nat.mul_le_mul_right _ (by simp only [Rows.uptoBulkEntries];omega))
theorem ANk:∀(d:Lit×DataW H) (T:TypeId),T < N→∀x∈DataW.weightsEntry P T d,x≤Rows.uptoBulkEntry d * (2 * C)
 |(.string bytes,d),T=>fun hT x hx=>by
  simp only [DataW.weightsEntry] at hx;rcases List.mem_cons.1 hx with rfl|hx
  ·simp only [Rows.uptoBulkEntry];exact Nat.le_trans (show bytes.length≤bytes.length+Rows.uptoBulk d+1 by omega) (Nat.le_mul_of_pos_right _ (by omega))
  ·exact Nat.le_trans (w1 d _ hT x hx) (Nat.mul_le_mul_right _ (by simp only [Rows.uptoBulkEntry];omega))
 |(.bool _,d),T=>fun hT x hx=>Nat.le_trans (w1 d T hT x (by simpa only [DataW.weightsEntry] using hx)) (Nat.mul_le_mul_right _ (by simp only [Rows.uptoBulkEntry];omega))
 |(.int _ _,d),T=>fun hT x hx=>Nat.le_trans (w1 d T hT x (by simpa only [DataW.weightsEntry] using hx)) (Nat.mul_le_mul_right _ (by simp only [Rows.uptoBulkEntry];omega))
 |(.float _ _,d),T=>fun hT x hx=>Nat.le_trans (w1 d T hT x (by simpa only [DataW.weightsEntry] using hx)) (Nat.mul_le_mul_right _ (by simp only [Rows.uptoBulkEntry];omega))
 |(.nil,d),T=>fun hT x hx=>Nat.le_trans (w1 d T hT x (by simpa only [DataW.weightsEntry] using hx)) (Nat.mul_le_mul_right _ (by simp only [Rows.uptoBulkEntry];omega))
end
theorem small {ds:List (DataW H)}{ts:List TypeId}(hts:∀t∈ts,t < N)(hk:Rows.uptoSmall H ds=true):(DataW.weightsEach P ts ds).all (·≤1048576 * (2 * C))=true:=by
 have h:Rows.uptoBulkAll ds≤1048576:=of_decide_eq_true hk;rw [List.all_eq_true];intro x hx;exact decide_eq_true (Nat.le_trans (AEr hC1 hcl ds ts hts x hx) (Nat.mul_le_mul_right _ h))
end
end Go.Proofs.YtkifgfanjcfedaaGreatDoor.bulk
namespace Go.SL
section
variable {I:Imm}{L:LH}{K:Value→M}
theorem Be {A B:M}(e:A=B)(h:B I L):A I L:=e ▸ h
end
theorem ADC (A B:M):Gd (.bool true) true A B=A:=rfl
theorem ADF (A B:M):Gd (.bool false) true A B=B:=rfl
theorem ADE (A B:M):Gd (.bool true) false A B=B:=rfl
theorem ADG (A B:M):Gd (.bool false) false A B=A:=rfl
class LSub (L L':LH):Prop where
 sub:∀x∈L,x∈L'
instance (priority:=100) lsubRefl (L:LH):LSub L L:=⟨fun _ h=>h⟩
instance (priority:=110) lsubNil (L:LH):LSub [] L:=⟨fun _ h=>by cases h⟩
instance (priority:=90) lsubCons (L L':LH)(y:Nat×Obj)[h:LSub L L']:LSub L (y::L'):=⟨fun x hx=>List.mem_cons_of_mem _ (h.sub x hx)⟩
instance (priority:=90) lsubApp (L A L':LH)[h:LSub L L']:LSub L (A++L'):=⟨fun x hx=>List.mem_append_right _ (h.sub x hx)⟩
instance (priority:=80) lsubAppL (L A L':LH)[h:LSub L A]:LSub L (A++L'):=⟨fun x hx=>List.mem_append_left _ (h.sub x hx)⟩
section readsC
variable {I I0 I1:Imm}{L L0 X:LH}{K:Value→M}{b off n:Nat}{v:Value}
theorem Cells.mono {vs:List Value}(h:Cells I0 L0 b off vs)(hI:Ext I0 I)(hL:∀x∈L0,x∈L):Cells I L b off vs:=fun j u hu=>(h j u hu).mono hI hL
theorem Cells.sub {vs:List Value}{k m:Nat}(h:Cells I L b off vs):Cells I L b (off+k) ((vs.drop k).take m):=fun j u hu=>by
 rw [List.getElem?_take] at hu;split at hu
 ·rw [List.getElem?_drop] at hu;have:=h (k+j) u hu;rwa [←Nat.add_assoc] at this
 ·cases hu
theorem rdC [hl:LSub L0 L](hc:Cell I0 L0 b off v)(hI:Ext I0 I)(hk:K v I L):Rv none (Ap (.pointer (some ⟨b,off,none⟩))) K I L:=rd1 (hc.mono hI hl.sub) hk
theorem ASH [hl:LSub L0 X](hc:Cell I0 L0 b off v)(hI:Ext I0 I1)(hk:K v I L):Rv (some (Stay I1 X)) (Ap (.pointer (some ⟨b,off,none⟩))) K I L:=Ip (hc.mono hI hl.sub) hk
theorem Ed [hl:LSub L0 L]{vs:List Value}(hc:Cells I0 L0 b off vs)(hI:Ext I0 I)(hn:vs.length=n)(hk:K (.agg vs.toArray) I L):Rv none (AC n (.pointer (some ⟨b,off,none⟩))) K I L:=rdN hn (hc.mono hI hl.sub) hk
theorem ASG [hl:LSub L0 X]{vs:List Value}(hc:Cells I0 L0 b off vs)(hI:Ext I0 I1)(hn:vs.length=n)(hk:K (.agg vs.toArray) I L):Rv (some (Stay I1 X)) (AC n (.pointer (some ⟨b,off,none⟩))) K I L:=OG hn (hc.mono hI hl.sub) hk
theorem Bv [hl:LSub X L](hI:Ext I0 I)(hk:K v I L):Cm (Stay I0 X) K v I L:=ASQ hI hl.sub hk
theorem keepA [hl:LSub X L](hk:K v I L)(hI:Ext I0 I:=by repeat (first|exact Ext.refl _|assumption|refine Ext.trans ?_ zA)):Cm (Stay I0 X) K v I L:=Bv hI hk
theorem EM {B:M→M}(h:B (Stay I L) I L):CP B I L:=draw _ (Stay.start I L) h
end readsC
def PN {α:Type}[Inhabited α](l:List α)(i:Int):α:=l.getD i.toNat default
theorem Ah {α:Type}[Inhabited α]{l:List α}{k:Nat}(h:k < l.length):PN l (k:Int)=l[k]:=by
 simp [PN,List.getD,h]
theorem AEM {α:Type}[Inhabited α]{l:List α}{i:Int}(h0:0≤i)(h1:i < l.length):l[i.toNat]? =some (PN l i):=by
 have:i.toNat < l.length:=by omega
 simp [PN,List.getD,this]
theorem ACi (b off n:Nat)(k:IntKind)(len cap:Nat)(i:Int)(h0:0≤i)(h1:i < len):ixV n (.slice (some ⟨b,off,none⟩) len cap) (.int k i)=some (.pointer (some ⟨b,off+i.toNat * n,none⟩)):=by
 simp only [ixV];rw [if_pos ⟨h0,h1⟩]
theorem News.ix {I:Imm}{L:LH}{n m:Nat}{a:Option Addr}{cap:Nat}{cells:List Value}(h:News n (.slice a m cap) I L m cells)(k:IntKind){i:Int}(h0:0≤i)(h1:i < m):
  ∃b off,ixV n (.slice a m cap) (.int k i)=some (.pointer (some ⟨b,off,none⟩))∧∀I' L',Ext I I'→(∀x∈L,x∈L')→Cells I' L' b off ((cells.drop (i.toNat * n)).take n):=by
 rcases h with ⟨a',cap',h2,h3,_⟩|⟨b,off,cap',h2,hl,hc⟩|⟨s,h2,_⟩
 ·omega
 ·simp only [Value.slice.injEq] at h2;obtain ⟨rfl,_,rfl⟩:=h2;refine ⟨b,off+i.toNat * n,ACi b off n k m cap i h0 h1,fun I' L' hI hL j u hu=>?_⟩;rw [List.getElem?_take] at hu;split at hu
  ·rw [List.getElem?_drop] at hu;have:=(hc _ u hu).mono hI hL;rwa [←Nat.add_assoc] at this
  ·cases hu
 ·cases h2
def RL {α:Type}(R:Imm→α→List Value→Prop)(n:Nat)(I:Imm)(L:LH)(v:Value)(xs:List α):Prop:=
 ∃a cap cells,v= .slice a xs.length cap∧xs.length≤cap∧News n v I L xs.length cells∧Recs (R I) n xs cells
section rl
variable {α:Type}{R:Imm→α→List Value→Prop}{n:Nat}{I I':Imm}{L L':LH}{v:Value}{xs:List α}
theorem RL.len (h:RL R n I L v xs):lenV v=some (.int .i64 xs.length):=by
 obtain ⟨a,cap,cells,rfl,_⟩:=h;rfl
theorem RL.form (h:RL R n I L v xs):∃a cap,v= .slice a xs.length cap:=by
 obtain ⟨a,cap,cells,rfl,_⟩:=h;exact ⟨a,cap,rfl⟩
theorem News.mono {m:Nat}{news:List Value}(h:News n v I L m news)(hI:Ext I I')(hL:∀x∈L,x∈L'):News n v I' L' m news:=by
 rcases h with h|⟨b,off,cap,h1,h2,h3⟩|h
 ·exact .inl h
 ·exact .inr (.inl ⟨b,off,cap,h1,h2,fun j u hu=>(h3 j u hu).mono hI hL⟩)
 ·exact .inr (.inr h)
theorem RL.mono (hR:∀x c,R I x c→R I' x c)(h:RL R n I L v xs)(hI:Ext I I')(hL:∀x∈L,x∈L'):RL R n I' L' v xs:=by
 obtain ⟨a,cap,cells,hv,hc,hn,hr⟩:=h;exact ⟨a,cap,cells,hv,hc,hn.mono hI hL,hr.imp hR⟩
theorem RL.ofI {cells:List Value}(h:SlI I n v cells xs.length)(hr:Recs (R I) n xs cells):RL R n I L v xs:=by
 have hn:=SlI.news (L:=L) h;obtain ⟨_,a,cap,hv,hle,_⟩:=h;exact ⟨a,cap,cells,hv,hle,hn,hr⟩
theorem RL.nil (a:Option Addr)(cap:Nat):RL R n I L (.slice a 0 cap) []:=⟨a,cap,[],rfl,Nat.zero_le _,.inl ⟨a,cap,rfl,rfl,rfl⟩,rfl⟩
theorem RL.ix [Inhabited α](h:RL R n I L v xs){i:Int}(h0:0≤i)(h1:i < xs.length):
  ∃b off c,ixV n v (.int .i64 i)=some (.pointer (some ⟨b,off,none⟩))∧c.length=n∧R I (PN xs i) c∧∀I' L',Ext I I'→(∀x∈L,x∈L')→Cells I' L' b off c:=by
 obtain ⟨a,cap,cells,rfl,_,hn,hr⟩:=h;obtain ⟨b,off,hix,hc⟩:=News.ix hn .i64 h0 h1;obtain ⟨g1,g2⟩:=hr.get (AEM h0 h1);exact ⟨b,off,_,hix,g1,g2,hc⟩
theorem RL.part (h:RL R n I L v xs){lo hi:Nat}(h1:lo≤hi)(h2:hi≤xs.length)(blo bhi:Option Value)(hlo:EC blo 0 hi=some lo)(hhi:∀cap,xs.length≤cap→EC bhi xs.length cap=some hi):
  ∃v',Hu n v blo bhi none=some v'∧RL R n I L v' ((xs.drop lo).take (hi - lo)):=by
 obtain ⟨a,cap,cells,rfl,hcap,hn,hr⟩:=h;have hb1:=hhi cap hcap;have hlen:((xs.drop lo).take (hi - lo)).length=hi - lo:=by rw [List.length_take,List.length_drop];omega
 refine ⟨.slice (if cap=lo then a else a.map (·.add (lo * n))) (hi - lo) (cap - lo),?_,_,cap - lo,(cells.drop (lo * n)).take ((hi - lo) * n),by rw [hlen],by rw [hlen];omega,?_,?_⟩
 ·simp only [Hu];rw [if_neg (by simp)];simp only [EC] at hb1 hlo ⊢;simp [hb1,hlo]
 ·rw [hlen];by_cases h0:hi - lo=0
  ·rw [h0];exact .inl ⟨_,_,rfl,rfl,by simp⟩
  ·rcases hn with ⟨a',cap',e1,e2,_⟩|⟨b,off,cap',e1,hl,hc⟩|⟨s,e1,_⟩
   ·omega
   ·simp only [Value.slice.injEq] at e1;obtain ⟨rfl,_,rfl⟩:=e1;refine .inr (.inl ⟨b,off+lo * n,cap - lo,by rw [if_neg (by omega)];simp [Dk],?_,fun j u hu=>?_⟩)
    ·rw [List.length_take,List.length_drop,hl];apply Nat.min_eq_left
     rw [←Nat.sub_mul];exact Nat.mul_le_mul_right n (by omega)
    ·rw [List.getElem?_take] at hu;split at hu
     ·rw [List.getElem?_drop] at hu;have:=hc _ u hu;rwa [←Nat.add_assoc] at this
     ·cases hu
   ·cases e1
 ·exact (hr.drop lo).take (hi - lo)
theorem RL.clip (h:RL R n I L v xs){j:Nat}(hj:j≤xs.length):∃a',Hu n v none (some (.int .i64 j)) (some (.int .i64 j))=some (.slice a' j j)∧RL R n I L (.slice a' j j) (xs.take j):=by
 obtain ⟨a,cap,cells,rfl,hcap,hn,hr⟩:=h;have hlen:(xs.take j).length=j:=by rw [List.length_take];omega
 refine ⟨if j=0 then a else a.map (·.add (0 * n)),?_,_,j,cells.take (j * n),by rw [hlen],by rw [hlen];exact Nat.le_refl _,?_,hr.take j⟩
 ·simp only [Hu,Option.isNone_some,Bool.false_and,Bool.false_eq_true,if_false];rw [WF _ _ _ _ (by omega),Option.bind_some,WF _ _ _ _ (Nat.le_refl _),Option.bind_some,show EC none 0 j=some 0 from rfl,Option.bind_some];simp
 ·rw [hlen];by_cases h0:j=0
  ·subst h0;exact .inl ⟨_,_,rfl,rfl,by simp⟩
  ·rcases hn with ⟨a',cap',e1,e2,_⟩|⟨b,off,cap',e1,hl,hc⟩|⟨s,e1,_⟩
   ·omega
   ·simp only [Value.slice.injEq] at e1;obtain ⟨rfl,_,rfl⟩:=e1;refine .inr (.inl ⟨b,off,j,by rw [if_neg h0];simp [Dk],?_,fun i u hu=>?_⟩)
    ·rw [List.length_take,hl];exact Nat.min_eq_left (Nat.mul_le_mul_right n hj)
    ·rw [List.getElem?_take] at hu;split at hu
     ·exact hc _ u hu
     ·cases hu
   ·cases e1
end rl
def GrO (I:Imm)(T n:Nat)(X:LH)(v:Value)(cells:List Value)(len:Nat):Prop:=
 SlO T n X v cells len∨(X=[]∧(∃a,v= .slice a len len)∧SlI I n v cells len)
theorem GrO.mono {I I':Imm}{T n:Nat}{X:LH}{v:Value}{cells:List Value}{len:Nat}(h:GrO I T n X v cells len)(hI:Ext I I'):GrO I' T n X v cells len:=by
 rcases h with h|⟨h1,h2,h3⟩
 ·exact .inl h
 ·exact .inr ⟨h1,h2,h3.mono hI⟩
theorem GrO.news {I:Imm}{T n len:Nat}{X F:LH}{v:Value}{cells:List Value}(h:GrO I T n X v cells len)(hF:∀x∈X,x∈F):News n v I F len cells:=by
 rcases h with h|⟨h1,h2,h3⟩
 ·exact h.news hF
 ·exact SlI.news h3
theorem GrO.form {I:Imm}{T n len:Nat}{X:LH}{v:Value}{cells:List Value}(h:GrO I T n X v cells len):∃a cap,v= .slice a len cap∧len≤cap:=by
 rcases h with h|⟨h1,⟨a,h2⟩,h3⟩
 ·obtain ⟨_,h⟩:=h;rcases h with ⟨_,rfl,a,rfl⟩|⟨b,cap,cs,_,rfl,_,hle,_⟩
  ·exact ⟨a,0,rfl,Nat.le_refl _⟩
  ·exact ⟨_,cap,rfl,hle⟩
 ·exact ⟨a,len,h2,Nat.le_refl _⟩
theorem AJS {I:Imm}{L F:LH}(hp:L.Perm F){T n bytes len m:Nat}{z:Array Value}{s x:Value}{a:Option Addr}{olds news:List Value}{K:Value→M}(hz:z.size=n)(hs:s= .slice a len len)(ho:News n s I L len olds)(hn:News n x I L m news)
  (h1:∀u∈news,u.oneCell'=true) (hm:0 < m) (hb:(len+m) * bytes≤150000000000000) (hm':len+m≤150000000000000) (hk:∀X' v',SlO T n X' v' (olds++news) (len+m)→K v' I (X'++F)):App T n bytes z s x (gh K) I L:=by
 have hol:=ho.length;have hnl:=hn.length;have hlen:(olds++news).length=(len+m) * n:=by rw [List.length_append,hol,hnl,Nat.add_mul]
 refine ⟨a,len,len,m,news,hs,hn,h1,.inr (.inr ⟨by omega,hb,hm',olds,L,ho,List.Sublist.refl _,fun b c hc=>?_⟩)⟩;refine Gh.perm (List.Perm.cons _ hp) (Gh.done (hk [(b,_)] _ ⟨hlen,.inr ⟨b,c,_,rfl,rfl,?_,hc,?_⟩⟩))
 ·simp only [Array.size_append,List.size_toArray,Fz,hz,hlen];rw [←Nat.add_mul];congr 1;omega
 ·intro j u hu;have hlt:j < (olds++news).length:=(List.getElem?_eq_some_iff.1 hu).1;rw [Array.getElem?_append_left (by simpa using hlt)];simpa using hu
theorem AQs {I:Imm}{X L F:LH}[hsp:SplitL X L F]{T n bytes len m:Nat}{z:Array Value}{s x:Value}{cells news:List Value}{K:Value→M}(hz:z.size=n)(ho:GrO I T n X s cells len)(hn:News n x I L m news)
  (h1:∀u∈news,u.oneCell'=true) (hb:(len+m) * bytes≤150000000000000) (hm:len+m≤150000000000000)
  (hk:∀X' v',GrO I T n X' v' (cells++news) (len+m)→K v' I (X'++F)):App T n bytes z s x (gh K) I L:=by
 rcases ho with ho|⟨rfl,⟨a,ha⟩,h3⟩
 ·exact DW hz ho hn h1 hb hm (fun X' v' h=>hk X' v' (.inl h))
 ·have hp:=hsp.perm;by_cases h0:m=0
  ·subst h0;have hnil:news=[]:=List.eq_nil_of_length_eq_zero (by simpa using hn.length);subst hnil;refine ⟨a,len,len,0,[],ha,hn,h1,.inl ⟨Nat.le_refl _,rfl,Gh.perm hp (Gh.done ?_)⟩⟩;have:=hk [] s (.inr ⟨rfl,⟨a,ha⟩,by simpa using h3⟩);rw [ha] at this;exact this
  ·exact AJS hp hz ha (SlI.news h3 (L:=L)) hn h1 (by omega) hb hm (fun X' v' h=>hk X' v' (.inl h))
theorem ACD {I:Imm}{X L F:LH}[hsp:SplitL X L F]{T len:Nat}{v u:Value}{cells:List Value}{K:Value→M}{i:Int}(ho:SlO T 1 X v cells len)(h0:0≤i)(h1:i < len)(hu:u.oneCell'=true)
  (hk:∀X',SlO T 1 X' v (cells.set i.toNat u) len→K undef I (X'++F)):
  ∃b,ixV 1 v (.int .i64 i)=some (.pointer (some ⟨b,i.toNat,none⟩))∧Sto 1 (.pointer (some ⟨b,i.toNat,none⟩)) u (gh K) I L:=by
 have hp:=hsp.perm;obtain ⟨hl,ho'⟩:=ho;rcases ho' with ⟨rfl,rfl,a,rfl⟩|⟨b,cap,cs,rfl,rfl,hcs,hle,hc⟩
 ·omega
 ·refine ⟨b,by rw [ACi b 0 1 .i64 len cap i h0 h1,Nat.zero_add,Nat.mul_one],?_⟩;have hmem:(b,Obj.cells cs T (0,0))∈L:=hp.mem_iff.2 (List.mem_append_left _ (List.mem_singleton.2 rfl));obtain ⟨L1,L2,rfl⟩:=List.append_of_mem hmem;have hF:(L1++L2).Perm F:=by
   have h2:(L1++(b,Obj.cells cs T (0,0))::L2).Perm ((b,Obj.cells cs T (0,0))::(L1++L2)):=List.perm_middle;exact (List.perm_cons _).1 (h2.symm.trans hp)
  have huc:u.cells=#[u]:=by cases u <;> first|rfl|simp [Value.oneCell'] at hu
  refine ⟨b,i.toNat,cs,T,L1,L2,rfl,by simp [huc],by simp [huc];exact hu,by omega,rfl,?_⟩;refine Gh.perm (List.perm_middle.trans (List.Perm.cons _ hF)) (Gh.done (hk [(b,_)] ⟨by simp [hl],.inr ⟨b,cap,_,rfl,rfl,by rw [PS];exact hcs,hle,?_⟩⟩));intro j w hw;simp only [huc,wr];rw [List.getElem?_set] at hw;split at hw
  ·rename_i e
   subst e;split at hw
   ·cases hw
    rw [Array.getElem?_setIfInBounds_self_of_lt (by omega)]
   ·cases hw
  ·rename_i e
   rw [Array.getElem?_setIfInBounds_ne e];exact hc j w hw
def str (l:List UInt8):Value:=.string ⟨l.toArray⟩
def StrV (_:Imm)(x:List UInt8)(c:List Value):Prop:=c=[.string ⟨x.toArray⟩]
def Fh {α:Type}(R:Imm→α→List Value→Prop)(n:Nat)(I:Imm)(xs:List α)(c:List Value):Prop:=∃v,c=[v]∧RL R n I [] v xs
theorem StrV.mono {I I':Imm}{x:List UInt8}{c:List Value}(h:StrV I x c)(hI:Ext I I'):StrV I' x c:=h
section
variable {rz:Nat}{P:Program}{W:World}{T:TypeId}
end
end Go.SL
namespace Go.Proofs.YtkifgfanjcfedaaGreatDoor
open Go.SL
abbrev Bs:=List UInt8
structure Tok where
 kind:Int
 at':Nat
 text:Bs
 num:Int
deriving DecidableEq
instance:Inhabited Tok:=⟨⟨0,0,[],0⟩⟩
structure Flt where
 code:Int
 at':Int
deriving DecidableEq
def BP (c:UInt8):Bool:=(97≤c&&c≤122)||(65≤c&&c≤90)||c==95
def BC (c:UInt8):Bool:=48≤c&&c≤57
def FI (c:UInt8):Bool:=c==9||c==10||c==12||c==13||c==32
def Dz (c:UInt8):UInt8:=if 65≤c&&c≤90 then c+32 else c
def wordsL:List Bs:=[[97,110,100],[97,115],[97,115,99],[98,101,103,105,110],[98,101,116,119,101,101,110],[98,121],[99,97,115,101],[99,111,109,109,105,116],[99,114,101,97,116,101],[99,114,111,115,115],[100,101,102,97,117,108,116],[100,101,108,101,116,101],[100,101,115,99],[100,105,115,116,105,110,99,116],[100,114,111,112],[101,108,115,101],[101,110,100],[102,97,108,115,101],[102,114,111,109],[103,114,111,117,112],[104,97,118,105,110,103],[105,110],[105,110,100,101,120],[105,110,110,101,114],[105,110,115,101,114,116],[105,110,116,111],[105,115],[106,111,105,110],[107,101,121],[108,101,102,116],[108,105,107,101],[108,105,109,105,116],[110,111,116],[110,117,108,108],[111,102,102,115,101,116],[111,110],[111,114],[111,114,100,101,114],[112,114,105,109,97,114,121],[114,111,108,108,98,97,99,107],[115,101,108,101,99,116],[115,101,116],[116,97,98,108,101],[116,104,101,110],[116,114,117,101],[117,110,105,113,117,101],[117,112,100,97,116,101],[118,97,108,117,101,115],[119,104,101,110],[119,104,101,114,101]]
def signsL:List Bs:=[[60,61],[62,61],[60,62],[33,61],[124,124],[40],[41],[44],[46],[59],[42],[43],[45],[47],[37],[61],[60],[62]]
def BJ:Bool→Bs→Bs
 |_,[]=>[]
 |true,c::r=>if c==10 then BJ false r else BJ true r
 |false,c::r=>if FI c then BJ false r else if c==45&&r.head? ==some 45 then BJ true r else c::r
def CQ (q:UInt8):Bs→Option (Bs×Bs)
 |[]=>none
 |c::r=>if c==0 then none else if c != q then (CQ q r).map fun x=>(c::x.1,x.2) else match r with
  |[]=>some ([],[])
  |d::r'=>if d==q then (CQ q r').map fun x=>(q::x.1,x.2) else some ([],d::r')
def MK:Bs→Int→Option Int
 |[],n=>some n
 |d::r,n=>if n > (9223372036854775807 - ((d.toNat:Int) - 48)) / 10 then none else MK r (10 * n+((d.toNat:Int) - 48))
def Gy (s:Bs):Option Bs:=signsL.find? fun x=>x.isPrefixOf s
inductive LexR where
 |tok (t:Tok) (r:Bs)
 |bad (e:Int)
def Gw (w:Bs)(at':Nat)(r:Bs):LexR:=if 63 < w.length then .bad 173 else .tok ⟨if wordsL.contains w then 2 else 1,at',w,0⟩ r
def DJ (at':Nat):Bs→LexR
 |[]=>.bad 171
 |c::r=>
  if BP c then Gw (((c::r).takeWhile fun c=>BP c||BC c).map Dz) at' ((c::r).dropWhile fun c=>BP c||BC c) else
  if BC c then (match MK ((c::r).takeWhile BC) 0 with
   |none=>.bad 172
   |some k=>if ((c::r).dropWhile BC).head?.any BP then .bad 172 else .tok ⟨3,at',[],k⟩ ((c::r).dropWhile BC)) else
  if c==34||c==39 then (match CQ c r with
   |none=>.bad 173
   |some (s,r')=>if c==34 then (if s.isEmpty||decide (63 < s.length) then .bad 173 else .tok ⟨1,at',s,0⟩ r') else .tok ⟨4,at',s,0⟩ r') else
  match Gy (c::r) with
  |none=>.bad 171
  |some s=>.tok ⟨5,at',if s=[33,61] then [60,62] else s,0⟩ ((c::r).drop s.length)
inductive LexA where
 |toks (l:List Tok)
 |bad (f:Flt)
def DY (n:Nat):Nat→List Tok→Bs→LexA
 |0,acc,_=>.toks acc
 |m+1,acc,s=>match BJ false s with
  |[]=>.toks (acc++[⟨6,n,[],0⟩])
  |c::r=>match DJ (n - (r.length+1)) (c::r) with
   | .bad e=>.bad ⟨e,(n - (r.length+1):Nat)⟩
   | .tok t r'=>DY n m (acc++[t]) r'
def Rt (s:Bs):LexA:=DY s.length (s.length+1) [] s
structure TValue where
 fType:Int
 fNull:Bool
 fInt:Int
 fText:Bs
deriving DecidableEq
inductive Ex where
 |mk (kind:Int) (value:TValue) (table name:Bs) (slot type:Int) (distinct:Bool) (args:List Ex)
def Ex.kind:Ex→Int| .mk k _ _ _ _ _ _ _=>k
def Ex.value:Ex→TValue| .mk _ v _ _ _ _ _ _=>v
def Ex.table:Ex→Bs| .mk _ _ t _ _ _ _ _=>t
def Ex.name:Ex→Bs| .mk _ _ _ n _ _ _ _=>n
def Ex.slot:Ex→Int| .mk _ _ _ _ s _ _ _=>s
def Ex.type:Ex→Int| .mk _ _ _ _ _ t _ _=>t
def Ex.distinct:Ex→Bool| .mk _ _ _ _ _ _ d _=>d
def Ex.args:Ex→List Ex| .mk _ _ _ _ _ _ _ l=>l
def v0:TValue:=⟨0,false,0,[]⟩
def ex0:Ex:=.mk 0 v0 [] [] 0 0 false []
instance:Inhabited Ex:=⟨ex0⟩
instance:Inhabited TValue:=⟨v0⟩
def exK (k:Int)(l:List Ex):Ex:=.mk k v0 [] [] 0 0 false l
def JK (v:TValue):Ex:=.mk 1 v [] [] 0 0 false []
def IK (t n:Bs):Ex:=.mk 2 v0 t n 0 0 false []
def HY (n:Bs)(d:Bool)(l:List Ex):Ex:=.mk 28 v0 [] n 0 0 d l
structure TItem where
 fStar:Bool
 fTable:Bs
 fExpr:Ex
 fAs:Bs
instance:Inhabited TItem:=⟨⟨false,[],ex0,[]⟩⟩
structure TSource where
 fTable:Bs
 fAs:Bs
 fLeft:Bool
 fOn:Ex
instance:Inhabited TSource:=⟨⟨[],[],false,ex0⟩⟩
structure TOrder where
 fExpr:Ex
 fDesc:Bool
instance:Inhabited TOrder:=⟨⟨ex0,false⟩⟩
structure TSelect where
 fDistinct:Bool
 fItems:List TItem
 fFrom:List TSource
 fWhere:Ex
 fGroup:List Ex
 fHaving:Ex
 fOrder:List TOrder
 fLimit:Int
 fOffset:Int
instance:Inhabited TSelect:=⟨⟨false,[],[],ex0,[],ex0,[],0,0⟩⟩
structure TSet where
 fColumn:Bs
 fExpr:Ex
instance:Inhabited TSet:=⟨⟨[],ex0⟩⟩
structure TCol where
 fName:Bs
 fType:Int
 fNotNull:Bool
 fKey:Bool
 fUnique:Bool
 fDefault:Ex
instance:Inhabited TCol:=⟨⟨[],0,false,false,false,ex0⟩⟩
structure TIdx where
 fName:Bs
 fTable:Bs
 fColumns:List Bs
 fUnique:Bool
instance:Inhabited TIdx:=⟨⟨[],[],[],false⟩⟩
structure TStmt where
 fKind:Int
 fSelect:TSelect
 fTable:Bs
 fColumns:List Bs
 fRows:List (List Ex)
 fSets:List TSet
 fWhere:Ex
 fCols:List TCol
 fKey:List Bs
 fIndex:TIdx
instance:Inhabited TStmt:=⟨⟨0,default,[],[],[],[],ex0,[],[],default⟩⟩
inductive Res (α:Type) where
 |ok (x:α) (r:List Tok)
 |err (at':Nat)
abbrev Pr (α:Type):=List Tok→Res α
def Res.bind {α β:Type}(x:Res α)(f:α→Pr β):Res β:=match x with
 | .ok a r=>f a r
 | .err e=>.err e
def hd (l:List Tok):Tok:=l.headD default
def bad {α:Type}(l:List Tok):Res α:=.err (hd l).at'
def isT (l:List Tok)(s:Bs):Bool:=((hd l).kind==2||(hd l).kind==5)&&(hd l).text==s
def isK (l:List Tok)(k:Int):Bool:=(hd l).kind==k
def AO (s:Bs):Pr Unit:=fun l=>if isT l s then .ok () l.tail else bad l
def Ar:Pr Bs:=fun l=>if isK l 1 then .ok (hd l).text l.tail else bad l
def CV {α:Type}(one:Pr α):Nat→List α→Pr (List α)
 |0,acc,l=>.ok acc l
 |n+1,acc,l=>if isT l [44] then (one l.tail).bind fun x r=>CV one n (acc++[x]) r else .ok acc l
def BV {α:Type}(n:Nat)(one:Pr α):Pr (List α):=fun l=>(one l).bind fun x r=>CV one n [x] r
def Bi {α:Type}(n:Nat)(one:Pr α):Pr (List α):=fun l=>(AO [40] l).bind fun _ r=>(BV n one r).bind fun x r=>(AO [41] r).bind fun _ r=>.ok x r
def FY (one:Pr Ex)(op:List Tok→Int):Nat→Ex→Pr Ex
 |0,x,l=>.ok x l
 |n+1,x,l=>if op l=0 then .ok x l else (one l.tail).bind fun y r=>FY one op n (exK (op l) [x,y]) r
def Cj (n:Nat)(one:Pr Ex)(op:List Tok→Int):Pr Ex:=fun l=>(one l).bind fun x r=>FY one op n x r
def NU (l:List Tok):Int:=if isT l [111,114] then 22 else 0
def Ie (l:List Tok):Int:=if isT l [97,110,100] then 21 else 0
def JF (f:Bs→Option Int)(l:List Tok):Int:=if isK l 5 then (f (hd l).text).getD 0 else 0
def TP (s:Bs):Option Int:=if s=[43] then some 9 else if s=[45] then some 10 else if s=[124,124] then some 14 else none
def La (s:Bs):Option Int:=if s=[42] then some 11 else if s=[47] then some 12 else if s=[37] then some 13 else none
def ASL:List Tok→Int:=JF TP
def AOL:List Tok→Int:=JF La
def FC (l:List Tok):Int:=if isT l [61] then 15 else if isT l [60,62] then 16 else if isT l [60] then 17 else if isT l [60,61] then 18 else if isT l [62] then 19 else if isT l [62,61] then 20 else 0
def IY (l:List Tok):Option TValue:=
 if isK l 4 then some ⟨3,false,0,(hd l).text⟩ else if isT l [116,114,117,101] then some ⟨2,false,1,[]⟩ else if isT l [102,97,108,115,101] then some ⟨2,false,0,[]⟩ else if isT l [110,117,108,108] then some ⟨4,true,0,[]⟩ else none
def MJ:Pr Ex:=fun l=>if isK l 3 then .ok (JK ⟨1,false,(hd l).num,[]⟩) l.tail else bad l
def FZ:Pr Ex:=fun l=>match IY l with
 |some v=>.ok (JK v) l.tail
 |none=>if isT l [45] then (MJ l.tail).bind fun x r=>.ok (exK 4 [x]) r else MJ l
def Ew (n:Nat)(E:Pr Ex)(acc:List Ex):Pr (List Ex):=fun l=>(AO [119,104,101,110] l).bind fun _ r=>(E r).bind fun a r=>(AO [116,104,101,110] r).bind fun _ r=>(E r).bind fun b r=>.ok (acc++[a,b]) r
def Ep (n:Nat)(E:Pr Ex):Nat→List Ex→Pr (List Ex)
 |0,acc,l=>.ok acc l
 |m+1,acc,l=>if isT l [119,104,101,110] then (Ew n E acc l).bind fun a r=>Ep n E m a r else .ok acc l
def JO (n:Nat)(E:Pr Ex):Pr Ex:=fun l=>(Ew n E [] l).bind fun a r=>(Ep n E n a r).bind fun a r=>
 (if isT r [101,108,115,101] then (E r.tail).bind fun x r=>.ok (a++[x]) r else Res.ok a r).bind fun a r=>(AO [101,110,100] r).bind fun _ r=>.ok (exK 26 a) r
def isAgg (s:Bs):Bool:=s==[99,111,117,110,116]||s==[115,117,109]||s==[109,105,110]||s==[109,97,120]||s==[97,118,103]
def EL (s:Bs):Bool:=s==[99,111,97,108,101,115,99,101]||s==[108,101,110,103,116,104]||isAgg s
def Dh (n:Nat)(E:Pr Ex)(s:Bs):Pr Ex:=fun l=>
 if s=[99,111,97,108,101,115,99,101] then (Bi n E l).bind fun a r=>.ok (exK 27 a) r else
 (AO [40] l).bind fun _ r=>
 if s=[108,101,110,103,116,104] then (E r).bind fun x r=>(AO [41] r).bind fun _ r=>.ok (exK 8 [x]) r else
 if (s==[99,111,117,110,116]&&isT r [42])=true then (AO [41] r.tail).bind fun _ r=>.ok (HY s false [exK 3 []]) r else
 (E (if isT r [100,105,115,116,105,110,99,116] then r.tail else r)).bind fun x r'=>(AO [41] r').bind fun _ r'=>.ok (HY s (isT r [100,105,115,116,105,110,99,116]) [x]) r'
def FQ (n:Nat)(E U:Pr Ex):Pr Ex:=fun l=>
 if isT l [45] then (U l.tail).bind fun x r=>.ok (exK 4 [x]) r else
 if isT l [40] then (E l.tail).bind fun x r=>(AO [41] r).bind fun _ r=>.ok x r else
 if isT l [99,97,115,101] then JO n E l.tail else
 if isK l 3 then MJ l else
 match IY l with
 |some v=>.ok (JK v) l.tail
 |none=>(Ar l).bind fun s r=>
  if isT r [40]&&EL s then Dh n E s r else
  if isT r [46] then (Ar r.tail).bind fun c r=>.ok (IK s c) r else .ok (IK [] s) r
def PM (b:Bool)(x:Ex):Ex:=if b then exK 5 [x] else x
def JC (n:Nat)(E S:Pr Ex):Pr Ex:=fun l=>(S l).bind fun x r=>
 if FC r≠0 then (S r.tail).bind fun y r'=>.ok (exK (FC r) [x,y]) r' else
 if isT r [105,115] then (if isT r.tail [110,111,116] then (AO [110,117,108,108] r.tail.tail).bind fun _ r=>.ok (exK 7 [x]) r else (AO [110,117,108,108] r.tail).bind fun _ r=>.ok (exK 6 [x]) r) else
 let b:=isT r [110,111,116]
 let q:=if b then r.tail else r
 if isT q [105,110] then (Bi n E q.tail).bind fun a r=>.ok (PM b (exK 24 (x::a))) r else
 if isT q [98,101,116,119,101,101,110] then (S q.tail).bind fun y r=>(AO [97,110,100] r).bind fun _ r=>(S r).bind fun z r=>.ok (PM b (exK 25 [x,y,z])) r else
 if isT q [108,105,107,101] then (S q.tail).bind fun y r=>.ok (PM b (exK 23 [x,y])) r else
 if b then bad q else .ok x q
def PL (N Q:Pr Ex):Pr Ex:=fun l=>if isT l [110,111,116] then (N l.tail).bind fun x r=>.ok (exK 5 [x]) r else Q l
def Fa:Nat→Pr Ex×Pr Ex×Pr Ex
 |0=>(fun _=>.err 0,fun _=>.err 0,fun _=>.err 0)
 |n+1=>
  let U:=FQ n (Fa n).1 (Fa n).2.2
  let S:=Cj n (Cj n U AOL) ASL
  let N:=PL (Fa n).2.1 (JC n (Fa n).1 S)
  (Cj n (Cj n N Ie) NU,N,U)
def eP (n:Nat):Pr Ex:=(Fa n).1
def nP (n:Nat):Pr Ex:=(Fa n).2.1
def uP (n:Nat):Pr Ex:=(Fa n).2.2
def EQ (n:Nat)(s:Bs):Pr Ex:=fun l=>if isT l s then eP n l.tail else .ok ex0 l
def Gq (n:Nat):Pr TItem:=fun l=>
 if isT l [42] then .ok ⟨true,[],ex0,[]⟩ l.tail else
 if isK l 1&&isK l.tail 5&&(hd l.tail).text==[46]&&isK l.tail.tail 5&&(hd l.tail.tail).text==[42] then .ok ⟨true,(hd l).text,ex0,[]⟩ l.tail.tail.tail else
 (eP n l).bind fun x r=>if isT r [97,115] then (Ar r.tail).bind fun a r=>.ok ⟨false,[],x,a⟩ r else .ok ⟨false,[],x,[]⟩ r
def IC (n:Nat):Pr TOrder:=fun l=>(eP n l).bind fun x r=>if isT r [100,101,115,99] then .ok ⟨x,true⟩ r.tail else if isT r [97,115,99] then .ok ⟨x,false⟩ r.tail else .ok ⟨x,false⟩ r
def CY:Pr TSource:=fun l=>(Ar l).bind fun s r=>if isT r [97,115] then (Ar r.tail).bind fun a r=>.ok ⟨s,a,false,ex0⟩ r else if isK r 1 then (Ar r).bind fun a r=>.ok ⟨s,a,false,ex0⟩ r else .ok ⟨s,[],false,ex0⟩ r
def Gz (n:Nat)(b:Bool):Pr TSource:=fun l=>(AO [106,111,105,110] l).bind fun _ r=>(CY r).bind fun s r=>(AO [111,110] r).bind fun _ r=>(eP n r).bind fun x r=>.ok ⟨s.fTable,s.fAs,b,x⟩ r
def Cb (n:Nat):Nat→List TSource→Pr (List TSource)
 |0,acc,l=>.ok acc l
 |m+1,acc,l=>
  if isT l [44] then (CY l.tail).bind fun s r=>Cb n m (acc++[s]) r else
  if isT l [99,114,111,115,115] then (AO [106,111,105,110] l.tail).bind fun _ r=>(CY r).bind fun s r=>Cb n m (acc++[s]) r else
  if isT l [108,101,102,116] then (Gz n true l.tail).bind fun s r=>Cb n m (acc++[s]) r else
  if isT l [105,110,110,101,114] then (Gz n false l.tail).bind fun s r=>Cb n m (acc++[s]) r else
  if isT l [106,111,105,110] then (Gz n false l).bind fun s r=>Cb n m (acc++[s]) r else .ok acc l
def KZ (n:Nat):Pr (List TSource):=fun l=>(CY l).bind fun s r=>Cb n n [s] r
def EZ:Pr Int:=fun l=>if isK l 3&&decide ((hd l).num≤2147483647) then .ok (hd l).num l.tail else bad l
def OM {α:Type}(s:Bs)(d:α)(p:Pr α):Pr α:=fun l=>if isT l s then p l.tail else .ok d l
def byP {α:Type}(p:Pr α):Pr α:=fun l=>(AO [98,121] l).bind fun _ r=>p r
def Gt (n:Nat):Pr TSelect:=fun l=>
 let d:=isT l [100,105,115,116,105,110,99,116]
 (BV n (Gq n) (if d then l.tail else l)).bind fun items r=>
 (OM [102,114,111,109] [] (KZ n) r).bind fun froms r=>
 (EQ n [119,104,101,114,101] r).bind fun wh r=>
 (OM [103,114,111,117,112] [] (byP (BV n (eP n))) r).bind fun gr r=>
 (EQ n [104,97,118,105,110,103] r).bind fun ha r=>
 (OM [111,114,100,101,114] [] (byP (BV n (IC n))) r).bind fun od r=>
 (OM [108,105,109,105,116] (-1) EZ r).bind fun li r=>
 (OM [111,102,102,115,101,116] 0 EZ r).bind fun off r=>.ok ⟨d,items,froms,wh,gr,ha,od,li,off⟩ r
def TR (n:Nat):Pr TSet:=fun l=>(Ar l).bind fun s r=>(AO [61] r).bind fun _ r=>(eP n r).bind fun x r=>.ok ⟨s,x⟩ r
def typeOf (s:Bs):Int:=if s=[105,110,116]∨s=[105,110,116,101,103,101,114]∨s=[98,105,103,105,110,116] then 1 else if s=[98,111,111,108]∨s=[98,111,111,108,101,97,110] then 2 else if s=[116,101,120,116] then 3 else 0
def FV:Nat→TCol→Pr TCol
 |0,c,l=>.ok c l
 |n+1,c,l=>
  if !c.fNotNull&&isT l [110,111,116] then (AO [110,117,108,108] l.tail).bind fun _ r=>FV n {c with fNotNull:=true} r else
  if !c.fKey&&isT l [112,114,105,109,97,114,121] then (AO [107,101,121] l.tail).bind fun _ r=>FV n {c with fKey:=true} r else
  if !c.fUnique&&isT l [117,110,105,113,117,101] then FV n {c with fUnique:=true} l.tail else
  if c.fDefault.kind==0&&isT l [100,101,102,97,117,108,116] then (FZ l.tail).bind fun x r=>FV n {c with fDefault:=x} r else .ok c l
def Ej (n:Nat):Pr TCol:=fun l=>(Ar l).bind fun s r=>
 let t:=if isK r 1 then typeOf (hd r).text else 0
 if t=0 then bad r else FV n ⟨s,t,false,false,false,ex0⟩ r.tail
def Ez (n:Nat):Nat→List TCol→List Bs→Pr (List TCol×List Bs)
 |0,cs,ks,l=>.ok (cs,ks) l
 |m+1,cs,ks,l=>
  (if ks.isEmpty&&isT l [112,114,105,109,97,114,121] then (AO [107,101,121] l.tail).bind fun _ r=>(Bi n Ar r).bind fun k r=>.ok (cs,k) r else (Ej n l).bind fun c r=>Res.ok (cs++[c],ks) r).bind fun x r=>
  if isT r [44] then Ez n m x.1 x.2 r.tail else .ok x r
def OB (n:Nat):Pr TStmt:=fun l=>(Ar l).bind fun s r=>(AO [40] r).bind fun _ r=>(Ez n (n+1) [] [] r).bind fun x r=>
 if x.1.isEmpty then bad r else (AO [41] r).bind fun _ r=>.ok {(default:TStmt) with fKind:=5,fTable:=s,fCols:=x.1,fKey:=x.2} r
def Ei (n:Nat):Pr TStmt:=fun l=>if isT l [116,97,98,108,101] then OB n l.tail else
 let u:=isT l [117,110,105,113,117,101]
 (AO [105,110,100,101,120] (if u then l.tail else l)).bind fun _ r=>(Ar r).bind fun a r=>(AO [111,110] r).bind fun _ r=>(Ar r).bind fun t r=>(Bi n Ar r).bind fun c r=>
 .ok {(default:TStmt) with fKind:=6,fIndex:=⟨a,t,c,u⟩} r
def Fv:Pr TStmt:=fun l=>if isT l [116,97,98,108,101] then (Ar l.tail).bind fun s r=>.ok {(default:TStmt) with fKind:=7,fTable:=s} r else
 (AO [105,110,100,101,120] l).bind fun _ r=>(Ar r).bind fun s r=>.ok {(default:TStmt) with fKind:=8,fIndex:=⟨s,[],[],false⟩} r
def EE (n:Nat):Pr TStmt:=fun l=>(AO [105,110,116,111] l).bind fun _ r=>(Ar r).bind fun s r=>
 (if isT r [40] then Bi n Ar r else Res.ok [] r).bind fun c r=>(AO [118,97,108,117,101,115] r).bind fun _ r=>(BV n (Bi n (eP n)) r).bind fun x r=>.ok {(default:TStmt) with fKind:=2,fTable:=s,fColumns:=c,fRows:=x} r
def ED (n:Nat):Pr TStmt:=fun l=>(Ar l).bind fun s r=>(AO [115,101,116] r).bind fun _ r=>(BV n (TR n) r).bind fun x r=>(EQ n [119,104,101,114,101] r).bind fun w r=>.ok {(default:TStmt) with fKind:=3,fTable:=s,fSets:=x,fWhere:=w} r
def EF (n:Nat):Pr TStmt:=fun l=>(AO [102,114,111,109] l).bind fun _ r=>(Ar r).bind fun s r=>(EQ n [119,104,101,114,101] r).bind fun w r=>.ok {(default:TStmt) with fKind:=4,fTable:=s,fWhere:=w} r
def Dn (n:Nat):Pr TStmt:=fun l=>
 if isT l [115,101,108,101,99,116] then (Gt n l.tail).bind fun q r=>.ok {(default:TStmt) with fKind:=1,fSelect:=q} r else
 if isT l [105,110,115,101,114,116] then EE n l.tail else
 if isT l [117,112,100,97,116,101] then ED n l.tail else
 if isT l [100,101,108,101,116,101] then EF n l.tail else
 if isT l [99,114,101,97,116,101] then Ei n l.tail else
 if isT l [100,114,111,112] then Fv l.tail else
 if isT l [98,101,103,105,110] then .ok {(default:TStmt) with fKind:=9} l.tail else
 if isT l [99,111,109,109,105,116] then .ok {(default:TStmt) with fKind:=10} l.tail else
 (AO [114,111,108,108,98,97,99,107] l).bind fun _ r=>.ok {(default:TStmt) with fKind:=11} r
def Bz (n:Nat):Nat→List TStmt→Pr (List TStmt)
 |0,acc,l=>.ok acc l
 |m+1,acc,l=>if isK l 6 then .ok acc l else if isT l [59] then Bz n m acc l.tail else
  (Dn n l).bind fun s r=>if isK r 6||isT r [59] then Bz n m (acc++[s]) r else bad r
mutual
def Aa:Ex→Nat
 | .mk _ _ _ _ _ _ _ l=>AY l+1
def AY:List Ex→Nat
 |[]=>0
 |x::l=>Aa x+AY l
end
mutual
def DD:Ex→Nat
 | .mk _ _ _ _ _ _ _ l=>BX l+1
def BX:List Ex→Nat
 |[]=>0
 |x::l=>max (DD x) (BX l)
end
def GU (s:TStmt):List Ex:=
 (s.fSelect.fItems.map (·.fExpr)++s.fSelect.fFrom.map (·.fOn)++[s.fSelect.fWhere,s.fSelect.fHaving,s.fWhere]++s.fSelect.fGroup++s.fSelect.fOrder.map (·.fExpr)++s.fRows.flatten++s.fSets.map (·.fExpr)++s.fCols.map (·.fDefault)).filter fun x=>x.kind != 0
def FU (s:TStmt):Nat:=AY (GU s)+1
def SV (s:TStmt):Nat:=BX (GU s)
def BL (l:List TStmt):Nat:=(l.map FU).sum
def Dq:List TStmt→Nat
 |[]=>0
 |s::l=>max (SV s) (Dq l)
def ok0:Flt:=⟨0,0⟩
def readA (s:Bs):List TStmt×Flt:=match Rt s with
 | .bad f=>([],f)
 | .toks l=>match Bz l.length (l.length+1) [] l with
  | .ok x _=>(x,ok0)
  | .err a=>([],⟨174,a⟩)
def NZ (parts deep:Nat):Int:=if 64 < deep then 175 else if 2000 < parts then 176 else 0
def Ci (s:Bs):List TStmt×Flt:=
 if 65536 < s.length then ([],⟨170,65536⟩) else
 if (readA s).2≠ok0 then ([],(readA s).2) else
 if NZ (BL (readA s).1) (Dq (readA s).1)≠0 then ([],⟨NZ (BL (readA s).1) (Dq (readA s).1),0⟩) else ((readA s).1,ok0)
def OY:Nat→Nat→Bs→Bs
 |0,_,acc=>acc
 |f+1,n,acc=>if n < 10 then UInt8.ofNat (48+n)::acc else OY f (n / 10) (UInt8.ofNat (48+n % 10)::acc)
def Jz (b:Bool)(n:Int):Bs:=if n < 0 then (if b then 45::OY (n.natAbs+1) n.natAbs [] else [45]) else OY (n.toNat+1) n.toNat []
def GK (q:UInt8)(s:Bs):Bs:=q::(s.flatMap fun c=>if c==q then [q,q] else [c])++[q]
def Jd (s:Bs):Bool:= !s.isEmpty&& !s.head?.any BC&& !wordsL.contains s&&s.all fun c=>(BP c||BC c)&& !(65≤c&&c≤90)
def nameB (s:Bs):Bs:=if Jd s then s else GK 34 s
def Ac:List Bs→Bs
 |[]=>[]
 |[x]=>x
 |x::y::l=>x++[44,32]++Ac (y::l)
def EK (l:List Bs):Bs:=[40]++Ac (l.map nameB)++[41]
def Eb (k:Int):Option (Bs×Int):=
 if k=22 then some ([111,114],1) else if k=21 then some ([97,110,100],2) else if k=23 then some ([108,105,107,101],4) else
 if k=15 then some ([61],4) else if k=16 then some ([60,62],4) else if k=17 then some ([60],4) else if k=18 then some ([60,61],4) else if k=19 then some ([62],4) else if k=20 then some ([62,61],4) else
 if k=9 then some ([43],5) else if k=10 then some ([45],5) else if k=14 then some ([124,124],5) else if k=11 then some ([42],6) else if k=12 then some ([47],6) else if k=13 then some ([37],6) else none
def TS (k:Int):Int:=if k=5 then 3 else if k=6∨k=7∨k=24∨k=25 then 4 else if k=4 then 7 else match Eb k with
 |some s=>s.2
 |none=>8
def Nw (b:Bool)(v:TValue):Bs:=if v.fNull then [110,117,108,108] else if v.fType=3 then GK 39 v.fText else if v.fType=2 then (if v.fInt=1 then [116,114,117,101] else [102,97,108,115,101]) else Jz b v.fInt
def Xd (b:Bool)(s:Bs):Bs:=if b then [40]++s++[41] else s
def BB (b:Bool)(x:Ex)(arg:Nat→Int→Bs):Bs:=
 match Eb x.kind with
 |some (s,l)=>arg 0 (if l=4 then 5 else l)++[32]++s++[32]++arg 1 (l+1)
 |none=>
  if x.kind=1 then Nw b x.value else
  if x.kind=2 then (if x.table.isEmpty then [] else nameB x.table++[46])++nameB x.name else
  if x.kind=4 then [45]++arg 0 8 else
  if x.kind=5 then [110,111,116,32]++arg 0 3 else
  if x.kind=6 then arg 0 5++[32,105,115,32,110,117,108,108] else
  if x.kind=7 then arg 0 5++[32,105,115,32,110,111,116,32,110,117,108,108] else
  if x.kind=24 then arg 0 5++[32,105,110,32,40]++Ac ((List.range (x.args.length - 1)).map fun i=>arg (i+1) 1)++[41] else
  if x.kind=25 then arg 0 5++[32,98,101,116,119,101,101,110,32]++arg 1 5++[32,97,110,100,32]++arg 2 5 else
  if x.kind=8 then [108,101,110,103,116,104,40]++arg 0 1++[41] else
  if x.kind=27 then [99,111,97,108,101,115,99,101,40]++Ac ((List.range x.args.length).map fun i=>arg i 1)++[41] else
  if x.kind=26 then [99,97,115,101]++((List.range x.args.length).flatMap fun i=>(if i % 2=1 then [32,116,104,101,110,32] else if i+1=x.args.length then [32,101,108,115,101,32] else [32,119,104,101,110,32])++arg i 1)++[32,101,110,100] else
  if x.kind=28 then x.name++[40]++(if x.distinct&&(b|| !(x.name==[99,111,117,110,116]&&x.args.length==1&&(x.args.getD 0 ex0).kind==3)) then [100,105,115,116,105,110,99,116,32] else [])++
   (if x.name==[99,111,117,110,116]&&x.args.length==1&&(x.args.getD 0 ex0).kind==3 then [42] else arg 0 1)++[41] else [63]
def IJ (b:Bool):Nat→Ex→Int→Bs
 |0,_,_=>[]
 |n+1,x,asked=>Xd (decide (TS x.kind < asked)) (BB b x fun i l=>match x.args[i]? with
  |some y=>IJ b n y l
  |none=>[63])
def exB (b:Bool)(x:Ex)(asked:Int):Bs:=IJ b (DD x) x asked
def Ih (b:Bool)(l:List Ex):Bs:=Ac (l.map fun x=>exB b x 1)
def rowB (b:Bool)(l:List Ex):Bs:=[40]++Ih b l++[41]
def DR (b:Bool)(s:Bs)(x:Ex):Bs:=if x.kind=0 then [] else s++exB b x 1
def asB (s:Bs):Bs:=if s.isEmpty then [] else [32,97,115,32]++nameB s
def Ii (b:Bool)(x:TItem):Bs:=(if x.fStar then (if x.fTable.isEmpty then [42] else nameB x.fTable++[46,42]) else exB b x.fExpr 1)++asB x.fAs
def Yu (b:Bool)(i:Nat)(x:TSource):Bs:=
 (if i=0 then [32,102,114,111,109,32] else if x.fLeft then [32,108,101,102,116,32,106,111,105,110,32] else if x.fOn.kind≠0 then [32,106,111,105,110,32] else [32,99,114,111,115,115,32,106,111,105,110,32])++nameB x.fTable++asB x.fAs++(if 0 < i∧(x.fLeft=true∨x.fOn.kind≠0) then [32,111,110,32]++exB b x.fOn 1 else [])
def Dp (b:Bool):Nat→List TSource→Bs
 |_,[]=>[]
 |i,x::l=>Yu b i x++Dp b (i+1) l
def Vf (b:Bool)(x:TOrder):Bs:=exB b x.fExpr 1++(if x.fDesc then [32,100,101,115,99] else [])
def Iq (b:Bool)(q:TSelect):Bs:=
 [115,101,108,101,99,116,32]++(if q.fDistinct then [100,105,115,116,105,110,99,116,32] else [])++Ac (q.fItems.map (Ii b))++Dp b 0 q.fFrom++DR b [32,119,104,101,114,101,32] q.fWhere++(if q.fGroup.isEmpty then [] else [32,103,114,111,117,112,32,98,121,32]++Ih b q.fGroup)++
 DR b [32,104,97,118,105,110,103,32] q.fHaving++(if q.fOrder.isEmpty then [] else [32,111,114,100,101,114,32,98,121,32]++Ac (q.fOrder.map (Vf b)))++(if 0≤q.fLimit then [32,108,105,109,105,116,32]++Jz b q.fLimit else [])++(if q.fOffset=0 then [] else [32,111,102,102,115,101,116,32]++Jz b q.fOffset)
def TY (t:Int):Bs:=if t=1 then [105,110,116] else if t=2 then [98,111,111,108] else if t=3 then [116,101,120,116] else [63]
def PO (b:Bool)(c:TCol):Bs:=nameB c.fName++[32]++TY c.fType++(if c.fNotNull then [32,110,111,116,32,110,117,108,108] else [])++(if c.fKey then [32,112,114,105,109,97,114,121,32,107,101,121] else [])++(if c.fUnique then [32,117,110,105,113,117,101] else [])++
 (if c.fDefault.kind=0 then [] else [32,100,101,102,97,117,108,116,32]++exB b c.fDefault (if b then 1 else 7))
def JW (b:Bool)(s:TStmt):Bs:=[99,114,101,97,116,101,32,116,97,98,108,101,32]++nameB s.fTable++[32,40]++Ac (s.fCols.map (PO b))++(if s.fKey.isEmpty then [] else [44,32,112,114,105,109,97,114,121,32,107,101,121,32]++EK s.fKey)++[41]
def BF (b:Bool)(s:TStmt):Bs:=
 if s.fKind=1 then Iq b s.fSelect else
 if s.fKind=2 then [105,110,115,101,114,116,32,105,110,116,111,32]++nameB s.fTable++(if s.fColumns.isEmpty then [] else [32]++EK s.fColumns)++[32,118,97,108,117,101,115,32]++Ac (s.fRows.map (rowB b)) else
 if s.fKind=3 then [117,112,100,97,116,101,32]++nameB s.fTable++[32,115,101,116,32]++Ac (s.fSets.map fun x=>nameB x.fColumn++[32,61,32]++exB b x.fExpr 1)++DR b [32,119,104,101,114,101,32] s.fWhere else
 if s.fKind=4 then [100,101,108,101,116,101,32,102,114,111,109,32]++nameB s.fTable++DR b [32,119,104,101,114,101,32] s.fWhere else
 if s.fKind=5 then JW b s else
 if s.fKind=6 then [99,114,101,97,116,101,32]++(if s.fIndex.fUnique then [117,110,105,113,117,101,32] else [])++[105,110,100,101,120,32]++nameB s.fIndex.fName++[32,111,110,32]++nameB s.fIndex.fTable++[32]++EK s.fIndex.fColumns else
 if s.fKind=7 then [100,114,111,112,32,116,97,98,108,101,32]++nameB s.fTable else
 if s.fKind=8 then [100,114,111,112,32,105,110,100,101,120,32]++nameB s.fIndex.fName else
 if s.fKind=9 then [98,101,103,105,110] else if s.fKind=10 then [99,111,109,109,105,116] else if s.fKind=11 then [114,111,108,108,98,97,99,107] else [63]
mutual
def EW:Ex→Ex→Bool
 | .mk k v t n s ty d l,y=>k==y.kind&&v==y.value&&t==y.table&&n==y.name&&s==y.slot&&ty==y.type&&d==y.distinct&&ACG l y.args
def ACG:List Ex→List Ex→Bool
 |[],l=>l.isEmpty
 |x::xs,l=>match l with
  |[]=>false
  |y::ys=>EW x y&&ACG xs ys
end
abbrev Aj (x:Ex)(v:Value):List Value:=
 [.int .i64 x.kind,.int .i64 x.value.fType,.bool x.value.fNull,.int .i64 x.value.fInt,.string ⟨x.value.fText.toArray⟩,.string ⟨x.table.toArray⟩,.string ⟨x.name.toArray⟩,.int .i64 x.slot,.int .i64 x.type,.bool x.distinct,v]
mutual
def ExV (I:Imm):Ex→List Value→Prop
 | .mk k v t n s ty d l,c=>∃a cap cells,l.length≤cap∧News 11 (.slice a l.length cap) I [] l.length cells∧ExC I l cells∧c=Aj (.mk k v t n s ty d l) (.slice a l.length cap)
def ExC (I:Imm):List Ex→List Value→Prop
 |[],c=>c=[]
 |x::l,c=>(c.take 11).length=11∧ExV I x (c.take 11)∧ExC I l (c.drop 11)
end
theorem ExC.recs {I:Imm}:∀{l:List Ex} {c:List Value},ExC I l c↔Recs (ExV I) 11 l c
 |[],c=>Iff.rfl
 |x::l,c=>by simp only [ExC,Recs,ExC.recs (l:=l)]
theorem ExV.iff {I:Imm}{x:Ex}{c:List Value}:ExV I x c↔∃v,c=Aj x v∧RL ExV 11 I [] v x.args:=by
 obtain ⟨k,v,t,n,s,ty,d,l⟩:=x;simp only [ExV,Ex.args];constructor
 ·rintro ⟨a,cap,cells,h1,h2,h3,rfl⟩;exact ⟨_,rfl,a,cap,cells,rfl,h1,h2,ExC.recs.1 h3⟩
 ·rintro ⟨_,rfl,a,cap,cells,rfl,h1,h2,h3⟩;exact ⟨a,cap,cells,h1,h2,ExC.recs.2 h3,rfl⟩
mutual
theorem ExV.mono {I I':Imm}(hI:Ext I I'):∀{x:Ex} {c:List Value},ExV I x c→ExV I' x c
 | .mk k v t n s ty d l,c,⟨a,cap,cells,h1,h2,h3,h4⟩=>⟨a,cap,cells,h1,h2.mono hI (fun _ h=>h),ExC.mono hI h3,h4⟩
theorem ExC.mono {I I':Imm}(hI:Ext I I'):∀{l:List Ex} {c:List Value},ExC I l c→ExC I' l c
 |[],_,h=>h
 |x::l,_,⟨h1,h2,h3⟩=>⟨h1,ExV.mono hI h2,ExC.mono hI h3⟩
end
theorem ExV.mk {I:Imm}{x:Ex}{v:Value}(h:RL ExV 11 I [] v x.args):ExV I x (Aj x v):=ExV.iff.2 ⟨v,rfl,h⟩
theorem ExV.len {I:Imm}{x:Ex}{c:List Value}(h:ExV I x c):c.length=11:=by
 obtain ⟨v,rfl,_⟩:=ExV.iff.1 h;rfl
theorem ExV.one {I:Imm}{x:Ex}{c:List Value}(h:ExV I x c):∀u∈c,u.oneCell'=true:=by
 obtain ⟨v,rfl,h'⟩:=ExV.iff.1 h;obtain ⟨a,cap,rfl⟩:=RL.form h';exact Au rfl
def exZ:List Value:=[.int .i64 0,.int .i64 0,.bool false,.int .i64 0,.string ⟨#[]⟩,.string ⟨#[]⟩,.string ⟨#[]⟩,.int .i64 0,.int .i64 0,.bool false,.slice none 0 0]
abbrev ExL (I:Imm)(v:Value)(l:List Ex):Prop:=RL ExV 11 I [] v l
theorem ExL.mono {I I':Imm}{v:Value}{l:List Ex}(h:ExL I v l)(hI:Ext I I'):ExL I' v l:=RL.mono (fun _ _ h=>ExV.mono hI h) h hI (fun _ h=>h)
theorem ExL.k {I:Imm}{v:Value}{l:List Ex}{k:Int}(h:ExL I v l):ExL I v (exK k l).args:=h
abbrev StL (I:Imm)(v:Value)(l:List Bs):Prop:=RL StrV 1 I [] v l
theorem StL.mono {I I':Imm}{v:Value}{l:List Bs}(h:StL I v l)(hI:Ext I I'):StL I' v l:=RL.mono (fun _ _ h=>StrV.mono h hI) h hI (fun _ h=>h)
theorem LstX.mono {I I':Imm}{x:List Ex}{c:List Value}(h:Fh ExV 11 I x c)(hI:Ext I I'):Fh ExV 11 I' x c:=by
 obtain ⟨v,rfl,h⟩:=h;exact ⟨v,rfl,ExL.mono h hI⟩
def TItemV (I:Imm)(x:TItem)(c:List Value):Prop:=∃v0,c=[.bool x.fStar,.string ⟨x.fTable.toArray⟩,.int .i64 x.fExpr.kind,.int .i64 x.fExpr.value.fType,.bool x.fExpr.value.fNull,.int .i64 x.fExpr.value.fInt,.string ⟨x.fExpr.value.fText.toArray⟩,.string ⟨x.fExpr.table.toArray⟩,.string ⟨x.fExpr.name.toArray⟩,.int .i64 x.fExpr.slot,.int .i64 x.fExpr.type,.bool x.fExpr.distinct,v0,.string ⟨x.fAs.toArray⟩]∧ExL I v0 x.fExpr.args
theorem TItemV.mono {I I':Imm}{x:TItem}{c:List Value}(h:TItemV I x c)(hI:Ext I I'):TItemV I' x c:=by
 obtain ⟨v0,rfl,h0⟩:=h;exact ⟨v0,rfl,ExL.mono h0 hI⟩
theorem TItemV.len {I:Imm}{x:TItem}{c:List Value}(h:TItemV I x c):c.length=14:=by
 obtain ⟨v0,rfl,h0⟩:=h;rfl
theorem TItemV.one {I:Imm}{x:TItem}{c:List Value}(h:TItemV I x c):∀u∈c,u.oneCell'=true:=by
 obtain ⟨v0,rfl,h0⟩:=h;obtain ⟨_,_,rfl⟩:=RL.form h0;exact Au rfl
def TSourceV (I:Imm)(x:TSource)(c:List Value):Prop:=∃v0,c=[.string ⟨x.fTable.toArray⟩,.string ⟨x.fAs.toArray⟩,.bool x.fLeft,.int .i64 x.fOn.kind,.int .i64 x.fOn.value.fType,.bool x.fOn.value.fNull,.int .i64 x.fOn.value.fInt,.string ⟨x.fOn.value.fText.toArray⟩,.string ⟨x.fOn.table.toArray⟩,.string ⟨x.fOn.name.toArray⟩,.int .i64 x.fOn.slot,.int .i64 x.fOn.type,.bool x.fOn.distinct,v0]∧ExL I v0 x.fOn.args
theorem TSourceV.mono {I I':Imm}{x:TSource}{c:List Value}(h:TSourceV I x c)(hI:Ext I I'):TSourceV I' x c:=by
 obtain ⟨v0,rfl,h0⟩:=h;exact ⟨v0,rfl,ExL.mono h0 hI⟩
theorem TSourceV.len {I:Imm}{x:TSource}{c:List Value}(h:TSourceV I x c):c.length=14:=by
 obtain ⟨v0,rfl,h0⟩:=h;rfl
theorem TSourceV.one {I:Imm}{x:TSource}{c:List Value}(h:TSourceV I x c):∀u∈c,u.oneCell'=true:=by
 obtain ⟨v0,rfl,h0⟩:=h;obtain ⟨_,_,rfl⟩:=RL.form h0;exact Au rfl
def TOrderV (I:Imm)(x:TOrder)(c:List Value):Prop:=∃v0,c=[.int .i64 x.fExpr.kind,.int .i64 x.fExpr.value.fType,.bool x.fExpr.value.fNull,.int .i64 x.fExpr.value.fInt,.string ⟨x.fExpr.value.fText.toArray⟩,.string ⟨x.fExpr.table.toArray⟩,.string ⟨x.fExpr.name.toArray⟩,.int .i64 x.fExpr.slot,.int .i64 x.fExpr.type,.bool x.fExpr.distinct,v0,.bool x.fDesc]∧ExL I v0 x.fExpr.args
theorem TOrderV.mono {I I':Imm}{x:TOrder}{c:List Value}(h:TOrderV I x c)(hI:Ext I I'):TOrderV I' x c:=by
 obtain ⟨v0,rfl,h0⟩:=h;exact ⟨v0,rfl,ExL.mono h0 hI⟩
theorem TOrderV.len {I:Imm}{x:TOrder}{c:List Value}(h:TOrderV I x c):c.length=12:=by
 obtain ⟨v0,rfl,h0⟩:=h;rfl
theorem TOrderV.one {I:Imm}{x:TOrder}{c:List Value}(h:TOrderV I x c):∀u∈c,u.oneCell'=true:=by
 obtain ⟨v0,rfl,h0⟩:=h;obtain ⟨_,_,rfl⟩:=RL.form h0;exact Au rfl
def Bd (I:Imm)(x:TSelect)(c:List Value):Prop:=∃v0 v1 v2 v3 v4 v5,c=[.bool x.fDistinct,v0,v1,.int .i64 x.fWhere.kind,.int .i64 x.fWhere.value.fType,.bool x.fWhere.value.fNull,.int .i64 x.fWhere.value.fInt,.string ⟨x.fWhere.value.fText.toArray⟩,.string ⟨x.fWhere.table.toArray⟩,.string ⟨x.fWhere.name.toArray⟩,.int .i64 x.fWhere.slot,.int .i64 x.fWhere.type,.bool x.fWhere.distinct,v2,v3,.int .i64 x.fHaving.kind,.int .i64 x.fHaving.value.fType,.bool x.fHaving.value.fNull,.int .i64 x.fHaving.value.fInt,.string ⟨x.fHaving.value.fText.toArray⟩,.string ⟨x.fHaving.table.toArray⟩,.string ⟨x.fHaving.name.toArray⟩,.int .i64 x.fHaving.slot,.int .i64 x.fHaving.type,.bool x.fHaving.distinct,v4,v5,.int .i64 x.fLimit,.int .i64 x.fOffset]∧RL TItemV 14 I [] v0 x.fItems∧RL TSourceV 14 I [] v1 x.fFrom∧ExL I v2 x.fWhere.args∧RL ExV 11 I [] v3 x.fGroup∧ExL I v4 x.fHaving.args∧RL TOrderV 12 I [] v5 x.fOrder
def TSetV (I:Imm)(x:TSet)(c:List Value):Prop:=∃v0,c=[.string ⟨x.fColumn.toArray⟩,.int .i64 x.fExpr.kind,.int .i64 x.fExpr.value.fType,.bool x.fExpr.value.fNull,.int .i64 x.fExpr.value.fInt,.string ⟨x.fExpr.value.fText.toArray⟩,.string ⟨x.fExpr.table.toArray⟩,.string ⟨x.fExpr.name.toArray⟩,.int .i64 x.fExpr.slot,.int .i64 x.fExpr.type,.bool x.fExpr.distinct,v0]∧ExL I v0 x.fExpr.args
theorem TSetV.mono {I I':Imm}{x:TSet}{c:List Value}(h:TSetV I x c)(hI:Ext I I'):TSetV I' x c:=by
 obtain ⟨v0,rfl,h0⟩:=h;exact ⟨v0,rfl,ExL.mono h0 hI⟩
theorem TSetV.len {I:Imm}{x:TSet}{c:List Value}(h:TSetV I x c):c.length=12:=by
 obtain ⟨v0,rfl,h0⟩:=h;rfl
theorem TSetV.one {I:Imm}{x:TSet}{c:List Value}(h:TSetV I x c):∀u∈c,u.oneCell'=true:=by
 obtain ⟨v0,rfl,h0⟩:=h;obtain ⟨_,_,rfl⟩:=RL.form h0;exact Au rfl
def TColV (I:Imm)(x:TCol)(c:List Value):Prop:=∃v0,c=[.string ⟨x.fName.toArray⟩,.int .i64 x.fType,.bool x.fNotNull,.bool x.fKey,.bool x.fUnique,.int .i64 x.fDefault.kind,.int .i64 x.fDefault.value.fType,.bool x.fDefault.value.fNull,.int .i64 x.fDefault.value.fInt,.string ⟨x.fDefault.value.fText.toArray⟩,.string ⟨x.fDefault.table.toArray⟩,.string ⟨x.fDefault.name.toArray⟩,.int .i64 x.fDefault.slot,.int .i64 x.fDefault.type,.bool x.fDefault.distinct,v0]∧ExL I v0 x.fDefault.args
theorem TColV.mono {I I':Imm}{x:TCol}{c:List Value}(h:TColV I x c)(hI:Ext I I'):TColV I' x c:=by
 obtain ⟨v0,rfl,h0⟩:=h;exact ⟨v0,rfl,ExL.mono h0 hI⟩
theorem TColV.len {I:Imm}{x:TCol}{c:List Value}(h:TColV I x c):c.length=16:=by
 obtain ⟨v0,rfl,h0⟩:=h;rfl
theorem TColV.one {I:Imm}{x:TCol}{c:List Value}(h:TColV I x c):∀u∈c,u.oneCell'=true:=by
 obtain ⟨v0,rfl,h0⟩:=h;obtain ⟨_,_,rfl⟩:=RL.form h0;exact Au rfl
def ATe (I:Imm)(x:TIdx)(c:List Value):Prop:=∃v0,c=[.string ⟨x.fName.toArray⟩,.string ⟨x.fTable.toArray⟩,v0,.bool x.fUnique]∧RL StrV 1 I [] v0 x.fColumns
def TStmtV (I:Imm)(x:TStmt)(c:List Value):Prop:=∃v0 v1 v2 v3 v4 v5 v6 v7 v8 v9 v10 v11 v12,c=[.int .i64 x.fKind,.bool x.fSelect.fDistinct,v0,v1,.int .i64 x.fSelect.fWhere.kind,.int .i64 x.fSelect.fWhere.value.fType,.bool x.fSelect.fWhere.value.fNull,.int .i64 x.fSelect.fWhere.value.fInt,.string ⟨x.fSelect.fWhere.value.fText.toArray⟩,.string ⟨x.fSelect.fWhere.table.toArray⟩,.string ⟨x.fSelect.fWhere.name.toArray⟩,.int .i64 x.fSelect.fWhere.slot,.int .i64 x.fSelect.fWhere.type,.bool x.fSelect.fWhere.distinct,v2,v3,.int .i64 x.fSelect.fHaving.kind,.int .i64 x.fSelect.fHaving.value.fType,.bool x.fSelect.fHaving.value.fNull,.int .i64 x.fSelect.fHaving.value.fInt,.string ⟨x.fSelect.fHaving.value.fText.toArray⟩,.string ⟨x.fSelect.fHaving.table.toArray⟩,.string ⟨x.fSelect.fHaving.name.toArray⟩,.int .i64 x.fSelect.fHaving.slot,.int .i64 x.fSelect.fHaving.type,.bool x.fSelect.fHaving.distinct,v4,v5,.int .i64 x.fSelect.fLimit,.int .i64 x.fSelect.fOffset,.string ⟨x.fTable.toArray⟩,v6,v7,v8,.int .i64 x.fWhere.kind,.int .i64 x.fWhere.value.fType,.bool x.fWhere.value.fNull,.int .i64 x.fWhere.value.fInt,.string ⟨x.fWhere.value.fText.toArray⟩,.string ⟨x.fWhere.table.toArray⟩,.string ⟨x.fWhere.name.toArray⟩,.int .i64 x.fWhere.slot,.int .i64 x.fWhere.type,.bool x.fWhere.distinct,v9,v10,v11,.string ⟨x.fIndex.fName.toArray⟩,.string ⟨x.fIndex.fTable.toArray⟩,v12,.bool x.fIndex.fUnique]∧RL TItemV 14 I [] v0 x.fSelect.fItems∧RL TSourceV 14 I [] v1 x.fSelect.fFrom∧ExL I v2 x.fSelect.fWhere.args∧RL ExV 11 I [] v3 x.fSelect.fGroup∧ExL I v4 x.fSelect.fHaving.args∧RL TOrderV 12 I [] v5 x.fSelect.fOrder∧RL StrV 1 I [] v6 x.fColumns∧RL (Fh ExV 11) 1 I [] v7 x.fRows∧RL TSetV 12 I [] v8 x.fSets∧ExL I v9 x.fWhere.args∧RL TColV 16 I [] v10 x.fCols∧RL StrV 1 I [] v11 x.fKey∧RL StrV 1 I [] v12 x.fIndex.fColumns
theorem TStmtV.mono {I I':Imm}{x:TStmt}{c:List Value}(h:TStmtV I x c)(hI:Ext I I'):TStmtV I' x c:=by
 obtain ⟨v0,v1,v2,v3,v4,v5,v6,v7,v8,v9,v10,v11,v12,rfl,h0,h1,h2,h3,h4,h5,h6,h7,h8,h9,h10,h11,h12⟩:=h;exact ⟨v0,v1,v2,v3,v4,v5,v6,v7,v8,v9,v10,v11,v12,rfl,RL.mono (fun _ _ h=>TItemV.mono h hI) h0 hI (fun _ h=>by cases h),RL.mono (fun _ _ h=>TSourceV.mono h hI) h1 hI (fun _ h=>by cases h),ExL.mono h2 hI,RL.mono (fun _ _ h=>ExV.mono hI h) h3 hI (fun _ h=>by cases h),ExL.mono h4 hI,RL.mono (fun _ _ h=>TOrderV.mono h hI) h5 hI (fun _ h=>by cases h),RL.mono (fun _ _ h=>StrV.mono h hI) h6 hI (fun _ h=>by cases h),RL.mono (fun _ _ h=>LstX.mono h hI) h7 hI (fun _ h=>by cases h),RL.mono (fun _ _ h=>TSetV.mono h hI) h8 hI (fun _ h=>by cases h),ExL.mono h9 hI,RL.mono (fun _ _ h=>TColV.mono h hI) h10 hI (fun _ h=>by cases h),RL.mono (fun _ _ h=>StrV.mono h hI) h11 hI (fun _ h=>by cases h),RL.mono (fun _ _ h=>StrV.mono h hI) h12 hI (fun _ h=>by cases h)⟩
theorem TStmtV.len {I:Imm}{x:TStmt}{c:List Value}(h:TStmtV I x c):c.length=51:=by
 obtain ⟨v0,v1,v2,v3,v4,v5,v6,v7,v8,v9,v10,v11,v12,rfl,h0,h1,h2,h3,h4,h5,h6,h7,h8,h9,h10,h11,h12⟩:=h;rfl
theorem TStmtV.one {I:Imm}{x:TStmt}{c:List Value}(h:TStmtV I x c):∀u∈c,u.oneCell'=true:=by
 obtain ⟨v0,v1,v2,v3,v4,v5,v6,v7,v8,v9,v10,v11,v12,rfl,h0,h1,h2,h3,h4,h5,h6,h7,h8,h9,h10,h11,h12⟩:=h;obtain ⟨_,_,rfl⟩:=RL.form h0;obtain ⟨_,_,rfl⟩:=RL.form h1;obtain ⟨_,_,rfl⟩:=RL.form h2;obtain ⟨_,_,rfl⟩:=RL.form h3;obtain ⟨_,_,rfl⟩:=RL.form h4;obtain ⟨_,_,rfl⟩:=RL.form h5;obtain ⟨_,_,rfl⟩:=RL.form h6;obtain ⟨_,_,rfl⟩:=RL.form h7;obtain ⟨_,_,rfl⟩:=RL.form h8;obtain ⟨_,_,rfl⟩:=RL.form h9;obtain ⟨_,_,rfl⟩:=RL.form h10;obtain ⟨_,_,rfl⟩:=RL.form h11;obtain ⟨_,_,rfl⟩:=RL.form h12;exact Au rfl
end Go.Proofs.YtkifgfanjcfedaaGreatDoor
