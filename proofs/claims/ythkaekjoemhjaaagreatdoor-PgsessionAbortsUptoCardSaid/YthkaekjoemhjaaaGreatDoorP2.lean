/-
  Lemmas, part 2: laid together by a program.
-/
import Derived.Test.YthkaekjoemhjaaaGreatDoorP1
import Derived.Deep.LoopGhost
import Derived.RangeFuncRecord
import Derived.IntWalk
import GoSem.ClaimJoined
import Derived.Below
import Derived.WideShapes
import Derived.Test.YthkaekjoemhjaaaGreatDoorRows
set_option maxRecDepth 100000
set_option linter.unusedVariables false
set_option linter.unusedSimpArgs false
set_option linter.unusedSectionVars false
namespace Go.SL
section
variable {P:Program}{ω:Om}{n:Nat}
def ALN (ω:Om)(S:M)(w:World):Prop:=∃I L,St ω w I L∧S I L
def ZV (ω:Om)(n:Nat)(Iv:Act→Prop)(K:Env→M)(a:Act)(w:World):Prop:=Iv a∧∃e I L,Rep n a e∧St ω w I L∧K e I L
def PP (ω:Om)(pn:Pnf)(c:List PanicEntry)(ds:List Deferred)(w:World):Prop:=∃e v I L,ds=dfs e.df∧c=[{v,recovered:=false}]∧St ω w I L∧ALP (LV pn e) v I L
theorem PP.none {c:List PanicEntry}{ds:List Deferred}{w:World}:¬PP ω none c ds w:=fun ⟨_,_,_,_,_,_,_,h⟩=>h
theorem DW {pn:Pnf}{ops:Array Oper}{nd:Nat→Bool}{S:M}{K:Env→M}{Iv:Act→Prop}(hI:∀a o v,o∈ops→Iv a→Iv (a.put o.dst v)):
  ∀(rest:List Oper) (i:Nat) (md:Md) (e:Env) (a:Act) (w:World) (I:Imm) (L:LH),(∀k,rest[k]? =ops[i+k]?)→Iv a→Rep n a e→MdOk n ops md e→St ω w I L→
   Dj P ω pn (some S) nd n ops i md rest e K I L→Ser P (PP ω pn) ops (ALN ω S) (DD P ops) nd (ZV ω n Iv K) (List.range' i rest.length) a w
 |[],i,md,e,a,w,I,L,_,hv,hr,_,hs,h=>⟨hv,e,I,L,hr,hs,h⟩
 |o::rest,i,md,e,a,w,I,L,hops,hv,hr,hmd,hs,h=>by
  have ho:ops[i]? =some o:=by have:=hops 0;simpa using this.symm
  have hom:o∈ops:=Array.mem_of_getElem? ho;have hops':∀k,rest[k]? =ops[(i+1)+k]? :=fun k=>by
   have:=hops (k+1);simp only [List.getElem?_cons_succ] at this;rw [this];congr 1;omega
  have hkd:DD P ops i=opk P o.op:=by simp [DD,ho]
  simp only [List.length_cons,List.range'_succ];refine ⟨o,ho,?_⟩;obtain ⟨e',hr,hpe,hstep⟩:=QI hr hmd h;rcases hstep with ⟨hw,md',hmd',h⟩|⟨hw,md',hmd',h⟩|⟨_,hS,_⟩
  rotate_right
  ·cases hS
  ·unfold Nw at h;cases hop:BQ P ω (LV pn e) (e'.ev n) o.op with
   |pure r=>
    rw [hop] at h;simp only [chk,Option.isSome_some,Bool.not_true,Bool.false_or] at h;split at h
    ·rename_i hk
     have hk:=Nat.eq_of_beq_eq_true hk;cases r with
     |none=>exact h.elim
     |some v=>
      refine .inr ⟨by rw [hkd,hk];decide,v,.inl ⟨hw,fun w' _=>Gm hr hop w'⟩,?_⟩;exact DW hI rest (i+1) md' _ _ w I L hops' (hI _ o _ hom hv) (hr.put _ _) (hmd' v) hs h
    ·exact h.elim
   |read R=>
    rw [hop] at h;simp only [chk,Option.isSome_some,Bool.not_true,Bool.false_or] at h;split at h
    ·rename_i hk
     have hk:=Nat.eq_of_beq_eq_true hk;obtain ⟨v,hR,hK⟩:=h;refine .inr ⟨by rw [hkd,hk];decide,v,.inl ⟨hw,fun w' hS=>?_⟩,?_⟩
     ·obtain ⟨I',L',hs',hS'⟩:=hS (by rw [hkd,hk]);exact JD hr hop hs' (hR I' L' hS')
     ·exact DW hI rest (i+1) md' _ _ w I L hops' (hI _ o _ hom hv) (hr.put _ _) (hmd' v) hs hK
    ·exact h.elim
   |eff E=>
    rw [hop] at h;simp only [chk,Option.isSome_some,Bool.not_true,Bool.false_or] at h;split at h
    ·rename_i hk
     have hk:=Nat.eq_of_beq_eq_true hk;refine .inl ⟨by rw [hkd,hk],?_⟩;unfold CB;simp only [ho,hw,if_true];unfold wpR;refine Gz (fun v w' I0 L0 hs0 hg=>?_) (fun v w' I0 L0 hs0 hp=>⟨e',v,I0,L0,hr.defers,rfl,hs0,by rw [hpe];exact hp⟩) (Oe hr hop hs h);obtain ⟨I',L',hs',hk'⟩:=KN hs0 hg;simp only [kp] at hk';split at hk'
     ·exact ⟨fun _=>⟨I',L',hs',hk'.1⟩,DW hI rest (i+1) md' _ _ w' I' L' hops' (hI _ o _ hom hv) (hr.put _ _) (hmd' v) hs' hk'.2⟩
     ·rename_i hn
      exact ⟨fun h=>absurd h hn,DW hI rest (i+1) md' _ _ w' I' L' hops' (hI _ o _ hom hv) (hr.put _ _) (hmd' v) hs' hk'⟩
    ·exact h.elim
   |no=>rw [hop] at h;exact h.elim
  ·simp only [skM] at h;by_cases hk:DD P ops i=2
   ·refine .inl ⟨hk,?_⟩;unfold CB;simp only [ho,hw,Bool.false_eq_true,if_false];rw [hkd] at hk;rw [hk] at h;cases hn:nd i with
    |true=>
     rw [hn] at h;simp only [Nat.beq_refl,Bool.and_self,if_true] at h;exact ⟨fun _=>⟨I,L,hs,h.1⟩,DW hI rest (i+1) md' _ _ w I L hops' (hI _ o _ hom hv) (hr.put _ _) hmd' hs h.2⟩
    |false=>
     rw [hn] at h;simp only [Bool.false_and,Bool.false_eq_true,if_false] at h;exact ⟨(fun h=>absurd h (by decide)),DW hI rest (i+1) md' _ _ w I L hops' (hI _ o _ hom hv) (hr.put _ _) hmd' hs h⟩
   ·refine .inr ⟨hk,undef,.inr ⟨hw,rfl⟩,?_⟩;rw [hkd] at hk;have hb:Nat.beq (opk P o.op) 2=false:=by
     cases hb:Nat.beq (opk P o.op) 2 with
     |false=>rfl
     |true=>exact absurd (Nat.eq_of_beq_eq_true hb) hk
    simp only [hb,Bool.and_false,Bool.false_eq_true,if_false] at h;exact DW hI rest (i+1) md' _ _ w I L hops' (hI _ o _ hom hv) (hr.put _ _) hmd' hs h
theorem EM {b:Frame}{a:Act}{k:List Item}{cs:List Frame}{w:World}{c:Code}:step P (lone (b.atR a (.code (.scope c)::k)) cs w)= .next (lone (b.atR a (.code c:: .inScope c::k)) cs w):=
 step_lone_go (by simp [stepG,stepG.exec,Frame.atR])
theorem Px {b:Frame}{a:Act}{k:List Item}{cs:List Frame}{w:World}{c:Code}:step P (lone (b.atR a (.inScope c::k)) cs w)= .next (lone (b.atR a k) cs w):=
 step_lone_go (by simp [stepG,stepG.exec,Frame.atR])
theorem Ve {F:Fence}{n:Nat}{Q:Exit→Act→World→Prop}{a:Act}{w:World}{c:Code}(h:c.wpIn F n P Q a w)(hq0:∀l a w,¬Q (.goto l) a w):(Code.scope c).wpIn F n P Q a w:=by
 intro b k cs hro hb hr;have h0:(lone (b.atR a (.code (.scope c)::k)) cs w).fenced P F:=fenced_calm hb hr rfl;obtain ⟨e,a₁,w₁,hq,harr⟩:=h b (.inScope c::k) cs hro hb hr;cases e with
 |normal=>exact ⟨.normal,a₁,w₁,hq,.head h0 EM (StepsIn.trans harr (.one (fenced_calm hb hr rfl) Px))⟩
 |exit id'=>
  have hx:exitTo id' (.inScope c::k)=exitTo id' k:=by simp [exitTo]
  exact ⟨.exit id',a₁,w₁,hq,fun k' hk=>.head h0 EM (harr.1 k' (by rw [hx];exact hk)),
   fun hr' hk=>let ⟨k₁,h1,h2⟩:=harr.2 hr' (by rw [hx];exact hk);⟨k₁,h1,.head h0 EM h2⟩⟩
 |goto l=>exact absurd hq (hq0 _ _ _)
 |ret=>exact ⟨_,a₁,w₁,hq,.of_steps (.one h0 EM) harr⟩
 |panic ch=>exact ⟨_,a₁,w₁,hq,.of_steps (.one h0 EM) harr⟩
 |outgrown=>exact ⟨_,a₁,w₁,hq,.of_steps (.one h0 EM) harr⟩
theorem VY {I:Imm}{L:LH}:∀{Ms:List M} {A:M},AQE Ms I L→A∈Ms→A I L
 |[],_,h,_=>h.elim
 |[B],A,h,hm=>by simp only [List.mem_singleton] at hm;subst hm;exact h
 |B::C::r,A,h,hm=>by
  rcases List.mem_cons.1 hm with hm|hm
  ·subst hm;exact h.1
  ·exact VY h.2 hm
theorem rdyB_spec {rc:Nat→Nat→Bool}{i:Nat}{l:List Nat}:AGn rc i l=true↔Rdy rc i l:=by
 simp only [AGn,List.all_eq_true,Bool.or_eq_true,Bool.not_eq_true'];constructor
 ·intro h j hj hne;rcases h j hj with h|h
  ·exact absurd (Nat.eq_of_beq_eq_true h) hne
  ·exact h
 ·intro h j hj;by_cases e:j=i
  ·left;rw [e];exact Nat.beq_refl i
  ·right;exact h j hj e
theorem AAg {ops:Array Oper}{i:Nat}(h:DD P ops i=2):Ee P ops i=2:=by
 unfold Ee;split
 ·rfl
 ·exact h
theorem AAi {ops:Array Oper}{i:Nat}(h:Ee P ops i≠2)(h1:DD P ops i=1):Ee P ops i=1:=by
 unfold Ee at h ⊢;split at h
 ·exact absurd rfl h
 ·rename_i hc;rw [if_neg hc];exact h1
theorem AAh {ops:Array Oper}{i:Nat}(h:Ee P ops i=2):DD P ops i≠0:=by
 unfold Ee at h;split at h
 ·rename_i hc
  simp only [Bool.and_eq_true] at hc;have:=Nat.eq_of_beq_eq_true hc.1;omega
 ·omega
theorem Eo {pn:Pnf}{ops:Array Oper}{nd:Nat→Bool}{rc:Nat→Nat→Bool}{S:M}{K:Env→M}{Iv:Act→Prop}(hI:∀a o v,o∈ops→Iv a→Iv (a.put o.dst v)):
  ∀(f:Nat) (l:List Nat) (md:Md) (e:Env) (a:Act) (w:World) (I:Imm) (L:LH),Iv a→Rep n a e→MdOk n ops md e→St ω w I L→(∀i∈l,i < ops.size)→
   vcG P ω pn S nd (Ee P ops) rc n ops f l md e K I L→TI P (PP ω pn) ops (ALN ω S) (Ee P ops) nd rc (ZV ω n Iv K) f l a w
 |0,l,md,e,a,w,I,L,hv,hr,_,hs,_,h=>⟨hv,e,I,L,hr,hs,h⟩
 |f+1,l,md,e,a,w,I,L,hv,hr,hmd,hs,hlt,h=>by
  unfold vcG at h;have hlt':∀i,∀j∈l.erase i,j < ops.size:=fun i j hj=>hlt j (List.mem_of_mem_erase hj);cases hf:l.find? (fun i=> !Nat.beq (Ee P ops i) 2&&AGn rc i l) with
  |some i=>
   simp only [hf] at h;have hp:=List.find?_some hf;have hm:=List.mem_of_find?_eq_some hf;simp only [Bool.and_eq_true,Bool.not_eq_true'] at hp;have hrd:=rdyB_spec.1 hp.2;have hk2:Ee P ops i≠2:=fun e=>by rw [e] at hp;simp at hp
   cases ho:ops[i]? with
   |some o=>
    simp only [ho] at h;have hom:o∈ops:=Array.mem_of_getElem? ho;have hkd:DD P ops i=opk P o.op:=by simp [DD,ho]
    obtain ⟨e,md,hr,hmd,h|h⟩:=Ua hr hmd h
    ·obtain ⟨hw,h⟩:=h;unfold Nw at h;cases hop:BQ P ω (LV pn e) (e.ev n) o.op with
     |pure r=>
      rw [hop] at h;simp only [chk,Option.isSome_some,Bool.not_true,Bool.false_or] at h;split at h
      ·cases r with
       |none=>exact h.elim
       |some v=>exact .inl ⟨i,o,v,hm,hk2,hrd,ho,.inl ⟨hw,fun w' _=>Gm hr hop w'⟩,Eo hI f _ _ _ _ w I L (hI _ o _ hom hv) (hr.put _ _) (hmd.forget _ _) hs (hlt' i) h⟩
      ·exact h.elim
     |read R=>
      rw [hop] at h;simp only [chk,Option.isSome_some,Bool.not_true,Bool.false_or] at h;split at h
      ·rename_i hk
       have hk:=Nat.eq_of_beq_eq_true hk;obtain ⟨v,hR,hK⟩:=h;refine .inl ⟨i,o,v,hm,hk2,hrd,ho,.inl ⟨hw,fun w' hS=>?_⟩,Eo hI f _ _ _ _ w I L (hI _ o _ hom hv) (hr.put _ _) (hmd.forget _ _) hs (hlt' i) hK⟩;obtain ⟨I',L',hs',hS'⟩:=hS (AAi hk2 (by rw [hkd,hk]));exact JD hr hop hs' (hR I' L' hS')
      ·exact h.elim
     |eff E=>
      rw [hop] at h;simp only [chk,Option.isSome_some,Bool.not_true,Bool.false_or] at h;split at h
      ·rename_i hk
       have hk:=Nat.eq_of_beq_eq_true hk;exact absurd (AAg (hkd.trans hk)) hk2
      ·exact h.elim
     |no=>rw [hop] at h;exact h.elim
    ·obtain ⟨hw,h⟩:=h;exact .inl ⟨i,o,undef,hm,hk2,hrd,ho,.inr ⟨hw,rfl⟩,Eo hI f _ _ _ _ w I L (hI _ o _ hom hv) (hr.put _ _) (hmd.skd _) hs (hlt' i) h⟩
   |none=>simp only [ho] at h;exact h.elim
  |none=>
   simp only [hf] at h;refine .inr ⟨fun i hi hrd=>?_,fun k hk hrd=>?_⟩
   ·have:=List.find?_eq_none.1 hf i hi;simp only [Bool.and_eq_true,Bool.not_eq_true',not_and,Bool.not_eq_true] at this;cases hb:Nat.beq (Ee P ops i) 2 with
    |true=>exact Nat.eq_of_beq_eq_true hb
    |false=>have:=this hb;rw [rdyB_spec.2 hrd] at this;cases this
   ·have h:=VY h (List.mem_map.2 ⟨k,List.mem_filter.2 ⟨hk,rdyB_spec.2 hrd⟩,rfl⟩);have hk2:Ee P ops k=2:=by
     have:=List.find?_eq_none.1 hf k hk;simp only [Bool.and_eq_true,Bool.not_eq_true',not_and,Bool.not_eq_true] at this;cases hb:Nat.beq (Ee P ops k) 2 with
     |true=>exact Nat.eq_of_beq_eq_true hb
     |false=>have:=this hb;rw [rdyB_spec.2 hrd] at this;cases this
    cases ho:ops[k]? with
    |some o=>
     simp only [ho] at h;have hom:o∈ops:=Array.mem_of_getElem? ho;have hkd:DD P ops k=opk P o.op:=by simp [DD,ho]
     have hk0:=AAh hk2;rw [hkd] at hk0;obtain ⟨e,md,hr,hmd,h|h⟩:=Ua hr hmd h
     ·obtain ⟨hw,h⟩:=h;unfold ALR Nw at h;cases hop:BQ P ω (LV pn e) (e.ev n) o.op with
      |pure r=>
       rw [hop] at h;simp only [chk,Option.isSome_some,Bool.not_true,Bool.false_or] at h;split at h
       ·rename_i hz
        exact absurd (Nat.eq_of_beq_eq_true hz) hk0
       ·exact h.elim
      |read R=>
       rw [hop] at h;obtain ⟨v,hR,hK⟩:=h;unfold CB;simp only [ho,hw,if_true];unfold wpR;rw [JD hr hop hs hR];refine Gz (K:=fun v' I0 L0=>v'=v∧kp (some S) (nd k) (fun v=>vcG P ω pn S nd (Ee P ops) rc n ops f (l.erase k) (forget o.dst md) (e.upd o.dst v) K) v I0 L0) (Pn:=fun _ _ _=>False) (fun v' w' I0 L0 hs0 hgg=>?_) (fun _ _ _ _ _ hp=>hp.elim) (show VW P ω _ _ (.ok (.value v) w) from ⟨I,L,hs,rfl,hK⟩);obtain ⟨rfl,hk'⟩:=hgg;simp only [kp] at hk';split at hk'
       ·exact ⟨fun _=>⟨I0,L0,hs0,hk'.1⟩,Eo hI f _ _ _ _ w' I0 L0 (hI _ o _ hom hv) (hr.put _ _) (hmd.forget _ _) hs0 (hlt' k) hk'.2⟩
       ·rename_i hn
        exact ⟨fun h=>absurd h hn,Eo hI f _ _ _ _ w' I0 L0 (hI _ o _ hom hv) (hr.put _ _) (hmd.forget _ _) hs0 (hlt' k) hk'⟩
      |eff E=>
       rw [hop] at h;simp only [chk,Option.isSome_some,Bool.not_true,Bool.false_or] at h;split at h
       case isFalse=>exact h.elim
       unfold CB;simp only [ho,hw,if_true];unfold wpR;refine Gz (fun v w' I0 L0 hs0 hgg=>?_) (fun v w' I0 L0 hs0 hp=>⟨e,v,I0,L0,hr.defers,rfl,hs0,hp⟩) (Oe hr hop hs h);obtain ⟨I',L',hs',hk'⟩:=KN hs0 hgg;simp only [kp] at hk';split at hk'
       ·exact ⟨fun _=>⟨I',L',hs',hk'.1⟩,Eo hI f _ _ _ _ w' I' L' (hI _ o _ hom hv) (hr.put _ _) (hmd.forget _ _) hs' (hlt' k) hk'.2⟩
       ·rename_i hn
        exact ⟨fun h=>absurd h hn,Eo hI f _ _ _ _ w' I' L' (hI _ o _ hom hv) (hr.put _ _) (hmd.forget _ _) hs' (hlt' k) hk'⟩
      |no=>rw [hop] at h;exact h.elim
     ·obtain ⟨hw,h⟩:=h;unfold CB;simp only [ho,hw,Bool.false_eq_true,if_false];simp only [skM] at h;cases hn:nd k with
      |true=>
       rw [hn] at h;simp only [Nat.beq_refl,Bool.and_self,if_true] at h;exact ⟨fun _=>⟨I,L,hs,h.1⟩,Eo hI f _ _ _ _ w I L (hI _ o _ hom hv) (hr.put _ _) (hmd.skd _) hs (hlt' k) h.2⟩
      |false=>
       rw [hn] at h;simp only [Bool.false_and,Bool.false_eq_true,if_false] at h;exact ⟨(fun h=>absurd h (by decide)),Eo hI f _ _ _ _ w I L (hI _ o _ hom hv) (hr.put _ _) (hmd.skd _) hs (hlt' k) h⟩
    |none=>simp only [ho] at h;exact h.elim
theorem AGm {ops:Array Oper}(hdep:∀i o,ops[i]? =some o→∀e∈o.after,Region.binds .any e=true→e.on < i):∀(f i j:Nat),reach ops f i j=true→j < i
 |0,_,_,h=>by simp [reach] at h
 |f+1,i,j,h=>by
  simp only [reach] at h;cases ho:ops[i]? with
  |none=>rw [ho] at h;simp at h
  |some o=>
   rw [ho] at h;simp only at h
   obtain ⟨e,he,hb⟩:=Array.any_eq_true'.1 h;simp only [Bool.and_eq_true,Bool.or_eq_true] at hb;have hlt:=hdep i o ho e he hb.1;rcases hb.2 with hb|hb
   ·have:=Nat.eq_of_beq_eq_true hb;omega
   ·have:=hb.1;simp [Nat.blt_eq] at this;omega
theorem Hg {ops:Array Oper}{listed:Array Bool}(hdc:∀k,listed.getD k false=true→∀o,ops[k]? =some o→∀e∈o.after,Region.binds .any e=true→listed.getD e.on false=true):
  ∀(f i j:Nat),(∀o,ops[i]? =some o→∀e∈o.after,Region.binds .any e=true→listed.getD e.on false=true)→reach ops f i j=true→listed.getD j false=true
 |0,_,_,_,h=>by simp [reach] at h
 |f+1,i,j,hi,h=>by
  simp only [reach] at h;cases ho:ops[i]? with
  |none=>rw [ho] at h;simp at h
  |some o=>
   rw [ho] at h;simp only at h
   obtain ⟨e,he,hb⟩:=Array.any_eq_true'.1 h;simp only [Bool.and_eq_true,Bool.or_eq_true] at hb;have hl:=hi o ho e he hb.1;rcases hb.2 with hb|hb
   ·have:=Nat.eq_of_beq_eq_true hb;rw [←this];exact hl
   ·exact Hg hdc f e.on j (fun o' ho'=>hdc e.on hl o' ho') hb.2
theorem AAN {PQ:List PanicEntry→List Deferred→World→Prop}{ops:Array Oper}(h:SE P ops=true)(hpan:(∀c ds w,¬PQ c ds w)∨ANM P ops=true):SerOk PQ ops (DD P ops) (WO P ops) (fun i j=>reach ops ops.size i j):=by
 unfold SE at h;simp only [Bool.and_eq_true,List.all_eq_true,List.mem_range] at h;obtain ⟨hsel,hall⟩:=h;have hdep:∀i o,ops[i]? =some o→∀e∈o.after,Region.binds .any e=true→e.on < i:=by
  intro i o ho e he hb;have:=hall i (Array.getElem?_eq_some_iff.1 ho).1;rw [ho] at this;simp only [Bool.and_eq_true,Array.all_eq_true_iff_forall_mem] at this;have h1:=this.1 e he;rw [hb] at h1;simpa [Nat.blt_eq] using h1
 refine ⟨hpan.imp id (fun hp i j hji hi hk hk2=>?_),Region.noSelect_spec hsel,hdep,fun i j oi oj hji hi hj=>?_,fun i j hr=>AGm hdep _ _ _ hr,fun i j hi hj hk hne hr=>?_⟩
 ·unfold ANM at hp;simp only [List.all_eq_true,List.mem_range,Bool.or_eq_true,Bool.not_eq_true'] at hp;rcases hp i hi j hji with (h1|h1)|h1
  ·exact absurd (Nat.eq_of_beq_eq_true h1) hk
  ·rw [hk2] at h1;simp at h1
  ·exact h1
 ·have:=hall i (Array.getElem?_eq_some_iff.1 hi).1;rw [hi] at this;simp only [Bool.and_eq_true,List.all_eq_true,List.mem_range] at this;have h1:=this.2 j hji;rw [hj] at h1;simp only [Bool.or_eq_true,Bool.and_eq_true] at h1;rcases h1 with h1|h1
  ·exact .inl h1
  ·refine .inr ⟨h1.1.1,h1.1.2,?_⟩;rintro ⟨k1,k2⟩;simp only [DD,hi] at k1;simp only [DD,hj] at k2;rw [k1,k2] at h1;simp at h1
 ·unfold WO;simp only [List.any_eq_true,List.mem_range,Bool.and_eq_true,Bool.not_eq_true'];refine ⟨j,hj,⟨by rw [hk];rfl,?_⟩,hr⟩;cases hb:Nat.beq i j with
  |false=>rfl
  |true=>exact absurd (Nat.eq_of_beq_eq_true hb) hne
theorem ANc {ops:Array Oper}(h:ANd ops=true):SerGOk ops (Ee P ops) (AHH P ops) (fun i j=>reach ops ops.size i j):=by
 unfold ANd at h;simp only [Bool.and_eq_true,List.all_eq_true,List.mem_range] at h;obtain ⟨hsel,hall⟩:=h;have hdep:∀i o,ops[i]? =some o→∀e∈o.after,Region.binds .any e=true→e.on < i:=by
  intro i o ho e he hb;have:=hall i (Array.getElem?_eq_some_iff.1 ho).1;rw [ho] at this;simp only [Bool.and_eq_true,Array.all_eq_true_iff_forall_mem] at this;have h1:=this.1 e he;rw [hb] at h1;simpa [Nat.blt_eq] using h1
 refine ⟨Region.noSelect_spec hsel,hdep,fun i j oi oj hji hi hj=>?_,fun i j hi hj hk hne hr=>?_⟩
 ·have:=hall i (Array.getElem?_eq_some_iff.1 hi).1;rw [hi] at this;simp only [Bool.and_eq_true,List.all_eq_true,List.mem_range] at this;have h1:=this.2 j hji;rw [hj] at h1;simp only [Bool.or_eq_true,Bool.and_eq_true] at h1;exact h1
 ·unfold AHH;simp only [List.any_eq_true,List.mem_range,Bool.and_eq_true,Bool.not_eq_true'];refine ⟨j,hj,⟨by rw [hk];rfl,?_⟩,hr⟩;cases hb:Nat.beq i j with
  |false=>rfl
  |true=>exact absurd (Nat.eq_of_beq_eq_true hb) hne
theorem UH {r:Option Nat}{m:Nat}{pn:Pnf}{ops:Array Oper}{K:Env→M}{Q:Exit→Act→World→Prop}{id:Nat}{e:Env}{a:Act}{w:World}{I:Imm}{L:LH}(hm:P.follows .mixedOrders=true)
  {Iv Jv:Act→Prop} (hd:∀o∈ops,okD r o) (hI:∀a o v,o∈ops→Iv a→Iv (a.put o.dst v)) (hJ:∀a o v ds,o∈ops→Jv a→Jv (({a with defers:=ds}:Act).put o.dst v)) (hv:Iv a) (hj:Jv a) (hQ:∀a w e I L,Iv a→Rep n a e→St ω w I L→K e I L→Q .normal a w) (hP:ZR ω pn Jv Q) (hr:Rep n a e) (hs:St ω w I L) (h:Vh P ω pn n ops e K I L):
  (Code.region id ops true).wpIn (Fr r) m P Q a w:=by
 have hQP:∀c a w,Jv a→PP ω pn c a.defers w→Q (.panic c) a w:=fun c a w hj ⟨e,v,I,L,h1,h2,h3,h4⟩=>by
  subst h2;exact hP a e w v I L hj h1 h3 h4
 unfold Vh at h;split at h
 ·rename_i hser
  obtain ⟨S,hS,h⟩:=h;simp only [Bool.and_eq_true,Bool.or_eq_true] at hser;have ok:=AAN (P:=P) (PQ:=PP ω pn) hser.1 (hser.2.imp (fun h=>by
   cases pn with
   |none=>exact fun _ _ _=>PP.none
   |some _=>cases h) (fun h=>h))
  refine OZ hm hd ?_;have hs':St ω {w with drawn:=w.drawn+1} I L:=hs.drew (Nat.le_succ _);have hser':=DW hI ops.toList 0 [] e a _ I L (fun k=>by simp) hv hr (MdOk.none _ _) hs' h;refine Yi ok (Sw:=ALN ω S) (Fin:=ZV ω n Iv K) (fun a w ⟨h0,e,I,L,h1,h2,h3⟩=>hQ a w e I L h0 h1 h2 h3) hJ hQP ?_ ops.size (Array.replicate ops.size false) (List.range ops.size) a _ hj (by simp) (by simp)
   List.pairwise_lt_range (fun i=>?_) (fun k hk=>?_) (fun _=>⟨I,L,hs',hS⟩) ?_
  ·intro listed i hdc hi j hr;obtain ⟨_,o,ho,hdeps⟩:=mem_ready.1 hi;exact Hg hdc _ i j (fun o' ho'=>by rw [ho] at ho';simp only [Option.some.injEq] at ho';subst ho';exact hdeps) hr
  ·rw [List.mem_range];constructor
   ·intro hi;exact ⟨hi,by simp [hi]⟩
   ·exact fun h=>h.1
  ·exfalso
   by_cases hk':k < ops.size
   ·simp [hk'] at hk
   ·simp [hk'] at hk
  ·rw [List.range_eq_range'];simpa using hser'
 ·split at h
  ·rename_i hgen
   obtain ⟨S,hS,h⟩:=h;have ok:=ANc (P:=P) hgen;refine OZ hm hd ?_;have hs':St ω {w with drawn:=w.drawn+1} I L:=hs.drew (Nat.le_succ _);have hser':=Eo hI ops.size (List.range ops.size) [] e a _ I L hv hr (MdOk.none _ _) hs' (fun i hi=>List.mem_range.1 hi) h;refine UB ok (Sw:=ALN ω S) (Fin:=ZV ω n Iv K) (fun a w ⟨h0,e,I,L,h1,h2,h3⟩=>hQ a w e I L h0 h1 h2 h3) hJ hQP ?_ ops.size (Array.replicate ops.size false) (List.range ops.size) a _ hj (by simp) (by simp)
    List.pairwise_lt_range (fun i=>?_) (fun k hk=>?_) (fun _=>⟨I,L,hs',hS⟩) hser'
   ·intro listed i hdc hi j hr;obtain ⟨_,o,ho,hdeps⟩:=mem_ready.1 hi;exact Hg hdc _ i j (fun o' ho'=>by rw [ho] at ho';simp only [Option.some.injEq] at ho';subst ho';exact hdeps) hr
   ·rw [List.mem_range];constructor
    ·intro hi;exact ⟨hi,by simp [hi]⟩
    ·exact fun h=>h.1
   ·exfalso
    by_cases hk':k < ops.size
    ·simp [hk'] at hk
    ·simp [hk'] at hk
  ·exact h.elim
def PnX:Pnx→Env→Value→M
 |none,_,_=>F
 |some p,e,v=>p e v
def PX (ω:Om)(n:Nat)(pn:Pnx)(c:List PanicEntry)(a:Act)(w:World):Prop:=∃e v I L,Rep n a e∧c=[{v,recovered:=false}]∧St ω w I L∧PnX pn e v I L
theorem PX.none {c:List PanicEntry}{a:Act}{w:World}:¬PX ω n none c a w:=fun ⟨_,_,_,_,_,_,_,h⟩=>h
def ARO (ω:Om)(n:Nat)(pn:Pnx)(K:Env→M)(X:Nat→Env→M)(R:Env→M)(S:Act→Prop):Exit→Act→World→Prop
 | .normal,a,w=>S a∧∃e I L,Rep n a e∧St ω w I L∧K e I L
 | .exit id,a,w=>S a∧∃e I L,Rep n a e∧St ω w I L∧X id e I L
 | .ret,a,w=>S a∧∃e I L,Rep n a e∧St ω w I L∧R e I L
 | .panic c,a,w=>PX ω n pn c a w
 |_,_,_=>False
structure Same (l:List Nat)(pl:Bool)(a a':Act):Prop where
 tm:∀t,JK t l=false→a'.tmps.getD t undef=a.tmps.getD t undef
 df:pl=true→a'.defers=a.defers
theorem memB_mem {t:Nat}:∀{l:List Nat},JK t l=true↔t∈l
 |[]=>by simp [JK]
 |x::xs=>by
  simp only [JK,Bool.or_eq_true,List.mem_cons,memB_mem (l:=xs)];constructor
  ·rintro (h|h)
   ·exact .inl (Nat.eq_of_beq_eq_true h)
   ·exact .inr h
  ·rintro (h|h)
   ·subst h;exact .inl (Nat.beq_refl _)
   ·exact .inr h
theorem Ld {n:Nat}{a:Act}{e:Env}(hr:Rep n a e):∀(ss:List Nat) (s:Tup ss),WY e ss=some s→∀(e0:Env),Rep n a e0→a.defers=dfs e0.df→Rep n a (AGK e0 ss s)
 |[],_,_,e0,h0,_=>h0
 |t::ss,s,h,e0,h0,hd0=>by
  simp only [WY] at h;split at h
  ·cases h
  ·rename_i v hv
   split at h
   ·cases h
   ·rename_i r hrr
    injection h with h'
    subst h';have ih:=Ld hr ss r hrr e0 h0 hd0;refine ⟨ih.size,ih.defers,fun t' v' ht' hv'=>?_⟩;simp only [AGK,Env.upd] at hv';split at hv'
    ·rename_i hb
     have:=Nat.eq_of_beq_eq_true hb;subst this;simp only [Option.some.injEq] at hv';subst hv';exact hr.at' t' _ ht' hv
    ·exact ih.at' t' v' ht' hv'
theorem Rep.weaken {n:Nat}{a:Act}{e e':Env}(h:Rep n a e)(hle:∀t v,e'.t t=some v→e.t t=some v)(hd:e'.df=e.df):Rep n a e':=
 ⟨h.size,by rw [hd];exact h.defers,fun t v ht hv=>h.at' t v ht (hle t v hv)⟩
theorem ANi (e:Env)(l:List Nat):∀t v,(clr e l).t t=some v→e.t t=some v:=by
 intro t v h;unfold clr at h;simp only at h
 split at h
 ·cases h
 ·exact h
theorem Same.refl (l:List Nat)(pl:Bool)(a:Act):Same l pl a a:=⟨fun _ _=>rfl,fun _=>rfl⟩
theorem MJ {t:Nat}{l l':List Nat}:JK t (l++l')=false→JK t l=false∧JK t l'=false:=by
 intro h;constructor
 ·cases hb:JK t l with
  |false=>rfl
  |true=>rw [memB_mem.2 (List.mem_append_left _ (memB_mem.1 hb))] at h;cases h
 ·cases hb:JK t l' with
  |false=>rfl
  |true=>rw [memB_mem.2 (List.mem_append_right _ (memB_mem.1 hb))] at h;cases h
theorem Same.trans {l:List Nat}{pl:Bool}{a b c:Act}(h:Same l pl a b)(h':Same l pl b c):Same l pl a c:=⟨fun t ht=>(h'.tm t ht).trans (h.tm t ht),fun hp=>(h'.df hp).trans (h.df hp)⟩
theorem Same.left {l l':List Nat}{p p':Bool}{a b:Act}(h:Same l p a b):Same (l++l') (p&&p') a b:=⟨fun t ht=>h.tm t (MJ ht).1,fun hp=>h.df (by simp at hp;exact hp.1)⟩
theorem Same.right {l l':List Nat}{p p':Bool}{a b:Act}(h:Same l' p' a b):Same (l++l') (p&&p') a b:=⟨fun t ht=>h.tm t (MJ ht).2,fun hp=>h.df (by simp at hp;exact hp.2)⟩
theorem Same.any {l:List Nat}{p:Bool}{a b:Act}(h:Same l true a b):Same l p a b:=⟨h.tm,fun _=>h.df rfl⟩
theorem AGN {l:List Nat}{pl:Bool}{a b:Act}(h:Same l pl a b){d:Option Tmp}{v:Value}(hd:∀t,d=some t→JK t l=true):Same l pl a (b.put d v):=by
 refine ⟨fun t ht=>?_,fun hp=>?_⟩
 ·cases d with
  |none=>exact h.tm t ht
  |some d=>
   have hne:d≠t:=fun e=>by subst e;rw [hd d rfl] at ht;cases ht
   rw [←h.tm t ht];simp only [Act.put,Array.getD_eq_getD_getElem?];rw [Array.getElem?_setIfInBounds_ne hne]
 ·cases d with
  |none=>exact h.df hp
  |some d=>exact h.df hp
theorem Oq:∀(l:List Oper) (o:Oper) (t:Nat),o∈l→o.dst=some t→JK t (FB l)=true
 |[],_,_,h,_=>by cases h
 |x::l,o,t,h,hd=>by
  simp only [FB];rcases List.mem_cons.1 h with h|h
  ·subst h;rw [hd];simp only [JK,Nat.beq_refl,Bool.true_or]
  ·have:=Oq l o t h hd;split
   ·simp only [JK,this,Bool.or_true]
   ·exact this
theorem AGJ {n:Nat}{l:List Nat}{e:Env}{a a':Act}(hr:Rep n a e)(hsz:a'.tmps.size=n)(hs:Same l true a a'):Rep n a' (clr e l):=by
 refine ⟨hsz,(hs.df rfl).trans hr.defers,fun t v ht hv=>?_⟩;unfold clr at hv;simp only at hv
 split at hv
 ·cases hv
 ·rename_i hm
  rw [hs.tm t (by simpa using hm)];exact hr.at' t v ht hv
theorem WU {F:Fence}{rm:Nat}{Q:Exit→Act→World→Prop}{a:Act}{w:World}{c:Code}(I:Nat→Act→World→Prop)(n₀:Nat)(h₀:I n₀ a w)
  (round:∀n a w,I n a w→c.wpIn F rm P (Exit.then (fun a' w'=>∃n',n' < n∧I n' a' w') Q) a w):(Code.loop c).wpIn F rm P Q a w:=by
 refine wpIn_loop (fun a w=>∃n,I n a w) (fun a w=>leastOf (fun n=>I n a w)) ⟨n₀,h₀⟩ ?_;intro a w hI;refine wpIn_mono (round _ a w (leastOf_spec hI).1) ?_;intro e a' w' hq;cases e with
 |normal=>
  obtain ⟨n',hlt,hI'⟩:=hq;exact show (∃n,I n a' w')∧leastOf (fun n=>I n a' w') < leastOf (fun n=>I n a w) from ⟨⟨n',hI'⟩,Nat.lt_of_le_of_lt ((leastOf_spec ⟨n',hI'⟩).2 n' hI') hlt⟩
 |exit id=>exact hq
 |goto l=>exact hq
 |ret=>exact hq
 |panic ch=>exact hq
 |outgrown=>exact hq
theorem GY:∀{l:List Oper},Et l=true→∀o∈l,∀c,o.op≠.defer c
 |[],_,o,h,_=>by cases h
 |x::l,hp,o,h,c=>by
  simp only [Et,Bool.and_eq_true] at hp;rcases List.mem_cons.1 h with rfl|h
  ·intro e;rw [e] at hp;simp at hp
  ·exact GY hp.2 o h c
theorem AHA {r:Option Nat}{ops:Array Oper}(h:r=none∨Et ops.toList=true):∀o∈ops,okD r o:=fun o ho=>h.imp id fun h=>GY h o (Array.mem_toList_iff.2 ho)
theorem ZK {f:FuncId}(he:CJ P f=true)(args:Array Value)(w:World):(callFunc f args).run P w= .ok (.enter f args) w:=by
 unfold CJ at he;split at he
 ·rename_i fn hf
  simp only [Bool.and_eq_true,bne_iff_ne,ne_eq] at he;have hn : (fn.name == "runtime.NumGoroutine") = false := by simpa using he.1
  have hb:fn.body.isNone=false:=by
   cases hb:fn.body with
   |none=>simp [hb] at he
   |some _=>rfl
  simp only [callFunc,Sem.run_bind,run_program,Result.andThen_ok,hf,hn,hb,Bool.false_eq_true,if_false,Sem.run_pure]
 ·cases he
theorem TQ (hm:P.follows .mixedOrders=true):∀(c:Code) (r:Option Nat) (m:Nat) (pn:Pnx) (K:Env→M) (X:Nat→Env→M) (R:Env→M) (e:Env) (a:Act) (w:World) (I:Imm) (L:LH),
  (r=none∨DT c=true)→Rep n a e→St ω w I L→vc P ω pn n c K X R e I L→c.wpIn (Fr r) m P (ARO ω n pn K X R (Same (asg c) (DT c) a)) a w:=by
 intro c;induction c with
 |skip=>exact fun r m pn K X R e a w I L hpl hr hs h=>wpIn_skip ⟨Same.refl _ _ _,e,I,L,hr,hs,h⟩
 |label l=>exact fun r m pn K X R e a w I L hpl hr hs h=>wpIn_label ⟨Same.refl _ _ _,e,I,L,hr,hs,h⟩
 |region id ops draw=>
  intro r m pn K X R e a w I L hpl hr hs h;have hI:∀pl a' o v,o∈ops→Same (FB ops.toList) pl a a'→Same (FB ops.toList) pl a (a'.put o.dst v):=
   fun pl a' o v ho hsm=>AGN hsm fun t ht=>Oq ops.toList o t (Array.mem_toList_iff.2 ho) ht
  have hsz:∀(a':Act) (o:Oper) (v:Value) (ds:List Deferred),(({a' with defers:=ds}:Act).put o.dst v).tmps.size=a'.tmps.size:=fun a' o v ds=>by cases hd:o.dst <;> simp [Act.put]
  have hsz':∀(a':Act) (o:Oper) (v:Value),(a'.put o.dst v).tmps.size=a'.tmps.size:=fun a' o v=>hsz a' o v a'.defers;have hP:ZR ω (pnR pn e ops) (fun a'=>Same (FB ops.toList) false a a'∧a'.tmps.size=a.tmps.size) (ARO ω n pn K X R (Same (asg (.region id ops draw)) (DT (.region id ops draw)) a)):=fun a' e1 w v I L hj hd hs hp=>by
   cases pn with
   |none=>exact hp.elim
   |some p=>
    refine ⟨⟨(clr e (FB ops.toList)).t,e1.df⟩,v,I,L,⟨hj.2.trans hr.size,hd,fun t u ht hu=>?_⟩,rfl,hs,hp⟩;unfold clr at hu;simp only at hu
    split at hu
    ·cases hu
    ·rename_i hmm
     rw [hj.1.tm t (by simpa using hmm)];exact hr.at' t u ht hu
  cases draw with
  |false=>
   refine WE (Iv:=fun a'=>Same (FB ops.toList) (Et ops.toList) a a'∧a'.tmps.size=a.tmps.size) (AHA hpl) (fun a' o v ho h=>⟨hI _ a' o v ho h.1,(hsz' a' o v).trans h.2⟩) (fun a' o ds ho hdo h=>?_) ⟨Same.refl _ _ _,rfl⟩ (fun a w e I L hv hr hs hk=>⟨hv.1,e,I,L,hr,hs,hk⟩)
    (fun a' h=>⟨⟨h.1.tm,fun h=>by cases h⟩,h.2⟩) hP hr hs h
   have hpf:Et ops.toList=false:=by
    cases hb:Et ops.toList with
    |false=>rfl
    |true=>obtain ⟨c,hc⟩:=hdo;exact absurd hc (GY hb o (Array.mem_toList_iff.2 ho) c)
   refine ⟨⟨fun t ht=>?_,fun h=>by rw [hpf] at h;cases h⟩,(hsz a' o undef ds).trans h.2⟩;have:=(hI _ a' o undef ho h.1).tm t ht;cases hd:o.dst <;> simp only [hd,Act.put] at this ⊢ <;> exact this
  |true=>
   refine UH (Iv:=Same (FB ops.toList) true a) hm (AHA hpl) (hI true) (fun a' o v ds ho h=>⟨⟨fun t ht=>?_,fun h=>by cases h⟩,(hsz a' o v ds).trans h.2⟩) (Same.refl _ _ _) ⟨⟨fun _ _=>rfl,fun h=>by cases h⟩,rfl⟩ (fun a w e I L hv hr hs hk=>⟨hv.any,e,I,L,hr,hs,hk⟩) hP hr hs h;have:=(hI _ a' o v ho h.1).tm t ht;cases hd:o.dst <;> simp only [hd,Act.put] at this ⊢ <;> exact this
 |seq x y ihx ihy=>
  intro r m pn K X R e a w I L hpl hr hs h;have hpl':(r=none∨DT x=true)∧(r=none∨DT y=true):=by
   rcases hpl with h|h
   ·exact ⟨.inl h,.inl h⟩
   ·simp only [DT,Bool.and_eq_true] at h;exact ⟨.inr h.1,.inr h.2⟩
  refine wpIn_seq (wpIn_mono (ihx r m pn _ X R e a w I L hpl'.1 hr hs h) ?_);rintro ex a1 w1 hp;cases ex with
  |normal=>
   obtain ⟨hsm,e1,I1,L1,hr1,hs1,h1⟩:=hp;refine wpIn_mono (ihy r m pn K X R e1 a1 w1 I1 L1 hpl'.2 hr1 hs1 h1) ?_;rintro ex2 a2 w2 hp2;cases ex2 with
   |normal=>exact ⟨hsm.left.trans hp2.1.right,hp2.2⟩
   |exit id=>exact ⟨hsm.left.trans hp2.1.right,hp2.2⟩
   |ret=>exact ⟨hsm.left.trans hp2.1.right,hp2.2⟩
   |panic ch=>exact hp2
   |goto l=>exact hp2.elim
   |outgrown=>exact hp2.elim
  |exit id=>exact ⟨hp.1.left,hp.2⟩
  |ret=>exact ⟨hp.1.left,hp.2⟩
  |panic ch=>exact hp
  |goto l=>exact hp.elim
  |outgrown=>exact hp.elim
 |cond c x y ihx ihy=>
  intro r m pn K X R e a w I L hpl hr hs h;have hpl':(r=none∨DT x=true)∧(r=none∨DT y=true):=by
   rcases hpl with h|h
   ·exact ⟨.inl h,.inl h⟩
   ·simp only [DT,Bool.and_eq_true] at h;exact ⟨.inr h.1,.inr h.2⟩
  simp only [vc] at h;cases hv:e.ev n c with
  |none=>rw [hv] at h;exact h.elim
  |some v=>
   rw [hv] at h;simp only at h
   cases v with
   |bool b=>
    refine wpIn_cond (t:=b) (hr.ev hv) ?_;cases b with
    |true=>
     refine wpIn_mono (ihx r m pn K X R e a w I L hpl'.1 hr hs h) ?_;rintro ex a2 w2 hp2;cases ex with
     |normal=>exact ⟨hp2.1.left,hp2.2⟩
     |exit id=>exact ⟨hp2.1.left,hp2.2⟩
     |ret=>exact ⟨hp2.1.left,hp2.2⟩
     |panic ch=>exact hp2
     |goto l=>exact hp2.elim
     |outgrown=>exact hp2.elim
    |false=>
     refine wpIn_mono (ihy r m pn K X R e a w I L hpl'.2 hr hs h) ?_;rintro ex a2 w2 hp2;cases ex with
     |normal=>exact ⟨hp2.1.right,hp2.2⟩
     |exit id=>exact ⟨hp2.1.right,hp2.2⟩
     |ret=>exact ⟨hp2.1.right,hp2.2⟩
     |panic ch=>exact hp2
     |goto l=>exact hp2.elim
     |outgrown=>exact hp2.elim
   |_=>exact h.elim
 |block id c ih=>
  intro r m pn K X R e a w I L hpl hr hs h;refine wpIn_block (wpIn_mono (ih r m pn K _ R e a w I L hpl hr hs h) ?_);rintro ex a1 w1 hp;cases ex with
  |normal=>exact hp
  |exit id'=>
   obtain ⟨hsm,e1,I1,L1,hr1,hs1,h1⟩:=hp;simp only [Exit.inBlock];by_cases hid:id'=id
   ·subst hid;simp only [Nat.beq_refl,if_true] at h1;rw [if_pos rfl];exact ⟨hsm,e1,I1,L1,hr1,hs1,h1⟩
   ·have hb:Nat.beq id' id=false:=by
     cases hb:Nat.beq id' id with
     |false=>rfl
     |true=>exact absurd (Nat.eq_of_beq_eq_true hb) hid
    simp only [hb,Bool.false_eq_true,if_false] at h1;rw [if_neg hid];exact ⟨hsm,e1,I1,L1,hr1,hs1,h1⟩
  |ret=>exact hp
  |panic ch=>exact hp
  |goto l=>exact hp.elim
  |outgrown=>exact hp.elim
 |loop c ih=>
  intro r m pn K X R e a w I L hpl hr hs h;simp only [vc] at h;split at h
  rotate_left
  ·exact h.elim
  rename_i hpc
  simp only [Lp] at h;cases hg:WY e (JI n (asg c) e) with
  |none=>rw [hg] at h;exact h.elim
  |some s0=>
   rw [hg] at h;simp only [onT] at h;obtain ⟨Inv,m0,h0,hround⟩:=h;refine WU (fun k a' w'=>Same (asg c) true a a'∧∃s I' L',Rep n a' (AGK (clr e (asg c)) (JI n (asg c) e) s)∧St ω w' I' L'∧Inv k s I' L') m0
    ⟨Same.refl _ _ _,s0,I,L,Ld hr _ s0 hg _ (hr.weaken (ANi e _) rfl) hr.defers,hs,h0⟩ ?_
   rintro k a1 w1 ⟨hsm,s,I1,L1,hr1,hs1,hinv⟩;refine wpIn_mono (ih r m pn _ X R _ a1 w1 I1 L1 (.inr hpc) hr1 hs1 (hround k s I1 L1 hinv)) ?_;rintro ex a2 w2 hp;cases ex with
   |normal=>
    obtain ⟨hsm2,e2,I2,L2,hr2,hs2,h2⟩:=hp;have hsm2:Same (asg c) true a1 a2:=⟨hsm2.tm,fun _=>hsm2.df hpc⟩;cases hg2:WY e2 (JI n (asg c) e) with
    |none=>rw [hg2] at h2;exact h2.elim
    |some s2=>
     rw [hg2] at h2;obtain ⟨I3,L3,h3,m',hlt,h2⟩:=h2 hs2.cons;exact ⟨m',hlt,hsm.trans hsm2,s2,I3,L3,Ld hr2 _ s2 hg2 _ (AGJ hr hr2.size (hsm.trans hsm2)) ((hsm.trans hsm2).df rfl |>.trans hr.defers),h3 ω w2 hs2,h2⟩
   |exit id=>exact ⟨(hsm.any).trans hp.1,hp.2⟩
   |ret=>exact ⟨(hsm.any).trans hp.1,hp.2⟩
   |panic ch=>exact hp
   |goto l=>exact hp.elim
   |outgrown=>exact hp.elim
 |exit id=>exact fun r m pn K X R e a w I L hpl hr hs h=>wpIn_exit ⟨Same.refl _ _ _,e,I,L,hr,hs,h⟩
 |ret=>exact fun r m pn K X R e a w I L hpl hr hs h=>wpIn_ret ⟨Same.refl _ _ _,e,I,L,hr,hs,h⟩
 |scope c ih=>
  intro r m pn K X R e a w I L hpl hr hs h;refine Ve (ih r m pn K X R e a w I L hpl hr hs h) ?_;intro l a1 w1 hp;exact hp.elim
 |goto l=>exact fun r m pn K X R e a w I L hpl hr hs h=>h.elim
 |refuse s=>exact fun r m pn K X R e a w I L hpl hr hs h=>h.elim
 |rangeFunc f ps x y ihx ihy=>exact fun r m pn K X R e a w I L hpl hr hs h=>h.elim
def AGk (tmps:Array Value):ResultVar→Sem Value
 | .tmp t=>pure (tmps.getD t undef)
 | .cell a t=>do loadVar t (←asAddr (tmps.getD a undef))
theorem JC {a:Act}{e:Env}(hr:Rep n a e){w:World}{I:Imm}{L:LH}(hs:St ω w I L):∀(rs:List ResultVar) (K:List Value→M),FP P n e rs K I L→
  ∃vs,(rs.mapM (AGk a.tmps)).run P w= .ok vs w∧K vs I L
 |[],K,h=>⟨[],by simp,h⟩
 | .tmp t::rs,K,h=>by
  simp only [FP] at h;cases hv:e.ev n (.tmp t) with
  |none=>rw [hv] at h;exact h.elim
  |some v=>
   rw [hv] at h;obtain ⟨vs,h1,h2⟩:=JC hr hs rs _ h;have hev:=hr.ev hv;simp only [Act.eval] at hev;exact ⟨v::vs,by simp only [List.mapM_cons,Sem.run_bind,Sem.run_pure,Result.andThen_ok,AGk,h1,hev],h2⟩
 | .cell t T::rs,K,h=>by
  simp only [FP] at h;cases hv:e.ev n (.tmp t) with
  |none=>rw [hv] at h;exact h.elim
  |some x=>
   rw [hv] at h;cases ht:Bc P T with
   |none=>rw [ht] at h;exact h.elim
   |some m=>
    obtain ⟨m,by',z⟩:=m;rw [ht] at h;cases hu:P.underlying T with
    |none=>rw [hu] at h;exact h.elim
    |some d=>
     rw [hu] at h;simp only at h
     have hev:=hr.ev hv;simp only [Act.eval] at hev;split at h
     ·rename_i hag
      obtain ⟨v,hR,h⟩:=h;obtain ⟨vs,h1,h2⟩:=JC hr hs rs _ h;have hl:=MM ht hag hs hR;obtain ⟨b,off,us,rfl,_⟩:=hR;simp only [Instr.loadAt,Instr.sureAddr,Sem.run_bind,Sem.run_pure,Result.andThen_ok] at hl;exact ⟨v::vs,by simp only [List.mapM_cons,Sem.run_bind,Sem.run_pure,Result.andThen_ok,AGk,h1,hev,asAddr,hl],h2⟩
     ·rename_i hag
      obtain ⟨v,hR,h⟩:=h;obtain ⟨vs,h1,h2⟩:=JC hr hs rs _ h;have hl:=ML hu (by simpa using hag) hs hR;obtain ⟨b,off,rfl,_⟩:=hR;simp only [Instr.loadAt,Instr.sureAddr,Sem.run_bind,Sem.run_pure,Result.andThen_ok] at hl;exact ⟨v::vs,by simp only [List.mapM_cons,Sem.run_bind,Sem.run_pure,Result.andThen_ok,AGk,h1,hev,asAddr,hl],h2⟩
theorem CalD.leaves {f:FuncId}{args:List Value}{fn:Func}{tmps:Array Value}{R:Ending→World→Prop}{cap:List Value}{ds:List Deferred}{K:Value→M}{w:World}{I:Imm}{L:LH}
  (he:CJ P f=true) (h:CalD P ω f (args++cap).toArray (gh K) I L) (hs:St ω w I L)
  (hk:∀v w' I' L',St ω w' I' L'→K v I' L'→LeavesInM Fence.wide 0 P fn tmps R ds .returning w'):
  LeavesInM Fence.wide 0 P fn tmps R ({target:=.fn (.func f) cap.toArray,args:=args.toArray}::ds) .returning w:=by
 refine ⟨by simp,.inr ⟨fun h=>by simp [Fence.wide] at h,.func f,cap.toArray,f,(args++cap).toArray,rfl,?_,fun _ _=>trivial,?_⟩⟩
 ·have:=ZK he (args++cap).toArray w;simpa [invoke] using this
 ·refine CallsDIn.mono (h w hs) ?_;rintro e u' w' ⟨rfl,v,I',L',rfl,hs',hg⟩;obtain ⟨I2,L2,hs2,hk2⟩:=KN hs' hg;exact hk v w' I2 L2 hs2 hk2
theorem CalDR.leaves {f:FuncId}{args:List Value}{fn:Func}{tmps:Array Value}{R:Ending→World→Prop}{cap:List Value}{ds:List Deferred}{K:Value→M}{w:World}{I:Imm}{L:LH}{x:Value}
  (he:CJ P f=true) (h:CalDR P ω f (args++cap).toArray x (gh K) I L) (hs:St ω w I L)
  (hk:∀v w' I' L',St ω w' I' L'→K v I' L'→LeavesInM Fence.wide 0 P fn tmps R ds .returning w'):
  LeavesInM Fence.wide 0 P fn tmps R ({target:=.fn (.func f) cap.toArray,args:=args.toArray}::ds) (.panicking [{v:=x,recovered:=false}]) w:=by
 refine ⟨by simp,.inr ⟨fun h=>by simp [Fence.wide] at h,.func f,cap.toArray,f,(args++cap).toArray,rfl,?_,fun _ _=>trivial,?_⟩⟩
 ·have:=ZK he (args++cap).toArray w;simpa [invoke] using this
 ·refine CallsDIn.mono (h w hs) ?_;rintro e u' w' ⟨rfl,v,I',L',rfl,hs',hg⟩;obtain ⟨I2,L2,hs2,hk2⟩:=KN hs' hg;exact hk v w' I2 L2 hs2 hk2
theorem IA {fn:Func}{tmps:Array Value}{R:Ending→World→Prop}{A:M}(hA:∀w I L,St ω w I L→A I L→LeavesInM Fence.wide 0 P fn tmps R [] .returning w):
  ∀(df:List Df) (w:World) (I:Imm) (L:LH),St ω w I L→fin P ω df A I L→LeavesInM Fence.wide 0 P fn tmps R (dfs df) .returning w
 |[],w,I,L,hs,h=>hA w I L hs h
 | .col D::r,w,I,L,hs,h=>by
  obtain ⟨L1,L2,rfl,h⟩:=h;have hb:=hs.own D (.deferred (some [])) (by simp);refine ⟨by simp,.inl ⟨D,_,rfl,run_takeDeferred hb,?_⟩⟩;exact IA hA r _ I (L1++L2) ((Je hs).drop (List.Sublist.append_left (List.sublist_cons_self ..) _)) h
 | .fn f cap args::r,w,I,L,hs,h=>by
  simp only [fin] at h;split at h
  ·rename_i he
   exact CalD.leaves he h hs fun v w' I' L' hs' hk=>IA hA r w' I' L' hs' hk
  ·exact h.elim
theorem MQ {fn:Func}{tmps:Array Value}{R:Ending→World→Prop}{A B:M}{x:Value}(hA:∀w I L,St ω w I L→A I L→LeavesInM Fence.wide 0 P fn tmps R [] .returning w)
  (hB:∀w I L,St ω w I L→B I L→LeavesInM Fence.wide 0 P fn tmps R [] (.panicking [{v:=x,recovered:=false}]) w):
  ∀(df:List Df) (w:World) (I:Imm) (L:LH),St ω w I L→AKo P ω x df A B I L→LeavesInM Fence.wide 0 P fn tmps R (dfs df) (.panicking [{v:=x,recovered:=false}]) w
 |[],w,I,L,hs,h=>hB w I L hs h
 | .col D::r,w,I,L,hs,h=>by
  obtain ⟨L1,L2,rfl,h⟩:=h;have hb:=hs.own D (.deferred (some [])) (by simp);refine ⟨by simp,.inl ⟨D,_,rfl,run_takeDeferred hb,?_⟩⟩;exact MQ hA hB r _ I (L1++L2) ((Je hs).drop (List.Sublist.append_left (List.sublist_cons_self ..) _)) h
 | .fn f cap args::r,w,I,L,hs,h=>by
  simp only [AKo] at h;split at h
  ·rename_i he
   exact CalDR.leaves he h hs fun v w' I' L' hs' hk=>IA hA r w' I' L' hs' hk
  ·exact h.elim
theorem MG {fn:Func}{a:Act}{e:Env}(hr:Rep n a e){w:World}{I:Imm}{L:LH}(hs:St ω w I L){K:Value→M}(h:FP P n e fn.results.toList (fun vs=>K (resV vs)) I L):
  ∃v,(results fn a.tmps).run P w= .ok v w∧K v I L:=by
 obtain ⟨vs,hrun,hk⟩:=JC hr hs _ _ h;refine ⟨resV vs,?_,hk⟩;have hres':results fn a.tmps=(do
   let vs ←fn.results.mapM (AGk a.tmps)
   pure (if h:vs.size=1 then vs[0] else .tuple vs)):=by
  unfold results;congr 1
 rw [hres',Array.mapM_eq_mapM_toList];simp only [Sem.run_bind,Sem.run_map,hrun,Result.andThen_ok,Sem.run_pure];congr 1
 unfold resV;match vs with
 |[]=>simp
 |[v]=>simp
 |v::u::r=>simp
theorem Iw (hm:P.follows .mixedOrders=true){f:FuncId}{fn:Func}(hf:P.funcs[f]? =some fn){pn:Option (Value→M)}{args:List Value}{K Pn:Value→M}{I:Imm}{L:LH}(hpn:∀p,pn=some p→p=Pn)(h:ABY P ω pn fn args K I L)
  {w:World} (hs:St ω w I L):Calls P f args.toArray w (XH ω K Pn):=by
 unfold ABY at h;cases hb:fn.body with
 |none=>rw [hb] at h;exact h.elim
 |some c=>
  rw [hb] at h;simp only at h
  split at h
  ·rename_i hle
   have hle:args.length≤fn.ntmps:=by simpa using hle
   refine (callsIn_wide (n:=0)).1 (callsIn_of_wp_marks hf hb trivial (wpIn_mono (TQ hm c none 0 _ _ _ _ _ _ w I L (.inl rfl) (Rep.init args.toArray _ _ fn.ntmps (by simp;omega) (fun t v hv=>by simpa using hv) rfl) hs h) ?_));have hA:∀(a':Act) (e:Env),Rep fn.ntmps a' e→∀(w2:World) (I2:Imm) (L2:LH),St ω w2 I2 L2→FP P fn.ntmps e fn.results.toList (fun vs=>K (resV vs)) I2 L2→
     LeavesInM Fence.wide 0 P fn a'.tmps (XH ω K Pn) [] .returning w2:=by
    intro a' e hr w2 I2 L2 hs2 hres;obtain ⟨v,hrun,hk⟩:=MG hr hs2 hres;exact ⟨v,hrun,v,I2,L2,hs2,.inl ⟨rfl,hk⟩⟩
   have fin':∀(a':Act) (w':World) (e:Env) (I':Imm) (L':LH),Rep fn.ntmps a' e→St ω w' I' L'→SL.fin P ω e.df (FP P fn.ntmps e fn.results.toList (fun vs=>K (resV vs))) I' L'→
     LeavesInM Fence.wide 0 P fn a'.tmps (XH ω K Pn) a'.defers .returning w':=by
    intro a' w' e I' L' hr hs' hres;rw [hr.defers];exact IA (hA a' e hr) e.df w' I' L' hs' hres
   rintro ex a' w' hp;cases ex with
   |normal=>obtain ⟨_,e,I',L',h1,h2,h3⟩:=hp;exact fin' a' w' e I' L' h1 h2 h3
   |ret=>obtain ⟨_,e,I',L',h1,h2,h3⟩:=hp;exact fin' a' w' e I' L' h1 h2 h3
   |exit id=>obtain ⟨_,e,I',L',h1,h2,h3⟩:=hp;exact h3.elim
   |goto l=>exact hp.elim
   |panic ch=>
    obtain ⟨e,v,I',L',hr,rfl,hs',hpp⟩:=hp;show LeavesInM Fence.wide 0 P fn a'.tmps (XH ω K Pn) a'.defers (.panicking _) w';rw [hr.defers];cases pn with
    |none=>exact hpp.elim
    |some p=>
     have:=hpn p rfl;subst this;exact MQ (hA a' e hr) (fun w2 I2 L2 hs2 hk=>(show XH ω K p (.panicked [{v,recovered:=false}]) w2 from ⟨v,I2,L2,hs2,.inr ⟨rfl,hk⟩⟩)) e.df w' I' L' hs' hpp
   |outgrown=>exact hp.elim
  ·exact h.elim
theorem AO (hm:P.follows .mixedOrders=true){f:FuncId}{fn:Func}(hf:P.funcs[f]? =some fn){args:List Value}{K:Value→M}{I:Imm}{L:LH}(h:vcF P ω fn args K I L):
  Cal P ω f args.toArray K I L:=fun w hs=>Calls.mono (Iw (Pn:=fun _=>F) hm hf (by simp) h hs) fun e w' ⟨v,I',L',hs',hk⟩=>by
 rcases hk with ⟨he,hk⟩|⟨_,hk⟩
 ·exact ⟨v,I',L',he,hs',hk⟩
 ·exact hk.elim
theorem Ar (hm:P.follows .mixedOrders=true){f:FuncId}{fn:Func}(hf:P.funcs[f]? =some fn){args:List Value}{K Pn:Value→M}{I:Imm}{L:LH}(h:vcP P ω fn args K Pn I L):
  CalP P ω f args.toArray K Pn I L:=fun w hs=>Iw hm hf (fun p hp=>by simp only [Option.some.injEq] at hp;exact hp.symm) h hs
theorem Wy (hm:P.follows .mixedOrders=true){f:FuncId}{fn:Func}(hf:P.funcs[f]? =some fn){args:List Value}{K:Value→M}{I:Imm}{L:LH}(h:vcQ P ω fn args K I L):
  Cal P ω f args.toArray K I L:=fun w hs=>Calls.mono (Iw (Pn:=fun _=>F) hm hf (fun p hp=>by simpa using hp.symm) h hs) fun e w' ⟨v,I',L',hs',hk⟩=>by
 rcases hk with ⟨he,hk⟩|⟨_,hk⟩
 ·exact ⟨v,I',L',he,hs',hk⟩
 ·exact hk.elim
def PostR (ω:Om)(n:Nat)(K R:Env→M)(cs':List Frame):Exit→Act→List Frame→World→Prop
 | .normal,a,cs,w=>cs=cs'∧a.defers=[]∧∃e I L,Rep n a e∧St ω w I L∧K e I L
 | .ret,a,cs,w=>cs=cs'∧a.defers=[]∧∃e I L,Rep n a e∧St ω w I L∧R e I L
 |_,_,_,_=>False
theorem Nq {c:Code}{F:Fence}{m:Nat}{Q Q':Exit→Act→List Frame→World→Prop}{a:Act}{cs:List Frame}{w:World}(h:c.wpSIn F m P Q a cs w)(hq:∀e a cs w,Q e a cs w→Q' e a cs w):c.wpSIn F m P Q' a cs w:=
 fun b k hb hr hF hroom=>let ⟨e,a',cs',w',l,q,r⟩:=h b k hb hr hF hroom;⟨e,a',cs',w',l,hq _ _ _ _ q,r⟩
theorem UE {o:Oper}(h:ANK o.op=true)(ρ:Operand→Value)(w:World):(execOp ρ o).run P w= .ok .recover w:=by
 obtain ⟨dst,op,type,pos,after,guard⟩:=o;unfold ANK at h;split at h
 ·rename_i hop
  simp only at hop
  subst hop;simp [execOp,resolve,invoke,builtin]
 ·cases h
theorem put_defers (a:Act)(d:Option Tmp)(v:Value):(a.put d v).defers=a.defers:=by cases d <;> rfl
theorem MB {ops:Array Oper}{K R:Env→M}{cs:List Frame}:∀(rest:List Oper) (i:Nat) (e:Env) (a:Act) (w:World) (I:Imm) (L:LH),(∀k,rest[k]? =ops[i+k]?)→a.defers=[]→Rep n a e→St ω w I L→
  vcRl.vcRl2 P ω n rest e K I L→wpOpsSIn Fence.wide 0 P ops (PostR ω n K R cs) (List.range' i rest.length) a cs w
 |[],i,e,a,w,I,L,_,hd,hr,hs,h=>⟨rfl,hd,e,I,L,hr,hs,h⟩
 |o::rest,i,e,a,w,I,L,hops,hd,hr,hs,h=>by
  have ho:ops[i]? =some o:=by have:=hops 0;simpa using this.symm
  have hops':∀k,rest[k]? =ops[(i+1)+k]? :=fun k=>by
   have:=hops (k+1);simp only [List.getElem?_cons_succ] at this;rw [this];congr 1;omega
  simp only [vcRl.vcRl2] at h;simp only [List.length_cons,List.range'_succ,wpOpsSIn,ho];refine ⟨fun _ _=>trivial,?_⟩;cases hg:o.guard with
  |some _=>rw [hg] at h;exact h.elim
  |none=>
   rw [hg] at h;simp only at h
   have hw:Region.wanted o (yielded ops a.tmps)=true:=by simp [Region.wanted,hg]
   rw [hw];simp only [if_true];generalize hop:BQ P ω Option.none (e.ev n) o.op=q at h;cases q with
   |pure r=>
    cases r with
    |none=>exact h.elim
    |some v=>
    rw [Gm hr hop w];exact MB rest (i+1) _ _ w I L hops' ((put_defers a o.dst v).trans hd) (hr.put _ _) hs h
   |read _=>exact h.elim
   |eff _=>exact h.elim
   |no=>exact h.elim
theorem Nv {ops:Array Oper}{K R:Env→M}{cs cs':List Frame}{rv:Value}(hrv:recoverD cs=some (rv,cs')∨(recoverD cs=none∧rv= .nilIface∧cs'=cs)):
  ∀(rest:List Oper) (i:Nat) (e:Env) (a:Act) (w:World) (I:Imm) (L:LH),(∀k,rest[k]? =ops[i+k]?)→a.defers=[]→Rep n a e→St ω w I L→
  vcRl P ω rv n rest e K I L→wpOpsSIn Fence.wide 0 P ops (PostR ω n K R cs') (List.range' i rest.length) a cs w
 |[],i,e,a,w,I,L,_,hd,hr,hs,h=>h.elim
 |o::rest,i,e,a,w,I,L,hops,hd,hr,hs,h=>by
  have ho:ops[i]? =some o:=by have:=hops 0;simpa using this.symm
  have hops':∀k,rest[k]? =ops[(i+1)+k]? :=fun k=>by
   have:=hops (k+1);simp only [List.getElem?_cons_succ] at this;rw [this];congr 1;omega
  simp only [vcRl] at h;simp only [List.length_cons,List.range'_succ,wpOpsSIn,ho];refine ⟨fun _ _=>trivial,?_⟩;cases hg:o.guard with
  |some _=>rw [hg] at h;exact h.elim
  |none=>
   rw [hg] at h;simp only at h
   have hw:Region.wanted o (yielded ops a.tmps)=true:=by simp [Region.wanted,hg]
   rw [hw];simp only [if_true];split at h
   ·rename_i hrec
    rw [UE hrec];simp only
    have:=MB (P:=P) (ops:=ops) (K:=K) (R:=R) (cs:=cs') rest (i+1) (e.upd o.dst rv) (a.put o.dst rv) w I L hops' ((put_defers a o.dst rv).trans hd) (hr.put _ _) hs h;rcases hrv with hrv|⟨hrv,rfl,rfl⟩
    ·rw [hrv];exact this
    ·rw [hrv];exact this
   ·generalize hop:BQ P ω Option.none (e.ev n) o.op=q at h;cases q with
    |pure r=>
     cases r with
     |none=>exact h.elim
     |some v=>
     rw [Gm hr hop w];exact Nv hrv rest (i+1) _ _ w I L hops' ((put_defers a o.dst v).trans hd) (hr.put _ _) hs h
    |read _=>exact h.elim
    |eff _=>exact h.elim
    |no=>exact h.elim
theorem ZY (hm:P.follows .mixedOrders=true){cs cs':List Frame}{rv:Value}(hrv:recoverD cs=some (rv,cs')∨(recoverD cs=none∧rv= .nilIface∧cs'=cs)):
  ∀(c:Code) (K R:Env→M) (e:Env) (a:Act) (w:World) (I:Imm) (L:LH),a.defers=[]→Rep n a e→St ω w I L→vcS P ω rv n c K R e I L→c.wpSIn Fence.wide 0 P (PostR ω n K R cs') a cs w:=by
 intro c;induction c with
 |seq x y ihx _=>
  intro K R e a w I L hd hr hs h;refine wpSIn_seq (Nq (ihx _ R e a w I L hd hr hs h) ?_);rintro ex a1 cs1 w1 hp;cases ex with
  |normal=>
   obtain ⟨rfl,hd1,e1,I1,L1,hr1,hs1,h1⟩:=hp;split at h1
   ·rename_i hpy
    refine wpSIn_of_wpIn rfl (wpIn_mono (TQ hm y none 0 none K (fun _ _=>F) R e1 a1 w1 I1 L1 (.inl rfl) hr1 hs1 h1) ?_);rintro ex2 a2 w2 hp2;cases ex2 with
    |normal=>exact ⟨rfl,(hp2.1.df hpy).trans hd1,hp2.2⟩
    |ret=>exact ⟨rfl,(hp2.1.df hpy).trans hd1,hp2.2⟩
    |exit id=>obtain ⟨_,_,_,_,_,_,hf⟩:=hp2;exact hf.elim
    |panic ch=>exact (PX.none hp2).elim
    |goto l=>exact hp2.elim
    |outgrown=>exact hp2.elim
   ·exact h1.elim
  |ret=>exact hp
  |exit id=>exact hp.elim
  |panic ch=>exact hp.elim
  |goto l=>exact hp.elim
  |outgrown=>exact hp.elim
 |region id ops dr=>
  intro K R e a w I L hd hr hs h;cases dr with
  |true=>exact h.elim
  |false=>
   refine wpSIn_region ?_;have:=Nv (P:=P) (ops:=ops) (K:=K) (R:=R) hrv ops.toList 0 e a w I L (fun k=>by simp) hd hr hs h;rw [List.range_eq_range'];simpa using this
 |_=>intro K R e a w I L hd hr hs h;exact h.elim
theorem AQR {f:FuncId}{fn:Func}(hm:P.follows .mixedOrders=true)(hf:P.funcs[f]? =some fn){args:List Value}{K:Value→M}{I:Imm}{L:LH}{rv:Value}(h:vcR P ω rv fn args K I L){u u':FrameMode}
  (hrv:∀(c0:Frame) (cs:List Frame),c0.mode=u→recoverD (c0::cs)=some (rv,{c0 with mode:=u'}::cs)∨(recoverD (c0::cs)=none∧rv= .nilIface∧({c0 with mode:=u'}::cs)=c0::cs)) {w:World} (hs:St ω w I L):
  CallsDIn Fence.wide 0 P f args.toArray u w (fun e u1 w'=>u1=u'∧Ret ω K e w'):=by
 unfold vcR at h;cases hb:fn.body with
 |none=>rw [hb] at h;exact h.elim
 |some c=>
  rw [hb] at h;simp only at h
  split at h
  ·rename_i hle
   have hle:args.length≤fn.ntmps:=by simpa using hle
   refine callsDIn_of_wpSIn hf hb trivial fun c0 cs hu=>?_;refine Nq (ZY hm (hrv c0 cs hu) c _ _ _ _ w I L rfl (Rep.init args.toArray _ _ fn.ntmps (by simp;omega) (fun t v hv=>by simpa using hv) rfl) hs h) ?_;have fin':∀(a':Act) (w':World),(∃e I L,Rep fn.ntmps a' e∧St ω w' I L∧FP P fn.ntmps e fn.results.toList (fun vs=>K (resV vs)) I L)→∃v,(results fn a'.tmps).run P w'= .ok v w'∧Ret ω K (.returned v) w':=by
    rintro a' w' ⟨e,I',L',hr,hs',hres⟩;obtain ⟨v,hrun,hk⟩:=MG hr hs' hres;exact ⟨v,hrun,v,I',L',rfl,hs',hk⟩
   rintro ex a' cs1 w' hp;cases ex with
   |normal=>
    obtain ⟨rfl,hd,hx⟩:=hp;obtain ⟨v,h1,h2⟩:=fin' a' w' hx;exact ⟨hd,u',rfl,v,h1,rfl,h2⟩
   |ret=>
    obtain ⟨rfl,hd,hx⟩:=hp;obtain ⟨v,h1,h2⟩:=fin' a' w' hx;exact ⟨hd,u',rfl,v,h1,rfl,h2⟩
   |exit id=>exact hp.elim
   |panic ch=>exact hp.elim
   |goto l=>exact hp.elim
   |outgrown=>exact hp.elim
  ·exact h.elim
theorem VA (hm:P.follows .mixedOrders=true){f:FuncId}{fn:Func}(hf:P.funcs[f]? =some fn){args:List Value}{K:Value→M}{I:Imm}{L:LH}(h:vcR P ω .nilIface fn args K I L):CalD P ω f args.toArray K I L:=
 fun w hs=>AQR hm hf h (u':=.returning) (fun c0 cs hu=>by
  obtain ⟨cfn,ctm,ctd,cdf,cmo,cki,cro⟩:=c0;simp only at hu
  subst hu;exact .inr ⟨rfl,rfl,rfl⟩) hs
theorem TD (hm:P.follows .mixedOrders=true){f:FuncId}{fn:Func}(hf:P.funcs[f]? =some fn){args:List Value}{K:Value→M}{I:Imm}{L:LH}{v:Value}(h:vcR P ω v fn args K I L):CalDR P ω f args.toArray v K I L:=
 fun w hs=>AQR hm hf h (fun c0 cs hu=>by
  obtain ⟨cfn,ctm,ctd,cdf,cmo,cki,cro⟩:=c0;simp only at hu
  subst hu;exact .inl rfl) hs
theorem CalD.gh {f:FuncId}{args:Array Value}{K:Value→M}{I:Imm}{L:LH}(h:CalD P ω f args (fun v=>Gh (K v)) I L):CalD P ω f args K I L:=fun w hs=>
 CallsDIn.mono (h w hs) fun _ _ _ ⟨hu,v,_,_,he,hs',hg⟩=>by
  obtain ⟨I2,L2,h1,h2⟩:=hg hs'.cons;exact ⟨hu,v,I2,L2,he,h1 ω _ hs',h2⟩
theorem CalDR.gh {f:FuncId}{args:Array Value}{x:Value}{K:Value→M}{I:Imm}{L:LH}(h:CalDR P ω f args x (fun v=>Gh (K v)) I L):CalDR P ω f args x K I L:=fun w hs=>
 CallsDIn.mono (h w hs) fun _ _ _ ⟨hu,v,_,_,he,hs',hg⟩=>by
  obtain ⟨I2,L2,h1,h2⟩:=hg hs'.cons;exact ⟨hu,v,I2,L2,he,h1 ω _ hs',h2⟩
end
section pure
variable (b off k n:Nat)(a c:Int)(t u:Bool)(K:Value→M)(v:Value)
theorem ZQ:Pv (some v) K=K v:=rfl
theorem AHY:AC k (.pointer (some ⟨b,off,none⟩))=some (.pointer (some ⟨b,off+k,none⟩)):=rfl
theorem AHD (x:Addr):Am (.pointer (some x))=some (.pointer (some x)):=rfl
theorem AHE (f:FuncId)(xs ys:Array Value):Am (.func (.func f) xs ys)=some (.func (.func f) xs ys):=rfl
theorem Ht (x:Option Addr)(l m:Nat):lenV (.slice x l m)=some (.int .i64 l):=rfl
theorem Wx (x:Option Addr)(l m:Nat):Uy (.slice x l m)=some (.int .i64 m):=rfl
theorem AHL (k k':IntKind):ANU (.int k a) (.int k' c)=some (.int k (if c < a then c else a)):=rfl
theorem AHM (k k':IntKind):AHN (.int k a) (.int k' c)=some (.int k (if c > a then c else a)):=rfl
theorem AKg (s:ByteArray):Bq (.string s)=some (.int .i64 s.size):=rfl
theorem ABi (s:ByteArray):AMC (.string s)=some (.string s):=rfl
theorem XK:unV .not (.bool t)=some (.bool !t):=rfl
theorem XM (k:IntKind):unV .neg (.int k a)=some (.int k (k.wrap (0 - a))):=rfl
theorem AIw (k:IntKind):unV .xor (.int k a)=some (.int k (Dx .xor k (if k.signed then -1 else k.max) a)):=rfl
theorem Yt (x y:Value):Yv (.bool true) x y=some x:=rfl
theorem Yu (x y:Value):Yv (.bool false) x y=some y:=rfl
theorem ALf (vs:Array Value)(i:Nat):exV (.tuple vs) i=vs[i]? :=rfl
theorem AHg (k k':IntKind):Gf k (.int k' a)=some (.int k (k.wrap a)):=rfl
theorem VO (k:IntKind):AA .add (.int k a) (.int k c)=some (.int k (k.wrap (a+c))):=by simp [AA]
theorem VG (k:IntKind):AA .sub (.int k a) (.int k c)=some (.int k (k.wrap (a - c))):=by simp [AA]
theorem VI (k:IntKind):AA .mul (.int k a) (.int k c)=some (.int k (k.wrap (a * c))):=by simp [AA]
theorem Pj (k:IntKind):AA .eql (.int k a) (.int k c)=some (.bool (a==c)):=by simp [AA]
theorem VH (k:IntKind):AA .neq (.int k a) (.int k c)=some (.bool (a != c)):=by simp [AA]
theorem VJ (k:IntKind):AA .lss (.int k a) (.int k c)=some (.bool (decide (a < c))):=by simp [AA]
theorem VK (k:IntKind):AA .leq (.int k a) (.int k c)=some (.bool (decide (a≤c))):=by simp [AA]
theorem VL (k:IntKind):AA .gtr (.int k a) (.int k c)=some (.bool (decide (c < a))):=by simp [AA]
theorem VM (k:IntKind):AA .geq (.int k a) (.int k c)=some (.bool (decide (c≤a))):=by simp [AA]
theorem AIo (k:IntKind)(h:c≠0):AA .quo (.int k a) (.int k c)=some (.int k (k.wrap (a.tdiv c))):=by simp [AA,h]
theorem Kt (k k':IntKind)(h:0≤c):AA .shl (.int k a) (.int k' c)=some (.int k (k.wrap (a * 2 ^ (min c.toNat k.bits)))):=by
 simp only [AA];rw [if_neg (by omega)]
theorem VN (k:IntKind):AA .and (.int k a) (.int k c)=some (.int k (Dx .and k a c)):=by simp [AA]
theorem ZN (k:IntKind):AA .or (.int k a) (.int k c)=some (.int k (Dx .or k a c)):=by simp [AA]
theorem VQ:NC .eql (.bool t) (.bool u)=some (.bool (t==u)):=rfl
theorem VP:NC .neq (.bool t) (.bool u)=some (.bool (!(t==u))):=rfl
theorem II (x:Addr):GU .eql (.pointer (some x)) (.pointer none)=some (.bool false):=rfl
theorem Ko (x:Addr):GU .neq (.pointer (some x)) (.pointer none)=some (.bool true):=rfl
theorem Kr (x:Addr)(l m l' m':Nat):Gw .eql (.slice (some x) l m) (.slice none l' m')=some (.bool false):=rfl
theorem Kq (x:Addr)(l m l' m':Nat):Gw .neq (.slice (some x) l m) (.slice none l' m')=some (.bool true):=rfl
theorem Mc (l m l' m':Nat):Gw .eql (.slice none l m) (.slice none l' m')=some (.bool true):=rfl
theorem MZ (l m l' m':Nat):Gw .neq (.slice none l m) (.slice none l' m')=some (.bool false):=rfl
theorem ANX (k:IntKind)(len cap i:Nat)(h:i < len):ixV n (.slice (some ⟨b,off,none⟩) len cap) (.int k i)=some (.pointer (some ⟨b,off+i * n,none⟩)):=by
 simp only [ixV];rw [if_pos (by omega)];simp
theorem wrap_i64 (h: -9223372036854775808≤a∧a≤9223372036854775807):IntKind.i64.wrap a=a:=IntWalk.i64_in a h
theorem Qw (cs:Array Value):Value.cells (.agg cs)=cs:=rfl
end pure
class InL (b:Nat) (L:LH) (o:outParam Obj):Prop where
 mem:(b,o)∈L
instance inRight (b:Nat)(A L:LH)(o:Obj)[h:InL b L o]:InL b (A++L) o:=⟨List.mem_append_right _ h.mem⟩
instance inThere (b:Nat)(x:Nat×Obj)(L:LH)(o:Obj)[h:InL b L o]:InL b (x::L) o:=⟨List.mem_cons_of_mem _ h.mem⟩
instance inHere (b:Nat)(L:LH)(o:Obj):InL b ((b,o)::L) o:=⟨List.mem_cons_self ..⟩
class GetL (l:List Value) (k:Nat) (v:outParam Value):Prop where
 get:l[k]? =some v
instance getThere (x:Value)(l:List Value)(k:Nat)(v:Value)[h:GetL l k v]:GetL (x::l) (k+1) v:=⟨by simpa using h.get⟩
instance getHere (v:Value)(l:List Value):GetL (v::l) 0 v:=⟨rfl⟩
class SetL (l:List Value) (k:Nat) (v:Value) (l':outParam (List Value)):Prop where
 set:l.set k v=l'∧k < l.length
instance setThere (x:Value)(l:List Value)(k:Nat)(v:Value)(l':List Value)[h:SetL l k v l']:SetL (x::l) (k+1) v (x::l'):=
 ⟨by simp [h.set.1],by simpa using h.set.2⟩
instance setHere (x v:Value)(l:List Value):SetL (x::l) 0 v (v::l):=⟨rfl,by simp⟩
class SplitL (X L:LH) (R:outParam LH):Prop where
 perm:L.Perm (X++R)
instance splitRight (X A L R:LH)[h:SplitL X L R]:SplitL X (A++L) (A++R):=⟨(List.Perm.append_left A h.perm).trans (by
 rw [←List.append_assoc,←List.append_assoc];exact List.Perm.append_right R List.perm_append_comm)⟩
instance splitThere (X L R:LH)(y:Nat×Obj)[h:SplitL X L R]:SplitL X (y::L) (y::R):=⟨(List.Perm.cons y h.perm).trans List.perm_middle.symm⟩
instance splitHere (X R:LH):SplitL X (X++R) R:=⟨List.Perm.refl _⟩
class SplitB (x:Nat×Obj) (L:LH) (R:outParam LH):Prop where
 perm:L.Perm (x::R)
instance splitBRight (x:Nat×Obj)(A L R:LH)[h:SplitB x L R]:SplitB x (A++L) (A++R):=⟨(List.Perm.append_left A h.perm).trans List.perm_middle⟩
instance splitBThere (x y:Nat×Obj)(L R:LH)[h:SplitB x L R]:SplitB x (y::L) (y::R):=⟨(List.Perm.cons y h.perm).trans (List.Perm.swap ..)⟩
instance splitBHere (x:Nat×Obj)(R:LH):SplitB x (x::R) R:=⟨List.Perm.refl _⟩
class SubP (L' L:LH):Prop where
 sub:∃R,L.Perm (L'++R)
instance (priority:=50) subRight (L' A L:LH)[h:SubP L' L]:SubP L' (A++L):=by
 obtain ⟨R,hR⟩:=h.sub;exact ⟨A++R,(List.Perm.append_left A hR).trans (by rw [←List.append_assoc,←List.append_assoc];exact List.Perm.append_right R List.perm_append_comm)⟩
instance (priority:=50) subThere (L' L:LH)(y:Nat×Obj)[h:SubP L' L]:SubP L' (y::L):=by
 obtain ⟨R,hR⟩:=h.sub;exact ⟨y::R,(List.Perm.cons y hR).trans List.perm_middle.symm⟩
instance (priority:=40) subNil (L:LH):SubP [] L:=⟨L,List.Perm.refl _⟩
instance subCons (x:Nat×Obj)(L' L R:LH)[h:SplitB x L R][h':SubP L' R]:SubP (x::L') L:=by
 obtain ⟨R',hR⟩:=h'.sub;exact ⟨R',h.perm.trans (List.Perm.cons x hR)⟩
instance subApp (A L' L R:LH)[h:SplitL A L R][h':SubP L' R]:SubP (A++L') L:=by
 obtain ⟨R',hR⟩:=h'.sub;exact ⟨R',h.perm.trans (by rw [List.append_assoc];exact List.Perm.append_left A hR)⟩
instance subSelf (L:LH):SubP L L:=⟨[],by simp⟩
class UpL (b:Nat) (L:LH) (o o':Obj) (L':outParam LH):Prop where
 up:∃L1 L2,L=L1++(b,o)::L2∧L'=L1++(b,o')::L2
instance upRight (b:Nat)(A L:LH)(o o':Obj)(L':LH)[h:UpL b L o o' L']:UpL b (A++L) o o' (A++L'):=by
 obtain ⟨L1,L2,rfl,rfl⟩:=h.up;exact ⟨A++L1,L2,by simp,by simp⟩
instance upThere (b:Nat)(x:Nat×Obj)(L:LH)(o o':Obj)(L':LH)[h:UpL b L o o' L']:UpL b (x::L) o o' (x::L'):=by
 obtain ⟨L1,L2,rfl,rfl⟩:=h.up;exact ⟨x::L1,L2,rfl,rfl⟩
instance upHere (b:Nat)(L:LH)(o o':Obj):UpL b ((b,o)::L) o o' ((b,o')::L):=⟨[],L,rfl,rfl⟩
theorem Cell.own {I:Imm}{L:LH}{b off:Nat}{v:Value}{cs:Array Value}{T:Nat}{fr:Nat×Nat}(hm:(b,Obj.cells cs T fr)∈L)(hv:cs[off]? =some v):Cell I L b off v:=⟨cs,T,fr,.inl hm,hv⟩
theorem Cell.imm {I:Imm}{L:LH}{b off:Nat}{v:Value}{cs:Array Value}{T:Nat}{fr:Nat×Nat}(hm:I b=some (Obj.cells cs T fr))(hv:cs[off]? =some v):Cell I L b off v:=⟨cs,T,fr,.inr hm,hv⟩
theorem Cell.mono {I I':Imm}{L L':LH}{b off:Nat}{v:Value}(h:Cell I L b off v)(hI:Ext I I')(hL:∀x∈L,x∈L'):Cell I' L' b off v:=by
 obtain ⟨cs,T,fr,hm,hv⟩:=h;exact ⟨cs,T,fr,hm.imp (hL _) (hI _ _),hv⟩
section reads
variable {I:Imm}{L:LH}{K:Value→M}{b off n:Nat}{v:Value}
theorem rd1 (h:Cell I L b off v)(hk:K v I L):Rv none (AQ (.pointer (some ⟨b,off,none⟩))) K I L:=⟨v,⟨b,off,rfl,h⟩,hk⟩
theorem rdb {l:List Value}{T:Nat}{fr:Nat×Nat}[h:InL b L (.cells l.toArray T fr)][g:GetL l off v](hk:K v I L):Rv none (AQ (.pointer (some ⟨b,off,none⟩))) K I L:=
 rd1 (Cell.own h.mem (by simpa using g.get)) hk
theorem rdN {vs:List Value}(hl:vs.length=n)(h:Cells I L b off vs)(hk:K (.agg vs.toArray) I L):Rv none (AY n (.pointer (some ⟨b,off,none⟩))) K I L:=⟨_,⟨b,off,vs,rfl,hl,h,rfl⟩,hk⟩
theorem rdB {l:List Value}{T:Nat}{fr:Nat×Nat}[h:InL b L (.cells l.toArray T fr)](hl:l.length=n)(hk:K (.agg l.toArray) I L):Rv none (AY n (.pointer (some ⟨b,0,none⟩))) K I L:=
 rdN hl (fun j u hu=>Cell.own h.mem (by simpa using hu)) hk
theorem rdP {l:List Value}{T:Nat}{fr:Nat×Nat}[h:InL b L (.cells l.toArray T fr)](vs:List Value)(he:(l.drop off).take n=vs)(hl:vs.length=n)(hk:K (.agg vs.toArray) I L):Rv none (AY n (.pointer (some ⟨b,off,none⟩))) K I L:=
 rdN hl (fun j u hu=>Cell.own h.mem (by
  subst he;rw [List.getElem?_take] at hu;split at hu
  ·rw [List.getElem?_drop] at hu;simpa using hu
  ·cases hu)) hk
variable {S:M}
theorem AQJ (h:∀I' L',S I' L'→Cell I' L' b off v)(hk:K v I L):Rv (some S) (AQ (.pointer (some ⟨b,off,none⟩))) K I L:=⟨v,fun I' L' hS=>⟨b,off,rfl,h I' L' hS⟩,hk⟩
theorem AQI {vs:List Value}(hl:vs.length=n)(h:∀I' L',S I' L'→Cells I' L' b off vs)(hk:K (.agg vs.toArray) I L):Rv (some S) (AY n (.pointer (some ⟨b,off,none⟩))) K I L:=
 ⟨_,fun I' L' hS=>⟨b,off,vs,rfl,hl,h I' L' hS,rfl⟩,hk⟩
end reads
def Stay (I0:Imm)(X:LH):M:=fun I L=>Ext I0 I∧∀x∈X,x∈L
theorem Stay.start (I:Imm)(L:LH):Stay I L I L:=⟨Ext.refl I,fun _ h=>h⟩
section stay
variable {I I0:Imm}{L X:LH}{K:Value→M}{b off n:Nat}{v:Value}
theorem Ah {l:List Value}{T:Nat}{fr:Nat×Nat}[h:InL b X (.cells l.toArray T fr)][g:GetL l off v](hk:K v I L):Rv (some (Stay I0 X)) (AQ (.pointer (some ⟨b,off,none⟩))) K I L:=
 AQJ (fun I' L' hS=>Cell.own (hS.2 _ h.mem) (by simpa using g.get)) hk
theorem BB {l:List Value}{T:Nat}{fr:Nat×Nat}[h:InL b X (.cells l.toArray T fr)](hl:l.length=n)(hk:K (.agg l.toArray) I L):Rv (some (Stay I0 X)) (AY n (.pointer (some ⟨b,0,none⟩))) K I L:=
 AQI hl (fun I' L' hS j u hu=>Cell.own (hS.2 _ h.mem) (by simpa using hu)) hk
theorem AKV (h:Cell I0 X b off v)(hk:K v I L):Rv (some (Stay I0 X)) (AQ (.pointer (some ⟨b,off,none⟩))) K I L:=
 AQJ (fun _ _ hS=>h.mono hS.1 hS.2) hk
theorem ALb (h1:Ext I0 I)(h2:∀x∈X,x∈L)(hk:K v I L):Aa (Stay I0 X) K v I L:=⟨⟨h1,h2⟩,hk⟩
theorem draw {B:M→M}(S:M)(h1:S I L)(h2:B S I L):CY B I L:=⟨S,h1,h2⟩
end stay
section ghosts
variable {I:Imm}{L:LH}
theorem Cons.ext_put {b:Nat}{o:Obj}(h:Cons I ((b,o)::L)):Ext I (Imm.put I b o):=by
 intro b' o' hb';unfold Imm.put;have:=h.2 b o (List.mem_cons_self ..);rw [if_neg (fun e=>by subst e;rw [this] at hb';cases hb')];exact hb'
theorem Cons.freeze {b:Nat}{o:Obj}(h:Cons I ((b,o)::L)):Cons (Imm.put I b o) L:=by
 refine ⟨(List.nodup_cons.1 h.1).2,fun b' o' hm=>?_⟩;unfold Imm.put;have hn:=(List.nodup_cons.1 h.1).1;rw [if_neg (fun e=>hn (by subst e;exact List.mem_map.2 ⟨(b',o'),hm,rfl⟩))];exact h.2 b' o' (List.mem_cons_of_mem _ hm)
theorem Cons.perm {L':LH}(h:Cons I L)(hp:L.Perm L'):Cons I L':=⟨(hp.map _).nodup_iff.1 h.1,fun b o hb=>h.2 b o (hp.mem_iff.2 hb)⟩
theorem Cons.drop {L':LH}(h:Cons I L)(hs:L'.Sublist L):Cons I L':=⟨h.1.sublist (hs.map _),fun b o hb=>h.2 b o (hs.subset hb)⟩
theorem Gh.done {A:M}(h:A I L):Gh A I L:=fun _=>⟨I,L,fun _ _ h=>h,h⟩
theorem Gh.freeze {A:M}{b:Nat}{o:Obj}(h:Ext I (Imm.put I b o)→Gh A (Imm.put I b o) L):Gh A I ((b,o)::L):=by
 intro hc;obtain ⟨I',L',h1,h2⟩:=h hc.ext_put hc.freeze;exact ⟨I',L',fun ω w hs=>h1 ω w hs.freeze,h2⟩
theorem Gh.perm {A:M}{L':LH}(hp:L.Perm L')(h:Gh A I L'):Gh A I L:=by
 intro hc;obtain ⟨I',L',h1,h2⟩:=h (hc.perm hp);exact ⟨I',L',fun ω w hs=>h1 ω w (hs.perm hp),h2⟩
theorem Gh.drop {A:M}{L':LH}(hp:L'.Sublist L)(h:Gh A I L'):Gh A I L:=by
 intro hc;obtain ⟨I',L',h1,h2⟩:=h (hc.drop hp);exact ⟨I',L',fun ω w hs=>h1 ω w (hs.drop hp),h2⟩
theorem Gh.to {A:M}(L':LH)[hs:SubP L' L](h:Gh A I L'):Gh A I L:=by
 obtain ⟨R,hR⟩:=hs.sub;exact Gh.perm hR (Gh.drop (List.sublist_append_left L' R) h)
end ghosts
section effs
variable {I:Imm}{L L':LH}{K:Value→M}{b off n T:Nat}{v:Value}
theorem ALs (l l':List Value)(k:Nat)(v:Value)(h:l.set k v=l'):wr l.toArray k [v]=l'.toArray:=by
 simp [wr,h]
theorem st1 {l l':List Value}[h:InL b L (.cells l.toArray T (0,0))][g:SetL l off v l'][u:UpL b L (.cells l.toArray T (0,0)) (.cells l'.toArray T (0,0)) L'](hv:v.oneCell'=true)(hk:K undef I L'):
  Sto 1 (.pointer (some ⟨b,off,none⟩)) v (gh K) I L:=by
 obtain ⟨L1,L2,rfl,rfl⟩:=u.up;have hc:v.cells=#[v]:=by cases v <;> first|rfl|simp [Value.oneCell'] at hv
 refine ⟨b,off,l.toArray,T,(0,0),L1,L2,rfl,by simp [hc],by simp [hc];exact hv,by simp;have:=g.set.2;omega,.inl rfl,rfl,?_⟩;rw [hc,ALs l l' off v g.set.1];exact Gh.done hk
theorem ALt:∀(vs l:List Value) (off:Nat),off+vs.length=l.length→wr l.toArray off vs=(l.take off++vs).toArray:=by
 intro vs l off h;rw [Np vs l.toArray off (by simp;omega)];simp [h]
theorem stB {l vs:List Value}[h:InL b L (.cells l.toArray T (0,0))][u:UpL b L (.cells l.toArray T (0,0)) (.cells vs.toArray T (0,0)) L'](hl:vs.length=n)(hl':l.length=n)(h1:∀u∈vs,u.oneCell'=true)(hk:K undef I L'):
  Sto n (.pointer (some ⟨b,0,none⟩)) (.agg vs.toArray) (gh K) I L:=by
 obtain ⟨L1,L2,rfl,rfl⟩:=u.up;refine ⟨b,0,l.toArray,T,(0,0),L1,L2,rfl,by simp [Value.cells,hl],by simpa [Value.cells] using h1,by simp [hl'],.inl rfl,rfl,?_⟩;simp only [Value.cells];rw [ALt vs l 0 (by omega)];exact Gh.done (by simpa using hk)
theorem AL {vs:List Value}(h:vs.all (·.oneCell')=true):∀u∈vs,u.oneCell'=true:=fun u hu=>List.all_eq_true.1 h u hu
theorem AZ {o:Obj}(h:∀b,K (.pointer (some ⟨b,0,none⟩)) I ((b,o)::L)):New o (gh K) I L:=fun b=>Gh.done (h b)
end effs
section calls
variable {P:Program}{ω:Om}{f:FuncId}{args:Array Value}{K:Value→M}{I:Imm}{L:LH}
theorem Cal.gh (h:Cal P ω f args (fun v=>Gh (K v)) I L):Cal P ω f args K I L:=fun w hs=>
 (h w hs).mono fun _ _ ⟨v,_,_,he,hs',hg⟩=>by
  obtain ⟨I2,L2,h1,h2⟩:=hg hs'.cons;exact ⟨v,I2,L2,he,h1 ω _ hs',h2⟩
theorem call (h:Cal P ω f args K I L):Cal P ω f args (SL.gh K) I L:=fun w hs=>
 (h w hs).mono fun _ _ ⟨v,I',L',he,hs',h2⟩=>⟨v,I',L',he,hs',Gh.done h2⟩
theorem MW (h:Cal P ω f args (fun v=>Gh (K v)) I L):Cal P ω f args (SL.gh K) I L:=h
theorem Cal.to (L':LH)[hs:SubP L' L](h:Cal P ω f args K I L'):Cal P ω f args K I L:=fun w hw=>by
 obtain ⟨R,hR⟩:=hs.sub;exact h w ((hw.perm hR).drop (List.sublist_append_left L' R))
theorem Cal.split (X:LH){R:LH}[h:SplitL X L R](hc:Cal P ω f args K I (X++R)):Cal P ω f args K I L:=fun w hs=>hc w (hs.perm h.perm)
theorem Cal.perm {L':LH}(hp:L.Perm L')(h:Cal P ω f args K I L'):Cal P ω f args K I L:=fun w hs=>h w (hs.perm hp)
theorem Cal.mono {K':Value→M}(h:Cal P ω f args K I L)(hk:∀v I' L',K v I' L'→K' v I' L'):Cal P ω f args K' I L:=fun w hs=>
 (h w hs).mono fun _ _ ⟨v,I',L',he,hs',h2⟩=>⟨v,I',L',he,hs',hk v I' L' h2⟩
theorem Cal.cons (h:Cons I L→Cal P ω f args K I L):Cal P ω f args K I L:=fun w hs=>h hs.cons w hs
theorem loop {σ:Type}{s0:σ}{B:σ→(σ→M)→M}(Inv:Nat→σ→M)(m:Nat)(h0:Inv m s0 I L)
  (h:∀m s I' L',Inv m s I' L'→B s (fun s'=>Gh fun I2 L2=>∃m',m' < m∧Inv m' s' I2 L2) I' L'):BF s0 B I L:=⟨Inv,m,h0,h⟩
end calls
abbrev AX (P:Program)(ω:Om)(f:FuncId)(args:Array Value)(Pn K:Value→M):M:=CalP P ω f args K Pn
abbrev GX (P:Program)(ω:Om)(x:Value)(args:Array Value)(Pn K:Value→M):M:=CalVP P ω x args K Pn
abbrev ARl (P:Program)(ω:Om)(f:FuncId)(args:Array Value)(K:Value→M):M:=CalD P ω f args K
abbrev ALO (P:Program)(ω:Om)(f:FuncId)(args:Array Value)(v:Value)(K:Value→M):M:=CalDR P ω f args v K
section callsP
variable {P:Program}{ω:Om}{f:FuncId}{args:Array Value}{K Pn:Value→M}{I:Imm}{L:LH}
theorem CalP.of (h:Cal P ω f args K I L):CalP P ω f args K Pn I L:=fun w hs=>
 (h w hs).mono fun _ _ ⟨v,I',L',he,hs',hk⟩=>⟨v,I',L',hs',.inl ⟨he,hk⟩⟩
theorem CalP.gh (h:CalP P ω f args (fun v=>Gh (K v)) (fun v=>Gh (Pn v)) I L):CalP P ω f args K Pn I L:=fun w hs=>
 (h w hs).mono fun _ _ ⟨v,_,_,hs',hg⟩=>by
  rcases hg with ⟨he,hg⟩|⟨he,hg⟩
  ·obtain ⟨I2,L2,h1,h2⟩:=hg hs'.cons;exact ⟨v,I2,L2,h1 ω _ hs',.inl ⟨he,h2⟩⟩
  ·obtain ⟨I2,L2,h1,h2⟩:=hg hs'.cons;exact ⟨v,I2,L2,h1 ω _ hs',.inr ⟨he,h2⟩⟩
theorem CalP.mono {K' Pn':Value→M}(h:CalP P ω f args K Pn I L)(hk:∀v I' L',K v I' L'→K' v I' L')(hp:∀v I' L',Pn v I' L'→Pn' v I' L'):CalP P ω f args K' Pn' I L:=fun w hs=>
 (h w hs).mono fun _ _ ⟨v,I',L',hs',hg⟩=>⟨v,I',L',hs',hg.imp (fun h=>⟨h.1,hk _ _ _ h.2⟩) (fun h=>⟨h.1,hp _ _ _ h.2⟩)⟩
theorem Ac (h:CalP P ω f args K Pn I L):CalP P ω f args (SL.gh K) Pn I L:=h.mono (fun _ _ _ h=>Gh.done h) (fun _ _ _ h=>h)
theorem Az (h:Cal P ω f args K I L):CalP P ω f args (SL.gh K) Pn I L:=CalP.of (call h)
theorem CalP.pre (h:Gh (CalP P ω f args K Pn) I L):CalP P ω f args K Pn I L:=fun w hs=>by
 obtain ⟨I',L',h1,h2⟩:=h hs.cons;exact h2 w (h1 ω w hs)
end callsP
theorem ExtE.ret {P:Program}{ω:Om}{e:Array Value→Sem Value}{args:Array Value}{K:Value→M}{I:Imm}{L:LH}(h:∃v,(∀w,St ω w I L→(e args).run P w= .ok v w)∧K v I L):ExtE P ω e args K I L:=fun w hs=>by
 obtain ⟨v,h1,h2⟩:=h;exact ⟨v,w,I,L,h1 w hs,hs,h2⟩
theorem AHC {P:Program}{ω:Om}{x:Value}{K:Value→M}{I:Imm}{L:LH}(hk:K x I L):ExtE P ω Extern.AbiNoEscape.same #[x] K I L:=ExtE.ret ⟨x,fun w _=>Lib.run_noEscape w x,hk⟩
theorem ARZ {P:Program}{ω:Om}{ps:Array TypeId}{t e n:Nat}{K:Value→M}{I:Imm}{L:LH}(ht:P.underlying t=some (.slice e))(hn:n≤281474976710656)(hk:∀(b:Nat) (cs:Array Value),n≤cs.size→K (.slice (some ⟨b,0,none⟩) n cs.size) I ((b,.cells cs e (0,0))::L)):
  ExtE P ω (Extern.BytealgMakeNoZero.makeNoZero ps #[t]) #[.int .i64 n] K I L:=fun w hs=>by
 obtain ⟨cs,h1,h2,_⟩:=Lib.run_makeNoZero (P:=P) w ps t e ht n hn;refine ⟨_,_,I,_,h1,?_,hk w.heap.size cs h2⟩;have hd:St ω w.drew.drew I L:=St.drew hs (n:=w.drew.drew.drawn) (by show w.drawn≤w.drawn+1+1;omega);exact St.push hd (.cells cs e (0,0))
def SlI (I:Imm)(n:Nat)(v:Value)(cells:List Value)(len:Nat):Prop:=
 cells.length=len * n∧∃a cap,v= .slice a len cap∧len≤cap∧
  (len≠0→∃b off cs T fr,a=some ⟨b,off,none⟩∧I b=some (Obj.cells cs T fr)∧∀j u,cells[j]? =some u→cs[off+j]? =some u)
theorem SlI.mono {I I':Imm}{n len:Nat}{v:Value}{cells:List Value}(h:SlI I n v cells len)(hI:Ext I I'):SlI I' n v cells len:=by
 obtain ⟨hl,a,cap,hv,hc,h⟩:=h;refine ⟨hl,a,cap,hv,hc,fun h0=>?_⟩;obtain ⟨b,off,cs,T,fr,ha,hb,hcs⟩:=h h0;exact ⟨b,off,cs,T,fr,ha,hI _ _ hb,hcs⟩
theorem SlI.nil (I:Imm)(n:Nat)(a:Option Addr)(cap:Nat):SlI I n (.slice a 0 cap) [] 0:=⟨by simp,a,cap,rfl,Nat.zero_le _,fun h=>absurd rfl h⟩
theorem SlI.news {I:Imm}{L:LH}{n len:Nat}{v:Value}{cells:List Value}(h:SlI I n v cells len):News n v I L len cells:=by
 obtain ⟨hl,a,cap,rfl,hc,h⟩:=h;by_cases h0:len=0
 ·subst h0;exact .inl ⟨a,cap,rfl,rfl,List.eq_nil_of_length_eq_zero (by simpa using hl)⟩
 ·obtain ⟨b,off,cs,T,fr,rfl,hb,hcs⟩:=h h0;exact .inr (.inl ⟨b,off,cap,rfl,hl,fun j u hu=>Cell.imm hb (hcs j u hu)⟩)
def SlO (T n : Nat) (X : LH) (v : Value) (cells : List Value) (len : Nat) : Prop :=
  cells.length = len * n ∧
  ((X = [] ∧ len = 0 ∧ ∃ a, v = .slice a 0 0) ∨
   (∃ (b cap : Nat) (cs : Array Value), X = [(b, Obj.cells cs T (0, 0))] ∧ v = .slice (some ⟨b, 0, Option.none⟩) len cap ∧ cs.size = cap * n ∧ len ≤ cap ∧ ∀ (j : Nat) (u : Value), cells[j]? = some u → cs[j]? = some u))
theorem SlO.none (T n:Nat):SlO T n [] (.slice none 0 0) [] 0:=⟨by simp,.inl ⟨rfl,rfl,_,rfl⟩⟩
theorem SlO.empty (T n:Nat)(a:Option Addr):SlO T n [] (.slice a 0 0) [] 0:=⟨by simp,.inl ⟨rfl,rfl,_,rfl⟩⟩
theorem SlO.form {T n len:Nat}{X:LH}{v:Value}{cells:List Value}(h:SlO T n X v cells len):∃a cap,v= .slice a len cap:=by
 rcases h.2 with ⟨_,rfl,a,rfl⟩|⟨b,cap,cs,_,rfl,_⟩
 ·exact ⟨a,0,rfl⟩
 ·exact ⟨_,cap,rfl⟩
theorem SlO.news {I:Imm}{T n len:Nat}{X F:LH}{v:Value}{cells:List Value}(h:SlO T n X v cells len)(hF:∀x∈X,x∈F):News n v I F len cells:=by
 obtain ⟨hl,h⟩:=h;rcases h with ⟨rfl,rfl,a,rfl⟩|⟨b,cap,cs,rfl,rfl,hcs,hle,hc⟩
 ·exact .inl ⟨a,0,rfl,rfl,List.eq_nil_of_length_eq_zero (by simpa using hl)⟩
 ·exact .inr (.inl ⟨b,0,cap,rfl,hl,fun j u hu=>Cell.own (hF _ (List.mem_singleton.2 rfl)) (by rw [Nat.zero_add];exact hc j u hu)⟩)
theorem SlO.freeze {A:M}{I:Imm}{T n len:Nat}{X F:LH}{v:Value}{cells:List Value}(h:SlO T n X v cells len)(hk:∀I',Ext I I'→SlI I' n v cells len→Gh A I' F):Gh A I (X++F):=by
 obtain ⟨hl,h⟩:=h;rcases h with ⟨rfl,rfl,a,rfl⟩|⟨b,cap,cs,rfl,rfl,hcs,hle,hc⟩
 ·exact hk I (Ext.refl I) ⟨hl,a,0,rfl,Nat.le_refl _,fun h=>absurd rfl h⟩
 ·exact Gh.freeze fun hext=>hk _ hext ⟨hl,_,cap,rfl,hle,fun _=>⟨b,0,cs,T,(0,0),rfl,by simp [Imm.put],fun j u hu=>by rw [Nat.zero_add];exact hc j u hu⟩⟩
theorem EJ (z:Array Value)(k:Nat):(Builtin.zeroCells z k).size=k * z.size:=by simp [Builtin.zeroCells]
theorem VU {I:Imm}{X L F:LH}[hsp:SplitL X L F]{T n bytes len m:Nat}{z:Array Value}{s x:Value}{cells news:List Value}{K:Value→M}(hz:z.size=n)(ho:SlO T n X s cells len)(hn:News n x I L m news)
  (h1:∀u∈news,u.oneCell'=true) (hb:(len+m) * bytes≤150000000000000) (hm:len+m≤150000000000000)
  (hk:∀X' v',SlO T n X' v' (cells++news) (len+m)→Gh (K v') I (X'++F)):App T n bytes z s x (gh K) I L:=by
 have hp:=hsp.perm;obtain ⟨hl,ho'⟩:=ho;have hnl:=hn.length;have hlen:(cells++news).length=(len+m) * n:=by rw [List.length_append,hl,hnl,Nat.add_mul]
 rcases ho' with ⟨rfl,rfl,a,rfl⟩|⟨b,cap,cs,rfl,rfl,hcs,hle,hc⟩
 ·have hce:cells=[]:=List.eq_nil_of_length_eq_zero (by simpa using hl);subst hce;refine ⟨a,0,0,m,news,rfl,hn,h1,?_⟩;by_cases h0:m=0
  ·subst h0;have:news=[]:=List.eq_nil_of_length_eq_zero (by simpa using hnl);subst this;exact .inl ⟨Nat.le_refl _,rfl,Gh.perm hp (hk [] (.slice a 0 0) (SlO.empty T n a))⟩
  ·refine .inr (.inr ⟨by omega,hb,hm,[],L,.inl ⟨a,0,rfl,rfl,rfl⟩,List.Sublist.refl _,fun b c hc=>?_⟩);refine Gh.perm (List.Perm.cons _ hp) (hk [(b,_)] _ ⟨hlen,.inr ⟨b,c,_,rfl,rfl,?_,hc,?_⟩⟩)
   ·simp only [List.nil_append,Array.size_append,List.size_toArray,EJ,hz,hnl];rw [←Nat.add_mul];congr 1;omega
   ·intro j u hu;simp only [List.nil_append] at hu ⊢;have hlt:j < news.length:=(List.getElem?_eq_some_iff.1 hu).1;rw [Array.getElem?_append_left (by simpa using hlt)];simpa using hu
 ·have hmem:(b,Obj.cells cs T (0,0))∈L:=hp.mem_iff.2 (List.mem_append_left _ (List.mem_singleton.2 rfl));obtain ⟨L1,L2,rfl⟩:=List.append_of_mem hmem;have hF:(L1++L2).Perm F:=by
   have h2:(L1++(b,Obj.cells cs T (0,0))::L2).Perm ((b,Obj.cells cs T (0,0))::(L1++L2)):=List.perm_middle;exact (List.perm_cons _).1 (h2.symm.trans hp)
  refine ⟨_,len,cap,m,news,rfl,hn,h1,?_⟩;by_cases hfit:len+m≤cap
  ·refine .inr (.inl ⟨hfit,b,0,cs,T,L1,L2,rfl,rfl,by rw [hcs,Nat.zero_add];exact Nat.mul_le_mul_right n hfit,?_⟩);refine Gh.perm (List.perm_middle.trans (List.Perm.cons _ hF)) (hk [(b,_)] _ ⟨hlen,.inr ⟨b,cap,_,rfl,rfl,by rw [NH];exact hcs,hfit,?_⟩⟩);have hroom:0+len * n+news.length≤cs.size:=by
    rw [hcs,hnl,Nat.zero_add,←Nat.add_mul];exact Nat.mul_le_mul_right n hfit
   intro j u hu;rw [Vd news cs (0+len * n) j hroom];simp only [Nat.zero_add] at hroom ⊢;by_cases hj:j < len * n
   ·rw [if_pos hj];rw [List.getElem?_append_left (by omega)] at hu;exact hc j u hu
   ·rw [if_neg hj];rw [List.getElem?_append_right (by omega),hl] at hu;have hlt:=(List.getElem?_eq_some_iff.1 hu).1;rw [if_pos (by omega)];exact hu
  ·refine .inr (.inr ⟨by omega,hb,hm,cells,L1++L2,.inr (.inl ⟨b,0,cap,rfl,hl,fun j u hu=>Cell.own hmem (by rw [Nat.zero_add];exact hc j u hu)⟩),
    List.Sublist.append (List.Sublist.refl _) (List.sublist_cons_self ..),fun b' c hcc=>?_⟩)
   refine Gh.perm (List.Perm.cons _ hF) (hk [(b',_)] _ ⟨hlen,.inr ⟨b',c,_,rfl,rfl,?_,hcc,?_⟩⟩)
   ·simp only [Array.size_append,List.size_toArray,EJ,hz,hlen];rw [←Nat.add_mul];congr 1;omega
   ·intro j u hu;have hlt:j < (cells++news).length:=(List.getElem?_eq_some_iff.1 hu).1;rw [Array.getElem?_append_left (by simpa using hlt)];simpa using hu
theorem Bd {I:Imm}{X L F:LH}[hsp:SplitL X L F]{T n bytes len m:Nat}{z:Array Value}{s x:Value}{cells news:List Value}{K:Value→M}(hz:z.size=n)(ho:SlO T n X s cells len)(hn:News n x I L m news)
  (h1:∀u∈news,u.oneCell'=true) (hb:(len+m) * bytes≤150000000000000) (hm:len+m≤150000000000000)
  (hk:∀X' v',SlO T n X' v' (cells++news) (len+m)→K v' I (X'++F)):App T n bytes z s x (gh K) I L:=VU hz ho hn h1 hb hm (fun X' v' h=>Gh.done (hk X' v' h))
theorem ANT {I:Imm}{F:LH}{T bytes:Nat}{z:Array Value}{ln cn:Nat}{K:Value→M}(hlc:ln≤cn)(hc:cn≤140737488355328)(hb:cn * bytes≤281474976710656)
  (hk:∀X v,SlO T z.size X v (Builtin.zeroCells z ln).toList ln→K v I (X++F)):MkS T bytes z (.int .i64 ln) (.int .i64 cn) (gh K) I F:=by
 refine ⟨.i64,.i64,ln,cn,rfl,rfl,hlc,hc,hb,fun b=>?_⟩;refine Gh.done (hk [(b,_)] _ ⟨by simp [EJ],.inr ⟨b,cn,_,rfl,rfl,EJ z cn,hlc,?_⟩⟩);intro j u hu;have hlt:j < ln * z.size:=by have:=(List.getElem?_eq_some_iff.1 hu).1;simpa [EJ] using this
 have hlt':j < cn * z.size:=Nat.lt_of_lt_of_le hlt (Nat.mul_le_mul_right _ hlc);simp only [Builtin.zeroCells,Array.toList_map,List.getElem?_map,Array.toList_range,List.getElem?_range hlt,Option.map_some,Option.some.injEq] at hu;simp only [Builtin.zeroCells,Array.getElem?_map,Array.getElem?_range,hlt',if_true,Option.map_some,hu]
theorem Ph {I:Imm}{F:LH}{T n:Nat}{z:Array Value}{v:Value}{K:Value→M}(hz:z.size=n)(hn:0 < n)(hv:v.cells.size=n)
  (hk:∀X u,SlO T n X u v.cells.toList 1→Gh (K u) I (X++F)):AU T n z 1 [(0,v)] (gh K) I F:=by
 have hfold:∀(vs:List Value) (cs:Array Value) (k:Nat),k+vs.length≤cs.size→(vs.zipIdx k).foldl (fun cs (c,j)=>cs.setIfInBounds (0+j) c) cs=wr cs k vs:=by
  intro vs;induction vs with
  |nil=>intro cs k _;rfl
  |cons v vs ih=>
   intro cs k hk;simp only [List.zipIdx_cons,List.foldl_cons,wr,Nat.zero_add];simp only [List.length_cons] at hk;have:=ih (cs.setIfInBounds k v) (k+1) (by simp;omega);simpa using this
 refine ⟨v.cells,?_,fun b=>?_⟩
 ·simp only [Instr.fill];have h0:((Array.range (1 * n)).map (fun x=>z[x % z.size]!)).size=n:=by simp
  rw [h0];have hc:¬((decide (v.cells.size≠n)||decide (0 * n+v.cells.size > n))=true):=by simp [hv]
  rw [if_neg hc];congr 1
  rw [←Array.foldl_toList];simp only [Array.toList_zipIdx,Nat.zero_mul];rw [hfold _ _ 0 (by rw [h0];simp [hv]),Np _ _ 0 (by rw [h0];simp [hv])];apply Array.ext'
  simp [hv]
 ·exact hk [(b,_)] _ ⟨by simp [hv],.inr ⟨b,1,_,rfl,rfl,by omega,Nat.le_refl _,fun j u hu=>by simpa using hu⟩⟩
theorem CS {I:Imm}{F:LH}{T n:Nat}{z:Array Value}{v:Value}{K:Value→M}(hz:z.size=n)(hn:0 < n)(hv:v.cells.size=n)
  (hk:∀X u,SlO T n X u v.cells.toList 1→K u I (X++F)):AU T n z 1 [(0,v)] (gh K) I F:=Ph hz hn hv (fun X u h=>Gh.done (hk X u h))
theorem AHq {I:Imm}{F:LH}{T n:Nat}{z:Array Value}{K:Value→M}(hk:∀X u,SlO T n X u [] 0→K u I (X++F)):AU T n z 0 [] (gh K) I F:=by
 refine ⟨#[],by simp [Instr.fill],fun b=>?_⟩;exact Gh.done (hk [(b,_)] _ ⟨by simp,.inr ⟨b,0,_,rfl,rfl,by simp,Nat.le_refl _,fun j u hu=>by simp at hu⟩⟩)
theorem SlI.ix {I:Imm}{n len i:Nat}{v:Value}{cells:List Value}(h:SlI I n v cells len)(k:IntKind)(hi:i < len):
  ∃b off,ixV n v (.int k i)=some (.pointer (some ⟨b,off,none⟩))∧∀I' L,Ext I I'→Cells I' L b off ((cells.drop (i * n)).take n):=by
 obtain ⟨hl,a,cap,rfl,hcap,h⟩:=h;obtain ⟨b,off,cs,T,fr,rfl,hb,hcs⟩:=h (by omega);refine ⟨b,off+i * n,ANX b off n k len cap i hi,fun I' L hI j u hu=>?_⟩;rw [List.getElem?_take] at hu;split at hu
 ·rw [List.getElem?_drop] at hu;refine Cell.imm (hI _ _ hb) ?_;have:=hcs _ u hu;rwa [←Nat.add_assoc] at this
 ·cases hu
theorem Jo (k:IntKind)(i d y:Nat)(h:i≤y):Ci (some (.int k i)) d y=some i:=by
 simp only [Ci];rw [if_pos (by omega)];simp
theorem SlI.part {I:Imm}{n len lo hi:Nat}{v:Value}{cells:List Value}(h:SlI I n v cells len)(h1:lo≤hi)(h2:hi≤len)(blo bhi:Option Value)
  (hlo:∀y,hi≤y→Ci blo 0 y=some lo∨y≠hi) (hhi:∀cap,len≤cap→Ci bhi len cap=some hi):
  ∃v',CV n v blo bhi none=some v'∧SlI I n v' ((cells.drop (lo * n)).take ((hi - lo) * n)) (hi - lo):=by
 obtain ⟨hl,a,cap,rfl,hcap,h⟩:=h;have hb1:=hhi cap hcap;have hb2:Ci blo 0 hi=some lo:=(hlo hi (Nat.le_refl _)).resolve_right (by simp);refine ⟨.slice (if cap=lo then a else a.map (·.add (lo * n))) (hi - lo) (cap - lo),?_,?_,_,_,rfl,by omega,fun h0=>?_⟩
 ·simp only [CV];rw [if_neg (by simp)];simp only [Ci] at hb1 hb2 ⊢;simp [hb1,hb2]
 ·rw [List.length_take,List.length_drop,hl];apply Nat.min_eq_left
  rw [←Nat.sub_mul];exact Nat.mul_le_mul_right n (by omega)
 ·obtain ⟨b,off,cs,T,fr,rfl,hb,hcs⟩:=h (by omega);refine ⟨b,off+lo * n,cs,T,fr,by rw [if_neg (by omega)];simp [CX],hb,fun j u hu=>?_⟩;rw [List.getElem?_take] at hu;split at hu
  ·rw [List.getElem?_drop] at hu;have:=hcs _ u hu;rwa [←Nat.add_assoc] at this
  ·cases hu
def u8s (l:List UInt8):List Value:=l.map fun c=>.int .u8 c.toNat
def Bytes (I:Imm)(v:Value)(l:List UInt8):Prop:=SlI I 1 v (u8s l) l.length
theorem Bytes.mono {I I':Imm}{v:Value}{l:List UInt8}(h:Bytes I v l)(hI:Ext I I'):Bytes I' v l:=SlI.mono h hI
theorem Bytes.form {I:Imm}{v:Value}{l:List UInt8}(h:Bytes I v l):∃a cap,v= .slice a l.length cap:=by
 obtain ⟨_,a,cap,hv,_⟩:=h;exact ⟨a,cap,hv⟩
theorem Bytes.str {I:Imm}{L:LH}{v:Value}{l:List UInt8}(h:Bytes I v l):bsR v I L (.string ⟨l.toArray⟩):=by
 rcases SlI.news (L:=L) h with ⟨a,cap,rfl,hl,hn⟩|⟨b,off,cap,rfl,hl,hc⟩|⟨s,rfl,_⟩
 ·have:l=[]:=List.eq_nil_of_length_eq_zero hl;subst this;exact .inl ⟨a,cap,rfl,rfl⟩
 ·exact .inr ⟨b,off,_,cap,l,rfl,rfl,hc,rfl⟩
 ·obtain ⟨a,cap,hv⟩:=h.form;cases hv
def Recs {α:Type}(R:α→List Value→Prop)(n:Nat):List α→List Value→Prop
 |[],cells=>cells=[]
 |x::xs,cells=>(cells.take n).length=n∧R x (cells.take n)∧Recs R n xs (cells.drop n)
section recs
variable {α:Type}{R R':α→List Value→Prop}{n:Nat}
theorem Recs.length:∀{xs:List α} {cells:List Value},Recs R n xs cells→cells.length=xs.length * n
 |[],cells,h=>by rw [h];simp
 |x::xs,cells,⟨h1,_,h2⟩=>by
  have:=Recs.length h2;rw [List.length_drop] at this;rw [List.length_take] at h1;simp only [List.length_cons,Nat.add_mul,Nat.one_mul];omega
theorem Recs.imp (hR:∀x c,R x c→R' x c):∀{xs:List α} {cells:List Value},Recs R n xs cells→Recs R' n xs cells
 |[],_,h=>h
 |_::_,_,⟨h1,h2,h3⟩=>⟨h1,hR _ _ h2,Recs.imp hR h3⟩
theorem Recs.append:∀{xs ys:List α} {cs ds:List Value},Recs R n xs cs→Recs R n ys ds→Recs R n (xs++ys) (cs++ds)
 |[],ys,cs,ds,h,h'=>by rw [show cs=[] from h];exact h'
 |x::xs,ys,cs,ds,⟨h1,h2,h3⟩,h'=>by
  have hle:n≤cs.length:=by rw [List.length_take] at h1;omega
  refine ⟨?_,?_,?_⟩
  ·rw [List.take_append_of_le_length hle];exact h1
  ·rw [List.take_append_of_le_length hle];exact h2
  ·rw [List.drop_append_of_le_length hle];exact Recs.append h3 h'
theorem Recs.one {x:α}{c:List Value}(hl:c.length=n)(h:R x c):Recs R n [x] c:=by
 refine ⟨by rw [List.take_of_length_le (by omega)];exact hl,by rw [List.take_of_length_le (by omega)];exact h,?_⟩;show c.drop n=[];simp [hl]
theorem Recs.one_cells (hR:∀x c,R x c→∀u∈c,u.oneCell'=true):∀{xs:List α} {cells:List Value},Recs R n xs cells→∀u∈cells,u.oneCell'=true
 |[],cells,h,u,hu=>by rw [show cells=[] from h] at hu;cases hu
 |x::xs,cells,⟨_,h2,h3⟩,u,hu=>by
  rw [←List.take_append_drop n cells] at hu;rcases List.mem_append.1 hu with hu|hu
  ·exact hR _ _ h2 u hu
  ·exact Recs.one_cells hR h3 u hu
theorem Recs.get:∀{xs:List α} {cells:List Value} {i:Nat} {x:α},Recs R n xs cells→xs[i]? =some x→((cells.drop (i * n)).take n).length=n∧R x ((cells.drop (i * n)).take n)
 |[],_,_,_,_,h=>by simp at h
 |y::ys,cells,0,x,⟨h1,h2,_⟩,h=>by
  simp only [List.getElem?_cons_zero,Option.some.injEq] at h;subst h;simpa using ⟨by simpa using h1,h2⟩
 |y::ys,cells,i+1,x,⟨_,_,h3⟩,h=>by
  have:=Recs.get (i:=i) h3 (by simpa using h);rw [List.drop_drop] at this;rwa [show (i+1) * n=n+i * n from by rw [Nat.add_mul];omega]
theorem Recs.take:∀{xs:List α} {cells:List Value} (k:Nat),Recs R n xs cells→Recs R n (xs.take k) (cells.take (k * n))
 |[],cells,k,h=>by rw [show cells=[] from h];simp [Recs]
 |x::xs,cells,0,_=>by simp [Recs]
 |x::xs,cells,k+1,⟨h1,h2,h3⟩=>by
  have hle:n≤(k+1) * n:=by rw [Nat.add_mul];omega
  refine ⟨?_,?_,?_⟩
  ·rw [List.take_take,Nat.min_eq_left hle];exact h1
  ·rw [List.take_take,Nat.min_eq_left hle];exact h2
  ·have:=Recs.take k h3;rw [List.drop_take];rwa [show (k+1) * n - n=k * n from by rw [Nat.add_mul];omega]
theorem Recs.drop:∀{xs:List α} {cells:List Value} (k:Nat),Recs R n xs cells→Recs R n (xs.drop k) (cells.drop (k * n))
 |[],cells,k,h=>by rw [show cells=[] from h];simp [Recs]
 |x::xs,cells,0,h=>by simpa using h
 |x::xs,cells,k+1,⟨_,_,h3⟩=>by
  have:=Recs.drop k h3;rw [List.drop_drop] at this;rwa [show (k+1) * n=n+k * n from by rw [Nat.add_mul];omega]
end recs
def DN (w:World):Imm:=fun b=>w.heap[b]?
def AQN (w:World):Om:=⟨w.tape,w.os,w.output,w.drawn⟩
theorem st_start (w:World):St (AQN w) w (DN w) []:=⟨fun _ _ h=>h,fun _ _ h=>(List.not_mem_nil h).elim,List.nodup_nil,fun _ _ h=>(List.not_mem_nil h).elim,rfl,rfl,rfl,Nat.le_refl _⟩
theorem law_below {P:Program}{f:FuncId}{args:Array Value}{w:World}(h:∀ω,Cal P ω f args (fun v I' _=>v= .bool true∧Ext (DN w) I') (DN w) []):
  Calls P f args w fun e w'=>e= .returned (.bool true)∧RowKit.Below w.heap.size w w':=by
 refine (h (AQN w) w (st_start w)).mono ?_;rintro e w' ⟨v,I',L',rfl,hs,rfl,hI⟩;have hblk:∀k,k < w.heap.size→w'.heap[k]? =w.heap[k]? :=by
  intro k hk;have h1:DN w k=some w.heap[k]:=Array.getElem?_eq_getElem hk;rw [hs.imm k _ (hI k _ h1)];exact h1.symm
 refine ⟨rfl,hs.os,hs.tape,hs.out,?_,hblk⟩;rcases Nat.eq_zero_or_pos w.heap.size with h0|h0
 ·omega
 ·have:=hblk (w.heap.size - 1) (by omega);rw [Array.getElem?_eq_getElem (by omega:w.heap.size - 1 < w.heap.size)] at this;have:=(Array.getElem?_eq_some_iff.1 this).1;omega
section
variable {rz:Nat}{P:Program}{w:World}{T:TypeId}{cs:List Value}
theorem mapM_len {α β:Type}{f:α→Option β}:∀(l:List α) (r:List β),l.mapM f=some r→r.length=l.length
 |[],r,h=>by simp at h;subst h;rfl
 |x::l,r,h=>by
  simp only [List.mapM_cons,Option.bind_eq_bind,Option.bind_eq_some_iff] at h;obtain ⟨y,_,ys,hys,he⟩:=h;simp only [Option.pure_def,Option.some.injEq] at he;subst he;simp [mapM_len l ys hys]
theorem Ii {α β:Type}{f:α→Option β}:∀(l:List α) (r:List β),l.mapM f=some r→∀(i:Nat) (x:α),l[i]? =some x→∃y,r[i]? =some y∧f x=some y
 |[],r,h,i,x,hx=>by simp at hx
 |z::l,r,h,i,x,hx=>by
  simp only [List.mapM_cons,Option.bind_eq_bind,Option.bind_eq_some_iff] at h;obtain ⟨y,hy,ys,hys,he⟩:=h;simp only [Option.pure_def,Option.some.injEq] at he;subst he;cases i with
  |zero=>simp at hx;subst hx;exact ⟨y,rfl,hy⟩
  |succ i=>simpa using Ii l ys hys i x (by simpa using hx)
theorem wf_u8 {n:Int}(h:(Lit.int .u8 n).wf=true):0≤n∧n≤255:=by
 have e1:IntKind.u8.min=0:=by decide
 have e2:IntKind.u8.max=255:=by decide
 simp only [Lit.wf,e1,e2,Bool.and_eq_true,decide_eq_true_eq] at h;exact h
theorem wf_i64 {n:Int}(h:(Lit.int .i64 n).wf=true): -9223372036854775808≤n∧n≤9223372036854775807:=by
 have e1:IntKind.i64.min= -9223372036854775808:=by decide
 have e2:IntKind.i64.max=9223372036854775807:=by decide
 simp only [Lit.wf,e1,e2,Bool.and_eq_true,decide_eq_true_eq] at h;exact h
variable {r:Reach}{base:Nat}{v:Value}
end
end Go.SL
namespace Go.Proofs.YthkaekjoemhjaaaGreatDoor.bulk
open Go.SL
section
variable {H:Type}
theorem one_le (d:DataW H):1≤Rows.uptoBulk d:=by
 cases d with
 |lit l=>cases l <;> simp [Rows.uptoBulk]
 |_=>simp [Rows.uptoBulk]
end
end Go.Proofs.YthkaekjoemhjaaaGreatDoor.bulk
