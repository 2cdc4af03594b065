/-
  Lemmas, part 2: laid together by a program.
-/
import Derived.Test.YtmmfcgbfbcamcaaGreatDoorP1
import Derived.Deep.LoopGhost
import Derived.RangeFuncRecord
import Derived.IntWalk
set_option maxRecDepth 100000
set_option linter.unusedVariables false
set_option linter.unusedSimpArgs false
set_option linter.unusedSectionVars false
namespace Go.SL
section
variable {P:Program}{ω:Om}{n:Nat}
def AJZ (ω:Om)(S:M)(w:World):Prop:=∃I L,St ω w I L∧S I L
def YS (ω:Om)(n:Nat)(Iv:Act→Prop)(K:Env→M)(a:Act)(w:World):Prop:=Iv a∧∃e I L,Rep n a e∧St ω w I L∧K e I L
def PP (ω:Om)(pn:Pnf)(c:List PanicEntry)(ds:List Deferred)(w:World):Prop:=∃e v I L,ds=dfs e.df∧c=[{v,recovered:=false}]∧St ω w I L∧AJa (KQ pn e) v I L
theorem PP.none {c:List PanicEntry}{ds:List Deferred}{w:World}:¬PP ω none c ds w:=fun ⟨_,_,_,_,_,_,_,h⟩=>h
theorem DZ {pn:Pnf}{ops:Array Oper}{nd:Nat→Bool}{S:M}{K:Env→M}{Iv:Act→Prop}(hI:∀a o v,o∈ops→Iv a→Iv (a.put o.dst v)):
  ∀(rest:List Oper) (i:Nat) (md:Md) (e:Env) (a:Act) (w:World) (I:Imm) (L:LH),(∀k,rest[k]? =ops[i+k]?)→Iv a→Rep n a e→MdOk n ops md e→St ω w I L→
   EQ P ω pn (some S) nd n ops i md rest e K I L→Ser P (PP ω pn) ops (AJZ ω S) (CJ P ops) nd (YS ω n Iv K) (List.range' i rest.length) a w
 |[],i,md,e,a,w,I,L,_,hv,hr,_,hs,h=>⟨hv,e,I,L,hr,hs,h⟩
 |o::rest,i,md,e,a,w,I,L,hops,hv,hr,hmd,hs,h=>by
  have ho:ops[i]? =some o:=by have:=hops 0;simpa using this.symm
  have hom:o∈ops:=Array.mem_of_getElem? ho;have hops':∀k,rest[k]? =ops[(i+1)+k]? :=fun k=>by
   have:=hops (k+1);simp only [List.getElem?_cons_succ] at this;rw [this];congr 1;omega
  have hkd:CJ P ops i=opk P o.op:=by simp [CJ,ho]
  simp only [List.length_cons,List.range'_succ];refine ⟨o,ho,?_⟩;obtain ⟨e',hr,hpe,hstep⟩:=PT hr hmd h;rcases hstep with ⟨hw,md',hmd',h⟩|⟨hw,md',hmd',h⟩
  ·unfold Mc at h;cases hop:BB P ω (KQ pn e) (e'.ev n) o.op with
   |pure r=>
    rw [hop] at h;simp only [chk,Option.isSome_some,Bool.not_true,Bool.false_or] at h;split at h
    ·rename_i hk
     have hk:=Nat.eq_of_beq_eq_true hk;cases r with
     |none=>exact h.elim
     |some v=>
      refine .inr ⟨by rw [hkd,hk];decide,v,.inl ⟨hw,fun w' _=>KU hr hop w'⟩,?_⟩;exact DZ hI rest (i+1) md' _ _ w I L hops' (hI _ o _ hom hv) (hr.put _ _) (hmd' v) hs h
    ·exact h.elim
   |read R=>
    rw [hop] at h;simp only [chk,Option.isSome_some,Bool.not_true,Bool.false_or] at h;split at h
    ·rename_i hk
     have hk:=Nat.eq_of_beq_eq_true hk;obtain ⟨v,hR,hK⟩:=h;refine .inr ⟨by rw [hkd,hk];decide,v,.inl ⟨hw,fun w' hS=>?_⟩,?_⟩
     ·obtain ⟨I',L',hs',hS'⟩:=hS (by rw [hkd,hk]);exact KT hr hop hs' (hR I' L' hS')
     ·exact DZ hI rest (i+1) md' _ _ w I L hops' (hI _ o _ hom hv) (hr.put _ _) (hmd' v) hs hK
    ·exact h.elim
   |eff E=>
    rw [hop] at h;simp only [chk,Option.isSome_some,Bool.not_true,Bool.false_or] at h;split at h
    ·rename_i hk
     have hk:=Nat.eq_of_beq_eq_true hk;refine .inl ⟨by rw [hkd,hk],?_⟩;unfold Bv;simp only [ho,hw,if_true];unfold wpR;refine Ir (fun v w' I0 L0 hs0 hg=>?_) (fun v w' I0 L0 hs0 hp=>⟨e',v,I0,L0,hr.defers,rfl,hs0,by rw [hpe];exact hp⟩) (Nh hr hop hs h);obtain ⟨I',L',hs',hk'⟩:=Rm hs0 hg;simp only [kp] at hk';split at hk'
     ·exact ⟨fun _=>⟨I',L',hs',hk'.1⟩,DZ hI rest (i+1) md' _ _ w' I' L' hops' (hI _ o _ hom hv) (hr.put _ _) (hmd' v) hs' hk'.2⟩
     ·rename_i hn
      exact ⟨fun h=>absurd h hn,DZ hI rest (i+1) md' _ _ w' I' L' hops' (hI _ o _ hom hv) (hr.put _ _) (hmd' v) hs' hk'⟩
    ·exact h.elim
   |no=>rw [hop] at h;exact h.elim
  ·simp only [skM] at h;by_cases hk:CJ P ops i=2
   ·refine .inl ⟨hk,?_⟩;unfold Bv;simp only [ho,hw,Bool.false_eq_true,if_false];rw [hkd] at hk;rw [hk] at h;cases hn:nd i with
    |true=>
     rw [hn] at h;simp only [Nat.beq_refl,Bool.and_self,if_true] at h;exact ⟨fun _=>⟨I,L,hs,h.1⟩,DZ hI rest (i+1) md' _ _ w I L hops' (hI _ o _ hom hv) (hr.put _ _) hmd' hs h.2⟩
    |false=>
     rw [hn] at h;simp only [Bool.false_and,Bool.false_eq_true,if_false] at h;exact ⟨(fun h=>absurd h (by decide)),DZ hI rest (i+1) md' _ _ w I L hops' (hI _ o _ hom hv) (hr.put _ _) hmd' hs h⟩
   ·refine .inr ⟨hk,undef,.inr ⟨hw,rfl⟩,?_⟩;rw [hkd] at hk;have hb:Nat.beq (opk P o.op) 2=false:=by
     cases hb:Nat.beq (opk P o.op) 2 with
     |false=>rfl
     |true=>exact absurd (Nat.eq_of_beq_eq_true hb) hk
    simp only [hb,Bool.and_false,Bool.false_eq_true,if_false] at h;exact DZ hI rest (i+1) md' _ _ w I L hops' (hI _ o _ hom hv) (hr.put _ _) hmd' hs h
theorem UX {I:Imm}{L:LH}:∀{Ms:List M} {A:M},ANP Ms I L→A∈Ms→A I L
 |[],_,h,_=>h.elim
 |[B],A,h,hm=>by simp only [List.mem_singleton] at hm;subst hm;exact h
 |B::C::r,A,h,hm=>by
  rcases List.mem_cons.1 hm with hm|hm
  ·subst hm;exact h.1
  ·exact UX h.2 hm
theorem rdyB_spec {rc:Nat→Nat→Bool}{i:Nat}{l:List Nat}:AES rc i l=true↔Rdy rc i l:=by
 simp only [AES,List.all_eq_true,Bool.or_eq_true,Bool.not_eq_true'];constructor
 ·intro h j hj hne;rcases h j hj with h|h
  ·exact absurd (Nat.eq_of_beq_eq_true h) hne
  ·exact h
 ·intro h j hj;by_cases e:j=i
  ·left;rw [e];exact Nat.beq_refl i
  ·right;exact h j hj e
theorem JS {pn:Pnf}{ops:Array Oper}{nd:Nat→Bool}{rc:Nat→Nat→Bool}{S:M}{K:Env→M}{Iv:Act→Prop}(hI:∀a o v,o∈ops→Iv a→Iv (a.put o.dst v))(hg:∀(i:Nat) o,ops[i]? =some o→o.guard=none):
  ∀(f:Nat) (l:List Nat) (e:Env) (a:Act) (w:World) (I:Imm) (L:LH),Iv a→Rep n a e→St ω w I L→(∀i∈l,i < ops.size)→
   vcG P ω pn S nd (CJ P ops) rc n ops f l e K I L→SH P (PP ω pn) ops (AJZ ω S) (CJ P ops) nd rc (YS ω n Iv K) f l a w
 |0,l,e,a,w,I,L,hv,hr,hs,_,h=>⟨hv,e,I,L,hr,hs,h⟩
 |f+1,l,e,a,w,I,L,hv,hr,hs,hlt,h=>by
  unfold vcG at h;have hlt':∀i,∀j∈l.erase i,j < ops.size:=fun i j hj=>hlt j (List.mem_of_mem_erase hj);have hw:∀(i:Nat) (o:Oper),ops[i]? =some o→Region.wanted o (yielded ops a.tmps)=true:=fun i o ho=>by simp [Region.wanted,hg i o ho]
  cases hf:l.find? (fun i=> !Nat.beq (CJ P ops i) 2&&AES rc i l) with
  |some i=>
   simp only [hf] at h;have hp:=List.find?_some hf;have hm:=List.mem_of_find?_eq_some hf;simp only [Bool.and_eq_true,Bool.not_eq_true'] at hp;have hrd:=rdyB_spec.1 hp.2;have hk2:CJ P ops i≠2:=fun e=>by rw [e] at hp;simp at hp
   cases ho:ops[i]? with
   |some o=>
    simp only [ho] at h;have hom:o∈ops:=Array.mem_of_getElem? ho;have hkd:CJ P ops i=opk P o.op:=by simp [CJ,ho]
    unfold Mc at h;cases hop:BB P ω (KQ pn e) (e.ev n) o.op with
    |pure r=>
     rw [hop] at h;simp only [chk,Option.isSome_some,Bool.not_true,Bool.false_or] at h;split at h
     ·cases r with
      |none=>exact h.elim
      |some v=>exact .inl ⟨i,o,v,hm,hk2,hrd,ho,.inl ⟨hw i o ho,fun w' _=>KU hr hop w'⟩,JS hI hg f _ _ _ w I L (hI _ o _ hom hv) (hr.put _ _) hs (hlt' i) h⟩
     ·exact h.elim
    |read R=>
     rw [hop] at h;simp only [chk,Option.isSome_some,Bool.not_true,Bool.false_or] at h;split at h
     ·rename_i hk
      have hk:=Nat.eq_of_beq_eq_true hk;obtain ⟨v,hR,hK⟩:=h;refine .inl ⟨i,o,v,hm,hk2,hrd,ho,.inl ⟨hw i o ho,fun w' hS=>?_⟩,JS hI hg f _ _ _ w I L (hI _ o _ hom hv) (hr.put _ _) hs (hlt' i) hK⟩;obtain ⟨I',L',hs',hS'⟩:=hS (by rw [hkd,hk]);exact KT hr hop hs' (hR I' L' hS')
     ·exact h.elim
    |eff E=>
     rw [hop] at h;simp only [chk,Option.isSome_some,Bool.not_true,Bool.false_or] at h;split at h
     ·rename_i hk
      have hk:=Nat.eq_of_beq_eq_true hk;exact absurd (hkd.trans hk) hk2
     ·exact h.elim
    |no=>rw [hop] at h;exact h.elim
   |none=>simp only [ho] at h;exact h.elim
  |none=>
   simp only [hf] at h;refine .inr ⟨fun i hi hrd=>?_,fun k hk hrd=>?_⟩
   ·have:=List.find?_eq_none.1 hf i hi;simp only [Bool.and_eq_true,Bool.not_eq_true',not_and,Bool.not_eq_true] at this;cases hb:Nat.beq (CJ P ops i) 2 with
    |true=>exact Nat.eq_of_beq_eq_true hb
    |false=>have:=this hb;rw [rdyB_spec.2 hrd] at this;cases this
   ·have h:=UX h (List.mem_map.2 ⟨k,List.mem_filter.2 ⟨hk,rdyB_spec.2 hrd⟩,rfl⟩);have hk2:CJ P ops k=2:=by
     have:=List.find?_eq_none.1 hf k hk;simp only [Bool.and_eq_true,Bool.not_eq_true',not_and,Bool.not_eq_true] at this;cases hb:Nat.beq (CJ P ops k) 2 with
     |true=>exact Nat.eq_of_beq_eq_true hb
     |false=>have:=this hb;rw [rdyB_spec.2 hrd] at this;cases this
    cases ho:ops[k]? with
    |some o=>
     simp only [ho] at h;have hom:o∈ops:=Array.mem_of_getElem? ho;have hkd:CJ P ops k=opk P o.op:=by simp [CJ,ho]
     rw [hkd] at hk2;unfold Mc at h;cases hop:BB P ω (KQ pn e) (e.ev n) o.op with
     |pure r=>
      rw [hop] at h;simp only [chk,Option.isSome_some,Bool.not_true,Bool.false_or,hk2] at h;exact h.elim
     |read R=>
      rw [hop] at h;simp only [chk,Option.isSome_some,Bool.not_true,Bool.false_or,hk2] at h;exact h.elim
     |eff E=>
      rw [hop] at h;simp only [chk,Option.isSome_some,Bool.not_true,Bool.false_or,hk2,Nat.beq_refl,if_true] at h;unfold Bv;simp only [ho,hw k o ho,if_true];unfold wpR;refine Ir (fun v w' I0 L0 hs0 hgg=>?_) (fun v w' I0 L0 hs0 hp=>⟨e,v,I0,L0,hr.defers,rfl,hs0,hp⟩) (Nh hr hop hs h);obtain ⟨I',L',hs',hk'⟩:=Rm hs0 hgg;simp only [kp] at hk';split at hk'
      ·exact ⟨fun _=>⟨I',L',hs',hk'.1⟩,JS hI hg f _ _ _ w' I' L' (hI _ o _ hom hv) (hr.put _ _) hs' (hlt' k) hk'.2⟩
      ·rename_i hn
       exact ⟨fun h=>absurd h hn,JS hI hg f _ _ _ w' I' L' (hI _ o _ hom hv) (hr.put _ _) hs' (hlt' k) hk'⟩
     |no=>rw [hop] at h;exact h.elim
    |none=>simp only [ho] at h;exact h.elim
theorem AER {ops:Array Oper}(hdep:∀i o,ops[i]? =some o→∀e∈o.after,Region.binds .any e=true→e.on < i):∀(f i j:Nat),reach ops f i j=true→j < i
 |0,_,_,h=>by simp [reach] at h
 |f+1,i,j,h=>by
  simp only [reach] at h;cases ho:ops[i]? with
  |none=>rw [ho] at h;simp at h
  |some o=>
   rw [ho] at h;simp only at h
   obtain ⟨e,he,hb⟩:=Array.any_eq_true'.1 h;simp only [Bool.and_eq_true,Bool.or_eq_true] at hb;have hlt:=hdep i o ho e he hb.1;rcases hb.2 with hb|hb
   ·have:=Nat.eq_of_beq_eq_true hb;omega
   ·have:=hb.1;simp [Nat.blt_eq] at this;omega
theorem HC {ops:Array Oper}{listed:Array Bool}(hdc:∀k,listed.getD k false=true→∀o,ops[k]? =some o→∀e∈o.after,Region.binds .any e=true→listed.getD e.on false=true):
  ∀(f i j:Nat),(∀o,ops[i]? =some o→∀e∈o.after,Region.binds .any e=true→listed.getD e.on false=true)→reach ops f i j=true→listed.getD j false=true
 |0,_,_,_,h=>by simp [reach] at h
 |f+1,i,j,hi,h=>by
  simp only [reach] at h;cases ho:ops[i]? with
  |none=>rw [ho] at h;simp at h
  |some o=>
   rw [ho] at h;simp only at h
   obtain ⟨e,he,hb⟩:=Array.any_eq_true'.1 h;simp only [Bool.and_eq_true,Bool.or_eq_true] at hb;have hl:=hi o ho e he hb.1;rcases hb.2 with hb|hb
   ·have:=Nat.eq_of_beq_eq_true hb;rw [←this];exact hl
   ·exact HC hdc f e.on j (fun o' ho'=>hdc e.on hl o' ho') hb.2
theorem Yi {PQ:List PanicEntry→List Deferred→World→Prop}{ops:Array Oper}(h:Qr P ops=true)(hpan:(∀c ds w,¬PQ c ds w)∨AKw P ops=true):SerOk PQ ops (CJ P ops) (KY P ops) (fun i j=>reach ops ops.size i j):=by
 unfold Qr at h;simp only [Bool.and_eq_true,List.all_eq_true,List.mem_range] at h;obtain ⟨hsel,hall⟩:=h;have hdep:∀i o,ops[i]? =some o→∀e∈o.after,Region.binds .any e=true→e.on < i:=by
  intro i o ho e he hb;have:=hall i (Array.getElem?_eq_some_iff.1 ho).1;rw [ho] at this;simp only [Bool.and_eq_true,Array.all_eq_true_iff_forall_mem] at this;have h1:=this.1 e he;rw [hb] at h1;simpa [Nat.blt_eq] using h1
 refine ⟨hpan.imp id (fun hp i j hji hi hk hk2=>?_),Region.noSelect_spec hsel,hdep,fun i j oi oj hji hi hj=>?_,fun i j hr=>AER hdep _ _ _ hr,fun i j hi hj hk hne hr=>?_⟩
 ·unfold AKw at hp;simp only [List.all_eq_true,List.mem_range,Bool.or_eq_true,Bool.not_eq_true'] at hp;rcases hp i hi j hji with (h1|h1)|h1
  ·exact absurd (Nat.eq_of_beq_eq_true h1) hk
  ·rw [hk2] at h1;simp at h1
  ·exact h1
 ·have:=hall i (Array.getElem?_eq_some_iff.1 hi).1;rw [hi] at this;simp only [Bool.and_eq_true,List.all_eq_true,List.mem_range] at this;have h1:=this.2 j hji;rw [hj] at h1;simp only [Bool.or_eq_true,Bool.and_eq_true] at h1;rcases h1 with h1|h1
  ·exact .inl h1
  ·refine .inr ⟨h1.1.1,h1.1.2,?_⟩;rintro ⟨k1,k2⟩;simp only [CJ,hi] at k1;simp only [CJ,hj] at k2;rw [k1,k2] at h1;simp at h1
 ·unfold KY;simp only [List.any_eq_true,List.mem_range,Bool.and_eq_true,Bool.not_eq_true'];refine ⟨j,hj,⟨by rw [hk];rfl,?_⟩,hr⟩;cases hb:Nat.beq i j with
  |false=>rfl
  |true=>exact absurd (Nat.eq_of_beq_eq_true hb) hne
theorem ALP {ops:Array Oper}(h:ALQ ops=true):SerGOk ops (CJ P ops) (KY P ops) (fun i j=>reach ops ops.size i j)∧∀(i:Nat) o,ops[i]? =some o→o.guard=none:=by
 unfold ALQ at h;simp only [Bool.and_eq_true,List.all_eq_true,List.mem_range] at h;obtain ⟨hsel,hall⟩:=h;have hdep:∀i o,ops[i]? =some o→∀e∈o.after,Region.binds .any e=true→e.on < i:=by
  intro i o ho e he hb;have:=hall i (Array.getElem?_eq_some_iff.1 ho).1;rw [ho] at this;simp only [Bool.and_eq_true,Array.all_eq_true_iff_forall_mem] at this;have h1:=this.1.2 e he;rw [hb] at h1;simpa [Nat.blt_eq] using h1
 refine ⟨⟨Region.noSelect_spec hsel,hdep,fun i j oi oj hji hi hj=>?_,fun i j hi hj hk hne hr=>?_⟩,fun i o ho=>?_⟩
 ·have:=hall i (Array.getElem?_eq_some_iff.1 hi).1;rw [hi] at this;simp only [Bool.and_eq_true,List.all_eq_true,List.mem_range] at this;have h1:=this.2 j hji;rw [hj] at h1;simp only [Bool.or_eq_true,Bool.and_eq_true] at h1;exact h1
 ·unfold KY;simp only [List.any_eq_true,List.mem_range,Bool.and_eq_true,Bool.not_eq_true'];refine ⟨j,hj,⟨by rw [hk];rfl,?_⟩,hr⟩;cases hb:Nat.beq i j with
  |false=>rfl
  |true=>exact absurd (Nat.eq_of_beq_eq_true hb) hne
 ·have:=hall i (Array.getElem?_eq_some_iff.1 ho).1;rw [ho] at this;simp only [Bool.and_eq_true] at this;simpa using this.1.1
theorem Sv {r:Option Nat}{m:Nat}{pn:Pnf}{ops:Array Oper}{K:Env→M}{Q:Exit→Act→World→Prop}{id:Nat}{e:Env}{a:Act}{w:World}{I:Imm}{L:LH}(hm:P.follows .mixedOrders=true)
  {Iv:Act→Prop} (hd:∀o∈ops,okD r o) (hI:∀a o v,o∈ops→Iv a→Iv (a.put o.dst v)) (hv:Iv a) (hQ:∀a w e I L,Iv a→Rep n a e→St ω w I L→K e I L→Q .normal a w) (hP:YN ω pn Q) (hr:Rep n a e) (hs:St ω w I L) (h:Ub P ω pn n ops e K I L):
  (Code.region id ops true).wpIn (Fr r) m P Q a w:=by
 have hQP:∀c a w,PP ω pn c a.defers w→Q (.panic c) a w:=fun c a w ⟨e,v,I,L,h1,h2,h3,h4⟩=>by
  subst h2;exact hP a e w v I L h1 h3 h4
 unfold Ub at h;split at h
 ·rename_i hser
  obtain ⟨S,hS,h⟩:=h;simp only [Bool.and_eq_true,Bool.or_eq_true] at hser;have ok:=Yi (P:=P) (PQ:=PP ω pn) hser.1 (hser.2.imp (fun h=>by
   cases pn with
   |none=>exact fun _ _ _=>PP.none
   |some _=>cases h) (fun h=>h))
  refine NY hm hd ?_;have hs':St ω {w with drawn:=w.drawn+1} I L:=hs.drew (Nat.le_succ _);have hser':=DZ hI ops.toList 0 [] e a _ I L (fun k=>by simp) hv hr (MdOk.none _ _) hs' h;refine XV ok (Sw:=AJZ ω S) (Fin:=YS ω n Iv K) (fun a w ⟨h0,e,I,L,h1,h2,h3⟩=>hQ a w e I L h0 h1 h2 h3) hQP ?_ ops.size (Array.replicate ops.size false) (List.range ops.size) a _ (by simp) (by simp)
   List.pairwise_lt_range (fun i=>?_) (fun k hk=>?_) (fun _=>⟨I,L,hs',hS⟩) ?_
  ·intro listed i hdc hi j hr;obtain ⟨_,o,ho,hdeps⟩:=mem_ready.1 hi;exact HC hdc _ i j (fun o' ho'=>by rw [ho] at ho';simp only [Option.some.injEq] at ho';subst ho';exact hdeps) hr
  ·rw [List.mem_range];constructor
   ·intro hi;exact ⟨hi,by simp [hi]⟩
   ·exact fun h=>h.1
  ·exfalso
   by_cases hk':k < ops.size
   ·simp [hk'] at hk
   ·simp [hk'] at hk
  ·rw [List.range_eq_range'];simpa using hser'
 ·split at h
  ·rename_i hgen
   obtain ⟨S,hS,h⟩:=h;obtain ⟨ok,hg⟩:=ALP (P:=P) hgen;refine NY hm hd ?_;have hs':St ω {w with drawn:=w.drawn+1} I L:=hs.drew (Nat.le_succ _);have hser':=JS hI hg ops.size (List.range ops.size) e a _ I L hv hr hs' (fun i hi=>List.mem_range.1 hi) h;refine SV ok (Sw:=AJZ ω S) (Fin:=YS ω n Iv K) (fun a w ⟨h0,e,I,L,h1,h2,h3⟩=>hQ a w e I L h0 h1 h2 h3) hQP ?_ ops.size (Array.replicate ops.size false) (List.range ops.size) a _ (by simp) (by simp)
    List.pairwise_lt_range (fun i=>?_) (fun k hk=>?_) (fun _=>⟨I,L,hs',hS⟩) hser'
   ·intro listed i hdc hi j hr;obtain ⟨_,o,ho,hdeps⟩:=mem_ready.1 hi;exact HC hdc _ i j (fun o' ho'=>by rw [ho] at ho';simp only [Option.some.injEq] at ho';subst ho';exact hdeps) hr
   ·rw [List.mem_range];constructor
    ·intro hi;exact ⟨hi,by simp [hi]⟩
    ·exact fun h=>h.1
   ·exfalso
    by_cases hk':k < ops.size
    ·simp [hk'] at hk
    ·simp [hk'] at hk
  ·exact h.elim
def Post (ω:Om)(n:Nat)(pn:Pnf)(K:Env→M)(X:Nat→Env→M)(R:Env→M)(S:Act→Prop):Exit→Act→World→Prop
 | .normal,a,w=>S a∧∃e I L,Rep n a e∧St ω w I L∧K e I L
 | .exit id,a,w=>S a∧∃e I L,Rep n a e∧St ω w I L∧X id e I L
 | .ret,a,w=>S a∧∃e I L,Rep n a e∧St ω w I L∧R e I L
 | .panic c,a,w=>PP ω pn c a.defers w
 |_,_,_=>False
structure Same (l:List Nat)(pl:Bool)(a a':Act):Prop where
 tm:∀t,Ic t l=false→a'.tmps.getD t undef=a.tmps.getD t undef
 df:pl=true→a'.defers=a.defers
theorem memB_mem {t:Nat}:∀{l:List Nat},Ic t l=true↔t∈l
 |[]=>by simp [Ic]
 |x::xs=>by
  simp only [Ic,Bool.or_eq_true,List.mem_cons,memB_mem (l:=xs)];constructor
  ·rintro (h|h)
   ·exact .inl (Nat.eq_of_beq_eq_true h)
   ·exact .inr h
  ·rintro (h|h)
   ·subst h;exact .inl (Nat.beq_refl _)
   ·exact .inr h
theorem Kq {n:Nat}{a:Act}{e:Env}(hr:Rep n a e):∀(ss:List Nat) (s:Tup ss),Va e ss=some s→∀(e0:Env),Rep n a e0→a.defers=dfs e0.df→Rep n a (ADj e0 ss s)
 |[],_,_,e0,h0,_=>h0
 |t::ss,s,h,e0,h0,hd0=>by
  simp only [Va] at h;split at h
  ·cases h
  ·rename_i v hv
   split at h
   ·cases h
   ·rename_i r hrr
    injection h with h'
    subst h';have ih:=Kq hr ss r hrr e0 h0 hd0;refine ⟨ih.size,ih.defers,fun t' v' ht' hv'=>?_⟩;simp only [ADj,Env.upd] at hv';split at hv'
    ·rename_i hb
     have:=Nat.eq_of_beq_eq_true hb;subst this;simp only [Option.some.injEq] at hv';subst hv';exact hr.at' t' _ ht' hv
    ·exact ih.at' t' v' ht' hv'
theorem Rep.weaken {n:Nat}{a:Act}{e e':Env}(h:Rep n a e)(hle:∀t v,e'.t t=some v→e.t t=some v)(hd:e'.df=e.df):Rep n a e':=
 ⟨h.size,by rw [hd];exact h.defers,fun t v ht hv=>h.at' t v ht (hle t v hv)⟩
theorem ALY (e:Env)(l:List Nat):∀t v,(clr e l).t t=some v→e.t t=some v:=by
 intro t v h;unfold clr at h;simp only at h
 split at h
 ·cases h
 ·exact h
theorem Same.refl (l:List Nat)(pl:Bool)(a:Act):Same l pl a a:=⟨fun _ _=>rfl,fun _=>rfl⟩
theorem LL {t:Nat}{l l':List Nat}:Ic t (l++l')=false→Ic t l=false∧Ic t l'=false:=by
 intro h;constructor
 ·cases hb:Ic t l with
  |false=>rfl
  |true=>rw [memB_mem.2 (List.mem_append_left _ (memB_mem.1 hb))] at h;cases h
 ·cases hb:Ic t l' with
  |false=>rfl
  |true=>rw [memB_mem.2 (List.mem_append_right _ (memB_mem.1 hb))] at h;cases h
theorem Same.trans {l:List Nat}{pl:Bool}{a b c:Act}(h:Same l pl a b)(h':Same l pl b c):Same l pl a c:=⟨fun t ht=>(h'.tm t ht).trans (h.tm t ht),fun hp=>(h'.df hp).trans (h.df hp)⟩
theorem Same.left {l l':List Nat}{p p':Bool}{a b:Act}(h:Same l p a b):Same (l++l') (p&&p') a b:=⟨fun t ht=>h.tm t (LL ht).1,fun hp=>h.df (by simp at hp;exact hp.1)⟩
theorem Same.right {l l':List Nat}{p p':Bool}{a b:Act}(h:Same l' p' a b):Same (l++l') (p&&p') a b:=⟨fun t ht=>h.tm t (LL ht).2,fun hp=>h.df (by simp at hp;exact hp.2)⟩
theorem Same.any {l:List Nat}{p:Bool}{a b:Act}(h:Same l true a b):Same l p a b:=⟨h.tm,fun _=>h.df rfl⟩
theorem ADo {l:List Nat}{pl:Bool}{a b:Act}(h:Same l pl a b){d:Option Tmp}{v:Value}(hd:∀t,d=some t→Ic t l=true):Same l pl a (b.put d v):=by
 refine ⟨fun t ht=>?_,fun hp=>?_⟩
 ·cases d with
  |none=>exact h.tm t ht
  |some d=>
   have hne:d≠t:=fun e=>by subst e;rw [hd d rfl] at ht;cases ht
   rw [←h.tm t ht];simp only [Act.put,Array.getD_eq_getD_getElem?];rw [Array.getElem?_setIfInBounds_ne hne]
 ·cases d with
  |none=>exact h.df hp
  |some d=>exact h.df hp
theorem Nv:∀(l:List Oper) (o:Oper) (t:Nat),o∈l→o.dst=some t→Ic t (JM l)=true
 |[],_,_,h,_=>by cases h
 |x::l,o,t,h,hd=>by
  simp only [JM];rcases List.mem_cons.1 h with h|h
  ·subst h;rw [hd];simp only [Ic,Nat.beq_refl,Bool.true_or]
  ·have:=Nv l o t h hd;split
   ·simp only [Ic,this,Bool.or_true]
   ·exact this
theorem ADi {n:Nat}{l:List Nat}{e:Env}{a a':Act}(hr:Rep n a e)(hsz:a'.tmps.size=n)(hs:Same l true a a'):Rep n a' (clr e l):=by
 refine ⟨hsz,(hs.df rfl).trans hr.defers,fun t v ht hv=>?_⟩;unfold clr at hv;simp only at hv
 split at hv
 ·cases hv
 ·rename_i hm
  rw [hs.tm t (by simpa using hm)];exact hr.at' t v ht hv
theorem VP {F:Fence}{rm:Nat}{Q:Exit→Act→World→Prop}{a:Act}{w:World}{c:Code}(I:Nat→Act→World→Prop)(n₀:Nat)(h₀:I n₀ a w)
  (round:∀n a w,I n a w→c.wpIn F rm P (Exit.then (fun a' w'=>∃n',n' < n∧I n' a' w') Q) a w):(Code.loop c).wpIn F rm P Q a w:=by
 refine wpIn_loop (fun a w=>∃n,I n a w) (fun a w=>leastOf (fun n=>I n a w)) ⟨n₀,h₀⟩ ?_;intro a w hI;refine wpIn_mono (round _ a w (leastOf_spec hI).1) ?_;intro e a' w' hq;cases e with
 |normal=>
  obtain ⟨n',hlt,hI'⟩:=hq;exact show (∃n,I n a' w')∧leastOf (fun n=>I n a' w') < leastOf (fun n=>I n a w) from ⟨⟨n',hI'⟩,Nat.lt_of_le_of_lt ((leastOf_spec ⟨n',hI'⟩).2 n' hI') hlt⟩
 |exit id=>exact hq
 |goto l=>exact hq
 |ret=>exact hq
 |panic ch=>exact hq
 |outgrown=>exact hq
theorem Ij:∀{l:List Oper},Hk l=true→∀o∈l,∀c,o.op≠.defer c
 |[],_,o,h,_=>by cases h
 |x::l,hp,o,h,c=>by
  simp only [Hk,Bool.and_eq_true] at hp;rcases List.mem_cons.1 h with rfl|h
  ·intro e;rw [e] at hp;simp at hp
  ·exact Ij hp.2 o h c
theorem AEe {r:Option Nat}{ops:Array Oper}(h:r=none∨Hk ops.toList=true):∀o∈ops,okD r o:=fun o ho=>h.imp id fun h=>Ij h o (Array.mem_toList_iff.2 ho)
def Ib:Env→List Tmp→List Value→Env
 |e,p::ps,v::vs=>Ib (e.upd (some p) v) ps vs
 |e,_,_=>e
theorem Su:∀{ps:List Tmp} {vs:List Value} {a:Act} {e:Env},Rep n a e→Rep n {tmps:=(ps.zip vs).foldl (fun t (p,v)=>t.setIfInBounds p v) a.tmps,defers:=[]} ((Ib e ps vs).df' [])
 |[],vs,a,e,h=>by
  refine ⟨h.size,rfl,fun t v ht hv=>?_⟩;cases vs <;> exact h.at' t v ht hv
 |p::ps,[],a,e,h=>⟨h.size,rfl,fun t v ht hv=>h.at' t v ht hv⟩
 |p::ps,v::vs,a,e,h=>Su (a:=a.put (some p) v) (e:=e.upd (some p) v) (h.put (some p) v)
theorem YK {I:Imm}{L:LH}{id:Nat}:∀{l:List (Nat×M)},asL l id I L→∃A,(id,A)∈l∧A I L
 |[],h=>h.elim
 |(i,A)::r,h=>by
  simp only [asL] at h;split at h
  ·rename_i hb
   have:=Nat.eq_of_beq_eq_true hb;subst this;exact ⟨A,List.mem_cons_self ..,h⟩
  ·obtain ⟨B,h1,h2⟩:=YK h;exact ⟨B,List.mem_cons_of_mem _ h1,h2⟩
theorem AJF {f:FuncId}(he:Bh P f=true)(args:Array Value)(w:World):(callFunc f args).run P w= .ok (.enter f args) w:=by
 unfold Bh at he;split at he
 ·rename_i fn hf
  simp only [Bool.and_eq_true,bne_iff_ne,ne_eq] at he;have hn : (fn.name == "runtime.NumGoroutine") = false := by simpa using he.1
  have hb:fn.body.isNone=false:=by
   cases hb:fn.body with
   |none=>simp [hb] at he
   |some _=>rfl
  simp only [callFunc,Sem.run_bind,run_program,Result.andThen_ok,hf,hn,hb,Bool.false_eq_true,if_false,Sem.run_pure]
 ·cases he
theorem AAP (hm:P.follows .mixedOrders=true):∀(c:Code) (r:Option Nat) (m:Nat) (pn:Pnf) (K:Env→M) (X:Nat→Env→M) (R:Env→M) (e:Env) (a:Act) (w:World) (I:Imm) (L:LH),
  (r=none∨CS c=true)→Rep n a e→St ω w I L→vc P ω pn n c K X R e I L→c.wpIn (Fr r) m P (Post ω n pn K X R (Same (asg c) (CS c) a)) a w:=by
 intro c;induction c with
 |skip=>exact fun r m pn K X R e a w I L hpl hr hs h=>wpIn_skip ⟨Same.refl _ _ _,e,I,L,hr,hs,h⟩
 |label l=>exact fun r m pn K X R e a w I L hpl hr hs h=>wpIn_label ⟨Same.refl _ _ _,e,I,L,hr,hs,h⟩
 |region id ops draw=>
  intro r m pn K X R e a w I L hpl hr hs h;have hI:∀a' o v,o∈ops→Same (JM ops.toList) true a a'→Same (JM ops.toList) true a (a'.put o.dst v):=
   fun a' o v ho hsm=>ADo hsm fun t ht=>Nv ops.toList o t (Array.mem_toList_iff.2 ho) ht
  have hP:YN ω pn (Post ω n pn K X R (Same (asg (.region id ops draw)) (CS (.region id ops draw)) a)):=fun a e w v I L hd hs hp=>⟨e,v,I,L,hd,rfl,hs,hp⟩;cases draw with
  |false=>exact VC (AEe hpl) hI (Same.refl _ _ _) (fun a w e I L hv hr hs hk=>⟨hv.any,e,I,L,hr,hs,hk⟩) hP hr hs h
  |true=>exact Sv hm (AEe hpl) hI (Same.refl _ _ _) (fun a w e I L hv hr hs hk=>⟨hv.any,e,I,L,hr,hs,hk⟩) hP hr hs h
 |seq x y ihx ihy=>
  intro r m pn K X R e a w I L hpl hr hs h;have hpl':(r=none∨CS x=true)∧(r=none∨CS y=true):=by
   rcases hpl with h|h
   ·exact ⟨.inl h,.inl h⟩
   ·simp only [CS,Bool.and_eq_true] at h;exact ⟨.inr h.1,.inr h.2⟩
  refine wpIn_seq (wpIn_mono (ihx r m pn _ X R e a w I L hpl'.1 hr hs h) ?_);rintro ex a1 w1 hp;cases ex with
  |normal=>
   obtain ⟨hsm,e1,I1,L1,hr1,hs1,h1⟩:=hp;refine wpIn_mono (ihy r m pn K X R e1 a1 w1 I1 L1 hpl'.2 hr1 hs1 h1) ?_;rintro ex2 a2 w2 hp2;cases ex2 with
   |normal=>exact ⟨hsm.left.trans hp2.1.right,hp2.2⟩
   |exit id=>exact ⟨hsm.left.trans hp2.1.right,hp2.2⟩
   |ret=>exact ⟨hsm.left.trans hp2.1.right,hp2.2⟩
   |panic ch=>exact hp2
   |goto l=>exact hp2.elim
   |outgrown=>exact hp2.elim
  |exit id=>exact ⟨hp.1.left,hp.2⟩
  |ret=>exact ⟨hp.1.left,hp.2⟩
  |panic ch=>exact hp
  |goto l=>exact hp.elim
  |outgrown=>exact hp.elim
 |cond c x y ihx ihy=>
  intro r m pn K X R e a w I L hpl hr hs h;have hpl':(r=none∨CS x=true)∧(r=none∨CS y=true):=by
   rcases hpl with h|h
   ·exact ⟨.inl h,.inl h⟩
   ·simp only [CS,Bool.and_eq_true] at h;exact ⟨.inr h.1,.inr h.2⟩
  simp only [vc] at h;cases hv:e.ev n c with
  |none=>rw [hv] at h;exact h.elim
  |some v=>
   rw [hv] at h;simp only at h
   cases v with
   |bool b=>
    refine wpIn_cond (t:=b) (hr.ev hv) ?_;cases b with
    |true=>
     refine wpIn_mono (ihx r m pn K X R e a w I L hpl'.1 hr hs h) ?_;rintro ex a2 w2 hp2;cases ex with
     |normal=>exact ⟨hp2.1.left,hp2.2⟩
     |exit id=>exact ⟨hp2.1.left,hp2.2⟩
     |ret=>exact ⟨hp2.1.left,hp2.2⟩
     |panic ch=>exact hp2
     |goto l=>exact hp2.elim
     |outgrown=>exact hp2.elim
    |false=>
     refine wpIn_mono (ihy r m pn K X R e a w I L hpl'.2 hr hs h) ?_;rintro ex a2 w2 hp2;cases ex with
     |normal=>exact ⟨hp2.1.right,hp2.2⟩
     |exit id=>exact ⟨hp2.1.right,hp2.2⟩
     |ret=>exact ⟨hp2.1.right,hp2.2⟩
     |panic ch=>exact hp2
     |goto l=>exact hp2.elim
     |outgrown=>exact hp2.elim
   |_=>exact h.elim
 |block id c ih=>
  intro r m pn K X R e a w I L hpl hr hs h;refine wpIn_block (wpIn_mono (ih r m pn K _ R e a w I L hpl hr hs h) ?_);rintro ex a1 w1 hp;cases ex with
  |normal=>exact hp
  |exit id'=>
   obtain ⟨hsm,e1,I1,L1,hr1,hs1,h1⟩:=hp;simp only [Exit.inBlock];by_cases hid:id'=id
   ·subst hid;simp only [Nat.beq_refl,if_true] at h1;rw [if_pos rfl];exact ⟨hsm,e1,I1,L1,hr1,hs1,h1⟩
   ·have hb:Nat.beq id' id=false:=by
     cases hb:Nat.beq id' id with
     |false=>rfl
     |true=>exact absurd (Nat.eq_of_beq_eq_true hb) hid
    simp only [hb,Bool.false_eq_true,if_false] at h1;rw [if_neg hid];exact ⟨hsm,e1,I1,L1,hr1,hs1,h1⟩
  |ret=>exact hp
  |panic ch=>exact hp
  |goto l=>exact hp.elim
  |outgrown=>exact hp.elim
 |loop c ih=>
  intro r m pn K X R e a w I L hpl hr hs h;simp only [vc] at h;split at h
  rotate_left
  ·exact h.elim
  rename_i hpc
  simp only [Lp] at h;cases hg:Va e (IY n (asg c) e) with
  |none=>rw [hg] at h;exact h.elim
  |some s0=>
   rw [hg] at h;simp only [onT] at h;obtain ⟨Inv,m0,h0,hround⟩:=h;refine VP (fun k a' w'=>Same (asg c) true a a'∧∃s I' L',Rep n a' (ADj (clr e (asg c)) (IY n (asg c) e) s)∧St ω w' I' L'∧Inv k s I' L') m0
    ⟨Same.refl _ _ _,s0,I,L,Kq hr _ s0 hg _ (hr.weaken (ALY e _) rfl) hr.defers,hs,h0⟩ ?_
   rintro k a1 w1 ⟨hsm,s,I1,L1,hr1,hs1,hinv⟩;refine wpIn_mono (ih r m pn _ X R _ a1 w1 I1 L1 (.inr hpc) hr1 hs1 (hround k s I1 L1 hinv)) ?_;rintro ex a2 w2 hp;cases ex with
   |normal=>
    obtain ⟨hsm2,e2,I2,L2,hr2,hs2,h2⟩:=hp;have hsm2:Same (asg c) true a1 a2:=⟨hsm2.tm,fun _=>hsm2.df hpc⟩;cases hg2:Va e2 (IY n (asg c) e) with
    |none=>rw [hg2] at h2;exact h2.elim
    |some s2=>
     rw [hg2] at h2;obtain ⟨I3,L3,h3,m',hlt,h2⟩:=h2 hs2.cons;exact ⟨m',hlt,hsm.trans hsm2,s2,I3,L3,Kq hr2 _ s2 hg2 _ (ADi hr hr2.size (hsm.trans hsm2)) ((hsm.trans hsm2).df rfl |>.trans hr.defers),h3 ω w2 hs2,h2⟩
   |exit id=>exact ⟨(hsm.any).trans hp.1,hp.2⟩
   |ret=>exact ⟨(hsm.any).trans hp.1,hp.2⟩
   |panic ch=>exact hp
   |goto l=>exact hp.elim
   |outgrown=>exact hp.elim
 |exit id=>exact fun r m pn K X R e a w I L hpl hr hs h=>wpIn_exit ⟨Same.refl _ _ _,e,I,L,hr,hs,h⟩
 |ret=>exact fun r m pn K X R e a w I L hpl hr hs h=>wpIn_ret ⟨Same.refl _ _ _,e,I,L,hr,hs,h⟩
 |scope c _=>exact fun r m pn K X R e a w I L hpl hr hs h=>h.elim
 |goto l=>exact fun r m pn K X R e a w I L hpl hr hs h=>h.elim
 |refuse s=>exact fun r m pn K X R e a w I L hpl hr hs h=>h.elim
 |rangeFunc f ps x y ihx ihy=>
  intro r m pn K X R e a w I L hpl hr hs h;obtain rfl:r=none:=hpl.resolve_right (by simp [CS]);simp only [vc] at h;cases hv:e.ev n f with
  |none=>rw [hv] at h;exact h.elim
  |some fv=>
   rw [hv] at h;simp only at h
   split at h
   rotate_left
   ·exact h.elim
   rename_i hp
   simp only [Bool.and_eq_true] at hp;have hB:∃B:List Value→RB,PG P ω fv ps.size B (fun D=>K (e.df' (.col D::e.df))) (fun D=>(Jq y).map fun id=>(id,X id (e.df' (.col D::e.df)))) (fun D=>R (e.df' (.col D::e.df))) I L∧
     ∀vs,vs.length=ps.size→∀Bg Nk Xk Rk,B vs Bg Nk Xk Rk=vc P ω none n x (fun e2=>Bg (vc P ω none n y (fun _=>Nk) (fun id _=>Xk id) (fun _=>Rk) e2)) (fun _ _=>F) (fun _=>F) ((Ib e ps.toList vs).df' []):=by
    rcases hps:ps.toList with _|⟨p,_|⟨q,_|⟨z,rest⟩⟩⟩
    ·rw [hps] at h;have hsz:ps.size=0:=by rw [←Array.length_toList,hps];rfl
     rw [hsz];refine ⟨_,h,fun vs hl=>?_⟩;obtain rfl:=List.eq_nil_of_length_eq_zero hl;intro _ _ _ _;rfl
    ·rw [hps] at h;have hsz:ps.size=1:=by rw [←Array.length_toList,hps];rfl
     rw [hsz];refine ⟨_,h,fun vs hl=>?_⟩;match vs,hl with
     |[v],_=>intro _ _ _ _;rfl
    ·rw [hps] at h;have hsz:ps.size=2:=by rw [←Array.length_toList,hps];rfl
     rw [hsz];refine ⟨_,h,fun vs hl=>?_⟩;match vs,hl with
     |[v,u],_=>intro _ _ _ _;rfl
    ·rw [hps] at h;exact h.elim
   clear h;obtain ⟨B,h,hB⟩:=hB;unfold PG at h;split at h
   rotate_left
   ·exact h.elim
   rename_i g first cap
   split at h
   rotate_left
   ·exact h.elim
   rename_i hent
   have hev:=hr.ev hv;refine wpIn_rangeFunc ?_;intro fn _;obtain ⟨rec,hrec⟩:∃rec:LoopState→Option Code→Loop,rec=fun s j=>{state:=s,pending:=j,fn,tmps:=a.tmps,params:=ps,assign:=x,body:=y,defers:=w.heap.size}:=⟨_,rfl⟩;have hinj:∀s j s' j',Obj.loop (rec s j)=Obj.loop (rec s' j')→s=s'∧j=j':=by
    intro s j s' j' h;rw [hrec] at h;simp only [Obj.loop.injEq,Loop.mk.injEq] at h;exact ⟨h.1,h.2.1⟩
   have hput:∀{w':World} {I':Imm} {L1 L2:LH} {o o':Obj},St ω w' I' (L1++(w.heap.size+1,o)::L2)→St ω (w'.putObj (w.heap.size+1) o') I' (L1++(w.heap.size+1,o')::L2):=fun h=>HE h;have hcall:=h (w.heap.size+1) w.heap.size (fun s j=>.loop (rec s j)) hinj (by
    intro vs K' I' L' hlen hY;show ANM P ω (w.heap.size+1) (#[]++vs.toArray) K' I' L';rw [Array.empty_append];intro w' hs';obtain ⟨⟨L1,L2,hL⟩,hY⟩:=hY;have hb:w'.heap[w.heap.size+1]? =some (.loop (rec .ready none)):=hs'.own _ _ (by rw [hL];simp);refine ⟨_,_,_,_,run_yield hb (by rw [hrec];simpa using hlen),?_⟩;rw [hB vs hlen] at hY;have hrep:Rep n {tmps:=(Array.zip ps vs.toArray).foldl (fun t (p,v)=>t.setIfInBounds p v) a.tmps,defers:=[]} ((Ib e ps.toList vs).df' []):=by
     have:=Su (ps:=ps.toList) (vs:=vs) hr;rw [←Array.foldl_toList,Array.toList_zip];exact this
    have e1:(rec .ready none).fn=fn:=by rw [hrec]
    have e2:(rec .ready none).params=ps:=by rw [hrec]
    have e3:(rec .ready none).tmps=a.tmps:=by rw [hrec]
    have e4:(rec .ready none).assign=x:=by rw [hrec]
    have e5:(rec .ready none).body=y:=by rw [hrec]
    rw [e1,e2,e3,e4,e5];refine roundIn_of_wpIn (F:=Fence.wide) trivial ?_;refine wpIn_mono (ihx (some (w.heap.size+1)) 0 none _ _ _ _ _ w' I' L' (.inr hp.1) hrep hs' hY) ?_;rintro ex a1 w1 hq;cases ex with
    |normal=>
     obtain ⟨_,e1,I1,L1',hr1,hs1,A1,A2,rfl,hbody⟩:=hq;have hb1:w1.heap[w.heap.size+1]? =some (.loop (rec .ready none)):=hs1.own _ _ (by simp);refine ⟨_,run_beginRound hb1 (by rw [hrec]),?_⟩;have ebusy:({rec .ready none with state:=.busy}:Loop)=rec .busy none:=by rw [hrec]
     rw [ebusy];refine wpIn_mono (ihy (some (w.heap.size+1)) 0 none _ _ _ _ _ _ I1 _ (.inr hp.2) hr1 (hput hs1) hbody) ?_;have fin:∀(j:Option Code) (a2:Act) (w2:World) (e2:Env) (I2:Imm) (L2:LH),St ω w2 I2 L2→Ol (w.heap.size+1) (fun s j=>Obj.loop (rec s j)) j K' I2 L2→
       ∃v w3,(Instr.endRound (w.heap.size+1) j).run P w2= .ok v w3∧Ret ω K' (.returned v) w3:=by
      rintro j a2 w2 e2 I2 _ hs2 ⟨A1,A2,rfl,hk⟩;have hb2:w2.heap[w.heap.size+1]? =some (.loop (rec .busy none)):=hs2.own _ _ (by simp);have er:({rec .busy none with state:=if j.isNone then .ready else .done,pending:=j}:Loop)=rec (if j.isNone then .ready else .done) j:=by rw [hrec]
      refine ⟨_,_,run_endRound j hb2,_,I2,_,rfl,?_,hk⟩;rw [er];exact hput hs2
     rintro ex2 a2 w2 hq2;cases ex2 with
     |normal=>obtain ⟨_,e2,I2,L2,_,hs2,hk⟩:=hq2;exact fin none a2 w2 e2 I2 L2 hs2 hk
     |ret=>obtain ⟨_,e2,I2,L2,_,hs2,hk⟩:=hq2;exact fin (some .ret) a2 w2 e2 I2 L2 hs2 hk
     |exit id=>obtain ⟨_,e2,I2,L2,_,hs2,hk⟩:=hq2;exact fin (some (.exit id)) a2 w2 e2 I2 L2 hs2 hk
     |panic ch=>exact (PP.none hq2).elim
     |goto l=>exact hq2.elim
     |outgrown=>exact hq2.elim
    |exit id=>obtain ⟨_,_,_,_,_,_,hf⟩:=hq;exact hf.elim
    |ret=>obtain ⟨_,_,_,_,_,_,hf⟩:=hq;exact hf.elim
    |panic ch=>exact (PP.none hq).elim
    |goto l=>exact hq.elim
    |outgrown=>exact hq.elim)
   have hst:St ω ((w.alloc (.deferred (some []))).alloc (.loop (rec .ready none))) I ((w.heap.size+1,.loop (rec .ready none))::(w.heap.size,.deferred (some []))::L):=by
    have:=(hs.push (.deferred (some []))).push (.loop (rec .ready none));simp only [Array.size_push] at this;exact this
   let W1:World:=(w.alloc (.deferred (some []))).alloc (.loop {state:=.ready,pending:=none,fn,tmps:=a.tmps,params:=ps,assign:=x,body:=y,defers:=w.heap.size})
   refine ⟨w.heap.size+1,[{target:=.collected w.heap.size,args:=#[]}],W1,{target:=.fn (.func g) cap,args:=first++#[.func (.yield (w.heap.size+1)) #[] #[]]},W1,g,first++#[.func (.yield (w.heap.size+1)) #[] #[]]++cap,W1,run_enterLoop_outer fn a.tmps ps x y,?_,fun _ _=>trivial,?_,fun h=>by simp [Fr,Fence.wide] at h,?_⟩
   ·show (Deferred.ofValue (a.eval f) ((#[Operand.const (.func (.yield (w.heap.size+1)) #[] #[])]:Array Operand).map a.eval)).run P W1=_;rw [hev];simp [Deferred.ofValue,Act.eval]
   ·exact AJF hent _ _
   ·have hc:=hcall _ hst;have hrl:(Loop.mk .ready none fn a.tmps ps x y w.heap.size)=rec .ready none:=by rw [hrec]
    show CallsIn (Fr none) (m - 1) P g _ ((w.alloc (.deferred (some []))).alloc (.loop (Loop.mk .ready none fn a.tmps ps x y w.heap.size))) _;rw [hrl];refine (callsIn_wide (n:=m - 1)).2 (Calls.mono hc ?_);rintro en w3 ⟨v,I0,L0,rfl,hs0,hg⟩;obtain ⟨I3,L3,hs3f,A1,A2,s,j,hnb,rfl,hJ⟩:=hg hs0.cons;have hs3:=hs3f ω w3 hs0;have hb3:w3.heap[w.heap.size+1]? =some (.loop (rec s j)):=hs3.own _ _ (by simp);have hend:=run_endLoop (P:=P) hb3 (by rw [hrec];exact hnb);have ep:(rec s j).pending=j:=by rw [hrec]
    rw [ep] at hend;refine ⟨j,_,hend,?_⟩;have hs4:∀o':Obj,St ω (w3.putObj (w.heap.size+1) o') I3 (A1++A2):=fun o'=>
     (hput hs3).drop (List.Sublist.append_left (List.sublist_cons_self ..) _)
    have hrep:Rep n {a with defers:=[{target:=.collected w.heap.size,args:=#[]}]++a.defers} (e.df' (.col w.heap.size::e.df)):=
     ⟨hr.size,by simp only [Env.df',dfs,List.cons_append,List.nil_append,hr.defers],fun t v ht hv=>hr.at' t v ht hv⟩
    have hsame:Same (asg (.rangeFunc f ps x y)) (CS (.rangeFunc f ps x y)) a {a with defers:=[{target:=.collected w.heap.size,args:=#[]}]++a.defers}:=⟨fun _ _=>rfl,fun h=>by simp [CS] at h⟩;unfold LP at hJ;split at hJ
    ·exact ⟨hsame,_,I3,_,hrep,hs4 _,hJ⟩
    ·rename_i id
     refine wpIn_exit ⟨hsame,_,I3,_,hrep,hs4 _,?_⟩;obtain ⟨A,hA,hAI⟩:=YK hJ;obtain ⟨id',_,hid⟩:=List.mem_map.1 hA;simp only [Prod.mk.injEq] at hid;obtain ⟨rfl,rfl⟩:=hid;exact hAI
    ·exact wpIn_ret ⟨hsame,_,I3,_,hrep,hs4 _,hJ⟩
    ·exact hJ.elim
def FX (tmps:Array Value):ResultVar→Sem Value
 | .tmp t=>pure (tmps.getD t undef)
 | .cell a t=>do loadVar t (←asAddr (tmps.getD a undef))
theorem IK {a:Act}{e:Env}(hr:Rep n a e){w:World}{I:Imm}{L:LH}(hs:St ω w I L):∀(rs:List ResultVar) (K:List Value→M),JR P n e rs K I L→
  ∃vs,(rs.mapM (FX a.tmps)).run P w= .ok vs w∧K vs I L
 |[],K,h=>⟨[],by simp,h⟩
 | .tmp t::rs,K,h=>by
  simp only [JR] at h;cases hv:e.ev n (.tmp t) with
  |none=>rw [hv] at h;exact h.elim
  |some v=>
   rw [hv] at h;obtain ⟨vs,h1,h2⟩:=IK hr hs rs _ h;have hev:=hr.ev hv;simp only [Act.eval] at hev;exact ⟨v::vs,by simp only [List.mapM_cons,Sem.run_bind,Sem.run_pure,Result.andThen_ok,FX,h1,hev],h2⟩
 | .cell t T::rs,K,h=>by
  simp only [JR] at h;cases hv:e.ev n (.tmp t) with
  |none=>rw [hv] at h;exact h.elim
  |some x=>
   rw [hv] at h;cases ht:BU P T with
   |none=>rw [ht] at h;exact h.elim
   |some m=>
    obtain ⟨m,by',z⟩:=m;rw [ht] at h;cases hu:P.underlying T with
    |none=>rw [hu] at h;exact h.elim
    |some d=>
     rw [hu] at h;simp only at h
     have hev:=hr.ev hv;simp only [Act.eval] at hev;split at h
     ·rename_i hag
      obtain ⟨v,hR,h⟩:=h;obtain ⟨vs,h1,h2⟩:=IK hr hs rs _ h;have hl:=LN ht hag hs hR;obtain ⟨b,off,us,rfl,_⟩:=hR;simp only [Instr.loadAt,Instr.sureAddr,Sem.run_bind,Sem.run_pure,Result.andThen_ok] at hl;exact ⟨v::vs,by simp only [List.mapM_cons,Sem.run_bind,Sem.run_pure,Result.andThen_ok,FX,h1,hev,asAddr,hl],h2⟩
     ·rename_i hag
      obtain ⟨v,hR,h⟩:=h;obtain ⟨vs,h1,h2⟩:=IK hr hs rs _ h;have hl:=LM hu (by simpa using hag) hs hR;obtain ⟨b,off,rfl,_⟩:=hR;simp only [Instr.loadAt,Instr.sureAddr,Sem.run_bind,Sem.run_pure,Result.andThen_ok] at hl;exact ⟨v::vs,by simp only [List.mapM_cons,Sem.run_bind,Sem.run_pure,Result.andThen_ok,FX,h1,hev,asAddr,hl],h2⟩
theorem JE {m:Nat}{fn:Func}{tmps:Array Value}{R:Ending→World→Prop}{u:FrameMode}(hu:u≠.run){A:M}(hA:∀w I L,St ω w I L→A I L→LeavesInM (Fr none) m P fn tmps R [] u w):
  ∀(df:List Df) (w:World) (I:Imm) (L:LH),St ω w I L→fin df A I L→LeavesInM (Fr none) m P fn tmps R (dfs df) u w
 |[],w,I,L,hs,h=>hA w I L hs h
 | .col D::r,w,I,L,hs,h=>by
  obtain ⟨L1,L2,rfl,h⟩:=h;have hb:=hs.own D (.deferred (some [])) (by simp);refine ⟨hu,.inl ⟨D,_,rfl,run_takeDeferred hb,?_⟩⟩;exact JE hu hA r _ I (L1++L2) ((HE hs).drop (List.Sublist.append_left (List.sublist_cons_self ..) _)) h
 | .fn _ _ _::_,w,I,L,hs,h=>h.elim
theorem Tv (hm:P.follows .mixedOrders=true){f:FuncId}{fn:Func}(hf:P.funcs[f]? =some fn){pn:Pnf}{args:List Value}{K Pn:Value→M}{I:Imm}{L:LH}(hpn:∀p,pn=some p→p=fun df v=>SL.fin df (Pn v))(h:AKK P ω pn fn args K I L)
  {w:World} (hs:St ω w I L):Calls P f args.toArray w (UT ω K Pn):=by
 unfold AKK at h;cases hb:fn.body with
 |none=>rw [hb] at h;exact h.elim
 |some c=>
  rw [hb] at h;simp only at h
  split at h
  ·rename_i hle
   have hle:args.length≤fn.ntmps:=by simpa using hle
   refine (callsIn_wide (n:=0)).1 (callsIn_of_wp_marks hf hb trivial (wpIn_mono (AAP hm c none 0 pn _ _ _ _ _ w I L (.inl rfl) (Rep.init args.toArray _ _ fn.ntmps (by simp;omega) (fun t v hv=>by simpa using hv) rfl) hs h) ?_));have fin':∀(a':Act) (w':World) (e:Env) (I':Imm) (L':LH),Rep fn.ntmps a' e→St ω w' I' L'→SL.fin e.df (JR P fn.ntmps e fn.results.toList (fun vs=>K (resV vs))) I' L'→
     LeavesInM Fence.wide 0 P fn a'.tmps (UT ω K Pn) a'.defers .returning w':=by
    intro a' w' e I' L' hr hs' hres;rw [hr.defers];refine JE (m:=0) (by simp) (fun w2 I2 L2 hs2 hres=>?_) e.df w' I' L' hs' hres;obtain ⟨vs,hrun,hk⟩:=IK hr hs2 _ _ hres;show ∃v,(results fn a'.tmps).run P w2= .ok v w2∧UT ω K Pn (.returned v) w2;refine ⟨resV vs,?_,resV vs,I2,L2,hs2,.inl ⟨rfl,hk⟩⟩;have hres':results fn a'.tmps=(do
      let vs ←fn.results.mapM (FX a'.tmps)
      pure (if h:vs.size=1 then vs[0] else .tuple vs)):=by
     unfold results;congr 1
    rw [hres',Array.mapM_eq_mapM_toList];simp only [Sem.run_bind,Sem.run_map,hrun,Result.andThen_ok,Sem.run_pure];congr 1
    unfold resV;match vs with
    |[]=>simp
    |[v]=>simp
    |v::u::r=>simp
   rintro ex a' w' hp;cases ex with
   |normal=>obtain ⟨_,e,I',L',h1,h2,h3⟩:=hp;exact fin' a' w' e I' L' h1 h2 h3
   |ret=>obtain ⟨_,e,I',L',h1,h2,h3⟩:=hp;exact fin' a' w' e I' L' h1 h2 h3
   |exit id=>obtain ⟨_,e,I',L',h1,h2,h3⟩:=hp;exact h3.elim
   |goto l=>exact hp.elim
   |panic ch=>
    obtain ⟨e,v,I',L',hd,rfl,hs',hpp⟩:=hp;show LeavesInM Fence.wide 0 P fn a'.tmps (UT ω K Pn) a'.defers (.panicking _) w';rw [hd];cases pn with
    |none=>exact hpp.elim
    |some p=>
     have:=hpn p rfl;subst this;exact JE (m:=0) (fn:=fn) (tmps:=a'.tmps) (R:=UT ω K Pn) (u:=.panicking [{v,recovered:=false}]) (by simp) (fun w2 I2 L2 hs2 hk=>(show UT ω K Pn (.panicked [{v,recovered:=false}]) w2 from ⟨v,I2,L2,hs2,.inr ⟨rfl,hk⟩⟩)) e.df w' I' L' hs' hpp
   |outgrown=>exact hp.elim
  ·exact h.elim
theorem AE (hm:P.follows .mixedOrders=true){f:FuncId}{fn:Func}(hf:P.funcs[f]? =some fn){args:List Value}{K:Value→M}{I:Imm}{L:LH}(h:vcF P ω fn args K I L):
  Cal P ω f args.toArray K I L:=fun w hs=>Calls.mono (Tv (Pn:=fun _=>F) hm hf (by simp) h hs) fun e w' ⟨v,I',L',hs',hk⟩=>by
 rcases hk with ⟨he,hk⟩|⟨_,hk⟩
 ·exact ⟨v,I',L',he,hs',hk⟩
 ·exact hk.elim
end
section pure
variable (b off k n:Nat)(a c:Int)(t u:Bool)(K:Value→M)(v:Value)
theorem DX:Pv (some v) K=K v:=rfl
theorem AFH:AA k (.pointer (some ⟨b,off,none⟩))=some (.pointer (some ⟨b,off+k,none⟩)):=rfl
theorem AEj (x:Addr):AO (.pointer (some x))=some (.pointer (some x)):=rfl
theorem AEk (f:FuncId)(xs ys:Array Value):AO (.func (.func f) xs ys)=some (.func (.func f) xs ys):=rfl
theorem AEw (x:Option Addr)(l m:Nat):lenV (.slice x l m)=some (.int .i64 l):=rfl
theorem AFa (x:Option Addr)(l m:Nat):Zz (.slice x l m)=some (.int .i64 m):=rfl
theorem AEn (k k':IntKind):AIp (.int k a) (.int k' c)=some (.int k (if c < a then c else a)):=rfl
theorem AEp (k k':IntKind):ALG (.int k a) (.int k' c)=some (.int k (if c > a then c else a)):=rfl
theorem AIu (s:ByteArray):Xp (.string s)=some (.int .i64 s.size):=rfl
theorem AAU (s:ByteArray):AKO (.string s)=some (.string s):=rfl
theorem WB:unV .not (.bool t)=some (.bool !t):=rfl
theorem WC (k:IntKind):unV .neg (.int k a)=some (.int k (k.wrap (0 - a))):=rfl
theorem Xh (x y:Value):Xj (.bool true) x y=some x:=rfl
theorem Xi (x y:Value):Xj (.bool false) x y=some y:=rfl
theorem AJq (vs:Array Value)(i:Nat):exV (.tuple vs) i=vs[i]? :=rfl
theorem AFR (k k':IntKind):He k (.int k' a)=some (.int k (k.wrap a)):=rfl
theorem UO (k:IntKind):AB .add (.int k a) (.int k c)=some (.int k (k.wrap (a+c))):=by simp [AB]
theorem UF (k:IntKind):AB .sub (.int k a) (.int k c)=some (.int k (k.wrap (a - c))):=by simp [AB]
theorem UH (k:IntKind):AB .mul (.int k a) (.int k c)=some (.int k (k.wrap (a * c))):=by simp [AB]
theorem UM (k:IntKind):AB .eql (.int k a) (.int k c)=some (.bool (a==c)):=by simp [AB]
theorem UG (k:IntKind):AB .neq (.int k a) (.int k c)=some (.bool (a != c)):=by simp [AB]
theorem UI (k:IntKind):AB .lss (.int k a) (.int k c)=some (.bool (decide (a < c))):=by simp [AB]
theorem UJ (k:IntKind):AB .leq (.int k a) (.int k c)=some (.bool (decide (a≤c))):=by simp [AB]
theorem UK (k:IntKind):AB .gtr (.int k a) (.int k c)=some (.bool (decide (c < a))):=by simp [AB]
theorem UL (k:IntKind):AB .geq (.int k a) (.int k c)=some (.bool (decide (c≤a))):=by simp [AB]
theorem Oe (k k':IntKind)(h:0≤c):AB .shl (.int k a) (.int k' c)=some (.int k (k.wrap (a * 2 ^ (min c.toNat k.bits)))):=by
 simp only [AB];rw [if_neg (by omega)]
theorem Jy (k k':IntKind)(h:0≤c):AB .shr (.int k a) (.int k' c)=some (.int k (a.fdiv (2 ^ (min c.toNat k.bits)))):=by
 simp only [AB];rw [if_neg (by omega)]
theorem UN (k:IntKind):AB .and (.int k a) (.int k c)=some (.int k (Eb .and k a c)):=by simp [AB]
theorem YH (k:IntKind):AB .or (.int k a) (.int k c)=some (.int k (Eb .or k a c)):=by simp [AB]
theorem UR:Im .eql (.bool t) (.bool u)=some (.bool (t==u)):=rfl
theorem UQ:Im .neq (.bool t) (.bool u)=some (.bool (!(t==u))):=rfl
theorem Jv (x:Addr):BZ .eql (.pointer (some x)) (.pointer none)=some (.bool false):=rfl
theorem Ju (x:Addr):BZ .neq (.pointer (some x)) (.pointer none)=some (.bool true):=rfl
theorem Jx (x:Addr)(l m l' m':Nat):IB .eql (.slice (some x) l m) (.slice none l' m')=some (.bool false):=rfl
theorem Jw (x:Addr)(l m l' m':Nat):IB .neq (.slice (some x) l m) (.slice none l' m')=some (.bool true):=rfl
theorem LY (l m l' m':Nat):IB .eql (.slice none l m) (.slice none l' m')=some (.bool true):=rfl
theorem LX (l m l' m':Nat):IB .neq (.slice none l m) (.slice none l' m')=some (.bool false):=rfl
theorem AFA (k:IntKind)(len cap i:Nat)(h:i < len):ixV n (.slice (some ⟨b,off,none⟩) len cap) (.int k i)=some (.pointer (some ⟨b,off+i * n,none⟩)):=by
 simp only [ixV];rw [if_pos (by omega)];simp
theorem wrap_i64 (h: -9223372036854775808≤a∧a≤9223372036854775807):IntKind.i64.wrap a=a:=IntWalk.i64_in a h
theorem QU (cs:Array Value):Value.cells (.agg cs)=cs:=rfl
end pure
class InL (b:Nat) (L:LH) (o:outParam Obj):Prop where
 mem:(b,o)∈L
instance inRight (b:Nat)(A L:LH)(o:Obj)[h:InL b L o]:InL b (A++L) o:=⟨List.mem_append_right _ h.mem⟩
instance inThere (b:Nat)(x:Nat×Obj)(L:LH)(o:Obj)[h:InL b L o]:InL b (x::L) o:=⟨List.mem_cons_of_mem _ h.mem⟩
instance inHere (b:Nat)(L:LH)(o:Obj):InL b ((b,o)::L) o:=⟨List.mem_cons_self ..⟩
class GetL (l:List Value) (k:Nat) (v:outParam Value):Prop where
 get:l[k]? =some v
instance getThere (x:Value)(l:List Value)(k:Nat)(v:Value)[h:GetL l k v]:GetL (x::l) (k+1) v:=⟨by simpa using h.get⟩
instance getHere (v:Value)(l:List Value):GetL (v::l) 0 v:=⟨rfl⟩
class SetL (l:List Value) (k:Nat) (v:Value) (l':outParam (List Value)):Prop where
 set:l.set k v=l'∧k < l.length
instance setThere (x:Value)(l:List Value)(k:Nat)(v:Value)(l':List Value)[h:SetL l k v l']:SetL (x::l) (k+1) v (x::l'):=
 ⟨by simp [h.set.1],by simpa using h.set.2⟩
instance setHere (x v:Value)(l:List Value):SetL (x::l) 0 v (v::l):=⟨rfl,by simp⟩
class SplitL (X L:LH) (R:outParam LH):Prop where
 perm:L.Perm (X++R)
instance splitRight (X A L R:LH)[h:SplitL X L R]:SplitL X (A++L) (A++R):=⟨(List.Perm.append_left A h.perm).trans (by
 rw [←List.append_assoc,←List.append_assoc];exact List.Perm.append_right R List.perm_append_comm)⟩
instance splitThere (X L R:LH)(y:Nat×Obj)[h:SplitL X L R]:SplitL X (y::L) (y::R):=⟨(List.Perm.cons y h.perm).trans List.perm_middle.symm⟩
instance splitHere (X R:LH):SplitL X (X++R) R:=⟨List.Perm.refl _⟩
class SplitB (x:Nat×Obj) (L:LH) (R:outParam LH):Prop where
 perm:L.Perm (x::R)
instance splitBRight (x:Nat×Obj)(A L R:LH)[h:SplitB x L R]:SplitB x (A++L) (A++R):=⟨(List.Perm.append_left A h.perm).trans List.perm_middle⟩
instance splitBThere (x y:Nat×Obj)(L R:LH)[h:SplitB x L R]:SplitB x (y::L) (y::R):=⟨(List.Perm.cons y h.perm).trans (List.Perm.swap ..)⟩
instance splitBHere (x:Nat×Obj)(R:LH):SplitB x (x::R) R:=⟨List.Perm.refl _⟩
class SubP (L' L:LH):Prop where
 sub:∃R,L.Perm (L'++R)
instance (priority:=50) subRight (L' A L:LH)[h:SubP L' L]:SubP L' (A++L):=by
 obtain ⟨R,hR⟩:=h.sub;exact ⟨A++R,(List.Perm.append_left A hR).trans (by rw [←List.append_assoc,←List.append_assoc];exact List.Perm.append_right R List.perm_append_comm)⟩
instance (priority:=50) subThere (L' L:LH)(y:Nat×Obj)[h:SubP L' L]:SubP L' (y::L):=by
 obtain ⟨R,hR⟩:=h.sub;exact ⟨y::R,(List.Perm.cons y hR).trans List.perm_middle.symm⟩
instance (priority:=40) subNil (L:LH):SubP [] L:=⟨L,List.Perm.refl _⟩
instance subCons (x:Nat×Obj)(L' L R:LH)[h:SplitB x L R][h':SubP L' R]:SubP (x::L') L:=by
 obtain ⟨R',hR⟩:=h'.sub;exact ⟨R',h.perm.trans (List.Perm.cons x hR)⟩
instance subApp (A L' L R:LH)[h:SplitL A L R][h':SubP L' R]:SubP (A++L') L:=by
 obtain ⟨R',hR⟩:=h'.sub;exact ⟨R',h.perm.trans (by rw [List.append_assoc];exact List.Perm.append_left A hR)⟩
instance subSelf (L:LH):SubP L L:=⟨[],by simp⟩
class UpL (b:Nat) (L:LH) (o o':Obj) (L':outParam LH):Prop where
 up:∃L1 L2,L=L1++(b,o)::L2∧L'=L1++(b,o')::L2
instance upRight (b:Nat)(A L:LH)(o o':Obj)(L':LH)[h:UpL b L o o' L']:UpL b (A++L) o o' (A++L'):=by
 obtain ⟨L1,L2,rfl,rfl⟩:=h.up;exact ⟨A++L1,L2,by simp,by simp⟩
instance upThere (b:Nat)(x:Nat×Obj)(L:LH)(o o':Obj)(L':LH)[h:UpL b L o o' L']:UpL b (x::L) o o' (x::L'):=by
 obtain ⟨L1,L2,rfl,rfl⟩:=h.up;exact ⟨x::L1,L2,rfl,rfl⟩
instance upHere (b:Nat)(L:LH)(o o':Obj):UpL b ((b,o)::L) o o' ((b,o')::L):=⟨[],L,rfl,rfl⟩
theorem Cell.own {I:Imm}{L:LH}{b off:Nat}{v:Value}{cs:Array Value}{T:Nat}{fr:Nat×Nat}(hm:(b,Obj.cells cs T fr)∈L)(hv:cs[off]? =some v):Cell I L b off v:=⟨cs,T,fr,.inl hm,hv⟩
theorem Cell.imm {I:Imm}{L:LH}{b off:Nat}{v:Value}{cs:Array Value}{T:Nat}{fr:Nat×Nat}(hm:I b=some (Obj.cells cs T fr))(hv:cs[off]? =some v):Cell I L b off v:=⟨cs,T,fr,.inr hm,hv⟩
theorem Cell.mono {I I':Imm}{L L':LH}{b off:Nat}{v:Value}(h:Cell I L b off v)(hI:Ext I I')(hL:∀x∈L,x∈L'):Cell I' L' b off v:=by
 obtain ⟨cs,T,fr,hm,hv⟩:=h;exact ⟨cs,T,fr,hm.imp (hL _) (hI _ _),hv⟩
section reads
variable {I:Imm}{L:LH}{K:Value→M}{b off n:Nat}{v:Value}
theorem rd1 (h:Cell I L b off v)(hk:K v I L):Rv none (AD (.pointer (some ⟨b,off,none⟩))) K I L:=⟨v,⟨b,off,rfl,h⟩,hk⟩
theorem rdb {l:List Value}{T:Nat}{fr:Nat×Nat}[h:InL b L (.cells l.toArray T fr)][g:GetL l off v](hk:K v I L):Rv none (AD (.pointer (some ⟨b,off,none⟩))) K I L:=
 rd1 (Cell.own h.mem (by simpa using g.get)) hk
theorem rdN {vs:List Value}(hl:vs.length=n)(h:Cells I L b off vs)(hk:K (.agg vs.toArray) I L):Rv none (AH n (.pointer (some ⟨b,off,none⟩))) K I L:=⟨_,⟨b,off,vs,rfl,hl,h,rfl⟩,hk⟩
theorem rdB {l:List Value}{T:Nat}{fr:Nat×Nat}[h:InL b L (.cells l.toArray T fr)](hl:l.length=n)(hk:K (.agg l.toArray) I L):Rv none (AH n (.pointer (some ⟨b,0,none⟩))) K I L:=
 rdN hl (fun j u hu=>Cell.own h.mem (by simpa using hu)) hk
theorem rdP {l:List Value}{T:Nat}{fr:Nat×Nat}[h:InL b L (.cells l.toArray T fr)](vs:List Value)(he:(l.drop off).take n=vs)(hl:vs.length=n)(hk:K (.agg vs.toArray) I L):Rv none (AH n (.pointer (some ⟨b,off,none⟩))) K I L:=
 rdN hl (fun j u hu=>Cell.own h.mem (by
  subst he;rw [List.getElem?_take] at hu;split at hu
  ·rw [List.getElem?_drop] at hu;simpa using hu
  ·cases hu)) hk
variable {S:M}
theorem ANT (h:∀I' L',S I' L'→Cell I' L' b off v)(hk:K v I L):Rv (some S) (AD (.pointer (some ⟨b,off,none⟩))) K I L:=⟨v,fun I' L' hS=>⟨b,off,rfl,h I' L' hS⟩,hk⟩
theorem VG {vs:List Value}(hl:vs.length=n)(h:∀I' L',S I' L'→Cells I' L' b off vs)(hk:K (.agg vs.toArray) I L):Rv (some S) (AH n (.pointer (some ⟨b,off,none⟩))) K I L:=
 ⟨_,fun I' L' hS=>⟨b,off,vs,rfl,hl,h I' L' hS,rfl⟩,hk⟩
end reads
def Stay (I0:Imm)(X:LH):M:=fun I L=>Ext I0 I∧∀x∈X,x∈L
theorem Stay.start (I:Imm)(L:LH):Stay I L I L:=⟨Ext.refl I,fun _ h=>h⟩
section stay
variable {I I0:Imm}{L X:LH}{K:Value→M}{b off n:Nat}{v:Value}
theorem Ah {l:List Value}{T:Nat}{fr:Nat×Nat}[h:InL b X (.cells l.toArray T fr)][g:GetL l off v](hk:K v I L):Rv (some (Stay I0 X)) (AD (.pointer (some ⟨b,off,none⟩))) K I L:=
 ANT (fun I' L' hS=>Cell.own (hS.2 _ h.mem) (by simpa using g.get)) hk
theorem Ai {l:List Value}{T:Nat}{fr:Nat×Nat}[h:InL b X (.cells l.toArray T fr)](hl:l.length=n)(hk:K (.agg l.toArray) I L):Rv (some (Stay I0 X)) (AH n (.pointer (some ⟨b,0,none⟩))) K I L:=
 VG hl (fun I' L' hS j u hu=>Cell.own (hS.2 _ h.mem) (by simpa using hu)) hk
theorem AOv (h:Cell I0 X b off v)(hk:K v I L):Rv (some (Stay I0 X)) (AD (.pointer (some ⟨b,off,none⟩))) K I L:=
 ANT (fun _ _ hS=>h.mono hS.1 hS.2) hk
theorem AOu {vs:List Value}(hl:vs.length=n)(h:Cells I0 X b off vs)(hk:K (.agg vs.toArray) I L):Rv (some (Stay I0 X)) (AH n (.pointer (some ⟨b,off,none⟩))) K I L:=
 VG hl (fun _ _ hS j u hu=>(h j u hu).mono hS.1 hS.2) hk
theorem LO (h1:Ext I0 I)(h2:∀x∈X,x∈L)(hk:K v I L):CU (Stay I0 X) K v I L:=⟨⟨h1,h2⟩,hk⟩
theorem draw {B:M→M}(S:M)(h1:S I L)(h2:B S I L):Ad B I L:=⟨S,h1,h2⟩
end stay
section ghosts
variable {I:Imm}{L:LH}
theorem Cons.ext_put {b:Nat}{o:Obj}(h:Cons I ((b,o)::L)):Ext I (Imm.put I b o):=by
 intro b' o' hb';unfold Imm.put;have:=h.2 b o (List.mem_cons_self ..);rw [if_neg (fun e=>by subst e;rw [this] at hb';cases hb')];exact hb'
theorem Cons.freeze {b:Nat}{o:Obj}(h:Cons I ((b,o)::L)):Cons (Imm.put I b o) L:=by
 refine ⟨(List.nodup_cons.1 h.1).2,fun b' o' hm=>?_⟩;unfold Imm.put;have hn:=(List.nodup_cons.1 h.1).1;rw [if_neg (fun e=>hn (by subst e;exact List.mem_map.2 ⟨(b',o'),hm,rfl⟩))];exact h.2 b' o' (List.mem_cons_of_mem _ hm)
theorem Cons.perm {L':LH}(h:Cons I L)(hp:L.Perm L'):Cons I L':=⟨(hp.map _).nodup_iff.1 h.1,fun b o hb=>h.2 b o (hp.mem_iff.2 hb)⟩
theorem Cons.drop {L':LH}(h:Cons I L)(hs:L'.Sublist L):Cons I L':=⟨h.1.sublist (hs.map _),fun b o hb=>h.2 b o (hs.subset hb)⟩
theorem Gh.done {A:M}(h:A I L):Gh A I L:=fun _=>⟨I,L,fun _ _ h=>h,h⟩
theorem Gh.freeze {A:M}{b:Nat}{o:Obj}(h:Ext I (Imm.put I b o)→Gh A (Imm.put I b o) L):Gh A I ((b,o)::L):=by
 intro hc;obtain ⟨I',L',h1,h2⟩:=h hc.ext_put hc.freeze;exact ⟨I',L',fun ω w hs=>h1 ω w hs.freeze,h2⟩
theorem Gh.perm {A:M}{L':LH}(hp:L.Perm L')(h:Gh A I L'):Gh A I L:=by
 intro hc;obtain ⟨I',L',h1,h2⟩:=h (hc.perm hp);exact ⟨I',L',fun ω w hs=>h1 ω w (hs.perm hp),h2⟩
theorem Gh.drop {A:M}{L':LH}(hp:L'.Sublist L)(h:Gh A I L'):Gh A I L:=by
 intro hc;obtain ⟨I',L',h1,h2⟩:=h (hc.drop hp);exact ⟨I',L',fun ω w hs=>h1 ω w (hs.drop hp),h2⟩
theorem Gh.to {A:M}(L':LH)[hs:SubP L' L](h:Gh A I L'):Gh A I L:=by
 obtain ⟨R,hR⟩:=hs.sub;exact Gh.perm hR (Gh.drop (List.sublist_append_left L' R) h)
theorem Gh.mono {A B:M}(h:Gh A I L)(hab:∀I' L',A I' L'→B I' L'):Gh B I L:=by
 intro hc;obtain ⟨I',L',h1,h2⟩:=h hc;exact ⟨I',L',h1,hab _ _ h2⟩
end ghosts
section effs
variable {I:Imm}{L L':LH}{K:Value→M}{b off n T:Nat}{v:Value}
theorem AAI (l l':List Value)(k:Nat)(v:Value)(h:l.set k v=l'):wr l.toArray k [v]=l'.toArray:=by
 simp [wr,h]
theorem st1 {l l':List Value}[h:InL b L (.cells l.toArray T (0,0))][g:SetL l off v l'][u:UpL b L (.cells l.toArray T (0,0)) (.cells l'.toArray T (0,0)) L'](hv:v.oneCell'=true)(hk:K undef I L'):
  Sto 1 (.pointer (some ⟨b,off,none⟩)) v (gh K) I L:=by
 obtain ⟨L1,L2,rfl,rfl⟩:=u.up;have hc:v.cells=#[v]:=by cases v <;> first|rfl|simp [Value.oneCell'] at hv
 refine ⟨b,off,l.toArray,T,L1,L2,rfl,by simp [hc],by simp [hc];exact hv,by simp;have:=g.set.2;omega,rfl,?_⟩;rw [hc,AAI l l' off v g.set.1];exact Gh.done hk
theorem AOq {l l':List Value}[h:InL b L (.cells l.toArray T (0,0))][g:SetL l off v l'][u:UpL b L (.cells l.toArray T (0,0)) (.cells l'.toArray T (0,0)) L'](hv:v.oneCell'=true)(hk:Gh (K undef) I L'):
  Sto 1 (.pointer (some ⟨b,off,none⟩)) v (gh K) I L:=by
 obtain ⟨L1,L2,rfl,rfl⟩:=u.up;have hc:v.cells=#[v]:=by cases v <;> first|rfl|simp [Value.oneCell'] at hv
 refine ⟨b,off,l.toArray,T,L1,L2,rfl,by simp [hc],by simp [hc];exact hv,by simp;have:=g.set.2;omega,rfl,?_⟩;rw [hc,AAI l l' off v g.set.1];exact hk
theorem AAJ:∀(vs l:List Value) (off:Nat),off+vs.length=l.length→wr l.toArray off vs=(l.take off++vs).toArray:=by
 intro vs l off h;rw [Vy vs l.toArray off (by simp;omega)];simp [h]
theorem stB {l vs:List Value}[h:InL b L (.cells l.toArray T (0,0))][u:UpL b L (.cells l.toArray T (0,0)) (.cells vs.toArray T (0,0)) L'](hl:vs.length=n)(hl':l.length=n)(h1:∀u∈vs,u.oneCell'=true)(hk:K undef I L'):
  Sto n (.pointer (some ⟨b,0,none⟩)) (.agg vs.toArray) (gh K) I L:=by
 obtain ⟨L1,L2,rfl,rfl⟩:=u.up;refine ⟨b,0,l.toArray,T,L1,L2,rfl,by simp [Value.cells,hl],by simpa [Value.cells] using h1,by simp [hl'],rfl,?_⟩;simp only [Value.cells];rw [AAJ vs l 0 (by omega)];exact Gh.done (by simpa using hk)
theorem AK {vs:List Value}(h:vs.all (·.oneCell')=true):∀u∈vs,u.oneCell'=true:=fun u hu=>List.all_eq_true.1 h u hu
theorem AV {o:Obj}(h:∀b,K (.pointer (some ⟨b,0,none⟩)) I ((b,o)::L)):New o (gh K) I L:=fun b=>Gh.done (h b)
end effs
section calls
variable {P:Program}{ω:Om}{f:FuncId}{args:Array Value}{K:Value→M}{I:Imm}{L:LH}
theorem Cal.gh (h:Cal P ω f args (fun v=>Gh (K v)) I L):Cal P ω f args K I L:=fun w hs=>
 (h w hs).mono fun _ _ ⟨v,_,_,he,hs',hg⟩=>by
  obtain ⟨I2,L2,h1,h2⟩:=hg hs'.cons;exact ⟨v,I2,L2,he,h1 ω _ hs',h2⟩
theorem call (h:Cal P ω f args K I L):Cal P ω f args (SL.gh K) I L:=fun w hs=>
 (h w hs).mono fun _ _ ⟨v,I',L',he,hs',h2⟩=>⟨v,I',L',he,hs',Gh.done h2⟩
theorem Bz (h:Cal P ω f args (fun v=>Gh (K v)) I L):Cal P ω f args (SL.gh K) I L:=h
theorem Cal.to (L':LH)[hs:SubP L' L](h:Cal P ω f args K I L'):Cal P ω f args K I L:=fun w hw=>by
 obtain ⟨R,hR⟩:=hs.sub;exact h w ((hw.perm hR).drop (List.sublist_append_left L' R))
theorem Cal.split (X:LH){R:LH}[h:SplitL X L R](hc:Cal P ω f args K I (X++R)):Cal P ω f args K I L:=fun w hs=>hc w (hs.perm h.perm)
theorem Cal.perm {L':LH}(hp:L.Perm L')(h:Cal P ω f args K I L'):Cal P ω f args K I L:=fun w hs=>h w (hs.perm hp)
theorem Cal.mono {K':Value→M}(h:Cal P ω f args K I L)(hk:∀v I' L',K v I' L'→K' v I' L'):Cal P ω f args K' I L:=fun w hs=>
 (h w hs).mono fun _ _ ⟨v,I',L',he,hs',h2⟩=>⟨v,I',L',he,hs',hk v I' L' h2⟩
theorem loop {σ:Type}{s0:σ}{B:σ→(σ→M)→M}(Inv:Nat→σ→M)(m:Nat)(h0:Inv m s0 I L)
  (h:∀m s I' L',Inv m s I' L'→B s (fun s'=>Gh fun I2 L2=>∃m',m' < m∧Inv m' s' I2 L2) I' L'):An s0 B I L:=⟨Inv,m,h0,h⟩
end calls
end Go.SL
