/- lemmas -/
import Derived.Test.YtkifgfanjcfedaaGreatDoorP1
import Derived.Deep.LoopGhost
import Derived.RangeFuncRecord
import Derived.IntWalk
import GoSem.ClaimJoined
import Derived.Below
import Derived.WideShapes
import Derived.Test.YtkifgfanjcfedaaGreatDoorChecked
set_option maxRecDepth 100000
set_option maxHeartbeats 40000000
set_option linter.unusedVariables false
set_option linter.unusedSimpArgs false
set_option linter.unusedSectionVars false
set_option linter.defProp false
namespace Go.SL
section
variable {P:Program}{ω:Om}{n:Nat}
def ALK (ω:Om)(S:M)(w:World):Prop:=∃I L,St ω w I L∧S I L
def ACr (ω:Om)(n:Nat)(Iv:Act→Prop)(K:Env→M)(a:Act)(w:World):Prop:=Iv a∧∃e I L,Rep n a e∧St ω w I L∧K e I L
def PP (ω:Om)(pn:Pnf)(c:List PanicEntry)(ds:List Deferred)(w:World):Prop:=∃e v I L,ds=dfs e.df∧c=[{v,recovered:=false}]∧St ω w I L∧ALN (Nq pn e) v I L
theorem PP.none {c:List PanicEntry}{ds:List Deferred}{w:World}:¬PP ω none c ds w:=λ⟨_,_,_,_,_,_,_,h⟩=>h
theorem EI {pn:Pnf}{ops:Array Oper}{nd:Nat→Bool}{S:M}{K:Env→M}{Iv:Act→Prop}(hI:∀a o v,o∈ops→Iv a→Iv (a.put o.dst v)):
  ∀(rest:List Oper) (i:Nat) (md:Md) (e:Env) (a:Act) (w:World) (I:Imm) (L:LH),(∀k,rest[k]? =ops[i+k]?)→Iv a→Rep n a e→MdOk n ops md e→St ω w I L→
   Ee P ω pn (some S) nd n ops i md rest e K I L→Ser P (PP ω pn) ops (ALK ω S) (Dj P ops) nd (ACr ω n Iv K) (List.range' i rest.length) a w
 |[],i,md,e,a,w,I,L,_,hv,hr,_,hs,h=>⟨hv,e,I,L,hr,hs,h⟩
 |o::rest,i,md,e,a,w,I,L,hops,hv,hr,hmd,hs,h=>by
  have ho:ops[i]? =some o:=by have:=hops 0;simpa using this.symm
  have hom:o∈ops:=zaP ho;have hops':∀k,rest[k]? =ops[(i+1)+k]? :=λk=>by
   have:=hops (k+1);simp only [zaf] at this;rw [this];congr 1;omega
  have hkd:Dj P ops i=opk P o.op:=by simp [Dj,ho]
  simp only [zh,List.range'_succ];refine ⟨o,ho,?_⟩;obtain ⟨e',hr,hpe,hstep⟩:=Sz hr hmd h;rcases hstep with ⟨hw,md',hmd',h⟩|⟨hw,md',hmd',h⟩|⟨_,hS,_⟩
  rotate_right
  ·cases hS
  ·unfold QT at h;cases hop:Bv P ω (Nq pn e) (e'.ev n) o.op with
   |pure r=>
    rw [hop] at h;simp only [chk,zaQ,zQ,zbm] at h;split at h
    ·rename_i hk
     have hk:=zJ hk;cases r with
     |none=>exact h.elim
     |some v=>
      refine .inr ⟨by rw [hkd,hk];decide,v,.inl ⟨hw,λw' _=>Ia hr hop w'⟩,?_⟩;exact EI hI rest (i+1) md' _ _ w I L hops' (hI _ o _ hom hv) (hr.put _ _) (hmd' v) hs h
    ·exact h.elim
   |read R=>
    rw [hop] at h;simp only [chk,zaQ,zQ,zbm] at h;split at h
    ·rename_i hk
     have hk:=zJ hk;obtain ⟨v,hR,hK⟩:=h;refine .inr ⟨by rw [hkd,hk];decide,v,.inl ⟨hw,λw' hS=>?_⟩,?_⟩
     ·obtain ⟨I',L',hs',hS'⟩:=hS (by rw [hkd,hk]);exact KN hr hop hs' (hR I' L' hS')
     ·exact EI hI rest (i+1) md' _ _ w I L hops' (hI _ o _ hom hv) (hr.put _ _) (hmd' v) hs hK
    ·exact h.elim
   |eff E=>
    rw [hop] at h;simp only [chk,zaQ,zQ,zbm] at h;split at h
    ·rename_i hk
     have hk:=zJ hk;refine .inl ⟨by rw [hkd,hk],?_⟩;unfold DI;simp only [ho,hw,if_true];unfold wpR;refine Iu (λv w' I0 L0 hs0 hg=>?_) (λv w' I0 L0 hs0 hp=>⟨e',v,I0,L0,hr.defers,rfl,hs0,by rw [hpe];exact hp⟩) (Qy hr hop hs h);obtain ⟨I',L',hs',hk'⟩:=NP hs0 hg;simp only [kp] at hk';split at hk'
     ·exact ⟨λ_=>⟨I',L',hs',hk'.1⟩,EI hI rest (i+1) md' _ _ w' I' L' hops' (hI _ o _ hom hv) (hr.put _ _) (hmd' v) hs' hk'.2⟩
     ·rename_i hn
      exact ⟨λh=>absurd h hn,EI hI rest (i+1) md' _ _ w' I' L' hops' (hI _ o _ hom hv) (hr.put _ _) (hmd' v) hs' hk'⟩
    ·exact h.elim
   |no=>rw [hop] at h;exact h.elim
  ·simp only [skM] at h;by_cases hk:Dj P ops i=2
   ·refine .inl ⟨hk,?_⟩;unfold DI;simp only [ho,hw,zt,if_false];rw [hkd] at hk;rw [hk] at h;cases hn:nd i with
    |true=>
     rw [hn] at h;simp only [Nat.beq_refl,Bool.and_self,if_true] at h;exact ⟨λ_=>⟨I,L,hs,h.1⟩,EI hI rest (i+1) md' _ _ w I L hops' (hI _ o _ hom hv) (hr.put _ _) hmd' hs h.2⟩
    |false=>
     rw [hn] at h;simp only [Bool.false_and,zt,if_false] at h;exact ⟨(λh=>absurd h zx),EI hI rest (i+1) md' _ _ w I L hops' (hI _ o _ hom hv) (hr.put _ _) hmd' hs h⟩
   ·refine .inr ⟨hk,undef,.inr ⟨hw,rfl⟩,?_⟩;rw [hkd] at hk;have hb:Nat.beq (opk P o.op) 2=false:=by
     cases hb:Nat.beq (opk P o.op) 2 with
     |false=>rfl
     |true=>exact absurd (zJ hb) hk
    simp only [hb,Bool.and_false,zt,if_false] at h;exact EI hI rest (i+1) md' _ _ w I L hops' (hI _ o _ hom hv) (hr.put _ _) hmd' hs h
theorem Ey {b:Frame}{a:Act}{k:List Item}{cs:List Frame}{w:World}{c:Code}:step P (lone (b.atR a (.code (.scope c)::k)) cs w)= .next (lone (b.atR a (.code c:: .inScope c::k)) cs w):=
 step_lone_go (by simp [stepG,stepG.exec,Frame.atR])
theorem SN {b:Frame}{a:Act}{k:List Item}{cs:List Frame}{w:World}{c:Code}:step P (lone (b.atR a (.inScope c::k)) cs w)= .next (lone (b.atR a k) cs w):=
 step_lone_go (by simp [stepG,stepG.exec,Frame.atR])
theorem YT {F:Fence}{n:Nat}{Q:Exit→Act→World→Prop}{a:Act}{w:World}{c:Code}(h:c.wpIn F n P Q a w)(hq0:∀l a w,¬Q (.goto l) a w):(Code.scope c).wpIn F n P Q a w:=by
 intro b k cs hro hb hr;have h0:(lone (b.atR a (.code (.scope c)::k)) cs w).fenced P F:=fenced_calm hb hr rfl;obtain ⟨e,a₁,w₁,hq,harr⟩:=h b (.inScope c::k) cs hro hb hr;cases e with
 |normal=>exact ⟨.normal,a₁,w₁,hq,.head h0 Ey (StepsIn.trans harr (.one (fenced_calm hb hr rfl) SN))⟩
 |exit id'=>
  have hx:exitTo id' (.inScope c::k)=exitTo id' k:=by simp [exitTo]
  exact ⟨.exit id',a₁,w₁,hq,λk' hk=>.head h0 Ey (harr.1 k' (by rw [hx];exact hk)),
   λhr' hk=>let ⟨k₁,h1,h2⟩:=harr.2 hr' (by rw [hx];exact hk);⟨k₁,h1,.head h0 Ey h2⟩⟩
 |goto l=>exact absurd hq (hq0 _ _ _)
 |ret=>exact ⟨_,a₁,w₁,hq,.of_steps (.one h0 Ey) harr⟩
 |panic ch=>exact ⟨_,a₁,w₁,hq,.of_steps (.one h0 Ey) harr⟩
 |outgrown=>exact ⟨_,a₁,w₁,hq,.of_steps (.one h0 Ey) harr⟩
theorem YO {I:Imm}{L:LH}:∀{Ms:List M} {A:M},ARV Ms I L→A∈Ms→A I L
 |[],_,h,_=>h.elim
 |[B],A,h,hm=>by simp only [zX] at hm;subst hm;exact h
 |B::C::r,A,h,hm=>by
  rcases zZ.1 hm with hm|hm
  ·subst hm;exact h.1
  ·exact YO h.2 hm
theorem rdyB_spec {rc:Nat→Nat→Bool}{i:Nat}{l:List Nat}:AHK rc i l=true↔Rdy rc i l:=by
 simp only [AHK,zaM,zaF,zbd];constructor
 ·intro h j hj hne;rcases h j hj with h|h
  ·exact absurd (zJ h) hne
  ·exact h
 ·intro h j hj;by_cases e:j=i
  ·left;rw [e];exact Nat.beq_refl i
  ·right;exact h j hj e
theorem ADu {ops:Array Oper}{i:Nat}(h:Dj P ops i=2):Fa P ops i=2:=by
 unfold Fa;split
 ·rfl
 ·exact h
theorem ADw {ops:Array Oper}{i:Nat}(h:Fa P ops i≠2)(h1:Dj P ops i=1):Fa P ops i=1:=by
 unfold Fa at h ⊢;split at h
 ·exact absurd rfl h
 ·rename_i hc;rw [if_neg hc];exact h1
theorem ADv {ops:Array Oper}{i:Nat}(h:Fa P ops i=2):Dj P ops i≠0:=by
 unfold Fa at h;split at h
 ·rename_i hc
  simp only [zF] at hc;have:=zJ hc.1;omega
 ·omega
theorem Ir {pn:Pnf}{ops:Array Oper}{nd:Nat→Bool}{rc:Nat→Nat→Bool}{S:M}{K:Env→M}{Iv:Act→Prop}(hI:∀a o v,o∈ops→Iv a→Iv (a.put o.dst v))(hg:∀(i:Nat) o,ops[i]? =some o→o.guard=none):
  ∀(f:Nat) (l:List Nat) (e:Env) (a:Act) (w:World) (I:Imm) (L:LH),Iv a→Rep n a e→St ω w I L→(∀i∈l,i < ops.size)→
   vcG P ω pn S nd (Fa P ops) rc n ops f l e K I L→WE P (PP ω pn) ops (ALK ω S) (Fa P ops) nd rc (ACr ω n Iv K) f l a w
 |0,l,e,a,w,I,L,hv,hr,hs,_,h=>⟨hv,e,I,L,hr,hs,h⟩
 |f+1,l,e,a,w,I,L,hv,hr,hs,hlt,h=>by
  unfold vcG at h;have hlt':∀i,∀j∈l.erase i,j < ops.size:=λi j hj=>hlt j (List.mem_of_mem_erase hj);have hw:∀(i:Nat) (o:Oper),ops[i]? =some o→Region.wanted o (yielded ops a.tmps)=true:=λi o ho=>by simp [Region.wanted,hg i o ho]
  cases hf:l.find? (λi=> !Nat.beq (Fa P ops i) 2&&AHK rc i l) with
  |some i=>
   simp only [hf] at h;have hp:=List.find?_some hf;have hm:=List.mem_of_find?_eq_some hf;simp only [zF,zbd] at hp;have hrd:=rdyB_spec.1 hp.2;have hk2:Fa P ops i≠2:=λe=>by rw [e] at hp;simp at hp
   cases ho:ops[i]? with
   |some o=>
    simp only [ho] at h;have hom:o∈ops:=zaP ho;have hkd:Dj P ops i=opk P o.op:=by simp [Dj,ho]
    unfold QT at h;cases hop:Bv P ω (Nq pn e) (e.ev n) o.op with
    |pure r=>
     rw [hop] at h;simp only [chk,zaQ,zQ,zbm] at h;split at h
     ·cases r with
      |none=>exact h.elim
      |some v=>exact .inl ⟨i,o,v,hm,hk2,hrd,ho,.inl ⟨hw i o ho,λw' _=>Ia hr hop w'⟩,Ir hI hg f _ _ _ w I L (hI _ o _ hom hv) (hr.put _ _) hs (hlt' i) h⟩
     ·exact h.elim
    |read R=>
     rw [hop] at h;simp only [chk,zaQ,zQ,zbm] at h;split at h
     ·rename_i hk
      have hk:=zJ hk;obtain ⟨v,hR,hK⟩:=h;refine .inl ⟨i,o,v,hm,hk2,hrd,ho,.inl ⟨hw i o ho,λw' hS=>?_⟩,Ir hI hg f _ _ _ w I L (hI _ o _ hom hv) (hr.put _ _) hs (hlt' i) hK⟩;obtain ⟨I',L',hs',hS'⟩:=hS (ADw hk2 (by rw [hkd,hk]));exact KN hr hop hs' (hR I' L' hS')
     ·exact h.elim
    |eff E=>
     rw [hop] at h;simp only [chk,zaQ,zQ,zbm] at h;split at h
     ·rename_i hk
      have hk:=zJ hk;exact absurd (ADu (hkd.trans hk)) hk2
     ·exact h.elim
    |no=>rw [hop] at h;exact h.elim
   |none=>simp only [ho] at h;exact h.elim
  |none=>
   simp only [hf] at h;refine .inr ⟨λi hi hrd=>?_,λk hk hrd=>?_⟩
   ·have:=List.find?_eq_none.1 hf i hi;simp only [zF,zbd,not_and,Bool.not_eq_true] at this;cases hb:Nat.beq (Fa P ops i) 2 with
    |true=>exact zJ hb
    |false=>have:=this hb;rw [rdyB_spec.2 hrd] at this;cases this
   ·have h:=YO h (zaz.2 ⟨k,List.mem_filter.2 ⟨hk,rdyB_spec.2 hrd⟩,rfl⟩);have hk2:Fa P ops k=2:=by
     have:=List.find?_eq_none.1 hf k hk;simp only [zF,zbd,not_and,Bool.not_eq_true] at this;cases hb:Nat.beq (Fa P ops k) 2 with
     |true=>exact zJ hb
     |false=>have:=this hb;rw [rdyB_spec.2 hrd] at this;cases this
    cases ho:ops[k]? with
    |some o=>
     simp only [ho] at h;have hom:o∈ops:=zaP ho;have hkd:Dj P ops k=opk P o.op:=by simp [Dj,ho]
     have hk0:=ADv hk2;rw [hkd] at hk0;unfold ALO QT at h;cases hop:Bv P ω (Nq pn e) (e.ev n) o.op with
     |pure r=>
      rw [hop] at h;simp only [chk,zaQ,zQ,zbm] at h;split at h
      ·rename_i hz
       exact absurd (zJ hz) hk0
      ·exact h.elim
     |read R=>
      rw [hop] at h;obtain ⟨v,hR,hK⟩:=h;unfold DI;simp only [ho,hw k o ho,if_true];unfold wpR;rw [KN hr hop hs hR];refine Iu (K:=λv' I0 L0=>v'=v∧kp (some S) (nd k) (λv=>vcG P ω pn S nd (Fa P ops) rc n ops f (l.erase k) (e.upd o.dst v) K) v I0 L0) (Pn:=λ_ _ _=>False) (λv' w' I0 L0 hs0 hgg=>?_) (λ_ _ _ _ _ hp=>hp.elim) (show YM P ω _ _ (.ok (.value v) w) from ⟨I,L,hs,rfl,hK⟩);obtain ⟨rfl,hk'⟩:=hgg;simp only [kp] at hk';split at hk'
      ·exact ⟨λ_=>⟨I0,L0,hs0,hk'.1⟩,Ir hI hg f _ _ _ w' I0 L0 (hI _ o _ hom hv) (hr.put _ _) hs0 (hlt' k) hk'.2⟩
      ·rename_i hn
       exact ⟨λh=>absurd h hn,Ir hI hg f _ _ _ w' I0 L0 (hI _ o _ hom hv) (hr.put _ _) hs0 (hlt' k) hk'⟩
     |eff E=>
      rw [hop] at h;simp only [chk,zaQ,zQ,zbm] at h;split at h
      case isFalse=>exact h.elim
      unfold DI;simp only [ho,hw k o ho,if_true];unfold wpR;refine Iu (λv w' I0 L0 hs0 hgg=>?_) (λv w' I0 L0 hs0 hp=>⟨e,v,I0,L0,hr.defers,rfl,hs0,hp⟩) (Qy hr hop hs h);obtain ⟨I',L',hs',hk'⟩:=NP hs0 hgg;simp only [kp] at hk';split at hk'
      ·exact ⟨λ_=>⟨I',L',hs',hk'.1⟩,Ir hI hg f _ _ _ w' I' L' (hI _ o _ hom hv) (hr.put _ _) hs' (hlt' k) hk'.2⟩
      ·rename_i hn
       exact ⟨λh=>absurd h hn,Ir hI hg f _ _ _ w' I' L' (hI _ o _ hom hv) (hr.put _ _) hs' (hlt' k) hk'⟩
     |no=>rw [hop] at h;exact h.elim
    |none=>simp only [ho] at h;exact h.elim
theorem AHJ {ops:Array Oper}(hdep:∀i o,ops[i]? =some o→∀e∈o.after,Region.binds .any e=true→e.on < i):∀(f i j:Nat),reach ops f i j=true→j < i
 |0,_,_,h=>by simp [reach] at h
 |f+1,i,j,h=>by
  simp only [reach] at h;cases ho:ops[i]? with
  |none=>rw [ho] at h;simp at h
  |some o=>
   rw [ho] at h;simp only at h
   obtain ⟨e,he,hb⟩:=Array.any_eq_true'.1 h;simp only [zF,zaF] at hb;have hlt:=hdep i o ho e he hb.1;rcases hb.2 with hb|hb
   ·have:=zJ hb;omega
   ·have:=hb.1;simp [Nat.blt_eq] at this;omega
theorem Iz {ops:Array Oper}{listed:Array Bool}(hdc:∀k,listed.getD k false=true→∀o,ops[k]? =some o→∀e∈o.after,Region.binds .any e=true→listed.getD e.on false=true):
  ∀(f i j:Nat),(∀o,ops[i]? =some o→∀e∈o.after,Region.binds .any e=true→listed.getD e.on false=true)→reach ops f i j=true→listed.getD j false=true
 |0,_,_,_,h=>by simp [reach] at h
 |f+1,i,j,hi,h=>by
  simp only [reach] at h;cases ho:ops[i]? with
  |none=>rw [ho] at h;simp at h
  |some o=>
   rw [ho] at h;simp only at h
   obtain ⟨e,he,hb⟩:=Array.any_eq_true'.1 h;simp only [zF,zaF] at hb;have hl:=hi o ho e he hb.1;rcases hb.2 with hb|hb
   ·have:=zJ hb;rw [←this];exact hl
   ·exact Iz hdc f e.on j (λo' ho'=>hdc e.on hl o' ho') hb.2
theorem ADN {PQ:List PanicEntry→List Deferred→World→Prop}{ops:Array Oper}(h:VQ P ops=true)(hpan:(∀c ds w,¬PQ c ds w)∨AOD P ops=true):SerOk PQ ops (Dj P ops) (ZL P ops) (λi j=>reach ops ops.size i j):=by
 unfold VQ at h;simp only [zF,zaM,zaI] at h;obtain ⟨hsel,hall⟩:=h;have hdep:∀i o,ops[i]? =some o→∀e∈o.after,Region.binds .any e=true→e.on < i:=by
  intro i o ho e he hb;have:=hall i (zB.1 ho).1;rw [ho] at this;simp only [zF,Array.all_eq_true_iff_forall_mem] at this;have h1:=this.1 e he;rw [hb] at h1;simpa [Nat.blt_eq] using h1
 refine ⟨hpan.imp id (λhp i j hji hi hk hk2=>?_),Region.noSelect_spec hsel,hdep,λi j oi oj hji hi hj=>?_,λi j hr=>AHJ hdep _ _ _ hr,λi j hi hj hk hne hr=>?_⟩
 ·unfold AOD at hp;simp only [zaM,zaI,zaF,zbd] at hp;rcases hp i hi j hji with (h1|h1)|h1
  ·exact absurd (zJ h1) hk
  ·rw [hk2] at h1;simp at h1
  ·exact h1
 ·have:=hall i (zB.1 hi).1;rw [hi] at this;simp only [zF,zaM,zaI] at this;have h1:=this.2 j hji;rw [hj] at h1;simp only [zaF,zF] at h1;rcases h1 with h1|h1
  ·exact .inl h1
  ·refine .inr ⟨h1.1.1,h1.1.2,?_⟩;rintro ⟨k1,k2⟩;simp only [Dj,hi] at k1;simp only [Dj,hj] at k2;rw [k1,k2] at h1;simp at h1
 ·unfold ZL;simp only [List.any_eq_true,zaI,zF,zbd];refine ⟨j,hj,⟨by rw [hk];rfl,?_⟩,hr⟩;cases hb:Nat.beq i j with
  |false=>rfl
  |true=>exact absurd (zJ hb) hne
theorem AOO {ops:Array Oper}(h:AOP ops=true):SerGOk ops (Fa P ops) (AHv P ops) (λi j=>reach ops ops.size i j)∧∀(i:Nat) o,ops[i]? =some o→o.guard=none:=by
 unfold AOP at h;simp only [zF,zaM,zaI] at h;obtain ⟨hsel,hall⟩:=h;have hdep:∀i o,ops[i]? =some o→∀e∈o.after,Region.binds .any e=true→e.on < i:=by
  intro i o ho e he hb;have:=hall i (zB.1 ho).1;rw [ho] at this;simp only [zF,Array.all_eq_true_iff_forall_mem] at this;have h1:=this.1.2 e he;rw [hb] at h1;simpa [Nat.blt_eq] using h1
 refine ⟨⟨Region.noSelect_spec hsel,hdep,λi j oi oj hji hi hj=>?_,λi j hi hj hk hne hr=>?_⟩,λi o ho=>?_⟩
 ·have:=hall i (zB.1 hi).1;rw [hi] at this;simp only [zF,zaM,zaI] at this;have h1:=this.2 j hji;rw [hj] at h1;simp only [zaF,zF] at h1;exact h1
 ·unfold AHv;simp only [List.any_eq_true,zaI,zF,zbd];refine ⟨j,hj,⟨by rw [hk];rfl,?_⟩,hr⟩;cases hb:Nat.beq i j with
  |false=>rfl
  |true=>exact absurd (zJ hb) hne
 ·have:=hall i (zB.1 ho).1;rw [ho] at this;simp only [zF] at this;simpa using this.1.1
theorem XB {r:Option Nat}{m:Nat}{pn:Pnf}{ops:Array Oper}{K:Env→M}{Q:Exit→Act→World→Prop}{id:Nat}{e:Env}{a:Act}{w:World}{I:Imm}{L:LH}(hm:P.follows .mixedOrders=true)
  {Iv Jv:Act→Prop} (hd:∀o∈ops,okD r o) (hI:∀a o v,o∈ops→Iv a→Iv (a.put o.dst v)) (hJ:∀a o v ds,o∈ops→Jv a→Jv (({a with defers:=ds}:Act).put o.dst v)) (hv:Iv a) (hj:Jv a) (hQ:∀a w e I L,Iv a→Rep n a e→St ω w I L→K e I L→Q .normal a w) (hP:ACm ω pn Jv Q) (hr:Rep n a e) (hs:St ω w I L) (h:YU P ω pn n ops e K I L):
  (Code.region id ops true).wpIn (Fr r) m P Q a w:=by
 have hQP:∀c a w,Jv a→PP ω pn c a.defers w→Q (.panic c) a w:=λc a w hj ⟨e,v,I,L,h1,h2,h3,h4⟩=>by
  subst h2;exact hP a e w v I L hj h1 h3 h4
 unfold YU at h;split at h
 ·rename_i hser
  obtain ⟨S,hS,h⟩:=h;simp only [zF,zaF] at hser;have ok:=ADN (P:=P) (PQ:=PP ω pn) hser.1 (hser.2.imp (λh=>by
   cases pn with
   |none=>exact λ_ _ _=>PP.none
   |some _=>cases h) (λh=>h))
  refine Qm hm hd ?_;have hs':St ω {w with drawn:=w.drawn+1} I L:=hs.drew (Nat.le_succ _);have hser':=EI hI ops.toList 0 [] e a _ I L (λk=>by simp) hv hr (MdOk.none _ _) hs' h;refine ACC ok (Sw:=ALK ω S) (Fin:=ACr ω n Iv K) (λa w ⟨h0,e,I,L,h1,h2,h3⟩=>hQ a w e I L h0 h1 h2 h3) hJ hQP ?_ ops.size (Array.replicate ops.size false) (List.range ops.size) a _ hj zy zy
   List.pairwise_lt_range (λi=>?_) (λk hk=>?_) (λ_=>⟨I,L,hs',hS⟩) ?_
  ·intro listed i hdc hi j hr;obtain ⟨_,o,ho,hdeps⟩:=mem_ready.1 hi;exact Iz hdc _ i j (λo' ho'=>by rw [ho] at ho';simp only [zf] at ho';subst ho';exact hdeps) hr
  ·rw [zaI];constructor
   ·intro hi;exact ⟨hi,by simp [hi]⟩
   ·exact λh=>h.1
  ·exfalso
   by_cases hk':k < ops.size
   iterate 2
    ·simp [hk'] at hk
  ·rw [List.range_eq_range'];simpa using hser'
 ·split at h
  ·rename_i hgen
   obtain ⟨S,hS,h⟩:=h;obtain ⟨ok,hg⟩:=AOO (P:=P) hgen;refine Qm hm hd ?_;have hs':St ω {w with drawn:=w.drawn+1} I L:=hs.drew (Nat.le_succ _);have hser':=Ir hI hg ops.size (List.range ops.size) e a _ I L hv hr hs' (λi hi=>zaI.1 hi) h;refine Wq ok (Sw:=ALK ω S) (Fin:=ACr ω n Iv K) (λa w ⟨h0,e,I,L,h1,h2,h3⟩=>hQ a w e I L h0 h1 h2 h3) hJ hQP ?_ ops.size (Array.replicate ops.size false) (List.range ops.size) a _ hj zy zy
    List.pairwise_lt_range (λi=>?_) (λk hk=>?_) (λ_=>⟨I,L,hs',hS⟩) hser'
   ·intro listed i hdc hi j hr;obtain ⟨_,o,ho,hdeps⟩:=mem_ready.1 hi;exact Iz hdc _ i j (λo' ho'=>by rw [ho] at ho';simp only [zf] at ho';subst ho';exact hdeps) hr
   ·rw [zaI];constructor
    ·intro hi;exact ⟨hi,by simp [hi]⟩
    ·exact λh=>h.1
   ·exfalso
    by_cases hk':k < ops.size
    iterate 2
     ·simp [hk'] at hk
  ·exact h.elim
def PnX:Pnx→Env→Value→M
 |none,_,_=>F
 |some p,e,v=>p e v
def PX (ω:Om)(n:Nat)(pn:Pnx)(c:List PanicEntry)(a:Act)(w:World):Prop:=∃e v I L,Rep n a e∧c=[{v,recovered:=false}]∧St ω w I L∧PnX pn e v I L
theorem PX.none {c:List PanicEntry}{a:Act}{w:World}:¬PX ω n none c a w:=λ⟨_,_,_,_,_,_,_,h⟩=>h
def AUt (ω:Om)(n:Nat)(pn:Pnx)(K:Env→M)(X:Nat→Env→M)(R:Env→M)(S:Act→Prop):Exit→Act→World→Prop
 | .normal,a,w=>S a∧∃e I L,Rep n a e∧St ω w I L∧K e I L
 | .exit id,a,w=>S a∧∃e I L,Rep n a e∧St ω w I L∧X id e I L
 | .ret,a,w=>S a∧∃e I L,Rep n a e∧St ω w I L∧R e I L
 | .panic c,a,w=>PX ω n pn c a w
 |_,_,_=>False
structure Same (l:List Nat)(pl:Bool)(a a':Act):Prop where
 tm:∀t,KY t l=false→a'.tmps.getD t undef=a.tmps.getD t undef
 df:pl=true→a'.defers=a.defers
theorem memB_mem {t:Nat}:∀{l:List Nat},KY t l=true↔t∈l
 |[]=>by simp [KY]
 |x::xs=>by
  simp only [KY,zaF,zZ,memB_mem (l:=xs)];constructor
  ·rintro (h|h)
   ·exact .inl (zJ h)
   ·exact .inr h
  ·rintro (h|h)
   ·subst h;exact .inl (Nat.beq_refl _)
   ·exact .inr h
theorem Nv {n:Nat}{a:Act}{e:Env}(hr:Rep n a e):∀(ss:List Nat) (s:Tup ss),ZV e ss=some s→∀(e0:Env),Rep n a e0→a.defers=dfs e0.df→Rep n a (AGh e0 ss s)
 |[],_,_,e0,h0,_=>h0
 |t::ss,s,h,e0,h0,hd0=>by
  simp only [ZV] at h;split at h
  ·cases h
  ·rename_i v hv
   split at h
   ·cases h
   ·rename_i r hrr
    injection h with h'
    subst h';have ih:=Nv hr ss r hrr e0 h0 hd0;refine ⟨ih.size,ih.defers,λt' v' ht' hv'=>?_⟩;simp only [AGh,Env.upd] at hv';split at hv'
    ·rename_i hb
     have:=zJ hb;subst this;simp only [zf] at hv';subst hv';exact hr.at' t' _ ht' hv
    ·exact ih.at' t' v' ht' hv'
theorem Rep.weaken {n:Nat}{a:Act}{e e':Env}(h:Rep n a e)(hle:∀t v,e'.t t=some v→e.t t=some v)(hd:e'.df=e.df):Rep n a e':=
 ⟨h.size,by rw [hd];exact h.defers,λt v ht hv=>h.at' t v ht (hle t v hv)⟩
theorem AOb (e:Env)(l:List Nat):∀t v,(clr e l).t t=some v→e.t t=some v:=by
 intro t v h;unfold clr at h;simp only at h
 split at h
 ·cases h
 ·exact h
theorem Same.refl (l:List Nat)(pl:Bool)(a:Act):Same l pl a a:=⟨λ_ _=>rfl,λ_=>rfl⟩
theorem OM {t:Nat}{l l':List Nat}:KY t (l++l')=false→KY t l=false∧KY t l'=false:=by
 intro h;constructor
 ·cases hb:KY t l with
  |false=>rfl
  |true=>rw [memB_mem.2 (zaq _ (memB_mem.1 hb))] at h;cases h
 ·cases hb:KY t l' with
  |false=>rfl
  |true=>rw [memB_mem.2 (zba _ (memB_mem.1 hb))] at h;cases h
theorem Same.trans {l:List Nat}{pl:Bool}{a b c:Act}(h:Same l pl a b)(h':Same l pl b c):Same l pl a c:=⟨λt ht=>(h'.tm t ht).trans (h.tm t ht),λhp=>(h'.df hp).trans (h.df hp)⟩
theorem Same.left {l l':List Nat}{p p':Bool}{a b:Act}(h:Same l p a b):Same (l++l') (p&&p') a b:=⟨λt ht=>h.tm t (OM ht).1,λhp=>h.df (by simp at hp;exact hp.1)⟩
theorem Same.right {l l':List Nat}{p p':Bool}{a b:Act}(h:Same l' p' a b):Same (l++l') (p&&p') a b:=⟨λt ht=>h.tm t (OM ht).2,λhp=>h.df (by simp at hp;exact hp.2)⟩
theorem Same.any {l:List Nat}{p:Bool}{a b:Act}(h:Same l true a b):Same l p a b:=⟨h.tm,λ_=>h.df rfl⟩
theorem AGl {l:List Nat}{pl:Bool}{a b:Act}(h:Same l pl a b){d:Option Tmp}{v:Value}(hd:∀t,d=some t→KY t l=true):Same l pl a (b.put d v):=by
 refine ⟨λt ht=>?_,λhp=>?_⟩
 ·cases d with
  |none=>exact h.tm t ht
  |some d=>
   have hne:d≠t:=λe=>by subst e;rw [hd d rfl] at ht;cases ht
   rw [←h.tm t ht];simp only [Act.put,zas];rw [zax hne]
 ·cases d with
  |none=>exact h.df hp
  |some d=>exact h.df hp
theorem RI:∀(l:List Oper) (o:Oper) (t:Nat),o∈l→o.dst=some t→KY t (Gf l)=true
 |[],_,_,h,_=>by cases h
 |x::l,o,t,h,hd=>by
  simp only [Gf];rcases zZ.1 h with h|h
  ·subst h;rw [hd];simp only [KY,Nat.beq_refl,Bool.true_or]
  ·have:=RI l o t h hd;split
   ·simp only [KY,this,Bool.or_true]
   ·exact this
theorem AGg {n:Nat}{l:List Nat}{e:Env}{a a':Act}(hr:Rep n a e)(hsz:a'.tmps.size=n)(hs:Same l true a a'):Rep n a' (clr e l):=by
 refine ⟨hsz,(hs.df rfl).trans hr.defers,λt v ht hv=>?_⟩;unfold clr at hv;simp only at hv
 split at hv
 ·cases hv
 ·rename_i hm
  rw [hs.tm t (by simpa using hm)];exact hr.at' t v ht hv
theorem ZR {F:Fence}{rm:Nat}{Q:Exit→Act→World→Prop}{a:Act}{w:World}{c:Code}(I:Nat→Act→World→Prop)(n₀:Nat)(h₀:I n₀ a w)
  (round:∀n a w,I n a w→c.wpIn F rm P (Exit.then (λa' w'=>∃n',n' < n∧I n' a' w') Q) a w):(Code.loop c).wpIn F rm P Q a w:=by
 refine wpIn_loop (λa w=>∃n,I n a w) (λa w=>leastOf (λn=>I n a w)) ⟨n₀,h₀⟩ ?_;intro a w hI;refine wpIn_mono (round _ a w (leastOf_spec hI).1) ?_;intro e a' w' hq;cases e with
 |normal=>
  obtain ⟨n',hlt,hI'⟩:=hq;exact show (∃n,I n a' w')∧leastOf (λn=>I n a' w') < leastOf (λn=>I n a w) from ⟨⟨n',hI'⟩,Nat.lt_of_le_of_lt ((leastOf_spec ⟨n',hI'⟩).2 n' hI') hlt⟩
 |exit id=>exact hq
 |goto l=>exact hq
 |ret=>exact hq
 |panic ch=>exact hq
 |outgrown=>exact hq
theorem IU:∀{l:List Oper},GM l=true→∀o∈l,∀c,o.op≠.defer c
 |[],_,o,h,_=>by cases h
 |x::l,hp,o,h,c=>by
  simp only [GM,zF] at hp;rcases zZ.1 h with rfl|h
  ·intro e;rw [e] at hp;simp at hp
  ·exact IU hp.2 o h c
theorem AHq {r:Option Nat}{ops:Array Oper}(h:r=none∨GM ops.toList=true):∀o∈ops,okD r o:=λo ho=>h.imp id λh=>IU h o (Array.mem_toList_iff.2 ho)
theorem ACd {f:FuncId}(he:Ce P f=true)(args:Array Value)(w:World):(callFunc f args).run P w= .ok (.enter f args) w:=by
 unfold Ce at he;split at he
 ·rename_i fn hf
  simp only [zF,bne_iff_ne,ne_eq] at he;have hn : (fn.name == "runtime.NumGoroutine") = false := by simpa using he.1
  have hb:fn.body.isNone=false:=by
   cases hb:fn.body with
   |none=>simp [hb] at he
   |some _=>rfl
  simp only [callFunc,Sem.run_bind,run_program,Result.andThen_ok,hf,hn,hb,zt,if_false,Sem.run_pure]
 ·cases he
theorem QR (hm:P.follows .mixedOrders=true):∀(c:Code) (r:Option Nat) (m:Nat) (pn:Pnx) (K:Env→M) (X:Nat→Env→M) (R:Env→M) (e:Env) (a:Act) (w:World) (I:Imm) (L:LH),
  (r=none∨Dq c=true)→Rep n a e→St ω w I L→vc P ω pn n c K X R e I L→c.wpIn (Fr r) m P (AUt ω n pn K X R (Same (asg c) (Dq c) a)) a w:=by
 intro c;induction c with
 |skip=>exact λr m pn K X R e a w I L hpl hr hs h=>wpIn_skip ⟨Same.refl _ _ _,e,I,L,hr,hs,h⟩
 |label l=>exact λr m pn K X R e a w I L hpl hr hs h=>wpIn_label ⟨Same.refl _ _ _,e,I,L,hr,hs,h⟩
 |region id ops draw=>
  intro r m pn K X R e a w I L hpl hr hs h;have hI:∀pl a' o v,o∈ops→Same (Gf ops.toList) pl a a'→Same (Gf ops.toList) pl a (a'.put o.dst v):=
   λpl a' o v ho hsm=>AGl hsm λt ht=>RI ops.toList o t (Array.mem_toList_iff.2 ho) ht
  have hsz:∀(a':Act) (o:Oper) (v:Value) (ds:List Deferred),(({a' with defers:=ds}:Act).put o.dst v).tmps.size=a'.tmps.size:=λa' o v ds=>by cases hd:o.dst <;> simp [Act.put]
  have hsz':∀(a':Act) (o:Oper) (v:Value),(a'.put o.dst v).tmps.size=a'.tmps.size:=λa' o v=>hsz a' o v a'.defers;have hP:ACm ω (pnR pn e ops) (λa'=>Same (Gf ops.toList) false a a'∧a'.tmps.size=a.tmps.size) (AUt ω n pn K X R (Same (asg (.region id ops draw)) (Dq (.region id ops draw)) a)):=λa' e1 w v I L hj hd hs hp=>by
   cases pn with
   |none=>exact hp.elim
   |some p=>
    refine ⟨⟨(clr e (Gf ops.toList)).t,e1.df⟩,v,I,L,⟨hj.2.trans hr.size,hd,λt u ht hu=>?_⟩,rfl,hs,hp⟩;unfold clr at hu;simp only at hu
    split at hu
    ·cases hu
    ·rename_i hmm
     rw [hj.1.tm t (by simpa using hmm)];exact hr.at' t u ht hu
  cases draw with
  |false=>
   refine Yv (Iv:=λa'=>Same (Gf ops.toList) (GM ops.toList) a a'∧a'.tmps.size=a.tmps.size) (AHq hpl) (λa' o v ho h=>⟨hI _ a' o v ho h.1,(hsz' a' o v).trans h.2⟩) (λa' o ds ho hdo h=>?_) ⟨Same.refl _ _ _,rfl⟩ (λa w e I L hv hr hs hk=>⟨hv.1,e,I,L,hr,hs,hk⟩)
    (λa' h=>⟨⟨h.1.tm,λh=>by cases h⟩,h.2⟩) hP hr hs h
   have hpf:GM ops.toList=false:=by
    cases hb:GM ops.toList with
    |false=>rfl
    |true=>obtain ⟨c,hc⟩:=hdo;exact absurd hc (IU hb o (Array.mem_toList_iff.2 ho) c)
   refine ⟨⟨λt ht=>?_,λh=>by rw [hpf] at h;cases h⟩,(hsz a' o undef ds).trans h.2⟩;have:=(hI _ a' o undef ho h.1).tm t ht;cases hd:o.dst <;> simp only [hd,Act.put] at this ⊢ <;> exact this
  |true=>
   refine XB (Iv:=Same (Gf ops.toList) true a) hm (AHq hpl) (hI true) (λa' o v ds ho h=>⟨⟨λt ht=>?_,λh=>by cases h⟩,(hsz a' o v ds).trans h.2⟩) (Same.refl _ _ _) ⟨⟨λ_ _=>rfl,λh=>by cases h⟩,rfl⟩ (λa w e I L hv hr hs hk=>⟨hv.any,e,I,L,hr,hs,hk⟩) hP hr hs h;have:=(hI _ a' o v ho h.1).tm t ht;cases hd:o.dst <;> simp only [hd,Act.put] at this ⊢ <;> exact this
 |seq x y ihx ihy=>
  intro r m pn K X R e a w I L hpl hr hs h;have hpl':(r=none∨Dq x=true)∧(r=none∨Dq y=true):=by
   rcases hpl with h|h
   ·exact ⟨.inl h,.inl h⟩
   ·simp only [Dq,zF] at h;exact ⟨.inr h.1,.inr h.2⟩
  refine wpIn_seq (wpIn_mono (ihx r m pn _ X R e a w I L hpl'.1 hr hs h) ?_);rintro ex a1 w1 hp;cases ex with
  |normal=>
   obtain ⟨hsm,e1,I1,L1,hr1,hs1,h1⟩:=hp;refine wpIn_mono (ihy r m pn K X R e1 a1 w1 I1 L1 hpl'.2 hr1 hs1 h1) ?_;rintro ex2 a2 w2 hp2;cases ex2 with
   |normal=>exact ⟨hsm.left.trans hp2.1.right,hp2.2⟩
   |exit id=>exact ⟨hsm.left.trans hp2.1.right,hp2.2⟩
   |ret=>exact ⟨hsm.left.trans hp2.1.right,hp2.2⟩
   |panic ch=>exact hp2
   |goto l=>exact hp2.elim
   |outgrown=>exact hp2.elim
  |exit id=>exact ⟨hp.1.left,hp.2⟩
  |ret=>exact ⟨hp.1.left,hp.2⟩
  |panic ch=>exact hp
  |goto l=>exact hp.elim
  |outgrown=>exact hp.elim
 |cond c x y ihx ihy=>
  intro r m pn K X R e a w I L hpl hr hs h;have hpl':(r=none∨Dq x=true)∧(r=none∨Dq y=true):=by
   rcases hpl with h|h
   ·exact ⟨.inl h,.inl h⟩
   ·simp only [Dq,zF] at h;exact ⟨.inr h.1,.inr h.2⟩
  simp only [vc] at h;cases hv:e.ev n c with
  |none=>rw [hv] at h;exact h.elim
  |some v=>
   rw [hv] at h;simp only at h
   cases v with
   |bool b=>
    refine wpIn_cond (t:=b) (hr.ev hv) ?_;cases b with
    |true=>
     refine wpIn_mono (ihx r m pn K X R e a w I L hpl'.1 hr hs h) ?_;rintro ex a2 w2 hp2;cases ex with
     |normal=>exact ⟨hp2.1.left,hp2.2⟩
     |exit id=>exact ⟨hp2.1.left,hp2.2⟩
     |ret=>exact ⟨hp2.1.left,hp2.2⟩
     |panic ch=>exact hp2
     |goto l=>exact hp2.elim
     |outgrown=>exact hp2.elim
    |false=>
     refine wpIn_mono (ihy r m pn K X R e a w I L hpl'.2 hr hs h) ?_;rintro ex a2 w2 hp2;cases ex with
     |normal=>exact ⟨hp2.1.right,hp2.2⟩
     |exit id=>exact ⟨hp2.1.right,hp2.2⟩
     |ret=>exact ⟨hp2.1.right,hp2.2⟩
     |panic ch=>exact hp2
     |goto l=>exact hp2.elim
     |outgrown=>exact hp2.elim
   |_=>exact h.elim
 |block id c ih=>
  intro r m pn K X R e a w I L hpl hr hs h;refine wpIn_block (wpIn_mono (ih r m pn K _ R e a w I L hpl hr hs h) ?_);rintro ex a1 w1 hp;cases ex with
  |normal=>exact hp
  |exit id'=>
   obtain ⟨hsm,e1,I1,L1,hr1,hs1,h1⟩:=hp;simp only [Exit.inBlock];by_cases hid:id'=id
   ·subst hid;simp only [Nat.beq_refl,if_true] at h1;rw [if_pos rfl];exact ⟨hsm,e1,I1,L1,hr1,hs1,h1⟩
   ·have hb:Nat.beq id' id=false:=by
     cases hb:Nat.beq id' id with
     |false=>rfl
     |true=>exact absurd (zJ hb) hid
    simp only [hb,zt,if_false] at h1;rw [if_neg hid];exact ⟨hsm,e1,I1,L1,hr1,hs1,h1⟩
  |ret=>exact hp
  |panic ch=>exact hp
  |goto l=>exact hp.elim
  |outgrown=>exact hp.elim
 |loop c ih=>
  intro r m pn K X R e a w I L hpl hr hs h;simp only [vc] at h;split at h
  rotate_left
  ·exact h.elim
  rename_i hpc
  simp only [Lp] at h;cases hg:ZV e (KT n (asg c) e) with
  |none=>rw [hg] at h;exact h.elim
  |some s0=>
   rw [hg] at h;simp only [onT] at h;obtain ⟨Inv,m0,h0,hround⟩:=h;refine ZR (λk a' w'=>Same (asg c) true a a'∧∃s I' L',Rep n a' (AGh (clr e (asg c)) (KT n (asg c) e) s)∧St ω w' I' L'∧Inv k s I' L') m0
    ⟨Same.refl _ _ _,s0,I,L,Nv hr _ s0 hg _ (hr.weaken (AOb e _) rfl) hr.defers,hs,h0⟩ ?_
   rintro k a1 w1 ⟨hsm,s,I1,L1,hr1,hs1,hinv⟩;refine wpIn_mono (ih r m pn _ X R _ a1 w1 I1 L1 (.inr hpc) hr1 hs1 (hround k s I1 L1 hinv)) ?_;rintro ex a2 w2 hp;cases ex with
   |normal=>
    obtain ⟨hsm2,e2,I2,L2,hr2,hs2,h2⟩:=hp;have hsm2:Same (asg c) true a1 a2:=⟨hsm2.tm,λ_=>hsm2.df hpc⟩;cases hg2:ZV e2 (KT n (asg c) e) with
    |none=>rw [hg2] at h2;exact h2.elim
    |some s2=>
     rw [hg2] at h2;obtain ⟨I3,L3,h3,m',hlt,h2⟩:=h2 hs2.cons;exact ⟨m',hlt,hsm.trans hsm2,s2,I3,L3,Nv hr2 _ s2 hg2 _ (AGg hr hr2.size (hsm.trans hsm2)) ((hsm.trans hsm2).df rfl |>.trans hr.defers),h3 ω w2 hs2,h2⟩
   |exit id=>exact ⟨(hsm.any).trans hp.1,hp.2⟩
   |ret=>exact ⟨(hsm.any).trans hp.1,hp.2⟩
   |panic ch=>exact hp
   |goto l=>exact hp.elim
   |outgrown=>exact hp.elim
 |exit id=>exact λr m pn K X R e a w I L hpl hr hs h=>wpIn_exit ⟨Same.refl _ _ _,e,I,L,hr,hs,h⟩
 |ret=>exact λr m pn K X R e a w I L hpl hr hs h=>wpIn_ret ⟨Same.refl _ _ _,e,I,L,hr,hs,h⟩
 |scope c ih=>
  intro r m pn K X R e a w I L hpl hr hs h;refine YT (ih r m pn K X R e a w I L hpl hr hs h) ?_;intro l a1 w1 hp;exact hp.elim
 |goto l=>exact λr m pn K X R e a w I L hpl hr hs h=>h.elim
 |refuse s=>exact λr m pn K X R e a w I L hpl hr hs h=>h.elim
 |rangeFunc f ps x y ihx ihy=>exact λr m pn K X R e a w I L hpl hr hs h=>h.elim
def AHI (tmps:Array Value):ResultVar→Sem Value
 | .tmp t=>pure (tmps.getD t undef)
 | .cell a t=>do loadVar t (←asAddr (tmps.getD a undef))
theorem KJ {a:Act}{e:Env}(hr:Rep n a e){w:World}{I:Imm}{L:LH}(hs:St ω w I L):∀(rs:List ResultVar) (K:List Value→M),Gg P n e rs K I L→
  ∃vs,(rs.mapM (AHI a.tmps)).run P w= .ok vs w∧K vs I L
 |[],K,h=>⟨[],by simp,h⟩
 | .tmp t::rs,K,h=>by
  simp only [Gg] at h;cases hv:e.ev n (.tmp t) with
  |none=>rw [hv] at h;exact h.elim
  |some v=>
   rw [hv] at h;obtain ⟨vs,h1,h2⟩:=KJ hr hs rs _ h;have hev:=hr.ev hv;simp only [Act.eval] at hev;exact ⟨v::vs,by simp only [List.mapM_cons,Sem.run_bind,Sem.run_pure,Result.andThen_ok,AHI,h1,hev],h2⟩
 | .cell t T::rs,K,h=>by
  simp only [Gg] at h;cases hv:e.ev n (.tmp t) with
  |none=>rw [hv] at h;exact h.elim
  |some x=>
   rw [hv] at h;cases ht:CJ P T with
   |none=>rw [ht] at h;exact h.elim
   |some m=>
    obtain ⟨m,by',z⟩:=m;rw [ht] at h;cases hu:P.underlying T with
    |none=>rw [hu] at h;exact h.elim
    |some d=>
     rw [hu] at h;simp only at h
     have hev:=hr.ev hv;simp only [Act.eval] at hev;split at h
     ·rename_i hag
      obtain ⟨v,hR,h⟩:=h;obtain ⟨vs,h1,h2⟩:=KJ hr hs rs _ h;have hl:=OQ ht hag hs hR;obtain ⟨b,off,us,rfl,_⟩:=hR;simp only [Instr.loadAt,Instr.sureAddr,Sem.run_bind,Sem.run_pure,Result.andThen_ok] at hl;exact ⟨v::vs,by simp only [List.mapM_cons,Sem.run_bind,Sem.run_pure,Result.andThen_ok,AHI,h1,hev,asAddr,hl],h2⟩
     ·rename_i hag
      obtain ⟨v,hR,h⟩:=h;obtain ⟨vs,h1,h2⟩:=KJ hr hs rs _ h;have hl:=OO hu (by simpa using hag) hs hR;obtain ⟨b,off,rfl,_⟩:=hR;simp only [Instr.loadAt,Instr.sureAddr,Sem.run_bind,Sem.run_pure,Result.andThen_ok] at hl;exact ⟨v::vs,by simp only [List.mapM_cons,Sem.run_bind,Sem.run_pure,Result.andThen_ok,AHI,h1,hev,asAddr,hl],h2⟩
theorem CalD.leaves {f:FuncId}{args:List Value}{fn:Func}{tmps:Array Value}{R:Ending→World→Prop}{cap:List Value}{ds:List Deferred}{K:Value→M}{w:World}{I:Imm}{L:LH}
  (he:Ce P f=true) (h:CalD P ω f (args++cap).toArray (gh K) I L) (hs:St ω w I L)
  (hk:∀v w' I' L',St ω w' I' L'→K v I' L'→LeavesInM Fence.wide 0 P fn tmps R ds .returning w'):
  LeavesInM Fence.wide 0 P fn tmps R ({target:=.fn (.func f) cap.toArray,args:=args.toArray}::ds) .returning w:=by
 refine ⟨by simp,.inr ⟨λh=>by simp [Fence.wide] at h,.func f,cap.toArray,f,(args++cap).toArray,rfl,?_,λ_ _=>trivial,?_⟩⟩
 ·have:=ACd he (args++cap).toArray w;simpa [invoke] using this
 ·refine CallsDIn.mono (h w hs) ?_;rintro e u' w' ⟨rfl,v,I',L',rfl,hs',hg⟩;obtain ⟨I2,L2,hs2,hk2⟩:=NP hs' hg;exact hk v w' I2 L2 hs2 hk2
theorem CalDR.leaves {f:FuncId}{args:List Value}{fn:Func}{tmps:Array Value}{R:Ending→World→Prop}{cap:List Value}{ds:List Deferred}{K:Value→M}{w:World}{I:Imm}{L:LH}{x:Value}
  (he:Ce P f=true) (h:CalDR P ω f (args++cap).toArray x (gh K) I L) (hs:St ω w I L)
  (hk:∀v w' I' L',St ω w' I' L'→K v I' L'→LeavesInM Fence.wide 0 P fn tmps R ds .returning w'):
  LeavesInM Fence.wide 0 P fn tmps R ({target:=.fn (.func f) cap.toArray,args:=args.toArray}::ds) (.panicking [{v:=x,recovered:=false}]) w:=by
 refine ⟨by simp,.inr ⟨λh=>by simp [Fence.wide] at h,.func f,cap.toArray,f,(args++cap).toArray,rfl,?_,λ_ _=>trivial,?_⟩⟩
 ·have:=ACd he (args++cap).toArray w;simpa [invoke] using this
 ·refine CallsDIn.mono (h w hs) ?_;rintro e u' w' ⟨rfl,v,I',L',rfl,hs',hg⟩;obtain ⟨I2,L2,hs2,hk2⟩:=NP hs' hg;exact hk v w' I2 L2 hs2 hk2
theorem JJ {fn:Func}{tmps:Array Value}{R:Ending→World→Prop}{A:M}(hA:∀w I L,St ω w I L→A I L→LeavesInM Fence.wide 0 P fn tmps R [] .returning w):
  ∀(df:List Df) (w:World) (I:Imm) (L:LH),St ω w I L→fin P ω df A I L→LeavesInM Fence.wide 0 P fn tmps R (dfs df) .returning w
 |[],w,I,L,hs,h=>hA w I L hs h
 | .col D::r,w,I,L,hs,h=>by
  obtain ⟨L1,L2,rfl,h⟩:=h;have hb:=hs.own D (.deferred (some [])) zy;refine ⟨by simp,.inl ⟨D,_,rfl,run_takeDeferred hb,?_⟩⟩;exact JJ hA r _ I (L1++L2) ((Le hs).drop (List.Sublist.append_left (List.sublist_cons_self ..) _)) h
 | .fn f cap args::r,w,I,L,hs,h=>by
  simp only [fin] at h;split at h
  ·rename_i he
   exact CalD.leaves he h hs λv w' I' L' hs' hk=>JJ hA r w' I' L' hs' hk
  ·exact h.elim
theorem OW {fn:Func}{tmps:Array Value}{R:Ending→World→Prop}{A B:M}{x:Value}(hA:∀w I L,St ω w I L→A I L→LeavesInM Fence.wide 0 P fn tmps R [] .returning w)
  (hB:∀w I L,St ω w I L→B I L→LeavesInM Fence.wide 0 P fn tmps R [] (.panicking [{v:=x,recovered:=false}]) w):
  ∀(df:List Df) (w:World) (I:Imm) (L:LH),St ω w I L→AKg P ω x df A B I L→LeavesInM Fence.wide 0 P fn tmps R (dfs df) (.panicking [{v:=x,recovered:=false}]) w
 |[],w,I,L,hs,h=>hB w I L hs h
 | .col D::r,w,I,L,hs,h=>by
  obtain ⟨L1,L2,rfl,h⟩:=h;have hb:=hs.own D (.deferred (some [])) zy;refine ⟨by simp,.inl ⟨D,_,rfl,run_takeDeferred hb,?_⟩⟩;exact OW hA hB r _ I (L1++L2) ((Le hs).drop (List.Sublist.append_left (List.sublist_cons_self ..) _)) h
 | .fn f cap args::r,w,I,L,hs,h=>by
  simp only [AKg] at h;split at h
  ·rename_i he
   exact CalDR.leaves he h hs λv w' I' L' hs' hk=>JJ hA r w' I' L' hs' hk
  ·exact h.elim
theorem Jh {fn:Func}{a:Act}{e:Env}(hr:Rep n a e){w:World}{I:Imm}{L:LH}(hs:St ω w I L){K:Value→M}(h:Gg P n e fn.results.toList (λvs=>K (resV vs)) I L):
  ∃v,(results fn a.tmps).run P w= .ok v w∧K v I L:=by
 obtain ⟨vs,hrun,hk⟩:=KJ hr hs _ _ h;refine ⟨resV vs,?_,hk⟩;have hres':results fn a.tmps=(do
   let vs ←fn.results.mapM (AHI a.tmps)
   pure (if h:vs.size=1 then vs[0] else .tuple vs)):=by
  unfold results;congr 1
 rw [hres',Array.mapM_eq_mapM_toList];simp only [Sem.run_bind,Sem.run_map,hrun,Result.andThen_ok,Sem.run_pure];congr 1
 unfold resV;match vs with
 |[]=>simp
 |[v]=>simp
 |v::u::r=>simp
theorem KD (hm:P.follows .mixedOrders=true){f:FuncId}{fn:Func}(hf:P.funcs[f]? =some fn){pn:Option (Value→M)}{args:List Value}{K Pn:Value→M}{I:Imm}{L:LH}(hpn:∀p,pn=some p→p=Pn)(h:ACx P ω pn fn args K I L)
  {w:World} (hs:St ω w I L):Calls P f args.toArray w (AAZ ω K Pn):=by
 unfold ACx at h;cases hb:fn.body with
 |none=>rw [hb] at h;exact h.elim
 |some c=>
  rw [hb] at h;simp only at h
  split at h
  ·rename_i hle
   have hle:args.length≤fn.ntmps:=by simpa using hle
   refine (callsIn_wide (n:=0)).1 (callsIn_of_wp_marks hf hb trivial (wpIn_mono (QR hm c none 0 _ _ _ _ _ _ w I L (.inl rfl) (Rep.init args.toArray _ _ fn.ntmps zu (λt v hv=>by simpa using hv) rfl) hs h) ?_));have hA:∀(a':Act) (e:Env),Rep fn.ntmps a' e→∀(w2:World) (I2:Imm) (L2:LH),St ω w2 I2 L2→Gg P fn.ntmps e fn.results.toList (λvs=>K (resV vs)) I2 L2→
     LeavesInM Fence.wide 0 P fn a'.tmps (AAZ ω K Pn) [] .returning w2:=by
    intro a' e hr w2 I2 L2 hs2 hres;obtain ⟨v,hrun,hk⟩:=Jh hr hs2 hres;exact ⟨v,hrun,v,I2,L2,hs2,.inl ⟨rfl,hk⟩⟩
   have fin':∀(a':Act) (w':World) (e:Env) (I':Imm) (L':LH),Rep fn.ntmps a' e→St ω w' I' L'→SL.fin P ω e.df (Gg P fn.ntmps e fn.results.toList (λvs=>K (resV vs))) I' L'→
     LeavesInM Fence.wide 0 P fn a'.tmps (AAZ ω K Pn) a'.defers .returning w':=by
    intro a' w' e I' L' hr hs' hres;rw [hr.defers];exact JJ (hA a' e hr) e.df w' I' L' hs' hres
   rintro ex a' w' hp;cases ex with
   |normal=>obtain ⟨_,e,I',L',h1,h2,h3⟩:=hp;exact fin' a' w' e I' L' h1 h2 h3
   |ret=>obtain ⟨_,e,I',L',h1,h2,h3⟩:=hp;exact fin' a' w' e I' L' h1 h2 h3
   |exit id=>obtain ⟨_,e,I',L',h1,h2,h3⟩:=hp;exact h3.elim
   |goto l=>exact hp.elim
   |panic ch=>
    obtain ⟨e,v,I',L',hr,rfl,hs',hpp⟩:=hp;show LeavesInM Fence.wide 0 P fn a'.tmps (AAZ ω K Pn) a'.defers (.panicking _) w';rw [hr.defers];cases pn with
    |none=>exact hpp.elim
    |some p=>
     have:=hpn p rfl;subst this;exact OW (hA a' e hr) (λw2 I2 L2 hs2 hk=>(show AAZ ω K p (.panicked [{v,recovered:=false}]) w2 from ⟨v,I2,L2,hs2,.inr ⟨rfl,hk⟩⟩)) e.df w' I' L' hs' hpp
   |outgrown=>exact hp.elim
  ·exact h.elim
theorem AEk (hm:P.follows .mixedOrders=true){f:FuncId}{fn:Func}(hf:P.funcs[f]? =some fn){args:List Value}{K:Value→M}{I:Imm}{L:LH}(h:vcF P ω fn args K I L):
  Cal P ω f args.toArray K I L:=λw hs=>Calls.mono (KD (Pn:=λ_=>F) hm hf zy h hs) λe w' ⟨v,I',L',hs',hk⟩=>by
 rcases hk with ⟨he,hk⟩|⟨_,hk⟩
 ·exact ⟨v,I',L',he,hs',hk⟩
 ·exact hk.elim
theorem AAT (hm:P.follows .mixedOrders=true){f:FuncId}{fn:Func}(hf:P.funcs[f]? =some fn){args:List Value}{K Pn:Value→M}{I:Imm}{L:LH}(h:vcP P ω fn args K Pn I L):
  CalP P ω f args.toArray K Pn I L:=λw hs=>KD hm hf (λp hp=>by simp only [zf] at hp;exact hp.symm) h hs
theorem AAS (hm:P.follows .mixedOrders=true){f:FuncId}{fn:Func}(hf:P.funcs[f]? =some fn){args:List Value}{K:Value→M}{I:Imm}{L:LH}(h:vcQ P ω fn args K I L):
  Cal P ω f args.toArray K I L:=λw hs=>Calls.mono (KD (Pn:=λ_=>F) hm hf (λp hp=>by simpa using hp.symm) h hs) λe w' ⟨v,I',L',hs',hk⟩=>by
 rcases hk with ⟨he,hk⟩|⟨_,hk⟩
 ·exact ⟨v,I',L',he,hs',hk⟩
 ·exact hk.elim
theorem AKx {l:List Df}(h:dfs l=[]):l=[]:=by
 cases l with
 |nil=>rfl
 |cons d r=>cases d <;> simp [dfs] at h
theorem AAU (hm:P.follows .mixedOrders=true){f:FuncId}{fn:Func}(hf:P.funcs[f]? =some fn)(hpl:(match fn.body with
  |some c=>Dq c
  |none=>false)=true) {args:List Value} {K:Value→M} {I:Imm} {L:LH} (h:vcF P ω fn args K I L):CalD P ω f args.toArray K I L:=by
 intro w hs;unfold vcF ACx at h;cases hb:fn.body with
 |none=>rw [hb] at h;exact h.elim
 |some c=>
  rw [hb] at h hpl;simp only at h hpl
  split at h
  ·rename_i hle
   have hle:args.length≤fn.ntmps:=by simpa using hle
   refine callsDIn_of_wp hf hb trivial (wpIn_mono (QR hm c none 0 _ _ _ _ _ _ w I L (.inl rfl) (Rep.init args.toArray _ _ fn.ntmps zu (λt v hv=>by simpa using hv) rfl) hs h) ?_);have fin':∀(a':Act) (w':World) (e:Env) (I':Imm) (L':LH),a'.defers=[]→Rep fn.ntmps a' e→St ω w' I' L'→SL.fin P ω e.df (Gg P fn.ntmps e fn.results.toList (λvs=>K (resV vs))) I' L'→
     a'.defers=[]∧∃v,(results fn a'.tmps).run P w'= .ok v w'∧Ret ω K (.returned v) w':=by
    intro a' w' e I' L' hd hr hs' hres;have hdf:e.df=[]:=AKx (hr.defers.symm.trans hd);rw [hdf] at hres;obtain ⟨v,hrun,hk⟩:=Jh hr hs' hres;exact ⟨hd,v,hrun,v,I',L',rfl,hs',hk⟩
   rintro ex a' w' hp;cases ex with
   |normal=>obtain ⟨hsm,e,I',L',h1,h2,h3⟩:=hp;exact fin' a' w' e I' L' (hsm.df hpl) h1 h2 h3
   |ret=>obtain ⟨hsm,e,I',L',h1,h2,h3⟩:=hp;exact fin' a' w' e I' L' (hsm.df hpl) h1 h2 h3
   |exit id=>obtain ⟨_,e,I',L',h1,h2,h3⟩:=hp;exact h3.elim
   |goto l=>exact hp.elim
   |panic ch=>exact (PX.none hp).elim
   |outgrown=>exact hp.elim
  ·exact h.elim
def PostR (ω:Om)(n:Nat)(K R:Env→M)(cs':List Frame):Exit→Act→List Frame→World→Prop
 | .normal,a,cs,w=>cs=cs'∧a.defers=[]∧∃e I L,Rep n a e∧St ω w I L∧K e I L
 | .ret,a,cs,w=>cs=cs'∧a.defers=[]∧∃e I L,Rep n a e∧St ω w I L∧R e I L
 |_,_,_,_=>False
theorem QM {c:Code}{F:Fence}{m:Nat}{Q Q':Exit→Act→List Frame→World→Prop}{a:Act}{cs:List Frame}{w:World}(h:c.wpSIn F m P Q a cs w)(hq:∀e a cs w,Q e a cs w→Q' e a cs w):c.wpSIn F m P Q' a cs w:=
 λb k hb hr hF hroom=>let ⟨e,a',cs',w',l,q,r⟩:=h b k hb hr hF hroom;⟨e,a',cs',w',l,hq _ _ _ _ q,r⟩
theorem Wx {o:Oper}(h:ANy o.op=true)(ρ:Operand→Value)(w:World):(execOp ρ o).run P w= .ok .recover w:=by
 obtain ⟨dst,op,type,pos,after,guard⟩:=o;unfold ANy at h;split at h
 ·rename_i hop
  simp only at hop
  subst hop;simp [execOp,resolve,invoke,builtin]
 ·cases h
theorem put_defers (a:Act)(d:Option Tmp)(v:Value):(a.put d v).defers=a.defers:=by cases d <;> rfl
theorem OH {ops:Array Oper}{K R:Env→M}{cs:List Frame}:∀(rest:List Oper) (i:Nat) (e:Env) (a:Act) (w:World) (I:Imm) (L:LH),(∀k,rest[k]? =ops[i+k]?)→a.defers=[]→Rep n a e→St ω w I L→
  vcRl.vcRl2 P ω n rest e K I L→wpOpsSIn Fence.wide 0 P ops (PostR ω n K R cs) (List.range' i rest.length) a cs w
 |[],i,e,a,w,I,L,_,hd,hr,hs,h=>⟨rfl,hd,e,I,L,hr,hs,h⟩
 |o::rest,i,e,a,w,I,L,hops,hd,hr,hs,h=>by
  have ho:ops[i]? =some o:=by have:=hops 0;simpa using this.symm
  have hops':∀k,rest[k]? =ops[(i+1)+k]? :=λk=>by
   have:=hops (k+1);simp only [zaf] at this;rw [this];congr 1;omega
  simp only [vcRl.vcRl2] at h;simp only [zh,List.range'_succ,wpOpsSIn,ho];refine ⟨λ_ _=>trivial,?_⟩;cases hg:o.guard with
  |some _=>rw [hg] at h;exact h.elim
  |none=>
   rw [hg] at h;simp only at h
   have hw:Region.wanted o (yielded ops a.tmps)=true:=by simp [Region.wanted,hg]
   rw [hw];simp only [if_true];generalize hop:Bv P ω Option.none (e.ev n) o.op=q at h;cases q with
   |pure r=>
    cases r with
    |none=>exact h.elim
    |some v=>
    rw [Ia hr hop w];exact OH rest (i+1) _ _ w I L hops' ((put_defers a o.dst v).trans hd) (hr.put _ _) hs h
   |read _=>exact h.elim
   |eff _=>exact h.elim
   |no=>exact h.elim
theorem QS {ops:Array Oper}{K R:Env→M}{cs cs':List Frame}{rv:Value}(hrv:recoverD cs=some (rv,cs')∨(recoverD cs=none∧rv= .nilIface∧cs'=cs)):
  ∀(rest:List Oper) (i:Nat) (e:Env) (a:Act) (w:World) (I:Imm) (L:LH),(∀k,rest[k]? =ops[i+k]?)→a.defers=[]→Rep n a e→St ω w I L→
  vcRl P ω rv n rest e K I L→wpOpsSIn Fence.wide 0 P ops (PostR ω n K R cs') (List.range' i rest.length) a cs w
 |[],i,e,a,w,I,L,_,hd,hr,hs,h=>h.elim
 |o::rest,i,e,a,w,I,L,hops,hd,hr,hs,h=>by
  have ho:ops[i]? =some o:=by have:=hops 0;simpa using this.symm
  have hops':∀k,rest[k]? =ops[(i+1)+k]? :=λk=>by
   have:=hops (k+1);simp only [zaf] at this;rw [this];congr 1;omega
  simp only [vcRl] at h;simp only [zh,List.range'_succ,wpOpsSIn,ho];refine ⟨λ_ _=>trivial,?_⟩;cases hg:o.guard with
  |some _=>rw [hg] at h;exact h.elim
  |none=>
   rw [hg] at h;simp only at h
   have hw:Region.wanted o (yielded ops a.tmps)=true:=by simp [Region.wanted,hg]
   rw [hw];simp only [if_true];split at h
   ·rename_i hrec
    rw [Wx hrec];simp only
    have:=OH (P:=P) (ops:=ops) (K:=K) (R:=R) (cs:=cs') rest (i+1) (e.upd o.dst rv) (a.put o.dst rv) w I L hops' ((put_defers a o.dst rv).trans hd) (hr.put _ _) hs h;rcases hrv with hrv|⟨hrv,rfl,rfl⟩
    iterate 2
     ·rw [hrv];exact this
   ·generalize hop:Bv P ω Option.none (e.ev n) o.op=q at h;cases q with
    |pure r=>
     cases r with
     |none=>exact h.elim
     |some v=>
     rw [Ia hr hop w];exact QS hrv rest (i+1) _ _ w I L hops' ((put_defers a o.dst v).trans hd) (hr.put _ _) hs h
    |read _=>exact h.elim
    |eff _=>exact h.elim
    |no=>exact h.elim
theorem ACw (hm:P.follows .mixedOrders=true){cs cs':List Frame}{rv:Value}(hrv:recoverD cs=some (rv,cs')∨(recoverD cs=none∧rv= .nilIface∧cs'=cs)):
  ∀(c:Code) (K R:Env→M) (e:Env) (a:Act) (w:World) (I:Imm) (L:LH),a.defers=[]→Rep n a e→St ω w I L→vcS P ω rv n c K R e I L→c.wpSIn Fence.wide 0 P (PostR ω n K R cs') a cs w:=by
 intro c;induction c with
 |seq x y ihx _=>
  intro K R e a w I L hd hr hs h;refine wpSIn_seq (QM (ihx _ R e a w I L hd hr hs h) ?_);rintro ex a1 cs1 w1 hp;cases ex with
  |normal=>
   obtain ⟨rfl,hd1,e1,I1,L1,hr1,hs1,h1⟩:=hp;split at h1
   ·rename_i hpy
    refine wpSIn_of_wpIn rfl (wpIn_mono (QR hm y none 0 none K (λ_ _=>F) R e1 a1 w1 I1 L1 (.inl rfl) hr1 hs1 h1) ?_);rintro ex2 a2 w2 hp2;cases ex2 with
    |normal=>exact ⟨rfl,(hp2.1.df hpy).trans hd1,hp2.2⟩
    |ret=>exact ⟨rfl,(hp2.1.df hpy).trans hd1,hp2.2⟩
    |exit id=>obtain ⟨_,_,_,_,_,_,hf⟩:=hp2;exact hf.elim
    |panic ch=>exact (PX.none hp2).elim
    |goto l=>exact hp2.elim
    |outgrown=>exact hp2.elim
   ·exact h1.elim
  |ret=>exact hp
  |exit id=>exact hp.elim
  |panic ch=>exact hp.elim
  |goto l=>exact hp.elim
  |outgrown=>exact hp.elim
 |region id ops dr=>
  intro K R e a w I L hd hr hs h;cases dr with
  |true=>exact h.elim
  |false=>
   refine wpSIn_region ?_;have:=QS (P:=P) (ops:=ops) (K:=K) (R:=R) hrv ops.toList 0 e a w I L (λk=>by simp) hd hr hs h;rw [List.range_eq_range'];simpa using this
 |_=>intro K R e a w I L hd hr hs h;exact h.elim
theorem ATT {f:FuncId}{fn:Func}(hm:P.follows .mixedOrders=true)(hf:P.funcs[f]? =some fn){args:List Value}{K:Value→M}{I:Imm}{L:LH}{rv:Value}(h:vcR P ω rv fn args K I L){u u':FrameMode}
  (hrv:∀(c0:Frame) (cs:List Frame),c0.mode=u→recoverD (c0::cs)=some (rv,{c0 with mode:=u'}::cs)∨(recoverD (c0::cs)=none∧rv= .nilIface∧({c0 with mode:=u'}::cs)=c0::cs)) {w:World} (hs:St ω w I L):
  CallsDIn Fence.wide 0 P f args.toArray u w (λe u1 w'=>u1=u'∧Ret ω K e w'):=by
 unfold vcR at h;cases hb:fn.body with
 |none=>rw [hb] at h;exact h.elim
 |some c=>
  rw [hb] at h;simp only at h
  split at h
  ·rename_i hle
   have hle:args.length≤fn.ntmps:=by simpa using hle
   refine callsDIn_of_wpSIn hf hb trivial λc0 cs hu=>?_;refine QM (ACw hm (hrv c0 cs hu) c _ _ _ _ w I L rfl (Rep.init args.toArray _ _ fn.ntmps zu (λt v hv=>by simpa using hv) rfl) hs h) ?_;have fin':∀(a':Act) (w':World),(∃e I L,Rep fn.ntmps a' e∧St ω w' I L∧Gg P fn.ntmps e fn.results.toList (λvs=>K (resV vs)) I L)→∃v,(results fn a'.tmps).run P w'= .ok v w'∧Ret ω K (.returned v) w':=by
    rintro a' w' ⟨e,I',L',hr,hs',hres⟩;obtain ⟨v,hrun,hk⟩:=Jh hr hs' hres;exact ⟨v,hrun,v,I',L',rfl,hs',hk⟩
   rintro ex a' cs1 w' hp;cases ex with
   |normal=>
    obtain ⟨rfl,hd,hx⟩:=hp;obtain ⟨v,h1,h2⟩:=fin' a' w' hx;exact ⟨hd,u',rfl,v,h1,rfl,h2⟩
   |ret=>
    obtain ⟨rfl,hd,hx⟩:=hp;obtain ⟨v,h1,h2⟩:=fin' a' w' hx;exact ⟨hd,u',rfl,v,h1,rfl,h2⟩
   |exit id=>exact hp.elim
   |panic ch=>exact hp.elim
   |goto l=>exact hp.elim
   |outgrown=>exact hp.elim
  ·exact h.elim
theorem Xw (hm:P.follows .mixedOrders=true){f:FuncId}{fn:Func}(hf:P.funcs[f]? =some fn){args:List Value}{K:Value→M}{I:Imm}{L:LH}(h:vcR P ω .nilIface fn args K I L):CalD P ω f args.toArray K I L:=
 λw hs=>ATT hm hf h (u':=.returning) (λc0 cs hu=>by
  obtain ⟨cfn,ctm,ctd,cdf,cmo,cki,cro⟩:=c0;simp only at hu
  subst hu;exact .inr ⟨rfl,rfl,rfl⟩) hs
theorem Vz (hm:P.follows .mixedOrders=true){f:FuncId}{fn:Func}(hf:P.funcs[f]? =some fn){args:List Value}{K:Value→M}{I:Imm}{L:LH}{v:Value}(h:vcR P ω v fn args K I L):CalDR P ω f args.toArray v K I L:=
 λw hs=>ATT hm hf h (λc0 cs hu=>by
  obtain ⟨cfn,ctm,ctd,cdf,cmo,cki,cro⟩:=c0;simp only at hu
  subst hu;exact .inl rfl) hs
theorem CalD.gh {f:FuncId}{args:Array Value}{K:Value→M}{I:Imm}{L:LH}(h:CalD P ω f args (λv=>Gh (K v)) I L):CalD P ω f args K I L:=λw hs=>
 CallsDIn.mono (h w hs) λ_ _ _ ⟨hu,v,_,_,he,hs',hg⟩=>by
  obtain ⟨I2,L2,h1,h2⟩:=hg hs'.cons;exact ⟨hu,v,I2,L2,he,h1 ω _ hs',h2⟩
theorem CalDR.gh {f:FuncId}{args:Array Value}{x:Value}{K:Value→M}{I:Imm}{L:LH}(h:CalDR P ω f args x (λv=>Gh (K v)) I L):CalDR P ω f args x K I L:=λw hs=>
 CallsDIn.mono (h w hs) λ_ _ _ ⟨hu,v,_,_,he,hs',hg⟩=>by
  obtain ⟨I2,L2,h1,h2⟩:=hg hs'.cons;exact ⟨hu,v,I2,L2,he,h1 ω _ hs',h2⟩
end
section pure
variable (b off k n:Nat)(a c:Int)(t u:Bool)(K:Value→M)(v:Value)
theorem DY:Pv (some v) K=K v:=rfl
theorem AIL:AO k (.pointer (some ⟨b,off,none⟩))=some (.pointer (some ⟨b,off+k,none⟩)):=rfl
theorem AHr (x:Addr):Ae (.pointer (some x))=some (.pointer (some x)):=rfl
theorem AHs (f:FuncId)(xs ys:Array Value):Ae (.func (.func f) xs ys)=some (.func (.func f) xs ys):=rfl
theorem AIE (x:Option Addr)(l m:Nat):lenV (.slice x l m)=some (.int .i64 l):=rfl
theorem AIk (x:Option Addr)(l m:Nat):AEi (.slice x l m)=some (.int .i64 m):=rfl
theorem AHy (k k':IntKind):AHz (.int k a) (.int k' c)=some (.int k (if c < a then c else a)):=rfl
theorem AIA (k k':IntKind):ZQ (.int k a) (.int k' c)=some (.int k (if c > a then c else a)):=rfl
theorem AKY (s:ByteArray):BR (.string s)=some (.int .i64 s.size):=rfl
theorem AFH (s:ByteArray):ANk (.string s)=some (.string s):=rfl
theorem AAd:unV .not (.bool t)=some (.bool !t):=rfl
theorem AAe (k:IntKind):unV .neg (.int k a)=some (.int k (k.wrap (0 - a))):=rfl
theorem AJm (k:IntKind):unV .xor (.int k a)=some (.int k (Hu .xor k (if k.signed then -1 else k.max) a)):=rfl
theorem ACO (x y:Value):ACQ (.bool true) x y=some x:=rfl
theorem ACP (x y:Value):ACQ (.bool false) x y=some y:=rfl
theorem ANI (vs:Array Value)(i:Nat):exV (.tuple vs) i=vs[i]? :=rfl
theorem AId (k k':IntKind):SV k (.int k' a)=some (.int k (k.wrap a)):=rfl
theorem YI (k:IntKind):AA .add (.int k a) (.int k c)=some (.int k (k.wrap (a+c))):=by simp [AA]
theorem Xy (k:IntKind):AA .sub (.int k a) (.int k c)=some (.int k (k.wrap (a - c))):=by simp [AA]
theorem YB (k:IntKind):AA .mul (.int k a) (.int k c)=some (.int k (k.wrap (a * c))):=by simp [AA]
theorem YG (k:IntKind):AA .eql (.int k a) (.int k c)=some (.bool (a==c)):=by simp [AA]
theorem YA (k:IntKind):AA .neq (.int k a) (.int k c)=some (.bool (a != c)):=by simp [AA]
theorem YC (k:IntKind):AA .lss (.int k a) (.int k c)=some (.bool (decide (a < c))):=by simp [AA]
theorem YD (k:IntKind):AA .leq (.int k a) (.int k c)=some (.bool (decide (a≤c))):=by simp [AA]
theorem YE (k:IntKind):AA .gtr (.int k a) (.int k c)=some (.bool (decide (c < a))):=by simp [AA]
theorem YF (k:IntKind):AA .geq (.int k a) (.int k c)=some (.bool (decide (c≤a))):=by simp [AA]
theorem Xz (k:IntKind)(h:c≠0):AA .quo (.int k a) (.int k c)=some (.int k (k.wrap (a.tdiv c))):=by simp [AA,h]
theorem AJc (k:IntKind)(h:c≠0):AA .rem (.int k a) (.int k c)=some (.int k (a.tmod c)):=by simp [AA,h]
theorem YH (k:IntKind):AA .and (.int k a) (.int k c)=some (.int k (Hu .and k a c)):=by simp [AA]
theorem ACl (k:IntKind):AA .or (.int k a) (.int k c)=some (.int k (Hu .or k a c)):=by simp [AA]
theorem YK:Dn .eql (.bool t) (.bool u)=some (.bool (t==u)):=rfl
theorem YJ:Dn .neq (.bool t) (.bool u)=some (.bool (!(t==u))):=rfl
theorem Gn (x:Addr):Hw .eql (.pointer (some x)) (.pointer none)=some (.bool false):=rfl
theorem NV (x:Addr):Hw .neq (.pointer (some x)) (.pointer none)=some (.bool true):=rfl
theorem NY (x:Addr)(l m l' m':Nat):JZ .eql (.slice (some x) l m) (.slice none l' m')=some (.bool false):=rfl
theorem NW (x:Addr)(l m l' m':Nat):JZ .neq (.slice (some x) l m) (.slice none l' m')=some (.bool true):=rfl
theorem Ob (l m l' m':Nat):JZ .eql (.slice none l m) (.slice none l' m')=some (.bool true):=rfl
theorem Oa (l m l' m':Nat):JZ .neq (.slice none l m) (.slice none l' m')=some (.bool false):=rfl
theorem AOL (k:IntKind)(len cap i:Nat)(h:i < len):ixV n (.slice (some ⟨b,off,none⟩) len cap) (.int k i)=some (.pointer (some ⟨b,off+i * n,none⟩)):=by
 simp only [ixV];rw [if_pos zo];simp
theorem wrap_i64 (h: -9223372036854775808≤a∧a≤9223372036854775807):IntKind.i64.wrap a=a:=IntWalk.i64_in a h
theorem UM (cs:Array Value):Value.cells (.agg cs)=cs:=rfl
end pure
class InL (b:Nat) (L:LH) (o:outParam Obj):Prop where
 mem:(b,o)∈L
instance inRight (b:Nat)(A L:LH)(o:Obj)[h:InL b L o]:InL b (A++L) o:=⟨zba _ h.mem⟩
instance inThere (b:Nat)(x:Nat×Obj)(L:LH)(o:Obj)[h:InL b L o]:InL b (x::L) o:=⟨zN _ h.mem⟩
instance inHere (b:Nat)(L:LH)(o:Obj):InL b ((b,o)::L) o:=⟨zK ..⟩
class GetL (l:List Value) (k:Nat) (v:outParam Value):Prop where
 get:l[k]? =some v
instance getThere (x:Value)(l:List Value)(k:Nat)(v:Value)[h:GetL l k v]:GetL (x::l) (k+1) v:=⟨by simpa using h.get⟩
instance getHere (v:Value)(l:List Value):GetL (v::l) 0 v:=⟨rfl⟩
class SetL (l:List Value) (k:Nat) (v:Value) (l':outParam (List Value)):Prop where
 set:l.set k v=l'∧k < l.length
instance setThere (x:Value)(l:List Value)(k:Nat)(v:Value)(l':List Value)[h:SetL l k v l']:SetL (x::l) (k+1) v (x::l'):=
 ⟨by simp [h.set.1],by simpa using h.set.2⟩
instance setHere (x v:Value)(l:List Value):SetL (x::l) 0 v (v::l):=⟨rfl,by simp⟩
class SplitL (X L:LH) (R:outParam LH):Prop where
 perm:L.Perm (X++R)
instance splitRight (X A L R:LH)[h:SplitL X L R]:SplitL X (A++L) (A++R):=⟨(zaB A h.perm).trans (by
 rw [←zi,←zi];exact List.Perm.append_right R List.perm_append_comm)⟩
instance splitThere (X L R:LH)(y:Nat×Obj)[h:SplitL X L R]:SplitL X (y::L) (y::R):=⟨(List.Perm.cons y h.perm).trans zaw.symm⟩
instance splitHere (X R:LH):SplitL X (X++R) R:=⟨List.Perm.refl _⟩
class SplitB (x:Nat×Obj) (L:LH) (R:outParam LH):Prop where
 perm:L.Perm (x::R)
instance splitBRight (x:Nat×Obj)(A L R:LH)[h:SplitB x L R]:SplitB x (A++L) (A++R):=⟨(zaB A h.perm).trans zaw⟩
instance splitBThere (x y:Nat×Obj)(L R:LH)[h:SplitB x L R]:SplitB x (y::L) (y::R):=⟨(List.Perm.cons y h.perm).trans (List.Perm.swap ..)⟩
instance splitBHere (x:Nat×Obj)(R:LH):SplitB x (x::R) R:=⟨List.Perm.refl _⟩
class SubP (L' L:LH):Prop where
 sub:∃R,L.Perm (L'++R)
instance (priority:=50) subRight (L' A L:LH)[h:SubP L' L]:SubP L' (A++L):=by
 obtain ⟨R,hR⟩:=h.sub;exact ⟨A++R,(zaB A hR).trans (by rw [←zi,←zi];exact List.Perm.append_right R List.perm_append_comm)⟩
instance (priority:=50) subThere (L' L:LH)(y:Nat×Obj)[h:SubP L' L]:SubP L' (y::L):=by
 obtain ⟨R,hR⟩:=h.sub;exact ⟨y::R,(List.Perm.cons y hR).trans zaw.symm⟩
instance (priority:=40) subNil (L:LH):SubP [] L:=⟨L,List.Perm.refl _⟩
instance subCons (x:Nat×Obj)(L' L R:LH)[h:SplitB x L R][h':SubP L' R]:SubP (x::L') L:=by
 obtain ⟨R',hR⟩:=h'.sub;exact ⟨R',h.perm.trans (List.Perm.cons x hR)⟩
instance subApp (A L' L R:LH)[h:SplitL A L R][h':SubP L' R]:SubP (A++L') L:=by
 obtain ⟨R',hR⟩:=h'.sub;exact ⟨R',h.perm.trans (by rw [zi];exact zaB A hR)⟩
instance subSelf (L:LH):SubP L L:=⟨[],by simp⟩
class UpL (b:Nat) (L:LH) (o o':Obj) (L':outParam LH):Prop where
 up:∃L1 L2,L=L1++(b,o)::L2∧L'=L1++(b,o')::L2
instance upRight (b:Nat)(A L:LH)(o o':Obj)(L':LH)[h:UpL b L o o' L']:UpL b (A++L) o o' (A++L'):=by
 obtain ⟨L1,L2,rfl,rfl⟩:=h.up;exact ⟨A++L1,L2,by simp,by simp⟩
instance upThere (b:Nat)(x:Nat×Obj)(L:LH)(o o':Obj)(L':LH)[h:UpL b L o o' L']:UpL b (x::L) o o' (x::L'):=by
 obtain ⟨L1,L2,rfl,rfl⟩:=h.up;exact ⟨x::L1,L2,rfl,rfl⟩
instance upHere (b:Nat)(L:LH)(o o':Obj):UpL b ((b,o)::L) o o' ((b,o')::L):=⟨[],L,rfl,rfl⟩
theorem Cell.own {I:Imm}{L:LH}{b off:Nat}{v:Value}{cs:Array Value}{T:Nat}{fr:Nat×Nat}(hm:(b,Obj.cells cs T fr)∈L)(hv:cs[off]? =some v):Cell I L b off v:=⟨cs,T,fr,.inl hm,hv⟩
theorem Cell.imm {I:Imm}{L:LH}{b off:Nat}{v:Value}{cs:Array Value}{T:Nat}{fr:Nat×Nat}(hm:I b=some (Obj.cells cs T fr))(hv:cs[off]? =some v):Cell I L b off v:=⟨cs,T,fr,.inr hm,hv⟩
theorem Cell.mono {I I':Imm}{L L':LH}{b off:Nat}{v:Value}(h:Cell I L b off v)(hI:Ext I I')(hL:∀x∈L,x∈L'):Cell I' L' b off v:=by
 obtain ⟨cs,T,fr,hm,hv⟩:=h;exact ⟨cs,T,fr,hm.imp (hL _) (hI _ _),hv⟩
section reads
variable {I:Imm}{L:LH}{K:Value→M}{b off n:Nat}{v:Value}
theorem rd1 (h:Cell I L b off v)(hk:K v I L):Rv none (BA (.pointer (some ⟨b,off,none⟩))) K I L:=⟨v,⟨b,off,rfl,h⟩,hk⟩
theorem rdb {l:List Value}{T:Nat}{fr:Nat×Nat}[h:InL b L (.cells l.toArray T fr)][g:GetL l off v](hk:K v I L):Rv none (BA (.pointer (some ⟨b,off,none⟩))) K I L:=
 rd1 (Cell.own h.mem (by simpa using g.get)) hk
theorem rdN {vs:List Value}(hl:vs.length=n)(h:Cells I L b off vs)(hk:K (.agg vs.toArray) I L):Rv none (AC n (.pointer (some ⟨b,off,none⟩))) K I L:=⟨_,⟨b,off,vs,rfl,hl,h,rfl⟩,hk⟩
theorem rdB {l:List Value}{T:Nat}{fr:Nat×Nat}[h:InL b L (.cells l.toArray T fr)](hl:l.length=n)(hk:K (.agg l.toArray) I L):Rv none (AC n (.pointer (some ⟨b,0,none⟩))) K I L:=
 rdN hl (λj u hu=>Cell.own h.mem (by simpa using hu)) hk
theorem rdP {l:List Value}{T:Nat}{fr:Nat×Nat}[h:InL b L (.cells l.toArray T fr)](vs:List Value)(he:(l.drop off).take n=vs)(hl:vs.length=n)(hk:K (.agg vs.toArray) I L):Rv none (AC n (.pointer (some ⟨b,off,none⟩))) K I L:=
 rdN hl (λj u hu=>Cell.own h.mem (by
  subst he;rw [zaZ] at hu;split at hu
  ·rw [zaR] at hu;simpa using hu
  ·cases hu)) hk
variable {S:M}
theorem Gm (h:∀I' L',S I' L'→Cell I' L' b off v)(hk:K v I L):Rv (some S) (BA (.pointer (some ⟨b,off,none⟩))) K I L:=⟨v,λI' L' hS=>⟨b,off,rfl,h I' L' hS⟩,hk⟩
theorem ANz {vs:List Value}(hl:vs.length=n)(h:∀I' L',S I' L'→Cells I' L' b off vs)(hk:K (.agg vs.toArray) I L):Rv (some S) (AC n (.pointer (some ⟨b,off,none⟩))) K I L:=
 ⟨_,λI' L' hS=>⟨b,off,vs,rfl,hl,h I' L' hS,rfl⟩,hk⟩
end reads
def Stay (I0:Imm)(X:LH):M:=λI L=>Ext I0 I∧∀x∈X,x∈L
theorem Stay.start (I:Imm)(L:LH):Stay I L I L:=⟨zAC I,λ_ h=>h⟩
section stay
variable {I I0:Imm}{L X:LH}{K:Value→M}{b off n:Nat}{v:Value}
theorem CB {l:List Value}{T:Nat}{fr:Nat×Nat}[h:InL b X (.cells l.toArray T fr)][g:GetL l off v](hk:K v I L):Rv (some (Stay I0 X)) (BA (.pointer (some ⟨b,off,none⟩))) K I L:=
 Gm (λI' L' hS=>Cell.own (hS.2 _ h.mem) (by simpa using g.get)) hk
theorem GK {l:List Value}{T:Nat}{fr:Nat×Nat}[h:InL b X (.cells l.toArray T fr)](hl:l.length=n)(hk:K (.agg l.toArray) I L):Rv (some (Stay I0 X)) (AC n (.pointer (some ⟨b,0,none⟩))) K I L:=
 ANz hl (λI' L' hS j u hu=>Cell.own (hS.2 _ h.mem) (by simpa using hu)) hk
theorem IR (h:Cell I0 X b off v)(hk:K v I L):Rv (some (Stay I0 X)) (BA (.pointer (some ⟨b,off,none⟩))) K I L:=
 Gm (λ_ _ hS=>h.mono hS.1 hS.2) hk
theorem Nk {vs:List Value}(hl:vs.length=n)(h:Cells I0 X b off vs)(hk:K (.agg vs.toArray) I L):Rv (some (Stay I0 X)) (AC n (.pointer (some ⟨b,off,none⟩))) K I L:=
 ANz hl (λ_ _ hS j u hu=>(h j u hu).mono hS.1 hS.2) hk
theorem ASv (h1:Ext I0 I)(h2:∀x∈X,x∈L)(hk:K v I L):Cf (Stay I0 X) K v I L:=⟨⟨h1,h2⟩,hk⟩
theorem draw {B:M→M}(S:M)(h1:S I L)(h2:B S I L):Bg B I L:=⟨S,h1,h2⟩
end stay
section ghosts
variable {I:Imm}{L:LH}
theorem Cons.ext_put {b:Nat}{o:Obj}(h:Cons I ((b,o)::L)):Ext I (Imm.put I b o):=by
 intro b' o' hb';unfold Imm.put;have:=h.2 b o (zK ..);rw [if_neg (λe=>by subst e;rw [this] at hb';cases hb')];exact hb'
theorem Cons.freeze {b:Nat}{o:Obj}(h:Cons I ((b,o)::L)):Cons (Imm.put I b o) L:=by
 refine ⟨(zaS.1 h.1).2,λb' o' hm=>?_⟩;unfold Imm.put;have hn:=(zaS.1 h.1).1;rw [if_neg (λe=>hn (by subst e;exact zaz.2 ⟨(b',o'),hm,rfl⟩))];exact h.2 b' o' (zN _ hm)
theorem Cons.perm {L':LH}(h:Cons I L)(hp:L.Perm L'):Cons I L':=⟨(hp.map _).nodup_iff.1 h.1,λb o hb=>h.2 b o (hp.mem_iff.2 hb)⟩
theorem Cons.drop {L':LH}(h:Cons I L)(hs:L'.Sublist L):Cons I L':=⟨h.1.sublist (hs.map _),λb o hb=>h.2 b o (hs.subset hb)⟩
theorem Gh.done {A:M}(h:A I L):Gh A I L:=λ_=>⟨I,L,λ_ _ h=>h,h⟩
theorem zAA:type_of% @Gh.done:=@Gh.done
theorem Gh.freeze {A:M}{b:Nat}{o:Obj}(h:Ext I (Imm.put I b o)→Gh A (Imm.put I b o) L):Gh A I ((b,o)::L):=by
 intro hc;obtain ⟨I',L',h1,h2⟩:=h hc.ext_put hc.freeze;exact ⟨I',L',λω w hs=>h1 ω w hs.freeze,h2⟩
theorem Gh.perm {A:M}{L':LH}(hp:L.Perm L')(h:Gh A I L'):Gh A I L:=by
 intro hc;obtain ⟨I',L',h1,h2⟩:=h (hc.perm hp);exact ⟨I',L',λω w hs=>h1 ω w (hs.perm hp),h2⟩
theorem Gh.drop {A:M}{L':LH}(hp:L'.Sublist L)(h:Gh A I L'):Gh A I L:=by
 intro hc;obtain ⟨I',L',h1,h2⟩:=h (hc.drop hp);exact ⟨I',L',λω w hs=>h1 ω w (hs.drop hp),h2⟩
theorem Gh.to {A:M}(L':LH)[hs:SubP L' L](h:Gh A I L'):Gh A I L:=by
 obtain ⟨R,hR⟩:=hs.sub;exact Gh.perm hR (Gh.drop (List.sublist_append_left L' R) h)
theorem zAE:type_of% @Gh.to:=@Gh.to
end ghosts
section effs
variable {I:Imm}{L L':LH}{K:Value→M}{b off n T:Nat}{v:Value}
theorem AEq (l l':List Value)(k:Nat)(v:Value)(h:l.set k v=l'):wr l.toArray k [v]=l'.toArray:=by
 simp [wr,h]
theorem st1 {l l':List Value}[h:InL b L (.cells l.toArray T (0,0))][g:SetL l off v l'][u:UpL b L (.cells l.toArray T (0,0)) (.cells l'.toArray T (0,0)) L'](hv:v.oneCell'=true)(hk:K undef I L'):
  Sto 1 (.pointer (some ⟨b,off,none⟩)) v (gh K) I L:=by
 obtain ⟨L1,L2,rfl,rfl⟩:=u.up;have hc:v.cells=#[v]:=by cases v <;> first|rfl|simp [Value.oneCell'] at hv
 refine ⟨b,off,l.toArray,T,(0,0),L1,L2,rfl,by simp [hc],by simp [hc];exact hv,by simp;have:=g.set.2;omega,.inl rfl,rfl,?_⟩;rw [hc,AEq l l' off v g.set.1];exact zAA hk
theorem ANb:∀(vs l:List Value) (off:Nat),off+vs.length=l.length→wr l.toArray off vs=(l.take off++vs).toArray:=by
 intro vs l off h;rw [SY vs l.toArray off zu];simp [h]
theorem stB {l vs:List Value}[h:InL b L (.cells l.toArray T (0,0))][u:UpL b L (.cells l.toArray T (0,0)) (.cells vs.toArray T (0,0)) L'](hl:vs.length=n)(hl':l.length=n)(h1:∀u∈vs,u.oneCell'=true)(hk:K undef I L'):
  Sto n (.pointer (some ⟨b,0,none⟩)) (.agg vs.toArray) (gh K) I L:=by
 obtain ⟨L1,L2,rfl,rfl⟩:=u.up;refine ⟨b,0,l.toArray,T,(0,0),L1,L2,rfl,by simp [Value.cells,hl],by simpa [Value.cells] using h1,by simp [hl'],.inl rfl,rfl,?_⟩;simp only [Value.cells];rw [ANb vs l 0 zo];exact zAA (by simpa using hk)
theorem AY {vs:List Value}(h:vs.all (·.oneCell')=true):∀u∈vs,u.oneCell'=true:=λu hu=>zaM.1 h u hu
theorem AQ {o:Obj}(h:∀b,K (.pointer (some ⟨b,0,none⟩)) I ((b,o)::L)):New o (gh K) I L:=λb=>zAA (h b)
end effs
section calls
variable {P:Program}{ω:Om}{f:FuncId}{args:Array Value}{K:Value→M}{I:Imm}{L:LH}
theorem Cal.gh (h:Cal P ω f args (λv=>Gh (K v)) I L):Cal P ω f args K I L:=λw hs=>
 (h w hs).mono λ_ _ ⟨v,_,_,he,hs',hg⟩=>by
  obtain ⟨I2,L2,h1,h2⟩:=hg hs'.cons;exact ⟨v,I2,L2,he,h1 ω _ hs',h2⟩
theorem zAH:type_of% @Cal.gh:=@Cal.gh
theorem call (h:Cal P ω f args K I L):Cal P ω f args (SL.gh K) I L:=λw hs=>
 (h w hs).mono λ_ _ ⟨v,I',L',he,hs',h2⟩=>⟨v,I',L',he,hs',zAA h2⟩
theorem Cal.to (L':LH)[hs:SubP L' L](h:Cal P ω f args K I L'):Cal P ω f args K I L:=λw hw=>by
 obtain ⟨R,hR⟩:=hs.sub;exact h w ((hw.perm hR).drop (List.sublist_append_left L' R))
theorem Cal.split (X:LH){R:LH}[h:SplitL X L R](hc:Cal P ω f args K I (X++R)):Cal P ω f args K I L:=λw hs=>hc w (hs.perm h.perm)
theorem zAN:type_of% @Cal.split:=@Cal.split
theorem Cal.mono {K':Value→M}(h:Cal P ω f args K I L)(hk:∀v I' L',K v I' L'→K' v I' L'):Cal P ω f args K' I L:=λw hs=>
 (h w hs).mono λ_ _ ⟨v,I',L',he,hs',h2⟩=>⟨v,I',L',he,hs',hk v I' L' h2⟩
theorem loop {σ:Type}{s0:σ}{B:σ→(σ→M)→M}(Inv:Nat→σ→M)(m:Nat)(h0:Inv m s0 I L)
  (h:∀m s I' L',Inv m s I' L'→B s (λs'=>Gh λI2 L2=>∃m',m' < m∧Inv m' s' I2 L2) I' L'):Ac s0 B I L:=⟨Inv,m,h0,h⟩
end calls
abbrev AV (P:Program)(ω:Om)(f:FuncId)(args:Array Value)(Pn K:Value→M):M:=CalP P ω f args K Pn
abbrev IQ (P:Program)(ω:Om)(x:Value)(args:Array Value)(Pn K:Value→M):M:=CalVP P ω x args K Pn
abbrev ARS (P:Program)(ω:Om)(f:FuncId)(args:Array Value)(K:Value→M):M:=CalD P ω f args K
abbrev ALM (P:Program)(ω:Om)(f:FuncId)(args:Array Value)(v:Value)(K:Value→M):M:=CalDR P ω f args v K
section callsP
variable {P:Program}{ω:Om}{f:FuncId}{args:Array Value}{K Pn:Value→M}{I:Imm}{L:LH}
theorem CalP.of (h:Cal P ω f args K I L):CalP P ω f args K Pn I L:=λw hs=>
 (h w hs).mono λ_ _ ⟨v,I',L',he,hs',hk⟩=>⟨v,I',L',hs',.inl ⟨he,hk⟩⟩
theorem CalP.gh (h:CalP P ω f args (λv=>Gh (K v)) (λv=>Gh (Pn v)) I L):CalP P ω f args K Pn I L:=λw hs=>
 (h w hs).mono λ_ _ ⟨v,_,_,hs',hg⟩=>by
  rcases hg with ⟨he,hg⟩|⟨he,hg⟩
  ·obtain ⟨I2,L2,h1,h2⟩:=hg hs'.cons;exact ⟨v,I2,L2,h1 ω _ hs',.inl ⟨he,h2⟩⟩
  ·obtain ⟨I2,L2,h1,h2⟩:=hg hs'.cons;exact ⟨v,I2,L2,h1 ω _ hs',.inr ⟨he,h2⟩⟩
theorem zAP:type_of% @CalP.gh:=@CalP.gh
theorem CalP.mono {K' Pn':Value→M}(h:CalP P ω f args K Pn I L)(hk:∀v I' L',K v I' L'→K' v I' L')(hp:∀v I' L',Pn v I' L'→Pn' v I' L'):CalP P ω f args K' Pn' I L:=λw hs=>
 (h w hs).mono λ_ _ ⟨v,I',L',hs',hg⟩=>⟨v,I',L',hs',hg.imp (λh=>⟨h.1,hk _ _ _ h.2⟩) (λh=>⟨h.1,hp _ _ _ h.2⟩)⟩
theorem Aa (h:CalP P ω f args K Pn I L):CalP P ω f args (SL.gh K) Pn I L:=h.mono (λ_ _ _ h=>zAA h) (λ_ _ _ h=>h)
theorem Az (h:Cal P ω f args K I L):CalP P ω f args (SL.gh K) Pn I L:=CalP.of (call h)
theorem CalP.pre (h:Gh (CalP P ω f args K Pn) I L):CalP P ω f args K Pn I L:=λw hs=>by
 obtain ⟨I',L',h1,h2⟩:=h hs.cons;exact h2 w (h1 ω w hs)
end callsP
theorem ExtE.ret {P:Program}{ω:Om}{e:Array Value→Sem Value}{args:Array Value}{K:Value→M}{I:Imm}{L:LH}(h:∃v,(∀w,St ω w I L→(e args).run P w= .ok v w)∧K v I L):ExtE P ω e args K I L:=λw hs=>by
 obtain ⟨v,h1,h2⟩:=h;exact ⟨v,w,I,L,h1 w hs,hs,h2⟩
theorem XQ {P:Program}{ω:Om}{x:Value}{K:Value→M}{I:Imm}{L:LH}(hk:K x I L):ExtE P ω Extern.AbiNoEscape.same #[x] K I L:=ExtE.ret ⟨x,λw _=>Lib.run_noEscape w x,hk⟩
theorem AVG {P:Program}{ω:Om}{ps:Array TypeId}{t e n:Nat}{K:Value→M}{I:Imm}{L:LH}(ht:P.underlying t=some (.slice e))(hn:n≤281474976710656)(hk:∀(b:Nat) (cs:Array Value),n≤cs.size→K (.slice (some ⟨b,0,none⟩) n cs.size) I ((b,.cells cs e (0,0))::L)):
  ExtE P ω (Extern.BytealgMakeNoZero.makeNoZero ps #[t]) #[.int .i64 n] K I L:=λw hs=>by
 obtain ⟨cs,h1,h2,_⟩:=Lib.run_makeNoZero (P:=P) w ps t e ht n hn;refine ⟨_,_,I,_,h1,?_,hk w.heap.size cs h2⟩;have hd:St ω w.drew.drew I L:=St.drew hs (n:=w.drew.drew.drawn) (by show w.drawn≤w.drawn+1+1;omega);exact St.push hd (.cells cs e (0,0))
def SlI (I:Imm)(n:Nat)(v:Value)(cells:List Value)(len:Nat):Prop:=
 cells.length=len * n∧∃a cap,v= .slice a len cap∧len≤cap∧
  (len≠0→∃b off cs T fr,a=some ⟨b,off,none⟩∧I b=some (Obj.cells cs T fr)∧∀j u,cells[j]? =some u→cs[off+j]? =some u)
theorem SlI.mono {I I':Imm}{n len:Nat}{v:Value}{cells:List Value}(h:SlI I n v cells len)(hI:Ext I I'):SlI I' n v cells len:=by
 obtain ⟨hl,a,cap,hv,hc,h⟩:=h;refine ⟨hl,a,cap,hv,hc,λh0=>?_⟩;obtain ⟨b,off,cs,T,fr,ha,hb,hcs⟩:=h h0;exact ⟨b,off,cs,T,fr,ha,hI _ _ hb,hcs⟩
theorem SlI.news {I:Imm}{L:LH}{n len:Nat}{v:Value}{cells:List Value}(h:SlI I n v cells len):News n v I L len cells:=by
 obtain ⟨hl,a,cap,rfl,hc,h⟩:=h;by_cases h0:len=0
 ·subst h0;exact .inl ⟨a,cap,rfl,rfl,zae (by simpa using hl)⟩
 ·obtain ⟨b,off,cs,T,fr,rfl,hb,hcs⟩:=h h0;exact .inr (.inl ⟨b,off,cap,rfl,hl,λj u hu=>Cell.imm hb (hcs j u hu)⟩)
def SlO (T n : Nat) (X : LH) (v : Value) (cells : List Value) (len : Nat) : Prop :=
  cells.length = len * n ∧
  ((X = [] ∧ len = 0 ∧ ∃ a, v = .slice a 0 0) ∨
   (∃ (b cap : Nat) (cs : Array Value), X = [(b, Obj.cells cs T (0, 0))] ∧ v = .slice (some ⟨b, 0, Option.none⟩) len cap ∧ cs.size = cap * n ∧ len ≤ cap ∧ ∀ (j : Nat) (u : Value), cells[j]? = some u → cs[j]? = some u))
theorem SlO.none (T n:Nat):SlO T n [] (.slice none 0 0) [] 0:=⟨by simp,.inl ⟨rfl,rfl,_,rfl⟩⟩
theorem SlO.empty (T n:Nat)(a:Option Addr):SlO T n [] (.slice a 0 0) [] 0:=⟨by simp,.inl ⟨rfl,rfl,_,rfl⟩⟩
theorem SlO.form {T n len:Nat}{X:LH}{v:Value}{cells:List Value}(h:SlO T n X v cells len):∃a cap,v= .slice a len cap:=by
 rcases h.2 with ⟨_,rfl,a,rfl⟩|⟨b,cap,cs,_,rfl,_⟩
 ·exact ⟨a,0,rfl⟩
 ·exact ⟨_,cap,rfl⟩
theorem SlO.news {I:Imm}{T n len:Nat}{X F:LH}{v:Value}{cells:List Value}(h:SlO T n X v cells len)(hF:∀x∈X,x∈F):News n v I F len cells:=by
 obtain ⟨hl,h⟩:=h;rcases h with ⟨rfl,rfl,a,rfl⟩|⟨b,cap,cs,rfl,rfl,hcs,hle,hc⟩
 ·exact .inl ⟨a,0,rfl,rfl,zae (by simpa using hl)⟩
 ·exact .inr (.inl ⟨b,0,cap,rfl,hl,λj u hu=>Cell.own (hF _ (zX.2 rfl)) (by rw [zaA];exact hc j u hu)⟩)
theorem SlO.freeze {A:M}{I:Imm}{T n len:Nat}{X F:LH}{v:Value}{cells:List Value}(h:SlO T n X v cells len)(hk:∀I',Ext I I'→SlI I' n v cells len→Gh A I' F):Gh A I (X++F):=by
 obtain ⟨hl,h⟩:=h;rcases h with ⟨rfl,rfl,a,rfl⟩|⟨b,cap,cs,rfl,rfl,hcs,hle,hc⟩
 ·exact hk I (zAC I) ⟨hl,a,0,rfl,zW _,λh=>absurd rfl h⟩
 ·exact Gh.freeze λhext=>hk _ hext ⟨hl,_,cap,rfl,hle,λ_=>⟨b,0,cs,T,(0,0),rfl,by simp [Imm.put],λj u hu=>by rw [zaA];exact hc j u hu⟩⟩
theorem Fg (z:Array Value)(k:Nat):(Builtin.zeroCells z k).size=k * z.size:=by simp [Builtin.zeroCells]
theorem Il {I:Imm}{X L F:LH}[hsp:SplitL X L F]{T n bytes len m:Nat}{z:Array Value}{s x:Value}{cells news:List Value}{K:Value→M}(hz:z.size=n)(ho:SlO T n X s cells len)(hn:News n x I L m news)
  (h1:∀u∈news,u.oneCell'=true) (hb:(len+m) * bytes≤150000000000000) (hm:len+m≤150000000000000)
  (hk:∀X' v',SlO T n X' v' (cells++news) (len+m)→Gh (K v') I (X'++F)):App T n bytes z s x (gh K) I L:=by
 have hp:=hsp.perm;obtain ⟨hl,ho'⟩:=ho;have hnl:=hn.length;have hlen:(cells++news).length=(len+m) * n:=by rw [zn,hl,hnl,zaC]
 rcases ho' with ⟨rfl,rfl,a,rfl⟩|⟨b,cap,cs,rfl,rfl,hcs,hle,hc⟩
 ·have hce:cells=[]:=zae (by simpa using hl);subst hce;refine ⟨a,0,0,m,news,rfl,hn,h1,?_⟩;by_cases h0:m=0
  ·subst h0;have:news=[]:=zae (by simpa using hnl);subst this;exact .inl ⟨zW _,rfl,Gh.perm hp (hk [] (.slice a 0 0) (SlO.empty T n a))⟩
  ·refine .inr (.inr ⟨by omega,hb,hm,[],L,.inl ⟨a,0,rfl,rfl,rfl⟩,List.Sublist.refl _,λb c hc=>?_⟩);refine Gh.perm (List.Perm.cons _ hp) (hk [(b,_)] _ ⟨hlen,.inr ⟨b,c,_,rfl,rfl,?_,hc,?_⟩⟩)
   ·simp only [zat,Array.size_append,List.size_toArray,Fg,hz,hnl];rw [←zaC];congr 1;omega
   ·intro j u hu;simp only [zat] at hu ⊢;have hlt:j < news.length:=(zY.1 hu).1;rw [zaL (by simpa using hlt)];simpa using hu
 ·have hmem:(b,Obj.cells cs T (0,0))∈L:=hp.mem_iff.2 (zaq _ (zX.2 rfl));obtain ⟨L1,L2,rfl⟩:=List.append_of_mem hmem;have hF:(L1++L2).Perm F:=by
   have h2:(L1++(b,Obj.cells cs T (0,0))::L2).Perm ((b,Obj.cells cs T (0,0))::(L1++L2)):=zaw;exact (List.perm_cons _).1 (h2.symm.trans hp)
  refine ⟨_,len,cap,m,news,rfl,hn,h1,?_⟩;by_cases hfit:len+m≤cap
  ·refine .inr (.inl ⟨hfit,b,0,cs,T,L1,L2,rfl,rfl,by rw [hcs,zaA];exact zaE n hfit,?_⟩);refine Gh.perm (zaw.trans (List.Perm.cons _ hF)) (hk [(b,_)] _ ⟨hlen,.inr ⟨b,cap,_,rfl,rfl,by rw [Ot];exact hcs,hfit,?_⟩⟩);have hroom:0+len * n+news.length≤cs.size:=by
    rw [hcs,hnl,zaA,←zaC];exact zaE n hfit
   intro j u hu;rw [YS news cs (0+len * n) j hroom];simp only [zaA] at hroom ⊢;by_cases hj:j < len * n
   ·rw [if_pos hj];rw [List.getElem?_append_left zo] at hu;exact hc j u hu
   ·rw [if_neg hj];rw [List.getElem?_append_right zo,hl] at hu;have hlt:=(zY.1 hu).1;rw [if_pos zo];exact hu
  ·refine .inr (.inr ⟨by omega,hb,hm,cells,L1++L2,.inr (.inl ⟨b,0,cap,rfl,hl,λj u hu=>Cell.own hmem (by rw [zaA];exact hc j u hu)⟩),
    List.Sublist.append (List.Sublist.refl _) (List.sublist_cons_self ..),λb' c hcc=>?_⟩)
   refine Gh.perm (List.Perm.cons _ hF) (hk [(b',_)] _ ⟨hlen,.inr ⟨b',c,_,rfl,rfl,?_,hcc,?_⟩⟩)
   ·simp only [Array.size_append,List.size_toArray,Fg,hz,hlen];rw [←zaC];congr 1;omega
   ·intro j u hu;have hlt:j < (cells++news).length:=(zY.1 hu).1;rw [zaL (by simpa using hlt)];simpa using hu
theorem Dx {I:Imm}{X L F:LH}[hsp:SplitL X L F]{T n bytes len m:Nat}{z:Array Value}{s x:Value}{cells news:List Value}{K:Value→M}(hz:z.size=n)(ho:SlO T n X s cells len)(hn:News n x I L m news)
  (h1:∀u∈news,u.oneCell'=true) (hb:(len+m) * bytes≤150000000000000) (hm:len+m≤150000000000000)
  (hk:∀X' v',SlO T n X' v' (cells++news) (len+m)→K v' I (X'++F)):App T n bytes z s x (gh K) I L:=Il hz ho hn h1 hb hm (λX' v' h=>zAA (hk X' v' h))
theorem AOH {I:Imm}{F:LH}{T bytes:Nat}{z:Array Value}{ln cn:Nat}{K:Value→M}(hlc:ln≤cn)(hc:cn≤140737488355328)(hb:cn * bytes≤281474976710656)
  (hk:∀X v,SlO T z.size X v (Builtin.zeroCells z ln).toList ln→K v I (X++F)):MkS T bytes z (.int .i64 ln) (.int .i64 cn) (gh K) I F:=by
 refine ⟨.i64,.i64,ln,cn,rfl,rfl,hlc,hc,hb,λb=>?_⟩;refine zAA (hk [(b,_)] _ ⟨by simp [Fg],.inr ⟨b,cn,_,rfl,rfl,Fg z cn,hlc,?_⟩⟩);intro j u hu;have hlt:j < ln * z.size:=by have:=(zY.1 hu).1;simpa [Fg] using this
 have hlt':j < cn * z.size:=Nat.lt_of_lt_of_le hlt (zaE _ hlc);simp only [Builtin.zeroCells,Array.toList_map,List.getElem?_map,Array.toList_range,List.getElem?_range hlt,Option.map_some,zf] at hu;simp only [Builtin.zeroCells,Array.getElem?_map,Array.getElem?_range,hlt',if_true,Option.map_some,hu]
theorem AIo {I:Imm}{F:LH}{T n:Nat}{z:Array Value}{v:Value}{K:Value→M}(hz:z.size=n)(hn:0 < n)(hv:v.cells.size=n)
  (hk:∀X u,SlO T n X u v.cells.toList 1→Gh (K u) I (X++F)):AU T n z 1 [(0,v)] (gh K) I F:=by
 have hfold:∀(vs:List Value) (cs:Array Value) (k:Nat),k+vs.length≤cs.size→(vs.zipIdx k).foldl (λcs (c,j)=>cs.setIfInBounds (0+j) c) cs=wr cs k vs:=by
  intro vs;induction vs with
  |nil=>intro cs k _;rfl
  |cons v vs ih=>
   intro cs k hk;simp only [List.zipIdx_cons,List.foldl_cons,wr,zaA];simp only [zh] at hk;have:=ih (cs.setIfInBounds k v) (k+1) zu;simpa using this
 refine ⟨v.cells,?_,λb=>?_⟩
 ·simp only [Instr.fill];have h0:((Array.range (1 * n)).map (λx=>z[x % z.size]!)).size=n:=by simp
  rw [h0];have hc:¬((decide (v.cells.size≠n)||decide (0 * n+v.cells.size > n))=true):=by simp [hv]
  rw [if_neg hc];congr 1
  rw [←Array.foldl_toList];simp only [Array.toList_zipIdx,Nat.zero_mul];rw [hfold _ _ 0 (by rw [h0];simp [hv]),SY _ _ 0 (by rw [h0];simp [hv])];apply Array.ext'
  simp [hv]
 ·exact hk [(b,_)] _ ⟨by simp [hv],.inr ⟨b,1,_,rfl,rfl,by omega,zW _,λj u hu=>by simpa using hu⟩⟩
theorem Dw {I:Imm}{F:LH}{T n:Nat}{z:Array Value}{v:Value}{K:Value→M}(hz:z.size=n)(hn:0 < n)(hv:v.cells.size=n)
  (hk:∀X u,SlO T n X u v.cells.toList 1→K u I (X++F)):AU T n z 1 [(0,v)] (gh K) I F:=AIo hz hn hv (λX u h=>zAA (hk X u h))
theorem WA (k:IntKind)(i d y:Nat)(h:i≤y):EF (some (.int k i)) d y=some i:=by
 simp only [EF];rw [if_pos zo];simp
def u8s (l:List UInt8):List Value:=l.map λc=>.int .u8 c.toNat
def Bytes (I:Imm)(v:Value)(l:List UInt8):Prop:=SlI I 1 v (u8s l) l.length
def Recs {α:Type}(R:α→List Value→Prop)(n:Nat):List α→List Value→Prop
 |[],cells=>cells=[]
 |x::xs,cells=>(cells.take n).length=n∧R x (cells.take n)∧Recs R n xs (cells.drop n)
section recs
variable {α:Type}{R R':α→List Value→Prop}{n:Nat}
theorem Recs.length:∀{xs:List α} {cells:List Value},Recs R n xs cells→cells.length=xs.length * n
 |[],cells,h=>by rw [h];simp
 |x::xs,cells,⟨h1,_,h2⟩=>by
  have:=Recs.length h2;rw [zar] at this;rw [zaG] at h1;simp only [zh,zaC,Nat.one_mul];omega
theorem Recs.imp (hR:∀x c,R x c→R' x c):∀{xs:List α} {cells:List Value},Recs R n xs cells→Recs R' n xs cells
 |[],_,h=>h
 |_::_,_,⟨h1,h2,h3⟩=>⟨h1,hR _ _ h2,Recs.imp hR h3⟩
theorem zAU:type_of% @Recs.imp:=@Recs.imp
theorem Recs.append:∀{xs ys:List α} {cs ds:List Value},Recs R n xs cs→Recs R n ys ds→Recs R n (xs++ys) (cs++ds)
 |[],ys,cs,ds,h,h'=>by rw [show cs=[] from h];exact h'
 |x::xs,ys,cs,ds,⟨h1,h2,h3⟩,h'=>by
  have hle:n≤cs.length:=by rw [zaG] at h1;omega
  refine ⟨?_,?_,?_⟩
  ·rw [List.take_append_of_le_length hle];exact h1
  ·rw [List.take_append_of_le_length hle];exact h2
  ·rw [List.drop_append_of_le_length hle];exact Recs.append h3 h'
theorem zAS:type_of% @Recs.append:=@Recs.append
theorem Recs.one {x:α}{c:List Value}(hl:c.length=n)(h:R x c):Recs R n [x] c:=by
 refine ⟨by rw [zg zo];exact hl,by rw [zg zo];exact h,?_⟩;show c.drop n=[];simp [hl]
theorem Recs.one_cells (hR:∀x c,R x c→∀u∈c,u.oneCell'=true):∀{xs:List α} {cells:List Value},Recs R n xs cells→∀u∈cells,u.oneCell'=true
 |[],cells,h,u,hu=>by rw [show cells=[] from h] at hu;cases hu
 |x::xs,cells,⟨_,h2,h3⟩,u,hu=>by
  rw [←zad n cells] at hu;rcases zal.1 hu with hu|hu
  ·exact hR _ _ h2 u hu
  ·exact Recs.one_cells hR h3 u hu
theorem Recs.get:∀{xs:List α} {cells:List Value} {i:Nat} {x:α},Recs R n xs cells→xs[i]? =some x→((cells.drop (i * n)).take n).length=n∧R x ((cells.drop (i * n)).take n)
 |[],_,_,_,_,h=>by simp at h
 |y::ys,cells,0,x,⟨h1,h2,_⟩,h=>by
  simp only [zah,zf] at h;subst h;simpa using ⟨by simpa using h1,h2⟩
 |y::ys,cells,i+1,x,⟨_,_,h3⟩,h=>by
  have:=Recs.get (i:=i) h3 (by simpa using h);rw [zbr] at this;rwa [show (i+1) * n=n+i * n from by rw [zaC];omega]
theorem Recs.take:∀{xs:List α} {cells:List Value} (k:Nat),Recs R n xs cells→Recs R n (xs.take k) (cells.take (k * n))
 |[],cells,k,h=>by rw [show cells=[] from h];simp [Recs]
 |x::xs,cells,0,_=>by simp [Recs]
 |x::xs,cells,k+1,⟨h1,h2,h3⟩=>by
  have hle:n≤(k+1) * n:=by rw [zaC];omega
  refine ⟨?_,?_,?_⟩
  ·rw [List.take_take,zbk hle];exact h1
  ·rw [List.take_take,zbk hle];exact h2
  ·have:=Recs.take k h3;rw [List.drop_take];rwa [show (k+1) * n - n=k * n from by rw [zaC];omega]
theorem Recs.drop:∀{xs:List α} {cells:List Value} (k:Nat),Recs R n xs cells→Recs R n (xs.drop k) (cells.drop (k * n))
 |[],cells,k,h=>by rw [show cells=[] from h];simp [Recs]
 |x::xs,cells,0,h=>by simpa using h
 |x::xs,cells,k+1,⟨_,_,h3⟩=>by
  have:=Recs.drop k h3;rw [zbr] at this;rwa [show (k+1) * n=n+k * n from by rw [zaC];omega]
end recs
section
variable {I:Imm}{L:LH}{K:Value→M}
theorem Ap {A B:M}(e:A=B)(h:B I L):A I L:=e ▸ h
end
theorem ACn (A B:M):Gd (.bool true) true A B=A:=rfl
theorem ACp (A B:M):Gd (.bool false) true A B=B:=rfl
theorem ACo (A B:M):Gd (.bool true) false A B=B:=rfl
theorem ACq (A B:M):Gd (.bool false) false A B=A:=rfl
class LSub (L L':LH):Prop where
 sub:∀x∈L,x∈L'
instance (priority:=100) lsubRefl (L:LH):LSub L L:=⟨λ_ h=>h⟩
instance (priority:=110) lsubNil (L:LH):LSub [] L:=⟨λ_ h=>by cases h⟩
instance (priority:=90) lsubCons (L L':LH)(y:Nat×Obj)[h:LSub L L']:LSub L (y::L'):=⟨λx hx=>zN _ (h.sub x hx)⟩
instance (priority:=90) lsubApp (L A L':LH)[h:LSub L L']:LSub L (A++L'):=⟨λx hx=>zba _ (h.sub x hx)⟩
instance (priority:=80) lsubAppL (L A L':LH)[h:LSub L A]:LSub L (A++L'):=⟨λx hx=>zaq _ (h.sub x hx)⟩
section readsC
variable {I I0 I1:Imm}{L L0 X:LH}{K:Value→M}{b off n:Nat}{v:Value}
theorem Cells.mono {vs:List Value}(h:Cells I0 L0 b off vs)(hI:Ext I0 I)(hL:∀x∈L0,x∈L):Cells I L b off vs:=λj u hu=>(h j u hu).mono hI hL
theorem Cells.sub {vs:List Value}{k m:Nat}(h:Cells I L b off vs):Cells I L b (off+k) ((vs.drop k).take m):=λj u hu=>by
 rw [zaZ] at hu;split at hu
 ·rw [zaR] at hu;have:=h (k+j) u hu;rwa [←zbe] at this
 ·cases hu
theorem rdC [hl:LSub L0 L](hc:Cell I0 L0 b off v)(hI:Ext I0 I)(hk:K v I L):Rv none (BA (.pointer (some ⟨b,off,none⟩))) K I L:=rd1 (hc.mono hI hl.sub) hk
theorem ASq [hl:LSub L0 X](hc:Cell I0 L0 b off v)(hI:Ext I0 I1)(hk:K v I L):Rv (some (Stay I1 X)) (BA (.pointer (some ⟨b,off,none⟩))) K I L:=IR (hc.mono hI hl.sub) hk
theorem Ep [hl:LSub L0 L]{vs:List Value}(hc:Cells I0 L0 b off vs)(hI:Ext I0 I)(hn:vs.length=n)(hk:K (.agg vs.toArray) I L):Rv none (AC n (.pointer (some ⟨b,off,none⟩))) K I L:=rdN hn (hc.mono hI hl.sub) hk
theorem Qo [hl:LSub L0 X]{vs:List Value}(hc:Cells I0 L0 b off vs)(hI:Ext I0 I1)(hn:vs.length=n)(hk:K (.agg vs.toArray) I L):Rv (some (Stay I1 X)) (AC n (.pointer (some ⟨b,off,none⟩))) K I L:=Nk hn (hc.mono hI hl.sub) hk
theorem CV [hl:LSub X L](hI:Ext I0 I)(hk:K v I L):Cf (Stay I0 X) K v I L:=ASv hI hl.sub hk
theorem keepA [hl:LSub X L](hk:K v I L)(hI:Ext I0 I:=by repeat (first|exact zAC _|assumption|refine zAB ?_ zA)):Cf (Stay I0 X) K v I L:=CV hI hk
theorem BM {B:M→M}(h:B (Stay I L) I L):Bg B I L:=draw _ (Stay.start I L) h
end readsC
def Lj {α:Type}[Inhabited α](l:List α)(i:Int):α:=l.getD i.toNat default
theorem Am {α:Type}[Inhabited α]{l:List α}{k:Nat}(h:k < l.length):Lj l (k:Int)=l[k]:=by
 simp [Lj,List.getD,h]
theorem AEC {α:Type}[Inhabited α]{l:List α}{i:Int}(h0:0≤i)(h1:i < l.length):l[i.toNat]? =some (Lj l i):=by
 have:i.toNat < l.length:=by omega
 simp [Lj,List.getD,this]
theorem ACX (b off n:Nat)(k:IntKind)(len cap:Nat)(i:Int)(h0:0≤i)(h1:i < len):ixV n (.slice (some ⟨b,off,none⟩) len cap) (.int k i)=some (.pointer (some ⟨b,off+i.toNat * n,none⟩)):=by
 simp only [ixV];rw [if_pos ⟨h0,h1⟩]
theorem News.ix {I:Imm}{L:LH}{n m:Nat}{a:Option Addr}{cap:Nat}{cells:List Value}(h:News n (.slice a m cap) I L m cells)(k:IntKind){i:Int}(h0:0≤i)(h1:i < m):
  ∃b off,ixV n (.slice a m cap) (.int k i)=some (.pointer (some ⟨b,off,none⟩))∧∀I' L',Ext I I'→(∀x∈L,x∈L')→Cells I' L' b off ((cells.drop (i.toNat * n)).take n):=by
 rcases h with ⟨a',cap',h2,h3,_⟩|⟨b,off,cap',h2,hl,hc⟩|⟨s,h2,_⟩
 ·omega
 ·simp only [Value.slice.injEq] at h2;obtain ⟨rfl,_,rfl⟩:=h2;refine ⟨b,off+i.toNat * n,ACX b off n k m cap i h0 h1,λI' L' hI hL j u hu=>?_⟩;rw [zaZ] at hu;split at hu
  ·rw [zaR] at hu;have:=(hc _ u hu).mono hI hL;rwa [←zbe] at this
  ·cases hu
 ·cases h2
def RL {α:Type}(R:Imm→α→List Value→Prop)(n:Nat)(I:Imm)(L:LH)(v:Value)(xs:List α):Prop:=
 ∃a cap cells,v= .slice a xs.length cap∧xs.length≤cap∧News n v I L xs.length cells∧Recs (R I) n xs cells
section rl
variable {α:Type}{R:Imm→α→List Value→Prop}{n:Nat}{I I':Imm}{L L':LH}{v:Value}{xs:List α}
theorem RL.len (h:RL R n I L v xs):lenV v=some (.int .i64 xs.length):=by
 obtain ⟨a,cap,cells,rfl,_⟩:=h;rfl
theorem zAK:type_of% @RL.len:=@RL.len
theorem RL.form (h:RL R n I L v xs):∃a cap,v= .slice a xs.length cap:=by
 obtain ⟨a,cap,cells,rfl,_⟩:=h;exact ⟨a,cap,rfl⟩
theorem zAF:type_of% @RL.form:=@RL.form
theorem News.mono {m:Nat}{news:List Value}(h:News n v I L m news)(hI:Ext I I')(hL:∀x∈L,x∈L'):News n v I' L' m news:=by
 rcases h with h|⟨b,off,cap,h1,h2,h3⟩|h
 ·exact .inl h
 ·exact .inr (.inl ⟨b,off,cap,h1,h2,λj u hu=>(h3 j u hu).mono hI hL⟩)
 ·exact .inr (.inr h)
theorem RL.mono (hR:∀x c,R I x c→R I' x c)(h:RL R n I L v xs)(hI:Ext I I')(hL:∀x∈L,x∈L'):RL R n I' L' v xs:=by
 obtain ⟨a,cap,cells,hv,hc,hn,hr⟩:=h;exact ⟨a,cap,cells,hv,hc,hn.mono hI hL,hr.imp hR⟩
theorem zAL:type_of% @RL.mono:=@RL.mono
theorem RL.ofI {cells:List Value}(h:SlI I n v cells xs.length)(hr:Recs (R I) n xs cells):RL R n I L v xs:=by
 have hn:=SlI.news (L:=L) h;obtain ⟨_,a,cap,hv,hle,_⟩:=h;exact ⟨a,cap,cells,hv,hle,hn,hr⟩
theorem RL.nil (a:Option Addr)(cap:Nat):RL R n I L (.slice a 0 cap) []:=⟨a,cap,[],rfl,zak _,.inl ⟨a,cap,rfl,rfl,rfl⟩,rfl⟩
theorem zAD:type_of% @RL.nil:=@RL.nil
theorem RL.ix [Inhabited α](h:RL R n I L v xs){i:Int}(h0:0≤i)(h1:i < xs.length):
  ∃b off c,ixV n v (.int .i64 i)=some (.pointer (some ⟨b,off,none⟩))∧c.length=n∧R I (Lj xs i) c∧∀I' L',Ext I I'→(∀x∈L,x∈L')→Cells I' L' b off c:=by
 obtain ⟨a,cap,cells,rfl,_,hn,hr⟩:=h;obtain ⟨b,off,hix,hc⟩:=News.ix hn .i64 h0 h1;obtain ⟨g1,g2⟩:=hr.get (AEC h0 h1);exact ⟨b,off,_,hix,g1,g2,hc⟩
theorem zAR:type_of% @RL.ix:=@RL.ix
theorem RL.part (h:RL R n I L v xs){lo hi:Nat}(h1:lo≤hi)(h2:hi≤xs.length)(blo bhi:Option Value)(hlo:EF blo 0 hi=some lo)(hhi:∀cap,xs.length≤cap→EF bhi xs.length cap=some hi):
  ∃v',Gw n v blo bhi none=some v'∧RL R n I L v' ((xs.drop lo).take (hi - lo)):=by
 obtain ⟨a,cap,cells,rfl,hcap,hn,hr⟩:=h;have hb1:=hhi cap hcap;have hlen:((xs.drop lo).take (hi - lo)).length=hi - lo:=by rw [zaG,zar];omega
 refine ⟨.slice (if cap=lo then a else a.map (·.add (lo * n))) (hi - lo) (cap - lo),?_,_,cap - lo,(cells.drop (lo * n)).take ((hi - lo) * n),by rw [hlen],by rw [hlen];omega,?_,?_⟩
 ·simp only [Gw];rw [if_neg zy];simp only [EF] at hb1 hlo ⊢;simp [hb1,hlo]
 ·rw [hlen];by_cases h0:hi - lo=0
  ·rw [h0];exact .inl ⟨_,_,rfl,rfl,by simp⟩
  ·rcases hn with ⟨a',cap',e1,e2,_⟩|⟨b,off,cap',e1,hl,hc⟩|⟨s,e1,_⟩
   ·omega
   ·simp only [Value.slice.injEq] at e1;obtain ⟨rfl,_,rfl⟩:=e1;refine .inr (.inl ⟨b,off+lo * n,cap - lo,by rw [if_neg zo];simp [FW],?_,λj u hu=>?_⟩)
    ·rw [zaG,zar,hl];apply zbk
     rw [←Nat.sub_mul];exact zaE n zo
    ·rw [zaZ] at hu;split at hu
     ·rw [zaR] at hu;have:=hc _ u hu;rwa [←zbe] at this
     ·cases hu
   ·cases e1
 ·exact (hr.drop lo).take (hi - lo)
theorem RL.clip (h:RL R n I L v xs){j:Nat}(hj:j≤xs.length):∃a',Gw n v none (some (.int .i64 j)) (some (.int .i64 j))=some (.slice a' j j)∧RL R n I L (.slice a' j j) (xs.take j):=by
 obtain ⟨a,cap,cells,rfl,hcap,hn,hr⟩:=h;have hlen:(xs.take j).length=j:=by rw [zaG];omega
 refine ⟨if j=0 then a else a.map (·.add (0 * n)),?_,_,j,cells.take (j * n),by rw [hlen],by rw [hlen];exact zW _,?_,hr.take j⟩
 ·simp only [Gw,Option.isNone_some,Bool.false_and,zt,if_false];rw [WA _ _ _ _ zo,zbs,WA _ _ _ _ (zW _),zbs,show EF none 0 j=some 0 from rfl,zbs];simp
 ·rw [hlen];by_cases h0:j=0
  ·subst h0;exact .inl ⟨_,_,rfl,rfl,by simp⟩
  ·rcases hn with ⟨a',cap',e1,e2,_⟩|⟨b,off,cap',e1,hl,hc⟩|⟨s,e1,_⟩
   ·omega
   ·simp only [Value.slice.injEq] at e1;obtain ⟨rfl,_,rfl⟩:=e1;refine .inr (.inl ⟨b,off,j,by rw [if_neg h0];simp [FW],?_,λi u hu=>?_⟩)
    ·rw [zaG,hl];exact zbk (zaE n hj)
    ·rw [zaZ] at hu;split at hu
     ·exact hc _ u hu
     ·cases hu
   ·cases e1
end rl
def GrO (I:Imm)(T n:Nat)(X:LH)(v:Value)(cells:List Value)(len:Nat):Prop:=
 SlO T n X v cells len∨(X=[]∧(∃a,v= .slice a len len)∧SlI I n v cells len)
theorem GrO.mono {I I':Imm}{T n:Nat}{X:LH}{v:Value}{cells:List Value}{len:Nat}(h:GrO I T n X v cells len)(hI:Ext I I'):GrO I' T n X v cells len:=by
 rcases h with h|⟨h1,h2,h3⟩
 ·exact .inl h
 ·exact .inr ⟨h1,h2,h3.mono hI⟩
theorem GrO.news {I:Imm}{T n len:Nat}{X F:LH}{v:Value}{cells:List Value}(h:GrO I T n X v cells len)(hF:∀x∈X,x∈F):News n v I F len cells:=by
 rcases h with h|⟨h1,h2,h3⟩
 ·exact h.news hF
 ·exact SlI.news h3
theorem GrO.form {I:Imm}{T n len:Nat}{X:LH}{v:Value}{cells:List Value}(h:GrO I T n X v cells len):∃a cap,v= .slice a len cap∧len≤cap:=by
 rcases h with h|⟨h1,⟨a,h2⟩,h3⟩
 ·obtain ⟨_,h⟩:=h;rcases h with ⟨_,rfl,a,rfl⟩|⟨b,cap,cs,_,rfl,_,hle,_⟩
  ·exact ⟨a,0,rfl,zW _⟩
  ·exact ⟨_,cap,rfl,hle⟩
 ·exact ⟨a,len,h2,zW _⟩
theorem AJd {I:Imm}{L F:LH}(hp:L.Perm F){T n bytes len m:Nat}{z:Array Value}{s x:Value}{a:Option Addr}{olds news:List Value}{K:Value→M}(hz:z.size=n)(hs:s= .slice a len len)(ho:News n s I L len olds)(hn:News n x I L m news)
  (h1:∀u∈news,u.oneCell'=true) (hm:0 < m) (hb:(len+m) * bytes≤150000000000000) (hm':len+m≤150000000000000) (hk:∀X' v',SlO T n X' v' (olds++news) (len+m)→K v' I (X'++F)):App T n bytes z s x (gh K) I L:=by
 have hol:=ho.length;have hnl:=hn.length;have hlen:(olds++news).length=(len+m) * n:=by rw [zn,hol,hnl,zaC]
 refine ⟨a,len,len,m,news,hs,hn,h1,.inr (.inr ⟨by omega,hb,hm',olds,L,ho,List.Sublist.refl _,λb c hc=>?_⟩)⟩;refine Gh.perm (List.Perm.cons _ hp) (zAA (hk [(b,_)] _ ⟨hlen,.inr ⟨b,c,_,rfl,rfl,?_,hc,?_⟩⟩))
 ·simp only [Array.size_append,List.size_toArray,Fg,hz,hlen];rw [←zaC];congr 1;omega
 ·intro j u hu;have hlt:j < (olds++news).length:=(zY.1 hu).1;rw [zaL (by simpa using hlt)];simpa using hu
theorem ARL {I:Imm}{X L F:LH}[hsp:SplitL X L F]{T n bytes len m:Nat}{z:Array Value}{s x:Value}{cells news:List Value}{K:Value→M}(hz:z.size=n)(ho:GrO I T n X s cells len)(hn:News n x I L m news)
  (h1:∀u∈news,u.oneCell'=true) (hb:(len+m) * bytes≤150000000000000) (hm:len+m≤150000000000000)
  (hk:∀X' v',GrO I T n X' v' (cells++news) (len+m)→K v' I (X'++F)):App T n bytes z s x (gh K) I L:=by
 rcases ho with ho|⟨rfl,⟨a,ha⟩,h3⟩
 ·exact Dx hz ho hn h1 hb hm (λX' v' h=>hk X' v' (.inl h))
 ·have hp:=hsp.perm;by_cases h0:m=0
  ·subst h0;have hnil:news=[]:=zae (by simpa using hn.length);subst hnil;refine ⟨a,len,len,0,[],ha,hn,h1,.inl ⟨zW _,rfl,Gh.perm hp (zAA ?_)⟩⟩;have:=hk [] s (.inr ⟨rfl,⟨a,ha⟩,by simpa using h3⟩);rw [ha] at this;exact this
  ·exact AJd hp hz ha (SlI.news h3 (L:=L)) hn h1 zo hb hm (λX' v' h=>hk X' v' (.inl h))
theorem ACA {I:Imm}{X L F:LH}[hsp:SplitL X L F]{T len:Nat}{v u:Value}{cells:List Value}{K:Value→M}{i:Int}(ho:SlO T 1 X v cells len)(h0:0≤i)(h1:i < len)(hu:u.oneCell'=true)
  (hk:∀X',SlO T 1 X' v (cells.set i.toNat u) len→K undef I (X'++F)):
  ∃b,ixV 1 v (.int .i64 i)=some (.pointer (some ⟨b,i.toNat,none⟩))∧Sto 1 (.pointer (some ⟨b,i.toNat,none⟩)) u (gh K) I L:=by
 have hp:=hsp.perm;obtain ⟨hl,ho'⟩:=ho;rcases ho' with ⟨rfl,rfl,a,rfl⟩|⟨b,cap,cs,rfl,rfl,hcs,hle,hc⟩
 ·omega
 ·refine ⟨b,by rw [ACX b 0 1 .i64 len cap i h0 h1,zaA,Nat.mul_one],?_⟩;have hmem:(b,Obj.cells cs T (0,0))∈L:=hp.mem_iff.2 (zaq _ (zX.2 rfl));obtain ⟨L1,L2,rfl⟩:=List.append_of_mem hmem;have hF:(L1++L2).Perm F:=by
   have h2:(L1++(b,Obj.cells cs T (0,0))::L2).Perm ((b,Obj.cells cs T (0,0))::(L1++L2)):=zaw;exact (List.perm_cons _).1 (h2.symm.trans hp)
  have huc:u.cells=#[u]:=by cases u <;> first|rfl|simp [Value.oneCell'] at hu
  refine ⟨b,i.toNat,cs,T,(0,0),L1,L2,rfl,by simp [huc],by simp [huc];exact hu,by omega,.inl rfl,rfl,?_⟩;refine Gh.perm (zaw.trans (List.Perm.cons _ hF)) (zAA (hk [(b,_)] ⟨by simp [hl],.inr ⟨b,cap,_,rfl,rfl,by rw [Ot];exact hcs,hle,?_⟩⟩));intro j w hw;simp only [huc,wr];rw [List.getElem?_set] at hw;split at hw
  ·rename_i e
   subst e;split at hw
   ·cases hw
    rw [Array.getElem?_setIfInBounds_self_of_lt zo]
   ·cases hw
  ·rename_i e
   rw [zax e];exact hc j w hw
def Kz (w:World):Imm:=λb=>w.heap[b]?
def ASs (w:World):Om:=⟨w.tape,w.os,w.output,w.drawn⟩
theorem st_start (w:World):St (ASs w) w (Kz w) []:=⟨λ_ _ h=>h,λ_ _ h=>(zaH h).elim,List.nodup_nil,λ_ _ h=>(zaH h).elim,rfl,rfl,rfl,zW _⟩
theorem law_below {P:Program}{f:FuncId}{args:Array Value}{w:World}(h:∀ω,Cal P ω f args (λv I' _=>v= .bool true∧Ext (Kz w) I') (Kz w) []):
  Calls P f args w λe w'=>e= .returned (.bool true)∧RowKit.Below w.heap.size w w':=by
 refine (h (ASs w) w (st_start w)).mono ?_;rintro e w' ⟨v,I',L',rfl,hs,rfl,hI⟩;have hblk:∀k,k < w.heap.size→w'.heap[k]? =w.heap[k]? :=by
  intro k hk;have h1:Kz w k=some w.heap[k]:=zav hk;rw [hs.imm k _ (hI k _ h1)];exact h1.symm
 refine ⟨rfl,hs.os,hs.tape,hs.out,?_,hblk⟩;rcases Nat.eq_zero_or_pos w.heap.size with h0|h0
 ·omega
 ·have:=hblk (w.heap.size - 1) zo;rw [zav (by omega:w.heap.size - 1 < w.heap.size)] at this;have:=(zB.1 this).1;omega
def TrR (rz:Nat)(P:Program)(w:World)(T:TypeId)(cs:List Value):Prop:=
 ∃(H:Type) (enc:TypeId×Value→H) (fuel:Nat) (d:DataW H) (ps:List MemPlace),DataW.trod enc P w 0 (λ_=>true) true fuel T cs=some (d,ps)∧(d.weights P T).all (·≤rz)=true
abbrev Tr:=TrR reachBytes
section
variable {rz:Nat}{P:Program}{w:World}{T:TypeId}{cs:List Value}
theorem ADE (hu:P.underlying T=some .string)(h:TrR rz P w T cs):∃s,cs=[.string s]∧s.size≤rz:=by
 obtain ⟨H,enc,fuel,d,ps,h,hw⟩:=h;cases fuel with
 |zero=>simp [DataW.trod] at h
 |succ fuel=>
  simp only [DataW.trod,hu] at h;split at h <;> simp_all
  obtain ⟨_,rfl,_⟩:=h;simpa [DataW.weights] using hw
variable {r:Reach}{base:Nat}{v:Value}
end
def str (l:List UInt8):Value:=.string ⟨l.toArray⟩
def StrV (_:Imm)(x:List UInt8)(c:List Value):Prop:=c=[.string ⟨x.toArray⟩]
def FX {α:Type}(R:Imm→α→List Value→Prop)(n:Nat)(I:Imm)(xs:List α)(c:List Value):Prop:=∃v,c=[v]∧RL R n I [] v xs
theorem StrV.mono {I I':Imm}{x:List UInt8}{c:List Value}(h:StrV I x c)(hI:Ext I I'):StrV I' x c:=h
section
variable {rz:Nat}{P:Program}{W:World}{T:TypeId}
theorem ANg {cs:List Value}(hu:P.underlying T=some .string)(h:TrR rz P W T cs):∃s:List UInt8,cs=[.string ⟨s.toArray⟩]∧s.length≤rz:=by
 obtain ⟨s,hs,hb⟩:=ADE hu h;refine ⟨s.data.toList,by rw [hs],?_⟩;rw [Array.length_toList];exact hb
end
end Go.SL
namespace Go.Proofs.YtkifgfanjcfedaaGreatDoor
open Go.SL
abbrev Bs:=List UInt8
structure Tok where
 kind:Int
 at':Nat
 text:Bs
 num:Int
deriving DecidableEq
instance:Inhabited Tok:=⟨⟨0,0,[],0⟩⟩
structure Flt where
 code:Int
 at':Int
deriving DecidableEq
def Bq (c:UInt8):Bool:=(97≤c&&c≤122)||(65≤c&&c≤90)||c==95
def BI (c:UInt8):Bool:=48≤c&&c≤57
def NM (c:UInt8):Bool:=c==9||c==10||c==12||c==13||c==32
def Di (c:UInt8):UInt8:=if 65≤c&&c≤90 then c+32 else c
def wordsL:List Bs:=[[97,110,100],[97,115],[97,115,99],[98,101,103,105,110],[98,101,116,119,101,101,110],[98,121],[99,97,115,101],[99,111,109,109,105,116],[99,114,101,97,116,101],[99,114,111,115,115],[100,101,102,97,117,108,116],[100,101,108,101,116,101],[100,101,115,99],[100,105,115,116,105,110,99,116],[100,114,111,112],[101,108,115,101],[101,110,100],[102,97,108,115,101],[102,114,111,109],[103,114,111,117,112],[104,97,118,105,110,103],[105,110],[105,110,100,101,120],[105,110,110,101,114],[105,110,115,101,114,116],[105,110,116,111],[105,115],[106,111,105,110],[107,101,121],[108,101,102,116],[108,105,107,101],[108,105,109,105,116],[110,111,116],[110,117,108,108],[111,102,102,115,101,116],[111,110],[111,114],[111,114,100,101,114],[112,114,105,109,97,114,121],[114,111,108,108,98,97,99,107],[115,101,108,101,99,116],[115,101,116],[116,97,98,108,101],[116,104,101,110],[116,114,117,101],[117,110,105,113,117,101],[117,112,100,97,116,101],[118,97,108,117,101,115],[119,104,101,110],[119,104,101,114,101]]
def signsL:List Bs:=[[60,61],[62,61],[60,62],[33,61],[124,124],[40],[41],[44],[46],[59],[42],[43],[45],[47],[37],[61],[60],[62]]
def Bo:Bool→Bs→Bs
 |_,[]=>[]
 |true,c::r=>if c==10 then Bo false r else Bo true r
 |false,c::r=>if NM c then Bo false r else if c==45&&r.head? ==some 45 then Bo true r else c::r
def DZ (q:UInt8):Bs→Option (Bs×Bs)
 |[]=>none
 |c::r=>if c==0 then none else if c != q then (DZ q r).map λx=>(c::x.1,x.2) else match r with
  |[]=>some ([],[])
  |d::r'=>if d==q then (DZ q r').map λx=>(q::x.1,x.2) else some ([],d::r')
def Ic:Bs→Int→Option Int
 |[],n=>some n
 |d::r,n=>if n > (9223372036854775807 - ((d.toNat:Int) - 48)) / 10 then none else Ic r (10 * n+((d.toNat:Int) - 48))
def IC (s:Bs):Option Bs:=signsL.find? λx=>x.isPrefixOf s
inductive LexR where
 |tok (t:Tok) (r:Bs)
 |bad (e:Int)
def JU (w:Bs)(at':Nat)(r:Bs):LexR:=if 63 < w.length then .bad 173 else .tok ⟨if wordsL.contains w then 2 else 1,at',w,0⟩ r
def EE (at':Nat):Bs→LexR
 |[]=>.bad 171
 |c::r=>
  if Bq c then JU (((c::r).takeWhile λc=>Bq c||BI c).map Di) at' ((c::r).dropWhile λc=>Bq c||BI c) else
  if BI c then (match Ic ((c::r).takeWhile BI) 0 with
   |none=>.bad 172
   |some k=>if ((c::r).dropWhile BI).head?.any Bq then .bad 172 else .tok ⟨3,at',[],k⟩ ((c::r).dropWhile BI)) else
  if c==34||c==39 then (match DZ c r with
   |none=>.bad 173
   |some (s,r')=>if c==34 then (if s.isEmpty||decide (63 < s.length) then .bad 173 else .tok ⟨1,at',s,0⟩ r') else .tok ⟨4,at',s,0⟩ r') else
  match IC (c::r) with
  |none=>.bad 171
  |some s=>.tok ⟨5,at',if s=[33,61] then [60,62] else s,0⟩ ((c::r).drop s.length)
inductive LexA where
 |toks (l:List Tok)
 |bad (f:Flt)
def Dh (n:Nat):Nat→List Tok→Bs→LexA
 |0,acc,_=>.toks acc
 |m+1,acc,s=>match Bo false s with
  |[]=>.toks (acc++[⟨6,n,[],0⟩])
  |c::r=>match EE (n - (r.length+1)) (c::r) with
   | .bad e=>.bad ⟨e,(n - (r.length+1):Nat)⟩
   | .tok t r'=>Dh n m (acc++[t]) r'
def Vf (s:Bs):LexA:=Dh s.length (s.length+1) [] s
structure TValue where
 fType:Int
 fNull:Bool
 fInt:Int
 fText:Bs
deriving DecidableEq
inductive Ex where
 |mk (kind:Int) (value:TValue) (table name:Bs) (slot type:Int) (distinct:Bool) (args:List Ex)
def Ex.kind:Ex→Int| .mk k _ _ _ _ _ _ _=>k
def Ex.value:Ex→TValue| .mk _ v _ _ _ _ _ _=>v
def Ex.table:Ex→Bs| .mk _ _ t _ _ _ _ _=>t
def Ex.name:Ex→Bs| .mk _ _ _ n _ _ _ _=>n
def Ex.slot:Ex→Int| .mk _ _ _ _ s _ _ _=>s
def Ex.type:Ex→Int| .mk _ _ _ _ _ t _ _=>t
def Ex.distinct:Ex→Bool| .mk _ _ _ _ _ _ d _=>d
def Ex.args:Ex→List Ex| .mk _ _ _ _ _ _ _ l=>l
def v0:TValue:=⟨0,false,0,[]⟩
def ex0:Ex:=.mk 0 v0 [] [] 0 0 false []
instance:Inhabited Ex:=⟨ex0⟩
instance:Inhabited TValue:=⟨v0⟩
def exK (k:Int)(l:List Ex):Ex:=.mk k v0 [] [] 0 0 false l
def GU (v:TValue):Ex:=.mk 1 v [] [] 0 0 false []
def FQ (t n:Bs):Ex:=.mk 2 v0 t n 0 0 false []
def Ed (n:Bs)(d:Bool)(l:List Ex):Ex:=.mk 28 v0 [] n 0 0 d l
structure TItem where
 fStar:Bool
 fTable:Bs
 fExpr:Ex
 fAs:Bs
instance:Inhabited TItem:=⟨⟨false,[],ex0,[]⟩⟩
structure TSource where
 fTable:Bs
 fAs:Bs
 fLeft:Bool
 fOn:Ex
instance:Inhabited TSource:=⟨⟨[],[],false,ex0⟩⟩
structure TOrder where
 fExpr:Ex
 fDesc:Bool
instance:Inhabited TOrder:=⟨⟨ex0,false⟩⟩
structure TSelect where
 fDistinct:Bool
 fItems:List TItem
 fFrom:List TSource
 fWhere:Ex
 fGroup:List Ex
 fHaving:Ex
 fOrder:List TOrder
 fLimit:Int
 fOffset:Int
instance:Inhabited TSelect:=⟨⟨false,[],[],ex0,[],ex0,[],0,0⟩⟩
structure TSet where
 fColumn:Bs
 fExpr:Ex
instance:Inhabited TSet:=⟨⟨[],ex0⟩⟩
structure TCol where
 fName:Bs
 fType:Int
 fNotNull:Bool
 fKey:Bool
 fUnique:Bool
 fDefault:Ex
instance:Inhabited TCol:=⟨⟨[],0,false,false,false,ex0⟩⟩
structure TIdx where
 fName:Bs
 fTable:Bs
 fColumns:List Bs
 fUnique:Bool
instance:Inhabited TIdx:=⟨⟨[],[],[],false⟩⟩
structure TStmt where
 fKind:Int
 fSelect:TSelect
 fTable:Bs
 fColumns:List Bs
 fRows:List (List Ex)
 fSets:List TSet
 fWhere:Ex
 fCols:List TCol
 fKey:List Bs
 fIndex:TIdx
instance:Inhabited TStmt:=⟨⟨0,default,[],[],[],[],ex0,[],[],default⟩⟩
inductive Res (α:Type) where
 |ok (x:α) (r:List Tok)
 |err (at':Nat)
abbrev Pr (α:Type):=List Tok→Res α
def Res.bind {α β:Type}(x:Res α)(f:α→Pr β):Res β:=match x with
 | .ok a r=>f a r
 | .err e=>.err e
def hd (l:List Tok):Tok:=l.headD default
def bad {α:Type}(l:List Tok):Res α:=.err (hd l).at'
def isT (l:List Tok)(s:Bs):Bool:=((hd l).kind==2||(hd l).kind==5)&&(hd l).text==s
def isK (l:List Tok)(k:Int):Bool:=(hd l).kind==k
def AP (s:Bs):Pr Unit:=λl=>if isT l s then .ok () l.tail else bad l
def Ar:Pr Bs:=λl=>if isK l 1 then .ok (hd l).text l.tail else bad l
def Cm {α:Type}(one:Pr α):Nat→List α→Pr (List α)
 |0,acc,l=>.ok acc l
 |n+1,acc,l=>if isT l [44] then (one l.tail).bind λx r=>Cm one n (acc++[x]) r else .ok acc l
def BL {α:Type}(n:Nat)(one:Pr α):Pr (List α):=λl=>(one l).bind λx r=>Cm one n [x] r
def Bc {α:Type}(n:Nat)(one:Pr α):Pr (List α):=λl=>(AP [40] l).bind λ_ r=>(BL n one r).bind λx r=>(AP [41] r).bind λ_ r=>.ok x r
def Eb (one:Pr Ex)(op:List Tok→Int):Nat→Ex→Pr Ex
 |0,x,l=>.ok x l
 |n+1,x,l=>if op l=0 then .ok x l else (one l.tail).bind λy r=>Eb one op n (exK (op l) [x,y]) r
def Ci (n:Nat)(one:Pr Ex)(op:List Tok→Int):Pr Ex:=λl=>(one l).bind λx r=>Eb one op n x r
def KW (l:List Tok):Int:=if isT l [111,114] then 22 else 0
def Gi (l:List Tok):Int:=if isT l [97,110,100] then 21 else 0
def IA (f:Bs→Option Int)(l:List Tok):Int:=if isK l 5 then (f (hd l).text).getD 0 else 0
def MH (s:Bs):Option Int:=if s=[43] then some 9 else if s=[45] then some 10 else if s=[124,124] then some 14 else none
def IB (s:Bs):Option Int:=if s=[42] then some 11 else if s=[47] then some 12 else if s=[37] then some 13 else none
def Kv:List Tok→Int:=IA MH
def IV:List Tok→Int:=IA IB
def DJ (l:List Tok):Int:=if isT l [61] then 15 else if isT l [60,62] then 16 else if isT l [60] then 17 else if isT l [60,61] then 18 else if isT l [62] then 19 else if isT l [62,61] then 20 else 0
def GR (l:List Tok):Option TValue:=
 if isK l 4 then some ⟨3,false,0,(hd l).text⟩ else if isT l [116,114,117,101] then some ⟨2,false,1,[]⟩ else if isT l [102,97,108,115,101] then some ⟨2,false,0,[]⟩ else if isT l [110,117,108,108] then some ⟨4,true,0,[]⟩ else none
def KX:Pr Ex:=λl=>if isK l 3 then .ok (GU ⟨1,false,(hd l).num,[]⟩) l.tail else bad l
def FP:Pr Ex:=λl=>match GR l with
 |some v=>.ok (GU v) l.tail
 |none=>if isT l [45] then (KX l.tail).bind λx r=>.ok (exK 4 [x]) r else KX l
def Dl (n:Nat)(E:Pr Ex)(acc:List Ex):Pr (List Ex):=λl=>(AP [119,104,101,110] l).bind λ_ r=>(E r).bind λa r=>(AP [116,104,101,110] r).bind λ_ r=>(E r).bind λb r=>.ok (acc++[a,b]) r
def DV (n:Nat)(E:Pr Ex):Nat→List Ex→Pr (List Ex)
 |0,acc,l=>.ok acc l
 |m+1,acc,l=>if isT l [119,104,101,110] then (Dl n E acc l).bind λa r=>DV n E m a r else .ok acc l
def FD (n:Nat)(E:Pr Ex):Pr Ex:=λl=>(Dl n E [] l).bind λa r=>(DV n E n a r).bind λa r=>
 (if isT r [101,108,115,101] then (E r.tail).bind λx r=>.ok (a++[x]) r else Res.ok a r).bind λa r=>(AP [101,110,100] r).bind λ_ r=>.ok (exK 26 a) r
def isAgg (s:Bs):Bool:=s==[99,111,117,110,116]||s==[115,117,109]||s==[109,105,110]||s==[109,97,120]||s==[97,118,103]
def Dt (s:Bs):Bool:=s==[99,111,97,108,101,115,99,101]||s==[108,101,110,103,116,104]||isAgg s
def DF (n:Nat)(E:Pr Ex)(s:Bs):Pr Ex:=λl=>
 if s=[99,111,97,108,101,115,99,101] then (Bc n E l).bind λa r=>.ok (exK 27 a) r else
 (AP [40] l).bind λ_ r=>
 if s=[108,101,110,103,116,104] then (E r).bind λx r=>(AP [41] r).bind λ_ r=>.ok (exK 8 [x]) r else
 if (s==[99,111,117,110,116]&&isT r [42])=true then (AP [41] r.tail).bind λ_ r=>.ok (Ed s false [exK 3 []]) r else
 (E (if isT r [100,105,115,116,105,110,99,116] then r.tail else r)).bind λx r'=>(AP [41] r').bind λ_ r'=>.ok (Ed s (isT r [100,105,115,116,105,110,99,116]) [x]) r'
def Fp (n:Nat)(E U:Pr Ex):Pr Ex:=λl=>
 if isT l [45] then (U l.tail).bind λx r=>.ok (exK 4 [x]) r else
 if isT l [40] then (E l.tail).bind λx r=>(AP [41] r).bind λ_ r=>.ok x r else
 if isT l [99,97,115,101] then FD n E l.tail else
 if isK l 3 then KX l else
 match GR l with
 |some v=>.ok (GU v) l.tail
 |none=>(Ar l).bind λs r=>
  if isT r [40]&&Dt s then DF n E s r else
  if isT r [46] then (Ar r.tail).bind λc r=>.ok (FQ s c) r else .ok (FQ [] s) r
def Lh (b:Bool)(x:Ex):Ex:=if b then exK 5 [x] else x
def II (n:Nat)(E S:Pr Ex):Pr Ex:=λl=>(S l).bind λx r=>
 if DJ r≠0 then (S r.tail).bind λy r'=>.ok (exK (DJ r) [x,y]) r' else
 if isT r [105,115] then (if isT r.tail [110,111,116] then (AP [110,117,108,108] r.tail.tail).bind λ_ r=>.ok (exK 7 [x]) r else (AP [110,117,108,108] r.tail).bind λ_ r=>.ok (exK 6 [x]) r) else
 let b:=isT r [110,111,116]
 let q:=if b then r.tail else r
 if isT q [105,110] then (Bc n E q.tail).bind λa r=>.ok (Lh b (exK 24 (x::a))) r else
 if isT q [98,101,116,119,101,101,110] then (S q.tail).bind λy r=>(AP [97,110,100] r).bind λ_ r=>(S r).bind λz r=>.ok (Lh b (exK 25 [x,y,z])) r else
 if isT q [108,105,107,101] then (S q.tail).bind λy r=>.ok (Lh b (exK 23 [x,y])) r else
 if b then bad q else .ok x q
def RF (N Q:Pr Ex):Pr Ex:=λl=>if isT l [110,111,116] then (N l.tail).bind λx r=>.ok (exK 5 [x]) r else Q l
def Ii:Nat→Pr Ex×Pr Ex×Pr Ex
 |0=>(λ_=>.err 0,λ_=>.err 0,λ_=>.err 0)
 |n+1=>
  let U:=Fp n (Ii n).1 (Ii n).2.2
  let S:=Ci n (Ci n U IV) Kv
  let N:=RF (Ii n).2.1 (II n (Ii n).1 S)
  (Ci n (Ci n N Gi) KW,N,U)
def eP (n:Nat):Pr Ex:=(Ii n).1
def nP (n:Nat):Pr Ex:=(Ii n).2.1
def uP (n:Nat):Pr Ex:=(Ii n).2.2
def DW (n:Nat)(s:Bs):Pr Ex:=λl=>if isT l s then eP n l.tail else .ok ex0 l
def Ec (n:Nat):Pr TItem:=λl=>
 if isT l [42] then .ok ⟨true,[],ex0,[]⟩ l.tail else
 if isK l 1&&isK l.tail 5&&(hd l.tail).text==[46]&&isK l.tail.tail 5&&(hd l.tail.tail).text==[42] then .ok ⟨true,(hd l).text,ex0,[]⟩ l.tail.tail.tail else
 (eP n l).bind λx r=>if isT r [97,115] then (Ar r.tail).bind λa r=>.ok ⟨false,[],x,a⟩ r else .ok ⟨false,[],x,[]⟩ r
def Ef (n:Nat):Pr TOrder:=λl=>(eP n l).bind λx r=>if isT r [100,101,115,99] then .ok ⟨x,true⟩ r.tail else if isT r [97,115,99] then .ok ⟨x,false⟩ r.tail else .ok ⟨x,false⟩ r
def CU:Pr TSource:=λl=>(Ar l).bind λs r=>if isT r [97,115] then (Ar r.tail).bind λa r=>.ok ⟨s,a,false,ex0⟩ r else if isK r 1 then (Ar r).bind λa r=>.ok ⟨s,a,false,ex0⟩ r else .ok ⟨s,[],false,ex0⟩ r
def Hg (n:Nat)(b:Bool):Pr TSource:=λl=>(AP [106,111,105,110] l).bind λ_ r=>(CU r).bind λs r=>(AP [111,110] r).bind λ_ r=>(eP n r).bind λx r=>.ok ⟨s.fTable,s.fAs,b,x⟩ r
def CS (n:Nat):Nat→List TSource→Pr (List TSource)
 |0,acc,l=>.ok acc l
 |m+1,acc,l=>
  if isT l [44] then (CU l.tail).bind λs r=>CS n m (acc++[s]) r else
  if isT l [99,114,111,115,115] then (AP [106,111,105,110] l.tail).bind λ_ r=>(CU r).bind λs r=>CS n m (acc++[s]) r else
  if isT l [108,101,102,116] then (Hg n true l.tail).bind λs r=>CS n m (acc++[s]) r else
  if isT l [105,110,110,101,114] then (Hg n false l.tail).bind λs r=>CS n m (acc++[s]) r else
  if isT l [106,111,105,110] then (Hg n false l).bind λs r=>CS n m (acc++[s]) r else .ok acc l
def JY (n:Nat):Pr (List TSource):=λl=>(CU l).bind λs r=>CS n n [s] r
def EO:Pr Int:=λl=>if isK l 3&&decide ((hd l).num≤2147483647) then .ok (hd l).num l.tail else bad l
def SS {α:Type}(s:Bs)(d:α)(p:Pr α):Pr α:=λl=>if isT l s then p l.tail else .ok d l
def byP {α:Type}(p:Pr α):Pr α:=λl=>(AP [98,121] l).bind λ_ r=>p r
def FM (n:Nat):Pr TSelect:=λl=>
 let d:=isT l [100,105,115,116,105,110,99,116]
 (BL n (Ec n) (if d then l.tail else l)).bind λitems r=>
 (SS [102,114,111,109] [] (JY n) r).bind λfroms r=>
 (DW n [119,104,101,114,101] r).bind λwh r=>
 (SS [103,114,111,117,112] [] (byP (BL n (eP n))) r).bind λgr r=>
 (DW n [104,97,118,105,110,103] r).bind λha r=>
 (SS [111,114,100,101,114] [] (byP (BL n (Ef n))) r).bind λod r=>
 (SS [108,105,109,105,116] (-1) EO r).bind λli r=>
 (SS [111,102,102,115,101,116] 0 EO r).bind λoff r=>.ok ⟨d,items,froms,wh,gr,ha,od,li,off⟩ r
def Nh (n:Nat):Pr TSet:=λl=>(Ar l).bind λs r=>(AP [61] r).bind λ_ r=>(eP n r).bind λx r=>.ok ⟨s,x⟩ r
def typeOf (s:Bs):Int:=if s=[105,110,116]∨s=[105,110,116,101,103,101,114]∨s=[98,105,103,105,110,116] then 1 else if s=[98,111,111,108]∨s=[98,111,111,108,101,97,110] then 2 else if s=[116,101,120,116] then 3 else 0
def Dc:Nat→TCol→Pr TCol
 |0,c,l=>.ok c l
 |n+1,c,l=>
  if !c.fNotNull&&isT l [110,111,116] then (AP [110,117,108,108] l.tail).bind λ_ r=>Dc n {c with fNotNull:=true} r else
  if !c.fKey&&isT l [112,114,105,109,97,114,121] then (AP [107,101,121] l.tail).bind λ_ r=>Dc n {c with fKey:=true} r else
  if !c.fUnique&&isT l [117,110,105,113,117,101] then Dc n {c with fUnique:=true} l.tail else
  if c.fDefault.kind==0&&isT l [100,101,102,97,117,108,116] then (FP l.tail).bind λx r=>Dc n {c with fDefault:=x} r else .ok c l
def DX (n:Nat):Pr TCol:=λl=>(Ar l).bind λs r=>
 let t:=if isK r 1 then typeOf (hd r).text else 0
 if t=0 then bad r else Dc n ⟨s,t,false,false,false,ex0⟩ r.tail
def EJ (n:Nat):Nat→List TCol→List Bs→Pr (List TCol×List Bs)
 |0,cs,ks,l=>.ok (cs,ks) l
 |m+1,cs,ks,l=>
  (if ks.isEmpty&&isT l [112,114,105,109,97,114,121] then (AP [107,101,121] l.tail).bind λ_ r=>(Bc n Ar r).bind λk r=>.ok (cs,k) r else (DX n l).bind λc r=>Res.ok (cs++[c],ks) r).bind λx r=>
  if isT r [44] then EJ n m x.1 x.2 r.tail else .ok x r
def Je (n:Nat):Pr TStmt:=λl=>(Ar l).bind λs r=>(AP [40] r).bind λ_ r=>(EJ n (n+1) [] [] r).bind λx r=>
 if x.1.isEmpty then bad r else (AP [41] r).bind λ_ r=>.ok {(default:TStmt) with fKind:=5,fTable:=s,fCols:=x.1,fKey:=x.2} r
def EX (n:Nat):Pr TStmt:=λl=>if isT l [116,97,98,108,101] then Je n l.tail else
 let u:=isT l [117,110,105,113,117,101]
 (AP [105,110,100,101,120] (if u then l.tail else l)).bind λ_ r=>(Ar r).bind λa r=>(AP [111,110] r).bind λ_ r=>(Ar r).bind λt r=>(Bc n Ar r).bind λc r=>
 .ok {(default:TStmt) with fKind:=6,fIndex:=⟨a,t,c,u⟩} r
def Fe:Pr TStmt:=λl=>if isT l [116,97,98,108,101] then (Ar l.tail).bind λs r=>.ok {(default:TStmt) with fKind:=7,fTable:=s} r else
 (AP [105,110,100,101,120] l).bind λ_ r=>(Ar r).bind λs r=>.ok {(default:TStmt) with fKind:=8,fIndex:=⟨s,[],[],false⟩} r
def Du (n:Nat):Pr TStmt:=λl=>(AP [105,110,116,111] l).bind λ_ r=>(Ar r).bind λs r=>
 (if isT r [40] then Bc n Ar r else Res.ok [] r).bind λc r=>(AP [118,97,108,117,101,115] r).bind λ_ r=>(BL n (Bc n (eP n)) r).bind λx r=>.ok {(default:TStmt) with fKind:=2,fTable:=s,fColumns:=c,fRows:=x} r
def Dp (n:Nat):Pr TStmt:=λl=>(Ar l).bind λs r=>(AP [115,101,116] r).bind λ_ r=>(BL n (Nh n) r).bind λx r=>(DW n [119,104,101,114,101] r).bind λw r=>.ok {(default:TStmt) with fKind:=3,fTable:=s,fSets:=x,fWhere:=w} r
def EG (n:Nat):Pr TStmt:=λl=>(AP [102,114,111,109] l).bind λ_ r=>(Ar r).bind λs r=>(DW n [119,104,101,114,101] r).bind λw r=>.ok {(default:TStmt) with fKind:=4,fTable:=s,fWhere:=w} r
def Dy (n:Nat):Pr TStmt:=λl=>
 if isT l [115,101,108,101,99,116] then (FM n l.tail).bind λq r=>.ok {(default:TStmt) with fKind:=1,fSelect:=q} r else
 if isT l [105,110,115,101,114,116] then Du n l.tail else
 if isT l [117,112,100,97,116,101] then Dp n l.tail else
 if isT l [100,101,108,101,116,101] then EG n l.tail else
 if isT l [99,114,101,97,116,101] then EX n l.tail else
 if isT l [100,114,111,112] then Fe l.tail else
 if isT l [98,101,103,105,110] then .ok {(default:TStmt) with fKind:=9} l.tail else
 if isT l [99,111,109,109,105,116] then .ok {(default:TStmt) with fKind:=10} l.tail else
 (AP [114,111,108,108,98,97,99,107] l).bind λ_ r=>.ok {(default:TStmt) with fKind:=11} r
def Bj (n:Nat):Nat→List TStmt→Pr (List TStmt)
 |0,acc,l=>.ok acc l
 |m+1,acc,l=>if isK l 6 then .ok acc l else if isT l [59] then Bj n m acc l.tail else
  (Dy n l).bind λs r=>if isK r 6||isT r [59] then Bj n m (acc++[s]) r else bad r
mutual
def Af:Ex→Nat
 | .mk _ _ _ _ _ _ _ l=>AX l+1
def AX:List Ex→Nat
 |[]=>0
 |x::l=>Af x+AX l
end
mutual
def DC:Ex→Nat
 | .mk _ _ _ _ _ _ _ l=>BU l+1
def BU:List Ex→Nat
 |[]=>0
 |x::l=>max (DC x) (BU l)
end
def EL (s:TStmt):List Ex:=
 (s.fSelect.fItems.map (·.fExpr)++s.fSelect.fFrom.map (·.fOn)++[s.fSelect.fWhere,s.fSelect.fHaving,s.fWhere]++s.fSelect.fGroup++s.fSelect.fOrder.map (·.fExpr)++s.fRows.flatten++s.fSets.map (·.fExpr)++s.fCols.map (·.fDefault)).filter λx=>x.kind != 0
def Ha (s:TStmt):Nat:=AX (EL s)+1
def Ri (s:TStmt):Nat:=BU (EL s)
def BH (l:List TStmt):Nat:=(l.map Ha).sum
def Cc:List TStmt→Nat
 |[]=>0
 |s::l=>max (Ri s) (Cc l)
def ok0:Flt:=⟨0,0⟩
def readA (s:Bs):List TStmt×Flt:=match Vf s with
 | .bad f=>([],f)
 | .toks l=>match Bj l.length (l.length+1) [] l with
  | .ok x _=>(x,ok0)
  | .err a=>([],⟨174,a⟩)
def Jr (parts deep:Nat):Int:=if 64 < deep then 175 else if 2000 < parts then 176 else 0
def CQ (s:Bs):List TStmt×Flt:=
 if 65536 < s.length then ([],⟨170,65536⟩) else
 if (readA s).2≠ok0 then ([],(readA s).2) else
 if Jr (BH (readA s).1) (Cc (readA s).1)≠0 then ([],⟨Jr (BH (readA s).1) (Cc (readA s).1),0⟩) else ((readA s).1,ok0)
def AIa:Nat→Nat→Bs→Bs
 |0,_,acc=>acc
 |f+1,n,acc=>if n < 10 then UInt8.ofNat (48+n)::acc else AIa f (n / 10) (UInt8.ofNat (48+n % 10)::acc)
def Rl (b:Bool)(n:Int):Bs:=if n < 0 then (if b then 45::AIa (n.natAbs+1) n.natAbs [] else [45]) else AIa (n.toNat+1) n.toNat []
def LV (q:UInt8)(s:Bs):Bs:=q::(s.flatMap λc=>if c==q then [q,q] else [c])++[q]
def NG (s:Bs):Bool:= !s.isEmpty&& !s.head?.any BI&& !wordsL.contains s&&s.all λc=>(Bq c||BI c)&& !(65≤c&&c≤90)
def nameB (s:Bs):Bs:=if NG s then s else LV 34 s
def Aw:List Bs→Bs
 |[]=>[]
 |[x]=>x
 |x::y::l=>x++[44,32]++Aw (y::l)
def GZ (l:List Bs):Bs:=[40]++Aw (l.map nameB)++[41]
def Gx (k:Int):Option (Bs×Int):=
 if k=22 then some ([111,114],1) else if k=21 then some ([97,110,100],2) else if k=23 then some ([108,105,107,101],4) else
 if k=15 then some ([61],4) else if k=16 then some ([60,62],4) else if k=17 then some ([60],4) else if k=18 then some ([60,61],4) else if k=19 then some ([62],4) else if k=20 then some ([62,61],4) else
 if k=9 then some ([43],5) else if k=10 then some ([45],5) else if k=14 then some ([124,124],5) else if k=11 then some ([42],6) else if k=12 then some ([47],6) else if k=13 then some ([37],6) else none
def AKX (k:Int):Int:=if k=5 then 3 else if k=6∨k=7∨k=24∨k=25 then 4 else if k=4 then 7 else match Gx k with
 |some s=>s.2
 |none=>8
def ACy (b:Bool)(v:TValue):Bs:=if v.fNull then [110,117,108,108] else if v.fType=3 then LV 39 v.fText else if v.fType=2 then (if v.fInt=1 then [116,114,117,101] else [102,97,108,115,101]) else Rl b v.fInt
def AKT (b:Bool)(s:Bs):Bs:=if b then [40]++s++[41] else s
def BO (b:Bool)(x:Ex)(arg:Nat→Int→Bs):Bs:=
 match Gx x.kind with
 |some (s,l)=>arg 0 (if l=4 then 5 else l)++[32]++s++[32]++arg 1 (l+1)
 |none=>
  if x.kind=1 then ACy b x.value else
  if x.kind=2 then (if x.table.isEmpty then [] else nameB x.table++[46])++nameB x.name else
  if x.kind=4 then [45]++arg 0 8 else
  if x.kind=5 then [110,111,116,32]++arg 0 3 else
  if x.kind=6 then arg 0 5++[32,105,115,32,110,117,108,108] else
  if x.kind=7 then arg 0 5++[32,105,115,32,110,111,116,32,110,117,108,108] else
  if x.kind=24 then arg 0 5++[32,105,110,32,40]++Aw ((List.range (x.args.length - 1)).map λi=>arg (i+1) 1)++[41] else
  if x.kind=25 then arg 0 5++[32,98,101,116,119,101,101,110,32]++arg 1 5++[32,97,110,100,32]++arg 2 5 else
  if x.kind=8 then [108,101,110,103,116,104,40]++arg 0 1++[41] else
  if x.kind=27 then [99,111,97,108,101,115,99,101,40]++Aw ((List.range x.args.length).map λi=>arg i 1)++[41] else
  if x.kind=26 then [99,97,115,101]++((List.range x.args.length).flatMap λi=>(if i % 2=1 then [32,116,104,101,110,32] else if i+1=x.args.length then [32,101,108,115,101,32] else [32,119,104,101,110,32])++arg i 1)++[32,101,110,100] else
  if x.kind=28 then x.name++[40]++(if x.distinct&&(b|| !(x.name==[99,111,117,110,116]&&x.args.length==1&&(x.args.getD 0 ex0).kind==3)) then [100,105,115,116,105,110,99,116,32] else [])++
   (if x.name==[99,111,117,110,116]&&x.args.length==1&&(x.args.getD 0 ex0).kind==3 then [42] else arg 0 1)++[41] else [63]
def Tz (b:Bool):Nat→Ex→Int→Bs
 |0,_,_=>[]
 |n+1,x,asked=>AKT (decide (AKX x.kind < asked)) (BO b x λi l=>match x.args[i]? with
  |some y=>Tz b n y l
  |none=>[63])
def exB (b:Bool)(x:Ex)(asked:Int):Bs:=Tz b (DC x) x asked
def Jq (b:Bool)(l:List Ex):Bs:=Aw (l.map λx=>exB b x 1)
def rowB (b:Bool)(l:List Ex):Bs:=[40]++Jq b l++[41]
def EY (b:Bool)(s:Bs)(x:Ex):Bs:=if x.kind=0 then [] else s++exB b x 1
def asB (s:Bs):Bs:=if s.isEmpty then [] else [32,97,115,32]++nameB s
def Js (b:Bool)(x:TItem):Bs:=(if x.fStar then (if x.fTable.isEmpty then [42] else nameB x.fTable++[46,42]) else exB b x.fExpr 1)++asB x.fAs
def AFI (b:Bool)(i:Nat)(x:TSource):Bs:=
 (if i=0 then [32,102,114,111,109,32] else if x.fLeft then [32,108,101,102,116,32,106,111,105,110,32] else if x.fOn.kind≠0 then [32,106,111,105,110,32] else [32,99,114,111,115,115,32,106,111,105,110,32])++nameB x.fTable++asB x.fAs++(if 0 < i∧(x.fLeft=true∨x.fOn.kind≠0) then [32,111,110,32]++exB b x.fOn 1 else [])
def Ea (b:Bool):Nat→List TSource→Bs
 |_,[]=>[]
 |i,x::l=>AFI b i x++Ea b (i+1) l
def AHk (b:Bool)(x:TOrder):Bs:=exB b x.fExpr 1++(if x.fDesc then [32,100,101,115,99] else [])
def Nl (b:Bool)(q:TSelect):Bs:=
 [115,101,108,101,99,116,32]++(if q.fDistinct then [100,105,115,116,105,110,99,116,32] else [])++Aw (q.fItems.map (Js b))++Ea b 0 q.fFrom++EY b [32,119,104,101,114,101,32] q.fWhere++(if q.fGroup.isEmpty then [] else [32,103,114,111,117,112,32,98,121,32]++Jq b q.fGroup)++
 EY b [32,104,97,118,105,110,103,32] q.fHaving++(if q.fOrder.isEmpty then [] else [32,111,114,100,101,114,32,98,121,32]++Aw (q.fOrder.map (AHk b)))++(if 0≤q.fLimit then [32,108,105,109,105,116,32]++Rl b q.fLimit else [])++(if q.fOffset=0 then [] else [32,111,102,102,115,101,116,32]++Rl b q.fOffset)
def AEx (t:Int):Bs:=if t=1 then [105,110,116] else if t=2 then [98,111,111,108] else if t=3 then [116,101,120,116] else [63]
def AAR (b:Bool)(c:TCol):Bs:=nameB c.fName++[32]++AEx c.fType++(if c.fNotNull then [32,110,111,116,32,110,117,108,108] else [])++(if c.fKey then [32,112,114,105,109,97,114,121,32,107,101,121] else [])++(if c.fUnique then [32,117,110,105,113,117,101] else [])++
 (if c.fDefault.kind=0 then [] else [32,100,101,102,97,117,108,116,32]++exB b c.fDefault (if b then 1 else 7))
def LK (b:Bool)(s:TStmt):Bs:=[99,114,101,97,116,101,32,116,97,98,108,101,32]++nameB s.fTable++[32,40]++Aw (s.fCols.map (AAR b))++(if s.fKey.isEmpty then [] else [44,32,112,114,105,109,97,114,121,32,107,101,121,32]++GZ s.fKey)++[41]
def DL (b:Bool)(s:TStmt):Bs:=
 if s.fKind=1 then Nl b s.fSelect else
 if s.fKind=2 then [105,110,115,101,114,116,32,105,110,116,111,32]++nameB s.fTable++(if s.fColumns.isEmpty then [] else [32]++GZ s.fColumns)++[32,118,97,108,117,101,115,32]++Aw (s.fRows.map (rowB b)) else
 if s.fKind=3 then [117,112,100,97,116,101,32]++nameB s.fTable++[32,115,101,116,32]++Aw (s.fSets.map λx=>nameB x.fColumn++[32,61,32]++exB b x.fExpr 1)++EY b [32,119,104,101,114,101,32] s.fWhere else
 if s.fKind=4 then [100,101,108,101,116,101,32,102,114,111,109,32]++nameB s.fTable++EY b [32,119,104,101,114,101,32] s.fWhere else
 if s.fKind=5 then LK b s else
 if s.fKind=6 then [99,114,101,97,116,101,32]++(if s.fIndex.fUnique then [117,110,105,113,117,101,32] else [])++[105,110,100,101,120,32]++nameB s.fIndex.fName++[32,111,110,32]++nameB s.fIndex.fTable++[32]++GZ s.fIndex.fColumns else
 if s.fKind=7 then [100,114,111,112,32,116,97,98,108,101,32]++nameB s.fTable else
 if s.fKind=8 then [100,114,111,112,32,105,110,100,101,120,32]++nameB s.fIndex.fName else
 if s.fKind=9 then [98,101,103,105,110] else if s.fKind=10 then [99,111,109,109,105,116] else if s.fKind=11 then [114,111,108,108,98,97,99,107] else [63]
mutual
def ASp:Ex→Ex→Bool
 | .mk k v t n s ty d l,y=>k==y.kind&&v==y.value&&t==y.table&&n==y.name&&s==y.slot&&ty==y.type&&d==y.distinct&&ANF l y.args
def ANF:List Ex→List Ex→Bool
 |[],l=>l.isEmpty
 |x::xs,l=>match l with
  |[]=>false
  |y::ys=>ASp x y&&ANF xs ys
end
abbrev Ag (x:Ex)(v:Value):List Value:=
 [.int .i64 x.kind,.int .i64 x.value.fType,.bool x.value.fNull,.int .i64 x.value.fInt,.string ⟨x.value.fText.toArray⟩,.string ⟨x.table.toArray⟩,.string ⟨x.name.toArray⟩,.int .i64 x.slot,.int .i64 x.type,.bool x.distinct,v]
mutual
def ExV (I:Imm):Ex→List Value→Prop
 | .mk k v t n s ty d l,c=>∃a cap cells,l.length≤cap∧News 11 (.slice a l.length cap) I [] l.length cells∧ExC I l cells∧c=Ag (.mk k v t n s ty d l) (.slice a l.length cap)
def ExC (I:Imm):List Ex→List Value→Prop
 |[],c=>c=[]
 |x::l,c=>(c.take 11).length=11∧ExV I x (c.take 11)∧ExC I l (c.drop 11)
end
theorem ExC.recs {I:Imm}:∀{l:List Ex} {c:List Value},ExC I l c↔Recs (ExV I) 11 l c
 |[],c=>Iff.rfl
 |x::l,c=>by simp only [ExC,Recs,ExC.recs (l:=l)]
theorem ExV.iff {I:Imm}{x:Ex}{c:List Value}:ExV I x c↔∃v,c=Ag x v∧RL ExV 11 I [] v x.args:=by
 obtain ⟨k,v,t,n,s,ty,d,l⟩:=x;simp only [ExV,Ex.args];constructor
 ·rintro ⟨a,cap,cells,h1,h2,h3,rfl⟩;exact ⟨_,rfl,a,cap,cells,rfl,h1,h2,ExC.recs.1 h3⟩
 ·rintro ⟨_,rfl,a,cap,cells,rfl,h1,h2,h3⟩;exact ⟨a,cap,cells,h1,h2,ExC.recs.2 h3,rfl⟩
mutual
theorem ExV.mono {I I':Imm}(hI:Ext I I'):∀{x:Ex} {c:List Value},ExV I x c→ExV I' x c
 | .mk k v t n s ty d l,c,⟨a,cap,cells,h1,h2,h3,h4⟩=>⟨a,cap,cells,h1,h2.mono hI (λ_ h=>h),ExC.mono hI h3,h4⟩
theorem ExC.mono {I I':Imm}(hI:Ext I I'):∀{l:List Ex} {c:List Value},ExC I l c→ExC I' l c
 |[],_,h=>h
 |x::l,_,⟨h1,h2,h3⟩=>⟨h1,ExV.mono hI h2,ExC.mono hI h3⟩
end
theorem ExV.mk {I:Imm}{x:Ex}{v:Value}(h:RL ExV 11 I [] v x.args):ExV I x (Ag x v):=ExV.iff.2 ⟨v,rfl,h⟩
theorem ExV.len {I:Imm}{x:Ex}{c:List Value}(h:ExV I x c):c.length=11:=by
 obtain ⟨v,rfl,_⟩:=ExV.iff.1 h;rfl
theorem ExV.one {I:Imm}{x:Ex}{c:List Value}(h:ExV I x c):∀u∈c,u.oneCell'=true:=by
 obtain ⟨v,rfl,h'⟩:=ExV.iff.1 h;obtain ⟨a,cap,rfl⟩:=zAF h';exact AY rfl
def exZ:List Value:=[.int .i64 0,.int .i64 0,.bool false,.int .i64 0,.string ⟨#[]⟩,.string ⟨#[]⟩,.string ⟨#[]⟩,.int .i64 0,.int .i64 0,.bool false,.slice none 0 0]
abbrev ExL (I:Imm)(v:Value)(l:List Ex):Prop:=RL ExV 11 I [] v l
theorem ExL.mono {I I':Imm}{v:Value}{l:List Ex}(h:ExL I v l)(hI:Ext I I'):ExL I' v l:=zAL (λ_ _ h=>ExV.mono hI h) h hI (λ_ h=>h)
theorem zAI:type_of% @ExL.mono:=@ExL.mono
theorem ExL.k {I:Imm}{v:Value}{l:List Ex}{k:Int}(h:ExL I v l):ExL I v (exK k l).args:=h
abbrev StL (I:Imm)(v:Value)(l:List Bs):Prop:=RL StrV 1 I [] v l
theorem StL.mono {I I':Imm}{v:Value}{l:List Bs}(h:StL I v l)(hI:Ext I I'):StL I' v l:=zAL (λ_ _ h=>StrV.mono h hI) h hI (λ_ h=>h)
theorem zAJ:type_of% @StL.mono:=@StL.mono
theorem LstX.mono {I I':Imm}{x:List Ex}{c:List Value}(h:FX ExV 11 I x c)(hI:Ext I I'):FX ExV 11 I' x c:=by
 obtain ⟨v,rfl,h⟩:=h;exact ⟨v,rfl,zAI h hI⟩
def TItemV (I:Imm)(x:TItem)(c:List Value):Prop:=∃v0,c=[.bool x.fStar,.string ⟨x.fTable.toArray⟩,.int .i64 x.fExpr.kind,.int .i64 x.fExpr.value.fType,.bool x.fExpr.value.fNull,.int .i64 x.fExpr.value.fInt,.string ⟨x.fExpr.value.fText.toArray⟩,.string ⟨x.fExpr.table.toArray⟩,.string ⟨x.fExpr.name.toArray⟩,.int .i64 x.fExpr.slot,.int .i64 x.fExpr.type,.bool x.fExpr.distinct,v0,.string ⟨x.fAs.toArray⟩]∧ExL I v0 x.fExpr.args
theorem TItemV.mono {I I':Imm}{x:TItem}{c:List Value}(h:TItemV I x c)(hI:Ext I I'):TItemV I' x c:=by
 obtain ⟨v0,rfl,h0⟩:=h;exact ⟨v0,rfl,zAI h0 hI⟩
theorem TItemV.len {I:Imm}{x:TItem}{c:List Value}(h:TItemV I x c):c.length=14:=by
 obtain ⟨v0,rfl,h0⟩:=h;rfl
theorem TItemV.one {I:Imm}{x:TItem}{c:List Value}(h:TItemV I x c):∀u∈c,u.oneCell'=true:=by
 obtain ⟨v0,rfl,h0⟩:=h;obtain ⟨_,_,rfl⟩:=zAF h0;exact AY rfl
def TSourceV (I:Imm)(x:TSource)(c:List Value):Prop:=∃v0,c=[.string ⟨x.fTable.toArray⟩,.string ⟨x.fAs.toArray⟩,.bool x.fLeft,.int .i64 x.fOn.kind,.int .i64 x.fOn.value.fType,.bool x.fOn.value.fNull,.int .i64 x.fOn.value.fInt,.string ⟨x.fOn.value.fText.toArray⟩,.string ⟨x.fOn.table.toArray⟩,.string ⟨x.fOn.name.toArray⟩,.int .i64 x.fOn.slot,.int .i64 x.fOn.type,.bool x.fOn.distinct,v0]∧ExL I v0 x.fOn.args
theorem TSourceV.mono {I I':Imm}{x:TSource}{c:List Value}(h:TSourceV I x c)(hI:Ext I I'):TSourceV I' x c:=by
 obtain ⟨v0,rfl,h0⟩:=h;exact ⟨v0,rfl,zAI h0 hI⟩
theorem zAQ:type_of% @TSourceV.mono:=@TSourceV.mono
theorem TSourceV.len {I:Imm}{x:TSource}{c:List Value}(h:TSourceV I x c):c.length=14:=by
 obtain ⟨v0,rfl,h0⟩:=h;rfl
theorem TSourceV.one {I:Imm}{x:TSource}{c:List Value}(h:TSourceV I x c):∀u∈c,u.oneCell'=true:=by
 obtain ⟨v0,rfl,h0⟩:=h;obtain ⟨_,_,rfl⟩:=zAF h0;exact AY rfl
def TOrderV (I:Imm)(x:TOrder)(c:List Value):Prop:=∃v0,c=[.int .i64 x.fExpr.kind,.int .i64 x.fExpr.value.fType,.bool x.fExpr.value.fNull,.int .i64 x.fExpr.value.fInt,.string ⟨x.fExpr.value.fText.toArray⟩,.string ⟨x.fExpr.table.toArray⟩,.string ⟨x.fExpr.name.toArray⟩,.int .i64 x.fExpr.slot,.int .i64 x.fExpr.type,.bool x.fExpr.distinct,v0,.bool x.fDesc]∧ExL I v0 x.fExpr.args
theorem TOrderV.mono {I I':Imm}{x:TOrder}{c:List Value}(h:TOrderV I x c)(hI:Ext I I'):TOrderV I' x c:=by
 obtain ⟨v0,rfl,h0⟩:=h;exact ⟨v0,rfl,zAI h0 hI⟩
theorem zAO:type_of% @TOrderV.mono:=@TOrderV.mono
theorem TOrderV.len {I:Imm}{x:TOrder}{c:List Value}(h:TOrderV I x c):c.length=12:=by
 obtain ⟨v0,rfl,h0⟩:=h;rfl
theorem TOrderV.one {I:Imm}{x:TOrder}{c:List Value}(h:TOrderV I x c):∀u∈c,u.oneCell'=true:=by
 obtain ⟨v0,rfl,h0⟩:=h;obtain ⟨_,_,rfl⟩:=zAF h0;exact AY rfl
def BX (I:Imm)(x:TSelect)(c:List Value):Prop:=∃v0 v1 v2 v3 v4 v5,c=[.bool x.fDistinct,v0,v1,.int .i64 x.fWhere.kind,.int .i64 x.fWhere.value.fType,.bool x.fWhere.value.fNull,.int .i64 x.fWhere.value.fInt,.string ⟨x.fWhere.value.fText.toArray⟩,.string ⟨x.fWhere.table.toArray⟩,.string ⟨x.fWhere.name.toArray⟩,.int .i64 x.fWhere.slot,.int .i64 x.fWhere.type,.bool x.fWhere.distinct,v2,v3,.int .i64 x.fHaving.kind,.int .i64 x.fHaving.value.fType,.bool x.fHaving.value.fNull,.int .i64 x.fHaving.value.fInt,.string ⟨x.fHaving.value.fText.toArray⟩,.string ⟨x.fHaving.table.toArray⟩,.string ⟨x.fHaving.name.toArray⟩,.int .i64 x.fHaving.slot,.int .i64 x.fHaving.type,.bool x.fHaving.distinct,v4,v5,.int .i64 x.fLimit,.int .i64 x.fOffset]∧RL TItemV 14 I [] v0 x.fItems∧RL TSourceV 14 I [] v1 x.fFrom∧ExL I v2 x.fWhere.args∧RL ExV 11 I [] v3 x.fGroup∧ExL I v4 x.fHaving.args∧RL TOrderV 12 I [] v5 x.fOrder
def TSetV (I:Imm)(x:TSet)(c:List Value):Prop:=∃v0,c=[.string ⟨x.fColumn.toArray⟩,.int .i64 x.fExpr.kind,.int .i64 x.fExpr.value.fType,.bool x.fExpr.value.fNull,.int .i64 x.fExpr.value.fInt,.string ⟨x.fExpr.value.fText.toArray⟩,.string ⟨x.fExpr.table.toArray⟩,.string ⟨x.fExpr.name.toArray⟩,.int .i64 x.fExpr.slot,.int .i64 x.fExpr.type,.bool x.fExpr.distinct,v0]∧ExL I v0 x.fExpr.args
theorem TSetV.mono {I I':Imm}{x:TSet}{c:List Value}(h:TSetV I x c)(hI:Ext I I'):TSetV I' x c:=by
 obtain ⟨v0,rfl,h0⟩:=h;exact ⟨v0,rfl,zAI h0 hI⟩
theorem TSetV.len {I:Imm}{x:TSet}{c:List Value}(h:TSetV I x c):c.length=12:=by
 obtain ⟨v0,rfl,h0⟩:=h;rfl
theorem TSetV.one {I:Imm}{x:TSet}{c:List Value}(h:TSetV I x c):∀u∈c,u.oneCell'=true:=by
 obtain ⟨v0,rfl,h0⟩:=h;obtain ⟨_,_,rfl⟩:=zAF h0;exact AY rfl
def TColV (I:Imm)(x:TCol)(c:List Value):Prop:=∃v0,c=[.string ⟨x.fName.toArray⟩,.int .i64 x.fType,.bool x.fNotNull,.bool x.fKey,.bool x.fUnique,.int .i64 x.fDefault.kind,.int .i64 x.fDefault.value.fType,.bool x.fDefault.value.fNull,.int .i64 x.fDefault.value.fInt,.string ⟨x.fDefault.value.fText.toArray⟩,.string ⟨x.fDefault.table.toArray⟩,.string ⟨x.fDefault.name.toArray⟩,.int .i64 x.fDefault.slot,.int .i64 x.fDefault.type,.bool x.fDefault.distinct,v0]∧ExL I v0 x.fDefault.args
theorem TColV.mono {I I':Imm}{x:TCol}{c:List Value}(h:TColV I x c)(hI:Ext I I'):TColV I' x c:=by
 obtain ⟨v0,rfl,h0⟩:=h;exact ⟨v0,rfl,zAI h0 hI⟩
theorem TColV.len {I:Imm}{x:TCol}{c:List Value}(h:TColV I x c):c.length=16:=by
 obtain ⟨v0,rfl,h0⟩:=h;rfl
theorem TColV.one {I:Imm}{x:TCol}{c:List Value}(h:TColV I x c):∀u∈c,u.oneCell'=true:=by
 obtain ⟨v0,rfl,h0⟩:=h;obtain ⟨_,_,rfl⟩:=zAF h0;exact AY rfl
def TStmtV (I:Imm)(x:TStmt)(c:List Value):Prop:=∃v0 v1 v2 v3 v4 v5 v6 v7 v8 v9 v10 v11 v12,c=[.int .i64 x.fKind,.bool x.fSelect.fDistinct,v0,v1,.int .i64 x.fSelect.fWhere.kind,.int .i64 x.fSelect.fWhere.value.fType,.bool x.fSelect.fWhere.value.fNull,.int .i64 x.fSelect.fWhere.value.fInt,.string ⟨x.fSelect.fWhere.value.fText.toArray⟩,.string ⟨x.fSelect.fWhere.table.toArray⟩,.string ⟨x.fSelect.fWhere.name.toArray⟩,.int .i64 x.fSelect.fWhere.slot,.int .i64 x.fSelect.fWhere.type,.bool x.fSelect.fWhere.distinct,v2,v3,.int .i64 x.fSelect.fHaving.kind,.int .i64 x.fSelect.fHaving.value.fType,.bool x.fSelect.fHaving.value.fNull,.int .i64 x.fSelect.fHaving.value.fInt,.string ⟨x.fSelect.fHaving.value.fText.toArray⟩,.string ⟨x.fSelect.fHaving.table.toArray⟩,.string ⟨x.fSelect.fHaving.name.toArray⟩,.int .i64 x.fSelect.fHaving.slot,.int .i64 x.fSelect.fHaving.type,.bool x.fSelect.fHaving.distinct,v4,v5,.int .i64 x.fSelect.fLimit,.int .i64 x.fSelect.fOffset,.string ⟨x.fTable.toArray⟩,v6,v7,v8,.int .i64 x.fWhere.kind,.int .i64 x.fWhere.value.fType,.bool x.fWhere.value.fNull,.int .i64 x.fWhere.value.fInt,.string ⟨x.fWhere.value.fText.toArray⟩,.string ⟨x.fWhere.table.toArray⟩,.string ⟨x.fWhere.name.toArray⟩,.int .i64 x.fWhere.slot,.int .i64 x.fWhere.type,.bool x.fWhere.distinct,v9,v10,v11,.string ⟨x.fIndex.fName.toArray⟩,.string ⟨x.fIndex.fTable.toArray⟩,v12,.bool x.fIndex.fUnique]∧RL TItemV 14 I [] v0 x.fSelect.fItems∧RL TSourceV 14 I [] v1 x.fSelect.fFrom∧ExL I v2 x.fSelect.fWhere.args∧RL ExV 11 I [] v3 x.fSelect.fGroup∧ExL I v4 x.fSelect.fHaving.args∧RL TOrderV 12 I [] v5 x.fSelect.fOrder∧RL StrV 1 I [] v6 x.fColumns∧RL (FX ExV 11) 1 I [] v7 x.fRows∧RL TSetV 12 I [] v8 x.fSets∧ExL I v9 x.fWhere.args∧RL TColV 16 I [] v10 x.fCols∧RL StrV 1 I [] v11 x.fKey∧RL StrV 1 I [] v12 x.fIndex.fColumns
theorem TStmtV.mono {I I':Imm}{x:TStmt}{c:List Value}(h:TStmtV I x c)(hI:Ext I I'):TStmtV I' x c:=by
 obtain ⟨v0,v1,v2,v3,v4,v5,v6,v7,v8,v9,v10,v11,v12,rfl,h0,h1,h2,h3,h4,h5,h6,h7,h8,h9,h10,h11,h12⟩:=h;exact ⟨v0,v1,v2,v3,v4,v5,v6,v7,v8,v9,v10,v11,v12,rfl,zAL (λ_ _ h=>TItemV.mono h hI) h0 hI (λ_ h=>by cases h),zAL (λ_ _ h=>zAQ h hI) h1 hI (λ_ h=>by cases h),zAI h2 hI,zAL (λ_ _ h=>ExV.mono hI h) h3 hI (λ_ h=>by cases h),zAI h4 hI,zAL (λ_ _ h=>zAO h hI) h5 hI (λ_ h=>by cases h),zAL (λ_ _ h=>StrV.mono h hI) h6 hI (λ_ h=>by cases h),zAL (λ_ _ h=>LstX.mono h hI) h7 hI (λ_ h=>by cases h),zAL (λ_ _ h=>TSetV.mono h hI) h8 hI (λ_ h=>by cases h),zAI h9 hI,zAL (λ_ _ h=>TColV.mono h hI) h10 hI (λ_ h=>by cases h),zAL (λ_ _ h=>StrV.mono h hI) h11 hI (λ_ h=>by cases h),zAL (λ_ _ h=>StrV.mono h hI) h12 hI (λ_ h=>by cases h)⟩
theorem TStmtV.len {I:Imm}{x:TStmt}{c:List Value}(h:TStmtV I x c):c.length=51:=by
 obtain ⟨v0,v1,v2,v3,v4,v5,v6,v7,v8,v9,v10,v11,v12,rfl,h0,h1,h2,h3,h4,h5,h6,h7,h8,h9,h10,h11,h12⟩:=h;rfl
theorem zAT:type_of% @TStmtV.len:=@TStmtV.len
theorem TStmtV.one {I:Imm}{x:TStmt}{c:List Value}(h:TStmtV I x c):∀u∈c,u.oneCell'=true:=by
 obtain ⟨v0,v1,v2,v3,v4,v5,v6,v7,v8,v9,v10,v11,v12,rfl,h0,h1,h2,h3,h4,h5,h6,h7,h8,h9,h10,h11,h12⟩:=h;obtain ⟨_,_,rfl⟩:=zAF h0;obtain ⟨_,_,rfl⟩:=zAF h1;obtain ⟨_,_,rfl⟩:=zAF h2;obtain ⟨_,_,rfl⟩:=zAF h3;obtain ⟨_,_,rfl⟩:=zAF h4;obtain ⟨_,_,rfl⟩:=zAF h5;obtain ⟨_,_,rfl⟩:=zAF h6;obtain ⟨_,_,rfl⟩:=zAF h7;obtain ⟨_,_,rfl⟩:=zAF h8;obtain ⟨_,_,rfl⟩:=zAF h9;obtain ⟨_,_,rfl⟩:=zAF h10;obtain ⟨_,_,rfl⟩:=zAF h11;obtain ⟨_,_,rfl⟩:=zAF h12;exact AY rfl
theorem TStmtV.zero (I:Imm):TStmtV I default [.int .i64 0,.bool false,.slice none 0 0,.slice none 0 0,.int .i64 0,.int .i64 0,.bool false,.int .i64 0,.string ⟨#[]⟩,.string ⟨#[]⟩,.string ⟨#[]⟩,.int .i64 0,.int .i64 0,.bool false,.slice none 0 0,.slice none 0 0,.int .i64 0,.int .i64 0,.bool false,.int .i64 0,.string ⟨#[]⟩,.string ⟨#[]⟩,.string ⟨#[]⟩,.int .i64 0,.int .i64 0,.bool false,.slice none 0 0,.slice none 0 0,.int .i64 0,.int .i64 0,.string ⟨#[]⟩,.slice none 0 0,.slice none 0 0,.slice none 0 0,.int .i64 0,.int .i64 0,.bool false,.int .i64 0,.string ⟨#[]⟩,.string ⟨#[]⟩,.string ⟨#[]⟩,.int .i64 0,.int .i64 0,.bool false,.slice none 0 0,.slice none 0 0,.slice none 0 0,.string ⟨#[]⟩,.string ⟨#[]⟩,.slice none 0 0,.bool false]:=⟨_,_,_,_,_,_,_,_,_,_,_,_,_,rfl,zAD none 0,zAD none 0,zAD none 0,zAD none 0,zAD none 0,zAD none 0,zAD none 0,zAD none 0,zAD none 0,zAD none 0,zAD none 0,zAD none 0,zAD none 0⟩
abbrev CT (ω:Om):FuncId→Array Value→(Value→M)→M:=Cal Tryz.prog ω
abbrev CW (ω:Om):Value→Array Value→(Value→M)→M:=CalV Tryz.prog ω
theorem mixed:Tryz.prog.follows .mixedOrders=true:=by kernel_rfl
theorem cQc {ω:Om}{f:FuncId}{fn:Func}(hf:Tryz.prog.funcs[f]?=some fn){a:List Value}{K:Value→M}{I:Imm}{L:LH}{P:Prop}(h:P)(e:vcF Tryz.prog ω fn a K I L=P:=by kernel_rfl):Cal Tryz.prog ω f a.toArray K I L:=AEk mixed hf (e ▸ h)
theorem cQp {ω:Om}{f:FuncId}{fn:Func}(hf:Tryz.prog.funcs[f]?=some fn){a:List Value}{K Pn:Value→M}{I:Imm}{L:LH}{P:Prop}(h:P)(e:vcP Tryz.prog ω fn a K Pn I L=P:=by kernel_rfl):CalP Tryz.prog ω f a.toArray K Pn I L:=AAT mixed hf (e ▸ h)
theorem cQq {ω:Om}{f:FuncId}{fn:Func}(hf:Tryz.prog.funcs[f]?=some fn){a:List Value}{K:Value→M}{I:Imm}{L:LH}{P:Prop}(h:P)(e:vcQ Tryz.prog ω fn a K I L=P:=by kernel_rfl):Cal Tryz.prog ω f a.toArray K I L:=AAS mixed hf (e ▸ h)
theorem zkc0 (s:Om→(Value→M)→M)(f:FuncId){fn:Func}(hf:Tryz.prog.funcs[f]?=some fn)(e:∀(ω:Om)(K:Value→M)(I:Imm)(L:LH),vcF Tryz.prog ω fn [] K I L=s ω  K I L:=by intros;kernel_rfl):∀⦃ω:Om⦄⦃K:Value→M⦄⦃I:Imm⦄⦃L:LH⦄,s ω  (λv=>Gh (K v)) I L→CT ω f #[] K I L:=λω  K I L h=>zAH (cQc hf h (e ω  _ I L))
theorem zkc1 (s:Om→Value→(Value→M)→M)(f:FuncId){fn:Func}(hf:Tryz.prog.funcs[f]?=some fn)(e:∀(ω:Om)(a0:Value)(K:Value→M)(I:Imm)(L:LH),vcF Tryz.prog ω fn [a0] K I L=s ω a0 K I L:=by intros;kernel_rfl):∀⦃ω:Om⦄⦃a0:Value⦄⦃K:Value→M⦄⦃I:Imm⦄⦃L:LH⦄,s ω a0 (λv=>Gh (K v)) I L→CT ω f #[a0] K I L:=λω a0 K I L h=>zAH (cQc hf h (e ω a0 _ I L))
theorem zkc2 (s:Om→Value→Value→(Value→M)→M)(f:FuncId){fn:Func}(hf:Tryz.prog.funcs[f]?=some fn)(e:∀(ω:Om)(a0:Value)(a1:Value)(K:Value→M)(I:Imm)(L:LH),vcF Tryz.prog ω fn [a0,a1] K I L=s ω a0 a1 K I L:=by intros;kernel_rfl):∀⦃ω:Om⦄⦃a0:Value⦄⦃a1:Value⦄⦃K:Value→M⦄⦃I:Imm⦄⦃L:LH⦄,s ω a0 a1 (λv=>Gh (K v)) I L→CT ω f #[a0,a1] K I L:=λω a0 a1 K I L h=>zAH (cQc hf h (e ω a0 a1 _ I L))
theorem zkc3 (s:Om→Value→Value→Value→(Value→M)→M)(f:FuncId){fn:Func}(hf:Tryz.prog.funcs[f]?=some fn)(e:∀(ω:Om)(a0:Value)(a1:Value)(a2:Value)(K:Value→M)(I:Imm)(L:LH),vcF Tryz.prog ω fn [a0,a1,a2] K I L=s ω a0 a1 a2 K I L:=by intros;kernel_rfl):∀⦃ω:Om⦄⦃a0:Value⦄⦃a1:Value⦄⦃a2:Value⦄⦃K:Value→M⦄⦃I:Imm⦄⦃L:LH⦄,s ω a0 a1 a2 (λv=>Gh (K v)) I L→CT ω f #[a0,a1,a2] K I L:=λω a0 a1 a2 K I L h=>zAH (cQc hf h (e ω a0 a1 a2 _ I L))
theorem zkc4 (s:Om→Value→Value→Value→Value→(Value→M)→M)(f:FuncId){fn:Func}(hf:Tryz.prog.funcs[f]?=some fn)(e:∀(ω:Om)(a0:Value)(a1:Value)(a2:Value)(a3:Value)(K:Value→M)(I:Imm)(L:LH),vcF Tryz.prog ω fn [a0,a1,a2,a3] K I L=s ω a0 a1 a2 a3 K I L:=by intros;kernel_rfl):∀⦃ω:Om⦄⦃a0:Value⦄⦃a1:Value⦄⦃a2:Value⦄⦃a3:Value⦄⦃K:Value→M⦄⦃I:Imm⦄⦃L:LH⦄,s ω a0 a1 a2 a3 (λv=>Gh (K v)) I L→CT ω f #[a0,a1,a2,a3] K I L:=λω a0 a1 a2 a3 K I L h=>zAH (cQc hf h (e ω a0 a1 a2 a3 _ I L))
theorem zkp1 (s:Om→Value→(Value→M)→(Value→M)→M)(f:FuncId){fn:Func}(hf:Tryz.prog.funcs[f]?=some fn)(e:∀(ω:Om)(a0:Value)(K Pn:Value→M)(I:Imm)(L:LH),vcP Tryz.prog ω fn [a0] K Pn I L=s ω a0 K Pn I L:=by intros;kernel_rfl):∀⦃ω:Om⦄⦃a0:Value⦄⦃K Pn:Value→M⦄⦃I:Imm⦄⦃L:LH⦄,s ω a0 (λv=>Gh (K v)) (λv=>Gh (Pn v)) I L→CalP Tryz.prog ω f #[a0] K Pn I L:=λω a0 K Pn I L h=>zAP (cQp hf h (e ω a0 _ _ I L))
theorem zkp2 (s:Om→Value→Value→(Value→M)→(Value→M)→M)(f:FuncId){fn:Func}(hf:Tryz.prog.funcs[f]?=some fn)(e:∀(ω:Om)(a0:Value)(a1:Value)(K Pn:Value→M)(I:Imm)(L:LH),vcP Tryz.prog ω fn [a0,a1] K Pn I L=s ω a0 a1 K Pn I L:=by intros;kernel_rfl):∀⦃ω:Om⦄⦃a0:Value⦄⦃a1:Value⦄⦃K Pn:Value→M⦄⦃I:Imm⦄⦃L:LH⦄,s ω a0 a1 (λv=>Gh (K v)) (λv=>Gh (Pn v)) I L→CalP Tryz.prog ω f #[a0,a1] K Pn I L:=λω a0 a1 K Pn I L h=>zAP (cQp hf h (e ω a0 a1 _ _ I L))
theorem zkp3 (s:Om→Value→Value→Value→(Value→M)→(Value→M)→M)(f:FuncId){fn:Func}(hf:Tryz.prog.funcs[f]?=some fn)(e:∀(ω:Om)(a0:Value)(a1:Value)(a2:Value)(K Pn:Value→M)(I:Imm)(L:LH),vcP Tryz.prog ω fn [a0,a1,a2] K Pn I L=s ω a0 a1 a2 K Pn I L:=by intros;kernel_rfl):∀⦃ω:Om⦄⦃a0:Value⦄⦃a1:Value⦄⦃a2:Value⦄⦃K Pn:Value→M⦄⦃I:Imm⦄⦃L:LH⦄,s ω a0 a1 a2 (λv=>Gh (K v)) (λv=>Gh (Pn v)) I L→CalP Tryz.prog ω f #[a0,a1,a2] K Pn I L:=λω a0 a1 a2 K Pn I L h=>zAP (cQp hf h (e ω a0 a1 a2 _ _ I L))
theorem zkq1 (s:Om→Value→(Value→M)→M)(f:FuncId){fn:Func}(hf:Tryz.prog.funcs[f]?=some fn)(e:∀(ω:Om)(a0:Value)(K:Value→M)(I:Imm)(L:LH),vcQ Tryz.prog ω fn [a0] K I L=s ω a0 K I L:=by intros;kernel_rfl):∀⦃ω:Om⦄⦃a0:Value⦄⦃K:Value→M⦄⦃I:Imm⦄⦃L:LH⦄,s ω a0 (λv=>Gh (K v)) I L→CT ω f #[a0] K I L:=λω a0 K I L h=>zAH (cQq hf h (e ω a0 _ I L))
abbrev Za:Array Value:=#[(.int .i64 0),(.int .i64 0),(.bool false),(.int .i64 0),(Value.string (ByteArray.mk #[])),(Value.string (ByteArray.mk #[])),(Value.string (ByteArray.mk #[])),(.int .i64 0),(.int .i64 0),(.bool false),(.slice none 0 0)]
abbrev Zb:Array Value:=#[(Value.string (ByteArray.mk #[]))]
abbrev Zc:Array Value:=#[(.int .i64 0),(.bool false),(.slice none 0 0),(.slice none 0 0),(.int .i64 0),(.int .i64 0),(.bool false),(.int .i64 0),(Value.string (ByteArray.mk #[])),(Value.string (ByteArray.mk #[])),(Value.string (ByteArray.mk #[])),(.int .i64 0),(.int .i64 0),(.bool false),(.slice none 0 0),(.slice none 0 0),(.int .i64 0),(.int .i64 0),(.bool false),(.int .i64 0),(Value.string (ByteArray.mk #[])),(Value.string (ByteArray.mk #[])),(Value.string (ByteArray.mk #[])),(.int .i64 0),(.int .i64 0),(.bool false),(.slice none 0 0),(.slice none 0 0),(.int .i64 0),(.int .i64 0),(Value.string (ByteArray.mk #[])),(.slice none 0 0),(.slice none 0 0),(.slice none 0 0),(.int .i64 0),(.int .i64 0),(.bool false),(.int .i64 0),(Value.string (ByteArray.mk #[])),(Value.string (ByteArray.mk #[])),(Value.string (ByteArray.mk #[])),(.int .i64 0),(.int .i64 0),(.bool false),(.slice none 0 0),(.slice none 0 0),(.slice none 0 0),(Value.string (ByteArray.mk #[])),(Value.string (ByteArray.mk #[])),(.slice none 0 0),(.bool false)]
abbrev Zd:Array Value:=#[(.bool false),(Value.string (ByteArray.mk #[])),(.int .i64 0),(.int .i64 0),(.bool false),(.int .i64 0),(Value.string (ByteArray.mk #[])),(Value.string (ByteArray.mk #[])),(Value.string (ByteArray.mk #[])),(.int .i64 0),(.int .i64 0),(.bool false),(.slice none 0 0),(Value.string (ByteArray.mk #[]))]
abbrev Ze:Array Value:=#[(Value.string (ByteArray.mk #[])),(.int .i64 0)]
abbrev Zf:Array Value:=#[(Value.string (ByteArray.mk #[])),(Value.string (ByteArray.mk #[])),(.bool false),(.int .i64 0),(.int .i64 0),(.bool false),(.int .i64 0),(Value.string (ByteArray.mk #[])),(Value.string (ByteArray.mk #[])),(Value.string (ByteArray.mk #[])),(.int .i64 0),(.int .i64 0),(.bool false),(.slice none 0 0)]
abbrev Zg:Array (Nat×Nat):=#[(0,1),(1,4),(5,1),(6,1),(7,1),(8,1),(9,1),(10,1)]
abbrev Zh:Array Value:=#[(.int .i64 0),(.int .i64 0)]
abbrev Zi:Array Value:=#[(.int .i64 0),(Value.string (ByteArray.mk #[])),(.int .i64 0),(.int .i64 0)]
abbrev Zj:Array (Nat×Nat):=#[(0,1),(1,29),(30,1),(31,1),(32,1),(33,1),(34,11),(45,1),(46,1),(47,4)]
abbrev Zk:Array (Nat×Nat):=#[(0,1),(1,1),(2,1),(3,1)]
abbrev Zl:Array Value:=#[(Value.string (ByteArray.mk #[])),(.int .i64 0),(.bool false),(.bool false),(.bool false),(.int .i64 0),(.int .i64 0),(.bool false),(.int .i64 0),(Value.string (ByteArray.mk #[])),(Value.string (ByteArray.mk #[])),(Value.string (ByteArray.mk #[])),(.int .i64 0),(.int .i64 0),(.bool false),(.slice none 0 0)]
abbrev Zm:Array (Nat×Nat):=#[(0,1),(1,1),(2,11),(13,1)]
abbrev Zn:Array Value:=#[(.int .i64 0),(.int .i64 0),(Value.string (ByteArray.mk #[])),(.int .i64 0)]
abbrev Zo:Array Value:=#[(.int .i64 0),(.int .i64 0),(.bool false),(.int .i64 0),(Value.string (ByteArray.mk #[])),(Value.string (ByteArray.mk #[])),(Value.string (ByteArray.mk #[])),(.int .i64 0),(.int .i64 0),(.bool false),(.slice none 0 0),(.bool false)]
abbrev Zp:Array Value:=#[(Value.string (ByteArray.mk #[])),(.int .i64 0),(.int .i64 0),(.bool false),(.int .i64 0),(Value.string (ByteArray.mk #[])),(Value.string (ByteArray.mk #[])),(Value.string (ByteArray.mk #[])),(.int .i64 0),(.int .i64 0),(.bool false),(.slice none 0 0)]
abbrev Zq:Array Value:=#[(.bool false),(.slice none 0 0),(.slice none 0 0),(.int .i64 0),(.int .i64 0),(.bool false),(.int .i64 0),(Value.string (ByteArray.mk #[])),(Value.string (ByteArray.mk #[])),(Value.string (ByteArray.mk #[])),(.int .i64 0),(.int .i64 0),(.bool false),(.slice none 0 0),(.slice none 0 0),(.int .i64 0),(.int .i64 0),(.bool false),(.int .i64 0),(Value.string (ByteArray.mk #[])),(Value.string (ByteArray.mk #[])),(Value.string (ByteArray.mk #[])),(.int .i64 0),(.int .i64 0),(.bool false),(.slice none 0 0),(.slice none 0 0),(.int .i64 0),(.int .i64 0)]
abbrev Zr:Array Value:=#[(.int .i64 0),(.bool false),(.int .i64 0),(Value.string (ByteArray.mk #[]))]
abbrev Zs:Array Value:=#[(Value.string (ByteArray.mk #[])),(Value.string (ByteArray.mk #[])),(.slice none 0 0),(.bool false)]
abbrev Zt:Array Value:=#[(.bool false),(Value.string (ByteArray.mk #[]))]
abbrev Zu:Array Value:=#[(.pointer none),(.slice none 0 0)]
abbrev Zv:Array Value:=#[(Value.string (ByteArray.mk #[])),(.int .i64 0),(.bool false)]
abbrev Zw:Array (Nat×Nat):=#[(0,1),(1,1),(2,1),(3,11),(14,1),(15,11),(26,1),(27,1),(28,1)]
abbrev Zx:Array Value:=#[(Value.string (ByteArray.mk #[])),(.bool false)]
abbrev Zy:Array (Nat×Nat):=#[(0,1),(1,1),(2,1),(3,1),(4,1),(5,11)]
abbrev Rn:(Imm→LH→Value→Prop)→(Value→M)→M:=Rv none
abbrev Rs (S:M):(Imm→LH→Value→Prop)→(Value→M)→M:=Rv (some S)
abbrev I0:Value:=.int .i64 0
abbrev S0:Value:=.slice none 0 0
abbrev N0:Value:=.pointer none
abbrev Q0:Value:=.string (ByteArray.mk #[])
abbrev Bf:Value:=.bool false
def Lf (k:Nat)(p:Value)(K:Value→M):M:=Pv (AO k p) λa=>Rn (BA a) K
def Lg (S:M)(k:Nat)(p:Value)(K:Value→M):M:=Pv (AO k p) λa=>Rs S (BA a) K
abbrev Bt:Value:=.bool true
def sh3 (ω:Om)(a0:Value)(K:Value→M):M:=CT ω 10 #[]<|gh λa=>CT ω 11 #[a0]<|gh λb=>Pv (exV b 0) λc=>Pv (exV b 1) λb=>New (.cells Zh 26 (0,0))<|gh λd=>Sto 2 d b<|gh λ_=>CT ω 12 #[a0]<|gh λb=>Pv (exV b 0) λe=>Pv (exV b 1) λb=>New (.cells Zh 26 (0,0))<|gh λf=>Sto 2 f b<|gh λ_=>CT ω 13 #[e,c]<|gh λb=>Gd a true (Rn (AC 2 f) λa=>Rn (AC 2 d) λc=>Pv (Gl .eql [(TypeDesc.int .i64,0),(TypeDesc.int .i64,1)] a c) λa=>Gd a true (K b) (K Bf)) (K Bf)
variable {ω:Om}{K:Value→M}{I:Imm}{L:LH}{a0 a1 a2 a3 a4 a5 a6 a7 a8:Value}
def AVJ:=zkc1 sh3 3 Tryz.func3
abbrev zS (l:List UInt8):Value:=.string ⟨l.toArray⟩
def ASn (ω:Om)(K:Value→M):M:=CT ω 12 #[(zS [83,69,76,69,67,84,32,97,46,98,32,65,83,32,34,88,32,121,34,44,32,99,111,117,110,116,40,42,41,32,70,82,79,77,32,116,32,97,32,87,72,69,82,69,32,78,79,84,32,97,46,98,32,61,32,49,32,79,82,32,99,32,73,83,32,78,79,84,32,78,85,76,76])]<|gh λa=>Pv (exV a 0) λb=>Pv (exV a 1) λa=>New (.cells Zh 26 (0,0))<|gh λc=>Sto 2 c a<|gh λ_=>Lf 0 c λa=>Pv (AA .neq a I0) λa=>Gd a false (Pv (lenV b) λa=>Pv (AA .neq a (.int .i64 1)) λa=>Br a (K Bf) (Pv (ixV 51 b I0) λa=>Rn (AC 51 a) λa=>CT ω 16 #[a]<|gh λa=>Pv (exV a 0) λc=>Pv (exV a 1) λa=>Pv (ixV 51 b I0) λb=>Rn (AC 51 b) λb=>CT ω 17 #[b]<|gh λb=>CT ω 12 #[(zS [115,101,108,101,99,116,32,97,32,102,114,111,109,32,116,32,119,104,101,114,101,32,98,32,61,32,99,32,61,32,100])]<|gh λd=>Pv (exV d 0) λ_=>Pv (exV d 1) λd=>New (.cells Zh 26 (0,0))<|gh λe=>Sto 2 e d<|gh λ_=>Pv (AA .eql a I0) λa=>Gd a true (Pv (AA .eql b I0) λa=>Gd a true (Pv (AZ .eql c (zS [115,101,108,101,99,116,32,97,46,98,32,97,115,32,34,88,32,121,34,44,32,99,111,117,110,116,40,42,41,32,102,114,111,109,32,116,32,97,115,32,97,32,119,104,101,114,101,32,110,111,116,32,97,46,98,32,61,32,49,32,111,114,32,99,32,105,115,32,110,111,116,32,110,117,108,108])) λa=>Gd a true (Rn (AC 2 e) λa=>Pv (Ai Zh #[(0,1),(1,1)] [(0,(.int .i64 174)),(1,(.int .i64 28))]) λb=>Pv (Gl .eql [(TypeDesc.int .i64,0),(TypeDesc.int .i64,1)] a b) λa=>K a) (K Bf)) (K Bf)) (K Bf))) (K Bf)
def AUn:=zkc0 ASn 10 Tryz.func10
def AGb (ω:Om)(p2 p3:Value)(p6 p8 p9:Value)(K:Value→M):M:=Pv (AA .gtr p9 (.int .i64 64)) λa=>Br a (Pv (Ai Zh #[(0,1),(1,1)] [(0,(.int .i64 175))]) λa=>Sto 2 p3 a<|gh λ_=>Rn (AC 2 p3) λa=>K (Value.tuple #[S0,a])) (Pv (AA .gtr p8 (.int .i64 2000)) λa=>Br a (Pv (Ai Zh #[(0,1),(1,1)] [(0,(.int .i64 176))]) λa=>Sto 2 p3 a<|gh λ_=>Rn (AC 2 p3) λa=>K (Value.tuple #[S0,a])) (Pv (Ai Zh #[(0,1),(1,1)] []) λa=>Sto 2 p3 a<|gh λ_=>Rn (AC 2 p3) λa=>K (Value.tuple #[p6,a])))
def AGc (ω:Om)(p2 p3:Value)(p6 x8:Value)(x9 x10:Value)(Kn0:(Value×Value×Value×Unit)→M)(K:Value→M):M:=Pv (lenV p6) λa=>Pv (AA .lss x10 a) λa=>Br a (Pv (ixV 51 p6 x10) λa=>Rn (AC 51 a) λa=>CT ω 24 #[a]<|gh λa=>Pv (exV a 0) λb=>Pv (exV a 1) λa=>Pv (AA .add x8 b) λb=>Pv (ZQ x9 a) λa=>Pv (AA .add x10 (.int .i64 1)) λc=>Kn0 (b,a,c,())) (AGb ω p2 p3 p6 x8 x9 K)
def ASm (ω:Om)(a0:Value)(K:Value→M):M:=New (.cells Zh 26 (0,0))<|gh λa=>Pv (BR a0) λb=>Pv (AA .gtr b (.int .i64 65536)) λb=>Br b (Pv (Ai Zh #[(0,1),(1,1)] [(0,(.int .i64 170)),(1,(.int .i64 65536))]) λb=>Sto 2 a b<|gh λ_=>Rn (AC 2 a) λa=>K (Value.tuple #[S0,a])) (CT ω 22 #[a0]<|gh λb=>Pv (exV b 0) λc=>Pv (exV b 1) λb=>New (.cells Zh 26 (0,0))<|gh λd=>Sto 2 d b<|gh λ_=>Lf 0 d λb=>Pv (AA .neq b I0) λb=>Br b (Bg λS=>Rs S (AC 2 d) λb=>Sto 2 a b<|gh λ_=>Rn (AC 2 a) λa=>K (Value.tuple #[S0,a])) (CT ω 23 #[c]<|gh λb=>Pv (exV b 0) λc=>Pv (exV b 1) λb=>Pv (AA .geq b I0) λd=>Br d (Pv (Ai Zh #[(0,1),(1,1)] [(0,(.int .i64 174)),(1,b)]) λb=>Sto 2 a b<|gh λ_=>Rn (AC 2 a) λa=>K (Value.tuple #[S0,a])) (Ac ((I0,I0,I0,()):Value×Value×Value×Unit) λs b=>AGc ω S0 a c s.1 s.2.1 s.2.2.1 b K)))
def AUm:=zkc1 ASm 11 Tryz.func11
def sh12_1 (ω:Om)(p2 p3:Value)(p4 p5:Value)(K:Value→M):M:=Lf 0 p5 λa=>Pv (AA .neq a I0) λa=>Br a (Bg λS=>Rs S (AC 2 p5) λa=>Sto 2 p3 a<|gh λ_=>Rn (AC 2 p3) λa=>K (Value.tuple #[S0,a])) (CT ω 27 #[p4]<|gh λa=>Pv (Ai Zh #[(0,1),(1,1)] []) λb=>Sto 2 p3 b<|gh λ_=>Rn (AC 2 p3) λb=>K (Value.tuple #[a,b]))
def ASl (ω:Om)(a0:Value)(K:Value→M):M:=New (.cells Zh 26 (0,0))<|gh λa=>Pv (BR a0) λb=>Pv (AA .gtr b (.int .i64 65536)) λb=>Br b (Pv (Ai Zh #[(0,1),(1,1)] [(0,(.int .i64 170)),(1,(.int .i64 65536))]) λb=>Sto 2 a b<|gh λ_=>Rn (AC 2 a) λa=>K (Value.tuple #[S0,a])) (CT ω 25 #[a0]<|gh λb=>Pv (exV b 0) λc=>Pv (exV b 1) λb=>New (.cells Zh 26 (0,0))<|gh λd=>Sto 2 d b<|gh λ_=>Lf 0 d λb=>Pv (AA .eql b I0) λb=>Br b (CT ω 26 #[c]<|gh λb=>Pv (AO 0 d) λe=>Sto 1 e b<|gh λ_=>sh12_1 ω S0 a c d K) (sh12_1 ω S0 a c d K))
def AUl:=zkc1 ASl 12 Tryz.func12
def AGZ (ω:Om)(p0 p1:Value)(x4 x5:Value)(Kn0:(Value×Value×Unit)→M)(K:Value→M):M:=Pv (lenV p0) λa=>Pv (AA .lss x5 a) λa=>Br a (Bg λS=>Pv (ixV 51 p0 x5) λa=>Rs S (AC 51 a) λa=>Pv (ixV 51 p1 x5) λb=>Rs S (AC 51 b) λb=>CT ω 28 #[a,b]<|gh λa=>Pv (unV .not a) λa=>Br a (K Bf) (Pv (AA .add x5 (.int .i64 1)) λa=>Kn0 (x4,a,()))) (K Bt)
def ASk (ω:Om)(a0 a1:Value)(K:Value→M):M:=Pv (lenV a0) λa=>Pv (lenV a1) λb=>Pv (AA .neq a b) λa=>Br a (K Bf) (Ac ((Bf,I0,()):Value×Value×Unit) λs a=>AGZ ω a0 a1 s.1 s.2.1 a K)
def AUk:=zkc2 ASk 13 Tryz.func13
def ASj (ω:Om)(a0:Value)(K:Value→M):M:=New (.cells (Value.cells a0) 48 (0,0))<|gh λa=>Rn (AC 51 a) λb=>CT ω 17 #[b]<|gh λb=>Pv (AA .neq b I0) λc=>Br c (K (Value.tuple #[Q0,b])) (Rn (AC 51 a) λa=>CT ω 30 #[a]<|gh λa=>Pv (BR a) λb=>Pv (AA .gtr b (.int .i64 65536)) λb=>Br b (K (Value.tuple #[Q0,(.int .i64 170)])) (K (Value.tuple #[a,I0])))
def AUj:=zkc1 ASj 16 Tryz.func16
def ASi (ω:Om)(a0:Value)(K:Value→M):M:=New (.cells (Value.cells a0) 48 (0,0))<|gh λa=>Rn (AC 51 a) λb=>CT ω 30 #[b]<|gh λb=>CT ω 25 #[b]<|gh λb=>Pv (exV b 0) λc=>Pv (exV b 1) λb=>New (.cells Zh 26 (0,0))<|gh λd=>Sto 2 d b<|gh λ_=>Bg λS=>Lg S 0 d λb=>Pv (AA .neq b I0) λb=>Gd b false (Pv (lenV c) λb=>Pv (AA .neq b (.int .i64 1)) λb=>Gd b false (Pv (ixV 51 c I0) λb=>Rs S (AC 51 b) λb=>Rs S (AC 51 a) λc=>CT ω 31 #[b,c]<|gh λb=>Pv (unV .not b) λb=>Br b (K (.int .i64 177)) (Rn (AC 51 a) λa=>AU 48 51 Zc 1 [(0,a)]<|gh λa=>CT ω 26 #[a]<|gh λa=>K a)) (K (.int .i64 177))) (K (.int .i64 177))
def AUi:=zkc1 ASi 17 Tryz.func17
def ASh (ω:Om)(K:Value→M):M:=AU 9 1 Zb 50 [(0,(zS [97,110,100])),(1,(zS [97,115])),(2,(zS [97,115,99])),(3,(zS [98,101,103,105,110])),(4,(zS [98,101,116,119,101,101,110])),(5,(zS [98,121])),(6,(zS [99,97,115,101])),(7,(zS [99,111,109,109,105,116])),(8,(zS [99,114,101,97,116,101])),(9,(zS [99,114,111,115,115])),(10,(zS [100,101,102,97,117,108,116])),(11,(zS [100,101,108,101,116,101])),(12,(zS [100,101,115,99])),(13,(zS [100,105,115,116,105,110,99,116])),(14,(zS [100,114,111,112])),(15,(zS [101,108,115,101])),(16,(zS [101,110,100])),(17,(zS [102,97,108,115,101])),(18,(zS [102,114,111,109])),(19,(zS [103,114,111,117,112])),(20,(zS [104,97,118,105,110,103])),(21,(zS [105,110])),(22,(zS [105,110,100,101,120])),(23,(zS [105,110,110,101,114])),(24,(zS [105,110,115,101,114,116])),(25,(zS [105,110,116,111])),(26,(zS [105,115])),(27,(zS [106,111,105,110])),(28,(zS [107,101,121])),(29,(zS [108,101,102,116])),(30,(zS [108,105,107,101])),(31,(zS [108,105,109,105,116])),(32,(zS [110,111,116])),(33,(zS [110,117,108,108])),(34,(zS [111,102,102,115,101,116])),(35,(zS [111,110])),(36,(zS [111,114])),(37,(zS [111,114,100,101,114])),(38,(zS [112,114,105,109,97,114,121])),(39,(zS [114,111,108,108,98,97,99,107])),(40,(zS [115,101,108,101,99,116])),(41,(zS [115,101,116])),(42,(zS [116,97,98,108,101])),(43,(zS [116,104,101,110])),(44,(zS [116,114,117,101])),(45,(zS [117,110,105,113,117,101])),(46,(zS [117,112,100,97,116,101])),(47,(zS [118,97,108,117,101,115])),(48,(zS [119,104,101,110])),(49,(zS [119,104,101,114,101]))]<|gh λa=>K a
def AUh:=zkc0 ASh 18 Tryz.func18
def ASg (ω:Om)(K:Value→M):M:=CT ω 32 #[(zS [97,110,100,32,97,115,32,97,115,99,32,98,101,103,105,110,32,98,101,116,119,101,101,110,32,98,121,32,99,97,115,101,32,99,111,109,109,105,116,32,99,114,101,97,116,101,32,99,114,111,115,115,32,100,101,102,97,117,108,116,32,100,101,108,101,116,101,32,100,101,115,99,32,100,105,115,116,105,110,99,116,32,100,114,111,112,32,101,108,115,101,32,101,110,100,32,102,97,108,115,101,32,102,114,111,109,32,103,114,111,117,112,32,104,97,118,105,110,103,32,105,110,32,105,110,100,101,120,32,105,110,110,101,114,32,105,110,115,101,114,116,32,105,110,116,111,32,105,115,32,106,111,105,110,32,107,101,121,32,108,101,102,116,32,108,105,107,101,32,108,105,109,105,116,32,110,111,116,32,110,117,108,108,32,111,102,102,115,101,116,32,111,110,32,111,114,32,111,114,100,101,114,32,112,114,105,109,97,114,121,32,114,111,108,108,98,97,99,107,32,115,101,108,101,99,116,32,115,101,116,32,116,97,98,108,101,32,116,104,101,110,32,116,114,117,101,32,117,110,105,113,117,101,32,117,112,100,97,116,101,32,118,97,108,117,101,115,32,119,104,101,110,32,119,104,101,114,101])]<|gh λa=>K a
def AUg:=zkc0 ASg 19 Tryz.func19
def AGQ (ω:Om)(p0 p1:Value)(x4 x5:Value)(Kn0:(Value×Value×Unit)→M)(K:Value→M):M:=Pv (lenV p0) λa=>Pv (AA .lss x5 a) λa=>Br a (Bg λS=>Pv (ixV 1 p0 x5) λa=>Rs S (BA a) λa=>Pv (ixV 1 p1 x5) λb=>Rs S (BA b) λb=>Pv (AZ .neq a b) λa=>Br a (K Bf) (Pv (AA .add x5 (.int .i64 1)) λa=>Kn0 (x4,a,()))) (K Bt)
def ASf (ω:Om)(a0 a1:Value)(K:Value→M):M:=Pv (lenV a0) λa=>Pv (lenV a1) λb=>Pv (AA .neq a b) λa=>Br a (K Bf) (Ac ((Bf,I0,()):Value×Value×Unit) λs a=>AGQ ω a0 a1 s.1 s.2.1 a K)
def AUf:=zkc2 ASf 20 Tryz.func20
def AGN (ω:Om)(p0 p2:Value)(p4 x5:Value)(Kn0:(Value×Value×Value×Unit)→M)(Kn1:(Value×Unit)→M)(K:Value→M):M:=Pv (BR p0) λa=>Pv (AA .lss x5 a) λa=>Gd a true (Pv (Cb p0 x5) λa=>Pv (AA .neq a (.int .u8 10)) λa=>Br a (Pv (AA .add x5 (.int .i64 1)) λa=>Kn1 (a,())) (Kn0 (p2,p4,x5,()))) (Kn0 (p2,p4,x5,()))
def AGO (ω:Om)(p0 p2:Value)(p4 p5:Value)(Kn0:(Value×Value×Value×Unit)→M)(K:Value→M):M:=Ac ((p5,()):Value×Unit) λs Kn1=>AGN ω p0 p2 p4 s.1 Kn0 Kn1 K
def Nc (ω:Om)(p2 p3:Value)(p5 p9:Value)(K:Value→M):M:=Pv (Ai Zh #[(0,1),(1,1)] [(0,p9),(1,p5)]) λa=>Sto 2 p3 a<|gh λ_=>Rn (AC 2 p3) λa=>K (Value.tuple #[S0,a])
def AAw (ω:Om)(p0 p2:Value)(p3 p4:Value)(K:Value→M):M:=Pv (BR p0) λa=>Pv (Ai Zi Zk [(0,(.int .i64 6)),(3,a)]) λa=>AU 74 4 Zi 1 [(0,a)]<|gh λa=>App 74 4 40 Zi p4 a<|gh λa=>Pv (Ai Zh #[(0,1),(1,1)] []) λb=>Sto 2 p3 b<|gh λ_=>Rn (AC 2 p3) λb=>K (Value.tuple #[a,b])
def AGP (ω:Om)(p0 p3:Value)(x2 x4 x5:Value)(Kn0:(Value×Value×Value×Unit)→M)(K:Value→M):M:=Pv (BR p0) λa=>Pv (AA .lss x5 a) λa=>Br a (Pv (Cb p0 x5) λa=>CT ω 33 #[a]<|gh λa=>Br a (Pv (AA .add x5 (.int .i64 1)) λa=>Kn0 (x2,x4,a,())) (Pv (Cb p0 x5) λa=>Pv (AA .eql a (.int .u8 45)) λa=>Gd a true (Pv (AA .add x5 (.int .i64 1)) λa=>Pv (BR p0) λb=>Pv (AA .lss a b) λa=>Gd a true (Pv (AA .add x5 (.int .i64 1)) λa=>Pv (Cb p0 a) λa=>Pv (AA .eql a (.int .u8 45)) λa=>Br a (AGO ω p0 x2 x4 x5 Kn0 K) (CT ω 34 #[p0,x5]<|gh λa=>Pv (exV a 0) λb=>Pv (exV a 1) λc=>Pv (exV a 2) λa=>New (.cells Zi 74 (0,0))<|gh λd=>Sto 4 d b<|gh λ_=>Pv (AA .neq a I0) λb=>Br b (Nc ω x2 p3 x5 a K) (Rn (AC 4 d) λa=>AU 74 4 Zi 1 [(0,a)]<|gh λa=>App 74 4 40 Zi x4 a<|gh λa=>Kn0 (x2,a,c,())))) (CT ω 34 #[p0,x5]<|gh λa=>Pv (exV a 0) λb=>Pv (exV a 1) λc=>Pv (exV a 2) λa=>New (.cells Zi 74 (0,0))<|gh λd=>Sto 4 d b<|gh λ_=>Pv (AA .neq a I0) λb=>Br b (Nc ω x2 p3 x5 a K) (Rn (AC 4 d) λa=>AU 74 4 Zi 1 [(0,a)]<|gh λa=>App 74 4 40 Zi x4 a<|gh λa=>Kn0 (x2,a,c,())))) (CT ω 34 #[p0,x5]<|gh λa=>Pv (exV a 0) λb=>Pv (exV a 1) λc=>Pv (exV a 2) λa=>New (.cells Zi 74 (0,0))<|gh λd=>Sto 4 d b<|gh λ_=>Pv (AA .neq a I0) λb=>Br b (Nc ω x2 p3 x5 a K) (Rn (AC 4 d) λa=>AU 74 4 Zi 1 [(0,a)]<|gh λa=>App 74 4 40 Zi x4 a<|gh λa=>Kn0 (x2,a,c,()))))) (AAw ω p0 x2 p3 x4 K)
def ASe (ω:Om)(a0:Value)(K:Value→M):M:=New (.cells Zh 26 (0,0))<|gh λa=>Ac ((S0,S0,I0,()):Value×Value×Value×Unit) λs b=>AGP ω a0 a s.1 s.2.1 s.2.2.1 b K
def AUe:=zkc1 ASe 22 Tryz.func22
def sh23_3 (ω:Om)(p2 p3:Value)(p4 p5:Value)(Kn0:(Value×Value×Value×Unit)→M)(K:Value→M):M:=Pv (Ae p4) λa=>Pv (AO 2 a) λa=>Sto 1 a Bt<|gh λ_=>Kn0 (p2,p3,p5,())
def AGL (ω:Om)(p2 p3 p4:Value)(K:Value→M):M:=Bg λS=>Pv (Ae p4) λa=>Lg S 0 a λa=>Pv (Ae p4) λb=>Lg S 1 b λb=>Pv (ixV 4 a b) λa=>Lg S 3 a λa=>K (Value.tuple #[S0,a])
def AGM (ω:Om)(p4 x2:Value)(x3 x5:Value)(Kn0:(Value×Value×Value×Unit)→M)(K:Value→M):M:=Pv (Ae p4) λa=>Lf 2 a λa=>Pv (unV .not a) λa=>Br a (CT ω 35 #[p4,(zS [59])]<|gh λa=>Br a (Kn0 (x2,x3,x5,())) (Bg λS=>Pv (Ae p4) λa=>Lg S 0 a λa=>Pv (Ae p4) λb=>Lg S 1 b λb=>Pv (ixV 4 a b) λa=>Lg S 0 a λa=>Pv (AA .eql a (.int .i64 6)) λa=>Br a (K (Value.tuple #[x5,(.int .i64 (-1))])) (CT ω 36 #[p4]<|gh λa=>New (.cells Zc 48 (0,0))<|gh λb=>Sto 51 b a<|gh λ_=>Rn (AC 51 b) λa=>AU 48 51 Zc 1 [(0,a)]<|gh λa=>App 48 51 712 Zc x5 a<|gh λa=>CT ω 37 #[p4,(zS [59])]<|gh λb=>Bg λS=>Pv (unV .not b) λb=>Gd b true (Pv (Ae p4) λb=>Lg S 0 b λb=>Pv (Ae p4) λc=>Lg S 1 c λc=>Pv (ixV 4 b c) λb=>Lg S 0 b λb=>Pv (AA .neq b (.int .i64 6)) λb=>Br b (sh23_3 ω x2 x3 p4 a Kn0 K) (Kn0 (x2,x3,a,()))) (Kn0 (x2,x3,a,()))))) (AGL ω x2 x3 p4 K)
def ASd (ω:Om)(a0:Value)(K:Value→M):M:=Pv (Ai #[S0,I0,Bf] #[(0,1),(1,1),(2,1)] [(0,a0)]) λa=>New (.cells (Value.cells a) 79 (0,0))<|gh λa=>Ac ((S0,I0,S0,()):Value×Value×Value×Unit) λs b=>AGM ω a s.1 s.2.1 s.2.2.1 b K
def AUd:=zkc1 ASd 23 Tryz.func23
def AGK (ω:Om)(p2 p3:Value)(p4 x5:Value)(x6 x7:Value)(Kn0:(Value×Value×Value×Unit)→M)(K:Value→M):M:=Pv (lenV p4) λa=>Pv (AA .lss x7 a) λa=>Br a (Pv (ixV 11 p4 x7) λa=>Rn (AC 11 a) λa=>CT ω 39 #[a]<|gh λa=>Pv (AA .add x5 a) λa=>Pv (ixV 11 p4 x7) λb=>Rn (AC 11 b) λb=>CT ω 40 #[b]<|gh λb=>Pv (ZQ x6 b) λb=>Pv (AA .add x7 (.int .i64 1)) λc=>Kn0 (a,b,c,())) (K (Value.tuple #[x5,x6]))
def ASc (ω:Om)(a0:Value)(K:Value→M):M:=New (.cells (Value.cells a0) 48 (0,0))<|gh λa=>Rn (AC 51 a) λa=>CT ω 38 #[a]<|gh λa=>Ac (((.int .i64 1),I0,I0,()):Value×Value×Value×Unit) λs b=>AGK ω I0 I0 a s.1 s.2.1 s.2.2.1 b K
def AUc:=zkc1 ASc 24 Tryz.func24
def AGG (ω:Om)(p2 p3 p5:Value)(Kn0:(Unit)→M)(W5 W6:Value)(K:Value→M):M:=AV Tryz.prog ω 46 #[p5] (λa=>ALM Tryz.prog ω 42 #[W5,W6] a<|gh λ_=>Rn (BA p2) λa=>Rn (AC 2 p3) λb=>K (Value.tuple #[a,b]))<|gh λ_=>Kn0 (())
def AGF (ω:Om)(p2 p3:Value)(W9 W10:Value)(K:Value→M):M:=Rn (BA p2) λa=>Pv (Ai Zh #[(0,1),(1,1)] []) λb=>Sto 1 p2 a<|gh λ_=>Sto 2 p3 b<|gh λ_=>ARS Tryz.prog ω 42 #[W9,W10]<|gh λ_=>Rn (BA p2) λa=>Rn (AC 2 p3) λb=>K (Value.tuple #[a,b])
def AGH (ω:Om)(p2 p3 p5:Value)(Kn0:(Unit)→M)(W1 W2:Value)(K:Value→M):M:=Pv (Ae p5) λa=>Lf 0 a λa=>Pv (ixV 4 a I0) λa=>Lf 0 a λa=>Pv (AA .neq a (.int .i64 6)) λa=>Br a (AV Tryz.prog ω 43 #[p5,(zS [59])] (λa=>ALM Tryz.prog ω 42 #[W1,W2] a<|gh λ_=>Rn (BA p2) λa=>Rn (AC 2 p3) λb=>K (Value.tuple #[a,b]))<|gh λa=>Br a (Kn0 (())) (Bg λS=>Rs S (BA p2) λa=>AV Tryz.prog ω 44 #[p5] (λa=>ALM Tryz.prog ω 42 #[W1,W2] a<|gh λ_=>Rn (BA p2) λa=>Rn (AC 2 p3) λb=>K (Value.tuple #[a,b]))<|gh<|Cf S λb=>AU 48 51 Zc 1 [(0,b)]<|gh<|Cf S λb=>App 48 51 712 Zc a b<|gh λa=>Sto 1 p2 a<|gh λ_=>Pv (Ae p5) λa=>Lf 0 a λa=>Pv (ixV 4 a I0) λa=>Lf 0 a λa=>Pv (AA .neq a (.int .i64 6)) λa=>Gd a true (AV Tryz.prog ω 45 #[p5,(zS [59])] (λa=>ALM Tryz.prog ω 42 #[W1,W2] a<|gh λ_=>Rn (BA p2) λa=>Rn (AC 2 p3) λb=>K (Value.tuple #[a,b]))<|gh λa=>Pv (unV .not a) λa=>Br a (AGG ω p2 p3 p5 Kn0 W1 W2 K) (Kn0 (()))) (Kn0 (())))) (AGF ω p2 p3 W1 W2 K)
def ASb (ω:Om)(a0:Value)(K:Value→M):M:=New (.cells #[S0] 23 (0,0))<|gh λa=>New (.cells Zh 26 (0,0))<|gh λb=>AV Tryz.prog ω 41 #[a0] (λ_=>F)<|gh λc=>Pv (exV c 0) λd=>Pv (exV c 1) λc=>Sto 2 b c<|gh λ_=>Lf 0 b λc=>Pv (AA .neq c I0) λc=>Br c (ACs [a] λS=>Rs S (AC 2 b) λc=>Sto 1 a S0<|gh<|Cf S λ_=>Sto 2 b c<|gh λ_=>Rn (BA a) λa=>Rn (AC 2 b) λb=>K (Value.tuple #[a,b])) (Pv (Ai #[S0] #[(0,1)] [(0,d)]) λc=>New (.cells (Value.cells c) 91 (0,0))<|gh λc=>Ac ((()):Unit) λs d=>AGH ω a b c d a b K)
def AUb:=zkq1 ASb 25 Tryz.func25
def ASa (ω:Om)(a0:Value)(K:Value→M):M:=CT ω 47 #[a0]<|gh λa=>Pv (exV a 0) λb=>Pv (exV a 1) λa=>Pv (AA .gtr a (.int .i64 64)) λa=>Br a (K (.int .i64 175)) (Pv (AA .gtr b (.int .i64 2000)) λa=>Br a (K (.int .i64 176)) (K I0))
def AUa:=zkc1 ASa 26 Tryz.func26
def ASZ (ω:Om)(a0:Value)(K:Value→M):M:=Pv (lenV a0) λa=>Pv (lenV a0) λb=>Pv (Gw 51 a0 none (some a) (some b)) λa=>K a
def AUZ:=zkc1 ASZ 27 Tryz.func27
def AAn (ω:Om)(p2 p3:Value)(x4 x14:Value)(Kn2:(Value×Value×Unit)→M)(K:Value→M):M:=Lf 45 p2 λa=>Pv (lenV a) λa=>Pv (AA .lss x14 a) λa=>Br a (Lf 45 p2 λa=>Pv (ixV 16 a x14) λa=>Rn (AC 16 a) λa=>New (.cells Zl 101 (0,0))<|gh λb=>Sto 16 b a<|gh λ_=>Lf 45 p3 λa=>Pv (ixV 16 a x14) λa=>Rn (AC 16 a) λa=>New (.cells Zl 101 (0,0))<|gh λc=>Sto 16 c a<|gh λ_=>Pv (AO 5 b) λa=>Rn (AC 11 a) λa=>Pv (AO 5 c) λd=>Rn (AC 11 d) λd=>CT ω 49 #[a,d]<|gh λa=>Lf 0 b λd=>Lf 0 c λe=>Pv (AZ .neq d e) λd=>Gd d false (Lf 1 b λd=>Lf 1 c λe=>Pv (AA .neq d e) λd=>Gd d false (Lf 2 b λd=>Lf 2 c λe=>Pv (Dn .neq d e) λd=>Gd d false (Lf 3 b λd=>Lf 3 c λe=>Pv (Dn .neq d e) λd=>Gd d false (Lf 4 b λb=>Lf 4 c λc=>Pv (Dn .neq b c) λb=>Gd b false (Pv (unV .not a) λa=>Br a (K Bf) (Pv (AA .add x14 (.int .i64 1)) λa=>Kn2 (x4,a,()))) (K Bf)) (K Bf)) (K Bf)) (K Bf)) (K Bf)) (K Bt)
def Oz (ω:Om)(p2 p3 p4:Value)(K:Value→M):M:=Ac ((p4,I0,()):Value×Value×Unit) λs Kn2=>AAn ω p2 p3 s.1 s.2.1 Kn2 K
def AGE (ω:Om)(p2 p3:Value)(x4 x12:Value)(Kn1:(Value×Value×Unit)→M)(K:Value→M):M:=Lf 33 p2 λa=>Pv (lenV a) λa=>Pv (AA .lss x12 a) λa=>Br a (Bg λS=>Lg S 33 p2 λa=>Pv (ixV 12 a x12) λa=>Pv (AO 1 a) λa=>Rs S (AC 11 a) λa=>Lg S 33 p3 λb=>Pv (ixV 12 b x12) λb=>Pv (AO 1 b) λb=>Rs S (AC 11 b) λb=>CT ω 49 #[a,b]<|gh λa=>Bg λS=>Lg S 33 p2 λb=>Pv (ixV 12 b x12) λb=>Lg S 0 b λb=>Lg S 33 p3 λc=>Pv (ixV 12 c x12) λc=>Lg S 0 c λc=>Pv (AZ .neq b c) λb=>Gd b false (Pv (unV .not a) λa=>Br a (K Bf) (Pv (AA .add x12 (.int .i64 1)) λa=>Kn1 (x4,a,()))) (K Bf)) (Oz ω p2 p3 x4 K)
def Uy (ω:Om)(p2 p3 p4:Value)(K:Value→M):M:=Ac ((p4,I0,()):Value×Value×Unit) λs Kn1=>AGE ω p2 p3 s.1 s.2.1 Kn1 K
def Ym (ω:Om)(p2 p3:Value)(x4 x10:Value)(Kn0:(Value×Value×Unit)→M)(K:Value→M):M:=Lf 32 p2 λa=>Pv (lenV a) λa=>Pv (AA .lss x10 a) λa=>Br a (Bg λS=>Lg S 32 p2 λa=>Pv (ixV 1 a x10) λa=>Rs S (BA a) λa=>Lg S 32 p3 λb=>Pv (ixV 1 b x10) λb=>Rs S (BA b) λb=>CT ω 50 #[a,b]<|gh λa=>Pv (unV .not a) λa=>Br a (K Bf) (Pv (AA .add x10 (.int .i64 1)) λa=>Kn0 (x4,a,()))) (Uy ω p2 p3 x4 K)
def ASY (ω:Om)(a0 a1:Value)(K:Value→M):M:=New (.cells (Value.cells a0) 48 (0,0))<|gh λa=>New (.cells (Value.cells a1) 48 (0,0))<|gh λb=>Pv (AO 1 a) λc=>Rn (AC 29 c) λc=>Pv (AO 1 b) λd=>Rn (AC 29 d) λd=>CT ω 48 #[c,d]<|gh λc=>Lf 31 a λd=>Lf 31 b λe=>CT ω 20 #[d,e]<|gh λd=>Lf 46 a λe=>Lf 46 b λf=>CT ω 20 #[e,f]<|gh λe=>Pv (AO 34 a) λf=>Rn (AC 11 f) λf=>Pv (AO 34 b) λg=>Rn (AC 11 g) λg=>CT ω 49 #[f,g]<|gh λf=>Pv (AO 47 a) λg=>Lf 2 g λg=>Pv (AO 47 b) λh=>Lf 2 h λh=>CT ω 20 #[g,h]<|gh λg=>Lf 0 a λh=>Lf 0 b λi=>Pv (AA .neq h i) λh=>Gd h false (Lf 30 a λh=>Lf 30 b λi=>Pv (AZ .neq h i) λh=>Gd h false (Pv (unV .not c) λc=>Gd c false (Pv (unV .not d) λc=>Gd c false (Pv (unV .not e) λc=>Gd c false (Pv (unV .not f) λc=>Gd c false (Pv (unV .not g) λc=>Gd c false (Lf 32 a λc=>Pv (lenV c) λc=>Lf 32 b λd=>Pv (lenV d) λd=>Pv (AA .neq c d) λc=>Gd c false (Lf 33 a λc=>Pv (lenV c) λc=>Lf 33 b λd=>Pv (lenV d) λd=>Pv (AA .neq c d) λc=>Gd c false (Lf 45 a λc=>Pv (lenV c) λc=>Lf 45 b λd=>Pv (lenV d) λd=>Pv (AA .neq c d) λc=>Br c (K Bf) (Pv (AO 47 a) λc=>Lf 0 c λc=>Pv (AO 47 b) λd=>Lf 0 d λd=>Pv (AZ .neq c d) λc=>Gd c false (Pv (AO 47 a) λc=>Lf 1 c λc=>Pv (AO 47 b) λd=>Lf 1 d λd=>Pv (AZ .neq c d) λc=>Gd c false (Pv (AO 47 a) λc=>Lf 3 c λc=>Pv (AO 47 b) λd=>Lf 3 d λd=>Pv (Dn .neq c d) λc=>Br c (K Bf) (Ac ((Bf,I0,()):Value×Value×Unit) λs c=>Ym ω a b s.1 s.2.1 c K)) (K Bf)) (K Bf))) (K Bf)) (K Bf)) (K Bf)) (K Bf)) (K Bf)) (K Bf)) (K Bf)) (K Bf)) (K Bf)
def AUY:=zkc2 ASY 28 Tryz.func28
def ASX (ω:Om)(a0:Value)(K:Value→M):M:=New (.cells (Value.cells a0) 48 (0,0))<|gh λa=>CT ω 19 #[]<|gh λb=>Pv (Ai #[N0,S0,S0] #[(0,2),(2,1)] [(1,b)]) λb=>New (.cells (Value.cells b) 113 (0,0))<|gh λb=>Rn (AC 51 a) λa=>CT ω 58 #[b,a]<|gh λ_=>Pv (Ae b) λa=>Pv (AO 0 a) λa=>CT ω 59 #[a]<|gh λa=>K a
def AUX:=zkc1 ASX 30 Tryz.func30
def Ux (ω:Om)(p2 p3:Value)(p4 p5 p6:Value)(K:Value→M):M:=Lf 0 p5 λa=>Lf 0 p6 λb=>Pv (Dn .eql a b) λa=>Gd a true (Lf 27 p5 λa=>Lf 27 p6 λb=>Pv (AA .eql a b) λa=>Gd a true (Lf 28 p5 λa=>Lf 28 p6 λb=>Pv (AA .eql a b) λa=>Gd a true (Pv (AO 3 p5) λa=>Rn (AC 11 a) λa=>Pv (AO 3 p6) λb=>Rn (AC 11 b) λb=>CT ω 60 #[a,b]<|gh λa=>Gd a true (Pv (AO 15 p5) λa=>Rn (AC 11 a) λa=>Pv (AO 15 p6) λb=>Rn (AC 11 b) λb=>CT ω 60 #[a,b]<|gh λa=>Gd a true (Lf 14 p5 λa=>Lf 14 p6 λb=>CT ω 61 #[a,b,(Value.func (.func 60) #[] #[])]<|gh λa=>Lf 1 p5 λb=>Lf 1 p6 λc=>CT ω 62 #[b,c,(Value.func (.func 63) #[] #[])]<|gh λb=>Lf 2 p5 λc=>Lf 2 p6 λd=>CT ω 64 #[c,d,(Value.func (.func 65) #[] #[])]<|gh λc=>Lf 26 p5 λd=>Lf 26 p6 λe=>CT ω 66 #[d,e,(Value.func (.func 67) #[] #[])]<|gh λd=>Lf 32 p2 λe=>Lf 32 p3 λf=>CT ω 68 #[e,f,(Value.func (.func 69) #[] #[])]<|gh λe=>Lf 33 p2 λf=>Lf 33 p3 λg=>CT ω 70 #[f,g,(Value.func (.func 71) #[] #[])]<|gh λf=>Lf 45 p2 λg=>Lf 45 p3 λh=>CT ω 72 #[g,h,(Value.func (.func 73) #[] #[])]<|gh λg=>Pv (AO 47 p2) λh=>Lf 0 h λh=>Pv (AO 47 p3) λi=>Lf 0 i λi=>Pv (AZ .eql h i) λh=>Gd h true (Pv (AO 47 p2) λh=>Lf 1 h λh=>Pv (AO 47 p3) λi=>Lf 1 i λi=>Pv (AZ .eql h i) λh=>Gd h true (Pv (AO 47 p2) λh=>Lf 3 h λh=>Pv (AO 47 p3) λi=>Lf 3 i λi=>Pv (Dn .eql h i) λh=>Gd h true (Pv (AO 47 p2) λh=>Lf 2 h λh=>Pv (AO 47 p3) λi=>Lf 2 i λi=>CT ω 74 #[h,i]<|gh λh=>Lf 0 p2 λi=>Lf 0 p3 λj=>Pv (AA .eql i j) λi=>Gd i true (Lf 30 p2 λi=>Lf 30 p3 λj=>Pv (AZ .eql i j) λi=>Gd i true (Lf 31 p2 λi=>Lf 31 p3 λj=>CT ω 74 #[i,j]<|gh λi=>Gd i true (Lf 46 p2 λi=>Lf 46 p3 λj=>CT ω 74 #[i,j]<|gh λi=>Gd i true (Pv (AO 34 p2) λi=>Rn (AC 11 i) λi=>Pv (AO 34 p3) λj=>Rn (AC 11 j) λj=>CT ω 60 #[i,j]<|gh λi=>Gd a true (Gd b true (Gd c true (Gd d true (Gd e true (Gd f true (Gd g true (Gd h true (K i) (K Bf)) (K Bf)) (K Bf)) (K Bf)) (K Bf)) (K Bf)) (K Bf)) (K Bf)) (Gd a true (Gd b true (Gd c true (Gd d true (Gd e true (Gd f true (Gd g true (Gd h true (K Bf) (K Bf)) (K Bf)) (K Bf)) (K Bf)) (K Bf)) (K Bf)) (K Bf)) (K Bf))) (Gd a true (Gd b true (Gd c true (Gd d true (Gd e true (Gd f true (Gd g true (Gd h true (K Bf) (K Bf)) (K Bf)) (K Bf)) (K Bf)) (K Bf)) (K Bf)) (K Bf)) (K Bf))) (Gd a true (Gd b true (Gd c true (Gd d true (Gd e true (Gd f true (Gd g true (Gd h true (K Bf) (K Bf)) (K Bf)) (K Bf)) (K Bf)) (K Bf)) (K Bf)) (K Bf)) (K Bf))) (Gd a true (Gd b true (Gd c true (Gd d true (Gd e true (Gd f true (Gd g true (Gd h true (K Bf) (K Bf)) (K Bf)) (K Bf)) (K Bf)) (K Bf)) (K Bf)) (K Bf)) (K Bf))) (Lf 0 p2 λh=>Lf 0 p3 λi=>Pv (AA .eql h i) λh=>Gd h true (Lf 30 p2 λh=>Lf 30 p3 λi=>Pv (AZ .eql h i) λh=>Gd h true (Lf 31 p2 λh=>Lf 31 p3 λi=>CT ω 74 #[h,i]<|gh λh=>Gd h true (Lf 46 p2 λh=>Lf 46 p3 λi=>CT ω 74 #[h,i]<|gh λh=>Gd h true (Pv (AO 34 p2) λh=>Rn (AC 11 h) λh=>Pv (AO 34 p3) λi=>Rn (AC 11 i) λi=>CT ω 60 #[h,i]<|gh λ_=>Gd a true (Gd b true (Gd c true (Gd d true (Gd e true (Gd f true (Gd g true (K Bf) (K Bf)) (K Bf)) (K Bf)) (K Bf)) (K Bf)) (K Bf)) (K Bf)) (Gd a true (Gd b true (Gd c true (Gd d true (Gd e true (Gd f true (Gd g true (K Bf) (K Bf)) (K Bf)) (K Bf)) (K Bf)) (K Bf)) (K Bf)) (K Bf))) (Gd a true (Gd b true (Gd c true (Gd d true (Gd e true (Gd f true (Gd g true (K Bf) (K Bf)) (K Bf)) (K Bf)) (K Bf)) (K Bf)) (K Bf)) (K Bf))) (Gd a true (Gd b true (Gd c true (Gd d true (Gd e true (Gd f true (Gd g true (K Bf) (K Bf)) (K Bf)) (K Bf)) (K Bf)) (K Bf)) (K Bf)) (K Bf))) (Gd a true (Gd b true (Gd c true (Gd d true (Gd e true (Gd f true (Gd g true (K Bf) (K Bf)) (K Bf)) (K Bf)) (K Bf)) (K Bf)) (K Bf)) (K Bf)))) (Lf 0 p2 λh=>Lf 0 p3 λi=>Pv (AA .eql h i) λh=>Gd h true (Lf 30 p2 λh=>Lf 30 p3 λi=>Pv (AZ .eql h i) λh=>Gd h true (Lf 31 p2 λh=>Lf 31 p3 λi=>CT ω 74 #[h,i]<|gh λh=>Gd h true (Lf 46 p2 λh=>Lf 46 p3 λi=>CT ω 74 #[h,i]<|gh λh=>Gd h true (Pv (AO 34 p2) λh=>Rn (AC 11 h) λh=>Pv (AO 34 p3) λi=>Rn (AC 11 i) λi=>CT ω 60 #[h,i]<|gh λ_=>Gd a true (Gd b true (Gd c true (Gd d true (Gd e true (Gd f true (Gd g true (K Bf) (K Bf)) (K Bf)) (K Bf)) (K Bf)) (K Bf)) (K Bf)) (K Bf)) (Gd a true (Gd b true (Gd c true (Gd d true (Gd e true (Gd f true (Gd g true (K Bf) (K Bf)) (K Bf)) (K Bf)) (K Bf)) (K Bf)) (K Bf)) (K Bf))) (Gd a true (Gd b true (Gd c true (Gd d true (Gd e true (Gd f true (Gd g true (K Bf) (K Bf)) (K Bf)) (K Bf)) (K Bf)) (K Bf)) (K Bf)) (K Bf))) (Gd a true (Gd b true (Gd c true (Gd d true (Gd e true (Gd f true (Gd g true (K Bf) (K Bf)) (K Bf)) (K Bf)) (K Bf)) (K Bf)) (K Bf)) (K Bf))) (Gd a true (Gd b true (Gd c true (Gd d true (Gd e true (Gd f true (Gd g true (K Bf) (K Bf)) (K Bf)) (K Bf)) (K Bf)) (K Bf)) (K Bf)) (K Bf)))) (Lf 0 p2 λh=>Lf 0 p3 λi=>Pv (AA .eql h i) λh=>Gd h true (Lf 30 p2 λh=>Lf 30 p3 λi=>Pv (AZ .eql h i) λh=>Gd h true (Lf 31 p2 λh=>Lf 31 p3 λi=>CT ω 74 #[h,i]<|gh λh=>Gd h true (Lf 46 p2 λh=>Lf 46 p3 λi=>CT ω 74 #[h,i]<|gh λh=>Gd h true (Pv (AO 34 p2) λh=>Rn (AC 11 h) λh=>Pv (AO 34 p3) λi=>Rn (AC 11 i) λi=>CT ω 60 #[h,i]<|gh λ_=>Gd a true (Gd b true (Gd c true (Gd d true (Gd e true (Gd f true (Gd g true (K Bf) (K Bf)) (K Bf)) (K Bf)) (K Bf)) (K Bf)) (K Bf)) (K Bf)) (Gd a true (Gd b true (Gd c true (Gd d true (Gd e true (Gd f true (Gd g true (K Bf) (K Bf)) (K Bf)) (K Bf)) (K Bf)) (K Bf)) (K Bf)) (K Bf))) (Gd a true (Gd b true (Gd c true (Gd d true (Gd e true (Gd f true (Gd g true (K Bf) (K Bf)) (K Bf)) (K Bf)) (K Bf)) (K Bf)) (K Bf)) (K Bf))) (Gd a true (Gd b true (Gd c true (Gd d true (Gd e true (Gd f true (Gd g true (K Bf) (K Bf)) (K Bf)) (K Bf)) (K Bf)) (K Bf)) (K Bf)) (K Bf))) (Gd a true (Gd b true (Gd c true (Gd d true (Gd e true (Gd f true (Gd g true (K Bf) (K Bf)) (K Bf)) (K Bf)) (K Bf)) (K Bf)) (K Bf)) (K Bf)))) (Lf 1 p5 λa=>Lf 1 p6 λb=>CT ω 62 #[a,b,(Value.func (.func 63) #[] #[])]<|gh λ_=>Lf 2 p5 λa=>Lf 2 p6 λb=>CT ω 64 #[a,b,(Value.func (.func 65) #[] #[])]<|gh λ_=>Lf 26 p5 λa=>Lf 26 p6 λb=>CT ω 66 #[a,b,(Value.func (.func 67) #[] #[])]<|gh λ_=>Lf 32 p2 λa=>Lf 32 p3 λb=>CT ω 68 #[a,b,(Value.func (.func 69) #[] #[])]<|gh λ_=>Lf 33 p2 λa=>Lf 33 p3 λb=>CT ω 70 #[a,b,(Value.func (.func 71) #[] #[])]<|gh λ_=>Lf 45 p2 λa=>Lf 45 p3 λb=>CT ω 72 #[a,b,(Value.func (.func 73) #[] #[])]<|gh λ_=>Pv (AO 47 p2) λa=>Lf 0 a λa=>Pv (AO 47 p3) λb=>Lf 0 b λb=>Pv (AZ .eql a b) λa=>Gd a true (Pv (AO 47 p2) λa=>Lf 1 a λa=>Pv (AO 47 p3) λb=>Lf 1 b λb=>Pv (AZ .eql a b) λa=>Gd a true (Pv (AO 47 p2) λa=>Lf 3 a λa=>Pv (AO 47 p3) λb=>Lf 3 b λb=>Pv (Dn .eql a b) λa=>Gd a true (Pv (AO 47 p2) λa=>Lf 2 a λa=>Pv (AO 47 p3) λb=>Lf 2 b λb=>CT ω 74 #[a,b]<|gh λ_=>Lf 0 p2 λa=>Lf 0 p3 λb=>Pv (AA .eql a b) λa=>Gd a true (Lf 30 p2 λa=>Lf 30 p3 λb=>Pv (AZ .eql a b) λa=>Gd a true (Lf 31 p2 λa=>Lf 31 p3 λb=>CT ω 74 #[a,b]<|gh λa=>Gd a true (Lf 46 p2 λa=>Lf 46 p3 λb=>CT ω 74 #[a,b]<|gh λa=>Gd a true (Pv (AO 34 p2) λa=>Rn (AC 11 a) λa=>Pv (AO 34 p3) λb=>Rn (AC 11 b) λb=>CT ω 60 #[a,b]<|gh λ_=>K Bf) (K Bf)) (K Bf)) (K Bf)) (K Bf)) (Lf 0 p2 λa=>Lf 0 p3 λb=>Pv (AA .eql a b) λa=>Gd a true (Lf 30 p2 λa=>Lf 30 p3 λb=>Pv (AZ .eql a b) λa=>Gd a true (Lf 31 p2 λa=>Lf 31 p3 λb=>CT ω 74 #[a,b]<|gh λa=>Gd a true (Lf 46 p2 λa=>Lf 46 p3 λb=>CT ω 74 #[a,b]<|gh λa=>Gd a true (Pv (AO 34 p2) λa=>Rn (AC 11 a) λa=>Pv (AO 34 p3) λb=>Rn (AC 11 b) λb=>CT ω 60 #[a,b]<|gh λ_=>K Bf) (K Bf)) (K Bf)) (K Bf)) (K Bf))) (Lf 0 p2 λa=>Lf 0 p3 λb=>Pv (AA .eql a b) λa=>Gd a true (Lf 30 p2 λa=>Lf 30 p3 λb=>Pv (AZ .eql a b) λa=>Gd a true (Lf 31 p2 λa=>Lf 31 p3 λb=>CT ω 74 #[a,b]<|gh λa=>Gd a true (Lf 46 p2 λa=>Lf 46 p3 λb=>CT ω 74 #[a,b]<|gh λa=>Gd a true (Pv (AO 34 p2) λa=>Rn (AC 11 a) λa=>Pv (AO 34 p3) λb=>Rn (AC 11 b) λb=>CT ω 60 #[a,b]<|gh λ_=>K Bf) (K Bf)) (K Bf)) (K Bf)) (K Bf))) (Lf 0 p2 λa=>Lf 0 p3 λb=>Pv (AA .eql a b) λa=>Gd a true (Lf 30 p2 λa=>Lf 30 p3 λb=>Pv (AZ .eql a b) λa=>Gd a true (Lf 31 p2 λa=>Lf 31 p3 λb=>CT ω 74 #[a,b]<|gh λa=>Gd a true (Lf 46 p2 λa=>Lf 46 p3 λb=>CT ω 74 #[a,b]<|gh λa=>Gd a true (Pv (AO 34 p2) λa=>Rn (AC 11 a) λa=>Pv (AO 34 p3) λb=>Rn (AC 11 b) λb=>CT ω 60 #[a,b]<|gh λ_=>K Bf) (K Bf)) (K Bf)) (K Bf)) (K Bf)))) (Lf 1 p5 λa=>Lf 1 p6 λb=>CT ω 62 #[a,b,(Value.func (.func 63) #[] #[])]<|gh λ_=>Lf 2 p5 λa=>Lf 2 p6 λb=>CT ω 64 #[a,b,(Value.func (.func 65) #[] #[])]<|gh λ_=>Lf 26 p5 λa=>Lf 26 p6 λb=>CT ω 66 #[a,b,(Value.func (.func 67) #[] #[])]<|gh λ_=>Lf 32 p2 λa=>Lf 32 p3 λb=>CT ω 68 #[a,b,(Value.func (.func 69) #[] #[])]<|gh λ_=>Lf 33 p2 λa=>Lf 33 p3 λb=>CT ω 70 #[a,b,(Value.func (.func 71) #[] #[])]<|gh λ_=>Lf 45 p2 λa=>Lf 45 p3 λb=>CT ω 72 #[a,b,(Value.func (.func 73) #[] #[])]<|gh λ_=>Pv (AO 47 p2) λa=>Lf 0 a λa=>Pv (AO 47 p3) λb=>Lf 0 b λb=>Pv (AZ .eql a b) λa=>Gd a true (Pv (AO 47 p2) λa=>Lf 1 a λa=>Pv (AO 47 p3) λb=>Lf 1 b λb=>Pv (AZ .eql a b) λa=>Gd a true (Pv (AO 47 p2) λa=>Lf 3 a λa=>Pv (AO 47 p3) λb=>Lf 3 b λb=>Pv (Dn .eql a b) λa=>Gd a true (Pv (AO 47 p2) λa=>Lf 2 a λa=>Pv (AO 47 p3) λb=>Lf 2 b λb=>CT ω 74 #[a,b]<|gh λ_=>Lf 0 p2 λa=>Lf 0 p3 λb=>Pv (AA .eql a b) λa=>Gd a true (Lf 30 p2 λa=>Lf 30 p3 λb=>Pv (AZ .eql a b) λa=>Gd a true (Lf 31 p2 λa=>Lf 31 p3 λb=>CT ω 74 #[a,b]<|gh λa=>Gd a true (Lf 46 p2 λa=>Lf 46 p3 λb=>CT ω 74 #[a,b]<|gh λa=>Gd a true (Pv (AO 34 p2) λa=>Rn (AC 11 a) λa=>Pv (AO 34 p3) λb=>Rn (AC 11 b) λb=>CT ω 60 #[a,b]<|gh λ_=>K Bf) (K Bf)) (K Bf)) (K Bf)) (K Bf)) (Lf 0 p2 λa=>Lf 0 p3 λb=>Pv (AA .eql a b) λa=>Gd a true (Lf 30 p2 λa=>Lf 30 p3 λb=>Pv (AZ .eql a b) λa=>Gd a true (Lf 31 p2 λa=>Lf 31 p3 λb=>CT ω 74 #[a,b]<|gh λa=>Gd a true (Lf 46 p2 λa=>Lf 46 p3 λb=>CT ω 74 #[a,b]<|gh λa=>Gd a true (Pv (AO 34 p2) λa=>Rn (AC 11 a) λa=>Pv (AO 34 p3) λb=>Rn (AC 11 b) λb=>CT ω 60 #[a,b]<|gh λ_=>K Bf) (K Bf)) (K Bf)) (K Bf)) (K Bf))) (Lf 0 p2 λa=>Lf 0 p3 λb=>Pv (AA .eql a b) λa=>Gd a true (Lf 30 p2 λa=>Lf 30 p3 λb=>Pv (AZ .eql a b) λa=>Gd a true (Lf 31 p2 λa=>Lf 31 p3 λb=>CT ω 74 #[a,b]<|gh λa=>Gd a true (Lf 46 p2 λa=>Lf 46 p3 λb=>CT ω 74 #[a,b]<|gh λa=>Gd a true (Pv (AO 34 p2) λa=>Rn (AC 11 a) λa=>Pv (AO 34 p3) λb=>Rn (AC 11 b) λb=>CT ω 60 #[a,b]<|gh λ_=>K Bf) (K Bf)) (K Bf)) (K Bf)) (K Bf))) (Lf 0 p2 λa=>Lf 0 p3 λb=>Pv (AA .eql a b) λa=>Gd a true (Lf 30 p2 λa=>Lf 30 p3 λb=>Pv (AZ .eql a b) λa=>Gd a true (Lf 31 p2 λa=>Lf 31 p3 λb=>CT ω 74 #[a,b]<|gh λa=>Gd a true (Lf 46 p2 λa=>Lf 46 p3 λb=>CT ω 74 #[a,b]<|gh λa=>Gd a true (Pv (AO 34 p2) λa=>Rn (AC 11 a) λa=>Pv (AO 34 p3) λb=>Rn (AC 11 b) λb=>CT ω 60 #[a,b]<|gh λ_=>K Bf) (K Bf)) (K Bf)) (K Bf)) (K Bf)))) (Lf 1 p5 λa=>Lf 1 p6 λb=>CT ω 62 #[a,b,(Value.func (.func 63) #[] #[])]<|gh λ_=>Lf 2 p5 λa=>Lf 2 p6 λb=>CT ω 64 #[a,b,(Value.func (.func 65) #[] #[])]<|gh λ_=>Lf 26 p5 λa=>Lf 26 p6 λb=>CT ω 66 #[a,b,(Value.func (.func 67) #[] #[])]<|gh λ_=>Lf 32 p2 λa=>Lf 32 p3 λb=>CT ω 68 #[a,b,(Value.func (.func 69) #[] #[])]<|gh λ_=>Lf 33 p2 λa=>Lf 33 p3 λb=>CT ω 70 #[a,b,(Value.func (.func 71) #[] #[])]<|gh λ_=>Lf 45 p2 λa=>Lf 45 p3 λb=>CT ω 72 #[a,b,(Value.func (.func 73) #[] #[])]<|gh λ_=>Pv (AO 47 p2) λa=>Lf 0 a λa=>Pv (AO 47 p3) λb=>Lf 0 b λb=>Pv (AZ .eql a b) λa=>Gd a true (Pv (AO 47 p2) λa=>Lf 1 a λa=>Pv (AO 47 p3) λb=>Lf 1 b λb=>Pv (AZ .eql a b) λa=>Gd a true (Pv (AO 47 p2) λa=>Lf 3 a λa=>Pv (AO 47 p3) λb=>Lf 3 b λb=>Pv (Dn .eql a b) λa=>Gd a true (Pv (AO 47 p2) λa=>Lf 2 a λa=>Pv (AO 47 p3) λb=>Lf 2 b λb=>CT ω 74 #[a,b]<|gh λ_=>Lf 0 p2 λa=>Lf 0 p3 λb=>Pv (AA .eql a b) λa=>Gd a true (Lf 30 p2 λa=>Lf 30 p3 λb=>Pv (AZ .eql a b) λa=>Gd a true (Lf 31 p2 λa=>Lf 31 p3 λb=>CT ω 74 #[a,b]<|gh λa=>Gd a true (Lf 46 p2 λa=>Lf 46 p3 λb=>CT ω 74 #[a,b]<|gh λa=>Gd a true (Pv (AO 34 p2) λa=>Rn (AC 11 a) λa=>Pv (AO 34 p3) λb=>Rn (AC 11 b) λb=>CT ω 60 #[a,b]<|gh λ_=>K Bf) (K Bf)) (K Bf)) (K Bf)) (K Bf)) (Lf 0 p2 λa=>Lf 0 p3 λb=>Pv (AA .eql a b) λa=>Gd a true (Lf 30 p2 λa=>Lf 30 p3 λb=>Pv (AZ .eql a b) λa=>Gd a true (Lf 31 p2 λa=>Lf 31 p3 λb=>CT ω 74 #[a,b]<|gh λa=>Gd a true (Lf 46 p2 λa=>Lf 46 p3 λb=>CT ω 74 #[a,b]<|gh λa=>Gd a true (Pv (AO 34 p2) λa=>Rn (AC 11 a) λa=>Pv (AO 34 p3) λb=>Rn (AC 11 b) λb=>CT ω 60 #[a,b]<|gh λ_=>K Bf) (K Bf)) (K Bf)) (K Bf)) (K Bf))) (Lf 0 p2 λa=>Lf 0 p3 λb=>Pv (AA .eql a b) λa=>Gd a true (Lf 30 p2 λa=>Lf 30 p3 λb=>Pv (AZ .eql a b) λa=>Gd a true (Lf 31 p2 λa=>Lf 31 p3 λb=>CT ω 74 #[a,b]<|gh λa=>Gd a true (Lf 46 p2 λa=>Lf 46 p3 λb=>CT ω 74 #[a,b]<|gh λa=>Gd a true (Pv (AO 34 p2) λa=>Rn (AC 11 a) λa=>Pv (AO 34 p3) λb=>Rn (AC 11 b) λb=>CT ω 60 #[a,b]<|gh λ_=>K Bf) (K Bf)) (K Bf)) (K Bf)) (K Bf))) (Lf 0 p2 λa=>Lf 0 p3 λb=>Pv (AA .eql a b) λa=>Gd a true (Lf 30 p2 λa=>Lf 30 p3 λb=>Pv (AZ .eql a b) λa=>Gd a true (Lf 31 p2 λa=>Lf 31 p3 λb=>CT ω 74 #[a,b]<|gh λa=>Gd a true (Lf 46 p2 λa=>Lf 46 p3 λb=>CT ω 74 #[a,b]<|gh λa=>Gd a true (Pv (AO 34 p2) λa=>Rn (AC 11 a) λa=>Pv (AO 34 p3) λb=>Rn (AC 11 b) λb=>CT ω 60 #[a,b]<|gh λ_=>K Bf) (K Bf)) (K Bf)) (K Bf)) (K Bf)))) (Lf 1 p5 λa=>Lf 1 p6 λb=>CT ω 62 #[a,b,(Value.func (.func 63) #[] #[])]<|gh λ_=>Lf 2 p5 λa=>Lf 2 p6 λb=>CT ω 64 #[a,b,(Value.func (.func 65) #[] #[])]<|gh λ_=>Lf 26 p5 λa=>Lf 26 p6 λb=>CT ω 66 #[a,b,(Value.func (.func 67) #[] #[])]<|gh λ_=>Lf 32 p2 λa=>Lf 32 p3 λb=>CT ω 68 #[a,b,(Value.func (.func 69) #[] #[])]<|gh λ_=>Lf 33 p2 λa=>Lf 33 p3 λb=>CT ω 70 #[a,b,(Value.func (.func 71) #[] #[])]<|gh λ_=>Lf 45 p2 λa=>Lf 45 p3 λb=>CT ω 72 #[a,b,(Value.func (.func 73) #[] #[])]<|gh λ_=>Pv (AO 47 p2) λa=>Lf 0 a λa=>Pv (AO 47 p3) λb=>Lf 0 b λb=>Pv (AZ .eql a b) λa=>Gd a true (Pv (AO 47 p2) λa=>Lf 1 a λa=>Pv (AO 47 p3) λb=>Lf 1 b λb=>Pv (AZ .eql a b) λa=>Gd a true (Pv (AO 47 p2) λa=>Lf 3 a λa=>Pv (AO 47 p3) λb=>Lf 3 b λb=>Pv (Dn .eql a b) λa=>Gd a true (Pv (AO 47 p2) λa=>Lf 2 a λa=>Pv (AO 47 p3) λb=>Lf 2 b λb=>CT ω 74 #[a,b]<|gh λ_=>Lf 0 p2 λa=>Lf 0 p3 λb=>Pv (AA .eql a b) λa=>Gd a true (Lf 30 p2 λa=>Lf 30 p3 λb=>Pv (AZ .eql a b) λa=>Gd a true (Lf 31 p2 λa=>Lf 31 p3 λb=>CT ω 74 #[a,b]<|gh λa=>Gd a true (Lf 46 p2 λa=>Lf 46 p3 λb=>CT ω 74 #[a,b]<|gh λa=>Gd a true (Pv (AO 34 p2) λa=>Rn (AC 11 a) λa=>Pv (AO 34 p3) λb=>Rn (AC 11 b) λb=>CT ω 60 #[a,b]<|gh λ_=>K Bf) (K Bf)) (K Bf)) (K Bf)) (K Bf)) (Lf 0 p2 λa=>Lf 0 p3 λb=>Pv (AA .eql a b) λa=>Gd a true (Lf 30 p2 λa=>Lf 30 p3 λb=>Pv (AZ .eql a b) λa=>Gd a true (Lf 31 p2 λa=>Lf 31 p3 λb=>CT ω 74 #[a,b]<|gh λa=>Gd a true (Lf 46 p2 λa=>Lf 46 p3 λb=>CT ω 74 #[a,b]<|gh λa=>Gd a true (Pv (AO 34 p2) λa=>Rn (AC 11 a) λa=>Pv (AO 34 p3) λb=>Rn (AC 11 b) λb=>CT ω 60 #[a,b]<|gh λ_=>K Bf) (K Bf)) (K Bf)) (K Bf)) (K Bf))) (Lf 0 p2 λa=>Lf 0 p3 λb=>Pv (AA .eql a b) λa=>Gd a true (Lf 30 p2 λa=>Lf 30 p3 λb=>Pv (AZ .eql a b) λa=>Gd a true (Lf 31 p2 λa=>Lf 31 p3 λb=>CT ω 74 #[a,b]<|gh λa=>Gd a true (Lf 46 p2 λa=>Lf 46 p3 λb=>CT ω 74 #[a,b]<|gh λa=>Gd a true (Pv (AO 34 p2) λa=>Rn (AC 11 a) λa=>Pv (AO 34 p3) λb=>Rn (AC 11 b) λb=>CT ω 60 #[a,b]<|gh λ_=>K Bf) (K Bf)) (K Bf)) (K Bf)) (K Bf))) (Lf 0 p2 λa=>Lf 0 p3 λb=>Pv (AA .eql a b) λa=>Gd a true (Lf 30 p2 λa=>Lf 30 p3 λb=>Pv (AZ .eql a b) λa=>Gd a true (Lf 31 p2 λa=>Lf 31 p3 λb=>CT ω 74 #[a,b]<|gh λa=>Gd a true (Lf 46 p2 λa=>Lf 46 p3 λb=>CT ω 74 #[a,b]<|gh λa=>Gd a true (Pv (AO 34 p2) λa=>Rn (AC 11 a) λa=>Pv (AO 34 p3) λb=>Rn (AC 11 b) λb=>CT ω 60 #[a,b]<|gh λ_=>K Bf) (K Bf)) (K Bf)) (K Bf)) (K Bf)))) (Lf 1 p5 λa=>Lf 1 p6 λb=>CT ω 62 #[a,b,(Value.func (.func 63) #[] #[])]<|gh λ_=>Lf 2 p5 λa=>Lf 2 p6 λb=>CT ω 64 #[a,b,(Value.func (.func 65) #[] #[])]<|gh λ_=>Lf 26 p5 λa=>Lf 26 p6 λb=>CT ω 66 #[a,b,(Value.func (.func 67) #[] #[])]<|gh λ_=>Lf 32 p2 λa=>Lf 32 p3 λb=>CT ω 68 #[a,b,(Value.func (.func 69) #[] #[])]<|gh λ_=>Lf 33 p2 λa=>Lf 33 p3 λb=>CT ω 70 #[a,b,(Value.func (.func 71) #[] #[])]<|gh λ_=>Lf 45 p2 λa=>Lf 45 p3 λb=>CT ω 72 #[a,b,(Value.func (.func 73) #[] #[])]<|gh λ_=>Pv (AO 47 p2) λa=>Lf 0 a λa=>Pv (AO 47 p3) λb=>Lf 0 b λb=>Pv (AZ .eql a b) λa=>Gd a true (Pv (AO 47 p2) λa=>Lf 1 a λa=>Pv (AO 47 p3) λb=>Lf 1 b λb=>Pv (AZ .eql a b) λa=>Gd a true (Pv (AO 47 p2) λa=>Lf 3 a λa=>Pv (AO 47 p3) λb=>Lf 3 b λb=>Pv (Dn .eql a b) λa=>Gd a true (Pv (AO 47 p2) λa=>Lf 2 a λa=>Pv (AO 47 p3) λb=>Lf 2 b λb=>CT ω 74 #[a,b]<|gh λ_=>Lf 0 p2 λa=>Lf 0 p3 λb=>Pv (AA .eql a b) λa=>Gd a true (Lf 30 p2 λa=>Lf 30 p3 λb=>Pv (AZ .eql a b) λa=>Gd a true (Lf 31 p2 λa=>Lf 31 p3 λb=>CT ω 74 #[a,b]<|gh λa=>Gd a true (Lf 46 p2 λa=>Lf 46 p3 λb=>CT ω 74 #[a,b]<|gh λa=>Gd a true (Pv (AO 34 p2) λa=>Rn (AC 11 a) λa=>Pv (AO 34 p3) λb=>Rn (AC 11 b) λb=>CT ω 60 #[a,b]<|gh λ_=>K Bf) (K Bf)) (K Bf)) (K Bf)) (K Bf)) (Lf 0 p2 λa=>Lf 0 p3 λb=>Pv (AA .eql a b) λa=>Gd a true (Lf 30 p2 λa=>Lf 30 p3 λb=>Pv (AZ .eql a b) λa=>Gd a true (Lf 31 p2 λa=>Lf 31 p3 λb=>CT ω 74 #[a,b]<|gh λa=>Gd a true (Lf 46 p2 λa=>Lf 46 p3 λb=>CT ω 74 #[a,b]<|gh λa=>Gd a true (Pv (AO 34 p2) λa=>Rn (AC 11 a) λa=>Pv (AO 34 p3) λb=>Rn (AC 11 b) λb=>CT ω 60 #[a,b]<|gh λ_=>K Bf) (K Bf)) (K Bf)) (K Bf)) (K Bf))) (Lf 0 p2 λa=>Lf 0 p3 λb=>Pv (AA .eql a b) λa=>Gd a true (Lf 30 p2 λa=>Lf 30 p3 λb=>Pv (AZ .eql a b) λa=>Gd a true (Lf 31 p2 λa=>Lf 31 p3 λb=>CT ω 74 #[a,b]<|gh λa=>Gd a true (Lf 46 p2 λa=>Lf 46 p3 λb=>CT ω 74 #[a,b]<|gh λa=>Gd a true (Pv (AO 34 p2) λa=>Rn (AC 11 a) λa=>Pv (AO 34 p3) λb=>Rn (AC 11 b) λb=>CT ω 60 #[a,b]<|gh λ_=>K Bf) (K Bf)) (K Bf)) (K Bf)) (K Bf))) (Lf 0 p2 λa=>Lf 0 p3 λb=>Pv (AA .eql a b) λa=>Gd a true (Lf 30 p2 λa=>Lf 30 p3 λb=>Pv (AZ .eql a b) λa=>Gd a true (Lf 31 p2 λa=>Lf 31 p3 λb=>CT ω 74 #[a,b]<|gh λa=>Gd a true (Lf 46 p2 λa=>Lf 46 p3 λb=>CT ω 74 #[a,b]<|gh λa=>Gd a true (Pv (AO 34 p2) λa=>Rn (AC 11 a) λa=>Pv (AO 34 p3) λb=>Rn (AC 11 b) λb=>CT ω 60 #[a,b]<|gh λ_=>K Bf) (K Bf)) (K Bf)) (K Bf)) (K Bf)))
def ASW (ω:Om)(a0 a1:Value)(K:Value→M):M:=New (.cells (Value.cells a0) 48 (0,0))<|gh λa=>New (.cells (Value.cells a1) 48 (0,0))<|gh λb=>Bg λS=>Pv (AO 1 a) λc=>Rs S (AC 29 c) λc=>Pv (AO 1 b) λd=>Rs S (AC 29 d) λd=>(λe f=>(New (.cells Zq 40 (0,0))<|gh<|Cf S λe=>New (.cells Zq 40 (0,0))<|gh<|Cf S λf=>Sto 29 e c<|gh<|Cf S λ_=>Sto 29 f d<|gh λ_=>Ux ω a b Bf e f K) e f∧(New (.cells Zq 40 (0,0))<|gh<|Cf S λe=>New (.cells Zq 40 (0,0))<|gh<|Cf S λf=>Sto 29 f c<|gh<|Cf S λ_=>Sto 29 e d<|gh λ_=>Ux ω a b Bf f e K) e f)
def AUW:=zkc2 ASW 31 Tryz.func31
def AFz (ω:Om)(p0 p10:Value)(p11 x12:Value)(Kn2:(Value×Value×Value×Unit)→M)(Kn3:(Value×Unit)→M)(K:Value→M):M:=Pv (BR p0) λa=>Pv (AA .lss x12 a) λa=>Gd a true (Pv (Cb p0 x12) λa=>Pv (Vj 1 256 (.pointer (some ⟨0,0,none⟩)) a) λa=>Rn (BA a) λa=>Pv (AA .neq a (.int .u8 0)) λa=>Br a (Pv (AA .add x12 (.int .i64 1)) λa=>Kn3 (a,())) (Kn2 (p10,x12,x12,()))) (Kn2 (p10,x12,x12,()))
def AAm (ω:Om)(p0 p2:Value)(p9 p10 p11:Value)(K:Value→M):M:=Pv (BR p0) λa=>Pv (AA .lss p11 a) λa=>Br a (Pv (DN p0 (some p11) none) λa=>Pv (ixV 1 p9 p10) λb=>Sto 1 b a<|gh λ_=>K p9) (K p9)
def AGA (ω:Om)(p0 p2:Value)(p9 x10:Value)(x11 x12:Value)(Kn2:(Value×Value×Value×Unit)→M)(K:Value→M):M:=Pv (BR p0) λa=>Pv (AA .lss x12 a) λa=>Br a (Pv (Cb p0 x12) λa=>Pv (Vj 1 256 (.pointer (some ⟨0,0,none⟩)) a) λa=>Rn (BA a) λa=>Pv (AA .eql a (.int .u8 0)) λa=>Br a (Pv (AA .add x12 (.int .i64 1)) λa=>Kn2 (x10,x11,a,())) (Pv (DN p0 (some x11) (some x12)) λa=>Pv (ixV 1 p9 x10) λb=>Sto 1 b a<|gh λ_=>Pv (AA .add x10 (.int .i64 1)) λa=>Pv (AA .add x12 (.int .i64 1)) λb=>Ac ((b,()):Value×Unit) λs b=>AFz ω p0 a x11 s.1 Kn2 b K)) (AAm ω p0 p2 p9 x10 x11 K)
def Yl (ω:Om)(p0 p2:Value)(p9 p10:Value)(p11 p12:Value)(K:Value→M):M:=Ac ((p10,p12,p12,()):Value×Value×Value×Unit) λs Kn2=>AGA ω p0 p2 p9 s.1 s.2.1 s.2.2.1 Kn2 K
def AGB (ω:Om)(p0 p2:Value)(p9 p10:Value)(p11 x12:Value)(Kn1:(Value×Unit)→M)(K:Value→M):M:=Pv (BR p0) λa=>Pv (AA .lss x12 a) λa=>Gd a true (Pv (Cb p0 x12) λa=>Pv (Vj 1 256 (.pointer (some ⟨0,0,none⟩)) a) λa=>Rn (BA a) λa=>Pv (AA .neq a (.int .u8 0)) λa=>Br a (Pv (AA .add x12 (.int .i64 1)) λa=>Kn1 (a,())) (Yl ω p0 p2 p9 p10 p11 x12 K)) (Yl ω p0 p2 p9 p10 p11 x12 K)
def AGC (ω:Om)(p0 p2:Value)(p3 p5:Value)(K:Value→M):M:=Pv (AA .geq p5 (.int .u8 128)) λa=>Br a (CT ω 75 #[p0,(Value.func (.func 76) #[] #[])]<|gh λa=>K a) (MkS 9 16 Zb p3 p3<|gh λa=>Ac ((I0,()):Value×Unit) λs b=>AGB ω p0 p2 a I0 I0 s.1 b K)
def AGD (ω:Om)(p0 p2:Value)(x3 x4:Value)(x5 x6:Value)(Kn0:(Value×Value×Value×Value×Unit)→M)(K:Value→M):M:=Pv (BR p0) λa=>Pv (AA .lss x6 a) λa=>Br a (Pv (Cb p0 x6) λa=>Pv (AA .or x5 a) λb=>Pv (Vj 1 256 (.pointer (some ⟨0,0,none⟩)) a) λa=>Rn (BA a) λa=>Pv (SV .i64 a) λa=>Pv (unV .xor a) λc=>Pv (AA .and x4 c) λc=>Pv (AA .add x3 c) λc=>Pv (AA .add x6 (.int .i64 1)) λd=>Kn0 (c,a,b,d,())) (AGC ω p0 p2 x3 x5 K)
def ASV (ω:Om)(a0:Value)(K:Value→M):M:=Ac ((I0,(.int .i64 1),(.int .u8 0),I0,()):Value×Value×Value×Value×Unit) λs Kn0=>AGD ω a0 S0 s.1 s.2.1 s.2.2.1 s.2.2.2.1 Kn0 K
def AUU:=zkc1 ASV 32 Tryz.func32
def ASU (ω:Om)(a0:Value)(K:Value→M):M:=Pv (AA .eql a0 (.int .u8 9)) λa=>Gd a false (Pv (AA .eql a0 (.int .u8 10)) λa=>Gd a false (Pv (AA .eql a0 (.int .u8 12)) λa=>Gd a false (Pv (AA .eql a0 (.int .u8 13)) λa=>Gd a false (Pv (AA .eql a0 (.int .u8 32)) λa=>K a) (K Bt)) (K Bt)) (K Bt)) (K Bt)
def AUT:=zkc1 ASU 33 Tryz.func33
def sh34_6 (ω:Om)(p4 p5:Value)(p6 p8 p11:Value)(K:Value→M):M:=Rn (AC 4 p8) λa=>Sto 4 p4 a<|gh λ_=>Rn (AC 4 p4) λa=>K (Value.tuple #[a,p11,I0])
def sh34_4 (ω:Om)(p4 p5:Value)(p6 p8 p11:Value)(K:Value→M):M:=Lf 1 p8 λa=>Pv (BR a) λa=>Pv (AA .gtr a (.int .i64 63)) λa=>Br a (Rn (AC 4 p8) λa=>Sto 4 p4 a<|gh λ_=>Rn (AC 4 p4) λa=>K (Value.tuple #[a,I0,(.int .i64 173)])) (sh34_6 ω p4 p5 p6 p8 p11 K)
def Uu (ω:Om)(p0 p1:Value)(p4 p5:Value)(p6 p8 p11:Value)(K:Value→M):M:=Pv (AO 0 p8) λa=>Sto 1 a (.int .i64 1)<|gh λ_=>Pv (DN p0 (some p1) (some p11)) λa=>CT ω 79 #[a]<|gh λa=>Pv (AO 1 p8) λb=>Sto 1 b a<|gh λ_=>Bg λS=>CT ω 18 #[]<|gh<|Cf S λa=>Lg S 1 p8 λb=>CT ω 80 #[a,b]<|gh λa=>Br a (Pv (AO 0 p8) λa=>Sto 1 a (.int .i64 2)<|gh λ_=>sh34_4 ω p4 p5 p6 p8 p11 K) (sh34_4 ω p4 p5 p6 p8 p11 K)
def AFy (ω:Om)(p0 p1:Value)(p4 p5:Value)(p6 p8 x11:Value)(Kn0:(Value×Unit)→M)(K:Value→M):M:=Pv (BR p0) λa=>Pv (AA .lss x11 a) λa=>Gd a true (Pv (Cb p0 x11) λa=>CT ω 77 #[a]<|gh λa=>Gd a false (Pv (Cb p0 x11) λa=>CT ω 78 #[a]<|gh λa=>Br a (Pv (AA .add x11 (.int .i64 1)) λa=>Kn0 (a,())) (Uu ω p0 p1 p4 p5 p6 p8 x11 K)) (Pv (AA .add x11 (.int .i64 1)) λa=>Kn0 (a,()))) (Uu ω p0 p1 p4 p5 p6 p8 x11 K)
def sh34_8 (ω:Om)(p4 p5:Value)(p6 p8:Value)(K:Value→M):M:=Rn (AC 4 p8) λa=>Sto 4 p4 a<|gh λ_=>Rn (AC 4 p4) λa=>K (Value.tuple #[a,I0,(.int .i64 172)])
def sh34_11 (ω:Om)(p4 p5:Value)(p6 p8:Value)(K:Value→M):M:=Rn (AC 4 p8) λa=>Sto 4 p4 a<|gh λ_=>Rn (AC 4 p4) λa=>K (Value.tuple #[a,I0,(.int .i64 172)])
def Oy (ω:Om)(p0 p4:Value)(p5 p6:Value)(p8 p11:Value)(K:Value→M):M:=Pv (BR p0) λa=>Pv (AA .lss p11 a) λa=>Gd a true (Pv (Cb p0 p11) λa=>CT ω 77 #[a]<|gh λa=>Br a (sh34_11 ω p4 p5 p6 p8 K) (sh34_6 ω p4 p5 p6 p8 p11 K)) (sh34_6 ω p4 p5 p6 p8 p11 K)
def Yk (ω:Om)(p0 p4:Value)(p8 x5:Value)(x6 x11:Value)(Kn0:(Value×Value×Value×Unit)→M)(K:Value→M):M:=Pv (BR p0) λa=>Pv (AA .lss x11 a) λa=>Gd a true (Pv (Cb p0 x11) λa=>CT ω 78 #[a]<|gh λa=>Br a (Pv (Cb p0 x11) λa=>Pv (SV .i64 a) λa=>Pv (AA .sub a (.int .i64 48)) λa=>Lf 2 p8 λb=>Pv (AA .sub (.int .i64 9223372036854775807) a) λc=>Pv (AA .quo c (.int .i64 10)) λc=>Pv (AA .gtr b c) λb=>Br b (sh34_8 ω p4 x5 x6 p8 K) (Lf 2 p8 λb=>Pv (AA .mul (.int .i64 10) b) λb=>Pv (AA .add b a) λa=>Pv (AO 2 p8) λb=>Sto 1 b a<|gh λ_=>Pv (AA .add x11 (.int .i64 1)) λa=>Kn0 (x5,x6,a,()))) (Oy ω p0 p4 x5 x6 p8 x11 K)) (Oy ω p0 p4 x5 x6 p8 x11 K)
def sh34_13 (ω:Om)(p4 p5:Value)(p6 p8:Value)(K:Value→M):M:=Rn (AC 4 p8) λa=>Sto 4 p4 a<|gh λ_=>Rn (AC 4 p4) λa=>K (Value.tuple #[a,I0,(.int .i64 173)])
def sh34_17 (ω:Om)(p4 p5:Value)(p6 p8 p11:Value)(K:Value→M):M:=Rn (AC 4 p8) λa=>Sto 4 p4 a<|gh λ_=>Rn (AC 4 p4) λa=>K (Value.tuple #[a,p11,I0])
def sh34_15 (ω:Om)(p4 p5:Value)(p6 p8:Value)(p11 p14 p15:Value)(K:Value→M):M:=Pv (AO 1 p8) λa=>Sto 1 a p14<|gh λ_=>sh34_17 ω p4 p5 p6 p8 p15 K
def sh34_14 (ω:Om)(p4 p5:Value)(p6 p8:Value)(p11 p14 p15:Value)(K:Value→M):M:=Pv (AO 0 p8) λa=>Sto 1 a (.int .i64 1)<|gh λ_=>sh34_15 ω p4 p5 p6 p8 p11 p14 p15 K
def Ox (ω:Om)(p0 p1:Value)(p4 p5:Value)(p6 p7:Value)(p8 p11:Value)(K:Value→M):M:=CT ω 81 #[p0,p1]<|gh λa=>Pv (exV a 0) λb=>Pv (exV a 1) λc=>Pv (exV a 2) λa=>Pv (unV .not a) λa=>Gd a false (Pv (AA .eql p7 (.int .u8 34)) λa=>Gd a true (Pv (BR b) λa=>Pv (AA .lss a (.int .i64 1)) λa=>Gd a false (Pv (BR b) λa=>Pv (AA .gtr a (.int .i64 63)) λa=>Br a (sh34_13 ω p4 p5 p6 p8 K) (Pv (AO 0 p8) λa=>Sto 1 a (.int .i64 4)<|gh λ_=>Pv (AA .eql p7 (.int .u8 34)) λa=>Br a (sh34_14 ω p4 p5 p6 p8 p11 b c K) (sh34_15 ω p4 p5 p6 p8 p11 b c K))) (sh34_13 ω p4 p5 p6 p8 K)) (Pv (AO 0 p8) λa=>Sto 1 a (.int .i64 4)<|gh λ_=>Pv (AA .eql p7 (.int .u8 34)) λa=>Br a (sh34_14 ω p4 p5 p6 p8 p11 b c K) (sh34_15 ω p4 p5 p6 p8 p11 b c K))) (sh34_13 ω p4 p5 p6 p8 K)
def Uw (ω:Om)(p0 p1:Value)(p4 p5:Value)(p6 p8 p11:Value)(K:Value→M):M:=CT ω 82 #[p0,p1]<|gh λa=>Pv (AZ .eql a Q0) λb=>Br b (Rn (AC 4 p8) λa=>Sto 4 p4 a<|gh λ_=>Rn (AC 4 p4) λa=>K (Value.tuple #[a,I0,(.int .i64 171)])) (Pv (AO 0 p8) λb=>Sto 1 b (.int .i64 5)<|gh λ_=>Pv (AO 1 p8) λb=>Sto 1 b a<|gh λ_=>Pv (BR a) λb=>Pv (AA .add p1 b) λb=>Pv (AZ .eql a (zS [33,61])) λa=>Br a (Pv (AO 1 p8) λa=>Sto 1 a (zS [60,62])<|gh λ_=>sh34_17 ω p4 p5 p6 p8 b K) (sh34_17 ω p4 p5 p6 p8 b K))
def AST (ω:Om)(a0 a1:Value)(K:Value→M):M:=New (.cells Zi 74 (0,0))<|gh λa=>Pv (Cb a0 a1) λb=>Pv (Ai Zi Zk [(3,a1)]) λc=>New (.cells Zi 74 (0,0))<|gh λd=>Sto 4 d c<|gh λ_=>CT ω 77 #[b]<|gh λc=>CT ω 78 #[b]<|gh λe=>Br c (Ac ((a1,()):Value×Unit) λs b=>AFy ω a0 a1 a I0 I0 d s.1 b K) (Br e (Pv (AO 0 d) λb=>Sto 1 b (.int .i64 3)<|gh λ_=>Ac ((I0,I0,a1,()):Value×Value×Value×Unit) λs b=>Yk ω a0 a d s.1 s.2.1 s.2.2.1 b K) (Pv (AA .eql b (.int .u8 34)) λc=>Gd c false (Pv (AA .eql b (.int .u8 39)) λc=>Br c (Ox ω a0 a1 a I0 I0 b d a1 K) (Uw ω a0 a1 a I0 I0 d a1 K)) (Ox ω a0 a1 a I0 I0 b d a1 K)))
def AUS:=zkc2 AST 34 Tryz.func34
def ASS (ω:Om)(a0 a1:Value)(K:Value→M):M:=CT ω 37 #[a0,a1]<|gh λa=>Br a (Pv (Ae a0) λb=>Lf 1 b λb=>Pv (AA .add b (.int .i64 1)) λb=>Pv (Ae a0) λc=>Pv (AO 1 c) λc=>Sto 1 c b<|gh λ_=>K a) (K a)
def AUR:=zkc2 ASS 35 Tryz.func35
def AFw (ω:Om)(p0 p2:Value)(K:Value→M):M:=Pv (Ae p0) λa=>Pv (AO 2 a) λa=>Sto 1 a Bt<|gh λ_=>Pv (Ai Zc Zj []) λa=>Sto 51 p2 a<|gh λ_=>Rn (AC 51 p2) λa=>K a
def AFx (ω:Om)(p0 p2:Value)(p3 x4:Value)(Kn0:(Value×Unit)→M)(K:Value→M):M:=Pv (lenV p3) λa=>Pv (AA .lss x4 a) λa=>Br a (Pv (ixV 1 p3 x4) λa=>Rn (BA a) λa=>CT ω 35 #[p0,a]<|gh λa=>Pv (unV .not a) λa=>Br a (Pv (AA .add x4 (.int .i64 1)) λa=>Kn0 (a,())) (Pv (AA .eql x4 I0) λa=>Br a (CT ω 83 #[p0]<|gh λa=>New (.cells Zq 40 (0,0))<|gh λb=>Sto 29 b a<|gh λ_=>Rn (AC 29 b) λa=>Pv (Ai Zc Zj [(0,(.int .i64 1)),(1,a)]) λa=>Sto 51 p2 a<|gh λ_=>Rn (AC 51 p2) λa=>K a) (Pv (AA .eql x4 (.int .i64 1)) λa=>Br a (CT ω 84 #[p0]<|gh λa=>Sto 51 p2 a<|gh λ_=>Rn (AC 51 p2) λa=>K a) (Pv (AA .eql x4 (.int .i64 2)) λa=>Br a (CT ω 85 #[p0]<|gh λa=>Sto 51 p2 a<|gh λ_=>Rn (AC 51 p2) λa=>K a) (Pv (AA .eql x4 (.int .i64 3)) λa=>Br a (CT ω 86 #[p0,(zS [102,114,111,109])]<|gh λ_=>Pv (Ai Zc Zj [(0,(.int .i64 4))]) λa=>New (.cells Zc 48 (0,0))<|gh λb=>Sto 51 b a<|gh λ_=>CT ω 87 #[p0]<|gh λa=>Pv (AO 30 b) λc=>Sto 1 c a<|gh λ_=>CT ω 88 #[p0]<|gh λa=>Pv (AO 34 b) λc=>Sto 11 c a<|gh λ_=>Rn (AC 51 b) λa=>Sto 51 p2 a<|gh λ_=>Rn (AC 51 p2) λa=>K a) (Pv (AA .eql x4 (.int .i64 4)) λa=>Br a (CT ω 89 #[p0]<|gh λa=>Sto 51 p2 a<|gh λ_=>Rn (AC 51 p2) λa=>K a) (Pv (AA .eql x4 (.int .i64 5)) λa=>Br a (CT ω 90 #[p0]<|gh λa=>Sto 51 p2 a<|gh λ_=>Rn (AC 51 p2) λa=>K a) (Pv (AA .add (.int .i64 9) x4) λa=>Pv (AA .sub a (.int .i64 6)) λa=>Pv (Ai Zc Zj [(0,a)]) λa=>Sto 51 p2 a<|gh λ_=>Rn (AC 51 p2) λa=>K a)))))))) (AFw ω p0 p2 K)
def ASR (ω:Om)(a0:Value)(K:Value→M):M:=New (.cells Zc 48 (0,0))<|gh λa=>AU 9 1 Zb 9 [(0,(zS [115,101,108,101,99,116])),(1,(zS [105,110,115,101,114,116])),(2,(zS [117,112,100,97,116,101])),(3,(zS [100,101,108,101,116,101])),(4,(zS [99,114,101,97,116,101])),(5,(zS [100,114,111,112])),(6,(zS [98,101,103,105,110])),(7,(zS [99,111,109,109,105,116])),(8,(zS [114,111,108,108,98,97,99,107]))]<|gh λb=>Ac ((I0,()):Value×Unit) λs c=>AFx ω a0 a b s.1 c K
def AUQ:=zkc1 ASR 36 Tryz.func36
def ASQ (ω:Om)(a0 a1:Value)(K:Value→M):M:=Bg λS=>Pv (Ae a0) λa=>Lg S 0 a λa=>Pv (Ae a0) λb=>Lg S 1 b λb=>Pv (ixV 4 a b) λa=>Rs S (AC 4 a) λa=>New (.cells Zi 74 (0,0))<|gh<|Cf S λb=>Sto 4 b a<|gh λ_=>Pv (Ae a0) λa=>Lf 2 a λa=>Pv (unV .not a) λa=>Gd a true (Lf 0 b λa=>Pv (AA .eql a (.int .i64 2)) λa=>Gd a false (Lf 0 b λa=>Pv (AA .eql a (.int .i64 5)) λa=>Gd a true (Lf 1 b λa=>Pv (AZ .eql a a1) λa=>K a) (K Bf)) (Lf 1 b λa=>Pv (AZ .eql a a1) λa=>K a)) (K Bf)
def AUP:=zkc2 ASQ 37 Tryz.func37
def Ou (ω:Om)(p10 p11:Value)(Kn6:(Value×Value×Unit)→M)(K:Value→M):M:=Pv (AA .add p11 (.int .i64 1)) λa=>Kn6 (p10,a,())
def AAl (ω:Om)(p2 p3:Value)(x10 x11:Value)(Kn6:(Value×Value×Unit)→M)(K:Value→M):M:=Pv (lenV p3) λa=>Pv (AA .lss x11 a) λa=>Br a (Pv (ixV 11 p3 x11) λa=>Lf 0 a λa=>Pv (AA .neq a I0) λa=>Br a (Pv (ixV 11 p3 x11) λa=>Rn (AC 11 a) λa=>AU 37 11 Za 1 [(0,a)]<|gh λa=>App 37 11 128 Za x10 a<|gh λa=>Ou ω a x11 Kn6 K) (Ou ω x10 x11 Kn6 K)) (K x10)
def Ov (ω:Om)(p2 p3:Value)(K:Value→M):M:=Ac ((S0,I0,()):Value×Value×Unit) λs Kn6=>AAl ω p2 p3 s.1 s.2.1 Kn6 K
def Un (ω:Om)(p1 p2:Value)(x3 x9:Value)(Kn5:(Value×Value×Unit)→M)(K:Value→M):M:=Lf 45 p1 λa=>Pv (lenV a) λa=>Pv (AA .lss x9 a) λa=>Br a (Lf 45 p1 λa=>Pv (ixV 16 a x9) λa=>Pv (AO 5 a) λa=>Rn (AC 11 a) λa=>AU 37 11 Za 1 [(0,a)]<|gh λa=>App 37 11 128 Za x3 a<|gh λa=>Pv (AA .add x9 (.int .i64 1)) λb=>Kn5 (a,b,())) (Ov ω p2 x3 K)
def Uo (ω:Om)(p1 p2 p3:Value)(K:Value→M):M:=Ac ((p3,I0,()):Value×Value×Unit) λs Kn5=>Un ω p1 p2 s.1 s.2.1 Kn5 K
def Ur (ω:Om)(p1 p2:Value)(x3 x8:Value)(Kn4:(Value×Value×Unit)→M)(K:Value→M):M:=Lf 33 p1 λa=>Pv (lenV a) λa=>Pv (AA .lss x8 a) λa=>Br a (Lf 33 p1 λa=>Pv (ixV 12 a x8) λa=>Pv (AO 1 a) λa=>Rn (AC 11 a) λa=>AU 37 11 Za 1 [(0,a)]<|gh λa=>App 37 11 128 Za x3 a<|gh λa=>Pv (AA .add x8 (.int .i64 1)) λb=>Kn4 (a,b,())) (Uo ω p1 p2 x3 K)
def Us (ω:Om)(p1 p2 p3:Value)(K:Value→M):M:=Ac ((p3,I0,()):Value×Value×Unit) λs Kn4=>Ur ω p1 p2 s.1 s.2.1 Kn4 K
def Ut (ω:Om)(p1 p2:Value)(x3 x7:Value)(Kn3:(Value×Value×Unit)→M)(K:Value→M):M:=Lf 32 p1 λa=>Pv (lenV a) λa=>Pv (AA .lss x7 a) λa=>Br a (Lf 32 p1 λa=>Pv (ixV 1 a x7) λa=>Rn (BA a) λa=>App 37 11 128 Za x3 a<|gh λa=>Pv (AA .add x7 (.int .i64 1)) λb=>Kn3 (a,b,())) (Us ω p1 p2 x3 K)
def Ye (ω:Om)(p1 p2 p3:Value)(K:Value→M):M:=Ac ((p3,I0,()):Value×Value×Unit) λs Kn3=>Ut ω p1 p2 s.1 s.2.1 Kn3 K
def Yf (ω:Om)(p1 p2:Value)(x3 x6:Value)(Kn2:(Value×Value×Unit)→M)(K:Value→M):M:=Pv (AO 1 p1) λa=>Lf 26 a λa=>Pv (lenV a) λa=>Pv (AA .lss x6 a) λa=>Br a (Pv (AO 1 p1) λa=>Lf 26 a λa=>Pv (ixV 12 a x6) λa=>Pv (AO 0 a) λa=>Rn (AC 11 a) λa=>AU 37 11 Za 1 [(0,a)]<|gh λa=>App 37 11 128 Za x3 a<|gh λa=>Pv (AA .add x6 (.int .i64 1)) λb=>Kn2 (a,b,())) (Ye ω p1 p2 x3 K)
def Yg (ω:Om)(p1 p2 p3:Value)(K:Value→M):M:=Pv (AO 1 p1) λa=>Pv (AO 3 a) λa=>Rn (AC 11 a) λa=>Pv (AO 1 p1) λb=>Pv (AO 15 b) λb=>Rn (AC 11 b) λb=>Pv (AO 34 p1) λc=>Rn (AC 11 c) λc=>AU 37 11 Za 3 [(0,a),(1,b),(2,c)]<|gh λa=>App 37 11 128 Za p3 a<|gh λa=>Pv (AO 1 p1) λb=>Lf 14 b λb=>App 37 11 128 Za a b<|gh λa=>Ac ((a,I0,()):Value×Value×Unit) λs a=>Yf ω p1 p2 s.1 s.2.1 a K
def Yh (ω:Om)(p1 p2:Value)(x3 x5:Value)(Kn1:(Value×Value×Unit)→M)(K:Value→M):M:=Pv (AO 1 p1) λa=>Lf 2 a λa=>Pv (lenV a) λa=>Pv (AA .lss x5 a) λa=>Br a (Pv (AO 1 p1) λa=>Lf 2 a λa=>Pv (ixV 14 a x5) λa=>Pv (AO 3 a) λa=>Rn (AC 11 a) λa=>AU 37 11 Za 1 [(0,a)]<|gh λa=>App 37 11 128 Za x3 a<|gh λa=>Pv (AA .add x5 (.int .i64 1)) λb=>Kn1 (a,b,())) (Yg ω p1 p2 x3 K)
def Yi (ω:Om)(p1 p2 p3:Value)(K:Value→M):M:=Ac ((p3,I0,()):Value×Value×Unit) λs Kn1=>Yh ω p1 p2 s.1 s.2.1 Kn1 K
def Yj (ω:Om)(p1 p2:Value)(x3 x4:Value)(Kn0:(Value×Value×Unit)→M)(K:Value→M):M:=Pv (AO 1 p1) λa=>Lf 1 a λa=>Pv (lenV a) λa=>Pv (AA .lss x4 a) λa=>Br a (Pv (AO 1 p1) λa=>Lf 1 a λa=>Pv (ixV 14 a x4) λa=>Pv (AO 2 a) λa=>Rn (AC 11 a) λa=>AU 37 11 Za 1 [(0,a)]<|gh λa=>App 37 11 128 Za x3 a<|gh λa=>Pv (AA .add x4 (.int .i64 1)) λb=>Kn0 (a,b,())) (Yi ω p1 p2 x3 K)
def ASP (ω:Om)(a0:Value)(K:Value→M):M:=New (.cells (Value.cells a0) 48 (0,0))<|gh λs_1=>Ac ((S0,I0,()):Value×Value×Unit) λs Kn0=>Yj ω s_1 S0 s.1 s.2.1 Kn0 K
def AUO:=zkc1 ASP 38 Tryz.func38
def AFv (ω:Om)(p1 p2:Value)(x3 x4:Value)(Kn0:(Value×Value×Unit)→M)(K:Value→M):M:=Lf 10 p1 λa=>Pv (lenV a) λa=>Pv (AA .lss x4 a) λa=>Br a (Lf 10 p1 λa=>Pv (ixV 11 a x4) λa=>Rn (AC 11 a) λa=>CT ω 39 #[a]<|gh λa=>Pv (AA .add x3 a) λa=>Pv (AA .add x4 (.int .i64 1)) λb=>Kn0 (a,b,())) (K x3)
def ASO (ω:Om)(a0:Value)(K:Value→M):M:=New (.cells (Value.cells a0) 37 (0,0))<|gh λx_1=>Ac (((.int .i64 1),I0,()):Value×Value×Unit) λs Kn0=>AFv ω x_1 I0 s.1 s.2.1 Kn0 K
def AUN:=zkc1 ASO 39 Tryz.func39
def AFt (ω:Om)(p2 p3:Value)(K:Value→M):M:=Pv (AA .add p3 (.int .i64 1)) λa=>K a
def AFu (ω:Om)(p1 p2:Value)(x3 x4:Value)(Kn0:(Value×Value×Unit)→M)(K:Value→M):M:=Lf 10 p1 λa=>Pv (lenV a) λa=>Pv (AA .lss x4 a) λa=>Br a (Lf 10 p1 λa=>Pv (ixV 11 a x4) λa=>Rn (AC 11 a) λa=>CT ω 40 #[a]<|gh λa=>Pv (ZQ x3 a) λa=>Pv (AA .add x4 (.int .i64 1)) λb=>Kn0 (a,b,())) (AFt ω p2 x3 K)
def ASN (ω:Om)(a0:Value)(K:Value→M):M:=New (.cells (Value.cells a0) 37 (0,0))<|gh λx_1=>Ac ((I0,I0,()):Value×Value×Unit) λs Kn0=>AFu ω x_1 I0 s.1 s.2.1 Kn0 K
def AUM:=zkc1 ASN 40 Tryz.func40
def AFr (ω:Om)(p0 p2:Value)(p3 p5:Value)(K:Value→M):M:=Pv (BR p0) λa=>Pv (Ai Zn Zk [(0,(.int .i64 6)),(1,a)]) λa=>AU 93 4 Zn 1 [(0,a)]<|gh λa=>App 93 4 40 Zn p5 a<|gh λa=>Pv (Ai Zh #[(0,1),(1,1)] []) λb=>Sto 2 p3 b<|gh λ_=>Rn (AC 2 p3) λb=>K (Value.tuple #[a,b])
def AFs (ω:Om)(p0 p3:Value)(p4 x2 x5:Value)(Kn0:(Value×Value×Unit)→M)(K:Value→M):M:=Pv (Ae p4) λa=>Lf 1 a λa=>Pv (BR p0) λb=>Pv (AA .lss a b) λa=>Br a (CT ω 92 #[p4]<|gh λa=>Pv (exV a 0) λb=>Pv (exV a 1) λa=>New (.cells Zn 93 (0,0))<|gh λc=>Sto 4 c b<|gh λ_=>Pv (AA .neq a I0) λb=>Br b (Bg λS=>Lg S 1 c λb=>Pv (Ai Zh #[(0,1),(1,1)] [(0,a),(1,b)]) λa=>Sto 2 p3 a<|gh λ_=>Rn (AC 2 p3) λa=>K (Value.tuple #[S0,a])) (Rn (AC 4 c) λa=>AU 93 4 Zn 1 [(0,a)]<|gh λa=>App 93 4 40 Zn x5 a<|gh λa=>CT ω 91 #[p4]<|gh λ_=>Kn0 (x2,a,()))) (AFr ω p0 x2 p3 x5 K)
def ASM (ω:Om)(a0:Value)(K:Value→M):M:=New (.cells Zh 26 (0,0))<|gh λa=>CT ω 19 #[]<|gh λb=>Pv (Ai #[Q0,I0,S0] #[(0,1),(1,1),(2,1)] [(0,a0),(2,b)]) λb=>New (.cells (Value.cells b) 145 (0,0))<|gh λb=>CT ω 91 #[b]<|gh λ_=>Ac ((S0,S0,()):Value×Value×Unit) λs c=>AFs ω a0 a b s.1 s.2.1 c K
def AUL:=zkc1 ASM 41 Tryz.func41
def sh42_1 (ω:Om)(p0 p1 p3:Value)(K:Value→M):M:=ACs [p0] λS=>Lg S 0 p3 λa=>Pv (Ai Zh #[(0,1),(1,1)] [(0,(.int .i64 174)),(1,a)]) λa=>Sto 1 p0 S0<|gh<|Cf S λ_=>Sto 2 p1 a<|gh λ_=>K (Value.tuple #[])
def sh42 (ω:Om)(rv a0 a1:Value)(K:Value→M):M:=Pv (some rv) λ_=>Pv (Oc true .neq rv Value.nilIface) λa=>Br a (Pv (YL 87 (Value.agg #[I0]) rv) λa=>Pv (exV a 0) λb=>Pv (exV a 1) λa=>New (.cells #[I0] 87 (0,0))<|gh λc=>Sto 1 c b<|gh λ_=>Pv (unV .not a) λa=>Br a (F /- panic -/) (sh42_1 ω a0 a1 c K)) (K (Value.tuple #[]))
theorem AAk (ω:Om)(rv:Value)(a0 a1:Value)(K:Value→M):vcR Tryz.prog ω rv Tryz.f42 [a0,a1] K=sh42 ω rv a0 a1 K:=by kernel_rfl
theorem AOl {ω:Om}{a0 a1:Value}{K:Value→M}{I:Imm}{L:LH}(h:sh42 ω .nilIface a0 a1 (λv=>Gh (K v)) I L):CalD Tryz.prog ω 42 #[a0,a1] K I L:=
 CalD.gh (Xw mixed Tryz.func42 (by rw [AAk];exact h))
theorem AOk {ω:Om}{rv:Value}{a0 a1:Value}{K:Value→M}{I:Imm}{L:LH}(h:sh42 ω rv a0 a1 (λv=>Gh (K v)) I L):CalDR Tryz.prog ω 42 #[a0,a1] rv K I L:=
 CalDR.gh (Vz mixed Tryz.func42 (by rw [AAk];exact h))
def ASL (ω:Om)(a0 a1:Value)(K:Value→M):M:=CT ω 45 #[a0,a1]<|gh λa=>Br a (CT ω 93 #[a0]<|gh λ_=>K a) (K a)
def AUK:=zkc2 ASL 43 Tryz.func43
def sh44_1 (ω:Om)(p0 p2 p3:Value)(K:Value→M)(Pn:Value→M):M:=AU 9 1 Zb 1 [(0,(zS [118,97,108,117,101,115]))]<|gh λa=>AV Tryz.prog ω 95 #[p0,a] Pn<|gh λ_=>AV Tryz.prog ω 98 #[p0,(Value.func (Fn.func 99) #[p0] #[])] Pn<|gh λa=>Pv (AO 32 p3) λb=>Sto 1 b a<|gh λ_=>Rn (AC 51 p3) λa=>Sto 51 p2 a<|gh λ_=>Rn (AC 51 p2) λa=>K a
end Go.Proofs.YtkifgfanjcfedaaGreatDoor
