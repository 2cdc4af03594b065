/- lemmas -/
import Derived.Test.YthkaekjoemhjaaaGreatDoorP1
import Derived.Deep.LoopGhost
import Derived.RangeFuncRecord
import Derived.IntWalk
import GoSem.ClaimJoined
import Derived.Below
import Derived.WideShapes
import Derived.Test.YthkaekjoemhjaaaGreatDoorRows
import Derived.Test.YthkaekjoemhjaaaGreatDoorChecked
set_option maxRecDepth 100000
set_option maxHeartbeats 40000000
set_option linter.unusedVariables false
set_option linter.unusedSimpArgs false
set_option linter.unusedSectionVars false
set_option linter.defProp false
namespace Go.SL
section
variable {P:Program}{ω:Om}{n:Nat}
def AJC (ω:Om)(S:M)(w:World):Prop:=∃I L,St ω w I L∧S I L
def ABO (ω:Om)(n:Nat)(Iv:Act→Prop)(K:Env→M)(a:Act)(w:World):Prop:=Iv a∧∃e I L,Rep n a e∧St ω w I L∧K e I L
def PP (ω:Om)(pn:Pnf)(c:List PanicEntry)(ds:List Deferred)(w:World):Prop:=∃e v I L,ds=dfs e.df∧c=[{v,recovered:=false}]∧St ω w I L∧AJE (MR pn e) v I L
theorem PP.none {c:List PanicEntry}{ds:List Deferred}{w:World}:¬PP ω none c ds w:=λ⟨_,_,_,_,_,_,_,h⟩=>h
theorem Dj {pn:Pnf}{ops:Array Oper}{nd:Nat→Bool}{S:M}{K:Env→M}{Iv:Act→Prop}(hI:∀a o v,o∈ops→Iv a→Iv (a.put o.dst v)):
  ∀(rest:List Oper) (i:Nat) (md:Md) (e:Env) (a:Act) (w:World) (I:Imm) (L:LH),(∀k,rest[k]? =ops[i+k]?)→Iv a→Rep n a e→MdOk n ops md e→St ω w I L→
   Dw P ω pn (some S) nd n ops i md rest e K I L→Ser P (PP ω pn) ops (AJC ω S) (DL P ops) nd (ABO ω n Iv K) (List.range' i rest.length) a w
 |[],i,md,e,a,w,I,L,_,hv,hr,_,hs,h=>⟨hv,e,I,L,hr,hs,h⟩
 |o::rest,i,md,e,a,w,I,L,hops,hv,hr,hmd,hs,h=>by
  have ho:ops[i]? =some o:=by have:=hops 0;simpa using this.symm
  have hom:o∈ops:=zaY ho;have hops':∀k,rest[k]? =ops[(i+1)+k]? :=λk=>by
   have:=hops (k+1);simp only [zac] at this;rw [this];congr 1;omega
  have hkd:DL P ops i=opk P o.op:=by simp [DL,ho]
  simp only [zi,List.range'_succ];refine ⟨o,ho,?_⟩;obtain ⟨e',hr,hpe,hstep⟩:=RG hr hmd h;rcases hstep with ⟨hw,md',hmd',h⟩|⟨hw,md',hmd',h⟩|⟨_,hS,_⟩
  rotate_right
  ·cases hS
  ·unfold Oi at h;cases hop:Ba P ω (MR pn e) (e'.ev n) o.op with
   |pure r=>
    rw [hop] at h;simp only [chk,zaZ,zB,zba] at h;split at h
    ·rename_i hk
     have hk:=zX hk;cases r with
     |none=>exact h.elim
     |some v=>
      refine .inr ⟨by rw [hkd,hk];decide,v,.inl ⟨hw,λw' _=>HY hr hop w'⟩,?_⟩;exact Dj hI rest (i+1) md' _ _ w I L hops' (hI _ o _ hom hv) (hr.put _ _) (hmd' v) hs h
    ·exact h.elim
   |read R=>
    rw [hop] at h;simp only [chk,zaZ,zB,zba] at h;split at h
    ·rename_i hk
     have hk:=zX hk;obtain ⟨v,hR,hK⟩:=h;refine .inr ⟨by rw [hkd,hk];decide,v,.inl ⟨hw,λw' hS=>?_⟩,?_⟩
     ·obtain ⟨I',L',hs',hS'⟩:=hS (by rw [hkd,hk]);exact JR hr hop hs' (hR I' L' hS')
     ·exact Dj hI rest (i+1) md' _ _ w I L hops' (hI _ o _ hom hv) (hr.put _ _) (hmd' v) hs hK
    ·exact h.elim
   |eff E=>
    rw [hop] at h;simp only [chk,zaZ,zB,zba] at h;split at h
    ·rename_i hk
     have hk:=zX hk;refine .inl ⟨by rw [hkd,hk],?_⟩;unfold CO;simp only [ho,hw,if_true];unfold wpR;refine Hu (λv w' I0 L0 hs0 hg=>?_) (λv w' I0 L0 hs0 hp=>⟨e',v,I0,L0,hr.defers,rfl,hs0,by rw [hpe];exact hp⟩) (Pm hr hop hs h);obtain ⟨I',L',hs',hk'⟩:=LM hs0 hg;simp only [kp] at hk';split at hk'
     ·exact ⟨λ_=>⟨I',L',hs',hk'.1⟩,Dj hI rest (i+1) md' _ _ w' I' L' hops' (hI _ o _ hom hv) (hr.put _ _) (hmd' v) hs' hk'.2⟩
     ·rename_i hn
      exact ⟨λh=>absurd h hn,Dj hI rest (i+1) md' _ _ w' I' L' hops' (hI _ o _ hom hv) (hr.put _ _) (hmd' v) hs' hk'⟩
    ·exact h.elim
   |no=>rw [hop] at h;exact h.elim
  ·simp only [skM] at h;by_cases hk:DL P ops i=2
   ·refine .inl ⟨hk,?_⟩;unfold CO;simp only [ho,hw,zl,if_false];rw [hkd] at hk;rw [hk] at h;cases hn:nd i with
    |true=>
     rw [hn] at h;simp only [zbw,Bool.and_self,if_true] at h;exact ⟨λ_=>⟨I,L,hs,h.1⟩,Dj hI rest (i+1) md' _ _ w I L hops' (hI _ o _ hom hv) (hr.put _ _) hmd' hs h.2⟩
    |false=>
     rw [hn] at h;simp only [Bool.false_and,zl,if_false] at h;exact ⟨(λh=>absurd h zx),Dj hI rest (i+1) md' _ _ w I L hops' (hI _ o _ hom hv) (hr.put _ _) hmd' hs h⟩
   ·refine .inr ⟨hk,undef,.inr ⟨hw,rfl⟩,?_⟩;rw [hkd] at hk;have hb:Nat.beq (opk P o.op) 2=false:=by
     cases hb:Nat.beq (opk P o.op) 2 with
     |false=>rfl
     |true=>exact absurd (zX hb) hk
    simp only [hb,Bool.and_false,zl,if_false] at h;exact Dj hI rest (i+1) md' _ _ w I L hops' (hI _ o _ hom hv) (hr.put _ _) hmd' hs h
theorem ET {b:Frame}{a:Act}{k:List Item}{cs:List Frame}{w:World}{c:Code}:step P (lone (b.atR a (.code (.scope c)::k)) cs w)= .next (lone (b.atR a (.code c:: .inScope c::k)) cs w):=
 step_lone_go (by simp [stepG,stepG.exec,Frame.atR])
theorem Qm {b:Frame}{a:Act}{k:List Item}{cs:List Frame}{w:World}{c:Code}:step P (lone (b.atR a (.inScope c::k)) cs w)= .next (lone (b.atR a k) cs w):=
 step_lone_go (by simp [stepG,stepG.exec,Frame.atR])
theorem XI {F:Fence}{n:Nat}{Q:Exit→Act→World→Prop}{a:Act}{w:World}{c:Code}(h:c.wpIn F n P Q a w)(hq0:∀l a w,¬Q (.goto l) a w):(Code.scope c).wpIn F n P Q a w:=by
 intro b k cs hro hb hr;have h0:(lone (b.atR a (.code (.scope c)::k)) cs w).fenced P F:=fenced_calm hb hr rfl;obtain ⟨e,a₁,w₁,hq,harr⟩:=h b (.inScope c::k) cs hro hb hr;cases e with
 |normal=>exact ⟨.normal,a₁,w₁,hq,.head h0 ET (StepsIn.trans harr (.one (fenced_calm hb hr rfl) Qm))⟩
 |exit id'=>
  have hx:exitTo id' (.inScope c::k)=exitTo id' k:=by simp [exitTo]
  exact ⟨.exit id',a₁,w₁,hq,λk' hk=>.head h0 ET (harr.1 k' (by rw [hx];exact hk)),
   λhr' hk=>let ⟨k₁,h1,h2⟩:=harr.2 hr' (by rw [hx];exact hk);⟨k₁,h1,.head h0 ET h2⟩⟩
 |goto l=>exact absurd hq (hq0 _ _ _)
 |ret=>exact ⟨_,a₁,w₁,hq,.of_steps (.one h0 ET) harr⟩
 |panic ch=>exact ⟨_,a₁,w₁,hq,.of_steps (.one h0 ET) harr⟩
 |outgrown=>exact ⟨_,a₁,w₁,hq,.of_steps (.one h0 ET) harr⟩
theorem XD {I:Imm}{L:LH}:∀{Ms:List M} {A:M},APJ Ms I L→A∈Ms→A I L
 |[],_,h,_=>h.elim
 |[B],A,h,hm=>by simp only [zM] at hm;subst hm;exact h
 |B::C::r,A,h,hm=>by
  rcases zK.1 hm with hm|hm
  ·subst hm;exact h.1
  ·exact XD h.2 hm
theorem rdyB_spec {rc:Nat→Nat→Bool}{i:Nat}{l:List Nat}:AEy rc i l=true↔Rdy rc i l:=by
 simp only [AEy,zas,zaJ,zaL];constructor
 ·intro h j hj hne;rcases h j hj with h|h
  ·exact absurd (zX h) hne
  ·exact h
 ·intro h j hj;by_cases e:j=i
  ·left;rw [e];exact zbw i
  ·right;exact h j hj e
theorem ACD {ops:Array Oper}{i:Nat}(h:DL P ops i=2):Ej P ops i=2:=by
 unfold Ej;split
 ·rfl
 ·exact h
theorem ACF {ops:Array Oper}{i:Nat}(h:Ej P ops i≠2)(h1:DL P ops i=1):Ej P ops i=1:=by
 unfold Ej at h ⊢;split at h
 ·exact absurd rfl h
 ·rename_i hc;rw [if_neg hc];exact h1
theorem ACE {ops:Array Oper}{i:Nat}(h:Ej P ops i=2):DL P ops i≠0:=by
 unfold Ej at h;split at h
 ·rename_i hc
  simp only [zQ] at hc;have:=zX hc.1;omega
 ·omega
theorem Ew {pn:Pnf}{ops:Array Oper}{nd:Nat→Bool}{rc:Nat→Nat→Bool}{S:M}{K:Env→M}{Iv:Act→Prop}(hI:∀a o v,o∈ops→Iv a→Iv (a.put o.dst v)):
  ∀(f:Nat) (l:List Nat) (md:Md) (e:Env) (a:Act) (w:World) (I:Imm) (L:LH),Iv a→Rep n a e→MdOk n ops md e→St ω w I L→(∀i∈l,i < ops.size)→
   vcG P ω pn S nd (Ej P ops) rc n ops f l md e K I L→Uj P (PP ω pn) ops (AJC ω S) (Ej P ops) nd rc (ABO ω n Iv K) f l a w
 |0,l,md,e,a,w,I,L,hv,hr,_,hs,_,h=>⟨hv,e,I,L,hr,hs,h⟩
 |f+1,l,md,e,a,w,I,L,hv,hr,hmd,hs,hlt,h=>by
  unfold vcG at h;have hlt':∀i,∀j∈l.erase i,j < ops.size:=λi j hj=>hlt j (List.mem_of_mem_erase hj);cases hf:l.find? (λi=> !Nat.beq (Ej P ops i) 2&&AEy rc i l) with
  |some i=>
   simp only [hf] at h;have hp:=List.find?_some hf;have hm:=List.mem_of_find?_eq_some hf;simp only [zQ,zaL] at hp;have hrd:=rdyB_spec.1 hp.2;have hk2:Ej P ops i≠2:=λe=>by rw [e] at hp;simp at hp
   cases ho:ops[i]? with
   |some o=>
    simp only [ho] at h;have hom:o∈ops:=zaY ho;have hkd:DL P ops i=opk P o.op:=by simp [DL,ho]
    obtain ⟨e,md,hr,hmd,h|h⟩:=Vr hr hmd h
    ·obtain ⟨hw,h⟩:=h;unfold Oi at h;cases hop:Ba P ω (MR pn e) (e.ev n) o.op with
     |pure r=>
      rw [hop] at h;simp only [chk,zaZ,zB,zba] at h;split at h
      ·cases r with
       |none=>exact h.elim
       |some v=>exact .inl ⟨i,o,v,hm,hk2,hrd,ho,.inl ⟨hw,λw' _=>HY hr hop w'⟩,Ew hI f _ _ _ _ w I L (hI _ o _ hom hv) (hr.put _ _) (hmd.forget _ _) hs (hlt' i) h⟩
      ·exact h.elim
     |read R=>
      rw [hop] at h;simp only [chk,zaZ,zB,zba] at h;split at h
      ·rename_i hk
       have hk:=zX hk;obtain ⟨v,hR,hK⟩:=h;refine .inl ⟨i,o,v,hm,hk2,hrd,ho,.inl ⟨hw,λw' hS=>?_⟩,Ew hI f _ _ _ _ w I L (hI _ o _ hom hv) (hr.put _ _) (hmd.forget _ _) hs (hlt' i) hK⟩;obtain ⟨I',L',hs',hS'⟩:=hS (ACF hk2 (by rw [hkd,hk]));exact JR hr hop hs' (hR I' L' hS')
      ·exact h.elim
     |eff E=>
      rw [hop] at h;simp only [chk,zaZ,zB,zba] at h;split at h
      ·rename_i hk
       have hk:=zX hk;exact absurd (ACD (hkd.trans hk)) hk2
      ·exact h.elim
     |no=>rw [hop] at h;exact h.elim
    ·obtain ⟨hw,h⟩:=h;exact .inl ⟨i,o,undef,hm,hk2,hrd,ho,.inr ⟨hw,rfl⟩,Ew hI f _ _ _ _ w I L (hI _ o _ hom hv) (hr.put _ _) (hmd.skd _) hs (hlt' i) h⟩
   |none=>simp only [ho] at h;exact h.elim
  |none=>
   simp only [hf] at h;refine .inr ⟨λi hi hrd=>?_,λk hk hrd=>?_⟩
   ·have:=List.find?_eq_none.1 hf i hi;simp only [zQ,zaL,not_and,Bool.not_eq_true] at this;cases hb:Nat.beq (Ej P ops i) 2 with
    |true=>exact zX hb
    |false=>have:=this hb;rw [rdyB_spec.2 hrd] at this;cases this
   ·have h:=XD h (zaf.2 ⟨k,List.mem_filter.2 ⟨hk,rdyB_spec.2 hrd⟩,rfl⟩);have hk2:Ej P ops k=2:=by
     have:=List.find?_eq_none.1 hf k hk;simp only [zQ,zaL,not_and,Bool.not_eq_true] at this;cases hb:Nat.beq (Ej P ops k) 2 with
     |true=>exact zX hb
     |false=>have:=this hb;rw [rdyB_spec.2 hrd] at this;cases this
    cases ho:ops[k]? with
    |some o=>
     simp only [ho] at h;have hom:o∈ops:=zaY ho;have hkd:DL P ops k=opk P o.op:=by simp [DL,ho]
     have hk0:=ACE hk2;rw [hkd] at hk0;obtain ⟨e,md,hr,hmd,h|h⟩:=Vr hr hmd h
     ·obtain ⟨hw,h⟩:=h;unfold AJF Oi at h;cases hop:Ba P ω (MR pn e) (e.ev n) o.op with
      |pure r=>
       rw [hop] at h;simp only [chk,zaZ,zB,zba] at h;split at h
       ·rename_i hz
        exact absurd (zX hz) hk0
       ·exact h.elim
      |read R=>
       rw [hop] at h;obtain ⟨v,hR,hK⟩:=h;unfold CO;simp only [ho,hw,if_true];unfold wpR;rw [JR hr hop hs hR];refine Hu (K:=λv' I0 L0=>v'=v∧kp (some S) (nd k) (λv=>vcG P ω pn S nd (Ej P ops) rc n ops f (l.erase k) (forget o.dst md) (e.upd o.dst v) K) v I0 L0) (Pn:=λ_ _ _=>False) (λv' w' I0 L0 hs0 hgg=>?_) (λ_ _ _ _ _ hp=>hp.elim) (show XB P ω _ _ (.ok (.value v) w) from ⟨I,L,hs,rfl,hK⟩);obtain ⟨rfl,hk'⟩:=hgg;simp only [kp] at hk';split at hk'
       ·exact ⟨λ_=>⟨I0,L0,hs0,hk'.1⟩,Ew hI f _ _ _ _ w' I0 L0 (hI _ o _ hom hv) (hr.put _ _) (hmd.forget _ _) hs0 (hlt' k) hk'.2⟩
       ·rename_i hn
        exact ⟨λh=>absurd h hn,Ew hI f _ _ _ _ w' I0 L0 (hI _ o _ hom hv) (hr.put _ _) (hmd.forget _ _) hs0 (hlt' k) hk'⟩
      |eff E=>
       rw [hop] at h;simp only [chk,zaZ,zB,zba] at h;split at h
       case isFalse=>exact h.elim
       unfold CO;simp only [ho,hw,if_true];unfold wpR;refine Hu (λv w' I0 L0 hs0 hgg=>?_) (λv w' I0 L0 hs0 hp=>⟨e,v,I0,L0,hr.defers,rfl,hs0,hp⟩) (Pm hr hop hs h);obtain ⟨I',L',hs',hk'⟩:=LM hs0 hgg;simp only [kp] at hk';split at hk'
       ·exact ⟨λ_=>⟨I',L',hs',hk'.1⟩,Ew hI f _ _ _ _ w' I' L' (hI _ o _ hom hv) (hr.put _ _) (hmd.forget _ _) hs' (hlt' k) hk'.2⟩
       ·rename_i hn
        exact ⟨λh=>absurd h hn,Ew hI f _ _ _ _ w' I' L' (hI _ o _ hom hv) (hr.put _ _) (hmd.forget _ _) hs' (hlt' k) hk'⟩
      |no=>rw [hop] at h;exact h.elim
     ·obtain ⟨hw,h⟩:=h;unfold CO;simp only [ho,hw,zl,if_false];simp only [skM] at h;cases hn:nd k with
      |true=>
       rw [hn] at h;simp only [zbw,Bool.and_self,if_true] at h;exact ⟨λ_=>⟨I,L,hs,h.1⟩,Ew hI f _ _ _ _ w I L (hI _ o _ hom hv) (hr.put _ _) (hmd.skd _) hs (hlt' k) h.2⟩
      |false=>
       rw [hn] at h;simp only [Bool.false_and,zl,if_false] at h;exact ⟨(λh=>absurd h zx),Ew hI f _ _ _ _ w I L (hI _ o _ hom hv) (hr.put _ _) (hmd.skd _) hs (hlt' k) h⟩
    |none=>simp only [ho] at h;exact h.elim
theorem AEx {ops:Array Oper}(hdep:∀i o,ops[i]? =some o→∀e∈o.after,Region.binds .any e=true→e.on < i):∀(f i j:Nat),reach ops f i j=true→j < i
 |0,_,_,h=>by simp [reach] at h
 |f+1,i,j,h=>by
  simp only [reach] at h;cases ho:ops[i]? with
  |none=>rw [ho] at h;simp at h
  |some o=>
   rw [ho] at h;simp only at h
   obtain ⟨e,he,hb⟩:=Array.any_eq_true'.1 h;simp only [zQ,zaJ] at hb;have hlt:=hdep i o ho e he hb.1;rcases hb.2 with hb|hb
   ·have:=zX hb;omega
   ·have:=hb.1;simp [zbr] at this;omega
theorem IB {ops:Array Oper}{listed:Array Bool}(hdc:∀k,listed.getD k false=true→∀o,ops[k]? =some o→∀e∈o.after,Region.binds .any e=true→listed.getD e.on false=true):
  ∀(f i j:Nat),(∀o,ops[i]? =some o→∀e∈o.after,Region.binds .any e=true→listed.getD e.on false=true)→reach ops f i j=true→listed.getD j false=true
 |0,_,_,_,h=>by simp [reach] at h
 |f+1,i,j,hi,h=>by
  simp only [reach] at h;cases ho:ops[i]? with
  |none=>rw [ho] at h;simp at h
  |some o=>
   rw [ho] at h;simp only at h
   obtain ⟨e,he,hb⟩:=Array.any_eq_true'.1 h;simp only [zQ,zaJ] at hb;have hl:=hi o ho e he hb.1;rcases hb.2 with hb|hb
   ·have:=zX hb;rw [←this];exact hl
   ·exact IB hdc f e.on j (λo' ho'=>hdc e.on hl o' ho') hb.2
theorem ABg {PQ:List PanicEntry→List Deferred→World→Prop}{ops:Array Oper}(h:UB P ops=true)(hpan:(∀c ds w,¬PQ c ds w)∨AMF P ops=true):SerOk PQ ops (DL P ops) (Xy P ops) (λi j=>reach ops ops.size i j):=by
 unfold UB at h;simp only [zQ,zas,zaQ] at h;obtain ⟨hsel,hall⟩:=h;have hdep:∀i o,ops[i]? =some o→∀e∈o.after,Region.binds .any e=true→e.on < i:=by
  intro i o ho e he hb;have:=hall i (zN.1 ho).1;rw [ho] at this;simp only [zQ,Array.all_eq_true_iff_forall_mem] at this;have h1:=this.1 e he;rw [hb] at h1;simpa [zbr] using h1
 refine ⟨hpan.imp id (λhp i j hji hi hk hk2=>?_),Region.noSelect_spec hsel,hdep,λi j oi oj hji hi hj=>?_,λi j hr=>AEx hdep _ _ _ hr,λi j hi hj hk hne hr=>?_⟩
 ·unfold AMF at hp;simp only [zas,zaQ,zaJ,zaL] at hp;rcases hp i hi j hji with (h1|h1)|h1
  ·exact absurd (zX h1) hk
  ·rw [hk2] at h1;simp at h1
  ·exact h1
 ·have:=hall i (zN.1 hi).1;rw [hi] at this;simp only [zQ,zas,zaQ] at this;have h1:=this.2 j hji;rw [hj] at h1;simp only [zaJ,zQ] at h1;rcases h1 with h1|h1
  ·exact .inl h1
  ·refine .inr ⟨h1.1.1,h1.1.2,?_⟩;rintro ⟨k1,k2⟩;simp only [DL,hi] at k1;simp only [DL,hj] at k2;rw [k1,k2] at h1;simp at h1
 ·unfold Xy;simp only [List.any_eq_true,zaQ,zQ,zaL];refine ⟨j,hj,⟨by rw [hk];rfl,?_⟩,hr⟩;cases hb:Nat.beq i j with
  |false=>rfl
  |true=>exact absurd (zX hb) hne
theorem AMR {ops:Array Oper}(h:AMS ops=true):SerGOk ops (Ej P ops) (AFT P ops) (λi j=>reach ops ops.size i j):=by
 unfold AMS at h;simp only [zQ,zas,zaQ] at h;obtain ⟨hsel,hall⟩:=h;have hdep:∀i o,ops[i]? =some o→∀e∈o.after,Region.binds .any e=true→e.on < i:=by
  intro i o ho e he hb;have:=hall i (zN.1 ho).1;rw [ho] at this;simp only [zQ,Array.all_eq_true_iff_forall_mem] at this;have h1:=this.1 e he;rw [hb] at h1;simpa [zbr] using h1
 refine ⟨Region.noSelect_spec hsel,hdep,λi j oi oj hji hi hj=>?_,λi j hi hj hk hne hr=>?_⟩
 ·have:=hall i (zN.1 hi).1;rw [hi] at this;simp only [zQ,zas,zaQ] at this;have h1:=this.2 j hji;rw [hj] at h1;simp only [zaJ,zQ] at h1;exact h1
 ·unfold AFT;simp only [List.any_eq_true,zaQ,zQ,zaL];refine ⟨j,hj,⟨by rw [hk];rfl,?_⟩,hr⟩;cases hb:Nat.beq i j with
  |false=>rfl
  |true=>exact absurd (zX hb) hne
theorem VS {r:Option Nat}{m:Nat}{pn:Pnf}{ops:Array Oper}{K:Env→M}{Q:Exit→Act→World→Prop}{id:Nat}{e:Env}{a:Act}{w:World}{I:Imm}{L:LH}(hm:P.follows .mixedOrders=true)
  {Iv Jv:Act→Prop} (hd:∀o∈ops,okD r o) (hI:∀a o v,o∈ops→Iv a→Iv (a.put o.dst v)) (hJ:∀a o v ds,o∈ops→Jv a→Jv (({a with defers:=ds}:Act).put o.dst v)) (hv:Iv a) (hj:Jv a) (hQ:∀a w e I L,Iv a→Rep n a e→St ω w I L→K e I L→Q .normal a w) (hP:ABL ω pn Jv Q) (hr:Rep n a e) (hs:St ω w I L) (h:XM P ω pn n ops e K I L):
  (Code.region id ops true).wpIn (Fr r) m P Q a w:=by
 have hQP:∀c a w,Jv a→PP ω pn c a.defers w→Q (.panic c) a w:=λc a w hj ⟨e,v,I,L,h1,h2,h3,h4⟩=>by
  subst h2;exact hP a e w v I L hj h1 h3 h4
 unfold XM at h;split at h
 ·rename_i hser
  obtain ⟨S,hS,h⟩:=h;simp only [zQ,zaJ] at hser;have ok:=ABg (P:=P) (PQ:=PP ω pn) hser.1 (hser.2.imp (λh=>by
   cases pn with
   |none=>exact λ_ _ _=>PP.none
   |some _=>cases h) (λh=>h))
  refine PW hm hd ?_;have hs':St ω {w with drawn:=w.drawn+1} I L:=hs.drew (Nat.le_succ _);have hser':=Dj hI ops.toList 0 [] e a _ I L (λk=>by simp) hv hr (MdOk.none _ _) hs' h;refine AAZ ok (Sw:=AJC ω S) (Fin:=ABO ω n Iv K) (λa w ⟨h0,e,I,L,h1,h2,h3⟩=>hQ a w e I L h0 h1 h2 h3) hJ hQP ?_ ops.size (Array.replicate ops.size false) (List.range ops.size) a _ hj zy zy
   List.pairwise_lt_range (λi=>?_) (λk hk=>?_) (λ_=>⟨I,L,hs',hS⟩) ?_
  ·intro listed i hdc hi j hr;obtain ⟨_,o,ho,hdeps⟩:=mem_ready.1 hi;exact IB hdc _ i j (λo' ho'=>by rw [ho] at ho';simp only [zn] at ho';subst ho';exact hdeps) hr
  ·rw [zaQ];constructor
   ·intro hi;exact ⟨hi,by simp [hi]⟩
   ·exact λh=>h.1
  ·exfalso
   by_cases hk':k < ops.size
   iterate 2
    ·simp [hk'] at hk
  ·rw [List.range_eq_range'];simpa using hser'
 ·split at h
  ·rename_i hgen
   obtain ⟨S,hS,h⟩:=h;have ok:=AMR (P:=P) hgen;refine PW hm hd ?_;have hs':St ω {w with drawn:=w.drawn+1} I L:=hs.drew (Nat.le_succ _);have hser':=Ew hI ops.size (List.range ops.size) [] e a _ I L hv hr (MdOk.none _ _) hs' (λi hi=>zaQ.1 hi) h;refine VK ok (Sw:=AJC ω S) (Fin:=ABO ω n Iv K) (λa w ⟨h0,e,I,L,h1,h2,h3⟩=>hQ a w e I L h0 h1 h2 h3) hJ hQP ?_ ops.size (Array.replicate ops.size false) (List.range ops.size) a _ hj zy zy
    List.pairwise_lt_range (λi=>?_) (λk hk=>?_) (λ_=>⟨I,L,hs',hS⟩) hser'
   ·intro listed i hdc hi j hr;obtain ⟨_,o,ho,hdeps⟩:=mem_ready.1 hi;exact IB hdc _ i j (λo' ho'=>by rw [ho] at ho';simp only [zn] at ho';subst ho';exact hdeps) hr
   ·rw [zaQ];constructor
    ·intro hi;exact ⟨hi,by simp [hi]⟩
    ·exact λh=>h.1
   ·exfalso
    by_cases hk':k < ops.size
    iterate 2
     ·simp [hk'] at hk
  ·exact h.elim
def PnX:Pnx→Env→Value→M
 |none,_,_=>F
 |some p,e,v=>p e v
def PX (ω:Om)(n:Nat)(pn:Pnx)(c:List PanicEntry)(a:Act)(w:World):Prop:=∃e v I L,Rep n a e∧c=[{v,recovered:=false}]∧St ω w I L∧PnX pn e v I L
theorem PX.none {c:List PanicEntry}{a:Act}{w:World}:¬PX ω n none c a w:=λ⟨_,_,_,_,_,_,_,h⟩=>h
def ARo (ω:Om)(n:Nat)(pn:Pnx)(K:Env→M)(X:Nat→Env→M)(R:Env→M)(S:Act→Prop):Exit→Act→World→Prop
 | .normal,a,w=>S a∧∃e I L,Rep n a e∧St ω w I L∧K e I L
 | .exit id,a,w=>S a∧∃e I L,Rep n a e∧St ω w I L∧X id e I L
 | .ret,a,w=>S a∧∃e I L,Rep n a e∧St ω w I L∧R e I L
 | .panic c,a,w=>PX ω n pn c a w
 |_,_,_=>False
structure Same (l:List Nat)(pl:Bool)(a a':Act):Prop where
 tm:∀t,Ja t l=false→a'.tmps.getD t undef=a.tmps.getD t undef
 df:pl=true→a'.defers=a.defers
theorem memB_mem {t:Nat}:∀{l:List Nat},Ja t l=true↔t∈l
 |[]=>by simp [Ja]
 |x::xs=>by
  simp only [Ja,zaJ,zK,memB_mem (l:=xs)];constructor
  ·rintro (h|h)
   ·exact .inl (zX h)
   ·exact .inr h
  ·rintro (h|h)
   ·subst h;exact .inl (zbw _)
   ·exact .inr h
theorem Mc {n:Nat}{a:Act}{e:Env}(hr:Rep n a e):∀(ss:List Nat) (s:Tup ss),YH e ss=some s→∀(e0:Env),Rep n a e0→a.defers=dfs e0.df→Rep n a (AET e0 ss s)
 |[],_,_,e0,h0,_=>h0
 |t::ss,s,h,e0,h0,hd0=>by
  simp only [YH] at h;split at h
  ·cases h
  ·rename_i v hv
   split at h
   ·cases h
   ·rename_i r hrr
    injection h with h'
    subst h';have ih:=Mc hr ss r hrr e0 h0 hd0;refine ⟨ih.size,ih.defers,λt' v' ht' hv'=>?_⟩;simp only [AET,Env.upd] at hv';split at hv'
    ·rename_i hb
     have:=zX hb;subst this;simp only [zn] at hv';subst hv';exact hr.at' t' _ ht' hv
    ·exact ih.at' t' v' ht' hv'
theorem Rep.weaken {n:Nat}{a:Act}{e e':Env}(h:Rep n a e)(hle:∀t v,e'.t t=some v→e.t t=some v)(hd:e'.df=e.df):Rep n a e':=
 ⟨h.size,by rw [hd];exact h.defers,λt v ht hv=>h.at' t v ht (hle t v hv)⟩
theorem AMf (e:Env)(l:List Nat):∀t v,(clr e l).t t=some v→e.t t=some v:=by
 intro t v h;unfold clr at h;simp only at h
 split at h
 ·cases h
 ·exact h
theorem Same.refl (l:List Nat)(pl:Bool)(a:Act):Same l pl a a:=⟨λ_ _=>rfl,λ_=>rfl⟩
theorem NS {t:Nat}{l l':List Nat}:Ja t (l++l')=false→Ja t l=false∧Ja t l'=false:=by
 intro h;constructor
 ·cases hb:Ja t l with
  |false=>rfl
  |true=>rw [memB_mem.2 (zY _ (memB_mem.1 hb))] at h;cases h
 ·cases hb:Ja t l' with
  |false=>rfl
  |true=>rw [memB_mem.2 (zaT _ (memB_mem.1 hb))] at h;cases h
theorem Same.trans {l:List Nat}{pl:Bool}{a b c:Act}(h:Same l pl a b)(h':Same l pl b c):Same l pl a c:=⟨λt ht=>(h'.tm t ht).trans (h.tm t ht),λhp=>(h'.df hp).trans (h.df hp)⟩
theorem Same.left {l l':List Nat}{p p':Bool}{a b:Act}(h:Same l p a b):Same (l++l') (p&&p') a b:=⟨λt ht=>h.tm t (NS ht).1,λhp=>h.df (by simp at hp;exact hp.1)⟩
theorem Same.right {l l':List Nat}{p p':Bool}{a b:Act}(h:Same l' p' a b):Same (l++l') (p&&p') a b:=⟨λt ht=>h.tm t (NS ht).2,λhp=>h.df (by simp at hp;exact hp.2)⟩
theorem Same.any {l:List Nat}{p:Bool}{a b:Act}(h:Same l true a b):Same l p a b:=⟨h.tm,λ_=>h.df rfl⟩
theorem AEW {l:List Nat}{pl:Bool}{a b:Act}(h:Same l pl a b){d:Option Tmp}{v:Value}(hd:∀t,d=some t→Ja t l=true):Same l pl a (b.put d v):=by
 refine ⟨λt ht=>?_,λhp=>?_⟩
 ·cases d with
  |none=>exact h.tm t ht
  |some d=>
   have hne:d≠t:=λe=>by subst e;rw [hd d rfl] at ht;cases ht
   rw [←h.tm t ht];simp only [Act.put,zau];rw [zaI hne]
 ·cases d with
  |none=>exact h.df hp
  |some d=>exact h.df hp
theorem QB:∀(l:List Oper) (o:Oper) (t:Nat),o∈l→o.dst=some t→Ja t (FI l)=true
 |[],_,_,h,_=>by cases h
 |x::l,o,t,h,hd=>by
  simp only [FI];rcases zK.1 h with h|h
  ·subst h;rw [hd];simp only [Ja,zbw,Bool.true_or]
  ·have:=QB l o t h hd;split
   ·simp only [Ja,this,Bool.or_true]
   ·exact this
theorem AES {n:Nat}{l:List Nat}{e:Env}{a a':Act}(hr:Rep n a e)(hsz:a'.tmps.size=n)(hs:Same l true a a'):Rep n a' (clr e l):=by
 refine ⟨hsz,(hs.df rfl).trans hr.defers,λt v ht hv=>?_⟩;unfold clr at hv;simp only at hv
 split at hv
 ·cases hv
 ·rename_i hm
  rw [hs.tm t (by simpa using hm)];exact hr.at' t v ht hv
theorem YE {F:Fence}{rm:Nat}{Q:Exit→Act→World→Prop}{a:Act}{w:World}{c:Code}(I:Nat→Act→World→Prop)(n₀:Nat)(h₀:I n₀ a w)
  (round:∀n a w,I n a w→c.wpIn F rm P (Exit.then (λa' w'=>∃n',n' < n∧I n' a' w') Q) a w):(Code.loop c).wpIn F rm P Q a w:=by
 refine wpIn_loop (λa w=>∃n,I n a w) (λa w=>leastOf (λn=>I n a w)) ⟨n₀,h₀⟩ ?_;intro a w hI;refine wpIn_mono (round _ a w (leastOf_spec hI).1) ?_;intro e a' w' hq;cases e with
 |normal=>
  obtain ⟨n',hlt,hI'⟩:=hq;exact show (∃n,I n a' w')∧leastOf (λn=>I n a' w') < leastOf (λn=>I n a w) from ⟨⟨n',hI'⟩,Nat.lt_of_le_of_lt ((leastOf_spec ⟨n',hI'⟩).2 n' hI') hlt⟩
 |exit id=>exact hq
 |goto l=>exact hq
 |ret=>exact hq
 |panic ch=>exact hq
 |outgrown=>exact hq
theorem Gs:∀{l:List Oper},FB l=true→∀o∈l,∀c,o.op≠.defer c
 |[],_,o,h,_=>by cases h
 |x::l,hp,o,h,c=>by
  simp only [FB,zQ] at hp;rcases zK.1 h with rfl|h
  ·intro e;rw [e] at hp;simp at hp
  ·exact Gs hp.2 o h c
theorem AFM {r:Option Nat}{ops:Array Oper}(h:r=none∨FB ops.toList=true):∀o∈ops,okD r o:=λo ho=>h.imp id λh=>Gs h o (Array.mem_toList_iff.2 ho)
theorem ABB {f:FuncId}(he:CU P f=true)(args:Array Value)(w:World):(callFunc f args).run P w= .ok (.enter f args) w:=by
 unfold CU at he;split at he
 ·rename_i fn hf
  simp only [zQ,bne_iff_ne,ne_eq] at he;have hn : (fn.name == "runtime.NumGoroutine") = false := by simpa using he.1
  have hb:fn.body.isNone=false:=by
   cases hb:fn.body with
   |none=>simp [hb] at he
   |some _=>rfl
  simp only [callFunc,Sem.run_bind,run_program,Result.andThen_ok,hf,hn,hb,zl,if_false,Sem.run_pure]
 ·cases he
theorem Uo (hm:P.follows .mixedOrders=true):∀(c:Code) (r:Option Nat) (m:Nat) (pn:Pnx) (K:Env→M) (X:Nat→Env→M) (R:Env→M) (e:Env) (a:Act) (w:World) (I:Imm) (L:LH),
  (r=none∨DY c=true)→Rep n a e→St ω w I L→vc P ω pn n c K X R e I L→c.wpIn (Fr r) m P (ARo ω n pn K X R (Same (asg c) (DY c) a)) a w:=by
 intro c;induction c with
 |skip=>exact λr m pn K X R e a w I L hpl hr hs h=>wpIn_skip ⟨Same.refl _ _ _,e,I,L,hr,hs,h⟩
 |label l=>exact λr m pn K X R e a w I L hpl hr hs h=>wpIn_label ⟨Same.refl _ _ _,e,I,L,hr,hs,h⟩
 |region id ops draw=>
  intro r m pn K X R e a w I L hpl hr hs h;have hI:∀pl a' o v,o∈ops→Same (FI ops.toList) pl a a'→Same (FI ops.toList) pl a (a'.put o.dst v):=
   λpl a' o v ho hsm=>AEW hsm λt ht=>QB ops.toList o t (Array.mem_toList_iff.2 ho) ht
  have hsz:∀(a':Act) (o:Oper) (v:Value) (ds:List Deferred),(({a' with defers:=ds}:Act).put o.dst v).tmps.size=a'.tmps.size:=λa' o v ds=>by cases hd:o.dst <;> simp [Act.put]
  have hsz':∀(a':Act) (o:Oper) (v:Value),(a'.put o.dst v).tmps.size=a'.tmps.size:=λa' o v=>hsz a' o v a'.defers;have hP:ABL ω (pnR pn e ops) (λa'=>Same (FI ops.toList) false a a'∧a'.tmps.size=a.tmps.size) (ARo ω n pn K X R (Same (asg (.region id ops draw)) (DY (.region id ops draw)) a)):=λa' e1 w v I L hj hd hs hp=>by
   cases pn with
   |none=>exact hp.elim
   |some p=>
    refine ⟨⟨(clr e (FI ops.toList)).t,e1.df⟩,v,I,L,⟨hj.2.trans hr.size,hd,λt u ht hu=>?_⟩,rfl,hs,hp⟩;unfold clr at hu;simp only at hu
    split at hu
    ·cases hu
    ·rename_i hmm
     rw [hj.1.tm t (by simpa using hmm)];exact hr.at' t u ht hu
  cases draw with
  |false=>
   refine Xm (Iv:=λa'=>Same (FI ops.toList) (FB ops.toList) a a'∧a'.tmps.size=a.tmps.size) (AFM hpl) (λa' o v ho h=>⟨hI _ a' o v ho h.1,(hsz' a' o v).trans h.2⟩) (λa' o ds ho hdo h=>?_) ⟨Same.refl _ _ _,rfl⟩ (λa w e I L hv hr hs hk=>⟨hv.1,e,I,L,hr,hs,hk⟩)
    (λa' h=>⟨⟨h.1.tm,λh=>by cases h⟩,h.2⟩) hP hr hs h
   have hpf:FB ops.toList=false:=by
    cases hb:FB ops.toList with
    |false=>rfl
    |true=>obtain ⟨c,hc⟩:=hdo;exact absurd hc (Gs hb o (Array.mem_toList_iff.2 ho) c)
   refine ⟨⟨λt ht=>?_,λh=>by rw [hpf] at h;cases h⟩,(hsz a' o undef ds).trans h.2⟩;have:=(hI _ a' o undef ho h.1).tm t ht;cases hd:o.dst <;> simp only [hd,Act.put] at this ⊢ <;> exact this
  |true=>
   refine VS (Iv:=Same (FI ops.toList) true a) hm (AFM hpl) (hI true) (λa' o v ds ho h=>⟨⟨λt ht=>?_,λh=>by cases h⟩,(hsz a' o v ds).trans h.2⟩) (Same.refl _ _ _) ⟨⟨λ_ _=>rfl,λh=>by cases h⟩,rfl⟩ (λa w e I L hv hr hs hk=>⟨hv.any,e,I,L,hr,hs,hk⟩) hP hr hs h;have:=(hI _ a' o v ho h.1).tm t ht;cases hd:o.dst <;> simp only [hd,Act.put] at this ⊢ <;> exact this
 |seq x y ihx ihy=>
  intro r m pn K X R e a w I L hpl hr hs h;have hpl':(r=none∨DY x=true)∧(r=none∨DY y=true):=by
   rcases hpl with h|h
   ·exact ⟨.inl h,.inl h⟩
   ·simp only [DY,zQ] at h;exact ⟨.inr h.1,.inr h.2⟩
  refine wpIn_seq (wpIn_mono (ihx r m pn _ X R e a w I L hpl'.1 hr hs h) ?_);rintro ex a1 w1 hp;cases ex with
  |normal=>
   obtain ⟨hsm,e1,I1,L1,hr1,hs1,h1⟩:=hp;refine wpIn_mono (ihy r m pn K X R e1 a1 w1 I1 L1 hpl'.2 hr1 hs1 h1) ?_;rintro ex2 a2 w2 hp2;cases ex2 with
   |normal=>exact ⟨hsm.left.trans hp2.1.right,hp2.2⟩
   |exit id=>exact ⟨hsm.left.trans hp2.1.right,hp2.2⟩
   |ret=>exact ⟨hsm.left.trans hp2.1.right,hp2.2⟩
   |panic ch=>exact hp2
   |goto l=>exact hp2.elim
   |outgrown=>exact hp2.elim
  |exit id=>exact ⟨hp.1.left,hp.2⟩
  |ret=>exact ⟨hp.1.left,hp.2⟩
  |panic ch=>exact hp
  |goto l=>exact hp.elim
  |outgrown=>exact hp.elim
 |cond c x y ihx ihy=>
  intro r m pn K X R e a w I L hpl hr hs h;have hpl':(r=none∨DY x=true)∧(r=none∨DY y=true):=by
   rcases hpl with h|h
   ·exact ⟨.inl h,.inl h⟩
   ·simp only [DY,zQ] at h;exact ⟨.inr h.1,.inr h.2⟩
  simp only [vc] at h;cases hv:e.ev n c with
  |none=>rw [hv] at h;exact h.elim
  |some v=>
   rw [hv] at h;simp only at h
   cases v with
   |bool b=>
    refine wpIn_cond (t:=b) (hr.ev hv) ?_;cases b with
    |true=>
     refine wpIn_mono (ihx r m pn K X R e a w I L hpl'.1 hr hs h) ?_;rintro ex a2 w2 hp2;cases ex with
     |normal=>exact ⟨hp2.1.left,hp2.2⟩
     |exit id=>exact ⟨hp2.1.left,hp2.2⟩
     |ret=>exact ⟨hp2.1.left,hp2.2⟩
     |panic ch=>exact hp2
     |goto l=>exact hp2.elim
     |outgrown=>exact hp2.elim
    |false=>
     refine wpIn_mono (ihy r m pn K X R e a w I L hpl'.2 hr hs h) ?_;rintro ex a2 w2 hp2;cases ex with
     |normal=>exact ⟨hp2.1.right,hp2.2⟩
     |exit id=>exact ⟨hp2.1.right,hp2.2⟩
     |ret=>exact ⟨hp2.1.right,hp2.2⟩
     |panic ch=>exact hp2
     |goto l=>exact hp2.elim
     |outgrown=>exact hp2.elim
   |_=>exact h.elim
 |block id c ih=>
  intro r m pn K X R e a w I L hpl hr hs h;refine wpIn_block (wpIn_mono (ih r m pn K _ R e a w I L hpl hr hs h) ?_);rintro ex a1 w1 hp;cases ex with
  |normal=>exact hp
  |exit id'=>
   obtain ⟨hsm,e1,I1,L1,hr1,hs1,h1⟩:=hp;simp only [Exit.inBlock];by_cases hid:id'=id
   ·subst hid;simp only [zbw,if_true] at h1;rw [if_pos rfl];exact ⟨hsm,e1,I1,L1,hr1,hs1,h1⟩
   ·have hb:Nat.beq id' id=false:=by
     cases hb:Nat.beq id' id with
     |false=>rfl
     |true=>exact absurd (zX hb) hid
    simp only [hb,zl,if_false] at h1;rw [if_neg hid];exact ⟨hsm,e1,I1,L1,hr1,hs1,h1⟩
  |ret=>exact hp
  |panic ch=>exact hp
  |goto l=>exact hp.elim
  |outgrown=>exact hp.elim
 |loop c ih=>
  intro r m pn K X R e a w I L hpl hr hs h;simp only [vc] at h;split at h
  rotate_left
  ·exact h.elim
  rename_i hpc
  simp only [Lp] at h;cases hg:YH e (JY n (asg c) e) with
  |none=>rw [hg] at h;exact h.elim
  |some s0=>
   rw [hg] at h;simp only [onT] at h;obtain ⟨Inv,m0,h0,hround⟩:=h;refine YE (λk a' w'=>Same (asg c) true a a'∧∃s I' L',Rep n a' (AET (clr e (asg c)) (JY n (asg c) e) s)∧St ω w' I' L'∧Inv k s I' L') m0
    ⟨Same.refl _ _ _,s0,I,L,Mc hr _ s0 hg _ (hr.weaken (AMf e _) rfl) hr.defers,hs,h0⟩ ?_
   rintro k a1 w1 ⟨hsm,s,I1,L1,hr1,hs1,hinv⟩;refine wpIn_mono (ih r m pn _ X R _ a1 w1 I1 L1 (.inr hpc) hr1 hs1 (hround k s I1 L1 hinv)) ?_;rintro ex a2 w2 hp;cases ex with
   |normal=>
    obtain ⟨hsm2,e2,I2,L2,hr2,hs2,h2⟩:=hp;have hsm2:Same (asg c) true a1 a2:=⟨hsm2.tm,λ_=>hsm2.df hpc⟩;cases hg2:YH e2 (JY n (asg c) e) with
    |none=>rw [hg2] at h2;exact h2.elim
    |some s2=>
     rw [hg2] at h2;obtain ⟨I3,L3,h3,m',hlt,h2⟩:=h2 hs2.cons;exact ⟨m',hlt,hsm.trans hsm2,s2,I3,L3,Mc hr2 _ s2 hg2 _ (AES hr hr2.size (hsm.trans hsm2)) ((hsm.trans hsm2).df rfl |>.trans hr.defers),h3 ω w2 hs2,h2⟩
   |exit id=>exact ⟨(hsm.any).trans hp.1,hp.2⟩
   |ret=>exact ⟨(hsm.any).trans hp.1,hp.2⟩
   |panic ch=>exact hp
   |goto l=>exact hp.elim
   |outgrown=>exact hp.elim
 |exit id=>exact λr m pn K X R e a w I L hpl hr hs h=>wpIn_exit ⟨Same.refl _ _ _,e,I,L,hr,hs,h⟩
 |ret=>exact λr m pn K X R e a w I L hpl hr hs h=>wpIn_ret ⟨Same.refl _ _ _,e,I,L,hr,hs,h⟩
 |scope c ih=>
  intro r m pn K X R e a w I L hpl hr hs h;refine XI (ih r m pn K X R e a w I L hpl hr hs h) ?_;intro l a1 w1 hp;exact hp.elim
 |goto l=>exact λr m pn K X R e a w I L hpl hr hs h=>h.elim
 |refuse s=>exact λr m pn K X R e a w I L hpl hr hs h=>h.elim
 |rangeFunc f ps x y ihx ihy=>exact λr m pn K X R e a w I L hpl hr hs h=>h.elim
def AEv (tmps:Array Value):ResultVar→Sem Value
 | .tmp t=>pure (tmps.getD t undef)
 | .cell a t=>do loadVar t (←asAddr (tmps.getD a undef))
theorem JP {a:Act}{e:Env}(hr:Rep n a e){w:World}{I:Imm}{L:LH}(hs:St ω w I L):∀(rs:List ResultVar) (K:List Value→M),FX P n e rs K I L→
  ∃vs,(rs.mapM (AEv a.tmps)).run P w= .ok vs w∧K vs I L
 |[],K,h=>⟨[],by simp,h⟩
 | .tmp t::rs,K,h=>by
  simp only [FX] at h;cases hv:e.ev n (.tmp t) with
  |none=>rw [hv] at h;exact h.elim
  |some v=>
   rw [hv] at h;obtain ⟨vs,h1,h2⟩:=JP hr hs rs _ h;have hev:=hr.ev hv;simp only [Act.eval] at hev;exact ⟨v::vs,by simp only [zbt,Sem.run_bind,Sem.run_pure,Result.andThen_ok,AEv,h1,hev],h2⟩
 | .cell t T::rs,K,h=>by
  simp only [FX] at h;cases hv:e.ev n (.tmp t) with
  |none=>rw [hv] at h;exact h.elim
  |some x=>
   rw [hv] at h;cases ht:Be P T with
   |none=>rw [ht] at h;exact h.elim
   |some m=>
    obtain ⟨m,by',z⟩:=m;rw [ht] at h;cases hu:P.underlying T with
    |none=>rw [hu] at h;exact h.elim
    |some d=>
     rw [hu] at h;simp only at h
     have hev:=hr.ev hv;simp only [Act.eval] at hev;split at h
     ·rename_i hag
      obtain ⟨v,hR,h⟩:=h;obtain ⟨vs,h1,h2⟩:=JP hr hs rs _ h;have hl:=NV ht hag hs hR;obtain ⟨b,off,us,rfl,_⟩:=hR;simp only [Instr.loadAt,Instr.sureAddr,Sem.run_bind,Sem.run_pure,Result.andThen_ok] at hl;exact ⟨v::vs,by simp only [zbt,Sem.run_bind,Sem.run_pure,Result.andThen_ok,AEv,h1,hev,asAddr,hl],h2⟩
     ·rename_i hag
      obtain ⟨v,hR,h⟩:=h;obtain ⟨vs,h1,h2⟩:=JP hr hs rs _ h;have hl:=NU hu (by simpa using hag) hs hR;obtain ⟨b,off,rfl,_⟩:=hR;simp only [Instr.loadAt,Instr.sureAddr,Sem.run_bind,Sem.run_pure,Result.andThen_ok] at hl;exact ⟨v::vs,by simp only [zbt,Sem.run_bind,Sem.run_pure,Result.andThen_ok,AEv,h1,hev,asAddr,hl],h2⟩
theorem CalD.leaves {f:FuncId}{args:List Value}{fn:Func}{tmps:Array Value}{R:Ending→World→Prop}{cap:List Value}{ds:List Deferred}{K:Value→M}{w:World}{I:Imm}{L:LH}
  (he:CU P f=true) (h:CalD P ω f (args++cap).toArray (gh K) I L) (hs:St ω w I L)
  (hk:∀v w' I' L',St ω w' I' L'→K v I' L'→LeavesInM Fence.wide 0 P fn tmps R ds .returning w'):
  LeavesInM Fence.wide 0 P fn tmps R ({target:=.fn (.func f) cap.toArray,args:=args.toArray}::ds) .returning w:=by
 refine ⟨by simp,.inr ⟨λh=>by simp [Fence.wide] at h,.func f,cap.toArray,f,(args++cap).toArray,rfl,?_,λ_ _=>trivial,?_⟩⟩
 ·have:=ABB he (args++cap).toArray w;simpa [invoke] using this
 ·refine CallsDIn.mono (h w hs) ?_;rintro e u' w' ⟨rfl,v,I',L',rfl,hs',hg⟩;obtain ⟨I2,L2,hs2,hk2⟩:=LM hs' hg;exact hk v w' I2 L2 hs2 hk2
theorem CalDR.leaves {f:FuncId}{args:List Value}{fn:Func}{tmps:Array Value}{R:Ending→World→Prop}{cap:List Value}{ds:List Deferred}{K:Value→M}{w:World}{I:Imm}{L:LH}{x:Value}
  (he:CU P f=true) (h:CalDR P ω f (args++cap).toArray x (gh K) I L) (hs:St ω w I L)
  (hk:∀v w' I' L',St ω w' I' L'→K v I' L'→LeavesInM Fence.wide 0 P fn tmps R ds .returning w'):
  LeavesInM Fence.wide 0 P fn tmps R ({target:=.fn (.func f) cap.toArray,args:=args.toArray}::ds) (.panicking [{v:=x,recovered:=false}]) w:=by
 refine ⟨by simp,.inr ⟨λh=>by simp [Fence.wide] at h,.func f,cap.toArray,f,(args++cap).toArray,rfl,?_,λ_ _=>trivial,?_⟩⟩
 ·have:=ABB he (args++cap).toArray w;simpa [invoke] using this
 ·refine CallsDIn.mono (h w hs) ?_;rintro e u' w' ⟨rfl,v,I',L',rfl,hs',hg⟩;obtain ⟨I2,L2,hs2,hk2⟩:=LM hs' hg;exact hk v w' I2 L2 hs2 hk2
theorem IR {fn:Func}{tmps:Array Value}{R:Ending→World→Prop}{A:M}(hA:∀w I L,St ω w I L→A I L→LeavesInM Fence.wide 0 P fn tmps R [] .returning w):
  ∀(df:List Df) (w:World) (I:Imm) (L:LH),St ω w I L→fin P ω df A I L→LeavesInM Fence.wide 0 P fn tmps R (dfs df) .returning w
 |[],w,I,L,hs,h=>hA w I L hs h
 | .col D::r,w,I,L,hs,h=>by
  obtain ⟨L1,L2,rfl,h⟩:=h;have hb:=hs.own D (.deferred (some [])) zy;refine ⟨by simp,.inl ⟨D,_,rfl,run_takeDeferred hb,?_⟩⟩;exact IR hA r _ I (L1++L2) ((KC hs).drop (List.Sublist.append_left (List.sublist_cons_self ..) _)) h
 | .fn f cap args::r,w,I,L,hs,h=>by
  simp only [fin] at h;split at h
  ·rename_i he
   exact CalD.leaves he h hs λv w' I' L' hs' hk=>IR hA r w' I' L' hs' hk
  ·exact h.elim
theorem Na {fn:Func}{tmps:Array Value}{R:Ending→World→Prop}{A B:M}{x:Value}(hA:∀w I L,St ω w I L→A I L→LeavesInM Fence.wide 0 P fn tmps R [] .returning w)
  (hB:∀w I L,St ω w I L→B I L→LeavesInM Fence.wide 0 P fn tmps R [] (.panicking [{v:=x,recovered:=false}]) w):
  ∀(df:List Df) (w:World) (I:Imm) (L:LH),St ω w I L→AIb P ω x df A B I L→LeavesInM Fence.wide 0 P fn tmps R (dfs df) (.panicking [{v:=x,recovered:=false}]) w
 |[],w,I,L,hs,h=>hB w I L hs h
 | .col D::r,w,I,L,hs,h=>by
  obtain ⟨L1,L2,rfl,h⟩:=h;have hb:=hs.own D (.deferred (some [])) zy;refine ⟨by simp,.inl ⟨D,_,rfl,run_takeDeferred hb,?_⟩⟩;exact Na hA hB r _ I (L1++L2) ((KC hs).drop (List.Sublist.append_left (List.sublist_cons_self ..) _)) h
 | .fn f cap args::r,w,I,L,hs,h=>by
  simp only [AIb] at h;split at h
  ·rename_i he
   exact CalDR.leaves he h hs λv w' I' L' hs' hk=>IR hA r w' I' L' hs' hk
  ·exact h.elim
theorem NP {fn:Func}{a:Act}{e:Env}(hr:Rep n a e){w:World}{I:Imm}{L:LH}(hs:St ω w I L){K:Value→M}(h:FX P n e fn.results.toList (λvs=>K (resV vs)) I L):
  ∃v,(results fn a.tmps).run P w= .ok v w∧K v I L:=by
 obtain ⟨vs,hrun,hk⟩:=JP hr hs _ _ h;refine ⟨resV vs,?_,hk⟩;have hres':results fn a.tmps=(do
   let vs ←fn.results.mapM (AEv a.tmps)
   pure (if h:vs.size=1 then vs[0] else .tuple vs)):=by
  unfold results;congr 1
 rw [hres',Array.mapM_eq_mapM_toList];simp only [Sem.run_bind,Sem.run_map,hrun,Result.andThen_ok,Sem.run_pure];congr 1
 unfold resV;match vs with
 |[]=>simp
 |[v]=>simp
 |v::u::r=>simp
theorem JK (hm:P.follows .mixedOrders=true){f:FuncId}{fn:Func}(hf:P.funcs[f]? =some fn){pn:Option (Value→M)}{args:List Value}{K Pn:Value→M}{I:Imm}{L:LH}(hpn:∀p,pn=some p→p=Pn)(h:ACy P ω pn fn args K I L)
  {w:World} (hs:St ω w I L):Calls P f args.toArray w (Ye ω K Pn):=by
 unfold ACy at h;cases hb:fn.body with
 |none=>rw [hb] at h;exact h.elim
 |some c=>
  rw [hb] at h;simp only at h
  split at h
  ·rename_i hle
   have hle:args.length≤fn.ntmps:=by simpa using hle
   refine (callsIn_wide (n:=0)).1 (callsIn_of_wp_marks hf hb trivial (wpIn_mono (Uo hm c none 0 _ _ _ _ _ _ w I L (.inl rfl) (Rep.init args.toArray _ _ fn.ntmps zu (λt v hv=>by simpa using hv) rfl) hs h) ?_));have hA:∀(a':Act) (e:Env),Rep fn.ntmps a' e→∀(w2:World) (I2:Imm) (L2:LH),St ω w2 I2 L2→FX P fn.ntmps e fn.results.toList (λvs=>K (resV vs)) I2 L2→
     LeavesInM Fence.wide 0 P fn a'.tmps (Ye ω K Pn) [] .returning w2:=by
    intro a' e hr w2 I2 L2 hs2 hres;obtain ⟨v,hrun,hk⟩:=NP hr hs2 hres;exact ⟨v,hrun,v,I2,L2,hs2,.inl ⟨rfl,hk⟩⟩
   have fin':∀(a':Act) (w':World) (e:Env) (I':Imm) (L':LH),Rep fn.ntmps a' e→St ω w' I' L'→SL.fin P ω e.df (FX P fn.ntmps e fn.results.toList (λvs=>K (resV vs))) I' L'→
     LeavesInM Fence.wide 0 P fn a'.tmps (Ye ω K Pn) a'.defers .returning w':=by
    intro a' w' e I' L' hr hs' hres;rw [hr.defers];exact IR (hA a' e hr) e.df w' I' L' hs' hres
   rintro ex a' w' hp;cases ex with
   |normal=>obtain ⟨_,e,I',L',h1,h2,h3⟩:=hp;exact fin' a' w' e I' L' h1 h2 h3
   |ret=>obtain ⟨_,e,I',L',h1,h2,h3⟩:=hp;exact fin' a' w' e I' L' h1 h2 h3
   |exit id=>obtain ⟨_,e,I',L',h1,h2,h3⟩:=hp;exact h3.elim
   |goto l=>exact hp.elim
   |panic ch=>
    obtain ⟨e,v,I',L',hr,rfl,hs',hpp⟩:=hp;show LeavesInM Fence.wide 0 P fn a'.tmps (Ye ω K Pn) a'.defers (.panicking _) w';rw [hr.defers];cases pn with
    |none=>exact hpp.elim
    |some p=>
     have:=hpn p rfl;subst this;exact Na (hA a' e hr) (λw2 I2 L2 hs2 hk=>(show Ye ω K p (.panicked [{v,recovered:=false}]) w2 from ⟨v,I2,L2,hs2,.inr ⟨rfl,hk⟩⟩)) e.df w' I' L' hs' hpp
   |outgrown=>exact hp.elim
  ·exact h.elim
theorem Sl (hm:P.follows .mixedOrders=true){f:FuncId}{fn:Func}(hf:P.funcs[f]? =some fn){args:List Value}{K:Value→M}{I:Imm}{L:LH}(h:vcF P ω fn args K I L):
  Cal P ω f args.toArray K I L:=λw hs=>Calls.mono (JK (Pn:=λ_=>F) hm hf zy h hs) λe w' ⟨v,I',L',hs',hk⟩=>by
 rcases hk with ⟨he,hk⟩|⟨_,hk⟩
 ·exact ⟨v,I',L',he,hs',hk⟩
 ·exact hk.elim
theorem YY (hm:P.follows .mixedOrders=true){f:FuncId}{fn:Func}(hf:P.funcs[f]? =some fn){args:List Value}{K Pn:Value→M}{I:Imm}{L:LH}(h:vcP P ω fn args K Pn I L):
  CalP P ω f args.toArray K Pn I L:=λw hs=>JK hm hf (λp hp=>by simp only [zn] at hp;exact hp.symm) h hs
theorem YX (hm:P.follows .mixedOrders=true){f:FuncId}{fn:Func}(hf:P.funcs[f]? =some fn){args:List Value}{K:Value→M}{I:Imm}{L:LH}(h:vcQ P ω fn args K I L):
  Cal P ω f args.toArray K I L:=λw hs=>Calls.mono (JK (Pn:=λ_=>F) hm hf (λp hp=>by simpa using hp.symm) h hs) λe w' ⟨v,I',L',hs',hk⟩=>by
 rcases hk with ⟨he,hk⟩|⟨_,hk⟩
 ·exact ⟨v,I',L',he,hs',hk⟩
 ·exact hk.elim
def PostR (ω:Om)(n:Nat)(K R:Env→M)(cs':List Frame):Exit→Act→List Frame→World→Prop
 | .normal,a,cs,w=>cs=cs'∧a.defers=[]∧∃e I L,Rep n a e∧St ω w I L∧K e I L
 | .ret,a,cs,w=>cs=cs'∧a.defers=[]∧∃e I L,Rep n a e∧St ω w I L∧R e I L
 |_,_,_,_=>False
theorem Ob {c:Code}{F:Fence}{m:Nat}{Q Q':Exit→Act→List Frame→World→Prop}{a:Act}{cs:List Frame}{w:World}(h:c.wpSIn F m P Q a cs w)(hq:∀e a cs w,Q e a cs w→Q' e a cs w):c.wpSIn F m P Q' a cs w:=
 λb k hb hr hF hroom=>let ⟨e,a',cs',w',l,q,r⟩:=h b k hb hr hF hroom;⟨e,a',cs',w',l,hq _ _ _ _ q,r⟩
theorem VN {o:Oper}(h:AMC o.op=true)(ρ:Operand→Value)(w:World):(execOp ρ o).run P w= .ok .recover w:=by
 obtain ⟨dst,op,type,pos,after,guard⟩:=o;unfold AMC at h;split at h
 ·rename_i hop
  simp only at hop
  subst hop;simp [execOp,resolve,invoke,builtin]
 ·cases h
theorem put_defers (a:Act)(d:Option Tmp)(v:Value):(a.put d v).defers=a.defers:=by cases d <;> rfl
theorem NK {ops:Array Oper}{K R:Env→M}{cs:List Frame}:∀(rest:List Oper) (i:Nat) (e:Env) (a:Act) (w:World) (I:Imm) (L:LH),(∀k,rest[k]? =ops[i+k]?)→a.defers=[]→Rep n a e→St ω w I L→
  vcRl.vcRl2 P ω n rest e K I L→wpOpsSIn Fence.wide 0 P ops (PostR ω n K R cs) (List.range' i rest.length) a cs w
 |[],i,e,a,w,I,L,_,hd,hr,hs,h=>⟨rfl,hd,e,I,L,hr,hs,h⟩
 |o::rest,i,e,a,w,I,L,hops,hd,hr,hs,h=>by
  have ho:ops[i]? =some o:=by have:=hops 0;simpa using this.symm
  have hops':∀k,rest[k]? =ops[(i+1)+k]? :=λk=>by
   have:=hops (k+1);simp only [zac] at this;rw [this];congr 1;omega
  simp only [vcRl.vcRl2] at h;simp only [zi,List.range'_succ,wpOpsSIn,ho];refine ⟨λ_ _=>trivial,?_⟩;cases hg:o.guard with
  |some _=>rw [hg] at h;exact h.elim
  |none=>
   rw [hg] at h;simp only at h
   have hw:Region.wanted o (yielded ops a.tmps)=true:=by simp [Region.wanted,hg]
   rw [hw];simp only [if_true];generalize hop:Ba P ω Option.none (e.ev n) o.op=q at h;cases q with
   |pure r=>
    cases r with
    |none=>exact h.elim
    |some v=>
    rw [HY hr hop w];exact NK rest (i+1) _ _ w I L hops' ((put_defers a o.dst v).trans hd) (hr.put _ _) hs h
   |read _=>exact h.elim
   |eff _=>exact h.elim
   |no=>exact h.elim
theorem Oh {ops:Array Oper}{K R:Env→M}{cs cs':List Frame}{rv:Value}(hrv:recoverD cs=some (rv,cs')∨(recoverD cs=none∧rv= .nilIface∧cs'=cs)):
  ∀(rest:List Oper) (i:Nat) (e:Env) (a:Act) (w:World) (I:Imm) (L:LH),(∀k,rest[k]? =ops[i+k]?)→a.defers=[]→Rep n a e→St ω w I L→
  vcRl P ω rv n rest e K I L→wpOpsSIn Fence.wide 0 P ops (PostR ω n K R cs') (List.range' i rest.length) a cs w
 |[],i,e,a,w,I,L,_,hd,hr,hs,h=>h.elim
 |o::rest,i,e,a,w,I,L,hops,hd,hr,hs,h=>by
  have ho:ops[i]? =some o:=by have:=hops 0;simpa using this.symm
  have hops':∀k,rest[k]? =ops[(i+1)+k]? :=λk=>by
   have:=hops (k+1);simp only [zac] at this;rw [this];congr 1;omega
  simp only [vcRl] at h;simp only [zi,List.range'_succ,wpOpsSIn,ho];refine ⟨λ_ _=>trivial,?_⟩;cases hg:o.guard with
  |some _=>rw [hg] at h;exact h.elim
  |none=>
   rw [hg] at h;simp only at h
   have hw:Region.wanted o (yielded ops a.tmps)=true:=by simp [Region.wanted,hg]
   rw [hw];simp only [if_true];split at h
   ·rename_i hrec
    rw [VN hrec];simp only
    have:=NK (P:=P) (ops:=ops) (K:=K) (R:=R) (cs:=cs') rest (i+1) (e.upd o.dst rv) (a.put o.dst rv) w I L hops' ((put_defers a o.dst rv).trans hd) (hr.put _ _) hs h;rcases hrv with hrv|⟨hrv,rfl,rfl⟩
    iterate 2
     ·rw [hrv];exact this
   ·generalize hop:Ba P ω Option.none (e.ev n) o.op=q at h;cases q with
    |pure r=>
     cases r with
     |none=>exact h.elim
     |some v=>
     rw [HY hr hop w];exact Oh hrv rest (i+1) _ _ w I L hops' ((put_defers a o.dst v).trans hd) (hr.put _ _) hs h
    |read _=>exact h.elim
    |eff _=>exact h.elim
    |no=>exact h.elim
theorem ABR (hm:P.follows .mixedOrders=true){cs cs':List Frame}{rv:Value}(hrv:recoverD cs=some (rv,cs')∨(recoverD cs=none∧rv= .nilIface∧cs'=cs)):
  ∀(c:Code) (K R:Env→M) (e:Env) (a:Act) (w:World) (I:Imm) (L:LH),a.defers=[]→Rep n a e→St ω w I L→vcS P ω rv n c K R e I L→c.wpSIn Fence.wide 0 P (PostR ω n K R cs') a cs w:=by
 intro c;induction c with
 |seq x y ihx _=>
  intro K R e a w I L hd hr hs h;refine wpSIn_seq (Ob (ihx _ R e a w I L hd hr hs h) ?_);rintro ex a1 cs1 w1 hp;cases ex with
  |normal=>
   obtain ⟨rfl,hd1,e1,I1,L1,hr1,hs1,h1⟩:=hp;split at h1
   ·rename_i hpy
    refine wpSIn_of_wpIn rfl (wpIn_mono (Uo hm y none 0 none K (λ_ _=>F) R e1 a1 w1 I1 L1 (.inl rfl) hr1 hs1 h1) ?_);rintro ex2 a2 w2 hp2;cases ex2 with
    |normal=>exact ⟨rfl,(hp2.1.df hpy).trans hd1,hp2.2⟩
    |ret=>exact ⟨rfl,(hp2.1.df hpy).trans hd1,hp2.2⟩
    |exit id=>obtain ⟨_,_,_,_,_,_,hf⟩:=hp2;exact hf.elim
    |panic ch=>exact (PX.none hp2).elim
    |goto l=>exact hp2.elim
    |outgrown=>exact hp2.elim
   ·exact h1.elim
  |ret=>exact hp
  |exit id=>exact hp.elim
  |panic ch=>exact hp.elim
  |goto l=>exact hp.elim
  |outgrown=>exact hp.elim
 |region id ops dr=>
  intro K R e a w I L hd hr hs h;cases dr with
  |true=>exact h.elim
  |false=>
   refine wpSIn_region ?_;have:=Oh (P:=P) (ops:=ops) (K:=K) (R:=R) hrv ops.toList 0 e a w I L (λk=>by simp) hd hr hs h;rw [List.range_eq_range'];simpa using this
 |_=>intro K R e a w I L hd hr hs h;exact h.elim
theorem AQb {f:FuncId}{fn:Func}(hm:P.follows .mixedOrders=true)(hf:P.funcs[f]? =some fn){args:List Value}{K:Value→M}{I:Imm}{L:LH}{rv:Value}(h:vcR P ω rv fn args K I L){u u':FrameMode}
  (hrv:∀(c0:Frame) (cs:List Frame),c0.mode=u→recoverD (c0::cs)=some (rv,{c0 with mode:=u'}::cs)∨(recoverD (c0::cs)=none∧rv= .nilIface∧({c0 with mode:=u'}::cs)=c0::cs)) {w:World} (hs:St ω w I L):
  CallsDIn Fence.wide 0 P f args.toArray u w (λe u1 w'=>u1=u'∧Ret ω K e w'):=by
 unfold vcR at h;cases hb:fn.body with
 |none=>rw [hb] at h;exact h.elim
 |some c=>
  rw [hb] at h;simp only at h
  split at h
  ·rename_i hle
   have hle:args.length≤fn.ntmps:=by simpa using hle
   refine callsDIn_of_wpSIn hf hb trivial λc0 cs hu=>?_;refine Ob (ABR hm (hrv c0 cs hu) c _ _ _ _ w I L rfl (Rep.init args.toArray _ _ fn.ntmps zu (λt v hv=>by simpa using hv) rfl) hs h) ?_;have fin':∀(a':Act) (w':World),(∃e I L,Rep fn.ntmps a' e∧St ω w' I L∧FX P fn.ntmps e fn.results.toList (λvs=>K (resV vs)) I L)→∃v,(results fn a'.tmps).run P w'= .ok v w'∧Ret ω K (.returned v) w':=by
    rintro a' w' ⟨e,I',L',hr,hs',hres⟩;obtain ⟨v,hrun,hk⟩:=NP hr hs' hres;exact ⟨v,hrun,v,I',L',rfl,hs',hk⟩
   rintro ex a' cs1 w' hp;cases ex with
   |normal=>
    obtain ⟨rfl,hd,hx⟩:=hp;obtain ⟨v,h1,h2⟩:=fin' a' w' hx;exact ⟨hd,u',rfl,v,h1,rfl,h2⟩
   |ret=>
    obtain ⟨rfl,hd,hx⟩:=hp;obtain ⟨v,h1,h2⟩:=fin' a' w' hx;exact ⟨hd,u',rfl,v,h1,rfl,h2⟩
   |exit id=>exact hp.elim
   |panic ch=>exact hp.elim
   |goto l=>exact hp.elim
   |outgrown=>exact hp.elim
  ·exact h.elim
theorem WS (hm:P.follows .mixedOrders=true){f:FuncId}{fn:Func}(hf:P.funcs[f]? =some fn){args:List Value}{K:Value→M}{I:Imm}{L:LH}(h:vcR P ω .nilIface fn args K I L):CalD P ω f args.toArray K I L:=
 λw hs=>AQb hm hf h (u':=.returning) (λc0 cs hu=>by
  obtain ⟨cfn,ctm,ctd,cdf,cmo,cki,cro⟩:=c0;simp only at hu
  subst hu;exact .inr ⟨rfl,rfl,rfl⟩) hs
theorem Ue (hm:P.follows .mixedOrders=true){f:FuncId}{fn:Func}(hf:P.funcs[f]? =some fn){args:List Value}{K:Value→M}{I:Imm}{L:LH}{v:Value}(h:vcR P ω v fn args K I L):CalDR P ω f args.toArray v K I L:=
 λw hs=>AQb hm hf h (λc0 cs hu=>by
  obtain ⟨cfn,ctm,ctd,cdf,cmo,cki,cro⟩:=c0;simp only at hu
  subst hu;exact .inl rfl) hs
theorem CalD.gh {f:FuncId}{args:Array Value}{K:Value→M}{I:Imm}{L:LH}(h:CalD P ω f args (λv=>Gh (K v)) I L):CalD P ω f args K I L:=λw hs=>
 CallsDIn.mono (h w hs) λ_ _ _ ⟨hu,v,_,_,he,hs',hg⟩=>by
  obtain ⟨I2,L2,h1,h2⟩:=hg hs'.cons;exact ⟨hu,v,I2,L2,he,h1 ω _ hs',h2⟩
theorem CalDR.gh {f:FuncId}{args:Array Value}{x:Value}{K:Value→M}{I:Imm}{L:LH}(h:CalDR P ω f args x (λv=>Gh (K v)) I L):CalDR P ω f args x K I L:=λw hs=>
 CallsDIn.mono (h w hs) λ_ _ _ ⟨hu,v,_,_,he,hs',hg⟩=>by
  obtain ⟨I2,L2,h1,h2⟩:=hg hs'.cons;exact ⟨hu,v,I2,L2,he,h1 ω _ hs',h2⟩
end
section pure
variable (b off k n:Nat)(a c:Int)(t u:Bool)(K:Value→M)(v:Value)
theorem ABK:Pv (some v) K=K v:=rfl
theorem AFq:Ae k (.pointer (some ⟨b,off,none⟩))=some (.pointer (some ⟨b,off+k,none⟩)):=rfl
theorem AFP (x:Addr):Ad (.pointer (some x))=some (.pointer (some x)):=rfl
theorem AFQ (f:FuncId)(xs ys:Array Value):Ad (.func (.func f) xs ys)=some (.func (.func f) xs ys):=rfl
theorem Dx (x:Option Addr)(l m:Nat):lenV (.slice x l m)=some (.int .i64 l):=rfl
theorem YW (x:Option Addr)(l m:Nat):WQ (.slice x l m)=some (.int .i64 m):=rfl
theorem AFZ (k k':IntKind):AML (.int k a) (.int k' c)=some (.int k (if c < a then c else a)):=rfl
theorem AFa (k k':IntKind):AFb (.int k a) (.int k' c)=some (.int k (if c > a then c else a)):=rfl
theorem AIS (s:ByteArray):BP (.string s)=some (.int .i64 s.size):=rfl
theorem ADK (s:ByteArray):ALn (.string s)=some (.string s):=rfl
theorem Yh:unV .not (.bool t)=some (.bool !t):=rfl
theorem Yi (k:IntKind):unV .neg (.int k a)=some (.int k (k.wrap (0 - a))):=rfl
theorem AHV (k:IntKind):unV .xor (.int k a)=some (.int k (Dv .xor k (if k.signed then -1 else k.max) a)):=rfl
theorem AAj (x y:Value):AAl (.bool true) x y=some x:=rfl
theorem AAk (x y:Value):AAl (.bool false) x y=some y:=rfl
theorem ALN (vs:Array Value)(i:Nat):exV (.tuple vs) i=vs[i]? :=rfl
theorem AGA (k k':IntKind):GG k (.int k' a)=some (.int k (k.wrap a)):=rfl
theorem Wp (k:IntKind):AA .add (.int k a) (.int k c)=some (.int k (k.wrap (a+c))):=by simp [AA]
theorem WY (k:IntKind):AA .sub (.int k a) (.int k c)=some (.int k (k.wrap (a - c))):=by simp [AA]
theorem We (k:IntKind):AA .mul (.int k a) (.int k c)=some (.int k (k.wrap (a * c))):=by simp [AA]
theorem Qg (k:IntKind):AA .eql (.int k a) (.int k c)=some (.bool (a==c)):=by simp [AA]
theorem WZ (k:IntKind):AA .neq (.int k a) (.int k c)=some (.bool (a != c)):=by simp [AA]
theorem Wh (k:IntKind):AA .lss (.int k a) (.int k c)=some (.bool (decide (a < c))):=by simp [AA]
theorem Wi (k:IntKind):AA .leq (.int k a) (.int k c)=some (.bool (decide (a≤c))):=by simp [AA]
theorem Wj (k:IntKind):AA .gtr (.int k a) (.int k c)=some (.bool (decide (c < a))):=by simp [AA]
theorem Wl (k:IntKind):AA .geq (.int k a) (.int k c)=some (.bool (decide (c≤a))):=by simp [AA]
theorem AHN (k:IntKind)(h:c≠0):AA .quo (.int k a) (.int k c)=some (.int k (k.wrap (a.tdiv c))):=by simp [AA,h]
theorem Lr (k k':IntKind)(h:0≤c):AA .shl (.int k a) (.int k' c)=some (.int k (k.wrap (a * 2 ^ (min c.toNat k.bits)))):=by
 simp only [AA];rw [if_neg zo]
theorem Wn (k:IntKind):AA .and (.int k a) (.int k c)=some (.int k (Dv .and k a c)):=by simp [AA]
theorem ABF (k:IntKind):AA .or (.int k a) (.int k c)=some (.int k (Dv .or k a c)):=by simp [AA]
theorem Ws:Jp .eql (.bool t) (.bool u)=some (.bool (t==u)):=rfl
theorem Wq:Jp .neq (.bool t) (.bool u)=some (.bool (!(t==u))):=rfl
theorem Ia (x:Addr):Gl .eql (.pointer (some x)) (.pointer none)=some (.bool false):=rfl
theorem Lj (x:Addr):Gl .neq (.pointer (some x)) (.pointer none)=some (.bool true):=rfl
theorem Lm (x:Addr)(l m l' m':Nat):Hq .eql (.slice (some x) l m) (.slice none l' m')=some (.bool false):=rfl
theorem Ll (x:Addr)(l m l' m':Nat):Hq .neq (.slice (some x) l m) (.slice none l' m')=some (.bool true):=rfl
theorem Nj (l m l' m':Nat):Hq .eql (.slice none l m) (.slice none l' m')=some (.bool true):=rfl
theorem Nh (l m l' m':Nat):Hq .neq (.slice none l m) (.slice none l' m')=some (.bool false):=rfl
theorem AFg (k:IntKind)(len cap i:Nat)(h:i < len):ixV n (.slice (some ⟨b,off,none⟩) len cap) (.int k i)=some (.pointer (some ⟨b,off+i * n,none⟩)):=by
 simp only [ixV];rw [if_pos zo];simp
theorem wrap_i64 (h: -9223372036854775808≤a∧a≤9223372036854775807):IntKind.i64.wrap a=a:=IntWalk.i64_in a h
theorem SY (cs:Array Value):Value.cells (.agg cs)=cs:=rfl
end pure
class InL (b:Nat) (L:LH) (o:outParam Obj):Prop where
 mem:(b,o)∈L
instance inRight (b:Nat)(A L:LH)(o:Obj)[h:InL b L o]:InL b (A++L) o:=⟨zaT _ h.mem⟩
instance inThere (b:Nat)(x:Nat×Obj)(L:LH)(o:Obj)[h:InL b L o]:InL b (x::L) o:=⟨zV _ h.mem⟩
instance inHere (b:Nat)(L:LH)(o:Obj):InL b ((b,o)::L) o:=⟨zJ ..⟩
class GetL (l:List Value) (k:Nat) (v:outParam Value):Prop where
 get:l[k]? =some v
instance getThere (x:Value)(l:List Value)(k:Nat)(v:Value)[h:GetL l k v]:GetL (x::l) (k+1) v:=⟨by simpa using h.get⟩
instance getHere (v:Value)(l:List Value):GetL (v::l) 0 v:=⟨rfl⟩
class SetL (l:List Value) (k:Nat) (v:Value) (l':outParam (List Value)):Prop where
 set:l.set k v=l'∧k < l.length
instance setThere (x:Value)(l:List Value)(k:Nat)(v:Value)(l':List Value)[h:SetL l k v l']:SetL (x::l) (k+1) v (x::l'):=
 ⟨by simp [h.set.1],by simpa using h.set.2⟩
instance setHere (x v:Value)(l:List Value):SetL (x::l) 0 v (v::l):=⟨rfl,by simp⟩
class SplitL (X L:LH) (R:outParam LH):Prop where
 perm:L.Perm (X++R)
instance splitRight (X A L R:LH)[h:SplitL X L R]:SplitL X (A++L) (A++R):=⟨(zbl A h.perm).trans (by
 rw [←zt,←zt];exact List.Perm.append_right R List.perm_append_comm)⟩
instance splitThere (X L R:LH)(y:Nat×Obj)[h:SplitL X L R]:SplitL X (y::L) (y::R):=⟨(List.Perm.cons y h.perm).trans zbd.symm⟩
instance splitHere (X R:LH):SplitL X (X++R) R:=⟨List.Perm.refl _⟩
class SplitB (x:Nat×Obj) (L:LH) (R:outParam LH):Prop where
 perm:L.Perm (x::R)
instance splitBRight (x:Nat×Obj)(A L R:LH)[h:SplitB x L R]:SplitB x (A++L) (A++R):=⟨(zbl A h.perm).trans zbd⟩
instance splitBThere (x y:Nat×Obj)(L R:LH)[h:SplitB x L R]:SplitB x (y::L) (y::R):=⟨(List.Perm.cons y h.perm).trans (List.Perm.swap ..)⟩
instance splitBHere (x:Nat×Obj)(R:LH):SplitB x (x::R) R:=⟨List.Perm.refl _⟩
class SubP (L' L:LH):Prop where
 sub:∃R,L.Perm (L'++R)
instance (priority:=50) subRight (L' A L:LH)[h:SubP L' L]:SubP L' (A++L):=by
 obtain ⟨R,hR⟩:=h.sub;exact ⟨A++R,(zbl A hR).trans (by rw [←zt,←zt];exact List.Perm.append_right R List.perm_append_comm)⟩
instance (priority:=50) subThere (L' L:LH)(y:Nat×Obj)[h:SubP L' L]:SubP L' (y::L):=by
 obtain ⟨R,hR⟩:=h.sub;exact ⟨y::R,(List.Perm.cons y hR).trans zbd.symm⟩
instance (priority:=40) subNil (L:LH):SubP [] L:=⟨L,List.Perm.refl _⟩
instance subCons (x:Nat×Obj)(L' L R:LH)[h:SplitB x L R][h':SubP L' R]:SubP (x::L') L:=by
 obtain ⟨R',hR⟩:=h'.sub;exact ⟨R',h.perm.trans (List.Perm.cons x hR)⟩
instance subApp (A L' L R:LH)[h:SplitL A L R][h':SubP L' R]:SubP (A++L') L:=by
 obtain ⟨R',hR⟩:=h'.sub;exact ⟨R',h.perm.trans (by rw [zt];exact zbl A hR)⟩
instance subSelf (L:LH):SubP L L:=⟨[],by simp⟩
class UpL (b:Nat) (L:LH) (o o':Obj) (L':outParam LH):Prop where
 up:∃L1 L2,L=L1++(b,o)::L2∧L'=L1++(b,o')::L2
instance upRight (b:Nat)(A L:LH)(o o':Obj)(L':LH)[h:UpL b L o o' L']:UpL b (A++L) o o' (A++L'):=by
 obtain ⟨L1,L2,rfl,rfl⟩:=h.up;exact ⟨A++L1,L2,by simp,by simp⟩
instance upThere (b:Nat)(x:Nat×Obj)(L:LH)(o o':Obj)(L':LH)[h:UpL b L o o' L']:UpL b (x::L) o o' (x::L'):=by
 obtain ⟨L1,L2,rfl,rfl⟩:=h.up;exact ⟨x::L1,L2,rfl,rfl⟩
instance upHere (b:Nat)(L:LH)(o o':Obj):UpL b ((b,o)::L) o o' ((b,o')::L):=⟨[],L,rfl,rfl⟩
theorem Cell.own {I:Imm}{L:LH}{b off:Nat}{v:Value}{cs:Array Value}{T:Nat}{fr:Nat×Nat}(hm:(b,Obj.cells cs T fr)∈L)(hv:cs[off]? =some v):Cell I L b off v:=⟨cs,T,fr,.inl hm,hv⟩
theorem Cell.imm {I:Imm}{L:LH}{b off:Nat}{v:Value}{cs:Array Value}{T:Nat}{fr:Nat×Nat}(hm:I b=some (Obj.cells cs T fr))(hv:cs[off]? =some v):Cell I L b off v:=⟨cs,T,fr,.inr hm,hv⟩
theorem Cell.mono {I I':Imm}{L L':LH}{b off:Nat}{v:Value}(h:Cell I L b off v)(hI:Ext I I')(hL:∀x∈L,x∈L'):Cell I' L' b off v:=by
 obtain ⟨cs,T,fr,hm,hv⟩:=h;exact ⟨cs,T,fr,hm.imp (hL _) (hI _ _),hv⟩
section reads
variable {I:Imm}{L:LH}{K:Value→M}{b off n:Nat}{v:Value}
theorem rd1 (h:Cell I L b off v)(hk:K v I L):Rv none (BF (.pointer (some ⟨b,off,none⟩))) K I L:=⟨v,⟨b,off,rfl,h⟩,hk⟩
theorem rdb {l:List Value}{T:Nat}{fr:Nat×Nat}[h:InL b L (.cells l.toArray T fr)][g:GetL l off v](hk:K v I L):Rv none (BF (.pointer (some ⟨b,off,none⟩))) K I L:=
 rd1 (Cell.own h.mem (by simpa using g.get)) hk
theorem rdN {vs:List Value}(hl:vs.length=n)(h:Cells I L b off vs)(hk:K (.agg vs.toArray) I L):Rv none (AB n (.pointer (some ⟨b,off,none⟩))) K I L:=⟨_,⟨b,off,vs,rfl,hl,h,rfl⟩,hk⟩
theorem rdB {l:List Value}{T:Nat}{fr:Nat×Nat}[h:InL b L (.cells l.toArray T fr)](hl:l.length=n)(hk:K (.agg l.toArray) I L):Rv none (AB n (.pointer (some ⟨b,0,none⟩))) K I L:=
 rdN hl (λj u hu=>Cell.own h.mem (by simpa using hu)) hk
theorem rdP {l:List Value}{T:Nat}{fr:Nat×Nat}[h:InL b L (.cells l.toArray T fr)](vs:List Value)(he:(l.drop off).take n=vs)(hl:vs.length=n)(hk:K (.agg vs.toArray) I L):Rv none (AB n (.pointer (some ⟨b,off,none⟩))) K I L:=
 rdN hl (λj u hu=>Cell.own h.mem (by
  subst he;rw [zaB] at hu;split at hu
  ·rw [zat] at hu;simpa using hu
  ·cases hu)) hk
variable {S:M}
theorem AQR (h:∀I' L',S I' L'→Cell I' L' b off v)(hk:K v I L):Rv (some S) (BF (.pointer (some ⟨b,off,none⟩))) K I L:=⟨v,λI' L' hS=>⟨b,off,rfl,h I' L' hS⟩,hk⟩
theorem ABr {vs:List Value}(hl:vs.length=n)(h:∀I' L',S I' L'→Cells I' L' b off vs)(hk:K (.agg vs.toArray) I L):Rv (some S) (AB n (.pointer (some ⟨b,off,none⟩))) K I L:=
 ⟨_,λI' L' hS=>⟨b,off,vs,rfl,hl,h I' L' hS,rfl⟩,hk⟩
end reads
def Stay (I0:Imm)(X:LH):M:=λI L=>Ext I0 I∧∀x∈X,x∈L
theorem Stay.start (I:Imm)(L:LH):Stay I L I L:=⟨zAC I,λ_ h=>h⟩
section stay
variable {I I0:Imm}{L X:LH}{K:Value→M}{b off n:Nat}{v:Value}
theorem BJ {l:List Value}{T:Nat}{fr:Nat×Nat}[h:InL b X (.cells l.toArray T fr)][g:GetL l off v](hk:K v I L):Rv (some (Stay I0 X)) (BF (.pointer (some ⟨b,off,none⟩))) K I L:=
 AQR (λI' L' hS=>Cell.own (hS.2 _ h.mem) (by simpa using g.get)) hk
theorem JZ {l:List Value}{T:Nat}{fr:Nat×Nat}[h:InL b X (.cells l.toArray T fr)](hl:l.length=n)(hk:K (.agg l.toArray) I L):Rv (some (Stay I0 X)) (AB n (.pointer (some ⟨b,0,none⟩))) K I L:=
 ABr hl (λI' L' hS j u hu=>Cell.own (hS.2 _ h.mem) (by simpa using hu)) hk
theorem PZ (h:Cell I0 X b off v)(hk:K v I L):Rv (some (Stay I0 X)) (BF (.pointer (some ⟨b,off,none⟩))) K I L:=
 AQR (λ_ _ hS=>h.mono hS.1 hS.2) hk
theorem ALH (h1:Ext I0 I)(h2:∀x∈X,x∈L)(hk:K v I L):AQ (Stay I0 X) K v I L:=⟨⟨h1,h2⟩,hk⟩
theorem draw {B:M→M}(S:M)(h1:S I L)(h2:B S I L):Bg B I L:=⟨S,h1,h2⟩
end stay
section ghosts
variable {I:Imm}{L:LH}
theorem Cons.ext_put {b:Nat}{o:Obj}(h:Cons I ((b,o)::L)):Ext I (Imm.put I b o):=by
 intro b' o' hb';unfold Imm.put;have:=h.2 b o (zJ ..);rw [if_neg (λe=>by subst e;rw [this] at hb';cases hb')];exact hb'
theorem Cons.freeze {b:Nat}{o:Obj}(h:Cons I ((b,o)::L)):Cons (Imm.put I b o) L:=by
 refine ⟨(zaX.1 h.1).2,λb' o' hm=>?_⟩;unfold Imm.put;have hn:=(zaX.1 h.1).1;rw [if_neg (λe=>hn (by subst e;exact zaf.2 ⟨(b',o'),hm,rfl⟩))];exact h.2 b' o' (zV _ hm)
theorem Cons.perm {L':LH}(h:Cons I L)(hp:L.Perm L'):Cons I L':=⟨(hp.map _).nodup_iff.1 h.1,λb o hb=>h.2 b o (hp.mem_iff.2 hb)⟩
theorem Cons.drop {L':LH}(h:Cons I L)(hs:L'.Sublist L):Cons I L':=⟨h.1.sublist (hs.map _),λb o hb=>h.2 b o (hs.subset hb)⟩
theorem Gh.done {A:M}(h:A I L):Gh A I L:=λ_=>⟨I,L,λ_ _ h=>h,h⟩
theorem zAA:type_of% @Gh.done:=@Gh.done
theorem Gh.freeze {A:M}{b:Nat}{o:Obj}(h:Ext I (Imm.put I b o)→Gh A (Imm.put I b o) L):Gh A I ((b,o)::L):=by
 intro hc;obtain ⟨I',L',h1,h2⟩:=h hc.ext_put hc.freeze;exact ⟨I',L',λω w hs=>h1 ω w hs.freeze,h2⟩
theorem Gh.perm {A:M}{L':LH}(hp:L.Perm L')(h:Gh A I L'):Gh A I L:=by
 intro hc;obtain ⟨I',L',h1,h2⟩:=h (hc.perm hp);exact ⟨I',L',λω w hs=>h1 ω w (hs.perm hp),h2⟩
theorem Gh.drop {A:M}{L':LH}(hp:L'.Sublist L)(h:Gh A I L'):Gh A I L:=by
 intro hc;obtain ⟨I',L',h1,h2⟩:=h (hc.drop hp);exact ⟨I',L',λω w hs=>h1 ω w (hs.drop hp),h2⟩
theorem Gh.to {A:M}(L':LH)[hs:SubP L' L](h:Gh A I L'):Gh A I L:=by
 obtain ⟨R,hR⟩:=hs.sub;exact Gh.perm hR (Gh.drop (List.sublist_append_left L' R) h)
theorem zAE:type_of% @Gh.to:=@Gh.to
end ghosts
section effs
variable {I:Imm}{L L':LH}{K:Value→M}{b off n T:Nat}{v:Value}
theorem ALd (l l':List Value)(k:Nat)(v:Value)(h:l.set k v=l'):wr l.toArray k [v]=l'.toArray:=by
 simp [wr,h]
theorem st1 {l l':List Value}[h:InL b L (.cells l.toArray T (0,0))][g:SetL l off v l'][u:UpL b L (.cells l.toArray T (0,0)) (.cells l'.toArray T (0,0)) L'](hv:v.oneCell'=true)(hk:K undef I L'):
  Sto 1 (.pointer (some ⟨b,off,none⟩)) v (gh K) I L:=by
 obtain ⟨L1,L2,rfl,rfl⟩:=u.up;have hc:v.cells=#[v]:=by cases v <;> first|rfl|simp [Value.oneCell'] at hv
 refine ⟨b,off,l.toArray,T,(0,0),L1,L2,rfl,by simp [hc],by simp [hc];exact hv,by simp;have:=g.set.2;omega,.inl rfl,rfl,?_⟩;rw [hc,ALd l l' off v g.set.1];exact zAA hk
theorem ALe:∀(vs l:List Value) (off:Nat),off+vs.length=l.length→wr l.toArray off vs=(l.take off++vs).toArray:=by
 intro vs l off h;rw [Oa vs l.toArray off zu];simp [h]
theorem stB {l vs:List Value}[h:InL b L (.cells l.toArray T (0,0))][u:UpL b L (.cells l.toArray T (0,0)) (.cells vs.toArray T (0,0)) L'](hl:vs.length=n)(hl':l.length=n)(h1:∀u∈vs,u.oneCell'=true)(hk:K undef I L'):
  Sto n (.pointer (some ⟨b,0,none⟩)) (.agg vs.toArray) (gh K) I L:=by
 obtain ⟨L1,L2,rfl,rfl⟩:=u.up;refine ⟨b,0,l.toArray,T,(0,0),L1,L2,rfl,by simp [Value.cells,hl],by simpa [Value.cells] using h1,by simp [hl'],.inl rfl,rfl,?_⟩;simp only [Value.cells];rw [ALe vs l 0 zo];exact zAA (by simpa using hk)
theorem AV {vs:List Value}(h:vs.all (·.oneCell')=true):∀u∈vs,u.oneCell'=true:=λu hu=>zas.1 h u hu
theorem Ap {o:Obj}(h:∀b,K (.pointer (some ⟨b,0,none⟩)) I ((b,o)::L)):New o (gh K) I L:=λb=>zAA (h b)
end effs
section calls
variable {P:Program}{ω:Om}{f:FuncId}{args:Array Value}{K:Value→M}{I:Imm}{L:LH}
theorem Cal.gh (h:Cal P ω f args (λv=>Gh (K v)) I L):Cal P ω f args K I L:=λw hs=>
 (h w hs).mono λ_ _ ⟨v,_,_,he,hs',hg⟩=>by
  obtain ⟨I2,L2,h1,h2⟩:=hg hs'.cons;exact ⟨v,I2,L2,he,h1 ω _ hs',h2⟩
theorem zAG:type_of% @Cal.gh:=@Cal.gh
theorem call (h:Cal P ω f args K I L):Cal P ω f args (SL.gh K) I L:=λw hs=>
 (h w hs).mono λ_ _ ⟨v,I',L',he,hs',h2⟩=>⟨v,I',L',he,hs',zAA h2⟩
theorem Sj (h:Cal P ω f args (λv=>Gh (K v)) I L):Cal P ω f args (SL.gh K) I L:=h
theorem Cal.to (L':LH)[hs:SubP L' L](h:Cal P ω f args K I L'):Cal P ω f args K I L:=λw hw=>by
 obtain ⟨R,hR⟩:=hs.sub;exact h w ((hw.perm hR).drop (List.sublist_append_left L' R))
theorem Cal.split (X:LH){R:LH}[h:SplitL X L R](hc:Cal P ω f args K I (X++R)):Cal P ω f args K I L:=λw hs=>hc w (hs.perm h.perm)
theorem zAM:type_of% @Cal.split:=@Cal.split
theorem Cal.perm {L':LH}(hp:L.Perm L')(h:Cal P ω f args K I L'):Cal P ω f args K I L:=λw hs=>h w (hs.perm hp)
theorem Cal.mono {K':Value→M}(h:Cal P ω f args K I L)(hk:∀v I' L',K v I' L'→K' v I' L'):Cal P ω f args K' I L:=λw hs=>
 (h w hs).mono λ_ _ ⟨v,I',L',he,hs',h2⟩=>⟨v,I',L',he,hs',hk v I' L' h2⟩
theorem Cal.cons (h:Cons I L→Cal P ω f args K I L):Cal P ω f args K I L:=λw hs=>h hs.cons w hs
theorem loop {σ:Type}{s0:σ}{B:σ→(σ→M)→M}(Inv:Nat→σ→M)(m:Nat)(h0:Inv m s0 I L)
  (h:∀m s I' L',Inv m s I' L'→B s (λs'=>Gh λI2 L2=>∃m',m' < m∧Inv m' s' I2 L2) I' L'):Aq s0 B I L:=⟨Inv,m,h0,h⟩
end calls
abbrev AP (P:Program)(ω:Om)(f:FuncId)(args:Array Value)(Pn K:Value→M):M:=CalP P ω f args K Pn
abbrev Gp (P:Program)(ω:Om)(x:Value)(args:Array Value)(Pn K:Value→M):M:=CalVP P ω x args K Pn
abbrev ASL (P:Program)(ω:Om)(f:FuncId)(args:Array Value)(K:Value→M):M:=CalD P ω f args K
abbrev AJD (P:Program)(ω:Om)(f:FuncId)(args:Array Value)(v:Value)(K:Value→M):M:=CalDR P ω f args v K
section callsP
variable {P:Program}{ω:Om}{f:FuncId}{args:Array Value}{K Pn:Value→M}{I:Imm}{L:LH}
theorem CalP.of (h:Cal P ω f args K I L):CalP P ω f args K Pn I L:=λw hs=>
 (h w hs).mono λ_ _ ⟨v,I',L',he,hs',hk⟩=>⟨v,I',L',hs',.inl ⟨he,hk⟩⟩
theorem CalP.gh (h:CalP P ω f args (λv=>Gh (K v)) (λv=>Gh (Pn v)) I L):CalP P ω f args K Pn I L:=λw hs=>
 (h w hs).mono λ_ _ ⟨v,_,_,hs',hg⟩=>by
  rcases hg with ⟨he,hg⟩|⟨he,hg⟩
  ·obtain ⟨I2,L2,h1,h2⟩:=hg hs'.cons;exact ⟨v,I2,L2,h1 ω _ hs',.inl ⟨he,h2⟩⟩
  ·obtain ⟨I2,L2,h1,h2⟩:=hg hs'.cons;exact ⟨v,I2,L2,h1 ω _ hs',.inr ⟨he,h2⟩⟩
theorem zAL:type_of% @CalP.gh:=@CalP.gh
theorem CalP.mono {K' Pn':Value→M}(h:CalP P ω f args K Pn I L)(hk:∀v I' L',K v I' L'→K' v I' L')(hp:∀v I' L',Pn v I' L'→Pn' v I' L'):CalP P ω f args K' Pn' I L:=λw hs=>
 (h w hs).mono λ_ _ ⟨v,I',L',hs',hg⟩=>⟨v,I',L',hs',hg.imp (λh=>⟨h.1,hk _ _ _ h.2⟩) (λh=>⟨h.1,hp _ _ _ h.2⟩)⟩
theorem AX (h:CalP P ω f args K Pn I L):CalP P ω f args (SL.gh K) Pn I L:=h.mono (λ_ _ _ h=>zAA h) (λ_ _ _ h=>h)
theorem Ai (h:Cal P ω f args K I L):CalP P ω f args (SL.gh K) Pn I L:=CalP.of (call h)
theorem CalP.pre (h:Gh (CalP P ω f args K Pn) I L):CalP P ω f args K Pn I L:=λw hs=>by
 obtain ⟨I',L',h1,h2⟩:=h hs.cons;exact h2 w (h1 ω w hs)
end callsP
theorem ExtE.ret {P:Program}{ω:Om}{e:Array Value→Sem Value}{args:Array Value}{K:Value→M}{I:Imm}{L:LH}(h:∃v,(∀w,St ω w I L→(e args).run P w= .ok v w)∧K v I L):ExtE P ω e args K I L:=λw hs=>by
 obtain ⟨v,h1,h2⟩:=h;exact ⟨v,w,I,L,h1 w hs,hs,h2⟩
theorem AFO {P:Program}{ω:Om}{x:Value}{K:Value→M}{I:Imm}{L:LH}(hk:K x I L):ExtE P ω Extern.AbiNoEscape.same #[x] K I L:=ExtE.ret ⟨x,λw _=>Lib.run_noEscape w x,hk⟩
theorem ARz {P:Program}{ω:Om}{ps:Array TypeId}{t e n:Nat}{K:Value→M}{I:Imm}{L:LH}(ht:P.underlying t=some (.slice e))(hn:n≤281474976710656)(hk:∀(b:Nat) (cs:Array Value),n≤cs.size→K (.slice (some ⟨b,0,none⟩) n cs.size) I ((b,.cells cs e (0,0))::L)):
  ExtE P ω (Extern.BytealgMakeNoZero.makeNoZero ps #[t]) #[.int .i64 n] K I L:=λw hs=>by
 obtain ⟨cs,h1,h2,_⟩:=Lib.run_makeNoZero (P:=P) w ps t e ht n hn;refine ⟨_,_,I,_,h1,?_,hk w.heap.size cs h2⟩;have hd:St ω w.drew.drew I L:=St.drew hs (n:=w.drew.drew.drawn) (by show w.drawn≤w.drawn+1+1;omega);exact St.push hd (.cells cs e (0,0))
def SlI (I:Imm)(n:Nat)(v:Value)(cells:List Value)(len:Nat):Prop:=
 cells.length=len * n∧∃a cap,v= .slice a len cap∧len≤cap∧
  (len≠0→∃b off cs T fr,a=some ⟨b,off,none⟩∧I b=some (Obj.cells cs T fr)∧∀j u,cells[j]? =some u→cs[off+j]? =some u)
theorem SlI.mono {I I':Imm}{n len:Nat}{v:Value}{cells:List Value}(h:SlI I n v cells len)(hI:Ext I I'):SlI I' n v cells len:=by
 obtain ⟨hl,a,cap,hv,hc,h⟩:=h;refine ⟨hl,a,cap,hv,hc,λh0=>?_⟩;obtain ⟨b,off,cs,T,fr,ha,hb,hcs⟩:=h h0;exact ⟨b,off,cs,T,fr,ha,hI _ _ hb,hcs⟩
theorem SlI.nil (I:Imm)(n:Nat)(a:Option Addr)(cap:Nat):SlI I n (.slice a 0 cap) [] 0:=⟨by simp,a,cap,rfl,zao _,λh=>absurd rfl h⟩
theorem SlI.news {I:Imm}{L:LH}{n len:Nat}{v:Value}{cells:List Value}(h:SlI I n v cells len):News n v I L len cells:=by
 obtain ⟨hl,a,cap,rfl,hc,h⟩:=h;by_cases h0:len=0
 ·subst h0;exact .inl ⟨a,cap,rfl,rfl,zG (by simpa using hl)⟩
 ·obtain ⟨b,off,cs,T,fr,rfl,hb,hcs⟩:=h h0;exact .inr (.inl ⟨b,off,cap,rfl,hl,λj u hu=>Cell.imm hb (hcs j u hu)⟩)
def SlO (T n : Nat) (X : LH) (v : Value) (cells : List Value) (len : Nat) : Prop :=
  cells.length = len * n ∧
  ((X = [] ∧ len = 0 ∧ ∃ a, v = .slice a 0 0) ∨
   (∃ (b cap : Nat) (cs : Array Value), X = [(b, Obj.cells cs T (0, 0))] ∧ v = .slice (some ⟨b, 0, Option.none⟩) len cap ∧ cs.size = cap * n ∧ len ≤ cap ∧ ∀ (j : Nat) (u : Value), cells[j]? = some u → cs[j]? = some u))
theorem SlO.none (T n:Nat):SlO T n [] (.slice none 0 0) [] 0:=⟨by simp,.inl ⟨rfl,rfl,_,rfl⟩⟩
theorem zAJ:type_of% @SlO.none:=@SlO.none
theorem SlO.empty (T n:Nat)(a:Option Addr):SlO T n [] (.slice a 0 0) [] 0:=⟨by simp,.inl ⟨rfl,rfl,_,rfl⟩⟩
theorem SlO.form {T n len:Nat}{X:LH}{v:Value}{cells:List Value}(h:SlO T n X v cells len):∃a cap,v= .slice a len cap:=by
 rcases h.2 with ⟨_,rfl,a,rfl⟩|⟨b,cap,cs,_,rfl,_⟩
 ·exact ⟨a,0,rfl⟩
 ·exact ⟨_,cap,rfl⟩
theorem SlO.news {I:Imm}{T n len:Nat}{X F:LH}{v:Value}{cells:List Value}(h:SlO T n X v cells len)(hF:∀x∈X,x∈F):News n v I F len cells:=by
 obtain ⟨hl,h⟩:=h;rcases h with ⟨rfl,rfl,a,rfl⟩|⟨b,cap,cs,rfl,rfl,hcs,hle,hc⟩
 ·exact .inl ⟨a,0,rfl,rfl,zG (by simpa using hl)⟩
 ·exact .inr (.inl ⟨b,0,cap,rfl,hl,λj u hu=>Cell.own (hF _ (zM.2 rfl)) (by rw [zaS];exact hc j u hu)⟩)
theorem SlO.freeze {A:M}{I:Imm}{T n len:Nat}{X F:LH}{v:Value}{cells:List Value}(h:SlO T n X v cells len)(hk:∀I',Ext I I'→SlI I' n v cells len→Gh A I' F):Gh A I (X++F):=by
 obtain ⟨hl,h⟩:=h;rcases h with ⟨rfl,rfl,a,rfl⟩|⟨b,cap,cs,rfl,rfl,hcs,hle,hc⟩
 ·exact hk I (zAC I) ⟨hl,a,0,rfl,zh _,λh=>absurd rfl h⟩
 ·exact Gh.freeze λhext=>hk _ hext ⟨hl,_,cap,rfl,hle,λ_=>⟨b,0,cs,T,(0,0),rfl,by simp [Imm.put],λj u hu=>by rw [zaS];exact hc j u hu⟩⟩
theorem EQ (z:Array Value)(k:Nat):(Builtin.zeroCells z k).size=k * z.size:=by simp [Builtin.zeroCells]
theorem Ls {I:Imm}{X L F:LH}[hsp:SplitL X L F]{T n bytes len m:Nat}{z:Array Value}{s x:Value}{cells news:List Value}{K:Value→M}(hz:z.size=n)(ho:SlO T n X s cells len)(hn:News n x I L m news)
  (h1:∀u∈news,u.oneCell'=true) (hb:(len+m) * bytes≤150000000000000) (hm:len+m≤150000000000000)
  (hk:∀X' v',SlO T n X' v' (cells++news) (len+m)→Gh (K v') I (X'++F)):App T n bytes z s x (gh K) I L:=by
 have hp:=hsp.perm;obtain ⟨hl,ho'⟩:=ho;have hnl:=hn.length;have hlen:(cells++news).length=(len+m) * n:=by rw [zk,hl,hnl,zax]
 rcases ho' with ⟨rfl,rfl,a,rfl⟩|⟨b,cap,cs,rfl,rfl,hcs,hle,hc⟩
 ·have hce:cells=[]:=zG (by simpa using hl);subst hce;refine ⟨a,0,0,m,news,rfl,hn,h1,?_⟩;by_cases h0:m=0
  ·subst h0;have:news=[]:=zG (by simpa using hnl);subst this;exact .inl ⟨zh _,rfl,Gh.perm hp (hk [] (.slice a 0 0) (SlO.empty T n a))⟩
  ·refine .inr (.inr ⟨by omega,hb,hm,[],L,.inl ⟨a,0,rfl,rfl,rfl⟩,List.Sublist.refl _,λb c hc=>?_⟩);refine Gh.perm (List.Perm.cons _ hp) (hk [(b,_)] _ ⟨hlen,.inr ⟨b,c,_,rfl,rfl,?_,hc,?_⟩⟩)
   ·simp only [zaF,Array.size_append,List.size_toArray,EQ,hz,hnl];rw [←zax];congr 1;omega
   ·intro j u hu;simp only [zaF] at hu ⊢;have hlt:j < news.length:=(zaj.1 hu).1;rw [zaO (by simpa using hlt)];simpa using hu
 ·have hmem:(b,Obj.cells cs T (0,0))∈L:=hp.mem_iff.2 (zY _ (zM.2 rfl));obtain ⟨L1,L2,rfl⟩:=List.append_of_mem hmem;have hF:(L1++L2).Perm F:=by
   have h2:(L1++(b,Obj.cells cs T (0,0))::L2).Perm ((b,Obj.cells cs T (0,0))::(L1++L2)):=zbd;exact (List.perm_cons _).1 (h2.symm.trans hp)
  refine ⟨_,len,cap,m,news,rfl,hn,h1,?_⟩;by_cases hfit:len+m≤cap
  ·refine .inr (.inl ⟨hfit,b,0,cs,T,L1,L2,rfl,rfl,by rw [hcs,zaS];exact zay n hfit,?_⟩);refine Gh.perm (zbd.trans (List.Perm.cons _ hF)) (hk [(b,_)] _ ⟨hlen,.inr ⟨b,cap,_,rfl,rfl,by rw [Nu];exact hcs,hfit,?_⟩⟩);have hroom:0+len * n+news.length≤cs.size:=by
    rw [hcs,hnl,zaS,←zax];exact zay n hfit
   intro j u hu;rw [XH news cs (0+len * n) j hroom];simp only [zaS] at hroom ⊢;by_cases hj:j < len * n
   ·rw [if_pos hj];rw [List.getElem?_append_left zo] at hu;exact hc j u hu
   ·rw [if_neg hj];rw [List.getElem?_append_right zo,hl] at hu;have hlt:=(zaj.1 hu).1;rw [if_pos zo];exact hu
  ·refine .inr (.inr ⟨by omega,hb,hm,cells,L1++L2,.inr (.inl ⟨b,0,cap,rfl,hl,λj u hu=>Cell.own hmem (by rw [zaS];exact hc j u hu)⟩),
    List.Sublist.append (List.Sublist.refl _) (List.sublist_cons_self ..),λb' c hcc=>?_⟩)
   refine Gh.perm (List.Perm.cons _ hF) (hk [(b',_)] _ ⟨hlen,.inr ⟨b',c,_,rfl,rfl,?_,hcc,?_⟩⟩)
   ·simp only [Array.size_append,List.size_toArray,EQ,hz,hlen];rw [←zax];congr 1;omega
   ·intro j u hu;have hlt:j < (cells++news).length:=(zaj.1 hu).1;rw [zaO (by simpa using hlt)];simpa using hu
theorem BL {I:Imm}{X L F:LH}[hsp:SplitL X L F]{T n bytes len m:Nat}{z:Array Value}{s x:Value}{cells news:List Value}{K:Value→M}(hz:z.size=n)(ho:SlO T n X s cells len)(hn:News n x I L m news)
  (h1:∀u∈news,u.oneCell'=true) (hb:(len+m) * bytes≤150000000000000) (hm:len+m≤150000000000000)
  (hk:∀X' v',SlO T n X' v' (cells++news) (len+m)→K v' I (X'++F)):App T n bytes z s x (gh K) I L:=Ls hz ho hn h1 hb hm (λX' v' h=>zAA (hk X' v' h))
theorem AFY {I:Imm}{F:LH}{T bytes:Nat}{z:Array Value}{ln cn:Nat}{K:Value→M}(hlc:ln≤cn)(hc:cn≤140737488355328)(hb:cn * bytes≤281474976710656)
  (hk:∀X v,SlO T z.size X v (Builtin.zeroCells z ln).toList ln→K v I (X++F)):MkS T bytes z (.int .i64 ln) (.int .i64 cn) (gh K) I F:=by
 refine ⟨.i64,.i64,ln,cn,rfl,rfl,hlc,hc,hb,λb=>?_⟩;refine zAA (hk [(b,_)] _ ⟨by simp [EQ],.inr ⟨b,cn,_,rfl,rfl,EQ z cn,hlc,?_⟩⟩);intro j u hu;have hlt:j < ln * z.size:=by have:=(zaj.1 hu).1;simpa [EQ] using this
 have hlt':j < cn * z.size:=Nat.lt_of_lt_of_le hlt (zay _ hlc);simp only [Builtin.zeroCells,Array.toList_map,List.getElem?_map,Array.toList_range,List.getElem?_range hlt,Option.map_some,zn] at hu;simp only [Builtin.zeroCells,Array.getElem?_map,Array.getElem?_range,hlt',if_true,Option.map_some,hu]
theorem Qd {I:Imm}{F:LH}{T n:Nat}{z:Array Value}{v:Value}{K:Value→M}(hz:z.size=n)(hn:0 < n)(hv:v.cells.size=n)
  (hk:∀X u,SlO T n X u v.cells.toList 1→Gh (K u) I (X++F)):AC T n z 1 [(0,v)] (gh K) I F:=by
 have hfold:∀(vs:List Value) (cs:Array Value) (k:Nat),k+vs.length≤cs.size→(vs.zipIdx k).foldl (λcs (c,j)=>cs.setIfInBounds (0+j) c) cs=wr cs k vs:=by
  intro vs;induction vs with
  |nil=>intro cs k _;rfl
  |cons v vs ih=>
   intro cs k hk;simp only [List.zipIdx_cons,List.foldl_cons,wr,zaS];simp only [zi] at hk;have:=ih (cs.setIfInBounds k v) (k+1) zu;simpa using this
 refine ⟨v.cells,?_,λb=>?_⟩
 ·simp only [Instr.fill];have h0:((Array.range (1 * n)).map (λx=>z[x % z.size]!)).size=n:=by simp
  rw [h0];have hc:¬((decide (v.cells.size≠n)||decide (0 * n+v.cells.size > n))=true):=by simp [hv]
  rw [if_neg hc];congr 1
  rw [←Array.foldl_toList];simp only [Array.toList_zipIdx,Nat.zero_mul];rw [hfold _ _ 0 (by rw [h0];simp [hv]),Oa _ _ 0 (by rw [h0];simp [hv])];apply Array.ext'
  simp [hv]
 ·exact hk [(b,_)] _ ⟨by simp [hv],.inr ⟨b,1,_,rfl,rfl,by omega,zh _,λj u hu=>by simpa using hu⟩⟩
theorem Bh {I:Imm}{F:LH}{T n:Nat}{z:Array Value}{v:Value}{K:Value→M}(hz:z.size=n)(hn:0 < n)(hv:v.cells.size=n)
  (hk:∀X u,SlO T n X u v.cells.toList 1→K u I (X++F)):AC T n z 1 [(0,v)] (gh K) I F:=Qd hz hn hv (λX u h=>zAA (hk X u h))
theorem AGL {I:Imm}{F:LH}{T n:Nat}{z:Array Value}{K:Value→M}(hk:∀X u,SlO T n X u [] 0→K u I (X++F)):AC T n z 0 [] (gh K) I F:=by
 refine ⟨#[],by simp [Instr.fill],λb=>?_⟩;exact zAA (hk [(b,_)] _ ⟨by simp,.inr ⟨b,0,_,rfl,rfl,by simp,zh _,λj u hu=>by simp at hu⟩⟩)
theorem SlO.ix {T n len i:Nat}{X:LH}{v:Value}{cells:List Value}(h:SlO T n X v cells len)(k:IntKind)(hi:i < len):
  ∃b,ixV n v (.int k i)=some (.pointer (some ⟨b,i * n,Option.none⟩))∧∀I L,(∀x∈X,x∈L)→Cells I L b (i * n) ((cells.drop (i * n)).take n):=by
 obtain ⟨hl,h⟩:=h;rcases h with ⟨rfl,rfl,a,rfl⟩|⟨b,cap,cs,rfl,rfl,hcs,hle,hc⟩
 ·omega
 ·refine ⟨b,by rw [AFg b 0 n k len cap i hi,zaS],λI L hX j u hu=>?_⟩;rw [zaB] at hu;split at hu
  ·rw [zat] at hu;exact Cell.own (hX _ (zM.2 rfl)) (hc _ u hu)
  ·cases hu
theorem SlI.ix {I:Imm}{n len i:Nat}{v:Value}{cells:List Value}(h:SlI I n v cells len)(k:IntKind)(hi:i < len):
  ∃b off,ixV n v (.int k i)=some (.pointer (some ⟨b,off,none⟩))∧∀I' L,Ext I I'→Cells I' L b off ((cells.drop (i * n)).take n):=by
 obtain ⟨hl,a,cap,rfl,hcap,h⟩:=h;obtain ⟨b,off,cs,T,fr,rfl,hb,hcs⟩:=h zo;refine ⟨b,off+i * n,AFg b off n k len cap i hi,λI' L hI j u hu=>?_⟩;rw [zaB] at hu;split at hu
 ·rw [zat] at hu;refine Cell.imm (hI _ _ hb) ?_;have:=hcs _ u hu;rwa [←zbn] at this
 ·cases hu
theorem KN (k:IntKind)(i d y:Nat)(h:i≤y):DJ (some (.int k i)) d y=some i:=by
 simp only [DJ];rw [if_pos zo];simp
theorem SlI.part {I:Imm}{n len lo hi:Nat}{v:Value}{cells:List Value}(h:SlI I n v cells len)(h1:lo≤hi)(h2:hi≤len)(blo bhi:Option Value)
  (hlo:∀y,hi≤y→DJ blo 0 y=some lo∨y≠hi) (hhi:∀cap,len≤cap→DJ bhi len cap=some hi):
  ∃v',Bi n v blo bhi none=some v'∧SlI I n v' ((cells.drop (lo * n)).take ((hi - lo) * n)) (hi - lo):=by
 obtain ⟨hl,a,cap,rfl,hcap,h⟩:=h;have hb1:=hhi cap hcap;have hb2:DJ blo 0 hi=some lo:=(hlo hi (zh _)).resolve_right zy;refine ⟨.slice (if cap=lo then a else a.map (·.add (lo * n))) (hi - lo) (cap - lo),?_,?_,_,_,rfl,by omega,λh0=>?_⟩
 ·simp only [Bi];rw [if_neg zy];simp only [DJ] at hb1 hb2 ⊢;simp [hb1,hb2]
 ·rw [zai,zaq,hl];apply zbb
  rw [←Nat.sub_mul];exact zay n zo
 ·obtain ⟨b,off,cs,T,fr,rfl,hb,hcs⟩:=h zo;refine ⟨b,off+lo * n,cs,T,fr,by rw [if_neg zo];simp [Ce],hb,λj u hu=>?_⟩;rw [zaB] at hu;split at hu
  ·rw [zat] at hu;have:=hcs _ u hu;rwa [←zbn] at this
  ·cases hu
def u8s (l:List UInt8):List Value:=l.map λc=>.int .u8 c.toNat
def Bytes (I:Imm)(v:Value)(l:List UInt8):Prop:=SlI I 1 v (u8s l) l.length
theorem Bytes.mono {I I':Imm}{v:Value}{l:List UInt8}(h:Bytes I v l)(hI:Ext I I'):Bytes I' v l:=SlI.mono h hI
theorem Bytes.form {I:Imm}{v:Value}{l:List UInt8}(h:Bytes I v l):∃a cap,v= .slice a l.length cap:=by
 obtain ⟨_,a,cap,hv,_⟩:=h;exact ⟨a,cap,hv⟩
theorem Bytes.str {I:Imm}{L:LH}{v:Value}{l:List UInt8}(h:Bytes I v l):bsR v I L (.string ⟨l.toArray⟩):=by
 rcases SlI.news (L:=L) h with ⟨a,cap,rfl,hl,hn⟩|⟨b,off,cap,rfl,hl,hc⟩|⟨s,rfl,_⟩
 ·have:l=[]:=zG hl;subst this;exact .inl ⟨a,cap,rfl,rfl⟩
 ·exact .inr ⟨b,off,_,cap,l,rfl,rfl,hc,rfl⟩
 ·obtain ⟨a,cap,hv⟩:=h.form;cases hv
def Recs {α:Type}(R:α→List Value→Prop)(n:Nat):List α→List Value→Prop
 |[],cells=>cells=[]
 |x::xs,cells=>(cells.take n).length=n∧R x (cells.take n)∧Recs R n xs (cells.drop n)
section recs
variable {α:Type}{R R':α→List Value→Prop}{n:Nat}
theorem Recs.length:∀{xs:List α} {cells:List Value},Recs R n xs cells→cells.length=xs.length * n
 |[],cells,h=>by rw [h];simp
 |x::xs,cells,⟨h1,_,h2⟩=>by
  have:=Recs.length h2;rw [zaq] at this;rw [zai] at h1;simp only [zi,zax,Nat.one_mul];omega
theorem Recs.imp (hR:∀x c,R x c→R' x c):∀{xs:List α} {cells:List Value},Recs R n xs cells→Recs R' n xs cells
 |[],_,h=>h
 |_::_,_,⟨h1,h2,h3⟩=>⟨h1,hR _ _ h2,Recs.imp hR h3⟩
theorem Recs.append:∀{xs ys:List α} {cs ds:List Value},Recs R n xs cs→Recs R n ys ds→Recs R n (xs++ys) (cs++ds)
 |[],ys,cs,ds,h,h'=>by rw [show cs=[] from h];exact h'
 |x::xs,ys,cs,ds,⟨h1,h2,h3⟩,h'=>by
  have hle:n≤cs.length:=by rw [zai] at h1;omega
  refine ⟨?_,?_,?_⟩
  ·rw [List.take_append_of_le_length hle];exact h1
  ·rw [List.take_append_of_le_length hle];exact h2
  ·rw [List.drop_append_of_le_length hle];exact Recs.append h3 h'
theorem zAN:type_of% @Recs.append:=@Recs.append
theorem Recs.one {x:α}{c:List Value}(hl:c.length=n)(h:R x c):Recs R n [x] c:=by
 refine ⟨by rw [zW zo];exact hl,by rw [zW zo];exact h,?_⟩;show c.drop n=[];simp [hl]
theorem Recs.one_cells (hR:∀x c,R x c→∀u∈c,u.oneCell'=true):∀{xs:List α} {cells:List Value},Recs R n xs cells→∀u∈cells,u.oneCell'=true
 |[],cells,h,u,hu=>by rw [show cells=[] from h] at hu;cases hu
 |x::xs,cells,⟨_,h2,h3⟩,u,hu=>by
  rw [←zZ n cells] at hu;rcases zaz.1 hu with hu|hu
  ·exact hR _ _ h2 u hu
  ·exact Recs.one_cells hR h3 u hu
theorem Recs.get:∀{xs:List α} {cells:List Value} {i:Nat} {x:α},Recs R n xs cells→xs[i]? =some x→((cells.drop (i * n)).take n).length=n∧R x ((cells.drop (i * n)).take n)
 |[],_,_,_,_,h=>by simp at h
 |y::ys,cells,0,x,⟨h1,h2,_⟩,h=>by
  simp only [zad,zn] at h;subst h;simpa using ⟨by simpa using h1,h2⟩
 |y::ys,cells,i+1,x,⟨_,_,h3⟩,h=>by
  have:=Recs.get (i:=i) h3 (by simpa using h);rw [zbs] at this;rwa [show (i+1) * n=n+i * n from by rw [zax];omega]
theorem Recs.take:∀{xs:List α} {cells:List Value} (k:Nat),Recs R n xs cells→Recs R n (xs.take k) (cells.take (k * n))
 |[],cells,k,h=>by rw [show cells=[] from h];simp [Recs]
 |x::xs,cells,0,_=>by simp [Recs]
 |x::xs,cells,k+1,⟨h1,h2,h3⟩=>by
  have hle:n≤(k+1) * n:=by rw [zax];omega
  refine ⟨?_,?_,?_⟩
  ·rw [List.take_take,zbb hle];exact h1
  ·rw [List.take_take,zbb hle];exact h2
  ·have:=Recs.take k h3;rw [List.drop_take];rwa [show (k+1) * n - n=k * n from by rw [zax];omega]
theorem Recs.drop:∀{xs:List α} {cells:List Value} (k:Nat),Recs R n xs cells→Recs R n (xs.drop k) (cells.drop (k * n))
 |[],cells,k,h=>by rw [show cells=[] from h];simp [Recs]
 |x::xs,cells,0,h=>by simpa using h
 |x::xs,cells,k+1,⟨_,_,h3⟩=>by
  have:=Recs.drop k h3;rw [zbs] at this;rwa [show (k+1) * n=n+k * n from by rw [zax];omega]
end recs
def Dc (w:World):Imm:=λb=>w.heap[b]?
def AQV (w:World):Om:=⟨w.tape,w.os,w.output,w.drawn⟩
theorem st_start (w:World):St (AQV w) w (Dc w) []:=⟨λ_ _ h=>h,λ_ _ h=>(zaG h).elim,List.nodup_nil,λ_ _ h=>(zaG h).elim,rfl,rfl,rfl,zh _⟩
theorem law_below {P:Program}{f:FuncId}{args:Array Value}{w:World}(h:∀ω,Cal P ω f args (λv I' _=>v= .bool true∧Ext (Dc w) I') (Dc w) []):
  Calls P f args w λe w'=>e= .returned (.bool true)∧RowKit.Below w.heap.size w w':=by
 refine (h (AQV w) w (st_start w)).mono ?_;rintro e w' ⟨v,I',L',rfl,hs,rfl,hI⟩;have hblk:∀k,k < w.heap.size→w'.heap[k]? =w.heap[k]? :=by
  intro k hk;have h1:Dc w k=some w.heap[k]:=zaD hk;rw [hs.imm k _ (hI k _ h1)];exact h1.symm
 refine ⟨rfl,hs.os,hs.tape,hs.out,?_,hblk⟩;rcases Nat.eq_zero_or_pos w.heap.size with h0|h0
 ·omega
 ·have:=hblk (w.heap.size - 1) zo;rw [zaD (by omega:w.heap.size - 1 < w.heap.size)] at this;have:=(zN.1 this).1;omega
section
variable {rz:Nat}{P:Program}{w:World}{T:TypeId}{cs:List Value}
theorem mapM_len {α β:Type}{f:α→Option β}:∀(l:List α) (r:List β),l.mapM f=some r→r.length=l.length
 |[],r,h=>by simp at h;subst h;rfl
 |x::l,r,h=>by
  simp only [zbt,Option.bind_eq_bind,zaM] at h;obtain ⟨y,_,ys,hys,he⟩:=h;simp only [Option.pure_def,zn] at he;subst he;simp [mapM_len l ys hys]
theorem JC {α β:Type}{f:α→Option β}:∀(l:List α) (r:List β),l.mapM f=some r→∀(i:Nat) (x:α),l[i]? =some x→∃y,r[i]? =some y∧f x=some y
 |[],r,h,i,x,hx=>by simp at hx
 |z::l,r,h,i,x,hx=>by
  simp only [zbt,Option.bind_eq_bind,zaM] at h;obtain ⟨y,hy,ys,hys,he⟩:=h;simp only [Option.pure_def,zn] at he;subst he;cases i with
  |zero=>simp at hx;subst hx;exact ⟨y,rfl,hy⟩
  |succ i=>simpa using JC l ys hys i x (by simpa using hx)
theorem wf_u8 {n:Int}(h:(Lit.int .u8 n).wf=true):0≤n∧n≤255:=by
 have e1:IntKind.u8.min=0:=by decide
 have e2:IntKind.u8.max=255:=by decide
 simp only [Lit.wf,e1,e2,zQ,decide_eq_true_eq] at h;exact h
theorem wf_i64 {n:Int}(h:(Lit.int .i64 n).wf=true): -9223372036854775808≤n∧n≤9223372036854775807:=by
 have e1:IntKind.i64.min= -9223372036854775808:=by decide
 have e2:IntKind.i64.max=9223372036854775807:=by decide
 simp only [Lit.wf,e1,e2,zQ,decide_eq_true_eq] at h;exact h
variable {r:Reach}{base:Nat}{v:Value}
end
end Go.SL
namespace Go.Proofs.YthkaekjoemhjaaaGreatDoor
open Go.SL
abbrev CT (ω:Om):FuncId→Array Value→(Value→M)→M:=Cal Tryz.prog ω
abbrev CW (ω:Om):Value→Array Value→(Value→M)→M:=CalV Tryz.prog ω
theorem mixed:Tryz.prog.follows .mixedOrders=true:=by kernel_rfl
theorem cQc {ω:Om}{f:FuncId}{fn:Func}(hf:Tryz.prog.funcs[f]?=some fn){a:List Value}{K:Value→M}{I:Imm}{L:LH}{P:Prop}(h:P)(e:vcF Tryz.prog ω fn a K I L=P:=by kernel_rfl):Cal Tryz.prog ω f a.toArray K I L:=Sl mixed hf (e ▸ h)
theorem cQp {ω:Om}{f:FuncId}{fn:Func}(hf:Tryz.prog.funcs[f]?=some fn){a:List Value}{K Pn:Value→M}{I:Imm}{L:LH}{P:Prop}(h:P)(e:vcP Tryz.prog ω fn a K Pn I L=P:=by kernel_rfl):CalP Tryz.prog ω f a.toArray K Pn I L:=YY mixed hf (e ▸ h)
theorem cQq {ω:Om}{f:FuncId}{fn:Func}(hf:Tryz.prog.funcs[f]?=some fn){a:List Value}{K:Value→M}{I:Imm}{L:LH}{P:Prop}(h:P)(e:vcQ Tryz.prog ω fn a K I L=P:=by kernel_rfl):Cal Tryz.prog ω f a.toArray K I L:=YX mixed hf (e ▸ h)
theorem zkc0 (s:Om→(Value→M)→M)(f:FuncId){fn:Func}(hf:Tryz.prog.funcs[f]?=some fn)(e:∀(ω:Om)(K:Value→M)(I:Imm)(L:LH),vcF Tryz.prog ω fn [] K I L=s ω  K I L:=by intros;kernel_rfl):∀⦃ω:Om⦄⦃K:Value→M⦄⦃I:Imm⦄⦃L:LH⦄,s ω  (λv=>Gh (K v)) I L→CT ω f #[] K I L:=λω  K I L h=>zAG (cQc hf h (e ω  _ I L))
theorem zkc1 (s:Om→Value→(Value→M)→M)(f:FuncId){fn:Func}(hf:Tryz.prog.funcs[f]?=some fn)(e:∀(ω:Om)(a0:Value)(K:Value→M)(I:Imm)(L:LH),vcF Tryz.prog ω fn [a0] K I L=s ω a0 K I L:=by intros;kernel_rfl):∀⦃ω:Om⦄⦃a0:Value⦄⦃K:Value→M⦄⦃I:Imm⦄⦃L:LH⦄,s ω a0 (λv=>Gh (K v)) I L→CT ω f #[a0] K I L:=λω a0 K I L h=>zAG (cQc hf h (e ω a0 _ I L))
theorem zkc2 (s:Om→Value→Value→(Value→M)→M)(f:FuncId){fn:Func}(hf:Tryz.prog.funcs[f]?=some fn)(e:∀(ω:Om)(a0:Value)(a1:Value)(K:Value→M)(I:Imm)(L:LH),vcF Tryz.prog ω fn [a0,a1] K I L=s ω a0 a1 K I L:=by intros;kernel_rfl):∀⦃ω:Om⦄⦃a0:Value⦄⦃a1:Value⦄⦃K:Value→M⦄⦃I:Imm⦄⦃L:LH⦄,s ω a0 a1 (λv=>Gh (K v)) I L→CT ω f #[a0,a1] K I L:=λω a0 a1 K I L h=>zAG (cQc hf h (e ω a0 a1 _ I L))
theorem zkc3 (s:Om→Value→Value→Value→(Value→M)→M)(f:FuncId){fn:Func}(hf:Tryz.prog.funcs[f]?=some fn)(e:∀(ω:Om)(a0:Value)(a1:Value)(a2:Value)(K:Value→M)(I:Imm)(L:LH),vcF Tryz.prog ω fn [a0,a1,a2] K I L=s ω a0 a1 a2 K I L:=by intros;kernel_rfl):∀⦃ω:Om⦄⦃a0:Value⦄⦃a1:Value⦄⦃a2:Value⦄⦃K:Value→M⦄⦃I:Imm⦄⦃L:LH⦄,s ω a0 a1 a2 (λv=>Gh (K v)) I L→CT ω f #[a0,a1,a2] K I L:=λω a0 a1 a2 K I L h=>zAG (cQc hf h (e ω a0 a1 a2 _ I L))
theorem zkc4 (s:Om→Value→Value→Value→Value→(Value→M)→M)(f:FuncId){fn:Func}(hf:Tryz.prog.funcs[f]?=some fn)(e:∀(ω:Om)(a0:Value)(a1:Value)(a2:Value)(a3:Value)(K:Value→M)(I:Imm)(L:LH),vcF Tryz.prog ω fn [a0,a1,a2,a3] K I L=s ω a0 a1 a2 a3 K I L:=by intros;kernel_rfl):∀⦃ω:Om⦄⦃a0:Value⦄⦃a1:Value⦄⦃a2:Value⦄⦃a3:Value⦄⦃K:Value→M⦄⦃I:Imm⦄⦃L:LH⦄,s ω a0 a1 a2 a3 (λv=>Gh (K v)) I L→CT ω f #[a0,a1,a2,a3] K I L:=λω a0 a1 a2 a3 K I L h=>zAG (cQc hf h (e ω a0 a1 a2 a3 _ I L))
theorem zkp1 (s:Om→Value→(Value→M)→(Value→M)→M)(f:FuncId){fn:Func}(hf:Tryz.prog.funcs[f]?=some fn)(e:∀(ω:Om)(a0:Value)(K Pn:Value→M)(I:Imm)(L:LH),vcP Tryz.prog ω fn [a0] K Pn I L=s ω a0 K Pn I L:=by intros;kernel_rfl):∀⦃ω:Om⦄⦃a0:Value⦄⦃K Pn:Value→M⦄⦃I:Imm⦄⦃L:LH⦄,s ω a0 (λv=>Gh (K v)) (λv=>Gh (Pn v)) I L→CalP Tryz.prog ω f #[a0] K Pn I L:=λω a0 K Pn I L h=>zAL (cQp hf h (e ω a0 _ _ I L))
theorem zkp2 (s:Om→Value→Value→(Value→M)→(Value→M)→M)(f:FuncId){fn:Func}(hf:Tryz.prog.funcs[f]?=some fn)(e:∀(ω:Om)(a0:Value)(a1:Value)(K Pn:Value→M)(I:Imm)(L:LH),vcP Tryz.prog ω fn [a0,a1] K Pn I L=s ω a0 a1 K Pn I L:=by intros;kernel_rfl):∀⦃ω:Om⦄⦃a0:Value⦄⦃a1:Value⦄⦃K Pn:Value→M⦄⦃I:Imm⦄⦃L:LH⦄,s ω a0 a1 (λv=>Gh (K v)) (λv=>Gh (Pn v)) I L→CalP Tryz.prog ω f #[a0,a1] K Pn I L:=λω a0 a1 K Pn I L h=>zAL (cQp hf h (e ω a0 a1 _ _ I L))
theorem zkp3 (s:Om→Value→Value→Value→(Value→M)→(Value→M)→M)(f:FuncId){fn:Func}(hf:Tryz.prog.funcs[f]?=some fn)(e:∀(ω:Om)(a0:Value)(a1:Value)(a2:Value)(K Pn:Value→M)(I:Imm)(L:LH),vcP Tryz.prog ω fn [a0,a1,a2] K Pn I L=s ω a0 a1 a2 K Pn I L:=by intros;kernel_rfl):∀⦃ω:Om⦄⦃a0:Value⦄⦃a1:Value⦄⦃a2:Value⦄⦃K Pn:Value→M⦄⦃I:Imm⦄⦃L:LH⦄,s ω a0 a1 a2 (λv=>Gh (K v)) (λv=>Gh (Pn v)) I L→CalP Tryz.prog ω f #[a0,a1,a2] K Pn I L:=λω a0 a1 a2 K Pn I L h=>zAL (cQp hf h (e ω a0 a1 a2 _ _ I L))
theorem zkq1 (s:Om→Value→(Value→M)→M)(f:FuncId){fn:Func}(hf:Tryz.prog.funcs[f]?=some fn)(e:∀(ω:Om)(a0:Value)(K:Value→M)(I:Imm)(L:LH),vcQ Tryz.prog ω fn [a0] K I L=s ω a0 K I L:=by intros;kernel_rfl):∀⦃ω:Om⦄⦃a0:Value⦄⦃K:Value→M⦄⦃I:Imm⦄⦃L:LH⦄,s ω a0 (λv=>Gh (K v)) I L→CT ω f #[a0] K I L:=λω a0 K I L h=>zAG (cQq hf h (e ω a0 _ I L))
abbrev Za:Array Value:=#[(Value.string (ByteArray.mk #[]))]
abbrev Zb:Array Value:=#[(.int .i64 0),(.int .i64 0),(.bool false),(.int .i64 0),(Value.string (ByteArray.mk #[])),(Value.string (ByteArray.mk #[])),(Value.string (ByteArray.mk #[])),(.int .i64 0),(.int .i64 0),(.bool false),(.slice none 0 0)]
abbrev Zc:Array Value:=#[(.int .i64 0),(Value.string (ByteArray.mk #[])),(Value.string (ByteArray.mk #[])),(.int .i64 0),(.int .i64 0),(.int .u8 0),(.slice none 0 0),(.slice none 0 0),(Value.string (ByteArray.mk #[])),(.bool false)]
abbrev Zd:Array (Nat×Nat):=#[(0,1),(1,1),(2,1),(3,1),(4,1),(5,1),(6,1),(7,1),(8,1),(9,1)]
abbrev Ze:Array Value:=#[(Value.string (ByteArray.mk #[])),(Value.string (ByteArray.mk #[]))]
abbrev Zf:Array Value:=#[(.int .i64 0),(.bool false),(.slice none 0 0),(.slice none 0 0),(.int .i64 0),(.int .i64 0),(.bool false),(.int .i64 0),(Value.string (ByteArray.mk #[])),(Value.string (ByteArray.mk #[])),(Value.string (ByteArray.mk #[])),(.int .i64 0),(.int .i64 0),(.bool false),(.slice none 0 0),(.slice none 0 0),(.int .i64 0),(.int .i64 0),(.bool false),(.int .i64 0),(Value.string (ByteArray.mk #[])),(Value.string (ByteArray.mk #[])),(Value.string (ByteArray.mk #[])),(.int .i64 0),(.int .i64 0),(.bool false),(.slice none 0 0),(.slice none 0 0),(.int .i64 0),(.int .i64 0),(Value.string (ByteArray.mk #[])),(.slice none 0 0),(.slice none 0 0),(.slice none 0 0),(.int .i64 0),(.int .i64 0),(.bool false),(.int .i64 0),(Value.string (ByteArray.mk #[])),(Value.string (ByteArray.mk #[])),(Value.string (ByteArray.mk #[])),(.int .i64 0),(.int .i64 0),(.bool false),(.slice none 0 0),(.slice none 0 0),(.slice none 0 0),(Value.string (ByteArray.mk #[])),(Value.string (ByteArray.mk #[])),(.slice none 0 0),(.bool false)]
abbrev Zg:Array Value:=#[(.int .i64 0),(.slice none 0 0),(Value.string (ByteArray.mk #[])),(.int .i64 0),(.int .i64 0),(.int .u8 0)]
abbrev Zh:Array Value:=#[(.bool false),(Value.string (ByteArray.mk #[])),(.int .i64 0),(.int .i64 0),(.bool false),(.int .i64 0),(Value.string (ByteArray.mk #[])),(Value.string (ByteArray.mk #[])),(Value.string (ByteArray.mk #[])),(.int .i64 0),(.int .i64 0),(.bool false),(.slice none 0 0),(Value.string (ByteArray.mk #[]))]
abbrev Zi:Array Value:=#[(.int .i64 0),(.int .i64 0)]
abbrev Zj:Array Value:=#[(.bool false),(Value.string (ByteArray.mk #[]))]
abbrev Zk:Array Value:=#[(.int .i64 0),(.int .i64 0),(Value.string (ByteArray.mk #[])),(.int .i64 0)]
abbrev Zl:Array Value:=#[(Value.string (ByteArray.mk #[])),(Value.string (ByteArray.mk #[])),(.bool false),(.int .i64 0),(.int .i64 0),(.bool false),(.int .i64 0),(Value.string (ByteArray.mk #[])),(Value.string (ByteArray.mk #[])),(Value.string (ByteArray.mk #[])),(.int .i64 0),(.int .i64 0),(.bool false),(.slice none 0 0)]
abbrev Zm:Array (Nat×Nat):=#[(0,1),(1,1),(2,1),(3,1),(4,1),(5,1)]
abbrev Zn:Array (Nat×Nat):=#[(0,1),(1,29),(30,1),(31,1),(32,1),(33,1),(34,11),(45,1),(46,1),(47,4)]
abbrev Zo:Array (Nat×Nat):=#[(0,1),(1,4),(5,1),(6,1),(7,1),(8,1),(9,1),(10,1)]
abbrev Zp:Array Value:=#[(.slice none 0 0),(.bool false)]
abbrev Zq:Array (Nat×Nat):=#[(0,1),(1,1),(2,1),(3,1)]
abbrev Zr:Array (Nat×Nat):=#[(0,1),(1,1),(2,11),(13,1)]
abbrev Zs:Array Value:=#[(.int .i64 0),(.bool false),(.int .i64 0),(Value.string (ByteArray.mk #[]))]
abbrev Zt:Array Value:=#[(Value.string (ByteArray.mk #[])),(.int .i64 0),(.int .i64 0),(.bool false),(.int .i64 0),(Value.string (ByteArray.mk #[])),(Value.string (ByteArray.mk #[])),(Value.string (ByteArray.mk #[])),(.int .i64 0),(.int .i64 0),(.bool false),(.slice none 0 0)]
abbrev Zu:Array Value:=#[(.int .i64 0),(.int .i64 0),(.bool false),(.int .i64 0),(Value.string (ByteArray.mk #[])),(Value.string (ByteArray.mk #[])),(Value.string (ByteArray.mk #[])),(.int .i64 0),(.int .i64 0),(.bool false),(.slice none 0 0),(.bool false)]
abbrev Zv:Array Value:=#[(.int .i64 0),(.int .i64 0),(.bool false),(.slice none 0 0),(.slice none 0 0),(.int .i64 0),(.int .i64 0),(.bool false),(.int .i64 0),(Value.string (ByteArray.mk #[])),(Value.string (ByteArray.mk #[])),(Value.string (ByteArray.mk #[])),(.int .i64 0),(.int .i64 0),(.bool false),(.slice none 0 0),(.slice none 0 0),(.int .i64 0),(.int .i64 0),(.bool false),(.int .i64 0),(Value.string (ByteArray.mk #[])),(Value.string (ByteArray.mk #[])),(Value.string (ByteArray.mk #[])),(.int .i64 0),(.int .i64 0),(.bool false),(.slice none 0 0),(.slice none 0 0),(.int .i64 0),(.int .i64 0),(Value.string (ByteArray.mk #[])),(.slice none 0 0),(.slice none 0 0),(.slice none 0 0),(.int .i64 0),(.int .i64 0),(.bool false),(.int .i64 0),(Value.string (ByteArray.mk #[])),(Value.string (ByteArray.mk #[])),(Value.string (ByteArray.mk #[])),(.int .i64 0),(.int .i64 0),(.bool false),(.slice none 0 0),(.slice none 0 0),(.slice none 0 0),(Value.string (ByteArray.mk #[])),(Value.string (ByteArray.mk #[])),(.slice none 0 0),(.bool false),(.bool false)]
abbrev Zw:Array (Nat×Nat):=#[(0,1),(1,51),(52,1)]
abbrev Zx:Array Value:=#[(Value.string (ByteArray.mk #[])),(.int .i64 0),(.bool false),(.bool false),(.bool false),(.int .i64 0),(.int .i64 0),(.bool false),(.int .i64 0),(Value.string (ByteArray.mk #[])),(Value.string (ByteArray.mk #[])),(Value.string (ByteArray.mk #[])),(.int .i64 0),(.int .i64 0),(.bool false),(.slice none 0 0)]
abbrev Zy:Array Value:=#[(.slice none 0 0),(.int .i64 230)]
abbrev Zz:Array Value:=#[(.slice none 0 0),(.int .i64 231)]
abbrev Za1:Array Value:=#[(Value.string (ByteArray.mk #[])),(.int .i64 0)]
abbrev Zb1:Array Value:=#[(.bool false),(.bool false),(.bool false),(.bool false),(.bool false),(.bool false),(.bool false),(.bool false),(.bool false),(.bool false),(.bool false),(.bool false),(.bool false),(.bool false),(.bool false),(.bool false),(.bool false),(.bool false),(.bool false),(.bool false),(.bool false),(.bool false),(.bool false),(.bool false),(.bool false),(.bool false),(.bool false),(.bool false),(.bool false),(.bool false),(.bool false),(.bool false),(.bool false),(.bool false),(.bool false),(.bool false),(.bool false),(.bool false),(.bool false),(.bool false),(.bool false),(.bool false),(.bool false),(.bool false),(.bool false),(.bool false),(.bool false),(.bool false),(.bool false),(.bool false),(.bool false),(.bool false),(.bool false),(.bool false),(.bool false),(.bool false),(.bool false),(.bool false),(.bool false),(.bool false),(.bool false),(.bool false),(.bool false),(.bool false),(.bool false),(.bool false),(.bool false),(.bool false),(.bool false),(.bool false),(.bool false),(.bool false),(.bool false),(.bool false),(.bool false),(.bool false),(.bool false),(.bool false),(.bool false),(.bool false),(.bool false),(.bool false),(.bool false),(.bool false),(.bool false),(.bool false),(.bool false),(.bool false),(.bool false),(.bool false),(.bool false),(.bool false),(.bool false),(.bool false),(.bool false),(.bool false),(.bool false),(.bool false),(.bool false),(.bool false),(.bool false),(.bool false),(.bool false),(.bool false),(.bool false),(.bool false),(.bool false),(.bool false),(.bool false),(.bool false),(.bool false),(.bool false),(.bool false),(.bool false),(.bool false),(.bool false),(.bool false),(.bool false),(.bool false),(.bool false),(.bool false),(.bool false),(.bool false),(.bool false),(.bool false),(.bool false),(.bool false),(.bool false),(.bool false),(.bool false),(.bool false),(.bool false),(.bool false),(.bool false),(.bool false),(.bool false),(.bool false),(.bool false),(.bool false),(.bool false),(.bool false),(.bool false),(.bool false),(.bool false),(.bool false),(.bool false),(.bool false),(.bool false),(.bool false),(.bool false),(.bool false),(.bool false),(.bool false),(.bool false),(.bool false),(.bool false),(.bool false),(.bool false),(.bool false),(.bool false),(.bool false),(.bool false),(.bool false),(.bool false),(.bool false),(.bool false),(.bool false),(.bool false),(.bool false),(.bool false),(.bool false),(.bool false),(.bool false),(.bool false),(.bool false),(.bool false),(.bool false),(.bool false),(.bool false),(.bool false),(.bool false),(.bool false),(.bool false),(.bool false),(.bool false),(.bool false),(.bool false),(.bool false),(.bool false),(.bool false),(.bool false),(.bool false),(.bool false),(.bool false),(.bool false),(.bool false),(.bool false),(.bool false),(.bool false),(.bool false),(.bool false),(.bool false),(.bool false),(.bool false),(.bool false),(.bool false),(.bool false),(.bool false),(.bool false),(.bool false),(.bool false),(.bool false),(.bool false),(.bool false),(.bool false),(.bool false),(.bool false),(.bool false),(.bool false),(.bool false),(.bool false),(.bool false),(.bool false),(.bool false),(.bool false),(.bool false),(.bool false),(.bool false),(.bool false),(.bool false),(.bool false),(.bool false),(.bool false),(.bool false),(.bool false),(.bool false),(.bool false),(.bool false),(.bool false),(.bool false),(.bool false),(.bool false),(.bool false),(.bool false),(.bool false),(.bool false),(.bool false),(.bool false),(.bool false),(.bool false),(.bool false),(.bool false),(.bool false),(.bool false),(.bool false),(.bool false)]
abbrev Zc1:Array Value:=#[(Value.string (ByteArray.mk #[])),(Value.string (ByteArray.mk #[])),(.slice none 0 0),(.bool false)]
abbrev Zd1:Array Value:=#[(.bool false),(.slice none 0 0),(.slice none 0 0),(.int .i64 0),(.int .i64 0),(.bool false),(.int .i64 0),(Value.string (ByteArray.mk #[])),(Value.string (ByteArray.mk #[])),(Value.string (ByteArray.mk #[])),(.int .i64 0),(.int .i64 0),(.bool false),(.slice none 0 0),(.slice none 0 0),(.int .i64 0),(.int .i64 0),(.bool false),(.int .i64 0),(Value.string (ByteArray.mk #[])),(Value.string (ByteArray.mk #[])),(Value.string (ByteArray.mk #[])),(.int .i64 0),(.int .i64 0),(.bool false),(.slice none 0 0),(.slice none 0 0),(.int .i64 0),(.int .i64 0)]
abbrev Ze1:Array Value:=#[(.pointer none),(.slice none 0 0)]
abbrev Zf1:Array Value:=#[(Value.string (ByteArray.mk #[])),(.bool false)]
abbrev Rn:(Imm→LH→Value→Prop)→(Value→M)→M:=Rv none
abbrev Rs (S:M):(Imm→LH→Value→Prop)→(Value→M)→M:=Rv (some S)
abbrev I0:Value:=.int .i64 0
abbrev S0:Value:=.slice none 0 0
abbrev N0:Value:=.pointer none
abbrev Q0:Value:=.string (ByteArray.mk #[])
abbrev Bf:Value:=.bool false
def Lf (k:Nat)(p:Value)(K:Value→M):M:=Pv (Ae k p) λa=>Rn (BF a) K
def Lg (S:M)(k:Nat)(p:Value)(K:Value→M):M:=Pv (Ae k p) λa=>Rs S (BF a) K
abbrev Bt:Value:=.bool true
def ADw (ω:Om)(p2 p4:Value)(p6 p7:Value)(Kn0:(Value×Value×Value×Unit)→M)(K:Value→M):M:=CT ω 16 #[p4]<|gh λa=>Pv (AA .eql p6 (.int .i64 6)) λb=>Gd b true (Pv (unV .not a) λa=>Br a (K Bf) (Pv (AA .add p7 (.int .i64 1)) λa=>Kn0 (p2,p6,a,()))) (Pv (AA .add p7 (.int .i64 1)) λa=>Kn0 (p2,p6,a,()))
def AJK (ω:Om)(p4 p7:Value)(x2 x6 x9:Value)(Kn0:(Value×Value×Value×Unit)→M)(Kn1:(Value×Value×Value×Unit)→M)(K:Value→M):M:=Pv (lenV x9) λa=>Pv (AA .gtr a I0) λa=>Br a (CT ω 14 #[x9]<|gh λa=>Pv (exV a 0) λb=>Pv (exV a 1) λc=>Pv (exV a 2) λa=>New (.cells Zc 49 (0,0))<|gh λd=>Sto 10 d b<|gh λ_=>Pv (AA .neq a I0) λa=>Gd a false (Pv (AA .lss c (.int .i64 1)) λa=>Br a (K Bf) (Rn (AB 10 d) λa=>CT ω 15 #[x6,a]<|gh λa=>Pv (AA .lss a I0) λb=>Br b (K Bf) (Pv (Bi 1 x9 (some c) none none) λb=>Kn1 (x2,a,b,())))) (K Bf)) (ADw ω x2 p4 x6 p7 Kn0 K)
def PD (ω:Om)(p2 p4:Value)(p6 p7 p9:Value)(Kn0:(Value×Value×Value×Unit)→M)(K:Value→M):M:=Aq ((p2,p6,p9,()):Value×Value×Value×Unit) λs Kn1=>AJK ω p4 p7 s.1 s.2.1 s.2.2.1 Kn0 Kn1 K
def AJL (ω:Om)(p2 p4:Value)(p6 p7:Value)(p8 p9:Value)(Kn0:(Value×Value×Value×Unit)→M)(K:Value→M):M:=Lf 1 p8 λa=>CT ω 11 #[p4,a]<|gh λa=>PD ω p2 p4 p6 p7 a Kn0 K
def ADv (ω:Om)(p2 p4:Value)(p6 p7:Value)(p8 p9 p44:Value)(Kn0:(Value×Value×Value×Unit)→M)(K:Value→M):M:=Pv (AA .eql p44 (.int .i64 1)) λa=>Br a (Pv (Ae 2 p8) λa=>Rn (AB 5 a) λa=>Lf 7 p8 λb=>CT ω 12 #[p4,a,b]<|gh λa=>PD ω p2 p4 p6 p7 a Kn0 K) (Pv (AA .eql p44 (.int .i64 2)) λa=>Br a (CT ω 13 #[p4]<|gh λ_=>PD ω p2 p4 p6 p7 p9 Kn0 K) (PD ω p2 p4 p6 p7 p9 Kn0 K))
def AJM (ω:Om)(p0 p4:Value)(x2 x6 x7:Value)(Kn0:(Value×Value×Value×Unit)→M)(K:Value→M):M:=Pv (lenV p0) λa=>Pv (AA .lss x7 a) λa=>Gd a true (Pv (AA .lss x7 (.int .i64 100)) λa=>Br a (Pv (ixV 8 p0 x7) λa=>Rn (AB 8 a) λa=>New (.cells #[I0,S0,S0,S0,S0,S0,Q0,I0] 44 (0,0))<|gh λb=>Sto 8 b a<|gh λ_=>Lf 0 b λa=>Pv (AA .eql a I0) λc=>Br c (AJL ω x2 p4 x6 x7 b S0 Kn0 K) (ADv ω x2 p4 x6 x7 b S0 a Kn0 K)) (K Bt)) (K Bt)
def sh4 (ω:Om)(a0:Value)(K:Value→M):M:=CT ω 7 #[]<|gh λa=>CT ω 8 #[(.int .i64 1),(.int .i64 2)]<|gh λb=>Pv (exV b 0) λc=>Pv (exV b 1) λb=>Pv (unV .not a) λa=>Gd a false (Pv (AA .neq b I0) λa=>Gd a false (Pv (Gl .eql c N0) λa=>Br a (K Bf) (Aq ((Bf,I0,I0,()):Value×Value×Value×Unit) λs a=>AJM ω a0 c s.1 s.2.1 s.2.2.1 a K)) (K Bf)) (K Bf)
variable {ω:Om}{K:Value→M}{I:Imm}{L:LH}{a0 a1 a2 a3 a4 a5 a6 a7 a8:Value}
def ASE:=zkc1 sh4 4 Tryz.func4
def sh7 (ω:Om)(K:Value→M):M:=CT ω 8 #[(.int .i64 1),(.int .i64 2)]<|gh λa=>Pv (exV a 0) λb=>Pv (exV a 1) λa=>Pv (AA .neq a I0) λa=>Gd a false (Pv (Gl .eql b N0) λa=>Br a (K Bf) (CT ω 24 #[]<|gh λa=>CT ω 11 #[b,a]<|gh λa=>CT ω 10 #[b]<|gh λb=>Pv (lenV a) λa=>Pv (AA .gtr a I0) λa=>Gd a true (Pv (AA .eql b (.int .u8 73)) λa=>K a) (K Bf))) (K Bf)
def ASD:=zkc0 sh7 7 Tryz.func7
def AJI (ω:Om)(p0 p1:Value)(p4 p5:Value)(K:Value→M):M:=Pv (AU #[I0,I0,(.int .u8 0),S0,Bf,S0,I0,I0,Bf,S0,S0,I0,I0,Bf,I0,Q0,Q0,Q0,I0,I0,Bf,S0,S0,I0,I0,Bf,I0,Q0,Q0,Q0,I0,I0,Bf,S0,S0,I0,I0,Q0,S0,S0,S0,I0,I0,Bf,I0,Q0,Q0,Q0,I0,I0,Bf,S0,S0,S0,Q0,Q0,S0,Bf,Bf,Bf,S0] #[(0,1),(1,1),(2,1),(3,1),(4,1),(5,1),(6,53),(59,1),(60,1)] [(0,p0),(1,p1)]) λa=>New (.cells (Value.cells a) 86 (0,0))<|gh λa=>K (Value.tuple #[a,I0])
def AJJ (ω:Om)(p0 p1:Value)(p10 x4:Value)(x5 x11:Value)(Kn0:(Value×Value×Value×Unit)→M)(K:Value→M):M:=Pv (AA .lss x11 (.int .i64 2)) λa=>Br a (Pv (ACG false 1 2 p10 x11) λa=>Pv (AA .lss a (.int .i64 (-2147483648))) λb=>Gd b false (Pv (AA .gtr a (.int .i64 2147483647)) λa=>Br a (K (Value.tuple #[N0,(.int .i64 1)])) (Pv (AA .add x11 (.int .i64 1)) λa=>Kn0 (x4,x5,a,()))) (K (Value.tuple #[N0,(.int .i64 1)]))) (AJI ω p0 p1 x4 x5 K)
def sh8 (ω:Om)(a0 a1:Value)(K:Value→M):M:=Pv (WV 1 Zi [(0,a0),(1,a1)]) λa=>Aq ((N0,I0,I0,()):Value×Value×Value×Unit) λs b=>AJJ ω a0 a1 a s.1 s.2.1 s.2.2.1 b K
def ASC:=zkc2 sh8 8 Tryz.func8
def AQO (ω:Om)(a0:Value)(K:Value→M):M:=Pv (Ad a0) λa=>Lf 2 a λa=>K a
def ARj:=zkc1 AQO 10 Tryz.func10
def UA (ω:Om)(p0 p4:Value)(K:Value→M):M:=CT ω 28 #[p0]<|gh λa=>K a
def AQN (ω:Om)(a0 a1:Value)(K:Value→M):M:=Pv (Ad a0) λa=>Lf 59 a λa=>Br a (K S0) (Pv (Ad a0) λa=>Lf 3 a λa=>App 5 1 1 #[(.int .u8 0)] a a1<|gh λa=>Pv (Ad a0) λb=>Pv (Ae 3 b) λb=>Sto 1 b a<|gh λ_=>Pv (Ad a0) λa=>Lf 3 a λa=>Pv (lenV a) λa=>Pv (AA .gtr a (.int .i64 2097152)) λa=>Br a (CT ω 25 #[a0,(.int .i64 231),Bt]<|gh λ_=>CT ω 26 #[a0]<|gh λ_=>UA ω a0 S0 K) (CT ω 27 #[a0]<|gh λ_=>UA ω a0 S0 K))
def ARi:=zkc2 AQN 11 Tryz.func11
def Hy (ω:Om)(p0 p6:Value)(K:Value→M):M:=CT ω 27 #[p0]<|gh λ_=>CT ω 28 #[p0]<|gh λa=>K a
def Tv (ω:Om)(p0 p2 p6:Value)(K:Value→M):M:=Pv (AA .neq p2 I0) λa=>Br a (CT ω 25 #[p0,p2,Bf]<|gh λ_=>CT ω 30 #[p0]<|gh λ_=>Hy ω p0 p6 K) (Hy ω p0 p6 K)
abbrev zS (l:List UInt8):Value:=.string ⟨l.toArray⟩
def AER (ω:Om)(p0 p6:Value)(K:Value→M):M:=Pv (Ad p0) λa=>Pv (Ae 2 a) λa=>Sto 1 a (.int .u8 73)<|gh λ_=>CT ω 31 #[p0,(zS [82,79,76,76,66,65,67,75])]<|gh λ_=>Hy ω p0 p6 K
def AQM (ω:Om)(a0 a1 a2:Value)(K:Value→M):M:=New (.cells (Value.cells a1) 42 (0,0))<|gh λa=>Pv (Ad a0) λb=>Pv (Ae 6 b) λb=>Lf 0 b λb=>Pv (AA .eql b I0) λc=>Br c (K S0) (Pv (AU Zv Zw []) λc=>Pv (Ad a0) λd=>Pv (Ae 6 d) λd=>Sto 53 d c<|gh λ_=>Pv (AA .eql b (.int .i64 1)) λc=>Br c (Pv (AA .eql a2 I0) λb=>Br b (Rn (AB 5 a) λa=>CT ω 29 #[a0,a]<|gh λa=>Tv ω a0 a S0 K) (Tv ω a0 a2 S0 K)) (Pv (AA .eql b (.int .i64 4)) λa=>Br a (Pv (Ad a0) λa=>Lf 2 a λa=>Pv (AA .eql a (.int .u8 84)) λa=>Gd a true (Pv (Ad a0) λa=>Lf 59 a λa=>Pv (unV .not a) λa=>Br a (AER ω a0 S0 K) (Hy ω a0 S0 K)) (Hy ω a0 S0 K)) (CT ω 32 #[a0,b,a2]<|gh λ_=>Hy ω a0 S0 K)))
def ARh:=zkc3 AQM 12 Tryz.func12
def AQL (ω:Om)(a0:Value)(K:Value→M):M:=Pv (Ad a0) λa=>Lf 59 a λa=>Pv (unV .not a) λa=>Br a (CT ω 26 #[a0]<|gh λ_=>K (Value.tuple #[])) (K (Value.tuple #[]))
def ARg:=zkc1 AQL 13 Tryz.func13
def AEO (ω:Om)(p2 p3 p4:Value)(K:Value→M):M:=Pv (AU Zc Zd []) λa=>Sto 10 p2 a<|gh λ_=>Rn (AB 10 p2) λa=>K (Value.tuple #[a,I0,(.int .i64 230)])
def Tu (ω:Om)(p0 p2:Value)(p3 p4:Value)(p8 p9:Value)(K:Value→M):M:=Rn (AB 10 p9) λa=>CT ω 35 #[a]<|gh λa=>Pv (exV a 0) λb=>Pv (exV a 1) λa=>Bg λS=>Pv (AA .neq a I0) λa=>Gd a false (Rs S (bsR b) λa=>Pv (AA .add (.int .i64 1) p8) λb=>Pv (Bi 1 p0 none (some b) none) λb=>Rs S (bsR b) λb=>Pv (BB .neq a b) λa=>Br a (AEO ω p2 p3 p4 K) (Rn (AB 10 p9) λa=>Pv (AA .add (.int .i64 1) p8) λb=>Sto 10 p2 a<|gh λ_=>Rn (AB 10 p2) λa=>K (Value.tuple #[a,b,I0]))) (AEO ω p2 p3 p4 K)
def AEP (ω:Om)(p0 p2:Value)(p3 p4 p5:Value)(K:Value→M):M:=Pv (ixV 1 p0 I0) λa=>Rn (BF a) λa=>Pv (AA .eql a (.int .u8 78)) λa=>Br a (Pv (AU Zc Zd [(0,(.int .i64 10))]) λa=>Sto 10 p2 a<|gh λ_=>Rn (AB 10 p2) λa=>K (Value.tuple #[a,(.int .i64 1),I0])) (Pv (unV .not p5) λa=>Br a (Pv (AU Zc Zd []) λa=>Sto 10 p2 a<|gh λ_=>Rn (AB 10 p2) λa=>K (Value.tuple #[a,I0,(.int .i64 230)])) (Pv (lenV p0) λa=>Pv (AA .lss a (.int .i64 5)) λa=>Br a (Pv (AU Zc Zd []) λa=>Sto 10 p2 a<|gh λ_=>Rn (AB 10 p2) λa=>K (Value.tuple #[a,I0,(.int .i64 10)])) (Pv (Bi 1 p0 (some (.int .i64 1)) none none) λa=>CT ω 33 #[a]<|gh λa=>Pv (AA .lss a (.int .i64 4)) λb=>Br b (Pv (AU Zc Zd []) λa=>Sto 10 p2 a<|gh λ_=>Rn (AB 10 p2) λa=>K (Value.tuple #[a,I0,(.int .i64 230)])) (Pv (AA .gtr a (.int .i64 1073741824)) λb=>Br b (Pv (AU Zc Zd []) λa=>Sto 10 p2 a<|gh λ_=>Rn (AB 10 p2) λa=>K (Value.tuple #[a,I0,(.int .i64 231)])) (Pv (lenV p0) λb=>Pv (AA .sub b (.int .i64 1)) λb=>Pv (AA .lss b a) λb=>Br b (Pv (AU Zc Zd []) λa=>Sto 10 p2 a<|gh λ_=>Rn (AB 10 p2) λa=>K (Value.tuple #[a,I0,(.int .i64 10)])) (Bg λS=>Pv (ixV 1 p0 I0) λb=>Rs S (BF b) λb=>Pv (AA .add (.int .i64 1) a) λc=>Pv (Bi 1 p0 (some (.int .i64 5)) (some c) none) λc=>(λd e=>(CT ω 34 #[b,c]<|gh λb=>New (.cells Zc 49 (0,0))<|gh<|AQ S λc=>Sto 10 c b<|gh λ_=>Tu ω p0 p2 p3 p4 a c K) d e∧(New (.cells Zc 49 (0,0))<|gh<|AQ S λd=>CT ω 34 #[b,c]<|gh λb=>Sto 10 d b<|gh λ_=>Tu ω p0 p2 p3 p4 a d K) d e)))))))
def AEQ (ω:Om)(p0 p2:Value)(p3 p4:Value)(p6 x5 x7:Value)(Kn0:(Value×Value×Unit)→M)(K:Value→M):M:=Pv (BP p6) λa=>Pv (AA .lss x7 a) λa=>Br a (Bg λS=>Gd x5 false (Pv (ixV 1 p0 I0) λa=>Rs S (BF a) λa=>Pv (Ei p6 x7) λb=>Pv (AA .eql a b) λa=>Pv (AA .add x7 (.int .i64 1)) λb=>Kn0 (a,b,())) (Pv (AA .add x7 (.int .i64 1)) λa=>Kn0 (Bt,a,()))) (AEP ω p0 p2 p3 p4 x5 K)
def AQK (ω:Om)(a0:Value)(K:Value→M):M:=New (.cells Zc 49 (0,0))<|gh λa=>Pv (lenV a0) λb=>Pv (AA .eql b I0) λb=>Br b (Pv (AU Zc Zd []) λb=>Sto 10 a b<|gh λ_=>Rn (AB 10 a) λa=>K (Value.tuple #[a,I0,(.int .i64 10)])) (Aq ((Bf,I0,()):Value×Value×Unit) λs b=>AEQ ω a0 a I0 I0 (zS [82,83,75,90,84,68,67,73,69]) s.1 s.2.1 b K)
def ARf:=zkc1 AQK 14 Tryz.func14
def AQJ (ω:Om)(a0:Value)(K:Value→M):M:=Pv (Ad a0) λa=>Lf 59 a λa=>K a
def ARe:=zkc1 AQJ 16 Tryz.func16
def AQI (ω:Om)(K:Value→M):M:=AC 5 1 #[(.int .u8 0)] 9 [(0,(.int .u8 0)),(1,(.int .u8 0)),(2,(.int .u8 0)),(3,(.int .u8 9)),(4,(.int .u8 0)),(5,(.int .u8 3)),(6,(.int .u8 0)),(7,(.int .u8 0)),(8,(.int .u8 0))]<|gh λa=>K a
def ARd:=zkc0 AQI 24 Tryz.func24
def AQH (ω:Om)(a0 a1 a2:Value)(K:Value→M):M:=CT ω 46 #[a1]<|gh λa=>CT ω 47 #[a1]<|gh λb=>Pv (AU Zc Zd [(0,(.int .i64 9)),(8,a),(2,b),(9,a2)]) λa=>AC 49 10 Zc 1 [(0,a)]<|gh λa=>CT ω 45 #[a0,a]<|gh λ_=>K (Value.tuple #[])
def ARc:=zkc3 AQH 25 Tryz.func25
def TT (ω:Om)(p0:Value)(K:Value→M):M:=Pv (Ad p0) λa=>Pv (Ae 6 a) λa=>Pv (Ae 0 a) λa=>Sto 1 a (.int .i64 4)<|gh λ_=>K (Value.tuple #[])
def AQG (ω:Om)(a0:Value)(K:Value→M):M:=Pv (Ad a0) λa=>Lf 2 a λa=>Pv (AA .eql a (.int .u8 84)) λa=>Gd a false (Pv (Ad a0) λa=>Pv (Ae 6 a) λa=>Lf 0 a λa=>Pv (AA .eql a (.int .i64 4)) λa=>Pv (AU Zv Zw []) λb=>Pv (Ad a0) λc=>Pv (Ae 59 c) λc=>Sto 1 c Bt<|gh λ_=>Pv (Ad a0) λc=>Pv (Ae 3 c) λc=>Sto 1 c S0<|gh λ_=>Pv (Ad a0) λc=>Pv (Ae 4 c) λc=>Sto 1 c Bf<|gh λ_=>Pv (Ad a0) λc=>Pv (Ae 5 c) λc=>Sto 1 c S0<|gh λ_=>Pv (Ad a0) λc=>Pv (Ae 6 c) λc=>Sto 53 c b<|gh λ_=>Br a (TT ω a0 K) (K (Value.tuple #[]))) (Pv (AU Zv Zw []) λa=>Pv (Ad a0) λb=>Pv (Ae 59 b) λb=>Sto 1 b Bt<|gh λ_=>Pv (Ad a0) λb=>Pv (Ae 3 b) λb=>Sto 1 b S0<|gh λ_=>Pv (Ad a0) λb=>Pv (Ae 4 b) λb=>Sto 1 b Bf<|gh λ_=>Pv (Ad a0) λb=>Pv (Ae 5 b) λb=>Sto 1 b S0<|gh λ_=>Pv (Ad a0) λb=>Pv (Ae 6 b) λb=>Sto 53 b a<|gh λ_=>TT ω a0 K)
def ARb:=zkc1 AQG 26 Tryz.func26
def AEJ (ω:Om)(p0:Value)(Kn0:(Unit)→M)(K:Value→M):M:=Pv (Ad p0) λa=>Lf 5 a λa=>Pv (ixV 51 a I0) λa=>Rn (AB 51 a) λa=>New (.cells Zf 76 (0,0))<|gh λb=>Sto 51 b a<|gh λ_=>Pv (Ad p0) λa=>Lf 5 a λa=>Pv (Bi 51 a (some (.int .i64 1)) none none) λa=>Pv (Ad p0) λc=>Pv (Ae 5 c) λc=>Sto 1 c a<|gh λ_=>Rn (AB 51 b) λa=>CT ω 48 #[p0,a]<|gh λ_=>Kn0 (())
def TR (ω:Om)(p0 p3:Value)(p4 p5:Value)(Kn0:(Unit)→M)(K:Value→M):M:=Pv (AA .eql p5 (.int .i64 10)) λa=>Br a (K (Value.tuple #[])) (Pv (AA .neq p5 I0) λa=>Br a (CT ω 25 #[p0,p5,Bt]<|gh λ_=>CT ω 26 #[p0]<|gh λ_=>K (Value.tuple #[])) (Pv (Ad p0) λa=>Lf 3 a λa=>Pv (Bi 1 a (some p4) none none) λa=>CT ω 50 #[a]<|gh λa=>Pv (Ad p0) λb=>Pv (Ae 3 b) λb=>Sto 1 b a<|gh λ_=>Rn (AB 6 p3) λa=>CT ω 51 #[p0,a]<|gh λ_=>Kn0 (())))
def TS (ω:Om)(p0:Value)(Kn0:(Unit)→M)(K:Value→M):M:=Pv (Ad p0) λa=>Lf 4 a λa=>Br a (Pv (Ad p0) λa=>Pv (Ae 4 a) λa=>Sto 1 a Bf<|gh λ_=>Pv (Ad p0) λa=>Lf 2 a λa=>Pv (AU Zc Zd [(0,(.int .i64 4)),(5,a)]) λa=>AC 49 10 Zc 1 [(0,a)]<|gh λa=>CT ω 45 #[p0,a]<|gh λ_=>Kn0 (())) (Bg λS=>Pv (Ad p0) λa=>Lg S 3 a λa=>Pv (Ad p0) λb=>Lg S 2 b λb=>Pv (AA .eql b (.int .u8 0)) λb=>(λc d=>(CT ω 49 #[a,b]<|gh λa=>Pv (exV a 0) λb=>Pv (exV a 1) λc=>Pv (exV a 2) λa=>New (.cells Zg 106 (0,0))<|gh<|AQ S λd=>Sto 6 d b<|gh λ_=>TR ω p0 d c a Kn0 K) c d∧(New (.cells Zg 106 (0,0))<|gh<|AQ S λc=>CT ω 49 #[a,b]<|gh λa=>Pv (exV a 0) λb=>Pv (exV a 1) λd=>Pv (exV a 2) λa=>Sto 6 c b<|gh λ_=>TR ω p0 c d a Kn0 K) c d))
def AEK (ω:Om)(p0:Value)(Kn0:(Unit)→M)(K:Value→M):M:=Pv (Ad p0) λa=>Lf 59 a λa=>Pv (unV .not a) λa=>Gd a true (Pv (Ad p0) λa=>Pv (Ae 6 a) λa=>Lf 0 a λa=>Pv (AA .eql a I0) λa=>Br a (Pv (Ad p0) λa=>Lf 4 a λa=>Gd a true (Pv (Ad p0) λa=>Lf 5 a λa=>Pv (lenV a) λa=>Pv (AA .gtr a I0) λa=>Br a (AEJ ω p0 Kn0 K) (TS ω p0 Kn0 K)) (TS ω p0 Kn0 K)) (K (Value.tuple #[]))) (K (Value.tuple #[]))
def AQF (ω:Om)(a0:Value)(K:Value→M):M:=Aq ((()):Unit) λs Kn0=>AEK ω a0 Kn0 K
def ARa:=zkc1 AQF 27 Tryz.func27
def AQE (ω:Om)(a0:Value)(K:Value→M):M:=Pv (Ad a0) λa=>Lf 60 a λa=>CT ω 52 #[a]<|gh λa=>Pv (Ad a0) λb=>Pv (Ae 60 b) λb=>Sto 1 b S0<|gh λ_=>K a
def ARZ:=zkc1 AQE 28 Tryz.func28
def AEG (ω:Om)(p5 p8 p24:Value)(Kn0:(Value×Value×Unit)→M)(K:Value→M):M:=Rn (AB 10 p8) λa=>AC 49 10 Zc 1 [(0,a)]<|gh λa=>App 49 10 136 Zc p5 a<|gh λa=>Pv (AA .add p24 (.int .i64 1)) λb=>Kn0 (a,b,())
def AEH (ω:Om)(p5 p8:Value)(p24 p29:Value)(p30 x31:Value)(Kn0:(Value×Value×Unit)→M)(Kn1:(Value×Unit)→M)(K:Value→M):M:=Pv (AA .lss x31 p30) λa=>Br a (Pv (ixV 4 p29 x31) λa=>Rn (AB 4 a) λa=>New (.cells Zs 62 (0,0))<|gh λb=>Sto 4 b a<|gh λ_=>Bg λS=>Lg S 7 p8 λa=>Rs S (AB 4 b) λb=>CT ω 53 #[b]<|gh<|AQ S λb=>AC 113 2 Zj 1 [(0,b)]<|gh<|AQ S λb=>App 113 2 24 Zj a b<|gh λa=>Pv (Ae 7 p8) λb=>Sto 1 b a<|gh λ_=>Pv (AA .add x31 (.int .i64 1)) λa=>Kn1 (a,())) (AEG ω p5 p8 p24 Kn0 K)
def AEF (ω:Om)(p0 p3:Value)(p4 p5:Value)(K:Value→M):M:=Lf 4 p3 λa=>Pv (AU Zc Zd [(0,(.int .i64 7)),(2,a)]) λa=>AC 49 10 Zc 1 [(0,a)]<|gh λa=>App 49 10 136 Zc p5 a<|gh λa=>CT ω 45 #[p0,a]<|gh λa=>K a
def AEI (ω:Om)(p0 p3:Value)(p4 p22:Value)(p23 x5 x24:Value)(Kn0:(Value×Value×Unit)→M)(K:Value→M):M:=Pv (AA .lss x24 p23) λa=>Br a (Pv (ixV 1 p22 x24) λa=>Rn (BF a) λa=>Pv (AU Zc Zd [(0,(.int .i64 6))]) λb=>New (.cells Zc 49 (0,0))<|gh λc=>Sto 10 c b<|gh λ_=>Pv (lenV a) λb=>Aq ((I0,()):Value×Unit) λs d=>AEH ω x5 c x24 a b s.1 Kn0 d K) (AEF ω p0 p3 p4 x5 K)
def AEE (ω:Om)(p0 p3:Value)(p4 p5:Value)(K:Value→M):M:=Lf 4 p3 λa=>Pv (AU Zc Zd [(0,(.int .i64 7)),(2,a)]) λa=>AC 49 10 Zc 1 [(0,a)]<|gh λa=>App 49 10 136 Zc p5 a<|gh λa=>CT ω 45 #[p0,a]<|gh λa=>K a
def AQD (ω:Om)(a0 a1:Value)(K:Value→M):M:=New (.cells (Value.cells a1) 42 (0,0))<|gh λa=>Lf 2 a λb=>Pv (lenV b) λb=>Pv (AA .gtr b I0) λb=>Br b (Lf 2 a λb=>Pv (AU Zc Zd [(0,(.int .i64 5)),(6,b)]) λb=>AC 49 10 Zc 1 [(0,b)]<|gh λb=>App 49 10 136 Zc S0 b<|gh λb=>Lf 3 a λc=>Pv (lenV c) λd=>Aq ((b,I0,()):Value×Value×Unit) λs b=>AEI ω a0 a I0 c d s.1 s.2.1 b K) (AEE ω a0 a I0 S0 K)
def ARY:=zkc2 AQD 29 Tryz.func29
def AQC (ω:Om)(a0:Value)(K:Value→M):M:=Pv (Ad a0) λa=>Pv (Ae 5 a) λa=>Sto 1 a S0<|gh λ_=>Pv (Ad a0) λa=>Lf 2 a λa=>Pv (AA .eql a (.int .u8 84)) λa=>Br a (Pv (AU Zv Zw [(0,(.int .i64 4))]) λa=>Pv (Ad a0) λb=>Pv (Ae 2 b) λb=>Sto 1 b (.int .u8 69)<|gh λ_=>Pv (Ad a0) λb=>Pv (Ae 6 b) λb=>Sto 53 b a<|gh λ_=>K (Value.tuple #[])) (K (Value.tuple #[]))
def ARX:=zkc1 AQC 30 Tryz.func30
def AQB (ω:Om)(a0 a1:Value)(K:Value→M):M:=Pv (AU Zc Zd [(0,(.int .i64 7)),(2,a1)]) λa=>AC 49 10 Zc 1 [(0,a)]<|gh λa=>CT ω 45 #[a0,a]<|gh λ_=>K (Value.tuple #[])
def ARW:=zkc2 AQB 31 Tryz.func31
def AQA (ω:Om)(a0 a1 a2:Value)(K:Value→M):M:=Pv (Ad a0) λa=>Pv (Ae 2 a) λa=>Sto 1 a (.int .u8 73)<|gh λ_=>Pv (AA .neq a2 I0) λa=>Br a (CT ω 25 #[a0,a2,Bf]<|gh λ_=>Pv (Ad a0) λa=>Pv (Ae 5 a) λa=>Sto 1 a S0<|gh λ_=>K (Value.tuple #[])) (Pv (AA .eql a1 (.int .i64 2)) λa=>Br a (Pv (Ad a0) λa=>Pv (Ae 2 a) λa=>Sto 1 a (.int .u8 84)<|gh λ_=>CT ω 31 #[a0,(zS [66,69,71,73,78])]<|gh λ_=>K (Value.tuple #[])) (CT ω 31 #[a0,(zS [67,79,77,77,73,84])]<|gh λ_=>K (Value.tuple #[])))
def ARV:=zkc3 AQA 32 Tryz.func32
def AEC (ω:Om)(p2 p3:Value)(K:Value→M):M:=Pv (AA .geq p3 (.int .i64 2147483648)) λa=>Br a (Pv (AA .sub p3 (.int .i64 4294967296)) λa=>K a) (K p3)
def AED (ω:Om)(p0 p2:Value)(x3 x4:Value)(Kn0:(Value×Value×Unit)→M)(K:Value→M):M:=Pv (AA .lss x4 (.int .i64 4)) λa=>Br a (Pv (AA .mul (.int .i64 256) x3) λa=>Pv (ixV 1 p0 x4) λb=>Rn (BF b) λb=>Pv (GG .i64 b) λb=>Pv (AA .add a b) λa=>Pv (AA .add x4 (.int .i64 1)) λb=>Kn0 (a,b,())) (AEC ω p2 x3 K)
def APz (ω:Om)(a0:Value)(K:Value→M):M:=Aq ((I0,I0,()):Value×Value×Unit) λs Kn0=>AED ω a0 I0 s.1 s.2.1 Kn0 K
def ARU:=zkc1 APz 33 Tryz.func33
def AEB (ω:Om)(p4 p7:Value)(K:Value→M):M:=Bg λS=>Pv (ixV 1 p7 I0) λa=>Rs S (BF a) λa=>Pv (ixV 1 p7 (.int .i64 1)) λb=>Rs S (BF b) λb=>Pv (AU Zc Zd [(0,(.int .i64 2)),(1,a),(2,b)]) λa=>Sto 10 p4 a<|gh λ_=>Rn (AB 10 p4) λa=>K a
def AEA (ω:Om)(p4 p7:Value)(K:Value→M):M:=Pv (ixV 1 p7 I0) λa=>Rn (BF a) λa=>Pv (AU Zc Zd [(0,(.int .i64 7)),(2,a)]) λa=>Sto 10 p4 a<|gh λ_=>Rn (AB 10 p4) λa=>K a
def ADz (ω:Om)(p4 p7:Value)(K:Value→M):M:=Bg λS=>Pv (ixV 1 p7 I0) λa=>Rs S (BF a) λa=>Pv (BB .eql a (zS [83,70,65,84,65,76])) λa=>Pv (ixV 1 p7 (.int .i64 2)) λb=>Rs S (BF b) λb=>Pv (DT b (some (.int .i64 1)) none) λb=>Pv (ixV 1 p7 (.int .i64 3)) λc=>Rs S (BF c) λc=>Pv (DT c (some (.int .i64 1)) none) λc=>Pv (AU Zc Zd [(0,(.int .i64 9)),(9,a),(8,b),(2,c)]) λa=>Sto 10 p4 a<|gh λ_=>Rn (AB 10 p4) λa=>K a
def TQ (ω:Om)(p0 p4:Value)(p7 p8:Value)(K:Value→M):M:=Pv (AA .eql p0 (.int .u8 69)) λa=>Gd a true (Gd p8 true (Pv (lenV p7) λa=>Pv (AA .eql a (.int .i64 5)) λa=>Gd a true (Pv (ixV 1 p7 (.int .i64 2)) λa=>Rn (BF a) λa=>Pv (BP a) λa=>Pv (AA .gtr a I0) λa=>Gd a true (Pv (ixV 1 p7 (.int .i64 3)) λa=>Rn (BF a) λa=>Pv (BP a) λa=>Pv (AA .gtr a I0) λa=>Br a (ADz ω p4 p7 K) (Pv (AU Zc Zd []) λa=>Sto 10 p4 a<|gh λ_=>Rn (AB 10 p4) λa=>K a)) (Pv (AU Zc Zd []) λa=>Sto 10 p4 a<|gh λ_=>Rn (AB 10 p4) λa=>K a)) (Pv (AU Zc Zd []) λa=>Sto 10 p4 a<|gh λ_=>Rn (AB 10 p4) λa=>K a)) (Pv (AU Zc Zd []) λa=>Sto 10 p4 a<|gh λ_=>Rn (AB 10 p4) λa=>K a)) (Pv (AU Zc Zd []) λa=>Sto 10 p4 a<|gh λ_=>Rn (AB 10 p4) λa=>K a)
def PG (ω:Om)(p0 p4:Value)(p7 p8:Value)(K:Value→M):M:=Pv (AA .eql p0 (.int .u8 67)) λa=>Gd a true (Gd p8 true (Pv (lenV p7) λa=>Pv (AA .eql a (.int .i64 1)) λa=>Br a (AEA ω p4 p7 K) (TQ ω p0 p4 p7 p8 K)) (TQ ω p0 p4 p7 p8 K)) (TQ ω p0 p4 p7 p8 K)
def MJ (ω:Om)(p0 p1 p4:Value)(K:Value→M):M:=CT ω 56 #[p1]<|gh λa=>Pv (exV a 0) λb=>Pv (exV a 1) λa=>Pv (AA .eql p0 (.int .u8 83)) λc=>Gd c true (Gd a true (Pv (lenV b) λc=>Pv (AA .eql c (.int .i64 2)) λc=>Br c (AEB ω p4 b K) (PG ω p0 p4 b a K)) (PG ω p0 p4 b a K)) (PG ω p0 p4 b a K)
def APy (ω:Om)(a0 a1:Value)(K:Value→M):M:=New (.cells Zc 49 (0,0))<|gh λa=>Pv (AA .eql a0 (.int .u8 82)) λb=>Br b (Pv (AU Zc Zd [(0,(.int .i64 1))]) λb=>Sto 10 a b<|gh λ_=>Rn (AB 10 a) λa=>K a) (Pv (AA .eql a0 (.int .u8 73)) λb=>Br b (Pv (AU Zc Zd [(0,(.int .i64 8))]) λb=>Sto 10 a b<|gh λ_=>Rn (AB 10 a) λa=>K a) (Pv (AA .eql a0 (.int .u8 75)) λb=>Br b (Pv (lenV a1) λb=>Pv (AA .eql b (.int .i64 8)) λb=>Br b (CT ω 33 #[a1]<|gh λb=>Pv (Bi 1 a1 (some (.int .i64 4)) none none) λc=>CT ω 33 #[c]<|gh λc=>Pv (AU Zc Zd [(0,(.int .i64 3)),(3,b),(4,c)]) λb=>Sto 10 a b<|gh λ_=>Rn (AB 10 a) λa=>K a) (MJ ω a0 a1 a K)) (Pv (AA .eql a0 (.int .u8 90)) λb=>Br b (Pv (lenV a1) λb=>Pv (AA .eql b (.int .i64 1)) λb=>Br b (Pv (ixV 1 a1 I0) λb=>Rn (BF b) λb=>Pv (AU Zc Zd [(0,(.int .i64 4)),(5,b)]) λb=>Sto 10 a b<|gh λ_=>Rn (AB 10 a) λa=>K a) (MJ ω a0 a1 a K)) (Pv (AA .eql a0 (.int .u8 84)) λb=>Br b (CT ω 54 #[a1]<|gh λb=>Sto 10 a b<|gh λ_=>Rn (AB 10 a) λa=>K a) (Pv (AA .eql a0 (.int .u8 68)) λb=>Br b (CT ω 55 #[a1]<|gh λb=>Sto 10 a b<|gh λ_=>Rn (AB 10 a) λa=>K a) (MJ ω a0 a1 a K))))))
def ART:=zkc2 APy 34 Tryz.func34
def APx (ω:Om)(a0:Value)(K:Value→M):M:=New (.cells (Value.cells a0) 49 (0,0))<|gh λa=>Lf 0 a λb=>Pv (AA .eql b (.int .i64 10)) λb=>Br b (Rn (AB 10 a) λa=>Pv (AU Zc Zd [(0,(.int .i64 10))]) λb=>CT ω 57 #[a,b]<|gh λa=>Pv (unV .not a) λa=>Br a (K (Value.tuple Zy)) (AC 5 1 #[(.int .u8 0)] 1 [(0,(.int .u8 78))]<|gh λa=>K (Value.tuple #[a,I0]))) (Rn (AB 10 a) λb=>CT ω 58 #[b]<|gh λb=>Pv (exV b 0) λc=>Pv (exV b 1) λd=>Pv (exV b 2) λe=>Pv (exV b 3) λb=>New (.cells Zc 49 (0,0))<|gh λf=>Sto 10 f c<|gh λ_=>Rn (AB 10 f) λc=>Rn (AB 10 a) λf=>CT ω 57 #[c,f]<|gh λc=>Pv (unV .not b) λb=>Gd b false (Pv (unV .not c) λb=>Br b (K (Value.tuple Zy)) (Lf 0 a λa=>Pv (AA .eql a (.int .i64 6)) λa=>Gd a true (Pv (lenV d) λa=>Pv (AA .eql a I0) λa=>Gd a false (Pv (lenV d) λa=>Pv (AA .add a (.int .i64 4)) λa=>Pv (AA .gtr a (.int .i64 1073741824)) λa=>Br a (K (Value.tuple Zz)) (AC 5 1 #[(.int .u8 0)] 1 [(0,e)]<|gh λa=>Pv (lenV d) λb=>Pv (AA .add (.int .i64 4) b) λb=>CT ω 59 #[b,(.int .i64 4)]<|gh λb=>App 5 1 1 #[(.int .u8 0)] a b<|gh λa=>App 5 1 1 #[(.int .u8 0)] a d<|gh λa=>K (Value.tuple #[a,I0]))) (K (Value.tuple Zz))) (Pv (lenV d) λa=>Pv (AA .add a (.int .i64 4)) λa=>Pv (AA .gtr a (.int .i64 1073741824)) λa=>Br a (K (Value.tuple Zz)) (AC 5 1 #[(.int .u8 0)] 1 [(0,e)]<|gh λa=>Pv (lenV d) λb=>Pv (AA .add (.int .i64 4) b) λb=>CT ω 59 #[b,(.int .i64 4)]<|gh λb=>App 5 1 1 #[(.int .u8 0)] a b<|gh λa=>App 5 1 1 #[(.int .u8 0)] a d<|gh λa=>K (Value.tuple #[a,I0]))))) (K (Value.tuple Zy)))
def ARS:=zkc1 APx 35 Tryz.func35
def ADx (ω:Om)(p0 p4 p5:Value)(K:Value→M):M:=Pv (Ad p0) λa=>Lf 60 a λa=>App 5 1 1 #[(.int .u8 0)] a p5<|gh λa=>Pv (Ad p0) λb=>Pv (Ae 60 b) λb=>Sto 1 b a<|gh λ_=>K I0
def ADy (ω:Om)(p0 p10:Value)(p11 x4:Value)(x5 x12:Value)(Kn0:(Value×Value×Value×Unit)→M)(K:Value→M):M:=Pv (AA .lss x12 p11) λa=>Br a (Pv (ixV 10 p10 x12) λa=>Rn (AB 10 a) λa=>New (.cells Zc 49 (0,0))<|gh λb=>Sto 10 b a<|gh λ_=>Rn (AB 10 b) λa=>CT ω 71 #[a]<|gh λa=>Pv (exV a 0) λb=>Pv (exV a 1) λa=>Pv (AA .neq a I0) λc=>Br c (K a) (App 5 1 1 #[(.int .u8 0)] x5 b<|gh λa=>Pv (AA .add x12 (.int .i64 1)) λb=>Kn0 (x4,a,b,()))) (ADx ω p0 x4 x5 K)
def APw (ω:Om)(a0 a1:Value)(K:Value→M):M:=Pv (lenV a1) λa=>Aq ((I0,S0,I0,()):Value×Value×Value×Unit) λs b=>ADy ω a0 a1 a s.1 s.2.1 s.2.2.1 b K
def ARR:=zkc2 APw 45 Tryz.func45
def APv (ω:Om)(a0:Value)(K:Value→M):M:=CT ω 72 #[a0]<|gh λa=>Pv (FK false 0 1 a) λa=>K a
def ARQ:=zkc1 APv 46 Tryz.func46
def APu (ω:Om)(a0:Value)(K:Value→M):M:=CT ω 72 #[a0]<|gh λa=>Pv (FK false 1 1 a) λa=>K a
def ARP:=zkc1 APu 47 Tryz.func47
def TP (ω:Om)(p0:Value)(K:Value→M):M:=Pv (Ad p0) λa=>Pv (Ae 2 a) λa=>Sto 1 a (.int .u8 73)<|gh λ_=>CT ω 31 #[p0,(zS [82,79,76,76,66,65,67,75])]<|gh λ_=>K (Value.tuple #[])
def APt (ω:Om)(a0 a1:Value)(K:Value→M):M:=New (.cells (Value.cells a1) 76 (0,0))<|gh λa=>Pv (Ad a0) λb=>Lf 2 b λb=>Pv (AA .eql b (.int .u8 69)) λb=>Br b (Lf 0 a λa=>Pv (AA .eql a (.int .i64 10)) λb=>Br b (TP ω a0 K) (Pv (AA .eql a (.int .i64 11)) λa=>Br a (TP ω a0 K) (Pv (AU Zc Zd [(0,(.int .i64 9)),(8,(zS [50,53,80,48,50])),(2,(zS [116,104,101,32,116,114,97,110,115,97,99,116,105,111,110,32,104,97,115,32,102,97,105,108,101,100]))]) λa=>AC 49 10 Zc 1 [(0,a)]<|gh λa=>CT ω 45 #[a0,a]<|gh λ_=>Pv (Ad a0) λa=>Pv (Ae 5 a) λa=>Sto 1 a S0<|gh λ_=>K (Value.tuple #[])))) (Lf 0 a λb=>Pv (AA .eql b (.int .i64 9)) λc=>Br c (CT ω 73 #[a0,(.int .i64 2),(.int .u8 73),(zS [66,69,71,73,78])]<|gh λ_=>K (Value.tuple #[])) (Pv (AA .eql b (.int .i64 10)) λc=>Br c (CT ω 73 #[a0,(.int .i64 3),(.int .u8 84),(zS [67,79,77,77,73,84])]<|gh λ_=>K (Value.tuple #[])) (Pv (AA .eql b (.int .i64 11)) λb=>Br b (CT ω 73 #[a0,(.int .i64 4),(.int .u8 84),(zS [82,79,76,76,66,65,67,75])]<|gh λ_=>K (Value.tuple #[])) (Bg λS=>Rs S (AB 51 a) λa=>Pv (Ad a0) λb=>Lg S 2 b λb=>Pv (AA .eql b (.int .u8 73)) λb=>Pv (AU Zv Zw [(0,(.int .i64 1)),(1,a),(2,b)]) λa=>Pv (Ad a0) λb=>Pv (Ae 6 b) λb=>Sto 53 b a<|gh λ_=>K (Value.tuple #[])))))
def ARO:=zkc2 APt 48 Tryz.func48
def TN (ω:Om)(p4 p5 p6:Value)(K:Value→M):M:=Pv (AU Zg Zm []) λa=>Sto 6 p4 a<|gh λ_=>Rn (AB 6 p4) λa=>K (Value.tuple #[a,I0,(.int .i64 230)])
def TM (ω:Om)(p4 p5:Value)(p6 p7:Value)(p10 p11 p13:Value)(K:Value→M):M:=Pv (AA .neq p11 I0) λa=>Br a (Pv (AU Zg Zm []) λa=>Sto 6 p4 a<|gh λ_=>Rn (AB 6 p4) λa=>K (Value.tuple #[a,I0,p11])) (Rn (AB 6 p13) λa=>Pv (AA .add p7 p10) λb=>Sto 6 p4 a<|gh λ_=>Rn (AB 6 p4) λa=>K (Value.tuple #[a,b,I0]))
def PE (ω:Om)(p0 p1:Value)(p4 p5:Value)(p6 p7:Value)(p8 p9:Value)(K:Value→M):M:=CT ω 74 #[p0,p7,p8,p9]<|gh λa=>Pv (exV a 0) λb=>Pv (exV a 1) λa=>Pv (AA .neq a I0) λc=>Br c (Pv (AU Zg Zm []) λb=>Sto 6 p4 b<|gh λ_=>Rn (AB 6 p4) λb=>K (Value.tuple #[b,I0,a])) (Pv (AA .add p7 (.int .i64 4)) λa=>Pv (AA .add p7 b) λc=>Pv (Bi 1 p0 (some a) (some c) none) λa=>CT ω 75 #[a]<|gh λc=>Pv (exV c 0) λd=>Pv (exV c 1) λc=>New (.cells Zg 106 (0,0))<|gh λe=>Sto 6 e d<|gh λ_=>Pv (unV .not p1) λd=>Br d (Pv (ixV 1 p0 I0) λc=>Rn (BF c) λc=>CT ω 76 #[c,a]<|gh λa=>Pv (exV a 0) λc=>Pv (exV a 1) λa=>Sto 6 e c<|gh λ_=>TM ω p4 p5 p6 p7 b a e K) (TM ω p4 p5 p6 p7 b c e K))
def APs (ω:Om)(a0 a1:Value)(K:Value→M):M:=New (.cells Zg 106 (0,0))<|gh λa=>Pv (unV .not a1) λb=>Br b (Pv (lenV a0) λb=>Pv (AA .gtr b I0) λb=>Gd b true (Pv (ixV 1 a0 I0) λb=>Rn (BF b) λb=>Pv (AA .eql b (.int .u8 0)) λb=>Gd b false (Pv (ixV 1 a0 I0) λb=>Rn (BF b) λb=>Pv (AA .gtr b (.int .u8 127)) λb=>Br b (TN ω a I0 I0 K) (PE ω a0 a1 a I0 I0 (.int .i64 1) (.int .i64 4) (.int .i64 1048576) K)) (TN ω a I0 I0 K)) (PE ω a0 a1 a I0 I0 (.int .i64 1) (.int .i64 4) (.int .i64 1048576) K)) (PE ω a0 a1 a I0 I0 I0 (.int .i64 8) (.int .i64 10000) K)
def ARN:=zkc2 APs 49 Tryz.func49
def APr (ω:Om)(a0:Value)(K:Value→M):M:=Pv (Hq .eql a0 S0) λa=>Br a (K S0) (AC 5 1 #[(.int .u8 0)] 0 []<|gh λa=>App 5 1 1 #[(.int .u8 0)] a a0<|gh λa=>K a)
def ARL:=zkc1 APr 50 Tryz.func50
def TK (ω:Om)(p0 p3:Value)(p5 p16:Value)(K:Value→M):M:=Br p16 (CT ω 26 #[p0]<|gh λ_=>K (Value.tuple #[])) (Pv (AA .eql p5 (.int .i64 1)) λa=>Br a (CT ω 77 #[p0]<|gh λ_=>K (Value.tuple #[])) (Pv (AA .eql p5 (.int .i64 4)) λa=>Br a (Lf 2 p3 λa=>CT ω 78 #[p0,a]<|gh λ_=>K (Value.tuple #[])) (CT ω 25 #[p0,(.int .i64 230),Bt]<|gh λ_=>CT ω 26 #[p0]<|gh λ_=>K (Value.tuple #[]))))
def APq (ω:Om)(a0 a1:Value)(K:Value→M):M:=New (.cells (Value.cells a1) 106 (0,0))<|gh λa=>Lf 0 a λb=>Pv (AA .eql b (.int .i64 2)) λc=>Br c (Pv (AU Zc Zd [(0,(.int .i64 10))]) λa=>AC 49 10 Zc 1 [(0,a)]<|gh λa=>CT ω 45 #[a0,a]<|gh λ_=>K (Value.tuple #[])) (Pv (AA .eql b (.int .i64 3)) λc=>Br c (TK ω a0 a b c K) (Pv (AA .eql b (.int .i64 5)) λc=>TK ω a0 a b c K))
def ARK:=zkc2 APq 51 Tryz.func51
def APp (ω:Om)(a0:Value)(K:Value→M):M:=Pv (lenV a0) λa=>Pv (lenV a0) λb=>Pv (Bi 1 a0 none (some a) (some b)) λa=>K a
def ARJ:=zkc1 APp 52 Tryz.func52
def APo (ω:Om)(a0:Value)(K:Value→M):M:=New (.cells (Value.cells a0) 62 (0,0))<|gh λa=>New (.cells Zj 113 (0,0))<|gh λb=>Lf 1 a λc=>Br c (Pv (AU Zj #[(0,1),(1,1)] [(0,Bt)]) λa=>Sto 2 b a<|gh λ_=>Rn (AB 2 b) λa=>K a) (Lf 0 a λc=>Pv (AA .eql c (.int .i64 1)) λc=>Br c (Lf 2 a λa=>CT ω 79 #[a,(.int .i64 10)]<|gh λa=>Pv (AU Zj #[(0,1),(1,1)] [(1,a)]) λa=>Sto 2 b a<|gh λ_=>Rn (AB 2 b) λa=>K a) (Lf 0 a λc=>Pv (AA .eql c (.int .i64 2)) λc=>Br c (Uk<|gh λc=>GR .bool c Bt (zS [116])<|gh λ_=>GR .bool c Bf (zS [102])<|gh λ_=>Lf 2 a λa=>Pv (AA .eql a (.int .i64 1)) λa=>Rn (lkR .bool Q0 false c a) λa=>Pv (AU Zj #[(0,1),(1,1)] [(1,a)]) λa=>Sto 2 b a<|gh λ_=>Rn (AB 2 b) λa=>K a) (Lf 3 a λa=>Pv (AU Zj #[(0,1),(1,1)] [(1,a)]) λa=>Sto 2 b a<|gh λ_=>Rn (AB 2 b) λa=>K a)))
def ARI:=zkc1 APo 53 Tryz.func53
def ADt (ω:Om)(p2:Value)(K:Value→M):M:=Pv (AU Zc Zd []) λa=>Sto 10 p2 a<|gh λ_=>Rn (AB 10 p2) λa=>K a
def Oz (ω:Om)(p0 p3:Value)(p4 p5 p6:Value)(Kn0:(Value×Unit)→M)(K:Value→M):M:=Bg λS=>Lg S 6 p3 λa=>Pv (Bi 1 p0 (some p4) (some p5) none) λb=>Rs S (bsR b) λb=>Pv (AU Za1 #[(0,1),(1,1)] [(0,b),(1,p6)]) λb=>AC 144 2 Za1 1 [(0,b)]<|gh<|AQ S λb=>App 144 2 24 Za1 a b<|gh λa=>Pv (Ae 6 p3) λb=>Sto 1 b a<|gh λ_=>Pv (AA .add p5 (.int .i64 19)) λa=>Kn0 (a,())
def Xh (ω:Om)(p0 p3:Value)(p4 p5:Value)(p6 p29:Value)(Kn0:(Value×Unit)→M)(K:Value→M):M:=Pv (AA .eql p29 (.int .i64 25)) λa=>Br a (Oz ω p0 p3 p4 p5 (.int .i64 3) Kn0 K) (Oz ω p0 p3 p4 p5 p6 Kn0 K)
def ADs (ω:Om)(p2 p3:Value)(K:Value→M):M:=Rn (AB 10 p3) λa=>Sto 10 p2 a<|gh λ_=>Rn (AB 10 p2) λa=>K a
def ADu (ω:Om)(p0 p2:Value)(p3 x4:Value)(Kn0:(Value×Unit)→M)(K:Value→M):M:=Pv (lenV p0) λa=>Pv (AA .lss x4 a) λa=>Br a (CT ω 80 #[p0,x4]<|gh λa=>Pv (AA .lss a I0) λb=>Gd b false (Pv (lenV p0) λb=>Pv (AA .sub b a) λb=>Pv (AA .lss b (.int .i64 19)) λb=>Br b (ADt ω p2 K) (Pv (AA .add a (.int .i64 7)) λb=>Pv (Bi 1 p0 (some b) none none) λb=>CT ω 33 #[b]<|gh λb=>Pv (AA .eql b (.int .i64 16)) λc=>Br c (Oz ω p0 p3 x4 a (.int .i64 2) Kn0 K) (Xh ω p0 p3 x4 a (.int .i64 1) b Kn0 K))) (ADt ω p2 K)) (ADs ω p2 p3 K)
def APn (ω:Om)(a0:Value)(K:Value→M):M:=New (.cells Zc 49 (0,0))<|gh λa=>Pv (AU Zc Zd [(0,(.int .i64 5))]) λb=>New (.cells Zc 49 (0,0))<|gh λc=>Sto 10 c b<|gh λ_=>Aq (((.int .i64 2),()):Value×Unit) λs b=>ADu ω a0 a c s.1 b K
def ARH:=zkc1 APn 54 Tryz.func54
def ADq (ω:Om)(p2 p3:Value)(K:Value→M):M:=Rn (AB 10 p3) λa=>Sto 10 p2 a<|gh λ_=>Rn (AB 10 p2) λa=>K a
def ADr (ω:Om)(p0 p2:Value)(p3 x4:Value)(Kn0:(Value×Unit)→M)(K:Value→M):M:=Pv (lenV p0) λa=>Pv (AA .lss x4 a) λa=>Br a (Pv (lenV p0) λa=>Pv (AA .sub a x4) λa=>Pv (AA .lss a (.int .i64 4)) λa=>Br a (Pv (AU Zc Zd []) λa=>Sto 10 p2 a<|gh λ_=>Rn (AB 10 p2) λa=>K a) (Pv (Bi 1 p0 (some x4) none none) λa=>CT ω 33 #[a]<|gh λa=>Pv (AA .add x4 (.int .i64 4)) λb=>Pv (AA .lss a I0) λc=>Br c (Lf 7 p3 λa=>Pv (AU Zj #[(0,1),(1,1)] [(0,Bt)]) λc=>AC 113 2 Zj 1 [(0,c)]<|gh λc=>App 113 2 24 Zj a c<|gh λa=>Pv (Ae 7 p3) λc=>Sto 1 c a<|gh λ_=>Kn0 (b,())) (Pv (lenV p0) λc=>Pv (AA .sub c b) λc=>Pv (AA .lss c a) λc=>Br c (Pv (AU Zc Zd []) λa=>Sto 10 p2 a<|gh λ_=>Rn (AB 10 p2) λa=>K a) (Bg λS=>Lg S 7 p3 λc=>Pv (AA .add b a) λd=>Pv (Bi 1 p0 (some b) (some d) none) λd=>Rs S (bsR d) λd=>Pv (AU Zj #[(0,1),(1,1)] [(1,d)]) λd=>AC 113 2 Zj 1 [(0,d)]<|gh<|AQ S λd=>App 113 2 24 Zj c d<|gh λc=>Pv (Ae 7 p3) λd=>Sto 1 d c<|gh λ_=>Pv (AA .add b a) λa=>Kn0 (a,()))))) (ADq ω p2 p3 K)
def APm (ω:Om)(a0:Value)(K:Value→M):M:=New (.cells Zc 49 (0,0))<|gh λa=>Pv (AU Zc Zd [(0,(.int .i64 6))]) λb=>New (.cells Zc 49 (0,0))<|gh λc=>Sto 10 c b<|gh λ_=>Aq (((.int .i64 2),()):Value×Unit) λs b=>ADr ω a0 a c s.1 b K
def ARF:=zkc1 APm 55 Tryz.func55
def ADp (ω:Om)(p0 x2:Value)(x3 x4 x5:Value)(Kn0:(Value×Value×Value×Value×Unit)→M)(K:Value→M):M:=Pv (lenV p0) λa=>Pv (AA .lss x5 a) λa=>Br a (CT ω 80 #[p0,x5]<|gh λa=>Pv (AA .lss a I0) λb=>Br b (K (Value.tuple Zp)) (Pv (Bi 1 p0 (some x5) (some a) none) λb=>Rn (bsR b) λb=>AC 9 1 Za 1 [(0,b)]<|gh λb=>App 9 1 16 Za x4 b<|gh λb=>Pv (AA .add a (.int .i64 1)) λa=>Kn0 (x2,x3,b,a,()))) (K (Value.tuple #[x4,Bt]))
def APl (ω:Om)(a0:Value)(K:Value→M):M:=Aq ((S0,Bf,S0,I0,()):Value×Value×Value×Value×Unit) λs Kn0=>ADp ω a0 s.1 s.2.1 s.2.2.1 s.2.2.2.1 Kn0 K
def ARD:=zkc1 APl 56 Tryz.func56
def ADm (ω:Om)(p2 p3:Value)(x4 x6:Value)(Kn1:(Value×Value×Unit)→M)(K:Value→M):M:=Lf 7 p2 λa=>Pv (lenV a) λa=>Pv (AA .lss x6 a) λa=>Br a (Bg λS=>Lg S 7 p2 λa=>Pv (ixV 2 a x6) λa=>Rs S (AB 2 a) λa=>Lg S 7 p3 λb=>Pv (ixV 2 b x6) λb=>Rs S (AB 2 b) λb=>Pv (Gm .neq [(TypeDesc.bool,0),(TypeDesc.string,1)] a b) λa=>Br a (K Bf) (Pv (AA .add x6 (.int .i64 1)) λa=>Kn1 (x4,a,()))) (K Bt)
def ADn (ω:Om)(p2 p3 p4:Value)(K:Value→M):M:=Aq ((p4,I0,()):Value×Value×Unit) λs Kn1=>ADm ω p2 p3 s.1 s.2.1 Kn1 K
def ADo (ω:Om)(p2 p3:Value)(x4 x5:Value)(Kn0:(Value×Value×Unit)→M)(K:Value→M):M:=Lf 6 p2 λa=>Pv (lenV a) λa=>Pv (AA .lss x5 a) λa=>Br a (Bg λS=>Lg S 6 p2 λa=>Pv (ixV 2 a x5) λa=>Rs S (AB 2 a) λa=>Lg S 6 p3 λb=>Pv (ixV 2 b x5) λb=>Rs S (AB 2 b) λb=>Pv (Gm .neq [(TypeDesc.string,0),(TypeDesc.int .i64,1)] a b) λa=>Br a (K Bf) (Pv (AA .add x5 (.int .i64 1)) λa=>Kn0 (x4,a,()))) (ADn ω p2 p3 x4 K)
def APk (ω:Om)(a0 a1:Value)(K:Value→M):M:=New (.cells (Value.cells a0) 49 (0,0))<|gh λa=>New (.cells (Value.cells a1) 49 (0,0))<|gh λb=>Lf 0 a λc=>Lf 0 b λd=>Pv (AA .neq c d) λc=>Gd c false (Lf 1 a λc=>Lf 1 b λd=>Pv (BB .neq c d) λc=>Gd c false (Lf 2 a λc=>Lf 2 b λd=>Pv (BB .neq c d) λc=>Gd c false (Lf 3 a λc=>Lf 3 b λd=>Pv (AA .neq c d) λc=>Gd c false (Lf 4 a λc=>Lf 4 b λd=>Pv (AA .neq c d) λc=>Gd c false (Lf 5 a λc=>Lf 5 b λd=>Pv (AA .neq c d) λc=>Gd c false (Lf 8 a λc=>Lf 8 b λd=>Pv (BB .neq c d) λc=>Gd c false (Lf 9 a λc=>Lf 9 b λd=>Pv (Jp .neq c d) λc=>Gd c false (Lf 6 a λc=>Pv (lenV c) λc=>Lf 6 b λd=>Pv (lenV d) λd=>Pv (AA .neq c d) λc=>Gd c false (Lf 7 a λc=>Pv (lenV c) λc=>Lf 7 b λd=>Pv (lenV d) λd=>Pv (AA .neq c d) λc=>Br c (K Bf) (Aq ((Bf,I0,()):Value×Value×Unit) λs c=>ADo ω a b s.1 s.2.1 c K)) (K Bf)) (K Bf)) (K Bf)) (K Bf)) (K Bf)) (K Bf)) (K Bf)) (K Bf)) (K Bf)
def ARC:=zkc2 APk 57 Tryz.func57
def FD (ω:Om)(p2 p3:Value)(p4 p5:Value)(K:Value→M):M:=Rn (AB 10 p2) λa=>K (Value.tuple #[a,p3,p4,p5])
def APj (ω:Om)(a0:Value)(K:Value→M):M:=New (.cells (Value.cells a0) 49 (0,0))<|gh λa=>New (.cells Zc 49 (0,0))<|gh λb=>Lf 0 a λc=>Pv (AU Zc Zd [(0,c)]) λc=>New (.cells Zc 49 (0,0))<|gh λd=>Sto 10 d c<|gh λ_=>Lf 0 a λc=>Pv (AA .eql c (.int .i64 1)) λe=>Br e (Bg λS=>Rs S (AB 10 d) λa=>CT ω 59 #[I0,(.int .i64 4)]<|gh<|AQ S λc=>Sto 10 b a<|gh λ_=>Rn (AB 10 b) λa=>K (Value.tuple #[a,c,(.int .u8 82),Bt])) (Pv (AA .eql c (.int .i64 2)) λe=>Br e (Lf 1 a λc=>Pv (Ae 1 d) λe=>Sto 1 e c<|gh λ_=>Lf 2 a λc=>Pv (Ae 2 d) λe=>Sto 1 e c<|gh λ_=>Lf 1 a λc=>CT ω 81 #[c]<|gh λc=>Lf 2 a λe=>CT ω 81 #[e]<|gh λe=>Bg λS=>Rs S (AB 10 d) λd=>Lg S 1 a λf=>CT ω 82 #[S0,f]<|gh<|AQ S λf=>Lg S 2 a λa=>CT ω 82 #[f,a]<|gh<|AQ S λa=>Pv (unV .not c) λc=>Gd c true (Pv (unV .not e) λc=>Sto 10 b d<|gh λ_=>Rn (AB 10 b) λb=>K (Value.tuple #[b,a,(.int .u8 83),c])) (Sto 10 b d<|gh λ_=>Rn (AB 10 b) λb=>K (Value.tuple #[b,a,(.int .u8 83),Bf]))) (Pv (AA .eql c (.int .i64 3)) λe=>Br e (Lf 3 a λc=>Pv (Ae 3 d) λe=>Sto 1 e c<|gh λ_=>Lf 4 a λc=>Pv (Ae 4 d) λe=>Sto 1 e c<|gh λ_=>Lf 3 a λc=>CT ω 83 #[c]<|gh λc=>Lf 4 a λe=>CT ω 83 #[e]<|gh λe=>Bg λS=>Rs S (AB 10 d) λd=>Lg S 3 a λf=>CT ω 59 #[f,(.int .i64 4)]<|gh<|AQ S λf=>Lg S 4 a λa=>CT ω 59 #[a,(.int .i64 4)]<|gh<|AQ S λa=>App 5 1 1 #[(.int .u8 0)] f a<|gh<|AQ S λa=>Gd c true (Sto 10 b d<|gh λ_=>Rn (AB 10 b) λb=>K (Value.tuple #[b,a,(.int .u8 75),e])) (Sto 10 b d<|gh λ_=>Rn (AB 10 b) λb=>K (Value.tuple #[b,a,(.int .u8 75),Bf]))) (Pv (AA .eql c (.int .i64 4)) λe=>Br e (Lf 5 a λc=>Pv (Ae 5 d) λe=>Sto 1 e c<|gh λ_=>Qi [b] λS=>Rs S (AB 10 d) λc=>Lg S 5 a λd=>Lg S 5 a λe=>Pv (AA .eql e (.int .u8 73)) λe=>Gd e false (Lg S 5 a λe=>Pv (AA .eql e (.int .u8 84)) λe=>Gd e false (Lg S 5 a λa=>Pv (AA .eql a (.int .u8 69)) λa=>(λe f=>(AC 5 1 #[(.int .u8 0)] 1 [(0,d)]<|gh<|AQ S λd=>Sto 10 b c<|gh<|AQ S λ_=>FD ω b d (.int .u8 90) a K) e f∧(Sto 10 b c<|gh<|AQ S λ_=>AC 5 1 #[(.int .u8 0)] 1 [(0,d)]<|gh<|AQ S λc=>FD ω b c (.int .u8 90) a K) e f)) ((λa e=>(AC 5 1 #[(.int .u8 0)] 1 [(0,d)]<|gh<|AQ S λa=>Sto 10 b c<|gh<|AQ S λ_=>FD ω b a (.int .u8 90) Bt K) a e∧(Sto 10 b c<|gh<|AQ S λ_=>AC 5 1 #[(.int .u8 0)] 1 [(0,d)]<|gh<|AQ S λa=>FD ω b a (.int .u8 90) Bt K) a e))) ((λa e=>(AC 5 1 #[(.int .u8 0)] 1 [(0,d)]<|gh<|AQ S λa=>Sto 10 b c<|gh<|AQ S λ_=>FD ω b a (.int .u8 90) Bt K) a e∧(Sto 10 b c<|gh<|AQ S λ_=>AC 5 1 #[(.int .u8 0)] 1 [(0,d)]<|gh<|AQ S λa=>FD ω b a (.int .u8 90) Bt K) a e))) (Pv (AA .eql c (.int .i64 5)) λe=>Br e (Lf 6 a λc=>Pv (Ae 6 d) λe=>Sto 1 e c<|gh λ_=>Lf 6 a λa=>CT ω 84 #[a]<|gh λa=>Pv (exV a 0) λc=>Pv (exV a 1) λa=>Rn (AB 10 d) λd=>Sto 10 b d<|gh λ_=>Rn (AB 10 b) λb=>K (Value.tuple #[b,c,(.int .u8 84),a])) (Pv (AA .eql c (.int .i64 6)) λe=>Br e (Lf 7 a λc=>Pv (Ae 7 d) λe=>Sto 1 e c<|gh λ_=>Lf 7 a λa=>CT ω 85 #[a]<|gh λa=>Pv (exV a 0) λc=>Pv (exV a 1) λa=>Rn (AB 10 d) λd=>Sto 10 b d<|gh λ_=>Rn (AB 10 b) λb=>K (Value.tuple #[b,c,(.int .u8 68),a])) (Pv (AA .eql c (.int .i64 7)) λe=>Br e (Lf 2 a λc=>Pv (Ae 2 d) λe=>Sto 1 e c<|gh λ_=>Lf 2 a λc=>CT ω 81 #[c]<|gh λc=>Bg λS=>Rs S (AB 10 d) λd=>Lg S 2 a λa=>CT ω 82 #[S0,a]<|gh<|AQ S λa=>Pv (unV .not c) λc=>Sto 10 b d<|gh λ_=>Rn (AB 10 b) λb=>K (Value.tuple #[b,a,(.int .u8 67),c])) (Pv (AA .eql c (.int .i64 8)) λe=>Br e (Rn (AB 10 d) λa=>Sto 10 b a<|gh λ_=>Rn (AB 10 b) λa=>K (Value.tuple #[a,S0,(.int .u8 73),Bt])) (Pv (AA .eql c (.int .i64 9)) λc=>Br c (Lf 8 a λc=>Pv (Ae 8 d) λe=>Sto 1 e c<|gh λ_=>Lf 2 a λc=>Pv (Ae 2 d) λe=>Sto 1 e c<|gh λ_=>Lf 9 a λc=>Pv (Ae 9 d) λe=>Sto 1 e c<|gh λ_=>Rn (AB 10 a) λa=>CT ω 86 #[a]<|gh λa=>Pv (exV a 0) λc=>Pv (exV a 1) λa=>Rn (AB 10 d) λd=>Sto 10 b d<|gh λ_=>Rn (AB 10 b) λb=>K (Value.tuple #[b,c,(.int .u8 69),a])) (Rn (AB 10 d) λa=>Sto 10 b a<|gh λ_=>Rn (AB 10 b) λa=>K (Value.tuple #[a,S0,(.int .u8 0),Bf]))))))))))
def ARB:=zkc1 APj 58 Tryz.func58
def ADl (ω:Om)(p4 p5:Value)(x0 x6:Value)(Kn0:(Value×Value×Unit)→M)(K:Value→M):M:=Pv (AA .geq x6 I0) λa=>Br a (Pv (GG .u8 x0) λa=>Pv (ixV 1 p5 x6) λb=>Sto 1 b a<|gh λ_=>Pv (AA .shr x0 (.int .u64 8)) λa=>Pv (AA .sub x6 (.int .i64 1)) λb=>Kn0 (a,b,())) (K p5)
def APi (ω:Om)(a0 a1:Value)(K:Value→M):M:=MkS 5 1 #[(.int .u8 0)] a1 a1<|gh λa=>Pv (AA .sub a1 (.int .i64 1)) λb=>Aq ((a0,b,()):Value×Value×Unit) λs b=>ADl ω S0 a s.1 s.2.1 b K
def ARA:=zkc2 APi 59 Tryz.func59
def ADk (ω:Om)(p1 p2:Value)(p3 p5 p7:Value)(K:Value→M):M:=Lf 0 p1 λa=>Pv (AA .eql a (.int .i64 10)) λa=>Br a (AC 5 1 #[(.int .u8 0)] 1 [(0,(.int .u8 78))]<|gh λa=>K (Value.tuple #[a,I0])) (Pv (lenV p5) λa=>Pv (AFb p7 a) λa=>Pv (AA .add a (.int .i64 4)) λa=>Pv (AA .gtr a (.int .i64 1073741824)) λa=>Br a (K (Value.tuple Zz)) (Lf 0 p1 λa=>CT ω 100 #[a]<|gh λa=>AC 5 1 #[(.int .u8 0)] 1 [(0,a)]<|gh λa=>Pv (lenV p5) λb=>Pv (AA .add b (.int .i64 4)) λb=>CT ω 91 #[a,b,(.int .i64 4)]<|gh λa=>AC 22 1 #[S0] 2 [(0,a),(1,p5)]<|gh λa=>CT ω 99 #[a]<|gh λa=>K (Value.tuple #[a,I0])))
def AZ (ω:Om)(p1 p2:Value)(p3 p4:Value)(p5 p6 p7:Value)(K:Value→M):M:=Pv (unV .not p6) λa=>Gd a false (Rn (AB 10 p4) λa=>Rn (AB 10 p1) λb=>CT ω 98 #[a,b]<|gh λa=>Pv (unV .not a) λa=>Br a (K (Value.tuple Zy)) (ADk ω p1 p2 p3 p5 p7 K)) (K (Value.tuple Zy))
def TJ (ω:Om)(p1 p2:Value)(p3 p4:Value)(p5 p6 p7:Value)(K:Value→M):M:=Lf 2 p1 λa=>Pv (Ae 2 p4) λb=>Sto 1 b a<|gh λ_=>Bg λS=>Lg S 1 p1 λa=>Lg S 2 p1 λb=>Lg S 2 p1 λc=>(λd e=>(AC 9 1 Za 2 [(0,a),(1,b)]<|gh<|AQ S λa=>(λb d=>(CT ω 96 #[a]<|gh<|AQ S λa=>AC 9 1 Za 1 [(0,c)]<|gh<|AQ S λb=>CT ω 95 #[p5,b]<|gh λb=>AZ ω p1 p2 p3 p4 b a p7 K) b d∧(AC 9 1 Za 1 [(0,c)]<|gh<|AQ S λb=>CT ω 96 #[a]<|gh<|AQ S λa=>CT ω 95 #[p5,b]<|gh λb=>AZ ω p1 p2 p3 p4 b a p7 K) b d)) d e∧(AC 9 1 Za 1 [(0,c)]<|gh<|AQ S λc=>AC 9 1 Za 2 [(0,a),(1,b)]<|gh<|AQ S λa=>CT ω 96 #[a]<|gh<|AQ S λa=>CT ω 95 #[p5,c]<|gh λb=>AZ ω p1 p2 p3 p4 b a p7 K) d e)
def TI (ω:Om)(p1 p2:Value)(p3 p4:Value)(p5 p6:Value)(p7 p8:Value)(K:Value→M):M:=Bg λS=>Lg S 8 p1 λa=>Pv (BB .add (zS [83]) p8) λb=>Pv (BB .add (zS [86]) p8) λc=>Lg S 8 p1 λd=>Pv (BB .add (zS [67]) d) λd=>Lg S 2 p1 λe=>Pv (BB .add (zS [77]) e) λe=>(λf g=>(CT ω 97 #[a]<|gh<|AQ S λa=>Gd a true (Pv (Ae 2 p1) λa=>(λf g=>(Rn (BF a)<|AQ S λa=>(λf g=>(AC 9 1 Za 1 [(0,a)]<|gh<|AQ S λa=>(λf g=>(CT ω 96 #[a]<|gh<|AQ S λa=>(λf g=>(AC 9 1 Za 4 [(0,b),(1,c),(2,d),(3,e)]<|gh<|AQ S λb=>(λc d=>(CT ω 95 #[S0,b]<|gh λb=>AC 5 1 #[(.int .u8 0)] 1 [(0,(.int .u8 0))]<|gh<|AQ S λc=>App 5 1 1 #[(.int .u8 0)] b c<|gh λb=>AZ ω p1 p2 p3 p4 b a p7 K) c d∧(AC 5 1 #[(.int .u8 0)] 1 [(0,(.int .u8 0))]<|gh<|AQ S λc=>CT ω 95 #[S0,b]<|gh λb=>App 5 1 1 #[(.int .u8 0)] b c<|gh λb=>AZ ω p1 p2 p3 p4 b a p7 K) c d)) f g∧(AC 5 1 #[(.int .u8 0)] 1 [(0,(.int .u8 0))]<|gh<|AQ S λf=>AC 9 1 Za 4 [(0,b),(1,c),(2,d),(3,e)]<|gh<|AQ S λb=>CT ω 95 #[S0,b]<|gh λb=>App 5 1 1 #[(.int .u8 0)] b f<|gh λb=>AZ ω p1 p2 p3 p4 b a p7 K) f g)) f g∧(λf g=>(AC 9 1 Za 4 [(0,b),(1,c),(2,d),(3,e)]<|gh<|AQ S λb=>(λc d=>(CT ω 96 #[a]<|gh<|AQ S λa=>(λc d=>(CT ω 95 #[S0,b]<|gh λb=>AC 5 1 #[(.int .u8 0)] 1 [(0,(.int .u8 0))]<|gh<|AQ S λc=>App 5 1 1 #[(.int .u8 0)] b c<|gh λb=>AZ ω p1 p2 p3 p4 b a p7 K) c d∧(AC 5 1 #[(.int .u8 0)] 1 [(0,(.int .u8 0))]<|gh<|AQ S λc=>CT ω 95 #[S0,b]<|gh λb=>App 5 1 1 #[(.int .u8 0)] b c<|gh λb=>AZ ω p1 p2 p3 p4 b a p7 K) c d)) c d∧(AC 5 1 #[(.int .u8 0)] 1 [(0,(.int .u8 0))]<|gh<|AQ S λc=>CT ω 96 #[a]<|gh<|AQ S λa=>CT ω 95 #[S0,b]<|gh λb=>App 5 1 1 #[(.int .u8 0)] b c<|gh λb=>AZ ω p1 p2 p3 p4 b a p7 K) c d)) f g∧(AC 5 1 #[(.int .u8 0)] 1 [(0,(.int .u8 0))]<|gh<|AQ S λh=>(λf g=>(CT ω 96 #[a]<|gh<|AQ S λa=>AC 9 1 Za 4 [(0,b),(1,c),(2,d),(3,e)]<|gh<|AQ S λb=>CT ω 95 #[S0,b]<|gh λb=>App 5 1 1 #[(.int .u8 0)] b h<|gh λb=>AZ ω p1 p2 p3 p4 b a p7 K) f g∧(AC 9 1 Za 4 [(0,b),(1,c),(2,d),(3,e)]<|gh<|AQ S λb=>CT ω 96 #[a]<|gh<|AQ S λa=>CT ω 95 #[S0,b]<|gh λb=>App 5 1 1 #[(.int .u8 0)] b h<|gh λb=>AZ ω p1 p2 p3 p4 b a p7 K) f g)) f g) f g)) f g∧(λf g=>(AC 9 1 Za 4 [(0,b),(1,c),(2,d),(3,e)]<|gh<|AQ S λb=>(λc d=>(AC 9 1 Za 1 [(0,a)]<|gh<|AQ S λa=>(λc d=>(CT ω 96 #[a]<|gh<|AQ S λa=>(λc d=>(CT ω 95 #[S0,b]<|gh λb=>AC 5 1 #[(.int .u8 0)] 1 [(0,(.int .u8 0))]<|gh<|AQ S λc=>App 5 1 1 #[(.int .u8 0)] b c<|gh λb=>AZ ω p1 p2 p3 p4 b a p7 K) c d∧(AC 5 1 #[(.int .u8 0)] 1 [(0,(.int .u8 0))]<|gh<|AQ S λc=>CT ω 95 #[S0,b]<|gh λb=>App 5 1 1 #[(.int .u8 0)] b c<|gh λb=>AZ ω p1 p2 p3 p4 b a p7 K) c d)) c d∧(AC 5 1 #[(.int .u8 0)] 1 [(0,(.int .u8 0))]<|gh<|AQ S λc=>CT ω 96 #[a]<|gh<|AQ S λa=>CT ω 95 #[S0,b]<|gh λb=>App 5 1 1 #[(.int .u8 0)] b c<|gh λb=>AZ ω p1 p2 p3 p4 b a p7 K) c d)) c d∧(AC 5 1 #[(.int .u8 0)] 1 [(0,(.int .u8 0))]<|gh<|AQ S λc=>AC 9 1 Za 1 [(0,a)]<|gh<|AQ S λa=>CT ω 96 #[a]<|gh<|AQ S λa=>CT ω 95 #[S0,b]<|gh λb=>App 5 1 1 #[(.int .u8 0)] b c<|gh λb=>AZ ω p1 p2 p3 p4 b a p7 K) c d)) f g∧(AC 5 1 #[(.int .u8 0)] 1 [(0,(.int .u8 0))]<|gh<|AQ S λh=>(λf g=>(AC 9 1 Za 1 [(0,a)]<|gh<|AQ S λa=>(λf g=>(CT ω 96 #[a]<|gh<|AQ S λa=>AC 9 1 Za 4 [(0,b),(1,c),(2,d),(3,e)]<|gh<|AQ S λb=>CT ω 95 #[S0,b]<|gh λb=>App 5 1 1 #[(.int .u8 0)] b h<|gh λb=>AZ ω p1 p2 p3 p4 b a p7 K) f g∧(AC 9 1 Za 4 [(0,b),(1,c),(2,d),(3,e)]<|gh<|AQ S λb=>CT ω 96 #[a]<|gh<|AQ S λa=>CT ω 95 #[S0,b]<|gh λb=>App 5 1 1 #[(.int .u8 0)] b h<|gh λb=>AZ ω p1 p2 p3 p4 b a p7 K) f g)) f g∧(AC 9 1 Za 4 [(0,b),(1,c),(2,d),(3,e)]<|gh<|AQ S λb=>AC 9 1 Za 1 [(0,a)]<|gh<|AQ S λa=>CT ω 96 #[a]<|gh<|AQ S λa=>CT ω 95 #[S0,b]<|gh λb=>App 5 1 1 #[(.int .u8 0)] b h<|gh λb=>AZ ω p1 p2 p3 p4 b a p7 K) f g)) f g) f g)) f g∧(λf g=>(AC 9 1 Za 4 [(0,b),(1,c),(2,d),(3,e)]<|gh<|AQ S λb=>(λc d=>(Rn (BF a)<|AQ S λa=>(λc d=>(AC 9 1 Za 1 [(0,a)]<|gh<|AQ S λa=>(λc d=>(CT ω 96 #[a]<|gh<|AQ S λa=>(λc d=>(CT ω 95 #[S0,b]<|gh λb=>AC 5 1 #[(.int .u8 0)] 1 [(0,(.int .u8 0))]<|gh<|AQ S λc=>App 5 1 1 #[(.int .u8 0)] b c<|gh λb=>AZ ω p1 p2 p3 p4 b a p7 K) c d∧(AC 5 1 #[(.int .u8 0)] 1 [(0,(.int .u8 0))]<|gh<|AQ S λc=>CT ω 95 #[S0,b]<|gh λb=>App 5 1 1 #[(.int .u8 0)] b c<|gh λb=>AZ ω p1 p2 p3 p4 b a p7 K) c d)) c d∧(AC 5 1 #[(.int .u8 0)] 1 [(0,(.int .u8 0))]<|gh<|AQ S λc=>CT ω 96 #[a]<|gh<|AQ S λa=>CT ω 95 #[S0,b]<|gh λb=>App 5 1 1 #[(.int .u8 0)] b c<|gh λb=>AZ ω p1 p2 p3 p4 b a p7 K) c d)) c d∧(AC 5 1 #[(.int .u8 0)] 1 [(0,(.int .u8 0))]<|gh<|AQ S λc=>AC 9 1 Za 1 [(0,a)]<|gh<|AQ S λa=>CT ω 96 #[a]<|gh<|AQ S λa=>CT ω 95 #[S0,b]<|gh λb=>App 5 1 1 #[(.int .u8 0)] b c<|gh λb=>AZ ω p1 p2 p3 p4 b a p7 K) c d)) c d∧(AC 5 1 #[(.int .u8 0)] 1 [(0,(.int .u8 0))]<|gh<|AQ S λc=>Rn (BF a)<|AQ S λa=>AC 9 1 Za 1 [(0,a)]<|gh<|AQ S λa=>CT ω 96 #[a]<|gh<|AQ S λa=>CT ω 95 #[S0,b]<|gh λb=>App 5 1 1 #[(.int .u8 0)] b c<|gh λb=>AZ ω p1 p2 p3 p4 b a p7 K) c d)) f g∧(AC 5 1 #[(.int .u8 0)] 1 [(0,(.int .u8 0))]<|gh<|AQ S λh=>(λf g=>(Rn (BF a)<|AQ S λa=>(λf g=>(AC 9 1 Za 1 [(0,a)]<|gh<|AQ S λa=>(λf g=>(CT ω 96 #[a]<|gh<|AQ S λa=>AC 9 1 Za 4 [(0,b),(1,c),(2,d),(3,e)]<|gh<|AQ S λb=>CT ω 95 #[S0,b]<|gh λb=>App 5 1 1 #[(.int .u8 0)] b h<|gh λb=>AZ ω p1 p2 p3 p4 b a p7 K) f g∧(AC 9 1 Za 4 [(0,b),(1,c),(2,d),(3,e)]<|gh<|AQ S λb=>CT ω 96 #[a]<|gh<|AQ S λa=>CT ω 95 #[S0,b]<|gh λb=>App 5 1 1 #[(.int .u8 0)] b h<|gh λb=>AZ ω p1 p2 p3 p4 b a p7 K) f g)) f g∧(AC 9 1 Za 4 [(0,b),(1,c),(2,d),(3,e)]<|gh<|AQ S λb=>AC 9 1 Za 1 [(0,a)]<|gh<|AQ S λa=>CT ω 96 #[a]<|gh<|AQ S λa=>CT ω 95 #[S0,b]<|gh λb=>App 5 1 1 #[(.int .u8 0)] b h<|gh λb=>AZ ω p1 p2 p3 p4 b a p7 K) f g)) f g∧(AC 9 1 Za 4 [(0,b),(1,c),(2,d),(3,e)]<|gh<|AQ S λb=>Rn (BF a)<|AQ S λa=>AC 9 1 Za 1 [(0,a)]<|gh<|AQ S λa=>CT ω 96 #[a]<|gh<|AQ S λa=>CT ω 95 #[S0,b]<|gh λb=>App 5 1 1 #[(.int .u8 0)] b h<|gh λb=>AZ ω p1 p2 p3 p4 b a p7 K) f g)) f g) f g)) ((λa f=>((λa f=>S a f∧((λa f=>((λa f=>S a f∧((λa f=>((λa f=>S a f∧((λa f=>(AC 9 1 Za 4 [(0,b),(1,c),(2,d),(3,e)]<|gh<|AQ S λb=>(λa c=>(CT ω 95 #[S0,b]<|gh λa=>AC 5 1 #[(.int .u8 0)] 1 [(0,(.int .u8 0))]<|gh<|AQ S λb=>App 5 1 1 #[(.int .u8 0)] a b<|gh λa=>AZ ω p1 p2 p3 p4 a Bf p7 K) a c∧(AC 5 1 #[(.int .u8 0)] 1 [(0,(.int .u8 0))]<|gh<|AQ S λa=>CT ω 95 #[S0,b]<|gh λb=>App 5 1 1 #[(.int .u8 0)] b a<|gh λa=>AZ ω p1 p2 p3 p4 a Bf p7 K) a c)) a f∧(AC 5 1 #[(.int .u8 0)] 1 [(0,(.int .u8 0))]<|gh<|AQ S λa=>AC 9 1 Za 4 [(0,b),(1,c),(2,d),(3,e)]<|gh<|AQ S λb=>CT ω 95 #[S0,b]<|gh λb=>App 5 1 1 #[(.int .u8 0)] b a<|gh λa=>AZ ω p1 p2 p3 p4 a Bf p7 K) a f)) a f)) a f∧(λa f=>(AC 9 1 Za 4 [(0,b),(1,c),(2,d),(3,e)]<|gh<|AQ S λb=>(λa c=>((λa c=>S a c∧((λa c=>(CT ω 95 #[S0,b]<|gh λa=>AC 5 1 #[(.int .u8 0)] 1 [(0,(.int .u8 0))]<|gh<|AQ S λb=>App 5 1 1 #[(.int .u8 0)] a b<|gh λa=>AZ ω p1 p2 p3 p4 a Bf p7 K) a c∧(AC 5 1 #[(.int .u8 0)] 1 [(0,(.int .u8 0))]<|gh<|AQ S λa=>CT ω 95 #[S0,b]<|gh λb=>App 5 1 1 #[(.int .u8 0)] b a<|gh λa=>AZ ω p1 p2 p3 p4 a Bf p7 K) a c)) a c)) a c∧(AC 5 1 #[(.int .u8 0)] 1 [(0,(.int .u8 0))]<|gh<|AQ S λd=>(λa c=>S a c∧(CT ω 95 #[S0,b]<|gh λa=>App 5 1 1 #[(.int .u8 0)] a d<|gh λa=>AZ ω p1 p2 p3 p4 a Bf p7 K) a c)) a c)) a f∧(AC 5 1 #[(.int .u8 0)] 1 [(0,(.int .u8 0))]<|gh<|AQ S λg=>(λa f=>((λa f=>S a f∧(AC 9 1 Za 4 [(0,b),(1,c),(2,d),(3,e)]<|gh<|AQ S λa=>CT ω 95 #[S0,a]<|gh λa=>App 5 1 1 #[(.int .u8 0)] a g<|gh λa=>AZ ω p1 p2 p3 p4 a Bf p7 K) a f)) a f∧(AC 9 1 Za 4 [(0,b),(1,c),(2,d),(3,e)]<|gh<|AQ S λb=>(λa c=>S a c∧(CT ω 95 #[S0,b]<|gh λa=>App 5 1 1 #[(.int .u8 0)] a g<|gh λa=>AZ ω p1 p2 p3 p4 a Bf p7 K) a c)) a f)) a f) a f)) a f)) a f∧(λa f=>(AC 9 1 Za 4 [(0,b),(1,c),(2,d),(3,e)]<|gh<|AQ S λb=>(λa c=>((λa c=>S a c∧((λa c=>((λa c=>S a c∧((λa c=>(CT ω 95 #[S0,b]<|gh λa=>AC 5 1 #[(.int .u8 0)] 1 [(0,(.int .u8 0))]<|gh<|AQ S λb=>App 5 1 1 #[(.int .u8 0)] a b<|gh λa=>AZ ω p1 p2 p3 p4 a Bf p7 K) a c∧(AC 5 1 #[(.int .u8 0)] 1 [(0,(.int .u8 0))]<|gh<|AQ S λa=>CT ω 95 #[S0,b]<|gh λb=>App 5 1 1 #[(.int .u8 0)] b a<|gh λa=>AZ ω p1 p2 p3 p4 a Bf p7 K) a c)) a c)) a c∧(AC 5 1 #[(.int .u8 0)] 1 [(0,(.int .u8 0))]<|gh<|AQ S λd=>(λa c=>S a c∧(CT ω 95 #[S0,b]<|gh λa=>App 5 1 1 #[(.int .u8 0)] a d<|gh λa=>AZ ω p1 p2 p3 p4 a Bf p7 K) a c)) a c)) a c)) a c∧(AC 5 1 #[(.int .u8 0)] 1 [(0,(.int .u8 0))]<|gh<|AQ S λd=>(λa c=>S a c∧((λa c=>S a c∧(CT ω 95 #[S0,b]<|gh λa=>App 5 1 1 #[(.int .u8 0)] a d<|gh λa=>AZ ω p1 p2 p3 p4 a Bf p7 K) a c)) a c)) a c)) a f∧(AC 5 1 #[(.int .u8 0)] 1 [(0,(.int .u8 0))]<|gh<|AQ S λg=>(λa f=>((λa f=>S a f∧((λa f=>((λa f=>S a f∧(AC 9 1 Za 4 [(0,b),(1,c),(2,d),(3,e)]<|gh<|AQ S λa=>CT ω 95 #[S0,a]<|gh λa=>App 5 1 1 #[(.int .u8 0)] a g<|gh λa=>AZ ω p1 p2 p3 p4 a Bf p7 K) a f)) a f∧(AC 9 1 Za 4 [(0,b),(1,c),(2,d),(3,e)]<|gh<|AQ S λb=>(λa c=>S a c∧(CT ω 95 #[S0,b]<|gh λa=>App 5 1 1 #[(.int .u8 0)] a g<|gh λa=>AZ ω p1 p2 p3 p4 a Bf p7 K) a c)) a f)) a f)) a f∧(AC 9 1 Za 4 [(0,b),(1,c),(2,d),(3,e)]<|gh<|AQ S λb=>(λa c=>S a c∧((λa c=>S a c∧(CT ω 95 #[S0,b]<|gh λa=>App 5 1 1 #[(.int .u8 0)] a g<|gh λa=>AZ ω p1 p2 p3 p4 a Bf p7 K) a c)) a c)) a f)) a f) a f)) a f)) a f∧(λa f=>(AC 9 1 Za 4 [(0,b),(1,c),(2,d),(3,e)]<|gh<|AQ S λb=>(λa c=>((λa c=>S a c∧((λa c=>((λa c=>S a c∧((λa c=>((λa c=>S a c∧((λa c=>(CT ω 95 #[S0,b]<|gh λa=>AC 5 1 #[(.int .u8 0)] 1 [(0,(.int .u8 0))]<|gh<|AQ S λb=>App 5 1 1 #[(.int .u8 0)] a b<|gh λa=>AZ ω p1 p2 p3 p4 a Bf p7 K) a c∧(AC 5 1 #[(.int .u8 0)] 1 [(0,(.int .u8 0))]<|gh<|AQ S λa=>CT ω 95 #[S0,b]<|gh λb=>App 5 1 1 #[(.int .u8 0)] b a<|gh λa=>AZ ω p1 p2 p3 p4 a Bf p7 K) a c)) a c)) a c∧(AC 5 1 #[(.int .u8 0)] 1 [(0,(.int .u8 0))]<|gh<|AQ S λd=>(λa c=>S a c∧(CT ω 95 #[S0,b]<|gh λa=>App 5 1 1 #[(.int .u8 0)] a d<|gh λa=>AZ ω p1 p2 p3 p4 a Bf p7 K) a c)) a c)) a c)) a c∧(AC 5 1 #[(.int .u8 0)] 1 [(0,(.int .u8 0))]<|gh<|AQ S λd=>(λa c=>S a c∧((λa c=>S a c∧(CT ω 95 #[S0,b]<|gh λa=>App 5 1 1 #[(.int .u8 0)] a d<|gh λa=>AZ ω p1 p2 p3 p4 a Bf p7 K) a c)) a c)) a c)) a c)) a c∧(AC 5 1 #[(.int .u8 0)] 1 [(0,(.int .u8 0))]<|gh<|AQ S λd=>(λa c=>S a c∧((λa c=>S a c∧((λa c=>S a c∧(CT ω 95 #[S0,b]<|gh λa=>App 5 1 1 #[(.int .u8 0)] a d<|gh λa=>AZ ω p1 p2 p3 p4 a Bf p7 K) a c)) a c)) a c)) a c)) a f∧(AC 5 1 #[(.int .u8 0)] 1 [(0,(.int .u8 0))]<|gh<|AQ S λg=>(λa f=>((λa f=>S a f∧((λa f=>((λa f=>S a f∧((λa f=>((λa f=>S a f∧(AC 9 1 Za 4 [(0,b),(1,c),(2,d),(3,e)]<|gh<|AQ S λa=>CT ω 95 #[S0,a]<|gh λa=>App 5 1 1 #[(.int .u8 0)] a g<|gh λa=>AZ ω p1 p2 p3 p4 a Bf p7 K) a f)) a f∧(AC 9 1 Za 4 [(0,b),(1,c),(2,d),(3,e)]<|gh<|AQ S λb=>(λa c=>S a c∧(CT ω 95 #[S0,b]<|gh λa=>App 5 1 1 #[(.int .u8 0)] a g<|gh λa=>AZ ω p1 p2 p3 p4 a Bf p7 K) a c)) a f)) a f)) a f∧(AC 9 1 Za 4 [(0,b),(1,c),(2,d),(3,e)]<|gh<|AQ S λb=>(λa c=>S a c∧((λa c=>S a c∧(CT ω 95 #[S0,b]<|gh λa=>App 5 1 1 #[(.int .u8 0)] a g<|gh λa=>AZ ω p1 p2 p3 p4 a Bf p7 K) a c)) a c)) a f)) a f)) a f∧(AC 9 1 Za 4 [(0,b),(1,c),(2,d),(3,e)]<|gh<|AQ S λb=>(λa c=>S a c∧((λa c=>S a c∧((λa c=>S a c∧(CT ω 95 #[S0,b]<|gh λa=>App 5 1 1 #[(.int .u8 0)] a g<|gh λa=>AZ ω p1 p2 p3 p4 a Bf p7 K) a c)) a c)) a c)) a f)) a f) a f))) f g∧(λf g=>(AC 9 1 Za 4 [(0,b),(1,c),(2,d),(3,e)]<|gh<|AQ S λb=>(λc d=>(CT ω 97 #[a]<|gh<|AQ S λa=>Gd a true (Pv (Ae 2 p1) λa=>(λc d=>(Rn (BF a)<|AQ S λa=>(λc d=>(AC 9 1 Za 1 [(0,a)]<|gh<|AQ S λa=>(λc d=>(CT ω 96 #[a]<|gh<|AQ S λa=>(λc d=>(CT ω 95 #[S0,b]<|gh λb=>AC 5 1 #[(.int .u8 0)] 1 [(0,(.int .u8 0))]<|gh<|AQ S λc=>App 5 1 1 #[(.int .u8 0)] b c<|gh λb=>AZ ω p1 p2 p3 p4 b a p7 K) c d∧(AC 5 1 #[(.int .u8 0)] 1 [(0,(.int .u8 0))]<|gh<|AQ S λc=>CT ω 95 #[S0,b]<|gh λb=>App 5 1 1 #[(.int .u8 0)] b c<|gh λb=>AZ ω p1 p2 p3 p4 b a p7 K) c d)) c d∧(AC 5 1 #[(.int .u8 0)] 1 [(0,(.int .u8 0))]<|gh<|AQ S λc=>CT ω 96 #[a]<|gh<|AQ S λa=>CT ω 95 #[S0,b]<|gh λb=>App 5 1 1 #[(.int .u8 0)] b c<|gh λb=>AZ ω p1 p2 p3 p4 b a p7 K) c d)) c d∧(AC 5 1 #[(.int .u8 0)] 1 [(0,(.int .u8 0))]<|gh<|AQ S λc=>AC 9 1 Za 1 [(0,a)]<|gh<|AQ S λa=>CT ω 96 #[a]<|gh<|AQ S λa=>CT ω 95 #[S0,b]<|gh λb=>App 5 1 1 #[(.int .u8 0)] b c<|gh λb=>AZ ω p1 p2 p3 p4 b a p7 K) c d)) c d∧(AC 5 1 #[(.int .u8 0)] 1 [(0,(.int .u8 0))]<|gh<|AQ S λc=>Rn (BF a)<|AQ S λa=>AC 9 1 Za 1 [(0,a)]<|gh<|AQ S λa=>CT ω 96 #[a]<|gh<|AQ S λa=>CT ω 95 #[S0,b]<|gh λb=>App 5 1 1 #[(.int .u8 0)] b c<|gh λb=>AZ ω p1 p2 p3 p4 b a p7 K) c d)) ((λa c=>((λa c=>S a c∧((λa c=>((λa c=>S a c∧((λa c=>((λa c=>S a c∧((λa c=>(CT ω 95 #[S0,b]<|gh λa=>AC 5 1 #[(.int .u8 0)] 1 [(0,(.int .u8 0))]<|gh<|AQ S λb=>App 5 1 1 #[(.int .u8 0)] a b<|gh λa=>AZ ω p1 p2 p3 p4 a Bf p7 K) a c∧(AC 5 1 #[(.int .u8 0)] 1 [(0,(.int .u8 0))]<|gh<|AQ S λa=>CT ω 95 #[S0,b]<|gh λb=>App 5 1 1 #[(.int .u8 0)] b a<|gh λa=>AZ ω p1 p2 p3 p4 a Bf p7 K) a c)) a c)) a c∧(AC 5 1 #[(.int .u8 0)] 1 [(0,(.int .u8 0))]<|gh<|AQ S λd=>(λa c=>S a c∧(CT ω 95 #[S0,b]<|gh λa=>App 5 1 1 #[(.int .u8 0)] a d<|gh λa=>AZ ω p1 p2 p3 p4 a Bf p7 K) a c)) a c)) a c)) a c∧(AC 5 1 #[(.int .u8 0)] 1 [(0,(.int .u8 0))]<|gh<|AQ S λd=>(λa c=>S a c∧((λa c=>S a c∧(CT ω 95 #[S0,b]<|gh λa=>App 5 1 1 #[(.int .u8 0)] a d<|gh λa=>AZ ω p1 p2 p3 p4 a Bf p7 K) a c)) a c)) a c)) a c)) a c∧(AC 5 1 #[(.int .u8 0)] 1 [(0,(.int .u8 0))]<|gh<|AQ S λd=>(λa c=>S a c∧((λa c=>S a c∧((λa c=>S a c∧(CT ω 95 #[S0,b]<|gh λa=>App 5 1 1 #[(.int .u8 0)] a d<|gh λa=>AZ ω p1 p2 p3 p4 a Bf p7 K) a c)) a c)) a c)) a c))) c d∧(AC 5 1 #[(.int .u8 0)] 1 [(0,(.int .u8 0))]<|gh<|AQ S λe=>CT ω 97 #[a]<|gh<|AQ S λa=>Gd a true (Pv (Ae 2 p1) λa=>Rn (BF a)<|AQ S λa=>AC 9 1 Za 1 [(0,a)]<|gh<|AQ S λa=>CT ω 96 #[a]<|gh<|AQ S λa=>CT ω 95 #[S0,b]<|gh λb=>App 5 1 1 #[(.int .u8 0)] b e<|gh λb=>AZ ω p1 p2 p3 p4 b a p7 K) ((λa c=>S a c∧((λa c=>S a c∧((λa c=>S a c∧(CT ω 95 #[S0,b]<|gh λa=>App 5 1 1 #[(.int .u8 0)] a e<|gh λa=>AZ ω p1 p2 p3 p4 a Bf p7 K) a c)) a c)) a c))) c d)) f g∧(AC 5 1 #[(.int .u8 0)] 1 [(0,(.int .u8 0))]<|gh<|AQ S λh=>(λf g=>(CT ω 97 #[a]<|gh<|AQ S λa=>Gd a true (Pv (Ae 2 p1) λa=>(λf g=>(Rn (BF a)<|AQ S λa=>(λf g=>(AC 9 1 Za 1 [(0,a)]<|gh<|AQ S λa=>(λf g=>(CT ω 96 #[a]<|gh<|AQ S λa=>AC 9 1 Za 4 [(0,b),(1,c),(2,d),(3,e)]<|gh<|AQ S λb=>CT ω 95 #[S0,b]<|gh λb=>App 5 1 1 #[(.int .u8 0)] b h<|gh λb=>AZ ω p1 p2 p3 p4 b a p7 K) f g∧(AC 9 1 Za 4 [(0,b),(1,c),(2,d),(3,e)]<|gh<|AQ S λb=>CT ω 96 #[a]<|gh<|AQ S λa=>CT ω 95 #[S0,b]<|gh λb=>App 5 1 1 #[(.int .u8 0)] b h<|gh λb=>AZ ω p1 p2 p3 p4 b a p7 K) f g)) f g∧(AC 9 1 Za 4 [(0,b),(1,c),(2,d),(3,e)]<|gh<|AQ S λb=>AC 9 1 Za 1 [(0,a)]<|gh<|AQ S λa=>CT ω 96 #[a]<|gh<|AQ S λa=>CT ω 95 #[S0,b]<|gh λb=>App 5 1 1 #[(.int .u8 0)] b h<|gh λb=>AZ ω p1 p2 p3 p4 b a p7 K) f g)) f g∧(AC 9 1 Za 4 [(0,b),(1,c),(2,d),(3,e)]<|gh<|AQ S λb=>Rn (BF a)<|AQ S λa=>AC 9 1 Za 1 [(0,a)]<|gh<|AQ S λa=>CT ω 96 #[a]<|gh<|AQ S λa=>CT ω 95 #[S0,b]<|gh λb=>App 5 1 1 #[(.int .u8 0)] b h<|gh λb=>AZ ω p1 p2 p3 p4 b a p7 K) f g)) ((λa f=>((λa f=>S a f∧((λa f=>((λa f=>S a f∧((λa f=>((λa f=>S a f∧(AC 9 1 Za 4 [(0,b),(1,c),(2,d),(3,e)]<|gh<|AQ S λa=>CT ω 95 #[S0,a]<|gh λa=>App 5 1 1 #[(.int .u8 0)] a h<|gh λa=>AZ ω p1 p2 p3 p4 a Bf p7 K) a f)) a f∧(AC 9 1 Za 4 [(0,b),(1,c),(2,d),(3,e)]<|gh<|AQ S λb=>(λa c=>S a c∧(CT ω 95 #[S0,b]<|gh λa=>App 5 1 1 #[(.int .u8 0)] a h<|gh λa=>AZ ω p1 p2 p3 p4 a Bf p7 K) a c)) a f)) a f)) a f∧(AC 9 1 Za 4 [(0,b),(1,c),(2,d),(3,e)]<|gh<|AQ S λb=>(λa c=>S a c∧((λa c=>S a c∧(CT ω 95 #[S0,b]<|gh λa=>App 5 1 1 #[(.int .u8 0)] a h<|gh λa=>AZ ω p1 p2 p3 p4 a Bf p7 K) a c)) a c)) a f)) a f)) a f∧(AC 9 1 Za 4 [(0,b),(1,c),(2,d),(3,e)]<|gh<|AQ S λb=>(λa c=>S a c∧((λa c=>S a c∧((λa c=>S a c∧(CT ω 95 #[S0,b]<|gh λa=>App 5 1 1 #[(.int .u8 0)] a h<|gh λa=>AZ ω p1 p2 p3 p4 a Bf p7 K) a c)) a c)) a c)) a f))) f g∧(AC 9 1 Za 4 [(0,b),(1,c),(2,d),(3,e)]<|gh<|AQ S λb=>CT ω 97 #[a]<|gh<|AQ S λa=>Gd a true (Pv (Ae 2 p1) λa=>Rn (BF a)<|AQ S λa=>AC 9 1 Za 1 [(0,a)]<|gh<|AQ S λa=>CT ω 96 #[a]<|gh<|AQ S λa=>CT ω 95 #[S0,b]<|gh λb=>App 5 1 1 #[(.int .u8 0)] b h<|gh λb=>AZ ω p1 p2 p3 p4 b a p7 K) ((λa c=>S a c∧((λa c=>S a c∧((λa c=>S a c∧(CT ω 95 #[S0,b]<|gh λa=>App 5 1 1 #[(.int .u8 0)] a h<|gh λa=>AZ ω p1 p2 p3 p4 a Bf p7 K) a c)) a c)) a c))) f g)) f g) f g)
def Nw (ω:Om)(p1 p2:Value)(p3 p4:Value)(p5 p6:Value)(p7 p30:Value)(K:Value→M):M:=Br p30 (AZ ω p1 p2 p3 p4 p5 p6 p7 K) (AZ ω p1 p2 p3 p4 p5 Bf p7 K)
def APh (ω:Om)(a0:Value)(K:Value→M):M:=New (.cells (Value.cells a0) 49 (0,0))<|gh λa=>Lf 0 a λb=>Pv (AU Zc Zd [(0,b)]) λb=>New (.cells Zc 49 (0,0))<|gh λc=>Sto 10 c b<|gh λ_=>Lf 0 a λb=>Pv (AA .eql b (.int .i64 1)) λd=>Br d (CT ω 91 #[S0,I0,(.int .i64 4)]<|gh λb=>AZ ω a S0 I0 c b Bt I0 K) (Pv (AA .eql b (.int .i64 3)) λd=>Br d (Qi [c] λS=>Lg S 3 a λb=>Lg S 4 a λd=>Pv (Ae 3 c) λe=>Sto 1 e b<|gh<|AQ S λ_=>Pv (Ae 4 c) λb=>Sto 1 b d<|gh λ_=>Bg λS=>Lg S 3 a λb=>Lg S 4 a λd=>AC 3 1 #[I0] 2 [(0,b),(1,d)]<|gh<|AQ S λb=>CT ω 92 #[b]<|gh<|AQ S λb=>Lg S 3 a λd=>CT ω 91 #[S0,d,(.int .i64 4)]<|gh<|AQ S λd=>Lg S 4 a λe=>CT ω 91 #[d,e,(.int .i64 4)]<|gh λd=>AZ ω a S0 I0 c d b I0 K) (Pv (AA .eql b (.int .i64 4)) λd=>Br d (Lf 5 a λb=>Pv (Ae 5 c) λd=>Sto 1 d b<|gh λ_=>Bg λS=>Lg S 5 a λb=>Pv (AA .eql b (.int .u8 73)) λb=>Gd b false (Lg S 5 a λb=>Pv (AA .eql b (.int .u8 84)) λb=>Gd b false (Lg S 5 a λb=>Pv (AA .eql b (.int .u8 69)) λb=>Lg S 5 a λd=>AC 5 1 #[(.int .u8 0)] 1 [(0,d)]<|gh<|AQ S λd=>AZ ω a S0 I0 c d b I0 K) (Lg S 5 a λb=>AC 5 1 #[(.int .u8 0)] 1 [(0,b)]<|gh<|AQ S λb=>AZ ω a S0 I0 c b Bt I0 K)) (Lg S 5 a λb=>AC 5 1 #[(.int .u8 0)] 1 [(0,b)]<|gh<|AQ S λb=>AZ ω a S0 I0 c b Bt I0 K)) (Pv (AA .eql b (.int .i64 5)) λd=>Br d (Lf 6 a λb=>Pv (Ae 6 c) λd=>Sto 1 d b<|gh λ_=>Lf 6 a λb=>CT ω 93 #[b]<|gh λb=>Pv (exV b 0) λd=>Pv (exV b 1) λb=>AZ ω a S0 I0 c d b I0 K) (Pv (AA .eql b (.int .i64 6)) λd=>Br d (Lf 7 a λb=>Pv (Ae 7 c) λd=>Sto 1 d b<|gh λ_=>Lf 7 a λb=>CT ω 94 #[b]<|gh λb=>Pv (exV b 0) λd=>Pv (exV b 1) λe=>Pv (exV b 2) λb=>AZ ω a S0 I0 c d b e K) (Pv (AA .eql b (.int .i64 2)) λd=>Br d (Lf 1 a λb=>Pv (Ae 1 c) λd=>Sto 1 d b<|gh λ_=>Lf 1 a λb=>AC 9 1 Za 1 [(0,b)]<|gh λb=>CT ω 95 #[S0,b]<|gh λb=>TJ ω a S0 I0 c b Bt I0 K) (Pv (AA .eql b (.int .i64 7)) λd=>Br d (TJ ω a S0 I0 c S0 Bt I0 K) (Pv (AA .eql b (.int .i64 9)) λd=>Br d (Qi [c] λS=>Lg S 8 a λb=>Lg S 2 a λd=>Lg S 9 a λe=>Pv (Ae 8 c) λf=>Sto 1 f b<|gh<|AQ S λ_=>Pv (Ae 2 c) λb=>Sto 1 b d<|gh<|AQ S λ_=>Pv (Ae 9 c) λb=>Sto 1 b e<|gh λ_=>Lf 9 a λb=>Br b (TI ω a S0 I0 c S0 Bt I0 (zS [70,65,84,65,76]) K) (TI ω a S0 I0 c S0 Bt I0 (zS [69,82,82,79,82]) K)) (Pv (AA .eql b (.int .i64 8)) λd=>Br d (Nw ω a S0 I0 c S0 Bt I0 d K) (Pv (AA .eql b (.int .i64 10)) λb=>Nw ω a S0 I0 c S0 Bt I0 b K)))))))))
def AQz:=zkc1 APh 71 Tryz.func71
def sh72_4 (ω:Om)(p0 p2 p51:Value)(K:Value→M):M:=Br p51 (Pv (AU Ze #[(0,1),(1,1)] [(0,(zS [53,52,48,48,48])),(1,(zS [97,32,108,105,109,105,116,32,105,115,32,101,120,99,101,101,100,101,100]))]) λa=>Sto 2 p2 a<|gh λ_=>Rn (AB 2 p2) λa=>K a) (CT ω 101 #[p0]<|gh λa=>Sto 2 p2 a<|gh λ_=>Rn (AB 2 p2) λa=>K a)
def sh72_3 (ω:Om)(p0 p2:Value)(p3 p20:Value)(K:Value→M):M:=Br p20 (Pv (AU Ze #[(0,1),(1,1)] [(0,(zS [52,50,80,48,55])),(1,(zS [105,116,32,105,115,32,116,104,101,114,101,32,97,108,114,101,97,100,121]))]) λa=>Sto 2 p2 a<|gh λ_=>Rn (AB 2 p2) λa=>K a) (Pv (AA .eql p3 (.int .i64 182)) λa=>Br a (Pv (AU Ze #[(0,1),(1,1)] [(0,(zS [52,50,55,48,51])),(1,(zS [110,111,32,115,117,99,104,32,99,111,108,117,109,110]))]) λa=>Sto 2 p2 a<|gh λ_=>Rn (AB 2 p2) λa=>K a) (Pv (AA .eql p3 (.int .i64 183)) λa=>Br a (Pv (AU Ze #[(0,1),(1,1)] [(0,(zS [52,50,55,48,49])),(1,(zS [116,104,101,32,99,111,108,117,109,110,32,105,115,32,110,97,109,101,100,32,116,119,105,99,101]))]) λa=>Sto 2 p2 a<|gh λ_=>Rn (AB 2 p2) λa=>K a) (Pv (AA .eql p3 (.int .i64 184)) λa=>Br a (Pv (AU Ze #[(0,1),(1,1)] [(0,(zS [52,50,55,48,50])),(1,(zS [116,104,101,32,99,111,108,117,109,110,32,105,115,32,97,109,98,105,103,117,111,117,115]))]) λa=>Sto 2 p2 a<|gh λ_=>Rn (AB 2 p2) λa=>K a) (Pv (AA .eql p3 (.int .i64 280)) λa=>Br a (Pv (AU Ze #[(0,1),(1,1)] [(0,(zS [52,50,55,49,50])),(1,(zS [116,104,101,32,116,97,98,108,101,32,105,115,32,110,97,109,101,100,32,116,119,105,99,101]))]) λa=>Sto 2 p2 a<|gh λ_=>Rn (AB 2 p2) λa=>K a) (Pv (AA .eql p3 (.int .i64 185)) λa=>Br a (Pv (AU Ze #[(0,1),(1,1)] [(0,(zS [52,50,55,48,52])),(1,(zS [110,111,32,115,117,99,104,32,105,110,100,101,120]))]) λa=>Sto 2 p2 a<|gh λ_=>Rn (AB 2 p2) λa=>K a) (Pv (AA .eql p3 (.int .i64 187)) λa=>Br a (Pv (AU Ze #[(0,1),(1,1)] [(0,(zS [52,50,56,48,52])),(1,(zS [116,121,112,101,115,32,100,111,32,110,111,116,32,109,97,116,99,104]))]) λa=>Sto 2 p2 a<|gh λ_=>Rn (AB 2 p2) λa=>K a) (Pv (AA .eql p3 (.int .i64 188)) λa=>Br a (Pv (AU Ze #[(0,1),(1,1)] [(0,(zS [52,50,56,48,51])),(1,(zS [105,116,32,109,117,115,116,32,115,116,97,110,100,32,105,110,32,71,82,79,85,80,32,66,89,32,111,114,32,105,110,32,97,110,32,97,103,103,114,101,103,97,116,101]))]) λa=>Sto 2 p2 a<|gh λ_=>Rn (AB 2 p2) λa=>K a) (Pv (AA .eql p3 (.int .i64 283)) λa=>Br a (Pv (AU Ze #[(0,1),(1,1)] [(0,(zS [52,50,80,49,48])),(1,(zS [105,116,32,109,117,115,116,32,115,116,97,110,100,32,105,110,32,116,104,101,32,115,101,108,101,99,116,32,108,105,115,116]))]) λa=>Sto 2 p2 a<|gh λ_=>Rn (AB 2 p2) λa=>K a) (Pv (AA .eql p3 (.int .i64 189)) λa=>Br a (Pv (AU Ze #[(0,1),(1,1)] [(0,(zS [52,50,80,49,54])),(1,(zS [111,110,101,32,112,114,105,109,97,114,121,32,107,101,121,32,105,115,32,110,101,101,100,101,100]))]) λa=>Sto 2 p2 a<|gh λ_=>Rn (AB 2 p2) λa=>K a) (Pv (AA .eql p3 (.int .i64 281)) λa=>Br a (sh72_4 ω p0 p2 a K) (Pv (AA .eql p3 (.int .i64 201)) λa=>Br a (sh72_4 ω p0 p2 a K) (Pv (AA .eql p3 (.int .i64 223)) λa=>sh72_4 ω p0 p2 a K))))))))))))
def sh72_2 (ω:Om)(p0 p2:Value)(p3 p9:Value)(K:Value→M):M:=Br p9 (Pv (AU Ze #[(0,1),(1,1)] [(0,(zS [52,50,54,48,49])),(1,(zS [115,121,110,116,97,120,32,101,114,114,111,114]))]) λa=>Sto 2 p2 a<|gh λ_=>Rn (AB 2 p2) λa=>K a) (Pv (AA .eql p3 (.int .i64 180)) λa=>Br a (Pv (AU Ze #[(0,1),(1,1)] [(0,(zS [52,50,80,48,49])),(1,(zS [110,111,32,115,117,99,104,32,116,97,98,108,101]))]) λa=>Sto 2 p2 a<|gh λ_=>Rn (AB 2 p2) λa=>K a) (Pv (AA .eql p3 (.int .i64 181)) λa=>Br a (sh72_3 ω p0 p2 p3 a K) (Pv (AA .eql p3 (.int .i64 186)) λa=>sh72_3 ω p0 p2 p3 a K)))
def sh72_1 (ω:Om)(p0 p2:Value)(p3 p4:Value)(K:Value→M):M:=Br p4 (Pv (AU Ze #[(0,1),(1,1)] [(0,(zS [53,52,48,48,49])),(1,(zS [115,116,97,116,101,109,101,110,116,32,105,115,32,116,111,111,32,108,97,114,103,101]))]) λa=>Sto 2 p2 a<|gh λ_=>Rn (AB 2 p2) λa=>K a) (Pv (AA .eql p3 (.int .i64 171)) λa=>Br a (sh72_2 ω p0 p2 p3 a K) (Pv (AA .eql p3 (.int .i64 172)) λa=>Br a (sh72_2 ω p0 p2 p3 a K) (Pv (AA .eql p3 (.int .i64 173)) λa=>Br a (sh72_2 ω p0 p2 p3 a K) (Pv (AA .eql p3 (.int .i64 174)) λa=>Br a (sh72_2 ω p0 p2 p3 a K) (Pv (AA .eql p3 (.int .i64 177)) λa=>Br a (sh72_2 ω p0 p2 p3 a K) (Pv (AA .eql p3 (.int .i64 284)) λa=>sh72_2 ω p0 p2 p3 a K))))))
def sh72 (ω:Om)(a0:Value)(K:Value→M):M:=New (.cells Ze 132 (0,0))<|gh λa=>Pv (AA .eql a0 (.int .i64 170)) λb=>Br b (sh72_1 ω a0 a a0 b K) (Pv (AA .eql a0 (.int .i64 175)) λb=>Br b (sh72_1 ω a0 a a0 b K) (Pv (AA .eql a0 (.int .i64 176)) λb=>sh72_1 ω a0 a a0 b K))
def AQy:=zkc1 sh72 72 Tryz.func72
def APg (ω:Om)(a0 a1:Value)(a2 a3:Value)(K:Value→M):M:=Pv (Ad a0) λa=>Lf 2 a λa=>Pv (AA .eql a a2) λa=>Br a (Pv (AU Zv Zw [(0,a1)]) λa=>Pv (Ad a0) λb=>Pv (Ae 6 b) λb=>Sto 53 b a<|gh λ_=>K (Value.tuple #[])) (CT ω 31 #[a0,a3]<|gh λ_=>K (Value.tuple #[]))
def AQx:=zkc4 APg 73 Tryz.func73
def APf (ω:Om)(a0 a1:Value)(a2 a3:Value)(K:Value→M):M:=Pv (lenV a0) λa=>Pv (AA .add a1 (.int .i64 4)) λb=>Pv (AA .lss a b) λa=>Br a (K (Value.tuple #[I0,(.int .i64 10)])) (Pv (Bi 1 a0 (some a1) none none) λa=>CT ω 102 #[a]<|gh λa=>Pv (AA .lss a a2) λb=>Br b (K (Value.tuple #[I0,(.int .i64 230)])) (Pv (AA .gtr a a3) λb=>Br b (K (Value.tuple #[I0,(.int .i64 231)])) (Pv (lenV a0) λb=>Pv (AA .sub b a1) λb=>Pv (AA .lss b a) λb=>Br b (K (Value.tuple #[I0,(.int .i64 10)])) (K (Value.tuple #[a,I0])))))
def AQw:=zkc4 APf 74 Tryz.func74
def Xg (ω:Om)(p2 p3:Value)(p4 p5:Value)(K:Value→M):M:=CT ω 106 #[p4]<|gh λa=>Pv (unV .not a) λa=>Br a (Pv (AU Zg Zm []) λa=>Sto 6 p2 a<|gh λ_=>Rn (AB 6 p2) λa=>K (Value.tuple #[a,(.int .i64 230)])) (Rn (AB 6 p5) λa=>Sto 6 p2 a<|gh λ_=>Rn (AB 6 p2) λa=>K (Value.tuple #[a,I0]))
def ADj (ω:Om)(p2 p3:Value)(K:Value→M):M:=Pv (AU Zg Zm []) λa=>Sto 6 p2 a<|gh λ_=>Rn (AB 6 p2) λa=>K (Value.tuple #[a,(.int .i64 231)])
def ADi (ω:Om)(p2 p3:Value)(p4 p5:Value)(K:Value→M):M:=CT ω 106 #[p4]<|gh λa=>Pv (unV .not a) λa=>Br a (Pv (AU Zg Zm []) λa=>Sto 6 p2 a<|gh λ_=>Rn (AB 6 p2) λa=>K (Value.tuple #[a,(.int .i64 230)])) (Rn (AB 6 p5) λa=>Sto 6 p2 a<|gh λ_=>Rn (AB 6 p2) λa=>K (Value.tuple #[a,I0]))
def Oy (ω:Om)(p2 p3:Value)(p4 p5:Value)(K:Value→M):M:=CT ω 105 #[p4,(.int .i64 1)]<|gh λ_=>ADi ω p2 p3 p4 p5 K
def Xf (ω:Om)(p2 p4:Value)(p5 x3:Value)(Kn0:(Value×Unit)→M)(K:Value→M):M:=Pv (Ad p4) λa=>Lf 0 a λa=>Pv (lenV a) λa=>Pv (AA .gtr a I0) λa=>Gd a true (Pv (Ad p4) λa=>Lf 0 a λa=>Pv (ixV 1 a I0) λa=>Rn (BF a) λa=>Pv (AA .neq a (.int .u8 0)) λa=>Gd a true (Pv (Ad p4) λa=>Lf 1 a λa=>Pv (unV .not a) λa=>Br a (Lf 1 p5 λa=>Pv (lenV a) λa=>Pv (AA .eql a (.int .i64 32)) λa=>Br a (ADj ω p2 x3 K) (CT ω 104 #[p4]<|gh λa=>Pv (AU Ze #[(0,1),(1,1)] [(0,a)]) λa=>New (.cells Ze 181 (0,0))<|gh λb=>Sto 2 b a<|gh λ_=>CT ω 104 #[p4]<|gh λa=>Pv (Ae 1 b) λc=>Sto 1 c a<|gh λ_=>Lf 1 p5 λa=>Rn (AB 2 b) λb=>AC 181 2 Ze 1 [(0,b)]<|gh λb=>App 181 2 32 Ze a b<|gh λa=>Pv (Ae 1 p5) λb=>Sto 1 b a<|gh λ_=>Kn0 (x3,()))) (Oy ω p2 x3 p4 p5 K)) (Oy ω p2 x3 p4 p5 K)) (Oy ω p2 x3 p4 p5 K)
def APe (ω:Om)(a0:Value)(K:Value→M):M:=New (.cells Zg 106 (0,0))<|gh λa=>Pv (AU Zp #[(0,1),(1,1)] [(0,a0)]) λb=>New (.cells (Value.cells b) 177 (0,0))<|gh λb=>New (.cells Zg 106 (0,0))<|gh λc=>CT ω 103 #[b,(.int .i64 4)]<|gh λd=>Pv (AA .eql d (.int .i64 80877103)) λe=>Br e (Pv (Ae 0 c) λd=>Sto 1 d (.int .i64 2)<|gh λ_=>Xg ω a I0 b c K) (Pv (AA .eql d (.int .i64 80877102)) λe=>Br e (Pv (Ae 0 c) λd=>Sto 1 d (.int .i64 3)<|gh λ_=>CT ω 103 #[b,(.int .i64 4)]<|gh λd=>Pv (Ae 3 c) λe=>Sto 1 e d<|gh λ_=>CT ω 103 #[b,(.int .i64 4)]<|gh λd=>Pv (Ae 4 c) λe=>Sto 1 e d<|gh λ_=>Xg ω a I0 b c K) (Pv (AA .eql d (.int .i64 196608)) λd=>Br d (Pv (Ae 0 c) λd=>Sto 1 d (.int .i64 1)<|gh λ_=>Aq ((I0,()):Value×Unit) λs d=>Xf ω a b c s.1 d K) (Pv (AU Zg Zm []) λb=>Sto 6 a b<|gh λ_=>Rn (AB 6 a) λa=>K (Value.tuple #[a,(.int .i64 232)]))))
def AQv:=zkc1 APe 75 Tryz.func75
def Ox (ω:Om)(p4 p5:Value)(p6 p7:Value)(K:Value→M):M:=CT ω 106 #[p6]<|gh λa=>Pv (unV .not a) λa=>Br a (Pv (AU Zg Zm []) λa=>Sto 6 p4 a<|gh λ_=>Rn (AB 6 p4) λa=>K (Value.tuple #[a,(.int .i64 230)])) (Rn (AB 6 p7) λa=>Sto 6 p4 a<|gh λ_=>Rn (AB 6 p4) λa=>K (Value.tuple #[a,I0]))
def APd (ω:Om)(a0 a1:Value)(K:Value→M):M:=New (.cells Zg 106 (0,0))<|gh λa=>Pv (AU Zp #[(0,1),(1,1)] [(0,a1)]) λb=>New (.cells (Value.cells b) 177 (0,0))<|gh λb=>Pv (AU Zg Zm [(0,(.int .i64 6)),(5,a0)]) λc=>New (.cells Zg 106 (0,0))<|gh λd=>Sto 6 d c<|gh λ_=>Pv (AA .eql a0 (.int .u8 81)) λc=>Br c (CT ω 104 #[b]<|gh λc=>Pv (AU Zg Zm [(0,(.int .i64 4)),(2,c)]) λc=>Sto 6 d c<|gh λ_=>Ox ω a I0 b d K) (Pv (AA .eql a0 (.int .u8 88)) λc=>Br c (Pv (AU Zg Zm [(0,(.int .i64 5))]) λc=>Sto 6 d c<|gh λ_=>Ox ω a I0 b d K) (Pv (Ad b) λc=>Pv (Ae 0 c) λc=>Sto 1 c S0<|gh λ_=>Ox ω a I0 b d K))
def AQu:=zkc2 APd 76 Tryz.func76
def APc (ω:Om)(a0:Value)(K:Value→M):M:=Pv (Ad a0) λa=>Pv (Ae 2 a) λa=>Sto 1 a (.int .u8 73)<|gh λ_=>Bg λS=>Pv (AU Zc Zd [(0,(.int .i64 1))]) λa=>Pv (AU Zc Zd [(0,(.int .i64 2)),(1,(zS [115,101,114,118,101,114,95,118,101,114,115,105,111,110])),(2,(zS [49,54,46,48]))]) λb=>Pv (AU Zc Zd [(0,(.int .i64 2)),(1,(zS [99,108,105,101,110,116,95,101,110,99,111,100,105,110,103])),(2,(zS [85,84,70,56]))]) λc=>Pv (AU Zc Zd [(0,(.int .i64 2)),(1,(zS [68,97,116,101,83,116,121,108,101])),(2,(zS [73,83,79]))]) λd=>Pv (Ad a0) λe=>Lg S 0 e λe=>Pv (Ad a0) λf=>Lg S 1 f λf=>Pv (AU Zc Zd [(0,(.int .i64 3)),(3,e),(4,f)]) λe=>Pv (AU Zc Zd [(0,(.int .i64 4)),(5,(.int .u8 73))]) λf=>AC 49 10 Zc 6 [(0,a),(1,b),(2,c),(3,d),(4,e),(5,f)]<|gh λa=>CT ω 45 #[a0,a]<|gh λ_=>K (Value.tuple #[])
def AQt:=zkc1 APc 77 Tryz.func77
def Ov (ω:Om)(p0 p4:Value)(K:Value→M):M:=Pv (Ad p0) λa=>Pv (Ae 5 a) λa=>Sto 1 a p4<|gh λ_=>K (Value.tuple #[])
def APb (ω:Om)(a0 a1:Value)(K:Value→M):M:=Pv (Ad a0) λa=>Pv (Ae 4 a) λa=>Sto 1 a Bt<|gh λ_=>CT ω 107 #[a1]<|gh λa=>Pv (exV a 0) λb=>Pv (exV a 1) λa=>New (.cells Zi 157 (0,0))<|gh λc=>Sto 2 c a<|gh λ_=>Lf 0 c λa=>Pv (AA .neq a I0) λa=>Br a (Lf 0 c λa=>CT ω 25 #[a0,a,Bf]<|gh λ_=>CT ω 30 #[a0]<|gh λ_=>K (Value.tuple #[])) (Pv (lenV b) λa=>Pv (AA .eql a I0) λa=>Br a (Pv (AU Zc Zd [(0,(.int .i64 8))]) λa=>AC 49 10 Zc 1 [(0,a)]<|gh λa=>CT ω 45 #[a0,a]<|gh λ_=>Ov ω a0 b K) (Ov ω a0 b K))
def AQs:=zkc2 APb 78 Tryz.func78
def ADh (ω:Om)(p0 x4 x5:Value)(Kn0:(Value×Value×Unit)→M)(K:Value→M):M:=Pv (lenV p0) λa=>Pv (AA .lss x5 a) λa=>Br a (Pv (ixV 1 p0 x5) λa=>Rn (BF a) λa=>Pv (AA .eql a (.int .u8 0)) λa=>Br a (K x5) (Pv (AA .add x5 (.int .i64 1)) λa=>Kn0 (x4,a,()))) (K (.int .i64 (-1)))
def APa (ω:Om)(a0 a1:Value)(K:Value→M):M:=Aq ((I0,a1,()):Value×Value×Unit) λs Kn0=>ADh ω a0 s.1 s.2.1 Kn0 K
def AQr:=zkc2 APa 80 Tryz.func80
def ADg (ω:Om)(p0 x2 x3:Value)(Kn0:(Value×Value×Unit)→M)(K:Value→M):M:=Pv (BP p0) λa=>Pv (AA .lss x3 a) λa=>Br a (Pv (Ei p0 x3) λa=>Pv (AA .eql a (.int .u8 0)) λa=>Br a (K Bt) (Pv (AA .add x3 (.int .i64 1)) λa=>Kn0 (x2,a,()))) (K Bf)
def APZ (ω:Om)(a0:Value)(K:Value→M):M:=Aq ((Bf,I0,()):Value×Value×Unit) λs Kn0=>ADg ω a0 s.1 s.2.1 Kn0 K
def AQq:=zkc1 APZ 81 Tryz.func81
def APY (ω:Om)(a0 a1:Value)(K:Value→M):M:=App 5 1 1 #[(.int .u8 0)] a0 a1<|gh λa=>AC 5 1 #[(.int .u8 0)] 1 [(0,(.int .u8 0))]<|gh λb=>App 5 1 1 #[(.int .u8 0)] a b<|gh λa=>K a
def AQp:=zkc2 APY 82 Tryz.func82
def APX (ω:Om)(a0:Value)(K:Value→M):M:=Pv (AA .geq a0 (.int .i64 (-2147483648))) λa=>Gd a true (Pv (AA .leq a0 (.int .i64 2147483647)) λa=>K a) (K Bf)
def AQo:=zkc1 APX 83 Tryz.func83
def ADe (ω:Om)(p0 p2:Value)(p3 p4:Value)(K:Value→M):M:=Pv (lenV p0) λa=>Pv (AA .leq a (.int .i64 1600)) λa=>K (Value.tuple #[p4,a])
def ADf (ω:Om)(p0 x2:Value)(x3 x4 x5:Value)(Kn0:(Value×Value×Value×Value×Unit)→M)(K:Value→M):M:=Pv (lenV p0) λa=>Pv (AA .lss x5 a) λa=>Br a (Pv (ixV 2 p0 x5) λa=>Lf 1 a λa=>CT ω 109 #[a]<|gh λa=>Pv (exV a 0) λb=>Pv (exV a 1) λc=>Pv (exV a 2) λa=>Pv (ixV 2 p0 x5) λd=>Lf 0 d λd=>CT ω 81 #[d]<|gh λd=>Pv (unV .not a) λa=>Gd a false (Br d (K (Value.tuple Zp)) (Pv (ixV 2 p0 x5) λa=>Lf 0 a λa=>CT ω 82 #[x4,a]<|gh λa=>AC 5 1 #[(.int .u8 0)] 6 [(0,(.int .u8 0)),(1,(.int .u8 0)),(2,(.int .u8 0)),(3,(.int .u8 0)),(4,(.int .u8 0)),(5,(.int .u8 0))]<|gh λd=>App 5 1 1 #[(.int .u8 0)] a d<|gh λa=>CT ω 59 #[b,(.int .i64 4)]<|gh λb=>App 5 1 1 #[(.int .u8 0)] a b<|gh λa=>CT ω 59 #[c,(.int .i64 2)]<|gh λb=>App 5 1 1 #[(.int .u8 0)] a b<|gh λa=>AC 5 1 #[(.int .u8 0)] 6 [(0,(.int .u8 255)),(1,(.int .u8 255)),(2,(.int .u8 255)),(3,(.int .u8 255)),(4,(.int .u8 0)),(5,(.int .u8 0))]<|gh λb=>App 5 1 1 #[(.int .u8 0)] a b<|gh λa=>Pv (AA .add x5 (.int .i64 1)) λb=>Kn0 (x2,x3,a,b,()))) (K (Value.tuple Zp))) (ADe ω p0 x2 x3 x4 K)
def APW (ω:Om)(a0:Value)(K:Value→M):M:=Pv (lenV a0) λa=>CT ω 59 #[a,(.int .i64 2)]<|gh λa=>Aq ((S0,Bf,a,I0,()):Value×Value×Value×Value×Unit) λs a=>ADf ω a0 s.1 s.2.1 s.2.2.1 s.2.2.2.1 a K
def AQn:=zkc1 APW 84 Tryz.func84
def TG (ω:Om)(p4 p7:Value)(Kn1:(Value×Value×Unit)→M)(K:Value→M):M:=Pv (AA .add p7 (.int .i64 1)) λa=>Kn1 (p4,a,())
def Xe (ω:Om)(p0 p2:Value)(p3 x4 x7:Value)(Kn1:(Value×Value×Unit)→M)(K:Value→M):M:=Pv (lenV p0) λa=>Pv (AA .lss x7 a) λa=>Br a (Pv (ixV 2 p0 x7) λa=>Lf 0 a λa=>Br a (AC 5 1 #[(.int .u8 0)] 4 [(0,(.int .u8 255)),(1,(.int .u8 255)),(2,(.int .u8 255)),(3,(.int .u8 255))]<|gh λa=>App 5 1 1 #[(.int .u8 0)] x4 a<|gh λa=>TG ω a x7 Kn1 K) (Pv (ixV 2 p0 x7) λa=>Lf 1 a λa=>Pv (BP a) λa=>CT ω 59 #[a,(.int .i64 4)]<|gh λa=>App 5 1 1 #[(.int .u8 0)] x4 a<|gh λa=>Pv (ixV 2 p0 x7) λb=>Lf 1 b λb=>App 5 1 1 #[(.int .u8 0)] a b<|gh λa=>TG ω a x7 Kn1 K)) (K (Value.tuple #[x4,Bt]))
def ADc (ω:Om)(p0 p2:Value)(p3 p4 p5:Value)(K:Value→M):M:=Pv (lenV p0) λa=>Pv (AA .gtr a (.int .i64 1600)) λa=>Br a (K (Value.tuple Zp)) (Pv (AA .gtr p5 (.int .i64 1073741824)) λa=>Br a (K (Value.tuple #[S0,Bt])) (Aq ((p4,I0,()):Value×Value×Unit) λs a=>Xe ω p0 p2 p3 s.1 s.2.1 a K))
def ADd (ω:Om)(p0 p4:Value)(x2 x3:Value)(x5 x6:Value)(Kn0:(Value×Value×Value×Value×Unit)→M)(K:Value→M):M:=Pv (lenV p0) λa=>Pv (AA .lss x6 a) λa=>Br a (Pv (ixV 2 p0 x6) λa=>Lf 0 a λa=>Gd a true (Pv (ixV 2 p0 x6) λa=>Lf 1 a λa=>Pv (BB .neq a Q0) λa=>Br a (K (Value.tuple Zp)) (Pv (ixV 2 p0 x6) λa=>Lf 1 a λa=>Pv (BP a) λa=>Pv (AA .add x5 a) λa=>Pv (AA .add x6 (.int .i64 1)) λb=>Kn0 (x2,x3,a,b,()))) (Pv (ixV 2 p0 x6) λa=>Lf 1 a λa=>Pv (BP a) λa=>Pv (AA .add x5 a) λa=>Pv (AA .add x6 (.int .i64 1)) λb=>Kn0 (x2,x3,a,b,()))) (ADc ω p0 x2 x3 p4 x5 K)
def APV (ω:Om)(a0:Value)(K:Value→M):M:=Pv (lenV a0) λa=>CT ω 59 #[a,(.int .i64 2)]<|gh λa=>Aq ((S0,Bf,I0,I0,()):Value×Value×Value×Value×Unit) λs b=>ADd ω a0 a s.1 s.2.1 s.2.2.1 s.2.2.2.1 b K
def AQm:=zkc1 APV 85 Tryz.func85
def TF (ω:Om)(p1 p2:Value)(p3 p4:Value)(K:Value→M):M:=Lf 8 p1 λa=>CT ω 110 #[a]<|gh λa=>Lf 2 p1 λb=>CT ω 81 #[b]<|gh λb=>AC 5 1 #[(.int .u8 0)] 1 [(0,(.int .u8 83))]<|gh λc=>CT ω 82 #[c,p4]<|gh λc=>AC 5 1 #[(.int .u8 0)] 1 [(0,(.int .u8 86))]<|gh λd=>App 5 1 1 #[(.int .u8 0)] c d<|gh λc=>CT ω 82 #[c,p4]<|gh λc=>Bg λS=>AC 5 1 #[(.int .u8 0)] 1 [(0,(.int .u8 67))]<|gh<|AQ S λd=>App 5 1 1 #[(.int .u8 0)] c d<|gh<|AQ S λc=>Lg S 8 p1 λd=>CT ω 82 #[c,d]<|gh λc=>Bg λS=>AC 5 1 #[(.int .u8 0)] 1 [(0,(.int .u8 77))]<|gh<|AQ S λd=>App 5 1 1 #[(.int .u8 0)] c d<|gh<|AQ S λc=>Lg S 2 p1 λd=>CT ω 82 #[c,d]<|gh λc=>AC 5 1 #[(.int .u8 0)] 1 [(0,(.int .u8 0))]<|gh λd=>App 5 1 1 #[(.int .u8 0)] c d<|gh λc=>Gd a true (Pv (unV .not b) λa=>K (Value.tuple #[c,a])) (K (Value.tuple #[c,Bf]))
def APU (ω:Om)(a0:Value)(K:Value→M):M:=New (.cells (Value.cells a0) 49 (0,0))<|gh λa=>Lf 9 a λb=>Br b (TF ω a S0 Bf (zS [70,65,84,65,76]) K) (TF ω a S0 Bf (zS [69,82,82,79,82]) K)
def AQl:=zkc1 APU 86 Tryz.func86
def ADb (ω:Om)(p1 p6:Value)(x0 x7:Value)(Kn0:(Value×Value×Unit)→M)(K:Value→M):M:=Pv (AA .geq x7 I0) λa=>Br a (Pv (AA .mul (.int .i64 8) x7) λa=>Pv (AA .shr p1 a) λa=>Pv (GG .u8 a) λa=>AC 5 1 #[(.int .u8 0)] 1 [(0,a)]<|gh λa=>App 5 1 1 #[(.int .u8 0)] x0 a<|gh λa=>Pv (AA .sub x7 (.int .i64 1)) λb=>Kn0 (a,b,())) (K x0)
def APT (ω:Om)(a0 a1 a2:Value)(K:Value→M):M:=Pv (AA .sub a2 (.int .i64 1)) λa=>Aq ((a0,a,()):Value×Value×Unit) λs a=>ADb ω a1 S0 s.1 s.2.1 a K
def AQk:=zkc3 APT 91 Tryz.func91
def APS (ω:Om)(a0:Value)(K:Value→M):M:=CT ω 115 #[a0,(Value.func (.func 116) #[] #[])]<|gh λa=>Pv (unV .not a) λa=>K a
def AQj:=zkc1 APS 92 Tryz.func92
def ADZ (ω:Om)(p0 p2:Value)(p3 p5:Value)(K:Value→M):M:=Pv (lenV p0) λa=>Pv (AA .leq a (.int .i64 1600)) λa=>K (Value.tuple #[p5,a])
end Go.Proofs.YthkaekjoemhjaaaGreatDoor
