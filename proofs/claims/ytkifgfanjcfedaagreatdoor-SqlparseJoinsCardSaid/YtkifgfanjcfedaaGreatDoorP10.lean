/-
  Lemmas, part 10: laid together by a program.
-/
import Derived.Test.YtkifgfanjcfedaaGreatDoorP9
import Derived.Test.YtkifgfanjcfedaaGreatDoorP8
set_option maxRecDepth 100000
set_option linter.unusedVariables false
set_option linter.unusedSimpArgs false
set_option linter.unusedSectionVars false
namespace Go.Proofs.YtkifgfanjcfedaaGreatDoor
open Go.SL
def stop (l:List Tok):Prop:=∃t r,l=t::r∧(t.kind=6∨(t.kind=5∧t.text=[59]))
structure Sim (S:List Tok→List Tok→Prop)(E:Nat→Nat→Prop):Prop where
 view:∀{l m:List Tok},S l m→(∃t u r q,l=t::r∧m=u::q∧t.st=u.st∧S r q)∨(stop l∧stop m)
 bad:∀{l m:List Tok},S l m→E (hd l).at' (hd m).at'
theorem NS {t u:Tok}(h:t.st=u.st):t.kind=u.kind∧t.text=u.text∧t.num=u.num:=by
 simp only [Tok.st,Tok.mk.injEq] at h;exact ⟨h.1,h.2.2.1,h.2.2.2⟩
theorem PU {l:List Tok}{s:Bs}(h:stop l)(hs:s≠[59]):isT l s=false:=by
 obtain ⟨t,r,rfl,h|⟨h,h'⟩⟩:=h
 ·simp [isT,hd,h]
 ·simp [isT,hd,h,h',Ne.symm hs]
theorem PW {l:List Tok}{k:Int}(h:stop l)(hk:k≠5∧k≠6):isK l k=false:=by
 obtain ⟨t,r,rfl,h|⟨h,_⟩⟩:=h
 ·simp [isK,hd,h,Ne.symm hk.2]
 ·simp [isK,hd,h,Ne.symm hk.1]
theorem PV {l:List Tok}{s:Bs}(h:stop l)(hs:s≠[59]):(isK l 5&&(hd l).text==s)=false:=by
 obtain ⟨t,r,rfl,h|⟨h,h'⟩⟩:=h
 ·simp [isK,hd,h]
 ·simp [isK,hd,h,h',Ne.symm hs]
section
variable {S:List Tok→List Tok→Prop}{E:Nat→Nat→Prop}(h:Sim S E)
include h
theorem Sim.eT {l m:List Tok}(hs:S l m)(s:Bs)(hne:s≠[59]):isT l s=isT m s:=by
 rcases h.view hs with ⟨t,u,r,q,rfl,rfl,e,_⟩|⟨h1,h2⟩
 ·have:=NS e;simp only [isT,hd,List.headD_cons,this.1,this.2.1]
 ·rw [PU h1 hne,PU h2 hne]
theorem Sim.eK {l m:List Tok}(hs:S l m)(k:Int)(hk:k≠5∧k≠6):isK l k=isK m k:=by
 rcases h.view hs with ⟨t,u,r,q,rfl,rfl,e,_⟩|⟨h1,h2⟩
 ·have:=NS e;simp only [isK,hd,List.headD_cons,this.1]
 ·rw [PW h1 hk,PW h2 hk]
theorem Sim.eS {l m:List Tok}(hs:S l m)(s:Bs)(hne:s≠[59]):(isK l 5&&(hd l).text==s)=(isK m 5&&(hd m).text==s):=by
 rcases h.view hs with ⟨t,u,r,q,rfl,rfl,e,_⟩|⟨h1,h2⟩
 ·have:=NS e;simp only [isK,hd,List.headD_cons,this.1,this.2.1]
 ·rw [PV h1 hne,PV h2 hne]
theorem Sim.ns {l m:List Tok}(hs:S l m)(hn:¬stop l):S l.tail m.tail∧(hd l).text=(hd m).text∧(hd l).num=(hd m).num∧l.tail.length < l.length∧m.tail.length < m.length:=by
 rcases h.view hs with ⟨t,u,r,q,rfl,rfl,e,hr⟩|⟨h1,h2⟩
 ·have:=NS e;exact ⟨hr,this.2.1,this.2.2,by simp,by simp⟩
 ·exact absurd h1 hn
theorem Sim.tT {l m:List Tok}(hs:S l m){s:Bs}(hne:s≠[59])(ht:isT l s=true):S l.tail m.tail∧(hd l).text=(hd m).text∧(hd l).num=(hd m).num∧l.tail.length < l.length∧m.tail.length < m.length:=
 h.ns hs fun hst=>by rw [PU hst hne] at ht;cases ht
theorem Sim.tK {l m:List Tok}(hs:S l m){k:Int}(hk:k≠5∧k≠6)(ht:isK l k=true):S l.tail m.tail∧(hd l).text=(hd m).text∧(hd l).num=(hd m).num∧l.tail.length < l.length∧m.tail.length < m.length:=
 h.ns hs fun hst=>by rw [PW hst hk] at ht;cases ht
theorem Sim.tS {l m:List Tok}(hs:S l m){s:Bs}(hne:s≠[59])(ht:(isK l 5&&(hd l).text==s)=true):S l.tail m.tail∧(hd l).text=(hd m).text∧(hd l).num=(hd m).num∧l.tail.length < l.length∧m.tail.length < m.length:=
 h.ns hs fun hst=>by rw [PV hst hne] at ht;cases ht
theorem Sim.pos {l m:List Tok}(hs:S l m):0 < l.length∧0 < m.length:=by
 rcases h.view hs with ⟨t,u,r,q,rfl,rfl,_,_⟩|⟨⟨_,_,rfl,_⟩,⟨_,_,rfl,_⟩⟩ <;> simp
omit h
variable (S E) in
def RS {α:Type}(a b:Nat):Res α→Res α→Prop
 | .ok x r,.ok y q=>x=y∧S r q∧r.length < a∧q.length < b
 | .err e,.err f=>E e f
 |_,_=>False
theorem RS.mono {α:Type}{a b a' b':Nat}{g g':Res α}(h:RS S E a b g g')(ha:a≤a')(hb:b≤b'):RS S E a' b' g g':=by
 cases g <;> cases g' <;> simp only [RS] at h ⊢
 ·exact ⟨h.1,h.2.1,by omega,by omega⟩
 ·exact h
theorem RS.bind {α β:Type}{a b c d:Nat}{g g':Res α}{f f':α→Pr β}(hg:RS S E a b g g')(hf:∀x r q,S r q→r.length < a→q.length < b→RS S E c d (f x r) (f' x q)):RS S E c d (g.bind f) (g'.bind f'):=by
 cases g <;> cases g' <;> simp only [RS] at hg
 ·obtain ⟨rfl,h1,h2,h3⟩:=hg;exact hf _ _ _ h1 h2 h3
 ·exact hg
theorem RS.ok {α:Type}{a b:Nat}{x:α}{r q:List Tok}(h:S r q)(h1:r.length < a)(h2:q.length < b):RS S E a b (.ok x r) (.ok x q):=⟨rfl,h,h1,h2⟩
include h
theorem RS.bad {α:Type}{a b:Nat}{l m:List Tok}(hs:S l m):RS S E a b (bad l:Res α) (bad m):=h.bad hs
variable (S E) in
def SP {α:Type}(n n':Nat)(P P':Pr α):Prop:=∀l m,S l m→l.length≤n→m.length≤n'→RS S E l.length m.length (P l) (P' m)
theorem BJ {s:Bs}(hne:s≠[59]){l m:List Tok}(hs:S l m):RS S E l.length m.length (AX s l) (AX s m):=by
 unfold AX;rw [←h.eT hs s hne];split
 ·rename_i ht
  obtain ⟨h1,_,_,h2,h3⟩:=h.tT hs hne ht;exact .ok h1 h2 h3
 ·exact RS.bad h hs
theorem CS {l m:List Tok}(hs:S l m):RS S E l.length m.length (BG l) (BG m):=by
 unfold BG;rw [←h.eK hs 1 (by decide)];split
 ·rename_i ht
  obtain ⟨h1,h4,_,h2,h3⟩:=h.tK hs (by decide) ht;rw [h4];exact .ok h1 h2 h3
 ·exact RS.bad h hs
theorem TM {l m:List Tok}(hs:S l m):RS S E l.length m.length (LC l) (LC m):=by
 unfold LC;rw [←h.eK hs 3 (by decide)];split
 ·rename_i ht
  obtain ⟨h1,_,h4,h2,h3⟩:=h.tK hs (by decide) ht;rw [h4];exact .ok h1 h2 h3
 ·exact RS.bad h hs
theorem Rh {l m:List Tok}(hs:S l m):RS S E l.length m.length (EL l) (EL m):=by
 unfold EL;rw [←h.eK hs 3 (by decide)];by_cases ht:isK l 3=true
 ·obtain ⟨h1,_,h4,h2,h3⟩:=h.tK hs (by decide) ht;rw [h4];split
  ·exact .ok h1 h2 h3
  ·exact RS.bad h hs
 ·have ht:isK l 3=false:=by simpa using ht
  simp only [ht,Bool.false_and,Bool.false_eq_true,if_false];exact RS.bad h hs
theorem Yd {l m:List Tok}(hs:S l m):Ht l=Ht m∧∀v,Ht l=some v→S l.tail m.tail∧l.tail.length < l.length∧m.tail.length < m.length:=by
 unfold Ht;rw [←h.eK hs 4 (by decide),←h.eT hs [116,114,117,101] (by decide),←h.eT hs [102,97,108,115,101] (by decide),←h.eT hs [110,117,108,108] (by decide)];split
 ·rename_i ht
  obtain ⟨h1,h4,_,h2,h3⟩:=h.tK hs (by decide) ht;rw [h4];exact ⟨rfl,fun _ _=>⟨h1,h2,h3⟩⟩
 split
 ·rename_i ht
  obtain ⟨h1,h4,_,h2,h3⟩:=h.tT hs (by decide) ht;exact ⟨rfl,fun _ _=>⟨h1,h2,h3⟩⟩
 split
 ·rename_i ht
  obtain ⟨h1,h4,_,h2,h3⟩:=h.tT hs (by decide) ht;exact ⟨rfl,fun _ _=>⟨h1,h2,h3⟩⟩
 split
 ·rename_i ht
  obtain ⟨h1,h4,_,h2,h3⟩:=h.tT hs (by decide) ht;exact ⟨rfl,fun _ _=>⟨h1,h2,h3⟩⟩
 ·exact ⟨rfl,fun _ he=>by cases he⟩
variable (S) in
omit h in
def OpS (op:List Tok→Int):Prop:=∀l m,S l m→op l=op m∧(op l≠0→S l.tail m.tail∧l.tail.length < l.length∧m.tail.length < m.length)
theorem ANn:OpS S MF:=fun l m hs=>by
 unfold MF;rw [←h.eT hs [111,114] (by decide)];split
 ·rename_i ht
  obtain ⟨h1,_,_,h2,h3⟩:=h.tT hs (by decide) ht;exact ⟨rfl,fun _=>⟨h1,h2,h3⟩⟩
 ·exact ⟨rfl,fun he=>absurd rfl he⟩
theorem AKg:OpS S IB:=fun l m hs=>by
 unfold IB;rw [←h.eT hs [97,110,100] (by decide)];split
 ·rename_i ht
  obtain ⟨h1,_,_,h2,h3⟩:=h.tT hs (by decide) ht;exact ⟨rfl,fun _=>⟨h1,h2,h3⟩⟩
 ·exact ⟨rfl,fun he=>absurd rfl he⟩
theorem AKf:OpS S Eg:=fun l m hs=>by
 unfold Eg;rw [←h.eT hs [61] (by decide),←h.eT hs [60,62] (by decide),←h.eT hs [60] (by decide),←h.eT hs [60,61] (by decide),←h.eT hs [62] (by decide),←h.eT hs [62,61] (by decide)];refine ⟨rfl,fun he=>?_⟩;have go:∀s:Bs,s≠[59]→isT l s=true→S l.tail m.tail∧l.tail.length < l.length∧m.tail.length < m.length:=fun s hne ht=>by
  obtain ⟨h1,_,_,h2,h3⟩:=h.tT hs hne ht;exact ⟨h1,h2,h3⟩
 repeat' split at he
 all_goals first
  |exact absurd rfl he
  |(refine go _ ?_ zA;decide)
theorem ADQ {f:Bs→Option Int}(hf:f [59]=none):OpS S (IX f):=fun l m hs=>by
 unfold IX;rcases h.view hs with ⟨t,u,r,q,rfl,rfl,e,hr⟩|⟨h1,h2⟩
 ·have:=NS e;refine ⟨by rw [show isK (t::r) 5=isK (u::q) 5 by simp only [isK,hd,List.headD_cons,this.1],show hd (t::r)=t from rfl,show hd (u::q)=u from rfl,this.2.1],fun _=>⟨hr,by simp,by simp⟩⟩
 ·have hz:∀{l:List Tok},stop l→(if isK l 5=true then (f (hd l).text).getD 0 else 0)=0:=by
   rintro l ⟨t,r,rfl,h|⟨h,h'⟩⟩
   ·simp [isK,hd,h]
   ·simp [isK,hd,h,h',hf]
  rw [hz h1,hz h2];exact ⟨rfl,fun he=>absurd rfl he⟩
theorem VH {α:Type}{n n':Nat}{P P':Pr α}(hp:SP S E n n' P P'):∀(k k':Nat) (acc:List α) (l m:List Tok),S l m→l.length≤k→m.length≤k'→l.length≤n→m.length≤n'→RS S E (l.length+1) (m.length+1) (Cb P k acc l) (Cb P' k' acc m)
 |0,_,_,l,m,hs,h1,_,_,_=>by have:=(h.pos hs).1;omega
 |k+1,k',acc,l,m,hs,h1,h2,h3,h4=>by
  have:=(h.pos hs).2;obtain ⟨k',rfl⟩:∃q,k'=q+1:=⟨k' - 1,by omega⟩;simp only [Cb];rw [←h.eT hs [44] (by decide)];split
  ·rename_i ht
   obtain ⟨g1,_,_,g2,g3⟩:=h.tT hs (by decide) ht;refine RS.bind (hp _ _ g1 (by omega) (by omega)) (fun x r q hr h5 h6=>?_);exact (VH hp k k' _ r q hr (by omega) (by omega) (by omega) (by omega)).mono (by omega) (by omega)
  ·exact .ok hs (by omega) (by omega)
theorem IM {α:Type}{n n':Nat}{P P':Pr α}(hp:SP S E n n' P P'):SP S E n n' (Bc n P) (Bc n' P'):=fun l m hs h1 h2=>
 RS.bind (hp l m hs h1 h2) fun x r q hr h3 h4=>(VH h hp n n' [x] r q hr (by omega) (by omega) (by omega) (by omega)).mono (by omega) (by omega)
theorem JU {α:Type}{n n':Nat}{P P':Pr α}(hp:SP S E n n' P P'):SP S E n n' (Bv n P) (Bv n' P'):=fun l m hs h1 h2=>
 RS.bind (BJ h (by decide) hs) fun _ r q hr h3 h4=>RS.bind (IM h hp r q hr (by omega) (by omega)) fun _ r2 q2 hr2 h5 h6=>
  RS.bind (BJ h (by decide) hr2) fun _ r3 q3 hr3 h7 h8=>.ok hr3 (by omega) (by omega)
theorem VI {n n':Nat}{P P':Pr Ex}(hp:SP S E n n' P P'){op:List Tok→Int}(ho:OpS S op):∀(k k':Nat) (x:Ex) (l m:List Tok),S l m→l.length≤k→m.length≤k'→l.length≤n→m.length≤n'→RS S E (l.length+1) (m.length+1) (Et P op k x l) (Et P' op k' x m)
 |0,_,_,l,m,hs,h1,_,_,_=>by have:=(h.pos hs).1;omega
 |k+1,k',x,l,m,hs,h1,h2,h3,h4=>by
  have:=(h.pos hs).2;obtain ⟨k',rfl⟩:∃q,k'=q+1:=⟨k' - 1,by omega⟩;obtain ⟨e,ht⟩:=ho l m hs;simp only [Et];rw [←e];split
  ·exact .ok hs (by omega) (by omega)
  ·rename_i hne
   obtain ⟨g1,g2,g3⟩:=ht hne;refine RS.bind (hp _ _ g1 (by omega) (by omega)) (fun y r q hr h5 h6=>?_);exact (VI hp ho k k' _ r q hr (by omega) (by omega) (by omega) (by omega)).mono (by omega) (by omega)
theorem Jq {n n' k k':Nat}{P P':Pr Ex}(hp:SP S E n n' P P'){op:List Tok→Int}(ho:OpS S op)(hk:n≤k+1)(hk':n'≤k'+1):SP S E n n' (DD k P op) (DD k' P' op):=fun l m hs h1 h2=>
 RS.bind (hp l m hs h1 h2) fun x r q hr h3 h4=>(VI h hp ho k k' x r q hr (by omega) (by omega) (by omega) (by omega)).mono (by omega) (by omega)
theorem VE {k k' n n':Nat}{P P':Pr Ex}(hp:SP S E n n' P P')(acc:List Ex):SP S E n n' (Eb k P acc) (Eb k' P' acc):=fun l m hs h1 h2=>
 RS.bind (BJ h (by decide) hs) fun _ r q hr h3 h4=>RS.bind (hp r q hr (by omega) (by omega)) fun _ r2 q2 hr2 h5 h6=>
  RS.bind (BJ h (by decide) hr2) fun _ r3 q3 hr3 h7 h8=>RS.bind (hp r3 q3 hr3 (by omega) (by omega)) fun _ r4 q4 hr4 h9 h10=>.ok hr4 (by omega) (by omega)
theorem RY {i i' n n':Nat}{P P':Pr Ex}(hp:SP S E n n' P P'):∀(k k':Nat) (acc:List Ex) (l m:List Tok),S l m→l.length≤k→m.length≤k'→l.length≤n→m.length≤n'→RS S E (l.length+1) (m.length+1) (EX i P k acc l) (EX i' P' k' acc m)
 |0,_,_,l,m,hs,h1,_,_,_=>by have:=(h.pos hs).1;omega
 |k+1,k',acc,l,m,hs,h1,h2,h3,h4=>by
  have:=(h.pos hs).2;obtain ⟨k',rfl⟩:∃q,k'=q+1:=⟨k' - 1,by omega⟩;simp only [EX];rw [←h.eT hs [119,104,101,110] (by decide)];split
  ·refine RS.bind (VE h hp acc l m hs h3 h4) (fun x r q hr h5 h6=>?_);exact (RY hp k k' _ r q hr (by omega) (by omega) (by omega) (by omega)).mono (by omega) (by omega)
  ·exact .ok hs (by omega) (by omega)
theorem ADP {n n':Nat}{P P':Pr Ex}(hp:SP S E n n' P P'):SP S E n n' (Ig n P) (Ig n' P'):=fun l m hs h1 h2=>by
 refine RS.bind (VE h hp [] l m hs h1 h2) fun a r q hr h3 h4=>?_;refine RS.bind (RY h hp n n' a r q hr (by omega) (by omega) (by omega) (by omega)) fun a2 r2 q2 hr2 h5 h6=>?_;refine RS.bind (a:=l.length) (b:=m.length) ?_ fun a3 r3 q3 hr3 h7 h8=>RS.bind (BJ h (by decide) hr3) fun _ r4 q4 hr4 h9 h10=>.ok hr4 (by omega) (by omega);rw [←h.eT hr2 [101,108,115,101] (by decide)];split
 ·rename_i ht
  obtain ⟨g1,_,_,g2,g3⟩:=h.tT hr2 (by decide) ht;exact RS.bind (hp _ _ g1 (by omega) (by omega)) fun x r5 q5 hr5 h9 h10=>.ok hr5 (by omega) (by omega)
 ·exact .ok hr2 (by omega) (by omega)
theorem OB {s:Bs}(hne:s≠[59]){l m:List Tok}(hs:S l m):isT l s=isT m s∧S (if isT l s then l.tail else l) (if isT m s then m.tail else m)∧(if isT l s then l.tail else l).length≤l.length∧(if isT m s then m.tail else m).length≤m.length:=by
 rw [←h.eT hs s hne];refine ⟨rfl,?_⟩;split
 ·rename_i ht
  obtain ⟨h1,_,_,h2,h3⟩:=h.tT hs hne ht;exact ⟨h1,by omega,by omega⟩
 ·exact ⟨hs,Nat.le_refl _,Nat.le_refl _⟩
theorem ABi {n n':Nat}{P P':Pr Ex}(hp:SP S E n n' P P')(s:Bs):SP S E n n' (DZ n P s) (DZ n' P' s):=fun l m hs h1 h2=>by
 unfold DZ;split
 ·exact RS.bind (JU h hp l m hs h1 h2) fun a r q hr h3 h4=>.ok hr h3 h4
 refine RS.bind (BJ h (by decide) hs) fun _ r q hr h3 h4=>?_;split
 ·exact RS.bind (hp r q hr (by omega) (by omega)) fun _ r2 q2 hr2 h5 h6=>RS.bind (BJ h (by decide) hr2) fun _ r3 q3 hr3 h7 h8=>.ok hr3 (by omega) (by omega)
 rw [←h.eT hr [42] (by decide)];split
 ·rename_i ht
  simp only [Bool.and_eq_true] at ht;obtain ⟨g1,_,_,g2,g3⟩:=h.tT hr (by decide) ht.2;exact RS.bind (BJ h (by decide) g1) fun _ r3 q3 hr3 h7 h8=>.ok hr3 (by omega) (by omega)
 obtain ⟨e1,e2,e3,e4⟩:=OB h (s:=[100,105,115,116,105,110,99,116]) (by decide) hr;rw [e1] at e2 e3 ⊢;refine RS.bind (hp _ _ e2 (by omega) (by omega)) fun _ r2 q2 hr2 h5 h6=>RS.bind (BJ h (by decide) hr2) fun _ r3 q3 hr3 h7 h8=>.ok hr3 (by omega) (by omega)
theorem ABd {k k' n n':Nat}{P P' U U':Pr Ex}(hp:SP S E n n' P P')(hu:SP S E n n' U U')(hk:k=n)(hk':k'=n'):SP S E (n+1) (n'+1) (Ep k P U) (Ep k' P' U'):=fun l m hs h1 h2=>by
 subst hk hk';unfold Ep;rw [←h.eT hs [45] (by decide),←h.eT hs [40] (by decide),←h.eT hs [99,97,115,101] (by decide),←h.eK hs 3 (by decide)];split
 ·rename_i ht
  obtain ⟨g1,_,_,g2,g3⟩:=h.tT hs (by decide) ht;exact RS.bind (hu _ _ g1 (by omega) (by omega)) fun x r q hr h5 h6=>.ok hr (by omega) (by omega)
 split
 ·rename_i ht
  obtain ⟨g1,_,_,g2,g3⟩:=h.tT hs (by decide) ht;exact RS.bind (hp _ _ g1 (by omega) (by omega)) fun x r q hr h5 h6=>RS.bind (BJ h (by decide) hr) fun _ r3 q3 hr3 h7 h8=>.ok hr3 (by omega) (by omega)
 split
 ·rename_i ht
  obtain ⟨g1,_,_,g2,g3⟩:=h.tT hs (by decide) ht;exact (ADP h hp _ _ g1 (by omega) (by omega)).mono (by omega) (by omega)
 split
 ·exact TM h hs
 obtain ⟨e1,e2⟩:=Yd h hs;rw [←e1];cases hl:Ht l with
 |some v=>
  obtain ⟨g1,g2,g3⟩:=e2 v hl;exact .ok g1 g2 g3
 |none=>
  refine RS.bind (CS h hs) fun s r q hr h3 h4=>?_;rw [←h.eT hr [40] (by decide),←h.eT hr [46] (by decide)];split
  ·exact (ABi h hp s r q hr (by omega) (by omega)).mono (by omega) (by omega)
  split
  ·rename_i ht
   obtain ⟨g1,_,_,g2,g3⟩:=h.tT hr (by decide) ht;exact RS.bind (CS h g1) fun x r5 q5 hr5 h9 h10=>.ok hr5 (by omega) (by omega)
  ·exact .ok hr (by omega) (by omega)
theorem ADL {n n':Nat}{P P' Q Q':Pr Ex}(hp:SP S E n n' P P')(hq:SP S E (n+1) (n'+1) Q Q'):SP S E (n+1) (n'+1) (IU n P Q) (IU n' P' Q'):=fun l m hs h1 h2=>by
 refine RS.bind (hq l m hs h1 h2) fun x r q hr h3 h4=>?_;obtain ⟨e1,e2⟩:=AKf h r q hr;rw [←e1,←h.eT hr [105,115] (by decide)];split
 ·rename_i hne
  obtain ⟨g1,g2,g3⟩:=e2 hne;exact RS.bind (hq _ _ g1 (by omega) (by omega)) fun y r2 q2 hr2 h5 h6=>.ok hr2 (by omega) (by omega)
 split
 ·rename_i ht
  obtain ⟨g1,_,_,g2,g3⟩:=h.tT hr (by decide) ht;rw [←h.eT g1 [110,111,116] (by decide)];split
  ·rename_i ht
   obtain ⟨g4,_,_,g5,g6⟩:=h.tT g1 (by decide) ht;exact RS.bind (BJ h (by decide) g4) fun _ r3 q3 hr3 h7 h8=>.ok hr3 (by omega) (by omega)
  ·exact RS.bind (BJ h (by decide) g1) fun _ r3 q3 hr3 h7 h8=>.ok hr3 (by omega) (by omega)
 obtain ⟨k1,k2,k3,k4⟩:=OB h (s:=[110,111,116]) (by decide) hr;simp only [k1] at k2 k3 ⊢;generalize (if isT q [110,111,116]=true then r.tail else r)=r' at k2 k3 ⊢;generalize (if isT q [110,111,116]=true then q.tail else q)=q' at k2 k4 ⊢;rw [←h.eT k2 [105,110] (by decide),←h.eT k2 [98,101,116,119,101,101,110] (by decide),←h.eT k2 [108,105,107,101] (by decide)];split
 ·rename_i ht
  obtain ⟨g1,_,_,g2,g3⟩:=h.tT k2 (by decide) ht;exact RS.bind (JU h hp _ _ g1 (by omega) (by omega)) fun a r2 q2 hr2 h5 h6=>.ok hr2 (by omega) (by omega)
 split
 ·rename_i ht
  obtain ⟨g1,_,_,g2,g3⟩:=h.tT k2 (by decide) ht;exact RS.bind (hq _ _ g1 (by omega) (by omega)) fun y r2 q2 hr2 h5 h6=>RS.bind (BJ h (by decide) hr2) fun _ r3 q3 hr3 h7 h8=>RS.bind (hq _ _ hr3 (by omega) (by omega)) fun y r4 q4 hr4 h9 h10=>.ok hr4 (by omega) (by omega)
 split
 ·rename_i ht
  obtain ⟨g1,_,_,g2,g3⟩:=h.tT k2 (by decide) ht;exact RS.bind (hq _ _ g1 (by omega) (by omega)) fun y r2 q2 hr2 h5 h6=>.ok hr2 (by omega) (by omega)
 split
 ·exact RS.bad h k2
 ·exact .ok k2 (by omega) (by omega)
theorem AKe {n n':Nat}{P P' Q Q':Pr Ex}(hp:SP S E n n' P P')(hq:SP S E (n+1) (n'+1) Q Q'):SP S E (n+1) (n'+1) (Nv P Q) (Nv P' Q'):=fun l m hs h1 h2=>by
 unfold Nv;rw [←h.eT hs [110,111,116] (by decide)];split
 ·rename_i ht
  obtain ⟨g1,_,_,g2,g3⟩:=h.tT hs (by decide) ht;exact RS.bind (hp _ _ g1 (by omega) (by omega)) fun x r q hr h5 h6=>.ok hr (by omega) (by omega)
 ·exact hq l m hs h1 h2
theorem Rf:∀n n':Nat,SP S E n n' (Ew n).1 (Ew n').1∧SP S E n n' (Ew n).2.1 (Ew n').2.1∧SP S E n n' (Ew n).2.2 (Ew n').2.2
 |0,n'=>by
  refine ⟨?_,?_,?_⟩ <;> exact fun l m hs h1 _=>absurd (h.pos hs).1 (by omega)
 |n+1,0=>by
  refine ⟨?_,?_,?_⟩ <;> exact fun l m hs _ h1=>absurd (h.pos hs).2 (by omega)
 |n+1,n'+1=>by
  obtain ⟨i1,i2,i3⟩:=Rf n n';have hU:=ABd h i1 i3 rfl rfl;have hS:=Jq h (Jq h hU (ADQ h (f:=KI) (by decide)) (k:=n) (k':=n') (Nat.le_refl _) (Nat.le_refl _)) (ADQ h (f:=Qx) (by decide)) (k:=n) (k':=n') (Nat.le_refl _) (Nat.le_refl _);have hN:=AKe h i2 (ADL h i1 hS);exact ⟨Jq h (Jq h hN (AKg h) (k:=n) (k':=n') (Nat.le_refl _) (Nat.le_refl _)) (ANn h) (k:=n) (k':=n') (Nat.le_refl _) (Nat.le_refl _),hN,hU⟩
theorem PZ (n n':Nat):SP S E n n' (eP n) (eP n'):=(Rf h n n').1
variable (S E) in
omit h in
def SQ {α:Type}(n n':Nat)(P P':Pr α):Prop:=∀l m,S l m→l.length≤n→m.length≤n'→RS S E (l.length+1) (m.length+1) (P l) (P' m)
theorem IP {α:Type}{n n':Nat}{s:Bs}(hne:s≠[59])(d:α){P P':Pr α}(hp:SP S E n n' P P'):SQ S E n n' (NF s d P) (NF s d P'):=fun l m hs h1 h2=>by
 unfold NF;rw [←h.eT hs s hne];split
 ·rename_i ht
  obtain ⟨g1,_,_,g2,g3⟩:=h.tT hs hne ht;exact (hp _ _ g1 (by omega) (by omega)).mono (by omega) (by omega)
 ·exact .ok hs (by omega) (by omega)
theorem Jr {n n':Nat}{s:Bs}(hne:s≠[59]):SQ S E n n' (Dz n s) (Dz n' s):=IP h hne ex0 (PZ h n n')
theorem ABh {n n':Nat}:SP S E n n' Eu Eu:=fun l m hs h1 h2=>by
 unfold Eu;obtain ⟨e1,e2⟩:=Yd h hs;rw [←e1];cases hl:Ht l with
 |some v=>
  obtain ⟨g1,g2,g3⟩:=e2 v hl;exact .ok g1 g2 g3
 |none=>
  simp only
  rw [←h.eT hs [45] (by decide)];split
  ·rename_i ht
   obtain ⟨g1,_,_,g2,g3⟩:=h.tT hs (by decide) ht;exact RS.bind (TM h g1) fun x r q hr h5 h6=>.ok hr (by omega) (by omega)
  ·exact TM h hs
theorem ADM (n n':Nat):SP S E n n' (Fj n) (Fj n'):=fun l m hs h1 h2=>by
 unfold Fj;rw [←h.eT hs [42] (by decide)];split
 ·rename_i ht
  obtain ⟨g1,_,_,g2,g3⟩:=h.tT hs (by decide) ht;exact .ok g1 g2 g3
 have key:(isK l 1&&isK l.tail 5&&(hd l.tail).text==[46]&&isK l.tail.tail 5&&(hd l.tail.tail).text==[42])=(isK m 1&&isK m.tail 5&&(hd m.tail).text==[46]&&isK m.tail.tail 5&&(hd m.tail.tail).text==[42])∧
   ((isK l 1&&isK l.tail 5&&(hd l.tail).text==[46]&&isK l.tail.tail 5&&(hd l.tail.tail).text==[42])=true→S l.tail.tail.tail m.tail.tail.tail∧(hd l).text=(hd m).text∧l.tail.tail.tail.length < l.length∧m.tail.tail.tail.length < m.length):=by
  rw [←h.eK hs 1 (by decide)];cases h1:isK l 1 with
  |false=>simp
  |true=>
   obtain ⟨g1,g2,_,g3,g4⟩:=h.tK hs (by decide) h1;have e2:=h.eS g1 [46] (by decide);simp only [Bool.true_and];rw [←e2];cases h2:(isK l.tail 5&&(hd l.tail).text==[46]) with
   |false=>simp
   |true=>
    obtain ⟨g5,_,_,g6,g7⟩:=h.tS g1 (by decide) h2;have e3:=h.eS g5 [42] (by decide);simp only [Bool.true_and];rw [←e3];refine ⟨rfl,fun h3=>?_⟩;obtain ⟨g8,_,_,g9,g10⟩:=h.tS g5 (by decide) h3;exact ⟨g8,g2,by omega,by omega⟩
 obtain ⟨k1,k2⟩:=key;rw [←k1];split
 ·rename_i hb
  obtain ⟨g1,g2,g3,g4⟩:=k2 hb;rw [g2];exact .ok g1 g3 g4
 refine RS.bind (PZ h n n' l m hs h1 h2) fun x r q hr h3 h4=>?_;rw [←h.eT hr [97,115] (by decide)];split
 ·rename_i ht
  obtain ⟨g1,_,_,g2,g3⟩:=h.tT hr (by decide) ht;exact RS.bind (CS h g1) fun a r2 q2 hr2 h5 h6=>.ok hr2 (by omega) (by omega)
 ·exact .ok hr h3 h4
theorem ABg (n n':Nat):SP S E n n' (Gy n) (Gy n'):=fun l m hs h1 h2=>by
 refine RS.bind (PZ h n n' l m hs h1 h2) fun x r q hr h3 h4=>?_;rw [←h.eT hr [100,101,115,99] (by decide),←h.eT hr [97,115,99] (by decide)];split
 ·rename_i ht
  obtain ⟨g1,_,_,g2,g3⟩:=h.tT hr (by decide) ht;exact .ok g1 (by omega) (by omega)
 split
 ·rename_i ht
  obtain ⟨g1,_,_,g2,g3⟩:=h.tT hr (by decide) ht;exact .ok g1 (by omega) (by omega)
 ·exact .ok hr h3 h4
theorem Ip {n n':Nat}:SP S E n n' Ce Ce:=fun l m hs h1 h2=>by
 refine RS.bind (CS h hs) fun s r q hr h3 h4=>?_;rw [←h.eT hr [97,115] (by decide),←h.eK hr 1 (by decide)];split
 ·rename_i ht
  obtain ⟨g1,_,_,g2,g3⟩:=h.tT hr (by decide) ht;exact RS.bind (CS h g1) fun a r2 q2 hr2 h5 h6=>.ok hr2 (by omega) (by omega)
 split
 ·exact RS.bind (CS h hr) fun a r2 q2 hr2 h5 h6=>.ok hr2 (by omega) (by omega)
 ·exact .ok hr h3 h4
theorem PY (n n':Nat)(b:Bool):SP S E n n' (GR n b) (GR n' b):=fun l m hs h1 h2=>
 RS.bind (BJ h (by decide) hs) fun _ r q hr h3 h4=>RS.bind (Ip h r q hr (Nat.le_refl _) (Nat.le_refl _)) fun s r2 q2 hr2 h5 h6=>
  RS.bind (BJ h (by decide) hr2) fun _ r3 q3 hr3 h7 h8=>RS.bind (PZ h n n' r3 q3 hr3 (by omega) (by omega)) fun x r4 q4 hr4 h9 h10=>.ok hr4 (by omega) (by omega)
theorem Gf (n n':Nat):∀(k k':Nat) (acc:List TSource) (l m:List Tok),S l m→l.length≤k→m.length≤k'→l.length≤n→m.length≤n'→RS S E (l.length+1) (m.length+1) (Ci n k acc l) (Ci n' k' acc m)
 |0,_,_,l,m,hs,h1,_,_,_=>by have:=(h.pos hs).1;omega
 |k+1,k',acc,l,m,hs,h1,h2,h3,h4=>by
  have:=(h.pos hs).2;obtain ⟨k',rfl⟩:∃q,k'=q+1:=⟨k' - 1,by omega⟩;simp only [Ci];rw [←h.eT hs [44] (by decide),←h.eT hs [99,114,111,115,115] (by decide),←h.eT hs [108,101,102,116] (by decide),←h.eT hs [105,110,110,101,114] (by decide),←h.eT hs [106,111,105,110] (by decide)];split
  ·rename_i ht
   obtain ⟨g1,_,_,g2,g3⟩:=h.tT hs (by decide) ht;exact RS.bind (Ip h _ _ g1 (Nat.le_refl _) (Nat.le_refl _)) (fun x r q hr h5 h6=>(Gf n n' k k' _ r q hr (by omega) (by omega) (by omega) (by omega)).mono (by omega) (by omega))
  split
  ·rename_i ht
   obtain ⟨g1,_,_,g2,g3⟩:=h.tT hs (by decide) ht;exact RS.bind (BJ h (by decide) g1) fun _ r q hr h5 h6=>RS.bind (Ip h r q hr (Nat.le_refl _) (Nat.le_refl _)) (fun x r q hr h5 h6=>(Gf n n' k k' _ r q hr (by omega) (by omega) (by omega) (by omega)).mono (by omega) (by omega))
  split
  ·rename_i ht
   obtain ⟨g1,_,_,g2,g3⟩:=h.tT hs (by decide) ht;exact RS.bind (PY h n n' _ _ _ g1 (by omega) (by omega)) (fun x r q hr h5 h6=>(Gf n n' k k' _ r q hr (by omega) (by omega) (by omega) (by omega)).mono (by omega) (by omega))
  split
  ·rename_i ht
   obtain ⟨g1,_,_,g2,g3⟩:=h.tT hs (by decide) ht;exact RS.bind (PY h n n' _ _ _ g1 (by omega) (by omega)) (fun x r q hr h5 h6=>(Gf n n' k k' _ r q hr (by omega) (by omega) (by omega) (by omega)).mono (by omega) (by omega))
  split
  ·exact RS.bind (PY h n n' _ _ _ hs (by omega) (by omega)) (fun x r q hr h5 h6=>(Gf n n' k k' _ r q hr (by omega) (by omega) (by omega) (by omega)).mono (by omega) (by omega))
  ·exact .ok hs (by omega) (by omega)
theorem ADN (n n':Nat):SP S E n n' (Jk n) (Jk n'):=fun l m hs h1 h2=>
 RS.bind (Ip h l m hs h1 h2) fun s r q hr h3 h4=>(Gf h n n' n n' [s] r q hr (by omega) (by omega) (by omega) (by omega)).mono (by omega) (by omega)
theorem Ye {α:Type}{n n':Nat}{P P':Pr α}(hp:SP S E n n' P P'):SP S E n n' (byP P) (byP P'):=fun l m hs h1 h2=>
 RS.bind (BJ h (by decide) hs) fun _ r q hr h3 h4=>(hp r q hr (by omega) (by omega)).mono (by omega) (by omega)
theorem ABf (n n':Nat):SP S E n n' (Fz n) (Fz n'):=fun l m hs h1 h2=>by
 unfold Fz;obtain ⟨e1,e2,e3,e4⟩:=OB h (s:=[100,105,115,116,105,110,99,116]) (by decide) hs;simp only [e1] at e2 e3 ⊢;generalize (if isT m [100,105,115,116,105,110,99,116]=true then l.tail else l)=l' at e2 e3 ⊢;generalize (if isT m [100,105,115,116,105,110,99,116]=true then m.tail else m)=m' at e2 e4 ⊢;refine RS.bind (IM h (ADM h n n') _ _ e2 (by omega) (by omega)) fun x1 r1 q1 hr1 a1 b1=>?_;refine RS.bind (IP h (by decide) [] (ADN h n n') r1 q1 hr1 (by omega) (by omega)) fun x2 r2 q2 hr2 a2 b2=>?_;refine RS.bind (Jr h (by decide) r2 q2 hr2 (by omega) (by omega)) fun x3 r3 q3 hr3 a3 b3=>?_;refine RS.bind (IP h (by decide) [] (Ye h (IM h (PZ h n n'))) r3 q3 hr3 (by omega) (by omega)) fun x4 r4 q4 hr4 a4 b4=>?_;refine RS.bind (Jr h (by decide) r4 q4 hr4 (by omega) (by omega)) fun x5 r5 q5 hr5 a5 b5=>?_;refine RS.bind (IP h (by decide) [] (Ye h (IM h (ABg h n n'))) r5 q5 hr5 (by omega) (by omega)) fun x6 r6 q6 hr6 a6 b6=>?_;refine RS.bind (IP h (n:=n) (n':=n') (by decide) (-1) (fun l m hs _ _=>Rh h hs) r6 q6 hr6 (by omega) (by omega)) fun x7 r7 q7 hr7 a7 b7=>?_;refine RS.bind (IP h (n:=n) (n':=n') (by decide) 0 (fun l m hs _ _=>Rh h hs) r7 q7 hr7 (by omega) (by omega)) fun x8 r8 q8 hr8 a8 b8=>?_;exact .ok hr8 (by omega) (by omega)
theorem AKd (n n':Nat):SP S E n n' (Qz n) (Qz n'):=fun l m hs h1 h2=>
 RS.bind (CS h hs) fun s r q hr h3 h4=>RS.bind (BJ h (by decide) hr) fun _ r2 q2 hr2 h5 h6=>RS.bind (PZ h n n' r2 q2 hr2 (by omega) (by omega)) fun x r3 q3 hr3 h7 h8=>.ok hr3 (by omega) (by omega)
theorem JV:∀(k k':Nat) (c:TCol) (l m:List Tok),S l m→l.length≤k→m.length≤k'→RS S E (l.length+1) (m.length+1) (Es k c l) (Es k' c m)
 |0,_,_,l,m,hs,h1,_=>by have:=(h.pos hs).1;omega
 |k+1,k',c,l,m,hs,h1,h2=>by
  have:=(h.pos hs).2;obtain ⟨k',rfl⟩:∃q,k'=q+1:=⟨k' - 1,by omega⟩;simp only [Es];rw [←h.eT hs [110,111,116] (by decide),←h.eT hs [112,114,105,109,97,114,121] (by decide),←h.eT hs [117,110,105,113,117,101] (by decide),←h.eT hs [100,101,102,97,117,108,116] (by decide)];split
  ·rename_i ht
   simp only [Bool.and_eq_true] at ht;obtain ⟨g1,_,_,g2,g3⟩:=h.tT hs (by decide) ht.2;exact RS.bind (BJ h (by decide) g1) fun _ r q hr h5 h6=>(JV k k' _ r q hr (by omega) (by omega)).mono (by omega) (by omega)
  split
  ·rename_i ht
   simp only [Bool.and_eq_true] at ht;obtain ⟨g1,_,_,g2,g3⟩:=h.tT hs (by decide) ht.2;exact RS.bind (BJ h (by decide) g1) fun _ r q hr h5 h6=>(JV k k' _ r q hr (by omega) (by omega)).mono (by omega) (by omega)
  split
  ·rename_i ht
   simp only [Bool.and_eq_true] at ht;obtain ⟨g1,_,_,g2,g3⟩:=h.tT hs (by decide) ht.2;exact (JV k k' _ _ _ g1 (by omega) (by omega)).mono (by omega) (by omega)
  split
  ·rename_i ht
   simp only [Bool.and_eq_true] at ht;obtain ⟨g1,_,_,g2,g3⟩:=h.tT hs (by decide) ht.2;exact RS.bind (ABh h (n:=l.length) (n':=m.length) _ _ g1 (by omega) (by omega)) fun _ r q hr h5 h6=>(JV k k' _ r q hr (by omega) (by omega)).mono (by omega) (by omega)
  ·exact .ok hs (by omega) (by omega)
theorem XN (n n':Nat):SP S E n n' (ET n) (ET n'):=fun l m hs h1 h2=>by
 refine RS.bind (CS h hs) fun s r q hr h3 h4=>?_;rw [←h.eK hr 1 (by decide)];by_cases hk:isK r 1=true
 ·obtain ⟨g1,g4,_,g2,g3⟩:=h.tK hr (by decide) hk;simp only [hk,if_true,g4];split
  ·exact RS.bad h hr
  ·exact (JV h n n' _ _ _ g1 (by omega) (by omega)).mono (by omega) (by omega)
 ·have hk:isK r 1=false:=by simpa using hk
  simp only [hk,Bool.false_eq_true,if_false,if_true];exact RS.bad h hr
theorem VF (n n':Nat):∀(k k':Nat) (cs:List TCol) (ks:List Bs) (l m:List Tok),S l m→l.length≤k→m.length≤k'→l.length≤n→m.length≤n'→RS S E (l.length+1) (m.length+1) (Ed n k cs ks l) (Ed n' k' cs ks m)
 |0,_,_,_,l,m,hs,h1,_,_,_=>by have:=(h.pos hs).1;omega
 |k+1,k',cs,ks,l,m,hs,h1,h2,h3,h4=>by
  have:=(h.pos hs).2;obtain ⟨k',rfl⟩:∃q,k'=q+1:=⟨k' - 1,by omega⟩;simp only [Ed];refine RS.bind (a:=l.length) (b:=m.length) ?_ fun x r q hr h5 h6=>?_
  ·rw [←h.eT hs [112,114,105,109,97,114,121] (by decide)];split
   ·rename_i ht
    simp only [Bool.and_eq_true] at ht;obtain ⟨g1,_,_,g2,g3⟩:=h.tT hs (by decide) ht.2;exact RS.bind (BJ h (by decide) g1) fun _ r q hr h5 h6=>RS.bind (JU h (n:=n) (n':=n') (fun l m hs _ _=>CS h hs) r q hr (by omega) (by omega)) fun k r2 q2 hr2 h7 h8=>.ok hr2 (by omega) (by omega)
   ·exact RS.bind (XN h n n' _ _ hs h3 h4) fun k r2 q2 hr2 h7 h8=>.ok hr2 (by omega) (by omega)
  ·rw [←h.eT hr [44] (by decide)];split
   ·rename_i ht
    obtain ⟨g1,_,_,g2,g3⟩:=h.tT hr (by decide) ht;exact (VF n n' k k' _ _ _ _ g1 (by omega) (by omega) (by omega) (by omega)).mono (by omega) (by omega)
   ·exact .ok hr (by omega) (by omega)
theorem ABe (n n':Nat):SP S E n n' (MW n) (MW n'):=fun l m hs h1 h2=>by
 refine RS.bind (CS h hs) fun s r q hr h3 h4=>RS.bind (BJ h (by decide) hr) fun _ r2 q2 hr2 h5 h6=>?_;refine RS.bind (VF h n n' (n+1) (n'+1) [] [] r2 q2 hr2 (by omega) (by omega) (by omega) (by omega)) fun x r3 q3 hr3 h7 h8=>?_;split
 ·exact RS.bad h hr3
 ·exact RS.bind (BJ h (by decide) hr3) fun _ r4 q4 hr4 h9 h10=>.ok hr4 (by omega) (by omega)
theorem RZ (n n':Nat):SP S E n n' (Bv n BG) (Bv n' BG):=JU h fun l m hs _ _=>CS h hs
theorem XM (n n':Nat):SP S E n n' (ES n) (ES n'):=fun l m hs h1 h2=>by
 unfold ES;rw [←h.eT hs [116,97,98,108,101] (by decide)];split
 ·rename_i ht
  obtain ⟨g1,_,_,g2,g3⟩:=h.tT hs (by decide) ht;exact (ABe h n n' _ _ g1 (by omega) (by omega)).mono (by omega) (by omega)
 obtain ⟨e1,e2,e3,e4⟩:=OB h (s:=[117,110,105,113,117,101]) (by decide) hs;simp only [e1] at e2 e3 ⊢;generalize (if isT m [117,110,105,113,117,101]=true then l.tail else l)=l' at e2 e3 ⊢;generalize (if isT m [117,110,105,113,117,101]=true then m.tail else m)=m' at e2 e4 ⊢;exact RS.bind (BJ h (by decide) e2) fun _ r q hr h3 h4=>RS.bind (CS h hr) fun _ r2 q2 hr2 h5 h6=>RS.bind (BJ h (by decide) hr2) fun _ r3 q3 hr3 h7 h8=>
  RS.bind (CS h hr3) fun _ r4 q4 hr4 h9 h10=>RS.bind (RZ h n n' r4 q4 hr4 (by omega) (by omega)) fun _ r5 q5 hr5 h11 h12=>.ok hr5 (by omega) (by omega)
theorem ADO {n n':Nat}:SP S E n n' FO FO:=fun l m hs h1 h2=>by
 unfold FO;rw [←h.eT hs [116,97,98,108,101] (by decide)];split
 ·rename_i ht
  obtain ⟨g1,_,_,g2,g3⟩:=h.tT hs (by decide) ht;exact RS.bind (CS h g1) fun _ r q hr h3 h4=>.ok hr (by omega) (by omega)
 ·exact RS.bind (BJ h (by decide) hs) fun _ r q hr h3 h4=>RS.bind (CS h hr) fun _ r2 q2 hr2 h5 h6=>.ok hr2 (by omega) (by omega)
theorem XK (n n':Nat):SP S E n n' (Dp n) (Dp n'):=fun l m hs h1 h2=>by
 refine RS.bind (BJ h (by decide) hs) fun _ r q hr h3 h4=>RS.bind (CS h hr) fun s r2 q2 hr2 h5 h6=>?_;refine RS.bind (a:=l.length) (b:=m.length) ?_ fun c r3 q3 hr3 h7 h8=>RS.bind (BJ h (by decide) hr3) fun _ r4 q4 hr4 h9 h10=>
  RS.bind (IM h (JU h (PZ h n n')) r4 q4 hr4 (by omega) (by omega)) fun x r5 q5 hr5 h11 h12=>.ok hr5 (by omega) (by omega)
 rw [←h.eT hr2 [40] (by decide)];split
 ·exact (RZ h n n' r2 q2 hr2 (by omega) (by omega)).mono (by omega) (by omega)
 ·exact .ok hr2 (by omega) (by omega)
theorem XJ (n n':Nat):SP S E n n' (Dn n) (Dn n'):=fun l m hs h1 h2=>
 RS.bind (CS h hs) fun s r q hr h3 h4=>RS.bind (BJ h (by decide) hr) fun _ r2 q2 hr2 h5 h6=>RS.bind (IM h (AKd h n n') r2 q2 hr2 (by omega) (by omega)) fun x r3 q3 hr3 h7 h8=>
  RS.bind (Jr h (by decide) r3 q3 hr3 (by omega) (by omega)) fun w r4 q4 hr4 h9 h10=>.ok hr4 (by omega) (by omega)
theorem XL (n n':Nat):SP S E n n' (Dq n) (Dq n'):=fun l m hs h1 h2=>
 RS.bind (BJ h (by decide) hs) fun _ r q hr h3 h4=>RS.bind (CS h hr) fun _ r2 q2 hr2 h5 h6=>
  RS.bind (Jr h (by decide) r2 q2 hr2 (by omega) (by omega)) fun w r4 q4 hr4 h9 h10=>.ok hr4 (by omega) (by omega)
theorem VG (n n':Nat):SP S E n n' (DK n) (DK n'):=fun l m hs h1 h2=>by
 unfold DK;rw [←h.eT hs [115,101,108,101,99,116] (by decide),←h.eT hs [105,110,115,101,114,116] (by decide),←h.eT hs [117,112,100,97,116,101] (by decide),←h.eT hs [100,101,108,101,116,101] (by decide),←h.eT hs [99,114,101,97,116,101] (by decide),←h.eT hs [100,114,111,112] (by decide),←h.eT hs [98,101,103,105,110] (by decide),←h.eT hs [99,111,109,109,105,116] (by decide)];split
 ·rename_i ht
  obtain ⟨g1,_,_,g2,g3⟩:=h.tT hs (by decide) ht;exact RS.bind (ABf h n n' _ _ g1 (by omega) (by omega)) fun _ r q hr h3 h4=>.ok hr (by omega) (by omega)
 split
 ·rename_i ht
  obtain ⟨g1,_,_,g2,g3⟩:=h.tT hs (by decide) ht;exact (XK h n n' _ _ g1 (by omega) (by omega)).mono (by omega) (by omega)
 split
 ·rename_i ht
  obtain ⟨g1,_,_,g2,g3⟩:=h.tT hs (by decide) ht;exact (XJ h n n' _ _ g1 (by omega) (by omega)).mono (by omega) (by omega)
 split
 ·rename_i ht
  obtain ⟨g1,_,_,g2,g3⟩:=h.tT hs (by decide) ht;exact (XL h n n' _ _ g1 (by omega) (by omega)).mono (by omega) (by omega)
 split
 ·rename_i ht
  obtain ⟨g1,_,_,g2,g3⟩:=h.tT hs (by decide) ht;exact (XM h n n' _ _ g1 (by omega) (by omega)).mono (by omega) (by omega)
 split
 ·rename_i ht
  obtain ⟨g1,_,_,g2,g3⟩:=h.tT hs (by decide) ht;exact (ADO h _ _ g1 (Nat.le_refl _) (Nat.le_refl _)).mono (by omega) (by omega)
 split
 ·rename_i ht
  obtain ⟨g1,_,_,g2,g3⟩:=h.tT hs (by decide) ht;exact .ok g1 g2 g3
 split
 ·rename_i ht
  obtain ⟨g1,_,_,g2,g3⟩:=h.tT hs (by decide) ht;exact .ok g1 g2 g3
 ·exact RS.bind (BJ h (by decide) hs) fun _ r q hr h3 h4=>.ok hr h3 h4
end
def jn (b:Bs):Bs:=10::59::b
theorem LW (b:Bs):∀(q:Bool) (s:Bs),Bi q (s++jn b)=if (Bi q s).isEmpty then 59::b else Bi q s++jn b
 |false,[]=>by simp [Bi,jn,KQ]
 |true,[]=>by simp [Bi,jn,KQ]
 |true,c::r=>by
  simp only [List.cons_append,Bi];split
  ·exact LW b false r
  ·exact LW b true r
 |false,c::r=>by
  have hh:((r++jn b).head? ==some 45)=(r.head? ==some 45):=by
   cases r with
   |nil=>rfl
   |cons d r=>rfl
  simp only [List.cons_append,Bi,hh];split
  ·exact LW b false r
  split
  ·exact LW b true r
  ·rfl
theorem QC (q:UInt8)(t:Bs)(ht:t.head? ≠some q):∀(n:Nat) (s x r:Bs),s.length≤n→DN q s=some (x,r)→DN q (s++t)=some (x,r++t)
 |0,s,x,r,hn,h=>by
  have:s=[]:=List.length_eq_zero_iff.1 (by omega);subst this;simp [DN] at h
 |n+1,[],x,r,hn,h=>by simp [DN] at h
 |n+1,c::s,x,r,hn,h=>by
  rw [List.cons_append,Ku];rw [Ku] at h;split at h
  ·cases h
  rename_i h0
  rw [if_neg h0];split at h
  ·rename_i h1
   rw [if_pos h1];cases hq:DN q s with
   |none=>rw [hq] at h;cases h
   |some y=>
    rw [hq] at h;simp only [Option.map_some,Option.some.injEq,Prod.mk.injEq] at h;obtain ⟨rfl,rfl⟩:=h;rw [QC q t ht n s y.1 y.2 (by simpa using hn) hq];rfl
  ·rename_i h1
   rw [if_neg h1];cases s with
   |nil=>
    simp only [Option.some.injEq,Prod.mk.injEq] at h;obtain ⟨rfl,rfl⟩:=h;cases t with
    |nil=>rfl
    |cons d t=>
     have:(d==q)=false:=by
      cases hd:d==q with
      |false=>rfl
      |true=>exact absurd (by rw [List.head?_cons,beq_iff_eq.1 hd]) ht
     simp [this]
   |cons d s=>
    simp only at h
    simp only [List.cons_append];split at h
    ·rename_i h2
     rw [if_pos h2];cases hq:DN q s with
     |none=>rw [hq] at h;cases h
     |some y=>
      rw [hq] at h;simp only [Option.map_some,Option.some.injEq,Prod.mk.injEq] at h;obtain ⟨rfl,rfl⟩:=h;rw [QC q t ht n s y.1 y.2 (by simp only [List.length_cons] at hn;omega) hq];rfl
    ·rename_i h2
     rw [if_neg h2];simp only [Option.some.injEq,Prod.mk.injEq] at h;obtain ⟨rfl,rfl⟩:=h;rfl
theorem AAg {d:UInt8}{t:Bs}:∀{x s:Bs},d ∉ x→x.isPrefixOf (s++d::t)=x.isPrefixOf s
 |[],_,_=>by simp [List.isPrefixOf]
 |e::x,[],h=>by
  have:(e==d)=false:=by
   cases hd:e==d with
   |false=>rfl
   |true=>rw [beq_iff_eq.1 hd] at h;exact absurd (List.mem_cons_self ..) h
  simp [List.isPrefixOf,this]
 |e::x,c::s,h=>by
  simp only [List.cons_append,List.isPrefixOf];rw [AAg fun hh=>h (List.mem_cons_of_mem _ hh)]
theorem find_congr {α:Type}{p q:α→Bool}:∀{l:List α},(∀x∈l,p x=q x)→l.find? p=l.find? q
 |[],_=>rfl
 |x::l,h=>by
  rw [List.find?_cons,List.find?_cons,h x (List.mem_cons_self ..),find_congr fun y hy=>h y (List.mem_cons_of_mem _ hy)]
theorem ADS (s t:Bs):Hw (s++10::t)=Hw s:=by
 have h:∀x∈signsL,(10:UInt8) ∉ x:=by decide
 exact find_congr fun x hx=>AAg (h x hx)
theorem AJE {α:Type}{n:Nat}{s t:List α}(h:n≤s.length):(s++t).drop n=s.drop n++t:=by
 rw [List.drop_append,show n - s.length=0 by omega];rfl
theorem AKi {s x:Bs}(h:Hw s=some x):x.length≤s.length:=by
 have:=List.find?_some h;exact (List.isPrefixOf_iff_prefix.1 this).length_le
theorem YE {p:UInt8→Bool}{t:Bs}(ht:t.head?.any p=false):∀s:Bs,(s++t).dropWhile p=s.dropWhile p++t∧(s++t).takeWhile p=s.takeWhile p
 |[]=>by
  cases t with
  |nil=>exact ⟨rfl,rfl⟩
  |cons d t=>
   have hd:p d=false:=by simpa using ht
   simp [List.dropWhile_cons,List.takeWhile_cons,hd]
 |c::s=>by
  have ih:=YE ht s;simp only [List.cons_append,List.dropWhile_cons,List.takeWhile_cons];split
  ·exact ⟨ih.1,by rw [ih.2]⟩
  ·exact ⟨rfl,rfl⟩
theorem AOx (b:Bs){a:Nat}{s r:Bs}{t:Tok}(h:Dc a s= .tok t r):Dc a (s++jn b)= .tok t (r++jn b):=by
 cases s with
 |nil=>simp [Dc] at h
 |cons c s=>
  have w1:=YE (p:=fun c=>CY c||BQ c) (t:=jn b) rfl (c::s);have w2:=YE (p:=BQ) (t:=jn b) rfl (c::s);have sg:=ADS (c::s) (59::b);rw [List.cons_append] at w1 w2 sg;have e:(10::59::b:Bs)=jn b:=rfl;rw [e] at sg;rw [List.cons_append];simp only [Dc] at h ⊢;rw [w1.1,w1.2,w2.1,w2.2,sg];split at h
  ·rename_i h1
   rw [if_pos h1];unfold IK at h ⊢;split at h
   ·cases h
   ·rename_i h2
    rw [if_neg h2];simp only [LexR.tok.injEq] at h;obtain ⟨rfl,rfl⟩:=h;rfl
  rename_i h1
  rw [if_neg h1];split at h
  ·rename_i h2
   rw [if_pos h2];split at h
   ·cases h
   ·rename_i k hk
    split at h
    ·cases h
    ·rename_i h3
     have h3':¬((List.dropWhile BQ (c::s)++jn b).head?.any CY=true):=by
      cases hd:List.dropWhile BQ (c::s) with
      |nil=>simp [jn,CY]
      |cons d r=>rw [hd] at h3;exact h3
     simp only [LexR.tok.injEq] at h;obtain ⟨rfl,rfl⟩:=h;rw [if_neg h3']
  rename_i h2
  rw [if_neg h2];split at h
  ·rename_i h3
   rw [if_pos h3];have hq:(jn b).head? ≠some c:=by
    intro hc;simp only [jn,List.head?_cons,Option.some.injEq] at hc;subst hc;exact absurd h3 (by decide)
   cases hx:DN c s with
   |none=>rw [hx] at h;cases h
   |some y=>
    obtain ⟨x,r'⟩:=y;rw [hx] at h;rw [QC c (jn b) hq _ s x r' (Nat.le_refl _) hx];simp only at h ⊢
    split at h
    ·rename_i h4
     rw [if_pos h4];split at h
     ·cases h
     ·rename_i h5
      rw [if_neg h5];simp only [LexR.tok.injEq] at h;obtain ⟨rfl,rfl⟩:=h;rfl
    ·rename_i h4
     rw [if_neg h4];simp only [LexR.tok.injEq] at h;obtain ⟨rfl,rfl⟩:=h;rfl
  rename_i h3
  rw [if_neg h3];cases hx:Hw (c::s) with
  |none=>rw [hx] at h;cases h
  |some x=>
   rw [hx] at h;simp only [LexR.tok.injEq] at h ⊢;obtain ⟨rfl,rfl⟩:=h;refine ⟨rfl,?_⟩;rw [←List.cons_append,AJE (AKi hx)]
theorem AIV {a:Nat}{s r:Bs}{t:Tok}(h:Dc a s= .tok t r):t.kind≠6:=by
 cases s with
 |nil=>simp [Dc] at h
 |cons c s=>
  simp only [Dc] at h;split at h
  ·unfold IK at h;split at h
   ·cases h
   ·simp only [LexR.tok.injEq] at h;obtain ⟨rfl,rfl⟩:=h;simp only;split <;> decide
  split at h
  ·split at h
   ·cases h
   ·split at h
    ·cases h
    ·simp only [LexR.tok.injEq] at h;obtain ⟨rfl,rfl⟩:=h;simp
  split at h
  ·split at h
   ·cases h
   ·split at h
    ·split at h
     ·cases h
     ·simp only [LexR.tok.injEq] at h;obtain ⟨rfl,rfl⟩:=h;simp
    ·simp only [LexR.tok.injEq] at h;obtain ⟨rfl,rfl⟩:=h;simp
  split at h
  ·cases h
  ·simp only [LexR.tok.injEq] at h;obtain ⟨rfl,rfl⟩:=h;simp
theorem TI (b:Bs)(A:Nat):∀(f f':Nat) (acc:List Tok) (s:Bs) (l0:List Tok),s.length < f→s.length+b.length+2 < f'→s.length≤A→DV A f acc s= .toks l0→(∀t∈acc,t.kind≠6)→
  ∃p f'',l0=p++[⟨6,A,[],0⟩]∧(∀t∈p,t.kind≠6)∧b.length+1 < f''∧DV (A+(b.length+2)) f' acc (s++jn b)=DV (A+(b.length+2)) f'' p (59::b)
 |0,_,_,_,_,h,_,_,_,_=>by omega
 |_+1,0,_,_,_,_,h,_,_,_=>by omega
 |f+1,f'+1,acc,s,l0,hf,hf',hA,h,hk=>by
  have hsk:=LW b false s;have hle:=Gq false s;simp only [DV] at h;split at h
  ·rename_i hs
   simp only [LexA.toks.injEq] at h;subst h;rw [hs] at hsk;refine ⟨acc,f'+1,rfl,hk,by omega,?_⟩;have e1:Bi false (59::b)=59::b:=by simp [Bi,KQ]
   simp only [DV,hsk,List.isEmpty_nil,if_true,e1]
  ·rename_i c r hs
   rw [hs] at hsk hle;simp only [List.isEmpty_cons,Bool.false_eq_true,if_false,List.cons_append] at hsk;split at h
   ·cases h
   ·rename_i t r' ho
    have hlt:=UM ho;have h1:=AOx b ho;rw [List.cons_append] at h1;simp only [List.length_cons] at hle hlt;obtain ⟨p,f'',g1,g2,g3,g4⟩:=TI b A f f' (acc++[t]) r' l0 (by omega) (by omega) (by omega) h (by
     intro x hx;rcases List.mem_append.1 hx with h|h
     ·exact hk x h
     ·rw [List.mem_singleton.1 h];exact AIV ho)
    refine ⟨p,f'',g1,g2,g3,?_⟩;rw [←g4];simp only [DV,hsk];rw [show A+(b.length+2) - ((r++jn b).length+1)=A - (r.length+1) by simp only [jn,List.length_append,List.length_cons];omega,h1]
theorem AIm {a b:Bs}{l0 m0:List Tok}(ha:KH a= .toks l0)(hb:KH b= .toks m0):
  ∃p q q' sm e,l0=p++[⟨6,a.length,[],0⟩]∧(∀t∈p,t.kind≠6)∧m0=q++[⟨6,b.length,[],0⟩]∧sm.kind=5∧sm.text=[59]∧e.kind=6∧q'.map Tok.st=q.map Tok.st∧(∀t∈q,t.kind≠6)∧KH (a++jn b)= .toks (p++sm::(q'++[e])):=by
 obtain ⟨p,f,h1,h2,h3,h4⟩:=TI b a.length (a.length+1) ((a++jn b).length+1) [] a l0 (by omega) (by simp only [jn,List.length_append,List.length_cons];omega) (Nat.le_refl _) ha nil_nk;obtain ⟨l,q,g1,g2,g3⟩:=APE hb;obtain ⟨p2,f2,k1,k2,_⟩:=TI [] b.length (b.length+1) (b.length+3+1) [] b m0 (by omega) (by simp) (Nat.le_refl _) hb nil_nk;have hqp:q=p2:=by
  rw [g2] at k1;exact (List.append_inj' k1 rfl).1
 obtain ⟨f,rfl⟩:∃q,f=q+1:=⟨f - 1,by omega⟩;obtain ⟨q',j1,j2⟩:=g1.toks (a.length+(b.length+2)) f (p++[⟨5,a.length+(b.length+2) - (b.length+1),[59],0⟩]) (by omega);refine ⟨p,q,q',⟨5,a.length+(b.length+2) - (b.length+1),[59],0⟩,⟨6,a.length+(b.length+2),[],0⟩,h1,h2,g2,rfl,rfl,rfl,j2.trans g3.symm,by rw [hqp];exact k2,?_⟩;have e0:(a++jn b).length=a.length+(b.length+2):=by simp only [jn,List.length_append,List.length_cons]
 unfold KH;rw [←e0] at h4;rw [h4];have e1:Bi false (59::b)=59::b:=by simp [Bi,KQ]
 have e2:Dc ((a++jn b).length - (b.length+1)) (59::b)= .tok ⟨5,(a++jn b).length - (b.length+1),[59],0⟩ b:=by
  have s1:Hw (59::b)=some [59]:=by
   simp [Hw,signsL,List.find?,List.isPrefixOf]
  simp [Dc,CY,BQ,s1]
 simp only [DV,e1,e2];rw [e0,j1];simp
where
 nil_nk:∀t∈([]:List Tok),t.kind≠6:=nofun
def S1 (A:Nat)(sm:Tok)(rest:List Tok)(l m:List Tok):Prop:=∃p,l=p++[⟨6,A,[],0⟩]∧m=p++sm::rest∧∀t∈p,t.kind≠6
def E1 (A:Nat)(e f:Nat):Prop:=e < A→e=f
def S2 (l m:List Tok):Prop:=∃p q e e',l=p++[e]∧m=q++[e']∧p.map Tok.st=q.map Tok.st∧e.kind=6∧e'.kind=6∧∀t∈p,t.kind≠6
theorem AKh {A:Nat}{sm:Tok}{rest:List Tok}(hk:sm.kind=5)(ht:sm.text=[59]):Sim (S1 A sm rest) (E1 A) where
 view:=by
  rintro l m ⟨p,rfl,rfl,hp⟩;cases p with
  |nil=>exact .inr ⟨⟨_,_,rfl,.inl rfl⟩,⟨_,_,rfl,.inr ⟨hk,ht⟩⟩⟩
  |cons t p=>exact .inl ⟨t,t,_,_,rfl,rfl,rfl,p,rfl,rfl,fun x hx=>hp x (List.mem_cons_of_mem _ hx)⟩
 bad:=by
  rintro l m ⟨p,rfl,rfl,hp⟩;cases p with
  |nil=>intro h;simp [hd] at h
  |cons t p=>intro _;rfl
theorem sim2:Sim S2 (fun _ _=>True) where
 view:=by
  rintro l m ⟨p,q,e,e',rfl,rfl,hpq,h1,h2,hp⟩;cases p with
  |nil=>
   cases q with
   |nil=>exact .inr ⟨⟨_,_,rfl,.inl h1⟩,⟨_,_,rfl,.inl h2⟩⟩
   |cons u q=>cases hpq
  |cons t p=>
   cases q with
   |nil=>cases hpq
   |cons u q=>
    simp only [List.map_cons,List.cons.injEq] at hpq;exact .inl ⟨t,u,_,_,rfl,rfl,hpq.1,p,q,e,e',rfl,rfl,hpq.2,h1,h2,fun x hx=>hp x (List.mem_cons_of_mem _ hx)⟩
 bad:=fun _=>trivial
theorem Xx {t u:Tok}{r q:List Tok}(h:t.st=u.st)(s:Bs):isT (t::r) s=isT (u::q) s:=by
 have:=NS h;simp only [isT,hd,List.headD_cons,this.1,this.2.1]
theorem APH {t u:Tok}{r q:List Tok}(h:t.st=u.st)(k:Int):isK (t::r) k=isK (u::q) k:=by
 have:=NS h;simp only [isK,hd,List.headD_cons,this.1]
theorem UW {t:Tok}{r:List Tok}(h:t.kind≠6):isK (t::r) 6=false:=by simpa [isK,hd] using h
theorem SS {t:Tok}{r:List Tok}(h:t.kind=6):isK (t::r) 6=true:=by simp [isK,hd,h]
theorem AIr {t:Tok}{r:List Tok}(h:t.kind=5)(h':t.text=[59]):isT (t::r) [59]=true:=by simp [isT,hd,h,h']
theorem XF (n n':Nat):∀(k k':Nat) (l m:List Tok),S2 l m→l.length≤n→m.length≤n'→l.length≤k→m.length≤k'→∀acc acc' x r,Ba n k acc l= .ok x r→∃y r',x=acc++y∧Ba n' k' acc' m= .ok (acc'++y) r'
 |0,_,l,m,hs,_,_,hk,_,_,_,_,_,_=>by have:=(sim2.pos hs).1;omega
 |_+1,0,l,m,hs,_,_,_,hk,_,_,_,_,_=>by have:=(sim2.pos hs).2;omega
 |k+1,k'+1,l,m,hs,hn,hn',hk,hk',acc,acc',x,r,h=>by
  have hs0:=hs;obtain ⟨p,q,e,e',rfl,rfl,hpq,h1,h2,hp⟩:=hs;cases p with
  |nil=>
   cases q with
   |cons u q=>cases hpq
   |nil=>
    simp only [List.nil_append,Ba,SS h1,SS h2,if_true,Res.ok.injEq] at h ⊢;obtain ⟨rfl,rfl⟩:=h;exact ⟨[],_,by simp,by simp,rfl⟩
  |cons t p=>
   cases q with
   |nil=>cases hpq
   |cons u q=>
    simp only [List.map_cons,List.cons.injEq] at hpq;have ht:=hp t (List.mem_cons_self ..);have hu:u.kind≠6:=by rw [←(NS hpq.1).1];exact ht
    have hst:S2 (p++[e]) (q++[e']):=⟨p,q,e,e',rfl,rfl,hpq.2,h1,h2,fun x hx=>hp x (List.mem_cons_of_mem _ hx)⟩;simp only [List.cons_append,List.length_cons,List.length_append,List.length_nil] at hn hn' hk hk';simp only [List.cons_append,Ba,UW ht,UW hu,Bool.false_eq_true,if_false,Xx (r:=p++[e]) (q:=q++[e']) hpq.1] at h ⊢;split at h
    ·rename_i hc
     rw [if_pos hc];exact XF n n' k k' _ _ hst (by simp;omega) (by simp;omega) (by simp;omega) (by simp;omega) _ _ _ _ h
    ·rename_i hc
     rw [if_neg hc];obtain ⟨s,r1,g1,g2⟩:=bind_ok h;have hsim:=VG sim2 n n' _ _ hs0 (by simp;omega) (by simp;omega);simp only [List.cons_append] at hsim;rw [g1] at hsim;cases hm:DK n' (u::(q++[e'])) with
     |err f=>rw [hm] at hsim;exact absurd hsim (by simp [RS])
     |ok s' r1'=>
      rw [hm] at hsim;simp only [RS,List.length_cons,List.length_append,List.length_nil] at hsim;obtain ⟨rfl,hr,hl1,hl2⟩:=hsim;simp only [Res.bind];have hcnd:(isK r1 6||isT r1 [59])=(isK r1' 6||isT r1' [59]):=by
       obtain ⟨p2,q2,e2,e2',rfl,rfl,hpq2,h12,h22,hp2⟩:=hr;cases p2 with
       |nil=>cases q2 with
        |nil=>simp only [List.nil_append,SS h12,SS h22,Bool.true_or]
        |cons=>cases hpq2
       |cons t2 p2=>cases q2 with
        |nil=>cases hpq2
        |cons u2 q2=>
         simp only [List.map_cons,List.cons.injEq] at hpq2;rw [List.cons_append,List.cons_append,APH (q:=q2++[e2']) hpq2.1,Xx (q:=q2++[e2']) hpq2.1]
      rw [←hcnd];split at g2
      ·rename_i hc2
       rw [if_pos hc2];obtain ⟨y,r',e1,e2⟩:=XF n n' k k' r1 r1' hr (by omega) (by omega) (by omega) (by omega) _ (acc'++[s]) _ _ g2;exact ⟨s::y,r',by rw [e1];simp,by rw [e2];simp⟩
      ·cases g2
theorem TJ {A:Nat}{sm:Tok}{rest:List Tok}(hk5:sm.kind=5)(htx:sm.text=[59])(n n':Nat):∀(k k':Nat) (l m:List Tok),S1 A sm rest l m→l.length≤n→m.length≤n'→l.length≤k→m.length≤k'→∀acc,
  (∀x r,Ba n k acc l= .ok x r→∃k2,rest.length≤k2∧Ba n' k' acc m=Ba n' k2 x rest)∧(∀e,Ba n k acc l= .err e→e < A→Ba n' k' acc m= .err e)
 |0,_,l,m,hs,_,_,hk,_,_=>by have:=((AKh hk5 htx).pos hs).1;omega
 |_+1,0,l,m,hs,_,_,_,hk,_=>by have:=((AKh hk5 htx).pos hs).2;omega
 |k+1,k'+1,l,m,hs,hn,hn',hk,hk',acc=>by
  have hs0:=hs;obtain ⟨p,rfl,rfl,hp⟩:=hs;cases p with
  |nil=>
   have hsm:isK (sm::rest) 6=false:=UW (by rw [hk5];decide);simp only [List.nil_append,List.length_cons] at hk';simp only [List.nil_append,Ba,SS (show (⟨6,A,[],0⟩:Tok).kind=6 from rfl),hsm,AIr hk5 htx,if_true,Bool.false_eq_true,if_false,List.tail_cons];refine ⟨fun x r h=>?_,fun e h=>nomatch h⟩;simp only [Res.ok.injEq] at h;obtain ⟨rfl,rfl⟩:=h;exact ⟨k',by omega,rfl⟩
  |cons t p=>
   have ht:=hp t (List.mem_cons_self ..);have hst:S1 A sm rest (p++[⟨6,A,[],0⟩]) (p++sm::rest):=⟨p,rfl,rfl,fun x hx=>hp x (List.mem_cons_of_mem _ hx)⟩;simp only [List.cons_append,List.length_cons,List.length_append,List.length_nil] at hn hn' hk hk';have hsim:=VG (AKh hk5 htx) n n' _ _ hs0 (by simp;omega) (by simp;omega);simp only [List.cons_append] at hsim;simp only [List.cons_append,Ba,UW ht,Bool.false_eq_true,if_false,Xx (t:=t) (u:=t) (r:=p++[⟨6,A,[],0⟩]) (q:=p++sm::rest) rfl];split
   ·exact TJ hk5 htx n n' k k' _ _ hst (by simp;omega) (by simp;omega) (by simp;omega) (by simp;omega) _
   ·cases hl:DK n (t::(p++[⟨6,A,[],0⟩])) with
    |err e=>
     cases hm:DK n' (t::(p++sm::rest)) with
     |ok s r=>rw [hl,hm] at hsim;exact absurd hsim (by simp [RS])
     |err f=>
      rw [hl,hm] at hsim;simp only [RS] at hsim;simp only [Res.bind];refine ⟨(fun x r h=>nomatch h),fun e' h he=>?_⟩;simp only [Res.err.injEq] at h ⊢;subst h;exact (hsim he).symm
    |ok s r1=>
     cases hm:DK n' (t::(p++sm::rest)) with
     |err f=>rw [hl,hm] at hsim;exact absurd hsim (by simp [RS])
     |ok s' r1'=>
      rw [hl,hm] at hsim;simp only [RS,List.length_cons,List.length_append,List.length_nil] at hsim;obtain ⟨rfl,hr,hl1,hl2⟩:=hsim;simp only [Res.bind];have hr0:=hr;obtain ⟨p2,rfl,rfl,hp2⟩:=hr;have hcnd:(isK (p2++[⟨6,A,[],0⟩]) 6||isT (p2++[⟨6,A,[],0⟩]) [59])=(isK (p2++sm::rest) 6||isT (p2++sm::rest) [59]):=by
       cases p2 with
       |nil=>simp only [List.nil_append,SS (show (⟨6,A,[],0⟩:Tok).kind=6 from rfl),AIr hk5 htx,Bool.true_or,Bool.or_true]
       |cons t2 p2=>rfl
      rw [←hcnd];split
      ·exact TJ hk5 htx n n' k k' _ _ hr0 (by omega) (by omega) (by omega) (by omega) _
      ·refine ⟨(fun x r h=>nomatch h),fun e h he=>?_⟩;simp only [bad,Res.err.injEq] at h ⊢;subst h;exact ((AKh hk5 htx).bad hr0 he).symm
theorem read_toks {s:Bs}{l:List TStmt}(h:readA s=(l,ok0)):∃t r,KH s= .toks t∧Ba t.length (t.length+1) [] t= .ok l r:=by
 unfold readA at h;split at h
 ·rename_i f hf
  simp only [Prod.mk.injEq] at h;have:=lex_code hf;rw [h.2] at this;exact absurd this.1 (by decide)
 ·rename_i t ht
  split at h
  ·rename_i x r hx
   simp only [Prod.mk.injEq] at h;exact ⟨t,r,ht,by rw [hx,h.1]⟩
  ·simp only [Prod.mk.injEq,ok0,Flt.mk.injEq] at h;exact absurd h.2.1 (by decide)
where
 one_code {a:Nat} {s:Bs} {e:Int} (h:Dc a s= .bad e):171≤e∧e≤173:=by
  cases s with
  |nil=>simp only [Dc,LexR.bad.injEq] at h;subst h;decide
  |cons c s=>
   simp only [Dc] at h;split at h
   ·unfold IK at h;split at h
    ·simp only [LexR.bad.injEq] at h;subst h;decide
    ·cases h
   split at h
   ·split at h
    ·simp only [LexR.bad.injEq] at h;subst h;decide
    ·split at h
     ·simp only [LexR.bad.injEq] at h;subst h;decide
     ·cases h
   split at h
   ·split at h
    ·simp only [LexR.bad.injEq] at h;subst h;decide
    ·split at h
     ·split at h
      ·simp only [LexR.bad.injEq] at h;subst h;decide
      ·cases h
     ·cases h
   split at h
   ·simp only [LexR.bad.injEq] at h;subst h;decide
   ·cases h
 lex_code {s:Bs} {f:Flt} (h:KH s= .bad f):171≤f.code∧f.code≤173:=go _ _ _ _ _ h
 go (n:Nat):∀(f:Nat) (acc:List Tok) (s:Bs) (x:Flt),DV n f acc s= .bad x→171≤x.code∧x.code≤173
  |0,_,_,_,h=>nomatch h
  |f+1,acc,s,x,h=>by
   simp only [DV] at h;split at h
   ·cases h
   ·split at h
    ·rename_i e he
     simp only [LexA.bad.injEq] at h;subst h;exact one_code he
    ·exact go n f _ _ _ h
theorem AMF {a b:Bs}{l m:List TStmt}(ha:readA a=(l,ok0))(hb:readA b=(m,ok0)):readA (a++jn b)=(l++m,ok0):=by
 obtain ⟨l0,r1,la,pa⟩:=read_toks ha;obtain ⟨m0,r2,lb,pb⟩:=read_toks hb;obtain ⟨p,q,q',sm,e,rfl,hp,rfl,h5,ht,h6,hq,hqk,hl⟩:=AIm la lb;unfold readA;rw [hl];simp only
 obtain ⟨k2,hk2,e1⟩:=(TJ (A:=a.length) (rest:=q'++[e]) h5 ht _ (p++sm::(q'++[e])).length _ ((p++sm::(q'++[e])).length+1) _ _ ⟨p,rfl,rfl,hp⟩ (Nat.le_refl _) (Nat.le_refl _) (Nat.le_succ _) (Nat.le_succ _) []).1 _ _ pa;rw [e1];obtain ⟨y,r',e2,e3⟩:=XF _ (p++sm::(q'++[e])).length _ k2 (q++[⟨6,b.length,[],0⟩]) (q'++[e]) ⟨q,q',_,e,rfl,rfl,hq.symm,rfl,h6,hqk⟩ (Nat.le_refl _) (by simp;omega) (Nat.le_succ _) hk2 [] l _ _ pb;rw [e3,e2];rfl
theorem Va {a b:Bs}{x:Flt}(ha:(readA a).2=x)(hx:x.code=174)(hlt:x.at' < a.length)(hb:(readA b).2.code=0∨174≤(readA b).2.code):readA (a++jn b)=([],x):=by
 have lb:∃m0,KH b= .toks m0:=by
  cases h:KH b with
  |toks t=>exact ⟨t,rfl⟩
  |bad f=>
   have h1:=read_toks.lex_code h;unfold readA at hb;rw [h] at hb;simp only at hb
   omega
 obtain ⟨m0,lb⟩:=lb;unfold readA at ha;split at ha
 ·rename_i f hf
  have:=read_toks.lex_code hf;simp only at ha
  subst ha;omega
 ·rename_i l0 la
  split at ha
  ·simp only at ha
   subst ha;exact absurd hx (by decide)
  ·rename_i at' he
   simp only at ha
   subst ha;obtain ⟨p,q,q',sm,e,rfl,hp,rfl,h5,ht,h6,hq,hqk,hl⟩:=AIm la lb;have e1:=(TJ (A:=a.length) (rest:=q'++[e]) h5 ht _ (p++sm::(q'++[e])).length _ ((p++sm::(q'++[e])).length+1) _ _ ⟨p,rfl,rfl,hp⟩ (Nat.le_refl _) (Nat.le_refl _) (Nat.le_succ _) (Nat.le_succ _) []).2 _ he (by simp only at hlt;omega);unfold readA;rw [hl];simp only
   rw [e1]
theorem WF:∀l m:List TStmt,DC (l++m)=max (DC l) (DC m)
 |[],m=>by simp [DC]
 |s::l,m=>by simp only [List.cons_append,DC,WF l m];omega
theorem NV {s:Bs}{l:List TStmt}(h:BZ s=(l,ok0)):readA s=(l,ok0)∧DC l≤64:=by
 unfold BZ at h;split at h
 ·simp only [Prod.mk.injEq,ok0,Flt.mk.injEq] at h;exact absurd h.2.1 (by decide)
 split at h
 ·rename_i hn
  simp only [Prod.mk.injEq] at h;exact absurd h.2 hn
 rename_i hr
 have hr:(readA s).2=ok0:=Decidable.not_not.1 hr;split at h
 ·rename_i hn
  simp only [Prod.mk.injEq,ok0,Flt.mk.injEq] at h;exact absurd h.2.1 hn
 ·rename_i hn
  simp only [Prod.mk.injEq,and_true] at h;refine ⟨by rw [←h,←hr],?_⟩;rw [←h];unfold MH at hn;split at hn
  ·exact absurd (show (175:Int)≠0 by decide) hn
  ·omega
theorem AIq {a b:Bs}{l m:List TStmt}(ha:BZ a=(l,ok0))(hb:BZ b=(m,ok0))(hn:(a++jn b).length≤65536)(hc:(BZ (a++jn b)).2.code≠176):BZ (a++jn b)=(l++m,ok0):=by
 obtain ⟨ra,da⟩:=NV ha;obtain ⟨rb,db⟩:=NV hb;have rj:=AMF ra rb;have hd:DC (l++m)≤64:=by rw [WF];omega
 unfold BZ at hc ⊢;rw [if_neg (by omega),rj] at hc ⊢;rw [if_neg (by simp)] at hc ⊢;unfold MH at hc ⊢;rw [if_neg (show ¬64 < DC (l++m) by omega)] at hc ⊢;by_cases hp:2000 < BM (l++m)
 ·simp [hp] at hc
 ·simp only [hp,if_false];rw [if_neg (by decide)]
theorem Xj {s:Bs}{x:Flt}(h:(BZ s).2=x)(h0:x.code=0∨x.code=171∨x.code=172∨x.code=173∨x.code=174):(readA s).2=x:=by
 unfold BZ at h;split at h
 ·simp only at h;subst h;simp at h0
 split at h
 ·exact h
 rename_i hr
 have hr:(readA s).2=ok0:=Decidable.not_not.1 hr;split at h
 ·rename_i hn
  simp only at h;subst h
  unfold MH at h0 hn;split at h0
  ·simp at h0
  ·split at h0
   ·simp at h0
   ·rename_i h1 h2
    rw [if_neg h1,if_neg h2] at hn;exact absurd rfl hn
 ·simp only at h;subst h;exact hr
theorem ACO {a b:Bs}{x:Flt}(ha:(BZ a).2=x)(hx:x.code=174)(hlt:x.at' < a.length)(hb:(BZ b).2.code=0∨174≤(BZ b).2.code)(hn:(a++jn b).length≤65536):(BZ (a++jn b)).2=x:=by
 have ra:=Xj ha (by omega);have rb:(readA b).2.code=0∨174≤(readA b).2.code:=by
  unfold BZ at hb;split at hb
  ·simp only [jn,List.length_append,List.length_cons] at hn;omega
  split at hb
  ·exact hb
  ·rename_i hr
   have hr:(readA b).2=ok0:=Decidable.not_not.1 hr;rw [hr];exact .inl rfl
 have rj:=Va ra hx hlt rb;unfold BZ;rw [if_neg (by omega),rj];rw [if_pos (by intro h;simp only at h;rw [h] at hx;exact absurd hx (by decide))]
theorem Vk {s:Bs}(h:(BZ s).2.code=0):(BZ s).2=ok0:=by
 unfold BZ at h ⊢;split
 ·rename_i h1
  rw [if_pos h1] at h;exact absurd h (by decide)
 rename_i h1
 rw [if_neg h1] at h;split
 ·rename_i h2
  rw [if_pos h2] at h;rcases Kq s with h3|h3
  ·exact h3
  ·exact absurd h h3.1
 rename_i h2
 rw [if_neg h2] at h;split
 ·rename_i h3
  rw [if_pos h3] at h;exact absurd h h3
 ·rfl
theorem ACD (l:List TStmt):l.length≤BM l:=by
 induction l with
 |nil=>exact Nat.zero_le _
 |cons s l ih=>simp only [BM,List.map_cons,List.sum_cons,List.length_cons,GG] at *; omega
theorem SB {s:Bs}:∀x∈(BZ s).1,x∈(readA s).1:=by
 intro x hx;unfold BZ at hx;split at hx
 ·cases hx
 split at hx
 ·cases hx
 split at hx
 ·cases hx
 ·exact hx
theorem SC (s:Bs):(BZ s).1.length≤65537:=by
 unfold BZ;split
 ·simp
 split
 ·simp
 split
 ·simp
 ·have:=QI s;have:=ACD (readA s).1;show (readA s).1.length≤65537;omega
section
variable {ω:Om}{G I:Imm}{L F:LH}{K:Value→M}
theorem ABb {X L:LH}{v:Value}{xs:List TStmt}{cells:List Value}(h:SlO 48 51 X v cells xs.length)(hr:Recs (TStmtV I) 51 xs cells)(hL:∀x∈X,x∈L):RL TStmtV 51 I L v xs:=by
 obtain ⟨a,k,h',hle⟩:=GrO.form (I:=I) (.inl h);exact ⟨a,k,cells,h',hle,h.news hL,hr⟩
theorem ACN (hG:FI G)(hS:SpG G)(hGI:Ext G I)(a b:Bs)(ha:a.length≤1000000000000000000)(hb:b.length≤1000000000000000000)(hk:∀I',Ext I I'→K (.bool true) I' L):CT ω 9 #[.string ⟨a.toArray⟩,.string ⟨b.toArray⟩] K I L:=by
 have hTok:=JS (Ih (ω:=ω) hS);have s1:Ak .add (.string ⟨a.toArray⟩) (.string (ByteArray.mk #[10,59]))=some (.string ⟨(a++[10,59]).toArray⟩):=AOl a [10,59] zL;have s2:Ak .add (.string ⟨(a++[10,59]).toArray⟩) (.string ⟨b.toArray⟩)=some (.string ⟨(a++jn b).toArray⟩):=by
  rw [AOl (a++[10,59]) b zL,List.append_assoc];rfl
 have hjl:(a++jn b).length=a.length+(b.length+2):=by simp only [jn,List.length_append,List.length_cons]
 refine ATg ?_;unfold sh9;refine call (XO hG hS hGI (fun I1 hI1=>?_));simp only [s1,s2,Bool.not_true,SSd,Nat.reduceAdd];refine AB (fun h=>?_) (fun h=>?_)
 ·exact Gh.done (hk I1 hI1)
 have hn:(a++jn b).length≤65536:=by
  have:=of_decide_eq_false h;omega
 have hG1:=Ext.trans hGI hI1;refine call (Gx hTok IZ a hG1 (fun I2 a2 k2 hI2 hw2=>?_));try simp only [SSd,Nat.reduceAdd]
 refine AV (fun bf=>?_);refine stB rfl rfl (AO rfl) ?_;have hG2:=Ext.trans hG1 hI2;refine call (Gx hTok IZ b hG2 (fun I3 a3 k3 hI3 hw3=>?_));try simp only [SSd,Nat.reduceAdd]
 refine AV (fun bg=>?_);refine stB rfl rfl (AO rfl) ?_;have hG3:=Ext.trans hG2 hI3;refine call (Gx hTok IZ (a++jn b) hG3 (fun I4 a4 k4 hI4 hw4=>?_));try simp only [SSd,Nat.reduceAdd]
 refine AV (fun bh=>?_);refine stB rfl rfl (AO rfl) ?_;have hI14:Ext I I4:=Ext.trans (Ext.trans hI1 hI2) (Ext.trans hI3 hI4);have fin:∀{t:Bool} {L':LH} (_:t=true) [SubP L L'],Gh (K (.bool t)) I4 L':=by
  intro t L' ht hs;subst ht;exact Gh.to L (Gh.done (hk I4 hI14))
 have jok:=@AIq a b;have jbad:=@ACO a b;have pa:=@Vk a;have pb:=@Vk b;have hle:(a++jn b).length≤65536:=hn;have hgd:∀s∈(BZ (a++jn b)).1,GdS ((a++jn b).length+1) s∧cS s≤1000000000:=by
  intro s hs;have h1:=ABu (a++jn b) s (SB s hs);have h2:=WJ (a++jn b) s (SB s hs);exact ⟨h1,by omega⟩
 have l1:=SC a;have l2:=SC b;generalize BZ a=A at *;generalize BZ b=B at *;generalize BZ (a++jn b)=C at *;obtain ⟨A1,fa,ta⟩:=A;obtain ⟨B1,fb,tb⟩:=B;obtain ⟨C1,fc,tc⟩:=C;have key:fa=174→ta < a.length→(fb=0∨174≤fb)→(fc==fa&&tc==ta)=true:=by
  intro h1 h2 h3;have:=jbad rfl h1 h2 h3 hle;simp only [Flt.mk.injEq] at this;simp [this.1,this.2]
 have three:VK ω (.string ⟨a.toArray⟩) (.bool false) (AY bf) (AY bg) (AY bh) (fun v=>Gh (K v)) I4 ((bh,.cells #[.int .i64 fc,.int .i64 tc] 26 (0,0))::(bg,.cells #[.int .i64 fb,.int .i64 tb] 26 (0,0))::(bf,.cells #[.int .i64 fa,.int .i64 ta] 26 (0,0))::L):=by
  unfold VK ADV;repeat' (first|(with_reducible first|refine Ag ?_|refine Ac ?_|refine Aa ?_|refine keepA ?_|refine AV (fun _=>?_)|refine rdb ?_)|((with_reducible first|refine st1 ?_ ?_|refine rdB ?_ ?_);rfl)|(with_reducible refine Ai ?_)|((with_reducible refine Az ?_ ?_);rfl)|((with_reducible refine stB ?_ ?_ ?_ ?_);rfl;rfl;exact AO rfl)|((with_reducible first|refine rdP _ rfl ?_ ?_|refine BB _ rfl ?_ ?_);rfl)|((with_reducible refine stP _ rfl ?_ ?_ ?_ ?_);rfl;rfl;rfl)|(with_reducible refine And.intro ?_ ?_)|(simp only [SSg,Int.reduceBEq,Int.reduceBNe,Int.reduceLT,Int.reduceLE,beq_self_eq_true,bne_self_eq_false])|(with_reducible first|refine AP (fun _=>?_) (fun _=>?_)|refine AB (fun _=>?_) (fun _=>?_))|(simp only [SSd,Nat.reduceAdd]))
  all_goals first|exact fin rfl|(refine fin (key ?_ ?_ ?_) <;> (clear key jok jbad pa pb fin hgd hw2 hw3 hw4;simp only [beq_iff_eq,decide_eq_true_eq,bne_iff_ne,ne_eq,Bool.not_eq_false,Bool.not_eq_true] at *; omega))
 clear key jbad;repeat' (first|(with_reducible first|refine Ag ?_|refine Ac ?_|refine Aa ?_|refine keepA ?_|refine AV (fun _=>?_))|(with_reducible exact three)|(with_reducible refine rdb ?_)|((with_reducible first|refine st1 ?_ ?_|refine rdB ?_ ?_);rfl)|(with_reducible refine Ai ?_)|((with_reducible refine Az ?_ ?_);rfl)|((with_reducible refine stB ?_ ?_ ?_ ?_);rfl;rfl;exact AO rfl)|((with_reducible first|refine rdP _ rfl ?_ ?_|refine BB _ rfl ?_ ?_);rfl)|((with_reducible refine stP _ rfl ?_ ?_ ?_ ?_);rfl;rfl;rfl)|(with_reducible refine And.intro ?_ ?_)|(simp only [SSg,Int.reduceBEq,Int.reduceBNe,Int.reduceLT,Int.reduceLE,beq_self_eq_true,bne_self_eq_false])|(with_reducible first|refine AP (fun _=>?_) (fun _=>?_)|refine AB (fun _=>?_) (fun _=>?_))|(simp only [SSd,Nat.reduceAdd]))
 have h0:fa=0∧fb=0∧fc≠176:=by
  clear three jok pa pb fin hgd hw2 hw3 hw4;simp only [beq_iff_eq,decide_eq_true_eq,bne_iff_ne,ne_eq,Bool.not_eq_false,Bool.not_eq_true] at *;exact ⟨by assumption,by assumption,by assumption⟩
 have e1:=pa h0.1;have e2:=pb h0.2.1;simp only [ok0,Flt.mk.injEq] at e1 e2;have hC:=jok (l:=A1) (m:=B1) (by rw [e1.1,e1.2];rfl) (by rw [e2.1,e2.2];rfl) hle h0.2.2;simp only [ok0,Prod.mk.injEq,Flt.mk.injEq] at hC;obtain ⟨rfl,rfl,rfl⟩:=hC;clear three jok pa pb;have l1:A1.length≤65537:=l1;have l2:B1.length≤65537:=l2;have hI24:=Ext.trans hI3 hI4;obtain ⟨c2,s2',r2⟩:=RL.toI (by decide) (RL.mono (I:=I2) (fun _ _ h=>h.mono hI24) hw2 hI24 (fun _ h=>h));obtain ⟨c3,s3',r3⟩:=RL.toI (by decide) (RL.mono (I:=I3) (fun _ _ h=>h.mono hI4) hw3 hI4 (fun _ h=>h));unfold AMz;refine DX (X:=[]) (cells:=[]) (len:=0) rfl (SlO.none _ _) s2'.news (r2.one_cells fun x c h=>h.one) (by omega) (by omega) (fun X5 v5 hX5=>?_);refine DX (X:=X5) rfl hX5 s3'.news (r3.one_cells fun x c h=>h.one) (by omega) (by omega) (fun X6 v6 hX6=>?_);have r6:=Recs.append r2 r3;rw [List.nil_append,show 0+A1.length+B1.length=(A1++B1).length by rw [List.length_append];omega] at hX6;refine call (ABv (l:=A1++B1) (N:=(a++jn b).length+1) (by omega) (by rw [List.length_append];omega) hgd (RL.mono (fun _ _ h=>h) hw4 (Ext.refl _) (fun _ h=>nomatch h)) (ABb hX6 r6 (fun x hx=>List.mem_append_left _ hx)) ?_);repeat' (first|(with_reducible first|refine Ag ?_|refine Ac ?_|refine Aa ?_|refine keepA ?_|refine AV (fun _=>?_)|refine rdb ?_)|((with_reducible first|refine st1 ?_ ?_|refine rdB ?_ ?_);rfl)|(with_reducible refine Ai ?_)|((with_reducible refine Az ?_ ?_);rfl)|((with_reducible refine stB ?_ ?_ ?_ ?_);rfl;rfl;exact AO rfl)|((with_reducible first|refine rdP _ rfl ?_ ?_|refine BB _ rfl ?_ ?_);rfl)|((with_reducible refine stP _ rfl ?_ ?_ ?_ ?_);rfl;rfl;rfl)|(with_reducible refine And.intro ?_ ?_)|(simp only [SSg,Int.reduceBEq,Int.reduceBNe,Int.reduceLT,Int.reduceLE,beq_self_eq_true,bne_self_eq_false])|(with_reducible first|refine AP (fun _=>?_) (fun _=>?_)|refine AB (fun _=>?_) (fun _=>?_))|(simp only [SSd,Nat.reduceAdd]))
 all_goals exact fin rfl
theorem ACx {P:Program}{w:World}{r:Go.Reach}{base T:Nat}{v:Value}{rz:Nat}(hu:P.underlying T=some .string)(o:Value.okWide P w r base T v)(t:TrR rz P w T v.cells.toList):∃l:Bs,v= .string ⟨l.toArray⟩∧l.length≤rz:=by
 obtain ⟨s,rfl⟩:=WideShapes.okWide_string hu o;obtain ⟨l,h1,h2⟩:=ANe hu t;simp only [Value.cells,List.cons.injEq,and_true] at h1;exact ⟨l,h1,h2⟩
theorem joins_walk {W:World}{base:Nat}{v0 v1:Value}(hL:laidMetH Tryz.prog Rows.sqlparseJoinsRow.laid W)(o0:Value.okWide Tryz.prog W .any base 9 v0)(t0:Tr Tryz.prog W 9 v0.cells.toList)(o1:Value.okWide Tryz.prog W .any base 9 v1)(t1:Tr Tryz.prog W 9 v1.cells.toList)(ω:Om):
  CT ω 9 #[v0,v1] (fun v I' _=>v= .bool true∧Ext (KR W) I') (KR W) []:=by
 obtain ⟨a,rfl,ha⟩:=ACx Tryz.underlying9 o0 t0;obtain ⟨b,rfl,hb⟩:=ACx Tryz.underlying9 o1 t1;exact ACN (Vf hL) (XH hL) (Ext.refl _) a b (Nat.le_trans ha (by decide)) (Nat.le_trans hb (by decide)) (fun I' hI=>⟨rfl,hI⟩)
end
end Go.Proofs.YtkifgfanjcfedaaGreatDoor
