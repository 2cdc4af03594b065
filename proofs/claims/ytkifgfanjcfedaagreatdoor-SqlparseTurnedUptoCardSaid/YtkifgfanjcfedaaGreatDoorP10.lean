/-
  Lemmas, part 10: laid together by a program.
-/
import Derived.Test.YtkifgfanjcfedaaGreatDoorP9
import Derived.Test.YtkifgfanjcfedaaGreatDoorP8
import Derived.Test.YtkifgfanjcfedaaGreatDoorP2
import Derived.JoinedCond
import Derived.LaidLaws
import Derived.SizedLaws
set_option maxRecDepth 100000
set_option maxHeartbeats 4000000
set_option linter.unusedVariables false
set_option linter.unusedSimpArgs false
set_option linter.unusedSectionVars false
namespace Go.Proofs.YtkifgfanjcfedaaGreatDoor
open Go.SL
def stop (l:List Tok):Prop:=∃t r,l=t::r∧(t.kind=6∨(t.kind=5∧t.text=[59]))
structure Sim (S:List Tok→List Tok→Prop)(E:Nat→Nat→Prop):Prop where
 view:∀{l m:List Tok},S l m→(∃t u r q,l=t::r∧m=u::q∧t.st=u.st∧S r q)∨(stop l∧stop m)
 bad:∀{l m:List Tok},S l m→E (hd l).at' (hd m).at'
theorem Oi {t u:Tok}(h:t.st=u.st):t.kind=u.kind∧t.text=u.text∧t.num=u.num:=by
 simp only [Tok.st,Tok.mk.injEq] at h;exact ⟨h.1,h.2.2.1,h.2.2.2⟩
theorem Qi {l:List Tok}{s:Bs}(h:stop l)(hs:s≠[59]):isT l s=false:=by
 obtain ⟨t,r,rfl,h|⟨h,h'⟩⟩:=h
 ·simp [isT,hd,h]
 ·simp [isT,hd,h,h',Ne.symm hs]
theorem Qk {l:List Tok}{k:Int}(h:stop l)(hk:k≠5∧k≠6):isK l k=false:=by
 obtain ⟨t,r,rfl,h|⟨h,_⟩⟩:=h
 ·simp [isK,hd,h,Ne.symm hk.2]
 ·simp [isK,hd,h,Ne.symm hk.1]
theorem Qj {l:List Tok}{s:Bs}(h:stop l)(hs:s≠[59]):(isK l 5&&(hd l).text==s)=false:=by
 obtain ⟨t,r,rfl,h|⟨h,h'⟩⟩:=h
 ·simp [isK,hd,h]
 ·simp [isK,hd,h,h',Ne.symm hs]
section
variable {S:List Tok→List Tok→Prop}{E:Nat→Nat→Prop}(h:Sim S E)
include h
theorem Sim.eT {l m:List Tok}(hs:S l m)(s:Bs)(hne:s≠[59]):isT l s=isT m s:=by
 rcases h.view hs with ⟨t,u,r,q,rfl,rfl,e,_⟩|⟨h1,h2⟩
 ·have:=Oi e;simp only [isT,hd,List.headD_cons,this.1,this.2.1]
 ·rw [Qi h1 hne,Qi h2 hne]
theorem Sim.eK {l m:List Tok}(hs:S l m)(k:Int)(hk:k≠5∧k≠6):isK l k=isK m k:=by
 rcases h.view hs with ⟨t,u,r,q,rfl,rfl,e,_⟩|⟨h1,h2⟩
 ·have:=Oi e;simp only [isK,hd,List.headD_cons,this.1]
 ·rw [Qk h1 hk,Qk h2 hk]
theorem Sim.eS {l m:List Tok}(hs:S l m)(s:Bs)(hne:s≠[59]):(isK l 5&&(hd l).text==s)=(isK m 5&&(hd m).text==s):=by
 rcases h.view hs with ⟨t,u,r,q,rfl,rfl,e,_⟩|⟨h1,h2⟩
 ·have:=Oi e;simp only [isK,hd,List.headD_cons,this.1,this.2.1]
 ·rw [Qj h1 hne,Qj h2 hne]
theorem Sim.ns {l m:List Tok}(hs:S l m)(hn:¬stop l):S l.tail m.tail∧(hd l).text=(hd m).text∧(hd l).num=(hd m).num∧l.tail.length < l.length∧m.tail.length < m.length:=by
 rcases h.view hs with ⟨t,u,r,q,rfl,rfl,e,hr⟩|⟨h1,h2⟩
 ·have:=Oi e;exact ⟨hr,this.2.1,this.2.2,by simp,by simp⟩
 ·exact absurd h1 hn
theorem Sim.tT {l m:List Tok}(hs:S l m){s:Bs}(hne:s≠[59])(ht:isT l s=true):S l.tail m.tail∧(hd l).text=(hd m).text∧(hd l).num=(hd m).num∧l.tail.length < l.length∧m.tail.length < m.length:=
 h.ns hs fun hst=>by rw [Qi hst hne] at ht;cases ht
theorem Sim.tK {l m:List Tok}(hs:S l m){k:Int}(hk:k≠5∧k≠6)(ht:isK l k=true):S l.tail m.tail∧(hd l).text=(hd m).text∧(hd l).num=(hd m).num∧l.tail.length < l.length∧m.tail.length < m.length:=
 h.ns hs fun hst=>by rw [Qk hst hk] at ht;cases ht
theorem Sim.tS {l m:List Tok}(hs:S l m){s:Bs}(hne:s≠[59])(ht:(isK l 5&&(hd l).text==s)=true):S l.tail m.tail∧(hd l).text=(hd m).text∧(hd l).num=(hd m).num∧l.tail.length < l.length∧m.tail.length < m.length:=
 h.ns hs fun hst=>by rw [Qj hst hne] at ht;cases ht
theorem Sim.pos {l m:List Tok}(hs:S l m):0 < l.length∧0 < m.length:=by
 rcases h.view hs with ⟨t,u,r,q,rfl,rfl,_,_⟩|⟨⟨_,_,rfl,_⟩,⟨_,_,rfl,_⟩⟩ <;> simp
omit h
variable (S E) in
def RS {α:Type}(a b:Nat):Res α→Res α→Prop
 | .ok x r,.ok y q=>x=y∧S r q∧r.length < a∧q.length < b
 | .err e,.err f=>E e f
 |_,_=>False
theorem RS.mono {α:Type}{a b a' b':Nat}{g g':Res α}(h:RS S E a b g g')(ha:a≤a')(hb:b≤b'):RS S E a' b' g g':=by
 cases g <;> cases g' <;> simp only [RS] at h ⊢
 ·exact ⟨h.1,h.2.1,by omega,by omega⟩
 ·exact h
theorem RS.bind {α β:Type}{a b c d:Nat}{g g':Res α}{f f':α→Pr β}(hg:RS S E a b g g')(hf:∀x r q,S r q→r.length < a→q.length < b→RS S E c d (f x r) (f' x q)):RS S E c d (g.bind f) (g'.bind f'):=by
 cases g <;> cases g' <;> simp only [RS] at hg
 ·obtain ⟨rfl,h1,h2,h3⟩:=hg;exact hf _ _ _ h1 h2 h3
 ·exact hg
theorem RS.ok {α:Type}{a b:Nat}{x:α}{r q:List Tok}(h:S r q)(h1:r.length < a)(h2:q.length < b):RS S E a b (.ok x r) (.ok x q):=⟨rfl,h,h1,h2⟩
include h
theorem RS.bad {α:Type}{a b:Nat}{l m:List Tok}(hs:S l m):RS S E a b (bad l:Res α) (bad m):=h.bad hs
variable (S E) in
def SP {α:Type}(n n':Nat)(P P':Pr α):Prop:=∀l m,S l m→l.length≤n→m.length≤n'→RS S E l.length m.length (P l) (P' m)
theorem BH {s:Bs}(hne:s≠[59]){l m:List Tok}(hs:S l m):RS S E l.length m.length (AO s l) (AO s m):=by
 unfold AO;rw [←h.eT hs s hne];split
 ·rename_i ht
  obtain ⟨h1,_,_,h2,h3⟩:=h.tT hs hne ht;exact .ok h1 h2 h3
 ·exact RS.bad h hs
theorem CJ {l m:List Tok}(hs:S l m):RS S E l.length m.length (Ar l) (Ar m):=by
 unfold Ar;rw [←h.eK hs 1 (by decide)];split
 ·rename_i ht
  obtain ⟨h1,h4,_,h2,h3⟩:=h.tK hs (by decide) ht;rw [h4];exact .ok h1 h2 h3
 ·exact RS.bad h hs
theorem Uw {l m:List Tok}(hs:S l m):RS S E l.length m.length (MJ l) (MJ m):=by
 unfold MJ;rw [←h.eK hs 3 (by decide)];split
 ·rename_i ht
  obtain ⟨h1,_,h4,h2,h3⟩:=h.tK hs (by decide) ht;rw [h4];exact .ok h1 h2 h3
 ·exact RS.bad h hs
theorem UB {l m:List Tok}(hs:S l m):RS S E l.length m.length (EZ l) (EZ m):=by
 unfold EZ;rw [←h.eK hs 3 (by decide)];by_cases ht:isK l 3=true
 ·obtain ⟨h1,_,h4,h2,h3⟩:=h.tK hs (by decide) ht;rw [h4];split
  ·exact .ok h1 h2 h3
  ·exact RS.bad h hs
 ·have ht:isK l 3=false:=by simpa using ht
  simp only [ht,Bool.false_and,Bool.false_eq_true,if_false];exact RS.bad h hs
theorem AAu {l m:List Tok}(hs:S l m):IY l=IY m∧∀v,IY l=some v→S l.tail m.tail∧l.tail.length < l.length∧m.tail.length < m.length:=by
 unfold IY;rw [←h.eK hs 4 (by decide),←h.eT hs [116,114,117,101] (by decide),←h.eT hs [102,97,108,115,101] (by decide),←h.eT hs [110,117,108,108] (by decide)];split
 ·rename_i ht
  obtain ⟨h1,h4,_,h2,h3⟩:=h.tK hs (by decide) ht;rw [h4];exact ⟨rfl,fun _ _=>⟨h1,h2,h3⟩⟩
 split
 ·rename_i ht
  obtain ⟨h1,h4,_,h2,h3⟩:=h.tT hs (by decide) ht;exact ⟨rfl,fun _ _=>⟨h1,h2,h3⟩⟩
 split
 ·rename_i ht
  obtain ⟨h1,h4,_,h2,h3⟩:=h.tT hs (by decide) ht;exact ⟨rfl,fun _ _=>⟨h1,h2,h3⟩⟩
 split
 ·rename_i ht
  obtain ⟨h1,h4,_,h2,h3⟩:=h.tT hs (by decide) ht;exact ⟨rfl,fun _ _=>⟨h1,h2,h3⟩⟩
 ·exact ⟨rfl,fun _ he=>by cases he⟩
variable (S) in
omit h in
def OpS (op:List Tok→Int):Prop:=∀l m,S l m→op l=op m∧(op l≠0→S l.tail m.tail∧l.tail.length < l.length∧m.tail.length < m.length)
theorem ANw:OpS S NU:=fun l m hs=>by
 unfold NU;rw [←h.eT hs [111,114] (by decide)];split
 ·rename_i ht
  obtain ⟨h1,_,_,h2,h3⟩:=h.tT hs (by decide) ht;exact ⟨rfl,fun _=>⟨h1,h2,h3⟩⟩
 ·exact ⟨rfl,fun he=>absurd rfl he⟩
theorem AJz:OpS S Ie:=fun l m hs=>by
 unfold Ie;rw [←h.eT hs [97,110,100] (by decide)];split
 ·rename_i ht
  obtain ⟨h1,_,_,h2,h3⟩:=h.tT hs (by decide) ht;exact ⟨rfl,fun _=>⟨h1,h2,h3⟩⟩
 ·exact ⟨rfl,fun he=>absurd rfl he⟩
theorem AJy:OpS S FC:=fun l m hs=>by
 unfold FC;rw [←h.eT hs [61] (by decide),←h.eT hs [60,62] (by decide),←h.eT hs [60] (by decide),←h.eT hs [60,61] (by decide),←h.eT hs [62] (by decide),←h.eT hs [62,61] (by decide)];refine ⟨rfl,fun he=>?_⟩;have go:∀s:Bs,s≠[59]→isT l s=true→S l.tail m.tail∧l.tail.length < l.length∧m.tail.length < m.length:=fun s hne ht=>by
  obtain ⟨h1,_,_,h2,h3⟩:=h.tT hs hne ht;exact ⟨h1,h2,h3⟩
 repeat' split at he
 all_goals first
  |exact absurd rfl he
  |(refine go _ ?_ zA;decide)
theorem AFP {f:Bs→Option Int}(hf:f [59]=none):OpS S (JF f):=fun l m hs=>by
 unfold JF;rcases h.view hs with ⟨t,u,r,q,rfl,rfl,e,hr⟩|⟨h1,h2⟩
 ·have:=Oi e;refine ⟨by rw [show isK (t::r) 5=isK (u::q) 5 by simp only [isK,hd,List.headD_cons,this.1],show hd (t::r)=t from rfl,show hd (u::q)=u from rfl,this.2.1],fun _=>⟨hr,by simp,by simp⟩⟩
 ·have hz:∀{l:List Tok},stop l→(if isK l 5=true then (f (hd l).text).getD 0 else 0)=0:=by
   rintro l ⟨t,r,rfl,h|⟨h,h'⟩⟩
   ·simp [isK,hd,h]
   ·simp [isK,hd,h,h',hf]
  rw [hz h1,hz h2];exact ⟨rfl,fun he=>absurd rfl he⟩
theorem Wv {α:Type}{n n':Nat}{P P':Pr α}(hp:SP S E n n' P P'):∀(k k':Nat) (acc:List α) (l m:List Tok),S l m→l.length≤k→m.length≤k'→l.length≤n→m.length≤n'→RS S E (l.length+1) (m.length+1) (CV P k acc l) (CV P' k' acc m)
 |0,_,_,l,m,hs,h1,_,_,_=>by have:=(h.pos hs).1;omega
 |k+1,k',acc,l,m,hs,h1,h2,h3,h4=>by
  have:=(h.pos hs).2;obtain ⟨k',rfl⟩:∃q,k'=q+1:=⟨k' - 1,by omega⟩;simp only [CV];rw [←h.eT hs [44] (by decide)];split
  ·rename_i ht
   obtain ⟨g1,_,_,g2,g3⟩:=h.tT hs (by decide) ht;refine RS.bind (hp _ _ g1 (by omega) (by omega)) (fun x r q hr h5 h6=>?_);exact (Wv hp k k' _ r q hr (by omega) (by omega) (by omega) (by omega)).mono (by omega) (by omega)
  ·exact .ok hs (by omega) (by omega)
theorem Iy {α:Type}{n n':Nat}{P P':Pr α}(hp:SP S E n n' P P'):SP S E n n' (BV n P) (BV n' P'):=fun l m hs h1 h2=>
 RS.bind (hp l m hs h1 h2) fun x r q hr h3 h4=>(Wv h hp n n' [x] r q hr (by omega) (by omega) (by omega) (by omega)).mono (by omega) (by omega)
theorem KF {α:Type}{n n':Nat}{P P':Pr α}(hp:SP S E n n' P P'):SP S E n n' (Bi n P) (Bi n' P'):=fun l m hs h1 h2=>
 RS.bind (BH h (by decide) hs) fun _ r q hr h3 h4=>RS.bind (Iy h hp r q hr (by omega) (by omega)) fun _ r2 q2 hr2 h5 h6=>
  RS.bind (BH h (by decide) hr2) fun _ r3 q3 hr3 h7 h8=>.ok hr3 (by omega) (by omega)
theorem Wx {n n':Nat}{P P':Pr Ex}(hp:SP S E n n' P P'){op:List Tok→Int}(ho:OpS S op):∀(k k':Nat) (x:Ex) (l m:List Tok),S l m→l.length≤k→m.length≤k'→l.length≤n→m.length≤n'→RS S E (l.length+1) (m.length+1) (FY P op k x l) (FY P' op k' x m)
 |0,_,_,l,m,hs,h1,_,_,_=>by have:=(h.pos hs).1;omega
 |k+1,k',x,l,m,hs,h1,h2,h3,h4=>by
  have:=(h.pos hs).2;obtain ⟨k',rfl⟩:∃q,k'=q+1:=⟨k' - 1,by omega⟩;obtain ⟨e,ht⟩:=ho l m hs;simp only [FY];rw [←e];split
  ·exact .ok hs (by omega) (by omega)
  ·rename_i hne
   obtain ⟨g1,g2,g3⟩:=ht hne;refine RS.bind (hp _ _ g1 (by omega) (by omega)) (fun y r q hr h5 h6=>?_);exact (Wx hp ho k k' _ r q hr (by omega) (by omega) (by omega) (by omega)).mono (by omega) (by omega)
theorem Ky {n n' k k':Nat}{P P':Pr Ex}(hp:SP S E n n' P P'){op:List Tok→Int}(ho:OpS S op)(hk:n≤k+1)(hk':n'≤k'+1):SP S E n n' (Cj k P op) (Cj k' P' op):=fun l m hs h1 h2=>
 RS.bind (hp l m hs h1 h2) fun x r q hr h3 h4=>(Wx h hp ho k k' x r q hr (by omega) (by omega) (by omega) (by omega)).mono (by omega) (by omega)
theorem Ws {k k' n n':Nat}{P P':Pr Ex}(hp:SP S E n n' P P')(acc:List Ex):SP S E n n' (Ew k P acc) (Ew k' P' acc):=fun l m hs h1 h2=>
 RS.bind (BH h (by decide) hs) fun _ r q hr h3 h4=>RS.bind (hp r q hr (by omega) (by omega)) fun _ r2 q2 hr2 h5 h6=>
  RS.bind (BH h (by decide) hr2) fun _ r3 q3 hr3 h7 h8=>RS.bind (hp r3 q3 hr3 (by omega) (by omega)) fun _ r4 q4 hr4 h9 h10=>.ok hr4 (by omega) (by omega)
theorem Tv {i i' n n':Nat}{P P':Pr Ex}(hp:SP S E n n' P P'):∀(k k':Nat) (acc:List Ex) (l m:List Tok),S l m→l.length≤k→m.length≤k'→l.length≤n→m.length≤n'→RS S E (l.length+1) (m.length+1) (Ep i P k acc l) (Ep i' P' k' acc m)
 |0,_,_,l,m,hs,h1,_,_,_=>by have:=(h.pos hs).1;omega
 |k+1,k',acc,l,m,hs,h1,h2,h3,h4=>by
  have:=(h.pos hs).2;obtain ⟨k',rfl⟩:∃q,k'=q+1:=⟨k' - 1,by omega⟩;simp only [Ep];rw [←h.eT hs [119,104,101,110] (by decide)];split
  ·refine RS.bind (Ws h hp acc l m hs h3 h4) (fun x r q hr h5 h6=>?_);exact (Tv hp k k' _ r q hr (by omega) (by omega) (by omega) (by omega)).mono (by omega) (by omega)
  ·exact .ok hs (by omega) (by omega)
theorem AFO {n n':Nat}{P P':Pr Ex}(hp:SP S E n n' P P'):SP S E n n' (JO n P) (JO n' P'):=fun l m hs h1 h2=>by
 refine RS.bind (Ws h hp [] l m hs h1 h2) fun a r q hr h3 h4=>?_;refine RS.bind (Tv h hp n n' a r q hr (by omega) (by omega) (by omega) (by omega)) fun a2 r2 q2 hr2 h5 h6=>?_;refine RS.bind (a:=l.length) (b:=m.length) ?_ fun a3 r3 q3 hr3 h7 h8=>RS.bind (BH h (by decide) hr3) fun _ r4 q4 hr4 h9 h10=>.ok hr4 (by omega) (by omega);rw [←h.eT hr2 [101,108,115,101] (by decide)];split
 ·rename_i ht
  obtain ⟨g1,_,_,g2,g3⟩:=h.tT hr2 (by decide) ht;exact RS.bind (hp _ _ g1 (by omega) (by omega)) fun x r5 q5 hr5 h9 h10=>.ok hr5 (by omega) (by omega)
 ·exact .ok hr2 (by omega) (by omega)
theorem PT {s:Bs}(hne:s≠[59]){l m:List Tok}(hs:S l m):isT l s=isT m s∧S (if isT l s then l.tail else l) (if isT m s then m.tail else m)∧(if isT l s then l.tail else l).length≤l.length∧(if isT m s then m.tail else m).length≤m.length:=by
 rw [←h.eT hs s hne];refine ⟨rfl,?_⟩;split
 ·rename_i ht
  obtain ⟨h1,_,_,h2,h3⟩:=h.tT hs hne ht;exact ⟨h1,by omega,by omega⟩
 ·exact ⟨hs,Nat.le_refl _,Nat.le_refl _⟩
theorem ADg {n n':Nat}{P P':Pr Ex}(hp:SP S E n n' P P')(s:Bs):SP S E n n' (Dh n P s) (Dh n' P' s):=fun l m hs h1 h2=>by
 unfold Dh;split
 ·exact RS.bind (KF h hp l m hs h1 h2) fun a r q hr h3 h4=>.ok hr h3 h4
 refine RS.bind (BH h (by decide) hs) fun _ r q hr h3 h4=>?_;split
 ·exact RS.bind (hp r q hr (by omega) (by omega)) fun _ r2 q2 hr2 h5 h6=>RS.bind (BH h (by decide) hr2) fun _ r3 q3 hr3 h7 h8=>.ok hr3 (by omega) (by omega)
 rw [←h.eT hr [42] (by decide)];split
 ·rename_i ht
  simp only [Bool.and_eq_true] at ht;obtain ⟨g1,_,_,g2,g3⟩:=h.tT hr (by decide) ht.2;exact RS.bind (BH h (by decide) g1) fun _ r3 q3 hr3 h7 h8=>.ok hr3 (by omega) (by omega)
 obtain ⟨e1,e2,e3,e4⟩:=PT h (s:=[100,105,115,116,105,110,99,116]) (by decide) hr;rw [e1] at e2 e3 ⊢;refine RS.bind (hp _ _ e2 (by omega) (by omega)) fun _ r2 q2 hr2 h5 h6=>RS.bind (BH h (by decide) hr2) fun _ r3 q3 hr3 h7 h8=>.ok hr3 (by omega) (by omega)
theorem ADb {k k' n n':Nat}{P P' U U':Pr Ex}(hp:SP S E n n' P P')(hu:SP S E n n' U U')(hk:k=n)(hk':k'=n'):SP S E (n+1) (n'+1) (FQ k P U) (FQ k' P' U'):=fun l m hs h1 h2=>by
 subst hk hk';unfold FQ;rw [←h.eT hs [45] (by decide),←h.eT hs [40] (by decide),←h.eT hs [99,97,115,101] (by decide),←h.eK hs 3 (by decide)];split
 ·rename_i ht
  obtain ⟨g1,_,_,g2,g3⟩:=h.tT hs (by decide) ht;exact RS.bind (hu _ _ g1 (by omega) (by omega)) fun x r q hr h5 h6=>.ok hr (by omega) (by omega)
 split
 ·rename_i ht
  obtain ⟨g1,_,_,g2,g3⟩:=h.tT hs (by decide) ht;exact RS.bind (hp _ _ g1 (by omega) (by omega)) fun x r q hr h5 h6=>RS.bind (BH h (by decide) hr) fun _ r3 q3 hr3 h7 h8=>.ok hr3 (by omega) (by omega)
 split
 ·rename_i ht
  obtain ⟨g1,_,_,g2,g3⟩:=h.tT hs (by decide) ht;exact (AFO h hp _ _ g1 (by omega) (by omega)).mono (by omega) (by omega)
 split
 ·exact Uw h hs
 obtain ⟨e1,e2⟩:=AAu h hs;rw [←e1];cases hl:IY l with
 |some v=>
  obtain ⟨g1,g2,g3⟩:=e2 v hl;exact .ok g1 g2 g3
 |none=>
  refine RS.bind (CJ h hs) fun s r q hr h3 h4=>?_;rw [←h.eT hr [40] (by decide),←h.eT hr [46] (by decide)];split
  ·exact (ADg h hp s r q hr (by omega) (by omega)).mono (by omega) (by omega)
  split
  ·rename_i ht
   obtain ⟨g1,_,_,g2,g3⟩:=h.tT hr (by decide) ht;exact RS.bind (CJ h g1) fun x r5 q5 hr5 h9 h10=>.ok hr5 (by omega) (by omega)
  ·exact .ok hr (by omega) (by omega)
theorem AFK {n n':Nat}{P P' Q Q':Pr Ex}(hp:SP S E n n' P P')(hq:SP S E (n+1) (n'+1) Q Q'):SP S E (n+1) (n'+1) (JC n P Q) (JC n' P' Q'):=fun l m hs h1 h2=>by
 refine RS.bind (hq l m hs h1 h2) fun x r q hr h3 h4=>?_;obtain ⟨e1,e2⟩:=AJy h r q hr;rw [←e1,←h.eT hr [105,115] (by decide)];split
 ·rename_i hne
  obtain ⟨g1,g2,g3⟩:=e2 hne;exact RS.bind (hq _ _ g1 (by omega) (by omega)) fun y r2 q2 hr2 h5 h6=>.ok hr2 (by omega) (by omega)
 split
 ·rename_i ht
  obtain ⟨g1,_,_,g2,g3⟩:=h.tT hr (by decide) ht;rw [←h.eT g1 [110,111,116] (by decide)];split
  ·rename_i ht
   obtain ⟨g4,_,_,g5,g6⟩:=h.tT g1 (by decide) ht;exact RS.bind (BH h (by decide) g4) fun _ r3 q3 hr3 h7 h8=>.ok hr3 (by omega) (by omega)
  ·exact RS.bind (BH h (by decide) g1) fun _ r3 q3 hr3 h7 h8=>.ok hr3 (by omega) (by omega)
 obtain ⟨k1,k2,k3,k4⟩:=PT h (s:=[110,111,116]) (by decide) hr;simp only [k1] at k2 k3 ⊢;generalize (if isT q [110,111,116]=true then r.tail else r)=r' at k2 k3 ⊢;generalize (if isT q [110,111,116]=true then q.tail else q)=q' at k2 k4 ⊢;rw [←h.eT k2 [105,110] (by decide),←h.eT k2 [98,101,116,119,101,101,110] (by decide),←h.eT k2 [108,105,107,101] (by decide)];split
 ·rename_i ht
  obtain ⟨g1,_,_,g2,g3⟩:=h.tT k2 (by decide) ht;exact RS.bind (KF h hp _ _ g1 (by omega) (by omega)) fun a r2 q2 hr2 h5 h6=>.ok hr2 (by omega) (by omega)
 split
 ·rename_i ht
  obtain ⟨g1,_,_,g2,g3⟩:=h.tT k2 (by decide) ht;exact RS.bind (hq _ _ g1 (by omega) (by omega)) fun y r2 q2 hr2 h5 h6=>RS.bind (BH h (by decide) hr2) fun _ r3 q3 hr3 h7 h8=>RS.bind (hq _ _ hr3 (by omega) (by omega)) fun y r4 q4 hr4 h9 h10=>.ok hr4 (by omega) (by omega)
 split
 ·rename_i ht
  obtain ⟨g1,_,_,g2,g3⟩:=h.tT k2 (by decide) ht;exact RS.bind (hq _ _ g1 (by omega) (by omega)) fun y r2 q2 hr2 h5 h6=>.ok hr2 (by omega) (by omega)
 split
 ·exact RS.bad h k2
 ·exact .ok k2 (by omega) (by omega)
theorem AJx {n n':Nat}{P P' Q Q':Pr Ex}(hp:SP S E n n' P P')(hq:SP S E (n+1) (n'+1) Q Q'):SP S E (n+1) (n'+1) (PL P Q) (PL P' Q'):=fun l m hs h1 h2=>by
 unfold PL;rw [←h.eT hs [110,111,116] (by decide)];split
 ·rename_i ht
  obtain ⟨g1,_,_,g2,g3⟩:=h.tT hs (by decide) ht;exact RS.bind (hp _ _ g1 (by omega) (by omega)) fun x r q hr h5 h6=>.ok hr (by omega) (by omega)
 ·exact hq l m hs h1 h2
theorem UA:∀n n':Nat,SP S E n n' (Fa n).1 (Fa n').1∧SP S E n n' (Fa n).2.1 (Fa n').2.1∧SP S E n n' (Fa n).2.2 (Fa n').2.2
 |0,n'=>by
  refine ⟨?_,?_,?_⟩ <;> exact fun l m hs h1 _=>absurd (h.pos hs).1 (by omega)
 |n+1,0=>by
  refine ⟨?_,?_,?_⟩ <;> exact fun l m hs _ h1=>absurd (h.pos hs).2 (by omega)
 |n+1,n'+1=>by
  obtain ⟨i1,i2,i3⟩:=UA n n';have hU:=ADb h i1 i3 rfl rfl;have hS:=Ky h (Ky h hU (AFP h (f:=La) (by decide)) (k:=n) (k':=n') (Nat.le_refl _) (Nat.le_refl _)) (AFP h (f:=TP) (by decide)) (k:=n) (k':=n') (Nat.le_refl _) (Nat.le_refl _);have hN:=AJx h i2 (AFK h i1 hS);exact ⟨Ky h (Ky h hN (AJz h) (k:=n) (k':=n') (Nat.le_refl _) (Nat.le_refl _)) (ANw h) (k:=n) (k':=n') (Nat.le_refl _) (Nat.le_refl _),hN,hU⟩
theorem Qm (n n':Nat):SP S E n n' (eP n) (eP n'):=(UA h n n').1
variable (S E) in
omit h in
def SQ {α:Type}(n n':Nat)(P P':Pr α):Prop:=∀l m,S l m→l.length≤n→m.length≤n'→RS S E (l.length+1) (m.length+1) (P l) (P' m)
theorem Iz {α:Type}{n n':Nat}{s:Bs}(hne:s≠[59])(d:α){P P':Pr α}(hp:SP S E n n' P P'):SQ S E n n' (OM s d P) (OM s d P'):=fun l m hs h1 h2=>by
 unfold OM;rw [←h.eT hs s hne];split
 ·rename_i ht
  obtain ⟨g1,_,_,g2,g3⟩:=h.tT hs hne ht;exact (hp _ _ g1 (by omega) (by omega)).mono (by omega) (by omega)
 ·exact .ok hs (by omega) (by omega)
theorem Kz {n n':Nat}{s:Bs}(hne:s≠[59]):SQ S E n n' (EQ n s) (EQ n' s):=Iz h hne ex0 (Qm h n n')
theorem ADf {n n':Nat}:SP S E n n' FZ FZ:=fun l m hs h1 h2=>by
 unfold FZ;obtain ⟨e1,e2⟩:=AAu h hs;rw [←e1];cases hl:IY l with
 |some v=>
  obtain ⟨g1,g2,g3⟩:=e2 v hl;exact .ok g1 g2 g3
 |none=>
  simp only
  rw [←h.eT hs [45] (by decide)];split
  ·rename_i ht
   obtain ⟨g1,_,_,g2,g3⟩:=h.tT hs (by decide) ht;exact RS.bind (Uw h g1) fun x r q hr h5 h6=>.ok hr (by omega) (by omega)
  ·exact Uw h hs
theorem AFL (n n':Nat):SP S E n n' (Gq n) (Gq n'):=fun l m hs h1 h2=>by
 unfold Gq;rw [←h.eT hs [42] (by decide)];split
 ·rename_i ht
  obtain ⟨g1,_,_,g2,g3⟩:=h.tT hs (by decide) ht;exact .ok g1 g2 g3
 have key:(isK l 1&&isK l.tail 5&&(hd l.tail).text==[46]&&isK l.tail.tail 5&&(hd l.tail.tail).text==[42])=(isK m 1&&isK m.tail 5&&(hd m.tail).text==[46]&&isK m.tail.tail 5&&(hd m.tail.tail).text==[42])∧
   ((isK l 1&&isK l.tail 5&&(hd l.tail).text==[46]&&isK l.tail.tail 5&&(hd l.tail.tail).text==[42])=true→S l.tail.tail.tail m.tail.tail.tail∧(hd l).text=(hd m).text∧l.tail.tail.tail.length < l.length∧m.tail.tail.tail.length < m.length):=by
  rw [←h.eK hs 1 (by decide)];cases h1:isK l 1 with
  |false=>simp
  |true=>
   obtain ⟨g1,g2,_,g3,g4⟩:=h.tK hs (by decide) h1;have e2:=h.eS g1 [46] (by decide);simp only [Bool.true_and];rw [←e2];cases h2:(isK l.tail 5&&(hd l.tail).text==[46]) with
   |false=>simp
   |true=>
    obtain ⟨g5,_,_,g6,g7⟩:=h.tS g1 (by decide) h2;have e3:=h.eS g5 [42] (by decide);simp only [Bool.true_and];rw [←e3];refine ⟨rfl,fun h3=>?_⟩;obtain ⟨g8,_,_,g9,g10⟩:=h.tS g5 (by decide) h3;exact ⟨g8,g2,by omega,by omega⟩
 obtain ⟨k1,k2⟩:=key;rw [←k1];split
 ·rename_i hb
  obtain ⟨g1,g2,g3,g4⟩:=k2 hb;rw [g2];exact .ok g1 g3 g4
 refine RS.bind (Qm h n n' l m hs h1 h2) fun x r q hr h3 h4=>?_;rw [←h.eT hr [97,115] (by decide)];split
 ·rename_i ht
  obtain ⟨g1,_,_,g2,g3⟩:=h.tT hr (by decide) ht;exact RS.bind (CJ h g1) fun a r2 q2 hr2 h5 h6=>.ok hr2 (by omega) (by omega)
 ·exact .ok hr h3 h4
theorem ADe (n n':Nat):SP S E n n' (IC n) (IC n'):=fun l m hs h1 h2=>by
 refine RS.bind (Qm h n n' l m hs h1 h2) fun x r q hr h3 h4=>?_;rw [←h.eT hr [100,101,115,99] (by decide),←h.eT hr [97,115,99] (by decide)];split
 ·rename_i ht
  obtain ⟨g1,_,_,g2,g3⟩:=h.tT hr (by decide) ht;exact .ok g1 (by omega) (by omega)
 split
 ·rename_i ht
  obtain ⟨g1,_,_,g2,g3⟩:=h.tT hr (by decide) ht;exact .ok g1 (by omega) (by omega)
 ·exact .ok hr h3 h4
theorem JX {n n':Nat}:SP S E n n' CY CY:=fun l m hs h1 h2=>by
 refine RS.bind (CJ h hs) fun s r q hr h3 h4=>?_;rw [←h.eT hr [97,115] (by decide),←h.eK hr 1 (by decide)];split
 ·rename_i ht
  obtain ⟨g1,_,_,g2,g3⟩:=h.tT hr (by decide) ht;exact RS.bind (CJ h g1) fun a r2 q2 hr2 h5 h6=>.ok hr2 (by omega) (by omega)
 split
 ·exact RS.bind (CJ h hr) fun a r2 q2 hr2 h5 h6=>.ok hr2 (by omega) (by omega)
 ·exact .ok hr h3 h4
theorem Ql (n n':Nat)(b:Bool):SP S E n n' (Gz n b) (Gz n' b):=fun l m hs h1 h2=>
 RS.bind (BH h (by decide) hs) fun _ r q hr h3 h4=>RS.bind (JX h r q hr (Nat.le_refl _) (Nat.le_refl _)) fun s r2 q2 hr2 h5 h6=>
  RS.bind (BH h (by decide) hr2) fun _ r3 q3 hr3 h7 h8=>RS.bind (Qm h n n' r3 q3 hr3 (by omega) (by omega)) fun x r4 q4 hr4 h9 h10=>.ok hr4 (by omega) (by omega)
theorem Hl (n n':Nat):∀(k k':Nat) (acc:List TSource) (l m:List Tok),S l m→l.length≤k→m.length≤k'→l.length≤n→m.length≤n'→RS S E (l.length+1) (m.length+1) (Cb n k acc l) (Cb n' k' acc m)
 |0,_,_,l,m,hs,h1,_,_,_=>by have:=(h.pos hs).1;omega
 |k+1,k',acc,l,m,hs,h1,h2,h3,h4=>by
  have:=(h.pos hs).2;obtain ⟨k',rfl⟩:∃q,k'=q+1:=⟨k' - 1,by omega⟩;simp only [Cb];rw [←h.eT hs [44] (by decide),←h.eT hs [99,114,111,115,115] (by decide),←h.eT hs [108,101,102,116] (by decide),←h.eT hs [105,110,110,101,114] (by decide),←h.eT hs [106,111,105,110] (by decide)];split
  ·rename_i ht
   obtain ⟨g1,_,_,g2,g3⟩:=h.tT hs (by decide) ht;exact RS.bind (JX h _ _ g1 (Nat.le_refl _) (Nat.le_refl _)) (fun x r q hr h5 h6=>(Hl n n' k k' _ r q hr (by omega) (by omega) (by omega) (by omega)).mono (by omega) (by omega))
  split
  ·rename_i ht
   obtain ⟨g1,_,_,g2,g3⟩:=h.tT hs (by decide) ht;exact RS.bind (BH h (by decide) g1) fun _ r q hr h5 h6=>RS.bind (JX h r q hr (Nat.le_refl _) (Nat.le_refl _)) (fun x r q hr h5 h6=>(Hl n n' k k' _ r q hr (by omega) (by omega) (by omega) (by omega)).mono (by omega) (by omega))
  split
  ·rename_i ht
   obtain ⟨g1,_,_,g2,g3⟩:=h.tT hs (by decide) ht;exact RS.bind (Ql h n n' _ _ _ g1 (by omega) (by omega)) (fun x r q hr h5 h6=>(Hl n n' k k' _ r q hr (by omega) (by omega) (by omega) (by omega)).mono (by omega) (by omega))
  split
  ·rename_i ht
   obtain ⟨g1,_,_,g2,g3⟩:=h.tT hs (by decide) ht;exact RS.bind (Ql h n n' _ _ _ g1 (by omega) (by omega)) (fun x r q hr h5 h6=>(Hl n n' k k' _ r q hr (by omega) (by omega) (by omega) (by omega)).mono (by omega) (by omega))
  split
  ·exact RS.bind (Ql h n n' _ _ _ hs (by omega) (by omega)) (fun x r q hr h5 h6=>(Hl n n' k k' _ r q hr (by omega) (by omega) (by omega) (by omega)).mono (by omega) (by omega))
  ·exact .ok hs (by omega) (by omega)
theorem AFM (n n':Nat):SP S E n n' (KZ n) (KZ n'):=fun l m hs h1 h2=>
 RS.bind (JX h l m hs h1 h2) fun s r q hr h3 h4=>(Hl h n n' n n' [s] r q hr (by omega) (by omega) (by omega) (by omega)).mono (by omega) (by omega)
theorem AAv {α:Type}{n n':Nat}{P P':Pr α}(hp:SP S E n n' P P'):SP S E n n' (byP P) (byP P'):=fun l m hs h1 h2=>
 RS.bind (BH h (by decide) hs) fun _ r q hr h3 h4=>(hp r q hr (by omega) (by omega)).mono (by omega) (by omega)
theorem ADd (n n':Nat):SP S E n n' (Gt n) (Gt n'):=fun l m hs h1 h2=>by
 unfold Gt;obtain ⟨e1,e2,e3,e4⟩:=PT h (s:=[100,105,115,116,105,110,99,116]) (by decide) hs;simp only [e1] at e2 e3 ⊢;generalize (if isT m [100,105,115,116,105,110,99,116]=true then l.tail else l)=l' at e2 e3 ⊢;generalize (if isT m [100,105,115,116,105,110,99,116]=true then m.tail else m)=m' at e2 e4 ⊢;refine RS.bind (Iy h (AFL h n n') _ _ e2 (by omega) (by omega)) fun x1 r1 q1 hr1 a1 b1=>?_;refine RS.bind (Iz h (by decide) [] (AFM h n n') r1 q1 hr1 (by omega) (by omega)) fun x2 r2 q2 hr2 a2 b2=>?_;refine RS.bind (Kz h (by decide) r2 q2 hr2 (by omega) (by omega)) fun x3 r3 q3 hr3 a3 b3=>?_;refine RS.bind (Iz h (by decide) [] (AAv h (Iy h (Qm h n n'))) r3 q3 hr3 (by omega) (by omega)) fun x4 r4 q4 hr4 a4 b4=>?_;refine RS.bind (Kz h (by decide) r4 q4 hr4 (by omega) (by omega)) fun x5 r5 q5 hr5 a5 b5=>?_;refine RS.bind (Iz h (by decide) [] (AAv h (Iy h (ADe h n n'))) r5 q5 hr5 (by omega) (by omega)) fun x6 r6 q6 hr6 a6 b6=>?_;refine RS.bind (Iz h (n:=n) (n':=n') (by decide) (-1) (fun l m hs _ _=>UB h hs) r6 q6 hr6 (by omega) (by omega)) fun x7 r7 q7 hr7 a7 b7=>?_;refine RS.bind (Iz h (n:=n) (n':=n') (by decide) 0 (fun l m hs _ _=>UB h hs) r7 q7 hr7 (by omega) (by omega)) fun x8 r8 q8 hr8 a8 b8=>?_;exact .ok hr8 (by omega) (by omega)
theorem AJw (n n':Nat):SP S E n n' (TR n) (TR n'):=fun l m hs h1 h2=>
 RS.bind (CJ h hs) fun s r q hr h3 h4=>RS.bind (BH h (by decide) hr) fun _ r2 q2 hr2 h5 h6=>RS.bind (Qm h n n' r2 q2 hr2 (by omega) (by omega)) fun x r3 q3 hr3 h7 h8=>.ok hr3 (by omega) (by omega)
theorem KG:∀(k k':Nat) (c:TCol) (l m:List Tok),S l m→l.length≤k→m.length≤k'→RS S E (l.length+1) (m.length+1) (FV k c l) (FV k' c m)
 |0,_,_,l,m,hs,h1,_=>by have:=(h.pos hs).1;omega
 |k+1,k',c,l,m,hs,h1,h2=>by
  have:=(h.pos hs).2;obtain ⟨k',rfl⟩:∃q,k'=q+1:=⟨k' - 1,by omega⟩;simp only [FV];rw [←h.eT hs [110,111,116] (by decide),←h.eT hs [112,114,105,109,97,114,121] (by decide),←h.eT hs [117,110,105,113,117,101] (by decide),←h.eT hs [100,101,102,97,117,108,116] (by decide)];split
  ·rename_i ht
   simp only [Bool.and_eq_true] at ht;obtain ⟨g1,_,_,g2,g3⟩:=h.tT hs (by decide) ht.2;exact RS.bind (BH h (by decide) g1) fun _ r q hr h5 h6=>(KG k k' _ r q hr (by omega) (by omega)).mono (by omega) (by omega)
  split
  ·rename_i ht
   simp only [Bool.and_eq_true] at ht;obtain ⟨g1,_,_,g2,g3⟩:=h.tT hs (by decide) ht.2;exact RS.bind (BH h (by decide) g1) fun _ r q hr h5 h6=>(KG k k' _ r q hr (by omega) (by omega)).mono (by omega) (by omega)
  split
  ·rename_i ht
   simp only [Bool.and_eq_true] at ht;obtain ⟨g1,_,_,g2,g3⟩:=h.tT hs (by decide) ht.2;exact (KG k k' _ _ _ g1 (by omega) (by omega)).mono (by omega) (by omega)
  split
  ·rename_i ht
   simp only [Bool.and_eq_true] at ht;obtain ⟨g1,_,_,g2,g3⟩:=h.tT hs (by decide) ht.2;exact RS.bind (ADf h (n:=l.length) (n':=m.length) _ _ g1 (by omega) (by omega)) fun _ r q hr h5 h6=>(KG k k' _ r q hr (by omega) (by omega)).mono (by omega) (by omega)
  ·exact .ok hs (by omega) (by omega)
theorem ZB (n n':Nat):SP S E n n' (Ej n) (Ej n'):=fun l m hs h1 h2=>by
 refine RS.bind (CJ h hs) fun s r q hr h3 h4=>?_;rw [←h.eK hr 1 (by decide)];by_cases hk:isK r 1=true
 ·obtain ⟨g1,g4,_,g2,g3⟩:=h.tK hr (by decide) hk;simp only [hk,if_true,g4];split
  ·exact RS.bad h hr
  ·exact (KG h n n' _ _ _ g1 (by omega) (by omega)).mono (by omega) (by omega)
 ·have hk:isK r 1=false:=by simpa using hk
  simp only [hk,Bool.false_eq_true,if_false,if_true];exact RS.bad h hr
theorem Wu (n n':Nat):∀(k k':Nat) (cs:List TCol) (ks:List Bs) (l m:List Tok),S l m→l.length≤k→m.length≤k'→l.length≤n→m.length≤n'→RS S E (l.length+1) (m.length+1) (Ez n k cs ks l) (Ez n' k' cs ks m)
 |0,_,_,_,l,m,hs,h1,_,_,_=>by have:=(h.pos hs).1;omega
 |k+1,k',cs,ks,l,m,hs,h1,h2,h3,h4=>by
  have:=(h.pos hs).2;obtain ⟨k',rfl⟩:∃q,k'=q+1:=⟨k' - 1,by omega⟩;simp only [Ez];refine RS.bind (a:=l.length) (b:=m.length) ?_ fun x r q hr h5 h6=>?_
  ·rw [←h.eT hs [112,114,105,109,97,114,121] (by decide)];split
   ·rename_i ht
    simp only [Bool.and_eq_true] at ht;obtain ⟨g1,_,_,g2,g3⟩:=h.tT hs (by decide) ht.2;exact RS.bind (BH h (by decide) g1) fun _ r q hr h5 h6=>RS.bind (KF h (n:=n) (n':=n') (fun l m hs _ _=>CJ h hs) r q hr (by omega) (by omega)) fun k r2 q2 hr2 h7 h8=>.ok hr2 (by omega) (by omega)
   ·exact RS.bind (ZB h n n' _ _ hs h3 h4) fun k r2 q2 hr2 h7 h8=>.ok hr2 (by omega) (by omega)
  ·rw [←h.eT hr [44] (by decide)];split
   ·rename_i ht
    obtain ⟨g1,_,_,g2,g3⟩:=h.tT hr (by decide) ht;exact (Wu n n' k k' _ _ _ _ g1 (by omega) (by omega) (by omega) (by omega)).mono (by omega) (by omega)
   ·exact .ok hr (by omega) (by omega)
theorem ADc (n n':Nat):SP S E n n' (OB n) (OB n'):=fun l m hs h1 h2=>by
 refine RS.bind (CJ h hs) fun s r q hr h3 h4=>RS.bind (BH h (by decide) hr) fun _ r2 q2 hr2 h5 h6=>?_;refine RS.bind (Wu h n n' (n+1) (n'+1) [] [] r2 q2 hr2 (by omega) (by omega) (by omega) (by omega)) fun x r3 q3 hr3 h7 h8=>?_;split
 ·exact RS.bad h hr3
 ·exact RS.bind (BH h (by decide) hr3) fun _ r4 q4 hr4 h9 h10=>.ok hr4 (by omega) (by omega)
theorem Tz (n n':Nat):SP S E n n' (Bi n Ar) (Bi n' Ar):=KF h fun l m hs _ _=>CJ h hs
theorem ZA (n n':Nat):SP S E n n' (Ei n) (Ei n'):=fun l m hs h1 h2=>by
 unfold Ei;rw [←h.eT hs [116,97,98,108,101] (by decide)];split
 ·rename_i ht
  obtain ⟨g1,_,_,g2,g3⟩:=h.tT hs (by decide) ht;exact (ADc h n n' _ _ g1 (by omega) (by omega)).mono (by omega) (by omega)
 obtain ⟨e1,e2,e3,e4⟩:=PT h (s:=[117,110,105,113,117,101]) (by decide) hs;simp only [e1] at e2 e3 ⊢;generalize (if isT m [117,110,105,113,117,101]=true then l.tail else l)=l' at e2 e3 ⊢;generalize (if isT m [117,110,105,113,117,101]=true then m.tail else m)=m' at e2 e4 ⊢;exact RS.bind (BH h (by decide) e2) fun _ r q hr h3 h4=>RS.bind (CJ h hr) fun _ r2 q2 hr2 h5 h6=>RS.bind (BH h (by decide) hr2) fun _ r3 q3 hr3 h7 h8=>
  RS.bind (CJ h hr3) fun _ r4 q4 hr4 h9 h10=>RS.bind (Tz h n n' r4 q4 hr4 (by omega) (by omega)) fun _ r5 q5 hr5 h11 h12=>.ok hr5 (by omega) (by omega)
theorem AFN {n n':Nat}:SP S E n n' Fv Fv:=fun l m hs h1 h2=>by
 unfold Fv;rw [←h.eT hs [116,97,98,108,101] (by decide)];split
 ·rename_i ht
  obtain ⟨g1,_,_,g2,g3⟩:=h.tT hs (by decide) ht;exact RS.bind (CJ h g1) fun _ r q hr h3 h4=>.ok hr (by omega) (by omega)
 ·exact RS.bind (BH h (by decide) hs) fun _ r q hr h3 h4=>RS.bind (CJ h hr) fun _ r2 q2 hr2 h5 h6=>.ok hr2 (by omega) (by omega)
theorem Yy (n n':Nat):SP S E n n' (EE n) (EE n'):=fun l m hs h1 h2=>by
 refine RS.bind (BH h (by decide) hs) fun _ r q hr h3 h4=>RS.bind (CJ h hr) fun s r2 q2 hr2 h5 h6=>?_;refine RS.bind (a:=l.length) (b:=m.length) ?_ fun c r3 q3 hr3 h7 h8=>RS.bind (BH h (by decide) hr3) fun _ r4 q4 hr4 h9 h10=>
  RS.bind (Iy h (KF h (Qm h n n')) r4 q4 hr4 (by omega) (by omega)) fun x r5 q5 hr5 h11 h12=>.ok hr5 (by omega) (by omega)
 rw [←h.eT hr2 [40] (by decide)];split
 ·exact (Tz h n n' r2 q2 hr2 (by omega) (by omega)).mono (by omega) (by omega)
 ·exact .ok hr2 (by omega) (by omega)
theorem Yx (n n':Nat):SP S E n n' (ED n) (ED n'):=fun l m hs h1 h2=>
 RS.bind (CJ h hs) fun s r q hr h3 h4=>RS.bind (BH h (by decide) hr) fun _ r2 q2 hr2 h5 h6=>RS.bind (Iy h (AJw h n n') r2 q2 hr2 (by omega) (by omega)) fun x r3 q3 hr3 h7 h8=>
  RS.bind (Kz h (by decide) r3 q3 hr3 (by omega) (by omega)) fun w r4 q4 hr4 h9 h10=>.ok hr4 (by omega) (by omega)
theorem Yz (n n':Nat):SP S E n n' (EF n) (EF n'):=fun l m hs h1 h2=>
 RS.bind (BH h (by decide) hs) fun _ r q hr h3 h4=>RS.bind (CJ h hr) fun _ r2 q2 hr2 h5 h6=>
  RS.bind (Kz h (by decide) r2 q2 hr2 (by omega) (by omega)) fun w r4 q4 hr4 h9 h10=>.ok hr4 (by omega) (by omega)
theorem AFJ (n n':Nat):SP S E n n' (Dn n) (Dn n'):=fun l m hs h1 h2=>by
 unfold Dn;rw [←h.eT hs [115,101,108,101,99,116] (by decide),←h.eT hs [105,110,115,101,114,116] (by decide),←h.eT hs [117,112,100,97,116,101] (by decide),←h.eT hs [100,101,108,101,116,101] (by decide),←h.eT hs [99,114,101,97,116,101] (by decide),←h.eT hs [100,114,111,112] (by decide),←h.eT hs [98,101,103,105,110] (by decide),←h.eT hs [99,111,109,109,105,116] (by decide)];split
 ·rename_i ht
  obtain ⟨g1,_,_,g2,g3⟩:=h.tT hs (by decide) ht;exact RS.bind (ADd h n n' _ _ g1 (by omega) (by omega)) fun _ r q hr h3 h4=>.ok hr (by omega) (by omega)
 split
 ·rename_i ht
  obtain ⟨g1,_,_,g2,g3⟩:=h.tT hs (by decide) ht;exact (Yy h n n' _ _ g1 (by omega) (by omega)).mono (by omega) (by omega)
 split
 ·rename_i ht
  obtain ⟨g1,_,_,g2,g3⟩:=h.tT hs (by decide) ht;exact (Yx h n n' _ _ g1 (by omega) (by omega)).mono (by omega) (by omega)
 split
 ·rename_i ht
  obtain ⟨g1,_,_,g2,g3⟩:=h.tT hs (by decide) ht;exact (Yz h n n' _ _ g1 (by omega) (by omega)).mono (by omega) (by omega)
 split
 ·rename_i ht
  obtain ⟨g1,_,_,g2,g3⟩:=h.tT hs (by decide) ht;exact (ZA h n n' _ _ g1 (by omega) (by omega)).mono (by omega) (by omega)
 split
 ·rename_i ht
  obtain ⟨g1,_,_,g2,g3⟩:=h.tT hs (by decide) ht;exact (AFN h _ _ g1 (Nat.le_refl _) (Nat.le_refl _)).mono (by omega) (by omega)
 split
 ·rename_i ht
  obtain ⟨g1,_,_,g2,g3⟩:=h.tT hs (by decide) ht;exact .ok g1 g2 g3
 split
 ·rename_i ht
  obtain ⟨g1,_,_,g2,g3⟩:=h.tT hs (by decide) ht;exact .ok g1 g2 g3
 ·exact RS.bind (BH h (by decide) hs) fun _ r q hr h3 h4=>.ok hr h3 h4
end
def jn (b:Bs):Bs:=10::59::b
theorem Mc (b:Bs):∀(q:Bool) (s:Bs),BJ q (s++jn b)=if (BJ q s).isEmpty then 59::b else BJ q s++jn b
 |false,[]=>by simp [BJ,jn,FI]
 |true,[]=>by simp [BJ,jn,FI]
 |true,c::r=>by
  simp only [List.cons_append,BJ];split
  ·exact Mc b false r
  ·exact Mc b true r
 |false,c::r=>by
  have hh:((r++jn b).head? ==some 45)=(r.head? ==some 45):=by
   cases r with
   |nil=>rfl
   |cons d r=>rfl
  simp only [List.cons_append,BJ,hh];split
  ·exact Mc b false r
  split
  ·exact Mc b true r
  ·rfl
theorem RJ (q:UInt8)(t:Bs)(ht:t.head? ≠some q):∀(n:Nat) (s x r:Bs),s.length≤n→CQ q s=some (x,r)→CQ q (s++t)=some (x,r++t)
 |0,s,x,r,hn,h=>by
  have:s=[]:=List.length_eq_zero_iff.1 (by omega);subst this;simp [CQ] at h
 |n+1,[],x,r,hn,h=>by simp [CQ] at h
 |n+1,c::s,x,r,hn,h=>by
  rw [List.cons_append,EJ];rw [EJ] at h;split at h
  ·cases h
  rename_i h0
  rw [if_neg h0];split at h
  ·rename_i h1
   rw [if_pos h1];cases hq:CQ q s with
   |none=>rw [hq] at h;cases h
   |some y=>
    rw [hq] at h;simp only [Option.map_some,Option.some.injEq,Prod.mk.injEq] at h;obtain ⟨rfl,rfl⟩:=h;rw [RJ q t ht n s y.1 y.2 (by simpa using hn) hq];rfl
  ·rename_i h1
   rw [if_neg h1];cases s with
   |nil=>
    simp only [Option.some.injEq,Prod.mk.injEq] at h;obtain ⟨rfl,rfl⟩:=h;cases t with
    |nil=>rfl
    |cons d t=>
     have:(d==q)=false:=by
      cases hd:d==q with
      |false=>rfl
      |true=>exact absurd (by rw [List.head?_cons,beq_iff_eq.1 hd]) ht
     simp [this]
   |cons d s=>
    simp only at h
    simp only [List.cons_append];split at h
    ·rename_i h2
     rw [if_pos h2];cases hq:CQ q s with
     |none=>rw [hq] at h;cases h
     |some y=>
      rw [hq] at h;simp only [Option.map_some,Option.some.injEq,Prod.mk.injEq] at h;obtain ⟨rfl,rfl⟩:=h;rw [RJ q t ht n s y.1 y.2 (by simp only [List.length_cons] at hn;omega) hq];rfl
    ·rename_i h2
     rw [if_neg h2];simp only [Option.some.injEq,Prod.mk.injEq] at h;obtain ⟨rfl,rfl⟩:=h;rfl
theorem ACR {d:UInt8}{t:Bs}:∀{x s:Bs},d ∉ x→x.isPrefixOf (s++d::t)=x.isPrefixOf s
 |[],_,_=>by simp [List.isPrefixOf]
 |e::x,[],h=>by
  have:(e==d)=false:=by
   cases hd:e==d with
   |false=>rfl
   |true=>rw [beq_iff_eq.1 hd] at h;exact absurd (List.mem_cons_self ..) h
  simp [List.isPrefixOf,this]
 |e::x,c::s,h=>by
  simp only [List.cons_append,List.isPrefixOf];rw [ACR fun hh=>h (List.mem_cons_of_mem _ hh)]
theorem find_congr {α:Type}{p q:α→Bool}:∀{l:List α},(∀x∈l,p x=q x)→l.find? p=l.find? q
 |[],_=>rfl
 |x::l,h=>by
  rw [List.find?_cons,List.find?_cons,h x (List.mem_cons_self ..),find_congr fun y hy=>h y (List.mem_cons_of_mem _ hy)]
theorem AFT (s t:Bs):Gy (s++10::t)=Gy s:=by
 have h:∀x∈signsL,(10:UInt8) ∉ x:=by decide
 exact find_congr fun x hx=>ACR (h x hx)
theorem AIL {α:Type}{n:Nat}{s t:List α}(h:n≤s.length):(s++t).drop n=s.drop n++t:=by
 rw [List.drop_append,show n - s.length=0 by omega];rfl
theorem AKA {s x:Bs}(h:Gy s=some x):x.length≤s.length:=by
 have:=List.find?_some h;exact (List.isPrefixOf_iff_prefix.1 this).length_le
theorem AAO {p:UInt8→Bool}{t:Bs}(ht:t.head?.any p=false):∀s:Bs,(s++t).dropWhile p=s.dropWhile p++t∧(s++t).takeWhile p=s.takeWhile p
 |[]=>by
  cases t with
  |nil=>exact ⟨rfl,rfl⟩
  |cons d t=>
   have hd:p d=false:=by simpa using ht
   simp [List.dropWhile_cons,List.takeWhile_cons,hd]
 |c::s=>by
  have ih:=AAO ht s;simp only [List.cons_append,List.dropWhile_cons,List.takeWhile_cons];split
  ·exact ⟨ih.1,by rw [ih.2]⟩
  ·exact ⟨rfl,rfl⟩
theorem AOM (b:Bs){a:Nat}{s r:Bs}{t:Tok}(h:DJ a s= .tok t r):DJ a (s++jn b)= .tok t (r++jn b):=by
 cases s with
 |nil=>simp [DJ] at h
 |cons c s=>
  have w1:=AAO (p:=fun c=>BP c||BC c) (t:=jn b) rfl (c::s);have w2:=AAO (p:=BC) (t:=jn b) rfl (c::s);have sg:=AFT (c::s) (59::b);rw [List.cons_append] at w1 w2 sg;have e:(10::59::b:Bs)=jn b:=rfl;rw [e] at sg;rw [List.cons_append];simp only [DJ] at h ⊢;rw [w1.1,w1.2,w2.1,w2.2,sg];split at h
  ·rename_i h1
   rw [if_pos h1];unfold Gw at h ⊢;split at h
   ·cases h
   ·rename_i h2
    rw [if_neg h2];simp only [LexR.tok.injEq] at h;obtain ⟨rfl,rfl⟩:=h;rfl
  rename_i h1
  rw [if_neg h1];split at h
  ·rename_i h2
   rw [if_pos h2];split at h
   ·cases h
   ·rename_i k hk
    split at h
    ·cases h
    ·rename_i h3
     have h3':¬((List.dropWhile BC (c::s)++jn b).head?.any BP=true):=by
      cases hd:List.dropWhile BC (c::s) with
      |nil=>simp [jn,BP]
      |cons d r=>rw [hd] at h3;exact h3
     simp only [LexR.tok.injEq] at h;obtain ⟨rfl,rfl⟩:=h;rw [if_neg h3']
  rename_i h2
  rw [if_neg h2];split at h
  ·rename_i h3
   rw [if_pos h3];have hq:(jn b).head? ≠some c:=by
    intro hc;simp only [jn,List.head?_cons,Option.some.injEq] at hc;subst hc;exact absurd h3 (by decide)
   cases hx:CQ c s with
   |none=>rw [hx] at h;cases h
   |some y=>
    obtain ⟨x,r'⟩:=y;rw [hx] at h;rw [RJ c (jn b) hq _ s x r' (Nat.le_refl _) hx];simp only at h ⊢
    split at h
    ·rename_i h4
     rw [if_pos h4];split at h
     ·cases h
     ·rename_i h5
      rw [if_neg h5];simp only [LexR.tok.injEq] at h;obtain ⟨rfl,rfl⟩:=h;rfl
    ·rename_i h4
     rw [if_neg h4];simp only [LexR.tok.injEq] at h;obtain ⟨rfl,rfl⟩:=h;rfl
  rename_i h3
  rw [if_neg h3];cases hx:Gy (c::s) with
  |none=>rw [hx] at h;cases h
  |some x=>
   rw [hx] at h;simp only [LexR.tok.injEq] at h ⊢;obtain ⟨rfl,rfl⟩:=h;refine ⟨rfl,?_⟩;rw [←List.cons_append,AIL (AKA hx)]
theorem AHR {a:Nat}{s r:Bs}{t:Tok}(h:DJ a s= .tok t r):t.kind≠6:=by
 cases s with
 |nil=>simp [DJ] at h
 |cons c s=>
  simp only [DJ] at h;split at h
  ·unfold Gw at h;split at h
   ·cases h
   ·simp only [LexR.tok.injEq] at h;obtain ⟨rfl,rfl⟩:=h;simp only;split <;> decide
  split at h
  ·split at h
   ·cases h
   ·split at h
    ·cases h
    ·simp only [LexR.tok.injEq] at h;obtain ⟨rfl,rfl⟩:=h;simp
  split at h
  ·split at h
   ·cases h
   ·split at h
    ·split at h
     ·cases h
     ·simp only [LexR.tok.injEq] at h;obtain ⟨rfl,rfl⟩:=h;simp
    ·simp only [LexR.tok.injEq] at h;obtain ⟨rfl,rfl⟩:=h;simp
  split at h
  ·cases h
  ·simp only [LexR.tok.injEq] at h;obtain ⟨rfl,rfl⟩:=h;simp
theorem AAp (b:Bs)(A:Nat):∀(f f':Nat) (acc:List Tok) (s:Bs) (l0:List Tok),s.length < f→s.length+b.length+2 < f'→s.length≤A→DY A f acc s= .toks l0→(∀t∈acc,t.kind≠6)→
  ∃p f'',l0=p++[⟨6,A,[],0⟩]∧(∀t∈p,t.kind≠6)∧b.length+1 < f''∧DY (A+(b.length+2)) f' acc (s++jn b)=DY (A+(b.length+2)) f'' p (59::b)
 |0,_,_,_,_,h,_,_,_,_=>by omega
 |_+1,0,_,_,_,_,h,_,_,_=>by omega
 |f+1,f'+1,acc,s,l0,hf,hf',hA,h,hk=>by
  have hsk:=Mc b false s;have hle:=Hw false s;simp only [DY] at h;split at h
  ·rename_i hs
   simp only [LexA.toks.injEq] at h;subst h;rw [hs] at hsk;refine ⟨acc,f'+1,rfl,hk,by omega,?_⟩;have e1:BJ false (59::b)=59::b:=by simp [BJ,FI]
   simp only [DY,hsk,List.isEmpty_nil,if_true,e1]
  ·rename_i c r hs
   rw [hs] at hsk hle;simp only [List.isEmpty_cons,Bool.false_eq_true,if_false,List.cons_append] at hsk;split at h
   ·cases h
   ·rename_i t r' ho
    have hlt:=Vg ho;have h1:=AOM b ho;rw [List.cons_append] at h1;simp only [List.length_cons] at hle hlt;obtain ⟨p,f'',g1,g2,g3,g4⟩:=AAp b A f f' (acc++[t]) r' l0 (by omega) (by omega) (by omega) h (by
     intro x hx;rcases List.mem_append.1 hx with h|h
     ·exact hk x h
     ·rw [List.mem_singleton.1 h];exact AHR ho)
    refine ⟨p,f'',g1,g2,g3,?_⟩;rw [←g4];simp only [DY,hsk];rw [show A+(b.length+2) - ((r++jn b).length+1)=A - (r.length+1) by simp only [jn,List.length_append,List.length_cons];omega,h1]
def S2 (l m:List Tok):Prop:=∃p q e e',l=p++[e]∧m=q++[e']∧p.map Tok.st=q.map Tok.st∧e.kind=6∧e'.kind=6∧∀t∈p,t.kind≠6
theorem sim2:Sim S2 (fun _ _=>True) where
 view:=by
  rintro l m ⟨p,q,e,e',rfl,rfl,hpq,h1,h2,hp⟩;cases p with
  |nil=>
   cases q with
   |nil=>exact .inr ⟨⟨_,_,rfl,.inl h1⟩,⟨_,_,rfl,.inl h2⟩⟩
   |cons u q=>cases hpq
  |cons t p=>
   cases q with
   |nil=>cases hpq
   |cons u q=>
    simp only [List.map_cons,List.cons.injEq] at hpq;exact .inl ⟨t,u,_,_,rfl,rfl,hpq.1,p,q,e,e',rfl,rfl,hpq.2,h1,h2,fun x hx=>hp x (List.mem_cons_of_mem _ hx)⟩
 bad:=fun _=>trivial
theorem AHq {t u:Tok}{r q:List Tok}(h:t.st=u.st)(s:Bs):isT (t::r) s=isT (u::q) s:=by
 have:=Oi h;simp only [isT,hd,List.headD_cons,this.1,this.2.1]
theorem AOX {t u:Tok}{r q:List Tok}(h:t.st=u.st)(k:Int):isK (t::r) k=isK (u::q) k:=by
 have:=Oi h;simp only [isK,hd,List.headD_cons,this.1]
theorem AHs {t:Tok}{r:List Tok}(h:t.kind≠6):isK (t::r) 6=false:=by simpa [isK,hd] using h
theorem ACj {t:Tok}{r:List Tok}(h:t.kind=6):isK (t::r) 6=true:=by simp [isK,hd,h]
theorem Yr (n n':Nat):∀(k k':Nat) (l m:List Tok),S2 l m→l.length≤n→m.length≤n'→l.length≤k→m.length≤k'→∀acc acc' x r,Bz n k acc l= .ok x r→∃y r',x=acc++y∧Bz n' k' acc' m= .ok (acc'++y) r'
 |0,_,l,m,hs,_,_,hk,_,_,_,_,_,_=>by have:=(sim2.pos hs).1;omega
 |_+1,0,l,m,hs,_,_,_,hk,_,_,_,_,_=>by have:=(sim2.pos hs).2;omega
 |k+1,k'+1,l,m,hs,hn,hn',hk,hk',acc,acc',x,r,h=>by
  have hs0:=hs;obtain ⟨p,q,e,e',rfl,rfl,hpq,h1,h2,hp⟩:=hs;cases p with
  |nil=>
   cases q with
   |cons u q=>cases hpq
   |nil=>
    simp only [List.nil_append,Bz,ACj h1,ACj h2,if_true,Res.ok.injEq] at h ⊢;obtain ⟨rfl,rfl⟩:=h;exact ⟨[],_,by simp,by simp,rfl⟩
  |cons t p=>
   cases q with
   |nil=>cases hpq
   |cons u q=>
    simp only [List.map_cons,List.cons.injEq] at hpq;have ht:=hp t (List.mem_cons_self ..);have hu:u.kind≠6:=by rw [←(Oi hpq.1).1];exact ht
    have hst:S2 (p++[e]) (q++[e']):=⟨p,q,e,e',rfl,rfl,hpq.2,h1,h2,fun x hx=>hp x (List.mem_cons_of_mem _ hx)⟩;simp only [List.cons_append,List.length_cons,List.length_append,List.length_nil] at hn hn' hk hk';simp only [List.cons_append,Bz,AHs ht,AHs hu,Bool.false_eq_true,if_false,AHq (r:=p++[e]) (q:=q++[e']) hpq.1] at h ⊢;split at h
    ·rename_i hc
     rw [if_pos hc];exact Yr n n' k k' _ _ hst (by simp;omega) (by simp;omega) (by simp;omega) (by simp;omega) _ _ _ _ h
    ·rename_i hc
     rw [if_neg hc];obtain ⟨s,r1,g1,g2⟩:=bind_ok h;have hsim:=AFJ sim2 n n' _ _ hs0 (by simp;omega) (by simp;omega);simp only [List.cons_append] at hsim;rw [g1] at hsim;cases hm:Dn n' (u::(q++[e'])) with
     |err f=>rw [hm] at hsim;exact absurd hsim (by simp [RS])
     |ok s' r1'=>
      rw [hm] at hsim;simp only [RS,List.length_cons,List.length_append,List.length_nil] at hsim;obtain ⟨rfl,hr,hl1,hl2⟩:=hsim;simp only [Res.bind];have hcnd:(isK r1 6||isT r1 [59])=(isK r1' 6||isT r1' [59]):=by
       obtain ⟨p2,q2,e2,e2',rfl,rfl,hpq2,h12,h22,hp2⟩:=hr;cases p2 with
       |nil=>cases q2 with
        |nil=>simp only [List.nil_append,ACj h12,ACj h22,Bool.true_or]
        |cons=>cases hpq2
       |cons t2 p2=>cases q2 with
        |nil=>cases hpq2
        |cons u2 q2=>
         simp only [List.map_cons,List.cons.injEq] at hpq2;rw [List.cons_append,List.cons_append,AOX (q:=q2++[e2']) hpq2.1,AHq (q:=q2++[e2']) hpq2.1]
      rw [←hcnd];split at g2
      ·rename_i hc2
       rw [if_pos hc2];obtain ⟨y,r',e1,e2⟩:=Yr n n' k k' r1 r1' hr (by omega) (by omega) (by omega) (by omega) _ (acc'++[s]) _ _ g2;exact ⟨s::y,r',by rw [e1];simp,by rw [e2];simp⟩
      ·cases g2
theorem ADr {s:Bs}{l:List TStmt}(h:readA s=(l,ok0)):∃t r,Rt s= .toks t∧Bz t.length (t.length+1) [] t= .ok l r:=by
 unfold readA at h;split at h
 ·rename_i f hf
  simp only [Prod.mk.injEq] at h;have:=lex_code hf;rw [h.2] at this;exact absurd this.1 (by decide)
 ·rename_i t ht
  split at h
  ·rename_i x r hx
   simp only [Prod.mk.injEq] at h;exact ⟨t,r,ht,by rw [hx,h.1]⟩
  ·simp only [Prod.mk.injEq,ok0,Flt.mk.injEq] at h;exact absurd h.2.1 (by decide)
where
 one_code {a:Nat} {s:Bs} {e:Int} (h:DJ a s= .bad e):171≤e∧e≤173:=by
  cases s with
  |nil=>simp only [DJ,LexR.bad.injEq] at h;subst h;decide
  |cons c s=>
   simp only [DJ] at h;split at h
   ·unfold Gw at h;split at h
    ·simp only [LexR.bad.injEq] at h;subst h;decide
    ·cases h
   split at h
   ·split at h
    ·simp only [LexR.bad.injEq] at h;subst h;decide
    ·split at h
     ·simp only [LexR.bad.injEq] at h;subst h;decide
     ·cases h
   split at h
   ·split at h
    ·simp only [LexR.bad.injEq] at h;subst h;decide
    ·split at h
     ·split at h
      ·simp only [LexR.bad.injEq] at h;subst h;decide
      ·cases h
     ·cases h
   split at h
   ·simp only [LexR.bad.injEq] at h;subst h;decide
   ·cases h
 lex_code {s:Bs} {f:Flt} (h:Rt s= .bad f):171≤f.code∧f.code≤173:=go _ _ _ _ _ h
 go (n:Nat):∀(f:Nat) (acc:List Tok) (s:Bs) (x:Flt),DY n f acc s= .bad x→171≤x.code∧x.code≤173
  |0,_,_,_,h=>nomatch h
  |f+1,acc,s,x,h=>by
   simp only [DY] at h;split at h
   ·cases h
   ·split at h
    ·rename_i e he
     simp only [LexA.bad.injEq] at h;subst h;exact one_code he
    ·exact go n f _ _ _ h
theorem Xc {s:Bs}{l:List TStmt}(h:Ci s=(l,ok0)):readA s=(l,ok0)∧Dq l≤64:=by
 unfold Ci at h;split at h
 ·simp only [Prod.mk.injEq,ok0,Flt.mk.injEq] at h;exact absurd h.2.1 (by decide)
 split at h
 ·rename_i hn
  simp only [Prod.mk.injEq] at h;exact absurd h.2 hn
 rename_i hr
 have hr:(readA s).2=ok0:=Decidable.not_not.1 hr;split at h
 ·rename_i hn
  simp only [Prod.mk.injEq,ok0,Flt.mk.injEq] at h;exact absurd h.2.1 hn
 ·rename_i hn
  simp only [Prod.mk.injEq,and_true] at h;refine ⟨by rw [←h,←hr],?_⟩;rw [←h];unfold NZ at hn;split at hn
  ·exact absurd (show (175:Int)≠0 by decide) hn
  ·omega
theorem UT {s:Bs}:∀x∈(Ci s).1,x∈(readA s).1:=by
 intro x hx;unfold Ci at hx;split at hx
 ·cases hx
 split at hx
 ·cases hx
 split at hx
 ·cases hx
 ·exact hx
section
variable {ω:Om}{G I:Imm}{L F:LH}{K:Value→M}
end
section
variable {H:Type}{enc:TypeId×Value→H}{P:Program}{w:World}{T:TypeId}{cs:List Value}{d:DataW H}
def Td (enc:TypeId×Value→H)(P:Program)(w:World)(T:TypeId)(cs:List Value)(d:DataW H):Prop:=
 ∃(fuel:Nat) (ps:List MemPlace),DataW.trod enc P w 0 (fun _=>true) true fuel T cs=some (d,ps)
theorem JV {k:IntKind}(hu:P.underlying T=some (.int k))(h:Td enc P w T cs d):∃n,cs=[.int k n]∧(Lit.int k n).wf=true:=by
 obtain ⟨fuel,ps,h⟩:=h;cases fuel with
 |zero=>simp [DataW.trod] at h
 |succ fuel=>
  simp only [DataW.trod,hu] at h;split at h <;> simp_all
theorem Gf (hu:P.underlying T=some .bool)(h:Td enc P w T cs d):∃b,cs=[.bool b]:=by
 obtain ⟨fuel,ps,h⟩:=h;cases fuel with
 |zero=>simp [DataW.trod] at h
 |succ fuel=>
  simp only [DataW.trod,hu] at h;split at h <;> simp_all
theorem AJn (hu:P.underlying T=some .string)(h:Td enc P w T cs d):∃s:ByteArray,cs=[.string s]∧s.size+1≤Rows.uptoBulk d:=by
 obtain ⟨fuel,ps,h⟩:=h;cases fuel with
 |zero=>simp [DataW.trod] at h
 |succ fuel=>
  simp only [DataW.trod,hu] at h;split at h <;> simp_all
  obtain ⟨_,rfl,_⟩:=h;exact Nat.le_refl _
theorem GI (hu:P.underlying T=some .string)(h:Td enc P w T cs d):∃s:List UInt8,cs=[.string ⟨s.toArray⟩]∧s.length+1≤Rows.uptoBulk d:=by
 obtain ⟨s,h1,h2⟩:=AJn hu h;exact ⟨s.data.toList,by rw [h1],h2⟩
theorem TD:∀{l:List (DataW H)} {i:Nat} {x:DataW H},l[i]? =some x→Rows.uptoBulk x≤Rows.uptoBulkAll l
 |[],_,_,h=>by simp at h
 |y::l,0,x,h=>by simp at h;subst h;simp [Rows.uptoBulkAll]
 |y::l,i+1,x,h=>by
  have:=TD (l:=l) (i:=i) (by simpa using h);simp only [Rows.uptoBulkAll];omega
theorem Dy {fs:Array Field}(hu:P.underlying T=some (.struct fs))(h:Td enc P w T cs d):cs.length=P.cellsOf T∧∃ds,d= .agg ds∧ds.length=fs.toList.length∧∀(i:Nat) (f:Field),fs.toList[i]? =some f→∃di,ds[i]? =some di∧Td enc P w f.type ((cs.drop f.offset).take (P.cellsOf f.type)) di:=by
 obtain ⟨fuel,ps,h⟩:=h;cases fuel with
 |zero=>simp [DataW.trod] at h
 |succ fuel=>
  have h':(if cs.length=P.cellsOf T then (fs.toList.mapM fun f=>DataW.trod enc P w 0 (fun _=>true) true fuel f.type ((cs.drop f.offset).take (P.cellsOf f.type))).map fun xs=>(DataW.agg (xs.map (·.1)),xs.flatMap (·.2)) else none)=some (d,ps):=by
   rw [←h];simp only [DataW.trod,hu]
  split at h'
  ·rename_i hlen
   refine ⟨hlen,?_⟩;obtain ⟨xs,hxs,hd⟩:=Option.map_eq_some_iff.1 h';simp only [Prod.mk.injEq] at hd;obtain ⟨rfl,_⟩:=hd;refine ⟨_,rfl,by rw [List.length_map,mapM_len _ _ hxs],fun i f hf=>?_⟩;obtain ⟨y,hy,hyd⟩:=KT _ _ hxs i f hf;exact ⟨y.1,by rw [List.getElem?_map,hy];rfl,fuel,y.2,hyd⟩
  ·cases h'
theorem Wi {e:TypeId}(hu:P.underlying T=some (.slice e))(h:Td enc P w T cs d):
  ∃a len cap,cs=[.slice a len cap]∧len≤cap∧∃ds:List (DataW H),ds.length=len∧Rows.uptoBulkAll ds+1≤Rows.uptoBulk d∧
   ((a=none∧len=0∧cap=0)∨∃ad,a=some ad∧∀i,i < len→∃ec di,w.cells? 0 (ad.add (i * P.cellsOf e)) (P.cellsOf e)=some ec∧ds[i]? =some di∧Td enc P w e ec di):=by
 obtain ⟨fuel,ps,h⟩:=h;cases fuel with
 |zero=>simp [DataW.trod] at h
 |succ fuel=>
  simp only [DataW.trod,hu] at h;split at h <;> try (simp_all;done)
  ·refine ⟨none,0,0,rfl,Nat.le_refl _,[],rfl,?_,.inl ⟨rfl,rfl,rfl⟩⟩;exact bulk.one_le _
  ·rename_i e' ad len cap he
   simp only [Option.some.injEq,TypeDesc.slice.injEq] at he;subst he;split at h
   ·rename_i hc
    simp only [Option.bind_eq_some_iff] at h;obtain ⟨elems,hel,h⟩:=h;simp only [if_true,Option.map_eq_some_iff] at h;obtain ⟨rest,hrest,h⟩:=h;simp only [Prod.mk.injEq] at h;obtain ⟨rfl,_⟩:=h;have hlen:elems.length=len:=by have:=mapM_len _ _ hel;simpa using this
    refine ⟨some ad,len,cap,rfl,hc.2.1,elems.map (·.1),by rw [List.length_map,hlen],?_,.inr ⟨ad,rfl,fun i hi=>?_⟩⟩
    ·simp only [Rows.uptoBulk];omega
    ·obtain ⟨y,hy,hyd⟩:=KT _ _ hel i i (List.getElem?_range hi);simp only [Option.bind_eq_some_iff] at hyd;obtain ⟨ec,h1,h2⟩:=hyd;exact ⟨ec,y.1,h1,by rw [List.getElem?_map,hy];rfl,fuel,y.2,h2⟩
   ·cases h
theorem ANo {e:TypeId}(hu:P.underlying T=some (.slice e))(hn:0 < P.cellsOf e){v:Value}(h:Td enc P w T [v] d):
  ∃cells len ds,SlI (DC w) (P.cellsOf e) v cells len∧ds.length=len∧Rows.uptoBulkAll ds+1≤Rows.uptoBulk d∧∀i,i < len→∃di,ds[i]? =some di∧Td enc P w e ((cells.drop (i * P.cellsOf e)).take (P.cellsOf e)) di:=by
 obtain ⟨a,len,cap,hcs,hle,ds,hds,hb,h2⟩:=Wi hu h;simp only [List.cons.injEq,and_true] at hcs;subst hcs;clear h;have h:=h2;generalize hN:P.cellsOf e=n at *;rcases h with ⟨rfl,rfl,rfl⟩|⟨ad,rfl,h⟩
 ·exact ⟨[],0,ds,SlI.nil _ _ _ _,hds,hb,fun i hi=>by omega⟩
 ·by_cases h0:len=0
  ·subst h0;exact ⟨[],0,ds,SlI.nil _ _ _ _,hds,hb,fun i hi=>by omega⟩
  ·have hcell:∀i,i < len→∀j,j < n→∃u,w.cell? ((ad.add (i * n)).add j)=some u:=by
    intro i hi j hj;obtain ⟨ec,_,hec,_⟩:=h i hi;unfold World.cells? at hec;split at hec
    ·obtain ⟨y,_,hy⟩:=KT _ _ hec j j (List.getElem?_range hj);exact ⟨y,hy⟩
    ·cases hec
   obtain ⟨u0,hu0⟩:=hcell 0 (by omega) 0 hn;obtain ⟨b,off,sp⟩:=ad;have hsp:sp=none∧∃c T' fr,w.heap[b]? =some (.cells c T' fr):=by
    simp only [Addr.add,Nat.zero_mul,if_true] at hu0;unfold World.cell? at hu0;split at hu0
    ·rename_i c T' fr hb
     simp only at hu0 hb
     cases sp with
     |none=>exact ⟨rfl,c,T',fr,hb⟩
     |some s=>simp at hu0
    ·cases hu0
   obtain ⟨rfl,c,T',fr,hblk⟩:=hsp;have hget:∀i,i < len→∀j,j < n→∃u,c[off+i * n+j]? =some u:=by
    intro i hi j hj;obtain ⟨u,hu⟩:=hcell i hi j hj;rw [Dk,Dk] at hu;simp only [World.cell?,hblk] at hu;exact ⟨u,by simpa using hu⟩
   have hlast:=hget (len - 1) (by omega) (n - 1) (by omega);obtain ⟨ul,hul⟩:=hlast;have hsz:off+len * n≤c.size:=by
    have:=(Array.getElem?_eq_some_iff.1 hul).1;have e1:(len - 1) * n+n=len * n:=by rw [←Nat.succ_mul];congr 1;omega
    omega
   have hclen:((c.toList.drop off).take (len * n)).length=len * n:=by
    rw [List.length_take,List.length_drop,Array.length_toList];omega
   refine ⟨(c.toList.drop off).take (len * n),len,ds,⟨hclen,_,cap,rfl,hle,fun _=>⟨b,off,c,T',fr,rfl,hblk,fun j u hu=>?_⟩⟩,hds,hb,fun i hi=>?_⟩
   ·rw [List.getElem?_take] at hu;split at hu
    ·rw [List.getElem?_drop] at hu;simpa using hu
    ·cases hu
   ·obtain ⟨ec,di,hec,hdi,htr⟩:=h i hi;have:((((c.toList.drop off).take (len * n)).drop (i * n)).take n)=ec:=by
     unfold World.cells? at hec;split at hec
     ·apply List.ext_getElem?
      intro j;have hln:=mapM_len _ _ hec;simp only [List.length_range] at hln;have hin:i * n+n≤len * n:=by rw [←Nat.succ_mul];exact Nat.mul_le_mul_right n hi
      by_cases hj:j < n
      ·obtain ⟨y,hy,hcy⟩:=KT _ _ hec j j (List.getElem?_range hj);rw [hy,List.getElem?_take,if_pos hj,List.getElem?_drop,List.getElem?_take,if_pos (by omega),List.getElem?_drop];rw [Dk,Dk] at hcy;simp only [World.cell?,hblk] at hcy;simp only [Array.getElem?_toList];rw [show off+(i * n+j)=off+i * n+j from by omega];simpa using hcy
      ·rw [List.getElem?_take,if_neg hj];rw [List.getElem?_eq_none (by omega)]
     ·cases hec
    rw [this];exact ⟨di,hdi,htr⟩
theorem XO {α:Type}{R:α→List Value→Prop}{μ:α→Nat}{n:Nat}:∀(ds:List (DataW H)) (cells:List Value),cells.length=ds.length * n→(∀i di,ds[i]? =some di→∃x,R x ((cells.drop (i * n)).take n)∧μ x≤Rows.uptoBulk di)→∃xs:List α,xs.length=ds.length∧Recs R n xs cells∧(xs.map μ).sum≤Rows.uptoBulkAll ds
 |[],cells,hl,_=>⟨[],rfl,List.eq_nil_of_length_eq_zero (by simpa using hl),by simp [Rows.uptoBulkAll]⟩
 |d::ds,cells,hl,h=>by
  obtain ⟨x,hx,hm⟩:=h 0 d rfl;simp only [Nat.zero_mul,List.drop_zero] at hx;have hl':cells.length=ds.length * n+n:=by rw [hl,List.length_cons,Nat.add_mul];omega
  obtain ⟨xs,hxl,hR,hs⟩:=XO (R:=R) (μ:=μ) (n:=n) ds (cells.drop n) (by rw [List.length_drop];omega) (fun i di hi=>by
   obtain ⟨y,hy,hm⟩:=h (i+1) di (by simpa using hi);refine ⟨y,?_,hm⟩;rw [List.drop_drop];rwa [show n+i * n=(i+1) * n from by rw [Nat.add_mul];omega])
  exact ⟨x::xs,by simp [hxl],⟨by rw [List.length_take];omega,hx,hR⟩,by simp only [List.map_cons,List.sum_cons,Rows.uptoBulkAll];omega⟩
theorem AJo {α:Type}{R:Imm→α→List Value→Prop}{μ:α→Nat}{e:TypeId}(hu:P.underlying T=some (.slice e))(hn:0 < P.cellsOf e){v:Value}(h:Td enc P w T [v] d)(hR:∀c di,Rows.uptoBulk di < Rows.uptoBulk d→Td enc P w e c di→∃x,R (DC w) x c∧μ x≤Rows.uptoBulk di):
  ∃xs:List α,RL R (P.cellsOf e) (DC w) [] v xs∧(xs.map μ).sum+1≤Rows.uptoBulk d:=by
 obtain ⟨cells,len,ds,hS,hds,hb,hT⟩:=ANo hu hn h;subst hds;obtain ⟨xs,hxl,hRR,hs⟩:=XO (R:=R (DC w)) (μ:=μ) ds cells hS.1 (fun i di hi=>by
  obtain ⟨d2,h1,h2⟩:=hT i (by exact (List.getElem?_eq_some_iff.1 hi).1);rw [hi] at h1;simp only [Option.some.injEq] at h1;subst h1;exact hR _ _ (by have:=TD hi;omega) h2)
 rw [←hxl] at hS;exact ⟨xs,RL.ofI hS hRR,by omega⟩
end
def mB (s:Bs):Nat:=s.length+1
mutual
def mE:Ex→Nat
 | .mk _ v t n _ _ _ l=>v.fText.length+t.length+n.length+mL l+1
def mL:List Ex→Nat
 |[]=>0
 |x::l=>mE x+mL l
end
mutual
def iE:Ex→Prop
 | .mk _ v _ _ _ _ _ l=>okI v.fInt∧iL l
def iL:List Ex→Prop
 |[]=>True
 |x::l=>iE x∧iL l
end
theorem Vp:∀l:List Ex,(l.map mE).sum=mL l
 |[]=>rfl
 |x::l=>by simp only [List.map_cons,List.sum_cons,mL,Vp l]
theorem ACl:∀{l:List Ex},(∀x∈l,iE x)→iL l
 |[],_=>trivial
 |x::l,h=>⟨h x (List.mem_cons_self ..),ACl fun y hy=>h y (List.mem_cons_of_mem _ hy)⟩
theorem AHw {x:Ex}:∀{l:List Ex},iL l→x∈l→iE x
 |y::l,h,hx=>by
  rcases List.mem_cons.1 hx with rfl|hx
  ·exact h.1
  ·exact AHw h.2 hx
theorem XP {α:Type}{R:α→List Value→Prop}{Q:α→Prop}{n:Nat}:∀{xs:List α} {cs:List Value},Recs (fun x c=>R x c∧Q x) n xs cs→Recs R n xs cs∧∀x∈xs,Q x
 |[],cs,h=>⟨h,nofun⟩
 |x::xs,cs,⟨h1,h2,h3⟩=>by
  obtain ⟨g1,g2⟩:=XP h3;exact ⟨⟨h1,h2.1,g1⟩,fun y hy=>by
   rcases List.mem_cons.1 hy with rfl|hy
   ·exact h2.2
   ·exact g2 y hy⟩
theorem AOE {α:Type}{R:Imm→α→List Value→Prop}{Q:α→Prop}{n:Nat}{I:Imm}{v:Value}{xs:List α}(h:RL (fun I x c=>R I x c∧Q x) n I [] v xs):RL R n I [] v xs∧∀x∈xs,Q x:=by
 obtain ⟨a,cap,cells,h1,h2,h3,h4⟩:=h;obtain ⟨g1,g2⟩:=XP h4;exact ⟨⟨a,cap,cells,h1,h2,h3,g1⟩,g2⟩
section
variable {H:Type}{enc:TypeId×Value→H}{W:World}{cs:List Value}{d:DataW H}
theorem BD {P:Program}{w:World}{T:TypeId}{fs:Array Field}(hu:P.underlying T=some (.struct fs)){ds:List (DataW H)}(hf:∀(i:Nat) (f:Field),fs.toList[i]? =some f→∃di,ds[i]? =some di∧Td enc P w f.type ((cs.drop f.offset).take (P.cellsOf f.type)) di)(i:Nat){f:Field}(hi:fs.toList[i]? =some f){di:DataW H}(hdi:ds[i]? =some di){n:Nat}(hn:P.cellsOf f.type=n):Td enc P w f.type ((cs.drop f.offset).take n) di:=by
 obtain ⟨d2,h1,h2⟩:=hf i f hi;rw [hdi] at h1;simp only [Option.some.injEq] at h1;subst h1;subst hn;exact h2
theorem Ha {α:Type}{R:Imm→α→List Value→Prop}{Q:α→Prop}{μ:α→Nat}{T:TypeId}(e:TypeId){n:Nat}(hu:Tryz.prog.underlying T=some (.slice e))(hn:Tryz.prog.cellsOf e=n)(h0:0 < n){v:Value}(h:Td enc Tryz.prog W T [v] d)(hR:∀c di,Rows.uptoBulk di < Rows.uptoBulk d→Td enc Tryz.prog W e c di→∃x,(R (DC W) x c∧Q x)∧μ x≤Rows.uptoBulk di):
  ∃xs:List α,RL R n (DC W) [] v xs∧(∀x∈xs,Q x)∧(xs.map μ).sum+1≤Rows.uptoBulk d:=by
 subst hn;obtain ⟨xs,h1,h2⟩:=AJo (R:=fun I x c=>R I x c∧Q x) hu h0 h hR;obtain ⟨g1,g2⟩:=AOE h1;exact ⟨xs,g1,g2,h2⟩
theorem Ut {T:TypeId}(hu:Tryz.prog.underlying T=some (.slice 9)){v:Value}(h:Td enc Tryz.prog W T [v] d):∃xs:List Bs,RL StrV 1 (DC W) [] v xs∧(xs.map mB).sum+1≤Rows.uptoBulk d:=by
 obtain ⟨xs,h1,_,h2⟩:=Ha (R:=StrV) (Q:=fun _=>True) (μ:=mB) 9 hu (n:=1) (by kernel_rfl) (by decide) h (fun c di _ hc=>by
  obtain ⟨s,g1,g2⟩:=GI (by kernel_rfl) hc;exact ⟨s,⟨g1,trivial⟩,g2⟩)
 exact ⟨xs,h1,h2⟩
theorem ADQ (h:Td enc Tryz.prog W 34 cs d):∃x:TValue,cs=[.int .i64 x.fType,.bool x.fNull,.int .i64 x.fInt,.string ⟨x.fText.toArray⟩]∧okI x.fInt∧x.fText.length+1≤Rows.uptoBulk d:=by
 obtain ⟨hl,ds,rfl,hdl,hf⟩:=Dy Tryz.underlying34 h;rw [show Tryz.prog.cellsOf 34=4 by kernel_rfl] at hl;obtain ⟨c0,c1,c2,c3,rfl⟩:∃c0 c1 c2 c3,cs=[c0,c1,c2,c3]:=by
  match cs,hl with
  |[c0,c1,c2,c3],_=>exact ⟨c0,c1,c2,c3,rfl⟩
 obtain ⟨d0,d1,d2,d3,rfl⟩:∃d0 d1 d2 d3,ds=[d0,d1,d2,d3]:=by
  match ds,(show ds.length=4 from hdl) with
  |[d0,d1,d2,d3],_=>exact ⟨d0,d1,d2,d3,rfl⟩
 clear hl hdl h;obtain ⟨n0,e0,w0⟩:=JV (k:=.i64) (by kernel_rfl) (cs:=[c0]) (BD (di:=d0) Tryz.underlying34 hf 0 rfl rfl (n:=1) (by kernel_rfl));simp only [List.cons.injEq,and_true] at e0;subst e0;obtain ⟨n1,e1⟩:=Gf (by kernel_rfl) (cs:=[c1]) (BD (di:=d1) Tryz.underlying34 hf 1 rfl rfl (n:=1) (by kernel_rfl));simp only [List.cons.injEq,and_true] at e1;subst e1;obtain ⟨n2,e2,w2⟩:=JV (k:=.i64) (by kernel_rfl) (cs:=[c2]) (BD (di:=d2) Tryz.underlying34 hf 2 rfl rfl (n:=1) (by kernel_rfl));simp only [List.cons.injEq,and_true] at e2;subst e2;obtain ⟨n3,e3,w3⟩:=GI (by kernel_rfl) (cs:=[c3]) (BD (di:=d3) Tryz.underlying34 hf 3 rfl rfl (n:=1) (by kernel_rfl));simp only [List.cons.injEq,and_true] at e3;subst e3;refine ⟨⟨n0,n1,n2,n3⟩,rfl,wf_i64 w2,?_⟩;simp only [Rows.uptoBulk,Rows.uptoBulkAll];omega
theorem AIF:∀(k:Nat) (cs:List Value) (d:DataW H),Rows.uptoBulk d≤k→Td enc Tryz.prog W 37 cs d→∃x,ExV (DC W) x cs∧iE x∧mE x≤Rows.uptoBulk d
 |0,cs,d,hk,_=>by have:=bulk.one_le d;omega
 |k+1,cs,d,hk,h=>by
  obtain ⟨hl,ds,rfl,hdl,hf⟩:=Dy Tryz.underlying37 h;rw [show Tryz.prog.cellsOf 37=11 by kernel_rfl] at hl;obtain ⟨c0,c1,c2,c3,c4,c5,c6,c7,c8,c9,c10,rfl⟩:∃c0 c1 c2 c3 c4 c5 c6 c7 c8 c9 c10,cs=[c0,c1,c2,c3,c4,c5,c6,c7,c8,c9,c10]:=by
   match cs,hl with
   |[c0,c1,c2,c3,c4,c5,c6,c7,c8,c9,c10],_=>exact ⟨c0,c1,c2,c3,c4,c5,c6,c7,c8,c9,c10,rfl⟩
  obtain ⟨d0,d1,d2,d3,d4,d5,d6,d7,rfl⟩:∃d0 d1 d2 d3 d4 d5 d6 d7,ds=[d0,d1,d2,d3,d4,d5,d6,d7]:=by
   match ds,(show ds.length=8 from hdl) with
   |[d0,d1,d2,d3,d4,d5,d6,d7],_=>exact ⟨d0,d1,d2,d3,d4,d5,d6,d7,rfl⟩
  clear hl hdl h;obtain ⟨n0,e0,w0⟩:=JV (k:=.i64) (by kernel_rfl) (cs:=[c0]) (BD (di:=d0) Tryz.underlying37 hf 0 rfl rfl (n:=1) (by kernel_rfl));simp only [List.cons.injEq,and_true] at e0;subst e0;obtain ⟨n1,e1,i1,w1⟩:=ADQ (cs:=[c1,c2,c3,c4]) (BD (di:=d1) Tryz.underlying37 hf 1 rfl rfl (n:=4) (by kernel_rfl));simp only [List.cons.injEq,and_true] at e1;obtain ⟨rfl,rfl,rfl,rfl⟩:=e1;obtain ⟨n2,e2,w2⟩:=GI (by kernel_rfl) (cs:=[c5]) (BD (di:=d2) Tryz.underlying37 hf 2 rfl rfl (n:=1) (by kernel_rfl));simp only [List.cons.injEq,and_true] at e2;subst e2;obtain ⟨n3,e3,w3⟩:=GI (by kernel_rfl) (cs:=[c6]) (BD (di:=d3) Tryz.underlying37 hf 3 rfl rfl (n:=1) (by kernel_rfl));simp only [List.cons.injEq,and_true] at e3;subst e3;obtain ⟨n4,e4,w4⟩:=JV (k:=.i64) (by kernel_rfl) (cs:=[c7]) (BD (di:=d4) Tryz.underlying37 hf 4 rfl rfl (n:=1) (by kernel_rfl));simp only [List.cons.injEq,and_true] at e4;subst e4;obtain ⟨n5,e5,w5⟩:=JV (k:=.i64) (by kernel_rfl) (cs:=[c8]) (BD (di:=d5) Tryz.underlying37 hf 5 rfl rfl (n:=1) (by kernel_rfl));simp only [List.cons.injEq,and_true] at e5;subst e5;obtain ⟨n6,e6⟩:=Gf (by kernel_rfl) (cs:=[c9]) (BD (di:=d6) Tryz.underlying37 hf 6 rfl rfl (n:=1) (by kernel_rfl));simp only [List.cons.injEq,and_true] at e6;subst e6;have hb:Rows.uptoBulk d7 < Rows.uptoBulk (.agg [d0,d1,d2,d3,d4,d5,d6,d7]):=by simp only [Rows.uptoBulk,Rows.uptoBulkAll];omega
  obtain ⟨n7,h7,q7,w7⟩:=Ha (R:=ExV) (Q:=iE) (μ:=mE) 37 (by kernel_rfl) (n:=11) (by kernel_rfl) (by decide) (v:=c10) (BD (di:=d7) Tryz.underlying37 hf 7 rfl rfl (n:=1) (by kernel_rfl)) (fun c di hlt hc=>by
   obtain ⟨x,g1,g2,g3⟩:=AIF k c di (by omega) hc;exact ⟨x,⟨g1,g2⟩,g3⟩)
  rw [Vp] at w7;refine ⟨.mk n0 n1 n2 n3 n4 n5 n6 n7,ExV.iff.2 ⟨c10,rfl,h7⟩,⟨i1,ACl q7⟩,?_⟩;simp only [mE,Rows.uptoBulk,Rows.uptoBulkAll];omega
theorem Nh (h:Td enc Tryz.prog W 37 cs d):∃x,ExV (DC W) x cs∧iE x∧mE x≤Rows.uptoBulk d:=AIF _ cs d (Nat.le_refl _) h
theorem AIE {T:TypeId}(hu:Tryz.prog.underlying T=some (.slice 37)){v:Value}(h:Td enc Tryz.prog W T [v] d):∃xs:List Ex,RL ExV 11 (DC W) [] v xs∧(∀x∈xs,iE x)∧mL xs+1≤Rows.uptoBulk d:=by
 obtain ⟨xs,h1,h2,h3⟩:=Ha (R:=ExV) (Q:=iE) (μ:=mE) 37 hu (n:=11) (by kernel_rfl) (by decide) h (fun c di _ hc=>by
  obtain ⟨x,g1,g2,g3⟩:=Nh hc;exact ⟨x,⟨g1,g2⟩,g3⟩)
 rw [Vp] at h3;exact ⟨xs,h1,h2,h3⟩
theorem AOD {c:List Value}(h:Td enc Tryz.prog W 35 c d):∃xs:List Ex,(Fh ExV 11 (DC W) xs c∧∀x∈xs,iE x)∧mL xs+1≤Rows.uptoBulk d:=by
 obtain ⟨a,len,cap,rfl,_⟩:=Wi (e:=37) (by kernel_rfl) h;obtain ⟨xs,h1,h2,h3⟩:=AIE (by kernel_rfl) h;exact ⟨xs,⟨⟨_,rfl,h1⟩,h2⟩,h3⟩
def FX (x:TItem):Nat:=x.fTable.length+mE x.fExpr+x.fAs.length+1
def Vs (x:TItem):Prop:=iE x.fExpr
theorem AJW (h:Td enc Tryz.prog W 119 cs d):∃x,(TItemV (DC W) x cs∧Vs x)∧FX x≤Rows.uptoBulk d:=by
 obtain ⟨hl,ds,rfl,hdl,hf⟩:=Dy Tryz.underlying119 h;rw [show Tryz.prog.cellsOf 119=14 by kernel_rfl] at hl;obtain ⟨c0,c1,c2,c3,c4,c5,c6,c7,c8,c9,c10,c11,c12,c13,rfl⟩:∃c0 c1 c2 c3 c4 c5 c6 c7 c8 c9 c10 c11 c12 c13,cs=[c0,c1,c2,c3,c4,c5,c6,c7,c8,c9,c10,c11,c12,c13]:=by
  match cs,hl with
  |[c0,c1,c2,c3,c4,c5,c6,c7,c8,c9,c10,c11,c12,c13],_=>exact ⟨c0,c1,c2,c3,c4,c5,c6,c7,c8,c9,c10,c11,c12,c13,rfl⟩
 obtain ⟨d0,d1,d2,d3,rfl⟩:∃d0 d1 d2 d3,ds=[d0,d1,d2,d3]:=by
  match ds,(show ds.length=4 from hdl) with
  |[d0,d1,d2,d3],_=>exact ⟨d0,d1,d2,d3,rfl⟩
 clear hl hdl h;obtain ⟨n0,e0⟩:=Gf (by kernel_rfl) (cs:=[c0]) (BD (di:=d0) Tryz.underlying119 hf 0 rfl rfl (n:=1) (by kernel_rfl));simp only [List.cons.injEq,and_true] at e0;subst e0;obtain ⟨n1,e1,w1⟩:=GI (by kernel_rfl) (cs:=[c1]) (BD (di:=d1) Tryz.underlying119 hf 1 rfl rfl (n:=1) (by kernel_rfl));simp only [List.cons.injEq,and_true] at e1;subst e1;obtain ⟨n2,g2,q2,w2⟩:=Nh (cs:=[c2,c3,c4,c5,c6,c7,c8,c9,c10,c11,c12]) (BD (di:=d2) Tryz.underlying119 hf 2 rfl rfl (n:=11) (by kernel_rfl));obtain ⟨u2,e2,h2⟩:=ExV.iff.1 g2;simp only [Aj,str,List.cons.injEq,and_true] at e2;obtain ⟨rfl,rfl,rfl,rfl,rfl,rfl,rfl,rfl,rfl,rfl,rfl⟩:=e2;obtain ⟨n3,e3,w3⟩:=GI (by kernel_rfl) (cs:=[c13]) (BD (di:=d3) Tryz.underlying119 hf 3 rfl rfl (n:=1) (by kernel_rfl));simp only [List.cons.injEq,and_true] at e3;subst e3;refine ⟨⟨n0,n1,n2,n3⟩,⟨⟨_,rfl,h2⟩,q2⟩,?_⟩;simp only [FX,Rows.uptoBulk,Rows.uptoBulkAll];omega
def DL (x:TSource):Nat:=x.fTable.length+x.fAs.length+mE x.fOn+1
def KX (x:TSource):Prop:=iE x.fOn
theorem AAg (h:Td enc Tryz.prog W 123 cs d):∃x,(TSourceV (DC W) x cs∧KX x)∧DL x≤Rows.uptoBulk d:=by
 obtain ⟨hl,ds,rfl,hdl,hf⟩:=Dy Tryz.underlying123 h;rw [show Tryz.prog.cellsOf 123=14 by kernel_rfl] at hl;obtain ⟨c0,c1,c2,c3,c4,c5,c6,c7,c8,c9,c10,c11,c12,c13,rfl⟩:∃c0 c1 c2 c3 c4 c5 c6 c7 c8 c9 c10 c11 c12 c13,cs=[c0,c1,c2,c3,c4,c5,c6,c7,c8,c9,c10,c11,c12,c13]:=by
  match cs,hl with
  |[c0,c1,c2,c3,c4,c5,c6,c7,c8,c9,c10,c11,c12,c13],_=>exact ⟨c0,c1,c2,c3,c4,c5,c6,c7,c8,c9,c10,c11,c12,c13,rfl⟩
 obtain ⟨d0,d1,d2,d3,rfl⟩:∃d0 d1 d2 d3,ds=[d0,d1,d2,d3]:=by
  match ds,(show ds.length=4 from hdl) with
  |[d0,d1,d2,d3],_=>exact ⟨d0,d1,d2,d3,rfl⟩
 clear hl hdl h;obtain ⟨n0,e0,w0⟩:=GI (by kernel_rfl) (cs:=[c0]) (BD (di:=d0) Tryz.underlying123 hf 0 rfl rfl (n:=1) (by kernel_rfl));simp only [List.cons.injEq,and_true] at e0;subst e0;obtain ⟨n1,e1,w1⟩:=GI (by kernel_rfl) (cs:=[c1]) (BD (di:=d1) Tryz.underlying123 hf 1 rfl rfl (n:=1) (by kernel_rfl));simp only [List.cons.injEq,and_true] at e1;subst e1;obtain ⟨n2,e2⟩:=Gf (by kernel_rfl) (cs:=[c2]) (BD (di:=d2) Tryz.underlying123 hf 2 rfl rfl (n:=1) (by kernel_rfl));simp only [List.cons.injEq,and_true] at e2;subst e2;obtain ⟨n3,g3,q3,w3⟩:=Nh (cs:=[c3,c4,c5,c6,c7,c8,c9,c10,c11,c12,c13]) (BD (di:=d3) Tryz.underlying123 hf 3 rfl rfl (n:=11) (by kernel_rfl));obtain ⟨u3,e3,h3⟩:=ExV.iff.1 g3;simp only [Aj,str,List.cons.injEq,and_true] at e3;obtain ⟨rfl,rfl,rfl,rfl,rfl,rfl,rfl,rfl,rfl,rfl,rfl⟩:=e3;refine ⟨⟨n0,n1,n2,n3⟩,⟨⟨_,rfl,h3⟩,q3⟩,?_⟩;simp only [DL,Rows.uptoBulk,Rows.uptoBulkAll];omega
def Du (x:TOrder):Nat:=mE x.fExpr+1
def QP (x:TOrder):Prop:=iE x.fExpr
theorem AEl (h:Td enc Tryz.prog W 127 cs d):∃x,(TOrderV (DC W) x cs∧QP x)∧Du x≤Rows.uptoBulk d:=by
 obtain ⟨hl,ds,rfl,hdl,hf⟩:=Dy Tryz.underlying127 h;rw [show Tryz.prog.cellsOf 127=12 by kernel_rfl] at hl;obtain ⟨c0,c1,c2,c3,c4,c5,c6,c7,c8,c9,c10,c11,rfl⟩:∃c0 c1 c2 c3 c4 c5 c6 c7 c8 c9 c10 c11,cs=[c0,c1,c2,c3,c4,c5,c6,c7,c8,c9,c10,c11]:=by
  match cs,hl with
  |[c0,c1,c2,c3,c4,c5,c6,c7,c8,c9,c10,c11],_=>exact ⟨c0,c1,c2,c3,c4,c5,c6,c7,c8,c9,c10,c11,rfl⟩
 obtain ⟨d0,d1,rfl⟩:∃d0 d1,ds=[d0,d1]:=by
  match ds,(show ds.length=2 from hdl) with
  |[d0,d1],_=>exact ⟨d0,d1,rfl⟩
 clear hl hdl h;obtain ⟨n0,g0,q0,w0⟩:=Nh (cs:=[c0,c1,c2,c3,c4,c5,c6,c7,c8,c9,c10]) (BD (di:=d0) Tryz.underlying127 hf 0 rfl rfl (n:=11) (by kernel_rfl));obtain ⟨u0,e0,h0⟩:=ExV.iff.1 g0;simp only [Aj,str,List.cons.injEq,and_true] at e0;obtain ⟨rfl,rfl,rfl,rfl,rfl,rfl,rfl,rfl,rfl,rfl,rfl⟩:=e0;obtain ⟨n1,e1⟩:=Gf (by kernel_rfl) (cs:=[c11]) (BD (di:=d1) Tryz.underlying127 hf 1 rfl rfl (n:=1) (by kernel_rfl));simp only [List.cons.injEq,and_true] at e1;subst e1;refine ⟨⟨n0,n1⟩,⟨⟨_,rfl,h0⟩,q0⟩,?_⟩;simp only [Du,Rows.uptoBulk,Rows.uptoBulkAll];omega
def JH (x:TSet):Nat:=x.fColumn.length+mE x.fExpr+1
def AHv (x:TSet):Prop:=iE x.fExpr
theorem ALU (h:Td enc Tryz.prog W 99 cs d):∃x,(TSetV (DC W) x cs∧AHv x)∧JH x≤Rows.uptoBulk d:=by
 obtain ⟨hl,ds,rfl,hdl,hf⟩:=Dy Tryz.underlying99 h;rw [show Tryz.prog.cellsOf 99=12 by kernel_rfl] at hl;obtain ⟨c0,c1,c2,c3,c4,c5,c6,c7,c8,c9,c10,c11,rfl⟩:∃c0 c1 c2 c3 c4 c5 c6 c7 c8 c9 c10 c11,cs=[c0,c1,c2,c3,c4,c5,c6,c7,c8,c9,c10,c11]:=by
  match cs,hl with
  |[c0,c1,c2,c3,c4,c5,c6,c7,c8,c9,c10,c11],_=>exact ⟨c0,c1,c2,c3,c4,c5,c6,c7,c8,c9,c10,c11,rfl⟩
 obtain ⟨d0,d1,rfl⟩:∃d0 d1,ds=[d0,d1]:=by
  match ds,(show ds.length=2 from hdl) with
  |[d0,d1],_=>exact ⟨d0,d1,rfl⟩
 clear hl hdl h;obtain ⟨n0,e0,w0⟩:=GI (by kernel_rfl) (cs:=[c0]) (BD (di:=d0) Tryz.underlying99 hf 0 rfl rfl (n:=1) (by kernel_rfl));simp only [List.cons.injEq,and_true] at e0;subst e0;obtain ⟨n1,g1,q1,w1⟩:=Nh (cs:=[c1,c2,c3,c4,c5,c6,c7,c8,c9,c10,c11]) (BD (di:=d1) Tryz.underlying99 hf 1 rfl rfl (n:=11) (by kernel_rfl));obtain ⟨u1,e1,h1⟩:=ExV.iff.1 g1;simp only [Aj,str,List.cons.injEq,and_true] at e1;obtain ⟨rfl,rfl,rfl,rfl,rfl,rfl,rfl,rfl,rfl,rfl,rfl⟩:=e1;refine ⟨⟨n0,n1⟩,⟨⟨_,rfl,h1⟩,q1⟩,?_⟩;simp only [JH,Rows.uptoBulk,Rows.uptoBulkAll];omega
def Gp (x:TCol):Nat:=x.fName.length+mE x.fDefault+1
def Xq (x:TCol):Prop:=iE x.fDefault
theorem ALW (h:Td enc Tryz.prog W 101 cs d):∃x,(TColV (DC W) x cs∧Xq x)∧Gp x≤Rows.uptoBulk d:=by
 obtain ⟨hl,ds,rfl,hdl,hf⟩:=Dy Tryz.underlying101 h;rw [show Tryz.prog.cellsOf 101=16 by kernel_rfl] at hl;obtain ⟨c0,c1,c2,c3,c4,c5,c6,c7,c8,c9,c10,c11,c12,c13,c14,c15,rfl⟩:∃c0 c1 c2 c3 c4 c5 c6 c7 c8 c9 c10 c11 c12 c13 c14 c15,cs=[c0,c1,c2,c3,c4,c5,c6,c7,c8,c9,c10,c11,c12,c13,c14,c15]:=by
  match cs,hl with
  |[c0,c1,c2,c3,c4,c5,c6,c7,c8,c9,c10,c11,c12,c13,c14,c15],_=>exact ⟨c0,c1,c2,c3,c4,c5,c6,c7,c8,c9,c10,c11,c12,c13,c14,c15,rfl⟩
 obtain ⟨d0,d1,d2,d3,d4,d5,rfl⟩:∃d0 d1 d2 d3 d4 d5,ds=[d0,d1,d2,d3,d4,d5]:=by
  match ds,(show ds.length=6 from hdl) with
  |[d0,d1,d2,d3,d4,d5],_=>exact ⟨d0,d1,d2,d3,d4,d5,rfl⟩
 clear hl hdl h;obtain ⟨n0,e0,w0⟩:=GI (by kernel_rfl) (cs:=[c0]) (BD (di:=d0) Tryz.underlying101 hf 0 rfl rfl (n:=1) (by kernel_rfl));simp only [List.cons.injEq,and_true] at e0;subst e0;obtain ⟨n1,e1,w1⟩:=JV (k:=.i64) (by kernel_rfl) (cs:=[c1]) (BD (di:=d1) Tryz.underlying101 hf 1 rfl rfl (n:=1) (by kernel_rfl));simp only [List.cons.injEq,and_true] at e1;subst e1;obtain ⟨n2,e2⟩:=Gf (by kernel_rfl) (cs:=[c2]) (BD (di:=d2) Tryz.underlying101 hf 2 rfl rfl (n:=1) (by kernel_rfl));simp only [List.cons.injEq,and_true] at e2;subst e2;obtain ⟨n3,e3⟩:=Gf (by kernel_rfl) (cs:=[c3]) (BD (di:=d3) Tryz.underlying101 hf 3 rfl rfl (n:=1) (by kernel_rfl));simp only [List.cons.injEq,and_true] at e3;subst e3;obtain ⟨n4,e4⟩:=Gf (by kernel_rfl) (cs:=[c4]) (BD (di:=d4) Tryz.underlying101 hf 4 rfl rfl (n:=1) (by kernel_rfl));simp only [List.cons.injEq,and_true] at e4;subst e4;obtain ⟨n5,g5,q5,w5⟩:=Nh (cs:=[c5,c6,c7,c8,c9,c10,c11,c12,c13,c14,c15]) (BD (di:=d5) Tryz.underlying101 hf 5 rfl rfl (n:=11) (by kernel_rfl));obtain ⟨u5,e5,h5⟩:=ExV.iff.1 g5;simp only [Aj,str,List.cons.injEq,and_true] at e5;obtain ⟨rfl,rfl,rfl,rfl,rfl,rfl,rfl,rfl,rfl,rfl,rfl⟩:=e5;refine ⟨⟨n0,n1,n2,n3,n4,n5⟩,⟨⟨_,rfl,h5⟩,q5⟩,?_⟩;simp only [Gp,Rows.uptoBulk,Rows.uptoBulkAll];omega
def Rq (x:TIdx):Nat:=x.fName.length+x.fTable.length+(x.fColumns.map mB).sum+1
def ANJ (x:TIdx):Prop:=True
theorem ALV (h:Td enc Tryz.prog W 46 cs d):∃x,(ATe (DC W) x cs∧ANJ x)∧Rq x≤Rows.uptoBulk d:=by
 obtain ⟨hl,ds,rfl,hdl,hf⟩:=Dy Tryz.underlying46 h;rw [show Tryz.prog.cellsOf 46=4 by kernel_rfl] at hl;obtain ⟨c0,c1,c2,c3,rfl⟩:∃c0 c1 c2 c3,cs=[c0,c1,c2,c3]:=by
  match cs,hl with
  |[c0,c1,c2,c3],_=>exact ⟨c0,c1,c2,c3,rfl⟩
 obtain ⟨d0,d1,d2,d3,rfl⟩:∃d0 d1 d2 d3,ds=[d0,d1,d2,d3]:=by
  match ds,(show ds.length=4 from hdl) with
  |[d0,d1,d2,d3],_=>exact ⟨d0,d1,d2,d3,rfl⟩
 clear hl hdl h;obtain ⟨n0,e0,w0⟩:=GI (by kernel_rfl) (cs:=[c0]) (BD (di:=d0) Tryz.underlying46 hf 0 rfl rfl (n:=1) (by kernel_rfl));simp only [List.cons.injEq,and_true] at e0;subst e0;obtain ⟨n1,e1,w1⟩:=GI (by kernel_rfl) (cs:=[c1]) (BD (di:=d1) Tryz.underlying46 hf 1 rfl rfl (n:=1) (by kernel_rfl));simp only [List.cons.injEq,and_true] at e1;subst e1;obtain ⟨n2,h2,w2⟩:=Ut (by kernel_rfl) (v:=c2) (BD (di:=d2) Tryz.underlying46 hf 2 rfl rfl (n:=1) (by kernel_rfl));obtain ⟨n3,e3⟩:=Gf (by kernel_rfl) (cs:=[c3]) (BD (di:=d3) Tryz.underlying46 hf 3 rfl rfl (n:=1) (by kernel_rfl));simp only [List.cons.injEq,and_true] at e3;subst e3;refine ⟨⟨n0,n1,n2,n3⟩,⟨⟨_,rfl,h2⟩,trivial⟩,?_⟩;simp only [Rq,Rows.uptoBulk,Rows.uptoBulkAll];omega
def FW (x:TSelect):Nat:=(x.fItems.map FX).sum+(x.fFrom.map DL).sum+mE x.fWhere+mL x.fGroup+mE x.fHaving+(x.fOrder.map Du).sum+1
def Rx (x:TSelect):Prop:=(∀y∈x.fItems,Vs y)∧(∀y∈x.fFrom,KX y)∧iE x.fWhere∧(∀y∈x.fGroup,iE y)∧iE x.fHaving∧(∀y∈x.fOrder,QP y)∧okI x.fLimit∧okI x.fOffset
theorem AAh (h:Td enc Tryz.prog W 40 cs d):∃x,(Bd (DC W) x cs∧Rx x)∧FW x≤Rows.uptoBulk d:=by
 obtain ⟨hl,ds,rfl,hdl,hf⟩:=Dy Tryz.underlying40 h;rw [show Tryz.prog.cellsOf 40=29 by kernel_rfl] at hl;obtain ⟨c0,c1,c2,c3,c4,c5,c6,c7,c8,c9,c10,c11,c12,c13,c14,c15,c16,c17,c18,c19,c20,c21,c22,c23,c24,c25,c26,c27,c28,rfl⟩:∃c0 c1 c2 c3 c4 c5 c6 c7 c8 c9 c10 c11 c12 c13 c14 c15 c16 c17 c18 c19 c20 c21 c22 c23 c24 c25 c26 c27 c28,cs=[c0,c1,c2,c3,c4,c5,c6,c7,c8,c9,c10,c11,c12,c13,c14,c15,c16,c17,c18,c19,c20,c21,c22,c23,c24,c25,c26,c27,c28]:=by
  match cs,hl with
  |[c0,c1,c2,c3,c4,c5,c6,c7,c8,c9,c10,c11,c12,c13,c14,c15,c16,c17,c18,c19,c20,c21,c22,c23,c24,c25,c26,c27,c28],_=>exact ⟨c0,c1,c2,c3,c4,c5,c6,c7,c8,c9,c10,c11,c12,c13,c14,c15,c16,c17,c18,c19,c20,c21,c22,c23,c24,c25,c26,c27,c28,rfl⟩
 obtain ⟨d0,d1,d2,d3,d4,d5,d6,d7,d8,rfl⟩:∃d0 d1 d2 d3 d4 d5 d6 d7 d8,ds=[d0,d1,d2,d3,d4,d5,d6,d7,d8]:=by
  match ds,(show ds.length=9 from hdl) with
  |[d0,d1,d2,d3,d4,d5,d6,d7,d8],_=>exact ⟨d0,d1,d2,d3,d4,d5,d6,d7,d8,rfl⟩
 clear hl hdl h;obtain ⟨n0,e0⟩:=Gf (by kernel_rfl) (cs:=[c0]) (BD (di:=d0) Tryz.underlying40 hf 0 rfl rfl (n:=1) (by kernel_rfl));simp only [List.cons.injEq,and_true] at e0;subst e0;obtain ⟨n1,h1,q1,w1⟩:=Ha (R:=TItemV) (Q:=Vs) (μ:=FX) 119 (by kernel_rfl) (n:=14) (by kernel_rfl) (by decide) (v:=c1) (BD (di:=d1) Tryz.underlying40 hf 1 rfl rfl (n:=1) (by kernel_rfl)) (fun c di _ hc=>AJW hc);obtain ⟨n2,h2,q2,w2⟩:=Ha (R:=TSourceV) (Q:=KX) (μ:=DL) 123 (by kernel_rfl) (n:=14) (by kernel_rfl) (by decide) (v:=c2) (BD (di:=d2) Tryz.underlying40 hf 2 rfl rfl (n:=1) (by kernel_rfl)) (fun c di _ hc=>AAg hc);obtain ⟨n3,g3,q3,w3⟩:=Nh (cs:=[c3,c4,c5,c6,c7,c8,c9,c10,c11,c12,c13]) (BD (di:=d3) Tryz.underlying40 hf 3 rfl rfl (n:=11) (by kernel_rfl));obtain ⟨u3,e3,h3⟩:=ExV.iff.1 g3;simp only [Aj,str,List.cons.injEq,and_true] at e3;obtain ⟨rfl,rfl,rfl,rfl,rfl,rfl,rfl,rfl,rfl,rfl,rfl⟩:=e3;obtain ⟨n4,h4,q4,w4⟩:=AIE (by kernel_rfl) (v:=c14) (BD (di:=d4) Tryz.underlying40 hf 4 rfl rfl (n:=1) (by kernel_rfl));obtain ⟨n5,g5,q5,w5⟩:=Nh (cs:=[c15,c16,c17,c18,c19,c20,c21,c22,c23,c24,c25]) (BD (di:=d5) Tryz.underlying40 hf 5 rfl rfl (n:=11) (by kernel_rfl));obtain ⟨u5,e5,h5⟩:=ExV.iff.1 g5;simp only [Aj,str,List.cons.injEq,and_true] at e5;obtain ⟨rfl,rfl,rfl,rfl,rfl,rfl,rfl,rfl,rfl,rfl,rfl⟩:=e5;obtain ⟨n6,h6,q6,w6⟩:=Ha (R:=TOrderV) (Q:=QP) (μ:=Du) 127 (by kernel_rfl) (n:=12) (by kernel_rfl) (by decide) (v:=c26) (BD (di:=d6) Tryz.underlying40 hf 6 rfl rfl (n:=1) (by kernel_rfl)) (fun c di _ hc=>AEl hc)
 obtain ⟨n7,e7,w7⟩:=JV (k:=.i64) (by kernel_rfl) (cs:=[c27]) (BD (di:=d7) Tryz.underlying40 hf 7 rfl rfl (n:=1) (by kernel_rfl));simp only [List.cons.injEq,and_true] at e7;subst e7;obtain ⟨n8,e8,w8⟩:=JV (k:=.i64) (by kernel_rfl) (cs:=[c28]) (BD (di:=d8) Tryz.underlying40 hf 8 rfl rfl (n:=1) (by kernel_rfl));simp only [List.cons.injEq,and_true] at e8;subst e8;refine ⟨⟨n0,n1,n2,n3,n4,n5,n6,n7,n8⟩,⟨⟨_,_,_,_,_,_,rfl,h1,h2,h3,h4,h5,h6⟩,⟨q1,q2,q3,q4,q5,q6,wf_i64 w7,wf_i64 w8⟩⟩,?_⟩;simp only [FW,Rows.uptoBulk,Rows.uptoBulkAll];omega
def Gu (x:TStmt):Nat:=FW x.fSelect+x.fTable.length+(x.fColumns.map mB).sum+(x.fRows.map fun l=>mL l+1).sum+(x.fSets.map JH).sum+mE x.fWhere+(x.fCols.map Gp).sum+(x.fKey.map mB).sum+Rq x.fIndex+1
def Rw (x:TStmt):Prop:=Rx x.fSelect∧(∀l∈x.fRows,∀y∈l,iE y)∧(∀y∈x.fSets,AHv y)∧iE x.fWhere∧(∀y∈x.fCols,Xq y)∧ANJ x.fIndex
theorem AJV (h:Td enc Tryz.prog W 48 cs d):∃x,(TStmtV (DC W) x cs∧Rw x)∧Gu x≤Rows.uptoBulk d:=by
 obtain ⟨hl,ds,rfl,hdl,hf⟩:=Dy Tryz.underlying48 h;rw [show Tryz.prog.cellsOf 48=51 by kernel_rfl] at hl;obtain ⟨c0,c1,c2,c3,c4,c5,c6,c7,c8,c9,c10,c11,c12,c13,c14,c15,c16,c17,c18,c19,c20,c21,c22,c23,c24,r,rfl⟩:∃c0 c1 c2 c3 c4 c5 c6 c7 c8 c9 c10 c11 c12 c13 c14 c15 c16 c17 c18 c19 c20 c21 c22 c23 c24 r,cs=c0::c1::c2::c3::c4::c5::c6::c7::c8::c9::c10::c11::c12::c13::c14::c15::c16::c17::c18::c19::c20::c21::c22::c23::c24::r:=by
  match cs,hl with
  |c0::c1::c2::c3::c4::c5::c6::c7::c8::c9::c10::c11::c12::c13::c14::c15::c16::c17::c18::c19::c20::c21::c22::c23::c24::r,_=>exact ⟨c0,c1,c2,c3,c4,c5,c6,c7,c8,c9,c10,c11,c12,c13,c14,c15,c16,c17,c18,c19,c20,c21,c22,c23,c24,r,rfl⟩
 have hr:r.length=26:=by simpa using hl
 obtain ⟨c25,c26,c27,c28,c29,c30,c31,c32,c33,c34,c35,c36,c37,c38,c39,c40,c41,c42,c43,c44,c45,c46,c47,c48,c49,c50,rfl⟩:∃c25 c26 c27 c28 c29 c30 c31 c32 c33 c34 c35 c36 c37 c38 c39 c40 c41 c42 c43 c44 c45 c46 c47 c48 c49 c50,r=[c25,c26,c27,c28,c29,c30,c31,c32,c33,c34,c35,c36,c37,c38,c39,c40,c41,c42,c43,c44,c45,c46,c47,c48,c49,c50]:=by
  match r,hr with
  |[c25,c26,c27,c28,c29,c30,c31,c32,c33,c34,c35,c36,c37,c38,c39,c40,c41,c42,c43,c44,c45,c46,c47,c48,c49,c50],_=>exact ⟨c25,c26,c27,c28,c29,c30,c31,c32,c33,c34,c35,c36,c37,c38,c39,c40,c41,c42,c43,c44,c45,c46,c47,c48,c49,c50,rfl⟩
 obtain ⟨d0,d1,d2,d3,d4,d5,d6,d7,d8,d9,rfl⟩:∃d0 d1 d2 d3 d4 d5 d6 d7 d8 d9,ds=[d0,d1,d2,d3,d4,d5,d6,d7,d8,d9]:=by
  match ds,(show ds.length=10 from hdl) with
  |[d0,d1,d2,d3,d4,d5,d6,d7,d8,d9],_=>exact ⟨d0,d1,d2,d3,d4,d5,d6,d7,d8,d9,rfl⟩
 clear hl hdl h;obtain ⟨n0,e0,w0⟩:=JV (k:=.i64) (by kernel_rfl) (cs:=[c0]) (BD (di:=d0) Tryz.underlying48 hf 0 rfl rfl (n:=1) (by kernel_rfl));simp only [List.cons.injEq,and_true] at e0;subst e0;obtain ⟨n1,⟨⟨u1_0,u1_1,u1_2,u1_3,u1_4,u1_5,e1,h1_0,h1_1,h1_2,h1_3,h1_4,h1_5⟩,q1⟩,w1⟩:=AAh (cs:=[c1,c2,c3,c4,c5,c6,c7,c8,c9,c10,c11,c12,c13,c14,c15,c16,c17,c18,c19,c20,c21,c22,c23,c24,c25,c26,c27,c28,c29]) (BD (di:=d1) Tryz.underlying48 hf 1 rfl rfl (n:=29) (by kernel_rfl));simp only [List.cons.injEq,and_true] at e1;obtain ⟨rfl,rfl,rfl,rfl,rfl,rfl,rfl,rfl,rfl,rfl,rfl,rfl,rfl,rfl,rfl,rfl,rfl,rfl,rfl,rfl,rfl,rfl,rfl,rfl,rfl,rfl,rfl,rfl,rfl⟩:=e1;obtain ⟨n2,e2,w2⟩:=GI (by kernel_rfl) (cs:=[c30]) (BD (di:=d2) Tryz.underlying48 hf 2 rfl rfl (n:=1) (by kernel_rfl));simp only [List.cons.injEq,and_true] at e2;subst e2;obtain ⟨n3,h3,w3⟩:=Ut (by kernel_rfl) (v:=c31) (BD (di:=d3) Tryz.underlying48 hf 3 rfl rfl (n:=1) (by kernel_rfl));obtain ⟨n4,h4,q4,w4⟩:=Ha (R:=Fh ExV 11) (Q:=fun l=>∀x∈l,iE x) (μ:=fun l=>mL l+1) 35 (by kernel_rfl) (n:=1) (by kernel_rfl) (by decide) (v:=c32) (BD (di:=d4) Tryz.underlying48 hf 4 rfl rfl (n:=1) (by kernel_rfl)) (fun c di _ hc=>AOD hc);obtain ⟨n5,h5,q5,w5⟩:=Ha (R:=TSetV) (Q:=AHv) (μ:=JH) 99 (by kernel_rfl) (n:=12) (by kernel_rfl) (by decide) (v:=c33) (BD (di:=d5) Tryz.underlying48 hf 5 rfl rfl (n:=1) (by kernel_rfl)) (fun c di _ hc=>ALU hc);obtain ⟨n6,g6,q6,w6⟩:=Nh (cs:=[c34,c35,c36,c37,c38,c39,c40,c41,c42,c43,c44]) (BD (di:=d6) Tryz.underlying48 hf 6 rfl rfl (n:=11) (by kernel_rfl))
 obtain ⟨u6,e6,h6⟩:=ExV.iff.1 g6;simp only [Aj,str,List.cons.injEq,and_true] at e6;obtain ⟨rfl,rfl,rfl,rfl,rfl,rfl,rfl,rfl,rfl,rfl,rfl⟩:=e6;obtain ⟨n7,h7,q7,w7⟩:=Ha (R:=TColV) (Q:=Xq) (μ:=Gp) 101 (by kernel_rfl) (n:=16) (by kernel_rfl) (by decide) (v:=c45) (BD (di:=d7) Tryz.underlying48 hf 7 rfl rfl (n:=1) (by kernel_rfl)) (fun c di _ hc=>ALW hc);obtain ⟨n8,h8,w8⟩:=Ut (by kernel_rfl) (v:=c46) (BD (di:=d8) Tryz.underlying48 hf 8 rfl rfl (n:=1) (by kernel_rfl));obtain ⟨n9,⟨⟨u9_0,e9,h9_0⟩,q9⟩,w9⟩:=ALV (cs:=[c47,c48,c49,c50]) (BD (di:=d9) Tryz.underlying48 hf 9 rfl rfl (n:=4) (by kernel_rfl));simp only [List.cons.injEq,and_true] at e9;obtain ⟨rfl,rfl,rfl,rfl⟩:=e9;refine ⟨⟨n0,n1,n2,n3,n4,n5,n6,n7,n8,n9⟩,⟨⟨_,_,_,_,_,_,_,_,_,_,_,_,_,rfl,h1_0,h1_1,h1_2,h1_3,h1_4,h1_5,h3,h4,h5,h6,h7,h8,h9_0⟩,⟨q1,q4,q5,q6,q7,q9⟩⟩,?_⟩;simp only [Gu,Rows.uptoBulk,Rows.uptoBulkAll];omega
end
theorem SX:∀(k f n:Nat) (acc:Bs),1≤k→n < 10 ^ k→(OY f n acc).length≤acc.length+k
 |0,_,_,_,h,_=>by omega
 |k+1,0,n,acc,_,_=>by simp only [OY];omega
 |k+1,f+1,n,acc,_,hn=>by
  simp only [OY];split
  ·simp
  ·rename_i h10
   cases k with
   |zero=>simp at hn;omega
   |succ k=>
    have hd:n / 10 < 10 ^ (k+1):=by
     rw [Nat.pow_succ] at hn;omega
    have:=SX (k+1) f (n / 10) (UInt8.ofNat (48+n % 10)::acc) (by omega) hd;simp only [List.length_cons] at this;omega
theorem Si {n:Int}(h:okI n):(Jz true n).length≤20:=by
 unfold okI at h;unfold Jz;split
 ·simp only [if_true,List.length_cons];have:=SX 19 (n.natAbs+1) n.natAbs [] (by omega) (by omega);simp only [List.length_nil] at this;omega
 ·have:=SX 19 (n.toNat+1) n.toNat [] (by omega) (by omega);simp only [List.length_nil] at this;omega
theorem UK (q:UInt8)(s:Bs):(GK q s).length≤2 * s.length+2:=by
 have:∀s:Bs,(s.flatMap fun c=>if c==q then [q,q] else [c]).length≤2 * s.length:=by
  intro s;induction s with
  |nil=>simp
  |cons c s ih=>
   simp only [List.flatMap_cons,List.length_append,List.length_cons];split <;> simp only [List.length_cons,List.length_nil] <;> omega
 have:=this s;simp only [GK,List.length_append,List.length_cons,List.length_nil];omega
theorem DZ (s:Bs):(nameB s).length≤2 * s.length+2:=by
 unfold nameB;split
 ·omega
 ·exact UK 34 s
theorem AJg {v:TValue}(h:okI v.fInt):(Nw true v).length≤2 * v.fText.length+20:=by
 unfold Nw;split
 ·simp
 split
 ·have:=UK 39 v.fText;omega
 split
 ·split <;> simp
 ·have:=Si h;omega
theorem IQ:∀l:List Bs,(Ac l).length≤(l.map fun x=>x.length+2).sum
 |[]=>by simp [Ac]
 |[x]=>by simp [Ac]
 |x::y::l=>by
  have:=IQ (y::l);simp only [Ac,List.length_append,List.map_cons,List.sum_cons] at this ⊢;simp only [List.length_cons,List.length_nil];omega
theorem JM {α:Type}{f:α→Bs}{μ:α→Nat}:∀(l:List α),(∀x∈l,(f x).length+2≤40 * μ x)→(Ac (l.map f)).length≤40 * (l.map μ).sum:=by
 intro l h;refine Nat.le_trans (IQ _) ?_;induction l with
 |nil=>simp
 |cons x l ih=>
  have h1:=h x (List.mem_cons_self ..);have h2:=ih fun y hy=>h y (List.mem_cons_of_mem _ hy);simp only [List.map_cons,List.sum_cons] at h2 ⊢;omega
theorem LK:∀(l:List Ex) (F:Nat→Bs),(∀i x,l[i]? =some x→(F i).length+2≤40 * mE x)→(((List.range l.length).map F).map fun x=>x.length+2).sum≤40 * mL l
 |[],F,_=>by simp [mL]
 |x::l,F,h=>by
  have h0:=h 0 x rfl;have ih:=LK l (fun i=>F (i+1)) (fun i y hy=>h (i+1) y (by simpa using hy));rw [List.length_cons,List.range_succ_eq_map];simp only [List.map_cons,List.sum_cons,List.map_map,mL] at ih ⊢;have e:((fun x:Bs=>x.length+2) ∘ F ∘ Nat.succ)=((fun x:Bs=>x.length+2) ∘ fun i=>F (i+1)):=rfl;rw [e];omega
theorem Xx {α:Type}(F:α→Bs):∀l:List α,(l.flatMap F).length≤((l.map F).map fun x=>x.length+2).sum
 |[]=>by simp
 |x::l=>by
  have:=Xx F l;simp only [List.flatMap_cons,List.length_append,List.map_cons,List.sum_cons] at this ⊢;omega
theorem AAD (x:Ex):mE x=x.value.fText.length+x.table.length+x.name.length+mL x.args+1:=by cases x;rfl
theorem ADS {l:List Ex}{A:Nat→Nat}(h:∀i x,l[i]? =some x→A i+8≤40 * mE x)(h1:∀i,l[i]? =none→A i≤1):A 0+A 1+A 2≤40 * mL l+3∧A 0+A 1≤40 * mL l+2∧A 0≤40 * mL l+1:=by
 match l with
 |[]=>
  have a0:=h1 0 rfl;have a1:=h1 1 rfl;have a2:=h1 2 rfl;omega
 |[x]=>
  have a0:=h 0 x rfl;have a1:=h1 1 rfl;have a2:=h1 2 rfl;simp only [mL];omega
 |[x,y]=>
  have a0:=h 0 x rfl;have a1:=h 1 y rfl;have a2:=h1 2 rfl;simp only [mL];omega
 |x::y::z::l=>
  have a0:=h 0 x rfl;have a1:=h 1 y rfl;have a2:=h 2 z rfl;simp only [mL];omega
theorem AFS {k:Int}{s:Bs}{l:Int}(h:Eb k=some (s,l)):s.length≤4:=by
 unfold Eb at h;by_cases h0:k=22;· subst h0;simp at h;rw [←h.1];decide
 by_cases h1:k=21;· subst h1;simp at h;rw [←h.1];decide
 by_cases h2:k=23;· subst h2;simp at h;rw [←h.1];decide
 by_cases h3:k=15;· subst h3;simp at h;rw [←h.1];decide
 by_cases h4:k=16;· subst h4;simp at h;rw [←h.1];decide
 by_cases h5:k=17;· subst h5;simp at h;rw [←h.1];decide
 by_cases h6:k=18;· subst h6;simp at h;rw [←h.1];decide
 by_cases h7:k=19;· subst h7;simp at h;rw [←h.1];decide
 by_cases h8:k=20;· subst h8;simp at h;rw [←h.1];decide
 by_cases h9:k=9;· subst h9;simp at h;rw [←h.1];decide
 by_cases h10:k=10;· subst h10;simp at h;rw [←h.1];decide
 by_cases h11:k=14;· subst h11;simp at h;rw [←h.1];decide
 by_cases h12:k=11;· subst h12;simp at h;rw [←h.1];decide
 by_cases h13:k=12;· subst h13;simp at h;rw [←h.1];decide
 by_cases h14:k=13;· subst h14;simp at h;rw [←h.1];decide
 simp [h0,h1,h2,h3,h4,h5,h6,h7,h8,h9,h10,h11,h12,h13,h14] at h
theorem AEK {x:Ex}{arg:Nat→Int→Bs}(hi:okI x.value.fInt)(h:∀i l y,x.args[i]? =some y→(arg i l).length+8≤40 * mE y)(h1:∀i l,x.args[i]? =none→(arg i l).length≤1):(BB true x arg).length+10≤40 * mE x:=by
 rw [AAD];have t3:∀l0 l1 l2:Int,(arg 0 l0).length+(arg 1 l1).length+(arg 2 l2).length≤40 * mL x.args+3∧(arg 0 l0).length+(arg 1 l1).length≤40 * mL x.args+2∧(arg 0 l0).length≤40 * mL x.args+1:=by
  intro l0 l1 l2;have:=ADS (l:=x.args) (A:=fun i=>(arg i (if i=0 then l0 else if i=1 then l1 else l2)).length) (fun i y hy=>h i _ y hy) (fun i hy=>h1 i _ hy);simpa using this
 unfold BB;split
 ·rename_i s l hs
  have a:=AFS hs;have:=(t3 (if l=4 then 5 else l) (l+1) 0).2.1;simp only [List.length_append,List.length_cons,List.length_nil];omega
 by_cases k1:x.kind=1
 ·rw [if_pos k1];have:=AJg hi;omega
 rw [if_neg k1];by_cases k2:x.kind=2
 ·rw [if_pos k2];have a:=DZ x.table;have b:=DZ x.name;simp only [List.length_append];split <;> simp only [List.length_append,List.length_cons,List.length_nil] <;> omega
 rw [if_neg k2];by_cases k4:x.kind=4
 ·rw [if_pos k4];have:=(t3 8 0 0).2.2;simp only [List.length_append,List.length_cons,List.length_nil];omega
 rw [if_neg k4];by_cases k5:x.kind=5
 ·rw [if_pos k5];have:=(t3 3 0 0).2.2;simp only [List.length_append,List.length_cons,List.length_nil];omega
 rw [if_neg k5];by_cases k6:x.kind=6
 ·rw [if_pos k6];have:=(t3 5 0 0).2.2;simp only [List.length_append,List.length_cons,List.length_nil];omega
 rw [if_neg k6];by_cases k7:x.kind=7
 ·rw [if_pos k7];have:=(t3 5 0 0).2.2;simp only [List.length_append,List.length_cons,List.length_nil];omega
 rw [if_neg k7];by_cases k24:x.kind=24
 ·rw [if_pos k24];have ha:(arg 0 5).length+(Ac ((List.range (x.args.length - 1)).map fun i=>arg (i+1) 1)).length≤40 * mL x.args+1:=by
   cases hx:x.args with
   |nil=>
    have:=h1 0 5 (by rw [hx];rfl);simp [Ac];omega
   |cons y l=>
    have a0:=h 0 5 y (by rw [hx];rfl);have:=IQ ((List.range l.length).map fun i=>arg (i+1) 1);have b:=LK l (fun i=>arg (i+1) 1) (fun i z hz=>by have:=h (i+1) 1 z (by rw [hx];simpa using hz);omega);simp only [List.length_cons,Nat.add_sub_cancel,mL];omega
  simp only [List.length_append,List.length_cons,List.length_nil];omega
 rw [if_neg k24];by_cases k25:x.kind=25
 ·rw [if_pos k25];have:=(t3 5 5 5).1;simp only [List.length_append,List.length_cons,List.length_nil];omega
 rw [if_neg k25];by_cases k8:x.kind=8
 ·rw [if_pos k8];have:=(t3 1 0 0).2.2;simp only [List.length_append,List.length_cons,List.length_nil];omega
 rw [if_neg k8];by_cases k27:x.kind=27
 ·rw [if_pos k27];have:=IQ ((List.range x.args.length).map fun i=>arg i 1);have b:=LK x.args (fun i=>arg i 1) (fun i z hz=>by have:=h i 1 z hz;omega);simp only [List.length_append,List.length_cons,List.length_nil];omega
 rw [if_neg k27];by_cases k26:x.kind=26
 ·rw [if_pos k26];have:=Xx (fun i=>(if i % 2=1 then [32,116,104,101,110,32] else if i+1=x.args.length then [32,101,108,115,101,32] else [32,119,104,101,110,32])++arg i 1) (List.range x.args.length);have b:=LK x.args (fun i=>(if i % 2=1 then [32,116,104,101,110,32] else if i+1=x.args.length then [32,101,108,115,101,32] else [32,119,104,101,110,32])++arg i 1) (fun i z hz=>by
   have:=h i 1 z hz;have e:(if i % 2=1 then [32,116,104,101,110,32] else if i+1=x.args.length then [32,101,108,115,101,32] else [32,119,104,101,110,32]:Bs).length=6:=by
    split
    ·rfl
    ·split <;> rfl
   simp only [List.length_append,e];omega)
  simp only [List.length_append,List.length_cons,List.length_nil];omega
 rw [if_neg k26];by_cases k28:x.kind=28
 ·rw [if_pos k28];have:=(t3 1 0 0).2.2;simp only [List.length_append];split <;> split <;> simp only [List.length_cons,List.length_nil] <;> omega
 ·rw [if_neg k28];simp only [List.length_cons,List.length_nil];omega
theorem YA:∀(n:Nat) (x:Ex) (asked:Int),iE x→(IJ true n x asked).length+8≤40 * mE x
 |0,x,asked,_=>by
  have:=AAD x;simp only [IJ,List.length_nil];omega
 |n+1,x,asked,hi=>by
  have hix:okI x.value.fInt∧iL x.args:=by cases x;exact hi
  have e:∃F:Nat→Int→Bs,IJ true (n+1) x asked=Xd (decide (TS x.kind < asked)) (BB true x F)∧∀i l,F i l=match x.args[i]? with|some y=>IJ true n y l|none=>[63]:=⟨_,rfl,fun _ _=>rfl⟩
  obtain ⟨F,e,hF⟩:=e;have hin:=AEK (x:=x) (arg:=F) hix.1
   (fun i l y hy=>by rw [hF];simp only [hy];exact YA n y l (AHw hix.2 (List.mem_of_getElem? hy))) (fun i l hy=>by rw [hF];simp [hy])
  rw [e];simp only [Xd];split
  ·simp only [List.length_append,List.length_cons,List.length_nil];omega
  ·omega
theorem Jl {x:Ex}(h:iE x)(asked:Int):(exB true x asked).length+8≤40 * mE x:=YA _ x asked h
theorem Xj {l:List Ex}(h:∀x∈l,iE x):(Ih true l).length≤40 * mL l:=by
 rw [←Vp];exact JM l fun x hx=>by have:=Jl (h x hx) 1;omega
theorem MQ {s:Bs}{x:Ex}(h:iE x)(hs:s.length≤8):(DR true s x).length≤40 * mE x:=by
 unfold DR;split
 ·simp
 ·have:=Jl h 1;simp only [List.length_append];omega
theorem AJR (s:Bs):(asB s).length≤2 * s.length+6:=by
 unfold asB;split
 ·simp
 ·have:=DZ s;simp only [List.length_append,List.length_cons,List.length_nil];omega
theorem AHp {x:TItem}(h:Vs x):(Ii true x).length+2≤40 * FX x:=by
 have a:=AJR x.fAs;have b:=DZ x.fTable;have c:=Jl h 1;unfold Ii FX;simp only [List.length_append];split
 ·split <;> simp only [List.length_append,List.length_cons,List.length_nil] <;> omega
 ·omega
theorem AJt {x:TSource}(i:Nat)(h:KX x):(Yu true i x).length≤40 * DL x:=by
 have a:=AJR x.fAs;have b:=DZ x.fTable;have c:=Jl h 1;unfold Yu DL;have e:(if i=0 then [32,102,114,111,109,32] else if x.fLeft then [32,108,101,102,116,32,106,111,105,110,32] else if x.fOn.kind≠0 then [32,106,111,105,110,32] else [32,99,114,111,115,115,32,106,111,105,110,32]:Bs).length≤12:=by
  split
  ·decide
  split
  ·decide
  split <;> decide
 revert e
 generalize (if i=0 then [32,102,114,111,109,32] else if x.fLeft then [32,108,101,102,116,32,106,111,105,110,32] else if x.fOn.kind≠0 then [32,106,111,105,110,32] else [32,99,114,111,115,115,32,106,111,105,110,32]:Bs)=p;intro e;simp only [List.length_append];split
 ·simp only [List.length_append,List.length_cons,List.length_nil];omega
 ·simp only [List.length_nil];omega
theorem Wp:∀(l:List TSource) (i:Nat),(∀x∈l,KX x)→(Dp true i l).length≤40 * (l.map DL).sum
 |[],i,_=>by simp [Dp]
 |x::l,i,h=>by
  have a:=AJt i (h x (List.mem_cons_self ..));have b:=Wp l (i+1) fun y hy=>h y (List.mem_cons_of_mem _ hy);simp only [Dp,List.length_append,List.map_cons,List.sum_cons];omega
theorem AKf {x:TOrder}(h:QP x):(Vf true x).length+2≤40 * Du x:=by
 have c:=Jl h 1;unfold Vf Du;simp only [List.length_append];split <;> simp only [List.length_cons,List.length_nil] <;> omega
theorem OO (l:List Bs):(EK l).length≤40 * (l.map mB).sum+2:=by
 have:=JM (f:=nameB) (μ:=mB) l fun x _=>by have:=DZ x;unfold mB;omega
 unfold EK;simp only [List.length_append,List.length_cons,List.length_nil];omega
theorem ADt {q:TSelect}(h:Rx q):(Iq true q).length≤40 * FW q+100:=by
 obtain ⟨h1,h2,h3,h4,h5,h6,h7,h8⟩:=h;have a1:=JM (f:=Ii true) (μ:=FX) q.fItems fun x hx=>AHp (h1 x hx);have a2:=Wp q.fFrom 0 h2;have a3:=MQ (s:=[32,119,104,101,114,101,32]) h3 (by decide);have a4:=Xj h4;have a5:=MQ (s:=[32,104,97,118,105,110,103,32]) h5 (by decide);have a6:=JM (f:=Vf true) (μ:=Du) q.fOrder fun x hx=>AKf (h6 x hx);have a7:=Si h7;have a8:=Si h8;unfold Iq FW;have b1:(if q.fDistinct then [100,105,115,116,105,110,99,116,32] else []:Bs).length≤9:=by split <;> decide
 have b4:(if q.fGroup.isEmpty then [] else [32,103,114,111,117,112,32,98,121,32]++Ih true q.fGroup).length≤40 * mL q.fGroup+10:=by
  split <;> simp only [List.length_append,List.length_cons,List.length_nil] <;> omega
 have b6:(if q.fOrder.isEmpty then [] else [32,111,114,100,101,114,32,98,121,32]++Ac (q.fOrder.map (Vf true))).length≤40 * (q.fOrder.map Du).sum+10:=by
  split <;> simp only [List.length_append,List.length_cons,List.length_nil] <;> omega
 have b7:(if 0≤q.fLimit then [32,108,105,109,105,116,32]++Jz true q.fLimit else []).length≤27:=by
  split <;> simp only [List.length_append,List.length_cons,List.length_nil] <;> omega
 have b8:(if q.fOffset=0 then [] else [32,111,102,102,115,101,116,32]++Jz true q.fOffset).length≤28:=by
  split <;> simp only [List.length_append,List.length_cons,List.length_nil] <;> omega
 simp only [List.length_append,List.length_cons,List.length_nil];omega
theorem ALG {c:TCol}(h:Xq c):(PO true c).length+2≤40 * Gp c+40:=by
 have a:=DZ c.fName;have b:=Jl h 1;unfold PO Gp;rw [show (if true=true then (1:Int) else 7)=1 from rfl];have b1:(TY c.fType).length≤4:=by
  unfold TY;split
  ·decide
  split
  ·decide
  split <;> decide
 have b2:(if c.fNotNull then [32,110,111,116,32,110,117,108,108] else []:Bs).length≤9:=by split <;> decide
 have b3:(if c.fKey then [32,112,114,105,109,97,114,121,32,107,101,121] else []:Bs).length≤12:=by split <;> decide
 have b4:(if c.fUnique then [32,117,110,105,113,117,101] else []:Bs).length≤7:=by split <;> decide
 have b5:(if c.fDefault.kind=0 then [] else [32,100,101,102,97,117,108,116,32]++exB true c.fDefault 1).length≤40 * mE c.fDefault+1:=by
  split <;> simp only [List.length_append,List.length_cons,List.length_nil] <;> omega
 simp only [List.length_append,List.length_cons,List.length_nil];omega
theorem AIS {c:TCol}(h:Xq c):(PO true c).length+2≤80 * Gp c:=by
 have:=ALG h;have:1≤Gp c:=by unfold Gp;omega
 omega
theorem TA {α:Type}{f:α→Bs}{μ:α→Nat}:∀(l:List α),(∀x∈l,(f x).length+2≤80 * μ x)→(Ac (l.map f)).length≤80 * (l.map μ).sum:=by
 intro l h;refine Nat.le_trans (IQ _) ?_;induction l with
 |nil=>simp
 |cons x l ih=>
  have h1:=h x (List.mem_cons_self ..);have h2:=ih fun y hy=>h y (List.mem_cons_of_mem _ hy);simp only [List.map_cons,List.sum_cons] at h2 ⊢;omega
theorem AGz {l:List Ex}(h:∀x∈l,iE x):(rowB true l).length+2≤80 * (mL l+1):=by
 have:=Xj h;unfold rowB;simp only [List.length_append,List.length_cons,List.length_nil];omega
theorem AIA {s:TStmt}(h:Rw s):(BF true s).length≤80 * Gu s+200:=by
 obtain ⟨h1,h2,h3,h4,h5,h6⟩:=h;have a1:=ADt h1;have a2:=DZ s.fTable;have a3:=OO s.fColumns;have a4:=TA (f:=rowB true) (μ:=fun l=>mL l+1) s.fRows fun x hx=>AGz (h2 x hx);have a5:=JM (f:=fun x:TSet=>nameB x.fColumn++[32,61,32]++exB true x.fExpr 1) (μ:=JH) s.fSets fun x hx=>by
  have b1:=DZ x.fColumn;have b2:=Jl (h3 x hx) 1;unfold JH;simp only [List.length_append,List.length_cons,List.length_nil];omega
 have a6:=MQ (s:=[32,119,104,101,114,101,32]) h4 (by decide);have a7:=TA (f:=PO true) (μ:=Gp) s.fCols fun x hx=>AIS (h5 x hx);have a8:=OO s.fKey;have a9:=DZ s.fIndex.fName;have a10:=DZ s.fIndex.fTable;have a11:=OO s.fIndex.fColumns;unfold BF Gu Rq;by_cases k1:s.fKind=1
 ·rw [if_pos k1];omega
 rw [if_neg k1];by_cases k2:s.fKind=2
 ·rw [if_pos k2];have b:(if s.fColumns.isEmpty then [] else [32]++EK s.fColumns).length≤40 * (s.fColumns.map mB).sum+3:=by
   split <;> simp only [List.length_append,List.length_cons,List.length_nil] <;> omega
  simp only [List.length_append,List.length_cons,List.length_nil];omega
 rw [if_neg k2];by_cases k3:s.fKind=3
 ·rw [if_pos k3];simp only [List.length_append,List.length_cons,List.length_nil];omega
 rw [if_neg k3];by_cases k4:s.fKind=4
 ·rw [if_pos k4];simp only [List.length_append,List.length_cons,List.length_nil];omega
 rw [if_neg k4];by_cases k5:s.fKind=5
 ·rw [if_pos k5];have b:(if s.fKey.isEmpty then [] else [44,32,112,114,105,109,97,114,121,32,107,101,121,32]++EK s.fKey).length≤40 * (s.fKey.map mB).sum+20:=by
   split <;> simp only [List.length_append,List.length_cons,List.length_nil] <;> omega
  unfold JW;simp only [List.length_append,List.length_cons,List.length_nil];omega
 rw [if_neg k5];by_cases k6:s.fKind=6
 ·rw [if_pos k6];have b:(if s.fIndex.fUnique then [117,110,105,113,117,101,32] else []:Bs).length≤7:=by split <;> decide
  simp only [List.length_append,List.length_cons,List.length_nil];omega
 rw [if_neg k6];by_cases k7:s.fKind=7
 ·rw [if_pos k7];simp only [List.length_append,List.length_cons,List.length_nil];omega
 rw [if_neg k7];by_cases k8:s.fKind=8
 ·rw [if_pos k8];simp only [List.length_append,List.length_cons,List.length_nil];omega
 rw [if_neg k8];by_cases k9:s.fKind=9
 ·rw [if_pos k9];simp only [List.length_cons,List.length_nil];omega
 rw [if_neg k9];by_cases k10:s.fKind=10
 ·rw [if_pos k10];simp only [List.length_cons,List.length_nil];omega
 rw [if_neg k10];by_cases k11:s.fKind=11
 ·rw [if_pos k11];simp only [List.length_cons,List.length_nil];omega
 ·rw [if_neg k11];simp only [List.length_cons,List.length_nil];omega
mutual
theorem ACX:∀x:Ex,Aa x≤mE x
 | .mk k v t n s ty d l=>by have:=XZ l;simp only [Aa,mE];omega
theorem XZ:∀l:List Ex,AY l≤mL l
 |[]=>Nat.le_refl _
 |x::l=>by have:=ACX x;have:=XZ l;simp only [AY,mL];omega
end
theorem ASN (x:Ex):1≤mE x:=by rw [AAD];omega
theorem Xl:∀l:List Ex,l.length≤mL l
 |[]=>Nat.le_refl _
 |x::l=>by have:=ASN x;have:=Xl l;simp only [mL,List.length_cons];omega
mutual
theorem ANE:∀{x:Ex},iE x→mE x≤1000000000000→okE x
 | .mk k v t n s ty d l,h,hp=>by
  simp only [mE] at hp;have:=Xl l;exact ⟨h.1,by omega,ACY h.2 (by omega)⟩
theorem ACY:∀{l:List Ex},iL l→mL l≤1000000000000→okL l
 |[],_,_=>trivial
 |x::l,h,hp=>by
  simp only [mL] at hp;exact ⟨ANE h.1 (by omega),ACY h.2 (by omega)⟩
end
theorem AID (p:Ex→Bool):∀l:List Ex,AY (l.filter p)≤mL l
 |[]=>Nat.le_refl _
 |x::l=>by
  have:=AID p l;have:=ACX x;rw [List.filter_cons];split <;> simp only [AY,mL] <;> omega
theorem AAC:∀a b:List Ex,mL (a++b)=mL a+mL b
 |[],b=>by simp [mL]
 |x::a,b=>by simp only [List.cons_append,mL,AAC a b];omega
theorem OQ {α:Type}(f:α→Ex)(μ:α→Nat):∀l:List α,(∀x,mE (f x)≤μ x)→mL (l.map f)≤(l.map μ).sum
 |[],_=>Nat.le_refl _
 |x::l,h=>by have:=OQ f μ l h;have:=h x;simp only [List.map_cons,mL,List.sum_cons];omega
theorem ACe:∀l:List (List Ex),mL l.flatten+l.length≤(l.map fun x=>mL x+1).sum
 |[]=>Nat.le_refl _
 |x::l=>by have:=ACe l;simp only [List.flatten_cons,AAC,List.map_cons,List.sum_cons,List.length_cons];omega
theorem Jg {α:Type}(μ:α→Nat)(h:∀x,1≤μ x):∀l:List α,l.length≤(l.map μ).sum
 |[]=>Nat.le_refl _
 |x::l=>by have:=Jg μ h l;have:=h x;simp only [List.map_cons,List.sum_cons,List.length_cons];omega
theorem Ig {α:Type}(μ:α→Nat){x:α}:∀{l:List α},x∈l→μ x≤(l.map μ).sum
 |y::l,h=>by
  simp only [List.map_cons,List.sum_cons];rcases List.mem_cons.1 h with rfl|h
  ·omega
  ·have:=Ig μ h;omega
theorem ALP {s:TStmt}(h:Rw s)(hm:Gu s≤1048576):OkS s∧FU s≤1000000000∧(BF true s).length≤900000000:=by
 have hf:=AIA h;obtain ⟨⟨h1,h2,h3,h4,h5,h6,h7,h8⟩,k2,k3,k4,k5,_⟩:=h;have hq:FW s.fSelect≤Gu s:=by unfold Gu;omega
 have q1:(s.fSelect.fItems.map FX).sum+(s.fSelect.fFrom.map DL).sum+mE s.fSelect.fWhere+mL s.fSelect.fGroup+mE s.fSelect.fHaving+(s.fSelect.fOrder.map Du).sum+1=FW s.fSelect:=by unfold FW;omega
 have s1:FW s.fSelect+s.fTable.length+(s.fColumns.map mB).sum+(s.fRows.map fun l=>mL l+1).sum+(s.fSets.map JH).sum+mE s.fWhere+(s.fCols.map Gp).sum+(s.fKey.map mB).sum+Rq s.fIndex+1=Gu s:=by unfold Gu;omega
 have i1:(s.fIndex.fColumns.map mB).sum≤Rq s.fIndex:=by unfold Rq;omega
 have pI:∀x:TItem,mE x.fExpr≤FX x:=fun x=>by unfold FX;omega
 have pS:∀x:TSource,mE x.fOn≤DL x:=fun x=>by unfold DL;omega
 have pO:∀x:TOrder,mE x.fExpr≤Du x:=fun x=>by unfold Du;omega
 have pT:∀x:TSet,mE x.fExpr≤JH x:=fun x=>by unfold JH;omega
 have pC:∀x:TCol,mE x.fDefault≤Gp x:=fun x=>by unfold Gp;omega
 have lB:∀l:List Bs,l.length≤(l.map mB).sum:=Jg mB fun x=>by unfold mB;omega
 have l1:=Jg FX (fun x=>by unfold FX;omega) s.fSelect.fItems;have l2:=Jg DL (fun x=>by unfold DL;omega) s.fSelect.fFrom;have l3:=Xl s.fSelect.fGroup;have l4:=Jg Du (fun x=>by unfold Du;omega) s.fSelect.fOrder;have l5:=ACe s.fRows;have l5':=Xl s.fRows.flatten;have l6:=Jg JH (fun x=>by unfold JH;omega) s.fSets;have l7:=Jg Gp (fun x=>by unfold Gp;omega) s.fCols;have b1:=lB s.fColumns;have b2:=lB s.fKey;have b3:=lB s.fIndex.fColumns;have e:∀{x:Ex},iE x→mE x≤Gu s→okE x:=fun h hx=>ANE h (by omega);refine ⟨⟨⟨fun x hx=>e (h1 x hx) ?_,fun x hx=>e (h2 x hx) ?_,e h3 (by omega),ACY (ACl h4) (by omega),e h5 (by omega),fun x hx=>e (h6 x hx) ?_,h7,h8,?_⟩,e k4 (by omega),fun x hx=>⟨ACY (ACl (k2 x hx)) ?_,?_⟩,fun x hx=>e (k3 x hx) ?_,fun x hx=>e (k5 x hx) ?_,?_,by omega,by omega,by omega⟩,?_,by omega⟩
 ·have:=Ig FX hx;have:=pI x;omega
 ·have:=Ig DL hx;have:=pS x;omega
 ·have:=Ig Du hx;have:=pO x;omega
 ·unfold cQ;omega
 ·have:=Ig (fun l=>mL l+1) hx;omega
 ·have:=Ig (fun l=>mL l+1) hx;have:=Xl x;omega
 ·have:=Ig JH hx;have:=pT x;omega
 ·have:=Ig Gp hx;have:=pC x;omega
 ·unfold cS cQ;omega
 ·unfold FU GU;have a0:=AID (fun x=>x.kind != 0) (s.fSelect.fItems.map (·.fExpr)++s.fSelect.fFrom.map (·.fOn)++[s.fSelect.fWhere,s.fSelect.fHaving,s.fWhere]++s.fSelect.fGroup++s.fSelect.fOrder.map (·.fExpr)++s.fRows.flatten++s.fSets.map (·.fExpr)++s.fCols.map (·.fDefault));have a1:=OQ (·.fExpr) FX s.fSelect.fItems pI;have a2:=OQ (·.fOn) DL s.fSelect.fFrom pS;have a3:=OQ (·.fExpr) Du s.fSelect.fOrder pO;have a4:=OQ (·.fExpr) JH s.fSets pT;have a5:=OQ (·.fDefault) Gp s.fCols pC;simp only [AAC,mL] at a0;omega
theorem GV {α:Type}{f:α→α→Bool}:∀{xs ys:List α},(∀x∈xs,∀y,f x y=true→x=y)→eqL f xs ys=true→xs=ys
 |[],[],_,_=>rfl
 |[],_::_,_,h=>by cases h
 |_::_,[],_,h=>by cases h
 |x::xs,y::ys,hf,h=>by
  simp only [eqL,Bool.and_eq_true] at h;rw [hf x (List.mem_cons_self ..) y h.1,GV (fun z hz=>hf z (List.mem_cons_of_mem _ hz)) h.2]
theorem UF:∀(n:Nat) (x y:Ex),DD x≤n→EW x y=true→x=y
 |0,x,y,hd,_=>by have:=FK x;omega
 |n+1,x,y,hd,h=>by
  rw [XI] at h;simp only [Bool.and_eq_true,beq_iff_eq] at h;have hdd:=Di x;have ha:=GV (fun z hz w hw=>UF n z w (by have:=Ee hz;omega) hw) h.2;obtain ⟨k,v,t,m,s,ty,d,l⟩:=x;obtain ⟨k',v',t',m',s',ty',d',l'⟩:=y;simp only [Ex.kind,Ex.value,Ex.table,Ex.name,Ex.slot,Ex.type,Ex.distinct,Ex.args] at h ha;obtain ⟨⟨⟨⟨⟨⟨⟨rfl,rfl⟩,rfl⟩,rfl⟩,rfl⟩,rfl⟩,rfl⟩,_⟩:=h;rw [ha]
theorem sE {x y:Ex}(h:EW x y=true):x=y:=UF _ x y (Nat.le_refl _) h
theorem eB {x y:Bs}(h:eqB x y=true):x=y:=by simpa [eqB] using h
theorem same_eq {a b:TStmt}(h:Lc a b=true):a=b:=by
 unfold Lc sQu sIx sRe at h;simp only [Bool.and_eq_true,beq_iff_eq] at h;obtain ⟨⟨⟨⟨⟨⟨⟨⟨⟨⟨⟨⟨⟨d1,d2⟩,d3⟩,d4⟩,d5⟩,d6⟩,h2⟩,h3⟩,h4⟩,h5⟩,h6⟩,h7⟩,⟨⟨⟨x1,x2⟩,x3⟩,x4⟩⟩,⟨⟨⟨⟨r1,r2⟩,r3⟩,r4⟩,r5⟩⟩:=h;have h2:=GV (fun x _ y hxy=>by
  unfold sIt at hxy;simp only [Bool.and_eq_true,beq_iff_eq] at hxy;obtain ⟨⟨⟨e1,e2⟩,e3⟩,e4⟩:=hxy;cases x;cases y;simp only at e1 e2 e3 e4;rw [e1,e2,e3,sE e4]) h2
 have h3:=GV (fun x _ y hxy=>by
  unfold sSo at hxy;simp only [Bool.and_eq_true,beq_iff_eq] at hxy;obtain ⟨⟨⟨e1,e2⟩,e3⟩,e4⟩:=hxy;cases x;cases y;simp only at e1 e2 e3 e4;rw [e1,e2,e3,sE e4]) h3
 have h4:=GV (fun x _ y hxy=>by
  unfold sOr at hxy;simp only [Bool.and_eq_true,beq_iff_eq] at hxy;obtain ⟨e1,e4⟩:=hxy;cases x;cases y;simp only at e1 e4;rw [e1,sE e4]) h4
 have h5:=GV (fun x _ y hxy=>GV (fun x _ y h=>sE h) hxy) h5;have h6:=GV (fun x _ y hxy=>by
  unfold sSe at hxy;simp only [Bool.and_eq_true,beq_iff_eq] at hxy;obtain ⟨e1,e4⟩:=hxy;cases x;cases y;simp only at e1 e4;rw [e1,sE e4]) h6
 have h7:=GV (fun x _ y hxy=>by
  unfold sCo at hxy;simp only [Bool.and_eq_true,beq_iff_eq] at hxy;obtain ⟨⟨⟨⟨⟨e1,e2⟩,e3⟩,e4⟩,e5⟩,e6⟩:=hxy;cases x;cases y;simp only at e1 e2 e3 e4 e5 e6;rw [e1,e2,e3,e4,e5,sE e6]) h7
 have d4:=sE d4;have d5:=sE d5;have d6:=GV (fun x _ y h=>sE h) d6;have x4:=GV (fun x _ y h=>eB h) x4;have r3:=GV (fun x _ y h=>eB h) r3;have r4:=GV (fun x _ y h=>eB h) r4;have r5:=sE r5;obtain ⟨k,⟨q1,q2,q3,q4,q5,q6,q7,q8,q9⟩,t,co,ro,se,wh,cl,ke,⟨j1,j2,j3,j4⟩⟩:=a;obtain ⟨k',⟨q1',q2',q3',q4',q5',q6',q7',q8',q9'⟩,t',co',ro',se',wh',cl',ke',⟨j1',j2',j3',j4'⟩⟩:=b;simp only at *
 subst d1 d2 d3 d4 d5 d6 h2 h3 h4 h5 h6 h7 x1 x2 x3 x4 r1 r2 r3 r4 r5;rfl
theorem AHA {s:TStmt}(h:FT s=0):readA (BF true s)=([s],ok0)∧NZ (FU s) (SV s)=0:=by
 unfold FT at h;cases hr:readA (BF true s) with
 |mk l f=>
  rw [hr] at h;match l,h with
  |[],h=>exact absurd (show (177:Int)=0 from h) (by decide)
  |_::_::_,h=>exact absurd (show (177:Int)=0 from h) (by decide)
  |[x],h=>
   simp only at h
   split at h
   ·rename_i hf
    split at h
    ·rename_i hx
     rw [same_eq hx,hf];exact ⟨rfl,h⟩
    ·exact absurd h (by decide)
   ·exact absurd h (by decide)
theorem AAx {s:TStmt}(h:(Me s).2=0):(Me s).1=BF true s∧Ci (BF true s)=([s],ok0):=by
 unfold Me at h ⊢;split at h
 ·rename_i h1
  exact absurd h h1
 rename_i h1
 rw [if_neg h1];have h1:FT s=0:=Decidable.not_not.1 h1;split at h
 ·exact absurd h (by decide)
 rename_i h2
 rw [if_neg h2];obtain ⟨g1,g2⟩:=AHA h1;refine ⟨rfl,?_⟩;unfold Ci;rw [if_neg h2,g1];have e1:NZ (BL [s]) (Dq [s])=0:=by
  rw [←g2];simp [BL,Dq]
 simp only [e1,ne_eq,not_true_eq_false,if_false]
section
variable {ω:Om}{G I:Imm}{L F:LH}{K:Value→M}
end
open Go.ChangeShapes
section
variable {H:Type}{enc:TypeId×Value→H}
theorem handed_cond_and {a:Assume}{C:Checked}{os:Os}{f:FuncId}{fn:Func}{s:OpenSpec}{k:(H:Type)→List (DataW H)→Bool}(hk:s.cond=some k){F:Stop.Interp}{conds:List PathCond}{apart fresh handsOn again:Bool}{X:World→Array Value→Prop}
  (hX:∀(w w':World) (args:Array Value),w.heap=w'.heap→X w args→X w' args)
  (own:ownKnob C.prog.godebug=none) (started:os.Started) (noInit:C.prog.inits.idxOf? f=none) (hfn:C.prog.funcs[f]? =some fn)
  (witness:∃(w:World) (tape:Tape) (i:Input),w.os=os∧(w.forCall tape i).Shaped C.prog∧i.vars=[]∧Input.okWide C.prog (w.forCall tape i) .any w.heap.size f i∧
   ((s.pre enc C.prog fn conds apart (w.forCall tape i).memory i.args∧X (w.forCall tape i).memory i.args)∧sizedMet enc C.prog fn s apart (w.forCall tape i).memory i.args)∧a.holds C.prog (lone (Frame.enter C.prog f i.args .normal) [] (w.forCall tape i)))
  (contract:∀(W:World) (base:Nat) (args:Array Value) (ds gs:List (DataW H)) (before:List MemPlace),
   (∀(j:Nat) t v,fn.params[j]? =some t→args[j]? =some v→Value.okWide C.prog W .any base t v)→
   DataW.Whole enc C.prog fn.params.toList s.vars apart W args.toList ds gs before→
   conds.all (PathCond.test C.prog ⟨fn.params.toList,ds,s.bare.plain.varTypes C.prog,gs⟩)=true→k H (ds++gs)=true→X W args→
   a.holds C.prog (lone (Frame.enter C.prog f args .normal) [] W)→
   Calls C.prog f args W fun e W'=>∃v,e= .returned v∧(s.at F).post enc C.prog fn apart fresh handsOn again W args v W'):
  ReturnsInHanded a C os f .any (fun w args=>(s.pre enc C.prog fn conds apart w args∧X w args)∧sizedMet enc C.prog fn s apart w args) ((s.at F).post enc C.prog fn apart fresh handsOn again):=by
 refine returnsInHanded_of_calls own started noInit witness ?_;intro w tape i _ _ _ hok hpre hholds;obtain ⟨_,_,_,fn',hfn',_,_,_,_,hval⟩:=hok;have e:fn'=fn:=Option.some.inj (hfn'.symm.trans hfn);subst e;obtain ⟨ds,gs,before,hw,hc,hkk⟩:=(OpenSpec.pre_some hk conds apart _ _).1 hpre.1.1;have hw':=DataW.Whole.of_heap (w':=w.forCall tape i) (by rfl) hw;refine (contract (w.forCall tape i) w.heap.size i.args ds gs before hval hw' hc hkk (hX _ _ _ (by rfl) hpre.1.2) hholds).mono fun e W' ⟨v,he,hp⟩=>?_;subst he;exact ChangeSpec.post_blind hp
theorem cond_witness {C:Checked}{os:Os}{f:FuncId}{fn:Func}{s:OpenSpec}{k:(H:Type)→List (DataW H)→Bool}(hk:s.cond=some k){conds:List PathCond}{apart:Bool}{X:World→Array Value→Prop}(modest:Bool)(w0:World)(args:Array Value)(fuel:Nat)(hos:w0.os=os)
  (hsh:(w0.forCall (fun _ _=>0) ⟨#[],args,[]⟩).Shaped C.prog)
  (hok:Input.okWideB C.prog (w0.forCall (fun _ _=>0) ⟨#[],args,[]⟩) f ⟨#[],args,[]⟩=true)
  {x:List (DataW H)×List (DataW H)×List MemPlace} (hx:DataW.whole enc C.prog (w0.forCall (fun _ _=>0) ⟨#[],args,[]⟩).memory fn.params.toList s.vars apart args.toList fuel=some x)
  (hconds:conds.all (PathCond.test C.prog ⟨fn.params.toList,x.1,s.bare.plain.varTypes C.prog,x.2.1⟩)=true) (hkk:k H (x.1++x.2.1)=true)
  (hsz:s.bare.sizedB enc C.prog fn apart (w0.forCall (fun _ _=>0) ⟨#[],args,[]⟩).memory args fuel=true)
  (hX:X (w0.forCall (fun _ _=>0) ⟨#[],args,[]⟩).memory args):
  ∃(w:World) (tape:Tape) (i:Input),w.os=os∧(w.forCall tape i).Shaped C.prog∧i.vars=[]∧Input.okWide C.prog (w.forCall tape i) .any w.heap.size f i∧
   ((s.pre enc C.prog fn conds apart (w.forCall tape i).memory i.args∧X (w.forCall tape i).memory i.args)∧sizedMet enc C.prog fn s apart (w.forCall tape i).memory i.args)∧({modest:=modest}:Assume).holds C.prog (lone (Frame.enter C.prog f i.args .normal) [] (w.forCall tape i)):=
 ⟨w0,fun _ _=>0,⟨#[],args,[]⟩,hos,hsh,(Input.okWide_of_okWideB (base:=0) hok).1,(Input.okWide_of_okWideB hok).2,
  ⟨⟨(OpenSpec.pre_some hk conds apart _ _).2 ⟨x.1,x.2.1,x.2.2,DataW.Whole_of_whole hx,hconds,hkk⟩,hX⟩,sizedMet_of_sizedB hsz⟩,by
  simp only [Assume.holds];exact ⟨by simp,by simp,fun _=>Modest.zero,by simp,by simp⟩⟩
end
theorem small_one {H:Type}{d:DataW H}{ds:List (DataW H)}(h:Rows.uptoSmall H ds=true)(hd:d∈ds):Rows.uptoBulk d≤1048576:=by
 unfold Rows.uptoSmall at h;have h:=of_decide_eq_true h;obtain ⟨i,hi⟩:=List.getElem?_of_mem hd;have:=TD hi;omega
theorem AEw {H:Type}{enc:TypeId×Value→H}{W:World}{base:Nat}{v:Value}{d:DataW H}(o:Value.okWide Tryz.prog W .any base 48 v)(t:Td enc Tryz.prog W 48 v.cells.toList d)(hb:Rows.uptoBulk d≤1048576):∃s c,v= .agg c.toArray∧TStmtV (DC W) s c∧Rw s∧Gu s≤1048576:=by
 simp only [Value.okWide,Tryz.underlying48] at o;obtain ⟨cs,rfl,_⟩:=o;obtain ⟨s,⟨h1,h2⟩,h3⟩:=AJV t;exact ⟨s,cs.toList,by simp,h1,h2,by omega⟩
def ncB:UInt8→Bool→Bs→Bool
 |_,_,[]=>true
 |q,p,c::r=>
  if q != 0 then ncB (if c==q then 0 else q) false r else
  if c==39||c==34 then ncB c false r else
  if c==45 then !p&&ncB 0 true r else ncB 0 false r
theorem ACc:∀s:Bs,ncB 0 true s=true→ncB 0 false s=true
 |[],_=>rfl
 |c::r,h=>by
  simp only [ncB,bne_self_eq_false,Bool.false_eq_true,if_false,Bool.not_true,Bool.not_false,Bool.false_and,Bool.true_and] at h ⊢;split at h
  ·rename_i h1;rw [if_pos h1];exact h
  rename_i h1
  rw [if_neg h1];split at h
  ·cases h
  ·rename_i h2;rw [if_neg h2];exact h
theorem AOO {p:Bool}{s:Bs}(h:ncB 0 p s=true):ncB 0 false s=true:=by
 cases p
 ·exact h
 ·exact ACc s h
section
variable (bit:Nat→Bool)
theorem WZ:∀(w s:Bs) (i:Nat),w.all wc=true→∃w' j,BA bit i 0 (w++s)=w'++BA bit j 0 s∧w'.map Dz=w.map Dz∧w'.all wc=true∧(w.head?.any BP=true→w'.head?.any BP=true)
 |[],s,i,_=>⟨[],i,rfl,rfl,rfl,fun h=>h⟩
 |c::w,s,i,h=>by
  simp only [List.all_cons,Bool.and_eq_true] at h;obtain ⟨w',j,h1,h2,h3,_⟩:=WZ w s (i+1) h.2;have k:=DX (p:=fun c=> !(wc c)||(c != 39&&c != 34&&c != 32&&(!(97≤c&&c≤122)||(Dz (c - 32)==Dz c&&wc (c - 32)&&BP (c - 32))))) (by decide+kernel) c;simp only [h.1,Bool.not_true,Bool.false_or,Bool.and_eq_true,bne_iff_ne,beq_iff_eq,Bool.or_eq_true] at k;obtain ⟨⟨⟨k1,k2⟩,k3⟩,k5⟩:=k;simp only [List.cons_append,BA,bne_self_eq_false,Bool.false_eq_true,if_false];rw [if_neg (by simp [k1,k2])];by_cases hc:((97≤c&&c≤122)&&bit i)=true
  ·rw [if_pos hc];simp only [Bool.and_eq_true] at hc;have k6:=k5.resolve_left (by simp [hc.1.1,hc.1.2]);refine ⟨(c - 32)::w',j,by rw [h1];rfl,by rw [List.map_cons,List.map_cons,k6.1.1,h2],by simp [k6.1.2,h3],fun _=>by simpa using k6.2⟩
  ·rw [if_neg hc,if_neg (by simp [k3])];exact ⟨c::w',j,by rw [h1];rfl,by rw [List.map_cons,List.map_cons,h2],by simp [h.1,h3],fun h=>h⟩
theorem OA (q:UInt8)(hq:q=34∨q=39):∀(n:Nat) (s x r:Bs),s.length≤n→CQ q s=some (x,r)→∃pre,s=pre++r∧(∀i,∃j,BA bit i q s=pre++BA bit j 0 r)∧(∀t:Bs,t.head? ≠some q→CQ q (pre++t)=some (x,t))∧r.head? ≠some q∧ncB q false s=ncB 0 false r
 |0,s,x,r,hn,h=>by
  have:s=[]:=List.length_eq_zero_iff.1 (by omega);subst this;simp [CQ] at h
 |n+1,[],x,r,hn,h=>by simp [CQ] at h
 |n+1,c::s,x,r,hn,h=>by
  have q0:(q != 0)=true:=by rcases hq with rfl|rfl <;> rfl
  have qq:(q==39||q==34)=true:=by rcases hq with rfl|rfl <;> rfl
  rw [EJ] at h;split at h
  ·cases h
  rename_i h0
  split at h
  ·rename_i h1
   have h1':(c==q)=false:=by simpa using h1
   cases hx:CQ q s with
   |none=>rw [hx] at h;cases h
   |some y=>
    rw [hx] at h;simp only [Option.map_some,Option.some.injEq,Prod.mk.injEq] at h;obtain ⟨rfl,rfl⟩:=h;obtain ⟨pre,e1,e2,e3,e4,e5⟩:=OA q hq n s y.1 y.2 (by simpa using hn) hx;refine ⟨c::pre,by rw [e1];rfl,fun i=>?_,fun t ht=>?_,e4,?_⟩
    ·obtain ⟨j,hj⟩:=e2 (i+1);refine ⟨j,?_⟩;simp only [BA,q0,if_true,h1',Bool.false_eq_true,if_false,hj];rfl
    ·rw [List.cons_append,EJ,if_neg h0,if_pos h1,e3 t ht];rfl
    ·simp only [ncB,q0,if_true,h1',Bool.false_eq_true,if_false,e5]
  ·rename_i h1
   have h1':c=q:=by simpa using h1
   subst h1';cases s with
   |nil=>
    simp only [Option.some.injEq,Prod.mk.injEq] at h;obtain ⟨rfl,rfl⟩:=h;refine ⟨[c],rfl,fun i=>⟨i+1,?_⟩,fun t ht=>?_,by simp,?_⟩
    ·simp [BA,q0]
    ·rw [List.cons_append,List.nil_append,EJ,if_neg h0,if_neg h1];cases t with
     |nil=>rfl
     |cons d t=>
      have:(d==c)=false:=by
       cases hd:d==c with
       |false=>rfl
       |true=>exact absurd (by rw [List.head?_cons,beq_iff_eq.1 hd]) ht
      simp [this]
    ·simp [ncB,q0]
   |cons d s=>
    simp only at h
    split at h
    ·rename_i h2
     have h2':d=c:=by simpa using h2
     subst h2';cases hx:CQ d s with
     |none=>rw [hx] at h;cases h
     |some y=>
      rw [hx] at h;simp only [Option.map_some,Option.some.injEq,Prod.mk.injEq] at h;obtain ⟨rfl,rfl⟩:=h;obtain ⟨pre,e1,e2,e3,e4,e5⟩:=OA d hq n s y.1 y.2 (by simp only [List.length_cons] at hn;omega) hx;refine ⟨d::d::pre,by rw [e1];rfl,fun i=>?_,fun t ht=>?_,e4,?_⟩
      ·obtain ⟨j,hj⟩:=e2 (i+2);refine ⟨j,?_⟩;simp only [BA,q0,if_true,beq_self_eq_true,bne_self_eq_false,Bool.false_eq_true,if_false,qq];rw [hj];rfl
      ·rw [List.cons_append,List.cons_append,EJ,if_neg h0,if_neg h1];simp only [beq_self_eq_true,if_true];rw [e3 t ht];rfl
      ·simp only [ncB,q0,if_true,beq_self_eq_true,bne_self_eq_false,Bool.false_eq_true,if_false,qq,e5]
    ·rename_i h2
     have h2':(d==c)=false:=by simpa using h2
     simp only [Option.some.injEq,Prod.mk.injEq] at h;obtain ⟨rfl,rfl⟩:=h;refine ⟨[c],rfl,fun i=>⟨i+1,?_⟩,fun t ht=>?_,by simpa using h2',?_⟩
     ·simp only [BA,q0,if_true,beq_self_eq_true];rfl
     ·rw [List.cons_append,List.nil_append,EJ,if_neg h0,if_neg h1];cases t with
      |nil=>rfl
      |cons e t=>
       have:(e==c)=false:=by
        cases hd:e==c with
        |false=>rfl
        |true=>exact absurd (by rw [List.head?_cons,beq_iff_eq.1 hd]) ht
       simp [this]
     ·simp only [ncB,q0,if_true,beq_self_eq_true]
end
def nq (c:UInt8):Bool:=c != 39&&c != 34
theorem ACb {c:UInt8}{p:Bool}{r:Bs}(hc:nq c=true)(h:ncB 0 p (c::r)=true):ncB 0 false r=true:=by
 simp only [nq,Bool.and_eq_true,bne_iff_ne] at hc;simp only [ncB,bne_self_eq_false,Bool.false_eq_true,if_false] at h;rw [if_neg (by simp [hc.1,hc.2])] at h;split at h
 ·simp only [Bool.and_eq_true] at h;exact ACc r h.2
 ·exact h
theorem QO:∀(w:Bs) {p:Bool} {s:Bs},w.all nq=true→ncB 0 p (w++s)=true→ncB 0 false s=true
 |[],_,_,_,h=>AOO h
 |c::w,p,s,hw,h=>by
  simp only [List.all_cons,Bool.and_eq_true] at hw;exact QO w hw.2 (ACb hw.1 h)
section
variable (bit:Nat→Bool)
theorem TZ (i:Nat)(c:UInt8)(r:Bs):∃c' r',BA bit i 0 (c::r)=c'::r'∧c'=(if (97≤c&&c≤122)&&bit i then c - 32 else c):=by
 have:=Kv bit i (c::r);cases h:BA bit i 0 (c::r) with
 |nil=>rw [h] at this;simp at this
 |cons c' r'=>
  rw [h] at this;simp only [List.head?_cons,Option.map_some,Option.some.injEq] at this;exact ⟨c',r',rfl,this⟩
theorem Yl (c:UInt8)(h:(97≤c&&c≤122)=true):FI (c - 32)=false∧c - 32≠45∧BC (c - 32)=false∧BP (c - 32)=true∧BP c=true∧c - 32≠61∧c - 32≠62∧c - 32≠124∧FI c=false:=by
 have k:=DX (p:=fun c=> !(97≤c&&c≤122)||(!FI (c - 32)&&(c - 32 != 45)&& !BC (c - 32)&&BP (c - 32)&&BP c&&(c - 32 != 61)&&(c - 32 != 62)&&(c - 32 != 124)&& !FI c)) (by decide+kernel) c;rw [h] at k;simp only [Bool.not_true,Bool.false_or,Bool.and_eq_true,Bool.not_eq_true',bne_iff_ne] at k;obtain ⟨⟨⟨⟨⟨⟨⟨⟨k1,k2⟩,k3⟩,k4⟩,k5⟩,k6⟩,k7⟩,k8⟩,k9⟩:=k;exact ⟨k1,k2,k3,k4,k5,k6,k7,k8,k9⟩
theorem ALS (c:UInt8)(h:FI c=true):nq c=true∧(97≤c&&c≤122)=false∧c≠45:=by
 have k:=DX (p:=fun c=> !(FI c)||(nq c&& !(97≤c&&c≤122)&&c != 45)) (by decide+kernel) c;rw [h] at k;simp only [Bool.not_true,Bool.false_or,Bool.and_eq_true,Bool.not_eq_true',bne_iff_ne] at k;exact ⟨k.1.1,k.1.2,k.2⟩
theorem AAn (i:Nat)(s:Bs)(d:UInt8)(hd:d=45∨d=61∨d=62∨d=124):((BA bit i 0 s).head? =some d)=(s.head? =some d):=by
 rw [Kv];cases s with
 |nil=>rfl
 |cons c r=>
  simp only [List.head?_cons,Option.map_some,Option.some.injEq];by_cases hc:((97≤c&&c≤122)&&bit i)=true
  ·rw [if_pos hc];simp only [Bool.and_eq_true] at hc;obtain ⟨k1,k2,k3,k4,k5,k6,k7,k8,k9⟩:=Yl c (by simpa only [Bool.and_eq_true] using hc.1);have hne:c≠d:=by
    rintro rfl;rcases hd with rfl|rfl|rfl|rfl <;> exact absurd hc.1 (by decide)
   have hne2:c - 32≠d:=by rcases hd with rfl|rfl|rfl|rfl <;> assumption
   simp [hne,hne2]
  ·rw [if_neg hc]
theorem Ny:∀(s:Bs) (i:Nat),ncB 0 false s=true→(∃j,BJ false (BA bit i 0 s)=BA bit j 0 (BJ false s))∧ncB 0 false (BJ false s)=true
 |[],i,_=>⟨⟨i,rfl⟩,rfl⟩
 |c::r,i,h=>by
  by_cases hb:FI c=true
  ·obtain ⟨b1,b2,b3⟩:=ALS c hb;obtain ⟨⟨j,hj⟩,hn⟩:=Ny r (i+1) (ACb b1 h);have e:BJ false (c::r)=BJ false r:=by simp [BJ,hb]
   rw [e];refine ⟨⟨j,?_⟩,hn⟩;rw [←hj];simp only [nq,Bool.and_eq_true,bne_iff_ne] at b1;simp only [BA,bne_self_eq_false,Bool.false_eq_true,if_false];rw [if_neg (by simp [b1.1,b1.2]),b2];simp only [Bool.false_and,Bool.false_eq_true,if_false];split
   ·rename_i hc
    simp only [Bool.and_eq_true,beq_iff_eq] at hc;rw [hc.1];exact AFH _
   ·simp [BJ,hb]
  ·have hb:FI c=false:=by simpa using hb
   have hr:¬(c=45∧r.head? =some 45):=by
    rintro ⟨rfl,hr⟩;cases r with
    |nil=>cases hr
    |cons d r=>
     simp only [List.head?_cons,Option.some.injEq] at hr;subst hr;simp [ncB] at h
   have e:BJ false (c::r)=c::r:=by
    simp only [BJ,hb,Bool.false_eq_true,if_false];rw [if_neg (by simpa using hr)]
   rw [e];refine ⟨⟨i,?_⟩,h⟩;by_cases h45:c=45
   ·subst h45;have ht:BA bit i 0 (45::r)=45::BA bit (i+1) 0 r:=by simp [BA]
    rw [ht];have hh:(BA bit (i+1) 0 r).head? ≠some 45:=by
     rw [ne_eq,AAn bit (i+1) r 45 (.inl rfl)];exact fun hx=>hr ⟨rfl,hx⟩
    simp only [BJ];rw [if_neg (by decide),if_neg (by simpa using hh)]
   ·obtain ⟨c',r',h1,h2⟩:=TZ bit i c r;rw [h1];have hc':FI c'=false∧c'≠45:=by
     rw [h2];split
     ·rename_i hc
      simp only [Bool.and_eq_true] at hc;have:=Yl c (by simpa only [Bool.and_eq_true] using hc.1);exact ⟨this.1,this.2.1⟩
     ·exact ⟨hb,h45⟩
    exact AJv hc'.1 hc'.2
theorem ARD:∀w:Bs,w.all wc=true→w.all nq=true:=by
 intro w h;rw [List.all_eq_true] at h ⊢;intro c hc;have k:=DX (p:=fun c=> !(wc c)||nq c) (by decide+kernel) c;simpa [h c hc] using k
theorem AOg:∀w:Bs,w.all BC=true→w.all (fun c=> !(97≤c&&c≤122)&&c != 39&&c != 34&&c != 32)=true∧w.all nq=true:=by
 intro w h;rw [List.all_eq_true] at h;constructor
 ·rw [List.all_eq_true];intro c hc;have k:=DX (p:=fun c=> !(BC c)||(!(97≤c&&c≤122)&&c != 39&&c != 34&&c != 32)) (by decide+kernel) c;rw [h c hc] at k;simpa using k
 ·rw [List.all_eq_true];intro c hc;have k:=DX (p:=fun c=> !(BC c)||nq c) (by decide+kernel) c;simpa [h c hc] using k
theorem AAw:∀x∈signsL,x.all (fun c=> !(97≤c&&c≤122)&&c != 39&&c != 34&&c != 32)=true∧x.all nq=true∧x≠[]∧x.length≤2∧∀d∈x.tail,d=45∨d=61∨d=62∨d=124:=by decide+kernel
theorem AFR {x s s':Bs}(hx:x≠[])(hs:∀d,(d=45∨d=61∨d=62∨d=124)→((s'.head? =some d)=(s.head? =some d))):Gy (x++s')=Gy (x++s):=by
 refine find_congr fun y hy=>?_;obtain ⟨_,_,y0,y2,yd⟩:=AAw y hy;match y,x,y0,hx,y2,yd with
 |[b],a::x,_,_,_,_=>simp [List.isPrefixOf]
 |[b,d],[a],_,_,_,yd=>
  have h1:∀t:Bs,[b,d].isPrefixOf ([a]++t)=(b==a&&(t.head? ==some d)):=by
   intro t;cases t with
   |nil=>simp [List.isPrefixOf]
   |cons e t=>
    simp only [List.cons_append,List.nil_append,List.isPrefixOf,Bool.and_true,List.head?_cons];congr 1
    rw [Bool.eq_iff_iff];simp only [beq_iff_eq,Option.some.injEq];exact ⟨fun h=>h.symm,fun h=>h.symm⟩
  rw [h1,h1];congr 1
  rw [Bool.eq_iff_iff];simp only [beq_iff_eq];rw [hs d (yd d (by simp))]
 |[b,d],a::e::x,_,_,_,_=>simp [List.isPrefixOf]
 |_::_::_::_,_,_,_,h,_=>exact absurd h (by simp)
theorem We (i:Nat)(s:Bs):(BA bit i 0 s).head?.any BP=s.head?.any BP∧(BA bit i 0 s).head?.any BC=s.head?.any BC:=by
 rw [Kv];cases s with
 |nil=>exact ⟨rfl,rfl⟩
 |cons c r=>
  simp only [List.head?_cons,Option.map_some,Option.any_some];split
  ·rename_i hc
   simp only [Bool.and_eq_true] at hc;obtain ⟨_,_,k3,k4,k5,_⟩:=Yl c (by simpa only [Bool.and_eq_true] using hc.1);have k6:=DX (p:=fun c=> !(BP c)|| !BC c) (by decide+kernel) c;rw [k5] at k6;have k6:BC c=false:=by simpa using k6
   exact ⟨by rw [k4,k5],by rw [k3,k6]⟩
  ·exact ⟨rfl,rfl⟩
theorem dw_head {p:UInt8→Bool}:∀s:Bs,(s.dropWhile p).head?.any p=false
 |[]=>rfl
 |c::s=>by
  rw [List.dropWhile_cons];split
  ·exact dw_head s
  ·rename_i h;simpa using h
theorem AEv {i:Nat}{c:UInt8}{r r':Bs}{t:Tok}(hn:ncB 0 false (c::r)=true)(h:DJ 0 (c::r)= .tok t r'):(∃j,DJ 0 (BA bit i 0 (c::r))= .tok t (BA bit j 0 r'))∧ncB 0 false r'=true:=by
 simp only [DJ] at h;split at h
 ·rename_i h1
  have hw:(c::r).takeWhile wc++(c::r).dropWhile wc=c::r:=List.takeWhile_append_dropWhile;have ha:((c::r).takeWhile wc).all wc=true:=List.all_takeWhile;have hd:=dw_head (p:=wc) (c::r);have h0:((c::r).takeWhile wc).head?.any BP=true:=by simp [List.takeWhile_cons,wc,h1]
  change Gw (((c::r).takeWhile wc).map Dz) 0 ((c::r).dropWhile wc)=_ at h
  generalize (c::r).takeWhile wc=w at *;generalize (c::r).dropWhile wc=s at *;obtain ⟨w',j,g1,g2,g3,g4⟩:=WZ bit w s i ha;have hns:ncB 0 false s=true:=QO w (ARD w ha) (by rw [hw];exact hn);have hl:=g4 h0;have hd2:(BA bit j 0 s).head?.any wc=false:=by
   have:=We bit j s;have e:∀x:Bs,x.head?.any wc=(x.head?.any BP||x.head?.any BC):=by
    intro x;cases x <;> simp [wc]
   rw [e,this.1,this.2,←e];exact hd
  rw [hw] at g1;rw [g1];cases w' with
  |nil=>simp at hl
  |cons c' w'=>
   simp only [List.head?_cons,Option.any_some] at hl;obtain ⟨t1,t2⟩:=Ym g3 hd2;rw [List.cons_append] at t1 t2 ⊢;simp only [DJ,hl,if_true];change (∃j_1,Gw (((c'::(w'++BA bit j 0 s)).takeWhile wc).map Dz) 0 ((c'::(w'++BA bit j 0 s)).dropWhile wc)=_)∧_
   rw [t1,t2,g2];unfold Gw at h ⊢;split at h
   ·cases h
   ·rename_i h2
    rw [if_neg h2];simp only [LexR.tok.injEq] at h;obtain ⟨rfl,rfl⟩:=h;exact ⟨⟨j,rfl⟩,hns⟩
 rename_i h1
 split at h
 ·rename_i h2
  have hw:(c::r).takeWhile BC++(c::r).dropWhile BC=c::r:=List.takeWhile_append_dropWhile;have ha:((c::r).takeWhile BC).all BC=true:=List.all_takeWhile;have hd:=dw_head (p:=BC) (c::r);have h0:((c::r).takeWhile BC).head? =some c:=by simp [List.takeWhile_cons,h2]
  generalize (c::r).takeWhile BC=w at *;generalize (c::r).dropWhile BC=s at *;obtain ⟨d1,d2⟩:=AOg w ha;obtain ⟨j,g1⟩:=Nz bit w s i d1;have hns:ncB 0 false s=true:=QO w d2 (by rw [hw];exact hn);obtain ⟨tl,td⟩:=We bit j s;rw [hw] at g1;rw [g1];cases w with
  |nil=>simp at h0
  |cons c' w=>
   simp only [List.head?_cons,Option.some.injEq] at h0;subst h0;obtain ⟨t1,t2⟩:=Ym ha (td.trans hd);rw [List.cons_append] at t1 t2 ⊢;simp only [DJ,h2,if_true];rw [if_neg h1,t1,t2,tl];split at h
   ·cases h
   ·rename_i k hk
    split at h
    ·cases h
    ·rename_i h3
     rw [if_neg h3];simp only [LexR.tok.injEq] at h;obtain ⟨rfl,rfl⟩:=h;exact ⟨⟨j,rfl⟩,hns⟩
 rename_i h2
 split at h
 ·rename_i h3
  have hq:c=34∨c=39:=by simpa using h3
  cases hx:CQ c r with
  |none=>rw [hx] at h;cases h
  |some y=>
   obtain ⟨x,r2⟩:=y;rw [hx] at h;obtain ⟨pre,e1,e2,e3,e4,e5⟩:=OA bit c hq _ r x r2 (Nat.le_refl _) hx;have hq39:(c==39||c==34)=true:=by rcases hq with rfl|rfl <;> rfl
   have ht:BA bit i 0 (c::r)=c::BA bit (i+1) c r:=by
    simp only [BA,bne_self_eq_false,Bool.false_eq_true,if_false];rw [if_pos hq39]
   obtain ⟨j,hj⟩:=e2 (i+1);rw [ht,hj];have hq2:=e3 (BA bit j 0 r2) (AJk bit j hq e4);have hns:ncB 0 false r2=true:=by
    rw [←e5];simp only [ncB,bne_self_eq_false,Bool.false_eq_true,if_false] at hn;rw [if_pos hq39] at hn;exact hn
   simp only [DJ];rw [if_neg h1,if_neg h2,if_pos h3,hq2];simp only at h ⊢
   split at h
   ·rename_i h4
    rw [if_pos h4];split at h
    ·cases h
    ·rename_i h5
     rw [if_neg h5];simp only [LexR.tok.injEq] at h;obtain ⟨rfl,rfl⟩:=h;exact ⟨⟨j,rfl⟩,hns⟩
   ·rename_i h4
    rw [if_neg h4];simp only [LexR.tok.injEq] at h;obtain ⟨rfl,rfl⟩:=h;exact ⟨⟨j,rfl⟩,hns⟩
 rename_i h3
 cases hx:Gy (c::r) with
 |none=>rw [hx] at h;cases h
 |some x=>
  rw [hx] at h;simp only [LexR.tok.injEq] at h;obtain ⟨rfl,rfl⟩:=h;have hmem:x∈signsL:=List.mem_of_find?_eq_some hx;have hpre:x <+: c::r:=by
   have:=List.find?_some hx;exact List.isPrefixOf_iff_prefix.1 this
  obtain ⟨s,hs⟩:=hpre;obtain ⟨o1,o2,o3,o4,o5⟩:=AAw x hmem;have hdr:(c::r).drop x.length=s:=by rw [←hs];simp
  rw [hdr];have hns:ncB 0 false s=true:=QO x o2 (by rw [hs];exact hn);obtain ⟨j,g1⟩:=Nz bit x s i o1;have hsg:Gy (x++BA bit j 0 s)=some x:=by
   rw [AFR (s:=s) o3 (fun d hd=>AAn bit j s d hd),hs];exact hx
  rw [hs] at g1;rw [g1];cases x with
  |nil=>exact absurd rfl o3
  |cons c' x=>
   have hc:c'=c:=by
    have:=congrArg List.head? hs;simpa using this
   subst hc;rw [List.cons_append] at hsg ⊢;simp only [DJ];rw [if_neg h1,if_neg h2,if_neg h3,hsg];simp only [LexR.tok.injEq,true_and];exact ⟨⟨j,by simp⟩,hns⟩
theorem AJl {s:Bs}{l:List Tok}(h:Lx s l):ncB 0 false s=true→∀i,Lx (BA bit i 0 s) l:=by
 induction h with
 |nil h=>
  intro hn i;obtain ⟨⟨j,hj⟩,_⟩:=Ny bit _ i hn;exact .nil (by rw [hj,h];rfl)
 |cons h1 h2 h3 ih=>
  rename_i s r r' c t l
  intro hn i;obtain ⟨⟨j,hj⟩,hn2⟩:=Ny bit _ i hn;rw [h1] at hj hn2;obtain ⟨⟨j2,hj2⟩,hn3⟩:=AEv bit (i:=j) hn2 h2;obtain ⟨c',r2,e,_⟩:=TZ bit j c r;rw [e] at hj hj2;exact .cons hj hj2 (ih hn3 j2)
end
theorem AOT {s:Bs}{t0:List Tok}(h:Rt s= .toks t0):∃l p,Lx s l∧t0=p++[⟨6,s.length,[],0⟩]∧p.map Tok.st=l∧∀t∈p,t.kind≠6:=by
 obtain ⟨l,q,g1,g2,g3⟩:=AOU h;obtain ⟨p2,f2,k1,k2,_⟩:=AAp [] s.length (s.length+1) (s.length+3+1) [] s t0 (by omega) (by simp) (Nat.le_refl _) h (fun _ h=>nomatch h);have hqp:q=p2:=by
  rw [g2] at k1;exact (List.append_inj' k1 rfl).1
 exact ⟨l,q,g1,g2,g3,by rw [hqp];exact k2⟩
theorem WX {s:Bs}{l:List TStmt}(hn:ncB 0 false s=true)(h:readA s=(l,ok0))(bit:Nat→Bool):readA (BA bit 0 0 s)=(l,ok0):=by
 obtain ⟨t0,r,h1,h2⟩:=ADr h;obtain ⟨lx,p,g1,rfl,g3,g4⟩:=AOT h1;obtain ⟨p',k1,k2⟩:=(AJl bit g1 hn 0).lex;unfold readA;rw [k1];simp only
 obtain ⟨y,r',e1,e2⟩:=Yr _ (p'++[(⟨6,(BA bit 0 0 s).length,[],0⟩:Tok)]).length _ ((p'++[(⟨6,(BA bit 0 0 s).length,[],0⟩:Tok)]).length+1) _ (p'++[(⟨6,(BA bit 0 0 s).length,[],0⟩:Tok)]) ⟨p,p',_,_,rfl,rfl,g3.trans k2.symm,rfl,rfl,g4⟩ (Nat.le_refl _) (Nat.le_refl _) (Nat.le_succ _) (Nat.le_succ _) [] [] _ _ h2;rw [e2];simp only [List.nil_append] at e1 ⊢;rw [e1]
theorem Us {s:Bs}{l:List TStmt}(hn:ncB 0 false s=true)(h:Ci s=(l,ok0))(bit:Nat→Bool)(hl:(BA bit 0 0 s).length≤65536):Ci (BA bit 0 0 s)=(l,ok0):=by
 have hr:=(Xc h).1;have ht:=WX hn hr bit;unfold Ci at h ⊢;rw [if_neg (by omega),ht];split at h
 ·simp only [Prod.mk.injEq,ok0,Flt.mk.injEq] at h;exact absurd h.2.1 (by decide)
 rw [hr] at h;exact h
def Cl (s:Bs):Prop:=∀r,ncB 0 false (s++r)=ncB 0 false r
theorem Dj:Cl []:=fun _=>rfl
theorem AZ {a b:Bs}(ha:Cl a)(hb:Cl b):Cl (a++b):=fun r=>by rw [List.append_assoc,ha,hb]
theorem Aw:∀{s:Bs},s.all (fun c=>nq c&&c != 45)=true→Cl s
 |[],_=>Dj
 |c::s,h=>by
  simp only [List.all_cons,Bool.and_eq_true,nq,bne_iff_ne] at h;intro r;have:=Aw (s:=s) (by simpa [nq] using h.2) r;simp only [List.cons_append,ncB,bne_self_eq_false,Bool.false_eq_true,if_false];rw [if_neg (by simp [h.1.1.1,h.1.1.2]),if_neg (by simp [h.1.2])];exact this
theorem ACv (q:UInt8)(hq:q=34∨q=39):∀(x r:Bs),ncB q false ((x.flatMap fun c=>if c==q then [q,q] else [c])++q::r)=ncB 0 false r
 |[],r=>by rcases hq with rfl|rfl <;> simp [ncB]
 |c::x,r=>by
  have ih:=ACv q hq x r;by_cases hc:c=q
  ·subst hc;simp only [List.flatMap_cons,beq_self_eq_true,if_true,List.cons_append,List.nil_append];rw [←ih];rcases hq with rfl|rfl <;> simp [ncB]
  ·have:(c==q)=false:=by simpa using hc
   simp only [List.flatMap_cons,this,Bool.false_eq_true,if_false,List.cons_append,List.nil_append];rw [←ih];rcases hq with rfl|rfl <;> simp [ncB,this]
theorem AIU {q:UInt8}(hq:q=34∨q=39)(x:Bs):Cl (GK q x):=by
 intro r;have:=ACv q hq x r;simp only [GK,List.cons_append,List.append_assoc,List.nil_append];rw [←this];rcases hq with rfl|rfl <;> simp [ncB]
theorem XX {s:Bs}(h:Jd s=true):s.all (fun c=>nq c&&c != 45)=true:=by
 unfold Jd at h;simp only [Bool.and_eq_true] at h;have h:=h.2;rw [List.all_eq_true] at h ⊢;intro c hc;have k:=DX (p:=fun c=> !((BP c||BC c)&& !(65≤c&&c≤90))||(nq c&&c != 45)) (by decide+kernel) c;have h:=h c hc;rw [h] at k;simpa using k
theorem DT (s:Bs):Cl (nameB s):=by
 unfold nameB;split
 ·rename_i h;exact Aw (XX h)
 ·exact AIU (.inl rfl) s
theorem AAR:∀(f n:Nat) (acc:Bs),acc.all (fun c=>nq c&&c != 45)=true→(OY f n acc).all (fun c=>nq c&&c != 45)=true
 |0,_,acc,h=>h
 |f+1,n,acc,h=>by
  have d:∀m,m < 10→(nq (UInt8.ofNat (48+m))&&(UInt8.ofNat (48+m) != 45))=true:=by
   intro m hm;have:∀m:Fin 10,(nq (UInt8.ofNat (48+m.val))&&(UInt8.ofNat (48+m.val) != 45))=true:=by decide
   exact this ⟨m,hm⟩
  simp only [OY];split
  ·rename_i h10
   rw [List.all_cons,d n h10,h];rfl
  ·exact AAR f _ _ (by rw [List.all_cons,d _ (Nat.mod_lt _ (by omega)),h];rfl)
theorem AAa {n:Int}(h:0≤n):Cl (Jz true n):=by
 unfold Jz;rw [if_neg (by omega)];exact Aw (AAR _ _ _ rfl)
theorem AOq {v:TValue}(h:0≤v.fInt):Cl (Nw true v):=by
 unfold Nw;split
 ·exact Aw rfl
 split
 ·exact AIU (.inr rfl) _
 split
 ·split <;> exact Aw rfl
 ·exact AAa h
theorem YH:∀{l:List Bs},(∀x∈l,Cl x)→Cl (Ac l)
 |[],_=>Dj
 |[x],h=>h x (List.mem_cons_self ..)
 |x::y::l,h=>AZ (AZ (h x (List.mem_cons_self ..)) (Aw rfl)) (YH fun z hz=>h z (List.mem_cons_of_mem _ hz))
theorem Jq {α:Type}{f:α→Bs}{l:List α}(h:∀x∈l,Cl (f x)):Cl (Ac (l.map f)):=YH fun y hy=>by
 obtain ⟨x,hx,rfl⟩:=List.mem_map.1 hy;exact h x hx
theorem ACu {α:Type}{f:α→Bs}:∀{l:List α},(∀x∈l,Cl (f x))→Cl (l.flatMap f)
 |[],_=>Dj
 |x::l,h=>by
  rw [List.flatMap_cons];exact AZ (h x (List.mem_cons_self ..)) (ACu fun y hy=>h y (List.mem_cons_of_mem _ hy))
theorem ALI {s:Bs}(h:Cl s)(h0:s≠[])(h1:s.head? ≠some 45):Cl (45::s):=by
 intro r;rw [←h r];cases s with
 |nil=>exact absurd rfl h0
 |cons c s=>
  have hc:c≠45:=by simpa using h1
  simp [ncB,hc]
theorem AKB {k:Int}{s:Bs}{l:Int}(h:Eb k=some (s,l)):Cl ([32]++s++[32]):=by
 have a:∀t:Bs,(s=t)→Cl ([32]++t++[32])→Cl ([32]++s++[32]):=fun t h ht=>by rw [h];exact ht
 have d:Cl ([32]++[45]++[32]):=by intro r;simp [ncB]
 unfold Eb at h;by_cases h0:k=22;· subst h0;simp at h;exact a _ h.1.symm (Aw rfl)
 by_cases h1:k=21;· subst h1;simp at h;exact a _ h.1.symm (Aw rfl)
 by_cases h2:k=23;· subst h2;simp at h;exact a _ h.1.symm (Aw rfl)
 by_cases h3:k=15;· subst h3;simp at h;exact a _ h.1.symm (Aw rfl)
 by_cases h4:k=16;· subst h4;simp at h;exact a _ h.1.symm (Aw rfl)
 by_cases h5:k=17;· subst h5;simp at h;exact a _ h.1.symm (Aw rfl)
 by_cases h6:k=18;· subst h6;simp at h;exact a _ h.1.symm (Aw rfl)
 by_cases h7:k=19;· subst h7;simp at h;exact a _ h.1.symm (Aw rfl)
 by_cases h8:k=20;· subst h8;simp at h;exact a _ h.1.symm (Aw rfl)
 by_cases h9:k=9;· subst h9;simp at h;exact a _ h.1.symm (Aw rfl)
 by_cases h10:k=10;· subst h10;simp at h;exact a _ h.1.symm d
 by_cases h11:k=14;· subst h11;simp at h;exact a _ h.1.symm (Aw rfl)
 by_cases h12:k=11;· subst h12;simp at h;exact a _ h.1.symm (Aw rfl)
 by_cases h13:k=12;· subst h13;simp at h;exact a _ h.1.symm (Aw rfl)
 by_cases h14:k=13;· subst h14;simp at h;exact a _ h.1.symm (Aw rfl)
 simp [h0,h1,h2,h3,h4,h5,h6,h7,h8,h9,h10,h11,h12,h13,h14] at h
theorem Vm {s:Bs}(h:s.all (fun c=>nq c&&c != 45)=true):s.head? ≠some 45:=by
 cases s with
 |nil=>simp
 |cons c s=>
  simp only [List.all_cons,Bool.and_eq_true,bne_iff_ne] at h;simpa using h.1.2
theorem Vo (s:Bs):nameB s≠[]∧(nameB s).head? ≠some 45:=by
 unfold nameB;split
 ·rename_i h
  refine ⟨?_,Vm (XX h)⟩;rintro rfl;exact absurd h (by decide)
 ·simp [GK]
theorem AIN:∀(f n:Nat) (acc:Bs),(acc≠[]∨f≠0)→OY f n acc≠[]
 |0,n,acc,h=>by simpa [OY] using h
 |f+1,n,acc,_=>by
  simp only [OY];split
  ·simp
  ·exact AIN f _ _ (.inl (by simp))
theorem AEs {v:TValue}(h:0≤v.fInt):Nw true v≠[]∧(Nw true v).head? ≠some 45:=by
 unfold Nw;split
 ·exact ⟨by simp,by simp⟩
 split
 ·simp [GK]
 split
 ·split <;> simp
 ·unfold Jz;rw [if_neg (by omega)];exact ⟨AIN _ _ _ (.inr (by omega)),Vm (AAR _ _ _ rfl)⟩
theorem AQv {s:Bs}(h:isAgg s=true):s.all (fun c=>nq c&&c != 45)=true∧s≠[]:=by
 unfold isAgg at h;simp only [Bool.or_eq_true,beq_iff_eq] at h;rcases h with (((h|h)|h)|h)|h <;> subst h <;> exact ⟨rfl,by simp⟩
theorem AHk {k:Int}{s:Bs}{l:Int}(h:Eb k=some (s,l)):TS k < 8:=by
 have hl:l≤6:=by
  unfold Eb at h;by_cases h0:k=22;· subst h0;simp at h;omega
  by_cases h1:k=21;· subst h1;simp at h;omega
  by_cases h2:k=23;· subst h2;simp at h;omega
  by_cases h3:k=15;· subst h3;simp at h;omega
  by_cases h4:k=16;· subst h4;simp at h;omega
  by_cases h5:k=17;· subst h5;simp at h;omega
  by_cases h6:k=18;· subst h6;simp at h;omega
  by_cases h7:k=19;· subst h7;simp at h;omega
  by_cases h8:k=20;· subst h8;simp at h;omega
  by_cases h9:k=9;· subst h9;simp at h;omega
  by_cases h10:k=10;· subst h10;simp at h;omega
  by_cases h11:k=14;· subst h11;simp at h;omega
  by_cases h12:k=11;· subst h12;simp at h;omega
  by_cases h13:k=12;· subst h13;simp at h;omega
  by_cases h14:k=13;· subst h14;simp at h;omega
  simp [h0,h1,h2,h3,h4,h5,h6,h7,h8,h9,h10,h11,h12,h13,h14] at h
 unfold TS;split
 ·decide
 split
 ·decide
 split
 ·decide
 ·rw [h];simp only;omega
def Hd (s:Bs):Prop:=s≠[]∧s.head? ≠some 45
theorem Iu {a b:Bs}(h:Hd a):Hd (a++b):=by
 cases a with
 |nil=>exact absurd rfl h.1
 |cons c a=>exact ⟨by simp,by simpa using h.2⟩
theorem AHu {x:Ex}{arg:Nat→Int→Bs}(hi:0≤x.value.fInt)(hg:x.kind=28→isAgg x.name=true)(h:∀i l,Cl (arg i l)∧arg i l≠[]∧(7 < l→(arg i l).head? ≠some 45)):Cl (BB true x arg)∧BB true x arg≠[]∧(8≤TS x.kind→(BB true x arg).head? ≠some 45):=by
 have c:∀i l,Cl (arg i l):=fun i l=>(h i l).1;have n:∀i l,arg i l≠[]:=fun i l=>(h i l).2.1;have na:∀{a b:Bs},a≠[]→a++b≠[]:=fun ha hab=>ha (List.append_eq_nil_iff.1 hab).1;have k:∀{s:Bs},s.all (fun c=>nq c&&c != 45)=true→Cl s:=Aw;unfold BB;split
 ·rename_i s l hs
  refine ⟨?_,na (na (na (na (n _ _)))),fun hl=>by have:=AHk hs;omega⟩;have:=AZ (AZ (c 0 (if l=4 then 5 else l)) (AKB hs)) (c 1 (l+1));simpa only [List.append_assoc] using this
 by_cases k1:x.kind=1
 ·rw [if_pos k1];exact ⟨AOq hi,(AEs hi).1,fun _=>(AEs hi).2⟩
 rw [if_neg k1];by_cases k2:x.kind=2
 ·rw [if_pos k2];by_cases ht:x.table.isEmpty=true
  ·rw [if_pos ht];exact ⟨DT _,(Vo _).1,fun _=>(Vo _).2⟩
  ·rw [if_neg ht];have hh:Hd (nameB x.table++[46]++nameB x.name):=Iu (Iu (Vo x.table));exact ⟨AZ (AZ (DT _) (k rfl)) (DT _),hh.1,fun _=>hh.2⟩
 rw [if_neg k2];by_cases k4:x.kind=4
 ·rw [if_pos k4];refine ⟨?_,by simp,fun hl=>absurd hl (by rw [k4];decide)⟩;exact ALI (c 0 8) (n 0 8) ((h 0 8).2.2 (by decide))
 rw [if_neg k4];by_cases k5:x.kind=5
 ·rw [if_pos k5];exact ⟨AZ (k rfl) (c _ _),by simp,fun hl=>absurd hl (by rw [k5];decide)⟩
 rw [if_neg k5];by_cases k6:x.kind=6
 ·rw [if_pos k6];exact ⟨AZ (c _ _) (k rfl),na (n _ _),fun hl=>absurd hl (by rw [k6];decide)⟩
 rw [if_neg k6];by_cases k7:x.kind=7
 ·rw [if_pos k7];exact ⟨AZ (c _ _) (k rfl),na (n _ _),fun hl=>absurd hl (by rw [k7];decide)⟩
 rw [if_neg k7];by_cases k24:x.kind=24
 ·rw [if_pos k24];exact ⟨AZ (AZ (AZ (c _ _) (k rfl)) (Jq fun i _=>c _ _)) (k rfl),na (na (na (n _ _))),fun hl=>absurd hl (by rw [k24];decide)⟩
 rw [if_neg k24];by_cases k25:x.kind=25
 ·rw [if_pos k25];exact ⟨AZ (AZ (AZ (AZ (c _ _) (k rfl)) (c _ _)) (k rfl)) (c _ _),na (na (na (na (n _ _)))),fun hl=>absurd hl (by rw [k25];decide)⟩
 rw [if_neg k25];by_cases k8:x.kind=8
 ·rw [if_pos k8];exact ⟨AZ (AZ (k rfl) (c _ _)) (k rfl),by simp,fun _=>by simp⟩
 rw [if_neg k8];by_cases k27:x.kind=27
 ·rw [if_pos k27];exact ⟨AZ (AZ (k rfl) (Jq fun i _=>c _ _)) (k rfl),by simp,fun _=>by simp⟩
 rw [if_neg k27];by_cases k26:x.kind=26
 ·rw [if_pos k26];refine ⟨AZ (AZ (k rfl) (ACu fun i _=>AZ ?_ (c _ _))) (k rfl),by simp,fun _=>by simp⟩;split
  ·exact k rfl
  ·split <;> exact k rfl
 rw [if_neg k26];by_cases k28:x.kind=28
 ·rw [if_pos k28];obtain ⟨a1,a2⟩:=AQv (hg k28);have hh:Hd x.name:=⟨a2,Vm a1⟩;refine ⟨AZ (AZ (AZ (AZ (k a1) (k rfl)) ?_) ?_) (k rfl),(Iu (Iu (Iu (Iu hh)))).1,fun _=>(Iu (Iu (Iu (Iu hh)))).2⟩
  ·split <;> exact k rfl
  ·split
   ·exact k rfl
   ·exact c _ _
 ·rw [if_neg k28];exact ⟨k rfl,by simp,fun _=>by simp⟩
theorem ACq:∀(n:Nat) (x:Ex) (asked:Int),DD x≤n→gdE x→Cl (IJ true n x asked)∧IJ true n x asked≠[]∧(7 < asked→(IJ true n x asked).head? ≠some 45)
 |0,x,asked,hd,_=>by have:=FK x;omega
 |n+1,x,asked,hd,hg=>by
  have hdd:=Di x;have hgx:0≤x.value.fInt∧(x.kind=28→isAgg x.name=true)∧gdL x.args:=by
   cases x
   simp only [gdE] at hg;exact ⟨hg.1.1,fun h=>(hg.2.1 h).1,hg.2.2⟩
  have e:∃F:Nat→Int→Bs,IJ true (n+1) x asked=Xd (decide (TS x.kind < asked)) (BB true x F)∧∀i l,F i l=match x.args[i]? with|some y=>IJ true n y l|none=>[63]:=⟨_,rfl,fun _ _=>rfl⟩
  obtain ⟨F,e,hF⟩:=e;have hin:=AHu (x:=x) (arg:=F) hgx.1 hgx.2.1 (fun i l=>by
   rw [hF];cases hy:x.args[i]? with
   |none=>exact ⟨Aw rfl,by simp,fun _=>by simp⟩
   |some y=>
    have hm:=List.mem_of_getElem? hy;have:=Ee hm;exact ACq n y l (by omega) (ACm hgx.2.2 hm))
  rw [e];unfold Xd;split
  ·exact ⟨AZ (AZ (Aw rfl) hin.1) (Aw rfl),by simp,fun _=>by simp⟩
  ·rename_i hl
   refine ⟨hin.1,hin.2.1,fun ha=>hin.2.2 ?_⟩;have:¬TS x.kind < asked:=by simpa using hl
   omega
theorem ML {x:Ex}(h:gdE x)(asked:Int):Cl (exB true x asked):=(ACq _ x asked (Nat.le_refl _) h).1
theorem ACf {l:List Ex}(h:∀x∈l,gdE x):Cl (Ih true l):=Jq fun x hx=>ML (h x hx) 1
theorem LW {s:Bs}{x:Ex}(h:gdE x)(hs:s.all (fun c=>nq c&&c != 45)=true):Cl (DR true s x):=by
 unfold DR;split
 ·exact Dj
 ·exact AZ (Aw hs) (ML h 1)
theorem ANa (s:Bs):Cl (asB s):=by
 unfold asB;split
 ·exact Dj
 ·exact AZ (Aw rfl) (DT s)
theorem Cc {c:Prop}[Decidable c]{a b:Bs}(ha:Cl a)(hb:Cl b):Cl (if c then a else b):=by split <;> assumption
theorem AOr {c:Prop}[Decidable c]{a b:Bs}(ha:c→Cl a)(hb:¬c→Cl b):Cl (if c then a else b):=by
 split
 ·exact ha ‹_›
 ·exact hb ‹_›
theorem AAs:∀(l:List TSource) (i:Nat),(∀x∈l,gdE x.fOn)→Cl (Dp true i l)
 |[],_,_=>Dj
 |x::l,i,h=>by
  have he:=ML (h x (List.mem_cons_self ..)) 1;exact AZ (AZ (AZ (AZ (Cc (Aw rfl) (Cc (Aw rfl) (Cc (Aw rfl) (Aw rfl)))) (DT _)) (ANa _)) (Cc (AZ (Aw rfl) he) Dj)) (AAs l (i+1) fun y hy=>h y (List.mem_cons_of_mem _ hy))
theorem Rj (l:List Bs):Cl (EK l):=AZ (AZ (Aw rfl) (Jq fun x _=>DT x)) (Aw rfl)
theorem AHH {N:Nat}{q:TSelect}(h:GdQ N q):Cl (Iq true q):=by
 unfold Iq;refine AZ (AZ (AZ (AZ (AZ (AZ (AZ (AZ (AZ (Aw rfl) (Cc (Aw rfl) Dj)) (Jq fun x hx=>?_)) (AAs _ _ fun x hx=>(h.fr x hx).1)) (LW h.wh.1 rfl)) (Cc Dj (AZ (Aw rfl) (ACf fun x hx=>(h.gr x hx).1)))) (LW h.ha.1 rfl)) (Cc Dj (AZ (Aw rfl) (Jq fun x hx=>?_)))) (AOr (fun hl=>AZ (Aw rfl) (AAa hl)) fun _=>Dj)) (Cc Dj (AZ (Aw rfl) (AAa h.off.1)))
 ·exact AZ (Cc (Cc (Aw rfl) (AZ (DT _) (Aw rfl))) (ML (h.it x hx).1 1)) (ANa _)
 ·exact AZ (ML (h.od x hx).1 1) (Cc (Aw rfl) Dj)
theorem AKr {N:Nat}{s:TStmt}(h:GdS N s):Cl (BF true s):=by
 unfold BF;refine Cc (AHH h.q) (Cc ?_ (Cc ?_ (Cc ?_ (Cc ?_ (Cc ?_ (Cc ?_ (Cc ?_ (Cc (Aw rfl) (Cc (Aw rfl) (Cc (Aw rfl) (Aw rfl)))))))))))
 ·exact AZ (AZ (AZ (AZ (Aw rfl) (DT _)) (Cc Dj (AZ (Aw rfl) (Rj _)))) (Aw rfl)) (Jq fun x hx=>AZ (AZ (Aw rfl) (ACf fun y hy=>((h.rows x hx).1 y hy).1)) (Aw rfl))
 ·exact AZ (AZ (AZ (AZ (Aw rfl) (DT _)) (Aw rfl)) (Jq fun x hx=>AZ (AZ (DT _) (Aw rfl)) (ML (h.sets x hx).1 1))) (LW h.wh.1 rfl)
 ·exact AZ (AZ (Aw rfl) (DT _)) (LW h.wh.1 rfl)
 ·unfold JW;refine AZ (AZ (AZ (AZ (AZ (Aw rfl) (DT _)) (Aw rfl)) (Jq fun x hx=>?_)) (Cc Dj (AZ (Aw rfl) (Rj _)))) (Aw rfl);unfold PO;have ht:Cl (TY x.fType):=Cc (Aw rfl) (Cc (Aw rfl) (Cc (Aw rfl) (Aw rfl)));exact AZ (AZ (AZ (AZ (AZ (AZ (DT _) (Aw rfl)) ht) (Cc (Aw rfl) Dj)) (Cc (Aw rfl) Dj)) (Cc (Aw rfl) Dj)) (Cc Dj (AZ (Aw rfl) (ML (h.cols x hx).1.1 _)))
 ·exact AZ (AZ (AZ (AZ (AZ (AZ (AZ (Aw rfl) (Cc (Aw rfl) Dj)) (Aw rfl)) (DT _)) (Aw rfl)) (DT _)) (Aw rfl)) (Rj _)
 ·exact AZ (Aw rfl) (DT _)
 ·exact AZ (Aw rfl) (DT _)
theorem AKq {N:Nat}{s:TStmt}(h:GdS N s):ncB 0 false (BF true s)=true:=by
 have:=AKr h [];rw [List.append_nil] at this;rw [this];rfl
def Eg (how:Int)(i:Nat):Bool:=how % ((i:Int) % 7+2)==0
theorem WY {s:TStmt}(h:(Me s).2=0)(hn:(BF true s).length≤900000000)(bit:Nat→Bool)(hl:(BA bit 0 0 (BF true s)).length≤65536):Ci (BA bit 0 0 (BF true s))=([s],ok0):=by
 obtain ⟨e1,e2⟩:=AAx h;have h1:s∈(readA (BF true s)).1:=UT s (by rw [e2];exact List.mem_cons_self ..);exact Us (AKq (OE _ s h1)) e2 bit hl
theorem AKe {T:Nat}{I:Imm}{X L:LH}{v:Value}{l:Bs}(h:SlO T 1 X v (Lib.byteCells l) l.length)(hL:∀x∈X,x∈L):bsR v I L (.string ⟨l.toArray⟩):=by
 have hf:=h.form;rcases h.news (I:=I) hL with ⟨a,cap,rfl,hl,hn⟩|⟨b,off,cap,rfl,hl,hc⟩|⟨s,rfl,_⟩
 ·have:l=[]:=List.eq_nil_of_length_eq_zero hl;subst this;exact .inl ⟨a,cap,rfl,rfl⟩
 ·exact .inr ⟨b,off,_,cap,l,rfl,rfl,hc,rfl⟩
 ·obtain ⟨a,cap,hv⟩:=hf;cases hv
section
variable {ω:Om}{I:Imm}{L:LH}{K:Value→M}
theorem Yn {X:LH}{v:Value}{out:Bs}{bit:Bool}{q c:UInt8}{k:Nat}{Kn0:(Value×Value×Value×Unit)→M}(hX:SlO 5 1 X v (Lib.byteCells out) out.length)(hl:out.length≤9000000)(hk:k≤1000000)
  (hn:∀X' v' out',out'=out++(if q==0&&c==32&&bit then c::cmtL else [c])→SlO 5 1 X' v' (Lib.byteCells out') out'.length→Gh (Kn0 (v',.int .u8 (q.toNat:Nat),.int .i64 ((k+1:Nat):Int),())) I (X'++L)):
  Hz ω v (.int .u8 (q.toNat:Nat)) (.int .i64 (k:Nat)) (.int .u8 (c.toNat:Nat)) (.bool bit) (fun s=>Gh (Kn0 s)) (fun v=>Gh (K v)) I (X++L):=by
 have w1:IntKind.i64.wrap ((k:Int)+1)=(k:Int)+1:=wrap_i64 _ (by omega);unfold Hz;refine En rfl (by decide) rfl (fun X1 u hX1=>?_);refine DW (X:=X) rfl hX (hX1.news (fun x hx=>List.mem_append_left _ hx)) (fun u hu=>?_) (by omega) (by omega) (fun X2 v2 hX2=>?_)
 ·rw [List.mem_singleton.1 hu];rfl
 have hX2:SlO 5 1 X2 v2 (Lib.byteCells (out++[c])) (out++[c]).length:=by rw [Lib.byteCells_append,List.length_append];exact hX2
 have hq:((q.toNat:Int)==0)=(q==0):=by
  rw [Bool.eq_iff_iff,beq_iff_eq,beq_iff_eq,←UInt8.toNat_inj];first|(simp;done)|(simp;omega)
 have hc:((c.toNat:Int)==32)=(c==32):=by
  rw [Bool.eq_iff_iff,beq_iff_eq,beq_iff_eq,←UInt8.toNat_inj];first|(simp;done)|(simp;omega)
 have last:∀{X3:LH} {v3:Value} {o:Bs},o=out++(if q==0&&c==32&&bit then c::cmtL else [c])→SlO 5 1 X3 v3 (Lib.byteCells o) o.length→OC ω v3 (.int .u8 (q.toNat:Nat)) (.int .i64 (k:Nat)) (fun s=>Gh (Kn0 s)) (fun v=>Gh (K v)) I (X3++(X1++L)):=by
  intro X3 v3 o ho h3;unfold OC;try refine zqe ?_
  rw [w1];exact Gh.to (X3++L) (hn X3 v3 o ho h3)
 simp only [hq,hc,SSd,Nat.reduceAdd];refine Bc (fun g1=>?_) (fun g1=>?_)
 ·refine Bc (fun g2=>?_) (fun g2=>?_)
  ·refine AB (fun g3=>?_) (fun g3=>?_)
   ·unfold AGE;refine DW (X:=X2) (n:=1) (m:=cmtL.length) rfl hX2 (news:=Lib.byteCells cmtL) (.inr (.inr ⟨⟨cmtL.toArray⟩,rfl,rfl,rfl,rfl⟩)) (fun u hu=>?_) (by simp [cmtL];omega) (by simp [cmtL];omega) (fun X4 v4 hX4=>?_)
    ·obtain ⟨d,_,rfl⟩:=List.mem_map.1 hu;rfl
    have hX4:SlO 5 1 X4 v4 (Lib.byteCells (out++[c]++cmtL)) (out++[c]++cmtL).length:=by rw [Lib.byteCells_append,List.length_append];exact hX4
    exact last (by simp [g1,g2,g3]) hX4
   ·exact last (by simp [g1,g2,g3]) hX2
  ·exact last (by simp [g1,g2]) hX2
 ·exact last (by simp [g1]) hX2
theorem WW (t:Bs)(how:Int)(h0:0≤how)(hn:t.length≤1000000)(hk:K (.string ⟨(BA (Eg how) 0 0 t).toArray⟩) I L):CT ω 21 #[.string ⟨t.toArray⟩,.int .i64 how] K I L:=by
 refine ATT ?_;unfold ARy;refine loop (fun n st I' L'=>∃(k:Nat) (out:Bs) (q:UInt8) (v:Value) (X:LH),k+n=t.length∧st=(v,Value.int .u8 (q.toNat:Nat),Value.int .i64 (k:Nat),())∧I'=I∧L'=X++L∧SlO 5 1 X v (Lib.byteCells out) out.length∧out.length≤9 * k∧(q=0∨q=34∨q=39)∧out++BA (Eg how) k q (t.drop k)=BA (Eg how) 0 0 t) t.length ⟨0,[],0,.slice none 0 0,[],by omega,rfl,rfl,rfl,SlO.none _ _,by simp,.inl rfl,by simp⟩ ?_;rintro n st I' L' ⟨k,out,q,v,X,hq,rfl,rfl,rfl,hX,ho,hqq,he⟩;unfold AGF;simp only [Qx,SSd,Nat.reduceAdd];refine AB (fun hb=>?_) (fun hb=>?_)
 ·have hb:k < t.length:=by
   have:=of_decide_eq_true hb;omega
  have hc:t[k]? =some t[k]:=List.getElem?_eq_getElem hb;rw [List.drop_eq_getElem_cons hb] at he;generalize t[k]=c at hc he;have e1:AA .rem (.int .i64 (k:Nat)) (.int .i64 7)=some (.int .i64 ((k:Int) % 7)):=by
   rw [TG _ _ .i64 (by decide),Int.tmod_eq_emod_of_nonneg (by omega)]
  have e2:AA .add (.int .i64 ((k:Int) % 7)) (.int .i64 2)=some (.int .i64 ((k:Int) % 7+2)):=by
   rw [TI,wrap_i64 _ (by omega)]
  have e3:AA .rem (.int .i64 how) (.int .i64 ((k:Int) % 7+2))=some (.int .i64 (how % ((k:Int) % 7+2))):=by
   rw [TG _ _ .i64 (by omega),Int.tmod_eq_emod_of_nonneg h0]
  have eq:∀a b:UInt8,((a.toNat:Int)==(b.toNat:Int))=(a==b):=by
   intro a b;rw [Bool.eq_iff_iff,beq_iff_eq,beq_iff_eq,←UInt8.toNat_inj];omega
  have fin:∀(q' c':UInt8),(q'=0∨q'=34∨q'=39)→BA (Eg how) k q (c::t.drop (k+1))=(if q'==0&&c'==32&&Eg how k then c'::cmtL else [c'])++BA (Eg how) (k+1) q' (t.drop (k+1))→
    Hz ω v (.int .u8 (q'.toNat:Nat)) (.int .i64 (k:Nat)) (.int .u8 (c'.toNat:Nat)) (.bool (Eg how k)) (fun s=>Gh (fun I2 L2=>∃m',m' < n∧∃(k:Nat) (out:Bs) (q:UInt8) (v:Value) (X:LH),k+m'=t.length∧s=(v,Value.int .u8 (q.toNat:Nat),Value.int .i64 (k:Nat),())∧I2=I'∧L2=X++L∧SlO 5 1 X v (Lib.byteCells out) out.length∧out.length≤9 * k∧(q=0∨q=34∨q=39)∧out++BA (Eg how) k q (t.drop k)=BA (Eg how) 0 0 t)) (fun v=>Gh (K v)) I' (X++L):=by
   intro q' c' hq' hb';refine Yn hX (by omega) (by omega) (fun X' v' out' ho h'=>Gh.done ⟨n - 1,by omega,k+1,out',q',v',X',by omega,rfl,rfl,rfl,h',?_,hq',?_⟩)
   ·rw [ho,List.length_append];split
    ·simp [cmtL];omega
    ·simp;omega
   ·rw [ho,List.append_assoc,←hb',he]
  have q0:∀a:UInt8,((a.toNat:Int) != 0)=(a != 0):=fun a=>by
   have:=eq a 0;simp only [bne] at *;rw [show ((0:UInt8).toNat:Int)=0 from rfl] at this;rw [this]
  simp only [ixS t hc,e1,e2,e3,SSd,Nat.reduceAdd];simp only [q0,eq];refine AB (fun hq0=>?_) (fun hq0=>?_)
  ·refine AB (fun hcq=>?_) (fun hcq=>?_)
   ·have hcq:c=q:=by simpa using hcq
    refine fin 0 c (.inl rfl) ?_;subst hcq;simp only [BA,hq0,if_true,beq_self_eq_true];have h32:(c==32)=false:=by rcases hqq with rfl|rfl|rfl <;> rfl
    simp [h32]
   ·refine fin q c hqq ?_;have h0':(q==0)=false:=by simpa using hq0
    simp only [BA,hq0,hcq,if_true,h0',Bool.false_and,Bool.false_eq_true,if_false];rfl
  ·have hz:q=0:=by simpa using hq0
   subst hz;have h39:((c.toNat:Int)==39)=(c==39):=eq c 39;have h34:((c.toNat:Int)==34)=(c==34):=eq c 34;simp only [h39,h34];have quo:(c==39||c==34)=true→BA (Eg how) k 0 (c::t.drop (k+1))=(if c==0&&c==32&&Eg how k then c::cmtL else [c])++BA (Eg how) (k+1) c (t.drop (k+1)):=by
    intro hc1;have hcz:(c==0)=false:=by
     have:=DX (p:=fun c=> !(c==39||c==34)|| !(c==0)) (by decide+kernel) c;rw [hc1] at this;simpa using this
    simp only [BA,hc1,hcz,bne_self_eq_false,Bool.false_eq_true,if_false,if_true,Bool.false_and];rfl
   refine Bc (fun g1=>?_) (fun g1=>?_)
   ·refine AB (fun g2=>?_) (fun g2=>?_)
    ·exact fin c c (.inr (.inl (by simpa using g2))) (quo (by simp [g2]))
    ·have hnq:(c==39||c==34)=false:=by simp [g1,g2]
     unfold AGD;try refine zqe ?_
     have g97:decide (97≤(c.toNat:Int))=decide (97≤c):=by
      rw [decide_eq_decide,UInt8.le_iff_toNat_le];simp;omega
     have g122:decide ((c.toNat:Int)≤122)=decide (c≤122):=by
      rw [decide_eq_decide,UInt8.le_iff_toNat_le];simp;omega
     have no:(decide (97≤c)&&decide (c≤122)&&Eg how k)=false→BA (Eg how) k 0 (c::t.drop (k+1))=(if (0:UInt8)==0&&c==32&&Eg how k then c::cmtL else [c])++BA (Eg how) (k+1) 0 (t.drop (k+1)):=by
      intro h3;simp only [BA,hnq,h3,bne_self_eq_false,Bool.false_eq_true,if_false,beq_self_eq_true,Bool.true_and];split <;> rfl
     simp only [g97,g122];refine Bc (fun k1=>?_) (fun k1=>?_)
     ·refine Bc (fun k2=>?_) (fun k2=>?_)
      ·refine AB (fun k3=>?_) (fun k3=>?_)
       ·unfold AGC;have hu:AA .sub (.int .u8 (c.toNat:Nat)) (.int .u8 32)=some (.int .u8 ((c - 32).toNat:Nat)):=by
         have:=of_decide_eq_true k1;rw [UInt8.le_iff_toNat_le] at this;have h1:(97:Nat)≤c.toNat:=this;have h2:(c - 32).toNat=c.toNat - 32:=UInt8.toNat_sub_of_le _ _ (by rw [UInt8.le_iff_toNat_le];show 32≤c.toNat;omega);rw [TF,h2];have:=c.toNat_lt;have:IntKind.u8.wrap ((c.toNat:Int) - 32)=((c.toNat - 32:Nat):Int):=by
          rw [IntWalk.u8_in _ (by omega)];omega
         rw [this]
        simp only [hu,SSd,Nat.reduceAdd];refine fin 0 (c - 32) (.inl rfl) ?_;have h32:(c - 32==32)=false:=by
         have:=DX (p:=fun c=> !(decide (97≤c)&&decide (c≤122))|| !(c - 32==32)) (by decide+kernel) c;rw [k1,k2] at this;simpa using this
        simp only [BA,hnq,k1,k2,show Eg how k=true from k3,h32,bne_self_eq_false,Bool.false_eq_true,if_false,if_true,Bool.and_self,Bool.and_false,Bool.false_and];rfl
       ·exact fin 0 c (.inl rfl) (no (by rw [show Eg how k=false from k3];simp))
      ·exact fin 0 c (.inl rfl) (no (by rw [show decide (c≤122)=false from by simpa using k2];simp))
     ·exact fin 0 c (.inl rfl) (no (by rw [show decide (97≤c)=false from by simpa using k1];simp))
   ·exact fin c c (.inr (.inr (by simpa using g1))) (quo (by simp [g1]))
 ·have hb:¬k < t.length:=by
   have:=of_decide_eq_false hb;omega
  rw [List.drop_eq_nil_of_le (by omega),BA,List.append_nil] at he;unfold ABK;refine ⟨_,AKe hX (fun x hx=>List.mem_append_left _ hx),?_⟩;rw [he];exact Gh.to L (Gh.done hk)
end
theorem Xb {s:Bs}{l:List TStmt}(hl:l≠[])(h:Ci s=(l,ok0)):s.length≤65536:=by
 unfold Ci at h;split at h
 ·exact absurd (Prod.mk.inj h).1.symm hl
 ·omega
section
variable {ω:Om}{G I:Imm}{L F:LH}{K:Value→M}
theorem Yo (hG:Fg G)(hS:SpG G)(hGI:Ext G I){s:TStmt}{c:List Value}{how:Int}(hi:Rw s)(hm:Gu s≤1048576)(hc:TStmtV I s c)(hk:∀I',Ext I I'→K (.bool true) I' L):CT ω 8 #[.agg c.toArray,.int .i64 how] K I L:=by
 obtain ⟨hq,hp,hn⟩:=ALP hi hm;have hTok:=KE (JP (ω:=ω) hS);have hcl:=hc.len;refine AUD ?_;unfold sh8;refine Ad (fun bs=>?_);refine call (ZC hG hS hGI (fun I1 hI1=>?_));refine rdB hcl ?_;have hG1:=Ext.trans hGI hI1;refine call (UC hG hS hG1 hq (AKZ hn) hp (hc.mono hI1) hn (fun I2 hI2=>?_));have hI12:=Ext.trans hI1 hI2;simp only [Bool.not_true,SSd,Nat.reduceAdd];refine Bc (fun h=>?_) (fun h=>?_);rotate_left
 ·exact Gh.to L (Gh.done (hk I2 hI12))
 have h:(Me s).2=0:=by simpa using h
 refine AB (fun h0=>?_) (fun h0=>?_)
 ·exact Gh.to L (Gh.done (hk I2 hI12))
 have h0:0≤how:=by
  have:=of_decide_eq_false h0;omega
 obtain ⟨e1,e2⟩:=AAx h;rw [e1];have hlen:=Xb (by simp) e2;refine call (WW (BF true s) how h0 (by omega) ?_);simp only [Qx,SSd,Nat.reduceAdd];refine AB (fun hb=>?_) (fun hb=>?_)
 ·exact Gh.to L (Gh.done (hk I2 hI12))
 have hb:(BA (Eg how) 0 0 (BF true s)).length≤65536:=by
  have:=of_decide_eq_false hb;omega
 have e3:=WY h hn (Eg how) hb;refine call (MI hTok NY (BA (Eg how) 0 0 (BF true s)) (Ext.trans hGI hI12) (fun I3 a k hI3 hw=>?_));rw [e3] at hw ⊢;simp only [List.length_cons,List.length_nil,Nat.zero_add,show ok0.code=0 from rfl,show ((ok0.at':Int))=0 from rfl,SSd,Nat.reduceAdd];have hI13:=Ext.trans hI12 hI3;refine Ad (fun bf=>?_);refine stB rfl rfl (Au rfl) ?_;refine rdB hcl ?_;refine EP (R:=TStmtV) [s] [c] rfl rfl rfl (by simp [hcl]) (by simpa using hc.mono hI13) (fun hI h=>h.mono hI) (fun I4 a4 hI4 hw4=>Gh.done ?_);have hgd:∀x∈[s],GdS ((BF true s).length+1) x∧cS x≤1000000000:=by
  intro x hx;rw [List.mem_singleton.1 hx];have h1:s∈(readA (BF true s)).1:=UT s (by rw [e2];exact List.mem_cons_self ..);exact ⟨OE _ s h1,hq.cnt⟩
 refine call (ADs (l:=[s]) (N:=(BF true s).length+1) (by omega) (by simp) hgd (RL.mono (I:=I3) (fun _ _ h=>h.mono hI4) hw hI4 (fun _ h=>nomatch h)) (RL.mono (fun _ _ h=>h) hw4 (Ext.refl _) (fun _ h=>nomatch h)) ?_);try refine zqe ?_
 refine rdb ?_;simp only [show ((0:Int)==0)=true from rfl,SSd,Nat.reduceAdd];exact Gh.to L (Gh.done (hk I4 (Ext.trans hI13 hI4)))
end
theorem turned_walk {H:Type}{enc:TypeId×Value→H}{W:World}{base:Nat}{v0 v1:Value}{d0 d1:DataW H}(hL:laidMetH Tryz.prog Rows.sqlparseTurnedUptoRow.laid W)(o0:Value.okWide Tryz.prog W .any base 48 v0)(t0:Td enc Tryz.prog W 48 v0.cells.toList d0)(b0:Rows.uptoBulk d0≤1048576)
  (o1:Value.okWide Tryz.prog W .any base 3 v1) (t1:Td enc Tryz.prog W 3 v1.cells.toList d1) (b1:Rows.uptoBulk d1≤1048576) (ω:Om):
  CT ω 8 #[v0,v1] (fun v I' _=>v= .bool true∧Ext (DC W) I') (DC W) []:=by
 obtain ⟨s,c,rfl,h1,h2,h3⟩:=AEw o0 t0 b0;obtain ⟨n,rfl⟩:=WideShapes.okWide_int Tryz.underlying3 o1;exact Yo (XV hL) (Yv hL) (Ext.refl _) h2 h3 h1 (fun I' hI=>⟨rfl,hI⟩)
end Go.Proofs.YtkifgfanjcfedaaGreatDoor
