/- lemmas -/
import Derived.Test.YtkifgfanjcfedaaGreatDoorP7
import Derived.Test.YtkifgfanjcfedaaGreatDoorP8
import Derived.Test.YtkifgfanjcfedaaGreatDoorP2
import Derived.Test.YtkifgfanjcfedaaGreatDoorRows
import Derived.LaidSub
import Derived.MakeChecks
import Derived.Lib.LaidTab
set_option maxRecDepth 100000
set_option maxHeartbeats 40000000
set_option linter.unusedVariables false
set_option linter.unusedSimpArgs false
set_option linter.unusedSectionVars false
namespace Go.Proofs.YtkifgfanjcfedaaGreatDoor
open Go.SL
abbrev ARW (t:Tok):Value:=.agg #[.int .i64 t.kind,.string ⟨t.text.toArray⟩,.int .i64 t.num,.int .i64 (t.at':Nat)]
abbrev MG (k:Int)(x:Bs)(n:Int)(a:Nat):List Value:=[.int .i64 k,.string ⟨x.toArray⟩,.int .i64 n,.int .i64 (a:Nat)]
def AJg (s:Bs)(a:Nat)(K:Value→M)(I:Imm)(L:LH):Prop:=
 (∀t r,EE a (s.drop a)= .tok t r→∀(I':Imm) (a':Nat),Ext I I'→a < a'→a'≤s.length→s.drop a'=r→K (.tuple #[ARW t,.int .i64 a',.int .i64 0]) I' L)∧
 (∀e,EE a (s.drop a)= .bad e→∀(I':Imm) (t:Tok),Ext I I'→K (.tuple #[ARW t,.int .i64 0,.int .i64 e]) I' L)
structure Wh (p:UInt8→Bool)(s:Bs)(a e:Nat):Prop where
 le:a≤e
 ub:e≤s.length
 tk:(s.drop a).takeWhile p=(s.drop a).take (e - a)++(s.drop e).takeWhile p
 dr:(s.drop a).dropWhile p=(s.drop e).dropWhile p
theorem Wh.start {p:UInt8→Bool}{s:Bs}{a:Nat}(h:a≤s.length):Wh p s a a:=⟨zW _,h,by simp,rfl⟩
theorem Wh.next {p:UInt8→Bool}{s:Bs}{a e:Nat}{c:UInt8}(h:Wh p s a e)(hc:s[e]? =some c)(hp:p c=true):Wh p s a (e+1):=by
 have hlt:=(zY.1 hc).1;have hd:s.drop e=c::s.drop (e+1):=by
  rw [zaj hlt,(zY.1 hc).2]
 have hle:=h.le;refine ⟨by omega,hlt,?_,?_⟩
 ·rw [h.tk,hd,zbn hp];have:(s.drop a).take (e+1 - a)=(s.drop a).take (e - a)++[c]:=by
   rw [show e+1 - a=(e - a)+1 by omega,List.take_add_one,zaR,show a+(e - a)=e by omega,hc];rfl
  rw [this,zi];rfl
 ·rw [h.dr,hd,List.dropWhile_cons_of_pos hp]
theorem Wh.stop {p:UInt8→Bool}{s:Bs}{a e:Nat}(h:Wh p s a e)(hs:∀c,s[e]? =some c→p c=false):(s.drop a).takeWhile p=(s.drop a).take (e - a)∧(s.drop a).dropWhile p=s.drop e:=by
 rcases zbi h.ub with hlt|heq
 ·obtain ⟨c,hc,hd⟩:=Ff hlt;have hp:¬p c=true:=by rw [hs c hc];decide
  rw [h.tk,h.dr,hd,List.takeWhile_cons_of_neg hp,List.dropWhile_cons_of_neg hp,zao];exact ⟨rfl,rfl⟩
 ·have:s.drop e=[]:=zaa zo;rw [h.tk,h.dr,this];simp
section
variable {ω:Om}{I:Imm}{L:LH}{K:Value→M}
theorem WR (s:Bs){a e b1 bt:Nat}{c:UInt8}(hc:s[a]? =some c)(hl:Bq c=true)(hs:s.length≤900000000)(hW:Wh (λc=>Bq c||BI c) s a e)(hst:∀c,s[e]? =some c→(Bq c||BI c)=false)(hk:AJg s a K I L):
  Uu ω (.string ⟨s.toArray⟩) (.int .i64 a) (AL b1) (.int .i64 0) (.int .i64 0) (AL bt) (.int .i64 e) (λv=>Gh (K v)) I ((bt,.cells (MG 0 [] 0 a).toArray 74 (0,0))::(b1,.cells (MG 0 [] 0 0).toArray 74 (0,0))::L):=by
 obtain ⟨hok,hbad⟩:=hk;obtain ⟨ht,hr⟩:=hW.stop hst;have ha:=(zY.1 hc).1;have hd:s.drop a=c::s.drop (a+1):=by
  rw [zaj ha,(zY.1 hc).2]
 have hlt:=MF (p:=λc=>Bq c||BI c) hd (by rw [show Bq c=true from hl];rfl) hW.le hr.symm;have hone:EE a (s.drop a)=JU (((s.drop a).take (e - a)).map Di) a (s.drop e):=by
  rw [←ht,←hr,hd];simp only [EE];rw [if_pos hl]
 unfold Uu;have hub:=hW.ub;simp only [slS s hW.le hub,SSd,Nat.reduceAdd];refine st1 rfl ?_;refine call (Xk _ zu ?_);generalize htx:(((s.drop a).take (e - a)).map Di)=tx at hone ⊢;repeat' (first|(with_reducible refine keepA ?_)|refine zqa ?_|refine zqh (λ_=>?_)|(with_reducible refine call ?_;refine Wu (λI1 v1 hI1 hw1=>?_))|(with_reducible refine call ?_;refine Xl hw1 zx tx ?_)|refine zqr ?_|refine zqb ?_|refine zqi ?_ ?_|refine zqc ?_|refine zqg (λ_=>?_) (λ_=>?_)|refine zqe ?_|fail)
 all_goals (rename_i hcn;repeat' (first|(with_reducible refine keepA ?_)|refine zqa ?_|refine zqh (λ_=>?_)|refine zqr ?_|refine zqb ?_|(with_reducible first|refine Ap (sh34_4.eq_1 ..) ?_|refine Ap (sh34_6.eq_1 ..) ?_|refine And.intro ?_ ?_)|refine zqc ?_|refine zqg (λ_=>?_) (λ_=>?_)|refine zqe ?_|fail))
 all_goals (rename_i h63;simp only [decide_eq_true_eq,decide_eq_false_iff_not] at h63)
 all_goals first
  |exact zAE L (zAA (hbad 173 (by rw [hone];unfold JU;rw [if_pos zo]) I1 ⟨_,_,_,_⟩ hI1))
  |exact zAE L (zAA (hok ⟨2,a,tx,0⟩ _ (by rw [hone];unfold JU;rw [if_neg zo,hcn];rfl) I1 e hI1 hlt hub rfl))
  |exact zAE L (zAA (hok ⟨1,a,tx,0⟩ _ (by rw [hone];unfold JU;rw [if_neg zo,hcn];rfl) I1 e hI1 hlt hub rfl))
theorem AJp (s:Bs){a b1 bt:Nat}{c:UInt8}(hc:s[a]? =some c)(hl:Bq c=false)(hg:BI c=true)(hs:s.length≤900000000)(hk:AJg s a K I L):
  Ac ((.int .i64 0,.int .i64 0,.int .i64 a,()):Value×Value×Value×Unit) (λst Kn0=>Yk ω (.string ⟨s.toArray⟩) (AL b1) (AL bt) st.1 st.2.1 st.2.2.1 Kn0 (λv=>Gh (K v))) I ((bt,.cells (MG 3 [] 0 a).toArray 74 (0,0))::(b1,.cells (MG 0 [] 0 0).toArray 74 (0,0))::L):=by
 obtain ⟨hok,hbad⟩:=hk;have ha:=(zY.1 hc).1;have hd:s.drop a=c::s.drop (a+1):=by
  rw [zaj ha,(zY.1 hc).2]
 have hone:EE a (s.drop a)=match Ic ((s.drop a).takeWhile BI) 0 with
  |none=>.bad 172
  |some k=>if ((s.drop a).dropWhile BI).head?.any Bq then .bad 172 else .tok ⟨3,a,[],k⟩ ((s.drop a).dropWhile BI):=by
  rw [hd];simp only [EE];rw [if_neg (by rw [hl];decide),if_pos hg];cases Ic (List.takeWhile BI (c::List.drop (a+1) s)) 0 <;> rfl
 refine loop (λm st I2 Lx=>∃(e:Nat) (n:Int),e+m=s.length∧I2=I∧st=(.int .i64 0,.int .i64 0,.int .i64 e,())∧Lx=(bt,Obj.cells (MG 3 [] n a).toArray 74 (0,0))::(b1,Obj.cells (MG 0 [] 0 0).toArray 74 (0,0))::L∧0≤n∧n≤9223372036854775807∧Wh BI s a e∧Ic ((s.drop a).takeWhile BI) 0=Ic ((s.drop e).takeWhile BI) n) (s.length - a)
  ⟨a,0,by omega,rfl,rfl,rfl,by omega,by omega,Wh.start (zaN ha),rfl⟩ ?_
 rintro m st I2 Lx ⟨e,n,hem,rfl,rfl,rfl,hn0,hn1,hW,hm⟩;unfold Yk;have fin:(∀c,s[e]? =some c→BI c=false)→Oy ω (.string ⟨s.toArray⟩) (AL b1) (.int .i64 0) (.int .i64 0) (AL bt) (.int .i64 e) (λv=>Gh (K v)) I2 ((bt,Obj.cells (MG 3 [] n a).toArray 74 (0,0))::(b1,Obj.cells (MG 0 [] 0 0).toArray 74 (0,0))::L):=by
  intro hst;obtain ⟨ht,hr⟩:=hW.stop hst;have hlt:=MF (p:=BI) hd hg hW.le hr.symm;have hnil:(s.drop e).takeWhile BI=[]:=by
   have:=hW.tk;rw [ht] at this;exact (List.self_eq_append_right.1 this)
  rw [hnil] at hm;have hm:Ic ((s.drop a).takeWhile BI) 0=some n:=hm;rw [hm,hr] at hone;simp only at hone
  unfold Oy;try refine zqe ?_
  refine BD (λhb=>?_) (λhb=>?_)
  ·have hb:e < s.length:=by
    have:=of_decide_eq_true hb;omega
   obtain ⟨c2,hc2,hd2⟩:=Ff hb;simp only [ixS s hc2,SSd,Nat.reduceAdd];refine call (JL c2 ?_);have hany:(s.drop e).head?.any Bq=Bq c2:=by rw [hd2];rfl
   rw [hany] at hone;refine AB (λhl2=>?_) (λhl2=>?_)
   ·repeat' (first|refine zqa ?_|refine zqh (λ_=>?_)|refine zqr ?_|refine zqb ?_|(with_reducible first|refine Ap (sh34_11.eq_1 ..) ?_|refine And.intro ?_ ?_)|refine zqc ?_|refine zqg (λ_=>?_) (λ_=>?_)|refine zqe ?_|fail)
    exact zAE L (zAA (hbad 172 (by rw [hone,if_pos hl2]) I2 ⟨3,a,[],n⟩ (zAC _)))
   ·repeat' (first|refine zqa ?_|refine zqh (λ_=>?_)|refine zqr ?_|refine zqb ?_|(with_reducible first|refine Ap (sh34_6.eq_1 ..) ?_|refine And.intro ?_ ?_)|refine zqc ?_|refine zqg (λ_=>?_) (λ_=>?_)|refine zqe ?_|fail)
    exact zAE L (zAA (hok ⟨3,a,[],n⟩ _ (by rw [hone,if_neg (by simpa using hl2)]) I2 e (zAC _) hlt hW.ub rfl))
  ·have hb:¬e < s.length:=by
    have hb:¬((e:Int) < s.length):=by simpa using hb
    omega
   have hany:(s.drop e).head?.any Bq=false:=by
    rw [zaa zo];rfl
   rw [hany] at hone;repeat' (first|refine zqa ?_|refine zqh (λ_=>?_)|refine zqr ?_|refine zqb ?_|(with_reducible first|refine Ap (sh34_6.eq_1 ..) ?_|refine And.intro ?_ ?_)|refine zqc ?_|refine zqg (λ_=>?_) (λ_=>?_)|refine zqe ?_|fail)
   exact zAE L (zAA (hok ⟨3,a,[],n⟩ _ (by rw [hone];rfl) I2 e (zAC _) hlt hW.ub rfl))
 try refine zqe ?_
 refine BD (λhb=>?_) (λhb=>?_);rotate_left
 ·have hb:¬e < s.length:=by
   have hb:¬((e:Int) < s.length):=by simpa using hb
   omega
  exact fin (λc hc=>absurd (zY.1 hc).1 hb)
 have hb:e < s.length:=by
  have:=of_decide_eq_true hb;omega
 obtain ⟨d,hdc,hdd⟩:=Ff hb;simp only [ixS s hdc,SSd,Nat.reduceAdd];refine call (KC d ?_);refine AB (λhdg=>?_) (λhdg=>?_);rotate_left
 ·refine fin (λc hc=>?_);rw [hdc] at hc;cases hc;simpa using hdg
 have hdg':=hdg;simp only [BI,zF,decide_eq_true_eq] at hdg';have g1:(48:Nat)≤d.toNat:=hdg'.1;have g2:d.toNat≤57:=hdg'.2;rw [hdd,zbn hdg] at hm;simp only [Ic] at hm;have e0:IntKind.i64.wrap (d.toNat:Int)=d.toNat:=wrap_i64 _ zo;have e2:IntKind.i64.wrap ((d.toNat:Int) - 48)=(d.toNat:Int) - 48:=wrap_i64 _ zo;have e3:IntKind.i64.wrap (9223372036854775807 - ((d.toNat:Int) - 48))=9223372036854775807 - ((d.toNat:Int) - 48):=wrap_i64 _ zo;have e4:AA .quo (.int .i64 (9223372036854775807 - ((d.toNat:Int) - 48))) (.int .i64 10)=some (.int .i64 ((9223372036854775807 - ((d.toNat:Int) - 48)) / 10)):=by
  rw [Xz _ _ .i64 zx,Int.tdiv_eq_ediv_of_nonneg zo,wrap_i64 _ zo]
 have e7:IntKind.i64.wrap ((e:Int)+1)=(e:Int)+1:=wrap_i64 _ zo;repeat' (first|refine zqa ?_|refine zqh (λ_=>?_)|refine zqr ?_|refine zqb ?_|refine zqi ?_ ?_|refine zqc ?_|refine zqg (λ_=>?_) (λ_=>?_)|(simp only [SSd,Nat.reduceAdd,ixS s hdc,e0,e2,e3,e4,e7]))
 ·rename_i hgt
  have hgt:=of_decide_eq_true hgt;rw [if_pos hgt] at hm;repeat' (first|refine zqa ?_|refine zqh (λ_=>?_)|refine zqr ?_|refine zqb ?_|(with_reducible first|refine Ap (sh34_8.eq_1 ..) ?_|refine And.intro ?_ ?_)|refine zqc ?_|refine zqg (λ_=>?_) (λ_=>?_)|refine zqe ?_|fail)
  exact zAE L (zAA (hbad 172 (by rw [hone,hm]) I2 ⟨3,a,[],n⟩ (zAC _)))
 ·rename_i hgt
  have hgt:=of_decide_eq_false hgt;rw [if_neg hgt] at hm;have hle:n≤(9223372036854775807 - ((d.toNat:Int) - 48)) / 10:=by omega
  have e5:IntKind.i64.wrap (10 * n)=10 * n:=wrap_i64 _ zo;have e6:IntKind.i64.wrap (10 * n+((d.toNat:Int) - 48))=10 * n+((d.toNat:Int) - 48):=wrap_i64 _ zo;simp only [e5,e6];exact zAA ⟨m - 1,by omega,e+1,10 * n+((d.toNat:Int) - 48),by omega,rfl,rfl,rfl,by omega,by omega,hW.next hdc hdg,hm⟩
theorem WS (s:Bs){a b1 bt:Nat}{c:UInt8}(hc:s[a]? =some c)(hl:Bq c=false)(hg:BI c=false)(hq:(c==34||c==39)=true)(hs:s.length≤900000000)(hk:AJg s a K I L):
  Ox ω (.string ⟨s.toArray⟩) (.int .i64 a) (AL b1) (.int .i64 0) (.int .i64 0) (.int .u8 c.toNat) (AL bt) (.int .i64 a) (λv=>Gh (K v)) I ((bt,.cells (MG 0 [] 0 a).toArray 74 (0,0))::(b1,.cells (MG 0 [] 0 0).toArray 74 (0,0))::L):=by
 obtain ⟨hok,hbad⟩:=hk;have ha:=(zY.1 hc).1;have hd:s.drop a=c::s.drop (a+1):=by
  rw [zaj ha,(zY.1 hc).2]
 have hone:EE a (s.drop a)=(match DZ c (s.drop (a+1)) with
   |none=>.bad 173
   |some (x,r')=>if c==34 then (if x.isEmpty||decide (63 < x.length) then .bad 173 else .tok ⟨1,a,x,0⟩ r') else .tok ⟨4,a,x,0⟩ r'):=by
  rw [hd];simp only [EE];rw [if_neg (by rw [hl];decide),if_neg (by rw [hg];decide),if_pos hq];cases DZ c (s.drop (a+1)) <;> rfl
 have e34:((c.toNat:Int)==34)=(c==34):=JV c 34;have hc0:c≠0:=by rintro rfl;simp at hq
 unfold Ox;refine call (Vs s hc0 hc hs (λhn=>?_) (λx r hy a' h1 h2 hdr=>?_))
 ·rw [hn] at hone;repeat' (first|refine zqa ?_|refine zqh (λ_=>?_)|refine zqr ?_|refine zqb ?_|(with_reducible first|refine Ap (sh34_13.eq_1 ..) ?_|refine And.intro ?_ ?_)|refine zqc ?_|refine zqg (λ_=>?_) (λ_=>?_)|refine zqe ?_|fail)
  exact zAE L (zAA (hbad 173 hone I ⟨0,a,[],0⟩ (zAC _)))
 ·rw [hy] at hone;simp only at hone
  have hx:x.isEmpty=decide ((x.length:Int) < 1):=by
   cases x with
   |nil=>rfl
   |cons y l=>simp only [zbo,zh];exact (decide_eq_false zo).symm
  have hx2:decide (63 < x.length)=decide ((63:Int) < x.length):=by rw [decide_eq_decide];omega
  rw [hx,hx2] at hone;repeat' (first|refine zqa ?_|refine zqh (λ_=>?_)|refine zqr ?_|refine zqb ?_|(with_reducible first|refine Ap (sh34_13.eq_1 ..) ?_|refine Ap (sh34_14.eq_1 ..) ?_|refine Ap (sh34_15.eq_1 ..) ?_|refine Ap (sh34_17.eq_1 ..) ?_|refine And.intro ?_ ?_)|refine zqc ?_|refine zqg (λ_=>?_) (λ_=>?_)|(simp only [SSd,Nat.reduceAdd,e34]))
  all_goals first
   |exact zAE L (zAA (hbad 173 (by rw [hone];simp_all;done) I ⟨0,a,[],0⟩ (zAC _)))
   |exact zAE L (zAA (hok ⟨1,a,x,0⟩ r (by rw [hone];simp_all;done) I a' (zAC _) h1 h2 hdr))
   |exact zAE L (zAA (hok ⟨4,a,x,0⟩ r (by rw [hone];simp_all;done) I a' (zAC _) h1 h2 hdr))
   |(exfalso;simp_all;done)
theorem AEz (s:Bs){a b1 bt:Nat}{c:UInt8}(hc:s[a]? =some c)(hl:Bq c=false)(hg:BI c=false)(hq:(c==34||c==39)=false)(hs:s.length≤900000000)(hk:AJg s a K I L):
  Uw ω (.string ⟨s.toArray⟩) (.int .i64 a) (AL b1) (.int .i64 0) (.int .i64 0) (AL bt) (.int .i64 a) (λv=>Gh (K v)) I ((bt,.cells (MG 0 [] 0 a).toArray 74 (0,0))::(b1,.cells (MG 0 [] 0 0).toArray 74 (0,0))::L):=by
 obtain ⟨hok,hbad⟩:=hk;have ha:=(zY.1 hc).1;have hd:s.drop a=c::s.drop (a+1):=by
  rw [zaj ha,(zY.1 hc).2]
 have hone:EE a (s.drop a)=(match IC (s.drop a) with
   |none=>.bad 171
   |some x=>.tok ⟨5,a,if x=[33,61] then [60,62] else x,0⟩ ((s.drop a).drop x.length)):=by
  rw [hd];simp only [EE];rw [if_neg (by rw [hl];decide),if_neg (by rw [hg];decide),if_neg (by rw [hq];decide)];cases IC (c::s.drop (a+1)) <;> rfl
 unfold Uw;refine call (AAC s (zaN ha) hs (λI1 hI1=>?_));cases hsg:IC (s.drop a) with
 |none=>
  rw [hsg] at hone;simp only [Option.getD_none,show (([]:Bs)==[])=true from rfl,SSd,Nat.reduceAdd];repeat' (first|refine zqa ?_|refine zqh (λ_=>?_)|refine zqr ?_|refine zqb ?_|refine zqi ?_ ?_|refine zqc ?_|refine zqg (λ_=>?_) (λ_=>?_)|refine zqe ?_|fail)
  exact zAE L (zAA (hbad 171 hone I1 ⟨0,a,[],0⟩ hI1))
 |some x=>
  rw [hsg] at hone;simp only at hone
  have hx:=List.find?_some hsg;have hmem:=List.mem_of_find?_eq_some hsg;have hpl:=(zaJ.1 hx).length_le;have hle:=QZ hmem;have hpos:0 < x.length:=by
   simp only [signsL,zZ,zaH,or_false] at hmem;rcases hmem with rfl|rfl|rfl|rfl|rfl|rfl|rfl|rfl|rfl|rfl|rfl|rfl|rfl|rfl|rfl|rfl|rfl|rfl <;> decide
  have hxne:(x==[])=false:=by
   cases x with
   |nil=>simp at hpos
   |cons y l=>rfl
  have hpl:a+x.length≤s.length:=by simp at hpl;omega
  have e1:IntKind.i64.wrap ((a:Int)+(x.length:Nat))=((a+x.length:Nat):Int):=by rw [wrap_i64 _ zo];rfl
  simp only [Option.getD_some,hxne,SSd,Nat.reduceAdd];repeat' (first|refine zqa ?_|refine zqh (λ_=>?_)|refine zqr ?_|refine zqb ?_|(with_reducible first|refine Ap (sh34_17.eq_1 ..) ?_|refine And.intro ?_ ?_)|refine zqc ?_|refine zqg (λ_=>?_) (λ_=>?_)|(simp only [SSd,Nat.reduceAdd,e1]))
  ·rename_i he
   have he:x=[33,61]:=by simpa using he
   exact zAE L (zAA (hok ⟨5,a,[60,62],0⟩ _ (by rw [hone,if_pos he]) I1 (a+x.length) hI1 zo hpl (by rw [zbr])))
  ·rename_i he
   have he:x≠[33,61]:=by simpa using he
   exact zAE L (zAA (hok ⟨5,a,x,0⟩ _ (by rw [hone,if_neg he]) I1 (a+x.length) hI1 zo hpl (by rw [zbr])))
theorem Nz (s:Bs){a:Nat}(ha:a < s.length)(hs:s.length≤900000000)(hk:AJg s a K I L):CT ω 34 #[.string ⟨s.toArray⟩,.int .i64 a] K I L:=by
 obtain ⟨c,hc,hd⟩:=Ff ha;refine AUS ?_;unfold AST;refine AQ (λb1=>?_);simp only [ixS s hc,SSd,Nat.reduceAdd];refine AQ (λbt=>?_);repeat' (first|refine zqa ?_|refine zqh (λ_=>?_)|refine zqr ?_|refine zqb ?_|refine zqi ?_ ?_|refine zqc ?_|refine zqg (λ_=>?_) (λ_=>?_)|refine zqe ?_|fail)
 refine call (JL c ?_);refine call (KC c ?_);refine AB (λhl=>?_) (λhl=>?_)
 ·refine loop (λm st I2 Lx=>∃e:Nat,e+m=s.length∧I2=I∧st=(.int .i64 e,())∧Lx=(bt,Obj.cells (MG 0 [] 0 a).toArray 74 (0,0))::(b1,Obj.cells (MG 0 [] 0 0).toArray 74 (0,0))::L∧Wh (λc=>Bq c||BI c) s a e) (s.length - a)
   ⟨a,by omega,rfl,rfl,rfl,Wh.start (zaN ha)⟩ ?_
  rintro m st I2 Lx ⟨e,hem,rfl,rfl,rfl,hW⟩;unfold AFy;try refine zqe ?_
  refine BD (λhb=>?_) (λhb=>?_);rotate_left
  ·have hb:¬e < s.length:=by
    have hb:¬((e:Int) < s.length):=by simpa using hb
    omega
   exact WR s hc hl hs hW (λc hc=>absurd (zY.1 hc).1 hb) hk
  have hb:e < s.length:=by
   have:=of_decide_eq_true hb;omega
  obtain ⟨d,hdc,hdd⟩:=Ff hb;simp only [ixS s hdc,SSd,Nat.reduceAdd];refine call (JL d ?_);refine BD (λh1=>?_) (λh1=>?_)
  ·refine call (KC d ?_);refine AB (λh2=>?_) (λh2=>?_)
   ·simp only [wrap_i64 ((e:Int)+1) zo,SSd,Nat.reduceAdd];exact zAA ⟨m - 1,by omega,e+1,by omega,rfl,rfl,rfl,hW.next hdc (by simp [h2])⟩
   ·exact WR s hc hl hs hW (λc hc=>by rw [hdc] at hc;cases hc;simp_all) hk
  ·simp only [wrap_i64 ((e:Int)+1) zo,SSd,Nat.reduceAdd];exact zAA ⟨m - 1,by omega,e+1,by omega,rfl,rfl,rfl,hW.next hdc (by simp_all)⟩
 have hl:Bq c=false:=by simpa using hl
 refine AB (λhg=>?_) (λhg=>?_)
 ·repeat' (first|refine zqa ?_|refine zqh (λ_=>?_)|refine zqr ?_|refine zqb ?_|refine zqi ?_ ?_|refine zqc ?_|refine zqg (λ_=>?_) (λ_=>?_)|refine zqe ?_|fail)
  exact AJp s hc hl hg hs hk
 have hg:BI c=false:=by simpa using hg
 have e34:((c.toNat:Int)==34)=(c==34):=JV c 34;have e39:((c.toNat:Int)==39)=(c==39):=JV c 39;simp only [e34,e39,SSd,Nat.reduceAdd];refine BD (λh1=>?_) (λh1=>?_)
 ·refine AB (λh2=>?_) (λh2=>?_)
  ·exact WS s hc hl hg (by simp [h2]) hs hk
  ·exact AEz s hc hl hg (by simp_all) hs hk
 ·exact WS s hc hl hg (by simp_all) hs hk
end
theorem LJ {n m:Nat}{acc:List Tok}{x y:Bs}(h:Bo false x=Bo false y):Dh n (m+1) acc x=Dh n (m+1) acc y:=by
 simp only [Dh,h]
section
variable {ω:Om}{I:Imm}{L:LH}{K:Value→M}
theorem Vq (s:Bs)(hs:s.length≤900000000)
  (hok:∀l,Vf s= .toks l→Toks l→l.length≤s.length+1→∀I' v,Ext I I'→TD I' v l→K (.tuple #[v,.agg #[.int .i64 0,.int .i64 0]]) I' L)
  (hbad:∀f,Vf s= .bad f→f.code≠0→∀I',Ext I I'→K (.tuple #[.slice none 0 0,.agg #[.int .i64 f.code,.int .i64 f.at']]) I' L):
  CT ω 22 #[.string ⟨s.toArray⟩] K I L:=by
 refine AUe ?_;unfold ASe;refine AQ (λbf=>?_);refine loop (λm st I2 Lx=>∃(X:LH) (v:Value) (cells:List Value) (acc:List Tok) (a f:Nat),a+m=s.length∧st=(.slice none 0 0,v,.int .i64 a,())∧Ext I I2∧Lx=X++((bf,Obj.cells [.int .i64 0,.int .i64 0].toArray 26 (0,0))::L)∧SlO 74 4 X v cells acc.length∧Recs (AAY I2) 4 acc cells∧(∀t∈acc,UN t)∧acc.length≤a∧s.length < a+f∧Vf s=Dh s.length f acc (s.drop a)) s.length
  ⟨[],_,[],[],0,s.length+1,by omega,rfl,zAC _,rfl,SlO.none _ _,rfl,(λt h=>by cases h),by simp,by omega,rfl⟩ ?_
 rintro m st I2 Lx ⟨X,v,cells,acc,a,f,ham,rfl,hI2,rfl,hX,hR,hTk,hal,hf,hlx⟩;obtain ⟨f,rfl⟩:∃q,f=q+1:=⟨f - 1,by omega⟩;unfold AGP;try refine zqe ?_
 refine AB (λhb=>?_) (λhb=>?_);rotate_left
 ·have hb:¬a < s.length:=by
   have hb:¬((a:Int) < s.length):=by simpa using hb
   omega
  rw [zaa zo] at hlx;have hlx:Vf s= .toks (acc++[⟨6,s.length,[],0⟩]):=hlx;unfold AAw;try refine zqe ?_
  refine CZ (X6:=X) (R:=AAY) (x:=⟨6,s.length,[],0⟩) rfl zx hX hR rfl rfl (AY rfl) zo zo (λX1 X6 w6 cells6 hX6 hR6=>?_);repeat' (first|refine zqa ?_|refine zqh (λ_=>?_)|refine zqr ?_|refine zqb ?_|refine zqi ?_ ?_|refine zqc ?_|refine zqg (λ_=>?_) (λ_=>?_)|refine zqe ?_|fail)
  refine zAE (X6++L) (RL.ofO (R:=AAY) (λh _=>h) hX6 hR6 (λI3 hI3 hw=>zAA ?_));exact hok _ hlx (Toks.snoc hTk rfl) zu I3 _ (zAB hI2 hI3) hw
 have hb:a < s.length:=by
  have:=of_decide_eq_true hb;omega
 obtain ⟨c,hc,hd⟩:=Ff hb;have e45:((c.toNat:Int)==45)=(c==45):=JV c 45;simp only [ixS s hc,SSd,Nat.reduceAdd];refine call (Xm c ?_);refine AB (λhbl=>?_) (λhbl=>?_)
 ·simp only [wrap_i64 ((a:Int)+1) zo,SSd,Nat.reduceAdd];refine zAA ⟨m - 1,by omega,X,v,cells,acc,a+1,f+1,by omega,rfl,hI2,rfl,hX,hR,hTk,by omega,by omega,?_⟩;rw [hlx,hd];exact LJ (by simp only [Bo,hbl,if_true])
 have hbl:NM c=false:=by simpa using hbl
 refine BD (λh1=>?_) (λh1=>?_);rotate_left
 ·have hcm:(c==45&&(s.drop (a+1)).head? ==some 45)=false:=by
   have:(c==45)=false:=by rw [←e45];simpa using h1
   rw [this];rfl
  have hsk:Bo false (s.drop a)=s.drop a:=by
   rw [hd];simp only [Bo];rw [if_neg (by rw [hbl];decide),if_neg (by rw [hcm];decide)]
  have ht:Dh s.length (f+1) acc (s.drop a)=match EE a (s.drop a) with
    | .bad e=>.bad ⟨e,(a:Nat)⟩
    | .tok t r'=>Dh s.length f (acc++[t]) r':=by
   have hlen:s.length - ((s.drop (a+1)).length+1)=a:=by rw [zar];omega
   simp only [Dh,hsk];rw [hd];simp only [hlen];cases EE a (c::s.drop (a+1)) <;> rfl
  refine call (Nz s hb hs ⟨λt r ho I3 a' hI3 h1 h2 hdr=>?_,λe ho I3 t hI3=>?_⟩)
  ·rw [ht,ho] at hlx;simp only at hlx
   have htk:=QF ho;try refine zqe ?_
   refine AQ (λb5=>?_);refine stB rfl rfl (AY rfl) ?_;simp only [show ((0:Int) != 0)=false from rfl,SSd,Nat.reduceAdd];refine rdB rfl ?_;refine CZ (X6:=X) (R:=AAY) (x:=t) rfl zx hX (hR.imp λ_ _ h=>h) rfl rfl (AY rfl) zo zo (λX1 X6 w6 cells6 hX6 hR6=>?_);exact zAE (X6++((bf,Obj.cells [.int .i64 0,.int .i64 0].toArray 26 (0,0))::L)) (zAA ⟨s.length - a',by omega,X6,w6,cells6,acc++[t],a',f,by omega,rfl,zAB hI2 hI3,rfl,hX6,hR6,(by
    intro u hu;rcases zal.1 hu with hu|hu
    ·exact hTk u hu
    ·rw [zX.1 hu];exact htk),by rw [zn,zV];omega,by omega,by rw [hlx,hdr]⟩)
  ·rw [ht,ho] at hlx;simp only at hlx
   have he:=FN ho;have he:(e != 0)=true:=by simpa using he
   try refine zqe ?_
   refine AQ (λb5=>?_);refine stB rfl rfl (AY rfl) ?_;simp only [he,SSd,Nat.reduceAdd];unfold Nc;repeat' (first|refine zqa ?_|refine zqh (λ_=>?_)|refine zqr ?_|refine zqb ?_|refine zqi ?_ ?_|refine zqc ?_|refine zqg (λ_=>?_) (λ_=>?_)|refine zqe ?_|fail)
   exact zAE L (zAA (hbad ⟨e,(a:Nat)⟩ hlx (FN ho) I3 (zAB hI2 hI3)))
 have h1:(c==45)=true:=by rw [←e45];exact h1
 have e1:IntKind.i64.wrap ((a:Int)+1)=((a+1:Nat):Int):=by rw [wrap_i64 _ zo];rfl
 simp only [e1];refine BD (λh2=>?_) (λh2=>?_);rotate_left
 ·have hcm:(c==45&&(s.drop (a+1)).head? ==some 45)=false:=by
   have hb2:¬a+1 < s.length:=by
    have:¬(((a+1:Nat):Int) < s.length):=by simpa using h2
    omega
   rw [zaa zo];simp
  have hsk:Bo false (s.drop a)=s.drop a:=by
   rw [hd];simp only [Bo];rw [if_neg (by rw [hbl];decide),if_neg (by rw [hcm];decide)]
  have ht:Dh s.length (f+1) acc (s.drop a)=match EE a (s.drop a) with
    | .bad e=>.bad ⟨e,(a:Nat)⟩
    | .tok t r'=>Dh s.length f (acc++[t]) r':=by
   have hlen:s.length - ((s.drop (a+1)).length+1)=a:=by rw [zar];omega
   simp only [Dh,hsk];rw [hd];simp only [hlen];cases EE a (c::s.drop (a+1)) <;> rfl
  refine call (Nz s hb hs ⟨λt r ho I3 a' hI3 h1 h2 hdr=>?_,λe ho I3 t hI3=>?_⟩)
  ·rw [ht,ho] at hlx;simp only at hlx
   have htk:=QF ho;try refine zqe ?_
   refine AQ (λb5=>?_);refine stB rfl rfl (AY rfl) ?_;simp only [show ((0:Int) != 0)=false from rfl,SSd,Nat.reduceAdd];refine rdB rfl ?_;refine CZ (X6:=X) (R:=AAY) (x:=t) rfl zx hX (hR.imp λ_ _ h=>h) rfl rfl (AY rfl) zo zo (λX1 X6 w6 cells6 hX6 hR6=>?_);exact zAE (X6++((bf,Obj.cells [.int .i64 0,.int .i64 0].toArray 26 (0,0))::L)) (zAA ⟨s.length - a',by omega,X6,w6,cells6,acc++[t],a',f,by omega,rfl,zAB hI2 hI3,rfl,hX6,hR6,(by
    intro u hu;rcases zal.1 hu with hu|hu
    ·exact hTk u hu
    ·rw [zX.1 hu];exact htk),by rw [zn,zV];omega,by omega,by rw [hlx,hdr]⟩)
  ·rw [ht,ho] at hlx;simp only at hlx
   have he:=FN ho;have he:(e != 0)=true:=by simpa using he
   try refine zqe ?_
   refine AQ (λb5=>?_);refine stB rfl rfl (AY rfl) ?_;simp only [he,SSd,Nat.reduceAdd];unfold Nc;repeat' (first|refine zqa ?_|refine zqh (λ_=>?_)|refine zqr ?_|refine zqb ?_|refine zqi ?_ ?_|refine zqc ?_|refine zqg (λ_=>?_) (λ_=>?_)|refine zqe ?_|fail)
   exact zAE L (zAA (hbad ⟨e,(a:Nat)⟩ hlx (FN ho) I3 (zAB hI2 hI3)))
 have hb2:a+1 < s.length:=by
  have:=of_decide_eq_true h2;omega
 obtain ⟨d,hdc,hdd⟩:=Ff hb2;have d45:((d.toNat:Int)==45)=(d==45):=JV d 45;simp only [ixS s hdc,d45,SSd,Nat.reduceAdd];refine AB (λh3=>?_) (λh3=>?_);rotate_left
 ·have hcm:(c==45&&(s.drop (a+1)).head? ==some 45)=false:=by
   rw [hdd];simp only [List.head?_cons,h1,Bool.true_and];simpa using h3
  have hsk:Bo false (s.drop a)=s.drop a:=by
   rw [hd];simp only [Bo];rw [if_neg (by rw [hbl];decide),if_neg (by rw [hcm];decide)]
  have ht:Dh s.length (f+1) acc (s.drop a)=match EE a (s.drop a) with
    | .bad e=>.bad ⟨e,(a:Nat)⟩
    | .tok t r'=>Dh s.length f (acc++[t]) r':=by
   have hlen:s.length - ((s.drop (a+1)).length+1)=a:=by rw [zar];omega
   simp only [Dh,hsk];rw [hd];simp only [hlen];cases EE a (c::s.drop (a+1)) <;> rfl
  refine call (Nz s hb hs ⟨λt r ho I3 a' hI3 h1 h2 hdr=>?_,λe ho I3 t hI3=>?_⟩)
  ·rw [ht,ho] at hlx;simp only at hlx
   have htk:=QF ho;try refine zqe ?_
   refine AQ (λb5=>?_);refine stB rfl rfl (AY rfl) ?_;simp only [show ((0:Int) != 0)=false from rfl,SSd,Nat.reduceAdd];refine rdB rfl ?_;refine CZ (X6:=X) (R:=AAY) (x:=t) rfl zx hX (hR.imp λ_ _ h=>h) rfl rfl (AY rfl) zo zo (λX1 X6 w6 cells6 hX6 hR6=>?_);exact zAE (X6++((bf,Obj.cells [.int .i64 0,.int .i64 0].toArray 26 (0,0))::L)) (zAA ⟨s.length - a',by omega,X6,w6,cells6,acc++[t],a',f,by omega,rfl,zAB hI2 hI3,rfl,hX6,hR6,(by
    intro u hu;rcases zal.1 hu with hu|hu
    ·exact hTk u hu
    ·rw [zX.1 hu];exact htk),by rw [zn,zV];omega,by omega,by rw [hlx,hdr]⟩)
  ·rw [ht,ho] at hlx;simp only at hlx
   have he:=FN ho;have he:(e != 0)=true:=by simpa using he
   try refine zqe ?_
   refine AQ (λb5=>?_);refine stB rfl rfl (AY rfl) ?_;simp only [he,SSd,Nat.reduceAdd];unfold Nc;repeat' (first|refine zqa ?_|refine zqh (λ_=>?_)|refine zqr ?_|refine zqb ?_|refine zqi ?_ ?_|refine zqc ?_|refine zqg (λ_=>?_) (λ_=>?_)|refine zqe ?_|fail)
   exact zAE L (zAA (hbad ⟨e,(a:Nat)⟩ hlx (FN ho) I3 (zAB hI2 hI3)))
 have hcm:(c==45&&(s.drop (a+1)).head? ==some 45)=true:=by
  rw [hdd];simp only [List.head?_cons,h1,Bool.true_and];simpa using h3
 have hc45:c=45:=by simpa using h1
 have hsk:Bo false (s.drop a)=Bo true (s.drop a):=by
  rw [hd];simp only [Bo];rw [if_neg (by rw [hbl];decide),if_pos hcm,if_neg (by rw [hc45];decide)]
 unfold AGO;refine loop (λm1 st1 I3 L3=>∃e:Nat,e+m1=s.length∧I3=I2∧st1=(.int .i64 e,())∧L3=X++((bf,Obj.cells [.int .i64 0,.int .i64 0].toArray 26 (0,0))::L)∧a≤e∧Bo false (s.drop a)=Bo true (s.drop e)) m
  ⟨a,ham,rfl,rfl,rfl,zW _,hsk⟩ ?_
 rintro m1 st1 I3 L3 ⟨e,hem,rfl,rfl,rfl,hae,hske⟩;unfold AGN;try refine zqe ?_
 refine BD (λh4=>?_) (λh4=>?_);rotate_left
 ·have h4:¬e < s.length:=by
   have:¬((e:Int) < s.length):=by simpa using h4
   omega
  refine zAA ⟨m1,by omega,X,v,cells,acc,e,f+1,by omega,rfl,hI2,rfl,hX,hR,hTk,by omega,by omega,hlx.trans (LJ ?_)⟩;rw [hske,zaa zo];rfl
 have h4:e < s.length:=by
  have:=of_decide_eq_true h4;omega
 obtain ⟨g,hgc,hgd⟩:=Ff h4;have g10:((g.toNat:Int) != 10)=(g != 10):=WP g 10;simp only [ixS s hgc,g10,SSd,Nat.reduceAdd];refine AB (λh5=>?_) (λh5=>?_)
 ·simp only [wrap_i64 ((e:Int)+1) zo,SSd,Nat.reduceAdd];refine zAA ⟨m1 - 1,by omega,e+1,by omega,rfl,rfl,rfl,by omega,?_⟩;have h5:(g==10)=false:=by simpa using h5
  rw [hske,hgd];simp only [Bo,h5,zt,if_false]
 ·have h5:g=10:=by simpa using h5
  have hne:a≠e:=by
   rintro rfl;rw [hc] at hgc;cases hgc;rw [hc45] at h5;exact absurd h5 zx
  refine zAA ⟨m1,by omega,X,v,cells,acc,e,f+1,by omega,rfl,hI2,rfl,hX,hR,hTk,by omega,by omega,hlx.trans (LJ ?_)⟩;rw [hske,hgd,h5];rfl
end
section
variable {ω:Om}
theorem OX:∀(m:Nat) (x:Ex),Af x≤m→∀(c:List Value) (K:Value→M) (I:Imm) (F:LH),ExV I x c→Af x≤1000000000000000000→K (.int .i64 (Af x:Nat)) I F→CT ω 39 #[.agg c.toArray] K I F
 |0,x,hm,_,_,_,_,_,_,_=>by have:=Fq x;omega
 |m+1,x,hm,c,K,I,F,hx,hpx,hk=>by
  refine AUN ?_;obtain ⟨v,rfl,ha⟩:=ExV.iff.1 hx;unfold ASO;refine AQ (λb=>?_);have h1:=La x;refine loop (λq s I' L'=>∃k:Nat,k+q=x.args.length∧s=(.int .i64 (1+AX (x.args.take k):Nat),.int .i64 k,())∧I'=I∧L'=(b,Obj.cells (Ag x v).toArray 37 (0,0))::F) x.args.length
   ⟨0,by omega,by simp [AX],rfl,rfl⟩ ?_
  rintro q s I' L' ⟨k,hkq,rfl,rfl,rfl⟩;unfold AFv;try refine zqe ?_
  refine rdb ?_;simp only [zAK ha,SSd,Nat.reduceAdd];have hle:x.args.length≤AX x.args:=by
   generalize x.args=l;induction l with
   |nil=>simp
   |cons y l ih=>have:=Fq y;simp only [AX,zh];omega
  refine AB (λhb=>?_) (λhb=>?_)
  ·have hb:k < x.args.length:=by
    have:=of_decide_eq_true hb;omega
   obtain ⟨bt,off,c1,g1,gl,g2,g3⟩:=zAR ha (i:=k) zo zo;rw [Am hb] at g2;have hm1:=Gq (zH hb);refine rdb ?_;simp only [g1,SSd,Nat.reduceAdd];refine Ep (g3 _ [] (zAC _) (λ_ h=>h)) (zAC _) (ExV.len g2) ?_;have htk:=Jk hb;have hts:AX (x.args.take (k+1))≤AX x.args:=by
    have h:=DD (x.args.take (k+1)) (x.args.drop (k+1));rw [zad] at h;omega
   refine call (OX m x.args[k] zo c1 _ _ _ g2 zo ?_);simp only [wrap_i64 ((k:Int)+1) zo,SSd,Nat.reduceAdd];have e:((1+AX (x.args.take k):Nat):Int)+(Af x.args[k]:Nat)=((1+AX (x.args.take (k+1)):Nat):Int):=by omega
   rw [e,wrap_i64 _ zo];exact zAA ⟨q - 1,by omega,k+1,by omega,rfl,rfl,rfl⟩
  ·have hb:¬k < x.args.length:=by
    have:=of_decide_eq_false hb;omega
   have hkl:x.args.take k=x.args:=zg zo;rw [hkl,show 1+AX x.args=Af x by omega];exact zAE F (zAA hk)
theorem Ro:∀(m:Nat) (x:Ex),Af x≤m→∀(c:List Value) (K:Value→M) (I:Imm) (F:LH),ExV I x c→Af x≤1000000000000000000→K (.int .i64 (DC x:Nat)) I F→CT ω 40 #[.agg c.toArray] K I F
 |0,x,hm,_,_,_,_,_,_,_=>by have:=Fq x;omega
 |m+1,x,hm,c,K,I,F,hx,hpx,hk=>by
  refine AUM ?_;obtain ⟨v,rfl,ha⟩:=ExV.iff.1 hx;unfold ASN;refine AQ (λb=>?_);have h1:=La x;have h2:=ED x;have h3:=JM x;refine loop (λq s I' L'=>∃k:Nat,k+q=x.args.length∧s=(.int .i64 (BU (x.args.take k):Nat),.int .i64 k,())∧I'=I∧L'=(b,Obj.cells (Ag x v).toArray 37 (0,0))::F) x.args.length
   ⟨0,by omega,by simp [BU],rfl,rfl⟩ ?_
  rintro q s I' L' ⟨k,hkq,rfl,rfl,rfl⟩;unfold AFu;try refine zqe ?_
  refine rdb ?_;simp only [zAK ha,SSd,Nat.reduceAdd];have hle:x.args.length≤AX x.args:=by
   generalize x.args=l;induction l with
   |nil=>simp
   |cons y l ih=>have:=Fq y;simp only [AX,zh];omega
  refine AB (λhb=>?_) (λhb=>?_)
  ·have hb:k < x.args.length:=by
    have:=of_decide_eq_true hb;omega
   obtain ⟨bt,off,c1,g1,gl,g2,g3⟩:=zAR ha (i:=k) zo zo;rw [Am hb] at g2;have hm1:=Gq (zH hb);refine rdb ?_;simp only [g1,SSd,Nat.reduceAdd];refine Ep (g3 _ [] (zAC _) (λ_ h=>h)) (zAC _) (ExV.len g2) ?_;have htd:=Ll hb;refine call (Ro m x.args[k] zo c1 _ _ _ g2 zo ?_);simp only [wrap_i64 ((k:Int)+1) zo,SSd,Nat.reduceAdd];have e:(if ((DC x.args[k]:Nat):Int) > (BU (x.args.take k):Nat) then ((DC x.args[k]:Nat):Int) else ((BU (x.args.take k):Nat):Int))=((BU (x.args.take (k+1)):Nat):Int):=by split <;> omega
   rw [e];exact zAA ⟨q - 1,by omega,k+1,by omega,rfl,rfl,rfl⟩
  ·have hb:¬k < x.args.length:=by
    have:=of_decide_eq_false hb;omega
   have hkl:x.args.take k=x.args:=zg zo;unfold AFt;rw [hkl];try refine zqe ?_
   have e:((BU x.args:Nat):Int)+1=((DC x:Nat):Int):=by omega
   rw [e,wrap_i64 _ zo];exact zAE F (zAA hk)
end
theorem Ik {I:Imm}{L:LH}{b off:Nat}(pre mid post:List Value)(h:Cells I L b off (pre++(mid++post))):Cells I L b (off+pre.length) mid:=λj u hu=>by
 have hj:=(zY.1 hu).1;have:=h (pre.length+j) u (by rw [List.getElem?_append_right zo,Nat.add_sub_cancel_left,List.getElem?_append_left hj];exact hu);rwa [←zbe] at this
section
variable {ω:Om}{K:Value→M}{I:Imm}{F:LH}
theorem ATP {X:LH}{bs:Nat}{l:List Value}{vs w:Value}{ys:List TItem}{xs:List Ex}[GetL l 2 vs](hy:RL TItemV 14 I [] vs ys)(hG:GL I X w xs)(hb:xs.length+ys.length≤1000000000000)
  (hk:∀I' X' w',Ext I I'→GL I' X' w' (xs++ys.map λy=>y.fExpr)→Yi ω (AL bs) (.slice none 0 0) w' K I' (X'++((bs,.cells l.toArray 48 (0,0))::F))):
  Ac ((w,.int .i64 0,()):Value×Value×Unit) (λs Kn=>Yj ω (AL bs) (.slice none 0 0) s.1 s.2.1 Kn K) I (X++((bs,.cells l.toArray 48 (0,0))::F)):=by
 refine loop (λq st I' L'=>∃k X' v',k+q=ys.length∧st=(v',.int .i64 (k:Nat),())∧Ext I I'∧GL I' X' v' (xs++(ys.take k).map λy=>y.fExpr)∧L'=X'++((bs,.cells l.toArray 48 (0,0))::F)) ys.length ⟨0,X,w,by omega,rfl,zAC _,by simpa using hG,rfl⟩ ?_;rintro q st I' L' ⟨k,X',v',hkq,rfl,hI',hG',rfl⟩;unfold Yj;try refine zqe ?_
 refine rdb ?_;simp only [zAK hy,SSd,Nat.reduceAdd];refine AB (λhb=>?_) (λhb=>?_)
 ·have hb:k < ys.length:=by
   have:=of_decide_eq_true hb;omega
  obtain ⟨bt,off,c1,g1,gl,g2,g3⟩:=zAR hy (i:=k) zo zo;rw [Am hb] at g2;obtain ⟨v0,rfl,h0⟩:=g2.mono hI';refine rdb ?_;simp only [g1,SSd,Nat.reduceAdd];have hsub:=Ik [_,_] (Ag ys[k].fExpr v0) [_] (g3 I' (X'++((bs,.cells l.toArray 48 (0,0))::F)) hI' (λ_ h=>by cases h));obtain ⟨a0,k0,rfl⟩:=zAF h0;refine ⟨_,⟨bt,off+2,_,rfl,rfl,hsub,rfl⟩,?_⟩;refine Ht (x:=ys[k].fExpr) (ExV.iff.2 ⟨_,rfl,h0⟩) (λI2 a2 hI2 hw2=>zAA ?_);refine DK (X:=X') rfl (hG'.mono hI2) hw2 zu (λX3 w3 hG3=>?_);simp only [wrap_i64 ((k:Int)+1) zo,SSd,Nat.reduceAdd];refine zAE (X3++((bs,.cells l.toArray 48 (0,0))::F)) (zAA ⟨q - 1,by omega,k+1,X3,w3,by omega,rfl,zAB hI' hI2,?_,rfl⟩);rw [zl hb,zab,←zi];exact hG3
 ·have hb:¬k < ys.length:=by
   have:=of_decide_eq_false hb;omega
  rw [zg zo] at hG';exact hk I' X' v' hI' hG'
theorem ATO {X:LH}{bs:Nat}{l:List Value}{vs w:Value}{ys:List TSource}{xs:List Ex}[GetL l 3 vs](hy:RL TSourceV 14 I [] vs ys)(hG:GL I X w xs)(hb:xs.length+ys.length≤1000000000000)
  (hk:∀I' X' w',Ext I I'→GL I' X' w' (xs++ys.map λy=>y.fOn)→Yg ω (AL bs) (.slice none 0 0) w' K I' (X'++((bs,.cells l.toArray 48 (0,0))::F))):
  Ac ((w,.int .i64 0,()):Value×Value×Unit) (λs Kn=>Yh ω (AL bs) (.slice none 0 0) s.1 s.2.1 Kn K) I (X++((bs,.cells l.toArray 48 (0,0))::F)):=by
 refine loop (λq st I' L'=>∃k X' v',k+q=ys.length∧st=(v',.int .i64 (k:Nat),())∧Ext I I'∧GL I' X' v' (xs++(ys.take k).map λy=>y.fOn)∧L'=X'++((bs,.cells l.toArray 48 (0,0))::F)) ys.length ⟨0,X,w,by omega,rfl,zAC _,by simpa using hG,rfl⟩ ?_;rintro q st I' L' ⟨k,X',v',hkq,rfl,hI',hG',rfl⟩;unfold Yh;try refine zqe ?_
 refine rdb ?_;simp only [zAK hy,SSd,Nat.reduceAdd];refine AB (λhb=>?_) (λhb=>?_)
 ·have hb:k < ys.length:=by
   have:=of_decide_eq_true hb;omega
  obtain ⟨bt,off,c1,g1,gl,g2,g3⟩:=zAR hy (i:=k) zo zo;rw [Am hb] at g2;obtain ⟨v0,rfl,h0⟩:=g2.mono hI';refine rdb ?_;simp only [g1,SSd,Nat.reduceAdd];have hsub:=Ik [_,_,_] (Ag ys[k].fOn v0) [] (g3 I' (X'++((bs,.cells l.toArray 48 (0,0))::F)) hI' (λ_ h=>by cases h));obtain ⟨a0,k0,rfl⟩:=zAF h0;refine ⟨_,⟨bt,off+3,_,rfl,rfl,hsub,rfl⟩,?_⟩;refine Ht (x:=ys[k].fOn) (ExV.iff.2 ⟨_,rfl,h0⟩) (λI2 a2 hI2 hw2=>zAA ?_);refine DK (X:=X') rfl (hG'.mono hI2) hw2 zu (λX3 w3 hG3=>?_);simp only [wrap_i64 ((k:Int)+1) zo,SSd,Nat.reduceAdd];refine zAE (X3++((bs,.cells l.toArray 48 (0,0))::F)) (zAA ⟨q - 1,by omega,k+1,X3,w3,by omega,rfl,zAB hI' hI2,?_,rfl⟩);rw [zl hb,zab,←zi];exact hG3
 ·have hb:¬k < ys.length:=by
   have:=of_decide_eq_false hb;omega
  rw [zg zo] at hG';exact hk I' X' v' hI' hG'
theorem ATN {X:LH}{bs:Nat}{l:List Value}{vs w:Value}{ys:List TOrder}{xs:List Ex}[GetL l 27 vs](hy:RL TOrderV 12 I [] vs ys)(hG:GL I X w xs)(hb:xs.length+ys.length≤1000000000000)
  (hk:∀I' X' w',Ext I I'→GL I' X' w' (xs++ys.map λy=>y.fExpr)→Ye ω (AL bs) (.slice none 0 0) w' K I' (X'++((bs,.cells l.toArray 48 (0,0))::F))):
  Ac ((w,.int .i64 0,()):Value×Value×Unit) (λs Kn=>Yf ω (AL bs) (.slice none 0 0) s.1 s.2.1 Kn K) I (X++((bs,.cells l.toArray 48 (0,0))::F)):=by
 refine loop (λq st I' L'=>∃k X' v',k+q=ys.length∧st=(v',.int .i64 (k:Nat),())∧Ext I I'∧GL I' X' v' (xs++(ys.take k).map λy=>y.fExpr)∧L'=X'++((bs,.cells l.toArray 48 (0,0))::F)) ys.length ⟨0,X,w,by omega,rfl,zAC _,by simpa using hG,rfl⟩ ?_;rintro q st I' L' ⟨k,X',v',hkq,rfl,hI',hG',rfl⟩;unfold Yf;try refine zqe ?_
 refine rdb ?_;simp only [zAK hy,SSd,Nat.reduceAdd];refine AB (λhb=>?_) (λhb=>?_)
 ·have hb:k < ys.length:=by
   have:=of_decide_eq_true hb;omega
  obtain ⟨bt,off,c1,g1,gl,g2,g3⟩:=zAR hy (i:=k) zo zo;rw [Am hb] at g2;obtain ⟨v0,rfl,h0⟩:=g2.mono hI';refine rdb ?_;simp only [g1,SSd,Nat.reduceAdd];have hsub:=Ik [] (Ag ys[k].fExpr v0) [_] (g3 I' (X'++((bs,.cells l.toArray 48 (0,0))::F)) hI' (λ_ h=>by cases h));obtain ⟨a0,k0,rfl⟩:=zAF h0;refine ⟨_,⟨bt,off+0,_,rfl,rfl,hsub,rfl⟩,?_⟩;refine Ht (x:=ys[k].fExpr) (ExV.iff.2 ⟨_,rfl,h0⟩) (λI2 a2 hI2 hw2=>zAA ?_);refine DK (X:=X') rfl (hG'.mono hI2) hw2 zu (λX3 w3 hG3=>?_);simp only [wrap_i64 ((k:Int)+1) zo,SSd,Nat.reduceAdd];refine zAE (X3++((bs,.cells l.toArray 48 (0,0))::F)) (zAA ⟨q - 1,by omega,k+1,X3,w3,by omega,rfl,zAB hI' hI2,?_,rfl⟩);rw [zl hb,zab,←zi];exact hG3
 ·have hb:¬k < ys.length:=by
   have:=of_decide_eq_false hb;omega
  rw [zg zo] at hG';exact hk I' X' v' hI' hG'
theorem AOY {X:LH}{bs:Nat}{l:List Value}{vs w:Value}{ys:List TSet}{xs:List Ex}[GetL l 33 vs](hy:RL TSetV 12 I [] vs ys)(hG:GL I X w xs)(hb:xs.length+ys.length≤1000000000000)
  (hk:∀I' X' w',Ext I I'→GL I' X' w' (xs++ys.map λy=>y.fExpr)→Uo ω (AL bs) (.slice none 0 0) w' K I' (X'++((bs,.cells l.toArray 48 (0,0))::F))):
  Ac ((w,.int .i64 0,()):Value×Value×Unit) (λs Kn=>Ur ω (AL bs) (.slice none 0 0) s.1 s.2.1 Kn K) I (X++((bs,.cells l.toArray 48 (0,0))::F)):=by
 refine loop (λq st I' L'=>∃k X' v',k+q=ys.length∧st=(v',.int .i64 (k:Nat),())∧Ext I I'∧GL I' X' v' (xs++(ys.take k).map λy=>y.fExpr)∧L'=X'++((bs,.cells l.toArray 48 (0,0))::F)) ys.length ⟨0,X,w,by omega,rfl,zAC _,by simpa using hG,rfl⟩ ?_;rintro q st I' L' ⟨k,X',v',hkq,rfl,hI',hG',rfl⟩;unfold Ur;try refine zqe ?_
 refine rdb ?_;simp only [zAK hy,SSd,Nat.reduceAdd];refine AB (λhb=>?_) (λhb=>?_)
 ·have hb:k < ys.length:=by
   have:=of_decide_eq_true hb;omega
  obtain ⟨bt,off,c1,g1,gl,g2,g3⟩:=zAR hy (i:=k) zo zo;rw [Am hb] at g2;obtain ⟨v0,rfl,h0⟩:=g2.mono hI';refine rdb ?_;simp only [g1,SSd,Nat.reduceAdd];have hsub:=Ik [_] (Ag ys[k].fExpr v0) [] (g3 I' (X'++((bs,.cells l.toArray 48 (0,0))::F)) hI' (λ_ h=>by cases h));obtain ⟨a0,k0,rfl⟩:=zAF h0;refine ⟨_,⟨bt,off+1,_,rfl,rfl,hsub,rfl⟩,?_⟩;refine Ht (x:=ys[k].fExpr) (ExV.iff.2 ⟨_,rfl,h0⟩) (λI2 a2 hI2 hw2=>zAA ?_);refine DK (X:=X') rfl (hG'.mono hI2) hw2 zu (λX3 w3 hG3=>?_);simp only [wrap_i64 ((k:Int)+1) zo,SSd,Nat.reduceAdd];refine zAE (X3++((bs,.cells l.toArray 48 (0,0))::F)) (zAA ⟨q - 1,by omega,k+1,X3,w3,by omega,rfl,zAB hI' hI2,?_,rfl⟩);rw [zl hb,zab,←zi];exact hG3
 ·have hb:¬k < ys.length:=by
   have:=of_decide_eq_false hb;omega
  rw [zg zo] at hG';exact hk I' X' v' hI' hG'
theorem AOX {X:LH}{bs:Nat}{l:List Value}{vs w:Value}{ys:List TCol}{xs:List Ex}[GetL l 45 vs](hy:RL TColV 16 I [] vs ys)(hG:GL I X w xs)(hb:xs.length+ys.length≤1000000000000)
  (hk:∀I' X' w',Ext I I'→GL I' X' w' (xs++ys.map λy=>y.fDefault)→Ov ω (.slice none 0 0) w' K I' (X'++((bs,.cells l.toArray 48 (0,0))::F))):
  Ac ((w,.int .i64 0,()):Value×Value×Unit) (λs Kn=>Un ω (AL bs) (.slice none 0 0) s.1 s.2.1 Kn K) I (X++((bs,.cells l.toArray 48 (0,0))::F)):=by
 refine loop (λq st I' L'=>∃k X' v',k+q=ys.length∧st=(v',.int .i64 (k:Nat),())∧Ext I I'∧GL I' X' v' (xs++(ys.take k).map λy=>y.fDefault)∧L'=X'++((bs,.cells l.toArray 48 (0,0))::F)) ys.length ⟨0,X,w,by omega,rfl,zAC _,by simpa using hG,rfl⟩ ?_;rintro q st I' L' ⟨k,X',v',hkq,rfl,hI',hG',rfl⟩;unfold Un;try refine zqe ?_
 refine rdb ?_;simp only [zAK hy,SSd,Nat.reduceAdd];refine AB (λhb=>?_) (λhb=>?_)
 ·have hb:k < ys.length:=by
   have:=of_decide_eq_true hb;omega
  obtain ⟨bt,off,c1,g1,gl,g2,g3⟩:=zAR hy (i:=k) zo zo;rw [Am hb] at g2;obtain ⟨v0,rfl,h0⟩:=g2.mono hI';refine rdb ?_;simp only [g1,SSd,Nat.reduceAdd];have hsub:=Ik [_,_,_,_,_] (Ag ys[k].fDefault v0) [] (g3 I' (X'++((bs,.cells l.toArray 48 (0,0))::F)) hI' (λ_ h=>by cases h));obtain ⟨a0,k0,rfl⟩:=zAF h0;refine ⟨_,⟨bt,off+5,_,rfl,rfl,hsub,rfl⟩,?_⟩;refine Ht (x:=ys[k].fDefault) (ExV.iff.2 ⟨_,rfl,h0⟩) (λI2 a2 hI2 hw2=>zAA ?_);refine DK (X:=X') rfl (hG'.mono hI2) hw2 zu (λX3 w3 hG3=>?_);simp only [wrap_i64 ((k:Int)+1) zo,SSd,Nat.reduceAdd];refine zAE (X3++((bs,.cells l.toArray 48 (0,0))::F)) (zAA ⟨q - 1,by omega,k+1,X3,w3,by omega,rfl,zAB hI' hI2,?_,rfl⟩);rw [zl hb,zab,←zi];exact hG3
 ·have hb:¬k < ys.length:=by
   have:=of_decide_eq_false hb;omega
  rw [zg zo] at hG';exact hk I' X' v' hI' hG'
theorem AOZ {X:LH}{bs:Nat}{l:List Value}{vs w:Value}{ys:List (List Ex)}{xs:List Ex}[GetL l 32 vs](hy:RL (FX ExV 11) 1 I [] vs ys)(hyl:ys.length≤1000000000000)(hG:GL I X w xs)(hb:xs.length+ys.flatten.length≤1000000000000)
  (hk:∀I' X' w',Ext I I'→GL I' X' w' (xs++ys.flatten)→Us ω (AL bs) (.slice none 0 0) w' K I' (X'++((bs,.cells l.toArray 48 (0,0))::F))):
  Ac ((w,.int .i64 0,()):Value×Value×Unit) (λs Kn=>Ut ω (AL bs) (.slice none 0 0) s.1 s.2.1 Kn K) I (X++((bs,.cells l.toArray 48 (0,0))::F)):=by
 refine loop (λq st I' L'=>∃k X' v',k+q=ys.length∧st=(v',.int .i64 (k:Nat),())∧Ext I I'∧GL I' X' v' (xs++(ys.take k).flatten)∧L'=X'++((bs,.cells l.toArray 48 (0,0))::F)) ys.length ⟨0,X,w,by omega,rfl,zAC _,by simpa using hG,rfl⟩ ?_;rintro q st I' L' ⟨k,X',v',hkq,rfl,hI',hG',rfl⟩;unfold Ut;try refine zqe ?_
 refine rdb ?_;simp only [zAK hy,SSd,Nat.reduceAdd];refine AB (λhb=>?_) (λhb=>?_)
 ·have hb:k < ys.length:=by
   have:=of_decide_eq_true hb;omega
  obtain ⟨bt,off,c1,g1,gl,g2,g3⟩:=zAR hy (i:=k) zo zo;rw [Am hb] at g2;obtain ⟨v0,rfl,h0⟩:=LstX.mono g2 hI';refine rdb ?_;simp only [g1,SSd,Nat.reduceAdd];refine rdC (g3 _ [] hI' (λ_ h=>h) 0 _ rfl) (zAC _) ?_;have hfl:(ys.take (k+1)).flatten=(ys.take k).flatten++ys[k]:=by rw [zl hb,zbf];simp only [zaD,zaX,zao]
  have hle:(ys.take (k+1)).flatten.length≤ys.flatten.length:=by
   have h:ys.flatten=(ys.take (k+1)).flatten++(ys.drop (k+1)).flatten:=by rw [←zbf,zad]
   rw [h,zn];omega
  rw [hfl,zn] at hle;refine DK (X:=X') rfl hG' h0 (by simp only [zn];omega) (λX3 w3 hG3=>?_);simp only [wrap_i64 ((k:Int)+1) zo,SSd,Nat.reduceAdd];refine zAE (X3++((bs,.cells l.toArray 48 (0,0))::F)) (zAA ⟨q - 1,by omega,k+1,X3,w3,by omega,rfl,hI',?_,rfl⟩);rw [hfl,←zi];exact hG3
 ·have hb:¬k < ys.length:=by
   have:=of_decide_eq_false hb;omega
  rw [zg zo] at hG';exact hk I' X' v' hI' hG'
theorem GL.done {X:LH}{w:Value}{xs:List Ex}{K:M}(h:GL I X w xs)(hk:∀I',Ext I I'→ExL I' w xs→Gh K I' F):Gh K I (X++F):=by
 obtain ⟨cells,h1,h2⟩:=h;rcases h1 with h1|⟨rfl,_,h1⟩
 ·exact RL.ofO (R:=ExV) (λh hI=>ExV.mono hI h) h1 h2 hk
 ·exact hk I (zAC _) (RL.ofI h1 h2)
theorem AOW {X:LH}{w p2:Value}{xs:List Ex}(hG:GL I X w xs)(hlen:xs.length≤1000000000000)
  (hk:∀I' v,Ext I I'→ExL I' v (xs.filter Bz)→Gh (K v) I' F):
  Ov ω p2 w (λv=>Gh (K v)) I (X++F):=by
 unfold Ov;have hR:RL ExV 11 I X w xs:=hG.rl (λ_ h=>h);have hfl:∀k,((xs.take k).filter Bz).length≤k:=λk=>Nat.le_trans (List.length_filter_le _ _) (by rw [zaG];omega);refine loop (λq st I' L'=>∃k Y v',k+q=xs.length∧st=(v',.int .i64 (k:Nat),())∧Ext I I'∧GL I' Y v' ((xs.take k).filter Bz)∧L'=Y++(X++F)) xs.length ⟨0,[],.slice none 0 0,by omega,rfl,zAC _,⟨[],.inl (SlO.none _ _),rfl⟩,rfl⟩ ?_;rintro q st I' L' ⟨k,Y,v',hkq,rfl,hI',hG',rfl⟩;unfold AAl;simp only [zAK hR,SSd,Nat.reduceAdd];refine AB (λhb=>?_) (λhb=>?_)
 ·have hb:k < xs.length:=by
   have:=of_decide_eq_true hb;omega
  obtain ⟨bt,off,c1,g1,gl,g2,g3⟩:=zAR hR (i:=k) zo zo;rw [Am hb] at g2;have hts:=zl hb;obtain ⟨v0,rfl,h0⟩:=ExV.iff.1 g2;have g4:=g3 I' (Y++(X++F)) hI' (λx hx=>by simp [hx]);simp only [g1,SSd,Nat.reduceAdd];refine ⟨_,⟨bt,off,rfl,g4 0 _ rfl⟩,?_⟩;try refine zqe ?_
  refine AB (λht=>?_) (λht=>?_)
  ·have ht':Bz xs[k]=true:=ht;refine ⟨_,⟨bt,off,_,rfl,rfl,g4,rfl⟩,?_⟩;refine Ht (x:=xs[k]) (ExV.mono hI' g2) (λI2 a2 hI2 hw2=>zAA ?_);have:=hfl k;refine DK (X:=Y) rfl (hG'.mono hI2) hw2 (by simp only [zV];omega) (λX3 w3 hG3=>?_);unfold Ou;simp only [wrap_i64 ((k:Int)+1) zo,SSd,Nat.reduceAdd];refine zAE (X3++(X++F)) (zAA ⟨q - 1,by omega,k+1,X3,w3,by omega,rfl,zAB hI' hI2,?_,rfl⟩);rw [hts,zaY,List.filter_cons_of_pos ht',zbw];exact hG3
  ·have ht':¬Bz xs[k]=true:=by
    intro h;rw [show (xs[k].kind != 0)=true from h] at ht;cases ht
   unfold Ou;simp only [wrap_i64 ((k:Int)+1) zo,SSd,Nat.reduceAdd];refine zAA ⟨q - 1,by omega,k+1,Y,v',by omega,rfl,hI',?_,rfl⟩;rw [hts,zaY,List.filter_cons_of_neg ht',zbw,zao];exact hG'
 ·have hb:¬k < xs.length:=by
   have:=of_decide_eq_false hb;omega
  rw [zg zo] at hG';exact hG'.done (λI2 hI2 hw=>zAE F (hk I2 _ (zAB hI' hI2) hw))
theorem Vt {s:TStmt}{c:List Value}(hs:TStmtV I s c)(hcnt:cS s≤1000000000)(hk:∀I' v,Ext I I'→ExL I' v (EL s)→K v I' F):CT ω 38 #[.agg c.toArray] K I F:=by
 obtain ⟨v0,v1,v2,v3,v4,v5,v6,v7,v8,v9,v10,v11,v12,rfl,h0,h1,h2,h3,h4,h5,h6,h7,h8,h9,h10,h11,h12⟩:=hs;obtain ⟨a2,k2,rfl⟩:=zAF h2;obtain ⟨a4,k4,rfl⟩:=zAF h4;obtain ⟨a9,k9,rfl⟩:=zAF h9;simp only [cS,cQ] at hcnt;refine AUO ?_;unfold ASP;refine AQ (λbs=>?_);refine ATP (X:=[]) h0 (⟨[],.inl (SlO.none _ _),rfl⟩:GL I [] (.slice none 0 0) []) (by simp only [zac];omega) (λI1 X1 w1 hI1 hG1=>?_);unfold Yi;refine ATO (X:=X1) (SoL.mono h1 hI1) hG1 (by simp only [zn,zac,zau];omega) (λI2 X2 w2 hI2 hG2=>?_);unfold Yg;have hI12:=zAB hI1 hI2;try refine zqe ?_
 refine rdP _ rfl rfl ?_;try refine zqe ?_
 refine rdP _ rfl rfl ?_;try refine zqe ?_
 refine rdP _ rfl rfl ?_;refine EQ (R:=ExV) [s.fSelect.fWhere,s.fSelect.fHaving,s.fWhere] [_,_,_] rfl rfl rfl zy (by
  intro q hq;simp only [List.zip_cons_cons,List.zip_nil_right,zZ,zaH,or_false] at hq;rcases hq with rfl|rfl|rfl
  ·exact ExV.mono hI12 (ExV.iff.2 ⟨_,rfl,h2⟩)
  ·exact ExV.mono hI12 (ExV.iff.2 ⟨_,rfl,h4⟩)
  ·exact ExV.mono hI12 (ExV.iff.2 ⟨_,rfl,h9⟩)) (λhI h=>ExV.mono hI h) (λI3 aw hI3 hw3=>zAA ?_)
 have hI13:=zAB hI12 hI3;refine DK (X:=X2) rfl (hG2.mono hI3) hw3 (by simp only [zU,zau];omega) (λX4 w4 hG4=>?_);refine rdb ?_;refine DK (X:=X4) rfl hG4 (zAI h3 hI13) (by simp only [zU,zau];omega) (λX5 w5 hG5=>?_);refine ATN (X:=X5) (OrL.mono h5 hI13) hG5 (by simp only [zU,zau];omega) (λI6 X6 w6 hI6 hG6=>?_);have hI16:=zAB hI13 hI6;unfold Ye;refine AOZ (X:=X6) (zAL (λ_ _ h=>LstX.mono h hI16) h7 hI16 (λ_ h=>h)) zo hG6 (by simp only [zU,zau];omega) (λI7 X7 w7 hI7 hG7=>?_);have hI17:=zAB hI16 hI7;unfold Us;refine AOY (X:=X7) (zAL (λ_ _ h=>TSetV.mono h hI17) h8 hI17 (λ_ h=>h)) hG7 (by simp only [zU,zau];omega) (λI8 X8 w8 hI8 hG8=>?_);have hI18:=zAB hI17 hI8;unfold Uo;refine AOX (X:=X8) (zAL (λ_ _ h=>TColV.mono h hI18) h10 hI18 (λ_ h=>h)) hG8 (by simp only [zU,zau];omega) (λI9 X9 w9 hI9 hG9=>?_);refine AOW (X:=X9) hG9 (by simp only [zU,zau];omega) (λI10 v hI10 hv=>?_);have hv:ExL I10 v (EL s):=hv;exact zAE F (zAA (hk I10 v (zAB hI18 (zAB hI9 hI10)) hv))
theorem AAB {s:TStmt}{c:List Value}(hs:TStmtV I s c)(hcnt:cS s≤1000000000)(hp:AX (EL s)≤100000000000000000)(hk:∀I',Ext I I'→K (.tuple #[.int .i64 (Ha s:Nat),.int .i64 (Ri s:Nat)]) I' F):CT ω 24 #[.agg c.toArray] K I F:=by
 have hcl:=zAT hs;refine AUc ?_;unfold ASc;refine AQ (λbs=>?_);refine rdB hcl ?_;refine call (Vt hs hcnt (λI1 v hI1 hv=>?_));generalize hxs:EL s=xs at hv hp;have hlp:xs.length≤AX xs:=by
  clear hv hp hxs;induction xs with
  |nil=>simp
  |cons y l ih=>have:=Fq y;simp only [AX,zh];omega
 refine loop (λq st I' L'=>∃k:Nat,k+q=xs.length∧st=(.int .i64 (1+AX (xs.take k):Nat),.int .i64 (BU (xs.take k):Nat),.int .i64 k,())∧I'=I1∧L'=(bs,Obj.cells c.toArray 48 (0,0))::F) xs.length ⟨0,by omega,by simp [AX,BU],rfl,rfl⟩ ?_;rintro q st I' L' ⟨k,hkq,rfl,rfl,rfl⟩;unfold AGK;simp only [zAK hv,SSd,Nat.reduceAdd];refine AB (λhb=>?_) (λhb=>?_)
 ·have hb:k < xs.length:=by
   have:=of_decide_eq_true hb;omega
  obtain ⟨bt,off,c1,g1,gl,g2,g3⟩:=zAR hv (i:=k) zo zo;rw [Am hb] at g2;have hm1:=Gq (zH hb);have htk:=Jk hb;have htd:=Ll hb;have hd:=JM xs[k];have hts:AX (xs.take (k+1))≤AX xs:=by
   have h:=DD (xs.take (k+1)) (xs.drop (k+1));rw [zad] at h;omega
  simp only [g1,SSd,Nat.reduceAdd];refine Ep (g3 _ [] (zAC _) (λ_ h=>h)) (zAC _) (ExV.len g2) ?_;refine call (OX _ xs[k] (zW _) c1 _ _ _ g2 zo ?_);have e1:((1+AX (xs.take k):Nat):Int)+(Af xs[k]:Nat)=((1+AX (xs.take (k+1)):Nat):Int):=by omega
  simp only [g1,e1,wrap_i64 ((1+AX (xs.take (k+1)):Nat):Int) zo,SSd,Nat.reduceAdd];refine Ep (g3 _ [] (zAC _) (λ_ h=>h)) (zAC _) (ExV.len g2) ?_;refine call (Ro _ xs[k] (zW _) c1 _ _ _ g2 zo ?_);have e2:(if ((DC xs[k]:Nat):Int) > (BU (xs.take k):Nat) then ((DC xs[k]:Nat):Int) else ((BU (xs.take k):Nat):Int))=((BU (xs.take (k+1)):Nat):Int):=by split <;> omega
  simp only [wrap_i64 ((k:Int)+1) zo,SSd,Nat.reduceAdd];rw [e2];exact zAA ⟨q - 1,by omega,k+1,by omega,rfl,rfl,rfl⟩
 ·have hb:¬k < xs.length:=by
   have:=of_decide_eq_false hb;omega
  have hk:=hk I' hI1;rw [zg zo];simp only [Ha,Ri,hxs,Nat.add_comm (AX xs) 1] at hk;exact zAE F (zAA hk)
end
section
variable {ω:Om}{I:Imm}{L:LH}{K:Value→M}
theorem Xj (s:Bs)(hk:∀I' v,Ext I I'→RL TStmtV 51 I' [] v (CQ s).1→K (.tuple #[v,.agg #[.int .i64 (CQ s).2.code,.int .i64 (CQ s).2.at']]) I' L):
  CT ω 11 #[.string ⟨s.toArray⟩] K I L:=by
 have hparts:s.length≤65536→BH (readA s).1≤1000000000∧∀x∈(readA s).1,cS x≤1000000000:=λh=>⟨by have:=LZ s;omega,λx hx=>by have:=SB s x hx;omega⟩;refine AUm ?_;unfold ASm;refine AQ (λb1=>?_);try refine zqe ?_
 refine AB (λhb=>?_) (λhb=>?_)
 ·have hb:65536 < s.length:=by
   have:=of_decide_eq_true hb;omega
  have hp:CQ s=([],⟨170,65536⟩):=by unfold CQ;rw [if_pos hb]
  rw [hp] at hk;repeat' (first|refine zqa ?_|refine zqh (λ_=>?_)|refine zqr ?_|refine zqb ?_|refine zqi ?_ ?_|refine zqc ?_|refine zqg (λ_=>?_) (λ_=>?_)|refine zqe ?_|fail)
  exact zAE L (zAA (hk I _ (zAC _) (zAD none 0)))
 have hb:s.length≤65536:=by
  have:=of_decide_eq_false hb;omega
 have hparts:=hparts hb;refine call (Vq s zo (λl hlx hT hlen I1 v1 hI1 hv1=>?_) (λf hlx hf I1 hI1=>?_))
 ·have hrd:readA s=match Bj l.length (l.length+1) [] l with
    | .ok x _=>(x,ok0)
    | .err a=>([],⟨174,a⟩):=by
   simp only [readA,hlx];cases Bj l.length (l.length+1) [] l <;> rfl
  try refine zqe ?_
  refine AQ (λb2=>?_);refine stB rfl rfl (AY rfl) ?_;try refine zqe ?_
  refine rdb ?_;simp only [show ((0:Int) != 0)=false from rfl,SSd,Nat.reduceAdd];refine call (AAD hv1 hT zo (λx r hg I2 v2 hI2 hv2=>?_) (λe hg I2 hI2=>?_))
  ·rw [hg] at hrd;simp only at hrd
   rw [hrd] at hparts;simp only at hparts
   have hp:CQ s=if Jr (BH x) (Cc x)≠0 then ([],⟨Jr (BH x) (Cc x),0⟩) else (x,ok0):=by
    unfold CQ;rw [if_neg zo,hrd];simp
   simp only [show decide ((0:Int)≤ -1)=false from rfl,SSd,Nat.reduceAdd];have hxl:=Lc x;refine loop (λq st I' L'=>∃k:Nat,k+q=x.length∧st=(.int .i64 (BH (x.take k):Nat),.int .i64 (Cc (x.take k):Nat),.int .i64 k,())∧Ext I2 I'∧L'=(b2,Obj.cells [.int .i64 0,.int .i64 0].toArray 26 (0,0))::(b1,Obj.cells [.int .i64 0,.int .i64 0].toArray 26 (0,0))::L) x.length ⟨0,by omega,by simp [BH,Cc],zAC _,rfl⟩ ?_;rintro q st I' L' ⟨k,hkq,rfl,hI',rfl⟩;unfold AGc;simp only [zAK hv2,SSd,Nat.reduceAdd];refine AB (λhb=>?_) (λhb=>?_)
   ·have hb:k < x.length:=by
     have:=of_decide_eq_true hb;omega
    obtain ⟨bt,off,c1,g1,gl,g2,g3⟩:=zAR hv2 (i:=k) zo zo;rw [Am hb] at g2;have hpt:=OL hb;have hpl:=TV (l:=x) (k+1);have hdt:=Rj hb;have hpp:AX (EL x[k])+1=Ha x[k]:=rfl;simp only [g1,SSd,Nat.reduceAdd];refine Ep (g3 _ [] hI' (λ_ h=>h)) (zAC _) (zAT g2) ?_;refine call (AAB (TStmtV.mono g2 hI') (hparts.2 _ (zH hb)) zo (λI3 hI3=>?_));have e1:((BH (x.take k):Nat):Int)+(Ha x[k]:Nat)=((BH (x.take (k+1)):Nat):Int):=by omega
    have e2:(if ((Ri x[k]:Nat):Int) > (Cc (x.take k):Nat) then ((Ri x[k]:Nat):Int) else ((Cc (x.take k):Nat):Int))=((Cc (x.take (k+1)):Nat):Int):=by split <;> omega
    simp only [e1,wrap_i64 ((k:Int)+1) zo,wrap_i64 ((BH (x.take (k+1)):Nat):Int) zo,SSd,Nat.reduceAdd];rw [e2];exact zAA ⟨q - 1,by omega,k+1,by omega,rfl,zAB hI' hI3,rfl⟩
   ·have hb:¬k < x.length:=by
     have:=of_decide_eq_false hb;omega
    have hI2':=zAB hI1 (zAB hI2 hI');rw [zg zo];unfold AGb;by_cases h1:64 < Cc x
    ·have hl:Jr (BH x) (Cc x)=175:=by unfold Jr;rw [if_pos h1]
     rw [hl,if_pos zx] at hp;rw [hp] at hk;have d1:decide ((64:Int) < (Cc x:Nat))=true:=decide_eq_true zo;repeat' (first|refine zqa ?_|refine zqh (λ_=>?_)|refine zqr ?_|refine zqb ?_|refine zqi ?_ ?_|refine zqc ?_|refine zqg (λ_=>?_) (λ_=>?_)|(simp only [SSd,Nat.reduceAdd,d1]))
     exact zAE L (zAA (hk I' _ hI2' (zAD none 0)))
    have d1:decide ((64:Int) < (Cc x:Nat))=false:=decide_eq_false zo;by_cases h2:2000 < BH x
    ·have hl:Jr (BH x) (Cc x)=176:=by unfold Jr;rw [if_neg h1,if_pos h2]
     rw [hl,if_pos zx] at hp;rw [hp] at hk;have d2:decide ((2000:Int) < (BH x:Nat))=true:=decide_eq_true zo;repeat' (first|refine zqa ?_|refine zqh (λ_=>?_)|refine zqr ?_|refine zqb ?_|refine zqi ?_ ?_|refine zqc ?_|refine zqg (λ_=>?_) (λ_=>?_)|(simp only [SSd,Nat.reduceAdd,d1,d2]))
     exact zAE L (zAA (hk I' _ hI2' (zAD none 0)))
    ·have hl:Jr (BH x) (Cc x)=0:=by unfold Jr;rw [if_neg h1,if_neg h2]
     rw [hl,if_neg zx] at hp;rw [hp] at hk;have d2:decide ((2000:Int) < (BH x:Nat))=false:=decide_eq_false zo;repeat' (first|refine zqa ?_|refine zqh (λ_=>?_)|refine zqr ?_|refine zqb ?_|refine zqi ?_ ?_|refine zqc ?_|refine zqg (λ_=>?_) (λ_=>?_)|(simp only [SSd,Nat.reduceAdd,d1,d2]))
     exact zAE L (zAA (hk I' _ hI2' (zAL (λ_ _ h=>TStmtV.mono h hI') hv2 hI' (λ_ h=>h))))
  ·rw [hg] at hrd;simp only at hrd
   have hp:CQ s=([],⟨174,e⟩):=by
    unfold CQ;rw [if_neg zo,hrd];simp [ok0]
   rw [hp] at hk;have d1:decide ((0:Int)≤(e:Nat))=true:=decide_eq_true zo;repeat' (first|refine zqa ?_|refine zqh (λ_=>?_)|refine zqr ?_|refine zqb ?_|refine zqi ?_ ?_|refine zqc ?_|refine zqg (λ_=>?_) (λ_=>?_)|(simp only [SSd,Nat.reduceAdd,d1]))
   exact zAE L (zAA (hk I2 _ (zAB hI1 hI2) (zAD none 0)))
 ·have hrd:readA s=([],f):=by simp only [readA,hlx]
  have hp:CQ s=([],f):=by
   unfold CQ;rw [if_neg zo,hrd];rw [if_pos (by intro h;have h:f=ok0:=h;exact hf (by rw [h];rfl))]
  rw [hp] at hk;have e2:(f.code != 0)=true:=by simpa using hf
  repeat' (first|refine zqa ?_|refine zqh (λ_=>?_)|refine zqr ?_|refine zqb ?_|refine zqi ?_ ?_|refine zqc ?_|refine zqg (λ_=>?_) (λ_=>?_)|(simp only [SSd,Nat.reduceAdd,e2]))
  exact zAE L (zAA (hk I1 _ hI1 (zAD none 0)))
end
mutual
def gdE:Ex→Prop
 | .mk k v _ n _ _ d l=>(0≤v.fInt∧v.fInt≤9223372036854775807)∧(k=28→isAgg n=true∧l.length=1∧(d=true→∀y∈l,y.kind≠3))∧gdL l
def gdL:List Ex→Prop
 |[]=>True
 |x::l=>gdE x∧gdL l
end
theorem Vk:∀{a b:List Ex},gdL a→gdL b→gdL (a++b)
 |[],_,_,h=>h
 |_::a,b,h,h2=>⟨h.1,Vk h.2 h2⟩
def PE (x:Ex):Prop:=gdE x∧x.kind≠0∧x.kind≠3
theorem NH {k:Int}{l:List Ex}(h0:k≠0)(h3:k≠3)(h28:k≠28)(hl:gdL l):PE (exK k l):=
 ⟨by simp only [exK,gdE,v0];exact ⟨by decide,λh=>absurd h h28,hl⟩,h0,h3⟩
theorem AOC {v:TValue}(h:0≤v.fInt∧v.fInt≤9223372036854775807):PE (GU v):=
 ⟨by simp only [GU,gdE];exact ⟨h,λh=>absurd h zx,trivial⟩,by simp [GU,Ex.kind],by simp [GU,Ex.kind]⟩
theorem AHS (t n:Bs):PE (FQ t n):=
 ⟨by simp only [FQ,gdE,v0];exact ⟨by decide,λh=>absurd h zx,trivial⟩,by simp [FQ,Ex.kind],by simp [FQ,Ex.kind]⟩
theorem AHT {n:Bs}{d:Bool}{x:Ex}(hn:isAgg n=true)(hd:d=true→x.kind≠3)(hx:gdE x):PE (Ed n d [x]):=
 ⟨by simp only [Ed,gdE,v0];exact ⟨by decide,λ_=>⟨hn,rfl,λh y hy=>by rw [zX.1 hy];exact hd h⟩,hx,trivial⟩,by simp [Ed,Ex.kind],by simp [Ed,Ex.kind]⟩
theorem ATA:gdE (exK 3 []):=by simp only [exK,gdE,v0];exact ⟨by decide,λh=>absurd h zx,trivial⟩
theorem AOQ:gdE ex0:=by simp only [ex0,gdE,v0];exact ⟨by decide,λh=>absurd h zx,trivial⟩
def Oe (t:Tok):Prop:=0≤t.num∧t.num≤9223372036854775807
structure TOk (N:Nat)(l:List Tok):Prop where
 len:l.length≤N
 num:∀t∈l,Oe t
theorem TOk.tl {N:Nat}{l:List Tok}(h:TOk N l):TOk N l.tail:=⟨by have:=h.len;simp only [zaW];omega,λt ht=>h.num t (List.mem_of_mem_tail ht)⟩
theorem TOk.hd {N:Nat}{l:List Tok}(h:TOk N l):Oe (hd l):=by
 cases l with
 |nil=>exact ⟨by decide,by decide⟩
 |cons t l=>exact h.num t (zK ..)
theorem TOk.if {N:Nat}{l:List Tok}{b:Bool}(h:TOk N l):TOk N (if b then l.tail else l):=by
 cases b
 ·exact h
 ·exact h.tl
def Postq {α:Type}(N:Nat)(Q:α→Prop)(g:Pr α):Prop:=∀l x r,TOk N l→g l= .ok x r→Q x∧TOk N r
theorem Postq.imp {α:Type}{N:Nat}{Q R:α→Prop}{g:Pr α}(h1:Postq N Q g)(h2:∀x,Q x→R x):Postq N R g:=λl x r hl h=>⟨h2 _ (h1 l x r hl h).1,(h1 l x r hl h).2⟩
theorem Postq.cost {α:Type}{N:Nat}{Q:α→Prop}{w:α→Nat}{g:Pr α}(h1:Postq N Q g)(h2:Bl w g):Postq N (λx=>Q x∧w x≤N) g:=λl x r hl h=>⟨⟨(h1 l x r hl h).1,by have:=h2 l x r h;have:=hl.len;omega⟩,(h1 l x r hl h).2⟩
theorem Postq.bind {α β:Type}{N:Nat}{Q:α→Prop}{R:β→Prop}{g:Pr α}{f:α→Pr β}(hg:Postq N Q g)(hf:∀a,Q a→Postq N R (f a)):Postq N R (λl=>(g l).bind f):=by
 intro l x r hl h;obtain ⟨a,q,h1,h2⟩:=bind_ok h;have:=hg _ _ _ hl h1;exact hf a this.1 _ _ _ this.2 h2
theorem zAG:type_of% @Postq.bind:=@Postq.bind
theorem Postq.ok {α:Type}{N:Nat}{Q:α→Prop}{x:α}(h:Q x):Postq N Q (λl=>.ok x l):=by
 intro l y r hl h';simp only [Res.ok.injEq] at h';obtain ⟨rfl,rfl⟩:=h';exact ⟨h,hl⟩
theorem zAM:type_of% @Postq.ok:=@Postq.ok
theorem Postq.tl {α:Type}{N:Nat}{Q:α→Prop}{g:Pr α}(h:Postq N Q g):Postq N Q (λl=>g l.tail):=λl x r hl h'=>h _ x r hl.tl h'
theorem Postq.ite {α:Type}{N:Nat}{Q:α→Prop}{c:List Tok→Prop}[DecidablePred c]{f g:Pr α}(h1:Postq N Q f)(h2:Postq N Q g):Postq N Q (λl=>if c l then f l else g l):=by
 intro l x r hl h;simp only at h
 split at h
 ·exact h1 _ _ _ hl h
 ·exact h2 _ _ _ hl h
theorem Postq.bad {α:Type}{N:Nat}{Q:α→Prop}:Postq N Q (λl=>bad (α:=α) l):=λl x r hl h=>nomatch h
def Tru {α:Type}(_:α):Prop:=True
theorem BG {N:Nat}{s:Bs}:Postq N Tru (AP s):=Postq.ite (c:=λl=>isT l s=true) (Postq.tl (g:=λl=>.ok () l) (zAM trivial)) Postq.bad
theorem CO {N:Nat}:Postq N Tru Ar:=by
 intro l x r hl h;unfold Ar at h;split at h
 ·simp only [Res.ok.injEq] at h;obtain ⟨rfl,rfl⟩:=h;exact ⟨trivial,hl.tl⟩
 ·cases h
theorem TS {α:Type}{N:Nat}{Q:α→Prop}{one:Pr α}(h1:Postq N Q one):∀n acc,(∀x∈acc,Q x)→Postq N (λl=>∀x∈l,Q x) (Cm one n acc)
 |0,acc,ha=>zAM ha
 |n+1,acc,ha=>Postq.ite (c:=λl=>isT l [44]=true) (Postq.tl (g:=λl=>(one l).bind λx r=>Cm one n (acc++[x]) r) (zAG h1 λx hx=>TS h1 n _ (by
   intro y hy;rcases zal.1 hy with h|h
   ·exact ha y h
   ·rw [zX.1 h];exact hx))) (zAM ha)
theorem Gp {α:Type}{N:Nat}{Q:α→Prop}{one:Pr α}(h1:Postq N Q one)(n:Nat):Postq N (λl=>∀x∈l,Q x) (BL n one):=zAG h1 λx hx=>TS h1 n _ (by intro y hy;rw [zX.1 hy];exact hx)
theorem KL {α:Type}{N:Nat}{Q:α→Prop}{one:Pr α}(h1:Postq N Q one)(n:Nat):Postq N (λl=>∀x∈l,Q x) (Bc n one):=
 zAG BG λ_ _=>zAG (Gp h1 n) λ_ hx=>zAG BG λ_ _=>zAM hx
theorem ZW:∀{l:List Ex},(∀x∈l,PE x)→gdL l
 |[],_=>trivial
 |x::l,h=>⟨(h x (zK ..)).1,ZW λy hy=>h y (zN _ hy)⟩
def OpK (k:Int):Prop:=k≠0∧k≠3∧k≠28
theorem TT {N:Nat}{one:Pr Ex}{op:List Tok→Int}(hop:∀l,op l≠0→OpK (op l))(h1:Postq N PE one):∀n x,PE x→Postq N PE (Eb one op n x)
 |0,x,hx=>zAM hx
 |n+1,x,hx=>by
  intro l y r hl h;simp only [Eb] at h;split at h
  ·simp only [Res.ok.injEq] at h;obtain ⟨rfl,rfl⟩:=h;exact ⟨hx,hl⟩
  ·rename_i hn
   obtain ⟨z,q,h2,h3⟩:=bind_ok h;have c1:=h1 _ _ _ hl.tl h2;exact TT hop h1 n _ (NH (l:=[x,z]) (hop _ hn).1 (hop _ hn).2.1 (hop _ hn).2.2 ⟨hx.1,c1.1.1,trivial⟩) _ _ _ c1.2 h3
theorem JA {N:Nat}{one:Pr Ex}{op:List Tok→Int}(hop:∀l,op l≠0→OpK (op l))(h1:Postq N PE one)(n:Nat):Postq N PE (Ci n one op):=
 zAG h1 λx hx=>TT hop h1 n x hx
theorem AVH (l:List Tok)(h:KW l≠0):OpK (KW l):=by unfold KW at *; split <;> simp_all [OpK]
theorem ASy (l:List Tok)(h:Gi l≠0):OpK (Gi l):=by unfold Gi at *; split <;> simp_all [OpK]
theorem ASx {f:Bs→Option Int}(hf:∀s k,f s=some k→OpK k)(l:List Tok)(h:IA f l≠0):OpK (IA f l):=by
 unfold IA at *;split at h
 ·rename_i hc
  rw [if_pos hc];cases hs:f (hd l).text with
  |none=>rw [hs] at h;exact absurd rfl h
  |some k=>exact hf _ _ hs
 ·exact absurd rfl h
theorem ASw (s:Bs)(k:Int)(h:MH s=some k):OpK k:=by
 unfold MH at h;repeat (split at h;· simp only [zf] at h;subst h;exact ⟨by decide,by decide,by decide⟩)
 cases h
theorem AOK (s:Bs)(k:Int)(h:IB s=some k):OpK k:=by
 unfold IB at h;repeat (split at h;· simp only [zf] at h;subst h;exact ⟨by decide,by decide,by decide⟩)
 cases h
theorem AIF (l:List Tok)(h:DJ l≠0):OpK (DJ l):=by
 unfold DJ at *;repeat (split;· exact ⟨by decide,by decide,by decide⟩)
 simp_all
theorem AID {l:List Tok}{v:TValue}(h:GR l=some v):0≤v.fInt∧v.fInt≤9223372036854775807:=by
 unfold GR at h;repeat (split at h;· simp only [zf] at h;subst h;simp)
 cases h
theorem Qu {N:Nat}:Postq N (λx=>PE x∧x.kind=1) KX:=by
 intro l x r hl h;unfold KX at h;split at h
 ·simp only [Res.ok.injEq] at h;obtain ⟨rfl,rfl⟩:=h;exact ⟨⟨AOC hl.hd,rfl⟩,hl.tl⟩
 ·cases h
theorem post_given {N:Nat}:Postq N (λx=>PE x∧(x.kind=1∨x.kind=4)) FP:=by
 intro l x r hl h;unfold FP at h;split at h
 ·rename_i v hv
  simp only [Res.ok.injEq] at h;obtain ⟨rfl,rfl⟩:=h;exact ⟨⟨AOC (AID hv),.inl rfl⟩,hl.tl⟩
 split at h
 ·obtain ⟨y,q,h1,h2⟩:=bind_ok h;have c1:=Qu _ _ _ hl.tl h1;simp only [Res.ok.injEq] at h2;obtain ⟨rfl,rfl⟩:=h2;exact ⟨⟨NH zx zx zx ⟨c1.1.1.1,trivial⟩,.inr rfl⟩,c1.2⟩
 ·have c1:=Qu _ _ _ hl h;exact ⟨⟨c1.1.1,.inl c1.1.2⟩,c1.2⟩
theorem TQ {N:Nat}{E:Pr Ex}(hE:Postq N PE E)(n:Nat)(acc:List Ex)(ha:gdL acc):Postq N gdL (Dl n E acc):=
 zAG BG λ_ _=>zAG hE λ_ hx=>zAG BG λ_ _=>zAG hE λ_ hy=>zAM (Vk ha ⟨hx.1,hy.1,trivial⟩)
theorem Qs {N:Nat}{E:Pr Ex}(hE:Postq N PE E)(n:Nat):∀m acc,gdL acc→Postq N gdL (DV n E m acc)
 |0,acc,ha=>zAM ha
 |m+1,acc,ha=>Postq.ite (c:=λl=>isT l [119,104,101,110]=true) (zAG (TQ hE n acc ha) λa h=>Qs hE n m a h) (zAM ha)
theorem ADe {N:Nat}{E:Pr Ex}(hE:Postq N PE E)(n:Nat):Postq N PE (FD n E):=
 zAG (TQ hE n [] trivial) λa ha=>zAG (Qs hE n n a ha) λb hb=>
  zAG (Q:=gdL) (g:=λr=>if isT r [101,108,115,101] then (E r.tail).bind λx r=>.ok (b++[x]) r else Res.ok b r)
   (Postq.ite (c:=λl=>isT l [101,108,115,101]=true) (Postq.tl (g:=λl=>(E l).bind λx r=>.ok (b++[x]) r) (zAG hE λx hx=>zAM (Vk hb ⟨hx.1,trivial⟩))) (zAM hb))
   λc hc=>zAG BG λ_ _=>zAM (NH zx zx zx hc)
theorem ARO {s:Bs}(h1:¬s=[99,111,97,108,101,115,99,101])(h2:¬s=[108,101,110,103,116,104])(h:Dt s=true):isAgg s=true:=by
 unfold Dt at h;simpa [h1,h2] using h
theorem ZE {N:Nat}{E:Pr Ex}(hE:Postq N PE E)(n:Nat)(s:Bs)(hs:Dt s=true):Postq N PE (DF n E s):=by
 intro l x r hl h;unfold DF at h;split at h
 ·exact zAG (KL hE n) (λa ha=>zAM (x:=exK 27 a) (NH zx zx zx (ZW ha))) l x r hl h
 rename_i h1
 obtain ⟨_,q,g1,h⟩:=bind_ok h;have hq:=(BG _ _ _ hl g1).2;split at h
 ·exact zAG hE (λa ha=>zAG BG λ_ _=>zAM (x:=exK 8 [a]) (NH zx zx zx ⟨ha.1,trivial⟩)) q x r hq h
 rename_i h2
 have hag:=ARO h1 h2 hs;split at h
 ·obtain ⟨_,q2,g2,h⟩:=bind_ok h;simp only [Res.ok.injEq] at h;obtain ⟨rfl,rfl⟩:=h;exact ⟨AHT hag (λh=>by cases h) ATA,(BG _ _ _ hq.tl g2).2⟩
 ·obtain ⟨y,q2,g2,h⟩:=bind_ok h;have c1:=hE _ _ _ hq.if g2;obtain ⟨_,q3,g3,h⟩:=bind_ok h;simp only [Res.ok.injEq] at h;obtain ⟨rfl,rfl⟩:=h;exact ⟨AHT hag (λ_=>c1.1.2.2) c1.1.1,(BG _ _ _ c1.2 g3).2⟩
theorem ZA {N:Nat}{E U:Pr Ex}(hE:Postq N PE E)(hU:Postq N PE U)(n:Nat):Postq N PE (Fp n E U):=by
 intro l x r hl h;unfold Fp at h;split at h
 ·exact zAG hU (λa ha=>zAM (x:=exK 4 [a]) (NH zx zx zx ⟨ha.1,trivial⟩)) l.tail x r hl.tl h
 split at h
 ·exact zAG hE (λa ha=>zAG BG λ_ _=>zAM ha) l.tail x r hl.tl h
 split at h
 ·exact ADe hE n _ _ _ hl.tl h
 split at h
 ·have:=Qu _ _ _ hl h;exact ⟨this.1.1,this.2⟩
 split at h
 ·rename_i v hv
  simp only [Res.ok.injEq] at h;obtain ⟨rfl,rfl⟩:=h;exact ⟨AOC (AID hv),hl.tl⟩
 obtain ⟨s,q,g1,h⟩:=bind_ok h;have hq:=(CO _ _ _ hl g1).2;split at h
 ·rename_i hc
  exact ZE hE n s (by simp only [zF] at hc;exact hc.2) _ _ _ hq h
 split at h
 ·exact zAG CO (λa _=>zAM (AHS s a)) q.tail x r hq.tl h
 ·simp only [Res.ok.injEq] at h;obtain ⟨rfl,rfl⟩:=h;exact ⟨AHS _ _,hq⟩
theorem ZF {b:Bool}{x:Ex}(h:PE x):PE (Lh b x):=by
 cases b
 ·exact h
 ·exact NH zx zx zx ⟨h.1,trivial⟩
theorem ADb {N:Nat}{E S:Pr Ex}(hE:Postq N PE E)(hS:Postq N PE S)(n:Nat):Postq N PE (II n E S):=by
 intro l z r hl h;unfold II at h;obtain ⟨x,q,g1,h⟩:=bind_ok h;obtain ⟨hx,hq⟩:=hS _ _ _ hl g1;split at h
 ·rename_i hn
  exact zAG hS (λy hy=>zAM (x:=exK (DJ q) [x,y]) (NH (AIF _ hn).1 (AIF _ hn).2.1 (AIF _ hn).2.2 ⟨hx.1,hy.1,trivial⟩)) q.tail z r hq.tl h
 split at h
 ·split at h
  ·exact zAG BG (λ_ _=>zAM (x:=exK 7 [x]) (NH zx zx zx ⟨hx.1,trivial⟩)) _ z r hq.tl.tl h
  ·exact zAG BG (λ_ _=>zAM (x:=exK 6 [x]) (NH zx zx zx ⟨hx.1,trivial⟩)) _ z r hq.tl h
 simp only at h
 generalize hb:isT q [110,111,116]=b at h;have hq2:TOk N (if b then q.tail else q):=hq.if;generalize (if b then q.tail else q)=q2 at h hq2;split at h
 ·exact zAG (KL hE n) (λa ha=>zAM (x:=Lh b (exK 24 (x::a))) (ZF (NH zx zx zx ⟨hx.1,ZW ha⟩))) _ z r hq2.tl h
 split at h
 ·exact zAG hS (λy hy=>zAG BG λ_ _=>zAG hS λw hw=>zAM (x:=Lh b (exK 25 [x,y,w])) (ZF (NH zx zx zx ⟨hx.1,hy.1,hw.1,trivial⟩))) _ z r hq2.tl h
 split at h
 ·exact zAG hS (λy hy=>zAM (x:=Lh b (exK 23 [x,y])) (ZF (NH zx zx zx ⟨hx.1,hy.1,trivial⟩))) _ z r hq2.tl h
 split at h
 ·cases h
 ·simp only [Res.ok.injEq] at h;obtain ⟨rfl,rfl⟩:=h;exact ⟨hx,hq2⟩
theorem AHR {N:Nat}{M Q:Pr Ex}(hM:Postq N PE M)(hQ:Postq N PE Q):Postq N PE (RF M Q):=
 Postq.ite (c:=λl=>isT l [110,111,116]=true) (Postq.tl (g:=λl=>(M l).bind λx r=>.ok (exK 5 [x]) r) (zAG hM λa ha=>zAM (NH zx zx zx ⟨ha.1,trivial⟩))) hQ
theorem Qw (N:Nat):∀n,Postq N PE (eP n)∧Postq N PE (nP n)∧Postq N PE (uP n)
 |0=>⟨λl x r _ h=>by simp [eP,Ii] at h,λl x r _ h=>by simp [nP,Ii] at h,λl x r _ h=>by simp [uP,Ii] at h⟩
 |n+1=>by
  obtain ⟨hE,hN,hU⟩:=Qw N n;have u:=ZA hE hU n;have s:=JA (ASx ASw) (JA (ASx AOK) u n) n;have nn:=AHR hN (ADb hE s n);exact ⟨JA AVH (JA ASy nn n) n,nn,u⟩
def GE (N:Nat)(x:Ex):Prop:=gdE x∧Af x≤N
theorem ge0 {N:Nat}(hN:1≤N):GE N ex0:=⟨AOQ,hN⟩
structure GdQ (N:Nat)(q:TSelect):Prop where
 it:∀x∈q.fItems,GE N x.fExpr
 fr:∀x∈q.fFrom,GE N x.fOn
 wh:GE N q.fWhere
 gr:∀x∈q.fGroup,GE N x
 ha:GE N q.fHaving
 od:∀x∈q.fOrder,GE N x.fExpr
 li: -1≤q.fLimit∧q.fLimit≤2147483647
 off:0≤q.fOffset∧q.fOffset≤2147483647
structure GdS (N:Nat)(s:TStmt):Prop where
 q:GdQ N s.fSelect
 wh:GE N s.fWhere
 rows:∀x∈s.fRows,(∀y∈x,GE N y)∧x.length≤N
 sets:∀x∈s.fSets,GE N x.fExpr
 cols:∀x∈s.fCols,GE N x.fDefault∧(x.fDefault.kind=0∨x.fDefault.kind=1∨x.fDefault.kind=4)
 n1:s.fColumns.length≤N
 n2:s.fKey.length≤N
 n3:s.fIndex.fColumns.length≤N
section
variable {N:Nat}
theorem LY (n:Nat):Postq N (GE N) (eP n):=((Qw N n).1.cost (JO n).1).imp λ_ h=>⟨h.1.1,h.2⟩
theorem JB (hN:1≤N)(n:Nat)(s:Bs):Postq N (GE N) (DW n s):=Postq.ite (c:=λl=>isT l s=true) (Postq.tl (LY n)) (zAM (ge0 hN))
theorem ADc (hN:1≤N)(n:Nat):Postq N (λx=>GE N x.fExpr) (Ec n):=by
 intro l x r hl h;unfold Ec at h;split at h
 ·simp only [Res.ok.injEq] at h;obtain ⟨rfl,rfl⟩:=h;exact ⟨ge0 hN,hl.tl⟩
 split at h
 ·simp only [Res.ok.injEq] at h;obtain ⟨rfl,rfl⟩:=h;exact ⟨ge0 hN,hl.tl.tl.tl⟩
 ·obtain ⟨y,q,h1,h2⟩:=bind_ok h;obtain ⟨hy,hq⟩:=LY n _ _ _ hl h1;split at h2
  ·obtain ⟨a,q2,h3,h4⟩:=bind_ok h2;simp only [Res.ok.injEq] at h4;obtain ⟨rfl,rfl⟩:=h4;exact ⟨hy,(CO _ _ _ hq.tl h3).2⟩
  ·simp only [Res.ok.injEq] at h2;obtain ⟨rfl,rfl⟩:=h2;exact ⟨hy,hq⟩
theorem ZC (n:Nat):Postq N (λx=>GE N x.fExpr) (Ef n):=by
 intro l x r hl h;obtain ⟨y,q,h1,h2⟩:=bind_ok h;obtain ⟨hy,hq⟩:=LY n _ _ _ hl h1;split at h2
 ·simp only [Res.ok.injEq] at h2;obtain ⟨rfl,rfl⟩:=h2;exact ⟨hy,hq.tl⟩
 split at h2
 ·simp only [Res.ok.injEq] at h2;obtain ⟨rfl,rfl⟩:=h2;exact ⟨hy,hq.tl⟩
 ·simp only [Res.ok.injEq] at h2;obtain ⟨rfl,rfl⟩:=h2;exact ⟨hy,hq⟩
theorem AHQ (n:Nat):Postq N (λx=>GE N x.fExpr) (Nh n):=zAG CO λ_ _=>zAG BG λ_ _=>zAG (LY n) λ_ h=>zAM h
theorem IJ (hN:1≤N):Postq N (λx=>GE N x.fOn) CU:=by
 intro l x r hl h;obtain ⟨s,q,h1,h2⟩:=bind_ok h;have hq:=(CO _ _ _ hl h1).2;split at h2
 ·obtain ⟨a,q2,h3,h4⟩:=bind_ok h2;simp only [Res.ok.injEq] at h4;obtain ⟨rfl,rfl⟩:=h4;exact ⟨ge0 hN,(CO _ _ _ hq.tl h3).2⟩
 split at h2
 ·obtain ⟨a,q2,h3,h4⟩:=bind_ok h2;simp only [Res.ok.injEq] at h4;obtain ⟨rfl,rfl⟩:=h4;exact ⟨ge0 hN,(CO _ _ _ hq h3).2⟩
 ·simp only [Res.ok.injEq] at h2;obtain ⟨rfl,rfl⟩:=h2;exact ⟨ge0 hN,hq⟩
theorem Np (hN:1≤N)(n:Nat)(b:Bool):Postq N (λx=>GE N x.fOn) (Hg n b):=zAG BG λ_ _=>zAG (IJ hN) λ_ _=>zAG BG λ_ _=>zAG (LY n) λ_ h=>zAM h
theorem Qv (hN:1≤N)(n:Nat):∀(m:Nat) (acc:List TSource),(∀x∈acc,GE N x.fOn)→Postq N (λl=>∀x∈l,GE N x.fOn) (CS n m acc)
 |0,acc,ha=>zAM ha
 |m+1,acc,ha=>by
  have one:∀{g:Pr TSource} (_:Postq N (λx=>GE N x.fOn) g),Postq N (λl=>∀x∈l,GE N x.fOn) (λl=>(g l).bind λs r=>CS n m (acc++[s]) r):=λhg=>zAG hg λx hx=>Qv hN n m _ (by
   intro y hy;rcases zal.1 hy with h|h
   ·exact ha y h
   ·rw [zX.1 h];exact hx)
  intro l x r hl h;simp only [CS] at h;split at h
  ·exact one (IJ hN) _ _ _ hl.tl h
  split at h
  ·exact zAG BG (λ_ _=>one (IJ hN)) _ _ _ hl.tl h
  split at h
  ·exact one (Np hN n true) _ _ _ hl.tl h
  split at h
  ·exact one (Np hN n false) _ _ _ hl.tl h
  split at h
  ·exact one (Np hN n false) _ _ _ hl h
  ·simp only [Res.ok.injEq] at h;obtain ⟨rfl,rfl⟩:=h;exact ⟨ha,hl⟩
theorem ADd (hN:1≤N)(n:Nat):Postq N (λl=>∀x∈l,GE N x.fOn) (JY n):=zAG (IJ hN) λx hx=>Qv hN n n [x] (by intro y hy;rw [zX.1 hy];exact hx)
theorem post_count:Postq N (λk=>0≤k∧k≤2147483647) EO:=by
 intro l x r hl h;unfold EO at h;split at h
 ·rename_i hc
  simp only [zF,decide_eq_true_eq] at hc;simp only [Res.ok.injEq] at h;obtain ⟨rfl,rfl⟩:=h;exact ⟨⟨hl.hd.1,hc.2⟩,hl.tl⟩
 ·cases h
theorem Jj {α:Type}{Q:α→Prop}{p:Pr α}(h:Postq N Q p)(s:Bs)(d:α)(hd:Q d):Postq N Q (SS s d p):=Postq.ite (c:=λl=>isT l s=true) (Postq.tl h) (zAM hd)
theorem ACN {α:Type}{Q:α→Prop}{p:Pr α}(h:Postq N Q p):Postq N Q (byP p):=zAG BG λ_ _=>h
theorem ZB (hN:1≤N)(n:Nat):Postq N (GdQ N) (FM n):=by
 intro l x r hl h;obtain ⟨a1,q1,h1,h⟩:=bind_ok h;obtain ⟨a2,q2,h2,h⟩:=bind_ok h;obtain ⟨a3,q3,h3,h⟩:=bind_ok h;obtain ⟨a4,q4,h4,h⟩:=bind_ok h;obtain ⟨a5,q5,h5,h⟩:=bind_ok h;obtain ⟨a6,q6,h6,h⟩:=bind_ok h;obtain ⟨a7,q7,h7,h⟩:=bind_ok h;obtain ⟨a8,q8,h8,h⟩:=bind_ok h;simp only [Res.ok.injEq] at h;obtain ⟨rfl,rfl⟩:=h;obtain ⟨c1,t1⟩:=Gp (ADc hN n) n _ _ _ hl.if h1;obtain ⟨c2,t2⟩:=Jj (ADd hN n) _ [] nofun _ _ _ t1 h2;obtain ⟨c3,t3⟩:=JB hN n _ _ _ _ t2 h3;obtain ⟨c4,t4⟩:=Jj (ACN (Gp (LY n) n)) _ [] nofun _ _ _ t3 h4;obtain ⟨c5,t5⟩:=JB hN n _ _ _ _ t4 h5;obtain ⟨c6,t6⟩:=Jj (ACN (Gp (ZC n) n)) _ [] nofun _ _ _ t5 h6;obtain ⟨c7,t7⟩:=Jj (post_count.imp (R:=λk=> -1≤k∧k≤2147483647) λ_ h=>⟨by omega,h.2⟩) _ (-1) ⟨by decide,by decide⟩ _ _ _ t6 h7;obtain ⟨c8,t8⟩:=Jj post_count _ 0 ⟨by decide,by decide⟩ _ _ _ t7 h8;exact ⟨⟨c1,c2,c3,c4,c5,c6,c7,c8⟩,t8⟩
def YN (N:Nat)(x:TCol):Prop:=GE N x.fDefault∧(x.fDefault.kind=0∨x.fDefault.kind=1∨x.fDefault.kind=4)
theorem BZ {α:Type}{P:α→Prop}:∀x∈([]:List α),P x:=nofun
theorem ASr {x:Ex}(h:x.kind≠0):pz x=Af x:=by unfold pz;rw [if_pos (by simpa using h)]
theorem IZ:∀(m:Nat) (c:TCol),YN N c→Postq N (YN N) (Dc m c)
 |0,c,hc=>zAM hc
 |m+1,c,hc=>by
  intro l x r hl h;simp only [Dc] at h;split at h
  ·exact zAG BG (λ_ _=>IZ m {c with fNotNull:=true} hc) _ _ _ hl.tl h
  split at h
  ·exact zAG BG (λ_ _=>IZ m {c with fKey:=true} hc) _ _ _ hl.tl h
  split at h
  ·exact IZ m {c with fUnique:=true} hc _ _ _ hl.tl h
  split at h
  ·exact zAG (post_given.cost Ry) (λy hy=>IZ m {c with fDefault:=y} ⟨⟨hy.1.1.1,ASr hy.1.1.2.1 ▸ hy.2⟩,.inr hy.1.2⟩) _ _ _ hl.tl h
  ·simp only [Res.ok.injEq] at h;obtain ⟨rfl,rfl⟩:=h;exact ⟨hc,hl⟩
theorem XG (hN:1≤N)(n:Nat):Postq N (YN N) (DX n):=by
 intro l x r hl h;obtain ⟨s,q,h1,h2⟩:=bind_ok h;have hq:=(CO _ _ _ hl h1).2;simp only at h2
 generalize (if isK q 1 then typeOf (hd q).text else 0)=t at h2;split at h2
 ·cases h2
 ·exact IZ n ⟨s,t,false,false,false,ex0⟩ ⟨ge0 hN,.inl rfl⟩ _ _ _ hq.tl h2
theorem LX (n:Nat):Postq N (λl=>l.length≤N) (Bc n Ar):=((KL CO n).cost (XN BK n)).imp λ_ h=>h.2
theorem TR (hN:1≤N)(n:Nat):∀(m:Nat) (cs:List TCol) (ks:List Bs),(∀x∈cs,YN N x)→ks.length≤N→Postq N (λx=>(∀y∈x.1,YN N y)∧x.2.length≤N) (EJ n m cs ks)
 |0,cs,ks,h1,h2=>zAM ⟨h1,h2⟩
 |m+1,cs,ks,hcs,hks=>by
  intro l x r hl h;simp only [EJ] at h;obtain ⟨a,q,h1,h2⟩:=bind_ok h;have c1:((∀y∈a.1,YN N y)∧a.2.length≤N)∧TOk N q:=by
   split at h1
   ·exact zAG BG (λ_ _=>zAG (LX n) λk hk=>zAM (Q:=λx:List TCol×List Bs=>(∀y∈x.1,YN N y)∧x.2.length≤N) ⟨hcs,hk⟩) _ _ _ hl.tl h1
   ·exact zAG (XG hN n) (λk hk=>zAM (Q:=λx:List TCol×List Bs=>(∀y∈x.1,YN N y)∧x.2.length≤N) ⟨by
     intro y hy;rcases zal.1 hy with h|h
     ·exact hcs y h
     ·rw [zX.1 h];exact hk,hks⟩) _ _ _ hl h1
  split at h2
  ·exact TR hN n m _ _ c1.1.1 c1.1.2 _ _ _ c1.2.tl h2
  ·simp only [Res.ok.injEq] at h2;obtain ⟨rfl,rfl⟩:=h2;exact c1
theorem ASz (hN:1≤N):GdQ N default:=⟨nofun,nofun,ge0 hN,nofun,ge0 hN,nofun,⟨by decide,by decide⟩,⟨by decide,by decide⟩⟩
theorem ADa (hN:1≤N)(n:Nat):Postq N (GdS N) (Dy n):=by
 have q0:=ASz hN;have e0:=ge0 hN;have z:([]:List Bs).length≤N:=zak _;intro l x r hl h;unfold Dy at h;split at h
 ·exact zAG (ZB hN n) (λq hq=>zAM (Q:=GdS N) ⟨hq,e0,BZ,BZ,BZ,z,z,z⟩) _ _ _ hl.tl h
 split at h
 ·refine zAG BG (λ_ _=>zAG CO λs _=>zAG (Q:=λc=>c.length≤N) (g:=λr=>if isT r [40] then Bc n Ar r else Res.ok [] r) (Postq.ite (c:=λr=>isT r [40]=true) (LX n) (zAM z)) λc hc=>zAG BG λ_ _=>zAG (Gp (((KL (LY n) n).cost (XN (RD n) n))) n) λy hy=>zAM (Q:=GdS N) ⟨q0,e0,hy,BZ,BZ,hc,z,z⟩) _ _ _ hl.tl h
 split at h
 ·exact zAG CO (λs _=>zAG BG λ_ _=>zAG (Gp (AHQ n) n) λy hy=>zAG (JB hN n _) λw hw=>zAM (Q:=GdS N) ⟨q0,hw,BZ,hy,BZ,z,z,z⟩) _ _ _ hl.tl h
 split at h
 ·exact zAG BG (λ_ _=>zAG CO λs _=>zAG (JB hN n _) λw hw=>zAM (Q:=GdS N) ⟨q0,hw,BZ,BZ,BZ,z,z,z⟩) _ _ _ hl.tl h
 split at h
 ·unfold EX at h;split at h
  ·obtain ⟨s,q,h1,h⟩:=bind_ok h;obtain ⟨_,q2,h2,h⟩:=bind_ok h;obtain ⟨y,q3,h3,h⟩:=bind_ok h;have t1:=(CO _ _ _ hl.tl.tl h1).2;have t2:=(BG _ _ _ t1 h2).2;obtain ⟨c3,t3⟩:=TR hN n _ _ _ BZ z _ _ _ t2 h3;split at h
   ·cases h
   ·exact zAG BG (λ_ _=>zAM (Q:=GdS N) ⟨q0,e0,BZ,BZ,c3.1,z,c3.2,z⟩) _ _ _ t3 h
  ·exact zAG BG (λ_ _=>zAG CO λa _=>zAG BG λ_ _=>zAG CO λt _=>zAG (LX n) λc hc=>zAM (Q:=GdS N) ⟨q0,e0,BZ,BZ,BZ,z,z,hc⟩) _ _ _ hl.tl.if h
 split at h
 ·unfold Fe at h;split at h
  ·exact zAG CO (λ_ _=>zAM (Q:=GdS N) ⟨q0,e0,BZ,BZ,BZ,z,z,z⟩) _ _ _ hl.tl.tl h
  ·exact zAG BG (λ_ _=>zAG CO λ_ _=>zAM (Q:=GdS N) ⟨q0,e0,BZ,BZ,BZ,z,z,z⟩) _ _ _ hl.tl h
 split at h
 ·simp only [Res.ok.injEq] at h;obtain ⟨rfl,rfl⟩:=h;exact ⟨⟨q0,e0,BZ,BZ,BZ,z,z,z⟩,hl.tl⟩
 split at h
 ·simp only [Res.ok.injEq] at h;obtain ⟨rfl,rfl⟩:=h;exact ⟨⟨q0,e0,BZ,BZ,BZ,z,z,z⟩,hl.tl⟩
 ·exact zAG BG (λ_ _=>zAM (Q:=GdS N) ⟨q0,e0,BZ,BZ,BZ,z,z,z⟩) _ _ _ hl h
theorem LW (hN:1≤N)(n:Nat):∀(m:Nat) (acc:List TStmt),(∀x∈acc,GdS N x)→Postq N (λl=>∀x∈l,GdS N x) (Bj n m acc)
 |0,acc,ha=>zAM ha
 |m+1,acc,ha=>by
  intro l x r hl h;simp only [Bj] at h;split at h
  ·simp only [Res.ok.injEq] at h;obtain ⟨rfl,rfl⟩:=h;exact ⟨ha,hl⟩
  split at h
  ·exact LW hN n m _ ha _ _ _ hl.tl h
  ·obtain ⟨s,q,h1,h2⟩:=bind_ok h;obtain ⟨hs,hq⟩:=ADa hN n _ _ _ hl h1;split at h2
   ·exact LW hN n m _ (by
     intro y hy;rcases zal.1 hy with h|h
     ·exact ha y h
     ·rw [zX.1 h];exact hs) _ _ _ hq h2
   ·cases h2
end
theorem ACR:∀(s:Bs) (n k:Int),(∀d∈s,BI d=true)→0≤n→n≤9223372036854775807→Ic s n=some k→0≤k∧k≤9223372036854775807
 |[],n,k,_,h0,h1,h=>by simp only [Ic,zf] at h;subst h;exact ⟨h0,h1⟩
 |d::r,n,k,hd,h0,h1,h=>by
  simp only [Ic] at h;have hdd:=hd d (zK ..);simp only [BI,zF,decide_eq_true_eq,UInt8.le_iff_toNat_le] at hdd;have e1:(48:UInt8).toNat=48:=rfl;have e2:(57:UInt8).toNat=57:=rfl;split at h
  ·cases h
  ·exact ACR r _ k (λx hx=>hd x (zN _ hx)) zo zo h
theorem AKV {n:Nat}{s r:Bs}{t:Tok}(h:EE n s= .tok t r):Oe t:=by
 have z:∀{k a x},Oe ⟨k,a,x,0⟩:=⟨by simp,by simp⟩;cases s with
 |nil=>simp [EE] at h
 |cons c s=>
  simp only [EE] at h;split at h
  ·unfold JU at h;split at h
   ·cases h
   ·simp only [LexR.tok.injEq] at h;obtain ⟨rfl,_⟩:=h;exact z
  split at h
  ·split at h
   ·cases h
   ·rename_i k hk
    split at h
    ·cases h
    ·simp only [LexR.tok.injEq] at h;obtain ⟨rfl,_⟩:=h;exact ACR _ 0 k (λd hd=>zaM.1 (List.all_takeWhile (p:=BI)) d hd) zx zx hk
  split at h
  ·split at h
   ·cases h
   ·split at h
    ·split at h
     ·cases h
     ·simp only [LexR.tok.injEq] at h;obtain ⟨rfl,_⟩:=h;exact z
    ·simp only [LexR.tok.injEq] at h;obtain ⟨rfl,_⟩:=h;exact z
  split at h
  ·cases h
  ·simp only [LexR.tok.injEq] at h;obtain ⟨rfl,_⟩:=h;exact z
theorem WQ (n:Nat):∀(f:Nat) (acc:List Tok) (s:Bs) (l:List Tok),(∀t∈acc,Oe t)→Dh n f acc s= .toks l→∀t∈l,Oe t
 |0,acc,s,l,ha,h=>by simp only [Dh,LexA.toks.injEq] at h;subst h;exact ha
 |f+1,acc,s,l,ha,h=>by
  simp only [Dh] at h;have app:∀{t:Tok},Oe t→∀x∈acc++[t],Oe x:=by
   intro t ht x hx;rcases zal.1 hx with h|h
   ·exact ha x h
   ·rw [zX.1 h];exact ht
  split at h
  ·simp only [LexA.toks.injEq] at h;subst h;exact app ⟨by simp,by simp⟩
  ·split at h
   ·cases h
   ·rename_i t r' ht
    exact WQ n f _ _ _ (app (AKV ht)) h
theorem ADX (s:Bs):∀x∈(readA s).1,GdS (s.length+1) x:=by
 unfold readA;split
 ·intro x hx;cases hx
 ·rename_i l hl
  have hc:=Iw _ _ _ _ _ hl;have hn:=WQ _ _ _ _ _ BZ hl;split
  ·rename_i x r hx
   exact (LW (N:=s.length+1) zo _ _ _ BZ _ _ _ ⟨by simpa using hc,hn⟩ hx).1
  ·intro x hx;cases hx
mutual
theorem AOE:∀{x:Ex},gdE x→Af x≤1000000000000→okE x
 | .mk k v t n s ty d l,h,hp=>by
  simp only [Af] at hp;have:=Nu l;exact ⟨⟨by have:=h.1.1;omega,h.1.2⟩,by omega,AHp h.2.2 zo⟩
theorem AHp:∀{l:List Ex},gdL l→AX l≤1000000000000→okL l
 |[],_,_=>trivial
 |x::l,h,hp=>by
  simp only [AX] at hp;exact ⟨AOE h.1 zo,AHp h.2 zo⟩
theorem Nu:∀l:List Ex,l.length≤AX l
 |[]=>zak _
 | .mk .. ::l=>by have:=Nu l;simp only [AX,Af,zh];omega
end
section
variable {ω:Om}{I:Imm}{L:LH}{K:Value→M}
theorem YV (a c:Int)(t:Bool)(s:ByteArray):Gl .neq [(TypeDesc.int .i64,0),(TypeDesc.bool,1),(TypeDesc.int .i64,2),(TypeDesc.string,3)] (.agg #[.int .i64 a,.bool t,.int .i64 c,.string s]) (.agg #[.int .i64 a,.bool t,.int .i64 c,.string s])=some (.bool false):=by
 simp [Gl,LC,eqD]
theorem Jg {l:List Ex}{u v:Value}(hE:∀x∈l,∀(I:Imm) (L:LH) (c d:List Value) (K:Value→M),ExV I x c→ExV I x d→K (.bool true) I L→CT ω 49 #[.agg c.toArray,.agg d.toArray] K I L)(hx:ExL I u l)(hy:ExL I v l)(hl:l.length≤1000000000000)(hk:K (.bool true) I L):CT ω 50 #[u,v] K I L:=by
 refine AUD ?_;unfold ASE;simp only [zAK hx,zAK hy,bne_self_eq_false,SSd,Nat.reduceAdd];refine loop (λq st I' L'=>∃k:Nat,k+q=l.length∧st=(Value.bool false,Value.int .i64 (k:Nat),())∧I'=I∧L'=L) l.length ⟨0,by omega,rfl,rfl,rfl⟩ ?_;rintro q st I' L' ⟨k,hq,rfl,rfl,rfl⟩;unfold AFn;simp only [zAK hx,SSd,Nat.reduceAdd];refine AB (λhb=>?_) (λhb=>zAA hk);have hb:k < l.length:=by
  have:=of_decide_eq_true hb;omega
 obtain ⟨bt,off,c1,g1,gl,g2,g3⟩:=zAR hx (i:=k) zo zo;obtain ⟨bu,off2,c2,k1,kl,k2,k3⟩:=zAR hy (i:=k) zo zo;rw [Am hb] at g2 k2;refine draw (Stay I' L') (Stay.start I' L') ?_;simp only [g1,k1,SSd,Nat.reduceAdd];refine Nk gl (g3 I' L' (zAC _) (λ_ h=>by cases h)) ?_;refine Nk kl (k3 I' L' (zAC _) (λ_ h=>by cases h)) ?_;refine call (hE _ (zH hb) _ _ _ _ _ g2 k2 ?_);simp only [zQ,wrap_i64 ((k:Int)+1) zo,SSd,Nat.reduceAdd];exact zAA ⟨q - 1,by omega,k+1,by omega,rfl,rfl,rfl⟩
theorem DR:∀(n:Nat) (x:Ex),DC x≤n→Af x≤1000000000000→∀(I:Imm) (L:LH) (c d:List Value) (K:Value→M),ExV I x c→ExV I x d→K (.bool true) I L→CT ω 49 #[.agg c.toArray,.agg d.toArray] K I L
 |0,x,h,_,_,_,_,_,_,_,_,_=>by have:=Gs x;omega
 |n+1,x,hd,hp,I,L,c,d,K,hx,hy,hk=>by
  obtain ⟨v,rfl,ha⟩:=ExV.iff.1 hx;obtain ⟨u,rfl,hb⟩:=ExV.iff.1 hy;have hdd:=ED x;have hpp:AX x.args < Af x:=by cases x;simp [Af,Ex.args]
  have hll:=Nu x.args;have hE:∀z∈x.args,∀(I:Imm) (L:LH) (c d:List Value) (K:Value→M),ExV I z c→ExV I z d→K (.bool true) I L→CT ω 49 #[.agg c.toArray,.agg d.toArray] K I L:=by
   intro z hz I L c d K hc hd' hk;have:=GV hz;have hq:=Gq hz;exact DR n z zo zo I L c d K hc hd' hk
  refine AUE ?_;unfold ASF;refine AQ (λb1=>AQ (λb2=>?_));repeat' (first|refine zqa ?_|refine zqh (λ_=>?_)|(with_reducible refine call ?_;refine Jg (ω:=ω) hE ha hb zo ?_)|refine zqr ?_|refine zqb ?_|refine zqi ?_ ?_|refine zqc ?_|refine zqg (λ_=>?_) (λ_=>?_)|(simp only [SSd,Nat.reduceAdd,YV,bne_self_eq_false,zAK ha,zAK hb]))
  exact zAE L (zAA hk)
end
section
variable {ω:Om}{I:Imm}{L:LH}{K:Value→M}
theorem AHF {q:TSelect}{v u:Value}{b1 b2:Nat}{l1 l2:List Value}{T1 T2:Nat}{f1 f2:Nat×Nat}[InL b1 L (.cells l1.toArray T1 f1)][InL b2 L (.cells l2.toArray T2 f2)][GetL l1 26 v][GetL l2 26 u](hq:∀x∈q.fOrder,Af x.fExpr≤1000000000000)(hl:q.fOrder.length≤1000000000)(hx:RL TOrderV 12 I [] v q.fOrder)(hy:RL TOrderV 12 I [] u q.fOrder)(hk:Gh (K (.bool true)) I L):Ul ω (.pointer (some ⟨b1,0,none⟩)) (.pointer (some ⟨b2,0,none⟩)) (.bool false) (λv=>Gh (K v)) I L:=by
 unfold Ul;refine loop (λq' st I' L'=>∃k:Nat,k+q'=q.fOrder.length∧st=(Value.bool false,Value.int .i64 (k:Nat),())∧I'=I∧L'=L) q.fOrder.length ⟨0,by omega,rfl,rfl,rfl⟩ ?_;rintro q' st I' L' ⟨k,hkq,rfl,rfl,rfl⟩;unfold AAj;try refine zqe ?_
 refine rdb ?_;simp only [zAK hx,SSd,Nat.reduceAdd];refine AB (λhb=>?_) (λhb=>hk);have hb:k < q.fOrder.length:=by
  have:=of_decide_eq_true hb;omega
 obtain ⟨bt,off,c1,e1,gl,g2,g3⟩:=zAR hx (i:=k) zo zo;obtain ⟨bu,off2,c2,k1,kl,k2,k3⟩:=zAR hy (i:=k) zo zo;rw [Am hb] at g2 k2;obtain ⟨w,rfl,hw⟩:=g2;obtain ⟨z,rfl,hz⟩:=k2;have hp:=hq _ (zH hb);generalize q.fOrder[k]=x at *;have hA:=g3 I' L' (zAC _) nofun;have hB:=k3 I' L' (zAC _) nofun;clear g3 k3 gl kl;have en1:(Ag x.fExpr w).length=11:=rfl;have en2:(Ag x.fExpr z).length=11:=rfl;have xA:Cells I' L' bt (off) (Ag x.fExpr w):=Cells.sub (k:=0) (m:=11) hA;have yA11:Cell I' L' bt (off+11) (.bool x.fDesc):=hA 11 _ rfl;have xB:Cells I' L' bu (off2) (Ag x.fExpr z):=Cells.sub (k:=0) (m:=11) hB;have yB11:Cell I' L' bu (off2+11) (.bool x.fDesc):=hB 11 _ rfl;repeat' (first|(with_reducible first|refine BM ?_|refine EN ?_|refine EM ?_|refine keepA ?_|refine AQ (λ_=>?_)|refine Nk en1 xA ?_|refine Nk en2 xB ?_|refine IR yA11 ?_|refine IR yB11 ?_)|(with_reducible refine call ?_;refine DR (ω:=ω) _ x.fExpr (zW _) hp _ _ _ _ _ (ExV.iff.2 ⟨w,rfl,hw⟩) (ExV.iff.2 ⟨z,rfl,hz⟩) ?_)|refine zqr ?_|refine zqb ?_|refine zqi ?_ ?_|refine zqc ?_|refine zqg (λ_=>?_) (λ_=>?_)|(simp only [SSd,Nat.reduceAdd,e1,k1,bne_self_eq_false]))
 simp only [wrap_i64 ((k:Int)+1) zo];exact zAA ⟨q' - 1,by omega,k+1,by omega,rfl,rfl,rfl⟩
theorem ADU {q:TSelect}{v u:Value}{b1 b2:Nat}{l1 l2:List Value}{T1 T2:Nat}{f1 f2:Nat×Nat}[InL b1 L (.cells l1.toArray T1 f1)][InL b2 L (.cells l2.toArray T2 f2)][GetL l1 2 v][GetL l2 2 u](hq:∀x∈q.fFrom,Af x.fOn≤1000000000000)(hl:q.fFrom.length≤1000000000)(hx:RL TSourceV 14 I [] v q.fFrom)(hy:RL TSourceV 14 I [] u q.fFrom)(hk:Ul ω (.pointer (some ⟨b1,0,none⟩)) (.pointer (some ⟨b2,0,none⟩)) (.bool false) (λv=>Gh (K v)) I L):Um ω (.pointer (some ⟨b1,0,none⟩)) (.pointer (some ⟨b2,0,none⟩)) (.bool false) (λv=>Gh (K v)) I L:=by
 unfold Um;refine loop (λq' st I' L'=>∃k:Nat,k+q'=q.fFrom.length∧st=(Value.bool false,Value.int .i64 (k:Nat),())∧I'=I∧L'=L) q.fFrom.length ⟨0,by omega,rfl,rfl,rfl⟩ ?_;rintro q' st I' L' ⟨k,hkq,rfl,rfl,rfl⟩;unfold AFo;try refine zqe ?_
 refine rdb ?_;simp only [zAK hx,SSd,Nat.reduceAdd];refine AB (λhb=>?_) (λhb=>hk);have hb:k < q.fFrom.length:=by
  have:=of_decide_eq_true hb;omega
 obtain ⟨bt,off,c1,e1,gl,g2,g3⟩:=zAR hx (i:=k) zo zo;obtain ⟨bu,off2,c2,k1,kl,k2,k3⟩:=zAR hy (i:=k) zo zo;rw [Am hb] at g2 k2;obtain ⟨w,rfl,hw⟩:=g2;obtain ⟨z,rfl,hz⟩:=k2;have hp:=hq _ (zH hb);generalize q.fFrom[k]=x at *;have hA:=g3 I' L' (zAC _) nofun;have hB:=k3 I' L' (zAC _) nofun;clear g3 k3 gl kl;have en1:(Ag x.fOn w).length=11:=rfl;have en2:(Ag x.fOn z).length=11:=rfl;have xA:Cells I' L' bt (off+3) (Ag x.fOn w):=Cells.sub (k:=3) (m:=11) hA;have yA0:Cell I' L' bt (off) (.string ⟨x.fTable.toArray⟩):=hA 0 _ rfl;have yA1:Cell I' L' bt (off+1) (.string ⟨x.fAs.toArray⟩):=hA 1 _ rfl;have yA2:Cell I' L' bt (off+2) (.bool x.fLeft):=hA 2 _ rfl;have xB:Cells I' L' bu (off2+3) (Ag x.fOn z):=Cells.sub (k:=3) (m:=11) hB;have yB0:Cell I' L' bu (off2) (.string ⟨x.fTable.toArray⟩):=hB 0 _ rfl;have yB1:Cell I' L' bu (off2+1) (.string ⟨x.fAs.toArray⟩):=hB 1 _ rfl;have yB2:Cell I' L' bu (off2+2) (.bool x.fLeft):=hB 2 _ rfl;repeat' (first|(with_reducible first|refine BM ?_|refine EN ?_|refine EM ?_|refine keepA ?_|refine AQ (λ_=>?_)|refine Nk en1 xA ?_|refine Nk en2 xB ?_|refine IR yA0 ?_|refine IR yB0 ?_|refine IR yA1 ?_|refine IR yB1 ?_|refine IR yA2 ?_|refine IR yB2 ?_)|(with_reducible refine call ?_;refine DR (ω:=ω) _ x.fOn (zW _) hp _ _ _ _ _ (ExV.iff.2 ⟨w,rfl,hw⟩) (ExV.iff.2 ⟨z,rfl,hz⟩) ?_)|refine zqr ?_|refine zqb ?_|refine zqi ?_ ?_|refine zqc ?_|refine zqg (λ_=>?_) (λ_=>?_)|(simp only [SSd,Nat.reduceAdd,e1,k1,bne_self_eq_false]))
 simp only [wrap_i64 ((k:Int)+1) zo];exact zAA ⟨q' - 1,by omega,k+1,by omega,rfl,rfl,rfl⟩
theorem Yo {q:TSelect}{v u:Value}{b1 b2:Nat}{l1 l2:List Value}{T1 T2:Nat}{f1 f2:Nat×Nat}[InL b1 L (.cells l1.toArray T1 f1)][InL b2 L (.cells l2.toArray T2 f2)][GetL l1 1 v][GetL l2 1 u](hq:∀x∈q.fItems,Af x.fExpr≤1000000000000)(hl:q.fItems.length≤1000000000)(hx:RL TItemV 14 I [] v q.fItems)(hy:RL TItemV 14 I [] u q.fItems)(hk:Um ω (.pointer (some ⟨b1,0,none⟩)) (.pointer (some ⟨b2,0,none⟩)) (.bool false) (λv=>Gh (K v)) I L):Ac ((.bool false,.int .i64 0,()):Value×Value×Unit) (λs Kn=>Yd ω (.pointer (some ⟨b1,0,none⟩)) (.pointer (some ⟨b2,0,none⟩)) s.1 s.2.1 Kn (λv=>Gh (K v))) I L:=by
 refine loop (λq' st I' L'=>∃k:Nat,k+q'=q.fItems.length∧st=(Value.bool false,Value.int .i64 (k:Nat),())∧I'=I∧L'=L) q.fItems.length ⟨0,by omega,rfl,rfl,rfl⟩ ?_;rintro q' st I' L' ⟨k,hkq,rfl,rfl,rfl⟩;unfold Yd;try refine zqe ?_
 refine rdb ?_;simp only [zAK hx,SSd,Nat.reduceAdd];refine AB (λhb=>?_) (λhb=>hk);have hb:k < q.fItems.length:=by
  have:=of_decide_eq_true hb;omega
 obtain ⟨bt,off,c1,e1,gl,g2,g3⟩:=zAR hx (i:=k) zo zo;obtain ⟨bu,off2,c2,k1,kl,k2,k3⟩:=zAR hy (i:=k) zo zo;rw [Am hb] at g2 k2;obtain ⟨w,rfl,hw⟩:=g2;obtain ⟨z,rfl,hz⟩:=k2;have hp:=hq _ (zH hb);generalize q.fItems[k]=x at *;have hA:=g3 I' L' (zAC _) nofun;have hB:=k3 I' L' (zAC _) nofun;clear g3 k3 gl kl;have en1:(Ag x.fExpr w).length=11:=rfl;have en2:(Ag x.fExpr z).length=11:=rfl;have xA:Cells I' L' bt (off+2) (Ag x.fExpr w):=Cells.sub (k:=2) (m:=11) hA;have yA0:Cell I' L' bt (off) (.bool x.fStar):=hA 0 _ rfl;have yA1:Cell I' L' bt (off+1) (.string ⟨x.fTable.toArray⟩):=hA 1 _ rfl;have yA13:Cell I' L' bt (off+13) (.string ⟨x.fAs.toArray⟩):=hA 13 _ rfl;have xB:Cells I' L' bu (off2+2) (Ag x.fExpr z):=Cells.sub (k:=2) (m:=11) hB;have yB0:Cell I' L' bu (off2) (.bool x.fStar):=hB 0 _ rfl;have yB1:Cell I' L' bu (off2+1) (.string ⟨x.fTable.toArray⟩):=hB 1 _ rfl;have yB13:Cell I' L' bu (off2+13) (.string ⟨x.fAs.toArray⟩):=hB 13 _ rfl;repeat' (first|(with_reducible first|refine BM ?_|refine EN ?_|refine EM ?_|refine keepA ?_|refine AQ (λ_=>?_)|refine Nk en1 xA ?_|refine Nk en2 xB ?_|refine IR yA0 ?_|refine IR yB0 ?_|refine IR yA1 ?_|refine IR yB1 ?_|refine IR yA13 ?_|refine IR yB13 ?_)|(with_reducible refine call ?_;refine DR (ω:=ω) _ x.fExpr (zW _) hp _ _ _ _ _ (ExV.iff.2 ⟨w,rfl,hw⟩) (ExV.iff.2 ⟨z,rfl,hz⟩) ?_)|refine zqr ?_|refine zqb ?_|refine zqi ?_ ?_|refine zqc ?_|refine zqg (λ_=>?_) (λ_=>?_)|(simp only [SSd,Nat.reduceAdd,e1,k1,bne_self_eq_false]))
 simp only [wrap_i64 ((k:Int)+1) zo];exact zAA ⟨q' - 1,by omega,k+1,by omega,rfl,rfl,rfl⟩
theorem ADT {q:TSelect}{N:Nat}(hN:N≤1000000000)(hq:GdQ N q)(hc:cQ q≤1000000000){c d:List Value}(hx:BX I q c)(hy:BX I q d)(hk:K (.bool true) I L):CT ω 48 #[.agg c.toArray,.agg d.toArray] K I L:=by
 obtain ⟨v0,v1,v2,v3,v4,v5,rfl,h0,h1,h2,h3,h4,h5⟩:=hx;obtain ⟨u0,u1,u2,u3,u4,u5,rfl,g0,g1,g2,g3,g4,g5⟩:=hy;have p:∀{x:Ex},GE N x→Af x≤1000000000000:=λh=>by have:=h.2;omega
 have hgr:∀x∈q.fGroup,∀(I:Imm) (L:LH) (c d:List Value) (K:Value→M),ExV I x c→ExV I x d→K (.bool true) I L→CT ω 49 #[.agg c.toArray,.agg d.toArray] K I L:=λx hx=>DR _ _ (zW _) (p (hq.gr x hx));have hw1:=p hq.wh;have hw2:=p hq.ha;unfold cQ at hc;refine AUF ?_;unfold ASG;refine AQ (λb1=>AQ (λb2=>?_));repeat' (first|refine zqa ?_|refine zqh (λ_=>?_)|(with_reducible refine call ?_;refine DR (ω:=ω) _ q.fWhere (zW _) hw1 _ _ _ _ _ (ExV.iff.2 ⟨v2,rfl,h2⟩) (ExV.iff.2 ⟨u2,rfl,g2⟩) ?_)|(with_reducible refine call ?_;refine DR (ω:=ω) _ q.fHaving (zW _) hw2 _ _ _ _ _ (ExV.iff.2 ⟨v4,rfl,h4⟩) (ExV.iff.2 ⟨u4,rfl,g4⟩) ?_)|(with_reducible refine call ?_;refine Jg (ω:=ω) hgr h3 g3 zo ?_)|refine zqr ?_|refine zqb ?_|refine zqi ?_ ?_|refine zqc ?_|refine zqg (λ_=>?_) (λ_=>?_)|(simp only [SSd,Nat.reduceAdd,bne_self_eq_false,zAK h0,zAK g0,zAK h1,zAK g1,zAK h5,zAK g5]))
 refine Yo (λx hx=>p (hq.it x hx)) zo h0 g0 ?_;refine ADU (λx hx=>p (hq.fr x hx)) zo h1 g1 ?_;refine AHF (λx hx=>p (hq.od x hx)) zo h5 g5 ?_;exact zAE L (zAA hk)
end
section
variable {ω:Om}{I:Imm}{L:LH}{K:Value→M}
theorem Yu {q:TStmt}{v u:Value}{b1 b2:Nat}{l1 l2:List Value}{T1 T2:Nat}{f1 f2:Nat×Nat}[InL b1 L (.cells l1.toArray T1 f1)][InL b2 L (.cells l2.toArray T2 f2)][GetL l1 45 v][GetL l2 45 u](hq:∀x∈q.fCols,Af x.fDefault≤1000000000000)(hl:q.fCols.length≤1000000000)(hx:RL TColV 16 I [] v q.fCols)(hy:RL TColV 16 I [] u q.fCols)(hk:Gh (K (.bool true)) I L):Oz ω (.pointer (some ⟨b1,0,none⟩)) (.pointer (some ⟨b2,0,none⟩)) (.bool false) (λv=>Gh (K v)) I L:=by
 unfold Oz;refine loop (λq' st I' L'=>∃k:Nat,k+q'=q.fCols.length∧st=(Value.bool false,Value.int .i64 (k:Nat),())∧I'=I∧L'=L) q.fCols.length ⟨0,by omega,rfl,rfl,rfl⟩ ?_;rintro q' st I' L' ⟨k,hkq,rfl,rfl,rfl⟩;unfold AAn;try refine zqe ?_
 refine rdb ?_;simp only [zAK hx,SSd,Nat.reduceAdd];refine AB (λhb=>?_) (λhb=>hk);have hb:k < q.fCols.length:=by
  have:=of_decide_eq_true hb;omega
 obtain ⟨bt,off,c1,e1,gl,g2,g3⟩:=zAR hx (i:=k) zo zo;obtain ⟨bu,off2,c2,k1,kl,k2,k3⟩:=zAR hy (i:=k) zo zo;rw [Am hb] at g2 k2;obtain ⟨w,rfl,hw⟩:=g2;obtain ⟨z,rfl,hz⟩:=k2;have hp:=hq _ (zH hb);generalize q.fCols[k]=x at *;obtain ⟨wa,wk,rfl⟩:=zAF hw;obtain ⟨za,zk,rfl⟩:=zAF hz;try refine zqe ?_
 refine rdb ?_;simp only [e1,SSd,Nat.reduceAdd];refine rdN gl (g3 I' L' (zAC _) nofun) ?_;refine AQ (λbx=>?_);refine stB rfl rfl (AY rfl) ?_;try refine zqe ?_
 refine rdb ?_;simp only [k1,SSd,Nat.reduceAdd];refine rdN kl (k3 I' _ (zAC _) nofun) ?_;refine AQ (λby'=>?_);refine stB rfl rfl (AY rfl) ?_;clear g3 k3 gl kl;repeat' (first|refine zqa ?_|refine zqh (λ_=>?_)|(with_reducible refine call ?_;refine DR (ω:=ω) _ x.fDefault (zW _) hp _ _ _ _ _ (ExV.iff.2 ⟨.slice wa x.fDefault.args.length wk,rfl,hw⟩) (ExV.iff.2 ⟨.slice za x.fDefault.args.length zk,rfl,hz⟩) ?_)|refine zqr ?_|refine zqb ?_|refine zqi ?_ ?_|refine zqc ?_|refine zqg (λ_=>?_) (λ_=>?_)|(simp only [SSd,Nat.reduceAdd,bne_self_eq_false]))
 simp only [wrap_i64 ((k:Int)+1) zo];exact zAE L' (zAA ⟨q' - 1,by omega,k+1,by omega,rfl,rfl,rfl⟩)
theorem Yr {q:TStmt}{v u:Value}{b1 b2:Nat}{l1 l2:List Value}{T1 T2:Nat}{f1 f2:Nat×Nat}[InL b1 L (.cells l1.toArray T1 f1)][InL b2 L (.cells l2.toArray T2 f2)][GetL l1 33 v][GetL l2 33 u](hq:∀x∈q.fSets,Af x.fExpr≤1000000000000)(hl:q.fSets.length≤1000000000)(hx:RL TSetV 12 I [] v q.fSets)(hy:RL TSetV 12 I [] u q.fSets)(hk:Oz ω (.pointer (some ⟨b1,0,none⟩)) (.pointer (some ⟨b2,0,none⟩)) (.bool false) (λv=>Gh (K v)) I L):Uy ω (.pointer (some ⟨b1,0,none⟩)) (.pointer (some ⟨b2,0,none⟩)) (.bool false) (λv=>Gh (K v)) I L:=by
 unfold Uy;refine loop (λq' st I' L'=>∃k:Nat,k+q'=q.fSets.length∧st=(Value.bool false,Value.int .i64 (k:Nat),())∧I'=I∧L'=L) q.fSets.length ⟨0,by omega,rfl,rfl,rfl⟩ ?_;rintro q' st I' L' ⟨k,hkq,rfl,rfl,rfl⟩;unfold AGE;try refine zqe ?_
 refine rdb ?_;simp only [zAK hx,SSd,Nat.reduceAdd];refine AB (λhb=>?_) (λhb=>hk);have hb:k < q.fSets.length:=by
  have:=of_decide_eq_true hb;omega
 obtain ⟨bt,off,c1,e1,gl,g2,g3⟩:=zAR hx (i:=k) zo zo;obtain ⟨bu,off2,c2,k1,kl,k2,k3⟩:=zAR hy (i:=k) zo zo;rw [Am hb] at g2 k2;obtain ⟨w,rfl,hw⟩:=g2;obtain ⟨z,rfl,hz⟩:=k2;have hp:=hq _ (zH hb);generalize q.fSets[k]=x at *;have hA:=g3 I' L' (zAC _) nofun;have hB:=k3 I' L' (zAC _) nofun;clear g3 k3 gl kl;have en1:(Ag x.fExpr w).length=11:=rfl;have en2:(Ag x.fExpr z).length=11:=rfl;have xA:Cells I' L' bt (off+1) (Ag x.fExpr w):=Cells.sub (k:=1) (m:=11) hA;have yA0:Cell I' L' bt (off) (.string ⟨x.fColumn.toArray⟩):=hA 0 _ rfl;have xB:Cells I' L' bu (off2+1) (Ag x.fExpr z):=Cells.sub (k:=1) (m:=11) hB;have yB0:Cell I' L' bu (off2) (.string ⟨x.fColumn.toArray⟩):=hB 0 _ rfl;repeat' (first|(with_reducible first|refine BM ?_|refine EN ?_|refine EM ?_|refine keepA ?_|refine AQ (λ_=>?_)|refine Nk en1 xA ?_|refine Nk en2 xB ?_|refine IR yA0 ?_|refine IR yB0 ?_)|(with_reducible refine call ?_;refine DR (ω:=ω) _ x.fExpr (zW _) hp _ _ _ _ _ (ExV.iff.2 ⟨w,rfl,hw⟩) (ExV.iff.2 ⟨z,rfl,hz⟩) ?_)|refine zqr ?_|refine zqb ?_|refine zqi ?_ ?_|refine zqc ?_|refine zqg (λ_=>?_) (λ_=>?_)|(simp only [SSd,Nat.reduceAdd,e1,k1,bne_self_eq_false]))
 simp only [wrap_i64 ((k:Int)+1) zo];exact zAA ⟨q' - 1,by omega,k+1,by omega,rfl,rfl,rfl⟩
theorem Yt {q:TStmt}{v u:Value}{b1 b2:Nat}{l1 l2:List Value}{T1 T2:Nat}{f1 f2:Nat×Nat}[InL b1 L (.cells l1.toArray T1 f1)][InL b2 L (.cells l2.toArray T2 f2)][GetL l1 32 v][GetL l2 32 u](hq:∀x∈q.fRows,(∀y∈x,Af y≤1000000000000)∧x.length≤1000000000000)(hl:q.fRows.length≤1000000000)(hx:RL (FX ExV 11) 1 I [] v q.fRows)(hy:RL (FX ExV 11) 1 I [] u q.fRows)(hk:Uy ω (.pointer (some ⟨b1,0,none⟩)) (.pointer (some ⟨b2,0,none⟩)) (.bool false) (λv=>Gh (K v)) I L):Ac ((.bool false,.int .i64 0,()):Value×Value×Unit) (λs Kn=>Ym ω (.pointer (some ⟨b1,0,none⟩)) (.pointer (some ⟨b2,0,none⟩)) s.1 s.2.1 Kn (λv=>Gh (K v))) I L:=by
 refine loop (λq' st I' L'=>∃k:Nat,k+q'=q.fRows.length∧st=(Value.bool false,Value.int .i64 (k:Nat),())∧I'=I∧L'=L) q.fRows.length ⟨0,by omega,rfl,rfl,rfl⟩ ?_;rintro q' st I' L' ⟨k,hkq,rfl,rfl,rfl⟩;unfold Ym;try refine zqe ?_
 refine rdb ?_;simp only [zAK hx,SSd,Nat.reduceAdd];refine AB (λhb=>?_) (λhb=>hk);have hb:k < q.fRows.length:=by
  have:=of_decide_eq_true hb;omega
 obtain ⟨bt,off,c1,e1,gl,g2,g3⟩:=zAR hx (i:=k) zo zo;obtain ⟨bu,off2,c2,k1,kl,k2,k3⟩:=zAR hy (i:=k) zo zo;rw [Am hb] at g2 k2;obtain ⟨w,rfl,hw⟩:=g2;obtain ⟨z,rfl,hz⟩:=k2;have hp:=hq _ (zH hb);generalize q.fRows[k]=x at *;have hE:∀y∈x,∀(I:Imm) (L:LH) (c d:List Value) (K:Value→M),ExV I y c→ExV I y d→K (.bool true) I L→CT ω 49 #[.agg c.toArray,.agg d.toArray] K I L:=λy hy=>DR _ _ (zW _) (hp.1 y hy);have xA:Cell I' L' bt off w:=g3 I' L' (zAC _) nofun 0 _ rfl;have xB:Cell I' L' bu off2 z:=k3 I' L' (zAC _) nofun 0 _ rfl;repeat' (first|(with_reducible first|refine BM ?_|refine EN ?_|refine EM ?_|refine keepA ?_|refine AQ (λ_=>?_)|refine IR xA ?_|refine IR xB ?_)|(with_reducible refine call ?_;refine Jg (ω:=ω) hE hw hz hp.2 ?_)|refine zqr ?_|refine zqb ?_|refine zqi ?_ ?_|refine zqc ?_|refine zqg (λ_=>?_) (λ_=>?_)|(simp only [SSd,Nat.reduceAdd,e1,k1,bne_self_eq_false]))
 simp only [wrap_i64 ((k:Int)+1) zo];exact zAA ⟨q' - 1,by omega,k+1,by omega,rfl,rfl,rfl⟩
theorem Yp {s:TStmt}{N:Nat}(hN:N≤1000000000)(hq:GdS N s)(hc:cS s≤1000000000){c d:List Value}(hx:TStmtV I s c)(hy:TStmtV I s d)(hk:K (.bool true) I L):CT ω 28 #[.agg c.toArray,.agg d.toArray] K I L:=by
 obtain ⟨v0,v1,v2,v3,v4,v5,v6,v7,v8,v9,v10,v11,v12,rfl,h0,h1,h2,h3,h4,h5,h6,h7,h8,h9,h10,h11,h12⟩:=hx;obtain ⟨u0,u1,u2,u3,u4,u5,u6,u7,u8,u9,u10,u11,u12,rfl,g0,g1,g2,g3,g4,g5,g6,g7,g8,g9,g10,g11,g12⟩:=hy;have p:∀{x:Ex},GE N x→Af x≤1000000000000:=λh=>by have:=h.2;omega
 have hw1:=p hq.wh;have hcq:cQ s.fSelect≤1000000000:=by unfold cS at hc;omega
 have n1:s.fColumns.length≤1000000000000:=by have:=hq.n1;omega
 have n2:s.fKey.length≤1000000000000:=by have:=hq.n2;omega
 have n3:s.fIndex.fColumns.length≤1000000000000:=by have:=hq.n3;omega
 have eb:∀l:List Bs,eqL eqB l l=true:=Xg AIS;have s0:BX I s.fSelect _:=⟨v0,v1,v2,v3,v4,v5,rfl,h0,h1,h2,h3,h4,h5⟩;have s1:BX I s.fSelect _:=⟨u0,u1,u2,u3,u4,u5,rfl,g0,g1,g2,g3,g4,g5⟩;have th6:∀L,RL StrV 1 I L v6 s.fColumns:=λL=>zAL (λ_ _ h=>h) h6 (zAC _) (λ_ h=>by cases h);have tg6:∀L,RL StrV 1 I L u6 s.fColumns:=λL=>zAL (λ_ _ h=>h) g6 (zAC _) (λ_ h=>by cases h);have th11:∀L,RL StrV 1 I L v11 s.fKey:=λL=>zAL (λ_ _ h=>h) h11 (zAC _) (λ_ h=>by cases h);have tg11:∀L,RL StrV 1 I L u11 s.fKey:=λL=>zAL (λ_ _ h=>h) g11 (zAC _) (λ_ h=>by cases h);have th12:∀L,RL StrV 1 I L v12 s.fIndex.fColumns:=λL=>zAL (λ_ _ h=>h) h12 (zAC _) (λ_ h=>by cases h);have tg12:∀L,RL StrV 1 I L u12 s.fIndex.fColumns:=λL=>zAL (λ_ _ h=>h) g12 (zAC _) (λ_ h=>by cases h);unfold cS at hc;refine AUY ?_;unfold ASY;refine AQ (λb1=>AQ (λb2=>?_));repeat' (first|refine zqa ?_|refine zqh (λ_=>?_)|(with_reducible refine call ?_;refine ADT (ω:=ω) hN hq.q hcq s0 s1 ?_)|(with_reducible refine call ?_;refine DR (ω:=ω) _ s.fWhere (zW _) hw1 _ _ _ _ _ (ExV.iff.2 ⟨v9,rfl,h9⟩) (ExV.iff.2 ⟨u9,rfl,g9⟩) ?_)|(with_reducible refine call ?_;refine Gz (ω:=ω) (xs:=s.fColumns) (ys:=s.fColumns) (th6 _) (tg6 _) n1 ?_)|(with_reducible refine call ?_;refine Gz (ω:=ω) (xs:=s.fKey) (ys:=s.fKey) (th11 _) (tg11 _) n2 ?_)|(with_reducible refine call ?_;refine Gz (ω:=ω) (xs:=s.fIndex.fColumns) (ys:=s.fIndex.fColumns) (th12 _) (tg12 _) n3 ?_)|refine zqr ?_|refine zqb ?_|refine zqi ?_ ?_|refine zqc ?_|refine zqg (λ_=>?_) (λ_=>?_)|(simp only [SSd,Nat.reduceAdd,bne_self_eq_false,zAK h7,zAK g7,zAK h8,zAK g8,zAK h10,zAK g10,eb]))
 refine Yt (λx hx=>⟨λy hy=>p ((hq.rows x hx).1 y hy),by have:=(hq.rows x hx).2;omega⟩) zo h7 g7 ?_;refine Yr (λx hx=>p (hq.sets x hx)) zo h8 g8 ?_;refine Yu (λx hx=>p (hq.cols x hx).1) zo h10 g10 ?_;exact zAE L (zAA hk)
theorem ADY {l:List TStmt}{N:Nat}{u v:Value}(hN:N≤1000000000)(hl:l.length≤1000000000)(hq:∀s∈l,GdS N s∧cS s≤1000000000)(hx:RL TStmtV 51 I L u l)(hy:RL TStmtV 51 I L v l)(hk:K (.bool true) I L):CT ω 13 #[u,v] K I L:=by
 refine AUk ?_;unfold ASk;simp only [zAK hx,zAK hy,bne_self_eq_false,SSd,Nat.reduceAdd];refine loop (λq st I' L'=>∃k:Nat,k+q=l.length∧st=(Value.bool false,Value.int .i64 (k:Nat),())∧I'=I∧L'=L) l.length ⟨0,by omega,rfl,rfl,rfl⟩ ?_;rintro q st I' L' ⟨k,hkq,rfl,rfl,rfl⟩;unfold AGZ;simp only [zAK hx,SSd,Nat.reduceAdd];refine AB (λhb=>?_) (λhb=>zAA hk);have hb:k < l.length:=by
  have:=of_decide_eq_true hb;omega
 obtain ⟨bt,off,c1,g1,gl,g2,g3⟩:=zAR hx (i:=k) zo zo;obtain ⟨bu,off2,c2,k1,kl,k2,k3⟩:=zAR hy (i:=k) zo zo;rw [Am hb] at g2 k2;refine draw (Stay I' L') (Stay.start I' L') ?_;simp only [g1,k1,SSd,Nat.reduceAdd];refine Nk gl (g3 I' L' (zAC _) (λ_ h=>h)) ?_;refine Nk kl (k3 I' L' (zAC _) (λ_ h=>h)) ?_;refine call (Yp hN (hq _ (zH hb)).1 (hq _ (zH hb)).2 g2 k2 ?_);simp only [zQ,wrap_i64 ((k:Int)+1) zo,SSd,Nat.reduceAdd];exact zAA ⟨q - 1,by omega,k+1,by omega,rfl,rfl,rfl⟩
end
def spTab:List Int:=(List.range 256).map λi=>spN (UInt8.ofNat i)
theorem WT {P:Program}{W:World}{name:String}{k:IntKind}{zs:List Int}{g:Nat}(h:Lib.TabIs P W name k zs)(hg:P.globalNamed name=some g):∃T fr,Kz W g=some (.cells (zs.map λz=>Value.int k z).toArray T fr):=by
 unfold Lib.TabIs World.var? at h;rw [hg] at h;simp only [zbs] at h;unfold Kz;split at h
 ·rename_i cs T fr hc
  simp only [zf] at h;subst h;exact ⟨T,fr,hc⟩
 ·cases h
theorem YY {W:World}(hL:laidMetH Tryz.prog Rows.sqlparseWordsRow.laid W):SpG (Kz W):=by
 have h1 := hL.filter (λx => x.1 == "strings.asciiSpace");rw [show (Rows.sqlparseWordsRow.laid.filter (λx => x.1 == "strings.asciiSpace")) = [("strings.asciiSpace", Lib.tabData .u8 spTab)] by kernel_rfl, MakeChecks.laidMetH_plain _ _ _ (by kernel_rfl)] at h1;have h2:=Lib.tabIs_of_head (g:=0) (t:=134) (e:=5) (n:=256) (by kernel_rfl) (by kernel_rfl) (by kernel_rfl) (by kernel_rfl) (by kernel_rfl) (by kernel_rfl) h1;obtain ⟨T,fr,h3⟩:=WT h2 (g:=0) (by kernel_rfl);intro c;refine Cell.imm h3 ?_;have hc:=c.toNat_lt;have hl:c.toNat < (spTab.map λz=>Value.int .u8 z).length:=by simp [spTab];omega
 rw [zam,zan hl];simp [spTab]
theorem XF {W:World}(hL:laidMetH Tryz.prog Rows.sqlparseWordsRow.laid W):FY (Kz W):=by
 have h1 := hL.filter (λx => x.1 == "internal/strconv.uint64pow10");rw [show (Rows.sqlparseWordsRow.laid.filter (λx => x.1 == "internal/strconv.uint64pow10")) = [("internal/strconv.uint64pow10", Lib.tabData .u64 Lib.pow10Tab)] by kernel_rfl, MakeChecks.laidMetH_plain _ _ _ (by kernel_rfl)] at h1;have hg : Tryz.prog.globalNamed "internal/strconv.uint64pow10" = some 5 := by kernel_rfl
 have h2 : Lib.TabIs Tryz.prog W "internal/strconv.uint64pow10" .u64 Lib.pow10Tab := Lib.tabIs_of_head (t := 275) (e := 268) (n := 20) hg (by kernel_rfl) (by kernel_rfl) (by kernel_rfl) (by kernel_rfl) (by kernel_rfl) h1;obtain ⟨T,fr,h3⟩:=WT h2 hg;exact ⟨5,T,fr,hg,h3⟩
def tk (k:Int)(s:Bs)(n:Int):Tok:=⟨k,0,s,n⟩
def Tok.st (t:Tok):Tok:={t with at':=0}
inductive Lx:Bs→List Tok→Prop
 |nil {s:Bs}:Bo false s=[]→Lx s []
 |cons {s r r':Bs} {c:UInt8} {t:Tok} {l:List Tok}:Bo false s=c::r→EE 0 (c::r)= .tok t r'→Lx r' l→Lx s (t::l)
def wc (c:UInt8):Bool:=Bq c||BI c
section
variable (bit:Nat→Bool)
end
def stop (l:List Tok):Prop:=∃t r,l=t::r∧(t.kind=6∨(t.kind=5∧t.text=[59]))
structure Sim (S:List Tok→List Tok→Prop)(E:Nat→Nat→Prop):Prop where
 view:∀{l m:List Tok},S l m→(∃t u r q,l=t::r∧m=u::q∧t.st=u.st∧S r q)∨(stop l∧stop m)
 bad:∀{l m:List Tok},S l m→E (hd l).at' (hd m).at'
section
variable {S:List Tok→List Tok→Prop}{E:Nat→Nat→Prop}(h:Sim S E)
include h
omit h
include h
end
def S2 (l m:List Tok):Prop:=∃p q e e',l=p++[e]∧m=q++[e']∧p.map Tok.st=q.map Tok.st∧e.kind=6∧e'.kind=6∧∀t∈p,t.kind≠6
theorem ADg (l:List TStmt):l.length≤BH l:=by
 induction l with
 |nil=>exact zak _
 |cons s l ih=>simp only [BH,zM,zaK,zh,Ha] at *; omega
theorem TW {s:Bs}:∀x∈(CQ s).1,x∈(readA s).1:=by
 intro x hx;unfold CQ at hx;split at hx
 ·cases hx
 split at hx
 ·cases hx
 split at hx
 ·cases hx
 ·exact hx
theorem ADh (s:Bs):(CQ s).1.length≤65537:=by
 unfold CQ;split
 ·simp
 split
 ·simp
 split
 ·simp
 ·have:=LZ s;have:=ADg (readA s).1;show (readA s).1.length≤65537;omega
section
variable {ω:Om}{G I:Imm}{L F:LH}{K:Value→M}
theorem ANi {P:Program}{w:World}{r:Go.Reach}{base T:Nat}{v:Value}{rz:Nat}(hu:P.underlying T=some .string)(o:Value.okWide P w r base T v)(t:TrR rz P w T v.cells.toList):∃l:Bs,v= .string ⟨l.toArray⟩∧l.length≤rz:=by
 obtain ⟨s,rfl⟩:=WideShapes.okWide_string hu o;obtain ⟨l,h1,h2⟩:=ANg hu t;simp only [Value.cells,List.cons.injEq,and_true] at h1;exact ⟨l,h1,h2⟩
end
def FnZ {α:Type}(ω:Om)(fv:Value)(V:Imm→α→Value→Prop)(xs:List α):Prop:=∀x∈xs,∀(I:Imm) (L:LH) (u v:Value) (K:Value→M),V I x u→V I x v→K (.bool true) I L→CW ω fv #[u,v] K I L
section
variable {ω:Om}{I:Imm}{L:LH}{K:Value→M}
theorem Vp {u v:Value}{xs:List Bs}(hx:StL I u xs)(hy:StL I v xs)(hl:xs.length≤1000000000000)(hk:K (.bool true) I L):CT ω 74 #[u,v] K I L:=by
 refine ATr ?_;unfold ARs;simp only [zAK hx,zAK hy,bne_self_eq_false,SSd,Nat.reduceAdd];refine loop (λq st I' L'=>∃k:Nat,k+q=xs.length∧st=(Value.bool false,Value.int .i64 (k:Nat),())∧I'=I∧L'=L) xs.length ⟨0,by omega,rfl,rfl,rfl⟩ ?_;rintro q st I' L' ⟨k,hq,rfl,rfl,rfl⟩;unfold AFf;try refine zqe ?_
 refine AB (λhb=>?_) (λhb=>zAA hk);have hb:k < xs.length:=by
  have:=of_decide_eq_true hb;omega
 obtain ⟨bt,off,c1,g1,gl,g2,g3⟩:=zAR hx (i:=k) zo zo;obtain ⟨bu,off2,c2,k1,kl,k2,k3⟩:=zAR hy (i:=k) zo zo;rw [Am hb] at g2 k2;obtain rfl:=g2;obtain rfl:=k2;refine BM ?_;simp only [g1,k1,SSd,Nat.reduceAdd];refine ASq (g3 I' [] (zAC _) (λ_ h=>h) 0 _ rfl) (zAC _) ?_;refine ASq (k3 I' [] (zAC _) (λ_ h=>h) 0 _ rfl) (zAC _) ?_;simp only [bne_self_eq_false,beq_self_eq_true,zQ,wrap_i64 ((k:Int)+1) zo,SSd,Nat.reduceAdd];exact zAA ⟨q - 1,by omega,k+1,by omega,rfl,rfl,rfl⟩
theorem AIP {u v fv:Value}{xs:List Ex}(hx:RL ExV 11 I [] u xs)(hy:RL ExV 11 I [] v xs)(hf:FnZ ω fv (Ko ExV) xs)(hl:xs.length≤1000000000000)(hk:K (.bool true) I L):CT ω 61 #[u,v,fv] K I L:=by
 refine AUA ?_;unfold ASB;simp only [zAK hx,zAK hy,bne_self_eq_false,SSd,Nat.reduceAdd];refine loop (λq st I' L'=>∃k:Nat,k+q=xs.length∧st=(Value.bool false,Value.int .i64 (k:Nat),())∧I'=I∧L'=L) xs.length ⟨0,by omega,rfl,rfl,rfl⟩ ?_;rintro q st I' L' ⟨k,hq,rfl,rfl,rfl⟩;unfold AFm;try refine zqe ?_
 refine AB (λhb=>?_) (λhb=>zAA hk);have hb:k < xs.length:=by
  have:=of_decide_eq_true hb;omega
 obtain ⟨bt,off,c1,g1,gl,g2,g3⟩:=zAR hx (i:=k) zo zo;obtain ⟨bu,off2,c2,k1,kl,k2,k3⟩:=zAR hy (i:=k) zo zo;rw [Am hb] at g2 k2;simp only [g1,k1,SSd,Nat.reduceAdd];have ho1:=ExV.one g2;have ho2:=ExV.one k2;refine Ep (g3 _ [] (zAC _) (λ_ h=>h)) (zAC _) gl ?_;refine AQ (λb3=>?_);refine stB gl rfl ho1 ?_;refine Ep (k3 I' [] (zAC _) (λ_ h=>h)) (zAC _) kl ?_;refine AQ (λb4=>?_);refine stB kl rfl ho2 ?_;refine rdB gl ?_;refine rdB kl ?_;refine Gj (CalV.to L' (hf _ (zH hb) I' L' _ _ _ ⟨c1,rfl,g2⟩ ⟨c2,rfl,k2⟩ ?_));simp only [wrap_i64 ((k:Int)+1) zo,SSd,Nat.reduceAdd];exact zAA ⟨q - 1,by omega,k+1,by omega,rfl,rfl,rfl⟩
theorem AIO {u v fv:Value}{xs:List TItem}(hx:RL TItemV 14 I [] u xs)(hy:RL TItemV 14 I [] v xs)(hf:FnZ ω fv (Ko TItemV) xs)(hl:xs.length≤1000000000000)(hk:K (.bool true) I L):CT ω 62 #[u,v,fv] K I L:=by
 refine ATz ?_;unfold ASA;simp only [zAK hx,zAK hy,bne_self_eq_false,SSd,Nat.reduceAdd];refine loop (λq st I' L'=>∃k:Nat,k+q=xs.length∧st=(Value.bool false,Value.int .i64 (k:Nat),())∧I'=I∧L'=L) xs.length ⟨0,by omega,rfl,rfl,rfl⟩ ?_;rintro q st I' L' ⟨k,hq,rfl,rfl,rfl⟩;unfold AFl;try refine zqe ?_
 refine AB (λhb=>?_) (λhb=>zAA hk);have hb:k < xs.length:=by
  have:=of_decide_eq_true hb;omega
 obtain ⟨bt,off,c1,g1,gl,g2,g3⟩:=zAR hx (i:=k) zo zo;obtain ⟨bu,off2,c2,k1,kl,k2,k3⟩:=zAR hy (i:=k) zo zo;rw [Am hb] at g2 k2;simp only [g1,k1,SSd,Nat.reduceAdd];have ho1:=TItemV.one g2;have ho2:=TItemV.one k2;refine Ep (g3 _ [] (zAC _) (λ_ h=>h)) (zAC _) gl ?_;refine AQ (λb3=>?_);refine stB gl rfl ho1 ?_;refine Ep (k3 I' [] (zAC _) (λ_ h=>h)) (zAC _) kl ?_;refine AQ (λb4=>?_);refine stB kl rfl ho2 ?_;refine rdB gl ?_;refine rdB kl ?_;refine Gj (CalV.to L' (hf _ (zH hb) I' L' _ _ _ ⟨c1,rfl,g2⟩ ⟨c2,rfl,k2⟩ ?_));simp only [wrap_i64 ((k:Int)+1) zo,SSd,Nat.reduceAdd];exact zAA ⟨q - 1,by omega,k+1,by omega,rfl,rfl,rfl⟩
theorem ZY {u v fv:Value}{xs:List TSource}(hx:RL TSourceV 14 I [] u xs)(hy:RL TSourceV 14 I [] v xs)(hf:FnZ ω fv (Ko TSourceV) xs)(hl:xs.length≤1000000000000)(hk:K (.bool true) I L):CT ω 64 #[u,v,fv] K I L:=by
 refine ATx ?_;unfold ARy;simp only [zAK hx,zAK hy,bne_self_eq_false,SSd,Nat.reduceAdd];refine loop (λq st I' L'=>∃k:Nat,k+q=xs.length∧st=(Value.bool false,Value.int .i64 (k:Nat),())∧I'=I∧L'=L) xs.length ⟨0,by omega,rfl,rfl,rfl⟩ ?_;rintro q st I' L' ⟨k,hq,rfl,rfl,rfl⟩;unfold AFk;try refine zqe ?_
 refine AB (λhb=>?_) (λhb=>zAA hk);have hb:k < xs.length:=by
  have:=of_decide_eq_true hb;omega
 obtain ⟨bt,off,c1,g1,gl,g2,g3⟩:=zAR hx (i:=k) zo zo;obtain ⟨bu,off2,c2,k1,kl,k2,k3⟩:=zAR hy (i:=k) zo zo;rw [Am hb] at g2 k2;simp only [g1,k1,SSd,Nat.reduceAdd];have ho1:=TSourceV.one g2;have ho2:=TSourceV.one k2;refine Ep (g3 _ [] (zAC _) (λ_ h=>h)) (zAC _) gl ?_;refine AQ (λb3=>?_);refine stB gl rfl ho1 ?_;refine Ep (k3 I' [] (zAC _) (λ_ h=>h)) (zAC _) kl ?_;refine AQ (λb4=>?_);refine stB kl rfl ho2 ?_;refine rdB gl ?_;refine rdB kl ?_;refine Gj (CalV.to L' (hf _ (zH hb) I' L' _ _ _ ⟨c1,rfl,g2⟩ ⟨c2,rfl,k2⟩ ?_));simp only [wrap_i64 ((k:Int)+1) zo,SSd,Nat.reduceAdd];exact zAA ⟨q - 1,by omega,k+1,by omega,rfl,rfl,rfl⟩
theorem AEH {u v fv:Value}{xs ys:List (TOrder)}(hx:RL TOrderV 12 I [] u xs)(hy:RL TOrderV 12 I [] v ys)(h1:xs=[])(h2:ys=[])(hk:K (.bool true) I L):CT ω 66 #[u,v,fv] K I L:=by
 subst h1 h2;refine ATv ?_;unfold ARw;simp only [zAK hx,zAK hy,bne_self_eq_false,SSd,Nat.reduceAdd];refine loop (λq st I' L'=>st=(Value.bool false,Value.int .i64 0,())∧I'=I∧L'=L) 0 ⟨rfl,rfl,rfl⟩ ?_;rintro q st I' L' ⟨rfl,rfl,rfl⟩;unfold AFj;try refine zqe ?_
 exact AB (λhb=>absurd hb zx) (λhb=>zAA hk)
theorem AKi {u v fv:Value}{xs ys:List (TSet)}(hx:RL TSetV 12 I [] u xs)(hy:RL TSetV 12 I [] v ys)(h1:xs=[])(h2:ys=[])(hk:K (.bool true) I L):CT ω 70 #[u,v,fv] K I L:=by
 subst h1 h2;refine ATt ?_;unfold ARu;simp only [zAK hx,zAK hy,bne_self_eq_false,SSd,Nat.reduceAdd];refine loop (λq st I' L'=>st=(Value.bool false,Value.int .i64 0,())∧I'=I∧L'=L) 0 ⟨rfl,rfl,rfl⟩ ?_;rintro q st I' L' ⟨rfl,rfl,rfl⟩;unfold AFh;try refine zqe ?_
 exact AB (λhb=>absurd hb zx) (λhb=>zAA hk)
theorem AKk {u v fv:Value}{xs ys:List (TCol)}(hx:RL TColV 16 I [] u xs)(hy:RL TColV 16 I [] v ys)(h1:xs=[])(h2:ys=[])(hk:K (.bool true) I L):CT ω 72 #[u,v,fv] K I L:=by
 subst h1 h2;refine ATs ?_;unfold ARt;simp only [zAK hx,zAK hy,bne_self_eq_false,SSd,Nat.reduceAdd];refine loop (λq st I' L'=>st=(Value.bool false,Value.int .i64 0,())∧I'=I∧L'=L) 0 ⟨rfl,rfl,rfl⟩ ?_;rintro q st I' L' ⟨rfl,rfl,rfl⟩;unfold AFg;try refine zqe ?_
 exact AB (λhb=>absurd hb zx) (λhb=>zAA hk)
theorem AKj {u v fv:Value}{xs ys:List (List Ex)}(hx:RL (FX ExV 11) 1 I [] u xs)(hy:RL (FX ExV 11) 1 I [] v ys)(h1:xs=[])(h2:ys=[])(hk:K (.bool true) I L):CT ω 68 #[u,v,fv] K I L:=by
 subst h1 h2;refine ATu ?_;unfold ARv;simp only [zAK hx,zAK hy,bne_self_eq_false,SSd,Nat.reduceAdd];refine loop (λq st I' L'=>st=(Value.bool false,Value.int .i64 0,())∧I'=I∧L'=L) 0 ⟨rfl,rfl,rfl⟩ ?_;rintro q st I' L' ⟨rfl,rfl,rfl⟩;unfold AFi;try refine zqe ?_
 exact AB (λhb=>absurd hb zx) (λhb=>zAA hk)
theorem AVB (a c:Int)(t:Bool)(s:ByteArray):Gl .eql [(TypeDesc.int .i64,0),(TypeDesc.bool,1),(TypeDesc.int .i64,2),(TypeDesc.string,3)] (.agg #[.int .i64 a,.bool t,.int .i64 c,.string s]) (.agg #[.int .i64 a,.bool t,.int .i64 c,.string s])=some (.bool true):=by
 simp [Gl,LC,eqD]
theorem Eo:∀(n:Nat) (x:Ex),DC x≤n→okE x→∀(I:Imm) (L:LH) (c d:List Value) (K:Value→M),ExV I x c→ExV I x d→K (.bool true) I L→CT ω 60 #[.agg c.toArray,.agg d.toArray] K I L
 |0,x,h,_,_,_,_,_,_,_,_,_=>by have:=Gs x;omega
 |n+1,x,hd,hok,I,L,c,d,K,hx,hy,hk=>by
  obtain ⟨v,rfl,ha⟩:=ExV.iff.1 hx;obtain ⟨u,rfl,hb⟩:=ExV.iff.1 hy;have hdd:=ED x;have hfn:FnZ ω (.func (.func 60) #[] #[]) (Ko ExV) x.args:=by
   rintro z hz I L _ _ K ⟨c,rfl,hc⟩ ⟨d,rfl,hd'⟩ hk;have:=GV hz;exact JR (by kernel_rfl) (Eo n z zo (IL (Ib hok).2.2 hz) I L c d K hc hd' hk)
  refine AUB ?_;unfold ASC;refine AQ (λb1=>AQ (λb2=>?_));repeat' (first|refine zqa ?_|refine zqh (λ_=>?_)|(with_reducible refine call ?_;refine AIP (ω:=ω) ha hb hfn (Ib hok).2.1 ?_)|refine zqr ?_|refine zqb ?_|refine zqi ?_ ?_|refine zqc ?_|refine zqg (λ_=>?_) (λ_=>?_)|(simp only [SSd,Nat.reduceAdd,AVB,beq_self_eq_true]))
  exact zAE L (zAA hk)
theorem AFM {xs:List TItem}(hxs:∀x∈xs,okE x.fExpr):FnZ ω (.func (.func 63) #[] #[]) (Ko TItemV) xs:=by
 rintro x hz I L _ _ K ⟨c,rfl,⟨v0,rfl,h0⟩⟩ ⟨d,rfl,⟨u0,rfl,k0⟩⟩ hk;have hok:=hxs x hz;refine JR (by kernel_rfl) ?_;refine ATy ?_;unfold ARz;refine AQ (λb1=>AQ (λb2=>?_));repeat' (first|refine zqa ?_|refine zqh (λ_=>?_)|(with_reducible refine call ?_;refine Eo (ω:=ω) _ x.fExpr (zW _) hok _ _ _ _ _ (ExV.iff.2 ⟨v0,rfl,h0⟩) (ExV.iff.2 ⟨u0,rfl,k0⟩) ?_)|refine zqr ?_|refine zqb ?_|refine zqi ?_ ?_|refine zqc ?_|refine zqg (λ_=>?_) (λ_=>?_)|(simp only [SSd,Nat.reduceAdd,beq_self_eq_true]))
 exact zAE L (zAA hk)
theorem YX {xs:List TSource}(hxs:∀x∈xs,okE x.fOn):FnZ ω (.func (.func 65) #[] #[]) (Ko TSourceV) xs:=by
 rintro x hz I L _ _ K ⟨c,rfl,⟨v0,rfl,h0⟩⟩ ⟨d,rfl,⟨u0,rfl,k0⟩⟩ hk;have hok:=hxs x hz;refine JR (by kernel_rfl) ?_;refine ATw ?_;unfold ARx;refine AQ (λb1=>AQ (λb2=>?_));repeat' (first|refine zqa ?_|refine zqh (λ_=>?_)|(with_reducible refine call ?_;refine Eo (ω:=ω) _ x.fOn (zW _) hok _ _ _ _ _ (ExV.iff.2 ⟨v0,rfl,h0⟩) (ExV.iff.2 ⟨u0,rfl,k0⟩) ?_)|refine zqr ?_|refine zqb ?_|refine zqi ?_ ?_|refine zqc ?_|refine zqg (λ_=>?_) (λ_=>?_)|(simp only [SSd,Nat.reduceAdd,beq_self_eq_true]))
 exact zAE L (zAA hk)
theorem AJz {a:TStmt}{b1 b2 b3 b4:Nat}{x0 x1 x2 x3 x4 x5 x6 x7 x8 x9 x10 x11 x12 y0 y1 y2 y3 y4 y5 y6 y7 y8 y9 y10 y11 y12:Option Addr}{xk0 xk1 xk2 xk3 xk4 xk5 xk6 xk7 xk8 xk9 xk10 xk11 xk12 yk0 yk1 yk2 yk3 yk4 yk5 yk6 yk7 yk8 yk9 yk10 yk11 yk12 n0 n1 n2 n3 n4 n5 n6 n7 n8 n9 n10 n11 n12:Nat}(hq:OkS a)(e5:a.fSelect.fOrder=[])(e7:a.fRows=[])(e8:a.fSets=[])(e10:a.fCols=[])(h0:RL TItemV 14 I [] (.slice x0 n0 xk0) a.fSelect.fItems)(h1:RL TSourceV 14 I [] (.slice x1 n1 xk1) a.fSelect.fFrom)(h2:ExL I (.slice x2 n2 xk2) a.fSelect.fWhere.args)(h3:RL ExV 11 I [] (.slice x3 n3 xk3) a.fSelect.fGroup)(h4:ExL I (.slice x4 n4 xk4) a.fSelect.fHaving.args)(h5:RL TOrderV 12 I [] (.slice x5 n5 xk5) a.fSelect.fOrder)(h6:RL StrV 1 I [] (.slice x6 n6 xk6) a.fColumns)(h7:RL (FX ExV 11) 1 I [] (.slice x7 n7 xk7) a.fRows)(h8:RL TSetV 12 I [] (.slice x8 n8 xk8) a.fSets)(h9:ExL I (.slice x9 n9 xk9) a.fWhere.args)(h10:RL TColV 16 I [] (.slice x10 n10 xk10) a.fCols)(h11:RL StrV 1 I [] (.slice x11 n11 xk11) a.fKey)(h12:RL StrV 1 I [] (.slice x12 n12 xk12) a.fIndex.fColumns)(g0:RL TItemV 14 I [] (.slice y0 n0 yk0) a.fSelect.fItems)(g1:RL TSourceV 14 I [] (.slice y1 n1 yk1) a.fSelect.fFrom)(g2:ExL I (.slice y2 n2 yk2) a.fSelect.fWhere.args)(g3:RL ExV 11 I [] (.slice y3 n3 yk3) a.fSelect.fGroup)(g4:ExL I (.slice y4 n4 yk4) a.fSelect.fHaving.args)(g5:RL TOrderV 12 I [] (.slice y5 n5 yk5) a.fSelect.fOrder)(g6:RL StrV 1 I [] (.slice y6 n6 yk6) a.fColumns)(g7:RL (FX ExV 11) 1 I [] (.slice y7 n7 yk7) a.fRows)(g8:RL TSetV 12 I [] (.slice y8 n8 yk8) a.fSets)(g9:ExL I (.slice y9 n9 yk9) a.fWhere.args)(g10:RL TColV 16 I [] (.slice y10 n10 yk10) a.fCols)(g11:RL StrV 1 I [] (.slice y11 n11 yk11) a.fKey)(g12:RL StrV 1 I [] (.slice y12 n12 yk12) a.fIndex.fColumns)
  [i1:InL b1 L (.cells (stC a (.slice x0 n0 xk0) (.slice x1 n1 xk1) (.slice x2 n2 xk2) (.slice x3 n3 xk3) (.slice x4 n4 xk4) (.slice x5 n5 xk5) (.slice x6 n6 xk6) (.slice x7 n7 xk7) (.slice x8 n8 xk8) (.slice x9 n9 xk9) (.slice x10 n10 xk10) (.slice x11 n11 xk11) (.slice x12 n12 xk12)).toArray 48 (0,0))] [i2:InL b2 L (.cells (stC a (.slice y0 n0 yk0) (.slice y1 n1 yk1) (.slice y2 n2 yk2) (.slice y3 n3 yk3) (.slice y4 n4 yk4) (.slice y5 n5 yk5) (.slice y6 n6 yk6) (.slice y7 n7 yk7) (.slice y8 n8 yk8) (.slice y9 n9 yk9) (.slice y10 n10 yk10) (.slice y11 n11 yk11) (.slice y12 n12 yk12)).toArray 48 (0,0))] [i3:InL b3 L (.cells (selC a.fSelect (.slice x0 n0 xk0) (.slice x1 n1 xk1) (.slice x2 n2 xk2) (.slice x3 n3 xk3) (.slice x4 n4 xk4) (.slice x5 n5 xk5)).toArray 40 (0,0))] [i4:InL b4 L (.cells (selC a.fSelect (.slice y0 n0 yk0) (.slice y1 n1 yk1) (.slice y2 n2 yk2) (.slice y3 n3 yk3) (.slice y4 n4 yk4) (.slice y5 n5 yk5)).toArray 40 (0,0))]
  (hk:Gh (K (.bool true)) I L):Ux ω (AL b1) (AL b2) (.bool false) (AL b3) (AL b4) (λv=>Gh (K v)) I L:=by
 unfold Ux;have hcnt:=hq.cnt;unfold cS cQ at hcnt;have hfe:FnZ ω (.func (.func 60) #[] #[]) (Ko ExV) a.fSelect.fGroup:=by
  rintro z hzz I L _ _ K ⟨c,rfl,hc⟩ ⟨d,rfl,hd'⟩ hk;exact JR (by kernel_rfl) (Eo _ z (zW _) (IL hq.q.gr hzz) I L c d K hc hd' hk)
 repeat' (first|refine zqa ?_|refine zqh (λ_=>?_)|(with_reducible refine call ?_;refine Eo (ω:=ω) _ a.fSelect.fWhere (zW _) hq.q.wh _ _ _ _ _ (ExV.iff.2 ⟨_,rfl,h2⟩) (ExV.iff.2 ⟨_,rfl,g2⟩) ?_)|(with_reducible refine call ?_;refine Eo (ω:=ω) _ a.fSelect.fHaving (zW _) hq.q.ha _ _ _ _ _ (ExV.iff.2 ⟨_,rfl,h4⟩) (ExV.iff.2 ⟨_,rfl,g4⟩) ?_)|(with_reducible refine call ?_;refine Eo (ω:=ω) _ a.fWhere (zW _) hq.wh _ _ _ _ _ (ExV.iff.2 ⟨_,rfl,h9⟩) (ExV.iff.2 ⟨_,rfl,g9⟩) ?_)|(with_reducible refine call ?_;refine AIP (ω:=ω) h3 g3 hfe zo ?_)|(with_reducible refine call ?_;refine AIO (ω:=ω) h0 g0 (AFM (ω:=ω) hq.q.it) zo ?_)|(with_reducible refine call ?_;refine ZY (ω:=ω) h1 g1 (YX (ω:=ω) hq.q.fr) zo ?_)|(with_reducible refine call ?_;refine AEH (ω:=ω) h5 g5 e5 e5 ?_)|(with_reducible refine call ?_;refine AKj (ω:=ω) h7 g7 e7 e7 ?_)|(with_reducible refine call ?_;refine AKi (ω:=ω) h8 g8 e8 e8 ?_)|(with_reducible refine call ?_;refine AKk (ω:=ω) h10 g10 e10 e10 ?_)|(with_reducible refine call ?_;refine Vp (ω:=ω) h6 g6 hq.n1 ?_)|(with_reducible refine call ?_;refine Vp (ω:=ω) h11 g11 hq.n2 ?_)|(with_reducible refine call ?_;refine Vp (ω:=ω) h12 g12 hq.n3 ?_)|refine zqr ?_|refine zqb ?_|refine zqi ?_ ?_|refine zqc ?_|refine zqg (λ_=>?_) (λ_=>?_)|(simp only [SSd,Nat.reduceAdd,beq_self_eq_true]))
 exact hk
theorem ASo {a:TStmt}{c d:List Value}(hq:OkS a)(e5:a.fSelect.fOrder=[])(e7:a.fRows=[])(e8:a.fSets=[])(e10:a.fCols=[])(hc:TStmtV I a c)(hd:TStmtV I a d)(hk:K (.bool true) I L):CT ω 31 #[.agg c.toArray,.agg d.toArray] K I L:=by
 obtain ⟨v0,v1,v2,v3,v4,v5,v6,v7,v8,v9,v10,v11,v12,rfl,h0,h1,h2,h3,h4,h5,h6,h7,h8,h9,h10,h11,h12⟩:=hc;obtain ⟨u0,u1,u2,u3,u4,u5,u6,u7,u8,u9,u10,u11,u12,rfl,g0,g1,g2,g3,g4,g5,g6,g7,g8,g9,g10,g11,g12⟩:=hd;obtain ⟨x0,xk0,rfl⟩:=zAF h0;obtain ⟨x1,xk1,rfl⟩:=zAF h1;obtain ⟨x2,xk2,rfl⟩:=zAF h2;obtain ⟨x3,xk3,rfl⟩:=zAF h3;obtain ⟨x4,xk4,rfl⟩:=zAF h4;obtain ⟨x5,xk5,rfl⟩:=zAF h5;obtain ⟨x6,xk6,rfl⟩:=zAF h6;obtain ⟨x7,xk7,rfl⟩:=zAF h7;obtain ⟨x8,xk8,rfl⟩:=zAF h8;obtain ⟨x9,xk9,rfl⟩:=zAF h9;obtain ⟨x10,xk10,rfl⟩:=zAF h10;obtain ⟨x11,xk11,rfl⟩:=zAF h11;obtain ⟨x12,xk12,rfl⟩:=zAF h12;obtain ⟨y0,yk0,rfl⟩:=zAF g0;obtain ⟨y1,yk1,rfl⟩:=zAF g1;obtain ⟨y2,yk2,rfl⟩:=zAF g2;obtain ⟨y3,yk3,rfl⟩:=zAF g3;obtain ⟨y4,yk4,rfl⟩:=zAF g4;obtain ⟨y5,yk5,rfl⟩:=zAF g5;obtain ⟨y6,yk6,rfl⟩:=zAF g6;obtain ⟨y7,yk7,rfl⟩:=zAF g7;obtain ⟨y8,yk8,rfl⟩:=zAF g8;obtain ⟨y9,yk9,rfl⟩:=zAF g9;obtain ⟨y10,yk10,rfl⟩:=zAF g10;obtain ⟨y11,yk11,rfl⟩:=zAF g11;obtain ⟨y12,yk12,rfl⟩:=zAF g12;refine AUW ?_;unfold ASW;refine AQ (o:=.cells (stC a (.slice x0 a.fSelect.fItems.length xk0) (.slice x1 a.fSelect.fFrom.length xk1) (.slice x2 a.fSelect.fWhere.args.length xk2) (.slice x3 a.fSelect.fGroup.length xk3) (.slice x4 a.fSelect.fHaving.args.length xk4) (.slice x5 a.fSelect.fOrder.length xk5) (.slice x6 a.fColumns.length xk6) (.slice x7 a.fRows.length xk7) (.slice x8 a.fSets.length xk8) (.slice x9 a.fWhere.args.length xk9) (.slice x10 a.fCols.length xk10) (.slice x11 a.fKey.length xk11) (.slice x12 a.fIndex.fColumns.length xk12)).toArray 48 (0,0)) (λb1=>?_)
 refine AQ (o:=.cells (stC a (.slice y0 a.fSelect.fItems.length yk0) (.slice y1 a.fSelect.fFrom.length yk1) (.slice y2 a.fSelect.fWhere.args.length yk2) (.slice y3 a.fSelect.fGroup.length yk3) (.slice y4 a.fSelect.fHaving.args.length yk4) (.slice y5 a.fSelect.fOrder.length yk5) (.slice y6 a.fColumns.length yk6) (.slice y7 a.fRows.length yk7) (.slice y8 a.fSets.length yk8) (.slice y9 a.fWhere.args.length yk9) (.slice y10 a.fCols.length yk10) (.slice y11 a.fKey.length yk11) (.slice y12 a.fIndex.fColumns.length yk12)).toArray 48 (0,0)) (λb2=>?_);refine BM ?_;try refine zqe ?_
 refine IX (selC a.fSelect (.slice x0 a.fSelect.fItems.length xk0) (.slice x1 a.fSelect.fFrom.length xk1) (.slice x2 a.fSelect.fWhere.args.length xk2) (.slice x3 a.fSelect.fGroup.length xk3) (.slice x4 a.fSelect.fHaving.args.length xk4) (.slice x5 a.fSelect.fOrder.length xk5)) rfl rfl ?_;refine IX (selC a.fSelect (.slice y0 a.fSelect.fItems.length yk0) (.slice y1 a.fSelect.fFrom.length yk1) (.slice y2 a.fSelect.fWhere.args.length yk2) (.slice y3 a.fSelect.fGroup.length yk3) (.slice y4 a.fSelect.fHaving.args.length yk4) (.slice y5 a.fSelect.fOrder.length yk5)) rfl rfl ?_;refine ⟨AQ (λb3=>CV (zAC _) (AQ (λb4=>CV (zAC _) ?_))),AQ (λb4=>CV (zAC _) (AQ (λb3=>CV (zAC _) ?_)))⟩;all_goals
  refine stB rfl rfl (AY rfl) (CV (zAC _) ?_);refine stB rfl rfl (AY rfl) ?_;exact AJz hq e5 e7 e8 e10 h0 h1 h2 h3 h4 h5 h6 h7 h8 h9 h10 h11 h12 g0 g1 g2 g3 g4 g5 g6 g7 g8 g9 g10 g11 g12 (zAE L (zAA hk))
theorem ATE:readA (DL true KZ)=([KZ],ok0):=by kernel_rfl
theorem AHH {G:Imm}(hG:FY G)(hS:SpG G)(hGI:Ext G I){c:List Value}(hc:TStmtV I KZ c)(hk:∀I',Ext I I'→K (.int .i64 0) I' L):CT ω 17 #[.agg c.toArray] K I L:=by
 have hWd:=Ip (ω:=ω) hS;have hcl:=hc.len;refine AUi ?_;unfold ASi;refine AQ (λbs=>?_);refine rdB hcl ?_;refine call (Tu hG hWd hGI AIN hc zq (λI1 hI1=>?_));refine call (TP (Jd hWd) _ zq (zAB hGI hI1) (λI2 a k hI2 hw=>?_));have hI12:=zAB hI1 hI2;rw [ATE] at hw ⊢;simp only [zh,zac,zaA,show ok0.code=0 from rfl,show ((ok0.at':Int))=0 from rfl,SSd,Nat.reduceAdd];refine AQ (λbf=>?_);refine stB rfl rfl (AY rfl) ?_;refine BM ?_;try refine zqe ?_
 refine CB ?_;simp only [show ((0:Int)==0)=true from rfl,show (((1:Nat):Int)==1)=true from rfl,SSd,Nat.reduceAdd];obtain ⟨bt,off,c1,g1,gl,g2,g3⟩:=zAR hw (i:=0) zo zy;have g2:TStmtV I2 KZ c1:=g2;simp only [zh,zac,zaA] at g1;simp only [g1,SSd,Nat.reduceAdd];refine Qo (g3 I2 [] (zAC _) (λ_ h=>h)) (zAC _) gl ?_;refine GK hcl ?_;refine call (ASo AIN rfl rfl rfl rfl g2 (hc.mono hI12) ?_);try refine zqe ?_
 refine rdB hcl ?_;refine EQ (R:=TStmtV) [KZ] [c] rfl rfl rfl (by simp [hcl]) (by simpa using hc.mono hI12) (λhI h=>h.mono hI) (λI3 a3 hI3 hw3=>zAA ?_);refine call (NK _ [KZ] _ _ _ hw3 zq zq (λI4 hI4=>?_));rw [show Jr (BH [KZ]) (Cc [KZ])=0 by decide+kernel];exact zAE L (zAA (hk I4 (zAB hI12 (zAB hI3 hI4))))
theorem ARY {G:Imm}(hG:FY G)(hS:SpG G)(hGI:Ext G I){c:List Value}(hc:TStmtV I KZ c)(hk:∀I',Ext I I'→K (.tuple #[.string ⟨exT3.toArray⟩,.int .i64 0]) I' L):CT ω 16 #[.agg c.toArray] K I L:=by
 have hWd:=Ip (ω:=ω) hS;have hcl:=hc.len;refine AUj ?_;unfold ASj;refine AQ (λbs=>?_);refine rdB hcl ?_;refine call (AHH hG hS hGI hc (λI1 hI1=>?_));simp only [show ((0:Int) != 0)=false from rfl,SSd,Nat.reduceAdd];refine rdB hcl ?_;refine call (Tu hG hWd (zAB hGI hI1) AIN (hc.mono hI1) zq (λI2 hI2=>?_));rw [ATB];simp only [show decide ((65536:Int) < ((exT3.length:Nat):Int))=false by decide+kernel,SSd,Nat.reduceAdd];exact zAE L (zAA (hk I2 (zAB hI1 hI2)))
theorem ANq {G:Imm}(hG:FY G)(hS:SpG G)(hGI:Ext G I)(hk:∀I',Ext I I'→K (.bool true) I' L):CT ω 10 #[] K I L:=by
 have hTok:=Jd (Ip (ω:=ω) hS);refine AUn ?_;unfold ASn;refine call (Ld hTok NK ATG hGI (λI1 a k hI1 hw=>?_));rw [ATD] at hw ⊢;simp only [zh,zac,zaA,show ok0.code=0 from rfl,show ((ok0.at':Int))=0 from rfl,SSd,Nat.reduceAdd];refine AQ (λbf=>?_);refine stB rfl rfl (AY rfl) ?_;try refine zqe ?_
 refine rdb ?_;simp only [show ((0:Int) != 0)=false from rfl,show (((1:Nat):Int) != 1)=false from rfl,SSd,Nat.reduceAdd];obtain ⟨bt,off,c1,g1,gl,g2,g3⟩:=zAR hw (i:=0) zo zy;have g2:TStmtV I1 KZ c1:=g2;simp only [zh,zac,zaA] at g1;simp only [g1,SSd,Nat.reduceAdd];refine Ep (g3 I1 [] (zAC _) (λ_ h=>h)) (zAC _) gl ?_;refine call (ARY hG hS (zAB hGI hI1) g2 (λI2 hI2=>?_));simp only [g1,SSd,Nat.reduceAdd];have hI12:=zAB hI1 hI2;refine Ep (g3 I2 [] hI2 (λ_ h=>h)) (zAC _) gl ?_;refine call (AHH hG hS (zAB hGI hI12) (g2.mono hI2) (λI3 hI3=>?_));refine call (Ld hTok NK ATF (zAB hGI (zAB hI12 hI3)) (λI4 a4 k4 hI4 hw4=>?_));rw [ATC];try refine zqe ?_
 refine AQ (λbh=>?_);refine stB rfl rfl (AY rfl) ?_;simp only [show ((0:Int)==0)=true from rfl,SSd,Nat.reduceAdd];refine BD (λ_=>?_) (λh=>absurd zq h);refine rdB rfl ?_;simp only [UQ,SSd,Nat.reduceAdd];exact zAE L (zAA (hk I4 (zAB hI12 (zAB hI3 hI4))))
end
theorem Yx (s:Bs):∃N,N≤1000000000∧∀x∈(CQ s).1,GdS N x∧cS x≤1000000000:=by
 by_cases hb:65536 < s.length
 ·refine ⟨0,by omega,?_⟩;have hp:CQ s=([],⟨170,65536⟩):=by unfold CQ;rw [if_pos hb]
  rw [hp];intro x hx;cases hx
 ·refine ⟨s.length+1,by omega,λx hx=>?_⟩;have h1:=ADX s x (TW x hx);have h2:=SB s x (TW x hx);exact ⟨h1,by omega⟩
section
variable {ω:Om}{G I:Imm}{L F:LH}{K:Value→M}
theorem ADW (hG:FY G)(hS:SpG G)(hGI:Ext G I)(t:Bs)(hk:∀I',Ext I I'→K (.bool true) I' L):CT ω 3 #[.string ⟨t.toArray⟩] K I L:=by
 have hTok:=Jd (Ip (ω:=ω) hS);refine AVJ ?_;unfold sh3;refine call (ANq hG hS hGI (λI1 hI1=>?_));refine call (Xj t (λI2 v2 hI2 hw2=>?_));try refine zqe ?_
 refine AQ (λbf=>?_);refine stB rfl rfl (AY rfl) ?_;have hG2:=zAB hGI (zAB hI1 hI2);refine call (Ld hTok NK t hG2 (λI3 a3 k3 hI3 hw3=>?_));try refine zqe ?_
 refine AQ (λbg=>?_);refine stB rfl rfl (AY rfl) ?_;obtain ⟨N,hN,hgd⟩:=Yx t;have hlen:=ADh t;refine call (ADY (l:=(CQ t).1) (N:=N) hN zo hgd (zAL (I:=I3) (λ_ _ h=>h) hw3 (zAC _) (λ_ h=>by cases h)) (zAL (I:=I2) (λ_ _ h=>TStmtV.mono h hI3) hw2 hI3 (λ_ h=>by cases h)) ?_);repeat' (first|refine zqa ?_|refine zqh (λ_=>?_)|refine zqr ?_|refine zqb ?_|refine zqi ?_ ?_|refine zqc ?_|refine zqg (λ_=>?_) (λ_=>?_)|refine zqe ?_|fail)
 exact zAE L (zAA (hk I3 (zAB hI1 (zAB hI2 hI3))))
theorem reads_walk {W:World}{base:Nat}{v0:Value}(hL:laidMetH Tryz.prog Rows.sqlparseReadsRow.laid W)(o0:Value.okWide Tryz.prog W .any base 9 v0)(t0:Tr Tryz.prog W 9 v0.cells.toList)(ω:Om):
  CT ω 3 #[v0] (λv I' _=>v= .bool true∧Ext (Kz W) I') (Kz W) []:=by
 obtain ⟨a,rfl,ha⟩:=ANi Tryz.underlying9 o0 t0;exact ADW (XF hL) (YY hL) (zAC _) a (λI' hI=>⟨rfl,hI⟩)
end
end Go.Proofs.YtkifgfanjcfedaaGreatDoor
