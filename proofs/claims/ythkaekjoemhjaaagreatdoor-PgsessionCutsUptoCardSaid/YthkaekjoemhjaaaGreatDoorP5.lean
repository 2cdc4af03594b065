/- lemmas -/
import Derived.Test.YthkaekjoemhjaaaGreatDoorP4
import Derived.Test.YthkaekjoemhjaaaGreatDoorP3
set_option maxRecDepth 100000
set_option maxHeartbeats 40000000
set_option linter.unusedVariables false
set_option linter.unusedSimpArgs false
set_option linter.unusedSectionVars false
namespace Go.Proofs.YthkaekjoemhjaaaGreatDoor
open Go.SL
section
variable {ω:Om}{I:Imm}{L:LH}{K:Value→M}{C:Obj→LH}{b:Nat}{w:Value}{s:Bs}{a:Nat}
theorem Qo {v:Value}{ws:List Bs}(hw:StL I v ws)(hws:ws.length≤1000)(t:Bs)(hk:K (.bool (ws.contains t)) I L):CT ω 220 #[v,.string ⟨t.toArray⟩] K I L:=by
 refine ANX ?_;unfold AJm;refine call ?_;refine AMv ?_;unfold AJQ;simp only [zAQ hw,SSd,Nat.reduceAdd];refine loop (λm st I2 Lx=>∃i:Nat,i+m=ws.length∧I2=I∧st=(.int .i64 0,.int .i64 i,())∧Lx=L∧∀j (hj:j < ws.length),j < i→(ws[j]==t)=false) ws.length ⟨0,by omega,rfl,rfl,rfl,λj _ h=>by omega⟩ ?_;rintro m st I2 Lx ⟨i,h1,rfl,rfl,rfl,hall⟩;unfold Yl;try refine zqe ?_
 refine AP (λhb=>?_) (λhb=>?_)
 ·have hb:i < ws.length:=by
   have:((i:Int) < ws.length):=by simpa using hb
   omega
  obtain ⟨bw,off,cw,hi1,_,hi2,hi3⟩:=RL.ix hw (i:=i) zo zo;rw [BH hb] at hi2;obtain rfl:=hi2;simp only [hi1,SSd,Nat.reduceAdd];refine rd1 ((hi3 _ [] (zAC _) (λ_ h=>h) 0 _ rfl).mono (zAC _) (λ_ h=>by cases h)) ?_;try refine zqe ?_
  refine AP (λhe=>?_) (λhe=>?_)
  ·have he:t=ws[i]:=by simpa using he
   have hc:ws.contains t=true:=by
    rw [List.contains_iff_mem,he];exact zaG hb
   rw [hc] at hk;refine zAA ?_;have e1:decide ((0:Int)≤(i:Int))=true:=by simp
   simp only [e1,SSd,Nat.reduceAdd];exact zAA hk
  ·have he:t≠ws[i]:=by simpa using he
   simp only [wrap_i64 ((i:Int)+1) zo,SSd,Nat.reduceAdd];refine zAA ⟨m - 1,by omega,i+1,by omega,rfl,rfl,rfl,λj hj hji=>?_⟩;rcases Nat.lt_or_eq_of_le (Nat.le_of_lt_succ hji) with hlt|rfl
   ·exact hall j hj hlt
   ·simpa using λe=>he e.symm
 ·have hb:¬i < ws.length:=by
   have:¬((i:Int) < ws.length):=by simpa using hb
   omega
  have hc:ws.contains t=false:=by
   cases hc:ws.contains t with
   |false=>rfl
   |true=>
    rw [List.contains_iff_mem] at hc;obtain ⟨j,hj,e⟩:=List.mem_iff_getElem.1 hc;have:=hall j hj zo;simp [e] at this
  rw [hc] at hk;refine zAA ?_;repeat' (first|refine zqa ?_|refine zqh (λ_=>?_)|refine zqr ?_|refine zqb ?_|refine zqi ?_ ?_|refine zqc ?_|refine zqg (λ_=>?_) (λ_=>?_)|refine zqe ?_|fail)
  exact zAA hk
theorem AAi (c:UInt8)(h:(DJ c||Bi c)=true):c.toNat < 128:=by
 have:=FY (p:=λc=>decide ((DJ c||Bi c)=true→c.toNat < 128)) zq c;exact of_decide_eq_true this h
theorem AIV (c:UInt8)(h:Bi c=true):c.toNat < 128:=AAi c (by simp [h])
theorem EL {p:UInt8→Bool}:∀{l:Bs} {c:UInt8},c∈l.takeWhile p→p c=true
 |x::l,c,h=>by
  by_cases hx:p x=true
  ·rw [List.takeWhile_cons_of_pos hx] at h;rcases zX.1 h with rfl|h
   ·exact hx
   ·exact EL h
  ·rw [List.takeWhile_cons_of_neg hx] at h;cases h
def AQe (s:Bs)(a:Nat)(K:Value→M)(C:Obj→LH)(w:Value)(I:Imm):Prop:=
 (∀t r,Hy a (s.drop a)= .tok t r→∀I' a',Ext I I'→a < a'→a'≤s.length→s.drop a'=r→K (.tuple #[ACw t.kind t.at' t.text t.num,.int .i64 0]) I' (C (LBo s a' w)))∧
 (∀e,Hy a (s.drop a)= .bad e→e≠0∧∀I' a' k x n,Ext I I'→K (.tuple #[ACw k a x n,.int .i64 e]) I' (C (LBo s a' w)))
theorem Ue {p:UInt8→Bool}{s:Bs}{a a':Nat}{c:UInt8}(hd:s.drop a=c::s.drop (a+1))(hp:p c=true)(h1:a≤a')(hdr:s.drop a'=(s.drop a).dropWhile p):a < a':=by
 rcases Nat.lt_or_eq_of_le h1 with h|rfl
 ·exact h
 ·rw [hd,List.dropWhile_cons_of_pos hp] at hdr;have h2:=congrArg List.length hdr;have h3:((s.drop (a+1)).dropWhile p).length≤(s.drop (a+1)).length:=(List.dropWhile_suffix p).length_le;simp only [zf] at h2;omega
theorem ABq [hF:Foc b L (LBo s a w) C](ha:a < s.length)(hs:s.length≤900000000)(hw:StL I w wordsL)(hk:AQe s a K C w I):CT ω 184 #[Ac b] K I L:=by
 obtain ⟨L1,L2,rfl,rfl⟩:=hF.foc;obtain ⟨aw,kw,rfl⟩:=zAH hw;obtain ⟨hok,hbad⟩:=hk;obtain ⟨c,hc,hd⟩:=QP ha;refine ANu ?_;unfold AKG;refine Am (λb1=>?_);try refine zqe ?_
 refine rdb ?_;repeat' (first|refine zqa ?_|refine zqh (λ_=>?_)|refine zqr ?_|refine zqb ?_|refine zqi ?_ ?_|refine zqc ?_|refine zqg (λ_=>?_) (λ_=>?_)|refine zqe ?_|fail)
 rename_i bt
 simp only [ixS s hc,SSd,Nat.reduceAdd];refine call (JP c ?_);refine AP (λhl=>?_) (λhl=>?_)
 ·have hp:(DJ c||Bi c)=true:=by rw [show DJ c=true from hl];rfl
  refine call (Oe (s:=s) (a:=a) (w:=.slice aw wordsL.length kw) ACn (zbv ha) hs (λa' h1 h2 hdr=>?_));have hlt:=Ue hd hp h1 hdr;have htl:((s.drop a).takeWhile λc=>DJ c||Bi c).length≤900000000:=zaq (List.takeWhile_prefix _).length_le zu;refine call (AFH _ htl (λd hd=>AAi d (EL (p:=λc=>DJ c||Bi c) hd)) ?_);have hone:Hy a (s.drop a)=NK (((s.drop a).takeWhile λc=>DJ c||Bi c).map Ej) a ((s.drop a).dropWhile λc=>DJ c||Bi c):=by
   rw [hd];simp only [Hy];rw [if_pos (show DJ c=true from hl)]
  generalize htx:(((s.drop a).takeWhile λc=>DJ c||Bi c).map Ej)=tx at hone ⊢;repeat' (first|refine zqa ?_|refine zqh (λ_=>?_)|refine zqr ?_|refine zqb ?_|refine zqi ?_ ?_|refine zqc ?_|refine zqg (λ_=>?_) (λ_=>?_)|refine zqe ?_|fail)
  refine call (Qo hw zx tx ?_);refine AP (λhcn=>?_) (λhcn=>?_);all_goals repeat' (first|refine zqa ?_|refine zqh (λ_=>?_)|refine zqr ?_|refine zqb ?_|(with_reducible first|refine BJ (sh184_1.eq_1 ..) ?_|refine BJ (sh184_3.eq_1 ..) ?_|refine And.intro ?_ ?_)|refine zqc ?_|refine zqg (λ_=>?_) (λ_=>?_)|refine zqe ?_|fail)
  all_goals (rename_i h63;simp only [decide_eq_true_eq,decide_eq_false_iff_not] at h63)
  all_goals first
   |exact zAG (L1++(b,LBo s a' (.slice aw wordsL.length kw))::L2) (zAA ((hbad 173 (by rw [hone];unfold NK;rw [if_pos zo])).2 I a' _ _ _ (zAC _)))
   |exact zAG (L1++(b,LBo s a' (.slice aw wordsL.length kw))::L2) (zAA (hok ⟨2,a,tx,0⟩ _ (by rw [hone];unfold NK;rw [if_neg zo,hcn];rfl) I a' (zAC _) hlt h2 hdr))
   |exact zAG (L1++(b,LBo s a' (.slice aw wordsL.length kw))::L2) (zAA (hok ⟨1,a,tx,0⟩ _ (by rw [hone];unfold NK;rw [if_neg zo,hcn];rfl) I a' (zAC _) hlt h2 hdr))
 have hl:DJ c=false:=by simpa using hl
 refine call (KO c ?_);refine AP (λhg=>?_) (λhg=>?_)
 ·repeat' (first|refine zqa ?_|refine zqh (λ_=>?_)|refine zqr ?_|refine zqb ?_|refine zqi ?_ ?_|refine zqc ?_|refine zqg (λ_=>?_) (λ_=>?_)|refine zqe ?_|fail)
  refine call (Oe (s:=s) (a:=a) (w:=.slice aw wordsL.length kw) ACS (zbv ha) hs (λa' h1 h2 hdr=>?_));have hlt:=Ue hd hg h1 hdr;have htl:((s.drop a).takeWhile Bi).length≤900000000:=zaq (List.takeWhile_prefix _).length_le zu;have hasc:∀d∈(s.drop a).takeWhile Bi,d.toNat < 128:=λd hd=>AIV d (EL hd);have hdig:∀d∈(s.drop a).takeWhile Bi,Bi d=true:=λd hd=>EL hd;have hone:Hy a (s.drop a)=match Pz ((s.drop a).takeWhile Bi) 0 with
   |none=>.bad 172
   |some k=>if ((s.drop a).dropWhile Bi).head?.any DJ then .bad 172 else .tok ⟨3,a,[],k⟩ ((s.drop a).dropWhile Bi):=by
   rw [hd];simp only [Hy];rw [if_neg (by rw [hl];decide),if_pos hg];cases Pz (List.takeWhile Bi (c::List.drop (a+1) s)) 0 <;> rfl
  generalize (s.drop a).takeWhile Bi=ds at hone hasc hdig htl ⊢;refine ⟨⟨ds.toArray⟩,rfl,λb2=>zAA ?_⟩;refine loop (λm st I2 Lx=>∃(j:Nat) (n:Int),j+m=ds.length∧I2=I∧st=(.int .i64 0,())∧Lx=(b2,.stringIter ⟨ds.toArray⟩ j)::(bt,.cells [.int .i64 3,.int .i64 (a:Nat),.string ⟨#[]⟩,.int .i64 n].toArray 247 (0,0))::(b1,.cells [.int .i64 0,.int .i64 0,.string ⟨#[]⟩,.int .i64 0].toArray 247 (0,0))::(L1++(b,LBo s a' (.slice aw wordsL.length kw))::L2)∧0≤n∧n≤9223372036854775807∧Pz ds 0=Pz (ds.drop j) n) ds.length ⟨0,0,by omega,rfl,rfl,rfl,by omega,by omega,rfl⟩ ?_;rintro m st I2 Lx ⟨j,n,hj,rfl,rfl,rfl,hn0,hn1,hm⟩;unfold ZV;refine UF (L1:=[]) hasc (λd hdj hda=>zAA ?_) (λhe=>zAA ?_)
  ·obtain ⟨hjl,hje⟩:=zaj.1 hdj;have hdg:=hdig d (hje ▸ zaG hjl);simp only [Bi,zF,decide_eq_true_eq] at hdg;have g1:(48:Nat)≤d.toNat:=hdg.1;have g2:d.toNat≤57:=hdg.2;have hdd:ds.drop j=d::ds.drop (j+1):=by rw [zaz hjl,hje]
   rw [hdd] at hm;simp only [Pz] at hm;have e1:IntKind.i32.wrap ((d.toNat:Int) - 48)=(d.toNat:Int) - 48:=IntWalk.i32_in _ zo;have e2:IntKind.i64.wrap ((d.toNat:Int) - 48)=(d.toNat:Int) - 48:=wrap_i64 _ zo;have e3:IntKind.i64.wrap (9223372036854775807 - ((d.toNat:Int) - 48))=9223372036854775807 - ((d.toNat:Int) - 48):=wrap_i64 _ zo;have e4:AA .quo (.int .i64 (9223372036854775807 - ((d.toNat:Int) - 48))) (.int .i64 10)=some (.int .i64 ((9223372036854775807 - ((d.toNat:Int) - 48)) / 10)):=by
    rw [AGp _ _ .i64 zx,Int.tdiv_eq_ediv_of_nonneg zo,wrap_i64 _ zo]
   repeat' (first|refine zqa ?_|refine zqh (λ_=>?_)|refine zqr ?_|refine zqb ?_|refine zqi ?_ ?_|refine zqc ?_|refine zqg (λ_=>?_) (λ_=>?_)|(simp only [SSd,Nat.reduceAdd,e1,e2,e3,e4]))
   ·rename_i hgt
    have hgt:=of_decide_eq_true hgt;rw [if_pos hgt] at hm;exact zAG (L1++(b,LBo s a' (.slice aw wordsL.length kw))::L2) (zAA ((hbad 172 (by rw [hone,hm])).2 I2 a' _ _ _ (zAC _)))
   ·rename_i hgt
    have hgt:=of_decide_eq_false hgt;rw [if_neg hgt] at hm;have hle:n≤(9223372036854775807 - ((d.toNat:Int) - 48)) / 10:=by omega
    have e5:IntKind.i64.wrap (10 * n)=10 * n:=wrap_i64 _ zo;have e6:IntKind.i64.wrap (10 * n+((d.toNat:Int) - 48))=10 * n+((d.toNat:Int) - 48):=wrap_i64 _ zo;rw [e5,e6];exact zAA ⟨m - 1,by omega,j+1,10 * n+((d.toNat:Int) - 48),by omega,rfl,trivial,rfl,by omega,by omega,hm⟩
  ·try refine zqe ?_
   have hjn:ds.drop j=[]:=zat he;rw [hjn] at hm;have hm:Pz ds 0=some n:=hm;simp only [hm] at hone;unfold ZU;refine Dy ?_;try refine zqe ?_
   refine BM ?_;try refine zqe ?_
   refine BM ?_;try refine zqe ?_
   refine BZ (λhb=>?_) (λhb=>?_)
   ·have hb:a' < s.length:=by
     have:=of_decide_eq_true hb;omega
    obtain ⟨c2,hc2,hd2⟩:=QP hb;refine BM ?_;try refine zqe ?_
    refine BM ?_;simp only [ixS s hc2,SSd,Nat.reduceAdd];refine call (JP c2 ?_);have hany:((s.drop a).dropWhile Bi).head?.any DJ=DJ c2:=by rw [←hdr,hd2];rfl
    rw [hany] at hone;refine AP (λhl2=>?_) (λhl2=>?_)
    ·unfold ZT;repeat' (first|refine zqa ?_|refine zqh (λ_=>?_)|refine zqr ?_|refine zqb ?_|refine zqi ?_ ?_|refine zqc ?_|refine zqg (λ_=>?_) (λ_=>?_)|refine zqe ?_|fail)
     exact zAG (L1++(b,LBo s a' (.slice aw wordsL.length kw))::L2) (zAA ((hbad 172 (by rw [hone,if_pos hl2])).2 I2 a' _ _ _ (zAC _)))
    ·unfold OO;repeat' (first|refine zqa ?_|refine zqh (λ_=>?_)|refine zqr ?_|refine zqb ?_|refine zqi ?_ ?_|refine zqc ?_|refine zqg (λ_=>?_) (λ_=>?_)|refine zqe ?_|fail)
     exact zAG (L1++(b,LBo s a' (.slice aw wordsL.length kw))::L2) (zAA (hok ⟨3,a,[],n⟩ _ (by rw [hone,if_neg (by simpa using hl2)]) I2 a' (zAC _) hlt h2 hdr))
   ·have hb:¬a' < s.length:=by
     have hb:¬((a':Int) < s.length):=by simpa using hb
     omega
    have hany:((s.drop a).dropWhile Bi).head?.any DJ=false:=by
     rw [←hdr,zat zo];rfl
    rw [hany] at hone;unfold OO;repeat' (first|refine zqa ?_|refine zqh (λ_=>?_)|refine zqr ?_|refine zqb ?_|refine zqi ?_ ?_|refine zqc ?_|refine zqg (λ_=>?_) (λ_=>?_)|refine zqe ?_|fail)
    exact zAG (L1++(b,LBo s a' (.slice aw wordsL.length kw))::L2) (zAA (hok ⟨3,a,[],n⟩ _ (by rw [hone];rfl) I2 a' (zAC _) hlt h2 hdr))
 ·have hg:Bi c=false:=by simpa using hg
  have hone:Hy a (s.drop a)=if c==34||c==39 then (match Eg c (s.drop (a+1)) with
   |none=>.bad 173
   |some (x,r')=>if c==34 then (if x.isEmpty||decide (63 < x.length) then .bad 173 else .tok ⟨1,a,x,0⟩ r') else .tok ⟨4,a,x,0⟩ r') else
   match Oz (s.drop a) with
   |none=>.bad 171
   |some x=>.tok ⟨5,a,if x=[33,61] then [60,62] else x,0⟩ ((s.drop a).drop x.length):=by
   rw [hd];simp only [Hy];rw [if_neg (by rw [hl];decide),if_neg (by rw [hg];decide)];split
   ·cases Eg c (s.drop (a+1)) <;> rfl
   ·cases Oz (c::s.drop (a+1)) <;> rfl
  have e34:((c.toNat:Int)==34)=(c==34):=Ug c 34;have e39:((c.toNat:Int)==39)=(c==39):=Ug c 39;simp only [e34,e39,SSd,Nat.reduceAdd];have quo:(c==34||c==39)=true→JE ω (Ac b) (Ac b1) (.int .i64 0) (Ac bt) (.int .u8 c.toNat) (.bool true) (λv=>Gh (K v)) I ((bt,.cells [.int .i64 0,.int .i64 (a:Nat),.string ⟨#[]⟩,.int .i64 0].toArray 247 (0,0))::(b1,.cells [.int .i64 0,.int .i64 0,.string ⟨#[]⟩,.int .i64 0].toArray 247 (0,0))::(L1++(b,LBo s a (.slice aw wordsL.length kw))::L2)):=by
   intro hq;rw [if_pos hq] at hone;have hc0:c≠0:=by rintro rfl;simp at hq
   unfold JE;try refine zqe ?_
   refine call (VO (s:=s) (a:=a) (w:=.slice aw wordsL.length kw) c hc0 ha hs (λhn x=>?_) (λx r hy a' h1 h2 hdr=>?_))
   ·rw [hn] at hone;repeat' (first|refine zqa ?_|refine zqh (λ_=>?_)|refine zqr ?_|refine zqb ?_|(with_reducible first|refine BJ (sh184_11.eq_1 ..) ?_|refine BJ (sh184_3.eq_1 ..) ?_|refine And.intro ?_ ?_)|refine zqc ?_|refine zqg (λ_=>?_) (λ_=>?_)|(simp only [SSd,Nat.reduceAdd,e34]))
    all_goals exact zAG (L1++(b,LBo s a (.slice aw wordsL.length kw))::L2) (zAA ((hbad 173 hone).2 I a _ _ _ (zAC _)))
   ·rw [hy] at hone;simp only at hone
    repeat' (first|refine zqa ?_|refine zqh (λ_=>?_)|refine zqr ?_|refine zqb ?_|(with_reducible first|refine BJ (sh184_11.eq_1 ..) ?_|refine BJ (sh184_3.eq_1 ..) ?_|refine And.intro ?_ ?_)|refine zqc ?_|refine zqg (λ_=>?_) (λ_=>?_)|(simp only [SSd,Nat.reduceAdd,e34]))
    all_goals clear hw
    all_goals first
     |exact zAG (L1++(b,LBo s a' (.slice aw wordsL.length kw))::L2) (zAA ((hbad 173 (by rw [hone];first|(clear hok hbad;simp_all [zbk];done)|(clear hok hbad;simp_all [zbk] <;> omega))).2 I a' _ _ _ (zAC _)))
     |exact zAG (L1++(b,LBo s a' (.slice aw wordsL.length kw))::L2) (zAA (hok ⟨1,a,x,0⟩ _ (by rw [hone];first|(clear hok hbad;simp_all [zbk];done)|(clear hok hbad;simp_all [zbk] <;> omega)) I a' (zAC _) h1 h2 hdr))
     |exact zAG (L1++(b,LBo s a' (.slice aw wordsL.length kw))::L2) (zAA (hok ⟨4,a,x,0⟩ _ (by rw [hone];first|(clear hok hbad;simp_all [zbk];done)|(clear hok hbad;simp_all [zbk] <;> omega)) I a' (zAC _) h1 h2 hdr))
  refine AP (λh34=>?_) (λh34=>?_)
  ·rw [show (c==34)=true from h34];exact quo (by simp [show (c==34)=true from h34])
  have h34:(c==34)=false:=by simpa using h34
  cases h39:(c==39) with
  |true=>exact quo (by simp [h39])
  |false=>
   rw [h34,h39] at hone;simp only [Bool.or_self,zl,if_false] at hone;unfold JE;try refine zqe ?_
   refine rdB rfl ?_;refine call (ABU (s:=s) (a:=a) (w:=.slice aw wordsL.length kw) ha hs a (λhn I' hI'=>?_) (λx hx hle I' hI'=>?_))
   ·rw [hn] at hone;simp only at hone
    repeat' (first|refine zqa ?_|refine zqh (λ_=>?_)|refine zqr ?_|refine zqb ?_|refine zqi ?_ ?_|refine zqc ?_|refine zqg (λ_=>?_) (λ_=>?_)|refine zqe ?_|fail)
    exact zAG (L1++(b,LBo s a (.slice aw wordsL.length kw))::L2) (zAA ((hbad 171 hone).2 I' a _ _ _ hI'))
   ·rw [hx] at hone;simp only at hone
    have hx0:0 < x.length:=by
     have:x∈signsL:=List.mem_of_find?_eq_some hx;simp only [signsL,zX,zaT,or_false] at this;rcases this with rfl|rfl|rfl|rfl|rfl|rfl|rfl|rfl|rfl|rfl|rfl|rfl|rfl|rfl|rfl|rfl|rfl|rfl <;> decide
    repeat' (first|refine zqa ?_|refine zqh (λ_=>?_)|refine zqr ?_|refine zqb ?_|refine zqi ?_ ?_|refine zqc ?_|refine zqg (λ_=>?_) (λ_=>?_)|refine zqe ?_|fail)
    exact zAG (L1++(b,LBo s (a+x.length) (.slice aw wordsL.length kw))::L2) (zAA (hok _ _ hone I' (a+x.length) hI' zo hle (by rw [List.drop_drop])))
end
theorem CalVP.mono {P:Program}{ω:Om}{x:Value}{args:Array Value}{K K' Pn Pn':Value→M}{I:Imm}{L:LH}(h:CalVP P ω x args K Pn I L)(hk:∀v I' L',K v I' L'→K' v I' L')(hp:∀v I' L',Pn v I' L'→Pn' v I' L'):CalVP P ω x args K' Pn' I L:=by
 unfold CalVP at *;cases x with
 |func f first cap=>
  cases f with
  |func f=>
   simp only at h ⊢
   cases he:CS P f with
   |true=>simp only [he,if_true] at h ⊢;exact CalP.mono h hk hp
   |false=>
    simp only [he,if_false,zl] at h ⊢;cases hx:QO P f with
    |some e=>simp only [hx] at h ⊢;intro w hs;obtain ⟨v,w',I',L',h1,h2,h3⟩:=h w hs;exact ⟨v,w',I',L',h1,h2,hk _ _ _ h3⟩
    |none=>simp only [hx] at h;exact h.elim
  |yield l=>
   intro w hs;obtain ⟨f,tmps,assign,body,h1,h2⟩:=h w hs;exact ⟨f,tmps,assign,body,h1,RoundIn.mono h2 λe w' ⟨v,I',L',h1,h2,h3⟩=>⟨v,I',L',h1,h2,hk _ _ _ h3⟩⟩
  |_=>exact h.elim
 |_=>exact h.elim
theorem Et {P:Program}{ω:Om}{x:Value}{args:Array Value}{K Pn:Value→M}{I:Imm}{L:LH}(h:CalVP P ω x args K Pn I L):CalVP P ω x args (SL.gh K) Pn I L:=CalVP.mono h (λ_ _ _ h=>zAA h) (λ_ _ _ h=>h)
theorem Lj {P:Program}{ω:Om}{f:Nat}{first cap args:Array Value}{K Pn:Value→M}{I:Imm}{L:LH}(he:CS P f=true)(h:CalP P ω f (first++args++cap) K Pn I L):CalVP P ω (.func (.func f) first cap) args K Pn I L:=by
 unfold CalVP;simp only [he,if_true];exact h
def Wp {α:Type}(R:Imm→α→List Value→Prop)(I:Imm)(x:α)(v:Value):Prop:=∃c,v= .agg c.toArray∧R I x c
def AOk (_:Imm)(x:Bs)(v:Value):Prop:=v= .string ⟨x.toArray⟩
def AQh {α:Type}(R:Imm→α→List Value→Prop)(n:Nat)(I:Imm)(x:List α)(v:Value):Prop:=RL R n I [] v x
def OneP {α:Type}(ω:Om)(n b:Nat)(g:Pr α)(V:Imm→α→Value→Prop)(fv:Value)(I0:Imm):Prop:=
 ∀(K Pn:Value→M) (I:Imm) (L:LH) (C:Obj→LH) (v:Value) (l:List Tok),Foc b L (PBo v) C→Ext I0 I→TL I v l→Toks l→l.length≤n→POk (g l) V l.length K C I→PEr (g l) Pn C I→CalVP Tryz.prog ω fv #[] K Pn I L
theorem FX {α:Type}{R:Imm→α→List Value→Prop}{n:Nat}{I:Imm}{v:Value}{xs:List α}(h:RL R n I [] v xs):∃v',Cb n v none (some (.int .i64 xs.length)) (some (.int .i64 xs.length))=some v'∧RL R n I [] v' xs:=by
 obtain ⟨a',h1,h2⟩:=RL.clip h (zt _);rw [List.take_length] at h2;exact ⟨_,h1,h2⟩
section
variable {ω:Om}{I:Imm}{L:LH}{K Pn:Value→M}{C:Obj→LH}{b:Nat}{v:Value}{l:List Tok}
theorem AMV {w:Value}{xs:List (Ex)}(hw:RL ExV 11 I [] w xs)(hk:∀w',RL ExV 11 I [] w' xs→K w' I L):CT ω 259 #[w] K I L:=by
 refine AMr ?_;unfold AJN;obtain ⟨w',h1,h2⟩:=FX hw;simp only [zAQ hw,h1,SSd,Nat.reduceAdd];exact zAA (hk w' h2)
theorem ADM (n:Nat)(hn0:n≤1000000000){g:Pr (Ex)}{fv:Value}(hone:OneP ω n b g (Wp ExV) fv I)[hF:Foc b L (PBo v) C](h:TL I v l)(hT:Toks l)(hl:l.length≤n)
  (hok:POk (BO n g l) (λI x v=>RL ExV 11 I [] v x∧x.length≤l.length) l.length K C I) (herr:PEr (BO n g l) Pn C I):CalP Tryz.prog ω 226 #[Ac b,fv] K Pn I L:=by
 obtain ⟨L1,L2,rfl,rfl⟩:=hF.foc;refine ANQ ?_;unfold AJh;refine Et (hone _ _ I _ _ v l inferInstance (zAC _) h hT hl ?_ ?_)
 ·rintro x r hg hT1 hr I1 v1 c hI1 hTL1 hc;obtain ⟨cx,rfl,hx⟩:=hc;refine CU rfl zo (by simpa [Value.cells] using ExV.len hx) (λX u hX=>?_);refine loop (λm s I2 Lx=>∃X v2 l2 w cells xs f,l2.length=m∧s=(w,())∧Ext I I2∧Lx=X++(L1++(b,PBo v2)::L2)∧TL I2 v2 l2∧Toks l2∧SlO 65 11 X w cells xs.length∧Recs (ExV I2) 11 xs cells∧l2.length≤f∧0 < xs.length∧xs.length+l2.length≤l.length+1∧BO n g l=Cj g f xs l2) r.length
   ⟨X,v1,r,u,_,[x],n,rfl,rfl,hI1,rfl,hTL1,hT1,hX,(by simpa [Value.cells] using Recs.one (ExV.len hx) hx),by omega,by simp,by simp;omega,by simp only [BO,hg,Res.bind]⟩ ?_
  rintro m s I2 Lx ⟨X,v2,l2,w,cells,xs,f,rfl,rfl,hI2,rfl,hTL2,hT2,hX,hR,hf,hpos,hlen,hm⟩;unfold Yv;refine Ai (EZ [44] hTL2 hT2 (λhb v3 hv3=>?_) (λhb=>?_))
  ·try refine zqe ?_
   have hl2:=hT2.len;obtain ⟨f,rfl⟩:∃k,f=k+1:=⟨f - 1,by omega⟩;simp only [Cj,hb,if_true] at hm;refine Et (hone _ _ I2 _ _ v3 l2.tail inferInstance hI2 hv3 (hT2.tailT hb) zo ?_ ?_)
   ·rintro y r3 hg3 hT3 hr3 I3 v4 c hI3 hTL3 hc;have hR:=Recs.imp (R':=ExV I3) (λ_ _ h=>ExV.mono hI3 h) hR;obtain ⟨cy,rfl,hy⟩:=hc;refine Gw (X6:=X) rfl zo hX hR hy (ExV.len hy) (ExV.one hy) zo zo (λX1 X6 w6 cells6 hX6 hR6=>zAG (X6++(L1++(b,PBo v4)::L2)) (zAA ⟨r3.length,by omega,X6,v4,r3,w6,cells6,xs++[y],f,rfl,rfl,zAB hI2 hI3,rfl,hTL3,hT3,hX6,hR6,by omega,by simp,by simp;omega,?_⟩));rw [hm];simp only [hg3,Res.bind]
   ·rintro e hg3 I3 v4 hI3;exact zAG (L1++(b,PBo v4)::L2) (herr e (by rw [hm];simp only [hg3,Res.bind]) I3 v4 (zAB hI2 hI3) |> zAA)
  ·try refine zqe ?_
   unfold Yu;refine CalP.pre (RL.ofO (R:=ExV) (λ{I I' x c} h hI=>ExV.mono hI h) hX hR (λI3 hI3 hw=>zAA ?_));refine Ai (AMV hw (λw' hw'=>?_));have hl2:=hT2.len;refine zAA (hok xs l2 ?_ hT2 ?_ I3 v2 w' (zAB hI2 hI3) (hTL2.mono hI3) ⟨hw',by omega⟩)
   ·rw [hm];cases f with
    |zero=>rfl
    |succ f=>simp [Cj,hb]
   ·omega
 ·rintro e hg I1 v1 hI1;exact zAA (herr e (by simp only [BO,hg,Res.bind]) I1 v1 hI1)
theorem AMU {w:Value}{xs:List (TItem)}(hw:RL TItemV 14 I [] w xs)(hk:∀w',RL TItemV 14 I [] w' xs→K w' I L):CT ω 256 #[w] K I L:=by
 refine AMu ?_;unfold AJP;obtain ⟨w',h1,h2⟩:=FX hw;simp only [zAQ hw,h1,SSd,Nat.reduceAdd];exact zAA (hk w' h2)
theorem ALd (n:Nat)(hn0:n≤1000000000){g:Pr (TItem)}{fv:Value}(hone:OneP ω n b g (Wp TItemV) fv I)[hF:Foc b L (PBo v) C](h:TL I v l)(hT:Toks l)(hl:l.length≤n)
  (hok:POk (BO n g l) (λI x v=>RL TItemV 14 I [] v x∧x.length≤l.length) l.length K C I) (herr:PEr (BO n g l) Pn C I):CalP Tryz.prog ω 223 #[Ac b,fv] K Pn I L:=by
 obtain ⟨L1,L2,rfl,rfl⟩:=hF.foc;refine ANU ?_;unfold AJj;refine Et (hone _ _ I _ _ v l inferInstance (zAC _) h hT hl ?_ ?_)
 ·rintro x r hg hT1 hr I1 v1 c hI1 hTL1 hc;obtain ⟨cx,rfl,hx⟩:=hc;refine CU rfl zo (by simpa [Value.cells] using TItemV.len hx) (λX u hX=>?_);refine loop (λm s I2 Lx=>∃X v2 l2 w cells xs f,l2.length=m∧s=(w,())∧Ext I I2∧Lx=X++(L1++(b,PBo v2)::L2)∧TL I2 v2 l2∧Toks l2∧SlO 162 14 X w cells xs.length∧Recs (TItemV I2) 14 xs cells∧l2.length≤f∧0 < xs.length∧xs.length+l2.length≤l.length+1∧BO n g l=Cj g f xs l2) r.length
   ⟨X,v1,r,u,_,[x],n,rfl,rfl,hI1,rfl,hTL1,hT1,hX,(by simpa [Value.cells] using Recs.one (TItemV.len hx) hx),by omega,by simp,by simp;omega,by simp only [BO,hg,Res.bind]⟩ ?_
  rintro m s I2 Lx ⟨X,v2,l2,w,cells,xs,f,rfl,rfl,hI2,rfl,hTL2,hT2,hX,hR,hf,hpos,hlen,hm⟩;unfold Yx;refine Ai (EZ [44] hTL2 hT2 (λhb v3 hv3=>?_) (λhb=>?_))
  ·try refine zqe ?_
   have hl2:=hT2.len;obtain ⟨f,rfl⟩:∃k,f=k+1:=⟨f - 1,by omega⟩;simp only [Cj,hb,if_true] at hm;refine Et (hone _ _ I2 _ _ v3 l2.tail inferInstance hI2 hv3 (hT2.tailT hb) zo ?_ ?_)
   ·rintro y r3 hg3 hT3 hr3 I3 v4 c hI3 hTL3 hc;have hR:=Recs.imp (R':=TItemV I3) (λ_ _ h=>TItemV.mono h hI3) hR;obtain ⟨cy,rfl,hy⟩:=hc;refine Gw (X6:=X) rfl zo hX hR hy (TItemV.len hy) (TItemV.one hy) zo zo (λX1 X6 w6 cells6 hX6 hR6=>zAG (X6++(L1++(b,PBo v4)::L2)) (zAA ⟨r3.length,by omega,X6,v4,r3,w6,cells6,xs++[y],f,rfl,rfl,zAB hI2 hI3,rfl,hTL3,hT3,hX6,hR6,by omega,by simp,by simp;omega,?_⟩));rw [hm];simp only [hg3,Res.bind]
   ·rintro e hg3 I3 v4 hI3;exact zAG (L1++(b,PBo v4)::L2) (herr e (by rw [hm];simp only [hg3,Res.bind]) I3 v4 (zAB hI2 hI3) |> zAA)
  ·try refine zqe ?_
   unfold Yw;refine CalP.pre (RL.ofO (R:=TItemV) (λ{I I' x c} h hI=>TItemV.mono h hI) hX hR (λI3 hI3 hw=>zAA ?_));refine Ai (AMU hw (λw' hw'=>?_));have hl2:=hT2.len;refine zAA (hok xs l2 ?_ hT2 ?_ I3 v2 w' (zAB hI2 hI3) (hTL2.mono hI3) ⟨hw',by omega⟩)
   ·rw [hm];cases f with
    |zero=>rfl
    |succ f=>simp [Cj,hb]
   ·omega
 ·rintro e hg I1 v1 hI1;exact zAA (herr e (by simp only [BO,hg,Res.bind]) I1 v1 hI1)
theorem AMS {w:Value}{xs:List (TOrder)}(hw:RL TOrderV 12 I [] w xs)(hk:∀w',RL TOrderV 12 I [] w' xs→K w' I L):CT ω 262 #[w] K I L:=by
 refine AMo ?_;unfold AJK;obtain ⟨w',h1,h2⟩:=FX hw;simp only [zAQ hw,h1,SSd,Nat.reduceAdd];exact zAA (hk w' h2)
theorem ALb (n:Nat)(hn0:n≤1000000000){g:Pr (TOrder)}{fv:Value}(hone:OneP ω n b g (Wp TOrderV) fv I)[hF:Foc b L (PBo v) C](h:TL I v l)(hT:Toks l)(hl:l.length≤n)
  (hok:POk (BO n g l) (λI x v=>RL TOrderV 12 I [] v x∧x.length≤l.length) l.length K C I) (herr:PEr (BO n g l) Pn C I):CalP Tryz.prog ω 228 #[Ac b,fv] K Pn I L:=by
 obtain ⟨L1,L2,rfl,rfl⟩:=hF.foc;refine ANO ?_;unfold AJf;refine Et (hone _ _ I _ _ v l inferInstance (zAC _) h hT hl ?_ ?_)
 ·rintro x r hg hT1 hr I1 v1 c hI1 hTL1 hc;obtain ⟨cx,rfl,hx⟩:=hc;refine CU rfl zo (by simpa [Value.cells] using TOrderV.len hx) (λX u hX=>?_);refine loop (λm s I2 Lx=>∃X v2 l2 w cells xs f,l2.length=m∧s=(w,())∧Ext I I2∧Lx=X++(L1++(b,PBo v2)::L2)∧TL I2 v2 l2∧Toks l2∧SlO 166 12 X w cells xs.length∧Recs (TOrderV I2) 12 xs cells∧l2.length≤f∧0 < xs.length∧xs.length+l2.length≤l.length+1∧BO n g l=Cj g f xs l2) r.length
   ⟨X,v1,r,u,_,[x],n,rfl,rfl,hI1,rfl,hTL1,hT1,hX,(by simpa [Value.cells] using Recs.one (TOrderV.len hx) hx),by omega,by simp,by simp;omega,by simp only [BO,hg,Res.bind]⟩ ?_
  rintro m s I2 Lx ⟨X,v2,l2,w,cells,xs,f,rfl,rfl,hI2,rfl,hTL2,hT2,hX,hR,hf,hpos,hlen,hm⟩;unfold Yq;refine Ai (EZ [44] hTL2 hT2 (λhb v3 hv3=>?_) (λhb=>?_))
  ·try refine zqe ?_
   have hl2:=hT2.len;obtain ⟨f,rfl⟩:∃k,f=k+1:=⟨f - 1,by omega⟩;simp only [Cj,hb,if_true] at hm;refine Et (hone _ _ I2 _ _ v3 l2.tail inferInstance hI2 hv3 (hT2.tailT hb) zo ?_ ?_)
   ·rintro y r3 hg3 hT3 hr3 I3 v4 c hI3 hTL3 hc;have hR:=Recs.imp (R':=TOrderV I3) (λ_ _ h=>TOrderV.mono h hI3) hR;obtain ⟨cy,rfl,hy⟩:=hc;refine Gw (X6:=X) rfl zo hX hR hy (TOrderV.len hy) (TOrderV.one hy) zo zo (λX1 X6 w6 cells6 hX6 hR6=>zAG (X6++(L1++(b,PBo v4)::L2)) (zAA ⟨r3.length,by omega,X6,v4,r3,w6,cells6,xs++[y],f,rfl,rfl,zAB hI2 hI3,rfl,hTL3,hT3,hX6,hR6,by omega,by simp,by simp;omega,?_⟩));rw [hm];simp only [hg3,Res.bind]
   ·rintro e hg3 I3 v4 hI3;exact zAG (L1++(b,PBo v4)::L2) (herr e (by rw [hm];simp only [hg3,Res.bind]) I3 v4 (zAB hI2 hI3) |> zAA)
  ·try refine zqe ?_
   unfold Yp;refine CalP.pre (RL.ofO (R:=TOrderV) (λ{I I' x c} h hI=>TOrderV.mono h hI) hX hR (λI3 hI3 hw=>zAA ?_));refine Ai (AMS hw (λw' hw'=>?_));have hl2:=hT2.len;refine zAA (hok xs l2 ?_ hT2 ?_ I3 v2 w' (zAB hI2 hI3) (hTL2.mono hI3) ⟨hw',by omega⟩)
   ·rw [hm];cases f with
    |zero=>rfl
    |succ f=>simp [Cj,hb]
   ·omega
 ·rintro e hg I1 v1 hI1;exact zAA (herr e (by simp only [BO,hg,Res.bind]) I1 v1 hI1)
theorem AMP {w:Value}{xs:List (TSet)}(hw:RL TSetV 12 I [] w xs)(hk:∀w',RL TSetV 12 I [] w' xs→K w' I L):CT ω 235 #[w] K I L:=by
 refine ANH ?_;unfold AJa;obtain ⟨w',h1,h2⟩:=FX hw;simp only [zAQ hw,h1,SSd,Nat.reduceAdd];exact zAA (hk w' h2)
theorem ALZ (n:Nat)(hn0:n≤1000000000){g:Pr (TSet)}{fv:Value}(hone:OneP ω n b g (Wp TSetV) fv I)[hF:Foc b L (PBo v) C](h:TL I v l)(hT:Toks l)(hl:l.length≤n)
  (hok:POk (BO n g l) (λI x v=>RL TSetV 12 I [] v x∧x.length≤l.length) l.length K C I) (herr:PEr (BO n g l) Pn C I):CalP Tryz.prog ω 192 #[Ac b,fv] K Pn I L:=by
 obtain ⟨L1,L2,rfl,rfl⟩:=hF.foc;refine ANm ?_;unfold AJy;refine Et (hone _ _ I _ _ v l inferInstance (zAC _) h hT hl ?_ ?_)
 ·rintro x r hg hT1 hr I1 v1 c hI1 hTL1 hc;obtain ⟨cx,rfl,hx⟩:=hc;refine CU rfl zo (by simpa [Value.cells] using TSetV.len hx) (λX u hX=>?_);refine loop (λm s I2 Lx=>∃X v2 l2 w cells xs f,l2.length=m∧s=(w,())∧Ext I I2∧Lx=X++(L1++(b,PBo v2)::L2)∧TL I2 v2 l2∧Toks l2∧SlO 128 12 X w cells xs.length∧Recs (TSetV I2) 12 xs cells∧l2.length≤f∧0 < xs.length∧xs.length+l2.length≤l.length+1∧BO n g l=Cj g f xs l2) r.length
   ⟨X,v1,r,u,_,[x],n,rfl,rfl,hI1,rfl,hTL1,hT1,hX,(by simpa [Value.cells] using Recs.one (TSetV.len hx) hx),by omega,by simp,by simp;omega,by simp only [BO,hg,Res.bind]⟩ ?_
  rintro m s I2 Lx ⟨X,v2,l2,w,cells,xs,f,rfl,rfl,hI2,rfl,hTL2,hT2,hX,hR,hf,hpos,hlen,hm⟩;unfold ZO;refine Ai (EZ [44] hTL2 hT2 (λhb v3 hv3=>?_) (λhb=>?_))
  ·try refine zqe ?_
   have hl2:=hT2.len;obtain ⟨f,rfl⟩:∃k,f=k+1:=⟨f - 1,by omega⟩;simp only [Cj,hb,if_true] at hm;refine Et (hone _ _ I2 _ _ v3 l2.tail inferInstance hI2 hv3 (hT2.tailT hb) zo ?_ ?_)
   ·rintro y r3 hg3 hT3 hr3 I3 v4 c hI3 hTL3 hc;have hR:=Recs.imp (R':=TSetV I3) (λ_ _ h=>TSetV.mono h hI3) hR;obtain ⟨cy,rfl,hy⟩:=hc;refine Gw (X6:=X) rfl zo hX hR hy (TSetV.len hy) (TSetV.one hy) zo zo (λX1 X6 w6 cells6 hX6 hR6=>zAG (X6++(L1++(b,PBo v4)::L2)) (zAA ⟨r3.length,by omega,X6,v4,r3,w6,cells6,xs++[y],f,rfl,rfl,zAB hI2 hI3,rfl,hTL3,hT3,hX6,hR6,by omega,by simp,by simp;omega,?_⟩));rw [hm];simp only [hg3,Res.bind]
   ·rintro e hg3 I3 v4 hI3;exact zAG (L1++(b,PBo v4)::L2) (herr e (by rw [hm];simp only [hg3,Res.bind]) I3 v4 (zAB hI2 hI3) |> zAA)
  ·try refine zqe ?_
   unfold ZN;refine CalP.pre (RL.ofO (R:=TSetV) (λ{I I' x c} h hI=>TSetV.mono h hI) hX hR (λI3 hI3 hw=>zAA ?_));refine Ai (AMP hw (λw' hw'=>?_));have hl2:=hT2.len;refine zAA (hok xs l2 ?_ hT2 ?_ I3 v2 w' (zAB hI2 hI3) (hTL2.mono hI3) ⟨hw',by omega⟩)
   ·rw [hm];cases f with
    |zero=>rfl
    |succ f=>simp [Cj,hb]
   ·omega
 ·rintro e hg I1 v1 hI1;exact zAA (herr e (by simp only [BO,hg,Res.bind]) I1 v1 hI1)
theorem AMQ {w:Value}{xs:List (Bs)}(hw:RL StrV 1 I [] w xs)(hk:∀w',RL StrV 1 I [] w' xs→K w' I L):CT ω 273 #[w] K I L:=by
 refine AMh ?_;unfold AJE;obtain ⟨w',h1,h2⟩:=FX hw;simp only [zAQ hw,h1,SSd,Nat.reduceAdd];exact zAA (hk w' h2)
theorem ALa (n:Nat)(hn0:n≤1000000000){g:Pr (Bs)}{fv:Value}(hone:OneP ω n b g (AOk) fv I)[hF:Foc b L (PBo v) C](h:TL I v l)(hT:Toks l)(hl:l.length≤n)
  (hok:POk (BO n g l) (λI x v=>RL StrV 1 I [] v x∧x.length≤l.length) l.length K C I) (herr:PEr (BO n g l) Pn C I):CalP Tryz.prog ω 263 #[Ac b,fv] K Pn I L:=by
 obtain ⟨L1,L2,rfl,rfl⟩:=hF.foc;refine AMn ?_;unfold AJJ;refine Et (hone _ _ I _ _ v l inferInstance (zAC _) h hT hl ?_ ?_)
 ·rintro x r hg hT1 hr I1 v1 c hI1 hTL1 hc;obtain rfl:=hc;refine CU rfl zo rfl (λX u hX=>?_);refine loop (λm s I2 Lx=>∃X v2 l2 w cells xs f,l2.length=m∧s=(w,())∧Ext I I2∧Lx=X++(L1++(b,PBo v2)::L2)∧TL I2 v2 l2∧Toks l2∧SlO 9 1 X w cells xs.length∧Recs (StrV I2) 1 xs cells∧l2.length≤f∧0 < xs.length∧xs.length+l2.length≤l.length+1∧BO n g l=Cj g f xs l2) r.length
   ⟨X,v1,r,u,_,[x],n,rfl,rfl,hI1,rfl,hTL1,hT1,hX,(by simpa [Value.cells] using Recs.one (R:=StrV I1) rfl rfl),by omega,by simp,by simp;omega,by simp only [BO,hg,Res.bind]⟩ ?_
  rintro m s I2 Lx ⟨X,v2,l2,w,cells,xs,f,rfl,rfl,hI2,rfl,hTL2,hT2,hX,hR,hf,hpos,hlen,hm⟩;unfold Yi;refine Ai (EZ [44] hTL2 hT2 (λhb v3 hv3=>?_) (λhb=>?_))
  ·try refine zqe ?_
   have hl2:=hT2.len;obtain ⟨f,rfl⟩:∃k,f=k+1:=⟨f - 1,by omega⟩;simp only [Cj,hb,if_true] at hm;refine Et (hone _ _ I2 _ _ v3 l2.tail inferInstance hI2 hv3 (hT2.tailT hb) zo ?_ ?_)
   ·rintro y r3 hg3 hT3 hr3 I3 v4 c hI3 hTL3 hc;have hR:=Recs.imp (R':=StrV I3) (λ_ _ h=>StrV.mono h hI3) hR;obtain rfl:=hc;refine VN (X6:=X) rfl hX hR (x:=y) rfl rfl zo zo (λX1 X6 w6 cells6 hX6 hR6=>zAG (X6++(L1++(b,PBo v4)::L2)) (zAA ⟨r3.length,by omega,X6,v4,r3,w6,cells6,xs++[y],f,rfl,rfl,zAB hI2 hI3,rfl,hTL3,hT3,hX6,hR6,by omega,by simp,by simp;omega,?_⟩));rw [hm];simp only [hg3,Res.bind]
   ·rintro e hg3 I3 v4 hI3;exact zAG (L1++(b,PBo v4)::L2) (herr e (by rw [hm];simp only [hg3,Res.bind]) I3 v4 (zAB hI2 hI3) |> zAA)
  ·try refine zqe ?_
   unfold Yh;refine CalP.pre (RL.ofO (R:=StrV) (λ{I I' x c} h hI=>StrV.mono h hI) hX hR (λI3 hI3 hw=>zAA ?_));refine Ai (AMQ hw (λw' hw'=>?_));have hl2:=hT2.len;refine zAA (hok xs l2 ?_ hT2 ?_ I3 v2 w' (zAB hI2 hI3) (hTL2.mono hI3) ⟨hw',by omega⟩)
   ·rw [hm];cases f with
    |zero=>rfl
    |succ f=>simp [Cj,hb]
   ·omega
 ·rintro e hg I1 v1 hI1;exact zAA (herr e (by simp only [BO,hg,Res.bind]) I1 v1 hI1)
theorem AMT {w:Value}{xs:List (List Ex)}(hw:RL (MC ExV 11) 1 I [] w xs)(hk:∀w',RL (MC ExV 11) 1 I [] w' xs→K w' I L):CT ω 233 #[w] K I L:=by
 refine ANJ ?_;unfold AJc;obtain ⟨w',h1,h2⟩:=FX hw;simp only [zAQ hw,h1,SSd,Nat.reduceAdd];exact zAA (hk w' h2)
theorem ALc (n:Nat)(hn0:n≤1000000000){g:Pr (List Ex)}{fv:Value}(hone:OneP ω n b g (AQh ExV 11) fv I)[hF:Foc b L (PBo v) C](h:TL I v l)(hT:Toks l)(hl:l.length≤n)
  (hok:POk (BO n g l) (λI x v=>RL (MC ExV 11) 1 I [] v x∧x.length≤l.length) l.length K C I) (herr:PEr (BO n g l) Pn C I):CalP Tryz.prog ω 190 #[Ac b,fv] K Pn I L:=by
 obtain ⟨L1,L2,rfl,rfl⟩:=hF.foc;refine ANo ?_;unfold AKA;refine Et (hone _ _ I _ _ v l inferInstance (zAC _) h hT hl ?_ ?_)
 ·rintro x r hg hT1 hr I1 v1 c hI1 hTL1 hc;obtain ⟨ax,kx,ec⟩:=zAH hc;subst ec;refine CU rfl zo rfl (λX u hX=>?_);refine loop (λm s I2 Lx=>∃X v2 l2 w cells xs f,l2.length=m∧s=(w,())∧Ext I I2∧Lx=X++(L1++(b,PBo v2)::L2)∧TL I2 v2 l2∧Toks l2∧SlO 63 1 X w cells xs.length∧Recs ((MC ExV 11) I2) 1 xs cells∧l2.length≤f∧0 < xs.length∧xs.length+l2.length≤l.length+1∧BO n g l=Cj g f xs l2) r.length
   ⟨X,v1,r,u,_,[x],n,rfl,rfl,hI1,rfl,hTL1,hT1,hX,(by simpa [Value.cells] using Recs.one (R:=(MC ExV 11) I1) rfl ⟨_,rfl,hc⟩),by omega,by simp,by simp;omega,by simp only [BO,hg,Res.bind]⟩ ?_
  rintro m s I2 Lx ⟨X,v2,l2,w,cells,xs,f,rfl,rfl,hI2,rfl,hTL2,hT2,hX,hR,hf,hpos,hlen,hm⟩;unfold ZQ;refine Ai (EZ [44] hTL2 hT2 (λhb v3 hv3=>?_) (λhb=>?_))
  ·try refine zqe ?_
   have hl2:=hT2.len;obtain ⟨f,rfl⟩:∃k,f=k+1:=⟨f - 1,by omega⟩;simp only [Cj,hb,if_true] at hm;refine Et (hone _ _ I2 _ _ v3 l2.tail inferInstance hI2 hv3 (hT2.tailT hb) zo ?_ ?_)
   ·rintro y r3 hg3 hT3 hr3 I3 v4 c hI3 hTL3 hc;have hR:=Recs.imp (R':=(MC ExV 11) I3) (λ_ _ h=>LstX.mono h hI3) hR;obtain ⟨ax,kx,ec⟩:=zAH hc;subst ec;refine VN (X6:=X) rfl hX hR (x:=y) ⟨_,rfl,hc⟩ rfl zo zo (λX1 X6 w6 cells6 hX6 hR6=>zAG (X6++(L1++(b,PBo v4)::L2)) (zAA ⟨r3.length,by omega,X6,v4,r3,w6,cells6,xs++[y],f,rfl,rfl,zAB hI2 hI3,rfl,hTL3,hT3,hX6,hR6,by omega,by simp,by simp;omega,?_⟩));rw [hm];simp only [hg3,Res.bind]
   ·rintro e hg3 I3 v4 hI3;exact zAG (L1++(b,PBo v4)::L2) (herr e (by rw [hm];simp only [hg3,Res.bind]) I3 v4 (zAB hI2 hI3) |> zAA)
  ·try refine zqe ?_
   unfold ZP;refine CalP.pre (RL.ofO (R:=(MC ExV 11)) (λ{I I' x c} h hI=>LstX.mono h hI) hX hR (λI3 hI3 hw=>zAA ?_));refine Ai (AMT hw (λw' hw'=>?_));have hl2:=hT2.len;refine zAA (hok xs l2 ?_ hT2 ?_ I3 v2 w' (zAB hI2 hI3) (hTL2.mono hI3) ⟨hw',by omega⟩)
   ·rw [hm];cases f with
    |zero=>rfl
    |succ f=>simp [Cj,hb]
   ·omega
 ·rintro e hg I1 v1 hI1;exact zAA (herr e (by simp only [BO,hg,Res.bind]) I1 v1 hI1)
end
abbrev EOk (g:Res Ex)(n:Nat)(K:Value→M)(C:Obj→LH)(I:Imm):Prop:=
 ∀x r,g= .ok x r→Toks r→r.length≤n→∀I' v' w,Ext I I'→TL I' v' r→ExL I' w x.args→K (.agg (BX x w).toArray) I' (C (PBo v'))
def FnE (ω:Om)(n b f:Nat)(g:Pr Ex):Prop:=
 ∀(K Pn:Value→M) (I:Imm) (L:LH) (C:Obj→LH) (v:Value) (l:List Tok),Foc b L (PBo v) C→TL I v l→Toks l→l.length≤n→EOk (g l) l.length K C I→PEr (g l) Pn C I→CalP Tryz.prog ω f #[Ac b] K Pn I L
theorem FnE.go {ω:Om}{n b f:Nat}{g:Pr Ex}(h:FnE ω n b f g){I:Imm}{L:LH}{K Pn:Value→M}{C:Obj→LH}{v:Value}{l:List Tok}[hF:Foc b L (PBo v) C](hv:TL I v l)(hT:Toks l)(hl:l.length≤n)
  (hok:∀x r,g l= .ok x r→Toks r→r.length≤l.length→∀I' v' a k,Ext I I'→TL I' v' r→ExL I' (.slice a x.args.length k) x.args→K (.agg (BX x (.slice a x.args.length k)).toArray) I' (C (PBo v'))) (herr:PEr (g l) Pn C I):CalP Tryz.prog ω f #[Ac b] K Pn I L:=
 h K Pn I L C v l hF hv hT hl (λx r hg hT' hr I' v' w hI hv' hw=>by
  obtain ⟨a,k,rfl⟩:=zAH hw;exact hok x r hg hT' hr I' v' a k hI hv' hw) herr
theorem FnE.one {ω:Om}{n b f:Nat}{g:Pr Ex}{I0:Imm}(h:FnE ω n b f g)(he:CS Tryz.prog f=true):OneP ω n b g (Wp ExV) (.func (.func f) #[Ac b] #[]) I0:=by
 intro K Pn I L C v l hF hI hv hT hl hok herr;refine Lj he (h K Pn I L C v l hF hv hT hl ?_ herr);intro x r hg hT' hr I' v' w hI' hv' hw;exact hok x r hg hT' hr I' v' _ hI' hv' ⟨_,rfl,ExV.mk hw⟩
section
variable {ω:Om}{I:Imm}{L:LH}{K Pn:Value→M}{C:Obj→LH}{b:Nat}{v:Value}{l:List Tok}
theorem Bo (s:Bs)[hF:Foc b L (PBo v) C](h:TL I v l)(hT:Toks l)(ht:isT l s=true→Toks l.tail→l.tail.length+1=l.length→∀v',TL I v' l.tail→K (.bool true) I (C (PBo v')))(hf:isT l s=false→K (.bool false) I L):
  CT ω 152 #[Ac b,.string ⟨s.toArray⟩] K I L:=EZ s h hT (λhb v' hv=>ht hb (hT.tailT hb) hT.len v' hv) hf
theorem Bd (s:Bs)[hF:Foc b L (PBo v) C](h:TL I v l)(hT:Toks l)(hok:isT l s=true→Toks l.tail→l.tail.length+1=l.length→∀I' v',Ext I I'→TL I' v' l.tail→K (.tuple #[]) I' (C (PBo v')))
  (herr:isT l s=false→∀I' v',Ext I I'→Pn (FD (hd l).at') I' (C (PBo v'))):
  AB 9 1 #[.string ⟨#[]⟩] 1 [(0,.string ⟨s.toArray⟩)] (gh λw=>AL Tryz.prog ω 187 #[Ac b,w] Pn (gh K)) I L:=by
 refine Di [s] rfl rfl (λI' a hI hw=>zAA ?_);refine AU (Qs [s] hw zy (h.mono hI) hT (λr hg hT' hr v' hv'=>?_) (λe hg v'=>?_))
 ·cases hb:isT l s with
  |true=>
   simp only [FI,AC,hb,if_true,Res.bind,Res.ok.injEq,true_and] at hg;subst hg;exact hok hb hT' hT.len I' v' hI hv'
  |false=>simp [FI,AC,hb,Res.bind,bad] at hg
 ·cases hb:isT l s with
  |true=>simp [FI,AC,hb,Res.bind] at hg
  |false=>
   simp only [FI,AC,hb,zl,if_false,Res.bind,bad,Res.err.injEq] at hg;subst hg;exact herr hb I' v' hI
theorem CQ [hF:Foc b L (PBo v) C](h:TL I v l)(hT:Toks l)
  (hok:isK l 1=true→Toks l.tail→l.tail.length+1=l.length→∀v',TL I v' l.tail→K (.string ⟨(hd l).text.toArray⟩) I (C (PBo v'))) (herr:isK l 1=false→Pn (FD (hd l).at') I L):
  CalP Tryz.prog ω 188 #[Ac b] K Pn I L:=ABs h hT (λhb v' hv=>hok hb (hT.tailK hb) hT.len v' hv) herr
theorem BC {k:Int}{w:Value}{l:List Ex}(hw:ExL I w l)(hk:K (.agg (BX (exK k l) w).toArray) I L):CT ω 261 #[.int .i64 k,w] K I L:=by
 refine AMp ?_;unfold AJL;obtain ⟨a,c,rfl⟩:=zAH hw;have hk:Gh (K (.agg (BX (exK k l) (.slice a l.length c)).toArray)) I L:=zAA hk;repeat' (first|refine zqa ?_|refine zqh (λ_=>?_)|refine zqr ?_|refine zqb ?_|refine zqi ?_ ?_|refine zqc ?_|refine zqg (λ_=>?_) (λ_=>?_)|refine zqe ?_|fail)
 exact zAG L hk
theorem Ci {x:Ex}{w:Value}(hw:ExL I w x.args)(hk:∀I' a,Ext I I'→ExL I' (.slice a 1 1) [x]→Gh (K (.slice a 1 1)) I' L):
  AB 65 11 #[.int .i64 0,.int .i64 0,.bool false,.int .i64 0,.string ⟨#[]⟩,.string ⟨#[]⟩,.string ⟨#[]⟩,.int .i64 0,.int .i64 0,.bool false,.slice none 0 0] 1 [(0,.agg (BX x w).toArray)] (gh K) I L:=
 Eu (R:=ExV) [x] [BX x w] rfl rfl rfl zy (by simp only [List.zip_cons_cons,List.zip_nil_right,zN,forall_eq];exact ExV.mk hw) (λhI h=>ExV.mono hI h) hk
theorem CJ {x y:Ex}{w u:Value}(hw:ExL I w x.args)(hu:ExL I u y.args)(hk:∀I' a,Ext I I'→ExL I' (.slice a 2 2) [x,y]→Gh (K (.slice a 2 2)) I' L):
  AB 65 11 #[.int .i64 0,.int .i64 0,.bool false,.int .i64 0,.string ⟨#[]⟩,.string ⟨#[]⟩,.string ⟨#[]⟩,.int .i64 0,.int .i64 0,.bool false,.slice none 0 0] 2 [(0,.agg (BX x w).toArray),(1,.agg (BX y u).toArray)] (gh K) I L:=
 Eu (R:=ExV) [x,y] [BX x w,BX y u] rfl rfl rfl zy (by simp only [List.zip_cons_cons,List.zip_nil_right,zX,zaT,or_false,forall_eq_or_imp,forall_eq];exact ⟨ExV.mk hw,ExV.mk hu⟩) (λhI h=>ExV.mono hI h) hk
theorem DF {x y z:Ex}{w u q:Value}(hw:ExL I w x.args)(hu:ExL I u y.args)(hq:ExL I q z.args)(hk:∀I' a,Ext I I'→ExL I' (.slice a 3 3) [x,y,z]→Gh (K (.slice a 3 3)) I' L):
  AB 65 11 #[.int .i64 0,.int .i64 0,.bool false,.int .i64 0,.string ⟨#[]⟩,.string ⟨#[]⟩,.string ⟨#[]⟩,.int .i64 0,.int .i64 0,.bool false,.slice none 0 0] 3 [(0,.agg (BX x w).toArray),(1,.agg (BX y u).toArray),(2,.agg (BX z q).toArray)] (gh K) I L:=
 Eu (R:=ExV) [x,y,z] [BX x w,BX y u,BX z q] rfl rfl rfl zy (by simp only [List.zip_cons_cons,List.zip_nil_right,zX,zaT,or_false,forall_eq_or_imp,forall_eq];exact ⟨ExV.mk hw,ExV.mk hu,ExV.mk hq⟩) (λhI h=>ExV.mono hI h) hk
theorem Rk (n:Nat):FnE ω n b 285 Ns:=by
 intro K Pn I L C v l hF h hT hl hok herr;obtain ⟨L1,L2,rfl,rfl⟩:=hF.foc;refine AMd ?_;unfold AJD;refine Am (λ_=>?_);refine AU (UE 3 zx h hT (λhb v' hv'=>?_) (λhb=>zAG (L1++(b,PBo v)::L2) (zAA (herr _ (by simp [Ns,hb,bad]) I v (zAC _)))));have hk:Gh (K _) I (L1++(b,PBo v')::L2):=zAA (hok (Ld ⟨1,false,(hd l).num,[]⟩) l.tail (by simp [Ns,hb]) (hT.tailK hb) (by have:=hT.len;omega) I v' (.slice none 0 0) (zAC _) hv' (zAD none 0));repeat' (first|refine zqa ?_|refine zqh (λ_=>?_)|refine zqr ?_|refine zqb ?_|refine zqi ?_ ?_|refine zqc ?_|refine zqg (λ_=>?_) (λ_=>?_)|refine zqe ?_|fail)
 exact zAG _ hk
theorem LW [hF:Foc b L (PBo v) C](h:TL I v l)(hT:Toks l)(hok:∀x,LX l=some x→Toks l.tail→l.tail.length+1=l.length→∀v',TL I v' l.tail→K (.tuple #[.agg (BX (Ld x) (.slice none 0 0)).toArray,.bool true]) I (C (PBo v')))
  (hno:LX l=none→K (.tuple #[.agg exZ.toArray,.bool false]) I L):CT ω 284 #[Ac b] K I L:=by
 obtain ⟨L1,L2,rfl,rfl⟩:=hF.foc;obtain ⟨bt,off,h1,h2⟩:=h.hd hT;refine AMe ?_;unfold sh284;have fin:∀{x:TValue} {L':LH} {v':Value},LX l=some x→SubP (L1++(b,PBo v')::L2) L'→TL I v' l.tail→Gh (K (.tuple #[.agg (BX (Ld x) (.slice none 0 0)).toArray,.bool true])) I L':=by
  intro x L' v' hx hs hv';have hk6:(hd l).kind≠6:=by
   intro e;simp [LX,isK,isT,e] at hx
  exact zAG (L1++(b,PBo v')::L2) (zAA (hok x hx (hT.tail hk6) hT.len v' hv'))
 have no:∀{L':LH},LX l=none→SubP (L1++(b,PBo v)::L2) L'→Gh (K (.tuple #[.agg exZ.toArray,.bool false])) I L':=λhx hs=>zAG (L1++(b,PBo v)::L2) (zAA (hno hx));repeat' (first|refine zqa ?_|refine zqh (λ_=>?_)|(refine rd1 ((h2 _ [] (zAC _) 0 _ rfl).mono (zAC _) (λ_ h=>by cases h)) ?_)|(refine rd1 ((h2 _ [] (zAC _) 2 _ rfl).mono (zAC _) (λ_ h=>by cases h)) ?_)|(with_reducible refine call ?_;refine Ia _ h hT (λhb=>?_) (λhb=>?_))|(with_reducible refine call ?_;refine Hq h hT (λv' hv'=>?_))|refine zqr ?_|refine zqb ?_|(with_reducible first|refine BJ (sh284_2.eq_1 ..) ?_|refine BJ (sh284.eq_1 ..) ?_|refine And.intro ?_ ?_)|refine zqc ?_|refine zqg (λ_=>?_) (λ_=>?_)|(simp only [SSd,Nat.reduceAdd,h1]))
 all_goals first
  |exact fin (x:=⟨3,false,0,(hd l).text⟩) (by simp_all [LX,isK]) inferInstance zA
  |exact fin (x:=⟨2,false,1,[]⟩) (by simp_all [LX,isK]) inferInstance zA
  |exact fin (x:=⟨2,false,0,[]⟩) (by simp_all [LX,isK]) inferInstance zA
  |exact fin (x:=⟨4,true,0,[]⟩) (by simp_all [LX,isK]) inferInstance zA
  |exact no (by simp_all [LX,isK]) inferInstance
end
section
variable {ω:Om}{I:Imm}{L:LH}{K Pn:Value→M}{C:Obj→LH}{b:Nat}{v:Value}{l:List Tok}
theorem AIN (n:Nat){g:Pr Ex}(hg1:FnE ω (n+1) b 260 g):FnE ω (n+1) b 227 (DI n g UC):=by
 intro K Pn I L C v l hF h hT hl hok herr;obtain ⟨L1,L2,rfl,rfl⟩:=hF.foc;refine ANP ?_;unfold AJg;refine Am (λb1=>?_);refine AU (hg1 _ _ _ _ _ _ _ inferInstance h hT hl ?_ ?_);rotate_left
 ·intro e hg I' v' hI;exact zAG (L1++(b,PBo v')::L2) (zAA (herr e (by simp only [DI,hg,Res.bind]) I' v' hI))
 intro x0 r0 hg0 hT0 hr0 I0 v0 w0 hI0 hTL0 hw0;refine Am (λb3=>?_);obtain ⟨a0,c0,rfl⟩:=zAH hw0;repeat' (first|refine zqa ?_|refine zqh (λ_=>?_)|refine zqr ?_|refine zqb ?_|refine zqi ?_ ?_|refine zqc ?_|refine zqg (λ_=>?_) (λ_=>?_)|refine zqe ?_|fail)
 refine loop (λm s I2 Lx=>∃x a k v2 l2 f,l2.length=m∧Ext I I2∧Lx=(b3,Obj.cells (BX x (.slice a x.args.length k)).toArray 65 (0,0))::(b1,Obj.cells exZ.toArray 65 (0,0))::(L1++(b,PBo v2)::L2)∧ExL I2 (.slice a x.args.length k) x.args∧TL I2 v2 l2∧Toks l2∧l2.length≤f+1∧l2.length≤l.length∧DI n g UC l=Fg g UC f x l2) r0.length
  ⟨x0,a0,c0,v0,r0,n,rfl,hI0,rfl,hw0,hTL0,hT0,by omega,hr0,by simp only [DI,hg0,Res.bind]⟩ ?_
 rintro m s I2 Lx ⟨x,a,k,v2,l2,f,rfl,hI2,rfl,hw,hTL,hT2,hf,hlen,hm⟩;unfold Yt;refine Ai (Bo [111,114] hTL hT2 (λhb hT' hl' v' hv'=>?_) (λhb=>?_))
 ·try refine zqe ?_
  obtain ⟨f,rfl⟩:∃q,f=q+1:=⟨f - 1,by have:=hT'.len;omega⟩;have hop:UC l2=22:=by simp [UC,hb]
  simp only [Fg,hop] at hm;refine Bl (b:=b) ?_;refine Pe rfl ?_;refine AU (hg1 _ _ _ _ _ _ _ inferInstance hv' hT' zo ?_ ?_);rotate_left
  ·intro e hg I3 v3 hI3;exact zAG (L1++(b,PBo v3)::L2) (zAA (herr e (by rw [hm];simp [hg,Res.bind]) I3 v3 (zAB hI2 hI3)))
  intro y r hg hT3 hr I3 v3 u hI3 hTL3 hu;refine Dc hI3 ?_;refine CJ (zAM hw hI3) hu (λI4 a4 hI4 h4=>zAA ?_);refine Ai (BC h4 ?_);repeat' (first|refine zqa ?_|refine zqh (λ_=>?_)|refine zqr ?_|refine zqb ?_|refine zqi ?_ ?_|refine zqc ?_|refine zqg (λ_=>?_) (λ_=>?_)|refine zqe ?_|fail)
  refine zAA ⟨r.length,by omega,exK 22 [x,y],a4,2,v3,r,f,rfl,zAB hI2 (zAB hI3 hI4),rfl,h4,hTL3.mono hI4,hT3,by omega,by omega,?_⟩;rw [hm];simp [hg,Res.bind]
 ·try refine zqe ?_
  unfold Yr;repeat' (first|refine zqa ?_|refine zqh (λ_=>?_)|refine zqr ?_|refine zqb ?_|refine zqi ?_ ?_|refine zqc ?_|refine zqg (λ_=>?_) (λ_=>?_)|refine zqe ?_|fail)
  refine zAG (L1++(b,PBo v2)::L2) (zAA (hok x l2 ?_ hT2 hlen I2 v2 _ hI2 hTL hw));rw [hm];cases f with
  |zero=>rfl
  |succ f=>simp [Fg,UC,hb]
theorem AOi (n:Nat){g:Pr Ex}(hg1:FnE ω (n+1) b 272 g):FnE ω (n+1) b 260 (DI n g LV):=by
 intro K Pn I L C v l hF h hT hl hok herr;obtain ⟨L1,L2,rfl,rfl⟩:=hF.foc;refine AMq ?_;unfold AJM;refine Am (λb1=>?_);refine AU (hg1 _ _ _ _ _ _ _ inferInstance h hT hl ?_ ?_);rotate_left
 ·intro e hg I' v' hI;exact zAG (L1++(b,PBo v')::L2) (zAA (herr e (by simp only [DI,hg,Res.bind]) I' v' hI))
 intro x0 r0 hg0 hT0 hr0 I0 v0 w0 hI0 hTL0 hw0;refine Am (λb3=>?_);obtain ⟨a0,c0,rfl⟩:=zAH hw0;repeat' (first|refine zqa ?_|refine zqh (λ_=>?_)|refine zqr ?_|refine zqb ?_|refine zqi ?_ ?_|refine zqc ?_|refine zqg (λ_=>?_) (λ_=>?_)|refine zqe ?_|fail)
 refine loop (λm s I2 Lx=>∃x a k v2 l2 f,l2.length=m∧Ext I I2∧Lx=(b3,Obj.cells (BX x (.slice a x.args.length k)).toArray 65 (0,0))::(b1,Obj.cells exZ.toArray 65 (0,0))::(L1++(b,PBo v2)::L2)∧ExL I2 (.slice a x.args.length k) x.args∧TL I2 v2 l2∧Toks l2∧l2.length≤f+1∧l2.length≤l.length∧DI n g LV l=Fg g LV f x l2) r0.length
  ⟨x0,a0,c0,v0,r0,n,rfl,hI0,rfl,hw0,hTL0,hT0,by omega,hr0,by simp only [DI,hg0,Res.bind]⟩ ?_
 rintro m s I2 Lx ⟨x,a,k,v2,l2,f,rfl,hI2,rfl,hw,hTL,hT2,hf,hlen,hm⟩;unfold Yk;refine Ai (Bo [97,110,100] hTL hT2 (λhb hT' hl' v' hv'=>?_) (λhb=>?_))
 ·try refine zqe ?_
  obtain ⟨f,rfl⟩:∃q,f=q+1:=⟨f - 1,by have:=hT'.len;omega⟩;have hop:LV l2=21:=by simp [LV,hb]
  simp only [Fg,hop] at hm;refine Bl (b:=b) ?_;refine Pe rfl ?_;refine AU (hg1 _ _ _ _ _ _ _ inferInstance hv' hT' zo ?_ ?_);rotate_left
  ·intro e hg I3 v3 hI3;exact zAG (L1++(b,PBo v3)::L2) (zAA (herr e (by rw [hm];simp [hg,Res.bind]) I3 v3 (zAB hI2 hI3)))
  intro y r hg hT3 hr I3 v3 u hI3 hTL3 hu;refine Dc hI3 ?_;refine CJ (zAM hw hI3) hu (λI4 a4 hI4 h4=>zAA ?_);refine Ai (BC h4 ?_);repeat' (first|refine zqa ?_|refine zqh (λ_=>?_)|refine zqr ?_|refine zqb ?_|refine zqi ?_ ?_|refine zqc ?_|refine zqg (λ_=>?_) (λ_=>?_)|refine zqe ?_|fail)
  refine zAA ⟨r.length,by omega,exK 21 [x,y],a4,2,v3,r,f,rfl,zAB hI2 (zAB hI3 hI4),rfl,h4,hTL3.mono hI4,hT3,by omega,by omega,?_⟩;rw [hm];simp [hg,Res.bind]
 ·try refine zqe ?_
  unfold Yj;repeat' (first|refine zqa ?_|refine zqh (λ_=>?_)|refine zqr ?_|refine zqb ?_|refine zqi ?_ ?_|refine zqc ?_|refine zqg (λ_=>?_) (λ_=>?_)|refine zqe ?_|fail)
  refine zAG (L1++(b,PBo v2)::L2) (zAA (hok x l2 ?_ hT2 hlen I2 v2 _ hI2 hTL hw));rw [hm];cases f with
  |zero=>rfl
  |succ f=>simp [Fg,LV,hb]
theorem Qa (n:Nat){g:Pr Ex}{fv:Value}{bm:Nat}{es:Array MapEntry}{clock:Nat}{q:Bs→Option Int}(hq:∀s,q s≠some 0)(hone:OneP ω (n+1) b g (Wp ExV) fv I)(hma:I bm=some (.map es clock))(hms:MapS es clock λk=>(q k).map (.int .i64))
  [hF:Foc b L (PBo v) C] (h:TL I v l) (hT:Toks l) (hl:l.length≤n+1) (hok:EOk (DI n g (KI q) l) l.length K C I) (herr:PEr (DI n g (KI q) l) Pn C I):
  CalP Tryz.prog ω 291 #[Ac b,fv,.map (some bm)] K Pn I L:=by
 obtain ⟨L1,L2,rfl,rfl⟩:=hF.foc;refine AMb ?_;unfold sh291;refine Am (λb1=>?_);refine Et (hone _ _ _ _ _ _ _ inferInstance (zAC _) h hT hl ?_ ?_);rotate_left
 ·intro e hg I' v' hI;exact zAG (L1++(b,PBo v')::L2) (zAA (herr e (by simp only [DI,hg,Res.bind]) I' v' hI))
 rintro x0 r0 hg0 hT0 hr0 I0 v0 c hI0 hTL0 ⟨cx,rfl,hx⟩;obtain ⟨w0,rfl,hw0⟩:=ExV.iff.1 hx;refine Am (λb3=>?_);obtain ⟨a0,c0,rfl⟩:=zAH hw0;repeat' (first|refine zqa ?_|refine zqh (λ_=>?_)|refine zqr ?_|refine zqb ?_|refine zqi ?_ ?_|refine zqc ?_|refine zqg (λ_=>?_) (λ_=>?_)|refine zqe ?_|fail)
 refine loop (λm s I2 Lx=>∃x a k v2 l2 f,l2.length=m∧Ext I I2∧Lx=(b3,Obj.cells (BX x (.slice a x.args.length k)).toArray 65 (0,0))::(b1,Obj.cells exZ.toArray 65 (0,0))::(L1++(b,PBo v2)::L2)∧ExL I2 (.slice a x.args.length k) x.args∧TL I2 v2 l2∧Toks l2∧l2.length≤f+1∧l2.length≤l.length∧DI n g (KI q) l=Fg g (KI q) f x l2) r0.length
  ⟨x0,a0,c0,v0,r0,n,rfl,hI0,rfl,hw0,hTL0,hT0,by omega,hr0,by simp only [DI,hg0,Res.bind]⟩ ?_
 rintro m s I2 Lx ⟨x,a,k,v2,l2,f,rfl,hI2,rfl,hw,hTL,hT2,hf,hlen,hm⟩;obtain ⟨bt,off,h1,h2⟩:=hTL.hd hT2;have fin:∀{L':LH},KI q l2=0→SubP (L1++(b,PBo v2)::L2) L'→Gh (K (.agg (BX x (.slice a x.args.length k)).toArray)) I2 L':=λh0 hs=>by
  refine zAG (L1++(b,PBo v2)::L2) (zAA (hok x l2 ?_ hT2 hlen I2 v2 _ hI2 hTL hw));rw [hm];cases f with
  |zero=>rfl
  |succ f=>simp only [Fg,h0,if_true]
 unfold sh291_1;repeat' (first|refine zqa ?_|refine zqh (λ_=>?_)|(refine rd1 ((h2 _ [] (zAC _) 0 _ rfl).mono (zAC _) (λ_ h=>by cases h)) ?_)|refine zqr ?_|refine zqb ?_|refine zqi ?_ ?_|refine zqc ?_|refine zqg (λ_=>?_) (λ_=>?_)|(simp only [SSd,Nat.reduceAdd,h1]))
 ·rename_i hb
  have hb:isK l2 5=true:=by simpa [isK] using hb
  refine rd1 ((h2 I2 [] (zAC _) 2 _ rfl).mono (zAC _) (λ_ h=>by cases h)) ?_;refine ⟨_,AKs (.inr (hI2 _ _ hma)) hms (k:=(hd l2).text),?_⟩;cases hqt:q (hd l2).text with
  |none=>
   simp only [Option.map_none,lkV,if_true];repeat' (first|refine zqa ?_|refine zqh (λ_=>?_)|refine zqr ?_|refine zqb ?_|(with_reducible first|refine BJ (sh291_3.eq_1 ..) ?_|refine BJ (sh291_1.eq_1 ..) ?_|refine BJ (sh291.eq_1 ..) ?_|refine And.intro ?_ ?_)|refine zqc ?_|refine zqg (λ_=>?_) (λ_=>?_)|refine zqe ?_|fail)
   exact fin (by simp [KI,hb,hqt]) inferInstance
  |some kd=>
   have hop:KI q l2=kd:=by simp [KI,hb,hqt]
   have hkd:kd≠0:=λe=>hq _ (by rw [hqt,e]);have hT':=hT2.tailK hb;obtain ⟨f,rfl⟩:∃q,f=q+1:=⟨f - 1,by have:=hT'.len;have:=hT2.len;omega⟩;simp only [Fg,hop,if_neg hkd] at hm;simp only [zbb,lkV,if_true];try refine zqe ?_
   refine Ai (Hq hTL hT2 (λv' hv'=>?_));refine Bl (b:=b) ?_;refine Pe rfl ?_;have hl2:=hT2.len;refine Et (hone _ _ _ _ _ _ _ inferInstance hI2 hv' hT' zo ?_ ?_);rotate_left
   ·intro e hg I3 v3 hI3;exact zAG (L1++(b,PBo v3)::L2) (zAA (herr e (by rw [hm];simp [hg,Res.bind]) I3 v3 (zAB hI2 hI3)))
   rintro y r hg hT3 hr I3 v3 c hI3 hTL3 ⟨cy,rfl,hy⟩;obtain ⟨u,rfl,hu⟩:=ExV.iff.1 hy;dsimp only
   refine Dc hI3 ?_;refine CJ (zAM hw hI3) hu (λI4 a4 hI4 h4=>zAA ?_);refine Ai (BC h4 ?_);repeat' (first|refine zqa ?_|refine zqh (λ_=>?_)|refine zqr ?_|refine zqb ?_|refine zqi ?_ ?_|refine zqc ?_|refine zqg (λ_=>?_) (λ_=>?_)|refine zqe ?_|fail)
   refine zAA ⟨r.length,by omega,exK kd [x,y],a4,2,v3,r,f,rfl,zAB hI2 (zAB hI3 hI4),rfl,h4,hTL3.mono hI4,hT3,by omega,by omega,?_⟩;rw [hm];simp [hg,Res.bind]
 ·rename_i hb
  have hb:isK l2 5=false:=by simpa [isK] using hb
  repeat' (first|refine zqa ?_|refine zqh (λ_=>?_)|refine zqr ?_|refine zqb ?_|(with_reducible first|refine BJ (sh291_3.eq_1 ..) ?_|refine BJ (sh291_1.eq_1 ..) ?_|refine BJ (sh291.eq_1 ..) ?_|refine And.intro ?_ ?_)|refine zqc ?_|refine zqg (λ_=>?_) (λ_=>?_)|refine zqe ?_|fail)
  exact fin (by simp [KI,hb]) inferInstance
end
section
variable {ω:Om}{I:Imm}{L:LH}{K Pn:Value→M}{C:Obj→LH}{b:Nat}{v:Value}{l:List Tok}
theorem ADG:JA (JA (JA (λ_=>none) [43] (some (.int .i64 9))) [45] (some (.int .i64 10))) [124,124] (some (.int .i64 14))=λk=>(XJ k).map (.int .i64):=by
 funext k
 simp only [JA,XJ];by_cases h1:k=[43]
 ·subst h1;rfl
 ·by_cases h2:k=[45]
  ·subst h2;rfl
  ·by_cases h3:k=[124,124]
   ·subst h3;rfl
   ·simp only [h1,h2,h3,if_false];rfl
theorem ABL:JA (JA (JA (λ_=>none) [42] (some (.int .i64 11))) [47] (some (.int .i64 12))) [37] (some (.int .i64 13))=λk=>(Oq k).map (.int .i64):=by
 funext k
 simp only [JA,Oq];by_cases h1:k=[42]
 ·subst h1;rfl
 ·by_cases h2:k=[47]
  ·subst h2;rfl
  ·by_cases h3:k=[37]
   ·subst h3;rfl
   ·simp only [h1,h2,h3,if_false];rfl
theorem AHK (s:Bs):XJ s≠some 0:=by unfold XJ;repeat' split <;> simp
theorem ACz (s:Bs):Oq s≠some 0:=by unfold Oq;repeat' split <;> simp
theorem ALX (n:Nat){g:Pr Ex}(hg1:FnE ω (n+1) b 292 g):FnE ω (n+1) b 288 (DI n g (KI XJ)):=by
 intro K Pn I L C v l hF h hT hl hok herr;obtain ⟨L1,L2,rfl,rfl⟩:=hF.foc;refine AMc ?_;unfold AJC;refine Am (λb1=>?_);refine AEy (λbm=>?_);obtain ⟨es1,c1,e1,h1⟩:=MapS.empty.put [43] (.int .i64 9);obtain ⟨es2,c2,e2,h2⟩:=h1.put [45] (.int .i64 10);obtain ⟨es3,c3,e3,h3⟩:=h2.put [124,124] (.int .i64 14);rw [ADG] at h3;refine zAA (Nr (k:=[43]) MapS.empty e1 ?_);refine zAA (Nr (k:=[45]) h1 e2 ?_);refine zAA (Nr (k:=[124,124]) h2 e3 ?_);refine zAA ?_;refine AU (CalP.pre (Gh.freeze λhI1=>zAA ?_));refine Qa n AHK (hg1.one (by kernel_rfl)) (es:=es3) (clock:=c3) (by simp [Imm.put]) h3 (h.mono hI1) hT hl (λx r hg hT' hr I' v' w hI' hv' hw=>?_) (λe hg I' v' hI'=>?_)
 ·obtain ⟨a,k,rfl⟩:=zAH hw;repeat' (first|(with_reducible first|refine Bl (b:=b) ?_|refine keepA ?_|refine Am (λ_=>?_))|(with_reducible refine Ai ?_;refine Bo _ zT zA (λhb hT' hl' v' hv'=>?_) (λhb=>?_))|(with_reducible refine Bd _ zT zA (λhb hT' hl' I' v' hI' hv'=>?_) (λhb I' v' hI'=>?_))|(with_reducible refine AU ?_;refine CQ zT zA (λhb hT' hl' v' hv'=>?_) (λhb=>?_))|(with_reducible refine AU ?_;refine Ae zT zA ?_)|(with_reducible first|refine Ci zC (λI' a hI' hw'=>zAA ?_)|refine CJ zC zC (λI' a hI' hw'=>zAA ?_)|refine DF zC zC zC (λI' a hI' hw'=>zAA ?_))|(with_reducible refine Ai ?_;refine BC zC ?_)|refine zqr ?_|refine zqb ?_|refine zqi ?_ ?_|refine zqc ?_|refine zqg (λhb=>?_) (λhb=>?_)|refine zqe ?_|fail)
  exact zAG (L1++(b,PBo v')::L2) (zAA (hok x r hg hT' hr I' v' _ (zAB hI1 hI') hv' hw))
 ·exact zAG (L1++(b,PBo v')::L2) (zAA (herr e hg I' v' (zAB hI1 hI')))
theorem AHF (n:Nat){g:Pr Ex}(hg1:FnE ω (n+1) b 294 g):FnE ω (n+1) b 292 (DI n g (KI Oq)):=by
 intro K Pn I L C v l hF h hT hl hok herr;obtain ⟨L1,L2,rfl,rfl⟩:=hF.foc;refine AMa ?_;unfold AJB;refine Am (λb1=>?_);refine AEy (λbm=>?_);obtain ⟨es1,c1,e1,h1⟩:=MapS.empty.put [42] (.int .i64 11);obtain ⟨es2,c2,e2,h2⟩:=h1.put [47] (.int .i64 12);obtain ⟨es3,c3,e3,h3⟩:=h2.put [37] (.int .i64 13);rw [ABL] at h3;refine zAA (Nr (k:=[42]) MapS.empty e1 ?_);refine zAA (Nr (k:=[47]) h1 e2 ?_);refine zAA (Nr (k:=[37]) h2 e3 ?_);refine zAA ?_;refine AU (CalP.pre (Gh.freeze λhI1=>zAA ?_));refine Qa n ACz (hg1.one (by kernel_rfl)) (es:=es3) (clock:=c3) (by simp [Imm.put]) h3 (h.mono hI1) hT hl (λx r hg hT' hr I' v' w hI' hv' hw=>?_) (λe hg I' v' hI'=>?_)
 ·obtain ⟨a,k,rfl⟩:=zAH hw;repeat' (first|(with_reducible first|refine Bl (b:=b) ?_|refine keepA ?_|refine Am (λ_=>?_))|(with_reducible refine Ai ?_;refine Bo _ zT zA (λhb hT' hl' v' hv'=>?_) (λhb=>?_))|(with_reducible refine Bd _ zT zA (λhb hT' hl' I' v' hI' hv'=>?_) (λhb I' v' hI'=>?_))|(with_reducible refine AU ?_;refine CQ zT zA (λhb hT' hl' v' hv'=>?_) (λhb=>?_))|(with_reducible refine AU ?_;refine Ae zT zA ?_)|(with_reducible first|refine Ci zC (λI' a hI' hw'=>zAA ?_)|refine CJ zC zC (λI' a hI' hw'=>zAA ?_)|refine DF zC zC zC (λI' a hI' hw'=>zAA ?_))|(with_reducible refine Ai ?_;refine BC zC ?_)|refine zqr ?_|refine zqb ?_|refine zqi ?_ ?_|refine zqc ?_|refine zqg (λhb=>?_) (λhb=>?_)|refine zqe ?_|fail)
  exact zAG (L1++(b,PBo v')::L2) (zAA (hok x r hg hT' hr I' v' _ (zAB hI1 hI') hv' hw))
 ·exact zAG (L1++(b,PBo v')::L2) (zAA (herr e hg I' v' (zAB hI1 hI')))
theorem ALv (n:Nat){N Q:Pr Ex}(hN:FnE ω n b 272 N)(hQ:FnE ω (n+1) b 283 Q):FnE ω (n+1) b 272 (Qn N Q):=by
 intro K Pn I L C v l hF h hT hl hok herr;obtain ⟨L1,L2,rfl,rfl⟩:=hF.foc;refine AMi ?_;unfold AJF;refine Am (λb1=>?_);refine Ai (Bo [110,111,116] h hT (λhb hT' hl' v' hv'=>?_) (λhb=>?_))
 ·try refine zqe ?_
  refine AU (hN _ _ _ _ _ _ _ inferInstance hv' hT' zo (λx r hg hT2 hr I2 v2 w hI2 hv2 hw=>?_) (λe hg I2 v2 hI2=>zAG (L1++(b,PBo v2)::L2) (zAA (herr e (by simp only [Qn,hb,if_true,hg,Res.bind]) I2 v2 hI2))));repeat' (first|(with_reducible first|refine Bl (b:=b) ?_|refine keepA ?_|refine Am (λ_=>?_))|(with_reducible refine Ai ?_;refine Bo _ zT zA (λhb hT' hl' v' hv'=>?_) (λhb=>?_))|(with_reducible refine Bd _ zT zA (λhb hT' hl' I' v' hI' hv'=>?_) (λhb I' v' hI'=>?_))|(with_reducible refine AU ?_;refine CQ zT zA (λhb hT' hl' v' hv'=>?_) (λhb=>?_))|(with_reducible refine AU ?_;refine Ae zT zA ?_)|(with_reducible first|refine Ci zC (λI' a hI' hw'=>zAA ?_)|refine CJ zC zC (λI' a hI' hw'=>zAA ?_)|refine DF zC zC zC (λI' a hI' hw'=>zAA ?_))|(with_reducible refine Ai ?_;refine BC zC ?_)|refine zqr ?_|refine zqb ?_|refine zqi ?_ ?_|refine zqc ?_|refine zqg (λhb=>?_) (λhb=>?_)|refine zqe ?_|fail)
  exact zAG (L1++(b,PBo v2)::L2) (zAA (hok (exK 5 [x]) r (by simp only [Qn,hb,if_true,hg,Res.bind]) hT2 zo _ v2 _ (zAB hI2 zA) (hv2.mono zA) zA))
 ·try refine zqe ?_
  refine AU (hQ _ _ _ _ _ _ _ inferInstance h hT zo (λx r hg hT2 hr I2 v2 w hI2 hv2 hw=>?_) (λe hg I2 v2 hI2=>zAG (L1++(b,PBo v2)::L2) (zAA (herr e (by simp only [Qn,hb,zl,if_false,hg]) I2 v2 hI2))));obtain ⟨a,k,rfl⟩:=zAH hw;repeat' (first|(with_reducible first|refine Bl (b:=b) ?_|refine keepA ?_|refine Am (λ_=>?_))|(with_reducible refine Ai ?_;refine Bo _ zT zA (λhb hT' hl' v' hv'=>?_) (λhb=>?_))|(with_reducible refine Bd _ zT zA (λhb hT' hl' I' v' hI' hv'=>?_) (λhb I' v' hI'=>?_))|(with_reducible refine AU ?_;refine CQ zT zA (λhb hT' hl' v' hv'=>?_) (λhb=>?_))|(with_reducible refine AU ?_;refine Ae zT zA ?_)|(with_reducible first|refine Ci zC (λI' a hI' hw'=>zAA ?_)|refine CJ zC zC (λI' a hI' hw'=>zAA ?_)|refine DF zC zC zC (λI' a hI' hw'=>zAA ?_))|(with_reducible refine Ai ?_;refine BC zC ?_)|refine zqr ?_|refine zqb ?_|refine zqi ?_ ?_|refine zqc ?_|refine zqg (λhb=>?_) (λhb=>?_)|refine zqe ?_|fail)
  exact zAG (L1++(b,PBo v2)::L2) (zAA (hok x r (by simp only [Qn,hb,zl,if_false,hg]) hT2 hr I2 v2 _ hI2 hv2 hw))
end
theorem OneP.mono {α:Type}{ω:Om}{n b:Nat}{g:Pr α}{V:Imm→α→Value→Prop}{fv:Value}{I I':Imm}(h:OneP ω n b g V fv I)(hI:Ext I I'):OneP ω n b g V fv I':=
 λK Pn I2 L C v l hF hI2=>h K Pn I2 L C v l hF (zAB hI hI2)
section
variable {ω:Om}{I:Imm}{L:LH}{K Pn:Value→M}{C:Obj→LH}{b:Nat}{v:Value}{l:List Tok}
theorem ACp (n:Nat)(hn0:n≤1000000000){g:Pr (Ex)}{fv:Value}(hone:OneP ω n b g (Wp ExV) fv I)[hF:Foc b L (PBo v) C](h:TL I v l)(hT:Toks l)(hl:l.length≤n)
  (hok:POk (CE n g l) (λI x v=>RL ExV 11 I [] v x∧x.length≤l.length) l.length K C I) (herr:PEr (CE n g l) Pn C I):CalP Tryz.prog ω 234 #[Ac b,fv] K Pn I L:=by
 obtain ⟨L1,L2,rfl,rfl⟩:=hF.foc;refine ANI ?_;unfold AJb;refine Bd [40] h hT (λhb hT' hl' I1 v1 hI1 hv1=>?_) (λhb I1 v1 hI1=>zAA (herr _ (by simp [CE,AC,hb,Res.bind,bad]) I1 v1 hI1));refine AU (ADM n hn0 (hone.mono hI1) hv1 hT' zo (λx r hg hT2 hr I2 v2 c hI2 hv2 hc=>?_) (λe hg I2 v2 hI2=>zAA (herr e (by simp [CE,AC,hb,Res.bind,hg]) I2 v2 (zAB hI1 hI2))));refine Bd [41] hv2 hT2 (λhb2 hT3 hl3 I3 v3 hI3 hv3=>?_) (λhb2 I3 v3 hI3=>zAA (herr _ (by simp [CE,AC,hb,hb2,Res.bind,hg,bad]) I3 v3 (zAB hI1 (zAB hI2 hI3))));exact (zAA (hok x r.tail (by simp [CE,AC,hb,hb2,Res.bind,hg]) hT3 zo I3 v3 c (zAB hI1 (zAB hI2 hI3)) hv3 ⟨zAM hc.1 hI3,by have:=hc.2;omega⟩))
theorem ACo (n:Nat)(hn0:n≤1000000000){g:Pr (Bs)}{fv:Value}(hone:OneP ω n b g (AOk) fv I)[hF:Foc b L (PBo v) C](h:TL I v l)(hT:Toks l)(hl:l.length≤n)
  (hok:POk (CE n g l) (λI x v=>RL StrV 1 I [] v x∧x.length≤l.length) l.length K C I) (herr:PEr (CE n g l) Pn C I):CalP Tryz.prog ω 232 #[Ac b,fv] K Pn I L:=by
 obtain ⟨L1,L2,rfl,rfl⟩:=hF.foc;refine ANK ?_;unfold AJd;refine Bd [40] h hT (λhb hT' hl' I1 v1 hI1 hv1=>?_) (λhb I1 v1 hI1=>zAA (herr _ (by simp [CE,AC,hb,Res.bind,bad]) I1 v1 hI1));refine AU (ALa n hn0 (hone.mono hI1) hv1 hT' zo (λx r hg hT2 hr I2 v2 c hI2 hv2 hc=>?_) (λe hg I2 v2 hI2=>zAA (herr e (by simp [CE,AC,hb,Res.bind,hg]) I2 v2 (zAB hI1 hI2))));refine Bd [41] hv2 hT2 (λhb2 hT3 hl3 I3 v3 hI3 hv3=>?_) (λhb2 I3 v3 hI3=>zAA (herr _ (by simp [CE,AC,hb,hb2,Res.bind,hg,bad]) I3 v3 (zAB hI1 (zAB hI2 hI3))));exact (zAA (hok x r.tail (by simp [CE,AC,hb,hb2,Res.bind,hg]) hT3 zo I3 v3 c (zAB hI1 (zAB hI2 hI3)) hv3 ⟨StL.mono hc.1 hI3,by have:=hc.2;omega⟩))
theorem AFA (n:Nat):OneP ω n b Aq AOk (.func (.func 188) #[Ac b] #[]) I:=by
 intro K Pn I' L C v l hF hI h hT hl hok herr;refine Lj (by kernel_rfl) (CQ h hT (λhb hT' hl' v' hv'=>?_) (λhb=>?_))
 ·exact hok (hd l).text l.tail (by simp [Aq,hb]) hT' zo I' v' _ (zAC _) hv' rfl
 ·have:=herr (hd l).at' (by simp [Aq,hb,bad]) I' v (zAC _);obtain ⟨L1,L2,rfl,rfl⟩:=hF.foc;exact this
theorem Xl (n:Nat)(hn0:n≤1000000000)[hF:Foc b L (PBo v) C](h:TL I v l)(hT:Toks l)(hl:l.length≤n)
  (hok:POk (CE n Aq l) (λI x v=>StL I v x∧x.length≤l.length) l.length K C I) (herr:PEr (CE n Aq l) Pn C I):CalP Tryz.prog ω 189 #[Ac b] K Pn I L:=by
 refine ANp ?_;unfold AKB;refine AU (ACo n hn0 (AFA n) h hT hl (λx r hg hT2 hr I2 v2 c hI2 hv2 hc=>zAA (hok x r hg hT2 hr I2 v2 c hI2 hv2 hc)) (λe hg I2 v2 hI2=>zAA (herr e hg I2 v2 hI2)))
theorem VK (n:Nat)(hn0:n≤1000000000){E:Pr Ex}(hE:FnE ω n b 227 E)[hF:Foc b L (PBo v) C](h:TL I v l)(hT:Toks l)(hl:l.length≤n)
  (hok:POk (CE n E l) (λI x v=>ExL I v x∧x.length≤l.length) l.length K C I) (herr:PEr (CE n E l) Pn C I):CalP Tryz.prog ω 191 #[Ac b] K Pn I L:=by
 refine ANn ?_;unfold AJz;refine AU (ACp n hn0 (hE.one (by kernel_rfl)) h hT hl (λx r hg hT2 hr I2 v2 c hI2 hv2 hc=>zAA (hok x r hg hT2 hr I2 v2 c hI2 hv2 hc)) (λe hg I2 v2 hI2=>zAA (herr e hg I2 v2 hI2)))
theorem AEY (n:Nat)(hn0:n≤1000000000){E:Pr Ex}(hE:FnE ω n b 227 E)[hF:Foc b L (PBo v) C](h:TL I v l)(hT:Toks l)(hl:l.length≤n)
  (hok:∀x r,CE n E l= .ok x r→Toks r→r.length≤l.length→x.length≤l.length→∀I' v' a k,Ext I I'→TL I' v' r→ExL I' (.slice a x.length k) x→K (.slice a x.length k) I' (C (PBo v'))) (herr:PEr (CE n E l) Pn C I):CalP Tryz.prog ω 191 #[Ac b] K Pn I L:=
 VK n hn0 hE h hT hl (λx r hg hT' hr I' v' w hI hv' hw=>by
  obtain ⟨a,k,rfl⟩:=zAH hw.1;exact hok x r hg hT' hr hw.2 I' v' a k hI hv' hw.1) herr
def cmpLq:List Bs:=[[61],[60,62],[60],[60,61],[62],[62,61]]
theorem AEo {r:List Tok}:∀{k:Nat} (hk:k < 6),(∀j,j < k→isT r (cmpLq.getD j [])=false)→isT r (cmpLq.getD k [])=true→Gx r=15+k
 |0,_,_,h=>by simp only [cmpLq,zbc] at h;simp [Gx,h]
 |1,_,h0,h=>by have:=h0 0 zo;simp only [cmpLq,zbc,zbj] at h this;simp [Gx,h,this]
 |2,_,h0,h=>by have h1:=h0 0 zo;have h2:=h0 1 zo;simp only [cmpLq,zbc,zbj] at h h1 h2;simp [Gx,h,h1,h2]
 |3,_,h0,h=>by have h1:=h0 0 zo;have h2:=h0 1 zo;have h3:=h0 2 zo;simp only [cmpLq,zbc,zbj] at h h1 h2 h3;simp [Gx,h,h1,h2,h3]
 |4,_,h0,h=>by have h1:=h0 0 zo;have h2:=h0 1 zo;have h3:=h0 2 zo;have h4:=h0 3 zo;simp only [cmpLq,zbc,zbj] at h h1 h2 h3 h4;simp [Gx,h,h1,h2,h3,h4]
 |5,_,h0,h=>by have h1:=h0 0 zo;have h2:=h0 1 zo;have h3:=h0 2 zo;have h4:=h0 3 zo;have h5:=h0 4 zo;simp only [cmpLq,zbc,zbj] at h h1 h2 h3 h4 h5;simp [Gx,h,h1,h2,h3,h4,h5]
theorem AEn {r:List Tok}(h0:∀j,j < 6→isT r (cmpLq.getD j [])=false):Gx r=0:=by
 have h1:=h0 0 zo;have h2:=h0 1 zo;have h3:=h0 2 zo;have h4:=h0 3 zo;have h5:=h0 4 zo;have h6:=h0 5 zo;simp only [cmpLq,zbc,zbj] at h1 h2 h3 h4 h5 h6;simp [Gx,h1,h2,h3,h4,h5,h6]
end
theorem RL.toI {α:Type}{R:Imm→α→List Value→Prop}{n:Nat}{I:Imm}{v:Value}{xs:List α}(hn:0 < n)(h:RL R n I [] v xs):∃cells,SlI I n v cells xs.length∧Recs (R I) n xs cells:=by
 obtain ⟨a,cap,cells,rfl,hc,hN,hR⟩:=h;refine ⟨cells,⟨hR.length,a,cap,rfl,hc,λh0=>?_⟩,hR⟩;rcases hN with ⟨a',cap',e,h1,_⟩|⟨b,off,cap',e,hl,hcs⟩|⟨s,e,_⟩
 ·omega
 ·simp only [Value.slice.injEq] at e;obtain ⟨rfl,_,rfl⟩:=e;have hpos:0 < cells.length:=by rw [hl];exact Nat.mul_pos zo hn
  obtain ⟨cs,T,fr,hm,hv⟩:=hcs 0 cells[0] (zao hpos);rcases hm with hm|hm
  ·cases hm
  ·refine ⟨b,off,cs,T,fr,rfl,hm,λj u hu=>?_⟩;obtain ⟨cs',T',fr',hm',hv'⟩:=hcs j u hu;rcases hm' with hm'|hm'
   ·cases hm'
   ·rw [hm] at hm';cases hm';exact hv'
 ·cases e
theorem ACk {I:Imm}{L F:LH}(hp:L.Perm F){T n bytes len m:Nat}{z:Array Value}{s x:Value}{a:Option Addr}{olds news:List Value}{K:Value→M}(hz:z.size=n)(hs:s= .slice a len len)(ho:News n s I L len olds)(hn:News n x I L m news)
  (h1:∀u∈news,u.oneCell'=true) (hm:0 < m) (hb:(len+m) * bytes≤150000000000000) (hm':len+m≤150000000000000) (hk:∀X' v',SlO T n X' v' (olds++news) (len+m)→Gh (K v') I (X'++F)):App T n bytes z s x (gh K) I L:=by
 have hol:=ho.length;have hnl:=hn.length;have hlen:(olds++news).length=(len+m) * n:=by rw [zk,hol,hnl,zaA]
 refine ⟨a,len,len,m,news,hs,hn,h1,.inr (.inr ⟨by omega,hb,hm',olds,L,ho,List.Sublist.refl _,λb c hc=>?_⟩)⟩;refine Gh.perm (List.Perm.cons _ hp) ((hk [(b,_)] _ ⟨hlen,.inr ⟨b,c,_,rfl,rfl,?_,hc,?_⟩⟩))
 ·simp only [Array.size_append,List.size_toArray,EY,hz,hlen];rw [←zaA];congr 1;omega
 ·intro j u hu;have hlt:j < (olds++news).length:=(zaj.1 hu).1;rw [zaP (by simpa using hlt)];simpa using hu
section
variable {ω:Om}{I:Imm}{L:LH}{K Pn:Value→M}{C:Obj→LH}{b:Nat}{v:Value}{l:List Tok}
theorem ARA {T bytes m:Nat}{z:Array Value}(hz:z.size=11){a:Option Addr}{w:Value}{xs ys:List Ex}(hm:m=xs.length)(hu:ExL I (.slice a m m) xs)(hw:ExL I w ys)(hb:(xs.length+ys.length) * bytes≤150000000000000)(hl:xs.length+ys.length≤150000000000000)
  (hk:∀I' a' k,Ext I I'→ExL I' (.slice a' (xs++ys).length k) (xs++ys)→Gh (K (.slice a' (xs++ys).length k)) I' L):App T 11 bytes z (.slice a m m) w (gh K) I L:=by
 subst hm;obtain ⟨c1,s1,r1⟩:=RL.toI zx hu;obtain ⟨c2,s2,r2⟩:=RL.toI zx hw;by_cases h0:ys.length=0
 ·obtain rfl:=zQ h0;have hnil:c2=[]:=zQ (by simpa using r2.length);subst hnil;refine ⟨a,xs.length,xs.length,0,[],rfl,s2.news,zy,.inl ⟨zt _,rfl,?_⟩⟩;have e:(xs++([]:List Ex)).length=xs.length:=by simp
  have:=hk I a xs.length (zAC _) (by simpa using hu);rw [e] at this;exact this
 ·exact ACk (List.Perm.refl _) hz rfl (SlI.news s1 (L:=L)) (SlI.news s2 (L:=L)) (r2.one_cells λx c h=>ExV.one h) zo hb hl (λX' v' h'=>SlO.freeze h' λI' hI hS=>by
   have hx:ExL I' v' (xs++ys):=RL.ofI (by rw [zk];exact hS) (Recs.append (r1.imp λ_ _ h=>ExV.mono hI h) (r2.imp λ_ _ h=>ExV.mono hI h));obtain ⟨a',k,rfl⟩:=zAH hx;exact hk I' a' k hI hx)
end
section
variable {ω:Om}{b:Nat}
theorem AHs (n:Nat)(hn0:n+1≤1000000000){E S:Pr Ex}(hE:FnE ω n b 227 E)(hS:FnE ω (n+1) b 288 S):FnE ω (n+1) b 283 (JH n E S):=by
 intro K Pn I L C v l hF h hT hl hok herr;obtain ⟨L1,L2,rfl,rfl⟩:=hF.foc;refine AMf ?_;unfold sh283;refine Am (λb1=>?_);refine AU (hS _ _ _ _ _ _ _ inferInstance h hT hl ?_ ?_);rotate_left
 ·intro e hg I' v' hI;exact zAG (L1++(b,PBo v')::L2) (zAA (herr e (by simp only [JH,hg,Res.bind]) I' v' hI))
 intro x r0 hg0 hT0 hr0 I0 v0 w0 hI0 hTL0 hw0;refine Am (λb3=>?_);obtain ⟨a,k0,rfl⟩:=zAH hw0;repeat' (first|refine zqa ?_|refine zqh (λ_=>?_)|refine zqr ?_|refine zqb ?_|refine zqi ?_ ?_|refine zqc ?_|refine zqg (λ_=>?_) (λ_=>?_)|refine zqe ?_|fail)
 refine Di cmpLq rfl rfl (λI1 ac hI1 hc=>zAA ?_);try refine zqe ?_
 have hw1:=zAM hw0 hI1;have hTL1:=hTL0.mono hI1;have hI01:=zAB hI0 hI1;refine loop (λm s I2 Lx=>∃k:Nat,k+m=6∧s=(.int .i64 k,())∧I2=I1∧Lx=(b3,Obj.cells (BX x (.slice a x.args.length k0)).toArray 65 (0,0))::(b1,Obj.cells exZ.toArray 65 (0,0))::(L1++(b,PBo v0)::L2)∧∀j,j < k→isT r0 (cmpLq.getD j [])=false) 6
  ⟨0,rfl,rfl,rfl,rfl,λj hj=>by omega⟩ ?_
 rintro m s I2 Lx ⟨k,hkm,rfl,rfl,rfl,hno⟩;unfold sh283_1;try refine zqe ?_
 refine AP (λhlt=>?_) (λhlt=>?_)
 ·simp at hlt;have hlt:k < 6:=by omega
  obtain ⟨bw,off,c,h1,_,h2,h3⟩:=RL.ix hc (i:=k) zo (by simp [cmpLq];omega);have hgk:QG cmpLq (k:Int)=cmpLq.getD k []:=by simp [QG];rfl
  rw [hgk] at h2;obtain rfl:=h2;have h1:ixV 1 (.slice ac 6 6) (.int .i64 k)=some (.pointer (some ⟨bw,off,none⟩)):=h1;simp only [h1,SSd,Nat.reduceAdd];refine rd1 ((h3 _ [] (zAC _) (λ_ h=>h) 0 _ rfl).mono (zAC _) (λ_ h=>by cases h)) ?_;refine Ai (Bo (cmpLq.getD k []) hTL1 hT0 (λhb hT' hl' v' hv'=>?_) (λhb=>?_))
  ·try refine zqe ?_
   have hop:=AEo hlt hno hb;refine Bl (b:=b) ?_;simp only [SSd,Nat.reduceAdd,wrap_i64 (15+(k:Int)) zo];refine Pe rfl ?_;refine AU (hS _ _ _ _ _ _ _ inferInstance hv' hT' zo ?_ ?_);rotate_left
   ·intro e hg I3 v3 hI3;exact zAG (L1++(b,PBo v3)::L2) (zAA (herr e (by simp [JH,hg0,Res.bind,hop,hg];omega) I3 v3 (zAB hI01 hI3)))
   intro y r hg hT3 hr I3 v3 u hI3 hTL3 hu;refine Dc hI3 ?_;refine CJ (zAM hw1 hI3) hu (λI4 a4 hI4 h4=>zAA ?_);refine Ai (BC h4 ?_);repeat' (first|refine zqa ?_|refine zqh (λ_=>?_)|refine zqr ?_|refine zqb ?_|refine zqi ?_ ?_|refine zqc ?_|refine zqg (λ_=>?_) (λ_=>?_)|refine zqe ?_|fail)
   refine zAG (L1++(b,PBo v3)::L2) (zAA (hok (exK (15+k) [x,y]) r ?_ hT3 zo I4 v3 _ (zAB hI01 (zAB hI3 hI4)) (hTL3.mono hI4) h4));simp [JH,hg0,Res.bind,hop,hg];omega
  ·simp only [SSd,Nat.reduceAdd,wrap_i64 ((k:Int)+1) zo];refine zAA ⟨m - 1,by omega,k+1,by omega,rfl,rfl,rfl,λj hj=>?_⟩;rcases Nat.lt_succ_iff_lt_or_eq.1 hj with hj|rfl
   ·exact hno j hj
   ·exact hb
 ·simp at hlt;have hop:Gx r0=0:=AEn λj hj=>hno j zo;clear hno hlt hkm hc;unfold sh283_3;repeat' (first|(with_reducible first|refine Bl (b:=b) ?_|refine keepA ?_|refine Am (λ_=>?_))|(with_reducible refine AU ?_;refine hS.go zT zA zo (λy r' hg hT2 hr2 I' v' a' k' hI' hv' hw'=>?_) (λe hg I' v' hI'=>?_))|(with_reducible refine AU ?_;refine AEY n zo hE zT zA zo (λy r' hg hT2 hr2 hyl I' v' a' k' hI' hv' hw'=>?_) (λe hg I' v' hI'=>?_))|(with_reducible refine ARA rfl rfl zC zC zL zL (λI' a' k' hI' hw'=>zAA ?_))|(with_reducible refine Ai ?_;refine Bo _ zT zA (λhb hT' hl' v' hv'=>?_) (λhb=>?_))|(with_reducible refine Bd _ zT zA (λhb hT' hl' I' v' hI' hv'=>?_) (λhb I' v' hI'=>?_))|(with_reducible refine AU ?_;refine CQ zT zA (λhb hT' hl' v' hv'=>?_) (λhb=>?_))|(with_reducible refine AU ?_;refine Ae zT zA ?_)|(with_reducible first|refine Ci zC (λI' a hI' hw'=>zAA ?_)|refine CJ zC zC (λI' a hI' hw'=>zAA ?_)|refine DF zC zC zC (λI' a hI' hw'=>zAA ?_))|(with_reducible refine Ai ?_;refine BC zC ?_)|refine zqr ?_|refine zqb ?_|(with_reducible first|refine BJ (sh283_4.eq_1 ..) ?_|refine BJ (sh283_7.eq_1 ..) ?_|refine BJ (sh283_3.eq_1 ..) ?_|refine BJ (sh283_1.eq_1 ..) ?_|refine BJ (sh283.eq_1 ..) ?_|refine And.intro ?_ ?_)|refine zqc ?_|refine zqg (λhb=>?_) (λhb=>?_)|refine zqe ?_|fail)
  all_goals first
   |exact zAG (L1++(b,PBo v')::L2) (zAA (herr _ (by simp [JH,hg0,hop,Res.bind,bad,AC, *] <;> rfl) _ _ zE))
   |exact zAG (L1++(b,PBo v')::L2) (zAA (hok _ _ (by simp [JH,hg0,hop,VU,Res.bind,bad,AC, *] <;> rfl) zA zo _ _ _ zE zT zC))
   |exact zAG (L1++(b,PBo v0)::L2) (zAA (hok _ _ (by simp [JH,hg0,hop,Res.bind,bad,AC,VU, *] <;> rfl) zA zo _ _ _ zE zT zC))
end
def NQ (E:Pr Ex)(a:List Ex)(r:List Tok):Res Ex:=(if isT r [101,108,115,101] then (E r.tail).bind λx r=>.ok (a++[x]) r else Res.ok a r).bind λa r=>(AC [101,110,100] r).bind λ_ r=>.ok (exK 26 a) r
theorem AFn (n:Nat)(E:Pr Ex)(l:List Tok):Iy n E l=(Ed n E [] l).bind λa r=>(FH n E n a r).bind (NQ E):=rfl
abbrev AFm (w:Value):List Value:=[.int .i64 26,.int .i64 0,.bool false,.int .i64 0,.string ⟨#[]⟩,.string ⟨#[]⟩,.string ⟨#[]⟩,.int .i64 0,.int .i64 0,.bool false,w]
section
variable {ω:Om}{b:Nat}
theorem AFl (n:Nat)(hn0:n≤1000000000){E:Pr Ex}(hE:FnE ω n b 227 E):FnE ω n b 297 (Iy n E):=by
 intro K Pn I L C v l hF h hT hl hok herr;obtain ⟨L1,L2,rfl,rfl⟩:=hF.foc;refine AMY ?_;unfold AJA;refine Am (λb1=>?_);try refine zqe ?_
 refine Am (λb3=>?_);repeat' (first|refine zqa ?_|refine zqh (λ_=>?_)|refine zqr ?_|refine zqb ?_|refine zqi ?_ ?_|refine zqc ?_|refine zqg (λ_=>?_) (λ_=>?_)|refine zqe ?_|fail)
 refine loop (λm s I2 Lx=>∃(X:LH) (w:Value) (cells:List Value) (acc:List Ex) (v2:Value) (l2:List Tok) (f:Nat),l2.length=m∧Ext I I2∧Lx=(b3,Obj.cells (AFm w).toArray 65 (0,0))::(b1,Obj.cells exZ.toArray 65 (0,0))::(X++(L1++(b,PBo v2)::L2))∧SlO 65 11 X w cells acc.length∧Recs (ExV I2) 11 acc cells∧TL I2 v2 l2∧Toks l2∧l2.length≤f∧l2.length≤l.length∧acc.length+l2.length≤l.length∧
   ((acc=[]∧w= .slice none 0 0∧Iy n E l=(Ed n E acc l2).bind λa r=>(FH n E f a r).bind (NQ E))∨((∃bb cap,w= .slice (some bb) acc.length cap)∧Iy n E l=(FH n E f acc l2).bind (NQ E)))) l.length
  ⟨[],.slice none 0 0,[],[],v,l,n,rfl,zAC _,rfl,zAN _ _,rfl,h,hT,hl,zt _,by simp,.inl ⟨rfl,rfl,AFn n E l⟩⟩ ?_
 rintro m s I2 Lx ⟨X,w,cells,acc,v2,l2,f,rfl,hI2,rfl,hX,hR,hTL,hT2,hf,hlen,hal,hm⟩;unfold Yg;rcases hm with ⟨rfl,rfl,hm⟩|⟨⟨bb,cap,rfl⟩,hm⟩
 ·try refine zqe ?_
  refine rdb ?_;try refine zqe ?_
  refine Bd [119,104,101,110] hTL hT2 (λhb hT' hl' I3 v3 hI3 hv3=>?_) (λhb I3 v3 hI3=>zAG (L1++(b,PBo v3)::L2) (zAA (herr _ (by rw [hm];simp [Ed,AC,hb,Res.bind,bad]) I3 v3 (zAB hI2 hI3))));refine AU (hE.go hv3 hT' zo (λx r hg hT3 hr I4 v4 a4 k4 hI4 hv4 hw4=>?_) (λe hg I4 v4 hI4=>zAG (L1++(b,PBo v4)::L2) (zAA (herr e (by rw [hm];simp [Ed,AC,hb,Res.bind,hg]) I4 v4 (zAB hI2 (zAB hI3 hI4))))));refine Am (λbw=>?_);repeat' (first|refine zqa ?_|refine zqh (λ_=>?_)|refine zqr ?_|refine zqb ?_|refine zqi ?_ ?_|refine zqc ?_|refine zqg (λ_=>?_) (λ_=>?_)|refine zqe ?_|fail)
  refine Bd [116,104,101,110] hv4 hT3 (λhb2 hT4 hl4 I5 v5 hI5 hv5=>?_) (λhb2 I5 v5 hI5=>zAG (L1++(b,PBo v5)::L2) (zAA (herr _ (by rw [hm];simp [Ed,AC,hb,hb2,Res.bind,hg,bad]) I5 v5 (zAB hI2 (zAB hI3 (zAB hI4 hI5))))));refine Bl (b:=b) ?_;try refine zqe ?_
  refine BM ?_;refine Pe rfl ?_;refine AU (hE.go hv5 hT4 zo (λy r6 hg6 hT6 hr6 I6 v6 a6 k6 hI6 hv6 hw6=>?_) (λe hg6 I6 v6 hI6=>zAG (L1++(b,PBo v6)::L2) (zAA (herr e (by rw [hm];simp [Ed,AC,hb,hb2,Res.bind,hg,hg6]) I6 v6 (zAB hI2 (zAB hI3 (zAB hI4 (zAB hI5 hI6))))))));refine Dc hI6 ?_;refine CJ (zAM hw4 (zAB hI5 hI6)) hw6 (λI7 a7 hI7 hw7=>zAA ?_);refine Dc (zAB hI6 hI7) ?_;obtain ⟨c7,s7,r7⟩:=RL.toI zx hw7;refine BQ (X:=X) rfl hX s7.news (r7.one_cells λx c h=>ExV.one h) zL zL (λX8 w8 hX8=>?_);have hI27:Ext I2 I7:=zAB hI3 (zAB hI4 (zAB hI5 (zAB hI6 hI7)));have hR8:=Recs.append (Recs.imp (R':=ExV I7) (λ_ _ h=>ExV.mono hI27 h) hR) r7;have e8:([]:List Ex).length+[x,y].length=(([]:List Ex)++[x,y]).length:=by simp
  rw [e8] at hX8;obtain ⟨a8,k8,ha8⟩:∃a k,w8= .slice (some a) (([]:List Ex)++[x,y]).length k:=by
   obtain ⟨_,h8⟩:=hX8;rcases h8 with ⟨_,h0,_⟩|⟨b8,k8,_,_,h8,_⟩
   ·simp at h0
   ·exact ⟨_,_,h8⟩
  subst ha8;repeat' (first|refine zqa ?_|refine zqh (λ_=>?_)|refine zqr ?_|refine zqb ?_|refine zqi ?_ ?_|refine zqc ?_|refine zqg (λ_=>?_) (λ_=>?_)|refine zqe ?_|fail)
  refine zAG ((b3,Obj.cells (AFm (.slice (some a8) (([]:List Ex)++[x,y]).length k8)).toArray 65 (0,0))::(b1,Obj.cells exZ.toArray 65 (0,0))::(X8++(L1++(b,PBo v6)::L2))) (zAA ⟨r6.length,by omega,X8,_,_,([]:List Ex)++[x,y],v6,r6,f,rfl,zAB hI2 hI27,rfl,hX8,hR8,hv6.mono hI7,hT6,by omega,by omega,?_,.inr ⟨⟨a8,k8,rfl⟩,?_⟩⟩)
  ·simp only [zU] at hal ⊢;omega
  ·rw [hm];simp [Ed,AC,hb,hb2,Res.bind,hg,hg6]
 ·try refine zqe ?_
  refine rdb ?_;try refine zqe ?_
  refine Ai (Ia [119,104,101,110] hTL hT2 (λhw=>?_) (λhw=>?_))
  ·try refine zqe ?_
   obtain ⟨f,rfl⟩:∃q,f=q+1:=⟨f - 1,by have:=hT2.len;omega⟩;have hm:Iy n E l=(Ed n E acc l2).bind λa r=>(FH n E f a r).bind (NQ E):=by
    rw [hm];simp only [FH,hw,if_true,Res.bind];cases Ed n E acc l2 <;> rfl
   refine Bd [119,104,101,110] hTL hT2 (λhb hT' hl' I3 v3 hI3 hv3=>?_) (λhb I3 v3 hI3=>zAG (L1++(b,PBo v3)::L2) (zAA (herr _ (by rw [hm];simp [Ed,AC,hb,Res.bind,bad]) I3 v3 (zAB hI2 hI3))));refine AU (hE.go hv3 hT' zo (λx r hg hT3 hr I4 v4 a4 k4 hI4 hv4 hw4=>?_) (λe hg I4 v4 hI4=>zAG (L1++(b,PBo v4)::L2) (zAA (herr e (by rw [hm];simp [Ed,AC,hb,Res.bind,hg]) I4 v4 (zAB hI2 (zAB hI3 hI4))))));refine Am (λbw=>?_);repeat' (first|refine zqa ?_|refine zqh (λ_=>?_)|refine zqr ?_|refine zqb ?_|refine zqi ?_ ?_|refine zqc ?_|refine zqg (λ_=>?_) (λ_=>?_)|refine zqe ?_|fail)
   refine Bd [116,104,101,110] hv4 hT3 (λhb2 hT4 hl4 I5 v5 hI5 hv5=>?_) (λhb2 I5 v5 hI5=>zAG (L1++(b,PBo v5)::L2) (zAA (herr _ (by rw [hm];simp [Ed,AC,hb,hb2,Res.bind,hg,bad]) I5 v5 (zAB hI2 (zAB hI3 (zAB hI4 hI5))))));refine Bl (b:=b) ?_;try refine zqe ?_
   refine BM ?_;refine Pe rfl ?_;refine AU (hE.go hv5 hT4 zo (λy r6 hg6 hT6 hr6 I6 v6 a6 k6 hI6 hv6 hw6=>?_) (λe hg6 I6 v6 hI6=>zAG (L1++(b,PBo v6)::L2) (zAA (herr e (by rw [hm];simp [Ed,AC,hb,hb2,Res.bind,hg,hg6]) I6 v6 (zAB hI2 (zAB hI3 (zAB hI4 (zAB hI5 hI6))))))));refine Dc hI6 ?_;refine CJ (zAM hw4 (zAB hI5 hI6)) hw6 (λI7 a7 hI7 hw7=>zAA ?_);refine Dc (zAB hI6 hI7) ?_;obtain ⟨c7,s7,r7⟩:=RL.toI zx hw7;refine BQ (X:=X) rfl hX s7.news (r7.one_cells λx c h=>ExV.one h) zL zL (λX8 w8 hX8=>?_);have hI27:Ext I2 I7:=zAB hI3 (zAB hI4 (zAB hI5 (zAB hI6 hI7)));have hR8:=Recs.append (Recs.imp (R':=ExV I7) (λ_ _ h=>ExV.mono hI27 h) hR) r7;have e8:acc.length+[x,y].length=(acc++[x,y]).length:=by simp
   rw [e8] at hX8;obtain ⟨a8,k8,ha8⟩:∃a k,w8= .slice (some a) (acc++[x,y]).length k:=by
    obtain ⟨_,h8⟩:=hX8;rcases h8 with ⟨_,h0,_⟩|⟨b8,k8,_,_,h8,_⟩
    ·simp at h0
    ·exact ⟨_,_,h8⟩
   subst ha8;repeat' (first|refine zqa ?_|refine zqh (λ_=>?_)|refine zqr ?_|refine zqb ?_|refine zqi ?_ ?_|refine zqc ?_|refine zqg (λ_=>?_) (λ_=>?_)|refine zqe ?_|fail)
   refine zAG ((b3,Obj.cells (AFm (.slice (some a8) (acc++[x,y]).length k8)).toArray 65 (0,0))::(b1,Obj.cells exZ.toArray 65 (0,0))::(X8++(L1++(b,PBo v6)::L2))) (zAA ⟨r6.length,by omega,X8,_,_,acc++[x,y],v6,r6,f,rfl,zAB hI2 hI27,rfl,hX8,hR8,hv6.mono hI7,hT6,by omega,by omega,?_,.inr ⟨⟨a8,k8,rfl⟩,?_⟩⟩)
   ·simp only [zU] at hal ⊢;omega
   ·rw [hm];simp [Ed,AC,hb,hb2,Res.bind,hg,hg6]
  ·try refine zqe ?_
   have hm:Iy n E l=NQ E acc l2:=by
    rw [hm];cases f with
    |zero=>rfl
    |succ f=>simp [FH,hw,Res.bind]
   unfold Yf;refine Ai (Bo [101,108,115,101] hTL hT2 (λhe hT' hl' v3 hv3=>?_) (λhe=>?_))
   ·try refine zqe ?_
    refine Bl (b:=b) ?_;try refine zqe ?_
    refine BM ?_;refine AU (hE.go hv3 hT' zo (λx r hg hT3 hr I3 v3 a3 k3 hI3 hv3 hw3=>?_) (λe hg I3 v3 hI3=>zAG (L1++(b,PBo v3)::L2) (zAA (herr e (by rw [hm];simp [NQ,he,hg,Res.bind]) I3 v3 (zAB hI2 hI3)))));refine Dc hI3 ?_;refine Ci hw3 (λI4 a4 hI4 hw4=>zAA ?_);refine Dc (zAB hI3 hI4) ?_;obtain ⟨c4,s4,r4⟩:=RL.toI zx hw4;refine BQ (X:=X) rfl hX s4.news (r4.one_cells λx c h=>ExV.one h) zL zL (λX5 w5 hX5=>?_);have e5:acc.length+[x].length=(acc++[x]).length:=by simp
    rw [e5] at hX5;obtain ⟨a5,k5,rfl⟩:=hX5.form;repeat' (first|refine zqa ?_|refine zqh (λ_=>?_)|refine zqr ?_|refine zqb ?_|refine zqi ?_ ?_|refine zqc ?_|refine zqg (λ_=>?_) (λ_=>?_)|refine zqe ?_|fail)
    have hR5:=Recs.append (Recs.imp (R':=ExV I4) (λ_ _ h=>ExV.mono (zAB hI3 hI4) h) hR) r4;have hg9:Iy n E l=((AC [101,110,100] r).bind λ_ r=>.ok (exK 26 (acc++[x])) r):=by rw [hm];simp only [NQ,he,if_true,hg,Res.bind]
    unfold Nz;refine Bd [101,110,100] (hv3.mono hI4) hT3 (λhb hT9 hl9 I9 v9 hI9 hv9=>?_) (λhb I9 v9 hI9=>zAG (L1++(b,PBo v9)::L2) (zAA (herr _ (by rw [hg9];simp [AC,hb,Res.bind,bad]) I9 v9 (zAB (zAB hI2 (zAB hI3 hI4)) hI9))));repeat' (first|refine zqa ?_|refine zqh (λ_=>?_)|refine zqr ?_|refine zqb ?_|refine zqi ?_ ?_|refine zqc ?_|refine zqg (λ_=>?_) (λ_=>?_)|refine zqe ?_|fail)
    refine zAG (X5++(L1++(b,PBo v9)::L2)) ?_;refine RL.ofO (R:=ExV) (λ{I I' x c} h hI=>ExV.mono hI h) hX5 (Recs.imp (λ_ _ h=>ExV.mono hI9 h) hR5) (λI10 hI10 hw10=>zAA ?_);exact hok (exK 26 (acc++[x])) _ (by rw [hg9];simp only [AC,hb,if_true,Res.bind]) hT9 zo I10 v9 _ (zAB (zAB hI2 (zAB hI3 hI4)) (zAB hI9 hI10)) (hv9.mono hI10) hw10
   ·try refine zqe ?_
    have hg9:Iy n E l=((AC [101,110,100] l2).bind λ_ r=>.ok (exK 26 acc) r):=by rw [hm];simp only [NQ,he,zl,if_false,Res.bind]
    unfold Nz;refine Bd [101,110,100] hTL hT2 (λhb hT9 hl9 I9 v9 hI9 hv9=>?_) (λhb I9 v9 hI9=>zAG (L1++(b,PBo v9)::L2) (zAA (herr _ (by rw [hg9];simp [AC,hb,Res.bind,bad]) I9 v9 (zAB hI2 hI9))));repeat' (first|refine zqa ?_|refine zqh (λ_=>?_)|refine zqr ?_|refine zqb ?_|refine zqi ?_ ?_|refine zqc ?_|refine zqg (λ_=>?_) (λ_=>?_)|refine zqe ?_|fail)
    refine zAG (X++(L1++(b,PBo v9)::L2)) ?_;refine RL.ofO (R:=ExV) (λ{I I' x c} h hI=>ExV.mono hI h) hX (Recs.imp (λ_ _ h=>ExV.mono hI9 h) hR) (λI10 hI10 hw10=>zAA ?_);exact hok (exK 26 (acc)) _ (by rw [hg9];simp only [AC,hb,if_true,Res.bind]) hT9 zo I10 v9 _ (zAB hI2 (zAB hI9 hI10)) (hv9.mono hI10) hw10
end
section
variable {ω:Om}{b:Nat}
theorem AIh {I:Imm}{L:LH}{K:Value→M}(hk:∀I' a,Ext I I'→ExL I' (.slice a 1 1) [exK 3 []]→Gh (K (.slice a 1 1)) I' L):
  AB 65 11 #[.int .i64 0,.int .i64 0,.bool false,.int .i64 0,.string ⟨#[]⟩,.string ⟨#[]⟩,.string ⟨#[]⟩,.int .i64 0,.int .i64 0,.bool false,.slice none 0 0] 1
   [(0,.agg #[.int .i64 3,.int .i64 0,.bool false,.int .i64 0,.string ⟨#[]⟩,.string ⟨#[]⟩,.string ⟨#[]⟩,.int .i64 0,.int .i64 0,.bool false,.slice none 0 0])] (gh K) I L:=
 Ci (x:=exK 3 []) (w:=.slice none 0 0) (zAD none 0) hk
theorem ACg (n:Nat)(hn0:n≤1000000000){E:Pr Ex}(hE:FnE ω n b 227 E)(s:Bs){I:Imm}{L:LH}{K Pn:Value→M}{C:Obj→LH}{v:Value}{l:List Tok}[hF:Foc b L (PBo v) C](h:TL I v l)(hT:Toks l)(hl:l.length≤n)
  (hyes:Em s=true→∀x r,Dx n E s l= .ok x r→Toks r→r.length≤l.length→∀I' v' w,Ext I I'→TL I' v' r→ExL I' w x.args→K (.tuple #[.agg (BX x w).toArray,.bool true]) I' (C (PBo v')))
  (herr:Em s=true→PEr (Dx n E s l) Pn C I) (hno:Em s=false→K (.tuple #[.agg exZ.toArray,.bool false]) I L):CalP Tryz.prog ω 298 #[Ac b,.string ⟨s.toArray⟩] K Pn I L:=by
 obtain ⟨L1,L2,rfl,rfl⟩:=hF.foc;refine AMX ?_;unfold sh298;refine Am (λb1=>?_);have agg:∀c:Bool,isAgg s=c→(s==[99,111,97,108,101,115,99,101])=false→(s==[108,101,110,103,116,104])=false→
   sh298_1 ω (Ac b) (.string ⟨s.toArray⟩) (Ac b1) (.bool false) (.bool c) (λv=>Gh (K v)) (λv=>Gh (Pn v)) I ((b1,Obj.cells exZ.toArray 65 (0,0))::(L1++(b,PBo v)::L2)):=by
  intro c hc h1 h2;have hs1:s≠[99,111,97,108,101,115,99,101]:=by simpa using h1
  have hs2:s≠[108,101,110,103,116,104]:=by simpa using h2
  unfold sh298_1;cases c with
  |false=>
   repeat' (first|(with_reducible first|refine Bl (b:=b) ?_|refine keepA ?_|refine Am (λ_=>?_))|(with_reducible refine Ai ?_;refine Bo _ zT zA (λhb hT' hl' v' hv'=>?_) (λhb=>?_))|(with_reducible refine Bd _ zT zA (λhb hT' hl' I' v' hI' hv'=>?_) (λhb I' v' hI'=>?_))|(with_reducible refine AU ?_;refine CQ zT zA (λhb hT' hl' v' hv'=>?_) (λhb=>?_))|(with_reducible refine AU ?_;refine Ae zT zA ?_)|(with_reducible first|refine Ci zC (λI' a hI' hw'=>zAA ?_)|refine CJ zC zC (λI' a hI' hw'=>zAA ?_)|refine DF zC zC zC (λI' a hI' hw'=>zAA ?_))|(with_reducible refine Ai ?_;refine BC zC ?_)|refine zqr ?_|refine zqb ?_|refine zqi ?_ ?_|refine zqc ?_|refine zqg (λhb=>?_) (λhb=>?_)|refine zqe ?_|fail)
   exact zAG (L1++(b,PBo v)::L2) (zAA (hno (by simp [Em,h1,h2,hc])))
  |true=>
   have hok:=hyes (by simp [Em,hc]);have herr:=herr (by simp [Em,hc]);repeat' (first|(with_reducible first|refine Bl (b:=b) ?_|refine keepA ?_|refine Am (λ_=>?_))|(with_reducible refine AU ?_;refine hE.go zT zA zo (λy r' hg hT2 hr2 I' v' a' k' hI' hv' hw'=>?_) (λe hg I' v' hI'=>?_))|(with_reducible refine AIh (λI' a hI' hw'=>zAA ?_))|(with_reducible refine Ai ?_;refine Bo _ zT zA (λhb hT' hl' v' hv'=>?_) (λhb=>?_))|(with_reducible refine Bd _ zT zA (λhb hT' hl' I' v' hI' hv'=>?_) (λhb I' v' hI'=>?_))|(with_reducible refine AU ?_;refine CQ zT zA (λhb hT' hl' v' hv'=>?_) (λhb=>?_))|(with_reducible refine AU ?_;refine Ae zT zA ?_)|(with_reducible first|refine Ci zC (λI' a hI' hw'=>zAA ?_)|refine CJ zC zC (λI' a hI' hw'=>zAA ?_)|refine DF zC zC zC (λI' a hI' hw'=>zAA ?_))|(with_reducible refine Ai ?_;refine BC zC ?_)|refine zqr ?_|refine zqb ?_|(with_reducible first|refine BJ (sh298_3.eq_1 ..) ?_|refine BJ (sh298_2.eq_1 ..) ?_|refine BJ (sh298_4.eq_1 ..) ?_|refine BJ (sh298_1.eq_1 ..) ?_|refine BJ (sh298.eq_1 ..) ?_|refine And.intro ?_ ?_)|refine zqc ?_|refine zqg (λhb=>?_) (λhb=>?_)|refine zqe ?_|fail)
   all_goals (have hsc:(s==[99,111,117,110,116])=true→s=[99,111,117,110,116]:=λh=>by simpa using h)
   all_goals first
    |exact zAG (L1++(b,PBo v')::L2) (zAA (herr _ (by simp [Dx,hs1,hs2,Res.bind,bad,AC, *] <;> rfl) _ _ zE))
    |exact zAG (L1++(b,PBo v')::L2) (zAA (hok (Jz s true [y]) _ (by simp [Dx,hs1,hs2,Jz,Res.bind,bad,AC, *] <;> rfl) zA zo _ _ _ zE zT zC))
    |exact zAG (L1++(b,PBo v')::L2) (zAA (hok (Jz s false [y]) _ (by simp [Dx,hs1,hs2,Jz,Res.bind,bad,AC, *] <;> rfl) zA zo _ _ _ zE zT zC))
    |exact zAG (L1++(b,PBo v')::L2) (zAA (hok (Jz s false [exK 3 []]) _ (by simp [Dx,hs1,hs2,Jz,Res.bind,bad,AC, *] <;> rfl) zA zo _ _ _ zE zT zC))
 repeat' (first|(with_reducible first|refine Bl (b:=b) ?_|refine keepA ?_|refine Am (λ_=>?_))|(with_reducible refine AU ?_;refine hE.go zT zA zo (λy r' hg hT2 hr2 I' v' a' k' hI' hv' hw'=>?_) (λe hg I' v' hI'=>?_))|(with_reducible refine AU ?_;refine AEY n zo hE zT zA zo (λy r' hg hT2 hr2 hyl I' v' a' k' hI' hv' hw'=>?_) (λe hg I' v' hI'=>?_))|(with_reducible refine Ai ?_;refine Bo _ zT zA (λhb hT' hl' v' hv'=>?_) (λhb=>?_))|(with_reducible refine Bd _ zT zA (λhb hT' hl' I' v' hI' hv'=>?_) (λhb I' v' hI'=>?_))|(with_reducible refine AU ?_;refine CQ zT zA (λhb hT' hl' v' hv'=>?_) (λhb=>?_))|(with_reducible refine AU ?_;refine Ae zT zA ?_)|(with_reducible first|refine Ci zC (λI' a hI' hw'=>zAA ?_)|refine CJ zC zC (λI' a hI' hw'=>zAA ?_)|refine DF zC zC zC (λI' a hI' hw'=>zAA ?_))|(with_reducible refine Ai ?_;refine BC zC ?_)|refine zqr ?_|refine zqb ?_|refine zqi ?_ ?_|refine zqc ?_|refine zqg (λhb=>?_) (λhb=>?_)|refine zqe ?_|fail)
 all_goals (have hsc:(s==[99,111,97,108,101,115,99,101])=true→s=[99,111,97,108,101,115,99,101]:=λh=>by simpa using h)
 all_goals (have hsl:(s==[108,101,110,103,116,104])=true→s=[108,101,110,103,116,104]:=λh=>by simpa using h)
 all_goals first
  |exact agg true (by simp [isAgg, *]) zA zA
  |exact agg _ (by simp [isAgg, *]) zA zA
  |(have hs:=hsc zA;have hyes:=hyes (by simp [Em, *]);have herr:=herr (by simp [Em, *]);first
    |exact zAG (L1++(b,PBo v')::L2) (zAA (herr _ (by simp [Dx,hs,Res.bind,bad,AC, *] <;> rfl) _ _ zE))
    |exact zAG (L1++(b,PBo v')::L2) (zAA (hyes _ _ (by simp [Dx,hs,Res.bind,bad,AC, *] <;> rfl) zA zo _ _ _ zE zT zC)))
  |(have hs:=hsl zA;have hyes:=hyes (by simp [Em, *]);have herr:=herr (by simp [Em, *]);first
    |exact zAG (L1++(b,PBo v')::L2) (zAA (herr _ (by simp [Dx,hs,Res.bind,bad,AC, *] <;> rfl) _ _ zE))
    |exact zAG (L1++(b,PBo v')::L2) (zAA (hyes _ _ (by simp [Dx,hs,Res.bind,bad,AC, *] <;> rfl) zA zo _ _ _ zE zT zC)))
end
section
variable {ω:Om}{b:Nat}
theorem AIY (n:Nat)(hn0:n≤1000000000){E:Pr Ex}(hE:FnE ω n b 227 E)(s:Bs){I:Imm}{L:LH}{K Pn:Value→M}{C:Obj→LH}{v:Value}{l:List Tok}[hF:Foc b L (PBo v) C](h:TL I v l)(hT:Toks l)(hl:l.length≤n)
  (hyes:Em s=true→∀x r,Dx n E s l= .ok x r→Toks r→r.length≤l.length→∀I' v' a k,Ext I I'→TL I' v' r→ExL I' (.slice a x.args.length k) x.args→K (.tuple #[.agg (BX x (.slice a x.args.length k)).toArray,.bool true]) I' (C (PBo v')))
  (herr:Em s=true→PEr (Dx n E s l) Pn C I) (hno:Em s=false→K (.tuple #[.agg exZ.toArray,.bool false]) I L):CalP Tryz.prog ω 298 #[Ac b,.string ⟨s.toArray⟩] K Pn I L:=
 ACg n hn0 hE s h hT hl (λhc x r hg hT' hr I' v' w hI hv' hw=>by
  obtain ⟨a,k,rfl⟩:=zAH hw;exact hyes hc x r hg hT' hr I' v' a k hI hv' hw) herr hno
theorem ACu (n:Nat)(hn0:n≤1000000000){E U:Pr Ex}(hE:FnE ω n b 227 E)(hU:FnE ω n b 294 U):FnE ω (n+1) b 294 (GM n E U):=by
 intro K Pn I L C v l hF h hT hl hok herr;obtain ⟨L1,L2,rfl,rfl⟩:=hF.foc;have hC:=AFl n hn0 hE;have hN:FnE ω (n+1) b 285 Ns:=Rk (n+1);obtain ⟨bt,off,h1,h2⟩:=h.hd hT;refine AMZ ?_;unfold sh294;repeat' (first|(with_reducible first|refine Bl (b:=b) ?_|refine keepA ?_|refine Am (λ_=>?_))|(with_reducible refine AU ?_;refine hE.go zT zA zo (λy r' hg hT2 hr2 I' v' a' k' hI' hv' hw'=>?_) (λe hg I' v' hI'=>?_))|(with_reducible refine AU ?_;refine hU.go zT zA zo (λy r' hg hT2 hr2 I' v' a' k' hI' hv' hw'=>?_) (λe hg I' v' hI'=>?_))|(with_reducible refine AU ?_;refine hC.go zT zA zo (λy r' hg hT2 hr2 I' v' a' k' hI' hv' hw'=>?_) (λe hg I' v' hI'=>?_))|(with_reducible refine AU ?_;refine hN.go zT zA zo (λy r' hg hT2 hr2 I' v' a' k' hI' hv' hw'=>?_) (λe hg I' v' hI'=>?_))|(with_reducible refine Ai ?_;refine LW zT zA (λx hx hT' hl' v' hv'=>?_) (λhx=>?_))|(with_reducible refine Ai ?_;refine Ia _ zT zA (λhb=>?_) (λhb=>?_))|(with_reducible refine AU ?_;refine AIY n hn0 hE _ zT zA zo (λhcl y r' hg hT2 hr2 I' v' a' k' hI' hv' hw'=>?_) (λhcl e hg I' v' hI'=>?_) (λhcl=>?_))|((with_reducible refine rd1 (v:=.int .i64 (hd l).kind) ?_ ?_);exact (h2 _ [] (zAC _) 0 _ rfl).mono (zAC _) (λ_ h=>by cases h))|(with_reducible refine Ai ?_;refine Bo _ zT zA (λhb hT' hl' v' hv'=>?_) (λhb=>?_))|(with_reducible refine Bd _ zT zA (λhb hT' hl' I' v' hI' hv'=>?_) (λhb I' v' hI'=>?_))|(with_reducible refine AU ?_;refine CQ zT zA (λhb hT' hl' v' hv'=>?_) (λhb=>?_))|(with_reducible refine AU ?_;refine Ae zT zA ?_)|(with_reducible first|refine Ci zC (λI' a hI' hw'=>zAA ?_)|refine CJ zC zC (λI' a hI' hw'=>zAA ?_)|refine DF zC zC zC (λI' a hI' hw'=>zAA ?_))|(with_reducible refine Ai ?_;refine BC zC ?_)|refine zqr ?_|refine zqb ?_|(with_reducible first|refine BJ (sh294_1.eq_1 ..) ?_|refine BJ (sh294.eq_1 ..) ?_|refine And.intro ?_ ?_)|refine zqc ?_|refine zqg (λhb=>?_) (λhb=>?_)|(simp only [SSd,Nat.reduceAdd,h1]))
 all_goals (try have hk3:isK l 3=false:=‹((hd l).kind==3)=false›)
 all_goals (try have hk3:isK l 3=true:=‹((hd l).kind==3)=true›)
 all_goals first
  |exact zAG (L1++(b,PBo v')::L2) (zAA (herr _ (by simp [GM,Aq,Res.bind,bad,AC, *] <;> rfl) _ _ zE))
  |exact zAG (L1++(b,PBo v')::L2) (zAA (hok _ _ (by simp [GM,Aq,Res.bind,bad,AC, *] <;> rfl) zA zo _ _ _ zE zT zC))
  |exact zAG (L1++(b,PBo v')::L2) (zAA (hok (Rz (hd l).text (hd l.tail.tail).text) _ (by simp [GM,Aq,Res.bind,bad,AC, *] <;> rfl) zA zo _ _ _ zE zT zC))
  |exact zAG (L1++(b,PBo v')::L2) (zAA (hok (Rz [] (hd l).text) _ (by simp [GM,Aq,Res.bind,bad,AC, *] <;> rfl) zA zo _ _ _ zE zT zC))
  |exact zAG (L1++(b,PBo v)::L2) (zAA (herr _ (by simp [GM,Aq,Res.bind,bad,AC, *] <;> rfl) _ _ zE))
theorem exprs (ω:Om)(b:Nat):∀n,n≤1000000000→FnE ω n b 227 (eP n)∧FnE ω n b 272 (nP n)∧FnE ω n b 294 (uP n)
 |0,_=>by
  have h0:∀f g,FnE ω 0 b f g:=λf g K Pn I L C v l hF h hT hl _ _=>by have:=hT.len;omega
  exact ⟨h0 _ _,h0 _ _,h0 _ _⟩
 |n+1,hn=>by
  obtain ⟨hE,hN,hU⟩:=exprs ω b n zo;have u:=ACu n zo hE hU;have s:=ALX n (AHF n u);have nn:=ALv n hN (AHs n hn hE s);exact ⟨AIN n (AOi n nn),nn,u⟩
end
abbrev VOk {α:Type}(R:Imm→α→List Value→Prop)(g:Res α)(n:Nat)(K:Value→M)(C:Obj→LH)(I:Imm):Prop:=
 ∀x r,g= .ok x r→Toks r→r.length≤n→∀I' v' c,Ext I I'→TL I' v' r→R I' x c→K (.agg c.toArray) I' (C (PBo v'))
def FnV {α:Type}(ω:Om)(n b f:Nat)(g:Pr α)(R:Imm→α→List Value→Prop):Prop:=
 ∀(K Pn:Value→M) (I:Imm) (L:LH) (C:Obj→LH) (v:Value) (l:List Tok),Foc b L (PBo v) C→TL I v l→Toks l→l.length≤n→VOk R (g l) l.length K C I→PEr (g l) Pn C I→CalP Tryz.prog ω f #[Ac b] K Pn I L
theorem FnV.go {α:Type}{ω:Om}{n b f:Nat}{g:Pr α}{R:Imm→α→List Value→Prop}(h:FnV ω n b f g R){I:Imm}{L:LH}{K Pn:Value→M}{C:Obj→LH}{v:Value}{l:List Tok}[hF:Foc b L (PBo v) C](hv:TL I v l)(hT:Toks l)(hl:l.length≤n)(hok:VOk R (g l) l.length K C I)(herr:PEr (g l) Pn C I):
  CalP Tryz.prog ω f #[Ac b] K Pn I L:=h K Pn I L C v l hF hv hT hl hok herr
theorem FnV.one {α:Type}{ω:Om}{n b f:Nat}{g:Pr α}{R:Imm→α→List Value→Prop}{I0:Imm}(h:FnV ω n b f g R)(he:CS Tryz.prog f=true):OneP ω n b g (Wp R) (.func (.func f) #[Ac b] #[]) I0:=by
 intro K Pn I L C v l hF hI hv hT hl hok herr;exact Lj he (h K Pn I L C v l hF hv hT hl (λx r hg hT' hr I' v' c hI' hv' hc=>hok x r hg hT' hr I' v' _ hI' hv' ⟨c,rfl,hc⟩) herr)
section
variable {ω:Om}{b:Nat}
theorem ALi (n:Nat)(hE:FnE ω n b 227 (eP n)):FnV ω n b 193 (Tj n) TSetV:=by
 intro K Pn I L C v l hF h hT hl hok herr;obtain ⟨L1,L2,rfl,rfl⟩:=hF.foc;refine ANl ?_;unfold AJx;repeat' (first|(with_reducible first|refine Bl (b:=b) ?_|refine keepA ?_|refine Am (λ_=>?_))|(with_reducible refine AU ?_;refine hE.go zT zA zo (λy r' hg hT2 hr2 I' v' a' k' hI' hv' hw'=>?_) (λe hg I' v' hI'=>?_))|(with_reducible refine Ai ?_;refine Bo _ zT zA (λhb hT' hl' v' hv'=>?_) (λhb=>?_))|(with_reducible refine Bd _ zT zA (λhb hT' hl' I' v' hI' hv'=>?_) (λhb I' v' hI'=>?_))|(with_reducible refine AU ?_;refine CQ zT zA (λhb hT' hl' v' hv'=>?_) (λhb=>?_))|(with_reducible refine AU ?_;refine Ae zT zA ?_)|(with_reducible first|refine Ci zC (λI' a hI' hw'=>zAA ?_)|refine CJ zC zC (λI' a hI' hw'=>zAA ?_)|refine DF zC zC zC (λI' a hI' hw'=>zAA ?_))|(with_reducible refine Ai ?_;refine BC zC ?_)|refine zqr ?_|refine zqb ?_|refine zqi ?_ ?_|refine zqc ?_|refine zqg (λhb=>?_) (λhb=>?_)|refine zqe ?_|fail)
 all_goals first
  |exact zAG (L1++(b,PBo v')::L2) (zAA (herr _ (by simp [Tj,Aq,Res.bind,bad,AC, *] <;> rfl) _ _ zE))
  |exact zAG (L1++(b,PBo v)::L2) (zAA (herr _ (by simp [Tj,Aq,Res.bind,bad,AC, *] <;> rfl) _ _ zE))
  |exact zAG (L1++(b,PBo v')::L2) (zAA (hok ⟨(hd l).text,y⟩ _ (by simp [Tj,Aq,AC,Res.bind, *] <;> rfl) zA zo _ _ _ zE zT ⟨_,rfl,zC⟩))
theorem KY (n:Nat)(hE:FnE ω n b 227 (eP n))(s:Bs){I:Imm}{L:LH}{K Pn:Value→M}{C:Obj→LH}{v:Value}{l:List Tok}[hF:Foc b L (PBo v) C](h:TL I v l)(hT:Toks l)(hl:l.length≤n)
  (hok:∀x r,EK n s l= .ok x r→Toks r→r.length≤l.length→∀I' v' a k,Ext I I'→TL I' v' r→ExL I' (.slice a x.args.length k) x.args→K (.agg (BX x (.slice a x.args.length k)).toArray) I' (C (PBo v'))) (herr:PEr (EK n s l) Pn C I):
  CalP Tryz.prog ω 194 #[Ac b,.string ⟨s.toArray⟩] K Pn I L:=by
 obtain ⟨L1,L2,rfl,rfl⟩:=hF.foc;refine ANk ?_;unfold AJw;repeat' (first|(with_reducible first|refine Bl (b:=b) ?_|refine keepA ?_|refine Am (λ_=>?_))|(with_reducible refine AU ?_;refine hE.go zT zA zo (λy r' hg hT2 hr2 I' v' a' k' hI' hv' hw'=>?_) (λe hg I' v' hI'=>?_))|(with_reducible refine Ai ?_;refine Bo _ zT zA (λhb hT' hl' v' hv'=>?_) (λhb=>?_))|(with_reducible refine Bd _ zT zA (λhb hT' hl' I' v' hI' hv'=>?_) (λhb I' v' hI'=>?_))|(with_reducible refine AU ?_;refine CQ zT zA (λhb hT' hl' v' hv'=>?_) (λhb=>?_))|(with_reducible refine AU ?_;refine Ae zT zA ?_)|(with_reducible first|refine Ci zC (λI' a hI' hw'=>zAA ?_)|refine CJ zC zC (λI' a hI' hw'=>zAA ?_)|refine DF zC zC zC (λI' a hI' hw'=>zAA ?_))|(with_reducible refine Ai ?_;refine BC zC ?_)|refine zqr ?_|refine zqb ?_|refine zqi ?_ ?_|refine zqc ?_|refine zqg (λhb=>?_) (λhb=>?_)|refine zqe ?_|fail)
 all_goals first
  |exact zAG (L1++(b,PBo v')::L2) (zAA (herr _ (by simp [EK,Res.bind,bad,AC, *] <;> rfl) _ _ zE))
  |exact zAG (L1++(b,PBo v)::L2) (zAA (hok ex0 l (by simp [EK, *]) hT (zt _) I v none 0 (zAC _) h (zAD none 0)))
  |exact zAG (L1++(b,PBo v')::L2) (zAA (hok y _ (by simp [EK, *] <;> rfl) zA zo _ _ _ _ zE zT zC))
theorem QU {I:Imm}{L:LH}{K Pn:Value→M}{C:Obj→LH}{v:Value}{l:List Tok}[hF:Foc b L (PBo v) C](h:TL I v l)(hT:Toks l)
  (hok:∀x r,FN l= .ok x r→Toks r→r.length+1=l.length→∀v',TL I v' r→K (.int .i64 x) I (C (PBo v'))) (herr:∀e,FN l= .err e→Pn (FD e) I L):
  CalP Tryz.prog ω 230 #[Ac b] K Pn I L:=by
 obtain ⟨L1,L2,rfl,rfl⟩:=hF.foc;obtain ⟨bt,off,h1,h2⟩:=h.hd hT;refine ANM ?_;unfold sh230;repeat' (first|(with_reducible first|refine Bl (b:=b) ?_|refine keepA ?_|refine Am (λ_=>?_))|((with_reducible refine rd1 (v:=.int .i64 (hd l).kind) ?_ ?_);exact (h2 _ [] (zAC _) 0 _ rfl).mono (zAC _) (λ_ h=>by cases h))|((with_reducible refine rd1 (v:=.int .i64 (hd l).num) ?_ ?_);exact (h2 _ [] (zAC _) 3 _ rfl).mono (zAC _) (λ_ h=>by cases h))|(with_reducible refine AU ?_;refine UE 3 zx zT zA (λhk v' hv'=>?_) (λhk=>?_))|(with_reducible refine Ai ?_;refine Bo _ zT zA (λhb hT' hl' v' hv'=>?_) (λhb=>?_))|(with_reducible refine Bd _ zT zA (λhb hT' hl' I' v' hI' hv'=>?_) (λhb I' v' hI'=>?_))|(with_reducible refine AU ?_;refine CQ zT zA (λhb hT' hl' v' hv'=>?_) (λhb=>?_))|(with_reducible refine AU ?_;refine Ae zT zA ?_)|(with_reducible first|refine Ci zC (λI' a hI' hw'=>zAA ?_)|refine CJ zC zC (λI' a hI' hw'=>zAA ?_)|refine DF zC zC zC (λI' a hI' hw'=>zAA ?_))|(with_reducible refine Ai ?_;refine BC zC ?_)|refine zqr ?_|refine zqb ?_|(with_reducible first|refine BJ (sh230_2.eq_1 ..) ?_|refine BJ (sh230_1.eq_1 ..) ?_|refine BJ (sh230.eq_1 ..) ?_|refine And.intro ?_ ?_)|refine zqc ?_|refine zqg (λhb=>?_) (λhb=>?_)|(simp only [SSd,Nat.reduceAdd,h1]))
 all_goals (try have hd1:=of_decide_eq_true hb)
 all_goals (try have hd2:=of_decide_eq_false hb)
 all_goals first
  |(exfalso;simp_all [isK];done)
  |exact zAA (hok _ _ (by unfold FN;rw [if_pos (by simp [hk];omega)]) (hT.tailK hk) hT.len v' hv')
  |exact zAA (herr _ (by simp_all [FN,isK,bad] <;> rfl))
  |exact zAA (herr _ (by unfold FN;rw [if_neg (by simp;intros;omega)];rfl))
theorem AEk (n:Nat)(hE:FnE ω n b 227 (eP n)):FnV ω n b 229 (Hf n) TOrderV:=by
 intro K Pn I L C v l hF h hT hl hok herr;obtain ⟨L1,L2,rfl,rfl⟩:=hF.foc;refine ANN ?_;unfold sh229;repeat' (first|(with_reducible first|refine Bl (b:=b) ?_|refine keepA ?_|refine Am (λ_=>?_))|(with_reducible refine AU ?_;refine hE.go zT zA zo (λy r' hg hT2 hr2 I' v' a' k' hI' hv' hw'=>?_) (λe hg I' v' hI'=>?_))|(with_reducible refine Ai ?_;refine Bo _ zT zA (λhb hT' hl' v' hv'=>?_) (λhb=>?_))|(with_reducible refine Bd _ zT zA (λhb hT' hl' I' v' hI' hv'=>?_) (λhb I' v' hI'=>?_))|(with_reducible refine AU ?_;refine CQ zT zA (λhb hT' hl' v' hv'=>?_) (λhb=>?_))|(with_reducible refine AU ?_;refine Ae zT zA ?_)|(with_reducible first|refine Ci zC (λI' a hI' hw'=>zAA ?_)|refine CJ zC zC (λI' a hI' hw'=>zAA ?_)|refine DF zC zC zC (λI' a hI' hw'=>zAA ?_))|(with_reducible refine Ai ?_;refine BC zC ?_)|refine zqr ?_|refine zqb ?_|(with_reducible first|refine BJ (sh229_1.eq_1 ..) ?_|refine BJ (sh229.eq_1 ..) ?_|refine And.intro ?_ ?_)|refine zqc ?_|refine zqg (λhb=>?_) (λhb=>?_)|refine zqe ?_|fail)
 all_goals first
  |exact zAG (L1++(b,PBo v')::L2) (zAA (herr _ (by simp [Hf,Res.bind,bad,AC, *] <;> rfl) _ _ zE))
  |exact zAG (L1++(b,PBo v')::L2) (zAA (hok ⟨y,true⟩ _ (by simp [Hf,Res.bind, *] <;> rfl) zA zo _ _ _ zE zT ⟨_,rfl,zC⟩))
  |exact zAG (L1++(b,PBo v')::L2) (zAA (hok ⟨y,false⟩ _ (by simp [Hf,Res.bind, *] <;> rfl) zA zo _ _ _ zE zT ⟨_,rfl,zC⟩))
theorem Qz (n:Nat):FnV ω n b 257 DC TSourceV:=by
 intro K Pn I L C v l hF h hT hl hok herr;obtain ⟨L1,L2,rfl,rfl⟩:=hF.foc;refine AMt ?_;unfold sh257;refine Am (λb1=>?_);refine AU (CQ h hT (λhn hT1 hl1 v1 hv1=>?_) (λhn=>zAG (L1++(b,PBo v)::L2) (zAA (herr (hd l).at' (by simp [DC,Aq,Res.bind,bad,hn]) I v (zAC _)))));obtain ⟨bt,off,h1,h2⟩:=hv1.hd hT1;repeat' (first|(with_reducible first|refine Bl (b:=b) ?_|refine keepA ?_|refine Am (λ_=>?_))|((with_reducible refine rd1 (v:=.int .i64 (hd l.tail).kind) ?_ ?_);exact (h2 _ [] (zAC _) 0 _ rfl).mono (zAC _) (λ_ h=>by cases h))|(with_reducible refine Ai ?_;refine Bo _ zT zA (λhb hT' hl' v' hv'=>?_) (λhb=>?_))|(with_reducible refine Bd _ zT zA (λhb hT' hl' I' v' hI' hv'=>?_) (λhb I' v' hI'=>?_))|(with_reducible refine AU ?_;refine CQ zT zA (λhb hT' hl' v' hv'=>?_) (λhb=>?_))|(with_reducible refine AU ?_;refine Ae zT zA ?_)|(with_reducible first|refine Ci zC (λI' a hI' hw'=>zAA ?_)|refine CJ zC zC (λI' a hI' hw'=>zAA ?_)|refine DF zC zC zC (λI' a hI' hw'=>zAA ?_))|(with_reducible refine Ai ?_;refine BC zC ?_)|refine zqr ?_|refine zqb ?_|(with_reducible first|refine BJ (sh257_2.eq_1 ..) ?_|refine BJ (sh257_1.eq_1 ..) ?_|refine BJ (sh257.eq_1 ..) ?_|refine And.intro ?_ ?_)|refine zqc ?_|refine zqg (λhb=>?_) (λhb=>?_)|(simp only [SSd,Nat.reduceAdd,h1]))
 all_goals (try have hk1:isK l.tail 1=true:=‹((hd l.tail).kind==1)=true›)
 all_goals (try have hk1:isK l.tail 1=false:=‹((hd l.tail).kind==1)=false›)
 all_goals (try (exfalso;simp_all;done))
 all_goals first
  |exact zAG (L1++(b,PBo v')::L2) (zAA (herr _ (by simp [DC,Aq,Res.bind,bad,AC, *] <;> rfl) _ _ zE))
  |exact zAG (L1++(b,PBo v1)::L2) (zAA (herr _ (by simp [DC,Aq,Res.bind,bad,AC, *] <;> rfl) _ _ zE))
  |exact zAG (L1++(b,PBo v')::L2) (zAA (hok ⟨_,_,false,ex0⟩ _ (by simp [DC,Aq,Res.bind, *] <;> rfl) zA zo _ _ _ zE zT ⟨.slice none 0 0,rfl,zAD none 0⟩))
  |exact zAG (L1++(b,PBo v1)::L2) (zAA (hok ⟨(hd l).text,[],false,ex0⟩ _ (by simp [DC,Aq,Res.bind, *] <;> rfl) zA zo _ _ _ zE zT ⟨.slice none 0 0,rfl,zAD none 0⟩))
end
section
variable {ω:Om}{I:Imm}{L:LH}{K Pn:Value→M}{C:Obj→LH}{b:Nat}{v:Value}{l:List Tok}
theorem TL.at (h:TL I v l){j:Nat}(hj:j < l.length){t:Tok}(ht:l[j]? =some t):∃bt off,ixV 4 v (.int .i64 (j:Int))=some (.pointer (some ⟨bt,off,none⟩))∧∀I' L',Ext I I'→Cells I' L' bt off [.int .i64 t.kind,.int .i64 t.at',.string ⟨t.text.toArray⟩,.int .i64 t.num]:=by
 obtain ⟨bt,off,c,h1,_,h2,h3⟩:=RL.ix h (i:=(j:Int)) zo zo;have:QG l (j:Int)=t:=by rw [BH hj];exact Option.some.inj ((zao hj).symm.trans ht)
 rw [this] at h2;rw [show c=_ from h2] at h3;exact ⟨bt,off,h1,λI' L' hI=>h3 I' L' hI (λ_ h=>by cases h)⟩
def GN (l:List Tok):Bool:=isK l 1&&isK l.tail 5&&(hd l.tail).text==[46]&&isK l.tail.tail 5&&(hd l.tail.tail).text==[42]
theorem ABz {n:Nat}(h0:isT l [42]=false)(hs:GN l=true):Gy n l= .ok ⟨true,(hd l).text,ex0,[]⟩ l.tail.tail.tail:=by
 simp only [Gy,h0,zl,if_false];exact if_pos hs
theorem IB {n:Nat}(h0:isT l [42]=false)(hs:GN l=false):Gy n l=(eP n l).bind λx r=>if isT r [97,115] then (Aq r.tail).bind λa r=>.ok ⟨false,[],x,a⟩ r else .ok ⟨false,[],x,[]⟩ r:=by
 simp only [Gy,h0,zl,if_false];unfold GN at hs;exact if_neg (by rw [hs];decide)
theorem ABP (hT:Toks l)(h:GN l=true):3 < l.length:=by
 simp only [GN,zF] at h;obtain ⟨⟨⟨⟨h1,h2⟩,_⟩,h3⟩,_⟩:=h;have hT1:=hT.tailK h1;have hT2:=hT1.tailK h2;have hT3:=hT2.tailK h3;have:=hT.len;have:=hT1.len;have:=hT2.len;have:=hT3.len;omega
theorem AIE (n:Nat)(hE:FnE ω n b 227 (eP n)):FnV ω n b 224 (Gy n) TItemV:=by
 intro K Pn I L C v l hF h hT hl hok herr;obtain ⟨L1,L2,rfl,rfl⟩:=hF.foc;refine ANT ?_;unfold sh224;refine Am (λb1=>?_);refine Ai (Bo [42] h hT (λhb hT' hl' v' hv'=>?_) (λhb0=>?_))
 ·repeat' (first|refine zqa ?_|refine zqh (λ_=>?_)|refine zqr ?_|refine zqb ?_|refine zqi ?_ ?_|refine zqc ?_|refine zqg (λ_=>?_) (λ_=>?_)|refine zqe ?_|fail)
  exact zAG (L1++(b,PBo v')::L2) (zAA (hok ⟨true,[],ex0,[]⟩ _ (by simp [Gy,hb]) hT' zo _ _ _ (zAC _) hv' ⟨.slice none 0 0,rfl,zAD none 0⟩))
 cases hlen:decide ((3:Int) < (l.length:Nat)) with
 |true=>
  have hlen:=of_decide_eq_true hlen;obtain ⟨t1,t2,t3,t4,r,rfl⟩:∃t1 t2 t3 t4 r,l=t1::t2::t3::t4::r:=by
   match l,hlen with
   |t1::t2::t3::t4::r,_=>exact ⟨t1,t2,t3,t4,r,rfl⟩
  obtain ⟨p1,o1,i1,c1⟩:=h.at (j:=0) zy (t:=t1) rfl;obtain ⟨p2,o2,i2,c2⟩:=h.at (j:=1) zy (t:=t2) rfl;obtain ⟨p3,o3,i3,c3⟩:=h.at (j:=2) zy (t:=t3) rfl;have i1:ixV 4 v (.int .i64 0)=_:=i1;have i2:ixV 4 v (.int .i64 1)=_:=i2;have i3:ixV 4 v (.int .i64 2)=_:=i3;have hl3:decide (((t1::t2::t3::t4::r).length:Nat) > (3:Int))=true:=decide_eq_true hlen;simp only [zAQ h,hl3,SSd,Nat.reduceAdd];repeat' (first|(with_reducible first|refine Bl (b:=b) ?_|refine keepA ?_|refine Am (λ_=>?_))|((with_reducible refine rd1 (v:=.int .i64 t1.kind) ?_ ?_);exact (c1 _ [] (zAC _) 0 _ rfl).mono (zAC _) (λ_ h=>by cases h))|((with_reducible refine rd1 (v:=.int .i64 t2.kind) ?_ ?_);exact (c2 _ [] (zAC _) 0 _ rfl).mono (zAC _) (λ_ h=>by cases h))|((with_reducible refine rd1 (v:=.string ⟨t2.text.toArray⟩) ?_ ?_);exact (c2 _ [] (zAC _) 2 _ rfl).mono (zAC _) (λ_ h=>by cases h))|((with_reducible refine rd1 (v:=.int .i64 t3.kind) ?_ ?_);exact (c3 _ [] (zAC _) 0 _ rfl).mono (zAC _) (λ_ h=>by cases h))|((with_reducible refine rd1 (v:=.string ⟨t3.text.toArray⟩) ?_ ?_);exact (c3 _ [] (zAC _) 2 _ rfl).mono (zAC _) (λ_ h=>by cases h))|(with_reducible refine AU ?_;refine hE.go zT zA zo (λy r' hg hT2 hr2 I' v' a' k' hI' hv' hw'=>?_) (λe hg I' v' hI'=>?_))|(with_reducible refine Ai ?_;refine Bo _ zT zA (λhb hT' hl' v' hv'=>?_) (λhb=>?_))|(with_reducible refine Bd _ zT zA (λhb hT' hl' I' v' hI' hv'=>?_) (λhb I' v' hI'=>?_))|(with_reducible refine AU ?_;refine CQ zT zA (λhb hT' hl' v' hv'=>?_) (λhb=>?_))|(with_reducible refine AU ?_;refine Ae zT zA ?_)|(with_reducible first|refine Ci zC (λI' a hI' hw'=>zAA ?_)|refine CJ zC zC (λI' a hI' hw'=>zAA ?_)|refine DF zC zC zC (λI' a hI' hw'=>zAA ?_))|(with_reducible refine Ai ?_;refine BC zC ?_)|refine zqr ?_|refine zqb ?_|(with_reducible first|refine BJ (sh224_1.eq_1 ..) ?_|refine BJ (sh224_3.eq_1 ..) ?_|refine BJ (sh224_2.eq_1 ..) ?_|refine BJ (sh224.eq_1 ..) ?_|refine And.intro ?_ ?_)|refine zqc ?_|refine zqg (λhb=>?_) (λhb=>?_)|(simp only [SSd,Nat.reduceAdd,zAQ h,hl3,i1,i2,i3]))
  all_goals (try (exfalso;simp_all [isK,hd];done))
  iterate 1
   have hs:GN (t1::t2::t3::t4::r)=true:=by simp_all [GN,isK,hd]
   have hn:=ABz (n:=n) hb0 hs;refine Di [[46],[42]] rfl rfl (λI' a hI hw=>zAA ?_);have e1:isT (t2::t3::t4::r) [46]=true:=by simp_all [isT,hd]
   have e2:isT (t3::t4::r) [42]=true:=by simp_all [isT,hd]
   refine AU (Qs [[46],[42]] hw zy (hv'.mono hI) hT' (λr1 hg hT1 hr v1 hv1=>?_) (λe hg v'=>?_))
   ·simp only [FI,AC,List.tail_cons,e1,e2,if_true,Res.bind,Res.ok.injEq,true_and] at hg;subst hg;repeat' (first|refine zqa ?_|refine zqh (λ_=>?_)|refine zqr ?_|refine zqb ?_|refine zqi ?_ ?_|refine zqc ?_|refine zqg (λ_=>?_) (λ_=>?_)|refine zqe ?_|fail)
    exact zAG (L1++(b,PBo v1)::L2) (zAA (hok ⟨true,t1.text,ex0,[]⟩ _ hn hT1 (by first|(simp;done)|(simp;omega)) _ _ _ hI hv1 ⟨.slice none 0 0,rfl,zAD none 0⟩))
   ·simp [FI,AC,e1,e2,Res.bind] at hg
  all_goals first
   |(have hs:GN (t1::t2::t3::t4::r)=false:=(by simp_all [GN,isK,hd]);have hn:=IB (n:=n) hb0 hs;exact zAG (L1++(b,PBo v')::L2) (zAA (herr _ (by rw [hn];simp [Aq,Res.bind,bad, *] <;> rfl) _ _ zE)))
   |(have hs:GN (t1::t2::t3::t4::r)=false:=(by simp_all [GN,isK,hd]);have hn:=IB (n:=n) hb0 hs;exact zAG (L1++(b,PBo v')::L2) (zAA (hok ⟨false,[],y,[]⟩ _ (by rw [hn];simp [Aq,Res.bind,bad, *] <;> rfl) zA zo _ _ _ zE zT ⟨_,rfl,zC⟩)))
   |(have hs:GN (t1::t2::t3::t4::r)=false:=(by simp_all [GN,isK,hd]);have hn:=IB (n:=n) hb0 hs;exact zAG (L1++(b,PBo v')::L2) (zAA (hok ⟨false,[],y,(hd r'.tail).text⟩ _ (by rw [hn];simp [Aq,Res.bind,bad, *] <;> rfl) zA zo _ _ _ zE zT ⟨_,rfl,zC⟩)))
 |false=>
  have hlen':¬((3:Int) < (l.length:Nat)):=of_decide_eq_false hlen;have hl3:decide ((l.length:Nat) > (3:Int))=false:=hlen;have hs:GN l=false:=by
   cases hs:GN l with
   |false=>rfl
   |true=>have:=ABP hT hs;omega
  repeat' (first|(with_reducible first|refine Bl (b:=b) ?_|refine keepA ?_|refine Am (λ_=>?_))|(with_reducible refine AU ?_;refine hE.go zT zA zo (λy r' hg hT2 hr2 I' v' a' k' hI' hv' hw'=>?_) (λe hg I' v' hI'=>?_))|(with_reducible refine Ai ?_;refine Bo _ zT zA (λhb hT' hl' v' hv'=>?_) (λhb=>?_))|(with_reducible refine Bd _ zT zA (λhb hT' hl' I' v' hI' hv'=>?_) (λhb I' v' hI'=>?_))|(with_reducible refine AU ?_;refine CQ zT zA (λhb hT' hl' v' hv'=>?_) (λhb=>?_))|(with_reducible refine AU ?_;refine Ae zT zA ?_)|(with_reducible first|refine Ci zC (λI' a hI' hw'=>zAA ?_)|refine CJ zC zC (λI' a hI' hw'=>zAA ?_)|refine DF zC zC zC (λI' a hI' hw'=>zAA ?_))|(with_reducible refine Ai ?_;refine BC zC ?_)|refine zqr ?_|refine zqb ?_|(with_reducible first|refine BJ (sh224_1.eq_1 ..) ?_|refine BJ (sh224_3.eq_1 ..) ?_|refine BJ (sh224_2.eq_1 ..) ?_|refine BJ (sh224.eq_1 ..) ?_|refine And.intro ?_ ?_)|refine zqc ?_|refine zqg (λhb=>?_) (λhb=>?_)|(simp only [SSd,Nat.reduceAdd,zAQ h,hl3]))
  all_goals first
   |(have hn:=IB (n:=n) hb0 hs;exact zAG (L1++(b,PBo v')::L2) (zAA (herr _ (by rw [hn];simp [Aq,Res.bind,bad, *] <;> rfl) _ _ zE)))
   |(have hn:=IB (n:=n) hb0 hs;exact zAG (L1++(b,PBo v')::L2) (zAA (hok ⟨false,[],y,[]⟩ _ (by rw [hn];simp [Aq,Res.bind,bad, *] <;> rfl) zA zo _ _ _ zE zT ⟨_,rfl,zC⟩)))
   |(have hn:=IB (n:=n) hb0 hs;exact zAG (L1++(b,PBo v')::L2) (zAA (hok ⟨false,[],y,(hd r'.tail).text⟩ _ (by rw [hn];simp [Aq,Res.bind,bad, *] <;> rfl) zA zo _ _ _ zE zT ⟨_,rfl,zC⟩)))
end
abbrev LOk {α:Type}(R:Imm→α→List Value→Prop)(m:Nat)(g:Res (List α))(n:Nat)(K:Value→M)(C:Obj→LH)(I:Imm):Prop:=
 ∀x r,g= .ok x r→Toks r→r.length≤n→∀I' v' a k,Ext I I'→TL I' v' r→RL R m I' [] (.slice a x.length k) x→x.length≤n+1→K (.slice a x.length k) I' (C (PBo v'))
def FnL {α:Type}(ω:Om)(n b f:Nat)(g:Pr (List α))(R:Imm→α→List Value→Prop)(m:Nat):Prop:=
 ∀(K Pn:Value→M) (I:Imm) (L:LH) (C:Obj→LH) (v:Value) (l:List Tok),Foc b L (PBo v) C→TL I v l→Toks l→l.length≤n→LOk R m (g l) l.length K C I→PEr (g l) Pn C I→CalP Tryz.prog ω f #[Ac b] K Pn I L
theorem FnL.go {α:Type}{ω:Om}{n b f m:Nat}{g:Pr (List α)}{R:Imm→α→List Value→Prop}(h:FnL ω n b f g R m){I:Imm}{L:LH}{K Pn:Value→M}{C:Obj→LH}{v:Value}{l:List Tok}[hF:Foc b L (PBo v) C](hv:TL I v l)(hT:Toks l)(hl:l.length≤n)(hok:LOk R m (g l) l.length K C I)(herr:PEr (g l) Pn C I):
  CalP Tryz.prog ω f #[Ac b] K Pn I L:=h K Pn I L C v l hF hv hT hl hok herr
section
variable {ω:Om}{b:Nat}
theorem AMR {I:Imm}{L:LH}{K:Value→M}{w:Value}{xs:List TSource}(hw:RL TSourceV 14 I [] w xs)(hk:∀a k,RL TSourceV 14 I [] (.slice a xs.length k) xs→K (.slice a xs.length k) I L):CT ω 258 #[w] K I L:=by
 refine AMs ?_;unfold AJO;obtain ⟨w',h1,h2⟩:=FX hw;simp only [zAQ hw,h1,SSd,Nat.reduceAdd];obtain ⟨a,k,rfl⟩:=zAH h2;exact zAA (hk a k h2)
def JL (n:Nat)(l:List Tok):Option (Res TSource):=
 if isT l [44] then some (DC l.tail) else
 if isT l [99,114,111,115,115] then some ((AC [106,111,105,110] l.tail).bind λ_ r=>DC r) else
 if isT l [108,101,102,116] then some (GY n true l.tail) else
 if isT l [105,110,110,101,114] then some (GY n false l.tail) else
 if isT l [106,111,105,110] then some (GY n false l) else none
theorem FO {α β γ:Type}(x:Res α)(f:α→Pr β)(g:β→Pr γ):(x.bind f).bind g=x.bind λa r=>(f a r).bind g:=by cases x <;> rfl
theorem Ve (n f:Nat)(acc:List TSource)(l:List Tok):DU n (f+1) acc l=match JL n l with
  |some g=>g.bind λs r=>DU n f (acc++[s]) r
  |none=>.ok acc l:=by
 simp only [DU,JL];split
 ·rfl
 split
 ·simp only [FO]
 split
 ·rfl
 split
 ·rfl
 split
 ·rfl
 ·rfl
theorem Qy (n:Nat){I:Imm}{L:LH}{K Pn:Value→M}{C:Obj→LH}{v:Value}{l:List Tok}[hF:Foc b L (PBo v) C](h:TL I v l)(hT:Toks l)(hl:l.length≤n)
  (hok:∀x r,DC l= .ok x r→Toks r→r.length≤l.length→∀I' v' a k,Ext I I'→TL I' v' r→ExL I' (.slice a x.fOn.args.length k) x.fOn.args→K (.agg #[.string ⟨x.fTable.toArray⟩,.string ⟨x.fAs.toArray⟩,.bool x.fLeft,.int .i64 x.fOn.kind,.int .i64 x.fOn.value.fType,.bool x.fOn.value.fNull,.int .i64 x.fOn.value.fInt,.string ⟨x.fOn.value.fText.toArray⟩,.string ⟨x.fOn.table.toArray⟩,.string ⟨x.fOn.name.toArray⟩,.int .i64 x.fOn.slot,.int .i64 x.fOn.type,.bool x.fOn.distinct,.slice a x.fOn.args.length k]) I' (C (PBo v')))
  (herr:PEr (DC l) Pn C I):CalP Tryz.prog ω 257 #[Ac b] K Pn I L:=by
 refine (Qz n).go h hT hl (λx r hg hT' hr I' v' c hI' hv' hc=>?_) herr;obtain ⟨v0,rfl,h0⟩:=hc;obtain ⟨a,k,rfl⟩:=zAH h0;exact hok x r hg hT' hr I' v' a k hI' hv' h0
theorem ACJ (n : Nat) (hE : FnE ω n b 227 (eP n)) (bb : Bool) {I : Imm} {L1 L2 X : LH} {Kn1 : (Value × Value × Unit) → M} {K Pn : Value → M} {v w : Value} {l : List Tok} {cells : List Value} {xs : List TSource} (h : TL I v l) (hT : Toks l) (hl : l.length ≤ n)
    (hX : SlO 164 14 X w cells xs.length) (hR : Recs (TSourceV I) 14 xs cells) (hxs : xs.length ≤ 1000000001)
    (hnext : ∀ x r, GY n bb l = .ok x r → Toks r → r.length + 1 ≤ l.length → ∀ I' v' X' w' cells', Ext I I' → TL I' v' r → SlO 164 14 X' w' cells' (xs ++ [x]).length → Recs (TSourceV I') 14 (xs ++ [x]) cells' → Gh (Kn1 (.slice none 0 0, w', ())) I' (X' ++ (L1 ++ (b, PBo v') :: L2)))
    (herr : PEr (GY n bb l) Pn (λo => L1 ++ (b, o) :: L2) I) :
    Ky ω (Ac b) (.slice none 0 0) w (.bool bb) (λs => Gh (Kn1 s)) (λv => Gh (K v)) (λv => Gh (Pn v)) I (X ++ (L1 ++ (b, PBo v) :: L2)) := by
  unfold Ky
  repeat' (first | (with_reducible first | refine Bl (b := b) ?_ | refine keepA ?_ | refine Am (λ_ => ?_)) | (with_reducible refine AU ?_;refine Qy n zT zA zo (λx r hg hT2 hr2 I' v' a' k' hI' hv' hw' => ?_) (λe hg I' v' hI' => ?_)) | (with_reducible refine AU ?_;refine hE.go zT zA zo (λy r' hg' hT2 hr3 I' v' a' k' hI' hv' hw' => ?_) (λe hg' I' v' hI' => ?_)) | (with_reducible refine Ai ?_;refine Bo _ zT zA (λhb hT' hl' v' hv' => ?_) (λhb => ?_)) | (with_reducible refine Bd _ zT zA (λhb hT' hl' I' v' hI' hv' => ?_) (λhb I' v' hI' => ?_)) | (with_reducible refine AU ?_;refine CQ zT zA (λhb hT' hl' v' hv' => ?_) (λhb => ?_)) | (with_reducible refine AU ?_;refine Ae zT zA ?_) | (with_reducible first | refine Ci zC (λI' a hI' hw' => zAA ?_) | refine CJ zC zC (λI' a hI' hw' => zAA ?_) | refine DF zC zC zC (λI' a hI' hw' => zAA ?_)) | (with_reducible refine Ai ?_;refine BC zC ?_) | (with_reducible refine rdb ?_) | ((with_reducible first | refine st1 ?_ ?_ | refine rdB ?_ ?_); rfl) | (with_reducible refine BM ?_) | ((with_reducible refine Pe ?_ ?_); rfl) | ((with_reducible refine stB ?_ ?_ ?_ ?_); rfl; rfl; exact Ak rfl) | ((with_reducible first | refine rdP _ rfl ?_ ?_ | refine AHn _ rfl ?_ ?_); rfl) | ((with_reducible refine stP _ rfl ?_ ?_ ?_ ?_); rfl; rfl; rfl) | refine zqi ?_ ?_ | (simp only [SSg, Int.reduceBEq, Int.reduceBNe, Int.reduceLT, Int.reduceLE, beq_self_eq_true, bne_self_eq_false]) | (with_reducible first | refine BZ (λhb => ?_) (λhb => ?_) | refine AP (λhb => ?_) (λhb => ?_)) | (simp only [SSd, Nat.reduceAdd]))
  all_goals first
    | exact zAG (L1 ++ (b, PBo v') :: L2) (zAA (herr _ (by simp [GY, Res.bind, bad, AC, *] <;> rfl) _ _ zE))
    | (refine Gw (X6 := X) (R := TSourceV) (x := ⟨x.fTable, x.fAs, bb, y⟩) rfl zo hX (Recs.imp (λ_ _ h => TSourceV.mono h zE) hR) ⟨_, rfl, zC⟩ rfl (Ak rfl) zo zo (λX1 X6 w6 cells6 hX6 hR6 => zAG (X6 ++ (L1 ++ (b, PBo v') :: L2)) ?_)
       exact hnext ⟨x.fTable, x.fAs, bb, y⟩ _ (by simp [GY, Res.bind, AC, *] <;> rfl) zA zo _ _ _ _ _ zE zT hX6 hR6)
theorem ACK (n : Nat) (hE : FnE ω n b 227 (eP n)) {I : Imm} {L1 L2 X : LH} {Kn1 : (Value × Value × Unit) → M} {K Pn : Value → M} {v w : Value} {l : List Tok} {cells : List Value} {xs : List TSource} (h : TL I v l) (hT : Toks l) (hl : l.length ≤ n)
    (hX : SlO 164 14 X w cells xs.length) (hR : Recs (TSourceV I) 14 xs cells) (hxs : xs.length ≤ 1000000001)
    (hnext : ∀ g x r, JL n l = some g → g = .ok x r → Toks r → r.length + 1 ≤ l.length → ∀ I' v' X' w' cells', Ext I I' → TL I' v' r → SlO 164 14 X' w' cells' (xs ++ [x]).length → Recs (TSourceV I') 14 (xs ++ [x]) cells' → Gh (Kn1 (.slice none 0 0, w', ())) I' (X' ++ (L1 ++ (b, PBo v') :: L2)))
    (herr : ∀ g, JL n l = some g → PEr g Pn (λo => L1 ++ (b, o) :: L2) I)
    (hend : JL n l = none → ∀ I' a k, Ext I I' → RL TSourceV 14 I' [] (.slice a xs.length k) xs → TL I' v l → Gh (K (.slice a xs.length k)) I' (L1 ++ (b, PBo v) :: L2)) :
    TN ω (Ac b) (.slice none 0 0) w (λs => Gh (Kn1 s)) (λv => Gh (K v)) (λv => Gh (Pn v)) I (X ++ (L1 ++ (b, PBo v) :: L2)) := by
  unfold TN
  have hl1 := hT.len
  have J : ∀ (bb : Bool) {l1 : List Tok} {v1 : Value}, TL I v1 l1 → Toks l1 → l1.length ≤ l.length → JL n l = some (GY n bb l1) → Ky ω (Ac b) (.slice none 0 0) w (.bool bb) (λs => Gh (Kn1 s)) (λv => Gh (K v)) (λv => Gh (Pn v)) I (X ++ (L1 ++ (b, PBo v1) :: L2)) := by
    intro bb l1 v1 h1 hT1 hl1 hn
    exact ACJ n hE bb h1 hT1 zo hX hR hxs (λx r hg hT hr => hnext _ x r hn hg hT zo) (herr _ hn)
  repeat' (first | (with_reducible first | refine Bl (b := b) ?_ | refine keepA ?_ | refine Am (λ_ => ?_)) | (with_reducible refine AU ?_;refine Qy n zT zA zo (λx r hg hT2 hr2 I' v' a' k' hI' hv' hw' => ?_) (λe hg I' v' hI' => ?_)) | (with_reducible refine Ai ?_;refine Ia _ zT zA (λhb => ?_) (λhb => ?_)) | (with_reducible refine Ai ?_;refine Bo _ zT zA (λhb hT' hl' v' hv' => ?_) (λhb => ?_)) | (with_reducible refine Bd _ zT zA (λhb hT' hl' I' v' hI' hv' => ?_) (λhb I' v' hI' => ?_)) | (with_reducible refine AU ?_;refine CQ zT zA (λhb hT' hl' v' hv' => ?_) (λhb => ?_)) | (with_reducible refine AU ?_;refine Ae zT zA ?_) | (with_reducible first | refine Ci zC (λI' a hI' hw' => zAA ?_) | refine CJ zC zC (λI' a hI' hw' => zAA ?_) | refine DF zC zC zC (λI' a hI' hw' => zAA ?_)) | (with_reducible refine Ai ?_;refine BC zC ?_) | (with_reducible refine rdb ?_) | ((with_reducible first | refine st1 ?_ ?_ | refine rdB ?_ ?_); rfl) | (with_reducible refine BM ?_) | ((with_reducible refine Pe ?_ ?_); rfl) | ((with_reducible refine stB ?_ ?_ ?_ ?_); rfl; rfl; exact Ak rfl) | ((with_reducible first | refine rdP _ rfl ?_ ?_ | refine AHn _ rfl ?_ ?_); rfl) | ((with_reducible refine stP _ rfl ?_ ?_ ?_ ?_); rfl; rfl; rfl) | (with_reducible first | refine BJ (sh225_4.eq_1 ..) ?_ | refine And.intro ?_ ?_) | (simp only [SSg, Int.reduceBEq, Int.reduceBNe, Int.reduceLT, Int.reduceLE, beq_self_eq_true, bne_self_eq_false]) | (with_reducible first | refine BZ (λhb => ?_) (λhb => ?_) | refine AP (λhb => ?_) (λhb => ?_)) | (simp only [SSd, Nat.reduceAdd]))
  all_goals (try (exfalso; simp_all; done))
  all_goals first
    | exact J true zA zA zo (by simp [JL, *])
    | exact J false zA zA zo (by simp [JL, *])
    | exact zAG (L1 ++ (b, PBo v') :: L2) (zAA (herr _ (by simp [JL, *] <;> rfl) _ (by simp [Res.bind, bad, AC, *] <;> rfl) _ _ zE))
    | (refine Gw (X6 := X) (R := TSourceV) (x := x) rfl zo hX (Recs.imp (λ_ _ h => TSourceV.mono h zE) hR) ⟨_, rfl, zC⟩ rfl (Ak rfl) zo zo (λX1 X6 w6 cells6 hX6 hR6 => zAG (X6 ++ (L1 ++ (b, PBo v') :: L2)) ?_)
       exact hnext _ x _ (by simp [JL, *] <;> rfl) (by simp [Res.bind, AC, *] <;> rfl) zA zo _ _ _ _ _ zE zT hX6 hR6)
    | (refine CalP.pre (RL.ofO (R := TSourceV) (λ{I I' x c} h hI => TSourceV.mono h hI) hX hR (λI3 hI3 hw => zAA ?_))
       refine Ai (AMR hw (λa k hw' => hend (by simp [JL, *]) I3 a k hI3 hw' (h.mono hI3))))
theorem AIK (n:Nat)(hn0:n≤1000000000)(hE:FnE ω n b 227 (eP n)):FnL ω n b 225 (Jy n) TSourceV 14:=by
 intro K Pn I L C v l hF h hT hl hok herr;obtain ⟨L1,L2,rfl,rfl⟩:=hF.foc;refine ANR ?_;unfold AJi;refine AU ((Qz n).go h hT hl ?_ ?_);rotate_left
 ·rintro e hg I1 v1 hI1;exact zAG (L1++(b,PBo v1)::L2) (zAA (herr e (by simp only [Jy,hg,Res.bind]) I1 v1 hI1))
 rintro x r hg hT1 hr I1 v1 c hI1 hTL1 hx;refine CU rfl zo (by simpa [Value.cells] using hx.len) (λX u hX=>?_);refine loop (λm s I2 Lx=>∃X v2 l2 w cells xs f,l2.length=m∧s=(.slice none 0 0,w,())∧Ext I I2∧Lx=X++(L1++(b,PBo v2)::L2)∧TL I2 v2 l2∧Toks l2∧SlO 164 14 X w cells xs.length∧Recs (TSourceV I2) 14 xs cells∧l2.length≤f∧0 < xs.length∧xs.length+l2.length≤l.length+1∧Jy n l=DU n f xs l2) r.length
   ⟨X,v1,r,u,_,[x],n,rfl,rfl,hI1,rfl,hTL1,hT1,hX,(by simpa [Value.cells] using Recs.one hx.len hx),by omega,by simp,by simp;omega,by simp only [Jy,hg,Res.bind]⟩ ?_
 clear hX hTL1 hT1 hx hg hr;rintro m s I2 Lx ⟨X,v2,l2,w,cells,xs,f,rfl,rfl,hI2,rfl,hTL2,hT2,hX,hR,hf,hpos,hlen,hm⟩;have hl2:=hT2.len;obtain ⟨f,rfl⟩:∃k,f=k+1:=⟨f - 1,by omega⟩;rw [Ve] at hm;refine ACK n hE hTL2 hT2 zo hX hR zo (λg x r hn hg hT3 hr3 I3 v3 X3 w3 cells3 hI3 hTL3 hX3 hR3=>?_) (λg hn e hg I3 v3 hI3=>?_) (λhn I3 a k hI3 hw hTL3=>?_)
 ·exact zAA ⟨r.length,by omega,X3,v3,r,w3,cells3,xs++[x],f,rfl,rfl,zAB hI2 hI3,rfl,hTL3,hT3,hX3,hR3,by omega,by simp,by simp;omega,by rw [hm,hn];simp only [hg,Res.bind]⟩
 ·exact herr e (by rw [hm,hn];simp only [hg,Res.bind]) I3 v3 (zAB hI2 hI3)
 ·exact zAA (hok xs l2 (by rw [hm,hn]) hT2 zo I3 v2 a k (zAB hI2 hI3) hTL3 hw zo)
end
theorem LQ {α:Type}{R:Imm→α→List Value→Prop}{m n:Nat}{g:Res (List α)}{K:Value→M}{C:Obj→LH}{I:Imm}(h:LOk R m g n K C I):POk g (λI x v=>RL R m I [] v x∧x.length≤n) n K C I:=by
 rintro x r hg hT hr I' v' w hI' hv' ⟨hw,hx⟩;obtain ⟨a,k,rfl⟩:=zAH hw;exact h x r hg hT hr I' v' a k hI' hv' hw zo
theorem ItL.mono {I I':Imm}{v:Value}{l:List TItem}(h:RL TItemV 14 I [] v l)(hI:Ext I I'):RL TItemV 14 I' [] v l:=zAL (λ_ _ h=>TItemV.mono h hI) h hI (λ_ h=>h)
theorem SoL.mono {I I':Imm}{v:Value}{l:List TSource}(h:RL TSourceV 14 I [] v l)(hI:Ext I I'):RL TSourceV 14 I' [] v l:=zAL (λ_ _ h=>TSourceV.mono h hI) h hI (λ_ h=>h)
theorem OrL.mono {I I':Imm}{v:Value}{l:List TOrder}(h:RL TOrderV 12 I [] v l)(hI:Ext I I'):RL TOrderV 12 I' [] v l:=zAL (λ_ _ h=>TOrderV.mono h hI) h hI (λ_ h=>h)
def RV (s:TSelect):Pr TSelect:=λl=>.ok s l
def Jq (s:TSelect):Pr TSelect:=λl=>if isT l [111,102,102,115,101,116] then (FN l.tail).bind λx r=>RV {s with fOffset:=x} r else RV s l
def Jr (s:TSelect):Pr TSelect:=λl=>if isT l [108,105,109,105,116] then (FN l.tail).bind λx r=>Jq {s with fLimit:=x} r else Jq s l
def KF (n:Nat)(s:TSelect):Pr TSelect:=λl=>if isT l [111,114,100,101,114] then (AC [98,121] l.tail).bind λ_ r=>(BO n (Hf n) r).bind λx r=>Jr {s with fOrder:=x} r else Jr s l
def Js (n:Nat)(s:TSelect):Pr TSelect:=λl=>(EK n [104,97,118,105,110,103] l).bind λx r=>KF n {s with fHaving:=x} r
def KG (n:Nat)(s:TSelect):Pr TSelect:=λl=>if isT l [103,114,111,117,112] then (AC [98,121] l.tail).bind λ_ r=>(BO n (eP n) r).bind λx r=>Js n {s with fGroup:=x} r else Js n s l
def Jt (n:Nat)(s:TSelect):Pr TSelect:=λl=>(EK n [119,104,101,114,101] l).bind λx r=>KG n {s with fWhere:=x} r
def JG (n:Nat)(s:TSelect):Pr TSelect:=λl=>if isT l [102,114,111,109] then (Jy n l.tail).bind λx r=>Jt n {s with fFrom:=x} r else Jt n s l
abbrev AEA (d:Bool):TSelect:=⟨d,[],[],ex0,[],ex0,[], -1,0⟩
theorem AEl {α β:Type}(s:Bs)(d:α)(p:Pr α)(l:List Tok)(f:α→Pr β):(Po s d p l).bind f=if isT l s then (p l.tail).bind f else f d l:=by
 unfold Po;split <;> rfl
theorem ABk (n:Nat)(l:List Tok):Ha n l=(BO n (Gy n) (if isT l [100,105,115,116,105,110,99,116] then l.tail else l)).bind λx r=>JG n {AEA (isT l [100,105,115,116,105,110,99,116]) with fItems:=x} r:=by
 simp only [Ha,AEl,byP,FO,JG,Jt,KG,Js,KF,Jr,Jq,RV]
abbrev selZ:List Value:=[.bool false,.slice none 0 0,.slice none 0 0,.int .i64 0,.int .i64 0,.bool false,.int .i64 0,.string ⟨#[]⟩,.string ⟨#[]⟩,.string ⟨#[]⟩,.int .i64 0,.int .i64 0,.bool false,.slice none 0 0,.slice none 0 0,.int .i64 0,.int .i64 0,.bool false,.int .i64 0,.string ⟨#[]⟩,.string ⟨#[]⟩,.string ⟨#[]⟩,.int .i64 0,.int .i64 0,.bool false,.slice none 0 0,.slice none 0 0,.int .i64 0,.int .i64 0]
section
variable {ω:Om}{b:Nat}
theorem AAV (n:Nat)(hn0:n≤1000000000)(hE:FnE ω n b 227 (eP n)){I:Imm}{L1 L2:LH}{K Pn:Value→M}{v:Value}{l:List Tok}{b1 bq N0:Nat}{s:TSelect}{c:List Value}(h:TL I v l)(hT:Toks l)(hl:l.length≤n)(hN:l.length≤N0)(hs:CZ I s c)
  (hok:VOk CZ (RV s l) N0 K (λo=>L1++(b,o)::L2) I) (herr:PEr (RV s l) Pn (λo=>L1++(b,o)::L2) I):
  OH ω (Ac b1) (Ac bq) (λv=>Gh (K v)) (λv=>Gh (Pn v)) I ((bq,.cells c.toArray 68 (0,0))::(b1,.cells selZ.toArray 68 (0,0))::(L1++(b,PBo v)::L2)):=by
 obtain ⟨v0,v1,v2,v3,v4,v5,rfl,h0,h1,h2,h3,h4,h5⟩:=hs;obtain ⟨a0,k0,rfl⟩:=zAH h0;obtain ⟨a1,k1,rfl⟩:=zAH h1;obtain ⟨a2,k2,rfl⟩:=zAH h2;obtain ⟨a3,k3,rfl⟩:=zAH h3;obtain ⟨a4,k4,rfl⟩:=zAH h4;obtain ⟨a5,k5,rfl⟩:=zAH h5;have hs:CZ I s _:=⟨_,_,_,_,_,_,rfl,h0,h1,h2,h3,h4,h5⟩;unfold OH;have hl0:=hT.len;repeat' (first|(with_reducible first|refine Bl (b:=b) ?_|refine keepA ?_|refine Am (λ_=>?_))|(with_reducible refine Ai ?_;refine Bo _ zT zA (λhb hT' hl' v' hv'=>?_) (λhb=>?_))|(with_reducible refine Bd _ zT zA (λhb hT' hl' I' v' hI' hv'=>?_) (λhb I' v' hI'=>?_))|(with_reducible refine AU ?_;refine CQ zT zA (λhb hT' hl' v' hv'=>?_) (λhb=>?_))|(with_reducible refine AU ?_;refine Ae zT zA ?_)|(with_reducible first|refine Ci zC (λI' a hI' hw'=>zAA ?_)|refine CJ zC zC (λI' a hI' hw'=>zAA ?_)|refine DF zC zC zC (λI' a hI' hw'=>zAA ?_))|(with_reducible refine Ai ?_;refine BC zC ?_)|refine zqr ?_|refine zqb ?_|refine zqi ?_ ?_|refine zqc ?_|refine zqg (λhb=>?_) (λhb=>?_)|refine zqe ?_|fail)
 exact zAG (L1++(b,PBo v)::L2) (zAA (hok s l (by simp [RV]) hT hN I v _ (zAC _) h hs))
theorem AAW (n:Nat)(hn0:n≤1000000000)(hE:FnE ω n b 227 (eP n)){I:Imm}{L1 L2:LH}{K Pn:Value→M}{v:Value}{l:List Tok}{b1 bq N0:Nat}{s:TSelect}{c:List Value}(h:TL I v l)(hT:Toks l)(hl:l.length≤n)(hN:l.length≤N0)(hs:CZ I s c)
  (hok:VOk CZ (Jq s l) N0 K (λo=>L1++(b,o)::L2) I) (herr:PEr (Jq s l) Pn (λo=>L1++(b,o)::L2) I):
  OI ω (Ac b) (Ac b1) (Ac bq) (λv=>Gh (K v)) (λv=>Gh (Pn v)) I ((bq,.cells c.toArray 68 (0,0))::(b1,.cells selZ.toArray 68 (0,0))::(L1++(b,PBo v)::L2)):=by
 obtain ⟨v0,v1,v2,v3,v4,v5,rfl,h0,h1,h2,h3,h4,h5⟩:=hs;obtain ⟨a0,k0,rfl⟩:=zAH h0;obtain ⟨a1,k1,rfl⟩:=zAH h1;obtain ⟨a2,k2,rfl⟩:=zAH h2;obtain ⟨a3,k3,rfl⟩:=zAH h3;obtain ⟨a4,k4,rfl⟩:=zAH h4;obtain ⟨a5,k5,rfl⟩:=zAH h5;have hs:CZ I s _:=⟨_,_,_,_,_,_,rfl,h0,h1,h2,h3,h4,h5⟩;unfold OI;have hl0:=hT.len;repeat' (first|(with_reducible first|refine Bl (b:=b) ?_|refine keepA ?_|refine Am (λ_=>?_))|(with_reducible refine AU ?_;refine QU zT zA (λx r hg hT2 hr2 v' hv'=>?_) (λe hg=>?_))|(with_reducible refine Ai ?_;refine Bo _ zT zA (λhb hT' hl' v' hv'=>?_) (λhb=>?_))|(with_reducible refine Bd _ zT zA (λhb hT' hl' I' v' hI' hv'=>?_) (λhb I' v' hI'=>?_))|(with_reducible refine AU ?_;refine CQ zT zA (λhb hT' hl' v' hv'=>?_) (λhb=>?_))|(with_reducible refine AU ?_;refine Ae zT zA ?_)|(with_reducible first|refine Ci zC (λI' a hI' hw'=>zAA ?_)|refine CJ zC zC (λI' a hI' hw'=>zAA ?_)|refine DF zC zC zC (λI' a hI' hw'=>zAA ?_))|(with_reducible refine Ai ?_;refine BC zC ?_)|refine zqr ?_|refine zqb ?_|refine zqi ?_ ?_|refine zqc ?_|refine zqg (λhb=>?_) (λhb=>?_)|refine zqe ?_|fail)
 all_goals first
  |exact zAG (L1++(b,PBo v')::L2) (zAA (herr _ (by simp [Jq,Res.bind,bad,AC,Res.bind,bad,AC, *] <;> rfl) _ _ zE))
  |exact AAV n hn0 hE zT zA zo zo (s:={s with fOffset:=x}) ⟨_,_,_,_,_,_,rfl,(ItL.mono h0 zE),(SoL.mono h1 zE),(zAM h2 zE),(zAL (λ_ _ h=>ExV.mono zE h) h3 zE (λ_ h=>h)),(zAM h4 zE),(OrL.mono h5 zE)⟩ (λy q hy hT' hq I' v' c hI hv hc=>hok y q (by simp [Jq,AC,Res.bind,hy, *]) hT' hq I' v' c zE hv hc) (λe hy I' v' hI=>herr e (by simp [Jq,AC,Res.bind,hy, *]) I' v' zE)
  |exact AAV n hn0 hE zT zA zo zo (s:=s) ⟨_,_,_,_,_,_,rfl,(ItL.mono h0 zE),(SoL.mono h1 zE),(zAM h2 zE),(zAL (λ_ _ h=>ExV.mono zE h) h3 zE (λ_ h=>h)),(zAM h4 zE),(OrL.mono h5 zE)⟩ (λy q hy hT' hq I' v' c hI hv hc=>hok y q (by simp [Jq,AC,Res.bind,hy, *]) hT' hq I' v' c zE hv hc) (λe hy I' v' hI=>herr e (by simp [Jq,AC,Res.bind,hy, *]) I' v' zE)
theorem AAX (n:Nat)(hn0:n≤1000000000)(hE:FnE ω n b 227 (eP n)){I:Imm}{L1 L2:LH}{K Pn:Value→M}{v:Value}{l:List Tok}{b1 bq N0:Nat}{s:TSelect}{c:List Value}(h:TL I v l)(hT:Toks l)(hl:l.length≤n)(hN:l.length≤N0)(hs:CZ I s c)
  (hok:VOk CZ (Jr s l) N0 K (λo=>L1++(b,o)::L2) I) (herr:PEr (Jr s l) Pn (λo=>L1++(b,o)::L2) I):
  OJ ω (Ac b) (Ac b1) (Ac bq) (λv=>Gh (K v)) (λv=>Gh (Pn v)) I ((bq,.cells c.toArray 68 (0,0))::(b1,.cells selZ.toArray 68 (0,0))::(L1++(b,PBo v)::L2)):=by
 obtain ⟨v0,v1,v2,v3,v4,v5,rfl,h0,h1,h2,h3,h4,h5⟩:=hs;obtain ⟨a0,k0,rfl⟩:=zAH h0;obtain ⟨a1,k1,rfl⟩:=zAH h1;obtain ⟨a2,k2,rfl⟩:=zAH h2;obtain ⟨a3,k3,rfl⟩:=zAH h3;obtain ⟨a4,k4,rfl⟩:=zAH h4;obtain ⟨a5,k5,rfl⟩:=zAH h5;have hs:CZ I s _:=⟨_,_,_,_,_,_,rfl,h0,h1,h2,h3,h4,h5⟩;unfold OJ;have hl0:=hT.len;repeat' (first|(with_reducible first|refine Bl (b:=b) ?_|refine keepA ?_|refine Am (λ_=>?_))|(with_reducible refine AU ?_;refine QU zT zA (λx r hg hT2 hr2 v' hv'=>?_) (λe hg=>?_))|(with_reducible refine Ai ?_;refine Bo _ zT zA (λhb hT' hl' v' hv'=>?_) (λhb=>?_))|(with_reducible refine Bd _ zT zA (λhb hT' hl' I' v' hI' hv'=>?_) (λhb I' v' hI'=>?_))|(with_reducible refine AU ?_;refine CQ zT zA (λhb hT' hl' v' hv'=>?_) (λhb=>?_))|(with_reducible refine AU ?_;refine Ae zT zA ?_)|(with_reducible first|refine Ci zC (λI' a hI' hw'=>zAA ?_)|refine CJ zC zC (λI' a hI' hw'=>zAA ?_)|refine DF zC zC zC (λI' a hI' hw'=>zAA ?_))|(with_reducible refine Ai ?_;refine BC zC ?_)|refine zqr ?_|refine zqb ?_|refine zqi ?_ ?_|refine zqc ?_|refine zqg (λhb=>?_) (λhb=>?_)|refine zqe ?_|fail)
 all_goals first
  |exact zAG (L1++(b,PBo v')::L2) (zAA (herr _ (by simp [Jr,Res.bind,bad,AC,Res.bind,bad,AC, *] <;> rfl) _ _ zE))
  |exact AAW n hn0 hE zT zA zo zo (s:={s with fLimit:=x}) ⟨_,_,_,_,_,_,rfl,(ItL.mono h0 zE),(SoL.mono h1 zE),(zAM h2 zE),(zAL (λ_ _ h=>ExV.mono zE h) h3 zE (λ_ h=>h)),(zAM h4 zE),(OrL.mono h5 zE)⟩ (λy q hy hT' hq I' v' c hI hv hc=>hok y q (by simp [Jr,AC,Res.bind,hy, *]) hT' hq I' v' c zE hv hc) (λe hy I' v' hI=>herr e (by simp [Jr,AC,Res.bind,hy, *]) I' v' zE)
  |exact AAW n hn0 hE zT zA zo zo (s:=s) ⟨_,_,_,_,_,_,rfl,(ItL.mono h0 zE),(SoL.mono h1 zE),(zAM h2 zE),(zAL (λ_ _ h=>ExV.mono zE h) h3 zE (λ_ h=>h)),(zAM h4 zE),(OrL.mono h5 zE)⟩ (λy q hy hT' hq I' v' c hI hv hc=>hok y q (by simp [Jr,AC,Res.bind,hy, *]) hT' hq I' v' c zE hv hc) (λe hy I' v' hI=>herr e (by simp [Jr,AC,Res.bind,hy, *]) I' v' zE)
theorem AAY (n:Nat)(hn0:n≤1000000000)(hE:FnE ω n b 227 (eP n)){I:Imm}{L1 L2:LH}{K Pn:Value→M}{v:Value}{l:List Tok}{b1 bq N0:Nat}{s:TSelect}{c:List Value}(h:TL I v l)(hT:Toks l)(hl:l.length≤n)(hN:l.length≤N0)(hs:CZ I s c)
  (hok:VOk CZ (Js n s l) N0 K (λo=>L1++(b,o)::L2) I) (herr:PEr (Js n s l) Pn (λo=>L1++(b,o)::L2) I):
  OL ω (Ac b) (Ac b1) (Ac bq) (λv=>Gh (K v)) (λv=>Gh (Pn v)) I ((bq,.cells c.toArray 68 (0,0))::(b1,.cells selZ.toArray 68 (0,0))::(L1++(b,PBo v)::L2)):=by
 obtain ⟨v0,v1,v2,v3,v4,v5,rfl,h0,h1,h2,h3,h4,h5⟩:=hs;obtain ⟨a0,k0,rfl⟩:=zAH h0;obtain ⟨a1,k1,rfl⟩:=zAH h1;obtain ⟨a2,k2,rfl⟩:=zAH h2;obtain ⟨a3,k3,rfl⟩:=zAH h3;obtain ⟨a4,k4,rfl⟩:=zAH h4;obtain ⟨a5,k5,rfl⟩:=zAH h5;have hs:CZ I s _:=⟨_,_,_,_,_,_,rfl,h0,h1,h2,h3,h4,h5⟩;unfold OL;have hl0:=hT.len;repeat' (first|(with_reducible first|refine Bl (b:=b) ?_|refine keepA ?_|refine Am (λ_=>?_))|(with_reducible refine AU ?_;refine KY n hE _ zT zA zo (λy r1 hg1 hT1 hr1 I' v' a' k' hI' hv' hw1=>?_) (λe hg I' v' hI'=>?_))|(with_reducible refine AU ?_;refine ALb n hn0 ((AEk n hE).one rfl) zT zA zo (LQ (λx r hg hT2 hr2 I' v' a' k' hI' hv' hw' hx'=>?_)) (λe hg I' v' hI'=>?_))|(with_reducible refine Ai ?_;refine Bo _ zT zA (λhb hT' hl' v' hv'=>?_) (λhb=>?_))|(with_reducible refine Bd _ zT zA (λhb hT' hl' I' v' hI' hv'=>?_) (λhb I' v' hI'=>?_))|(with_reducible refine AU ?_;refine CQ zT zA (λhb hT' hl' v' hv'=>?_) (λhb=>?_))|(with_reducible refine AU ?_;refine Ae zT zA ?_)|(with_reducible first|refine Ci zC (λI' a hI' hw'=>zAA ?_)|refine CJ zC zC (λI' a hI' hw'=>zAA ?_)|refine DF zC zC zC (λI' a hI' hw'=>zAA ?_))|(with_reducible refine Ai ?_;refine BC zC ?_)|refine zqr ?_|refine zqb ?_|refine zqi ?_ ?_|refine zqc ?_|refine zqg (λhb=>?_) (λhb=>?_)|refine zqe ?_|fail)
 all_goals first
  |exact zAG (L1++(b,PBo v')::L2) (zAA (herr _ (by simp [Js,KF,Res.bind,bad,AC,Res.bind,bad,AC, *] <;> rfl) _ _ zE))
  |exact AAX n hn0 hE zT zA zo zo (s:={s with fHaving:=y,fOrder:=x}) ⟨_,_,_,_,_,_,rfl,(ItL.mono h0 zE),(SoL.mono h1 zE),(zAM h2 zE),(zAL (λ_ _ h=>ExV.mono zE h) h3 zE (λ_ h=>h)),(zAM hw1 zE),hw'⟩ (λy q hy hT' hq I' v' c hI hv hc=>hok y q (by simp [Js,KF,AC,Res.bind,hy, *]) hT' hq I' v' c zE hv hc) (λe hy I' v' hI=>herr e (by simp [Js,KF,AC,Res.bind,hy, *]) I' v' zE)
  |exact AAX n hn0 hE zT zA zo zo (s:={s with fHaving:=y}) ⟨_,_,_,_,_,_,rfl,(ItL.mono h0 zE),(SoL.mono h1 zE),(zAM h2 zE),(zAL (λ_ _ h=>ExV.mono zE h) h3 zE (λ_ h=>h)),(zAM hw1 zE),(OrL.mono h5 zE)⟩ (λy q hy hT' hq I' v' c hI hv hc=>hok y q (by simp [Js,KF,AC,Res.bind,hy, *]) hT' hq I' v' c zE hv hc) (λe hy I' v' hI=>herr e (by simp [Js,KF,AC,Res.bind,hy, *]) I' v' zE)
theorem OV (n:Nat)(hn0:n≤1000000000)(hE:FnE ω n b 227 (eP n)){I:Imm}{L1 L2:LH}{K Pn:Value→M}{v:Value}{l:List Tok}{b1 bq N0:Nat}{s:TSelect}{c:List Value}(h:TL I v l)(hT:Toks l)(hl:l.length≤n)(hN:l.length≤N0)(hs:CZ I s c)
  (hok:VOk CZ (Jt n s l) N0 K (λo=>L1++(b,o)::L2) I) (herr:PEr (Jt n s l) Pn (λo=>L1++(b,o)::L2) I):
  OM ω (Ac b) (Ac b1) (Ac bq) (λv=>Gh (K v)) (λv=>Gh (Pn v)) I ((bq,.cells c.toArray 68 (0,0))::(b1,.cells selZ.toArray 68 (0,0))::(L1++(b,PBo v)::L2)):=by
 obtain ⟨v0,v1,v2,v3,v4,v5,rfl,h0,h1,h2,h3,h4,h5⟩:=hs;obtain ⟨a0,k0,rfl⟩:=zAH h0;obtain ⟨a1,k1,rfl⟩:=zAH h1;obtain ⟨a2,k2,rfl⟩:=zAH h2;obtain ⟨a3,k3,rfl⟩:=zAH h3;obtain ⟨a4,k4,rfl⟩:=zAH h4;obtain ⟨a5,k5,rfl⟩:=zAH h5;have hs:CZ I s _:=⟨_,_,_,_,_,_,rfl,h0,h1,h2,h3,h4,h5⟩;unfold OM;have hl0:=hT.len;repeat' (first|(with_reducible first|refine Bl (b:=b) ?_|refine keepA ?_|refine Am (λ_=>?_))|(with_reducible refine AU ?_;refine KY n hE _ zT zA zo (λy r1 hg1 hT1 hr1 I' v' a' k' hI' hv' hw1=>?_) (λe hg I' v' hI'=>?_))|(with_reducible refine AU ?_;refine ADM n hn0 (hE.one rfl) zT zA zo (LQ (λx r hg hT2 hr2 I' v' a' k' hI' hv' hw' hx'=>?_)) (λe hg I' v' hI'=>?_))|(with_reducible refine Ai ?_;refine Bo _ zT zA (λhb hT' hl' v' hv'=>?_) (λhb=>?_))|(with_reducible refine Bd _ zT zA (λhb hT' hl' I' v' hI' hv'=>?_) (λhb I' v' hI'=>?_))|(with_reducible refine AU ?_;refine CQ zT zA (λhb hT' hl' v' hv'=>?_) (λhb=>?_))|(with_reducible refine AU ?_;refine Ae zT zA ?_)|(with_reducible first|refine Ci zC (λI' a hI' hw'=>zAA ?_)|refine CJ zC zC (λI' a hI' hw'=>zAA ?_)|refine DF zC zC zC (λI' a hI' hw'=>zAA ?_))|(with_reducible refine Ai ?_;refine BC zC ?_)|refine zqr ?_|refine zqb ?_|refine zqi ?_ ?_|refine zqc ?_|refine zqg (λhb=>?_) (λhb=>?_)|refine zqe ?_|fail)
 all_goals first
  |exact zAG (L1++(b,PBo v')::L2) (zAA (herr _ (by simp [Jt,KG,Res.bind,bad,AC,Res.bind,bad,AC, *] <;> rfl) _ _ zE))
  |exact AAY n hn0 hE zT zA zo zo (s:={s with fWhere:=y,fGroup:=x}) ⟨_,_,_,_,_,_,rfl,(ItL.mono h0 zE),(SoL.mono h1 zE),(zAM hw1 zE),hw',(zAM h4 zE),(OrL.mono h5 zE)⟩ (λy q hy hT' hq I' v' c hI hv hc=>hok y q (by simp [Jt,KG,AC,Res.bind,hy, *]) hT' hq I' v' c zE hv hc) (λe hy I' v' hI=>herr e (by simp [Jt,KG,AC,Res.bind,hy, *]) I' v' zE)
  |exact AAY n hn0 hE zT zA zo zo (s:={s with fWhere:=y}) ⟨_,_,_,_,_,_,rfl,(ItL.mono h0 zE),(SoL.mono h1 zE),(zAM hw1 zE),(zAL (λ_ _ h=>ExV.mono zE h) h3 zE (λ_ h=>h)),(zAM h4 zE),(OrL.mono h5 zE)⟩ (λy q hy hT' hq I' v' c hI hv hc=>hok y q (by simp [Jt,KG,AC,Res.bind,hy, *]) hT' hq I' v' c zE hv hc) (λe hy I' v' hI=>herr e (by simp [Jt,KG,AC,Res.bind,hy, *]) I' v' zE)
theorem AEf (n:Nat)(hn0:n≤1000000000)(hE:FnE ω n b 227 (eP n)):FnV ω n b 186 (Ha n) CZ:=by
 intro K Pn I L C v l hF h hT hl hok herr;obtain ⟨L1,L2,rfl,rfl⟩:=hF.foc;rw [ABk] at hok herr;refine ANs ?_;unfold AKE;repeat' (first|(with_reducible first|refine Bl (b:=b) ?_|refine keepA ?_|refine Am (λ_=>?_))|(with_reducible refine AU ?_;refine ALd n hn0 ((AIE n hE).one rfl) zT zA zo (LQ (λy r1 hg1 hT1 hr1 I' v' a' k' hI' hv' hw1 hx1=>?_)) (λe hg I' v' hI'=>?_))|(with_reducible refine AU ?_;refine (AIK n hn0 hE).go zT zA zo (λx r hg hT2 hr2 I' v' a' k' hI' hv' hw' hx'=>?_) (λe hg I' v' hI'=>?_))|(with_reducible refine Ai ?_;refine Bo _ zT zA (λhb hT' hl' v' hv'=>?_) (λhb=>?_))|(with_reducible refine Bd _ zT zA (λhb hT' hl' I' v' hI' hv'=>?_) (λhb I' v' hI'=>?_))|(with_reducible refine AU ?_;refine CQ zT zA (λhb hT' hl' v' hv'=>?_) (λhb=>?_))|(with_reducible refine AU ?_;refine Ae zT zA ?_)|(with_reducible first|refine Ci zC (λI' a hI' hw'=>zAA ?_)|refine CJ zC zC (λI' a hI' hw'=>zAA ?_)|refine DF zC zC zC (λI' a hI' hw'=>zAA ?_))|(with_reducible refine Ai ?_;refine BC zC ?_)|refine zqr ?_|refine zqb ?_|refine zqi ?_ ?_|refine zqc ?_|refine zqg (λhb=>?_) (λhb=>?_)|refine zqe ?_|fail)
 all_goals first
  |exact zAG (L1++(b,PBo v')::L2) (zAA (herr _ (by simp [JG,Res.bind,bad,AC, *] <;> rfl) _ _ zE))
  |exact OV n hn0 hE zT zA zo zo (s:={AEA true with fItems:=y,fFrom:=x}) ⟨_,_,_,_,_,_,rfl,(ItL.mono hw1 zE),hw',zAD none 0,zAD none 0,zAD none 0,zAD none 0⟩ (λz q hz hT' hq I' v' c hI hv hc=>hok z q (by simp [JG,Res.bind,hz, *]) hT' hq I' v' c zE hv hc) (λe hz I' v' hI=>herr e (by simp [JG,Res.bind,hz, *]) I' v' zE)
  |exact OV n hn0 hE zT zA zo zo (s:={AEA true with fItems:=y}) ⟨_,_,_,_,_,_,rfl,(ItL.mono hw1 zE),(zAD none 0),zAD none 0,zAD none 0,zAD none 0,zAD none 0⟩ (λz q hz hT' hq I' v' c hI hv hc=>hok z q (by simp [JG,Res.bind,hz, *]) hT' hq I' v' c zE hv hc) (λe hz I' v' hI=>herr e (by simp [JG,Res.bind,hz, *]) I' v' zE)
  |exact OV n hn0 hE zT zA zo zo (s:={AEA false with fItems:=y,fFrom:=x}) ⟨_,_,_,_,_,_,rfl,(ItL.mono hw1 zE),hw',zAD none 0,zAD none 0,zAD none 0,zAD none 0⟩ (λz q hz hT' hq I' v' c hI hv hc=>hok z q (by simp [JG,Res.bind,hz, *]) hT' hq I' v' c zE hv hc) (λe hz I' v' hI=>herr e (by simp [JG,Res.bind,hz, *]) I' v' zE)
  |exact OV n hn0 hE zT zA zo zo (s:={AEA false with fItems:=y}) ⟨_,_,_,_,_,_,rfl,(ItL.mono hw1 zE),(zAD none 0),zAD none 0,zAD none 0,zAD none 0,zAD none 0⟩ (λz q hz hT' hq I' v' c hI hv hc=>hok z q (by simp [JG,Res.bind,hz, *]) hT' hq I' v' c zE hv hc) (λe hz I' v' hI=>herr e (by simp [JG,Res.bind,hz, *]) I' v' zE)
end
section
variable {ω:Om}{b:Nat}
theorem AFT (n:Nat):FnE ω n b 274 Gg:=by
 intro K Pn I L C v l hF h hT hl hok herr;obtain ⟨L1,L2,rfl,rfl⟩:=hF.foc;have hN:FnE ω n b 285 Ns:=Rk n;refine AMg ?_;unfold sh274;repeat' (first|(with_reducible first|refine Bl (b:=b) ?_|refine keepA ?_|refine Am (λ_=>?_))|(with_reducible refine AU ?_;refine hN.go zT zA zo (λy r' hg hT2 hr2 I' v' a' k' hI' hv' hw'=>?_) (λe hg I' v' hI'=>?_))|(with_reducible refine Ai ?_;refine LW zT zA (λx hx hT' hl' v' hv'=>?_) (λhx=>?_))|(with_reducible refine Ai ?_;refine Bo _ zT zA (λhb hT' hl' v' hv'=>?_) (λhb=>?_))|(with_reducible refine Bd _ zT zA (λhb hT' hl' I' v' hI' hv'=>?_) (λhb I' v' hI'=>?_))|(with_reducible refine AU ?_;refine CQ zT zA (λhb hT' hl' v' hv'=>?_) (λhb=>?_))|(with_reducible refine AU ?_;refine Ae zT zA ?_)|(with_reducible first|refine Ci zC (λI' a hI' hw'=>zAA ?_)|refine CJ zC zC (λI' a hI' hw'=>zAA ?_)|refine DF zC zC zC (λI' a hI' hw'=>zAA ?_))|(with_reducible refine Ai ?_;refine BC zC ?_)|refine zqr ?_|refine zqb ?_|(with_reducible first|refine BJ (sh274.eq_1 ..) ?_|refine And.intro ?_ ?_)|refine zqc ?_|refine zqg (λhb=>?_) (λhb=>?_)|refine zqe ?_|fail)
 all_goals first
  |exact zAG (L1++(b,PBo v')::L2) (zAA (herr _ (by simp [Gg,Res.bind,bad,AC, *] <;> rfl) _ _ zE))
  |exact zAG (L1++(b,PBo v')::L2) (zAA (hok _ _ (by simp [Gg,Res.bind,bad,AC, *] <;> rfl) zA zo _ _ _ zE zT zC))
  |exact zAG (L1++(b,PBo v')::L2) (zAA (hok (exK 4 [y]) _ (by simp [Gg,Res.bind, *] <;> rfl) zA zo _ _ _ zE zT zC))
def tyK (s:Bs):Option Int:=if s=[116,101,120,116] then some 3 else if s=[98,111,111,108,101,97,110]∨s=[98,111,111,108] then some 2 else if s=[98,105,103,105,110,116]∨s=[105,110,116,101,103,101,114]∨s=[105,110,116] then some 1 else none
theorem AHC:JA (JA (JA (JA (JA (JA (λ_=>none) [105,110,116] (some (.int .i64 1))) [105,110,116,101,103,101,114] (some (.int .i64 1))) [98,105,103,105,110,116] (some (.int .i64 1))) [98,111,111,108] (some (.int .i64 2))) [98,111,111,108,101,97,110] (some (.int .i64 2))) [116,101,120,116] (some (.int .i64 3))=λk=>(tyK k).map (.int .i64):=by
 funext k
 simp only [JA,tyK];by_cases h1:k=[116,101,120,116]
 ·subst h1;rfl
 by_cases h2:k=[98,111,111,108,101,97,110]
 ·subst h2;rfl
 by_cases h3:k=[98,111,111,108]
 ·subst h3;rfl
 by_cases h4:k=[98,105,103,105,110,116]
 ·subst h4;rfl
 by_cases h5:k=[105,110,116,101,103,101,114]
 ·subst h5;rfl
 by_cases h6:k=[105,110,116]
 ·subst h6;rfl
 simp only [h1,h2,h3,h4,h5,h6,if_false,or_self];rfl
theorem ABJ (s:Bs):typeOf s=(tyK s).getD 0:=by
 simp only [typeOf,tyK];by_cases h1:s=[116,101,120,116]
 ·subst h1;rfl
 by_cases h2:s=[98,111,111,108,101,97,110]
 ·subst h2;rfl
 by_cases h3:s=[98,111,111,108]
 ·subst h3;rfl
 by_cases h4:s=[98,105,103,105,110,116]
 ·subst h4;rfl
 by_cases h5:s=[105,110,116,101,103,101,114]
 ·subst h5;rfl
 by_cases h6:s=[105,110,116]
 ·subst h6;rfl
 simp only [h1,h2,h3,h4,h5,h6,if_false,or_self];rfl
def JM (c:TCol)(l:List Tok):Option (Res TCol):=
  if (!c.fNotNull&&isT l [110,111,116])=true then some ((AC [110,117,108,108] l.tail).bind λ_ r=>.ok {c with fNotNull:=true} r) else
  if (!c.fKey&&isT l [112,114,105,109,97,114,121])=true then some ((AC [107,101,121] l.tail).bind λ_ r=>.ok {c with fKey:=true} r) else
  if (!c.fUnique&&isT l [117,110,105,113,117,101])=true then some (.ok {c with fUnique:=true} l.tail) else
  if (c.fDefault.kind==0&&isT l [100,101,102,97,117,108,116])=true then some ((Gg l.tail).bind λx r=>.ok {c with fDefault:=x} r) else none
theorem Xi (m:Nat)(c:TCol)(l:List Tok):Ff (m+1) c l=match JM c l with
  |some g=>g.bind λc r=>Ff m c r
  |none=>.ok c l:=by
 simp only [Ff,JM];split
 ·simp only [FO];rfl
 split
 ·simp only [FO];rfl
 split
 ·rfl
 split
 ·simp only [FO];rfl
 ·rfl
abbrev colZ:List Value:=[.string ⟨#[]⟩,.int .i64 0,.bool false,.bool false,.bool false,.int .i64 0,.int .i64 0,.bool false,.int .i64 0,.string ⟨#[]⟩,.string ⟨#[]⟩,.string ⟨#[]⟩,.int .i64 0,.int .i64 0,.bool false,.slice none 0 0]
theorem AFh {I:Imm}{X L1 L2:LH}{Kn1:Unit→M}{K Pn:Value→M}{v:Value}{l:List Tok}{b1 bc:Nat}{x:TCol}{c:List Value}(h:TL I v l)(hT:Toks l)(hx:TColV I x c)
  (hnext:∀g y r,JM x l=some g→g= .ok y r→Toks r→r.length+1≤l.length→∀I' v' c',Ext I I'→TL I' v' r→TColV I' y c'→Gh (Kn1 ()) I' (X++((bc,.cells c'.toArray 130 (0,0))::(b1,.cells colZ.toArray 130 (0,0))::(L1++(b,PBo v')::L2))))
  (herr:∀g,JM x l=some g→PEr g Pn (λo=>L1++(b,o)::L2) I)
  (hend:JM x l=none→Gh (K (.agg c.toArray)) I (L1++(b,PBo v)::L2)):
  sh264_3 ω (Ac b) (Ac b1) (Ac bc) (λs=>Gh (Kn1 s)) (λv=>Gh (K v)) (λv=>Gh (Pn v)) I (X++((bc,.cells c.toArray 130 (0,0))::(b1,.cells colZ.toArray 130 (0,0))::(L1++(b,PBo v)::L2))):=by
 obtain ⟨v0,rfl,h0⟩:=hx;obtain ⟨a0,k0,rfl⟩:=zAH h0;have hl1:=hT.len;have hG:FnE ω l.length b 274 Gg:=AFT _;unfold sh264_3;repeat' (first|(with_reducible first|refine Bl (b:=b) ?_|refine keepA ?_|refine Am (λ_=>?_))|(with_reducible refine AU ?_;refine hG.go zT zA zo (λy r hg hT2 hr2 I' v' a' k' hI' hv' hw'=>?_) (λe hg I' v' hI'=>?_))|(with_reducible refine Ai ?_;refine Bo _ zT zA (λhb hT' hl' v' hv'=>?_) (λhb=>?_))|(with_reducible refine Bd _ zT zA (λhb hT' hl' I' v' hI' hv'=>?_) (λhb I' v' hI'=>?_))|(with_reducible refine AU ?_;refine CQ zT zA (λhb hT' hl' v' hv'=>?_) (λhb=>?_))|(with_reducible refine AU ?_;refine Ae zT zA ?_)|(with_reducible first|refine Ci zC (λI' a hI' hw'=>zAA ?_)|refine CJ zC zC (λI' a hI' hw'=>zAA ?_)|refine DF zC zC zC (λI' a hI' hw'=>zAA ?_))|(with_reducible refine Ai ?_;refine BC zC ?_)|refine zqr ?_|refine zqb ?_|(with_reducible first|refine BJ (sh264_4.eq_1 ..) ?_|refine BJ (sh264_8.eq_1 ..) ?_|refine BJ (sh264_10.eq_1 ..) ?_|refine BJ (sh264_12.eq_1 ..) ?_|refine BJ (sh264_13.eq_1 ..) ?_|refine BJ (sh264_11.eq_1 ..) ?_|refine BJ (sh264_9.eq_1 ..) ?_|refine BJ (sh264_7.eq_1 ..) ?_|refine BJ (sh264_3.eq_1 ..) ?_|refine BJ (sh264_2.eq_1 ..) ?_|refine BJ (sh264_1.eq_1 ..) ?_|refine BJ (sh264.eq_1 ..) ?_|refine And.intro ?_ ?_)|refine zqc ?_|refine zqg (λhb=>?_) (λhb=>?_)|refine zqe ?_|fail)
 all_goals first
  |exact zAG (L1++(b,PBo v)::L2) (hend (by simp [JM, *]))
  |exact zAG (L1++(b,PBo v')::L2) (zAA (herr _ (by simp [JM, *] <;> rfl) _ (by simp [Res.bind,bad,AC, *] <;> rfl) _ _ zE))
  |exact hnext _ {x with fNotNull:=true} _ (by simp [JM, *] <;> rfl) (by simp [Res.bind,AC, *] <;> rfl) zA zo _ _ _ zE zT ⟨_,rfl,zC⟩
  |exact hnext _ {x with fKey:=true} _ (by simp [JM, *] <;> rfl) (by simp [Res.bind,AC, *] <;> rfl) zA zo _ _ _ zE zT ⟨_,rfl,zC⟩
  |exact hnext _ {x with fUnique:=true} _ (by simp [JM, *] <;> rfl) (by simp [Res.bind,AC, *] <;> rfl) zA zo _ _ _ zE zT ⟨_,rfl,zC⟩
  |exact hnext _ {x with fDefault:=y} _ (by simp [JM, *] <;> rfl) (by simp [Res.bind,AC, *] <;> rfl) zA zo _ _ _ zE zT ⟨_,rfl,zC⟩
theorem ACd (n:Nat):FnV ω n b 264 (Es n) TColV:=by
 intro K Pn I L C v l hF h hT hl hok herr;obtain ⟨L1,L2,rfl,rfl⟩:=hF.foc;refine AMm ?_;unfold sh264;refine Am (λb1=>?_);refine AU (CQ h hT (λhn hT1 hl1 v1 hv1=>?_) (λhn=>zAG (L1++(b,PBo v)::L2) (zAA (herr (hd l).at' (by simp [Es,Aq,Res.bind,bad,hn]) I v (zAC _)))));obtain ⟨bt,off,h1,h2⟩:=hv1.hd hT1;have two:∀(X:LH) (t:Int) (hty:(if isK l.tail 1 then typeOf (hd l.tail).text else 0)=t) (bc:Nat),sh264_1 ω (Ac b) (Ac b1) (Ac bc) (λv=>Gh (K v)) (λv=>Gh (Pn v)) I (X++((bc,.cells #[.string ⟨(hd l).text.toArray⟩,.int .i64 t,.bool false,.bool false,.bool false,.int .i64 0,.int .i64 0,.bool false,.int .i64 0,.string ⟨#[]⟩,.string ⟨#[]⟩,.string ⟨#[]⟩,.int .i64 0,.int .i64 0,.bool false,.slice none 0 0] 130 (0,0))::(b1,.cells colZ.toArray 130 (0,0))::(L1++(b,PBo v1)::L2))):=by
  intro X t hty bc;have hcol:Es n l=if t=0 then bad l.tail else Ff n ⟨(hd l).text,t,false,false,false,ex0⟩ l.tail.tail:=by
   simp only [Es,Aq,hn,if_true,Res.bind,hty]
  rw [hcol] at hok herr;unfold sh264_1;repeat' (first|refine zqa ?_|refine zqh (λ_=>?_)|refine zqr ?_|refine zqb ?_|refine zqi ?_ ?_|refine zqc ?_|refine zqg (λ_=>?_) (λ_=>?_)|refine zqe ?_|fail)
  ·rename_i h0
   have h0:t=0:=by simpa using h0
   refine AU (Ae hv1 hT1 ?_);exact zAG (L1++(b,PBo v1)::L2) (zAA (herr _ (by rw [if_pos h0];rfl) I v1 (zAC _)))
  rename_i h0
  have h0:t≠0:=by simpa using h0
  rw [if_neg h0] at hok herr;have hk1:isK l.tail 1=true:=by
   cases hk:isK l.tail 1 with
   |true=>rfl
   |false=>rw [hk] at hty;exact absurd hty.symm h0
  have hT2:=hT1.tailK hk1;have hl2:=hT1.len;unfold sh264_2;refine Ai (Hq hv1 hT1 (λv2 hv2=>?_));refine loop (λm s I2 Lx=>∃x c v2 l2 f,l2.length=m∧Ext I I2∧Lx=X++((bc,Obj.cells (c:List Value).toArray 130 (0,0))::(b1,.cells colZ.toArray 130 (0,0))::(L1++(b,PBo v2)::L2))∧TColV I2 x c∧TL I2 v2 l2∧Toks l2∧l2.length≤f∧l2.length≤l.length∧Ff n ⟨(hd l).text,t,false,false,false,ex0⟩ l.tail.tail=Ff f x l2) l.tail.tail.length
   ⟨⟨(hd l).text,t,false,false,false,ex0⟩,_,v2,l.tail.tail,n,rfl,zAC _,rfl,⟨_,rfl,zAD none 0⟩,hv2,hT2,by omega,by omega,rfl⟩ ?_
  rintro m s I2 Lx ⟨x,c,v2,l2,f,rfl,hI2,rfl,hx,hTL2,hT2,hf,hlen,hm⟩;have hl2:=hT2.len;obtain ⟨f,rfl⟩:∃k,f=k+1:=⟨f - 1,by omega⟩;rw [Xi] at hm;refine AFh hTL2 hT2 hx (λg y r hn hg hT3 hr3 I3 v3 c3 hI3 hTL3 hc3=>?_) (λg hn e hg I3 v3 hI3=>?_) (λhn=>?_)
  ·exact zAA ⟨r.length,by omega,y,c3,v3,r,f,rfl,zAB hI2 hI3,rfl,hc3,hTL3,hT3,by omega,by omega,by rw [hm,hn];simp only [hg,Res.bind]⟩
  ·exact herr e (by rw [hm,hn];simp only [hg,Res.bind]) I3 v3 (zAB hI2 hI3)
  ·exact zAA (hok x l2 (by rw [hm,hn]) hT2 hlen I2 v2 c hI2 hTL2 hx)
 repeat' (first|refine zqa ?_|refine zqh (λ_=>?_)|((with_reducible refine rd1 (v:=.int .i64 (hd l.tail).kind) ?_ ?_);exact (h2 _ [] (zAC _) 0 _ rfl).mono (zAC _) (λ_ h=>by cases h))|refine zqr ?_|refine zqb ?_|refine zqi ?_ ?_|refine zqc ?_|refine zqg (λ_=>?_) (λ_=>?_)|(simp only [SSd,Nat.reduceAdd,h1]))
 ·rename_i hk
  have hk:isK l.tail 1=true:=by simpa [isK] using hk
  refine AEy (λbm=>?_);obtain ⟨es1,c1,e1,p1⟩:=MapS.empty.put [105,110,116] (.int .i64 1);obtain ⟨es2,c2,e2,p2⟩:=p1.put [105,110,116,101,103,101,114] (.int .i64 1);obtain ⟨es3,c3,e3,p3⟩:=p2.put [98,105,103,105,110,116] (.int .i64 1);obtain ⟨es4,c4,e4,p4⟩:=p3.put [98,111,111,108] (.int .i64 2);obtain ⟨es5,c5,e5,p5⟩:=p4.put [98,111,111,108,101,97,110] (.int .i64 2);obtain ⟨es6,c6,e6,p6⟩:=p5.put [116,101,120,116] (.int .i64 3);rw [AHC] at p6;refine zAA (Nr (k:=[105,110,116]) MapS.empty e1 ?_);refine zAA (Nr (k:=[105,110,116,101,103,101,114]) p1 e2 ?_);refine zAA (Nr (k:=[98,105,103,105,110,116]) p2 e3 ?_);refine zAA (Nr (k:=[98,111,111,108]) p3 e4 ?_);refine zAA (Nr (k:=[98,111,111,108,101,97,110]) p4 e5 ?_);refine zAA (Nr (k:=[116,101,120,116]) p5 e6 ?_);refine zAA ?_;refine rdb ?_;simp only [h1,SSd,Nat.reduceAdd];refine rd1 (v:=.string ⟨(hd l.tail).text.toArray⟩) ((h2 _ [] (zAC _) 2 _ rfl).mono (zAC _) (λ_ h=>by cases h)) ?_;refine lkm (k:=(hd l.tail).text) p6 ?_;have hty:(if isK l.tail 1 then typeOf (hd l.tail).text else 0)=typeOf (hd l.tail).text:=by rw [hk];rfl
  have hlk:lkV (.int .i64 0) false ((λk=>(tyK k).map (.int .i64)) (hd l.tail).text)= .int .i64 (typeOf (hd l.tail).text):=by
   rw [ABJ];show lkV _ _ (Option.map _ (tyK (hd l.tail).text))=_;cases tyK (hd l.tail).text <;> rfl
  simp only at hlk
  rw [hlk];repeat' (first|refine zqa ?_|refine zqh (λ_=>?_)|refine zqr ?_|refine zqb ?_|refine zqi ?_ ?_|refine zqc ?_|refine zqg (λ_=>?_) (λ_=>?_)|refine zqe ?_|fail)
  exact two [_] _ hty _
 ·rename_i hk
  have hk:isK l.tail 1=false:=by simpa [isK] using hk
  exact two [] 0 (by rw [hk];rfl) _
end
abbrev stZ:List Value:=[.int .i64 0,.bool false,.slice none 0 0,.slice none 0 0,.int .i64 0,.int .i64 0,.bool false,.int .i64 0,.string ⟨#[]⟩,.string ⟨#[]⟩,.string ⟨#[]⟩,.int .i64 0,.int .i64 0,.bool false,.slice none 0 0,.slice none 0 0,.int .i64 0,.int .i64 0,.bool false,.int .i64 0,.string ⟨#[]⟩,.string ⟨#[]⟩,.string ⟨#[]⟩,.int .i64 0,.int .i64 0,.bool false,.slice none 0 0,.slice none 0 0,.int .i64 0,.int .i64 0,.string ⟨#[]⟩,.slice none 0 0,.slice none 0 0,.slice none 0 0,.int .i64 0,.int .i64 0,.bool false,.int .i64 0,.string ⟨#[]⟩,.string ⟨#[]⟩,.string ⟨#[]⟩,.int .i64 0,.int .i64 0,.bool false,.slice none 0 0,.slice none 0 0,.slice none 0 0,.string ⟨#[]⟩,.string ⟨#[]⟩,.slice none 0 0,.bool false]
abbrev XI (nm:Bs)(w wk:Value):List Value:=[.int .i64 5,.bool false,.slice none 0 0,.slice none 0 0,.int .i64 0,.int .i64 0,.bool false,.int .i64 0,.string ⟨#[]⟩,.string ⟨#[]⟩,.string ⟨#[]⟩,.int .i64 0,.int .i64 0,.bool false,.slice none 0 0,.slice none 0 0,.int .i64 0,.int .i64 0,.bool false,.int .i64 0,.string ⟨#[]⟩,.string ⟨#[]⟩,.string ⟨#[]⟩,.int .i64 0,.int .i64 0,.bool false,.slice none 0 0,.slice none 0 0,.int .i64 0,.int .i64 0,.string ⟨nm.toArray⟩,.slice none 0 0,.slice none 0 0,.slice none 0 0,.int .i64 0,.int .i64 0,.bool false,.int .i64 0,.string ⟨#[]⟩,.string ⟨#[]⟩,.string ⟨#[]⟩,.int .i64 0,.int .i64 0,.bool false,.slice none 0 0,w,wk,.string ⟨#[]⟩,.string ⟨#[]⟩,.slice none 0 0,.bool false]
def Nv (w:Value)(n:Nat):Prop:=(n=0∧w= .slice none 0 0)∨(0 < n∧∃p k,w= .slice (some p) n k)
theorem SlO.nn {T n len:Nat}{X:LH}{v:Value}{cells:List Value}(h:SlO T n X v cells len)(h0:0 < len):Nv v len:=by
 obtain ⟨_,h8⟩:=h;rcases h8 with ⟨_,h1,_⟩|⟨b8,k8,_,_,h8,_⟩
 ·omega
 ·exact .inr ⟨h0,_,_,h8⟩
theorem RL.nn {α:Type}{R:Imm→α→List Value→Prop}{n:Nat}{I:Imm}{v:Value}{xs:List α}(hn:0 < n)(h:RL R n I [] v xs)(h0:0 < xs.length):Nv v xs.length:=by
 obtain ⟨cells,⟨_,a,cap,rfl,_,h⟩,_⟩:=RL.toI hn h;obtain ⟨b,off,cs,T,fr,ha,_⟩:=h zo;exact .inr ⟨h0,⟨b,off,none⟩,cap,by rw [ha]⟩
theorem ABQ {α:Type}{n:Nat}{g:Pr α}{l r:List Tok}{x:List α}(h:BO n g l= .ok x r):0 < x.length:=by
 have go:∀m (acc:List α) l x r,Cj g m acc l= .ok x r→acc.length≤x.length:=by
  intro m;induction m with
  |zero=>intro acc l x r h;simp only [Cj,Res.ok.injEq] at h;obtain ⟨rfl,_⟩:=h;exact zt _
  |succ m ih=>
   intro acc l x r h;simp only [Cj] at h;split at h
   ·cases hg:g l.tail with
    |ok y r2=>rw [hg] at h;have:=ih _ _ _ _ h;simp at this;omega
    |err e=>rw [hg] at h;simp [Res.bind] at h
   ·simp only [Res.ok.injEq] at h;obtain ⟨rfl,_⟩:=h;exact zt _
 simp only [BO] at h;cases hg:g l with
 |ok y r2=>rw [hg] at h;have:=go _ _ _ _ _ h;simp at this;omega
 |err e=>rw [hg] at h;simp [Res.bind] at h
theorem ABF {α:Type}{n:Nat}{g:Pr α}{l r:List Tok}{x:List α}(h:CE n g l= .ok x r):0 < x.length:=by
 simp only [CE] at h;cases h1:AC [40] l with
 |err e=>rw [h1] at h;simp [Res.bind] at h
 |ok _ r1=>
  rw [h1] at h;simp only [Res.bind] at h;cases h2:BO n g r1 with
  |err e=>rw [h2] at h;simp at h
  |ok y r2=>
   rw [h2] at h;simp only at h;cases h3:AC [41] r2 with
   |err e=>rw [h3] at h;simp at h
   |ok _ r3=>rw [h3] at h;simp only [Res.ok.injEq] at h;obtain ⟨rfl,_⟩:=h;exact ABQ h2
def UL (nm:Bs)(x:List TCol×List Bs)(r:List Tok):Res TStmt:=if x.1.isEmpty then bad r else (AC [41] r).bind λ_ r=>.ok {(default:TStmt) with fKind:=5,fTable:=nm,fCols:=x.1,fKey:=x.2} r
theorem ABN (n:Nat)(l:List Tok):MK n l=(Aq l).bind λs r=>(AC [40] r).bind λ_ r=>(FV n (n+1) [] [] r).bind (UL s):=rfl
def Ju (n:Nat)(cs:List TCol)(ks:List Bs)(l:List Tok):Res (List TCol×List Bs):=
 if (ks.isEmpty&&isT l [112,114,105,109,97,114,121])=true then (AC [107,101,121] l.tail).bind λ_ r=>(CE n Aq r).bind λk r=>.ok (cs,k) r else (Es n l).bind λc r=>Res.ok (cs++[c],ks) r
theorem Ot (n m:Nat)(cs:List TCol)(ks:List Bs)(l:List Tok):FV n (m+1) cs ks l=(Ju n cs ks l).bind λx r=>if isT r [44] then FV n m x.1 x.2 r.tail else .ok x r:=rfl
theorem AQx {I:Imm}{L:LH}{K:Value→M}{x:TCol}{c:List Value}(hc:TColV I x c)(hk:∀I' a,Ext I I'→RL TColV 16 I' [] (.slice a 1 1) [x]→Gh (K (.slice a 1 1)) I' L):
  AB 130 16 #[.string ⟨#[]⟩,.int .i64 0,.bool false,.bool false,.bool false,.int .i64 0,.int .i64 0,.bool false,.int .i64 0,.string ⟨#[]⟩,.string ⟨#[]⟩,.string ⟨#[]⟩,.int .i64 0,.int .i64 0,.bool false,.slice none 0 0] 1 [(0,.agg c.toArray)] (gh K) I L:=
 Eu (R:=TColV) [x] [c] rfl rfl rfl (by simpa using hc.len) (by simpa using hc) (λhI h=>TColV.mono h hI) hk
section
variable {ω:Om}{b:Nat}
theorem QA (n:Nat)(hn0:n≤1000000000){I:Imm}{L:LH}{K Pn:Value→M}{C:Obj→LH}{v:Value}{l:List Tok}[hF:Foc b L (PBo v) C](h:TL I v l)(hT:Toks l)(hl:l.length≤n)
  (hok:∀x r,CE n Aq l= .ok x r→Toks r→r.length≤l.length→∀I' v' a k,Ext I I'→TL I' v' r→StL I' (.slice (some a) x.length k) x→0 < x.length→K (.slice (some a) x.length k) I' (C (PBo v'))) (herr:PEr (CE n Aq l) Pn C I):CalP Tryz.prog ω 189 #[Ac b] K Pn I L:=
 Xl n hn0 h hT hl (λx r hg hT' hr I' v' w hI hv' hw=>by
  have hpos:=ABF hg;rcases RL.nn zx hw.1 hpos with ⟨h0,_⟩|⟨_,p,k,rfl⟩
  ·omega
  ·exact hok x r hg hT' hr I' v' p k hI hv' hw.1 hpos) herr
theorem AQn {I:Imm}{X L1 L2:LH}{Kn1:Unit→M}{K Pn:Value→M}{v w wk:Value}{l:List Tok}{b1 bs N0:Nat}{nm:Bs}{cs:List TCol}{ks:List Bs}{cells:List Value}(h:TL I v l)(hT:Toks l)(hN:l.length≤N0)
  (hX:SlO 130 16 X w cells cs.length) (hR:Recs (TColV I) 16 cs cells) (hw:Nv w cs.length) (hk:StL I wk ks) (hkn:Nv wk ks.length)
  (hnext:isT l [44]=true→∀v,TL I v l.tail→Gh (Kn1 ()) I (X++((bs,.cells (XI nm w wk).toArray 76 (0,0))::(b1,.cells stZ.toArray 76 (0,0))::(L1++(b,PBo v)::L2))))
  (hok:isT l [44]=false→VOk TStmtV (UL nm (cs,ks) l) N0 K (λo=>L1++(b,o)::L2) I) (herr:isT l [44]=false→PEr (UL nm (cs,ks) l) Pn (λo=>L1++(b,o)::L2) I):
  Kv ω (Ac b) (Ac b1) (Ac bs) (λs=>Gh (Kn1 s)) (λv=>Gh (K v)) (λv=>Gh (Pn v)) I (X++((bs,.cells (XI nm w wk).toArray 76 (0,0))::(b1,.cells stZ.toArray 76 (0,0))::(L1++(b,PBo v)::L2))):=by
 unfold Kv;refine Ai (Bo [44] h hT (λhb hT' hl' v' hv'=>?_) (λhb=>?_))
 ·repeat' (first|refine zqa ?_|refine zqh (λ_=>?_)|refine zqr ?_|refine zqb ?_|refine zqi ?_ ?_|refine zqc ?_|refine zqg (λ_=>?_) (λ_=>?_)|refine zqe ?_|fail)
  exact hnext hb v' hv'
 have hok:=hok hb;have herr:=herr hb;have hl1:=hT.len;rcases hw with ⟨h0,rfl⟩|⟨h0,p,kc,rfl⟩
 ·have hcs:cs=[]:=zQ h0;subst hcs;repeat' (first|refine zqa ?_|refine zqh (λ_=>?_)|refine zqr ?_|refine zqb ?_|(with_reducible first|refine BJ (sh236_5.eq_1 ..) ?_|refine And.intro ?_ ?_)|refine zqc ?_|refine zqg (λ_=>?_) (λ_=>?_)|refine zqe ?_|fail)
  refine AU (Ae h hT ?_);exact zAG (L1++(b,PBo v)::L2) (zAA (herr _ rfl I v (zAC _)))
 ·have hce:cs.isEmpty=false:=by cases cs with
   |nil=>simp at h0
   |cons=>rfl
  obtain ⟨ak,kk,rfl⟩:=zAH hk;repeat' (first|(with_reducible first|refine Bl (b:=b) ?_|refine keepA ?_|refine Am (λ_=>?_))|(with_reducible refine Ai ?_;refine Bo _ zT zA (λhb hT' hl' v' hv'=>?_) (λhb=>?_))|(with_reducible refine Bd _ zT zA (λhb hT' hl' I' v' hI' hv'=>?_) (λhb I' v' hI'=>?_))|(with_reducible refine AU ?_;refine CQ zT zA (λhb hT' hl' v' hv'=>?_) (λhb=>?_))|(with_reducible refine AU ?_;refine Ae zT zA ?_)|(with_reducible first|refine Ci zC (λI' a hI' hw'=>zAA ?_)|refine CJ zC zC (λI' a hI' hw'=>zAA ?_)|refine DF zC zC zC (λI' a hI' hw'=>zAA ?_))|(with_reducible refine Ai ?_;refine BC zC ?_)|refine zqr ?_|refine zqb ?_|(with_reducible first|refine BJ (sh236_5.eq_1 ..) ?_|refine BJ (sh236_6.eq_1 ..) ?_|refine And.intro ?_ ?_)|refine zqc ?_|refine zqg (λhb=>?_) (λhb=>?_)|refine zqe ?_|fail)
  ·refine zAG (X++(L1++(b,PBo v')::L2)) ?_;refine RL.ofO (R:=TColV) (λ{I I' x c} h hI=>TColV.mono h hI) hX (Recs.imp (λ_ _ h=>TColV.mono h zE) hR) (λI3 hI3 hw=>zAA ?_);exact hok {(default:TStmt) with fKind:=5,fTable:=nm,fCols:=cs,fKey:=ks} _ (by simp [UL,hce,AC,hb,Res.bind] <;> rfl) zA zo I3 _ _ zE zT ⟨_,_,_,_,_,_,_,_,_,_,_,_,_,rfl,zAD none 0,zAD none 0,zAD none 0,zAD none 0,zAD none 0,zAD none 0,zAD none 0,zAD none 0,zAD none 0,zAD none 0,hw,(StL.mono hk zE),zAD none 0⟩
  ·exact zAG (L1++(b,PBo v')::L2) (zAA (herr _ (by simp [UL,hce,AC,hb,Res.bind,bad]) I' v' zE))
theorem ADF (n:Nat)(hn0:n≤1000000000){I:Imm}{X L1 L2:LH}{Kn1:Unit→M}{K Pn:Value→M}{v w wk:Value}{l:List Tok}{b1 bs N0:Nat}{nm:Bs}{cs:List TCol}{ks:List Bs}{cells:List Value}(h:TL I v l)(hT:Toks l)(hl:l.length≤n)(hN:l.length≤N0)
  (hX:SlO 130 16 X w cells cs.length) (hR:Recs (TColV I) 16 cs cells) (hcs:cs.length≤1000000001) (hw:Nv w cs.length) (hk:StL I wk ks) (hkn:Nv wk ks.length)
  (hnext:∀cs' ks' r,Ju n cs ks l= .ok (cs',ks') r→isT r [44]=true→Toks r.tail→r.tail.length+1≤l.length→cs'.length≤cs.length+1→∀I' X v w wk cells,Ext I I'→TL I' v r.tail→SlO 130 16 X w cells cs'.length→Recs (TColV I') 16 cs' cells→Nv w cs'.length→StL I' wk ks'→Nv wk ks'.length→Gh (Kn1 ()) I' (X++((bs,.cells (XI nm w wk).toArray 76 (0,0))::(b1,.cells stZ.toArray 76 (0,0))::(L1++(b,PBo v)::L2))))
  (hok:∀x r,Ju n cs ks l= .ok x r→isT r [44]=false→VOk TStmtV (UL nm x r) N0 K (λo=>L1++(b,o)::L2) I) (herr:PEr ((Ju n cs ks l).bind λx r=>if isT r [44] then .ok default [] else UL nm x r) Pn (λo=>L1++(b,o)::L2) I):
  TK ω (Ac b) (Ac b1) (Ac bs) (λs=>Gh (Kn1 s)) (λv=>Gh (K v)) (λv=>Gh (Pn v)) I (X++((bs,.cells (XI nm w wk).toArray 76 (0,0))::(b1,.cells stZ.toArray 76 (0,0))::(L1++(b,PBo v)::L2))):=by
 have hl1:=hT.len;unfold TK;have hcol:=ACd (ω:=ω) (b:=b) n;have ext:∀{I':Imm} {v' wk':Value} {l':List Tok} {ks':List Bs} {X':LH} {w':Value} {cells':List Value} {cs':List TCol},Ext I I'→TL I' v' l'→Toks l'→l'.length≤l.length→Ju n cs ks l= .ok (cs',ks') l'→cs'.length≤cs.length+1→SlO 130 16 X' w' cells' cs'.length→Recs (TColV I') 16 cs' cells'→Nv w' cs'.length→StL I' wk' ks'→Nv wk' ks'.length→
   Kv ω (Ac b) (Ac b1) (Ac bs) (λs=>Gh (Kn1 s)) (λv=>Gh (K v)) (λv=>Gh (Pn v)) I' (X'++((bs,.cells (XI nm w' wk').toArray 76 (0,0))::(b1,.cells stZ.toArray 76 (0,0))::(L1++(b,PBo v')::L2))):=by
  intro I' v' wk' l' ks' X' w' cells' cs' hI' hTL' hT' hl' hg hcl hX' hR' hw' hk' hkn';refine AQn (N0:=N0) hTL' hT' zo hX' hR' hw' hk' hkn' (λhb v2 hv2=>?_) (λhb x r hx hTr hr I2 v2 c hI2 hv2 hc=>?_) (λhb e hx I2 v2 hI2=>?_)
  ·exact hnext _ _ _ hg hb (hT'.tailT hb) (by have:=hT'.len;omega) hcl I' _ _ _ _ _ hI' hv2 hX' hR' hw' hk' hkn'
  ·exact hok _ _ hg hb x r hx hTr hr I2 v2 c (zAB hI' hI2) hv2 hc
  ·exact herr e (by rw [hg];simp [Res.bind,hb,hx]) I2 v2 (zAB hI' hI2)
 have col:ks.isEmpty=false∨isT l [112,114,105,109,97,114,121]=false→OA ω (Ac b) (Ac b1) (Ac bs) (λs=>Gh (Kn1 s)) (λv=>Gh (K v)) (λv=>Gh (Pn v)) I (X++((bs,.cells (XI nm w wk).toArray 76 (0,0))::(b1,.cells stZ.toArray 76 (0,0))::(L1++(b,PBo v)::L2))):=by
  intro hcase;have hnx:Ju n cs ks l=(Es n l).bind λc r=>Res.ok (cs++[c],ks) r:=by
   rcases hcase with hc|hc <;> simp [Ju,hc]
  unfold OA;refine Bl (b:=b) ?_;try refine zqe ?_
  refine BM ?_;refine AU (hcol.go h hT hl (λx r hg hT3 hr I3 v3 c hI3 hv3 hc=>?_) (λe hg I3 v3 hI3=>zAG (L1++(b,PBo v3)::L2) (zAA (herr e (by rw [hnx];simp [Res.bind,hg]) I3 v3 hI3))));refine Dc hI3 ?_;refine AQx hc (λI4 a4 hI4 hw4=>zAA ?_);refine Dc (zAB hI3 hI4) ?_;obtain ⟨c4,s4,r4⟩:=RL.toI zx hw4;refine BQ (X:=X) rfl hX s4.news (r4.one_cells λx c h=>TColV.one h) zL zL (λX5 w5 hX5=>?_);have e5:cs.length+[x].length=(cs++[x]).length:=by simp
  rw [e5] at hX5;have hR5:=Recs.append (Recs.imp (R':=TColV I4) (λ_ _ h=>TColV.mono h (zAB hI3 hI4)) hR) r4;have hn5:=SlO.nn hX5 zy;obtain ⟨a5,k5,rfl⟩:=hX5.form;repeat' (first|refine zqa ?_|refine zqh (λ_=>?_)|refine zqr ?_|refine zqb ?_|refine zqi ?_ ?_|refine zqc ?_|refine zqg (λ_=>?_) (λ_=>?_)|refine zqe ?_|fail)
  exact ext (zAB hI3 hI4) (hv3.mono hI4) hT3 hr (by rw [hnx];simp [Res.bind,hg]) zy hX5 hR5 hn5 (hk.mono (zAB hI3 hI4)) hkn
 rcases hkn with ⟨h0,rfl⟩|⟨h0,p,kc,rfl⟩
 ·have hks:ks=[]:=zQ h0;subst hks;have hw3:=hw;rcases hw3 with ⟨_,hw3⟩|⟨_,pw,kw,hw3⟩ <;> subst hw3
  all_goals repeat' (first|(with_reducible first|refine Bl (b:=b) ?_|refine keepA ?_|refine Am (λ_=>?_))|(with_reducible refine AU ?_;refine QA n hn0 zT zA zo (λx r hg hT3 hr I' v' a' k' hI' hv' hw' hpos=>?_) (λe hg I' v' hI'=>?_))|(with_reducible refine Ai ?_;refine Bo _ zT zA (λhb hT' hl' v' hv'=>?_) (λhb=>?_))|(with_reducible refine Bd _ zT zA (λhb hT' hl' I' v' hI' hv'=>?_) (λhb I' v' hI'=>?_))|(with_reducible refine AU ?_;refine CQ zT zA (λhb hT' hl' v' hv'=>?_) (λhb=>?_))|(with_reducible refine AU ?_;refine Ae zT zA ?_)|(with_reducible first|refine Ci zC (λI' a hI' hw'=>zAA ?_)|refine CJ zC zC (λI' a hI' hw'=>zAA ?_)|refine DF zC zC zC (λI' a hI' hw'=>zAA ?_))|(with_reducible refine Ai ?_;refine BC zC ?_)|refine zqr ?_|refine zqb ?_|(with_reducible first|refine BJ (sh236_2.eq_1 ..) ?_|refine And.intro ?_ ?_)|refine zqc ?_|refine zqg (λhb=>?_) (λhb=>?_)|refine zqe ?_|fail)
  all_goals first
   |exact col (.inr zA)
   |exact ext (by first|exact zAC _|exact zE) zT zA zo (by simp [Ju,AC,Res.bind, *]) zo hX (Recs.imp (λ_ _ h=>TColV.mono h zE) hR) hw hw' (.inr ⟨by assumption,_,_,rfl⟩)
   |exact zAG (L1++(b,PBo v')::L2) (zAA (herr _ (by simp [Ju,AC,Res.bind,bad, *] <;> rfl) _ _ zE))
 ·have hke:ks.isEmpty=false:=by cases ks with
   |nil=>simp at h0
   |cons=>rfl
  repeat' (first|refine zqa ?_|refine zqh (λ_=>?_)|refine zqr ?_|refine zqb ?_|refine zqi ?_ ?_|refine zqc ?_|refine zqg (λ_=>?_) (λ_=>?_)|refine zqe ?_|fail)
  exact col (.inl hke)
theorem ADE (n:Nat)(hn0:n≤1000000000):FnV ω n b 236 (MK n) TStmtV:=by
 intro K Pn I L C v l hF h hT hl hok herr;obtain ⟨L1,L2,rfl,rfl⟩:=hF.foc;rw [ABN] at hok herr;refine ANG ?_;unfold AJZ;refine Am (λb1=>?_);refine AU (CQ h hT (λhn hT1 hl1 v1 hv1=>?_) (λhn=>zAG (L1++(b,PBo v)::L2) (zAA (herr (hd l).at' (by simp [Aq,Res.bind,bad,hn]) I v (zAC _)))));try refine zqe ?_
 refine Am (λbs=>?_);repeat' (first|refine zqa ?_|refine zqh (λ_=>?_)|refine zqr ?_|refine zqb ?_|refine zqi ?_ ?_|refine zqc ?_|refine zqg (λ_=>?_) (λ_=>?_)|refine zqe ?_|fail)
 refine Bd [40] hv1 hT1 (λhw hT2 hl2 I2 v2 hI2 hv2=>?_) (λhw I2 v2 hI2=>zAG (L1++(b,PBo v2)::L2) (zAA (herr (hd l.tail).at' (by simp [Aq,Res.bind,bad,hn,AC,hw]) I2 v2 hI2)));have e:∀{x},x=((Aq l).bind λs r=>(AC [40] r).bind λ_ r=>(FV n (n+1) [] [] r).bind (UL s))↔x=(FV n (n+1) [] [] l.tail.tail).bind (UL (hd l).text):=by
  intro x;simp [Aq,Res.bind,hn,AC,hw]
 have e:=e.1 rfl;rw [e] at hok herr;clear e;refine loop (λm s I3 Lx=>∃X v l2 w wk cells cs ks f,l2.length=m∧Ext I I3∧Lx=X++((bs,.cells (XI (hd l).text w wk).toArray 76 (0,0))::(b1,.cells stZ.toArray 76 (0,0))::(L1++(b,PBo v)::L2))∧TL I3 v l2∧Toks l2∧SlO 130 16 X w cells cs.length∧Recs (TColV I3) 16 cs cells∧Nv w cs.length∧StL I3 wk ks∧Nv wk ks.length∧l2.length≤f∧cs.length+l2.length≤l.length∧FV n (n+1) [] [] l.tail.tail=FV n f cs ks l2) l.tail.tail.length
  ⟨[],v2,l.tail.tail,.slice none 0 0,.slice none 0 0,[],[],[],n+1,rfl,hI2,rfl,hv2,hT2,zAN _ _,rfl,.inl ⟨rfl,rfl⟩,zAD none 0,.inl ⟨rfl,rfl⟩,by omega,by simp;omega,rfl⟩ ?_
 rintro m s I3 Lx ⟨X,v3,l2,w,wk,cells,cs,ks,f,rfl,hI3,rfl,hTL,hT3,hX,hR,hw3,hk,hkn,hf,hlen,hm⟩;have hl3:=hT3.len;obtain ⟨f,rfl⟩:∃k,f=k+1:=⟨f - 1,by omega⟩;rw [hm,Ot,FO] at hok herr;rw [Ot n f cs ks l2] at hm;refine ADF n hn0 (N0:=l.length) hTL hT3 zo zo hX hR zo hw3 hk hkn (λcs' ks' r hg hb hTr hr hcl I4 X4 v4 w4 wk4 cells4 hI4 hv4 hX4 hR4 hw4 hk4 hkn4=>?_) (λx r hg hb y q hy hTq hq I4 v4 c hI4 hv4 hc=>?_) (λe hg I4 v4 hI4=>?_)
 ·exact zAA ⟨r.tail.length,by omega,X4,v4,r.tail,w4,wk4,cells4,cs',ks',f,rfl,zAB hI3 hI4,rfl,hv4,hTr,hX4,hR4,hw4,hk4,hkn4,by omega,by omega,by rw [hm,hg];simp only [Res.bind,hb,if_true]⟩
 ·exact hok y q (by simp [hg,Res.bind,hb,hy]) hTq hq I4 v4 c (zAB hI3 hI4) hv4 hc
 ·refine herr e ?_ I4 v4 (zAB hI3 hI4);cases hx:Ju n cs ks l2 with
  |err e'=>rw [hx] at hg;simpa [Res.bind] using hg
  |ok x r=>
   rw [hx] at hg;cases hb:isT r [44] with
   |true=>simp [Res.bind,hb] at hg
   |false=>simpa [Res.bind,hb] using hg
end
section
variable {ω:Om}{b:Nat}
theorem AEe (n:Nat)(hn0:n≤1000000000)(hE:FnE ω n b 227 (eP n)){I:Imm}{L:LH}{K Pn:Value→M}{C:Obj→LH}{v:Value}{l:List Tok}[hF:Foc b L (PBo v) C](h:TL I v l)(hT:Toks l)(hl:l.length≤n)
  (hok:∀x r,Ha n l= .ok x r→Toks r→r.length≤l.length→∀I' v' a0 k0 a1 k1 a2 k2 a3 k3 a4 k4 a5 k5,Ext I I'→TL I' v' r→RL TItemV 14 I' [] (.slice a0 x.fItems.length k0) x.fItems→RL TSourceV 14 I' [] (.slice a1 x.fFrom.length k1) x.fFrom→ExL I' (.slice a2 x.fWhere.args.length k2) x.fWhere.args→RL ExV 11 I' [] (.slice a3 x.fGroup.length k3) x.fGroup→ExL I' (.slice a4 x.fHaving.args.length k4) x.fHaving.args→RL TOrderV 12 I' [] (.slice a5 x.fOrder.length k5) x.fOrder→K (.agg #[.bool x.fDistinct,.slice a0 x.fItems.length k0,.slice a1 x.fFrom.length k1,.int .i64 x.fWhere.kind,.int .i64 x.fWhere.value.fType,.bool x.fWhere.value.fNull,.int .i64 x.fWhere.value.fInt,.string ⟨x.fWhere.value.fText.toArray⟩,.string ⟨x.fWhere.table.toArray⟩,.string ⟨x.fWhere.name.toArray⟩,.int .i64 x.fWhere.slot,.int .i64 x.fWhere.type,.bool x.fWhere.distinct,.slice a2 x.fWhere.args.length k2,.slice a3 x.fGroup.length k3,.int .i64 x.fHaving.kind,.int .i64 x.fHaving.value.fType,.bool x.fHaving.value.fNull,.int .i64 x.fHaving.value.fInt,.string ⟨x.fHaving.value.fText.toArray⟩,.string ⟨x.fHaving.table.toArray⟩,.string ⟨x.fHaving.name.toArray⟩,.int .i64 x.fHaving.slot,.int .i64 x.fHaving.type,.bool x.fHaving.distinct,.slice a4 x.fHaving.args.length k4,.slice a5 x.fOrder.length k5,.int .i64 x.fLimit,.int .i64 x.fOffset]) I' (C (PBo v')))
  (herr:PEr (Ha n l) Pn C I):CalP Tryz.prog ω 186 #[Ac b] K Pn I L:=by
 refine (AEf n hn0 hE).go h hT hl (λx r hg hT' hr I' v' c hI' hv' hc=>?_) herr;obtain ⟨v0,v1,v2,v3,v4,v5,rfl,h0,h1,h2,h3,h4,h5⟩:=hc;obtain ⟨a0,k0,rfl⟩:=zAH h0;obtain ⟨a1,k1,rfl⟩:=zAH h1;obtain ⟨a2,k2,rfl⟩:=zAH h2;obtain ⟨a3,k3,rfl⟩:=zAH h3;obtain ⟨a4,k4,rfl⟩:=zAH h4;obtain ⟨a5,k5,rfl⟩:=zAH h5;exact hok x r hg hT' hr I' v' a0 k0 a1 k1 a2 k2 a3 k3 a4 k4 a5 k5 hI' hv' h0 h1 h2 h3 h4 h5
theorem row_one (n:Nat)(hn0:n≤1000000000)(hE:FnE ω n b 227 (eP n)){I:Imm}:OneP ω n b (CE n (eP n)) (AQh ExV 11) (.func (.func 191) #[Ac b] #[]) I:=by
 intro K Pn I' L C v l hF hI h hT hl hok herr;refine Lj (by kernel_rfl) (VK n hn0 hE h hT hl (λx r hg hT' hr I' v' w hI hv' hw=>hok x r hg hT' hr I' v' w hI hv' hw.1) herr)
theorem ACW (n:Nat)(hn0:n≤1000000000):FnV ω n b 195 (FQ n) TStmtV:=by
 intro K Pn I L C v l hF h hT hl hok herr;obtain ⟨L1,L2,rfl,rfl⟩:=hF.foc;have hTb:=ADE (ω:=ω) (b:=b) n hn0;refine ANj ?_;unfold AJv;have hl0:=hT.len;repeat' (first|(with_reducible first|refine Bl (b:=b) ?_|refine keepA ?_|refine Am (λ_=>?_))|(with_reducible refine AU ?_;refine hTb.go zT zA zo (λx r hg hT3 hr I' v' c hI' hv' hc=>?_) (λe hg I' v' hI'=>?_))|(with_reducible refine AU ?_;refine QA n hn0 zT zA zo (λx r hg hT3 hr I' v' a' k' hI' hv' hw' hpos=>?_) (λe hg I' v' hI'=>?_))|((with_reducible refine stB ?_ ?_ ?_ ?_);exact TStmtV.len zA;rfl;exact TStmtV.one zA)|((with_reducible refine rdB ?_ ?_);exact TStmtV.len zA)|(with_reducible refine Ai ?_;refine Bo _ zT zA (λhb hT' hl' v' hv'=>?_) (λhb=>?_))|(with_reducible refine Bd _ zT zA (λhb hT' hl' I' v' hI' hv'=>?_) (λhb I' v' hI'=>?_))|(with_reducible refine AU ?_;refine CQ zT zA (λhb hT' hl' v' hv'=>?_) (λhb=>?_))|(with_reducible refine AU ?_;refine Ae zT zA ?_)|(with_reducible first|refine Ci zC (λI' a hI' hw'=>zAA ?_)|refine CJ zC zC (λI' a hI' hw'=>zAA ?_)|refine DF zC zC zC (λI' a hI' hw'=>zAA ?_))|(with_reducible refine Ai ?_;refine BC zC ?_)|refine zqr ?_|refine zqb ?_|refine zqi ?_ ?_|refine zqc ?_|refine zqg (λhb=>?_) (λhb=>?_)|refine zqe ?_|fail)
 all_goals first
  |exact zAG (L1++(b,PBo v')::L2) (zAA (herr _ (by simp [FQ,Aq,Res.bind,bad,AC, *] <;> rfl) _ _ zE))
  |exact zAG (L1++(b,PBo v')::L2) (zAA (hok x _ (by simp [FQ,Res.bind, *] <;> rfl) zA zo _ _ _ zE zT zA))
  |exact zAG (L1++(b,PBo v')::L2) (zAA (hok {(default:TStmt) with fKind:=6,fIndex:=⟨(hd l.tail.tail).text,(hd l.tail.tail.tail.tail).text,x,true⟩} _ (by simp [FQ,Aq,AC,Res.bind, *] <;> rfl) zA zo _ _ _ zE zT ⟨_,_,_,_,_,_,_,_,_,_,_,_,_,rfl,zAD none 0,zAD none 0,zAD none 0,zAD none 0,zAD none 0,zAD none 0,zAD none 0,zAD none 0,zAD none 0,zAD none 0,zAD none 0,zAD none 0,(StL.mono hw' zE)⟩))
  |exact zAG (L1++(b,PBo v')::L2) (zAA (hok {(default:TStmt) with fKind:=6,fIndex:=⟨(hd l.tail).text,(hd l.tail.tail.tail).text,x,false⟩} _ (by simp [FQ,Aq,AC,Res.bind, *] <;> rfl) zA zo _ _ _ zE zT ⟨_,_,_,_,_,_,_,_,_,_,_,_,_,rfl,zAD none 0,zAD none 0,zAD none 0,zAD none 0,zAD none 0,zAD none 0,zAD none 0,zAD none 0,zAD none 0,zAD none 0,zAD none 0,zAD none 0,(StL.mono hw' zE)⟩))
theorem ABO (n:Nat)(hn0:n≤1000000000)(hE:FnE ω n b 227 (eP n)){I:Imm}{L:LH}{K Pn:Value→M}{C:Obj→LH}{v:Value}{l:List Tok}[hF:Foc b L (PBo v) C](h:TL I v l)(hT:Toks l)(hl:l.length≤n)
  (hok:VOk TStmtV (EF n l) (l.length - 1) K C I) (herr:PEr (EF n l) Pn C I):CalP Tryz.prog ω 153 #[Ac b] K Pn I L:=by
 obtain ⟨L1,L2,rfl,rfl⟩:=hF.foc;have hCr:=ACW (ω:=ω) (b:=b) n hn0;refine AOB ?_;unfold sh153;have hl0:=hT.len;repeat' (first|(with_reducible first|refine Bl (b:=b) ?_|refine keepA ?_|refine Am (λ_=>?_))|(with_reducible refine AU ?_;refine AEe n hn0 hE zT zA zo (λx r hg hT3 hr I' v' a0 k0 a1 k1 a2 k2 a3 k3 a4 k4 a5 k5 hI' hv' h0 h1 h2 h3 h4 h5=>?_) (λe hg I' v' hI'=>?_))|(with_reducible refine AU ?_;refine hCr.go zT zA zo (λx r hg hT3 hr I' v' c hI' hv' hc=>?_) (λe hg I' v' hI'=>?_))|(with_reducible refine AU ?_;refine QA n hn0 zT zA zo (λns r1 hg1 hT4 hr1 I' v' a1 k1 hI' hv' hw1 hpos=>?_) (λe hg I' v' hI'=>?_))|(with_reducible refine Ai ?_;refine Ia _ zT zA (λhb=>?_) (λhb=>?_))|(with_reducible refine AU ?_;refine ALc n hn0 (row_one n hn0 hE) zT zA zo (LQ (λx r hg hT3 hr I' v' a' k' hI' hv' hw' hx'=>?_)) (λe hg I' v' hI'=>?_))|(with_reducible refine AU ?_;refine ALZ n hn0 ((ALi n hE).one rfl) zT zA zo (LQ (λss r1 hg1 hT4 hr1 I' v' a1 k1 hI' hv' hw1 hx1=>?_)) (λe hg I' v' hI'=>?_))|(with_reducible refine AU ?_;refine KY n hE _ zT zA zo (λy r hg hT3 hr I' v' a' k' hI' hv' hw'=>?_) (λe hg I' v' hI'=>?_))|((with_reducible refine stB ?_ ?_ ?_ ?_);exact TStmtV.len zA;rfl;exact TStmtV.one zA)|((with_reducible refine rdB ?_ ?_);exact TStmtV.len zA)|(with_reducible refine Ai ?_;refine Bo _ zT zA (λhb hT' hl' v' hv'=>?_) (λhb=>?_))|(with_reducible refine Bd _ zT zA (λhb hT' hl' I' v' hI' hv'=>?_) (λhb I' v' hI'=>?_))|(with_reducible refine AU ?_;refine CQ zT zA (λhb hT' hl' v' hv'=>?_) (λhb=>?_))|(with_reducible refine AU ?_;refine Ae zT zA ?_)|(with_reducible first|refine Ci zC (λI' a hI' hw'=>zAA ?_)|refine CJ zC zC (λI' a hI' hw'=>zAA ?_)|refine DF zC zC zC (λI' a hI' hw'=>zAA ?_))|(with_reducible refine Ai ?_;refine BC zC ?_)|refine zqr ?_|refine zqb ?_|(with_reducible first|refine BJ (sh153_1.eq_1 ..) ?_|refine BJ (sh153.eq_1 ..) ?_|refine And.intro ?_ ?_)|refine zqc ?_|refine zqg (λhb=>?_) (λhb=>?_)|refine zqe ?_|fail)
 all_goals first
  |exact zAG (L1++(b,PBo v')::L2) (zAA (herr _ (by simp [EF,Dn,Dl,Dp,Gi,Aq,AC,Res.bind,bad, *] <;> rfl) _ _ zE))
  |exact zAG (L1++(b,PBo v')::L2) (zAA (hok x _ (by simp [EF,Res.bind, *] <;> rfl) zA zo _ _ _ zE zT zA))
  |exact zAG (L1++(b,PBo v')::L2) (zAA (hok {(default:TStmt) with fKind:=1,fSelect:=x} _ (by simp [EF,Dn,Dl,Dp,Gi,Aq,AC,Res.bind, *] <;> rfl) zA zo _ _ _ zE zT ⟨_,_,_,_,_,_,_,_,_,_,_,_,_,rfl,h0,h1,h2,h3,h4,h5,zAD none 0,zAD none 0,zAD none 0,zAD none 0,zAD none 0,zAD none 0,zAD none 0⟩))
  |exact zAG (L1++(b,PBo v')::L2) (zAA (hok {(default:TStmt) with fKind:=2,fTable:=(hd l.tail.tail).text,fColumns:=ns,fRows:=x} _ (by simp [EF,Dn,Dl,Dp,Gi,Aq,AC,Res.bind, *] <;> rfl) zA zo _ _ _ zE zT ⟨_,_,_,_,_,_,_,_,_,_,_,_,_,rfl,zAD none 0,zAD none 0,zAD none 0,zAD none 0,zAD none 0,zAD none 0,(StL.mono hw1 zE),hw',zAD none 0,zAD none 0,zAD none 0,zAD none 0,zAD none 0⟩))
  |exact zAG (L1++(b,PBo v')::L2) (zAA (hok {(default:TStmt) with fKind:=2,fTable:=(hd l.tail.tail).text,fColumns:=[],fRows:=x} _ (by simp [EF,Dn,Dl,Dp,Gi,Aq,AC,Res.bind, *] <;> rfl) zA zo _ _ _ zE zT ⟨_,_,_,_,_,_,_,_,_,_,_,_,_,rfl,zAD none 0,zAD none 0,zAD none 0,zAD none 0,zAD none 0,zAD none 0,zAD none 0,hw',zAD none 0,zAD none 0,zAD none 0,zAD none 0,zAD none 0⟩))
  |exact zAG (L1++(b,PBo v')::L2) (zAA (hok {(default:TStmt) with fKind:=3,fTable:=(hd l.tail).text,fSets:=ss,fWhere:=y} _ (by simp [EF,Dn,Dl,Dp,Gi,Aq,AC,Res.bind, *] <;> rfl) zA zo _ _ _ zE zT ⟨_,_,_,_,_,_,_,_,_,_,_,_,_,rfl,zAD none 0,zAD none 0,zAD none 0,zAD none 0,zAD none 0,zAD none 0,zAD none 0,zAD none 0,(zAL (λ_ _ h=>TSetV.mono h zE) hw1 zE (λ_ h=>by cases h)),zC,zAD none 0,zAD none 0,zAD none 0⟩))
  |exact zAG (L1++(b,PBo v')::L2) (zAA (hok {(default:TStmt) with fKind:=4,fTable:=(hd l.tail.tail).text,fWhere:=y} _ (by simp [EF,Dn,Dl,Dp,Gi,Aq,AC,Res.bind, *] <;> rfl) zA zo _ _ _ zE zT ⟨_,_,_,_,_,_,_,_,_,_,_,_,_,rfl,zAD none 0,zAD none 0,zAD none 0,zAD none 0,zAD none 0,zAD none 0,zAD none 0,zAD none 0,zAD none 0,zC,zAD none 0,zAD none 0,zAD none 0⟩))
  |exact zAG (L1++(b,PBo v')::L2) (zAA (hok {(default:TStmt) with fKind:=7,fTable:=(hd l.tail.tail).text} _ (by simp [EF,Dn,Dl,Dp,Gi,Aq,AC,Res.bind, *] <;> rfl) zA zo _ _ _ zE zT ⟨_,_,_,_,_,_,_,_,_,_,_,_,_,rfl,zAD none 0,zAD none 0,zAD none 0,zAD none 0,zAD none 0,zAD none 0,zAD none 0,zAD none 0,zAD none 0,zAD none 0,zAD none 0,zAD none 0,zAD none 0⟩))
  |exact zAG (L1++(b,PBo v')::L2) (zAA (hok {(default:TStmt) with fKind:=8,fIndex:=⟨(hd l.tail.tail).text,[],[],false⟩} _ (by simp [EF,Dn,Dl,Dp,Gi,Aq,AC,Res.bind, *] <;> rfl) zA zo _ _ _ zE zT ⟨_,_,_,_,_,_,_,_,_,_,_,_,_,rfl,zAD none 0,zAD none 0,zAD none 0,zAD none 0,zAD none 0,zAD none 0,zAD none 0,zAD none 0,zAD none 0,zAD none 0,zAD none 0,zAD none 0,zAD none 0⟩))
  |exact zAG (L1++(b,PBo v')::L2) (zAA (hok {(default:TStmt) with fKind:=9} _ (by simp [EF,Dn,Dl,Dp,Gi,Aq,AC,Res.bind, *] <;> rfl) zA zo _ _ _ zE zT ⟨_,_,_,_,_,_,_,_,_,_,_,_,_,rfl,zAD none 0,zAD none 0,zAD none 0,zAD none 0,zAD none 0,zAD none 0,zAD none 0,zAD none 0,zAD none 0,zAD none 0,zAD none 0,zAD none 0,zAD none 0⟩))
  |exact zAG (L1++(b,PBo v')::L2) (zAA (hok {(default:TStmt) with fKind:=10} _ (by simp [EF,Dn,Dl,Dp,Gi,Aq,AC,Res.bind, *] <;> rfl) zA zo _ _ _ zE zT ⟨_,_,_,_,_,_,_,_,_,_,_,_,_,rfl,zAD none 0,zAD none 0,zAD none 0,zAD none 0,zAD none 0,zAD none 0,zAD none 0,zAD none 0,zAD none 0,zAD none 0,zAD none 0,zAD none 0,zAD none 0⟩))
  |exact zAG (L1++(b,PBo v')::L2) (zAA (hok {(default:TStmt) with fKind:=11} _ (by simp [EF,Dn,Dl,Dp,Gi,Aq,AC,Res.bind, *] <;> rfl) zA zo _ _ _ zE zT ⟨_,_,_,_,_,_,_,_,_,_,_,_,_,rfl,zAD none 0,zAD none 0,zAD none 0,zAD none 0,zAD none 0,zAD none 0,zAD none 0,zAD none 0,zAD none 0,zAD none 0,zAD none 0,zAD none 0,zAD none 0⟩))
end
def EE (ω:Om)(G:Imm):Prop:=∀(s:Bs) (K:Value→M) (I:Imm) (L:LH),Ext G I→s.length≤900000000→
 (∀l,AFK s= .toks l→Toks l→l.length≤s.length+1→∀I' v,Ext I I'→TL I' v l→K (.tuple #[v,.agg #[.int .i64 0,.int .i64 0]]) I' L)→
 (∀f,AFK s= .bad f→f.code≠0→∀I' a m k,Ext I I'→K (.tuple #[.slice a m k,.agg #[.int .i64 f.code,.int .i64 f.at']]) I' L)→CT ω 150 #[.string ⟨s.toArray⟩] K I L
theorem AQw {I:Imm}{L:LH}{K:Value→M}{x:TStmt}{c:List Value}(hc:TStmtV I x c)(hk:∀I' a,Ext I I'→RL TStmtV 51 I' [] (.slice a 1 1) [x]→Gh (K (.slice a 1 1)) I' L):
  AB 76 51 #[.int .i64 0,.bool false,.slice none 0 0,.slice none 0 0,.int .i64 0,.int .i64 0,.bool false,.int .i64 0,.string ⟨#[]⟩,.string ⟨#[]⟩,.string ⟨#[]⟩,.int .i64 0,.int .i64 0,.bool false,.slice none 0 0,.slice none 0 0,.int .i64 0,.int .i64 0,.bool false,.int .i64 0,.string ⟨#[]⟩,.string ⟨#[]⟩,.string ⟨#[]⟩,.int .i64 0,.int .i64 0,.bool false,.slice none 0 0,.slice none 0 0,.int .i64 0,.int .i64 0,.string ⟨#[]⟩,.slice none 0 0,.slice none 0 0,.slice none 0 0,.int .i64 0,.int .i64 0,.bool false,.int .i64 0,.string ⟨#[]⟩,.string ⟨#[]⟩,.string ⟨#[]⟩,.int .i64 0,.int .i64 0,.bool false,.slice none 0 0,.slice none 0 0,.slice none 0 0,.string ⟨#[]⟩,.string ⟨#[]⟩,.slice none 0 0,.bool false] 1 [(0,.agg c.toArray)] (gh K) I L:=
 Eu (R:=TStmtV) [x] [c] rfl rfl rfl (by simpa using hc.len) (by simpa using hc) (λhI h=>TStmtV.mono h hI) hk
theorem Um (n m:Nat)(acc:List TStmt)(l:List Tok):CV n (m+1) acc l=if isK l 6 then .ok acc l else if isT l [59] then CV n m acc l.tail else
  (EF n l).bind λs r=>if isK r 6||isT r [59] then CV n m (acc++[s]) r else Go.Proofs.YthkaekjoemhjaaaGreatDoor.bad r:=rfl
section
variable {ω:Om}
theorem AHo {I:Imm}{L1 L2:LH}{bo bf:Nat}{K:Value→M}{e:Nat}{w c a:Value}(hk:K (.tuple #[]) I (L1++((bf,.cells #[.int .i64 174,.int .i64 e] 157 (0,0))::(bo,.cells #[.slice none 0 0] 84 (0,0))::L2))):
  CalDR Tryz.prog ω 151 #[Ac bo,Ac bf] (FD e) K I (L1++((bf,.cells #[c,a] 157 (0,0))::(bo,.cells #[w] 84 (0,0))::L2)):=by
 refine AIX ?_;unfold sh151;have e1:Nk true .neq (FD e) .nilIface=some (.bool true):=rfl;have e2:WY 241 (.agg #[.int .i64 0]) (FD e)=some (.tuple #[.agg #[.int .i64 e],.bool true]):=rfl;simp only [e1,e2,SSd,Nat.reduceAdd];refine Am (λb1=>?_);repeat' (first|refine zqa ?_|refine zqh (λ_=>?_)|refine zqr ?_|refine zqb ?_|(with_reducible first|refine BJ (sh151_1.eq_1 ..) ?_|refine BJ (sh151.eq_1 ..) ?_|refine And.intro ?_ ?_)|refine zqc ?_|refine zqg (λ_=>?_) (λ_=>?_)|(simp only [SSd,Nat.reduceAdd,Ld]))
 exact zAG _ (zAA hk)
theorem ALr {I:Imm}{L:LH}{bo bf:Nat}{K:Value→M}(hk:K (.tuple #[]) I L):CalD Tryz.prog ω 151 #[Ac bo,Ac bf] K I L:=by
 refine AIZ ?_;unfold sh151;have e1:Nk true .neq .nilIface .nilIface=some (.bool false):=rfl;simp only [e1,SSd,Nat.reduceAdd];exact zAA hk
theorem ABj {G:Imm}(hTok:EE ω G)(s:Bs)(hs:s.length≤900000000){I:Imm}{L:LH}{K:Value→M}(hG:Ext G I)
  (hok:∀I' a k,Ext I I'→RL TStmtV 51 I' [] (.slice a (readA s).1.length k) (readA s).1→K (.tuple #[.slice a (readA s).1.length k,.agg #[.int .i64 (readA s).2.code,.int .i64 (readA s).2.at']]) I' L):
  CT ω 124 #[.string ⟨s.toArray⟩] K I L:=by
 refine AOM ?_;unfold AKX;refine Am (λbo=>?_);refine Am (λbf=>?_);refine Ai (hTok s _ _ _ hG hs (λl hlx hT hlen I1 v1 hI1 hv1=>?_) (λf hlx hf I1 a m k hI1=>?_))
 ·have hrd:readA s=match CV l.length (l.length+1) [] l with
    | .ok x _=>(x,ok0)
    | .err a=>([],⟨174,a⟩):=by
   simp only [readA,hlx];cases CV l.length (l.length+1) [] l <;> rfl
  obtain ⟨a,k,rfl⟩:=zAH hv1;repeat' (first|refine zqa ?_|refine zqh (λ_=>?_)|refine zqr ?_|refine zqb ?_|refine zqi ?_ ?_|refine zqc ?_|refine zqg (λ_=>?_) (λ_=>?_)|refine zqe ?_|fail)
  rename_i bp
  have bad:∀(e:Nat) {I2:Imm} {X:LH} {vp w c d:Value},Ext I1 I2→CV l.length (l.length+1) [] l= .err e→CalDR Tryz.prog ω 151 #[Ac bo,Ac bf] (FD e) (gh λ_=>Rv none (BN (Ac bo)) λv25=>Rv none (AO 2 (Ac bf)) λv26=>Gh (K (.tuple #[v25,v26]))) I2 (X++((bp,PBo vp)::((bf,.cells #[c,d] 157 (0,0))::(bo,.cells #[w] 84 (0,0))::L))):=by
   intro e I2 X vp w c d hI2 hg;rw [hg] at hrd;have:=AHo (ω:=ω) (L1:=X++[(bp,PBo vp)]) (L2:=L) (bo:=bo) (bf:=bf) (e:=e) (w:=w) (c:=c) (a:=d) (I:=I2) (K:=gh λ_=>Rv none (BN (Ac bo)) λv25=>Rv none (AO 2 (Ac bf)) λv26=>Gh (K (.tuple #[v25,v26])));simp only [zi,List.singleton_append] at this;refine this (zAA ?_);refine rdb ?_;refine rdB rfl ?_;refine zAG L (zAA ?_);rw [hrd] at hok;exact hok I2 none 0 (zAB hI1 hI2) (zAD none 0)
  refine loop (λm s I2 Lx=>∃X v l2 w cells xs f,l2.length=m∧Ext I1 I2∧Lx=X++((bp,PBo v)::((bf,.cells #[.int .i64 0,.int .i64 0] 157 (0,0))::(bo,.cells #[w] 84 (0,0))::L))∧TL I2 v l2∧Toks l2∧SlO 76 51 X w cells xs.length∧Recs (TStmtV I2) 51 xs cells∧l2.length≤f∧xs.length+l2.length≤l.length∧CV l.length (l.length+1) [] l=CV l.length f xs l2) l.length
   ⟨[],_,l,.slice none 0 0,[],[],l.length+1,rfl,zAC _,rfl,hv1,hT,zAN _ _,rfl,by omega,by simp,rfl⟩ ?_
  rintro m s I2 Lx ⟨X,v2,l2,w,cells,xs,f,rfl,hI2,rfl,hTL,hT2,hX,hR,hf,hlen2,hm⟩;have hl2:=hT2.len;obtain ⟨f,rfl⟩:∃q,f=q+1:=⟨f - 1,by omega⟩;obtain ⟨aw,kw,rfl⟩:=hX.form;unfold AAJ;obtain ⟨bt,off,h1,h2⟩:=hTL.hd hT2;have step:∀{I3:Imm} {X:LH} {v3 w3:Value} {cells3:List Value} {xs3:List TStmt} {l3:List Tok} {f3:Nat},Ext I2 I3→TL I3 v3 l3→Toks l3→l3.length < l2.length→SlO 76 51 X w3 cells3 xs3.length→Recs (TStmtV I3) 51 xs3 cells3→l3.length≤f3→xs3.length+l3.length≤l.length→CV l.length (l.length+1) [] l=CV l.length f3 xs3 l3→
    Gh (λI2 L'=>∃m',m' < l2.length∧∃X v l2 w cells xs f,l2.length=m'∧Ext I1 I2∧L'=X++((bp,PBo v)::((bf,.cells #[.int .i64 0,.int .i64 0] 157 (0,0))::(bo,.cells #[w] 84 (0,0))::L))∧TL I2 v l2∧Toks l2∧SlO 76 51 X w cells xs.length∧Recs (TStmtV I2) 51 xs cells∧l2.length≤f∧xs.length+l2.length≤l.length∧CV l.length (l.length+1) [] l=CV l.length f xs l2) I3 (X++((bp,PBo v3)::((bf,.cells #[.int .i64 0,.int .i64 0] 157 (0,0))::(bo,.cells #[w3] 84 (0,0))::L))):=
   λ{I3 X v3 w3 cells3 xs3 l3 f3} hI3 hv3 hT3 hlt hX3 hR3 hf3 hs3 hm3=>zAA ⟨l3.length,hlt,X,v3,l3,w3,cells3,xs3,f3,rfl,zAB hI2 hI3,rfl,hv3,hT3,hX3,hR3,hf3,hs3,hm3⟩
  rw [Um l.length f xs l2] at hm;repeat' (first|refine zqa ?_|refine zqh (λ_=>?_)|((with_reducible refine rd1 (v:=.int .i64 (hd l2).kind) ?_ ?_);exact (h2 _ [] (zAC _) 0 _ rfl).mono (zAC _) (λ_ h=>by cases h))|refine zqr ?_|refine zqb ?_|refine zqi ?_ ?_|refine zqc ?_|refine zqg (λ_=>?_) (λ_=>?_)|(simp only [SSd,Nat.reduceAdd,h1]))
  ·rename_i hk
   have hk:isK l2 6=false:=by simpa [isK] using hk
   refine Ai (Bo [59] hTL hT2 (λhb hT3 hl3 v3 hv3=>?_) (λhb=>?_))
   ·repeat' (first|refine zqa ?_|refine zqh (λ_=>?_)|refine zqr ?_|refine zqb ?_|refine zqi ?_ ?_|refine zqc ?_|refine zqg (λ_=>?_) (λ_=>?_)|refine zqe ?_|fail)
    exact step (f3:=f) (zAC _) hv3 hT3 zo hX hR zo zo (by rw [hm];simp [hk,hb])
   try refine zqe ?_
   refine Bl (b:=bp) ?_;refine BM ?_;refine AU (ABO l.length zo (exprs ω bp l.length zo).1 hTL hT2 zo (λy r hg hTr hr I3 v3 c hI3 hv3 hc=>?_) (λe hg I3 v3 hI3=>bad e (zAB hI2 hI3) (by rw [hm];simp [hk,hb,hg,Res.bind])));refine Dc hI3 ?_;refine AQw hc (λI4 a4 hI4 hw4=>zAA ?_);refine Dc (zAB hI3 hI4) ?_;obtain ⟨c4,s4,r4⟩:=RL.toI zx hw4;refine BQ (X:=X) rfl hX s4.news (r4.one_cells λx c h=>TStmtV.one h) zL zL (λX5 w5 hX5=>?_);have e5:xs.length+[y].length=(xs++[y]).length:=by simp
   rw [e5] at hX5;have hR5:=Recs.append (Recs.imp (R':=TStmtV I4) (λ_ _ h=>TStmtV.mono h (zAB hI3 hI4)) hR) r4;obtain ⟨a5,k5,rfl⟩:=hX5.form;have hv4:=hv3.mono hI4;obtain ⟨bt4,off4,h14,h24⟩:=hv4.hd hTr;have next:isK r 6=true∨isT r [59]=true→_:=λhc=>step (l3:=r) (f3:=f) (xs3:=xs++[y]) (zAB hI3 hI4) hv4 hTr zo hX5 hR5 zo zu (by rw [hm];simp [hk,hb,hg,Res.bind];intro h1 h2;rw [h1,h2] at hc;simp at hc);repeat' (first|refine zqa ?_|refine zqh (λ_=>?_)|((with_reducible refine rd1 (v:=.int .i64 (hd r).kind) ?_ ?_);exact (h24 _ [] (zAC _) 0 _ rfl).mono (zAC _) (λ_ h=>by cases h))|(with_reducible refine Ai ?_;refine Ia _ hv4 hTr (λhb2=>?_) (λhb2=>?_))|refine zqr ?_|refine zqb ?_|refine zqi ?_ ?_|refine zqc ?_|refine zqg (λ_=>?_) (λ_=>?_)|(simp only [SSd,Nat.reduceAdd,h14]))
   ·exact next (.inr hb2)
   ·rename_i hk6
    have hk6:isK r 6=false:=by simpa [isK] using hk6
    unfold AAI;exact AU (Ae hv4 hTr (bad _ (zAB hI2 (zAB hI3 hI4)) (by rw [hm];simp [hk,hb,hg,Res.bind,hk6,hb2];rfl)))
   ·rename_i hk6
    exact next (.inl (by simpa [isK] using hk6))
  ·rename_i hk
   have hk:isK l2 6=true:=by simpa [isK] using hk
   have hm:CV l.length (l.length+1) [] l= .ok xs l2:=by rw [hm];simp [hk]
   rw [hm] at hrd;unfold AAH;repeat' (first|refine zqa ?_|refine zqh (λ_=>?_)|refine zqr ?_|refine zqb ?_|refine zqi ?_ ?_|refine zqc ?_|refine zqg (λ_=>?_) (λ_=>?_)|refine zqe ?_|fail)
   refine ALr (zAA ?_);refine rdb ?_;refine rdB rfl ?_;refine zAG (X++L) ?_;refine RL.ofO (R:=TStmtV) (λ{I I' x c} h hI=>TStmtV.mono h hI) hX hR (λI3 hI3 hw=>zAA ?_);rw [hrd] at hok;exact hok I3 _ _ (zAB hI1 (zAB hI2 hI3)) hw
 ·have hrd:readA s=([],f):=by simp only [readA,hlx]
  rw [hrd] at hok;repeat' (first|refine zqa ?_|refine zqh (λ_=>?_)|refine zqr ?_|refine zqb ?_|refine zqi ?_ ?_|refine zqc ?_|refine zqg (λ_=>?_) (λ_=>?_)|refine zqe ?_|fail)
  ·exact zAG L (zAA (hok I1 none 0 hI1 (zAD none 0)))
  ·rename_i hz _
   exact absurd (by simpa using hz) hf
end
theorem AAg:∀{l:Bs} {n k:Int},(∀d∈l,Bi d=true)→0≤n→n≤9223372036854775807→Pz l n=some k→0≤k∧k≤9223372036854775807
 |[],n,k,_,h0,h1,h=>by simp only [Pz,zn] at h;subst h;exact ⟨h0,h1⟩
 |d::r,n,k,hd,h0,h1,h=>by
  have hdg:=hd d (zK ..);simp only [Bi,zF,decide_eq_true_eq] at hdg;have g1:(48:Nat)≤d.toNat:=hdg.1;have g2:d.toNat≤57:=hdg.2;simp only [Pz] at h;split at h
  ·cases h
  ·exact AAg (λe he=>hd e (zH _ he)) zo zo h
theorem AHu {a:Nat}:∀{l:Bs} {t:Tok} {r:Bs},Hy a l= .tok t r→AAx t
 |[],t,r,h=>by simp [Hy] at h
 |c::l,t,r,h=>by
  simp only [Hy] at h;split at h
  ·unfold NK at h;split at h
   ·cases h
   ·simp only [LexR.tok.injEq] at h;obtain ⟨rfl,_⟩:=h;refine ⟨?_,?_,?_,?_⟩
    ·simp only;split <;> decide
    ·simp only
     intro hk;split at hk
     ·rename_i hc;exact List.contains_iff_mem.1 hc
     ·exact absurd hk zx
    iterate 2
     ·simp only;intro hk;split at hk <;> exact absurd hk zx
  split at h
  ·split at h
   ·cases h
   ·rename_i k hk
    split at h
    ·cases h
    ·simp only [LexR.tok.injEq] at h;obtain ⟨rfl,_⟩:=h;exact ⟨by simp,by simp,by simp,λ_=>AAg (λd hd=>EL hd) zo zo hk⟩
  split at h
  ·split at h
   ·cases h
   ·split at h
    ·split at h
     ·cases h
     ·simp only [LexR.tok.injEq] at h;obtain ⟨rfl,_⟩:=h;exact ⟨by simp,by simp,by simp,by simp⟩
    ·simp only [LexR.tok.injEq] at h;obtain ⟨rfl,_⟩:=h;exact ⟨by simp,by simp,by simp,by simp⟩
  split at h
  ·cases h
  ·rename_i x hx
   simp only [LexR.tok.injEq] at h;obtain ⟨rfl,_⟩:=h;refine ⟨by simp,by simp,λ_=>?_,by simp⟩;simp only
   split
   ·decide
   ·exact List.mem_of_find?_eq_some hx
theorem Py {a:Nat}:∀{l:Bs} {e:Int},Hy a l= .bad e→e≠0
 |[],e,h=>by simp only [Hy,LexR.bad.injEq] at h;subst h;decide
 |c::l,e,h=>by
  simp only [Hy,NK] at h;repeat' split at h
  all_goals first
   |(simp only [LexR.bad.injEq] at h;subst h;decide)
   |cases h
theorem Toks.snoc:∀{l:List Tok} {t:Tok},(∀x∈l,AAx x)→t.kind=6→Toks (l++[t])
 |[],t,_,h=>h
 |[x],t,hl,h=>⟨hl x (zK ..),h⟩
 |x::y::l,t,hl,h=>⟨hl x (zK ..),Toks.snoc (l:=y::l) (λz hz=>hl z (zH _ hz)) h⟩
theorem RF (l:Bs):CY false (CY false l)=CY false l:=by
 have go:∀(b:Bool) (l:Bs),CY false (CY b l)=CY b l:=by
  intro b l;induction l generalizing b with
  |nil=>cases b <;> rfl
  |cons c r ih=>
   cases b with
   |true=>
    simp only [CY];split
    ·exact ih false
    ·exact ih true
   |false=>
    simp only [CY];split
    ·exact ih false
    ·rename_i h1
     split
     ·exact ih true
     ·rename_i h2
      simp only [CY,h1,h2,zl,if_false]
 exact go false l
def ACx (n f:Nat)(acc:List Tok):Bs→LexA
 |[]=>.toks (acc++[⟨6,n,[],0⟩])
 |c::r=>match Hy (n - (r.length+1)) (c::r) with
   | .bad e=>.bad ⟨e,(n - (r.length+1):Nat)⟩
   | .tok t r'=>Gu n f (acc++[t]) r'
theorem Ol (n f:Nat)(acc:List Tok)(s:Bs):Gu n (f+1) acc s=ACx n f acc (CY false s):=by
 rw [Gu];unfold ACx;cases CY false s <;> rfl
def AGv (ω:Om)(G:Imm):Prop:=∀(K:Value→M) (I:Imm) (L:LH),Ext G I→(∀I' v,Ext I I'→StL I' v wordsL→K v I' L)→CT ω 182 #[] K I L
section
variable {ω:Om}
theorem AGo {I:Imm}{L:LH}{K:Value→M}(t:Tok)(hk:∀I' a,Ext I I'→TL I' (.slice a 1 1) [t]→Gh (K (.slice a 1 1)) I' L):
  AB 247 4 #[.int .i64 0,.int .i64 0,.string ⟨#[]⟩,.int .i64 0] 1 [(0,.agg #[.int .i64 t.kind,.int .i64 t.at',.string ⟨t.text.toArray⟩,.int .i64 t.num])] (gh K) I L:=
 Eu (R:=TokV) [t] [[.int .i64 t.kind,.int .i64 t.at',.string ⟨t.text.toArray⟩,.int .i64 t.num]] rfl rfl rfl zy (by simp [TokV]) (λhI h=>TokV.mono h) hk
theorem Uj {G:Imm}(hW:AGv ω G):EE ω G:=by
 intro s K I L hG hs hok hbad;refine AOD ?_;unfold AKO;refine Am (λb1=>?_);refine call (hW _ _ _ hG (λI1 w hI1 hw=>?_));obtain ⟨aw,kw,rfl⟩:=zAH hw;try refine zqe ?_
 refine Am (λb=>?_);have e0:Obj.cells #[.string ⟨s.toArray⟩,.int .i64 0,.slice aw wordsL.length kw] 266 (0,0)=LBo s 0 (.slice aw wordsL.length kw):=rfl;rw [e0];refine call (RY (s:=s) (a:=0) (w:=.slice aw wordsL.length kw) (zaw _) hs (λa0 _ h0 hd0=>?_));refine loop (λm st I2 Lx=>∃(a:Nat) (X:LH) (v:Value) (cells:List Value) (acc:List Tok) (f:Nat),a+m=s.length∧Ext I1 I2∧st=(.slice none 0 0,v,())∧Lx=X++((b,LBo s a (.slice aw wordsL.length kw))::(b1,.cells [.int .i64 0,.int .i64 0].toArray 157 (0,0))::L)∧SlO 247 4 X v cells acc.length∧Recs (TokV I2) 4 acc cells∧(∀t∈acc,AAx t)∧acc.length≤a∧s.length - a≤f∧CY false (s.drop a)=s.drop a∧AFK s=ACx s.length f acc (s.drop a)) (s.length - a0)
  ⟨a0,[],_,[],[],s.length,by omega,zAC _,rfl,rfl,zAN _ _,rfl,(λt h=>by cases h),by simp,by omega,by rw [hd0,RF],by rw [hd0];exact Ol s.length s.length [] s⟩ ?_
 rintro m st I2 Lx ⟨a,X,v,cells,acc,f,hm,hI2,rfl,rfl,hX,hR,hTk,hal,hf,hsk,hlx⟩;obtain ⟨av,kv,rfl⟩:=hX.form;unfold AAA;try refine zqe ?_
 refine rdb ?_;try refine zqe ?_
 refine AP (λhb=>?_) (λhb=>?_)
 ·have ha:a < s.length:=by
   have:=of_decide_eq_true hb;omega
  obtain ⟨c,hc,hd⟩:=QP ha;have hla:s.length - ((s.drop (a+1)).length+1)=a:=by rw [zZ];omega
  have hlx:AFK s=match Hy a (s.drop a) with
    | .bad e=>.bad ⟨e,(a:Nat)⟩
    | .tok t r'=>Gu s.length f (acc++[t]) r':=by
   rw [hlx,hd];simp only [ACx,hla]
  refine call (ABq (s:=s) (a:=a) (w:=.slice aw wordsL.length kw) ha hs (StL.mono hw hI2) ⟨λt r ht I3 a' hI3 h1 h2 hdr=>?_,λe he=>⟨Py he,λI3 a' k x n hI3=>?_⟩⟩)
  ·rw [ht] at hlx;simp only at hlx
   repeat' (first|refine zqa ?_|refine zqh (λ_=>?_)|refine zqr ?_|refine zqb ?_|refine zqi ?_ ?_|refine zqc ?_|refine zqg (λ_=>?_) (λ_=>?_)|(simp only [SSd,Nat.reduceAdd,Ld]))
   refine AGo t (λI4 a4 hI4 hw4=>zAA ?_);obtain ⟨c4,s4,r4⟩:=RL.toI zx hw4;refine BQ (X:=X) rfl hX s4.news (r4.one_cells λx c h=>by rw [show c=_ from h];exact Ak rfl) zL zL (λX5 w5 hX5=>?_);have e5:acc.length+[t].length=(acc++[t]).length:=by simp
   rw [e5] at hX5;have hR5:=Recs.append (Recs.imp (R':=TokV I4) (λ_ _ h=>h) hR) r4;refine call (RY (s:=s) (a:=a') (w:=.slice aw wordsL.length kw) h2 hs (λa6 h6 h7 hd6=>?_));obtain ⟨f,rfl⟩:∃q,f=q+1:=⟨f - 1,by omega⟩;rw [←hdr,Ol,←hd6] at hlx;refine zAG (X5++((b,LBo s a6 (.slice aw wordsL.length kw))::(b1,.cells [.int .i64 0,.int .i64 0].toArray 157 (0,0))::L)) (zAA ⟨s.length - a6,by omega,a6,X5,w5,_,acc++[t],f,by omega,zAB hI2 (zAB hI3 hI4),rfl,rfl,hX5,hR5,?_,by simp;omega,by omega,by rw [hd6,RF],hlx⟩);intro x hx;rcases zav.1 hx with hx|hx
   ·exact hTk x hx
   ·rw [zN.1 hx];exact AHu ht
  ·rw [he] at hlx;have hne:=Py he;repeat' (first|refine zqa ?_|refine zqh (λ_=>?_)|refine zqr ?_|refine zqb ?_|refine zqi ?_ ?_|refine zqc ?_|refine zqg (λ_=>?_) (λ_=>?_)|(simp only [SSd,Nat.reduceAdd,Ld]))
   ·rename_i hz
    have hz:=hz;exact zAG L (zAA (hbad _ hlx hne I3 none 0 0 (zAB hI1 (zAB hI2 hI3))))
   ·rename_i hz
    exact absurd (by simpa using hz) hne
 ·have ha:¬a < s.length:=by
   have:=of_decide_eq_false hb;omega
  have hdn:s.drop a=[]:=zat zo;rw [hdn] at hlx;unfold ZZ;repeat' (first|refine zqa ?_|refine zqh (λ_=>?_)|refine zqr ?_|refine zqb ?_|refine zqi ?_ ?_|refine zqc ?_|refine zqg (λ_=>?_) (λ_=>?_)|refine zqe ?_|fail)
  refine AGo (⟨6,s.length,[],0⟩:Tok) (λI4 a4 hI4 hw4=>zAA ?_);obtain ⟨c4,s4,r4⟩:=RL.toI zx hw4;refine BQ (X:=X) rfl hX s4.news (r4.one_cells λx c h=>by rw [show c=_ from h];exact Ak rfl) zL zL (λX5 w5 hX5=>?_);have e5:acc.length+[(⟨6,s.length,[],0⟩:Tok)].length=(acc++[(⟨6,s.length,[],0⟩:Tok)]).length:=by simp
  rw [e5] at hX5;have hR5:=Recs.append (Recs.imp (R':=TokV I4) (λ_ _ h=>h) hR) r4;obtain ⟨a5,k5,rfl⟩:=hX5.form;repeat' (first|refine zqa ?_|refine zqh (λ_=>?_)|refine zqr ?_|refine zqb ?_|refine zqi ?_ ?_|refine zqc ?_|refine zqg (λ_=>?_) (λ_=>?_)|refine zqe ?_|fail)
  refine zAG (X5++L) ?_;refine RL.ofO (R:=TokV) (λ{I I' x c} h hI=>h) hX5 hR5 (λI6 hI6 hw6=>zAA ?_);exact hok _ hlx (Toks.snoc hTk rfl) zu I6 _ (zAB hI1 (zAB hI2 (zAB hI4 hI6))) hw6
end
def Qi (ω:Om):Prop:=∀(v:Value) (l:List TStmt) (K:Value→M) (I:Imm) (L:LH),RL TStmtV 51 I [] v l→BG l≤1000000000→(∀s∈l,cS s≤1000000000)→(∀I',Ext I I'→K (.int .i64 (UJ (BG l) (EH l))) I' L)→CT ω 125 #[v] K I L
theorem Qv {n:Nat}:∀{f:Nat} {acc:List Tok} {s:Bs} {e:Flt},Gu n f acc s= .bad e→e.code≠0
 |0,acc,s,e,h=>by simp [Gu] at h
 |f+1,acc,s,e,h=>by
  rw [Ol] at h;unfold ACx at h;split at h
  ·cases h
  ·split at h
   ·rename_i x hx
    simp only [LexA.bad.injEq] at h;subst h;exact Py hx
   ·exact Qv h
theorem Xe (s:Bs):(readA s).2=ok0∨((readA s).2.code≠0∧(readA s).1=[]):=by
 unfold readA;split
 ·rename_i f hf
  exact .inr ⟨Qv hf,rfl⟩
 ·split
  ·exact .inl rfl
  ·exact .inr ⟨by simp,rfl⟩
section
variable {ω:Om}
theorem AMW {I:Imm}{L:LH}{K:Value→M}{w:Value}{xs:List TStmt}(hw:RL TStmtV 51 I [] w xs)(hk:∀a k,RL TStmtV 51 I [] (.slice a xs.length k) xs→K (.slice a xs.length k) I L):CT ω 126 #[w] K I L:=by
 refine AOK ?_;unfold AKV;obtain ⟨w',h1,h2⟩:=FX hw;simp only [zAQ hw,h1,SSd,Nat.reduceAdd];obtain ⟨a,k,rfl⟩:=zAH h2;exact zAA (hk a k h2)
theorem Xh {G:Imm}(hTok:EE ω G)(hLim:Qi ω)(s:Bs){I:Imm}{L:LH}{K:Value→M}(hG:Ext G I)
  (hok:∀I' a k,Ext I I'→RL TStmtV 51 I' [] (.slice a (Ce s).1.length k) (Ce s).1→K (.tuple #[.slice a (Ce s).1.length k,.agg #[.int .i64 (Ce s).2.code,.int .i64 (Ce s).2.at']]) I' L):
  CT ω 107 #[.string ⟨s.toArray⟩] K I L:=by
 have hparts:s.length≤65536→BG (readA s).1≤1000000000∧∀x∈(readA s).1,cS x≤1000000000:=λh=>⟨by have:=Xf s;omega,λx hx=>by have:=AFj s x hx;omega⟩;refine AOW ?_;unfold AKh;refine Am (λb1=>?_);try refine zqe ?_
 refine AP (λhb=>?_) (λhb=>?_)
 ·have hb:65536 < s.length:=by
   have:=of_decide_eq_true hb;omega
  have hp:Ce s=([],⟨170,65536⟩):=by unfold Ce;rw [if_pos hb]
  rw [hp] at hok;repeat' (first|refine zqa ?_|refine zqh (λ_=>?_)|refine zqr ?_|refine zqb ?_|refine zqi ?_ ?_|refine zqc ?_|refine zqg (λ_=>?_) (λ_=>?_)|refine zqe ?_|fail)
  exact zAG L (zAA (hok I none 0 (zAC _) (zAD none 0)))
 have hb:s.length≤65536:=by
  have:=of_decide_eq_false hb;omega
 refine call (ABj hTok s zo hG (λI1 a k hI1 hw=>?_));have hcode:=Xe s;generalize hr:readA s=q at hw hok hparts hcode ⊢;obtain ⟨l,f⟩:=q;have hp:Ce s=if f≠ok0 then ([],f) else if UJ (BG l) (EH l)≠0 then ([],⟨UJ (BG l) (EH l),0⟩) else (l,ok0):=by
  unfold Ce;rw [if_neg zo,hr]
 simp only at hw hparts hcode ⊢
 rcases hcode with rfl|⟨hc,rfl⟩
 ·rw [if_neg zy] at hp;repeat' (first|refine zqa ?_|refine zqh (λ_=>?_)|refine zqr ?_|refine zqb ?_|refine zqi ?_ ?_|refine zqc ?_|refine zqg (λ_=>?_) (λ_=>?_)|(simp only [SSd,Nat.reduceAdd,ok0]))
  rename_i bt
  refine call (hLim _ l _ _ _ hw (hparts hb).1 (hparts hb).2 (λI2 hI2=>?_));by_cases h0:UJ (BG l) (EH l)=0
  ·rw [h0];rw [if_neg (by simpa using h0)] at hp;rw [hp] at hok;repeat' (first|refine zqa ?_|refine zqh (λ_=>?_)|refine zqr ?_|refine zqb ?_|(with_reducible first|refine BJ (sh107_1.eq_1 ..) ?_|refine And.intro ?_ ?_)|refine zqc ?_|refine zqg (λ_=>?_) (λ_=>?_)|refine zqe ?_|fail)
   refine call (AMW (zAL (λ_ _ h=>TStmtV.mono h hI2) hw hI2 (λ_ h=>h)) (λa' k' hw'=>?_));repeat' (first|refine zqa ?_|refine zqh (λ_=>?_)|refine zqr ?_|refine zqb ?_|refine zqi ?_ ?_|refine zqc ?_|refine zqg (λ_=>?_) (λ_=>?_)|refine zqe ?_|fail)
   exact zAG L (zAA (hok I2 a' k' (zAB hI1 hI2) hw'))
  ·rw [if_pos h0] at hp;rw [hp] at hok;have e2:(UJ (BG l) (EH l) != 0)=true:=by simpa using h0
   repeat' (first|refine zqa ?_|refine zqh (λ_=>?_)|refine zqr ?_|refine zqb ?_|(with_reducible first|refine BJ (sh107_1.eq_1 ..) ?_|refine And.intro ?_ ?_)|refine zqc ?_|refine zqg (λ_=>?_) (λ_=>?_)|(simp only [SSd,Nat.reduceAdd,e2]))
   exact zAG L (zAA (hok I2 none 0 (zAB hI1 hI2) (zAD none 0)))
 ·rw [if_pos (by rintro rfl;exact hc rfl)] at hp;rw [hp] at hok;have e1:(f.code==0)=false:=by simpa using hc
  have e2:(f.code != 0)=true:=by simpa using hc
  repeat' (first|refine zqa ?_|refine zqh (λ_=>?_)|refine zqr ?_|refine zqb ?_|(with_reducible first|refine BJ (sh107_1.eq_1 ..) ?_|refine And.intro ?_ ?_)|refine zqc ?_|refine zqg (λ_=>?_) (λ_=>?_)|(simp only [SSd,Nat.reduceAdd,e1,e2]))
  exact zAG L (zAA (hok I1 none 0 hI1 (zAD none 0)))
end
def A51:Type:={l:List Value // l.length=51∧l.all (·.oneCell')=true}
def Dt (pid sec st:Int)(vl:Value)(q:Bool)(vs:Value)(kind:Int)(sc:A51)(own en:Bool)(vo:Value):List Value:=
 [.int .i64 pid,.int .i64 sec,.int .u8 st,vl,.bool q,vs,.int .i64 kind]++(sc.1++[.bool own,.bool en,vo])
section
variable {pid sec st:Int}{vl:Value}{q:Bool}{vs:Value}{kind:Int}{sc:A51}{own en:Bool}{vo:Value}
theorem VE (k:Nat)(hk:k < 3):(Dt pid sec st vl q vs kind sc own en vo)[58+k]? =[Value.bool own,Value.bool en,vo][k]? :=by
 have h:=sc.2.1;unfold Dt;rw [List.getElem?_append_right zu,List.getElem?_append_right (by simp only [zf,zh,h];omega)];simp only [zf,zh,h];congr 1;omega
theorem VD (k:Nat)(v:Value)(hk:k < 3):(Dt pid sec st vl q vs kind sc own en vo).set (58+k) v=[.int .i64 pid,.int .i64 sec,.int .u8 st,vl,.bool q,vs,.int .i64 kind]++(sc.1++[Value.bool own,Value.bool en,vo].set k v):=by
 have h:=sc.2.1;unfold Dt;rw [List.set_append_right _ _ zu,List.set_append_right _ _ (by simp only [zf,zh,h];omega)];simp only [zf,zh,h];congr 3;omega
theorem Ef:(Dt pid sec st vl q vs kind sc own en vo).length=61:=by
 have h:=sc.2.1;simp [Dt,h]
instance sg0:GetL (Dt pid sec st vl q vs kind sc own en vo) 0 (.int .i64 pid):=⟨rfl⟩
instance sg1:GetL (Dt pid sec st vl q vs kind sc own en vo) 1 (.int .i64 sec):=⟨rfl⟩
instance sg2:GetL (Dt pid sec st vl q vs kind sc own en vo) 2 (.int .u8 st):=⟨rfl⟩
instance sg3:GetL (Dt pid sec st vl q vs kind sc own en vo) 3 vl:=⟨rfl⟩
instance sg4:GetL (Dt pid sec st vl q vs kind sc own en vo) 4 (.bool q):=⟨rfl⟩
instance sg5:GetL (Dt pid sec st vl q vs kind sc own en vo) 5 vs:=⟨rfl⟩
instance sg6:GetL (Dt pid sec st vl q vs kind sc own en vo) 6 (.int .i64 kind):=⟨rfl⟩
instance sg59:GetL (Dt pid sec st vl q vs kind sc own en vo) 59 (.bool en):=⟨VE 1 zo⟩
instance sg60:GetL (Dt pid sec st vl q vs kind sc own en vo) 60 vo:=⟨VE 2 zo⟩
instance ss2 (x:Int):SetL (Dt pid sec st vl q vs kind sc own en vo) 2 (.int .u8 x) (Dt pid sec x vl q vs kind sc own en vo):=⟨rfl,by rw [Ef];omega⟩
instance ss3 (x:Value):SetL (Dt pid sec st vl q vs kind sc own en vo) 3 x (Dt pid sec st x q vs kind sc own en vo):=⟨rfl,by rw [Ef];omega⟩
instance ss4 (x:Bool):SetL (Dt pid sec st vl q vs kind sc own en vo) 4 (.bool x) (Dt pid sec st vl x vs kind sc own en vo):=⟨rfl,by rw [Ef];omega⟩
instance ss5 (x:Value):SetL (Dt pid sec st vl q vs kind sc own en vo) 5 x (Dt pid sec st vl q x kind sc own en vo):=⟨rfl,by rw [Ef];omega⟩
instance ss6 (x:Int):SetL (Dt pid sec st vl q vs kind sc own en vo) 6 (.int .i64 x) (Dt pid sec st vl q vs x sc own en vo):=⟨rfl,by rw [Ef];omega⟩
instance ss59 (x:Bool):SetL (Dt pid sec st vl q vs kind sc own en vo) 59 (.bool x) (Dt pid sec st vl q vs kind sc own x vo):=⟨VD 1 _ zo,by rw [Ef];omega⟩
instance ss60 (x:Value):SetL (Dt pid sec st vl q vs kind sc own en vo) 60 x (Dt pid sec st vl q vs kind sc own en x):=⟨VD 2 _ zo,by rw [Ef];omega⟩
end
abbrev CX (pid sec st:Int)(vl:Value)(q:Bool)(vs:Value)(kind:Int)(sc:A51)(own en:Bool)(vo:Value):Obj:=.cells (Dt pid sec st vl q vs kind sc own en vo).toArray 86 (0,0)
def WZ (k:Int)(sc:A51)(own:Bool):Value:=.agg (.int .i64 k::(sc.1++[.bool own])).toArray
theorem ML {pid sec st:Int}{vl:Value}{q:Bool}{vs:Value}{kind k':Int}{sc sc':A51}{own own' en:Bool}{vo:Value}{I:Imm}{L L':LH}{K:Value→M}{b:Nat}
  [i:InL b L (CX pid sec st vl q vs kind sc own en vo)] [u:UpL b L (CX pid sec st vl q vs kind sc own en vo) (CX pid sec st vl q vs k' sc' own' en vo) L'] {v:Value} (hv:v=WZ k' sc' own') (hk:K undef I L'):Sto 53 (.pointer (some ⟨b,6,none⟩)) v (gh K) I L:=by
 subst hv;obtain ⟨L1,L2,rfl,rfl⟩:=u.up;have h:=sc.2.1;have h':=sc'.2.1;refine ⟨b,6,_,_,(0,0),L1,L2,rfl,by simp [WZ,Value.cells,h'],?_,by simp only [List.size_toArray,Ef];omega,.inl rfl,rfl,?_⟩
 ·intro u hu;simp only [WZ,Value.cells,zX,zav] at hu;rcases hu with rfl|hu|hu|hu
  ·rfl
  ·exact zaD.1 sc'.2.2 u hu
  ·subst hu;rfl
  ·cases hu
 ·have e:wr (Dt pid sec st vl q vs kind sc own en vo).toArray 6 (WZ k' sc' own').cells.toList=(Dt pid sec st vl q vs k' sc' own' en vo).toArray:=by
   simp only [WZ,Value.cells];rw [Oa _ _ _ (by simp [Ef,h'])];unfold Dt;simp [h,h',List.drop_append]
  rw [e];exact zAA hk
def z51:A51:=⟨[.int .i64 0,.bool false,.slice none 0 0,.slice none 0 0,.int .i64 0,.int .i64 0,.bool false,.int .i64 0,.string ⟨#[]⟩,.string ⟨#[]⟩,.string ⟨#[]⟩,.int .i64 0,.int .i64 0,.bool false,.slice none 0 0,.slice none 0 0,.int .i64 0,.int .i64 0,.bool false,.int .i64 0,.string ⟨#[]⟩,.string ⟨#[]⟩,.string ⟨#[]⟩,.int .i64 0,.int .i64 0,.bool false,.slice none 0 0,.slice none 0 0,.int .i64 0,.int .i64 0,.string ⟨#[]⟩,.slice none 0 0,.slice none 0 0,.slice none 0 0,.int .i64 0,.int .i64 0,.bool false,.int .i64 0,.string ⟨#[]⟩,.string ⟨#[]⟩,.string ⟨#[]⟩,.int .i64 0,.int .i64 0,.bool false,.slice none 0 0,.slice none 0 0,.slice none 0 0,.string ⟨#[]⟩,.string ⟨#[]⟩,.slice none 0 0,.bool false],rfl,rfl⟩
theorem asc {A:M}{I:Imm}{x:Nat×Obj}{XL XO F:LH}(h:A I ((x::(XL++XO))++F)):A I (x::(XL++(XO++F))):=by
 rw [zau,zi] at h;exact h
instance splitSes (x:Nat×Obj)(XL XO F:LH):SplitL (x::(XL++XO)) (x::(XL++(XO++F))) F:=⟨by rw [zau,zi]⟩
def SeM (I:Imm)(s:Ses)(b:Nat)(X:LH):Prop:=∃vl vs vo sc XL XO,X=(b,CX s.pid s.secret s.status vl s.query vs s.kind sc s.own s.ended vo)::(XL++XO)∧OwB XL vl s.left∧RL TStmtV 51 I [] vs s.stmts∧OwB XO vo s.out∧0≤s.status∧s.status≤255
theorem SeM.mono {I I':Imm}{s:Ses}{b:Nat}{X:LH}(h:SeM I s b X)(hI:Ext I I'):SeM I' s b X:=by
 obtain ⟨vl,vs,vo,sc,XL,XO,h1,h2,h3,h4,h5⟩:=h;exact ⟨vl,vs,vo,sc,XL,XO,h1,h2,zAL (λ_ _ h=>TStmtV.mono h hI) h3 hI (λ_ h=>h),h4,h5⟩
section
variable {ω:Om}{I:Imm}{L F:LH}{K:Value→M}{s:Ses}{b:Nat}{X:LH}
def Dv (l:List TBack):Nat:=(l.map λm=>(GU m).1.length).sum
theorem MV (m:TBack)(r:List TBack):Dv (m::r)=(GU m).1.length+Dv r:=by simp [Dv]
def Wl (m:TBack):Prop:=EP m≤10000000000∧0≤m.fStatus∧m.fStatus≤255∧0≤m.fKind
theorem MN {w:Value}{l:List TBack}[hsp:SplitL X L F](hS:SeM I s b X)(hw:RL TBackV 10 I [] w l)(hl:l.length≤1000000000)(hok:∀m∈l,Wl m)(hn:s.out.length+Dv l≤100000000000000)
  (hk:∀I' X',Ext I I'→SeM I' (BD s l) b X'→K (.int .i64 (EO l []).2) I' (X'++F)):CT ω 45 #[Ac b,w] K I L:=by
 refine zAP X ?_;refine AQM ?_;unfold APN;simp only [zAQ hw,SSd,Nat.reduceAdd];refine loop (λq st I' L'=>∃(k:Nat) (Y:LH) (v':Value) (acc:Bs),k+q=l.length∧st=(Value.int .i64 0,v',Value.int .i64 (k:Nat),())∧Ext I I'∧L'=Y++(X++F)∧OwB Y v' acc∧EO (l.drop k) acc=EO l []∧acc.length+Dv (l.drop k)≤Dv l) l.length
  ⟨0,[],.slice none 0 0,[],by omega,rfl,zAC _,rfl,zAN _ _,rfl,by simp⟩ ?_
 rintro q st I' L' ⟨k,Y,v',acc,hkq,rfl,hI,rfl,hY,hp,hacc⟩;unfold ADe;try refine zqe ?_
 refine AP (λhb=>?_) (λhb=>?_)
 ·have hb:k < l.length:=by
   have:=of_decide_eq_true hb;omega
  have hdk:l.drop k=l[k]::l.drop (k+1):=zaz hb;obtain ⟨bt,off,c1,g1,gl,g2,g3⟩:=RL.ix hw (i:=k) zo zo;rw [BH hb] at g2;obtain ⟨k1,k2,k3,k4⟩:=hok l[k] (zaG hb);have hone:=TBackV.one g2;rw [hdk] at hp hacc;simp only [EO] at hp;rw [MV] at hacc;generalize l[k]=m at *;simp only [g1,SSd,Nat.reduceAdd];refine rdN gl (g3 _ _ hI (λ_ h=>by cases h)) ?_;refine Am (λbm=>?_);refine stB gl rfl hone ?_;refine Ew gl ?_;refine WA (AEh (g2.mono hI) k1 ⟨k2,k3⟩ k4 (λI2 Z u hI2 hZ=>?_));obtain ⟨a,kk,rfl⟩:=hZ.form;try refine zqe ?_
  cases he:((GU m).2 != 0) with
  |true=>
   rw [he] at hp;simp only [if_true] at hp;try refine zqe ?_
   have hne:(EO l []).2=(GU m).2:=by rw [←hp]
   have hsF:BD s l=s:=by
    unfold BD;rw [if_pos (by rw [hne];exact he)]
   have:=hk I2 X (zAB hI hI2) (by rw [hsF];exact hS.mono (zAB hI hI2));rw [hne] at this;exact zAA (zAG (X++F) (zAA this))
  |false=>
   rw [he] at hp;simp only [zl,if_false] at hp;try refine zqe ?_
   refine zAA ?_;refine BQ (X:=Y) (n:=1) (m:=(GU m).1.length) rfl hY (news:=Lib.byteCells (GU m).1) (SlO.news hZ (λx hx=>zae _ hx)) (λu hu=>?_) zo zo (λY2 u2 hY2=>?_)
   ·obtain ⟨d,_,rfl⟩:=zal.1 hu;rfl
   simp only [wrap_i64 ((k:Int)+1) zo,SSd,Nat.reduceAdd];exact zAG (Y2++(X++F)) (zAA ⟨q - 1,by omega,k+1,Y2,u2,_,by omega,rfl,zAB hI hI2,rfl,OwB.mk hY2,hp,by rw [zk];omega⟩)
 ·have hb:¬k < l.length:=by
   have:=of_decide_eq_false hb;omega
  have hd:l.drop k=[]:=zat zo;rw [hd] at hp hacc;simp only [EO] at hp;have hacc:acc.length≤Dv l:=by simpa [Dv] using hacc
  obtain ⟨vl,vs,vo,sc,XL,XO,rfl,h2,h3,h4,h5,h6⟩:=hS.mono hI;have hsF:BD s l={s with out:=s.out++acc}:=by
   unfold BD;rw [←hp];rfl
  rw [←hp,hsF] at hk;unfold ADd;simp only [zi,SSd,Nat.reduceAdd];refine rdb ?_;refine BQ (X:=XO) (n:=1) (m:=acc.length) rfl h4 (news:=Lib.byteCells acc) (SlO.news hY (λx hx=>zae _ hx)) (λu hu=>?_) zo zo (λY2 u2 hY2=>?_)
  ·obtain ⟨d,_,rfl⟩:=zal.1 hu;rfl
  have hY2:OwB Y2 u2 (s.out++acc):=OwB.mk hY2;obtain ⟨a,kk,rfl⟩:=hY2.form;try refine zqe ?_
  refine st1 rfl ?_;refine zAG ((b,CX s.pid s.secret s.status vl s.query vs s.kind sc s.own s.ended (.slice a (s.out++acc).length kk))::(XL++(Y2++F))) (asc (A:=Gh (K (.int .i64 0))) (zAA (hk I' _ hI ⟨vl,vs,_,sc,XL,Y2,rfl,h2,h3,hY2,h5,h6⟩)))
end
end Go.Proofs.YthkaekjoemhjaaaGreatDoor
