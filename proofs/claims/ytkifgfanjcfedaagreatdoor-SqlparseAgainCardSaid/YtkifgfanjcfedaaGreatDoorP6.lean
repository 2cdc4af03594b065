/- lemmas -/
import Derived.Test.YtkifgfanjcfedaaGreatDoorP5
import Derived.Test.YtkifgfanjcfedaaGreatDoorP2
import Derived.Lib.Bytealg
set_option maxRecDepth 100000
set_option maxHeartbeats 4000000
set_option linter.unusedVariables false
set_option linter.unusedSimpArgs false
set_option linter.unusedSectionVars false
namespace Go.Proofs.YtkifgfanjcfedaaGreatDoor
open Go.SL
section
variable {ω:Om}{I:Imm}{L:LH}{K:Value→M}{C:Obj→LH}{b:Nat}{w:Value}{s:Bs}{a:Nat}
theorem MP {v:Value}{ws:List Bs}(hw:StL I v ws)(hws:ws.length≤1000)(t:Bs)(hk:K (.bool (ws.contains t)) I L):CT ω 141 #[v,.string ⟨t.toArray⟩] K I L:=by
 refine ASg ?_;unfold AOa;refine call ?_;refine ARr ?_;unfold ANt;simp only [zAM hw,SSd,Nat.reduceAdd];refine loop (λm st I2 Lx=>∃i:Nat,i+m=ws.length∧I2=I∧st=(.int .i64 0,.int .i64 i,())∧Lx=L∧∀j (hj:j < ws.length),j < i→(ws[j]==t)=false) ws.length ⟨0,by omega,rfl,rfl,rfl,λj _ h=>by omega⟩ ?_;rintro m st I2 Lx ⟨i,h1,rfl,rfl,rfl,hall⟩;unfold ACO;try refine zqe ?_
 refine AB (λhb=>?_) (λhb=>?_)
 ·have hb:i < ws.length:=by
   have:((i:Int) < ws.length):=by simpa using hb
   omega
  obtain ⟨bw,off,cw,hi1,_,hi2,hi3⟩:=zAS hw (i:=i) (by omega) (by omega);rw [Af hb] at hi2;obtain rfl:=hi2;simp only [hi1,SSd,Nat.reduceAdd];refine rd1 ((hi3 _ [] (zAC _) (λ_ h=>h) 0 _ rfl).mono (zAC _) (λ_ h=>by cases h)) ?_;try refine zqe ?_
  refine AB (λhe=>?_) (λhe=>?_)
  ·have he:t=ws[i]:=by simpa using he
   have hc:ws.contains t=true:=by
    rw [List.contains_iff_mem,he];exact List.getElem_mem hb
   rw [hc] at hk;refine zAA ?_;have e1:decide ((0:Int)≤(i:Int))=true:=by simp
   simp only [e1,SSd,Nat.reduceAdd];exact zAA hk
  ·have he:t≠ws[i]:=by simpa using he
   simp only [wrap_i64 ((i:Int)+1) (by omega),SSd,Nat.reduceAdd];refine zAA ⟨m - 1,by omega,i+1,by omega,rfl,rfl,rfl,λj hj hji=>?_⟩;rcases Nat.lt_or_eq_of_le (Nat.le_of_lt_succ hji) with hlt|rfl
   ·exact hall j hj hlt
   ·simpa using λe=>he e.symm
 ·have hb:¬i < ws.length:=by
   have:¬((i:Int) < ws.length):=by simpa using hb
   omega
  have hc:ws.contains t=false:=by
   cases hc:ws.contains t with
   |false=>rfl
   |true=>
    rw [List.contains_iff_mem] at hc;obtain ⟨j,hj,e⟩:=List.mem_iff_getElem.1 hc;have:=hall j hj (by omega);simp [e] at this
  rw [hc] at hk;refine zAA ?_;repeat' (first|refine zqa ?_|refine zqh (λ_=>?_)|refine zqr ?_|refine zqb ?_|refine zqi ?_ ?_|refine zqc ?_|refine zqg (λ_=>?_) (λ_=>?_)|refine zqe ?_|fail)
  exact zAA hk
theorem ADk (c:UInt8)(h:(BN c||Az c)=true):c.toNat < 128:=by
 have:=MR (p:=λc=>decide ((BN c||Az c)=true→c.toNat < 128)) (by decide+kernel) c;exact of_decide_eq_true this h
theorem AMt (c:UInt8)(h:Az c=true):c.toNat < 128:=ADk c (by simp [h])
theorem FH {p:UInt8→Bool}:∀{l:Bs} {c:UInt8},c∈l.takeWhile p→p c=true
 |x::l,c,h=>by
  by_cases hx:p x=true
  ·rw [List.takeWhile_cons_of_pos hx] at h;rcases List.mem_cons.1 h with rfl|h
   ·exact hx
   ·exact FH h
  ·rw [List.takeWhile_cons_of_neg hx] at h;cases h
def AWC (s:Bs)(a:Nat)(K:Value→M)(C:Obj→LH)(w:Value)(I:Imm):Prop:=
 (∀t r,Dj a (s.drop a)= .tok t r→∀I' a',Ext I I'→a < a'→a'≤s.length→s.drop a'=r→K (.tuple #[AGM t.kind t.at' t.text t.num,.int .i64 0]) I' (C (LBo s a' w)))∧
 (∀e,Dj a (s.drop a)= .bad e→e≠0∧∀I' a' k x n,Ext I I'→K (.tuple #[AGM k a x n,.int .i64 e]) I' (C (LBo s a' w)))
theorem XV {p:UInt8→Bool}{s:Bs}{a a':Nat}{c:UInt8}(hd:s.drop a=c::s.drop (a+1))(hp:p c=true)(h1:a≤a')(hdr:s.drop a'=(s.drop a).dropWhile p):a < a':=by
 rcases Nat.lt_or_eq_of_le h1 with h|rfl
 ·exact h
 ·rw [hd,List.dropWhile_cons_of_pos hp] at hdr;have h2:=congrArg List.length hdr;have h3:((s.drop (a+1)).dropWhile p).length≤(s.drop (a+1)).length:=(List.dropWhile_suffix p).length_le;simp only [List.length_cons] at h2;omega
theorem AFQ [hF:Foc b L (LBo s a w) C](ha:a < s.length)(hs:s.length≤900000000)(hw:StL I w wordsL)(hk:AWC s a K C w I):CT ω 92 #[AP b] K I L:=by
 obtain ⟨L1,L2,rfl,rfl⟩:=hF.foc;obtain ⟨aw,kw,rfl⟩:=zAG hw;obtain ⟨hok,hbad⟩:=hk;obtain ⟨c,hc,hd⟩:=TY ha;refine AVE ?_;unfold ATk;refine Ac (λb1=>?_);try refine zqe ?_
 refine rdb ?_;repeat' (first|refine zqa ?_|refine zqh (λ_=>?_)|refine zqr ?_|refine zqb ?_|refine zqi ?_ ?_|refine zqc ?_|refine zqg (λ_=>?_) (λ_=>?_)|refine zqe ?_|fail)
 rename_i bt
 simp only [ixS s hc,SSd,Nat.reduceAdd];refine call (Fe c ?_);refine AB (λhl=>?_) (λhl=>?_)
 ·have hp:(BN c||Az c)=true:=by rw [show BN c=true from hl];rfl
  refine call (RN (s:=s) (a:=a) (w:=.slice aw wordsL.length kw) AGB (Nat.le_of_lt ha) hs (λa' h1 h2 hdr=>?_));have hlt:=XV hd hp h1 hdr;have htl:((s.drop a).takeWhile λc=>BN c||Az c).length≤900000000:=Nat.le_trans (List.takeWhile_prefix _).length_le (by simp;omega);refine call (AJE _ htl (λd hd=>ADk d (FH (p:=λc=>BN c||Az c) hd)) ?_);have hone:Dj a (s.drop a)=Hr (((s.drop a).takeWhile λc=>BN c||Az c).map Ef) a ((s.drop a).dropWhile λc=>BN c||Az c):=by
   rw [hd];simp only [Dj];rw [if_pos (show BN c=true from hl)]
  generalize htx:(((s.drop a).takeWhile λc=>BN c||Az c).map Ef)=tx at hone ⊢;repeat' (first|refine zqa ?_|refine zqh (λ_=>?_)|refine zqr ?_|refine zqb ?_|refine zqi ?_ ?_|refine zqc ?_|refine zqg (λ_=>?_) (λ_=>?_)|refine zqe ?_|fail)
  refine call (MP hw (by decide) tx ?_);refine AB (λhcn=>?_) (λhcn=>?_);all_goals repeat' (first|refine zqa ?_|refine zqh (λ_=>?_)|refine zqr ?_|refine zqb ?_|(with_reducible first|refine Bl (sh92_1.eq_1 ..) ?_|refine Bl (sh92_3.eq_1 ..) ?_|refine And.intro ?_ ?_)|refine zqc ?_|refine zqg (λ_=>?_) (λ_=>?_)|refine zqe ?_|fail)
  all_goals (rename_i h63;simp only [decide_eq_true_eq,decide_eq_false_iff_not] at h63)
  all_goals first
   |exact zAE (L1++(b,LBo s a' (.slice aw wordsL.length kw))::L2) (zAA ((hbad 173 (by rw [hone];unfold Hr;rw [if_pos (by omega)])).2 I a' _ _ _ (zAC _)))
   |exact zAE (L1++(b,LBo s a' (.slice aw wordsL.length kw))::L2) (zAA (hok ⟨2,a,tx,0⟩ _ (by rw [hone];unfold Hr;rw [if_neg (by omega),hcn];rfl) I a' (zAC _) hlt h2 hdr))
   |exact zAE (L1++(b,LBo s a' (.slice aw wordsL.length kw))::L2) (zAA (hok ⟨1,a,tx,0⟩ _ (by rw [hone];unfold Hr;rw [if_neg (by omega),hcn];rfl) I a' (zAC _) hlt h2 hdr))
 have hl:BN c=false:=by simpa using hl
 refine call (FY c ?_);refine AB (λhg=>?_) (λhg=>?_)
 ·repeat' (first|refine zqa ?_|refine zqh (λ_=>?_)|refine zqr ?_|refine zqb ?_|refine zqi ?_ ?_|refine zqc ?_|refine zqg (λ_=>?_) (λ_=>?_)|refine zqe ?_|fail)
  refine call (RN (s:=s) (a:=a) (w:=.slice aw wordsL.length kw) AFh (Nat.le_of_lt ha) hs (λa' h1 h2 hdr=>?_));have hlt:=XV hd hg h1 hdr;have htl:((s.drop a).takeWhile Az).length≤900000000:=Nat.le_trans (List.takeWhile_prefix _).length_le (by simp;omega);have hasc:∀d∈(s.drop a).takeWhile Az,d.toNat < 128:=λd hd=>AMt d (FH hd);have hdig:∀d∈(s.drop a).takeWhile Az,Az d=true:=λd hd=>FH hd;have hone:Dj a (s.drop a)=match Ij ((s.drop a).takeWhile Az) 0 with
   |none=>.bad 172
   |some k=>if ((s.drop a).dropWhile Az).head?.any BN then .bad 172 else .tok ⟨3,a,[],k⟩ ((s.drop a).dropWhile Az):=by
   rw [hd];simp only [Dj];rw [if_neg (by rw [hl];decide),if_pos hg];cases Ij (List.takeWhile Az (c::List.drop (a+1) s)) 0 <;> rfl
  generalize (s.drop a).takeWhile Az=ds at hone hasc hdig htl ⊢;refine ⟨⟨ds.toArray⟩,rfl,λb2=>zAA ?_⟩;refine loop (λm st I2 Lx=>∃(j:Nat) (n:Int),j+m=ds.length∧I2=I∧st=(.int .i64 0,())∧Lx=(b2,.stringIter ⟨ds.toArray⟩ j)::(bt,.cells [.int .i64 3,.int .i64 (a:Nat),.string ⟨#[]⟩,.int .i64 n].toArray 93 (0,0))::(b1,.cells [.int .i64 0,.int .i64 0,.string ⟨#[]⟩,.int .i64 0].toArray 93 (0,0))::(L1++(b,LBo s a' (.slice aw wordsL.length kw))::L2)∧0≤n∧n≤9223372036854775807∧Ij ds 0=Ij (ds.drop j) n) ds.length ⟨0,0,by omega,rfl,rfl,rfl,by omega,by omega,rfl⟩ ?_;rintro m st I2 Lx ⟨j,n,hj,rfl,rfl,rfl,hn0,hn1,hm⟩;unfold AGp;refine WZ (L1:=[]) hasc (λd hdj hda=>zAA ?_) (λhe=>zAA ?_)
  ·obtain ⟨hjl,hje⟩:=List.getElem?_eq_some_iff.1 hdj;have hdg:=hdig d (hje ▸ List.getElem_mem hjl);simp only [Az,Bool.and_eq_true,decide_eq_true_eq] at hdg;have g1:(48:Nat)≤d.toNat:=hdg.1;have g2:d.toNat≤57:=hdg.2;have hdd:ds.drop j=d::ds.drop (j+1):=by rw [List.drop_eq_getElem_cons hjl,hje]
   rw [hdd] at hm;simp only [Ij] at hm;have e1:IntKind.i32.wrap ((d.toNat:Int) - 48)=(d.toNat:Int) - 48:=IntWalk.i32_in _ (by omega);have e2:IntKind.i64.wrap ((d.toNat:Int) - 48)=(d.toNat:Int) - 48:=wrap_i64 _ (by omega);have e3:IntKind.i64.wrap (9223372036854775807 - ((d.toNat:Int) - 48))=9223372036854775807 - ((d.toNat:Int) - 48):=wrap_i64 _ (by omega);have e4:AA .quo (.int .i64 (9223372036854775807 - ((d.toNat:Int) - 48))) (.int .i64 10)=some (.int .i64 ((9223372036854775807 - ((d.toNat:Int) - 48)) / 10)):=by
    rw [AKx _ _ .i64 (by decide),Int.tdiv_eq_ediv_of_nonneg (by omega),wrap_i64 _ (by omega)]
   repeat' (first|refine zqa ?_|refine zqh (λ_=>?_)|refine zqr ?_|refine zqb ?_|refine zqi ?_ ?_|refine zqc ?_|refine zqg (λ_=>?_) (λ_=>?_)|(simp only [SSd,Nat.reduceAdd,e1,e2,e3,e4]))
   ·rename_i hgt
    have hgt:=of_decide_eq_true hgt;rw [if_pos hgt] at hm;exact zAE (L1++(b,LBo s a' (.slice aw wordsL.length kw))::L2) (zAA ((hbad 172 (by rw [hone,hm])).2 I2 a' _ _ _ (zAC _)))
   ·rename_i hgt
    have hgt:=of_decide_eq_false hgt;rw [if_neg hgt] at hm;have hle:n≤(9223372036854775807 - ((d.toNat:Int) - 48)) / 10:=by omega
    have e5:IntKind.i64.wrap (10 * n)=10 * n:=wrap_i64 _ (by omega);have e6:IntKind.i64.wrap (10 * n+((d.toNat:Int) - 48))=10 * n+((d.toNat:Int) - 48):=wrap_i64 _ (by omega);rw [e5,e6];exact zAA ⟨m - 1,by omega,j+1,10 * n+((d.toNat:Int) - 48),by omega,rfl,trivial,rfl,by omega,by omega,hm⟩
  ·try refine zqe ?_
   have hjn:ds.drop j=[]:=List.drop_eq_nil_of_le he;rw [hjn] at hm;have hm:Ij ds 0=some n:=hm;simp only [hm] at hone;unfold AGo;refine Em ?_;try refine zqe ?_
   refine EO ?_;try refine zqe ?_
   refine EO ?_;try refine zqe ?_
   refine DN (λhb=>?_) (λhb=>?_)
   ·have hb:a' < s.length:=by
     have:=of_decide_eq_true hb;omega
    obtain ⟨c2,hc2,hd2⟩:=TY hb;refine EO ?_;try refine zqe ?_
    refine EO ?_;simp only [ixS s hc2,SSd,Nat.reduceAdd];refine call (Fe c2 ?_);have hany:((s.drop a).dropWhile Az).head?.any BN=BN c2:=by rw [←hdr,hd2];rfl
    rw [hany] at hone;refine AB (λhl2=>?_) (λhl2=>?_)
    ·unfold AGn;repeat' (first|refine zqa ?_|refine zqh (λ_=>?_)|refine zqr ?_|refine zqb ?_|refine zqi ?_ ?_|refine zqc ?_|refine zqg (λ_=>?_) (λ_=>?_)|refine zqe ?_|fail)
     exact zAE (L1++(b,LBo s a' (.slice aw wordsL.length kw))::L2) (zAA ((hbad 172 (by rw [hone,if_pos hl2])).2 I2 a' _ _ _ (zAC _)))
    ·unfold Vo;repeat' (first|refine zqa ?_|refine zqh (λ_=>?_)|refine zqr ?_|refine zqb ?_|refine zqi ?_ ?_|refine zqc ?_|refine zqg (λ_=>?_) (λ_=>?_)|refine zqe ?_|fail)
     exact zAE (L1++(b,LBo s a' (.slice aw wordsL.length kw))::L2) (zAA (hok ⟨3,a,[],n⟩ _ (by rw [hone,if_neg (by simpa using hl2)]) I2 a' (zAC _) hlt h2 hdr))
   ·have hb:¬a' < s.length:=by
     have hb:¬((a':Int) < s.length):=by simpa using hb
     omega
    have hany:((s.drop a).dropWhile Az).head?.any BN=false:=by
     rw [←hdr,List.drop_eq_nil_of_le (by omega)];rfl
    rw [hany] at hone;unfold Vo;repeat' (first|refine zqa ?_|refine zqh (λ_=>?_)|refine zqr ?_|refine zqb ?_|refine zqi ?_ ?_|refine zqc ?_|refine zqg (λ_=>?_) (λ_=>?_)|refine zqe ?_|fail)
    exact zAE (L1++(b,LBo s a' (.slice aw wordsL.length kw))::L2) (zAA (hok ⟨3,a,[],n⟩ _ (by rw [hone];rfl) I2 a' (zAC _) hlt h2 hdr))
 ·have hg:Az c=false:=by simpa using hg
  have hone:Dj a (s.drop a)=if c==34||c==39 then (match CG c (s.drop (a+1)) with
   |none=>.bad 173
   |some (x,r')=>if c==34 then (if x.isEmpty||decide (63 < x.length) then .bad 173 else .tok ⟨1,a,x,0⟩ r') else .tok ⟨4,a,x,0⟩ r') else
   match Il (s.drop a) with
   |none=>.bad 171
   |some x=>.tok ⟨5,a,if x=[33,61] then [60,62] else x,0⟩ ((s.drop a).drop x.length):=by
   rw [hd];simp only [Dj];rw [if_neg (by rw [hl];decide),if_neg (by rw [hg];decide)];split
   ·cases CG c (s.drop (a+1)) <;> rfl
   ·cases Il (c::s.drop (a+1)) <;> rfl
  have e34:((c.toNat:Int)==34)=(c==34):=XZ c 34;have e39:((c.toNat:Int)==39)=(c==39):=XZ c 39;simp only [e34,e39,SSd,Nat.reduceAdd];have quo:(c==34||c==39)=true→NP ω (AP b) (AP b1) (.int .i64 0) (AP bt) (.int .u8 c.toNat) (.bool true) (λv=>Gh (K v)) I ((bt,.cells [.int .i64 0,.int .i64 (a:Nat),.string ⟨#[]⟩,.int .i64 0].toArray 93 (0,0))::(b1,.cells [.int .i64 0,.int .i64 0,.string ⟨#[]⟩,.int .i64 0].toArray 93 (0,0))::(L1++(b,LBo s a (.slice aw wordsL.length kw))::L2)):=by
   intro hq;rw [if_pos hq] at hone;have hc0:c≠0:=by rintro rfl;simp at hq
   unfold NP;try refine zqe ?_
   refine call (YD (s:=s) (a:=a) (w:=.slice aw wordsL.length kw) c hc0 ha hs (λhn x=>?_) (λx r hy a' h1 h2 hdr=>?_))
   ·rw [hn] at hone;repeat' (first|refine zqa ?_|refine zqh (λ_=>?_)|refine zqr ?_|refine zqb ?_|(with_reducible first|refine Bl (sh92_11.eq_1 ..) ?_|refine Bl (sh92_3.eq_1 ..) ?_|refine And.intro ?_ ?_)|refine zqc ?_|refine zqg (λ_=>?_) (λ_=>?_)|(simp only [SSd,Nat.reduceAdd,e34]))
    all_goals exact zAE (L1++(b,LBo s a (.slice aw wordsL.length kw))::L2) (zAA ((hbad 173 hone).2 I a _ _ _ (zAC _)))
   ·rw [hy] at hone;simp only at hone
    repeat' (first|refine zqa ?_|refine zqh (λ_=>?_)|refine zqr ?_|refine zqb ?_|(with_reducible first|refine Bl (sh92_11.eq_1 ..) ?_|refine Bl (sh92_3.eq_1 ..) ?_|refine And.intro ?_ ?_)|refine zqc ?_|refine zqg (λ_=>?_) (λ_=>?_)|(simp only [SSd,Nat.reduceAdd,e34]))
    all_goals clear hw
    all_goals first
     |exact zAE (L1++(b,LBo s a' (.slice aw wordsL.length kw))::L2) (zAA ((hbad 173 (by rw [hone];first|(clear hok hbad;simp_all [List.isEmpty_iff];done)|(clear hok hbad;simp_all [List.isEmpty_iff] <;> omega))).2 I a' _ _ _ (zAC _)))
     |exact zAE (L1++(b,LBo s a' (.slice aw wordsL.length kw))::L2) (zAA (hok ⟨1,a,x,0⟩ _ (by rw [hone];first|(clear hok hbad;simp_all [List.isEmpty_iff];done)|(clear hok hbad;simp_all [List.isEmpty_iff] <;> omega)) I a' (zAC _) h1 h2 hdr))
     |exact zAE (L1++(b,LBo s a' (.slice aw wordsL.length kw))::L2) (zAA (hok ⟨4,a,x,0⟩ _ (by rw [hone];first|(clear hok hbad;simp_all [List.isEmpty_iff];done)|(clear hok hbad;simp_all [List.isEmpty_iff] <;> omega)) I a' (zAC _) h1 h2 hdr))
  refine AB (λh34=>?_) (λh34=>?_)
  ·rw [show (c==34)=true from h34];exact quo (by simp [show (c==34)=true from h34])
  have h34:(c==34)=false:=by simpa using h34
  cases h39:(c==39) with
  |true=>exact quo (by simp [h39])
  |false=>
   rw [h34,h39] at hone;simp only [Bool.or_self,Bool.false_eq_true,if_false] at hone;unfold NP;try refine zqe ?_
   refine rdB rfl ?_;refine call (AEl (s:=s) (a:=a) (w:=.slice aw wordsL.length kw) ha hs a (λhn I' hI'=>?_) (λx hx hle I' hI'=>?_))
   ·rw [hn] at hone;simp only at hone
    repeat' (first|refine zqa ?_|refine zqh (λ_=>?_)|refine zqr ?_|refine zqb ?_|refine zqi ?_ ?_|refine zqc ?_|refine zqg (λ_=>?_) (λ_=>?_)|refine zqe ?_|fail)
    exact zAE (L1++(b,LBo s a (.slice aw wordsL.length kw))::L2) (zAA ((hbad 171 hone).2 I' a _ _ _ hI'))
   ·rw [hx] at hone;simp only at hone
    have hx0:0 < x.length:=by
     have:x∈signsL:=List.mem_of_find?_eq_some hx;simp only [signsL,List.mem_cons,List.not_mem_nil,or_false] at this;rcases this with rfl|rfl|rfl|rfl|rfl|rfl|rfl|rfl|rfl|rfl|rfl|rfl|rfl|rfl|rfl|rfl|rfl|rfl <;> decide
    repeat' (first|refine zqa ?_|refine zqh (λ_=>?_)|refine zqr ?_|refine zqb ?_|refine zqi ?_ ?_|refine zqc ?_|refine zqg (λ_=>?_) (λ_=>?_)|refine zqe ?_|fail)
    exact zAE (L1++(b,LBo s (a+x.length) (.slice aw wordsL.length kw))::L2) (zAA (hok _ _ hone I' (a+x.length) hI' (by omega) hle (by rw [List.drop_drop])))
end
abbrev WrO (p v w:Value):Obj:=.cells [p,v,w].toArray 113 (0,0)
theorem ALK:liesAt Tryz.prog Tryz.prog.depth 113 (3 / Tryz.prog.cellsOf 113) 0 111 1=true:=by kernel_rfl
def WrS (b:Nat)(w:Value)(X:LH)(l:Bs):Prop:=∃p v X0,BuP b p∧SlO 5 1 X0 v (Lib.byteCells l) l.length∧X=X0++[(b,WrO p v w)]
section
variable {ω:Om}{I:Imm}{L F:LH}{K:Value→M}{b:Nat}{w:Value}{X:LH}{l:Bs}
theorem Py {p v:Value}{L1 L2:LH}(hp:BuP b p)(hk:K (.tuple #[]) I (L1++(b,WrO (AP b) v w)::L2)):CT ω 209 #[AP b] K I (L1++(b,WrO p v w)::L2):=by
 refine AKA ?_;unfold AHS;rcases hp with rfl|rfl
 ·have e1:Ie .eql (.pointer none) (.pointer none)=some (.bool true):=rfl;simp only [e1,SSd,Nat.reduceAdd];refine rdb ?_;simp only [e1,SSd,Nat.reduceAdd];refine ⟨_,⟨b,0,[.pointer none,v,w].toArray,113,(0,0),rfl,.inr (by simp),by simp,rfl⟩,?_⟩;refine YU (zAA ?_);refine ⟨_,⟨b,0,[.pointer none,v,w].toArray,113,(0,0),rfl,.inr (by simp),ALK,rfl⟩,?_⟩;repeat' (first|refine zqa ?_|refine zqh (λ_=>?_)|refine zqr ?_|refine zqb ?_|refine zqi ?_ ?_|refine zqc ?_|refine zqg (λ_=>?_) (λ_=>?_)|refine zqe ?_|fail)
  exact zAE _ (zAA hk)
 ·try refine zqe ?_
  refine rdb ?_;have e2:Ie .neq (AP b) (AP b)=some (.bool false):=by simp [Ie]
  simp only [IB,SSd,Nat.reduceAdd];refine rdb ?_;simp only [e2,SSd,Nat.reduceAdd];exact zAA hk
theorem XO [hs:SplitL X L F](hW:WrS b w X l)(t:Bs)(hn:(l++t).length≤1000000000)(hk:∀X',WrS b w X' (l++t)→∀v,K v I (X'++F)):CT ω 172 #[AP b,.string ⟨t.toArray⟩] K I L:=by
 obtain ⟨p,v,X0,hp,hX,rfl⟩:=hW;rw [List.length_append] at hn;refine zAQ (X0++[(b,WrO p v w)]) ?_;rw [List.append_assoc,List.cons_append,List.nil_append];refine AKC ?_;unfold AHW;refine call (Py hp ?_);try refine zqe ?_
 refine rdb ?_;refine Ee (X:=X0) (n:=1) (m:=t.length) rfl hX (news:=Lib.byteCells t) (.inr (.inr ⟨⟨t.toArray⟩,rfl,rfl,rfl,rfl⟩)) (λu hu=>?_) (by omega) (by omega) (λX2 v2 hX2=>?_)
 ·obtain ⟨c,_,rfl⟩:=List.mem_map.1 hu;rfl
 have hX2:SlO 5 1 X2 v2 (Lib.byteCells (l++t)) (l++t).length:=by rw [Lib.byteCells_append];simpa using hX2
 obtain ⟨a2,k2,rfl⟩:=hX2.form;repeat' (first|refine zqa ?_|refine zqh (λ_=>?_)|refine zqr ?_|refine zqb ?_|refine zqi ?_ ?_|refine zqc ?_|refine zqg (λ_=>?_) (λ_=>?_)|refine zqe ?_|fail)
 refine zAA ?_;have:=hk (X2++[(b,WrO (AP b) (.slice a2 (l++t).length k2) w)]) ⟨_,_,X2,.inr rfl,hX2,rfl⟩ (.tuple #[.int .i64 t.length,.nilIface]);rwa [List.append_assoc,List.cons_append,List.nil_append] at this
theorem Vb [hs:SplitL X L F](hW:WrS b w X l)(h0:l≠[])(hn:l.length≤1000000000)(hk:∀X',K (.string ⟨l.toArray⟩) I (X'++F)):CT ω 59 #[AP b] K I L:=by
 obtain ⟨p,v,X0,hp,hX,rfl⟩:=hW;refine zAQ (X0++[(b,WrO p v w)]) ?_;rw [List.append_assoc,List.cons_append,List.nil_append];refine API ?_;unfold APt;obtain ⟨a,cap,rfl⟩:=hX.form;have hlenV:lenV (.slice a l.length cap)=some (.int .i64 l.length):=rfl;refine Em ?_;try refine zqe ?_
 refine EO ?_;have hpos:0 < l.length:=List.length_pos_iff.2 h0;obtain ⟨hcl,hX⟩:=hX;rcases hX with ⟨_,h0',_⟩|⟨bb,cap',cs,rfl,e,hcs,hle,hcell⟩
 ·omega
 ·simp only [Value.slice.injEq] at e;obtain ⟨rfl,_,rfl⟩:=e;obtain ⟨k,rfl⟩:∃k,cap=k+1:=⟨cap - 1,by omega⟩;have hq:AET (.slice (some ⟨bb,0,none⟩) l.length (k+1))=some (.pointer (some ⟨bb,0,none⟩)):=rfl;simp only [hq,SSd,Nat.reduceAdd];refine EO ?_;try refine zqe ?_
  refine .inr ⟨bb,cs,(0,0),l,[],(b,WrO p (.slice (some ⟨bb,0,none⟩) l.length (k+1)) w)::F,rfl,rfl,h0,by omega,by omega,rfl,λj u hu=>hcell j _ ?_,zAA (zAA ?_)⟩
  ·simp [Lib.byteCells,hu]
  ·have:=hk [(bb,.cells cs 5 (frz (0,0) l.length)),(b,WrO p (.slice (some ⟨bb,0,none⟩) l.length (k+1)) w)];simpa using this
theorem YJ {v:Value}{ts:List Bs}(hW:WrS b w X l)(hv:StL I v ts)(hts:ts.length≤1000)(hn:(l++ts.flatten).length≤1000000000)(hk:∀X',WrS b w X' (l++ts.flatten)→K (.tuple #[]) I (X'++F)):Xo ω (AP b) v (λv=>Gh (K v)) I (X++F):=by
 unfold Xo;simp only [zAM hv,SSd,Nat.reduceAdd];refine loop (λq st I' L'=>∃(k:Nat) (X':LH),k+q=ts.length∧st=(.int .i64 k,())∧I'=I∧L'=X'++F∧WrS b w X' (l++(ts.take k).flatten)) ts.length ⟨0,X,by omega,rfl,rfl,rfl,by simpa using hW⟩ ?_;rintro q st I' L' ⟨k,X',hkq,rfl,rfl,rfl,hW'⟩;unfold ACx;try refine zqe ?_
 refine AB (λhb=>?_) (λhb=>?_)
 ·have hb:k < ts.length:=by
   have:=of_decide_eq_true hb;omega
  obtain ⟨bt,off,c1,g1,gl,g2,g3⟩:=zAS hv (i:=k) (by omega) (by omega);rw [Af hb] at g2;obtain rfl:=g2;simp only [g1,SSd,Nat.reduceAdd];refine rdC (g3 _ [] (zAC _) (λ_ h=>h) 0 _ rfl) (zAC _) ?_;have hfl:(ts.take (k+1)).flatten=(ts.take k).flatten++ts[k]:=by rw [List.take_succ_eq_append_getElem hb,List.flatten_append];simp only [List.flatten_cons,List.flatten_nil,List.append_nil]
  have hle:(ts.take (k+1)).flatten.length≤ts.flatten.length:=by
   have h:ts.flatten=(ts.take (k+1)).flatten++(ts.drop (k+1)).flatten:=by rw [←List.flatten_append,List.take_append_drop]
   rw [h,List.length_append];omega
  rw [hfl,List.length_append] at hle;rw [List.length_append] at hn;refine call (XO (X:=X') hW' ts[k] (by simp only [List.length_append];omega) (λX2 hW2 v=>?_));simp only [wrap_i64 ((k:Int)+1) (by omega),SSd,Nat.reduceAdd];refine zAA ⟨q - 1,by omega,k+1,X2,by omega,rfl,rfl,rfl,?_⟩;rw [hfl,←List.append_assoc];exact hW2
 ·have hb:¬k < ts.length:=by
   have:=of_decide_eq_false hb;omega
  rw [List.take_of_length_le (by omega)] at hW';exact zAA (hk X' hW')
theorem JK {v:Value}{ts:List Bs}[hs:SplitL X L F](hW:WrS b w X l)(hv:StL I v ts)(hts:ts.length≤1000)(hn:(l++ts.flatten).length≤1000000000)(hk:∀X',WrS b w X' (l++ts.flatten)→K (.tuple #[]) I (X'++F)):CT ω 113 #[AP b,v] K I L:=
 zAQ X (ASy (YJ hW hv hts hn hk))
theorem AFg {v:Value}{ts:List Bs}(hW:WrS b w X l)(hv:StL I v ts)(hts:ts.length≤1000)(hn:(l++ts.flatten).length≤1000000000)(hk:∀X',WrS b w X' (l++ts.flatten)→K (.tuple #[]) I (X'++F)):CalD Tryz.prog ω 113 #[AP b,v] K I (X++F):=
 AMz (YJ hW hv hts hn hk)
theorem BP {K':M}{z:Array Value}{s:Bs}[hs:SplitL X L F](hW:WrS b w X l)(hn:(l++s).length≤1000000000)(hk:∀I' X',Ext I I'→WrS b w X' (l++s)→K' I' (X'++F)):
  AY 9 1 z 1 [(0,.string ⟨s.toArray⟩)] (gh λv=>CT ω 113 #[AP b,v] (gh λ_=>K')) I L:=by
 refine Eo [s] rfl rfl (λI' a hI' hw'=>zAA ?_);refine call (JK hW hw' (by simp) (by simpa using hn) (λX' hW'=>hk I' X' hI' (by simpa using hW')))
theorem AWQ {K':M}{z:Array Value}{s t:Bs}[hs:SplitL X L F](hW:WrS b w X l)(hn:(l++(s++t)).length≤1000000000)(hk:∀I' X',Ext I I'→WrS b w X' (l++(s++t))→K' I' (X'++F)):
  AY 9 1 z 2 [(0,.string ⟨s.toArray⟩),(1,.string ⟨t.toArray⟩)] (gh λv=>CT ω 113 #[AP b,v] (gh λ_=>K')) I L:=by
 refine Eo [s,t] rfl rfl (λI' a hI' hw'=>zAA ?_);refine call (JK hW hw' (by simp) (by simpa using hn) (λX' hW'=>hk I' X' hI' (by simpa using hW')))
theorem AQT {K':M}{z:Array Value}{s t u:Bs}[hs:SplitL X L F](hW:WrS b w X l)(hn:(l++(s++(t++u))).length≤1000000000)(hk:∀I' X',Ext I I'→WrS b w X' (l++(s++(t++u)))→K' I' (X'++F)):
  AY 9 1 z 3 [(0,.string ⟨s.toArray⟩),(1,.string ⟨t.toArray⟩),(2,.string ⟨u.toArray⟩)] (gh λv=>CT ω 113 #[AP b,v] (gh λ_=>K')) I L:=by
 refine Eo [s,t,u] rfl rfl (λI' a hI' hw'=>zAA ?_);refine call (JK hW hw' (by simp) (by simpa using hn) (λX' hW'=>hk I' X' hI' (by simpa using hW')))
end
def Fp (q:UInt8)(s:Bs):Nat:=(s.filter (·==q)).length
def Eg (q:UInt8)(s:Bs):Bs:=s.flatMap λc=>if c==q then [q,q] else [c]
theorem Qx {q c:UInt8}(s:Bs)(h:(c==q)=true):Fp q (c::s)=Fp q s+1:=by
 unfold Fp;simp only [List.filter_cons,h,if_true,List.length_cons]
theorem OH {q c:UInt8}(s:Bs)(h:¬(c==q)=true):Fp q (c::s)=Fp q s:=by
 unfold Fp;simp only [List.filter_cons,h];simp
theorem AMv {q c:UInt8}(s:Bs)(h:(c==q)=true):Eg q (c::s)=q::q::Eg q s:=by
 unfold Eg;simp only [List.flatMap_cons,h,if_true];rfl
theorem ADx {q c:UInt8}(s:Bs)(h:¬(c==q)=true):Eg q (c::s)=c::Eg q s:=by
 unfold Eg;simp only [List.flatMap_cons,h];rfl
theorem XB (q:UInt8):∀s:Bs,(Eg q s).length=s.length+Fp q s
 |[]=>rfl
 |c::s=>by
  have ih:=XB q s;by_cases h:(c==q)=true
  ·rw [AMv s h,Qx s h];simp only [List.length_cons,ih];omega
  ·rw [ADx s h,OH s h];simp only [List.length_cons,ih];omega
theorem Yv (q:UInt8):∀(s:Bs) (n:Int),s.foldl (λn x=>if x==q then n+1 else n) n=n+Fp q s
 |[],n=>by simp [Fp]
 |c::s,n=>by
  simp only [List.foldl_cons];rw [Yv q s];by_cases h:(c==q)=true
  ·rw [if_pos h,Qx s h];omega
  ·rw [if_neg h,OH s h]
theorem OG (q:UInt8)(a b:Bs):Eg q (a++b)=Eg q a++Eg q b:=by simp [Eg]
theorem XA (q:UInt8):∀s:Bs,Fp q s=0→Eg q s=s
 |[],_=>rfl
 |c::s,h=>by
  by_cases hc:(c==q)=true
  ·rw [Qx s hc] at h;omega
  ·rw [OH s hc] at h;rw [ADx s hc,XA q s h]
theorem VK (q:UInt8):∀s:Bs,Fp q s≠0→∃i,LC s q=(i:Nat)∧i < s.length∧Fp q (s.take i)=0∧s.drop i=q::s.drop (i+1)∧Fp q (s.drop (i+1))+1=Fp q s
 |[],h=>absurd rfl h
 |c::s,h=>by
  by_cases hc:(c==q)=true
  ·have hc':c=q:=by simpa using hc
   subst hc';refine ⟨0,by simp [LC,List.findIdx?_cons],by simp,rfl,rfl,?_⟩;rw [Qx s hc];rfl
  ·rw [OH s hc] at h ⊢;obtain ⟨i,h1,h2,h3,h4,h5⟩:=VK q s h;refine ⟨i+1,?_,by simp;omega,?_,by simpa using h4,by simpa using h5⟩
   ·unfold LC at h1 ⊢;rw [List.findIdx?_cons,if_neg hc];cases hf:s.findIdx? (·==q) with
    |none=>rw [hf] at h1;simp only at h1;omega
    |some j=>rw [hf] at h1;simp only [Option.map_some] at h1 ⊢;omega
   ·rw [List.take_succ_cons,OH _ hc];exact h3
theorem cnt_le (q:UInt8)(s:Bs):Fp q s≤s.length:=List.length_filter_le _ _
section
variable {ω:Om}{I:Imm}{L:LH}{K:Value→M}
theorem Xu (s:Bs)(q:UInt8)(hk:K (.int .i64 (Fp q s:Nat)) I L):CT ω 239 #[.string ⟨s.toArray⟩,.string ⟨[q].toArray⟩] K I L:=by
 refine ART ?_;unfold ANb;have hq:([q]:Bs)[0]? =some q:=rfl;simp only [WP,List.length_cons,List.length_nil,show ((0+1:Nat):Int)=1 from rfl,show ((1:Int)==0)=false from rfl,show ((1:Int)==1)=true from rfl,show (.int .i64 0:Value)= .int .i64 ((0:Nat):Int) from rfl,ixS [q] hq,SSd,Nat.reduceAdd];refine ExtE.ret ⟨_,λw hs=>?_,zAA (zAA hk)⟩;show Sem.run _ (do
  let b ←Extern.Bytes.bytesOf (.string ⟨s.toArray⟩)
  let c ←Extern.Bytes.asByte (.int .u8 q.toNat)
  pure (goInt (b.foldl (λn x=>if x==c then n+1 else n) (0:Nat)))) w=_
 have hc:((q.toNat:Int).toNat).toUInt8=q:=by simp
 simp only [Sem.run_bind,Extern.Bytes.bytesOf,Result.andThen_ok,Extern.Bytes.asByte,Sem.run_pure,hc];rw [Lib.foldl_data,show (⟨s.toArray⟩:ByteArray).data.toList=s from rfl,Yv];simp [goInt]
theorem QA (l:Bs)(c:UInt8)(hk:K (.int .i64 (LC l c)) I L):CT ω 188 #[.string ⟨l.toArray⟩,.int .u8 c.toNat] K I L:=by
 refine AKB ?_;unfold AHU;refine ExtE.ret ⟨_,λw hs=>?_,zAA (zAA hk)⟩;show Sem.run _ (do
  let b ←Extern.Bytes.bytesOf (.string ⟨l.toArray⟩)
  let c ←Extern.Bytes.asByte (.int .u8 c.toNat)
  match (List.range b.size).find? λi=>b[i]! ==c with
  |some i=>pure (goInt i)
  |none=>pure (goInt (-1))) w=_
 have hc:((c.toNat:Int).toNat).toUInt8=c:=by simp
 simp only [Sem.run_bind,Extern.Bytes.bytesOf,Result.andThen_ok,Extern.Bytes.asByte,Sem.run_pure,hc,Yk];unfold LC;cases l.findIdx? (·==c) <;> rfl
theorem Ya (s:Bs)(q:UInt8)(hk:K (.int .i64 (LC s q)) I L):CT ω 240 #[.string ⟨s.toArray⟩,.string ⟨[q].toArray⟩] K I L:=by
 refine ARS ?_;unfold ANa;refine call ?_;refine ARQ ?_;unfold ANX;have hq:([q]:Bs)[0]? =some q:=rfl;simp only [WP,sEq,List.length_cons,List.length_nil,show ((0+1:Nat):Int)=1 from rfl,show ((1:Int)==0)=false from rfl,show ((1:Int)==1)=true from rfl,SSd,Nat.reduceAdd];refine AB (λhe=>?_) (λhe=>?_)
 ·have he:[q]=s:=by simpa using he
  subst he;have:LC [q] q=0:=by simp [LC,List.findIdx?_cons]
  rw [this] at hk;exact zAA (zAA hk)
 ·unfold ACF;simp only [show ((1:Int)==1)=true from rfl,show (.int .i64 0:Value)= .int .i64 ((0:Nat):Int) from rfl,ixS [q] hq,SSd,Nat.reduceAdd];exact call (QA s q (zAA (zAA hk)))
theorem WS (s:Bs)(q:UInt8)(hs:(Eg q s).length≤1000000000)(hk:K (.string ⟨(Eg q s).toArray⟩) I L):CT ω 210 #[.string ⟨s.toArray⟩,.string ⟨[q].toArray⟩,.string ⟨[q,q].toArray⟩] K I L:=by
 refine ARf ?_;unfold ANk;refine call ?_;refine ARY ?_;unfold ANe;have hne:(([q]:Bs)==[q,q])=false:=by simp
 simp only [sEq,hne,show ((-1:Int)==0)=false from rfl,SSd,Nat.reduceAdd];refine call (Xu s q ?_);try refine zqe ?_
 have hlen:=XB q s;refine AB (λh0=>?_) (λh0=>?_)
 ·have h0:Fp q s=0:=by
   have:((Fp q s:Nat):Int)=0:=by simpa using h0
   omega
  rw [XA q s h0] at hk;exact zAA (zAA hk)
 have h0:Fp q s≠0:=by
  have:¬((Fp q s:Nat):Int)=0:=by simpa using h0
  omega
 unfold ACH;simp only [show decide ((-1:Int) < 0)=true from rfl,SSd,Nat.reduceAdd];unfold QN;refine Ac (λb=>?_);have hcl:=cnt_le q s;have e1:IntKind.i64.wrap (((2:Nat):Int) - ((1:Nat):Int))=1:=rfl;have e2:IntKind.i64.wrap ((Fp q s:Int) * 1)=Fp q s:=by rw [Int.mul_one];exact wrap_i64 _ (by omega)
 have e3:IntKind.i64.wrap ((s.length:Int)+Fp q s)=((s.length+Fp q s:Nat):Int):=by rw [wrap_i64 _ (by omega)];omega
 simp only [WP,List.length_cons,List.length_nil,Nat.zero_add,Nat.reduceAdd,e1,e2,e3,SSd,Nat.reduceAdd];refine call (VL (b:=b) (p:=.pointer none) (.inl rfl) (by omega) (by omega) (λX v hX hb=>?_));simp only [show decide (((1:Nat):Int) > 0)=true from rfl,show decide ((0:Int) < ((1:Nat):Int))=true from rfl,SSd,Nat.reduceAdd];refine loop (λm st I' L'=>∃(k a:Nat) (X':LH) (v':Value),k+m=Fp q s∧st=(Value.int .i64 (a:Nat),Value.int .i64 (k:Nat),())∧I'=I∧L'=X'++((b,BuB (AP b) v')::L)∧a≤s.length∧Fp q (s.drop a)+k=Fp q s∧SlO 5 1 X' v' (Lib.byteCells (Eg q (s.take a))) (Eg q (s.take a)).length) (Fp q s) ⟨0,0,X,v,by omega,rfl,rfl,rfl,Nat.zero_le _,rfl,hX⟩ ?_;rintro m st I' L' ⟨k,a,X',v',hkm,rfl,rfl,rfl,ha,hck,hX'⟩;unfold ACG;try refine zqe ?_
 have hle:(Eg q s).length=(Eg q (s.take a)).length+(Eg q (s.drop a)).length:=by
  rw [←List.length_append,←OG,List.take_append_drop]
 refine AB (λhb=>?_) (λhb=>?_)
 ·have hb:k < Fp q s:=by
   have:=of_decide_eq_true hb;omega
  obtain ⟨i,g1,g2,g3,g4,g5⟩:=VK q (s.drop a) (by omega);have hal:a+i < s.length:=by rw [List.length_drop] at g2;omega
  have e4:IntKind.i64.wrap ((a:Int)+(i:Nat))=((a+i:Nat):Int):=by rw [wrap_i64 _ (by omega)];omega
  have e5:IntKind.i64.wrap (((a+i:Nat):Int)+((1:Nat):Int))=((a+i+1:Nat):Int):=by rw [wrap_i64 _ (by omega)];omega
  simp only [AAL s ha,SSd,Nat.reduceAdd];refine call (Ya (s.drop a) q ?_);simp only [g1,e4,slS s (Nat.le_add_right a i) (Nat.le_of_lt hal),Nat.add_sub_cancel_left,SSd,Nat.reduceAdd];have hp1:Eg q ((s.drop a).take i)=(s.drop a).take i:=XA q _ g3;have htk:s.take (a+i)=s.take a++(s.drop a).take i:=by rw [List.take_add]
  have hgc:s[a+i]=q:=by
   rw [List.drop_eq_getElem_cons g2] at g4;simp only [List.cons.injEq] at g4;simpa using g4.1
  have htk1:s.take (a+i+1)=s.take a++((s.drop a).take i++[q]):=by
   rw [List.take_succ_eq_append_getElem hal,hgc,htk,List.append_assoc]
  have hdt:Eg q (s.take (a+i+1))=Eg q (s.take a)++((s.drop a).take i++[q,q]):=by
   rw [htk1,OG,OG,hp1];simp [Eg]
  have hle2:(Eg q (s.take (a+i+1))).length≤(Eg q s).length:=by
   have h:Eg q s=Eg q (s.take (a+i+1))++Eg q (s.drop (a+i+1)):=by rw [←OG,List.take_append_drop]
   rw [h,List.length_append];omega
  have hl3:(Eg q (s.take (a+i+1))).length=(Eg q (s.take a)).length+(((s.drop a).take i).length+2):=by rw [hdt];simp
  refine call (Es (b:=b) (X:=X') (.inr rfl) hX' (by omega) ((s.drop a).take i) (by omega) (λX2 v2 hX2=>?_));refine call (Es (b:=b) (X:=X2) (.inr rfl) hX2 (by rw [List.length_append];omega) [q,q] (by simp) (λX3 v3 hX3=>?_));simp only [List.length_cons,List.length_nil,Nat.zero_add,e5,wrap_i64 ((k:Int)+1) (by omega),SSd,Nat.reduceAdd];rw [List.append_assoc,←hdt] at hX3;refine zAA ⟨m - 1,by omega,k+1,a+i+1,X3,v3,by omega,rfl,rfl,rfl,by omega,?_,hX3⟩;rw [show s.drop (a+i+1)=(s.drop a).drop (i+1) by rw [List.drop_drop];congr 1];omega
 ·have hb:¬k < Fp q s:=by
   have:=of_decide_eq_false hb;omega
  have hd0:=XA q (s.drop a) (by omega);unfold Vx;simp only [AAL s ha,SSd,Nat.reduceAdd];rw [hd0] at hle;refine call (Es (b:=b) (X:=X') (.inr rfl) hX' (by omega) (s.drop a) (by omega) (λX2 v2 hX2=>?_));have hfin:Eg q (s.take a)++s.drop a=Eg q s:=by
   rw [←hd0,←OG,List.take_append_drop]
  rw [hfin] at hX2;have hpos:0 < (Eg q s).length:=by omega
  have hbuf:=SlO.buf hX2 hpos;refine call (Jz (b:=b) (X:=X2) hX2 hs (λh=>by rw [h] at hpos;simp at hpos) (λX4=>?_));exact zAA (zAE L (zAA hk))
end
section
variable {ω:Om}{I:Imm}{L F:LH}{K:Value→M}{b:Nat}{w:Value}{X:LH}{l:Bs}
theorem SN [hs:SplitL X L F](hW:WrS b w X l)(s:Bs)(q:UInt8)(hn:(l++FV q s).length≤1000000000)(hk:∀I' X',Ext I I'→WrS b w X' (l++FV q s)→K (.tuple #[]) I' (X'++F)):
  CT ω 173 #[AP b,.string ⟨s.toArray⟩,.string ⟨[q].toArray⟩] K I L:=by
 refine ASG ?_;unfold AOH;have e1:Ah .add (.string ⟨[q].toArray⟩) (.string ⟨[q].toArray⟩)=some (.string ⟨[q,q].toArray⟩):=by
  exact AWP (a:=[q]) (b:=[q]) (by simp)
 simp only [e1,SSd,Nat.reduceAdd];have hq:FV q s=[q]++(Eg q s++[q]):=rfl;rw [hq] at hn hk;have hd:(Eg q s).length≤1000000000:=by simp only [List.length_append] at hn;omega
 refine call (WS s q hd ?_);refine AQT hW hn (λI' X' hI' hW'=>?_);exact zAA (hk I' X' hI' hW')
end
theorem CalVP.mono {P:Program}{ω:Om}{x:Value}{args:Array Value}{K K' Pn Pn':Value→M}{I:Imm}{L:LH}(h:CalVP P ω x args K Pn I L)(hk:∀v I' L',K v I' L'→K' v I' L')(hp:∀v I' L',Pn v I' L'→Pn' v I' L'):CalVP P ω x args K' Pn' I L:=by
 unfold CalVP at *;cases x with
 |func f first cap=>
  cases f with
  |func f=>
   simp only at h ⊢
   cases he:CX P f with
   |true=>simp only [he,if_true] at h ⊢;exact CalP.mono h hk hp
   |false=>
    simp only [he,if_false,Bool.false_eq_true] at h ⊢;cases hx:TS P f with
    |some e=>simp only [hx] at h ⊢;intro w hs;obtain ⟨v,w',I',L',h1,h2,h3⟩:=h w hs;exact ⟨v,w',I',L',h1,h2,hk _ _ _ h3⟩
    |none=>simp only [hx] at h;exact h.elim
  |yield l=>
   intro w hs;obtain ⟨f,tmps,assign,body,h1,h2⟩:=h w hs;exact ⟨f,tmps,assign,body,h1,RoundIn.mono h2 λe w' ⟨v,I',L',h1,h2,h3⟩=>⟨v,I',L',h1,h2,hk _ _ _ h3⟩⟩
  |_=>exact h.elim
 |_=>exact h.elim
theorem GI {P:Program}{ω:Om}{x:Value}{args:Array Value}{K Pn:Value→M}{I:Imm}{L:LH}(h:CalVP P ω x args K Pn I L):CalVP P ω x args (SL.gh K) Pn I L:=CalVP.mono h (λ_ _ _ h=>zAA h) (λ_ _ _ h=>h)
theorem OI {P:Program}{ω:Om}{f:Nat}{first cap args:Array Value}{K Pn:Value→M}{I:Imm}{L:LH}(he:CX P f=true)(h:CalP P ω f (first++args++cap) K Pn I L):CalVP P ω (.func (.func f) first cap) args K Pn I L:=by
 unfold CalVP;simp only [he,if_true];exact h
def Zv {α:Type}(R:Imm→α→List Value→Prop)(I:Imm)(x:α)(v:Value):Prop:=∃c,v= .agg c.toArray∧R I x c
def ATQ (_:Imm)(x:Bs)(v:Value):Prop:=v= .string ⟨x.toArray⟩
def AWE {α:Type}(R:Imm→α→List Value→Prop)(n:Nat)(I:Imm)(x:List α)(v:Value):Prop:=RL R n I [] v x
def OneP {α:Type}(ω:Om)(n b:Nat)(g:Pr α)(V:Imm→α→Value→Prop)(fv:Value)(I0:Imm):Prop:=
 ∀(K Pn:Value→M) (I:Imm) (L:LH) (C:Obj→LH) (v:Value) (l:List Tok),Foc b L (PBo v) C→Ext I0 I→TL I v l→Toks l→l.length≤n→POk (g l) V l.length K C I→PEr (g l) Pn C I→CalVP Tryz.prog ω fv #[] K Pn I L
theorem Hf {α:Type}{R:Imm→α→List Value→Prop}{n:Nat}{I:Imm}{v:Value}{xs:List α}(h:RL R n I [] v xs):∃v',Hy n v none (some (.int .i64 xs.length)) (some (.int .i64 xs.length))=some v'∧RL R n I [] v' xs:=by
 obtain ⟨a',h1,h2⟩:=RL.clip h (Nat.le_refl _);rw [List.take_length] at h2;exact ⟨_,h1,h2⟩
section
variable {ω:Om}{I:Imm}{L:LH}{K Pn:Value→M}{C:Obj→LH}{b:Nat}{v:Value}{l:List Tok}
theorem ARF {w:Value}{xs:List (Ex)}(hw:RL ExV 11 I [] w xs)(hk:∀w',RL ExV 11 I [] w' xs→K w' I L):CT ω 200 #[w] K I L:=by
 refine ARn ?_;unfold ANq;obtain ⟨w',h1,h2⟩:=Hf hw;simp only [zAM hw,h1,SSd,Nat.reduceAdd];exact zAA (hk w' h2)
theorem AGU (n:Nat)(hn0:n≤1000000000){g:Pr (Ex)}{fv:Value}(hone:OneP ω n b g (Zv ExV) fv I)[hF:Foc b L (PBo v) C](h:TL I v l)(hT:Toks l)(hl:l.length≤n)
  (hok:POk (BG n g l) (λI x v=>RL ExV 11 I [] v x∧x.length≤l.length) l.length K C I) (herr:PEr (BG n g l) Pn C I):CalP Tryz.prog ω 147 #[AP b,fv] K Pn I L:=by
 obtain ⟨L1,L2,rfl,rfl⟩:=hF.foc;refine ASa ?_;unfold AOV;refine GI (hone _ _ I _ _ v l inferInstance (zAC _) h hT hl ?_ ?_)
 ·rintro x r hg hT1 hr I1 v1 c hI1 hTL1 hc;obtain ⟨cx,rfl,hx⟩:=hc;refine GK rfl (by omega) (by simpa [Value.cells] using ExV.len hx) (λX u hX=>?_);refine loop (λm s I2 Lx=>∃X v2 l2 w cells xs f,l2.length=m∧s=(w,())∧Ext I I2∧Lx=X++(L1++(b,PBo v2)::L2)∧TL I2 v2 l2∧Toks l2∧SlO 37 11 X w cells xs.length∧Recs (ExV I2) 11 xs cells∧l2.length≤f∧0 < xs.length∧xs.length+l2.length≤l.length+1∧BG n g l=Bq g f xs l2) r.length
   ⟨X,v1,r,u,_,[x],n,rfl,rfl,hI1,rfl,hTL1,hT1,hX,(by simpa [Value.cells] using Recs.one (ExV.len hx) hx),by omega,by simp,by simp;omega,by simp only [BG,hg,Res.bind]⟩ ?_
  rintro m s I2 Lx ⟨X,v2,l2,w,cells,xs,f,rfl,rfl,hI2,rfl,hTL2,hT2,hX,hR,hf,hpos,hlen,hm⟩;unfold ACh;refine Aj (Fa [44] hTL2 hT2 (λhb v3 hv3=>?_) (λhb=>?_))
  ·try refine zqe ?_
   have hl2:=hT2.len;obtain ⟨f,rfl⟩:∃k,f=k+1:=⟨f - 1,by omega⟩;simp only [Bq,hb,if_true] at hm;refine GI (hone _ _ I2 _ _ v3 l2.tail inferInstance hI2 hv3 (hT2.tailT hb) (by omega) ?_ ?_)
   ·rintro y r3 hg3 hT3 hr3 I3 v4 c hI3 hTL3 hc;have hR:=Recs.imp (R':=ExV I3) (λ_ _ h=>ExV.mono hI3 h) hR;obtain ⟨cy,rfl,hy⟩:=hc;refine Lc (X6:=X) rfl (by omega) hX hR hy (ExV.len hy) (ExV.one hy) (by omega) (by omega) (λX1 X6 w6 cells6 hX6 hR6=>zAE (X6++(L1++(b,PBo v4)::L2)) (zAA ⟨r3.length,by omega,X6,v4,r3,w6,cells6,xs++[y],f,rfl,rfl,zAB hI2 hI3,rfl,hTL3,hT3,hX6,hR6,by omega,by simp,by simp;omega,?_⟩));rw [hm];simp only [hg3,Res.bind]
   ·rintro e hg3 I3 v4 hI3;exact zAE (L1++(b,PBo v4)::L2) (herr e (by rw [hm];simp only [hg3,Res.bind]) I3 v4 (zAB hI2 hI3) |> zAA)
  ·try refine zqe ?_
   unfold ACg;refine CalP.pre (RL.ofO (R:=ExV) (λ{I I' x c} h hI=>ExV.mono hI h) hX hR (λI3 hI3 hw=>zAA ?_));refine Aj (ARF hw (λw' hw'=>?_));have hl2:=hT2.len;refine zAA (hok xs l2 ?_ hT2 ?_ I3 v2 w' (zAB hI2 hI3) (hTL2.mono hI3) ⟨hw',by omega⟩)
   ·rw [hm];cases f with
    |zero=>rfl
    |succ f=>simp [Bq,hb]
   ·omega
 ·rintro e hg I1 v1 hI1;exact zAA (herr e (by simp only [BG,hg,Res.bind]) I1 v1 hI1)
theorem ARD {w:Value}{xs:List (TItem)}(hw:RL TItemV 14 I [] w xs)(hk:∀w',RL TItemV 14 I [] w' xs→K w' I L):CT ω 197 #[w] K I L:=by
 refine ARq ?_;unfold ANs;obtain ⟨w',h1,h2⟩:=Hf hw;simp only [zAM hw,h1,SSd,Nat.reduceAdd];exact zAA (hk w' h2)
theorem APr (n:Nat)(hn0:n≤1000000000){g:Pr (TItem)}{fv:Value}(hone:OneP ω n b g (Zv TItemV) fv I)[hF:Foc b L (PBo v) C](h:TL I v l)(hT:Toks l)(hl:l.length≤n)
  (hok:POk (BG n g l) (λI x v=>RL TItemV 14 I [] v x∧x.length≤l.length) l.length K C I) (herr:PEr (BG n g l) Pn C I):CalP Tryz.prog ω 144 #[AP b,fv] K Pn I L:=by
 obtain ⟨L1,L2,rfl,rfl⟩:=hF.foc;refine ASd ?_;unfold AOX;refine GI (hone _ _ I _ _ v l inferInstance (zAC _) h hT hl ?_ ?_)
 ·rintro x r hg hT1 hr I1 v1 c hI1 hTL1 hc;obtain ⟨cx,rfl,hx⟩:=hc;refine GK rfl (by omega) (by simpa [Value.cells] using TItemV.len hx) (λX u hX=>?_);refine loop (λm s I2 Lx=>∃X v2 l2 w cells xs f,l2.length=m∧s=(w,())∧Ext I I2∧Lx=X++(L1++(b,PBo v2)::L2)∧TL I2 v2 l2∧Toks l2∧SlO 119 14 X w cells xs.length∧Recs (TItemV I2) 14 xs cells∧l2.length≤f∧0 < xs.length∧xs.length+l2.length≤l.length+1∧BG n g l=Bq g f xs l2) r.length
   ⟨X,v1,r,u,_,[x],n,rfl,rfl,hI1,rfl,hTL1,hT1,hX,(by simpa [Value.cells] using Recs.one (TItemV.len hx) hx),by omega,by simp,by simp;omega,by simp only [BG,hg,Res.bind]⟩ ?_
  rintro m s I2 Lx ⟨X,v2,l2,w,cells,xs,f,rfl,rfl,hI2,rfl,hTL2,hT2,hX,hR,hf,hpos,hlen,hm⟩;unfold ACj;refine Aj (Fa [44] hTL2 hT2 (λhb v3 hv3=>?_) (λhb=>?_))
  ·try refine zqe ?_
   have hl2:=hT2.len;obtain ⟨f,rfl⟩:∃k,f=k+1:=⟨f - 1,by omega⟩;simp only [Bq,hb,if_true] at hm;refine GI (hone _ _ I2 _ _ v3 l2.tail inferInstance hI2 hv3 (hT2.tailT hb) (by omega) ?_ ?_)
   ·rintro y r3 hg3 hT3 hr3 I3 v4 c hI3 hTL3 hc;have hR:=Recs.imp (R':=TItemV I3) (λ_ _ h=>TItemV.mono h hI3) hR;obtain ⟨cy,rfl,hy⟩:=hc;refine Lc (X6:=X) rfl (by omega) hX hR hy (TItemV.len hy) (TItemV.one hy) (by omega) (by omega) (λX1 X6 w6 cells6 hX6 hR6=>zAE (X6++(L1++(b,PBo v4)::L2)) (zAA ⟨r3.length,by omega,X6,v4,r3,w6,cells6,xs++[y],f,rfl,rfl,zAB hI2 hI3,rfl,hTL3,hT3,hX6,hR6,by omega,by simp,by simp;omega,?_⟩));rw [hm];simp only [hg3,Res.bind]
   ·rintro e hg3 I3 v4 hI3;exact zAE (L1++(b,PBo v4)::L2) (herr e (by rw [hm];simp only [hg3,Res.bind]) I3 v4 (zAB hI2 hI3) |> zAA)
  ·try refine zqe ?_
   unfold ACi;refine CalP.pre (RL.ofO (R:=TItemV) (λ{I I' x c} h hI=>TItemV.mono h hI) hX hR (λI3 hI3 hw=>zAA ?_));refine Aj (ARD hw (λw' hw'=>?_));have hl2:=hT2.len;refine zAA (hok xs l2 ?_ hT2 ?_ I3 v2 w' (zAB hI2 hI3) (hTL2.mono hI3) ⟨hw',by omega⟩)
   ·rw [hm];cases f with
    |zero=>rfl
    |succ f=>simp [Bq,hb]
   ·omega
 ·rintro e hg I1 v1 hI1;exact zAA (herr e (by simp only [BG,hg,Res.bind]) I1 v1 hI1)
theorem ARB {w:Value}{xs:List (TOrder)}(hw:RL TOrderV 12 I [] w xs)(hk:∀w',RL TOrderV 12 I [] w' xs→K w' I L):CT ω 203 #[w] K I L:=by
 refine ARk ?_;unfold ANn;obtain ⟨w',h1,h2⟩:=Hf hw;simp only [zAM hw,h1,SSd,Nat.reduceAdd];exact zAA (hk w' h2)
theorem APp (n:Nat)(hn0:n≤1000000000){g:Pr (TOrder)}{fv:Value}(hone:OneP ω n b g (Zv TOrderV) fv I)[hF:Foc b L (PBo v) C](h:TL I v l)(hT:Toks l)(hl:l.length≤n)
  (hok:POk (BG n g l) (λI x v=>RL TOrderV 12 I [] v x∧x.length≤l.length) l.length K C I) (herr:PEr (BG n g l) Pn C I):CalP Tryz.prog ω 149 #[AP b,fv] K Pn I L:=by
 obtain ⟨L1,L2,rfl,rfl⟩:=hF.foc;refine ASY ?_;unfold AOT;refine GI (hone _ _ I _ _ v l inferInstance (zAC _) h hT hl ?_ ?_)
 ·rintro x r hg hT1 hr I1 v1 c hI1 hTL1 hc;obtain ⟨cx,rfl,hx⟩:=hc;refine GK rfl (by omega) (by simpa [Value.cells] using TOrderV.len hx) (λX u hX=>?_);refine loop (λm s I2 Lx=>∃X v2 l2 w cells xs f,l2.length=m∧s=(w,())∧Ext I I2∧Lx=X++(L1++(b,PBo v2)::L2)∧TL I2 v2 l2∧Toks l2∧SlO 127 12 X w cells xs.length∧Recs (TOrderV I2) 12 xs cells∧l2.length≤f∧0 < xs.length∧xs.length+l2.length≤l.length+1∧BG n g l=Bq g f xs l2) r.length
   ⟨X,v1,r,u,_,[x],n,rfl,rfl,hI1,rfl,hTL1,hT1,hX,(by simpa [Value.cells] using Recs.one (TOrderV.len hx) hx),by omega,by simp,by simp;omega,by simp only [BG,hg,Res.bind]⟩ ?_
  rintro m s I2 Lx ⟨X,v2,l2,w,cells,xs,f,rfl,rfl,hI2,rfl,hTL2,hT2,hX,hR,hf,hpos,hlen,hm⟩;unfold ACd;refine Aj (Fa [44] hTL2 hT2 (λhb v3 hv3=>?_) (λhb=>?_))
  ·try refine zqe ?_
   have hl2:=hT2.len;obtain ⟨f,rfl⟩:∃k,f=k+1:=⟨f - 1,by omega⟩;simp only [Bq,hb,if_true] at hm;refine GI (hone _ _ I2 _ _ v3 l2.tail inferInstance hI2 hv3 (hT2.tailT hb) (by omega) ?_ ?_)
   ·rintro y r3 hg3 hT3 hr3 I3 v4 c hI3 hTL3 hc;have hR:=Recs.imp (R':=TOrderV I3) (λ_ _ h=>TOrderV.mono h hI3) hR;obtain ⟨cy,rfl,hy⟩:=hc;refine Lc (X6:=X) rfl (by omega) hX hR hy (TOrderV.len hy) (TOrderV.one hy) (by omega) (by omega) (λX1 X6 w6 cells6 hX6 hR6=>zAE (X6++(L1++(b,PBo v4)::L2)) (zAA ⟨r3.length,by omega,X6,v4,r3,w6,cells6,xs++[y],f,rfl,rfl,zAB hI2 hI3,rfl,hTL3,hT3,hX6,hR6,by omega,by simp,by simp;omega,?_⟩));rw [hm];simp only [hg3,Res.bind]
   ·rintro e hg3 I3 v4 hI3;exact zAE (L1++(b,PBo v4)::L2) (herr e (by rw [hm];simp only [hg3,Res.bind]) I3 v4 (zAB hI2 hI3) |> zAA)
  ·try refine zqe ?_
   unfold ACc;refine CalP.pre (RL.ofO (R:=TOrderV) (λ{I I' x c} h hI=>TOrderV.mono h hI) hX hR (λI3 hI3 hw=>zAA ?_));refine Aj (ARB hw (λw' hw'=>?_));have hl2:=hT2.len;refine zAA (hok xs l2 ?_ hT2 ?_ I3 v2 w' (zAB hI2 hI3) (hTL2.mono hI3) ⟨hw',by omega⟩)
   ·rw [hm];cases f with
    |zero=>rfl
    |succ f=>simp [Bq,hb]
   ·omega
 ·rintro e hg I1 v1 hI1;exact zAA (herr e (by simp only [BG,hg,Res.bind]) I1 v1 hI1)
theorem AQy {w:Value}{xs:List (TSet)}(hw:RL TSetV 12 I [] w xs)(hk:∀w',RL TSetV 12 I [] w' xs→K w' I L):CT ω 156 #[w] K I L:=by
 refine ASR ?_;unfold AOO;obtain ⟨w',h1,h2⟩:=Hf hw;simp only [zAM hw,h1,SSd,Nat.reduceAdd];exact zAA (hk w' h2)
theorem APn (n:Nat)(hn0:n≤1000000000){g:Pr (TSet)}{fv:Value}(hone:OneP ω n b g (Zv TSetV) fv I)[hF:Foc b L (PBo v) C](h:TL I v l)(hT:Toks l)(hl:l.length≤n)
  (hok:POk (BG n g l) (λI x v=>RL TSetV 12 I [] v x∧x.length≤l.length) l.length K C I) (herr:PEr (BG n g l) Pn C I):CalP Tryz.prog ω 100 #[AP b,fv] K Pn I L:=by
 obtain ⟨L1,L2,rfl,rfl⟩:=hF.foc;refine ATF ?_;unfold AOv;refine GI (hone _ _ I _ _ v l inferInstance (zAC _) h hT hl ?_ ?_)
 ·rintro x r hg hT1 hr I1 v1 c hI1 hTL1 hc;obtain ⟨cx,rfl,hx⟩:=hc;refine GK rfl (by omega) (by simpa [Value.cells] using TSetV.len hx) (λX u hX=>?_);refine loop (λm s I2 Lx=>∃X v2 l2 w cells xs f,l2.length=m∧s=(w,())∧Ext I I2∧Lx=X++(L1++(b,PBo v2)::L2)∧TL I2 v2 l2∧Toks l2∧SlO 99 12 X w cells xs.length∧Recs (TSetV I2) 12 xs cells∧l2.length≤f∧0 < xs.length∧xs.length+l2.length≤l.length+1∧BG n g l=Bq g f xs l2) r.length
   ⟨X,v1,r,u,_,[x],n,rfl,rfl,hI1,rfl,hTL1,hT1,hX,(by simpa [Value.cells] using Recs.one (TSetV.len hx) hx),by omega,by simp,by simp;omega,by simp only [BG,hg,Res.bind]⟩ ?_
  rintro m s I2 Lx ⟨X,v2,l2,w,cells,xs,f,rfl,rfl,hI2,rfl,hTL2,hT2,hX,hR,hf,hpos,hlen,hm⟩;unfold ADA;refine Aj (Fa [44] hTL2 hT2 (λhb v3 hv3=>?_) (λhb=>?_))
  ·try refine zqe ?_
   have hl2:=hT2.len;obtain ⟨f,rfl⟩:∃k,f=k+1:=⟨f - 1,by omega⟩;simp only [Bq,hb,if_true] at hm;refine GI (hone _ _ I2 _ _ v3 l2.tail inferInstance hI2 hv3 (hT2.tailT hb) (by omega) ?_ ?_)
   ·rintro y r3 hg3 hT3 hr3 I3 v4 c hI3 hTL3 hc;have hR:=Recs.imp (R':=TSetV I3) (λ_ _ h=>TSetV.mono h hI3) hR;obtain ⟨cy,rfl,hy⟩:=hc;refine Lc (X6:=X) rfl (by omega) hX hR hy (TSetV.len hy) (TSetV.one hy) (by omega) (by omega) (λX1 X6 w6 cells6 hX6 hR6=>zAE (X6++(L1++(b,PBo v4)::L2)) (zAA ⟨r3.length,by omega,X6,v4,r3,w6,cells6,xs++[y],f,rfl,rfl,zAB hI2 hI3,rfl,hTL3,hT3,hX6,hR6,by omega,by simp,by simp;omega,?_⟩));rw [hm];simp only [hg3,Res.bind]
   ·rintro e hg3 I3 v4 hI3;exact zAE (L1++(b,PBo v4)::L2) (herr e (by rw [hm];simp only [hg3,Res.bind]) I3 v4 (zAB hI2 hI3) |> zAA)
  ·try refine zqe ?_
   unfold ACz;refine CalP.pre (RL.ofO (R:=TSetV) (λ{I I' x c} h hI=>TSetV.mono h hI) hX hR (λI3 hI3 hw=>zAA ?_));refine Aj (AQy hw (λw' hw'=>?_));have hl2:=hT2.len;refine zAA (hok xs l2 ?_ hT2 ?_ I3 v2 w' (zAB hI2 hI3) (hTL2.mono hI3) ⟨hw',by omega⟩)
   ·rw [hm];cases f with
    |zero=>rfl
    |succ f=>simp [Bq,hb]
   ·omega
 ·rintro e hg I1 v1 hI1;exact zAA (herr e (by simp only [BG,hg,Res.bind]) I1 v1 hI1)
theorem AQz {w:Value}{xs:List (Bs)}(hw:RL StrV 1 I [] w xs)(hk:∀w',RL StrV 1 I [] w' xs→K w' I L):CT ω 221 #[w] K I L:=by
 refine ARa ?_;unfold ANf;obtain ⟨w',h1,h2⟩:=Hf hw;simp only [zAM hw,h1,SSd,Nat.reduceAdd];exact zAA (hk w' h2)
theorem APo (n:Nat)(hn0:n≤1000000000){g:Pr (Bs)}{fv:Value}(hone:OneP ω n b g (ATQ) fv I)[hF:Foc b L (PBo v) C](h:TL I v l)(hT:Toks l)(hl:l.length≤n)
  (hok:POk (BG n g l) (λI x v=>RL StrV 1 I [] v x∧x.length≤l.length) l.length K C I) (herr:PEr (BG n g l) Pn C I):CalP Tryz.prog ω 204 #[AP b,fv] K Pn I L:=by
 obtain ⟨L1,L2,rfl,rfl⟩:=hF.foc;refine ARj ?_;unfold ANm;refine GI (hone _ _ I _ _ v l inferInstance (zAC _) h hT hl ?_ ?_)
 ·rintro x r hg hT1 hr I1 v1 c hI1 hTL1 hc;obtain rfl:=hc;refine GK rfl (by omega) rfl (λX u hX=>?_);refine loop (λm s I2 Lx=>∃X v2 l2 w cells xs f,l2.length=m∧s=(w,())∧Ext I I2∧Lx=X++(L1++(b,PBo v2)::L2)∧TL I2 v2 l2∧Toks l2∧SlO 9 1 X w cells xs.length∧Recs (StrV I2) 1 xs cells∧l2.length≤f∧0 < xs.length∧xs.length+l2.length≤l.length+1∧BG n g l=Bq g f xs l2) r.length
   ⟨X,v1,r,u,_,[x],n,rfl,rfl,hI1,rfl,hTL1,hT1,hX,(by simpa [Value.cells] using Recs.one (R:=StrV I1) rfl rfl),by omega,by simp,by simp;omega,by simp only [BG,hg,Res.bind]⟩ ?_
  rintro m s I2 Lx ⟨X,v2,l2,w,cells,xs,f,rfl,rfl,hI2,rfl,hTL2,hT2,hX,hR,hf,hpos,hlen,hm⟩;unfold ACK;refine Aj (Fa [44] hTL2 hT2 (λhb v3 hv3=>?_) (λhb=>?_))
  ·try refine zqe ?_
   have hl2:=hT2.len;obtain ⟨f,rfl⟩:∃k,f=k+1:=⟨f - 1,by omega⟩;simp only [Bq,hb,if_true] at hm;refine GI (hone _ _ I2 _ _ v3 l2.tail inferInstance hI2 hv3 (hT2.tailT hb) (by omega) ?_ ?_)
   ·rintro y r3 hg3 hT3 hr3 I3 v4 c hI3 hTL3 hc;have hR:=Recs.imp (R':=StrV I3) (λ_ _ h=>StrV.mono h hI3) hR;obtain rfl:=hc;refine YC (X6:=X) rfl hX hR (x:=y) rfl rfl (by omega) (by omega) (λX1 X6 w6 cells6 hX6 hR6=>zAE (X6++(L1++(b,PBo v4)::L2)) (zAA ⟨r3.length,by omega,X6,v4,r3,w6,cells6,xs++[y],f,rfl,rfl,zAB hI2 hI3,rfl,hTL3,hT3,hX6,hR6,by omega,by simp,by simp;omega,?_⟩));rw [hm];simp only [hg3,Res.bind]
   ·rintro e hg3 I3 v4 hI3;exact zAE (L1++(b,PBo v4)::L2) (herr e (by rw [hm];simp only [hg3,Res.bind]) I3 v4 (zAB hI2 hI3) |> zAA)
  ·try refine zqe ?_
   unfold ACJ;refine CalP.pre (RL.ofO (R:=StrV) (λ{I I' x c} h hI=>StrV.mono h hI) hX hR (λI3 hI3 hw=>zAA ?_));refine Aj (AQz hw (λw' hw'=>?_));have hl2:=hT2.len;refine zAA (hok xs l2 ?_ hT2 ?_ I3 v2 w' (zAB hI2 hI3) (hTL2.mono hI3) ⟨hw',by omega⟩)
   ·rw [hm];cases f with
    |zero=>rfl
    |succ f=>simp [Bq,hb]
   ·omega
 ·rintro e hg I1 v1 hI1;exact zAA (herr e (by simp only [BG,hg,Res.bind]) I1 v1 hI1)
theorem ARC {w:Value}{xs:List (List Ex)}(hw:RL (Hl ExV 11) 1 I [] w xs)(hk:∀w',RL (Hl ExV 11) 1 I [] w' xs→K w' I L):CT ω 154 #[w] K I L:=by
 refine AST ?_;unfold AOQ;obtain ⟨w',h1,h2⟩:=Hf hw;simp only [zAM hw,h1,SSd,Nat.reduceAdd];exact zAA (hk w' h2)
theorem APq (n:Nat)(hn0:n≤1000000000){g:Pr (List Ex)}{fv:Value}(hone:OneP ω n b g (AWE ExV 11) fv I)[hF:Foc b L (PBo v) C](h:TL I v l)(hT:Toks l)(hl:l.length≤n)
  (hok:POk (BG n g l) (λI x v=>RL (Hl ExV 11) 1 I [] v x∧x.length≤l.length) l.length K C I) (herr:PEr (BG n g l) Pn C I):CalP Tryz.prog ω 98 #[AP b,fv] K Pn I L:=by
 obtain ⟨L1,L2,rfl,rfl⟩:=hF.foc;refine AUy ?_;unfold ATe;refine GI (hone _ _ I _ _ v l inferInstance (zAC _) h hT hl ?_ ?_)
 ·rintro x r hg hT1 hr I1 v1 c hI1 hTL1 hc;obtain ⟨ax,kx,ec⟩:=zAG hc;subst ec;refine GK rfl (by omega) rfl (λX u hX=>?_);refine loop (λm s I2 Lx=>∃X v2 l2 w cells xs f,l2.length=m∧s=(w,())∧Ext I I2∧Lx=X++(L1++(b,PBo v2)::L2)∧TL I2 v2 l2∧Toks l2∧SlO 35 1 X w cells xs.length∧Recs ((Hl ExV 11) I2) 1 xs cells∧l2.length≤f∧0 < xs.length∧xs.length+l2.length≤l.length+1∧BG n g l=Bq g f xs l2) r.length
   ⟨X,v1,r,u,_,[x],n,rfl,rfl,hI1,rfl,hTL1,hT1,hX,(by simpa [Value.cells] using Recs.one (R:=(Hl ExV 11) I1) rfl ⟨_,rfl,hc⟩),by omega,by simp,by simp;omega,by simp only [BG,hg,Res.bind]⟩ ?_
  rintro m s I2 Lx ⟨X,v2,l2,w,cells,xs,f,rfl,rfl,hI2,rfl,hTL2,hT2,hX,hR,hf,hpos,hlen,hm⟩;unfold AGl;refine Aj (Fa [44] hTL2 hT2 (λhb v3 hv3=>?_) (λhb=>?_))
  ·try refine zqe ?_
   have hl2:=hT2.len;obtain ⟨f,rfl⟩:∃k,f=k+1:=⟨f - 1,by omega⟩;simp only [Bq,hb,if_true] at hm;refine GI (hone _ _ I2 _ _ v3 l2.tail inferInstance hI2 hv3 (hT2.tailT hb) (by omega) ?_ ?_)
   ·rintro y r3 hg3 hT3 hr3 I3 v4 c hI3 hTL3 hc;have hR:=Recs.imp (R':=(Hl ExV 11) I3) (λ_ _ h=>LstX.mono h hI3) hR;obtain ⟨ax,kx,ec⟩:=zAG hc;subst ec;refine YC (X6:=X) rfl hX hR (x:=y) ⟨_,rfl,hc⟩ rfl (by omega) (by omega) (λX1 X6 w6 cells6 hX6 hR6=>zAE (X6++(L1++(b,PBo v4)::L2)) (zAA ⟨r3.length,by omega,X6,v4,r3,w6,cells6,xs++[y],f,rfl,rfl,zAB hI2 hI3,rfl,hTL3,hT3,hX6,hR6,by omega,by simp,by simp;omega,?_⟩));rw [hm];simp only [hg3,Res.bind]
   ·rintro e hg3 I3 v4 hI3;exact zAE (L1++(b,PBo v4)::L2) (herr e (by rw [hm];simp only [hg3,Res.bind]) I3 v4 (zAB hI2 hI3) |> zAA)
  ·try refine zqe ?_
   unfold AGk;refine CalP.pre (RL.ofO (R:=(Hl ExV 11)) (λ{I I' x c} h hI=>LstX.mono h hI) hX hR (λI3 hI3 hw=>zAA ?_));refine Aj (ARC hw (λw' hw'=>?_));have hl2:=hT2.len;refine zAA (hok xs l2 ?_ hT2 ?_ I3 v2 w' (zAB hI2 hI3) (hTL2.mono hI3) ⟨hw',by omega⟩)
   ·rw [hm];cases f with
    |zero=>rfl
    |succ f=>simp [Bq,hb]
   ·omega
 ·rintro e hg I1 v1 hI1;exact zAA (herr e (by simp only [BG,hg,Res.bind]) I1 v1 hI1)
end
abbrev EOk (g:Res Ex)(n:Nat)(K:Value→M)(C:Obj→LH)(I:Imm):Prop:=
 ∀x r,g= .ok x r→Toks r→r.length≤n→∀I' v' w,Ext I I'→TL I' v' r→ExL I' w x.args→K (.agg (Ak x w).toArray) I' (C (PBo v'))
def FnE (ω:Om)(n b f:Nat)(g:Pr Ex):Prop:=
 ∀(K Pn:Value→M) (I:Imm) (L:LH) (C:Obj→LH) (v:Value) (l:List Tok),Foc b L (PBo v) C→TL I v l→Toks l→l.length≤n→EOk (g l) l.length K C I→PEr (g l) Pn C I→CalP Tryz.prog ω f #[AP b] K Pn I L
theorem FnE.go {ω:Om}{n b f:Nat}{g:Pr Ex}(h:FnE ω n b f g){I:Imm}{L:LH}{K Pn:Value→M}{C:Obj→LH}{v:Value}{l:List Tok}[hF:Foc b L (PBo v) C](hv:TL I v l)(hT:Toks l)(hl:l.length≤n)
  (hok:∀x r,g l= .ok x r→Toks r→r.length≤l.length→∀I' v' a k,Ext I I'→TL I' v' r→ExL I' (.slice a x.args.length k) x.args→K (.agg (Ak x (.slice a x.args.length k)).toArray) I' (C (PBo v'))) (herr:PEr (g l) Pn C I):CalP Tryz.prog ω f #[AP b] K Pn I L:=
 h K Pn I L C v l hF hv hT hl (λx r hg hT' hr I' v' w hI hv' hw=>by
  obtain ⟨a,k,rfl⟩:=zAG hw;exact hok x r hg hT' hr I' v' a k hI hv' hw) herr
theorem FnE.one {ω:Om}{n b f:Nat}{g:Pr Ex}{I0:Imm}(h:FnE ω n b f g)(he:CX Tryz.prog f=true):OneP ω n b g (Zv ExV) (.func (.func f) #[AP b] #[]) I0:=by
 intro K Pn I L C v l hF hI hv hT hl hok herr;refine OI he (h K Pn I L C v l hF hv hT hl ?_ herr);intro x r hg hT' hr I' v' w hI' hv' hw;exact hok x r hg hT' hr I' v' _ hI' hv' ⟨_,rfl,ExV.mk hw⟩
section
variable {ω:Om}{I:Imm}{L:LH}{K Pn:Value→M}{C:Obj→LH}{b:Nat}{v:Value}{l:List Tok}
theorem CV (s:Bs)[hF:Foc b L (PBo v) C](h:TL I v l)(hT:Toks l)(ht:isT l s=true→Toks l.tail→l.tail.length+1=l.length→∀v',TL I v' l.tail→K (.bool true) I (C (PBo v')))(hf:isT l s=false→K (.bool false) I L):
  CT ω 43 #[AP b,.string ⟨s.toArray⟩] K I L:=Fa s h hT (λhb v' hv=>ht hb (hT.tailT hb) hT.len v' hv) hf
theorem CJ (s:Bs)[hF:Foc b L (PBo v) C](h:TL I v l)(hT:Toks l)(hok:isT l s=true→Toks l.tail→l.tail.length+1=l.length→∀I' v',Ext I I'→TL I' v' l.tail→K (.tuple #[]) I' (C (PBo v')))
  (herr:isT l s=false→∀I' v',Ext I I'→Pn (GY (hd l).at') I' (C (PBo v'))):
  AY 9 1 #[.string ⟨#[]⟩] 1 [(0,.string ⟨s.toArray⟩)] (gh λw=>AQ Tryz.prog ω 95 #[AP b,w] Pn (gh K)) I L:=by
 refine Eo [s] rfl rfl (λI' a hI hw=>zAA ?_);refine AX (UT [s] hw (by simp) (h.mono hI) hT (λr hg hT' hr v' hv'=>?_) (λe hg v'=>?_))
 ·cases hb:isT l s with
  |true=>
   simp only [GZ,AL,hb,if_true,Res.bind,Res.ok.injEq,true_and] at hg;subst hg;exact hok hb hT' hT.len I' v' hI hv'
  |false=>simp [GZ,AL,hb,Res.bind,bad] at hg
 ·cases hb:isT l s with
  |true=>simp [GZ,AL,hb,Res.bind] at hg
  |false=>
   simp only [GZ,AL,hb,Bool.false_eq_true,if_false,Res.bind,bad,Res.err.injEq] at hg;subst hg;exact herr hb I' v' hI
theorem DF [hF:Foc b L (PBo v) C](h:TL I v l)(hT:Toks l)
  (hok:isK l 1=true→Toks l.tail→l.tail.length+1=l.length→∀v',TL I v' l.tail→K (.string ⟨(hd l).text.toArray⟩) I (C (PBo v'))) (herr:isK l 1=false→Pn (GY (hd l).at') I L):
  CalP Tryz.prog ω 96 #[AP b] K Pn I L:=AFR h hT (λhb v' hv=>hok hb (hT.tailK hb) hT.len v' hv) herr
theorem BK {k:Int}{w:Value}{l:List Ex}(hw:ExL I w l)(hk:K (.agg (Ak (exK k l) w).toArray) I L):CT ω 202 #[.int .i64 k,w] K I L:=by
 refine ARl ?_;unfold ANo;obtain ⟨a,c,rfl⟩:=zAG hw;have hk:Gh (K (.agg (Ak (exK k l) (.slice a l.length c)).toArray)) I L:=zAA hk;repeat' (first|refine zqa ?_|refine zqh (λ_=>?_)|refine zqr ?_|refine zqb ?_|refine zqi ?_ ?_|refine zqc ?_|refine zqg (λ_=>?_) (λ_=>?_)|refine zqe ?_|fail)
 exact zAE L hk
theorem DT {x:Ex}{w:Value}(hw:ExL I w x.args)(hk:∀I' a,Ext I I'→ExL I' (.slice a 1 1) [x]→Gh (K (.slice a 1 1)) I' L):
  AY 37 11 #[.int .i64 0,.int .i64 0,.bool false,.int .i64 0,.string ⟨#[]⟩,.string ⟨#[]⟩,.string ⟨#[]⟩,.int .i64 0,.int .i64 0,.bool false,.slice none 0 0] 1 [(0,.agg (Ak x w).toArray)] (gh K) I L:=
 FP (R:=ExV) [x] [Ak x w] rfl rfl rfl (by simp) (by simp only [List.zip_cons_cons,List.zip_nil_right,List.mem_singleton,forall_eq];exact ExV.mk hw) (λhI h=>ExV.mono hI h) hk
theorem Cm {x y:Ex}{w u:Value}(hw:ExL I w x.args)(hu:ExL I u y.args)(hk:∀I' a,Ext I I'→ExL I' (.slice a 2 2) [x,y]→Gh (K (.slice a 2 2)) I' L):
  AY 37 11 #[.int .i64 0,.int .i64 0,.bool false,.int .i64 0,.string ⟨#[]⟩,.string ⟨#[]⟩,.string ⟨#[]⟩,.int .i64 0,.int .i64 0,.bool false,.slice none 0 0] 2 [(0,.agg (Ak x w).toArray),(1,.agg (Ak y u).toArray)] (gh K) I L:=
 FP (R:=ExV) [x,y] [Ak x w,Ak y u] rfl rfl rfl (by simp) (by simp only [List.zip_cons_cons,List.zip_nil_right,List.mem_cons,List.not_mem_nil,or_false,forall_eq_or_imp,forall_eq];exact ⟨ExV.mk hw,ExV.mk hu⟩) (λhI h=>ExV.mono hI h) hk
theorem Dn {x y z:Ex}{w u q:Value}(hw:ExL I w x.args)(hu:ExL I u y.args)(hq:ExL I q z.args)(hk:∀I' a,Ext I I'→ExL I' (.slice a 3 3) [x,y,z]→Gh (K (.slice a 3 3)) I' L):
  AY 37 11 #[.int .i64 0,.int .i64 0,.bool false,.int .i64 0,.string ⟨#[]⟩,.string ⟨#[]⟩,.string ⟨#[]⟩,.int .i64 0,.int .i64 0,.bool false,.slice none 0 0] 3 [(0,.agg (Ak x w).toArray),(1,.agg (Ak y u).toArray),(2,.agg (Ak z q).toArray)] (gh K) I L:=
 FP (R:=ExV) [x,y,z] [Ak x w,Ak y u,Ak z q] rfl rfl rfl (by simp) (by simp only [List.zip_cons_cons,List.zip_nil_right,List.mem_cons,List.not_mem_nil,or_false,forall_eq_or_imp,forall_eq];exact ⟨ExV.mk hw,ExV.mk hu,ExV.mk hq⟩) (λhI h=>ExV.mono hI h) hk
theorem VE (n:Nat):FnE ω n b 234 JQ:=by
 intro K Pn I L C v l hF h hT hl hok herr;obtain ⟨L1,L2,rfl,rfl⟩:=hF.foc;refine ARU ?_;unfold ANc;refine Ac (λ_=>?_);refine AX (WY 3 (by decide) h hT (λhb v' hv'=>?_) (λhb=>zAE (L1++(b,PBo v)::L2) (zAA (herr _ (by simp [JQ,hb,bad]) I v (zAC _)))));have hk:Gh (K _) I (L1++(b,PBo v')::L2):=zAA (hok (Et ⟨1,false,(hd l).num,[]⟩) l.tail (by simp [JQ,hb]) (hT.tailK hb) (by have:=hT.len;omega) I v' (.slice none 0 0) (zAC _) hv' (zAD none 0));repeat' (first|refine zqa ?_|refine zqh (λ_=>?_)|refine zqr ?_|refine zqb ?_|refine zqi ?_ ?_|refine zqc ?_|refine zqg (λ_=>?_) (λ_=>?_)|refine zqe ?_|fail)
 exact zAE _ hk
theorem Nz [hF:Foc b L (PBo v) C](h:TL I v l)(hT:Toks l)(hok:∀x,Ha l=some x→Toks l.tail→l.tail.length+1=l.length→∀v',TL I v' l.tail→K (.tuple #[.agg (Ak (Et x) (.slice none 0 0)).toArray,.bool true]) I (C (PBo v')))
  (hno:Ha l=none→K (.tuple #[.agg exZ.toArray,.bool false]) I L):CT ω 233 #[AP b] K I L:=by
 obtain ⟨L1,L2,rfl,rfl⟩:=hF.foc;obtain ⟨bt,off,h1,h2⟩:=h.hd hT;refine ARV ?_;unfold sh233;have fin:∀{x:TValue} {L':LH} {v':Value},Ha l=some x→SubP (L1++(b,PBo v')::L2) L'→TL I v' l.tail→Gh (K (.tuple #[.agg (Ak (Et x) (.slice none 0 0)).toArray,.bool true])) I L':=by
  intro x L' v' hx hs hv';have hk6:(hd l).kind≠6:=by
   intro e;simp [Ha,isK,isT,e] at hx
  exact zAE (L1++(b,PBo v')::L2) (zAA (hok x hx (hT.tail hk6) hT.len v' hv'))
 have no:∀{L':LH},Ha l=none→SubP (L1++(b,PBo v)::L2) L'→Gh (K (.tuple #[.agg exZ.toArray,.bool false])) I L':=λhx hs=>zAE (L1++(b,PBo v)::L2) (zAA (hno hx));repeat' (first|refine zqa ?_|refine zqh (λ_=>?_)|(refine rd1 ((h2 _ [] (zAC _) 0 _ rfl).mono (zAC _) (λ_ h=>by cases h)) ?_)|(refine rd1 ((h2 _ [] (zAC _) 2 _ rfl).mono (zAC _) (λ_ h=>by cases h)) ?_)|((with_reducible refine call ?_);with_reducible refine Jo _ h hT (λhb=>?_) (λhb=>?_))|((with_reducible refine call ?_);with_reducible refine JG h hT (λv' hv'=>?_))|refine zqr ?_|refine zqb ?_|(with_reducible first|refine Bl (sh233_2.eq_1 ..) ?_|refine Bl (sh233.eq_1 ..) ?_|refine And.intro ?_ ?_)|refine zqc ?_|refine zqg (λ_=>?_) (λ_=>?_)|(simp only [SSd,Nat.reduceAdd,h1]))
 all_goals first
  |exact fin (x:=⟨3,false,0,(hd l).text⟩) (by simp_all [Ha,isK]) inferInstance zA
  |exact fin (x:=⟨2,false,1,[]⟩) (by simp_all [Ha,isK]) inferInstance zA
  |exact fin (x:=⟨2,false,0,[]⟩) (by simp_all [Ha,isK]) inferInstance zA
  |exact fin (x:=⟨4,true,0,[]⟩) (by simp_all [Ha,isK]) inferInstance zA
  |exact no (by simp_all [Ha,isK]) inferInstance
end
section
variable {ω:Om}{I:Imm}{L:LH}{K Pn:Value→M}{C:Obj→LH}{b:Nat}{v:Value}{l:List Tok}
theorem AMj (n:Nat){g:Pr Ex}(hg1:FnE ω (n+1) b 201 g):FnE ω (n+1) b 148 (CB n g Ii):=by
 intro K Pn I L C v l hF h hT hl hok herr;obtain ⟨L1,L2,rfl,rfl⟩:=hF.foc;refine ASZ ?_;unfold AOU;refine Ac (λb1=>?_);refine AX (hg1 _ _ _ _ _ _ _ inferInstance h hT hl ?_ ?_);rotate_left
 ·intro e hg I' v' hI;exact zAE (L1++(b,PBo v')::L2) (zAA (herr e (by simp only [CB,hg,Res.bind]) I' v' hI))
 intro x0 r0 hg0 hT0 hr0 I0 v0 w0 hI0 hTL0 hw0;refine Ac (λb3=>?_);obtain ⟨a0,c0,rfl⟩:=zAG hw0;repeat' (first|refine zqa ?_|refine zqh (λ_=>?_)|refine zqr ?_|refine zqb ?_|refine zqi ?_ ?_|refine zqc ?_|refine zqg (λ_=>?_) (λ_=>?_)|refine zqe ?_|fail)
 refine loop (λm s I2 Lx=>∃x a k v2 l2 f,l2.length=m∧Ext I I2∧Lx=(b3,Obj.cells (Ak x (.slice a x.args.length k)).toArray 37 (0,0))::(b1,Obj.cells exZ.toArray 37 (0,0))::(L1++(b,PBo v2)::L2)∧ExL I2 (.slice a x.args.length k) x.args∧TL I2 v2 l2∧Toks l2∧l2.length≤f+1∧l2.length≤l.length∧CB n g Ii l=Dv g Ii f x l2) r0.length
  ⟨x0,a0,c0,v0,r0,n,rfl,hI0,rfl,hw0,hTL0,hT0,by omega,hr0,by simp only [CB,hg0,Res.bind]⟩ ?_
 rintro m s I2 Lx ⟨x,a,k,v2,l2,f,rfl,hI2,rfl,hw,hTL,hT2,hf,hlen,hm⟩;unfold ACf;refine Aj (CV [111,114] hTL hT2 (λhb hT' hl' v' hv'=>?_) (λhb=>?_))
 ·try refine zqe ?_
  obtain ⟨f,rfl⟩:∃q,f=q+1:=⟨f - 1,by have:=hT'.len;omega⟩;have hop:Ii l2=22:=by simp [Ii,hb]
  simp only [Dv,hop] at hm;refine CU (b:=b) ?_;refine SK rfl ?_;refine AX (hg1 _ _ _ _ _ _ _ inferInstance hv' hT' (by omega) ?_ ?_);rotate_left
  ·intro e hg I3 v3 hI3;exact zAE (L1++(b,PBo v3)::L2) (zAA (herr e (by rw [hm];simp [hg,Res.bind]) I3 v3 (zAB hI2 hI3)))
  intro y r hg hT3 hr I3 v3 u hI3 hTL3 hu;refine CS hI3 ?_;refine Cm (zAN hw hI3) hu (λI4 a4 hI4 h4=>zAA ?_);refine Aj (BK h4 ?_);repeat' (first|refine zqa ?_|refine zqh (λ_=>?_)|refine zqr ?_|refine zqb ?_|refine zqi ?_ ?_|refine zqc ?_|refine zqg (λ_=>?_) (λ_=>?_)|refine zqe ?_|fail)
  refine zAA ⟨r.length,by omega,exK 22 [x,y],a4,2,v3,r,f,rfl,zAB hI2 (zAB hI3 hI4),rfl,h4,hTL3.mono hI4,hT3,by omega,by omega,?_⟩;rw [hm];simp [hg,Res.bind]
 ·try refine zqe ?_
  unfold ACe;repeat' (first|refine zqa ?_|refine zqh (λ_=>?_)|refine zqr ?_|refine zqb ?_|refine zqi ?_ ?_|refine zqc ?_|refine zqg (λ_=>?_) (λ_=>?_)|refine zqe ?_|fail)
  refine zAE (L1++(b,PBo v2)::L2) (zAA (hok x l2 ?_ hT2 hlen I2 v2 _ hI2 hTL hw));rw [hm];cases f with
  |zero=>rfl
  |succ f=>simp [Dv,Ii,hb]
theorem ATN (n:Nat){g:Pr Ex}(hg1:FnE ω (n+1) b 220 g):FnE ω (n+1) b 201 (CB n g Ez):=by
 intro K Pn I L C v l hF h hT hl hok herr;obtain ⟨L1,L2,rfl,rfl⟩:=hF.foc;refine ARm ?_;unfold ANp;refine Ac (λb1=>?_);refine AX (hg1 _ _ _ _ _ _ _ inferInstance h hT hl ?_ ?_);rotate_left
 ·intro e hg I' v' hI;exact zAE (L1++(b,PBo v')::L2) (zAA (herr e (by simp only [CB,hg,Res.bind]) I' v' hI))
 intro x0 r0 hg0 hT0 hr0 I0 v0 w0 hI0 hTL0 hw0;refine Ac (λb3=>?_);obtain ⟨a0,c0,rfl⟩:=zAG hw0;repeat' (first|refine zqa ?_|refine zqh (λ_=>?_)|refine zqr ?_|refine zqb ?_|refine zqi ?_ ?_|refine zqc ?_|refine zqg (λ_=>?_) (λ_=>?_)|refine zqe ?_|fail)
 refine loop (λm s I2 Lx=>∃x a k v2 l2 f,l2.length=m∧Ext I I2∧Lx=(b3,Obj.cells (Ak x (.slice a x.args.length k)).toArray 37 (0,0))::(b1,Obj.cells exZ.toArray 37 (0,0))::(L1++(b,PBo v2)::L2)∧ExL I2 (.slice a x.args.length k) x.args∧TL I2 v2 l2∧Toks l2∧l2.length≤f+1∧l2.length≤l.length∧CB n g Ez l=Dv g Ez f x l2) r0.length
  ⟨x0,a0,c0,v0,r0,n,rfl,hI0,rfl,hw0,hTL0,hT0,by omega,hr0,by simp only [CB,hg0,Res.bind]⟩ ?_
 rintro m s I2 Lx ⟨x,a,k,v2,l2,f,rfl,hI2,rfl,hw,hTL,hT2,hf,hlen,hm⟩;unfold ACN;refine Aj (CV [97,110,100] hTL hT2 (λhb hT' hl' v' hv'=>?_) (λhb=>?_))
 ·try refine zqe ?_
  obtain ⟨f,rfl⟩:∃q,f=q+1:=⟨f - 1,by have:=hT'.len;omega⟩;have hop:Ez l2=21:=by simp [Ez,hb]
  simp only [Dv,hop] at hm;refine CU (b:=b) ?_;refine SK rfl ?_;refine AX (hg1 _ _ _ _ _ _ _ inferInstance hv' hT' (by omega) ?_ ?_);rotate_left
  ·intro e hg I3 v3 hI3;exact zAE (L1++(b,PBo v3)::L2) (zAA (herr e (by rw [hm];simp [hg,Res.bind]) I3 v3 (zAB hI2 hI3)))
  intro y r hg hT3 hr I3 v3 u hI3 hTL3 hu;refine CS hI3 ?_;refine Cm (zAN hw hI3) hu (λI4 a4 hI4 h4=>zAA ?_);refine Aj (BK h4 ?_);repeat' (first|refine zqa ?_|refine zqh (λ_=>?_)|refine zqr ?_|refine zqb ?_|refine zqi ?_ ?_|refine zqc ?_|refine zqg (λ_=>?_) (λ_=>?_)|refine zqe ?_|fail)
  refine zAA ⟨r.length,by omega,exK 21 [x,y],a4,2,v3,r,f,rfl,zAB hI2 (zAB hI3 hI4),rfl,h4,hTL3.mono hI4,hT3,by omega,by omega,?_⟩;rw [hm];simp [hg,Res.bind]
 ·try refine zqe ?_
  unfold ACM;repeat' (first|refine zqa ?_|refine zqh (λ_=>?_)|refine zqr ?_|refine zqb ?_|refine zqi ?_ ?_|refine zqc ?_|refine zqg (λ_=>?_) (λ_=>?_)|refine zqe ?_|fail)
  refine zAE (L1++(b,PBo v2)::L2) (zAA (hok x l2 ?_ hT2 hlen I2 v2 _ hI2 hTL hw));rw [hm];cases f with
  |zero=>rfl
  |succ f=>simp [Dv,Ez,hb]
theorem UD (n:Nat){g:Pr Ex}{fv:Value}{bm:Nat}{es:Array MapEntry}{clock:Nat}{q:Bs→Option Int}(hq:∀s,q s≠some 0)(hone:OneP ω (n+1) b g (Zv ExV) fv I)(hma:I bm=some (.map es clock))(hms:MapS es clock λk=>(q k).map (.int .i64))
  [hF:Foc b L (PBo v) C] (h:TL I v l) (hT:Toks l) (hl:l.length≤n+1) (hok:EOk (CB n g (Hm q) l) l.length K C I) (herr:PEr (CB n g (Hm q) l) Pn C I):
  CalP Tryz.prog ω 254 #[AP b,fv,.map (some bm)] K Pn I L:=by
 obtain ⟨L1,L2,rfl,rfl⟩:=hF.foc;refine ARP ?_;unfold sh254;refine Ac (λb1=>?_);refine GI (hone _ _ _ _ _ _ _ inferInstance (zAC _) h hT hl ?_ ?_);rotate_left
 ·intro e hg I' v' hI;exact zAE (L1++(b,PBo v')::L2) (zAA (herr e (by simp only [CB,hg,Res.bind]) I' v' hI))
 rintro x0 r0 hg0 hT0 hr0 I0 v0 c hI0 hTL0 ⟨cx,rfl,hx⟩;obtain ⟨w0,rfl,hw0⟩:=ExV.iff.1 hx;refine Ac (λb3=>?_);obtain ⟨a0,c0,rfl⟩:=zAG hw0;repeat' (first|refine zqa ?_|refine zqh (λ_=>?_)|refine zqr ?_|refine zqb ?_|refine zqi ?_ ?_|refine zqc ?_|refine zqg (λ_=>?_) (λ_=>?_)|refine zqe ?_|fail)
 refine loop (λm s I2 Lx=>∃x a k v2 l2 f,l2.length=m∧Ext I I2∧Lx=(b3,Obj.cells (Ak x (.slice a x.args.length k)).toArray 37 (0,0))::(b1,Obj.cells exZ.toArray 37 (0,0))::(L1++(b,PBo v2)::L2)∧ExL I2 (.slice a x.args.length k) x.args∧TL I2 v2 l2∧Toks l2∧l2.length≤f+1∧l2.length≤l.length∧CB n g (Hm q) l=Dv g (Hm q) f x l2) r0.length
  ⟨x0,a0,c0,v0,r0,n,rfl,hI0,rfl,hw0,hTL0,hT0,by omega,hr0,by simp only [CB,hg0,Res.bind]⟩ ?_
 rintro m s I2 Lx ⟨x,a,k,v2,l2,f,rfl,hI2,rfl,hw,hTL,hT2,hf,hlen,hm⟩;obtain ⟨bt,off,h1,h2⟩:=hTL.hd hT2;have fin:∀{L':LH},Hm q l2=0→SubP (L1++(b,PBo v2)::L2) L'→Gh (K (.agg (Ak x (.slice a x.args.length k)).toArray)) I2 L':=λh0 hs=>by
  refine zAE (L1++(b,PBo v2)::L2) (zAA (hok x l2 ?_ hT2 hlen I2 v2 _ hI2 hTL hw));rw [hm];cases f with
  |zero=>rfl
  |succ f=>simp only [Dv,h0,if_true]
 unfold sh254_1;repeat' (first|refine zqa ?_|refine zqh (λ_=>?_)|(refine rd1 ((h2 _ [] (zAC _) 0 _ rfl).mono (zAC _) (λ_ h=>by cases h)) ?_)|refine zqr ?_|refine zqb ?_|refine zqi ?_ ?_|refine zqc ?_|refine zqg (λ_=>?_) (λ_=>?_)|(simp only [SSd,Nat.reduceAdd,h1]))
 ·rename_i hb
  have hb:isK l2 5=true:=by simpa [isK] using hb
  refine rd1 ((h2 I2 [] (zAC _) 2 _ rfl).mono (zAC _) (λ_ h=>by cases h)) ?_;refine ⟨_,AOz (.inr (hI2 _ _ hma)) hms (k:=(hd l2).text),?_⟩;cases hqt:q (hd l2).text with
  |none=>
   simp only [Option.map_none,lkV,if_true];repeat' (first|refine zqa ?_|refine zqh (λ_=>?_)|refine zqr ?_|refine zqb ?_|(with_reducible first|refine Bl (sh254_3.eq_1 ..) ?_|refine Bl (sh254_1.eq_1 ..) ?_|refine Bl (sh254.eq_1 ..) ?_|refine And.intro ?_ ?_)|refine zqc ?_|refine zqg (λ_=>?_) (λ_=>?_)|refine zqe ?_|fail)
   exact fin (by simp [Hm,hb,hqt]) inferInstance
  |some kd=>
   have hop:Hm q l2=kd:=by simp [Hm,hb,hqt]
   have hkd:kd≠0:=λe=>hq _ (by rw [hqt,e]);have hT':=hT2.tailK hb;obtain ⟨f,rfl⟩:∃q,f=q+1:=⟨f - 1,by have:=hT'.len;have:=hT2.len;omega⟩;simp only [Dv,hop,if_neg hkd] at hm;simp only [Option.map_some,lkV,if_true];try refine zqe ?_
   refine Aj (JG hTL hT2 (λv' hv'=>?_));refine CU (b:=b) ?_;refine SK rfl ?_;have hl2:=hT2.len;refine GI (hone _ _ _ _ _ _ _ inferInstance hI2 hv' hT' (by omega) ?_ ?_);rotate_left
   ·intro e hg I3 v3 hI3;exact zAE (L1++(b,PBo v3)::L2) (zAA (herr e (by rw [hm];simp [hg,Res.bind]) I3 v3 (zAB hI2 hI3)))
   rintro y r hg hT3 hr I3 v3 c hI3 hTL3 ⟨cy,rfl,hy⟩;obtain ⟨u,rfl,hu⟩:=ExV.iff.1 hy;dsimp only
   refine CS hI3 ?_;refine Cm (zAN hw hI3) hu (λI4 a4 hI4 h4=>zAA ?_);refine Aj (BK h4 ?_);repeat' (first|refine zqa ?_|refine zqh (λ_=>?_)|refine zqr ?_|refine zqb ?_|refine zqi ?_ ?_|refine zqc ?_|refine zqg (λ_=>?_) (λ_=>?_)|refine zqe ?_|fail)
   refine zAA ⟨r.length,by omega,exK kd [x,y],a4,2,v3,r,f,rfl,zAB hI2 (zAB hI3 hI4),rfl,h4,hTL3.mono hI4,hT3,by omega,by omega,?_⟩;rw [hm];simp [hg,Res.bind]
 ·rename_i hb
  have hb:isK l2 5=false:=by simpa [isK] using hb
  repeat' (first|refine zqa ?_|refine zqh (λ_=>?_)|refine zqr ?_|refine zqb ?_|(with_reducible first|refine Bl (sh254_3.eq_1 ..) ?_|refine Bl (sh254_1.eq_1 ..) ?_|refine Bl (sh254.eq_1 ..) ?_|refine And.intro ?_ ?_)|refine zqc ?_|refine zqg (λ_=>?_) (λ_=>?_)|refine zqe ?_|fail)
  exact fin (by simp [Hm,hb]) inferInstance
end
section
variable {ω:Om}{I:Imm}{L:LH}{K Pn:Value→M}{C:Obj→LH}{b:Nat}{v:Value}{l:List Tok}
theorem AGR:KN (KN (KN (λ_=>none) [43] (some (.int .i64 9))) [45] (some (.int .i64 10))) [124,124] (some (.int .i64 14))=λk=>(Pz k).map (.int .i64):=by
 funext k
 simp only [KN,Pz];by_cases h1:k=[43]
 ·subst h1;rfl
 ·by_cases h2:k=[45]
  ·subst h2;rfl
  ·by_cases h3:k=[124,124]
   ·subst h3;rfl
   ·simp only [h1,h2,h3,if_false];rfl
theorem AEX:KN (KN (KN (λ_=>none) [42] (some (.int .i64 11))) [47] (some (.int .i64 12))) [37] (some (.int .i64 13))=λk=>(KD k).map (.int .i64):=by
 funext k
 simp only [KN,KD];by_cases h1:k=[42]
 ·subst h1;rfl
 ·by_cases h2:k=[47]
  ·subst h2;rfl
  ·by_cases h3:k=[37]
   ·subst h3;rfl
   ·simp only [h1,h2,h3,if_false];rfl
theorem ALW (s:Bs):Pz s≠some 0:=by unfold Pz;repeat' split <;> simp
theorem AGO (s:Bs):KD s≠some 0:=by unfold KD;repeat' split <;> simp
theorem APl (n:Nat){g:Pr Ex}(hg1:FnE ω (n+1) b 255 g):FnE ω (n+1) b 243 (CB n g (Hm Pz)):=by
 intro K Pn I L C v l hF h hT hl hok herr;obtain ⟨L1,L2,rfl,rfl⟩:=hF.foc;refine ARR ?_;unfold ANZ;refine Ac (λb1=>?_);refine AIx (λbm=>?_);obtain ⟨es1,c1,e1,h1⟩:=MapS.empty.put [43] (.int .i64 9);obtain ⟨es2,c2,e2,h2⟩:=h1.put [45] (.int .i64 10);obtain ⟨es3,c3,e3,h3⟩:=h2.put [124,124] (.int .i64 14);rw [AGR] at h3;refine zAA (QB (k:=[43]) MapS.empty e1 ?_);refine zAA (QB (k:=[45]) h1 e2 ?_);refine zAA (QB (k:=[124,124]) h2 e3 ?_);refine zAA ?_;refine AX (CalP.pre (Gh.freeze λhI1=>zAA ?_));refine UD n ALW (hg1.one (by kernel_rfl)) (es:=es3) (clock:=c3) (by simp [Imm.put]) h3 (h.mono hI1) hT hl (λx r hg hT' hr I' v' w hI' hv' hw=>?_) (λe hg I' v' hI'=>?_)
 ·obtain ⟨a,k,rfl⟩:=zAG hw;repeat' (first|(with_reducible first|refine CU (b:=b) ?_|refine keepA ?_|refine Ac (λ_=>?_))|((with_reducible refine Aj ?_);with_reducible refine CV _ zT zA (λhb hT' hl' v' hv'=>?_) (λhb=>?_))|(with_reducible refine CJ _ zT zA (λhb hT' hl' I' v' hI' hv'=>?_) (λhb I' v' hI'=>?_))|((with_reducible refine AX ?_);with_reducible refine DF zT zA (λhb hT' hl' v' hv'=>?_) (λhb=>?_))|((with_reducible refine AX ?_);with_reducible refine Ad zT zA ?_)|(with_reducible first|refine DT zC (λI' a hI' hw'=>zAA ?_)|refine Cm zC zC (λI' a hI' hw'=>zAA ?_)|refine Dn zC zC zC (λI' a hI' hw'=>zAA ?_))|((with_reducible refine Aj ?_);with_reducible refine BK zC ?_)|refine zqr ?_|refine zqb ?_|refine zqi ?_ ?_|refine zqc ?_|refine zqg (λhb=>?_) (λhb=>?_)|refine zqe ?_|fail)
  exact zAE (L1++(b,PBo v')::L2) (zAA (hok x r hg hT' hr I' v' _ (zAB hI1 hI') hv' hw))
 ·exact zAE (L1++(b,PBo v')::L2) (zAA (herr e hg I' v' (zAB hI1 hI')))
theorem ALV (n:Nat){g:Pr Ex}(hg1:FnE ω (n+1) b 262 g):FnE ω (n+1) b 255 (CB n g (Hm KD)):=by
 intro K Pn I L C v l hF h hT hl hok herr;obtain ⟨L1,L2,rfl,rfl⟩:=hF.foc;refine ARO ?_;unfold ANW;refine Ac (λb1=>?_);refine AIx (λbm=>?_);obtain ⟨es1,c1,e1,h1⟩:=MapS.empty.put [42] (.int .i64 11);obtain ⟨es2,c2,e2,h2⟩:=h1.put [47] (.int .i64 12);obtain ⟨es3,c3,e3,h3⟩:=h2.put [37] (.int .i64 13);rw [AEX] at h3;refine zAA (QB (k:=[42]) MapS.empty e1 ?_);refine zAA (QB (k:=[47]) h1 e2 ?_);refine zAA (QB (k:=[37]) h2 e3 ?_);refine zAA ?_;refine AX (CalP.pre (Gh.freeze λhI1=>zAA ?_));refine UD n AGO (hg1.one (by kernel_rfl)) (es:=es3) (clock:=c3) (by simp [Imm.put]) h3 (h.mono hI1) hT hl (λx r hg hT' hr I' v' w hI' hv' hw=>?_) (λe hg I' v' hI'=>?_)
 ·obtain ⟨a,k,rfl⟩:=zAG hw;repeat' (first|(with_reducible first|refine CU (b:=b) ?_|refine keepA ?_|refine Ac (λ_=>?_))|((with_reducible refine Aj ?_);with_reducible refine CV _ zT zA (λhb hT' hl' v' hv'=>?_) (λhb=>?_))|(with_reducible refine CJ _ zT zA (λhb hT' hl' I' v' hI' hv'=>?_) (λhb I' v' hI'=>?_))|((with_reducible refine AX ?_);with_reducible refine DF zT zA (λhb hT' hl' v' hv'=>?_) (λhb=>?_))|((with_reducible refine AX ?_);with_reducible refine Ad zT zA ?_)|(with_reducible first|refine DT zC (λI' a hI' hw'=>zAA ?_)|refine Cm zC zC (λI' a hI' hw'=>zAA ?_)|refine Dn zC zC zC (λI' a hI' hw'=>zAA ?_))|((with_reducible refine Aj ?_);with_reducible refine BK zC ?_)|refine zqr ?_|refine zqb ?_|refine zqi ?_ ?_|refine zqc ?_|refine zqg (λhb=>?_) (λhb=>?_)|refine zqe ?_|fail)
  exact zAE (L1++(b,PBo v')::L2) (zAA (hok x r hg hT' hr I' v' _ (zAB hI1 hI') hv' hw))
 ·exact zAE (L1++(b,PBo v')::L2) (zAA (herr e hg I' v' (zAB hI1 hI')))
theorem AQY (n:Nat){N Q:Pr Ex}(hN:FnE ω n b 220 N)(hQ:FnE ω (n+1) b 232 Q):FnE ω (n+1) b 220 (KI N Q):=by
 intro K Pn I L C v l hF h hT hl hok herr;obtain ⟨L1,L2,rfl,rfl⟩:=hF.foc;refine ARb ?_;unfold ANg;refine Ac (λb1=>?_);refine Aj (CV [110,111,116] h hT (λhb hT' hl' v' hv'=>?_) (λhb=>?_))
 ·try refine zqe ?_
  refine AX (hN _ _ _ _ _ _ _ inferInstance hv' hT' (by omega) (λx r hg hT2 hr I2 v2 w hI2 hv2 hw=>?_) (λe hg I2 v2 hI2=>zAE (L1++(b,PBo v2)::L2) (zAA (herr e (by simp only [KI,hb,if_true,hg,Res.bind]) I2 v2 hI2))));repeat' (first|(with_reducible first|refine CU (b:=b) ?_|refine keepA ?_|refine Ac (λ_=>?_))|((with_reducible refine Aj ?_);with_reducible refine CV _ zT zA (λhb hT' hl' v' hv'=>?_) (λhb=>?_))|(with_reducible refine CJ _ zT zA (λhb hT' hl' I' v' hI' hv'=>?_) (λhb I' v' hI'=>?_))|((with_reducible refine AX ?_);with_reducible refine DF zT zA (λhb hT' hl' v' hv'=>?_) (λhb=>?_))|((with_reducible refine AX ?_);with_reducible refine Ad zT zA ?_)|(with_reducible first|refine DT zC (λI' a hI' hw'=>zAA ?_)|refine Cm zC zC (λI' a hI' hw'=>zAA ?_)|refine Dn zC zC zC (λI' a hI' hw'=>zAA ?_))|((with_reducible refine Aj ?_);with_reducible refine BK zC ?_)|refine zqr ?_|refine zqb ?_|refine zqi ?_ ?_|refine zqc ?_|refine zqg (λhb=>?_) (λhb=>?_)|refine zqe ?_|fail)
  exact zAE (L1++(b,PBo v2)::L2) (zAA (hok (exK 5 [x]) r (by simp only [KI,hb,if_true,hg,Res.bind]) hT2 (by omega) _ v2 _ (zAB hI2 zA) (hv2.mono zA) zA))
 ·try refine zqe ?_
  refine AX (hQ _ _ _ _ _ _ _ inferInstance h hT (by omega) (λx r hg hT2 hr I2 v2 w hI2 hv2 hw=>?_) (λe hg I2 v2 hI2=>zAE (L1++(b,PBo v2)::L2) (zAA (herr e (by simp only [KI,hb,Bool.false_eq_true,if_false,hg]) I2 v2 hI2))));obtain ⟨a,k,rfl⟩:=zAG hw;repeat' (first|(with_reducible first|refine CU (b:=b) ?_|refine keepA ?_|refine Ac (λ_=>?_))|((with_reducible refine Aj ?_);with_reducible refine CV _ zT zA (λhb hT' hl' v' hv'=>?_) (λhb=>?_))|(with_reducible refine CJ _ zT zA (λhb hT' hl' I' v' hI' hv'=>?_) (λhb I' v' hI'=>?_))|((with_reducible refine AX ?_);with_reducible refine DF zT zA (λhb hT' hl' v' hv'=>?_) (λhb=>?_))|((with_reducible refine AX ?_);with_reducible refine Ad zT zA ?_)|(with_reducible first|refine DT zC (λI' a hI' hw'=>zAA ?_)|refine Cm zC zC (λI' a hI' hw'=>zAA ?_)|refine Dn zC zC zC (λI' a hI' hw'=>zAA ?_))|((with_reducible refine Aj ?_);with_reducible refine BK zC ?_)|refine zqr ?_|refine zqb ?_|refine zqi ?_ ?_|refine zqc ?_|refine zqg (λhb=>?_) (λhb=>?_)|refine zqe ?_|fail)
  exact zAE (L1++(b,PBo v2)::L2) (zAA (hok x r (by simp only [KI,hb,Bool.false_eq_true,if_false,hg]) hT2 hr I2 v2 _ hI2 hv2 hw))
end
theorem OneP.mono {α:Type}{ω:Om}{n b:Nat}{g:Pr α}{V:Imm→α→Value→Prop}{fv:Value}{I I':Imm}(h:OneP ω n b g V fv I)(hI:Ext I I'):OneP ω n b g V fv I':=
 λK Pn I2 L C v l hF hI2=>h K Pn I2 L C v l hF (zAB hI hI2)
section
variable {ω:Om}{I:Imm}{L:LH}{K Pn:Value→M}{C:Obj→LH}{b:Nat}{v:Value}{l:List Tok}
theorem AGD (n:Nat)(hn0:n≤1000000000){g:Pr (Ex)}{fv:Value}(hone:OneP ω n b g (Zv ExV) fv I)[hF:Foc b L (PBo v) C](h:TL I v l)(hT:Toks l)(hl:l.length≤n)
  (hok:POk (BC n g l) (λI x v=>RL ExV 11 I [] v x∧x.length≤l.length) l.length K C I) (herr:PEr (BC n g l) Pn C I):CalP Tryz.prog ω 155 #[AP b,fv] K Pn I L:=by
 obtain ⟨L1,L2,rfl,rfl⟩:=hF.foc;refine ASS ?_;unfold AOP;refine CJ [40] h hT (λhb hT' hl' I1 v1 hI1 hv1=>?_) (λhb I1 v1 hI1=>zAA (herr _ (by simp [BC,AL,hb,Res.bind,bad]) I1 v1 hI1));refine AX (AGU n hn0 (hone.mono hI1) hv1 hT' (by omega) (λx r hg hT2 hr I2 v2 c hI2 hv2 hc=>?_) (λe hg I2 v2 hI2=>zAA (herr e (by simp [BC,AL,hb,Res.bind,hg]) I2 v2 (zAB hI1 hI2))));refine CJ [41] hv2 hT2 (λhb2 hT3 hl3 I3 v3 hI3 hv3=>?_) (λhb2 I3 v3 hI3=>zAA (herr _ (by simp [BC,AL,hb,hb2,Res.bind,hg,bad]) I3 v3 (zAB hI1 (zAB hI2 hI3))));exact (zAA (hok x r.tail (by simp [BC,AL,hb,hb2,Res.bind,hg]) hT3 (by omega) I3 v3 c (zAB hI1 (zAB hI2 hI3)) hv3 ⟨zAN hc.1 hI3,by have:=hc.2;omega⟩))
theorem AGC (n:Nat)(hn0:n≤1000000000){g:Pr (Bs)}{fv:Value}(hone:OneP ω n b g (ATQ) fv I)[hF:Foc b L (PBo v) C](h:TL I v l)(hT:Toks l)(hl:l.length≤n)
  (hok:POk (BC n g l) (λI x v=>RL StrV 1 I [] v x∧x.length≤l.length) l.length K C I) (herr:PEr (BC n g l) Pn C I):CalP Tryz.prog ω 153 #[AP b,fv] K Pn I L:=by
 obtain ⟨L1,L2,rfl,rfl⟩:=hF.foc;refine ASU ?_;unfold AOR;refine CJ [40] h hT (λhb hT' hl' I1 v1 hI1 hv1=>?_) (λhb I1 v1 hI1=>zAA (herr _ (by simp [BC,AL,hb,Res.bind,bad]) I1 v1 hI1));refine AX (APo n hn0 (hone.mono hI1) hv1 hT' (by omega) (λx r hg hT2 hr I2 v2 c hI2 hv2 hc=>?_) (λe hg I2 v2 hI2=>zAA (herr e (by simp [BC,AL,hb,Res.bind,hg]) I2 v2 (zAB hI1 hI2))));refine CJ [41] hv2 hT2 (λhb2 hT3 hl3 I3 v3 hI3 hv3=>?_) (λhb2 I3 v3 hI3=>zAA (herr _ (by simp [BC,AL,hb,hb2,Res.bind,hg,bad]) I3 v3 (zAB hI1 (zAB hI2 hI3))));exact (zAA (hok x r.tail (by simp [BC,AL,hb,hb2,Res.bind,hg]) hT3 (by omega) I3 v3 c (zAB hI1 (zAB hI2 hI3)) hv3 ⟨zAJ hc.1 hI3,by have:=hc.2;omega⟩))
theorem AIz (n:Nat):OneP ω n b Ae ATQ (.func (.func 96) #[AP b] #[]) I:=by
 intro K Pn I' L C v l hF hI h hT hl hok herr;refine OI (by kernel_rfl) (DF h hT (λhb hT' hl' v' hv'=>?_) (λhb=>?_))
 ·exact hok (hd l).text l.tail (by simp [Ae,hb]) hT' (by omega) I' v' _ (zAC _) hv' rfl
 ·have:=herr (hd l).at' (by simp [Ae,hb,bad]) I' v (zAC _);obtain ⟨L1,L2,rfl,rfl⟩:=hF.foc;exact this
theorem AAu (n:Nat)(hn0:n≤1000000000)[hF:Foc b L (PBo v) C](h:TL I v l)(hT:Toks l)(hl:l.length≤n)
  (hok:POk (BC n Ae l) (λI x v=>StL I v x∧x.length≤l.length) l.length K C I) (herr:PEr (BC n Ae l) Pn C I):CalP Tryz.prog ω 97 #[AP b] K Pn I L:=by
 refine AUz ?_;unfold ATf;refine AX (AGC n hn0 (AIz n) h hT hl (λx r hg hT2 hr I2 v2 c hI2 hv2 hc=>zAA (hok x r hg hT2 hr I2 v2 c hI2 hv2 hc)) (λe hg I2 v2 hI2=>zAA (herr e hg I2 v2 hI2)))
theorem Xz (n:Nat)(hn0:n≤1000000000){E:Pr Ex}(hE:FnE ω n b 148 E)[hF:Foc b L (PBo v) C](h:TL I v l)(hT:Toks l)(hl:l.length≤n)
  (hok:POk (BC n E l) (λI x v=>ExL I v x∧x.length≤l.length) l.length K C I) (herr:PEr (BC n E l) Pn C I):CalP Tryz.prog ω 99 #[AP b] K Pn I L:=by
 refine AUx ?_;unfold ATd;refine AX (AGD n hn0 (hE.one (by kernel_rfl)) h hT hl (λx r hg hT2 hr I2 v2 c hI2 hv2 hc=>zAA (hok x r hg hT2 hr I2 v2 c hI2 hv2 hc)) (λe hg I2 v2 hI2=>zAA (herr e hg I2 v2 hI2)))
theorem AIN (n:Nat)(hn0:n≤1000000000){E:Pr Ex}(hE:FnE ω n b 148 E)[hF:Foc b L (PBo v) C](h:TL I v l)(hT:Toks l)(hl:l.length≤n)
  (hok:∀x r,BC n E l= .ok x r→Toks r→r.length≤l.length→x.length≤l.length→∀I' v' a k,Ext I I'→TL I' v' r→ExL I' (.slice a x.length k) x→K (.slice a x.length k) I' (C (PBo v'))) (herr:PEr (BC n E l) Pn C I):CalP Tryz.prog ω 99 #[AP b] K Pn I L:=
 Xz n hn0 hE h hT hl (λx r hg hT' hr I' v' w hI hv' hw=>by
  obtain ⟨a,k,rfl⟩:=zAG hw.1;exact hok x r hg hT' hr hw.2 I' v' a k hI hv' hw.1) herr
def cmpLq:List Bs:=[[61],[60,62],[60],[60,61],[62],[62,61]]
theorem AIn {r:List Tok}:∀{k:Nat} (hk:k < 6),(∀j,j < k→isT r (cmpLq.getD j [])=false)→isT r (cmpLq.getD k [])=true→Dk r=15+k
 |0,_,_,h=>by simp only [cmpLq,List.getD_cons_zero] at h;simp [Dk,h]
 |1,_,h0,h=>by have:=h0 0 (by omega);simp only [cmpLq,List.getD_cons_zero,List.getD_cons_succ] at h this;simp [Dk,h,this]
 |2,_,h0,h=>by have h1:=h0 0 (by omega);have h2:=h0 1 (by omega);simp only [cmpLq,List.getD_cons_zero,List.getD_cons_succ] at h h1 h2;simp [Dk,h,h1,h2]
 |3,_,h0,h=>by have h1:=h0 0 (by omega);have h2:=h0 1 (by omega);have h3:=h0 2 (by omega);simp only [cmpLq,List.getD_cons_zero,List.getD_cons_succ] at h h1 h2 h3;simp [Dk,h,h1,h2,h3]
 |4,_,h0,h=>by have h1:=h0 0 (by omega);have h2:=h0 1 (by omega);have h3:=h0 2 (by omega);have h4:=h0 3 (by omega);simp only [cmpLq,List.getD_cons_zero,List.getD_cons_succ] at h h1 h2 h3 h4;simp [Dk,h,h1,h2,h3,h4]
 |5,_,h0,h=>by have h1:=h0 0 (by omega);have h2:=h0 1 (by omega);have h3:=h0 2 (by omega);have h4:=h0 3 (by omega);have h5:=h0 4 (by omega);simp only [cmpLq,List.getD_cons_zero,List.getD_cons_succ] at h h1 h2 h3 h4 h5;simp [Dk,h,h1,h2,h3,h4,h5]
theorem AIm {r:List Tok}(h0:∀j,j < 6→isT r (cmpLq.getD j [])=false):Dk r=0:=by
 have h1:=h0 0 (by omega);have h2:=h0 1 (by omega);have h3:=h0 2 (by omega);have h4:=h0 3 (by omega);have h5:=h0 4 (by omega);have h6:=h0 5 (by omega);simp only [cmpLq,List.getD_cons_zero,List.getD_cons_succ] at h1 h2 h3 h4 h5 h6;simp [Dk,h1,h2,h3,h4,h5,h6]
end
theorem RL.toI {α:Type}{R:Imm→α→List Value→Prop}{n:Nat}{I:Imm}{v:Value}{xs:List α}(hn:0 < n)(h:RL R n I [] v xs):∃cells,SlI I n v cells xs.length∧Recs (R I) n xs cells:=by
 obtain ⟨a,cap,cells,rfl,hc,hN,hR⟩:=h;refine ⟨cells,⟨hR.length,a,cap,rfl,hc,λh0=>?_⟩,hR⟩;rcases hN with ⟨a',cap',e,h1,_⟩|⟨b,off,cap',e,hl,hcs⟩|⟨s,e,_⟩
 ·omega
 ·simp only [Value.slice.injEq] at e;obtain ⟨rfl,_,rfl⟩:=e;have hpos:0 < cells.length:=by rw [hl];exact Nat.mul_pos (by omega) hn
  obtain ⟨cs,T,fr,hm,hv⟩:=hcs 0 cells[0] (List.getElem?_eq_getElem hpos);rcases hm with hm|hm
  ·cases hm
  ·refine ⟨b,off,cs,T,fr,rfl,hm,λj u hu=>?_⟩;obtain ⟨cs',T',fr',hm',hv'⟩:=hcs j u hu;rcases hm' with hm'|hm'
   ·cases hm'
   ·rw [hm] at hm';cases hm';exact hv'
 ·cases e
theorem AFy {I:Imm}{L F:LH}(hp:L.Perm F){T n bytes len m:Nat}{z:Array Value}{s x:Value}{a:Option Addr}{olds news:List Value}{K:Value→M}(hz:z.size=n)(hs:s= .slice a len len)(ho:News n s I L len olds)(hn:News n x I L m news)
  (h1:∀u∈news,u.oneCell'=true) (hm:0 < m) (hb:(len+m) * bytes≤150000000000000) (hm':len+m≤150000000000000) (hk:∀X' v',SlO T n X' v' (olds++news) (len+m)→Gh (K v') I (X'++F)):App T n bytes z s x (gh K) I L:=by
 have hol:=ho.length;have hnl:=hn.length;have hlen:(olds++news).length=(len+m) * n:=by rw [List.length_append,hol,hnl,Nat.add_mul]
 refine ⟨a,len,len,m,news,hs,hn,h1,.inr (.inr ⟨by omega,hb,hm',olds,L,ho,List.Sublist.refl _,λb c hc=>?_⟩)⟩;refine Gh.perm (List.Perm.cons _ hp) ((hk [(b,_)] _ ⟨hlen,.inr ⟨b,c,_,rfl,rfl,?_,hc,?_⟩⟩))
 ·simp only [Array.size_append,List.size_toArray,GX,hz,hlen];rw [←Nat.add_mul];congr 1;omega
 ·intro j u hu;have hlt:j < (olds++news).length:=(List.getElem?_eq_some_iff.1 hu).1;rw [Array.getElem?_append_left (by simpa using hlt)];simpa using hu
section
variable {ω:Om}{I:Imm}{L:LH}{K Pn:Value→M}{C:Obj→LH}{b:Nat}{v:Value}{l:List Tok}
theorem AWa {T bytes m:Nat}{z:Array Value}(hz:z.size=11){a:Option Addr}{w:Value}{xs ys:List Ex}(hm:m=xs.length)(hu:ExL I (.slice a m m) xs)(hw:ExL I w ys)(hb:(xs.length+ys.length) * bytes≤150000000000000)(hl:xs.length+ys.length≤150000000000000)
  (hk:∀I' a' k,Ext I I'→ExL I' (.slice a' (xs++ys).length k) (xs++ys)→Gh (K (.slice a' (xs++ys).length k)) I' L):App T 11 bytes z (.slice a m m) w (gh K) I L:=by
 subst hm;obtain ⟨c1,s1,r1⟩:=RL.toI (by decide) hu;obtain ⟨c2,s2,r2⟩:=RL.toI (by decide) hw;by_cases h0:ys.length=0
 ·obtain rfl:=List.eq_nil_of_length_eq_zero h0;have hnil:c2=[]:=List.eq_nil_of_length_eq_zero (by simpa using r2.length);subst hnil;refine ⟨a,xs.length,xs.length,0,[],rfl,s2.news,(by simp),.inl ⟨Nat.le_refl _,rfl,?_⟩⟩;have e:(xs++([]:List Ex)).length=xs.length:=by simp
  have:=hk I a xs.length (zAC _) (by simpa using hu);rw [e] at this;exact this
 ·exact AFy (List.Perm.refl _) hz rfl (SlI.news s1 (L:=L)) (SlI.news s2 (L:=L)) (r2.one_cells λx c h=>ExV.one h) (by omega) hb hl (λX' v' h'=>SlO.freeze h' λI' hI hS=>by
   have hx:ExL I' v' (xs++ys):=RL.ofI (by rw [List.length_append];exact hS) (Recs.append (r1.imp λ_ _ h=>ExV.mono hI h) (r2.imp λ_ _ h=>ExV.mono hI h));obtain ⟨a',k,rfl⟩:=zAG hx;exact hk I' a' k hI hx)
end
section
variable {ω:Om}{b:Nat}
set_option maxHeartbeats 4000000 in
theorem AMS (n:Nat)(hn0:n+1≤1000000000){E S:Pr Ex}(hE:FnE ω n b 148 E)(hS:FnE ω (n+1) b 243 S):FnE ω (n+1) b 232 (EG n E S):=by
 intro K Pn I L C v l hF h hT hl hok herr;obtain ⟨L1,L2,rfl,rfl⟩:=hF.foc;refine ARW ?_;unfold sh232;refine Ac (λb1=>?_);refine AX (hS _ _ _ _ _ _ _ inferInstance h hT hl ?_ ?_);rotate_left
 ·intro e hg I' v' hI;exact zAE (L1++(b,PBo v')::L2) (zAA (herr e (by simp only [EG,hg,Res.bind]) I' v' hI))
 intro x r0 hg0 hT0 hr0 I0 v0 w0 hI0 hTL0 hw0;refine Ac (λb3=>?_);obtain ⟨a,k0,rfl⟩:=zAG hw0;repeat' (first|refine zqa ?_|refine zqh (λ_=>?_)|refine zqr ?_|refine zqb ?_|refine zqi ?_ ?_|refine zqc ?_|refine zqg (λ_=>?_) (λ_=>?_)|refine zqe ?_|fail)
 refine Eo cmpLq rfl rfl (λI1 ac hI1 hc=>zAA ?_);try refine zqe ?_
 have hw1:=zAN hw0 hI1;have hTL1:=hTL0.mono hI1;have hI01:=zAB hI0 hI1;refine loop (λm s I2 Lx=>∃k:Nat,k+m=6∧s=(.int .i64 k,())∧I2=I1∧Lx=(b3,Obj.cells (Ak x (.slice a x.args.length k0)).toArray 37 (0,0))::(b1,Obj.cells exZ.toArray 37 (0,0))::(L1++(b,PBo v0)::L2)∧∀j,j < k→isT r0 (cmpLq.getD j [])=false) 6
  ⟨0,rfl,rfl,rfl,rfl,λj hj=>by omega⟩ ?_
 rintro m s I2 Lx ⟨k,hkm,rfl,rfl,rfl,hno⟩;unfold sh232_1;try refine zqe ?_
 refine AB (λhlt=>?_) (λhlt=>?_)
 ·simp at hlt;have hlt:k < 6:=by omega
  obtain ⟨bw,off,c,h1,_,h2,h3⟩:=zAS hc (i:=k) (by omega) (by simp [cmpLq];omega);have hgk:QD cmpLq (k:Int)=cmpLq.getD k []:=by simp [QD];rfl
  rw [hgk] at h2;obtain rfl:=h2;have h1:ixV 1 (.slice ac 6 6) (.int .i64 k)=some (.pointer (some ⟨bw,off,none⟩)):=h1;simp only [h1,SSd,Nat.reduceAdd];refine rd1 ((h3 _ [] (zAC _) (λ_ h=>h) 0 _ rfl).mono (zAC _) (λ_ h=>by cases h)) ?_;refine Aj (CV (cmpLq.getD k []) hTL1 hT0 (λhb hT' hl' v' hv'=>?_) (λhb=>?_))
  ·try refine zqe ?_
   have hop:=AIn hlt hno hb;refine CU (b:=b) ?_;simp only [SSd,Nat.reduceAdd,wrap_i64 (15+(k:Int)) (by omega)];refine SK rfl ?_;refine AX (hS _ _ _ _ _ _ _ inferInstance hv' hT' (by omega) ?_ ?_);rotate_left
   ·intro e hg I3 v3 hI3;exact zAE (L1++(b,PBo v3)::L2) (zAA (herr e (by simp [EG,hg0,Res.bind,hop,hg];omega) I3 v3 (zAB hI01 hI3)))
   intro y r hg hT3 hr I3 v3 u hI3 hTL3 hu;refine CS hI3 ?_;refine Cm (zAN hw1 hI3) hu (λI4 a4 hI4 h4=>zAA ?_);refine Aj (BK h4 ?_);repeat' (first|refine zqa ?_|refine zqh (λ_=>?_)|refine zqr ?_|refine zqb ?_|refine zqi ?_ ?_|refine zqc ?_|refine zqg (λ_=>?_) (λ_=>?_)|refine zqe ?_|fail)
   refine zAE (L1++(b,PBo v3)::L2) (zAA (hok (exK (15+k) [x,y]) r ?_ hT3 (by omega) I4 v3 _ (zAB hI01 (zAB hI3 hI4)) (hTL3.mono hI4) h4));simp [EG,hg0,Res.bind,hop,hg];omega
  ·simp only [SSd,Nat.reduceAdd,wrap_i64 ((k:Int)+1) (by omega)];refine zAA ⟨m - 1,by omega,k+1,by omega,rfl,rfl,rfl,λj hj=>?_⟩;rcases Nat.lt_succ_iff_lt_or_eq.1 hj with hj|rfl
   ·exact hno j hj
   ·exact hb
 ·simp at hlt;have hop:Dk r0=0:=AIm λj hj=>hno j (by omega);clear hno hlt hkm hc;unfold sh232_3;repeat' (first|(with_reducible first|refine CU (b:=b) ?_|refine keepA ?_|refine Ac (λ_=>?_))|((with_reducible refine AX ?_);with_reducible refine hS.go zT zA (by omega) (λy r' hg hT2 hr2 I' v' a' k' hI' hv' hw'=>?_) (λe hg I' v' hI'=>?_))|((with_reducible refine AX ?_);with_reducible refine AIN n (by omega) hE zT zA (by omega) (λy r' hg hT2 hr2 hyl I' v' a' k' hI' hv' hw'=>?_) (λe hg I' v' hI'=>?_))|(with_reducible refine AWa rfl rfl zC zC zL zL (λI' a' k' hI' hw'=>zAA ?_))|((with_reducible refine Aj ?_);with_reducible refine CV _ zT zA (λhb hT' hl' v' hv'=>?_) (λhb=>?_))|(with_reducible refine CJ _ zT zA (λhb hT' hl' I' v' hI' hv'=>?_) (λhb I' v' hI'=>?_))|((with_reducible refine AX ?_);with_reducible refine DF zT zA (λhb hT' hl' v' hv'=>?_) (λhb=>?_))|((with_reducible refine AX ?_);with_reducible refine Ad zT zA ?_)|(with_reducible first|refine DT zC (λI' a hI' hw'=>zAA ?_)|refine Cm zC zC (λI' a hI' hw'=>zAA ?_)|refine Dn zC zC zC (λI' a hI' hw'=>zAA ?_))|((with_reducible refine Aj ?_);with_reducible refine BK zC ?_)|refine zqr ?_|refine zqb ?_|(with_reducible first|refine Bl (sh232_4.eq_1 ..) ?_|refine Bl (sh232_7.eq_1 ..) ?_|refine Bl (sh232_3.eq_1 ..) ?_|refine Bl (sh232_1.eq_1 ..) ?_|refine Bl (sh232.eq_1 ..) ?_|refine And.intro ?_ ?_)|refine zqc ?_|refine zqg (λhb=>?_) (λhb=>?_)|refine zqe ?_|fail)
  all_goals first
   |exact zAE (L1++(b,PBo v')::L2) (zAA (herr _ (by simp [EG,hg0,hop,Res.bind,bad,AL, *] <;> rfl) _ _ zE))
   |exact zAE (L1++(b,PBo v')::L2) (zAA (hok _ _ (by simp [EG,hg0,hop,JR,Res.bind,bad,AL, *] <;> rfl) zA (by omega) _ _ _ zE zT zC))
   |exact zAE (L1++(b,PBo v0)::L2) (zAA (hok _ _ (by simp [EG,hg0,hop,Res.bind,bad,AL,JR, *] <;> rfl) zA (by omega) _ _ _ zE zT zC))
end
def PT (E:Pr Ex)(a:List Ex)(r:List Tok):Res Ex:=(if isT r [101,108,115,101] then (E r.tail).bind λx r=>.ok (a++[x]) r else Res.ok a r).bind λa r=>(AL [101,110,100] r).bind λ_ r=>.ok (exK 26 a) r
theorem AJy (n:Nat)(E:Pr Ex)(l:List Tok):Hg n E l=(EZ n E [] l).bind λa r=>(DJ n E n a r).bind (PT E):=rfl
abbrev AJx (w:Value):List Value:=[.int .i64 26,.int .i64 0,.bool false,.int .i64 0,.string ⟨#[]⟩,.string ⟨#[]⟩,.string ⟨#[]⟩,.int .i64 0,.int .i64 0,.bool false,w]
section
variable {ω:Om}{b:Nat}
set_option maxHeartbeats 4000000 in
theorem AJw (n:Nat)(hn0:n≤1000000000){E:Pr Ex}(hE:FnE ω n b 148 E):FnE ω n b 266 (Hg n E):=by
 intro K Pn I L C v l hF h hT hl hok herr;obtain ⟨L1,L2,rfl,rfl⟩:=hF.foc;refine ARL ?_;unfold ANV;refine Ac (λb1=>?_);try refine zqe ?_
 refine Ac (λb3=>?_);repeat' (first|refine zqa ?_|refine zqh (λ_=>?_)|refine zqr ?_|refine zqb ?_|refine zqi ?_ ?_|refine zqc ?_|refine zqg (λ_=>?_) (λ_=>?_)|refine zqe ?_|fail)
 refine loop (λm s I2 Lx=>∃(X:LH) (w:Value) (cells:List Value) (acc:List Ex) (v2:Value) (l2:List Tok) (f:Nat),l2.length=m∧Ext I I2∧Lx=(b3,Obj.cells (AJx w).toArray 37 (0,0))::(b1,Obj.cells exZ.toArray 37 (0,0))::(X++(L1++(b,PBo v2)::L2))∧SlO 37 11 X w cells acc.length∧Recs (ExV I2) 11 acc cells∧TL I2 v2 l2∧Toks l2∧l2.length≤f∧l2.length≤l.length∧acc.length+l2.length≤l.length∧
   ((acc=[]∧w= .slice none 0 0∧Hg n E l=(EZ n E acc l2).bind λa r=>(DJ n E f a r).bind (PT E))∨((∃bb cap,w= .slice (some bb) acc.length cap)∧Hg n E l=(DJ n E f acc l2).bind (PT E)))) l.length
  ⟨[],.slice none 0 0,[],[],v,l,n,rfl,zAC _,rfl,SlO.none _ _,rfl,h,hT,hl,Nat.le_refl _,by simp,.inl ⟨rfl,rfl,AJy n E l⟩⟩ ?_
 rintro m s I2 Lx ⟨X,w,cells,acc,v2,l2,f,rfl,hI2,rfl,hX,hR,hTL,hT2,hf,hlen,hal,hm⟩;unfold ACC;rcases hm with ⟨rfl,rfl,hm⟩|⟨⟨bb,cap,rfl⟩,hm⟩
 ·try refine zqe ?_
  refine rdb ?_;try refine zqe ?_
  refine CJ [119,104,101,110] hTL hT2 (λhb hT' hl' I3 v3 hI3 hv3=>?_) (λhb I3 v3 hI3=>zAE (L1++(b,PBo v3)::L2) (zAA (herr _ (by rw [hm];simp [EZ,AL,hb,Res.bind,bad]) I3 v3 (zAB hI2 hI3))));refine AX (hE.go hv3 hT' (by omega) (λx r hg hT3 hr I4 v4 a4 k4 hI4 hv4 hw4=>?_) (λe hg I4 v4 hI4=>zAE (L1++(b,PBo v4)::L2) (zAA (herr e (by rw [hm];simp [EZ,AL,hb,Res.bind,hg]) I4 v4 (zAB hI2 (zAB hI3 hI4))))));refine Ac (λbw=>?_);repeat' (first|refine zqa ?_|refine zqh (λ_=>?_)|refine zqr ?_|refine zqb ?_|refine zqi ?_ ?_|refine zqc ?_|refine zqg (λ_=>?_) (λ_=>?_)|refine zqe ?_|fail)
  refine CJ [116,104,101,110] hv4 hT3 (λhb2 hT4 hl4 I5 v5 hI5 hv5=>?_) (λhb2 I5 v5 hI5=>zAE (L1++(b,PBo v5)::L2) (zAA (herr _ (by rw [hm];simp [EZ,AL,hb,hb2,Res.bind,hg,bad]) I5 v5 (zAB hI2 (zAB hI3 (zAB hI4 hI5))))));refine CU (b:=b) ?_;try refine zqe ?_
  refine EO ?_;refine SK rfl ?_;refine AX (hE.go hv5 hT4 (by omega) (λy r6 hg6 hT6 hr6 I6 v6 a6 k6 hI6 hv6 hw6=>?_) (λe hg6 I6 v6 hI6=>zAE (L1++(b,PBo v6)::L2) (zAA (herr e (by rw [hm];simp [EZ,AL,hb,hb2,Res.bind,hg,hg6]) I6 v6 (zAB hI2 (zAB hI3 (zAB hI4 (zAB hI5 hI6))))))));refine CS hI6 ?_;refine Cm (zAN hw4 (zAB hI5 hI6)) hw6 (λI7 a7 hI7 hw7=>zAA ?_);refine CS (zAB hI6 hI7) ?_;obtain ⟨c7,s7,r7⟩:=RL.toI (by decide) hw7;refine Ee (X:=X) rfl hX s7.news (r7.one_cells λx c h=>ExV.one h) zL zL (λX8 w8 hX8=>?_);have hI27:Ext I2 I7:=zAB hI3 (zAB hI4 (zAB hI5 (zAB hI6 hI7)));have hR8:=Recs.append (Recs.imp (R':=ExV I7) (λ_ _ h=>ExV.mono hI27 h) hR) r7;have e8:([]:List Ex).length+[x,y].length=(([]:List Ex)++[x,y]).length:=by simp
  rw [e8] at hX8;obtain ⟨a8,k8,ha8⟩:∃a k,w8= .slice (some a) (([]:List Ex)++[x,y]).length k:=by
   obtain ⟨_,h8⟩:=hX8;rcases h8 with ⟨_,h0,_⟩|⟨b8,k8,_,_,h8,_⟩
   ·simp at h0
   ·exact ⟨_,_,h8⟩
  subst ha8;repeat' (first|refine zqa ?_|refine zqh (λ_=>?_)|refine zqr ?_|refine zqb ?_|refine zqi ?_ ?_|refine zqc ?_|refine zqg (λ_=>?_) (λ_=>?_)|refine zqe ?_|fail)
  refine zAE ((b3,Obj.cells (AJx (.slice (some a8) (([]:List Ex)++[x,y]).length k8)).toArray 37 (0,0))::(b1,Obj.cells exZ.toArray 37 (0,0))::(X8++(L1++(b,PBo v6)::L2))) (zAA ⟨r6.length,by omega,X8,_,_,([]:List Ex)++[x,y],v6,r6,f,rfl,zAB hI2 hI27,rfl,hX8,hR8,hv6.mono hI7,hT6,by omega,by omega,?_,.inr ⟨⟨a8,k8,rfl⟩,?_⟩⟩)
  ·simp only [zU] at hal ⊢;omega
  ·rw [hm];simp [EZ,AL,hb,hb2,Res.bind,hg,hg6]
 ·try refine zqe ?_
  refine rdb ?_;try refine zqe ?_
  refine Aj (Jo [119,104,101,110] hTL hT2 (λhw=>?_) (λhw=>?_))
  ·try refine zqe ?_
   obtain ⟨f,rfl⟩:∃q,f=q+1:=⟨f - 1,by have:=hT2.len;omega⟩;have hm:Hg n E l=(EZ n E acc l2).bind λa r=>(DJ n E f a r).bind (PT E):=by
    rw [hm];simp only [DJ,hw,if_true,Res.bind];cases EZ n E acc l2 <;> rfl
   refine CJ [119,104,101,110] hTL hT2 (λhb hT' hl' I3 v3 hI3 hv3=>?_) (λhb I3 v3 hI3=>zAE (L1++(b,PBo v3)::L2) (zAA (herr _ (by rw [hm];simp [EZ,AL,hb,Res.bind,bad]) I3 v3 (zAB hI2 hI3))));refine AX (hE.go hv3 hT' (by omega) (λx r hg hT3 hr I4 v4 a4 k4 hI4 hv4 hw4=>?_) (λe hg I4 v4 hI4=>zAE (L1++(b,PBo v4)::L2) (zAA (herr e (by rw [hm];simp [EZ,AL,hb,Res.bind,hg]) I4 v4 (zAB hI2 (zAB hI3 hI4))))));refine Ac (λbw=>?_);repeat' (first|refine zqa ?_|refine zqh (λ_=>?_)|refine zqr ?_|refine zqb ?_|refine zqi ?_ ?_|refine zqc ?_|refine zqg (λ_=>?_) (λ_=>?_)|refine zqe ?_|fail)
   refine CJ [116,104,101,110] hv4 hT3 (λhb2 hT4 hl4 I5 v5 hI5 hv5=>?_) (λhb2 I5 v5 hI5=>zAE (L1++(b,PBo v5)::L2) (zAA (herr _ (by rw [hm];simp [EZ,AL,hb,hb2,Res.bind,hg,bad]) I5 v5 (zAB hI2 (zAB hI3 (zAB hI4 hI5))))));refine CU (b:=b) ?_;try refine zqe ?_
   refine EO ?_;refine SK rfl ?_;refine AX (hE.go hv5 hT4 (by omega) (λy r6 hg6 hT6 hr6 I6 v6 a6 k6 hI6 hv6 hw6=>?_) (λe hg6 I6 v6 hI6=>zAE (L1++(b,PBo v6)::L2) (zAA (herr e (by rw [hm];simp [EZ,AL,hb,hb2,Res.bind,hg,hg6]) I6 v6 (zAB hI2 (zAB hI3 (zAB hI4 (zAB hI5 hI6))))))));refine CS hI6 ?_;refine Cm (zAN hw4 (zAB hI5 hI6)) hw6 (λI7 a7 hI7 hw7=>zAA ?_);refine CS (zAB hI6 hI7) ?_;obtain ⟨c7,s7,r7⟩:=RL.toI (by decide) hw7;refine Ee (X:=X) rfl hX s7.news (r7.one_cells λx c h=>ExV.one h) zL zL (λX8 w8 hX8=>?_);have hI27:Ext I2 I7:=zAB hI3 (zAB hI4 (zAB hI5 (zAB hI6 hI7)));have hR8:=Recs.append (Recs.imp (R':=ExV I7) (λ_ _ h=>ExV.mono hI27 h) hR) r7;have e8:acc.length+[x,y].length=(acc++[x,y]).length:=by simp
   rw [e8] at hX8;obtain ⟨a8,k8,ha8⟩:∃a k,w8= .slice (some a) (acc++[x,y]).length k:=by
    obtain ⟨_,h8⟩:=hX8;rcases h8 with ⟨_,h0,_⟩|⟨b8,k8,_,_,h8,_⟩
    ·simp at h0
    ·exact ⟨_,_,h8⟩
   subst ha8;repeat' (first|refine zqa ?_|refine zqh (λ_=>?_)|refine zqr ?_|refine zqb ?_|refine zqi ?_ ?_|refine zqc ?_|refine zqg (λ_=>?_) (λ_=>?_)|refine zqe ?_|fail)
   refine zAE ((b3,Obj.cells (AJx (.slice (some a8) (acc++[x,y]).length k8)).toArray 37 (0,0))::(b1,Obj.cells exZ.toArray 37 (0,0))::(X8++(L1++(b,PBo v6)::L2))) (zAA ⟨r6.length,by omega,X8,_,_,acc++[x,y],v6,r6,f,rfl,zAB hI2 hI27,rfl,hX8,hR8,hv6.mono hI7,hT6,by omega,by omega,?_,.inr ⟨⟨a8,k8,rfl⟩,?_⟩⟩)
   ·simp only [zU] at hal ⊢;omega
   ·rw [hm];simp [EZ,AL,hb,hb2,Res.bind,hg,hg6]
  ·try refine zqe ?_
   have hm:Hg n E l=PT E acc l2:=by
    rw [hm];cases f with
    |zero=>rfl
    |succ f=>simp [DJ,hw,Res.bind]
   unfold ACB;refine Aj (CV [101,108,115,101] hTL hT2 (λhe hT' hl' v3 hv3=>?_) (λhe=>?_))
   ·try refine zqe ?_
    refine CU (b:=b) ?_;try refine zqe ?_
    refine EO ?_;refine AX (hE.go hv3 hT' (by omega) (λx r hg hT3 hr I3 v3 a3 k3 hI3 hv3 hw3=>?_) (λe hg I3 v3 hI3=>zAE (L1++(b,PBo v3)::L2) (zAA (herr e (by rw [hm];simp [PT,he,hg,Res.bind]) I3 v3 (zAB hI2 hI3)))));refine CS hI3 ?_;refine DT hw3 (λI4 a4 hI4 hw4=>zAA ?_);refine CS (zAB hI3 hI4) ?_;obtain ⟨c4,s4,r4⟩:=RL.toI (by decide) hw4;refine Ee (X:=X) rfl hX s4.news (r4.one_cells λx c h=>ExV.one h) zL zL (λX5 w5 hX5=>?_);have e5:acc.length+[x].length=(acc++[x]).length:=by simp
    rw [e5] at hX5;obtain ⟨a5,k5,rfl⟩:=hX5.form;repeat' (first|refine zqa ?_|refine zqh (λ_=>?_)|refine zqr ?_|refine zqb ?_|refine zqi ?_ ?_|refine zqc ?_|refine zqg (λ_=>?_) (λ_=>?_)|refine zqe ?_|fail)
    have hR5:=Recs.append (Recs.imp (R':=ExV I4) (λ_ _ h=>ExV.mono (zAB hI3 hI4) h) hR) r4;have hg9:Hg n E l=((AL [101,110,100] r).bind λ_ r=>.ok (exK 26 (acc++[x])) r):=by rw [hm];simp only [PT,he,if_true,hg,Res.bind]
    unfold QL;refine CJ [101,110,100] (hv3.mono hI4) hT3 (λhb hT9 hl9 I9 v9 hI9 hv9=>?_) (λhb I9 v9 hI9=>zAE (L1++(b,PBo v9)::L2) (zAA (herr _ (by rw [hg9];simp [AL,hb,Res.bind,bad]) I9 v9 (zAB (zAB hI2 (zAB hI3 hI4)) hI9))));repeat' (first|refine zqa ?_|refine zqh (λ_=>?_)|refine zqr ?_|refine zqb ?_|refine zqi ?_ ?_|refine zqc ?_|refine zqg (λ_=>?_) (λ_=>?_)|refine zqe ?_|fail)
    refine zAE (X5++(L1++(b,PBo v9)::L2)) ?_;refine RL.ofO (R:=ExV) (λ{I I' x c} h hI=>ExV.mono hI h) hX5 (Recs.imp (λ_ _ h=>ExV.mono hI9 h) hR5) (λI10 hI10 hw10=>zAA ?_);exact hok (exK 26 (acc++[x])) _ (by rw [hg9];simp only [AL,hb,if_true,Res.bind]) hT9 (by omega) I10 v9 _ (zAB (zAB hI2 (zAB hI3 hI4)) (zAB hI9 hI10)) (hv9.mono hI10) hw10
   ·try refine zqe ?_
    have hg9:Hg n E l=((AL [101,110,100] l2).bind λ_ r=>.ok (exK 26 acc) r):=by rw [hm];simp only [PT,he,Bool.false_eq_true,if_false,Res.bind]
    unfold QL;refine CJ [101,110,100] hTL hT2 (λhb hT9 hl9 I9 v9 hI9 hv9=>?_) (λhb I9 v9 hI9=>zAE (L1++(b,PBo v9)::L2) (zAA (herr _ (by rw [hg9];simp [AL,hb,Res.bind,bad]) I9 v9 (zAB hI2 hI9))));repeat' (first|refine zqa ?_|refine zqh (λ_=>?_)|refine zqr ?_|refine zqb ?_|refine zqi ?_ ?_|refine zqc ?_|refine zqg (λ_=>?_) (λ_=>?_)|refine zqe ?_|fail)
    refine zAE (X++(L1++(b,PBo v9)::L2)) ?_;refine RL.ofO (R:=ExV) (λ{I I' x c} h hI=>ExV.mono hI h) hX (Recs.imp (λ_ _ h=>ExV.mono hI9 h) hR) (λI10 hI10 hw10=>zAA ?_);exact hok (exK 26 (acc)) _ (by rw [hg9];simp only [AL,hb,if_true,Res.bind]) hT9 (by omega) I10 v9 _ (zAB hI2 (zAB hI9 hI10)) (hv9.mono hI10) hw10
end
section
variable {ω:Om}{b:Nat}
theorem ANL {I:Imm}{L:LH}{K:Value→M}(hk:∀I' a,Ext I I'→ExL I' (.slice a 1 1) [exK 3 []]→Gh (K (.slice a 1 1)) I' L):
  AY 37 11 #[.int .i64 0,.int .i64 0,.bool false,.int .i64 0,.string ⟨#[]⟩,.string ⟨#[]⟩,.string ⟨#[]⟩,.int .i64 0,.int .i64 0,.bool false,.slice none 0 0] 1
   [(0,.agg #[.int .i64 3,.int .i64 0,.bool false,.int .i64 0,.string ⟨#[]⟩,.string ⟨#[]⟩,.string ⟨#[]⟩,.int .i64 0,.int .i64 0,.bool false,.slice none 0 0])] (gh K) I L:=
 DT (x:=exK 3 []) (w:=.slice none 0 0) (zAD none 0) hk
set_option maxHeartbeats 1000000 in
theorem AFt (n:Nat)(hn0:n≤1000000000){E:Pr Ex}(hE:FnE ω n b 148 E)(s:Bs){I:Imm}{L:LH}{K Pn:Value→M}{C:Obj→LH}{v:Value}{l:List Tok}[hF:Foc b L (PBo v) C](h:TL I v l)(hT:Toks l)(hl:l.length≤n)
  (hyes:DZ s=true→∀x r,Cf n E s l= .ok x r→Toks r→r.length≤l.length→∀I' v' w,Ext I I'→TL I' v' r→ExL I' w x.args→K (.tuple #[.agg (Ak x w).toArray,.bool true]) I' (C (PBo v')))
  (herr:DZ s=true→PEr (Cf n E s l) Pn C I) (hno:DZ s=false→K (.tuple #[.agg exZ.toArray,.bool false]) I L):CalP Tryz.prog ω 267 #[AP b,.string ⟨s.toArray⟩] K Pn I L:=by
 obtain ⟨L1,L2,rfl,rfl⟩:=hF.foc;refine ARK ?_;unfold sh267;refine Ac (λb1=>?_);have agg:∀c:Bool,isAgg s=c→(s==[99,111,97,108,101,115,99,101])=false→(s==[108,101,110,103,116,104])=false→
   sh267_1 ω (AP b) (.string ⟨s.toArray⟩) (AP b1) (.bool false) (.bool c) (λv=>Gh (K v)) (λv=>Gh (Pn v)) I ((b1,Obj.cells exZ.toArray 37 (0,0))::(L1++(b,PBo v)::L2)):=by
  intro c hc h1 h2;have hs1:s≠[99,111,97,108,101,115,99,101]:=by simpa using h1
  have hs2:s≠[108,101,110,103,116,104]:=by simpa using h2
  unfold sh267_1;cases c with
  |false=>
   repeat' (first|(with_reducible first|refine CU (b:=b) ?_|refine keepA ?_|refine Ac (λ_=>?_))|((with_reducible refine Aj ?_);with_reducible refine CV _ zT zA (λhb hT' hl' v' hv'=>?_) (λhb=>?_))|(with_reducible refine CJ _ zT zA (λhb hT' hl' I' v' hI' hv'=>?_) (λhb I' v' hI'=>?_))|((with_reducible refine AX ?_);with_reducible refine DF zT zA (λhb hT' hl' v' hv'=>?_) (λhb=>?_))|((with_reducible refine AX ?_);with_reducible refine Ad zT zA ?_)|(with_reducible first|refine DT zC (λI' a hI' hw'=>zAA ?_)|refine Cm zC zC (λI' a hI' hw'=>zAA ?_)|refine Dn zC zC zC (λI' a hI' hw'=>zAA ?_))|((with_reducible refine Aj ?_);with_reducible refine BK zC ?_)|refine zqr ?_|refine zqb ?_|refine zqi ?_ ?_|refine zqc ?_|refine zqg (λhb=>?_) (λhb=>?_)|refine zqe ?_|fail)
   exact zAE (L1++(b,PBo v)::L2) (zAA (hno (by simp [DZ,h1,h2,hc])))
  |true=>
   have hok:=hyes (by simp [DZ,hc]);have herr:=herr (by simp [DZ,hc]);repeat' (first|(with_reducible first|refine CU (b:=b) ?_|refine keepA ?_|refine Ac (λ_=>?_))|((with_reducible refine AX ?_);with_reducible refine hE.go zT zA (by omega) (λy r' hg hT2 hr2 I' v' a' k' hI' hv' hw'=>?_) (λe hg I' v' hI'=>?_))|(with_reducible refine ANL (λI' a hI' hw'=>zAA ?_))|((with_reducible refine Aj ?_);with_reducible refine CV _ zT zA (λhb hT' hl' v' hv'=>?_) (λhb=>?_))|(with_reducible refine CJ _ zT zA (λhb hT' hl' I' v' hI' hv'=>?_) (λhb I' v' hI'=>?_))|((with_reducible refine AX ?_);with_reducible refine DF zT zA (λhb hT' hl' v' hv'=>?_) (λhb=>?_))|((with_reducible refine AX ?_);with_reducible refine Ad zT zA ?_)|(with_reducible first|refine DT zC (λI' a hI' hw'=>zAA ?_)|refine Cm zC zC (λI' a hI' hw'=>zAA ?_)|refine Dn zC zC zC (λI' a hI' hw'=>zAA ?_))|((with_reducible refine Aj ?_);with_reducible refine BK zC ?_)|refine zqr ?_|refine zqb ?_|(with_reducible first|refine Bl (sh267_3.eq_1 ..) ?_|refine Bl (sh267_2.eq_1 ..) ?_|refine Bl (sh267_4.eq_1 ..) ?_|refine Bl (sh267_1.eq_1 ..) ?_|refine Bl (sh267.eq_1 ..) ?_|refine And.intro ?_ ?_)|refine zqc ?_|refine zqg (λhb=>?_) (λhb=>?_)|refine zqe ?_|fail)
   all_goals (have hsc:(s==[99,111,117,110,116])=true→s=[99,111,117,110,116]:=λh=>by simpa using h)
   all_goals first
    |exact zAE (L1++(b,PBo v')::L2) (zAA (herr _ (by simp [Cf,hs1,hs2,Res.bind,bad,AL, *] <;> rfl) _ _ zE))
    |exact zAE (L1++(b,PBo v')::L2) (zAA (hok (Dw s true [y]) _ (by simp [Cf,hs1,hs2,Dw,Res.bind,bad,AL, *] <;> rfl) zA (by omega) _ _ _ zE zT zC))
    |exact zAE (L1++(b,PBo v')::L2) (zAA (hok (Dw s false [y]) _ (by simp [Cf,hs1,hs2,Dw,Res.bind,bad,AL, *] <;> rfl) zA (by omega) _ _ _ zE zT zC))
    |exact zAE (L1++(b,PBo v')::L2) (zAA (hok (Dw s false [exK 3 []]) _ (by simp [Cf,hs1,hs2,Dw,Res.bind,bad,AL, *] <;> rfl) zA (by omega) _ _ _ zE zT zC))
 repeat' (first|(with_reducible first|refine CU (b:=b) ?_|refine keepA ?_|refine Ac (λ_=>?_))|((with_reducible refine AX ?_);with_reducible refine hE.go zT zA (by omega) (λy r' hg hT2 hr2 I' v' a' k' hI' hv' hw'=>?_) (λe hg I' v' hI'=>?_))|((with_reducible refine AX ?_);with_reducible refine AIN n (by omega) hE zT zA (by omega) (λy r' hg hT2 hr2 hyl I' v' a' k' hI' hv' hw'=>?_) (λe hg I' v' hI'=>?_))|((with_reducible refine Aj ?_);with_reducible refine CV _ zT zA (λhb hT' hl' v' hv'=>?_) (λhb=>?_))|(with_reducible refine CJ _ zT zA (λhb hT' hl' I' v' hI' hv'=>?_) (λhb I' v' hI'=>?_))|((with_reducible refine AX ?_);with_reducible refine DF zT zA (λhb hT' hl' v' hv'=>?_) (λhb=>?_))|((with_reducible refine AX ?_);with_reducible refine Ad zT zA ?_)|(with_reducible first|refine DT zC (λI' a hI' hw'=>zAA ?_)|refine Cm zC zC (λI' a hI' hw'=>zAA ?_)|refine Dn zC zC zC (λI' a hI' hw'=>zAA ?_))|((with_reducible refine Aj ?_);with_reducible refine BK zC ?_)|refine zqr ?_|refine zqb ?_|refine zqi ?_ ?_|refine zqc ?_|refine zqg (λhb=>?_) (λhb=>?_)|refine zqe ?_|fail)
 all_goals (have hsc:(s==[99,111,97,108,101,115,99,101])=true→s=[99,111,97,108,101,115,99,101]:=λh=>by simpa using h)
 all_goals (have hsl:(s==[108,101,110,103,116,104])=true→s=[108,101,110,103,116,104]:=λh=>by simpa using h)
 all_goals first
  |exact agg true (by simp [isAgg, *]) zA zA
  |exact agg _ (by simp [isAgg, *]) zA zA
  |(have hs:=hsc zA;have hyes:=hyes (by simp [DZ, *]);have herr:=herr (by simp [DZ, *]);first
    |exact zAE (L1++(b,PBo v')::L2) (zAA (herr _ (by simp [Cf,hs,Res.bind,bad,AL, *] <;> rfl) _ _ zE))
    |exact zAE (L1++(b,PBo v')::L2) (zAA (hyes _ _ (by simp [Cf,hs,Res.bind,bad,AL, *] <;> rfl) zA (by omega) _ _ _ zE zT zC)))
  |(have hs:=hsl zA;have hyes:=hyes (by simp [DZ, *]);have herr:=herr (by simp [DZ, *]);first
    |exact zAE (L1++(b,PBo v')::L2) (zAA (herr _ (by simp [Cf,hs,Res.bind,bad,AL, *] <;> rfl) _ _ zE))
    |exact zAE (L1++(b,PBo v')::L2) (zAA (hyes _ _ (by simp [Cf,hs,Res.bind,bad,AL, *] <;> rfl) zA (by omega) _ _ _ zE zT zC)))
end
section
variable {ω:Om}{b:Nat}
theorem AMy (n:Nat)(hn0:n≤1000000000){E:Pr Ex}(hE:FnE ω n b 148 E)(s:Bs){I:Imm}{L:LH}{K Pn:Value→M}{C:Obj→LH}{v:Value}{l:List Tok}[hF:Foc b L (PBo v) C](h:TL I v l)(hT:Toks l)(hl:l.length≤n)
  (hyes:DZ s=true→∀x r,Cf n E s l= .ok x r→Toks r→r.length≤l.length→∀I' v' a k,Ext I I'→TL I' v' r→ExL I' (.slice a x.args.length k) x.args→K (.tuple #[.agg (Ak x (.slice a x.args.length k)).toArray,.bool true]) I' (C (PBo v')))
  (herr:DZ s=true→PEr (Cf n E s l) Pn C I) (hno:DZ s=false→K (.tuple #[.agg exZ.toArray,.bool false]) I L):CalP Tryz.prog ω 267 #[AP b,.string ⟨s.toArray⟩] K Pn I L:=
 AFt n hn0 hE s h hT hl (λhc x r hg hT' hr I' v' w hI hv' hw=>by
  obtain ⟨a,k,rfl⟩:=zAG hw;exact hyes hc x r hg hT' hr I' v' a k hI hv' hw) herr hno
set_option maxHeartbeats 1000000 in
theorem AGG (n:Nat)(hn0:n≤1000000000){E U:Pr Ex}(hE:FnE ω n b 148 E)(hU:FnE ω n b 262 U):FnE ω (n+1) b 262 (DK n E U):=by
 intro K Pn I L C v l hF h hT hl hok herr;obtain ⟨L1,L2,rfl,rfl⟩:=hF.foc;have hC:=AJw n hn0 hE;have hN:FnE ω (n+1) b 234 JQ:=VE (n+1);obtain ⟨bt,off,h1,h2⟩:=h.hd hT;refine ARN ?_;unfold sh262;repeat' (first|(with_reducible first|refine CU (b:=b) ?_|refine keepA ?_|refine Ac (λ_=>?_))|((with_reducible refine AX ?_);with_reducible refine hE.go zT zA (by omega) (λy r' hg hT2 hr2 I' v' a' k' hI' hv' hw'=>?_) (λe hg I' v' hI'=>?_))|((with_reducible refine AX ?_);with_reducible refine hU.go zT zA (by omega) (λy r' hg hT2 hr2 I' v' a' k' hI' hv' hw'=>?_) (λe hg I' v' hI'=>?_))|((with_reducible refine AX ?_);with_reducible refine hC.go zT zA (by omega) (λy r' hg hT2 hr2 I' v' a' k' hI' hv' hw'=>?_) (λe hg I' v' hI'=>?_))|((with_reducible refine AX ?_);with_reducible refine hN.go zT zA (by omega) (λy r' hg hT2 hr2 I' v' a' k' hI' hv' hw'=>?_) (λe hg I' v' hI'=>?_))|((with_reducible refine Aj ?_);with_reducible refine Nz zT zA (λx hx hT' hl' v' hv'=>?_) (λhx=>?_))|((with_reducible refine Aj ?_);with_reducible refine Jo _ zT zA (λhb=>?_) (λhb=>?_))|((with_reducible refine AX ?_);with_reducible refine AMy n hn0 hE _ zT zA (by omega) (λhcl y r' hg hT2 hr2 I' v' a' k' hI' hv' hw'=>?_) (λhcl e hg I' v' hI'=>?_) (λhcl=>?_))|((with_reducible refine rd1 (v:=.int .i64 (hd l).kind) ?_ ?_);exact (h2 _ [] (zAC _) 0 _ rfl).mono (zAC _) (λ_ h=>by cases h))|((with_reducible refine Aj ?_);with_reducible refine CV _ zT zA (λhb hT' hl' v' hv'=>?_) (λhb=>?_))|(with_reducible refine CJ _ zT zA (λhb hT' hl' I' v' hI' hv'=>?_) (λhb I' v' hI'=>?_))|((with_reducible refine AX ?_);with_reducible refine DF zT zA (λhb hT' hl' v' hv'=>?_) (λhb=>?_))|((with_reducible refine AX ?_);with_reducible refine Ad zT zA ?_)|(with_reducible first|refine DT zC (λI' a hI' hw'=>zAA ?_)|refine Cm zC zC (λI' a hI' hw'=>zAA ?_)|refine Dn zC zC zC (λI' a hI' hw'=>zAA ?_))|((with_reducible refine Aj ?_);with_reducible refine BK zC ?_)|refine zqr ?_|refine zqb ?_|(with_reducible first|refine Bl (sh262_1.eq_1 ..) ?_|refine Bl (sh262.eq_1 ..) ?_|refine And.intro ?_ ?_)|refine zqc ?_|refine zqg (λhb=>?_) (λhb=>?_)|(simp only [SSd,Nat.reduceAdd,h1]))
 all_goals (try have hk3:isK l 3=false:=‹((hd l).kind==3)=false›)
 all_goals (try have hk3:isK l 3=true:=‹((hd l).kind==3)=true›)
 all_goals first
  |exact zAE (L1++(b,PBo v')::L2) (zAA (herr _ (by simp [DK,Ae,Res.bind,bad,AL, *] <;> rfl) _ _ zE))
  |exact zAE (L1++(b,PBo v')::L2) (zAA (hok _ _ (by simp [DK,Ae,Res.bind,bad,AL, *] <;> rfl) zA (by omega) _ _ _ zE zT zC))
  |exact zAE (L1++(b,PBo v')::L2) (zAA (hok (Ec (hd l).text (hd l.tail.tail).text) _ (by simp [DK,Ae,Res.bind,bad,AL, *] <;> rfl) zA (by omega) _ _ _ zE zT zC))
  |exact zAE (L1++(b,PBo v')::L2) (zAA (hok (Ec [] (hd l).text) _ (by simp [DK,Ae,Res.bind,bad,AL, *] <;> rfl) zA (by omega) _ _ _ zE zT zC))
  |exact zAE (L1++(b,PBo v)::L2) (zAA (herr _ (by simp [DK,Ae,Res.bind,bad,AL, *] <;> rfl) _ _ zE))
theorem exprs (ω:Om)(b:Nat):∀n,n≤1000000000→FnE ω n b 148 (eP n)∧FnE ω n b 220 (nP n)∧FnE ω n b 262 (uP n)
 |0,_=>by
  have h0:∀f g,FnE ω 0 b f g:=λf g K Pn I L C v l hF h hT hl _ _=>by have:=hT.len;omega
  exact ⟨h0 _ _,h0 _ _,h0 _ _⟩
 |n+1,hn=>by
  obtain ⟨hE,hN,hU⟩:=exprs ω b n (by omega);have u:=AGG n (by omega) hE hU;have s:=APl n (ALV n u);have nn:=AQY n hN (AMS n hn hE s);exact ⟨AMj n (ATN n nn),nn,u⟩
end
end Go.Proofs.YtkifgfanjcfedaaGreatDoor
