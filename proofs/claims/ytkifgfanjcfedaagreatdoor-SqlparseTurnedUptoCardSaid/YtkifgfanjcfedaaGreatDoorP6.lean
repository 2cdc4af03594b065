/-
  Lemmas, part 6: laid together by a program.
-/
import Derived.Test.YtkifgfanjcfedaaGreatDoorP5
import Derived.Test.YtkifgfanjcfedaaGreatDoorP2
import Derived.Lib.Bytealg
set_option maxRecDepth 100000
set_option maxHeartbeats 4000000
set_option linter.unusedVariables false
set_option linter.unusedSimpArgs false
set_option linter.unusedSectionVars false
namespace Go.Proofs.YtkifgfanjcfedaaGreatDoor
open Go.SL
section
variable {ω:Om}{I:Imm}{L:LH}{K:Value→M}{C:Obj→LH}{b:Nat}{w:Value}{s:Bs}{a:Nat}
theorem Lr {v:Value}{ws:List Bs}(hw:StL I v ws)(hws:ws.length≤1000)(t:Bs)(hk:K (.bool (ws.contains t)) I L):CT ω 141 #[v,.string ⟨t.toArray⟩] K I L:=by
 refine AQO ?_;unfold AMh;refine call ?_;refine APa ?_;unfold AMA;simp only [RL.len hw,SSd,Nat.reduceAdd];refine loop (fun m st I2 Lx=>∃i:Nat,i+m=ws.length∧I2=I∧st=(.int .i64 0,.int .i64 i,())∧Lx=L∧∀j (hj:j < ws.length),j < i→(ws[j]==t)=false) ws.length ⟨0,by omega,rfl,rfl,rfl,fun j _ h=>by omega⟩ ?_;rintro m st I2 Lx ⟨i,h1,rfl,rfl,rfl,hall⟩;unfold ABQ;try refine zqe ?_
 refine AB (fun hb=>?_) (fun hb=>?_)
 ·have hb:i < ws.length:=by
   have:((i:Int) < ws.length):=by simpa using hb
   omega
  obtain ⟨bw,off,cw,hi1,_,hi2,hi3⟩:=RL.ix hw (i:=i) (by omega) (by omega);rw [Ah hb] at hi2;obtain rfl:=hi2;simp only [hi1,SSd,Nat.reduceAdd];refine rd1 ((hi3 _ [] (Ext.refl _) (fun _ h=>h) 0 _ rfl).mono (Ext.refl _) (fun _ h=>by cases h)) ?_;try refine zqe ?_
  refine AB (fun he=>?_) (fun he=>?_)
  ·have he:t=ws[i]:=by simpa using he
   have hc:ws.contains t=true:=by
    rw [List.contains_iff_mem,he];exact List.getElem_mem hb
   rw [hc] at hk;refine Gh.done ?_;have e1:decide ((0:Int)≤(i:Int))=true:=by simp
   simp only [e1,SSd,Nat.reduceAdd];exact Gh.done hk
  ·have he:t≠ws[i]:=by simpa using he
   simp only [wrap_i64 ((i:Int)+1) (by omega),SSd,Nat.reduceAdd];refine Gh.done ⟨m - 1,by omega,i+1,by omega,rfl,rfl,rfl,fun j hj hji=>?_⟩;rcases Nat.lt_or_eq_of_le (Nat.le_of_lt_succ hji) with hlt|rfl
   ·exact hall j hj hlt
   ·simpa using fun e=>he e.symm
 ·have hb:¬i < ws.length:=by
   have:¬((i:Int) < ws.length):=by simpa using hb
   omega
  have hc:ws.contains t=false:=by
   cases hc:ws.contains t with
   |false=>rfl
   |true=>
    rw [List.contains_iff_mem] at hc;obtain ⟨j,hj,e⟩:=List.mem_iff_getElem.1 hc;have:=hall j hj (by omega);simp [e] at this
  rw [hc] at hk;refine Gh.done ?_;repeat' (first|refine zqa ?_|refine zqh (fun _=>?_)|refine zqr ?_|refine zqb ?_|refine zqi ?_ ?_|refine zqc ?_|refine zqg (fun _=>?_) (fun _=>?_)|refine zqe ?_|fail)
  exact Gh.done hk
theorem ACg (c:UInt8)(h:(BP c||BC c)=true):c.toNat < 128:=by
 have:=Lt (p:=fun c=>decide ((BP c||BC c)=true→c.toNat < 128)) (by decide+kernel) c;exact of_decide_eq_true this h
theorem ALD (c:UInt8)(h:BC c=true):c.toNat < 128:=ACg c (by simp [h])
theorem Ea {p:UInt8→Bool}:∀{l:Bs} {c:UInt8},c∈l.takeWhile p→p c=true
 |x::l,c,h=>by
  by_cases hx:p x=true
  ·rw [List.takeWhile_cons_of_pos hx] at h;rcases List.mem_cons.1 h with rfl|h
   ·exact hx
   ·exact Ea h
  ·rw [List.takeWhile_cons_of_neg hx] at h;cases h
def ATk (s:Bs)(a:Nat)(K:Value→M)(C:Obj→LH)(w:Value)(I:Imm):Prop:=
 (∀t r,DJ a (s.drop a)= .tok t r→∀I' a',Ext I I'→a < a'→a'≤s.length→s.drop a'=r→K (.tuple #[AEx t.kind t.at' t.text t.num,.int .i64 0]) I' (C (LBo s a' w)))∧
 (∀e,DJ a (s.drop a)= .bad e→e≠0∧∀I' a' k x n,Ext I I'→K (.tuple #[AEx k a x n,.int .i64 e]) I' (C (LBo s a' w)))
theorem WR {p:UInt8→Bool}{s:Bs}{a a':Nat}{c:UInt8}(hd:s.drop a=c::s.drop (a+1))(hp:p c=true)(h1:a≤a')(hdr:s.drop a'=(s.drop a).dropWhile p):a < a':=by
 rcases Nat.lt_or_eq_of_le h1 with h|rfl
 ·exact h
 ·rw [hd,List.dropWhile_cons_of_pos hp] at hdr;have h2:=congrArg List.length hdr;have h3:((s.drop (a+1)).dropWhile p).length≤(s.drop (a+1)).length:=(List.dropWhile_suffix p).length_le;simp only [List.length_cons] at h2;omega
theorem AEE [hF:Foc b L (LBo s a w) C](ha:a < s.length)(hs:s.length≤900000000)(hw:StL I w wordsL)(hk:ATk s a K C w I):CT ω 92 #[AP b] K I L:=by
 obtain ⟨L1,L2,rfl,rfl⟩:=hF.foc;obtain ⟨aw,kw,rfl⟩:=RL.form hw;obtain ⟨hok,hbad⟩:=hk;obtain ⟨c,hc,hd⟩:=SN ha;refine ASl ?_;unfold ARR;refine Ad (fun b1=>?_);try refine zqe ?_
 refine rdb ?_;repeat' (first|refine zqa ?_|refine zqh (fun _=>?_)|refine zqr ?_|refine zqb ?_|refine zqi ?_ ?_|refine zqc ?_|refine zqg (fun _=>?_) (fun _=>?_)|refine zqe ?_|fail)
 rename_i bt
 simp only [ixS s hc,SSd,Nat.reduceAdd];refine call (FD c ?_);refine AB (fun hl=>?_) (fun hl=>?_)
 ·have hp:(BP c||BC c)=true:=by rw [show BP c=true from hl];rfl
  refine call (QZ (s:=s) (a:=a) (w:=.slice aw wordsL.length kw) AEn (Nat.le_of_lt ha) hs (fun a' h1 h2 hdr=>?_));have hlt:=WR hd hp h1 hdr;have htl:((s.drop a).takeWhile fun c=>BP c||BC c).length≤900000000:=Nat.le_trans (List.takeWhile_prefix _).length_le (by simp;omega);refine call (AHh _ htl (fun d hd=>ACg d (Ea (p:=fun c=>BP c||BC c) hd)) ?_);have hone:DJ a (s.drop a)=Gw (((s.drop a).takeWhile fun c=>BP c||BC c).map Dz) a ((s.drop a).dropWhile fun c=>BP c||BC c):=by
   rw [hd];simp only [DJ];rw [if_pos (show BP c=true from hl)]
  generalize htx:(((s.drop a).takeWhile fun c=>BP c||BC c).map Dz)=tx at hone ⊢;repeat' (first|refine zqa ?_|refine zqh (fun _=>?_)|refine zqr ?_|refine zqb ?_|refine zqi ?_ ?_|refine zqc ?_|refine zqg (fun _=>?_) (fun _=>?_)|refine zqe ?_|fail)
  refine call (Lr hw (by decide) tx ?_);refine AB (fun hcn=>?_) (fun hcn=>?_);all_goals repeat' (first|refine zqa ?_|refine zqh (fun _=>?_)|refine zqr ?_|refine zqb ?_|(with_reducible first|refine Be (sh92_1.eq_1 ..) ?_|refine Be (sh92_3.eq_1 ..) ?_|refine And.intro ?_ ?_)|refine zqc ?_|refine zqg (fun _=>?_) (fun _=>?_)|refine zqe ?_|fail)
  all_goals (rename_i h63;simp only [decide_eq_true_eq,decide_eq_false_iff_not] at h63)
  all_goals first
   |exact Gh.to (L1++(b,LBo s a' (.slice aw wordsL.length kw))::L2) (Gh.done ((hbad 173 (by rw [hone];unfold Gw;rw [if_pos (by omega)])).2 I a' _ _ _ (Ext.refl _)))
   |exact Gh.to (L1++(b,LBo s a' (.slice aw wordsL.length kw))::L2) (Gh.done (hok ⟨2,a,tx,0⟩ _ (by rw [hone];unfold Gw;rw [if_neg (by omega),hcn];rfl) I a' (Ext.refl _) hlt h2 hdr))
   |exact Gh.to (L1++(b,LBo s a' (.slice aw wordsL.length kw))::L2) (Gh.done (hok ⟨1,a,tx,0⟩ _ (by rw [hone];unfold Gw;rw [if_neg (by omega),hcn];rfl) I a' (Ext.refl _) hlt h2 hdr))
 have hl:BP c=false:=by simpa using hl
 refine call (Et c ?_);refine AB (fun hg=>?_) (fun hg=>?_)
 ·repeat' (first|refine zqa ?_|refine zqh (fun _=>?_)|refine zqr ?_|refine zqb ?_|refine zqi ?_ ?_|refine zqc ?_|refine zqg (fun _=>?_) (fun _=>?_)|refine zqe ?_|fail)
  refine call (QZ (s:=s) (a:=a) (w:=.slice aw wordsL.length kw) AEU (Nat.le_of_lt ha) hs (fun a' h1 h2 hdr=>?_));have hlt:=WR hd hg h1 hdr;have htl:((s.drop a).takeWhile BC).length≤900000000:=Nat.le_trans (List.takeWhile_prefix _).length_le (by simp;omega);have hasc:∀d∈(s.drop a).takeWhile BC,d.toNat < 128:=fun d hd=>ALD d (Ea hd);have hdig:∀d∈(s.drop a).takeWhile BC,BC d=true:=fun d hd=>Ea hd;have hone:DJ a (s.drop a)=match MK ((s.drop a).takeWhile BC) 0 with
   |none=>.bad 172
   |some k=>if ((s.drop a).dropWhile BC).head?.any BP then .bad 172 else .tok ⟨3,a,[],k⟩ ((s.drop a).dropWhile BC):=by
   rw [hd];simp only [DJ];rw [if_neg (by rw [hl];decide),if_pos hg];cases MK (List.takeWhile BC (c::List.drop (a+1) s)) 0 <;> rfl
  generalize (s.drop a).takeWhile BC=ds at hone hasc hdig htl ⊢;refine ⟨⟨ds.toArray⟩,rfl,fun b2=>Gh.done ?_⟩;refine loop (fun m st I2 Lx=>∃(j:Nat) (n:Int),j+m=ds.length∧I2=I∧st=(.int .i64 0,())∧Lx=(b2,.stringIter ⟨ds.toArray⟩ j)::(bt,.cells [.int .i64 3,.int .i64 (a:Nat),.string ⟨#[]⟩,.int .i64 n].toArray 93 (0,0))::(b1,.cells [.int .i64 0,.int .i64 0,.string ⟨#[]⟩,.int .i64 0].toArray 93 (0,0))::(L1++(b,LBo s a' (.slice aw wordsL.length kw))::L2)∧0≤n∧n≤9223372036854775807∧MK ds 0=MK (ds.drop j) n) ds.length ⟨0,0,by omega,rfl,rfl,rfl,by omega,by omega,rfl⟩ ?_;rintro m st I2 Lx ⟨j,n,hj,rfl,rfl,rfl,hn0,hn1,hm⟩;unfold AFb;refine Vl (L1:=[]) hasc (fun d hdj hda=>Gh.done ?_) (fun he=>Gh.done ?_)
  ·obtain ⟨hjl,hje⟩:=List.getElem?_eq_some_iff.1 hdj;have hdg:=hdig d (hje ▸ List.getElem_mem hjl);simp only [BC,Bool.and_eq_true,decide_eq_true_eq] at hdg;have g1:(48:Nat)≤d.toNat:=hdg.1;have g2:d.toNat≤57:=hdg.2;have hdd:ds.drop j=d::ds.drop (j+1):=by rw [List.drop_eq_getElem_cons hjl,hje]
   rw [hdd] at hm;simp only [MK] at hm;have e1:IntKind.i32.wrap ((d.toNat:Int) - 48)=(d.toNat:Int) - 48:=IntWalk.i32_in _ (by omega);have e2:IntKind.i64.wrap ((d.toNat:Int) - 48)=(d.toNat:Int) - 48:=wrap_i64 _ (by omega);have e3:IntKind.i64.wrap (9223372036854775807 - ((d.toNat:Int) - 48))=9223372036854775807 - ((d.toNat:Int) - 48):=wrap_i64 _ (by omega);have e4:AA .quo (.int .i64 (9223372036854775807 - ((d.toNat:Int) - 48))) (.int .i64 10)=some (.int .i64 ((9223372036854775807 - ((d.toNat:Int) - 48)) / 10)):=by
    rw [AJQ _ _ .i64 (by decide),Int.tdiv_eq_ediv_of_nonneg (by omega),wrap_i64 _ (by omega)]
   repeat' (first|refine zqa ?_|refine zqh (fun _=>?_)|refine zqr ?_|refine zqb ?_|refine zqi ?_ ?_|refine zqc ?_|refine zqg (fun _=>?_) (fun _=>?_)|(simp only [SSd,Nat.reduceAdd,e1,e2,e3,e4]))
   ·rename_i hgt
    have hgt:=of_decide_eq_true hgt;rw [if_pos hgt] at hm;exact Gh.to (L1++(b,LBo s a' (.slice aw wordsL.length kw))::L2) (Gh.done ((hbad 172 (by rw [hone,hm])).2 I2 a' _ _ _ (Ext.refl _)))
   ·rename_i hgt
    have hgt:=of_decide_eq_false hgt;rw [if_neg hgt] at hm;have hle:n≤(9223372036854775807 - ((d.toNat:Int) - 48)) / 10:=by omega
    have e5:IntKind.i64.wrap (10 * n)=10 * n:=wrap_i64 _ (by omega);have e6:IntKind.i64.wrap (10 * n+((d.toNat:Int) - 48))=10 * n+((d.toNat:Int) - 48):=wrap_i64 _ (by omega);rw [e5,e6];exact Gh.done ⟨m - 1,by omega,j+1,10 * n+((d.toNat:Int) - 48),by omega,rfl,trivial,rfl,by omega,by omega,hm⟩
  ·try refine zqe ?_
   have hjn:ds.drop j=[]:=List.drop_eq_nil_of_le he;rw [hjn] at hm;have hm:MK ds 0=some n:=hm;simp only [hm] at hone;unfold AFa;refine EM ?_;try refine zqe ?_
   refine Dt ?_;try refine zqe ?_
   refine Dt ?_;try refine zqe ?_
   refine Bc (fun hb=>?_) (fun hb=>?_)
   ·have hb:a' < s.length:=by
     have:=of_decide_eq_true hb;omega
    obtain ⟨c2,hc2,hd2⟩:=SN hb;refine Dt ?_;try refine zqe ?_
    refine Dt ?_;simp only [ixS s hc2,SSd,Nat.reduceAdd];refine call (FD c2 ?_);have hany:((s.drop a).dropWhile BC).head?.any BP=BP c2:=by rw [←hdr,hd2];rfl
    rw [hany] at hone;refine AB (fun hl2=>?_) (fun hl2=>?_)
    ·unfold AFZ;repeat' (first|refine zqa ?_|refine zqh (fun _=>?_)|refine zqr ?_|refine zqb ?_|refine zqi ?_ ?_|refine zqc ?_|refine zqg (fun _=>?_) (fun _=>?_)|refine zqe ?_|fail)
     exact Gh.to (L1++(b,LBo s a' (.slice aw wordsL.length kw))::L2) (Gh.done ((hbad 172 (by rw [hone,if_pos hl2])).2 I2 a' _ _ _ (Ext.refl _)))
    ·unfold VC;repeat' (first|refine zqa ?_|refine zqh (fun _=>?_)|refine zqr ?_|refine zqb ?_|refine zqi ?_ ?_|refine zqc ?_|refine zqg (fun _=>?_) (fun _=>?_)|refine zqe ?_|fail)
     exact Gh.to (L1++(b,LBo s a' (.slice aw wordsL.length kw))::L2) (Gh.done (hok ⟨3,a,[],n⟩ _ (by rw [hone,if_neg (by simpa using hl2)]) I2 a' (Ext.refl _) hlt h2 hdr))
   ·have hb:¬a' < s.length:=by
     have hb:¬((a':Int) < s.length):=by simpa using hb
     omega
    have hany:((s.drop a).dropWhile BC).head?.any BP=false:=by
     rw [←hdr,List.drop_eq_nil_of_le (by omega)];rfl
    rw [hany] at hone;unfold VC;repeat' (first|refine zqa ?_|refine zqh (fun _=>?_)|refine zqr ?_|refine zqb ?_|refine zqi ?_ ?_|refine zqc ?_|refine zqg (fun _=>?_) (fun _=>?_)|refine zqe ?_|fail)
    exact Gh.to (L1++(b,LBo s a' (.slice aw wordsL.length kw))::L2) (Gh.done (hok ⟨3,a,[],n⟩ _ (by rw [hone];rfl) I2 a' (Ext.refl _) hlt h2 hdr))
 ·have hg:BC c=false:=by simpa using hg
  have hone:DJ a (s.drop a)=if c==34||c==39 then (match CQ c (s.drop (a+1)) with
   |none=>.bad 173
   |some (x,r')=>if c==34 then (if x.isEmpty||decide (63 < x.length) then .bad 173 else .tok ⟨1,a,x,0⟩ r') else .tok ⟨4,a,x,0⟩ r') else
   match Gy (s.drop a) with
   |none=>.bad 171
   |some x=>.tok ⟨5,a,if x=[33,61] then [60,62] else x,0⟩ ((s.drop a).drop x.length):=by
   rw [hd];simp only [DJ];rw [if_neg (by rw [hl];decide),if_neg (by rw [hg];decide)];split
   ·cases CQ c (s.drop (a+1)) <;> rfl
   ·cases Gy (c::s.drop (a+1)) <;> rfl
  have e34:((c.toNat:Int)==34)=(c==34):=WV c 34;have e39:((c.toNat:Int)==39)=(c==39):=WV c 39;simp only [e34,e39,SSd,Nat.reduceAdd];have quo:(c==34||c==39)=true→NC ω (AP b) (AP b1) (.int .i64 0) (AP bt) (.int .u8 c.toNat) (.bool true) (fun v=>Gh (K v)) I ((bt,.cells [.int .i64 0,.int .i64 (a:Nat),.string ⟨#[]⟩,.int .i64 0].toArray 93 (0,0))::(b1,.cells [.int .i64 0,.int .i64 0,.string ⟨#[]⟩,.int .i64 0].toArray 93 (0,0))::(L1++(b,LBo s a (.slice aw wordsL.length kw))::L2)):=by
   intro hq;rw [if_pos hq] at hone;have hc0:c≠0:=by rintro rfl;simp at hq
   unfold NC;try refine zqe ?_
   refine call (XR (s:=s) (a:=a) (w:=.slice aw wordsL.length kw) c hc0 ha hs (fun hn x=>?_) (fun x r hy a' h1 h2 hdr=>?_))
   ·rw [hn] at hone;repeat' (first|refine zqa ?_|refine zqh (fun _=>?_)|refine zqr ?_|refine zqb ?_|(with_reducible first|refine Be (sh92_11.eq_1 ..) ?_|refine Be (sh92_3.eq_1 ..) ?_|refine And.intro ?_ ?_)|refine zqc ?_|refine zqg (fun _=>?_) (fun _=>?_)|(simp only [SSd,Nat.reduceAdd,e34]))
    all_goals exact Gh.to (L1++(b,LBo s a (.slice aw wordsL.length kw))::L2) (Gh.done ((hbad 173 hone).2 I a _ _ _ (Ext.refl _)))
   ·rw [hy] at hone;simp only at hone
    repeat' (first|refine zqa ?_|refine zqh (fun _=>?_)|refine zqr ?_|refine zqb ?_|(with_reducible first|refine Be (sh92_11.eq_1 ..) ?_|refine Be (sh92_3.eq_1 ..) ?_|refine And.intro ?_ ?_)|refine zqc ?_|refine zqg (fun _=>?_) (fun _=>?_)|(simp only [SSd,Nat.reduceAdd,e34]))
    all_goals clear hw
    all_goals first
     |exact Gh.to (L1++(b,LBo s a' (.slice aw wordsL.length kw))::L2) (Gh.done ((hbad 173 (by rw [hone];first|(clear hok hbad;simp_all [List.isEmpty_iff];done)|(clear hok hbad;simp_all [List.isEmpty_iff] <;> omega))).2 I a' _ _ _ (Ext.refl _)))
     |exact Gh.to (L1++(b,LBo s a' (.slice aw wordsL.length kw))::L2) (Gh.done (hok ⟨1,a,x,0⟩ _ (by rw [hone];first|(clear hok hbad;simp_all [List.isEmpty_iff];done)|(clear hok hbad;simp_all [List.isEmpty_iff] <;> omega)) I a' (Ext.refl _) h1 h2 hdr))
     |exact Gh.to (L1++(b,LBo s a' (.slice aw wordsL.length kw))::L2) (Gh.done (hok ⟨4,a,x,0⟩ _ (by rw [hone];first|(clear hok hbad;simp_all [List.isEmpty_iff];done)|(clear hok hbad;simp_all [List.isEmpty_iff] <;> omega)) I a' (Ext.refl _) h1 h2 hdr))
  refine AB (fun h34=>?_) (fun h34=>?_)
  ·rw [show (c==34)=true from h34];exact quo (by simp [show (c==34)=true from h34])
  have h34:(c==34)=false:=by simpa using h34
  cases h39:(c==39) with
  |true=>exact quo (by simp [h39])
  |false=>
   rw [h34,h39] at hone;simp only [Bool.or_self,Bool.false_eq_true,if_false] at hone;unfold NC;try refine zqe ?_
   refine rdB rfl ?_;refine call (ADh (s:=s) (a:=a) (w:=.slice aw wordsL.length kw) ha hs a (fun hn I' hI'=>?_) (fun x hx hle I' hI'=>?_))
   ·rw [hn] at hone;simp only at hone
    repeat' (first|refine zqa ?_|refine zqh (fun _=>?_)|refine zqr ?_|refine zqb ?_|refine zqi ?_ ?_|refine zqc ?_|refine zqg (fun _=>?_) (fun _=>?_)|refine zqe ?_|fail)
    exact Gh.to (L1++(b,LBo s a (.slice aw wordsL.length kw))::L2) (Gh.done ((hbad 171 hone).2 I' a _ _ _ hI'))
   ·rw [hx] at hone;simp only at hone
    have hx0:0 < x.length:=by
     have:x∈signsL:=List.mem_of_find?_eq_some hx;simp only [signsL,List.mem_cons,List.not_mem_nil,or_false] at this;rcases this with rfl|rfl|rfl|rfl|rfl|rfl|rfl|rfl|rfl|rfl|rfl|rfl|rfl|rfl|rfl|rfl|rfl|rfl <;> decide
    repeat' (first|refine zqa ?_|refine zqh (fun _=>?_)|refine zqr ?_|refine zqb ?_|refine zqi ?_ ?_|refine zqc ?_|refine zqg (fun _=>?_) (fun _=>?_)|refine zqe ?_|fail)
    exact Gh.to (L1++(b,LBo s (a+x.length) (.slice aw wordsL.length kw))::L2) (Gh.done (hok _ _ hone I' (a+x.length) hI' (by omega) hle (by rw [List.drop_drop])))
end
abbrev WrO (p v w:Value):Obj:=.cells [p,v,w].toArray 113 (0,0)
theorem AJc:liesAt Tryz.prog Tryz.prog.depth 113 (3 / Tryz.prog.cellsOf 113) 0 111 1=true:=by kernel_rfl
def WrS (b:Nat)(w:Value)(X:LH)(l:Bs):Prop:=∃p v X0,BuP b p∧SlO 5 1 X0 v (Lib.byteCells l) l.length∧X=X0++[(b,WrO p v w)]
section
variable {ω:Om}{I:Imm}{L F:LH}{K:Value→M}{b:Nat}{w:Value}{X:LH}{l:Bs}
theorem PH {p v:Value}{L1 L2:LH}(hp:BuP b p)(hk:K (.tuple #[]) I (L1++(b,WrO (AP b) v w)::L2)):CT ω 209 #[AP b] K I (L1++(b,WrO p v w)::L2):=by
 refine AIZ ?_;unfold AGH;rcases hp with rfl|rfl
 ·have e1:IV .eql (.pointer none) (.pointer none)=some (.bool true):=rfl;simp only [e1,SSd,Nat.reduceAdd];refine rdb ?_;simp only [e1,SSd,Nat.reduceAdd];refine ⟨_,⟨b,0,[.pointer none,v,w].toArray,113,(0,0),rfl,.inr (by simp),by simp,rfl⟩,?_⟩;refine Xh (Gh.done ?_);refine ⟨_,⟨b,0,[.pointer none,v,w].toArray,113,(0,0),rfl,.inr (by simp),AJc,rfl⟩,?_⟩;repeat' (first|refine zqa ?_|refine zqh (fun _=>?_)|refine zqr ?_|refine zqb ?_|refine zqi ?_ ?_|refine zqc ?_|refine zqg (fun _=>?_) (fun _=>?_)|refine zqe ?_|fail)
  exact Gh.to _ (Gh.done hk)
 ·try refine zqe ?_
  refine rdb ?_;have e2:IV .neq (AP b) (AP b)=some (.bool false):=by simp [IV]
  simp only [Hg,SSd,Nat.reduceAdd];refine rdb ?_;simp only [e2,SSd,Nat.reduceAdd];exact Gh.done hk
theorem WL [hs:SplitL X L F](hW:WrS b w X l)(t:Bs)(hn:(l++t).length≤1000000000)(hk:∀X',WrS b w X' (l++t)→∀v,K v I (X'++F)):CT ω 172 #[AP b,.string ⟨t.toArray⟩] K I L:=by
 obtain ⟨p,v,X0,hp,hX,rfl⟩:=hW;rw [List.length_append] at hn;refine Cal.split (X0++[(b,WrO p v w)]) ?_;rw [List.append_assoc,List.cons_append,List.nil_append];refine AIb ?_;unfold AGL;refine call (PH hp ?_);try refine zqe ?_
 refine rdb ?_;refine DW (X:=X0) (n:=1) (m:=t.length) rfl hX (news:=Lib.byteCells t) (.inr (.inr ⟨⟨t.toArray⟩,rfl,rfl,rfl,rfl⟩)) (fun u hu=>?_) (by omega) (by omega) (fun X2 v2 hX2=>?_)
 ·obtain ⟨c,_,rfl⟩:=List.mem_map.1 hu;rfl
 have hX2:SlO 5 1 X2 v2 (Lib.byteCells (l++t)) (l++t).length:=by rw [Lib.byteCells_append];simpa using hX2
 obtain ⟨a2,k2,rfl⟩:=hX2.form;repeat' (first|refine zqa ?_|refine zqh (fun _=>?_)|refine zqr ?_|refine zqb ?_|refine zqi ?_ ?_|refine zqc ?_|refine zqg (fun _=>?_) (fun _=>?_)|refine zqe ?_|fail)
 refine Gh.done ?_;have:=hk (X2++[(b,WrO (AP b) (.slice a2 (l++t).length k2) w)]) ⟨_,_,X2,.inr rfl,hX2,rfl⟩ (.tuple #[.int .i64 t.length,.nilIface]);rwa [List.append_assoc,List.cons_append,List.nil_append] at this
theorem Ur [hs:SplitL X L F](hW:WrS b w X l)(h0:l≠[])(hn:l.length≤1000000000)(hk:∀X',K (.string ⟨l.toArray⟩) I (X'++F)):CT ω 59 #[AP b] K I L:=by
 obtain ⟨p,v,X0,hp,hX,rfl⟩:=hW;refine Cal.split (X0++[(b,WrO p v w)]) ?_;rw [List.append_assoc,List.cons_append,List.nil_append];refine ANN ?_;unfold ANx;obtain ⟨a,cap,rfl⟩:=hX.form;have hlenV:lenV (.slice a l.length cap)=some (.int .i64 l.length):=rfl;refine EM ?_;try refine zqe ?_
 refine Dt ?_;have hpos:0 < l.length:=List.length_pos_iff.2 h0;obtain ⟨hcl,hX⟩:=hX;rcases hX with ⟨_,h0',_⟩|⟨bb,cap',cs,rfl,e,hcs,hle,hcell⟩
 ·omega
 ·simp only [Value.slice.injEq] at e;obtain ⟨rfl,_,rfl⟩:=e;obtain ⟨k,rfl⟩:∃k,cap=k+1:=⟨cap - 1,by omega⟩;have hq:ADO (.slice (some ⟨bb,0,none⟩) l.length (k+1))=some (.pointer (some ⟨bb,0,none⟩)):=rfl;simp only [hq,SSd,Nat.reduceAdd];refine Dt ?_;try refine zqe ?_
  refine .inr ⟨bb,cs,(0,0),l,[],(b,WrO p (.slice (some ⟨bb,0,none⟩) l.length (k+1)) w)::F,rfl,rfl,h0,by omega,by omega,rfl,fun j u hu=>hcell j _ ?_,Gh.done (Gh.done ?_)⟩
  ·simp [Lib.byteCells,hu]
  ·have:=hk [(bb,.cells cs 5 (frz (0,0) l.length)),(b,WrO p (.slice (some ⟨bb,0,none⟩) l.length (k+1)) w)];simpa using this
theorem XU {v:Value}{ts:List Bs}(hW:WrS b w X l)(hv:StL I v ts)(hts:ts.length≤1000)(hn:(l++ts.flatten).length≤1000000000)(hk:∀X',WrS b w X' (l++ts.flatten)→K (.tuple #[]) I (X'++F)):XB ω (AP b) v (fun v=>Gh (K v)) I (X++F):=by
 unfold XB;simp only [RL.len hv,SSd,Nat.reduceAdd];refine loop (fun q st I' L'=>∃(k:Nat) (X':LH),k+q=ts.length∧st=(.int .i64 k,())∧I'=I∧L'=X'++F∧WrS b w X' (l++(ts.take k).flatten)) ts.length ⟨0,X,by omega,rfl,rfl,rfl,by simpa using hW⟩ ?_;rintro q st I' L' ⟨k,X',hkq,rfl,rfl,rfl,hW'⟩;unfold ABz;try refine zqe ?_
 refine AB (fun hb=>?_) (fun hb=>?_)
 ·have hb:k < ts.length:=by
   have:=of_decide_eq_true hb;omega
  obtain ⟨bt,off,c1,g1,gl,g2,g3⟩:=RL.ix hv (i:=k) (by omega) (by omega);rw [Ah hb] at g2;obtain rfl:=g2;simp only [g1,SSd,Nat.reduceAdd];refine rdC (g3 _ [] (Ext.refl _) (fun _ h=>h) 0 _ rfl) (Ext.refl _) ?_;have hfl:(ts.take (k+1)).flatten=(ts.take k).flatten++ts[k]:=by rw [List.take_succ_eq_append_getElem hb,List.flatten_append];simp only [List.flatten_cons,List.flatten_nil,List.append_nil]
  have hle:(ts.take (k+1)).flatten.length≤ts.flatten.length:=by
   have h:ts.flatten=(ts.take (k+1)).flatten++(ts.drop (k+1)).flatten:=by rw [←List.flatten_append,List.take_append_drop]
   rw [h,List.length_append];omega
  rw [hfl,List.length_append] at hle;rw [List.length_append] at hn;refine call (WL (X:=X') hW' ts[k] (by simp only [List.length_append];omega) (fun X2 hW2 v=>?_));simp only [wrap_i64 ((k:Int)+1) (by omega),SSd,Nat.reduceAdd];refine Gh.done ⟨q - 1,by omega,k+1,X2,by omega,rfl,rfl,rfl,?_⟩;rw [hfl,←List.append_assoc];exact hW2
 ·have hb:¬k < ts.length:=by
   have:=of_decide_eq_false hb;omega
  rw [List.take_of_length_le (by omega)] at hW';exact Gh.done (hk X' hW')
theorem JB {v:Value}{ts:List Bs}[hs:SplitL X L F](hW:WrS b w X l)(hv:StL I v ts)(hts:ts.length≤1000)(hn:(l++ts.flatten).length≤1000000000)(hk:∀X',WrS b w X' (l++ts.flatten)→K (.tuple #[]) I (X'++F)):CT ω 113 #[AP b,v] K I L:=
 Cal.split X (AQg (XU hW hv hts hn hk))
theorem AET {v:Value}{ts:List Bs}(hW:WrS b w X l)(hv:StL I v ts)(hts:ts.length≤1000)(hn:(l++ts.flatten).length≤1000000000)(hk:∀X',WrS b w X' (l++ts.flatten)→K (.tuple #[]) I (X'++F)):CalD Tryz.prog ω 113 #[AP b,v] K I (X++F):=
 ALK (XU hW hv hts hn hk)
theorem BN {K':M}{z:Array Value}{s:Bs}[hs:SplitL X L F](hW:WrS b w X l)(hn:(l++s).length≤1000000000)(hk:∀I' X',Ext I I'→WrS b w X' (l++s)→K' I' (X'++F)):
  AX 9 1 z 1 [(0,.string ⟨s.toArray⟩)] (gh fun v=>CT ω 113 #[AP b,v] (gh fun _=>K')) I L:=by
 refine EO [s] rfl rfl (fun I' a hI' hw'=>Gh.done ?_);refine call (JB hW hw' (by simp) (by simpa using hn) (fun X' hW'=>hk I' X' hI' (by simpa using hW')))
theorem ATx {K':M}{z:Array Value}{s t:Bs}[hs:SplitL X L F](hW:WrS b w X l)(hn:(l++(s++t)).length≤1000000000)(hk:∀I' X',Ext I I'→WrS b w X' (l++(s++t))→K' I' (X'++F)):
  AX 9 1 z 2 [(0,.string ⟨s.toArray⟩),(1,.string ⟨t.toArray⟩)] (gh fun v=>CT ω 113 #[AP b,v] (gh fun _=>K')) I L:=by
 refine EO [s,t] rfl rfl (fun I' a hI' hw'=>Gh.done ?_);refine call (JB hW hw' (by simp) (by simpa using hn) (fun X' hW'=>hk I' X' hI' (by simpa using hW')))
theorem AOI {K':M}{z:Array Value}{s t u:Bs}[hs:SplitL X L F](hW:WrS b w X l)(hn:(l++(s++(t++u))).length≤1000000000)(hk:∀I' X',Ext I I'→WrS b w X' (l++(s++(t++u)))→K' I' (X'++F)):
  AX 9 1 z 3 [(0,.string ⟨s.toArray⟩),(1,.string ⟨t.toArray⟩),(2,.string ⟨u.toArray⟩)] (gh fun v=>CT ω 113 #[AP b,v] (gh fun _=>K')) I L:=by
 refine EO [s,t,u] rfl rfl (fun I' a hI' hw'=>Gh.done ?_);refine call (JB hW hw' (by simp) (by simpa using hn) (fun X' hW'=>hk I' X' hI' (by simpa using hW')))
end
def FN (q:UInt8)(s:Bs):Nat:=(s.filter (·==q)).length
def EG (q:UInt8)(s:Bs):Bs:=s.flatMap fun c=>if c==q then [q,q] else [c]
theorem QR {q c:UInt8}(s:Bs)(h:(c==q)=true):FN q (c::s)=FN q s+1:=by
 unfold FN;simp only [List.filter_cons,h,if_true,List.length_cons]
theorem Nl {q c:UInt8}(s:Bs)(h:¬(c==q)=true):FN q (c::s)=FN q s:=by
 unfold FN;simp only [List.filter_cons,h];simp
theorem ALF {q c:UInt8}(s:Bs)(h:(c==q)=true):EG q (c::s)=q::q::EG q s:=by
 unfold EG;simp only [List.flatMap_cons,h,if_true];rfl
theorem ACt {q c:UInt8}(s:Bs)(h:¬(c==q)=true):EG q (c::s)=c::EG q s:=by
 unfold EG;simp only [List.flatMap_cons,h];rfl
theorem Vz (q:UInt8):∀s:Bs,(EG q s).length=s.length+FN q s
 |[]=>rfl
 |c::s=>by
  have ih:=Vz q s;by_cases h:(c==q)=true
  ·rw [ALF s h,QR s h];simp only [List.length_cons,ih];omega
  ·rw [ACt s h,Nl s h];simp only [List.length_cons,ih];omega
theorem YG (q:UInt8):∀(s:Bs) (n:Int),s.foldl (fun n x=>if x==q then n+1 else n) n=n+FN q s
 |[],n=>by simp [FN]
 |c::s,n=>by
  simp only [List.foldl_cons];rw [YG q s];by_cases h:(c==q)=true
  ·rw [if_pos h,QR s h];omega
  ·rw [if_neg h,Nl s h]
theorem Nj (q:UInt8)(a b:Bs):EG q (a++b)=EG q a++EG q b:=by simp [EG]
theorem Vy (q:UInt8):∀s:Bs,FN q s=0→EG q s=s
 |[],_=>rfl
 |c::s,h=>by
  by_cases hc:(c==q)=true
  ·rw [QR s hc] at h;omega
  ·rw [Nl s hc] at h;rw [ACt s hc,Vy q s h]
theorem Ub (q:UInt8):∀s:Bs,FN q s≠0→∃i,KW s q=(i:Nat)∧i < s.length∧FN q (s.take i)=0∧s.drop i=q::s.drop (i+1)∧FN q (s.drop (i+1))+1=FN q s
 |[],h=>absurd rfl h
 |c::s,h=>by
  by_cases hc:(c==q)=true
  ·have hc':c=q:=by simpa using hc
   subst hc';refine ⟨0,by simp [KW,List.findIdx?_cons],by simp,rfl,rfl,?_⟩;rw [QR s hc];rfl
  ·rw [Nl s hc] at h ⊢;obtain ⟨i,h1,h2,h3,h4,h5⟩:=Ub q s h;refine ⟨i+1,?_,by simp;omega,?_,by simpa using h4,by simpa using h5⟩
   ·unfold KW at h1 ⊢;rw [List.findIdx?_cons,if_neg hc];cases hf:s.findIdx? (·==q) with
    |none=>rw [hf] at h1;simp only at h1;omega
    |some j=>rw [hf] at h1;simp only [Option.map_some] at h1 ⊢;omega
   ·rw [List.take_succ_cons,Nl _ hc];exact h3
theorem cnt_le (q:UInt8)(s:Bs):FN q s≤s.length:=List.length_filter_le _ _
section
variable {ω:Om}{I:Imm}{L:LH}{K:Value→M}
theorem XG (s:Bs)(q:UInt8)(hk:K (.int .i64 (FN q s:Nat)) I L):CT ω 239 #[.string ⟨s.toArray⟩,.string ⟨[q].toArray⟩] K I L:=by
 refine APC ?_;unfold ALi;have hq:([q]:Bs)[0]? =some q:=rfl;simp only [Qx,List.length_cons,List.length_nil,show ((0+1:Nat):Int)=1 from rfl,show ((1:Int)==0)=false from rfl,show ((1:Int)==1)=true from rfl,show (.int .i64 0:Value)= .int .i64 ((0:Nat):Int) from rfl,ixS [q] hq,SSd,Nat.reduceAdd];refine ExtE.ret ⟨_,fun w hs=>?_,Gh.done (Gh.done hk)⟩;show Sem.run _ (do
  let b ←Extern.Bytes.bytesOf (.string ⟨s.toArray⟩)
  let c ←Extern.Bytes.asByte (.int .u8 q.toNat)
  pure (goInt (b.foldl (fun n x=>if x==c then n+1 else n) (0:Nat)))) w=_
 have hc:((q.toNat:Int).toNat).toUInt8=q:=by simp
 simp only [Sem.run_bind,Extern.Bytes.bytesOf,Result.andThen_ok,Extern.Bytes.asByte,Sem.run_pure,hc];rw [Lib.foldl_data,show (⟨s.toArray⟩:ByteArray).data.toList=s from rfl,YG];simp [goInt]
theorem PI (l:Bs)(c:UInt8)(hk:K (.int .i64 (KW l c)) I L):CT ω 188 #[.string ⟨l.toArray⟩,.int .u8 c.toNat] K I L:=by
 refine AIa ?_;unfold AGJ;refine ExtE.ret ⟨_,fun w hs=>?_,Gh.done (Gh.done hk)⟩;show Sem.run _ (do
  let b ←Extern.Bytes.bytesOf (.string ⟨l.toArray⟩)
  let c ←Extern.Bytes.asByte (.int .u8 c.toNat)
  match (List.range b.size).find? fun i=>b[i]! ==c with
  |some i=>pure (goInt i)
  |none=>pure (goInt (-1))) w=_
 have hc:((c.toNat:Int).toNat).toUInt8=c:=by simp
 simp only [Sem.run_bind,Extern.Bytes.bytesOf,Result.andThen_ok,Extern.Bytes.asByte,Sem.run_pure,hc,Xy];unfold KW;cases l.findIdx? (·==c) <;> rfl
theorem Xp (s:Bs)(q:UInt8)(hk:K (.int .i64 (KW s q)) I L):CT ω 240 #[.string ⟨s.toArray⟩,.string ⟨[q].toArray⟩] K I L:=by
 refine APB ?_;unfold ALh;refine call ?_;refine AOz ?_;unfold ALf;have hq:([q]:Bs)[0]? =some q:=rfl;simp only [Qx,sEq,List.length_cons,List.length_nil,show ((0+1:Nat):Int)=1 from rfl,show ((1:Int)==0)=false from rfl,show ((1:Int)==1)=true from rfl,SSd,Nat.reduceAdd];refine AB (fun he=>?_) (fun he=>?_)
 ·have he:[q]=s:=by simpa using he
  subst he;have:KW [q] q=0:=by simp [KW,List.findIdx?_cons]
  rw [this] at hk;exact Gh.done (Gh.done hk)
 ·unfold ABG;simp only [show ((1:Int)==1)=true from rfl,show (.int .i64 0:Value)= .int .i64 ((0:Nat):Int) from rfl,ixS [q] hq,SSd,Nat.reduceAdd];exact call (PI s q (Gh.done (Gh.done hk)))
theorem Vd (s:Bs)(q:UInt8)(hs:(EG q s).length≤1000000000)(hk:K (.string ⟨(EG q s).toArray⟩) I L):CT ω 210 #[.string ⟨s.toArray⟩,.string ⟨[q].toArray⟩,.string ⟨[q,q].toArray⟩] K I L:=by
 refine APO ?_;unfold ALr;refine call ?_;refine APH ?_;unfold ALl;have hne:(([q]:Bs)==[q,q])=false:=by simp
 simp only [sEq,hne,show ((-1:Int)==0)=false from rfl,SSd,Nat.reduceAdd];refine call (XG s q ?_);try refine zqe ?_
 have hlen:=Vz q s;refine AB (fun h0=>?_) (fun h0=>?_)
 ·have h0:FN q s=0:=by
   have:((FN q s:Nat):Int)=0:=by simpa using h0
   omega
  rw [Vy q s h0] at hk;exact Gh.done (Gh.done hk)
 have h0:FN q s≠0:=by
  have:¬((FN q s:Nat):Int)=0:=by simpa using h0
  omega
 unfold ABJ;simp only [show decide ((-1:Int) < 0)=true from rfl,SSd,Nat.reduceAdd];unfold PY;refine Ad (fun b=>?_);have hcl:=cnt_le q s;have e1:IntKind.i64.wrap (((2:Nat):Int) - ((1:Nat):Int))=1:=rfl;have e2:IntKind.i64.wrap ((FN q s:Int) * 1)=FN q s:=by rw [Int.mul_one];exact wrap_i64 _ (by omega)
 have e3:IntKind.i64.wrap ((s.length:Int)+FN q s)=((s.length+FN q s:Nat):Int):=by rw [wrap_i64 _ (by omega)];omega
 simp only [Qx,List.length_cons,List.length_nil,Nat.zero_add,Nat.reduceAdd,e1,e2,e3,SSd,Nat.reduceAdd];refine call (Uc (b:=b) (p:=.pointer none) (.inl rfl) (by omega) (by omega) (fun X v hX hb=>?_));simp only [show decide (((1:Nat):Int) > 0)=true from rfl,show decide ((0:Int) < ((1:Nat):Int))=true from rfl,SSd,Nat.reduceAdd];refine loop (fun m st I' L'=>∃(k a:Nat) (X':LH) (v':Value),k+m=FN q s∧st=(Value.int .i64 (a:Nat),Value.int .i64 (k:Nat),())∧I'=I∧L'=X'++((b,BuB (AP b) v')::L)∧a≤s.length∧FN q (s.drop a)+k=FN q s∧SlO 5 1 X' v' (Lib.byteCells (EG q (s.take a))) (EG q (s.take a)).length) (FN q s) ⟨0,0,X,v,by omega,rfl,rfl,rfl,Nat.zero_le _,rfl,hX⟩ ?_;rintro m st I' L' ⟨k,a,X',v',hkm,rfl,rfl,rfl,ha,hck,hX'⟩;unfold ABH;try refine zqe ?_
 have hle:(EG q s).length=(EG q (s.take a)).length+(EG q (s.drop a)).length:=by
  rw [←List.length_append,←Nj,List.take_append_drop]
 refine AB (fun hb=>?_) (fun hb=>?_)
 ·have hb:k < FN q s:=by
   have:=of_decide_eq_true hb;omega
  obtain ⟨i,g1,g2,g3,g4,g5⟩:=Ub q (s.drop a) (by omega);have hal:a+i < s.length:=by rw [List.length_drop] at g2;omega
  have e4:IntKind.i64.wrap ((a:Int)+(i:Nat))=((a+i:Nat):Int):=by rw [wrap_i64 _ (by omega)];omega
  have e5:IntKind.i64.wrap (((a+i:Nat):Int)+((1:Nat):Int))=((a+i+1:Nat):Int):=by rw [wrap_i64 _ (by omega)];omega
  simp only [Yw s ha,SSd,Nat.reduceAdd];refine call (Xp (s.drop a) q ?_);simp only [g1,e4,slS s (Nat.le_add_right a i) (Nat.le_of_lt hal),Nat.add_sub_cancel_left,SSd,Nat.reduceAdd];have hp1:EG q ((s.drop a).take i)=(s.drop a).take i:=Vy q _ g3;have htk:s.take (a+i)=s.take a++(s.drop a).take i:=by rw [List.take_add]
  have hgc:s[a+i]=q:=by
   rw [List.drop_eq_getElem_cons g2] at g4;simp only [List.cons.injEq] at g4;simpa using g4.1
  have htk1:s.take (a+i+1)=s.take a++((s.drop a).take i++[q]):=by
   rw [List.take_succ_eq_append_getElem hal,hgc,htk,List.append_assoc]
  have hdt:EG q (s.take (a+i+1))=EG q (s.take a)++((s.drop a).take i++[q,q]):=by
   rw [htk1,Nj,Nj,hp1];simp [EG]
  have hle2:(EG q (s.take (a+i+1))).length≤(EG q s).length:=by
   have h:EG q s=EG q (s.take (a+i+1))++EG q (s.drop (a+i+1)):=by rw [←Nj,List.take_append_drop]
   rw [h,List.length_append];omega
  have hl3:(EG q (s.take (a+i+1))).length=(EG q (s.take a)).length+(((s.drop a).take i).length+2):=by rw [hdt];simp
  refine call (ES (b:=b) (X:=X') (.inr rfl) hX' (by omega) ((s.drop a).take i) (by omega) (fun X2 v2 hX2=>?_));refine call (ES (b:=b) (X:=X2) (.inr rfl) hX2 (by rw [List.length_append];omega) [q,q] (by simp) (fun X3 v3 hX3=>?_));simp only [List.length_cons,List.length_nil,Nat.zero_add,e5,wrap_i64 ((k:Int)+1) (by omega),SSd,Nat.reduceAdd];rw [List.append_assoc,←hdt] at hX3;refine Gh.done ⟨m - 1,by omega,k+1,a+i+1,X3,v3,by omega,rfl,rfl,rfl,by omega,?_,hX3⟩;rw [show s.drop (a+i+1)=(s.drop a).drop (i+1) by rw [List.drop_drop];congr 1];omega
 ·have hb:¬k < FN q s:=by
   have:=of_decide_eq_false hb;omega
  have hd0:=Vy q (s.drop a) (by omega);unfold VK;simp only [Yw s ha,SSd,Nat.reduceAdd];rw [hd0] at hle;refine call (ES (b:=b) (X:=X') (.inr rfl) hX' (by omega) (s.drop a) (by omega) (fun X2 v2 hX2=>?_));have hfin:EG q (s.take a)++s.drop a=EG q s:=by
   rw [←hd0,←Nj,List.take_append_drop]
  rw [hfin] at hX2;have hpos:0 < (EG q s).length:=by omega
  have hbuf:=SlO.buf hX2 hpos;refine call (Jr (b:=b) (X:=X2) hX2 hs (fun h=>by rw [h] at hpos;simp at hpos) (fun X4=>?_));exact Gh.done (Gh.to L (Gh.done hk))
end
section
variable {ω:Om}{I:Imm}{L F:LH}{K:Value→M}{b:Nat}{w:Value}{X:LH}{l:Bs}
theorem RI [hs:SplitL X L F](hW:WrS b w X l)(s:Bs)(q:UInt8)(hn:(l++GK q s).length≤1000000000)(hk:∀I' X',Ext I I'→WrS b w X' (l++GK q s)→K (.tuple #[]) I' (X'++F)):
  CT ω 173 #[AP b,.string ⟨s.toArray⟩,.string ⟨[q].toArray⟩] K I L:=by
 refine APp ?_;unfold AMO;have e1:Ag .add (.string ⟨[q].toArray⟩) (.string ⟨[q].toArray⟩)=some (.string ⟨[q,q].toArray⟩):=by
  exact ATw (a:=[q]) (b:=[q]) (by simp)
 simp only [e1,SSd,Nat.reduceAdd];have hq:GK q s=[q]++(EG q s++[q]):=rfl;rw [hq] at hn hk;have hd:(EG q s).length≤1000000000:=by simp only [List.length_append] at hn;omega
 refine call (Vd s q hd ?_);refine AOI hW hn (fun I' X' hI' hW'=>?_);exact Gh.done (hk I' X' hI' hW')
end
theorem CalVP.mono {P:Program}{ω:Om}{x:Value}{args:Array Value}{K K' Pn Pn':Value→M}{I:Imm}{L:LH}(h:CalVP P ω x args K Pn I L)(hk:∀v I' L',K v I' L'→K' v I' L')(hp:∀v I' L',Pn v I' L'→Pn' v I' L'):CalVP P ω x args K' Pn' I L:=by
 unfold CalVP at *;cases x with
 |func f first cap=>
  cases f with
  |func f=>
   simp only at h ⊢
   cases he:CG P f with
   |true=>simp only [he,if_true] at h ⊢;exact CalP.mono h hk hp
   |false=>
    simp only [he,if_false,Bool.false_eq_true] at h ⊢;cases hx:SG P f with
    |some e=>simp only [hx] at h ⊢;intro w hs;obtain ⟨v,w',I',L',h1,h2,h3⟩:=h w hs;exact ⟨v,w',I',L',h1,h2,hk _ _ _ h3⟩
    |none=>simp only [hx] at h;exact h.elim
  |yield l=>
   intro w hs;obtain ⟨f,tmps,assign,body,h1,h2⟩:=h w hs;exact ⟨f,tmps,assign,body,h1,RoundIn.mono h2 fun e w' ⟨v,I',L',h1,h2,h3⟩=>⟨v,I',L',h1,h2,hk _ _ _ h3⟩⟩
  |_=>exact h.elim
 |_=>exact h.elim
theorem Ff {P:Program}{ω:Om}{x:Value}{args:Array Value}{K Pn:Value→M}{I:Imm}{L:LH}(h:CalVP P ω x args K Pn I L):CalVP P ω x args (SL.gh K) Pn I L:=CalVP.mono h (fun _ _ _ h=>Gh.done h) (fun _ _ _ h=>h)
theorem Np {P:Program}{ω:Om}{f:Nat}{first cap args:Array Value}{K Pn:Value→M}{I:Imm}{L:LH}(he:CG P f=true)(h:CalP P ω f (first++args++cap) K Pn I L):CalVP P ω (.func (.func f) first cap) args K Pn I L:=by
 unfold CalVP;simp only [he,if_true];exact h
def Yc {α:Type}(R:Imm→α→List Value→Prop)(I:Imm)(x:α)(v:Value):Prop:=∃c,v= .agg c.toArray∧R I x c
def AQy (_:Imm)(x:Bs)(v:Value):Prop:=v= .string ⟨x.toArray⟩
def ATm {α:Type}(R:Imm→α→List Value→Prop)(n:Nat)(I:Imm)(x:List α)(v:Value):Prop:=RL R n I [] v x
def OneP {α:Type}(ω:Om)(n b:Nat)(g:Pr α)(V:Imm→α→Value→Prop)(fv:Value)(I0:Imm):Prop:=
 ∀(K Pn:Value→M) (I:Imm) (L:LH) (C:Obj→LH) (v:Value) (l:List Tok),Foc b L (PBo v) C→Ext I0 I→TL I v l→Toks l→l.length≤n→POk (g l) V l.length K C I→PEr (g l) Pn C I→CalVP Tryz.prog ω fv #[] K Pn I L
theorem Gs {α:Type}{R:Imm→α→List Value→Prop}{n:Nat}{I:Imm}{v:Value}{xs:List α}(h:RL R n I [] v xs):∃v',Hu n v none (some (.int .i64 xs.length)) (some (.int .i64 xs.length))=some v'∧RL R n I [] v' xs:=by
 obtain ⟨a',h1,h2⟩:=RL.clip h (Nat.le_refl _);rw [List.take_length] at h2;exact ⟨_,h1,h2⟩
section
variable {ω:Om}{I:Imm}{L:LH}{K Pn:Value→M}{C:Obj→LH}{b:Nat}{v:Value}{l:List Tok}
theorem AOo {w:Value}{xs:List (Ex)}(hw:RL ExV 11 I [] w xs)(hk:∀w',RL ExV 11 I [] w' xs→K w' I L):CT ω 200 #[w] K I L:=by
 refine APW ?_;unfold ALx;obtain ⟨w',h1,h2⟩:=Gs hw;simp only [RL.len hw,h1,SSd,Nat.reduceAdd];exact Gh.done (hk w' h2)
theorem AFF (n:Nat)(hn0:n≤1000000000){g:Pr (Ex)}{fv:Value}(hone:OneP ω n b g (Yc ExV) fv I)[hF:Foc b L (PBo v) C](h:TL I v l)(hT:Toks l)(hl:l.length≤n)
  (hok:POk (BV n g l) (fun I x v=>RL ExV 11 I [] v x∧x.length≤l.length) l.length K C I) (herr:PEr (BV n g l) Pn C I):CalP Tryz.prog ω 147 #[AP b,fv] K Pn I L:=by
 obtain ⟨L1,L2,rfl,rfl⟩:=hF.foc;refine AQI ?_;unfold AMc;refine Ff (hone _ _ I _ _ v l inferInstance (Ext.refl _) h hT hl ?_ ?_)
 ·rintro x r hg hT1 hr I1 v1 c hI1 hTL1 hc;obtain ⟨cx,rfl,hx⟩:=hc;refine En rfl (by omega) (by simpa [Value.cells] using ExV.len hx) (fun X u hX=>?_);refine loop (fun m s I2 Lx=>∃X v2 l2 w cells xs f,l2.length=m∧s=(w,())∧Ext I I2∧Lx=X++(L1++(b,PBo v2)::L2)∧TL I2 v2 l2∧Toks l2∧SlO 37 11 X w cells xs.length∧Recs (ExV I2) 11 xs cells∧l2.length≤f∧0 < xs.length∧xs.length+l2.length≤l.length+1∧BV n g l=CV g f xs l2) r.length
   ⟨X,v1,r,u,_,[x],n,rfl,rfl,hI1,rfl,hTL1,hT1,hX,(by simpa [Value.cells] using Recs.one (ExV.len hx) hx),by omega,by simp,by simp;omega,by simp only [BV,hg,Res.bind]⟩ ?_
  rintro m s I2 Lx ⟨X,v2,l2,w,cells,xs,f,rfl,rfl,hI2,rfl,hTL2,hT2,hX,hR,hf,hpos,hlen,hm⟩;unfold ABj;refine Ak (Ey [44] hTL2 hT2 (fun hb v3 hv3=>?_) (fun hb=>?_))
  ·try refine zqe ?_
   have hl2:=hT2.len;obtain ⟨f,rfl⟩:∃k,f=k+1:=⟨f - 1,by omega⟩;simp only [CV,hb,if_true] at hm;refine Ff (hone _ _ I2 _ _ v3 l2.tail inferInstance hI2 hv3 (hT2.tailT hb) (by omega) ?_ ?_)
   ·rintro y r3 hg3 hT3 hr3 I3 v4 c hI3 hTL3 hc;have hR:=Recs.imp (R':=ExV I3) (fun _ _ h=>ExV.mono hI3 h) hR;obtain ⟨cy,rfl,hy⟩:=hc;refine LJ (X6:=X) rfl (by omega) hX hR hy (ExV.len hy) (ExV.one hy) (by omega) (by omega) (fun X1 X6 w6 cells6 hX6 hR6=>Gh.to (X6++(L1++(b,PBo v4)::L2)) (Gh.done ⟨r3.length,by omega,X6,v4,r3,w6,cells6,xs++[y],f,rfl,rfl,Ext.trans hI2 hI3,rfl,hTL3,hT3,hX6,hR6,by omega,by simp,by simp;omega,?_⟩));rw [hm];simp only [hg3,Res.bind]
   ·rintro e hg3 I3 v4 hI3;exact Gh.to (L1++(b,PBo v4)::L2) (herr e (by rw [hm];simp only [hg3,Res.bind]) I3 v4 (Ext.trans hI2 hI3) |> Gh.done)
  ·try refine zqe ?_
   unfold ABi;refine CalP.pre (RL.ofO (R:=ExV) (fun {I I' x c} h hI=>ExV.mono hI h) hX hR (fun I3 hI3 hw=>Gh.done ?_));refine Ak (AOo hw (fun w' hw'=>?_));have hl2:=hT2.len;refine Gh.done (hok xs l2 ?_ hT2 ?_ I3 v2 w' (Ext.trans hI2 hI3) (hTL2.mono hI3) ⟨hw',by omega⟩)
   ·rw [hm];cases f with
    |zero=>rfl
    |succ f=>simp [CV,hb]
   ·omega
 ·rintro e hg I1 v1 hI1;exact Gh.done (herr e (by simp only [BV,hg,Res.bind]) I1 v1 hI1)
theorem AOn {w:Value}{xs:List (TItem)}(hw:RL TItemV 14 I [] w xs)(hk:∀w',RL TItemV 14 I [] w' xs→K w' I L):CT ω 197 #[w] K I L:=by
 refine APZ ?_;unfold ALz;obtain ⟨w',h1,h2⟩:=Gs hw;simp only [RL.len hw,h1,SSd,Nat.reduceAdd];exact Gh.done (hk w' h2)
theorem ANv (n:Nat)(hn0:n≤1000000000){g:Pr (TItem)}{fv:Value}(hone:OneP ω n b g (Yc TItemV) fv I)[hF:Foc b L (PBo v) C](h:TL I v l)(hT:Toks l)(hl:l.length≤n)
  (hok:POk (BV n g l) (fun I x v=>RL TItemV 14 I [] v x∧x.length≤l.length) l.length K C I) (herr:PEr (BV n g l) Pn C I):CalP Tryz.prog ω 144 #[AP b,fv] K Pn I L:=by
 obtain ⟨L1,L2,rfl,rfl⟩:=hF.foc;refine AQL ?_;unfold AMe;refine Ff (hone _ _ I _ _ v l inferInstance (Ext.refl _) h hT hl ?_ ?_)
 ·rintro x r hg hT1 hr I1 v1 c hI1 hTL1 hc;obtain ⟨cx,rfl,hx⟩:=hc;refine En rfl (by omega) (by simpa [Value.cells] using TItemV.len hx) (fun X u hX=>?_);refine loop (fun m s I2 Lx=>∃X v2 l2 w cells xs f,l2.length=m∧s=(w,())∧Ext I I2∧Lx=X++(L1++(b,PBo v2)::L2)∧TL I2 v2 l2∧Toks l2∧SlO 119 14 X w cells xs.length∧Recs (TItemV I2) 14 xs cells∧l2.length≤f∧0 < xs.length∧xs.length+l2.length≤l.length+1∧BV n g l=CV g f xs l2) r.length
   ⟨X,v1,r,u,_,[x],n,rfl,rfl,hI1,rfl,hTL1,hT1,hX,(by simpa [Value.cells] using Recs.one (TItemV.len hx) hx),by omega,by simp,by simp;omega,by simp only [BV,hg,Res.bind]⟩ ?_
  rintro m s I2 Lx ⟨X,v2,l2,w,cells,xs,f,rfl,rfl,hI2,rfl,hTL2,hT2,hX,hR,hf,hpos,hlen,hm⟩;unfold ABl;refine Ak (Ey [44] hTL2 hT2 (fun hb v3 hv3=>?_) (fun hb=>?_))
  ·try refine zqe ?_
   have hl2:=hT2.len;obtain ⟨f,rfl⟩:∃k,f=k+1:=⟨f - 1,by omega⟩;simp only [CV,hb,if_true] at hm;refine Ff (hone _ _ I2 _ _ v3 l2.tail inferInstance hI2 hv3 (hT2.tailT hb) (by omega) ?_ ?_)
   ·rintro y r3 hg3 hT3 hr3 I3 v4 c hI3 hTL3 hc;have hR:=Recs.imp (R':=TItemV I3) (fun _ _ h=>TItemV.mono h hI3) hR;obtain ⟨cy,rfl,hy⟩:=hc;refine LJ (X6:=X) rfl (by omega) hX hR hy (TItemV.len hy) (TItemV.one hy) (by omega) (by omega) (fun X1 X6 w6 cells6 hX6 hR6=>Gh.to (X6++(L1++(b,PBo v4)::L2)) (Gh.done ⟨r3.length,by omega,X6,v4,r3,w6,cells6,xs++[y],f,rfl,rfl,Ext.trans hI2 hI3,rfl,hTL3,hT3,hX6,hR6,by omega,by simp,by simp;omega,?_⟩));rw [hm];simp only [hg3,Res.bind]
   ·rintro e hg3 I3 v4 hI3;exact Gh.to (L1++(b,PBo v4)::L2) (herr e (by rw [hm];simp only [hg3,Res.bind]) I3 v4 (Ext.trans hI2 hI3) |> Gh.done)
  ·try refine zqe ?_
   unfold ABk;refine CalP.pre (RL.ofO (R:=TItemV) (fun {I I' x c} h hI=>TItemV.mono h hI) hX hR (fun I3 hI3 hw=>Gh.done ?_));refine Ak (AOn hw (fun w' hw'=>?_));have hl2:=hT2.len;refine Gh.done (hok xs l2 ?_ hT2 ?_ I3 v2 w' (Ext.trans hI2 hI3) (hTL2.mono hI3) ⟨hw',by omega⟩)
   ·rw [hm];cases f with
    |zero=>rfl
    |succ f=>simp [CV,hb]
   ·omega
 ·rintro e hg I1 v1 hI1;exact Gh.done (herr e (by simp only [BV,hg,Res.bind]) I1 v1 hI1)
theorem AOl {w:Value}{xs:List (TOrder)}(hw:RL TOrderV 12 I [] w xs)(hk:∀w',RL TOrderV 12 I [] w' xs→K w' I L):CT ω 203 #[w] K I L:=by
 refine APT ?_;unfold ALu;obtain ⟨w',h1,h2⟩:=Gs hw;simp only [RL.len hw,h1,SSd,Nat.reduceAdd];exact Gh.done (hk w' h2)
theorem ANt (n:Nat)(hn0:n≤1000000000){g:Pr (TOrder)}{fv:Value}(hone:OneP ω n b g (Yc TOrderV) fv I)[hF:Foc b L (PBo v) C](h:TL I v l)(hT:Toks l)(hl:l.length≤n)
  (hok:POk (BV n g l) (fun I x v=>RL TOrderV 12 I [] v x∧x.length≤l.length) l.length K C I) (herr:PEr (BV n g l) Pn C I):CalP Tryz.prog ω 149 #[AP b,fv] K Pn I L:=by
 obtain ⟨L1,L2,rfl,rfl⟩:=hF.foc;refine AQG ?_;unfold AMa;refine Ff (hone _ _ I _ _ v l inferInstance (Ext.refl _) h hT hl ?_ ?_)
 ·rintro x r hg hT1 hr I1 v1 c hI1 hTL1 hc;obtain ⟨cx,rfl,hx⟩:=hc;refine En rfl (by omega) (by simpa [Value.cells] using TOrderV.len hx) (fun X u hX=>?_);refine loop (fun m s I2 Lx=>∃X v2 l2 w cells xs f,l2.length=m∧s=(w,())∧Ext I I2∧Lx=X++(L1++(b,PBo v2)::L2)∧TL I2 v2 l2∧Toks l2∧SlO 127 12 X w cells xs.length∧Recs (TOrderV I2) 12 xs cells∧l2.length≤f∧0 < xs.length∧xs.length+l2.length≤l.length+1∧BV n g l=CV g f xs l2) r.length
   ⟨X,v1,r,u,_,[x],n,rfl,rfl,hI1,rfl,hTL1,hT1,hX,(by simpa [Value.cells] using Recs.one (TOrderV.len hx) hx),by omega,by simp,by simp;omega,by simp only [BV,hg,Res.bind]⟩ ?_
  rintro m s I2 Lx ⟨X,v2,l2,w,cells,xs,f,rfl,rfl,hI2,rfl,hTL2,hT2,hX,hR,hf,hpos,hlen,hm⟩;unfold ABf;refine Ak (Ey [44] hTL2 hT2 (fun hb v3 hv3=>?_) (fun hb=>?_))
  ·try refine zqe ?_
   have hl2:=hT2.len;obtain ⟨f,rfl⟩:∃k,f=k+1:=⟨f - 1,by omega⟩;simp only [CV,hb,if_true] at hm;refine Ff (hone _ _ I2 _ _ v3 l2.tail inferInstance hI2 hv3 (hT2.tailT hb) (by omega) ?_ ?_)
   ·rintro y r3 hg3 hT3 hr3 I3 v4 c hI3 hTL3 hc;have hR:=Recs.imp (R':=TOrderV I3) (fun _ _ h=>TOrderV.mono h hI3) hR;obtain ⟨cy,rfl,hy⟩:=hc;refine LJ (X6:=X) rfl (by omega) hX hR hy (TOrderV.len hy) (TOrderV.one hy) (by omega) (by omega) (fun X1 X6 w6 cells6 hX6 hR6=>Gh.to (X6++(L1++(b,PBo v4)::L2)) (Gh.done ⟨r3.length,by omega,X6,v4,r3,w6,cells6,xs++[y],f,rfl,rfl,Ext.trans hI2 hI3,rfl,hTL3,hT3,hX6,hR6,by omega,by simp,by simp;omega,?_⟩));rw [hm];simp only [hg3,Res.bind]
   ·rintro e hg3 I3 v4 hI3;exact Gh.to (L1++(b,PBo v4)::L2) (herr e (by rw [hm];simp only [hg3,Res.bind]) I3 v4 (Ext.trans hI2 hI3) |> Gh.done)
  ·try refine zqe ?_
   unfold ABe;refine CalP.pre (RL.ofO (R:=TOrderV) (fun {I I' x c} h hI=>TOrderV.mono h hI) hX hR (fun I3 hI3 hw=>Gh.done ?_));refine Ak (AOl hw (fun w' hw'=>?_));have hl2:=hT2.len;refine Gh.done (hok xs l2 ?_ hT2 ?_ I3 v2 w' (Ext.trans hI2 hI3) (hTL2.mono hI3) ⟨hw',by omega⟩)
   ·rw [hm];cases f with
    |zero=>rfl
    |succ f=>simp [CV,hb]
   ·omega
 ·rintro e hg I1 v1 hI1;exact Gh.done (herr e (by simp only [BV,hg,Res.bind]) I1 v1 hI1)
theorem AOi {w:Value}{xs:List (TSet)}(hw:RL TSetV 12 I [] w xs)(hk:∀w',RL TSetV 12 I [] w' xs→K w' I L):CT ω 156 #[w] K I L:=by
 refine APz ?_;unfold AMV;obtain ⟨w',h1,h2⟩:=Gs hw;simp only [RL.len hw,h1,SSd,Nat.reduceAdd];exact Gh.done (hk w' h2)
theorem ANr (n:Nat)(hn0:n≤1000000000){g:Pr (TSet)}{fv:Value}(hone:OneP ω n b g (Yc TSetV) fv I)[hF:Foc b L (PBo v) C](h:TL I v l)(hT:Toks l)(hl:l.length≤n)
  (hok:POk (BV n g l) (fun I x v=>RL TSetV 12 I [] v x∧x.length≤l.length) l.length K C I) (herr:PEr (BV n g l) Pn C I):CalP Tryz.prog ω 100 #[AP b,fv] K Pn I L:=by
 obtain ⟨L1,L2,rfl,rfl⟩:=hF.foc;refine AQn ?_;unfold ANC;refine Ff (hone _ _ I _ _ v l inferInstance (Ext.refl _) h hT hl ?_ ?_)
 ·rintro x r hg hT1 hr I1 v1 c hI1 hTL1 hc;obtain ⟨cx,rfl,hx⟩:=hc;refine En rfl (by omega) (by simpa [Value.cells] using TSetV.len hx) (fun X u hX=>?_);refine loop (fun m s I2 Lx=>∃X v2 l2 w cells xs f,l2.length=m∧s=(w,())∧Ext I I2∧Lx=X++(L1++(b,PBo v2)::L2)∧TL I2 v2 l2∧Toks l2∧SlO 99 12 X w cells xs.length∧Recs (TSetV I2) 12 xs cells∧l2.length≤f∧0 < xs.length∧xs.length+l2.length≤l.length+1∧BV n g l=CV g f xs l2) r.length
   ⟨X,v1,r,u,_,[x],n,rfl,rfl,hI1,rfl,hTL1,hT1,hX,(by simpa [Value.cells] using Recs.one (TSetV.len hx) hx),by omega,by simp,by simp;omega,by simp only [BV,hg,Res.bind]⟩ ?_
  rintro m s I2 Lx ⟨X,v2,l2,w,cells,xs,f,rfl,rfl,hI2,rfl,hTL2,hT2,hX,hR,hf,hpos,hlen,hm⟩;unfold ACC;refine Ak (Ey [44] hTL2 hT2 (fun hb v3 hv3=>?_) (fun hb=>?_))
  ·try refine zqe ?_
   have hl2:=hT2.len;obtain ⟨f,rfl⟩:∃k,f=k+1:=⟨f - 1,by omega⟩;simp only [CV,hb,if_true] at hm;refine Ff (hone _ _ I2 _ _ v3 l2.tail inferInstance hI2 hv3 (hT2.tailT hb) (by omega) ?_ ?_)
   ·rintro y r3 hg3 hT3 hr3 I3 v4 c hI3 hTL3 hc;have hR:=Recs.imp (R':=TSetV I3) (fun _ _ h=>TSetV.mono h hI3) hR;obtain ⟨cy,rfl,hy⟩:=hc;refine LJ (X6:=X) rfl (by omega) hX hR hy (TSetV.len hy) (TSetV.one hy) (by omega) (by omega) (fun X1 X6 w6 cells6 hX6 hR6=>Gh.to (X6++(L1++(b,PBo v4)::L2)) (Gh.done ⟨r3.length,by omega,X6,v4,r3,w6,cells6,xs++[y],f,rfl,rfl,Ext.trans hI2 hI3,rfl,hTL3,hT3,hX6,hR6,by omega,by simp,by simp;omega,?_⟩));rw [hm];simp only [hg3,Res.bind]
   ·rintro e hg3 I3 v4 hI3;exact Gh.to (L1++(b,PBo v4)::L2) (herr e (by rw [hm];simp only [hg3,Res.bind]) I3 v4 (Ext.trans hI2 hI3) |> Gh.done)
  ·try refine zqe ?_
   unfold ACB;refine CalP.pre (RL.ofO (R:=TSetV) (fun {I I' x c} h hI=>TSetV.mono h hI) hX hR (fun I3 hI3 hw=>Gh.done ?_));refine Ak (AOi hw (fun w' hw'=>?_));have hl2:=hT2.len;refine Gh.done (hok xs l2 ?_ hT2 ?_ I3 v2 w' (Ext.trans hI2 hI3) (hTL2.mono hI3) ⟨hw',by omega⟩)
   ·rw [hm];cases f with
    |zero=>rfl
    |succ f=>simp [CV,hb]
   ·omega
 ·rintro e hg I1 v1 hI1;exact Gh.done (herr e (by simp only [BV,hg,Res.bind]) I1 v1 hI1)
theorem AOj {w:Value}{xs:List (Bs)}(hw:RL StrV 1 I [] w xs)(hk:∀w',RL StrV 1 I [] w' xs→K w' I L):CT ω 221 #[w] K I L:=by
 refine APJ ?_;unfold ALm;obtain ⟨w',h1,h2⟩:=Gs hw;simp only [RL.len hw,h1,SSd,Nat.reduceAdd];exact Gh.done (hk w' h2)
theorem ANs (n:Nat)(hn0:n≤1000000000){g:Pr (Bs)}{fv:Value}(hone:OneP ω n b g (AQy) fv I)[hF:Foc b L (PBo v) C](h:TL I v l)(hT:Toks l)(hl:l.length≤n)
  (hok:POk (BV n g l) (fun I x v=>RL StrV 1 I [] v x∧x.length≤l.length) l.length K C I) (herr:PEr (BV n g l) Pn C I):CalP Tryz.prog ω 204 #[AP b,fv] K Pn I L:=by
 obtain ⟨L1,L2,rfl,rfl⟩:=hF.foc;refine APS ?_;unfold ALt;refine Ff (hone _ _ I _ _ v l inferInstance (Ext.refl _) h hT hl ?_ ?_)
 ·rintro x r hg hT1 hr I1 v1 c hI1 hTL1 hc;obtain rfl:=hc;refine En rfl (by omega) rfl (fun X u hX=>?_);refine loop (fun m s I2 Lx=>∃X v2 l2 w cells xs f,l2.length=m∧s=(w,())∧Ext I I2∧Lx=X++(L1++(b,PBo v2)::L2)∧TL I2 v2 l2∧Toks l2∧SlO 9 1 X w cells xs.length∧Recs (StrV I2) 1 xs cells∧l2.length≤f∧0 < xs.length∧xs.length+l2.length≤l.length+1∧BV n g l=CV g f xs l2) r.length
   ⟨X,v1,r,u,_,[x],n,rfl,rfl,hI1,rfl,hTL1,hT1,hX,(by simpa [Value.cells] using Recs.one (R:=StrV I1) rfl rfl),by omega,by simp,by simp;omega,by simp only [BV,hg,Res.bind]⟩ ?_
  rintro m s I2 Lx ⟨X,v2,l2,w,cells,xs,f,rfl,rfl,hI2,rfl,hTL2,hT2,hX,hR,hf,hpos,hlen,hm⟩;unfold ABN;refine Ak (Ey [44] hTL2 hT2 (fun hb v3 hv3=>?_) (fun hb=>?_))
  ·try refine zqe ?_
   have hl2:=hT2.len;obtain ⟨f,rfl⟩:∃k,f=k+1:=⟨f - 1,by omega⟩;simp only [CV,hb,if_true] at hm;refine Ff (hone _ _ I2 _ _ v3 l2.tail inferInstance hI2 hv3 (hT2.tailT hb) (by omega) ?_ ?_)
   ·rintro y r3 hg3 hT3 hr3 I3 v4 c hI3 hTL3 hc;have hR:=Recs.imp (R':=StrV I3) (fun _ _ h=>StrV.mono h hI3) hR;obtain rfl:=hc;refine XQ (X6:=X) rfl hX hR (x:=y) rfl rfl (by omega) (by omega) (fun X1 X6 w6 cells6 hX6 hR6=>Gh.to (X6++(L1++(b,PBo v4)::L2)) (Gh.done ⟨r3.length,by omega,X6,v4,r3,w6,cells6,xs++[y],f,rfl,rfl,Ext.trans hI2 hI3,rfl,hTL3,hT3,hX6,hR6,by omega,by simp,by simp;omega,?_⟩));rw [hm];simp only [hg3,Res.bind]
   ·rintro e hg3 I3 v4 hI3;exact Gh.to (L1++(b,PBo v4)::L2) (herr e (by rw [hm];simp only [hg3,Res.bind]) I3 v4 (Ext.trans hI2 hI3) |> Gh.done)
  ·try refine zqe ?_
   unfold ABM;refine CalP.pre (RL.ofO (R:=StrV) (fun {I I' x c} h hI=>StrV.mono h hI) hX hR (fun I3 hI3 hw=>Gh.done ?_));refine Ak (AOj hw (fun w' hw'=>?_));have hl2:=hT2.len;refine Gh.done (hok xs l2 ?_ hT2 ?_ I3 v2 w' (Ext.trans hI2 hI3) (hTL2.mono hI3) ⟨hw',by omega⟩)
   ·rw [hm];cases f with
    |zero=>rfl
    |succ f=>simp [CV,hb]
   ·omega
 ·rintro e hg I1 v1 hI1;exact Gh.done (herr e (by simp only [BV,hg,Res.bind]) I1 v1 hI1)
theorem AOm {w:Value}{xs:List (List Ex)}(hw:RL (Fh ExV 11) 1 I [] w xs)(hk:∀w',RL (Fh ExV 11) 1 I [] w' xs→K w' I L):CT ω 154 #[w] K I L:=by
 refine AQB ?_;unfold AMX;obtain ⟨w',h1,h2⟩:=Gs hw;simp only [RL.len hw,h1,SSd,Nat.reduceAdd];exact Gh.done (hk w' h2)
theorem ANu (n:Nat)(hn0:n≤1000000000){g:Pr (List Ex)}{fv:Value}(hone:OneP ω n b g (ATm ExV 11) fv I)[hF:Foc b L (PBo v) C](h:TL I v l)(hT:Toks l)(hl:l.length≤n)
  (hok:POk (BV n g l) (fun I x v=>RL (Fh ExV 11) 1 I [] v x∧x.length≤l.length) l.length K C I) (herr:PEr (BV n g l) Pn C I):CalP Tryz.prog ω 98 #[AP b,fv] K Pn I L:=by
 obtain ⟨L1,L2,rfl,rfl⟩:=hF.foc;refine ASf ?_;unfold ARK;refine Ff (hone _ _ I _ _ v l inferInstance (Ext.refl _) h hT hl ?_ ?_)
 ·rintro x r hg hT1 hr I1 v1 c hI1 hTL1 hc;obtain ⟨ax,kx,ec⟩:=RL.form hc;subst ec;refine En rfl (by omega) rfl (fun X u hX=>?_);refine loop (fun m s I2 Lx=>∃X v2 l2 w cells xs f,l2.length=m∧s=(w,())∧Ext I I2∧Lx=X++(L1++(b,PBo v2)::L2)∧TL I2 v2 l2∧Toks l2∧SlO 35 1 X w cells xs.length∧Recs ((Fh ExV 11) I2) 1 xs cells∧l2.length≤f∧0 < xs.length∧xs.length+l2.length≤l.length+1∧BV n g l=CV g f xs l2) r.length
   ⟨X,v1,r,u,_,[x],n,rfl,rfl,hI1,rfl,hTL1,hT1,hX,(by simpa [Value.cells] using Recs.one (R:=(Fh ExV 11) I1) rfl ⟨_,rfl,hc⟩),by omega,by simp,by simp;omega,by simp only [BV,hg,Res.bind]⟩ ?_
  rintro m s I2 Lx ⟨X,v2,l2,w,cells,xs,f,rfl,rfl,hI2,rfl,hTL2,hT2,hX,hR,hf,hpos,hlen,hm⟩;unfold AFX;refine Ak (Ey [44] hTL2 hT2 (fun hb v3 hv3=>?_) (fun hb=>?_))
  ·try refine zqe ?_
   have hl2:=hT2.len;obtain ⟨f,rfl⟩:∃k,f=k+1:=⟨f - 1,by omega⟩;simp only [CV,hb,if_true] at hm;refine Ff (hone _ _ I2 _ _ v3 l2.tail inferInstance hI2 hv3 (hT2.tailT hb) (by omega) ?_ ?_)
   ·rintro y r3 hg3 hT3 hr3 I3 v4 c hI3 hTL3 hc;have hR:=Recs.imp (R':=(Fh ExV 11) I3) (fun _ _ h=>LstX.mono h hI3) hR;obtain ⟨ax,kx,ec⟩:=RL.form hc;subst ec;refine XQ (X6:=X) rfl hX hR (x:=y) ⟨_,rfl,hc⟩ rfl (by omega) (by omega) (fun X1 X6 w6 cells6 hX6 hR6=>Gh.to (X6++(L1++(b,PBo v4)::L2)) (Gh.done ⟨r3.length,by omega,X6,v4,r3,w6,cells6,xs++[y],f,rfl,rfl,Ext.trans hI2 hI3,rfl,hTL3,hT3,hX6,hR6,by omega,by simp,by simp;omega,?_⟩));rw [hm];simp only [hg3,Res.bind]
   ·rintro e hg3 I3 v4 hI3;exact Gh.to (L1++(b,PBo v4)::L2) (herr e (by rw [hm];simp only [hg3,Res.bind]) I3 v4 (Ext.trans hI2 hI3) |> Gh.done)
  ·try refine zqe ?_
   unfold AFW;refine CalP.pre (RL.ofO (R:=(Fh ExV 11)) (fun {I I' x c} h hI=>LstX.mono h hI) hX hR (fun I3 hI3 hw=>Gh.done ?_));refine Ak (AOm hw (fun w' hw'=>?_));have hl2:=hT2.len;refine Gh.done (hok xs l2 ?_ hT2 ?_ I3 v2 w' (Ext.trans hI2 hI3) (hTL2.mono hI3) ⟨hw',by omega⟩)
   ·rw [hm];cases f with
    |zero=>rfl
    |succ f=>simp [CV,hb]
   ·omega
 ·rintro e hg I1 v1 hI1;exact Gh.done (herr e (by simp only [BV,hg,Res.bind]) I1 v1 hI1)
end
abbrev EOk (g:Res Ex)(n:Nat)(K:Value→M)(C:Obj→LH)(I:Imm):Prop:=
 ∀x r,g= .ok x r→Toks r→r.length≤n→∀I' v' w,Ext I I'→TL I' v' r→ExL I' w x.args→K (.agg (Aj x w).toArray) I' (C (PBo v'))
def FnE (ω:Om)(n b f:Nat)(g:Pr Ex):Prop:=
 ∀(K Pn:Value→M) (I:Imm) (L:LH) (C:Obj→LH) (v:Value) (l:List Tok),Foc b L (PBo v) C→TL I v l→Toks l→l.length≤n→EOk (g l) l.length K C I→PEr (g l) Pn C I→CalP Tryz.prog ω f #[AP b] K Pn I L
theorem FnE.go {ω:Om}{n b f:Nat}{g:Pr Ex}(h:FnE ω n b f g){I:Imm}{L:LH}{K Pn:Value→M}{C:Obj→LH}{v:Value}{l:List Tok}[hF:Foc b L (PBo v) C](hv:TL I v l)(hT:Toks l)(hl:l.length≤n)
  (hok:∀x r,g l= .ok x r→Toks r→r.length≤l.length→∀I' v' a k,Ext I I'→TL I' v' r→ExL I' (.slice a x.args.length k) x.args→K (.agg (Aj x (.slice a x.args.length k)).toArray) I' (C (PBo v'))) (herr:PEr (g l) Pn C I):CalP Tryz.prog ω f #[AP b] K Pn I L:=
 h K Pn I L C v l hF hv hT hl (fun x r hg hT' hr I' v' w hI hv' hw=>by
  obtain ⟨a,k,rfl⟩:=RL.form hw;exact hok x r hg hT' hr I' v' a k hI hv' hw) herr
theorem FnE.one {ω:Om}{n b f:Nat}{g:Pr Ex}{I0:Imm}(h:FnE ω n b f g)(he:CG Tryz.prog f=true):OneP ω n b g (Yc ExV) (.func (.func f) #[AP b] #[]) I0:=by
 intro K Pn I L C v l hF hI hv hT hl hok herr;refine Np he (h K Pn I L C v l hF hv hT hl ?_ herr);intro x r hg hT' hr I' v' w hI' hv' hw;exact hok x r hg hT' hr I' v' _ hI' hv' ⟨_,rfl,ExV.mk hw⟩
section
variable {ω:Om}{I:Imm}{L:LH}{K Pn:Value→M}{C:Obj→LH}{b:Nat}{v:Value}{l:List Tok}
theorem CE (s:Bs)[hF:Foc b L (PBo v) C](h:TL I v l)(hT:Toks l)(ht:isT l s=true→Toks l.tail→l.tail.length+1=l.length→∀v',TL I v' l.tail→K (.bool true) I (C (PBo v')))(hf:isT l s=false→K (.bool false) I L):
  CT ω 43 #[AP b,.string ⟨s.toArray⟩] K I L:=Ey s h hT (fun hb v' hv=>ht hb (hT.tailT hb) hT.len v' hv) hf
theorem Bl (s:Bs)[hF:Foc b L (PBo v) C](h:TL I v l)(hT:Toks l)(hok:isT l s=true→Toks l.tail→l.tail.length+1=l.length→∀I' v',Ext I I'→TL I' v' l.tail→K (.tuple #[]) I' (C (PBo v')))
  (herr:isT l s=false→∀I' v',Ext I I'→Pn (GG (hd l).at') I' (C (PBo v'))):
  AX 9 1 #[.string ⟨#[]⟩] 1 [(0,.string ⟨s.toArray⟩)] (gh fun w=>AQ Tryz.prog ω 95 #[AP b,w] Pn (gh K)) I L:=by
 refine EO [s] rfl rfl (fun I' a hI hw=>Gh.done ?_);refine AV (TW [s] hw (by simp) (h.mono hI) hT (fun r hg hT' hr v' hv'=>?_) (fun e hg v'=>?_))
 ·cases hb:isT l s with
  |true=>
   simp only [GH,AO,hb,if_true,Res.bind,Res.ok.injEq,true_and] at hg;subst hg;exact hok hb hT' hT.len I' v' hI hv'
  |false=>simp [GH,AO,hb,Res.bind,bad] at hg
 ·cases hb:isT l s with
  |true=>simp [GH,AO,hb,Res.bind] at hg
  |false=>
   simp only [GH,AO,hb,Bool.false_eq_true,if_false,Res.bind,bad,Res.err.injEq] at hg;subst hg;exact herr hb I' v' hI
theorem CU [hF:Foc b L (PBo v) C](h:TL I v l)(hT:Toks l)
  (hok:isK l 1=true→Toks l.tail→l.tail.length+1=l.length→∀v',TL I v' l.tail→K (.string ⟨(hd l).text.toArray⟩) I (C (PBo v'))) (herr:isK l 1=false→Pn (GG (hd l).at') I L):
  CalP Tryz.prog ω 96 #[AP b] K Pn I L:=AEF h hT (fun hb v' hv=>hok hb (hT.tailK hb) hT.len v' hv) herr
theorem BK {k:Int}{w:Value}{l:List Ex}(hw:ExL I w l)(hk:K (.agg (Aj (exK k l) w).toArray) I L):CT ω 202 #[.int .i64 k,w] K I L:=by
 refine APU ?_;unfold ALv;obtain ⟨a,c,rfl⟩:=RL.form hw;have hk:Gh (K (.agg (Aj (exK k l) (.slice a l.length c)).toArray)) I L:=Gh.done hk;repeat' (first|refine zqa ?_|refine zqh (fun _=>?_)|refine zqr ?_|refine zqb ?_|refine zqi ?_ ?_|refine zqc ?_|refine zqg (fun _=>?_) (fun _=>?_)|refine zqe ?_|fail)
 exact Gh.to L hk
theorem Ce {x:Ex}{w:Value}(hw:ExL I w x.args)(hk:∀I' a,Ext I I'→ExL I' (.slice a 1 1) [x]→Gh (K (.slice a 1 1)) I' L):
  AX 37 11 #[.int .i64 0,.int .i64 0,.bool false,.int .i64 0,.string ⟨#[]⟩,.string ⟨#[]⟩,.string ⟨#[]⟩,.int .i64 0,.int .i64 0,.bool false,.slice none 0 0] 1 [(0,.agg (Aj x w).toArray)] (gh K) I L:=
 EP (R:=ExV) [x] [Aj x w] rfl rfl rfl (by simp) (by simp only [List.zip_cons_cons,List.zip_nil_right,List.mem_singleton,forall_eq];exact ExV.mk hw) (fun hI h=>ExV.mono hI h) hk
theorem CS {x y:Ex}{w u:Value}(hw:ExL I w x.args)(hu:ExL I u y.args)(hk:∀I' a,Ext I I'→ExL I' (.slice a 2 2) [x,y]→Gh (K (.slice a 2 2)) I' L):
  AX 37 11 #[.int .i64 0,.int .i64 0,.bool false,.int .i64 0,.string ⟨#[]⟩,.string ⟨#[]⟩,.string ⟨#[]⟩,.int .i64 0,.int .i64 0,.bool false,.slice none 0 0] 2 [(0,.agg (Aj x w).toArray),(1,.agg (Aj y u).toArray)] (gh K) I L:=
 EP (R:=ExV) [x,y] [Aj x w,Aj y u] rfl rfl rfl (by simp) (by simp only [List.zip_cons_cons,List.zip_nil_right,List.mem_cons,List.not_mem_nil,or_false,forall_eq_or_imp,forall_eq];exact ⟨ExV.mk hw,ExV.mk hu⟩) (fun hI h=>ExV.mono hI h) hk
theorem DF {x y z:Ex}{w u q:Value}(hw:ExL I w x.args)(hu:ExL I u y.args)(hq:ExL I q z.args)(hk:∀I' a,Ext I I'→ExL I' (.slice a 3 3) [x,y,z]→Gh (K (.slice a 3 3)) I' L):
  AX 37 11 #[.int .i64 0,.int .i64 0,.bool false,.int .i64 0,.string ⟨#[]⟩,.string ⟨#[]⟩,.string ⟨#[]⟩,.int .i64 0,.int .i64 0,.bool false,.slice none 0 0] 3 [(0,.agg (Aj x w).toArray),(1,.agg (Aj y u).toArray),(2,.agg (Aj z q).toArray)] (gh K) I L:=
 EP (R:=ExV) [x,y,z] [Aj x w,Aj y u,Aj z q] rfl rfl rfl (by simp) (by simp only [List.zip_cons_cons,List.zip_nil_right,List.mem_cons,List.not_mem_nil,or_false,forall_eq_or_imp,forall_eq];exact ⟨ExV.mk hw,ExV.mk hu,ExV.mk hq⟩) (fun hI h=>ExV.mono hI h) hk
theorem UW (n:Nat):FnE ω n b 234 MJ:=by
 intro K Pn I L C v l hF h hT hl hok herr;obtain ⟨L1,L2,rfl,rfl⟩:=hF.foc;refine APD ?_;unfold ALj;refine Ad (fun _=>?_);refine AV (Vk 3 (by decide) h hT (fun hb v' hv'=>?_) (fun hb=>Gh.to (L1++(b,PBo v)::L2) (Gh.done (herr _ (by simp [MJ,hb,bad]) I v (Ext.refl _)))));have hk:Gh (K _) I (L1++(b,PBo v')::L2):=Gh.done (hok (JK ⟨1,false,(hd l).num,[]⟩) l.tail (by simp [MJ,hb]) (hT.tailK hb) (by have:=hT.len;omega) I v' (.slice none 0 0) (Ext.refl _) hv' (RL.nil none 0));repeat' (first|refine zqa ?_|refine zqh (fun _=>?_)|refine zqr ?_|refine zqb ?_|refine zqi ?_ ?_|refine zqc ?_|refine zqg (fun _=>?_) (fun _=>?_)|refine zqe ?_|fail)
 exact Gh.to _ hk
theorem NW [hF:Foc b L (PBo v) C](h:TL I v l)(hT:Toks l)(hok:∀x,IY l=some x→Toks l.tail→l.tail.length+1=l.length→∀v',TL I v' l.tail→K (.tuple #[.agg (Aj (JK x) (.slice none 0 0)).toArray,.bool true]) I (C (PBo v')))
  (hno:IY l=none→K (.tuple #[.agg exZ.toArray,.bool false]) I L):CT ω 233 #[AP b] K I L:=by
 obtain ⟨L1,L2,rfl,rfl⟩:=hF.foc;obtain ⟨bt,off,h1,h2⟩:=h.hd hT;refine APE ?_;unfold sh233;have fin:∀{x:TValue} {L':LH} {v':Value},IY l=some x→SubP (L1++(b,PBo v')::L2) L'→TL I v' l.tail→Gh (K (.tuple #[.agg (Aj (JK x) (.slice none 0 0)).toArray,.bool true])) I L':=by
  intro x L' v' hx hs hv';have hk6:(hd l).kind≠6:=by
   intro e;simp [IY,isK,isT,e] at hx
  exact Gh.to (L1++(b,PBo v')::L2) (Gh.done (hok x hx (hT.tail hk6) hT.len v' hv'))
 have no:∀{L':LH},IY l=none→SubP (L1++(b,PBo v)::L2) L'→Gh (K (.tuple #[.agg exZ.toArray,.bool false])) I L':=fun hx hs=>Gh.to (L1++(b,PBo v)::L2) (Gh.done (hno hx));repeat' (first|refine zqa ?_|refine zqh (fun _=>?_)|(refine rd1 ((h2 _ [] (Ext.refl _) 0 _ rfl).mono (Ext.refl _) (fun _ h=>by cases h)) ?_)|(refine rd1 ((h2 _ [] (Ext.refl _) 2 _ rfl).mono (Ext.refl _) (fun _ h=>by cases h)) ?_)|((with_reducible refine call ?_);with_reducible refine Jh _ h hT (fun hb=>?_) (fun hb=>?_))|((with_reducible refine call ?_);with_reducible refine Iw h hT (fun v' hv'=>?_))|refine zqr ?_|refine zqb ?_|(with_reducible first|refine Be (sh233_2.eq_1 ..) ?_|refine Be (sh233.eq_1 ..) ?_|refine And.intro ?_ ?_)|refine zqc ?_|refine zqg (fun _=>?_) (fun _=>?_)|(simp only [SSd,Nat.reduceAdd,h1]))
 all_goals first
  |exact fin (x:=⟨3,false,0,(hd l).text⟩) (by simp_all [IY,isK]) inferInstance zA
  |exact fin (x:=⟨2,false,1,[]⟩) (by simp_all [IY,isK]) inferInstance zA
  |exact fin (x:=⟨2,false,0,[]⟩) (by simp_all [IY,isK]) inferInstance zA
  |exact fin (x:=⟨4,true,0,[]⟩) (by simp_all [IY,isK]) inferInstance zA
  |exact no (by simp_all [IY,isK]) inferInstance
end
section
variable {ω:Om}{I:Imm}{L:LH}{K Pn:Value→M}{C:Obj→LH}{b:Nat}{v:Value}{l:List Tok}
theorem AKt (n:Nat){g:Pr Ex}(hg1:FnE ω (n+1) b 201 g):FnE ω (n+1) b 148 (Cj n g NU):=by
 intro K Pn I L C v l hF h hT hl hok herr;obtain ⟨L1,L2,rfl,rfl⟩:=hF.foc;refine AQH ?_;unfold AMb;refine Ad (fun b1=>?_);refine AV (hg1 _ _ _ _ _ _ _ inferInstance h hT hl ?_ ?_);rotate_left
 ·intro e hg I' v' hI;exact Gh.to (L1++(b,PBo v')::L2) (Gh.done (herr e (by simp only [Cj,hg,Res.bind]) I' v' hI))
 intro x0 r0 hg0 hT0 hr0 I0 v0 w0 hI0 hTL0 hw0;refine Ad (fun b3=>?_);obtain ⟨a0,c0,rfl⟩:=RL.form hw0;repeat' (first|refine zqa ?_|refine zqh (fun _=>?_)|refine zqr ?_|refine zqb ?_|refine zqi ?_ ?_|refine zqc ?_|refine zqg (fun _=>?_) (fun _=>?_)|refine zqe ?_|fail)
 refine loop (fun m s I2 Lx=>∃x a k v2 l2 f,l2.length=m∧Ext I I2∧Lx=(b3,Obj.cells (Aj x (.slice a x.args.length k)).toArray 37 (0,0))::(b1,Obj.cells exZ.toArray 37 (0,0))::(L1++(b,PBo v2)::L2)∧ExL I2 (.slice a x.args.length k) x.args∧TL I2 v2 l2∧Toks l2∧l2.length≤f+1∧l2.length≤l.length∧Cj n g NU l=FY g NU f x l2) r0.length
  ⟨x0,a0,c0,v0,r0,n,rfl,hI0,rfl,hw0,hTL0,hT0,by omega,hr0,by simp only [Cj,hg0,Res.bind]⟩ ?_
 rintro m s I2 Lx ⟨x,a,k,v2,l2,f,rfl,hI2,rfl,hw,hTL,hT2,hf,hlen,hm⟩;unfold ABh;refine Ak (CE [111,114] hTL hT2 (fun hb hT' hl' v' hv'=>?_) (fun hb=>?_))
 ·try refine zqe ?_
  obtain ⟨f,rfl⟩:∃q,f=q+1:=⟨f - 1,by have:=hT'.len;omega⟩;have hop:NU l2=22:=by simp [NU,hb]
  simp only [FY,hop] at hm;refine CB (b:=b) ?_;refine RH rfl ?_;refine AV (hg1 _ _ _ _ _ _ _ inferInstance hv' hT' (by omega) ?_ ?_);rotate_left
  ·intro e hg I3 v3 hI3;exact Gh.to (L1++(b,PBo v3)::L2) (Gh.done (herr e (by rw [hm];simp [hg,Res.bind]) I3 v3 (Ext.trans hI2 hI3)))
  intro y r hg hT3 hr I3 v3 u hI3 hTL3 hu;refine Bv hI3 ?_;refine CS (ExL.mono hw hI3) hu (fun I4 a4 hI4 h4=>Gh.done ?_);refine Ak (BK h4 ?_);repeat' (first|refine zqa ?_|refine zqh (fun _=>?_)|refine zqr ?_|refine zqb ?_|refine zqi ?_ ?_|refine zqc ?_|refine zqg (fun _=>?_) (fun _=>?_)|refine zqe ?_|fail)
  refine Gh.done ⟨r.length,by omega,exK 22 [x,y],a4,2,v3,r,f,rfl,Ext.trans hI2 (Ext.trans hI3 hI4),rfl,h4,hTL3.mono hI4,hT3,by omega,by omega,?_⟩;rw [hm];simp [hg,Res.bind]
 ·try refine zqe ?_
  unfold ABg;repeat' (first|refine zqa ?_|refine zqh (fun _=>?_)|refine zqr ?_|refine zqb ?_|refine zqi ?_ ?_|refine zqc ?_|refine zqg (fun _=>?_) (fun _=>?_)|refine zqe ?_|fail)
  refine Gh.to (L1++(b,PBo v2)::L2) (Gh.done (hok x l2 ?_ hT2 hlen I2 v2 _ hI2 hTL hw));rw [hm];cases f with
  |zero=>rfl
  |succ f=>simp [FY,NU,hb]
theorem AQt (n:Nat){g:Pr Ex}(hg1:FnE ω (n+1) b 220 g):FnE ω (n+1) b 201 (Cj n g Ie):=by
 intro K Pn I L C v l hF h hT hl hok herr;obtain ⟨L1,L2,rfl,rfl⟩:=hF.foc;refine APV ?_;unfold ALw;refine Ad (fun b1=>?_);refine AV (hg1 _ _ _ _ _ _ _ inferInstance h hT hl ?_ ?_);rotate_left
 ·intro e hg I' v' hI;exact Gh.to (L1++(b,PBo v')::L2) (Gh.done (herr e (by simp only [Cj,hg,Res.bind]) I' v' hI))
 intro x0 r0 hg0 hT0 hr0 I0 v0 w0 hI0 hTL0 hw0;refine Ad (fun b3=>?_);obtain ⟨a0,c0,rfl⟩:=RL.form hw0;repeat' (first|refine zqa ?_|refine zqh (fun _=>?_)|refine zqr ?_|refine zqb ?_|refine zqi ?_ ?_|refine zqc ?_|refine zqg (fun _=>?_) (fun _=>?_)|refine zqe ?_|fail)
 refine loop (fun m s I2 Lx=>∃x a k v2 l2 f,l2.length=m∧Ext I I2∧Lx=(b3,Obj.cells (Aj x (.slice a x.args.length k)).toArray 37 (0,0))::(b1,Obj.cells exZ.toArray 37 (0,0))::(L1++(b,PBo v2)::L2)∧ExL I2 (.slice a x.args.length k) x.args∧TL I2 v2 l2∧Toks l2∧l2.length≤f+1∧l2.length≤l.length∧Cj n g Ie l=FY g Ie f x l2) r0.length
  ⟨x0,a0,c0,v0,r0,n,rfl,hI0,rfl,hw0,hTL0,hT0,by omega,hr0,by simp only [Cj,hg0,Res.bind]⟩ ?_
 rintro m s I2 Lx ⟨x,a,k,v2,l2,f,rfl,hI2,rfl,hw,hTL,hT2,hf,hlen,hm⟩;unfold ABP;refine Ak (CE [97,110,100] hTL hT2 (fun hb hT' hl' v' hv'=>?_) (fun hb=>?_))
 ·try refine zqe ?_
  obtain ⟨f,rfl⟩:∃q,f=q+1:=⟨f - 1,by have:=hT'.len;omega⟩;have hop:Ie l2=21:=by simp [Ie,hb]
  simp only [FY,hop] at hm;refine CB (b:=b) ?_;refine RH rfl ?_;refine AV (hg1 _ _ _ _ _ _ _ inferInstance hv' hT' (by omega) ?_ ?_);rotate_left
  ·intro e hg I3 v3 hI3;exact Gh.to (L1++(b,PBo v3)::L2) (Gh.done (herr e (by rw [hm];simp [hg,Res.bind]) I3 v3 (Ext.trans hI2 hI3)))
  intro y r hg hT3 hr I3 v3 u hI3 hTL3 hu;refine Bv hI3 ?_;refine CS (ExL.mono hw hI3) hu (fun I4 a4 hI4 h4=>Gh.done ?_);refine Ak (BK h4 ?_);repeat' (first|refine zqa ?_|refine zqh (fun _=>?_)|refine zqr ?_|refine zqb ?_|refine zqi ?_ ?_|refine zqc ?_|refine zqg (fun _=>?_) (fun _=>?_)|refine zqe ?_|fail)
  refine Gh.done ⟨r.length,by omega,exK 21 [x,y],a4,2,v3,r,f,rfl,Ext.trans hI2 (Ext.trans hI3 hI4),rfl,h4,hTL3.mono hI4,hT3,by omega,by omega,?_⟩;rw [hm];simp [hg,Res.bind]
 ·try refine zqe ?_
  unfold ABO;repeat' (first|refine zqa ?_|refine zqh (fun _=>?_)|refine zqr ?_|refine zqb ?_|refine zqi ?_ ?_|refine zqc ?_|refine zqg (fun _=>?_) (fun _=>?_)|refine zqe ?_|fail)
  refine Gh.to (L1++(b,PBo v2)::L2) (Gh.done (hok x l2 ?_ hT2 hlen I2 v2 _ hI2 hTL hw));rw [hm];cases f with
  |zero=>rfl
  |succ f=>simp [FY,Ie,hb]
theorem TB (n:Nat){g:Pr Ex}{fv:Value}{bm:Nat}{es:Array MapEntry}{clock:Nat}{q:Bs→Option Int}(hq:∀s,q s≠some 0)(hone:OneP ω (n+1) b g (Yc ExV) fv I)(hma:I bm=some (.map es clock))(hms:MapS es clock fun k=>(q k).map (.int .i64))
  [hF:Foc b L (PBo v) C] (h:TL I v l) (hT:Toks l) (hl:l.length≤n+1) (hok:EOk (Cj n g (JF q) l) l.length K C I) (herr:PEr (Cj n g (JF q) l) Pn C I):
  CalP Tryz.prog ω 254 #[AP b,fv,.map (some bm)] K Pn I L:=by
 obtain ⟨L1,L2,rfl,rfl⟩:=hF.foc;refine AOy ?_;unfold sh254;refine Ad (fun b1=>?_);refine Ff (hone _ _ _ _ _ _ _ inferInstance (Ext.refl _) h hT hl ?_ ?_);rotate_left
 ·intro e hg I' v' hI;exact Gh.to (L1++(b,PBo v')::L2) (Gh.done (herr e (by simp only [Cj,hg,Res.bind]) I' v' hI))
 rintro x0 r0 hg0 hT0 hr0 I0 v0 c hI0 hTL0 ⟨cx,rfl,hx⟩;obtain ⟨w0,rfl,hw0⟩:=ExV.iff.1 hx;refine Ad (fun b3=>?_);obtain ⟨a0,c0,rfl⟩:=RL.form hw0;repeat' (first|refine zqa ?_|refine zqh (fun _=>?_)|refine zqr ?_|refine zqb ?_|refine zqi ?_ ?_|refine zqc ?_|refine zqg (fun _=>?_) (fun _=>?_)|refine zqe ?_|fail)
 refine loop (fun m s I2 Lx=>∃x a k v2 l2 f,l2.length=m∧Ext I I2∧Lx=(b3,Obj.cells (Aj x (.slice a x.args.length k)).toArray 37 (0,0))::(b1,Obj.cells exZ.toArray 37 (0,0))::(L1++(b,PBo v2)::L2)∧ExL I2 (.slice a x.args.length k) x.args∧TL I2 v2 l2∧Toks l2∧l2.length≤f+1∧l2.length≤l.length∧Cj n g (JF q) l=FY g (JF q) f x l2) r0.length
  ⟨x0,a0,c0,v0,r0,n,rfl,hI0,rfl,hw0,hTL0,hT0,by omega,hr0,by simp only [Cj,hg0,Res.bind]⟩ ?_
 rintro m s I2 Lx ⟨x,a,k,v2,l2,f,rfl,hI2,rfl,hw,hTL,hT2,hf,hlen,hm⟩;obtain ⟨bt,off,h1,h2⟩:=hTL.hd hT2;have fin:∀{L':LH},JF q l2=0→SubP (L1++(b,PBo v2)::L2) L'→Gh (K (.agg (Aj x (.slice a x.args.length k)).toArray)) I2 L':=fun h0 hs=>by
  refine Gh.to (L1++(b,PBo v2)::L2) (Gh.done (hok x l2 ?_ hT2 hlen I2 v2 _ hI2 hTL hw));rw [hm];cases f with
  |zero=>rfl
  |succ f=>simp only [FY,h0,if_true]
 unfold sh254_1;repeat' (first|refine zqa ?_|refine zqh (fun _=>?_)|(refine rd1 ((h2 _ [] (Ext.refl _) 0 _ rfl).mono (Ext.refl _) (fun _ h=>by cases h)) ?_)|refine zqr ?_|refine zqb ?_|refine zqi ?_ ?_|refine zqc ?_|refine zqg (fun _=>?_) (fun _=>?_)|(simp only [SSd,Nat.reduceAdd,h1]))
 ·rename_i hb
  have hb:isK l2 5=true:=by simpa [isK] using hb
  refine rd1 ((h2 I2 [] (Ext.refl _) 2 _ rfl).mono (Ext.refl _) (fun _ h=>by cases h)) ?_;refine ⟨_,ANG (.inr (hI2 _ _ hma)) hms (k:=(hd l2).text),?_⟩;cases hqt:q (hd l2).text with
  |none=>
   simp only [Option.map_none,lkV,if_true];repeat' (first|refine zqa ?_|refine zqh (fun _=>?_)|refine zqr ?_|refine zqb ?_|(with_reducible first|refine Be (sh254_3.eq_1 ..) ?_|refine Be (sh254_1.eq_1 ..) ?_|refine Be (sh254.eq_1 ..) ?_|refine And.intro ?_ ?_)|refine zqc ?_|refine zqg (fun _=>?_) (fun _=>?_)|refine zqe ?_|fail)
   exact fin (by simp [JF,hb,hqt]) inferInstance
  |some kd=>
   have hop:JF q l2=kd:=by simp [JF,hb,hqt]
   have hkd:kd≠0:=fun e=>hq _ (by rw [hqt,e]);have hT':=hT2.tailK hb;obtain ⟨f,rfl⟩:∃q,f=q+1:=⟨f - 1,by have:=hT'.len;have:=hT2.len;omega⟩;simp only [FY,hop,if_neg hkd] at hm;simp only [Option.map_some,lkV,if_true];try refine zqe ?_
   refine Ak (Iw hTL hT2 (fun v' hv'=>?_));refine CB (b:=b) ?_;refine RH rfl ?_;have hl2:=hT2.len;refine Ff (hone _ _ _ _ _ _ _ inferInstance hI2 hv' hT' (by omega) ?_ ?_);rotate_left
   ·intro e hg I3 v3 hI3;exact Gh.to (L1++(b,PBo v3)::L2) (Gh.done (herr e (by rw [hm];simp [hg,Res.bind]) I3 v3 (Ext.trans hI2 hI3)))
   rintro y r hg hT3 hr I3 v3 c hI3 hTL3 ⟨cy,rfl,hy⟩;obtain ⟨u,rfl,hu⟩:=ExV.iff.1 hy;dsimp only
   refine Bv hI3 ?_;refine CS (ExL.mono hw hI3) hu (fun I4 a4 hI4 h4=>Gh.done ?_);refine Ak (BK h4 ?_);repeat' (first|refine zqa ?_|refine zqh (fun _=>?_)|refine zqr ?_|refine zqb ?_|refine zqi ?_ ?_|refine zqc ?_|refine zqg (fun _=>?_) (fun _=>?_)|refine zqe ?_|fail)
   refine Gh.done ⟨r.length,by omega,exK kd [x,y],a4,2,v3,r,f,rfl,Ext.trans hI2 (Ext.trans hI3 hI4),rfl,h4,hTL3.mono hI4,hT3,by omega,by omega,?_⟩;rw [hm];simp [hg,Res.bind]
 ·rename_i hb
  have hb:isK l2 5=false:=by simpa [isK] using hb
  repeat' (first|refine zqa ?_|refine zqh (fun _=>?_)|refine zqr ?_|refine zqb ?_|(with_reducible first|refine Be (sh254_3.eq_1 ..) ?_|refine Be (sh254_1.eq_1 ..) ?_|refine Be (sh254.eq_1 ..) ?_|refine And.intro ?_ ?_)|refine zqc ?_|refine zqg (fun _=>?_) (fun _=>?_)|refine zqe ?_|fail)
  exact fin (by simp [JF,hb]) inferInstance
end
section
variable {ω:Om}{I:Imm}{L:LH}{K Pn:Value→M}{C:Obj→LH}{b:Nat}{v:Value}{l:List Tok}
theorem AFC:KC (KC (KC (fun _=>none) [43] (some (.int .i64 9))) [45] (some (.int .i64 10))) [124,124] (some (.int .i64 14))=fun k=>(TP k).map (.int .i64):=by
 funext k
 simp only [KC,TP];by_cases h1:k=[43]
 ·subst h1;rfl
 ·by_cases h2:k=[45]
  ·subst h2;rfl
  ·by_cases h3:k=[124,124]
   ·subst h3;rfl
   ·simp only [h1,h2,h3,if_false];rfl
theorem ADT:KC (KC (KC (fun _=>none) [42] (some (.int .i64 11))) [47] (some (.int .i64 12))) [37] (some (.int .i64 13))=fun k=>(La k).map (.int .i64):=by
 funext k
 simp only [KC,La];by_cases h1:k=[42]
 ·subst h1;rfl
 ·by_cases h2:k=[47]
  ·subst h2;rfl
  ·by_cases h3:k=[37]
   ·subst h3;rfl
   ·simp only [h1,h2,h3,if_false];rfl
theorem AJp (s:Bs):TP s≠some 0:=by unfold TP;repeat' split <;> simp
theorem AEz (s:Bs):La s≠some 0:=by unfold La;repeat' split <;> simp
theorem ANp (n:Nat){g:Pr Ex}(hg1:FnE ω (n+1) b 255 g):FnE ω (n+1) b 243 (Cj n g (JF TP)):=by
 intro K Pn I L C v l hF h hT hl hok herr;obtain ⟨L1,L2,rfl,rfl⟩:=hF.foc;refine APA ?_;unfold ALg;refine Ad (fun b1=>?_);refine AHa (fun bm=>?_);obtain ⟨es1,c1,e1,h1⟩:=MapS.empty.put [43] (.int .i64 9);obtain ⟨es2,c2,e2,h2⟩:=h1.put [45] (.int .i64 10);obtain ⟨es3,c3,e3,h3⟩:=h2.put [124,124] (.int .i64 14);rw [AFC] at h3;refine Gh.done (PK (k:=[43]) MapS.empty e1 ?_);refine Gh.done (PK (k:=[45]) h1 e2 ?_);refine Gh.done (PK (k:=[124,124]) h2 e3 ?_);refine Gh.done ?_;refine AV (CalP.pre (Gh.freeze fun hI1=>Gh.done ?_));refine TB n AJp (hg1.one (by kernel_rfl)) (es:=es3) (clock:=c3) (by simp [Imm.put]) h3 (h.mono hI1) hT hl (fun x r hg hT' hr I' v' w hI' hv' hw=>?_) (fun e hg I' v' hI'=>?_)
 ·obtain ⟨a,k,rfl⟩:=RL.form hw;repeat' (first|(with_reducible first|refine CB (b:=b) ?_|refine keepA ?_|refine Ad (fun _=>?_))|((with_reducible refine Ak ?_);with_reducible refine CE _ zT zA (fun hb hT' hl' v' hv'=>?_) (fun hb=>?_))|(with_reducible refine Bl _ zT zA (fun hb hT' hl' I' v' hI' hv'=>?_) (fun hb I' v' hI'=>?_))|((with_reducible refine AV ?_);with_reducible refine CU zT zA (fun hb hT' hl' v' hv'=>?_) (fun hb=>?_))|((with_reducible refine AV ?_);with_reducible refine Ae zT zA ?_)|(with_reducible first|refine Ce zC (fun I' a hI' hw'=>Gh.done ?_)|refine CS zC zC (fun I' a hI' hw'=>Gh.done ?_)|refine DF zC zC zC (fun I' a hI' hw'=>Gh.done ?_))|((with_reducible refine Ak ?_);with_reducible refine BK zC ?_)|refine zqr ?_|refine zqb ?_|refine zqi ?_ ?_|refine zqc ?_|refine zqg (fun hb=>?_) (fun hb=>?_)|refine zqe ?_|fail)
  exact Gh.to (L1++(b,PBo v')::L2) (Gh.done (hok x r hg hT' hr I' v' _ (Ext.trans hI1 hI') hv' hw))
 ·exact Gh.to (L1++(b,PBo v')::L2) (Gh.done (herr e hg I' v' (Ext.trans hI1 hI')))
theorem AJm (n:Nat){g:Pr Ex}(hg1:FnE ω (n+1) b 262 g):FnE ω (n+1) b 255 (Cj n g (JF La)):=by
 intro K Pn I L C v l hF h hT hl hok herr;obtain ⟨L1,L2,rfl,rfl⟩:=hF.foc;refine AOx ?_;unfold ALe;refine Ad (fun b1=>?_);refine AHa (fun bm=>?_);obtain ⟨es1,c1,e1,h1⟩:=MapS.empty.put [42] (.int .i64 11);obtain ⟨es2,c2,e2,h2⟩:=h1.put [47] (.int .i64 12);obtain ⟨es3,c3,e3,h3⟩:=h2.put [37] (.int .i64 13);rw [ADT] at h3;refine Gh.done (PK (k:=[42]) MapS.empty e1 ?_);refine Gh.done (PK (k:=[47]) h1 e2 ?_);refine Gh.done (PK (k:=[37]) h2 e3 ?_);refine Gh.done ?_;refine AV (CalP.pre (Gh.freeze fun hI1=>Gh.done ?_));refine TB n AEz (hg1.one (by kernel_rfl)) (es:=es3) (clock:=c3) (by simp [Imm.put]) h3 (h.mono hI1) hT hl (fun x r hg hT' hr I' v' w hI' hv' hw=>?_) (fun e hg I' v' hI'=>?_)
 ·obtain ⟨a,k,rfl⟩:=RL.form hw;repeat' (first|(with_reducible first|refine CB (b:=b) ?_|refine keepA ?_|refine Ad (fun _=>?_))|((with_reducible refine Ak ?_);with_reducible refine CE _ zT zA (fun hb hT' hl' v' hv'=>?_) (fun hb=>?_))|(with_reducible refine Bl _ zT zA (fun hb hT' hl' I' v' hI' hv'=>?_) (fun hb I' v' hI'=>?_))|((with_reducible refine AV ?_);with_reducible refine CU zT zA (fun hb hT' hl' v' hv'=>?_) (fun hb=>?_))|((with_reducible refine AV ?_);with_reducible refine Ae zT zA ?_)|(with_reducible first|refine Ce zC (fun I' a hI' hw'=>Gh.done ?_)|refine CS zC zC (fun I' a hI' hw'=>Gh.done ?_)|refine DF zC zC zC (fun I' a hI' hw'=>Gh.done ?_))|((with_reducible refine Ak ?_);with_reducible refine BK zC ?_)|refine zqr ?_|refine zqb ?_|refine zqi ?_ ?_|refine zqc ?_|refine zqg (fun hb=>?_) (fun hb=>?_)|refine zqe ?_|fail)
  exact Gh.to (L1++(b,PBo v')::L2) (Gh.done (hok x r hg hT' hr I' v' _ (Ext.trans hI1 hI') hv' hw))
 ·exact Gh.to (L1++(b,PBo v')::L2) (Gh.done (herr e hg I' v' (Ext.trans hI1 hI')))
theorem AON (n:Nat){N Q:Pr Ex}(hN:FnE ω n b 220 N)(hQ:FnE ω (n+1) b 232 Q):FnE ω (n+1) b 220 (PL N Q):=by
 intro K Pn I L C v l hF h hT hl hok herr;obtain ⟨L1,L2,rfl,rfl⟩:=hF.foc;refine APK ?_;unfold ALn;refine Ad (fun b1=>?_);refine Ak (CE [110,111,116] h hT (fun hb hT' hl' v' hv'=>?_) (fun hb=>?_))
 ·try refine zqe ?_
  refine AV (hN _ _ _ _ _ _ _ inferInstance hv' hT' (by omega) (fun x r hg hT2 hr I2 v2 w hI2 hv2 hw=>?_) (fun e hg I2 v2 hI2=>Gh.to (L1++(b,PBo v2)::L2) (Gh.done (herr e (by simp only [PL,hb,if_true,hg,Res.bind]) I2 v2 hI2))));repeat' (first|(with_reducible first|refine CB (b:=b) ?_|refine keepA ?_|refine Ad (fun _=>?_))|((with_reducible refine Ak ?_);with_reducible refine CE _ zT zA (fun hb hT' hl' v' hv'=>?_) (fun hb=>?_))|(with_reducible refine Bl _ zT zA (fun hb hT' hl' I' v' hI' hv'=>?_) (fun hb I' v' hI'=>?_))|((with_reducible refine AV ?_);with_reducible refine CU zT zA (fun hb hT' hl' v' hv'=>?_) (fun hb=>?_))|((with_reducible refine AV ?_);with_reducible refine Ae zT zA ?_)|(with_reducible first|refine Ce zC (fun I' a hI' hw'=>Gh.done ?_)|refine CS zC zC (fun I' a hI' hw'=>Gh.done ?_)|refine DF zC zC zC (fun I' a hI' hw'=>Gh.done ?_))|((with_reducible refine Ak ?_);with_reducible refine BK zC ?_)|refine zqr ?_|refine zqb ?_|refine zqi ?_ ?_|refine zqc ?_|refine zqg (fun hb=>?_) (fun hb=>?_)|refine zqe ?_|fail)
  exact Gh.to (L1++(b,PBo v2)::L2) (Gh.done (hok (exK 5 [x]) r (by simp only [PL,hb,if_true,hg,Res.bind]) hT2 (by omega) _ v2 _ (Ext.trans hI2 zA) (hv2.mono zA) zA))
 ·try refine zqe ?_
  refine AV (hQ _ _ _ _ _ _ _ inferInstance h hT (by omega) (fun x r hg hT2 hr I2 v2 w hI2 hv2 hw=>?_) (fun e hg I2 v2 hI2=>Gh.to (L1++(b,PBo v2)::L2) (Gh.done (herr e (by simp only [PL,hb,Bool.false_eq_true,if_false,hg]) I2 v2 hI2))));obtain ⟨a,k,rfl⟩:=RL.form hw;repeat' (first|(with_reducible first|refine CB (b:=b) ?_|refine keepA ?_|refine Ad (fun _=>?_))|((with_reducible refine Ak ?_);with_reducible refine CE _ zT zA (fun hb hT' hl' v' hv'=>?_) (fun hb=>?_))|(with_reducible refine Bl _ zT zA (fun hb hT' hl' I' v' hI' hv'=>?_) (fun hb I' v' hI'=>?_))|((with_reducible refine AV ?_);with_reducible refine CU zT zA (fun hb hT' hl' v' hv'=>?_) (fun hb=>?_))|((with_reducible refine AV ?_);with_reducible refine Ae zT zA ?_)|(with_reducible first|refine Ce zC (fun I' a hI' hw'=>Gh.done ?_)|refine CS zC zC (fun I' a hI' hw'=>Gh.done ?_)|refine DF zC zC zC (fun I' a hI' hw'=>Gh.done ?_))|((with_reducible refine Ak ?_);with_reducible refine BK zC ?_)|refine zqr ?_|refine zqb ?_|refine zqi ?_ ?_|refine zqc ?_|refine zqg (fun hb=>?_) (fun hb=>?_)|refine zqe ?_|fail)
  exact Gh.to (L1++(b,PBo v2)::L2) (Gh.done (hok x r (by simp only [PL,hb,Bool.false_eq_true,if_false,hg]) hT2 hr I2 v2 _ hI2 hv2 hw))
end
theorem OneP.mono {α:Type}{ω:Om}{n b:Nat}{g:Pr α}{V:Imm→α→Value→Prop}{fv:Value}{I I':Imm}(h:OneP ω n b g V fv I)(hI:Ext I I'):OneP ω n b g V fv I':=
 fun K Pn I2 L C v l hF hI2=>h K Pn I2 L C v l hF (Ext.trans hI hI2)
section
variable {ω:Om}{I:Imm}{L:LH}{K Pn:Value→M}{C:Obj→LH}{b:Nat}{v:Value}{l:List Tok}
theorem AEp (n:Nat)(hn0:n≤1000000000){g:Pr (Ex)}{fv:Value}(hone:OneP ω n b g (Yc ExV) fv I)[hF:Foc b L (PBo v) C](h:TL I v l)(hT:Toks l)(hl:l.length≤n)
  (hok:POk (Bi n g l) (fun I x v=>RL ExV 11 I [] v x∧x.length≤l.length) l.length K C I) (herr:PEr (Bi n g l) Pn C I):CalP Tryz.prog ω 155 #[AP b,fv] K Pn I L:=by
 obtain ⟨L1,L2,rfl,rfl⟩:=hF.foc;refine AQA ?_;unfold AMW;refine Bl [40] h hT (fun hb hT' hl' I1 v1 hI1 hv1=>?_) (fun hb I1 v1 hI1=>Gh.done (herr _ (by simp [Bi,AO,hb,Res.bind,bad]) I1 v1 hI1));refine AV (AFF n hn0 (hone.mono hI1) hv1 hT' (by omega) (fun x r hg hT2 hr I2 v2 c hI2 hv2 hc=>?_) (fun e hg I2 v2 hI2=>Gh.done (herr e (by simp [Bi,AO,hb,Res.bind,hg]) I2 v2 (Ext.trans hI1 hI2))));refine Bl [41] hv2 hT2 (fun hb2 hT3 hl3 I3 v3 hI3 hv3=>?_) (fun hb2 I3 v3 hI3=>Gh.done (herr _ (by simp [Bi,AO,hb,hb2,Res.bind,hg,bad]) I3 v3 (Ext.trans hI1 (Ext.trans hI2 hI3))));exact (Gh.done (hok x r.tail (by simp [Bi,AO,hb,hb2,Res.bind,hg]) hT3 (by omega) I3 v3 c (Ext.trans hI1 (Ext.trans hI2 hI3)) hv3 ⟨ExL.mono hc.1 hI3,by have:=hc.2;omega⟩))
theorem AEo (n:Nat)(hn0:n≤1000000000){g:Pr (Bs)}{fv:Value}(hone:OneP ω n b g (AQy) fv I)[hF:Foc b L (PBo v) C](h:TL I v l)(hT:Toks l)(hl:l.length≤n)
  (hok:POk (Bi n g l) (fun I x v=>RL StrV 1 I [] v x∧x.length≤l.length) l.length K C I) (herr:PEr (Bi n g l) Pn C I):CalP Tryz.prog ω 153 #[AP b,fv] K Pn I L:=by
 obtain ⟨L1,L2,rfl,rfl⟩:=hF.foc;refine AQC ?_;unfold AMY;refine Bl [40] h hT (fun hb hT' hl' I1 v1 hI1 hv1=>?_) (fun hb I1 v1 hI1=>Gh.done (herr _ (by simp [Bi,AO,hb,Res.bind,bad]) I1 v1 hI1));refine AV (ANs n hn0 (hone.mono hI1) hv1 hT' (by omega) (fun x r hg hT2 hr I2 v2 c hI2 hv2 hc=>?_) (fun e hg I2 v2 hI2=>Gh.done (herr e (by simp [Bi,AO,hb,Res.bind,hg]) I2 v2 (Ext.trans hI1 hI2))));refine Bl [41] hv2 hT2 (fun hb2 hT3 hl3 I3 v3 hI3 hv3=>?_) (fun hb2 I3 v3 hI3=>Gh.done (herr _ (by simp [Bi,AO,hb,hb2,Res.bind,hg,bad]) I3 v3 (Ext.trans hI1 (Ext.trans hI2 hI3))));exact (Gh.done (hok x r.tail (by simp [Bi,AO,hb,hb2,Res.bind,hg]) hT3 (by omega) I3 v3 c (Ext.trans hI1 (Ext.trans hI2 hI3)) hv3 ⟨StL.mono hc.1 hI3,by have:=hc.2;omega⟩))
theorem AHc (n:Nat):OneP ω n b Ar AQy (.func (.func 96) #[AP b] #[]) I:=by
 intro K Pn I' L C v l hF hI h hT hl hok herr;refine Np (by kernel_rfl) (CU h hT (fun hb hT' hl' v' hv'=>?_) (fun hb=>?_))
 ·exact hok (hd l).text l.tail (by simp [Ar,hb]) hT' (by omega) I' v' _ (Ext.refl _) hv' rfl
 ·have:=herr (hd l).at' (by simp [Ar,hb,bad]) I' v (Ext.refl _);obtain ⟨L1,L2,rfl,rfl⟩:=hF.foc;exact this
theorem Zy (n:Nat)(hn0:n≤1000000000)[hF:Foc b L (PBo v) C](h:TL I v l)(hT:Toks l)(hl:l.length≤n)
  (hok:POk (Bi n Ar l) (fun I x v=>StL I v x∧x.length≤l.length) l.length K C I) (herr:PEr (Bi n Ar l) Pn C I):CalP Tryz.prog ω 97 #[AP b] K Pn I L:=by
 refine ASg ?_;unfold ARL;refine AV (AEo n hn0 (AHc n) h hT hl (fun x r hg hT2 hr I2 v2 c hI2 hv2 hc=>Gh.done (hok x r hg hT2 hr I2 v2 c hI2 hv2 hc)) (fun e hg I2 v2 hI2=>Gh.done (herr e hg I2 v2 hI2)))
theorem XL (n:Nat)(hn0:n≤1000000000){E:Pr Ex}(hE:FnE ω n b 148 E)[hF:Foc b L (PBo v) C](h:TL I v l)(hT:Toks l)(hl:l.length≤n)
  (hok:POk (Bi n E l) (fun I x v=>ExL I v x∧x.length≤l.length) l.length K C I) (herr:PEr (Bi n E l) Pn C I):CalP Tryz.prog ω 99 #[AP b] K Pn I L:=by
 refine ASe ?_;unfold ARJ;refine AV (AEp n hn0 (hE.one (by kernel_rfl)) h hT hl (fun x r hg hT2 hr I2 v2 c hI2 hv2 hc=>Gh.done (hok x r hg hT2 hr I2 v2 c hI2 hv2 hc)) (fun e hg I2 v2 hI2=>Gh.done (herr e hg I2 v2 hI2)))
theorem AGy (n:Nat)(hn0:n≤1000000000){E:Pr Ex}(hE:FnE ω n b 148 E)[hF:Foc b L (PBo v) C](h:TL I v l)(hT:Toks l)(hl:l.length≤n)
  (hok:∀x r,Bi n E l= .ok x r→Toks r→r.length≤l.length→x.length≤l.length→∀I' v' a k,Ext I I'→TL I' v' r→ExL I' (.slice a x.length k) x→K (.slice a x.length k) I' (C (PBo v'))) (herr:PEr (Bi n E l) Pn C I):CalP Tryz.prog ω 99 #[AP b] K Pn I L:=
 XL n hn0 hE h hT hl (fun x r hg hT' hr I' v' w hI hv' hw=>by
  obtain ⟨a,k,rfl⟩:=RL.form hw.1;exact hok x r hg hT' hr hw.2 I' v' a k hI hv' hw.1) herr
def cmpLq:List Bs:=[[61],[60,62],[60],[60,61],[62],[62,61]]
theorem AHQ {r:List Tok}:∀{k:Nat} (hk:k < 6),(∀j,j < k→isT r (cmpLq.getD j [])=false)→isT r (cmpLq.getD k [])=true→FC r=15+k
 |0,_,_,h=>by simp only [cmpLq,List.getD_cons_zero] at h;simp [FC,h]
 |1,_,h0,h=>by have:=h0 0 (by omega);simp only [cmpLq,List.getD_cons_zero,List.getD_cons_succ] at h this;simp [FC,h,this]
 |2,_,h0,h=>by have h1:=h0 0 (by omega);have h2:=h0 1 (by omega);simp only [cmpLq,List.getD_cons_zero,List.getD_cons_succ] at h h1 h2;simp [FC,h,h1,h2]
 |3,_,h0,h=>by have h1:=h0 0 (by omega);have h2:=h0 1 (by omega);have h3:=h0 2 (by omega);simp only [cmpLq,List.getD_cons_zero,List.getD_cons_succ] at h h1 h2 h3;simp [FC,h,h1,h2,h3]
 |4,_,h0,h=>by have h1:=h0 0 (by omega);have h2:=h0 1 (by omega);have h3:=h0 2 (by omega);have h4:=h0 3 (by omega);simp only [cmpLq,List.getD_cons_zero,List.getD_cons_succ] at h h1 h2 h3 h4;simp [FC,h,h1,h2,h3,h4]
 |5,_,h0,h=>by have h1:=h0 0 (by omega);have h2:=h0 1 (by omega);have h3:=h0 2 (by omega);have h4:=h0 3 (by omega);have h5:=h0 4 (by omega);simp only [cmpLq,List.getD_cons_zero,List.getD_cons_succ] at h h1 h2 h3 h4 h5;simp [FC,h,h1,h2,h3,h4,h5]
theorem AHP {r:List Tok}(h0:∀j,j < 6→isT r (cmpLq.getD j [])=false):FC r=0:=by
 have h1:=h0 0 (by omega);have h2:=h0 1 (by omega);have h3:=h0 2 (by omega);have h4:=h0 3 (by omega);have h5:=h0 4 (by omega);have h6:=h0 5 (by omega);simp only [cmpLq,List.getD_cons_zero,List.getD_cons_succ] at h1 h2 h3 h4 h5 h6;simp [FC,h1,h2,h3,h4,h5,h6]
end
theorem RL.toI {α:Type}{R:Imm→α→List Value→Prop}{n:Nat}{I:Imm}{v:Value}{xs:List α}(hn:0 < n)(h:RL R n I [] v xs):∃cells,SlI I n v cells xs.length∧Recs (R I) n xs cells:=by
 obtain ⟨a,cap,cells,rfl,hc,hN,hR⟩:=h;refine ⟨cells,⟨hR.length,a,cap,rfl,hc,fun h0=>?_⟩,hR⟩;rcases hN with ⟨a',cap',e,h1,_⟩|⟨b,off,cap',e,hl,hcs⟩|⟨s,e,_⟩
 ·omega
 ·simp only [Value.slice.injEq] at e;obtain ⟨rfl,_,rfl⟩:=e;have hpos:0 < cells.length:=by rw [hl];exact Nat.mul_pos (by omega) hn
  obtain ⟨cs,T,fr,hm,hv⟩:=hcs 0 cells[0] (List.getElem?_eq_getElem hpos);rcases hm with hm|hm
  ·cases hm
  ·refine ⟨b,off,cs,T,fr,rfl,hm,fun j u hu=>?_⟩;obtain ⟨cs',T',fr',hm',hv'⟩:=hcs j u hu;rcases hm' with hm'|hm'
   ·cases hm'
   ·rw [hm] at hm';cases hm';exact hv'
 ·cases e
theorem AEk {I:Imm}{L F:LH}(hp:L.Perm F){T n bytes len m:Nat}{z:Array Value}{s x:Value}{a:Option Addr}{olds news:List Value}{K:Value→M}(hz:z.size=n)(hs:s= .slice a len len)(ho:News n s I L len olds)(hn:News n x I L m news)
  (h1:∀u∈news,u.oneCell'=true) (hm:0 < m) (hb:(len+m) * bytes≤150000000000000) (hm':len+m≤150000000000000) (hk:∀X' v',SlO T n X' v' (olds++news) (len+m)→Gh (K v') I (X'++F)):App T n bytes z s x (gh K) I L:=by
 have hol:=ho.length;have hnl:=hn.length;have hlen:(olds++news).length=(len+m) * n:=by rw [List.length_append,hol,hnl,Nat.add_mul]
 refine ⟨a,len,len,m,news,hs,hn,h1,.inr (.inr ⟨by omega,hb,hm',olds,L,ho,List.Sublist.refl _,fun b c hc=>?_⟩)⟩;refine Gh.perm (List.Perm.cons _ hp) ((hk [(b,_)] _ ⟨hlen,.inr ⟨b,c,_,rfl,rfl,?_,hc,?_⟩⟩))
 ·simp only [Array.size_append,List.size_toArray,Fz,hz,hlen];rw [←Nat.add_mul];congr 1;omega
 ·intro j u hu;have hlt:j < (olds++news).length:=(List.getElem?_eq_some_iff.1 hu).1;rw [Array.getElem?_append_left (by simpa using hlt)];simpa using hu
section
variable {ω:Om}{I:Imm}{L:LH}{K Pn:Value→M}{C:Obj→LH}{b:Nat}{v:Value}{l:List Tok}
theorem AUH {T bytes m:Nat}{z:Array Value}(hz:z.size=11){a:Option Addr}{w:Value}{xs ys:List Ex}(hm:m=xs.length)(hu:ExL I (.slice a m m) xs)(hw:ExL I w ys)(hb:(xs.length+ys.length) * bytes≤150000000000000)(hl:xs.length+ys.length≤150000000000000)
  (hk:∀I' a' k,Ext I I'→ExL I' (.slice a' (xs++ys).length k) (xs++ys)→Gh (K (.slice a' (xs++ys).length k)) I' L):App T 11 bytes z (.slice a m m) w (gh K) I L:=by
 subst hm;obtain ⟨c1,s1,r1⟩:=RL.toI (by decide) hu;obtain ⟨c2,s2,r2⟩:=RL.toI (by decide) hw;by_cases h0:ys.length=0
 ·obtain rfl:=List.eq_nil_of_length_eq_zero h0;have hnil:c2=[]:=List.eq_nil_of_length_eq_zero (by simpa using r2.length);subst hnil;refine ⟨a,xs.length,xs.length,0,[],rfl,s2.news,(by simp),.inl ⟨Nat.le_refl _,rfl,?_⟩⟩;have e:(xs++([]:List Ex)).length=xs.length:=by simp
  have:=hk I a xs.length (Ext.refl _) (by simpa using hu);rw [e] at this;exact this
 ·exact AEk (List.Perm.refl _) hz rfl (SlI.news s1 (L:=L)) (SlI.news s2 (L:=L)) (r2.one_cells fun x c h=>ExV.one h) (by omega) hb hl (fun X' v' h'=>SlO.freeze h' fun I' hI hS=>by
   have hx:ExL I' v' (xs++ys):=RL.ofI (by rw [List.length_append];exact hS) (Recs.append (r1.imp fun _ _ h=>ExV.mono hI h) (r2.imp fun _ _ h=>ExV.mono hI h));obtain ⟨a',k,rfl⟩:=RL.form hx;exact hk I' a' k hI hx)
end
section
variable {ω:Om}{b:Nat}
set_option maxHeartbeats 4000000 in
theorem AKd (n:Nat)(hn0:n+1≤1000000000){E S:Pr Ex}(hE:FnE ω n b 148 E)(hS:FnE ω (n+1) b 243 S):FnE ω (n+1) b 232 (JC n E S):=by
 intro K Pn I L C v l hF h hT hl hok herr;obtain ⟨L1,L2,rfl,rfl⟩:=hF.foc;refine APF ?_;unfold sh232;refine Ad (fun b1=>?_);refine AV (hS _ _ _ _ _ _ _ inferInstance h hT hl ?_ ?_);rotate_left
 ·intro e hg I' v' hI;exact Gh.to (L1++(b,PBo v')::L2) (Gh.done (herr e (by simp only [JC,hg,Res.bind]) I' v' hI))
 intro x r0 hg0 hT0 hr0 I0 v0 w0 hI0 hTL0 hw0;refine Ad (fun b3=>?_);obtain ⟨a,k0,rfl⟩:=RL.form hw0;repeat' (first|refine zqa ?_|refine zqh (fun _=>?_)|refine zqr ?_|refine zqb ?_|refine zqi ?_ ?_|refine zqc ?_|refine zqg (fun _=>?_) (fun _=>?_)|refine zqe ?_|fail)
 refine EO cmpLq rfl rfl (fun I1 ac hI1 hc=>Gh.done ?_);try refine zqe ?_
 have hw1:=ExL.mono hw0 hI1;have hTL1:=hTL0.mono hI1;have hI01:=Ext.trans hI0 hI1;refine loop (fun m s I2 Lx=>∃k:Nat,k+m=6∧s=(.int .i64 k,())∧I2=I1∧Lx=(b3,Obj.cells (Aj x (.slice a x.args.length k0)).toArray 37 (0,0))::(b1,Obj.cells exZ.toArray 37 (0,0))::(L1++(b,PBo v0)::L2)∧∀j,j < k→isT r0 (cmpLq.getD j [])=false) 6
  ⟨0,rfl,rfl,rfl,rfl,fun j hj=>by omega⟩ ?_
 rintro m s I2 Lx ⟨k,hkm,rfl,rfl,rfl,hno⟩;unfold sh232_1;try refine zqe ?_
 refine AB (fun hlt=>?_) (fun hlt=>?_)
 ·simp at hlt;have hlt:k < 6:=by omega
  obtain ⟨bw,off,c,h1,_,h2,h3⟩:=RL.ix hc (i:=k) (by omega) (by simp [cmpLq];omega);have hgk:PN cmpLq (k:Int)=cmpLq.getD k []:=by simp [PN];rfl
  rw [hgk] at h2;obtain rfl:=h2;have h1:ixV 1 (.slice ac 6 6) (.int .i64 k)=some (.pointer (some ⟨bw,off,none⟩)):=h1;simp only [h1,SSd,Nat.reduceAdd];refine rd1 ((h3 _ [] (Ext.refl _) (fun _ h=>h) 0 _ rfl).mono (Ext.refl _) (fun _ h=>by cases h)) ?_;refine Ak (CE (cmpLq.getD k []) hTL1 hT0 (fun hb hT' hl' v' hv'=>?_) (fun hb=>?_))
  ·try refine zqe ?_
   have hop:=AHQ hlt hno hb;refine CB (b:=b) ?_;simp only [SSd,Nat.reduceAdd,wrap_i64 (15+(k:Int)) (by omega)];refine RH rfl ?_;refine AV (hS _ _ _ _ _ _ _ inferInstance hv' hT' (by omega) ?_ ?_);rotate_left
   ·intro e hg I3 v3 hI3;exact Gh.to (L1++(b,PBo v3)::L2) (Gh.done (herr e (by simp [JC,hg0,Res.bind,hop,hg];omega) I3 v3 (Ext.trans hI01 hI3)))
   intro y r hg hT3 hr I3 v3 u hI3 hTL3 hu;refine Bv hI3 ?_;refine CS (ExL.mono hw1 hI3) hu (fun I4 a4 hI4 h4=>Gh.done ?_);refine Ak (BK h4 ?_);repeat' (first|refine zqa ?_|refine zqh (fun _=>?_)|refine zqr ?_|refine zqb ?_|refine zqi ?_ ?_|refine zqc ?_|refine zqg (fun _=>?_) (fun _=>?_)|refine zqe ?_|fail)
   refine Gh.to (L1++(b,PBo v3)::L2) (Gh.done (hok (exK (15+k) [x,y]) r ?_ hT3 (by omega) I4 v3 _ (Ext.trans hI01 (Ext.trans hI3 hI4)) (hTL3.mono hI4) h4));simp [JC,hg0,Res.bind,hop,hg];omega
  ·simp only [SSd,Nat.reduceAdd,wrap_i64 ((k:Int)+1) (by omega)];refine Gh.done ⟨m - 1,by omega,k+1,by omega,rfl,rfl,rfl,fun j hj=>?_⟩;rcases Nat.lt_succ_iff_lt_or_eq.1 hj with hj|rfl
   ·exact hno j hj
   ·exact hb
 ·simp at hlt;have hop:FC r0=0:=AHP fun j hj=>hno j (by omega);clear hno hlt hkm hc;unfold sh232_3;repeat' (first|(with_reducible first|refine CB (b:=b) ?_|refine keepA ?_|refine Ad (fun _=>?_))|((with_reducible refine AV ?_);with_reducible refine hS.go zT zA (by omega) (fun y r' hg hT2 hr2 I' v' a' k' hI' hv' hw'=>?_) (fun e hg I' v' hI'=>?_))|((with_reducible refine AV ?_);with_reducible refine AGy n (by omega) hE zT zA (by omega) (fun y r' hg hT2 hr2 hyl I' v' a' k' hI' hv' hw'=>?_) (fun e hg I' v' hI'=>?_))|(with_reducible refine AUH rfl rfl zC zC zL zL (fun I' a' k' hI' hw'=>Gh.done ?_))|((with_reducible refine Ak ?_);with_reducible refine CE _ zT zA (fun hb hT' hl' v' hv'=>?_) (fun hb=>?_))|(with_reducible refine Bl _ zT zA (fun hb hT' hl' I' v' hI' hv'=>?_) (fun hb I' v' hI'=>?_))|((with_reducible refine AV ?_);with_reducible refine CU zT zA (fun hb hT' hl' v' hv'=>?_) (fun hb=>?_))|((with_reducible refine AV ?_);with_reducible refine Ae zT zA ?_)|(with_reducible first|refine Ce zC (fun I' a hI' hw'=>Gh.done ?_)|refine CS zC zC (fun I' a hI' hw'=>Gh.done ?_)|refine DF zC zC zC (fun I' a hI' hw'=>Gh.done ?_))|((with_reducible refine Ak ?_);with_reducible refine BK zC ?_)|refine zqr ?_|refine zqb ?_|(with_reducible first|refine Be (sh232_4.eq_1 ..) ?_|refine Be (sh232_7.eq_1 ..) ?_|refine Be (sh232_3.eq_1 ..) ?_|refine Be (sh232_1.eq_1 ..) ?_|refine Be (sh232.eq_1 ..) ?_|refine And.intro ?_ ?_)|refine zqc ?_|refine zqg (fun hb=>?_) (fun hb=>?_)|refine zqe ?_|fail)
  all_goals first
   |exact Gh.to (L1++(b,PBo v')::L2) (Gh.done (herr _ (by simp [JC,hg0,hop,Res.bind,bad,AO, *] <;> rfl) _ _ zE))
   |exact Gh.to (L1++(b,PBo v')::L2) (Gh.done (hok _ _ (by simp [JC,hg0,hop,PM,Res.bind,bad,AO, *] <;> rfl) zA (by omega) _ _ _ zE zT zC))
   |exact Gh.to (L1++(b,PBo v0)::L2) (Gh.done (hok _ _ (by simp [JC,hg0,hop,Res.bind,bad,AO,PM, *] <;> rfl) zA (by omega) _ _ _ zE zT zC))
end
def Oj (E:Pr Ex)(a:List Ex)(r:List Tok):Res Ex:=(if isT r [101,108,115,101] then (E r.tail).bind fun x r=>.ok (a++[x]) r else Res.ok a r).bind fun a r=>(AO [101,110,100] r).bind fun _ r=>.ok (exK 26 a) r
theorem AIX (n:Nat)(E:Pr Ex)(l:List Tok):JO n E l=(Ew n E [] l).bind fun a r=>(Ep n E n a r).bind (Oj E):=rfl
abbrev AIW (w:Value):List Value:=[.int .i64 26,.int .i64 0,.bool false,.int .i64 0,.string ⟨#[]⟩,.string ⟨#[]⟩,.string ⟨#[]⟩,.int .i64 0,.int .i64 0,.bool false,w]
section
variable {ω:Om}{b:Nat}
set_option maxHeartbeats 4000000 in
theorem AIV (n:Nat)(hn0:n≤1000000000){E:Pr Ex}(hE:FnE ω n b 148 E):FnE ω n b 266 (JO n E):=by
 intro K Pn I L C v l hF h hT hl hok herr;obtain ⟨L1,L2,rfl,rfl⟩:=hF.foc;refine AOv ?_;unfold ALd;refine Ad (fun b1=>?_);try refine zqe ?_
 refine Ad (fun b3=>?_);repeat' (first|refine zqa ?_|refine zqh (fun _=>?_)|refine zqr ?_|refine zqb ?_|refine zqi ?_ ?_|refine zqc ?_|refine zqg (fun _=>?_) (fun _=>?_)|refine zqe ?_|fail)
 refine loop (fun m s I2 Lx=>∃(X:LH) (w:Value) (cells:List Value) (acc:List Ex) (v2:Value) (l2:List Tok) (f:Nat),l2.length=m∧Ext I I2∧Lx=(b3,Obj.cells (AIW w).toArray 37 (0,0))::(b1,Obj.cells exZ.toArray 37 (0,0))::(X++(L1++(b,PBo v2)::L2))∧SlO 37 11 X w cells acc.length∧Recs (ExV I2) 11 acc cells∧TL I2 v2 l2∧Toks l2∧l2.length≤f∧l2.length≤l.length∧acc.length+l2.length≤l.length∧
   ((acc=[]∧w= .slice none 0 0∧JO n E l=(Ew n E acc l2).bind fun a r=>(Ep n E f a r).bind (Oj E))∨((∃bb cap,w= .slice (some bb) acc.length cap)∧JO n E l=(Ep n E f acc l2).bind (Oj E)))) l.length
  ⟨[],.slice none 0 0,[],[],v,l,n,rfl,Ext.refl _,rfl,SlO.none _ _,rfl,h,hT,hl,Nat.le_refl _,by simp,.inl ⟨rfl,rfl,AIX n E l⟩⟩ ?_
 rintro m s I2 Lx ⟨X,w,cells,acc,v2,l2,f,rfl,hI2,rfl,hX,hR,hTL,hT2,hf,hlen,hal,hm⟩;unfold ABD;rcases hm with ⟨rfl,rfl,hm⟩|⟨⟨bb,cap,rfl⟩,hm⟩
 ·try refine zqe ?_
  refine rdb ?_;try refine zqe ?_
  refine Bl [119,104,101,110] hTL hT2 (fun hb hT' hl' I3 v3 hI3 hv3=>?_) (fun hb I3 v3 hI3=>Gh.to (L1++(b,PBo v3)::L2) (Gh.done (herr _ (by rw [hm];simp [Ew,AO,hb,Res.bind,bad]) I3 v3 (Ext.trans hI2 hI3))));refine AV (hE.go hv3 hT' (by omega) (fun x r hg hT3 hr I4 v4 a4 k4 hI4 hv4 hw4=>?_) (fun e hg I4 v4 hI4=>Gh.to (L1++(b,PBo v4)::L2) (Gh.done (herr e (by rw [hm];simp [Ew,AO,hb,Res.bind,hg]) I4 v4 (Ext.trans hI2 (Ext.trans hI3 hI4))))));refine Ad (fun bw=>?_);repeat' (first|refine zqa ?_|refine zqh (fun _=>?_)|refine zqr ?_|refine zqb ?_|refine zqi ?_ ?_|refine zqc ?_|refine zqg (fun _=>?_) (fun _=>?_)|refine zqe ?_|fail)
  refine Bl [116,104,101,110] hv4 hT3 (fun hb2 hT4 hl4 I5 v5 hI5 hv5=>?_) (fun hb2 I5 v5 hI5=>Gh.to (L1++(b,PBo v5)::L2) (Gh.done (herr _ (by rw [hm];simp [Ew,AO,hb,hb2,Res.bind,hg,bad]) I5 v5 (Ext.trans hI2 (Ext.trans hI3 (Ext.trans hI4 hI5))))));refine CB (b:=b) ?_;try refine zqe ?_
  refine Dt ?_;refine RH rfl ?_;refine AV (hE.go hv5 hT4 (by omega) (fun y r6 hg6 hT6 hr6 I6 v6 a6 k6 hI6 hv6 hw6=>?_) (fun e hg6 I6 v6 hI6=>Gh.to (L1++(b,PBo v6)::L2) (Gh.done (herr e (by rw [hm];simp [Ew,AO,hb,hb2,Res.bind,hg,hg6]) I6 v6 (Ext.trans hI2 (Ext.trans hI3 (Ext.trans hI4 (Ext.trans hI5 hI6))))))));refine Bv hI6 ?_;refine CS (ExL.mono hw4 (Ext.trans hI5 hI6)) hw6 (fun I7 a7 hI7 hw7=>Gh.done ?_);refine Bv (Ext.trans hI6 hI7) ?_;obtain ⟨c7,s7,r7⟩:=RL.toI (by decide) hw7;refine DW (X:=X) rfl hX s7.news (r7.one_cells fun x c h=>ExV.one h) zL zL (fun X8 w8 hX8=>?_);have hI27:Ext I2 I7:=Ext.trans hI3 (Ext.trans hI4 (Ext.trans hI5 (Ext.trans hI6 hI7)));have hR8:=Recs.append (Recs.imp (R':=ExV I7) (fun _ _ h=>ExV.mono hI27 h) hR) r7;have e8:([]:List Ex).length+[x,y].length=(([]:List Ex)++[x,y]).length:=by simp
  rw [e8] at hX8;obtain ⟨a8,k8,ha8⟩:∃a k,w8= .slice (some a) (([]:List Ex)++[x,y]).length k:=by
   obtain ⟨_,h8⟩:=hX8;rcases h8 with ⟨_,h0,_⟩|⟨b8,k8,_,_,h8,_⟩
   ·simp at h0
   ·exact ⟨_,_,h8⟩
  subst ha8;repeat' (first|refine zqa ?_|refine zqh (fun _=>?_)|refine zqr ?_|refine zqb ?_|refine zqi ?_ ?_|refine zqc ?_|refine zqg (fun _=>?_) (fun _=>?_)|refine zqe ?_|fail)
  refine Gh.to ((b3,Obj.cells (AIW (.slice (some a8) (([]:List Ex)++[x,y]).length k8)).toArray 37 (0,0))::(b1,Obj.cells exZ.toArray 37 (0,0))::(X8++(L1++(b,PBo v6)::L2))) (Gh.done ⟨r6.length,by omega,X8,_,_,([]:List Ex)++[x,y],v6,r6,f,rfl,Ext.trans hI2 hI27,rfl,hX8,hR8,hv6.mono hI7,hT6,by omega,by omega,?_,.inr ⟨⟨a8,k8,rfl⟩,?_⟩⟩)
  ·simp only [List.length_append,List.length_cons,List.length_nil] at hal ⊢;omega
  ·rw [hm];simp [Ew,AO,hb,hb2,Res.bind,hg,hg6]
 ·try refine zqe ?_
  refine rdb ?_;try refine zqe ?_
  refine Ak (Jh [119,104,101,110] hTL hT2 (fun hw=>?_) (fun hw=>?_))
  ·try refine zqe ?_
   obtain ⟨f,rfl⟩:∃q,f=q+1:=⟨f - 1,by have:=hT2.len;omega⟩;have hm:JO n E l=(Ew n E acc l2).bind fun a r=>(Ep n E f a r).bind (Oj E):=by
    rw [hm];simp only [Ep,hw,if_true,Res.bind];cases Ew n E acc l2 <;> rfl
   refine Bl [119,104,101,110] hTL hT2 (fun hb hT' hl' I3 v3 hI3 hv3=>?_) (fun hb I3 v3 hI3=>Gh.to (L1++(b,PBo v3)::L2) (Gh.done (herr _ (by rw [hm];simp [Ew,AO,hb,Res.bind,bad]) I3 v3 (Ext.trans hI2 hI3))));refine AV (hE.go hv3 hT' (by omega) (fun x r hg hT3 hr I4 v4 a4 k4 hI4 hv4 hw4=>?_) (fun e hg I4 v4 hI4=>Gh.to (L1++(b,PBo v4)::L2) (Gh.done (herr e (by rw [hm];simp [Ew,AO,hb,Res.bind,hg]) I4 v4 (Ext.trans hI2 (Ext.trans hI3 hI4))))));refine Ad (fun bw=>?_);repeat' (first|refine zqa ?_|refine zqh (fun _=>?_)|refine zqr ?_|refine zqb ?_|refine zqi ?_ ?_|refine zqc ?_|refine zqg (fun _=>?_) (fun _=>?_)|refine zqe ?_|fail)
   refine Bl [116,104,101,110] hv4 hT3 (fun hb2 hT4 hl4 I5 v5 hI5 hv5=>?_) (fun hb2 I5 v5 hI5=>Gh.to (L1++(b,PBo v5)::L2) (Gh.done (herr _ (by rw [hm];simp [Ew,AO,hb,hb2,Res.bind,hg,bad]) I5 v5 (Ext.trans hI2 (Ext.trans hI3 (Ext.trans hI4 hI5))))));refine CB (b:=b) ?_;try refine zqe ?_
   refine Dt ?_;refine RH rfl ?_;refine AV (hE.go hv5 hT4 (by omega) (fun y r6 hg6 hT6 hr6 I6 v6 a6 k6 hI6 hv6 hw6=>?_) (fun e hg6 I6 v6 hI6=>Gh.to (L1++(b,PBo v6)::L2) (Gh.done (herr e (by rw [hm];simp [Ew,AO,hb,hb2,Res.bind,hg,hg6]) I6 v6 (Ext.trans hI2 (Ext.trans hI3 (Ext.trans hI4 (Ext.trans hI5 hI6))))))));refine Bv hI6 ?_;refine CS (ExL.mono hw4 (Ext.trans hI5 hI6)) hw6 (fun I7 a7 hI7 hw7=>Gh.done ?_);refine Bv (Ext.trans hI6 hI7) ?_;obtain ⟨c7,s7,r7⟩:=RL.toI (by decide) hw7;refine DW (X:=X) rfl hX s7.news (r7.one_cells fun x c h=>ExV.one h) zL zL (fun X8 w8 hX8=>?_);have hI27:Ext I2 I7:=Ext.trans hI3 (Ext.trans hI4 (Ext.trans hI5 (Ext.trans hI6 hI7)));have hR8:=Recs.append (Recs.imp (R':=ExV I7) (fun _ _ h=>ExV.mono hI27 h) hR) r7;have e8:acc.length+[x,y].length=(acc++[x,y]).length:=by simp
   rw [e8] at hX8;obtain ⟨a8,k8,ha8⟩:∃a k,w8= .slice (some a) (acc++[x,y]).length k:=by
    obtain ⟨_,h8⟩:=hX8;rcases h8 with ⟨_,h0,_⟩|⟨b8,k8,_,_,h8,_⟩
    ·simp at h0
    ·exact ⟨_,_,h8⟩
   subst ha8;repeat' (first|refine zqa ?_|refine zqh (fun _=>?_)|refine zqr ?_|refine zqb ?_|refine zqi ?_ ?_|refine zqc ?_|refine zqg (fun _=>?_) (fun _=>?_)|refine zqe ?_|fail)
   refine Gh.to ((b3,Obj.cells (AIW (.slice (some a8) (acc++[x,y]).length k8)).toArray 37 (0,0))::(b1,Obj.cells exZ.toArray 37 (0,0))::(X8++(L1++(b,PBo v6)::L2))) (Gh.done ⟨r6.length,by omega,X8,_,_,acc++[x,y],v6,r6,f,rfl,Ext.trans hI2 hI27,rfl,hX8,hR8,hv6.mono hI7,hT6,by omega,by omega,?_,.inr ⟨⟨a8,k8,rfl⟩,?_⟩⟩)
   ·simp only [List.length_append,List.length_cons,List.length_nil] at hal ⊢;omega
   ·rw [hm];simp [Ew,AO,hb,hb2,Res.bind,hg,hg6]
  ·try refine zqe ?_
   have hm:JO n E l=Oj E acc l2:=by
    rw [hm];cases f with
    |zero=>rfl
    |succ f=>simp [Ep,hw,Res.bind]
   unfold ABC;refine Ak (CE [101,108,115,101] hTL hT2 (fun he hT' hl' v3 hv3=>?_) (fun he=>?_))
   ·try refine zqe ?_
    refine CB (b:=b) ?_;try refine zqe ?_
    refine Dt ?_;refine AV (hE.go hv3 hT' (by omega) (fun x r hg hT3 hr I3 v3 a3 k3 hI3 hv3 hw3=>?_) (fun e hg I3 v3 hI3=>Gh.to (L1++(b,PBo v3)::L2) (Gh.done (herr e (by rw [hm];simp [Oj,he,hg,Res.bind]) I3 v3 (Ext.trans hI2 hI3)))));refine Bv hI3 ?_;refine Ce hw3 (fun I4 a4 hI4 hw4=>Gh.done ?_);refine Bv (Ext.trans hI3 hI4) ?_;obtain ⟨c4,s4,r4⟩:=RL.toI (by decide) hw4;refine DW (X:=X) rfl hX s4.news (r4.one_cells fun x c h=>ExV.one h) zL zL (fun X5 w5 hX5=>?_);have e5:acc.length+[x].length=(acc++[x]).length:=by simp
    rw [e5] at hX5;obtain ⟨a5,k5,rfl⟩:=hX5.form;repeat' (first|refine zqa ?_|refine zqh (fun _=>?_)|refine zqr ?_|refine zqb ?_|refine zqi ?_ ?_|refine zqc ?_|refine zqg (fun _=>?_) (fun _=>?_)|refine zqe ?_|fail)
    have hR5:=Recs.append (Recs.imp (R':=ExV I4) (fun _ _ h=>ExV.mono (Ext.trans hI3 hI4) h) hR) r4;have hg9:JO n E l=((AO [101,110,100] r).bind fun _ r=>.ok (exK 26 (acc++[x])) r):=by rw [hm];simp only [Oj,he,if_true,hg,Res.bind]
    unfold PV;refine Bl [101,110,100] (hv3.mono hI4) hT3 (fun hb hT9 hl9 I9 v9 hI9 hv9=>?_) (fun hb I9 v9 hI9=>Gh.to (L1++(b,PBo v9)::L2) (Gh.done (herr _ (by rw [hg9];simp [AO,hb,Res.bind,bad]) I9 v9 (Ext.trans (Ext.trans hI2 (Ext.trans hI3 hI4)) hI9))));repeat' (first|refine zqa ?_|refine zqh (fun _=>?_)|refine zqr ?_|refine zqb ?_|refine zqi ?_ ?_|refine zqc ?_|refine zqg (fun _=>?_) (fun _=>?_)|refine zqe ?_|fail)
    refine Gh.to (X5++(L1++(b,PBo v9)::L2)) ?_;refine RL.ofO (R:=ExV) (fun {I I' x c} h hI=>ExV.mono hI h) hX5 (Recs.imp (fun _ _ h=>ExV.mono hI9 h) hR5) (fun I10 hI10 hw10=>Gh.done ?_);exact hok (exK 26 (acc++[x])) _ (by rw [hg9];simp only [AO,hb,if_true,Res.bind]) hT9 (by omega) I10 v9 _ (Ext.trans (Ext.trans hI2 (Ext.trans hI3 hI4)) (Ext.trans hI9 hI10)) (hv9.mono hI10) hw10
   ·try refine zqe ?_
    have hg9:JO n E l=((AO [101,110,100] l2).bind fun _ r=>.ok (exK 26 acc) r):=by rw [hm];simp only [Oj,he,Bool.false_eq_true,if_false,Res.bind]
    unfold PV;refine Bl [101,110,100] hTL hT2 (fun hb hT9 hl9 I9 v9 hI9 hv9=>?_) (fun hb I9 v9 hI9=>Gh.to (L1++(b,PBo v9)::L2) (Gh.done (herr _ (by rw [hg9];simp [AO,hb,Res.bind,bad]) I9 v9 (Ext.trans hI2 hI9))));repeat' (first|refine zqa ?_|refine zqh (fun _=>?_)|refine zqr ?_|refine zqb ?_|refine zqi ?_ ?_|refine zqc ?_|refine zqg (fun _=>?_) (fun _=>?_)|refine zqe ?_|fail)
    refine Gh.to (X++(L1++(b,PBo v9)::L2)) ?_;refine RL.ofO (R:=ExV) (fun {I I' x c} h hI=>ExV.mono hI h) hX (Recs.imp (fun _ _ h=>ExV.mono hI9 h) hR) (fun I10 hI10 hw10=>Gh.done ?_);exact hok (exK 26 (acc)) _ (by rw [hg9];simp only [AO,hb,if_true,Res.bind]) hT9 (by omega) I10 v9 _ (Ext.trans hI2 (Ext.trans hI9 hI10)) (hv9.mono hI10) hw10
end
section
variable {ω:Om}{b:Nat}
theorem ALT {I:Imm}{L:LH}{K:Value→M}(hk:∀I' a,Ext I I'→ExL I' (.slice a 1 1) [exK 3 []]→Gh (K (.slice a 1 1)) I' L):
  AX 37 11 #[.int .i64 0,.int .i64 0,.bool false,.int .i64 0,.string ⟨#[]⟩,.string ⟨#[]⟩,.string ⟨#[]⟩,.int .i64 0,.int .i64 0,.bool false,.slice none 0 0] 1
   [(0,.agg #[.int .i64 3,.int .i64 0,.bool false,.int .i64 0,.string ⟨#[]⟩,.string ⟨#[]⟩,.string ⟨#[]⟩,.int .i64 0,.int .i64 0,.bool false,.slice none 0 0])] (gh K) I L:=
 Ce (x:=exK 3 []) (w:=.slice none 0 0) (RL.nil none 0) hk
set_option maxHeartbeats 1000000 in
theorem AEg (n:Nat)(hn0:n≤1000000000){E:Pr Ex}(hE:FnE ω n b 148 E)(s:Bs){I:Imm}{L:LH}{K Pn:Value→M}{C:Obj→LH}{v:Value}{l:List Tok}[hF:Foc b L (PBo v) C](h:TL I v l)(hT:Toks l)(hl:l.length≤n)
  (hyes:EL s=true→∀x r,Dh n E s l= .ok x r→Toks r→r.length≤l.length→∀I' v' w,Ext I I'→TL I' v' r→ExL I' w x.args→K (.tuple #[.agg (Aj x w).toArray,.bool true]) I' (C (PBo v')))
  (herr:EL s=true→PEr (Dh n E s l) Pn C I) (hno:EL s=false→K (.tuple #[.agg exZ.toArray,.bool false]) I L):CalP Tryz.prog ω 267 #[AP b,.string ⟨s.toArray⟩] K Pn I L:=by
 obtain ⟨L1,L2,rfl,rfl⟩:=hF.foc;refine AOu ?_;unfold sh267;refine Ad (fun b1=>?_);have agg:∀c:Bool,isAgg s=c→(s==[99,111,97,108,101,115,99,101])=false→(s==[108,101,110,103,116,104])=false→
   sh267_1 ω (AP b) (.string ⟨s.toArray⟩) (AP b1) (.bool false) (.bool c) (fun v=>Gh (K v)) (fun v=>Gh (Pn v)) I ((b1,Obj.cells exZ.toArray 37 (0,0))::(L1++(b,PBo v)::L2)):=by
  intro c hc h1 h2;have hs1:s≠[99,111,97,108,101,115,99,101]:=by simpa using h1
  have hs2:s≠[108,101,110,103,116,104]:=by simpa using h2
  unfold sh267_1;cases c with
  |false=>
   repeat' (first|(with_reducible first|refine CB (b:=b) ?_|refine keepA ?_|refine Ad (fun _=>?_))|((with_reducible refine Ak ?_);with_reducible refine CE _ zT zA (fun hb hT' hl' v' hv'=>?_) (fun hb=>?_))|(with_reducible refine Bl _ zT zA (fun hb hT' hl' I' v' hI' hv'=>?_) (fun hb I' v' hI'=>?_))|((with_reducible refine AV ?_);with_reducible refine CU zT zA (fun hb hT' hl' v' hv'=>?_) (fun hb=>?_))|((with_reducible refine AV ?_);with_reducible refine Ae zT zA ?_)|(with_reducible first|refine Ce zC (fun I' a hI' hw'=>Gh.done ?_)|refine CS zC zC (fun I' a hI' hw'=>Gh.done ?_)|refine DF zC zC zC (fun I' a hI' hw'=>Gh.done ?_))|((with_reducible refine Ak ?_);with_reducible refine BK zC ?_)|refine zqr ?_|refine zqb ?_|refine zqi ?_ ?_|refine zqc ?_|refine zqg (fun hb=>?_) (fun hb=>?_)|refine zqe ?_|fail)
   exact Gh.to (L1++(b,PBo v)::L2) (Gh.done (hno (by simp [EL,h1,h2,hc])))
  |true=>
   have hok:=hyes (by simp [EL,hc]);have herr:=herr (by simp [EL,hc]);repeat' (first|(with_reducible first|refine CB (b:=b) ?_|refine keepA ?_|refine Ad (fun _=>?_))|((with_reducible refine AV ?_);with_reducible refine hE.go zT zA (by omega) (fun y r' hg hT2 hr2 I' v' a' k' hI' hv' hw'=>?_) (fun e hg I' v' hI'=>?_))|(with_reducible refine ALT (fun I' a hI' hw'=>Gh.done ?_))|((with_reducible refine Ak ?_);with_reducible refine CE _ zT zA (fun hb hT' hl' v' hv'=>?_) (fun hb=>?_))|(with_reducible refine Bl _ zT zA (fun hb hT' hl' I' v' hI' hv'=>?_) (fun hb I' v' hI'=>?_))|((with_reducible refine AV ?_);with_reducible refine CU zT zA (fun hb hT' hl' v' hv'=>?_) (fun hb=>?_))|((with_reducible refine AV ?_);with_reducible refine Ae zT zA ?_)|(with_reducible first|refine Ce zC (fun I' a hI' hw'=>Gh.done ?_)|refine CS zC zC (fun I' a hI' hw'=>Gh.done ?_)|refine DF zC zC zC (fun I' a hI' hw'=>Gh.done ?_))|((with_reducible refine Ak ?_);with_reducible refine BK zC ?_)|refine zqr ?_|refine zqb ?_|(with_reducible first|refine Be (sh267_3.eq_1 ..) ?_|refine Be (sh267_2.eq_1 ..) ?_|refine Be (sh267_4.eq_1 ..) ?_|refine Be (sh267_1.eq_1 ..) ?_|refine Be (sh267.eq_1 ..) ?_|refine And.intro ?_ ?_)|refine zqc ?_|refine zqg (fun hb=>?_) (fun hb=>?_)|refine zqe ?_|fail)
   all_goals (have hsc:(s==[99,111,117,110,116])=true→s=[99,111,117,110,116]:=fun h=>by simpa using h)
   all_goals first
    |exact Gh.to (L1++(b,PBo v')::L2) (Gh.done (herr _ (by simp [Dh,hs1,hs2,Res.bind,bad,AO, *] <;> rfl) _ _ zE))
    |exact Gh.to (L1++(b,PBo v')::L2) (Gh.done (hok (HY s true [y]) _ (by simp [Dh,hs1,hs2,HY,Res.bind,bad,AO, *] <;> rfl) zA (by omega) _ _ _ zE zT zC))
    |exact Gh.to (L1++(b,PBo v')::L2) (Gh.done (hok (HY s false [y]) _ (by simp [Dh,hs1,hs2,HY,Res.bind,bad,AO, *] <;> rfl) zA (by omega) _ _ _ zE zT zC))
    |exact Gh.to (L1++(b,PBo v')::L2) (Gh.done (hok (HY s false [exK 3 []]) _ (by simp [Dh,hs1,hs2,HY,Res.bind,bad,AO, *] <;> rfl) zA (by omega) _ _ _ zE zT zC))
 repeat' (first|(with_reducible first|refine CB (b:=b) ?_|refine keepA ?_|refine Ad (fun _=>?_))|((with_reducible refine AV ?_);with_reducible refine hE.go zT zA (by omega) (fun y r' hg hT2 hr2 I' v' a' k' hI' hv' hw'=>?_) (fun e hg I' v' hI'=>?_))|((with_reducible refine AV ?_);with_reducible refine AGy n (by omega) hE zT zA (by omega) (fun y r' hg hT2 hr2 hyl I' v' a' k' hI' hv' hw'=>?_) (fun e hg I' v' hI'=>?_))|((with_reducible refine Ak ?_);with_reducible refine CE _ zT zA (fun hb hT' hl' v' hv'=>?_) (fun hb=>?_))|(with_reducible refine Bl _ zT zA (fun hb hT' hl' I' v' hI' hv'=>?_) (fun hb I' v' hI'=>?_))|((with_reducible refine AV ?_);with_reducible refine CU zT zA (fun hb hT' hl' v' hv'=>?_) (fun hb=>?_))|((with_reducible refine AV ?_);with_reducible refine Ae zT zA ?_)|(with_reducible first|refine Ce zC (fun I' a hI' hw'=>Gh.done ?_)|refine CS zC zC (fun I' a hI' hw'=>Gh.done ?_)|refine DF zC zC zC (fun I' a hI' hw'=>Gh.done ?_))|((with_reducible refine Ak ?_);with_reducible refine BK zC ?_)|refine zqr ?_|refine zqb ?_|refine zqi ?_ ?_|refine zqc ?_|refine zqg (fun hb=>?_) (fun hb=>?_)|refine zqe ?_|fail)
 all_goals (have hsc:(s==[99,111,97,108,101,115,99,101])=true→s=[99,111,97,108,101,115,99,101]:=fun h=>by simpa using h)
 all_goals (have hsl:(s==[108,101,110,103,116,104])=true→s=[108,101,110,103,116,104]:=fun h=>by simpa using h)
 all_goals first
  |exact agg true (by simp [isAgg, *]) zA zA
  |exact agg _ (by simp [isAgg, *]) zA zA
  |(have hs:=hsc zA;have hyes:=hyes (by simp [EL, *]);have herr:=herr (by simp [EL, *]);first
    |exact Gh.to (L1++(b,PBo v')::L2) (Gh.done (herr _ (by simp [Dh,hs,Res.bind,bad,AO, *] <;> rfl) _ _ zE))
    |exact Gh.to (L1++(b,PBo v')::L2) (Gh.done (hyes _ _ (by simp [Dh,hs,Res.bind,bad,AO, *] <;> rfl) zA (by omega) _ _ _ zE zT zC)))
  |(have hs:=hsl zA;have hyes:=hyes (by simp [EL, *]);have herr:=herr (by simp [EL, *]);first
    |exact Gh.to (L1++(b,PBo v')::L2) (Gh.done (herr _ (by simp [Dh,hs,Res.bind,bad,AO, *] <;> rfl) _ _ zE))
    |exact Gh.to (L1++(b,PBo v')::L2) (Gh.done (hyes _ _ (by simp [Dh,hs,Res.bind,bad,AO, *] <;> rfl) zA (by omega) _ _ _ zE zT zC)))
end
section
variable {ω:Om}{b:Nat}
theorem ALJ (n:Nat)(hn0:n≤1000000000){E:Pr Ex}(hE:FnE ω n b 148 E)(s:Bs){I:Imm}{L:LH}{K Pn:Value→M}{C:Obj→LH}{v:Value}{l:List Tok}[hF:Foc b L (PBo v) C](h:TL I v l)(hT:Toks l)(hl:l.length≤n)
  (hyes:EL s=true→∀x r,Dh n E s l= .ok x r→Toks r→r.length≤l.length→∀I' v' a k,Ext I I'→TL I' v' r→ExL I' (.slice a x.args.length k) x.args→K (.tuple #[.agg (Aj x (.slice a x.args.length k)).toArray,.bool true]) I' (C (PBo v')))
  (herr:EL s=true→PEr (Dh n E s l) Pn C I) (hno:EL s=false→K (.tuple #[.agg exZ.toArray,.bool false]) I L):CalP Tryz.prog ω 267 #[AP b,.string ⟨s.toArray⟩] K Pn I L:=
 AEg n hn0 hE s h hT hl (fun hc x r hg hT' hr I' v' w hI hv' hw=>by
  obtain ⟨a,k,rfl⟩:=RL.form hw;exact hyes hc x r hg hT' hr I' v' a k hI hv' hw) herr hno
set_option maxHeartbeats 1000000 in
theorem AEt (n:Nat)(hn0:n≤1000000000){E U:Pr Ex}(hE:FnE ω n b 148 E)(hU:FnE ω n b 262 U):FnE ω (n+1) b 262 (FQ n E U):=by
 intro K Pn I L C v l hF h hT hl hok herr;obtain ⟨L1,L2,rfl,rfl⟩:=hF.foc;have hC:=AIV n hn0 hE;have hN:FnE ω (n+1) b 234 MJ:=UW (n+1);obtain ⟨bt,off,h1,h2⟩:=h.hd hT;refine AOw ?_;unfold sh262;repeat' (first|(with_reducible first|refine CB (b:=b) ?_|refine keepA ?_|refine Ad (fun _=>?_))|((with_reducible refine AV ?_);with_reducible refine hE.go zT zA (by omega) (fun y r' hg hT2 hr2 I' v' a' k' hI' hv' hw'=>?_) (fun e hg I' v' hI'=>?_))|((with_reducible refine AV ?_);with_reducible refine hU.go zT zA (by omega) (fun y r' hg hT2 hr2 I' v' a' k' hI' hv' hw'=>?_) (fun e hg I' v' hI'=>?_))|((with_reducible refine AV ?_);with_reducible refine hC.go zT zA (by omega) (fun y r' hg hT2 hr2 I' v' a' k' hI' hv' hw'=>?_) (fun e hg I' v' hI'=>?_))|((with_reducible refine AV ?_);with_reducible refine hN.go zT zA (by omega) (fun y r' hg hT2 hr2 I' v' a' k' hI' hv' hw'=>?_) (fun e hg I' v' hI'=>?_))|((with_reducible refine Ak ?_);with_reducible refine NW zT zA (fun x hx hT' hl' v' hv'=>?_) (fun hx=>?_))|((with_reducible refine Ak ?_);with_reducible refine Jh _ zT zA (fun hb=>?_) (fun hb=>?_))|((with_reducible refine AV ?_);with_reducible refine ALJ n hn0 hE _ zT zA (by omega) (fun hcl y r' hg hT2 hr2 I' v' a' k' hI' hv' hw'=>?_) (fun hcl e hg I' v' hI'=>?_) (fun hcl=>?_))|((with_reducible refine rd1 (v:=.int .i64 (hd l).kind) ?_ ?_);exact (h2 _ [] (Ext.refl _) 0 _ rfl).mono (Ext.refl _) (fun _ h=>by cases h))|((with_reducible refine Ak ?_);with_reducible refine CE _ zT zA (fun hb hT' hl' v' hv'=>?_) (fun hb=>?_))|(with_reducible refine Bl _ zT zA (fun hb hT' hl' I' v' hI' hv'=>?_) (fun hb I' v' hI'=>?_))|((with_reducible refine AV ?_);with_reducible refine CU zT zA (fun hb hT' hl' v' hv'=>?_) (fun hb=>?_))|((with_reducible refine AV ?_);with_reducible refine Ae zT zA ?_)|(with_reducible first|refine Ce zC (fun I' a hI' hw'=>Gh.done ?_)|refine CS zC zC (fun I' a hI' hw'=>Gh.done ?_)|refine DF zC zC zC (fun I' a hI' hw'=>Gh.done ?_))|((with_reducible refine Ak ?_);with_reducible refine BK zC ?_)|refine zqr ?_|refine zqb ?_|(with_reducible first|refine Be (sh262_1.eq_1 ..) ?_|refine Be (sh262.eq_1 ..) ?_|refine And.intro ?_ ?_)|refine zqc ?_|refine zqg (fun hb=>?_) (fun hb=>?_)|(simp only [SSd,Nat.reduceAdd,h1]))
 all_goals (try have hk3:isK l 3=false:=‹((hd l).kind==3)=false›)
 all_goals (try have hk3:isK l 3=true:=‹((hd l).kind==3)=true›)
 all_goals first
  |exact Gh.to (L1++(b,PBo v')::L2) (Gh.done (herr _ (by simp [FQ,Ar,Res.bind,bad,AO, *] <;> rfl) _ _ zE))
  |exact Gh.to (L1++(b,PBo v')::L2) (Gh.done (hok _ _ (by simp [FQ,Ar,Res.bind,bad,AO, *] <;> rfl) zA (by omega) _ _ _ zE zT zC))
  |exact Gh.to (L1++(b,PBo v')::L2) (Gh.done (hok (IK (hd l).text (hd l.tail.tail).text) _ (by simp [FQ,Ar,Res.bind,bad,AO, *] <;> rfl) zA (by omega) _ _ _ zE zT zC))
  |exact Gh.to (L1++(b,PBo v')::L2) (Gh.done (hok (IK [] (hd l).text) _ (by simp [FQ,Ar,Res.bind,bad,AO, *] <;> rfl) zA (by omega) _ _ _ zE zT zC))
  |exact Gh.to (L1++(b,PBo v)::L2) (Gh.done (herr _ (by simp [FQ,Ar,Res.bind,bad,AO, *] <;> rfl) _ _ zE))
theorem exprs (ω:Om)(b:Nat):∀n,n≤1000000000→FnE ω n b 148 (eP n)∧FnE ω n b 220 (nP n)∧FnE ω n b 262 (uP n)
 |0,_=>by
  have h0:∀f g,FnE ω 0 b f g:=fun f g K Pn I L C v l hF h hT hl _ _=>by have:=hT.len;omega
  exact ⟨h0 _ _,h0 _ _,h0 _ _⟩
 |n+1,hn=>by
  obtain ⟨hE,hN,hU⟩:=exprs ω b n (by omega);have u:=AEt n (by omega) hE hU;have s:=ANp n (AJm n u);have nn:=AON n hN (AKd n hn hE s);exact ⟨AKt n (AQt n nn),nn,u⟩
end
end Go.Proofs.YtkifgfanjcfedaaGreatDoor
