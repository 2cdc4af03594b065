/-
  Lemmas, part 7: laid together by a program.
-/
import Derived.Test.YtkifgfanjcfedaaGreatDoorP6
set_option maxRecDepth 100000
set_option maxHeartbeats 4000000
set_option linter.unusedVariables false
set_option linter.unusedSimpArgs false
set_option linter.unusedSectionVars false
namespace Go.Proofs.YtkifgfanjcfedaaGreatDoor
open Go.SL
abbrev VOk {α:Type}(R:Imm→α→List Value→Prop)(g:Res α)(n:Nat)(K:Value→M)(C:Obj→LH)(I:Imm):Prop:=
 ∀x r,g= .ok x r→Toks r→r.length≤n→∀I' v' c,Ext I I'→TL I' v' r→R I' x c→K (.agg c.toArray) I' (C (PBo v'))
def FnV {α:Type}(ω:Om)(n b f:Nat)(g:Pr α)(R:Imm→α→List Value→Prop):Prop:=
 ∀(K Pn:Value→M) (I:Imm) (L:LH) (C:Obj→LH) (v:Value) (l:List Tok),Foc b L (PBo v) C→TL I v l→Toks l→l.length≤n→VOk R (g l) l.length K C I→PEr (g l) Pn C I→CalP Tryz.prog ω f #[AP b] K Pn I L
theorem FnV.go {α:Type}{ω:Om}{n b f:Nat}{g:Pr α}{R:Imm→α→List Value→Prop}(h:FnV ω n b f g R){I:Imm}{L:LH}{K Pn:Value→M}{C:Obj→LH}{v:Value}{l:List Tok}[hF:Foc b L (PBo v) C](hv:TL I v l)(hT:Toks l)(hl:l.length≤n)(hok:VOk R (g l) l.length K C I)(herr:PEr (g l) Pn C I):
  CalP Tryz.prog ω f #[AP b] K Pn I L:=h K Pn I L C v l hF hv hT hl hok herr
theorem FnV.one {α:Type}{ω:Om}{n b f:Nat}{g:Pr α}{R:Imm→α→List Value→Prop}{I0:Imm}(h:FnV ω n b f g R)(he:CG Tryz.prog f=true):OneP ω n b g (Yc R) (.func (.func f) #[AP b] #[]) I0:=by
 intro K Pn I L C v l hF hI hv hT hl hok herr;exact Np he (h K Pn I L C v l hF hv hT hl (fun x r hg hT' hr I' v' c hI' hv' hc=>hok x r hg hT' hr I' v' _ hI' hv' ⟨c,rfl,hc⟩) herr)
section
variable {ω:Om}{b:Nat}
theorem ANy (n:Nat)(hE:FnE ω n b 148 (eP n)):FnV ω n b 101 (TR n) TSetV:=by
 intro K Pn I L C v l hF h hT hl hok herr;obtain ⟨L1,L2,rfl,rfl⟩:=hF.foc;refine AQm ?_;unfold ANB;repeat' (first|(with_reducible first|refine CB (b:=b) ?_|refine keepA ?_|refine Ad (fun _=>?_))|((with_reducible refine AV ?_);with_reducible refine hE.go zT zA (by omega) (fun y r' hg hT2 hr2 I' v' a' k' hI' hv' hw'=>?_) (fun e hg I' v' hI'=>?_))|((with_reducible refine Ak ?_);with_reducible refine CE _ zT zA (fun hb hT' hl' v' hv'=>?_) (fun hb=>?_))|(with_reducible refine Bl _ zT zA (fun hb hT' hl' I' v' hI' hv'=>?_) (fun hb I' v' hI'=>?_))|((with_reducible refine AV ?_);with_reducible refine CU zT zA (fun hb hT' hl' v' hv'=>?_) (fun hb=>?_))|((with_reducible refine AV ?_);with_reducible refine Ae zT zA ?_)|(with_reducible first|refine Ce zC (fun I' a hI' hw'=>Gh.done ?_)|refine CS zC zC (fun I' a hI' hw'=>Gh.done ?_)|refine DF zC zC zC (fun I' a hI' hw'=>Gh.done ?_))|((with_reducible refine Ak ?_);with_reducible refine BK zC ?_)|refine zqr ?_|refine zqb ?_|refine zqi ?_ ?_|refine zqc ?_|refine zqg (fun hb=>?_) (fun hb=>?_)|refine zqe ?_|fail)
 all_goals first
  |exact Gh.to (L1++(b,PBo v')::L2) (Gh.done (herr _ (by simp [TR,Ar,Res.bind,bad,AO, *] <;> rfl) _ _ zE))
  |exact Gh.to (L1++(b,PBo v)::L2) (Gh.done (herr _ (by simp [TR,Ar,Res.bind,bad,AO, *] <;> rfl) _ _ zE))
  |exact Gh.to (L1++(b,PBo v')::L2) (Gh.done (hok ⟨(hd l).text,y⟩ _ (by simp [TR,Ar,AO,Res.bind, *] <;> rfl) zA (by omega) _ _ _ zE zT ⟨_,rfl,zC⟩))
theorem MX (n:Nat)(hE:FnE ω n b 148 (eP n))(s:Bs){I:Imm}{L:LH}{K Pn:Value→M}{C:Obj→LH}{v:Value}{l:List Tok}[hF:Foc b L (PBo v) C](h:TL I v l)(hT:Toks l)(hl:l.length≤n)
  (hok:∀x r,EQ n s l= .ok x r→Toks r→r.length≤l.length→∀I' v' a k,Ext I I'→TL I' v' r→ExL I' (.slice a x.args.length k) x.args→K (.agg (Aj x (.slice a x.args.length k)).toArray) I' (C (PBo v'))) (herr:PEr (EQ n s l) Pn C I):
  CalP Tryz.prog ω 102 #[AP b,.string ⟨s.toArray⟩] K Pn I L:=by
 obtain ⟨L1,L2,rfl,rfl⟩:=hF.foc;refine AQl ?_;unfold ANA;repeat' (first|(with_reducible first|refine CB (b:=b) ?_|refine keepA ?_|refine Ad (fun _=>?_))|((with_reducible refine AV ?_);with_reducible refine hE.go zT zA (by omega) (fun y r' hg hT2 hr2 I' v' a' k' hI' hv' hw'=>?_) (fun e hg I' v' hI'=>?_))|((with_reducible refine Ak ?_);with_reducible refine CE _ zT zA (fun hb hT' hl' v' hv'=>?_) (fun hb=>?_))|(with_reducible refine Bl _ zT zA (fun hb hT' hl' I' v' hI' hv'=>?_) (fun hb I' v' hI'=>?_))|((with_reducible refine AV ?_);with_reducible refine CU zT zA (fun hb hT' hl' v' hv'=>?_) (fun hb=>?_))|((with_reducible refine AV ?_);with_reducible refine Ae zT zA ?_)|(with_reducible first|refine Ce zC (fun I' a hI' hw'=>Gh.done ?_)|refine CS zC zC (fun I' a hI' hw'=>Gh.done ?_)|refine DF zC zC zC (fun I' a hI' hw'=>Gh.done ?_))|((with_reducible refine Ak ?_);with_reducible refine BK zC ?_)|refine zqr ?_|refine zqb ?_|refine zqi ?_ ?_|refine zqc ?_|refine zqg (fun hb=>?_) (fun hb=>?_)|refine zqe ?_|fail)
 all_goals first
  |exact Gh.to (L1++(b,PBo v')::L2) (Gh.done (herr _ (by simp [EQ,Res.bind,bad,AO, *] <;> rfl) _ _ zE))
  |exact Gh.to (L1++(b,PBo v)::L2) (Gh.done (hok ex0 l (by simp [EQ, *]) hT (Nat.le_refl _) I v none 0 (Ext.refl _) h (RL.nil none 0)))
  |exact Gh.to (L1++(b,PBo v')::L2) (Gh.done (hok y _ (by simp [EQ, *] <;> rfl) zA (by omega) _ _ _ _ zE zT zC))
theorem Sj {I:Imm}{L:LH}{K Pn:Value→M}{C:Obj→LH}{v:Value}{l:List Tok}[hF:Foc b L (PBo v) C](h:TL I v l)(hT:Toks l)
  (hok:∀x r,EZ l= .ok x r→Toks r→r.length+1=l.length→∀v',TL I v' r→K (.int .i64 x) I (C (PBo v'))) (herr:∀e,EZ l= .err e→Pn (GG e) I L):
  CalP Tryz.prog ω 151 #[AP b] K Pn I L:=by
 obtain ⟨L1,L2,rfl,rfl⟩:=hF.foc;obtain ⟨bt,off,h1,h2⟩:=h.hd hT;refine AQE ?_;unfold sh151;repeat' (first|(with_reducible first|refine CB (b:=b) ?_|refine keepA ?_|refine Ad (fun _=>?_))|((with_reducible refine rd1 (v:=.int .i64 (hd l).kind) ?_ ?_);exact (h2 _ [] (Ext.refl _) 0 _ rfl).mono (Ext.refl _) (fun _ h=>by cases h))|((with_reducible refine rd1 (v:=.int .i64 (hd l).num) ?_ ?_);exact (h2 _ [] (Ext.refl _) 3 _ rfl).mono (Ext.refl _) (fun _ h=>by cases h))|((with_reducible refine AV ?_);with_reducible refine Vk 3 (by decide) zT zA (fun hk v' hv'=>?_) (fun hk=>?_))|((with_reducible refine Ak ?_);with_reducible refine CE _ zT zA (fun hb hT' hl' v' hv'=>?_) (fun hb=>?_))|(with_reducible refine Bl _ zT zA (fun hb hT' hl' I' v' hI' hv'=>?_) (fun hb I' v' hI'=>?_))|((with_reducible refine AV ?_);with_reducible refine CU zT zA (fun hb hT' hl' v' hv'=>?_) (fun hb=>?_))|((with_reducible refine AV ?_);with_reducible refine Ae zT zA ?_)|(with_reducible first|refine Ce zC (fun I' a hI' hw'=>Gh.done ?_)|refine CS zC zC (fun I' a hI' hw'=>Gh.done ?_)|refine DF zC zC zC (fun I' a hI' hw'=>Gh.done ?_))|((with_reducible refine Ak ?_);with_reducible refine BK zC ?_)|refine zqr ?_|refine zqb ?_|(with_reducible first|refine Be (sh151_2.eq_1 ..) ?_|refine Be (sh151_1.eq_1 ..) ?_|refine Be (sh151.eq_1 ..) ?_|refine And.intro ?_ ?_)|refine zqc ?_|refine zqg (fun hb=>?_) (fun hb=>?_)|(simp only [SSd,Nat.reduceAdd,h1]))
 all_goals (try have hd1:=of_decide_eq_true hb)
 all_goals (try have hd2:=of_decide_eq_false hb)
 all_goals first
  |(exfalso;simp_all [isK];done)
  |exact Gh.done (hok _ _ (by unfold EZ;rw [if_pos (by simp [hk];omega)]) (hT.tailK hk) hT.len v' hv')
  |exact Gh.done (herr _ (by simp_all [EZ,isK,bad] <;> rfl))
  |exact Gh.done (herr _ (by unfold EZ;rw [if_neg (by simp;intros;omega)];rfl))
theorem AHN (n:Nat)(hE:FnE ω n b 148 (eP n)):FnV ω n b 150 (IC n) TOrderV:=by
 intro K Pn I L C v l hF h hT hl hok herr;obtain ⟨L1,L2,rfl,rfl⟩:=hF.foc;refine AQF ?_;unfold sh150;repeat' (first|(with_reducible first|refine CB (b:=b) ?_|refine keepA ?_|refine Ad (fun _=>?_))|((with_reducible refine AV ?_);with_reducible refine hE.go zT zA (by omega) (fun y r' hg hT2 hr2 I' v' a' k' hI' hv' hw'=>?_) (fun e hg I' v' hI'=>?_))|((with_reducible refine Ak ?_);with_reducible refine CE _ zT zA (fun hb hT' hl' v' hv'=>?_) (fun hb=>?_))|(with_reducible refine Bl _ zT zA (fun hb hT' hl' I' v' hI' hv'=>?_) (fun hb I' v' hI'=>?_))|((with_reducible refine AV ?_);with_reducible refine CU zT zA (fun hb hT' hl' v' hv'=>?_) (fun hb=>?_))|((with_reducible refine AV ?_);with_reducible refine Ae zT zA ?_)|(with_reducible first|refine Ce zC (fun I' a hI' hw'=>Gh.done ?_)|refine CS zC zC (fun I' a hI' hw'=>Gh.done ?_)|refine DF zC zC zC (fun I' a hI' hw'=>Gh.done ?_))|((with_reducible refine Ak ?_);with_reducible refine BK zC ?_)|refine zqr ?_|refine zqb ?_|(with_reducible first|refine Be (sh150_1.eq_1 ..) ?_|refine Be (sh150.eq_1 ..) ?_|refine And.intro ?_ ?_)|refine zqc ?_|refine zqg (fun hb=>?_) (fun hb=>?_)|refine zqe ?_|fail)
 all_goals first
  |exact Gh.to (L1++(b,PBo v')::L2) (Gh.done (herr _ (by simp [IC,Res.bind,bad,AO, *] <;> rfl) _ _ zE))
  |exact Gh.to (L1++(b,PBo v')::L2) (Gh.done (hok ⟨y,true⟩ _ (by simp [IC,Res.bind, *] <;> rfl) zA (by omega) _ _ _ zE zT ⟨_,rfl,zC⟩))
  |exact Gh.to (L1++(b,PBo v')::L2) (Gh.done (hok ⟨y,false⟩ _ (by simp [IC,Res.bind, *] <;> rfl) zA (by omega) _ _ _ zE zT ⟨_,rfl,zC⟩))
theorem Tq (n:Nat):FnV ω n b 198 CY TSourceV:=by
 intro K Pn I L C v l hF h hT hl hok herr;obtain ⟨L1,L2,rfl,rfl⟩:=hF.foc;refine APY ?_;unfold sh198;refine Ad (fun b1=>?_);refine AV (CU h hT (fun hn hT1 hl1 v1 hv1=>?_) (fun hn=>Gh.to (L1++(b,PBo v)::L2) (Gh.done (herr (hd l).at' (by simp [CY,Ar,Res.bind,bad,hn]) I v (Ext.refl _)))));obtain ⟨bt,off,h1,h2⟩:=hv1.hd hT1;repeat' (first|(with_reducible first|refine CB (b:=b) ?_|refine keepA ?_|refine Ad (fun _=>?_))|((with_reducible refine rd1 (v:=.int .i64 (hd l.tail).kind) ?_ ?_);exact (h2 _ [] (Ext.refl _) 0 _ rfl).mono (Ext.refl _) (fun _ h=>by cases h))|((with_reducible refine Ak ?_);with_reducible refine CE _ zT zA (fun hb hT' hl' v' hv'=>?_) (fun hb=>?_))|(with_reducible refine Bl _ zT zA (fun hb hT' hl' I' v' hI' hv'=>?_) (fun hb I' v' hI'=>?_))|((with_reducible refine AV ?_);with_reducible refine CU zT zA (fun hb hT' hl' v' hv'=>?_) (fun hb=>?_))|((with_reducible refine AV ?_);with_reducible refine Ae zT zA ?_)|(with_reducible first|refine Ce zC (fun I' a hI' hw'=>Gh.done ?_)|refine CS zC zC (fun I' a hI' hw'=>Gh.done ?_)|refine DF zC zC zC (fun I' a hI' hw'=>Gh.done ?_))|((with_reducible refine Ak ?_);with_reducible refine BK zC ?_)|refine zqr ?_|refine zqb ?_|(with_reducible first|refine Be (sh198_2.eq_1 ..) ?_|refine Be (sh198_1.eq_1 ..) ?_|refine Be (sh198.eq_1 ..) ?_|refine And.intro ?_ ?_)|refine zqc ?_|refine zqg (fun hb=>?_) (fun hb=>?_)|(simp only [SSd,Nat.reduceAdd,h1]))
 all_goals (try have hk1:isK l.tail 1=true:=‹((hd l.tail).kind==1)=true›)
 all_goals (try have hk1:isK l.tail 1=false:=‹((hd l.tail).kind==1)=false›)
 all_goals (try (exfalso;simp_all;done))
 all_goals first
  |exact Gh.to (L1++(b,PBo v')::L2) (Gh.done (herr _ (by simp [CY,Ar,Res.bind,bad,AO, *] <;> rfl) _ _ zE))
  |exact Gh.to (L1++(b,PBo v1)::L2) (Gh.done (herr _ (by simp [CY,Ar,Res.bind,bad,AO, *] <;> rfl) _ _ zE))
  |exact Gh.to (L1++(b,PBo v')::L2) (Gh.done (hok ⟨_,_,false,ex0⟩ _ (by simp [CY,Ar,Res.bind, *] <;> rfl) zA (by omega) _ _ _ zE zT ⟨.slice none 0 0,rfl,RL.nil none 0⟩))
  |exact Gh.to (L1++(b,PBo v1)::L2) (Gh.done (hok ⟨(hd l).text,[],false,ex0⟩ _ (by simp [CY,Ar,Res.bind, *] <;> rfl) zA (by omega) _ _ _ zE zT ⟨.slice none 0 0,rfl,RL.nil none 0⟩))
end
section
variable {ω:Om}{I:Imm}{L:LH}{K Pn:Value→M}{C:Obj→LH}{b:Nat}{v:Value}{l:List Tok}
theorem TL.at (h:TL I v l){j:Nat}(hj:j < l.length){t:Tok}(ht:l[j]? =some t):∃bt off,ixV 4 v (.int .i64 (j:Int))=some (.pointer (some ⟨bt,off,none⟩))∧∀I' L',Ext I I'→Cells I' L' bt off [.int .i64 t.kind,.int .i64 t.at',.string ⟨t.text.toArray⟩,.int .i64 t.num]:=by
 obtain ⟨bt,off,c,h1,_,h2,h3⟩:=RL.ix h (i:=(j:Int)) (by omega) (by omega);have:PN l (j:Int)=t:=by rw [Ah hj];exact Option.some.inj ((List.getElem?_eq_getElem hj).symm.trans ht)
 rw [this] at h2;rw [show c=_ from h2] at h3;exact ⟨bt,off,h1,fun I' L' hI=>h3 I' L' hI (fun _ h=>by cases h)⟩
def Ht (l:List Tok):Bool:=isK l 1&&isK l.tail 5&&(hd l.tail).text==[46]&&isK l.tail.tail 5&&(hd l.tail.tail).text==[42]
theorem AEJ {n:Nat}(h0:isT l [42]=false)(hs:Ht l=true):Gq n l= .ok ⟨true,(hd l).text,ex0,[]⟩ l.tail.tail.tail:=by
 simp only [Gq,h0,Bool.false_eq_true,if_false];exact if_pos hs
theorem JJ {n:Nat}(h0:isT l [42]=false)(hs:Ht l=false):Gq n l=(eP n l).bind fun x r=>if isT r [97,115] then (Ar r.tail).bind fun a r=>.ok ⟨false,[],x,a⟩ r else .ok ⟨false,[],x,[]⟩ r:=by
 simp only [Gq,h0,Bool.false_eq_true,if_false];unfold Ht at hs;exact if_neg (by rw [hs];decide)
theorem ADW (hT:Toks l)(h:Ht l=true):3 < l.length:=by
 simp only [Ht,Bool.and_eq_true] at h;obtain ⟨⟨⟨⟨h1,h2⟩,_⟩,h3⟩,_⟩:=h;have hT1:=hT.tailK h1;have hT2:=hT1.tailK h2;have hT3:=hT2.tailK h3;have:=hT.len;have:=hT1.len;have:=hT2.len;have:=hT3.len;omega
set_option maxHeartbeats 4000000 in
theorem AKk (n:Nat)(hE:FnE ω n b 148 (eP n)):FnV ω n b 145 (Gq n) TItemV:=by
 intro K Pn I L C v l hF h hT hl hok herr;obtain ⟨L1,L2,rfl,rfl⟩:=hF.foc;refine AQK ?_;unfold sh145;refine Ad (fun b1=>?_);refine Ak (CE [42] h hT (fun hb hT' hl' v' hv'=>?_) (fun hb0=>?_))
 ·repeat' (first|refine zqa ?_|refine zqh (fun _=>?_)|refine zqr ?_|refine zqb ?_|refine zqi ?_ ?_|refine zqc ?_|refine zqg (fun _=>?_) (fun _=>?_)|refine zqe ?_|fail)
  exact Gh.to (L1++(b,PBo v')::L2) (Gh.done (hok ⟨true,[],ex0,[]⟩ _ (by simp [Gq,hb]) hT' (by omega) _ _ _ (Ext.refl _) hv' ⟨.slice none 0 0,rfl,RL.nil none 0⟩))
 cases hlen:decide ((3:Int) < (l.length:Nat)) with
 |true=>
  have hlen:=of_decide_eq_true hlen;obtain ⟨t1,t2,t3,t4,r,rfl⟩:∃t1 t2 t3 t4 r,l=t1::t2::t3::t4::r:=by
   match l,hlen with
   |t1::t2::t3::t4::r,_=>exact ⟨t1,t2,t3,t4,r,rfl⟩
  obtain ⟨p1,o1,i1,c1⟩:=h.at (j:=0) (by simp) (t:=t1) rfl;obtain ⟨p2,o2,i2,c2⟩:=h.at (j:=1) (by simp) (t:=t2) rfl;obtain ⟨p3,o3,i3,c3⟩:=h.at (j:=2) (by simp) (t:=t3) rfl;have i1:ixV 4 v (.int .i64 0)=_:=i1;have i2:ixV 4 v (.int .i64 1)=_:=i2;have i3:ixV 4 v (.int .i64 2)=_:=i3;have hl3:decide (((t1::t2::t3::t4::r).length:Nat) > (3:Int))=true:=decide_eq_true hlen;simp only [RL.len h,hl3,SSd,Nat.reduceAdd];repeat' (first|(with_reducible first|refine CB (b:=b) ?_|refine keepA ?_|refine Ad (fun _=>?_))|((with_reducible refine rd1 (v:=.int .i64 t1.kind) ?_ ?_);exact (c1 _ [] (Ext.refl _) 0 _ rfl).mono (Ext.refl _) (fun _ h=>by cases h))|((with_reducible refine rd1 (v:=.int .i64 t2.kind) ?_ ?_);exact (c2 _ [] (Ext.refl _) 0 _ rfl).mono (Ext.refl _) (fun _ h=>by cases h))|((with_reducible refine rd1 (v:=.string ⟨t2.text.toArray⟩) ?_ ?_);exact (c2 _ [] (Ext.refl _) 2 _ rfl).mono (Ext.refl _) (fun _ h=>by cases h))|((with_reducible refine rd1 (v:=.int .i64 t3.kind) ?_ ?_);exact (c3 _ [] (Ext.refl _) 0 _ rfl).mono (Ext.refl _) (fun _ h=>by cases h))|((with_reducible refine rd1 (v:=.string ⟨t3.text.toArray⟩) ?_ ?_);exact (c3 _ [] (Ext.refl _) 2 _ rfl).mono (Ext.refl _) (fun _ h=>by cases h))|((with_reducible refine AV ?_);with_reducible refine hE.go zT zA (by omega) (fun y r' hg hT2 hr2 I' v' a' k' hI' hv' hw'=>?_) (fun e hg I' v' hI'=>?_))|((with_reducible refine Ak ?_);with_reducible refine CE _ zT zA (fun hb hT' hl' v' hv'=>?_) (fun hb=>?_))|(with_reducible refine Bl _ zT zA (fun hb hT' hl' I' v' hI' hv'=>?_) (fun hb I' v' hI'=>?_))|((with_reducible refine AV ?_);with_reducible refine CU zT zA (fun hb hT' hl' v' hv'=>?_) (fun hb=>?_))|((with_reducible refine AV ?_);with_reducible refine Ae zT zA ?_)|(with_reducible first|refine Ce zC (fun I' a hI' hw'=>Gh.done ?_)|refine CS zC zC (fun I' a hI' hw'=>Gh.done ?_)|refine DF zC zC zC (fun I' a hI' hw'=>Gh.done ?_))|((with_reducible refine Ak ?_);with_reducible refine BK zC ?_)|refine zqr ?_|refine zqb ?_|(with_reducible first|refine Be (sh145_1.eq_1 ..) ?_|refine Be (sh145_3.eq_1 ..) ?_|refine Be (sh145_2.eq_1 ..) ?_|refine Be (sh145.eq_1 ..) ?_|refine And.intro ?_ ?_)|refine zqc ?_|refine zqg (fun hb=>?_) (fun hb=>?_)|(simp only [SSd,Nat.reduceAdd,RL.len h,hl3,i1,i2,i3]))
  all_goals (try (exfalso;simp_all [isK,hd];done))
  iterate 1
   have hs:Ht (t1::t2::t3::t4::r)=true:=by simp_all [Ht,isK,hd]
   have hn:=AEJ (n:=n) hb0 hs;refine EO [[46],[42]] rfl rfl (fun I' a hI hw=>Gh.done ?_);have e1:isT (t2::t3::t4::r) [46]=true:=by simp_all [isT,hd]
   have e2:isT (t3::t4::r) [42]=true:=by simp_all [isT,hd]
   refine AV (TW [[46],[42]] hw (by simp) (hv'.mono hI) hT' (fun r1 hg hT1 hr v1 hv1=>?_) (fun e hg v'=>?_))
   ·simp only [GH,AO,List.tail_cons,e1,e2,if_true,Res.bind,Res.ok.injEq,true_and] at hg;subst hg;repeat' (first|refine zqa ?_|refine zqh (fun _=>?_)|refine zqr ?_|refine zqb ?_|refine zqi ?_ ?_|refine zqc ?_|refine zqg (fun _=>?_) (fun _=>?_)|refine zqe ?_|fail)
    exact Gh.to (L1++(b,PBo v1)::L2) (Gh.done (hok ⟨true,t1.text,ex0,[]⟩ _ hn hT1 (by first|(simp;done)|(simp;omega)) _ _ _ hI hv1 ⟨.slice none 0 0,rfl,RL.nil none 0⟩))
   ·simp [GH,AO,e1,e2,Res.bind] at hg
  all_goals first
   |(have hs:Ht (t1::t2::t3::t4::r)=false:=(by simp_all [Ht,isK,hd]);have hn:=JJ (n:=n) hb0 hs;exact Gh.to (L1++(b,PBo v')::L2) (Gh.done (herr _ (by rw [hn];simp [Ar,Res.bind,bad, *] <;> rfl) _ _ zE)))
   |(have hs:Ht (t1::t2::t3::t4::r)=false:=(by simp_all [Ht,isK,hd]);have hn:=JJ (n:=n) hb0 hs;exact Gh.to (L1++(b,PBo v')::L2) (Gh.done (hok ⟨false,[],y,[]⟩ _ (by rw [hn];simp [Ar,Res.bind,bad, *] <;> rfl) zA (by omega) _ _ _ zE zT ⟨_,rfl,zC⟩)))
   |(have hs:Ht (t1::t2::t3::t4::r)=false:=(by simp_all [Ht,isK,hd]);have hn:=JJ (n:=n) hb0 hs;exact Gh.to (L1++(b,PBo v')::L2) (Gh.done (hok ⟨false,[],y,(hd r'.tail).text⟩ _ (by rw [hn];simp [Ar,Res.bind,bad, *] <;> rfl) zA (by omega) _ _ _ zE zT ⟨_,rfl,zC⟩)))
 |false=>
  have hlen':¬((3:Int) < (l.length:Nat)):=of_decide_eq_false hlen;have hl3:decide ((l.length:Nat) > (3:Int))=false:=hlen;have hs:Ht l=false:=by
   cases hs:Ht l with
   |false=>rfl
   |true=>have:=ADW hT hs;omega
  repeat' (first|(with_reducible first|refine CB (b:=b) ?_|refine keepA ?_|refine Ad (fun _=>?_))|((with_reducible refine AV ?_);with_reducible refine hE.go zT zA (by omega) (fun y r' hg hT2 hr2 I' v' a' k' hI' hv' hw'=>?_) (fun e hg I' v' hI'=>?_))|((with_reducible refine Ak ?_);with_reducible refine CE _ zT zA (fun hb hT' hl' v' hv'=>?_) (fun hb=>?_))|(with_reducible refine Bl _ zT zA (fun hb hT' hl' I' v' hI' hv'=>?_) (fun hb I' v' hI'=>?_))|((with_reducible refine AV ?_);with_reducible refine CU zT zA (fun hb hT' hl' v' hv'=>?_) (fun hb=>?_))|((with_reducible refine AV ?_);with_reducible refine Ae zT zA ?_)|(with_reducible first|refine Ce zC (fun I' a hI' hw'=>Gh.done ?_)|refine CS zC zC (fun I' a hI' hw'=>Gh.done ?_)|refine DF zC zC zC (fun I' a hI' hw'=>Gh.done ?_))|((with_reducible refine Ak ?_);with_reducible refine BK zC ?_)|refine zqr ?_|refine zqb ?_|(with_reducible first|refine Be (sh145_1.eq_1 ..) ?_|refine Be (sh145_3.eq_1 ..) ?_|refine Be (sh145_2.eq_1 ..) ?_|refine Be (sh145.eq_1 ..) ?_|refine And.intro ?_ ?_)|refine zqc ?_|refine zqg (fun hb=>?_) (fun hb=>?_)|(simp only [SSd,Nat.reduceAdd,RL.len h,hl3]))
  all_goals first
   |(have hn:=JJ (n:=n) hb0 hs;exact Gh.to (L1++(b,PBo v')::L2) (Gh.done (herr _ (by rw [hn];simp [Ar,Res.bind,bad, *] <;> rfl) _ _ zE)))
   |(have hn:=JJ (n:=n) hb0 hs;exact Gh.to (L1++(b,PBo v')::L2) (Gh.done (hok ⟨false,[],y,[]⟩ _ (by rw [hn];simp [Ar,Res.bind,bad, *] <;> rfl) zA (by omega) _ _ _ zE zT ⟨_,rfl,zC⟩)))
   |(have hn:=JJ (n:=n) hb0 hs;exact Gh.to (L1++(b,PBo v')::L2) (Gh.done (hok ⟨false,[],y,(hd r'.tail).text⟩ _ (by rw [hn];simp [Ar,Res.bind,bad, *] <;> rfl) zA (by omega) _ _ _ zE zT ⟨_,rfl,zC⟩)))
end
abbrev LOk {α:Type}(R:Imm→α→List Value→Prop)(m:Nat)(g:Res (List α))(n:Nat)(K:Value→M)(C:Obj→LH)(I:Imm):Prop:=
 ∀x r,g= .ok x r→Toks r→r.length≤n→∀I' v' a k,Ext I I'→TL I' v' r→RL R m I' [] (.slice a x.length k) x→x.length≤n+1→K (.slice a x.length k) I' (C (PBo v'))
def FnL {α:Type}(ω:Om)(n b f:Nat)(g:Pr (List α))(R:Imm→α→List Value→Prop)(m:Nat):Prop:=
 ∀(K Pn:Value→M) (I:Imm) (L:LH) (C:Obj→LH) (v:Value) (l:List Tok),Foc b L (PBo v) C→TL I v l→Toks l→l.length≤n→LOk R m (g l) l.length K C I→PEr (g l) Pn C I→CalP Tryz.prog ω f #[AP b] K Pn I L
theorem FnL.go {α:Type}{ω:Om}{n b f m:Nat}{g:Pr (List α)}{R:Imm→α→List Value→Prop}(h:FnL ω n b f g R m){I:Imm}{L:LH}{K Pn:Value→M}{C:Obj→LH}{v:Value}{l:List Tok}[hF:Foc b L (PBo v) C](hv:TL I v l)(hT:Toks l)(hl:l.length≤n)(hok:LOk R m (g l) l.length K C I)(herr:PEr (g l) Pn C I):
  CalP Tryz.prog ω f #[AP b] K Pn I L:=h K Pn I L C v l hF hv hT hl hok herr
section
variable {ω:Om}{b:Nat}
theorem AOk {I:Imm}{L:LH}{K:Value→M}{w:Value}{xs:List TSource}(hw:RL TSourceV 14 I [] w xs)(hk:∀a k,RL TSourceV 14 I [] (.slice a xs.length k) xs→K (.slice a xs.length k) I L):CT ω 199 #[w] K I L:=by
 refine APX ?_;unfold ALy;obtain ⟨w',h1,h2⟩:=Gs hw;simp only [RL.len hw,h1,SSd,Nat.reduceAdd];obtain ⟨a,k,rfl⟩:=RL.form h2;exact Gh.done (hk a k h2)
def KQ (n:Nat)(l:List Tok):Option (Res TSource):=
 if isT l [44] then some (CY l.tail) else
 if isT l [99,114,111,115,115] then some ((AO [106,111,105,110] l.tail).bind fun _ r=>CY r) else
 if isT l [108,101,102,116] then some (Gz n true l.tail) else
 if isT l [105,110,110,101,114] then some (Gz n false l.tail) else
 if isT l [106,111,105,110] then some (Gz n false l) else none
theorem GZ {α β γ:Type}(x:Res α)(f:α→Pr β)(g:β→Pr γ):(x.bind f).bind g=x.bind fun a r=>(f a r).bind g:=by cases x <;> rfl
theorem Xr (n f:Nat)(acc:List TSource)(l:List Tok):Cb n (f+1) acc l=match KQ n l with
  |some g=>g.bind fun s r=>Cb n f (acc++[s]) r
  |none=>.ok acc l:=by
 simp only [Cb,KQ];split
 ·rfl
 split
 ·simp only [GZ]
 split
 ·rfl
 split
 ·rfl
 split
 ·rfl
 ·rfl
theorem Tm (n:Nat){I:Imm}{L:LH}{K Pn:Value→M}{C:Obj→LH}{v:Value}{l:List Tok}[hF:Foc b L (PBo v) C](h:TL I v l)(hT:Toks l)(hl:l.length≤n)
  (hok:∀x r,CY l= .ok x r→Toks r→r.length≤l.length→∀I' v' a k,Ext I I'→TL I' v' r→ExL I' (.slice a x.fOn.args.length k) x.fOn.args→K (.agg #[.string ⟨x.fTable.toArray⟩,.string ⟨x.fAs.toArray⟩,.bool x.fLeft,.int .i64 x.fOn.kind,.int .i64 x.fOn.value.fType,.bool x.fOn.value.fNull,.int .i64 x.fOn.value.fInt,.string ⟨x.fOn.value.fText.toArray⟩,.string ⟨x.fOn.table.toArray⟩,.string ⟨x.fOn.name.toArray⟩,.int .i64 x.fOn.slot,.int .i64 x.fOn.type,.bool x.fOn.distinct,.slice a x.fOn.args.length k]) I' (C (PBo v')))
  (herr:PEr (CY l) Pn C I):CalP Tryz.prog ω 198 #[AP b] K Pn I L:=by
 refine (Tq n).go h hT hl (fun x r hg hT' hr I' v' c hI' hv' hc=>?_) herr;obtain ⟨v0,rfl,h0⟩:=hc;obtain ⟨a,k,rfl⟩:=RL.form h0;exact hok x r hg hT' hr I' v' a k hI' hv' h0
theorem AEN (n : Nat) (hE : FnE ω n b 148 (eP n)) (bb : Bool) {I : Imm} {L1 L2 X : LH} {Kn1 : (Value × Value × Unit) → M} {K Pn : Value → M} {v w : Value} {l : List Tok} {cells : List Value} {xs : List TSource} (h : TL I v l) (hT : Toks l) (hl : l.length ≤ n)
    (hX : SlO 123 14 X w cells xs.length) (hR : Recs (TSourceV I) 14 xs cells) (hxs : xs.length ≤ 1000000001)
    (hnext : ∀ x r, Gz n bb l = .ok x r → Toks r → r.length + 1 ≤ l.length → ∀ I' v' X' w' cells', Ext I I' → TL I' v' r → SlO 123 14 X' w' cells' (xs ++ [x]).length → Recs (TSourceV I') 14 (xs ++ [x]) cells' → Gh (Kn1 (.slice none 0 0, w', ())) I' (X' ++ (L1 ++ (b, PBo v') :: L2)))
    (herr : PEr (Gz n bb l) Pn (fun o => L1 ++ (b, o) :: L2) I) :
    NH ω (AP b) (.slice none 0 0) w (.bool bb) (fun s => Gh (Kn1 s)) (fun v => Gh (K v)) (fun v => Gh (Pn v)) I (X ++ (L1 ++ (b, PBo v) :: L2)) := by
  unfold NH
  repeat' (first | (with_reducible first | refine CB (b := b) ?_ | refine keepA ?_ | refine Ad (fun _ => ?_)) | ((with_reducible refine AV ?_); with_reducible refine Tm n zT zA (by omega) (fun x r hg hT2 hr2 I' v' a' k' hI' hv' hw' => ?_) (fun e hg I' v' hI' => ?_)) | ((with_reducible refine AV ?_); with_reducible refine hE.go zT zA (by omega) (fun y r' hg' hT2 hr3 I' v' a' k' hI' hv' hw' => ?_) (fun e hg' I' v' hI' => ?_)) | ((with_reducible refine Ak ?_); with_reducible refine CE _ zT zA (fun hb hT' hl' v' hv' => ?_) (fun hb => ?_)) | (with_reducible refine Bl _ zT zA (fun hb hT' hl' I' v' hI' hv' => ?_) (fun hb I' v' hI' => ?_)) | ((with_reducible refine AV ?_); with_reducible refine CU zT zA (fun hb hT' hl' v' hv' => ?_) (fun hb => ?_)) | ((with_reducible refine AV ?_); with_reducible refine Ae zT zA ?_) | (with_reducible first | refine Ce zC (fun I' a hI' hw' => Gh.done ?_) | refine CS zC zC (fun I' a hI' hw' => Gh.done ?_) | refine DF zC zC zC (fun I' a hI' hw' => Gh.done ?_)) | ((with_reducible refine Ak ?_); with_reducible refine BK zC ?_) | (with_reducible refine rdb ?_) | ((with_reducible first | refine st1 ?_ ?_ | refine rdB ?_ ?_); rfl) | (with_reducible refine Dt ?_) | ((with_reducible refine RH ?_ ?_); rfl) | ((with_reducible refine stB ?_ ?_ ?_ ?_); rfl; rfl; exact Au rfl) | ((with_reducible first | refine rdP _ rfl ?_ ?_ | refine AHE _ rfl ?_ ?_); rfl) | ((with_reducible refine stP _ rfl ?_ ?_ ?_ ?_); rfl; rfl; rfl) | refine zqi ?_ ?_ | (simp only [SSg, Int.reduceBEq, Int.reduceBNe, Int.reduceLT, Int.reduceLE, beq_self_eq_true, bne_self_eq_false]) | (with_reducible first | refine Bc (fun hb => ?_) (fun hb => ?_) | refine AB (fun hb => ?_) (fun hb => ?_)) | (simp only [SSd, Nat.reduceAdd]))
  all_goals first
    | exact Gh.to (L1 ++ (b, PBo v') :: L2) (Gh.done (herr _ (by simp [Gz, Res.bind, bad, AO, *] <;> rfl) _ _ zE))
    | (refine LJ (X6 := X) (R := TSourceV) (x := ⟨x.fTable, x.fAs, bb, y⟩) rfl (by omega) hX (Recs.imp (fun _ _ h => TSourceV.mono h zE) hR) ⟨_, rfl, zC⟩ rfl (Au rfl) (by omega) (by omega) (fun X1 X6 w6 cells6 hX6 hR6 => Gh.to (X6 ++ (L1 ++ (b, PBo v') :: L2)) ?_)
       exact hnext ⟨x.fTable, x.fAs, bb, y⟩ _ (by simp [Gz, Res.bind, AO, *] <;> rfl) zA (by omega) _ _ _ _ _ zE zT hX6 hR6)
theorem AEO (n : Nat) (hE : FnE ω n b 148 (eP n)) {I : Imm} {L1 L2 X : LH} {Kn1 : (Value × Value × Unit) → M} {K Pn : Value → M} {v w : Value} {l : List Tok} {cells : List Value} {xs : List TSource} (h : TL I v l) (hT : Toks l) (hl : l.length ≤ n)
    (hX : SlO 123 14 X w cells xs.length) (hR : Recs (TSourceV I) 14 xs cells) (hxs : xs.length ≤ 1000000001)
    (hnext : ∀ g x r, KQ n l = some g → g = .ok x r → Toks r → r.length + 1 ≤ l.length → ∀ I' v' X' w' cells', Ext I I' → TL I' v' r → SlO 123 14 X' w' cells' (xs ++ [x]).length → Recs (TSourceV I') 14 (xs ++ [x]) cells' → Gh (Kn1 (.slice none 0 0, w', ())) I' (X' ++ (L1 ++ (b, PBo v') :: L2)))
    (herr : ∀ g, KQ n l = some g → PEr g Pn (fun o => L1 ++ (b, o) :: L2) I)
    (hend : KQ n l = none → ∀ I' a k, Ext I I' → RL TSourceV 14 I' [] (.slice a xs.length k) xs → TL I' v l → Gh (K (.slice a xs.length k)) I' (L1 ++ (b, PBo v) :: L2)) :
    VN ω (AP b) (.slice none 0 0) w (fun s => Gh (Kn1 s)) (fun v => Gh (K v)) (fun v => Gh (Pn v)) I (X ++ (L1 ++ (b, PBo v) :: L2)) := by
  unfold VN
  have hl1 := hT.len
  have J : ∀ (bb : Bool) {l1 : List Tok} {v1 : Value}, TL I v1 l1 → Toks l1 → l1.length ≤ l.length → KQ n l = some (Gz n bb l1) → NH ω (AP b) (.slice none 0 0) w (.bool bb) (fun s => Gh (Kn1 s)) (fun v => Gh (K v)) (fun v => Gh (Pn v)) I (X ++ (L1 ++ (b, PBo v1) :: L2)) := by
    intro bb l1 v1 h1 hT1 hl1 hn
    exact AEN n hE bb h1 hT1 (by omega) hX hR hxs (fun x r hg hT hr => hnext _ x r hn hg hT (by omega)) (herr _ hn)
  repeat' (first | (with_reducible first | refine CB (b := b) ?_ | refine keepA ?_ | refine Ad (fun _ => ?_)) | ((with_reducible refine AV ?_); with_reducible refine Tm n zT zA (by omega) (fun x r hg hT2 hr2 I' v' a' k' hI' hv' hw' => ?_) (fun e hg I' v' hI' => ?_)) | ((with_reducible refine Ak ?_); with_reducible refine Jh _ zT zA (fun hb => ?_) (fun hb => ?_)) | ((with_reducible refine Ak ?_); with_reducible refine CE _ zT zA (fun hb hT' hl' v' hv' => ?_) (fun hb => ?_)) | (with_reducible refine Bl _ zT zA (fun hb hT' hl' I' v' hI' hv' => ?_) (fun hb I' v' hI' => ?_)) | ((with_reducible refine AV ?_); with_reducible refine CU zT zA (fun hb hT' hl' v' hv' => ?_) (fun hb => ?_)) | ((with_reducible refine AV ?_); with_reducible refine Ae zT zA ?_) | (with_reducible first | refine Ce zC (fun I' a hI' hw' => Gh.done ?_) | refine CS zC zC (fun I' a hI' hw' => Gh.done ?_) | refine DF zC zC zC (fun I' a hI' hw' => Gh.done ?_)) | ((with_reducible refine Ak ?_); with_reducible refine BK zC ?_) | (with_reducible refine rdb ?_) | ((with_reducible first | refine st1 ?_ ?_ | refine rdB ?_ ?_); rfl) | (with_reducible refine Dt ?_) | ((with_reducible refine RH ?_ ?_); rfl) | ((with_reducible refine stB ?_ ?_ ?_ ?_); rfl; rfl; exact Au rfl) | ((with_reducible first | refine rdP _ rfl ?_ ?_ | refine AHE _ rfl ?_ ?_); rfl) | ((with_reducible refine stP _ rfl ?_ ?_ ?_ ?_); rfl; rfl; rfl) | (with_reducible first | refine Be (sh146_4.eq_1 ..) ?_ | refine And.intro ?_ ?_) | (simp only [SSg, Int.reduceBEq, Int.reduceBNe, Int.reduceLT, Int.reduceLE, beq_self_eq_true, bne_self_eq_false]) | (with_reducible first | refine Bc (fun hb => ?_) (fun hb => ?_) | refine AB (fun hb => ?_) (fun hb => ?_)) | (simp only [SSd, Nat.reduceAdd]))
  all_goals (try (exfalso; simp_all; done))
  all_goals first
    | exact J true zA zA (by omega) (by simp [KQ, *])
    | exact J false zA zA (by omega) (by simp [KQ, *])
    | exact Gh.to (L1 ++ (b, PBo v') :: L2) (Gh.done (herr _ (by simp [KQ, *] <;> rfl) _ (by simp [Res.bind, bad, AO, *] <;> rfl) _ _ zE))
    | (refine LJ (X6 := X) (R := TSourceV) (x := x) rfl (by omega) hX (Recs.imp (fun _ _ h => TSourceV.mono h zE) hR) ⟨_, rfl, zC⟩ rfl (Au rfl) (by omega) (by omega) (fun X1 X6 w6 cells6 hX6 hR6 => Gh.to (X6 ++ (L1 ++ (b, PBo v') :: L2)) ?_)
       exact hnext _ x _ (by simp [KQ, *] <;> rfl) (by simp [Res.bind, AO, *] <;> rfl) zA (by omega) _ _ _ _ _ zE zT hX6 hR6)
    | (refine CalP.pre (RL.ofO (R := TSourceV) (fun {I I' x c} h hI => TSourceV.mono h hI) hX hR (fun I3 hI3 hw => Gh.done ?_))
       refine Ak (AOk hw (fun a k hw' => hend (by simp [KQ, *]) I3 a k hI3 hw' (h.mono hI3))))
set_option maxHeartbeats 4000000 in
theorem AKo (n:Nat)(hn0:n≤1000000000)(hE:FnE ω n b 148 (eP n)):FnL ω n b 146 (KZ n) TSourceV 14:=by
 intro K Pn I L C v l hF h hT hl hok herr;obtain ⟨L1,L2,rfl,rfl⟩:=hF.foc;refine AQJ ?_;unfold AMd;refine AV ((Tq n).go h hT hl ?_ ?_);rotate_left
 ·rintro e hg I1 v1 hI1;exact Gh.to (L1++(b,PBo v1)::L2) (Gh.done (herr e (by simp only [KZ,hg,Res.bind]) I1 v1 hI1))
 rintro x r hg hT1 hr I1 v1 c hI1 hTL1 hx;refine En rfl (by omega) (by simpa [Value.cells] using hx.len) (fun X u hX=>?_);refine loop (fun m s I2 Lx=>∃X v2 l2 w cells xs f,l2.length=m∧s=(.slice none 0 0,w,())∧Ext I I2∧Lx=X++(L1++(b,PBo v2)::L2)∧TL I2 v2 l2∧Toks l2∧SlO 123 14 X w cells xs.length∧Recs (TSourceV I2) 14 xs cells∧l2.length≤f∧0 < xs.length∧xs.length+l2.length≤l.length+1∧KZ n l=Cb n f xs l2) r.length
   ⟨X,v1,r,u,_,[x],n,rfl,rfl,hI1,rfl,hTL1,hT1,hX,(by simpa [Value.cells] using Recs.one hx.len hx),by omega,by simp,by simp;omega,by simp only [KZ,hg,Res.bind]⟩ ?_
 clear hX hTL1 hT1 hx hg hr;rintro m s I2 Lx ⟨X,v2,l2,w,cells,xs,f,rfl,rfl,hI2,rfl,hTL2,hT2,hX,hR,hf,hpos,hlen,hm⟩;have hl2:=hT2.len;obtain ⟨f,rfl⟩:∃k,f=k+1:=⟨f - 1,by omega⟩;rw [Xr] at hm;refine AEO n hE hTL2 hT2 (by omega) hX hR (by omega) (fun g x r hn hg hT3 hr3 I3 v3 X3 w3 cells3 hI3 hTL3 hX3 hR3=>?_) (fun g hn e hg I3 v3 hI3=>?_) (fun hn I3 a k hI3 hw hTL3=>?_)
 ·exact Gh.done ⟨r.length,by omega,X3,v3,r,w3,cells3,xs++[x],f,rfl,rfl,Ext.trans hI2 hI3,rfl,hTL3,hT3,hX3,hR3,by omega,by simp,by simp;omega,by rw [hm,hn];simp only [hg,Res.bind]⟩
 ·exact herr e (by rw [hm,hn];simp only [hg,Res.bind]) I3 v3 (Ext.trans hI2 hI3)
 ·exact Gh.done (hok xs l2 (by rw [hm,hn]) hT2 (by omega) I3 v2 a k (Ext.trans hI2 hI3) hTL3 hw (by omega))
end
theorem NS {α:Type}{R:Imm→α→List Value→Prop}{m n:Nat}{g:Res (List α)}{K:Value→M}{C:Obj→LH}{I:Imm}(h:LOk R m g n K C I):POk g (fun I x v=>RL R m I [] v x∧x.length≤n) n K C I:=by
 rintro x r hg hT hr I' v' w hI' hv' ⟨hw,hx⟩;obtain ⟨a,k,rfl⟩:=RL.form hw;exact h x r hg hT hr I' v' a k hI' hv' hw (by omega)
theorem ItL.mono {I I':Imm}{v:Value}{l:List TItem}(h:RL TItemV 14 I [] v l)(hI:Ext I I'):RL TItemV 14 I' [] v l:=RL.mono (fun _ _ h=>TItemV.mono h hI) h hI (fun _ h=>h)
theorem SoL.mono {I I':Imm}{v:Value}{l:List TSource}(h:RL TSourceV 14 I [] v l)(hI:Ext I I'):RL TSourceV 14 I' [] v l:=RL.mono (fun _ _ h=>TSourceV.mono h hI) h hI (fun _ h=>h)
theorem OrL.mono {I I':Imm}{v:Value}{l:List TOrder}(h:RL TOrderV 12 I [] v l)(hI:Ext I I'):RL TOrderV 12 I' [] v l:=RL.mono (fun _ _ h=>TOrderV.mono h hI) h hI (fun _ h=>h)
def UH (s:TSelect):Pr TSelect:=fun l=>.ok s l
def Ld (s:TSelect):Pr TSelect:=fun l=>if isT l [111,102,102,115,101,116] then (EZ l.tail).bind fun x r=>UH {s with fOffset:=x} r else UH s l
def Le (s:TSelect):Pr TSelect:=fun l=>if isT l [108,105,109,105,116] then (EZ l.tail).bind fun x r=>Ld {s with fLimit:=x} r else Ld s l
def Lu (n:Nat)(s:TSelect):Pr TSelect:=fun l=>if isT l [111,114,100,101,114] then (AO [98,121] l.tail).bind fun _ r=>(BV n (IC n) r).bind fun x r=>Le {s with fOrder:=x} r else Le s l
def Lh (n:Nat)(s:TSelect):Pr TSelect:=fun l=>(EQ n [104,97,118,105,110,103] l).bind fun x r=>Lu n {s with fHaving:=x} r
def MB (n:Nat)(s:TSelect):Pr TSelect:=fun l=>if isT l [103,114,111,117,112] then (AO [98,121] l.tail).bind fun _ r=>(BV n (eP n) r).bind fun x r=>Lh n {s with fGroup:=x} r else Lh n s l
def Lj (n:Nat)(s:TSelect):Pr TSelect:=fun l=>(EQ n [119,104,101,114,101] l).bind fun x r=>MB n {s with fWhere:=x} r
def KL (n:Nat)(s:TSelect):Pr TSelect:=fun l=>if isT l [102,114,111,109] then (KZ n l.tail).bind fun x r=>Lj n {s with fFrom:=x} r else Lj n s l
abbrev AGY (d:Bool):TSelect:=⟨d,[],[],ex0,[],ex0,[], -1,0⟩
theorem AHO {α β:Type}(s:Bs)(d:α)(p:Pr α)(l:List Tok)(f:α→Pr β):(OM s d p l).bind f=if isT l s then (p l.tail).bind f else f d l:=by
 unfold OM;split <;> rfl
theorem ADu (n:Nat)(l:List Tok):Gt n l=(BV n (Gq n) (if isT l [100,105,115,116,105,110,99,116] then l.tail else l)).bind fun x r=>KL n {AGY (isT l [100,105,115,116,105,110,99,116]) with fItems:=x} r:=by
 simp only [Gt,AHO,byP,GZ,KL,Lj,MB,Lh,Lu,Le,Ld,UH]
abbrev selZ:List Value:=[.bool false,.slice none 0 0,.slice none 0 0,.int .i64 0,.int .i64 0,.bool false,.int .i64 0,.string ⟨#[]⟩,.string ⟨#[]⟩,.string ⟨#[]⟩,.int .i64 0,.int .i64 0,.bool false,.slice none 0 0,.slice none 0 0,.int .i64 0,.int .i64 0,.bool false,.int .i64 0,.string ⟨#[]⟩,.string ⟨#[]⟩,.string ⟨#[]⟩,.int .i64 0,.int .i64 0,.bool false,.slice none 0 0,.slice none 0 0,.int .i64 0,.int .i64 0]
section
variable {ω:Om}{b:Nat}
theorem ACK (n:Nat)(hn0:n≤1000000000)(hE:FnE ω n b 148 (eP n)){I:Imm}{L1 L2:LH}{K Pn:Value→M}{v:Value}{l:List Tok}{b1 bq N0:Nat}{s:TSelect}{c:List Value}(h:TL I v l)(hT:Toks l)(hl:l.length≤n)(hN:l.length≤N0)(hs:Bd I s c)
  (hok:VOk Bd (UH s l) N0 K (fun o=>L1++(b,o)::L2) I) (herr:PEr (UH s l) Pn (fun o=>L1++(b,o)::L2) I):
  Ux ω (AP b1) (AP bq) (fun v=>Gh (K v)) (fun v=>Gh (Pn v)) I ((bq,.cells c.toArray 40 (0,0))::(b1,.cells selZ.toArray 40 (0,0))::(L1++(b,PBo v)::L2)):=by
 obtain ⟨v0,v1,v2,v3,v4,v5,rfl,h0,h1,h2,h3,h4,h5⟩:=hs;obtain ⟨a0,k0,rfl⟩:=RL.form h0;obtain ⟨a1,k1,rfl⟩:=RL.form h1;obtain ⟨a2,k2,rfl⟩:=RL.form h2;obtain ⟨a3,k3,rfl⟩:=RL.form h3;obtain ⟨a4,k4,rfl⟩:=RL.form h4;obtain ⟨a5,k5,rfl⟩:=RL.form h5;have hs:Bd I s _:=⟨_,_,_,_,_,_,rfl,h0,h1,h2,h3,h4,h5⟩;unfold Ux;have hl0:=hT.len;repeat' (first|(with_reducible first|refine CB (b:=b) ?_|refine keepA ?_|refine Ad (fun _=>?_))|((with_reducible refine Ak ?_);with_reducible refine CE _ zT zA (fun hb hT' hl' v' hv'=>?_) (fun hb=>?_))|(with_reducible refine Bl _ zT zA (fun hb hT' hl' I' v' hI' hv'=>?_) (fun hb I' v' hI'=>?_))|((with_reducible refine AV ?_);with_reducible refine CU zT zA (fun hb hT' hl' v' hv'=>?_) (fun hb=>?_))|((with_reducible refine AV ?_);with_reducible refine Ae zT zA ?_)|(with_reducible first|refine Ce zC (fun I' a hI' hw'=>Gh.done ?_)|refine CS zC zC (fun I' a hI' hw'=>Gh.done ?_)|refine DF zC zC zC (fun I' a hI' hw'=>Gh.done ?_))|((with_reducible refine Ak ?_);with_reducible refine BK zC ?_)|refine zqr ?_|refine zqb ?_|refine zqi ?_ ?_|refine zqc ?_|refine zqg (fun hb=>?_) (fun hb=>?_)|refine zqe ?_|fail)
 exact Gh.to (L1++(b,PBo v)::L2) (Gh.done (hok s l (by simp [UH]) hT hN I v _ (Ext.refl _) h hs))
theorem ACM (n:Nat)(hn0:n≤1000000000)(hE:FnE ω n b 148 (eP n)){I:Imm}{L1 L2:LH}{K Pn:Value→M}{v:Value}{l:List Tok}{b1 bq N0:Nat}{s:TSelect}{c:List Value}(h:TL I v l)(hT:Toks l)(hl:l.length≤n)(hN:l.length≤N0)(hs:Bd I s c)
  (hok:VOk Bd (Ld s l) N0 K (fun o=>L1++(b,o)::L2) I) (herr:PEr (Ld s l) Pn (fun o=>L1++(b,o)::L2) I):
  Uy ω (AP b) (AP b1) (AP bq) (fun v=>Gh (K v)) (fun v=>Gh (Pn v)) I ((bq,.cells c.toArray 40 (0,0))::(b1,.cells selZ.toArray 40 (0,0))::(L1++(b,PBo v)::L2)):=by
 obtain ⟨v0,v1,v2,v3,v4,v5,rfl,h0,h1,h2,h3,h4,h5⟩:=hs;obtain ⟨a0,k0,rfl⟩:=RL.form h0;obtain ⟨a1,k1,rfl⟩:=RL.form h1;obtain ⟨a2,k2,rfl⟩:=RL.form h2;obtain ⟨a3,k3,rfl⟩:=RL.form h3;obtain ⟨a4,k4,rfl⟩:=RL.form h4;obtain ⟨a5,k5,rfl⟩:=RL.form h5;have hs:Bd I s _:=⟨_,_,_,_,_,_,rfl,h0,h1,h2,h3,h4,h5⟩;unfold Uy;have hl0:=hT.len;repeat' (first|(with_reducible first|refine CB (b:=b) ?_|refine keepA ?_|refine Ad (fun _=>?_))|((with_reducible refine AV ?_);with_reducible refine Sj zT zA (fun x r hg hT2 hr2 v' hv'=>?_) (fun e hg=>?_))|((with_reducible refine Ak ?_);with_reducible refine CE _ zT zA (fun hb hT' hl' v' hv'=>?_) (fun hb=>?_))|(with_reducible refine Bl _ zT zA (fun hb hT' hl' I' v' hI' hv'=>?_) (fun hb I' v' hI'=>?_))|((with_reducible refine AV ?_);with_reducible refine CU zT zA (fun hb hT' hl' v' hv'=>?_) (fun hb=>?_))|((with_reducible refine AV ?_);with_reducible refine Ae zT zA ?_)|(with_reducible first|refine Ce zC (fun I' a hI' hw'=>Gh.done ?_)|refine CS zC zC (fun I' a hI' hw'=>Gh.done ?_)|refine DF zC zC zC (fun I' a hI' hw'=>Gh.done ?_))|((with_reducible refine Ak ?_);with_reducible refine BK zC ?_)|refine zqr ?_|refine zqb ?_|refine zqi ?_ ?_|refine zqc ?_|refine zqg (fun hb=>?_) (fun hb=>?_)|refine zqe ?_|fail)
 all_goals first
  |exact Gh.to (L1++(b,PBo v')::L2) (Gh.done (herr _ (by simp [Ld,Res.bind,bad,AO,Res.bind,bad,AO, *] <;> rfl) _ _ zE))
  |exact ACK n hn0 hE zT zA (by omega) (by omega) (s:={s with fOffset:=x}) ⟨_,_,_,_,_,_,rfl,(ItL.mono h0 zE),(SoL.mono h1 zE),(ExL.mono h2 zE),(RL.mono (fun _ _ h=>ExV.mono zE h) h3 zE (fun _ h=>h)),(ExL.mono h4 zE),(OrL.mono h5 zE)⟩ (fun y q hy hT' hq I' v' c hI hv hc=>hok y q (by simp [Ld,AO,Res.bind,hy, *]) hT' hq I' v' c zE hv hc) (fun e hy I' v' hI=>herr e (by simp [Ld,AO,Res.bind,hy, *]) I' v' zE)
  |exact ACK n hn0 hE zT zA (by omega) (by omega) (s:=s) ⟨_,_,_,_,_,_,rfl,(ItL.mono h0 zE),(SoL.mono h1 zE),(ExL.mono h2 zE),(RL.mono (fun _ _ h=>ExV.mono zE h) h3 zE (fun _ h=>h)),(ExL.mono h4 zE),(OrL.mono h5 zE)⟩ (fun y q hy hT' hq I' v' c hI hv hc=>hok y q (by simp [Ld,AO,Res.bind,hy, *]) hT' hq I' v' c zE hv hc) (fun e hy I' v' hI=>herr e (by simp [Ld,AO,Res.bind,hy, *]) I' v' zE)
theorem ACN (n:Nat)(hn0:n≤1000000000)(hE:FnE ω n b 148 (eP n)){I:Imm}{L1 L2:LH}{K Pn:Value→M}{v:Value}{l:List Tok}{b1 bq N0:Nat}{s:TSelect}{c:List Value}(h:TL I v l)(hT:Toks l)(hl:l.length≤n)(hN:l.length≤N0)(hs:Bd I s c)
  (hok:VOk Bd (Le s l) N0 K (fun o=>L1++(b,o)::L2) I) (herr:PEr (Le s l) Pn (fun o=>L1++(b,o)::L2) I):
  Uz ω (AP b) (AP b1) (AP bq) (fun v=>Gh (K v)) (fun v=>Gh (Pn v)) I ((bq,.cells c.toArray 40 (0,0))::(b1,.cells selZ.toArray 40 (0,0))::(L1++(b,PBo v)::L2)):=by
 obtain ⟨v0,v1,v2,v3,v4,v5,rfl,h0,h1,h2,h3,h4,h5⟩:=hs;obtain ⟨a0,k0,rfl⟩:=RL.form h0;obtain ⟨a1,k1,rfl⟩:=RL.form h1;obtain ⟨a2,k2,rfl⟩:=RL.form h2;obtain ⟨a3,k3,rfl⟩:=RL.form h3;obtain ⟨a4,k4,rfl⟩:=RL.form h4;obtain ⟨a5,k5,rfl⟩:=RL.form h5;have hs:Bd I s _:=⟨_,_,_,_,_,_,rfl,h0,h1,h2,h3,h4,h5⟩;unfold Uz;have hl0:=hT.len;repeat' (first|(with_reducible first|refine CB (b:=b) ?_|refine keepA ?_|refine Ad (fun _=>?_))|((with_reducible refine AV ?_);with_reducible refine Sj zT zA (fun x r hg hT2 hr2 v' hv'=>?_) (fun e hg=>?_))|((with_reducible refine Ak ?_);with_reducible refine CE _ zT zA (fun hb hT' hl' v' hv'=>?_) (fun hb=>?_))|(with_reducible refine Bl _ zT zA (fun hb hT' hl' I' v' hI' hv'=>?_) (fun hb I' v' hI'=>?_))|((with_reducible refine AV ?_);with_reducible refine CU zT zA (fun hb hT' hl' v' hv'=>?_) (fun hb=>?_))|((with_reducible refine AV ?_);with_reducible refine Ae zT zA ?_)|(with_reducible first|refine Ce zC (fun I' a hI' hw'=>Gh.done ?_)|refine CS zC zC (fun I' a hI' hw'=>Gh.done ?_)|refine DF zC zC zC (fun I' a hI' hw'=>Gh.done ?_))|((with_reducible refine Ak ?_);with_reducible refine BK zC ?_)|refine zqr ?_|refine zqb ?_|refine zqi ?_ ?_|refine zqc ?_|refine zqg (fun hb=>?_) (fun hb=>?_)|refine zqe ?_|fail)
 all_goals first
  |exact Gh.to (L1++(b,PBo v')::L2) (Gh.done (herr _ (by simp [Le,Res.bind,bad,AO,Res.bind,bad,AO, *] <;> rfl) _ _ zE))
  |exact ACM n hn0 hE zT zA (by omega) (by omega) (s:={s with fLimit:=x}) ⟨_,_,_,_,_,_,rfl,(ItL.mono h0 zE),(SoL.mono h1 zE),(ExL.mono h2 zE),(RL.mono (fun _ _ h=>ExV.mono zE h) h3 zE (fun _ h=>h)),(ExL.mono h4 zE),(OrL.mono h5 zE)⟩ (fun y q hy hT' hq I' v' c hI hv hc=>hok y q (by simp [Le,AO,Res.bind,hy, *]) hT' hq I' v' c zE hv hc) (fun e hy I' v' hI=>herr e (by simp [Le,AO,Res.bind,hy, *]) I' v' zE)
  |exact ACM n hn0 hE zT zA (by omega) (by omega) (s:=s) ⟨_,_,_,_,_,_,rfl,(ItL.mono h0 zE),(SoL.mono h1 zE),(ExL.mono h2 zE),(RL.mono (fun _ _ h=>ExV.mono zE h) h3 zE (fun _ h=>h)),(ExL.mono h4 zE),(OrL.mono h5 zE)⟩ (fun y q hy hT' hq I' v' c hI hv hc=>hok y q (by simp [Le,AO,Res.bind,hy, *]) hT' hq I' v' c zE hv hc) (fun e hy I' v' hI=>herr e (by simp [Le,AO,Res.bind,hy, *]) I' v' zE)
theorem ACO (n:Nat)(hn0:n≤1000000000)(hE:FnE ω n b 148 (eP n)){I:Imm}{L1 L2:LH}{K Pn:Value→M}{v:Value}{l:List Tok}{b1 bq N0:Nat}{s:TSelect}{c:List Value}(h:TL I v l)(hT:Toks l)(hl:l.length≤n)(hN:l.length≤N0)(hs:Bd I s c)
  (hok:VOk Bd (Lh n s l) N0 K (fun o=>L1++(b,o)::L2) I) (herr:PEr (Lh n s l) Pn (fun o=>L1++(b,o)::L2) I):
  VA ω (AP b) (AP b1) (AP bq) (fun v=>Gh (K v)) (fun v=>Gh (Pn v)) I ((bq,.cells c.toArray 40 (0,0))::(b1,.cells selZ.toArray 40 (0,0))::(L1++(b,PBo v)::L2)):=by
 obtain ⟨v0,v1,v2,v3,v4,v5,rfl,h0,h1,h2,h3,h4,h5⟩:=hs;obtain ⟨a0,k0,rfl⟩:=RL.form h0;obtain ⟨a1,k1,rfl⟩:=RL.form h1;obtain ⟨a2,k2,rfl⟩:=RL.form h2;obtain ⟨a3,k3,rfl⟩:=RL.form h3;obtain ⟨a4,k4,rfl⟩:=RL.form h4;obtain ⟨a5,k5,rfl⟩:=RL.form h5;have hs:Bd I s _:=⟨_,_,_,_,_,_,rfl,h0,h1,h2,h3,h4,h5⟩;unfold VA;have hl0:=hT.len;repeat' (first|(with_reducible first|refine CB (b:=b) ?_|refine keepA ?_|refine Ad (fun _=>?_))|((with_reducible refine AV ?_);with_reducible refine MX n hE _ zT zA (by omega) (fun y r1 hg1 hT1 hr1 I' v' a' k' hI' hv' hw1=>?_) (fun e hg I' v' hI'=>?_))|((with_reducible refine AV ?_);with_reducible refine ANt n hn0 ((AHN n hE).one rfl) zT zA (by omega) (NS (fun x r hg hT2 hr2 I' v' a' k' hI' hv' hw' hx'=>?_)) (fun e hg I' v' hI'=>?_))|((with_reducible refine Ak ?_);with_reducible refine CE _ zT zA (fun hb hT' hl' v' hv'=>?_) (fun hb=>?_))|(with_reducible refine Bl _ zT zA (fun hb hT' hl' I' v' hI' hv'=>?_) (fun hb I' v' hI'=>?_))|((with_reducible refine AV ?_);with_reducible refine CU zT zA (fun hb hT' hl' v' hv'=>?_) (fun hb=>?_))|((with_reducible refine AV ?_);with_reducible refine Ae zT zA ?_)|(with_reducible first|refine Ce zC (fun I' a hI' hw'=>Gh.done ?_)|refine CS zC zC (fun I' a hI' hw'=>Gh.done ?_)|refine DF zC zC zC (fun I' a hI' hw'=>Gh.done ?_))|((with_reducible refine Ak ?_);with_reducible refine BK zC ?_)|refine zqr ?_|refine zqb ?_|refine zqi ?_ ?_|refine zqc ?_|refine zqg (fun hb=>?_) (fun hb=>?_)|refine zqe ?_|fail)
 all_goals first
  |exact Gh.to (L1++(b,PBo v')::L2) (Gh.done (herr _ (by simp [Lh,Lu,Res.bind,bad,AO,Res.bind,bad,AO, *] <;> rfl) _ _ zE))
  |exact ACN n hn0 hE zT zA (by omega) (by omega) (s:={s with fHaving:=y,fOrder:=x}) ⟨_,_,_,_,_,_,rfl,(ItL.mono h0 zE),(SoL.mono h1 zE),(ExL.mono h2 zE),(RL.mono (fun _ _ h=>ExV.mono zE h) h3 zE (fun _ h=>h)),(ExL.mono hw1 zE),hw'⟩ (fun y q hy hT' hq I' v' c hI hv hc=>hok y q (by simp [Lh,Lu,AO,Res.bind,hy, *]) hT' hq I' v' c zE hv hc) (fun e hy I' v' hI=>herr e (by simp [Lh,Lu,AO,Res.bind,hy, *]) I' v' zE)
  |exact ACN n hn0 hE zT zA (by omega) (by omega) (s:={s with fHaving:=y}) ⟨_,_,_,_,_,_,rfl,(ItL.mono h0 zE),(SoL.mono h1 zE),(ExL.mono h2 zE),(RL.mono (fun _ _ h=>ExV.mono zE h) h3 zE (fun _ h=>h)),(ExL.mono hw1 zE),(OrL.mono h5 zE)⟩ (fun y q hy hT' hq I' v' c hI hv hc=>hok y q (by simp [Lh,Lu,AO,Res.bind,hy, *]) hT' hq I' v' c zE hv hc) (fun e hy I' v' hI=>herr e (by simp [Lh,Lu,AO,Res.bind,hy, *]) I' v' zE)
theorem QM (n:Nat)(hn0:n≤1000000000)(hE:FnE ω n b 148 (eP n)){I:Imm}{L1 L2:LH}{K Pn:Value→M}{v:Value}{l:List Tok}{b1 bq N0:Nat}{s:TSelect}{c:List Value}(h:TL I v l)(hT:Toks l)(hl:l.length≤n)(hN:l.length≤N0)(hs:Bd I s c)
  (hok:VOk Bd (Lj n s l) N0 K (fun o=>L1++(b,o)::L2) I) (herr:PEr (Lj n s l) Pn (fun o=>L1++(b,o)::L2) I):
  VB ω (AP b) (AP b1) (AP bq) (fun v=>Gh (K v)) (fun v=>Gh (Pn v)) I ((bq,.cells c.toArray 40 (0,0))::(b1,.cells selZ.toArray 40 (0,0))::(L1++(b,PBo v)::L2)):=by
 obtain ⟨v0,v1,v2,v3,v4,v5,rfl,h0,h1,h2,h3,h4,h5⟩:=hs;obtain ⟨a0,k0,rfl⟩:=RL.form h0;obtain ⟨a1,k1,rfl⟩:=RL.form h1;obtain ⟨a2,k2,rfl⟩:=RL.form h2;obtain ⟨a3,k3,rfl⟩:=RL.form h3;obtain ⟨a4,k4,rfl⟩:=RL.form h4;obtain ⟨a5,k5,rfl⟩:=RL.form h5;have hs:Bd I s _:=⟨_,_,_,_,_,_,rfl,h0,h1,h2,h3,h4,h5⟩;unfold VB;have hl0:=hT.len;repeat' (first|(with_reducible first|refine CB (b:=b) ?_|refine keepA ?_|refine Ad (fun _=>?_))|((with_reducible refine AV ?_);with_reducible refine MX n hE _ zT zA (by omega) (fun y r1 hg1 hT1 hr1 I' v' a' k' hI' hv' hw1=>?_) (fun e hg I' v' hI'=>?_))|((with_reducible refine AV ?_);with_reducible refine AFF n hn0 (hE.one rfl) zT zA (by omega) (NS (fun x r hg hT2 hr2 I' v' a' k' hI' hv' hw' hx'=>?_)) (fun e hg I' v' hI'=>?_))|((with_reducible refine Ak ?_);with_reducible refine CE _ zT zA (fun hb hT' hl' v' hv'=>?_) (fun hb=>?_))|(with_reducible refine Bl _ zT zA (fun hb hT' hl' I' v' hI' hv'=>?_) (fun hb I' v' hI'=>?_))|((with_reducible refine AV ?_);with_reducible refine CU zT zA (fun hb hT' hl' v' hv'=>?_) (fun hb=>?_))|((with_reducible refine AV ?_);with_reducible refine Ae zT zA ?_)|(with_reducible first|refine Ce zC (fun I' a hI' hw'=>Gh.done ?_)|refine CS zC zC (fun I' a hI' hw'=>Gh.done ?_)|refine DF zC zC zC (fun I' a hI' hw'=>Gh.done ?_))|((with_reducible refine Ak ?_);with_reducible refine BK zC ?_)|refine zqr ?_|refine zqb ?_|refine zqi ?_ ?_|refine zqc ?_|refine zqg (fun hb=>?_) (fun hb=>?_)|refine zqe ?_|fail)
 all_goals first
  |exact Gh.to (L1++(b,PBo v')::L2) (Gh.done (herr _ (by simp [Lj,MB,Res.bind,bad,AO,Res.bind,bad,AO, *] <;> rfl) _ _ zE))
  |exact ACO n hn0 hE zT zA (by omega) (by omega) (s:={s with fWhere:=y,fGroup:=x}) ⟨_,_,_,_,_,_,rfl,(ItL.mono h0 zE),(SoL.mono h1 zE),(ExL.mono hw1 zE),hw',(ExL.mono h4 zE),(OrL.mono h5 zE)⟩ (fun y q hy hT' hq I' v' c hI hv hc=>hok y q (by simp [Lj,MB,AO,Res.bind,hy, *]) hT' hq I' v' c zE hv hc) (fun e hy I' v' hI=>herr e (by simp [Lj,MB,AO,Res.bind,hy, *]) I' v' zE)
  |exact ACO n hn0 hE zT zA (by omega) (by omega) (s:={s with fWhere:=y}) ⟨_,_,_,_,_,_,rfl,(ItL.mono h0 zE),(SoL.mono h1 zE),(ExL.mono hw1 zE),(RL.mono (fun _ _ h=>ExV.mono zE h) h3 zE (fun _ h=>h)),(ExL.mono h4 zE),(OrL.mono h5 zE)⟩ (fun y q hy hT' hq I' v' c hI hv hc=>hok y q (by simp [Lj,MB,AO,Res.bind,hy, *]) hT' hq I' v' c zE hv hc) (fun e hy I' v' hI=>herr e (by simp [Lj,MB,AO,Res.bind,hy, *]) I' v' zE)
theorem AHG (n:Nat)(hn0:n≤1000000000)(hE:FnE ω n b 148 (eP n)):FnV ω n b 94 (Gt n) Bd:=by
 intro K Pn I L C v l hF h hT hl hok herr;obtain ⟨L1,L2,rfl,rfl⟩:=hF.foc;rw [ADu] at hok herr;refine ASj ?_;unfold ARP;repeat' (first|(with_reducible first|refine CB (b:=b) ?_|refine keepA ?_|refine Ad (fun _=>?_))|((with_reducible refine AV ?_);with_reducible refine ANv n hn0 ((AKk n hE).one rfl) zT zA (by omega) (NS (fun y r1 hg1 hT1 hr1 I' v' a' k' hI' hv' hw1 hx1=>?_)) (fun e hg I' v' hI'=>?_))|((with_reducible refine AV ?_);with_reducible refine (AKo n hn0 hE).go zT zA (by omega) (fun x r hg hT2 hr2 I' v' a' k' hI' hv' hw' hx'=>?_) (fun e hg I' v' hI'=>?_))|((with_reducible refine Ak ?_);with_reducible refine CE _ zT zA (fun hb hT' hl' v' hv'=>?_) (fun hb=>?_))|(with_reducible refine Bl _ zT zA (fun hb hT' hl' I' v' hI' hv'=>?_) (fun hb I' v' hI'=>?_))|((with_reducible refine AV ?_);with_reducible refine CU zT zA (fun hb hT' hl' v' hv'=>?_) (fun hb=>?_))|((with_reducible refine AV ?_);with_reducible refine Ae zT zA ?_)|(with_reducible first|refine Ce zC (fun I' a hI' hw'=>Gh.done ?_)|refine CS zC zC (fun I' a hI' hw'=>Gh.done ?_)|refine DF zC zC zC (fun I' a hI' hw'=>Gh.done ?_))|((with_reducible refine Ak ?_);with_reducible refine BK zC ?_)|refine zqr ?_|refine zqb ?_|refine zqi ?_ ?_|refine zqc ?_|refine zqg (fun hb=>?_) (fun hb=>?_)|refine zqe ?_|fail)
 all_goals first
  |exact Gh.to (L1++(b,PBo v')::L2) (Gh.done (herr _ (by simp [KL,Res.bind,bad,AO, *] <;> rfl) _ _ zE))
  |exact QM n hn0 hE zT zA (by omega) (by omega) (s:={AGY true with fItems:=y,fFrom:=x}) ⟨_,_,_,_,_,_,rfl,(ItL.mono hw1 zE),hw',RL.nil none 0,RL.nil none 0,RL.nil none 0,RL.nil none 0⟩ (fun z q hz hT' hq I' v' c hI hv hc=>hok z q (by simp [KL,Res.bind,hz, *]) hT' hq I' v' c zE hv hc) (fun e hz I' v' hI=>herr e (by simp [KL,Res.bind,hz, *]) I' v' zE)
  |exact QM n hn0 hE zT zA (by omega) (by omega) (s:={AGY true with fItems:=y}) ⟨_,_,_,_,_,_,rfl,(ItL.mono hw1 zE),(RL.nil none 0),RL.nil none 0,RL.nil none 0,RL.nil none 0,RL.nil none 0⟩ (fun z q hz hT' hq I' v' c hI hv hc=>hok z q (by simp [KL,Res.bind,hz, *]) hT' hq I' v' c zE hv hc) (fun e hz I' v' hI=>herr e (by simp [KL,Res.bind,hz, *]) I' v' zE)
  |exact QM n hn0 hE zT zA (by omega) (by omega) (s:={AGY false with fItems:=y,fFrom:=x}) ⟨_,_,_,_,_,_,rfl,(ItL.mono hw1 zE),hw',RL.nil none 0,RL.nil none 0,RL.nil none 0,RL.nil none 0⟩ (fun z q hz hT' hq I' v' c hI hv hc=>hok z q (by simp [KL,Res.bind,hz, *]) hT' hq I' v' c zE hv hc) (fun e hz I' v' hI=>herr e (by simp [KL,Res.bind,hz, *]) I' v' zE)
  |exact QM n hn0 hE zT zA (by omega) (by omega) (s:={AGY false with fItems:=y}) ⟨_,_,_,_,_,_,rfl,(ItL.mono hw1 zE),(RL.nil none 0),RL.nil none 0,RL.nil none 0,RL.nil none 0,RL.nil none 0⟩ (fun z q hz hT' hq I' v' c hI hv hc=>hok z q (by simp [KL,Res.bind,hz, *]) hT' hq I' v' c zE hv hc) (fun e hz I' v' hI=>herr e (by simp [KL,Res.bind,hz, *]) I' v' zE)
end
section
variable {ω:Om}{b:Nat}
theorem AHz (n:Nat):FnE ω n b 222 FZ:=by
 intro K Pn I L C v l hF h hT hl hok herr;obtain ⟨L1,L2,rfl,rfl⟩:=hF.foc;have hN:FnE ω n b 234 MJ:=UW n;refine API ?_;unfold sh222;repeat' (first|(with_reducible first|refine CB (b:=b) ?_|refine keepA ?_|refine Ad (fun _=>?_))|((with_reducible refine AV ?_);with_reducible refine hN.go zT zA (by omega) (fun y r' hg hT2 hr2 I' v' a' k' hI' hv' hw'=>?_) (fun e hg I' v' hI'=>?_))|((with_reducible refine Ak ?_);with_reducible refine NW zT zA (fun x hx hT' hl' v' hv'=>?_) (fun hx=>?_))|((with_reducible refine Ak ?_);with_reducible refine CE _ zT zA (fun hb hT' hl' v' hv'=>?_) (fun hb=>?_))|(with_reducible refine Bl _ zT zA (fun hb hT' hl' I' v' hI' hv'=>?_) (fun hb I' v' hI'=>?_))|((with_reducible refine AV ?_);with_reducible refine CU zT zA (fun hb hT' hl' v' hv'=>?_) (fun hb=>?_))|((with_reducible refine AV ?_);with_reducible refine Ae zT zA ?_)|(with_reducible first|refine Ce zC (fun I' a hI' hw'=>Gh.done ?_)|refine CS zC zC (fun I' a hI' hw'=>Gh.done ?_)|refine DF zC zC zC (fun I' a hI' hw'=>Gh.done ?_))|((with_reducible refine Ak ?_);with_reducible refine BK zC ?_)|refine zqr ?_|refine zqb ?_|(with_reducible first|refine Be (sh222.eq_1 ..) ?_|refine And.intro ?_ ?_)|refine zqc ?_|refine zqg (fun hb=>?_) (fun hb=>?_)|refine zqe ?_|fail)
 all_goals first
  |exact Gh.to (L1++(b,PBo v')::L2) (Gh.done (herr _ (by simp [FZ,Res.bind,bad,AO, *] <;> rfl) _ _ zE))
  |exact Gh.to (L1++(b,PBo v')::L2) (Gh.done (hok _ _ (by simp [FZ,Res.bind,bad,AO, *] <;> rfl) zA (by omega) _ _ _ zE zT zC))
  |exact Gh.to (L1++(b,PBo v')::L2) (Gh.done (hok (exK 4 [y]) _ (by simp [FZ,Res.bind, *] <;> rfl) zA (by omega) _ _ _ zE zT zC))
def tyK (s:Bs):Option Int:=if s=[116,101,120,116] then some 3 else if s=[98,111,111,108,101,97,110]∨s=[98,111,111,108] then some 2 else if s=[98,105,103,105,110,116]∨s=[105,110,116,101,103,101,114]∨s=[105,110,116] then some 1 else none
theorem AJj:KC (KC (KC (KC (KC (KC (fun _=>none) [105,110,116] (some (.int .i64 1))) [105,110,116,101,103,101,114] (some (.int .i64 1))) [98,105,103,105,110,116] (some (.int .i64 1))) [98,111,111,108] (some (.int .i64 2))) [98,111,111,108,101,97,110] (some (.int .i64 2))) [116,101,120,116] (some (.int .i64 3))=fun k=>(tyK k).map (.int .i64):=by
 funext k
 simp only [KC,tyK];by_cases h1:k=[116,101,120,116]
 ·subst h1;rfl
 by_cases h2:k=[98,111,111,108,101,97,110]
 ·subst h2;rfl
 by_cases h3:k=[98,111,111,108]
 ·subst h3;rfl
 by_cases h4:k=[98,105,103,105,110,116]
 ·subst h4;rfl
 by_cases h5:k=[105,110,116,101,103,101,114]
 ·subst h5;rfl
 by_cases h6:k=[105,110,116]
 ·subst h6;rfl
 simp only [h1,h2,h3,h4,h5,h6,if_false,or_self];rfl
theorem ADP (s:Bs):typeOf s=(tyK s).getD 0:=by
 simp only [typeOf,tyK];by_cases h1:s=[116,101,120,116]
 ·subst h1;rfl
 by_cases h2:s=[98,111,111,108,101,97,110]
 ·subst h2;rfl
 by_cases h3:s=[98,111,111,108]
 ·subst h3;rfl
 by_cases h4:s=[98,105,103,105,110,116]
 ·subst h4;rfl
 by_cases h5:s=[105,110,116,101,103,101,114]
 ·subst h5;rfl
 by_cases h6:s=[105,110,116]
 ·subst h6;rfl
 simp only [h1,h2,h3,h4,h5,h6,if_false,or_self];rfl
def KR (c:TCol)(l:List Tok):Option (Res TCol):=
  if (!c.fNotNull&&isT l [110,111,116])=true then some ((AO [110,117,108,108] l.tail).bind fun _ r=>.ok {c with fNotNull:=true} r) else
  if (!c.fKey&&isT l [112,114,105,109,97,114,121])=true then some ((AO [107,101,121] l.tail).bind fun _ r=>.ok {c with fKey:=true} r) else
  if (!c.fUnique&&isT l [117,110,105,113,117,101])=true then some (.ok {c with fUnique:=true} l.tail) else
  if (c.fDefault.kind==0&&isT l [100,101,102,97,117,108,116])=true then some ((FZ l.tail).bind fun x r=>.ok {c with fDefault:=x} r) else none
theorem ZZ (m:Nat)(c:TCol)(l:List Tok):FV (m+1) c l=match KR c l with
  |some g=>g.bind fun c r=>FV m c r
  |none=>.ok c l:=by
 simp only [FV,KR];split
 ·simp only [GZ];rfl
 split
 ·simp only [GZ];rfl
 split
 ·rfl
 split
 ·simp only [GZ];rfl
 ·rfl
abbrev colZ:List Value:=[.string ⟨#[]⟩,.int .i64 0,.bool false,.bool false,.bool false,.int .i64 0,.int .i64 0,.bool false,.int .i64 0,.string ⟨#[]⟩,.string ⟨#[]⟩,.string ⟨#[]⟩,.int .i64 0,.int .i64 0,.bool false,.slice none 0 0]
set_option maxHeartbeats 1000000 in
theorem AIR {I:Imm}{X L1 L2:LH}{Kn1:Unit→M}{K Pn:Value→M}{v:Value}{l:List Tok}{b1 bc:Nat}{x:TCol}{c:List Value}(h:TL I v l)(hT:Toks l)(hx:TColV I x c)
  (hnext:∀g y r,KR x l=some g→g= .ok y r→Toks r→r.length+1≤l.length→∀I' v' c',Ext I I'→TL I' v' r→TColV I' y c'→Gh (Kn1 ()) I' (X++((bc,.cells c'.toArray 101 (0,0))::(b1,.cells colZ.toArray 101 (0,0))::(L1++(b,PBo v')::L2))))
  (herr:∀g,KR x l=some g→PEr g Pn (fun o=>L1++(b,o)::L2) I)
  (hend:KR x l=none→Gh (K (.agg c.toArray)) I (L1++(b,PBo v)::L2)):
  sh205_3 ω (AP b) (AP b1) (AP bc) (fun s=>Gh (Kn1 s)) (fun v=>Gh (K v)) (fun v=>Gh (Pn v)) I (X++((bc,.cells c.toArray 101 (0,0))::(b1,.cells colZ.toArray 101 (0,0))::(L1++(b,PBo v)::L2))):=by
 obtain ⟨v0,rfl,h0⟩:=hx;obtain ⟨a0,k0,rfl⟩:=RL.form h0;have hl1:=hT.len;have hG:FnE ω l.length b 222 FZ:=AHz _;unfold sh205_3;repeat' (first|(with_reducible first|refine CB (b:=b) ?_|refine keepA ?_|refine Ad (fun _=>?_))|((with_reducible refine AV ?_);with_reducible refine hG.go zT zA (by omega) (fun y r hg hT2 hr2 I' v' a' k' hI' hv' hw'=>?_) (fun e hg I' v' hI'=>?_))|((with_reducible refine Ak ?_);with_reducible refine CE _ zT zA (fun hb hT' hl' v' hv'=>?_) (fun hb=>?_))|(with_reducible refine Bl _ zT zA (fun hb hT' hl' I' v' hI' hv'=>?_) (fun hb I' v' hI'=>?_))|((with_reducible refine AV ?_);with_reducible refine CU zT zA (fun hb hT' hl' v' hv'=>?_) (fun hb=>?_))|((with_reducible refine AV ?_);with_reducible refine Ae zT zA ?_)|(with_reducible first|refine Ce zC (fun I' a hI' hw'=>Gh.done ?_)|refine CS zC zC (fun I' a hI' hw'=>Gh.done ?_)|refine DF zC zC zC (fun I' a hI' hw'=>Gh.done ?_))|((with_reducible refine Ak ?_);with_reducible refine BK zC ?_)|refine zqr ?_|refine zqb ?_|(with_reducible first|refine Be (sh205_4.eq_1 ..) ?_|refine Be (sh205_8.eq_1 ..) ?_|refine Be (sh205_10.eq_1 ..) ?_|refine Be (sh205_12.eq_1 ..) ?_|refine Be (sh205_13.eq_1 ..) ?_|refine Be (sh205_11.eq_1 ..) ?_|refine Be (sh205_9.eq_1 ..) ?_|refine Be (sh205_7.eq_1 ..) ?_|refine Be (sh205_3.eq_1 ..) ?_|refine Be (sh205_2.eq_1 ..) ?_|refine Be (sh205_1.eq_1 ..) ?_|refine Be (sh205.eq_1 ..) ?_|refine And.intro ?_ ?_)|refine zqc ?_|refine zqg (fun hb=>?_) (fun hb=>?_)|refine zqe ?_|fail)
 all_goals first
  |exact Gh.to (L1++(b,PBo v)::L2) (hend (by simp [KR, *]))
  |exact Gh.to (L1++(b,PBo v')::L2) (Gh.done (herr _ (by simp [KR, *] <;> rfl) _ (by simp [Res.bind,bad,AO, *] <;> rfl) _ _ zE))
  |exact hnext _ {x with fNotNull:=true} _ (by simp [KR, *] <;> rfl) (by simp [Res.bind,AO, *] <;> rfl) zA (by omega) _ _ _ zE zT ⟨_,rfl,zC⟩
  |exact hnext _ {x with fKey:=true} _ (by simp [KR, *] <;> rfl) (by simp [Res.bind,AO, *] <;> rfl) zA (by omega) _ _ _ zE zT ⟨_,rfl,zC⟩
  |exact hnext _ {x with fUnique:=true} _ (by simp [KR, *] <;> rfl) (by simp [Res.bind,AO, *] <;> rfl) zA (by omega) _ _ _ zE zT ⟨_,rfl,zC⟩
  |exact hnext _ {x with fDefault:=y} _ (by simp [KR, *] <;> rfl) (by simp [Res.bind,AO, *] <;> rfl) zA (by omega) _ _ _ zE zT ⟨_,rfl,zC⟩
theorem AEd (n:Nat):FnV ω n b 205 (Ej n) TColV:=by
 intro K Pn I L C v l hF h hT hl hok herr;obtain ⟨L1,L2,rfl,rfl⟩:=hF.foc;refine APR ?_;unfold sh205;refine Ad (fun b1=>?_);refine AV (CU h hT (fun hn hT1 hl1 v1 hv1=>?_) (fun hn=>Gh.to (L1++(b,PBo v)::L2) (Gh.done (herr (hd l).at' (by simp [Ej,Ar,Res.bind,bad,hn]) I v (Ext.refl _)))));obtain ⟨bt,off,h1,h2⟩:=hv1.hd hT1;have two:∀(X:LH) (t:Int) (hty:(if isK l.tail 1 then typeOf (hd l.tail).text else 0)=t) (bc:Nat),sh205_1 ω (AP b) (AP b1) (AP bc) (fun v=>Gh (K v)) (fun v=>Gh (Pn v)) I (X++((bc,.cells #[.string ⟨(hd l).text.toArray⟩,.int .i64 t,.bool false,.bool false,.bool false,.int .i64 0,.int .i64 0,.bool false,.int .i64 0,.string ⟨#[]⟩,.string ⟨#[]⟩,.string ⟨#[]⟩,.int .i64 0,.int .i64 0,.bool false,.slice none 0 0] 101 (0,0))::(b1,.cells colZ.toArray 101 (0,0))::(L1++(b,PBo v1)::L2))):=by
  intro X t hty bc;have hcol:Ej n l=if t=0 then bad l.tail else FV n ⟨(hd l).text,t,false,false,false,ex0⟩ l.tail.tail:=by
   simp only [Ej,Ar,hn,if_true,Res.bind,hty]
  rw [hcol] at hok herr;unfold sh205_1;repeat' (first|refine zqa ?_|refine zqh (fun _=>?_)|refine zqr ?_|refine zqb ?_|refine zqi ?_ ?_|refine zqc ?_|refine zqg (fun _=>?_) (fun _=>?_)|refine zqe ?_|fail)
  ·rename_i h0
   have h0:t=0:=by simpa using h0
   refine AV (Ae hv1 hT1 ?_);exact Gh.to (L1++(b,PBo v1)::L2) (Gh.done (herr _ (by rw [if_pos h0];rfl) I v1 (Ext.refl _)))
  rename_i h0
  have h0:t≠0:=by simpa using h0
  rw [if_neg h0] at hok herr;have hk1:isK l.tail 1=true:=by
   cases hk:isK l.tail 1 with
   |true=>rfl
   |false=>rw [hk] at hty;exact absurd hty.symm h0
  have hT2:=hT1.tailK hk1;have hl2:=hT1.len;unfold sh205_2;refine Ak (Iw hv1 hT1 (fun v2 hv2=>?_));refine loop (fun m s I2 Lx=>∃x c v2 l2 f,l2.length=m∧Ext I I2∧Lx=X++((bc,Obj.cells (c:List Value).toArray 101 (0,0))::(b1,.cells colZ.toArray 101 (0,0))::(L1++(b,PBo v2)::L2))∧TColV I2 x c∧TL I2 v2 l2∧Toks l2∧l2.length≤f∧l2.length≤l.length∧FV n ⟨(hd l).text,t,false,false,false,ex0⟩ l.tail.tail=FV f x l2) l.tail.tail.length
   ⟨⟨(hd l).text,t,false,false,false,ex0⟩,_,v2,l.tail.tail,n,rfl,Ext.refl _,rfl,⟨_,rfl,RL.nil none 0⟩,hv2,hT2,by omega,by omega,rfl⟩ ?_
  rintro m s I2 Lx ⟨x,c,v2,l2,f,rfl,hI2,rfl,hx,hTL2,hT2,hf,hlen,hm⟩;have hl2:=hT2.len;obtain ⟨f,rfl⟩:∃k,f=k+1:=⟨f - 1,by omega⟩;rw [ZZ] at hm;refine AIR hTL2 hT2 hx (fun g y r hn hg hT3 hr3 I3 v3 c3 hI3 hTL3 hc3=>?_) (fun g hn e hg I3 v3 hI3=>?_) (fun hn=>?_)
  ·exact Gh.done ⟨r.length,by omega,y,c3,v3,r,f,rfl,Ext.trans hI2 hI3,rfl,hc3,hTL3,hT3,by omega,by omega,by rw [hm,hn];simp only [hg,Res.bind]⟩
  ·exact herr e (by rw [hm,hn];simp only [hg,Res.bind]) I3 v3 (Ext.trans hI2 hI3)
  ·exact Gh.done (hok x l2 (by rw [hm,hn]) hT2 hlen I2 v2 c hI2 hTL2 hx)
 repeat' (first|refine zqa ?_|refine zqh (fun _=>?_)|((with_reducible refine rd1 (v:=.int .i64 (hd l.tail).kind) ?_ ?_);exact (h2 _ [] (Ext.refl _) 0 _ rfl).mono (Ext.refl _) (fun _ h=>by cases h))|refine zqr ?_|refine zqb ?_|refine zqi ?_ ?_|refine zqc ?_|refine zqg (fun _=>?_) (fun _=>?_)|(simp only [SSd,Nat.reduceAdd,h1]))
 ·rename_i hk
  have hk:isK l.tail 1=true:=by simpa [isK] using hk
  refine AHa (fun bm=>?_);obtain ⟨es1,c1,e1,p1⟩:=MapS.empty.put [105,110,116] (.int .i64 1);obtain ⟨es2,c2,e2,p2⟩:=p1.put [105,110,116,101,103,101,114] (.int .i64 1);obtain ⟨es3,c3,e3,p3⟩:=p2.put [98,105,103,105,110,116] (.int .i64 1);obtain ⟨es4,c4,e4,p4⟩:=p3.put [98,111,111,108] (.int .i64 2);obtain ⟨es5,c5,e5,p5⟩:=p4.put [98,111,111,108,101,97,110] (.int .i64 2);obtain ⟨es6,c6,e6,p6⟩:=p5.put [116,101,120,116] (.int .i64 3);rw [AJj] at p6;refine Gh.done (PK (k:=[105,110,116]) MapS.empty e1 ?_);refine Gh.done (PK (k:=[105,110,116,101,103,101,114]) p1 e2 ?_);refine Gh.done (PK (k:=[98,105,103,105,110,116]) p2 e3 ?_);refine Gh.done (PK (k:=[98,111,111,108]) p3 e4 ?_);refine Gh.done (PK (k:=[98,111,111,108,101,97,110]) p4 e5 ?_);refine Gh.done (PK (k:=[116,101,120,116]) p5 e6 ?_);refine Gh.done ?_;refine rdb ?_;simp only [h1,SSd,Nat.reduceAdd];refine rd1 (v:=.string ⟨(hd l.tail).text.toArray⟩) ((h2 _ [] (Ext.refl _) 2 _ rfl).mono (Ext.refl _) (fun _ h=>by cases h)) ?_;refine lkm (k:=(hd l.tail).text) p6 ?_;have hty:(if isK l.tail 1 then typeOf (hd l.tail).text else 0)=typeOf (hd l.tail).text:=by rw [hk];rfl
  have hlk:lkV (.int .i64 0) false ((fun k=>(tyK k).map (.int .i64)) (hd l.tail).text)= .int .i64 (typeOf (hd l.tail).text):=by
   rw [ADP];show lkV _ _ (Option.map _ (tyK (hd l.tail).text))=_;cases tyK (hd l.tail).text <;> rfl
  simp only at hlk
  rw [hlk];repeat' (first|refine zqa ?_|refine zqh (fun _=>?_)|refine zqr ?_|refine zqb ?_|refine zqi ?_ ?_|refine zqc ?_|refine zqg (fun _=>?_) (fun _=>?_)|refine zqe ?_|fail)
  exact two [_] _ hty _
 ·rename_i hk
  have hk:isK l.tail 1=false:=by simpa [isK] using hk
  exact two [] 0 (by rw [hk];rfl) _
end
abbrev stZ:List Value:=[.int .i64 0,.bool false,.slice none 0 0,.slice none 0 0,.int .i64 0,.int .i64 0,.bool false,.int .i64 0,.string ⟨#[]⟩,.string ⟨#[]⟩,.string ⟨#[]⟩,.int .i64 0,.int .i64 0,.bool false,.slice none 0 0,.slice none 0 0,.int .i64 0,.int .i64 0,.bool false,.int .i64 0,.string ⟨#[]⟩,.string ⟨#[]⟩,.string ⟨#[]⟩,.int .i64 0,.int .i64 0,.bool false,.slice none 0 0,.slice none 0 0,.int .i64 0,.int .i64 0,.string ⟨#[]⟩,.slice none 0 0,.slice none 0 0,.slice none 0 0,.int .i64 0,.int .i64 0,.bool false,.int .i64 0,.string ⟨#[]⟩,.string ⟨#[]⟩,.string ⟨#[]⟩,.int .i64 0,.int .i64 0,.bool false,.slice none 0 0,.slice none 0 0,.slice none 0 0,.string ⟨#[]⟩,.string ⟨#[]⟩,.slice none 0 0,.bool false]
abbrev Yp (nm:Bs)(w wk:Value):List Value:=[.int .i64 5,.bool false,.slice none 0 0,.slice none 0 0,.int .i64 0,.int .i64 0,.bool false,.int .i64 0,.string ⟨#[]⟩,.string ⟨#[]⟩,.string ⟨#[]⟩,.int .i64 0,.int .i64 0,.bool false,.slice none 0 0,.slice none 0 0,.int .i64 0,.int .i64 0,.bool false,.int .i64 0,.string ⟨#[]⟩,.string ⟨#[]⟩,.string ⟨#[]⟩,.int .i64 0,.int .i64 0,.bool false,.slice none 0 0,.slice none 0 0,.int .i64 0,.int .i64 0,.string ⟨nm.toArray⟩,.slice none 0 0,.slice none 0 0,.slice none 0 0,.int .i64 0,.int .i64 0,.bool false,.int .i64 0,.string ⟨#[]⟩,.string ⟨#[]⟩,.string ⟨#[]⟩,.int .i64 0,.int .i64 0,.bool false,.slice none 0 0,w,wk,.string ⟨#[]⟩,.string ⟨#[]⟩,.slice none 0 0,.bool false]
def PR (w:Value)(n:Nat):Prop:=(n=0∧w= .slice none 0 0)∨(0 < n∧∃p k,w= .slice (some p) n k)
theorem SlO.nn {T n len:Nat}{X:LH}{v:Value}{cells:List Value}(h:SlO T n X v cells len)(h0:0 < len):PR v len:=by
 obtain ⟨_,h8⟩:=h;rcases h8 with ⟨_,h1,_⟩|⟨b8,k8,_,_,h8,_⟩
 ·omega
 ·exact .inr ⟨h0,_,_,h8⟩
theorem RL.nn {α:Type}{R:Imm→α→List Value→Prop}{n:Nat}{I:Imm}{v:Value}{xs:List α}(hn:0 < n)(h:RL R n I [] v xs)(h0:0 < xs.length):PR v xs.length:=by
 obtain ⟨cells,⟨_,a,cap,rfl,_,h⟩,_⟩:=RL.toI hn h;obtain ⟨b,off,cs,T,fr,ha,_⟩:=h (by omega);exact .inr ⟨h0,⟨b,off,none⟩,cap,by rw [ha]⟩
theorem ADZ {α:Type}{n:Nat}{g:Pr α}{l r:List Tok}{x:List α}(h:BV n g l= .ok x r):0 < x.length:=by
 have go:∀m (acc:List α) l x r,CV g m acc l= .ok x r→acc.length≤x.length:=by
  intro m;induction m with
  |zero=>intro acc l x r h;simp only [CV,Res.ok.injEq] at h;obtain ⟨rfl,_⟩:=h;exact Nat.le_refl _
  |succ m ih=>
   intro acc l x r h;simp only [CV] at h;split at h
   ·cases hg:g l.tail with
    |ok y r2=>rw [hg] at h;have:=ih _ _ _ _ h;simp at this;omega
    |err e=>rw [hg] at h;simp [Res.bind] at h
   ·simp only [Res.ok.injEq] at h;obtain ⟨rfl,_⟩:=h;exact Nat.le_refl _
 simp only [BV] at h;cases hg:g l with
 |ok y r2=>rw [hg] at h;have:=go _ _ _ _ _ h;simp at this;omega
 |err e=>rw [hg] at h;simp [Res.bind] at h
theorem ADL {α:Type}{n:Nat}{g:Pr α}{l r:List Tok}{x:List α}(h:Bi n g l= .ok x r):0 < x.length:=by
 simp only [Bi] at h;cases h1:AO [40] l with
 |err e=>rw [h1] at h;simp [Res.bind] at h
 |ok _ r1=>
  rw [h1] at h;simp only [Res.bind] at h;cases h2:BV n g r1 with
  |err e=>rw [h2] at h;simp at h
  |ok y r2=>
   rw [h2] at h;simp only at h;cases h3:AO [41] r2 with
   |err e=>rw [h3] at h;simp at h
   |ok _ r3=>rw [h3] at h;simp only [Res.ok.injEq] at h;obtain ⟨rfl,_⟩:=h;exact ADZ h2
def Vu (nm:Bs)(x:List TCol×List Bs)(r:List Tok):Res TStmt:=if x.1.isEmpty then bad r else (AO [41] r).bind fun _ r=>.ok {(default:TStmt) with fKind:=5,fTable:=nm,fCols:=x.1,fKey:=x.2} r
theorem ADU (n:Nat)(l:List Tok):OB n l=(Ar l).bind fun s r=>(AO [40] r).bind fun _ r=>(Ez n (n+1) [] [] r).bind (Vu s):=rfl
def Ll (n:Nat)(cs:List TCol)(ks:List Bs)(l:List Tok):Res (List TCol×List Bs):=
 if (ks.isEmpty&&isT l [112,114,105,109,97,114,121])=true then (AO [107,101,121] l.tail).bind fun _ r=>(Bi n Ar r).bind fun k r=>.ok (cs,k) r else (Ej n l).bind fun c r=>Res.ok (cs++[c],ks) r
theorem Qh (n m:Nat)(cs:List TCol)(ks:List Bs)(l:List Tok):Ez n (m+1) cs ks l=(Ll n cs ks l).bind fun x r=>if isT r [44] then Ez n m x.1 x.2 r.tail else .ok x r:=rfl
theorem AUF {I:Imm}{L:LH}{K:Value→M}{x:TCol}{c:List Value}(hc:TColV I x c)(hk:∀I' a,Ext I I'→RL TColV 16 I' [] (.slice a 1 1) [x]→Gh (K (.slice a 1 1)) I' L):
  AX 101 16 #[.string ⟨#[]⟩,.int .i64 0,.bool false,.bool false,.bool false,.int .i64 0,.int .i64 0,.bool false,.int .i64 0,.string ⟨#[]⟩,.string ⟨#[]⟩,.string ⟨#[]⟩,.int .i64 0,.int .i64 0,.bool false,.slice none 0 0] 1 [(0,.agg c.toArray)] (gh K) I L:=
 EP (R:=TColV) [x] [c] rfl rfl rfl (by simpa using hc.len) (by simpa using hc) (fun hI h=>TColV.mono h hI) hk
section
variable {ω:Om}{b:Nat}
theorem Ri (n:Nat)(hn0:n≤1000000000){I:Imm}{L:LH}{K Pn:Value→M}{C:Obj→LH}{v:Value}{l:List Tok}[hF:Foc b L (PBo v) C](h:TL I v l)(hT:Toks l)(hl:l.length≤n)
  (hok:∀x r,Bi n Ar l= .ok x r→Toks r→r.length≤l.length→∀I' v' a k,Ext I I'→TL I' v' r→StL I' (.slice (some a) x.length k) x→0 < x.length→K (.slice (some a) x.length k) I' (C (PBo v'))) (herr:PEr (Bi n Ar l) Pn C I):CalP Tryz.prog ω 97 #[AP b] K Pn I L:=
 Zy n hn0 h hT hl (fun x r hg hT' hr I' v' w hI hv' hw=>by
  have hpos:=ADL hg;rcases RL.nn (by decide) hw.1 hpos with ⟨h0,_⟩|⟨_,p,k,rfl⟩
  ·omega
  ·exact hok x r hg hT' hr I' v' p k hI hv' hw.1 hpos) herr
theorem ATv {I:Imm}{X L1 L2:LH}{Kn1:Unit→M}{K Pn:Value→M}{v w wk:Value}{l:List Tok}{b1 bs N0:Nat}{nm:Bs}{cs:List TCol}{ks:List Bs}{cells:List Value}(h:TL I v l)(hT:Toks l)(hN:l.length≤N0)
  (hX:SlO 101 16 X w cells cs.length) (hR:Recs (TColV I) 16 cs cells) (hw:PR w cs.length) (hk:StL I wk ks) (hkn:PR wk ks.length)
  (hnext:isT l [44]=true→∀v,TL I v l.tail→Gh (Kn1 ()) I (X++((bs,.cells (Yp nm w wk).toArray 48 (0,0))::(b1,.cells stZ.toArray 48 (0,0))::(L1++(b,PBo v)::L2))))
  (hok:isT l [44]=false→VOk TStmtV (Vu nm (cs,ks) l) N0 K (fun o=>L1++(b,o)::L2) I) (herr:isT l [44]=false→PEr (Vu nm (cs,ks) l) Pn (fun o=>L1++(b,o)::L2) I):
  NG ω (AP b) (AP b1) (AP bs) (fun s=>Gh (Kn1 s)) (fun v=>Gh (K v)) (fun v=>Gh (Pn v)) I (X++((bs,.cells (Yp nm w wk).toArray 48 (0,0))::(b1,.cells stZ.toArray 48 (0,0))::(L1++(b,PBo v)::L2))):=by
 unfold NG;refine Ak (CE [44] h hT (fun hb hT' hl' v' hv'=>?_) (fun hb=>?_))
 ·repeat' (first|refine zqa ?_|refine zqh (fun _=>?_)|refine zqr ?_|refine zqb ?_|refine zqi ?_ ?_|refine zqc ?_|refine zqg (fun _=>?_) (fun _=>?_)|refine zqe ?_|fail)
  exact hnext hb v' hv'
 have hok:=hok hb;have herr:=herr hb;have hl1:=hT.len;rcases hw with ⟨h0,rfl⟩|⟨h0,p,kc,rfl⟩
 ·have hcs:cs=[]:=List.eq_nil_of_length_eq_zero h0;subst hcs;repeat' (first|refine zqa ?_|refine zqh (fun _=>?_)|refine zqr ?_|refine zqb ?_|(with_reducible first|refine Be (sh157_5.eq_1 ..) ?_|refine And.intro ?_ ?_)|refine zqc ?_|refine zqg (fun _=>?_) (fun _=>?_)|refine zqe ?_|fail)
  refine AV (Ae h hT ?_);exact Gh.to (L1++(b,PBo v)::L2) (Gh.done (herr _ rfl I v (Ext.refl _)))
 ·have hce:cs.isEmpty=false:=by cases cs with
   |nil=>simp at h0
   |cons=>rfl
  obtain ⟨ak,kk,rfl⟩:=RL.form hk;repeat' (first|(with_reducible first|refine CB (b:=b) ?_|refine keepA ?_|refine Ad (fun _=>?_))|((with_reducible refine Ak ?_);with_reducible refine CE _ zT zA (fun hb hT' hl' v' hv'=>?_) (fun hb=>?_))|(with_reducible refine Bl _ zT zA (fun hb hT' hl' I' v' hI' hv'=>?_) (fun hb I' v' hI'=>?_))|((with_reducible refine AV ?_);with_reducible refine CU zT zA (fun hb hT' hl' v' hv'=>?_) (fun hb=>?_))|((with_reducible refine AV ?_);with_reducible refine Ae zT zA ?_)|(with_reducible first|refine Ce zC (fun I' a hI' hw'=>Gh.done ?_)|refine CS zC zC (fun I' a hI' hw'=>Gh.done ?_)|refine DF zC zC zC (fun I' a hI' hw'=>Gh.done ?_))|((with_reducible refine Ak ?_);with_reducible refine BK zC ?_)|refine zqr ?_|refine zqb ?_|(with_reducible first|refine Be (sh157_5.eq_1 ..) ?_|refine Be (sh157_6.eq_1 ..) ?_|refine And.intro ?_ ?_)|refine zqc ?_|refine zqg (fun hb=>?_) (fun hb=>?_)|refine zqe ?_|fail)
  ·refine Gh.to (X++(L1++(b,PBo v')::L2)) ?_;refine RL.ofO (R:=TColV) (fun {I I' x c} h hI=>TColV.mono h hI) hX (Recs.imp (fun _ _ h=>TColV.mono h zE) hR) (fun I3 hI3 hw=>Gh.done ?_);exact hok {(default:TStmt) with fKind:=5,fTable:=nm,fCols:=cs,fKey:=ks} _ (by simp [Vu,hce,AO,hb,Res.bind] <;> rfl) zA (by omega) I3 _ _ zE zT ⟨_,_,_,_,_,_,_,_,_,_,_,_,_,rfl,RL.nil none 0,RL.nil none 0,RL.nil none 0,RL.nil none 0,RL.nil none 0,RL.nil none 0,RL.nil none 0,RL.nil none 0,RL.nil none 0,RL.nil none 0,hw,(StL.mono hk zE),RL.nil none 0⟩
  ·exact Gh.to (L1++(b,PBo v')::L2) (Gh.done (herr _ (by simp [Vu,hce,AO,hb,Res.bind,bad]) I' v' zE))
theorem AFB (n:Nat)(hn0:n≤1000000000){I:Imm}{X L1 L2:LH}{Kn1:Unit→M}{K Pn:Value→M}{v w wk:Value}{l:List Tok}{b1 bs N0:Nat}{nm:Bs}{cs:List TCol}{ks:List Bs}{cells:List Value}(h:TL I v l)(hT:Toks l)(hl:l.length≤n)(hN:l.length≤N0)
  (hX:SlO 101 16 X w cells cs.length) (hR:Recs (TColV I) 16 cs cells) (hcs:cs.length≤1000000001) (hw:PR w cs.length) (hk:StL I wk ks) (hkn:PR wk ks.length)
  (hnext:∀cs' ks' r,Ll n cs ks l= .ok (cs',ks') r→isT r [44]=true→Toks r.tail→r.tail.length+1≤l.length→cs'.length≤cs.length+1→∀I' X v w wk cells,Ext I I'→TL I' v r.tail→SlO 101 16 X w cells cs'.length→Recs (TColV I') 16 cs' cells→PR w cs'.length→StL I' wk ks'→PR wk ks'.length→Gh (Kn1 ()) I' (X++((bs,.cells (Yp nm w wk).toArray 48 (0,0))::(b1,.cells stZ.toArray 48 (0,0))::(L1++(b,PBo v)::L2))))
  (hok:∀x r,Ll n cs ks l= .ok x r→isT r [44]=false→VOk TStmtV (Vu nm x r) N0 K (fun o=>L1++(b,o)::L2) I) (herr:PEr ((Ll n cs ks l).bind fun x r=>if isT r [44] then .ok default [] else Vu nm x r) Pn (fun o=>L1++(b,o)::L2) I):
  VL ω (AP b) (AP b1) (AP bs) (fun s=>Gh (Kn1 s)) (fun v=>Gh (K v)) (fun v=>Gh (Pn v)) I (X++((bs,.cells (Yp nm w wk).toArray 48 (0,0))::(b1,.cells stZ.toArray 48 (0,0))::(L1++(b,PBo v)::L2))):=by
 have hl1:=hT.len;unfold VL;have hcol:=AEd (ω:=ω) (b:=b) n;have ext:∀{I':Imm} {v' wk':Value} {l':List Tok} {ks':List Bs} {X':LH} {w':Value} {cells':List Value} {cs':List TCol},Ext I I'→TL I' v' l'→Toks l'→l'.length≤l.length→Ll n cs ks l= .ok (cs',ks') l'→cs'.length≤cs.length+1→SlO 101 16 X' w' cells' cs'.length→Recs (TColV I') 16 cs' cells'→PR w' cs'.length→StL I' wk' ks'→PR wk' ks'.length→
   NG ω (AP b) (AP b1) (AP bs) (fun s=>Gh (Kn1 s)) (fun v=>Gh (K v)) (fun v=>Gh (Pn v)) I' (X'++((bs,.cells (Yp nm w' wk').toArray 48 (0,0))::(b1,.cells stZ.toArray 48 (0,0))::(L1++(b,PBo v')::L2))):=by
  intro I' v' wk' l' ks' X' w' cells' cs' hI' hTL' hT' hl' hg hcl hX' hR' hw' hk' hkn';refine ATv (N0:=N0) hTL' hT' (by omega) hX' hR' hw' hk' hkn' (fun hb v2 hv2=>?_) (fun hb x r hx hTr hr I2 v2 c hI2 hv2 hc=>?_) (fun hb e hx I2 v2 hI2=>?_)
  ·exact hnext _ _ _ hg hb (hT'.tailT hb) (by have:=hT'.len;omega) hcl I' _ _ _ _ _ hI' hv2 hX' hR' hw' hk' hkn'
  ·exact hok _ _ hg hb x r hx hTr hr I2 v2 c (Ext.trans hI' hI2) hv2 hc
  ·exact herr e (by rw [hg];simp [Res.bind,hb,hx]) I2 v2 (Ext.trans hI' hI2)
 have col:ks.isEmpty=false∨isT l [112,114,105,109,97,114,121]=false→Px ω (AP b) (AP b1) (AP bs) (fun s=>Gh (Kn1 s)) (fun v=>Gh (K v)) (fun v=>Gh (Pn v)) I (X++((bs,.cells (Yp nm w wk).toArray 48 (0,0))::(b1,.cells stZ.toArray 48 (0,0))::(L1++(b,PBo v)::L2))):=by
  intro hcase;have hnx:Ll n cs ks l=(Ej n l).bind fun c r=>Res.ok (cs++[c],ks) r:=by
   rcases hcase with hc|hc <;> simp [Ll,hc]
  unfold Px;refine CB (b:=b) ?_;try refine zqe ?_
  refine Dt ?_;refine AV (hcol.go h hT hl (fun x r hg hT3 hr I3 v3 c hI3 hv3 hc=>?_) (fun e hg I3 v3 hI3=>Gh.to (L1++(b,PBo v3)::L2) (Gh.done (herr e (by rw [hnx];simp [Res.bind,hg]) I3 v3 hI3))));refine Bv hI3 ?_;refine AUF hc (fun I4 a4 hI4 hw4=>Gh.done ?_);refine Bv (Ext.trans hI3 hI4) ?_;obtain ⟨c4,s4,r4⟩:=RL.toI (by decide) hw4;refine DW (X:=X) rfl hX s4.news (r4.one_cells fun x c h=>TColV.one h) zL zL (fun X5 w5 hX5=>?_);have e5:cs.length+[x].length=(cs++[x]).length:=by simp
  rw [e5] at hX5;have hR5:=Recs.append (Recs.imp (R':=TColV I4) (fun _ _ h=>TColV.mono h (Ext.trans hI3 hI4)) hR) r4;have hn5:=SlO.nn hX5 (by simp);obtain ⟨a5,k5,rfl⟩:=hX5.form;repeat' (first|refine zqa ?_|refine zqh (fun _=>?_)|refine zqr ?_|refine zqb ?_|refine zqi ?_ ?_|refine zqc ?_|refine zqg (fun _=>?_) (fun _=>?_)|refine zqe ?_|fail)
  exact ext (Ext.trans hI3 hI4) (hv3.mono hI4) hT3 hr (by rw [hnx];simp [Res.bind,hg]) (by simp) hX5 hR5 hn5 (hk.mono (Ext.trans hI3 hI4)) hkn
 rcases hkn with ⟨h0,rfl⟩|⟨h0,p,kc,rfl⟩
 ·have hks:ks=[]:=List.eq_nil_of_length_eq_zero h0;subst hks;have hw3:=hw;rcases hw3 with ⟨_,hw3⟩|⟨_,pw,kw,hw3⟩ <;> subst hw3
  all_goals repeat' (first|(with_reducible first|refine CB (b:=b) ?_|refine keepA ?_|refine Ad (fun _=>?_))|((with_reducible refine AV ?_);with_reducible refine Ri n hn0 zT zA (by omega) (fun x r hg hT3 hr I' v' a' k' hI' hv' hw' hpos=>?_) (fun e hg I' v' hI'=>?_))|((with_reducible refine Ak ?_);with_reducible refine CE _ zT zA (fun hb hT' hl' v' hv'=>?_) (fun hb=>?_))|(with_reducible refine Bl _ zT zA (fun hb hT' hl' I' v' hI' hv'=>?_) (fun hb I' v' hI'=>?_))|((with_reducible refine AV ?_);with_reducible refine CU zT zA (fun hb hT' hl' v' hv'=>?_) (fun hb=>?_))|((with_reducible refine AV ?_);with_reducible refine Ae zT zA ?_)|(with_reducible first|refine Ce zC (fun I' a hI' hw'=>Gh.done ?_)|refine CS zC zC (fun I' a hI' hw'=>Gh.done ?_)|refine DF zC zC zC (fun I' a hI' hw'=>Gh.done ?_))|((with_reducible refine Ak ?_);with_reducible refine BK zC ?_)|refine zqr ?_|refine zqb ?_|(with_reducible first|refine Be (sh157_2.eq_1 ..) ?_|refine And.intro ?_ ?_)|refine zqc ?_|refine zqg (fun hb=>?_) (fun hb=>?_)|refine zqe ?_|fail)
  all_goals first
   |exact col (.inr zA)
   |exact ext (by first|exact Ext.refl _|exact zE) zT zA (by omega) (by simp [Ll,AO,Res.bind, *]) (by omega) hX (Recs.imp (fun _ _ h=>TColV.mono h zE) hR) hw hw' (.inr ⟨by assumption,_,_,rfl⟩)
   |exact Gh.to (L1++(b,PBo v')::L2) (Gh.done (herr _ (by simp [Ll,AO,Res.bind,bad, *] <;> rfl) _ _ zE))
 ·have hke:ks.isEmpty=false:=by cases ks with
   |nil=>simp at h0
   |cons=>rfl
  repeat' (first|refine zqa ?_|refine zqh (fun _=>?_)|refine zqr ?_|refine zqb ?_|refine zqi ?_ ?_|refine zqc ?_|refine zqg (fun _=>?_) (fun _=>?_)|refine zqe ?_|fail)
  exact col (.inl hke)
theorem AFA (n:Nat)(hn0:n≤1000000000):FnV ω n b 157 (OB n) TStmtV:=by
 intro K Pn I L C v l hF h hT hl hok herr;obtain ⟨L1,L2,rfl,rfl⟩:=hF.foc;rw [ADU] at hok herr;refine APy ?_;unfold AMU;refine Ad (fun b1=>?_);refine AV (CU h hT (fun hn hT1 hl1 v1 hv1=>?_) (fun hn=>Gh.to (L1++(b,PBo v)::L2) (Gh.done (herr (hd l).at' (by simp [Ar,Res.bind,bad,hn]) I v (Ext.refl _)))));try refine zqe ?_
 refine Ad (fun bs=>?_);repeat' (first|refine zqa ?_|refine zqh (fun _=>?_)|refine zqr ?_|refine zqb ?_|refine zqi ?_ ?_|refine zqc ?_|refine zqg (fun _=>?_) (fun _=>?_)|refine zqe ?_|fail)
 refine Bl [40] hv1 hT1 (fun hw hT2 hl2 I2 v2 hI2 hv2=>?_) (fun hw I2 v2 hI2=>Gh.to (L1++(b,PBo v2)::L2) (Gh.done (herr (hd l.tail).at' (by simp [Ar,Res.bind,bad,hn,AO,hw]) I2 v2 hI2)));have e:∀{x},x=((Ar l).bind fun s r=>(AO [40] r).bind fun _ r=>(Ez n (n+1) [] [] r).bind (Vu s))↔x=(Ez n (n+1) [] [] l.tail.tail).bind (Vu (hd l).text):=by
  intro x;simp [Ar,Res.bind,hn,AO,hw]
 have e:=e.1 rfl;rw [e] at hok herr;clear e;refine loop (fun m s I3 Lx=>∃X v l2 w wk cells cs ks f,l2.length=m∧Ext I I3∧Lx=X++((bs,.cells (Yp (hd l).text w wk).toArray 48 (0,0))::(b1,.cells stZ.toArray 48 (0,0))::(L1++(b,PBo v)::L2))∧TL I3 v l2∧Toks l2∧SlO 101 16 X w cells cs.length∧Recs (TColV I3) 16 cs cells∧PR w cs.length∧StL I3 wk ks∧PR wk ks.length∧l2.length≤f∧cs.length+l2.length≤l.length∧Ez n (n+1) [] [] l.tail.tail=Ez n f cs ks l2) l.tail.tail.length
  ⟨[],v2,l.tail.tail,.slice none 0 0,.slice none 0 0,[],[],[],n+1,rfl,hI2,rfl,hv2,hT2,SlO.none _ _,rfl,.inl ⟨rfl,rfl⟩,RL.nil none 0,.inl ⟨rfl,rfl⟩,by omega,by simp;omega,rfl⟩ ?_
 rintro m s I3 Lx ⟨X,v3,l2,w,wk,cells,cs,ks,f,rfl,hI3,rfl,hTL,hT3,hX,hR,hw3,hk,hkn,hf,hlen,hm⟩;have hl3:=hT3.len;obtain ⟨f,rfl⟩:∃k,f=k+1:=⟨f - 1,by omega⟩;rw [hm,Qh,GZ] at hok herr;rw [Qh n f cs ks l2] at hm;refine AFB n hn0 (N0:=l.length) hTL hT3 (by omega) (by omega) hX hR (by omega) hw3 hk hkn (fun cs' ks' r hg hb hTr hr hcl I4 X4 v4 w4 wk4 cells4 hI4 hv4 hX4 hR4 hw4 hk4 hkn4=>?_) (fun x r hg hb y q hy hTq hq I4 v4 c hI4 hv4 hc=>?_) (fun e hg I4 v4 hI4=>?_)
 ·exact Gh.done ⟨r.tail.length,by omega,X4,v4,r.tail,w4,wk4,cells4,cs',ks',f,rfl,Ext.trans hI3 hI4,rfl,hv4,hTr,hX4,hR4,hw4,hk4,hkn4,by omega,by omega,by rw [hm,hg];simp only [Res.bind,hb,if_true]⟩
 ·exact hok y q (by simp [hg,Res.bind,hb,hy]) hTq hq I4 v4 c (Ext.trans hI3 hI4) hv4 hc
 ·refine herr e ?_ I4 v4 (Ext.trans hI3 hI4);cases hx:Ll n cs ks l2 with
  |err e'=>rw [hx] at hg;simpa [Res.bind] using hg
  |ok x r=>
   rw [hx] at hg;cases hb:isT r [44] with
   |true=>simp [Res.bind,hb] at hg
   |false=>simpa [Res.bind,hb] using hg
end
section
variable {ω:Om}{b:Nat}
theorem AHF (n:Nat)(hn0:n≤1000000000)(hE:FnE ω n b 148 (eP n)){I:Imm}{L:LH}{K Pn:Value→M}{C:Obj→LH}{v:Value}{l:List Tok}[hF:Foc b L (PBo v) C](h:TL I v l)(hT:Toks l)(hl:l.length≤n)
  (hok:∀x r,Gt n l= .ok x r→Toks r→r.length≤l.length→∀I' v' a0 k0 a1 k1 a2 k2 a3 k3 a4 k4 a5 k5,Ext I I'→TL I' v' r→RL TItemV 14 I' [] (.slice a0 x.fItems.length k0) x.fItems→RL TSourceV 14 I' [] (.slice a1 x.fFrom.length k1) x.fFrom→ExL I' (.slice a2 x.fWhere.args.length k2) x.fWhere.args→RL ExV 11 I' [] (.slice a3 x.fGroup.length k3) x.fGroup→ExL I' (.slice a4 x.fHaving.args.length k4) x.fHaving.args→RL TOrderV 12 I' [] (.slice a5 x.fOrder.length k5) x.fOrder→K (.agg #[.bool x.fDistinct,.slice a0 x.fItems.length k0,.slice a1 x.fFrom.length k1,.int .i64 x.fWhere.kind,.int .i64 x.fWhere.value.fType,.bool x.fWhere.value.fNull,.int .i64 x.fWhere.value.fInt,.string ⟨x.fWhere.value.fText.toArray⟩,.string ⟨x.fWhere.table.toArray⟩,.string ⟨x.fWhere.name.toArray⟩,.int .i64 x.fWhere.slot,.int .i64 x.fWhere.type,.bool x.fWhere.distinct,.slice a2 x.fWhere.args.length k2,.slice a3 x.fGroup.length k3,.int .i64 x.fHaving.kind,.int .i64 x.fHaving.value.fType,.bool x.fHaving.value.fNull,.int .i64 x.fHaving.value.fInt,.string ⟨x.fHaving.value.fText.toArray⟩,.string ⟨x.fHaving.table.toArray⟩,.string ⟨x.fHaving.name.toArray⟩,.int .i64 x.fHaving.slot,.int .i64 x.fHaving.type,.bool x.fHaving.distinct,.slice a4 x.fHaving.args.length k4,.slice a5 x.fOrder.length k5,.int .i64 x.fLimit,.int .i64 x.fOffset]) I' (C (PBo v')))
  (herr:PEr (Gt n l) Pn C I):CalP Tryz.prog ω 94 #[AP b] K Pn I L:=by
 refine (AHG n hn0 hE).go h hT hl (fun x r hg hT' hr I' v' c hI' hv' hc=>?_) herr;obtain ⟨v0,v1,v2,v3,v4,v5,rfl,h0,h1,h2,h3,h4,h5⟩:=hc;obtain ⟨a0,k0,rfl⟩:=RL.form h0;obtain ⟨a1,k1,rfl⟩:=RL.form h1;obtain ⟨a2,k2,rfl⟩:=RL.form h2;obtain ⟨a3,k3,rfl⟩:=RL.form h3;obtain ⟨a4,k4,rfl⟩:=RL.form h4;obtain ⟨a5,k5,rfl⟩:=RL.form h5;exact hok x r hg hT' hr I' v' a0 k0 a1 k1 a2 k2 a3 k3 a4 k4 a5 k5 hI' hv' h0 h1 h2 h3 h4 h5
theorem row_one (n:Nat)(hn0:n≤1000000000)(hE:FnE ω n b 148 (eP n)){I:Imm}:OneP ω n b (Bi n (eP n)) (ATm ExV 11) (.func (.func 99) #[AP b] #[]) I:=by
 intro K Pn I' L C v l hF hI h hT hl hok herr;refine Np (by kernel_rfl) (XL n hn0 hE h hT hl (fun x r hg hT' hr I' v' w hI hv' hw=>hok x r hg hT' hr I' v' w hI hv' hw.1) herr)
theorem AEV (n:Nat)(hn0:n≤1000000000):FnV ω n b 103 (Ei n) TStmtV:=by
 intro K Pn I L C v l hF h hT hl hok herr;obtain ⟨L1,L2,rfl,rfl⟩:=hF.foc;have hTb:=AFA (ω:=ω) (b:=b) n hn0;refine AQk ?_;unfold AMz;have hl0:=hT.len;repeat' (first|(with_reducible first|refine CB (b:=b) ?_|refine keepA ?_|refine Ad (fun _=>?_))|((with_reducible refine AV ?_);with_reducible refine hTb.go zT zA (by omega) (fun x r hg hT3 hr I' v' c hI' hv' hc=>?_) (fun e hg I' v' hI'=>?_))|((with_reducible refine AV ?_);with_reducible refine Ri n hn0 zT zA (by omega) (fun x r hg hT3 hr I' v' a' k' hI' hv' hw' hpos=>?_) (fun e hg I' v' hI'=>?_))|((with_reducible refine stB ?_ ?_ ?_ ?_);exact TStmtV.len zA;rfl;exact TStmtV.one zA)|((with_reducible refine rdB ?_ ?_);exact TStmtV.len zA)|((with_reducible refine Ak ?_);with_reducible refine CE _ zT zA (fun hb hT' hl' v' hv'=>?_) (fun hb=>?_))|(with_reducible refine Bl _ zT zA (fun hb hT' hl' I' v' hI' hv'=>?_) (fun hb I' v' hI'=>?_))|((with_reducible refine AV ?_);with_reducible refine CU zT zA (fun hb hT' hl' v' hv'=>?_) (fun hb=>?_))|((with_reducible refine AV ?_);with_reducible refine Ae zT zA ?_)|(with_reducible first|refine Ce zC (fun I' a hI' hw'=>Gh.done ?_)|refine CS zC zC (fun I' a hI' hw'=>Gh.done ?_)|refine DF zC zC zC (fun I' a hI' hw'=>Gh.done ?_))|((with_reducible refine Ak ?_);with_reducible refine BK zC ?_)|refine zqr ?_|refine zqb ?_|refine zqi ?_ ?_|refine zqc ?_|refine zqg (fun hb=>?_) (fun hb=>?_)|refine zqe ?_|fail)
 all_goals first
  |exact Gh.to (L1++(b,PBo v')::L2) (Gh.done (herr _ (by simp [Ei,Ar,Res.bind,bad,AO, *] <;> rfl) _ _ zE))
  |exact Gh.to (L1++(b,PBo v')::L2) (Gh.done (hok x _ (by simp [Ei,Res.bind, *] <;> rfl) zA (by omega) _ _ _ zE zT zA))
  |exact Gh.to (L1++(b,PBo v')::L2) (Gh.done (hok {(default:TStmt) with fKind:=6,fIndex:=⟨(hd l.tail.tail).text,(hd l.tail.tail.tail.tail).text,x,true⟩} _ (by simp [Ei,Ar,AO,Res.bind, *] <;> rfl) zA (by omega) _ _ _ zE zT ⟨_,_,_,_,_,_,_,_,_,_,_,_,_,rfl,RL.nil none 0,RL.nil none 0,RL.nil none 0,RL.nil none 0,RL.nil none 0,RL.nil none 0,RL.nil none 0,RL.nil none 0,RL.nil none 0,RL.nil none 0,RL.nil none 0,RL.nil none 0,(StL.mono hw' zE)⟩))
  |exact Gh.to (L1++(b,PBo v')::L2) (Gh.done (hok {(default:TStmt) with fKind:=6,fIndex:=⟨(hd l.tail).text,(hd l.tail.tail.tail).text,x,false⟩} _ (by simp [Ei,Ar,AO,Res.bind, *] <;> rfl) zA (by omega) _ _ _ zE zT ⟨_,_,_,_,_,_,_,_,_,_,_,_,_,rfl,RL.nil none 0,RL.nil none 0,RL.nil none 0,RL.nil none 0,RL.nil none 0,RL.nil none 0,RL.nil none 0,RL.nil none 0,RL.nil none 0,RL.nil none 0,RL.nil none 0,RL.nil none 0,(StL.mono hw' zE)⟩))
theorem ADV (n:Nat)(hn0:n≤1000000000)(hE:FnE ω n b 148 (eP n)){I:Imm}{L:LH}{K Pn:Value→M}{C:Obj→LH}{v:Value}{l:List Tok}[hF:Foc b L (PBo v) C](h:TL I v l)(hT:Toks l)(hl:l.length≤n)
  (hok:VOk TStmtV (Dn n l) (l.length - 1) K C I) (herr:PEr (Dn n l) Pn C I):CalP Tryz.prog ω 44 #[AP b] K Pn I L:=by
 obtain ⟨L1,L2,rfl,rfl⟩:=hF.foc;have hCr:=AEV (ω:=ω) (b:=b) n hn0;refine ATJ ?_;unfold sh44;have hl0:=hT.len;repeat' (first|(with_reducible first|refine CB (b:=b) ?_|refine keepA ?_|refine Ad (fun _=>?_))|((with_reducible refine AV ?_);with_reducible refine AHF n hn0 hE zT zA (by omega) (fun x r hg hT3 hr I' v' a0 k0 a1 k1 a2 k2 a3 k3 a4 k4 a5 k5 hI' hv' h0 h1 h2 h3 h4 h5=>?_) (fun e hg I' v' hI'=>?_))|((with_reducible refine AV ?_);with_reducible refine hCr.go zT zA (by omega) (fun x r hg hT3 hr I' v' c hI' hv' hc=>?_) (fun e hg I' v' hI'=>?_))|((with_reducible refine AV ?_);with_reducible refine Ri n hn0 zT zA (by omega) (fun ns r1 hg1 hT4 hr1 I' v' a1 k1 hI' hv' hw1 hpos=>?_) (fun e hg I' v' hI'=>?_))|((with_reducible refine Ak ?_);with_reducible refine Jh _ zT zA (fun hb=>?_) (fun hb=>?_))|((with_reducible refine AV ?_);with_reducible refine ANu n hn0 (row_one n hn0 hE) zT zA (by omega) (NS (fun x r hg hT3 hr I' v' a' k' hI' hv' hw' hx'=>?_)) (fun e hg I' v' hI'=>?_))|((with_reducible refine AV ?_);with_reducible refine ANr n hn0 ((ANy n hE).one rfl) zT zA (by omega) (NS (fun ss r1 hg1 hT4 hr1 I' v' a1 k1 hI' hv' hw1 hx1=>?_)) (fun e hg I' v' hI'=>?_))|((with_reducible refine AV ?_);with_reducible refine MX n hE _ zT zA (by omega) (fun y r hg hT3 hr I' v' a' k' hI' hv' hw'=>?_) (fun e hg I' v' hI'=>?_))|((with_reducible refine stB ?_ ?_ ?_ ?_);exact TStmtV.len zA;rfl;exact TStmtV.one zA)|((with_reducible refine rdB ?_ ?_);exact TStmtV.len zA)|((with_reducible refine Ak ?_);with_reducible refine CE _ zT zA (fun hb hT' hl' v' hv'=>?_) (fun hb=>?_))|(with_reducible refine Bl _ zT zA (fun hb hT' hl' I' v' hI' hv'=>?_) (fun hb I' v' hI'=>?_))|((with_reducible refine AV ?_);with_reducible refine CU zT zA (fun hb hT' hl' v' hv'=>?_) (fun hb=>?_))|((with_reducible refine AV ?_);with_reducible refine Ae zT zA ?_)|(with_reducible first|refine Ce zC (fun I' a hI' hw'=>Gh.done ?_)|refine CS zC zC (fun I' a hI' hw'=>Gh.done ?_)|refine DF zC zC zC (fun I' a hI' hw'=>Gh.done ?_))|((with_reducible refine Ak ?_);with_reducible refine BK zC ?_)|refine zqr ?_|refine zqb ?_|(with_reducible first|refine Be (sh44_1.eq_1 ..) ?_|refine Be (sh44.eq_1 ..) ?_|refine And.intro ?_ ?_)|refine zqc ?_|refine zqg (fun hb=>?_) (fun hb=>?_)|refine zqe ?_|fail)
 all_goals first
  |exact Gh.to (L1++(b,PBo v')::L2) (Gh.done (herr _ (by simp [Dn,EE,ED,EF,Fv,Ar,AO,Res.bind,bad, *] <;> rfl) _ _ zE))
  |exact Gh.to (L1++(b,PBo v')::L2) (Gh.done (hok x _ (by simp [Dn,Res.bind, *] <;> rfl) zA (by omega) _ _ _ zE zT zA))
  |exact Gh.to (L1++(b,PBo v')::L2) (Gh.done (hok {(default:TStmt) with fKind:=1,fSelect:=x} _ (by simp [Dn,EE,ED,EF,Fv,Ar,AO,Res.bind, *] <;> rfl) zA (by omega) _ _ _ zE zT ⟨_,_,_,_,_,_,_,_,_,_,_,_,_,rfl,h0,h1,h2,h3,h4,h5,RL.nil none 0,RL.nil none 0,RL.nil none 0,RL.nil none 0,RL.nil none 0,RL.nil none 0,RL.nil none 0⟩))
  |exact Gh.to (L1++(b,PBo v')::L2) (Gh.done (hok {(default:TStmt) with fKind:=2,fTable:=(hd l.tail.tail).text,fColumns:=ns,fRows:=x} _ (by simp [Dn,EE,ED,EF,Fv,Ar,AO,Res.bind, *] <;> rfl) zA (by omega) _ _ _ zE zT ⟨_,_,_,_,_,_,_,_,_,_,_,_,_,rfl,RL.nil none 0,RL.nil none 0,RL.nil none 0,RL.nil none 0,RL.nil none 0,RL.nil none 0,(StL.mono hw1 zE),hw',RL.nil none 0,RL.nil none 0,RL.nil none 0,RL.nil none 0,RL.nil none 0⟩))
  |exact Gh.to (L1++(b,PBo v')::L2) (Gh.done (hok {(default:TStmt) with fKind:=2,fTable:=(hd l.tail.tail).text,fColumns:=[],fRows:=x} _ (by simp [Dn,EE,ED,EF,Fv,Ar,AO,Res.bind, *] <;> rfl) zA (by omega) _ _ _ zE zT ⟨_,_,_,_,_,_,_,_,_,_,_,_,_,rfl,RL.nil none 0,RL.nil none 0,RL.nil none 0,RL.nil none 0,RL.nil none 0,RL.nil none 0,RL.nil none 0,hw',RL.nil none 0,RL.nil none 0,RL.nil none 0,RL.nil none 0,RL.nil none 0⟩))
  |exact Gh.to (L1++(b,PBo v')::L2) (Gh.done (hok {(default:TStmt) with fKind:=3,fTable:=(hd l.tail).text,fSets:=ss,fWhere:=y} _ (by simp [Dn,EE,ED,EF,Fv,Ar,AO,Res.bind, *] <;> rfl) zA (by omega) _ _ _ zE zT ⟨_,_,_,_,_,_,_,_,_,_,_,_,_,rfl,RL.nil none 0,RL.nil none 0,RL.nil none 0,RL.nil none 0,RL.nil none 0,RL.nil none 0,RL.nil none 0,RL.nil none 0,(RL.mono (fun _ _ h=>TSetV.mono h zE) hw1 zE (fun _ h=>by cases h)),zC,RL.nil none 0,RL.nil none 0,RL.nil none 0⟩))
  |exact Gh.to (L1++(b,PBo v')::L2) (Gh.done (hok {(default:TStmt) with fKind:=4,fTable:=(hd l.tail.tail).text,fWhere:=y} _ (by simp [Dn,EE,ED,EF,Fv,Ar,AO,Res.bind, *] <;> rfl) zA (by omega) _ _ _ zE zT ⟨_,_,_,_,_,_,_,_,_,_,_,_,_,rfl,RL.nil none 0,RL.nil none 0,RL.nil none 0,RL.nil none 0,RL.nil none 0,RL.nil none 0,RL.nil none 0,RL.nil none 0,RL.nil none 0,zC,RL.nil none 0,RL.nil none 0,RL.nil none 0⟩))
  |exact Gh.to (L1++(b,PBo v')::L2) (Gh.done (hok {(default:TStmt) with fKind:=7,fTable:=(hd l.tail.tail).text} _ (by simp [Dn,EE,ED,EF,Fv,Ar,AO,Res.bind, *] <;> rfl) zA (by omega) _ _ _ zE zT ⟨_,_,_,_,_,_,_,_,_,_,_,_,_,rfl,RL.nil none 0,RL.nil none 0,RL.nil none 0,RL.nil none 0,RL.nil none 0,RL.nil none 0,RL.nil none 0,RL.nil none 0,RL.nil none 0,RL.nil none 0,RL.nil none 0,RL.nil none 0,RL.nil none 0⟩))
  |exact Gh.to (L1++(b,PBo v')::L2) (Gh.done (hok {(default:TStmt) with fKind:=8,fIndex:=⟨(hd l.tail.tail).text,[],[],false⟩} _ (by simp [Dn,EE,ED,EF,Fv,Ar,AO,Res.bind, *] <;> rfl) zA (by omega) _ _ _ zE zT ⟨_,_,_,_,_,_,_,_,_,_,_,_,_,rfl,RL.nil none 0,RL.nil none 0,RL.nil none 0,RL.nil none 0,RL.nil none 0,RL.nil none 0,RL.nil none 0,RL.nil none 0,RL.nil none 0,RL.nil none 0,RL.nil none 0,RL.nil none 0,RL.nil none 0⟩))
  |exact Gh.to (L1++(b,PBo v')::L2) (Gh.done (hok {(default:TStmt) with fKind:=9} _ (by simp [Dn,EE,ED,EF,Fv,Ar,AO,Res.bind, *] <;> rfl) zA (by omega) _ _ _ zE zT ⟨_,_,_,_,_,_,_,_,_,_,_,_,_,rfl,RL.nil none 0,RL.nil none 0,RL.nil none 0,RL.nil none 0,RL.nil none 0,RL.nil none 0,RL.nil none 0,RL.nil none 0,RL.nil none 0,RL.nil none 0,RL.nil none 0,RL.nil none 0,RL.nil none 0⟩))
  |exact Gh.to (L1++(b,PBo v')::L2) (Gh.done (hok {(default:TStmt) with fKind:=10} _ (by simp [Dn,EE,ED,EF,Fv,Ar,AO,Res.bind, *] <;> rfl) zA (by omega) _ _ _ zE zT ⟨_,_,_,_,_,_,_,_,_,_,_,_,_,rfl,RL.nil none 0,RL.nil none 0,RL.nil none 0,RL.nil none 0,RL.nil none 0,RL.nil none 0,RL.nil none 0,RL.nil none 0,RL.nil none 0,RL.nil none 0,RL.nil none 0,RL.nil none 0,RL.nil none 0⟩))
  |exact Gh.to (L1++(b,PBo v')::L2) (Gh.done (hok {(default:TStmt) with fKind:=11} _ (by simp [Dn,EE,ED,EF,Fv,Ar,AO,Res.bind, *] <;> rfl) zA (by omega) _ _ _ zE zT ⟨_,_,_,_,_,_,_,_,_,_,_,_,_,rfl,RL.nil none 0,RL.nil none 0,RL.nil none 0,RL.nil none 0,RL.nil none 0,RL.nil none 0,RL.nil none 0,RL.nil none 0,RL.nil none 0,RL.nil none 0,RL.nil none 0,RL.nil none 0,RL.nil none 0⟩))
end
def WH (ω:Om)(G:Imm):Prop:=∀(s:Bs) (K:Value→M) (I:Imm) (L:LH),Ext G I→s.length≤900000000→
 (∀l,Rt s= .toks l→Toks l→l.length≤s.length+1→∀I' v,Ext I I'→TL I' v l→K (.tuple #[v,.agg #[.int .i64 0,.int .i64 0]]) I' L)→
 (∀f,Rt s= .bad f→f.code≠0→∀I' a m k,Ext I I'→K (.tuple #[.slice a m k,.agg #[.int .i64 f.code,.int .i64 f.at']]) I' L)→CT ω 41 #[.string ⟨s.toArray⟩] K I L
theorem AUE {I:Imm}{L:LH}{K:Value→M}{x:TStmt}{c:List Value}(hc:TStmtV I x c)(hk:∀I' a,Ext I I'→RL TStmtV 51 I' [] (.slice a 1 1) [x]→Gh (K (.slice a 1 1)) I' L):
  AX 48 51 #[.int .i64 0,.bool false,.slice none 0 0,.slice none 0 0,.int .i64 0,.int .i64 0,.bool false,.int .i64 0,.string ⟨#[]⟩,.string ⟨#[]⟩,.string ⟨#[]⟩,.int .i64 0,.int .i64 0,.bool false,.slice none 0 0,.slice none 0 0,.int .i64 0,.int .i64 0,.bool false,.int .i64 0,.string ⟨#[]⟩,.string ⟨#[]⟩,.string ⟨#[]⟩,.int .i64 0,.int .i64 0,.bool false,.slice none 0 0,.slice none 0 0,.int .i64 0,.int .i64 0,.string ⟨#[]⟩,.slice none 0 0,.slice none 0 0,.slice none 0 0,.int .i64 0,.int .i64 0,.bool false,.int .i64 0,.string ⟨#[]⟩,.string ⟨#[]⟩,.string ⟨#[]⟩,.int .i64 0,.int .i64 0,.bool false,.slice none 0 0,.slice none 0 0,.slice none 0 0,.string ⟨#[]⟩,.string ⟨#[]⟩,.slice none 0 0,.bool false] 1 [(0,.agg c.toArray)] (gh K) I L:=
 EP (R:=TStmtV) [x] [c] rfl rfl rfl (by simpa using hc.len) (by simpa using hc) (fun hI h=>TStmtV.mono h hI) hk
theorem Wn (n m:Nat)(acc:List TStmt)(l:List Tok):Bz n (m+1) acc l=if isK l 6 then .ok acc l else if isT l [59] then Bz n m acc l.tail else
  (Dn n l).bind fun s r=>if isK r 6||isT r [59] then Bz n m (acc++[s]) r else Go.Proofs.YtkifgfanjcfedaaGreatDoor.bad r:=rfl
section
variable {ω:Om}
theorem AKa {I:Imm}{L1 L2:LH}{bo bf:Nat}{K:Value→M}{e:Nat}{w c a:Value}(hk:K (.tuple #[]) I (L1++((bf,.cells #[.int .i64 174,.int .i64 e] 26 (0,0))::(bo,.cells #[.slice none 0 0] 23 (0,0))::L2))):
  CalDR Tryz.prog ω 42 #[AP bo,AP bf] (GG e) K I (L1++((bf,.cells #[c,a] 26 (0,0))::(bo,.cells #[w] 23 (0,0))::L2)):=by
 refine AOs ?_;unfold sh42;have e1:PD true .neq (GG e) .nilIface=some (.bool true):=rfl;have e2:YY 87 (.agg #[.int .i64 0]) (GG e)=some (.tuple #[.agg #[.int .i64 e],.bool true]):=rfl;simp only [e1,e2,SSd,Nat.reduceAdd];refine Ad (fun b1=>?_);repeat' (first|refine zqa ?_|refine zqh (fun _=>?_)|refine zqr ?_|refine zqb ?_|(with_reducible first|refine Be (sh42_1.eq_1 ..) ?_|refine Be (sh42.eq_1 ..) ?_|refine And.intro ?_ ?_)|refine zqc ?_|refine zqg (fun _=>?_) (fun _=>?_)|(simp only [SSd,Nat.reduceAdd,JK]))
 exact Gh.to _ (Gh.done hk)
theorem AOH {I:Imm}{L:LH}{bo bf:Nat}{K:Value→M}(hk:K (.tuple #[]) I L):CalD Tryz.prog ω 42 #[AP bo,AP bf] K I L:=by
 refine AOt ?_;unfold sh42;have e1:PD true .neq .nilIface .nilIface=some (.bool false):=rfl;simp only [e1,SSd,Nat.reduceAdd];exact Gh.done hk
set_option maxHeartbeats 1000000 in
theorem UJ {G:Imm}(hTok:WH ω G)(s:Bs)(hs:s.length≤900000000){I:Imm}{L:LH}{K:Value→M}(hG:Ext G I)
  (hok:∀I' a k,Ext I I'→RL TStmtV 51 I' [] (.slice a (readA s).1.length k) (readA s).1→K (.tuple #[.slice a (readA s).1.length k,.agg #[.int .i64 (readA s).2.code,.int .i64 (readA s).2.at']]) I' L):
  CT ω 25 #[.string ⟨s.toArray⟩] K I L:=by
 refine ATS ?_;unfold ARx;refine Ad (fun bo=>?_);refine Ad (fun bf=>?_);refine Ak (hTok s _ _ _ hG hs (fun l hlx hT hlen I1 v1 hI1 hv1=>?_) (fun f hlx hf I1 a m k hI1=>?_))
 ·have hrd:readA s=match Bz l.length (l.length+1) [] l with
    | .ok x _=>(x,ok0)
    | .err a=>([],⟨174,a⟩):=by
   simp only [readA,hlx];cases Bz l.length (l.length+1) [] l <;> rfl
  obtain ⟨a,k,rfl⟩:=RL.form hv1;repeat' (first|refine zqa ?_|refine zqh (fun _=>?_)|refine zqr ?_|refine zqb ?_|refine zqi ?_ ?_|refine zqc ?_|refine zqg (fun _=>?_) (fun _=>?_)|refine zqe ?_|fail)
  rename_i bp
  have bad:∀(e:Nat) {I2:Imm} {X:LH} {vp w c d:Value},Ext I1 I2→Bz l.length (l.length+1) [] l= .err e→CalDR Tryz.prog ω 42 #[AP bo,AP bf] (GG e) (gh fun _=>Rv none (Ap (AP bo)) fun v25=>Rv none (AC 2 (AP bf)) fun v26=>Gh (K (.tuple #[v25,v26]))) I2 (X++((bp,PBo vp)::((bf,.cells #[c,d] 26 (0,0))::(bo,.cells #[w] 23 (0,0))::L))):=by
   intro e I2 X vp w c d hI2 hg;rw [hg] at hrd;have:=AKa (ω:=ω) (L1:=X++[(bp,PBo vp)]) (L2:=L) (bo:=bo) (bf:=bf) (e:=e) (w:=w) (c:=c) (a:=d) (I:=I2) (K:=gh fun _=>Rv none (Ap (AP bo)) fun v25=>Rv none (AC 2 (AP bf)) fun v26=>Gh (K (.tuple #[v25,v26])));simp only [List.append_assoc,List.singleton_append] at this;refine this (Gh.done ?_);refine rdb ?_;refine rdB rfl ?_;refine Gh.to L (Gh.done ?_);rw [hrd] at hok;exact hok I2 none 0 (Ext.trans hI1 hI2) (RL.nil none 0)
  refine loop (fun m s I2 Lx=>∃X v l2 w cells xs f,l2.length=m∧Ext I1 I2∧Lx=X++((bp,PBo v)::((bf,.cells #[.int .i64 0,.int .i64 0] 26 (0,0))::(bo,.cells #[w] 23 (0,0))::L))∧TL I2 v l2∧Toks l2∧SlO 48 51 X w cells xs.length∧Recs (TStmtV I2) 51 xs cells∧l2.length≤f∧xs.length+l2.length≤l.length∧Bz l.length (l.length+1) [] l=Bz l.length f xs l2) l.length
   ⟨[],_,l,.slice none 0 0,[],[],l.length+1,rfl,Ext.refl _,rfl,hv1,hT,SlO.none _ _,rfl,by omega,by simp,rfl⟩ ?_
  rintro m s I2 Lx ⟨X,v2,l2,w,cells,xs,f,rfl,hI2,rfl,hTL,hT2,hX,hR,hf,hlen2,hm⟩;have hl2:=hT2.len;obtain ⟨f,rfl⟩:∃q,f=q+1:=⟨f - 1,by omega⟩;obtain ⟨aw,kw,rfl⟩:=hX.form;unfold AFz;obtain ⟨bt,off,h1,h2⟩:=hTL.hd hT2;have step:∀{I3:Imm} {X:LH} {v3 w3:Value} {cells3:List Value} {xs3:List TStmt} {l3:List Tok} {f3:Nat},Ext I2 I3→TL I3 v3 l3→Toks l3→l3.length < l2.length→SlO 48 51 X w3 cells3 xs3.length→Recs (TStmtV I3) 51 xs3 cells3→l3.length≤f3→xs3.length+l3.length≤l.length→Bz l.length (l.length+1) [] l=Bz l.length f3 xs3 l3→
    Gh (fun I2 L'=>∃m',m' < l2.length∧∃X v l2 w cells xs f,l2.length=m'∧Ext I1 I2∧L'=X++((bp,PBo v)::((bf,.cells #[.int .i64 0,.int .i64 0] 26 (0,0))::(bo,.cells #[w] 23 (0,0))::L))∧TL I2 v l2∧Toks l2∧SlO 48 51 X w cells xs.length∧Recs (TStmtV I2) 51 xs cells∧l2.length≤f∧xs.length+l2.length≤l.length∧Bz l.length (l.length+1) [] l=Bz l.length f xs l2) I3 (X++((bp,PBo v3)::((bf,.cells #[.int .i64 0,.int .i64 0] 26 (0,0))::(bo,.cells #[w3] 23 (0,0))::L))):=
   fun {I3 X v3 w3 cells3 xs3 l3 f3} hI3 hv3 hT3 hlt hX3 hR3 hf3 hs3 hm3=>Gh.done ⟨l3.length,hlt,X,v3,l3,w3,cells3,xs3,f3,rfl,Ext.trans hI2 hI3,rfl,hv3,hT3,hX3,hR3,hf3,hs3,hm3⟩
  rw [Wn l.length f xs l2] at hm;repeat' (first|refine zqa ?_|refine zqh (fun _=>?_)|((with_reducible refine rd1 (v:=.int .i64 (hd l2).kind) ?_ ?_);exact (h2 _ [] (Ext.refl _) 0 _ rfl).mono (Ext.refl _) (fun _ h=>by cases h))|refine zqr ?_|refine zqb ?_|refine zqi ?_ ?_|refine zqc ?_|refine zqg (fun _=>?_) (fun _=>?_)|(simp only [SSd,Nat.reduceAdd,h1]))
  ·rename_i hk
   have hk:isK l2 6=false:=by simpa [isK] using hk
   refine Ak (CE [59] hTL hT2 (fun hb hT3 hl3 v3 hv3=>?_) (fun hb=>?_))
   ·repeat' (first|refine zqa ?_|refine zqh (fun _=>?_)|refine zqr ?_|refine zqb ?_|refine zqi ?_ ?_|refine zqc ?_|refine zqg (fun _=>?_) (fun _=>?_)|refine zqe ?_|fail)
    exact step (f3:=f) (Ext.refl _) hv3 hT3 (by omega) hX hR (by omega) (by omega) (by rw [hm];simp [hk,hb])
   try refine zqe ?_
   refine CB (b:=bp) ?_;refine Dt ?_;refine AV (ADV l.length (by omega) (exprs ω bp l.length (by omega)).1 hTL hT2 (by omega) (fun y r hg hTr hr I3 v3 c hI3 hv3 hc=>?_) (fun e hg I3 v3 hI3=>bad e (Ext.trans hI2 hI3) (by rw [hm];simp [hk,hb,hg,Res.bind])));refine Bv hI3 ?_;refine AUE hc (fun I4 a4 hI4 hw4=>Gh.done ?_);refine Bv (Ext.trans hI3 hI4) ?_;obtain ⟨c4,s4,r4⟩:=RL.toI (by decide) hw4;refine DW (X:=X) rfl hX s4.news (r4.one_cells fun x c h=>TStmtV.one h) zL zL (fun X5 w5 hX5=>?_);have e5:xs.length+[y].length=(xs++[y]).length:=by simp
   rw [e5] at hX5;have hR5:=Recs.append (Recs.imp (R':=TStmtV I4) (fun _ _ h=>TStmtV.mono h (Ext.trans hI3 hI4)) hR) r4;obtain ⟨a5,k5,rfl⟩:=hX5.form;have hv4:=hv3.mono hI4;obtain ⟨bt4,off4,h14,h24⟩:=hv4.hd hTr;have next:isK r 6=true∨isT r [59]=true→_:=fun hc=>step (l3:=r) (f3:=f) (xs3:=xs++[y]) (Ext.trans hI3 hI4) hv4 hTr (by omega) hX5 hR5 (by omega) (by simp;omega) (by rw [hm];simp [hk,hb,hg,Res.bind];intro h1 h2;rw [h1,h2] at hc;simp at hc);repeat' (first|refine zqa ?_|refine zqh (fun _=>?_)|((with_reducible refine rd1 (v:=.int .i64 (hd r).kind) ?_ ?_);exact (h24 _ [] (Ext.refl _) 0 _ rfl).mono (Ext.refl _) (fun _ h=>by cases h))|((with_reducible refine Ak ?_);with_reducible refine Jh _ hv4 hTr (fun hb2=>?_) (fun hb2=>?_))|refine zqr ?_|refine zqb ?_|refine zqi ?_ ?_|refine zqc ?_|refine zqg (fun _=>?_) (fun _=>?_)|(simp only [SSd,Nat.reduceAdd,h14]))
   ·exact next (.inr hb2)
   ·rename_i hk6
    have hk6:isK r 6=false:=by simpa [isK] using hk6
    unfold AFy;exact AV (Ae hv4 hTr (bad _ (Ext.trans hI2 (Ext.trans hI3 hI4)) (by rw [hm];simp [hk,hb,hg,Res.bind,hk6,hb2];rfl)))
   ·rename_i hk6
    exact next (.inl (by simpa [isK] using hk6))
  ·rename_i hk
   have hk:isK l2 6=true:=by simpa [isK] using hk
   have hm:Bz l.length (l.length+1) [] l= .ok xs l2:=by rw [hm];simp [hk]
   rw [hm] at hrd;unfold AFx;repeat' (first|refine zqa ?_|refine zqh (fun _=>?_)|refine zqr ?_|refine zqb ?_|refine zqi ?_ ?_|refine zqc ?_|refine zqg (fun _=>?_) (fun _=>?_)|refine zqe ?_|fail)
   refine AOH (Gh.done ?_);refine rdb ?_;refine rdB rfl ?_;refine Gh.to (X++L) ?_;refine RL.ofO (R:=TStmtV) (fun {I I' x c} h hI=>TStmtV.mono h hI) hX hR (fun I3 hI3 hw=>Gh.done ?_);rw [hrd] at hok;exact hok I3 _ _ (Ext.trans hI1 (Ext.trans hI2 hI3)) hw
 ·have hrd:readA s=([],f):=by simp only [readA,hlx]
  rw [hrd] at hok;repeat' (first|refine zqa ?_|refine zqh (fun _=>?_)|refine zqr ?_|refine zqb ?_|refine zqi ?_ ?_|refine zqc ?_|refine zqg (fun _=>?_) (fun _=>?_)|refine zqe ?_|fail)
  ·exact Gh.to L (Gh.done (hok I1 none 0 hI1 (RL.nil none 0)))
  ·rename_i hz _
   exact absurd (by simpa using hz) hf
end
end Go.Proofs.YtkifgfanjcfedaaGreatDoor
