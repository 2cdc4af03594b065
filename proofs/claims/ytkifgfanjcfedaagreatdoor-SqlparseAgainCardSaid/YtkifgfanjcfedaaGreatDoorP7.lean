/- lemmas -/
import Derived.Test.YtkifgfanjcfedaaGreatDoorP6
set_option maxRecDepth 100000
set_option maxHeartbeats 4000000
set_option linter.unusedVariables false
set_option linter.unusedSimpArgs false
set_option linter.unusedSectionVars false
namespace Go.Proofs.YtkifgfanjcfedaaGreatDoor
open Go.SL
abbrev VOk {α:Type}(R:Imm→α→List Value→Prop)(g:Res α)(n:Nat)(K:Value→M)(C:Obj→LH)(I:Imm):Prop:=
 ∀x r,g= .ok x r→Toks r→r.length≤n→∀I' v' c,Ext I I'→TL I' v' r→R I' x c→K (.agg c.toArray) I' (C (PBo v'))
def FnV {α:Type}(ω:Om)(n b f:Nat)(g:Pr α)(R:Imm→α→List Value→Prop):Prop:=
 ∀(K Pn:Value→M) (I:Imm) (L:LH) (C:Obj→LH) (v:Value) (l:List Tok),Foc b L (PBo v) C→TL I v l→Toks l→l.length≤n→VOk R (g l) l.length K C I→PEr (g l) Pn C I→CalP Tryz.prog ω f #[AP b] K Pn I L
theorem FnV.go {α:Type}{ω:Om}{n b f:Nat}{g:Pr α}{R:Imm→α→List Value→Prop}(h:FnV ω n b f g R){I:Imm}{L:LH}{K Pn:Value→M}{C:Obj→LH}{v:Value}{l:List Tok}[hF:Foc b L (PBo v) C](hv:TL I v l)(hT:Toks l)(hl:l.length≤n)(hok:VOk R (g l) l.length K C I)(herr:PEr (g l) Pn C I):
  CalP Tryz.prog ω f #[AP b] K Pn I L:=h K Pn I L C v l hF hv hT hl hok herr
theorem FnV.one {α:Type}{ω:Om}{n b f:Nat}{g:Pr α}{R:Imm→α→List Value→Prop}{I0:Imm}(h:FnV ω n b f g R)(he:CX Tryz.prog f=true):OneP ω n b g (Zv R) (.func (.func f) #[AP b] #[]) I0:=by
 intro K Pn I L C v l hF hI hv hT hl hok herr;exact OI he (h K Pn I L C v l hF hv hT hl (λx r hg hT' hr I' v' c hI' hv' hc=>hok x r hg hT' hr I' v' _ hI' hv' ⟨c,rfl,hc⟩) herr)
section
variable {ω:Om}{b:Nat}
theorem APu (n:Nat)(hE:FnE ω n b 148 (eP n)):FnV ω n b 101 (Nj n) TSetV:=by
 intro K Pn I L C v l hF h hT hl hok herr;obtain ⟨L1,L2,rfl,rfl⟩:=hF.foc;refine ATE ?_;unfold AOu;repeat' (first|(with_reducible first|refine CU (b:=b) ?_|refine keepA ?_|refine Ac (λ_=>?_))|((with_reducible refine AX ?_);with_reducible refine hE.go zT zA (by omega) (λy r' hg hT2 hr2 I' v' a' k' hI' hv' hw'=>?_) (λe hg I' v' hI'=>?_))|((with_reducible refine Aj ?_);with_reducible refine CV _ zT zA (λhb hT' hl' v' hv'=>?_) (λhb=>?_))|(with_reducible refine CJ _ zT zA (λhb hT' hl' I' v' hI' hv'=>?_) (λhb I' v' hI'=>?_))|((with_reducible refine AX ?_);with_reducible refine DF zT zA (λhb hT' hl' v' hv'=>?_) (λhb=>?_))|((with_reducible refine AX ?_);with_reducible refine Ad zT zA ?_)|(with_reducible first|refine DT zC (λI' a hI' hw'=>zAA ?_)|refine Cm zC zC (λI' a hI' hw'=>zAA ?_)|refine Dn zC zC zC (λI' a hI' hw'=>zAA ?_))|((with_reducible refine Aj ?_);with_reducible refine BK zC ?_)|refine zqr ?_|refine zqb ?_|refine zqi ?_ ?_|refine zqc ?_|refine zqg (λhb=>?_) (λhb=>?_)|refine zqe ?_|fail)
 all_goals first
  |exact zAE (L1++(b,PBo v')::L2) (zAA (herr _ (by simp [Nj,Ae,Res.bind,bad,AL, *] <;> rfl) _ _ zE))
  |exact zAE (L1++(b,PBo v)::L2) (zAA (herr _ (by simp [Nj,Ae,Res.bind,bad,AL, *] <;> rfl) _ _ zE))
  |exact zAE (L1++(b,PBo v')::L2) (zAA (hok ⟨(hd l).text,y⟩ _ (by simp [Nj,Ae,AL,Res.bind, *] <;> rfl) zA (by omega) _ _ _ zE zT ⟨_,rfl,zC⟩))
theorem NK (n:Nat)(hE:FnE ω n b 148 (eP n))(s:Bs){I:Imm}{L:LH}{K Pn:Value→M}{C:Obj→LH}{v:Value}{l:List Tok}[hF:Foc b L (PBo v) C](h:TL I v l)(hT:Toks l)(hl:l.length≤n)
  (hok:∀x r,Dq n s l= .ok x r→Toks r→r.length≤l.length→∀I' v' a k,Ext I I'→TL I' v' r→ExL I' (.slice a x.args.length k) x.args→K (.agg (Ak x (.slice a x.args.length k)).toArray) I' (C (PBo v'))) (herr:PEr (Dq n s l) Pn C I):
  CalP Tryz.prog ω 102 #[AP b,.string ⟨s.toArray⟩] K Pn I L:=by
 obtain ⟨L1,L2,rfl,rfl⟩:=hF.foc;refine ATD ?_;unfold AOt;repeat' (first|(with_reducible first|refine CU (b:=b) ?_|refine keepA ?_|refine Ac (λ_=>?_))|((with_reducible refine AX ?_);with_reducible refine hE.go zT zA (by omega) (λy r' hg hT2 hr2 I' v' a' k' hI' hv' hw'=>?_) (λe hg I' v' hI'=>?_))|((with_reducible refine Aj ?_);with_reducible refine CV _ zT zA (λhb hT' hl' v' hv'=>?_) (λhb=>?_))|(with_reducible refine CJ _ zT zA (λhb hT' hl' I' v' hI' hv'=>?_) (λhb I' v' hI'=>?_))|((with_reducible refine AX ?_);with_reducible refine DF zT zA (λhb hT' hl' v' hv'=>?_) (λhb=>?_))|((with_reducible refine AX ?_);with_reducible refine Ad zT zA ?_)|(with_reducible first|refine DT zC (λI' a hI' hw'=>zAA ?_)|refine Cm zC zC (λI' a hI' hw'=>zAA ?_)|refine Dn zC zC zC (λI' a hI' hw'=>zAA ?_))|((with_reducible refine Aj ?_);with_reducible refine BK zC ?_)|refine zqr ?_|refine zqb ?_|refine zqi ?_ ?_|refine zqc ?_|refine zqg (λhb=>?_) (λhb=>?_)|refine zqe ?_|fail)
 all_goals first
  |exact zAE (L1++(b,PBo v')::L2) (zAA (herr _ (by simp [Dq,Res.bind,bad,AL, *] <;> rfl) _ _ zE))
  |exact zAE (L1++(b,PBo v)::L2) (zAA (hok ex0 l (by simp [Dq, *]) hT (Nat.le_refl _) I v none 0 (zAC _) h (zAD none 0)))
  |exact zAE (L1++(b,PBo v')::L2) (zAA (hok y _ (by simp [Dq, *] <;> rfl) zA (by omega) _ _ _ _ zE zT zC))
theorem Tj {I:Imm}{L:LH}{K Pn:Value→M}{C:Obj→LH}{v:Value}{l:List Tok}[hF:Foc b L (PBo v) C](h:TL I v l)(hT:Toks l)
  (hok:∀x r,Dc l= .ok x r→Toks r→r.length+1=l.length→∀v',TL I v' r→K (.int .i64 x) I (C (PBo v'))) (herr:∀e,Dc l= .err e→Pn (GY e) I L):
  CalP Tryz.prog ω 151 #[AP b] K Pn I L:=by
 obtain ⟨L1,L2,rfl,rfl⟩:=hF.foc;obtain ⟨bt,off,h1,h2⟩:=h.hd hT;refine ASW ?_;unfold sh151;repeat' (first|(with_reducible first|refine CU (b:=b) ?_|refine keepA ?_|refine Ac (λ_=>?_))|((with_reducible refine rd1 (v:=.int .i64 (hd l).kind) ?_ ?_);exact (h2 _ [] (zAC _) 0 _ rfl).mono (zAC _) (λ_ h=>by cases h))|((with_reducible refine rd1 (v:=.int .i64 (hd l).num) ?_ ?_);exact (h2 _ [] (zAC _) 3 _ rfl).mono (zAC _) (λ_ h=>by cases h))|((with_reducible refine AX ?_);with_reducible refine WY 3 (by decide) zT zA (λhk v' hv'=>?_) (λhk=>?_))|((with_reducible refine Aj ?_);with_reducible refine CV _ zT zA (λhb hT' hl' v' hv'=>?_) (λhb=>?_))|(with_reducible refine CJ _ zT zA (λhb hT' hl' I' v' hI' hv'=>?_) (λhb I' v' hI'=>?_))|((with_reducible refine AX ?_);with_reducible refine DF zT zA (λhb hT' hl' v' hv'=>?_) (λhb=>?_))|((with_reducible refine AX ?_);with_reducible refine Ad zT zA ?_)|(with_reducible first|refine DT zC (λI' a hI' hw'=>zAA ?_)|refine Cm zC zC (λI' a hI' hw'=>zAA ?_)|refine Dn zC zC zC (λI' a hI' hw'=>zAA ?_))|((with_reducible refine Aj ?_);with_reducible refine BK zC ?_)|refine zqr ?_|refine zqb ?_|(with_reducible first|refine Bl (sh151_2.eq_1 ..) ?_|refine Bl (sh151_1.eq_1 ..) ?_|refine Bl (sh151.eq_1 ..) ?_|refine And.intro ?_ ?_)|refine zqc ?_|refine zqg (λhb=>?_) (λhb=>?_)|(simp only [SSd,Nat.reduceAdd,h1]))
 all_goals (try have hd1:=of_decide_eq_true hb)
 all_goals (try have hd2:=of_decide_eq_false hb)
 all_goals first
  |(exfalso;simp_all [isK];done)
  |exact zAA (hok _ _ (by unfold Dc;rw [if_pos (by simp [hk];omega)]) (hT.tailK hk) hT.len v' hv')
  |exact zAA (herr _ (by simp_all [Dc,isK,bad] <;> rfl))
  |exact zAA (herr _ (by unfold Dc;rw [if_neg (by simp;intros;omega)];rfl))
theorem AIh (n:Nat)(hE:FnE ω n b 148 (eP n)):FnV ω n b 150 (Ej n) TOrderV:=by
 intro K Pn I L C v l hF h hT hl hok herr;obtain ⟨L1,L2,rfl,rfl⟩:=hF.foc;refine ASX ?_;unfold sh150;repeat' (first|(with_reducible first|refine CU (b:=b) ?_|refine keepA ?_|refine Ac (λ_=>?_))|((with_reducible refine AX ?_);with_reducible refine hE.go zT zA (by omega) (λy r' hg hT2 hr2 I' v' a' k' hI' hv' hw'=>?_) (λe hg I' v' hI'=>?_))|((with_reducible refine Aj ?_);with_reducible refine CV _ zT zA (λhb hT' hl' v' hv'=>?_) (λhb=>?_))|(with_reducible refine CJ _ zT zA (λhb hT' hl' I' v' hI' hv'=>?_) (λhb I' v' hI'=>?_))|((with_reducible refine AX ?_);with_reducible refine DF zT zA (λhb hT' hl' v' hv'=>?_) (λhb=>?_))|((with_reducible refine AX ?_);with_reducible refine Ad zT zA ?_)|(with_reducible first|refine DT zC (λI' a hI' hw'=>zAA ?_)|refine Cm zC zC (λI' a hI' hw'=>zAA ?_)|refine Dn zC zC zC (λI' a hI' hw'=>zAA ?_))|((with_reducible refine Aj ?_);with_reducible refine BK zC ?_)|refine zqr ?_|refine zqb ?_|(with_reducible first|refine Bl (sh150_1.eq_1 ..) ?_|refine Bl (sh150.eq_1 ..) ?_|refine And.intro ?_ ?_)|refine zqc ?_|refine zqg (λhb=>?_) (λhb=>?_)|refine zqe ?_|fail)
 all_goals first
  |exact zAE (L1++(b,PBo v')::L2) (zAA (herr _ (by simp [Ej,Res.bind,bad,AL, *] <;> rfl) _ _ zE))
  |exact zAE (L1++(b,PBo v')::L2) (zAA (hok ⟨y,true⟩ _ (by simp [Ej,Res.bind, *] <;> rfl) zA (by omega) _ _ _ zE zT ⟨_,rfl,zC⟩))
  |exact zAE (L1++(b,PBo v')::L2) (zAA (hok ⟨y,false⟩ _ (by simp [Ej,Res.bind, *] <;> rfl) zA (by omega) _ _ _ zE zT ⟨_,rfl,zC⟩))
theorem Ub (n:Nat):FnV ω n b 198 Bh TSourceV:=by
 intro K Pn I L C v l hF h hT hl hok herr;obtain ⟨L1,L2,rfl,rfl⟩:=hF.foc;refine ARp ?_;unfold sh198;refine Ac (λb1=>?_);refine AX (DF h hT (λhn hT1 hl1 v1 hv1=>?_) (λhn=>zAE (L1++(b,PBo v)::L2) (zAA (herr (hd l).at' (by simp [Bh,Ae,Res.bind,bad,hn]) I v (zAC _)))));obtain ⟨bt,off,h1,h2⟩:=hv1.hd hT1;repeat' (first|(with_reducible first|refine CU (b:=b) ?_|refine keepA ?_|refine Ac (λ_=>?_))|((with_reducible refine rd1 (v:=.int .i64 (hd l.tail).kind) ?_ ?_);exact (h2 _ [] (zAC _) 0 _ rfl).mono (zAC _) (λ_ h=>by cases h))|((with_reducible refine Aj ?_);with_reducible refine CV _ zT zA (λhb hT' hl' v' hv'=>?_) (λhb=>?_))|(with_reducible refine CJ _ zT zA (λhb hT' hl' I' v' hI' hv'=>?_) (λhb I' v' hI'=>?_))|((with_reducible refine AX ?_);with_reducible refine DF zT zA (λhb hT' hl' v' hv'=>?_) (λhb=>?_))|((with_reducible refine AX ?_);with_reducible refine Ad zT zA ?_)|(with_reducible first|refine DT zC (λI' a hI' hw'=>zAA ?_)|refine Cm zC zC (λI' a hI' hw'=>zAA ?_)|refine Dn zC zC zC (λI' a hI' hw'=>zAA ?_))|((with_reducible refine Aj ?_);with_reducible refine BK zC ?_)|refine zqr ?_|refine zqb ?_|(with_reducible first|refine Bl (sh198_2.eq_1 ..) ?_|refine Bl (sh198_1.eq_1 ..) ?_|refine Bl (sh198.eq_1 ..) ?_|refine And.intro ?_ ?_)|refine zqc ?_|refine zqg (λhb=>?_) (λhb=>?_)|(simp only [SSd,Nat.reduceAdd,h1]))
 all_goals (try have hk1:isK l.tail 1=true:=‹((hd l.tail).kind==1)=true›)
 all_goals (try have hk1:isK l.tail 1=false:=‹((hd l.tail).kind==1)=false›)
 all_goals (try (exfalso;simp_all;done))
 all_goals first
  |exact zAE (L1++(b,PBo v')::L2) (zAA (herr _ (by simp [Bh,Ae,Res.bind,bad,AL, *] <;> rfl) _ _ zE))
  |exact zAE (L1++(b,PBo v1)::L2) (zAA (herr _ (by simp [Bh,Ae,Res.bind,bad,AL, *] <;> rfl) _ _ zE))
  |exact zAE (L1++(b,PBo v')::L2) (zAA (hok ⟨_,_,false,ex0⟩ _ (by simp [Bh,Ae,Res.bind, *] <;> rfl) zA (by omega) _ _ _ zE zT ⟨.slice none 0 0,rfl,zAD none 0⟩))
  |exact zAE (L1++(b,PBo v1)::L2) (zAA (hok ⟨(hd l).text,[],false,ex0⟩ _ (by simp [Bh,Ae,Res.bind, *] <;> rfl) zA (by omega) _ _ _ zE zT ⟨.slice none 0 0,rfl,zAD none 0⟩))
end
section
variable {ω:Om}{I:Imm}{L:LH}{K Pn:Value→M}{C:Obj→LH}{b:Nat}{v:Value}{l:List Tok}
theorem TL.at (h:TL I v l){j:Nat}(hj:j < l.length){t:Tok}(ht:l[j]? =some t):∃bt off,ixV 4 v (.int .i64 (j:Int))=some (.pointer (some ⟨bt,off,none⟩))∧∀I' L',Ext I I'→Cells I' L' bt off [.int .i64 t.kind,.int .i64 t.at',.string ⟨t.text.toArray⟩,.int .i64 t.num]:=by
 obtain ⟨bt,off,c,h1,_,h2,h3⟩:=zAS h (i:=(j:Int)) (by omega) (by omega);have:QD l (j:Int)=t:=by rw [Af hj];exact Option.some.inj ((List.getElem?_eq_getElem hj).symm.trans ht)
 rw [this] at h2;rw [show c=_ from h2] at h3;exact ⟨bt,off,h1,λI' L' hI=>h3 I' L' hI (λ_ h=>by cases h)⟩
def IK (l:List Tok):Bool:=isK l 1&&isK l.tail 5&&(hd l.tail).text==[46]&&isK l.tail.tail 5&&(hd l.tail.tail).text==[42]
theorem AFV {n:Nat}(h0:isT l [42]=false)(hs:IK l=true):Eb n l= .ok ⟨true,(hd l).text,ex0,[]⟩ l.tail.tail.tail:=by
 simp only [Eb,h0,Bool.false_eq_true,if_false];exact if_pos hs
theorem JU {n:Nat}(h0:isT l [42]=false)(hs:IK l=false):Eb n l=(eP n l).bind λx r=>if isT r [97,115] then (Ae r.tail).bind λa r=>.ok ⟨false,[],x,a⟩ r else .ok ⟨false,[],x,[]⟩ r:=by
 simp only [Eb,h0,Bool.false_eq_true,if_false];unfold IK at hs;exact if_neg (by rw [hs];decide)
theorem AEa (hT:Toks l)(h:IK l=true):3 < l.length:=by
 simp only [IK,Bool.and_eq_true] at h;obtain ⟨⟨⟨⟨h1,h2⟩,_⟩,h3⟩,_⟩:=h;have hT1:=hT.tailK h1;have hT2:=hT1.tailK h2;have hT3:=hT2.tailK h3;have:=hT.len;have:=hT1.len;have:=hT2.len;have:=hT3.len;omega
set_option maxHeartbeats 4000000 in
theorem AMc (n:Nat)(hE:FnE ω n b 148 (eP n)):FnV ω n b 145 (Eb n) TItemV:=by
 intro K Pn I L C v l hF h hT hl hok herr;obtain ⟨L1,L2,rfl,rfl⟩:=hF.foc;refine ASc ?_;unfold sh145;refine Ac (λb1=>?_);refine Aj (CV [42] h hT (λhb hT' hl' v' hv'=>?_) (λhb0=>?_))
 ·repeat' (first|refine zqa ?_|refine zqh (λ_=>?_)|refine zqr ?_|refine zqb ?_|refine zqi ?_ ?_|refine zqc ?_|refine zqg (λ_=>?_) (λ_=>?_)|refine zqe ?_|fail)
  exact zAE (L1++(b,PBo v')::L2) (zAA (hok ⟨true,[],ex0,[]⟩ _ (by simp [Eb,hb]) hT' (by omega) _ _ _ (zAC _) hv' ⟨.slice none 0 0,rfl,zAD none 0⟩))
 cases hlen:decide ((3:Int) < (l.length:Nat)) with
 |true=>
  have hlen:=of_decide_eq_true hlen;obtain ⟨t1,t2,t3,t4,r,rfl⟩:∃t1 t2 t3 t4 r,l=t1::t2::t3::t4::r:=by
   match l,hlen with
   |t1::t2::t3::t4::r,_=>exact ⟨t1,t2,t3,t4,r,rfl⟩
  obtain ⟨p1,o1,i1,c1⟩:=h.at (j:=0) (by simp) (t:=t1) rfl;obtain ⟨p2,o2,i2,c2⟩:=h.at (j:=1) (by simp) (t:=t2) rfl;obtain ⟨p3,o3,i3,c3⟩:=h.at (j:=2) (by simp) (t:=t3) rfl;have i1:ixV 4 v (.int .i64 0)=_:=i1;have i2:ixV 4 v (.int .i64 1)=_:=i2;have i3:ixV 4 v (.int .i64 2)=_:=i3;have hl3:decide (((t1::t2::t3::t4::r).length:Nat) > (3:Int))=true:=decide_eq_true hlen;simp only [zAM h,hl3,SSd,Nat.reduceAdd];repeat' (first|(with_reducible first|refine CU (b:=b) ?_|refine keepA ?_|refine Ac (λ_=>?_))|((with_reducible refine rd1 (v:=.int .i64 t1.kind) ?_ ?_);exact (c1 _ [] (zAC _) 0 _ rfl).mono (zAC _) (λ_ h=>by cases h))|((with_reducible refine rd1 (v:=.int .i64 t2.kind) ?_ ?_);exact (c2 _ [] (zAC _) 0 _ rfl).mono (zAC _) (λ_ h=>by cases h))|((with_reducible refine rd1 (v:=.string ⟨t2.text.toArray⟩) ?_ ?_);exact (c2 _ [] (zAC _) 2 _ rfl).mono (zAC _) (λ_ h=>by cases h))|((with_reducible refine rd1 (v:=.int .i64 t3.kind) ?_ ?_);exact (c3 _ [] (zAC _) 0 _ rfl).mono (zAC _) (λ_ h=>by cases h))|((with_reducible refine rd1 (v:=.string ⟨t3.text.toArray⟩) ?_ ?_);exact (c3 _ [] (zAC _) 2 _ rfl).mono (zAC _) (λ_ h=>by cases h))|((with_reducible refine AX ?_);with_reducible refine hE.go zT zA (by omega) (λy r' hg hT2 hr2 I' v' a' k' hI' hv' hw'=>?_) (λe hg I' v' hI'=>?_))|((with_reducible refine Aj ?_);with_reducible refine CV _ zT zA (λhb hT' hl' v' hv'=>?_) (λhb=>?_))|(with_reducible refine CJ _ zT zA (λhb hT' hl' I' v' hI' hv'=>?_) (λhb I' v' hI'=>?_))|((with_reducible refine AX ?_);with_reducible refine DF zT zA (λhb hT' hl' v' hv'=>?_) (λhb=>?_))|((with_reducible refine AX ?_);with_reducible refine Ad zT zA ?_)|(with_reducible first|refine DT zC (λI' a hI' hw'=>zAA ?_)|refine Cm zC zC (λI' a hI' hw'=>zAA ?_)|refine Dn zC zC zC (λI' a hI' hw'=>zAA ?_))|((with_reducible refine Aj ?_);with_reducible refine BK zC ?_)|refine zqr ?_|refine zqb ?_|(with_reducible first|refine Bl (sh145_1.eq_1 ..) ?_|refine Bl (sh145_3.eq_1 ..) ?_|refine Bl (sh145_2.eq_1 ..) ?_|refine Bl (sh145.eq_1 ..) ?_|refine And.intro ?_ ?_)|refine zqc ?_|refine zqg (λhb=>?_) (λhb=>?_)|(simp only [SSd,Nat.reduceAdd,zAM h,hl3,i1,i2,i3]))
  all_goals (try (exfalso;simp_all [isK,hd];done))
  iterate 1
   have hs:IK (t1::t2::t3::t4::r)=true:=by simp_all [IK,isK,hd]
   have hn:=AFV (n:=n) hb0 hs;refine Eo [[46],[42]] rfl rfl (λI' a hI hw=>zAA ?_);have e1:isT (t2::t3::t4::r) [46]=true:=by simp_all [isT,hd]
   have e2:isT (t3::t4::r) [42]=true:=by simp_all [isT,hd]
   refine AX (UT [[46],[42]] hw (by simp) (hv'.mono hI) hT' (λr1 hg hT1 hr v1 hv1=>?_) (λe hg v'=>?_))
   ·simp only [GZ,AL,List.tail_cons,e1,e2,if_true,Res.bind,Res.ok.injEq,true_and] at hg;subst hg;repeat' (first|refine zqa ?_|refine zqh (λ_=>?_)|refine zqr ?_|refine zqb ?_|refine zqi ?_ ?_|refine zqc ?_|refine zqg (λ_=>?_) (λ_=>?_)|refine zqe ?_|fail)
    exact zAE (L1++(b,PBo v1)::L2) (zAA (hok ⟨true,t1.text,ex0,[]⟩ _ hn hT1 (by first|(simp;done)|(simp;omega)) _ _ _ hI hv1 ⟨.slice none 0 0,rfl,zAD none 0⟩))
   ·simp [GZ,AL,e1,e2,Res.bind] at hg
  all_goals first
   |(have hs:IK (t1::t2::t3::t4::r)=false:=(by simp_all [IK,isK,hd]);have hn:=JU (n:=n) hb0 hs;exact zAE (L1++(b,PBo v')::L2) (zAA (herr _ (by rw [hn];simp [Ae,Res.bind,bad, *] <;> rfl) _ _ zE)))
   |(have hs:IK (t1::t2::t3::t4::r)=false:=(by simp_all [IK,isK,hd]);have hn:=JU (n:=n) hb0 hs;exact zAE (L1++(b,PBo v')::L2) (zAA (hok ⟨false,[],y,[]⟩ _ (by rw [hn];simp [Ae,Res.bind,bad, *] <;> rfl) zA (by omega) _ _ _ zE zT ⟨_,rfl,zC⟩)))
   |(have hs:IK (t1::t2::t3::t4::r)=false:=(by simp_all [IK,isK,hd]);have hn:=JU (n:=n) hb0 hs;exact zAE (L1++(b,PBo v')::L2) (zAA (hok ⟨false,[],y,(hd r'.tail).text⟩ _ (by rw [hn];simp [Ae,Res.bind,bad, *] <;> rfl) zA (by omega) _ _ _ zE zT ⟨_,rfl,zC⟩)))
 |false=>
  have hlen':¬((3:Int) < (l.length:Nat)):=of_decide_eq_false hlen;have hl3:decide ((l.length:Nat) > (3:Int))=false:=hlen;have hs:IK l=false:=by
   cases hs:IK l with
   |false=>rfl
   |true=>have:=AEa hT hs;omega
  repeat' (first|(with_reducible first|refine CU (b:=b) ?_|refine keepA ?_|refine Ac (λ_=>?_))|((with_reducible refine AX ?_);with_reducible refine hE.go zT zA (by omega) (λy r' hg hT2 hr2 I' v' a' k' hI' hv' hw'=>?_) (λe hg I' v' hI'=>?_))|((with_reducible refine Aj ?_);with_reducible refine CV _ zT zA (λhb hT' hl' v' hv'=>?_) (λhb=>?_))|(with_reducible refine CJ _ zT zA (λhb hT' hl' I' v' hI' hv'=>?_) (λhb I' v' hI'=>?_))|((with_reducible refine AX ?_);with_reducible refine DF zT zA (λhb hT' hl' v' hv'=>?_) (λhb=>?_))|((with_reducible refine AX ?_);with_reducible refine Ad zT zA ?_)|(with_reducible first|refine DT zC (λI' a hI' hw'=>zAA ?_)|refine Cm zC zC (λI' a hI' hw'=>zAA ?_)|refine Dn zC zC zC (λI' a hI' hw'=>zAA ?_))|((with_reducible refine Aj ?_);with_reducible refine BK zC ?_)|refine zqr ?_|refine zqb ?_|(with_reducible first|refine Bl (sh145_1.eq_1 ..) ?_|refine Bl (sh145_3.eq_1 ..) ?_|refine Bl (sh145_2.eq_1 ..) ?_|refine Bl (sh145.eq_1 ..) ?_|refine And.intro ?_ ?_)|refine zqc ?_|refine zqg (λhb=>?_) (λhb=>?_)|(simp only [SSd,Nat.reduceAdd,zAM h,hl3]))
  all_goals first
   |(have hn:=JU (n:=n) hb0 hs;exact zAE (L1++(b,PBo v')::L2) (zAA (herr _ (by rw [hn];simp [Ae,Res.bind,bad, *] <;> rfl) _ _ zE)))
   |(have hn:=JU (n:=n) hb0 hs;exact zAE (L1++(b,PBo v')::L2) (zAA (hok ⟨false,[],y,[]⟩ _ (by rw [hn];simp [Ae,Res.bind,bad, *] <;> rfl) zA (by omega) _ _ _ zE zT ⟨_,rfl,zC⟩)))
   |(have hn:=JU (n:=n) hb0 hs;exact zAE (L1++(b,PBo v')::L2) (zAA (hok ⟨false,[],y,(hd r'.tail).text⟩ _ (by rw [hn];simp [Ae,Res.bind,bad, *] <;> rfl) zA (by omega) _ _ _ zE zT ⟨_,rfl,zC⟩)))
end
abbrev LOk {α:Type}(R:Imm→α→List Value→Prop)(m:Nat)(g:Res (List α))(n:Nat)(K:Value→M)(C:Obj→LH)(I:Imm):Prop:=
 ∀x r,g= .ok x r→Toks r→r.length≤n→∀I' v' a k,Ext I I'→TL I' v' r→RL R m I' [] (.slice a x.length k) x→x.length≤n+1→K (.slice a x.length k) I' (C (PBo v'))
def FnL {α:Type}(ω:Om)(n b f:Nat)(g:Pr (List α))(R:Imm→α→List Value→Prop)(m:Nat):Prop:=
 ∀(K Pn:Value→M) (I:Imm) (L:LH) (C:Obj→LH) (v:Value) (l:List Tok),Foc b L (PBo v) C→TL I v l→Toks l→l.length≤n→LOk R m (g l) l.length K C I→PEr (g l) Pn C I→CalP Tryz.prog ω f #[AP b] K Pn I L
theorem FnL.go {α:Type}{ω:Om}{n b f m:Nat}{g:Pr (List α)}{R:Imm→α→List Value→Prop}(h:FnL ω n b f g R m){I:Imm}{L:LH}{K Pn:Value→M}{C:Obj→LH}{v:Value}{l:List Tok}[hF:Foc b L (PBo v) C](hv:TL I v l)(hT:Toks l)(hl:l.length≤n)(hok:LOk R m (g l) l.length K C I)(herr:PEr (g l) Pn C I):
  CalP Tryz.prog ω f #[AP b] K Pn I L:=h K Pn I L C v l hF hv hT hl hok herr
section
variable {ω:Om}{b:Nat}
theorem ARA {I:Imm}{L:LH}{K:Value→M}{w:Value}{xs:List TSource}(hw:RL TSourceV 14 I [] w xs)(hk:∀a k,RL TSourceV 14 I [] (.slice a xs.length k) xs→K (.slice a xs.length k) I L):CT ω 199 #[w] K I L:=by
 refine ARo ?_;unfold ANr;obtain ⟨w',h1,h2⟩:=Hf hw;simp only [zAM hw,h1,SSd,Nat.reduceAdd];obtain ⟨a,k,rfl⟩:=zAG h2;exact zAA (hk a k h2)
def Kr (n:Nat)(l:List Tok):Option (Res TSource):=
 if isT l [44] then some (Bh l.tail) else
 if isT l [99,114,111,115,115] then some ((AL [106,111,105,110] l.tail).bind λ_ r=>Bh r) else
 if isT l [108,101,102,116] then some (FM n true l.tail) else
 if isT l [105,110,110,101,114] then some (FM n false l.tail) else
 if isT l [106,111,105,110] then some (FM n false l) else none
theorem Gs {α β γ:Type}(x:Res α)(f:α→Pr β)(g:β→Pr γ):(x.bind f).bind g=x.bind λa r=>(f a r).bind g:=by cases x <;> rfl
theorem Ye (n f:Nat)(acc:List TSource)(l:List Tok):Ba n (f+1) acc l=match Kr n l with
  |some g=>g.bind λs r=>Ba n f (acc++[s]) r
  |none=>.ok acc l:=by
 simp only [Ba,Kr];split
 ·rfl
 split
 ·simp only [Gs]
 split
 ·rfl
 split
 ·rfl
 split
 ·rfl
 ·rfl
theorem Ua (n:Nat){I:Imm}{L:LH}{K Pn:Value→M}{C:Obj→LH}{v:Value}{l:List Tok}[hF:Foc b L (PBo v) C](h:TL I v l)(hT:Toks l)(hl:l.length≤n)
  (hok:∀x r,Bh l= .ok x r→Toks r→r.length≤l.length→∀I' v' a k,Ext I I'→TL I' v' r→ExL I' (.slice a x.fOn.args.length k) x.fOn.args→K (.agg #[.string ⟨x.fTable.toArray⟩,.string ⟨x.fAs.toArray⟩,.bool x.fLeft,.int .i64 x.fOn.kind,.int .i64 x.fOn.value.fType,.bool x.fOn.value.fNull,.int .i64 x.fOn.value.fInt,.string ⟨x.fOn.value.fText.toArray⟩,.string ⟨x.fOn.table.toArray⟩,.string ⟨x.fOn.name.toArray⟩,.int .i64 x.fOn.slot,.int .i64 x.fOn.type,.bool x.fOn.distinct,.slice a x.fOn.args.length k]) I' (C (PBo v')))
  (herr:PEr (Bh l) Pn C I):CalP Tryz.prog ω 198 #[AP b] K Pn I L:=by
 refine (Ub n).go h hT hl (λx r hg hT' hr I' v' c hI' hv' hc=>?_) herr;obtain ⟨v0,rfl,h0⟩:=hc;obtain ⟨a,k,rfl⟩:=zAG h0;exact hok x r hg hT' hr I' v' a k hI' hv' h0
theorem AFZ (n : Nat) (hE : FnE ω n b 148 (eP n)) (bb : Bool) {I : Imm} {L1 L2 X : LH} {Kn1 : (Value × Value × Unit) → M} {K Pn : Value → M} {v w : Value} {l : List Tok} {cells : List Value} {xs : List TSource} (h : TL I v l) (hT : Toks l) (hl : l.length ≤ n)
    (hX : SlO 123 14 X w cells xs.length) (hR : Recs (TSourceV I) 14 xs cells) (hxs : xs.length ≤ 1000000001)
    (hnext : ∀ x r, FM n bb l = .ok x r → Toks r → r.length + 1 ≤ l.length → ∀ I' v' X' w' cells', Ext I I' → TL I' v' r → SlO 123 14 X' w' cells' (xs ++ [x]).length → Recs (TSourceV I') 14 (xs ++ [x]) cells' → Gh (Kn1 (.slice none 0 0, w', ())) I' (X' ++ (L1 ++ (b, PBo v') :: L2)))
    (herr : PEr (FM n bb l) Pn (λo => L1 ++ (b, o) :: L2) I) :
    NU ω (AP b) (.slice none 0 0) w (.bool bb) (λs => Gh (Kn1 s)) (λv => Gh (K v)) (λv => Gh (Pn v)) I (X ++ (L1 ++ (b, PBo v) :: L2)) := by
  unfold NU
  repeat' (first | (with_reducible first | refine CU (b := b) ?_ | refine keepA ?_ | refine Ac (λ_ => ?_)) | ((with_reducible refine AX ?_); with_reducible refine Ua n zT zA (by omega) (λx r hg hT2 hr2 I' v' a' k' hI' hv' hw' => ?_) (λe hg I' v' hI' => ?_)) | ((with_reducible refine AX ?_); with_reducible refine hE.go zT zA (by omega) (λy r' hg' hT2 hr3 I' v' a' k' hI' hv' hw' => ?_) (λe hg' I' v' hI' => ?_)) | ((with_reducible refine Aj ?_); with_reducible refine CV _ zT zA (λhb hT' hl' v' hv' => ?_) (λhb => ?_)) | (with_reducible refine CJ _ zT zA (λhb hT' hl' I' v' hI' hv' => ?_) (λhb I' v' hI' => ?_)) | ((with_reducible refine AX ?_); with_reducible refine DF zT zA (λhb hT' hl' v' hv' => ?_) (λhb => ?_)) | ((with_reducible refine AX ?_); with_reducible refine Ad zT zA ?_) | (with_reducible first | refine DT zC (λI' a hI' hw' => zAA ?_) | refine Cm zC zC (λI' a hI' hw' => zAA ?_) | refine Dn zC zC zC (λI' a hI' hw' => zAA ?_)) | ((with_reducible refine Aj ?_); with_reducible refine BK zC ?_) | (with_reducible refine rdb ?_) | ((with_reducible first | refine st1 ?_ ?_ | refine rdB ?_ ?_); rfl) | (with_reducible refine EO ?_) | ((with_reducible refine SK ?_ ?_); rfl) | ((with_reducible refine stB ?_ ?_ ?_ ?_); rfl; rfl; exact Au rfl) | ((with_reducible first | refine rdP _ rfl ?_ ?_ | refine AIS _ rfl ?_ ?_); rfl) | ((with_reducible refine stP _ rfl ?_ ?_ ?_ ?_); rfl; rfl; rfl) | refine zqi ?_ ?_ | (simp only [SSg, Int.reduceBEq, Int.reduceBNe, Int.reduceLT, Int.reduceLE, beq_self_eq_true, bne_self_eq_false]) | (with_reducible first | refine DN (λhb => ?_) (λhb => ?_) | refine AB (λhb => ?_) (λhb => ?_)) | (simp only [SSd, Nat.reduceAdd]))
  all_goals first
    | exact zAE (L1 ++ (b, PBo v') :: L2) (zAA (herr _ (by simp [FM, Res.bind, bad, AL, *] <;> rfl) _ _ zE))
    | (refine Lc (X6 := X) (R := TSourceV) (x := ⟨x.fTable, x.fAs, bb, y⟩) rfl (by omega) hX (Recs.imp (λ_ _ h => TSourceV.mono h zE) hR) ⟨_, rfl, zC⟩ rfl (Au rfl) (by omega) (by omega) (λX1 X6 w6 cells6 hX6 hR6 => zAE (X6 ++ (L1 ++ (b, PBo v') :: L2)) ?_)
       exact hnext ⟨x.fTable, x.fAs, bb, y⟩ _ (by simp [FM, Res.bind, AL, *] <;> rfl) zA (by omega) _ _ _ _ _ zE zT hX6 hR6)
theorem AFa (n : Nat) (hE : FnE ω n b 148 (eP n)) {I : Imm} {L1 L2 X : LH} {Kn1 : (Value × Value × Unit) → M} {K Pn : Value → M} {v w : Value} {l : List Tok} {cells : List Value} {xs : List TSource} (h : TL I v l) (hT : Toks l) (hl : l.length ≤ n)
    (hX : SlO 123 14 X w cells xs.length) (hR : Recs (TSourceV I) 14 xs cells) (hxs : xs.length ≤ 1000000001)
    (hnext : ∀ g x r, Kr n l = some g → g = .ok x r → Toks r → r.length + 1 ≤ l.length → ∀ I' v' X' w' cells', Ext I I' → TL I' v' r → SlO 123 14 X' w' cells' (xs ++ [x]).length → Recs (TSourceV I') 14 (xs ++ [x]) cells' → Gh (Kn1 (.slice none 0 0, w', ())) I' (X' ++ (L1 ++ (b, PBo v') :: L2)))
    (herr : ∀ g, Kr n l = some g → PEr g Pn (λo => L1 ++ (b, o) :: L2) I)
    (hend : Kr n l = none → ∀ I' a k, Ext I I' → RL TSourceV 14 I' [] (.slice a xs.length k) xs → TL I' v l → Gh (K (.slice a xs.length k)) I' (L1 ++ (b, PBo v) :: L2)) :
    WA ω (AP b) (.slice none 0 0) w (λs => Gh (Kn1 s)) (λv => Gh (K v)) (λv => Gh (Pn v)) I (X ++ (L1 ++ (b, PBo v) :: L2)) := by
  unfold WA
  have hl1 := hT.len
  have J : ∀ (bb : Bool) {l1 : List Tok} {v1 : Value}, TL I v1 l1 → Toks l1 → l1.length ≤ l.length → Kr n l = some (FM n bb l1) → NU ω (AP b) (.slice none 0 0) w (.bool bb) (λs => Gh (Kn1 s)) (λv => Gh (K v)) (λv => Gh (Pn v)) I (X ++ (L1 ++ (b, PBo v1) :: L2)) := by
    intro bb l1 v1 h1 hT1 hl1 hn
    exact AFZ n hE bb h1 hT1 (by omega) hX hR hxs (λx r hg hT hr => hnext _ x r hn hg hT (by omega)) (herr _ hn)
  repeat' (first | (with_reducible first | refine CU (b := b) ?_ | refine keepA ?_ | refine Ac (λ_ => ?_)) | ((with_reducible refine AX ?_); with_reducible refine Ua n zT zA (by omega) (λx r hg hT2 hr2 I' v' a' k' hI' hv' hw' => ?_) (λe hg I' v' hI' => ?_)) | ((with_reducible refine Aj ?_); with_reducible refine Jo _ zT zA (λhb => ?_) (λhb => ?_)) | ((with_reducible refine Aj ?_); with_reducible refine CV _ zT zA (λhb hT' hl' v' hv' => ?_) (λhb => ?_)) | (with_reducible refine CJ _ zT zA (λhb hT' hl' I' v' hI' hv' => ?_) (λhb I' v' hI' => ?_)) | ((with_reducible refine AX ?_); with_reducible refine DF zT zA (λhb hT' hl' v' hv' => ?_) (λhb => ?_)) | ((with_reducible refine AX ?_); with_reducible refine Ad zT zA ?_) | (with_reducible first | refine DT zC (λI' a hI' hw' => zAA ?_) | refine Cm zC zC (λI' a hI' hw' => zAA ?_) | refine Dn zC zC zC (λI' a hI' hw' => zAA ?_)) | ((with_reducible refine Aj ?_); with_reducible refine BK zC ?_) | (with_reducible refine rdb ?_) | ((with_reducible first | refine st1 ?_ ?_ | refine rdB ?_ ?_); rfl) | (with_reducible refine EO ?_) | ((with_reducible refine SK ?_ ?_); rfl) | ((with_reducible refine stB ?_ ?_ ?_ ?_); rfl; rfl; exact Au rfl) | ((with_reducible first | refine rdP _ rfl ?_ ?_ | refine AIS _ rfl ?_ ?_); rfl) | ((with_reducible refine stP _ rfl ?_ ?_ ?_ ?_); rfl; rfl; rfl) | (with_reducible first | refine Bl (sh146_4.eq_1 ..) ?_ | refine And.intro ?_ ?_) | (simp only [SSg, Int.reduceBEq, Int.reduceBNe, Int.reduceLT, Int.reduceLE, beq_self_eq_true, bne_self_eq_false]) | (with_reducible first | refine DN (λhb => ?_) (λhb => ?_) | refine AB (λhb => ?_) (λhb => ?_)) | (simp only [SSd, Nat.reduceAdd]))
  all_goals (try (exfalso; simp_all; done))
  all_goals first
    | exact J true zA zA (by omega) (by simp [Kr, *])
    | exact J false zA zA (by omega) (by simp [Kr, *])
    | exact zAE (L1 ++ (b, PBo v') :: L2) (zAA (herr _ (by simp [Kr, *] <;> rfl) _ (by simp [Res.bind, bad, AL, *] <;> rfl) _ _ zE))
    | (refine Lc (X6 := X) (R := TSourceV) (x := x) rfl (by omega) hX (Recs.imp (λ_ _ h => TSourceV.mono h zE) hR) ⟨_, rfl, zC⟩ rfl (Au rfl) (by omega) (by omega) (λX1 X6 w6 cells6 hX6 hR6 => zAE (X6 ++ (L1 ++ (b, PBo v') :: L2)) ?_)
       exact hnext _ x _ (by simp [Kr, *] <;> rfl) (by simp [Res.bind, AL, *] <;> rfl) zA (by omega) _ _ _ _ _ zE zT hX6 hR6)
    | (refine CalP.pre (RL.ofO (R := TSourceV) (λ{I I' x c} h hI => TSourceV.mono h hI) hX hR (λI3 hI3 hw => zAA ?_))
       refine Aj (ARA hw (λa k hw' => hend (by simp [Kr, *]) I3 a k hI3 hw' (h.mono hI3))))
set_option maxHeartbeats 4000000 in
theorem AMg (n:Nat)(hn0:n≤1000000000)(hE:FnE ω n b 148 (eP n)):FnL ω n b 146 (Iw n) TSourceV 14:=by
 intro K Pn I L C v l hF h hT hl hok herr;obtain ⟨L1,L2,rfl,rfl⟩:=hF.foc;refine ASb ?_;unfold AOW;refine AX ((Ub n).go h hT hl ?_ ?_);rotate_left
 ·rintro e hg I1 v1 hI1;exact zAE (L1++(b,PBo v1)::L2) (zAA (herr e (by simp only [Iw,hg,Res.bind]) I1 v1 hI1))
 rintro x r hg hT1 hr I1 v1 c hI1 hTL1 hx;refine GK rfl (by omega) (by simpa [Value.cells] using hx.len) (λX u hX=>?_);refine loop (λm s I2 Lx=>∃X v2 l2 w cells xs f,l2.length=m∧s=(.slice none 0 0,w,())∧Ext I I2∧Lx=X++(L1++(b,PBo v2)::L2)∧TL I2 v2 l2∧Toks l2∧SlO 123 14 X w cells xs.length∧Recs (TSourceV I2) 14 xs cells∧l2.length≤f∧0 < xs.length∧xs.length+l2.length≤l.length+1∧Iw n l=Ba n f xs l2) r.length
   ⟨X,v1,r,u,_,[x],n,rfl,rfl,hI1,rfl,hTL1,hT1,hX,(by simpa [Value.cells] using Recs.one hx.len hx),by omega,by simp,by simp;omega,by simp only [Iw,hg,Res.bind]⟩ ?_
 clear hX hTL1 hT1 hx hg hr;rintro m s I2 Lx ⟨X,v2,l2,w,cells,xs,f,rfl,rfl,hI2,rfl,hTL2,hT2,hX,hR,hf,hpos,hlen,hm⟩;have hl2:=hT2.len;obtain ⟨f,rfl⟩:∃k,f=k+1:=⟨f - 1,by omega⟩;rw [Ye] at hm;refine AFa n hE hTL2 hT2 (by omega) hX hR (by omega) (λg x r hn hg hT3 hr3 I3 v3 X3 w3 cells3 hI3 hTL3 hX3 hR3=>?_) (λg hn e hg I3 v3 hI3=>?_) (λhn I3 a k hI3 hw hTL3=>?_)
 ·exact zAA ⟨r.length,by omega,X3,v3,r,w3,cells3,xs++[x],f,rfl,rfl,zAB hI2 hI3,rfl,hTL3,hT3,hX3,hR3,by omega,by simp,by simp;omega,by rw [hm,hn];simp only [hg,Res.bind]⟩
 ·exact herr e (by rw [hm,hn];simp only [hg,Res.bind]) I3 v3 (zAB hI2 hI3)
 ·exact zAA (hok xs l2 (by rw [hm,hn]) hT2 (by omega) I3 v2 a k (zAB hI2 hI3) hTL3 hw (by omega))
end
theorem Nu {α:Type}{R:Imm→α→List Value→Prop}{m n:Nat}{g:Res (List α)}{K:Value→M}{C:Obj→LH}{I:Imm}(h:LOk R m g n K C I):POk g (λI x v=>RL R m I [] v x∧x.length≤n) n K C I:=by
 rintro x r hg hT hr I' v' w hI' hv' ⟨hw,hx⟩;obtain ⟨a,k,rfl⟩:=zAG hw;exact h x r hg hT hr I' v' a k hI' hv' hw (by omega)
theorem ItL.mono {I I':Imm}{v:Value}{l:List TItem}(h:RL TItemV 14 I [] v l)(hI:Ext I I'):RL TItemV 14 I' [] v l:=zAP (λ_ _ h=>TItemV.mono h hI) h hI (λ_ h=>h)
theorem SoL.mono {I I':Imm}{v:Value}{l:List TSource}(h:RL TSourceV 14 I [] v l)(hI:Ext I I'):RL TSourceV 14 I' [] v l:=zAP (λ_ _ h=>TSourceV.mono h hI) h hI (λ_ h=>h)
theorem OrL.mono {I I':Imm}{v:Value}{l:List TOrder}(h:RL TOrderV 12 I [] v l)(hI:Ext I I'):RL TOrderV 12 I' [] v l:=zAP (λ_ _ h=>TOrderV.mono h hI) h hI (λ_ h=>h)
def Un (s:TSelect):Pr TSelect:=λl=>.ok s l
def MH (s:TSelect):Pr TSelect:=λl=>if isT l [111,102,102,115,101,116] then (Dc l.tail).bind λx r=>Un {s with fOffset:=x} r else Un s l
def MI (s:TSelect):Pr TSelect:=λl=>if isT l [108,105,109,105,116] then (Dc l.tail).bind λx r=>MH {s with fLimit:=x} r else MH s l
def MV (n:Nat)(s:TSelect):Pr TSelect:=λl=>if isT l [111,114,100,101,114] then (AL [98,121] l.tail).bind λ_ r=>(BG n (Ej n) r).bind λx r=>MI {s with fOrder:=x} r else MI s l
def MJ (n:Nat)(s:TSelect):Pr TSelect:=λl=>(Dq n [104,97,118,105,110,103] l).bind λx r=>MV n {s with fHaving:=x} r
def MW (n:Nat)(s:TSelect):Pr TSelect:=λl=>if isT l [103,114,111,117,112] then (AL [98,121] l.tail).bind λ_ r=>(BG n (eP n) r).bind λx r=>MJ n {s with fGroup:=x} r else MJ n s l
def MK (n:Nat)(s:TSelect):Pr TSelect:=λl=>(Dq n [119,104,101,114,101] l).bind λx r=>MW n {s with fWhere:=x} r
def KY (n:Nat)(s:TSelect):Pr TSelect:=λl=>if isT l [102,114,111,109] then (Iw n l.tail).bind λx r=>MK n {s with fFrom:=x} r else MK n s l
abbrev AHj (d:Bool):TSelect:=⟨d,[],[],ex0,[],ex0,[], -1,0⟩
theorem AIi {α β:Type}(s:Bs)(d:α)(p:Pr α)(l:List Tok)(f:α→Pr β):(JO s d p l).bind f=if isT l s then (p l.tail).bind f else f d l:=by
 unfold JO;split <;> rfl
theorem AFB (n:Nat)(l:List Tok):EY n l=(BG n (Eb n) (if isT l [100,105,115,116,105,110,99,116] then l.tail else l)).bind λx r=>KY n {AHj (isT l [100,105,115,116,105,110,99,116]) with fItems:=x} r:=by
 simp only [EY,AIi,byP,Gs,KY,MK,MW,MJ,MV,MI,MH,Un]
abbrev selZ:List Value:=[.bool false,.slice none 0 0,.slice none 0 0,.int .i64 0,.int .i64 0,.bool false,.int .i64 0,.string ⟨#[]⟩,.string ⟨#[]⟩,.string ⟨#[]⟩,.int .i64 0,.int .i64 0,.bool false,.slice none 0 0,.slice none 0 0,.int .i64 0,.int .i64 0,.bool false,.int .i64 0,.string ⟨#[]⟩,.string ⟨#[]⟩,.string ⟨#[]⟩,.int .i64 0,.int .i64 0,.bool false,.slice none 0 0,.slice none 0 0,.int .i64 0,.int .i64 0]
section
variable {ω:Om}{b:Nat}
theorem ADP (n:Nat)(hn0:n≤1000000000)(hE:FnE ω n b 148 (eP n)){I:Imm}{L1 L2:LH}{K Pn:Value→M}{v:Value}{l:List Tok}{b1 bq N0:Nat}{s:TSelect}{c:List Value}(h:TL I v l)(hT:Toks l)(hl:l.length≤n)(hN:l.length≤N0)(hs:CE I s c)
  (hok:VOk CE (Un s l) N0 K (λo=>L1++(b,o)::L2) I) (herr:PEr (Un s l) Pn (λo=>L1++(b,o)::L2) I):
  Vh ω (AP b1) (AP bq) (λv=>Gh (K v)) (λv=>Gh (Pn v)) I ((bq,.cells c.toArray 40 (0,0))::(b1,.cells selZ.toArray 40 (0,0))::(L1++(b,PBo v)::L2)):=by
 obtain ⟨v0,v1,v2,v3,v4,v5,rfl,h0,h1,h2,h3,h4,h5⟩:=hs;obtain ⟨a0,k0,rfl⟩:=zAG h0;obtain ⟨a1,k1,rfl⟩:=zAG h1;obtain ⟨a2,k2,rfl⟩:=zAG h2;obtain ⟨a3,k3,rfl⟩:=zAG h3;obtain ⟨a4,k4,rfl⟩:=zAG h4;obtain ⟨a5,k5,rfl⟩:=zAG h5;have hs:CE I s _:=⟨_,_,_,_,_,_,rfl,h0,h1,h2,h3,h4,h5⟩;unfold Vh;have hl0:=hT.len;repeat' (first|(with_reducible first|refine CU (b:=b) ?_|refine keepA ?_|refine Ac (λ_=>?_))|((with_reducible refine Aj ?_);with_reducible refine CV _ zT zA (λhb hT' hl' v' hv'=>?_) (λhb=>?_))|(with_reducible refine CJ _ zT zA (λhb hT' hl' I' v' hI' hv'=>?_) (λhb I' v' hI'=>?_))|((with_reducible refine AX ?_);with_reducible refine DF zT zA (λhb hT' hl' v' hv'=>?_) (λhb=>?_))|((with_reducible refine AX ?_);with_reducible refine Ad zT zA ?_)|(with_reducible first|refine DT zC (λI' a hI' hw'=>zAA ?_)|refine Cm zC zC (λI' a hI' hw'=>zAA ?_)|refine Dn zC zC zC (λI' a hI' hw'=>zAA ?_))|((with_reducible refine Aj ?_);with_reducible refine BK zC ?_)|refine zqr ?_|refine zqb ?_|refine zqi ?_ ?_|refine zqc ?_|refine zqg (λhb=>?_) (λhb=>?_)|refine zqe ?_|fail)
 exact zAE (L1++(b,PBo v)::L2) (zAA (hok s l (by simp [Un]) hT hN I v _ (zAC _) h hs))
theorem ADQ (n:Nat)(hn0:n≤1000000000)(hE:FnE ω n b 148 (eP n)){I:Imm}{L1 L2:LH}{K Pn:Value→M}{v:Value}{l:List Tok}{b1 bq N0:Nat}{s:TSelect}{c:List Value}(h:TL I v l)(hT:Toks l)(hl:l.length≤n)(hN:l.length≤N0)(hs:CE I s c)
  (hok:VOk CE (MH s l) N0 K (λo=>L1++(b,o)::L2) I) (herr:PEr (MH s l) Pn (λo=>L1++(b,o)::L2) I):
  Vj ω (AP b) (AP b1) (AP bq) (λv=>Gh (K v)) (λv=>Gh (Pn v)) I ((bq,.cells c.toArray 40 (0,0))::(b1,.cells selZ.toArray 40 (0,0))::(L1++(b,PBo v)::L2)):=by
 obtain ⟨v0,v1,v2,v3,v4,v5,rfl,h0,h1,h2,h3,h4,h5⟩:=hs;obtain ⟨a0,k0,rfl⟩:=zAG h0;obtain ⟨a1,k1,rfl⟩:=zAG h1;obtain ⟨a2,k2,rfl⟩:=zAG h2;obtain ⟨a3,k3,rfl⟩:=zAG h3;obtain ⟨a4,k4,rfl⟩:=zAG h4;obtain ⟨a5,k5,rfl⟩:=zAG h5;have hs:CE I s _:=⟨_,_,_,_,_,_,rfl,h0,h1,h2,h3,h4,h5⟩;unfold Vj;have hl0:=hT.len;repeat' (first|(with_reducible first|refine CU (b:=b) ?_|refine keepA ?_|refine Ac (λ_=>?_))|((with_reducible refine AX ?_);with_reducible refine Tj zT zA (λx r hg hT2 hr2 v' hv'=>?_) (λe hg=>?_))|((with_reducible refine Aj ?_);with_reducible refine CV _ zT zA (λhb hT' hl' v' hv'=>?_) (λhb=>?_))|(with_reducible refine CJ _ zT zA (λhb hT' hl' I' v' hI' hv'=>?_) (λhb I' v' hI'=>?_))|((with_reducible refine AX ?_);with_reducible refine DF zT zA (λhb hT' hl' v' hv'=>?_) (λhb=>?_))|((with_reducible refine AX ?_);with_reducible refine Ad zT zA ?_)|(with_reducible first|refine DT zC (λI' a hI' hw'=>zAA ?_)|refine Cm zC zC (λI' a hI' hw'=>zAA ?_)|refine Dn zC zC zC (λI' a hI' hw'=>zAA ?_))|((with_reducible refine Aj ?_);with_reducible refine BK zC ?_)|refine zqr ?_|refine zqb ?_|refine zqi ?_ ?_|refine zqc ?_|refine zqg (λhb=>?_) (λhb=>?_)|refine zqe ?_|fail)
 all_goals first
  |exact zAE (L1++(b,PBo v')::L2) (zAA (herr _ (by simp [MH,Res.bind,bad,AL,Res.bind,bad,AL, *] <;> rfl) _ _ zE))
  |exact ADP n hn0 hE zT zA (by omega) (by omega) (s:={s with fOffset:=x}) ⟨_,_,_,_,_,_,rfl,(ItL.mono h0 zE),(SoL.mono h1 zE),(zAN h2 zE),(zAP (λ_ _ h=>ExV.mono zE h) h3 zE (λ_ h=>h)),(zAN h4 zE),(OrL.mono h5 zE)⟩ (λy q hy hT' hq I' v' c hI hv hc=>hok y q (by simp [MH,AL,Res.bind,hy, *]) hT' hq I' v' c zE hv hc) (λe hy I' v' hI=>herr e (by simp [MH,AL,Res.bind,hy, *]) I' v' zE)
  |exact ADP n hn0 hE zT zA (by omega) (by omega) (s:=s) ⟨_,_,_,_,_,_,rfl,(ItL.mono h0 zE),(SoL.mono h1 zE),(zAN h2 zE),(zAP (λ_ _ h=>ExV.mono zE h) h3 zE (λ_ h=>h)),(zAN h4 zE),(OrL.mono h5 zE)⟩ (λy q hy hT' hq I' v' c hI hv hc=>hok y q (by simp [MH,AL,Res.bind,hy, *]) hT' hq I' v' c zE hv hc) (λe hy I' v' hI=>herr e (by simp [MH,AL,Res.bind,hy, *]) I' v' zE)
theorem ADR (n:Nat)(hn0:n≤1000000000)(hE:FnE ω n b 148 (eP n)){I:Imm}{L1 L2:LH}{K Pn:Value→M}{v:Value}{l:List Tok}{b1 bq N0:Nat}{s:TSelect}{c:List Value}(h:TL I v l)(hT:Toks l)(hl:l.length≤n)(hN:l.length≤N0)(hs:CE I s c)
  (hok:VOk CE (MI s l) N0 K (λo=>L1++(b,o)::L2) I) (herr:PEr (MI s l) Pn (λo=>L1++(b,o)::L2) I):
  Vk ω (AP b) (AP b1) (AP bq) (λv=>Gh (K v)) (λv=>Gh (Pn v)) I ((bq,.cells c.toArray 40 (0,0))::(b1,.cells selZ.toArray 40 (0,0))::(L1++(b,PBo v)::L2)):=by
 obtain ⟨v0,v1,v2,v3,v4,v5,rfl,h0,h1,h2,h3,h4,h5⟩:=hs;obtain ⟨a0,k0,rfl⟩:=zAG h0;obtain ⟨a1,k1,rfl⟩:=zAG h1;obtain ⟨a2,k2,rfl⟩:=zAG h2;obtain ⟨a3,k3,rfl⟩:=zAG h3;obtain ⟨a4,k4,rfl⟩:=zAG h4;obtain ⟨a5,k5,rfl⟩:=zAG h5;have hs:CE I s _:=⟨_,_,_,_,_,_,rfl,h0,h1,h2,h3,h4,h5⟩;unfold Vk;have hl0:=hT.len;repeat' (first|(with_reducible first|refine CU (b:=b) ?_|refine keepA ?_|refine Ac (λ_=>?_))|((with_reducible refine AX ?_);with_reducible refine Tj zT zA (λx r hg hT2 hr2 v' hv'=>?_) (λe hg=>?_))|((with_reducible refine Aj ?_);with_reducible refine CV _ zT zA (λhb hT' hl' v' hv'=>?_) (λhb=>?_))|(with_reducible refine CJ _ zT zA (λhb hT' hl' I' v' hI' hv'=>?_) (λhb I' v' hI'=>?_))|((with_reducible refine AX ?_);with_reducible refine DF zT zA (λhb hT' hl' v' hv'=>?_) (λhb=>?_))|((with_reducible refine AX ?_);with_reducible refine Ad zT zA ?_)|(with_reducible first|refine DT zC (λI' a hI' hw'=>zAA ?_)|refine Cm zC zC (λI' a hI' hw'=>zAA ?_)|refine Dn zC zC zC (λI' a hI' hw'=>zAA ?_))|((with_reducible refine Aj ?_);with_reducible refine BK zC ?_)|refine zqr ?_|refine zqb ?_|refine zqi ?_ ?_|refine zqc ?_|refine zqg (λhb=>?_) (λhb=>?_)|refine zqe ?_|fail)
 all_goals first
  |exact zAE (L1++(b,PBo v')::L2) (zAA (herr _ (by simp [MI,Res.bind,bad,AL,Res.bind,bad,AL, *] <;> rfl) _ _ zE))
  |exact ADQ n hn0 hE zT zA (by omega) (by omega) (s:={s with fLimit:=x}) ⟨_,_,_,_,_,_,rfl,(ItL.mono h0 zE),(SoL.mono h1 zE),(zAN h2 zE),(zAP (λ_ _ h=>ExV.mono zE h) h3 zE (λ_ h=>h)),(zAN h4 zE),(OrL.mono h5 zE)⟩ (λy q hy hT' hq I' v' c hI hv hc=>hok y q (by simp [MI,AL,Res.bind,hy, *]) hT' hq I' v' c zE hv hc) (λe hy I' v' hI=>herr e (by simp [MI,AL,Res.bind,hy, *]) I' v' zE)
  |exact ADQ n hn0 hE zT zA (by omega) (by omega) (s:=s) ⟨_,_,_,_,_,_,rfl,(ItL.mono h0 zE),(SoL.mono h1 zE),(zAN h2 zE),(zAP (λ_ _ h=>ExV.mono zE h) h3 zE (λ_ h=>h)),(zAN h4 zE),(OrL.mono h5 zE)⟩ (λy q hy hT' hq I' v' c hI hv hc=>hok y q (by simp [MI,AL,Res.bind,hy, *]) hT' hq I' v' c zE hv hc) (λe hy I' v' hI=>herr e (by simp [MI,AL,Res.bind,hy, *]) I' v' zE)
theorem ADS (n:Nat)(hn0:n≤1000000000)(hE:FnE ω n b 148 (eP n)){I:Imm}{L1 L2:LH}{K Pn:Value→M}{v:Value}{l:List Tok}{b1 bq N0:Nat}{s:TSelect}{c:List Value}(h:TL I v l)(hT:Toks l)(hl:l.length≤n)(hN:l.length≤N0)(hs:CE I s c)
  (hok:VOk CE (MJ n s l) N0 K (λo=>L1++(b,o)::L2) I) (herr:PEr (MJ n s l) Pn (λo=>L1++(b,o)::L2) I):
  Vl ω (AP b) (AP b1) (AP bq) (λv=>Gh (K v)) (λv=>Gh (Pn v)) I ((bq,.cells c.toArray 40 (0,0))::(b1,.cells selZ.toArray 40 (0,0))::(L1++(b,PBo v)::L2)):=by
 obtain ⟨v0,v1,v2,v3,v4,v5,rfl,h0,h1,h2,h3,h4,h5⟩:=hs;obtain ⟨a0,k0,rfl⟩:=zAG h0;obtain ⟨a1,k1,rfl⟩:=zAG h1;obtain ⟨a2,k2,rfl⟩:=zAG h2;obtain ⟨a3,k3,rfl⟩:=zAG h3;obtain ⟨a4,k4,rfl⟩:=zAG h4;obtain ⟨a5,k5,rfl⟩:=zAG h5;have hs:CE I s _:=⟨_,_,_,_,_,_,rfl,h0,h1,h2,h3,h4,h5⟩;unfold Vl;have hl0:=hT.len;repeat' (first|(with_reducible first|refine CU (b:=b) ?_|refine keepA ?_|refine Ac (λ_=>?_))|((with_reducible refine AX ?_);with_reducible refine NK n hE _ zT zA (by omega) (λy r1 hg1 hT1 hr1 I' v' a' k' hI' hv' hw1=>?_) (λe hg I' v' hI'=>?_))|((with_reducible refine AX ?_);with_reducible refine APp n hn0 ((AIh n hE).one rfl) zT zA (by omega) (Nu (λx r hg hT2 hr2 I' v' a' k' hI' hv' hw' hx'=>?_)) (λe hg I' v' hI'=>?_))|((with_reducible refine Aj ?_);with_reducible refine CV _ zT zA (λhb hT' hl' v' hv'=>?_) (λhb=>?_))|(with_reducible refine CJ _ zT zA (λhb hT' hl' I' v' hI' hv'=>?_) (λhb I' v' hI'=>?_))|((with_reducible refine AX ?_);with_reducible refine DF zT zA (λhb hT' hl' v' hv'=>?_) (λhb=>?_))|((with_reducible refine AX ?_);with_reducible refine Ad zT zA ?_)|(with_reducible first|refine DT zC (λI' a hI' hw'=>zAA ?_)|refine Cm zC zC (λI' a hI' hw'=>zAA ?_)|refine Dn zC zC zC (λI' a hI' hw'=>zAA ?_))|((with_reducible refine Aj ?_);with_reducible refine BK zC ?_)|refine zqr ?_|refine zqb ?_|refine zqi ?_ ?_|refine zqc ?_|refine zqg (λhb=>?_) (λhb=>?_)|refine zqe ?_|fail)
 all_goals first
  |exact zAE (L1++(b,PBo v')::L2) (zAA (herr _ (by simp [MJ,MV,Res.bind,bad,AL,Res.bind,bad,AL, *] <;> rfl) _ _ zE))
  |exact ADR n hn0 hE zT zA (by omega) (by omega) (s:={s with fHaving:=y,fOrder:=x}) ⟨_,_,_,_,_,_,rfl,(ItL.mono h0 zE),(SoL.mono h1 zE),(zAN h2 zE),(zAP (λ_ _ h=>ExV.mono zE h) h3 zE (λ_ h=>h)),(zAN hw1 zE),hw'⟩ (λy q hy hT' hq I' v' c hI hv hc=>hok y q (by simp [MJ,MV,AL,Res.bind,hy, *]) hT' hq I' v' c zE hv hc) (λe hy I' v' hI=>herr e (by simp [MJ,MV,AL,Res.bind,hy, *]) I' v' zE)
  |exact ADR n hn0 hE zT zA (by omega) (by omega) (s:={s with fHaving:=y}) ⟨_,_,_,_,_,_,rfl,(ItL.mono h0 zE),(SoL.mono h1 zE),(zAN h2 zE),(zAP (λ_ _ h=>ExV.mono zE h) h3 zE (λ_ h=>h)),(zAN hw1 zE),(OrL.mono h5 zE)⟩ (λy q hy hT' hq I' v' c hI hv hc=>hok y q (by simp [MJ,MV,AL,Res.bind,hy, *]) hT' hq I' v' c zE hv hc) (λe hy I' v' hI=>herr e (by simp [MJ,MV,AL,Res.bind,hy, *]) I' v' zE)
theorem Qq (n:Nat)(hn0:n≤1000000000)(hE:FnE ω n b 148 (eP n)){I:Imm}{L1 L2:LH}{K Pn:Value→M}{v:Value}{l:List Tok}{b1 bq N0:Nat}{s:TSelect}{c:List Value}(h:TL I v l)(hT:Toks l)(hl:l.length≤n)(hN:l.length≤N0)(hs:CE I s c)
  (hok:VOk CE (MK n s l) N0 K (λo=>L1++(b,o)::L2) I) (herr:PEr (MK n s l) Pn (λo=>L1++(b,o)::L2) I):
  Vm ω (AP b) (AP b1) (AP bq) (λv=>Gh (K v)) (λv=>Gh (Pn v)) I ((bq,.cells c.toArray 40 (0,0))::(b1,.cells selZ.toArray 40 (0,0))::(L1++(b,PBo v)::L2)):=by
 obtain ⟨v0,v1,v2,v3,v4,v5,rfl,h0,h1,h2,h3,h4,h5⟩:=hs;obtain ⟨a0,k0,rfl⟩:=zAG h0;obtain ⟨a1,k1,rfl⟩:=zAG h1;obtain ⟨a2,k2,rfl⟩:=zAG h2;obtain ⟨a3,k3,rfl⟩:=zAG h3;obtain ⟨a4,k4,rfl⟩:=zAG h4;obtain ⟨a5,k5,rfl⟩:=zAG h5;have hs:CE I s _:=⟨_,_,_,_,_,_,rfl,h0,h1,h2,h3,h4,h5⟩;unfold Vm;have hl0:=hT.len;repeat' (first|(with_reducible first|refine CU (b:=b) ?_|refine keepA ?_|refine Ac (λ_=>?_))|((with_reducible refine AX ?_);with_reducible refine NK n hE _ zT zA (by omega) (λy r1 hg1 hT1 hr1 I' v' a' k' hI' hv' hw1=>?_) (λe hg I' v' hI'=>?_))|((with_reducible refine AX ?_);with_reducible refine AGU n hn0 (hE.one rfl) zT zA (by omega) (Nu (λx r hg hT2 hr2 I' v' a' k' hI' hv' hw' hx'=>?_)) (λe hg I' v' hI'=>?_))|((with_reducible refine Aj ?_);with_reducible refine CV _ zT zA (λhb hT' hl' v' hv'=>?_) (λhb=>?_))|(with_reducible refine CJ _ zT zA (λhb hT' hl' I' v' hI' hv'=>?_) (λhb I' v' hI'=>?_))|((with_reducible refine AX ?_);with_reducible refine DF zT zA (λhb hT' hl' v' hv'=>?_) (λhb=>?_))|((with_reducible refine AX ?_);with_reducible refine Ad zT zA ?_)|(with_reducible first|refine DT zC (λI' a hI' hw'=>zAA ?_)|refine Cm zC zC (λI' a hI' hw'=>zAA ?_)|refine Dn zC zC zC (λI' a hI' hw'=>zAA ?_))|((with_reducible refine Aj ?_);with_reducible refine BK zC ?_)|refine zqr ?_|refine zqb ?_|refine zqi ?_ ?_|refine zqc ?_|refine zqg (λhb=>?_) (λhb=>?_)|refine zqe ?_|fail)
 all_goals first
  |exact zAE (L1++(b,PBo v')::L2) (zAA (herr _ (by simp [MK,MW,Res.bind,bad,AL,Res.bind,bad,AL, *] <;> rfl) _ _ zE))
  |exact ADS n hn0 hE zT zA (by omega) (by omega) (s:={s with fWhere:=y,fGroup:=x}) ⟨_,_,_,_,_,_,rfl,(ItL.mono h0 zE),(SoL.mono h1 zE),(zAN hw1 zE),hw',(zAN h4 zE),(OrL.mono h5 zE)⟩ (λy q hy hT' hq I' v' c hI hv hc=>hok y q (by simp [MK,MW,AL,Res.bind,hy, *]) hT' hq I' v' c zE hv hc) (λe hy I' v' hI=>herr e (by simp [MK,MW,AL,Res.bind,hy, *]) I' v' zE)
  |exact ADS n hn0 hE zT zA (by omega) (by omega) (s:={s with fWhere:=y}) ⟨_,_,_,_,_,_,rfl,(ItL.mono h0 zE),(SoL.mono h1 zE),(zAN hw1 zE),(zAP (λ_ _ h=>ExV.mono zE h) h3 zE (λ_ h=>h)),(zAN h4 zE),(OrL.mono h5 zE)⟩ (λy q hy hT' hq I' v' c hI hv hc=>hok y q (by simp [MK,MW,AL,Res.bind,hy, *]) hT' hq I' v' c zE hv hc) (λe hy I' v' hI=>herr e (by simp [MK,MW,AL,Res.bind,hy, *]) I' v' zE)
theorem AIU (n:Nat)(hn0:n≤1000000000)(hE:FnE ω n b 148 (eP n)):FnV ω n b 94 (EY n) CE:=by
 intro K Pn I L C v l hF h hT hl hok herr;obtain ⟨L1,L2,rfl,rfl⟩:=hF.foc;rw [AFB] at hok herr;refine AVC ?_;unfold ATi;repeat' (first|(with_reducible first|refine CU (b:=b) ?_|refine keepA ?_|refine Ac (λ_=>?_))|((with_reducible refine AX ?_);with_reducible refine APr n hn0 ((AMc n hE).one rfl) zT zA (by omega) (Nu (λy r1 hg1 hT1 hr1 I' v' a' k' hI' hv' hw1 hx1=>?_)) (λe hg I' v' hI'=>?_))|((with_reducible refine AX ?_);with_reducible refine (AMg n hn0 hE).go zT zA (by omega) (λx r hg hT2 hr2 I' v' a' k' hI' hv' hw' hx'=>?_) (λe hg I' v' hI'=>?_))|((with_reducible refine Aj ?_);with_reducible refine CV _ zT zA (λhb hT' hl' v' hv'=>?_) (λhb=>?_))|(with_reducible refine CJ _ zT zA (λhb hT' hl' I' v' hI' hv'=>?_) (λhb I' v' hI'=>?_))|((with_reducible refine AX ?_);with_reducible refine DF zT zA (λhb hT' hl' v' hv'=>?_) (λhb=>?_))|((with_reducible refine AX ?_);with_reducible refine Ad zT zA ?_)|(with_reducible first|refine DT zC (λI' a hI' hw'=>zAA ?_)|refine Cm zC zC (λI' a hI' hw'=>zAA ?_)|refine Dn zC zC zC (λI' a hI' hw'=>zAA ?_))|((with_reducible refine Aj ?_);with_reducible refine BK zC ?_)|refine zqr ?_|refine zqb ?_|refine zqi ?_ ?_|refine zqc ?_|refine zqg (λhb=>?_) (λhb=>?_)|refine zqe ?_|fail)
 all_goals first
  |exact zAE (L1++(b,PBo v')::L2) (zAA (herr _ (by simp [KY,Res.bind,bad,AL, *] <;> rfl) _ _ zE))
  |exact Qq n hn0 hE zT zA (by omega) (by omega) (s:={AHj true with fItems:=y,fFrom:=x}) ⟨_,_,_,_,_,_,rfl,(ItL.mono hw1 zE),hw',zAD none 0,zAD none 0,zAD none 0,zAD none 0⟩ (λz q hz hT' hq I' v' c hI hv hc=>hok z q (by simp [KY,Res.bind,hz, *]) hT' hq I' v' c zE hv hc) (λe hz I' v' hI=>herr e (by simp [KY,Res.bind,hz, *]) I' v' zE)
  |exact Qq n hn0 hE zT zA (by omega) (by omega) (s:={AHj true with fItems:=y}) ⟨_,_,_,_,_,_,rfl,(ItL.mono hw1 zE),(zAD none 0),zAD none 0,zAD none 0,zAD none 0,zAD none 0⟩ (λz q hz hT' hq I' v' c hI hv hc=>hok z q (by simp [KY,Res.bind,hz, *]) hT' hq I' v' c zE hv hc) (λe hz I' v' hI=>herr e (by simp [KY,Res.bind,hz, *]) I' v' zE)
  |exact Qq n hn0 hE zT zA (by omega) (by omega) (s:={AHj false with fItems:=y,fFrom:=x}) ⟨_,_,_,_,_,_,rfl,(ItL.mono hw1 zE),hw',zAD none 0,zAD none 0,zAD none 0,zAD none 0⟩ (λz q hz hT' hq I' v' c hI hv hc=>hok z q (by simp [KY,Res.bind,hz, *]) hT' hq I' v' c zE hv hc) (λe hz I' v' hI=>herr e (by simp [KY,Res.bind,hz, *]) I' v' zE)
  |exact Qq n hn0 hE zT zA (by omega) (by omega) (s:={AHj false with fItems:=y}) ⟨_,_,_,_,_,_,rfl,(ItL.mono hw1 zE),(zAD none 0),zAD none 0,zAD none 0,zAD none 0,zAD none 0⟩ (λz q hz hT' hq I' v' c hI hv hc=>hok z q (by simp [KY,Res.bind,hz, *]) hT' hq I' v' c zE hv hc) (λe hz I' v' hI=>herr e (by simp [KY,Res.bind,hz, *]) I' v' zE)
end
section
variable {ω:Om}{b:Nat}
theorem AJc (n:Nat):FnE ω n b 222 EK:=by
 intro K Pn I L C v l hF h hT hl hok herr;obtain ⟨L1,L2,rfl,rfl⟩:=hF.foc;have hN:FnE ω n b 234 JQ:=VE n;refine ARZ ?_;unfold sh222;repeat' (first|(with_reducible first|refine CU (b:=b) ?_|refine keepA ?_|refine Ac (λ_=>?_))|((with_reducible refine AX ?_);with_reducible refine hN.go zT zA (by omega) (λy r' hg hT2 hr2 I' v' a' k' hI' hv' hw'=>?_) (λe hg I' v' hI'=>?_))|((with_reducible refine Aj ?_);with_reducible refine Nz zT zA (λx hx hT' hl' v' hv'=>?_) (λhx=>?_))|((with_reducible refine Aj ?_);with_reducible refine CV _ zT zA (λhb hT' hl' v' hv'=>?_) (λhb=>?_))|(with_reducible refine CJ _ zT zA (λhb hT' hl' I' v' hI' hv'=>?_) (λhb I' v' hI'=>?_))|((with_reducible refine AX ?_);with_reducible refine DF zT zA (λhb hT' hl' v' hv'=>?_) (λhb=>?_))|((with_reducible refine AX ?_);with_reducible refine Ad zT zA ?_)|(with_reducible first|refine DT zC (λI' a hI' hw'=>zAA ?_)|refine Cm zC zC (λI' a hI' hw'=>zAA ?_)|refine Dn zC zC zC (λI' a hI' hw'=>zAA ?_))|((with_reducible refine Aj ?_);with_reducible refine BK zC ?_)|refine zqr ?_|refine zqb ?_|(with_reducible first|refine Bl (sh222.eq_1 ..) ?_|refine And.intro ?_ ?_)|refine zqc ?_|refine zqg (λhb=>?_) (λhb=>?_)|refine zqe ?_|fail)
 all_goals first
  |exact zAE (L1++(b,PBo v')::L2) (zAA (herr _ (by simp [EK,Res.bind,bad,AL, *] <;> rfl) _ _ zE))
  |exact zAE (L1++(b,PBo v')::L2) (zAA (hok _ _ (by simp [EK,Res.bind,bad,AL, *] <;> rfl) zA (by omega) _ _ _ zE zT zC))
  |exact zAE (L1++(b,PBo v')::L2) (zAA (hok (exK 4 [y]) _ (by simp [EK,Res.bind, *] <;> rfl) zA (by omega) _ _ _ zE zT zC))
def tyK (s:Bs):Option Int:=if s=[116,101,120,116] then some 3 else if s=[98,111,111,108,101,97,110]∨s=[98,111,111,108] then some 2 else if s=[98,105,103,105,110,116]∨s=[105,110,116,101,103,101,114]∨s=[105,110,116] then some 1 else none
theorem ALS:KN (KN (KN (KN (KN (KN (λ_=>none) [105,110,116] (some (.int .i64 1))) [105,110,116,101,103,101,114] (some (.int .i64 1))) [98,105,103,105,110,116] (some (.int .i64 1))) [98,111,111,108] (some (.int .i64 2))) [98,111,111,108,101,97,110] (some (.int .i64 2))) [116,101,120,116] (some (.int .i64 3))=λk=>(tyK k).map (.int .i64):=by
 funext k
 simp only [KN,tyK];by_cases h1:k=[116,101,120,116]
 ·subst h1;rfl
 by_cases h2:k=[98,111,111,108,101,97,110]
 ·subst h2;rfl
 by_cases h3:k=[98,111,111,108]
 ·subst h3;rfl
 by_cases h4:k=[98,105,103,105,110,116]
 ·subst h4;rfl
 by_cases h5:k=[105,110,116,101,103,101,114]
 ·subst h5;rfl
 by_cases h6:k=[105,110,116]
 ·subst h6;rfl
 simp only [h1,h2,h3,h4,h5,h6,if_false,or_self];rfl
theorem AEU (s:Bs):typeOf s=(tyK s).getD 0:=by
 simp only [typeOf,tyK];by_cases h1:s=[116,101,120,116]
 ·subst h1;rfl
 by_cases h2:s=[98,111,111,108,101,97,110]
 ·subst h2;rfl
 by_cases h3:s=[98,111,111,108]
 ·subst h3;rfl
 by_cases h4:s=[98,105,103,105,110,116]
 ·subst h4;rfl
 by_cases h5:s=[105,110,116,101,103,101,114]
 ·subst h5;rfl
 by_cases h6:s=[105,110,116]
 ·subst h6;rfl
 simp only [h1,h2,h3,h4,h5,h6,if_false,or_self];rfl
def Kt (c:TCol)(l:List Tok):Option (Res TCol):=
  if (!c.fNotNull&&isT l [110,111,116])=true then some ((AL [110,117,108,108] l.tail).bind λ_ r=>.ok {c with fNotNull:=true} r) else
  if (!c.fKey&&isT l [112,114,105,109,97,114,121])=true then some ((AL [107,101,121] l.tail).bind λ_ r=>.ok {c with fKey:=true} r) else
  if (!c.fUnique&&isT l [117,110,105,113,117,101])=true then some (.ok {c with fUnique:=true} l.tail) else
  if (c.fDefault.kind==0&&isT l [100,101,102,97,117,108,116])=true then some ((EK l.tail).bind λx r=>.ok {c with fDefault:=x} r) else none
theorem AAq (m:Nat)(c:TCol)(l:List Tok):Cj (m+1) c l=match Kt c l with
  |some g=>g.bind λc r=>Cj m c r
  |none=>.ok c l:=by
 simp only [Cj,Kt];split
 ·simp only [Gs];rfl
 split
 ·simp only [Gs];rfl
 split
 ·rfl
 split
 ·simp only [Gs];rfl
 ·rfl
abbrev colZ:List Value:=[.string ⟨#[]⟩,.int .i64 0,.bool false,.bool false,.bool false,.int .i64 0,.int .i64 0,.bool false,.int .i64 0,.string ⟨#[]⟩,.string ⟨#[]⟩,.string ⟨#[]⟩,.int .i64 0,.int .i64 0,.bool false,.slice none 0 0]
set_option maxHeartbeats 1000000 in
theorem AJt {I:Imm}{X L1 L2:LH}{Kn1:Unit→M}{K Pn:Value→M}{v:Value}{l:List Tok}{b1 bc:Nat}{x:TCol}{c:List Value}(h:TL I v l)(hT:Toks l)(hx:TColV I x c)
  (hnext:∀g y r,Kt x l=some g→g= .ok y r→Toks r→r.length+1≤l.length→∀I' v' c',Ext I I'→TL I' v' r→TColV I' y c'→Gh (Kn1 ()) I' (X++((bc,.cells c'.toArray 101 (0,0))::(b1,.cells colZ.toArray 101 (0,0))::(L1++(b,PBo v')::L2))))
  (herr:∀g,Kt x l=some g→PEr g Pn (λo=>L1++(b,o)::L2) I)
  (hend:Kt x l=none→Gh (K (.agg c.toArray)) I (L1++(b,PBo v)::L2)):
  sh205_3 ω (AP b) (AP b1) (AP bc) (λs=>Gh (Kn1 s)) (λv=>Gh (K v)) (λv=>Gh (Pn v)) I (X++((bc,.cells c.toArray 101 (0,0))::(b1,.cells colZ.toArray 101 (0,0))::(L1++(b,PBo v)::L2))):=by
 obtain ⟨v0,rfl,h0⟩:=hx;obtain ⟨a0,k0,rfl⟩:=zAG h0;have hl1:=hT.len;have hG:FnE ω l.length b 222 EK:=AJc _;unfold sh205_3;repeat' (first|(with_reducible first|refine CU (b:=b) ?_|refine keepA ?_|refine Ac (λ_=>?_))|((with_reducible refine AX ?_);with_reducible refine hG.go zT zA (by omega) (λy r hg hT2 hr2 I' v' a' k' hI' hv' hw'=>?_) (λe hg I' v' hI'=>?_))|((with_reducible refine Aj ?_);with_reducible refine CV _ zT zA (λhb hT' hl' v' hv'=>?_) (λhb=>?_))|(with_reducible refine CJ _ zT zA (λhb hT' hl' I' v' hI' hv'=>?_) (λhb I' v' hI'=>?_))|((with_reducible refine AX ?_);with_reducible refine DF zT zA (λhb hT' hl' v' hv'=>?_) (λhb=>?_))|((with_reducible refine AX ?_);with_reducible refine Ad zT zA ?_)|(with_reducible first|refine DT zC (λI' a hI' hw'=>zAA ?_)|refine Cm zC zC (λI' a hI' hw'=>zAA ?_)|refine Dn zC zC zC (λI' a hI' hw'=>zAA ?_))|((with_reducible refine Aj ?_);with_reducible refine BK zC ?_)|refine zqr ?_|refine zqb ?_|(with_reducible first|refine Bl (sh205_4.eq_1 ..) ?_|refine Bl (sh205_8.eq_1 ..) ?_|refine Bl (sh205_10.eq_1 ..) ?_|refine Bl (sh205_12.eq_1 ..) ?_|refine Bl (sh205_13.eq_1 ..) ?_|refine Bl (sh205_11.eq_1 ..) ?_|refine Bl (sh205_9.eq_1 ..) ?_|refine Bl (sh205_7.eq_1 ..) ?_|refine Bl (sh205_3.eq_1 ..) ?_|refine Bl (sh205_2.eq_1 ..) ?_|refine Bl (sh205_1.eq_1 ..) ?_|refine Bl (sh205.eq_1 ..) ?_|refine And.intro ?_ ?_)|refine zqc ?_|refine zqg (λhb=>?_) (λhb=>?_)|refine zqe ?_|fail)
 all_goals first
  |exact zAE (L1++(b,PBo v)::L2) (hend (by simp [Kt, *]))
  |exact zAE (L1++(b,PBo v')::L2) (zAA (herr _ (by simp [Kt, *] <;> rfl) _ (by simp [Res.bind,bad,AL, *] <;> rfl) _ _ zE))
  |exact hnext _ {x with fNotNull:=true} _ (by simp [Kt, *] <;> rfl) (by simp [Res.bind,AL, *] <;> rfl) zA (by omega) _ _ _ zE zT ⟨_,rfl,zC⟩
  |exact hnext _ {x with fKey:=true} _ (by simp [Kt, *] <;> rfl) (by simp [Res.bind,AL, *] <;> rfl) zA (by omega) _ _ _ zE zT ⟨_,rfl,zC⟩
  |exact hnext _ {x with fUnique:=true} _ (by simp [Kt, *] <;> rfl) (by simp [Res.bind,AL, *] <;> rfl) zA (by omega) _ _ _ zE zT ⟨_,rfl,zC⟩
  |exact hnext _ {x with fDefault:=y} _ (by simp [Kt, *] <;> rfl) (by simp [Res.bind,AL, *] <;> rfl) zA (by omega) _ _ _ zE zT ⟨_,rfl,zC⟩
theorem AFq (n:Nat):FnV ω n b 205 (Dx n) TColV:=by
 intro K Pn I L C v l hF h hT hl hok herr;obtain ⟨L1,L2,rfl,rfl⟩:=hF.foc;refine ARi ?_;unfold sh205;refine Ac (λb1=>?_);refine AX (DF h hT (λhn hT1 hl1 v1 hv1=>?_) (λhn=>zAE (L1++(b,PBo v)::L2) (zAA (herr (hd l).at' (by simp [Dx,Ae,Res.bind,bad,hn]) I v (zAC _)))));obtain ⟨bt,off,h1,h2⟩:=hv1.hd hT1;have two:∀(X:LH) (t:Int) (hty:(if isK l.tail 1 then typeOf (hd l.tail).text else 0)=t) (bc:Nat),sh205_1 ω (AP b) (AP b1) (AP bc) (λv=>Gh (K v)) (λv=>Gh (Pn v)) I (X++((bc,.cells #[.string ⟨(hd l).text.toArray⟩,.int .i64 t,.bool false,.bool false,.bool false,.int .i64 0,.int .i64 0,.bool false,.int .i64 0,.string ⟨#[]⟩,.string ⟨#[]⟩,.string ⟨#[]⟩,.int .i64 0,.int .i64 0,.bool false,.slice none 0 0] 101 (0,0))::(b1,.cells colZ.toArray 101 (0,0))::(L1++(b,PBo v1)::L2))):=by
  intro X t hty bc;have hcol:Dx n l=if t=0 then bad l.tail else Cj n ⟨(hd l).text,t,false,false,false,ex0⟩ l.tail.tail:=by
   simp only [Dx,Ae,hn,if_true,Res.bind,hty]
  rw [hcol] at hok herr;unfold sh205_1;repeat' (first|refine zqa ?_|refine zqh (λ_=>?_)|refine zqr ?_|refine zqb ?_|refine zqi ?_ ?_|refine zqc ?_|refine zqg (λ_=>?_) (λ_=>?_)|refine zqe ?_|fail)
  ·rename_i h0
   have h0:t=0:=by simpa using h0
   refine AX (Ad hv1 hT1 ?_);exact zAE (L1++(b,PBo v1)::L2) (zAA (herr _ (by rw [if_pos h0];rfl) I v1 (zAC _)))
  rename_i h0
  have h0:t≠0:=by simpa using h0
  rw [if_neg h0] at hok herr;have hk1:isK l.tail 1=true:=by
   cases hk:isK l.tail 1 with
   |true=>rfl
   |false=>rw [hk] at hty;exact absurd hty.symm h0
  have hT2:=hT1.tailK hk1;have hl2:=hT1.len;unfold sh205_2;refine Aj (JG hv1 hT1 (λv2 hv2=>?_));refine loop (λm s I2 Lx=>∃x c v2 l2 f,l2.length=m∧Ext I I2∧Lx=X++((bc,Obj.cells (c:List Value).toArray 101 (0,0))::(b1,.cells colZ.toArray 101 (0,0))::(L1++(b,PBo v2)::L2))∧TColV I2 x c∧TL I2 v2 l2∧Toks l2∧l2.length≤f∧l2.length≤l.length∧Cj n ⟨(hd l).text,t,false,false,false,ex0⟩ l.tail.tail=Cj f x l2) l.tail.tail.length
   ⟨⟨(hd l).text,t,false,false,false,ex0⟩,_,v2,l.tail.tail,n,rfl,zAC _,rfl,⟨_,rfl,zAD none 0⟩,hv2,hT2,by omega,by omega,rfl⟩ ?_
  rintro m s I2 Lx ⟨x,c,v2,l2,f,rfl,hI2,rfl,hx,hTL2,hT2,hf,hlen,hm⟩;have hl2:=hT2.len;obtain ⟨f,rfl⟩:∃k,f=k+1:=⟨f - 1,by omega⟩;rw [AAq] at hm;refine AJt hTL2 hT2 hx (λg y r hn hg hT3 hr3 I3 v3 c3 hI3 hTL3 hc3=>?_) (λg hn e hg I3 v3 hI3=>?_) (λhn=>?_)
  ·exact zAA ⟨r.length,by omega,y,c3,v3,r,f,rfl,zAB hI2 hI3,rfl,hc3,hTL3,hT3,by omega,by omega,by rw [hm,hn];simp only [hg,Res.bind]⟩
  ·exact herr e (by rw [hm,hn];simp only [hg,Res.bind]) I3 v3 (zAB hI2 hI3)
  ·exact zAA (hok x l2 (by rw [hm,hn]) hT2 hlen I2 v2 c hI2 hTL2 hx)
 repeat' (first|refine zqa ?_|refine zqh (λ_=>?_)|((with_reducible refine rd1 (v:=.int .i64 (hd l.tail).kind) ?_ ?_);exact (h2 _ [] (zAC _) 0 _ rfl).mono (zAC _) (λ_ h=>by cases h))|refine zqr ?_|refine zqb ?_|refine zqi ?_ ?_|refine zqc ?_|refine zqg (λ_=>?_) (λ_=>?_)|(simp only [SSd,Nat.reduceAdd,h1]))
 ·rename_i hk
  have hk:isK l.tail 1=true:=by simpa [isK] using hk
  refine AIx (λbm=>?_);obtain ⟨es1,c1,e1,p1⟩:=MapS.empty.put [105,110,116] (.int .i64 1);obtain ⟨es2,c2,e2,p2⟩:=p1.put [105,110,116,101,103,101,114] (.int .i64 1);obtain ⟨es3,c3,e3,p3⟩:=p2.put [98,105,103,105,110,116] (.int .i64 1);obtain ⟨es4,c4,e4,p4⟩:=p3.put [98,111,111,108] (.int .i64 2);obtain ⟨es5,c5,e5,p5⟩:=p4.put [98,111,111,108,101,97,110] (.int .i64 2);obtain ⟨es6,c6,e6,p6⟩:=p5.put [116,101,120,116] (.int .i64 3);rw [ALS] at p6;refine zAA (QB (k:=[105,110,116]) MapS.empty e1 ?_);refine zAA (QB (k:=[105,110,116,101,103,101,114]) p1 e2 ?_);refine zAA (QB (k:=[98,105,103,105,110,116]) p2 e3 ?_);refine zAA (QB (k:=[98,111,111,108]) p3 e4 ?_);refine zAA (QB (k:=[98,111,111,108,101,97,110]) p4 e5 ?_);refine zAA (QB (k:=[116,101,120,116]) p5 e6 ?_);refine zAA ?_;refine rdb ?_;simp only [h1,SSd,Nat.reduceAdd];refine rd1 (v:=.string ⟨(hd l.tail).text.toArray⟩) ((h2 _ [] (zAC _) 2 _ rfl).mono (zAC _) (λ_ h=>by cases h)) ?_;refine lkm (k:=(hd l.tail).text) p6 ?_;have hty:(if isK l.tail 1 then typeOf (hd l.tail).text else 0)=typeOf (hd l.tail).text:=by rw [hk];rfl
  have hlk:lkV (.int .i64 0) false ((λk=>(tyK k).map (.int .i64)) (hd l.tail).text)= .int .i64 (typeOf (hd l.tail).text):=by
   rw [AEU];show lkV _ _ (Option.map _ (tyK (hd l.tail).text))=_;cases tyK (hd l.tail).text <;> rfl
  simp only at hlk
  rw [hlk];repeat' (first|refine zqa ?_|refine zqh (λ_=>?_)|refine zqr ?_|refine zqb ?_|refine zqi ?_ ?_|refine zqc ?_|refine zqg (λ_=>?_) (λ_=>?_)|refine zqe ?_|fail)
  exact two [_] _ hty _
 ·rename_i hk
  have hk:isK l.tail 1=false:=by simpa [isK] using hk
  exact two [] 0 (by rw [hk];rfl) _
end
abbrev stZ:List Value:=[.int .i64 0,.bool false,.slice none 0 0,.slice none 0 0,.int .i64 0,.int .i64 0,.bool false,.int .i64 0,.string ⟨#[]⟩,.string ⟨#[]⟩,.string ⟨#[]⟩,.int .i64 0,.int .i64 0,.bool false,.slice none 0 0,.slice none 0 0,.int .i64 0,.int .i64 0,.bool false,.int .i64 0,.string ⟨#[]⟩,.string ⟨#[]⟩,.string ⟨#[]⟩,.int .i64 0,.int .i64 0,.bool false,.slice none 0 0,.slice none 0 0,.int .i64 0,.int .i64 0,.string ⟨#[]⟩,.slice none 0 0,.slice none 0 0,.slice none 0 0,.int .i64 0,.int .i64 0,.bool false,.int .i64 0,.string ⟨#[]⟩,.string ⟨#[]⟩,.string ⟨#[]⟩,.int .i64 0,.int .i64 0,.bool false,.slice none 0 0,.slice none 0 0,.slice none 0 0,.string ⟨#[]⟩,.string ⟨#[]⟩,.slice none 0 0,.bool false]
abbrev AAG (nm:Bs)(w wk:Value):List Value:=[.int .i64 5,.bool false,.slice none 0 0,.slice none 0 0,.int .i64 0,.int .i64 0,.bool false,.int .i64 0,.string ⟨#[]⟩,.string ⟨#[]⟩,.string ⟨#[]⟩,.int .i64 0,.int .i64 0,.bool false,.slice none 0 0,.slice none 0 0,.int .i64 0,.int .i64 0,.bool false,.int .i64 0,.string ⟨#[]⟩,.string ⟨#[]⟩,.string ⟨#[]⟩,.int .i64 0,.int .i64 0,.bool false,.slice none 0 0,.slice none 0 0,.int .i64 0,.int .i64 0,.string ⟨nm.toArray⟩,.slice none 0 0,.slice none 0 0,.slice none 0 0,.int .i64 0,.int .i64 0,.bool false,.int .i64 0,.string ⟨#[]⟩,.string ⟨#[]⟩,.string ⟨#[]⟩,.int .i64 0,.int .i64 0,.bool false,.slice none 0 0,w,wk,.string ⟨#[]⟩,.string ⟨#[]⟩,.slice none 0 0,.bool false]
def QF (w:Value)(n:Nat):Prop:=(n=0∧w= .slice none 0 0)∨(0 < n∧∃p k,w= .slice (some p) n k)
theorem SlO.nn {T n len:Nat}{X:LH}{v:Value}{cells:List Value}(h:SlO T n X v cells len)(h0:0 < len):QF v len:=by
 obtain ⟨_,h8⟩:=h;rcases h8 with ⟨_,h1,_⟩|⟨b8,k8,_,_,h8,_⟩
 ·omega
 ·exact .inr ⟨h0,_,_,h8⟩
theorem RL.nn {α:Type}{R:Imm→α→List Value→Prop}{n:Nat}{I:Imm}{v:Value}{xs:List α}(hn:0 < n)(h:RL R n I [] v xs)(h0:0 < xs.length):QF v xs.length:=by
 obtain ⟨cells,⟨_,a,cap,rfl,_,h⟩,_⟩:=RL.toI hn h;obtain ⟨b,off,cs,T,fr,ha,_⟩:=h (by omega);exact .inr ⟨h0,⟨b,off,none⟩,cap,by rw [ha]⟩
theorem AEd {α:Type}{n:Nat}{g:Pr α}{l r:List Tok}{x:List α}(h:BG n g l= .ok x r):0 < x.length:=by
 have go:∀m (acc:List α) l x r,Bq g m acc l= .ok x r→acc.length≤x.length:=by
  intro m;induction m with
  |zero=>intro acc l x r h;simp only [Bq,Res.ok.injEq] at h;obtain ⟨rfl,_⟩:=h;exact Nat.le_refl _
  |succ m ih=>
   intro acc l x r h;simp only [Bq] at h;split at h
   ·cases hg:g l.tail with
    |ok y r2=>rw [hg] at h;have:=ih _ _ _ _ h;simp at this;omega
    |err e=>rw [hg] at h;simp [Res.bind] at h
   ·simp only [Res.ok.injEq] at h;obtain ⟨rfl,_⟩:=h;exact Nat.le_refl _
 simp only [BG] at h;cases hg:g l with
 |ok y r2=>rw [hg] at h;have:=go _ _ _ _ _ h;simp at this;omega
 |err e=>rw [hg] at h;simp [Res.bind] at h
theorem AEQ {α:Type}{n:Nat}{g:Pr α}{l r:List Tok}{x:List α}(h:BC n g l= .ok x r):0 < x.length:=by
 simp only [BC] at h;cases h1:AL [40] l with
 |err e=>rw [h1] at h;simp [Res.bind] at h
 |ok _ r1=>
  rw [h1] at h;simp only [Res.bind] at h;cases h2:BG n g r1 with
  |err e=>rw [h2] at h;simp at h
  |ok y r2=>
   rw [h2] at h;simp only at h;cases h3:AL [41] r2 with
   |err e=>rw [h3] at h;simp at h
   |ok _ r3=>rw [h3] at h;simp only [Res.ok.injEq] at h;obtain ⟨rfl,_⟩:=h;exact AEd h2
def Ws (nm:Bs)(x:List TCol×List Bs)(r:List Tok):Res TStmt:=if x.1.isEmpty then bad r else (AL [41] r).bind λ_ r=>.ok {(default:TStmt) with fKind:=5,fTable:=nm,fCols:=x.1,fKey:=x.2} r
theorem AEY (n:Nat)(l:List Tok):Ob n l=(Ae l).bind λs r=>(AL [40] r).bind λ_ r=>(DD n (n+1) [] [] r).bind (Ws s):=rfl
def ML (n:Nat)(cs:List TCol)(ks:List Bs)(l:List Tok):Res (List TCol×List Bs):=
 if (ks.isEmpty&&isT l [112,114,105,109,97,114,121])=true then (AL [107,101,121] l.tail).bind λ_ r=>(BC n Ae r).bind λk r=>.ok (cs,k) r else (Dx n l).bind λc r=>Res.ok (cs++[c],ks) r
theorem Rh (n m:Nat)(cs:List TCol)(ks:List Bs)(l:List Tok):DD n (m+1) cs ks l=(ML n cs ks l).bind λx r=>if isT r [44] then DD n m x.1 x.2 r.tail else .ok x r:=rfl
theorem AWY {I:Imm}{L:LH}{K:Value→M}{x:TCol}{c:List Value}(hc:TColV I x c)(hk:∀I' a,Ext I I'→RL TColV 16 I' [] (.slice a 1 1) [x]→Gh (K (.slice a 1 1)) I' L):
  AY 101 16 #[.string ⟨#[]⟩,.int .i64 0,.bool false,.bool false,.bool false,.int .i64 0,.int .i64 0,.bool false,.int .i64 0,.string ⟨#[]⟩,.string ⟨#[]⟩,.string ⟨#[]⟩,.int .i64 0,.int .i64 0,.bool false,.slice none 0 0] 1 [(0,.agg c.toArray)] (gh K) I L:=
 FP (R:=TColV) [x] [c] rfl rfl rfl (by simpa using hc.len) (by simpa using hc) (λhI h=>TColV.mono h hI) hk
section
variable {ω:Om}{b:Nat}
theorem TE (n:Nat)(hn0:n≤1000000000){I:Imm}{L:LH}{K Pn:Value→M}{C:Obj→LH}{v:Value}{l:List Tok}[hF:Foc b L (PBo v) C](h:TL I v l)(hT:Toks l)(hl:l.length≤n)
  (hok:∀x r,BC n Ae l= .ok x r→Toks r→r.length≤l.length→∀I' v' a k,Ext I I'→TL I' v' r→StL I' (.slice (some a) x.length k) x→0 < x.length→K (.slice (some a) x.length k) I' (C (PBo v'))) (herr:PEr (BC n Ae l) Pn C I):CalP Tryz.prog ω 97 #[AP b] K Pn I L:=
 AAu n hn0 h hT hl (λx r hg hT' hr I' v' w hI hv' hw=>by
  have hpos:=AEQ hg;rcases RL.nn (by decide) hw.1 hpos with ⟨h0,_⟩|⟨_,p,k,rfl⟩
  ·omega
  ·exact hok x r hg hT' hr I' v' p k hI hv' hw.1 hpos) herr
theorem AWO {I:Imm}{X L1 L2:LH}{Kn1:Unit→M}{K Pn:Value→M}{v w wk:Value}{l:List Tok}{b1 bs N0:Nat}{nm:Bs}{cs:List TCol}{ks:List Bs}{cells:List Value}(h:TL I v l)(hT:Toks l)(hN:l.length≤N0)
  (hX:SlO 101 16 X w cells cs.length) (hR:Recs (TColV I) 16 cs cells) (hw:QF w cs.length) (hk:StL I wk ks) (hkn:QF wk ks.length)
  (hnext:isT l [44]=true→∀v,TL I v l.tail→Gh (Kn1 ()) I (X++((bs,.cells (AAG nm w wk).toArray 48 (0,0))::(b1,.cells stZ.toArray 48 (0,0))::(L1++(b,PBo v)::L2))))
  (hok:isT l [44]=false→VOk TStmtV (Ws nm (cs,ks) l) N0 K (λo=>L1++(b,o)::L2) I) (herr:isT l [44]=false→PEr (Ws nm (cs,ks) l) Pn (λo=>L1++(b,o)::L2) I):
  NT ω (AP b) (AP b1) (AP bs) (λs=>Gh (Kn1 s)) (λv=>Gh (K v)) (λv=>Gh (Pn v)) I (X++((bs,.cells (AAG nm w wk).toArray 48 (0,0))::(b1,.cells stZ.toArray 48 (0,0))::(L1++(b,PBo v)::L2))):=by
 unfold NT;refine Aj (CV [44] h hT (λhb hT' hl' v' hv'=>?_) (λhb=>?_))
 ·repeat' (first|refine zqa ?_|refine zqh (λ_=>?_)|refine zqr ?_|refine zqb ?_|refine zqi ?_ ?_|refine zqc ?_|refine zqg (λ_=>?_) (λ_=>?_)|refine zqe ?_|fail)
  exact hnext hb v' hv'
 have hok:=hok hb;have herr:=herr hb;have hl1:=hT.len;rcases hw with ⟨h0,rfl⟩|⟨h0,p,kc,rfl⟩
 ·have hcs:cs=[]:=List.eq_nil_of_length_eq_zero h0;subst hcs;repeat' (first|refine zqa ?_|refine zqh (λ_=>?_)|refine zqr ?_|refine zqb ?_|(with_reducible first|refine Bl (sh157_5.eq_1 ..) ?_|refine And.intro ?_ ?_)|refine zqc ?_|refine zqg (λ_=>?_) (λ_=>?_)|refine zqe ?_|fail)
  refine AX (Ad h hT ?_);exact zAE (L1++(b,PBo v)::L2) (zAA (herr _ rfl I v (zAC _)))
 ·have hce:cs.isEmpty=false:=by cases cs with
   |nil=>simp at h0
   |cons=>rfl
  obtain ⟨ak,kk,rfl⟩:=zAG hk;repeat' (first|(with_reducible first|refine CU (b:=b) ?_|refine keepA ?_|refine Ac (λ_=>?_))|((with_reducible refine Aj ?_);with_reducible refine CV _ zT zA (λhb hT' hl' v' hv'=>?_) (λhb=>?_))|(with_reducible refine CJ _ zT zA (λhb hT' hl' I' v' hI' hv'=>?_) (λhb I' v' hI'=>?_))|((with_reducible refine AX ?_);with_reducible refine DF zT zA (λhb hT' hl' v' hv'=>?_) (λhb=>?_))|((with_reducible refine AX ?_);with_reducible refine Ad zT zA ?_)|(with_reducible first|refine DT zC (λI' a hI' hw'=>zAA ?_)|refine Cm zC zC (λI' a hI' hw'=>zAA ?_)|refine Dn zC zC zC (λI' a hI' hw'=>zAA ?_))|((with_reducible refine Aj ?_);with_reducible refine BK zC ?_)|refine zqr ?_|refine zqb ?_|(with_reducible first|refine Bl (sh157_5.eq_1 ..) ?_|refine Bl (sh157_6.eq_1 ..) ?_|refine And.intro ?_ ?_)|refine zqc ?_|refine zqg (λhb=>?_) (λhb=>?_)|refine zqe ?_|fail)
  ·refine zAE (X++(L1++(b,PBo v')::L2)) ?_;refine RL.ofO (R:=TColV) (λ{I I' x c} h hI=>TColV.mono h hI) hX (Recs.imp (λ_ _ h=>TColV.mono h zE) hR) (λI3 hI3 hw=>zAA ?_);exact hok {(default:TStmt) with fKind:=5,fTable:=nm,fCols:=cs,fKey:=ks} _ (by simp [Ws,hce,AL,hb,Res.bind] <;> rfl) zA (by omega) I3 _ _ zE zT ⟨_,_,_,_,_,_,_,_,_,_,_,_,_,rfl,zAD none 0,zAD none 0,zAD none 0,zAD none 0,zAD none 0,zAD none 0,zAD none 0,zAD none 0,zAD none 0,zAD none 0,hw,(zAJ hk zE),zAD none 0⟩
  ·exact zAE (L1++(b,PBo v')::L2) (zAA (herr _ (by simp [Ws,hce,AL,hb,Res.bind,bad]) I' v' zE))
theorem AGQ (n:Nat)(hn0:n≤1000000000){I:Imm}{X L1 L2:LH}{Kn1:Unit→M}{K Pn:Value→M}{v w wk:Value}{l:List Tok}{b1 bs N0:Nat}{nm:Bs}{cs:List TCol}{ks:List Bs}{cells:List Value}(h:TL I v l)(hT:Toks l)(hl:l.length≤n)(hN:l.length≤N0)
  (hX:SlO 101 16 X w cells cs.length) (hR:Recs (TColV I) 16 cs cells) (hcs:cs.length≤1000000001) (hw:QF w cs.length) (hk:StL I wk ks) (hkn:QF wk ks.length)
  (hnext:∀cs' ks' r,ML n cs ks l= .ok (cs',ks') r→isT r [44]=true→Toks r.tail→r.tail.length+1≤l.length→cs'.length≤cs.length+1→∀I' X v w wk cells,Ext I I'→TL I' v r.tail→SlO 101 16 X w cells cs'.length→Recs (TColV I') 16 cs' cells→QF w cs'.length→StL I' wk ks'→QF wk ks'.length→Gh (Kn1 ()) I' (X++((bs,.cells (AAG nm w wk).toArray 48 (0,0))::(b1,.cells stZ.toArray 48 (0,0))::(L1++(b,PBo v)::L2))))
  (hok:∀x r,ML n cs ks l= .ok x r→isT r [44]=false→VOk TStmtV (Ws nm x r) N0 K (λo=>L1++(b,o)::L2) I) (herr:PEr ((ML n cs ks l).bind λx r=>if isT r [44] then .ok default [] else Ws nm x r) Pn (λo=>L1++(b,o)::L2) I):
  Vy ω (AP b) (AP b1) (AP bs) (λs=>Gh (Kn1 s)) (λv=>Gh (K v)) (λv=>Gh (Pn v)) I (X++((bs,.cells (AAG nm w wk).toArray 48 (0,0))::(b1,.cells stZ.toArray 48 (0,0))::(L1++(b,PBo v)::L2))):=by
 have hl1:=hT.len;unfold Vy;have hcol:=AFq (ω:=ω) (b:=b) n;have ext:∀{I':Imm} {v' wk':Value} {l':List Tok} {ks':List Bs} {X':LH} {w':Value} {cells':List Value} {cs':List TCol},Ext I I'→TL I' v' l'→Toks l'→l'.length≤l.length→ML n cs ks l= .ok (cs',ks') l'→cs'.length≤cs.length+1→SlO 101 16 X' w' cells' cs'.length→Recs (TColV I') 16 cs' cells'→QF w' cs'.length→StL I' wk' ks'→QF wk' ks'.length→
   NT ω (AP b) (AP b1) (AP bs) (λs=>Gh (Kn1 s)) (λv=>Gh (K v)) (λv=>Gh (Pn v)) I' (X'++((bs,.cells (AAG nm w' wk').toArray 48 (0,0))::(b1,.cells stZ.toArray 48 (0,0))::(L1++(b,PBo v')::L2))):=by
  intro I' v' wk' l' ks' X' w' cells' cs' hI' hTL' hT' hl' hg hcl hX' hR' hw' hk' hkn';refine AWO (N0:=N0) hTL' hT' (by omega) hX' hR' hw' hk' hkn' (λhb v2 hv2=>?_) (λhb x r hx hTr hr I2 v2 c hI2 hv2 hc=>?_) (λhb e hx I2 v2 hI2=>?_)
  ·exact hnext _ _ _ hg hb (hT'.tailT hb) (by have:=hT'.len;omega) hcl I' _ _ _ _ _ hI' hv2 hX' hR' hw' hk' hkn'
  ·exact hok _ _ hg hb x r hx hTr hr I2 v2 c (zAB hI' hI2) hv2 hc
  ·exact herr e (by rw [hg];simp [Res.bind,hb,hx]) I2 v2 (zAB hI' hI2)
 have col:ks.isEmpty=false∨isT l [112,114,105,109,97,114,121]=false→QX ω (AP b) (AP b1) (AP bs) (λs=>Gh (Kn1 s)) (λv=>Gh (K v)) (λv=>Gh (Pn v)) I (X++((bs,.cells (AAG nm w wk).toArray 48 (0,0))::(b1,.cells stZ.toArray 48 (0,0))::(L1++(b,PBo v)::L2))):=by
  intro hcase;have hnx:ML n cs ks l=(Dx n l).bind λc r=>Res.ok (cs++[c],ks) r:=by
   rcases hcase with hc|hc <;> simp [ML,hc]
  unfold QX;refine CU (b:=b) ?_;try refine zqe ?_
  refine EO ?_;refine AX (hcol.go h hT hl (λx r hg hT3 hr I3 v3 c hI3 hv3 hc=>?_) (λe hg I3 v3 hI3=>zAE (L1++(b,PBo v3)::L2) (zAA (herr e (by rw [hnx];simp [Res.bind,hg]) I3 v3 hI3))));refine CS hI3 ?_;refine AWY hc (λI4 a4 hI4 hw4=>zAA ?_);refine CS (zAB hI3 hI4) ?_;obtain ⟨c4,s4,r4⟩:=RL.toI (by decide) hw4;refine Ee (X:=X) rfl hX s4.news (r4.one_cells λx c h=>TColV.one h) zL zL (λX5 w5 hX5=>?_);have e5:cs.length+[x].length=(cs++[x]).length:=by simp
  rw [e5] at hX5;have hR5:=Recs.append (Recs.imp (R':=TColV I4) (λ_ _ h=>TColV.mono h (zAB hI3 hI4)) hR) r4;have hn5:=SlO.nn hX5 (by simp);obtain ⟨a5,k5,rfl⟩:=hX5.form;repeat' (first|refine zqa ?_|refine zqh (λ_=>?_)|refine zqr ?_|refine zqb ?_|refine zqi ?_ ?_|refine zqc ?_|refine zqg (λ_=>?_) (λ_=>?_)|refine zqe ?_|fail)
  exact ext (zAB hI3 hI4) (hv3.mono hI4) hT3 hr (by rw [hnx];simp [Res.bind,hg]) (by simp) hX5 hR5 hn5 (hk.mono (zAB hI3 hI4)) hkn
 rcases hkn with ⟨h0,rfl⟩|⟨h0,p,kc,rfl⟩
 ·have hks:ks=[]:=List.eq_nil_of_length_eq_zero h0;subst hks;have hw3:=hw;rcases hw3 with ⟨_,hw3⟩|⟨_,pw,kw,hw3⟩ <;> subst hw3
  all_goals repeat' (first|(with_reducible first|refine CU (b:=b) ?_|refine keepA ?_|refine Ac (λ_=>?_))|((with_reducible refine AX ?_);with_reducible refine TE n hn0 zT zA (by omega) (λx r hg hT3 hr I' v' a' k' hI' hv' hw' hpos=>?_) (λe hg I' v' hI'=>?_))|((with_reducible refine Aj ?_);with_reducible refine CV _ zT zA (λhb hT' hl' v' hv'=>?_) (λhb=>?_))|(with_reducible refine CJ _ zT zA (λhb hT' hl' I' v' hI' hv'=>?_) (λhb I' v' hI'=>?_))|((with_reducible refine AX ?_);with_reducible refine DF zT zA (λhb hT' hl' v' hv'=>?_) (λhb=>?_))|((with_reducible refine AX ?_);with_reducible refine Ad zT zA ?_)|(with_reducible first|refine DT zC (λI' a hI' hw'=>zAA ?_)|refine Cm zC zC (λI' a hI' hw'=>zAA ?_)|refine Dn zC zC zC (λI' a hI' hw'=>zAA ?_))|((with_reducible refine Aj ?_);with_reducible refine BK zC ?_)|refine zqr ?_|refine zqb ?_|(with_reducible first|refine Bl (sh157_2.eq_1 ..) ?_|refine And.intro ?_ ?_)|refine zqc ?_|refine zqg (λhb=>?_) (λhb=>?_)|refine zqe ?_|fail)
  all_goals first
   |exact col (.inr zA)
   |exact ext (by first|exact zAC _|exact zE) zT zA (by omega) (by simp [ML,AL,Res.bind, *]) (by omega) hX (Recs.imp (λ_ _ h=>TColV.mono h zE) hR) hw hw' (.inr ⟨by assumption,_,_,rfl⟩)
   |exact zAE (L1++(b,PBo v')::L2) (zAA (herr _ (by simp [ML,AL,Res.bind,bad, *] <;> rfl) _ _ zE))
 ·have hke:ks.isEmpty=false:=by cases ks with
   |nil=>simp at h0
   |cons=>rfl
  repeat' (first|refine zqa ?_|refine zqh (λ_=>?_)|refine zqr ?_|refine zqb ?_|refine zqi ?_ ?_|refine zqc ?_|refine zqg (λ_=>?_) (λ_=>?_)|refine zqe ?_|fail)
  exact col (.inl hke)
theorem AGP (n:Nat)(hn0:n≤1000000000):FnV ω n b 157 (Ob n) TStmtV:=by
 intro K Pn I L C v l hF h hT hl hok herr;obtain ⟨L1,L2,rfl,rfl⟩:=hF.foc;rw [AEY] at hok herr;refine ASQ ?_;unfold AON;refine Ac (λb1=>?_);refine AX (DF h hT (λhn hT1 hl1 v1 hv1=>?_) (λhn=>zAE (L1++(b,PBo v)::L2) (zAA (herr (hd l).at' (by simp [Ae,Res.bind,bad,hn]) I v (zAC _)))));try refine zqe ?_
 refine Ac (λbs=>?_);repeat' (first|refine zqa ?_|refine zqh (λ_=>?_)|refine zqr ?_|refine zqb ?_|refine zqi ?_ ?_|refine zqc ?_|refine zqg (λ_=>?_) (λ_=>?_)|refine zqe ?_|fail)
 refine CJ [40] hv1 hT1 (λhw hT2 hl2 I2 v2 hI2 hv2=>?_) (λhw I2 v2 hI2=>zAE (L1++(b,PBo v2)::L2) (zAA (herr (hd l.tail).at' (by simp [Ae,Res.bind,bad,hn,AL,hw]) I2 v2 hI2)));have e:∀{x},x=((Ae l).bind λs r=>(AL [40] r).bind λ_ r=>(DD n (n+1) [] [] r).bind (Ws s))↔x=(DD n (n+1) [] [] l.tail.tail).bind (Ws (hd l).text):=by
  intro x;simp [Ae,Res.bind,hn,AL,hw]
 have e:=e.1 rfl;rw [e] at hok herr;clear e;refine loop (λm s I3 Lx=>∃X v l2 w wk cells cs ks f,l2.length=m∧Ext I I3∧Lx=X++((bs,.cells (AAG (hd l).text w wk).toArray 48 (0,0))::(b1,.cells stZ.toArray 48 (0,0))::(L1++(b,PBo v)::L2))∧TL I3 v l2∧Toks l2∧SlO 101 16 X w cells cs.length∧Recs (TColV I3) 16 cs cells∧QF w cs.length∧StL I3 wk ks∧QF wk ks.length∧l2.length≤f∧cs.length+l2.length≤l.length∧DD n (n+1) [] [] l.tail.tail=DD n f cs ks l2) l.tail.tail.length
  ⟨[],v2,l.tail.tail,.slice none 0 0,.slice none 0 0,[],[],[],n+1,rfl,hI2,rfl,hv2,hT2,SlO.none _ _,rfl,.inl ⟨rfl,rfl⟩,zAD none 0,.inl ⟨rfl,rfl⟩,by omega,by simp;omega,rfl⟩ ?_
 rintro m s I3 Lx ⟨X,v3,l2,w,wk,cells,cs,ks,f,rfl,hI3,rfl,hTL,hT3,hX,hR,hw3,hk,hkn,hf,hlen,hm⟩;have hl3:=hT3.len;obtain ⟨f,rfl⟩:∃k,f=k+1:=⟨f - 1,by omega⟩;rw [hm,Rh,Gs] at hok herr;rw [Rh n f cs ks l2] at hm;refine AGQ n hn0 (N0:=l.length) hTL hT3 (by omega) (by omega) hX hR (by omega) hw3 hk hkn (λcs' ks' r hg hb hTr hr hcl I4 X4 v4 w4 wk4 cells4 hI4 hv4 hX4 hR4 hw4 hk4 hkn4=>?_) (λx r hg hb y q hy hTq hq I4 v4 c hI4 hv4 hc=>?_) (λe hg I4 v4 hI4=>?_)
 ·exact zAA ⟨r.tail.length,by omega,X4,v4,r.tail,w4,wk4,cells4,cs',ks',f,rfl,zAB hI3 hI4,rfl,hv4,hTr,hX4,hR4,hw4,hk4,hkn4,by omega,by omega,by rw [hm,hg];simp only [Res.bind,hb,if_true]⟩
 ·exact hok y q (by simp [hg,Res.bind,hb,hy]) hTq hq I4 v4 c (zAB hI3 hI4) hv4 hc
 ·refine herr e ?_ I4 v4 (zAB hI3 hI4);cases hx:ML n cs ks l2 with
  |err e'=>rw [hx] at hg;simpa [Res.bind] using hg
  |ok x r=>
   rw [hx] at hg;cases hb:isT r [44] with
   |true=>simp [Res.bind,hb] at hg
   |false=>simpa [Res.bind,hb] using hg
end
section
variable {ω:Om}{b:Nat}
theorem AIT (n:Nat)(hn0:n≤1000000000)(hE:FnE ω n b 148 (eP n)){I:Imm}{L:LH}{K Pn:Value→M}{C:Obj→LH}{v:Value}{l:List Tok}[hF:Foc b L (PBo v) C](h:TL I v l)(hT:Toks l)(hl:l.length≤n)
  (hok:∀x r,EY n l= .ok x r→Toks r→r.length≤l.length→∀I' v' a0 k0 a1 k1 a2 k2 a3 k3 a4 k4 a5 k5,Ext I I'→TL I' v' r→RL TItemV 14 I' [] (.slice a0 x.fItems.length k0) x.fItems→RL TSourceV 14 I' [] (.slice a1 x.fFrom.length k1) x.fFrom→ExL I' (.slice a2 x.fWhere.args.length k2) x.fWhere.args→RL ExV 11 I' [] (.slice a3 x.fGroup.length k3) x.fGroup→ExL I' (.slice a4 x.fHaving.args.length k4) x.fHaving.args→RL TOrderV 12 I' [] (.slice a5 x.fOrder.length k5) x.fOrder→K (.agg #[.bool x.fDistinct,.slice a0 x.fItems.length k0,.slice a1 x.fFrom.length k1,.int .i64 x.fWhere.kind,.int .i64 x.fWhere.value.fType,.bool x.fWhere.value.fNull,.int .i64 x.fWhere.value.fInt,.string ⟨x.fWhere.value.fText.toArray⟩,.string ⟨x.fWhere.table.toArray⟩,.string ⟨x.fWhere.name.toArray⟩,.int .i64 x.fWhere.slot,.int .i64 x.fWhere.type,.bool x.fWhere.distinct,.slice a2 x.fWhere.args.length k2,.slice a3 x.fGroup.length k3,.int .i64 x.fHaving.kind,.int .i64 x.fHaving.value.fType,.bool x.fHaving.value.fNull,.int .i64 x.fHaving.value.fInt,.string ⟨x.fHaving.value.fText.toArray⟩,.string ⟨x.fHaving.table.toArray⟩,.string ⟨x.fHaving.name.toArray⟩,.int .i64 x.fHaving.slot,.int .i64 x.fHaving.type,.bool x.fHaving.distinct,.slice a4 x.fHaving.args.length k4,.slice a5 x.fOrder.length k5,.int .i64 x.fLimit,.int .i64 x.fOffset]) I' (C (PBo v')))
  (herr:PEr (EY n l) Pn C I):CalP Tryz.prog ω 94 #[AP b] K Pn I L:=by
 refine (AIU n hn0 hE).go h hT hl (λx r hg hT' hr I' v' c hI' hv' hc=>?_) herr;obtain ⟨v0,v1,v2,v3,v4,v5,rfl,h0,h1,h2,h3,h4,h5⟩:=hc;obtain ⟨a0,k0,rfl⟩:=zAG h0;obtain ⟨a1,k1,rfl⟩:=zAG h1;obtain ⟨a2,k2,rfl⟩:=zAG h2;obtain ⟨a3,k3,rfl⟩:=zAG h3;obtain ⟨a4,k4,rfl⟩:=zAG h4;obtain ⟨a5,k5,rfl⟩:=zAG h5;exact hok x r hg hT' hr I' v' a0 k0 a1 k1 a2 k2 a3 k3 a4 k4 a5 k5 hI' hv' h0 h1 h2 h3 h4 h5
theorem row_one (n:Nat)(hn0:n≤1000000000)(hE:FnE ω n b 148 (eP n)){I:Imm}:OneP ω n b (BC n (eP n)) (AWE ExV 11) (.func (.func 99) #[AP b] #[]) I:=by
 intro K Pn I' L C v l hF hI h hT hl hok herr;refine OI (by kernel_rfl) (Xz n hn0 hE h hT hl (λx r hg hT' hr I' v' w hI hv' hw=>hok x r hg hT' hr I' v' w hI hv' hw.1) herr)
theorem AFi (n:Nat)(hn0:n≤1000000000):FnV ω n b 103 (Ed n) TStmtV:=by
 intro K Pn I L C v l hF h hT hl hok herr;obtain ⟨L1,L2,rfl,rfl⟩:=hF.foc;have hTb:=AGP (ω:=ω) (b:=b) n hn0;refine ATC ?_;unfold AOs;have hl0:=hT.len;repeat' (first|(with_reducible first|refine CU (b:=b) ?_|refine keepA ?_|refine Ac (λ_=>?_))|((with_reducible refine AX ?_);with_reducible refine hTb.go zT zA (by omega) (λx r hg hT3 hr I' v' c hI' hv' hc=>?_) (λe hg I' v' hI'=>?_))|((with_reducible refine AX ?_);with_reducible refine TE n hn0 zT zA (by omega) (λx r hg hT3 hr I' v' a' k' hI' hv' hw' hpos=>?_) (λe hg I' v' hI'=>?_))|((with_reducible refine stB ?_ ?_ ?_ ?_);exact TStmtV.len zA;rfl;exact TStmtV.one zA)|((with_reducible refine rdB ?_ ?_);exact TStmtV.len zA)|((with_reducible refine Aj ?_);with_reducible refine CV _ zT zA (λhb hT' hl' v' hv'=>?_) (λhb=>?_))|(with_reducible refine CJ _ zT zA (λhb hT' hl' I' v' hI' hv'=>?_) (λhb I' v' hI'=>?_))|((with_reducible refine AX ?_);with_reducible refine DF zT zA (λhb hT' hl' v' hv'=>?_) (λhb=>?_))|((with_reducible refine AX ?_);with_reducible refine Ad zT zA ?_)|(with_reducible first|refine DT zC (λI' a hI' hw'=>zAA ?_)|refine Cm zC zC (λI' a hI' hw'=>zAA ?_)|refine Dn zC zC zC (λI' a hI' hw'=>zAA ?_))|((with_reducible refine Aj ?_);with_reducible refine BK zC ?_)|refine zqr ?_|refine zqb ?_|refine zqi ?_ ?_|refine zqc ?_|refine zqg (λhb=>?_) (λhb=>?_)|refine zqe ?_|fail)
 all_goals first
  |exact zAE (L1++(b,PBo v')::L2) (zAA (herr _ (by simp [Ed,Ae,Res.bind,bad,AL, *] <;> rfl) _ _ zE))
  |exact zAE (L1++(b,PBo v')::L2) (zAA (hok x _ (by simp [Ed,Res.bind, *] <;> rfl) zA (by omega) _ _ _ zE zT zA))
  |exact zAE (L1++(b,PBo v')::L2) (zAA (hok {(default:TStmt) with fKind:=6,fIndex:=⟨(hd l.tail.tail).text,(hd l.tail.tail.tail.tail).text,x,true⟩} _ (by simp [Ed,Ae,AL,Res.bind, *] <;> rfl) zA (by omega) _ _ _ zE zT ⟨_,_,_,_,_,_,_,_,_,_,_,_,_,rfl,zAD none 0,zAD none 0,zAD none 0,zAD none 0,zAD none 0,zAD none 0,zAD none 0,zAD none 0,zAD none 0,zAD none 0,zAD none 0,zAD none 0,(zAJ hw' zE)⟩))
  |exact zAE (L1++(b,PBo v')::L2) (zAA (hok {(default:TStmt) with fKind:=6,fIndex:=⟨(hd l.tail).text,(hd l.tail.tail.tail).text,x,false⟩} _ (by simp [Ed,Ae,AL,Res.bind, *] <;> rfl) zA (by omega) _ _ _ zE zT ⟨_,_,_,_,_,_,_,_,_,_,_,_,_,rfl,zAD none 0,zAD none 0,zAD none 0,zAD none 0,zAD none 0,zAD none 0,zAD none 0,zAD none 0,zAD none 0,zAD none 0,zAD none 0,zAD none 0,(zAJ hw' zE)⟩))
theorem AEZ (n:Nat)(hn0:n≤1000000000)(hE:FnE ω n b 148 (eP n)){I:Imm}{L:LH}{K Pn:Value→M}{C:Obj→LH}{v:Value}{l:List Tok}[hF:Foc b L (PBo v) C](h:TL I v l)(hT:Toks l)(hl:l.length≤n)
  (hok:VOk TStmtV (DV n l) (l.length - 1) K C I) (herr:PEr (DV n l) Pn C I):CalP Tryz.prog ω 44 #[AP b] K Pn I L:=by
 obtain ⟨L1,L2,rfl,rfl⟩:=hF.foc;have hCr:=AFi (ω:=ω) (b:=b) n hn0;refine AVc ?_;unfold sh44;have hl0:=hT.len;repeat' (first|(with_reducible first|refine CU (b:=b) ?_|refine keepA ?_|refine Ac (λ_=>?_))|((with_reducible refine AX ?_);with_reducible refine AIT n hn0 hE zT zA (by omega) (λx r hg hT3 hr I' v' a0 k0 a1 k1 a2 k2 a3 k3 a4 k4 a5 k5 hI' hv' h0 h1 h2 h3 h4 h5=>?_) (λe hg I' v' hI'=>?_))|((with_reducible refine AX ?_);with_reducible refine hCr.go zT zA (by omega) (λx r hg hT3 hr I' v' c hI' hv' hc=>?_) (λe hg I' v' hI'=>?_))|((with_reducible refine AX ?_);with_reducible refine TE n hn0 zT zA (by omega) (λns r1 hg1 hT4 hr1 I' v' a1 k1 hI' hv' hw1 hpos=>?_) (λe hg I' v' hI'=>?_))|((with_reducible refine Aj ?_);with_reducible refine Jo _ zT zA (λhb=>?_) (λhb=>?_))|((with_reducible refine AX ?_);with_reducible refine APq n hn0 (row_one n hn0 hE) zT zA (by omega) (Nu (λx r hg hT3 hr I' v' a' k' hI' hv' hw' hx'=>?_)) (λe hg I' v' hI'=>?_))|((with_reducible refine AX ?_);with_reducible refine APn n hn0 ((APu n hE).one rfl) zT zA (by omega) (Nu (λss r1 hg1 hT4 hr1 I' v' a1 k1 hI' hv' hw1 hx1=>?_)) (λe hg I' v' hI'=>?_))|((with_reducible refine AX ?_);with_reducible refine NK n hE _ zT zA (by omega) (λy r hg hT3 hr I' v' a' k' hI' hv' hw'=>?_) (λe hg I' v' hI'=>?_))|((with_reducible refine stB ?_ ?_ ?_ ?_);exact TStmtV.len zA;rfl;exact TStmtV.one zA)|((with_reducible refine rdB ?_ ?_);exact TStmtV.len zA)|((with_reducible refine Aj ?_);with_reducible refine CV _ zT zA (λhb hT' hl' v' hv'=>?_) (λhb=>?_))|(with_reducible refine CJ _ zT zA (λhb hT' hl' I' v' hI' hv'=>?_) (λhb I' v' hI'=>?_))|((with_reducible refine AX ?_);with_reducible refine DF zT zA (λhb hT' hl' v' hv'=>?_) (λhb=>?_))|((with_reducible refine AX ?_);with_reducible refine Ad zT zA ?_)|(with_reducible first|refine DT zC (λI' a hI' hw'=>zAA ?_)|refine Cm zC zC (λI' a hI' hw'=>zAA ?_)|refine Dn zC zC zC (λI' a hI' hw'=>zAA ?_))|((with_reducible refine Aj ?_);with_reducible refine BK zC ?_)|refine zqr ?_|refine zqb ?_|(with_reducible first|refine Bl (sh44_1.eq_1 ..) ?_|refine Bl (sh44.eq_1 ..) ?_|refine And.intro ?_ ?_)|refine zqc ?_|refine zqg (λhb=>?_) (λhb=>?_)|refine zqe ?_|fail)
 all_goals first
  |exact zAE (L1++(b,PBo v')::L2) (zAA (herr _ (by simp [DV,EP,EN,EQ,Fg,Ae,AL,Res.bind,bad, *] <;> rfl) _ _ zE))
  |exact zAE (L1++(b,PBo v')::L2) (zAA (hok x _ (by simp [DV,Res.bind, *] <;> rfl) zA (by omega) _ _ _ zE zT zA))
  |exact zAE (L1++(b,PBo v')::L2) (zAA (hok {(default:TStmt) with fKind:=1,fSelect:=x} _ (by simp [DV,EP,EN,EQ,Fg,Ae,AL,Res.bind, *] <;> rfl) zA (by omega) _ _ _ zE zT ⟨_,_,_,_,_,_,_,_,_,_,_,_,_,rfl,h0,h1,h2,h3,h4,h5,zAD none 0,zAD none 0,zAD none 0,zAD none 0,zAD none 0,zAD none 0,zAD none 0⟩))
  |exact zAE (L1++(b,PBo v')::L2) (zAA (hok {(default:TStmt) with fKind:=2,fTable:=(hd l.tail.tail).text,fColumns:=ns,fRows:=x} _ (by simp [DV,EP,EN,EQ,Fg,Ae,AL,Res.bind, *] <;> rfl) zA (by omega) _ _ _ zE zT ⟨_,_,_,_,_,_,_,_,_,_,_,_,_,rfl,zAD none 0,zAD none 0,zAD none 0,zAD none 0,zAD none 0,zAD none 0,(zAJ hw1 zE),hw',zAD none 0,zAD none 0,zAD none 0,zAD none 0,zAD none 0⟩))
  |exact zAE (L1++(b,PBo v')::L2) (zAA (hok {(default:TStmt) with fKind:=2,fTable:=(hd l.tail.tail).text,fColumns:=[],fRows:=x} _ (by simp [DV,EP,EN,EQ,Fg,Ae,AL,Res.bind, *] <;> rfl) zA (by omega) _ _ _ zE zT ⟨_,_,_,_,_,_,_,_,_,_,_,_,_,rfl,zAD none 0,zAD none 0,zAD none 0,zAD none 0,zAD none 0,zAD none 0,zAD none 0,hw',zAD none 0,zAD none 0,zAD none 0,zAD none 0,zAD none 0⟩))
  |exact zAE (L1++(b,PBo v')::L2) (zAA (hok {(default:TStmt) with fKind:=3,fTable:=(hd l.tail).text,fSets:=ss,fWhere:=y} _ (by simp [DV,EP,EN,EQ,Fg,Ae,AL,Res.bind, *] <;> rfl) zA (by omega) _ _ _ zE zT ⟨_,_,_,_,_,_,_,_,_,_,_,_,_,rfl,zAD none 0,zAD none 0,zAD none 0,zAD none 0,zAD none 0,zAD none 0,zAD none 0,zAD none 0,(zAP (λ_ _ h=>TSetV.mono h zE) hw1 zE (λ_ h=>by cases h)),zC,zAD none 0,zAD none 0,zAD none 0⟩))
  |exact zAE (L1++(b,PBo v')::L2) (zAA (hok {(default:TStmt) with fKind:=4,fTable:=(hd l.tail.tail).text,fWhere:=y} _ (by simp [DV,EP,EN,EQ,Fg,Ae,AL,Res.bind, *] <;> rfl) zA (by omega) _ _ _ zE zT ⟨_,_,_,_,_,_,_,_,_,_,_,_,_,rfl,zAD none 0,zAD none 0,zAD none 0,zAD none 0,zAD none 0,zAD none 0,zAD none 0,zAD none 0,zAD none 0,zC,zAD none 0,zAD none 0,zAD none 0⟩))
  |exact zAE (L1++(b,PBo v')::L2) (zAA (hok {(default:TStmt) with fKind:=7,fTable:=(hd l.tail.tail).text} _ (by simp [DV,EP,EN,EQ,Fg,Ae,AL,Res.bind, *] <;> rfl) zA (by omega) _ _ _ zE zT ⟨_,_,_,_,_,_,_,_,_,_,_,_,_,rfl,zAD none 0,zAD none 0,zAD none 0,zAD none 0,zAD none 0,zAD none 0,zAD none 0,zAD none 0,zAD none 0,zAD none 0,zAD none 0,zAD none 0,zAD none 0⟩))
  |exact zAE (L1++(b,PBo v')::L2) (zAA (hok {(default:TStmt) with fKind:=8,fIndex:=⟨(hd l.tail.tail).text,[],[],false⟩} _ (by simp [DV,EP,EN,EQ,Fg,Ae,AL,Res.bind, *] <;> rfl) zA (by omega) _ _ _ zE zT ⟨_,_,_,_,_,_,_,_,_,_,_,_,_,rfl,zAD none 0,zAD none 0,zAD none 0,zAD none 0,zAD none 0,zAD none 0,zAD none 0,zAD none 0,zAD none 0,zAD none 0,zAD none 0,zAD none 0,zAD none 0⟩))
  |exact zAE (L1++(b,PBo v')::L2) (zAA (hok {(default:TStmt) with fKind:=9} _ (by simp [DV,EP,EN,EQ,Fg,Ae,AL,Res.bind, *] <;> rfl) zA (by omega) _ _ _ zE zT ⟨_,_,_,_,_,_,_,_,_,_,_,_,_,rfl,zAD none 0,zAD none 0,zAD none 0,zAD none 0,zAD none 0,zAD none 0,zAD none 0,zAD none 0,zAD none 0,zAD none 0,zAD none 0,zAD none 0,zAD none 0⟩))
  |exact zAE (L1++(b,PBo v')::L2) (zAA (hok {(default:TStmt) with fKind:=10} _ (by simp [DV,EP,EN,EQ,Fg,Ae,AL,Res.bind, *] <;> rfl) zA (by omega) _ _ _ zE zT ⟨_,_,_,_,_,_,_,_,_,_,_,_,_,rfl,zAD none 0,zAD none 0,zAD none 0,zAD none 0,zAD none 0,zAD none 0,zAD none 0,zAD none 0,zAD none 0,zAD none 0,zAD none 0,zAD none 0,zAD none 0⟩))
  |exact zAE (L1++(b,PBo v')::L2) (zAA (hok {(default:TStmt) with fKind:=11} _ (by simp [DV,EP,EN,EQ,Fg,Ae,AL,Res.bind, *] <;> rfl) zA (by omega) _ _ _ zE zT ⟨_,_,_,_,_,_,_,_,_,_,_,_,_,rfl,zAD none 0,zAD none 0,zAD none 0,zAD none 0,zAD none 0,zAD none 0,zAD none 0,zAD none 0,zAD none 0,zAD none 0,zAD none 0,zAD none 0,zAD none 0⟩))
end
def XL (ω:Om)(G:Imm):Prop:=∀(s:Bs) (K:Value→M) (I:Imm) (L:LH),Ext G I→s.length≤900000000→
 (∀l,Wh s= .toks l→Toks l→l.length≤s.length+1→∀I' v,Ext I I'→TL I' v l→K (.tuple #[v,.agg #[.int .i64 0,.int .i64 0]]) I' L)→
 (∀f,Wh s= .bad f→f.code≠0→∀I' a m k,Ext I I'→K (.tuple #[.slice a m k,.agg #[.int .i64 f.code,.int .i64 f.at']]) I' L)→CT ω 41 #[.string ⟨s.toArray⟩] K I L
theorem AWX {I:Imm}{L:LH}{K:Value→M}{x:TStmt}{c:List Value}(hc:TStmtV I x c)(hk:∀I' a,Ext I I'→RL TStmtV 51 I' [] (.slice a 1 1) [x]→Gh (K (.slice a 1 1)) I' L):
  AY 48 51 #[.int .i64 0,.bool false,.slice none 0 0,.slice none 0 0,.int .i64 0,.int .i64 0,.bool false,.int .i64 0,.string ⟨#[]⟩,.string ⟨#[]⟩,.string ⟨#[]⟩,.int .i64 0,.int .i64 0,.bool false,.slice none 0 0,.slice none 0 0,.int .i64 0,.int .i64 0,.bool false,.int .i64 0,.string ⟨#[]⟩,.string ⟨#[]⟩,.string ⟨#[]⟩,.int .i64 0,.int .i64 0,.bool false,.slice none 0 0,.slice none 0 0,.int .i64 0,.int .i64 0,.string ⟨#[]⟩,.slice none 0 0,.slice none 0 0,.slice none 0 0,.int .i64 0,.int .i64 0,.bool false,.int .i64 0,.string ⟨#[]⟩,.string ⟨#[]⟩,.string ⟨#[]⟩,.int .i64 0,.int .i64 0,.bool false,.slice none 0 0,.slice none 0 0,.slice none 0 0,.string ⟨#[]⟩,.string ⟨#[]⟩,.slice none 0 0,.bool false] 1 [(0,.agg c.toArray)] (gh K) I L:=
 FP (R:=TStmtV) [x] [c] rfl rfl rfl (by simpa using hc.len) (by simpa using hc) (λhI h=>TStmtV.mono h hI) hk
theorem Xd (n m:Nat)(acc:List TStmt)(l:List Tok):Bd n (m+1) acc l=if isK l 6 then .ok acc l else if isT l [59] then Bd n m acc l.tail else
  (DV n l).bind λs r=>if isK r 6||isT r [59] then Bd n m (acc++[s]) r else Go.Proofs.YtkifgfanjcfedaaGreatDoor.bad r:=rfl
section
variable {ω:Om}
theorem AMK {I:Imm}{L1 L2:LH}{bo bf:Nat}{K:Value→M}{e:Nat}{w c a:Value}(hk:K (.tuple #[]) I (L1++((bf,.cells #[.int .i64 174,.int .i64 e] 26 (0,0))::(bo,.cells #[.slice none 0 0] 23 (0,0))::L2))):
  CalDR Tryz.prog ω 42 #[AP bo,AP bf] (GY e) K I (L1++((bf,.cells #[c,a] 26 (0,0))::(bo,.cells #[w] 23 (0,0))::L2)):=by
 refine ARI ?_;unfold sh42;have e1:Pq true .neq (GY e) .nilIface=some (.bool true):=rfl;have e2:ZV 87 (.agg #[.int .i64 0]) (GY e)=some (.tuple #[.agg #[.int .i64 e],.bool true]):=rfl;simp only [e1,e2,SSd,Nat.reduceAdd];refine Ac (λb1=>?_);repeat' (first|refine zqa ?_|refine zqh (λ_=>?_)|refine zqr ?_|refine zqb ?_|(with_reducible first|refine Bl (sh42_1.eq_1 ..) ?_|refine Bl (sh42.eq_1 ..) ?_|refine And.intro ?_ ?_)|refine zqc ?_|refine zqg (λ_=>?_) (λ_=>?_)|(simp only [SSd,Nat.reduceAdd,Et]))
 exact zAE _ (zAA hk)
theorem AQQ {I:Imm}{L:LH}{bo bf:Nat}{K:Value→M}(hk:K (.tuple #[]) I L):CalD Tryz.prog ω 42 #[AP bo,AP bf] K I L:=by
 refine ARJ ?_;unfold sh42;have e1:Pq true .neq .nilIface .nilIface=some (.bool false):=rfl;simp only [e1,SSd,Nat.reduceAdd];exact zAA hk
set_option maxHeartbeats 1000000 in
theorem Ur {G:Imm}(hTok:XL ω G)(s:Bs)(hs:s.length≤900000000){I:Imm}{L:LH}{K:Value→M}(hG:Ext G I)
  (hok:∀I' a k,Ext I I'→RL TStmtV 51 I' [] (.slice a (readA s).1.length k) (readA s).1→K (.tuple #[.slice a (readA s).1.length k,.agg #[.int .i64 (readA s).2.code,.int .i64 (readA s).2.at']]) I' L):
  CT ω 25 #[.string ⟨s.toArray⟩] K I L:=by
 refine AVl ?_;unfold AUQ;refine Ac (λbo=>?_);refine Ac (λbf=>?_);refine Aj (hTok s _ _ _ hG hs (λl hlx hT hlen I1 v1 hI1 hv1=>?_) (λf hlx hf I1 a m k hI1=>?_))
 ·have hrd:readA s=match Bd l.length (l.length+1) [] l with
    | .ok x _=>(x,ok0)
    | .err a=>([],⟨174,a⟩):=by
   simp only [readA,hlx];cases Bd l.length (l.length+1) [] l <;> rfl
  obtain ⟨a,k,rfl⟩:=zAG hv1;repeat' (first|refine zqa ?_|refine zqh (λ_=>?_)|refine zqr ?_|refine zqb ?_|refine zqi ?_ ?_|refine zqc ?_|refine zqg (λ_=>?_) (λ_=>?_)|refine zqe ?_|fail)
  rename_i bp
  have bad:∀(e:Nat) {I2:Imm} {X:LH} {vp w c d:Value},Ext I1 I2→Bd l.length (l.length+1) [] l= .err e→CalDR Tryz.prog ω 42 #[AP bo,AP bf] (GY e) (gh λ_=>Rv none (Aq (AP bo)) λv25=>Rv none (AC 2 (AP bf)) λv26=>Gh (K (.tuple #[v25,v26]))) I2 (X++((bp,PBo vp)::((bf,.cells #[c,d] 26 (0,0))::(bo,.cells #[w] 23 (0,0))::L))):=by
   intro e I2 X vp w c d hI2 hg;rw [hg] at hrd;have:=AMK (ω:=ω) (L1:=X++[(bp,PBo vp)]) (L2:=L) (bo:=bo) (bf:=bf) (e:=e) (w:=w) (c:=c) (a:=d) (I:=I2) (K:=gh λ_=>Rv none (Aq (AP bo)) λv25=>Rv none (AC 2 (AP bf)) λv26=>Gh (K (.tuple #[v25,v26])));simp only [List.append_assoc,List.singleton_append] at this;refine this (zAA ?_);refine rdb ?_;refine rdB rfl ?_;refine zAE L (zAA ?_);rw [hrd] at hok;exact hok I2 none 0 (zAB hI1 hI2) (zAD none 0)
  refine loop (λm s I2 Lx=>∃X v l2 w cells xs f,l2.length=m∧Ext I1 I2∧Lx=X++((bp,PBo v)::((bf,.cells #[.int .i64 0,.int .i64 0] 26 (0,0))::(bo,.cells #[w] 23 (0,0))::L))∧TL I2 v l2∧Toks l2∧SlO 48 51 X w cells xs.length∧Recs (TStmtV I2) 51 xs cells∧l2.length≤f∧xs.length+l2.length≤l.length∧Bd l.length (l.length+1) [] l=Bd l.length f xs l2) l.length
   ⟨[],_,l,.slice none 0 0,[],[],l.length+1,rfl,zAC _,rfl,hv1,hT,SlO.none _ _,rfl,by omega,by simp,rfl⟩ ?_
  rintro m s I2 Lx ⟨X,v2,l2,w,cells,xs,f,rfl,hI2,rfl,hTL,hT2,hX,hR,hf,hlen2,hm⟩;have hl2:=hT2.len;obtain ⟨f,rfl⟩:∃q,f=q+1:=⟨f - 1,by omega⟩;obtain ⟨aw,kw,rfl⟩:=hX.form;unfold AHO;obtain ⟨bt,off,h1,h2⟩:=hTL.hd hT2;have step:∀{I3:Imm} {X:LH} {v3 w3:Value} {cells3:List Value} {xs3:List TStmt} {l3:List Tok} {f3:Nat},Ext I2 I3→TL I3 v3 l3→Toks l3→l3.length < l2.length→SlO 48 51 X w3 cells3 xs3.length→Recs (TStmtV I3) 51 xs3 cells3→l3.length≤f3→xs3.length+l3.length≤l.length→Bd l.length (l.length+1) [] l=Bd l.length f3 xs3 l3→
    Gh (λI2 L'=>∃m',m' < l2.length∧∃X v l2 w cells xs f,l2.length=m'∧Ext I1 I2∧L'=X++((bp,PBo v)::((bf,.cells #[.int .i64 0,.int .i64 0] 26 (0,0))::(bo,.cells #[w] 23 (0,0))::L))∧TL I2 v l2∧Toks l2∧SlO 48 51 X w cells xs.length∧Recs (TStmtV I2) 51 xs cells∧l2.length≤f∧xs.length+l2.length≤l.length∧Bd l.length (l.length+1) [] l=Bd l.length f xs l2) I3 (X++((bp,PBo v3)::((bf,.cells #[.int .i64 0,.int .i64 0] 26 (0,0))::(bo,.cells #[w3] 23 (0,0))::L))):=
   λ{I3 X v3 w3 cells3 xs3 l3 f3} hI3 hv3 hT3 hlt hX3 hR3 hf3 hs3 hm3=>zAA ⟨l3.length,hlt,X,v3,l3,w3,cells3,xs3,f3,rfl,zAB hI2 hI3,rfl,hv3,hT3,hX3,hR3,hf3,hs3,hm3⟩
  rw [Xd l.length f xs l2] at hm;repeat' (first|refine zqa ?_|refine zqh (λ_=>?_)|((with_reducible refine rd1 (v:=.int .i64 (hd l2).kind) ?_ ?_);exact (h2 _ [] (zAC _) 0 _ rfl).mono (zAC _) (λ_ h=>by cases h))|refine zqr ?_|refine zqb ?_|refine zqi ?_ ?_|refine zqc ?_|refine zqg (λ_=>?_) (λ_=>?_)|(simp only [SSd,Nat.reduceAdd,h1]))
  ·rename_i hk
   have hk:isK l2 6=false:=by simpa [isK] using hk
   refine Aj (CV [59] hTL hT2 (λhb hT3 hl3 v3 hv3=>?_) (λhb=>?_))
   ·repeat' (first|refine zqa ?_|refine zqh (λ_=>?_)|refine zqr ?_|refine zqb ?_|refine zqi ?_ ?_|refine zqc ?_|refine zqg (λ_=>?_) (λ_=>?_)|refine zqe ?_|fail)
    exact step (f3:=f) (zAC _) hv3 hT3 (by omega) hX hR (by omega) (by omega) (by rw [hm];simp [hk,hb])
   try refine zqe ?_
   refine CU (b:=bp) ?_;refine EO ?_;refine AX (AEZ l.length (by omega) (exprs ω bp l.length (by omega)).1 hTL hT2 (by omega) (λy r hg hTr hr I3 v3 c hI3 hv3 hc=>?_) (λe hg I3 v3 hI3=>bad e (zAB hI2 hI3) (by rw [hm];simp [hk,hb,hg,Res.bind])));refine CS hI3 ?_;refine AWX hc (λI4 a4 hI4 hw4=>zAA ?_);refine CS (zAB hI3 hI4) ?_;obtain ⟨c4,s4,r4⟩:=RL.toI (by decide) hw4;refine Ee (X:=X) rfl hX s4.news (r4.one_cells λx c h=>TStmtV.one h) zL zL (λX5 w5 hX5=>?_);have e5:xs.length+[y].length=(xs++[y]).length:=by simp
   rw [e5] at hX5;have hR5:=Recs.append (Recs.imp (R':=TStmtV I4) (λ_ _ h=>TStmtV.mono h (zAB hI3 hI4)) hR) r4;obtain ⟨a5,k5,rfl⟩:=hX5.form;have hv4:=hv3.mono hI4;obtain ⟨bt4,off4,h14,h24⟩:=hv4.hd hTr;have next:isK r 6=true∨isT r [59]=true→_:=λhc=>step (l3:=r) (f3:=f) (xs3:=xs++[y]) (zAB hI3 hI4) hv4 hTr (by omega) hX5 hR5 (by omega) (by simp;omega) (by rw [hm];simp [hk,hb,hg,Res.bind];intro h1 h2;rw [h1,h2] at hc;simp at hc);repeat' (first|refine zqa ?_|refine zqh (λ_=>?_)|((with_reducible refine rd1 (v:=.int .i64 (hd r).kind) ?_ ?_);exact (h24 _ [] (zAC _) 0 _ rfl).mono (zAC _) (λ_ h=>by cases h))|((with_reducible refine Aj ?_);with_reducible refine Jo _ hv4 hTr (λhb2=>?_) (λhb2=>?_))|refine zqr ?_|refine zqb ?_|refine zqi ?_ ?_|refine zqc ?_|refine zqg (λ_=>?_) (λ_=>?_)|(simp only [SSd,Nat.reduceAdd,h14]))
   ·exact next (.inr hb2)
   ·rename_i hk6
    have hk6:isK r 6=false:=by simpa [isK] using hk6
    unfold AHN;exact AX (Ad hv4 hTr (bad _ (zAB hI2 (zAB hI3 hI4)) (by rw [hm];simp [hk,hb,hg,Res.bind,hk6,hb2];rfl)))
   ·rename_i hk6
    exact next (.inl (by simpa [isK] using hk6))
  ·rename_i hk
   have hk:isK l2 6=true:=by simpa [isK] using hk
   have hm:Bd l.length (l.length+1) [] l= .ok xs l2:=by rw [hm];simp [hk]
   rw [hm] at hrd;unfold AHM;repeat' (first|refine zqa ?_|refine zqh (λ_=>?_)|refine zqr ?_|refine zqb ?_|refine zqi ?_ ?_|refine zqc ?_|refine zqg (λ_=>?_) (λ_=>?_)|refine zqe ?_|fail)
   refine AQQ (zAA ?_);refine rdb ?_;refine rdB rfl ?_;refine zAE (X++L) ?_;refine RL.ofO (R:=TStmtV) (λ{I I' x c} h hI=>TStmtV.mono h hI) hX hR (λI3 hI3 hw=>zAA ?_);rw [hrd] at hok;exact hok I3 _ _ (zAB hI1 (zAB hI2 hI3)) hw
 ·have hrd:readA s=([],f):=by simp only [readA,hlx]
  rw [hrd] at hok;repeat' (first|refine zqa ?_|refine zqh (λ_=>?_)|refine zqr ?_|refine zqb ?_|refine zqi ?_ ?_|refine zqc ?_|refine zqg (λ_=>?_) (λ_=>?_)|refine zqe ?_|fail)
  ·exact zAE L (zAA (hok I1 none 0 hI1 (zAD none 0)))
  ·rename_i hz _
   exact absurd (by simpa using hz) hf
end
end Go.Proofs.YtkifgfanjcfedaaGreatDoor
