/- lemmas -/
import Derived.Test.YthkaekjoemhjaaaGreatDoorP5
import Derived.Test.YthkaekjoemhjaaaGreatDoorP4
import Derived.Test.YthkaekjoemhjaaaGreatDoorP3
import Derived.Test.YthkaekjoemhjaaaGreatDoorP2
set_option maxRecDepth 100000
set_option maxHeartbeats 40000000
set_option linter.unusedVariables false
set_option linter.unusedSimpArgs false
set_option linter.unusedSectionVars false
namespace Go.Proofs.YthkaekjoemhjaaaGreatDoor
open Go.SL
section
variable {ω:Om}{b:Nat}
theorem AEz (n:Nat)(hn0:n≤1000000000)(hE:FnE ω n b 227 (eP n)){I:Imm}{L:LH}{K Pn:Value→M}{C:Obj→LH}{v:Value}{l:List Tok}[hF:Foc b L (PBo v) C](h:TL I v l)(hT:Toks l)(hl:l.length≤n)
  (hok:∀x r,Iq n l= .ok x r→Toks r→r.length≤l.length→∀I' v' a0 k0 a1 k1 a2 k2 a3 k3 a4 k4 a5 k5,Ext I I'→TL I' v' r→RL TItemV 14 I' [] (.slice a0 x.fItems.length k0) x.fItems→RL TSourceV 14 I' [] (.slice a1 x.fFrom.length k1) x.fFrom→ExL I' (.slice a2 x.fWhere.args.length k2) x.fWhere.args→RL ExV 11 I' [] (.slice a3 x.fGroup.length k3) x.fGroup→ExL I' (.slice a4 x.fHaving.args.length k4) x.fHaving.args→RL TOrderV 12 I' [] (.slice a5 x.fOrder.length k5) x.fOrder→K (.agg #[.bool x.fDistinct,.slice a0 x.fItems.length k0,.slice a1 x.fFrom.length k1,.int .i64 x.fWhere.kind,.int .i64 x.fWhere.value.fType,.bool x.fWhere.value.fNull,.int .i64 x.fWhere.value.fInt,.string ⟨x.fWhere.value.fText.toArray⟩,.string ⟨x.fWhere.table.toArray⟩,.string ⟨x.fWhere.name.toArray⟩,.int .i64 x.fWhere.slot,.int .i64 x.fWhere.type,.bool x.fWhere.distinct,.slice a2 x.fWhere.args.length k2,.slice a3 x.fGroup.length k3,.int .i64 x.fHaving.kind,.int .i64 x.fHaving.value.fType,.bool x.fHaving.value.fNull,.int .i64 x.fHaving.value.fInt,.string ⟨x.fHaving.value.fText.toArray⟩,.string ⟨x.fHaving.table.toArray⟩,.string ⟨x.fHaving.name.toArray⟩,.int .i64 x.fHaving.slot,.int .i64 x.fHaving.type,.bool x.fHaving.distinct,.slice a4 x.fHaving.args.length k4,.slice a5 x.fOrder.length k5,.int .i64 x.fLimit,.int .i64 x.fOffset]) I' (C (PBo v')))
  (herr:PEr (Iq n l) Pn C I):CalP Tryz.prog ω 186 #[Ac b] K Pn I L:=by
 refine (AFA n hn0 hE).go h hT hl (λx r hg hT' hr I' v' c hI' hv' hc=>?_) herr;obtain ⟨v0,v1,v2,v3,v4,v5,rfl,h0,h1,h2,h3,h4,h5⟩:=hc;obtain ⟨a0,k0,rfl⟩:=zAF h0;obtain ⟨a1,k1,rfl⟩:=zAF h1;obtain ⟨a2,k2,rfl⟩:=zAF h2;obtain ⟨a3,k3,rfl⟩:=zAF h3;obtain ⟨a4,k4,rfl⟩:=zAF h4;obtain ⟨a5,k5,rfl⟩:=zAF h5;exact hok x r hg hT' hr I' v' a0 k0 a1 k1 a2 k2 a3 k3 a4 k4 a5 k5 hI' hv' h0 h1 h2 h3 h4 h5
theorem row_one (n:Nat)(hn0:n≤1000000000)(hE:FnE ω n b 227 (eP n)){I:Imm}:OneP ω n b (CP n (eP n)) (ARs ExV 11) (.func (.func 191) #[Ac b] #[]) I:=by
 intro K Pn I' L C v l hF hI h hT hl hok herr;refine Lc (by kernel_rfl) (VQ n hn0 hE h hT hl (λx r hg hT' hr I' v' w hI hv' hw=>hok x r hg hT' hr I' v' w hI hv' hw.1) herr)
theorem ACd (n:Nat)(hn0:n≤1000000000):FnV ω n b 195 (Gi n) TStmtV:=by
 intro K Pn I L C v l hF h hT hl hok herr;obtain ⟨L1,L2,rfl,rfl⟩:=hF.foc;have hTb:=ADH (ω:=ω) (b:=b) n hn0;refine AOA ?_;unfold AKI;have hl0:=hT.len;repeat' (first|(with_reducible first|refine Bo (b:=b) ?_|refine keepA ?_|refine Ap (λ_=>?_))|(with_reducible refine AX ?_;refine hTb.go zT zA zo (λx r hg hT3 hr I' v' c hI' hv' hc=>?_) (λe hg I' v' hI'=>?_))|(with_reducible refine AX ?_;refine Pz n hn0 zT zA zo (λx r hg hT3 hr I' v' a' k' hI' hv' hw' hpos=>?_) (λe hg I' v' hI'=>?_))|((with_reducible refine stB ?_ ?_ ?_ ?_);exact TStmtV.len zA;rfl;exact TStmtV.one zA)|((with_reducible refine rdB ?_ ?_);exact TStmtV.len zA)|(with_reducible refine Ai ?_;refine Bv _ zT zA (λhb hT' hl' v' hv'=>?_) (λhb=>?_))|(with_reducible refine Bd _ zT zA (λhb hT' hl' I' v' hI' hv'=>?_) (λhb I' v' hI'=>?_))|(with_reducible refine AX ?_;refine CS zT zA (λhb hT' hl' v' hv'=>?_) (λhb=>?_))|(with_reducible refine AX ?_;refine Af zT zA ?_)|(with_reducible first|refine Cb zC (λI' a hI' hw'=>zAA ?_)|refine CJ zC zC (λI' a hI' hw'=>zAA ?_)|refine Cj zC zC zC (λI' a hI' hw'=>zAA ?_))|(with_reducible refine Ai ?_;refine BC zC ?_)|refine zqr ?_|refine zqb ?_|refine zqi ?_ ?_|refine zqc ?_|refine zqg (λhb=>?_) (λhb=>?_)|refine zqe ?_|fail)
 all_goals first
  |exact zAE (L1++(b,PBo v')::L2) (zAA (herr _ (by simp [Gi,Aw,Res.bind,bad,AO, *] <;> rfl) _ _ zE))
  |exact zAE (L1++(b,PBo v')::L2) (zAA (hok x _ (by simp [Gi,Res.bind, *] <;> rfl) zA zo _ _ _ zE zT zA))
  |exact zAE (L1++(b,PBo v')::L2) (zAA (hok {(default:TStmt) with fKind:=6,fIndex:=⟨(hd l.tail.tail).text,(hd l.tail.tail.tail.tail).text,x,true⟩} _ (by simp [Gi,Aw,AO,Res.bind, *] <;> rfl) zA zo _ _ _ zE zT ⟨_,_,_,_,_,_,_,_,_,_,_,_,_,rfl,zAD none 0,zAD none 0,zAD none 0,zAD none 0,zAD none 0,zAD none 0,zAD none 0,zAD none 0,zAD none 0,zAD none 0,zAD none 0,zAD none 0,(StL.mono hw' zE)⟩))
  |exact zAE (L1++(b,PBo v')::L2) (zAA (hok {(default:TStmt) with fKind:=6,fIndex:=⟨(hd l.tail).text,(hd l.tail.tail.tail).text,x,false⟩} _ (by simp [Gi,Aw,AO,Res.bind, *] <;> rfl) zA zo _ _ _ zE zT ⟨_,_,_,_,_,_,_,_,_,_,_,_,_,rfl,zAD none 0,zAD none 0,zAD none 0,zAD none 0,zAD none 0,zAD none 0,zAD none 0,zAD none 0,zAD none 0,zAD none 0,zAD none 0,zAD none 0,(StL.mono hw' zE)⟩))
theorem ABZ (n:Nat)(hn0:n≤1000000000)(hE:FnE ω n b 227 (eP n)){I:Imm}{L:LH}{K Pn:Value→M}{C:Obj→LH}{v:Value}{l:List Tok}[hF:Foc b L (PBo v) C](h:TL I v l)(hT:Toks l)(hl:l.length≤n)
  (hok:VOk TStmtV (ES n l) (l.length - 1) K C I) (herr:PEr (ES n l) Pn C I):CalP Tryz.prog ω 153 #[Ac b] K Pn I L:=by
 obtain ⟨L1,L2,rfl,rfl⟩:=hF.foc;have hCr:=ACd (ω:=ω) (b:=b) n hn0;refine AOS ?_;unfold sh153;have hl0:=hT.len;repeat' (first|(with_reducible first|refine Bo (b:=b) ?_|refine keepA ?_|refine Ap (λ_=>?_))|(with_reducible refine AX ?_;refine AEz n hn0 hE zT zA zo (λx r hg hT3 hr I' v' a0 k0 a1 k1 a2 k2 a3 k3 a4 k4 a5 k5 hI' hv' h0 h1 h2 h3 h4 h5=>?_) (λe hg I' v' hI'=>?_))|(with_reducible refine AX ?_;refine hCr.go zT zA zo (λx r hg hT3 hr I' v' c hI' hv' hc=>?_) (λe hg I' v' hI'=>?_))|(with_reducible refine AX ?_;refine Pz n hn0 zT zA zo (λns r1 hg1 hT4 hr1 I' v' a1 k1 hI' hv' hw1 hpos=>?_) (λe hg I' v' hI'=>?_))|(with_reducible refine Ai ?_;refine IK _ zT zA (λhb=>?_) (λhb=>?_))|(with_reducible refine AX ?_;refine ALr n hn0 (row_one n hn0 hE) zT zA zo (LC (λx r hg hT3 hr I' v' a' k' hI' hv' hw' hx'=>?_)) (λe hg I' v' hI'=>?_))|(with_reducible refine AX ?_;refine ALo n hn0 ((ALv n hE).one rfl) zT zA zo (LC (λss r1 hg1 hT4 hr1 I' v' a1 k1 hI' hv' hw1 hx1=>?_)) (λe hg I' v' hI'=>?_))|(with_reducible refine AX ?_;refine KQ n hE _ zT zA zo (λy r hg hT3 hr I' v' a' k' hI' hv' hw'=>?_) (λe hg I' v' hI'=>?_))|((with_reducible refine stB ?_ ?_ ?_ ?_);exact TStmtV.len zA;rfl;exact TStmtV.one zA)|((with_reducible refine rdB ?_ ?_);exact TStmtV.len zA)|(with_reducible refine Ai ?_;refine Bv _ zT zA (λhb hT' hl' v' hv'=>?_) (λhb=>?_))|(with_reducible refine Bd _ zT zA (λhb hT' hl' I' v' hI' hv'=>?_) (λhb I' v' hI'=>?_))|(with_reducible refine AX ?_;refine CS zT zA (λhb hT' hl' v' hv'=>?_) (λhb=>?_))|(with_reducible refine AX ?_;refine Af zT zA ?_)|(with_reducible first|refine Cb zC (λI' a hI' hw'=>zAA ?_)|refine CJ zC zC (λI' a hI' hw'=>zAA ?_)|refine Cj zC zC zC (λI' a hI' hw'=>zAA ?_))|(with_reducible refine Ai ?_;refine BC zC ?_)|refine zqr ?_|refine zqb ?_|(with_reducible first|refine BI (sh153_1.eq_1 ..) ?_|refine BI (sh153.eq_1 ..) ?_|refine And.intro ?_ ?_)|refine zqc ?_|refine zqg (λhb=>?_) (λhb=>?_)|refine zqe ?_|fail)
 all_goals first
  |exact zAE (L1++(b,PBo v')::L2) (zAA (herr _ (by simp [ES,EI,EG,EJ,Gg,Aw,AO,Res.bind,bad, *] <;> rfl) _ _ zE))
  |exact zAE (L1++(b,PBo v')::L2) (zAA (hok x _ (by simp [ES,Res.bind, *] <;> rfl) zA zo _ _ _ zE zT zA))
  |exact zAE (L1++(b,PBo v')::L2) (zAA (hok {(default:TStmt) with fKind:=1,fSelect:=x} _ (by simp [ES,EI,EG,EJ,Gg,Aw,AO,Res.bind, *] <;> rfl) zA zo _ _ _ zE zT ⟨_,_,_,_,_,_,_,_,_,_,_,_,_,rfl,h0,h1,h2,h3,h4,h5,zAD none 0,zAD none 0,zAD none 0,zAD none 0,zAD none 0,zAD none 0,zAD none 0⟩))
  |exact zAE (L1++(b,PBo v')::L2) (zAA (hok {(default:TStmt) with fKind:=2,fTable:=(hd l.tail.tail).text,fColumns:=ns,fRows:=x} _ (by simp [ES,EI,EG,EJ,Gg,Aw,AO,Res.bind, *] <;> rfl) zA zo _ _ _ zE zT ⟨_,_,_,_,_,_,_,_,_,_,_,_,_,rfl,zAD none 0,zAD none 0,zAD none 0,zAD none 0,zAD none 0,zAD none 0,(StL.mono hw1 zE),hw',zAD none 0,zAD none 0,zAD none 0,zAD none 0,zAD none 0⟩))
  |exact zAE (L1++(b,PBo v')::L2) (zAA (hok {(default:TStmt) with fKind:=2,fTable:=(hd l.tail.tail).text,fColumns:=[],fRows:=x} _ (by simp [ES,EI,EG,EJ,Gg,Aw,AO,Res.bind, *] <;> rfl) zA zo _ _ _ zE zT ⟨_,_,_,_,_,_,_,_,_,_,_,_,_,rfl,zAD none 0,zAD none 0,zAD none 0,zAD none 0,zAD none 0,zAD none 0,zAD none 0,hw',zAD none 0,zAD none 0,zAD none 0,zAD none 0,zAD none 0⟩))
  |exact zAE (L1++(b,PBo v')::L2) (zAA (hok {(default:TStmt) with fKind:=3,fTable:=(hd l.tail).text,fSets:=ss,fWhere:=y} _ (by simp [ES,EI,EG,EJ,Gg,Aw,AO,Res.bind, *] <;> rfl) zA zo _ _ _ zE zT ⟨_,_,_,_,_,_,_,_,_,_,_,_,_,rfl,zAD none 0,zAD none 0,zAD none 0,zAD none 0,zAD none 0,zAD none 0,zAD none 0,zAD none 0,(zAI (λ_ _ h=>TSetV.mono h zE) hw1 zE (λ_ h=>by cases h)),zC,zAD none 0,zAD none 0,zAD none 0⟩))
  |exact zAE (L1++(b,PBo v')::L2) (zAA (hok {(default:TStmt) with fKind:=4,fTable:=(hd l.tail.tail).text,fWhere:=y} _ (by simp [ES,EI,EG,EJ,Gg,Aw,AO,Res.bind, *] <;> rfl) zA zo _ _ _ zE zT ⟨_,_,_,_,_,_,_,_,_,_,_,_,_,rfl,zAD none 0,zAD none 0,zAD none 0,zAD none 0,zAD none 0,zAD none 0,zAD none 0,zAD none 0,zAD none 0,zC,zAD none 0,zAD none 0,zAD none 0⟩))
  |exact zAE (L1++(b,PBo v')::L2) (zAA (hok {(default:TStmt) with fKind:=7,fTable:=(hd l.tail.tail).text} _ (by simp [ES,EI,EG,EJ,Gg,Aw,AO,Res.bind, *] <;> rfl) zA zo _ _ _ zE zT ⟨_,_,_,_,_,_,_,_,_,_,_,_,_,rfl,zAD none 0,zAD none 0,zAD none 0,zAD none 0,zAD none 0,zAD none 0,zAD none 0,zAD none 0,zAD none 0,zAD none 0,zAD none 0,zAD none 0,zAD none 0⟩))
  |exact zAE (L1++(b,PBo v')::L2) (zAA (hok {(default:TStmt) with fKind:=8,fIndex:=⟨(hd l.tail.tail).text,[],[],false⟩} _ (by simp [ES,EI,EG,EJ,Gg,Aw,AO,Res.bind, *] <;> rfl) zA zo _ _ _ zE zT ⟨_,_,_,_,_,_,_,_,_,_,_,_,_,rfl,zAD none 0,zAD none 0,zAD none 0,zAD none 0,zAD none 0,zAD none 0,zAD none 0,zAD none 0,zAD none 0,zAD none 0,zAD none 0,zAD none 0,zAD none 0⟩))
  |exact zAE (L1++(b,PBo v')::L2) (zAA (hok {(default:TStmt) with fKind:=9} _ (by simp [ES,EI,EG,EJ,Gg,Aw,AO,Res.bind, *] <;> rfl) zA zo _ _ _ zE zT ⟨_,_,_,_,_,_,_,_,_,_,_,_,_,rfl,zAD none 0,zAD none 0,zAD none 0,zAD none 0,zAD none 0,zAD none 0,zAD none 0,zAD none 0,zAD none 0,zAD none 0,zAD none 0,zAD none 0,zAD none 0⟩))
  |exact zAE (L1++(b,PBo v')::L2) (zAA (hok {(default:TStmt) with fKind:=10} _ (by simp [ES,EI,EG,EJ,Gg,Aw,AO,Res.bind, *] <;> rfl) zA zo _ _ _ zE zT ⟨_,_,_,_,_,_,_,_,_,_,_,_,_,rfl,zAD none 0,zAD none 0,zAD none 0,zAD none 0,zAD none 0,zAD none 0,zAD none 0,zAD none 0,zAD none 0,zAD none 0,zAD none 0,zAD none 0,zAD none 0⟩))
  |exact zAE (L1++(b,PBo v')::L2) (zAA (hok {(default:TStmt) with fKind:=11} _ (by simp [ES,EI,EG,EJ,Gg,Aw,AO,Res.bind, *] <;> rfl) zA zo _ _ _ zE zT ⟨_,_,_,_,_,_,_,_,_,_,_,_,_,rfl,zAD none 0,zAD none 0,zAD none 0,zAD none 0,zAD none 0,zAD none 0,zAD none 0,zAD none 0,zAD none 0,zAD none 0,zAD none 0,zAD none 0,zAD none 0⟩))
end
def EK (ω:Om)(G:Imm):Prop:=∀(s:Bs) (K:Value→M) (I:Imm) (L:LH),Ext G I→s.length≤900000000→
 (∀l,AFf s= .toks l→Toks l→l.length≤s.length+1→∀I' v,Ext I I'→TL I' v l→K (.tuple #[v,.agg #[.int .i64 0,.int .i64 0]]) I' L)→
 (∀f,AFf s= .bad f→f.code≠0→∀I' a m k,Ext I I'→K (.tuple #[.slice a m k,.agg #[.int .i64 f.code,.int .i64 f.at']]) I' L)→CT ω 150 #[.string ⟨s.toArray⟩] K I L
theorem ASF {I:Imm}{L:LH}{K:Value→M}{x:TStmt}{c:List Value}(hc:TStmtV I x c)(hk:∀I' a,Ext I I'→RL TStmtV 51 I' [] (.slice a 1 1) [x]→Gh (K (.slice a 1 1)) I' L):
  AC 76 51 #[.int .i64 0,.bool false,.slice none 0 0,.slice none 0 0,.int .i64 0,.int .i64 0,.bool false,.int .i64 0,.string ⟨#[]⟩,.string ⟨#[]⟩,.string ⟨#[]⟩,.int .i64 0,.int .i64 0,.bool false,.slice none 0 0,.slice none 0 0,.int .i64 0,.int .i64 0,.bool false,.int .i64 0,.string ⟨#[]⟩,.string ⟨#[]⟩,.string ⟨#[]⟩,.int .i64 0,.int .i64 0,.bool false,.slice none 0 0,.slice none 0 0,.int .i64 0,.int .i64 0,.string ⟨#[]⟩,.slice none 0 0,.slice none 0 0,.slice none 0 0,.int .i64 0,.int .i64 0,.bool false,.int .i64 0,.string ⟨#[]⟩,.string ⟨#[]⟩,.string ⟨#[]⟩,.int .i64 0,.int .i64 0,.bool false,.slice none 0 0,.slice none 0 0,.slice none 0 0,.string ⟨#[]⟩,.string ⟨#[]⟩,.slice none 0 0,.bool false] 1 [(0,.agg c.toArray)] (gh K) I L:=
 Eg (R:=TStmtV) [x] [c] rfl rfl rfl (by simpa using hc.len) (by simpa using hc) (λhI h=>TStmtV.mono h hI) hk
theorem Ux (n m:Nat)(acc:List TStmt)(l:List Tok):Cm n (m+1) acc l=if isK l 6 then .ok acc l else if isT l [59] then Cm n m acc l.tail else
  (ES n l).bind λs r=>if isK r 6||isT r [59] then Cm n m (acc++[s]) r else Go.Proofs.YthkaekjoemhjaaaGreatDoor.bad r:=rfl
section
variable {ω:Om}
theorem AIF {I:Imm}{L1 L2:LH}{bo bf:Nat}{K:Value→M}{e:Nat}{w c a:Value}(hk:K (.tuple #[]) I (L1++((bf,.cells #[.int .i64 174,.int .i64 e] 157 (0,0))::(bo,.cells #[.slice none 0 0] 84 (0,0))::L2))):
  CalDR Tryz.prog ω 151 #[Ac bo,Ac bf] (En e) K I (L1++((bf,.cells #[c,a] 157 (0,0))::(bo,.cells #[w] 84 (0,0))::L2)):=by
 refine AIn ?_;unfold sh151;have e1:Nk true .neq (En e) .nilIface=some (.bool true):=rfl;have e2:Wx 241 (.agg #[.int .i64 0]) (En e)=some (.tuple #[.agg #[.int .i64 e],.bool true]):=rfl;simp only [e1,e2,SSd,Nat.reduceAdd];refine Ap (λb1=>?_);repeat' (first|refine zqa ?_|refine zqh (λ_=>?_)|refine zqr ?_|refine zqb ?_|(with_reducible first|refine BI (sh151_1.eq_1 ..) ?_|refine BI (sh151.eq_1 ..) ?_|refine And.intro ?_ ?_)|refine zqc ?_|refine zqg (λ_=>?_) (λ_=>?_)|(simp only [SSd,Nat.reduceAdd,LY]))
 exact zAE _ (zAA hk)
theorem AME {I:Imm}{L:LH}{bo bf:Nat}{K:Value→M}(hk:K (.tuple #[]) I L):CalD Tryz.prog ω 151 #[Ac bo,Ac bf] K I L:=by
 refine AIp ?_;unfold sh151;have e1:Nk true .neq .nilIface .nilIface=some (.bool false):=rfl;simp only [e1,SSd,Nat.reduceAdd];exact zAA hk
theorem ABq {G:Imm}(hTok:EK ω G)(s:Bs)(hs:s.length≤900000000){I:Imm}{L:LH}{K:Value→M}(hG:Ext G I)
  (hok:∀I' a k,Ext I I'→RL TStmtV 51 I' [] (.slice a (readA s).1.length k) (readA s).1→K (.tuple #[.slice a (readA s).1.length k,.agg #[.int .i64 (readA s).2.code,.int .i64 (readA s).2.at']]) I' L):
  CT ω 124 #[.string ⟨s.toArray⟩] K I L:=by
 refine AOd ?_;unfold AKk;refine Ap (λbo=>?_);refine Ap (λbf=>?_);refine Ai (hTok s _ _ _ hG hs (λl hlx hT hlen I1 v1 hI1 hv1=>?_) (λf hlx hf I1 a m k hI1=>?_))
 ·have hrd:readA s=match Cm l.length (l.length+1) [] l with
    | .ok x _=>(x,ok0)
    | .err a=>([],⟨174,a⟩):=by
   simp only [readA,hlx];cases Cm l.length (l.length+1) [] l <;> rfl
  obtain ⟨a,k,rfl⟩:=zAF hv1;repeat' (first|refine zqa ?_|refine zqh (λ_=>?_)|refine zqr ?_|refine zqb ?_|refine zqi ?_ ?_|refine zqc ?_|refine zqg (λ_=>?_) (λ_=>?_)|refine zqe ?_|fail)
  rename_i bp
  have bad:∀(e:Nat) {I2:Imm} {X:LH} {vp w c d:Value},Ext I1 I2→Cm l.length (l.length+1) [] l= .err e→CalDR Tryz.prog ω 151 #[Ac bo,Ac bf] (En e) (gh λ_=>Rv none (BF (Ac bo)) λv25=>Rv none (AB 2 (Ac bf)) λv26=>Gh (K (.tuple #[v25,v26]))) I2 (X++((bp,PBo vp)::((bf,.cells #[c,d] 157 (0,0))::(bo,.cells #[w] 84 (0,0))::L))):=by
   intro e I2 X vp w c d hI2 hg;rw [hg] at hrd;have:=AIF (ω:=ω) (L1:=X++[(bp,PBo vp)]) (L2:=L) (bo:=bo) (bf:=bf) (e:=e) (w:=w) (c:=c) (a:=d) (I:=I2) (K:=gh λ_=>Rv none (BF (Ac bo)) λv25=>Rv none (AB 2 (Ac bf)) λv26=>Gh (K (.tuple #[v25,v26])));simp only [zt,List.singleton_append] at this;refine this (zAA ?_);refine rdb ?_;refine rdB rfl ?_;refine zAE L (zAA ?_);rw [hrd] at hok;exact hok I2 none 0 (zAB hI1 hI2) (zAD none 0)
  refine loop (λm s I2 Lx=>∃X v l2 w cells xs f,l2.length=m∧Ext I1 I2∧Lx=X++((bp,PBo v)::((bf,.cells #[.int .i64 0,.int .i64 0] 157 (0,0))::(bo,.cells #[w] 84 (0,0))::L))∧TL I2 v l2∧Toks l2∧SlO 76 51 X w cells xs.length∧Recs (TStmtV I2) 51 xs cells∧l2.length≤f∧xs.length+l2.length≤l.length∧Cm l.length (l.length+1) [] l=Cm l.length f xs l2) l.length
   ⟨[],_,l,.slice none 0 0,[],[],l.length+1,rfl,zAC _,rfl,hv1,hT,zAJ _ _,rfl,by omega,by simp,rfl⟩ ?_
  rintro m s I2 Lx ⟨X,v2,l2,w,cells,xs,f,rfl,hI2,rfl,hTL,hT2,hX,hR,hf,hlen2,hm⟩;have hl2:=hT2.len;obtain ⟨f,rfl⟩:∃q,f=q+1:=⟨f - 1,by omega⟩;obtain ⟨aw,kw,rfl⟩:=hX.form;unfold AAS;obtain ⟨bt,off,h1,h2⟩:=hTL.hd hT2;have step:∀{I3:Imm} {X:LH} {v3 w3:Value} {cells3:List Value} {xs3:List TStmt} {l3:List Tok} {f3:Nat},Ext I2 I3→TL I3 v3 l3→Toks l3→l3.length < l2.length→SlO 76 51 X w3 cells3 xs3.length→Recs (TStmtV I3) 51 xs3 cells3→l3.length≤f3→xs3.length+l3.length≤l.length→Cm l.length (l.length+1) [] l=Cm l.length f3 xs3 l3→
    Gh (λI2 L'=>∃m',m' < l2.length∧∃X v l2 w cells xs f,l2.length=m'∧Ext I1 I2∧L'=X++((bp,PBo v)::((bf,.cells #[.int .i64 0,.int .i64 0] 157 (0,0))::(bo,.cells #[w] 84 (0,0))::L))∧TL I2 v l2∧Toks l2∧SlO 76 51 X w cells xs.length∧Recs (TStmtV I2) 51 xs cells∧l2.length≤f∧xs.length+l2.length≤l.length∧Cm l.length (l.length+1) [] l=Cm l.length f xs l2) I3 (X++((bp,PBo v3)::((bf,.cells #[.int .i64 0,.int .i64 0] 157 (0,0))::(bo,.cells #[w3] 84 (0,0))::L))):=
   λ{I3 X v3 w3 cells3 xs3 l3 f3} hI3 hv3 hT3 hlt hX3 hR3 hf3 hs3 hm3=>zAA ⟨l3.length,hlt,X,v3,l3,w3,cells3,xs3,f3,rfl,zAB hI2 hI3,rfl,hv3,hT3,hX3,hR3,hf3,hs3,hm3⟩
  rw [Ux l.length f xs l2] at hm;repeat' (first|refine zqa ?_|refine zqh (λ_=>?_)|((with_reducible refine rd1 (v:=.int .i64 (hd l2).kind) ?_ ?_);exact (h2 _ [] (zAC _) 0 _ rfl).mono (zAC _) (λ_ h=>by cases h))|refine zqr ?_|refine zqb ?_|refine zqi ?_ ?_|refine zqc ?_|refine zqg (λ_=>?_) (λ_=>?_)|(simp only [SSd,Nat.reduceAdd,h1]))
  ·rename_i hk
   have hk:isK l2 6=false:=by simpa [isK] using hk
   refine Ai (Bv [59] hTL hT2 (λhb hT3 hl3 v3 hv3=>?_) (λhb=>?_))
   ·repeat' (first|refine zqa ?_|refine zqh (λ_=>?_)|refine zqr ?_|refine zqb ?_|refine zqi ?_ ?_|refine zqc ?_|refine zqg (λ_=>?_) (λ_=>?_)|refine zqe ?_|fail)
    exact step (f3:=f) (zAC _) hv3 hT3 zo hX hR zo zo (by rw [hm];simp [hk,hb])
   try refine zqe ?_
   refine Bo (b:=bp) ?_;refine BJ ?_;refine AX (ABZ l.length zo (exprs ω bp l.length zo).1 hTL hT2 zo (λy r hg hTr hr I3 v3 c hI3 hv3 hc=>?_) (λe hg I3 v3 hI3=>bad e (zAB hI2 hI3) (by rw [hm];simp [hk,hb,hg,Res.bind])));refine BK hI3 ?_;refine ASF hc (λI4 a4 hI4 hw4=>zAA ?_);refine BK (zAB hI3 hI4) ?_;obtain ⟨c4,s4,r4⟩:=RL.toI zx hw4;refine BL (X:=X) rfl hX s4.news (r4.one_cells λx c h=>TStmtV.one h) zL zL (λX5 w5 hX5=>?_);have e5:xs.length+[y].length=(xs++[y]).length:=by simp
   rw [e5] at hX5;have hR5:=zAN (Recs.imp (R':=TStmtV I4) (λ_ _ h=>TStmtV.mono h (zAB hI3 hI4)) hR) r4;obtain ⟨a5,k5,rfl⟩:=hX5.form;have hv4:=hv3.mono hI4;obtain ⟨bt4,off4,h14,h24⟩:=hv4.hd hTr;have next:isK r 6=true∨isT r [59]=true→_:=λhc=>step (l3:=r) (f3:=f) (xs3:=xs++[y]) (zAB hI3 hI4) hv4 hTr zo hX5 hR5 zo zu (by rw [hm];simp [hk,hb,hg,Res.bind];intro h1 h2;rw [h1,h2] at hc;simp at hc);repeat' (first|refine zqa ?_|refine zqh (λ_=>?_)|((with_reducible refine rd1 (v:=.int .i64 (hd r).kind) ?_ ?_);exact (h24 _ [] (zAC _) 0 _ rfl).mono (zAC _) (λ_ h=>by cases h))|(with_reducible refine Ai ?_;refine IK _ hv4 hTr (λhb2=>?_) (λhb2=>?_))|refine zqr ?_|refine zqb ?_|refine zqi ?_ ?_|refine zqc ?_|refine zqg (λ_=>?_) (λ_=>?_)|(simp only [SSd,Nat.reduceAdd,h14]))
   ·exact next (.inr hb2)
   ·rename_i hk6
    have hk6:isK r 6=false:=by simpa [isK] using hk6
    unfold AAR;exact AX (Af hv4 hTr (bad _ (zAB hI2 (zAB hI3 hI4)) (by rw [hm];simp [hk,hb,hg,Res.bind,hk6,hb2];rfl)))
   ·rename_i hk6
    exact next (.inl (by simpa [isK] using hk6))
  ·rename_i hk
   have hk:isK l2 6=true:=by simpa [isK] using hk
   have hm:Cm l.length (l.length+1) [] l= .ok xs l2:=by rw [hm];simp [hk]
   rw [hm] at hrd;unfold AAQ;repeat' (first|refine zqa ?_|refine zqh (λ_=>?_)|refine zqr ?_|refine zqb ?_|refine zqi ?_ ?_|refine zqc ?_|refine zqg (λ_=>?_) (λ_=>?_)|refine zqe ?_|fail)
   refine AME (zAA ?_);refine rdb ?_;refine rdB rfl ?_;refine zAE (X++L) ?_;refine RL.ofO (R:=TStmtV) (λ{I I' x c} h hI=>TStmtV.mono h hI) hX hR (λI3 hI3 hw=>zAA ?_);rw [hrd] at hok;exact hok I3 _ _ (zAB hI1 (zAB hI2 hI3)) hw
 ·have hrd:readA s=([],f):=by simp only [readA,hlx]
  rw [hrd] at hok;repeat' (first|refine zqa ?_|refine zqh (λ_=>?_)|refine zqr ?_|refine zqb ?_|refine zqi ?_ ?_|refine zqc ?_|refine zqg (λ_=>?_) (λ_=>?_)|refine zqe ?_|fail)
  ·exact zAE L (zAA (hok I1 none 0 hI1 (zAD none 0)))
  ·rename_i hz _
   exact absurd (by simpa using hz) hf
end
theorem AAo:∀{l:Bs} {n k:Int},(∀d∈l,CG d=true)→0≤n→n≤9223372036854775807→Px l n=some k→0≤k∧k≤9223372036854775807
 |[],n,k,_,h0,h1,h=>by simp only [Px,zn] at h;subst h;exact ⟨h0,h1⟩
 |d::r,n,k,hd,h0,h1,h=>by
  have hdg:=hd d (zJ ..);simp only [CG,zQ,decide_eq_true_eq] at hdg;have g1:(48:Nat)≤d.toNat:=hdg.1;have g2:d.toNat≤57:=hdg.2;simp only [Px] at h;split at h
  ·cases h
  ·exact AAo (λe he=>hd e (zV _ he)) zo zo h
theorem AIJ {a:Nat}:∀{l:Bs} {t:Tok} {r:Bs},Iz a l= .tok t r→ABH t
 |[],t,r,h=>by simp [Iz] at h
 |c::l,t,r,h=>by
  simp only [Iz] at h;split at h
  ·unfold Oe at h;split at h
   ·cases h
   ·simp only [LexR.tok.injEq] at h;obtain ⟨rfl,_⟩:=h;refine ⟨?_,?_,?_,?_⟩
    ·simp only;split <;> decide
    ·simp only
     intro hk;split at hk
     ·rename_i hc;exact List.contains_iff_mem.1 hc
     ·exact absurd hk zx
    iterate 2
     ·simp only;intro hk;split at hk <;> exact absurd hk zx
  split at h
  ·split at h
   ·cases h
   ·rename_i k hk
    split at h
    ·cases h
    ·simp only [LexR.tok.injEq] at h;obtain ⟨rfl,_⟩:=h;exact ⟨by simp,by simp,by simp,λ_=>AAo (λd hd=>Dz hd) zo zo hk⟩
  split at h
  ·split at h
   ·cases h
   ·split at h
    ·split at h
     ·cases h
     ·simp only [LexR.tok.injEq] at h;obtain ⟨rfl,_⟩:=h;exact ⟨by simp,by simp,by simp,by simp⟩
    ·simp only [LexR.tok.injEq] at h;obtain ⟨rfl,_⟩:=h;exact ⟨by simp,by simp,by simp,by simp⟩
  split at h
  ·cases h
  ·rename_i x hx
   simp only [LexR.tok.injEq] at h;obtain ⟨rfl,_⟩:=h;refine ⟨by simp,by simp,λ_=>?_,by simp⟩;simp only
   split
   ·decide
   ·exact List.mem_of_find?_eq_some hx
theorem Pq {a:Nat}:∀{l:Bs} {e:Int},Iz a l= .bad e→e≠0
 |[],e,h=>by simp only [Iz,LexR.bad.injEq] at h;subst h;decide
 |c::l,e,h=>by
  simp only [Iz,Oe] at h;repeat' split at h
  all_goals first
   |(simp only [LexR.bad.injEq] at h;subst h;decide)
   |cases h
theorem Toks.snoc:∀{l:List Tok} {t:Tok},(∀x∈l,ABH x)→t.kind=6→Toks (l++[t])
 |[],t,_,h=>h
 |[x],t,hl,h=>⟨hl x (zJ ..),h⟩
 |x::y::l,t,hl,h=>⟨hl x (zJ ..),Toks.snoc (l:=y::l) (λz hz=>hl z (zV _ hz)) h⟩
theorem RN (l:Bs):DC false (DC false l)=DC false l:=by
 have go:∀(b:Bool) (l:Bs),DC false (DC b l)=DC b l:=by
  intro b l;induction l generalizing b with
  |nil=>cases b <;> rfl
  |cons c r ih=>
   cases b with
   |true=>
    simp only [DC];split
    ·exact ih false
    ·exact ih true
   |false=>
    simp only [DC];split
    ·exact ih false
    ·rename_i h1
     split
     ·exact ih true
     ·rename_i h2
      simp only [DC,h1,h2,zl,if_false]
 exact go false l
def ADC (n f:Nat)(acc:List Tok):Bs→LexA
 |[]=>.toks (acc++[⟨6,n,[],0⟩])
 |c::r=>match Iz (n - (r.length+1)) (c::r) with
   | .bad e=>.bad ⟨e,(n - (r.length+1):Nat)⟩
   | .tok t r'=>Ij n f (acc++[t]) r'
theorem Oj (n f:Nat)(acc:List Tok)(s:Bs):Ij n (f+1) acc s=ADC n f acc (DC false s):=by
 rw [Ij];unfold ADC;cases DC false s <;> rfl
def AHR (ω:Om)(G:Imm):Prop:=∀(K:Value→M) (I:Imm) (L:LH),Ext G I→(∀I' v,Ext I I'→StL I' v wordsL→K v I' L)→CT ω 182 #[] K I L
section
variable {ω:Om}
theorem AHM {I:Imm}{L:LH}{K:Value→M}(t:Tok)(hk:∀I' a,Ext I I'→TL I' (.slice a 1 1) [t]→Gh (K (.slice a 1 1)) I' L):
  AC 247 4 #[.int .i64 0,.int .i64 0,.string ⟨#[]⟩,.int .i64 0] 1 [(0,.agg #[.int .i64 t.kind,.int .i64 t.at',.string ⟨t.text.toArray⟩,.int .i64 t.num])] (gh K) I L:=
 Eg (R:=TokV) [t] [[.int .i64 t.kind,.int .i64 t.at',.string ⟨t.text.toArray⟩,.int .i64 t.num]] rfl rfl rfl zy (by simp [TokV]) (λhI h=>TokV.mono h) hk
theorem Ut {G:Imm}(hW:AHR ω G):EK ω G:=by
 intro s K I L hG hs hok hbad;refine AOU ?_;unfold AKb;refine Ap (λb1=>?_);refine call (hW _ _ _ hG (λI1 w hI1 hw=>?_));obtain ⟨aw,kw,rfl⟩:=zAF hw;try refine zqe ?_
 refine Ap (λb=>?_);have e0:Obj.cells #[.string ⟨s.toArray⟩,.int .i64 0,.slice aw wordsL.length kw] 266 (0,0)=LBo s 0 (.slice aw wordsL.length kw):=rfl;rw [e0];refine call (Rj (s:=s) (a:=0) (w:=.slice aw wordsL.length kw) (zao _) hs (λa0 _ h0 hd0=>?_));refine loop (λm st I2 Lx=>∃(a:Nat) (X:LH) (v:Value) (cells:List Value) (acc:List Tok) (f:Nat),a+m=s.length∧Ext I1 I2∧st=(.slice none 0 0,v,())∧Lx=X++((b,LBo s a (.slice aw wordsL.length kw))::(b1,.cells [.int .i64 0,.int .i64 0].toArray 157 (0,0))::L)∧SlO 247 4 X v cells acc.length∧Recs (TokV I2) 4 acc cells∧(∀t∈acc,ABH t)∧acc.length≤a∧s.length - a≤f∧DC false (s.drop a)=s.drop a∧AFf s=ADC s.length f acc (s.drop a)) (s.length - a0)
  ⟨a0,[],_,[],[],s.length,by omega,zAC _,rfl,rfl,zAJ _ _,rfl,(λt h=>by cases h),by simp,by omega,by rw [hd0,RN],by rw [hd0];exact Oj s.length s.length [] s⟩ ?_
 rintro m st I2 Lx ⟨a,X,v,cells,acc,f,hm,hI2,rfl,rfl,hX,hR,hTk,hal,hf,hsk,hlx⟩;obtain ⟨av,kv,rfl⟩:=hX.form;unfold AAJ;try refine zqe ?_
 refine rdb ?_;try refine zqe ?_
 refine AL (λhb=>?_) (λhb=>?_)
 ·have ha:a < s.length:=by
   have:=of_decide_eq_true hb;omega
  obtain ⟨c,hc,hd⟩:=QP ha;have hla:s.length - ((s.drop (a+1)).length+1)=a:=by rw [zaq];omega
  have hlx:AFf s=match Iz a (s.drop a) with
    | .bad e=>.bad ⟨e,(a:Nat)⟩
    | .tok t r'=>Ij s.length f (acc++[t]) r':=by
   rw [hlx,hd];simp only [ADC,hla]
  refine call (ABy (s:=s) (a:=a) (w:=.slice aw wordsL.length kw) ha hs (StL.mono hw hI2) ⟨λt r ht I3 a' hI3 h1 h2 hdr=>?_,λe he=>⟨Pq he,λI3 a' k x n hI3=>?_⟩⟩)
  ·rw [ht] at hlx;simp only at hlx
   repeat' (first|refine zqa ?_|refine zqh (λ_=>?_)|refine zqr ?_|refine zqb ?_|refine zqi ?_ ?_|refine zqc ?_|refine zqg (λ_=>?_) (λ_=>?_)|(simp only [SSd,Nat.reduceAdd,LY]))
   refine AHM t (λI4 a4 hI4 hw4=>zAA ?_);obtain ⟨c4,s4,r4⟩:=RL.toI zx hw4;refine BL (X:=X) rfl hX s4.news (r4.one_cells λx c h=>by rw [show c=_ from h];exact AV rfl) zL zL (λX5 w5 hX5=>?_);have e5:acc.length+[t].length=(acc++[t]).length:=by simp
   rw [e5] at hX5;have hR5:=zAN (Recs.imp (R':=TokV I4) (λ_ _ h=>h) hR) r4;refine call (Rj (s:=s) (a:=a') (w:=.slice aw wordsL.length kw) h2 hs (λa6 h6 h7 hd6=>?_));obtain ⟨f,rfl⟩:∃q,f=q+1:=⟨f - 1,by omega⟩;rw [←hdr,Oj,←hd6] at hlx;refine zAE (X5++((b,LBo s a6 (.slice aw wordsL.length kw))::(b1,.cells [.int .i64 0,.int .i64 0].toArray 157 (0,0))::L)) (zAA ⟨s.length - a6,by omega,a6,X5,w5,_,acc++[t],f,by omega,zAB hI2 (zAB hI3 hI4),rfl,rfl,hX5,hR5,?_,by simp;omega,by omega,by rw [hd6,RN],hlx⟩);intro x hx;rcases zaz.1 hx with hx|hx
   ·exact hTk x hx
   ·rw [zM.1 hx];exact AIJ ht
  ·rw [he] at hlx;have hne:=Pq he;repeat' (first|refine zqa ?_|refine zqh (λ_=>?_)|refine zqr ?_|refine zqb ?_|refine zqi ?_ ?_|refine zqc ?_|refine zqg (λ_=>?_) (λ_=>?_)|(simp only [SSd,Nat.reduceAdd,LY]))
   ·rename_i hz
    have hz:=hz;exact zAE L (zAA (hbad _ hlx hne I3 none 0 0 (zAB hI1 (zAB hI2 hI3))))
   ·rename_i hz
    exact absurd (by simpa using hz) hne
 ·have ha:¬a < s.length:=by
   have:=of_decide_eq_false hb;omega
  have hdn:s.drop a=[]:=zan zo;rw [hdn] at hlx;unfold AAI;repeat' (first|refine zqa ?_|refine zqh (λ_=>?_)|refine zqr ?_|refine zqb ?_|refine zqi ?_ ?_|refine zqc ?_|refine zqg (λ_=>?_) (λ_=>?_)|refine zqe ?_|fail)
  refine AHM (⟨6,s.length,[],0⟩:Tok) (λI4 a4 hI4 hw4=>zAA ?_);obtain ⟨c4,s4,r4⟩:=RL.toI zx hw4;refine BL (X:=X) rfl hX s4.news (r4.one_cells λx c h=>by rw [show c=_ from h];exact AV rfl) zL zL (λX5 w5 hX5=>?_);have e5:acc.length+[(⟨6,s.length,[],0⟩:Tok)].length=(acc++[(⟨6,s.length,[],0⟩:Tok)]).length:=by simp
  rw [e5] at hX5;have hR5:=zAN (Recs.imp (R':=TokV I4) (λ_ _ h=>h) hR) r4;obtain ⟨a5,k5,rfl⟩:=hX5.form;repeat' (first|refine zqa ?_|refine zqh (λ_=>?_)|refine zqr ?_|refine zqb ?_|refine zqi ?_ ?_|refine zqc ?_|refine zqg (λ_=>?_) (λ_=>?_)|refine zqe ?_|fail)
  refine zAE (X5++L) ?_;refine RL.ofO (R:=TokV) (λ{I I' x c} h hI=>h) hX5 hR5 (λI6 hI6 hw6=>zAA ?_);exact hok _ hlx (Toks.snoc hTk rfl) zu I6 _ (zAB hI1 (zAB hI2 (zAB hI4 hI6))) hw6
end
def Qv (ω:Om):Prop:=∀(v:Value) (l:List TStmt) (K:Value→M) (I:Imm) (L:LH),RL TStmtV 51 I [] v l→BG l≤1000000000→(∀s∈l,cS s≤1000000000)→(∀I',Ext I I'→K (.int .i64 (UR (BG l) (Du l))) I' L)→CT ω 125 #[v] K I L
theorem RD {n:Nat}:∀{f:Nat} {acc:List Tok} {s:Bs} {e:Flt},Ij n f acc s= .bad e→e.code≠0
 |0,acc,s,e,h=>by simp [Ij] at h
 |f+1,acc,s,e,h=>by
  rw [Oj] at h;unfold ADC at h;split at h
  ·cases h
  ·split at h
   ·rename_i x hx
    simp only [LexA.bad.injEq] at h;subst h;exact Pq hx
   ·exact RD h
theorem Xo (s:Bs):(readA s).2=ok0∨((readA s).2.code≠0∧(readA s).1=[]):=by
 unfold readA;split
 ·rename_i f hf
  exact .inr ⟨RD hf,rfl⟩
 ·split
  ·exact .inl rfl
  ·exact .inr ⟨by simp,rfl⟩
section
variable {ω:Om}
theorem AMn {I:Imm}{L:LH}{K:Value→M}{w:Value}{xs:List TStmt}(hw:RL TStmtV 51 I [] w xs)(hk:∀a k,RL TStmtV 51 I [] (.slice a xs.length k) xs→K (.slice a xs.length k) I L):CT ω 126 #[w] K I L:=by
 refine AOb ?_;unfold AKi;obtain ⟨w',h1,h2⟩:=FC hw;simp only [zAK hw,h1,SSd,Nat.reduceAdd];obtain ⟨a,k,rfl⟩:=zAF h2;exact zAA (hk a k h2)
theorem Xu {G:Imm}(hTok:EK ω G)(hLim:Qv ω)(s:Bs){I:Imm}{L:LH}{K:Value→M}(hG:Ext G I)
  (hok:∀I' a k,Ext I I'→RL TStmtV 51 I' [] (.slice a (Cc s).1.length k) (Cc s).1→K (.tuple #[.slice a (Cc s).1.length k,.agg #[.int .i64 (Cc s).2.code,.int .i64 (Cc s).2.at']]) I' L):
  CT ω 107 #[.string ⟨s.toArray⟩] K I L:=by
 have hparts:s.length≤65536→BG (readA s).1≤1000000000∧∀x∈(readA s).1,cS x≤1000000000:=λh=>⟨by have:=Xq s;omega,λx hx=>by have:=AGF s x hx;omega⟩;refine AOp ?_;unfold AKw;refine Ap (λb1=>?_);try refine zqe ?_
 refine AL (λhb=>?_) (λhb=>?_)
 ·have hb:65536 < s.length:=by
   have:=of_decide_eq_true hb;omega
  have hp:Cc s=([],⟨170,65536⟩):=by unfold Cc;rw [if_pos hb]
  rw [hp] at hok;repeat' (first|refine zqa ?_|refine zqh (λ_=>?_)|refine zqr ?_|refine zqb ?_|refine zqi ?_ ?_|refine zqc ?_|refine zqg (λ_=>?_) (λ_=>?_)|refine zqe ?_|fail)
  exact zAE L (zAA (hok I none 0 (zAC _) (zAD none 0)))
 have hb:s.length≤65536:=by
  have:=of_decide_eq_false hb;omega
 refine call (ABq hTok s zo hG (λI1 a k hI1 hw=>?_));have hcode:=Xo s;generalize hr:readA s=q at hw hok hparts hcode ⊢;obtain ⟨l,f⟩:=q;have hp:Cc s=if f≠ok0 then ([],f) else if UR (BG l) (Du l)≠0 then ([],⟨UR (BG l) (Du l),0⟩) else (l,ok0):=by
  unfold Cc;rw [if_neg zo,hr]
 simp only at hw hparts hcode ⊢
 rcases hcode with rfl|⟨hc,rfl⟩
 ·rw [if_neg zy] at hp;repeat' (first|refine zqa ?_|refine zqh (λ_=>?_)|refine zqr ?_|refine zqb ?_|refine zqi ?_ ?_|refine zqc ?_|refine zqg (λ_=>?_) (λ_=>?_)|(simp only [SSd,Nat.reduceAdd,ok0]))
  rename_i bt
  refine call (hLim _ l _ _ _ hw (hparts hb).1 (hparts hb).2 (λI2 hI2=>?_));by_cases h0:UR (BG l) (Du l)=0
  ·rw [h0];rw [if_neg (by simpa using h0)] at hp;rw [hp] at hok;repeat' (first|refine zqa ?_|refine zqh (λ_=>?_)|refine zqr ?_|refine zqb ?_|(with_reducible first|refine BI (sh107_1.eq_1 ..) ?_|refine And.intro ?_ ?_)|refine zqc ?_|refine zqg (λ_=>?_) (λ_=>?_)|refine zqe ?_|fail)
   refine call (AMn (zAI (λ_ _ h=>TStmtV.mono h hI2) hw hI2 (λ_ h=>h)) (λa' k' hw'=>?_));repeat' (first|refine zqa ?_|refine zqh (λ_=>?_)|refine zqr ?_|refine zqb ?_|refine zqi ?_ ?_|refine zqc ?_|refine zqg (λ_=>?_) (λ_=>?_)|refine zqe ?_|fail)
   exact zAE L (zAA (hok I2 a' k' (zAB hI1 hI2) hw'))
  ·rw [if_pos h0] at hp;rw [hp] at hok;have e2:(UR (BG l) (Du l) != 0)=true:=by simpa using h0
   repeat' (first|refine zqa ?_|refine zqh (λ_=>?_)|refine zqr ?_|refine zqb ?_|(with_reducible first|refine BI (sh107_1.eq_1 ..) ?_|refine And.intro ?_ ?_)|refine zqc ?_|refine zqg (λ_=>?_) (λ_=>?_)|(simp only [SSd,Nat.reduceAdd,e2]))
   exact zAE L (zAA (hok I2 none 0 (zAB hI1 hI2) (zAD none 0)))
 ·rw [if_pos (by rintro rfl;exact hc rfl)] at hp;rw [hp] at hok;have e1:(f.code==0)=false:=by simpa using hc
  have e2:(f.code != 0)=true:=by simpa using hc
  repeat' (first|refine zqa ?_|refine zqh (λ_=>?_)|refine zqr ?_|refine zqb ?_|(with_reducible first|refine BI (sh107_1.eq_1 ..) ?_|refine And.intro ?_ ?_)|refine zqc ?_|refine zqg (λ_=>?_) (λ_=>?_)|(simp only [SSd,Nat.reduceAdd,e1,e2]))
  exact zAE L (zAA (hok I1 none 0 hI1 (zAD none 0)))
end
def A51:Type:={l:List Value // l.length=51∧l.all (·.oneCell')=true}
def Dl (pid sec st:Int)(vl:Value)(q:Bool)(vs:Value)(kind:Int)(sc:A51)(own en:Bool)(vo:Value):List Value:=
 [.int .i64 pid,.int .i64 sec,.int .u8 st,vl,.bool q,vs,.int .i64 kind]++(sc.1++[.bool own,.bool en,vo])
section
variable {pid sec st:Int}{vl:Value}{q:Bool}{vs:Value}{kind:Int}{sc:A51}{own en:Bool}{vo:Value}
theorem VJ (k:Nat)(hk:k < 3):(Dl pid sec st vl q vs kind sc own en vo)[58+k]? =[Value.bool own,Value.bool en,vo][k]? :=by
 have h:=sc.2.1;unfold Dl;rw [List.getElem?_append_right zu,List.getElem?_append_right (by simp only [zi,zH,h];omega)];simp only [zi,zH,h];congr 1;omega
theorem VI (k:Nat)(v:Value)(hk:k < 3):(Dl pid sec st vl q vs kind sc own en vo).set (58+k) v=[.int .i64 pid,.int .i64 sec,.int .u8 st,vl,.bool q,vs,.int .i64 kind]++(sc.1++[Value.bool own,Value.bool en,vo].set k v):=by
 have h:=sc.2.1;unfold Dl;rw [List.set_append_right _ _ zu,List.set_append_right _ _ (by simp only [zi,zH,h];omega)];simp only [zi,zH,h];congr 3;omega
theorem EY:(Dl pid sec st vl q vs kind sc own en vo).length=61:=by
 have h:=sc.2.1;simp [Dl,h]
instance sg0:GetL (Dl pid sec st vl q vs kind sc own en vo) 0 (.int .i64 pid):=⟨rfl⟩
instance sg1:GetL (Dl pid sec st vl q vs kind sc own en vo) 1 (.int .i64 sec):=⟨rfl⟩
instance sg2:GetL (Dl pid sec st vl q vs kind sc own en vo) 2 (.int .u8 st):=⟨rfl⟩
instance sg3:GetL (Dl pid sec st vl q vs kind sc own en vo) 3 vl:=⟨rfl⟩
instance sg4:GetL (Dl pid sec st vl q vs kind sc own en vo) 4 (.bool q):=⟨rfl⟩
instance sg5:GetL (Dl pid sec st vl q vs kind sc own en vo) 5 vs:=⟨rfl⟩
instance sg6:GetL (Dl pid sec st vl q vs kind sc own en vo) 6 (.int .i64 kind):=⟨rfl⟩
instance sg59:GetL (Dl pid sec st vl q vs kind sc own en vo) 59 (.bool en):=⟨VJ 1 zo⟩
instance sg60:GetL (Dl pid sec st vl q vs kind sc own en vo) 60 vo:=⟨VJ 2 zo⟩
instance ss2 (x:Int):SetL (Dl pid sec st vl q vs kind sc own en vo) 2 (.int .u8 x) (Dl pid sec x vl q vs kind sc own en vo):=⟨rfl,by rw [EY];omega⟩
instance ss3 (x:Value):SetL (Dl pid sec st vl q vs kind sc own en vo) 3 x (Dl pid sec st x q vs kind sc own en vo):=⟨rfl,by rw [EY];omega⟩
instance ss4 (x:Bool):SetL (Dl pid sec st vl q vs kind sc own en vo) 4 (.bool x) (Dl pid sec st vl x vs kind sc own en vo):=⟨rfl,by rw [EY];omega⟩
instance ss5 (x:Value):SetL (Dl pid sec st vl q vs kind sc own en vo) 5 x (Dl pid sec st vl q x kind sc own en vo):=⟨rfl,by rw [EY];omega⟩
instance ss6 (x:Int):SetL (Dl pid sec st vl q vs kind sc own en vo) 6 (.int .i64 x) (Dl pid sec st vl q vs x sc own en vo):=⟨rfl,by rw [EY];omega⟩
instance ss59 (x:Bool):SetL (Dl pid sec st vl q vs kind sc own en vo) 59 (.bool x) (Dl pid sec st vl q vs kind sc own x vo):=⟨VI 1 _ zo,by rw [EY];omega⟩
instance ss60 (x:Value):SetL (Dl pid sec st vl q vs kind sc own en vo) 60 x (Dl pid sec st vl q vs kind sc own en x):=⟨VI 2 _ zo,by rw [EY];omega⟩
end
abbrev CV (pid sec st:Int)(vl:Value)(q:Bool)(vs:Value)(kind:Int)(sc:A51)(own en:Bool)(vo:Value):Obj:=.cells (Dl pid sec st vl q vs kind sc own en vo).toArray 86 (0,0)
def ACr (k:Int)(sc:A51)(own:Bool):Value:=.agg (.int .i64 k::(sc.1++[.bool own])).toArray
theorem MI {pid sec st:Int}{vl:Value}{q:Bool}{vs:Value}{kind k':Int}{sc sc':A51}{own own' en:Bool}{vo:Value}{I:Imm}{L L':LH}{K:Value→M}{b:Nat}
  [i:InL b L (CV pid sec st vl q vs kind sc own en vo)] [u:UpL b L (CV pid sec st vl q vs kind sc own en vo) (CV pid sec st vl q vs k' sc' own' en vo) L'] {v:Value} (hv:v=ACr k' sc' own') (hk:K undef I L'):Sto 53 (.pointer (some ⟨b,6,none⟩)) v (gh K) I L:=by
 subst hv;obtain ⟨L1,L2,rfl,rfl⟩:=u.up;have h:=sc.2.1;have h':=sc'.2.1;refine ⟨b,6,_,_,(0,0),L1,L2,rfl,by simp [ACr,Value.cells,h'],?_,by simp only [List.size_toArray,EY];omega,.inl rfl,rfl,?_⟩
 ·intro u hu;simp only [ACr,Value.cells,zK,zaz] at hu;rcases hu with rfl|hu|hu|hu
  ·rfl
  ·exact zas.1 sc'.2.2 u hu
  ·subst hu;rfl
  ·cases hu
 ·have e:wr (Dl pid sec st vl q vs kind sc own en vo).toArray 6 (ACr k' sc' own').cells.toList=(Dl pid sec st vl q vs k' sc' own' en vo).toArray:=by
   simp only [ACr,Value.cells];rw [Oa _ _ _ (by simp [EY,h'])];unfold Dl;simp [h,h',List.drop_append]
  rw [e];exact zAA hk
def z51:A51:=⟨[.int .i64 0,.bool false,.slice none 0 0,.slice none 0 0,.int .i64 0,.int .i64 0,.bool false,.int .i64 0,.string ⟨#[]⟩,.string ⟨#[]⟩,.string ⟨#[]⟩,.int .i64 0,.int .i64 0,.bool false,.slice none 0 0,.slice none 0 0,.int .i64 0,.int .i64 0,.bool false,.int .i64 0,.string ⟨#[]⟩,.string ⟨#[]⟩,.string ⟨#[]⟩,.int .i64 0,.int .i64 0,.bool false,.slice none 0 0,.slice none 0 0,.int .i64 0,.int .i64 0,.string ⟨#[]⟩,.slice none 0 0,.slice none 0 0,.slice none 0 0,.int .i64 0,.int .i64 0,.bool false,.int .i64 0,.string ⟨#[]⟩,.string ⟨#[]⟩,.string ⟨#[]⟩,.int .i64 0,.int .i64 0,.bool false,.slice none 0 0,.slice none 0 0,.slice none 0 0,.string ⟨#[]⟩,.string ⟨#[]⟩,.slice none 0 0,.bool false],rfl,rfl⟩
theorem asc {A:M}{I:Imm}{x:Nat×Obj}{XL XO F:LH}(h:A I ((x::(XL++XO))++F)):A I (x::(XL++(XO++F))):=by
 rw [zah,zt] at h;exact h
instance splitSes (x:Nat×Obj)(XL XO F:LH):SplitL (x::(XL++XO)) (x::(XL++(XO++F))) F:=⟨by rw [zah,zt]⟩
def SeM (I:Imm)(s:Ses)(b:Nat)(X:LH):Prop:=∃vl vs vo sc XL XO,X=(b,CV s.pid s.secret s.status vl s.query vs s.kind sc s.own s.ended vo)::(XL++XO)∧OwB XL vl s.left∧RL TStmtV 51 I [] vs s.stmts∧OwB XO vo s.out∧0≤s.status∧s.status≤255
theorem SeM.mono {I I':Imm}{s:Ses}{b:Nat}{X:LH}(h:SeM I s b X)(hI:Ext I I'):SeM I' s b X:=by
 obtain ⟨vl,vs,vo,sc,XL,XO,h1,h2,h3,h4,h5⟩:=h;exact ⟨vl,vs,vo,sc,XL,XO,h1,h2,zAI (λ_ _ h=>TStmtV.mono h hI) h3 hI (λ_ h=>h),h4,h5⟩
section
variable {ω:Om}{I:Imm}{L F:LH}{K:Value→M}{s:Ses}{b:Nat}{X:LH}
theorem AFB (l:List TBack):∀(acc:Bs),Cf l acc=if (Cf l []).2 != 0 then Cf l [] else (acc++(Cf l []).1,0):=by
 induction l with
 |nil=>intro acc;simp [Cf]
 |cons m r ih=>
  intro acc;simp only [Cf];split
  ·rename_i h;simp [h]
  ·rw [ih (acc++_),ih ([]++_)];split
   ·rename_i h;simp [h]
   ·simp [zt]
def Dn (l:List TBack):Nat:=(l.map λm=>(Bq m).1.length).sum
theorem MW (m:TBack)(r:List TBack):Dn (m::r)=(Bq m).1.length+Dn r:=by simp [Dn]
def Ns (m:TBack):Prop:=Di m≤10000000000∧0≤m.fStatus∧m.fStatus≤255∧0≤m.fKind
theorem ML {w:Value}{l:List TBack}[hsp:SplitL X L F](hS:SeM I s b X)(hw:RL TBackV 10 I [] w l)(hl:l.length≤1000000000)(hok:∀m∈l,Ns m)(hn:s.out.length+Dn l≤100000000000000)
  (hk:∀I' X',Ext I I'→SeM I' (BD s l) b X'→K (.int .i64 (Cf l []).2) I' (X'++F)):CT ω 45 #[Ac b,w] K I L:=by
 refine zAM X ?_;refine ARR ?_;unfold APw;simp only [zAK hw,SSd,Nat.reduceAdd];refine loop (λq st I' L'=>∃(k:Nat) (Y:LH) (v':Value) (acc:Bs),k+q=l.length∧st=(Value.int .i64 0,v',Value.int .i64 (k:Nat),())∧Ext I I'∧L'=Y++(X++F)∧OwB Y v' acc∧Cf (l.drop k) acc=Cf l []∧acc.length+Dn (l.drop k)≤Dn l) l.length
  ⟨0,[],.slice none 0 0,[],by omega,rfl,zAC _,rfl,zAJ _ _,rfl,by simp⟩ ?_
 rintro q st I' L' ⟨k,Y,v',acc,hkq,rfl,hI,rfl,hY,hp,hacc⟩;unfold ADy;try refine zqe ?_
 refine AL (λhb=>?_) (λhb=>?_)
 ·have hb:k < l.length:=by
   have:=of_decide_eq_true hb;omega
  have hdk:l.drop k=l[k]::l.drop (k+1):=zab hb;obtain ⟨bt,off,c1,g1,gl,g2,g3⟩:=RL.ix hw (i:=k) zo zo;rw [BA hb] at g2;obtain ⟨k1,k2,k3,k4⟩:=hok l[k] (zar hb);have hone:=TBackV.one g2;rw [hdk] at hp hacc;simp only [Cf] at hp;rw [MW] at hacc;generalize l[k]=m at *;simp only [g1,SSd,Nat.reduceAdd];refine rdN gl (g3 _ _ hI (λ_ h=>by cases h)) ?_;refine Ap (λbm=>?_);refine stB gl rfl hone ?_;refine BV gl ?_;refine Sj (AFD (g2.mono hI) k1 ⟨k2,k3⟩ k4 (λI2 Z u hI2 hZ=>?_));obtain ⟨a,kk,rfl⟩:=hZ.form;try refine zqe ?_
  cases he:((Bq m).2 != 0) with
  |true=>
   rw [he] at hp;simp only [if_true] at hp;try refine zqe ?_
   have hne:(Cf l []).2=(Bq m).2:=by rw [←hp]
   have hsF:BD s l=s:=by
    unfold BD;rw [if_pos (by rw [hne];exact he)]
   have:=hk I2 X (zAB hI hI2) (by rw [hsF];exact hS.mono (zAB hI hI2));rw [hne] at this;exact zAA (zAE (X++F) (zAA this))
  |false=>
   rw [he] at hp;simp only [zl,if_false] at hp;try refine zqe ?_
   refine zAA ?_;refine BL (X:=Y) (n:=1) (m:=(Bq m).1.length) rfl hY (news:=Lib.byteCells (Bq m).1) (SlO.news hZ (λx hx=>zY _ hx)) (λu hu=>?_) zo zo (λY2 u2 hY2=>?_)
   ·obtain ⟨d,_,rfl⟩:=zaf.1 hu;rfl
   simp only [wrap_i64 ((k:Int)+1) zo,SSd,Nat.reduceAdd];exact zAE (Y2++(X++F)) (zAA ⟨q - 1,by omega,k+1,Y2,u2,_,by omega,rfl,zAB hI hI2,rfl,OwB.mk hY2,hp,by rw [zk];omega⟩)
 ·have hb:¬k < l.length:=by
   have:=of_decide_eq_false hb;omega
  have hd:l.drop k=[]:=zan zo;rw [hd] at hp hacc;simp only [Cf] at hp;have hacc:acc.length≤Dn l:=by simpa [Dn] using hacc
  obtain ⟨vl,vs,vo,sc,XL,XO,rfl,h2,h3,h4,h5,h6⟩:=hS.mono hI;have hsF:BD s l={s with out:=s.out++acc}:=by
   unfold BD;rw [←hp];rfl
  rw [←hp,hsF] at hk;unfold ADx;simp only [zt,SSd,Nat.reduceAdd];refine rdb ?_;refine BL (X:=XO) (n:=1) (m:=acc.length) rfl h4 (news:=Lib.byteCells acc) (SlO.news hY (λx hx=>zY _ hx)) (λu hu=>?_) zo zo (λY2 u2 hY2=>?_)
  ·obtain ⟨d,_,rfl⟩:=zaf.1 hu;rfl
  have hY2:OwB Y2 u2 (s.out++acc):=OwB.mk hY2;obtain ⟨a,kk,rfl⟩:=hY2.form;try refine zqe ?_
  refine st1 rfl ?_;refine zAE ((b,CV s.pid s.secret s.status vl s.query vs s.kind sc s.own s.ended (.slice a (s.out++acc).length kk))::(XL++(Y2++F))) (asc (A:=Gh (K (.int .i64 0))) (zAA (hk I' _ hI ⟨vl,vs,_,sc,XL,Y2,rfl,h2,h3,hY2,h5,h6⟩)))
end
theorem Ph (m:TBack):(Bq m).1.length≤Di m+100:=by
 have hb:(Am m).2.1.length≤Di m+60:=by
  have hf:=KD m.fFields;have hc:=Qb m.fCells;unfold Di Am;repeat' split
  all_goals simp only [zk,Ak,txB,zaH,List.flatMap_nil,zi,zH]
  all_goals (try (repeat' split))
  all_goals (try simp only [zi,zH])
  all_goals omega
 unfold Bq;simp only
 repeat' split
 ·simp
 ·simp
 ·simp
 ·simp only [zi,zk,Ak];omega
def LeP (x:Bs×Bs):Prop:=x.1.length+x.2.length≤60
theorem AIT {c:Prop}[Decidable c]{x y:Bs×Bs}(hx:LeP x)(hy:LeP y):LeP (if c then x else y):=by split <;> assumption
theorem AEX (e:Int):(CZ e).1.length+(CZ e).2.length≤60:=by
 show LeP (CZ e);unfold CZ;repeat' refine AIT ?_ ?_
 all_goals (unfold LeP;decide)
theorem Ku (s:Ses)(l:List TBack):(BD s l).out.length≤s.out.length+Dn l:=by
 have h:∀(l:List TBack) (acc:Bs),(Cf l acc).1.length≤acc.length+Dn l:=by
  intro l;induction l with
  |nil=>intro acc;simp [Cf,Dn]
  |cons m r ih=>
   intro acc;rw [MW];simp only [Cf];split
   ·simp
   ·have:=ih (acc++(Bq m).1);rw [zk] at this;omega
 unfold BD;split
 ·omega
 ·have:=h l [];simp only [zk,zH] at *; omega
theorem AAm {l:List TBack}{n:Nat}(h:∀m∈l,Di m≤n):Dn l≤l.length * (n+100):=by
 induction l with
 |nil=>simp [Dn]
 |cons m r ih=>
  have h1:=Ph m;have h2:=h m (zJ ..);have h3:=ih λx hx=>h x (zV _ hx);rw [MW,zi,zax];omega
def AIe (e:Int)(fatal:Bool):TBack:={fKind:=9,fState:=(CZ e).1,fText:=(CZ e).2,fFatal:=fatal}
theorem AAz (e:Int)(f:Bool):Di (AIe e f)≤62:=by
 have:=AEX e;simp only [Di,AIe,BH,zal,zaA,zH];omega
theorem LD (m:TBack):Dn [m]≤Di m+100:=by
 have:=Ph m;simpa [Dn] using this
section
variable {ω:Om}{I:Imm}{L F:LH}{K:Value→M}{s:Ses}{b:Nat}{X:LH}
theorem RU {m:TBack}{c:List Value}{z:Array Value}{K':Value→M}[hsp:SplitL X L F](hz:z.size=10)(hS:SeM I s b X)(hm:∀I',Ext I I'→TBackV I' m c)(hok:Ns m)(hsz:Di m≤1000000)(hn:s.out.length≤99999990000000)
  (hk:∀I' X' e,Ext I I'→SeM I' (BD s [m]) b X'→K' (.int .i64 e) I' (X'++F)):AC 49 10 z 1 [(0,.agg c.toArray)] (gh λv=>CT ω 45 #[Ac b,v] (gh K')) I L:=by
 refine AIE (R:=TBackV) hz zx (hm I (zAC _)) (λh hI=>TBackV.mono h hI) (TBackV.len (hm I (zAC _))) (λu I1 hI1 hw=>?_);have ho:=LD m;refine call (ML (X:=X) (l:=[m]) (hS.mono hI1) hw zy (by simpa using hok) zo (λI2 X2 hI2 hS2=>?_));exact hk I2 X2 _ (zAB hI1 hI2) hS2
theorem FT (e:Int)(fatal:Bool)[hsp:SplitL X L F](hS:SeM I s b X)(hn:s.out.length≤99999990000000)(hk:∀I' X',Ext I I'→SeM I' (Bj s e fatal) b X'→K (.tuple #[]) I' (X'++F)):CT ω 25 #[Ac b,.int .i64 e,.bool fatal] K I L:=by
 refine ARc ?_;unfold AQH;refine call (XX e ?_);refine call (Nl e ?_);try refine zqe ?_
 have hsz:=AAz e fatal;refine RU (X:=X) (m:=AIe e fatal) rfl hS (λI' _=>⟨_,_,rfl,zAD none 0,zAD none 0⟩) ⟨by omega,by show (0:Int)≤0;decide,by show (0:Int)≤255;decide,by show (0:Int)≤9;decide⟩ zo hn (λI' X' e' hI' hS'=>?_);exact zAA (hk I' X' hI' hS')
theorem EE (t:Bs)[hsp:SplitL X L F](hS:SeM I s b X)(ht:t.length≤100000)(hn:s.out.length≤99999990000000)(hk:∀I' X',Ext I I'→SeM I' (Dt s t) b X'→K (.tuple #[]) I' (X'++F)):CT ω 31 #[Ac b,.string ⟨t.toArray⟩] K I L:=by
 refine ARW ?_;unfold AQB;try refine zqe ?_
 have hsz:Di {fKind:=7,fText:=t}≤100002:=by simp only [Di,BH,zal,zaA,zH];omega
 refine RU (X:=X) (m:={fKind:=7,fText:=t}) rfl hS (λI' _=>⟨_,_,rfl,zAD none 0,zAD none 0⟩) ⟨by omega,by show (0:Int)≤0;decide,by show (0:Int)≤255;decide,by show (0:Int)≤7;decide⟩ zo hn (λI' X' e' hI' hS'=>?_);exact zAA (hk I' X' hI' hS')
theorem JJ [hsp:SplitL X L F](hS:SeM I s b X)(hk:∀X',SeM I (Ig s) b X'→K (.tuple #[]) I (X'++F)):CT ω 26 #[Ac b] K I L:=by
 refine zAM X ?_;obtain ⟨vl,vs,vo,sc,XL,XO,rfl,h2,h3,h4,h5,h6⟩:=hS;refine ARb ?_;unfold AQG;have fin:∀(k:Int),(Ig s).kind=k→Gh (K (.tuple #[])) I ((b,CV s.pid s.secret s.status (.slice none 0 0) false (.slice none 0 0) k z51 false true vo)::(XL++(XO++F))):=by
  intro k hk';have:=hk ((b,CV s.pid s.secret s.status (.slice none 0 0) false (.slice none 0 0) k z51 false true vo)::XO) ⟨_,_,vo,z51,[],XO,by rw [←hk'];rfl,zAJ _ _,zAD none 0,h4,h5,h6⟩;exact zAE ((b,CV s.pid s.secret s.status (.slice none 0 0) false (.slice none 0 0) k z51 false true vo)::(XO++F)) (zAA this)
 have fin1:∀(k:Int),(Ig s).kind=4→TT ω (Ac b) (λv=>Gh (K v)) I ((b,CV s.pid s.secret s.status (.slice none 0 0) false (.slice none 0 0) k z51 false true vo)::(XL++(XO++F))):=by
  intro k hk';unfold TT;try refine zqe ?_
  refine st1 rfl ?_;exact fin 4 hk'
 simp only [zt,SSd,Nat.reduceAdd];refine rdb ?_;try refine zqe ?_
 have hkd:(Ig s).kind=if s.status==84||s.kind==4 then 4 else 0:=rfl
 cases h1:(s.status==84) with
 |true=>
  rw [h1,Bool.true_or,if_pos rfl] at hkd;refine BX (λhb=>by cases hb) (λ_=>?_);refine st1 rfl ?_;try refine zqe ?_
  refine st1 rfl ?_;try refine zqe ?_
  refine st1 rfl ?_;try refine zqe ?_
  refine st1 rfl ?_;try refine zqe ?_
  refine MI (k':=0) (sc':=z51) (own':=false) rfl ?_;exact fin1 0 hkd
 |false=>
  rw [h1,zba] at hkd;refine BX (λ_=>?_) (λhb=>absurd rfl hb);refine rdb ?_;try refine zqe ?_
  refine st1 rfl ?_;try refine zqe ?_
  refine st1 rfl ?_;try refine zqe ?_
  refine st1 rfl ?_;try refine zqe ?_
  refine st1 rfl ?_;try refine zqe ?_
  refine MI (k':=0) (sc':=z51) (own':=false) rfl ?_;cases h2:(s.kind==4) with
  |true=>
   rw [h2,if_pos rfl] at hkd;try refine zqe ?_
   exact fin1 0 hkd
  |false=>
   rw [h2] at hkd;try refine zqe ?_
   exact fin 0 (by rw [hkd];rfl)
end
abbrev z53:Array Value:=#[(Value.int .i64 0),(Value.int .i64 0),(Value.bool false),(Value.slice none 0 0),(Value.slice none 0 0),(Value.int .i64 0),(Value.int .i64 0),(Value.bool false),(Value.int .i64 0),(Value.string (ByteArray.mk #[])),(Value.string (ByteArray.mk #[])),(Value.string (ByteArray.mk #[])),(Value.int .i64 0),(Value.int .i64 0),(Value.bool false),(Value.slice none 0 0),(Value.slice none 0 0),(Value.int .i64 0),(Value.int .i64 0),(Value.bool false),(Value.int .i64 0),(Value.string (ByteArray.mk #[])),(Value.string (ByteArray.mk #[])),(Value.string (ByteArray.mk #[])),(Value.int .i64 0),(Value.int .i64 0),(Value.bool false),(Value.slice none 0 0),(Value.slice none 0 0),(Value.int .i64 0),(Value.int .i64 0),(Value.string (ByteArray.mk #[])),(Value.slice none 0 0),(Value.slice none 0 0),(Value.slice none 0 0),(Value.int .i64 0),(Value.int .i64 0),(Value.bool false),(Value.int .i64 0),(Value.string (ByteArray.mk #[])),(Value.string (ByteArray.mk #[])),(Value.string (ByteArray.mk #[])),(Value.int .i64 0),(Value.int .i64 0),(Value.bool false),(Value.slice none 0 0),(Value.slice none 0 0),(Value.slice none 0 0),(Value.string (ByteArray.mk #[])),(Value.string (ByteArray.mk #[])),(Value.slice none 0 0),(Value.bool false),(Value.bool false)]
theorem AGN (k:Int)(o:Bool)(c0 c1 c2 c3 c4 c5 c6 c7 c8 c9 c10 c11 c12 c13 c14 c15 c16 c17 c18 c19 c20 c21 c22 c23 c24 c25 c26 c27 c28 c29 c30 c31 c32 c33 c34 c35 c36 c37 c38 c39 c40 c41 c42 c43 c44 c45 c46 c47 c48 c49 c50:Value):AU z53 Zw [(0,.int .i64 k),(1,.agg #[c0,c1,c2,c3,c4,c5,c6,c7,c8,c9,c10,c11,c12,c13,c14,c15,c16,c17,c18,c19,c20,c21,c22,c23,c24,c25,c26,c27,c28,c29,c30,c31,c32,c33,c34,c35,c36,c37,c38,c39,c40,c41,c42,c43,c44,c45,c46,c47,c48,c49,c50]),(2,.bool o)]=some (.agg #[.int .i64 k,c0,c1,c2,c3,c4,c5,c6,c7,c8,c9,c10,c11,c12,c13,c14,c15,c16,c17,c18,c19,c20,c21,c22,c23,c24,c25,c26,c27,c28,c29,c30,c31,c32,c33,c34,c35,c36,c37,c38,c39,c40,c41,c42,c43,c44,c45,c46,c47,c48,c49,c50,.bool o]):=by kernel_rfl
theorem AIw (k:Int)(o:Bool)(c:List Value)(hl:c.length=51):AU z53 Zw [(0,.int .i64 k),(1,.agg c.toArray),(2,.bool o)]=some (.agg (.int .i64 k::(c++[.bool o])).toArray):=by
 obtain ⟨c0,c1,c2,c3,c4,c5,c6,c7,c8,c9,c10,c11,c12,c13,c14,c15,c16,c17,c18,c19,c20,c21,c22,c23,c24,r,rfl⟩:∃c0 c1 c2 c3 c4 c5 c6 c7 c8 c9 c10 c11 c12 c13 c14 c15 c16 c17 c18 c19 c20 c21 c22 c23 c24 r,c=c0::c1::c2::c3::c4::c5::c6::c7::c8::c9::c10::c11::c12::c13::c14::c15::c16::c17::c18::c19::c20::c21::c22::c23::c24::r:=by
  match c,hl with
  |c0::c1::c2::c3::c4::c5::c6::c7::c8::c9::c10::c11::c12::c13::c14::c15::c16::c17::c18::c19::c20::c21::c22::c23::c24::r,_=>exact ⟨c0,c1,c2,c3,c4,c5,c6,c7,c8,c9,c10,c11,c12,c13,c14,c15,c16,c17,c18,c19,c20,c21,c22,c23,c24,r,rfl⟩
 have hr:r.length=26:=by simpa using hl
 obtain ⟨c25,c26,c27,c28,c29,c30,c31,c32,c33,c34,c35,c36,c37,c38,c39,c40,c41,c42,c43,c44,c45,c46,c47,c48,c49,c50,rfl⟩:∃c25 c26 c27 c28 c29 c30 c31 c32 c33 c34 c35 c36 c37 c38 c39 c40 c41 c42 c43 c44 c45 c46 c47 c48 c49 c50,r=[c25,c26,c27,c28,c29,c30,c31,c32,c33,c34,c35,c36,c37,c38,c39,c40,c41,c42,c43,c44,c45,c46,c47,c48,c49,c50]:=by
  match r,hr with
  |[c25,c26,c27,c28,c29,c30,c31,c32,c33,c34,c35,c36,c37,c38,c39,c40,c41,c42,c43,c44,c45,c46,c47,c48,c49,c50],_=>exact ⟨c25,c26,c27,c28,c29,c30,c31,c32,c33,c34,c35,c36,c37,c38,c39,c40,c41,c42,c43,c44,c45,c46,c47,c48,c49,c50,rfl⟩
 exact AGN ..
section
variable {ω:Om}{I:Imm}{L F:LH}{K:Value→M}{s:Ses}{b:Nat}{X:LH}
theorem Nc [hsp:SplitL X L F](hS:SeM I s b X)(hk:∀X',SeM I (Dh s) b X'→K (.tuple #[]) I (X'++F)):CT ω 30 #[Ac b] K I L:=by
 refine zAM X ?_;obtain ⟨vl,vs,vo,sc,XL,XO,rfl,h2,h3,h4,h5,h6⟩:=hS;refine ARX ?_;unfold AQC;unfold Dh at hk;simp only [zt,SSd,Nat.reduceAdd];refine st1 rfl ?_;try refine zqe ?_
 refine rdb ?_;try refine zqe ?_
 cases h1:(s.status==84) with
 |true=>
  rw [if_pos h1] at hk;try refine zqe ?_
  refine st1 rfl ?_;try refine zqe ?_
  refine MI (k':=4) (sc':=z51) (own':=false) rfl ?_;exact asc (A:=Gh (K _)) (zAA (hk _ ⟨vl,_,vo,z51,XL,XO,rfl,h2,zAD none 0,h4,by show (0:Int)≤69;decide,by show (69:Int)≤255;decide⟩))
 |false=>
  rw [if_neg (by rw [h1];decide)] at hk;try refine zqe ?_
  exact asc (A:=Gh (K _)) (zAA (hk _ ⟨vl,_,vo,sc,XL,XO,rfl,h2,zAD none 0,h4,h5,h6⟩))
theorem YT [hsp:SplitL X L F](hS:SeM I s b X)(hk:∀X',SeM I (IZ s) b X'→K (.tuple #[]) I (X'++F)):CT ω 13 #[Ac b] K I L:=by
 refine zAM X ?_;have hS':=hS;obtain ⟨vl,vs,vo,sc,XL,XO,rfl,h2,h3,h4,h5,h6⟩:=hS;refine ARg ?_;unfold AQL;unfold IZ at hk;simp only [zt,SSd,Nat.reduceAdd];refine rdb ?_;try refine zqe ?_
 cases h1:s.ended with
 |true=>
  rw [if_pos h1] at hk;simp only [zB,SSd,Nat.reduceAdd];have:=hk _ hS';rw [h1] at this;exact asc (A:=Gh (K _)) (zAA this)
 |false=>
  rw [if_neg (by rw [h1];decide)] at hk;rw [h1] at hS';simp only [zak,SSd,Nat.reduceAdd];refine call (asc ?_);exact JJ hS' (λX' h=>zAA (hk X' h))
theorem IY (kind asked:Int)(tag:Bs)[hsp:SplitL X L F](hS:SeM I s b X)(ht:tag.length≤100000)(hn:s.out.length≤99999990000000)(hk:∀I' X',Ext I I'→SeM I' (Jb s kind asked tag) b X'→K (.tuple #[]) I' (X'++F)):CT ω 73 #[Ac b,.int .i64 kind,.int .u8 asked,.string ⟨tag.toArray⟩] K I L:=by
 refine zAM X ?_;have hS':=hS;obtain ⟨vl,vs,vo,sc,XL,XO,rfl,h2,h3,h4,h5,h6⟩:=hS;refine AQx ?_;unfold APg;unfold Jb at hk;simp only [zt,SSd,Nat.reduceAdd];refine rdb ?_;try refine zqe ?_
 cases h1:(s.status==asked) with
 |true=>
  rw [if_pos h1] at hk;try refine zqe ?_
  refine MI (k':=kind) (sc':=z51) (own':=false) rfl ?_;exact asc (A:=Gh (K _)) (zAA (hk I _ (zAC _) ⟨vl,vs,vo,z51,XL,XO,rfl,h2,h3,h4,h5,h6⟩))
 |false=>
  rw [if_neg (by rw [h1];decide)] at hk;try refine zqe ?_
  refine call (asc ?_);exact EE tag hS' ht hn (λI' X' hI h=>zAA (hk I' X' hI h))
theorem AHf {x:TStmt}{c:List Value}(h:TStmtV I x c):∃r,c= .int .i64 x.fKind::r∧∃sc:A51,sc.1=c:=by
 have h1:=TStmtV.len h;have h2:=TStmtV.one h;obtain ⟨v0,v1,v2,v3,v4,v5,v6,v7,v8,v9,v10,v11,v12,rfl,_⟩:=h;exact ⟨_,rfl,⟨_,h1,zas.2 h2⟩,rfl⟩
theorem XZ {x:TStmt}{c:List Value}(hx:TStmtV I x c)[hsp:SplitL X L F](hS:SeM I s b X)(hn:s.out.length≤99999990000000)(hk:∀I' X',Ext I I'→SeM I' (Fj s x) b X'→K (.tuple #[]) I' (X'++F)):CT ω 48 #[Ac b,.agg c.toArray] K I L:=by
 refine zAM X ?_;have hS':=hS;obtain ⟨vl,vs,vo,sc,XL,XO,rfl,h2,h3,h4,h5,h6⟩:=hS;have hc51:=TStmtV.len hx;obtain ⟨r,rfl,sx,hsx⟩:=AHf hx;refine ARO ?_;unfold APt;unfold Fj at hk;have rb:∀(bx:Nat),s.status=69→(x.fKind==10||x.fKind==11)=true→TP ω (Ac b) (λv=>Gh (K v)) I ((bx,.cells (.int .i64 x.fKind::r).toArray 76 (0,0))::(b,CV s.pid s.secret s.status vl s.query vs s.kind sc s.own s.ended vo)::(XL++(XO++F))):=by
  intro bx e1 e2;rw [if_pos (by rw [e1];rfl),if_pos e2] at hk;unfold TP;try refine zqe ?_
  refine st1 rfl ?_;refine call (Cal.to (((b,CV s.pid s.secret 73 vl s.query vs s.kind sc s.own s.ended vo)::(XL++(XO++F)))) (asc ?_));exact EE (s:={s with status:=73}) [82,79,76,76,66,65,67,75] ⟨vl,vs,vo,sc,XL,XO,rfl,h2,h3,h4,by show (0:Int)≤73;decide,by show (73:Int)≤255;decide⟩ zx hn (λI' X' hI h=>zAA (hk I' X' hI h))
 simp only [zt,SSd,Nat.reduceAdd];refine Ap (λbx=>?_);refine rdb ?_;try refine zqe ?_
 cases h1:(s.status==69) with
 |true=>
  have e1:s.status=69:=by simpa using h1
  try refine zqe ?_
  refine rdb ?_;try refine zqe ?_
  cases h10:(x.fKind==10) with
  |true=>
   try refine zqe ?_
   exact rb bx e1 (by rw [h10];rfl)
  |false=>
  try refine zqe ?_
  cases h11:(x.fKind==11) with
  |true=>
   try refine zqe ?_
   exact rb bx e1 (by rw [h11,Bool.or_true])
  |false=>
  rw [if_pos h1,if_neg (by rw [h10,h11];decide)] at hk;try refine zqe ?_
  have hb:Ns {fKind:=9,fState:=[50,53,80,48,50],fText:=[116,104,101,32,116,114,97,110,115,97,99,116,105,111,110,32,104,97,115,32,102,97,105,108,101,100]}:=⟨by decide,by decide,by decide,by decide⟩;refine RU (X:=(b,CV s.pid s.secret s.status vl s.query vs s.kind sc s.own s.ended vo)::(XL++XO)) (m:={fKind:=9,fState:=[50,53,80,48,50],fText:=[116,104,101,32,116,114,97,110,115,97,99,116,105,111,110,32,104,97,115,32,102,97,105,108,101,100]}) rfl hS' (λI' _=>⟨_,_,rfl,zAD none 0,zAD none 0⟩) hb zx hn (λI' X' e' hI' hS2=>?_);obtain ⟨vl,vs,vo,sc,XL,XO,rfl,h2,h3,h4,h5,h6⟩:=hS2;simp only [zt,SSd,Nat.reduceAdd];refine st1 rfl ?_;refine zAE (((b,_)::(XL++(XO++F)))) (asc (A:=Gh (K _)) (zAA (hk I' _ hI' ⟨vl,_,vo,sc,XL,XO,rfl,h2,zAD none 0,h4,h5,h6⟩)))
 |false=>
  rw [if_neg (by rw [h1];decide)] at hk;have go:∀{f:FuncId} {args:Array Value},CT ω f args (λv21=>(λv=>Gh (K v)) (.tuple #[])) I (((b,CV s.pid s.secret s.status vl s.query vs s.kind sc s.own s.ended vo)::(XL++XO))++F)→CT ω f args (gh λv21=>(λv=>Gh (K v)) (.tuple #[])) I ((bx,.cells (.int .i64 x.fKind::r).toArray 76 (0,0))::(b,CV s.pid s.secret s.status vl s.query vs s.kind sc s.own s.ended vo)::(XL++(XO++F))):=by
   intro f args h;exact call (Cal.to (((b,CV s.pid s.secret s.status vl s.query vs s.kind sc s.own s.ended vo)::(XL++(XO++F)))) (asc h))
  try refine zqe ?_
  refine rdb ?_;try refine zqe ?_
  cases h9:(x.fKind==9) with
  |true=>
   rw [if_pos h9] at hk;try refine zqe ?_
   refine go (IY 2 73 [66,69,71,73,78] hS' zx hn (λI' X' hI h=>zAA (hk I' X' hI h)))
  |false=>
  rw [if_neg (by rw [h9];decide)] at hk;try refine zqe ?_
  cases h10:(x.fKind==10) with
  |true=>
   rw [if_pos h10] at hk;try refine zqe ?_
   refine go (IY 3 84 [67,79,77,77,73,84] hS' zx hn (λI' X' hI h=>zAA (hk I' X' hI h)))
  |false=>
  rw [if_neg (by rw [h10];decide)] at hk;try refine zqe ?_
  cases h11:(x.fKind==11) with
  |true=>
   rw [if_pos h11] at hk;try refine zqe ?_
   refine go (IY 4 84 [82,79,76,76,66,65,67,75] hS' zx hn (λI' X' hI h=>zAA (hk I' X' hI h)))
  |false=>
  rw [if_neg (by rw [h11];decide)] at hk;try refine zqe ?_
  refine Ci ?_;refine JZ hc51 ?_;try refine zqe ?_
  refine BJ ?_;try refine zqe ?_
  refine AIy (AIw _ _ _ hc51) ?_;try refine zqe ?_
  refine MI (k':=1) (sc':=sx) (own':=s.status==73) (by rw [ACr,hsx];rfl) ?_;refine zAE ((b,CV s.pid s.secret s.status vl s.query vs 1 sx (s.status==73) s.ended vo)::(XL++(XO++F))) ?_;exact asc (A:=Gh (K _)) (zAA (hk I _ (zAC _) ⟨vl,vs,vo,sx,XL,XO,rfl,h2,h3,h4,h5,h6⟩))
end
def hiL (s:Ses):List TBack:=[{fKind:=1},{fKind:=2,fName:=[115,101,114,118,101,114,95,118,101,114,115,105,111,110],fText:=[49,54,46,48]},{fKind:=2,fName:=[99,108,105,101,110,116,95,101,110,99,111,100,105,110,103],fText:=[85,84,70,56]},{fKind:=2,fName:=[68,97,116,101,83,116,121,108,101],fText:=[73,83,79]},{fKind:=3,fPid:=s.pid,fSecret:=s.secret},{fKind:=4,fStatus:=73}]
theorem ALI (s:Ses):∀m∈hiL s,Ns m∧Di m≤60:=by
 intro m hm;simp only [hiL,zK,zaG,or_false] at hm;rcases hm with rfl|rfl|rfl|rfl|rfl|rfl
 all_goals (refine ⟨⟨?_,?_,?_,?_⟩,?_⟩ <;> first|decide|(simp [Di,BH];done))
section
variable {ω:Om}{I:Imm}{L F:LH}{K:Value→M}{s:Ses}{b:Nat}{X:LH}
theorem Sv [hsp:SplitL X L F](hS:SeM I s b X)(hn:s.out.length≤99999990000000)(hk:∀I' X',Ext I I'→SeM I' (IM s) b X'→K (.tuple #[]) I' (X'++F)):CT ω 77 #[Ac b] K I L:=by
 refine zAM X ?_;obtain ⟨vl,vs,vo,sc,XL,XO,rfl,h2,h3,h4,h5,h6⟩:=hS;refine AQt ?_;unfold APc;simp only [zt,SSd,Nat.reduceAdd];refine st1 rfl ?_;refine Ci ?_;try refine zqe ?_
 refine BJ ?_;try refine zqe ?_
 refine BJ ?_;try refine zqe ?_
 have hok:=ALI s;have hon:Dn (hiL s)≤960:=by
  have:=AAm (l:=hiL s) (n:=60) (λm hm=>(hok m hm).2);simpa [hiL] using this
 refine Eg (R:=TBackV) (hiL s) [[.int .i64 1,.string ⟨#[]⟩,.string ⟨#[]⟩,.int .i64 0,.int .i64 0,.int .u8 0,.slice none 0 0,.slice none 0 0,.string ⟨#[]⟩,.bool false],
  [.int .i64 2,.string ⟨([115,101,114,118,101,114,95,118,101,114,115,105,111,110]:Bs).toArray⟩,.string ⟨([49,54,46,48]:Bs).toArray⟩,.int .i64 0,.int .i64 0,.int .u8 0,.slice none 0 0,.slice none 0 0,.string ⟨#[]⟩,.bool false],
  [.int .i64 2,.string ⟨([99,108,105,101,110,116,95,101,110,99,111,100,105,110,103]:Bs).toArray⟩,.string ⟨([85,84,70,56]:Bs).toArray⟩,.int .i64 0,.int .i64 0,.int .u8 0,.slice none 0 0,.slice none 0 0,.string ⟨#[]⟩,.bool false],
  [.int .i64 2,.string ⟨([68,97,116,101,83,116,121,108,101]:Bs).toArray⟩,.string ⟨([73,83,79]:Bs).toArray⟩,.int .i64 0,.int .i64 0,.int .u8 0,.slice none 0 0,.slice none 0 0,.string ⟨#[]⟩,.bool false],
  [.int .i64 3,.string ⟨#[]⟩,.string ⟨#[]⟩,.int .i64 s.pid,.int .i64 s.secret,.int .u8 0,.slice none 0 0,.slice none 0 0,.string ⟨#[]⟩,.bool false],
  [.int .i64 4,.string ⟨#[]⟩,.string ⟨#[]⟩,.int .i64 0,.int .i64 0,.int .u8 73,.slice none 0 0,.slice none 0 0,.string ⟨#[]⟩,.bool false]] rfl rfl rfl ?_ ?_ (λhI h=>TBackV.mono h hI) (λI1 a hI1 hw=>zAA ?_)
 ·intro c hc;simp only [zK,zaG,or_false] at hc;rcases hc with rfl|rfl|rfl|rfl|rfl|rfl <;> rfl
 ·intro p hp;simp only [hiL,List.zip_cons_cons,List.zip_nil_right,zK,zaG,or_false] at hp;rcases hp with rfl|rfl|rfl|rfl|rfl|rfl <;> exact ⟨_,_,rfl,zAD none 0,zAD none 0⟩
 ·refine call (ML (X:=(b,CV s.pid s.secret 73 vl s.query vs s.kind sc s.own s.ended vo)::(XL++XO)) (s:={s with status:=73}) (l:=hiL s) ⟨vl,vs,vo,sc,XL,XO,rfl,h2,zAI (λ_ _ h=>TStmtV.mono h hI1) h3 hI1 (λ_ h=>h),h4,by show (0:Int)≤73;decide,by show (73:Int)≤255;decide⟩ hw (by simp [hiL]) (λm hm=>(hok m hm).1) (by show s.out.length+_≤_;omega) (λI' X' hI hS'=>?_));exact zAA (hk I' X' (zAB hI1 hI) hS')
theorem Ya {G:Imm}(hTok:EK ω G)(hLim:Qv ω)(t:Bs)[hsp:SplitL X L F](hG:Ext G I)(hS:SeM I s b X)(hn:s.out.length≤99999990000000)(hk:∀I' X',Ext I I'→SeM I' (Ug s t) b X'→K (.tuple #[]) I' (X'++F)):CT ω 78 #[Ac b,.string ⟨t.toArray⟩] K I L:=by
 refine zAM X ?_;obtain ⟨vl,vs,vo,sc,XL,XO,rfl,h2,h3,h4,h5,h6⟩:=hS;refine AQs ?_;unfold APb;unfold Ug at hk;simp only [zt,SSd,Nat.reduceAdd];refine st1 rfl ?_;refine call (Xu hTok hLim t hG (λI1 a k hI1 hw=>?_));have hS1:SeM I1 {s with query:=true} b ((b,CV s.pid s.secret s.status vl true vs s.kind sc s.own s.ended vo)::(XL++XO)):=⟨vl,vs,vo,sc,XL,XO,rfl,h2,zAI (λ_ _ h=>TStmtV.mono h hI1) h3 hI1 (λ_ h=>h),h4,h5,h6⟩;generalize Cc t=p at *;obtain ⟨pl,pe⟩:=p;simp only at *
 try refine zqe ?_
 refine Ap (λbf=>?_);refine stB rfl rfl (AV rfl) ?_;try refine zqe ?_
 refine rdb ?_;try refine zqe ?_
 have last:∀(I2:Imm) (X':LH) (s2:Ses),Ext I1 I2→SeM I2 s2 b X'→(∀I' X',Ext I I'→SeM I' {s2 with stmts:=pl} b X'→K (.tuple #[]) I' (X'++F))→Ov ω (Ac b) (.slice a pl.length k) (λv=>Gh (K v)) I2 (X'++((bf,.cells [.int .i64 pe.code,.int .i64 pe.at'].toArray 157 (0,0))::F)):=by
  intro I2 X' s2 hI2 hS2 hk2;obtain ⟨vl,vs,vo,sc,XL,XO,rfl,h2,h3,h4,h5,h6⟩:=hS2;unfold Ov;simp only [zt,SSd,Nat.reduceAdd];refine st1 rfl ?_;refine zAE ((b,_)::(XL++(XO++F))) (asc (A:=Gh (K _)) (zAA (hk2 I2 _ (zAB hI1 hI2) ⟨vl,_,vo,sc,XL,XO,rfl,h2,zAI (λ_ _ h=>TStmtV.mono h hI2) hw hI2 (λ_ h=>h),h4,h5,h6⟩)))
 cases h1:(pe.code != 0) with
 |true=>
  rw [if_pos h1] at hk;try refine zqe ?_
  refine rdb ?_;refine call (FT (X:=(b,CV s.pid s.secret s.status vl true vs s.kind sc s.own s.ended vo)::(XL++XO)) pe.code false hS1 hn (λI2 X2 hI2 hS2=>?_));refine call (Nc (X:=X2) hS2 (λX3 hS3=>?_));exact zAE (X3++F) (zAA (hk I2 X3 (zAB hI1 hI2) hS3))
 |false=>
 rw [if_neg (by rw [h1];decide)] at hk;simp only [Dx,SSd,Nat.reduceAdd];cases hp:pl with
 |nil=>
  rw [hp] at hk last hw;simp only [List.isEmpty_nil,if_true] at hk;simp only [zH,show (((0:Nat):Int)==0)=true from rfl,SSd,Nat.reduceAdd];refine RU (X:=(b,CV s.pid s.secret s.status vl true vs s.kind sc s.own s.ended vo)::(XL++XO)) (m:={fKind:=8}) rfl hS1 (λI' _=>⟨_,_,rfl,zAD none 0,zAD none 0⟩) ⟨by decide,by decide,by decide,by decide⟩ zx hn (λI' X' e' hI' hS2=>?_);exact last I' X' _ hI' hS2 hk
 |cons y r=>
  rw [hp] at hk last;simp only [List.isEmpty_cons,zl,if_false] at hk;have hz:((((y::r).length:Nat):Int)==0)=false:=beq_false_of_ne zu;simp only [hz,SSd,Nat.reduceAdd];unfold Ov;rw [hp] at hw;try refine zqe ?_
  refine st1 rfl ?_;refine zAE ((b,_)::(XL++(XO++F))) (asc (A:=Gh (K _)) (zAA (hk I1 _ hI1 ⟨vl,_,vo,sc,XL,XO,rfl,h2,hw,h4,h5,h6⟩)))
theorem ABd {G:Imm}{f:TFront}{c:List Value}(hTok:EK ω G)(hLim:Qv ω)(hf:FrC f c)[hsp:SplitL X L F](hG:Ext G I)(hS:SeM I s b X)(hn:s.out.length≤99999990000000)(hk:∀I' X',Ext I I'→SeM I' (Ha s f) b X'→K (.tuple #[]) I' (X'++F)):CT ω 51 #[Ac b,.agg c.toArray] K I L:=by
 refine zAM X ?_;obtain ⟨a,n,k,p,sc,tg,rfl⟩:=hf;refine ARK ?_;unfold APq;unfold Ha at hk;try refine zqe ?_
 refine Ap (λbf=>?_);try refine zqe ?_
 refine rdb ?_;try refine zqe ?_
 by_cases h2:(f.fKind==2)=true
 ·rw [if_pos h2] at hk;simp only [h2,SSd,Nat.reduceAdd];refine RU (X:=X) (m:={fKind:=10}) rfl hS (λI' _=>⟨_,_,rfl,zAD none 0,zAD none 0⟩) ⟨by decide,by decide,by decide,by decide⟩ zx hn (λI' X' e' hI' hS2=>?_);exact zAE (X'++F) (zAA (hk I' X' hI' hS2))
 rw [if_neg h2] at hk;simp only [zg.2 h2,SSd,Nat.reduceAdd];have he:TK ω (Ac b) (.pointer (some ⟨bf,0,none⟩)) (.int .i64 f.fKind) (.bool (f.fKind==3||f.fKind==5)) (λv=>Gh (K v)) I ((bf,.cells [.int .i64 f.fKind,.slice a n k,.string ⟨f.fText.toArray⟩,.int .i64 p,.int .i64 sc,.int .u8 tg].toArray 106 (0,0))::(X++F)):=by
  unfold TK;by_cases h3:(f.fKind==3||f.fKind==5)=true
  ·rw [if_pos h3] at hk;simp only [h3,SSd,Nat.reduceAdd];refine call (JJ (X:=X) hS (λX' h=>?_));exact zAE (X'++F) (zAA (hk I X' (zAC _) h))
  rw [if_neg h3] at hk;simp only [zg.2 h3,SSd,Nat.reduceAdd];by_cases h1:(f.fKind==1)=true
  ·rw [if_pos h1] at hk;simp only [h1,SSd,Nat.reduceAdd];refine call (Sv (X:=X) hS hn (λI' X' hI h=>?_));exact zAE (X'++F) (zAA (hk I' X' hI h))
  rw [if_neg h1] at hk;simp only [zg.2 h1,SSd,Nat.reduceAdd];by_cases h4:(f.fKind==4)=true
  ·rw [if_pos h4] at hk;simp only [h4,SSd,Nat.reduceAdd];refine rdb ?_;refine call (Ya (X:=X) hTok hLim f.fText hG hS hn (λI' X' hI h=>?_));exact zAE (X'++F) (zAA (hk I' X' hI h))
  rw [if_neg h4] at hk;simp only [zg.2 h4,SSd,Nat.reduceAdd];refine call (FT (X:=X) 230 true hS hn (λI' X' hI h=>?_));refine call (JJ (X:=X') h (λX2 h2=>?_));exact zAE (X2++F) (zAA (hk I' X2 hI h2))
 cases h3:(f.fKind==3) with
 |true=>
  rw [h3,Bool.true_or] at he;try refine zqe ?_
  exact he
 |false=>
  rw [h3,zba] at he;try refine zqe ?_
  exact he
end
theorem JS (s:Ses)(m:TBack)(h:Di m≤1000):(BD s [m]).out.length≤s.out.length+1100:=by
 have h1:=Ku s [m];have h2:=LD m;omega
theorem LX (s:Ses)(e:Int)(f:Bool):(Bj s e f).out.length≤s.out.length+1100:=JS s (AIe e f) (by have:=AAz e f;omega)
theorem QQ (s:Ses)(t:Bs)(h:t.length≤900):(Dt s t).out.length≤s.out.length+1100:=JS s {fKind:=7,fText:=t} (by simp only [Di,BH,zal,zaA,zH];omega)
theorem UY (s:Ses):(Ig s).out=s.out:=rfl
theorem WU (s:Ses):(Dh s).out=s.out:=by unfold Dh;split <;> rfl
theorem ACI (s:Ses):(IM s).out.length≤s.out.length+1100:=by
 have h1:=Ku {s with status:=73} (hiL s);have h2:=AAm (l:=hiL s) (n:=60) (λm hm=>(ALI s m hm).2);have h3:(hiL s).length=6:=rfl;have h4:IM s=BD {s with status:=73} (hiL s):=rfl;rw [h4];simp only at h1
 omega
theorem Ub (s:Ses)(k a:Int)(t:Bs)(h:t.length≤900):(Jb s k a t).out.length≤s.out.length+1100:=by
 unfold Jb;split
 ·simp only;omega
 ·exact QQ s t h
theorem AFR (s:Ses)(x:TStmt):(Fj s x).out.length≤s.out.length+1100:=by
 unfold Fj;split
 ·split
  ·exact QQ {s with status:=73} _ zx
  ·exact JS s _ zx
 split
 ·exact Ub s _ _ _ zx
 split
 ·exact Ub s _ _ _ zx
 split
 ·exact Ub s _ _ _ zx
 ·simp only;omega
theorem AIR (s:Ses)(f:TFront):(Ha s f).out.length≤s.out.length+1100:=by
 unfold Ha Ug;repeat' split
 ·exact JS s _ zx
 ·rw [UY];omega
 ·exact ACI s
 ·rw [WU];exact LX {s with query:=true} _ _
 ·exact JS {s with query:=true} _ zx
 ·simp only;omega
 ·rw [UY];exact LX s _ _
theorem ABn {s t:Ses}(h:CY s=some t):t.out.length≤s.out.length+1100:=by
 unfold CY at h;split at h
 ·cases h
 split at h
 ·simp only [zn] at h;subst h;exact AFR {s with stmts:=s.stmts.tail} _
 split at h
 ·simp only [zn] at h;subst h;exact JS {s with query:=false} _ (by simp only [Di,BH,zal,zaA,zH];omega)
 simp only at h
 split at h
 ·cases h
 split at h
 ·simp only [zn] at h;subst h;rw [UY];exact LX s _ _
 ·simp only [zn] at h;subst h;exact AIR {s with left:=s.left.drop (BN s.left (s.status==0)).2.1.toNat} _
def BO (s:Ses):Nat:=s.out.length+2000 * mu s
theorem PV {s t:Ses}(h:CY s=some t):BO t≤BO s:=by
 have h1:=ABn h;have h2:=Fb h;unfold BO;omega
theorem AAu (n:Nat):∀{s:Ses},mu s < n→BO (goF s)≤BO s:=by
 induction n with
 |zero=>intro s h;omega
 |succ n ih=>
  intro s hn;rw [Fv];cases hr:CY s with
  |none=>exact zh _
  |some t=>
   have h1:=Fb hr;exact zaC (ih zo) (PV hr)
section
variable {ω:Om}{I:Imm}{L F:LH}{K:Value→M}{s:Ses}{b:Nat}{X:LH}
theorem OwB.drop_at {v:Value}{l:Bs}{n:Nat}(h:OwB X v l)(hn:n≤l.length)(h0:0 < n):∃bb off cap,Bi 1 v (some (.int .i64 n)) none none=some (.slice (some ⟨bb,off,none⟩) (l.length - n) cap)∧∀(I:Imm) (L:LH),(∀x∈X,x∈L)→News 1 (.slice (some ⟨bb,off,none⟩) (l.length - n) cap) I L (l.length - n) (Lib.byteCells (l.drop n)):=by
 obtain ⟨hl,h2⟩:=h;rcases h2 with ⟨rfl,hz,_⟩|⟨bb,cap,cs,rfl,rfl,hcs,hle,hcell⟩
 ·omega
 ·have hs:Bi 1 (.slice (some ⟨bb,0,none⟩) l.length cap) (some (.int .i64 n)) none none=some (.slice (some ⟨bb,if cap=n then 0 else n,none⟩) (l.length - n) (cap - n)):=by
   have h2:n≠0:=by omega
   by_cases hc:cap=n
   ·simp [Bi,DJ,hn,hc]
   ·simp [Bi,DJ,hn,hc,h2,Addr.add]
  refine ⟨bb,_,_,hs,λI L hX=>?_⟩;by_cases hc:cap=n
  ·have:l.length - n=0:=by omega
   rw [this];have hd:l.drop n=[]:=zan zo;rw [hd];exact .inl ⟨_,_,rfl,rfl,rfl⟩
  ·rw [if_neg hc];refine .inr (.inl ⟨bb,n,cap - n,rfl,by simp [Lib.byteCells],λj u hu=>?_⟩);have hm:(bb,Obj.cells cs 5 (0,0))∈L:=hX _ (zM.2 rfl);refine Cell.own hm (hcell (n+j) u ?_);have:Lib.byteCells (l.drop n)=(Lib.byteCells l).drop n:=by simp [Lib.byteCells]
   rw [this,zat] at hu;exact hu
theorem AGH {bb off cap len:Nat}{t:Bs}(hn:News 1 (.slice (some ⟨bb,off,none⟩) len cap) I L len (Lib.byteCells t))(hlen:len=t.length)(hl:t.length≤1000000000000)(hk:∀X' v',OwB X' v' t→K v' I (X'++L)):CT ω 50 #[.slice (some ⟨bb,off,none⟩) len cap] K I L:=by
 subst hlen;refine ARL ?_;unfold APr;try refine zqe ?_
 refine AGL (λX0 u0 hX0=>?_);refine BL (X:=X0) (n:=1) (m:=t.length) rfl hX0 (news:=Lib.byteCells t) ?_ (λu hu=>?_) zo zo (λX2 v2 hX2=>?_)
 ·rcases hn with ⟨a,c,e,h0,h1⟩|⟨b',o',c',e,h1,h2⟩|⟨s,e,_⟩
  ·exact .inl ⟨a,c,e,h0,h1⟩
  ·exact .inr (.inl ⟨b',o',c',e,h1,λj u hu=>(h2 j u hu).mono (zAC _) (λx hx=>zaT _ hx)⟩)
  ·cases e
 ·obtain ⟨d,_,rfl⟩:=zaf.1 hu;rfl
 ·have hX2:OwB X2 v2 t:=by
   have:SlO 5 1 X2 v2 ([]++Lib.byteCells t) (0+t.length):=hX2;rw [zaF,zaS] at this;exact this
  exact zAA (hk X2 v2 hX2)
end
section
variable {ω:Om}{I:Imm}{L F:LH}{K:Value→M}{s:Ses}{b:Nat}{X:LH}
theorem ADL {v:Value}{l:List TStmt}(h:RL TStmtV 51 I [] v l)(h0:l≠[]):∃a k,Bi 51 v (some (.int .i64 1)) none none=some (.slice a l.tail.length k)∧RL TStmtV 51 I [] (.slice a l.tail.length k) l.tail:=by
 have hp:=List.length_pos_iff.2 h0;obtain ⟨v',e1,h1⟩:=RL.part h (lo:=1) (hi:=l.length) hp (zh _) (some (.int .i64 (1:Nat))) none (KN _ _ _ _ hp) (λcap hc=>rfl);have e:(l.drop 1).take (l.length - 1)=l.tail:=by
  rw [List.drop_one,zW (by rw [zaV];omega)]
 rw [e] at h1;obtain ⟨a,k,rfl⟩:=zAF h1;exact ⟨a,k,e1,h1⟩
theorem AAn {G:Imm}(hTok:EK ω G)(hLim:Qv ω)[hsp:SplitL X L F](hG:Ext G I)(hS:SeM I s b X)(hn:BO s≤99999980000000)(hk:∀I' X',Ext I I'→SeM I' (goF s) b X'→K (.tuple #[]) I' (X'++F)):CT ω 27 #[Ac b] K I L:=by
 refine zAM X ?_;refine ARa ?_;unfold AQF;refine loop (λm st I' L'=>∃(s':Ses) (X':LH),mu s'=m∧Ext I I'∧L'=X'++F∧SeM I' s' b X'∧goF s'=goF s∧BO s'≤99999980000000) (mu s) ⟨s,X,rfl,zAC _,rfl,hS,rfl,hn⟩ ?_;rintro m st I' L' ⟨s',X',rfl,hI,rfl,hS',hgo,hroom⟩;have wait:CY s'=none→∀I2,Ext I' I2→K (.tuple #[]) I2 (X'++F):=λh I2 hI2=>by
  refine hk I2 X' (zAB hI hI2) ?_;rw [←hgo,Fv,h];exact hS'.mono hI2
 have over:∀(I2:Imm) (X2:LH) (t:Ses),Ext I' I2→CY s'=some t→t.ended=true→SeM I2 t b X2→K (.tuple #[]) I2 (X2++F):=by
  intro I2 X2 t hI2 hr he hS2;refine hk I2 X2 (zAB hI hI2) ?_;rw [←hgo,Fv,hr];simp only
  rw [Vt he];exact hS2
 have step:∀(I2:Imm) (X2:LH) (t:Ses),Ext I' I2→CY s'=some t→SeM I2 t b X2→∃m',m' < mu s'∧∃(s':Ses) (X':LH),mu s'=m'∧Ext I I2∧X2++F=X'++F∧SeM I2 s' b X'∧goF s'=goF s∧BO s'≤99999980000000:=by
  intro I2 X2 t hI2 hr hS2;refine ⟨mu t,Fb hr,t,X2,rfl,zAB hI hI2,rfl,hS2,?_,zaC (PV hr) hroom⟩;rw [←hgo,Fv (s:=s'),hr]
 have hout:s'.out.length≤99999990000000:=by unfold BO at hroom;omega
 have hleft:s'.left.length≤100000000:=by unfold BO mu at hroom;omega
 have hSS:=hS';obtain ⟨vl,vs,vo,sc,XL,XO,rfl,h2,h3,h4,h5,h6⟩:=hS';unfold AEK;simp only [zt,SSd,Nat.reduceAdd];refine rdb ?_;try refine zqe ?_
 have hrd:CY s'=if s'.ended||s'.kind != 0 then none else if s'.query&& !s'.stmts.isEmpty then some (Fj {s' with stmts:=s'.stmts.tail} (s'.stmts.headD default)) else if s'.query then some (BD {s' with query:=false} [{fKind:=4,fStatus:=s'.status}]) else if (BN s'.left (s'.status==0)).2.2==10 then none else if (BN s'.left (s'.status==0)).2.2 != 0 then some (Ig (Bj s' (BN s'.left (s'.status==0)).2.2 true)) else some (Ha {s' with left:=s'.left.drop (BN s'.left (s'.status==0)).2.1.toNat} (BN s'.left (s'.status==0)).1):=rfl
 cases hen:s'.ended with
 |true=>
  rw [if_pos (by rw [hen];rfl)] at hrd;have:=wait hrd I' (zAC _);rw [hen] at this;simp only [zB,SSd,Nat.reduceAdd];exact asc (A:=Gh (K _)) (zAA this)
 |false=>
 simp only [zak,SSd,Nat.reduceAdd];refine rdb ?_;try refine zqe ?_
 cases hki:(s'.kind==0) with
 |false=>
  rw [if_pos (by simp only [bne,hki,hen];rfl)] at hrd;have:=wait hrd I' (zAC _);rw [hen] at this;try refine zqe ?_
  exact asc (A:=Gh (K _)) (zAA this)
 |true=>
 rw [if_neg (by simp only [bne,hki,hen];decide)] at hrd;try refine zqe ?_
 refine rdb ?_;rw [hen] at hSS;have k5:(s'.query&& !s'.stmts.isEmpty)=false→TS ω (Ac b) (λst=>Gh λI2 L2=>∃m',m' < mu s'∧∃(s':Ses) (X':LH),mu s'=m'∧Ext I I2∧L2=X'++F∧SeM I2 s' b X'∧goF s'=goF s∧BO s'≤99999980000000) (λv=>Gh (K v)) I' ((b,CV s'.pid s'.secret s'.status vl s'.query vs s'.kind sc s'.own false vo)::(XL++(XO++F))):=by
  intro hq;rw [if_neg (by rw [hq];decide)] at hrd;unfold TS;try refine zqe ?_
  refine rdb ?_;cases hqq:s'.query with
  |true=>
   rw [if_pos hqq] at hrd;try refine zqe ?_
   refine st1 rfl ?_;try refine zqe ?_
   refine rdb ?_;try refine zqe ?_
   refine RU (X:=(b,CV s'.pid s'.secret s'.status vl false vs s'.kind sc s'.own false vo)::(XL++XO)) (s:={s' with query:=false}) (m:={fKind:=4,fStatus:=s'.status}) rfl ⟨vl,vs,vo,sc,XL,XO,by rw [←hen],h2,h3,h4,h5,h6⟩ (λI' _=>⟨_,_,rfl,zAD none 0,zAD none 0⟩) ⟨by simp [Di,BH],h5,h6,by show (0:Int)≤4;decide⟩ (by simp [Di,BH]) hout (λI2 X2 e' hI2 hS2=>?_);exact zAA (step I2 X2 _ hI2 hrd hS2)
  |false=>
   rw [if_neg (by rw [hqq];decide)] at hrd;have hS3:=hSS;rw [hqq] at hSS;try refine zqe ?_
   refine WG [(b,CV s'.pid s'.secret s'.status vl false vs s'.kind sc s'.own false vo)] ?_;try refine zqe ?_
   refine BJ ?_;try refine zqe ?_
   refine BJ ?_;try refine zqe ?_
   have size:=@QF s'.left (s'.status==0);have tail:∀(I2:Imm) (bf:Nat) (c:List Value),Ext I' I2→FrC (BN s'.left (s'.status==0)).1 c→TR ω (Ac b) (.pointer (some ⟨bf,0,none⟩)) (.int .i64 (BN s'.left (s'.status==0)).2.1) (.int .i64 (BN s'.left (s'.status==0)).2.2) (λst=>Gh λI2 L2=>∃m',m' < mu s'∧∃(s':Ses) (X':LH),mu s'=m'∧Ext I I2∧L2=X'++F∧SeM I2 s' b X'∧goF s'=goF s∧BO s'≤99999980000000) (λv=>Gh (K v)) I2 ((bf,FrO c)::(b,CV s'.pid s'.secret s'.status vl false vs s'.kind sc s'.own false vo)::(XL++(XO++F))):=by
    intro I2 bf c hI2 hc;generalize hfr:BN s'.left (s'.status==0)=fr at *;obtain ⟨f,size',e⟩:=fr;simp only at *
    unfold TR;have hSx:=hSS.mono hI2;try refine zqe ?_
    by_cases h10:(e==10)=true
    ·rw [if_pos h10] at hrd;have:=wait hrd I2 hI2;rw [hen,hqq] at this;simp only [h10,SSd,Nat.reduceAdd];exact zAE ((b,CV s'.pid s'.secret s'.status vl false vs s'.kind sc s'.own false vo)::(XL++(XO++F))) (asc (A:=Gh (K _)) (zAA this))
    rw [if_neg h10] at hrd;simp only [zg.2 h10,SSd,Nat.reduceAdd];by_cases h0:(e != 0)=true
    ·rw [if_pos h0] at hrd;simp only [h0,SSd,Nat.reduceAdd];refine call (FT (X:=(b,CV s'.pid s'.secret s'.status vl false vs s'.kind sc s'.own false vo)::(XL++XO)) e true hSx hout (λI3 X3 hI3 hS3=>?_));refine call (JJ (X:=X3) hS3 (λX4 hS4=>?_));exact zAE (X4++F) (zAA (over I3 X4 _ (zAB hI2 hI3) hrd rfl hS4))
    rw [if_neg h0] at hrd;simp only [zg.2 h0,SSd,Nat.reduceAdd];obtain ⟨g1,g2⟩:=size (by simpa using h0);obtain ⟨n,rfl⟩:∃n:Nat,size'=n:=⟨size'.toNat,by omega⟩;rw [zbp] at hrd;obtain ⟨bb,off,cap,e1,e2⟩:=OwB.drop_at h2 (n:=n) zo zo;refine rdb ?_;simp only [e1,SSd,Nat.reduceAdd];refine call (AGH (e2 I2 _ (λx hx=>zV _ (zV _ (zY _ hx)))) (by rw [zaq]) (by rw [zaq];omega) (λXN v' hXN=>?_));obtain ⟨a',k',rfl⟩:=hXN.form;try refine zqe ?_
    refine st1 rfl ?_;refine BV (FrC.one hc).1 ?_;refine call (Cal.to ((b,CV s'.pid s'.secret s'.status (.slice a' (s'.left.drop n).length k') false vs s'.kind sc s'.own false vo)::(XN++(XO++F))) (asc ?_));refine ABd (G:=G) (s:={s' with left:=s'.left.drop n}) (X:=(b,CV s'.pid s'.secret s'.status (.slice a' (s'.left.drop n).length k') false vs s'.kind sc s'.own false vo)::(XN++XO)) hTok hLim hc (zAB hG (zAB hI hI2)) ⟨_,vs,vo,sc,XN,XO,by rw [hen,hqq],hXN,zAI (λ_ _ h=>TStmtV.mono h hI2) h3 hI2 (λ_ h=>h),h4,h5,h6⟩ hout (λI3 X3 hI3 hS3=>?_);exact zAA (step I3 X3 _ (zAB hI2 hI3) hrd hS3)
   have z1:∀{f:TFront} {c:List Value},FrC f c→∀u∈c,u.oneCell'=true:=λh=>(FrC.one h).2;refine And.intro ?_ ?_
   ·refine Sj (zAM XL (Le h2 (λI1 hI1 hv=>?_)));refine JL (s'.status==0) hv zo (λc hc=>⟨zAC _,λI2 hI2=>?_⟩);refine zAE ((b,CV s'.pid s'.secret s'.status vl false vs s'.kind sc s'.own false vo)::(XL++(XO++F))) (zAA ?_);try refine zqe ?_
    refine Ap (λbf=>?_);refine BK hI2 ?_;refine stB (FrC.one hc).1 rfl (z1 hc) ?_;exact tail I2 bf c hI2 hc
   ·refine Ap (λbf=>?_);refine BK (zAC _) ?_;refine Sj (zAM XL (Le h2 (λI1 hI1 hv=>?_)));refine JL (s'.status==0) hv zo (λc hc=>⟨zAC _,λI2 hI2=>?_⟩);refine zAE ((bf,FrO z6)::(b,CV s'.pid s'.secret s'.status vl false vs s'.kind sc s'.own false vo)::(XL++(XO++F))) (zAA ?_);try refine zqe ?_
    refine stB (FrC.one hc).1 rfl (z1 hc) ?_;exact tail I2 bf c hI2 hc
 cases hq:s'.query with
 |true=>
  rw [hq] at k5 hSS;try refine zqe ?_
  refine rdb ?_;simp only [zAK h3,SSd,Nat.reduceAdd];cases hst:s'.stmts with
  |nil=>
   rw [hst] at k5;simp only [zH,show decide ((0:Int) < ((0:Nat):Int))=false from rfl,SSd,Nat.reduceAdd];exact k5 rfl
  |cons y r=>
   have hne:s'.stmts≠[]:=by rw [hst];exact List.cons_ne_nil _ _
   rw [if_pos (by rw [hq,hst];rfl)] at hrd;have hd:s'.stmts.headD default=QE s'.stmts 0:=by rw [hst];rfl
   have hpos:decide ((0:Int) < ((y::r).length:Nat))=true:=decide_eq_true (by simp only [zi];omega);simp only [hpos,SSd,Nat.reduceAdd];unfold AEJ;try refine zqe ?_
   refine rdb ?_;obtain ⟨bt,off,c,g1,gl,g2,g3⟩:=RL.hd h3 hne;obtain ⟨a',k',e1,e2⟩:=ADL h3 hne;rw [←hd] at g2;simp only [g1,SSd,Nat.reduceAdd];refine rdN gl (g3 _ _ (zAC _) (λ_ h=>by cases h)) ?_;refine Ap (λbx=>?_);refine stB gl rfl (TStmtV.one g2) ?_;refine rdb ?_;simp only [e1,SSd,Nat.reduceAdd];refine st1 rfl ?_;refine BV gl ?_;refine call (XZ (X:=(b,CV s'.pid s'.secret s'.status vl true (.slice a' s'.stmts.tail.length k') s'.kind sc s'.own false vo)::(XL++XO)) (s:={s' with stmts:=s'.stmts.tail}) g2 ⟨vl,_,vo,sc,XL,XO,by rw [hen,hq],h2,e2,h4,h5,h6⟩ hout (λI2 X2 hI2 hS2=>?_));exact zAE (X2++F) (zAA (step I2 X2 _ hI2 hrd hS2))
 |false=>
  rw [hq] at k5;try refine zqe ?_
  exact k5 rfl
end
section
variable {ω:Om}{I:Imm}{L F:LH}{K:Value→M}{s:Ses}{b:Nat}{X:LH}
theorem Bytes.clip {v:Value}{l:Bs}(h:Bytes I v l):∃a,Bi 1 v none (some (.int .i64 (l.length:Nat))) (some (.int .i64 (l.length:Nat)))=some (.slice a l.length l.length)∧Bytes I (.slice a l.length l.length) l:=by
 obtain ⟨hl,a,cap,rfl,hcap,h⟩:=h;have hs:Bi 1 (.slice a l.length cap) none (some (.int .i64 (l.length:Nat))) (some (.int .i64 (l.length:Nat)))=some (.slice (if l.length=0 then a else a.map (·.add 0)) l.length l.length):=by
  simp [Bi,DJ,hcap]
 refine ⟨_,hs,hl,_,_,rfl,zh _,λh0=>?_⟩;obtain ⟨bb,off,cs,T,fr,rfl,h1,h2⟩:=h h0;refine ⟨bb,off,cs,T,fr,?_,h1,h2⟩;rw [if_neg h0];rfl
theorem Ot [hsp:SplitL X L F](hS:SeM I s b X)(hk:∀I' X' v,Ext I I'→SeM I' {s with out:=[]} b X'→Bytes I' v s.out→K v I' (X'++F)):CT ω 28 #[Ac b] K I L:=by
 refine zAM X ?_;obtain ⟨vl,vs,vo,sc,XL,XO,rfl,h2,h3,h4,h5,h6⟩:=hS;refine ARZ ?_;unfold AQE;simp only [zt,SSd,Nat.reduceAdd];refine rdb ?_;refine call (ABD ?_);refine zAE (XO++((b,CV s.pid s.secret s.status vl s.query vs s.kind sc s.own s.ended vo)::(XL++F))) ?_;refine SlO.freeze h4 (λI1 hI1 hv=>zAA ?_);have hv:Bytes I1 vo s.out:=hv;refine ARJ ?_;unfold APp;obtain ⟨a,e1,e2⟩:=Bytes.clip hv;simp only [hv.len,e1,SSd,Nat.reduceAdd];refine zAA ?_;refine st1 rfl ?_;have:=hk I1 ((b,CV s.pid s.secret s.status vl s.query vs s.kind sc s.own s.ended (.slice none 0 0))::(XL++[])) _ hI1 ⟨vl,vs,_,sc,XL,[],rfl,h2,zAI (λ_ _ h=>TStmtV.mono h hI1) h3 hI1 (λ_ h=>h),zAJ _ _,h5,h6⟩ e2;rw [zaK,zah] at this;exact zAA this
theorem SG {G:Imm}(hTok:EK ω G)(hLim:Qv ω){w:Value}{t:Bs}[hsp:SplitL X L F](hG:Ext G I)(hS:SeM I s b X)(hw:Bytes I w t)(hlen:(s.left++t).length≤100000000)(hn:BO {s with left:=s.left++t}≤99999980000000)
  (hk:∀I' X' v,Ext I I'→SeM I' (FM s t).1 b X'→Bytes I' v (FM s t).2→K v I' (X'++F)):CT ω 11 #[Ac b,w] K I L:=by
 refine zAM X ?_;have hSS:=hS;obtain ⟨vl,vs,vo,sc,XL,XO,rfl,h2,h3,h4,h5,h6⟩:=hS;rw [zk] at hlen;refine ARi ?_;unfold AQN;unfold FM at hk;simp only [zt,SSd,Nat.reduceAdd];refine rdb ?_;cases hen:s.ended with
 |true=>
  rw [if_pos hen] at hk;rw [hen] at hSS;try refine zqe ?_
  exact asc (A:=Gh (K _)) (zAA (hk I _ _ (zAC _) hSS (SlI.nil _ _ _ _)))
 |false=>
 rw [if_neg (by rw [hen];decide)] at hk;simp only at hk
 try refine zqe ?_
 refine rdb ?_;refine BL (X:=XL) (n:=1) (m:=t.length) rfl h2 (news:=Lib.byteCells t) (SlI.news hw) (λu hu=>?_) zo zo (λX2 u2 hX2=>?_)
 ·obtain ⟨d,_,rfl⟩:=zaf.1 hu;rfl
 have hX2:OwB X2 u2 (s.left++t):=OwB.mk hX2;obtain ⟨a,k,rfl⟩:=hX2.form;try refine zqe ?_
 refine st1 rfl ?_;try refine zqe ?_
 refine rdb ?_;simp only [Dx,SSd,Nat.reduceAdd];have hS1:SeM I {s with left:=s.left++t} b ((b,CV s.pid s.secret s.status (.slice a (s.left++t).length k) s.query vs s.kind sc s.own false vo)::(X2++XO)):=⟨_,vs,vo,sc,X2,XO,by rw [←hen],hX2,h3,h4,h5,h6⟩;have hro:s.out.length≤99999990000000:=by unfold BO at hn;simp only at hn;omega
 have last:∀(I1:Imm) (X1:LH) (t1:Ses),Ext I I1→SeM I1 t1 b X1→(∀I' X' v,Ext I I'→SeM I' {t1 with out:=[]} b X'→Bytes I' v t1.out→K v I' (X'++F))→UA ω (Ac b) (.slice none 0 0) (λv=>Gh (K v)) I1 (X1++F):=by
  intro I1 X1 t1 hI1 hS1 hk1;unfold UA;refine call (Ot (X:=X1) hS1 (λI2 X2 v hI2 hS2 hb=>?_));exact zAA (hk1 I2 X2 v (zAB hI1 hI2) hS2 hb)
 refine AL (λhb=>?_) (λhb=>?_)
 ·have hb:2097152 < (s.left++t).length:=by have:=of_decide_eq_true hb;omega
  rw [if_pos hb] at hk;refine call (Cal.to ((b,CV s.pid s.secret s.status (.slice a (s.left++t).length k) s.query vs s.kind sc s.own false vo)::(X2++(XO++F))) ?_);refine FT (X:=(b,CV s.pid s.secret s.status (.slice a (s.left++t).length k) s.query vs s.kind sc s.own false vo)::(X2++XO)) 231 true hS1 hro (λI1 X1 hI1 hS2=>?_);refine call (JJ (X:=X1) hS2 (λX3 hS3=>?_));exact last I1 X3 _ hI1 hS3 hk
 ·have hb:¬2097152 < (s.left++t).length:=by have:=of_decide_eq_false hb;omega
  rw [if_neg hb] at hk;refine call (Cal.to ((b,CV s.pid s.secret s.status (.slice a (s.left++t).length k) s.query vs s.kind sc s.own false vo)::(X2++(XO++F))) ?_);refine AAn (X:=(b,CV s.pid s.secret s.status (.slice a (s.left++t).length k) s.query vs s.kind sc s.own false vo)::(X2++XO)) hTok hLim hG hS1 hn (λI1 X1 hI1 hS2=>?_);exact last I1 X1 _ hI1 hS2 hk
theorem Us (asked e:Int)[hsp:SplitL X L F](hS:SeM I s b X)(hn:s.out.length≤99999990000000)(hk:∀I' X',Ext I I'→SeM I' (NL s asked e) b X'→K (.tuple #[]) I' (X'++F)):CT ω 32 #[Ac b,.int .i64 asked,.int .i64 e] K I L:=by
 refine zAM X ?_;obtain ⟨vl,vs,vo,sc,XL,XO,rfl,h2,h3,h4,h5,h6⟩:=hS;refine ARV ?_;unfold AQA;unfold NL at hk;simp only at hk
 have hS1:∀st:Int,0≤st∧st≤255→SeM I {s with status:=st} b ((b,CV s.pid s.secret st vl s.query vs s.kind sc s.own s.ended vo)::(XL++XO)):=λst h=>⟨vl,vs,vo,sc,XL,XO,rfl,h2,h3,h4,h.1,h.2⟩;simp only [zt,SSd,Nat.reduceAdd];refine st1 rfl ?_;try refine zqe ?_
 by_cases h0:(e != 0)=true
 ·rw [if_pos h0] at hk;simp only [h0,SSd,Nat.reduceAdd];refine call (FT (X:=(b,CV s.pid s.secret 73 vl s.query vs s.kind sc s.own s.ended vo)::(XL++XO)) e false (hS1 73 zo) hn (λI1 X1 hI1 hS2=>?_));obtain ⟨vl,vs,vo,sc,XL,XO,rfl,h2,h3,h4,h5,h6⟩:=hS2;simp only [zt,SSd,Nat.reduceAdd];refine st1 rfl ?_;exact asc (A:=Gh (K _)) (zAA (hk I1 _ hI1 ⟨vl,_,vo,sc,XL,XO,rfl,h2,zAD none 0,h4,h5,h6⟩))
 rw [if_neg h0] at hk;simp only [zg.2 h0,SSd,Nat.reduceAdd];by_cases h2':(asked==2)=true
 ·rw [if_pos h2'] at hk;simp only [h2',SSd,Nat.reduceAdd];refine st1 rfl ?_;refine call (EE (X:=(b,CV s.pid s.secret 84 vl s.query vs s.kind sc s.own s.ended vo)::(XL++XO)) [66,69,71,73,78] (hS1 84 zo) zx hn (λI1 X1 hI1 hS2=>?_));exact zAA (hk I1 X1 hI1 hS2)
 rw [if_neg h2'] at hk;simp only [zg.2 h2',SSd,Nat.reduceAdd];refine call (EE (X:=(b,CV s.pid s.secret 73 vl s.query vs s.kind sc s.own s.ended vo)::(XL++XO)) [67,79,77,77,73,84] (hS1 73 zo) zx hn (λI1 X1 hI1 hS2=>?_));exact zAA (hk I1 X1 hI1 hS2)
end
def VlV (_:Imm)(v:TValue)(c:List Value):Prop:=c=ALg v
def TOutV (I:Imm)(o:TOut)(c:List Value):Prop:=∃x0 x1 vf vr,c=[x0,x1,vf,vr,.string ⟨o.fTag.toArray⟩]∧x0.oneCell'=true∧x1.oneCell'=true∧RL TFieldV 2 I [] vf o.fFields∧RL (Lu VlV 4) 1 I [] vr o.fRows
theorem AHT {I I':Imm}{v:Value}{l:List TValue}(h:RL VlV 4 I [] v l)(hI:Ext I I'):RL VlV 4 I' [] v l:=zAI (R:=VlV) (I:=I) (I':=I') (λ_ _ h=>h) h hI (λ_ h=>h)
theorem TOutV.mono {I I':Imm}{o:TOut}{c:List Value}(h:TOutV I o c)(hI:Ext I I'):TOutV I' o c:=by
 obtain ⟨x0,x1,vf,vr,rfl,h0,h1,h2,h3⟩:=h;refine ⟨x0,x1,vf,vr,rfl,h0,h1,FL.mono h2 hI,zAI (λx c h=>?_) h3 hI (λ_ h=>h)⟩;obtain ⟨v,rfl,h⟩:=h;exact ⟨v,rfl,AHT h hI⟩
structure OutOk (o:TOut):Prop where
 f:(o.fFields.map λf=>f.fName.length+19).sum≤1000000000
 r:o.fRows.length≤900000000
 c:∀r∈o.fRows,r.length≤1000000000∧(r.map λv=>v.fText.length+40).sum≤5000000000
 i:∀r∈o.fRows,∀v∈r, -9223372036854775808≤v.fInt∧v.fInt≤9223372036854775807
 t:o.fTag.length≤1000000000
def Il (dec:Int→Bs)(r:List TValue):TBack:={fKind:=6,fCells:=r.map (EF dec)}
section
variable {ω:Om}{I:Imm}{L F:LH}{K:Value→M}{s:Ses}{b:Nat}{X:LH}
abbrev z10:List Value:=[.int .i64 0,.string ⟨#[]⟩,.string ⟨#[]⟩,.int .i64 0,.int .i64 0,.int .u8 0,.slice none 0 0,.slice none 0 0,.string ⟨#[]⟩,.bool false]
abbrev AMA (v:Value):List Value:=[.int .i64 6,.string ⟨#[]⟩,.string ⟨#[]⟩,.int .i64 0,.int .i64 0,.int .u8 0,.slice none 0 0,v,.string ⟨#[]⟩,.bool false]
instance splitNi4 (L:LH):SplitL [] L L:=⟨List.Perm.refl _⟩
theorem Wv {XL:LH}{v:Value}{cells:List Value}{l:List TBack}{m:TBack}{c:List Value}{bytes:Nat}[SplitL XL L F](hL:SlO 49 10 XL v cells l.length)(hR:Recs (TBackV I) 10 l cells)(hm:TBackV I m c)(hb:(l.length+1) * bytes≤150000000000000)(hl:l.length+1≤150000000000000)
  (hk:∀X1 X' v' cells',SlO 49 10 X' v' cells' (l++[m]).length→Recs (TBackV I) 10 (l++[m]) cells'→K v' I (X'++(X1++F))):AC 49 10 z10.toArray 1 [(0,.agg c.toArray)] (gh λu=>App 49 10 bytes z10.toArray v u (gh K)) I L:=
 GX (R:=TBackV) (X6:=XL) rfl zx hL hR hm hm.len hm.one hb hl hk
theorem ACY {G:Imm}(hP:XA G){o:TOut}{c:List Value}[hsp:SplitL X L F](hG:Ext G I)(hS:SeM I s b X)(ho:TOutV I o c)(hok:OutOk o)(hn:s.out.length+Dn (BU (BQ true) o)≤100000000000000)(hbk:∀m∈BU (BQ true) o,Ns m)
  (hk:∀I' X',Ext I I'→SeM I' (BD s (BU (BQ true) o)) b X'→K (.int .i64 (Cf (BU (BQ true) o) []).2) I' (X'++F)):CT ω 29 #[Ac b,.agg c.toArray] K I L:=by
 refine zAM X ?_;obtain ⟨x0,x1,vf,vr,rfl,h0,h1,h2,h3⟩:=ho;have hr:=hok.r;refine ARY ?_;unfold AQD;try refine zqe ?_
 refine Ap (λbo=>?_);refine rdb ?_;simp only [zAK h2,SSd,Nat.reduceAdd];have last:∀(I':Imm) (L' R XL:LH) (v:Value) (cells:List Value) (l:List TBack) [SplitL XL L' R] [SubP (X++F) R],Ext I I'→SlO 49 10 XL v cells l.length→Recs (TBackV I') 10 l cells→BU (BQ true) o=l++[{fKind:=7,fText:=o.fTag}]→l.length≤900000001→
   AC 49 10 z10.toArray 1 [(0,.agg #[.int .i64 7,.string ⟨#[]⟩,.string ⟨o.fTag.toArray⟩,.int .i64 0,.int .i64 0,.int .u8 0,.slice none 0 0,.slice none 0 0,.string ⟨#[]⟩,.bool false])] (gh λv39=>App 49 10 136 z10.toArray v v39 (gh λv40=>CT ω 45 #[Ac b,v40] (gh λv41=>(λv=>Gh (K v)) v41))) I' L':=by
  intro I' L' R XL v cells l _ _ hI hL hR hrows hl;refine Wv (XL:=XL) (F:=R) (l:=l) (m:={fKind:=7,fText:=o.fTag}) (c:=[.int .i64 7,.string ⟨#[]⟩,.string ⟨o.fTag.toArray⟩,.int .i64 0,.int .i64 0,.int .u8 0,.slice none 0 0,.slice none 0 0,.string ⟨#[]⟩,.bool false]) hL hR ⟨_,_,rfl,zAD none 0,zAD none 0⟩ zo zo (λX1 X' v' cells' hX' hR'=>?_);rw [←hrows] at hX' hR';have hlen:(BU (BQ true) o).length≤900000002:=by rw [hrows,zk];simp;omega
  refine call (ABD ?_);refine RL.ofO (R:=TBackV) (λh hI=>TBackV.mono h hI) hX' hR' (λI2 hI2 hw=>zAA ?_);refine Cal.to (X++F) ?_;refine ML (X:=X) (hS.mono (zAB hI hI2)) hw zo hbk hn (λI3 X3 hI3 hS3=>?_);exact zAA (hk I3 X3 (zAB hI (zAB hI2 hI3)) hS3)
 by_cases hf:o.fFields.length > 0
 ·have hrows:BU (BQ true) o=({fKind:=5,fFields:=o.fFields}::o.fRows.map (Il (BQ true)))++[{fKind:=7,fText:=o.fTag}]:=by
   unfold BU;rw [if_pos hf];rfl
  have hf':decide ((0:Int) < (o.fFields.length:Nat))=true:=decide_eq_true zo;simp only [hf',SSd,Nat.reduceAdd];refine rdb ?_;obtain ⟨af,kf,rfl⟩:=zAF h2;try refine zqe ?_
  refine Wv (XL:=[]) (F:=(bo,.cells [x0,x1,.slice af o.fFields.length kf,vr,.string ⟨o.fTag.toArray⟩].toArray 42 (0,0))::(X++F)) (l:=[]) (m:={fKind:=5,fFields:=o.fFields}) (c:=[.int .i64 5,.string ⟨#[]⟩,.string ⟨#[]⟩,.int .i64 0,.int .i64 0,.int .u8 0,.slice af o.fFields.length kf,.slice none 0 0,.string ⟨#[]⟩,.bool false]) (zAJ _ _) rfl ⟨_,_,rfl,h2,zAD none 0⟩ zy zy (λX1 XL v cells hXL hRL=>?_);try refine zqe ?_
  refine rdb ?_;simp only [zAK h3,SSd,Nat.reduceAdd];refine loop (λq st I' L'=>∃(k:Nat) (Y Z:LH) (v':Value) (cells':List Value),k+q=o.fRows.length∧st=(v',Value.int .i64 (k:Nat),())∧Ext I I'∧L'=Y++(Z++((bo,.cells [x0,x1,.slice af o.fFields.length kf,vr,.string ⟨o.fTag.toArray⟩].toArray 42 (0,0))::(X++F)))∧SlO 49 10 Y v' cells' ({fKind:=5,fFields:=o.fFields}::(o.fRows.take k).map (Il (BQ true))).length∧Recs (TBackV I') 10 ({fKind:=5,fFields:=o.fFields}::(o.fRows.take k).map (Il (BQ true))) cells') o.fRows.length
   ⟨0,XL,X1,v,cells,by omega,rfl,zAC _,rfl,hXL,hRL⟩ ?_
  rintro q st I1 L1 ⟨k,Y,Z,v',cells',hkq,rfl,hI1,rfl,hY,hR⟩;unfold AEI;try refine zqe ?_
  refine AL (λhb=>?_) (λhb=>?_)
  ·have hb:k < o.fRows.length:=by
    have:=of_decide_eq_true hb;omega
   obtain ⟨bt,off,c1,g1,gl,g2,g3⟩:=RL.ix h3 (i:=k) zo zo;rw [BA hb] at g2;obtain ⟨vrow,rfl,hrow⟩:=g2;have hmem:o.fRows[k]∈o.fRows:=zar hb;obtain ⟨hc1,hc2⟩:=hok.c _ hmem;have hci:=hok.i _ hmem;have htk:(o.fRows.take (k+1)).map (Il (BQ true))=(o.fRows.take k).map (Il (BQ true))++[Il (BQ true) o.fRows[k]]:=by
    rw [zf hb,zaa];rfl
   generalize o.fRows[k]=row at *;simp only [g1,SSd,Nat.reduceAdd];refine rd1 (g3 _ _ hI1 (λ_ h=>by cases h) 0 _ rfl) ?_;try refine zqe ?_
   refine Ap (λbm=>?_);refine stB rfl rfl (AV rfl) ?_;simp only [zAK hrow,SSd,Nat.reduceAdd];refine loop (λq2 st I2 L2=>∃(j:Nat) (XC:LH) (vc:Value) (cc:List Value),j+q2=row.length∧st=(Value.int .i64 (j:Nat),())∧I2=I1∧L2=XC++((bm,BkO (AMA vc))::(Y++(Z++((bo,.cells [x0,x1,.slice af o.fFields.length kf,vr,.string ⟨o.fTag.toArray⟩].toArray 42 (0,0))::(X++F)))))∧SlO 113 2 XC vc cc ((row.take j).map (EF (BQ true))).length∧Recs (TCellV I1) 2 ((row.take j).map (EF (BQ true))) cc) row.length
    ⟨0,[],.slice none 0 0,[],by omega,rfl,rfl,rfl,zAJ _ _,rfl⟩ ?_
   rintro q2 st I2 L2 ⟨j,XC,vc,cc,hjq,rfl,rfl,rfl,hXC,hRC⟩;have hlc:((row.take j).map (EF (BQ true))).length=j:=by rw [zaU,zai];omega
   unfold AEH;try refine zqe ?_
   refine AL (λhb2=>?_) (λhb2=>?_)
   ·have hb2:j < row.length:=by
     have:=of_decide_eq_true hb2;omega
    obtain ⟨bt2,off2,c2,g1',gl',g2',g3'⟩:=RL.ix hrow (i:=j) zo zo;rw [BA hb2] at g2';have g2':c2=ALg row[j]:=g2';subst g2';have hvi:=hci row[j] (zar hb2);have htj:(row.take (j+1)).map (EF (BQ true))=(row.take j).map (EF (BQ true))++[EF (BQ true) row[j]]:=by
     rw [zf hb2,zaa];rfl
    generalize row[j]=val at *;obtain ⟨avc,kvc,rfl⟩:=hXC.form;simp only [g1',SSd,Nat.reduceAdd];refine rdN rfl (g3' _ _ hI1 (λ_ h=>by cases h)) ?_;refine Ap (λbv=>?_);refine stB rfl rfl (AV rfl) ?_;refine Ci ?_;try refine zqe ?_
    refine BJ ?_;refine JZ rfl ?_;refine call (WN hP (zAB hG hI1) val hvi (λc hc=>?_));refine BK (zAC _) ?_;refine AEw (R:=TCellV) (X6:=XC) (zAC _) (λ_ h=>h) rfl zx hXC hRC hc hc.len hc.one zo zo (λX2 X6 a' c' cells2 hX6 hR6=>?_);try refine zqe ?_
    refine st1 rfl ?_;simp only [wrap_i64 ((j:Int)+1) zo,SSd,Nat.reduceAdd];rw [←htj] at hX6 hR6;refine zAE (X6++((bm,BkO (AMA (.slice a' ((row.take j).map (EF (BQ true))++[EF (BQ true) val]).length c')))::(Y++(Z++((bo,.cells [x0,x1,.slice af o.fFields.length kf,vr,.string ⟨o.fTag.toArray⟩].toArray 42 (0,0))::(X++F)))))) (zAA ⟨q2 - 1,by omega,j+1,X6,_,cells2,by omega,rfl,rfl,rfl,?_,hR6⟩);rw [←htj];exact hX6
   ·have hb2:¬j < row.length:=by
     have:=of_decide_eq_false hb2;omega
    rw [zW zo] at hXC hRC;obtain ⟨avc,kvc,rfl⟩:=hXC.form;unfold AEG;refine BV rfl ?_;refine Qd rfl zx rfl (λX2 u2 hX2=>?_);refine zAE (XC++(X2++(Y++(Z++((bo,.cells [x0,x1,.slice af o.fFields.length kf,vr,.string ⟨o.fTag.toArray⟩].toArray 42 (0,0))::(X++F)))))) ?_;refine RL.ofO (R:=TCellV) (λh hI=>TCellV.mono h hI) hXC hRC (λI3 hI3 hw=>zAA ?_);have hl1:({fKind:=5,fFields:=o.fFields}::(o.fRows.take k).map (Il (BQ true))).length=k+1:=by rw [zi,zaU,zai];omega
    refine BL (X:=Y) (n:=10) (m:=1) rfl hY (hX2.news (λx hx=>zY _ hx)) (AV rfl) zo zo (λY2 w2 hY2=>?_);simp only [wrap_i64 ((k:Int)+1) zo,SSd,Nat.reduceAdd];refine zAE (Y2++(Z++((bo,.cells [x0,x1,.slice af o.fFields.length kf,vr,.string ⟨o.fTag.toArray⟩].toArray 42 (0,0))::(X++F)))) (zAA ⟨q - 1,by omega,k+1,Y2,Z,w2,cells'++AMA (.slice avc (row.map (EF (BQ true))).length kvc),by omega,rfl,zAB hI1 hI3,rfl,?_,?_⟩)
    ·have e:({fKind:=5,fFields:=o.fFields}::(o.fRows.take (k+1)).map (Il (BQ true))).length=({fKind:=5,fFields:=o.fFields}::(o.fRows.take k).map (Il (BQ true))).length+1:=by rw [htk];simp
     rw [e];exact hY2
    ·rw [htk,←zah];exact zAN (hR.imp λ_ _ h=>TBackV.mono h hI3) (Recs.one rfl ⟨_,_,rfl,zAD none 0,hw⟩)
  ·have hb:¬k < o.fRows.length:=by
    have:=of_decide_eq_false hb;omega
   rw [zW zo] at hY hR;unfold AEF;try refine zqe ?_
   refine rdb ?_;try refine zqe ?_
   exact last I1 _ _ Y v' cells' _ hI1 hY hR hrows zu
 ·have hrows:BU (BQ true) o=[]++[{fKind:=7,fText:=o.fTag}]:=by
   unfold BU;rw [if_neg hf]
  have hf':decide ((0:Int) < (o.fFields.length:Nat))=false:=decide_eq_false zo;simp only [hf',SSd,Nat.reduceAdd];unfold AEE;try refine zqe ?_
  refine rdb ?_;try refine zqe ?_
  exact last I _ _ [] _ [] [] (zAC _) (zAJ _ _) rfl hrows zy
end
theorem AIQ (s:Ses):mu (Dh s)≤mu s:=by
 unfold Dh mu;split <;> simp only [zH] <;> omega
theorem ABp (s:Ses):BO (Dh s)≤BO s:=by
 have h1:=AIQ s;have h2:=WU s;unfold BO;rw [h2];omega
theorem MM (s:Ses)(e:Int)(f:Bool):BO (Bj s e f)≤BO s+1100:=by
 have h1:=LX s e f;have h2:mu (Bj s e f)=mu s:=Ea s _;unfold BO;rw [h2];omega
theorem ABo (s:Ses)(l:List TBack):BO (BD s l)≤BO s+Dn l:=by
 have h1:=Ku s l;have h2:mu (BD s l)=mu s:=Ea s _;unfold BO;rw [h2];omega
theorem MN (s:Ses)(t:Bs)(h:t.length≤900):BO (Dt s t)≤BO s+1100:=by
 have h1:=QQ s t h;have h2:mu (Dt s t)=mu s:=Ea s _;unfold BO;rw [h2];omega
theorem Sm (dec:Int→Bs)(s:Ses)(o:TOut)(e:Int):BO (DX dec s o e)≤BO s+Dn (BU dec o)+1100:=by
 unfold DX;simp only
 have e0:BO {s with kind:=0,stmt:=default,own:=false}=BO s:=rfl;split
 ·have h2:BO (if e==0 then BD {s with kind:=0,stmt:=default,own:=false} (BU dec o) else {s with kind:=0,stmt:=default,own:=false})≤BO s+Dn (BU dec o):=by
   split
   ·exact ABo _ _
   ·rw [e0];omega
  generalize (if e==0 then BD {s with kind:=0,stmt:=default,own:=false} (BU dec o) else {s with kind:=0,stmt:=default,own:=false})=s2 at h2 ⊢;generalize (if (e==0)=true then (Cf (BU dec o) []).2 else e)=e1;split
  ·have h3:=ABp (Bj s2 e1 false);have h4:=MM s2 e1 false;omega
  ·omega
 split
 ·split
  ·refine zaC (MN _ _ zx) ?_;show BO s+1100≤_;omega
  ·rw [e0];omega
 ·unfold NL;simp only
  split
  ·refine zaC (m:=BO (Bj {s with kind:=0,stmt:=default,own:=false,status:=73} e false)) ?_ ?_
   ·unfold BO mu;simp only [zH];omega
   ·refine zaC (MM _ _ _) ?_;show BO s+1100≤_;omega
  split
  iterate 2
   ·refine zaC (MN _ _ zx) ?_;show BO s+1100≤_;omega
section
variable {ω:Om}{I:Imm}{L F:LH}{K:Value→M}{s:Ses}{b:Nat}{X:LH}
theorem Uh {G:Imm}(hP:XA G)(hTok:EK ω G)(hLim:Qv ω){o:TOut}{c:List Value}(e:Int)[hsp:SplitL X L F](hG:Ext G I)(hS:SeM I s b X)(ho:TOutV I o c)(hok:OutOk o)(hbk:∀m∈BU (BQ true) o,Ns m)(hn:BO s+Dn (BU (BQ true) o)≤99999900000000)
  (hk:∀I' X' v,Ext I I'→SeM I' (KP (BQ true) s o e).1 b X'→Bytes I' v (KP (BQ true) s o e).2→K v I' (X'++F)):CT ω 12 #[Ac b,.agg c.toArray,.int .i64 e] K I L:=by
 refine zAM X ?_;have hSS:=hS;have hroom:=Sm (BQ true) s o e;have hout:s.out.length+Dn (BU (BQ true) o)≤99999900000000:=by unfold BO at hn;omega
 obtain ⟨vl,vs,vo,sc,XL,XO,rfl,h2,h3,h4,h5,h6⟩:=hS;obtain ⟨x0,x1,vf,vr,rfl,ho0,ho1,ho2,ho3⟩:=ho;refine ARh ?_;unfold AQM;unfold KP at hk;simp only [zt,SSd,Nat.reduceAdd];refine Ap (λbo=>?_);refine rdb ?_;try refine zqe ?_
 by_cases hk0:(s.kind==0)=true
 ·rw [if_pos hk0] at hk;simp only [hk0,SSd,Nat.reduceAdd];exact zAE ((b,CV s.pid s.secret s.status vl s.query vs s.kind sc s.own s.ended vo)::(XL++(XO++F))) (asc (A:=Gh (K _)) (zAA (hk I _ _ (zAC _) hSS (SlI.nil _ _ _ _))))
 rw [if_neg hk0] at hk;have fin:∀(I1:Imm) (L1 R X1:LH) (t:Ses) (p:Value) [SplitL X1 L1 R] [SubP F R],Ext I I1→SeM I1 t b X1→DX (BQ true) s o e=t→Hy ω (Ac b) p (λv=>Gh (K v)) I1 L1:=by
  intro I1 L1 R X1 t p _ _ hI1 hS1 ht;rw [ht] at hk hroom;unfold Hy;refine call (AAn (X:=X1) (F:=R) hTok hLim (zAB hG hI1) hS1 zo (λI2 X2 hI2 hS2=>?_));refine call (Ot (X:=X2) hS2 (λI3 X3 v hI3 hS3 hv=>?_));exact zAE (X3++F) (zAA (hk I3 X3 v (zAB hI1 (zAB hI2 hI3)) hS3 hv))
 have hS0:SeM I {s with kind:=0,stmt:=default,own:=false} b ((b,CV s.pid s.secret s.status vl s.query vs 0 z51 false s.ended vo)::(XL++XO)):=⟨vl,vs,vo,z51,XL,XO,rfl,h2,h3,h4,h5,h6⟩;simp only [zg.2 hk0,SSd,Nat.reduceAdd];refine MI (k':=0) (sc':=z51) (own':=false) rfl ?_;by_cases hk1:(s.kind==1)=true
 ·have fin1:∀(I1:Imm) (L1 R X1:LH) (t:Ses) (e1:Int) (p:Value) [SplitL X1 L1 R] [SubP F R],Ext I I1→SeM I1 t b X1→t.out.length≤99999990000000→DX (BQ true) s o e=(if e1 != 0 then Dh (Bj t e1 false) else t)→Tv ω (Ac b) (.int .i64 e1) p (λv=>Gh (K v)) I1 L1:=by
   intro I1 L1 R X1 t e1 p _ _ hI1 hS1 hto ht;unfold Tv;try refine zqe ?_
   by_cases he:(e1 != 0)=true
   ·rw [if_pos he] at ht;simp only [he,SSd,Nat.reduceAdd];refine call (FT (X:=X1) (F:=R) e1 false hS1 hto (λI2 X2 hI2 hS2=>?_));refine call (Nc (X:=X2) hS2 (λX3 hS3=>?_));exact fin I2 _ R X3 _ _ (zAB hI1 hI2) hS3 ht
   ·rw [if_neg he] at ht;simp only [zg.2 he,SSd,Nat.reduceAdd];exact fin I1 _ R X1 t _ hI1 hS1 ht
  have h1e:DX (BQ true) s o e=(if ((if (e==0)=true then (Cf (BU (BQ true) o) []).2 else e) != 0)=true then Dh (Bj (if (e==0)=true then BD {s with kind:=0,stmt:=default,own:=false} (BU (BQ true) o) else {s with kind:=0,stmt:=default,own:=false}) (if (e==0)=true then (Cf (BU (BQ true) o) []).2 else e) false) else (if (e==0)=true then BD {s with kind:=0,stmt:=default,own:=false} (BU (BQ true) o) else {s with kind:=0,stmt:=default,own:=false})):=by
   unfold DX;simp only;rw [if_pos hk1]
  simp only [hk1,SSd,Nat.reduceAdd];by_cases he:(e==0)=true
  ·simp only [he,if_true] at h1e;simp only [he,SSd,Nat.reduceAdd];refine BV rfl ?_;refine call (ACY (X:=(b,CV s.pid s.secret s.status vl s.query vs 0 z51 false s.ended vo)::(XL++XO)) hP hG hS0 ⟨x0,x1,vf,vr,rfl,ho0,ho1,ho2,ho3⟩ hok (by show s.out.length+_≤_;omega) hbk (λI1 X1 hI1 hS1=>?_));have hso:=Ku {s with kind:=0,stmt:=default,own:=false} (BU (BQ true) o);simp only at hso
   exact fin1 I1 _ _ X1 _ _ _ hI1 hS1 zo h1e
  ·simp only [he,zl,if_false] at h1e;simp only [zg.2 he,SSd,Nat.reduceAdd];exact fin1 I _ _ ((b,CV s.pid s.secret s.status vl s.query vs 0 z51 false s.ended vo)::(XL++XO)) _ e _ (zAC _) hS0 (by show s.out.length≤_;omega) h1e
 simp only [zg.2 hk1,SSd,Nat.reduceAdd];by_cases hk4:(s.kind==4)=true
 ·have h4e:DX (BQ true) s o e=(if (s.status==84&& !s.ended)=true then Dt {s with kind:=0,stmt:=default,own:=false,status:=73} [82,79,76,76,66,65,67,75] else {s with kind:=0,stmt:=default,own:=false}):=by
   unfold DX;simp only;rw [if_neg hk1,if_pos hk4]
  simp only [hk4,SSd,Nat.reduceAdd];refine rdb ?_;try refine zqe ?_
  have fin0:(s.status==84&& !s.ended)=false→Hy ω (Ac b) (.slice none 0 0) (λv=>Gh (K v)) I ((bo,.cells [x0,x1,vf,vr,.string ⟨o.fTag.toArray⟩].toArray 42 (0,0))::(b,CV s.pid s.secret s.status vl s.query vs 0 z51 false s.ended vo)::(XL++(XO++F))):=by
   intro h;rw [if_neg (by rw [h];decide)] at h4e;exact fin I _ _ ((b,CV s.pid s.secret s.status vl s.query vs 0 z51 false s.ended vo)::(XL++XO)) _ _ (zAC _) hS0 h4e
  cases hs:(s.status==84) with
  |false=>
   try refine zqe ?_
   exact fin0 (by rw [hs];rfl)
  |true=>
   try refine zqe ?_
   refine rdb ?_;cases hen:s.ended with
   |true=>
    rw [hen] at fin0;simp only [zB,SSd,Nat.reduceAdd];exact fin0 (by rw [zB,Bool.and_false])
   |false=>
    rw [if_pos (by rw [hs,hen];rfl)] at h4e;simp only [zak,SSd,Nat.reduceAdd];unfold AER;try refine zqe ?_
    refine st1 rfl ?_;refine call (EE (X:=(b,CV s.pid s.secret 73 vl s.query vs 0 z51 false false vo)::(XL++XO)) (s:={s with kind:=0,stmt:=default,own:=false,status:=73}) [82,79,76,76,66,65,67,75] ⟨vl,vs,vo,z51,XL,XO,by rw [hen],h2,h3,h4,by show (0:Int)≤73;decide,by show (73:Int)≤255;decide⟩ zx (by show s.out.length≤_;omega) (λI1 X1 hI1 hS1=>?_));exact fin I1 _ _ X1 _ _ hI1 hS1 h4e
 ·have hte:DX (BQ true) s o e=NL {s with kind:=0,stmt:=default,own:=false} s.kind e:=by
   unfold DX;simp only;rw [if_neg hk1,if_neg hk4]
  simp only [zg.2 hk4,SSd,Nat.reduceAdd];refine call (Us (X:=(b,CV s.pid s.secret s.status vl s.query vs 0 z51 false s.ended vo)::(XL++XO)) s.kind e hS0 (by show s.out.length≤_;omega) (λI1 X1 hI1 hS1=>?_));exact fin I1 _ _ X1 _ _ hI1 hS1 hte
end
def okI (n:Int):Prop:= -9223372036854775808≤n∧n≤9223372036854775807
theorem QS:∀(k f n:Nat) (acc:Bs),1≤k→n < 10 ^ k→(WH f n acc).length≤acc.length+k
 |0,_,_,_,h,_=>by omega
 |k+1,0,n,acc,_,_=>by simp only [WH];omega
 |k+1,f+1,n,acc,_,hn=>by
  simp only [WH];split
  ·simp
  ·rename_i h10
   cases k with
   |zero=>simp at hn;omega
   |succ k=>
    have hd:n / 10 < 10 ^ (k+1):=by
     rw [Nat.pow_succ] at hn;omega
    have:=QS (k+1) f (n / 10) (UInt8.ofNat (48+n % 10)::acc) zo hd;simp only [zi] at this;omega
theorem AFz {n:Int}(h:okI n):(BQ true n).length≤20:=by
 unfold okI at h;unfold BQ;split
 ·simp only [if_true,zi];have:=QS 19 (n.natAbs+1) n.natAbs [] zo zo;simp only [zH] at this;omega
 ·have:=QS 19 (n.toNat+1) n.toNat [] zo zo;simp only [zH] at this;omega
theorem Gx {α:Type}{f g:α→Nat}{c:Nat}:∀{l:List α},(∀x∈l,f x≤c * g x)→(l.map f).sum≤c * (l.map g).sum
 |[],_=>by simp
 |x::l,h=>by
  have h1:=h x (zJ ..);have h2:=Gx (l:=l) λy hy=>h y (zV _ hy);simp only [zF,zae,Nat.mul_add];omega
theorem TA {α:Type}{f:α→Nat}:∀{l:List α} {x:α},x∈l→f x≤(l.map f).sum
 |y::l,x,h=>by
  simp only [zF,zae];rcases zK.1 h with rfl|h
  ·omega
  ·have:=TA (f:=f) h;omega
theorem TB {α:Type}{f:α→Nat}:∀{l:List α},(∀x∈l,1≤f x)→l.length≤(l.map f).sum
 |[],_=>by simp
 |x::l,h=>by
  have h1:=h x (zJ ..);have h2:=TB (l:=l) λy hy=>h y (zV _ hy);simp only [zF,zae,zi];omega
def mVl (v:TValue):Nat:=v.fText.length+1
def MX (r:List TValue):Nat:=(r.map mVl).sum+1
def YD (f:TField):Nat:=f.fName.length+1
def Vh (o:TOut):Nat:=(o.fFields.map YD).sum+(o.fRows.map MX).sum+o.fTag.length
def Vo (o:TOut):Prop:=∀r∈o.fRows,∀v∈r,okI v.fInt
theorem ACm {v:TValue}(h:okI v.fInt):(EF (BQ true) v).fText.length≤v.fText.length+20:=by
 have hd:=AFz h;unfold EF;repeat' split
 all_goals (simp only [zH];try split) <;> simp <;> omega
theorem AEs {r:List TValue}(h:∀v∈r,okI v.fInt):Di (Il (BQ true) r)≤25 * MX r:=by
 have h1:((r.map (EF (BQ true))).map λc=>4+c.fText.length).sum≤25 * (r.map mVl).sum:=by
  rw [List.map_map];refine Gx (λv hv=>?_);have:=ACm (h v hv);simp only [Function.comp,mVl];omega
 simp only [Di,Il,BH,zal,zaA,zH,MX];omega
theorem AIa (l:List TField):(l.map λf=>f.fName.length+19).sum≤19 * (l.map YD).sum:=Gx λf _=>by unfold YD;omega
theorem out_ok {o:TOut}(h:Vh o≤2097152)(hi:Vo o):OutOk o∧(∀m∈BU (BQ true) o,Ns m)∧Dn (BU (BQ true) o)≤300000000:=by
 have hf:=AIa o.fFields;unfold Vh at h;have hr:o.fRows.length≤(o.fRows.map MX).sum:=TB λr _=>by unfold MX;omega
 have hrow:∀r∈o.fRows,MX r≤2097152:=λr hr=>by have:=TA (f:=MX) hr;omega
 have hvs:∀r:List TValue,r.length≤(r.map mVl).sum:=λr=>TB λv _=>by unfold mVl;omega
 have hbk:∀m∈BU (BQ true) o,Ns m∧(m.fKind=6→True):=by
  intro m hm;refine ⟨?_,λ_=>trivial⟩;unfold BU at hm;rcases zaz.1 hm with hm|hm
  ·split at hm
   ·rcases zK.1 hm with rfl|hm
    ·refine ⟨?_,by show (0:Int)≤0;decide,by show (0:Int)≤255;decide,by show (0:Int)≤5;decide⟩;simp only [Di,BH,zal,zaA,zH];omega
    ·obtain ⟨r,hr2,rfl⟩:=zaf.1 hm;refine ⟨?_,by show (0:Int)≤0;decide,by show (0:Int)≤255;decide,by show (0:Int)≤6;decide⟩;have h1:=AEs (hi r hr2);have h2:=hrow r hr2;show Di (Il (BQ true) r)≤_;omega
   ·cases hm
  ·rw [zM] at hm;subst hm;refine ⟨?_,by show (0:Int)≤0;decide,by show (0:Int)≤255;decide,by show (0:Int)≤7;decide⟩;simp only [Di,BH,zal,zaA,zH];omega
 refine ⟨⟨by omega,by omega,λr hr2=>?_,hi,by omega⟩,λm hm=>(hbk m hm).1,?_⟩
 ·have h1:=hrow r hr2;have h2:=hvs r;unfold MX at h1;refine ⟨by omega,?_⟩;have h3:(r.map λv=>v.fText.length+40).sum≤40 * (r.map mVl).sum:=Gx λv _=>by unfold mVl;omega
  omega
 ·have happ:∀a b:List TBack,Dn (a++b)=Dn a+Dn b:=λa b=>by simp [Dn]
  have hrows:Dn (o.fRows.map (Il (BQ true)))≤125 * (o.fRows.map MX).sum:=by
   unfold Dn;rw [List.map_map];refine Gx λr hr2=>?_;have h1:=AEs (hi r hr2);have h2:=Ph (Il (BQ true) r);have h3:1≤MX r:=by unfold MX;omega
   simp only [Function.comp];omega
  have hlast:=LD {fKind:=7,fText:=o.fTag};have hl2:Di {fKind:=7,fText:=o.fTag}=o.fTag.length+2:=by simp [Di,BH]
  have hfirst:Dn [{fKind:=5,fFields:=o.fFields}]≤19 * (o.fFields.map YD).sum+102:=by
   have:=LD {fKind:=5,fFields:=o.fFields};have h5:Di {fKind:=5,fFields:=o.fFields}=(o.fFields.map λf=>f.fName.length+19).sum+2:=by simp [Di,BH]
   omega
  unfold BU;rw [happ];split
  ·have e:Dn ({fKind:=5,fFields:=o.fFields}::o.fRows.map (Il (BQ true)))=Dn [{fKind:=5,fFields:=o.fFields}]+Dn (o.fRows.map (Il (BQ true))):=happ [_] _;have e2:(o.fRows.map λr=>({fKind:=6,fCells:=r.map (EF (BQ true))}:TBack))=o.fRows.map (Il (BQ true)):=rfl;rw [e2,e];omega
  ·have:Dn []=0:=rfl;omega
abbrev z61:Array Value:=#[(Value.int .i64 0),(Value.int .i64 0),(Value.int .u8 0),(Value.slice none 0 0),(Value.bool false),(Value.slice none 0 0),(Value.int .i64 0),(Value.int .i64 0),(Value.bool false),(Value.slice none 0 0),(Value.slice none 0 0),(Value.int .i64 0),(Value.int .i64 0),(Value.bool false),(Value.int .i64 0),(Value.string (ByteArray.mk #[])),(Value.string (ByteArray.mk #[])),(Value.string (ByteArray.mk #[])),(Value.int .i64 0),(Value.int .i64 0),(Value.bool false),(Value.slice none 0 0),(Value.slice none 0 0),(Value.int .i64 0),(Value.int .i64 0),(Value.bool false),(Value.int .i64 0),(Value.string (ByteArray.mk #[])),(Value.string (ByteArray.mk #[])),(Value.string (ByteArray.mk #[])),(Value.int .i64 0),(Value.int .i64 0),(Value.bool false),(Value.slice none 0 0),(Value.slice none 0 0),(Value.int .i64 0),(Value.int .i64 0),(Value.string (ByteArray.mk #[])),(Value.slice none 0 0),(Value.slice none 0 0),(Value.slice none 0 0),(Value.int .i64 0),(Value.int .i64 0),(Value.bool false),(Value.int .i64 0),(Value.string (ByteArray.mk #[])),(Value.string (ByteArray.mk #[])),(Value.string (ByteArray.mk #[])),(Value.int .i64 0),(Value.int .i64 0),(Value.bool false),(Value.slice none 0 0),(Value.slice none 0 0),(Value.slice none 0 0),(Value.string (ByteArray.mk #[])),(Value.string (ByteArray.mk #[])),(Value.slice none 0 0),(Value.bool false),(Value.bool false),(Value.bool false),(Value.slice none 0 0)]
theorem AIv (p q:Int):AU z61 #[(0,1),(1,1),(2,1),(3,1),(4,1),(5,1),(6,53),(59,1),(60,1)] [(0,.int .i64 p),(1,.int .i64 q)]=some (.agg (Dl p q 0 (.slice none 0 0) false (.slice none 0 0) 0 z51 false false (.slice none 0 0)).toArray):=by kernel_rfl
theorem ACp (p q:Int):WV 1 #[.int .i64 0,.int .i64 0] [(0,.int .i64 p),(1,.int .i64 q)]=some (.agg #[.int .i64 p,.int .i64 q]):=by kernel_rfl
theorem AMP (p q:Int):ACG false 1 2 (.agg #[.int .i64 p,.int .i64 q]) (.int .i64 ((0:Nat):Int))=some (.int .i64 p):=by kernel_rfl
theorem AMO (p q:Int):ACG false 1 2 (.agg #[.int .i64 p,.int .i64 q]) (.int .i64 ((1:Nat):Int))=some (.int .i64 q):=by kernel_rfl
section
variable {ω:Om}{I:Imm}{L F:LH}{K:Value→M}{s:Ses}{b:Nat}{X:LH}
theorem Wy {G:Imm}(hP:XA G)(hTok:EK ω G)(hLim:Qv ω){o:TOut}{c:List Value}(e:Int)[hsp:SplitL X L F](hG:Ext G I)(hS:SeM I s b X)(ho:TOutV I o c)(hmo:Vh o≤2097152)(hio:Vo o)(hn:BO s≤99999000000000)
  (hk:∀I' X' v,Ext I I'→SeM I' (KP (BQ true) s o e).1 b X'→Bytes I' v (KP (BQ true) s o e).2→K v I' (X'++F)):CT ω 12 #[Ac b,.agg c.toArray,.int .i64 e] K I L:=by
 obtain ⟨h1,h2,h3⟩:=out_ok hmo hio;exact Uh hP hTok hLim e hG hS ho h1 h2 zo hk
theorem Uy [hsp:SplitL X L F](hS:SeM I s b X)(hk:K (.int .u8 s.status) I (X++F)):CT ω 10 #[Ac b] K I L:=by
 refine zAM X ?_;obtain ⟨vl,vs,vo,sc,XL,XO,rfl,h2,h3,h4,h5,h6⟩:=hS;refine ARj ?_;unfold AQO;simp only [zt,SSd,Nat.reduceAdd];refine rdb ?_;exact asc (A:=Gh (K _)) (zAA hk)
theorem WL [hsp:SplitL X L F](hS:SeM I s b X)(hk:K (.bool s.ended) I (X++F)):CT ω 16 #[Ac b] K I L:=by
 refine zAM X ?_;obtain ⟨vl,vs,vo,sc,XL,XO,rfl,h2,h3,h4,h5,h6⟩:=hS;refine ARe ?_;unfold AQJ;simp only [zt,SSd,Nat.reduceAdd];refine rdb ?_;exact asc (A:=Gh (K _)) (zAA hk)
theorem Py (p q:Int)(hp: -2147483648≤p∧p≤2147483647)(hq: -2147483648≤q∧q≤2147483647)(hk:∀b X,SeM I {pid:=p,secret:=q} b X→K (.tuple #[Ac b,.int .i64 0]) I (X++L)):CT ω 8 #[.int .i64 p,.int .i64 q] K I L:=by
 refine ASC ?_;unfold sh8;simp only [ACp,SSd,Nat.reduceAdd];refine loop (λm st I' L'=>∃k:Nat,k+m=2∧st=(Value.pointer none,Value.int .i64 0,Value.int .i64 (k:Nat),())∧I'=I∧L'=L) 2 ⟨0,rfl,rfl,rfl,rfl⟩ ?_;rintro m st I' L' ⟨k,hkm,rfl,rfl,rfl⟩;unfold AJJ;try refine zqe ?_
 have h3:k=0∨k=1∨k=2:=by omega
 rcases h3 with rfl|rfl|rfl
 ·simp only [show decide (((0:Nat):Int) < 2)=true from rfl,AMP,decide_eq_false (show ¬p < -2147483648 by omega),decide_eq_false (show ¬(2147483647:Int) < p by omega),show IntKind.i64.wrap (((0:Nat):Int)+1)=((1:Nat):Int) from rfl,SSd,Nat.reduceAdd];exact zAA ⟨1,by omega,1,rfl,rfl,rfl,rfl⟩
 ·simp only [show decide (((1:Nat):Int) < 2)=true from rfl,AMO,decide_eq_false (show ¬q < -2147483648 by omega),decide_eq_false (show ¬(2147483647:Int) < q by omega),show IntKind.i64.wrap (((1:Nat):Int)+1)=((2:Nat):Int) from rfl,SSd,Nat.reduceAdd];exact zAA ⟨0,by omega,2,rfl,rfl,rfl,rfl⟩
 ·simp only [show decide (((2:Nat):Int) < 2)=false from rfl,SSd,Nat.reduceAdd];unfold AJI;refine AIy (AIv p q) ?_;refine Ap (λb=>?_);exact zAA (hk b [(b,_)] ⟨_,_,_,z51,[],[],rfl,zAJ _ _,zAD none 0,zAJ _ _,by show (0:Int)≤0;decide,by show (0:Int)≤255;decide⟩)
end
section
variable {H:Type}{enc:TypeId×Value→H}{P:Program}{w:World}{T:TypeId}{cs:List Value}{d:DataW H}
def Td (enc:TypeId×Value→H)(P:Program)(w:World)(T:TypeId)(cs:List Value)(d:DataW H):Prop:=
 ∃(fuel:Nat) (ps:List MemPlace),DataW.trod enc P w 0 (λ_=>true) true fuel T cs=some (d,ps)
theorem MH {k:IntKind}(hu:P.underlying T=some (.int k))(h:Td enc P w T cs d):∃n,cs=[.int k n]∧(Lit.int k n).wf=true:=by
 obtain ⟨fuel,ps,h⟩:=h;cases fuel with
 |zero=>simp [DataW.trod] at h
 |succ fuel=>
  simp only [DataW.trod,hu] at h;split at h <;> simp_all
theorem AHc (hu:P.underlying T=some .bool)(h:Td enc P w T cs d):∃b,cs=[.bool b]:=by
 obtain ⟨fuel,ps,h⟩:=h;cases fuel with
 |zero=>simp [DataW.trod] at h
 |succ fuel=>
  simp only [DataW.trod,hu] at h;split at h <;> simp_all
theorem AHa (hu:P.underlying T=some .string)(h:Td enc P w T cs d):∃s:ByteArray,cs=[.string s]∧s.size+1≤Rows.uptoBulk d:=by
 obtain ⟨fuel,ps,h⟩:=h;cases fuel with
 |zero=>simp [DataW.trod] at h
 |succ fuel=>
  simp only [DataW.trod,hu] at h;split at h <;> simp_all
  obtain ⟨_,rfl,_⟩:=h;exact zh _
theorem XT (hu:P.underlying T=some .string)(h:Td enc P w T cs d):∃s:List UInt8,cs=[.string ⟨s.toArray⟩]∧s.length+1≤Rows.uptoBulk d:=by
 obtain ⟨s,h1,h2⟩:=AHa hu h;exact ⟨s.data.toList,by rw [h1],h2⟩
theorem ALP {H:Type}(d:DataW H):1≤Rows.uptoBulk d:=by
 cases d with
 |lit l=>cases l <;> simp [Rows.uptoBulk]
 |_=>simp [Rows.uptoBulk]
theorem Qc:∀{l:List (DataW H)} {i:Nat} {x:DataW H},l[i]? =some x→Rows.uptoBulk x≤Rows.uptoBulkAll l
 |[],_,_,h=>by simp at h
 |y::l,0,x,h=>by simp at h;subst h;simp [Rows.uptoBulkAll]
 |y::l,i+1,x,h=>by
  have:=Qc (l:=l) (i:=i) (by simpa using h);simp only [Rows.uptoBulkAll];omega
theorem JO {fs:Array Field}(hu:P.underlying T=some (.struct fs))(h:Td enc P w T cs d):cs.length=P.cellsOf T∧∃ds,d= .agg ds∧ds.length=fs.toList.length∧∀(i:Nat) (f:Field),fs.toList[i]? =some f→∃di,ds[i]? =some di∧Td enc P w f.type ((cs.drop f.offset).take (P.cellsOf f.type)) di:=by
 obtain ⟨fuel,ps,h⟩:=h;cases fuel with
 |zero=>simp [DataW.trod] at h
 |succ fuel=>
  have h':(if cs.length=P.cellsOf T then (fs.toList.mapM λf=>DataW.trod enc P w 0 (λ_=>true) true fuel f.type ((cs.drop f.offset).take (P.cellsOf f.type))).map λxs=>(DataW.agg (xs.map (·.1)),xs.flatMap (·.2)) else none)=some (d,ps):=by
   rw [←h];simp only [DataW.trod,hu]
  split at h'
  ·rename_i hlen
   refine ⟨hlen,?_⟩;obtain ⟨xs,hxs,hd⟩:=zaw.1 h';simp only [zaN] at hd;obtain ⟨rfl,_⟩:=hd;refine ⟨_,rfl,by rw [zaU,mapM_len _ _ hxs],λi f hf=>?_⟩;obtain ⟨y,hy,hyd⟩:=JC _ _ hxs i f hf;exact ⟨y.1,by rw [List.getElem?_map,hy];rfl,fuel,y.2,hyd⟩
  ·cases h'
theorem KW {e:TypeId}(hu:P.underlying T=some (.slice e))(h:Td enc P w T cs d):
  ∃a len cap,cs=[.slice a len cap]∧len≤cap∧∃ds:List (DataW H),ds.length=len∧Rows.uptoBulkAll ds+1≤Rows.uptoBulk d∧
   ((a=none∧len=0∧cap=0)∨∃ad,a=some ad∧∀i,i < len→∃ec di,w.cells? 0 (ad.add (i * P.cellsOf e)) (P.cellsOf e)=some ec∧ds[i]? =some di∧Td enc P w e ec di):=by
 obtain ⟨fuel,ps,h⟩:=h;cases fuel with
 |zero=>simp [DataW.trod] at h
 |succ fuel=>
  simp only [DataW.trod,hu] at h;split at h <;> try (simp_all;done)
  ·refine ⟨none,0,0,rfl,zh _,[],rfl,?_,.inl ⟨rfl,rfl,rfl⟩⟩;exact ALP _
  ·rename_i e' ad len cap he
   simp only [zn,TypeDesc.slice.injEq] at he;subst he;split at h
   ·rename_i hc
    simp only [zaM] at h;obtain ⟨elems,hel,h⟩:=h;simp only [if_true,zaw] at h;obtain ⟨rest,hrest,h⟩:=h;simp only [zaN] at h;obtain ⟨rfl,_⟩:=h;have hlen:elems.length=len:=by have:=mapM_len _ _ hel;simpa using this
    refine ⟨some ad,len,cap,rfl,hc.2.1,elems.map (·.1),by rw [zaU,hlen],?_,.inr ⟨ad,rfl,λi hi=>?_⟩⟩
    ·simp only [Rows.uptoBulk];omega
    ·obtain ⟨y,hy,hyd⟩:=JC _ _ hel i i (List.getElem?_range hi);simp only [zaM] at hyd;obtain ⟨ec,h1,h2⟩:=hyd;exact ⟨ec,y.1,h1,by rw [List.getElem?_map,hy];rfl,fuel,y.2,h2⟩
   ·cases h
theorem ADF {e:TypeId}(hu:P.underlying T=some (.slice e))(hn:0 < P.cellsOf e){v:Value}(h:Td enc P w T [v] d):
  ∃cells len ds,SlI (Dc w) (P.cellsOf e) v cells len∧ds.length=len∧Rows.uptoBulkAll ds+1≤Rows.uptoBulk d∧∀i,i < len→∃di,ds[i]? =some di∧Td enc P w e ((cells.drop (i * P.cellsOf e)).take (P.cellsOf e)) di:=by
 obtain ⟨a,len,cap,hcs,hle,ds,hds,hb,h2⟩:=KW hu h;simp only [zaE,and_true] at hcs;subst hcs;clear h;have h:=h2;generalize hN:P.cellsOf e=n at *;rcases h with ⟨rfl,rfl,rfl⟩|⟨ad,rfl,h⟩
 ·exact ⟨[],0,ds,SlI.nil _ _ _ _,hds,hb,λi hi=>by omega⟩
 ·by_cases h0:len=0
  ·subst h0;exact ⟨[],0,ds,SlI.nil _ _ _ _,hds,hb,λi hi=>by omega⟩
  ·have hcell:∀i,i < len→∀j,j < n→∃u,w.cell? ((ad.add (i * n)).add j)=some u:=by
    intro i hi j hj;obtain ⟨ec,_,hec,_⟩:=h i hi;unfold World.cells? at hec;split at hec
    ·obtain ⟨y,_,hy⟩:=JC _ _ hec j j (List.getElem?_range hj);exact ⟨y,hy⟩
    ·cases hec
   obtain ⟨u0,hu0⟩:=hcell 0 zo 0 hn;obtain ⟨b,off,sp⟩:=ad;have hsp:sp=none∧∃c T' fr,w.heap[b]? =some (.cells c T' fr):=by
    simp only [Addr.add,Nat.zero_mul,if_true] at hu0;unfold World.cell? at hu0;split at hu0
    ·rename_i c T' fr hb
     simp only at hu0 hb
     cases sp with
     |none=>exact ⟨rfl,c,T',fr,hb⟩
     |some s=>simp at hu0
    ·cases hu0
   obtain ⟨rfl,c,T',fr,hblk⟩:=hsp;have hget:∀i,i < len→∀j,j < n→∃u,c[off+i * n+j]? =some u:=by
    intro i hi j hj;obtain ⟨u,hu⟩:=hcell i hi j hj;rw [Ce,Ce] at hu;simp only [World.cell?,hblk] at hu;exact ⟨u,by simpa using hu⟩
   have hlast:=hget (len - 1) zo (n - 1) zo;obtain ⟨ul,hul⟩:=hlast;have hsz:off+len * n≤c.size:=by
    have:=(zN.1 hul).1;have e1:(len - 1) * n+n=len * n:=by rw [←Nat.succ_mul];congr 1;omega
    omega
   have hclen:((c.toList.drop off).take (len * n)).length=len * n:=by
    rw [zai,zaq,Array.length_toList];omega
   refine ⟨(c.toList.drop off).take (len * n),len,ds,⟨hclen,_,cap,rfl,hle,λ_=>⟨b,off,c,T',fr,rfl,hblk,λj u hu=>?_⟩⟩,hds,hb,λi hi=>?_⟩
   ·rw [zaB] at hu;split at hu
    ·rw [zat] at hu;simpa using hu
    ·cases hu
   ·obtain ⟨ec,di,hec,hdi,htr⟩:=h i hi;have:((((c.toList.drop off).take (len * n)).drop (i * n)).take n)=ec:=by
     unfold World.cells? at hec;split at hec
     ·apply List.ext_getElem?
      intro j;have hln:=mapM_len _ _ hec;simp only [List.length_range] at hln;have hin:i * n+n≤len * n:=by rw [←Nat.succ_mul];exact zay n hi
      by_cases hj:j < n
      ·obtain ⟨y,hy,hcy⟩:=JC _ _ hec j j (List.getElem?_range hj);rw [hy,zaB,if_pos hj,zat,zaB,if_pos zo,zat];rw [Ce,Ce] at hcy;simp only [World.cell?,hblk] at hcy;simp only [Array.getElem?_toList];rw [show off+(i * n+j)=off+i * n+j from by omega];simpa using hcy
      ·rw [zaB,if_neg hj];rw [List.getElem?_eq_none zo]
     ·cases hec
    rw [this];exact ⟨di,hdi,htr⟩
theorem PY {α:Type}{R:α→List Value→Prop}{μ:α→Nat}{n:Nat}:∀(ds:List (DataW H)) (cells:List Value),cells.length=ds.length * n→(∀i di,ds[i]? =some di→∃x,R x ((cells.drop (i * n)).take n)∧μ x≤Rows.uptoBulk di)→∃xs:List α,xs.length=ds.length∧Recs R n xs cells∧(xs.map μ).sum≤Rows.uptoBulkAll ds
 |[],cells,hl,_=>⟨[],rfl,zG (by simpa using hl),by simp [Rows.uptoBulkAll]⟩
 |d::ds,cells,hl,h=>by
  obtain ⟨x,hx,hm⟩:=h 0 d rfl;simp only [Nat.zero_mul,List.drop_zero] at hx;have hl':cells.length=ds.length * n+n:=by rw [hl,zi,zax];omega
  obtain ⟨xs,hxl,hR,hs⟩:=PY (R:=R) (μ:=μ) (n:=n) ds (cells.drop n) (by rw [zaq];omega) (λi di hi=>by
   obtain ⟨y,hy,hm⟩:=h (i+1) di (by simpa using hi);refine ⟨y,?_,hm⟩;rw [zbs];rwa [show n+i * n=(i+1) * n from by rw [zax];omega])
  exact ⟨x::xs,by simp [hxl],⟨by rw [zai];omega,hx,hR⟩,by simp only [zF,zae,Rows.uptoBulkAll];omega⟩
theorem AHb {α:Type}{R:Imm→α→List Value→Prop}{μ:α→Nat}{e:TypeId}(hu:P.underlying T=some (.slice e))(hn:0 < P.cellsOf e){v:Value}(h:Td enc P w T [v] d)(hR:∀c di,Rows.uptoBulk di < Rows.uptoBulk d→Td enc P w e c di→∃x,R (Dc w) x c∧μ x≤Rows.uptoBulk di):
  ∃xs:List α,RL R (P.cellsOf e) (Dc w) [] v xs∧(xs.map μ).sum+1≤Rows.uptoBulk d:=by
 obtain ⟨cells,len,ds,hS,hds,hb,hT⟩:=ADF hu hn h;subst hds;obtain ⟨xs,hxl,hRR,hs⟩:=PY (R:=R (Dc w)) (μ:=μ) ds cells hS.1 (λi di hi=>by
  obtain ⟨d2,h1,h2⟩:=hT i (by exact (zaj.1 hi).1);rw [hi] at h1;simp only [zn] at h1;subst h1;exact hR _ _ (by have:=Qc hi;omega) h2)
 rw [←hxl] at hS;exact ⟨xs,RL.ofI hS hRR,by omega⟩
end
structure TStep where
 fDo:Int
 fB:Bs
 fO:TOut
 fE:Int
instance:Inhabited TStep:=⟨⟨0,[],default,0⟩⟩
theorem VT {α:Type}{R:α→List Value→Prop}{Q:α→Prop}{n:Nat}:∀{xs:List α} {cs:List Value},Recs (λx c=>R x c∧Q x) n xs cs→Recs R n xs cs∧∀x∈xs,Q x
 |[],cs,h=>⟨h,nofun⟩
 |x::xs,cs,⟨h1,h2,h3⟩=>by
  obtain ⟨g1,g2⟩:=VT h3;exact ⟨⟨h1,h2.1,g1⟩,λy hy=>by
   rcases zK.1 hy with rfl|hy
   ·exact h2.2
   ·exact g2 y hy⟩
theorem AMB {α:Type}{R:Imm→α→List Value→Prop}{Q:α→Prop}{n:Nat}{I:Imm}{v:Value}{xs:List α}(h:RL (λI x c=>R I x c∧Q x) n I [] v xs):RL R n I [] v xs∧∀x∈xs,Q x:=by
 obtain ⟨a,cap,cells,h1,h2,h3,h4⟩:=h;obtain ⟨g1,g2⟩:=VT h4;exact ⟨⟨a,cap,cells,h1,h2,h3,g1⟩,g2⟩
section
variable {H:Type}{enc:TypeId×Value→H}{W:World}{cs:List Value}{d:DataW H}
theorem EM {P:Program}{w:World}{T:TypeId}{fs:Array Field}(hu:P.underlying T=some (.struct fs)){ds:List (DataW H)}(hf:∀(i:Nat) (f:Field),fs.toList[i]? =some f→∃di,ds[i]? =some di∧Td enc P w f.type ((cs.drop f.offset).take (P.cellsOf f.type)) di)(i:Nat){f:Field}(hi:fs.toList[i]? =some f){di:DataW H}(hdi:ds[i]? =some di){n:Nat}(hn:P.cellsOf f.type=n):Td enc P w f.type ((cs.drop f.offset).take n) di:=by
 obtain ⟨d2,h1,h2⟩:=hf i f hi;rw [hdi] at h1;simp only [zn] at h1;subst h1;subst hn;exact h2
theorem Nv {α:Type}{R:Imm→α→List Value→Prop}{Q:α→Prop}{μ:α→Nat}{T:TypeId}(e:TypeId){n:Nat}(hu:Tryz.prog.underlying T=some (.slice e))(hn:Tryz.prog.cellsOf e=n)(h0:0 < n){v:Value}(h:Td enc Tryz.prog W T [v] d)(hR:∀c di,Rows.uptoBulk di < Rows.uptoBulk d→Td enc Tryz.prog W e c di→∃x,(R (Dc W) x c∧Q x)∧μ x≤Rows.uptoBulk di):
  ∃xs:List α,RL R n (Dc W) [] v xs∧(∀x∈xs,Q x)∧(xs.map μ).sum+1≤Rows.uptoBulk d:=by
 subst hn;obtain ⟨xs,h1,h2⟩:=AHb (R:=λI x c=>R I x c∧Q x) hu h0 h hR;obtain ⟨g1,g2⟩:=AMB h1;exact ⟨xs,g1,g2,h2⟩
theorem ABT (h:Td enc Tryz.prog W 62 cs d):∃x:TValue,cs=[.int .i64 x.fType,.bool x.fNull,.int .i64 x.fInt,.string ⟨x.fText.toArray⟩]∧okI x.fInt∧x.fText.length+1≤Rows.uptoBulk d:=by
 obtain ⟨hl,ds,rfl,hdl,hf⟩:=JO Tryz.underlying62 h;rw [show Tryz.prog.cellsOf 62=4 by kernel_rfl] at hl;obtain ⟨c0,c1,c2,c3,rfl⟩:∃c0 c1 c2 c3,cs=[c0,c1,c2,c3]:=by
  match cs,hl with
  |[c0,c1,c2,c3],_=>exact ⟨c0,c1,c2,c3,rfl⟩
 obtain ⟨d0,d1,d2,d3,rfl⟩:∃d0 d1 d2 d3,ds=[d0,d1,d2,d3]:=by
  match ds,(show ds.length=4 from hdl) with
  |[d0,d1,d2,d3],_=>exact ⟨d0,d1,d2,d3,rfl⟩
 clear hl hdl h;obtain ⟨n0,e0,w0⟩:=MH (k:=.i64) (by kernel_rfl) (cs:=[c0]) (EM (di:=d0) Tryz.underlying62 hf 0 rfl rfl (n:=1) (by kernel_rfl));simp only [zaE,and_true] at e0;subst e0;obtain ⟨n1,e1⟩:=AHc (by kernel_rfl) (cs:=[c1]) (EM (di:=d1) Tryz.underlying62 hf 1 rfl rfl (n:=1) (by kernel_rfl));simp only [zaE,and_true] at e1;subst e1;obtain ⟨n2,e2,w2⟩:=MH (k:=.i64) (by kernel_rfl) (cs:=[c2]) (EM (di:=d2) Tryz.underlying62 hf 2 rfl rfl (n:=1) (by kernel_rfl));simp only [zaE,and_true] at e2;subst e2;obtain ⟨n3,e3,w3⟩:=XT (by kernel_rfl) (cs:=[c3]) (EM (di:=d3) Tryz.underlying62 hf 3 rfl rfl (n:=1) (by kernel_rfl));simp only [zaE,and_true] at e3;subst e3;refine ⟨⟨n0,n1,n2,n3⟩,rfl,wf_i64 w2,?_⟩;simp only [Rows.uptoBulk,Rows.uptoBulkAll];omega
theorem AMa (h:Td enc Tryz.prog W 144 cs d):∃x:TField,TFieldV (Dc W) x cs∧YD x≤Rows.uptoBulk d:=by
 obtain ⟨hl,ds,rfl,hdl,hf⟩:=JO Tryz.underlying144 h;rw [show Tryz.prog.cellsOf 144=2 by kernel_rfl] at hl;obtain ⟨c0,c1,rfl⟩:∃c0 c1,cs=[c0,c1]:=by
  match cs,hl with
  |[c0,c1],_=>exact ⟨c0,c1,rfl⟩
 obtain ⟨d0,d1,rfl⟩:∃d0 d1,ds=[d0,d1]:=by
  match ds,(show ds.length=2 from hdl) with
  |[d0,d1],_=>exact ⟨d0,d1,rfl⟩
 clear hl hdl h;obtain ⟨n0,e0,w0⟩:=XT (by kernel_rfl) (cs:=[c0]) (EM (di:=d0) Tryz.underlying144 hf 0 rfl rfl (n:=1) (by kernel_rfl));simp only [zaE,and_true] at e0;subst e0;obtain ⟨n1,e1,w1⟩:=MH (k:=.i64) (by kernel_rfl) (cs:=[c1]) (EM (di:=d1) Tryz.underlying144 hf 1 rfl rfl (n:=1) (by kernel_rfl));simp only [zaE,and_true] at e1;subst e1;refine ⟨⟨n0,n1⟩,rfl,?_⟩;simp only [YD,Rows.uptoBulk,Rows.uptoBulkAll];omega
theorem APK (h:Td enc Tryz.prog W 62 cs d):∃x:TValue,(VlV (Dc W) x cs∧okI x.fInt)∧mVl x≤Rows.uptoBulk d:=by
 obtain ⟨x,h1,h2,h3⟩:=ABT h;exact ⟨x,⟨h1,h2⟩,h3⟩
theorem AID (h:Td enc Tryz.prog W 111 cs d):∃r:List TValue,(Lu VlV 4 (Dc W) r cs∧∀v∈r,okI v.fInt)∧MX r≤Rows.uptoBulk d:=by
 obtain ⟨a,len,cap,rfl,_⟩:=KW (e:=62) (by kernel_rfl) h;obtain ⟨xs,h1,h2,h3⟩:=Nv (R:=VlV) (Q:=λv=>okI v.fInt) (μ:=mVl) 62 (by kernel_rfl) (n:=4) (by kernel_rfl) zx h (λc di _ hc=>APK hc);exact ⟨xs,⟨⟨_,rfl,h1⟩,h2⟩,h3⟩
theorem ADG {T:TypeId}(hu:Tryz.prog.underlying T=some (.slice 5)){v:Value}(h:Td enc Tryz.prog W T [v] d):∃l:Bs,Bytes (Dc W) v l∧l.length+1≤Rows.uptoBulk d:=by
 obtain ⟨cells,len,ds,hS,hds,hb,hT⟩:=ADF hu (show 0 < Tryz.prog.cellsOf 5 by decide+kernel) h;have h1:Tryz.prog.cellsOf 5=1:=by kernel_rfl
 rw [h1] at hS hT;subst hds;obtain ⟨xs,hxl,hR,hs⟩:=PY (R:=λ(x:UInt8) c=>c=[.int .u8 x.toNat]) (μ:=λ_=>1) (n:=1) ds cells hS.1 (λi di hi=>by
  obtain ⟨d2,h1,h2⟩:=hT i (by exact (zaj.1 hi).1);rw [hi] at h1;simp only [zn] at h1;subst h1;obtain ⟨n,e,hw⟩:=MH (k:=.u8) (by kernel_rfl) h2;have:=wf_u8 hw;refine ⟨UInt8.ofNat n.toNat,?_,ALP _⟩;rw [e];have:((UInt8.ofNat n.toNat).toNat:Int)=n:=by simp;omega
  rw [this])
 have hc:∀(xs:List UInt8) (cells:List Value),Recs (λ(x:UInt8) c=>c=[.int .u8 x.toNat]) 1 xs cells→cells=u8s xs:=by
  intro xs;induction xs with
  |nil=>intro cells h;exact h
  |cons x xs ih=>
   intro cells h;obtain ⟨g1,g2,g3⟩:=h;have:=ih _ g3;rw [←zZ 1 cells,g2,this];rfl
 have:=hc xs cells hR;subst this;rw [←hxl] at hS;refine ⟨xs,hS,?_⟩;have hl:∀ys:List UInt8,(ys.map λ_=>1).sum=ys.length:=by
  intro ys;induction ys with
  |nil=>rfl
  |cons x ys ih=>simp only [zF,zae,zi,ih];omega
 have h2:=hl xs;have h3:(xs.map λ_=>1).sum≤Rows.uptoBulkAll ds:=hs;rw [h2] at h3;omega
theorem AMG (h:Td enc Tryz.prog W 42 cs d):∃x:TOut,(TOutV (Dc W) x cs∧Vo x)∧Vh x≤Rows.uptoBulk d:=by
 obtain ⟨hl,ds,rfl,hdl,hf⟩:=JO Tryz.underlying42 h;rw [show Tryz.prog.cellsOf 42=5 by kernel_rfl] at hl;obtain ⟨c0,c1,c2,c3,c4,rfl⟩:∃c0 c1 c2 c3 c4,cs=[c0,c1,c2,c3,c4]:=by
  match cs,hl with
  |[c0,c1,c2,c3,c4],_=>exact ⟨c0,c1,c2,c3,c4,rfl⟩
 obtain ⟨d0,d1,d2,d3,d4,rfl⟩:∃d0 d1 d2 d3 d4,ds=[d0,d1,d2,d3,d4]:=by
  match ds,(show ds.length=5 from hdl) with
  |[d0,d1,d2,d3,d4],_=>exact ⟨d0,d1,d2,d3,d4,rfl⟩
 clear hl hdl h;obtain ⟨a0,l0,k0,e0,_⟩:=KW (e:=371) (by kernel_rfl) (cs:=[c0]) (EM (di:=d0) Tryz.underlying42 hf 0 rfl rfl (n:=1) (by kernel_rfl));simp only [zaE,and_true] at e0;subst e0;obtain ⟨a1,l1,k1,e1,_⟩:=KW (e:=373) (by kernel_rfl) (cs:=[c1]) (EM (di:=d1) Tryz.underlying42 hf 1 rfl rfl (n:=1) (by kernel_rfl));simp only [zaE,and_true] at e1;subst e1;obtain ⟨n2,h2,q2,w2⟩:=Nv (R:=TFieldV) (Q:=λ_=>True) (μ:=YD) 144 (by kernel_rfl) (n:=2) (by kernel_rfl) zx (v:=c2) (EM (di:=d2) Tryz.underlying42 hf 2 rfl rfl (n:=1) (by kernel_rfl)) (λc di _ hc=>by obtain ⟨x,g1,g2⟩:=AMa hc;exact ⟨x,⟨g1,trivial⟩,g2⟩);obtain ⟨n3,h3,q3,w3⟩:=Nv (R:=(Lu VlV 4)) (Q:=λr=>∀v∈r,okI v.fInt) (μ:=MX) 111 (by kernel_rfl) (n:=1) (by kernel_rfl) zx (v:=c3) (EM (di:=d3) Tryz.underlying42 hf 3 rfl rfl (n:=1) (by kernel_rfl)) (λc di _ hc=>AID hc);obtain ⟨n4,e4,w4⟩:=XT (by kernel_rfl) (cs:=[c4]) (EM (di:=d4) Tryz.underlying42 hf 4 rfl rfl (n:=1) (by kernel_rfl));simp only [zaE,and_true] at e4;subst e4;refine ⟨⟨n2,n3,n4⟩,⟨⟨_,_,_,_,rfl,rfl,rfl,h2,h3⟩,q3⟩,?_⟩;simp only [Vh,Rows.uptoBulk,Rows.uptoBulkAll];omega
def Ui (I:Imm)(x:TStep)(c:List Value):Prop:=∃vb co,c= .int .i64 x.fDo::vb::(co++[.int .i64 x.fE])∧Bytes I vb x.fB∧TOutV I x.fO co
def NT (x:TStep):Nat:=x.fB.length+Vh x.fO+1
theorem AHg (h:Td enc Tryz.prog W 44 cs d):∃x:TStep,(Ui (Dc W) x cs∧Vo x.fO)∧NT x≤Rows.uptoBulk d:=by
 obtain ⟨hl,ds,rfl,hdl,hf⟩:=JO Tryz.underlying44 h;rw [show Tryz.prog.cellsOf 44=8 by kernel_rfl] at hl;obtain ⟨c0,c1,c2,c3,c4,c5,c6,c7,rfl⟩:∃c0 c1 c2 c3 c4 c5 c6 c7,cs=[c0,c1,c2,c3,c4,c5,c6,c7]:=by
  match cs,hl with
  |[c0,c1,c2,c3,c4,c5,c6,c7],_=>exact ⟨c0,c1,c2,c3,c4,c5,c6,c7,rfl⟩
 obtain ⟨d0,d1,d2,d3,rfl⟩:∃d0 d1 d2 d3,ds=[d0,d1,d2,d3]:=by
  match ds,(show ds.length=4 from hdl) with
  |[d0,d1,d2,d3],_=>exact ⟨d0,d1,d2,d3,rfl⟩
 clear hl hdl h;obtain ⟨n0,e0,w0⟩:=MH (k:=.i64) (by kernel_rfl) (cs:=[c0]) (EM (di:=d0) Tryz.underlying44 hf 0 rfl rfl (n:=1) (by kernel_rfl));simp only [zaE,and_true] at e0;subst e0;obtain ⟨n1,h1,w1⟩:=ADG (by kernel_rfl) (v:=c1) (EM (di:=d1) Tryz.underlying44 hf 1 rfl rfl (n:=1) (by kernel_rfl));obtain ⟨n2,⟨⟨x0,x1,vf,vr,e2,g0,g1,g2,g3⟩,q2⟩,w2⟩:=AMG (cs:=[c2,c3,c4,c5,c6]) (EM (di:=d2) Tryz.underlying44 hf 2 rfl rfl (n:=5) (by kernel_rfl));simp only [zaE,and_true] at e2;obtain ⟨rfl,rfl,rfl,rfl,rfl⟩:=e2;obtain ⟨n3,e3,w3⟩:=MH (k:=.i64) (by kernel_rfl) (cs:=[c7]) (EM (di:=d3) Tryz.underlying44 hf 3 rfl rfl (n:=1) (by kernel_rfl));simp only [zaE,and_true] at e3;subst e3;refine ⟨⟨n0,n1,n2,n3⟩,⟨⟨c1,_,rfl,h1,c2,c3,c4,c5,rfl,g0,g1,g2,g3⟩,q2⟩,?_⟩;simp only [NT,Rows.uptoBulk,Rows.uptoBulkAll];omega
end
section
variable {P:Program}{ω:Om}{K:Value→M}{I:Imm}{L:LH}
theorem WR {f:FuncId}{args cap:Array Value}(he:CU P f=true)(h:Cal P ω f (args++cap) K I L):CalV P ω (.func (.func f) #[] cap) args K I L:=by
 unfold CalV;simp only [he,if_true];simpa using h
end
theorem CalV.to {P:Program}{ω:Om}{K:Value→M}{I:Imm}{L:LH}{x:Value}{args:Array Value}(L':LH)[hs:SubP L' L](h:CalV P ω x args K I L'):CalV P ω x args K I L:=by
 have key:∀w,St ω w I L→St ω w I L':=λw hw=>by
  obtain ⟨R,hR⟩:=hs.sub;exact (hw.perm hR).drop (List.sublist_append_left L' R)
 match x,h with
 | .func (.func f) first cap,h=>
  simp only [CalV] at h ⊢;by_cases he:CU P f=true
  ·rw [if_pos he] at h ⊢;exact λw hw=>h w (key w hw)
  ·rw [if_neg he] at h ⊢;cases hx:QO P f with
   |none=>rw [hx] at h;exact h.elim
   |some e=>
    rw [hx] at h;exact λw hw=>h w (key w hw)
 | .func (.yield l) first cap,h=>exact λw hw=>h w (key w hw)
abbrev DR (n:Int):Obj:=.cells [.int .i64 n].toArray 3 (0,0)
abbrev doV (b1 b2:Nat):Value:=.func (.func 197) #[] #[Ac b1,Ac b2]
abbrev doO (b1 b2:Nat):Obj:=.cells [doV b1 b2].toArray 277 (0,0)
abbrev inV (bd bi:Nat):Value:=.func (.func 237) #[] #[Ac bd,Ac bi]
abbrev inO (bd bi:Nat):Obj:=.cells [inV bd bi].toArray 277 (0,0)
def mxI (a b:Int):Int:=if b > a then b else a
theorem AMJ (a b:Int):mxI a b=max a b:=by unfold mxI;omega
section
variable {ω:Om}{K:Value→M}{I:Imm}{F:LH}
theorem AIk {b1 b2:Nat}{p d n:Int}{c:List Value}(hc:c.length=11)(hp:0≤p∧p≤1000000000000000000)(hk:K (.tuple #[]) I ((b1,DR (p+1))::(b2,DR (max d n))::F)):
  CW ω (doV b1 b2) #[.agg c.toArray,.int .i64 n] K I ((b1,DR p)::(b2,DR d)::F):=by
 refine WR (by kernel_rfl) ?_;refine ANy ?_;show AEN ω (.agg c.toArray) (.int .i64 n) (Ac b1) (Ac b2) _ I _;unfold AEN;refine Ap (λb=>?_);rw [←AMJ] at hk;unfold mxI at hk;repeat' (first|refine zqa ?_|refine zqh (λ_=>?_)|refine zqr ?_|refine zqb ?_|refine zqi ?_ ?_|refine zqc ?_|refine zqg (λ_=>?_) (λ_=>?_)|(simp only [SSd,Nat.reduceAdd,wrap_i64 (p+1) zo]))
 exact zAE _ (zAA hk)
theorem Va {l:List Ex}{k:Nat}(h:k < l.length):Aa (l.take (k+1))=Aa (l.take k)+Aj l[k]:=by
 rw [zf h,DI];simp [Aa]
theorem Ho:∀a b:List Ex,Bz (a++b)=max (Bz a) (Bz b)
 |[],b=>by simp [Bz]
 |x::a,b=>by simp only [zah,Bz,Ho a b];omega
theorem YL {l:List Ex}{k:Nat}(h:k < l.length):Bz (l.take (k+1))=max (Bz (l.take k)) (Fz l[k]):=by
 rw [zf h,Ho];simp [Bz]
theorem ACb (x:Ex):1≤Fz x:=by cases x;simp [Fz]
theorem Rk (x:Ex):1≤Aj x:=by cases x;simp [Aj]
theorem Rl {x:Ex}:∀{l:List Ex},x∈l→Aj x≤Aa l
 |y::l,h=>by
  rcases zK.1 h with rfl|h
  ·simp only [Aa];omega
  ·have:=Rl h;simp only [Aa];omega
mutual
theorem QR:∀x:Ex,Fz x≤Aj x
 | .mk _ _ _ _ _ _ _ l=>by simp only [Fz,Aj];have:=Nb l;omega
theorem Nb:∀l:List Ex,Bz l≤Aa l
 |[]=>by simp [Bz]
 |x::l=>by simp only [Bz,Aa];have:=QR x;have:=Nb l;omega
end
theorem Xr (x:Ex):Aj x=Aa x.args+1:=by cases x;rfl
theorem ACa (x:Ex):Fz x=Bz x.args+1:=by cases x;rfl
theorem AAs {b1 b2 bd bi:Nat}:∀(m:Nat) (x:Ex),Aj x≤m→∀(p d n:Int) (c:List Value) (K:Value→M) (I:Imm) (F:LH),ExV I x c→0≤p→p+Aj x≤1000000000000000000→0≤n→n+Fz x≤1000000000000000000→
  K (.tuple #[]) I ((b1,DR (p+Aj x))::(b2,DR (max d (n+Fz x - 1)))::(bd,doO b1 b2)::(bi,inO bd bi)::F)→
  CW ω (inV bd bi) #[.agg c.toArray,.int .i64 n] K I ((b1,DR p)::(b2,DR d)::(bd,doO b1 b2)::(bi,inO bd bi)::F)
 |0,x,hm,_,_,_,_,_,_,_,_,_,_,_,_,_=>by have:=Rk x;omega
 |m+1,x,hm,p,d,n,c,K,I,F,hx,hp,hpx,hn,hnx,hk=>by
  refine WR (by kernel_rfl) ?_;refine ANX ?_;show AEL ω (.agg c.toArray) (.int .i64 n) (Ac bd) (Ac bi) _ I _;have hcl:=hx.len;obtain ⟨v,rfl,ha⟩:=ExV.iff.1 hx;unfold AEL;refine Ap (λb=>?_);try refine zqe ?_
  refine rdb ?_;refine rdB rfl ?_;refine Si ?_;refine CalV.to ((b1,DR p)::(b2,DR d)::(b,.cells (Bc x v).toArray 65 (0,0))::(bd,doO b1 b2)::(bi,inO bd bi)::F) ?_;refine AIk hcl ⟨hp,by omega⟩ ?_;try refine zqe ?_
  refine rdb ?_;simp only [zAK ha,SSd,Nat.reduceAdd];have h1:=Xr x;have h2:=ACa x;refine loop (λq s I' L'=>∃k:Nat,k+q=x.args.length∧s=(.int .i64 k,())∧I'=I∧L'=(b1,DR (p+1+Aa (x.args.take k)))::(b2,DR (max (max d n) (n+Bz (x.args.take k))))::(b,.cells (Bc x v).toArray 65 (0,0))::(bd,doO b1 b2)::(bi,inO bd bi)::F) x.args.length ⟨0,by omega,rfl,rfl,by rw [show p+1+((Aa (x.args.take 0):Nat):Int)=p+1 by simp [Aa],show max (max d n) (n+((Bz (x.args.take 0):Nat):Int))=max d n by simp only [List.take_zero,Bz];omega]⟩ ?_;rintro q s I' L' ⟨k,hkq,rfl,rfl,rfl⟩;unfold Yy;try refine zqe ?_
  have hle:x.args.length≤Aa x.args:=by
   generalize x.args=l;induction l with
   |nil=>simp
   |cons y l ih=>have:=Rk y;simp only [Aa,zi];omega
  refine AL (λhb=>?_) (λhb=>?_)
  ·have hb:k < x.args.length:=by
    have:=of_decide_eq_true hb;omega
   obtain ⟨bt,off,c1,g1,gl,g2,g3⟩:=RL.ix ha (i:=k) zo zo;rw [BA hb] at g2;have hcl1:=ExV.len g2;have hm1:=Rl (zar hb);have hone:=ExV.one g2;simp only [g1,SSd,Nat.reduceAdd];refine UH (g3 _ [] (zAC _) (λ_ h=>h)) (zAC _) hcl1 ?_;refine Ap (λb3=>?_);refine stB hcl1 rfl hone ?_;refine rdb ?_;refine rdB hcl1 ?_;simp only [wrap_i64 (n+1) zo,SSd,Nat.reduceAdd];refine Si ?_;refine CalV.to ((b1,DR (p+1+Aa (x.args.take k)))::(b2,DR (max (max d n) (n+Bz (x.args.take k))))::(bd,doO b1 b2)::(bi,inO bd bi)::(b3,.cells c1.toArray 65 (0,0))::(b,.cells (Bc x v).toArray 65 (0,0))::F) ?_;have htk:=Va hb;have htd:=YL hb;have hts:Aa (x.args.take (k+1))≤Aa x.args:=by
    have h:=DI (x.args.take (k+1)) (x.args.drop (k+1));rw [zZ] at h;omega
   have hdl:Fz x.args[k]≤Bz x.args:=by
    have h:=Ho (x.args.take (k+1)) (x.args.drop (k+1));rw [zZ] at h;omega
   refine AAs m x.args[k] zo _ _ (n+1) c1 _ _ _ g2 zo zo zo zo ?_;simp only [wrap_i64 ((k:Int)+1) zo,SSd,Nat.reduceAdd];rw [←show p+1+(Aa (x.args.take (k+1)):Int)=p+1+Aa (x.args.take k)+Aj x.args[k] by omega,←show max (max d n) (n+(Bz (x.args.take (k+1)):Int))=max (max (max d n) (n+Bz (x.args.take k))) (n+1+Fz x.args[k] - 1) by omega];refine zAE ((b1,DR (p+1+Aa (x.args.take (k+1))))::(b2,DR (max (max d n) (n+Bz (x.args.take (k+1)))))::(b,.cells (Bc x v).toArray 65 (0,0))::(bd,doO b1 b2)::(bi,inO bd bi)::F) ?_;exact zAA ⟨q - 1,by omega,k+1,by omega,rfl,rfl,rfl⟩
  ·have hb:¬k < x.args.length:=by
    have:=of_decide_eq_false hb;omega
   have hkl:x.args.take k=x.args:=zW zo;rw [hkl];rw [←show p+(Aj x:Int)=p+1+Aa x.args by omega,←show max d (n+(Fz x:Int) - 1)=max (max d n) (n+Bz x.args) by omega];exact zAE ((b1,DR (p+Aj x))::(b2,DR (max d (n+Fz x - 1)))::(bd,doO b1 b2)::(bi,inO bd bi)::F) (zAA hk)
end
def GL (I:Imm)(X:LH)(v:Value)(xs:List Ex):Prop:=∃cells,GrO I 65 11 X v cells xs.length∧Recs (ExV I) 11 xs cells
theorem GL.mono {I I':Imm}{X:LH}{v:Value}{xs:List Ex}(h:GL I X v xs)(hI:Ext I I'):GL I' X v xs:=by
 obtain ⟨cells,h1,h2⟩:=h;exact ⟨cells,h1.mono hI,Recs.imp (λ_ _ h=>ExV.mono hI h) h2⟩
theorem GL.rl {I:Imm}{X L:LH}{v:Value}{xs:List Ex}(h:GL I X v xs)(hL:∀x∈X,x∈L):RL ExV 11 I L v xs:=by
 obtain ⟨cells,h1,h2⟩:=h;obtain ⟨a,k,rfl,hle⟩:=h1.form;exact ⟨a,k,cells,rfl,hle,h1.news hL,h2⟩
section
variable {ω:Om}{K:Value→M}{I:Imm}{F:LH}
instance splitNil (L:LH):SplitL [] L L:=⟨List.Perm.refl _⟩
theorem Fq {X L:LH}[SplitL X L F]{z:Array Value}{xs ys:List Ex}{s x:Value}(hz:z.size=11)(hG:GL I X s xs)(hy:ExL I x ys)(hb:xs.length+ys.length≤1000000000000)(hk:∀X' v',GL I X' v' (xs++ys)→K v' I (X'++F)):
  App 65 11 128 z s x (gh K) I L:=by
 obtain ⟨cells,h1,h2⟩:=hG;obtain ⟨c,s4,r4⟩:=RL.toI zx hy;refine APC (X:=X) hz h1 s4.news (Recs.one_cells (λ_ _ h=>ExV.one h) r4) zo zo (λX' v' h=>hk X' v' ⟨_,by rw [zk];exact h,zAN h2 r4⟩)
theorem Qe {z:Array Value}{x:Ex}{c:List Value}(hx:ExV I x c)(hk:∀I' a,Ext I I'→ExL I' (.slice a 1 1) [x]→Gh (K (.slice a 1 1)) I' F):AC 65 11 z 1 [(0,.agg c.toArray)] (gh K) I F:=
 Eg (R:=ExV) [x] [c] rfl rfl rfl (by simp [hx.len]) (by simpa using hx) (λhI h=>ExV.mono hI h) hk
theorem AMd {X:LH}{vs w:Value}{p2 p4:Value}{ys:List TItem}{xs:List Ex}(hy:RL TItemV 14 I [] vs ys)(hG:GL I X w xs)(hb:xs.length+ys.length≤1000000000000)
  (hk:∀I' X' w',Ext I I'→GL I' X' w' (xs++ys.map λy=>y.fExpr)→Tm ω p2 p4 w' K I' (X'++F)):
  Aq ((w,.int .i64 0,()):Value×Value×Unit) (λs Kn=>Tq ω p2 p4 vs (.int .i64 ys.length) s.1 s.2.1 Kn K) I (X++F):=by
 refine loop (λq st I' L'=>∃k X' v',k+q=ys.length∧st=(v',.int .i64 (k:Nat),())∧Ext I I'∧GL I' X' v' (xs++(ys.take k).map λy=>y.fExpr)∧L'=X'++F) ys.length ⟨0,X,w,by omega,rfl,zAC _,by simpa using hG,rfl⟩ ?_;rintro q st I' L' ⟨k,X',v',hkq,rfl,hI',hG',rfl⟩;unfold Tq;try refine zqe ?_
 refine AL (λhb=>?_) (λhb=>?_)
 ·have hb:k < ys.length:=by
   have:=of_decide_eq_true hb;omega
  obtain ⟨bt,off,c1,g1,gl,g2,g3⟩:=RL.ix hy (i:=k) zo zo;rw [BA hb] at g2;obtain ⟨v0,rfl,h0⟩:=g2.mono hI';simp only [g1,SSd,Nat.reduceAdd];refine UH (g3 _ [] hI' (λ_ h=>h)) (zAC _) rfl ?_;refine Ap (λb3=>?_);obtain ⟨a0,k0,rfl⟩:=zAF h0;refine stB rfl rfl (AV rfl) ?_;try refine zqe ?_
  refine rdP _ rfl rfl ?_;refine Qe (x:=ys[k].fExpr) (ExV.iff.2 ⟨_,rfl,h0⟩) (λI2 a2 hI2 hw2=>zAA ?_);refine Fq (X:=X') rfl (hG'.mono hI2) hw2 zu (λX3 w3 hG3=>?_);simp only [wrap_i64 ((k:Int)+1) zo,SSd,Nat.reduceAdd];refine zAE (X3++F) (zAA ⟨q - 1,by omega,k+1,X3,w3,by omega,rfl,zAB hI' hI2,?_,rfl⟩);rw [zf hb,zaa,←zt];exact hG3
 ·have hb:¬k < ys.length:=by
   have:=of_decide_eq_false hb;omega
  rw [zW zo] at hG';exact hk I' X' v' hI' hG'
theorem AMc {X:LH}{vs w:Value}{p2 p4:Value}{ys:List TSource}{xs:List Ex}(hy:RL TSourceV 14 I [] vs ys)(hG:GL I X w xs)(hb:xs.length+ys.length≤1000000000000)
  (hk:∀I' X' w',Ext I I'→GL I' X' w' (xs++ys.map λy=>y.fOn)→Ti ω p2 p4 w' K I' (X'++F)):
  Aq ((w,.int .i64 0,()):Value×Value×Unit) (λs Kn=>Tj ω p2 p4 vs (.int .i64 ys.length) s.1 s.2.1 Kn K) I (X++F):=by
 refine loop (λq st I' L'=>∃k X' v',k+q=ys.length∧st=(v',.int .i64 (k:Nat),())∧Ext I I'∧GL I' X' v' (xs++(ys.take k).map λy=>y.fOn)∧L'=X'++F) ys.length ⟨0,X,w,by omega,rfl,zAC _,by simpa using hG,rfl⟩ ?_;rintro q st I' L' ⟨k,X',v',hkq,rfl,hI',hG',rfl⟩;unfold Tj;try refine zqe ?_
 refine AL (λhb=>?_) (λhb=>?_)
 ·have hb:k < ys.length:=by
   have:=of_decide_eq_true hb;omega
  obtain ⟨bt,off,c1,g1,gl,g2,g3⟩:=RL.ix hy (i:=k) zo zo;rw [BA hb] at g2;obtain ⟨v0,rfl,h0⟩:=g2.mono hI';simp only [g1,SSd,Nat.reduceAdd];refine UH (g3 _ [] hI' (λ_ h=>h)) (zAC _) rfl ?_;refine Ap (λb3=>?_);obtain ⟨a0,k0,rfl⟩:=zAF h0;refine stB rfl rfl (AV rfl) ?_;try refine zqe ?_
  refine rdP _ rfl rfl ?_;refine Qe (x:=ys[k].fOn) (ExV.iff.2 ⟨_,rfl,h0⟩) (λI2 a2 hI2 hw2=>zAA ?_);refine Fq (X:=X') rfl (hG'.mono hI2) hw2 zu (λX3 w3 hG3=>?_);simp only [wrap_i64 ((k:Int)+1) zo,SSd,Nat.reduceAdd];refine zAE (X3++F) (zAA ⟨q - 1,by omega,k+1,X3,w3,by omega,rfl,zAB hI' hI2,?_,rfl⟩);rw [zf hb,zaa,←zt];exact hG3
 ·have hb:¬k < ys.length:=by
   have:=of_decide_eq_false hb;omega
  rw [zW zo] at hG';exact hk I' X' v' hI' hG'
theorem AMb {X:LH}{vs w:Value}{p2 p4:Value}{ys:List TOrder}{xs:List Ex}(hy:RL TOrderV 12 I [] vs ys)(hG:GL I X w xs)(hb:xs.length+ys.length≤1000000000000)
  (hk:∀I' X' w',Ext I I'→GL I' X' w' (xs++ys.map λy=>y.fExpr)→Tc ω p2 p4 w' K I' (X'++F)):
  Aq ((w,.int .i64 0,()):Value×Value×Unit) (λs Kn=>Tf ω p2 p4 vs (.int .i64 ys.length) s.1 s.2.1 Kn K) I (X++F):=by
 refine loop (λq st I' L'=>∃k X' v',k+q=ys.length∧st=(v',.int .i64 (k:Nat),())∧Ext I I'∧GL I' X' v' (xs++(ys.take k).map λy=>y.fExpr)∧L'=X'++F) ys.length ⟨0,X,w,by omega,rfl,zAC _,by simpa using hG,rfl⟩ ?_;rintro q st I' L' ⟨k,X',v',hkq,rfl,hI',hG',rfl⟩;unfold Tf;try refine zqe ?_
 refine AL (λhb=>?_) (λhb=>?_)
 ·have hb:k < ys.length:=by
   have:=of_decide_eq_true hb;omega
  obtain ⟨bt,off,c1,g1,gl,g2,g3⟩:=RL.ix hy (i:=k) zo zo;rw [BA hb] at g2;obtain ⟨v0,rfl,h0⟩:=g2.mono hI';simp only [g1,SSd,Nat.reduceAdd];refine UH (g3 _ [] hI' (λ_ h=>h)) (zAC _) rfl ?_;refine Ap (λb3=>?_);obtain ⟨a0,k0,rfl⟩:=zAF h0;refine stB rfl rfl (AV rfl) ?_;try refine zqe ?_
  refine rdP _ rfl rfl ?_;refine Qe (x:=ys[k].fExpr) (ExV.iff.2 ⟨_,rfl,h0⟩) (λI2 a2 hI2 hw2=>zAA ?_);refine Fq (X:=X') rfl (hG'.mono hI2) hw2 zu (λX3 w3 hG3=>?_);simp only [wrap_i64 ((k:Int)+1) zo,SSd,Nat.reduceAdd];refine zAE (X3++F) (zAA ⟨q - 1,by omega,k+1,X3,w3,by omega,rfl,zAB hI' hI2,?_,rfl⟩);rw [zf hb,zaa,←zt];exact hG3
 ·have hb:¬k < ys.length:=by
   have:=of_decide_eq_false hb;omega
  rw [zW zo] at hG';exact hk I' X' v' hI' hG'
theorem AIi {X:LH}{vs w:Value}{p2 p4:Value}{ys:List TSet}{xs:List Ex}(hy:RL TSetV 12 I [] vs ys)(hG:GL I X w xs)(hb:xs.length+ys.length≤1000000000000)
  (hk:∀I' X' w',Ext I I'→GL I' X' w' (xs++ys.map λy=>y.fExpr)→PK ω p2 p4 w' K I' (X'++F)):
  Aq ((w,.int .i64 0,()):Value×Value×Unit) (λs Kn=>PL ω p2 p4 vs (.int .i64 ys.length) s.1 s.2.1 Kn K) I (X++F):=by
 refine loop (λq st I' L'=>∃k X' v',k+q=ys.length∧st=(v',.int .i64 (k:Nat),())∧Ext I I'∧GL I' X' v' (xs++(ys.take k).map λy=>y.fExpr)∧L'=X'++F) ys.length ⟨0,X,w,by omega,rfl,zAC _,by simpa using hG,rfl⟩ ?_;rintro q st I' L' ⟨k,X',v',hkq,rfl,hI',hG',rfl⟩;unfold PL;try refine zqe ?_
 refine AL (λhb=>?_) (λhb=>?_)
 ·have hb:k < ys.length:=by
   have:=of_decide_eq_true hb;omega
  obtain ⟨bt,off,c1,g1,gl,g2,g3⟩:=RL.ix hy (i:=k) zo zo;rw [BA hb] at g2;obtain ⟨v0,rfl,h0⟩:=g2.mono hI';simp only [g1,SSd,Nat.reduceAdd];refine UH (g3 _ [] hI' (λ_ h=>h)) (zAC _) rfl ?_;refine Ap (λb3=>?_);obtain ⟨a0,k0,rfl⟩:=zAF h0;refine stB rfl rfl (AV rfl) ?_;try refine zqe ?_
  refine rdP _ rfl rfl ?_;refine Qe (x:=ys[k].fExpr) (ExV.iff.2 ⟨_,rfl,h0⟩) (λI2 a2 hI2 hw2=>zAA ?_);refine Fq (X:=X') rfl (hG'.mono hI2) hw2 zu (λX3 w3 hG3=>?_);simp only [wrap_i64 ((k:Int)+1) zo,SSd,Nat.reduceAdd];refine zAE (X3++F) (zAA ⟨q - 1,by omega,k+1,X3,w3,by omega,rfl,zAB hI' hI2,?_,rfl⟩);rw [zf hb,zaa,←zt];exact hG3
 ·have hb:¬k < ys.length:=by
   have:=of_decide_eq_false hb;omega
  rw [zW zo] at hG';exact hk I' X' v' hI' hG'
theorem AIh {X:LH}{vs w:Value}{p4:Value}{ys:List TCol}{xs:List Ex}(hy:RL TColV 16 I [] vs ys)(hG:GL I X w xs)(hb:xs.length+ys.length≤1000000000000)
  (hk:∀I' X' w',Ext I I'→GL I' X' w' (xs++ys.map λy=>y.fDefault)→Kr ω p4 w' K I' (X'++F)):
  Aq ((w,.int .i64 0,()):Value×Value×Unit) (λs Kn=>PI ω p4 vs (.int .i64 ys.length) s.1 s.2.1 Kn K) I (X++F):=by
 refine loop (λq st I' L'=>∃k X' v',k+q=ys.length∧st=(v',.int .i64 (k:Nat),())∧Ext I I'∧GL I' X' v' (xs++(ys.take k).map λy=>y.fDefault)∧L'=X'++F) ys.length ⟨0,X,w,by omega,rfl,zAC _,by simpa using hG,rfl⟩ ?_;rintro q st I' L' ⟨k,X',v',hkq,rfl,hI',hG',rfl⟩;unfold PI;try refine zqe ?_
 refine AL (λhb=>?_) (λhb=>?_)
 ·have hb:k < ys.length:=by
   have:=of_decide_eq_true hb;omega
  obtain ⟨bt,off,c1,g1,gl,g2,g3⟩:=RL.ix hy (i:=k) zo zo;rw [BA hb] at g2;obtain ⟨v0,rfl,h0⟩:=g2.mono hI';simp only [g1,SSd,Nat.reduceAdd];refine UH (g3 _ [] hI' (λ_ h=>h)) (zAC _) rfl ?_;refine Ap (λb3=>?_);obtain ⟨a0,k0,rfl⟩:=zAF h0;refine stB rfl rfl (AV rfl) ?_;try refine zqe ?_
  refine rdP _ rfl rfl ?_;refine Qe (x:=ys[k].fDefault) (ExV.iff.2 ⟨_,rfl,h0⟩) (λI2 a2 hI2 hw2=>zAA ?_);refine Fq (X:=X') rfl (hG'.mono hI2) hw2 zu (λX3 w3 hG3=>?_);simp only [wrap_i64 ((k:Int)+1) zo,SSd,Nat.reduceAdd];refine zAE (X3++F) (zAA ⟨q - 1,by omega,k+1,X3,w3,by omega,rfl,zAB hI' hI2,?_,rfl⟩);rw [zf hb,zaa,←zt];exact hG3
 ·have hb:¬k < ys.length:=by
   have:=of_decide_eq_false hb;omega
  rw [zW zo] at hG';exact hk I' X' v' hI' hG'
theorem AIj {X:LH}{vs w:Value}{p2 p4:Value}{ys:List (List Ex)}{xs:List Ex}(hy:RL (Lu ExV 11) 1 I [] vs ys)(hyl:ys.length≤1000000000000)(hG:GL I X w xs)(hb:xs.length+ys.flatten.length≤1000000000000)
  (hk:∀I' X' w',Ext I I'→GL I' X' w' (xs++ys.flatten)→PM ω p2 p4 w' K I' (X'++F)):
  Aq ((w,.int .i64 0,()):Value×Value×Unit) (λs Kn=>PN ω p2 p4 vs (.int .i64 ys.length) s.1 s.2.1 Kn K) I (X++F):=by
 refine loop (λq st I' L'=>∃k X' v',k+q=ys.length∧st=(v',.int .i64 (k:Nat),())∧Ext I I'∧GL I' X' v' (xs++(ys.take k).flatten)∧L'=X'++F) ys.length ⟨0,X,w,by omega,rfl,zAC _,by simpa using hG,rfl⟩ ?_;rintro q st I' L' ⟨k,X',v',hkq,rfl,hI',hG',rfl⟩;unfold PN;try refine zqe ?_
 refine AL (λhb=>?_) (λhb=>?_)
 ·have hb:k < ys.length:=by
   have:=of_decide_eq_true hb;omega
  obtain ⟨bt,off,c1,g1,gl,g2,g3⟩:=RL.ix hy (i:=k) zo zo;rw [BA hb] at g2;obtain ⟨v0,rfl,h0⟩:=LstX.mono g2 hI';simp only [g1,SSd,Nat.reduceAdd];refine rdC (g3 _ [] hI' (λ_ h=>h) 0 _ rfl) (zAC _) ?_;have hfl:(ys.take (k+1)).flatten=(ys.take k).flatten++ys[k]:=by rw [zf hb,List.flatten_append];simp only [zbq,List.flatten_nil,zaK]
  have hle:(ys.take (k+1)).flatten.length≤ys.flatten.length:=by
   have h:ys.flatten=(ys.take (k+1)).flatten++(ys.drop (k+1)).flatten:=by rw [←List.flatten_append,zZ]
   rw [h,zk];omega
  rw [hfl,zk] at hle;refine Fq (X:=X') rfl hG' h0 (by simp only [zk];omega) (λX3 w3 hG3=>?_);simp only [wrap_i64 ((k:Int)+1) zo,SSd,Nat.reduceAdd];refine zAE (X3++F) (zAA ⟨q - 1,by omega,k+1,X3,w3,by omega,rfl,hI',?_,rfl⟩);rw [hfl,←zt];exact hG3
 ·have hb:¬k < ys.length:=by
   have:=of_decide_eq_false hb;omega
  rw [zW zo] at hG';exact hk I' X' v' hI' hG'
def CB (x:Ex):Bool:=x.kind != 0
def AHQ (s:TStmt):List Ex:=[s.fWhere,s.fSelect.fWhere,s.fSelect.fHaving]++s.fSelect.fGroup++s.fSelect.fItems.map (λy=>y.fExpr)++s.fSelect.fFrom.map (λy=>y.fOn)++s.fSelect.fOrder.map (λy=>y.fExpr)++s.fRows.flatten++s.fSets.map (λy=>y.fExpr)++s.fCols.map (λy=>y.fDefault)
theorem Yd (s:TStmt):Aa ((AHQ s).filter CB)=Aa (FH s)∧Bz ((AHQ s).filter CB)=Bz (FH s):=by
 have e:∀l:List Ex,l.filter (λx=>x.kind != 0)=l.filter CB:=λl=>rfl;have c:∀(x:Ex) (l:List Ex),x::l=[x]++l:=λ_ _=>rfl;simp only [FH,e,AHQ];rw [c s.fWhere,c s.fSelect.fWhere [s.fSelect.fHaving],c s.fSelect.fWhere [_,_],c s.fSelect.fHaving [_]];simp only [List.filter_append,DI,Ho];constructor
 ·omega
 ·ac_rfl
theorem AIg {X:LH}{y:Nat×Obj}{b1 b2 bd bi:Nat}{w:Value}{xs:List Ex}{p d:Int}(hG:GL I X w xs)(hp:0≤p)(hd:0≤d)(hpx:p+Aa (xs.filter CB)≤100000000000000000)(hlen:xs.length≤1000000000000)
  (hk:Gh (K (.tuple #[])) I ((b1,DR (p+Aa (xs.filter CB)))::(b2,DR (max d (Bz (xs.filter CB))))::F)):
  Kr ω (Ac bi) w (λv=>Gh (K v)) I (X++((bi,inO bd bi)::(bd,doO b1 b2)::y::(b1,DR p)::(b2,DR d)::F)):=by
 unfold Kr;have hR:RL ExV 11 I X w xs:=hG.rl (λ_ h=>h);simp only [zAK hR,SSd,Nat.reduceAdd];refine loop (λq s I' L'=>∃k:Nat,k+q=xs.length∧s=(.int .i64 k,())∧I'=I∧L'=X++((bi,inO bd bi)::(bd,doO b1 b2)::y::(b1,DR (p+Aa ((xs.take k).filter CB)))::(b2,DR (max d (Bz ((xs.take k).filter CB))))::F)) xs.length ⟨0,by omega,rfl,rfl,by
  rw [show p+((Aa ((xs.take 0).filter CB):Nat):Int)=p by simp [Aa],show max d ((Bz ((xs.take 0).filter CB):Nat):Int)=d by simp only [List.take_zero,List.filter_nil,Bz];omega]⟩ ?_
 rintro q s I' L' ⟨k,hkq,rfl,rfl,rfl⟩;unfold VF;try refine zqe ?_
 refine AL (λhb=>?_) (λhb=>?_)
 ·have hb:k < xs.length:=by
   have:=of_decide_eq_true hb;omega
  obtain ⟨bt,off,c1,g1,gl,g2,g3⟩:=RL.ix hR (i:=k) zo zo;rw [BA hb] at g2;have hts:=zf hb;have hple:Aa ((xs.take (k+1)).filter CB)≤Aa (xs.filter CB):=by
   have h:xs.filter CB=(xs.take (k+1)).filter CB++(xs.drop (k+1)).filter CB:=by rw [←List.filter_append,zZ]
   rw [h,DI];omega
  have hstep:∀{Y:LH},SubP (X++((bi,inO bd bi)::(bd,doO b1 b2)::y::(b1,DR (p+Aa ((xs.take (k+1)).filter CB)))::(b2,DR (max d (Bz ((xs.take (k+1)).filter CB))))::F)) Y→Kq ω (.int .i64 k) (λs'=>Gh λI2 L2=>∃m',m' < q∧∃k:Nat,k+m'=xs.length∧s'=(.int .i64 k,())∧I2=I'∧L2=X++((bi,inO bd bi)::(bd,doO b1 b2)::y::(b1,DR (p+Aa ((xs.take k).filter CB)))::(b2,DR (max d (Bz ((xs.take k).filter CB))))::F)) (λv=>Gh (K v)) I' Y:=by
   intro Y hY;unfold Kq;simp only [wrap_i64 ((k:Int)+1) zo,SSd,Nat.reduceAdd];exact zAE _ (zAA ⟨q - 1,by omega,k+1,by omega,rfl,rfl,rfl⟩)
  obtain ⟨v0,rfl,h0⟩:=ExV.iff.1 g2;simp only [g1,SSd,Nat.reduceAdd];refine rdN rfl (g3 _ _ (zAC _) (λx hx=>by simp [hx])) ?_;refine Ap (λb3=>?_);obtain ⟨a0,k0,rfl⟩:=zAF h0;refine stB rfl rfl (AV rfl) ?_;try refine zqe ?_
  refine rdb ?_;try refine zqe ?_
  refine AL (λht=>?_) (λht=>?_)
  ·have ht':CB xs[k]=true:=ht;rw [hts,List.filter_append,List.filter_cons_of_pos ht',List.filter_nil,DI,Ho] at hstep;rw [hts,List.filter_append,List.filter_cons_of_pos ht',List.filter_nil,DI] at hple;simp only [Aa,Bz] at hstep hple;refine rdb ?_;refine rdB rfl ?_;refine Si ?_;refine CalV.to ((b1,DR (p+Aa ((xs.take k).filter CB)))::(b2,DR (max d (Bz ((xs.take k).filter CB))))::(bd,doO b1 b2)::(bi,inO bd bi)::(X++(y::F))) ?_;have hdp:=QR xs[k];have hdpos:=ACb xs[k];refine AAs _ xs[k] (zh _) _ _ 1 _ _ _ _ g2 zo zo zo zo ?_;refine hstep ?_;rw [show p+((Aa ((xs.take k).filter CB)+(Aj xs[k]+0):Nat):Int)=p+Aa ((xs.take k).filter CB)+Aj xs[k] by omega,show max d ((max (Bz ((xs.take k).filter CB)) (max (Fz xs[k]) 0):Nat):Int)=max (max d (Bz ((xs.take k).filter CB))) (1+Fz xs[k] - 1) by omega];infer_instance
  ·have ht':¬CB xs[k]=true:=by
    intro h;rw [show (xs[k].kind != 0)=true from h] at ht;cases ht
   rw [hts,List.filter_append,List.filter_cons_of_neg ht',List.filter_nil,zaK] at hstep;exact hstep inferInstance
 ·have hb:¬k < xs.length:=by
   have:=of_decide_eq_false hb;omega
  rw [zW zo];exact zAE _ hk
theorem ACX {b1 b2:Nat}{p d:Int}{s:TStmt}{c:List Value}(hs:TStmtV I s c)(hcnt:cS s≤1000000000)(hp:0≤p)(hd:0≤d)(hpx:p+Aa (FH s)≤100000000000000000)
  (hk:∀I',Ext I I'→K (.tuple #[]) I' ((b1,DR (p+Aa (FH s)))::(b2,DR (max d (Bz (FH s))))::F)):
  CT ω 196 #[.agg c.toArray,doV b1 b2] K I ((b1,DR p)::(b2,DR d)::F):=by
 obtain ⟨v0,v1,v2,v3,v4,v5,v6,v7,v8,v9,v10,v11,v12,rfl,h0,h1,h2,h3,h4,h5,h6,h7,h8,h9,h10,h11,h12⟩:=hs;obtain ⟨a0,k0,rfl⟩:=zAF h0;obtain ⟨a1,k1,rfl⟩:=zAF h1;obtain ⟨a2,k2,rfl⟩:=zAF h2;obtain ⟨a3,k3,rfl⟩:=zAF h3;obtain ⟨a4,k4,rfl⟩:=zAF h4;obtain ⟨a5,k5,rfl⟩:=zAF h5;obtain ⟨a7,k7,rfl⟩:=zAF h7;obtain ⟨a8,k8,rfl⟩:=zAF h8;obtain ⟨a9,k9,rfl⟩:=zAF h9;obtain ⟨a10,k10,rfl⟩:=zAF h10;simp only [cS,cQ] at hcnt;refine ANz ?_;unfold AKH;refine Ap (λbs=>?_);refine Ap (o:=doO b1 b2) (λbd=>?_);refine Ap (λbi=>?_);refine st1 rfl ?_;try refine zqe ?_
 refine rdP _ rfl rfl ?_;refine rdP _ rfl rfl ?_;refine rdP _ rfl rfl ?_;refine Eg (R:=ExV) [s.fWhere,s.fSelect.fWhere,s.fSelect.fHaving] [_,_,_] rfl rfl rfl zy (by
  intro q hq;simp only [List.zip_cons_cons,List.zip_nil_right,zK,zaG,or_false] at hq;rcases hq with rfl|rfl|rfl
  ·exact ExV.iff.2 ⟨_,rfl,h9⟩
  ·exact ExV.iff.2 ⟨_,rfl,h2⟩
  ·exact ExV.iff.2 ⟨_,rfl,h4⟩) (λhI h=>ExV.mono hI h) (λI1 aw hI1 hw1=>zAA ?_)
 obtain ⟨c1,s1,r1⟩:=RL.toI zx hw1;have hG1:GL I1 [] (.slice aw 3 3) [s.fWhere,s.fSelect.fWhere,s.fSelect.fHaving]:=⟨c1,.inr ⟨rfl,⟨aw,rfl⟩,s1⟩,r1⟩;refine rdb ?_;refine Fq (X:=[]) rfl hG1 (zAH h3 hI1) zL (λX2 w2 hG2=>?_);refine rdb ?_;simp only [zAK h0,SSd,Nat.reduceAdd];refine AMd (X:=X2) (zAI (λ_ _ h=>TItemV.mono h hI1) h0 hI1 (λ_ h=>h)) hG2 zL (λI3 X3 w3 hI3 hG3=>?_);unfold Tm;try refine zqe ?_
 refine rdb ?_;try refine zqe ?_
 have hI13:=zAB hI1 hI3;refine AMc (X:=X3) (zAI (λ_ _ h=>TSourceV.mono h hI13) h1 hI13 (λ_ h=>h)) hG3 (by simp only [zU,zaU];omega) (λI4 X4 w4 hI4 hG4=>?_);unfold Ti;try refine zqe ?_
 refine rdb ?_;try refine zqe ?_
 have hI14:=zAB hI13 hI4;refine AMb (X:=X4) (zAI (λ_ _ h=>TOrderV.mono h hI14) h5 hI14 (λ_ h=>h)) hG4 (by simp only [zU,zaU];omega) (λI5 X5 w5 hI5 hG5=>?_);unfold Tc;try refine zqe ?_
 refine rdb ?_;try refine zqe ?_
 have hI15:=zAB hI14 hI5;refine AIj (X:=X5) (zAI (λ_ _ h=>LstX.mono h hI15) h7 hI15 (λ_ h=>h)) zo hG5 (by simp only [zU,zaU];omega) (λI6 X6 w6 hI6 hG6=>?_);unfold PM;try refine zqe ?_
 refine rdb ?_;try refine zqe ?_
 have hI16:=zAB hI15 hI6;refine AIi (X:=X6) (zAI (λ_ _ h=>TSetV.mono h hI16) h8 hI16 (λ_ h=>h)) hG6 (by simp only [zU,zaU];omega) (λI7 X7 w7 hI7 hG7=>?_);unfold PK;try refine zqe ?_
 refine rdb ?_;try refine zqe ?_
 have hI17:=zAB hI16 hI7;refine AIh (X:=X7) (zAI (λ_ _ h=>TColV.mono h hI17) h10 hI17 (λ_ h=>h)) hG7 (by simp only [zU,zaU];omega) (λI8 X8 w8 hI8 hG8=>?_);have hI18:=zAB hI17 hI8;have hA:([s.fWhere,s.fSelect.fWhere,s.fSelect.fHaving]++s.fSelect.fGroup++s.fSelect.fItems.map (λy=>y.fExpr)++s.fSelect.fFrom.map (λy=>y.fOn)++s.fSelect.fOrder.map (λy=>y.fExpr)++s.fRows.flatten++s.fSets.map (λy=>y.fExpr)++s.fCols.map (λy=>y.fDefault))=AHQ s:=rfl;rw [hA] at hG8;have hlen:(AHQ s).length≤1000000000000:=by simp only [←hA,zU,zaU];omega
 obtain ⟨q1,q2⟩:=Yd s;refine AIg hG8 hp hd (by rw [q1];exact hpx) hlen ?_;rw [q1,q2];exact zAA (hk I8 hI18)
end
theorem Vb {l:List TStmt}{k:Nat}(h:k < l.length):BG (l.take (k+1))=BG (l.take k)+Jz l[k]:=by
 rw [zf h];simp only [BG,zaa,zaR,zF,zal,zae,zaA,Nat.add_zero]
theorem SI:∀a b:List TStmt,Du (a++b)=max (Du a) (Du b)
 |[],b=>by simp [Du]
 |x::a,b=>by simp only [zah,Du,SI a b];omega
theorem YM {l:List TStmt}{k:Nat}(h:k < l.length):Du (l.take (k+1))=max (Du (l.take k)) (AFy l[k]):=by
 rw [zf h,SI];simp [Du]
theorem ABt {l:List TStmt}(k:Nat):BG (l.take k)≤BG l:=by
 have h:BG l=BG (l.take k)+BG (l.drop k):=by
  unfold BG;rw [←zaR,←zaa,zZ]
 omega
theorem Pj:∀l:List TStmt,l.length≤BG l
 |[]=>zao _
 |s::l=>by
  have:=Pj l;simp only [BG,zF,zae,zi,Jz] at this ⊢;omega
section
variable {ω:Om}
theorem ABe {I:Imm}{L:LH}{K:Value→M}{v:Value}{l:List TStmt}(hl:RL TStmtV 51 I [] v l)(hp:BG l≤1000000000)(hc:∀s∈l,cS s≤1000000000)
  (hk:∀I',Ext I I'→K (.tuple #[.int .i64 (BG l:Nat),.int .i64 (Du l:Nat)]) I' L):CT ω 156 #[v] K I L:=by
 refine AOP ?_;unfold AKX;simp only [zAK hl,SSd,Nat.reduceAdd];refine Ap (λb1=>?_);refine Ap (λb2=>?_);refine st1 rfl ?_;refine st1 rfl ?_;have hlen:=Pj l;refine loop (λq st I' L'=>∃k:Nat,k+q=l.length∧st=(.int .i64 k,())∧Ext I I'∧L'=(b2,DR (Du (l.take k)))::(b1,DR (BG (l.take k)+(l.length - k)))::L) l.length ⟨0,by omega,rfl,zAC _,?_⟩ ?_
 ·rw [show ((BG (l.take 0):Nat):Int)+((l.length:Int) - (0:Nat))=l.length by simp [BG]];rfl
 rintro q st I' L' ⟨k,hkq,rfl,hI',rfl⟩;unfold AAH;try refine zqe ?_
 refine AL (λhb=>?_) (λhb=>?_)
 ·have hb:k < l.length:=by
   have:=of_decide_eq_true hb;omega
  obtain ⟨bt,off,c1,g1,gl,g2,g3⟩:=RL.ix hl (i:=k) zo zo;rw [BA hb] at g2;have g2:=g2.mono hI';have hone:=TStmtV.one g2;simp only [g1,SSd,Nat.reduceAdd];refine UH (g3 _ [] hI' (λ_ h=>h)) (zAC _) gl ?_;refine Ap (λb3=>?_);refine stB gl rfl hone ?_;refine rdB gl ?_;refine call ?_;have hcs:=hc _ (zar hb);have hpk:=Vb hb;have hdk:=YM hb;have hle:=ABt (l:=l) (k+1);have e1:Jz l[k]=Aa (FH l[k])+1:=rfl;refine Cal.to ((b1,DR (BG (l.take k)+(l.length - k)))::(b2,DR (Du (l.take k)))::L) ?_;refine ACX g2 hcs zo zo zo (λI2 hI2=>?_);simp only [wrap_i64 ((k:Int)+1) zo,SSd,Nat.reduceAdd];rw [show (BG (l.take k):Int)+((l.length:Int) - k)+Aa (FH l[k])=BG (l.take (k+1))+((l.length:Int) - (k+1:Nat)) by omega,show max (Du (l.take k):Int) (Bz (FH l[k]))=Du (l.take (k+1)) by rw [hdk];simp only [AFy];omega];exact zAE ((b2,DR (Du (l.take (k+1))))::(b1,DR (BG (l.take (k+1))+(l.length - (k+1:Nat))))::L) (zAA ⟨q - 1,by omega,k+1,by omega,rfl,zAB hI' hI2,rfl⟩)
 ·have hb:¬k < l.length:=by
   have:=of_decide_eq_false hb;omega
  have hkl:l.take k=l:=zW zo;rw [hkl,show (BG l:Int)+((l.length:Int) - k)=BG l by omega];unfold AAG;repeat' (first|refine zqa ?_|refine zqh (λ_=>?_)|refine zqr ?_|refine zqb ?_|refine zqi ?_ ?_|refine zqc ?_|refine zqg (λ_=>?_) (λ_=>?_)|refine zqe ?_|fail)
  exact zAE _ (zAA (hk I' hI'))
theorem AFe:Qv ω:=by
 intro v l K I L hl hp hc hk;refine AOc ?_;unfold AKj;refine call (ABe hl hp hc (λI' hI'=>?_));have hk:=hk I' hI';unfold UR at hk;try refine zqe ?_
 refine AL (λhb=>?_) (λhb=>?_)
 ·have hb:=of_decide_eq_true hb;rw [if_pos zo] at hk;exact zAA hk
 ·have hb:=of_decide_eq_false hb;rw [if_neg zo] at hk;try refine zqe ?_
  refine AL (λhb2=>?_) (λhb2=>?_)
  ·have hb2:=of_decide_eq_true hb2;rw [if_pos zo] at hk;exact zAA hk
  ·have hb2:=of_decide_eq_false hb2;rw [if_neg zo] at hk;exact zAA hk
end
end Go.Proofs.YthkaekjoemhjaaaGreatDoor
