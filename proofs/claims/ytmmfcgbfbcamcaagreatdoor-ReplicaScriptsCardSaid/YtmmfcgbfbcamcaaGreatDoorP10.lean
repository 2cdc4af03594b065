/-
  Lemmas, part 10: laid together by a program.
-/
import Derived.Test.YtmmfcgbfbcamcaaGreatDoorP9
set_option maxRecDepth 100000
set_option linter.unusedVariables false
set_option linter.unusedSimpArgs false
set_option linter.unusedSectionVars false
namespace Go.Proofs.YtmmfcgbfbcamcaaGreatDoor
open Go.SL
section
variable {ω:Om}{I:Imm}{L:LH}{K:Value→M}
theorem Kd {g:TGot}{v w:Value}(hv:Bytes I v g.fValue)(hw:Bytes I w g.fValue)(hk:K (.bool true) I L):CT ω 54 #[gvV g v,gvV g w] K I L:=by
 obtain ⟨va,vc,rfl⟩:=Bytes.form hv;obtain ⟨wa,wc,rfl⟩:=Bytes.form hw;refine AKI ?_;unfold sh54;repeat' (first|(with_reducible first|refine AK ?_|refine AX ?_|refine AY ?_|refine keepA ?_|refine AM (fun _=>?_)|refine EG hv (Ext.refl _) ?_|refine EG hw (Ext.refl _) ?_|refine rdb ?_)|((with_reducible first|refine st1 ?_ ?_|refine rdB ?_ ?_);rfl)|(with_reducible refine AV ?_)|((with_reducible refine Ae ?_ ?_);rfl)|((with_reducible refine stB ?_ ?_ ?_ ?_);rfl;rfl;exact AE rfl)|((with_reducible first|refine rdP _ rfl ?_ ?_|refine Af _ rfl ?_ ?_);rfl)|((with_reducible refine stP _ rfl ?_ ?_ ?_ ?_);rfl;rfl;rfl)|(with_reducible first|refine AO (sh54.eq_1 ..) ?_|refine And.intro ?_ ?_)|(simp only [SSg,Int.reduceBEq,Int.reduceBNe,Int.reduceLT,Int.reduceLE,beq_self_eq_true,bne_self_eq_false])|(with_reducible first|refine AH (fun _=>?_) (fun _=>?_)|refine AD (fun _=>?_) (fun _=>?_))|(simp only [SSd,Nat.reduceAdd,sEq,beq_self_eq_true,Bool.and_self]))
 all_goals exact Gh.to L (Gh.done hk)
theorem JY {L0:LH}[LSub L0 L]{a:List TKV}{v w:Value}(ha:RL TKVV 2 I L0 v a)(hb:RL TKVV 2 I L0 w a)(hl:a.length≤1000000000)(hk:K (.bool true) I L):CT ω 55 #[v,w] K I L:=by
 refine AKH ?_;unfold AGS;simp only [RL.len ha,RL.len hb,SSd,Nat.reduceAdd];refine AD (fun e=>?_) (fun e=>?_)
 ·simp at e
 refine loop (fun n s I' L'=>I'=I∧L'=L∧∃i:Nat,n+i=a.length∧s=(.bool false,.int .i64 i,())) a.length ⟨rfl,rfl,0,rfl,rfl⟩ ?_;rintro n s I' L' ⟨rfl,rfl,i,hni,rfl⟩;unfold WF;simp only [RL.len ha,SSd,Nat.reduceAdd];refine AD (fun e2=>?_) (fun e2=>Gh.done hk);have hi:i < a.length:=by simpa using e2
 obtain ⟨q,off,c,hix,hcl,hc,hcc⟩:=RL.ix ha (i:=(i:Int)) (by omega) (by omega);obtain ⟨q2,off2,c2,hix2,hcl2,hc2,hcc2⟩:=RL.ix hb (i:=(i:Int)) (by omega) (by omega);rw [Ab hi] at hc hc2;generalize a[i]=x at *;obtain ⟨w0,w1,rfl,g0,g1⟩:=hc;obtain ⟨u0,u1,rfl,f0,f1⟩:=hc2;have hcv:=hcc I' L0 (Ext.refl _) (fun _ h=>h);have hcu:=hcc2 I' L0 (Ext.refl _) (fun _ h=>h);refine AK ?_;simp only [hix,SSd,Nat.reduceAdd];refine Aq (hcv 0 _ rfl) (Ext.refl _) ?_;refine BS g0 (Ext.refl _) ?_;simp only [hix2,SSd,Nat.reduceAdd];refine Aq (hcu 0 _ rfl) (Ext.refl _) ?_;refine BS f0 (Ext.refl _) ?_;simp only [sNe,SSd,Nat.reduceAdd];refine AH (fun e3=>?_) (fun e3=>?_);rotate_left
 ·simp at e3
 try simp only [SSd,Nat.reduceAdd]
 refine Aq (hcv 1 _ rfl) (Ext.refl _) ?_;refine BS g1 (Ext.refl _) ?_;try simp only [SSd,Nat.reduceAdd]
 refine Aq (hcu 1 _ rfl) (Ext.refl _) ?_;refine BS f1 (Ext.refl _) ?_;simp only [sNe,SSd,Nat.reduceAdd];refine AD (fun e4=>?_) (fun e4=>?_)
 ·simp at e4
 try simp only [SSd,Nat.reduceAdd]
 rw [wrap_i64 _ (by omega)];exact Gh.done ⟨n - 1,by omega,rfl,rfl,i+1,by omega,rfl⟩
theorem Kc {r:TRes}{ca cb:List Value}(h:TResV I r ca)(h':TResV I r cb)(hl:r.fRows.length≤1000000000)(hk:K (.bool true) I L):CT ω 17 #[.agg ca.toArray,.agg cb.toArray] K I L:=by
 obtain ⟨v0,v1,rfl,g0,g1⟩:=h;obtain ⟨w0,w1,rfl,f0,f1⟩:=h';obtain ⟨a0,c0,rfl⟩:=Bytes.form g0;obtain ⟨a1,c1,rfl⟩:=Bytes.form f0;obtain ⟨a2,c2,rfl⟩:=RL.form g1;obtain ⟨a3,c3,rfl⟩:=RL.form f1;refine AKb ?_;unfold sh17;repeat' (first|(with_reducible first|refine AK ?_|refine AX ?_|refine AY ?_|refine keepA ?_|refine AM (fun _=>?_))|((with_reducible refine call ?_);with_reducible refine Kd (g:=r.fGot) g0 f0 ?_)|((with_reducible refine call ?_);with_reducible refine JY g1 f1 hl ?_)|(with_reducible refine rdb ?_)|((with_reducible first|refine st1 ?_ ?_|refine rdB ?_ ?_);rfl)|(with_reducible refine AV ?_)|((with_reducible refine Ae ?_ ?_);rfl)|((with_reducible refine stB ?_ ?_ ?_ ?_);rfl;rfl;exact AE rfl)|((with_reducible first|refine rdP _ rfl ?_ ?_|refine Af _ rfl ?_ ?_);rfl)|((with_reducible refine stP _ rfl ?_ ?_ ?_ ?_);rfl;rfl;rfl)|(with_reducible first|refine AO (sh17.eq_1 ..) ?_|refine And.intro ?_ ?_)|(simp only [SSg,Int.reduceBEq,Int.reduceBNe,Int.reduceLT,Int.reduceLE,beq_self_eq_true,bne_self_eq_false])|(with_reducible first|refine AH (fun _=>?_) (fun _=>?_)|refine AD (fun _=>?_) (fun _=>?_))|(simp only [SSd,Nat.reduceAdd,beq_self_eq_true,Bool.and_self]))
 all_goals exact Gh.to L (Gh.done hk)
end
theorem Ug {W:World}{v:Value}(h:TrR reachBytes Tryz.prog W 60 [v]):∃cs:List TCmd,RL TCmdV 15 (Eo W) [] v cs∧(∀c∈cs,Lens c)∧cs.length≤900000000000:=by
 obtain ⟨cells,xs,hS,hRR,hlen⟩:=Nb (R:=fun x c=>ADM reachBytes x∧TCmdV (Eo W) x c) Tryz.underlying60 (by rw [Ry];omega) h (fun c hc=>Vt hc);rw [Ry] at hS hRR;rw [AIz] at hlen;have e:reachBytes=140737488351232:=by rfl
 exact ⟨xs,RL.ofI hS (hRR.imp fun _ _ h=>h.2),fun c hc=>AFG (PR (fun _ _ h=>h.1) hRR c hc),by omega⟩
section
variable {ω:Om}{I:Imm}{L:LH}{K:Value→M}
theorem JZ {L0:LH}[LSub L0 L]{a:List TIntent}{v w:Value}(ha:RL TIntentV 6 I L0 v a)(hb:RL TIntentV 6 I L0 w a)(hl:a.length≤1000000000)(hk:K (.bool true) I L):CT ω 59 #[v,w] K I L:=by
 refine AKD ?_;unfold AGO;have en:(((a.length:Nat):Int) != (a.length:Nat))=false:=by simp
 simp only [RL.len ha,RL.len hb,en,SSd,Nat.reduceAdd];refine loop (fun n s I' L'=>I'=I∧L'=L∧∃i:Nat,n+i=a.length∧s=(.bool false,.int .i64 i,())) a.length ⟨rfl,rfl,0,rfl,rfl⟩ ?_;rintro n s I' L' ⟨rfl,rfl,i,hni,rfl⟩;unfold WE;simp only [RL.len ha,SSd,Nat.reduceAdd];refine AD (fun e2=>?_) (fun e2=>Gh.done hk);have hi:i < a.length:=by simpa using e2
 obtain ⟨q,off,c,hix,hcl,hc,hcc⟩:=RL.ix ha (i:=(i:Int)) (by omega) (by omega);obtain ⟨q2,off2,c2,hix2,hcl2,hc2,hcc2⟩:=RL.ix hb (i:=(i:Int)) (by omega) (by omega);rw [Ab hi] at hc hc2;generalize a[i]=x at *;obtain ⟨w0,w1,rfl,g0,g1⟩:=hc;obtain ⟨u0,u1,rfl,f0,f1⟩:=hc2;have hcv:=hcc I' L0 (Ext.refl _) (fun _ h=>h);have hcu:=hcc2 I' L0 (Ext.refl _) (fun _ h=>h);have hs1:Cells I' L0 q (off+2) [.int .i64 x.fAt.fWall,.int .i64 x.fAt.fLogic]:=by simpa using hcv.sub (k:=2) (m:=2)
 have hs2:Cells I' L0 q2 (off2+2) [.int .i64 x.fAt.fWall,.int .i64 x.fAt.fLogic]:=by simpa using hcu.sub (k:=2) (m:=2)
 refine AK ?_;simp only [hix,SSd,Nat.reduceAdd];refine Aq (hcv 0 _ rfl) (Ext.refl _) ?_;refine BS g0 (Ext.refl _) ?_;simp only [hix2,SSd,Nat.reduceAdd];refine Aq (hcu 0 _ rfl) (Ext.refl _) ?_;refine BS f0 (Ext.refl _) ?_;simp only [sNe,beq_self_eq_true,Bool.not_true,SSd,Nat.reduceAdd];refine Aq (hcv 1 _ rfl) (Ext.refl _) ?_;try simp only [SSd,Nat.reduceAdd]
 refine Aq (hcu 1 _ rfl) (Ext.refl _) ?_;simp only [bne_self_eq_false,SSd,Nat.reduceAdd];refine BX hs1 (Ext.refl _) rfl ?_;try simp only [SSd,Nat.reduceAdd]
 refine BX hs2 (Ext.refl _) rfl ?_;simp only [beq_self_eq_true,Bool.and_self,Bool.not_true,SSd,Nat.reduceAdd];refine Aq (hcv 4 _ rfl) (Ext.refl _) ?_;try simp only [SSd,Nat.reduceAdd]
 refine Aq (hcu 4 _ rfl) (Ext.refl _) ?_;simp only [beq_self_eq_true,Bool.not_true,SSd,Nat.reduceAdd];refine Aq (hcv 5 _ rfl) (Ext.refl _) ?_;refine BS g1 (Ext.refl _) ?_;try simp only [SSd,Nat.reduceAdd]
 refine Aq (hcu 5 _ rfl) (Ext.refl _) ?_;refine BS f1 (Ext.refl _) ?_;simp only [sNe,beq_self_eq_true,Bool.not_true,SSd,Nat.reduceAdd];rw [wrap_i64 _ (by omega)];exact Gh.done ⟨n - 1,by omega,rfl,rfl,i+1,by omega,rfl⟩
end
section
variable {ω:Om}{I:Imm}{K:Value→M}{b s br N:Nat}{VM:MV}{V:RV}{m:Mch}{R SX F:LH}
theorem RS (hF:MF I VM m)(hs:CB m.span=true)(hk:∀I' a0 c0 a1 c1,Ext I I'→Bytes I' (.slice a0 m.span.fFrom.length c0) m.span.fFrom→Bytes I' (.slice a1 m.span.fTo.length c1) m.span.fTo→K (.agg #[.slice a0 m.span.fFrom.length c0,.slice a1 m.span.fTo.length c1]) I' (mL b s VM m R)):
  CT ω 56 #[pt b] K I (mL b s VM m R):=by
 simp only [CB,Bool.and_eq_true,decide_eq_true_eq] at hs;refine AKG ?_;unfold AGR;refine AM (fun q=>?_);refine AK ?_;try simp only [SSd,Nat.reduceAdd]
 refine AV ?_;refine call (EF hF.f0 (by omega) (fun a0 c0 I1 hI1 hB0=>?_));refine Bv hI1 ?_;try simp only [SSd,Nat.reduceAdd]
 refine AV ?_;refine call (EF (hF.f1.mono hI1) (by omega) (fun a1 c1 I2 hI2 hB1=>?_));try simp only [SSd,Nat.reduceAdd]
 refine stB rfl rfl (AE rfl) ?_;refine rdB rfl ?_;exact Gh.to (mL b s VM m R) (Gh.done (hk I2 a0 c0 a1 c1 (hI1.trans hI2) (hB0.mono hI2) hB1))
theorem ML (hV:SD I (mL b s VM m R) s m.sp)(hs:SrtK (keysOf m.sp.rows))(hlen:m.sp.rows.length≤1000000000)(hk:∀I' v,Ext I I'→RL TIntentV 6 I' [] v (intsOf m.sp.rows)→K v I' (mL b s VM m R)):
  CT ω 57 #[pt b] K I (mL b s VM m R):=by
 refine AKF ?_;unfold AGQ;try simp only [SSd,Nat.reduceAdd]
 refine rdb ?_;refine call (Hy hV hs hlen (fun I' v hI hv=>?_));exact Gh.done (hk I' v hI hv)
theorem MK (hF:MF I VM m)(hs:SrtA ilt m.recs)(hk:K (.int .i64 m.recs.length) I (mL b s VM m R)):
  CT ω 58 #[pt b] K I (mL b s VM m R):=by
 refine AKE ?_;unfold AGP;try simp only [SSd,Nat.reduceAdd]
 refine rdb ?_;refine Tx ?_;rw [hF.rcs.sizeA hs];exact Gh.done hk
theorem OM {n:Int}(hF:MF I VM m)(hk:K (.tuple #[.int .i64 (recAt m n).fState,sv (recAt m n).fAt]) I (mL b s VM m R)):
  CT ω 60 #[pt b,.int .i64 n] K I (mL b s VM m R):=by
 refine AKC ?_;unfold AGN;refine AM (fun q1=>?_);try simp only [SSd,Nat.reduceAdd]
 refine rdb ?_;refine lkI hF.rcs ?_;rw [Ko];refine AM (fun q2=>?_);refine stB rfl rfl (AE rfl) ?_;refine AK ?_;try simp only [SSd,Nat.reduceAdd]
 refine AV ?_;try simp only [SSd,Nat.reduceAdd]
 refine Af [.int .i64 (recAt m n).fAt.fWall,.int .i64 (recAt m n).fAt.fLogic] rfl rfl ?_;refine stB rfl rfl (AE rfl) ?_;refine rdB rfl ?_;exact Gh.to (mL b s VM m R) (Gh.done hk)
theorem PI (hF:MF I VM m)(hS:SpR I s SX m.sp m.nt)(hR:RF14 I V m)(hM:MOk m N)(hN:N≤10000)(hk:∀I',Ext I I'→K (.bool true) I' (mL b s VM m (SX++rL br V m F))):
  CT ω 18 #[pt b,pt br] K I (mL b s VM m (SX++rL br V m F)):=by
 have hrw:=hM.rows;have hrl:=hM.recsL;refine AKa ?_;unfold AGb;refine call (RS hF hM.span (fun I1 a0 c0 a1 c1 hI1 hB0 hB1=>?_));refine AM (fun q=>?_);refine stB rfl rfl (AE rfl) ?_;refine call (Cal.perm (L':=mL b s VM m ((q,.cells #[.slice a0 m.span.fFrom.length c0,.slice a1 m.span.fTo.length c1] 31 (0,0))::(SX++rL br V m F))) (AQ (by ((try simp only [AN,AP,Aa,AR]);(try ac_rfl)))) (ML ((hS.mono hI1).view (fun x hx=>by simp [hx])) hM.sp.rise (by omega) (fun I2 v hI2 hv=>?_)));have t2:=hI1.trans hI2;refine call (MK (hF.mono t2) hM.recs ?_);try simp only [SSd,Nat.reduceAdd]
 refine rdb ?_;try simp only [SSd,Nat.reduceAdd]
 refine rdb ?_;have hin:=Hx m.sp.rows;refine call (JZ (L0:=[]) hv (hR.mono t2).is (by omega) ?_);have g0:=(hR.mono t2).f0;have g1:=(hR.mono t2).f1;have hrl2:=(hR.mono t2).rl;refine AK ?_;try simp only [SSd,Nat.reduceAdd]
 refine AV ?_;refine BS (hB0.mono hI2) (Ext.refl _) ?_;try simp only [SSd,Nat.reduceAdd]
 refine AV ?_;refine BS g0 (Ext.refl _) ?_;simp only [sNe,beq_self_eq_true,Bool.not_true,SSd,Nat.reduceAdd];refine AV ?_;refine BS (hB1.mono hI2) (Ext.refl _) ?_;try simp only [SSd,Nat.reduceAdd]
 refine AV ?_;refine BS g1 (Ext.refl _) ?_;simp only [sNe,beq_self_eq_true,Bool.not_true,SSd,Nat.reduceAdd];refine AV ?_;simp only [RL.len hrl2,bne_self_eq_false,SSd,Nat.reduceAdd];refine loop (fun n (st:Value×Value×Unit) I' L'=>I'=I2∧L'=mL b s VM m ((q,.cells #[.slice a0 m.span.fFrom.length c0,.slice a1 m.span.fTo.length c1] 31 (0,0))::(SX++rL br V m F))∧∃i:Nat,n+i=m.recs.length∧st=(.bool false,.int .i64 i,())) m.recs.length ⟨rfl,rfl,0,rfl,rfl⟩ ?_;rintro n st I' L' ⟨rfl,rfl,i,hni,rfl⟩;unfold Xn;try simp only [SSd,Nat.reduceAdd]
 refine rdb ?_;simp only [RL.len hrl2,SSd,Nat.reduceAdd];refine AD (fun e=>?_) (fun e=>?_)
 ·have hi:i < m.recs.length:=by simpa using e
  obtain ⟨q',off,d,hix,hcl,hd,hcc⟩:=RL.ix hrl2 (i:=(i:Int)) (by omega) (by omega);rw [Ab hi] at hd;have hat:recAt m m.recs[i].1=m.recs[i].2:=GG (FD LS hM.recs (List.getElem_mem hi));generalize m.recs[i]=x at *;obtain rfl:=hd;have hcv:=hcc I' V.XR (Ext.refl _) (fun _ h=>h);have hat2:Cells I' V.XR q' (off+2) [.int .i64 x.2.fAt.fWall,.int .i64 x.2.fAt.fLogic]:=by simpa using hcv.sub (k:=2) (m:=2)
  try simp only [SSd,Nat.reduceAdd]
  refine rdb ?_;simp only [hix,SSd,Nat.reduceAdd];refine rdC (hcv 0 _ rfl) (Ext.refl _) ?_;refine call (OM (hF.mono t2) ?_);rw [hat];try simp only [SSd,Nat.reduceAdd]
  refine AM (fun q5=>?_);refine stB rfl rfl (AE rfl) ?_;refine AK ?_;try simp only [SSd,Nat.reduceAdd]
  refine AV ?_;simp only [hix,SSd,Nat.reduceAdd];refine Aq (hcv 1 _ rfl) (Ext.refl _) ?_;simp only [bne_self_eq_false,SSd,Nat.reduceAdd];refine Ae rfl ?_;try simp only [SSd,Nat.reduceAdd]
  refine AV ?_;simp only [hix,SSd,Nat.reduceAdd];refine BX hat2 (Ext.refl _) rfl ?_;simp only [Jg,beq_self_eq_true,Bool.and_self,Bool.not_true,SSd,Nat.reduceAdd];rw [wrap_i64 _ (by omega)];exact Gh.to (mL b s VM m ((q,.cells #[.slice a0 m.span.fFrom.length c0,.slice a1 m.span.fTo.length c1] 31 (0,0))::(SX++rL br V m F))) (Gh.done ⟨n - 1,by omega,rfl,rfl,i+1,by omega,rfl⟩)
 ·exact Gh.to (mL b s VM m (SX++rL br V m F)) (Gh.done (hk I' t2))
end
theorem Kq {br:Nat}{V:RV}{m:Mch}{R:LH}:rL br V m R=rL br V m []++R:=by simp [rL]
def OptM (I:Imm)(v:Value)(X:LH)(o:Option Mch):Prop:=match o with
 |none=>v= .pointer none∧X=[]
 |some m=>∃b,v=pt b∧MchR I b X m
def ADO (I:Imm)(v:Value)(X:LH)(o:Option Mch):Prop:=match o with
 |none=>v= .pointer none∧X=[]
 |some m=>∃b,v=pt b∧R14 I b X m
theorem OptM.mono {I I':Imm}{v:Value}{X:LH}{o:Option Mch}(h:OptM I v X o)(hI:Ext I I'):OptM I' v X o:=by
 cases o with
 |none=>exact h
 |some m=>obtain ⟨b,h1,h2⟩:=h;exact ⟨b,h1,h2.mono hI⟩
section
variable {ω:Om}{I:Imm}{L:LH}{K:Value→M}{b br N:Nat}{m:Mch}{X Y F:LH}{c:TCmd}{cc:List Value}
theorem JD (hM:MOk m N)(hN:N≤5000)(hX:MchR I b X m)(hc:TCmdV I c cc)(hL:Lens c)
  (hk:∀I' X' X2 pv cells,Ext I I'→MchR I' b X' (BQ m c).2.1→TResV I' (BQ m c).1 cells→OptM I' pv X2 (BQ m c).2.2→K (.tuple #[.agg cells.toArray,pv]) I' (X'++(X2++F))):
  CT ω 12 #[pt b,.agg cc.toArray] K I (X++F):=
 HW hM hN hX hc hL (fun _=>AJM) (fun _=>AGF) (fun I' X' cells hI hM' hr=>
  ⟨fun hn=>hk I' X' [] _ cells hI hM' hr (by rw [hn];exact ⟨rfl,rfl⟩),fun m2 b2 X2 hm hX2=>hk I' X' X2 _ cells hI hM' hr (by rw [hm];exact ⟨b2,rfl,hX2⟩)⟩)
theorem Ht (hM:MOk m N)(hN:N≤5000)(hY:R14 I br Y m)(hc:TCmdV I c cc)
  (hk:∀I' Y' Y2 pv cells,Ext I I'→R14 I' br Y' (BQ m c).2.1→TResV I' (BQ m c).1 cells→ADO I' pv Y2 (BQ m c).2.2→K (.tuple #[.agg cells.toArray,pv]) I' (Y'++(Y2++F))):
  CT ω 16 #[pt br,.agg cc.toArray] K I (Y++F):=by
 obtain ⟨V,hp,hF⟩:=hY;refine Cal.perm (L':=rL br V m F) (by rw [Kq];exact List.Perm.append_right F hp) (MJ hF hM hN hc (fun I' V' cells hI hF' hr=>⟨fun hn=>?_,fun m2 b2 V2 hm hF2=>?_⟩))
 ·have:=hk I' (rL br V' (BQ m c).2.1 []) [] (.pointer none) cells hI ⟨V',List.Perm.refl _,hF'⟩ hr (by rw [hn];exact ⟨rfl,rfl⟩);rw [Kq];exact this
 ·have:=hk I' (rL br V' (BQ m c).2.1 []) (rL b2 V2 m2 []) (pt b2) cells hI ⟨V',List.Perm.refl _,hF'⟩ hr (by rw [hm];exact ⟨b2,rfl,V2,List.Perm.refl _,hF2⟩);rw [Kq,Kq (br:=b2)];exact this
theorem Ke (hX:MchR I b X m)(hY:R14 I br Y m)(hM:MOk m N)(hN:N≤10000)(hk:∀I',Ext I I'→K (.bool true) I' (X++(Y++F))):
  CT ω 18 #[pt b,pt br] K I (X++(Y++F)):=by
 obtain ⟨s,VM,SX,hp,hF,hS⟩:=hX;obtain ⟨V,hq,hR⟩:=hY;have e:(X++(Y++F)).Perm (mL b s VM m (SX++rL br V m F)):=AQ (by rw [Kq];simp only [AP,BH hp,BH hq];((try simp only [AN,AP,Aa,AR]);(try ac_rfl)));exact Cal.gh (Cal.perm e (PI hF hS hR hM hN (fun I' hI=>Gh.perm e.symm (Gh.done (hk I' hI)))))
theorem JA {p:TSpan}{pc:List Value}(hp:TSpanV I p pc)(h0:CB p=false→K (.tuple #[.pointer none,.int .i64 1]) I L)
  (hk:CB p=true→∀b X,R14 I b X (FR p)→K (.tuple #[pt b,.int .i64 0]) I (X++L)):CT ω 15 #[.agg pc.toArray] K I L:=by
 have hp':=hp;obtain ⟨v0,v1,rfl,g0,g1⟩:=hp;obtain ⟨a0,c0,rfl⟩:=Bytes.form g0;obtain ⟨a1,c1,rfl⟩:=Bytes.form g1;refine AKd ?_;unfold AGd;refine AM (fun q=>?_);refine rdB rfl ?_;refine call (Hq (p:=p) hp' ?_);try simp only [SSd,Nat.reduceAdd]
 refine AD (fun e=>?_) (fun e=>?_)
 ·exact Gh.to L (Gh.done (h0 (by simpa using e)))
 ·refine rdB rfl ?_;try simp only [SSd,Nat.reduceAdd]
  refine AM (fun bs=>?_);try simp only [SSd,Nat.reduceAdd]
  refine AM (fun br=>?_);refine Gh.to ((br,Kr (.slice a0 p.fFrom.length c0) (.slice a1 p.fTo.length c1) bs (.slice none 0 0) mk0 (.slice none 0 0) (.slice none 0 0) 0)::(bs,BC (.slice none 0 0) (.slice none 0 0) ⟨0,0⟩)::L) (Gh.done ?_);exact hk (by simpa using e) br [_,_] ⟨⟨bs,.slice a0 p.fFrom.length c0,.slice a1 p.fTo.length c1,.slice none 0 0,.slice none 0 0,.slice none 0 0,[],[],.slice none 0 0,[],[],.slice none 0 0⟩,List.Perm.refl _,⟨g0,g1,SlO.none _ _,rfl,SlO.none _ _,rfl,RL.nil _ _,RL.nil _ _,RL.nil _ _⟩⟩
end
abbrev Pr:Type:=Nat×Nat×Mch
instance:Inhabited Mch:=⟨FR ⟨[],[]⟩⟩
def PairR (I:Imm)(p:Pr)(X:LH):Prop:=∃Xa Ya,X=Xa++Ya∧MchR I p.1 Xa p.2.2∧R14 I p.2.1 Ya p.2.2
theorem PairR.mono {I I':Imm}{p:Pr}{X:LH}(h:PairR I p X)(hI:Ext I I'):PairR I' p X:=by
 obtain ⟨Xa,Ya,h0,h1,h2⟩:=h;exact ⟨Xa,Ya,h0,h1.mono hI,h2.mono hI⟩
def PsR (I:Imm):List Pr→LH→Prop
 |[],X=>X=[]
 |p::ps,X=>∃Y Z,PairR I p Y∧PsR I ps Z∧X.Perm (Y++Z)
theorem PsR.mono {I I':Imm}(hI:Ext I I'):∀{ps:List Pr} {X:LH},PsR I ps X→PsR I' ps X
 |[],_,h=>h
 |p::ps,X,⟨Y,Z,h1,h2,h3⟩=>⟨Y,Z,h1.mono hI,PsR.mono hI h2,h3⟩
theorem PsR.pick {I:Imm}:∀{ps:List Pr} {X:LH} {k:Nat} (hk:k < ps.length),PsR I ps X→∃Y Z,PairR I ps[k] Y∧X.Perm (Y++Z)∧(∀I' p' Y',Ext I I'→PairR I' p' Y'→PsR I' (ps.set k p') (Y'++Z))
 |p::ps,X,0,_,⟨Y,Z,h1,h2,h3⟩=>⟨Y,Z,h1,h3,fun I' p' Y' hI hp=>⟨Y',Z,hp,PsR.mono hI h2,List.Perm.refl _⟩⟩
 |p::ps,X,k+1,hk,⟨Y,Z,h1,h2,h3⟩=>by
  obtain ⟨A,B,g1,g2,g3⟩:=PsR.pick (k:=k) (by simpa using hk) h2;refine ⟨A,Y++B,g1,AQ (by simp only [AP,BH h3,BH g2];((try simp only [AN,AP,Aa,AR]);(try ac_rfl))),fun I' p' Y' hI hp=>?_⟩;exact ⟨Y,Y'++B,h1.mono hI,g3 I' p' Y' hI hp,AQ (by ((try simp only [AN,AP,Aa,AR]);(try ac_rfl)))⟩
theorem PsR.snoc {I:Imm}{p:Pr}{Y:LH}(hp:PairR I p Y):∀{ps:List Pr} {X:LH},PsR I ps X→PsR I (ps++[p]) (X++Y)
 |[],X,h=>by
  rw [show X=[] from h];exact ⟨Y,[],hp,rfl,by simp⟩
 |q::ps,X,⟨A,B,h1,h2,h3⟩=>⟨A,B++Y,h1,PsR.snoc hp h2,by rw [←List.append_assoc];exact List.Perm.append_right Y h3⟩
def PA (_:Imm)(p:Pr)(c:List Value):Prop:=c=[pt p.1]
def PB (_:Imm)(p:Pr)(c:List Value):Prop:=c=[pt p.2.1]
theorem Gk {α:Type}{R:Imm→α→List Value→Prop}{I:Imm}{K:Value→M}{T bytes:Nat}{z:Array Value}{X6 L0 F:LH}{v w:Value}{xs:List α}{x:α}{cells:List Value}[hsp:SplitL X6 L0 F](hz:z.size=1)(h6:SlO T 1 X6 v cells xs.length)(hR:Recs (R I) 1 xs cells)(hx:R I x [w])(hw:w.cells=#[w])(h1:w.oneCell'=true)(hb:(xs.length+1) * bytes≤150000000000000)(hl:xs.length+1≤150000000000000)
  (hk:∀X1 X6' v' cells',SlO T 1 X6' v' cells' (xs++[x]).length→Recs (R I) 1 (xs++[x]) cells'→Gh (K v') I (X6'++(X1++F))):
  Ay T 1 z 1 [(0,w)] (gh fun u=>App T 1 bytes z v u (gh K)) I L0:=by
 refine Dg hz (by omega) (by rw [hw];rfl) (fun X1 u hX1=>?_);refine Et (X:=X6) hz h6 (hX1.news (fun x hx=>List.mem_append_left _ hx)) (fun u hu=>by rw [hw] at hu;simp only [List.mem_singleton] at hu;subst hu;exact h1) hb hl (fun X' v' hX'=>?_);have e:xs.length+1=(xs++[x]).length:=by simp
 rw [e] at hX';exact hk X1 X' v' _ hX' (Recs.append hR (Recs.one (by rw [hw];rfl) (by rw [hw];exact hx)))
section
variable {ω:Om}{I:Imm}{L:LH}{K:Value→M}
structure ScI (I:Imm)(i:Nat)(ps:List Pr)(X XL XS:LH)(v1 v2:Value)(c1 c2:List Value):Prop where
 oa:SlO 25 1 XL v1 c1 ps.length
 ra:Recs (PA I) 1 ps c1
 ob:SlO 61 1 XS v2 c2 ps.length
 rb:Recs (PB I) 1 ps c2
 pr:PsR I ps X
 pos:1≤ps.length
 max:ps.length≤4
 ok:∀p∈ps,MOk p.2.2 i
theorem ScI.step {I I':Imm}{i:Nat}{ps:List Pr}{X XL XS X':LH}{v1 v2:Value}{c1 c2:List Value}{k:Nat}{m':Mch}(h:ScI I i ps X XL XS v1 v2 c1 c2)(hI:Ext I I')(hk:k < ps.length)(hp:PsR I' (ps.set k (ps[k].1,ps[k].2.1,m')) X')(hm:MOk m' (i+1)):
  ScI I' (i+1) (ps.set k (ps[k].1,ps[k].2.1,m')) X' XL XS v1 v2 c1 c2:=by
 have hx:ps[k]? =some ps[k]:=List.getElem?_eq_getElem hk;refine ⟨by rw [List.length_set];exact h.oa,?_,by rw [List.length_set];exact h.ob,?_,hp,by rw [List.length_set];exact h.pos,by rw [List.length_set];exact h.max,fun p hp=>?_⟩
 ·have:=Recs.upd (R:=PA I') (n:=1) (d:=0) (k:=0) (vs:=[]) rfl (by omega) (y:=(ps[k].1,ps[k].2.1,m')) (h.ra.imp fun _ _ h=>h) hx (fun c hc hR=>by rw [show c=[pt ps[k].1] from hR];rfl);simpa using this
 ·have:=Recs.upd (R:=PB I') (n:=1) (d:=0) (k:=0) (vs:=[]) rfl (by omega) (y:=(ps[k].1,ps[k].2.1,m')) (h.rb.imp fun _ _ h=>h) hx (fun c hc hR=>by rw [show c=[pt ps[k].2.1] from hR];rfl);simpa using this
 ·rcases List.mem_or_eq_of_mem_set hp with hp|hp
  ·exact (h.ok p hp).more (Nat.le_succ i)
  ·rw [hp];exact hm
abbrev rsO (cs:List Value):Obj:=.cells cs.toArray 52 (0,0)
theorem PG {i:Nat}{v1 v2:Value}{Kn0:(Value×Value×Value×Value×Unit)→M}(hi:i≤200)(hk:Gh (Kn0 (.bool false,v1,v2,.int .i64 ((i+1:Nat):Int),())) I L):
  Mg ω (.bool false) v1 v2 (.int .i64 i) (fun s=>Gh (Kn0 s)) (fun v=>Gh (K v)) I L:=by
 have w64:IntKind.i64.wrap ((i:Int)+1)=((i+1:Nat):Int):=by rw [wrap_i64 _ (by omega)];rfl
 unfold Mg;simp only [w64,SSd,Nat.reduceAdd];exact hk
theorem AAX {i k:Nat}{ps:List Pr}{X XL XS X' X2 Y' Y2 Z F:LH}{v1 v2 pv pr:Value}{c1 c2 ca cb:List Value}{q8 q9:Nat}{r:TRes}{m':Mch}{o:Option Mch}{I0:Imm}{Kn0:(Value×Value×Value×Value×Unit)→M}
  (hS:ScI I0 i ps X XL XS v1 v2 c1 c2) (h0:Ext I0 I) (hi:i≤200) (hkl:k < ps.length) (hX':MchR I ps[k].1 X' m') (hY':R14 I ps[k].2.1 Y' m') (hM':MOk m' (i+1)) (hr:TResV I r ca) (hr':TResV I r cb) (hrl:r.fRows.length≤1000000000)
  (ho:OptM I pv X2 o) (ho':ADO I pr Y2 o) (hoM:∀m2,o=some m2→MOk m2 (i+1)) (hset:∀I' p' W,Ext I0 I'→PairR I' p' W→PsR I' (ps.set k p') (W++Z))
  (hk:∀I' ps' X' XL' XS' v1' v2' c1' c2',Ext I I'→ScI I' (i+1) ps' X' XL' XS' v1' v2' c1' c2'→Kn0 (.bool false,v1',v2',.int .i64 ((i+1:Nat):Int),()) I' (XL'++(XS'++(X'++F)))):
  Ou ω (.bool false) v1 v2 (.int .i64 i) (.int .i64 k) (pt q8) pv (pt q9) pr (fun s=>Gh (Kn0 s)) (fun v=>Gh (K v)) I ((q9,rsO cb)::(Y'++(Y2++((q8,rsO ca)::(X'++(X2++(Z++(XL++(XS++F))))))))):=by
 have hmx:=hS.max;have lA:RL PA 1 I XL v1 ps:=SlO.rl hS.oa (hS.ra.imp fun _ _ h=>h) (fun x h=>h);have lB:RL PB 1 I XS v2 ps:=SlO.rl hS.ob (hS.rb.imp fun _ _ h=>h) (fun x h=>h);obtain ⟨qa,oa,da,hixA,_,hda,hccA⟩:=RL.ix lA (i:=(k:Int)) (by omega) (by omega);obtain ⟨qb,ob,db,hixB,_,hdb,hccB⟩:=RL.ix lB (i:=(k:Int)) (by omega) (by omega);rw [Ab hkl] at hda hdb;obtain rfl:=hda;obtain rfl:=hdb;have hcA:=hccA I XL (Ext.refl _) (fun _ h=>h);have hcB:=hccB I XS (Ext.refl _) (fun _ h=>h);unfold Ou;refine rdB hr.len ?_;refine rdB hr'.len ?_;refine call (Kc hr hr' hrl ?_);refine AK ?_;simp only [hixA,SSd,Nat.reduceAdd];refine Aq (hcA 0 _ rfl) (Ext.refl _) ?_;simp only [hixB,SSd,Nat.reduceAdd];refine Aq (hcB 0 _ rfl) (Ext.refl _) ?_;refine call (Cal.perm (L':=X'++(Y'++(X2++(Y2++((q8,rsO ca)::(q9,rsO cb)::(Z++(XL++(XS++F)))))))) (AQ (by ((try simp only [AN,AP,Aa,AR]);(try ac_rfl)))) (Ke hX' hY' hM' (by omega) (fun I2 hI2=>?_)));have hP:=hset I2 (ps[k].1,ps[k].2.1,m') (X'++Y') (h0.trans hI2) ⟨X',Y',rfl,hX'.mono hI2,hY'.mono hI2⟩;have hS2:=hS.step (h0.trans hI2) hkl hP hM';have end9:∀L',SubP (XL++(XS++(X'++(Y'++(Z++F))))) L'→Mg ω (.bool false) v1 v2 (.int .i64 i) (fun s=>Gh (Kn0 s)) (fun v=>Gh (K v)) I2 L':=by
  intro L' hsub;refine PG hi (Gh.to (XL++(XS++(X'++(Y'++(Z++F))))) (Gh.done ?_));have:=hk I2 _ _ _ _ _ _ _ _ hI2 hS2;simpa only [List.append_assoc] using this
 have p1:Bh .eql (.pointer none) (.pointer none)=some (.bool true):=rfl;have p2:Bh .neq (.pointer none) (.pointer none)=some (.bool false):=rfl;cases o with
 |none=>
  obtain ⟨rfl,rfl⟩:=ho;obtain ⟨rfl,rfl⟩:=ho';simp only [Bool.not_true,p1,p2,beq_self_eq_true,SSd,Nat.reduceAdd];exact end9 _ inferInstance
 |some m2=>
  obtain ⟨b2,rfl,hX2⟩:=ho;obtain ⟨br2,rfl,hY2⟩:=ho';have hM2:=hoM m2 rfl;simp only [Bool.not_true,beq_self_eq_true,RL.len lA,SSd,Nat.reduceAdd];refine AD (fun e=>?_) (fun e=>end9 _ inferInstance);have h4:ps.length < 4:=by simp at e;omega
  unfold AFg;refine call (Cal.perm (L':=X2++(Y2++(X'++(Y'++((q8,rsO ca)::(q9,rsO cb)::(Z++(XL++(XS++F)))))))) (AQ (by ((try simp only [AN,AP,Aa,AR]);(try ac_rfl)))) (Ke (hX2.mono hI2) (hY2.mono hI2) hM2 (by omega) (fun I3 hI3=>?_)));simp only [Bool.not_true,SSd,Nat.reduceAdd];have hP3:=PsR.snoc (p:=(b2,br2,m2)) (Y:=X2++Y2) ⟨X2,Y2,rfl,hX2.mono (hI2.trans hI3),hY2.mono (hI2.trans hI3)⟩ (hP.mono hI3);refine Gk (R:=PA) (I:=I3) (X6:=XL) (xs:=ps.set k (ps[k].1,ps[k].2.1,m')) (x:=(b2,br2,m2)) rfl hS2.oa (hS2.ra.imp fun _ _ h=>h) rfl rfl rfl (by rw [List.length_set];omega) (by rw [List.length_set];omega) (fun G1 XL' v1' c1' hO1 hR1=>Gh.done ?_);refine Gk (R:=PB) (I:=I3) (X6:=XS) (xs:=ps.set k (ps[k].1,ps[k].2.1,m')) (x:=(b2,br2,m2)) rfl hS2.ob (hS2.rb.imp fun _ _ h=>h) rfl rfl rfl (by rw [List.length_set];omega) (by rw [List.length_set];omega) (fun G2 XS' v2' c2' hO2 hR2=>Gh.done ?_);refine PG hi (Gh.to (XL'++(XS'++(X'++(Y'++(Z++(X2++(Y2++F))))))) (Gh.done ?_));have:=hk I3 (ps.set k (ps[k].1,ps[k].2.1,m')++[(b2,br2,m2)]) _ XL' XS' v1' v2' c1' c2' (hI2.trans hI3) ⟨hO1,hR1,hO2,hR2,hP3,by simp,by simp;omega,fun p hp=>by
   rcases List.mem_append.1 hp with hp|hp
   ·exact hS2.ok p hp
   ·simp only [List.mem_singleton] at hp;subst hp;exact hM2⟩
  simpa only [List.append_assoc] using this
end
section
variable {ω:Om}{I:Imm}{L:LH}{K:Value→M}
theorem PH {i k:Nat}{ps:List Pr}{X XL XS X' X2 Y Z F:LH}{v v1 v2 pv:Value}{c1 c2 ca:List Value}{q8:Nat}{cs:List TCmd}{I0 J:Imm}{Kn0:(Value×Value×Value×Value×Unit)→M}
  (hcs:RL TCmdV 15 J [] v cs) (hJ:Ext J I0) (hic:i < cs.length) (hcl:cs.length≤9000000000000000000) (hS:ScI I0 i ps X XL XS v1 v2 c1 c2) (h0:Ext I0 I) (hi:i < 200) (hkl:k < ps.length) (hX':MchR I ps[k].1 X' (BQ ps[k].2.2 cs[i]).2.1) (hY:R14 I ps[k].2.1 Y ps[k].2.2) (hr:TResV I (BQ ps[k].2.2 cs[i]).1 ca)
  (ho:OptM I pv X2 (BQ ps[k].2.2 cs[i]).2.2) (hset:∀I' p' W,Ext I0 I'→PairR I' p' W→PsR I' (ps.set k p') (W++Z))
  (hk:∀I' ps' X' XL' XS' v1' v2' c1' c2',Ext I I'→ScI I' (i+1) ps' X' XL' XS' v1' v2' c1' c2'→Kn0 (.bool false,v1',v2',.int .i64 ((i+1:Nat):Int),()) I' (XL'++(XS'++(X'++F)))):
  SP ω v (.bool false) v1 v2 (.int .i64 i) (.int .i64 k) (pt q8) pv (fun s=>Gh (Kn0 s)) (fun v=>Gh (K v)) I ((q8,rsO ca)::(X'++(X2++(Y++(Z++(XL++(XS++F))))))):=by
 have hmx:=hS.max;have hM:=hS.ok _ (List.getElem_mem hkl);obtain ⟨hok1,hok2,hok3⟩:=NW (c:=cs[i]) hM;have hrl:=(AFZ hok1).len;have lB:RL PB 1 I XS v2 ps:=SlO.rl hS.ob (hS.rb.imp fun _ _ h=>h) (fun x h=>h);obtain ⟨qb,ob,db,hixB,_,hdb,hccB⟩:=RL.ix lB (i:=(k:Int)) (by omega) (by omega);rw [Ab hkl] at hdb;obtain rfl:=hdb;have hcB:=hccB I XS (Ext.refl _) (fun _ h=>h);obtain ⟨qc,oc,dc,hixC,hclC,hdc,hccC⟩:=RL.ix hcs (i:=(i:Int)) (by omega) (by omega);rw [Ab hic] at hdc;have hcC:=hccC I [] (hJ.trans h0) (fun _ h=>h);have hdc:=hdc.mono (hJ.trans h0);have fin:∀I2 Y' Y2 pr cb q9,Ext I I2→R14 I2 ps[k].2.1 Y' (BQ ps[k].2.2 cs[i]).2.1→TResV I2 (BQ ps[k].2.2 cs[i]).1 cb→ADO I2 pr Y2 (BQ ps[k].2.2 cs[i]).2.2→
   Ou ω (.bool false) v1 v2 (.int .i64 i) (.int .i64 k) (pt q8) pv (pt q9) pr (fun s=>Gh (Kn0 s)) (fun v=>Gh (K v)) I2 ((q9,rsO cb)::(Y'++(Y2++((q8,rsO ca)::(X'++(X2++(Z++(XL++(XS++F))))))))):=
  fun I2 Y' Y2 pr cb q9 hI2 hY' hr' ho'=>AAX hS (h0.trans hI2) (by omega) hkl (hX'.mono hI2) hY' hok2 (hr.mono hI2) hr' (by omega) (ho.mono hI2) ho' hok3 hset (fun I' ps' X' XL' XS' v1' v2' c1' c2' hI=>hk I' ps' X' XL' XS' v1' v2' c1' c2' (hI2.trans hI))
 unfold SP;refine Le Y ?_;simp only [hixB,SSd,Nat.reduceAdd];refine Aq (hcB 0 _ rfl) (Ext.refl _) ?_;simp only [hixC,SSd,Nat.reduceAdd];refine BX hcC (Ext.refl _) hclC ?_;refine ⟨?_,?_⟩
 ·refine call (Cal.perm (L':=Y++((q8,rsO ca)::(X'++(X2++(Z++(XL++(XS++F))))))) (AQ (by ((try simp only [AN,AP,Aa,AR]);(try ac_rfl)))) (Ht hM (by omega) hY hdc (fun I2 Y' Y2 pr cb hI2 hY' hr' ho'=>?_)));try simp only [SSd,Nat.reduceAdd]
  refine AM (fun q9=>?_);refine JM hI2 (fun y hy=>?_) ?_
  ·simp only [List.mem_cons,List.mem_append] at hy ⊢;rcases hy with hy|hy|hy|hy|hy|hy|hy <;> simp [hy]
  refine stB hr'.len rfl hr'.one ?_;exact fin I2 Y' Y2 pr cb q9 hI2 hY' hr' ho'
 ·refine AM (fun q9=>?_);refine JM (Ext.refl _) (fun y hy=>?_) ?_
  ·simp only [List.mem_cons,List.mem_append] at hy ⊢;rcases hy with hy|hy|hy|hy|hy|hy|hy <;> simp [hy]
  refine call (Cal.perm (L':=Y++((q8,rsO ca)::(X'++(X2++(Z++(XL++(XS++((q9,EU)::F)))))))) (AQ (by ((try simp only [AN,AP,Aa,AR]);(try ac_rfl)))) (Ht hM (by omega) hY hdc (fun I2 Y' Y2 pr cb hI2 hY' hr' ho'=>?_)));try simp only [SSd,Nat.reduceAdd]
  refine Qo hr'.len rfl hr'.one ?_;exact Gh.perm (AQ (by ((try simp only [AN,AP,Aa,AR]);(try ac_rfl)))) (Gh.done (fin I2 Y' Y2 pr cb q9 hI2 hY' hr' ho'))
theorem Lz {v:Value}{p:TSpan}{pc:List Value}{cs:List TCmd}(hp:TSpanV I p pc)(h:RL TCmdV 15 I [] v cs)(hL:∀c∈cs,Lens c)(hl:cs.length≤9000000000000000000)(hk:∀I' L',Ext I I'→K (.bool true) I' L'):CT ω 4 #[.agg pc.toArray,v] K I L:=by
 have hp':=hp;obtain ⟨v0,v1,rfl,g0,g1⟩:=hp;refine ALE ?_;unfold sh4;refine AM (fun q1=>?_);refine call (SC (fun I1 hI1=>?_));refine rdB rfl ?_;have p1:Bh .eql (.pointer none) (.pointer none)=some (.bool true):=rfl;refine call (NA (p:=p) (hp'.mono hI1) (fun hs=>?_) (fun hs b X I2 hI2 hX=>?_))
 ·try simp only [SSd,Nat.reduceAdd]
  refine rdB rfl ?_;refine call (JA (p:=p) (hp'.mono hI1) (fun _=>?_) (fun h1=>by rw [hs] at h1;cases h1));simp only [Bool.not_true,bne_self_eq_false,p1,beq_self_eq_true,SSd,Nat.reduceAdd];exact Gh.done (hk I1 _ hI1)
 have t2:=hI1.trans hI2;try simp only [SSd,Nat.reduceAdd]
 refine rdB rfl ?_;refine call (JA (p:=p) (hp'.mono t2) (fun h1=>by rw [hs] at h1;cases h1) (fun _ br Y hY=>?_));simp only [Bool.not_true,bne_self_eq_false,beq_self_eq_true,SSd,Nat.reduceAdd];have inst:∀L:LH,SplitL [] L L:=fun L=>⟨List.Perm.refl _⟩;refine Gk (R:=PA) (I:=I2) (X6:=[]) (hsp:=inst _) (xs:=[]) (x:=(b,br,FR p)) rfl (SlO.none _ _) rfl rfl rfl rfl (by simp) (by simp) (fun G1 XL w1 c1 hO1 hR1=>Gh.done ?_);refine Gk (R:=PB) (I:=I2) (X6:=[]) (hsp:=inst _) (xs:=[]) (x:=(b,br,FR p)) rfl (SlO.none _ _) rfl rfl rfl rfl (by simp) (by simp) (fun G2 XS w2 c2 hO2 hR2=>?_);rw [List.nil_append] at hO1 hR1 hO2 hR2;refine Gh.to (XL++(XS++(X++(Y++L)))) (Gh.done ?_);have hS0:ScI I2 0 [(b,br,FR p)] (X++Y) XL XS w1 w2 c1 c2:=⟨hO1,hR1,hO2,hR2,⟨X++Y,[],⟨X,Y,rfl,hX,hY⟩,rfl,by simp⟩,by simp,by simp,fun q hq=>by
  simp only [List.mem_singleton] at hq;subst hq;exact Tv hs⟩
 rw [show XL++(XS++(X++(Y++L)))=XL++(XS++((X++Y)++L)) from by simp only [List.append_assoc]];refine loop (fun n (s:Value×Value×Value×Value×Unit) I' L'=>Ext I I'∧∃(i:Nat) (ps:List Pr) (X XL XS:LH) (w1 w2:Value) (c1 c2:List Value),n+i=cs.length∧s=(.bool false,w1,w2,.int .i64 i,())∧i≤200∧ScI I' i ps X XL XS w1 w2 c1 c2∧L'=XL++(XS++(X++L))) cs.length ⟨t2,0,_,_,_,_,_,_,_,_,rfl,rfl,by omega,hS0,rfl⟩ ?_;clear hS0 hO1 hR1 hO2 hR2 hX hY;rintro n s I' L' ⟨hI,i,ps,X,XL,XS,w1,w2,c1,c2,hni,rfl,hi2,hS,rfl⟩;unfold AFh;simp only [RL.len h,SSd,Nat.reduceAdd];refine AH (fun e=>?_) (fun e=>Gh.done (hk I' _ hI));have hi:i < cs.length:=by simpa using e
 try simp only [SSd,Nat.reduceAdd]
 refine AD (fun e2=>?_) (fun e2=>Gh.done (hk I' _ hI));have hi3:i < 200:=by simp at e2;omega
 have hps:=hS.pos;have hmx:=hS.max;have lA:RL PA 1 I' XL w1 ps:=SlO.rl hS.oa (hS.ra.imp fun _ _ h=>h) (fun x h=>h);have hrem:AC .rem (.int .i64 (i:Int)) (.int .i64 (ps.length:Int))=some (.int .i64 ((i % ps.length:Nat):Int)):=
  ACw (i:Int) (ps.length:Int) .i64 (show ((ps.length:Nat):Int)≠0 by omega)
 have hkl:i % ps.length < ps.length:=Nat.mod_lt _ (by omega);generalize i % ps.length=k at *;obtain ⟨W,Z,⟨Xa,Ya,rfl,hXa,hYa⟩,hperm,hset⟩:=PsR.pick hkl hS.pr;obtain ⟨qa,oa,da,hixA,_,hda,hccA⟩:=RL.ix lA (i:=(k:Int)) (by omega) (by omega);rw [Ab hkl] at hda;obtain rfl:=hda;have hcA:=hccA I' XL (Ext.refl _) (fun _ h=>h);obtain ⟨qc,oc,dc,hixC,hclC,hdc,hccC⟩:=RL.ix h (i:=(i:Int)) (by omega) (by omega);rw [Ab hi] at hdc;have hcC:=hccC I' [] hI (fun _ h=>h);have hdc:=hdc.mono hI;have hM:=hS.ok _ (List.getElem_mem hkl);have hLc:=hL cs[i] (List.getElem_mem hi);simp only [RL.len lA,hrem,SSd,Nat.reduceAdd];refine Le X ?_;simp only [hixA,SSd,Nat.reduceAdd];refine Aq (hcA 0 _ rfl) (Ext.refl _) ?_;simp only [hixC,SSd,Nat.reduceAdd];refine BX hcC (Ext.refl _) hclC ?_;refine ⟨?_,?_⟩
 ·refine call (Cal.perm (L':=Xa++(Ya++(Z++(XL++(XS++L))))) (AQ (by simp only [AP,BH hperm];((try simp only [AN,AP,Aa,AR]);(try ac_rfl)))) (JD hM (by omega) hXa hdc hLc (fun I3 X' X2 pv ca hI3 hX' hr ho=>?_)));try simp only [SSd,Nat.reduceAdd]
  refine AM (fun q8=>?_);refine JM hI3 (fun y hy=>?_) ?_
  ·simp only [List.mem_cons,List.mem_append] at hy ⊢;rcases hy with hy|hy|hy <;> simp [hy]
  refine stB hr.len rfl hr.one ?_;exact PH h hI hi hl hS hI3 hi3 hkl hX' (hYa.mono hI3) hr ho (fun I' p' W hI=>hset I' p' W hI) (fun I4 ps' X4 XL' XS' v1' v2' c1' c2' hI4 hS4=>⟨n - 1,by omega,hI.trans (hI3.trans hI4),i+1,ps',X4,XL',XS',v1',v2',c1',c2',by omega,rfl,by omega,hS4,rfl⟩)
 ·refine AM (fun q8=>?_);refine JM (Ext.refl _) (fun y hy=>?_) ?_
  ·simp only [List.mem_cons,List.mem_append] at hy ⊢;rcases hy with hy|hy|hy <;> simp [hy]
  refine call (Cal.perm (L':=Xa++(Ya++(Z++(XL++(XS++((q8,EU)::L)))))) (AQ (by simp only [AP,AN,BH hperm];((try simp only [AN,AP,Aa,AR]);(try ac_rfl)))) (JD hM (by omega) hXa hdc hLc (fun I3 X' X2 pv ca hI3 hX' hr ho=>?_)));try simp only [SSd,Nat.reduceAdd]
  refine Qo hr.len rfl hr.one ?_;refine Gh.perm (AQ (by ((try simp only [AN,AP,Aa,AR]);(try ac_rfl)))) (Gh.done (PH (Z:=Z) (F:=L) h hI hi hl hS hI3 hi3 hkl hX' (hYa.mono hI3) hr ho (fun I' p' W hI=>hset I' p' W hI) (fun I4 ps' X4 XL' XS' v1' v2' c1' c2' hI4 hS4=>⟨n - 1,by omega,hI.trans (hI3.trans hI4),i+1,ps',X4,XL',XS',v1',v2',c1',c2',by omega,rfl,by omega,hS4,rfl⟩)))
end
theorem scripts14_walk2 {W:World}{base:Nat}{v0 v1:Value}(o0:Value.okWide Tryz.prog W .any base 31 v0)(t0:Tr Tryz.prog W 31 v0.cells.toList)(o1:Value.okWide Tryz.prog W .any base 60 v1)(t1:Tr Tryz.prog W 60 v1.cells.toList)(ω:Om):
  CT ω 4 #[v0,v1] (fun v I' _=>v= .bool true∧Ext (Eo W) I') (Eo W) []:=by
 obtain ⟨cs,rfl,t⟩:=Qn Tryz.underlying31 o0 t0;obtain ⟨p,_,hp⟩:=Ls t;obtain ⟨l,h1,h2,h3⟩:=Ug (Uh Tryz.underlying60 o1 t1);exact Lz hp h1 h2 (by omega) (fun I' _ hI=>⟨rfl,hI⟩)
end Go.Proofs.YtmmfcgbfbcamcaaGreatDoor
