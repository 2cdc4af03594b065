/-
  Lemmas, part 7: laid together by a program.
-/
import Derived.Test.YtmmfcgbfbcamcaaGreatDoorP6
import Derived.Shelf.SlMaps.Clone
import Derived.Test.YtmmfcgbfbcamcaaGreatDoorP4
import Derived.Shelf.SlSortCmp.NoneTotal
import Derived.Shelf.Sort.Plain
import Derived.Shelf.Slices.In.SortNone
import Derived.Test.YtmmfcgbfbcamcaaGreatDoorProg
import Derived.Shelf.Lays
import Derived.Shelf.SlLaysW
set_option maxRecDepth 100000
set_option linter.unusedVariables false
set_option linter.unusedSimpArgs false
set_option linter.unusedSectionVars false
namespace Go.Proofs.YtmmfcgbfbcamcaaGreatDoor
open Go.SL
def MchR (I:Imm)(b:Nat)(X:LH)(m:Mch):Prop:=∃s V SX,X.Perm (mL b s V m SX)∧MF I V m∧SpR I s SX m.sp m.nt
theorem MchR.mono {I I':Imm}{b:Nat}{X:LH}{m:Mch}(h:MchR I b X m)(hI:Ext I I'):MchR I' b X m:=by
 obtain ⟨s,V,SX,h1,h2,h3⟩:=h;exact ⟨s,V,SX,h1,h2.mono hI,h3.mono hI⟩
def PostK (K:Value→M)(b:Nat)(F:LH)(I:Imm)(r:TRes)(m':Mch):Prop:=∀I' X' cells,Ext I I'→MchR I' b X' m'→TResV I' r cells→K (.agg cells.toArray) I' (X'++F)
theorem PostK.go {K:Value→M}{b s:Nat}{V:MV}{SX F:LH}{I I':Imm}{r:TRes}{m:Mch}{cells:List Value}(h:PostK K b F I r m)(hI:Ext I I')(hF:MF I' V m)(hS:SpR I' s SX m.sp m.nt)(hr:TResV I' r cells):K (.agg cells.toArray) I' (mL b s V m (SX++F)):=
 h I' (mL b s V m SX) cells hI ⟨s,V,SX,List.Perm.refl _,hF,hS⟩ hr
theorem Gt:∀{rows:List Row} {n:Nat},Ae rows≤n→∀r∈rows,r.vs.length≤n
 |x::rows,n,h,r,hr=>by
  have e:Ae (x::rows)=x.vs.length+Ae rows:=by simp [Ae]
  rcases List.mem_cons.1 hr with rfl|hr
  ·omega
  ·exact Gt (rows:=rows) (n:=n) (by omega) r hr
theorem TL (m:Mch)(k:List UInt8)(a:TStamp)(n:Int):(Dx m k a n).sp=m.sp∧(Dx m k a n).nt=m.nt:=by
 unfold Dx room;split <;> exact ⟨rfl,rfl⟩
theorem II (m:Mch)(c:TCmd)(e:Int)(a:TStamp):(EZ m c e a).sp=m.sp∧(EZ m c e a).nt=m.nt:=by
 unfold EZ;split <;> exact ⟨rfl,rfl⟩
theorem PU {N:Nat}(h:N≤10000):N * N≤100000000:=Nat.mul_le_mul h h
section
variable {ω:Om}{I:Imm}{L:LH}{K:Value→M}{b s N:Nat}{V:MV}{m:Mch}{SX F:LH}{c:TCmd}{cc:List Value}
theorem ZN (hM : MOk m N) (hN : N ≤ 10000) (hS : GI m c.fKey = true → YM) (hF : MF I V m) (hSp : SpR I s SX m.sp m.nt) (hc : TCmdV I c cc) (hk : PostK K b F I (FP m c).1 (FP m c).2) :
    CT ω 94 #[pt b, .agg cc.toArray] K I (mL b s V m (SX ++ F)) := by
  have h1 := hM.vers
  have h2 := PU hN
  have h3 := hM.rows
  have hvs : ∀ r ∈ m.sp.rows, r.vs.length ≤ 1000000000 := Gt (by omega)
  obtain ⟨w0, w1, w2, w3, rfl, g0, g1, g2, g3⟩ := hc
  refine ANq ?_
  unfold sh94
  refine AV (fun b1 => AV (fun b2 => ?_))
  repeat' (first | (with_reducible first | refine AZ ?_ | refine Aa ?_ | refine Ac ?_ | refine keepA ?_ | refine AV (fun _ => ?_)) | ((with_reducible refine call ?_); refine (Ey (p := m.span) ⟨_, _, rfl, hF.f0, hF.f1⟩ g0 ?_)) | ((with_reducible refine call ?_); refine (Ar ?_)) | (((with_reducible refine call ?_); refine (AFG (sp := m.sp) (k := c.fKey) (m := c.fAt) (txn := c.fTxn) (hSp.view (fun x hx => by simp [hx])) hM.sp.rise hvs g0 (fun I1 u1 hI1 hB1 => ?_))); obtain ⟨ua, uc, rfl⟩ := Bytes.form hB1) | ((with_reducible refine call ?_); refine (Jt b V (ZE hS (hF.mono hI1) hM.marks (g0.mono hI1) (fun V1 hF1 => ?_)))) | (with_reducible refine rdb ?_) | ((with_reducible first | refine st1 ?_ ?_ | refine rdB ?_ ?_); rfl) | (with_reducible refine Ah ?_) | ((with_reducible refine Ai ?_ ?_); rfl) | ((with_reducible refine stB ?_ ?_ ?_ ?_); rfl; rfl; exact AK rfl) | ((with_reducible first | refine rdP _ rfl ?_ ?_ | refine As _ rfl ?_ ?_); rfl) | ((with_reducible refine stP _ rfl ?_ ?_ ?_ ?_); rfl; rfl; rfl) | (with_reducible first | refine AW (sh94_1.eq_1 ..) ?_ | refine AW (sh94.eq_1 ..) ?_ | refine And.intro ?_ ?_) | (simp only [SSg, Int.reduceBEq, Int.reduceBNe, Int.reduceLT, Int.reduceLE, beq_self_eq_true, bne_self_eq_false]) | (with_reducible first | refine AG (fun _ => ?_) (fun _ => ?_) | refine AC (fun _ => ?_) (fun _ => ?_)) | (simp only [SSd, Nat.reduceAdd]))
  · have e : FP m c = (BM 141, m) := by unfold FP; rw [if_pos (by first | (simp_all; done) | (simp_all; omega) | omega)]
    rw [e] at hk
    exact Gh.to (mL b s V m (SX ++ F)) (Gh.done (hk.go (Ext.refl _) hF hSp (Ee ..)))
  all_goals first
    | (have e : FP m c = (⟨(FZ m.sp c.fKey c.fAt c.fTxn).2, DF, [], z0, (FZ m.sp c.fKey c.fAt c.fTxn).1.fBy, 0⟩, m) := by unfold FP; rw [if_neg (by first | (simp_all; done) | (simp_all; omega) | omega), if_pos (by first | (simp_all; done) | (simp_all; omega) | omega)]
       rw [e] at hk
       exact Gh.to (mL b s V m (SX ++ F)) (Gh.done (hk.go hI1 (hF.mono hI1) (hSp.mono hI1) (Ee ..))))
    | (have e : FP m c = (⟨0, (FZ m.sp c.fKey c.fAt c.fTxn).1, [], z0, 0, 0⟩, Dx m c.fKey c.fAt c.fTxn) := by unfold FP; rw [if_neg (by first | (simp_all; done) | (simp_all; omega) | omega), if_neg (by first | (simp_all; done) | (simp_all; omega) | omega)]
       rw [e] at hk
       exact Gh.to (mL b s V1 (Dx m c.fKey c.fAt c.fTxn) (SX ++ F)) (Gh.done (hk.go hI1 hF1 (by rw [(TL ..).1, (TL ..).2]; exact hSp.mono hI1) ⟨_, _, rfl, hB1, RL.nil none 0⟩)))
theorem Ut (hM:MOk m N)(hN:N≤10000)(hF:MF I V m)(hSp:SpR I s SX m.sp m.nt)(hc:TCmdV I c cc)(hk:PostK K b F I (EH m c).1 (EH m c).2):
  CT ω 95 #[pt b,.agg cc.toArray] K I (mL b s V m (SX++F)):=by
 have h1:=hM.vers;have h2:=PU hN;have h3:=hM.rows;have hvs:∀r∈m.sp.rows,r.vs.length≤1000000000:=Gt (by omega);obtain ⟨w0,w1,w2,w3,rfl,g0,g1,g2,g3⟩:=hc;refine ANp ?_;unfold sh95;refine AV (fun b1=>AV (fun b2=>?_));repeat' (first|(with_reducible first|refine AZ ?_|refine Aa ?_|refine Ac ?_|refine keepA ?_|refine AV (fun _=>?_))|((with_reducible refine call ?_);refine (Jt b V (KR hF (p:=c.fSpan) ⟨_,_,rfl,g2,g3⟩ ?_)))|((with_reducible refine call ?_);refine (Ar ?_))|(((with_reducible refine call ?_);refine (Yj (sp:=m.sp) (p:=c.fSpan) (m:=c.fAt) (txn:=c.fTxn) (most:=c.fMost) (hSp.view (fun x hx=>by simp [hx])) hM.sp.rise (by omega) hvs ⟨_,_,rfl,g2,g3⟩ (fun I1 u1 hI1 hB1=>?_)));obtain ⟨ua,uc,rfl⟩:=RL.form hB1)|((with_reducible refine call ?_);refine (Eh (k:=m.low) (a:=c.fAt) (n:=c.fTxn) ?_))|(with_reducible refine rdb ?_)|((with_reducible first|refine st1 ?_ ?_|refine rdB ?_ ?_);rfl)|(with_reducible refine Ah ?_)|((with_reducible refine Ai ?_ ?_);rfl)|((with_reducible refine stB ?_ ?_ ?_ ?_);rfl;rfl;exact AK rfl)|((with_reducible first|refine rdP _ rfl ?_ ?_|refine As _ rfl ?_ ?_);rfl)|((with_reducible refine stP _ rfl ?_ ?_ ?_ ?_);rfl;rfl;rfl)|(with_reducible first|refine AW (sh95.eq_1 ..) ?_|refine And.intro ?_ ?_)|(simp only [SSg,Int.reduceBEq,Int.reduceBNe,Int.reduceLT,Int.reduceLE,beq_self_eq_true,bne_self_eq_false])|(with_reducible first|refine AG (fun _=>?_) (fun _=>?_)|refine AC (fun _=>?_) (fun _=>?_))|(simp only [SSd,Nat.reduceAdd]))
 ·have e:EH m c=(BM 141,m):=by unfold EH;rw [if_pos (by first|(simp_all;done)|(simp_all;omega)|omega)]
  rw [e] at hk;exact Gh.to (mL b s V m (SX++F)) (Gh.done (hk.go (Ext.refl _) hF hSp (Ee ..)))
 ·have e:EH m c=(⟨(Do m.sp c.fSpan c.fAt c.fTxn c.fMost).2.2,DF,[],z0,(Do m.sp c.fSpan c.fAt c.fTxn c.fMost).2.1,0⟩,m):=by unfold EH;rw [if_neg (by first|(simp_all;done)|(simp_all;omega)|omega),if_pos (by first|(simp_all;done)|(simp_all;omega)|omega)]
  rw [e] at hk;exact Gh.to (mL b s V m (SX++F)) (Gh.done (hk.go hI1 (hF.mono hI1) (hSp.mono hI1) (Ee ..)))
 ·have e:EH m c=(⟨0,DF,(Do m.sp c.fSpan c.fAt c.fTxn c.fMost).1,z0,0,0⟩,{m with low:=Bw m.low c.fAt c.fTxn}):=by unfold EH;rw [if_neg (by first|(simp_all;done)|(simp_all;omega)|omega),if_neg (by first|(simp_all;done)|(simp_all;omega)|omega)]
  rw [e] at hk;exact Gh.to (mL b s V {m with low:=Bw m.low c.fAt c.fTxn} (SX++F)) (Gh.done (hk.go hI1 {hF.mono hI1 with} (hSp.mono hI1) ⟨_,_,rfl,SlI.nil I1 1 none 0,hB1⟩))
theorem Oy (hM:MOk m N)(hN:N≤10000)(hF:MF I V m)(hSp:SpR I s SX m.sp m.nt)(hc:TCmdV I c cc)(hk:PostK K b F I (PC m c).1 (PC m c).2):
  CT ω 103 #[pt b,.agg cc.toArray] K I (mL b s V m (SX++F)):=by
 have h1:=hM.vers;have h2:=PU hN;have h3:=hM.rows;obtain ⟨w0,w1,w2,w3,rfl,g0,g1,g2,g3⟩:=hc;refine ANA ?_;unfold sh103;refine AV (fun b1=>AV (fun b2=>?_));repeat' (first|(with_reducible first|refine AZ ?_|refine Aa ?_|refine Ac ?_|refine keepA ?_|refine AV (fun _=>?_))|((with_reducible refine call ?_);refine (Ar ?_))|((with_reducible refine call ?_);refine (Cal.split SX (Rw (below:=c.fAt) hSp hM.sp (by omega) (by omega) (fun X1 I1 hI1 hS1=>?_))))|(with_reducible refine rdb ?_)|((with_reducible first|refine st1 ?_ ?_|refine rdB ?_ ?_);rfl)|(with_reducible refine Ah ?_)|((with_reducible refine Ai ?_ ?_);rfl)|((with_reducible refine stB ?_ ?_ ?_ ?_);rfl;rfl;exact AK rfl)|((with_reducible first|refine rdP _ rfl ?_ ?_|refine As _ rfl ?_ ?_);rfl)|((with_reducible refine stP _ rfl ?_ ?_ ?_ ?_);rfl;rfl;rfl)|(with_reducible first|refine AW (sh103.eq_1 ..) ?_|refine And.intro ?_ ?_)|(simp only [SSg,Int.reduceBEq,Int.reduceBNe,Int.reduceLT,Int.reduceLE,beq_self_eq_true,bne_self_eq_false])|(with_reducible first|refine AG (fun _=>?_) (fun _=>?_)|refine AC (fun _=>?_) (fun _=>?_))|(simp only [SSd,Nat.reduceAdd]))
 exact Gh.to (mL b s V {m with sp:=colS m.sp c.fAt,nt:=Hf m.sp c.fAt m.nt} (X1++F)) (Gh.done (hk.go hI1 {hF.mono hI1 with} hS1 (Ee ..)))
abbrev AIq (m:Mch)(c:TCmd):Mch:={m with low:=Bw m.low c.fTo c.fTxn}
theorem VE {r:TRes}(h0:Nc m.span c.fSpan=true)(e:Bl m c=some r):Ew m c=(r,m):=by unfold Ew;rw [if_neg (by simp [h0]),e]
theorem RG (hM:MOk m N)(hN:N≤10000)(hF:MF I V m)(hSp:SpR I s SX m.sp m.nt)(hc:TCmdV I c cc)(hk:PostK K b F I (Ew m c).1 (Ew m c).2):
  CT ω 97 #[pt b,.agg cc.toArray] K I (mL b s V m (SX++F)):=by
 have h1:=hM.vers;have h2:=PU hN;have h3:=hM.rows;have hvs:∀r∈m.sp.rows,r.vs.length≤1000000000:=Gt (by omega);have hc':=hc;obtain ⟨w0,w1,w2,w3,rfl,g0,g1,g2,g3⟩:=hc;have hcm:=Jg c.fTo c.fAt;have hF0:MF I V (AIq m c):={hF with};refine ANn ?_;unfold sh97;refine AV (fun b1=>AV (fun b2=>?_));repeat' (first|(with_reducible first|refine AZ ?_|refine Aa ?_|refine Ac ?_|refine keepA ?_|refine AV (fun _=>?_))|((with_reducible refine call ?_);refine (Jt b V (KR hF (p:=c.fSpan) ⟨_,_,rfl,g2,g3⟩ ?_)))|((with_reducible refine call ?_);refine (Ar ?_))|((with_reducible refine call ?_);refine (Jt b V (HS hF hc' (fun e a ha=>?_) (fun ha=>?_))))|((with_reducible refine call ?_);refine (DU (x:=c.fTo) (y:=c.fAt) ?_))|((with_reducible refine call ?_);refine (Rz (sp:=m.sp) (p:=c.fSpan) (fr:=c.fAt) (to:=c.fTo) (txn:=c.fTxn) (hSp.view (fun x hx=>by simp [hx])) hM.sp.rise (by omega) hvs ⟨_,_,rfl,g2,g3⟩ ?_))|((with_reducible refine call ?_);refine (Eh (k:=m.low) (a:=c.fTo) (n:=c.fTxn) ?_))|((with_reducible refine call ?_);refine (Jt b V (NM (m:=AIq m c) (e:=0) (a:=z0) (n:=0) (s':=0) hF0 hM.seen hM.seenL hc' (fun V2 hF2=>?_))))|(with_reducible refine rdb ?_)|((with_reducible first|refine st1 ?_ ?_|refine rdB ?_ ?_);rfl)|(with_reducible refine Ah ?_)|((with_reducible refine Ai ?_ ?_);rfl)|((with_reducible refine stB ?_ ?_ ?_ ?_);rfl;rfl;exact AK rfl)|((with_reducible first|refine rdP _ rfl ?_ ?_|refine As _ rfl ?_ ?_);rfl)|((with_reducible refine stP _ rfl ?_ ?_ ?_ ?_);rfl;rfl;rfl)|(with_reducible first|refine AW (sh97.eq_1 ..) ?_|refine And.intro ?_ ?_)|(simp only [SSg,Int.reduceBEq,Int.reduceBNe,Int.reduceLT,Int.reduceLE,beq_self_eq_true,bne_self_eq_false])|(with_reducible first|refine AG (fun _=>?_) (fun _=>?_)|refine AC (fun _=>?_) (fun _=>?_))|(simp only [SSd,Nat.reduceAdd]))
 ·have e:Ew m c=(BM 141,m):=by unfold Ew;rw [if_pos (by first|(simp_all;done)|(simp_all;omega)|omega)]
  rw [e] at hk;exact Gh.to (mL b s V m (SX++F)) (Gh.done (hk.go (Ext.refl _) hF hSp (Ee ..)))
 ·rename_i ho _
  rw [VE (by first|(simp_all;done)|(simp_all;omega)|omega) ha] at hk;exact Gh.to (mL b s V m (SX++F)) (Gh.done (hk.go (Ext.refl _) hF hSp (Ee ..)))
 ·rename_i ho _ e1
  have e:Ew m c=(BM 1,m):=by unfold Ew;rw [if_neg (by first|(simp_all;done)|(simp_all;omega)|omega),ha];simp only;rw [if_pos (by rw [←hcm];exact e1)]
  rw [e] at hk;exact Gh.to (mL b s V m (SX++F)) (Gh.done (hk.go (Ext.refl _) hF hSp (Ee ..)))
 ·rename_i ho _ e1 e2
  have e:Ew m c=(BM (chF m.sp c.fSpan c.fAt c.fTo c.fTxn).2,m):=by unfold Ew;rw [if_neg (by first|(simp_all;done)|(simp_all;omega)|omega),ha];simp only;rw [if_neg (by rw [←hcm,e1];simp),if_pos (by simpa using e2)]
  rw [e] at hk;exact Gh.to (mL b s V m (SX++F)) (Gh.done (hk.go (Ext.refl _) hF hSp (Ee ..)))
 ·rename_i ho _ e1 e2 e3
  have e:Ew m c=(BM 144,m):=by unfold Ew;rw [if_neg (by first|(simp_all;done)|(simp_all;omega)|omega),ha];simp only;rw [if_neg (by rw [←hcm,e1];simp),if_neg (by simpa using e2),if_pos e3]
  rw [e] at hk;exact Gh.to (mL b s V m (SX++F)) (Gh.done (hk.go (Ext.refl _) hF hSp (Ee ..)))
 ·rename_i ho _ e1 e2 e3
  have e:Ew m c=(okR,EZ (AIq m c) c 0 z0):=by unfold Ew;rw [if_neg (by first|(simp_all;done)|(simp_all;omega)|omega),ha];simp only;rw [if_neg (by rw [←hcm,e1];simp),if_neg (by simpa using e2),if_neg (by rw [e3];simp)]
  rw [e] at hk;exact Gh.to (mL b s V2 (EZ (AIq m c) c 0 z0) (SX++F)) (Gh.done (hk.go (Ext.refl _) hF2 (by rw [(II ..).1,(II ..).2];exact hSp) (Ee ..)))
theorem Na {r:TRes}(h0:inB m.span c.fKey=true)(e:Bl m c=some r):DN m c=(r,m):=by unfold DN;rw [if_neg (by simp [h0]),e]
theorem AIi (h0:inB m.span c.fKey=true)(e:Bl m c=none)(h:(CH m c).2≠0):DN m c=(BM (CH m c).2,m):=by unfold DN;rw [if_neg (by simp [h0]),e];simp only;rw [if_pos h]
theorem AEU {W:TStamp}(h0:inB m.span c.fKey=true)(e:Bl m c=none)(h:CH m c=(W,0))(h2:(BI m.low W c.fTxn).2≠0):DN m c=(BM (BI m.low W c.fTxn).2,m):=by
 unfold DN;rw [if_neg (by simp [h0]),e];simp only;rw [h,if_neg (by simp),if_pos h2]
abbrev Pq (m:Mch)(c:TCmd)(W:TStamp):Mch:={m with sp:=ET m.sp (DC c (BI m.low W c.fTxn).1),nt:=Fz m.sp (DC c (BI m.low W c.fTxn).1) m.nt}
theorem TA {W:TStamp}(h0:inB m.span c.fKey=true)(e:Bl m c=none)(h:CH m c=(W,0))(h2:(BI m.low W c.fTxn).2=0):DN m c=
  (⟨(Bo m.sp (DC c (BI m.low W c.fTxn).1)).2.2,DF,[],(Bo m.sp (DC c (BI m.low W c.fTxn).1)).1,(Bo m.sp (DC c (BI m.low W c.fTxn).1)).2.1,0⟩,
   if (Bo m.sp (DC c (BI m.low W c.fTxn).1)).2.2=0 then EZ (Pq m c W) c (Bo m.sp (DC c (BI m.low W c.fTxn).1)).2.2 (Bo m.sp (DC c (BI m.low W c.fTxn).1)).1 else Pq m c W):=by
 unfold DN;rw [if_neg (by simp [h0]),e];simp only;rw [h,if_neg (by simp),if_neg (by simp [h2])];congr 1
 split
 ·rename_i h3;rw [h3]
 ·rfl
theorem AFP (SX:LH){R:LH}[h:SplitL SX L R]{B:M→M}(hB:B (Stay I R) I L):Ad B I L:=draw _ ⟨Ext.refl I,fun x hx=>h.perm.mem_iff.2 (List.mem_append_right _ hx)⟩ hB
theorem Px {p8 : Value} {W : TStamp} {bk bw bo b2 b1 : Nat} {ok oo : Obj} {w0 w1 w2 w3 : Value} (hM : MOk m N) (hN : N ≤ 10000) (hF : MF I V m) (hSp : SpR I s SX m.sp m.nt) (g0 : Bytes I w0 c.fKey) (g1 : Bytes I w1 c.fValue) (g2 : Bytes I w2 c.fSpan.fFrom) (g3 : Bytes I w3 c.fSpan.fTo)
    (hi : inB m.span c.fKey = true) (ha : Bl m c = none) (hW : CH m c = (W, 0)) (hk : PostK K b F I (DN m c).1 (DN m c).2) :
    sh96_1 ω (pt b) (pt b1) (pt b2) (pt bw) p8 (fun v => Gh (K v)) I ((bk, ok) :: (bw, .cells #[.int .i64 W.fWall, .int .i64 W.fLogic] 41 (0, 0)) :: (bo, oo) :: mL b s V m
      ((b2, .cells #[.int .i64 0, .bool false, .slice none 0 0, .int .i64 0, .int .i64 0, .int .i64 0, .slice none 0 0, .int .i64 0, .int .i64 0, .int .i64 0, .int .i64 0] 52 (0, 0)) ::
      (b1, .cells #[.int .i64 c.fKind, .int .i64 c.fTxn, .int .i64 c.fSeq, .int .i64 c.fAt.fWall, .int .i64 c.fAt.fLogic, .int .i64 c.fTo.fWall, .int .i64 c.fTo.fLogic, .int .i64 c.fBy, .bool c.fYes, .bool c.fDel, w0, w1, w2, w3, .int .i64 c.fMost] 56 (0, 0)) :: (SX ++ F))) := by
  have h1 := hM.vers
  have h2 := PU hN
  have h3 := hM.rows
  have hvs : ∀ r ∈ m.sp.rows, r.vs.length ≤ 100000000 := Gt (by omega)
  have hF0 : ∀ W I', Ext I I' → MF I' V (Pq m c W) := fun W I' hI => { hF.mono hI with }
  have hc' : TCmdV I c _ := ⟨w0, w1, w2, w3, rfl, g0, g1, g2, g3⟩
  obtain ⟨wa0, wc0, rfl⟩ := Bytes.form g0
  obtain ⟨wa1, wc1, rfl⟩ := Bytes.form g1
  repeat' (first | (with_reducible first | refine AFP SX ?_ | refine Aa ?_ | refine Ac ?_ | refine keepA ?_ | refine AV (fun _ => ?_)) | ((with_reducible refine call ?_); refine (Ar ?_)) | ((with_reducible refine call ?_); refine (Nu (k := m.low) (w := W) (n := c.fTxn) ?_)) | ((with_reducible refine call ?_); refine (Cal.split SX (AET (x := DC c (BI m.low W c.fTxn).1) hSp hM.sp (by omega) hvs ⟨_, _, rfl, g0, g1⟩ (fun X1 I1 hI1 hS1 => ?_)))) | ((with_reducible refine call ?_); refine (Jt b V (NM (m := Pq m c W) (e := (Bo m.sp (DC c (BI m.low W c.fTxn).1)).2.2) (a := (Bo m.sp (DC c (BI m.low W c.fTxn).1)).1) (n := (Bo m.sp (DC c (BI m.low W c.fTxn).1)).2.1) (s' := 0) (hF0 W I1 hI1) hM.seen hM.seenL (hc'.mono hI1) (fun V2 hF2 => ?_)))) | (with_reducible refine rdb ?_) | ((with_reducible first | refine st1 ?_ ?_ | refine rdB ?_ ?_); rfl) | (with_reducible refine Ah ?_) | ((with_reducible refine Ai ?_ ?_); rfl) | ((with_reducible refine stB ?_ ?_ ?_ ?_); rfl; rfl; exact AK rfl) | ((with_reducible first | refine rdP _ rfl ?_ ?_ | refine As _ rfl ?_ ?_); rfl) | ((with_reducible refine stP _ rfl ?_ ?_ ?_ ?_); rfl; rfl; rfl) | (with_reducible first | refine AW (sh96_3.eq_1 ..) ?_ | refine AW (sh96_2.eq_1 ..) ?_ | refine AW (sh96_1.eq_1 ..) ?_ | refine AW (sh96.eq_1 ..) ?_ | refine And.intro ?_ ?_) | (simp only [SSg, Int.reduceBEq, Int.reduceBNe, Int.reduceLT, Int.reduceLE, beq_self_eq_true, bne_self_eq_false]) | (with_reducible first | refine AG (fun _ => ?_) (fun _ => ?_) | refine AC (fun _ => ?_) (fun _ => ?_)) | (simp only [SSd, Nat.reduceAdd]))
  all_goals first
    | (rw [AEU hi ha hW (by first | (simp_all; done) | (simp_all; omega) | omega)] at hk
       exact Gh.to (mL b s V m (SX ++ F)) (Gh.done (hk.go (Ext.refl _) hF hSp (Ee ..))))
    | (rw [TA hi ha hW (by first | (simp_all; done) | (simp_all; omega) | omega), if_pos (by first | (simp_all; done) | (simp_all; omega) | omega)] at hk
       exact Gh.to (mL b s V2 (EZ (Pq m c W) c (Bo m.sp (DC c (BI m.low W c.fTxn).1)).2.2 (Bo m.sp (DC c (BI m.low W c.fTxn).1)).1) (X1 ++ F)) (Gh.done (hk.go hI1 hF2 (by rw [(II ..).1, (II ..).2]; exact hS1) (Ee ..))))
    | (rw [TA hi ha hW (by first | (simp_all; done) | (simp_all; omega) | omega), if_neg (by first | (simp_all; done) | (simp_all; omega) | omega)] at hk
       exact Gh.to (mL b s V (Pq m c W) (X1 ++ F)) (Gh.done (hk.go hI1 (hF0 W I1 hI1) hS1 (Ee ..))))
    | trace_state
theorem Yw (hM:MOk m N)(hN:N≤10000)(hF:MF I V m)(hSp:SpR I s SX m.sp m.nt)(hc:TCmdV I c cc)(hk:PostK K b F I (DN m c).1 (DN m c).2):
  CT ω 96 #[pt b,.agg cc.toArray] K I (mL b s V m (SX++F)):=by
 have hc':=hc;obtain ⟨w0,w1,w2,w3,rfl,g0,g1,g2,g3⟩:=hc;refine ANo ?_;unfold sh96;refine AV (fun b1=>AV (fun b2=>?_));have hl:BK mv m.marks c.fKey=(lkA m.marks c.fKey).map mv:=rfl;have hl1:CH m c=match lkA m.marks c.fKey with|some k=>BI k c.fAt c.fTxn|none=>(c.fAt,0):=rfl
 rcases hx:lkA m.marks c.fKey with _|x
 all_goals rw [hx] at hl hl1
 all_goals simp only [Option.map_none,Option.map_some] at hl hl1
 ·repeat' (first|(with_reducible first|refine AZ ?_|refine Aa ?_|refine Ac ?_|refine keepA ?_|refine AV (fun _=>?_)|refine Px (W:=c.fAt) hM hN hF hSp g0 g1 g2 g3 ?_ ha hl1 hk)|((with_reducible refine call ?_);refine (Ey (p:=m.span) ⟨_,_,rfl,hF.f0,hF.f1⟩ g0 ?_))|((with_reducible refine call ?_);refine (Ar ?_))|((with_reducible refine call ?_);refine (Jt b V (HS hF hc' (fun e a ha=>?_) (fun ha=>?_))))|(with_reducible refine Ek g0 (Ext.refl _) ?_)|((with_reducible refine AEv hF.mks ?_);simp only [hl,lkV,if_true,if_false,Bool.false_eq_true])|(with_reducible refine rdb ?_)|((with_reducible first|refine st1 ?_ ?_|refine rdB ?_ ?_);rfl)|(with_reducible refine Ah ?_)|((with_reducible refine Ai ?_ ?_);rfl)|((with_reducible refine stB ?_ ?_ ?_ ?_);rfl;rfl;exact AK rfl)|((with_reducible first|refine rdP _ rfl ?_ ?_|refine As _ rfl ?_ ?_);rfl)|((with_reducible refine stP _ rfl ?_ ?_ ?_ ?_);rfl;rfl;rfl)|(with_reducible first|refine AW (sh96_3.eq_1 ..) ?_|refine AW (sh96_2.eq_1 ..) ?_|refine AW (sh96_1.eq_1 ..) ?_|refine AW (sh96.eq_1 ..) ?_|refine And.intro ?_ ?_)|(simp only [SSg,Int.reduceBEq,Int.reduceBNe,Int.reduceLT,Int.reduceLE,beq_self_eq_true,bne_self_eq_false])|(with_reducible first|refine AG (fun _=>?_) (fun _=>?_)|refine AC (fun _=>?_) (fun _=>?_))|(simp only [SSd,Nat.reduceAdd]))
  ·have e1:DN m c=(BM 141,m):=by unfold DN;rw [if_pos (by first|(simp_all;done)|(simp_all;omega)|omega)]
   rw [e1] at hk;exact Gh.to (mL b s V m (SX++F)) (Gh.done (hk.go (Ext.refl _) hF hSp (Ee ..)))
  ·rw [Na (by first|(simp_all;done)|(simp_all;omega)|omega) ha] at hk;exact Gh.to (mL b s V m (SX++F)) (Gh.done (hk.go (Ext.refl _) hF hSp (Ee ..)))
  ·rename_i hi _ _ _;simpa using hi
 ·have hl2:(BI x c.fAt c.fTxn).2=0→CH m c=((BI x c.fAt c.fTxn).1,0):=fun h=>by rw [hl1,←h]
  repeat' (first|(with_reducible first|refine AZ ?_|refine Aa ?_|refine Ac ?_|refine keepA ?_|refine AV (fun _=>?_)|refine Px (W:=(BI x c.fAt c.fTxn).1) hM hN hF hSp g0 g1 g2 g3 ?_ ha ?_ hk)|((with_reducible refine call ?_);refine (Ey (p:=m.span) ⟨_,_,rfl,hF.f0,hF.f1⟩ g0 ?_))|((with_reducible refine call ?_);refine (Ar ?_))|((with_reducible refine call ?_);refine (Jt b V (HS hF hc' (fun e a ha=>?_) (fun ha=>?_))))|(with_reducible refine Ek g0 (Ext.refl _) ?_)|((with_reducible refine AEv hF.mks ?_);simp only [hl,lkV,if_true,if_false,Bool.false_eq_true])|((with_reducible refine call ?_);refine (Nu (k:=x) (w:=c.fAt) (n:=c.fTxn) ?_))|(with_reducible refine rdb ?_)|((with_reducible first|refine st1 ?_ ?_|refine rdB ?_ ?_);rfl)|(with_reducible refine Ah ?_)|((with_reducible refine Ai ?_ ?_);rfl)|((with_reducible refine stB ?_ ?_ ?_ ?_);rfl;rfl;exact AK rfl)|((with_reducible first|refine rdP _ rfl ?_ ?_|refine As _ rfl ?_ ?_);rfl)|((with_reducible refine stP _ rfl ?_ ?_ ?_ ?_);rfl;rfl;rfl)|(with_reducible first|refine AW (sh96_3.eq_1 ..) ?_|refine AW (sh96_2.eq_1 ..) ?_|refine AW (sh96_1.eq_1 ..) ?_|refine AW (sh96.eq_1 ..) ?_|refine And.intro ?_ ?_)|(simp only [SSg,Int.reduceBEq,Int.reduceBNe,Int.reduceLT,Int.reduceLE,beq_self_eq_true,bne_self_eq_false])|(with_reducible first|refine AG (fun _=>?_) (fun _=>?_)|refine AC (fun _=>?_) (fun _=>?_))|(simp only [SSd,Nat.reduceAdd]))
  ·have e1:DN m c=(BM 141,m):=by unfold DN;rw [if_pos (by first|(simp_all;done)|(simp_all;omega)|omega)]
   rw [e1] at hk;exact Gh.to (mL b s V m (SX++F)) (Gh.done (hk.go (Ext.refl _) hF hSp (Ee ..)))
  ·rw [Na (by first|(simp_all;done)|(simp_all;omega)|omega) ha] at hk;exact Gh.to (mL b s V m (SX++F)) (Gh.done (hk.go (Ext.refl _) hF hSp (Ee ..)))
  ·rename_i hi _ _ _ hn
   rw [AIi (by simpa using hi) ha (by rw [hl1];simpa using hn),hl1] at hk;exact Gh.to (mL b s V m (SX++F)) (Gh.done (hk.go (Ext.refl _) hF hSp (Ee ..)))
  ·rename_i hi _ _ _ hn;simpa using hi
  ·rename_i hi _ _ _ hn;exact hl2 (by simpa using hn)
theorem Ys {x:TIntent}{l:List TIntent}{sp:Sp}{nt:Nts}(h:¬(x.fTxn≠c.fTxn∨inB c.fSpan x.fKey=false))(h2:(FK sp x.fKey c.fTxn c.fYes c.fAt).2=0):
  resL c (x::l) sp nt=resL c l (Dv sp x.fKey c.fTxn c.fYes c.fAt) (GN sp x.fKey c.fTxn c.fYes c.fAt nt):=by
 show (if x.fTxn≠c.fTxn∨inB c.fSpan x.fKey=false then _ else _)=_;rw [if_neg h,if_neg (by simp [h2])]
theorem Pm {x:TIntent}{l:List TIntent}{sp:Sp}{nt:Nts}(h:x.fTxn≠c.fTxn∨inB c.fSpan x.fKey=false):resL c (x::l) sp nt=resL c l sp nt:=if_pos h
theorem AEQ {x:TIntent}{l:List TIntent}{sp:Sp}{nt:Nts}(h:¬(x.fTxn≠c.fTxn∨inB c.fSpan x.fKey=false))(h2:(FK sp x.fKey c.fTxn c.fYes c.fAt).2≠0):
  resL c (x::l) sp nt=((FK sp x.fKey c.fTxn c.fYes c.fAt).2,Dv sp x.fKey c.fTxn c.fYes c.fAt,GN sp x.fKey c.fTxn c.fYes c.fAt nt):=by
 show (if x.fTxn≠c.fTxn∨inB c.fSpan x.fKey=false then _ else _)=_;rw [if_neg h,if_pos h2]
abbrev AEP (m:Mch)(sp:Sp)(nt:Nts):Mch:={m with sp:=sp,nt:=nt}
abbrev RA:Obj:=.cells #[.int .i64 0,.bool false,.slice none 0 0,.int .i64 0,.int .i64 0,.int .i64 0,.slice none 0 0,.int .i64 0,.int .i64 0,.int .i64 0,.int .i64 0] 52 (0,0)
abbrev Ry (c:TCmd)(w0 w1 w2 w3:Value):Obj:=.cells #[.int .i64 c.fKind,.int .i64 c.fTxn,.int .i64 c.fSeq,.int .i64 c.fAt.fWall,.int .i64 c.fAt.fLogic,.int .i64 c.fTo.fWall,.int .i64 c.fTo.fLogic,.int .i64 c.fBy,.bool c.fYes,.bool c.fDel,w0,w1,w2,w3,.int .i64 c.fMost] 56 (0,0)
theorem Or (hM:MOk m N)(hN:N≤5000)(hF:MF I V m)(hSp:SpR I s SX m.sp m.nt)(hc:TCmdV I c cc)(hk:PostK K b F I (FX m c).1 (FX m c).2):
  CT ω 102 #[pt b,.agg cc.toArray] K I (mL b s V m (SX++F)):=by
 have h1:=hM.vers;have h2:N * N≤25000000:=Nat.mul_le_mul hN hN;have h3:=hM.rows;obtain ⟨w0,w1,w2,w3,rfl,g0,g1,g2,g3⟩:=hc;refine ANB ?_;unfold sh102;refine AV (fun b1=>AV (fun b2=>?_));try simp only [SSd,Nat.reduceAdd]
 refine rdP _ rfl rfl ?_;refine call (Jt b V (KR hF (p:=c.fSpan) ⟨_,_,rfl,g2,g3⟩ ?_));try simp only [SSd,Nat.reduceAdd]
 refine AC (fun e=>?_) (fun e=>?_)
 ·have e1:FX m c=(BM 141,m):=by unfold FX;rw [if_pos (by first|(simp_all;done)|(simp_all;omega)|omega)]
  rw [e1] at hk;repeat' (first|(with_reducible first|refine AZ ?_|refine Aa ?_|refine Ac ?_|refine keepA ?_|refine AV (fun _=>?_))|((with_reducible refine call ?_);refine (Ar ?_))|(with_reducible refine rdb ?_)|((with_reducible first|refine st1 ?_ ?_|refine rdB ?_ ?_);rfl)|(with_reducible refine Ah ?_)|((with_reducible refine Ai ?_ ?_);rfl)|((with_reducible refine stB ?_ ?_ ?_ ?_);rfl;rfl;exact AK rfl)|((with_reducible first|refine rdP _ rfl ?_ ?_|refine As _ rfl ?_ ?_);rfl)|((with_reducible refine stP _ rfl ?_ ?_ ?_ ?_);rfl;rfl;rfl)|(with_reducible first|refine AW (sh102_3.eq_1 ..) ?_|refine AW (sh102_4.eq_1 ..) ?_|refine AW (sh102_6.eq_1 ..) ?_|refine AW (sh102_1.eq_1 ..) ?_|refine AW (sh102.eq_1 ..) ?_|refine And.intro ?_ ?_)|(simp only [SSg,Int.reduceBEq,Int.reduceBNe,Int.reduceLT,Int.reduceLE,beq_self_eq_true,bne_self_eq_false])|(with_reducible first|refine AG (fun _=>?_) (fun _=>?_)|refine AC (fun _=>?_) (fun _=>?_))|(simp only [SSd,Nat.reduceAdd]))
  exact Gh.to (mL b s V m (SX++F)) (Gh.done (hk.go (Ext.refl _) hF hSp (Ee ..)))
 have ho:Nc m.span c.fSpan=true:=by simpa using e
 have e1:FX m c=(BM (resL c (intsOf m.sp.rows) m.sp m.nt).1,AEP m (resL c (intsOf m.sp.rows) m.sp m.nt).2.1 (resL c (intsOf m.sp.rows) m.sp m.nt).2.2):=by unfold FX;rw [if_neg (by simp [ho])]
 rw [e1] at hk;try simp only [SSd,Nat.reduceAdd]
 refine rdb ?_;refine call (Ri (sp:=m.sp) (hSp.view (fun x hx=>by simp [hx])) hM.sp.rise (by omega) (fun I1 iv hI1 hIv=>?_));have hil:=Rh m.sp.rows;generalize intsOf m.sp.rows=its at *;simp only [RL.len hIv,SSd,Nat.reduceAdd];refine loop (fun n' (s':Value×Unit) I' L'=>∃(i:Nat) (sp':Sp) (nt':Nts) (X':LH),n'+i=its.length∧s'=(.int .i64 i,())∧Ext I1 I'∧SpR I' s X' sp' nt'∧SpOk sp'∧sp'.rows.length≤m.sp.rows.length∧Ae sp'.rows≤Ae m.sp.rows+i∧
  resL c its m.sp m.nt=resL c (its.drop i) sp' nt'∧L'=mL b s V m ((b2,RA)::
   (b1,Ry c w0 w1 w2 w3)::(X'++F)))
  its.length ⟨0,m.sp,m.nt,SX,rfl,rfl,Ext.refl _,hSp.mono hI1,hM.sp,Nat.le_refl _,Nat.le_refl _,rfl,rfl⟩ ?_
 rintro n' s' I' L' ⟨i,sp',nt',X',hn,rfl,hI',hS',hok,hrl,hvl,hre,rfl⟩;unfold sh102_1;try simp only [SSd,Nat.reduceAdd]
 refine AC (fun e2=>?_) (fun e2=>?_)
 ·have hi:i < its.length:=by simpa using e2
  obtain ⟨bx,off,cx,hix,hcl,hcx,hcc⟩:=RL.ix hIv (i:=(i:Int)) (by omega) (by omega);rw [Aq hi] at hcx;have hdrop:its.drop i=its[i]::its.drop (i+1):=List.drop_eq_getElem_cons hi;generalize its[i]=x at *;obtain ⟨x0,x1,rfl,k0,k1⟩:=hcx;obtain ⟨xa0,xc0,rfl⟩:=Bytes.form k0;obtain ⟨xa1,xc1,rfl⟩:=Bytes.form k1;have w64:IntKind.i64.wrap ((i:Int)+1)=((i+1:Nat):Int):=by rw [wrap_i64 _ (by omega)];rfl
  simp only [hix,SSd,Nat.reduceAdd];refine rdN hcl (hcc I' _ hI' (fun x hx=>by cases hx)) ?_;repeat' (first|(with_reducible first|refine AFP X' ?_|refine Aa ?_|refine Ac ?_|refine keepA ?_|refine AV (fun _=>?_))|((with_reducible refine call ?_);refine (Ey (p:=c.fSpan) ⟨_,_,rfl,(g2.mono hI1).mono hI',(g3.mono hI1).mono hI'⟩ (k0.mono hI') ?_))|((with_reducible refine call ?_);refine (Ar ?_))|((with_reducible refine call ?_);refine (Cal.split X' (Qz (k:=x.fKey) (txn:=c.fTxn) (yes:=c.fYes) (a:=c.fAt) hS' hok (by omega) (Gt (by omega)) (k0.mono hI') (fun X2 I2 hI2 hS2=>?_))))|(with_reducible refine rdb ?_)|((with_reducible first|refine st1 ?_ ?_|refine rdB ?_ ?_);rfl)|(with_reducible refine Ah ?_)|((with_reducible refine Ai ?_ ?_);rfl)|((with_reducible refine stB ?_ ?_ ?_ ?_);rfl;rfl;exact AK rfl)|((with_reducible first|refine rdP _ rfl ?_ ?_|refine As _ rfl ?_ ?_);rfl)|((with_reducible refine stP _ rfl ?_ ?_ ?_ ?_);rfl;rfl;rfl)|(with_reducible first|refine AW (sh102_3.eq_1 ..) ?_|refine AW (sh102_4.eq_1 ..) ?_|refine AW (sh102_6.eq_1 ..) ?_|refine AW (sh102_1.eq_1 ..) ?_|refine AW (sh102.eq_1 ..) ?_|refine And.intro ?_ ?_)|(simp only [SSg,Int.reduceBEq,Int.reduceBNe,Int.reduceLT,Int.reduceLE,beq_self_eq_true,bne_self_eq_false])|(with_reducible first|refine AG (fun _=>?_) (fun _=>?_)|refine AC (fun _=>?_) (fun _=>?_))|(simp only [SSd,Nat.reduceAdd]))
  ·rename_i q1 q2
   rw [w64];refine Gh.to (mL b s V m ((b2,RA)::(b1,Ry c w0 w1 w2 w3)::(X'++F))) (Gh.done ⟨n' - 1,by omega,i+1,sp',nt',X',by omega,rfl,hI',hS',hok,hrl,by omega,?_,rfl⟩);rw [hre,hdrop,Pm (.inr (by first|(simp_all;done)|(simp_all;omega)|omega))]
  ·rename_i q1 q2 q3
   have hq:¬(x.fTxn≠c.fTxn∨inB c.fSpan x.fKey=false):=by simp at q1 q2;simp [q1,q2]
   rw [hre,hdrop,AEQ hq (by simpa using q3)] at hk;exact Gh.to (mL b s V (AEP m (Dv sp' x.fKey c.fTxn c.fYes c.fAt) (GN sp' x.fKey c.fTxn c.fYes c.fAt nt')) (X2++F)) (Gh.done (hk.go (hI1.trans (hI'.trans hI2)) {hF.mono (hI1.trans (hI'.trans hI2)) with} hS2 (Ee ..)))
  ·rename_i q1 q2 q3
   have hq:¬(x.fTxn≠c.fTxn∨inB c.fSpan x.fKey=false):=by simp at q1 q2;simp [q1,q2]
   have hlen:=Xd (k:=x.fKey) (txn:=c.fTxn) (yes:=c.fYes) (a:=c.fAt) hok;rw [w64];refine Gh.to (mL b s V m ((b2,RA)::(b1,Ry c w0 w1 w2 w3)::(X2++F))) (Gh.done ⟨n' - 1,by omega,i+1,_,_,X2,by omega,rfl,hI'.trans hI2,hS2,hok.res,by omega,by omega,?_,rfl⟩);rw [hre,hdrop,Ys hq (by simpa using q3)]
  ·rename_i q1
   rw [w64];refine Gh.to (mL b s V m ((b2,RA)::(b1,Ry c w0 w1 w2 w3)::(X'++F))) (Gh.done ⟨n' - 1,by omega,i+1,sp',nt',X',by omega,rfl,hI',hS',hok,hrl,by omega,?_,rfl⟩);rw [hre,hdrop,Pm (.inl (by simpa using q1))]
 ·have hi:i=its.length:=by simp at e2;omega
  rw [hre,hi,List.drop_length] at hk;repeat' (first|(with_reducible first|refine AZ ?_|refine Aa ?_|refine Ac ?_|refine keepA ?_|refine AV (fun _=>?_)|refine rdb ?_)|((with_reducible first|refine st1 ?_ ?_|refine rdB ?_ ?_);rfl)|(with_reducible refine Ah ?_)|((with_reducible refine Ai ?_ ?_);rfl)|((with_reducible refine stB ?_ ?_ ?_ ?_);rfl;rfl;exact AK rfl)|((with_reducible first|refine rdP _ rfl ?_ ?_|refine As _ rfl ?_ ?_);rfl)|((with_reducible refine stP _ rfl ?_ ?_ ?_ ?_);rfl;rfl;rfl)|(with_reducible first|refine AW (sh102_3.eq_1 ..) ?_|refine AW (sh102_4.eq_1 ..) ?_|refine AW (sh102_6.eq_1 ..) ?_|refine AW (sh102_1.eq_1 ..) ?_|refine AW (sh102.eq_1 ..) ?_|refine And.intro ?_ ?_)|(simp only [SSg,Int.reduceBEq,Int.reduceBNe,Int.reduceLT,Int.reduceLE,beq_self_eq_true,bne_self_eq_false])|(with_reducible first|refine AG (fun _=>?_) (fun _=>?_)|refine AC (fun _=>?_) (fun _=>?_))|(simp only [SSd,Nat.reduceAdd]))
  exact Gh.to (mL b s V (AEP m sp' nt') (X'++F)) (Gh.done (hk.go (hI1.trans hI') {hF.mono (hI1.trans hI') with} hS' (Ee ..)))
end
def JG (c:TCmd):Bool:=c.fSeq==0&&(c.fBy==0&&(c.fMost==0&&((c.fTo.fWall==0&&c.fTo.fLogic==0)&&(!c.fYes&&(!c.fDel&&(c.fKey.length==0&&(c.fValue.length==0&&(c.fSpan.fFrom.length==0&&c.fSpan.fTo.length==0))))))))
theorem APA {a b c d:Nat}(ha:a≤140737488355328)(hb:b≤140737488355328)(hc:c≤140737488355328)(hd:d≤140737488355328):
  IntKind.i64.wrap (IntKind.i64.wrap (IntKind.i64.wrap (IntKind.i64.wrap ((a:Int))+b)+c)+d)=(a:Int)+b+c+d:=by
 rw [wrap_i64 (a:Int) (by omega),wrap_i64 ((a:Int)+b) (by omega),wrap_i64 ((a:Int)+b+c) (by omega),wrap_i64 ((a:Int)+b+c+d) (by omega)]
structure Lens (c:TCmd):Prop where
 k:c.fKey.length≤140737488355328
 v:c.fValue.length≤140737488355328
 f:c.fSpan.fFrom.length≤140737488355328
 t:c.fSpan.fTo.length≤140737488355328
section
variable {ω:Om}{I:Imm}{L:LH}{K:Value→M}
theorem Vg {c:TCmd}{cc:List Value}(hc:TCmdV I c cc)(hL:Lens c)(hk:K (.bool (JG c)) I L):CT ω 92 #[.agg cc.toArray] K I L:=by
 obtain ⟨w0,w1,w2,w3,rfl,g0,g1,g2,g3⟩:=hc;have hl:=APA hL.k hL.v hL.f hL.t;refine ANs ?_;unfold sh92;by_cases hz:c.fSeq=0∧c.fBy=0∧c.fMost=0
 ·obtain ⟨z1,z2,z3⟩:=hz;have hl2:IntKind.i64.wrap (IntKind.i64.wrap (IntKind.i64.wrap (IntKind.i64.wrap (IntKind.i64.wrap (IntKind.i64.wrap ((0:Int)+0)+0)+c.fKey.length)+c.fValue.length)+c.fSpan.fFrom.length)+c.fSpan.fTo.length)=(c.fKey.length:Int)+c.fValue.length+c.fSpan.fFrom.length+c.fSpan.fTo.length:=by
   rw [show IntKind.i64.wrap ((0:Int)+0)=0 from rfl,show IntKind.i64.wrap ((0:Int)+0)=0 from rfl,Int.zero_add,hl]
  have he:JG c=(((c.fKey.length:Int)+c.fValue.length+c.fSpan.fFrom.length+c.fSpan.fTo.length==0)&&((c.fTo.fWall==0&&c.fTo.fLogic==0)&&(!c.fYes&& !c.fDel))):=by
   unfold JG;rw [z1,z2,z3,Bool.eq_iff_iff];have e4:((c.fKey.length:Int)+c.fValue.length+c.fSpan.fFrom.length+c.fSpan.fTo.length=0)↔(c.fKey.length=0∧c.fValue.length=0∧c.fSpan.fFrom.length=0∧c.fSpan.fTo.length=0):=by omega
   simp only [Bool.and_eq_true,beq_iff_eq,Bool.not_eq_true',beq_self_eq_true,true_and,e4];constructor
   ·rintro ⟨a1,a2,a3,a4,a5,a6,a7⟩;exact ⟨⟨a4,a5,a6,a7⟩,a1,a2,a3⟩
   ·rintro ⟨⟨a4,a5,a6,a7⟩,a1,a2,a3⟩;exact ⟨a1,a2,a3,a4,a5,a6,a7⟩
  rw [he] at hk;repeat' (first|(with_reducible first|refine AZ ?_|refine Aa ?_|refine Ac ?_|refine keepA ?_|refine AV (fun _=>?_)|refine rdb ?_)|((with_reducible first|refine st1 ?_ ?_|refine rdB ?_ ?_);rfl)|(with_reducible refine Ah ?_)|((with_reducible refine Ai ?_ ?_);rfl)|((with_reducible refine stB ?_ ?_ ?_ ?_);rfl;rfl;exact AK rfl)|((with_reducible first|refine rdP _ rfl ?_ ?_|refine As _ rfl ?_ ?_);rfl)|((with_reducible refine stP _ rfl ?_ ?_ ?_ ?_);rfl;rfl;rfl)|(with_reducible first|refine AW (sh92.eq_1 ..) ?_|refine And.intro ?_ ?_)|(simp only [SSg,Int.reduceBEq,Int.reduceBNe,Int.reduceLT,Int.reduceLE,beq_self_eq_true,bne_self_eq_false])|(with_reducible first|refine AG (fun _=>?_) (fun _=>?_)|refine AC (fun _=>?_) (fun _=>?_))|(simp only [SSd,Nat.reduceAdd,z1,z2,z3,hl2,Bytes.len g0,Bytes.len g1,Bytes.len g2,Bytes.len g3]))
  all_goals (refine Gh.to L (Gh.done (EW hk ?_));simp_all)
 ·have he:JG c=false:=by
   unfold JG;rw [Bool.eq_false_iff];intro h;simp only [Bool.and_eq_true,beq_iff_eq] at h;exact hz ⟨h.1,h.2.1,h.2.2.1⟩
  rw [he] at hk;repeat' (first|(with_reducible first|refine AZ ?_|refine Aa ?_|refine Ac ?_|refine keepA ?_|refine AV (fun _=>?_)|refine rdb ?_)|((with_reducible first|refine st1 ?_ ?_|refine rdB ?_ ?_);rfl)|(with_reducible refine Ah ?_)|((with_reducible refine Ai ?_ ?_);rfl)|((with_reducible refine stB ?_ ?_ ?_ ?_);rfl;rfl;exact AK rfl)|((with_reducible first|refine rdP _ rfl ?_ ?_|refine As _ rfl ?_ ?_);rfl)|((with_reducible refine stP _ rfl ?_ ?_ ?_ ?_);rfl;rfl;rfl)|(with_reducible first|refine AW (sh92.eq_1 ..) ?_|refine And.intro ?_ ?_)|(simp only [SSg,Int.reduceBEq,Int.reduceBNe,Int.reduceLT,Int.reduceLE,beq_self_eq_true,bne_self_eq_false])|(with_reducible first|refine AG (fun _=>?_) (fun _=>?_)|refine AC (fun _=>?_) (fun _=>?_))|(simp only [SSd,Nat.reduceAdd,Bytes.len g0,Bytes.len g1,Bytes.len g2,Bytes.len g3]))
  all_goals (refine Gh.to L (Gh.done (EW hk ?_));simp_all)
theorem Ig (I:Imm):Bytes I (.slice none 0 0) []:=SlI.nil I 1 none 0
theorem ALT {k t s aw al tw tl b mo:Int}{y d:Bool}{w0 w1 w2 w3:Value}{key value fr to:List UInt8}(g0:Bytes I w0 key)(g1:Bytes I w1 value)(g2:Bytes I w2 fr)(g3:Bytes I w3 to)
  (l0:key.length≤140737488355328) (l1:value.length≤140737488355328) (l2:fr.length≤140737488355328) (l3:to.length≤140737488355328)
  (hk:K (.bool (JG ⟨k,t,s,⟨aw,al⟩,⟨tw,tl⟩,b,y,d,key,value,⟨fr,to⟩,mo⟩)) I L):
  CT ω 92 #[.agg #[.int .i64 k,.int .i64 t,.int .i64 s,.int .i64 aw,.int .i64 al,.int .i64 tw,.int .i64 tl,.int .i64 b,.bool y,.bool d,w0,w1,w2,w3,.int .i64 mo]] K I L:=
 Vg (c:=⟨k,t,s,⟨aw,al⟩,⟨tw,tl⟩,b,y,d,key,value,⟨fr,to⟩,mo⟩) ⟨w0,w1,w2,w3,rfl,g0,g1,g2,g3⟩ ⟨l0,l1,l2,l3⟩ hk
set_option maxHeartbeats 2000000 in
theorem NW {rd:Bool}{c:TCmd}{w0 w1 w2 w3:Value}{b1 b2:Nat}(g0:Bytes I w0 c.fKey)(g1:Bytes I w1 c.fValue)(g2:Bytes I w2 c.fSpan.fFrom)(g3:Bytes I w3 c.fSpan.fTo)(hL:Lens c)(hrd:BW c.fTxn=rd)
  (hk:K (.bool (kindOk c)) I L):
  Br (.bool (c.fKind==1))
   (sh33_2 ω (pt b1) (.bool false) (.bool rd) (.bool (CB c.fTxn)) (pt b2) (fun v=>Gh (K v)))
   (sh33_5 ω (pt b1) (.bool false) (.bool rd) (.bool (CB c.fTxn)) (pt b2) (.int .i64 c.fKind) (fun v=>Gh (K v))) I
   ((b2,.cells #[.int .i64 0,.int .i64 0,.int .i64 c.fSeq,.int .i64 0,.int .i64 0,.int .i64 c.fTo.fWall,.int .i64 c.fTo.fLogic,.int .i64 c.fBy,.bool c.fYes,.bool c.fDel,w0,w1,w2,w3,.int .i64 c.fMost] 56 (0,0))::(b1,Ry c w0 w1 w2 w3)::L):=by
 subst hrd;have h12:c.fKind=1∨c.fKind=2∨c.fKind=3∨c.fKind=4∨c.fKind=5∨c.fKind=6∨c.fKind=7∨c.fKind=8∨c.fKind=9∨c.fKind=10∨c.fKind=11∨(c.fKind < 1∨11 < c.fKind):=by omega
 rcases h12 with hK|hK|hK|hK|hK|hK|hK|hK|hK|hK|hK|hK
 rotate_right
 ·have n1:c.fKind≠1:=by omega
  have n2:c.fKind≠2:=by omega
  have n3:c.fKind≠3:=by omega
  have n4:c.fKind≠4:=by omega
  have n5:c.fKind≠5:=by omega
  have n6:c.fKind≠6:=by omega
  have n7:c.fKind≠7:=by omega
  have n8:c.fKind≠8:=by omega
  have n9:c.fKind≠9:=by omega
  have n10:c.fKind≠10:=by omega
  have n11:c.fKind≠11:=by omega
  have hz:kindOk c=false:=by unfold kindOk;simp [n1,n2,n3,n4,n5,n6,n7,n8,n9,n10,n11]
  have beq:∀n:Int,c.fKind≠n→(c.fKind==n)=false:=fun n h=>by simpa using h
  repeat' (first|(with_reducible first|refine AZ ?_|refine Aa ?_|refine Ac ?_|refine keepA ?_|refine AV (fun _=>?_)|refine rdb ?_)|((with_reducible first|refine st1 ?_ ?_|refine rdB ?_ ?_);rfl)|(with_reducible refine Ah ?_)|((with_reducible refine Ai ?_ ?_);rfl)|((with_reducible refine stB ?_ ?_ ?_ ?_);rfl;rfl;exact AK rfl)|((with_reducible first|refine rdP _ rfl ?_ ?_|refine As _ rfl ?_ ?_);rfl)|((with_reducible refine stP _ rfl ?_ ?_ ?_ ?_);rfl;rfl;rfl)|(with_reducible first|refine AW (sh33_4.eq_1 ..) ?_|refine AW (sh33_2.eq_1 ..) ?_|refine AW (sh33_5.eq_1 ..) ?_|refine AW (sh33.eq_1 ..) ?_|refine And.intro ?_ ?_)|(simp only [SSg,Int.reduceBEq,Int.reduceBNe,Int.reduceLT,Int.reduceLE,beq_self_eq_true,bne_self_eq_false])|(with_reducible first|refine AG (fun _=>?_) (fun _=>?_)|refine AC (fun _=>?_) (fun _=>?_))|(simp only [SSd,Nat.reduceAdd,beq _ n1,beq _ n2,beq _ n3,beq _ n4,beq _ n5,beq _ n6,beq _ n7,beq _ n8,beq _ n9,beq _ n10,beq _ n11]))
  all_goals (rw [hz] at hk;first|exact Gh.to L (Gh.done hk)|(rename_i q1 q2;simp [n1] at q1))
 all_goals repeat' (first|(with_reducible first|refine AZ ?_|refine Aa ?_|refine Ac ?_|refine keepA ?_|refine AV (fun _=>?_))|((with_reducible refine call ?_);refine (ZB g0 ?_))|((with_reducible refine call ?_);refine (IL ?_))|((with_reducible refine call ?_);refine (ALT (by first|exact g0|exact Ig I) (by first|exact g1|exact Ig I) (by first|exact g2|exact Ig I) (by first|exact g3|exact Ig I) (by first|exact hL.k|exact Nat.zero_le _) (by first|exact hL.v|exact Nat.zero_le _) (by first|exact hL.f|exact Nat.zero_le _) (by first|exact hL.t|exact Nat.zero_le _) ?_))|(with_reducible refine rdb ?_)|((with_reducible first|refine st1 ?_ ?_|refine rdB ?_ ?_);rfl)|(with_reducible refine Ah ?_)|((with_reducible refine Ai ?_ ?_);rfl)|((with_reducible refine stB ?_ ?_ ?_ ?_);rfl;rfl;exact AK rfl)|((with_reducible first|refine rdP _ rfl ?_ ?_|refine As _ rfl ?_ ?_);rfl)|((with_reducible refine stP _ rfl ?_ ?_ ?_ ?_);rfl;rfl;rfl)|(with_reducible first|refine AW (sh33_4.eq_1 ..) ?_|refine AW (sh33_2.eq_1 ..) ?_|refine AW (sh33_5.eq_1 ..) ?_|refine AW (sh33.eq_1 ..) ?_|refine And.intro ?_ ?_)|(simp only [SSg,Int.reduceBEq,Int.reduceBNe,Int.reduceLT,Int.reduceLE,beq_self_eq_true,bne_self_eq_false])|(with_reducible first|refine AG (fun _=>?_) (fun _=>?_)|refine AC (fun _=>?_) (fun _=>?_))|(simp only [SSd,Nat.reduceAdd,hK,Bytes.len g1]))
 all_goals (refine Gh.to L (Gh.done (EW hk ?_));simp_all [kindOk,JG,GU,HF,DD,Np,ALA])
 all_goals first|done|ac_rfl|(intros;omega)|(have hv:c.fValue.length≤10000:=(by omega);simp only [hv,decide_true,Bool.true_and];ac_rfl)|trace_state
theorem Ux {c:TCmd}{cc:List Value}(hc:TCmdV I c cc)(hL:Lens c)(hk:K (.bool (CZ c)) I L):CT ω 33 #[.agg cc.toArray] K I L:=by
 obtain ⟨w0,w1,w2,w3,rfl,g0,g1,g2,g3⟩:=hc;obtain ⟨y0,z0',rfl⟩:=Bytes.form g0;obtain ⟨y1,z1,rfl⟩:=Bytes.form g1;obtain ⟨y2,z2,rfl⟩:=Bytes.form g2;obtain ⟨y3,z3,rfl⟩:=Bytes.form g3;have hr:AU c.fAt=true→AU c.fTo=true→DW c.fSpan=true→¬c.fSeq < 0→¬c.fSeq > 9007199254740991→K (.bool (kindOk c)) I L:=by
  intro h1 h2 h3 h4 h5;have:CZ c=kindOk c:=by unfold CZ;simp [h1,h2,h3,show 0≤c.fSeq∧c.fSeq≤9007199254740991 by omega]
  rwa [this] at hk
 have h0:c.fTxn=0→BW c.fTxn=true:=fun h=>by simp [BW,h]
 have h00:c.fTxn≠0→BW c.fTxn=CB c.fTxn:=fun h=>by simp [BW,h]
 refine AOS ?_;unfold sh33;refine AV (fun b1=>?_);try simp only [SSd,Nat.reduceAdd]
 refine rdP [.int .i64 c.fAt.fWall,.int .i64 c.fAt.fLogic] rfl rfl ?_;refine call (BS (x:=c.fAt) ?_);try simp only [SSd,Nat.reduceAdd]
 refine AG (fun e1=>?_) (fun e1=>?_);rotate_left
 ·exact Gh.to L (Gh.done (EW hk (by simp_all [CZ])))
 try simp only [SSd,Nat.reduceAdd]
 refine rdP [.int .i64 c.fTo.fWall,.int .i64 c.fTo.fLogic] rfl rfl ?_;refine call (BS (x:=c.fTo) ?_);try simp only [SSd,Nat.reduceAdd]
 refine AG (fun e2=>?_) (fun e2=>?_);rotate_left
 ·exact Gh.to L (Gh.done (EW hk (by simp_all [CZ])))
 try simp only [SSd,Nat.reduceAdd]
 refine rdP _ rfl rfl ?_;try simp only [SSd,Nat.reduceAdd]
 refine call (Iz (p:=c.fSpan) ⟨_,_,rfl,g2,g3⟩ ?_);try simp only [SSd,Nat.reduceAdd]
 refine AG (fun e3=>?_) (fun e3=>?_);rotate_left
 ·exact Gh.to L (Gh.done (EW hk (by simp_all [CZ])))
 try simp only [SSd,Nat.reduceAdd]
 refine rdb ?_;try simp only [SSd,Nat.reduceAdd]
 refine AG (fun e4=>?_) (fun e4=>?_);rotate_left
 ·exact Gh.to L (Gh.done (EW hk (by simp_all [CZ];intros;omega)))
 try simp only [SSd,Nat.reduceAdd]
 refine rdb ?_;try simp only [SSd,Nat.reduceAdd]
 refine AC (fun e5=>?_) (fun e5=>?_)
 ·exact Gh.to L (Gh.done (EW hk (by simp_all [CZ];intros;omega)))
 have hk':=hr (by simpa using e1) (by simpa using e2) (by simpa using e3) (by simpa using e4) (by simpa using e5);clear hk hr;try simp only [SSd,Nat.reduceAdd]
 refine rdb ?_;try simp only [SSd,Nat.reduceAdd]
 refine AG (fun e6=>?_) (fun e6=>?_)
 ·refine rdb ?_;refine call (IL ?_);repeat' (first|(with_reducible first|refine AZ ?_|refine Aa ?_|refine Ac ?_|refine keepA ?_|refine AV (fun _=>?_)|refine NW g0 g1 g2 g3 hL ?_ ?_)|((with_reducible refine call ?_);refine (IL ?_))|(with_reducible refine rdb ?_)|((with_reducible first|refine st1 ?_ ?_|refine rdB ?_ ?_);rfl)|(with_reducible refine Ah ?_)|((with_reducible refine Ai ?_ ?_);rfl)|((with_reducible refine stB ?_ ?_ ?_ ?_);rfl;rfl;exact AK rfl)|((with_reducible first|refine rdP _ rfl ?_ ?_|refine As _ rfl ?_ ?_);rfl)|((with_reducible refine stP _ rfl ?_ ?_ ?_ ?_);rfl;rfl;rfl)|(with_reducible first|refine AW (sh33_4.eq_1 ..) ?_|refine AW (sh33_2.eq_1 ..) ?_|refine AW (sh33_5.eq_1 ..) ?_|refine AW (sh33.eq_1 ..) ?_|refine And.intro ?_ ?_)|(simp only [SSg,Int.reduceBEq,Int.reduceBNe,Int.reduceLT,Int.reduceLE,beq_self_eq_true,bne_self_eq_false])|(with_reducible first|refine AG (fun _=>?_) (fun _=>?_)|refine AC (fun _=>?_) (fun _=>?_))|(simp only [SSd,Nat.reduceAdd]))
  all_goals first|exact hk'|exact h00 (by simpa using e6)
 ·repeat' (first|(with_reducible first|refine AZ ?_|refine Aa ?_|refine Ac ?_|refine keepA ?_|refine AV (fun _=>?_)|refine NW g0 g1 g2 g3 hL ?_ ?_)|((with_reducible refine call ?_);refine (IL ?_))|(with_reducible refine rdb ?_)|((with_reducible first|refine st1 ?_ ?_|refine rdB ?_ ?_);rfl)|(with_reducible refine Ah ?_)|((with_reducible refine Ai ?_ ?_);rfl)|((with_reducible refine stB ?_ ?_ ?_ ?_);rfl;rfl;exact AK rfl)|((with_reducible first|refine rdP _ rfl ?_ ?_|refine As _ rfl ?_ ?_);rfl)|((with_reducible refine stP _ rfl ?_ ?_ ?_ ?_);rfl;rfl;rfl)|(with_reducible first|refine AW (sh33_4.eq_1 ..) ?_|refine AW (sh33_2.eq_1 ..) ?_|refine AW (sh33_5.eq_1 ..) ?_|refine AW (sh33.eq_1 ..) ?_|refine And.intro ?_ ?_)|(simp only [SSg,Int.reduceBEq,Int.reduceBNe,Int.reduceLT,Int.reduceLE,beq_self_eq_true,bne_self_eq_false])|(with_reducible first|refine AG (fun _=>?_) (fun _=>?_)|refine AC (fun _=>?_) (fun _=>?_))|(simp only [SSd,Nat.reduceAdd]))
  all_goals first|exact hk'|exact h0 (by simpa using e6)
abbrev AEo (p:TSpan)(sp:Sp)(nt:Nts):Mch:=⟨p,sp,nt,[],mk0,[],[],0,[]⟩
theorem KZ {p:TSpan}{pc:List Value}{s:Nat}(sp:Sp)(nt:Nts)(hp:TSpanV I p pc)(h1:p.fFrom.length≤140737488355328)(h2:p.fTo.length≤140737488355328)
  (hk:∀b V I',Ext I I'→MF I' V (AEo p sp nt)→K (pt b) I' (mL b s V (AEo p sp nt) L)):
  CT ω 31 #[.agg pc.toArray,pt s] K I L:=by
 obtain ⟨v0,v1,rfl,g0,g1⟩:=hp;refine AOU ?_;unfold sh31;refine AV (fun b1=>?_);repeat' (first|(with_reducible first|refine AZ ?_|refine Aa ?_|refine Ac ?_|refine keepA ?_|refine AV (fun _=>?_))|((with_reducible refine call ?_);refine (FG g0 h1 (fun a0 c0 I1 hI1 hB1=>?_)))|((with_reducible refine call ?_);refine (FG (g1.mono hI1) h2 (fun a1 c1 I2 hI2 hB2=>?_)))|(with_reducible refine rdb ?_)|((with_reducible first|refine st1 ?_ ?_|refine rdB ?_ ?_);rfl)|(with_reducible refine Ah ?_)|((with_reducible refine Ai ?_ ?_);rfl)|((with_reducible refine stB ?_ ?_ ?_ ?_);rfl;rfl;exact AK rfl)|((with_reducible first|refine rdP _ rfl ?_ ?_|refine As _ rfl ?_ ?_);rfl)|((with_reducible refine stP _ rfl ?_ ?_ ?_ ?_);rfl;rfl;rfl)|(with_reducible first|refine AW (sh31.eq_1 ..) ?_|refine And.intro ?_ ?_)|(simp only [SSg,Int.reduceBEq,Int.reduceBNe,Int.reduceLT,Int.reduceLE,beq_self_eq_true,bne_self_eq_false])|(with_reducible first|refine AG (fun _=>?_) (fun _=>?_)|refine AC (fun _=>?_) (fun _=>?_))|(simp only [SSd,Nat.reduceAdd]))
 refine RZ (fun m1=>Gh.done (RZ (fun m2=>Gh.done (RZ (fun m3=>Gh.done ?_)))));try simp only [SSd,Nat.reduceAdd]
 refine AV (fun b=>?_);refine Gh.to (mL b s ⟨m1,m2,m3,.slice a0 p.fFrom.length c0,.slice a1 p.fTo.length c1,.slice none 0 0,#[],0,#[],0,#[],0⟩ (AEo p sp nt) L) (Gh.done (hk b _ I2 (hI1.trans hI2) ⟨hB1.mono hI2,hB2,MapS.empty,MapSi.empty,MapSi.empty,Ig I2⟩))
theorem IM {p:TSpan}{pc:List Value}(hp:TSpanV I p pc)(h0:DW p=false→K (.tuple #[.pointer none,.int .i64 1]) I L)
  (hk:DW p=true→∀b X I',Ext I I'→MchR I' b X (HG p)→K (.tuple #[pt b,.int .i64 0]) I' (X++L)):CT ω 11 #[.agg pc.toArray] K I L:=by
 have hp':=hp;obtain ⟨v0,v1,rfl,g0,g1⟩:=hp;refine AOd ?_;unfold AKn;refine AV (fun b1=>?_);refine rdB rfl ?_;refine call (Iz (p:=p) hp' ?_);try simp only [SSd,Nat.reduceAdd]
 refine AC (fun e=>?_) (fun e=>?_)
 ·exact Gh.to L (Gh.done (h0 (by simpa using e)))
 ·have he:DW p=true:=by simpa using e
  have hl:p.fFrom.length≤111∧p.fTo.length≤111:=by
   simp only [DW,Bool.and_eq_true,decide_eq_true_eq] at he;exact he.1
  refine AZ ?_;refine Ai rfl ?_;refine Bz (Nr (fun bs SX hS=>Gh.done ?_));refine FC (Ext.refl _) ?_;refine call (KZ sp0 nt0 (p:=p) hp' (by omega) (by omega) (fun b V I' hI hF=>?_));try simp only [SSd,Nat.reduceAdd]
  exact Gh.to (mL b bs V (AEo p sp0 nt0) (SX++L)) (Gh.done (hk he b (mL b bs V (AEo p sp0 nt0) SX) I' hI ⟨bs,V,SX,List.Perm.refl _,hF,hS.mono hI⟩))
end
def HY (I:Imm)(v:Value)(f:FuncId):Prop:=∃q,v= .func (.func 147) #[] #[pt q]∧I q=some (.cells #[.func (.func f) #[] #[]] 181 (0,0))
abbrev EF (q:Nat):Value:=.func (.func 147) #[] #[pt q]
theorem ANG (q1 q2 q3 q4 q5 q6 q7 q8 q9 q10:Nat):UD 1 #[Value.nilFunc,Value.nilFunc,Value.nilFunc,Value.nilFunc,Value.nilFunc,Value.nilFunc,Value.nilFunc,Value.nilFunc,Value.nilFunc,Value.nilFunc,Value.nilFunc,Value.nilFunc] [(1,EF q1),(2,EF q2),(3,EF q3),(4,EF q4),(5,EF q5),(6,EF q6),(7,EF q7),(8,EF q8),(9,EF q9),(10,EF q10),(11,.func (.func 104) #[] #[])]=some (.agg #[.nilFunc,EF q1,EF q2,EF q3,EF q4,EF q5,EF q6,EF q7,EF q8,EF q9,EF q10,.func (.func 104) #[] #[]]):=by kernel_rfl
section
variable {ω:Om}{I:Imm}{L:LH}{K:Value→M}
theorem Cc {f:FuncId}(hk:∀q I',Ext I I'→I' q=some (.cells #[.func (.func f) #[] #[]] 181 (0,0))→K (EF q) I' L):CT ω 93 #[.func (.func f) #[] #[]] K I L:=by
 refine ANr ?_;unfold AKR;refine AV (fun q=>?_);refine Gh.freeze fun hI=>Gh.done (hk _ _ hI (by simp [Imm.put,Value.cells]))
theorem To (hk : ∀ I' v1 v2 v3 v4 v5 v6 v7 v8 v9 v10, Ext I I' → HY I' v1 94 → HY I' v2 95 → HY I' v3 96 → HY I' v4 97 → HY I' v5 98 →
      HY I' v6 99 → HY I' v7 100 → HY I' v8 101 → HY I' v9 102 → HY I' v10 103 →
      K (.agg #[.nilFunc, v1, v2, v3, v4, v5, v6, v7, v8, v9, v10, .func (.func 104) #[] #[]]) I' L) :
    CT ω 35 #[] K I L := by
  refine AOQ ?_
  unfold AKg
  refine AV (fun b => ?_)
  refine call (Cc (fun q1 I1 hI1 g1 => ?_))
  refine call (Cc (fun q2 I2 hI2 g2 => ?_))
  refine call (Cc (fun q3 I3 hI3 g3 => ?_))
  refine call (Cc (fun q4 I4 hI4 g4 => ?_))
  refine call (Cc (fun q5 I5 hI5 g5 => ?_))
  refine call (Cc (fun q6 I6 hI6 g6 => ?_))
  refine call (Cc (fun q7 I7 hI7 g7 => ?_))
  refine call (Cc (fun q8 I8 hI8 g8 => ?_))
  refine call (Cc (fun q9 I9 hI9 g9 => ?_))
  refine call (Cc (fun q10 I10 hI10 g10 => ?_))
  have t9 := hI10
  have t8 := hI9.trans t9
  have t7 := hI8.trans t8
  have t6 := hI7.trans t7
  have t5 := hI6.trans t6
  have t4 := hI5.trans t5
  have t3 := hI4.trans t4
  have t2 := hI3.trans t3
  have t1 := hI2.trans t2
  have hk' := hk I10 (EF q1) (EF q2) (EF q3) (EF q4) (EF q5) (EF q6) (EF q7) (EF q8) (EF q9) (EF q10) (hI1.trans t1) ⟨q1, rfl, t1 _ _ g1⟩ ⟨q2, rfl, t2 _ _ g2⟩ ⟨q3, rfl, t3 _ _ g3⟩ ⟨q4, rfl, t4 _ _ g4⟩ ⟨q5, rfl, t5 _ _ g5⟩ ⟨q6, rfl, t6 _ _ g6⟩ ⟨q7, rfl, t7 _ _ g7⟩ ⟨q8, rfl, t8 _ _ g8⟩ ⟨q9, rfl, t9 _ _ g9⟩ ⟨q10, rfl, g10⟩
  clear t1 t2 t3 t4 t5 t6 t7 t8 t9 hk
  rw [ANG]
  simp only [DX]
  refine stB rfl rfl (AK rfl) ?_
  refine rdB rfl ?_
  exact Gh.to L (Gh.done hk')
theorem YE {P:Program}{f:FuncId}{args:Array Value}(he:Bh P f=true)(h:Cal P ω f args K I L):CalV P ω (.func (.func f) #[] #[]) args K I L:=by
 unfold CalV;simp only
 rw [if_pos he];simpa using h
theorem Tz {P:Program}{f:FuncId}{args cap:Array Value}(he:Bh P f=true)(h:Cal P ω f (args++cap) K I L):CalV P ω (.func (.func f) #[] cap) args K I L:=by
 unfold CalV;simp only
 rw [if_pos he];simpa using h
def AOn (ω:Om)(f:FuncId)(I:Imm)(m:Mch)(c:TCmd)(r:TRes)(m':Mch):Prop:=
 ∀(K:Value→M) (b s:Nat) (V:MV) (SX F:LH) (cc:List Value),TCmdV I c cc→MF I V m→SpR I s SX m.sp m.nt→PostK K b F I r m'→CT ω f #[pt b,.agg cc.toArray] K I (mL b s V m (SX++F))
theorem Yd {I:Imm}{r:TRes}{cells:List Value}(h:TResV I r cells):cells.length=11:=by
 obtain ⟨v0,v1,rfl,_⟩:=h;rfl
theorem Vh {b:Nat}{X F:LH}{m m':Mch}{r:TRes}{c:TCmd}{cc:List Value}{v:Value}{f:FuncId}(hD:HY I v f)(he:Bh Tryz.prog f=true)(hc:TCmdV I c cc)(hM:MchR I b X m)(hf:AOn ω f I m c r m')
  (hk:∀I' X' cells,Ext I I'→MchR I' b X' m'→TResV I' r cells→K (.tuple #[.agg cells.toArray,.pointer none]) I' (X'++F)) (hL:L.Perm (X++F)):CW ω v #[pt b,.agg cc.toArray] K I L:=by
 obtain ⟨q,rfl,hq⟩:=hD;obtain ⟨s,V,SX,hp,hF,hS⟩:=hM;refine Tz (show Bh Tryz.prog 147=true by kernel_rfl) ?_;have hc':=hc;obtain ⟨w0,w1,w2,w3,rfl,g0,g1,g2,g3⟩:=hc;refine AMj ?_;unfold ACv;refine AV (fun b1=>AV (fun b2=>?_));refine rd1 (Cell.imm hq rfl) ?_;refine rdB rfl ?_;refine YE he ?_;refine Bz (Cal.perm (L':=mL b s V m (SX++((b2,RA)::(b1,Ry c w0 w1 w2 w3)::F))) (AP (by simp only [AM,BA hL,AN,BA hp];((try simp only [AM,AN,AY,AQ]);(try ac_rfl)))) ?_);refine hf _ b s V SX _ _ hc' hF hS (fun I' X' cells hI hM' hr=>?_);have hr1:=hr.one;have hrl:=Yd hr;refine Gh.done ?_;obtain ⟨x0,x1,rfl,_,_⟩:=id hr;refine stB rfl rfl hr1 ?_;refine rdB rfl ?_;exact Gh.to (X'++F) (Gh.done (hk I' X' _ hI hM' hr))
def plainR (r:TRes):Prop:=r.fGot=DF∧r.fRows=[]
theorem plainR.V {r:TRes}(h:plainR r)(I:Imm):TResV I r [.int .i64 r.fCode,.bool false,.slice none 0 0,.int .i64 0,.int .i64 0,.int .i64 0,.slice none 0 0,.int .i64 r.fAt.fWall,.int .i64 r.fAt.fLogic,.int .i64 r.fBy,.int .i64 r.fState]:=by
 obtain ⟨e,g,l,a,n,s⟩:=r;obtain ⟨h1,h2⟩:=h;simp only at h1 h2
 subst h1 h2;exact Ee I e a n s
theorem US {m:Mch}{c:TCmd}{r:TRes}(h:Bl m c=some r):plainR r:=by
 unfold Bl at h;split at h
 ·split at h
  ·cases h;exact ⟨rfl,rfl⟩
  ·split at h
   ·cases h;exact ⟨rfl,rfl⟩
   ·cases h
 ·split at h
  ·cases h;exact ⟨rfl,rfl⟩
  ·cases h
theorem Vt {m:Mch}{c:TCmd}:plainR (FR m c).1∧(FR m c).2.sp=m.sp∧(FR m c).2.nt=m.nt:=by
 unfold FR;split
 ·rename_i r h;exact ⟨US h,rfl,rfl⟩
 ·split
  ·exact ⟨⟨rfl,rfl⟩,rfl,rfl⟩
  ·rename_i m1 h
   have h2:=Gj h;split
   ·exact ⟨⟨rfl,rfl⟩,h2.2.2.2.1,h2.2.2.2.2.2.2.1⟩
   ·refine ⟨⟨rfl,rfl⟩,?_,?_⟩
    ·show (EZ m1 c 0 z0).sp=_;rw [(II ..).1];exact h2.2.2.2.1
    ·show (EZ m1 c 0 z0).nt=_;rw [(II ..).2];exact h2.2.2.2.2.2.2.1
theorem Vf {m:Mch}{c:TCmd}:plainR (FQ m c).1∧(FQ m c).2.sp=m.sp∧(FQ m c).2.nt=m.nt:=by
 unfold FQ;split
 ·exact ⟨⟨rfl,rfl⟩,rfl,rfl⟩
 ·rename_i m1 h
  have h2:=Gj h;refine ⟨⟨rfl,rfl⟩,?_,?_⟩ <;> (show _=_;simp only;unfold endOf;split)
  ·exact h2.2.2.2.1
  ·exact h2.2.2.2.1
  ·exact h2.2.2.2.2.2.2.1
  ·exact h2.2.2.2.2.2.2.1
theorem TC {m:Mch}{c:TCmd}:plainR (Dc m c).1∧(Dc m c).2.sp=m.sp∧(Dc m c).2.nt=m.nt:=by
 unfold Dc;split
 ·exact ⟨⟨rfl,rfl⟩,rfl,rfl⟩
 ·rename_i m1 h
  have h2:=Gj h;refine ⟨⟨rfl,rfl⟩,?_,?_⟩ <;> (show _=_;simp only;unfold GB;split)
  ·exact h2.2.2.2.1
  ·exact h2.2.2.2.1
  ·exact h2.2.2.2.2.2.2.1
  ·exact h2.2.2.2.2.2.2.1
theorem Vb {m:Mch}{c:TCmd}:plainR (HL m c).1∧(HL m c).2.sp=m.sp∧(HL m c).2.nt=m.nt:=by
 unfold HL;split
 ·exact ⟨⟨rfl,rfl⟩,rfl,rfl⟩
 ·exact ⟨⟨rfl,rfl⟩,rfl,rfl⟩
theorem PostK.plain {b s:Nat}{V':MV}{SX F:LH}{m:Mch}{x:TRes×Mch}(h:PostK K b F I x.1 x.2)(hp:plainR x.1∧x.2.sp=m.sp∧x.2.nt=m.nt)(hS:SpR I s SX m.sp m.nt)(hF:MF I V' x.2):K (rvR x.1) I (mL b s V' x.2 (SX++F)):=
 PostK.go h (Ext.refl _) hF (by rw [hp.2.1,hp.2.2];exact hS) (hp.1.V I)
end
def PostA (K:Value→M)(b:Nat)(F:LH)(I:Imm)(x:TRes×Mch×Option Mch):Prop:=∀I' X' cells,Ext I I'→MchR I' b X' x.2.1→TResV I' x.1 cells→
 (x.2.2=none→K (.tuple #[.agg cells.toArray,.pointer none]) I' (X'++F))∧(∀m2 b2 X2,x.2.2=some m2→MchR I' b2 X2 m2→K (.tuple #[.agg cells.toArray,pt b2]) I' (X'++(X2++F)))
def AGn:Prop:=∀(ω:Om) (I:Imm) (K:Value→M) (b N:Nat) (X F:LH) (m:Mch) (c:TCmd) (cc:List Value),MOk m N→N≤5000→MchR I b X m→TCmdV I c cc→Ap c.fKey=true→PostA K b F I (Ci m c)→CT ω 104 #[pt b,.agg cc.toArray] K I (X++F)
section
variable {ω:Om}{I:Imm}{L:LH}{K:Value→M}
theorem PostA.plain {b:Nat}{F:LH}{x:TRes×Mch}(h:PostA K b F I (BV x)){I':Imm}{X':LH}{cells:List Value}(hI:Ext I I')(hM:MchR I' b X' x.2)(hr:TResV I' x.1 cells):K (.tuple #[.agg cells.toArray,.pointer none]) I' (X'++F):=(h I' X' cells hI hM hr).1 rfl
theorem GG {v1 v2 v3 v4 v5 v6 v7 v8 v9 v10 v11:Value}(k:Nat)(v:Value)(h:[Value.nilFunc,v1,v2,v3,v4,v5,v6,v7,v8,v9,v10,v11][k]? =some v):
  ZI false 1 12 (.agg #[.nilFunc,v1,v2,v3,v4,v5,v6,v7,v8,v9,v10,v11]) (.int .i64 (k:Int))=some v:=by
 have hk:k < 12:=by have:=(List.getElem?_eq_some_iff.1 h).1;simpa using this
 unfold ZI;simp only
 rw [if_pos ⟨by omega,by omega⟩];unfold GK;simpa using h
theorem JO {b N:Nat}{X F:LH}{m:Mch}{c:TCmd}{cc:List Value}(hM:MOk m N)(hN:N≤5000)(hX:MchR I b X m)(hc:TCmdV I c cc)(hL:Lens c)(hS:GI m c.fKey=true→YM)(hsp:c.fKind=11→AGn)
  (hk:PostA K b F I (BH m c)):CT ω 12 #[pt b,.agg cc.toArray] K I (X++F):=by
 have hc':=hc;have hN2:N≤10000:=by omega
 obtain ⟨w0,w1,w2,w3,rfl,g0,g1,g2,g3⟩:=hc;refine AOc ?_;unfold sh12;refine AV (fun b1=>AV (fun b2=>?_));refine rdB rfl ?_;refine call (Ux hc' hL ?_);try simp only [SSd,Nat.reduceAdd]
 refine AC (fun e=>?_) (fun e=>?_)
 ·have hr:CZ c=false:=by simpa using e
  have ea:BH m c=(BM 140,m,none):=by unfold BH;rw [if_pos hr]
  rw [ea] at hk;repeat' (first|(with_reducible first|refine AZ ?_|refine Aa ?_|refine Ac ?_|refine keepA ?_|refine AV (fun _=>?_))|((with_reducible refine call ?_);refine (Ar ?_))|(with_reducible refine rdb ?_)|((with_reducible first|refine st1 ?_ ?_|refine rdB ?_ ?_);rfl)|(with_reducible refine Ah ?_)|((with_reducible refine Ai ?_ ?_);rfl)|((with_reducible refine stB ?_ ?_ ?_ ?_);rfl;rfl;exact AK rfl)|((with_reducible first|refine rdP _ rfl ?_ ?_|refine As _ rfl ?_ ?_);rfl)|((with_reducible refine stP _ rfl ?_ ?_ ?_ ?_);rfl;rfl;rfl)|(with_reducible first|refine AW (sh12.eq_1 ..) ?_|refine And.intro ?_ ?_)|(simp only [SSg,Int.reduceBEq,Int.reduceBNe,Int.reduceLT,Int.reduceLE,beq_self_eq_true,bne_self_eq_false])|(with_reducible first|refine AG (fun _=>?_) (fun _=>?_)|refine AC (fun _=>?_) (fun _=>?_))|(simp only [SSd,Nat.reduceAdd]))
  exact Gh.to (X++F) (Gh.done ((hk I X _ (Ext.refl _) hX (Ee ..)).1 rfl))
 have hr:CZ c=true:=by simpa using e
 have ho:=Pi hr;have hkk:kindOk c=true:=by
  simp only [CZ,Bool.and_eq_true] at hr;exact hr.2
 have ea:BH m c=doM m c:=by unfold BH;rw [if_neg (by simp [hr])]
 rw [ea] at hk;refine AFP X ?_;refine call (To (fun I1 v1 v2 v3 v4 v5 v6 v7 v8 v9 v10 hI1 h1 h2 h3 h4 h5 h6 h7 h8 h9 h10=>?_));refine FC hI1 ?_;try simp only [SSd,Nat.reduceAdd]
 refine Ah ?_;have fin:∀(v:Value) (f:FuncId) (x:TRes×Mch),HY I1 v f→Bh Tryz.prog f=true→AOn ω f I1 m c x.1 x.2→doM m c=BV x→
   (Rv (some (Stay I ((b2,RA)::(b1,Ry c w0 w1 w2 w3)::F))) (AH 15 (pt b1)) fun v12=>CW ω v #[pt b,v12] (gh fun v13=>Pv (exV v13 0) fun v14=>Pv (exV v13 1) fun v15=>Sto 11 (pt b2) v14 (gh fun _=>Rv none (AH 11 (pt b2)) fun v16=>Gh (K (.tuple #[v16,v15]))))) I1
    ((b2,RA)::(b1,Ry c w0 w1 w2 w3)::(X++F)):=by
  intro v f x hD he hf hx;rw [hx] at hk;refine Ai rfl ?_;refine Vh (X:=X) (F:=(b2,RA)::(b1,Ry c w0 w1 w2 w3)::F) hD he (hc'.mono hI1) (hX.mono hI1) hf (fun I' X' cells hI hM' hrr=>?_) (AP (by ((try simp only [AM,AN,AY,AQ]);(try ac_rfl))));have hr1:=hrr.one;refine Gh.done ?_;try simp only [SSd,Nat.reduceAdd]
  obtain ⟨x0,x1,rfl,_,_⟩:=id hrr;refine stB rfl rfl hr1 ?_;refine rdB rfl ?_;exact Gh.to (X'++F) (Gh.done (hk.plain (hI1.trans hI) hM' hrr))
 have hkd:=ho.kind;have hT:EN c.fTxn=true:=maxB_iff.2 ho.txn;have h12:c.fKind=(1:Nat)∨c.fKind=(2:Nat)∨c.fKind=(3:Nat)∨c.fKind=(4:Nat)∨c.fKind=(5:Nat)∨c.fKind=(6:Nat)∨c.fKind=(7:Nat)∨c.fKind=(8:Nat)∨c.fKind=(9:Nat)∨c.fKind=(10:Nat)∨c.fKind=(11:Nat):=by omega
 rcases h12 with hK|hK|hK|hK|hK|hK|hK|hK|hK|hK|hK
 ·have hix:=GG (v1:=v1) (v2:=v2) (v3:=v3) (v4:=v4) (v5:=v5) (v6:=v6) (v7:=v7) (v8:=v8) (v9:=v9) (v10:=v10) (v11:=.func (.func 104) #[] #[]) 1 v1 rfl;rw [←hK] at hix;rw [hix,DX];exact fin v1 _ (FP m c) h1 (by kernel_rfl) (fun K b s V SX F cc hc hF hSp hk=>ZN hM hN2 hS hF hSp hc hk) (by unfold doM;simp [hK])
 ·have hix:=GG (v1:=v1) (v2:=v2) (v3:=v3) (v4:=v4) (v5:=v5) (v6:=v6) (v7:=v7) (v8:=v8) (v9:=v9) (v10:=v10) (v11:=.func (.func 104) #[] #[]) 2 v2 rfl;rw [←hK] at hix;rw [hix,DX];exact fin v2 _ (EH m c) h2 (by kernel_rfl) (fun K b s V SX F cc hc hF hSp hk=>Ut hM hN2 hF hSp hc hk) (by unfold doM;simp [hK])
 ·have hix:=GG (v1:=v1) (v2:=v2) (v3:=v3) (v4:=v4) (v5:=v5) (v6:=v6) (v7:=v7) (v8:=v8) (v9:=v9) (v10:=v10) (v11:=.func (.func 104) #[] #[]) 3 v3 rfl;rw [←hK] at hix;rw [hix,DX];exact fin v3 _ (DN m c) h3 (by kernel_rfl) (fun K b s V SX F cc hc hF hSp hk=>Yw hM hN2 hF hSp hc hk) (by unfold doM;simp [hK])
 ·have hix:=GG (v1:=v1) (v2:=v2) (v3:=v3) (v4:=v4) (v5:=v5) (v6:=v6) (v7:=v7) (v8:=v8) (v9:=v9) (v10:=v10) (v11:=.func (.func 104) #[] #[]) 4 v4 rfl;rw [←hK] at hix;rw [hix,DX];exact fin v4 _ (Ew m c) h4 (by kernel_rfl) (fun K b s V SX F cc hc hF hSp hk=>RG hM hN2 hF hSp hc hk) (by unfold doM;simp [hK])
 ·have hix:=GG (v1:=v1) (v2:=v2) (v3:=v3) (v4:=v4) (v5:=v5) (v6:=v6) (v7:=v7) (v8:=v8) (v9:=v9) (v10:=v10) (v11:=.func (.func 104) #[] #[]) 5 v5 rfl;rw [←hK] at hix;rw [hix,DX];exact fin v5 _ (FR m c) h5 (by kernel_rfl) (fun K b s V SX F cc hc hF hSp hk=>Vr hF hM.recs hM.seen hM.seenL hc (fun r m' hx V' hF'=>by have:=PostK.plain (x:=(r,m')) (by rw [hx] at hk;exact hk) (by rw [←hx];exact Vt) hSp hF';exact this)) (by unfold doM;simp [hK])
 ·have hix:=GG (v1:=v1) (v2:=v2) (v3:=v3) (v4:=v4) (v5:=v5) (v6:=v6) (v7:=v7) (v8:=v8) (v9:=v9) (v10:=v10) (v11:=.func (.func 104) #[] #[]) 6 v6 rfl;rw [←hK] at hix;rw [hix,DX];exact fin v6 _ (FQ m c) h6 (by kernel_rfl) (fun K b s V SX F cc hc hF hSp hk=>AFL hF hM.recs hc (fun r m' hx V' hF'=>by have:=PostK.plain (x:=(r,m')) (by rw [hx] at hk;exact hk) (by rw [←hx];exact Vf) hSp hF';exact this)) (by unfold doM;simp [hK])
 ·have hix:=GG (v1:=v1) (v2:=v2) (v3:=v3) (v4:=v4) (v5:=v5) (v6:=v6) (v7:=v7) (v8:=v8) (v9:=v9) (v10:=v10) (v11:=.func (.func 104) #[] #[]) 7 v7 rfl;rw [←hK] at hix;rw [hix,DX];exact fin v7 _ (Dc m c) h7 (by kernel_rfl) (fun K b s V SX F cc hc hF hSp hk=>VH hF hM.recs hc (fun r m' hx V' hF'=>by have:=PostK.plain (x:=(r,m')) (by rw [hx] at hk;exact hk) (by rw [←hx];exact TC) hSp hF';exact this)) (by unfold doM;simp [hK])
 ·have hix:=GG (v1:=v1) (v2:=v2) (v3:=v3) (v4:=v4) (v5:=v5) (v6:=v6) (v7:=v7) (v8:=v8) (v9:=v9) (v10:=v10) (v11:=.func (.func 104) #[] #[]) 8 v8 rfl;rw [←hK] at hix;rw [hix,DX];exact fin v8 _ (HL m c) h8 (by kernel_rfl) (fun K b s V SX F cc hc hF hSp hk=>Tf hF hc (fun r m' hx V' hF'=>by have:=PostK.plain (x:=(r,m')) (by rw [hx] at hk;exact hk) (by rw [←hx];exact Vb) hSp hF';exact this)) (by unfold doM;simp [hK])
 ·have hix:=GG (v1:=v1) (v2:=v2) (v3:=v3) (v4:=v4) (v5:=v5) (v6:=v6) (v7:=v7) (v8:=v8) (v9:=v9) (v10:=v10) (v11:=.func (.func 104) #[] #[]) 9 v9 rfl;rw [←hK] at hix;rw [hix,DX];exact fin v9 _ (FX m c) h9 (by kernel_rfl) (fun K b s V SX F cc hc hF hSp hk=>Or hM hN hF hSp hc hk) (by unfold doM;simp [hK])
 ·have hix:=GG (v1:=v1) (v2:=v2) (v3:=v3) (v4:=v4) (v5:=v5) (v6:=v6) (v7:=v7) (v8:=v8) (v9:=v9) (v10:=v10) (v11:=.func (.func 104) #[] #[]) 10 v10 rfl;rw [←hK] at hix;rw [hix,DX];exact fin v10 _ (PC m c) h10 (by kernel_rfl) (fun K b s V SX F cc hc hF hSp hk=>Oy hM hN2 hF hSp hc hk) (by unfold doM;simp [hK])
 ·have hix:=GG (v1:=v1) (v2:=v2) (v3:=v3) (v4:=v4) (v5:=v5) (v6:=v6) (v7:=v7) (v8:=v8) (v9:=v9) (v10:=v10) (v11:=.func (.func 104) #[] #[]) 11 _ rfl;rw [←hK] at hix;rw [hix,DX];have hx:doM m c=Ci m c:=by unfold doM;simp [hK]
  rw [hx] at hk;refine Ai rfl ?_;refine YE (by kernel_rfl) ?_;refine Bz (Cal.split X ?_);refine hsp hK ω _ _ b N X _ m c _ hM hN (hX.mono hI1) (hc'.mono hI1) (Ko hkk (.inl hK)) (fun I' X' cells hI hM' hrr=>?_);have hr1:=hrr.one;obtain ⟨k1,k2⟩:=hk I' X' cells (hI1.trans hI) hM' hrr;obtain ⟨x0,x1,rfl,_,_⟩:=id hrr;refine ⟨fun hn=>?_,fun m2 b3 X2 hm hX2=>?_⟩
  ·refine Gh.done ?_;try simp only [SSd,Nat.reduceAdd]
   refine stB rfl rfl hr1 ?_;refine rdB rfl ?_;exact Gh.to (X'++F) (Gh.done (k1 hn))
  ·refine Gh.done ?_;try simp only [SSd,Nat.reduceAdd]
   refine stB rfl rfl hr1 ?_;refine rdB rfl ?_;exact Gh.to (X'++(X2++F)) (Gh.done (k2 m2 b3 X2 hm hX2))
end
section
variable {κ β:Type}[DecidableEq κ]{lt:κ→κ→Bool}
end
structure RV where
 bs:Nat
 vF:Value
 vT:Value
 vV:Value
 vI:Value
 vM:Value
 cM:List Value
 XM:LH
 vR:Value
 cR:List Value
 XR:LH
 vS:Value
section
variable {ω:Om}{I:Imm}{L:LH}{K:Value→M}{br:Nat}{V:RV}{m:Mch}{R:LH}
end
section
variable {ω:Om}{I:Imm}{L:LH}{K:Value→M}{br:Nat}{V:RV}{m:Mch}{R:LH}
end
section
variable {ω:Om}{I:Imm}{L:LH}{K:Value→M}{br:Nat}{V:RV}{m:Mch}{R:LH}
end
section
variable {ω:Om}{I:Imm}{L:LH}{K:Value→M}{br:Nat}{V:RV}{m:Mch}{R:LH}
end
section
variable {ω:Om}{I:Imm}{L:LH}{K:Value→M}{br:Nat}{V:RV}{m:Mch}{R:LH}
end
section
variable {ω:Om}{I:Imm}{L:LH}{K:Value→M}{br:Nat}{V:RV}{m:Mch}{R:LH}
end
section
variable {ω:Om}{I:Imm}{L:LH}{K:Value→M}{br:Nat}{V:RV}{m:Mch}{R:LH}
end
section
variable {ω:Om}{I:Imm}{L:LH}{K:Value→M}{br:Nat}{V:RV}{m:Mch}{R:LH}
end
section
variable {ω:Om}{I:Imm}{L:LH}{K:Value→M}{br:Nat}{V:RV}{m:Mch}{R:LH}
end
section
variable {ω:Om}{I:Imm}{L:LH}{K:Value→M}{br:Nat}{V:RV}{m:Mch}{R:LH}
end
section
variable {ω:Om}{I:Imm}{L:LH}{K:Value→M}{br:Nat}{V:RV}{m:Mch}{R:LH}
end
section
variable {ω:Om}{I:Imm}{L:LH}{K:Value→M}{br:Nat}{V:RV}{m:Mch}{R:LH}
end
def nB (n:Int):List UInt8:=Bc n.toNat
def Bq (l:List Int):List UInt8:=l.flatMap nB
def DY (b:List UInt8):List UInt8:=Bc b.length++b
def Ed (s:TStamp):List UInt8:=nB s.fWall++nB s.fLogic
theorem FN {n:Int}(h:Dk n):(nB n).length≤9:=KH (n:=n.toNat) (by have:=h.2;have:=h.1;omega)
theorem CC:∀{l:List Int},(∀n∈l,Dk n)→(Bq l).length≤9 * l.length
 |[],_=>by simp [Bq]
 |n::l,h=>by
  have h1:=FN (h n (List.mem_cons_self ..));have h2:=CC (l:=l) (fun m hm=>h m (List.mem_cons_of_mem _ hm));simp only [Bq,List.flatMap_cons,List.length_append,List.length_cons] at h2 ⊢;omega
theorem DJ {b:List UInt8}(h:b.length≤9007199254740991):(DY b).length≤9+b.length:=by
 have:=KH (n:=b.length) (by omega);simp only [DY,List.length_append];omega
theorem Gg {s:TStamp}(h:AU s=true):(Ed s).length≤18:=by
 have h:=Be h;have h1:=FN h.1;have h2:=FN h.2;simp only [Ed,List.length_append];omega
structure NumP (b:List UInt8)(bad:Bool)(n:Int)(b':List UInt8)(bad':Bool):Prop where
 max:Dk n
 len:b'.length≤b.length
 get:∀(m:Int) (rest:List UInt8),Dk m→b=nB m++rest→n=m∧b'=rest∧bad'=bad
structure StP (b:List UInt8)(bad:Bool)(s:TStamp)(b':List UInt8)(bad':Bool):Prop where
 max:Dk s.fWall∧Dk s.fLogic
 len:b'.length≤b.length
 get:∀(x:TStamp) (rest:List UInt8),AU x=true→b=Ed x++rest→s=x∧b'=rest∧bad'=bad
structure TxP (b:List UInt8)(bad:Bool)(t:List UInt8)(b':List UInt8)(bad':Bool):Prop where
 tlen:t.length≤b.length
 len:b'.length≤b.length
 get:∀(x rest:List UInt8),x.length≤9007199254740991→b=DY x++rest→t=x∧b'=rest∧bad'=bad
structure SpnP (b:List UInt8)(bad:Bool)(p:TSpan)(b':List UInt8)(bad':Bool):Prop where
 tlen:p.fFrom.length≤b.length∧p.fTo.length≤b.length
 len:b'.length≤b.length
 get:∀(x:TSpan) (rest:List UInt8),x.fFrom.length≤9007199254740991→x.fTo.length≤9007199254740991→b=DY x.fFrom++(DY x.fTo++rest)→p=x∧b'=rest∧bad'=bad
section
variable {ω:Om}{I:Imm}{L:LH}{K:Value→M}
theorem JC {A:M}{F:LH}{bv T:Nat}{ns:List Int}(hk:∀I',Ext I I'→Ints I' (.slice (some ⟨bv,0,none⟩) ns.length ns.length) ns→Gh A I' F):Gh A I ((bv,.cells (Tc ns).toArray T (0,0))::F):=
 Gh.freeze fun hext=>hk _ hext ⟨by simp [Tc],_,_,rfl,Nat.le_refl _,fun _=>⟨bv,0,(Tc ns).toArray,T,(0,0),rfl,by simp [Imm.put],fun j u hu=>by simpa using hu⟩⟩
theorem QW {F:LH}{a:Int}(hk:∀u I',Ext I I'→Ints I' u [a]→K u I' F):BN 3 1 #[.int .i64 0] 1 [(0,.int .i64 a)] (gh K) I F:=
 ⟨#[.int .i64 a],by kernel_rfl,fun bb=>JC (ns:=[a]) fun I' hI hU=>Gh.done (hk _ I' hI hU)⟩
theorem AGa {F:LH}{a b:Int}(hk:∀u I',Ext I I'→Ints I' u [a,b]→K u I' F):BN 3 1 #[.int .i64 0] 2 [(0,.int .i64 a),(1,.int .i64 b)] (gh K) I F:=
 ⟨#[.int .i64 a,.int .i64 b],by kernel_rfl,fun bb=>JC (ns:=[a,b]) fun I' hI hU=>Gh.done (hk _ I' hI hU)⟩
theorem AOg {F:LH}{a b c:Int}(hk:∀u I',Ext I I'→Ints I' u [a,b,c]→K u I' F):BN 3 1 #[.int .i64 0] 3 [(0,.int .i64 a),(1,.int .i64 b),(2,.int .i64 c)] (gh K) I F:=
 ⟨#[.int .i64 a,.int .i64 b,.int .i64 c],by kernel_rfl,fun bb=>JC (ns:=[a,b,c]) fun I' hI hU=>Gh.done (hk _ I' hI hU)⟩
abbrev wrO (v:Value):Obj:=.cells #[v] 141 (0,0)
theorem VK {ns:List Int}{i:Nat}(hi:i < ns.length):Bq (ns.take (i+1))=Bq (ns.take i)++nB ns[i]:=by
 unfold Bq;rw [take_snoc hi,List.flatMap_append];simp
theorem DT {w:Nat}{v u:Value}{Y F:LH}{l:List UInt8}{ns:List Int}(hO:OB Y v l)(hU:Ints I u ns)(hns:∀n∈ns,Dk n)(hl:l.length+9 * ns.length≤1000000000000)
  (hk:∀Y' v' I',Ext I I'→OB Y' v' (l++Bq ns)→K (.tuple #[]) I' ((w,wrO v')::(Y'++F))):CT ω 61 #[pt w,u] K I ((w,wrO v)::(Y++F)):=by
 refine AON ?_;unfold AKe;simp only [Ints.len hU,SSd,Nat.reduceAdd];refine loop (fun n (s:Value×Unit) I' L'=>∃(i:Nat) (Y':LH) (v':Value),n+i=ns.length∧s=(.int .i64 i,())∧Ext I I'∧OB Y' v' (l++Bq (ns.take i))∧L'=(w,wrO v')::(Y'++F)) ns.length ⟨0,Y,v,rfl,rfl,Ext.refl _,by simpa [Bq] using hO,rfl⟩ ?_;rintro n s I' L' ⟨i,Y',v',hn,rfl,hI,hO',rfl⟩;unfold AAh;try simp only [SSd,Nat.reduceAdd]
 refine AC (fun e=>?_) (fun e=>?_)
 ·have hi:i < ns.length:=by simpa using e
  obtain ⟨bb,off,hix,hc⟩:=ints_at (hU.mono hI) (i:=(i:Int)) (by omega) (by omega);rw [Aq hi] at hc;have hm:=hns _ (List.getElem_mem hi);have hnext:=VK hi;have hlen:(l++Bq (ns.take i)).length≤l.length+9 * i:=by
   have h1:=CC (l:=ns.take i) (fun n hn=>hns n (List.mem_of_mem_take hn));rw [List.length_take] at h1;rw [List.length_append];omega
  have h9:=FN hm;simp only [hix,SSd,Nat.reduceAdd];refine rd1 (hc _ _ (Ext.refl _)) ?_;refine AZ ?_;try simp only [SSd,Nat.reduceAdd]
  refine Ah ?_;try simp only [SSd,Nat.reduceAdd]
  obtain ⟨nn,hnn⟩:∃nn:Nat,ns[i]=(nn:Int):=⟨ns[i].toNat,by have:=hm.1;omega⟩;have hnb:nB ns[i]=Bc nn:=by unfold nB;rw [hnn];rfl
  have hnx:nn≤9007199254740991:=by have:=hm.2;omega
  rw [hnb] at hnext h9;rw [hnn,wrap_u64 _ (by omega) (by omega)];refine call (Hn (by omega) (fun x I2 hI2 hB=>?_));refine FC hI2 ?_;refine Hm (X6:=Y') (y:=Bc nn) hO' (SlI.news hB) (by omega) (fun Y2 v2 hO2=>?_);obtain ⟨va,vc,rfl⟩:=hO2.form;try simp only [SSd,Nat.reduceAdd]
  refine st1 rfl ?_;rw [wrap_i64 _ (by omega)];refine Gh.to ((w,wrO (.slice va (l++Bq (ns.take i)++Bc nn).length vc))::(Y2++F)) (Gh.done ⟨n - 1,by omega,i+1,Y2,_,by omega,rfl,hI.trans hI2,?_,rfl⟩);rw [hnext,←List.append_assoc];exact hO2
 ·have hi:i=ns.length:=by
   have:¬i < ns.length:=by simpa using e
   omega
  rw [hi,List.take_length] at hO';exact Gh.done (hk Y' v' I' hI hO')
theorem GP {w:Nat}{v:Value}{Y F:LH}{l:List UInt8}{x:TStamp}(hO:OB Y v l)(hx:AU x=true)(hl:l.length≤100000000000)
  (hk:∀Y' v' I',Ext I I'→OB Y' v' (l++Ed x)→K (.tuple #[]) I' ((w,wrO v')::(Y'++F))):CT ω 62 #[pt w,sv x] K I ((w,wrO v)::(Y++F)):=by
 have hm:=Be hx;refine AOM ?_;unfold AKd;refine AV (fun b1=>?_);try simp only [SSd,Nat.reduceAdd]
 refine rdb ?_;try simp only [SSd,Nat.reduceAdd]
 refine rdb ?_;refine AGa (fun u I1 hI1 hU=>?_);refine call (Cal.to ((w,wrO v)::(Y++F)) (DT hO hU (by simp [hm.1,hm.2]) (by simp;omega) (fun Y' v' I' hI hO'=>?_)));refine Gh.done (hk Y' v' I' (hI1.trans hI) ?_);simpa [Bq,Ed] using hO'
theorem Ec {w:Nat}{v t:Value}{Y F:LH}{l x:List UInt8}(hO:OB Y v l)(hB:Bytes I t x)(hl:l.length≤100000000000)(hx:x.length≤10000000000)
  (hk:∀Y' v' I',Ext I I'→OB Y' v' (l++DY x)→K (.tuple #[]) I' ((w,wrO v')::(Y'++F))):CT ω 64 #[pt w,t] K I ((w,wrO v)::(Y++F)):=by
 refine AOL ?_;unfold AKc;simp only [Bytes.len hB,SSd,Nat.reduceAdd];have h9:=FN (n:=(x.length:Int)) ⟨by omega,by omega⟩;refine QW (fun u I1 hI1 hU=>?_);refine call (DT hO hU (by simp only [List.mem_singleton];rintro n rfl;exact ⟨by omega,by omega⟩) (by simp;omega) (fun Y1 v1 I2 hI2 hO1=>?_));have e1:Bq [(x.length:Int)]=Bc x.length:=by simp [Bq,nB]
 rw [e1] at hO1;have e2:nB (x.length:Int)=Bc x.length:=by simp [nB]
 rw [e2] at h9;try simp only [SSd,Nat.reduceAdd]
 refine rdb ?_;refine Hm (X6:=Y1) (y:=x) hO1 (SlI.news (hB.mono (hI1.trans hI2))) (by rw [List.length_append];omega) (fun Y2 v2 hO2=>?_);obtain ⟨va,vc,rfl⟩:=hO2.form;try simp only [SSd,Nat.reduceAdd]
 refine st1 rfl ?_;refine Gh.to ((w,wrO (.slice va (l++Bc x.length++x).length vc))::(Y2++F)) (Gh.done (hk Y2 _ I2 (hI1.trans hI2) ?_));rw [DY,←List.append_assoc];exact hO2
theorem UZ {w:Nat}{v:Value}{Y F:LH}{l:List UInt8}{p:TSpan}{pc:List Value}(hO:OB Y v l)(hp:TSpanV I p pc)(hl:l.length≤90000000000)(hx:p.fFrom.length≤1000000000)(hy:p.fTo.length≤1000000000)
  (hk:∀Y' v' I',Ext I I'→OB Y' v' (l++(DY p.fFrom++DY p.fTo))→K (.tuple #[]) I' ((w,wrO v')::(Y'++F))):CT ω 65 #[pt w,.agg pc.toArray] K I ((w,wrO v)::(Y++F)):=by
 obtain ⟨v0,v1,rfl,g0,g1⟩:=hp;refine AOK ?_;unfold AKb;refine AV (fun b1=>?_);try simp only [SSd,Nat.reduceAdd]
 refine rdb ?_;have h9:=DJ (b:=p.fFrom) (by omega);refine call (Cal.perm (L':=(w,wrO v)::(Y++((b1,.cells #[v0,v1] 31 (0,0))::F))) (AP (by ((try simp only [AM,AN,AY,AQ]);(try ac_rfl)))) (Ec hO g0 (by omega) (by omega) (fun Y1 v1' I1 hI1 hO1=>?_)));try simp only [SSd,Nat.reduceAdd]
 refine rdb ?_;refine call (Ec hO1 (g1.mono hI1) (by rw [List.length_append];omega) (by omega) (fun Y2 v2 I2 hI2 hO2=>?_));refine Gh.to ((w,wrO v2)::(Y2++F)) (Gh.done (hk Y2 v2 I2 (hI1.trans hI2) ?_));rw [←List.append_assoc];exact hO2
end
section
variable {ω:Om}{I:Imm}{L:LH}{K:Value→M}
theorem AIm {n y i:Nat}(h:n < 2 ^ i)(hs:n+y * 2 ^ i < 9223372036854775808):Eb .or .u64 (n:Int) ((y * 2 ^ i:Nat):Int)=((n+y * 2 ^ i:Nat):Int):=by
 have e:((BitVec.ofInt 64 (n:Int)) ||| (BitVec.ofInt 64 ((y * 2 ^ i:Nat):Int))).toNat=n+y * 2 ^ i:=by
  rw [BitVec.toNat_or];have e1:(BitVec.ofInt 64 (n:Int)).toNat=n:=by rw [BitVec.toNat_ofInt];omega
  have e2:(BitVec.ofInt 64 ((y * 2 ^ i:Nat):Int)).toNat=y * 2 ^ i:=by
   rw [BitVec.toNat_ofInt];generalize y * 2 ^ i=z at *;omega
  rw [e1,e2,Nat.or_comm,Nat.mul_comm,←Nat.two_pow_add_eq_or_of_lt h];exact Nat.add_comm _ _
 show IntKind.u64.wrap ((BitVec.ofInt 64 (n:Int)) ||| (BitVec.ofInt 64 ((y * 2 ^ i:Nat):Int))).toNat=_;rw [e];exact wrap_u64 _ (by omega) (by omega)
theorem AGh:∀x:Fin 256,Eb .and .u8 ((x.val:Nat):Int) 127=((x.val % 128:Nat):Int):=by decide
theorem RR (i:Nat):(128:Nat) ^ i=2 ^ (7 * i):=by rw [show (128:Nat)=2 ^ 7 from rfl,←Nat.pow_mul]
theorem AOt {y i:Nat}(hi:i≤7)(hy:y * 128 ^ i < 9223372036854775808):AB .shl (.int .u64 (y:Int)) (.int .i64 (7 * (i:Int)))=some (.int .u64 ((y * 2 ^ (7 * i):Nat):Int)):=by
 have h:=Oe (a:=(y:Int)) (c:=7 * (i:Int)) .u64 .i64 (by omega);have e1:(min (7 * (i:Int)).toNat IntKind.u64.bits)=7 * i:=by
  show min _ 64=_;omega
 rw [RR] at hy;rw [e1,wrap_u64 _ (by
  have:(0:Int)≤2 ^ (7 * i):=Int.le_of_lt (Int.pow_pos (by decide));exact Int.mul_nonneg (Int.natCast_nonneg y) this) (by
  have:((y * 2 ^ (7 * i):Nat):Int) < 18446744073709551616:=by omega
  rw [Int.natCast_mul,Int.natCast_pow] at this;exact this)] at h
 rw [h];congr 2
theorem byte_at {l:List UInt8}{c:UInt8}{d r:List UInt8}(h:l=d++c::r)(hd:d.length < l.length):l[d.length]=c:=by
 subst h;simp
theorem NC {v:Value}{n:Nat}{rest:List UInt8}(h:Bytes I v (Bc n++rest))(hn:n≤9007199254740991)(hk:K (.tuple #[.int .u64 n,.int .i64 (Bc n).length,.int .i64 0]) I L):CT ω 124 #[v] K I L:=by
 refine AFl ?_;unfold XQ;refine loop (fun q t I' L'=>I'=I∧L'=L∧∃(i m acc:Nat) (d:List UInt8),q+i=8∧t=(.int .u64 0,.int .i64 0,.int .i64 0,.int .u64 acc,.int .i64 i,())∧Bc n=d++Bc m∧d.length=i∧n=acc+m * 128 ^ i∧acc < 128 ^ i∧(0 < i→m≠0)) 8 ⟨rfl,rfl,0,n,0,[],rfl,rfl,rfl,rfl,by simp,by simp,by omega⟩ ?_;rintro q t I' L' ⟨rfl,rfl,i,m,acc,d,hqi,rfl,he,hd,hnn,hacc,hm0⟩;have hi7:i≤7:=by
  by_cases h8:i=8
  ·subst h8;have hm:=hm0 (by omega);have:1 * 128 ^ 8≤m * 128 ^ 8:=Nat.mul_le_mul_right _ (by omega);omega
  ·omega
 have hmn:m * 128 ^ i≤9007199254740991:=by omega
 have hmm:m≤9007199254740991:=Nat.le_trans (Nat.le_mul_of_pos_right _ (Nat.pow_pos (by decide))) hmn;obtain ⟨c,r,hc,hcs⟩:∃c r,Bc m=c::r∧((m < 128∧c=UInt8.ofNat m∧r=[])∨(¬m < 128∧c=UInt8.ofNat (m % 128+128)∧r=Bc (m / 128))):=by
  by_cases h1:m < 128
  ·exact ⟨_,_,EB h1,.inl ⟨h1,rfl,rfl⟩⟩
  ·exact ⟨_,_,Fo h1,.inr ⟨h1,rfl,rfl⟩⟩
 have hl:Bc n++rest=d++c::(r++rest):=by rw [he,hc];simp
 have hlen:d.length < (Bc n++rest).length:=by rw [hl];simp
 unfold Qo;obtain ⟨b,off,hix,hcell⟩:=Bytes.at (k:=i) h (by omega);have hbyte:(Bc n++rest)[i]'(by omega)=c:=by
  have:=byte_at hl hlen;simpa [hd] using this
 rw [hbyte] at hcell;have hne:((i:Int)==((Bc n++rest).length:Int))=false:=by
  simp only [beq_eq_false_iff_ne,ne_eq];omega
 try simp only [SSd,Nat.reduceAdd]
 refine AC (fun e=>?_) (fun e=>absurd e (by simp;omega));simp only [Bytes.len h,hne,hix,SSd,Nat.reduceAdd];refine rd1 (hcell _ _ (Ext.refl _)) ?_;have hand:=AGh ⟨c.toNat,c.toNat_lt⟩;simp only at hand
 have hct:=c.toNat_lt;have hcm:c.toNat % 128=m % 128:=by
  rcases hcs with ⟨h1,rfl,_⟩|⟨h1,rfl,_⟩ <;> simp <;> omega
 have hle:m % 128 * 128 ^ i≤m * 128 ^ i:=Nat.mul_le_mul_right _ (Nat.mod_le _ _);have w7:IntKind.i64.wrap (7 * (i:Int))=7 * (i:Int):=wrap_i64 _ (by omega);have wu:IntKind.u64.wrap ((m % 128:Nat):Int)=((m % 128:Nat):Int):=wrap_u64 _ (by omega) (by omega);have hor:=AIm (n:=acc) (y:=m % 128) (i:=7 * i) (by rw [←RR];exact hacc) (by rw [←RR];omega);simp only [hand,hcm,w7,wu,AOt hi7 (show m % 128 * 128 ^ i < 9223372036854775808 by omega),hor,SSd,Nat.reduceAdd];rw [←RR];generalize hP:128 ^ i=P at *;refine AC (fun e2=>?_) (fun e2=>?_)
 ·obtain ⟨h1,h2,h3⟩:¬m < 128∧c=UInt8.ofNat (m % 128+128)∧r=Bc (m / 128):=by
   rcases hcs with ⟨h1,h2,_⟩|h
   ·subst h2;simp at e2;omega
   ·exact h
  rw [wrap_i64 _ (by omega)];have hpow:128 ^ (i+1)=P * 128:=by rw [Nat.pow_succ,hP]
  have hsplit:m * P=m % 128 * P+m / 128 * (P * 128):=by
   conv=>lhs;rw [←Nat.mod_add_div m 128]
   rw [Nat.add_mul,Nat.mul_comm P 128,←Nat.mul_assoc,Nat.mul_comm (m / 128) 128]
  refine Gh.done ⟨q - 1,by omega,rfl,rfl,i+1,m / 128,acc+m % 128 * P,d++[c],by omega,rfl,?_,by simp [hd],?_,?_,fun _=>by omega⟩
  ·rw [he,hc,h3];simp
  ·rw [hpow];omega
  ·have:m % 128 * P≤127 * P:=Nat.mul_le_mul_right _ (by omega);rw [hpow];omega
 ·obtain ⟨h1,h2,h3⟩:m < 128∧c=UInt8.ofNat m∧r=[]:=by
   rcases hcs with h|⟨h1,h2,_⟩
   ·exact h
   ·subst h2;simp at e2;omega
  have hcn:c.toNat=m:=by subst h2;simp;omega
  have hmm2:m % 128=m:=Nat.mod_eq_of_lt h1;have hL:(Bc n).length=i+1:=by rw [he,hc,h3];simp [hd]
  rw [hmm2,←hnn,hcn];have fin:IG ω (.int .u64 0) (.int .i64 0) (.int .i64 0) (.int .u64 n) (.int .i64 i) (.int .u8 m) (.bool false) (fun v=>Gh (K v)) I' L':=by
   unfold IG;have h9:((i:Int)==9)=false:=by simp;omega
   simp only [h9,SSd,Nat.reduceAdd];unfold IH;try simp only [SSd,Nat.reduceAdd]
   rw [wrap_i64 _ (by omega)];rw [hL] at hk;exact Gh.done hk
  refine AG (fun e3=>?_) (fun e3=>fin);have hmz:((m:Int)==0)=false:=by
   have:=hm0 (by simp at e3;omega);simp;omega
  simp only [hmz,SSd,Nat.reduceAdd];exact fin
theorem SO (n:Int):0≤IntKind.u64.wrap n∧IntKind.u64.wrap n < 18446744073709551616:=by
 unfold IntKind.wrap;simp only [IntKind.signed,Bool.false_and,Bool.false_eq_true,if_false];exact ⟨Int.emod_nonneg _ (by decide),Int.emod_lt_of_pos _ (by decide)⟩
theorem AEb (a b:Int):0≤Eb .or .u64 a b∧Eb .or .u64 a b < 18446744073709551616:=SO _
theorem Uf {v:Value}{l:List UInt8}(h:Bytes I v l)(hl:l.length≤140737488355328)
  (hk:∀(n:Int) (size:Nat) (e:Int),0≤n→n < 18446744073709551616→(e=0→size≤l.length)→K (.tuple #[.int .u64 n,.int .i64 size,.int .i64 e]) I L):CT ω 124 #[v] K I L:=by
 refine AFl ?_;unfold XQ;refine loop (fun q (t:Value×Value×Value×Value×Value×Unit) I' L'=>I'=I∧L'=L∧∃(i:Nat) (acc:Int),q+i=10∧t=(.int .u64 0,.int .i64 0,.int .i64 0,.int .u64 acc,.int .i64 i,())∧i≤l.length) 10 ⟨rfl,rfl,0,0,rfl,rfl,Nat.zero_le _⟩ ?_;rintro q t I' L' ⟨rfl,rfl,i,acc,hqi,rfl,hil⟩;unfold Qo;simp only [Bytes.len h,SSd,Nat.reduceAdd];refine AC (fun e=>?_) (fun e=>?_)
 ·have hi:i < 10:=by
   have:(i:Int) < 10:=by simpa using e
   omega
  refine AC (fun e2=>?_) (fun e2=>?_)
  ·exact Gh.done (hk 0 0 10 (by omega) (by omega) (by omega))
  ·have hlt:i < l.length:=by simp at e2;omega
   obtain ⟨b,off,hix,hcell⟩:=Bytes.at (k:=i) h hlt;simp only [hix,SSd,Nat.reduceAdd];refine rd1 (hcell _ _ (Ext.refl _)) ?_;generalize l[i]=c at *;have hand:=AGh ⟨c.toNat,c.toNat_lt⟩;simp only at hand
   have w7:IntKind.i64.wrap (7 * (i:Int))=7 * (i:Int):=wrap_i64 _ (by omega);have wi:IntKind.i64.wrap ((i:Int)+1)=((i+1:Nat):Int):=by rw [wrap_i64 _ (by omega)];rfl
   simp only [hand,w7,Oe (a:=IntKind.u64.wrap ((c.toNat % 128:Nat):Int)) (c:=7 * (i:Int)) .u64 .i64 (by omega),SSd,Nat.reduceAdd];have hr:=AEb acc (IntKind.u64.wrap (IntKind.u64.wrap ((c.toNat % 128:Nat):Int) * 2 ^ (min (7 * (i:Int)).toNat IntKind.u64.bits)));generalize Eb .or .u64 acc (IntKind.u64.wrap (IntKind.u64.wrap ((c.toNat % 128:Nat):Int) * 2 ^ (min (7 * (i:Int)).toNat IntKind.u64.bits)))=acc2 at *;have f2:∀t:Bool,IH ω (.int .u64 0) (.int .i64 0) (.int .i64 0) (.int .u64 acc2) (.int .i64 i) (.bool t) (fun v=>Gh (K v)) I' L':=by
    intro t;unfold IH;try simp only [SSd,Nat.reduceAdd]
    refine AC (fun _=>?_) (fun _=>?_)
    ·exact Gh.done (hk 0 0 11 (by omega) (by omega) (by omega))
    ·rw [wi];exact Gh.done (hk acc2 (i+1) 0 hr.1 hr.2 (fun _=>hlt))
   have f3:∀t:Bool,IG ω (.int .u64 0) (.int .i64 0) (.int .i64 0) (.int .u64 acc2) (.int .i64 i) (.int .u8 c.toNat) (.bool t) (fun v=>Gh (K v)) I' L':=by
    intro t;unfold IG;try simp only [SSd,Nat.reduceAdd]
    refine AG (fun _=>f2 _) (fun _=>f2 _)
   refine AC (fun e3=>?_) (fun e3=>?_)
   ·rw [wi];exact Gh.done ⟨q - 1,by omega,rfl,rfl,i+1,acc2,by omega,rfl,hlt⟩
   ·refine AG (fun e4=>?_) (fun e4=>f3 _);refine AC (fun e5=>?_) (fun e5=>?_)
    ·rw [e5];exact f2 true
    ·rw [e5];exact f3 false
 ·exact Gh.done (hk 0 0 11 (by omega) (by omega) (by omega))
theorem SN:∀(k m n:Nat) (r s:List UInt8),m < 128 ^ k→n < 128 ^ k→Bc m++r=Bc n++s→m=n∧r=s
 |0,m,n,r,s,hm,hn,h=>by
  have h0:m=0:=by omega
  have h1:n=0:=by omega
  subst h0 h1;simpa using h
 |k+1,m,n,r,s,hm,hn,h=>by
  have b1:∀x:Nat,x < 128→(UInt8.ofNat x).toNat=x:=fun x hx=>by simp;omega
  have b2:∀x:Nat,(UInt8.ofNat (x % 128+128)).toNat=x % 128+128:=fun x=>by simp;omega
  by_cases h1:m < 128 <;> by_cases h2:n < 128
  ·rw [EB h1,EB h2] at h;simp only [List.cons_append,List.nil_append,List.cons.injEq] at h;have:=congrArg UInt8.toNat h.1;rw [b1 m h1,b1 n h2] at this;exact ⟨this,h.2⟩
  ·rw [EB h1,Fo h2] at h;simp only [List.cons_append,List.nil_append,List.cons.injEq] at h;have:=congrArg UInt8.toNat h.1;rw [b1 m h1,b2 n] at this;omega
  ·rw [Fo h1,EB h2] at h;simp only [List.cons_append,List.nil_append,List.cons.injEq] at h;have:=congrArg UInt8.toNat h.1;rw [b1 n h2,b2 m] at this;omega
  ·rw [Fo h1,Fo h2] at h;simp only [List.cons_append,List.cons.injEq] at h;have:=congrArg UInt8.toNat h.1;rw [b2 m,b2 n] at this;have hp:128 ^ (k+1)=128 * 128 ^ k:=by rw [Nat.pow_succ,Nat.mul_comm]
   have ih:=SN k (m / 128) (n / 128) r s (by omega) (by omega) h.2;exact ⟨by omega,ih.2⟩
theorem ALB {m n:Int}{r s:List UInt8}(hm:Dk m)(hn:Dk n)(h:nB m++r=nB n++s):m=n∧r=s:=by
 have:=SN 9 m.toNat n.toNat r s (by have:=hm.2;have:=hm.1;omega) (by have:=hn.2;have:=hn.1;omega) h;have h1:=hm.1;have h2:=hn.1;exact ⟨by omega,this.2⟩
abbrev rdO (v:Value)(bad:Bool):Obj:=.cells #[v,.bool bad] 152 (0,0)
theorem IJ {r:Nat}{v:Value}{b:List UInt8}{bad:Bool}{F:LH}(hB:Bytes I v b)(hl:b.length≤140737488355328)
  (hk:∀n v' b' bad',Bytes I v' b'→NumP b bad n b' bad'→K (.int .i64 n) I ((r,rdO v' bad')::F)):CT ω 71 #[pt r] K I ((r,rdO v bad)::F):=by
 obtain ⟨va,vc,rfl⟩:=Bytes.form hB;refine AOJ ?_;unfold sh71;try simp only [SSd,Nat.reduceAdd]
 refine rdb ?_;by_cases hx:∃(m:Int) (rest:List UInt8),Dk m∧b=nB m++rest
 ·obtain ⟨m,rest,hm,hb⟩:=hx;have hmn:m=((m.toNat:Nat):Int):=by have:=hm.1;omega
  have hm2:m.toNat≤9007199254740991:=by have:=hm.2;omega
  have hB2:Bytes I (.slice va b.length vc) (Bc m.toNat++rest):=by rw [show Bc m.toNat++rest=b from hb.symm];exact hB
  obtain ⟨v',hs,hB'⟩:=Bytes.drop (n:=(Bc m.toNat).length) hB2 (by simp);rw [List.drop_left] at hB';obtain ⟨va',vc',rfl⟩:=Bytes.form hB';have hP:NumP b bad m rest bad:=⟨hm,by rw [hb];simp,fun m' rest' hm' h'=>by
   obtain ⟨h1,h2⟩:=ALB hm hm' (by rw [←hb];exact h');exact ⟨h1,h2,rfl⟩⟩
  have hgt:decide ((9007199254740991:Int) < ((m.toNat:Nat):Int))=false:=by simp;omega
  refine call (NC hB2 hm2 ?_);simp only [hgt,bne_self_eq_false,SSd,Nat.reduceAdd];refine rdb ?_;simp only [hs,SSd,Nat.reduceAdd];refine st1 rfl ?_;try simp only [SSd,Nat.reduceAdd]
  rw [wrap_i64 _ (by omega),←hmn];exact Gh.done (hk m _ rest bad hB' hP)
 ·have bd:sh71_1 ω (pt r) (.int .i64 0) (fun v=>Gh (K v)) I ((r,rdO (.slice va b.length vc) bad)::F):=by
   repeat' (first|(with_reducible first|refine AZ ?_|refine Aa ?_|refine Ac ?_|refine keepA ?_|refine AV (fun _=>?_)|refine rdb ?_)|((with_reducible first|refine st1 ?_ ?_|refine rdB ?_ ?_);rfl)|(with_reducible refine Ah ?_)|((with_reducible refine Ai ?_ ?_);rfl)|((with_reducible refine stB ?_ ?_ ?_ ?_);rfl;rfl;exact AK rfl)|((with_reducible first|refine rdP _ rfl ?_ ?_|refine As _ rfl ?_ ?_);rfl)|((with_reducible refine stP _ rfl ?_ ?_ ?_ ?_);rfl;rfl;rfl)|(with_reducible first|refine AW (sh71_1.eq_1 ..) ?_|refine AW (sh71.eq_1 ..) ?_|refine And.intro ?_ ?_)|(simp only [SSg,Int.reduceBEq,Int.reduceBNe,Int.reduceLT,Int.reduceLE,beq_self_eq_true,bne_self_eq_false])|(with_reducible first|refine AG (fun _=>?_) (fun _=>?_)|refine AC (fun _=>?_) (fun _=>?_))|(simp only [SSd,Nat.reduceAdd]))
   exact Gh.done (hk 0 _ [] true (Ig I) ⟨⟨by omega,by omega⟩,Nat.zero_le _,fun m rest hm h=>absurd ⟨m,rest,hm,h⟩ hx⟩)
  refine call (Uf hB hl (fun n size e hn0 hn1 hsz=>?_));try simp only [SSd,Nat.reduceAdd]
  refine AG (fun e1=>?_) (fun e1=>bd);have he:e=0:=by simpa using e1
  refine AC (fun e2=>bd) (fun e2=>?_);have hn:n≤9007199254740991:=by simpa using e2
  obtain ⟨v',hs,hB'⟩:=Bytes.drop (n:=size) hB (hsz he);obtain ⟨va',vc',rfl⟩:=Bytes.form hB';refine rdb ?_;simp only [hs,SSd,Nat.reduceAdd];refine st1 rfl ?_;try simp only [SSd,Nat.reduceAdd]
  rw [wrap_i64 _ (by omega)];exact Gh.done (hk n _ _ bad hB' ⟨⟨hn0,hn⟩,by simp,fun m rest hm h=>absurd ⟨m,rest,hm,h⟩ hx⟩)
theorem Sj {r:Nat}{v:Value}{b:List UInt8}{bad:Bool}{F:LH}(hB:Bytes I v b)(hl:b.length≤140737488355328)
  (hk:∀s v' b' bad',Bytes I v' b'→StP b bad s b' bad'→K (sv s) I ((r,rdO v' bad')::F)):CT ω 72 #[pt r] K I ((r,rdO v bad)::F):=by
 refine AOI ?_;unfold sh72;refine AV (fun b1=>?_);refine call (Cal.pick r (IJ hB hl (fun n1 x1 c1 d1 hB1 hP1=>?_)));refine call (IJ hB1 (by have:=hP1.len;omega) (fun n2 x2 c2 d2 hB2 hP2=>?_));have hP:∀d',(AU ⟨n1,n2⟩=true→d'=d2)→StP b bad ⟨n1,n2⟩ c2 d':=fun d' hd=>⟨⟨hP1.max,hP2.max⟩,Nat.le_trans hP2.len hP1.len,fun x rest hx hb=>by
  have hm:=Be hx;obtain ⟨e1,e2,e3⟩:=hP1.get x.fWall (nB x.fLogic++rest) hm.1 (by rw [hb];simp [Ed]);obtain ⟨e4,e5,e6⟩:=hP2.get x.fLogic rest hm.2 e2;subst e1 e4;exact ⟨rfl,e5,by rw [hd hx,e6,e3]⟩⟩
 try simp only [SSd,Nat.reduceAdd]
 refine AV (fun b2=>?_);refine stB rfl rfl (AK rfl) ?_;refine rdB rfl ?_;refine call (BS (x:=⟨n1,n2⟩) ?_);repeat' (first|(with_reducible first|refine AZ ?_|refine Aa ?_|refine Ac ?_|refine keepA ?_|refine AV (fun _=>?_)|refine rdb ?_)|((with_reducible first|refine st1 ?_ ?_|refine rdB ?_ ?_);rfl)|(with_reducible refine Ah ?_)|((with_reducible refine Ai ?_ ?_);rfl)|((with_reducible refine stB ?_ ?_ ?_ ?_);rfl;rfl;exact AK rfl)|((with_reducible first|refine rdP _ rfl ?_ ?_|refine As _ rfl ?_ ?_);rfl)|((with_reducible refine stP _ rfl ?_ ?_ ?_ ?_);rfl;rfl;rfl)|(with_reducible first|refine AW (sh72_1.eq_1 ..) ?_|refine AW (sh72.eq_1 ..) ?_|refine And.intro ?_ ?_)|(simp only [SSg,Int.reduceBEq,Int.reduceBNe,Int.reduceLT,Int.reduceLE,beq_self_eq_true,bne_self_eq_false])|(with_reducible first|refine AG (fun _=>?_) (fun _=>?_)|refine AC (fun _=>?_) (fun _=>?_))|(simp only [SSd,Nat.reduceAdd]))
 ·rename_i e
  exact Gh.to ((r,rdO x2 true)::F) (Gh.done (hk ⟨n1,n2⟩ _ _ _ hB2 (hP true (fun h=>by rw [h] at e;cases e))))
 ·exact Gh.to ((r,rdO x2 d2)::F) (Gh.done (hk ⟨n1,n2⟩ _ _ _ hB2 (hP d2 (fun _=>rfl))))
theorem Iy {r:Nat}{v:Value}{b:List UInt8}{bad:Bool}{F:LH}(hB:Bytes I v b)(hl:b.length≤140737488355328)
  (hk:∀t u v' b' bad' I',Ext I I'→Bytes I' u t→Bytes I' v' b'→TxP b bad t b' bad'→K u I' ((r,rdO v' bad')::F)):CT ω 74 #[pt r] K I ((r,rdO v bad)::F):=by
 refine AOH ?_;unfold sh74;refine call (IJ hB hl (fun n1 x1 c1 d1 hB1 hP1=>?_));have h1:=hP1.max;have hc1:=hP1.len;obtain ⟨va,vc,rfl⟩:=Bytes.form hB1;try simp only [SSd,Nat.reduceAdd]
 refine rdb ?_;try simp only [SSd,Nat.reduceAdd]
 refine AC (fun e=>?_) (fun e=>?_)
 ·have hgt:(c1.length:Int) < n1:=by simpa using e
  repeat' (first|(with_reducible first|refine AZ ?_|refine Aa ?_|refine Ac ?_|refine keepA ?_|refine AV (fun _=>?_)|refine rdb ?_)|((with_reducible first|refine st1 ?_ ?_|refine rdB ?_ ?_);rfl)|(with_reducible refine Ah ?_)|((with_reducible refine Ai ?_ ?_);rfl)|((with_reducible refine stB ?_ ?_ ?_ ?_);rfl;rfl;exact AK rfl)|((with_reducible first|refine rdP _ rfl ?_ ?_|refine As _ rfl ?_ ?_);rfl)|((with_reducible refine stP _ rfl ?_ ?_ ?_ ?_);rfl;rfl;rfl)|(with_reducible first|refine AW (sh74.eq_1 ..) ?_|refine And.intro ?_ ?_)|(simp only [SSg,Int.reduceBEq,Int.reduceBNe,Int.reduceLT,Int.reduceLE,beq_self_eq_true,bne_self_eq_false])|(with_reducible first|refine AG (fun _=>?_) (fun _=>?_)|refine AC (fun _=>?_) (fun _=>?_))|(simp only [SSd,Nat.reduceAdd]))
  refine Gh.done (hk [] _ _ [] true I (Ext.refl _) (Ig I) (Ig I) ⟨Nat.zero_le _,Nat.zero_le _,fun x rest hx hb=>?_⟩);obtain ⟨e1,e2,e3⟩:=hP1.get (x.length:Int) (x++rest) ⟨by omega,by omega⟩ (by rw [hb];simp [DY,nB]);rw [e1,e2,List.length_append] at hgt;omega
 ·have hle:n1≤(c1.length:Int):=by simpa using e
  obtain ⟨n,rfl⟩:∃n:Nat,n1=n:=⟨n1.toNat,by have:=h1.1;omega⟩;have hn:n≤c1.length:=by omega
  obtain ⟨u1,hs1,hT⟩:=Bytes.take hB1 hn;obtain ⟨u2,hs2,hD⟩:=Bytes.drop hB1 hn;obtain ⟨ua,uc,rfl⟩:=Bytes.form hD;refine rdb ?_;simp only [hs1,SSd,Nat.reduceAdd];haveI:SplitL [] ((r,rdO (.slice va c1.length vc) d1)::F) ((r,rdO (.slice va c1.length vc) d1)::F):=⟨List.Perm.refl _⟩
  refine GT (X6:=[]) (l:=[]) (y:=c1.take n) (SlO.none _ 1) (SlI.news hT) (by simp;omega) (fun Y w hO=>?_);rw [List.nil_append] at hO;refine OB.freeze hO (fun I2 hI2 hB2=>Gh.done ?_);try simp only [SSd,Nat.reduceAdd]
  refine rdb ?_;simp only [hs2,SSd,Nat.reduceAdd];refine st1 rfl ?_;refine Gh.done (hk (c1.take n) w _ (c1.drop n) d1 I2 hI2 hB2 (hD.mono hI2) ⟨by simp;omega,by simp;omega,fun x rest hx hb=>?_⟩);obtain ⟨e1,e2,e3⟩:=hP1.get (x.length:Int) (x++rest) ⟨by omega,by omega⟩ (by rw [hb];simp [DY,nB]);have e4:n=x.length:=by omega
  rw [e2,e4];exact ⟨by simp,by simp,e3⟩
theorem Uu {r:Nat}{v:Value}{b:List UInt8}{bad:Bool}{F:LH}(hB:Bytes I v b)(hl:b.length≤140737488355328)
  (hk:∀p v' b' bad' I' pc,Ext I I'→TSpanV I' p pc→Bytes I' v' b'→SpnP b bad p b' bad'→K (.agg pc.toArray) I' ((r,rdO v' bad')::F)):CT ω 75 #[pt r] K I ((r,rdO v bad)::F):=by
 refine AOG ?_;unfold AKa;refine AV (fun b1=>?_);refine call (Cal.pick r (Iy hB hl (fun t1 u1 x1 c1 d1 I1 hI1 hT1 hB1 hP1=>?_)));refine call (Iy hB1 (by have:=hP1.len;omega) (fun t2 u2 x2 c2 d2 I2 hI2 hT2 hB2 hP2=>?_));have l1:=hP1.len;have l2:=hP2.len;have l3:=hP1.tlen;have l4:=hP2.tlen;obtain ⟨ua,uc,rfl⟩:=Bytes.form hT1;obtain ⟨wa,wc,rfl⟩:=Bytes.form hT2;try simp only [SSd,Nat.reduceAdd]
 refine Go.SL.stB rfl rfl (AK rfl) ?_;refine rdB rfl ?_;refine Gh.to ((r,rdO x2 d2)::F) (Gh.done (hk ⟨t1,t2⟩ _ c2 d2 I2 _ (hI1.trans hI2) ⟨_,_,rfl,hT1.mono hI2,hT2⟩ hB2 ⟨⟨by simp only;omega,by simp only;omega⟩,by omega,fun x rest h1 h2 hb=>?_⟩));obtain ⟨e1,e2,e3⟩:=hP1.get x.fFrom _ h1 hb;obtain ⟨e4,e5,e6⟩:=hP2.get x.fTo rest h2 e2;subst e1 e4;exact ⟨rfl,e5,by rw [e6,e3]⟩
theorem LG {r:Nat}{v:Value}{b:List UInt8}{bad:Bool}{F:LH}(hB:Bytes I v b)(hk:K (.bool (!bad&&b.length==0)) I ((r,rdO v bad)::F)):CT ω 76 #[pt r] K I ((r,rdO v bad)::F):=by
 refine AOF ?_;unfold sh76;repeat' (first|(with_reducible first|refine AZ ?_|refine Aa ?_|refine Ac ?_|refine keepA ?_|refine AV (fun _=>?_)|refine rdb ?_)|((with_reducible first|refine st1 ?_ ?_|refine rdB ?_ ?_);rfl)|(with_reducible refine Ah ?_)|((with_reducible refine Ai ?_ ?_);rfl)|((with_reducible refine stB ?_ ?_ ?_ ?_);rfl;rfl;exact AK rfl)|((with_reducible first|refine rdP _ rfl ?_ ?_|refine As _ rfl ?_ ?_);rfl)|((with_reducible refine stP _ rfl ?_ ?_ ?_ ?_);rfl;rfl;rfl)|(with_reducible first|refine AW (sh76.eq_1 ..) ?_|refine And.intro ?_ ?_)|(simp only [SSg,Int.reduceBEq,Int.reduceBNe,Int.reduceLT,Int.reduceLE,beq_self_eq_true,bne_self_eq_false])|(with_reducible first|refine AG (fun _=>?_) (fun _=>?_)|refine AC (fun _=>?_) (fun _=>?_))|(simp only [SSd,Nat.reduceAdd,Bytes.len hB]))
 all_goals (refine Gh.done (EW hk ?_);simp_all)
 all_goals (rw [Bool.eq_iff_iff];simp)
end
def Lh:TCmd:=⟨3,1,1,z0,z0,0,false,false,[97],[120],⟨[],[]⟩,0⟩
def cmdG:TCmd:=⟨1,1,0,z0,z0,0,false,false,[97],[],⟨[],[]⟩,0⟩
def La:TSpan:=⟨[],[]⟩
theorem ALW:CZ Lh=true:=by decide
theorem ALX:CZ cmdG=true:=by decide
theorem APB {m:Mch}{c:TCmd}(h:CZ c=true)(hk:c.fKind=3):BH m c=BV (DN m c):=by
 unfold BH;rw [if_neg (by simp [h])];unfold doM;simp [hk]
theorem APC {m:Mch}{c:TCmd}(h:CZ c=true)(hk:c.fKind=1):BH m c=BV (FP m c):=by
 unfold BH;rw [if_neg (by simp [h])];unfold doM;simp [hk]
theorem ANI:(DN (HG La) Lh).1.fCode=0:=by decide
theorem ANJ:(DN (HG La) Lh).2.marks=[]:=by decide
theorem ANK:(FP (DN (HG La) Lh).2 cmdG).1.fCode=0∧(FP (DN (HG La) Lh).2 cmdG).1.fGot.fValue=[120]:=by decide
section
variable {ω:Om}{I:Imm}{L:LH}{K:Value→M}
theorem AIs {c:UInt8}(hk:∀u I',Ext I I'→Bytes I' u [c]→K u I' L):BN 5 1 #[.int .u8 0] 1 [(0,.int .u8 c.toNat)] (gh fun v=>UV v (gh K)) I L:=by
 refine Oc rfl (by omega) rfl (fun X u hX=>Gh.done ?_);have hX':OB X u [c]:=by unfold OB;simpa [Value.cells,u8s] using hX
 by_cases h0:X=[]
 ·subst h0;exfalso
  obtain ⟨_,h⟩:=hX';rcases h with ⟨_,h,_⟩|⟨b,cap,cs,h,_⟩
  ·simp at h
  ·cases h
 ·exact AIo hX' h0 (fun I' hI hS=>hk u I' hI hS)
theorem Vv (hk:∀I',Ext I I'→K (.bool true) I' L):CT ω 10 #[] K I L:=by
 refine AOe ?_;unfold sh10;try simp only [SSd,Nat.reduceAdd]
 refine call (IM (p:=La) ⟨_,_,rfl,Ig I,Ig I⟩ (fun h=>by cases h) (fun _ b X I1 hI1 hX=>?_));try simp only [SSd,Nat.reduceAdd]
 refine AIs (c:=97) (fun u1 I2 hI2 hB2=>?_);refine AIs (c:=120) (fun u2 I3 hI3 hB3=>?_);obtain ⟨a1,k1,rfl⟩:=Bytes.form hB2;obtain ⟨a2,k2,rfl⟩:=Bytes.form hB3;try simp only [SSd,Nat.reduceAdd]
 have e1:=APB (m:=HG La) ALW rfl;have hM0:=Xn (p:=La) (by decide);have hM1:=Kz (c:=Lh) hM0;rw [e1] at hM1;refine call (JO (c:=Lh) hM0 (by omega) (hX.mono (hI2.trans hI3)) ⟨_,_,_,_,rfl,hB2.mono hI3,hB3,Ig I3,Ig I3⟩ ⟨by decide,by decide,by decide,by decide⟩ (fun h=>by cases h) (fun h=>by cases h) (fun I4 X1 cells hI4 hX1 hr=>?_));rw [e1] at hX1 hr ⊢;refine ⟨fun _=>?_,fun m2 b2 X2 h=>by cases h⟩;replace hX1:MchR I4 b X1 (DN (HG La) Lh).2:=hX1
 replace hr:TResV I4 (DN (HG La) Lh).1 cells:=hr
 replace hM1:MOk (DN (HG La) Lh).2 (0+1):=hM1.2.1
 have hP:=ANI;have hPm:=ANJ;have hG:=ANK;generalize (DN (HG La) Lh).1=r1 at *;generalize (DN (HG La) Lh).2=m1 at *;have hr1:=hr.one;obtain ⟨y0,y1,rfl,t0,t1⟩:=id hr;try simp only [SSd,Nat.reduceAdd]
 refine AV (fun q1=>?_);refine stB rfl rfl hr1 ?_;refine AIs (c:=97) (fun u3 I5 hI5 hB5=>?_);obtain ⟨a3,k3,rfl⟩:=Bytes.form hB5;try simp only [SSd,Nat.reduceAdd]
 have e2:=APC (m:=m1) ALX rfl;have hfl:GI m1 cmdG.fKey=false:=by unfold GI;rw [hPm];rfl
 refine call (Cal.split X1 (JO (c:=cmdG) hM1 (by omega) (hX1.mono hI5) ⟨_,_,_,_,rfl,hB5,Ig I5,Ig I5,Ig I5⟩ ⟨by decide,by decide,by decide,by decide⟩ (fun h=>by rw [hfl] at h;cases h) (fun h=>by cases h) (fun I6 X2 cells2 hI6 hX2 hr2=>?_)));rw [e2] at hX2 hr2 ⊢;refine ⟨fun _=>?_,fun m2 b2 X2 h=>by cases h⟩;replace hr2:TResV I6 (FP m1 cmdG).1 cells2:=hr2
 generalize (FP m1 cmdG).1=r2 at *;have hr3:=hr2.one;obtain ⟨z1,z2,rfl,s0,s1⟩:=id hr2;try simp only [SSd,Nat.reduceAdd]
 refine AV (fun q2=>?_);refine stB rfl rfl hr3 ?_;have hI06:=hI1.trans (hI2.trans (hI3.trans (hI4.trans (hI5.trans hI6))));rw [hG.2] at s0;repeat' (first|(with_reducible first|refine AZ ?_|refine Aa ?_|refine Ac ?_|refine keepA ?_|refine AV (fun _=>?_)|refine Gq s0 (Ext.refl _) ?_|refine rdb ?_)|((with_reducible first|refine st1 ?_ ?_|refine rdB ?_ ?_);rfl)|(with_reducible refine Ah ?_)|((with_reducible refine Ai ?_ ?_);rfl)|((with_reducible refine stB ?_ ?_ ?_ ?_);rfl;rfl;exact AK rfl)|((with_reducible first|refine rdP _ rfl ?_ ?_|refine As _ rfl ?_ ?_);rfl)|((with_reducible refine stP _ rfl ?_ ?_ ?_ ?_);rfl;rfl;rfl)|(with_reducible first|refine AW (sh10.eq_1 ..) ?_|refine And.intro ?_ ?_)|(simp only [SSg,Int.reduceBEq,Int.reduceBNe,Int.reduceLT,Int.reduceLE,beq_self_eq_true,bne_self_eq_false])|(with_reducible first|refine AG (fun _=>?_) (fun _=>?_)|refine AC (fun _=>?_) (fun _=>?_))|(simp only [SSd,Nat.reduceAdd,hP,hG.1]))
 exact Gh.to L (Gh.done (hk I6 hI06))
end
section
variable {ω:Om}{I:Imm}{L:LH}{K:Value→M}
end
section
variable {ω:Om}{I:Imm}{L:LH}{K:Value→M}
end
theorem AIt {c:TCmd}(h:AGm reachBytes c):Lens c:=by
 have e:reachBytes=140737488351232:=by rfl
 obtain ⟨_,_,_,_,_,_,h1,h2,⟨h3,h4⟩,_⟩:=h;exact ⟨by omega,by omega,by omega,by omega⟩
section
variable {ω:Om}{I:Imm}{L:LH}{K:Value→M}{br:Nat}{V:RV}{m:Mch}{R:LH}
end
section
variable {ω:Om}{I:Imm}{L:LH}{K:Value→M}{br:Nat}{V:RV}{m:Mch}{R:LH}
end
section
variable {ω:Om}{I:Imm}{L:LH}{K:Value→M}
def Hi (x:TKV):List UInt8:=DY x.fKey++DY x.fValue
structure AnsOk (r:TRes):Prop where
 rows:∀x∈r.fRows,1≤x.fKey.length∧x.fKey.length≤110∧x.fValue.length≤10000
 code:0≤r.fCode∧r.fCode≤999
 state:0≤r.fState∧r.fState≤3
 by':Dk r.fBy
 gby:Dk r.fGot.fBy
 at':AU r.fAt=true
 gat:AU r.fGot.fAt=true
 val:r.fGot.fValue.length≤10000
 len:r.fRows.length≤90
theorem AJX {r:TRes}(h:GO r=true):AnsOk r:=by
 simp only [GO,Bool.and_eq_true,List.all_eq_true,decide_eq_true_eq] at h;obtain ⟨⟨⟨⟨⟨⟨⟨⟨h1,h2⟩,h3⟩,h4⟩,h5⟩,h6⟩,h7⟩,h8⟩,h9⟩:=h;refine ⟨fun x hx=>?_,h2,h3,maxB_iff.1 h4,maxB_iff.1 h5,h6,h7,h8,h9⟩;have:=h1 x hx;simp only [rowB,Ap,Bool.and_eq_true,decide_eq_true_eq] at this;omega
end
section
variable {ω:Om}{I:Imm}{L:LH}{K:Value→M}
end
section
variable {ω:Om}{I:Imm}{L:LH}{K:Value→M}
end
section
variable {ω:Om}{I:Imm}{L L0:LH}{K:Value→M}{b r clock:Nat}{es:Array MapEntry}{m:Key→Option Value}{vis:List MapEntry}
theorem Xy {k:Key}{e:MapEntry}:∀{l:List MapEntry} {i:Nat},(l.map Au).Nodup→e∈l→Au e=k→(fnd k l i).map (·.2)=some e.val
 |x::l,i,hn,he,hk=>by
  simp only [List.map_cons,List.nodup_cons] at hn;simp only [fnd];rcases List.mem_cons.1 he with rfl|he
  ·rw [if_pos hk];rfl
  ·rw [if_neg (fun e2=>hn.1 (List.mem_map.2 ⟨e,he,by rw [hk,e2]⟩))];exact Xy hn.2 he hk
theorem GE (h:MapS es clock m){e:MapEntry}(he:e∈es.toList):m (Au e)=some e.val:=by
 rw [h.val];exact Xy h.nod he rfl
theorem IP (h:MapS es clock m){k:Key}{v:Value}(hv:m k=some v):∃e∈es.toList,Au e=k∧e.val=v:=by
 rw [h.val] at hv;cases hf:fnd k es.toList 0 with
 |none=>rw [hf] at hv;cases hv
 |some p=>
  obtain ⟨i,u⟩:=p;rw [hf] at hv;obtain ⟨n,e,_,h2,h3,h4⟩:=Jo hf;refine ⟨e,List.mem_of_getElem? h2,h3,?_⟩;rw [h4];simpa using hv
theorem TM (h:MapS es clock m){e:MapEntry}(he:e∈es.toList):e.key=CY (Au e):=by
 obtain ⟨s,hs⟩:=h.str e he;unfold Au CY;rw [hs]
theorem AOw (h:MapS es clock m)(ha:MapAt I L0 r es clock)(hend:(∀e∈es.toList,e.born∈vis.map (·.born))→K (.tuple #[.bool false]) I ((b,BX r clock vis)::L0))
  (hstep:∀e,e∈es.toList→e.born ∉ vis.map (·.born)→K (.tuple #[.bool true,e.key,e.val]) I ((b,BX r clock (vis++[e]))::L0)):Oj (.pointer (some ⟨b,0,.none⟩)) K I ((b,BX r clock vis)::L0):=by
 refine ⟨b,[],L0,rfl,.inr ⟨r,clock,(vis.map (·.born)).toArray,clock,es,clock,rfl,MapAt.skip ha,?_,fun hh=>hend ?_,fun e he hs=>?_⟩⟩
 ·intro hc;simp only [Bool.and_eq_true,Bool.not_eq_true',Array.isEmpty_iff,Array.all_eq_true',decide_eq_true_eq] at hc;cases hl:es.toList with
  |nil=>
   have:es=#[]:=by cases es;simpa using hl
   have h2:=hc.1.2;rw [this] at h2;simp at h2
  |cons e l=>
   have he:e∈es.toList:=by rw [hl];exact List.mem_cons_self ..
   have h1:=h.brn e he;have h2:=hc.2 e (by simpa using he);omega
 ·intro e he;cases hc:(vis.map (·.born)).toArray.contains e.born with
  |false=>have:=hh e (by simpa using he) hc;have:=h.brn e he;omega
  |true=>simpa using hc
 ·have hne:e.born ∉ vis.map (·.born):=by simpa using hs
  have:=hstep e (by simpa using he) hne;simpa [BX] using this
theorem Hu {α:Type}{p q:α→Bool}{a:α}:∀{l:List α},a∈l→p a=true→q a=false→(∀x∈l,q x=true→p x=true)→(l.filter q).length < (l.filter p).length
 |x::l,ha,hp,hq,h=>by
  have hle:(l.filter q).length≤(l.filter p).length:=by
   rw [←List.countP_eq_length_filter,←List.countP_eq_length_filter];exact List.countP_mono_left fun y hy hh=>h y (List.mem_cons_of_mem _ hy) hh
  rcases List.mem_cons.1 ha with rfl|ha
  ·simp only [List.filter_cons,hp,hq,if_true,Bool.false_eq_true,if_false,List.length_cons];omega
  ·have ih:=Hu ha hp hq fun y hy hh=>h y (List.mem_cons_of_mem _ hy) hh;have h0:=h x (List.mem_cons_self ..);simp only [List.filter_cons];cases hx:q x with
   |true=>simp only [h0 hx,if_true,List.length_cons];omega
   |false=>cases hy:p x <;> simp only [if_true,Bool.false_eq_true,if_false,List.length_cons] <;> omega
theorem APD (h:MapS es clock m)(k:Key):∃es',ZV k es clock= .map es' clock∧MapS es' clock (HZ m k none)∧es'.toList.Sublist es.toList∧(∀e∈es'.toList,Au e≠k)∧(∀e∈es.toList,Au e≠k→e∈es'.toList):=by
 obtain ⟨es',h1,h2⟩:=h.del k;have hs:es'.toList.Sublist es.toList:=by
  unfold ZV at h1;cases hf:fnd k es.toList 0 with
  |none=>rw [hf] at h1;simp only [Obj.map.injEq] at h1;rw [h1.1];exact List.Sublist.refl _
  |some p=>
   obtain ⟨i,v⟩:=p;rw [hf] at h1;simp only [Obj.map.injEq] at h1;rw [←h1.1,Array.toList_eraseIdxIfInBounds];exact List.eraseIdx_sublist _ _
 refine ⟨es',h1,h2,hs,fun e he hk=>?_,fun e he hk=>?_⟩
 ·have:=GE h2 he;unfold HZ at this;rw [if_pos hk] at this;cases this
 ·have h3:HZ m k none (Au e)=some e.val:=by unfold HZ;rw [if_neg hk];exact GE h he
  obtain ⟨e',he',hk',_⟩:=IP h2 h3;rw [←FY h.nod (hs.subset he') he hk'];exact he'
theorem Vi {fv:Value}{F:LH}{r c:Nat}{es:Array MapEntry}{l:AL Key TMk}{del:Key×TMk→Bool}(h:MapS es c (BK mv l))(hs:SrtA blt l)
  (hf:∀(q:Key×TMk) (Y:LH) (K':Value→M),q∈l→K' (.bool (del q)) I (Y++F)→CW ω fv #[CY q.1,mv q.2] K' I (Y++F))
  (hk:∀es',MapS es' c (BK mv (l.filter fun q=> !del q))→K (.tuple #[]) I ((r,.map es' c)::F)):
  CT ω 164 #[.map (some r),fv] K I ((r,.map es c)::F):=by
 refine AMV ?_;unfold ACe;have hsk:∀e∈es.toList,∃x,lkA l (Au e)=some x∧e.val=mv x:=by
  intro e he;have:=GE h he;unfold BK at this;cases hx:lkA l (Au e) with
  |none=>rw [hx] at this;cases this
  |some x=>rw [hx] at this;exact ⟨x,rfl,(Option.some.inj this).symm⟩
 let dl:MapEntry→Bool:=fun e=>match lkA l (Au e) with
  |some x=>del (Au e,x)
  |none=>false
 have hdl:∀e x,lkA l (Au e)=some x→dl e=del (Au e,x):=by intro e x hx;show (match lkA l (Au e) with|some x=>del (Au e,x)|none=>false)=_;rw [hx]
 generalize dl=dl at hdl;refine Yq (.inl (List.mem_cons_self ..)) (fun it=>?_);refine Gh.done ?_;refine loop (fun n s I' L'=>I'=I∧∃(es1:Array MapEntry) (m1:Key→Option Value) (vis:List MapEntry),n=(es1.toList.filter fun e=> !(vis.map (·.born)).contains e.born).length∧MapS es1 c m1∧(∀e∈es1.toList,e∈es.toList)∧(∀e∈es1.toList,e.born∈vis.map (·.born)→dl e=false)∧(∀e∈es.toList,e∈es1.toList∨dl e=true)∧
  L'=(it,BX r c vis)::(r,.map es1 c)::F) _ ⟨rfl,es,_,[],rfl,h,fun e he=>he,fun e he hv=>(by cases hv),fun e he=>.inl he,rfl⟩ ?_
 rintro n s I' L' ⟨rfl,es1,m1,vis,rfl,h1,hsub,hvis,hall,rfl⟩;unfold Wz;refine AOw h1 (.inl (List.mem_cons_self ..)) (fun hv=>Gh.done ?_) (fun e he hne=>Gh.done ?_)
 ·try simp only [SSd,Nat.reduceAdd]
  refine Gh.to ((r,.map es1 c)::F) (Gh.done (hk es1 ?_));have hm:m1=BK mv (l.filter fun q=> !del q):=by
   funext k
   cases hx:lkA l k with
   |none=>
    have h2:lkA (l.filter fun q=> !del q) k=none:=lkA_none.2 fun q hq=>lkA_none.1 hx q (List.mem_filter.1 hq).1;unfold BK;rw [h2];cases h3:m1 k with
    |none=>rfl
    |some v=>
     obtain ⟨e,he,hk,_⟩:=IP h1 h3;obtain ⟨x,hx2,_⟩:=hsk e (hsub e he);rw [hk,hx] at hx2;cases hx2
   |some x=>
    obtain ⟨e,he,hke,hve⟩:=IP (v:=mv x) h (by unfold BK;rw [hx];rfl);have hd:=hdl e x (by rw [hke];exact hx);rw [hke] at hd;cases hb:del (k,x) with
    |true=>
     have h2:lkA (l.filter fun q=> !del q) k=none:=lkA_none.2 fun q hq=>by
      intro hqk;obtain ⟨hq1,hq2⟩:=List.mem_filter.1 hq;obtain ⟨q1,q2⟩:=q;simp only at hqk
      subst hqk;have:=FO Lj hs hq1;rw [hx] at this;rw [←Option.some.inj this,hb] at hq2;simp at hq2
     unfold BK;rw [h2];cases h3:m1 k with
     |none=>rfl
     |some v=>
      obtain ⟨e1,he1,hk1,_⟩:=IP h1 h3;have h4:=hvis e1 he1 (hv e1 he1);have h5:=hdl e1 x (by rw [hk1];exact hx);rw [hk1,hb,h4] at h5;cases h5
    |false=>
     rw [hb] at hd;rcases hall e he with h2|h2
     ·have h3:=GE h1 h2;rw [hke,hve] at h3;have h4:lkA (l.filter fun q=> !del q) k=some x:=FO Lj (List.Pairwise.sublist List.filter_sublist hs) (List.mem_filter.2 ⟨Ep hx,by simp [hb]⟩);unfold BK;rw [h3,h4];rfl
     ·rw [hd] at h2;cases h2
  rw [hm] at h1;exact h1
 ·have he0:=hsub e he;obtain ⟨x,hx,hev⟩:=hsk e he0;have hek:=TM h1 he;try simp only [SSd,Nat.reduceAdd]
  refine ⟨_,AJG h1 (.inl (List.mem_cons_self ..)) he,?_⟩;rw [hek,hev];try simp only [SSd,Nat.reduceAdd]
  refine AV (fun kb=>?_);refine stB rfl rfl (AK rfl) ?_;refine rdB rfl ?_;have hd:=hdl e x hx;have hvm:∀e2:MapEntry,e2.born∈(vis++[e]).map (·.born)→e2.born∈vis.map (·.born)∨e2.born=e.born:=by
   intro e2 h2;rw [List.map_append,List.mem_append] at h2;rcases h2 with h2|h2
   ·exact .inl h2
   ·right;simpa using h2
  refine CalV.mono (hf (Au e,x) ((kb,.cells #[.int .i64 x.fAt.fWall,.int .i64 x.fAt.fLogic,.int .i64 x.fBy] 159 (0,0))::(it,BX r c (vis++[e]))::[(r,.map es1 c)]) (fun v I2 L2=>v= .bool (del (Au e,x))∧I2=I'∧L2=(kb,.cells #[.int .i64 x.fAt.fWall,.int .i64 x.fAt.fLogic,.int .i64 x.fBy] 159 (0,0))::(it,BX r c (vis++[e]))::(r,.map es1 c)::F) (Ep hx) ⟨rfl,rfl,rfl⟩) ?_;rintro v I2 L2 ⟨rfl,rfl,rfl⟩;refine Gh.done ?_;cases hb:del (Au e,x) with
  |true=>
   try simp only [SSd,Nat.reduceAdd]
   obtain ⟨es2,d1,d2,d3,d4,d5⟩:=APD h1 (Au e);refine ALU h1 d1 (Gh.done ?_);refine Gh.to ((it,BX r c (vis++[e]))::(r,.map es2 c)::F) (Gh.done ⟨_,?_,rfl,es2,_,vis++[e],rfl,d2,fun e2 h2=>hsub e2 (d3.subset h2),fun e2 h2 hv=>?_,fun e2 h2=>?_,rfl⟩)
   ·refine Nat.lt_of_le_of_lt (d3.filter _).length_le (Hu he (by simpa using hne) (by simp) fun e2 h2 hq=>?_);simp at hq ⊢;exact hq.1
   ·rcases hvm e2 hv with h3|h3
    ·exact hvis e2 (d3.subset h2) h3
    ·exact absurd (by rw [FY h1.bnd (d3.subset h2) he h3]) (d4 e2 h2)
   ·rcases hall e2 h2 with h3|h3
    ·by_cases h4:Au e2=Au e
     ·right;rw [FY h.nod h2 he0 h4,hd,hb]
     ·exact .inl (d5 e2 h3 h4)
    ·exact .inr h3
  |false=>
   try simp only [SSd,Nat.reduceAdd]
   refine Gh.to ((it,BX r c (vis++[e]))::(r,.map es1 c)::F) (Gh.done ⟨_,?_,rfl,es1,_,vis++[e],rfl,h1,hsub,fun e2 h2 hv=>?_,hall,rfl⟩)
   ·refine Hu he (by simpa using hne) (by simp) fun e2 h2 hq=>?_;simp at hq ⊢;exact hq.1
   ·rcases hvm e2 hv with h3|h3
    ·exact hvis e2 h2 h3
    ·rw [FY h1.bnd h2 he h3,hd,hb]
end
theorem Zy {P:Program}{ρ:Go.Shelf.Ren}(Lay:Go.Proofs.SlLaysW.n5 P ρ){ω:Om}{I:Imm}{L:LH}{K:Value→M}{b clock:Nat}{es:Array MapEntry}(hin:(b,Obj.map es clock)∈L)
  (hk:∀b',K (.map (some b')) I ((b',.map es clock)::L)):Cal P ω (ρ.f 5) #[.map (some b)] K I L:=by
 intro w hs;refine (Go.Proofs.AnyW.maps_Clone Lay b es clock w (hs.own b _ hin)).mono ?_;rintro e w' ⟨rfl,rfl⟩;exact ⟨_,I,_,rfl,hs.push _,hk _⟩
end Go.Proofs.YtmmfcgbfbcamcaaGreatDoor
namespace Go.SL
open Go.Proofs
theorem Cal.le {P:Program}{ω:Om}{g:Nat}{args:Array Value}{I:Imm}{L:LH}{w:World}{Q:Value→Prop}(hs:St ω w I L)(hI:∀b o,w.heap[b]? =some o→I b=some o)(hd:ω.dr=w.drawn)
  (h:Cal P ω g args (fun v I2 _=>Q v∧Ext I I2) I L):Calls P g args w fun e w'=>(∃v,e= .returned v∧Q v)∧∃q os',w'=Sort.grow (w.drewN q) os':=by
 refine (h w hs).mono ?_;rintro e w' ⟨v,I',L',rfl,hs',hv,hI'⟩;refine ⟨⟨v,rfl,hv⟩,w'.drawn - w.drawn,w'.heap.extract w.heap.size w'.heap.size,?_⟩;have hdr:=hs'.dr;rw [hd] at hdr;have hblk:∀k,k < w.heap.size→w'.heap[k]? =w.heap[k]? :=by
  intro k hk;have h1:w.heap[k]? =some w.heap[k]:=Array.getElem?_eq_getElem hk;rw [h1];exact hs'.imm k _ (hI' k _ (hI k _ h1))
 have hsz:w.heap.size≤w'.heap.size:=by
  rcases Nat.eq_zero_or_pos w.heap.size with h0|h0
  ·omega
  ·have:=hblk (w.heap.size - 1) (by omega);rw [Array.getElem?_eq_getElem (by omega:w.heap.size - 1 < w.heap.size)] at this;have:=(Array.getElem?_eq_some_iff.1 this).1;omega
 have h1:w'.heap=w.heap++w'.heap.extract w.heap.size w'.heap.size:=by
  apply Array.ext_getElem?
  intro i;by_cases hi:i < w.heap.size
  ·rw [Array.getElem?_append_left hi,hblk i hi]
  ·rw [Array.getElem?_append_right (by omega),Array.getElem?_extract];by_cases h2:i < w'.heap.size
   ·rw [if_pos (by omega)];congr 1;omega
   ·rw [if_neg (by omega)];exact Array.getElem?_eq_none (by omega)
 obtain ⟨hp,tp,dr,os,ou⟩:=w';have e1:=hs'.tape;have e2:=hs'.os;have e3:=hs'.out;have f1:=hs.tape;have f2:=hs.os;have f3:=hs.out;simp only at *
 unfold Sort.grow World.drewN;simp only [World.mk.injEq];refine ⟨h1,by rw [e1,f1],by omega,by rw [e2,f2],by rw [e3,f3]⟩
theorem Vl {P:Program}{g:Nat}{α:Type}[Inhabited α]{enc:α→List Value}{k:Nat}{cf:α→α→Int}{blk off size:Nat}{w:World}{I:Imm}
  (hI:∀b o,I b=some o→w.heap[b]? =some o∧b≠blk)
  (hC:∀(ω:Om) (I':Imm) (x y:α),Ext I I'→Cal P ω g #[.agg (enc x).toArray,.agg (enc y).toArray] (fun v I2 _=>v= .int .i64 (cf x y)∧Ext I' I2) I' []):CmpLays P g #[] enc k cf blk off size w:=by
 intro m os dk hs x y;have hx:Ext I (FU (sortWorldK enc k w blk off m dk os)):=by
  intro b o hb;obtain ⟨h1,h2⟩:=hI b o hb;have hlt:=(Array.getElem?_eq_some_iff.1 h1).1;show ((Sort.mapBlock (Sort.ahead w m) blk (Sort.putCells id off (Sort.flatK enc k dk))).heap++os)[b]? =some o;rw [Array.getElem?_append_left (by simp [Sort.mapBlock,Sort.ahead];exact hlt)];simp only [Sort.mapBlock,Sort.ahead,Array.getElem?_modify];rw [if_neg (Ne.symm h2)];exact h1
 have h:=hC (AKy (sortWorldK enc k w blk off m dk os)) _ x y hx;have h2:=Cal.le (Q:=fun v=>v= .int .i64 (cf x y)) (st_start _) (fun _ _ h=>h) rfl h;simp only [Array.append_empty];refine h2.mono ?_;rintro e w' ⟨⟨v,rfl,rfl⟩,h3⟩;exact ⟨rfl,h3⟩
theorem St.row {ω:Om}{w w':World}{I:Imm}{F:LH}{b:Nat}{o o':Obj}(h:St ω w I ((b,o)::F))(hk:∀j,j < w.heap.size→j≠b→w'.heap[j]? =w.heap[j]?)(hb:w'.heap[b]? =some o')
  (h1:w'.tape=w.tape) (h2:w'.os=w.os) (h3:w'.output=w.output) (h4:w.drawn≤w'.drawn):St ω w' I ((b,o')::F):=by
 have hnd:=h.nodup;simp only [List.map_cons,List.nodup_cons] at hnd;refine ⟨fun j u hj=>?_,fun j u hj=>?_,by simpa using hnd,fun j u hj=>?_,h1.trans h.tape,h2.trans h.os,h3.trans h.out,Nat.le_trans h.dr h4⟩
 ·rw [hk j (h.ltI hj) (fun e=>by subst e;have:=h.apart j o (List.mem_cons_self ..);rw [this] at hj;cases hj)];exact h.imm j u hj
 ·rcases List.mem_cons.1 hj with e|hj
  ·simp only [Prod.mk.injEq] at e;obtain ⟨rfl,rfl⟩:=e;exact hb
  ·have hj0:=hj;have hj':(j,u)∈(b,o)::F:=List.mem_cons_of_mem _ hj;rw [hk j (h.lt hj') (fun e=>by subst e;exact hnd.1 (List.mem_map.2 ⟨(j,u),hj0,rfl⟩))];exact h.own j u hj'
 ·rcases List.mem_cons.1 hj with e|hj
  ·simp only [Prod.mk.injEq] at e;obtain ⟨rfl,rfl⟩:=e;exact h.apart j o (List.mem_cons_self ..)
  ·exact h.apart j u (List.mem_cons_of_mem _ hj)
structure Rd1 {β:Type}(R:Imm→β→List Value→Prop)(I:Imm)(k:Nat) where
 val:β
 enc:List Value
 rd:R I val enc
 len:enc.length=k
 one:∀u∈enc,u.oneCell'=true
section
variable {β:Type}{R:Imm→β→List Value→Prop}{I:Imm}{k:Nat}
theorem Xe (hlen:∀x c,R I x c→c.length=k)(h1:∀x c,R I x c→∀u∈c,u.oneCell'=true):∀{xs:List β} {cells:List Value},Recs (R I) k xs cells→∃ps:List (Rd1 R I k),ps.map Rd1.val=xs∧(ps.map Rd1.enc).flatten=cells
 |[],cells,h=>⟨[],rfl,by rw [show cells=[] from h];rfl⟩
 |x::xs,cells,⟨ha,hb,hc⟩=>by
  obtain ⟨ps,e1,e2⟩:=Xe hlen h1 hc;exact ⟨⟨x,cells.take k,hb,hlen _ _ hb,h1 _ _ hb⟩::ps,by rw [List.map_cons,e1],by rw [List.map_cons,List.flatten_cons,e2];exact List.take_append_drop k cells⟩
theorem MG:∀(ps:List (Rd1 R I k)),Recs (R I) k (ps.map Rd1.val) (ps.map Rd1.enc).flatten
 |[]=>rfl
 |p::ps=>by
  have hl:(Rd1.enc p).length=k:=p.len;refine ⟨?_,?_,?_⟩
  ·simp only [List.map_cons,List.flatten_cons];rw [List.take_append_of_le_length (by omega),List.take_of_length_le (by omega)];exact hl
  ·simp only [List.map_cons,List.flatten_cons];rw [List.take_append_of_le_length (by omega),List.take_of_length_le (by omega)];exact p.rd
  ·simp only [List.map_cons,List.flatten_cons];rw [List.drop_append_of_le_length (by omega),List.drop_of_length_le (by omega),List.nil_append];exact MG ps
theorem flat_get {α : Type} {enc : α → List Value} (hk : ∀ x, (enc x).length = k) : ∀ (ps : List α) (t : Nat), t < ps.length * k → ∀ p, ps[t / k]? = some p → (ps.map enc).flatten[t]? = (enc p)[t % k]?
  | [], t, h, p, hp => by simp at h
  | q :: ps, t, h, p, hp => by
    have k0 : 0 < k := by rcases Nat.eq_zero_or_pos k with e | e
                          · subst e; simp at h
                          · exact e
    simp only [List.map_cons, List.flatten_cons]
    by_cases ht : t < k
    · rw [Nat.div_eq_of_lt ht] at hp
      simp only [List.getElem?_cons_zero, Option.some.injEq] at hp
      subst hp
      rw [List.getElem?_append_left (by rw [hk]; exact ht), Nat.mod_eq_of_lt ht]
    · have e : t / k = (t - k) / k + 1 := by
        have h2 := Nat.add_div_right (t - k) k0
        rwa [show t - k + k = t by omega] at h2
      rw [e] at hp
      simp only [List.getElem?_cons_succ] at hp
      rw [List.getElem?_append_right (by rw [hk]; omega), hk, flat_get hk ps (t - k) (by simp only [List.length_cons, Nat.add_mul, Nat.one_mul] at h; omega) p hp]
      congr 1
      have h2 := Nat.add_mod_right (t - k) k
      rw [show t - k + k = t by omega] at h2
      exact h2.symm
theorem Xz {α : Type} [Inhabited α] {enc : α → List Value} (hk : ∀ x, (enc x).length = k) (d : Array α) (t : Nat) (h : t < d.size * k) : (d.toList.map enc).flatten[t]? = some (Sort.flatK enc k d)[t]! := by
  have k0 : 0 < k := by rcases Nat.eq_zero_or_pos k with e | e
                        · subst e; simp at h
                        · exact e
  have hd : t / k < d.size := by rw [Nat.div_lt_iff_lt_mul k0]; exact h
  have hm : t % k < k := Nat.mod_lt _ k0
  rw [Sort.get_flatK enc k d t h, flat_get hk d.toList t (by simpa using h) d[t / k]! (by rw [Array.getElem?_toList, getElem!_pos d _ hd]; exact Array.getElem?_eq_getElem hd)]
  rw [List.getElem?_eq_getElem (by rw [hk]; exact hm), getElem!_pos (enc d[t / k]!) (t % k) (by rw [hk]; exact hm)]
end
theorem KL {P:Program}{ρ:Go.Shelf.Ren}(Lay:Go.Proofs.SlLaysF0.n6 P ρ){k:Nat}(aE:∀w,(isAgg (ρ.t 24)).run P w= .ok true w)(zE:∀w,(Go.sizeOf (ρ.t 24)).run P w= .ok k w)
  {β:Type} {R:Imm→β→List Value→Prop} (hlen:∀I x c,R I x c→c.length=k) (h1:∀I x c,R I x c→∀u∈c,u.oneCell'=true)
  {cf:β→β→Int} (hirr:∀x,¬cf x x < 0) (htr:∀x y z,cf x y < 0→cf y z < 0→cf x z < 0) (hntr:∀x y z,¬cf x y < 0→¬cf y z < 0→¬cf x z < 0)
  {g:Nat} (eg:∀args w,(callFunc g args).run P w= .ok (.enter g args) w) {I:Imm}
  (hC:∀(ω:Om) (I':Imm) (x y:β) (c d:List Value),Ext I I'→R I x c→R I y d→Cal P ω g #[.agg c.toArray,.agg d.toArray] (fun v I2 _=>v= .int .i64 (cf x y)∧Ext I' I2) I' [])
  {ω:Om} {T:Nat} {X F:LH} {v:Value} {xs:List β} {cells:List Value} (hO:SlO T k X v cells xs.length) (hr:Recs (R I) k xs cells) (hsz:xs.length < 4611686018427387904) {K:Value→M}
  (hk:∀X' ys cells',ys.Perm xs→ys.Pairwise (fun a b=>¬cf b a < 0)→SlO T k X' v cells' xs.length→Recs (R I) k ys cells'→K (.tuple #[]) I (X'++F)):
  Cal P ω (ρ.f 6) #[v,.func (.func g) #[] #[]] K I (X++F):=by
 intro w hs;have none:xs.length=0→∀a c,v= .slice a 0 c→Calls P (ρ.f 6) #[v,.func (.func g) #[] #[]] w (Ret ω K):=by
  intro h0 a c hv;rw [hv];refine (Go.Proofs.AnyF.slices_SortFunc_none Lay a _ _ w).mono ?_;rintro e w' ⟨rfl,rfl⟩;exact ⟨_,I,X++F,rfl,hs,hk X xs cells (List.Perm.refl _) (by rw [List.eq_nil_of_length_eq_zero h0];exact List.Pairwise.nil) hO hr⟩
 obtain ⟨hcl,ho⟩:=hO;rcases ho with ⟨rfl,h0,a,rfl⟩|⟨b,cap,cs,rfl,rfl,hcs,hle,hc⟩
 ·exact none h0 a 0 rfl
 by_cases h0:xs.length=0
 ·exact none h0 (some ⟨b,0,Option.none⟩) cap (by rw [h0])
 obtain ⟨ps,rfl,rfl⟩:=Xe (hlen I) (h1 I) hr;obtain ⟨p0,hp0⟩:∃p,p∈ps:=by
  cases ps with
  |nil=>exact absurd rfl h0
  |cons p _=>exact ⟨p,List.mem_cons_self ..⟩
 haveI:Inhabited (Rd1 R I k):=⟨p0⟩
 have hb:w.heap[b]? =some (.cells cs T (0,0)):=hs.own b _ (List.mem_cons_self ..);have hH:Sort.HoldsK Rd1.enc k w b 0 ps.toArray:=by
  intro j hj;rw [Sort.size_flatK] at hj;refine ⟨?_,by simp [World.frozen?,hb]⟩;have h2:=Xz (enc:=Rd1.enc) (fun x:Rd1 R I k=>x.len) ps.toArray j hj;have h3:=hc j _ h2;simp only [World.cell?,hb,Nat.zero_add,Option.isSome_none,Bool.false_eq_true,if_false];exact h3
 have hSWO:Sort.SWO (Go.Proofs.ltOf fun x y:Rd1 R I k=>cf x.val y.val):=
  ⟨fun x=>by simp [ltOf,hirr],fun x y z a b=>by simp only [ltOf,decide_eq_true_eq] at *; exact htr _ _ _ a b,fun x y z a b=>by simp only [ltOf,decide_eq_false_iff_not] at *; exact hntr _ _ _ a b⟩
 have hlay:CmpLays P g #[] Rd1.enc k (fun x y:Rd1 R I k=>cf x.val y.val) b 0 ps.toArray.size w:=
  Vl (I:=I) (fun j o hj=>⟨hs.imm j o hj,fun e=>by subst e;have:=hs.apart j _ (List.mem_cons_self ..);rw [this] at hj;cases hj⟩)
   (fun ω' I' x y hI'=>hC ω' I' x.val y.val x.enc y.enc hI' x.rd y.rd)
 have hcon:=Go.Proofs.AnyQ.slices_SortFunc Lay k aE zE Rd1.enc (fun x:Rd1 R I k=>x.len) (fun x=>x.one) (fun x y=>cf x.val y.val) hSWO g #[] b 0 cap ps.toArray w eg hlay hH (Array.getElem?_eq_some_iff.1 hb).1 (by simpa using hsz);have hl2:(ps.map Rd1.val).length=ps.toArray.size:=by simp
 rw [hl2];refine hcon.mono ?_;rintro e w' ⟨rfl,d',n,os,⟨hp1,_,hp2⟩,hsrt,rfl⟩;have hsz':d'.size=ps.length:=by simpa using hp1
 have hlt:=(Array.getElem?_eq_some_iff.1 hb).1;have hst:St ω (sortWorldK Rd1.enc k w b 0 n d' os) I ((b,.cells (Sort.putCells id 0 (Sort.flatK Rd1.enc k d') cs) T (0,0))::F):=by
  refine St.row (o:=.cells cs T (0,0)) hs (fun j hj hne=>?_) ?_ rfl rfl rfl (Nat.le_add_right _ _)
  ·show ((Sort.mapBlock (Sort.ahead w n) b (Sort.putCells id 0 (Sort.flatK Rd1.enc k d'))).heap++os)[j]? =_;rw [Array.getElem?_append_left (by simp [Sort.mapBlock,Sort.ahead];exact hj)];simp only [Sort.mapBlock,Sort.ahead,Array.getElem?_modify];rw [if_neg (Ne.symm hne)]
  ·show ((Sort.mapBlock (Sort.ahead w n) b (Sort.putCells id 0 (Sort.flatK Rd1.enc k d'))).heap++os)[b]? =_;rw [Array.getElem?_append_left (by simp [Sort.mapBlock,Sort.ahead];exact hlt)];simp only [Sort.mapBlock,Sort.ahead,Array.getElem?_modify,if_true,hb,Option.map_some];rfl
 have hperm:d'.toList.Perm ps:=by
  have e1:(d'.extract 0 ps.toArray.size).toList=d'.toList:=by rw [show ps.toArray.size=d'.size by rw [hsz'];simp];simp
  have e2:(ps.toArray.extract 0 ps.toArray.size).toList=ps:=by simp
  rw [e1,e2] at hp2;exact hp2
 refine ⟨_,I,_,rfl,hst,hk [(b,_)] (d'.toList.map Rd1.val) (d'.toList.map Rd1.enc).flatten (hperm.map _) ?_ ?_ (MG _)⟩
 ·rw [List.pairwise_map,List.pairwise_iff_getElem];intro i j hi hj hij;have hi':i < d'.size:=by simpa using hi
  have hj':j < d'.size:=by simpa using hj
  have:=hsrt i j (Nat.zero_le _) hij (by simp [hsz'] at hj' ⊢;omega);rw [getElem!_pos d' i hi',getElem!_pos d' j hj'] at this;simp only [ltOf,decide_eq_false_iff_not] at this;simpa using this
 ·refine ⟨?_,.inr ⟨b,cap,_,rfl,by rw [hl2],?_,hle,?_⟩⟩
  ·have:=(MG d'.toList).length;rw [this];simp [hsz']
  ·simp [Sort.putCells,hcs]
  ·intro j u hu;have hj:j < d'.size * k:=by
    have h2:=(List.getElem?_eq_some_iff.1 hu).1;have h3:=(MG d'.toList).length;rw [h3] at h2;simpa using h2
   rw [Xz (fun x:Rd1 R I k=>x.len) d' j hj] at hu;have hlt2:j < cs.size:=by
    rw [hcs];have:ps.length * k≤cap * k:=Nat.mul_le_mul_right k (by simpa using hle);rw [hsz'] at hj;omega
   simp only [Sort.putCells,Array.getElem?_mapIdx,Array.getElem?_eq_getElem hlt2,Option.map_some,Nat.zero_le,true_and,Nat.zero_add,Sort.size_flatK,hj,if_true,Nat.sub_zero,id];exact hu
open Go.Proofs
theorem PW {P:Program}{f:FuncId}{α:Type}[Inhabited α]{enc:α→Value}{le:α→α→Bool}
  (htr:∀a b c,le a b=true→le b c=true→le a c=true) (htot:∀a b,(le a b||le b a)=true)
  (none:∀(p:Option Addr) (cap:Nat) (w:World),Calls P f #[.slice p 0 cap] w fun e w'=>e= .returned (.tuple #[])∧w'=w)
  (sort:∀(blk off cap:Nat) (zs:List α) (w:World),Sort.Holds enc w blk off zs.toArray→blk < w.heap.size→zs.length < 4611686018427387904→
   Calls P f #[.slice (some ⟨blk,off,Option.none⟩) zs.length cap] w fun e w'=>e= .returned (.tuple #[])∧∃n os,w'=Sort.grow (Sort.putRow enc (Sort.ahead w n) blk off (zs.mergeSort le).toArray) os)
  {ω:Om} {I:Imm} {T:Nat} {X F:LH} {v:Value} {zs:List α} (hO:SlO T 1 X v (zs.map enc) zs.length) (hsz:zs.length < 4611686018427387904) {K:Value→M}
  (hk:∀(X':LH) (ys:List α),ys.Perm zs→ys.Pairwise (fun a b=>le a b=true)→SlO T 1 X' v (ys.map enc) ys.length→K (.tuple #[]) I (X'++F)):Cal P ω f #[v] K I (X++F):=by
 intro w hs;have nil:zs.length=0→∀a c,v= .slice a 0 c→Calls P f #[v] w (Ret ω K):=by
  intro h0 a c hv;rw [hv];refine (none a _ w).mono ?_;rintro e w' ⟨rfl,rfl⟩;exact ⟨_,I,X++F,rfl,hs,hk X zs (List.Perm.refl _) (by rw [List.eq_nil_of_length_eq_zero h0];exact List.Pairwise.nil) hO⟩
 obtain ⟨hcl,ho⟩:=hO;rcases ho with ⟨rfl,h0,a,rfl⟩|⟨b,cap,cs,rfl,rfl,hcs,hle,hc⟩
 ·exact nil h0 a 0 rfl
 by_cases h0:zs.length=0
 ·exact nil h0 (some ⟨b,0,Option.none⟩) cap (by rw [h0])
 have hb:w.heap[b]? =some (.cells cs T (0,0)):=hs.own b _ (List.mem_cons_self ..);have hlt:=(Array.getElem?_eq_some_iff.1 hb).1;have hH:Sort.Holds enc w b 0 zs.toArray:=by
  intro j hj;have hj':j < zs.length:=by simpa using hj
  refine ⟨?_,by simp [World.frozen?,hb]⟩;have h3:=hc j (enc zs[j]) (by simp [hj']);simp only [World.cell?,hb,Nat.zero_add,Option.isSome_none,Bool.false_eq_true,if_false];rw [h3,getElem!_pos zs.toArray j hj];simp
 refine (sort b 0 cap zs w hH hlt hsz).mono ?_;rintro e w' ⟨rfl,n,os,rfl⟩;have hperm:=List.mergeSort_perm zs le;have hsrt:=List.pairwise_mergeSort htr htot zs;generalize zs.mergeSort le=ys at *;have hyl:ys.length=zs.length:=hperm.length_eq;have hst:St ω (Sort.grow (Sort.putRow enc (Sort.ahead w n) b 0 ys.toArray) os) I ((b,.cells (Sort.putCells enc 0 ys.toArray cs) T (0,0))::F):=by
  refine St.row (o:=.cells cs T (0,0)) hs (fun j hj hne=>?_) ?_ rfl rfl rfl (Nat.le_add_right _ _)
  ·show ((Sort.mapBlock (Sort.ahead w n) b (Sort.putCells enc 0 ys.toArray)).heap++os)[j]? =_;rw [Array.getElem?_append_left (by simp [Sort.mapBlock,Sort.ahead];exact hj)];simp only [Sort.mapBlock,Sort.ahead,Array.getElem?_modify];rw [if_neg (Ne.symm hne)]
  ·show ((Sort.mapBlock (Sort.ahead w n) b (Sort.putCells enc 0 ys.toArray)).heap++os)[b]? =_;rw [Array.getElem?_append_left (by simp [Sort.mapBlock,Sort.ahead];exact hlt)];simp only [Sort.mapBlock,Sort.ahead,Array.getElem?_modify,if_true,hb,Option.map_some];rfl
 refine ⟨_,I,_,rfl,hst,hk [(b,_)] ys hperm hsrt ⟨by simp,.inr ⟨b,cap,_,rfl,by rw [hyl],by simp [Sort.putCells,hcs],by omega,?_⟩⟩⟩;intro j u hu;have hj:j < ys.length:=by have:=(List.getElem?_eq_some_iff.1 hu).1;simpa using this
 have hlt2:j < cs.size:=by rw [hcs];omega
 simp only [Sort.putCells,Array.getElem?_mapIdx,Array.getElem?_eq_getElem hlt2,Option.map_some,Nat.zero_le,true_and,Nat.zero_add,List.size_toArray,hj,if_true,Nat.sub_zero];rw [getElem!_pos ys.toArray j (by simpa using hj)];simpa [hj] using hu
theorem Yg {P:Program}{ρ:Go.Shelf.Ren}(Lay:Go.Proofs.Lays.n189 P ρ){ω:Om}{I:Imm}{T:Nat}{X F:LH}{v:Value}{zs:List Int}(hO:SlO T 1 X v (zs.map (Value.int .i64)) zs.length)(hsz:zs.length < 4611686018427387904){K:Value→M}
  (hk:∀(X':LH) (ys:List Int),ys.Perm zs→ys.Pairwise (fun a b=>a≤b)→SlO T 1 X' v (ys.map (Value.int .i64)) ys.length→K (.tuple #[]) I (X'++F)):Cal P ω (ρ.f 189) #[v] K I (X++F):=
 PW (le:=fun x y:Int=>decide (x≤y)) (fun a b c h1 h2=>by simp at *; omega) (fun a b=>by simp;omega) (fun p cap w=>Go.Proofs.Any.slices_Sort_int_none Lay p cap w) (fun blk off cap zs w h1 h2 h3=>Go.Proofs.Any.slices_Sort_int Lay blk off cap zs w h1 h2 h3) hO hsz
  (fun X' ys h1 h2 h3=>hk X' ys h1 (h2.imp fun h=>by simpa using h) h3)
theorem AEs:∀a b:List UInt8,a < b↔blt a b=true
 |[],[]=>by simp [blt,Op.bytesLess]
 |[],b::bs=>by simp [blt,Op.bytesLess]
 |a::p,[]=>by simp [blt,Op.bytesLess]
 |a::p,b::q=>by
  have ih:=AEs p q;rw [List.cons_lt_cons_iff];show _↔(decide (a < b)||(a==b&&blt p q))=true;simp [ih]
theorem ALJ (a b:List UInt8):a≤b↔blt b a=false:=by
 rw [←List.not_lt,AEs];simp
theorem Yf {P:Program}{ρ:Go.Shelf.Ren}(Lay:Go.Proofs.Lays.n190 P ρ){ω:Om}{I:Imm}{T:Nat}{X F:LH}{v:Value}{zs:List (List UInt8)}(hO:SlO T 1 X v (zs.map CY) zs.length)(hsz:zs.length < 4611686018427387904){K:Value→M}
  (hk:∀(X':LH) (ys:List (List UInt8)),ys.Perm zs→ys.Pairwise (fun a b=>blt b a=false)→SlO T 1 X' v (ys.map CY) ys.length→K (.tuple #[]) I (X'++F)):Cal P ω (ρ.f 190) #[v] K I (X++F):=
 PW (enc:=CY) (le:=fun x y:List UInt8=>decide (x≤y)) (fun a b c h1 h2=>by simp only [decide_eq_true_eq] at *; exact List.le_trans h1 h2) (fun a b=>by simp only [Bool.or_eq_true,decide_eq_true_eq];exact List.le_total a b) (fun p cap w=>Go.Proofs.Any.slices_Sort_string_none Lay p cap w) (fun blk off cap zs w h1 h2 h3=>Go.Proofs.Any.slices_Sort_string Lay blk off cap zs w h1 h2 h3) hO hsz
  (fun X' ys h1 h2 h3=>hk X' ys h1 (h2.imp fun h=>by simpa [ALJ] using h) h3)
end Go.SL
namespace Go.Proofs
open Go.Shelf
def Tryz.lay163_ren:Go.Shelf.Ren:=⟨fun|5=>163|7=>225|n=>n,fun|23=>161|25=>3|3=>209|4=>4|20=>20|n=>n,fun|n=>n⟩
theorem Tryz.lay163:Go.Proofs.SlLaysW.n5 Tryz.prog Tryz.lay163_ren:={
 mixed:=by kernel_rfl
 f5:=⟨Tryz.f163.name,by decide,Tryz.func163.trans (congrArg some (by kernel_rfl))⟩
 f7:=Tryz.func225.trans (congrArg some (by kernel_rfl))
 t4:=Tryz.underlying4
 a4:=Tryz.isAgg4
 z4:=Tryz.sizeOf4
 v4:=Tryz.zeroValue4
 t20:=Tryz.underlying20
 a20:=Tryz.isAgg20
 z20:=Tryz.sizeOf20
 v20:=Tryz.zeroValue20
 t23:=Tryz.underlying161
 a23:=Tryz.isAgg161
 z23:=Tryz.sizeOf161
 v23:=Tryz.zeroValue161}
def Tryz.lay180_ren:Go.Shelf.Ren:=⟨fun|190=>180|125=>138|258=>231|128=>202|129=>203|302=>248|303=>249|304=>250|305=>251|306=>252|307=>253|308=>210|309=>254|310=>255|333=>270|329=>238|330=>239|334=>271|335=>272|336=>244|344=>279|n=>n,fun|31=>177|9=>9|3=>3|46=>219|0=>0|51=>275|53=>196|4=>4|183=>269|182=>268|131=>221|5=>5|218=>310|222=>314|228=>332|229=>333|n=>n,fun|n=>n⟩
theorem Tryz.lay180:Go.Proofs.Lays.n190 Tryz.prog Tryz.lay180_ren:={
 mixed:=by kernel_rfl
 f125:=Tryz.func138.trans (congrArg some (by kernel_rfl))
 f128:=Tryz.func202.trans (congrArg some (by kernel_rfl))
 f129:=Tryz.func203.trans (congrArg some (by kernel_rfl))
 f190:=Tryz.func180.trans (congrArg some (by kernel_rfl))
 f258:=Tryz.func231.trans (congrArg some (by kernel_rfl))
 f302:=Tryz.func248.trans (congrArg some (by kernel_rfl))
 f303:=Tryz.func249.trans (congrArg some (by kernel_rfl))
 f304:=Tryz.func250.trans (congrArg some (by kernel_rfl))
 f305:=Tryz.func251.trans (congrArg some (by kernel_rfl))
 f306:=Tryz.func252.trans (congrArg some (by kernel_rfl))
 f307:=Tryz.func253.trans (congrArg some (by kernel_rfl))
 f308:=Tryz.func210.trans (congrArg some (by kernel_rfl))
 f309:=Tryz.func254.trans (congrArg some (by kernel_rfl))
 f310:=Tryz.func255.trans (congrArg some (by kernel_rfl))
 f329:=Tryz.func238.trans (congrArg some (by kernel_rfl))
 f330:=Tryz.func239.trans (congrArg some (by kernel_rfl))
 f333:=Tryz.func270.trans (congrArg some (by kernel_rfl))
 f334:=Tryz.func271.trans (congrArg some (by kernel_rfl))
 f335:=Tryz.func272.trans (congrArg some (by kernel_rfl))
 f336:=Tryz.func244.trans (congrArg some (by kernel_rfl))
 f344:=Tryz.func279.trans (congrArg some (by kernel_rfl))
 t0:=Tryz.underlying0
 a0:=Tryz.isAgg0
 z0:=Tryz.sizeOf0
 v0:=Tryz.zeroValue0
 t3:=Tryz.underlying3
 a3:=Tryz.isAgg3
 z3:=Tryz.sizeOf3
 v3:=Tryz.zeroValue3
 t4:=Tryz.underlying4
 a4:=Tryz.isAgg4
 z4:=Tryz.sizeOf4
 v4:=Tryz.zeroValue4
 t5:=Tryz.underlying5
 a5:=Tryz.isAgg5
 z5:=Tryz.sizeOf5
 v5:=Tryz.zeroValue5
 t9:=Tryz.underlying9
 a9:=Tryz.isAgg9
 z9:=Tryz.sizeOf9
 v9:=Tryz.zeroValue9
 t31:=Tryz.underlying177
 a31:=Tryz.isAgg177
 z31:=Tryz.sizeOf177
 v31:=Tryz.zeroValue177
 t46:=Tryz.underlying219
 a46:=Tryz.isAgg219
 z46:=Tryz.sizeOf219
 v46:=Tryz.zeroValue219
 t51:=Tryz.underlying275
 a51:=Tryz.isAgg275
 z51:=Tryz.sizeOf275
 v51:=Tryz.zeroValue275
 t53:=Tryz.underlying196
 a53:=Tryz.isAgg196
 z53:=Tryz.sizeOf196
 v53:=Tryz.zeroValue196
 t131:=Tryz.underlying221
 a131:=Tryz.isAgg221
 z131:=Tryz.sizeOf221
 v131:=Tryz.zeroValue221
 t182:=Tryz.underlying268
 a182:=Tryz.isAgg268
 z182:=Tryz.sizeOf268
 v182:=Tryz.zeroValue268
 t183:=Tryz.underlying269
 a183:=Tryz.isAgg269
 z183:=Tryz.sizeOf269
 v183:=Tryz.zeroValue269
 t218:=Tryz.underlying310
 a218:=Tryz.isAgg310
 z218:=Tryz.sizeOf310
 v218:=Tryz.zeroValue310
 t222:=Tryz.underlying314
 a222:=Tryz.isAgg314
 z222:=Tryz.sizeOf314
 v222:=Tryz.zeroValue314
 t228:=Tryz.underlying332
 a228:=Tryz.isAgg332
 z228:=Tryz.sizeOf332
 v228:=Tryz.zeroValue332
 t229:=Tryz.underlying333
 a229:=Tryz.isAgg333
 z229:=Tryz.sizeOf333
 v229:=Tryz.zeroValue333}
end Go.Proofs
namespace Go.Proofs.YtmmfcgbfbcamcaaGreatDoor
open Go.SL
theorem AJe:YM:=fun ω I K T X F v zs hO hl hk=>Yf Go.Proofs.Tryz.lay180 hO (by omega) hk
theorem OT {ω:Om}{I:Imm}{L:LH}{K:Value→M}{b clock:Nat}{es:Array MapEntry}(hin:(b,Obj.map es clock)∈L)
  (hk:∀b',K (.map (some b')) I ((b',.map es clock)::L)):CT ω 163 #[.map (some b)] K I L:=Zy Go.Proofs.Tryz.lay163 hin hk
section
variable {ω:Om}{I:Imm}{L:LH}{K:Value→M}
theorem NoteR.head {b m ch:Nat}{kv:Value}{fl:TStamp}{X:LH}{nt:Nts}(h:NoteR I b m ch kv fl X nt):Cells I X b 0 [.map (some m),kv,.int .i64 fl.fWall,.int .i64 fl.fLogic]:=by
 obtain ⟨NX,hp,_⟩:=h;exact Dj (l:=[.map (some m),kv,.int .i64 fl.fWall,.int .i64 fl.fLogic,.map (some ch)]) (T:=179) (fr:=(0,0)) (hp.mem_iff.2 (List.mem_cons_self ..)) 4
theorem RU {b m ch:Nat}{kv:Value}{fl:TStamp}{X F:LH}{nt:Nts}{k:List UInt8}{v:TVer}(hN:NoteR I b m ch kv fl X nt)(hr:AU v.fAt=true)(hl:k.length≤1000000000)(hvl:v.fValue.length≤1000000000)
  (hk:∀X' I',Ext I I'→NoteR I' b m ch kv fl X' (CO nt (Ag k v) (false,Af v))→K (.tuple #[]) I' (X'++F)):
  CT ω 189 #[pt b,BR k,vv v] K I (X++F):=by
 refine AFe ?_;unfold Ws;refine AV (fun q=>?_);refine AZ ?_;refine Ai rfl ?_;refine Bz (KF hr hl (fun X1 u I1 hI1 hX=>?_));refine OB.freeze hX (fun I2 hI2 hB=>Gh.done ?_);refine LO (hI1.trans hI2) (fun x hx=>hx) ?_;refine Ai rfl ?_;refine Bz (IF hvl (fun X3 u3 hX3=>?_));refine OB.freeze hX3 (fun I3 hI3 hB3=>Gh.done ?_);refine call (Cal.to (X++F) ?_);refine QC (hN.mono (hI1.trans (hI2.trans hI3))) (hB.mono hI3) hB3 (fun X' h'=>?_);exact Gh.done (hk X' I3 (hI1.trans (hI2.trans hI3)) h')
theorem Nl {b m ch:Nat}{kv:Value}{fl:TStamp}{X F:LH}{nt:Nts}(hN:NoteR I b m ch kv fl X nt)(hr:AU fl=true)
  (hk:∀X' I',Ext I I'→NoteR I' b m ch kv fl X' (CO nt [102] (false,stF fl))→K (.tuple #[]) I' (X'++F)):
  CT ω 131 #[pt b] K I (X++F):=by
 have hh:=hN.head;refine AFi ?_;unfold XJ;try simp only [SSd,Nat.reduceAdd]
 refine rdN (vs:=[.int .i64 fl.fWall,.int .i64 fl.fLogic]) rfl (fun j u hu=>?_) ?_
 ·match j,hu with
  |0,hu=>exact (hh 2 u (by simpa using hu)).mono (Ext.refl _) (fun x hx=>List.mem_append_left _ hx)
  |1,hu=>exact (hh 3 u (by simpa using hu)).mono (Ext.refl _) (fun x hx=>List.mem_append_left _ hx)
 refine Bz (EK (x:=fl) hr (fun X1 u hX=>?_));refine OB.freeze hX (fun I2 hI2 hB=>Gh.done ?_);try simp only [SSd,Nat.reduceAdd]
 refine by1 (c:=102) (fun X1 u1 h1=>OB.freeze h1 (fun I3 hI3 hB3=>Gh.done ?_));refine call (QC (hN.mono (hI2.trans hI3)) hB3 (hB.mono hI3) (fun X' h'=>?_));exact Gh.done (hk X' I3 (hI2.trans hI3) h')
theorem TE {b m ch p clock:Nat}{kv:Value}{es:Array MapEntry}{mm:Key→Option Value}{fl:TStamp}{X F:LH}{nt:Nts}{k:List UInt8}{r:Row}(hN:NoteR I b m ch kv fl X nt)(hA:MapAt I F m es clock)(hM:MapS es clock mm)(hpk:mm k=some (pt p))(hCV:CellV I F p r)
  (ht:0≤r.it.txn∧r.it.txn < 9223372036854775808) (hri:r.it.txn≠0→AU r.it.ver.fAt=true) (hl:k.length≤1000000000) (hvl:r.it.ver.fValue.length≤1000000000)
  (hk:∀X' I',Ext I I'→NoteR I' b m ch kv fl X' (CO nt (105::k) (BP r.it))→K (.tuple #[]) I' (X'++F)):
  CT ω 190 #[pt b,BR k] K I (X++F):=by
 have hh:=hN.head;obtain ⟨sl,hC,hVs⟩:=hCV.mono (Ext.refl I) (show ∀x∈F,x∈X++F from fun x hx=>List.mem_append_right _ hx);obtain ⟨c0,c1,c14,c3,c4,c5,_⟩:=itC hC;refine AFd ?_;unfold Wq;refine by1 (c:=105) (fun X1 u1 h1=>Gh.done ?_);refine GT (y:=k) h1 (.inr (.inr ⟨_,rfl,rfl,by simp [ByteArray.size],by simp [u8s]⟩)) (by simp;omega) (fun X2 u2 h2=>?_);refine OB.freeze h2 (fun I2 hI2 hB2=>Gh.done ?_);try simp only [SSd,Nat.reduceAdd]
 refine rdC (L0:=X++F) ((hh 0 _ rfl).mono (Ext.refl _) (fun x hx=>List.mem_append_left _ hx)) hI2 ?_;refine ⟨_,GV (MapAt.mono hA hI2 (fun x hx=>by simp [hx])) hM,?_⟩;simp only [hpk,lkV];simp only [Bool.false_eq_true,if_false,SSd,Nat.reduceAdd];refine rdC c5 hI2 ?_;try simp only [SSd,Nat.reduceAdd]
 refine AC (fun e=>?_) (fun e=>?_)
 ·simp at e;refine call (Cal.to (X++F) ?_);refine QC (hN.mono hI2) hB2 (show Bytes I2 _ [] from SlI.nil I2 1 none 0) (fun X' h'=>?_);refine Gh.done (hk X' I2 hI2 ?_);unfold BP;rw [if_pos e];exact h'
 ·simp at e;refine Jl c1 hI2 rfl ?_;have hs9:(stF r.it.ver.fAt).length=9:=rfl;have hv9:=KH (n:=r.it.txn.toNat) (by omega);refine Bz (EK (hri e) (fun X3 u3 h3=>Gh.done ?_));try simp only [SSd,Nat.reduceAdd]
  refine rdC c5 hI2 ?_;try simp only [SSd,Nat.reduceAdd]
  rw [wrap_u64 _ ht.1 (by omega),show r.it.txn=((r.it.txn.toNat:Nat):Int) by omega];refine call (Hn (by omega) (fun u4 I4 hI4 hB4=>?_));refine GT (y:=Bc r.it.txn.toNat) h3 (SlI.news hB4) (by omega) (fun X5 u5 h5=>Gh.done ?_);refine Jl c14 (hI2.trans hI4) rfl ?_;refine call (IF hvl (fun X6 u6 h6=>?_));have hvt:(Af r.it.ver).length≤1000000001:=by unfold Af;split <;> simp;omega
  refine GT (X6:=X5) (y:=Af r.it.ver) h5 (h6.news (fun x hx=>by simp [hx])) (by rw [List.length_append];omega) (fun X7 u7 h7=>?_);refine OB.freeze h7 (fun I7 hI7 hB7=>Gh.done ?_);refine call (Cal.to (X++F) ?_);refine QC (hN.mono (hI2.trans (hI4.trans hI7))) (hB2.mono (hI4.trans hI7)) hB7 (fun X' h'=>?_);refine Gh.done (hk X' I7 (hI2.trans (hI4.trans hI7)) ?_);unfold BP;rw [if_neg e];exact h'
theorem Ya {g:Bool}{k:List UInt8}{l:List TVer}{i:Nat}(hi:i < l.length)(nt:Nts):verN g k (l.take (i+1)) nt=CO (verN g k (l.take i) nt) (Ag k l[i]) (Yb g l[i]):=by
 unfold verN;rw [take_snoc hi,List.foldl_append];rfl
theorem Nn {b m ch p clock:Nat}{kv:Value}{es:Array MapEntry}{mm:Key→Option Value}{fl:TStamp}{X F:LH}{nt:Nts}{r:Row}{g:Bool}(hN:NoteR I b m ch kv fl X nt)(hA:g=false→MapAt I F m es clock∧MapS es clock mm∧mm r.key=some (pt p))(hCV:CellV I F p r)
  (hr:RowOk r) (hvs:r.vs.length≤1000000000)
  (hk:∀X' I',Ext I I'→NoteR I' b m ch kv fl X' (noteA g r nt)→K (.tuple #[]) I' (X'++F)):
  CT ω 132 #[pt b,BR r.key,pt p,.bool g] K I (X++F):=by
 obtain ⟨sl,hC,hVs⟩:=hCV;obtain ⟨c0,c1,c14,c3,c4,c5,_⟩:=itC hC;have hkl:=hr.keyL;refine AMt ?_;unfold ADO;try simp only [SSd,Nat.reduceAdd]
 refine rdC c0 (Ext.refl _) ?_;simp only [RL.len hVs,SSd,Nat.reduceAdd];refine loop (fun n s I' L'=>∃(i:Nat) (X':LH),n+i=r.vs.length∧s=(.int .i64 i,())∧Ext I I'∧NoteR I' b m ch kv fl X' (verN g r.key (r.vs.take i) nt)∧L'=X'++F) r.vs.length ⟨0,X,rfl,rfl,Ext.refl _,hN,rfl⟩ ?_;rintro n s I' L' ⟨i,X',hn,rfl,hI,hN',rfl⟩;unfold XI;try simp only [SSd,Nat.reduceAdd]
 refine AC (fun e=>?_) (fun e=>?_)
 ·have hi:i < r.vs.length:=by simpa using e
  obtain ⟨bx,off,c,hix,hcl,hc,hcc⟩:=RL.ix hVs (i:=(i:Int)) (by omega) (by omega);have hget:Dh r.vs (i:Int)=r.vs[i]:=Aq hi;rw [hget] at hc;have hce:c=_:=hc;have hv:=hr.vs r.vs[i] (List.getElem_mem hi);have hvlen:r.vs[i].fValue.length≤1000000000:=by have:=hv.len;omega
  have hnext:=Ya (g:=g) (k:=r.key) hi nt;simp only [hix,SSd,Nat.reduceAdd];refine rdN hcl (hcc I' (X'++F) hI (fun x hx=>List.mem_append_right _ hx)) ?_;subst hce;refine AV (fun q=>?_);refine stB rfl rfl (AK rfl) ?_;cases g with
  |true=>
   try simp only [SSd,Nat.reduceAdd]
   refine rdB rfl ?_;refine call (Cal.to (X'++F) (QA (v:=r.vs[i]) hN' hv.right (by omega) (fun X2 I2 hI2 hN2=>?_)));unfold MC;try simp only [SSd,Nat.reduceAdd]
   rw [wrap_i64 _ (by omega)];exact (Gh.done ⟨n - 1,by omega,i+1,X2,by omega,rfl,hI.trans hI2,by rw [hnext];exact hN2,rfl⟩)
  |false=>
   try simp only [SSd,Nat.reduceAdd]
   refine rdB rfl ?_;refine call (Cal.to (X'++F) (RU (v:=r.vs[i]) hN' hv.right (by omega) hvlen (fun X2 I2 hI2 hN2=>?_)));unfold MC;try simp only [SSd,Nat.reduceAdd]
   rw [wrap_i64 _ (by omega)];exact (Gh.done ⟨n - 1,by omega,i+1,X2,by omega,rfl,hI.trans hI2,by rw [hnext];exact hN2,rfl⟩)
 ·have hi:i=r.vs.length:=by
   have:¬i < r.vs.length:=by simpa using e
   omega
  rw [hi,List.take_length] at hN';unfold XH;try simp only [SSd,Nat.reduceAdd]
  refine rdC c5 hI ?_;try simp only [SSd,Nat.reduceAdd]
  refine AC (fun e2=>?_) (fun e2=>?_)
  ·simp at e2;refine Gh.done (hk X' I' hI ?_);unfold noteA;rw [if_pos e2];exact hN'
  ·simp at e2;cases g with
   |true=>
    try simp only [SSd,Nat.reduceAdd]
    refine by1 (c:=105) (fun X1 u1 h1=>Gh.done ?_);refine GT (y:=r.key) h1 (.inr (.inr ⟨_,rfl,rfl,by simp [ByteArray.size],by simp [u8s]⟩)) (by simp;omega) (fun X2 u2 h2=>?_);refine OB.freeze h2 (fun I2 hI2 hB2=>Gh.done ?_);refine call (Cal.to (X'++F) (QC (hN'.mono hI2) hB2 (show Bytes I2 _ [] from SlI.nil I2 1 none 0) (fun X3 h3=>?_)));refine (Gh.done (hk X3 I2 (hI.trans hI2) ?_));unfold noteA;rw [if_neg e2];exact h3
   |false=>
    obtain ⟨hA1,hA2,hA3⟩:=hA rfl;have hit:r.it.txn≠0→AU r.it.ver.fAt=true∧r.it.ver.fValue.length≤10000:=fun h0=>by
     rcases hr.it with h|⟨_,h⟩
     ·rw [h] at h0;exact absurd rfl h0
     ·exact ⟨h.right,h.len⟩
    have hvl:r.it.ver.fValue.length≤1000000000:=by have:=(hit e2).2;omega
    have htx:=hr.txn;try simp only [SSd,Nat.reduceAdd]
    refine call (TE hN' (MapAt.mono hA1 hI (fun x hx=>hx)) hA2 hA3 (CellV.mono ⟨sl,hC,hVs⟩ hI (fun x hx=>hx)) (by omega) (fun h0=>(hit h0).1) (by omega) hvl (fun X2 I2 hI2 hN2=>?_));refine (Gh.done (hk X2 I2 (hI.trans hI2) ?_));unfold noteA;rw [if_neg e2];exact hN2
end
theorem AEt {k:List UInt8}{rows:List Row}{i:Nat}(h1:∀x∈(keysOf rows).take i,blt x k=true)(h2:∀x∈(keysOf rows).drop i,blt x k=false):Re k rows=rows.take i∧CL k rows=rows.drop i:=by
 have g1:∀r∈rows.take i,blt r.key k=true:=fun r hr=>h1 _ (by unfold keysOf;rw [←List.map_take];exact List.mem_map_of_mem hr);have g2:∀r∈rows.drop i,blt r.key k=false:=fun r hr=>h2 _ (by unfold keysOf;rw [←List.map_drop];exact List.mem_map_of_mem hr);unfold Re CL;constructor
 ·conv=>lhs;rw [←List.take_append_drop i rows]
  rw [List.filter_append,List.filter_eq_self.2 g1,List.filter_eq_nil_iff.2 (fun r hr=>by simp [g2 r hr]),List.append_nil]
 ·conv=>lhs;rw [←List.take_append_drop i rows]
  rw [List.filter_append,List.filter_eq_nil_iff.2 (fun r hr=>by simp [g1 r hr]),List.filter_eq_self.2 (fun r hr=>by simp [g2 r hr]),List.nil_append]
theorem RowsR.nil {X:LH}{ps:List Nat}(h:RowsR X ps []):X=[]∧ps=[]:=by
 cases ps with
 |nil=>exact ⟨h,rfl⟩
 |cons p ps=>exact absurd h (by simp [RowsR])
theorem QV {L Y:LH}{p:Nat}{sl:Value}{r:Row}(hp:(p,Am sl r.it)∈L)(hv:VsO Y sl r.vs)(hY:∀x∈Y,x∈L){I:Imm}:CellV I L p r:=⟨sl,Dj hp 6,hv.rl hY⟩
section
variable {ω:Om}{I:Imm}{L:LH}{K:Value→M}
theorem NG {b:Nat}{v1:Value}{k:List UInt8}{X F:LH}{sp:Sp}{nt:Nts}(hS:SpR I b X sp nt)(hok:SpOk sp)(hlen:sp.rows.length≤100000000)(hvs:∀r∈sp.rows,r.vs.length≤1000000000)(hB:Bytes I v1 k)
  (hno:Ap k=false→K (.tuple #[.pointer none,.int .i64 1]) I (X++F))
  (hk:∀I' bt X' Xt,Ap k=true→Ext I I'→SpR I' b X' (Is k sp) (noteAs true (CL k sp.rows) nt)→SpR I' bt Xt (Ha k sp) (noteAs false (CL k sp.rows) (BC sp.floor))→K (.tuple #[pt bt,.int .i64 0]) I' (X'++(Xt++F))):
  CT ω 88 #[pt b,v1] K I (X++F):=by
 obtain ⟨rows,fl⟩:=sp;refine ANw ?_;unfold AKS;refine call (Cb hB ?_);try simp only [SSd,Nat.reduceAdd]
 cases hko:Ap k with
 |false=>
  simp only [Bool.not_false,SSd,Nat.reduceAdd];exact Gh.done (hno hko)
 |true=>
 simp only [Bool.not_true,SSd,Nat.reduceAdd];refine Bz (Nr (fun bt X0 hS0=>?_));obtain ⟨ps,m,ch,kv,es,clock,KX,RX,NX,hp,hF⟩:=hS;obtain ⟨ps0,mt,cht,kvt,est,clockt,KX0,RX0,NX0,hp0,hF0⟩:=hS0;obtain ⟨rfl,rfl⟩:=RowsR.nil hF0.rows;have hmap0:MapS est clockt (Az [] []):=hF0.map;have hfl0:sp0.floor=z0:=rfl;rw [hfl0] at hp0;simp only at hp hlen hvs ⊢
 refine Gh.perm (L':=(b,spO m kv fl ch)::(bt,spO mt kvt z0 cht)::((m,.map es clock)::(mt,.map est clockt)::(NX++(NX0++(KX++(KX0++(RX++F))))))) (AP (by simp only [AN,AM,BA hp,BA hp0];((try simp only [AM,AN,AY,AQ]);(try ac_rfl)))) (Gh.done ?_);try simp only [SSd,Nat.reduceAdd]
 refine rdP [.int .i64 fl.fWall,.int .i64 fl.fLogic] rfl rfl ?_;refine stP [.map (some mt),kvt,.int .i64 fl.fWall,.int .i64 fl.fLogic,.map (some cht)] rfl rfl rfl rfl ?_;refine rdP [.int .i64 fl.fWall,.int .i64 fl.fLogic] rfl rfl ?_;have hs:=hok.rise;have hkl:(keysOf rows).length=rows.length:=by simp [keysOf]
 have main:∀I1 NX1 cht1,Ext I I1→NtR I1 cht1 NX1 (BC fl)→
   Qg ω (pt b) v1 (.pointer none) (.int .i64 0) (pt bt) (fun v=>Gh (K v)) I1 ((b,spO m kv fl ch)::(bt,spO mt kvt fl cht1)::((m,.map es clock)::(mt,.map est clockt)::(NX++(NX1++(KX++(KX0++(RX++F))))))):=by
  intro I1 NX1 cht1 hI1 hN1;unfold Qg;refine AZ ?_;try simp only [SSd,Nat.reduceAdd]
  refine Ah ?_;refine Ek hB hI1 ?_;refine call (Fa (StrO.rl hF.keys (fun x hx=>by simp [hx])) (by simp only;omega) hs (fun i hi hlo hhi=>?_));obtain ⟨eA,eD⟩:=AEt hlo hhi;simp only [hkl] at hi;try simp only [SSd,Nat.reduceAdd]
  refine rdb ?_;obtain ⟨va,hsl,hV1⟩:=RL.part (StrO.rl (I:=I1) (L:=(b,spO m kv fl ch)::(bt,spO mt kvt fl cht1)::((m,.map es clock)::(mt,.map est clockt)::(NX++(NX1++(KX++(KX0++(RX++F))))))) hF.keys (fun x hx=>by simp [hx])) (lo:=i) (hi:=(keysOf rows).length) (by omega) (Nat.le_refl _) (some (.int .i64 i)) none (BD _ _ _ _ (by omega)) (fun _ _=>rfl);have eR:((keysOf rows).drop i).take ((keysOf rows).length - i)=keysOf (CL k rows):=by
   rw [eD,List.take_of_length_le (by simp)];unfold keysOf;rw [List.map_drop]
  rw [eR] at hV1;have hDl:(keysOf (CL k rows)).length≤100000000:=by rw [eD];simp [keysOf];omega
  have hAl:(keysOf (Re k rows)).length≤100000000:=by rw [eA];simp [keysOf];omega
  simp only [hsl,SSd,Nat.reduceAdd];refine Bz (JJ hV1 (by omega) (fun XR kvR hKR=>?_));obtain ⟨aR,cR,rfl⟩:=hKR.form;refine Gh.perm (L':=(b,spO m kv fl ch)::(bt,spO mt kvt fl cht1)::((m,.map es clock)::(mt,.map est clockt)::(NX++(NX1++(KX++(KX0++(RX++(XR++F)))))))) (AP (by ((try simp only [AM,AN,AY,AQ]);(try ac_rfl)))) (Gh.done ?_);try simp only [SSd,Nat.reduceAdd]
  refine st1 rfl ?_;refine rdb ?_;obtain ⟨va2,hsl2,hV2⟩:=RL.part (StrO.rl (I:=I1) (L:=(b,spO m kv fl ch)::(bt,spO mt (.slice aR (keysOf (CL k rows)).length cR) fl cht1)::((m,.map es clock)::(mt,.map est clockt)::(NX++(NX1++(KX++(KX0++(RX++(XR++F)))))))) hF.keys (fun x hx=>by simp [hx])) (lo:=0) (hi:=i) (by omega) (by simp only [hkl];exact hi) none (some (.int .i64 i)) rfl (fun cap hcap=>BD _ _ _ _ (by simp only [hkl] at hcap;omega));have eL:((keysOf rows).drop 0).take (i - 0)=keysOf (Re k rows):=by
   rw [eA];simp [keysOf,List.map_take]
  rw [eL] at hV2;simp only [hsl2,SSd,Nat.reduceAdd];refine Bz (JJ hV2 (by omega) (fun XL kvL hKL=>?_));obtain ⟨aL,cL,rfl⟩:=hKL.form;refine Gh.perm (L':=(m,.map es clock)::(mt,.map est clockt)::(b,spO m kv fl ch)::(NX++((bt,spO mt (.slice aR (keysOf (CL k rows)).length cR) fl cht1)::(NX1++(XL++(XR++(RX++([]++(KX++(KX0++F)))))))))) (AP (by ((try simp only [AM,AN,AY,AQ]);(try ac_rfl)))) (Gh.done ?_);try simp only [SSd,Nat.reduceAdd]
  refine st1 rfl ?_;refine rdb ?_;try simp only [SSd,Nat.reduceAdd]
  have hrows:rows=Re k rows++CL k rows:=Nx hs;generalize eA2:Re k rows=A at *;generalize eD2:CL k rows=D at *;clear hsl hsl2 hV1 hV2 hlo hhi eR eL va va2 eA eD;subst hrows;obtain ⟨P,Q,rfl,hPl,hQl⟩:=PV hF.rows.len;have hkD:(keysOf D).length=D.length:=by simp [keysOf]
  have hDl2:D.length≤100000000:=by omega
  refine loop (fun n s I' L'=>∃(j:Nat) (Xs Xt RXs RXt:LH) (es' est':Array MapEntry) (clock' clockt' ch' cht':Nat),n+j=D.length∧s=(.int .i64 j,())∧Ext I I'∧NoteR I' b m ch' (.slice aL (keysOf A).length cL) fl Xs (noteAs true (D.take j) nt)∧NoteR I' bt mt cht' (.slice aR (keysOf D).length cR) fl Xt (noteAs false (D.take j) (BC fl))∧
   MapS es' clock' (Az (P++Q.drop j) (A++D.drop j))∧MapS est' clockt' (Az (Q.take j) (D.take j))∧RowsR RXs (P++Q.drop j) (A++D.drop j)∧RowsR RXt (Q.take j) (D.take j)∧L'=(m,.map es' clock')::(mt,.map est' clockt')::(Xs++(Xt++(XL++(XR++(RXs++(RXt++(KX++(KX0++F))))))))) D.length
   ⟨0,(b,spO m (.slice aL (keysOf A).length cL) fl ch)::NX,(bt,spO mt (.slice aR (keysOf D).length cR) fl cht1)::NX1,RX,[],es,est,clock,clockt,ch,cht1,rfl,rfl,hI1,⟨NX,List.Perm.refl _,hF.nts.mono hI1⟩,⟨NX1,List.Perm.refl _,hN1⟩,hF.map,hmap0,hF.rows,rfl,rfl⟩ ?_
  rintro n s I' L' ⟨j,Xs,Xt,RXs,RXt,es',est',clock',clockt',ch',cht',hn,rfl,hI,hNs,hNt,hMs,hMt,hRs,hRt,rfl⟩;unfold AAb;try simp only [SSd,Nat.reduceAdd]
  refine AC (fun e=>?_) (fun e=>?_)
  ·have hj:j < D.length:=by simp only [hkD] at e;simpa using e
   have hjQ:j < Q.length:=by omega
   have eD:D.drop j=D[j]::D.drop (j+1):=List.drop_eq_getElem_cons hj;have eQ:Q.drop j=Q[j]::Q.drop (j+1):=List.drop_eq_getElem_cons hjQ;obtain ⟨bx,off,c,hix,hcl,hc,hcc⟩:=RL.ix (StrO.rl (I:=I') (L:=(m,.map es' clock')::(mt,.map est' clockt')::(Xs++(Xt++(XL++(XR++(RXs++(RXt++(KX++(KX0++F))))))))) hKR (fun x hx=>by simp [hx])) (i:=(j:Int)) (by omega) (by omega);have hce:c=[BR D[j].key]:=by
    have h1:c=[BR (Dh (keysOf D) (j:Int))]:=by simpa [StrV] using hc
    rw [h1,Aq (by omega)];simp [keysOf]
   subst hce;have hmid:Mid (A++D.take j) D[j].key (D.drop (j+1)):=by
    refine SrtK.mid ?_;have e2:(A++D.take j)++D[j]::D.drop (j+1)=A++D:=by rw [List.append_assoc,←Jd hj]
    rw [e2];exact hs
   have hrm:D[j]∈A++D:=List.mem_append_right _ (List.getElem_mem hj);have hrok:=hok.rows _ hrm;have hrvs:=hvs _ hrm;have hl1:(Q.take j).length=(D.take j).length:=by simp;omega
   have eD1:D.take (j+1)=D.take j++[D[j]]:=take_snoc hj;have eQ1:Q.take (j+1)=Q.take j++[Q[j]]:=take_snoc hjQ;rw [eD,eQ] at hMs hRs;generalize er:D[j]=r at *;generalize eD2':D.drop (j+1)=D2 at *;generalize ep:Q[j]=p at *;generalize eQ2':Q.drop (j+1)=Q2 at *;generalize eD1':D.take j=D1 at *;generalize eQ1':Q.take j=Q1 at *;have hmA:Mid A r.key D2:=⟨fun x hx=>hmid.lt x (List.mem_append_left _ hx),hmid.gt⟩;have hm1:Mid D1 r.key []:=⟨fun x hx=>hmid.lt x (List.mem_append_right _ hx),fun x hx=>by cases hx⟩;simp only [hix,SSd,Nat.reduceAdd];refine rd1 (hcc I' _ (Ext.refl _) (fun x h=>h) 0 _ rfl) ?_;try simp only [SSd,Nat.reduceAdd]
   refine rdC (L0:=Xs) (hNs.head 0 _ rfl) (Ext.refl _) ?_;refine lkm hMs ?_;simp only [EG hPl hmA rfl,lkV,Bool.false_eq_true,if_false];refine rdC (L0:=Xs) (hNs.head 0 _ rfl) (Ext.refl _) ?_;obtain ⟨es2,he2,hMs2⟩:=hMs.del r.key;rw [←OY hPl hmA rfl] at hMs2;refine ALU hMs he2 (Gh.done ?_);try simp only [SSd,Nat.reduceAdd]
   refine rdC (L0:=Xt) (hNt.head 0 _ rfl) (Ext.refl _) ?_;obtain ⟨est2,ct2,he3,hMt2⟩:=hMt.put r.key (pt p);have eM:Az (Q1++[p]) (D1++[r])=HZ (Az Q1 D1) r.key (some (pt p)):=by
    have:=GL (P:=Q1) (Q:=[]) (A:=D1) (B:=[]) (p:=p) (r:=r) hl1 hm1 rfl;simpa using this
   rw [←eM] at hMt2;refine AId hMt he3 ?_;obtain ⟨sl,Y,Z,hq,hv,hRs2⟩:=RowsR.pick hPl hRs;refine Gh.perm (L':=Xs++((m,.map es2 clock')::(mt,.map est2 ct2)::(p,Am sl r.it)::(Y++(Z++(Xt++(XL++(XR++(RXt++(KX++(KX0++F)))))))))) (AP (by simp only [AN,AM,BA hq];((try simp only [AM,AN,AY,AQ]);(try ac_rfl)))) (Gh.done ?_);refine Bz (Nn (g:=true) (es:=#[]) (clock:=0) (mm:=fun _=>none) hNs (fun h=>by cases h) (QV (sl:=sl) (Y:=Y) (by simp) hv (fun x hx=>by simp [hx])) hrok hrvs (fun Xs2 I2 hI2 hNs2=>?_));refine Gh.perm (L':=Xt++((m,.map es2 clock')::(mt,.map est2 ct2)::(p,Am sl r.it)::(Y++(Z++(Xs2++(XL++(XR++(RXt++(KX++(KX0++F)))))))))) (AP (by ((try simp only [AM,AN,AY,AQ]);(try ac_rfl)))) (Gh.done ?_);refine Bz (Nn (g:=false) (m:=mt) (hNt.mono hI2) (fun _=>⟨.inl (by simp),hMt2,EG (Q:=[]) (B:=[]) hl1 hm1 rfl⟩) (QV (sl:=sl) (Y:=Y) (by simp) hv (fun x hx=>by simp [hx])) hrok hrvs (fun Xt2 I3 hI3 hNt2=>?_));refine Gh.perm (L':=(m,.map es2 clock')::(mt,.map est2 ct2)::(Xs2++(Xt2++(XL++(XR++(Z++(((p,Am sl r.it)::(Y++RXt))++(KX++(KX0++F))))))))) (AP (by ((try simp only [AM,AN,AY,AQ]);(try ac_rfl)))) (Gh.done ?_);try simp only [SSd,Nat.reduceAdd]
   rw [wrap_i64 _ (by omega)];have hNt2':NoteR I3 bt mt cht' (.slice aR (keysOf D).length cR) fl Xt2 (noteAs false (D1++[r]) (BC fl)):=by
    unfold noteAs at hNt2 ⊢;rw [List.foldl_append];exact hNt2
   have hNs2':NoteR I3 b m ch' (.slice aL (keysOf A).length cL) fl Xs2 (noteAs true (D1++[r]) nt):=by
    have:=hNs2.mono hI3;unfold noteAs at this ⊢;rw [List.foldl_append];exact this
   refine Gh.done ⟨n - 1,by omega,j+1,Xs2,Xt2,Z,(p,Am sl r.it)::(Y++RXt),es2,est2,clock',ct2,ch',cht',by omega,rfl,hI.trans (hI2.trans hI3),?_,?_,?_,?_,?_,?_,rfl⟩
   ·rw [eD1];exact hNs2'
   ·rw [eD1];exact hNt2'
   ·rw [eQ2',eD2'];exact hMs2
   ·rw [eQ1,eD1];exact hMt2
   ·rw [eQ2',eD2'];exact hRs2
   ·rw [eQ1,eD1];exact RowsR.put (Q:=[]) (B:=[]) hl1 (List.Perm.refl _) hv (by simpa using hRt)
  ·have hj:j=D.length:=by
    have:¬j < D.length:=by simp only [hkD] at e;simpa using e
    omega
   rw [hj,List.take_length] at hNs hNt hMt hRt;rw [hj,List.drop_length,List.append_nil] at hMs hRs;have eQ0:Q.drop D.length=[]:=by rw [←hQl];exact List.drop_length
   have eQ1:Q.take D.length=Q:=by rw [←hQl];exact List.take_length
   rw [eQ0,List.append_nil] at hMs hRs;rw [eQ1] at hMt hRt;obtain ⟨NXs,hqs,hNs⟩:=hNs;obtain ⟨NXt,hqt,hNt⟩:=hNt;refine Gh.perm (L':=((b,spO m (.slice aL (keysOf A).length cL) fl ch')::(m,.map es' clock')::(XL++(RXs++NXs)))++(((bt,spO mt (.slice aR (keysOf D).length cR) fl cht')::(mt,.map est' clockt')::(XR++(RXt++NXt)))++(KX++(KX0++F)))) (AP (by simp only [AN,AM,BA hqs,BA hqt];((try simp only [AM,AN,AY,AQ]);(try ac_rfl)))) ?_;refine Gh.to (((b,spO m (.slice aL (keysOf A).length cL) fl ch')::(m,.map es' clock')::(XL++(RXs++NXs)))++(((bt,spO mt (.slice aR (keysOf D).length cR) fl cht')::(mt,.map est' clockt')::(XR++(RXt++NXt)))++F)) ?_;refine Gh.done (hk I' bt _ _ hko hI ?_ ?_)
   ·exact ⟨P,m,ch',_,es',clock',XL,RXs,NXs,List.Perm.refl _,by rw [show (Is k ⟨A++D,fl⟩)=⟨A,fl⟩ from by unfold Is;simp only [eA2]];exact ⟨hMs,hKL,hRs,hNs⟩⟩
   ·exact ⟨Q,mt,cht',_,est',clockt',XR,RXt,NXt,List.Perm.refl _,by rw [show (Ha k ⟨A++D,fl⟩)=⟨D,fl⟩ from by unfold Ha;simp only [eD2]];exact ⟨hMt,hKR,hRt,hNt⟩⟩
 obtain ⟨fw,fg⟩:=fl;simp only [Lq,SSd,Nat.reduceAdd];refine AC (fun e=>?_) (fun e=>?_)
 ·have hne:(⟨fw,fg⟩:TStamp)≠z0:=fun h=>by
   simp only [TStamp.mk.injEq] at h;simp [h.1,h.2] at e
  have hfn:BC ⟨fw,fg⟩=CO nt0 [102] (false,stF ⟨fw,fg⟩):=by unfold BC;rw [if_neg hne]
  refine Bz (Cal.perm (L':=((bt,spO mt kvt ⟨fw,fg⟩ cht)::NX0)++((b,spO m kv ⟨fw,fg⟩ ch)::(m,.map es clock)::(mt,.map est clockt)::(NX++(KX++(KX0++(RX++F)))))) (AP (by ((try simp only [AM,AN,AY,AQ]);(try ac_rfl)))) (Nl (m:=mt) ⟨NX0,List.Perm.refl _,hF0.nts⟩ hok.floor (fun X' I' hI' hN'=>?_)));obtain ⟨NX1,hq1,hNt1⟩:=hN';refine Gh.perm (L':=(b,spO m kv ⟨fw,fg⟩ ch)::(bt,spO mt kvt ⟨fw,fg⟩ cht)::((m,.map es clock)::(mt,.map est clockt)::(NX++(NX1++(KX++(KX0++(RX++F))))))) (AP (by simp only [AN,AM,BA hq1];((try simp only [AM,AN,AY,AQ]);(try ac_rfl)))) (Gh.done ?_);exact main I' NX1 cht hI' (by rw [hfn];exact hNt1)
 ·have he:(⟨fw,fg⟩:TStamp)=z0:=by
   have:fw=0∧fg=0:=by simpa using e
   rw [this.1,this.2]
  have hfn:BC ⟨fw,fg⟩=nt0:=by unfold BC;rw [if_pos he]
  exact main I NX0 cht (Ext.refl _) (by rw [hfn];exact hF0.nts)
end
theorem TO {κ β:Type}[DecidableEq κ]{p:κ→Bool}:∀(l:AL κ β) (k:κ),lkA (l.filter fun q=>p q.1) k=if p k=true then lkA l k else none
 |[],k=>by simp [IQ]
 |q::l,k=>by
  have ih:=TO (p:=p) l k;rw [List.filter_cons];by_cases e:q.1=k
  ·subst e;cases hp:p q.1 with
   |true=>simp only [if_true,Bt]
   |false=>
    simp only [Bool.false_eq_true,if_false];rw [ih,hp];rfl
  ·cases hp:p q.1 with
   |true=>simp only [if_true,Bt,e,if_false,ih]
   |false=>simp only [Bool.false_eq_true,if_false,ih,Bt,e]
section
variable {ω:Om}{I:Imm}{L:LH}{K:Value→M}{b s N:Nat}{V:MV}{m:Mch}{SX F:LH}{c:TCmd}{cc:List Value}
theorem SS (hM:MOk m N)(hN:N≤5000)(hF:MF I V m)(hSp:SpR I s SX m.sp m.nt)(hc:TCmdV I c cc)(hky:Ap c.fKey=true)(hk:PostA K b F I (Ci m c)):
  CT ω 104 #[pt b,.agg cc.toArray] K I (mL b s V m (SX++F)):=by
 have h1:=hM.vers;have h2:=PU (show N≤10000 by omega);have h3:=hM.rows;have hvs:∀r∈m.sp.rows,r.vs.length≤1000000000:=Gt (by omega);obtain ⟨w0,w1,w2,w3,rfl,g0,g1,g2,g3⟩:=hc;have hkl:c.fKey.length≤140737488355328:=by simp only [Ap,Bool.and_eq_true,decide_eq_true_eq] at hky;omega
 have hto:m.span.fTo.length≤140737488355328:=by have:=hM.span;simp only [DW,Bool.and_eq_true,decide_eq_true_eq] at this;omega
 obtain ⟨aK,cK,rfl⟩:=Bytes.form g0;obtain ⟨aT,cT,hT⟩:=Bytes.form hF.f1;refine AMz ?_;unfold sh104;refine AV (fun b1=>AV (fun b2=>?_));repeat' (first|(with_reducible first|refine AZ ?_|refine Aa ?_|refine Ac ?_|refine keepA ?_|refine AV (fun _=>?_))|((with_reducible refine call ?_);refine (Ey (p:=m.span) ⟨_,_,rfl,hF.f0,hF.f1⟩ g0 ?_))|((with_reducible refine call ?_);refine (Ar ?_))|((with_reducible refine call ?_);refine (JF g0 hF.f0 ?_))|((with_reducible refine call ?_);refine (Cal.split SX (NG hSp hM.sp (by omega) hvs g0 (fun h=>by rw [hky] at h;cases h) (fun I1 bt X1 Xt _ hI1 hS1 hSt=>?_))))|((with_reducible refine call ?_);refine (KZ (p:=⟨c.fKey,m.span.fTo⟩) (pc:=[.slice aK c.fKey.length cK,.slice aT m.span.fTo.length cT]) (Ha c.fKey m.sp) (noteAs false (CL c.fKey m.sp.rows) (BC m.sp.floor)) ⟨_,_,rfl,g0.mono hI1,by rw [←hT];exact hF.f1.mono hI1⟩ hkl hto (fun bm Vm I2 hI2 hF2=>?_)))|((with_reducible refine call ?_);refine (OT (es:=V.e3) (clock:=V.c3) (by simp) (fun nb=>?_)))|(with_reducible refine rdb ?_)|((with_reducible first|refine st1 ?_ ?_|refine rdB ?_ ?_);rfl)|(with_reducible refine Ah ?_)|((with_reducible refine Ai ?_ ?_);rfl)|((with_reducible refine stB ?_ ?_ ?_ ?_);rfl;rfl;exact AK rfl)|((with_reducible first|refine rdP _ rfl ?_ ?_|refine As _ rfl ?_ ?_);rfl)|((with_reducible refine stP _ rfl ?_ ?_ ?_ ?_);rfl;rfl;rfl)|(with_reducible first|refine AW (sh104_1.eq_1 ..) ?_|refine AW (sh104_2.eq_1 ..) ?_|refine AW (sh104_4.eq_1 ..) ?_|refine AW (sh104_7.eq_1 ..) ?_|refine AW (sh104_3.eq_1 ..) ?_|refine AW (sh104.eq_1 ..) ?_|refine And.intro ?_ ?_)|(simp only [SSg,Int.reduceBEq,Int.reduceBNe,Int.reduceLT,Int.reduceLE,beq_self_eq_true,bne_self_eq_false])|(with_reducible first|refine AG (fun _=>?_) (fun _=>?_)|refine AC (fun _=>?_) (fun _=>?_))|(simp only [SSd,Nat.reduceAdd,hT]))
 ·have e:Ci m c=BV (BM 141,m):=by unfold Ci BV;rw [if_pos (by first|(simp_all;done)|(simp_all;omega)|omega)]
  rw [e] at hk;exact Gh.to (mL b s V m (SX++F)) (Gh.done (hk.plain (Ext.refl _) ⟨s,V,SX,List.Perm.refl _,hF,hSp⟩ (Ee ..)))
 ·refine Yq (es:=V.e1) (clock:=V.c1) (.inl (by simp)) (fun it=>Gh.done ?_);refine loop (fun n s' I' L'=>I'=I2∧∃(vis:List MapEntry) (e:Array MapEntry) (c':Nat) (lst:AL Key TMk),It V.e1 vis∧n+vis.length=V.e1.toList.length∧MapS e c' (BK mv lst)∧SrtA blt lst∧(∀k,lkA lst k=if k∈vis.map Au∧blt k c.fKey=false then lkA m.marks k else none)∧
   L'=(it,BX V.km V.c1 vis)::(nb,.map V.e3 V.c3)::(bm,ALF Vm.v0 Vm.v1 bt Vm.km m.low Vm.rc nb m.oldest Vm.kv)::(Vm.km,.map e c')::(Vm.rc,.map Vm.e2 Vm.c2)::(Vm.sn,.map Vm.e3 Vm.c3)::(X1++(Xt++(b2,RA)::
    (b1,.cells #[.int .i64 c.fKind,.int .i64 c.fTxn,.int .i64 c.fSeq,.int .i64 c.fAt.fWall,.int .i64 c.fAt.fLogic,.int .i64 c.fTo.fWall,.int .i64 c.fTo.fLogic,.int .i64 c.fBy,.bool c.fYes,.bool c.fDel,.slice aK c.fKey.length cK,w1,w2,w3,.int .i64 c.fMost] 56 (0,0))::
    (b,ALF V.v0 (.slice aT m.span.fTo.length cT) s V.km m.low V.rc V.sn m.oldest V.kv)::(V.km,.map V.e1 V.c1)::(V.rc,.map V.e2 V.c2)::(V.sn,.map V.e3 V.c3)::F))) V.e1.toList.length ⟨rfl,[],Vm.e1,Vm.c1,[],It.none _,rfl,hF2.mks,List.Pairwise.nil,fun k=>by simp [IQ],rfl⟩ ?_
  rintro n s' I' L' ⟨rfl,vis,e,c',lst,hi,hn,hM1,hS1',hlk,rfl⟩;unfold sh104_3;refine AKz hF.mks (.inl (by simp)) hi (fun hp=>Gh.done ?_) (fun x hx hi'=>Gh.done ?_)
  ·try simp only [SSd,Nat.reduceAdd]
   have hfin:lst=m.marks.filter fun q=> !blt q.1 c.fKey:=by
    refine SrtA.ext Lj hS1' (List.Pairwise.sublist List.filter_sublist hM.marks) (fun k=>?_);rw [hlk k,TO (p:=fun k=> !blt k c.fKey)];cases hb:blt k c.fKey with
    |true=>simp
    |false=>
     by_cases hkv:k∈vis.map Au
     ·simp [hkv]
     ·rw [if_neg (fun h=>hkv h.1)];cases hq:lkA m.marks k with
      |none=>simp
      |some y=>
       obtain ⟨e0,he0,hke,_⟩:=IP (v:=mv y) hF.mks (by unfold BK;rw [hq];rfl);exact absurd (List.mem_map.2 ⟨e0,hp.mem_iff.2 he0,hke⟩) hkv
   subst hfin;unfold sh104_7;try simp only [SSd,Nat.reduceAdd]
   refine rdb ?_;refine call (Cal.pick V.km (Vi (l:=m.marks) (del:=fun q=> !blt q.1 c.fKey) hF.mks hM.marks (fun q Y K' hq hK'=>?_) (fun es' hM3=>?_)))
   ·refine Tz (by kernel_rfl) ?_;refine show Cal _ _ _ #[CY q.1,mv q.2,pt b1] _ _ _ from AMU ?_
    simp only [CY];unfold sh165;repeat' (first|(with_reducible first|refine AZ ?_|refine Aa ?_|refine Ac ?_|refine keepA ?_|refine AV (fun _=>?_)|refine Gq (g0.mono (hI1.trans hI2)) (Ext.refl _) ?_|refine rdb ?_)|((with_reducible first|refine st1 ?_ ?_|refine rdB ?_ ?_);rfl)|(with_reducible refine Ah ?_)|((with_reducible refine Ai ?_ ?_);rfl)|((with_reducible refine stB ?_ ?_ ?_ ?_);rfl;rfl;exact AK rfl)|((with_reducible first|refine rdP _ rfl ?_ ?_|refine As _ rfl ?_ ?_);rfl)|((with_reducible refine stP _ rfl ?_ ?_ ?_ ?_);rfl;rfl;rfl)|(with_reducible first|refine AW (sh165.eq_1 ..) ?_|refine And.intro ?_ ?_)|(simp only [SSg,Int.reduceBEq,Int.reduceBNe,Int.reduceLT,Int.reduceLE,beq_self_eq_true,bne_self_eq_false])|(with_reducible first|refine AG (fun _=>?_) (fun _=>?_)|refine AC (fun _=>?_) (fun _=>?_))|(simp only [SSd,Nat.reduceAdd]))
    exact Gh.to (Y++_) (Gh.done hK')
   ·have hM3':MapS es' V.c1 (BK mv (m.marks.filter fun q=>blt q.1 c.fKey)):=by simpa only [Bool.not_not] using hM3
    try simp only [SSd,Nat.reduceAdd]
    refine rdb ?_;refine call (FG (g0.mono (hI1.trans hI2)) hkl (fun a9 c9 I9 hI9 hB9=>?_));have t9:=hI1.trans (hI2.trans hI9);try simp only [SSd,Nat.reduceAdd]
    refine st1 rfl ?_;try simp only [SSd,Nat.reduceAdd]
    refine stB rfl rfl (AK rfl) ?_;refine rdB rfl ?_;have e9:Ci m c=(okR,{m with span:=⟨m.span.fFrom,c.fKey⟩,sp:=Is c.fKey m.sp,nt:=noteAs true (CL c.fKey m.sp.rows) m.nt,marks:=m.marks.filter fun q=>blt q.1 c.fKey},
      some ⟨⟨c.fKey,m.span.fTo⟩,Ha c.fKey m.sp,noteAs false (CL c.fKey m.sp.rows) (BC m.sp.floor),m.marks.filter fun q=> !blt q.1 c.fKey,m.low,[],m.seen,m.oldest,[]⟩):=by
     unfold Ci;rw [if_neg (by rintro (h|h) <;> simp_all)]
    rw [e9] at hk;have hFa:MF I9 {V with v1:=.slice a9 c.fKey.length c9,e1:=es'} {m with span:=⟨m.span.fFrom,c.fKey⟩,sp:=Is c.fKey m.sp,nt:=noteAs true (CL c.fKey m.sp.rows) m.nt,marks:=m.marks.filter fun q=>blt q.1 c.fKey}:=
     {hF.mono t9 with f1:=hB9,mks:=hM3'}
    have hFb:MF I9 {Vm with e1:=e,c1:=c',sn:=nb,e3:=V.e3,c3:=V.c3} ⟨⟨c.fKey,m.span.fTo⟩,Ha c.fKey m.sp,noteAs false (CL c.fKey m.sp.rows) (BC m.sp.floor),m.marks.filter fun q=> !blt q.1 c.fKey,m.low,[],m.seen,m.oldest,[]⟩:=
     ⟨hF2.f0.mono hI9,hF2.f1.mono hI9,hM1,hF2.rcs,hF.sns,hF2.kpt.mono hI9⟩
    have h9:=(hk I9 (mL b s {V with v1:=.slice a9 c.fKey.length c9,e1:=es'} {m with span:=⟨m.span.fFrom,c.fKey⟩,sp:=Is c.fKey m.sp,nt:=noteAs true (CL c.fKey m.sp.rows) m.nt,marks:=m.marks.filter fun q=>blt q.1 c.fKey} X1) _ t9 ⟨s,_,X1,List.Perm.refl _,hFa,hS1.mono (hI2.trans hI9)⟩ (Ee ..)).2 _ bm
     (mL bm bt {Vm with e1:=e,c1:=c',sn:=nb,e3:=V.e3,c3:=V.c3} ⟨⟨c.fKey,m.span.fTo⟩,Ha c.fKey m.sp,noteAs false (CL c.fKey m.sp.rows) (BC m.sp.floor),m.marks.filter fun q=> !blt q.1 c.fKey,m.low,[],m.seen,m.oldest,[]⟩ Xt) rfl ⟨bt,_,Xt,List.Perm.refl _,hFb,hSt.mono (hI2.trans hI9)⟩
    refine Gh.to (mL b s {V with v1:=.slice a9 c.fKey.length c9,e1:=es'} {m with span:=⟨m.span.fFrom,c.fKey⟩,sp:=Is c.fKey m.sp,nt:=noteAs true (CL c.fKey m.sp.rows) m.nt,marks:=m.marks.filter fun q=>blt q.1 c.fKey} (X1++mL bm bt {Vm with e1:=e,c1:=c',sn:=nb,e3:=V.e3,c3:=V.c3} ⟨⟨c.fKey,m.span.fTo⟩,Ha c.fKey m.sp,noteAs false (CL c.fKey m.sp.rows) (BC m.sp.floor),m.marks.filter fun q=> !blt q.1 c.fKey,m.low,[],m.seen,m.oldest,[]⟩ (Xt++F))) (Gh.done h9)
  ·have hek:=TM hF.mks hx;obtain ⟨y,hy,hev⟩:∃y,lkA m.marks (Au x)=some y∧x.val=mv y:=by
    have:=GE hF.mks hx;unfold BK at this;cases hq:lkA m.marks (Au x) with
    |none=>rw [hq] at this;cases this
    |some y=>rw [hq] at this;exact ⟨y,rfl,(Option.some.inj this).symm⟩
   try simp only [SSd,Nat.reduceAdd]
   refine ⟨_,AJG hF.mks (.inl (by simp)) hx,?_⟩;rw [hek,hev];simp only [CY];repeat' (first|(with_reducible first|refine AZ ?_|refine Aa ?_|refine Ac ?_|refine keepA ?_|refine AV (fun _=>?_)|refine Gq (g0.mono (hI1.trans hI2)) (Ext.refl _) ?_)|((with_reducible refine TB (x:=y) hM1 rfl (fun e2 c2 hM2=>?_)))|(with_reducible refine rdb ?_)|((with_reducible first|refine st1 ?_ ?_|refine rdB ?_ ?_);rfl)|(with_reducible refine Ah ?_)|((with_reducible refine Ai ?_ ?_);rfl)|((with_reducible refine stB ?_ ?_ ?_ ?_);rfl;rfl;exact AK rfl)|((with_reducible first|refine rdP _ rfl ?_ ?_|refine As _ rfl ?_ ?_);rfl)|((with_reducible refine stP _ rfl ?_ ?_ ?_ ?_);rfl;rfl;rfl)|(with_reducible first|refine AW (sh104_1.eq_1 ..) ?_|refine AW (sh104_2.eq_1 ..) ?_|refine AW (sh104_4.eq_1 ..) ?_|refine AW (sh104_7.eq_1 ..) ?_|refine AW (sh104_3.eq_1 ..) ?_|refine AW (sh104.eq_1 ..) ?_|refine And.intro ?_ ?_)|(simp only [SSg,Int.reduceBEq,Int.reduceBNe,Int.reduceLT,Int.reduceLE,beq_self_eq_true,bne_self_eq_false])|(with_reducible first|refine AG (fun _=>?_) (fun _=>?_)|refine AC (fun _=>?_) (fun _=>?_))|(simp only [SSd,Nat.reduceAdd]))
   all_goals have hlen:vis.length+1≤V.e1.toList.length:=(by have:=EL (BG hi'.nod) hi'.sub;simpa using this)
   ·rename_i _ ec
    have ec':blt (Au x) c.fKey=false:=by simpa using ec
    refine Gh.drop (List.sublist_cons_self _ _) (Gh.done (Gh.done ⟨n - 1,by omega,rfl,vis++[x],e2,c2,Bi blt (Au x) y lst,hi',by rw [List.length_append,List.length_singleton];omega,hM2,hS1'.ins Lj,fun k=>?_,rfl⟩));rw [HH,hlk k,List.map_append,List.map_cons,List.map_nil];by_cases hk1:k=Au x
    ·subst hk1;simp [ec',hy]
    ·rw [if_neg hk1];simp [hk1]
   ·rename_i ec
    have ec':blt (Au x) c.fKey=true:=by simpa using ec
    refine Gh.drop (List.sublist_cons_self _ _) (Gh.done ⟨n - 1,by omega,rfl,vis++[x],e,c',lst,hi',by rw [List.length_append,List.length_singleton];omega,hM1,hS1',fun k=>?_,rfl⟩);rw [hlk k,List.map_append,List.map_cons,List.map_nil];by_cases hk1:k=Au x
    ·subst hk1;simp [ec']
    ·simp [hk1]
 ·have e:Ci m c=BV (BM 141,m):=by unfold Ci BV;rw [if_pos (by first|(simp_all;done)|(simp_all;omega)|omega)]
  rw [e] at hk;exact Gh.to (mL b s V m (SX++F)) (Gh.done (hk.plain (Ext.refl _) ⟨s,V,SX,List.Perm.refl _,hF,hSp⟩ (Ee ..)))
theorem AKP:AGn:=fun ω I K b N X F m c cc hM hN hX hc hky hk=>by
 obtain ⟨s,V,SX,hp,hF,hSp⟩:=hX;refine Cal.perm (L':=mL b s V m (SX++F)) (AP (by simp only [AN,BA hp];((try simp only [AM,AN,AY,AQ]);(try ac_rfl)))) (SS hM hN hF hSp hc hky hk)
end
section
variable {ω:Om}{I:Imm}{L:LH}{K:Value→M}
theorem NR {g:TGot}{v w:Value}(hv:Bytes I v g.fValue)(hw:Bytes I w g.fValue)(hk:K (.bool true) I L):CT ω 54 #[gvV g v,gvV g w] K I L:=by
 obtain ⟨va,vc,rfl⟩:=Bytes.form hv;obtain ⟨wa,wc,rfl⟩:=Bytes.form hw;refine AOP ?_;unfold sh54;repeat' (first|(with_reducible first|refine AZ ?_|refine Aa ?_|refine Ac ?_|refine keepA ?_|refine AV (fun _=>?_)|refine Gq hv (Ext.refl _) ?_|refine Gq hw (Ext.refl _) ?_|refine rdb ?_)|((with_reducible first|refine st1 ?_ ?_|refine rdB ?_ ?_);rfl)|(with_reducible refine Ah ?_)|((with_reducible refine Ai ?_ ?_);rfl)|((with_reducible refine stB ?_ ?_ ?_ ?_);rfl;rfl;exact AK rfl)|((with_reducible first|refine rdP _ rfl ?_ ?_|refine As _ rfl ?_ ?_);rfl)|((with_reducible refine stP _ rfl ?_ ?_ ?_ ?_);rfl;rfl;rfl)|(with_reducible first|refine AW (sh54.eq_1 ..) ?_|refine And.intro ?_ ?_)|(simp only [SSg,Int.reduceBEq,Int.reduceBNe,Int.reduceLT,Int.reduceLE,beq_self_eq_true,bne_self_eq_false])|(with_reducible first|refine AG (fun _=>?_) (fun _=>?_)|refine AC (fun _=>?_) (fun _=>?_))|(simp only [SSd,Nat.reduceAdd,sEq,beq_self_eq_true,Bool.and_self]))
 all_goals exact Gh.to L (Gh.done hk)
theorem Lc {L0:LH}[LSub L0 L]{a:List TKV}{v w:Value}(ha:RL TKVV 2 I L0 v a)(hb:RL TKVV 2 I L0 w a)(hl:a.length≤1000000000)(hk:K (.bool true) I L):CT ω 55 #[v,w] K I L:=by
 refine AOO ?_;unfold AKf;simp only [RL.len ha,RL.len hb,SSd,Nat.reduceAdd];refine AC (fun e=>?_) (fun e=>?_)
 ·simp at e
 refine loop (fun n s I' L'=>I'=I∧L'=L∧∃i:Nat,n+i=a.length∧s=(.bool false,.int .i64 i,())) a.length ⟨rfl,rfl,0,rfl,rfl⟩ ?_;rintro n s I' L' ⟨rfl,rfl,i,hni,rfl⟩;unfold AAi;simp only [RL.len ha,SSd,Nat.reduceAdd];refine AC (fun e2=>?_) (fun e2=>Gh.done hk);have hi:i < a.length:=by simpa using e2
 obtain ⟨q,off,c,hix,hcl,hc,hcc⟩:=RL.ix ha (i:=(i:Int)) (by omega) (by omega);obtain ⟨q2,off2,c2,hix2,hcl2,hc2,hcc2⟩:=RL.ix hb (i:=(i:Int)) (by omega) (by omega);rw [Aq hi] at hc hc2;generalize a[i]=x at *;obtain ⟨w0,w1,rfl,g0,g1⟩:=hc;obtain ⟨u0,u1,rfl,f0,f1⟩:=hc2;have hcv:=hcc I' L0 (Ext.refl _) (fun _ h=>h);have hcu:=hcc2 I' L0 (Ext.refl _) (fun _ h=>h);refine AZ ?_;simp only [hix,SSd,Nat.reduceAdd];refine CQ (hcv 0 _ rfl) (Ext.refl _) ?_;refine Ek g0 (Ext.refl _) ?_;simp only [hix2,SSd,Nat.reduceAdd];refine CQ (hcu 0 _ rfl) (Ext.refl _) ?_;refine Ek f0 (Ext.refl _) ?_;simp only [sNe,SSd,Nat.reduceAdd];refine AG (fun e3=>?_) (fun e3=>?_);rotate_left
 ·simp at e3
 try simp only [SSd,Nat.reduceAdd]
 refine CQ (hcv 1 _ rfl) (Ext.refl _) ?_;refine Ek g1 (Ext.refl _) ?_;try simp only [SSd,Nat.reduceAdd]
 refine CQ (hcu 1 _ rfl) (Ext.refl _) ?_;refine Ek f1 (Ext.refl _) ?_;simp only [sNe,SSd,Nat.reduceAdd];refine AC (fun e4=>?_) (fun e4=>?_)
 ·simp at e4
 try simp only [SSd,Nat.reduceAdd]
 rw [wrap_i64 _ (by omega)];exact Gh.done ⟨n - 1,by omega,rfl,rfl,i+1,by omega,rfl⟩
theorem NQ {r:TRes}{ca cb:List Value}(h:TResV I r ca)(h':TResV I r cb)(hl:r.fRows.length≤1000000000)(hk:K (.bool true) I L):CT ω 17 #[.agg ca.toArray,.agg cb.toArray] K I L:=by
 obtain ⟨v0,v1,rfl,g0,g1⟩:=h;obtain ⟨w0,w1,rfl,f0,f1⟩:=h';obtain ⟨a0,c0,rfl⟩:=Bytes.form g0;obtain ⟨a1,c1,rfl⟩:=Bytes.form f0;obtain ⟨a2,c2,rfl⟩:=RL.form g1;obtain ⟨a3,c3,rfl⟩:=RL.form f1;refine AOb ?_;unfold sh17;repeat' (first|(with_reducible first|refine AZ ?_|refine Aa ?_|refine Ac ?_|refine keepA ?_|refine AV (fun _=>?_))|((with_reducible refine call ?_);with_reducible refine NR (g:=r.fGot) g0 f0 ?_)|((with_reducible refine call ?_);with_reducible refine Lc g1 f1 hl ?_)|(with_reducible refine rdb ?_)|((with_reducible first|refine st1 ?_ ?_|refine rdB ?_ ?_);rfl)|(with_reducible refine Ah ?_)|((with_reducible refine Ai ?_ ?_);rfl)|((with_reducible refine stB ?_ ?_ ?_ ?_);rfl;rfl;exact AK rfl)|((with_reducible first|refine rdP _ rfl ?_ ?_|refine As _ rfl ?_ ?_);rfl)|((with_reducible refine stP _ rfl ?_ ?_ ?_ ?_);rfl;rfl;rfl)|(with_reducible first|refine AW (sh17.eq_1 ..) ?_|refine And.intro ?_ ?_)|(simp only [SSg,Int.reduceBEq,Int.reduceBNe,Int.reduceLT,Int.reduceLE,beq_self_eq_true,bne_self_eq_false])|(with_reducible first|refine AG (fun _=>?_) (fun _=>?_)|refine AC (fun _=>?_) (fun _=>?_))|(simp only [SSd,Nat.reduceAdd,beq_self_eq_true,Bool.and_self]))
 all_goals exact Gh.to L (Gh.done hk)
end
theorem Ye {W:World}{v:Value}(h:TrR reachBytes Tryz.prog W 60 [v]):∃cs:List TCmd,RL TCmdV 15 (FU W) [] v cs∧(∀c∈cs,Lens c)∧cs.length≤900000000000:=by
 obtain ⟨cells,xs,hS,hRR,hlen⟩:=Qa (R:=fun x c=>AGm reachBytes x∧TCmdV (FU W) x c) Tryz.underlying60 (by rw [Vp];omega) h (fun c hc=>AAH hc);rw [Vp] at hS hRR;rw [ANF] at hlen;have e:reachBytes=140737488351232:=by rfl
 exact ⟨xs,RL.ofI hS (hRR.imp fun _ _ h=>h.2),fun c hc=>AIt (Sz (fun _ _ h=>h.1) hRR c hc),by omega⟩
section
variable {ω:Om}{I:Imm}{L:LH}{K:Value→M}
end
section
variable {ω:Om}{I:Imm}{K:Value→M}{b s br N:Nat}{VM:MV}{V:RV}{m:Mch}{R SX F:LH}
end
def APF (I:Imm)(v:Value)(X:LH)(o:Option Mch):Prop:=match o with
 |none=>v= .pointer none∧X=[]
 |some m=>∃b,v=pt b∧MchR I b X m
section
variable {ω:Om}{I:Imm}{L:LH}{K:Value→M}{b br N:Nat}{m:Mch}{X Y F:LH}{c:TCmd}{cc:List Value}
theorem LK (hM:MOk m N)(hN:N≤5000)(hX:MchR I b X m)(hc:TCmdV I c cc)(hL:Lens c)
  (hk:∀I' X' X2 pv cells,Ext I I'→MchR I' b X' (BH m c).2.1→TResV I' (BH m c).1 cells→APF I' pv X2 (BH m c).2.2→K (.tuple #[.agg cells.toArray,pv]) I' (X'++(X2++F))):
  CT ω 12 #[pt b,.agg cc.toArray] K I (X++F):=
 JO hM hN hX hc hL (fun _=>AJe) (fun _=>AKP) (fun I' X' cells hI hM' hr=>
  ⟨fun hn=>hk I' X' [] _ cells hI hM' hr (by rw [hn];exact ⟨rfl,rfl⟩),fun m2 b2 X2 hm hX2=>hk I' X' X2 _ cells hI hM' hr (by rw [hm];exact ⟨b2,rfl,hX2⟩)⟩)
end
instance:Inhabited Mch:=⟨HG ⟨[],[]⟩⟩
end Go.Proofs.YtmmfcgbfbcamcaaGreatDoor
namespace Go.Proofs
open Go.Shelf
def Tryz.lay183_ren:Go.Shelf.Ren:=⟨fun|189=>183|125=>138|257=>233|128=>202|129=>203|294=>256|295=>257|296=>258|297=>259|298=>260|299=>261|216=>262|300=>263|301=>264|328=>273|329=>238|330=>239|331=>274|332=>275|215=>245|343=>280|n=>n,fun|28=>23|3=>3|46=>219|0=>0|51=>275|53=>196|4=>4|183=>269|182=>268|131=>221|5=>5|9=>9|218=>310|222=>314|228=>332|229=>333|n=>n,fun|n=>n⟩
theorem Tryz.lay183:Go.Proofs.Lays.n189 Tryz.prog Tryz.lay183_ren:={
 mixed:=by kernel_rfl
 f125:=Tryz.func138.trans (congrArg some (by kernel_rfl))
 f128:=Tryz.func202.trans (congrArg some (by kernel_rfl))
 f129:=Tryz.func203.trans (congrArg some (by kernel_rfl))
 f189:=Tryz.func183.trans (congrArg some (by kernel_rfl))
 f215:=Tryz.func245.trans (congrArg some (by kernel_rfl))
 f216:=Tryz.func262.trans (congrArg some (by kernel_rfl))
 f257:=Tryz.func233.trans (congrArg some (by kernel_rfl))
 f294:=Tryz.func256.trans (congrArg some (by kernel_rfl))
 f295:=Tryz.func257.trans (congrArg some (by kernel_rfl))
 f296:=Tryz.func258.trans (congrArg some (by kernel_rfl))
 f297:=Tryz.func259.trans (congrArg some (by kernel_rfl))
 f298:=Tryz.func260.trans (congrArg some (by kernel_rfl))
 f299:=Tryz.func261.trans (congrArg some (by kernel_rfl))
 f300:=Tryz.func263.trans (congrArg some (by kernel_rfl))
 f301:=Tryz.func264.trans (congrArg some (by kernel_rfl))
 f328:=Tryz.func273.trans (congrArg some (by kernel_rfl))
 f329:=Tryz.func238.trans (congrArg some (by kernel_rfl))
 f330:=Tryz.func239.trans (congrArg some (by kernel_rfl))
 f331:=Tryz.func274.trans (congrArg some (by kernel_rfl))
 f332:=Tryz.func275.trans (congrArg some (by kernel_rfl))
 f343:=Tryz.func280.trans (congrArg some (by kernel_rfl))
 t0:=Tryz.underlying0
 a0:=Tryz.isAgg0
 z0:=Tryz.sizeOf0
 v0:=Tryz.zeroValue0
 t3:=Tryz.underlying3
 a3:=Tryz.isAgg3
 z3:=Tryz.sizeOf3
 v3:=Tryz.zeroValue3
 t4:=Tryz.underlying4
 a4:=Tryz.isAgg4
 z4:=Tryz.sizeOf4
 v4:=Tryz.zeroValue4
 t5:=Tryz.underlying5
 a5:=Tryz.isAgg5
 z5:=Tryz.sizeOf5
 v5:=Tryz.zeroValue5
 t9:=Tryz.underlying9
 a9:=Tryz.isAgg9
 z9:=Tryz.sizeOf9
 v9:=Tryz.zeroValue9
 t28:=Tryz.underlying23
 a28:=Tryz.isAgg23
 z28:=Tryz.sizeOf23
 v28:=Tryz.zeroValue23
 t46:=Tryz.underlying219
 a46:=Tryz.isAgg219
 z46:=Tryz.sizeOf219
 v46:=Tryz.zeroValue219
 t51:=Tryz.underlying275
 a51:=Tryz.isAgg275
 z51:=Tryz.sizeOf275
 v51:=Tryz.zeroValue275
 t53:=Tryz.underlying196
 a53:=Tryz.isAgg196
 z53:=Tryz.sizeOf196
 v53:=Tryz.zeroValue196
 t131:=Tryz.underlying221
 a131:=Tryz.isAgg221
 z131:=Tryz.sizeOf221
 v131:=Tryz.zeroValue221
 t182:=Tryz.underlying268
 a182:=Tryz.isAgg268
 z182:=Tryz.sizeOf268
 v182:=Tryz.zeroValue268
 t183:=Tryz.underlying269
 a183:=Tryz.isAgg269
 z183:=Tryz.sizeOf269
 v183:=Tryz.zeroValue269
 t218:=Tryz.underlying310
 a218:=Tryz.isAgg310
 z218:=Tryz.sizeOf310
 v218:=Tryz.zeroValue310
 t222:=Tryz.underlying314
 a222:=Tryz.isAgg314
 z222:=Tryz.sizeOf314
 v222:=Tryz.zeroValue314
 t228:=Tryz.underlying332
 a228:=Tryz.isAgg332
 z228:=Tryz.sizeOf332
 v228:=Tryz.zeroValue332
 t229:=Tryz.underlying333
 a229:=Tryz.isAgg333
 z229:=Tryz.sizeOf333
 v229:=Tryz.zeroValue333}
end Go.Proofs
namespace Go.Proofs.YtmmfcgbfbcamcaaGreatDoor
open Go.SL
def mkE (q:List UInt8×TMk):List UInt8:=DY q.1++Ed q.2.fAt++Bq [q.2.fBy]
def rcE (q:Int×TRc):List UInt8:=Bq [q.1,q.2.fState]++Ed q.2.fAt
def snE (q:Int×TSn):List UInt8:=Bq [q.1,q.2.fSeq,q.2.fCode]++Ed q.2.fAt
def Ji (m:Mch):List UInt8:=DY m.span.fFrom++DY m.span.fTo++Bq [m.oldest]++Ed m.low.fAt++Bq [m.low.fBy,(m.marks.length:Int)]
def Jh (m:Mch):List UInt8:=Ji m++m.marks.flatMap mkE++Bq [(m.recs.length:Int)]
def LI (m:Mch):List UInt8:=Jh m++m.recs.flatMap rcE++Bq [(m.seen.length:Int)]
def Av (m:Mch):List UInt8:=LI m++m.seen.flatMap snE
theorem Dy {α:Type}{f:α→List UInt8}{c:Nat}:∀{l:List α},(∀x∈l,(f x).length≤c)→(l.flatMap f).length≤c * l.length
 |[],_=>by simp
 |x::l,h=>by
  have h1:=h x (List.mem_cons_self ..);have h2:=Dy (f:=f) (c:=c) (l:=l) (fun y hy=>h y (List.mem_cons_of_mem _ hy));simp only [List.flatMap_cons,List.length_append,List.length_cons,Nat.mul_add];omega
section
variable {m:Mch}{N:Nat}
theorem Eo {n:Int}(h:EN n=true):Dk n:=maxB_iff.1 h
theorem Rb (h:MOk m N):∀q∈m.marks,(mkE q).length≤200:=fun q hq=>by
 obtain ⟨h1,h2⟩:=h.mark q hq;have h1:=Dl h1;have:=DJ (b:=q.1) (by omega);have:=Gg h2.right;have:=CC (l:=[q.2.fBy]) (by simp [Eo h2.by']);simp only [mkE,List.length_append,List.length_cons,List.length_nil] at *; omega
theorem WE {n:Int}(h:CB n=true):Dk n:=DK h
theorem RO (h:MOk m N):∀q∈m.recs,(∀n∈[q.1,q.2.fState],Dk n)∧AU q.2.fAt=true:=fun q hq=>by
 obtain ⟨h1,h2⟩:=h.rec' q hq;have h3:=h2.state;refine ⟨fun n hn=>?_,h2.right⟩;simp only [List.mem_cons,List.not_mem_nil,or_false] at hn;rcases hn with rfl|rfl
 ·exact WE h1
 ·exact ⟨by omega,by omega⟩
theorem RP (h:MOk m N):∀q∈m.recs,(rcE q).length≤200:=fun q hq=>by
 obtain ⟨h1,h2⟩:=RO h q hq;have:=Gg h2;have:=CC h1;simp only [rcE,List.length_append,List.length_cons,List.length_nil] at *; omega
theorem Qe (h:MOk m N):∀q∈m.seen,(∀n∈[q.1,q.2.fSeq,q.2.fCode],Dk n)∧AU q.2.fAt=true:=fun q hq=>by
 obtain ⟨h1,h2⟩:=h.sn q hq;have h3:=h2.code;refine ⟨fun n hn=>?_,h2.right⟩;simp only [List.mem_cons,List.not_mem_nil,or_false] at hn;rcases hn with rfl|rfl|rfl
 ·exact WE h1
 ·exact Eo h2.seq
 ·rw [h3];exact Cf
theorem WI (h:MOk m N):∀q∈m.seen,(snE q).length≤200:=fun q hq=>by
 obtain ⟨h1,h2⟩:=Qe h q hq;have:=Gg h2;have:=CC h1;simp only [snE,List.length_append,List.length_cons,List.length_nil] at *; omega
theorem KP (h:MOk m N):(Ji m).length≤1000:=by
 have hs:=h.span;have hm:=h.marksL;simp only [DW,Bool.and_eq_true,decide_eq_true_eq] at hs;have:=DJ (b:=m.span.fFrom) (by omega);have:=DJ (b:=m.span.fTo) (by omega);have:=Gg h.low.right;have:=CC (l:=[m.oldest]) (by simp [Eo h.oldest]);have:=CC (l:=[m.low.fBy,(m.marks.length:Int)]) (by simp [Eo h.low.by'];exact ⟨by omega,by omega⟩);simp only [Ji,List.length_append,List.length_cons,List.length_nil] at *; omega
theorem ML {n:Nat}(h:n≤1000):∀k∈[(n:Int)],Dk k:=fun k hk=>by
 simp only [List.mem_singleton] at hk;subst hk;exact ⟨by omega,by omega⟩
theorem KO (h:MOk m N):(Jh m).length≤10000:=by
 have h0:=KP h;have hm:=h.marksL;have hr:=h.recsL;have h1:=Dy (Rb h);have h2:=CC (ML (n:=m.recs.length) (by omega));simp only [Jh,List.length_append,List.length_cons,List.length_nil] at *; omega
theorem Pl (h:MOk m N):(LI m).length≤30000:=by
 have h0:=KO h;have hm:=h.seenL;have hr:=h.recsL;have h1:=Dy (RP h);have h2:=CC (ML (n:=m.seen.length) (by omega));simp only [LI,List.length_append,List.length_cons,List.length_nil] at *; omega
theorem CV (h:MOk m N):(Av m).length≤50000:=by
 have h0:=Pl h;have hm:=h.seenL;have h1:=Dy (WI h);simp only [Av,List.length_append] at *; omega
end
section
variable {ω:Om}{I:Imm}{L:LH}{K:Value→M}
theorem AJf {T:Nat}{X F:LH}{v:Value}{zs:List Int}(hO:SlO T 1 X v (zs.map (Value.int .i64)) zs.length)(hl:zs.length≤1000000)
  (hk:∀(X':LH) (ys:List Int),ys.Perm zs→ys.Pairwise (fun a b=>a≤b)→SlO T 1 X' v (ys.map (Value.int .i64)) ys.length→K (.tuple #[]) I (X'++F)):CT ω 183 #[v] K I (X++F):=Yg Go.Proofs.Tryz.lay183 hO (by omega) hk
theorem Qd {qm r c:Nat}{es:Array MapEntry}{l:AL Key TMk}(hm:MapS es c (BK mv l))(hs:SrtA blt l)(hl:l.length≤1000)(hat:MapAt I L r es c)
  (hk:∀X v,SlO 9 1 X v ((l.map (·.1)).map CY) l.length→K v I (X++L)):
  CT ω 126 #[.func (.func 181) #[] #[pt qm]] K I ((qm,.cells #[.map (some r)] 157 (0,0))::L):=by
 refine AFk ?_;unfold XP;have hsz:=hm.sizeA hs;refine call (AJo hm (by simp [hsz];omega) hat (fun X v vis hvp hO=>?_));have hO':SlO 9 1 X v ((vis.map Au).map CY) (vis.map Au).length:=by simpa using hO
 have hpk:=(hvp.map Au).trans (hm.keysA hs);have hvl:(vis.map Au).length=l.length:=by rw [hpk.length_eq];simp
 refine call (AJe _ _ _ _ _ _ _ _ hO' (by omega) (fun X' ys hp hpw hO2=>?_));have hys:ys=l.map (·.1):=MK Lj (hp.trans hpk) hpw (List.pairwise_map.2 hs);subst hys;rw [List.length_map] at hO2;exact Gh.done (hk X' v hO2)
theorem Qc {qm r c:Nat}{es:Array MapEntry}{l:AL Int TRc}(hm:MapSi es c (BK rcv l))(hs:SrtA ilt l)(hl:l.length≤1000)(hat:MapAt I L r es c)
  (hk:∀X v,SlO 3 1 X v ((l.map (·.1)).map (Value.int .i64)) l.length→K v I (X++L)):
  CT ω 128 #[.func (.func 184) #[] #[pt qm]] K I ((qm,.cells #[.map (some r)] 160 (0,0))::L):=by
 refine AFj ?_;unfold XK;have hsz:=hm.sizeA hs;refine call (ANc hm (by simp [hsz];omega) hat (fun X v vis hvp hO=>?_));have hO':SlO 3 1 X v ((vis.map BJ).map (Value.int .i64)) (vis.map BJ).length:=by simpa using hO
 have hpk:=(hvp.map BJ).trans (hm.keysA hs);have hvl:(vis.map BJ).length=l.length:=by rw [hpk.length_eq];simp
 refine call (AJf hO' (by omega) (fun X' ys hp hpw hO2=>?_));have hys:ys=l.map (·.1):=MK Ld (hp.trans hpk) (hpw.imp fun h=>by simp;omega) (List.pairwise_map.2 hs);subst hys;rw [List.length_map] at hO2;exact Gh.done (hk X' v hO2)
theorem Qb {qm r c:Nat}{es:Array MapEntry}{l:AL Int TSn}(hm:MapSi es c (BK snv l))(hs:SrtA ilt l)(hl:l.length≤1000)(hat:MapAt I L r es c)
  (hk:∀X v,SlO 3 1 X v ((l.map (·.1)).map (Value.int .i64)) l.length→K v I (X++L)):
  CT ω 128 #[.func (.func 185) #[] #[pt qm]] K I ((qm,.cells #[.map (some r)] 161 (0,0))::L):=by
 refine AFj ?_;unfold XK;have hsz:=hm.sizeA hs;refine call (AJn hm (by simp [hsz];omega) hat (fun X v vis hvp hO=>?_));have hO':SlO 3 1 X v ((vis.map BJ).map (Value.int .i64)) (vis.map BJ).length:=by simpa using hO
 have hpk:=(hvp.map BJ).trans (hm.keysA hs);have hvl:(vis.map BJ).length=l.length:=by rw [hpk.length_eq];simp
 refine call (AJf hO' (by omega) (fun X' ys hp hpw hO2=>?_));have hys:ys=l.map (·.1):=MK Ld (hp.trans hpk) (hpw.imp fun h=>by simp;omega) (List.pairwise_map.2 hs);subst hys;rw [List.length_map] at hO2;exact Gh.done (hk X' v hO2)
end
end Go.Proofs.YtmmfcgbfbcamcaaGreatDoor
