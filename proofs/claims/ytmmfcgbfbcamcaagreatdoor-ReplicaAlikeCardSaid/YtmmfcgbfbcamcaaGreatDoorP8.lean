/-
  Lemmas, part 8: laid together by a program.
-/
import Derived.Test.YtmmfcgbfbcamcaaGreatDoorP7
import Derived.Test.YtmmfcgbfbcamcaaGreatDoorProg
import Derived.Shelf.SlSortCmp.NoneTotal
import Derived.Shelf.Lays
import Derived.Shelf.Small.Strs
set_option maxRecDepth 100000
set_option linter.unusedVariables false
set_option linter.unusedSimpArgs false
set_option linter.unusedSectionVars false
namespace Go.Proofs.YtmmfcgbfbcamcaaGreatDoor
open Go.SL
theorem ALI {I I0:Imm}{L X:LH}{K:Value→M}{r clock:Nat}{es:Array MapEntry}[hin:InL r X (.map es clock)](hk:K (.int .i64 es.size) I L):Rv (some (Stay I0 X)) (Ho (.map (some r))) K I L:=⟨_,fun _ _ hS=>⟨es,.inr ⟨r,clock,rfl,.inl (hS.2 _ hin.mem)⟩,rfl⟩,hk⟩
section
variable {ω:Om}{I:Imm}{L:LH}{K:Value→M}{b s N w:Nat}{VM:MV}{m:Mch}{R:LH}
theorem Uy {X Y:LH}{v u v2:Value}{I0:Imm}(hF:MF I0 VM m)(hM:MOk m N)(hI:Ext I0 I)(hX:SlO 3 1 X u ((m.seen.map (·.1)).map (Value.int .i64)) m.seen.length)(hO:OB Y v (LI m))
  (hk:∀I' u,Ext I I'→Bytes I' u (Av m)→K u I' (mL b s VM m R)):
  An ((.int .i64 0,()):Value×Unit) (fun st Kn2=>Uk ω (pt b) v2 (pt w) u (.int .i64 m.seen.length) st.1 Kn2 (fun v=>Gh (K v))) I (X++((w,wrO v)::(Y++mL b s VM m R))):=by
 have h2l:=Pl hM;have hsl:=hM.seenL;refine loop (fun n (st:Value×Unit) I' L'=>Ext I I'∧∃(i:Nat) (Y:LH) (v:Value),n+i=m.seen.length∧st=(.int .i64 i,())∧L'=X++((w,wrO v)::(Y++mL b s VM m R))∧OB Y v (LI m++(m.seen.take i).flatMap snE)) m.seen.length ⟨Ext.refl _,0,Y,v,rfl,rfl,rfl,by simpa using hO⟩ ?_;rintro n st I' L' ⟨hI',i,Y,v,hni,rfl,rfl,hO⟩;unfold Uk;try simp only [SSd,Nat.reduceAdd]
 refine AC (fun e=>?_) (fun e=>?_)
 ·have hi:i < m.seen.length:=by simpa using e
  obtain ⟨bq,hix,hcq⟩:=hX.ix .i64 (i:=i) (by omega);have hcq1:=hcq I' (X++((w,wrO v)::(Y++mL b s VM m R))) (fun x hx=>List.mem_append_left _ hx) 0 (.int .i64 m.seen[i].1) (by simp [hi]);have hq:lkA m.seen m.seen[i].1=some m.seen[i].2:=FO Ld hM.seen (List.getElem_mem hi);have hlq:BK snv m.seen m.seen[i].1=some (snv m.seen[i].2):=by unfold BK;rw [hq];rfl
  obtain ⟨hn1,hn2⟩:=Qe hM m.seen[i] (List.getElem_mem hi);have hsn:=take_snoc hi;have hfl:=Dy (f:=snE) (c:=200) (l:=m.seen.take i) (fun x hx=>WI hM x (List.mem_of_mem_take hx));rw [List.length_take] at hfl;generalize m.seen[i]=x at *;simp only [hix,SSd,Nat.reduceAdd];refine rd1 (by simpa using hcq1) ?_;try simp only [SSd,Nat.reduceAdd]
  refine rdb ?_;refine lkI hF.sns ?_;simp only [hlq,lkV,Bool.false_eq_true,if_false];refine AV (fun q=>?_);refine stB rfl rfl (AK rfl) ?_;try simp only [SSd,Nat.reduceAdd]
  refine rdb ?_;try simp only [SSd,Nat.reduceAdd]
  refine rdb ?_;refine AOg (fun u3 I3 hI3 hU3=>?_);refine call (Cal.perm (L':=(w,wrO v)::(Y++((q,.cells #[.int .i64 x.2.fSeq,.int .i64 x.2.fCode,.int .i64 x.2.fAt.fWall,.int .i64 x.2.fAt.fLogic] 209 (0,0))::(X++mL b s VM m R)))) (AP (by ((try simp only [AM,AN,AY,AQ]);(try ac_rfl)))) (DT hO hU3 hn1 (by simp only [List.length_append,List.length_cons,List.length_nil];omega) (fun Y4 v4 I4 hI4 hO4=>?_)));try simp only [SSd,Nat.reduceAdd]
  refine rdP [.int .i64 x.2.fAt.fWall,.int .i64 x.2.fAt.fLogic] rfl rfl ?_;have hl4:=CC hn1;refine call (GP hO4 hn2 (by simp only [List.length_append,List.length_cons,List.length_nil] at hl4 ⊢;omega) (fun Y5 v5 I5 hI5 hO5=>?_));try simp only [SSd,Nat.reduceAdd]
  rw [wrap_i64 _ (by omega)];refine Gh.to (X++((w,wrO v5)::(Y5++mL b s VM m R))) (Gh.done ⟨n - 1,by omega,hI'.trans (hI3.trans (hI4.trans hI5)),i+1,Y5,v5,by omega,rfl,rfl,?_⟩);have e5:LI m++(m.seen.take (i+1)).flatMap snE=LI m++(m.seen.take i).flatMap snE++Bq [x.1,x.2.fSeq,x.2.fCode]++Ed x.2.fAt:=by
   rw [hsn,List.flatMap_append];simp [snE]
  rw [e5];exact hO5
 ·have hi:i=m.seen.length:=by simp at e;omega
  rw [hi,List.take_length] at hO;unfold AAf;try simp only [SSd,Nat.reduceAdd]
  refine rdb ?_;refine Gh.to (Y++mL b s VM m R) (OB.freeze hO (fun I9 hI9 hB=>Gh.done ?_));exact hk I9 v (hI'.trans hI9) hB
theorem Uz {X0 Y:LH}{v v2:Value}{I0:Imm}(hF:MF I0 VM m)(hM:MOk m N)(hI:Ext I0 I)(hO:OB Y v (Jh m++m.recs.flatMap rcE))
  (hk:∀I' u,Ext I I'→Bytes I' u (Av m)→K u I' (mL b s VM m R)):
  Ul ω (pt b) v2 (pt w) (fun v=>Gh (K v)) I (X0++((w,wrO v)::(Y++mL b s VM m R))):=by
 have h1l:=KO hM;have hsl:=hM.seenL;have hrl:=hM.recsL;have hfl:=Dy (RP hM);unfold Ul;try simp only [SSd,Nat.reduceAdd]
 refine rdb ?_;refine TR ?_;rw [hF.sns.sizeA hM.seen];refine QW (fun u3 I3 hI3 hU3=>?_);refine call (Cal.to ((w,wrO v)::(Y++mL b s VM m R)) (DT hO hU3 (ML (by omega)) (by simp only [List.length_append,List.length_cons,List.length_nil];omega) (fun Y4 v4 I4 hI4 hO4=>?_)));try simp only [SSd,Nat.reduceAdd]
 refine rdb ?_;refine call (AJk (fun qm=>?_));refine call (Qb hF.sns hM.seen (by omega) (.inl (by simp)) (fun X u hX=>?_));obtain ⟨ua,uc,rfl⟩:=hX.form;try simp only [SSd,Nat.reduceAdd]
 exact Uy hF hM (hI.trans (hI3.trans hI4)) hX hO4 (fun I' u hI' hB=>hk I' u (hI3.trans (hI4.trans hI')) hB)
theorem VA {X Y:LH}{v u v2:Value}{I0:Imm}(hF:MF I0 VM m)(hM:MOk m N)(hI:Ext I0 I)(hX:SlO 3 1 X u ((m.recs.map (·.1)).map (Value.int .i64)) m.recs.length)(hO:OB Y v (Jh m))
  (hk:∀I' u,Ext I I'→Bytes I' u (Av m)→K u I' (mL b s VM m R)):
  An ((.int .i64 0,()):Value×Unit) (fun st Kn2=>Um ω (pt b) v2 (pt w) u (.int .i64 m.recs.length) st.1 Kn2 (fun v=>Gh (K v))) I (X++((w,wrO v)::(Y++mL b s VM m R))):=by
 have h2l:=KO hM;have hsl:=hM.recsL;obtain ⟨ua,uc,hu⟩:=hX.form;refine loop (fun n (st:Value×Unit) I' L'=>Ext I I'∧∃(i:Nat) (Y:LH) (v:Value),n+i=m.recs.length∧st=(.int .i64 i,())∧L'=X++((w,wrO v)::(Y++mL b s VM m R))∧OB Y v (Jh m++(m.recs.take i).flatMap rcE)) m.recs.length ⟨Ext.refl _,0,Y,v,rfl,rfl,rfl,by simpa using hO⟩ ?_;rintro n st I' L' ⟨hI',i,Y,v,hni,rfl,rfl,hO⟩;unfold Um;try simp only [SSd,Nat.reduceAdd]
 refine AC (fun e=>?_) (fun e=>?_)
 ·have hi:i < m.recs.length:=by simpa using e
  obtain ⟨bq,hix,hcq⟩:=hX.ix .i64 (i:=i) (by omega);have hcq1:=hcq I' (X++((w,wrO v)::(Y++mL b s VM m R))) (fun x hx=>List.mem_append_left _ hx) 0 (.int .i64 m.recs[i].1) (by simp [hi]);have hq:lkA m.recs m.recs[i].1=some m.recs[i].2:=FO Ld hM.recs (List.getElem_mem hi);have hlq:BK rcv m.recs m.recs[i].1=some (rcv m.recs[i].2):=by unfold BK;rw [hq];rfl
  obtain ⟨hn1,hn2⟩:=RO hM m.recs[i] (List.getElem_mem hi);have hsn:=take_snoc hi;have hfl:=Dy (f:=rcE) (c:=200) (l:=m.recs.take i) (fun x hx=>RP hM x (List.mem_of_mem_take hx));rw [List.length_take] at hfl;generalize m.recs[i]=x at *;simp only [hix,SSd,Nat.reduceAdd];refine rd1 (by simpa using hcq1) ?_;try simp only [SSd,Nat.reduceAdd]
  refine rdb ?_;refine lkI hF.rcs ?_;simp only [hlq,lkV,Bool.false_eq_true,if_false];refine AV (fun q=>?_);refine stB rfl rfl (AK rfl) ?_;try simp only [SSd,Nat.reduceAdd]
  refine rdb ?_;refine AGa (fun u3 I3 hI3 hU3=>?_);refine call (Cal.perm (L':=(w,wrO v)::(Y++((q,.cells #[.int .i64 x.2.fState,.int .i64 x.2.fAt.fWall,.int .i64 x.2.fAt.fLogic] 194 (0,0))::(X++mL b s VM m R)))) (AP (by ((try simp only [AM,AN,AY,AQ]);(try ac_rfl)))) (DT hO hU3 hn1 (by simp only [List.length_append,List.length_cons,List.length_nil];omega) (fun Y4 v4 I4 hI4 hO4=>?_)));try simp only [SSd,Nat.reduceAdd]
  refine rdP [.int .i64 x.2.fAt.fWall,.int .i64 x.2.fAt.fLogic] rfl rfl ?_;have hl4:=CC hn1;refine call (GP hO4 hn2 (by simp only [List.length_append,List.length_cons,List.length_nil] at hl4 ⊢;omega) (fun Y5 v5 I5 hI5 hO5=>?_));try simp only [SSd,Nat.reduceAdd]
  rw [wrap_i64 _ (by omega)];refine Gh.to (X++((w,wrO v5)::(Y5++mL b s VM m R))) (Gh.done ⟨n - 1,by omega,hI'.trans (hI3.trans (hI4.trans hI5)),i+1,Y5,v5,by omega,rfl,rfl,?_⟩);have e5:Jh m++(m.recs.take (i+1)).flatMap rcE=Jh m++(m.recs.take i).flatMap rcE++Bq [x.1,x.2.fState]++Ed x.2.fAt:=by
   rw [hsn,List.flatMap_append];simp [rcE]
  rw [e5];exact hO5
 ·have hi:i=m.recs.length:=by simp at e;omega
  rw [hi,List.take_length] at hO;exact Uz hF hM (hI.trans hI') hO (fun I9 u9 hI9 hB=>hk I9 u9 (hI'.trans hI9) hB)
theorem VB {X0 Y:LH}{v v2:Value}{I0:Imm}(hF:MF I0 VM m)(hM:MOk m N)(hI:Ext I0 I)(hO:OB Y v (Ji m++m.marks.flatMap mkE))
  (hk:∀I' u,Ext I I'→Bytes I' u (Av m)→K u I' (mL b s VM m R)):
  Un ω (pt b) v2 (pt w) (fun v=>Gh (K v)) I (X0++((w,wrO v)::(Y++mL b s VM m R))):=by
 have h1l:=KP hM;have hsl:=hM.marksL;have hrl:=hM.recsL;have hfl:=Dy (Rb hM);unfold Un;try simp only [SSd,Nat.reduceAdd]
 refine rdb ?_;refine TR ?_;rw [hF.rcs.sizeA hM.recs];refine QW (fun u3 I3 hI3 hU3=>?_);refine call (Cal.to ((w,wrO v)::(Y++mL b s VM m R)) (DT hO hU3 (ML (by omega)) (by simp only [List.length_append,List.length_cons,List.length_nil];omega) (fun Y4 v4 I4 hI4 hO4=>?_)));try simp only [SSd,Nat.reduceAdd]
 refine rdb ?_;refine call (ANY (fun qm=>?_));refine call (Qc hF.rcs hM.recs (by omega) (.inl (by simp)) (fun X u hX=>?_));obtain ⟨ua,uc,rfl⟩:=hX.form;try simp only [SSd,Nat.reduceAdd]
 exact VA hF hM (hI.trans (hI3.trans hI4)) hX hO4 (fun I' u hI' hB=>hk I' u (hI3.trans (hI4.trans hI')) hB)
theorem Pj (hF:MF I VM m)(hM:MOk m N)(hk:∀I' u,Ext I I'→Bytes I' u (Av m)→K u I' (mL b s VM m R)):
  CT ω 79 #[pt b] K I (mL b s VM m R):=by
 have h1l:=KP hM;have hsl:=hM.marksL;have hs:=hM.span;simp only [DW,Bool.and_eq_true,decide_eq_true_eq] at hs;refine AOD ?_;unfold AKY;try simp only [SSd,Nat.reduceAdd]
 refine AV (fun w=>?_);try simp only [SSd,Nat.reduceAdd]
 refine rdP [VM.v0,VM.v1] rfl rfl ?_;refine call (Cal.perm (L':=(w,wrO (.slice none 0 0))::([]++mL b s VM m R)) (List.Perm.refl _) (UZ (Y:=[]) (l:=[]) (p:=m.span) (SlO.none _ 1) ⟨_,_,rfl,hF.f0,hF.f1⟩ (by simp) (by omega) (by omega) (fun Y1 v1 I1 hI1 hO1=>?_)));rw [List.nil_append] at hO1;have t1:=DJ (b:=m.span.fFrom) (by omega);have t2:=DJ (b:=m.span.fTo) (by omega);try simp only [SSd,Nat.reduceAdd]
 refine rdb ?_;refine QW (fun u2 I2 hI2 hU2=>?_);have n2:∀n∈[m.oldest],Dk n:=by simp [Eo hM.oldest]
 refine call (DT hO1 hU2 n2 (by simp only [List.length_append,List.length_cons,List.length_nil];omega) (fun Y3 v3 I3 hI3 hO3=>?_));have t3:=CC n2;try simp only [SSd,Nat.reduceAdd]
 refine rdP [.int .i64 m.low.fAt.fWall,.int .i64 m.low.fAt.fLogic] rfl rfl ?_;refine call (GP hO3 hM.low.right (by simp only [List.length_append,List.length_cons,List.length_nil] at t3 ⊢;omega) (fun Y4 v4 I4 hI4 hO4=>?_));have t4:=Gg hM.low.right;refine AZ ?_;try simp only [SSd,Nat.reduceAdd]
 refine Ah ?_;try simp only [SSd,Nat.reduceAdd]
 refine Ah ?_;refine ALI ?_;rw [hF.mks.sizeA hM.marks];refine AGa (fun u5 I5 hI5 hU5=>?_);have n5:∀n∈[m.low.fBy,(m.marks.length:Int)],Dk n:=by simp [Eo hM.low.by'];exact ⟨by omega,by omega⟩
 refine call (DT hO4 hU5 n5 (by simp only [List.length_append,List.length_cons,List.length_nil] at t3 ⊢;omega) (fun Y6 v6 I6 hI6 hO6=>?_));have t16:=hI1.trans (hI2.trans (hI3.trans (hI4.trans (hI5.trans hI6))));try simp only [SSd,Nat.reduceAdd]
 refine rdb ?_;refine call (AJl (fun qm=>?_));refine call (Qd hF.mks hM.marks (by omega) (.inl (by simp)) (fun X u hX=>?_));obtain ⟨ua,uc,rfl⟩:=hX.form;try simp only [SSd,Nat.reduceAdd]
 have hO0:OB Y6 v6 (Ji m):=hO6;clear hO6 hO4 hO3 hO1;refine loop (fun n (st:Value×Unit) I' L'=>Ext I I'∧∃(i:Nat) (Y:LH) (v:Value),n+i=m.marks.length∧st=(.int .i64 i,())∧L'=X++((w,wrO v)::(Y++mL b s VM m R))∧OB Y v (Ji m++(m.marks.take i).flatMap mkE)) m.marks.length ⟨t16,0,Y6,v6,rfl,rfl,rfl,by simpa using hO0⟩ ?_;rintro n st I' L' ⟨hI',i,Y,v,hni,rfl,rfl,hO⟩;unfold AAg;try simp only [SSd,Nat.reduceAdd]
 refine AC (fun e=>?_) (fun e=>?_)
 ·have hi:i < m.marks.length:=by simpa using e
  obtain ⟨bq,hix,hcq⟩:=hX.ix .i64 (i:=i) (by omega);have hcq1:=hcq I' (X++((w,wrO v)::(Y++mL b s VM m R))) (fun x hx=>List.mem_append_left _ hx) 0 (CY m.marks[i].1) (by simp [hi]);have hq:lkA m.marks m.marks[i].1=some m.marks[i].2:=FO Lj hM.marks (List.getElem_mem hi);have hlq:BK mv m.marks m.marks[i].1=some (mv m.marks[i].2):=by unfold BK;rw [hq];rfl
  obtain ⟨hk1,hk2⟩:=hM.mark m.marks[i] (List.getElem_mem hi);have hk1:=Dl hk1;have hsn:=take_snoc hi;have hfl:=Dy (f:=mkE) (c:=200) (l:=m.marks.take i) (fun x hx=>Rb hM x (List.mem_of_mem_take hx));rw [List.length_take] at hfl;generalize m.marks[i]=x at *;have nx:∀n∈[x.2.fBy],Dk n:=by simp [Eo hk2.by']
  have tx:=DJ (b:=x.1) (by omega);have ts:=Gg hk2.right;simp only [hix,SSd,Nat.reduceAdd];refine rd1 (by simpa using hcq1) ?_;try simp only [SSd,Nat.reduceAdd]
  refine rdb ?_;refine lkT hF.mks ?_;simp only [hlq,lkV,Bool.false_eq_true,if_false];refine AV (fun q=>?_);refine stB rfl rfl (AK rfl) ?_;refine ZX (fun vk J1 j1 hB1=>Gh.done ?_);refine call (Cal.perm (L':=(w,wrO v)::(Y++((q,.cells #[.int .i64 x.2.fAt.fWall,.int .i64 x.2.fAt.fLogic,.int .i64 x.2.fBy] 159 (0,0))::(X++mL b s VM m R)))) (AP (by ((try simp only [AM,AN,AY,AQ]);(try ac_rfl)))) (Ec hO hB1 (by simp only [List.length_append];omega) (by omega) (fun Y7 v7 J2 j2 hO7=>?_)));try simp only [SSd,Nat.reduceAdd]
  refine rdP [.int .i64 x.2.fAt.fWall,.int .i64 x.2.fAt.fLogic] rfl rfl ?_;refine call (GP hO7 hk2.right (by simp only [List.length_append];omega) (fun Y8 v8 J3 j3 hO8=>?_));try simp only [SSd,Nat.reduceAdd]
  refine rdb ?_;refine QW (fun u9 J4 j4 hU9=>?_);refine call (DT hO8 hU9 nx (by simp only [List.length_append,List.length_cons,List.length_nil];omega) (fun Y10 v10 J5 j5 hO10=>?_));try simp only [SSd,Nat.reduceAdd]
  rw [wrap_i64 _ (by omega)];refine Gh.to (X++((w,wrO v10)::(Y10++mL b s VM m R))) (Gh.done ⟨n - 1,by omega,hI'.trans (j1.trans (j2.trans (j3.trans (j4.trans j5)))),i+1,Y10,v10,by omega,rfl,rfl,?_⟩);have e5:Ji m++(m.marks.take (i+1)).flatMap mkE=Ji m++(m.marks.take i).flatMap mkE++DY x.1++Ed x.2.fAt++Bq [x.2.fBy]:=by
   rw [hsn,List.flatMap_append];simp [mkE]
  rw [e5];exact hO10
 ·have hi:i=m.marks.length:=by simp at e;omega
  rw [hi,List.take_length] at hO;exact VB hF hM hI' hO (fun I9 u9 hI9 hB=>hk I9 u9 (hI'.trans hI9) hB)
end
end Go.Proofs.YtmmfcgbfbcamcaaGreatDoor
namespace Go.Proofs
open Go.Shelf
def Tryz.lay31_ren:Go.Shelf.Ren:=⟨fun|6=>83|15=>138|14=>137|28=>202|29=>203|20=>194|21=>195|22=>196|23=>197|24=>198|25=>199|26=>200|27=>201|46=>237|47=>238|48=>239|49=>240|50=>241|57=>266|n=>n,fun|22=>90|24=>167|25=>170|3=>3|39=>219|0=>0|53=>275|55=>196|4=>4|46=>269|45=>268|50=>221|5=>5|9=>9|66=>310|70=>314|76=>332|77=>333|n=>n,fun|n=>n⟩
theorem Tryz.lay31:Go.Proofs.SlLaysF0.n6 Tryz.prog Tryz.lay31_ren:={
 mixed:=by kernel_rfl
 f6:=⟨Tryz.f83.name,by decide,Tryz.func83.trans (congrArg some (by kernel_rfl))⟩
 f14:=⟨Tryz.f137.name,by decide,Tryz.func137.trans (congrArg some (by kernel_rfl))⟩
 f15:=Tryz.func138.trans (congrArg some (by kernel_rfl))
 f20:=⟨Tryz.f194.name,by decide,Tryz.func194.trans (congrArg some (by kernel_rfl))⟩
 f21:=⟨Tryz.f195.name,by decide,Tryz.func195.trans (congrArg some (by kernel_rfl))⟩
 f22:=⟨Tryz.f196.name,by decide,Tryz.func196.trans (congrArg some (by kernel_rfl))⟩
 f23:=⟨Tryz.f197.name,by decide,Tryz.func197.trans (congrArg some (by kernel_rfl))⟩
 f24:=⟨Tryz.f198.name,by decide,Tryz.func198.trans (congrArg some (by kernel_rfl))⟩
 f25:=⟨Tryz.f199.name,by decide,Tryz.func199.trans (congrArg some (by kernel_rfl))⟩
 f26:=⟨Tryz.f200.name,by decide,Tryz.func200.trans (congrArg some (by kernel_rfl))⟩
 f27:=⟨Tryz.f201.name,by decide,Tryz.func201.trans (congrArg some (by kernel_rfl))⟩
 f28:=Tryz.func202.trans (congrArg some (by kernel_rfl))
 f29:=Tryz.func203.trans (congrArg some (by kernel_rfl))
 f46:=⟨Tryz.f237.name,by decide,Tryz.func237.trans (congrArg some (by kernel_rfl))⟩
 f47:=Tryz.func238.trans (congrArg some (by kernel_rfl))
 f48:=Tryz.func239.trans (congrArg some (by kernel_rfl))
 f49:=⟨Tryz.f240.name,by decide,Tryz.func240.trans (congrArg some (by kernel_rfl))⟩
 f50:=⟨Tryz.f241.name,by decide,Tryz.func241.trans (congrArg some (by kernel_rfl))⟩
 f57:=⟨Tryz.f266.name,by decide,Tryz.func266.trans (congrArg some (by kernel_rfl))⟩
 t0:=Tryz.underlying0
 a0:=Tryz.isAgg0
 z0:=Tryz.sizeOf0
 v0:=Tryz.zeroValue0
 t3:=Tryz.underlying3
 a3:=Tryz.isAgg3
 z3:=Tryz.sizeOf3
 v3:=Tryz.zeroValue3
 t4:=Tryz.underlying4
 a4:=Tryz.isAgg4
 z4:=Tryz.sizeOf4
 v4:=Tryz.zeroValue4
 t5:=Tryz.underlying5
 a5:=Tryz.isAgg5
 z5:=Tryz.sizeOf5
 v5:=Tryz.zeroValue5
 t9:=Tryz.underlying9
 a9:=Tryz.isAgg9
 z9:=Tryz.sizeOf9
 v9:=Tryz.zeroValue9
 t22:=Tryz.underlying90
 a22:=Tryz.isAgg90
 z22:=Tryz.sizeOf90
 v22:=Tryz.zeroValue90
 t25:=Tryz.underlying170
 a25:=Tryz.isAgg170
 z25:=Tryz.sizeOf170
 v25:=Tryz.zeroValue170
 t39:=Tryz.underlying219
 a39:=Tryz.isAgg219
 z39:=Tryz.sizeOf219
 v39:=Tryz.zeroValue219
 t45:=Tryz.underlying268
 a45:=Tryz.isAgg268
 z45:=Tryz.sizeOf268
 v45:=Tryz.zeroValue268
 t46:=Tryz.underlying269
 a46:=Tryz.isAgg269
 z46:=Tryz.sizeOf269
 v46:=Tryz.zeroValue269
 t50:=Tryz.underlying221
 a50:=Tryz.isAgg221
 z50:=Tryz.sizeOf221
 v50:=Tryz.zeroValue221
 t53:=Tryz.underlying275
 a53:=Tryz.isAgg275
 z53:=Tryz.sizeOf275
 v53:=Tryz.zeroValue275
 t55:=Tryz.underlying196
 a55:=Tryz.isAgg196
 z55:=Tryz.sizeOf196
 v55:=Tryz.zeroValue196
 t66:=Tryz.underlying310
 a66:=Tryz.isAgg310
 z66:=Tryz.sizeOf310
 v66:=Tryz.zeroValue310
 t70:=Tryz.underlying314
 a70:=Tryz.isAgg314
 z70:=Tryz.sizeOf314
 v70:=Tryz.zeroValue314
 t76:=Tryz.underlying332
 a76:=Tryz.isAgg332
 z76:=Tryz.sizeOf332
 v76:=Tryz.zeroValue332
 t77:=Tryz.underlying333
 a77:=Tryz.isAgg333
 z77:=Tryz.sizeOf333
 v77:=Tryz.zeroValue333}
def Tryz.lay33_ren:Go.Shelf.Ren:=⟨fun|106=>136|213=>193|265=>236|n=>n,fun|9=>9|3=>3|n=>n,fun|n=>n⟩
theorem Tryz.lay33:Go.Proofs.Lays.n106 Tryz.prog Tryz.lay33_ren:={
 mixed:=by kernel_rfl
 f106:=Tryz.func136.trans (congrArg some (by kernel_rfl))
 f213:=Tryz.func193.trans (congrArg some (by kernel_rfl))
 f265:=Tryz.func236.trans (congrArg some (by kernel_rfl))
 t3:=Tryz.underlying3
 a3:=Tryz.isAgg3
 z3:=Tryz.sizeOf3
 v3:=Tryz.zeroValue3
 t9:=Tryz.underlying9
 a9:=Tryz.isAgg9
 z9:=Tryz.sizeOf9
 v9:=Tryz.zeroValue9}
end Go.Proofs
namespace Go.Proofs.YtmmfcgbfbcamcaaGreatDoor
open Go.SL
section
variable {ω:Om}{I:Imm}{L:LH}{K:Value→M}
theorem WA {rows:List Row}{n:Nat}(h:Ae rows≤n):∀r∈rows,r.vs.length≤n:=fun r hr=>by
 have h1:Ae [r]≤Ae rows:=Ge (List.singleton_sublist.2 hr);simp [Ae] at h1 h ⊢;omega
theorem RL.monoI {α:Type}{R:Imm→α→List Value→Prop}{n:Nat}{I I':Imm}{v:Value}{xs:List α}(hR:∀x c,R I x c→R I' x c)(h:RL R n I [] v xs)(hI:Ext I I'):RL R n I' [] v xs:=h.mono hR hI (fun _ h=>h)
end
theorem Gm {A B:List Row}{r:Row}{k q:List UInt8}(hm:Mid A k B)(hk:r.key=k):Aj (A++r::B) q=if q=k then r.it else Aj (A++B) q:=by
 by_cases h:q=k
 ·subst h;rw [if_pos rfl,Gn hm hk]
 ·rw [if_neg h];unfold Aj rowOf;rw [List.find?_append,List.find?_append,List.find?_cons_of_neg (by simp [hk];exact fun e=>h e.symm)]
def IC (l:List TKV):Prop:=l.Pairwise fun a b=>blt a.fKey b.fKey=true
def NE:List UInt8→Option (List UInt8×List UInt8)
 |[]=>none
 |c::r=>if c=0 then (match r with
  |[]=>none
  |d::r'=>if d=1 then some ([],r') else if d=255 then (NE r').map fun p=>(0::p.1,p.2) else none) else (NE r).map fun p=>(c::p.1,p.2)
theorem ND:∀(k r:List UInt8),NE (ktF k++r)=some (k,r)
 |[],r=>by simp [ktF,esc,NE]
 |c::k,r=>by
  have ih:=ND k r;have e:ktF (c::k)++r=(if c=0 then [0,255] else [c])++(ktF k++r):=by simp [ktF,esc]
  rw [e];by_cases h:c=0
  ·subst h;simp [NE,ih]
  ·rw [if_neg h];show NE (c::(ktF k++r))=_;unfold NE;rw [if_neg h,ih];rfl
theorem AIw {k k' a a':List UInt8}(h:ktF k++a=ktF k'++a'):k=k'∧a=a':=by
 have h1:=ND k a;rw [h,ND] at h1;simp only [Option.some.injEq,Prod.mk.injEq] at h1;exact ⟨h1.1.symm,h1.2.symm⟩
def unB (l:List UInt8):Int:=l.foldl (fun n b=>n * 256+(b.toNat:Int)) 0
def ANQ (l:List UInt8):TStamp:=⟨unB (l.take 7),unB (l.drop 7)⟩
theorem Oa (n:Int):((byteOf n).toNat:Int)=n % 256:=by
 unfold byteOf;have h1:=Int.emod_nonneg n (show (256:Int)≠0 by decide);have h2:=Int.emod_lt_of_pos n (show (0:Int) < 256 by decide);simp only [UInt8.toNat_ofNat'];omega
theorem JU {s:TStamp}(h:AU s=true):ANQ (stF s)=s:=by
 obtain ⟨⟨h1,h2⟩,h3,h4⟩:=Db h;obtain ⟨w,g⟩:=s;simp only at h1 h2 h3 h4
 have e1:unB (Ih w 7)=w:=by
  have e:Ih w 7=[wb w 48,wb w 40,wb w 32,wb w 24,wb w 16,wb w 8,wb w 0]:=rfl;rw [e];simp only [unB,List.foldl_cons,List.foldl_nil,wb,Oa];simp only [Int.fdiv_eq_ediv_of_nonneg _ (show (0:Int)≤2 ^ 48 by decide),Int.fdiv_eq_ediv_of_nonneg _ (show (0:Int)≤2 ^ 40 by decide),Int.fdiv_eq_ediv_of_nonneg _ (show (0:Int)≤2 ^ 32 by decide),Int.fdiv_eq_ediv_of_nonneg _ (show (0:Int)≤2 ^ 24 by decide),Int.fdiv_eq_ediv_of_nonneg _ (show (0:Int)≤2 ^ 16 by decide),Int.fdiv_eq_ediv_of_nonneg _ (show (0:Int)≤2 ^ 8 by decide),Int.fdiv_eq_ediv_of_nonneg _ (show (0:Int)≤2 ^ 0 by decide)];omega
 have e2:unB [wb g 8,byteOf g]=g:=by
  simp only [unB,List.foldl_cons,List.foldl_nil,wb,Oa];simp only [Int.fdiv_eq_ediv_of_nonneg _ (show (0:Int)≤2 ^ 8 by decide)];omega
 have e3:(Ih w 7).length=7:=rfl;unfold ANQ stF;rw [List.take_left' e3,List.drop_left' e3,e1,e2]
theorem AGz {a b:TStamp}(ha:AU a=true)(hb:AU b=true)(h:stF a=stF b):a=b:=by rw [←JU ha,←JU hb,h]
theorem Gy (a:TStamp):(stF a).length=9:=rfl
theorem MX {k k':List UInt8}{v v':TVer}(ha:AU v.fAt=true)(hb:AU v'.fAt=true)(h:Ag k v=Ag k' v'):k=k'∧v.fAt=v'.fAt:=by
 unfold Ag at h;obtain ⟨h1,h2⟩:=AIw (List.cons.inj h).2;exact ⟨h1,AGz ha hb h2⟩
def CP (sp:Sp)(q t:List UInt8):Prop:=(q=[102]∧sp.floor≠z0∧t=stF sp.floor)∨(∃k,q=105::k∧BP (Aj sp.rows k)=(false,t))∨(∃k v,q=Ag k v∧v∈Ak sp.rows k∧t=Af v)
def UU (q:List UInt8):Prop:=1≤q.length∧q.length≤250
def Cur (sp:Sp)(nt:Nts)(q:List UInt8):Prop:=UU q∧((nt q=some (true,[])∧∀t,¬CP sp q t)∨∃t,nt q=some (false,t)∧CP sp q t)
def NStep (sp:Sp)(nt:Nts)(sp':Sp)(nt':Nts):Prop:=∀q,(nt' q=nt q∧∀t,CP sp' q t↔CP sp q t)∨Cur sp' nt' q
def Noted (base:List UInt8→List UInt8→Prop)(sp:Sp)(nt:Nts):Prop:=∀q,Cur sp nt q∨(nt q=none∧∀t,CP sp q t↔base q t)
theorem Noted.step {base:List UInt8→List UInt8→Prop}{sp sp':Sp}{nt nt':Nts}(h:Noted base sp nt)(hs:NStep sp nt sp' nt'):Noted base sp' nt':=by
 intro q;rcases hs q with ⟨h1,h2⟩|h1
 ·rcases h q with ⟨h3,h4⟩|⟨h3,h4⟩
  ·refine .inl ⟨h3,?_⟩;rcases h4 with ⟨h4,h5⟩|⟨t,h4,h5⟩
   ·exact .inl ⟨by rw [h1,h4],fun t ht=>h5 t ((h2 t).1 ht)⟩
   ·exact .inr ⟨t,by rw [h1,h4],(h2 t).2 h5⟩
  ·exact .inr ⟨by rw [h1,h3],fun t=>(h2 t).trans (h4 t)⟩
 ·exact .inl h1
theorem NStep.refl (sp:Sp)(nt:Nts):NStep sp nt sp nt:=fun q=>.inl ⟨rfl,fun _=>Iff.rfl⟩
theorem Jn {k:List UInt8}(h:Ap k=true):UU (105::k):=by
 have:=Dl h;simp only [UU,List.length_cons];omega
theorem MI {k:List UInt8}(h:Ap k=true)(v:TVer):UU (Ag k v):=by
 have h1:=Dl h;have h2:=GX k;have h3:=List.count_le_length (a:=(0:UInt8)) (l:=k);simp only [UU,Ag,ktF,List.length_cons,List.length_append,Gy,List.length_nil];omega
theorem Bd (nt:Nts)(k:List UInt8)(x:Bool×List UInt8):CO nt k x k=some x:=by simp [CO]
theorem CN (nt:Nts){k q:List UInt8}(x:Bool×List UInt8)(h:q≠k):CO nt k x q=nt q:=by simp [CO,h]
theorem AEd {vs:List TVer}(h:vs.Pairwise fun a b=>bhd b.fAt a.fAt=true){v w:TVer}(hv:v∈vs)(hw:w∈vs)(e:v.fAt=w.fAt):v=w:=by
 induction vs with
 |nil=>cases hv
 |cons x vs ih=>
  obtain ⟨h1,h2⟩:=List.pairwise_cons.1 h;rcases List.mem_cons.1 hv with e1|hv2
  ·rcases List.mem_cons.1 hw with e2|hw2
   ·rw [e1,e2]
   ·have:=h1 w hw2;rw [←e1,e,YI] at this;cases this
  ·rcases List.mem_cons.1 hw with e2|hw2
   ·have:=h1 v hv2;rw [←e2,e,YI] at this;cases this
   ·exact ih h2 hv2 hw2
theorem QH {sp:Sp}(hok:SpOk sp){q t t':List UInt8}(h:CP sp q t)(h':CP sp q t'):t=t':=by
 rcases h with ⟨h1,_,h2⟩|⟨k,h1,h2⟩|⟨k,v,h1,h2,h3⟩
 ·rcases h' with ⟨_,_,g2⟩|⟨k',g1,_⟩|⟨k',v',g1,_⟩
  ·rw [h2,g2]
  ·rw [h1] at g1;simp at g1
  ·rw [h1] at g1;simp [Ag] at g1
 ·rcases h' with ⟨g1,_⟩|⟨k',g1,g2⟩|⟨k',v',g1,_⟩
  ·rw [h1] at g1;simp at g1
  ·rw [h1] at g1;have:k=k':=by simpa using g1
   subst this;rw [h2] at g2;simpa using g2
  ·rw [h1] at g1;simp [Ag] at g1
 ·rcases h' with ⟨g1,_⟩|⟨k',g1,_⟩|⟨k',v',g1,g2,g3⟩
  ·rw [h1] at g1;simp [Ag] at g1
  ·rw [h1] at g1;simp [Ag] at g1
  ·rw [h1] at g1;obtain ⟨e1,e2⟩:=MX (((DR hok k).2 v h2).right) (((DR hok k').2 v' g2).right) g1;subst e1;rw [h3,g3,AEd (DR hok k).1 h2 g2 e2]
structure TookOk (nt:Nts)(ops:List TOp):Prop where
 mem:∀y∈ops,nt y.fKey=some (y.fDel,y.fValue)
 all:∀q d t,nt q=some (d,t)→(⟨d,q,t⟩:TOp)∈ops
 rise:ops.Pairwise fun a b=>blt a.fKey b.fKey=true
theorem QZ:∀(l:List UInt8) (n:Int),l.foldl (fun n b=>n * 256+(b.toNat:Int)) n=n * 256 ^ l.length+unB l
 |[],n=>by simp [unB]
 |c::l,n=>by
  have e:unB (c::l)=(c.toNat:Int) * 256 ^ l.length+unB l:=by
   show l.foldl (fun n b=>n * 256+(b.toNat:Int)) (0 * 256+(c.toNat:Int))=_;rw [QZ l];simp
  rw [List.foldl_cons,QZ l,e,List.length_cons,Int.pow_succ,Int.add_mul,Int.mul_assoc,Int.mul_comm 256,←Int.add_assoc]
theorem NA (c:UInt8)(l:List UInt8):unB (c::l)=(c.toNat:Int) * 256 ^ l.length+unB l:=by
 show l.foldl (fun n b=>n * 256+(b.toNat:Int)) (0 * 256+(c.toNat:Int))=_;rw [QZ l];simp
theorem NB (l l':List UInt8):unB (l++l')=unB l * 256 ^ l'.length+unB l':=by
 unfold unB;rw [List.foldl_append,QZ];rfl
theorem Gf:∀l:List UInt8,0≤unB l∧unB l < 256 ^ l.length
 |[]=>by simp [unB]
 |c::l=>by
  obtain ⟨h1,h2⟩:=Gf l;rw [NA,List.length_cons,Int.pow_succ];have hc:(c.toNat:Int)≤255:=by have:=c.toNat_lt;omega
  have hp:(0:Int)≤256 ^ l.length:=by omega
  have h3:=Int.mul_le_mul_of_nonneg_right hc hp;have h4:=Int.mul_nonneg (Int.natCast_nonneg c.toNat) hp;omega
theorem YF:∀{l l':List UInt8},l.length=l'.length→unB l < unB l'→blt l l'=true
 |[],[],_,h=>by simp at h
 |[],_::_,h,_=>by simp at h
 |_::_,[],h,_=>by simp at h
 |c::l,d::l',hl,h=>by
  have hl':l.length=l'.length:=by simpa using hl
  rw [NA,NA,hl'] at h;obtain ⟨a1,a2⟩:=Gf l;obtain ⟨b1,b2⟩:=Gf l';have hp:(0:Int)≤256 ^ l'.length:=by omega
  simp only [Op.bytesLess,Bool.or_eq_true,Bool.and_eq_true,decide_eq_true_eq,beq_iff_eq,UInt8.lt_iff_toNat_lt];rcases Nat.lt_trichotomy c.toNat d.toNat with e|e|e
  ·exact .inl e
  ·refine .inr ⟨UInt8.toNat_inj.1 e,YF hl' ?_⟩;rw [e] at h;omega
  ·have h3:=Int.mul_le_mul_of_nonneg_right (show (d.toNat:Int)+1≤c.toNat by omega) hp;rw [Int.add_mul] at h3;omega
theorem AAS {s:TStamp}(h:AU s=true):unB (stF s)=s.fWall * 65536+s.fLogic:=by
 have e:=JU h;have e1:unB ((stF s).take 7)=s.fWall:=congrArg TStamp.fWall e;have e2:unB ((stF s).drop 7)=s.fLogic:=congrArg TStamp.fLogic e;conv=>lhs;rw [←List.take_append_drop 7 (stF s)]
 rw [NB,e1,e2];rfl
theorem AGy {a b:TStamp}(ha:AU a=true)(hb:AU b=true)(h:bhd b a=true):blt (stF a) (stF b)=true:=by
 refine YF rfl ?_;rw [AAS ha,AAS hb];obtain ⟨_,h3,h4⟩:=Db ha;obtain ⟨_,g3,g4⟩:=Db hb;simp [bhd] at h;omega
theorem UA:∀(p a b:List UInt8),blt (p++a) (p++b)=blt a b
 |[],a,b=>rfl
 |c::p,a,b=>by
  show blt (c::(p++a)) (c::(p++b))=_;have:=UA p a b;simp only [Op.bytesLess] at this ⊢;simp [this]
theorem ID {k:List UInt8}{v w:TVer}(hv:AU v.fAt=true)(hw:AU w.fAt=true)(h:bhd w.fAt v.fAt=true):blt (Ag k v) (Ag k w)=true:=by
 have:=UA (118::ktF k) (stF v.fAt) (stF w.fAt);unfold Ag;simp only [List.cons_append] at this;rw [this];exact AGy hv hw h
def Slot (A:List Row)(k:List UInt8)(B:List Row)(r:Row)(rows:List Row):Prop:=Mid A k B∧r.key=k∧(rows=A++r::B∨(rows=A++B∧r=⟨k,[],noIt⟩))
section
variable {ω:Om}{I:Imm}{L:LH}{K:Value→M}
theorem Slot.len {A B:List Row}{k:List UInt8}{r r':Row}{rows:List Row}(h:Slot A k B r rows):(A++r'::B).length≤rows.length+1:=by
 obtain ⟨_,_,rfl|⟨rfl,_⟩⟩:=h <;> simp <;> omega
end
def NtFin (nt:Nts)(N:Nat):Prop:=∃Q:List (List UInt8),Q.length≤N∧∀q,nt q≠none→q∈Q
theorem NtFin.upd {nt:Nts}{N:Nat}(h:NtFin nt N)(k:List UInt8)(x:Bool×List UInt8):NtFin (CO nt k x) (N+1):=by
 obtain ⟨Q,h1,h2⟩:=h;refine ⟨k::Q,by simp;omega,fun q hq=>?_⟩;by_cases e:q=k
 ·rw [e];exact List.mem_cons_self ..
 ·rw [CN _ _ e] at hq;exact List.mem_cons_of_mem _ (h2 q hq)
theorem NtFin.more {nt:Nts}{N M:Nat}(h:NtFin nt N)(hm:N≤M):NtFin nt M:=by
 obtain ⟨Q,h1,h2⟩:=h;exact ⟨Q,by omega,h2⟩
theorem KW:∀{l Q:List (List UInt8)},l.Nodup→(∀x∈l,x∈Q)→l.length≤Q.length
 |[],_,_,_=>by simp
 |x::l,Q,hn,h=>by
  obtain ⟨h1,h2⟩:=List.nodup_cons.1 hn;have hx:=h x (List.mem_cons_self ..);have ih:=KW (Q:=Q.erase x) h2 fun y hy=>(List.mem_erase_of_ne (show y≠x from fun e=>h1 (by rw [←e];exact hy))).2 (h y (List.mem_cons_of_mem _ hy));rw [List.length_erase_of_mem hx] at ih;have:=List.length_pos_of_mem hx;simp only [List.length_cons];omega
theorem JY {nt:Nts}{ops:List TOp}{N:Nat}(h:TookOk nt ops)(hN:NtFin nt N):ops.length≤N:=by
 obtain ⟨Q,h1,h2⟩:=hN;have:=KW (l:=ops.map (·.fKey)) (Q:=Q) (List.pairwise_map.2 (h.rise.imp fun hb=>HQ hb)) (fun q hq=>by
  obtain ⟨y,hy,rfl⟩:=List.mem_map.1 hq;exact h2 _ (by rw [h.mem y hy];simp))
 rw [List.length_map] at this;omega
theorem noted0:Noted (fun q t=>(⟨q,t⟩:TKV)∈([]:List TKV)) sp0 nt0:=fun q=>.inr ⟨rfl,fun t=>⟨fun hq=>(by
 rcases hq with ⟨_,h2,_⟩|⟨k,_,h2⟩|⟨k,w,_,h2,_⟩
 ·exact absurd rfl h2
 ·cases h2
 ·cases h2),fun hq=>(by cases hq)⟩⟩
theorem UB (a b:UInt8)(x y:List UInt8):blt (a::x) (b::y)=(decide (a < b)||(a==b&&blt x y)):=rfl
theorem QR:∀a b:List UInt8,Lib.compareBytes a b=EY a b
 |[],[]=>by simp [Lib.compareBytes,EY,BQ]
 |[],_::_=>rfl
 |_::_,[]=>rfl
 |a::p,b::q=>by
  have ih:=QR p q;unfold Lib.compareBytes;rw [ih];unfold EY;simp only [UB];by_cases h1:a < b
  ·simp [h1]
  ·by_cases h2:b < a
   ·have:a≠b:=fun e=>by subst e;exact h1 h2
    simp [h1,h2,this.symm,this]
   ·have:a=b:=UInt8.le_antisymm (UInt8.not_lt.1 h2) (UInt8.not_lt.1 h1);subst this;simp
theorem GM {a b:List UInt8}:EY a b < 0↔blt a b=true:=by
 unfold EY;cases h:blt a b <;> cases h2:blt b a <;> simp [h,h2]
theorem bcmp_nlt {a b:List UInt8}:¬EY a b < 0↔blt a b=false:=by rw [GM];simp
theorem JL {a b c:List UInt8}(h1:blt a b=false)(h2:blt b c=false):blt a c=false:=by
 cases h:blt a c with
 |false=>rfl
 |true=>
  cases h3:blt b a with
  |true=>rw [Bj h3 h] at h2;cases h2
  |false=>rw [Dn a b h1 h3] at h;rw [h] at h2;cases h2
section
variable {ω:Om}{I:Imm}{L:LH}{K:Value→M}
theorem Ru {a b:List UInt8}(hk:K (.int .i64 (EY a b)) I L):CT ω 136 #[BR a,BR b] K I L:=fun w hs=>by
 have h:=Go.Proofs.Any.strings_Compare Go.Proofs.Tryz.lay33 ⟨a.toArray⟩ ⟨b.toArray⟩ w;refine Calls.mono h ?_;rintro e w' ⟨rfl,rfl⟩;refine ⟨_,I,L,rfl,hs,?_⟩;simp only [QR];exact hk
theorem JZ {x y:TOp}{c d:List Value}(hx:TOpV I x c)(hy:TOpV I y d)(hk:K (.int .i64 (EY x.fKey y.fKey)) I L):CT ω 135 #[.agg c.toArray,.agg d.toArray] K I L:=by
 obtain ⟨k0,v0,rfl,hk0,_⟩:=hx;obtain ⟨k1,v1,rfl,hk1,_⟩:=hy;refine AMr ?_;unfold ADJ;refine AV (fun b1=>AV (fun b2=>?_));try simp only [SSd,Nat.reduceAdd]
 refine rdb ?_;refine Gq hk0 (Ext.refl _) ?_;try simp only [SSd,Nat.reduceAdd]
 refine rdb ?_;refine Gq hk1 (Ext.refl _) ?_;refine call (Ru ?_);exact Gh.to L (Gh.done hk)
end
def HD (nt:Nts)(e:MapEntry):TOp:=match nt (Au e) with
 |some (d,l)=>⟨d,Au e,l⟩
 |none=>default
theorem Jm {I:Imm}{mm:List UInt8→Option Value}{nt:Nts}{es:Array MapEntry}{clock:Nat}(hn:NotesR I mm nt)(hm:MapS es clock mm){e:MapEntry}(he:e∈es.toList):
  ∃d l kv v,nt (Au e)=some (d,l)∧e.val= .agg #[.bool d,kv,v]∧HD nt e=⟨d,Au e,l⟩∧TOpV I (HD nt e) [.bool d,kv,v]:=by
 rcases hn (Au e) with ⟨_,h⟩|⟨d,l,kv,v,h1,h2,h3,h4⟩
 ·rw [GE hm he] at h;cases h
 ·rw [GE hm he] at h2;have e1:HD nt e=⟨d,Au e,l⟩:=by unfold HD;rw [h1]
  exact ⟨d,l,kv,v,h1,Option.some.inj h2,e1,by rw [e1];exact ⟨kv,v,rfl,h3,h4⟩⟩
theorem AEc {I:Imm}{mm:List UInt8→Option Value}{nt:Nts}{es:Array MapEntry}{clock:Nat}(hn:NotesR I mm nt)(hm:MapS es clock mm){e:MapEntry}(he:e∈es.toList):(HD nt e).fKey=Au e:=by
 obtain ⟨d,l,kv,v,_,_,h,_⟩:=Jm hn hm he;rw [h]
theorem WG {I:Imm}{mm:List UInt8→Option Value}{nt:Nts}{es:Array MapEntry}{clock:Nat}(hn:NotesR I mm nt)(hm:MapS es clock mm){vis:List MapEntry}(hv:vis.Perm es.toList){ops:List TOp}(hp:ops.Perm (vis.map (HD nt)))
  (hs:ops.Pairwise fun a b=>¬EY b.fKey a.fKey < 0):TookOk nt ops:=by
 have hmem:∀y,y∈ops↔∃e∈es.toList,HD nt e=y:=fun y=>by
  rw [hp.mem_iff,List.mem_map];exact ⟨fun ⟨e,h1,h2⟩=>⟨e,hv.mem_iff.1 h1,h2⟩,fun ⟨e,h1,h2⟩=>⟨e,hv.mem_iff.2 h1,h2⟩⟩
 have hnd:(ops.map (·.fKey)).Nodup:=by
  rw [(hp.map _).nodup_iff,List.map_map,((hv.map _).nodup_iff)];have e1:es.toList.map ((fun x:TOp=>x.fKey) ∘ HD nt)=es.toList.map Au:=List.map_congr_left fun e he=>AEc hn hm he;rw [e1];exact hm.nod
 refine ⟨fun y hy=>?_,fun q d t h=>?_,?_⟩
 ·obtain ⟨e,he,rfl⟩:=(hmem y).1 hy;obtain ⟨d,l,kv,v,h1,_,h3,_⟩:=Jm hn hm he;rw [h3];exact h1
 ·rcases hn q with ⟨h1,_⟩|⟨d',l',kv,v,h1,h2,_,_⟩
  ·rw [h] at h1;cases h1
  ·obtain ⟨e,he,hk,_⟩:=IP hm h2;rw [hmem];refine ⟨e,he,?_⟩;unfold HD;rw [hk,h]
 ·have h1:ops.Pairwise fun a b=>a.fKey≠b.fKey:=List.pairwise_map.1 hnd;refine (hs.and h1).imp fun {a b} h=>?_;have h2:=bcmp_nlt.1 h.1;cases h3:blt a.fKey b.fKey with
  |true=>rfl
  |false=>exact absurd (Dn _ _ h3 h2) h.2
theorem OR:∀{a c:List MapEntry},a.Nodup→(∀x∈a,x∈c)→a.length≤c.length
 |[],c,_,_=>by simp
 |x::a,c,hn,hs=>by
  obtain ⟨C1,C2,rfl⟩:=List.append_of_mem (hs x (List.mem_cons_self ..));have:=OR (a:=a) (c:=C1++C2) (List.nodup_cons.1 hn).2 (fun y hy=>by
   have h1:=hs y (List.mem_cons_of_mem _ hy);simp only [List.mem_append,List.mem_cons] at h1 ⊢;rcases h1 with h1|rfl|h1
   ·exact .inl h1
   ·exact absurd hy (List.nodup_cons.1 hn).1
   ·exact .inr h1)
  simp only [List.length_append,List.length_cons] at this ⊢;omega
theorem Ro {mm:List UInt8→Option Value}{I:Imm}{nt:Nts}{es:Array MapEntry}{clock N:Nat}(hn:NotesR I mm nt)(hm:MapS es clock mm)(hN:NtFin nt N):es.toList.length≤N:=by
 obtain ⟨Q,h1,h2⟩:=hN;have:=KW (l:=es.toList.map Au) (Q:=Q) hm.nod (fun q hq=>by
  obtain ⟨e,he,rfl⟩:=List.mem_map.1 hq;obtain ⟨d,l,kv,v,h3,_⟩:=Jm hn hm he;exact h2 _ (by rw [h3];simp))
 rw [List.length_map] at this;omega
section
variable {ω:Om}{I:Imm}{L:LH}{K:Value→M}
theorem Yc {yv:Value}{qm m:Nat}{es:Array MapEntry}{clock:Nat}{mm:Key→Option Value}(J:List MapEntry→M)(hm:MapS es clock mm)
  (hJ:∀vis I' L',J vis I' L'→Cell I' L' qm 0 (.map (some m))∧MapAt I' L' m es clock) (hval:∀e∈es.toList,∃d kv v,e.val= .agg #[.bool d,kv,v]∧kv.oneCell'=true∧v.oneCell'=true)
  (hstep:∀vis e b I' L',J vis I' L'→e∈es.toList→It es (vis++[e])→∀bv,CW ω yv #[e.val] (fun v=>Gh fun I2 L2=>v= .bool true∧∃L3,L2=(b,BX m clock (vis++[e]))::L3∧J (vis++[e]) I2 L3) I' ((bv,.cells e.val.cells 167 (0,0))::(b,BX m clock (vis++[e]))::L'))
  (h0:J [] I L) (hk:∀vis I' L',vis.Perm es.toList→J vis I' L'→K (.tuple #[]) I' L'):
  CT ω 192 #[yv,pt qm] K I L:=by
 obtain ⟨hc,hmp⟩:=hJ _ _ _ h0;refine AMJ ?_;unfold ACE;refine rdC hc (Ext.refl _) ?_;refine Yq hmp (fun b=>?_);refine Gh.done ?_;refine loop (fun n s I' L'=>∃vis L3,It es vis∧n+vis.length=es.toList.length∧L'=(b,BX m clock vis)::L3∧J vis I' L3) es.toList.length ⟨[],L,It.none es,rfl,rfl,h0⟩ ?_;rintro n s I' L' ⟨vis,L3,hi,hn,rfl,hJ3⟩;unfold Wp;obtain ⟨hc3,hmp3⟩:=hJ _ _ _ hJ3;refine AKz hm hmp3 hi (fun hp=>Gh.done ?_) (fun e he hi'=>Gh.done ?_)
 ·try simp only [SSd,Nat.reduceAdd]
  exact Gh.to L3 (Gh.done (hk vis I' L3 hp hJ3))
 ·have hlen:vis.length+1≤es.toList.length:=by
   have:=OR (BG hi'.nod) hi'.sub;simpa using this
  try simp only [SSd,Nat.reduceAdd]
  refine ⟨_,AJG hm hmp3 he,?_⟩;obtain ⟨d,kv,v,hev,h1,h2⟩:=hval e he;have hev2:e.val.cells=#[.bool d,kv,v]:=by rw [hev];rfl
  have hs:=hstep vis e b I' L3 hJ3 he hi';rw [hev2] at hs;try simp only [SSd,Nat.reduceAdd]
  refine AV (fun bv=>?_);rw [hev] at hs ⊢;refine stB rfl rfl (fun u hu=>?_) ?_
  ·simp only [List.mem_cons,List.not_mem_nil,or_false] at hu;rcases hu with rfl|rfl|rfl
   ·rfl
   ·exact h1
   ·exact h2
  refine rdB rfl ?_;refine CalV.mono (hs bv) (fun v2 I2 L2 hv2=>Gh.mono hv2 ?_);rintro I3 L3' ⟨rfl,L4,rfl,hJ4⟩;simp only [Bool.not_true,SSd,Nat.reduceAdd];exact (Gh.done ⟨n - 1,by omega,_,L4,hi',by rw [List.length_append,List.length_singleton];omega,rfl,hJ4⟩)
theorem AIV {qm:Nat}{B:Value→RB}{Kn:Nat→M}{Xs:Nat→List (Nat×M)}{Rr:Nat→M}
  (h:∀(l D:Nat) (Lo:LoF),(∀a K' I' L',AJY l Lo (B a) K' I' L'→CW ω (.func (.yield l) #[] #[]) #[a] K' I' L')→
   CT ω 192 #[.func (.yield l) #[] #[],pt qm] (fun _=>Gh (UW l Lo (LP (Kn D) (Xs D) (Rr D)))) I ((l,Lo .ready none)::(D,.deferred (some []))::L)):
  KC Tryz.prog ω (.func (.func 192) #[] #[pt qm]) B Kn Xs Rr I L:=by
 unfold KC PG;simp only
 rw [if_pos (show Bh Tryz.prog 192=true by kernel_rfl)];intro l D Lo _ hy;exact h l D Lo (fun a K' I' L' hh=>hy [a] K' I' L' rfl hh)
theorem QO {qm m:Nat}{es:Array MapEntry}{clock N:Nat}{mm:Key→Option Value}{nt:Nts}(hm:MapS es clock mm)(hn:NotesR I mm nt)(hN:NtFin nt N)(hNl:N≤1000000)
  (hc:Cell I L qm 0 (.map (some m))) (hmp:MapAt I L m es clock)
  (hk:∀(X:LH) (v:Value) (vis:List MapEntry) (cells:List Value),vis.Perm es.toList→SlO 167 3 X v cells vis.length→Recs (TOpV I) 3 (vis.map (HD nt)) cells→K v I (X++L)):
  CT ω 133 #[.func (.func 192) #[] #[pt qm]] K I L:=by
 have hle:=Ro hn hm hN;refine AMs ?_;unfold ADM;refine call ?_;refine AMK ?_;unfold ACG;refine AV (fun bs=>?_);refine AIV (fun l D Lo hy=>?_);refine Yc (qm:=qm) (m:=m) (es:=es) (clock:=clock) (mm:=mm) (L:=(l,Lo .ready none)::(D,.deferred (some []))::(bs,.cells #[.slice none 0 0] 90 (0,0))::L)
  (fun vis I' L'=>I'=I∧∃XO vo cells,SlO 167 3 XO vo cells vis.length∧Recs (TOpV I) 3 (vis.map (HD nt)) cells∧vis.length≤es.toList.length∧L'=(l,Lo .ready none)::(D,.deferred (some []))::(bs,.cells #[vo] 90 (0,0))::(XO++L)) hm ?_ ?_ ?_ ?_ ?_
 ·rintro vis I' L' ⟨rfl,XO,vo,cells,_,_,_,rfl⟩;exact ⟨hc.mono (Ext.refl _) (fun x hx=>by simp [hx]),MapAt.mono hmp (Ext.refl _) (fun x hx=>by simp [hx])⟩
 ·intro e he;obtain ⟨d,l,kv,v,_,h2,_,h4⟩:=Jm hn hm he;have h5:=h4.one;exact ⟨d,kv,v,h2,h5 kv (by simp),h5 v (by simp)⟩
 ·rintro vis e b I' L' ⟨rfl,XO,vo,cells,hO,hR,hlv,rfl⟩ he hi' bv;obtain ⟨d,l2,kv,v,h1,h2,h3,h4⟩:=Jm hn hm he;have hlen:vis.length+1≤es.toList.length:=by
   have:=OR (BG hi'.nod) hi'.sub;simpa using this
  refine hy _ _ _ _ (UY ?_);have h2c:e.val.cells=#[.bool d,kv,v]:=by rw [h2];rfl
  rw [h2c,h2];refine AV (fun b2=>?_);refine stB rfl rfl h4.one ?_;refine Vs ?_;refine rdb ?_;refine rdB rfl ?_;obtain ⟨va,vc,rfl⟩:=hO.form;refine HB (R:=TOpV) (X6:=XO) (x:=HD nt e) (xs:=vis.map (HD nt)) (cells:=cells) rfl (by omega) (by simpa using hO) hR h4 rfl h4.one (by simp;omega) (by simp;omega) (fun X1 X6 v6 cells6 h6 hR6=>?_);obtain ⟨a6,c6,rfl⟩:=h6.form;refine st1 rfl ?_;refine Rq ?_;refine Gh.to ((b,BX m clock (vis++[e]))::(l,Lo .ready none)::(D,.deferred (some []))::(bs,.cells #[.slice a6 (vis.map (HD nt)++[HD nt e]).length c6] 90 (0,0))::(X6++L)) (Gh.done ⟨rfl,_,rfl,rfl,X6,_,cells6,?_,?_,?_,rfl⟩)
  ·simpa using h6
  ·simpa using hR6
  ·simpa using hlen
 ·exact ⟨rfl,[],_,[],SlO.none _ _,rfl,Nat.zero_le _,rfl⟩
 ·rintro vis I' L' hp ⟨rfl,XO,vo,cells,hO,hR,hlv,rfl⟩;refine Gh.done (Rt (s:=.ready) (j:=none) (by simp) ?_);show Qn ω (pt bs) (.slice none 0 0) D _ _ _;unfold Qn;refine rdb ?_;refine tak ?_;exact Gh.to (XO++L) (Gh.done (Gh.done (hk XO vo vis cells hp hO hR)))
theorem take0 {b m ch N:Nat}{kv:Value}{fl:TStamp}{X F:LH}{nt:Nts}(hNR:NoteR I b m ch kv fl X nt)(hN:NtFin nt N)(hNl:N≤1000000)
  (hk:∀X' I' v ops ch',Ext I I'→NoteR I' b m ch' kv fl X' nt0→TookOk nt ops→RL TOpV 3 I' [] v ops→K v I' (X'++F)):CT ω 81 #[pt b] K I (X++F):=by
 obtain ⟨NX,hp,hNt⟩:=hNR;obtain ⟨ces,cclock,mm,rfl,hm,hn⟩:=hNt;refine Cal.perm (L':=(b,spO m kv fl ch)::(ch,.map ces cclock)::F) (AP (by rw [AN,BA hp];((try simp only [AM,AN,AY,AQ]);(try ac_rfl)))) ?_;refine AJu ?_;unfold AHV;try simp only [SSd,Nat.reduceAdd]
 refine rdb ?_;refine call ?_;refine AFh ?_;unfold XG;refine AV (fun qm=>?_);refine Gh.done ?_;refine call (QO hm hn hN (by omega) (Cell.own (b:=qm) (cs:=#[.map (some ch)]) (T:=176) (fr:=(0,0)) (List.mem_cons_self ..) rfl) (.inl (by simp)) (fun XO vo vis cells hp2 hO hR=>?_));have hle:=Ro hn hm hN;have hvl:vis.length=ces.toList.length:=hp2.length_eq;refine call ?_;have hO':SlO 167 3 XO vo cells (vis.map (HD nt)).length:=by simpa using hO
 refine KL Go.Proofs.Tryz.lay31 (ω:=ω) (K:=_) (k:=3) (R:=TOpV) (cf:=fun x y=>EY x.fKey y.fKey) (g:=135) Tryz.isAgg167 Tryz.sizeOf167 (fun I x c h=>h.len) (fun I x c h=>h.one) (fun x=>by rw [GM,BQ];simp) (fun x y z h1 h2=>by rw [GM] at *; exact Bj h1 h2)
  (fun x y z h1 h2=>by rw [bcmp_nlt] at *; exact JL h1 h2) (enters_of Tryz.func135 (by kernel_rfl) rfl)
  (fun ω' I' x y c d hI hx hy=>JZ (hx.mono hI) (hy.mono hI) ⟨rfl,Ext.refl _⟩) hO' hR (by simp;omega) (fun X' ops cells' hperm hsrt hO2 hR2=>?_)
 have hto:=WG hn hm hp2 hperm hsrt;have hlo:(vis.map (HD nt)).length=ops.length:=hperm.length_eq.symm;rw [hlo] at hO2;refine RZ (fun ch2=>?_);try simp only [SSd,Nat.reduceAdd]
 refine Gh.perm (L':=(b,spO m kv fl ch)::(X'++((ch2,.map #[] 0)::(qm,.cells #[.map (some ch)] 176 (0,0))::(ch,.map ces cclock)::F))) (AP (by ((try simp only [AM,AN,AY,AQ]);(try ac_rfl)))) ?_;refine Gh.done ?_;refine st1 rfl ?_;refine Gh.perm (L':=X'++((b,spO m kv fl ch2)::(ch2,.map #[] 0)::(qm,.cells #[.map (some ch)] 176 (0,0))::(ch,.map ces cclock)::F)) (AP (by ((try simp only [AM,AN,AY,AQ]);(try ac_rfl)))) ?_;refine RL.ofO (R:=TOpV) (fun h hI=>h.mono hI) hO2 hR2 (fun I' hI hRL=>?_);refine Gh.to ((b,spO m kv fl ch2)::(ch2,.map #[] 0)::F) ?_;exact Gh.done (hk [(b,spO m kv fl ch2),(ch2,.map #[] 0)] I' _ ops ch2 hI ⟨[(ch2,.map #[] 0)],List.Perm.refl _,⟨#[],0,fun _=>none,rfl,MapS.empty,fun k=>.inl ⟨rfl,rfl⟩⟩⟩ hto hRL)
end
theorem Lm {g:Bool}{k q:List UInt8}:∀{l:List TVer} {nt:Nts},(∀v∈l,Ag k v≠q)→verN g k l nt q=nt q
 |[],nt,_=>rfl
 |v::l,nt,h=>by
  show verN g k l (CO nt (Ag k v) _) q=_;rw [Lm (fun w hw=>h w (List.mem_cons_of_mem _ hw)),CN _ _ (fun e=>h v (List.mem_cons_self ..) e.symm)]
theorem MZ {g:Bool}{k:List UInt8}{v:TVer}:∀{l:List TVer} {nt:Nts},(l.Pairwise fun a b=>Ag k a≠Ag k b)→v∈l→verN g k l nt (Ag k v)=some (Yb g v)
 |w::l,nt,h,hv=>by
  obtain ⟨h1,h2⟩:=List.pairwise_cons.1 h;show verN g k l (CO nt (Ag k w) _) _=_;rcases List.mem_cons.1 hv with rfl|hv
  ·rw [Lm (fun x hx e=>h1 x hx e.symm),Bd]
  ·exact MZ h2 hv
def AJm (r:Row)(q t:List UInt8):Prop:=(q=105::r.key∧BP r.it=(false,t))∨∃v∈r.vs,q=Ag r.key v∧t=Af v
theorem QI {it:Itn}{t:List UInt8}(h:BP it=(false,t)):it.txn≠0:=fun e=>by unfold BP at h;rw [if_pos e] at h;cases h
theorem JB {it:Itn}(h:it.txn≠0):BP it=(false,(BP it).2):=by unfold BP;rw [if_neg h]
theorem RowOk.apart {r:Row}(h:RowOk r):r.vs.Pairwise fun a b=>Ag r.key a≠Ag r.key b:=
 (List.pairwise_iff_forall_sublist.2 fun {a b} hs=>by
  have hab:=List.pairwise_iff_forall_sublist.1 h.rise hs;have ha:=hs.subset (List.mem_cons_self ..);have hb:=hs.subset (List.mem_cons_of_mem _ (List.mem_cons_self ..));exact HQ (ID (h.vs a ha).right (h.vs b hb).right hab))
theorem AGq {k k':List UInt8}{v:TVer}:Ag k v≠105::k':=fun e=>by
 unfold Ag at e;cases (List.cons.inj e).1
theorem ZD {g:Bool}{r:Row}{nt:Nts}{v:TVer}(h:RowOk r)(hv:v∈r.vs):noteA g r nt (Ag r.key v)=some (Yb g v):=by
 unfold noteA;split
 ·exact MZ h.apart hv
 ·rw [CN _ _ AGq];exact MZ h.apart hv
theorem AEh {g:Bool}{r:Row}{nt:Nts}(h:r.it.txn≠0):noteA g r nt (105::r.key)=some (if g=true then (true,[]) else BP r.it):=by
 unfold noteA;rw [if_neg h,Bd]
theorem AEg {g:Bool}{r:Row}{nt:Nts}{q:List UInt8}(h1:∀v∈r.vs,Ag r.key v≠q)(h2:r.it.txn≠0→q≠105::r.key):noteA g r nt q=nt q:=by
 unfold noteA;split
 ·exact Lm h1
 ·rw [CN _ _ (h2 (by assumption))];exact Lm h1
theorem MW {A B:List Row}{r:Row}{q:List UInt8}(hm:Mid A r.key B):Ak (A++r::B) q=if q=r.key then r.vs else Ak (A++B) q:=by
 by_cases e:q=r.key
 ·rw [if_pos e,e,EO hm rfl]
 ·rw [if_neg e];unfold Ak rowOf;rw [List.find?_append,List.find?_append,List.find?_cons_of_neg (by simp;exact fun e2=>e e2.symm)]
section
variable {A B:List Row}{r:Row}{fl:TStamp}
theorem OA (hm:Mid A r.key B)(q t:List UInt8):CP ⟨A++r::B,fl⟩ q t↔(((∃v∈r.vs,Ag r.key v=q)∨(r.it.txn≠0∧q=105::r.key))∧AJm r q t)∨((¬((∃v∈r.vs,Ag r.key v=q)∨(r.it.txn≠0∧q=105::r.key)))∧CP ⟨A++B,fl⟩ q t)∨(((∃v∈r.vs,Ag r.key v=q)∨(r.it.txn≠0∧q=105::r.key))∧CP ⟨A++B,fl⟩ q t):=by
 have key:CP ⟨A++r::B,fl⟩ q t↔AJm r q t∨CP ⟨A++B,fl⟩ q t:=by
  constructor
  ·rintro (h|⟨k,h,h2⟩|⟨k,v,h,h2,h3⟩)
   ·exact .inr (.inl h)
   ·simp only [Gm hm rfl] at h2;by_cases e:k=r.key
    ·rw [if_pos e] at h2;exact .inl (.inl ⟨by rw [h,e],h2⟩)
    ·rw [if_neg e] at h2;exact .inr (.inr (.inl ⟨k,h,h2⟩))
   ·simp only [MW hm] at h2;by_cases e:k=r.key
    ·rw [if_pos e] at h2;exact .inl (.inr ⟨v,h2,by rw [h,e],h3⟩)
    ·rw [if_neg e] at h2;exact .inr (.inr (.inr ⟨k,v,h,h2,h3⟩))
  ·rintro ((⟨h,h2⟩|⟨v,h,h2,h3⟩)|(h|⟨k,h,h2⟩|⟨k,v,h,h2,h3⟩))
   ·exact .inr (.inl ⟨r.key,h,by simp only [Gm hm rfl,if_true];exact h2⟩)
   ·exact .inr (.inr ⟨r.key,v,h2,by simp only [MW hm,if_true];exact h,h3⟩)
   ·exact .inl h
   ·by_cases e:k=r.key
    ·subst e;simp only [GH hm] at h2;exact absurd rfl (QI h2)
    ·exact .inr (.inl ⟨k,h,by simp only [Gm hm rfl,if_neg e];exact h2⟩)
   ·by_cases e:k=r.key
    ·subst e;simp only [MU hm] at h2;cases h2
    ·exact .inr (.inr ⟨k,v,h,by simp only [MW hm,if_neg e];exact h2,h3⟩)
 rw [key];constructor
 ·rintro (h|h)
  ·refine .inl ⟨?_,h⟩;rcases h with ⟨h,h2⟩|⟨v,h,h2,_⟩
   ·exact .inr ⟨QI h2,h⟩
   ·exact .inl ⟨v,h,h2.symm⟩
  ·by_cases e:(∃v∈r.vs,Ag r.key v=q)∨(r.it.txn≠0∧q=105::r.key)
   ·exact .inr (.inr ⟨e,h⟩)
   ·exact .inr (.inl ⟨e,h⟩)
 ·rintro (⟨_,h⟩|⟨_,h⟩|⟨_,h⟩)
  ·exact .inl h
  ·exact .inr h
  ·exact .inr h
theorem AGk (hm:Mid A r.key B)(hr:RowOk r)(nt:Nts):NStep ⟨A++B,fl⟩ nt ⟨A++r::B,fl⟩ (noteA false r nt):=by
 intro q;by_cases e1:∃v∈r.vs,Ag r.key v=q
 ·obtain ⟨v,hv,rfl⟩:=e1;exact .inr ⟨MI hr.key v,.inr ⟨Af v,by rw [ZD hr hv];rfl,(OA hm _ _).2 (.inl ⟨.inl ⟨v,hv,rfl⟩,.inr ⟨v,hv,rfl,rfl⟩⟩)⟩⟩
 ·by_cases e2:r.it.txn≠0∧q=105::r.key
  ·obtain ⟨h1,rfl⟩:=e2;exact .inr ⟨Jn hr.key,.inr ⟨(BP r.it).2,by rw [AEh h1];exact congrArg some (JB h1),(OA hm _ _).2 (.inl ⟨.inr ⟨h1,rfl⟩,.inl ⟨rfl,JB h1⟩⟩)⟩⟩
  ·refine .inl ⟨AEg (fun v hv e=>e1 ⟨v,hv,e⟩) (fun h1 e=>e2 ⟨h1,e⟩),fun t=>?_⟩;have hne:¬((∃v∈r.vs,Ag r.key v=q)∨(r.it.txn≠0∧q=105::r.key)):=fun h=>h.elim e1 e2;rw [OA hm];constructor
   ·rintro (⟨h,_⟩|⟨_,h⟩|⟨h,_⟩)
    ·exact absurd h hne
    ·exact h
    ·exact absurd h hne
   ·exact fun h=>.inr (.inl ⟨hne,h⟩)
end
theorem LC {base:List UInt8→List UInt8→Prop}{fl:TStamp}:∀{rs A:List Row} {nt:Nts},SpOk ⟨A++rs,fl⟩→Noted base ⟨A,fl⟩ nt→Noted base ⟨A++rs,fl⟩ (noteAs false rs nt)
 |[],A,nt,_,h=>by rw [List.append_nil];exact h
 |r::rs,A,nt,hok,h=>by
  obtain ⟨p1,p2,p3⟩:=hok.part;have hm:Mid A r.key rs:=SrtK.mid hok.rise;have hm0:Mid A r.key []:=⟨hm.lt,fun x hx=>by cases hx⟩;have e:A++r::rs=(A++[r])++rs:=by simp
  have:=LC (rs:=rs) (A:=A++[r]) (nt:=noteA false r nt) (by rw [←e];exact hok) ((by rw [List.append_nil];exact h:Noted base ⟨A++[],fl⟩ nt).step (AGk hm0 p2 nt));rw [e];exact this
theorem LS (fl:TStamp):Noted (fun q t=>(⟨q,t⟩:TKV)∈([]:List TKV)) ⟨[],fl⟩ (BC fl):=by
 refine noted0.step (sp':=⟨[],fl⟩) (nt':=BC fl) (fun q=>?_);have no:∀t,CP (⟨[],fl⟩:Sp) q t↔(q=[102]∧fl≠z0∧t=stF fl):=fun t=>by
  constructor
  ·rintro (h|⟨k,_,h2⟩|⟨k,v,_,h2,_⟩)
   ·exact h
   ·cases h2
   ·cases h2
  ·exact fun h=>.inl h
 by_cases hf:fl=z0
 ·refine .inl ⟨by unfold BC;rw [if_pos hf],fun t=>?_⟩;rw [hf];exact Iff.rfl
 ·by_cases hq:q=[102]
  ·subst hq;exact .inr ⟨⟨by decide,by decide⟩,.inr ⟨stF fl,by unfold BC;rw [if_neg hf,Bd],(no _).2 ⟨rfl,hf,rfl⟩⟩⟩
  ·refine .inl ⟨by unfold BC;rw [if_neg hf,CN _ _ hq],fun t=>?_⟩;rw [no];constructor
   ·exact fun h=>absurd h.1 hq
   ·rintro (⟨h,_⟩|⟨k,_,h2⟩|⟨k,v,_,h2,_⟩)
    ·exact absurd h hq
    ·cases h2
    ·cases h2
theorem NtFin.verN {g:Bool}{k:List UInt8}:∀{l:List TVer} {nt:Nts} {N:Nat},NtFin nt N→NtFin (verN g k l nt) (N+l.length)
 |[],nt,N,h=>h
 |v::l,nt,N,h=>by
  have:=NtFin.verN (l:=l) (g:=g) (k:=k) (h.upd (Ag k v) (Yb g v));rw [show N+(v::l).length=N+1+l.length by simp;omega];exact this
theorem NtFin.noteA {g:Bool}{r:Row}{nt:Nts}{N:Nat}(h:NtFin nt N):NtFin (noteA g r nt) (N+r.vs.length+1):=by
 unfold Go.Proofs.YtmmfcgbfbcamcaaGreatDoor.noteA;split
 ·exact h.verN.more (by omega)
 ·exact h.verN.upd _ _
theorem NtFin.noteAs {g:Bool}:∀{rs:List Row} {nt:Nts} {N:Nat},NtFin nt N→NtFin (noteAs g rs nt) (N+Ae rs+rs.length)
 |[],nt,N,h=>h
 |r::rs,nt,N,h=>by
  have:=NtFin.noteAs (rs:=rs) (g:=g) (h.noteA (g:=g) (r:=r));exact this.more (by simp [Ae];omega)
theorem NtFin.floor (fl:TStamp):NtFin (BC fl) 1:=by
 unfold BC;split
 ·exact ⟨[],by simp,fun q hq=>absurd rfl hq⟩
 ·exact NtFin.upd ⟨[],by simp,fun q hq=>absurd rfl hq⟩ _ _
def NoDel (nt:Nts):Prop:=∀q p,nt q=some p→p.1=false
theorem NoDel.upd {nt:Nts}(h:NoDel nt){k:List UInt8}{x:Bool×List UInt8}(hx:x.1=false):NoDel (CO nt k x):=fun q p hq=>by
 by_cases e:q=k
 ·rw [e,Bd] at hq;rw [←Option.some.inj hq];exact hx
 ·rw [CN _ _ e] at hq;exact h q p hq
theorem NoDel.verN {k:List UInt8}:∀{l:List TVer} {nt:Nts},NoDel nt→NoDel (verN false k l nt)
 |[],nt,h=>h
 |v::l,nt,h=>NoDel.verN (l:=l) (h.upd (k:=Ag k v) (x:=Yb false v) rfl)
theorem NoDel.noteA {r:Row}{nt:Nts}(h:NoDel nt):NoDel (noteA false r nt):=by
 unfold Go.Proofs.YtmmfcgbfbcamcaaGreatDoor.noteA;split
 ·exact h.verN
 ·exact h.verN.upd (by simp only [Bool.false_eq_true,if_false];rw [JB (by assumption)])
theorem NoDel.noteAs:∀{rs:List Row} {nt:Nts},NoDel nt→NoDel (noteAs false rs nt)
 |[],nt,h=>h
 |r::rs,nt,h=>NoDel.noteAs (rs:=rs) (h.noteA (r:=r))
theorem NoDel.floor (fl:TStamp):NoDel (BC fl):=by
 have h0:NoDel nt0:=fun q p h=>by cases h
 unfold BC;split
 ·exact h0
 ·exact h0.upd rfl
def GW (ops:List TOp):List TKV:=ops.map fun y=>⟨y.fKey,y.fValue⟩
theorem AEz {sp:Sp}(hok:SpOk sp){nt:Nts}{ops:List TOp}(h:TookOk nt ops)(hd:NoDel nt)(hN:Noted (fun q t=>(⟨q,t⟩:TKV)∈([]:List TKV)) sp nt)(x:TKV):x∈GW ops↔CP sp x.fKey x.fValue:=by
 constructor
 ·intro hx;obtain ⟨y,hy,rfl⟩:=List.mem_map.1 hx;have h1:=h.mem y hy;rcases hN y.fKey with ⟨_,⟨h2,_⟩|⟨t,h2,h3⟩⟩|⟨h2,_⟩
  ·have:=hd _ _ h2;cases this
  ·rw [h1] at h2;have h4:=(Prod.mk.inj (Option.some.inj h2)).2;show CP sp y.fKey y.fValue;rw [h4];exact h3
  ·rw [h1] at h2;cases h2
 ·intro hx;rcases hN x.fKey with ⟨_,⟨h2,h3⟩|⟨t,h2,h3⟩⟩|⟨_,h3⟩
  ·exact absurd hx (h3 _)
  ·have e:=QH hok h3 hx;exact List.mem_map.2 ⟨⟨false,x.fKey,t⟩,h.all _ _ _ h2,by rw [e]⟩
  ·cases (h3 _).1 hx
theorem AIv {nt:Nts}{ops:List TOp}(h:TookOk nt ops):IC (GW ops):=List.pairwise_map.2 h.rise
theorem TG {g:Bool}{rows:List Row}{i:Nat}(hi:i < rows.length)(nt:Nts):noteAs g (rows.take (i+1)) nt=noteA g rows[i] (noteAs g (rows.take i) nt):=by
 unfold noteAs;rw [take_snoc hi,List.foldl_append];rfl
section
variable {ω:Om}{I:Imm}{L:LH}{K:Value→M}
theorem AAE {p2 v:Value}{ops:List TOp}{F:LH}(h:RL TOpV 3 I [] v ops)(hl:ops.length≤1000000)(hk:∀I' u,Ext I I'→RL TKVV 2 I' [] u (GW ops)→Gh (K u) I' F):
  An ((.slice none 0 0,.int .i64 0,()):Value×Value×Unit) (fun s Kn1=>Uj ω p2 v (.int .i64 ops.length) s.1 s.2.1 Kn1 (fun v=>Gh (K v))) I F:=by
 refine loop (fun n s I' L'=>∃(i:Nat) (XO:LH) (vo:Value) (cells:List Value),n+i=ops.length∧s=(vo,.int .i64 i,())∧Ext I I'∧SlO 113 2 XO vo cells i∧Recs (TKVV I') 2 (GW (ops.take i)) cells∧L'=XO++F) ops.length ⟨0,[],_,[],rfl,rfl,Ext.refl _,SlO.none _ _,rfl,rfl⟩ ?_;rintro n s I' L' ⟨i,XO,vo,cells,hn,rfl,hI,hO,hR,rfl⟩;unfold Uj;try simp only [SSd,Nat.reduceAdd]
 refine AC (fun e=>?_) (fun e=>?_)
 ·have hi:i < ops.length:=by simpa using e
  obtain ⟨bx,off,c,hix,hcl,hc,hcc⟩:=RL.ix h (i:=(i:Int)) (by omega) (by omega);rw [Aq hi] at hc;obtain ⟨v1,v2,rfl,hb1,hb2⟩:=hc;simp only [hix,SSd,Nat.reduceAdd];refine rdN hcl (hcc I' _ hI (fun x hx=>by cases hx)) ?_;refine AV (fun q=>?_);obtain ⟨a1,c1,rfl⟩:=Bytes.form hb1;obtain ⟨a2,c2,rfl⟩:=Bytes.form hb2;refine stB rfl rfl (AK rfl) ?_;refine rdb ?_;try simp only [SSd,Nat.reduceAdd]
  refine rdb ?_;try simp only [SSd,Nat.reduceAdd]
  have hlen:(GW (ops.take i)).length=i:=by simp [GW];omega
  refine HB (R:=TKVV) (X6:=XO) (x:=⟨ops[i].fKey,ops[i].fValue⟩) (xs:=GW (ops.take i)) (cells:=cells) rfl (by omega) (by rw [hlen];exact hO) hR ⟨_,_,rfl,hb1.mono hI,hb2.mono hI⟩ rfl (AK rfl) (by omega) (by omega) (fun X1 X6 v6 cells6 h6 hR6=>?_);have e1:GW (ops.take (i+1))=GW (ops.take i)++[⟨ops[i].fKey,ops[i].fValue⟩]:=by unfold GW;rw [take_snoc hi,List.map_append];rfl
  rw [wrap_i64 _ (by omega)];refine Gh.to (X6++F) (Gh.done ⟨n - 1,by omega,i+1,X6,v6,cells6,by omega,rfl,hI,?_,by rw [e1];exact hR6,rfl⟩);rw [List.length_append,hlen] at h6;exact h6
 ·have hi:i=ops.length:=by
   have:¬i < ops.length:=by simpa using e
   have:i≤ops.length:=by omega
   omega
  rw [hi,List.take_length] at hR;have hlen:(GW ops).length=i:=by simp [GW,hi]
  rw [←hlen] at hO;exact RL.ofO (R:=TKVV) (fun h hI=>h.mono hI) hO hR (fun I2 hI2 hRL=>hk I2 _ (hI.trans hI2) hRL)
theorem AGi {b:Nat}{X F:LH}{sp:Sp}{nt:Nts}(hS:SpR I b X sp nt)(hok:SpOk sp)(hlen:sp.rows.length≤10000)(hn:Ae sp.rows≤100000)
  (hk:∀I' u l,Ext I I'→RL TKVV 2 I' [] u l→(∀x:TKV,x∈l↔CP sp x.fKey x.fValue)→IC l→l.length≤1000000→K u I' (X++F)):CT ω 80 #[pt b] K I (X++F):=by
 obtain ⟨m,kv,es,clock,ps,hV⟩:=hS.view (L:=X++F) (fun x hx=>List.mem_append_left _ hx);obtain ⟨rows,fl⟩:=sp;have hvs:∀r∈rows,r.vs.length≤1000000000:=fun r hr=>by have:=WA hn r hr;omega
 refine AOC ?_;unfold AKX;refine AZ ?_;try simp only [SSd,Nat.reduceAdd]
 refine CQ (L0:=X++F) (hV.head 0 _ rfl) (Ext.refl _) ?_;refine CQ (L0:=X++F) (hV.head 1 _ rfl) (Ext.refl _) ?_;refine Gl (L0:=X++F) (vs:=[.int .i64 fl.fWall,.int .i64 fl.fLogic]) (by simpa using hV.head.sub (k:=2) (m:=2)) (Ext.refl _) rfl ?_;refine RZ (fun cht=>?_);refine Gh.done (FC (Ext.refl _) ?_);have hkf:∃a c,kv= .slice a (keysOf rows).length c:=RL.form hV.keys;obtain ⟨ka,kc,rfl⟩:=hkf;try simp only [SSd,Nat.reduceAdd]
 refine AV (fun bt=>?_);try simp only [SSd,Nat.reduceAdd]
 refine rdP [.int .i64 fl.fWall,.int .i64 fl.fLogic] rfl rfl ?_;have hkl:(keysOf rows).length=rows.length:=by simp [keysOf]
 have hlen':rows.length≤10000:=hlen;have main:∀I1 Xt ch1,Ext I I1→NoteR I1 bt m ch1 (.slice ka (keysOf rows).length kc) fl Xt (BC fl)→
   Qh ω (.slice none 0 0) (pt bt) (fun v=>Gh (K v)) I1 (Xt++(X++F)):=by
  intro I1 Xt ch1 hI1 hN1;unfold Qh;try simp only [SSd,Nat.reduceAdd]
  refine rdC (L0:=Xt) (hN1.head 1 _ rfl) (Ext.refl _) ?_;try simp only [SSd,Nat.reduceAdd]
  refine loop (fun n s I' L'=>∃(j:Nat) (Xt:LH) (ch':Nat),n+j=rows.length∧s=(.int .i64 j,())∧Ext I I'∧NoteR I' bt m ch' (.slice ka (keysOf rows).length kc) fl Xt (noteAs false (rows.take j) (BC fl))∧L'=Xt++(X++F)) rows.length ⟨0,Xt,ch1,rfl,rfl,hI1,hN1,rfl⟩ ?_;rintro n s I' L' ⟨j,Xt,ch',hn2,rfl,hI,hNt,rfl⟩;unfold AAe;try simp only [SSd,Nat.reduceAdd]
  refine AC (fun e=>?_) (fun e=>?_)
  ·have hj:j < rows.length:=by simp only [hkl] at e;simpa using e
   obtain ⟨bx,off,c,hix,hcl,hc,hcc⟩:=RL.ix hV.keys (i:=(j:Int)) (by omega) (by simp only [hkl];omega);have hce:c=[BR rows[j].key]:=by
    have h1:c=[BR (Dh (keysOf rows) (j:Int))]:=by simpa [StrV] using hc
    rw [h1,Aq (by omega)];simp [keysOf]
   subst hce;have hrok:=hok.rows _ (List.getElem_mem hj);have hrvs:=hvs _ (List.getElem_mem hj);have hrow:=NV hok.rise hj;obtain ⟨h0,_⟩|⟨r',p,h1,hcm,hCV,hkr⟩:=hV.look hok.rise rows[j].key
   ·rw [hrow] at h0;cases h0
   obtain rfl:r'=rows[j]:=by rw [hrow] at h1;exact (Option.some.inj h1).symm
   simp only [hix,SSd,Nat.reduceAdd];refine rd1 (hcc I' _ hI (fun x hx=>List.mem_append_right _ hx) 0 _ rfl) ?_;try simp only [SSd,Nat.reduceAdd]
   refine rdC (L0:=Xt) (hNt.head 0 _ rfl) (Ext.refl _) ?_;refine ⟨_,GV (MapAt.mono hV.at' hI (fun x hx=>List.mem_append_right _ hx)) hV.map,?_⟩;simp only [hcm,lkV,Bool.false_eq_true,if_false];refine Bz (Nn (g:=false) hNt (fun _=>⟨MapAt.mono hV.at' hI (fun x hx=>hx),hV.map,hcm⟩) (hCV.mono hI (fun x hx=>hx)) hrok hrvs (fun Xt2 I3 hI3 hNt2=>?_));try simp only [SSd,Nat.reduceAdd]
   rw [wrap_i64 _ (by omega)];refine Gh.done (Gh.done ⟨n - 1,by omega,j+1,Xt2,ch',by omega,rfl,hI.trans hI3,?_,rfl⟩);rw [TG hj];exact hNt2
  ·have hj:j=rows.length:=by
    have:¬j < rows.length:=by simp only [hkl] at e;simpa using e
    omega
   rw [hj,List.take_length] at hNt;have hok0:SpOk ⟨([]:List Row)++rows,fl⟩:=hok;have hNoted:=LC hok0 (LS fl);have hND:NoDel (noteAs false rows (BC fl)):=NoDel.noteAs (NoDel.floor fl);have hNF:NtFin (noteAs false rows (BC fl)) (1+Ae rows+rows.length):=(NtFin.floor fl).noteAs;unfold AAd;refine Bz (take0 hNt hNF (by simp only at hn;omega) (fun X2 I3 v ops ch2 hI3 _ hto hops=>?_));have hol:=JY hto hNF;simp only [RL.len hops,SSd,Nat.reduceAdd];refine Gh.to (X++F) (Gh.done ?_);refine AAE hops (by simp only at hn;omega) (fun I4 u hI4 hu=>Gh.done (hk I4 u (GW ops) (hI.trans (hI3.trans hI4)) hu (fun x=>AEz hok hto hND hNoted x) (AIv hto) (by simp [GW];simp only at hn;omega)))
 have hN0:NoteR I bt m cht (.slice ka (keysOf rows).length kc) fl [(bt,spO m (.slice ka (keysOf rows).length kc) fl cht),(cht,.map #[] 0)] nt0:=
  ⟨[(cht,.map #[] 0)],List.Perm.refl _,⟨#[],0,fun _=>none,rfl,MapS.empty,fun k=>.inl ⟨rfl,rfl⟩⟩⟩
 obtain ⟨fw,fg⟩:=fl;simp only [Lq,SSd,Nat.reduceAdd];refine AC (fun e=>?_) (fun e=>?_)
 ·have hne:(⟨fw,fg⟩:TStamp)≠z0:=fun h=>by
   simp only [TStamp.mk.injEq] at h;simp [h.1,h.2] at e
  have hfn:BC ⟨fw,fg⟩=CO nt0 [102] (false,stF ⟨fw,fg⟩):=by unfold BC;rw [if_neg hne]
  refine Bz (Nl (m:=m) (X:=[(bt,spO m (.slice ka (keysOf rows).length kc) ⟨fw,fg⟩ cht),(cht,.map #[] 0)]) hN0 hok.floor (fun X' I' hI' hN'=>Gh.done ?_));exact main I' X' cht hI' (by rw [hfn];exact hN')
 ·have he:(⟨fw,fg⟩:TStamp)=z0:=by
   have:fw=0∧fg=0:=by simpa using e
   rw [this.1,this.2]
  have hfn:BC ⟨fw,fg⟩=nt0:=by unfold BC;rw [if_pos he]
  exact main I [(bt,spO m (.slice ka (keysOf rows).length kc) ⟨fw,fg⟩ cht),(cht,.map #[] 0)] cht (Ext.refl _) (by rw [hfn];exact hN0)
end
theorem Fe {A B:List Row}{r r':Row}{k q:List UInt8}(hm:Mid A k B)(hk:r.key=k)(hk':r'.key=k):Ak (A++r'::B) q=if q=k then r'.vs else Ak (A++r::B) q:=by
 by_cases h:q=k
 ·subst h;rw [if_pos rfl,EO hm hk']
 ·rw [if_neg h];unfold Ak rowOf;rw [List.find?_append,List.find?_append,List.find?_cons_of_neg (by simp [hk'];exact fun e=>h e.symm),List.find?_cons_of_neg (by simp [hk];exact fun e=>h e.symm)]
theorem KE {A B:List Row}{r:Row}{k q:List UInt8}(hm:Mid A k B)(hk:r.key=k)(hv:r.vs=[]):Ak (A++B) q=Ak (A++r::B) q:=by
 by_cases h:q=k
 ·subst h;rw [EO hm hk,MU hm,hv]
 ·unfold Ak rowOf;rw [List.find?_append,List.find?_append,List.find?_cons_of_neg (by simp [hk];exact fun e=>h e.symm)]
theorem AAL {sp:Sp}(hok:SpOk sp)(x:TIntent)(q:List UInt8):Ak (ET sp x).rows q=Ak sp.rows q:=by
 unfold ET;split
 ·rfl
 ·obtain ⟨rows,fl⟩:=sp;rcases place x.fKey hok.rise with ⟨A,r,B,e,hk,hm⟩|⟨A,B,e,hm⟩
  ·simp only at e;subst e
   simp only [Fg hk hm];rw [Fe hm hk rfl];split
   ·rename_i h;subst h;rw [EO hm hk]
   ·rfl
  ·simp only at e;subst e
   simp only [Fh hm];exact (KE hm rfl rfl).symm
theorem AAK {sp:Sp}(hok:SpOk sp){k:List UInt8}{txn:Int}{yes:Bool}{a:TStamp}(q:List UInt8):
  Ak (Dv sp k txn yes a).rows q=Ak sp.rows q∨(yes=true∧∃v:TVer,v.fAt=a∧Ak (Dv sp k txn yes a).rows q=Ak sp.rows q++[v]):=by
 unfold Dv;split
 ·obtain ⟨rows,fl⟩:=sp;rcases place k hok.rise with ⟨A,r,B,e,hk,hm⟩|⟨A,B,e,hm⟩
  ·simp only at e;subst e
   obtain ⟨p1,p2,p3⟩:=hok.part;simp only [Fp hm hk];rw [Ff (fun x hx=>(p1 x hx).some) (fun x hx=>(p3 x hx).some)];have hcore:Ak (if Ax (Gi yes a r)=true then A++B else A++Gi yes a r::B) q=if q=k then (Gi yes a r).vs else Ak (A++r::B) q:=by
    split
    ·rename_i he
     have hv:(Gi yes a r).vs=[]:=by simp [Ax] at he;exact he.1
     rw [KE hm (show (Gi yes a r).key=k from hk) hv,Fe hm hk (show (Gi yes a r).key=k from hk)]
    ·exact Fe hm hk (show (Gi yes a r).key=k from hk)
   rw [hcore];by_cases hq:q=k
   ·subst hq;rw [if_pos rfl,EO hm hk];cases yes with
    |false=>exact .inl rfl
    |true=>exact .inr ⟨rfl,_,rfl,rfl⟩
   ·rw [if_neg hq];exact .inl rfl
  ·simp only at e;subst e
   rw [show SR k (Gi yes a) (A++B)=A++B from by
    unfold SR;conv=>rhs;rw [←List.map_id (A++B)]
    exact List.map_congr_left fun x hx=>if_neg (hm.notin x hx)]
   rw [KI (fun r hr=>(hok.rows r hr).some)];exact .inl rfl
 ·exact .inl rfl
def Oz (fl:TStamp)(vs:List TVer):List TVer:=match upTo vs fl with
 |none=>vs
 |some k=>vs.filter fun v=> !CE k v
theorem YD (fl:TStamp)(r:Row):(colR fl r).vs=Oz fl r.vs:=by
 unfold colR Oz;cases upTo r.vs fl <;> rfl
theorem AAM {sp:Sp}(hok:SpOk sp)(b:TStamp)(q:List UInt8):Ak (colS sp b).rows q=if AU b=false then Ak sp.rows q else Oz (CM sp b) (Ak sp.rows q):=by
 unfold colS;by_cases hb:AU b=false
 ·rw [if_pos hb,if_pos hb]
 ·rw [if_neg hb,if_neg hb];generalize CM sp b=fl;have:∀(rows:List Row),SrtK (keysOf rows)→Ak (Cd (rows.map (colR fl))) q=Oz fl (Ak rows q):=by
   intro rows;induction rows with
   |nil=>intro _;rfl
   |cons r rs ih=>
    intro hs;obtain ⟨h1,h2⟩:=List.pairwise_cons.1 (show List.Pairwise _ (r.key::keysOf rs) from hs);have ih':=ih h2;by_cases hk:r.key=q
    ·have e1:Ak (r::rs) q=r.vs:=by unfold Ak rowOf;simp [hk]
     rw [e1,List.map_cons];unfold Cd at ih' ⊢;rw [List.filter_cons];by_cases he:Ax (colR fl r)=true
     ·have hv:(colR fl r).vs=[]:=by simp [Ax] at he;exact he.1
      have hno:Ak rs q=[]:=by
       unfold Ak;rw [Eu (fun x hx=>by rw [←hk];exact IZ (h1 _ (List.mem_map_of_mem hx)))]
      rw [hno] at ih';rw [he];simp only [Bool.not_true,Bool.false_eq_true,if_false];rw [ih',←YD,hv];rfl
     ·rw [Bool.eq_false_iff.2 he];simp only [Bool.not_false,if_true];rw [←YD];unfold Ak rowOf;simp [FD,hk]
    ·have e1:Ak (r::rs) q=Ak rs q:=by unfold Ak rowOf;simp [hk]
     rw [e1,←ih',List.map_cons];unfold Cd;rw [List.filter_cons];split
     ·unfold Ak rowOf;simp [FD,hk]
     ·rfl
  exact this sp.rows hok.rise
theorem IV {A B:List Row}{r r':Row}{k q:List UInt8}(hm:Mid A k B)(hk:r.key=k)(hk':r'.key=k):Aj (A++r'::B) q=if q=k then r'.it else Aj (A++r::B) q:=by
 by_cases h:q=k
 ·subst h;rw [if_pos rfl,Gn hm hk']
 ·rw [if_neg h];unfold Aj rowOf;rw [List.find?_append,List.find?_append,List.find?_cons_of_neg (by simp [hk'];exact fun e=>h e.symm),List.find?_cons_of_neg (by simp [hk];exact fun e=>h e.symm)]
theorem TW {sp:Sp}(hok:SpOk sp){x:TIntent}(h0:(Bo sp x).2.2=0)(q:List UInt8):Aj (ET sp x).rows q=if q=x.fKey then ⟨⟨(Bo sp x).1,x.fDel,x.fValue⟩,x.fTxn⟩ else Aj sp.rows q:=by
 unfold ET;rw [if_neg (by simp [h0])];obtain ⟨rows,fl⟩:=sp;rcases place x.fKey hok.rise with ⟨A,r,B,e,hk,hm⟩|⟨A,B,e,hm⟩
 ·simp only at e;subst e
  simp only [Fg hk hm];exact IV hm hk rfl
 ·simp only at e;subst e
  simp only [Fh hm];exact Gm hm rfl
theorem ANL {sp:Sp}(hok:SpOk sp){k:List UInt8}{txn:Int}{a:TStamp}(h:(FK sp k txn true a).1=true)(q:List UInt8):
  Aj (Dv sp k txn true a).rows q=(if q=k then noIt else Aj sp.rows q)∧Ak (Dv sp k txn true a).rows q=if q=k then Ak sp.rows q++[⟨a,(Aj sp.rows k).ver.fDel,(Aj sp.rows k).ver.fValue⟩] else Ak sp.rows q:=by
 obtain ⟨ht,htx,_⟩:=ME h;unfold Dv;rw [if_pos h];obtain ⟨rows,fl⟩:=sp;rcases place k hok.rise with ⟨A,r,B,e,hk,hm⟩|⟨A,B,e,hm⟩
 ·simp only at e;subst e
  obtain ⟨p1,p2,p3⟩:=hok.part;simp only [Fp hm hk];rw [Ff (fun x hx=>(p1 x hx).some) (fun x hx=>(p3 x hx).some),if_neg (by simp [Ax,Gi])];rw [IV hm hk (show (Gi true a r).key=k from hk),Fe hm hk (show (Gi true a r).key=k from hk)];refine ⟨rfl,?_⟩;split
  ·rename_i hq;subst hq
   rw [EO hm hk,Gn hm hk];rfl
  ·rfl
 ·simp only at e;subst e
  simp only [GH hm] at ht;rw [←ht] at htx;exact absurd htx (by decide)
def GZ (ops:List TOp)(q:List UInt8):Option TOp:=ops.reverse.find? fun y=>y.fKey==q
theorem TT (ops:List TOp)(y:TOp)(q:List UInt8):GZ (ops++[y]) q=if y.fKey=q then some y else GZ ops q:=by
 unfold GZ;rw [List.reverse_append,List.reverse_singleton,List.singleton_append,List.find?_cons];by_cases h:y.fKey=q
 ·simp [h]
 ·rw [if_neg h];have:(y.fKey==q)=false:=by simpa using h
  rw [this]
theorem VW {ops:List TOp}{y:TOp}(h:y∈ops):∃y',GZ ops y.fKey=some y':=by
 cases e:GZ ops y.fKey with
 |some y'=>exact ⟨y',rfl⟩
 |none=>
  have:=List.find?_eq_none.1 e y (List.mem_reverse.2 h);simp at this
def chL (k v:List UInt8):Bool→List TKV→List TKV
 |d,[]=>if d=true then [] else [⟨k,v⟩]
 |d,x::xs=>if x.fKey=k then chL k v d xs else if d=false∧blt k x.fKey=true then ⟨k,v⟩::x::chL k v true xs else x::chL k v d xs
theorem mem_chL {k v:List UInt8}{x:TKV}:∀{l:List TKV} {d:Bool},x∈chL k v d l↔(x∈l∧x.fKey≠k)∨(d=false∧x=⟨k,v⟩)
 |[],d=>by unfold chL;cases d <;> simp
 |y::l,d=>by
  unfold chL;split
  ·rename_i hy
   rw [mem_chL];constructor
   ·rintro (⟨h1,h2⟩|h)
    ·exact .inl ⟨List.mem_cons_of_mem _ h1,h2⟩
    ·exact .inr h
   ·rintro (⟨h1,h2⟩|h)
    ·rcases List.mem_cons.1 h1 with rfl|h1
     ·exact absurd hy h2
     ·exact .inl ⟨h1,h2⟩
    ·exact .inr h
  ·rename_i hy
   split
   ·rename_i hd
    simp only [List.mem_cons];rw [mem_chL];constructor
    ·rintro (h|h|h|h)
     ·exact .inr ⟨hd.1,h⟩
     ·subst h;exact .inl ⟨.inl rfl,hy⟩
     ·exact .inl ⟨.inr h.1,h.2⟩
     ·cases h.1
    ·rintro (⟨h1|h1,h2⟩|h)
     ·exact .inr (.inl h1)
     ·exact .inr (.inr (.inl ⟨h1,h2⟩))
     ·exact .inl h.2
   ·simp only [List.mem_cons];rw [mem_chL];constructor
    ·rintro (h|h|h)
     ·subst h;exact .inl ⟨.inl rfl,hy⟩
     ·exact .inl ⟨.inr h.1,h.2⟩
     ·exact .inr h
    ·rintro (⟨h1|h1,h2⟩|h)
     ·exact .inl h1
     ·exact .inr (.inl ⟨h1,h2⟩)
     ·exact .inr (.inr h)
def Hz (l:List TKV)(ops:List TOp):List TKV:=ops.foldl (fun l y=>chL y.fKey y.fValue y.fDel l) l
theorem QT (l:List TKV)(ops:List TOp)(y:TOp):Hz l (ops++[y])=chL y.fKey y.fValue y.fDel (Hz l ops):=by
 unfold Hz;rw [List.foldl_append];rfl
theorem TK {l:List TKV}{x:TKV}(ops:List TOp):x∈Hz l ops↔match GZ ops x.fKey with
  |none=>x∈l
  |some y=>y.fDel=false∧x.fValue=y.fValue:=by
 suffices h:∀r:List TOp,(x∈Hz l r.reverse↔match GZ r.reverse x.fKey with
  |none=>x∈l
  |some y=>y.fDel=false∧x.fValue=y.fValue) by simpa using h ops.reverse
 intro r;induction r with
 |nil=>rfl
 |cons y r ih=>
  rw [List.reverse_cons,QT,mem_chL,TT];by_cases hq:y.fKey=x.fKey
  ·rw [if_pos hq];simp only [hq,ne_eq,not_true,and_false,false_or];constructor
   ·rintro ⟨h1,h2⟩;exact ⟨h1,by rw [h2]⟩
   ·rintro ⟨h1,h2⟩;exact ⟨h1,by rw [←h2]⟩
  ·rw [if_neg hq];rw [←ih];constructor
   ·rintro (⟨h1,_⟩|⟨_,h2⟩)
    ·exact h1
    ·exact absurd (by rw [h2]) hq
   ·intro h1;exact .inl ⟨h1,fun e=>hq e.symm⟩
theorem HI {sp sp':Sp}{q t:List UInt8}(hf:q=[102]→sp'.floor=sp.floor)(hi:∀k,q=105::k→Aj sp'.rows k=Aj sp.rows k)(hv:∀k v,q=Ag k v→(v∈Ak sp'.rows k↔v∈Ak sp.rows k)):CP sp' q t↔CP sp q t:=by
 unfold CP;refine or_congr ?_ (or_congr ?_ ?_)
 ·constructor
  ·rintro ⟨h1,h2,h3⟩;rw [hf h1] at h2 h3;exact ⟨h1,h2,h3⟩
  ·rintro ⟨h1,h2,h3⟩;rw [←hf h1] at h2 h3;exact ⟨h1,h2,h3⟩
 ·constructor
  ·rintro ⟨k,h1,h2⟩;rw [hi k h1] at h2;exact ⟨k,h1,h2⟩
  ·rintro ⟨k,h1,h2⟩;rw [←hi k h1] at h2;exact ⟨k,h1,h2⟩
 ·constructor
  ·rintro ⟨k,v,h1,h2,h3⟩;exact ⟨k,v,h1,(hv k v h1).1 h2,h3⟩
  ·rintro ⟨k,v,h1,h2,h3⟩;exact ⟨k,v,h1,(hv k v h1).2 h2,h3⟩
theorem OC {x:TIntent}{a:TStamp}(h:CB x.fTxn=true):(BP (Ea x a)).1=false:=by
 unfold BP Ea;rw [if_neg (Gv h)]
theorem Yx {sp:Sp}(hok:SpOk sp)(x:TIntent)(nt:Nts):NStep sp nt (ET sp x) (Fz sp x nt):=by
 by_cases h0:(Bo sp x).2.2=0
 ·obtain ⟨_,_,_,ht,hk⟩:=MH hok h0;have e:Fz sp x nt=CO nt (105::x.fKey) (BP (Ea x (Bo sp x).1)):=by unfold Fz;rw [if_neg (by simp [h0])]
  have hit:Aj (ET sp x).rows x.fKey=Ea x (Bo sp x).1:=by rw [TW hok h0,if_pos rfl];rfl
  intro q;by_cases hq:q=105::x.fKey
  ·subst hq;refine .inr ⟨Jn hk,.inr ⟨(BP (Ea x (Bo sp x).1)).2,?_,.inr (.inl ⟨_,rfl,?_⟩)⟩⟩
   ·rw [e,Bd,←OC (a:=(Bo sp x).1) ht]
   ·rw [hit,←OC (a:=(Bo sp x).1) ht]
  ·refine .inl ⟨by rw [e,CN _ _ hq],fun t=>HI (fun _=>by unfold ET;split <;> rfl) (fun k hk2=>?_) (fun k v _=>by rw [AAL hok])⟩;rw [TW hok h0,if_neg (fun e2=>hq (by rw [hk2,e2]))]
 ·have e1:ET sp x=sp:=by unfold ET;rw [if_pos h0]
  have e2:Fz sp x nt=nt:=by unfold Fz;rw [if_pos h0]
  rw [e1,e2];exact NStep.refl _ _
theorem AJW {sp:Sp}(hok:SpOk sp){k:List UInt8}{txn:Int}{a:TStamp}(h:(FK sp k txn false a).1=true)(q:List UInt8):
  Aj (Dv sp k txn false a).rows q=(if q=k then noIt else Aj sp.rows q)∧Ak (Dv sp k txn false a).rows q=Ak sp.rows q:=by
 obtain ⟨ht,htx,_⟩:=ME h;refine ⟨?_,by rcases AAK hok (k:=k) (txn:=txn) (yes:=false) (a:=a) q with h1|⟨h1,_⟩;exact h1;cases h1⟩;unfold Dv;rw [if_pos h];obtain ⟨rows,fl⟩:=sp;rcases place k hok.rise with ⟨A,r,B,e,hk,hm⟩|⟨A,B,e,hm⟩
 ·simp only at e;subst e
  obtain ⟨p1,p2,p3⟩:=hok.part;simp only [Fp hm hk];rw [Ff (fun x hx=>(p1 x hx).some) (fun x hx=>(p3 x hx).some)];split
  ·have e1:=Gm (r:=r) (q:=q) hm hk;by_cases hq:q=k
   ·subst hq;rw [if_pos rfl,GH hm]
   ·rw [if_neg hq] at e1 ⊢;exact e1.symm
  ·exact IV hm hk (show (Gi false a r).key=k from hk)
 ·simp only at e;subst e
  simp only [GH hm] at ht;rw [←ht] at htx;exact absurd htx (by decide)
theorem Ny {sp:Sp}(hok:SpOk sp){k:List UInt8}(h:(Aj sp.rows k).txn≠0):∃r,rowOf sp.rows k=some r∧r.it=Aj sp.rows k∧Ap k=true∧r.key=k:=by
 unfold Aj at h ⊢;cases e:rowOf sp.rows k with
 |none=>rw [e] at h;exact absurd rfl h
 |some r=>
  have hm:=BL e;have hk:r.key=k:=by simpa using List.find?_some e
  exact ⟨r,rfl,rfl,by rw [←hk];exact (hok.rows r hm).key,hk⟩
theorem Yr {sp:Sp}(hok:SpOk sp)(k:List UInt8)(txn:Int)(yes:Bool)(a:TStamp)(nt:Nts):NStep sp nt (Dv sp k txn yes a) (GN sp k txn yes a nt):=by
 by_cases h0:(FK sp k txn yes a).1=true
 ·obtain ⟨ht,htx,hy⟩:=ME h0;obtain ⟨r,hr,hit,hk,hrk⟩:=Ny (k:=k) hok (by rw [ht];exact Gv htx);have e:GN sp k txn yes a nt=Jj k yes a r nt:=by unfold GN;rw [if_pos h0,hr]
  have hfl:(Dv sp k txn yes a).floor=sp.floor:=by unfold Dv;rw [if_pos h0]
  have hno:∀(sp':Sp),Aj sp'.rows k=noIt→∀t,¬CP sp' (105::k) t:=by
   intro sp' hi t ht;rcases ht with ⟨h1,_⟩|⟨k',h1,h2⟩|⟨k',v,h1,_⟩
   ·simp at h1
   ·have:k=k':=by simpa using h1
    subst this;rw [hi] at h2;cases h2
   ·simp [Ag] at h1
  rw [e];cases yes with
  |false=>
   have hat:=AJW hok h0;intro q;by_cases hq:q=105::k
   ·subst hq;refine .inr ⟨Jn hk,.inl ⟨by simp [Jj,Bd],hno _ (by rw [(hat k).1,if_pos rfl])⟩⟩
   ·refine .inl ⟨by simp [Jj,CN _ _ hq],fun t=>HI (fun _=>hfl) (fun k' hk'=>?_) (fun k' v _=>by rw [(hat k').2])⟩;rw [(hat k').1,if_neg (fun e2=>hq (by rw [hk',e2]))]
  |true=>
   have hat:=ANL hok h0;have hne:Ag k (EI a r)≠105::k:=by simp [Ag]
   intro q;by_cases hq:q=Ag k (EI a r)
   ·subst hq;refine .inr ⟨MI hk _,.inr ⟨Af (EI a r),by simp only [Jj,if_true];exact Bd _ _ _,.inr (.inr ⟨k,EI a r,rfl,?_,rfl⟩)⟩⟩;rw [(hat k).2,if_pos rfl];refine List.mem_append_right _ ?_;rw [←hit];exact List.mem_singleton.2 rfl
   ·by_cases hq2:q=105::k
    ·subst hq2;refine .inr ⟨Jn hk,.inl ⟨?_,hno _ (by rw [(hat k).1,if_pos rfl])⟩⟩;simp only [Jj,if_true];rw [CN _ _ hq,Bd]
    ·refine .inl ⟨by simp only [Jj,if_true];rw [CN _ _ hq,CN _ _ hq2],fun t=>HI (fun _=>hfl) (fun k' hk'=>?_) (fun k' v hv=>?_)⟩
     ·rw [(hat k').1,if_neg (fun e2=>hq2 (by rw [hk',e2]))]
     ·rw [(hat k').2];split
      ·rename_i h1
       subst h1;rw [List.mem_append];constructor
       ·rintro (h2|h2)
        ·exact h2
        ·refine absurd ?_ hq;rw [hv,List.mem_singleton.1 h2];unfold Ag EI;rfl
       ·exact .inl
      ·rfl
 ·have e1:Dv sp k txn yes a=sp:=by unfold Dv;rw [if_neg h0]
  have e2:GN sp k txn yes a nt=nt:=by unfold GN;rw [if_neg h0]
  rw [e1,e2];exact NStep.refl _ _
theorem ZJ {A:List Row}{q:List UInt8}(hs:SrtK (keysOf A))(hz:∀r∈A,r.it.txn=0→r.it=noIt):Aj (Cd A) q=Aj A q:=by
 induction A with
 |nil=>rfl
 |cons r A ih=>
  have hs':SrtK (keysOf A):=(List.pairwise_cons.1 hs).2;have hlt:=(List.pairwise_cons.1 hs).1;have ih:=ih hs' (fun x hx=>hz x (List.mem_cons_of_mem _ hx));unfold Cd at ih ⊢;by_cases he:Ax r=true
  ·rw [List.filter_cons_of_neg (by simp [he]),ih];by_cases hk:r.key=q
   ·have hno:rowOf A q=none:=Eu fun x hx e=>by
     have:blt r.key x.key=true:=hlt x.key (List.mem_map_of_mem hx);rw [e,hk,BQ] at this;cases this
    have h1:Aj A q=noIt:=by unfold Aj;rw [hno]
    have h2:Aj (r::A) q=r.it:=by unfold Aj rowOf;rw [List.find?_cons_of_pos (by simp [hk])]
    rw [h1,h2];simp only [Ax,Bool.and_eq_true,beq_iff_eq] at he;exact (hz r (List.mem_cons_self ..) he.2).symm
   ·unfold Aj rowOf;rw [List.find?_cons_of_neg (by simp [hk])]
  ·rw [List.filter_cons_of_pos (by simp [he])];by_cases hk:r.key=q
   ·unfold Aj rowOf;rw [List.find?_cons_of_pos (by simp [hk]),List.find?_cons_of_pos (by simp [hk])]
   ·unfold Aj rowOf at ih ⊢;rw [List.find?_cons_of_neg (by simp [hk]),List.find?_cons_of_neg (by simp [hk])];exact ih
theorem QM {k:List UInt8}{q:List UInt8}:∀{l:List TVer} {nt:Nts},(nt q=some (true,[])∨∃v∈l,Ag k v=q)→HW k l nt q=some (true,[])
 |[],nt,h=>by
  rcases h with h|⟨v,hv,_⟩
  ·exact h
  ·cases hv
 |v::l,nt,h=>by
  show HW k l (CO nt (Ag k v) (true,[])) q=_;refine QM ?_;by_cases hq:q=Ag k v
  ·subst hq;exact .inl (Bd _ _ _)
  ·rcases h with h|⟨w,hw,e⟩
   ·exact .inl (by rw [CN _ _ hq,h])
   ·rcases List.mem_cons.1 hw with rfl|hw
    ·exact absurd e.symm hq
    ·exact .inr ⟨w,hw,e⟩
theorem Td {k:List UInt8}{q:List UInt8}:∀{l:List TVer} {nt:Nts},(∀v∈l,Ag k v≠q)→HW k l nt q=nt q
 |[],nt,h=>rfl
 |v::l,nt,h=>by
  show HW k l (CO nt (Ag k v) (true,[])) q=_;rw [Td fun w hw=>h w (List.mem_cons_of_mem _ hw),CN _ _ (fun e=>h v (List.mem_cons_self ..) e.symm)]
def Gone (fl:TStamp)(r:Row)(q:List UInt8):Prop:=∃kp,upTo r.vs fl=some kp∧∃v∈r.vs.filter (CE kp),Ag r.key v=q
theorem Ni {fl:TStamp}{r:Row}{q:List UInt8}{nt:Nts}(h:nt q=some (true,[])∨Gone fl r q):EV fl nt r q=some (true,[]):=by
 unfold EV;cases e:upTo r.vs fl with
 |none=>
  rcases h with h|⟨kp,h,_⟩
  ·exact h
  ·rw [e] at h;cases h
 |some kp=>
  refine QM ?_;rcases h with h|⟨kp',h,h2⟩
  ·exact .inl h
  ·rw [e] at h;cases h;exact .inr h2
theorem ZC {fl:TStamp}{r:Row}{q:List UInt8}{nt:Nts}(h:¬Gone fl r q):EV fl nt r q=nt q:=by
 unfold EV;cases e:upTo r.vs fl with
 |none=>rfl
 |some kp=>exact Td fun v hv e2=>h ⟨kp,e,v,hv,e2⟩
theorem QB {fl:TStamp}{q:List UInt8}:∀{rows:List Row} {nt:Nts},(nt q=some (true,[])∨∃r∈rows,Gone fl r q)→EJ fl rows nt q=some (true,[])
 |[],nt,h=>by
  rcases h with h|⟨v,hv,_⟩
  ·exact h
  ·cases hv
 |r::rows,nt,h=>by
  show EJ fl rows (EV fl nt r) q=_;refine QB ?_;rcases h with h|⟨w,hw,e⟩
  ·exact .inl (Ni (.inl h))
  ·rcases List.mem_cons.1 hw with rfl|hw
   ·exact .inl (Ni (.inr e))
   ·exact .inr ⟨w,hw,e⟩
theorem TF {fl:TStamp}{q:List UInt8}:∀{rows:List Row} {nt:Nts},(∀r∈rows,¬Gone fl r q)→EJ fl rows nt q=nt q
 |[],nt,h=>rfl
 |r::rows,nt,h=>by
  show EJ fl rows (EV fl nt r) q=_;rw [TF fun w hw=>h w (List.mem_cons_of_mem _ hw),ZC (h r (List.mem_cons_self ..))]
theorem AFB {sp:Sp}(hok:SpOk sp)(b:TStamp)(q:List UInt8):Aj (colS sp b).rows q=Aj sp.rows q:=by
 unfold colS;split
 ·rfl
 ·have hs:SrtK (keysOf (sp.rows.map (colR (CM sp b)))):=by
   have e:keysOf (sp.rows.map (colR (CM sp b)))=keysOf sp.rows:=by
    unfold keysOf;rw [List.map_map];exact List.map_congr_left fun x _=>FD _ x
   rw [e];exact hok.rise
  show Aj (Cd (sp.rows.map (colR (CM sp b)))) q=_;rw [ZJ hs (fun r hr h=>by
   obtain ⟨x,hx,rfl⟩:=List.mem_map.1 hr;rw [Rx] at h ⊢;exact (hok.rows x hx).zero h)]
  generalize CM sp b=fl;generalize sp.rows=rows;induction rows with
  |nil=>rfl
  |cons r rows ih=>
   unfold Aj rowOf at ih ⊢;rw [List.map_cons];by_cases hk:r.key=q
   ·rw [List.find?_cons_of_pos (by simpa using (FD fl r).trans hk),List.find?_cons_of_pos (by simp [hk])];exact Rx fl r
   ·rw [List.find?_cons_of_neg (by simpa using fun h=>hk ((FD fl r).symm.trans h)),List.find?_cons_of_neg (by simp [hk])];exact ih
theorem MR {rows:List Row}{k:List UInt8}{v:TVer}(h:v∈Ak rows k):∃r∈rows,r.key=k∧r.vs=Ak rows k:=by
 unfold Ak at h ⊢;cases e:rowOf rows k with
 |none=>rw [e] at h;cases h
 |some r=>exact ⟨r,BL e,by simpa using List.find?_some e,rfl⟩
theorem NU {rows:List Row}{r:Row}(hs:SrtK (keysOf rows))(h:r∈rows):Ak rows r.key=r.vs:=by
 obtain ⟨i,hi,rfl⟩:=List.getElem_of_mem h;unfold Ak;rw [NV hs hi]
theorem ZZ {sp:Sp}(hok:SpOk sp)(b:TStamp)(nt:Nts):NStep sp nt (colS sp b) (Hf sp b nt):=by
 by_cases hb:AU b=false
 ·have e1:colS sp b=sp:=by unfold colS;rw [if_pos hb]
  have e2:Hf sp b nt=nt:=by unfold Hf;rw [if_pos hb]
  rw [e1,e2];exact NStep.refl _ _
 have hfl:(colS sp b).floor=CM sp b:=by unfold colS;rw [if_neg hb]
 have hN:Hf sp b nt=EJ (CM sp b) sp.rows (if bhd b sp.floor=true then CO nt [102] (false,stF b) else nt):=by unfold Hf;rw [if_neg hb]
 have hv:∀q,Ak (colS sp b).rows q=Oz (CM sp b) (Ak sp.rows q):=fun q=>by rw [AAM hok,if_neg hb]
 have hsub:∀q v,v∈Oz (CM sp b) (Ak sp.rows q)→v∈Ak sp.rows q:=by
  intro q v h;unfold Oz at h;split at h
  ·exact h
  ·exact (List.mem_filter.1 h).1
 intro q;by_cases hg:∃r∈sp.rows,Gone (CM sp b) r q
 ·obtain ⟨r,hr,hG⟩:=hg;refine .inr ⟨?_,.inl ⟨by rw [hN];exact QB (.inr ⟨r,hr,hG⟩),?_⟩⟩
  ·obtain ⟨kp,_,v,_,rfl⟩:=hG;exact MI (hok.rows r hr).key v
  ·obtain ⟨kp,hkp,v,hvm,rfl⟩:=hG;obtain ⟨hv1,hv2⟩:=List.mem_filter.1 hvm;rintro t (⟨h1,_⟩|⟨k,h1,_⟩|⟨k,w,h1,h2,_⟩)
   ·simp [Ag] at h1
   ·simp [Ag] at h1
   ·rw [hv] at h2;have h3:=hsub _ _ h2;obtain ⟨e1,e2⟩:=MX ((hok.rows r hr).vs v hv1).right (((DR hok k).2 w h3).right) h1;subst e1;rw [NU hok.rise hr] at h2 h3;have e3:=AEd (hok.rows r hr).rise hv1 h3 e2;subst e3;unfold Oz at h2;rw [hkp] at h2;have h4:=(List.mem_filter.1 h2).2;rw [hv2] at h4;cases h4
 ·have hn:Hf sp b nt q=(if bhd b sp.floor=true then CO nt [102] (false,stF b) else nt) q:=by
   rw [hN];exact TF fun r hr h=>hg ⟨r,hr,h⟩
  have hkeep:∀k v,q=Ag k v→(v∈Ak (colS sp b).rows k↔v∈Ak sp.rows k):=by
   intro k v e;rw [hv];refine ⟨hsub k v,fun h=>?_⟩;obtain ⟨r,hr,hrk,hrv⟩:=MR h;cases e2:upTo (Ak sp.rows k) (CM sp b) with
   |none=>unfold Oz;rw [e2];exact h
   |some kp=>
    unfold Oz;rw [e2];refine List.mem_filter.2 ⟨h,?_⟩;cases e3:CE kp v with
    |false=>rfl
    |true=>exact absurd ⟨r,hr,kp,by rw [hrv,e2],v,List.mem_filter.2 ⟨by rw [hrv];exact h,e3⟩,by rw [hrk,e]⟩ hg
  by_cases h102:q=[102]∧bhd b sp.floor=true
  ·obtain ⟨rfl,hbf⟩:=h102;refine .inr ⟨⟨Nat.le_refl _,by decide⟩,.inr ⟨stF b,by rw [hn,if_pos hbf,Bd],.inl ⟨rfl,?_,?_⟩⟩⟩
   ·rw [hfl];unfold CM;rw [if_pos hbf];rintro rfl;have:=Db hok.floor;simp [bhd] at hbf;omega
   ·rw [hfl];unfold CM;rw [if_pos hbf]
  ·refine .inl ⟨?_,fun t=>HI (fun e=>?_) (fun k _=>AFB hok b k) hkeep⟩
   ·rw [hn];split
    ·rename_i hbf
     exact CN _ _ fun e=>h102 ⟨e,hbf⟩
    ·rfl
   ·rw [hfl];unfold CM;exact if_neg fun hbf=>h102 ⟨e,hbf⟩
theorem TookOk.last {nt:Nts}{ops:List TOp}(h:TookOk nt ops)(q:List UInt8):(GZ ops q=none∧nt q=none)∨∃y,GZ ops q=some y∧y.fKey=q∧nt q=some (y.fDel,y.fValue):=by
 cases e:GZ ops q with
 |some y=>
  have h1:y∈ops:=List.mem_reverse.1 (List.mem_of_find?_eq_some e);have h2:y.fKey=q:=by simpa using List.find?_some e
  exact .inr ⟨y,rfl,h2,by rw [←h2];exact h.mem y h1⟩
 |none=>
  refine .inl ⟨rfl,?_⟩;cases e2:nt q with
  |none=>rfl
  |some p=>
   obtain ⟨y',hy'⟩:=VW (h.all q p.1 p.2 e2);simp only at hy'
   rw [e] at hy';cases hy'
theorem NtFin.gone {k:List UInt8}:∀{l:List TVer} {nt:Nts} {N:Nat},NtFin nt N→NtFin (HW k l nt) (N+l.length)
 |[],nt,N,h=>h
 |v::l,nt,N,h=>by
  have:=NtFin.gone (l:=l) (k:=k) (h.upd (Ag k v) (true,[]));rw [show N+(v::l).length=N+1+l.length by simp;omega];exact this
theorem NtFin.col {fl:TStamp}:∀{rows:List Row} {nt:Nts} {N:Nat},NtFin nt N→NtFin (EJ fl rows nt) (N+Ae rows)
 |[],nt,N,h=>h
 |r::rows,nt,N,h=>by
  have h1:NtFin (EV fl nt r) (N+r.vs.length):=by
   unfold EV;split
   ·exact h.more (by omega)
   ·exact h.gone.more (by have:=List.length_filter_le (CE (by assumption)) r.vs;omega)
  have h2:=NtFin.col (fl:=fl) (rows:=rows) h1;rw [show N+Ae (r::rows)=N+r.vs.length+Ae rows by simp [Ae];omega];exact h2
theorem TV {sp:Sp}(hok:SpOk sp){k t:List UInt8}(h:BP (Aj sp.rows k)=(false,t)):(Aj sp.rows k).txn≠0:=by
 intro h0;unfold BP at h;rw [if_pos h0] at h;simp at h
theorem Xc:∀{A B:List Row},SrtK (keysOf A)→SrtK (keysOf B)→(∀r,r∈A↔r∈B)→A=B
 |[],[],_,_,_=>rfl
 |[],y::l2,_,_,h=>by have:=(h y).2 (List.mem_cons_self ..);cases this
 |x::l1,[],_,_,h=>by have:=(h x).1 (List.mem_cons_self ..);cases this
 |x::l1,y::l2,h1,h2,h=>by
  have a1:∀z∈l1,blt x.key z.key=true:=fun z hz=>(List.pairwise_cons.1 h1).1 z.key (List.mem_map_of_mem hz);have b1:∀z∈l2,blt y.key z.key=true:=fun z hz=>(List.pairwise_cons.1 h2).1 z.key (List.mem_map_of_mem hz);have hxy:x=y:=by
   rcases List.mem_cons.1 ((h x).1 (List.mem_cons_self ..)) with e|hx
   ·exact e
   ·rcases List.mem_cons.1 ((h y).2 (List.mem_cons_self ..)) with e|hy
    ·exact e.symm
    ·have:=EM (b1 x hx);rw [a1 y hy] at this;cases this
  subst hxy;rw [Xc (List.pairwise_cons.1 h1).2 (List.pairwise_cons.1 h2).2 (fun z=>?_)];constructor
  ·intro hz;rcases List.mem_cons.1 ((h z).1 (List.mem_cons_of_mem _ hz)) with e|hz'
   ·subst e;have:=a1 z hz;rw [BQ] at this;cases this
   ·exact hz'
  ·intro hz;rcases List.mem_cons.1 ((h z).2 (List.mem_cons_of_mem _ hz)) with e|hz'
   ·subst e;have:=b1 z hz;rw [BQ] at this;cases this
   ·exact hz'
theorem Sl {rows:List Row}{r:Row}(hs:SrtK (keysOf rows))(h:r∈rows):Aj rows r.key=r.it:=by
 obtain ⟨i,hi,rfl⟩:=List.getElem_of_mem h;unfold Aj;rw [NV hs hi]
theorem AEN {A B:List Row}(hA:SrtK (keysOf A))(hB:SrtK (keysOf B))(eA:∀r∈A,Ax r=false)(eB:∀r∈B,Ax r=false)(hi:∀k,Aj A k=Aj B k)(hv:∀k,Ak A k=Ak B k):A=B:=by
 have half:∀{A B:List Row},SrtK (keysOf A)→SrtK (keysOf B)→(∀r∈A,Ax r=false)→(∀k,Aj A k=Aj B k)→(∀k,Ak A k=Ak B k)→∀r∈A,r∈B:=by
  intro A B hA hB eA hi hv r hr;have h1:=Sl hA hr;have h2:=NU hA hr;rw [hi] at h1;rw [hv] at h2;unfold Aj at h1;unfold Ak at h2;cases e:rowOf B r.key with
  |none=>
   rw [e] at h1 h2;have:=eA r hr;simp only at h1 h2
   simp [Ax,←h1,←h2,noIt] at this
  |some r'=>
   rw [e] at h1 h2;have hk:r'.key=r.key:=by simpa using List.find?_some e
   have:r'=r:=by
    cases r;cases r';simp only at hk h1 h2;subst hk h1 h2;rfl
   rw [←this];exact BL e
 exact Xc hA hB fun r=>⟨half hA hB eA hi hv r,half hB hA eB (fun k=>(hi k).symm) (fun k=>(hv k).symm) r⟩
def HJ (p:List TKV)(q:List UInt8):Bool:=p.any fun x=>x.fKey==q
theorem CX (p:List TKV)(x:TKV)(q:List UInt8):HJ (p++[x]) q=(HJ p q||x.fKey==q):=by simp [HJ]
theorem inKs_iff {p:List TKV}{q:List UInt8}:HJ p q=true↔∃x∈p,x.fKey=q:=by simp [HJ]
structure LInv (sp:Sp)(p:List TKV)(s:Sp):Prop where
 ok:SpOk s
 floor:s.floor=if HJ p [102]=true then sp.floor else z0
 it:∀k,Aj s.rows k=if HJ p (105::k)=true then Aj sp.rows k else noIt
 vs:∀k,Ak s.rows k=(Ak sp.rows k).filter fun v=>HJ p (Ag k v)
theorem LInv.zero (sp:Sp):LInv sp [] sp0:=⟨AAY,rfl,fun _=>rfl,fun k=>by
 show []=_;symm
 exact List.filter_eq_nil_iff.2 fun v _=>by simp [HJ]⟩
theorem LInv.done {sp s:Sp}(hok:SpOk sp){l:List TKV}(hl:∀x:TKV,x∈l↔CP sp x.fKey x.fValue)(h:LInv sp l s):s=sp:=by
 have e1:s.floor=sp.floor:=by
  rw [h.floor];split
  ·rfl
  ·rename_i hn
   cases Classical.em (sp.floor=z0) with
   |inl h=>exact h.symm
   |inr h0=>exact absurd (inKs_iff.2 ⟨⟨[102],stF sp.floor⟩,(hl _).2 (.inl ⟨rfl,h0,rfl⟩),rfl⟩) hn
 have e2:s.rows=sp.rows:=by
  refine AEN h.ok.rise hok.rise (fun r hr=>(h.ok.rows r hr).some) (fun r hr=>(hok.rows r hr).some) (fun k=>?_) (fun k=>?_)
  ·rw [h.it];split
   ·rfl
   ·rename_i hn
    cases hi:(BP (Aj sp.rows k)).1 with
    |false=>exact absurd (inKs_iff.2 ⟨⟨105::k,(BP (Aj sp.rows k)).2⟩,(hl _).2 (.inr (.inl ⟨k,rfl,by rw [←hi]⟩)),rfl⟩) hn
    |true=>
     have ht:(Aj sp.rows k).txn=0:=by
      unfold BP at hi;split at hi
      ·assumption
      ·cases hi
     unfold Aj at ht ⊢;cases e:rowOf sp.rows k with
     |none=>rfl
     |some r=>rw [e] at ht;exact ((hok.rows r (BL e)).zero ht).symm
  ·rw [h.vs];exact List.filter_eq_self.2 fun v hv=>inKs_iff.2 ⟨⟨Ag k v,Af v⟩,(hl _).2 (.inr (.inr ⟨k,v,rfl,hv,rfl⟩)),rfl⟩
 cases s;cases sp;simp only at e1 e2;subst e1 e2;rfl
theorem Slot.old {A B:List Row}{k:List UInt8}{r:Row}{rows:List Row}(h:Slot A k B r rows):r.it=Aj rows k∧r.vs=Ak rows k:=by
 obtain ⟨hm,hk,rfl|⟨rfl,rfl⟩⟩:=h
 ·rw [Gn hm hk,EO hm hk];exact ⟨rfl,rfl⟩
 ·rw [GH hm,MU hm];exact ⟨rfl,rfl⟩
theorem Slot.new {A B:List Row}{k:List UInt8}{r r':Row}{rows:List Row}{fl:TStamp}(h:Slot A k B r rows)(hok:SpOk ⟨rows,fl⟩)(hk':r'.key=k)(hr:RowOk r'):
  SpOk ⟨A++r'::B,fl⟩∧(∀q,Aj (A++r'::B) q=if q=k then r'.it else Aj rows q)∧∀q,Ak (A++r'::B) q=if q=k then r'.vs else Ak rows q:=by
 obtain ⟨hm,hk,rfl|⟨rfl,rfl⟩⟩:=h
 ·exact ⟨hok.swap (hk'.trans hk.symm) hr,fun q=>IV hm hk hk',fun q=>Fe hm hk hk'⟩
 ·refine ⟨hok.more hm hr hk',fun q=>Gm hm hk',fun q=>?_⟩;rw [KE (r:=⟨k,[],noIt⟩) hm rfl rfl];exact Fe hm rfl hk'
theorem LInv.setFloor {sp s:Sp}{p:List TKV}(hok:SpOk sp)(h:LInv sp p s):LInv sp (p++[⟨[102],stF sp.floor⟩]) ⟨s.rows,sp.floor⟩:=by
 refine ⟨⟨h.ok.rise,h.ok.rows,hok.floor⟩,?_,fun k=>?_,fun k=>?_⟩
 ·rw [CX];simp
 ·rw [CX];simp only [h.it];simp
 ·simp only [h.vs];refine List.filter_congr fun v _=>?_;rw [CX];simp [Ag]
theorem LInv.setIt {sp s:Sp}{p:List TKV}(hok:SpOk sp)(h:LInv sp p s){A B:List Row}{r:Row}{k t:List UInt8}(hs:Slot A k B r s.rows)(ht:BP (Aj sp.rows k)=(false,t)):LInv sp (p++[⟨105::k,t⟩]) ⟨A++⟨k,r.vs,Aj sp.rows k⟩::B,s.floor⟩:=by
 have h0:=TV hok ht;obtain ⟨r0,hr0,hi0,hk0,hkk⟩:=Ny hok h0;have hro:=hok.rows r0 (BL hr0);obtain ⟨o1,o2⟩:=hs.old;have hvs:∀v∈r.vs,VerOk v:=fun v hv=>by rw [o2] at hv;exact (DR h.ok k).2 v hv
 have hrise:r.vs.Pairwise fun a b=>bhd b.fAt a.fAt=true:=by rw [o2];exact (DR h.ok k).1
 obtain ⟨n1,n2,n3⟩:=hs.new (r':=⟨k,r.vs,Aj sp.rows k⟩) (fl:=s.floor) h.ok rfl ⟨hk0,hvs,hrise,by rw [←hi0];exact hro.it,Kt h0⟩;refine ⟨n1,?_,fun q=>?_,fun q=>?_⟩
 ·rw [CX];simp only [h.floor];simp
 ·rw [CX];simp only [n2];by_cases hq:q=k
  ·subst hq;simp
  ·rw [if_neg hq,h.it];have:((105::k:List UInt8)==105::q)=false:=by simpa using fun e=>hq e.symm
   rw [this,Bool.or_false]
 ·simp only [n3];have e:(Ak sp.rows q).filter (fun v=>HJ (p++[⟨105::k,t⟩]) (Ag q v))=Ak s.rows q:=by
   rw [h.vs];refine List.filter_congr fun v _=>?_;rw [CX];simp [Ag]
  rw [e];split
  ·rename_i hq;subst hq;exact o2
  ·rfl
theorem LInv.addV {sp s:Sp}{p:List TKV}(hok:SpOk sp)(h:LInv sp p s){A B:List Row}{r:Row}{k:List UInt8}{v:TVer}(hs:Slot A k B r s.rows)(hv:v∈Ak sp.rows k)(hp:∀y∈p,blt y.fKey (Ag k v)=true):
  LInv sp (p++[⟨Ag k v,Af v⟩]) ⟨A++⟨k,r.vs++[v],r.it⟩::B,s.floor⟩:=by
 obtain ⟨r0,hr0,hk0,hv0⟩:=MR hv;have hro:=hok.rows r0 hr0;obtain ⟨o1,o2⟩:=hs.old;obtain ⟨q1,q2⟩:=DR hok k;have hnot:∀w∈Ak sp.rows k,bhd w.fAt v.fAt=true→HJ p (Ag k w)=false:=by
  intro w hw hb;cases e:HJ p (Ag k w) with
  |false=>rfl
  |true=>
   obtain ⟨y,hy,ey⟩:=inKs_iff.1 e;have h1:=hp y hy;rw [ey] at h1;have h2:=ID (k:=k) (q2 v hv).right (q2 w hw).right hb;rw [EM h2] at h1;cases h1
 have hself:HJ p (Ag k v)=false:=by
  cases e:HJ p (Ag k v) with
  |false=>rfl
  |true=>
   obtain ⟨y,hy,ey⟩:=inKs_iff.1 e;have h1:=hp y hy;rw [ey,BQ] at h1;cases h1
 have hkey:r.vs++[v]=(Ak sp.rows k).filter fun w=>HJ (p++[⟨Ag k v,Af v⟩]) (Ag k w):=by
  rw [o2,h.vs];obtain ⟨C,D,e⟩:=List.append_of_mem hv;rw [e] at q1 q2 hnot ⊢;have hD:∀w∈D,bhd w.fAt v.fAt=true:=by
   have:=(List.pairwise_append.1 q1).2.1;exact fun w hw=>(List.pairwise_cons.1 this).1 w hw
  have hC:∀w∈C,bhd v.fAt w.fAt=true:=fun w hw=>(List.pairwise_append.1 q1).2.2 w hw v (List.mem_cons_self ..);have hD0:D.filter (fun w=>HJ p (Ag k w))=[]:=List.filter_eq_nil_iff.2 fun w hw=>by
   rw [hnot w (by simp [hw]) (hD w hw)];simp
  have hD1:D.filter (fun w=>HJ (p++[⟨Ag k v,Af v⟩]) (Ag k w))=[]:=List.filter_eq_nil_iff.2 fun w hw=>by
   rw [CX,hnot w (by simp [hw]) (hD w hw)];have h2:=HQ (ID (k:=k) (q2 v (by simp)).right (q2 w (by simp [hw])).right (hD w hw));simpa using h2
  have hC1:C.filter (fun w=>HJ (p++[⟨Ag k v,Af v⟩]) (Ag k w))=C.filter (fun w=>HJ p (Ag k w)):=List.filter_congr fun w hw=>by
   rw [CX];have h2:=IZ (ID (k:=k) (q2 w (by simp [hw])).right (q2 v (by simp)).right (hC w hw));have:(Ag k v==Ag k w)=false:=by simpa using h2
   rw [this,Bool.or_false]
  rw [List.filter_append,List.filter_append,List.filter_cons,List.filter_cons,hD0,hD1,hC1,hself,CX];simp
 have hit:r.it=noIt∨(CB r.it.txn=true∧VerOk r.it.ver):=by
  rw [o1,h.it];split
  ·rw [←hk0,Sl hok.rise hr0];exact hro.it
  ·exact .inl rfl
 obtain ⟨n1,n2,n3⟩:=hs.new (r':=⟨k,r.vs++[v],r.it⟩) (fl:=s.floor) h.ok rfl ⟨by rw [←hk0];exact hro.key,
  (fun w hw=>by simp only [hkey] at hw;exact q2 w (List.mem_filter.1 hw).1),by simp only [hkey];exact List.Pairwise.sublist List.filter_sublist q1,hit,by simp [Ax]⟩
 refine ⟨n1,?_,fun q=>?_,fun q=>?_⟩
 ·rw [CX];simp only [h.floor];simp [Ag]
 ·rw [CX];simp only [n2];have:(Ag k v==105::q)=false:=by simp [Ag]
  rw [this,Bool.or_false,←h.it];split
  ·rename_i hq;subst hq;exact o1
  ·rfl
 ·simp only [n3];split
  ·rename_i hq;subst hq;exact hkey
  ·rename_i hq
   rw [h.vs];refine List.filter_congr fun w hw=>?_;rw [CX];have:(Ag k v==Ag q w)=false:=by
    have:Ag k v≠Ag q w:=fun e=>hq (MX (q2 v hv).right (((DR hok q).2 w hw).right) e).1.symm;simpa using this
   rw [this,Bool.or_false]
section
variable {ω:Om}{I:Imm}{L:LH}{K:Value→M}
theorem AKx {n y i:Nat}(h:n < 2 ^ i)(hs:n+y * 2 ^ i < 9223372036854775808):Eb .or .i64 (n:Int) ((y * 2 ^ i:Nat):Int)=((n+y * 2 ^ i:Nat):Int):=by
 have e:((BitVec.ofInt 64 (n:Int)) ||| (BitVec.ofInt 64 ((y * 2 ^ i:Nat):Int))).toNat=n+y * 2 ^ i:=by
  rw [BitVec.toNat_or];have e1:(BitVec.ofInt 64 (n:Int)).toNat=n:=by rw [BitVec.toNat_ofInt];omega
  have e2:(BitVec.ofInt 64 ((y * 2 ^ i:Nat):Int)).toNat=y * 2 ^ i:=by
   rw [BitVec.toNat_ofInt];generalize y * 2 ^ i=z at *;omega
  rw [e1,e2,Nat.or_comm,Nat.mul_comm,←Nat.two_pow_add_eq_or_of_lt h];exact Nat.add_comm _ _
 show IntKind.i64.wrap ((BitVec.ofInt 64 (n:Int)) ||| (BitVec.ofInt 64 ((y * 2 ^ i:Nat):Int))).toNat=_;rw [e];exact wrap_i64 _ (by omega)
theorem AAR {l:List UInt8}{i:Nat}(h:i < l.length):unB (l.take (i+1))=unB (l.take i) * 256+(l[i].toNat:Int):=by
 rw [List.take_succ_eq_append_getElem h,NB];simp [unB]
theorem ANR {n:Nat}(hn:n < 36028797018963968):AB .shl (.int .i64 (n:Int)) (.int .u64 8)=some (.int .i64 ((n * 256:Nat):Int)):=by
 have h:=Oe (a:=(n:Int)) (c:=8) .i64 .u64 (by decide);have e1:(min (8:Int).toNat IntKind.i64.bits)=8:=rfl;rw [e1,wrap_i64 _ (by omega)] at h;rw [h];congr 2
theorem or8 {n:Nat}(hn:n < 36028797018963968)(b:UInt8):Eb .or .i64 ((n * 256:Nat):Int) (b.toNat:Int)=((n * 256+b.toNat:Nat):Int):=by
 have hb:=b.toNat_lt;have e2:Eb .or .i64 ((n * 256:Nat):Int) (b.toNat:Int)=Eb .or .i64 (b.toNat:Int) ((n * 2 ^ 8:Nat):Int):=by
  unfold Eb;simp only
  rw [BitVec.or_comm]
 rw [e2,AKx (by omega) (by omega)];congr 1
 omega
theorem AGu (l:List UInt8):∃n:Nat,unB l=n:=⟨(unB l).toNat,by have:=(Gf l).1;omega⟩
theorem JD {v:Value}{s:TStamp}(h:Bytes I v (stF s))(hr:AU s=true)(hk:∀I',Ext I I'→K (.tuple #[sv s,.int .i64 0]) I' L):CT ω 204 #[v] K I L:=by
 have hu7:unB ((stF s).take 7)=s.fWall:=congrArg TStamp.fWall (JU hr);have hu2:unB ((stF s).drop 7)=s.fLogic:=congrArg TStamp.fLogic (JU hr);have hl9:(stF s).length=9:=rfl;obtain ⟨v7,e7,h7⟩:=Bytes.take h (n:=7) (by rw [hl9];omega);have e7':Ao 1 v none (some (.int .i64 7)) none=some v7:=e7;have hl7:((stF s).take 7).length=7:=by rw [List.length_take,hl9];rfl
 have hlen:lenV v=some (.int .i64 9):=Bytes.len h;have hlen7:lenV v7=some (.int .i64 7):=by rw [Bytes.len h7,hl7];rfl
 generalize hS:stF s=S at *;refine AMI ?_;unfold ACC;refine AV (fun b1=>?_);simp only [hlen,SSd,Nat.reduceAdd];refine AV (fun b2=>?_);simp only [e7',hlen7,SSd,Nat.reduceAdd];refine loop (fun n t I' L'=>I'=I∧∃i:Nat,n+i=7∧t=(.int .i64 i,())∧L'=(b2,stO ⟨unB (S.take i),0⟩)::(b1,stO ⟨0,0⟩)::L) 7 ⟨rfl,0,rfl,rfl,rfl⟩ ?_;rintro n t I' L' ⟨rfl,i,hni,rfl,rfl⟩;unfold Wn;try simp only [SSd,Nat.reduceAdd]
 refine AC (fun e=>?_) (fun e=>?_)
 ·have hi:i < 7:=by simp at e;omega
  obtain ⟨bb,off,hix,hc⟩:=Bytes.at (k:=i) h7 (by omega);obtain ⟨m,hm⟩:=AGu (S.take i);have hb:=(Gf (S.take i)).2;rw [List.length_take,Nat.min_eq_left (by omega),hm] at hb;have hmb:m < 36028797018963968:=by
   have:(256:Int) ^ i≤256 ^ 6:=by
    have h6:=Nat.pow_le_pow_right (show 0 < 256 by decide) (show i≤6 by omega);exact_mod_cast h6
   omega
  simp only [hix,SSd,Nat.reduceAdd];refine rd1 (hc _ _ (Ext.refl _)) ?_;try simp only [SSd,Nat.reduceAdd]
  refine rdb ?_;have hbt:=((S.take 7)[i]'(by omega)).toNat_lt;rw [hm];simp only [ANR hmb,wrap_i64 (((S.take 7)[i]'(by omega)).toNat:Int) (by omega),or8 hmb,SSd,Nat.reduceAdd];refine st1 rfl ?_;try simp only [SSd,Nat.reduceAdd]
  rw [wrap_i64 _ (by omega)];refine Gh.done ⟨n - 1,by omega,rfl,i+1,by omega,rfl,?_⟩;have e3:unB (S.take (i+1))=((m * 256+((S.take 7)[i]'(by omega)).toNat:Nat):Int):=by
   rw [AAR (by omega),hm,List.getElem_take];omega
  rw [e3]
 ·have hi7:i=7:=by simp at e;omega
  subst hi7;rw [hu7];obtain ⟨b7,o7,hix7,hc7⟩:=Bytes.at (k:=7) h (by omega);obtain ⟨b8,o8,hix8,hc8⟩:=Bytes.at (k:=8) h (by omega);have hix7':ixV 1 v (.int .i64 7)=some (.pointer (some ⟨b7,o7,none⟩)):=hix7;have hix8':ixV 1 v (.int .i64 8)=some (.pointer (some ⟨b8,o8,none⟩)):=hix8;have hd:S.drop 7=[S[7],S[8]]:=by
   rw [List.drop_eq_getElem_cons (by omega),List.drop_eq_getElem_cons (by omega),List.drop_of_length_le (by omega)]
  have hlog:s.fLogic=((S[7].toNat * 256+S[8].toNat:Nat):Int):=by
   rw [←hu2,hd];simp [unB]
  have ht7:=S[7].toNat_lt;have ht8:=S[8].toNat_lt;unfold Wm;refine AZ ?_;simp only [hix7',SSd,Nat.reduceAdd];refine CQ (hc7 I' [] (Ext.refl _)) (Ext.refl _) ?_;simp only [hix8',wrap_i64 (S[7].toNat:Int) (by omega),ANR (n:=S[7].toNat) (by omega),SSd,Nat.reduceAdd];refine CQ (hc8 I' [] (Ext.refl _)) (Ext.refl _) ?_;simp only [wrap_i64 (S[8].toNat:Int) (by omega),or8 (n:=S[7].toNat) (by omega),←hlog,SSd,Nat.reduceAdd];refine st1 rfl ?_;try simp only [SSd,Nat.reduceAdd]
  refine rdP _ rfl rfl ?_;refine Bz (EK (x:=s) hr (fun X1 u h1=>OB.freeze h1 (fun I2 hI2 hb2=>Gh.done ?_)));try simp only [SSd,Nat.reduceAdd]
  refine call (JF hb2 (h.mono hI2) ?_);rw [hS];simp only [beq_self_eq_true,Bool.not_true,SSd,Nat.reduceAdd];refine rdP _ rfl rfl ?_;refine stB rfl rfl (AK rfl) ?_;refine rdP _ rfl rfl ?_;exact Gh.to L (Gh.done (hk I2 hI2))
theorem Vd:∀{p:List UInt8},(0:UInt8) ∉ p→esc p=p
 |[],_=>rfl
 |c::p,h=>by
  have hc:¬c=0:=fun e=>h (by rw [e];exact List.mem_cons_self ..);have:=Vd (p:=p) fun hm=>h (List.mem_cons_of_mem _ hm);unfold esc at this ⊢;rw [List.flatMap_cons,if_neg hc,this];rfl
theorem MN:∀k:List UInt8,∃p,(0:UInt8) ∉ p∧(k=p∨∃r,k=p++0::r)
 |[]=>⟨[],by simp,.inl rfl⟩
 |c::k=>by
  by_cases h:c=0
  ·exact ⟨[],by simp,.inr ⟨k,by rw [h];rfl⟩⟩
  ·obtain ⟨p,h1,h2⟩:=MN k;refine ⟨c::p,fun hm=>?_,?_⟩
   ·rcases List.mem_cons.1 hm with e|hm
    ·exact h e.symm
    ·exact h1 hm
   ·rcases h2 with rfl|⟨r,rfl⟩
    ·exact .inl rfl
    ·exact .inr ⟨r,rfl⟩
theorem ZH (k:List UInt8):∃p:List UInt8,(0:UInt8) ∉ p∧((k=p∧ktF k=p++[0,1])∨∃r,k=p++0::r∧ktF k=p++0::255::ktF r):=by
 obtain ⟨p,h1,rfl|⟨r,rfl⟩⟩:=MN k
 ·exact ⟨k,h1,.inl ⟨rfl,by unfold ktF;rw [Vd h1]⟩⟩
 ·refine ⟨p,h1,.inr ⟨r,rfl,?_⟩⟩;unfold ktF;rw [HM,Vd h1];show p++([0,255]++esc r)++[0,1]=_;simp
theorem Ue {v:Value}{k rest:List UInt8}(h:Bytes I v (ktF k++rest))(hl:k.length≤1000000)(hr:rest.length≤1000000)(hk:∀I' v',Ext I I'→Bytes I' v' k→K (.tuple #[v',.int .i64 (ktF k).length,.int .i64 0]) I' L):CT ω 207 #[v] K I L:=by
 refine AMG ?_;unfold ABx;refine loop (fun q t I' L'=>I'=I∧∃(at':Nat) (pre k1 k2:List UInt8) (XO:LH) (u:Value),q=k2.length∧t=(.slice none 0 0,.int .i64 0,.int .i64 0,u,.int .i64 at',())∧L'=XO++L∧OB XO u k1∧ktF k=pre++ktF k2∧pre.length=at'∧k=k1++k2) k.length ⟨rfl,0,[],[],k,[],_,rfl,rfl,rfl,SlO.none _ 1,rfl,rfl,rfl⟩ ?_;rintro q t I' L' ⟨rfl,at',pre,k1,k2,XO,u,rfl,rfl,rfl,hO,hkt,hat,hkk⟩;have hlenk:(ktF k).length≤2000002:=by
  have h2:=GX k;have h3:=List.count_le_length (a:=(0:UInt8)) (l:=k);simp only [ktF,List.length_append,List.length_cons,List.length_nil];omega
 have hk1:k1.length≤k.length:=by rw [hkk];simp
 obtain ⟨p,hp0,hcase⟩:=ZH k2;obtain ⟨c,r,hk2,hcr⟩:∃(c:UInt8) (r:List UInt8),ktF k2=p++0::c::r∧((c=1∧r=[]∧k2=p)∨(c=255∧∃k3,r=ktF k3∧k2=p++0::k3)):=by
  rcases hcase with ⟨e1,e2⟩|⟨k3,e1,e2⟩
  ·exact ⟨1,[],e2,.inl ⟨rfl,rfl,e1⟩⟩
  ·exact ⟨255,ktF k3,e2,.inr ⟨rfl,k3,rfl,e1⟩⟩
 have hall:ktF k++rest=(pre++p)++0::c::(r++rest):=by rw [hkt,hk2];simp
 have hN:(ktF k++rest).length=at'+p.length+2+(r++rest).length:=by rw [hall];simp;omega
 have hN2:(ktF k++rest).length≤3000002:=by rw [List.length_append];omega
 obtain ⟨vd,hsd,hbd⟩:=Bytes.drop h (n:=at') (by omega);have hdrop:(ktF k++rest).drop at'=p++0::c::(r++rest):=by
  rw [hall,List.append_assoc,List.drop_left' hat]
 rw [hdrop] at hbd;obtain ⟨vp,hsp,hbp⟩:=Bytes.part h (lo:=at') (hi:=at'+p.length) (by omega) (by omega);have hpart:((ktF k++rest).drop at').take (at'+p.length - at')=p:=by
  rw [hdrop,Nat.add_sub_cancel_left,List.take_left' rfl]
 rw [hpart] at hbp;have hsp':Ao 1 v (some (.int .i64 at')) (some (.int .i64 ((at':Int)+p.length))) none=some vp:=by rw [←hsp];congr 3
 obtain ⟨bb,off,hix,hcell⟩:=Bytes.at (k:=at'+p.length+1) h (by omega);have hbyte:(ktF k++rest)[at'+p.length+1]'(by omega)=c:=by
  have e:∀(l:List UInt8) (hl:l=(pre++p)++0::c::(r++rest)) (hi:at'+p.length+1 < l.length),l[at'+p.length+1]'hi=c:=by
   intro l hl hi;subst hl;rw [List.getElem_append_right (by simp;omega)];simp [hat]
  exact e _ hall _
 rw [hbyte] at hcell;unfold Wi;simp only [hsd,SSd,Nat.reduceAdd];refine call (Ht hbd rfl hp0 ?_);try simp only [SSd,Nat.reduceAdd]
 refine AG (fun e=>?_) (fun e=>absurd e (by simp));have w1:IntKind.i64.wrap ((at':Int)+p.length)=(at':Int)+p.length:=wrap_i64 _ (by omega);have w2:IntKind.i64.wrap ((at':Int)+p.length+1)=(at':Int)+p.length+1:=wrap_i64 _ (by omega);have w3:IntKind.i64.wrap ((p.length:Int)+2)=(p.length:Int)+2:=wrap_i64 _ (by omega);have w4:IntKind.i64.wrap ((at':Int)+((p.length:Int)+2))=((at'+p.length+2:Nat):Int):=by rw [wrap_i64 _ (by omega)];omega
 have w5:IntKind.i64.wrap (((at'+p.length+2:Nat):Int) - 1)=((at'+p.length+1:Nat):Int):=by rw [wrap_i64 _ (by omega)];omega
 have hne:((at':Int)+p.length+1==((ktF k++rest).length:Int))=false:=by
  simp only [beq_eq_false_iff_ne,ne_eq,hN];omega
 simp only [w1,w2,Bytes.len h,hne,hsp',SSd,Nat.reduceAdd];have hpk:p.length≤k2.length:=by rcases hcr with ⟨_,_,e⟩|⟨_,k3,_,e⟩ <;> rw [e] <;> simp
 have hk2l:k2.length≤k.length:=by rw [hkk];simp
 refine Hm (X6:=XO) hO (SlI.news hbp) (by omega) (fun X6 u6 h6=>?_);simp only [w3,w4,w5,hix,SSd,Nat.reduceAdd];refine rd1 (hcell _ _ (Ext.refl _)) ?_;try simp only [SSd,Nat.reduceAdd]
 rcases hcr with ⟨rfl,rfl,hkp⟩|⟨rfl,k3,hr3,hkp⟩
 ·have e1:(((1:UInt8).toNat:Int)==1)=true:=rfl;simp only [e1,SSd,Nat.reduceAdd];unfold Wh;have hkl:(ktF k).length=at'+p.length+2:=by rw [hkt,hk2];simp;omega
  rw [←hkl];have hke:k1++p=k:=by rw [hkk,hkp]
  rw [hke] at h6;refine AJR (OB.freeze h6 (fun I2 hI2 hB=>Gh.done ?_));refine call (OV hB (fun v' hv'=>?_));try simp only [SSd,Nat.reduceAdd]
  exact Gh.done (hk I2 v' hI2 hv')
 ·have e1:(((255:UInt8).toNat:Int)==1)=false:=rfl;have e2:(((255:UInt8).toNat:Int)==255)=true:=rfl;simp only [e1,SSd,Nat.reduceAdd];unfold Wg;simp only [e2,SSd,Nat.reduceAdd];refine AGd (x:=0) h6 (by simp;omega) (fun X1 X7 v7 h7=>?_);refine Gh.to (X7++L) (Gh.done (Gh.done ⟨k3.length,by rw [hkp];simp;omega,rfl,at'+p.length+2,pre++p++[0,255],k1++p++[0],k3,X7,v7,rfl,rfl,rfl,h7,?_,by simp;omega,by rw [hkk,hkp];simp⟩));rw [hkt,hk2,hr3];simp
theorem Pg {v:Value}{x:TVer}(h:Bytes I v (Af x))(hd:x.fDel=true→x.fValue=[])(hk:K (.tuple #[vv ⟨z0,x.fDel,x.fValue⟩,.bool true]) I L):CT ω 205 #[v] K I L:=by
 obtain ⟨c,hc,hv⟩:∃c:UInt8,Af x=c::x.fValue∧((c=1∧x.fDel=true)∨(c=0∧x.fDel=false)):=by
  unfold Af;cases hdd:x.fDel with
  |true=>exact ⟨1,by rw [hd hdd];rfl,.inl ⟨rfl,rfl⟩⟩
  |false=>exact ⟨0,by simp,.inr ⟨rfl,rfl⟩⟩
 rw [hc] at h;obtain ⟨b,off,hix,hcell⟩:=Bytes.at (k:=0) h (by simp);have hix':ixV 1 v (.int .i64 0)=some (.pointer (some ⟨b,off,none⟩)):=hix;obtain ⟨vd,hsd,hbd⟩:=Bytes.drop h (n:=1) (by simp);have hsd':Ao 1 v (some (.int .i64 1)) none none=some vd:=hsd;simp only [List.drop_succ_cons,List.drop_zero] at hbd;simp only [List.getElem_cons_zero] at hcell;have hl:(((c::x.fValue).length:Int)==0)=false:=by simp;omega
 refine AMH ?_;unfold ACA;refine AV (fun b1=>?_);simp only [Bytes.len h,hl,hix',SSd,Nat.reduceAdd];refine rd1 (hcell _ _ (Ext.refl _)) ?_;rcases hv with ⟨rfl,hdd⟩|⟨rfl,hdd⟩
 ·have hx:=hd hdd;have e1:decide ((1:Int) < ((1:UInt8).toNat:Int))=false:=rfl;have e2:(((1:UInt8).toNat:Int)==1)=true:=rfl;have e3:decide ((1:Int) < (((1:UInt8)::x.fValue).length:Int))=false:=by rw [hx];rfl
  simp only [e1,SSd,Nat.reduceAdd];refine rd1 (hcell _ _ (Ext.refl _)) ?_;simp only [e2,e3,SSd,Nat.reduceAdd];refine AZ ?_;refine CQ (hcell I [] (Ext.refl _)) (Ext.refl _) ?_;simp only [e2,hsd',SSd,Nat.reduceAdd];refine Ek hbd (Ext.refl _) ?_;try simp only [SSd,Nat.reduceAdd]
  refine stB rfl rfl (AK rfl) ?_;refine rdP _ rfl rfl ?_;rw [hdd] at hk;exact Gh.to L (Gh.done hk)
 ·have e1:decide ((1:Int) < ((0:UInt8).toNat:Int))=false:=rfl;have e2:(((0:UInt8).toNat:Int)==1)=false:=rfl;simp only [e1,SSd,Nat.reduceAdd];refine rd1 (hcell _ _ (Ext.refl _)) ?_;simp only [e2,SSd,Nat.reduceAdd];refine AZ ?_;refine CQ (hcell I [] (Ext.refl _)) (Ext.refl _) ?_;simp only [e2,hsd',SSd,Nat.reduceAdd];refine Ek hbd (Ext.refl _) ?_;try simp only [SSd,Nat.reduceAdd]
  refine stB rfl rfl (AK rfl) ?_;refine rdP _ rfl rfl ?_;rw [hdd] at hk;exact Gh.to L (Gh.done hk)
theorem VS {b:Nat}{X F:LH}{s:Sp}{nt:Nts}{v1 v2:Value}{fl:TStamp}(hS:SpR I b X s nt)(h1:Bytes I v1 [102])(h2:Bytes I v2 (stF fl))(hr:AU fl=true)
  (hk:∀X' I',Ext I I'→SpR I' b X' ⟨s.rows,fl⟩ nt→K (.bool true) I' (X'++F)):CT ω 140 #[pt b,.agg #[v1,v2]] K I (X++F):=by
 obtain ⟨a1,c1,rfl⟩:=Bytes.form h1;obtain ⟨a2,c2,rfl⟩:=Bytes.form h2;obtain ⟨ps,m,ch,kv,es,clock,KX,RX,NX,hp,hF⟩:=hS;refine Cal.perm (L':=(b,spO m kv s.floor ch)::(((m,.map es clock)::(KX++(RX++NX)))++F)) (AP (by rw [AN,BA hp];((try simp only [AM,AN,AY,AQ]);(try ac_rfl)))) ?_;refine AMq ?_;unfold ADH;refine AV (fun bx=>?_);try simp only [SSd,Nat.reduceAdd]
 refine rdb ?_;refine call (JD h2 hr (fun I1 hI1=>?_));try simp only [SSd,Nat.reduceAdd]
 refine AV (fun ba=>?_);refine stB rfl rfl (AK rfl) ?_;refine rdP _ rfl rfl ?_;try simp only [SSd,Nat.reduceAdd]
 refine stP _ rfl rfl rfl ?_ ?_
 ·rfl
 simp only [beq_self_eq_true,SSd,Nat.reduceAdd];refine rdb ?_;simp only [List.length_singleton,Int.natCast_one,beq_self_eq_true,SSd,Nat.reduceAdd];refine Gh.drop ((List.sublist_cons_self _ _).trans (List.sublist_cons_self _ _)) (Gh.done ?_);exact hk ((b,spO m kv fl ch)::((m,.map es clock)::(KX++(RX++NX)))) I1 hI1 ⟨ps,m,ch,kv,es,clock,KX,RX,NX,List.Perm.refl _,⟨hF.map,hF.keys,hF.rows,hF.nts.mono hI1⟩⟩
theorem VR {b:Nat}{X F:LH}{s:Sp}{nt:Nts}{v1 v2:Value}{k:List UInt8}{it:Itn}(hS:SpR I b X s nt)(hok:SpOk s)(hlen:s.rows.length≤100000000)(hko:Ap k=true)(ht:CB it.txn=true)(hv:VerOk it.ver)(h1:Bytes I v1 (105::k))(h2:Bytes I v2 (stF it.ver.fAt++Bc it.txn.toNat++Af it.ver))
  (hk:∀A B r X' I',Ext I I'→Slot A k B r s.rows→SpR I' b X' ⟨A++⟨k,r.vs,it⟩::B,s.floor⟩ nt→K (.bool true) I' (X'++F)):CT ω 141 #[pt b,.agg #[v1,v2]] K I (X++F):=by
 obtain ⟨⟨at',del,val⟩,txn⟩:=it;have htx:1≤txn∧txn≤9007199254740991:=by simpa [CB] using ht
 obtain ⟨n,rfl⟩:∃n:Nat,txn=n:=⟨txn.toNat,by omega⟩;simp only [Int.toNat_natCast] at h2;obtain ⟨vk,hsk,hbk⟩:=Bytes.drop h1 (n:=1) (by simp);have hsk':Ao 1 v1 (some (.int .i64 1)) none none=some vk:=hsk;simp only [List.drop_succ_cons,List.drop_zero] at hbk;rw [List.append_assoc] at h2;have hvl:=Me 8 n (by omega) (by omega);have htl:(Af ⟨at',del,val⟩).length≤10001:=by
  have:=hv.len;unfold Af;split <;> simp at * <;> omega
 have hN:(stF at'++(Bc n++Af ⟨at',del,val⟩)).length=9+((Bc n).length+(Af ⟨at',del,val⟩).length):=by rw [List.length_append,List.length_append,Gy]
 obtain ⟨vs9,hs9,hb9⟩:=Bytes.take h2 (n:=9) (by omega);have hs9':Ao 1 v2 none (some (.int .i64 9)) none=some vs9:=hs9;rw [List.take_left' (Gy at')] at hb9;obtain ⟨vr,hsr,hbr⟩:=Bytes.drop h2 (n:=9) (by omega);have hsr':Ao 1 v2 (some (.int .i64 9)) none none=some vr:=hsr;rw [List.drop_left' (Gy at')] at hbr;obtain ⟨vt,hst,hbt⟩:=Bytes.drop h2 (n:=9+(Bc n).length) (by omega);have hdt:(stF at'++(Bc n++Af ⟨at',del,val⟩)).drop (9+(Bc n).length)=Af ⟨at',del,val⟩:=by
  rw [←List.append_assoc,List.drop_left' (by rw [List.length_append,Gy])]
 rw [hdt] at hbt;have hst':Ao 1 v2 (some (.int .i64 (9+((Bc n).length:Int)))) none none=some vt:=by rw [←hst];congr 3
 have hl2:lenV v2=some (.int .i64 ((9+((Bc n).length+(Af ⟨at',del,val⟩).length):Nat):Int)):=by rw [Bytes.len h2,hN]
 obtain ⟨a1,c1,e1⟩:=Bytes.form h1;obtain ⟨a2,c2,e2⟩:=Bytes.form h2;have o1:v1.oneCell'=true:=by rw [e1];rfl
 have o2:v2.oneCell'=true:=by rw [e2];rfl
 refine AMp ?_;unfold ADF;refine AV (fun bx=>?_);try simp only [SSd,Nat.reduceAdd]
 refine rdb ?_;simp only [hsk',SSd,Nat.reduceAdd];refine call (Cb hbk ?_);simp only [hko,Bool.not_true,SSd,Nat.reduceAdd];refine rdb ?_;simp only [hl2,SSd,Nat.reduceAdd];refine AC (fun e=>absurd e (by simp;omega)) (fun e=>?_);refine rdb ?_;simp only [hs9',SSd,Nat.reduceAdd];refine call (JD hb9 hv.right (fun I1 hI1=>?_));try simp only [SSd,Nat.reduceAdd]
 refine AV (fun ba=>?_);refine stB rfl rfl (AK rfl) ?_;try simp only [SSd,Nat.reduceAdd]
 refine rdb ?_;simp only [hsr',SSd,Nat.reduceAdd];refine call (NC (hbr.mono hI1) (by omega) ?_);have hgt:decide (9007199254740991 < (n:Int))=false:=by simp;omega
 have hz:((n:Int)==0)=false:=by simp;omega
 have w9:IntKind.i64.wrap (9+((Bc n).length:Int))=9+((Bc n).length:Int):=wrap_i64 _ (by omega);have wn:IntKind.i64.wrap (n:Int)=(n:Int):=wrap_i64 _ (by omega);simp only [bne_self_eq_false,hgt,hz,w9,wn,SSd,Nat.reduceAdd];refine rdb ?_;simp only [hst',SSd,Nat.reduceAdd];refine call (Pg (x:=⟨at',del,val⟩) (hbt.mono hI1) hv.del ?_);try simp only [SSd,Nat.reduceAdd]
 refine AV (fun bv=>?_);refine stB rfl rfl (AK rfl) ?_;refine rdP _ rfl rfl ?_;try simp only [SSd,Nat.reduceAdd]
 refine stP _ rfl rfl rfl rfl ?_;refine draw (Stay I1 [(bv,.cells #[.int .i64 at'.fWall,.int .i64 at'.fLogic,.bool del,BR val] 253 (0,0)),(bx,.cells #[v1,v2] 113 (0,0))]) ⟨Ext.refl _,fun y hy=>by simp only [List.mem_cons,List.not_mem_nil,or_false] at hy ⊢;rcases hy with rfl|rfl <;> simp⟩ ?_;try simp only [SSd,Nat.reduceAdd]
 refine Ah ?_;simp only [hsk',SSd,Nat.reduceAdd];refine Ek (hbk.mono hI1) (Ext.refl _) ?_;generalize hvB:((bv,Obj.cells #[.int .i64 at'.fWall,.int .i64 at'.fLogic,.bool del,BR val] 253 (0,0)):Nat×Obj)=vB;generalize hxB:((bx,Obj.cells #[v1,v2] 113 (0,0)):Nat×Obj)=xB;generalize ((ba,Obj.cells #[.int .i64 at'.fWall,.int .i64 at'.fLogic] 41 (0,0)):Nat×Obj)=aB;refine Bz (Cal.perm (L':=X++(vB::aB::xB::F)) (AP (by ((try simp only [AM,AN,AY,AQ]);(try ac_rfl)))) ?_);have main:∀(A B:List Row) (vs:List TVer) (ps:List Nat) (p:Nat) (sl:Value) (Y R:LH) (o:Itn),VsO Y sl vs→SpX I1 b ps R A k B s.floor nt p→(∀X',SpR I1 b X' ⟨A++⟨k,vs,⟨⟨at',del,val⟩,n⟩⟩::B,s.floor⟩ nt→K (.bool true) I1 (X'++F))→
   (CU (Stay I1 [vB,xB]) (fun v43=>Rv (some (Stay I1 [vB,xB])) (AH 4 (pt bv)) fun v44=>Pv (Ab #[.int .i64 0,.int .i64 0,.bool false,.string (ByteArray.mk #[]),.int .i64 0] #[(0,4),(4,1)] [(0,v44),(1,.int .i64 n)]) fun v46=>
    Pv (AO v43) fun v47=>Pv (AA 1 v47) fun v48=>Sto 5 v48 v46 (gh fun _=>Gh (K (.bool true)))) (pt p)) I1 ((p,Am sl o)::(Y++(R++(vB::aB::xB::F)))):=by
  intro A B vs ps p sl Y R o hvs hX hK;refine LO (Ext.refl _) (fun y hy=>by
   simp only [List.mem_cons,List.not_mem_nil,or_false] at hy;rcases hy with rfl|rfl <;> simp) ?_
  subst hvB;refine As _ rfl rfl ?_;try simp only [SSd,Nat.reduceAdd]
  refine stP _ rfl rfl rfl rfl ?_;have hS':=hX.close ⟨k,vs,⟨⟨at',del,val⟩,n⟩⟩ sl Y ((p,Am sl ⟨⟨at',del,val⟩,n⟩)::(Y++R)) rfl hvs (List.Perm.refl _);have hK':=hK _ ⟨ps,hS'⟩;refine Gh.perm (L':=_::aB::xB::(((p,Am sl ⟨⟨at',del,val⟩,n⟩)::(Y++R))++F)) (AP (by ((try simp only [AM,AN,AY,AQ]);(try ac_rfl)))) ?_;exact Gh.drop (((List.sublist_cons_self _ _).trans (List.sublist_cons_self _ _)).trans (List.sublist_cons_self _ _)) (Gh.done hK')
 refine Ku (hS.mono hI1) hok.rise hlen (fun ps A r B p sl Y R e hkr hm hp hv' hX=>?_) (fun ps A B p X' R e hm hp hX=>?_)
 ·refine Gh.perm (L':=(p,Am sl r.it)::(Y++(R++(vB::aB::xB::F)))) (AP (by rw [AN,BA hp];((try simp only [AM,AN,AY,AQ]);(try ac_rfl)))) (Gh.done ?_);exact main A B r.vs ps p sl Y R r.it hv' hX (fun X' hX'=>hk A B r X' I1 hI1 ⟨hm,hkr,.inl e⟩ hX')
 ·refine Gh.perm (L':=(p,Am (.slice none 0 0) noIt)::([]++(R++(vB::aB::xB::F)))) (AP (by rw [AN,BA hp];((try simp only [AM,AN,AY,AQ]);(try ac_rfl)))) (Gh.done ?_);exact main A B [] ps p _ [] R noIt (SlO.none _ _) hX (fun X' hX'=>hk A B ⟨k,[],noIt⟩ X' I1 hI1 ⟨hm,rfl,.inr ⟨e,rfl⟩⟩ hX')
theorem Vn {x y:TVer}(hk:K (.int .i64 (Oq x.fAt y.fAt)) I L):CT ω 209 #[vv x,vv y] K I L:=by
 refine AME ?_;unfold ABt;refine AV (fun b1=>AV (fun b2=>?_));try simp only [SSd,Nat.reduceAdd]
 refine rdP _ rfl rfl ?_;refine rdP _ rfl rfl ?_;refine call (DU (x:=x.fAt) (y:=y.fAt) ?_);exact Gh.to L (Gh.done hk)
theorem Ov {v:Value}{vs:List TVer}{L0:LH}[hsub:LSub L0 L](h:RL TVerV 4 I L0 v vs)(hrise:vs.Pairwise fun a b=>bhd b.fAt a.fAt=true)(hl:vs.length≤100000000)(hk:K (.bool true) I L):CT ω 208 #[v,.func (.func 209) #[] #[]] K I L:=by
 refine AMF ?_;unfold ABv;simp only [RL.len h,SSd,Nat.reduceAdd];refine loop (fun n t I' L'=>I'=I∧L'=L∧∃i:Int,(n:Int)=i+1∧i < vs.length∧t=(.bool false,.int .i64 i,())) vs.length ⟨rfl,rfl,(vs.length:Int) - 1,by omega,by omega,by rw [wrap_i64 _ (by omega)]⟩ ?_;rintro n t I' L' ⟨rfl,rfl,i,hn,hi,rfl⟩;unfold We;try simp only [SSd,Nat.reduceAdd]
 refine AC (fun e=>?_) (fun e=>Gh.done hk);have hi0:0 < i:=by simpa using e
 obtain ⟨b1,o1,c1,hix1,hl1,hc1,hcc1⟩:=RL.ix h (i:=i) (by omega) (by omega);obtain ⟨b2,o2,c2,hix2,hl2,hc2,hcc2⟩:=RL.ix h (i:=i - 1) (by omega) (by omega);have hlt:bhd (Dh vs i).fAt (Dh vs (i - 1)).fAt=true:=by
  obtain ⟨j,rfl⟩:∃j:Nat,i=(j:Int)+1:=⟨(i - 1).toNat,by omega⟩;have e1:((j:Int)+1 - 1)=(j:Int):=by omega
  have e2:((j:Int)+1)=((j+1:Nat):Int):=by omega
  rw [e1,e2,Aq (by omega),Aq (by omega)];exact List.pairwise_iff_getElem.1 hrise j (j+1) (by omega) (by omega) (by omega)
 generalize Dh vs i=x at *;generalize Dh vs (i - 1)=y at *;have hx:c1=_:=hc1;have hy:c2=_:=hc2;subst hx hy;refine AZ ?_;have w1:IntKind.i64.wrap (i - 1)=i - 1:=wrap_i64 _ (by omega);simp only [hix1,hix2,w1,SSd,Nat.reduceAdd];refine VG hl1 (fun I2 L2 hS=>hcc1 I2 L2 hS.1 (fun z hz=>hS.2 z (hsub.sub z hz))) ?_;refine VG hl2 (fun I2 L2 hS=>hcc2 I2 L2 hS.1 (fun z hz=>hS.2 z (hsub.sub z hz))) ?_;refine Kv (by kernel_rfl) ?_;refine call (Vn (x:=x) (y:=y) ?_);have hc:decide (Oq x.fAt y.fAt < 0)=false:=by
  have:=NP x.fAt y.fAt;rw [hlt] at this;simp at this ⊢;omega
 simp only [hc,w1,SSd,Nat.reduceAdd];exact Gh.done ⟨n - 1,by omega,rfl,rfl,i - 1,by omega,by omega,rfl⟩
theorem VQ {b:Nat}{X F:LH}{s:Sp}{nt:Nts}{v1 v2:Value}{k:List UInt8}{v:TVer}(hS:SpR I b X s nt)(hok:SpOk s)(hlen:s.rows.length≤100000000)(hvs:∀r∈s.rows,r.vs.length≤10000000)(hko:Ap k=true)(hv:VerOk v)(h1:Bytes I v1 (Ag k v))(h2:Bytes I v2 (Af v))
  (hrise:∀A B r,Slot A k B r s.rows→(r.vs++[v]).Pairwise fun a b=>bhd b.fAt a.fAt=true)
  (hk:∀A B r X' I',Ext I I'→Slot A k B r s.rows→SpR I' b X' ⟨A++⟨k,r.vs++[v],r.it⟩::B,s.floor⟩ nt→K (.bool true) I' (X'++F)):CT ω 142 #[pt b,.agg #[v1,v2]] K I (X++F):=by
 obtain ⟨at',del,val⟩:=v;have hkl:=Dl hko;have hktl:(ktF k).length≤250:=by
  have h2:=GX k;have h3:=List.count_le_length (a:=(0:UInt8)) (l:=k);simp only [ktF,List.length_append,List.length_cons,List.length_nil];omega
 unfold Ag at h1;have hN:(118::(ktF k++stF at')).length=1+(ktF k).length+9:=by simp [Gy];omega
 obtain ⟨vk,hsk,hbk⟩:=Bytes.drop h1 (n:=1) (by simp);have hsk':Ao 1 v1 (some (.int .i64 1)) none none=some vk:=hsk;simp only [List.drop_succ_cons,List.drop_zero] at hbk;obtain ⟨vt,hst,hbt⟩:=Bytes.drop h1 (n:=1+(ktF k).length) (by rw [hN];omega);have hdt:(118::(ktF k++stF at')).drop (1+(ktF k).length)=stF at':=by
  rw [Nat.add_comm,List.drop_succ_cons,List.drop_left' rfl]
 rw [hdt] at hbt;have hst':Ao 1 v1 (some (.int .i64 (1+((ktF k).length:Int)))) none none=some vt:=by rw [←hst];congr 3
 obtain ⟨a1,c1,e1⟩:=Bytes.form h1;obtain ⟨a2,c2,e2⟩:=Bytes.form h2;have o1:v1.oneCell'=true:=by rw [e1];rfl
 have o2:v2.oneCell'=true:=by rw [e2];rfl
 have w1:IntKind.i64.wrap (1+((ktF k).length:Int))=1+((ktF k).length:Int):=wrap_i64 _ (by omega);refine AMo ?_;unfold ADD;refine AV (fun bx=>?_);try simp only [SSd,Nat.reduceAdd]
 refine rdb ?_;simp only [hsk',SSd,Nat.reduceAdd];refine call (Ue hbk (by omega) (by rw [Gy];omega) (fun I1 vk2 hI1 hbk2=>?_));simp only [bne_self_eq_false,SSd,Nat.reduceAdd];refine call (Cb hbk2 ?_);simp only [hko,Bool.not_true,SSd,Nat.reduceAdd];refine rdb ?_;simp only [w1,hst',SSd,Nat.reduceAdd];refine call (JD (hbt.mono hI1) hv.right (fun I2 hI2=>?_));try simp only [SSd,Nat.reduceAdd]
 refine AV (fun ba=>?_);refine stB rfl rfl (AK rfl) ?_;try simp only [SSd,Nat.reduceAdd]
 refine rdb ?_;refine call (Pg (x:=⟨at',del,val⟩) (h2.mono (hI1.trans hI2)) hv.del ?_);try simp only [SSd,Nat.reduceAdd]
 refine AV (fun bv=>?_);refine stB rfl rfl (AK rfl) ?_;refine rdP _ rfl rfl ?_;try simp only [SSd,Nat.reduceAdd]
 refine stP _ rfl rfl rfl rfl ?_;simp only [bne_self_eq_false,Bool.not_true,SSd,Nat.reduceAdd];refine Gq (hbk2.mono hI2) (Ext.refl _) ?_;generalize hvB:((bv,Obj.cells #[.int .i64 at'.fWall,.int .i64 at'.fLogic,.bool del,BR val] 253 (0,0)):Nat×Obj)=vB;generalize ((bx,Obj.cells #[v1,v2] 113 (0,0)):Nat×Obj)=xB;generalize ((ba,Obj.cells #[.int .i64 at'.fWall,.int .i64 at'.fLogic] 41 (0,0)):Nat×Obj)=aB;refine Bz (Cal.perm (L':=X++(vB::aB::xB::F)) (AP (by ((try simp only [AM,AN,AY,AQ]);(try ac_rfl)))) ?_);have hI12:=hI1.trans hI2;have main:∀(A B:List Row) (vs:List TVer) (ps:List Nat) (p:Nat) (sl:Value) (Y R:LH) (o:Itn),VsO Y sl vs→vs.length≤10000000→(vs++[(⟨at',del,val⟩:TVer)]).Pairwise (fun a b=>bhd b.fAt a.fAt=true)→SpX I2 b ps R A k B s.floor nt p→(∀X',SpR I2 b X' ⟨A++⟨k,vs++[⟨at',del,val⟩],o⟩::B,s.floor⟩ nt→K (.bool true) I2 (X'++F))→
   (Ad fun S=>Rv (some S) (AD (pt p)) fun v34=>Rv (some S) (AH 4 (pt bv)) fun v35=>BN 253 4 #[.int .i64 0,.int .i64 0,.bool false,.string (ByteArray.mk #[])] 1 [(0,v35)] (gh (CU S fun v36=>App 253 4 40 #[.int .i64 0,.int .i64 0,.bool false,.string (ByteArray.mk #[])] v34 v36 (gh fun v37=>
    Sto 1 (pt p) v37 (gh fun _=>Rv none (AD (pt p)) fun v42=>CT ω 208 #[v42,.func (.func 209) #[] #[]] (gh fun v43=>Gh (K v43))))))) I2 ((p,Am sl o)::(Y++(R++(vB::aB::xB::F)))):=by
  intro A B vs ps p sl Y R o hvo hvl hpr hX hK;obtain ⟨sa,sc,rfl⟩:=hvo.form;subst hvB;refine AZ ?_;refine Ah ?_;refine As _ rfl rfl ?_;refine Fb rfl (by omega) rfl (fun X1 u hX1=>?_);refine FC (Ext.refl _) ?_;refine Dz (X:=Y) (news:=Et ⟨at',del,val⟩) rfl hvo (hX1.news (fun x hx=>List.mem_append_left _ hx)) (AK rfl) (by omega) (by omega) (fun Y2 sl2 hY2=>?_);obtain ⟨sa3,sc3,rfl⟩:=hY2.form;refine st1 rfl ?_;refine rdb ?_;have hv2:VsO Y2 (.slice sa3 (vs.length+1) sc3) (vs++[⟨at',del,val⟩]):=by
   unfold VsO;rw [FW,List.length_append];exact hY2
  refine call (Ov (L0:=Y2) (hv2.rl fun _ h=>h) hpr (by simp;omega) ?_);have hS':=hX.close ⟨k,vs++[⟨at',del,val⟩],o⟩ _ Y2 ((p,Am (.slice sa3 (vs.length+1) sc3) o)::(Y2++R)) rfl hv2 (List.Perm.refl _);have hK':=hK _ ⟨ps,hS'⟩;refine Gh.perm (L':=(X1++((bv,Obj.cells #[.int .i64 at'.fWall,.int .i64 at'.fLogic,.bool del,BR val] 253 (0,0))::aB::xB::[]))++(((p,Am (.slice sa3 (vs.length+1) sc3) o)::(Y2++R))++F)) (AP (by ((try simp only [AM,AN,AY,AQ]);(try ac_rfl)))) (Gh.drop (List.sublist_append_right ..) (Gh.done hK'))
 refine Ku (hS.mono hI12) hok.rise hlen (fun ps A r B p sl Y R e hkr hm hp hv' hX=>?_) (fun ps A B p X' R e hm hp hX=>?_)
 ·refine Gh.perm (L':=(p,Am sl r.it)::(Y++(R++(vB::aB::xB::F)))) (AP (by rw [AN,BA hp];((try simp only [AM,AN,AY,AQ]);(try ac_rfl)))) (Gh.done ?_);exact main A B r.vs ps p sl Y R r.it hv' (hvs r (by rw [e];simp)) (hrise A B r ⟨hm,hkr,.inl e⟩) hX (fun X' hX'=>hk A B r X' I2 hI12 ⟨hm,hkr,.inl e⟩ hX')
 ·refine Gh.perm (L':=(p,Am (.slice none 0 0) noIt)::([]++(R++(vB::aB::xB::F)))) (AP (by rw [AN,BA hp];((try simp only [AM,AN,AY,AQ]);(try ac_rfl)))) (Gh.done ?_);exact main A B [] ps p _ [] R noIt (SlO.none _ _) (by simp) (hrise A B ⟨k,[],noIt⟩ ⟨hm,rfl,.inr ⟨e,rfl⟩⟩) hX (fun X' hX'=>hk A B ⟨k,[],noIt⟩ X' I2 hI12 ⟨hm,rfl,.inr ⟨e,rfl⟩⟩ hX')
theorem QG {v:Value}{l:List TKV}{sp:Sp}(hok:SpOk sp)(h:RL TKVV 2 I [] v l)(hl:∀x:TKV,x∈l↔CP sp x.fKey x.fValue)(hsr:IC l)(hlen:l.length≤10000000)(hvs:∀k,(Ak sp.rows k).length≤10000000)
  (hk:∀I' b X,Ext I I'→SpR I' b X sp nt0→K (.tuple #[pt b,.int .i64 0]) I' (X++L)):CT ω 86 #[v] K I L:=by
 refine ANy ?_;unfold AKT;refine call (Nr (fun b X hS=>?_));simp only [RL.len h,SSd,Nat.reduceAdd];refine loop (fun n t I' L'=>∃(i:Nat) (s:Sp) (X:LH),n+i=l.length∧t=(.pointer none,.int .i64 0,.int .i64 i,())∧Ext I I'∧L'=X++L∧SpR I' b X s nt0∧LInv sp (l.take i) s∧s.rows.length≤i) l.length ⟨0,sp0,X,rfl,rfl,Ext.refl _,rfl,hS,LInv.zero sp,Nat.le_refl _⟩ ?_;rintro n t I' L' ⟨i,s,X,hni,rfl,hI,rfl,hS',hinv,hrl⟩;unfold AAc;try simp only [SSd,Nat.reduceAdd]
 refine AC (fun e=>?_) (fun e=>?_)
 ·have hi:i < l.length:=by simpa using e
  have h':=RL.monoI (fun x c h=>h.mono hI) h hI;obtain ⟨q,off,c,hix,hcl,hc,hcc⟩:=RL.ix h' (i:=(i:Int)) (by omega) (by omega);rw [Aq hi] at hc;have hmem:=List.getElem_mem hi;have htake:l.take i++[l[i]]=l.take (i+1):=(List.take_succ_eq_append_getElem hi).symm;have hbef:∀y∈l.take i,blt y.fKey l[i].fKey=true:=by
   intro y hy;obtain ⟨j,hj,rfl⟩:=List.getElem_of_mem hy;rw [List.getElem_take];rw [List.length_take] at hj;exact List.pairwise_iff_getElem.1 hsr j i (by omega) hi (by omega)
  generalize l[i]=x at *;have hkept:=(hl x).1 hmem;obtain ⟨w1,w2,rfl,g1,g2⟩:=hc;have hcv:=hcc I' [] (Ext.refl _) (fun _ h=>h);obtain ⟨a1,d1,rfl⟩:=Bytes.form g1;obtain ⟨a2,d2,rfl⟩:=Bytes.form g2;have three:∀{I5:Imm} {X5 L5:LH} {s5:Sp} [SubP (X5++L) L5],Ext I' I5→SpR I5 b X5 s5 nt0→LInv sp (l.take i++[x]) s5→s5.rows.length≤i+1→
    Iu ω (.pointer none) (.int .i64 0) (.bool true) (.int .i64 i) (fun s'=>Gh fun I2 L2=>∃m',m' < n∧∃(i:Nat) (s:Sp) (X:LH),m'+i=l.length∧s'=(.pointer none,.int .i64 0,.int .i64 i,())∧Ext I I2∧L2=X++L∧SpR I2 b X s nt0∧LInv sp (l.take i) s∧s.rows.length≤i) (fun v=>Gh (K v)) I5 L5:=by
   intro I5 X5 L5 s5 _ hI5 hS5 hinv5 hr5;unfold Iu;simp only [Bool.not_true,SSd,Nat.reduceAdd];rw [wrap_i64 _ (by omega)];rw [htake] at hinv5;exact Gh.to (X5++L) (Gh.done ⟨n - 1,by omega,i+1,s5,X5,by omega,rfl,hI.trans hI5,rfl,hS5,hinv5,hr5⟩)
  simp only [hix,SSd,Nat.reduceAdd];refine Jl hcv (Ext.refl _) rfl ?_;refine AV (fun bx=>?_);refine stB rfl rfl (AK rfl) ?_;try simp only [SSd,Nat.reduceAdd]
  refine rdb ?_;try simp only [SSd,Nat.reduceAdd]
  have hpos:0 < x.fKey.length:=by
   rcases hkept with ⟨e1,_⟩|⟨k,e1,_⟩|⟨k,w,e1,_⟩ <;> rw [e1] <;> simp [Ag]
  obtain ⟨bb,ob,hixb,hcb⟩:=Bytes.at (k:=0) g1 hpos;have hixb':ixV 1 (.slice a1 x.fKey.length d1) (.int .i64 0)=some (.pointer (some ⟨bb,ob,none⟩)):=hixb;refine AC (fun e4=>?_) (fun e4=>by
   have h9:decide ((0:Int) < (x.fKey.length:Int))=true:=decide_eq_true (by omega);rw [h9] at e4;cases e4)
  refine rdb ?_;simp only [hixb',SSd,Nat.reduceAdd];refine rd1 (hcb _ _ (Ext.refl _)) ?_;rcases hkept with ⟨e1,e2,e3⟩|⟨k,e1,e2⟩|⟨k,w,e1,e2,e3⟩
  ·have hby:x.fKey[0]=102:=by simp [e1]
   have hx:x=⟨[102],stF sp.floor⟩:=by cases x;simp only at e1 e3;rw [e1,e3]
   rw [hby];have c1:((((102:UInt8).toNat:Nat):Int)==102)=true:=rfl;simp only [c1,SSd,Nat.reduceAdd];refine rdP _ rfl rfl ?_;have hin2:=hinv.setFloor hok;rw [←hx] at hin2;rw [e1] at g1;rw [e3] at g2;simp only [e1,e3];refine call (Cal.perm (L':=X++((bx,Obj.cells #[.slice a1 ([102]:List UInt8).length d1,.slice a2 (stF sp.floor).length d2] 113 (0,0))::L)) (AP (by ((try simp only [AM,AN,AY,AQ]);(try ac_rfl)))) (VS hS' g1 g2 hok.floor (fun X5 I5 hI5 hS5=>?_)));exact three hI5 hS5 hin2 (by simp only;omega)
  ·have hby:x.fKey[0]=105:=by simp [e1]
   have h0:=TV hok e2;obtain ⟨r0,hr0,hi0,hk0,hkk⟩:=Ny hok h0;have hro:=(hok.rows r0 (BL hr0)).it;rw [hi0] at hro;have hro2:=hro.resolve_left (fun e=>h0 (by rw [e];rfl));have e3:x.fValue=stF (Aj sp.rows k).ver.fAt++Bc (Aj sp.rows k).txn.toNat++Af (Aj sp.rows k).ver:=by
    unfold BP at e2;rw [if_neg h0] at e2;simpa using e2.symm
   have hx:x=⟨105::k,x.fValue⟩:=by cases x;simp only at e1 ⊢;rw [e1]
   rw [hby];have c1:((((105:UInt8).toNat:Nat):Int)==102)=false:=rfl;have c2:((((105:UInt8).toNat:Nat):Int)==105)=true:=rfl;simp only [c1,c2,SSd,Nat.reduceAdd];refine rdP _ rfl rfl ?_;rw [e1] at g1;have g2':=g2;rw [e3] at g2';refine call (Cal.perm (L':=X++((bx,Obj.cells #[.slice a1 x.fKey.length d1,.slice a2 x.fValue.length d2] 113 (0,0))::L)) (AP (by ((try simp only [AM,AN,AY,AQ]);(try ac_rfl)))) (VR hS' hinv.ok (by omega) hk0 hro2.1 hro2.2 (by rw [e1];exact g1) (by rw [e3];exact g2') (fun A B r X5 I5 hI5 hsl hS5=>?_)));have hin2:=hinv.setIt hok hsl (t:=x.fValue) e2;rw [←hx] at hin2;have:=hsl.len (r':=⟨k,r.vs,Aj sp.rows k⟩);exact three hI5 hS5 hin2 (by simp only;omega)
  ·have hby:x.fKey[0]=118:=by simp [e1,Ag]
   have hx:x=⟨Ag k w,Af w⟩:=by cases x;simp only at e1 e3;rw [e1,e3]
   obtain ⟨r0,hr0,hkk,hrv⟩:=MR e2;have hko:Ap k=true:=by rw [←hkk];exact (hok.rows r0 hr0).key
   have hvo:=(DR hok k).2 w e2;rw [hby];have c1:((((118:UInt8).toNat:Nat):Int)==102)=false:=rfl;have c2:((((118:UInt8).toNat:Nat):Int)==105)=false:=rfl;have c3:((((118:UInt8).toNat:Nat):Int)==118)=true:=rfl;simp only [c1,c2,c3,SSd,Nat.reduceAdd];refine rdP _ rfl rfl ?_;have hbef2:∀y∈l.take i,blt y.fKey (Ag k w)=true:=fun y hy=>by rw [←e1];exact hbef y hy
   have hvb:∀r∈s.rows,r.vs.length≤10000000:=fun r hr=>by
    have h1:=NU hinv.ok.rise hr;rw [hinv.vs] at h1;rw [←h1];exact Nat.le_trans (List.length_filter_le _ _) (hvs _)
   refine call (Cal.perm (L':=X++((bx,Obj.cells #[.slice a1 x.fKey.length d1,.slice a2 x.fValue.length d2] 113 (0,0))::L)) (AP (by ((try simp only [AM,AN,AY,AQ]);(try ac_rfl)))) (VQ (v:=w) hS' hinv.ok (by omega) hvb hko hvo (by rw [←e1];exact g1) (by rw [←e3];exact g2) (fun A B r hsl=>?_) (fun A B r X5 I5 hI5 hsl hS5=>?_)))
   ·have hin2:=hinv.addV hok hsl e2 hbef2;exact (hin2.ok.rows ⟨k,r.vs++[w],r.it⟩ (by simp)).rise
   ·have hin2:=hinv.addV hok hsl e2 hbef2;rw [←hx] at hin2;have:=hsl.len (r':=⟨k,r.vs++[w],r.it⟩);exact three hI5 hS5 hin2 (by simp only;omega)
 ·have hil:i=l.length:=by simp at e;omega
  subst hil;rw [List.take_length] at hinv;have:=hinv.done hok hl;subst this;exact Gh.done (hk I' b X hI hS')
end
section
variable {ω:Om}{I:Imm}{L:LH}{K:Value→M}
end
abbrev reN (m:Mch)(nt:Nts)(k:List UInt8):Mch:={m with nt:=nt,kept:=k}
def Alk (a b:Mch):Prop:=∃nt k,b=reN a nt k
theorem Alk.refl (a:Mch):Alk a a:=⟨a.nt,a.kept,rfl⟩
theorem AIT (m:Mch)(nt:Nts)(kp:List UInt8)(k:List UInt8):room (reN m nt kp) k=reN (room m k) nt kp:=by
 unfold room;have e:GI (reN m nt kp) k=GI m k:=rfl;rw [e];split <;> rfl
theorem AEq (m:Mch)(nt:Nts)(kp k:List UInt8)(a:TStamp)(n:Int):Dx (reN m nt kp) k a n=reN (Dx m k a n) nt kp:=by
 unfold Dx;rw [AIT m nt kp k]
theorem Oh (m:Mch)(nt:Nts)(kp:List UInt8)(c:TCmd):Bl (reN m nt kp) c=Bl m c:=rfl
theorem Qs (m:Mch)(nt:Nts)(kp:List UInt8)(c:TCmd)(e:Int)(a:TStamp):EZ (reN m nt kp) c e a=reN (EZ m c e a) nt kp:=by
 unfold EZ;have e:ES (reN m nt kp) c e a=ES m c e a:=rfl;rw [e];split <;> rfl
theorem RI (m:Mch)(nt:Nts)(kp:List UInt8)(n s:Int)(a:TStamp):Dq (reN m nt kp) n s a=(Dq m n s a).map fun m=>reN m nt kp:=by
 unfold Dq;split
 ·rfl
 ·split <;> rfl
theorem RD (c:TCmd):∀(l:List TIntent) (sp:Sp) (nt nt':Nts),(resL c l sp nt').1=(resL c l sp nt).1∧(resL c l sp nt').2.1=(resL c l sp nt).2.1
 |[],sp,nt,nt'=>⟨rfl,rfl⟩
 |x::l,sp,nt,nt'=>by
  unfold resL;split
  ·exact RD c l sp nt nt'
  ·split
   ·exact ⟨rfl,rfl⟩
   ·exact RD c l _ _ _
def AlkR (x y:TRes×Mch):Prop:=x.1=y.1∧Alk x.2 y.2
theorem AlkR.mk {x:TRes×Mch}{r:TRes}{m:Mch}(nt:Nts)(kp:List UInt8)(h1:x.1=r)(h2:m=reN x.2 nt kp):AlkR x (r,m):=⟨h1,nt,kp,h2⟩
theorem AIz (m:Mch)(nt:Nts)(kp:List UInt8)(c:TCmd):AlkR (FP m c) (FP (reN m nt kp) c):=by
 unfold FP;split
 ·exact .mk nt kp rfl rfl
 ·split
  ·exact .mk nt kp rfl rfl
  ·exact .mk nt kp rfl (AEq ..)
theorem ADl (m:Mch)(nt:Nts)(kp:List UInt8)(c:TCmd):AlkR (EH m c) (EH (reN m nt kp) c):=by
 unfold EH;split
 ·exact .mk nt kp rfl rfl
 ·split
  ·exact .mk nt kp rfl rfl
  ·exact .mk nt kp rfl rfl
theorem AIf (m:Mch)(nt:Nts)(kp:List UInt8)(c:TCmd):AlkR (DN m c) (DN (reN m nt kp) c):=by
 unfold DN;have e:CH (reN m nt kp) c=CH m c:=rfl;rw [Oh m nt kp c,e];split
 ·exact .mk nt kp rfl rfl
 ·split
  ·exact .mk nt kp rfl rfl
  ·split
   ·exact .mk nt kp rfl rfl
   ·split
    ·exact .mk nt kp rfl rfl
    ·dsimp only
     split
     ·exact .mk (Fz m.sp (DC c (BI m.low (CH m c).1 c.fTxn).1) nt) kp rfl (Qs {m with sp:=ET m.sp (DC c (BI m.low (CH m c).1 c.fTxn).1),nt:=Fz m.sp (DC c (BI m.low (CH m c).1 c.fTxn).1) m.nt} _ kp c 0 _)
     ·exact .mk (Fz m.sp (DC c (BI m.low (CH m c).1 c.fTxn).1) nt) kp rfl rfl
theorem AIZ (m:Mch)(nt:Nts)(kp:List UInt8)(c:TCmd):AlkR (Ew m c) (Ew (reN m nt kp) c):=by
 unfold Ew;rw [Oh m nt kp c];split
 ·exact .mk nt kp rfl rfl
 ·split
  ·exact .mk nt kp rfl rfl
  ·split
   ·exact .mk nt kp rfl rfl
   ·split
    ·exact .mk nt kp rfl rfl
    ·split
     ·exact .mk nt kp rfl rfl
     ·exact .mk nt kp rfl (Qs {m with low:=Bw m.low c.fTo c.fTxn} nt kp c 0 z0)
theorem AJS (m:Mch)(nt:Nts)(kp:List UInt8)(c:TCmd):AlkR (FR m c) (FR (reN m nt kp) c):=by
 unfold FR;rw [Oh m nt kp c,RI m nt kp c.fTxn 1 c.fAt];split
 ·exact .mk nt kp rfl rfl
 ·cases Dq m c.fTxn 1 c.fAt with
  |none=>exact .mk nt kp rfl rfl
  |some m1=>
   dsimp only [Option.map]
   have e:recAt (reN m1 nt kp) c.fTxn=recAt m1 c.fTxn:=rfl;rw [e];split
   ·exact .mk nt kp rfl rfl
   ·exact .mk nt kp rfl (Qs ..)
theorem AJH (m:Mch)(nt:Nts)(kp:List UInt8)(c:TCmd):AlkR (FQ m c) (FQ (reN m nt kp) c):=by
 unfold FQ;rw [RI m nt kp c.fTxn 3 c.fAt];cases Dq m c.fTxn 3 c.fAt with
 |none=>exact .mk nt kp rfl rfl
 |some m1=>
  dsimp only [Option.map]
  have e:endOf (reN m1 nt kp) c=reN (endOf m1 c) nt kp:=by
   unfold endOf;have e:recAt (reN m1 nt kp) c.fTxn=recAt m1 c.fTxn:=rfl;rw [e];split <;> rfl
  rw [e];exact .mk nt kp rfl rfl
theorem AEW (m:Mch)(nt:Nts)(kp:List UInt8)(c:TCmd):AlkR (Dc m c) (Dc (reN m nt kp) c):=by
 unfold Dc;rw [RI m nt kp c.fTxn 3 c.fAt];cases Dq m c.fTxn 3 c.fAt with
 |none=>exact .mk nt kp rfl rfl
 |some m1=>
  dsimp only [Option.map]
  have e:GB (reN m1 nt kp) c=reN (GB m1 c) nt kp:=by
   unfold GB;have e:recAt (reN m1 nt kp) c.fTxn=recAt m1 c.fTxn:=rfl;rw [e];split <;> rfl
  rw [e];exact .mk nt kp rfl rfl
theorem AJC (m:Mch)(nt:Nts)(kp:List UInt8)(c:TCmd):AlkR (HL m c) (HL (reN m nt kp) c):=by
 unfold HL;have e:recAt (reN m nt kp) c.fTxn=recAt m c.fTxn:=rfl;rw [e];split
 ·exact .mk nt kp rfl rfl
 ·exact .mk nt kp rfl rfl
theorem AIW (m:Mch)(nt:Nts)(kp:List UInt8)(c:TCmd):AlkR (FX m c) (FX (reN m nt kp) c):=by
 unfold FX;split
 ·exact .mk nt kp rfl rfl
 ·obtain ⟨h1,h2⟩:=RD c (intsOf m.sp.rows) m.sp m.nt nt;exact .mk (resL c (intsOf m.sp.rows) m.sp nt).2.2 kp (by rw [h1]) (by simp only [reN];rw [h2])
theorem AJL (m:Mch)(nt:Nts)(kp:List UInt8)(c:TCmd):AlkR (PC m c) (PC (reN m nt kp) c):=.mk (Hf m.sp c.fAt nt) kp rfl rfl
def AlkA (x y:TRes×Mch×Option Mch):Prop:=x.1=y.1∧Alk x.2.1 y.2.1∧x.2.2=y.2.2
theorem AlkR.no {x y:TRes×Mch}(h:AlkR x y):AlkA (BV x) (BV y):=⟨h.1,h.2,rfl⟩
theorem AAW (m:Mch)(nt:Nts)(kp:List UInt8)(c:TCmd):AlkA (Ci m c) (Ci (reN m nt kp) c):=by
 unfold Ci;split
 ·exact ⟨rfl,⟨nt,kp,rfl⟩,rfl⟩
 ·exact ⟨rfl,⟨noteAs true (CL c.fKey m.sp.rows) nt,kp,rfl⟩,rfl⟩
theorem AlkA.ite {p:Prop}[Decidable p]{a b x y:TRes×Mch×Option Mch}(h1:AlkA a x)(h2:AlkA b y):AlkA (if p then a else b) (if p then x else y):=by
 by_cases h:p
 ·rw [if_pos h,if_pos h];exact h1
 ·rw [if_neg h,if_neg h];exact h2
theorem AGf (m:Mch)(nt:Nts)(kp:List UInt8)(c:TCmd):AlkA (BH m c) (BH (reN m nt kp) c):=
 .ite ⟨rfl,⟨nt,kp,rfl⟩,rfl⟩ (.ite (AIz ..).no (.ite (ADl ..).no (.ite (AIf ..).no (.ite (AIZ ..).no (.ite (AJS ..).no (.ite (AJH ..).no (.ite (AEW ..).no (.ite (AJC ..).no (.ite (AIW ..).no (.ite (AJL ..).no (AAW ..)))))))))))
theorem Alk.apply {a b:Mch}(h:Alk a b)(c:TCmd):AlkA (BH a c) (BH b c):=by
 obtain ⟨nt,k,rfl⟩:=h;exact AGf a nt k c
structure NtOk (base:List UInt8→List UInt8→Prop)(sp:Sp)(nt:Nts)(n:Nat):Prop where
 noted:Noted base sp nt
 fin:NtFin nt n
theorem NtOk.more {base:List UInt8→List UInt8→Prop}{sp:Sp}{nt:Nts}{n k:Nat}(h:NtOk base sp nt n)(hk:n≤k):NtOk base sp nt k:=⟨h.noted,h.fin.more hk⟩
theorem NtOk.put {base:List UInt8→List UInt8→Prop}{sp:Sp}{nt:Nts}{n:Nat}(h:NtOk base sp nt n)(hok:SpOk sp)(x:TIntent):NtOk base (ET sp x) (Fz sp x nt) (n+1):=by
 refine ⟨h.noted.step (Yx hok x nt),?_⟩;unfold Fz;split
 ·exact h.fin.more (by omega)
 ·exact h.fin.upd _ _
theorem NtOk.res {base:List UInt8→List UInt8→Prop}{sp:Sp}{nt:Nts}{n:Nat}(h:NtOk base sp nt n)(hok:SpOk sp)(k:List UInt8)(txn:Int)(yes:Bool)(a:TStamp):NtOk base (Dv sp k txn yes a) (GN sp k txn yes a nt) (n+2):=by
 refine ⟨h.noted.step (Yr hok k txn yes a nt),?_⟩;unfold GN;split
 ·split
  ·unfold Jj;split
   ·exact (h.fin.upd _ _).upd _ _
   ·exact (h.fin.upd _ _).more (by omega)
  ·exact h.fin.more (by omega)
 ·exact h.fin.more (by omega)
theorem NtOk.col {base:List UInt8→List UInt8→Prop}{sp:Sp}{nt:Nts}{n:Nat}(h:NtOk base sp nt n)(hok:SpOk sp)(a:TStamp):NtOk base (colS sp a) (Hf sp a nt) (n+1+Ae sp.rows):=by
 refine ⟨h.noted.step (ZZ hok a nt),?_⟩;unfold Hf;split
 ·exact h.fin.more (by omega)
 ·split
  ·exact (NtFin.col (h.fin.upd _ _)).more (by omega)
  ·exact (NtFin.col h.fin).more (by omega)
theorem NtOk.resL {base:List UInt8→List UInt8→Prop}{c:TCmd}:∀{l:List TIntent} {sp:Sp} {nt:Nts} {n:Nat},SpOk sp→NtOk base sp nt n→NtOk base (resL c l sp nt).2.1 (resL c l sp nt).2.2 (n+2 * l.length)
 |[],sp,nt,n,_,h=>h
 |x::l,sp,nt,n,hok,h=>by
  have h1:=hok.res (k:=x.fKey) (txn:=c.fTxn) (yes:=c.fYes) (a:=c.fAt);have h2:=h.res hok x.fKey c.fTxn c.fYes c.fAt;unfold Go.Proofs.YtmmfcgbfbcamcaaGreatDoor.resL;split
  ·exact (NtOk.resL (l:=l) hok h).more (by simp only [List.length_cons];omega)
  ·split
   ·exact h2.more (by simp only [List.length_cons];omega)
   ·exact (NtOk.resL (l:=l) h1 h2).more (by simp only [List.length_cons];omega)
section
variable {base:List UInt8→List UInt8→Prop}{m:Mch}{N n:Nat}{c:TCmd}
abbrev NtM (base:List UInt8→List UInt8→Prop)(m:Mch)(n:Nat):Prop:=NtOk base m.sp m.nt n
theorem AJB (h:NtM base m n):NtM base (FP m c).2 n:=by
 unfold FP;split
 ·exact h
 ·split
  ·exact h
  ·unfold Dx room;split <;> exact h
theorem ADn (h:NtM base m n):NtM base (EH m c).2 n:=by
 unfold EH;split
 ·exact h
 ·split <;> exact h
theorem Qv {e:Int}{a:TStamp}(h:NtM base m n):NtM base (EZ m c e a) n:=by
 unfold EZ;split <;> exact h
theorem AIh (hM:MOk m N)(h:NtM base m n):NtM base (DN m c).2 (n+1):=by
 have h0:=h.more (Nat.le_succ n);unfold DN;split
 ·exact h0
 ·split
  ·exact h0
  ·split
   ·exact h0
   ·split
    ·exact h0
    ·dsimp only
     have h1:=h.put hM.sp (DC c (BI m.low (CH m c).1 c.fTxn).1);split
     ·exact Qv (m:={m with sp:=_,nt:=_}) h1
     ·exact h1
theorem AIb (h:NtM base m n):NtM base (Ew m c).2 n:=by
 unfold Ew;split
 ·exact h
 ·split
  ·exact h
  ·split
   ·exact h
   ·split
    ·exact h
    ·split
     ·exact h
     ·exact Qv (m:={m with low:=_}) h
theorem RN {m1:Mch}{k s:Int}{a:TStamp}(h:NtM base m n)(e:Dq m k s a=some m1):NtM base m1 n:=by
 unfold Dq at e;split at e
 ·cases e;exact h
 ·split at e
  ·cases e
  ·cases e;exact h
theorem AJU (h:NtM base m n):NtM base (FR m c).2 n:=by
 unfold FR;split
 ·exact h
 ·split
  ·exact h
  ·rename_i e
   have h1:=RN h e;split
   ·exact h1
   ·exact Qv h1
theorem AJJ (h:NtM base m n):NtM base (FQ m c).2 n:=by
 unfold FQ;split
 ·exact h
 ·rename_i e
  have h1:=RN h e;dsimp only
  unfold endOf;split <;> exact h1
theorem AEY (h:NtM base m n):NtM base (Dc m c).2 n:=by
 unfold Dc;split
 ·exact h
 ·rename_i e
  have h1:=RN h e;dsimp only
  unfold GB;split <;> exact h1
theorem AJD (h:NtM base m n):NtM base (HL m c).2 n:=by
 unfold HL;split <;> exact h
theorem AIY (hM:MOk m N)(h:NtM base m n):NtM base (FX m c).2 (n+2 * N):=by
 unfold FX;split
 ·exact h.more (by omega)
 ·exact (NtOk.resL hM.sp h).more (by have:=Rh m.sp.rows;have:=hM.rows;omega)
theorem AJN (hM:MOk m N)(h:NtM base m n):NtM base (PC m c).2 (n+1+N * N):=(h.col hM.sp c.fAt).more (by have:=hM.vers;omega)
abbrev EU (N:Nat):Nat:=N * N+2 * N+3
theorem AGg (hM:MOk m N)(h:NtM base m n)(hs:(BH m c).2.2=none):NtM base (BH m c).2.1 (n+EU N):=by
 have h0:NtM base m (n+EU N):=h.more (by omega);have hle:n≤n+EU N:=by omega
 unfold BH at hs ⊢;by_cases h1:CZ c=false
 ·rw [if_pos h1];exact h0
 rw [if_neg h1] at hs ⊢;unfold doM at hs ⊢;by_cases k1:c.fKind=1
 ·rw [if_pos k1];exact (AJB h).more hle
 rw [if_neg k1] at hs ⊢;by_cases k2:c.fKind=2
 ·rw [if_pos k2];exact (ADn h).more hle
 rw [if_neg k2] at hs ⊢;by_cases k3:c.fKind=3
 ·rw [if_pos k3];exact (AIh hM h).more (by simp only [EU];omega)
 rw [if_neg k3] at hs ⊢;by_cases k4:c.fKind=4
 ·rw [if_pos k4];exact (AIb h).more hle
 rw [if_neg k4] at hs ⊢;by_cases k5:c.fKind=5
 ·rw [if_pos k5];exact (AJU h).more hle
 rw [if_neg k5] at hs ⊢;by_cases k6:c.fKind=6
 ·rw [if_pos k6];exact (AJJ h).more hle
 rw [if_neg k6] at hs ⊢;by_cases k7:c.fKind=7
 ·rw [if_pos k7];exact (AEY h).more hle
 rw [if_neg k7] at hs ⊢;by_cases k8:c.fKind=8
 ·rw [if_pos k8];exact (AJD h).more hle
 rw [if_neg k8] at hs ⊢;by_cases k9:c.fKind=9
 ·rw [if_pos k9];exact (AIY hM h).more (by simp only [EU];omega)
 rw [if_neg k9] at hs ⊢;by_cases k10:c.fKind=10
 ·rw [if_pos k10];exact (AJN hM h).more (by simp only [EU];omega)
 rw [if_neg k10] at hs ⊢;unfold Ci at hs ⊢;split at hs
 ·rename_i e;rw [if_pos e];exact h0
 ·cases hs
end
theorem TY {κ β:Type}[DecidableEq κ]{lt:κ→κ→Bool}(ho:Ord κ lt){k:κ}{v:β}:∀{l:AL κ β},(∀q∈l,lt q.1 k=true)→Bi lt k v l=l++[(k,v)]
 |[],_=>rfl
 |q::l,h=>by
  have h1:=h q (List.mem_cons_self ..);have hne:q.1≠k:=fun e=>by rw [e,ho.irr] at h1;cases h1
  have hnl:¬lt k q.1=true:=fun e=>by have:=ho.tr _ _ _ h1 e;rw [ho.irr] at this;cases this
  unfold Bi;rw [if_neg hne,if_neg hnl,TY ho (fun x hx=>h x (List.mem_cons_of_mem _ hx))];rfl
theorem Kp {κ β:Type}[DecidableEq κ]{lt:κ→κ→Bool}(ho:Ord κ lt){l:AL κ β}(hs:SrtA lt l){i:Nat}(hi:i < l.length):Bi lt l[i].1 l[i].2 (l.take i)=l.take (i+1):=by
 rw [TY ho (fun q hq=>?_),List.take_succ_eq_append_getElem hi];obtain ⟨j,hj,rfl⟩:=List.getElem_of_mem hq;rw [List.length_take] at hj;rw [List.getElem_take];exact List.pairwise_iff_getElem.1 hs j i (by omega) hi (by omega)
section
variable {ω:Om}{I:Imm}{L:LH}{K:Value→M}{r:Nat}{v:Value}{rest:List UInt8}{bad:Bool}{F:LH}
theorem HU {n:Int}(hB:Bytes I v (nB n++rest))(hn:Dk n)(hl:rest.length≤1000000)(hk:∀v',Bytes I v' rest→K (.int .i64 n) I ((r,rdO v' bad)::F)):
  CT ω 71 #[pt r] K I ((r,rdO v bad)::F):=by
 have:=FN hn;refine IJ hB (by rw [List.length_append];omega) (fun n' v' b' bad' hB' hP=>?_);obtain ⟨rfl,rfl,rfl⟩:=hP.get n rest hn rfl;exact hk v' hB'
theorem MD {s:TStamp}(hB:Bytes I v (Ed s++rest))(hs:AU s=true)(hl:rest.length≤1000000)(hk:∀v',Bytes I v' rest→K (sv s) I ((r,rdO v' bad)::F)):
  CT ω 72 #[pt r] K I ((r,rdO v bad)::F):=by
 have h1:=FN (Be hs).1;have h2:=FN (Be hs).2;refine Sj hB (by simp only [Ed,List.length_append];omega) (fun n' v' b' bad' hB' hP=>?_);obtain ⟨rfl,rfl,rfl⟩:=hP.get s rest hs rfl;exact hk v' hB'
theorem Ln {t:List UInt8}(h:t.length≤1000000):(DY t).length≤1000009:=by
 have:=FN (n:=(t.length:Int)) ⟨by omega,by omega⟩;simp only [DY,List.length_append];simp only [nB] at this;simp at this;omega
theorem Qx {t:List UInt8}(hB:Bytes I v (DY t++rest))(ht:t.length≤1000000)(hl:rest.length≤1000000)(hk:∀I' u v',Ext I I'→Bytes I' u t→Bytes I' v' rest→K u I' ((r,rdO v' bad)::F)):
  CT ω 74 #[pt r] K I ((r,rdO v bad)::F):=by
 have:=Ln ht;refine Iy hB (by rw [List.length_append];omega) (fun t' u v' b' bad' I' hI hT hB' hP=>?_);obtain ⟨rfl,rfl,rfl⟩:=hP.get t rest (by omega) rfl;exact hk I' u v' hI hT hB'
theorem AKs {p:TSpan}(hB:Bytes I v (DY p.fFrom++(DY p.fTo++rest)))(h1:p.fFrom.length≤1000000)(h2:p.fTo.length≤1000000)(hl:rest.length≤1000000)
  (hk:∀I' v' pc,Ext I I'→TSpanV I' p pc→Bytes I' v' rest→K (.agg pc.toArray) I' ((r,rdO v' bad)::F)):
  CT ω 75 #[pt r] K I ((r,rdO v bad)::F):=by
 have:=Ln h1;have:=Ln h2;refine Uu hB (by simp only [List.length_append];omega) (fun p' v' b' bad' I' pc hI hT hB' hP=>?_);obtain ⟨rfl,rfl,rfl⟩:=hP.get p rest (by omega) (by omega) rfl;exact hk I' v' pc hI hT hB'
end
abbrev mA (m:Mch)(sp:Sp)(nt:Nts)(i j k:Nat):Mch:=⟨m.span,sp,nt,m.marks.take i,m.low,m.recs.take j,m.seen.take k,m.oldest,[]⟩
abbrev Cm (m:Mch)(sp:Sp)(nt:Nts)(kp:List UInt8):Mch:={m with sp:=sp,nt:=nt,kept:=kp}
def tl2 (m:Mch):List UInt8:=nB (m.seen.length:Int)++m.seen.flatMap snE
def tl1 (m:Mch):List UInt8:=nB (m.recs.length:Int)++(m.recs.flatMap rcE++tl2 m)
theorem EC (m:Mch):Av m=DY m.span.fFrom++(DY m.span.fTo++(nB m.oldest++(Ed m.low.fAt++(nB m.low.fBy++(nB (m.marks.length:Int)++(m.marks.flatMap mkE++tl1 m)))))):=by
 simp [Av,LI,Jh,Ji,Bq,tl1,tl2]
theorem IX {α:Type}{f:α→List UInt8}{l:List α}{i:Nat}(hi:i < l.length):(l.drop i).flatMap f=f l[i]++(l.drop (i+1)).flatMap f:=by
 rw [List.drop_eq_getElem_cons hi];rfl
theorem Jr {α:Type}{f:α→List UInt8}{l:List α}(i:Nat):((l.drop i).flatMap f).length≤(l.flatMap f).length:=by
 have:l.flatMap f=(l.take i).flatMap f++(l.drop i).flatMap f:=by rw [←List.flatMap_append,List.take_append_drop]
 rw [this,List.length_append];omega
section
variable {ω:Om}{I:Imm}{L:LH}{K:Value→M}{b s N r:Nat}{m:Mch}{sp:Sp}{nt:Nts}
theorem AEH {p4 v:Value}{V:MV}(hM:MOk m N)(hB:Bytes I v [])(hF:MF I V (mA m sp nt m.marks.length m.recs.length m.seen.length))
  (hk:∀V,MF I V (Cm m sp nt [])→K (pt b) I (mL b s V (Cm m sp nt []) L)):
  sh87_9 ω p4 (pt r) (pt b) (fun v=>Gh (K v)) I ((r,rdO v false)::mL b s V (mA m sp nt m.marks.length m.recs.length m.seen.length) L):=by
 have e:mA m sp nt m.marks.length m.recs.length m.seen.length=Cm m sp nt []:=by simp [mA,Cm]
 rw [e] at hF ⊢;unfold sh87_9;refine call (LG hB ?_);repeat' (first|(with_reducible first|refine AZ ?_|refine Aa ?_|refine Ac ?_|refine keepA ?_|refine AV (fun _=>?_))|((with_reducible refine call ?_);refine (Iz ⟨_,_,rfl,hF.f0,hF.f1⟩ ?_))|(with_reducible refine rdb ?_)|((with_reducible first|refine st1 ?_ ?_|refine rdB ?_ ?_);rfl)|(with_reducible refine Ah ?_)|((with_reducible refine Ai ?_ ?_);rfl)|((with_reducible refine stB ?_ ?_ ?_ ?_);rfl;rfl;exact AK rfl)|((with_reducible first|refine rdP _ rfl ?_ ?_|refine As _ rfl ?_ ?_);rfl)|((with_reducible refine stP _ rfl ?_ ?_ ?_ ?_);rfl;rfl;rfl)|(with_reducible first|refine AW (sh87_9.eq_1 ..) ?_|refine AW (sh87_7.eq_1 ..) ?_|refine AW (sh87_6.eq_1 ..) ?_|refine AW (sh87_4.eq_1 ..) ?_|refine AW (sh87_3.eq_1 ..) ?_|refine AW (sh87_1.eq_1 ..) ?_|refine AW (sh87.eq_1 ..) ?_|refine And.intro ?_ ?_)|(simp only [SSg,Int.reduceBEq,Int.reduceBNe,Int.reduceLT,Int.reduceLE,beq_self_eq_true,bne_self_eq_false])|(with_reducible first|refine AG (fun _=>?_) (fun _=>?_)|refine AC (fun _=>?_) (fun _=>?_))|(simp only [SSd,Nat.reduceAdd,List.length_nil,Bool.not_false,beq_self_eq_true,Bool.and_self]))
 ·rename_i e
  simp [hM.span] at e
 ·exact Gh.to (mL b s V (Cm m sp nt []) L) (Gh.done (hk V hF))
theorem AEI {p4 v:Value}{V:MV}(hM:MOk m N)(hB:Bytes I v (m.seen.flatMap snE))(hF:MF I V (mA m sp nt m.marks.length m.recs.length 0))
  (hk:∀I' V,Ext I I'→MF I' V (Cm m sp nt [])→K (pt b) I' (mL b s V (Cm m sp nt []) L)):
  An ((.int .i64 (m.seen.length:Int),()):Value×Unit) (fun st Kn2=>sh87_7 ω p4 (pt r) (pt b) st.1 Kn2 (fun v=>Gh (K v))) I ((r,rdO v false)::mL b s V (mA m sp nt m.marks.length m.recs.length 0) L):=by
 have hlen:=CV hM;have hsl:=hM.seenL;rw [EC] at hlen;simp only [tl1,tl2,List.length_append] at hlen;refine loop (fun n (st:Value×Unit) I' L'=>Ext I I'∧∃(i:Nat) (v:Value) (V:MV),n+i=m.seen.length∧st=(.int .i64 ((m.seen.length:Int) - i),())∧L'=(r,rdO v false)::mL b s V (mA m sp nt m.marks.length m.recs.length i) L∧
  Bytes I' v ((m.seen.drop i).flatMap snE)∧MF I' V (mA m sp nt m.marks.length m.recs.length i)) m.seen.length ⟨Ext.refl _,0,v,V,rfl,by simp,rfl,by simpa using hB,hF⟩ ?_
 rintro n st I' L' ⟨hI',i,v,V,hni,rfl,rfl,hB,hF⟩;unfold sh87_7;try simp only [SSd,Nat.reduceAdd]
 have dn:i=m.seen.length→sh87_9 ω p4 (pt r) (pt b) (fun v=>Gh (K v)) I' ((r,rdO v false)::mL b s V (mA m sp nt m.marks.length m.recs.length i) L):=fun hi=>by
  subst hi;rw [List.drop_length] at hB;exact AEH hM hB hF (fun V hF=>hk I' V hI' hF)
 refine AG (fun e=>?_) (fun e=>dn (by simp at e;omega));have hi:i < m.seen.length:=by simp at e;omega
 refine rdb ?_;try simp only [SSd,Nat.reduceAdd]
 have hx:=IX (f:=snE) hi;have hd:=Jr (f:=snE) (l:=m.seen) (i+1);rw [hx] at hB;obtain ⟨hn1,hn2⟩:=Qe hM m.seen[i] (List.getElem_mem hi);have hin:=Kp Ld hM.seen hi;generalize m.seen[i]=x at *;have hB1:Bytes I' v (nB x.1++(nB x.2.fSeq++(nB x.2.fCode++(Ed x.2.fAt++(m.seen.drop (i+1)).flatMap snE)))):=by simpa [snE,Bq] using hB
 have l1:=FN (hn1 x.1 (by simp));have l2:=FN (hn1 x.2.fSeq (by simp));have l3:=FN (hn1 x.2.fCode (by simp));have l4:=FN (Be hn2).1;have l5:=FN (Be hn2).2;have l6:(Ed x.2.fAt).length=(nB x.2.fAt.fWall).length+(nB x.2.fAt.fLogic).length:=by simp [Ed]
 refine call (HU hB1 (hn1 x.1 (by simp)) (by simp only [List.length_append];omega) (fun v1 hB2=>?_));refine call (HU hB2 (hn1 x.2.fSeq (by simp)) (by simp only [List.length_append];omega) (fun v2 hB3=>?_));refine call (HU hB3 (hn1 x.2.fCode (by simp)) (by simp only [List.length_append];omega) (fun v3 hB4=>?_));refine AFQ r ?_;try simp only [SSd,Nat.reduceAdd]
 refine Ah ?_;refine call (MD hB4 hn2 (by omega) (fun v4 hB5=>?_));refine LO (Ext.refl _) (fun y hy=>by simp only [List.mem_cons] at hy ⊢;exact .inr hy) ?_;try simp only [SSd,Nat.reduceAdd]
 refine Nb hF.sns rfl (fun e' c' hM'=>?_);rw [hin] at hM';show Gh _ I' ((r,rdO v4 false)::mL b s {V with e3:=e',c3:=c'} (mA m sp nt m.marks.length m.recs.length (i+1)) L);refine Gh.done ?_;try simp only [SSd,Nat.reduceAdd]
 rw [wrap_i64 _ (by omega)];exact Gh.done ⟨n - 1,by omega,hI',i+1,v4,{V with e3:=e',c3:=c'},by omega,by rw [show (m.seen.length:Int) - (i:Int) - 1=(m.seen.length:Int) - ((i+1:Nat):Int) by omega],rfl,hB5,{hF with sns:=hM'}⟩
theorem AEJ {p4 v:Value}{V:MV}(hM:MOk m N)(hB:Bytes I v (tl2 m))(hF:MF I V (mA m sp nt m.marks.length m.recs.length 0))
  (hk:∀I' V,Ext I I'→MF I' V (Cm m sp nt [])→K (pt b) I' (mL b s V (Cm m sp nt []) L)):
  sh87_6 ω p4 (pt r) (pt b) (fun v=>Gh (K v)) I ((r,rdO v false)::mL b s V (mA m sp nt m.marks.length m.recs.length 0) L):=by
 have hlen:=CV hM;have hsl:=hM.seenL;rw [EC] at hlen;simp only [tl1,tl2,List.length_append] at hlen;unfold sh87_6;refine call (HU hB ⟨by omega,by omega⟩ (by omega) (fun v1 hB1=>?_));exact AEI hM hB1 hF hk
theorem AEK {p4 v:Value}{V:MV}(hM:MOk m N)(hB:Bytes I v (m.recs.flatMap rcE++tl2 m))(hF:MF I V (mA m sp nt m.marks.length 0 0))
  (hk:∀I' V,Ext I I'→MF I' V (Cm m sp nt [])→K (pt b) I' (mL b s V (Cm m sp nt []) L)):
  An ((.int .i64 (m.recs.length:Int),()):Value×Unit) (fun st Kn2=>sh87_4 ω p4 (pt r) (pt b) st.1 Kn2 (fun v=>Gh (K v))) I ((r,rdO v false)::mL b s V (mA m sp nt m.marks.length 0 0) L):=by
 have hlen:=CV hM;have hsl:=hM.recsL;rw [EC] at hlen;simp only [tl1,List.length_append] at hlen;refine loop (fun n (st:Value×Unit) I' L'=>Ext I I'∧∃(i:Nat) (v:Value) (V:MV),n+i=m.recs.length∧st=(.int .i64 ((m.recs.length:Int) - i),())∧L'=(r,rdO v false)::mL b s V (mA m sp nt m.marks.length i 0) L∧
  Bytes I' v ((m.recs.drop i).flatMap rcE++tl2 m)∧MF I' V (mA m sp nt m.marks.length i 0)) m.recs.length ⟨Ext.refl _,0,v,V,rfl,by simp,rfl,by simpa using hB,hF⟩ ?_
 rintro n st I' L' ⟨hI',i,v,V,hni,rfl,rfl,hB,hF⟩;unfold sh87_4;try simp only [SSd,Nat.reduceAdd]
 have dn:i=m.recs.length→sh87_6 ω p4 (pt r) (pt b) (fun v=>Gh (K v)) I' ((r,rdO v false)::mL b s V (mA m sp nt m.marks.length i 0) L):=fun hi=>by
  subst hi;rw [List.drop_length] at hB;exact AEJ hM hB hF (fun I2 V hI2 hF=>hk I2 V (hI'.trans hI2) hF)
 refine AG (fun e=>?_) (fun e=>dn (by simp at e;omega));have hi:i < m.recs.length:=by simp at e;omega
 refine rdb ?_;try simp only [SSd,Nat.reduceAdd]
 have hx:=IX (f:=rcE) hi;have hd:=Jr (f:=rcE) (l:=m.recs) (i+1);rw [hx] at hB;obtain ⟨hn1,hn2⟩:=RO hM m.recs[i] (List.getElem_mem hi);have hin:=Kp Ld hM.recs hi;generalize m.recs[i]=x at *;have hB1:Bytes I' v (nB x.1++(nB x.2.fState++(Ed x.2.fAt++((m.recs.drop (i+1)).flatMap rcE++tl2 m)))):=by simpa [rcE,Bq] using hB
 have l1:=FN (hn1 x.1 (by simp));have l2:=FN (hn1 x.2.fState (by simp));have l4:=FN (Be hn2).1;have l5:=FN (Be hn2).2;have l6:(Ed x.2.fAt).length=(nB x.2.fAt.fWall).length+(nB x.2.fAt.fLogic).length:=by simp [Ed]
 refine call (HU hB1 (hn1 x.1 (by simp)) (by simp only [List.length_append];omega) (fun v1 hB2=>?_));refine call (HU hB2 (hn1 x.2.fState (by simp)) (by simp only [List.length_append];omega) (fun v2 hB3=>?_));refine AFQ r ?_;try simp only [SSd,Nat.reduceAdd]
 refine Ah ?_;refine call (MD hB3 hn2 (by simp only [List.length_append];omega) (fun v4 hB5=>?_));refine LO (Ext.refl _) (fun y hy=>by simp only [List.mem_cons] at hy ⊢;exact .inr hy) ?_;try simp only [SSd,Nat.reduceAdd]
 refine Nb hF.rcs rfl (fun e' c' hM'=>?_);rw [hin] at hM';show Gh _ I' ((r,rdO v4 false)::mL b s {V with e2:=e',c2:=c'} (mA m sp nt m.marks.length (i+1) 0) L);refine Gh.done ?_;try simp only [SSd,Nat.reduceAdd]
 rw [wrap_i64 _ (by omega)];exact Gh.done ⟨n - 1,by omega,hI',i+1,v4,{V with e2:=e',c2:=c'},by omega,by rw [show (m.recs.length:Int) - (i:Int) - 1=(m.recs.length:Int) - ((i+1:Nat):Int) by omega],rfl,hB5,{hF with rcs:=hM'}⟩
theorem AEL {p4 v:Value}{V:MV}(hM:MOk m N)(hB:Bytes I v (tl1 m))(hF:MF I V (mA m sp nt m.marks.length 0 0))
  (hk:∀I' V,Ext I I'→MF I' V (Cm m sp nt [])→K (pt b) I' (mL b s V (Cm m sp nt []) L)):
  sh87_3 ω p4 (pt r) (pt b) (fun v=>Gh (K v)) I ((r,rdO v false)::mL b s V (mA m sp nt m.marks.length 0 0) L):=by
 have hlen:=CV hM;have hsl:=hM.recsL;rw [EC] at hlen;simp only [tl1,List.length_append] at hlen;unfold sh87_3;refine call (HU hB ⟨by omega,by omega⟩ (by simp only [List.length_append];omega) (fun v1 hB1=>?_));exact AEK hM hB1 hF hk
theorem AEM {p4 v:Value}{V:MV}(hM:MOk m N)(hB:Bytes I v (m.marks.flatMap mkE++tl1 m))(hF:MF I V (mA m sp nt 0 0 0))
  (hk:∀I' V,Ext I I'→MF I' V (Cm m sp nt [])→K (pt b) I' (mL b s V (Cm m sp nt []) L)):
  An ((.int .i64 (m.marks.length:Int),()):Value×Unit) (fun st Kn2=>sh87_1 ω p4 (pt r) (pt b) st.1 Kn2 (fun v=>Gh (K v))) I ((r,rdO v false)::mL b s V (mA m sp nt 0 0 0) L):=by
 have hlen:=CV hM;have hsl:=hM.marksL;rw [EC] at hlen;simp only [List.length_append] at hlen;refine loop (fun n (st:Value×Unit) I' L'=>Ext I I'∧∃(i:Nat) (v:Value) (V:MV),n+i=m.marks.length∧st=(.int .i64 ((m.marks.length:Int) - i),())∧L'=(r,rdO v false)::mL b s V (mA m sp nt i 0 0) L∧
  Bytes I' v ((m.marks.drop i).flatMap mkE++tl1 m)∧MF I' V (mA m sp nt i 0 0)) m.marks.length ⟨Ext.refl _,0,v,V,rfl,by simp,rfl,by simpa using hB,hF⟩ ?_
 rintro n st I' L' ⟨hI',i,v,V,hni,rfl,rfl,hB,hF⟩;unfold sh87_1;try simp only [SSd,Nat.reduceAdd]
 have dn:i=m.marks.length→sh87_3 ω p4 (pt r) (pt b) (fun v=>Gh (K v)) I' ((r,rdO v false)::mL b s V (mA m sp nt i 0 0) L):=fun hi=>by
  subst hi;rw [List.drop_length] at hB;exact AEL hM hB hF (fun I2 V hI2 hF=>hk I2 V (hI'.trans hI2) hF)
 refine AG (fun e=>?_) (fun e=>dn (by simp at e;omega));have hi:i < m.marks.length:=by simp at e;omega
 refine rdb ?_;try simp only [SSd,Nat.reduceAdd]
 have hx:=IX (f:=mkE) hi;have hd:=Jr (f:=mkE) (l:=m.marks) (i+1);rw [hx] at hB;obtain ⟨hn1,hn2⟩:=hM.mark m.marks[i] (List.getElem_mem hi);have hin:=Kp Lj hM.marks hi;generalize m.marks[i]=x at *;have hB1:Bytes I' v (DY x.1++(Ed x.2.fAt++(nB x.2.fBy++((m.marks.drop (i+1)).flatMap mkE++tl1 m)))):=by simpa [mkE,Bq] using hB
 have hkl:=Dl hn1;have hby:=Eo hn2.by';have l2:=FN hby;have l4:=FN (Be hn2.right).1;have l5:=FN (Be hn2.right).2;have l6:(Ed x.2.fAt).length=(nB x.2.fAt.fWall).length+(nB x.2.fAt.fLogic).length:=by simp [Ed]
 refine call (Qx hB1 (by omega) (by simp only [List.length_append];omega) (fun I2 u v1 hI2 hu hB2=>?_));refine Gq hu (Ext.refl _) ?_;refine AFQ r ?_;try simp only [SSd,Nat.reduceAdd]
 refine Ah ?_;refine call (MD hB2 hn2.right (by simp only [List.length_append];omega) (fun v4 hB5=>?_));refine LO (Ext.refl _) (fun y hy=>by simp only [List.mem_cons] at hy ⊢;exact .inr hy) ?_;refine call (HU hB5 hby (by simp only [List.length_append];omega) (fun v5 hB6=>?_));refine LO (Ext.refl _) (fun y hy=>by simp only [List.mem_cons] at hy ⊢;exact .inr hy) ?_;try simp only [SSd,Nat.reduceAdd]
 refine TB hF.mks rfl (fun e' c' hM'=>?_);rw [hin] at hM';show Gh _ I2 ((r,rdO v5 false)::mL b s {V with e1:=e',c1:=c'} (mA m sp nt (i+1) 0 0) L);refine Gh.done ?_;try simp only [SSd,Nat.reduceAdd]
 rw [wrap_i64 _ (by omega)];exact Gh.done ⟨n - 1,by omega,hI'.trans hI2,i+1,v5,{V with e1:=e',c1:=c'},by omega,by rw [show (m.marks.length:Int) - (i:Int) - 1=(m.marks.length:Int) - ((i+1:Nat):Int) by omega],rfl,hB6,{hF.mono hI2 with mks:=hM'}⟩
theorem Ii {v:Value}(hM:MOk m N)(hB:Bytes I v (Av m))
  (hk:∀I' b V,Ext I I'→MF I' V (Cm m sp nt [])→K (pt b) I' (mL b s V (Cm m sp nt []) L)):
  CT ω 87 #[v,pt s] K I L:=by
 have hlen:=CV hM;have hml:=hM.marksL;rw [EC] at hlen hB;simp only [List.length_append] at hlen;obtain ⟨hs1,hs2⟩:m.span.fFrom.length≤111∧m.span.fTo.length≤111:=by
  have:=hM.span;simp only [DW,Bool.and_eq_true,decide_eq_true_eq] at this;omega
 have hold:=Eo hM.oldest;have hby:=Eo hM.low.by';have hlr:=hM.low.right;have l2:=FN hby;have l3:=FN hold;have l4:=FN (Be hlr).1;have l5:=FN (Be hlr).2;have l6:(Ed m.low.fAt).length=(nB m.low.fAt.fWall).length+(nB m.low.fAt.fLogic).length:=by simp [Ed]
 refine ANx ?_;unfold sh87;obtain ⟨va,vc,rfl⟩:=Bytes.form hB;try simp only [SSd,Nat.reduceAdd]
 refine AV (fun r=>?_);refine call (AKs hB (by omega) (by omega) (by simp only [List.length_append];omega) (fun I1 v1 pc hI1 hp hB1=>?_));refine call (KZ sp nt hp (by omega) (by omega) (fun b V I2 hI2 hF=>?_));refine call (Cal.pick r (HU (hB1.mono hI2) hold (by simp only [List.length_append];omega) (fun v3 hB3=>?_)));try simp only [SSd,Nat.reduceAdd]
 refine st1 rfl ?_;refine call (MD hB3 hlr (by simp only [List.length_append];omega) (fun v4 hB4=>?_));refine call (HU hB4 hby (by simp only [List.length_append];omega) (fun v5 hB5=>?_));try simp only [SSd,Nat.reduceAdd]
 refine stP _ rfl rfl rfl rfl ?_;refine call (HU hB5 ⟨by omega,by omega⟩ (by simp only [List.length_append];omega) (fun v6 hB6=>?_));exact AEM (V:=V) hM hB6 {hF with} (fun I' V hI' hF=>hk I' b V (hI1.trans (hI2.trans hI')) hF)
end
theorem Nz {sp:Sp}{t:List UInt8}:¬CP sp [109] t:=by
 rintro (⟨h,_⟩|⟨k,h,_⟩|⟨k,v,h,_⟩)
 ·cases h
 ·cases h
 ·unfold Ag at h;cases h
structure Kpt (sp:Sp)(rb:List UInt8)(l:List TKV):Prop where
 mem:∀x:TKV,x∈l↔CP sp x.fKey x.fValue∨x=⟨[109],rb⟩
 srt:IC l
def isR (x:TKV):Bool:=x.fKey==[109]
def dataOf (l:List TKV):List TKV:=l.filter fun x=> !isR x
theorem Kpt.rest {sp:Sp}{rb:List UInt8}{l:List TKV}(h:Kpt sp rb l){x:TKV}(hx:x∈l)(hr:isR x=true):x.fValue=rb:=by
 rcases (h.mem x).1 hx with h1|h1
 ·rw [show x.fKey=[109] by simpa [isR] using hr] at h1;exact absurd h1 Nz
 ·rw [h1]
theorem Kpt.any {sp:Sp}{rb:List UInt8}{l:List TKV}(h:Kpt sp rb l):l.any isR=true:=List.any_eq_true.2 ⟨⟨[109],rb⟩,(h.mem _).2 (.inr rfl),rfl⟩
theorem Kpt.data {sp:Sp}{rb:List UInt8}{l:List TKV}(h:Kpt sp rb l)(x:TKV):x∈dataOf l↔CP sp x.fKey x.fValue:=by
 unfold dataOf;rw [List.mem_filter,h.mem];constructor
 ·rintro ⟨h1|h1,h2⟩
  ·exact h1
  ·rw [h1] at h2;simp [isR] at h2
 ·intro h1;refine ⟨.inl h1,?_⟩;cases e:isR x with
  |false=>rfl
  |true=>
   rw [show x.fKey=[109] by simpa [isR] using e] at h1;exact absurd h1 Nz
section
variable {ω:Om}{I:Imm}{L F:LH}{K:Value→M}{N:Nat}{m:Mch}
theorem Cal.pre {P:Program}{f:FuncId}{args:Array Value}(h:Gh (fun I L=>Cal P ω f args K I L) I L):Cal P ω f args K I L:=fun w hs=>by
 obtain ⟨I2,L2,h1,h2⟩:=h hs.cons;exact h2 w (h1 ω w hs)
theorem TJ {p2 v4 v5:Value}{l:List TKV}{XO:LH}{cells:List Value}(hM:MOk m N)(hN:N≤1000)(hl:Kpt m.sp (Av m) l)(hln:l.length≤1000000)(hB:Bytes I v4 (Av m))(hO:SlO 113 2 XO v5 cells (dataOf l).length)(hR:Recs (TKVV I) 2 (dataOf l) cells)
  (hk:∀I' b X,Ext I I'→MchR I' b X (Cm m m.sp nt0 (Av m))→K (.tuple #[pt b,.int .i64 0]) I' (X++L)):
  Uo ω p2 (.int .i64 0) v4 v5 (fun v=>Gh (K v)) I (XO++L):=by
 have hdl:(dataOf l).length≤l.length:=List.length_filter_le _ _;have hvs:=hM.vers;have hsq:N * N≤1000 * 1000:=Nat.mul_le_mul hN hN;have hrl:=CV hM;unfold Uo;refine call (Cal.pre (RL.ofO (R:=TKVV) (fun h hI=>h.mono hI) hO hR (fun I0 hI0 hd=>Gh.done (QG hM.sp hd hl.data (hl.srt.filter _) (by omega) (fun k=>?_) (fun I1 s X hI1 hS=>?_)))))
 ·unfold Ak;cases e:rowOf m.sp.rows k with
  |none=>simp
  |some r=>
   have:=WA hvs r (BL e);simp only;omega
 replace hI1:=hI0.trans hI1
 simp only [bne_self_eq_false,SSd,Nat.reduceAdd];refine call (Ii (sp:=m.sp) (nt:=nt0) hM (hB.mono hI1) (fun I2 b V hI2 hF=>?_));try simp only [SSd,Nat.reduceAdd]
 refine call (FG (hB.mono (hI1.trans hI2)) (by omega) (fun a c I3 hI3 hB3=>?_));try simp only [SSd,Nat.reduceAdd]
 refine st1 rfl ?_;refine Gh.to (mL b s {V with kv:=.slice a (Av m).length c} (Cm m m.sp nt0 (Av m)) (X++L)) (Gh.done ?_);have:=hk I3 b (mL b s {V with kv:=.slice a (Av m).length c} (Cm m m.sp nt0 (Av m)) X) (hI1.trans (hI2.trans hI3)) ⟨s,_,X,List.Perm.refl _,{hF.mono hI3 with kpt:=hB3},hS.mono (hI2.trans hI3)⟩;exact this
theorem VN {v:Value}{l:List TKV}(hM:MOk m N)(hN:N≤1000)(hl:Kpt m.sp (Av m) l)(hln:l.length≤1000000)(hv:RL TKVV 2 I [] v l)
  (hk:∀I' b X,Ext I I'→MchR I' b X (Cm m m.sp nt0 (Av m))→K (.tuple #[pt b,.int .i64 0]) I' (X++L)):
  CT ω 28 #[v] K I L:=by
 refine AOX ?_;unfold AKj;obtain ⟨va,vc,rfl⟩:=RL.form hv;try simp only [SSd,Nat.reduceAdd]
 refine loop (fun n (st:Value×Value×Value×Unit) I' L'=>Ext I I'∧∃(i:Nat) (XO:LH) (v4 v5:Value) (cells:List Value),n+i=l.length∧st=(v4,v5,.int .i64 i,())∧L'=XO++L∧
  Bytes I' v4 (if (l.take i).any isR=true then Av m else [])∧SlO 113 2 XO v5 cells (dataOf (l.take i)).length∧Recs (TKVV I') 2 (dataOf (l.take i)) cells) l.length ⟨Ext.refl _,0,[],_,_,[],rfl,rfl,rfl,Ig I,SlO.none _ _,rfl⟩ ?_
 rintro n st I' L' ⟨hI',i,XO,v4,v5,cells,hni,rfl,rfl,hB,hO,hR⟩;unfold AAk;try simp only [SSd,Nat.reduceAdd]
 refine AC (fun e=>?_) (fun e=>?_)
 ·have hi:i < l.length:=by simpa using e
  obtain ⟨bx,off,c,hix,hcl,hc,hcc⟩:=RL.ix hv (i:=(i:Int)) (by omega) (by omega);rw [Aq hi] at hc;have hxr:=hl.rest (List.getElem_mem hi);have hsn:=take_snoc hi;have hdl:(dataOf (l.take i)).length≤l.length:=Nat.le_trans (List.length_filter_le _ _) (by rw [List.length_take];omega);generalize l[i]=x at *;obtain ⟨v1,v2,rfl,hb1,hb2⟩:=hc;simp only [hix,SSd,Nat.reduceAdd];refine rdN hcl (hcc I' _ hI' (fun x hx=>by cases hx)) ?_;refine AV (fun q=>?_);obtain ⟨a1,c1,rfl⟩:=Bytes.form hb1;obtain ⟨a2,c2,rfl⟩:=Bytes.form hb2;refine stB rfl rfl (AK rfl) ?_;try simp only [SSd,Nat.reduceAdd]
  refine rdb ?_;refine Gq hb1 hI' ?_;try simp only [SSd,Nat.reduceAdd]
  refine AC (fun e1=>?_) (fun e1=>?_)
  ·refine rdb ?_;unfold Qi;try simp only [SSd,Nat.reduceAdd]
   rw [wrap_i64 _ (by omega)];have hr:isR x=true:=e1;have e2:dataOf (l.take i++[x])=dataOf (l.take i):=by simp [dataOf,hr]
   refine Gh.to (XO++L) (Gh.done ⟨n - 1,by omega,hI',i+1,XO,_,v5,cells,by omega,rfl,rfl,?_,by rw [hsn,e2];exact hO,by rw [hsn,e2];exact hR⟩);rw [hsn,List.any_append,show ([x]:List TKV).any isR=true by simp [hr],Bool.or_true,if_pos rfl,←hxr hr];exact hb2.mono hI'
  ·refine rdB rfl ?_;have hr:isR x=false:=e1;have e2:dataOf (l.take i++[x])=dataOf (l.take i)++[x]:=by simp [dataOf,hr]
   refine HB (R:=TKVV) (X6:=XO) (x:=x) (xs:=dataOf (l.take i)) (cells:=cells) rfl (by omega) hO hR ⟨_,_,rfl,hb1.mono hI',hb2.mono hI'⟩ rfl (AK rfl) (by omega) (by omega) (fun X1 X6 v6 cells6 h6 hR6=>?_);unfold Qi;try simp only [SSd,Nat.reduceAdd]
   rw [wrap_i64 _ (by omega)];refine Gh.to (X6++L) (Gh.done ⟨n - 1,by omega,hI',i+1,X6,v4,v6,cells6,by omega,rfl,rfl,?_,by rw [hsn,e2];exact h6,by rw [hsn,e2];exact hR6⟩);rw [hsn,List.any_append,show ([x]:List TKV).any isR=false by simp [hr],Bool.or_false];exact hB
 ·have hi:i=l.length:=by
   have:¬i < l.length:=by simpa using e
   omega
  rw [hi,List.take_length] at hB hO hR;rw [if_pos hl.any] at hB;exact TJ hM hN hl hln hB hO hR (fun I2 b X hI2 hX=>hk I2 b X (hI'.trans hI2) hX)
end
structure AllOf (sp:Sp)(l:List TKV):Prop where
 mem:∀x:TKV,x∈l↔CP sp x.fKey x.fValue
 srt:IC l
theorem LE (v:TVer):(Af v).length≤v.fValue.length+1:=by unfold Af;split <;> simp
theorem kept_len {sp:Sp}(h:SpOk sp){q t:List UInt8}(hk:CP sp q t):q.length≤250∧t.length≤20000:=by
 have key:∀{k:List UInt8} {r:Row},rowOf sp.rows k=some r→Ap k=true∧RowOk r:=fun {k r} e=>by
  have hr:=h.rows r (BL e);have:r.key=k:=by simpa using List.find?_some e
  exact ⟨by rw [←this];exact hr.key,hr⟩
 rcases hk with ⟨rfl,_,rfl⟩|⟨k,rfl,hi⟩|⟨k,v,rfl,hv,rfl⟩
 ·exact ⟨by simp,by show 9≤20000;omega⟩
 ·unfold BP at hi;split at hi
  ·simp at hi
  ·rename_i hne
   have ht:=(Prod.mk.inj hi).2;cases e:rowOf sp.rows k with
   |none=>exact absurd (by unfold Aj;rw [e];rfl) hne
   |some r=>
    have hi2:Aj sp.rows k=r.it:=by unfold Aj;rw [e]
    rw [hi2] at hne ht;obtain ⟨h1,h2⟩:=key e;have hkl:=Dl h1;have h3:CB r.it.txn=true∧VerOk r.it.ver:=by
     rcases h2.it with h4|h4
     ·rw [h4] at hne;exact absurd rfl hne
     ·exact h4
    have h5:=h3.2.len;have h6:=KH (n:=r.it.txn.toNat) (by have:=h2.txn;omega);have h7:=LE r.it.ver;have h8:(stF r.it.ver.fAt).length=9:=rfl;have h9:t.length=(stF r.it.ver.fAt++Bc r.it.txn.toNat++Af r.it.ver).length:=by rw [←ht]
    simp only [List.length_append] at h9;exact ⟨by simp;omega,by omega⟩
 ·unfold Ak at hv;cases e:rowOf sp.rows k with
  |none=>rw [e] at hv;cases hv
  |some r=>
   rw [e] at hv;simp only at hv
   obtain ⟨h1,h2⟩:=key e;have h3:=(h2.vs v hv).len;have h4:=LE v;exact ⟨(MI h1 v).2,by omega⟩
def Gx (m:Mch)(l:List TKV):List UInt8:=DY (Av m)++Bq [(l.length:Int)]++l.flatMap Hi
theorem Sr {sp:Sp}(h:SpOk sp){l:List TKV}(ha:AllOf sp l):∀x∈l,x.fKey.length≤250∧x.fValue.length≤20000:=fun x hx=>kept_len h ((ha.mem x).1 hx)
theorem Yp {x:TKV}(h:x.fKey.length≤250∧x.fValue.length≤20000):(Hi x).length≤20300:=by
 have h1:=DJ (b:=x.fKey) (by omega);have h2:=DJ (b:=x.fValue) (by omega);simp only [Hi,List.length_append];omega
section
variable {ω:Om}{I:Imm}{L:LH}{K:Value→M}{b s N w:Nat}{VM:MV}{m:Mch}{SX R:LH}
theorem Uh (hF:MF I VM m)(hS:SpR I s SX m.sp m.nt)(hM:MOk m N)(hN:N≤300)
  (hk1:∀I' l,Ext I I'→AllOf m.sp l→60000 < (Gx m l).length→K (.tuple #[.slice none 0 0,.int .i64 143]) I' (mL b s VM m (SX++R)))
  (hk2:∀I' u l,Ext I I'→AllOf m.sp l→(Gx m l).length≤60000→Bytes I' u (Gx m l)→K (.tuple #[u,.int .i64 0]) I' (mL b s VM m (SX++R))):
  CT ω 25 #[pt b] K I (mL b s VM m (SX++R)):=by
 have hrw:=hM.rows;have hvs:=hM.vers;have hsq:N * N≤300 * 300:=Nat.mul_le_mul hN hN;have hrl:=CV hM;refine AOa ?_;unfold AKm;try simp only [SSd,Nat.reduceAdd]
 refine AV (fun w=>?_);refine call (Cal.perm (L':=mL b s VM m ((w,wrO (.slice none 0 0))::(SX++R))) (AP (by ((try simp only [AM,AN,AY,AQ]);(try ac_rfl)))) (Pj hF hM (fun I1 u hI1 hB=>?_)));refine call (Cal.perm (L':=(w,wrO (.slice none 0 0))::([]++mL b s VM m (SX++R))) (AP (by ((try simp only [AM,AN,AY,AQ]);(try ac_rfl)))) (Ec (Y:=[]) (l:=[]) (SlO.none _ 1) hB (by simp) (by omega) (fun Y2 v2 I2 hI2 hO2=>?_)));rw [List.nil_append] at hO2;have t2:=DJ (b:=Av m) (by omega);try simp only [SSd,Nat.reduceAdd]
 refine rdb ?_;have h12:=hI1.trans hI2;refine call (Cal.perm (L':=SX++((w,wrO v2)::(Y2++mL b s VM m R))) (AP (by ((try simp only [AM,AN,AY,AQ]);(try ac_rfl)))) (AGi (hS.mono h12) hM.sp (by omega) (by omega) (fun I3 u3 l hI3 hu3 hmem hsrt hlen=>?_)));have hA:AllOf m.sp l:=⟨hmem,hsrt⟩;have hxl:=Sr hM.sp hA;have h13:=h12.trans hI3;obtain ⟨a3,c3,rfl⟩:=RL.form hu3;try simp only [SSd,Nat.reduceAdd]
 refine QW (fun u4 I4 hI4 hU4=>?_);have n4:∀n∈[(l.length:Int)],Dk n:=fun n hn=>by
  simp only [List.mem_singleton] at hn;subst hn;exact ⟨by omega,by omega⟩
 have t4:=CC n4;refine call (Cal.perm (L':=(w,wrO v2)::(Y2++(SX++mL b s VM m R))) (AP (by ((try simp only [AM,AN,AY,AQ]);(try ac_rfl)))) (DT hO2 hU4 n4 (by simp only [List.length_cons,List.length_nil];omega) (fun Y5 v5 I5 hI5 hO5=>?_)));have h15:=h13.trans (hI4.trans hI5);try simp only [SSd,Nat.reduceAdd]
 refine loop (fun n (st:Value×Unit) I' L'=>Ext I5 I'∧∃(i:Nat) (Y:LH) (v:Value),n+i=l.length∧st=(.int .i64 i,())∧L'=(w,wrO v)::(Y++(SX++mL b s VM m R))∧OB Y v (DY (Av m)++Bq [(l.length:Int)]++(l.take i).flatMap Hi)) l.length ⟨Ext.refl _,0,Y5,v5,rfl,rfl,rfl,by simpa using hO5⟩ ?_;rintro n st I' L' ⟨hI',i,Y,v,hni,rfl,rfl,hO⟩;unfold AAz;try simp only [SSd,Nat.reduceAdd]
 refine AC (fun e=>?_) (fun e=>?_)
 ·have hi:i < l.length:=by simpa using e
  obtain ⟨bx,off,c,hix,hcl,hc,hcc⟩:=RL.ix hu3 (i:=(i:Int)) (by omega) (by omega);rw [Aq hi] at hc;have hx:=hxl l[i] (List.getElem_mem hi);have hsn:=take_snoc hi;have hfl:=Dy (f:=Hi) (c:=20300) (l:=l.take i) (fun x hx=>Yp (hxl x (List.mem_of_mem_take hx)));rw [List.length_take] at hfl;generalize l[i]=x at *;have hc1:=hc.one;obtain ⟨y0,y1,rfl,k0,k1⟩:=hc;have hq:=(hI4.trans hI5).trans hI';have tx:=DJ (b:=x.fKey) (by omega);simp only [List.length_cons,List.length_nil] at t4;simp only [hix,SSd,Nat.reduceAdd];refine rdN hcl (hcc I' _ hq (fun x hx=>by cases hx)) ?_;refine AV (fun q=>?_);refine stB rfl rfl hc1 ?_;try simp only [SSd,Nat.reduceAdd]
  refine rdb ?_;refine call (Cal.perm (L':=(w,wrO v)::(Y++((q,.cells #[y0,y1] 113 (0,0))::(SX++mL b s VM m R)))) (AP (by ((try simp only [AM,AN,AY,AQ]);(try ac_rfl)))) (Ec hO (k0.mono hq) (by simp only [List.length_append];omega) (by omega) (fun Y6 v6 I6 hI6 hO6=>?_)));try simp only [SSd,Nat.reduceAdd]
  refine rdb ?_;refine call (Ec hO6 (k1.mono (hq.trans hI6)) (by simp only [List.length_append];omega) (by omega) (fun Y7 v7 I7 hI7 hO7=>?_));try simp only [SSd,Nat.reduceAdd]
  rw [wrap_i64 _ (by omega)];refine Gh.to ((w,wrO v7)::(Y7++(SX++mL b s VM m R))) (Gh.done ⟨n - 1,by omega,hI'.trans (hI6.trans hI7),i+1,Y7,v7,by omega,rfl,rfl,?_⟩);have e7:DY (Av m)++Bq [(l.length:Int)]++(l.take (i+1)).flatMap Hi=DY (Av m)++Bq [(l.length:Int)]++(l.take i).flatMap Hi++DY x.fKey++DY x.fValue:=by
   rw [hsn,List.flatMap_append];simp [Hi]
  rw [e7];exact hO7
 ·have hi:i=l.length:=by simp at e;omega
  rw [hi,List.take_length] at hO;have hO':OB Y v (Gx m l):=hO;obtain ⟨va,vc,rfl⟩:=hO'.form;unfold AAy;try simp only [SSd,Nat.reduceAdd]
  refine rdb ?_;try simp only [SSd,Nat.reduceAdd]
  refine AC (fun e6=>?_) (fun e6=>?_)
  ·exact Gh.to (mL b s VM m (SX++R)) (Gh.done (hk1 I' l (h15.trans hI') hA (by simp at e6;omega)))
  ·try simp only [SSd,Nat.reduceAdd]
   refine rdb ?_;refine Gh.to (Y++mL b s VM m (SX++R)) (OB.freeze hO' (fun I9 hI9 hB9=>Gh.done ?_));exact hk2 I9 _ l (h15.trans (hI'.trans hI9)) hA (by simp at e6;omega) hB9
end
theorem AJp {sp:Sp}(h:SpOk sp):CL [0] sp.rows=sp.rows:=by
 unfold CL;refine List.filter_eq_self.2 (fun r hr=>?_);have hk:=Dl (h.rows r hr).key;cases e:r.key with
 |nil=>rw [e] at hk;simp at hk
 |cons c k=>
  rw [UB];have h1:¬c < 0:=by simp
  have h2:blt k []=false:=by cases k <;> rfl
  rw [h2,Bool.and_false,Bool.or_false,decide_eq_false h1];rfl
theorem AOr {sp:Sp}(h:SpOk sp):Ha [0] sp=sp:=by unfold Ha;rw [AJp h]
noncomputable abbrev Ik (sp:Sp):Nts:=noteAs false sp.rows (BC sp.floor)
section
variable {ω:Om}{I:Imm}{L F:LH}{K:Value→M}{N r:Nat}{m:Mch}
theorem Yo {p2 p3 v4 v5 v6:Value}{l:List TKV}{XO:LH}{cells:List Value}(hM:MOk m N)(hN:N≤1000)(hl:AllOf m.sp l)(hln:l.length≤1000000)(hB:Bytes I v5 (Av m))(hE:Bytes I v6 [])(hO:SlO 113 2 XO v4 cells l.length)(hR:Recs (TKVV I) 2 l cells)
  (hk:∀I' b X,Ext I I'→MchR I' b X (Cm m m.sp (Ik m.sp) [])→K (.tuple #[pt b,.int .i64 0]) I' (X++L)):
  NH ω p2 p3 (pt r) v5 v4 (fun v=>Gh (K v)) I (XO++((r,rdO v6 false)::L)):=by
 have hvs:=hM.vers;have hrw:=hM.rows;have hsq:N * N≤1000 * 1000:=Nat.mul_le_mul hN hN;have hrl:=CV hM;unfold NH;refine call (Cal.pre (RL.ofO (R:=TKVV) (fun h hI=>h.mono hI) hO hR (fun I0 hI0 hd=>Gh.done (QG hM.sp hd hl.mem hl.srt (by omega) (fun k=>?_) (fun I1 s X hI1 hS=>?_)))))
 ·unfold Ak;cases e:rowOf m.sp.rows k with
  |none=>simp
  |some r=>
   have:=WA hvs r (BL e);simp only;omega
 replace hI1:=hI0.trans hI1
 try simp only [SSd,Nat.reduceAdd]
 refine call (Cal.pick r (LG (hE.mono hI1) ?_));simp only [Bool.not_false,List.length_nil,beq_self_eq_true,Bool.and_self,bne_self_eq_false,SSd,Nat.reduceAdd];refine by1 (c:=0) (fun X2 u2 hX2=>OB.freeze hX2 (fun I2 hI2 hB2=>Gh.done ?_));refine call (Cal.perm (L':=X++((r,rdO v6 false)::L)) (AP (by ((try simp only [AM,AN,AY,AQ]);(try ac_rfl)))) (NG (hS.mono hI2) hM.sp (by omega) (fun r hr=>by have:=WA hvs r hr;omega) hB2 (fun h=>by cases h) (fun I3 bt X' Xt _ hI3 _ hSt=>?_)));have hJ:=hI1.trans (hI2.trans hI3);rw [AJp hM.sp,AOr hM.sp] at hSt;try simp only [SSd,Nat.reduceAdd]
 refine call (Ii (sp:=m.sp) (nt:=Ik m.sp) hM (hB.mono hJ) (fun I4 b V hI4 hF=>?_));simp only [bne_self_eq_false,SSd,Nat.reduceAdd];refine Gh.to (mL b bt V (Cm m m.sp (Ik m.sp) []) (Xt++L)) (Gh.done ?_);exact hk I4 b (mL b bt V (Cm m m.sp (Ik m.sp) []) Xt) (hJ.trans hI4) ⟨bt,V,Xt,List.Perm.refl _,hF,hSt.mono hI4⟩
theorem Qy {v:Value}{l:List TKV}(hM:MOk m N)(hN:N≤1000)(hl:AllOf m.sp l)(hln:(Gx m l).length≤60000)(hv:Bytes I v (Gx m l))
  (hk:∀I' b X,Ext I I'→MchR I' b X (Cm m m.sp (Ik m.sp) [])→K (.tuple #[pt b,.int .i64 0]) I' (X++L)):
  CT ω 29 #[v] K I L:=by
 have hrl:=CV hM;have hxl:=Sr hM.sp hl;have hll:l.length≤60000:=by
  have h1:l.length≤(l.flatMap Hi).length:=by
   clear hln hv hl hxl;induction l with
   |nil=>simp
   |cons x l ih=>
    have:1≤(Hi x).length:=by
     have h2:1≤(Bc x.fKey.length).length:=by unfold Bc;split <;> simp
     simp only [Hi,DY,List.length_append];omega
    simp only [List.flatMap_cons,List.length_append,List.length_cons];omega
  simp only [Gx,List.length_append] at hln;omega
 have e0:Gx m l=DY (Av m)++(nB (l.length:Int)++l.flatMap Hi):=by simp [Gx,Bq]
 rw [e0] at hv hln;simp only [List.length_append] at hln;refine AOW ?_;unfold AKi;obtain ⟨va,vc,rfl⟩:=Bytes.form hv;try simp only [SSd,Nat.reduceAdd]
 refine AV (fun r=>?_);refine call (Qx hv (by omega) (by simp only [List.length_append];omega) (fun I1 u1 v1 hI1 hu1 hB1=>?_));refine call (HU hB1 ⟨by omega,by omega⟩ (by omega) (fun v2 hB2=>?_));refine loop (fun n (st:Value×Value×Unit) I' L'=>Ext I1 I'∧∃(i:Nat) (XO:LH) (v v4:Value) (cells:List Value),n+i=l.length∧st=(v4,.int .i64 ((l.length:Int) - i),())∧L'=XO++((r,rdO v false)::L)∧
  Bytes I' v ((l.drop i).flatMap Hi)∧SlO 113 2 XO v4 cells (l.take i).length∧Recs (TKVV I') 2 (l.take i) cells) l.length ⟨Ext.refl _,0,[],v2,_,[],rfl,by simp,rfl,by simpa using hB2,SlO.none _ _,rfl⟩ ?_
 rintro n st I' L' ⟨hI',i,XO,v,v4,cells,hni,rfl,rfl,hB,hO,hR⟩;unfold AAj;try simp only [SSd,Nat.reduceAdd]
 have dn:i=l.length→NH ω (.pointer none) (.int .i64 0) (pt r) u1 v4 (fun v=>Gh (K v)) I' (XO++((r,rdO v false)::L)):=fun hi=>by
  rw [hi,List.take_length] at hO hR;rw [hi,List.drop_length] at hB;exact Yo hM hN hl (by omega) (hu1.mono hI') hB hO hR (fun I2 b X hI2 hX=>hk I2 b X (hI1.trans (hI'.trans hI2)) hX)
 refine AG (fun e=>?_) (fun e=>dn (by simp at e;omega));have hi:i < l.length:=by simp at e;omega
 refine rdb ?_;try simp only [SSd,Nat.reduceAdd]
 have hx:=IX (f:=Hi) hi;have hd:=Jr (f:=Hi) (l:=l) (i+1);have hsn:=take_snoc hi;have hx2:=hxl l[i] (List.getElem_mem hi);have htl:(l.take i).length≤l.length:=by rw [List.length_take];omega
 rw [hx] at hB;generalize l[i]=x at *;have hB':Bytes I' v (DY x.fKey++(DY x.fValue++(l.drop (i+1)).flatMap Hi)):=by simpa [Hi] using hB
 have t2:=Ln (t:=x.fValue) (by omega);have t3:=DJ (b:=x.fValue) (by omega);refine call (Cal.pick r (Qx hB' (by omega) (by simp only [List.length_append];omega) (fun I2 w1 v5 hI2 hw1 hB3=>?_)));refine call (Qx hB3 (by omega) (by omega) (fun I3 w2 v6 hI3 hw2 hB4=>?_));obtain ⟨a1,c1,rfl⟩:=Bytes.form hw1;obtain ⟨a2,c2,rfl⟩:=Bytes.form hw2;try simp only [SSd,Nat.reduceAdd]
 have hI23:=hI2.trans hI3;refine HB (R:=TKVV) (X6:=XO) (x:=x) (xs:=l.take i) (cells:=cells) rfl (by omega) hO (hR.imp fun _ _ h=>h.mono hI23) ⟨_,_,rfl,hw1.mono hI3,hw2⟩ rfl (AK rfl) (by omega) (by omega) (fun X1 X6 v7 cells6 h6 hR6=>?_);try simp only [SSd,Nat.reduceAdd]
 rw [wrap_i64 _ (by omega)];refine Gh.to (X6++((r,rdO v6 false)::L)) (Gh.done ⟨n - 1,by omega,hI'.trans hI23,i+1,X6,v6,v7,cells6,by omega,by rw [show (l.length:Int) - (i:Int) - 1=(l.length:Int) - ((i+1:Nat):Int) by omega],rfl,hB4,by rw [hsn];exact h6,by rw [hsn];exact hR6⟩)
end
section
variable {ω:Om}{I:Imm}{L:LH}{K:Value→M}
theorem AKN {b m ch N:Nat}{kv:Value}{fl:TStamp}{X F:LH}{nt:Nts}(hNR:NoteR I b m ch kv fl X nt)(hN:NtFin nt N)(hNl:N≤1000000)
  (hk:∀X' XO v ops cells ch',NoteR I b m ch' kv fl X' nt0→TookOk nt ops→SlO 167 3 XO v cells ops.length→Recs (TOpV I) 3 ops cells→K v I (X'++(XO++F))):CT ω 81 #[pt b] K I (X++F):=by
 obtain ⟨NX,hp,hNt⟩:=hNR;obtain ⟨ces,cclock,mm,rfl,hm,hn⟩:=hNt;refine Cal.perm (L':=(b,spO m kv fl ch)::(ch,.map ces cclock)::F) (AP (by rw [AN,BA hp];((try simp only [AM,AN,AY,AQ]);(try ac_rfl)))) ?_;refine AJu ?_;unfold AHV;try simp only [SSd,Nat.reduceAdd]
 refine rdb ?_;refine call ?_;refine AFh ?_;unfold XG;refine AV (fun qm=>?_);refine Gh.done ?_;refine call (QO hm hn hN (by omega) (Cell.own (b:=qm) (cs:=#[.map (some ch)]) (T:=176) (fr:=(0,0)) (List.mem_cons_self ..) rfl) (.inl (by simp)) (fun XO vo vis cells hp2 hO hR=>?_));have hle:=Ro hn hm hN;have hvl:vis.length=ces.toList.length:=hp2.length_eq;refine call ?_;have hO':SlO 167 3 XO vo cells (vis.map (HD nt)).length:=by simpa using hO
 refine KL Go.Proofs.Tryz.lay31 (ω:=ω) (K:=_) (k:=3) (R:=TOpV) (cf:=fun x y=>EY x.fKey y.fKey) (g:=135) Tryz.isAgg167 Tryz.sizeOf167 (fun I x c h=>h.len) (fun I x c h=>h.one) (fun x=>by rw [GM,BQ];simp) (fun x y z h1 h2=>by rw [GM] at *; exact Bj h1 h2)
  (fun x y z h1 h2=>by rw [bcmp_nlt] at *; exact JL h1 h2) (enters_of Tryz.func135 (by kernel_rfl) rfl)
  (fun ω' I' x y c d hI hx hy=>JZ (hx.mono hI) (hy.mono hI) ⟨rfl,Ext.refl _⟩) hO' hR (by simp;omega) (fun X' ops cells' hperm hsrt hO2 hR2=>?_)
 have hto:=WG hn hm hp2 hperm hsrt;have hlo:(vis.map (HD nt)).length=ops.length:=hperm.length_eq.symm;rw [hlo] at hO2;refine RZ (fun ch2=>?_);try simp only [SSd,Nat.reduceAdd]
 refine Gh.perm (L':=(b,spO m kv fl ch)::(X'++((ch2,.map #[] 0)::(qm,.cells #[.map (some ch)] 176 (0,0))::(ch,.map ces cclock)::F))) (AP (by ((try simp only [AM,AN,AY,AQ]);(try ac_rfl)))) ?_;refine Gh.done ?_;refine st1 rfl ?_;refine Gh.perm (L':=X'++((b,spO m kv fl ch2)::(ch2,.map #[] 0)::(qm,.cells #[.map (some ch)] 176 (0,0))::(ch,.map ces cclock)::F)) (AP (by ((try simp only [AM,AN,AY,AQ]);(try ac_rfl)))) ?_;refine Gh.to ((b,spO m kv fl ch2)::(ch2,.map #[] 0)::(X'++F)) ?_;exact Gh.done (hk [(b,spO m kv fl ch2),(ch2,.map #[] 0)] X' _ ops cells' ch2 ⟨[(ch2,.map #[] 0)],List.Perm.refl _,⟨#[],0,fun _=>none,rfl,MapS.empty,fun k=>.inl ⟨rfl,rfl⟩⟩⟩ hto hO2 hR2)
theorem Ug {b:Nat}{X F:LH}{sp:Sp}{nt:Nts}(hS:SpR I b X sp nt)(hN:NtFin nt 1000000)
  (hk:∀X' XO v ops cells,SpR I b X' sp nt0→TookOk nt ops→SlO 167 3 XO v cells ops.length→Recs (TOpV I) 3 ops cells→K v I (X'++(XO++F))):CT ω 81 #[pt b] K I (X++F):=by
 obtain ⟨ps,m,ch,kv,es,clock,KX,RX,NX,hp,hF⟩:=hS;refine Cal.gh (Cal.perm (L':=((b,spO m kv sp.floor ch)::NX)++((m,.map es clock)::(KX++(RX++F)))) (AP (by rw [AN,BA hp];((try simp only [AM,AN,AY,AQ]);(try ac_rfl)))) ?_);refine AKN (N:=1000000) ⟨NX,List.Perm.refl _,hF.nts⟩ hN (by omega) (fun X' XO v ops cells ch' hNR hto hO hR=>?_);obtain ⟨NX',hp2,hNt⟩:=hNR;refine Gh.perm (L':=((b,spO m kv sp.floor ch')::(m,.map es clock)::(KX++(RX++NX')))++(XO++F)) (AP (by rw [AN,BA hp2];((try simp only [AM,AN,AY,AQ]);(try ac_rfl)))) ?_;exact Gh.done (hk _ XO v ops cells ⟨ps,m,ch',kv,es,clock,KX,RX,NX',List.Perm.refl _,hF.map,hF.keys,hF.rows,hNt⟩ hto hO hR)
theorem Ot {x y:TOp}{c d:List Value}(hx:TOpV I x c)(hy:TOpV I y d)(hk:K (.int .i64 (EY x.fKey y.fKey)) I L):CT ω 84 #[.agg c.toArray,.agg d.toArray] K I L:=by
 obtain ⟨k0,v0,rfl,hk0,_⟩:=hx;obtain ⟨k1,v1,rfl,hk1,_⟩:=hy;refine AOA ?_;unfold AKV;refine AV (fun b1=>AV (fun b2=>?_));try simp only [SSd,Nat.reduceAdd]
 refine rdb ?_;try simp only [SSd,Nat.reduceAdd]
 refine rdb ?_;refine call (DV hk0 hk1 ?_);exact Gh.to L (Gh.done hk)
end
theorem AKM {nt:Nts}{ops ops1:List TOp}{rb:List UInt8}(h:TookOk nt ops)(h0:nt [109]=none)(hp:ops1.Perm (ops++[⟨false,[109],rb⟩]))(hs:ops1.Pairwise fun a b=>¬EY b.fKey a.fKey < 0):TookOk (CO nt [109] (false,rb)) ops1:=by
 have hne:∀y∈ops,y.fKey≠[109]:=fun y hy e=>by have:=h.mem y hy;rw [e,h0] at this;cases this
 refine ⟨fun y hy=>?_,fun q d t hq=>?_,?_⟩
 ·rcases List.mem_append.1 (hp.mem_iff.1 hy) with hy|hy
  ·rw [CN _ _ (hne y hy)];exact h.mem y hy
  ·rw [List.mem_singleton.1 hy,Bd]
 ·by_cases e:q=[109]
  ·subst e;rw [Bd] at hq;cases hq
   exact hp.mem_iff.2 (by simp)
  ·rw [CN _ _ e] at hq;exact hp.mem_iff.2 (List.mem_append_left _ (h.all q d t hq))
 ·have hnd:(ops1.map (·.fKey)).Nodup:=by
   rw [(hp.map _).nodup_iff,List.map_append,List.nodup_append];refine ⟨?_,by simp,?_⟩
   ·exact List.pairwise_map.2 (h.rise.imp fun hab e=>by rw [e,BQ] at hab;cases hab)
   ·intro a ha b hb;obtain ⟨y,hy,rfl⟩:=List.mem_map.1 ha;simp only [List.map_cons,List.map_nil,List.mem_singleton] at hb;rw [hb];exact hne y hy
  have h1:ops1.Pairwise fun a b=>a.fKey≠b.fKey:=List.pairwise_map.1 hnd;refine (hs.and h1).imp fun {a b} h=>?_;have h2:=bcmp_nlt.1 h.1;cases h3:blt a.fKey b.fKey with
  |true=>rfl
  |false=>exact absurd (Dn _ _ h3 h2) h.2
def ntM (m:Mch):Nts:=if Av m=m.kept then m.nt else CO m.nt [109] (false,Av m)
abbrev Bn (m:Mch):Mch:={m with nt:=nt0,kept:=Av m}
section
variable {ω:Om}{I:Imm}{L:LH}{K:Value→M}{b s N:Nat}{V:MV}{m:Mch}{SX R:LH}
theorem JA (hM:MOk m N)(hF:MF I V m)(hS:SpR I s SX m.sp m.nt)(hN:NtFin m.nt 1000000)(h0:m.nt [109]=none)
  (hk:∀I' X' V' v ops,Ext I I'→MF I' V' (Bn m)→SpR I' s X' m.sp nt0→TookOk (ntM m) ops→RL TOpV 3 I' [] v ops→K v I' (mL b s V' (Bn m) (X'++R))):
  CT ω 26 #[pt b] K I (mL b s V m (SX++R)):=by
 have hrl:=CV hM;refine AOZ ?_;unfold AKl;try simp only [SSd,Nat.reduceAdd]
 refine rdb ?_;refine call (Cal.perm (L':=SX++mL b s V m R) (AP (by ((try simp only [AM,AN,AY,AQ]);(try ac_rfl)))) (Ug hS hN (fun X' XO v ops cells hS1 hto hO hR=>?_)));have hol:=JY hto hN;refine call (Cal.perm (L':=mL b s V m (X'++(XO++R))) (AP (by ((try simp only [AM,AN,AY,AQ]);(try ac_rfl)))) (Pj hF hM (fun I2 u hI2 hB=>?_)));obtain ⟨ua,uc,rfl⟩:=Bytes.form hB;try simp only [SSd,Nat.reduceAdd]
 refine rdb ?_;refine call (JF hB (hF.kpt.mono hI2) ?_);try simp only [SSd,Nat.reduceAdd]
 refine AC (fun e=>?_) (fun e=>?_)
 ·have hne:Av m≠m.kept:=by simpa using e
  refine st1 rfl ?_;refine AIs (c:=109) (fun u3 I3 hI3 hB3=>?_);refine call (FG (hB.mono hI3) (by omega) (fun a4 c4 I4 hI4 hB4=>?_));obtain ⟨a3,c3,rfl⟩:=Bytes.form hB3;try simp only [SSd,Nat.reduceAdd]
  have hJ:=hI2.trans (hI3.trans hI4);refine HB (R:=TOpV) (X6:=XO) (x:=⟨false,[109],Av m⟩) (xs:=ops) (cells:=cells) rfl (by omega) hO (hR.imp fun _ _ h=>h.mono hJ) ⟨_,_,rfl,hB3.mono hI4,hB4⟩ rfl (AK rfl) (by omega) (by omega) (fun X1 X6 v6 cells6 h6 hR6=>?_);refine call ?_;refine KL Go.Proofs.Tryz.lay31 (ω:=ω) (K:=_) (k:=3) (R:=TOpV) (cf:=fun x y=>EY x.fKey y.fKey) (g:=84) Tryz.isAgg167 Tryz.sizeOf167 (fun I x c h=>h.len) (fun I x c h=>h.one) (fun x=>by rw [GM,BQ];simp) (fun x y z h1 h2=>by rw [GM] at *; exact Bj h1 h2)
   (fun x y z h1 h2=>by rw [bcmp_nlt] at *; exact JL h1 h2) (enters_of Tryz.func84 (by kernel_rfl) rfl)
   (fun ω' I' x y c d hI hx hy=>Ot (hx.mono hI) (hy.mono hI) ⟨rfl,Ext.refl _⟩) h6 hR6 (by simp;omega) (fun X7 ops7 cells7 hperm hsrt hO7 hR7=>?_)
  have hto7:=AKM hto h0 hperm hsrt;rw [←hperm.length_eq] at hO7;have e7:ntM m=CO m.nt [109] (false,Av m):=if_neg hne;rw [←e7] at hto7;refine RL.ofO (R:=TOpV) (fun h hI=>h.mono hI) hO7 hR7 (fun I8 hI8 hRL=>?_);refine Gh.to (mL b s {V with kv:=.slice ua (Av m).length uc} (Bn m) (X'++R)) (Gh.done ?_);exact hk I8 X' {V with kv:=.slice ua (Av m).length uc} v6 ops7 (hJ.trans hI8) {hF.mono (hJ.trans hI8) with kpt:=hB.mono (hI3.trans (hI4.trans hI8))} (hS1.mono (hJ.trans hI8)) hto7 hRL
 ·have he:Av m=m.kept:=by simpa using e
  have e7:ntM m=m.nt:=if_pos he;rw [←e7] at hto;refine Gh.perm (L':=XO++mL b s V m (X'++R)) (AP (by ((try simp only [AM,AN,AY,AQ]);(try ac_rfl)))) ?_;refine RL.ofO (R:=TOpV) (fun h hI=>h.mono hI) hO (hR.imp fun _ _ h=>h.mono hI2) (fun I8 hI8 hRL=>Gh.done ?_);exact hk I8 X' V v ops (hI2.trans hI8) {hF.mono (hI2.trans hI8) with kpt:=by show Bytes I8 V.kv (Av m);rw [he];exact hF.kpt.mono (hI2.trans hI8)} (hS1.mono (hI2.trans hI8)) hto hRL
end
structure OpOk (y:TOp):Prop where
 one:1≤y.fKey.length
 most:y.fKey.length≤250
 del:y.fDel=true→y.fValue=[]
structure ChOk (ops:List TOp):Prop where
 each:∀y∈ops,OpOk y
 rise:ops.Pairwise fun a b=>blt a.fKey b.fKey=true
theorem SA (k v:List UInt8):∀(l:List TKV) (d:Bool),(chL k v d l).length≤l.length+(if d=true then 0 else 1)
 |[],d=>by unfold chL;cases d <;> simp
 |x::l,d=>by
  have h1:=SA k v l d;have h2:=SA k v l true;unfold chL;split
  ·simp only [List.length_cons];omega
  ·split
   ·rename_i hd
    simp only [List.length_cons,if_true,hd.1,Bool.false_eq_true,if_false] at *; omega
   ·simp only [List.length_cons];omega
theorem OW (l:List TKV)(ops:List TOp):(Hz l ops).length≤l.length+ops.length:=by
 unfold Hz;induction ops generalizing l with
 |nil=>simp
 |cons y ops ih=>
  have h1:=SA y.fKey y.fValue l y.fDel;have h2:=ih (chL y.fKey y.fValue y.fDel l);simp only [List.foldl_cons,List.length_cons];split at h1 <;> omega
theorem ANk:@WP=@Hh:=rfl
theorem ANj:@WO=@Hh:=rfl
theorem ANi:@WN=@Hh:=rfl
section
variable {ω:Om}{I:Imm}{L:LH}{K:Value→M}
theorem ANh {i:Nat}{v0 v1 v4 v5:Value}{l:List TKV}{ops:List TOp}{Kn0:(Value×Value×Value×Value×Unit)→M}(h0:RL TKVV 2 I [] v0 l)(h1:RL TOpV 3 I [] v1 ops)(hi:i < ops.length)(hll:l.length≤400000000)(hol:ops.length≤400000000)
  (hk:∀I' v',Ext I I'→RL TKVV 2 I' [] v' (chL ops[i].fKey ops[i].fValue ops[i].fDel l)→Kn0 (v',v4,v5,.int .i64 ((i:Int)+1),()) I' L):
  (An ((.slice none 0 0,.bool ops[i].fDel,.int .i64 0,()):Value×Value×Value×Unit) fun s Kn1=>Hh ω v0 v1 v4 v5 (.int .i64 i) s.1 s.2.1 s.2.2.1 (fun s=>Gh (Kn0 s)) Kn1 (fun v=>Gh (K v))) I L:=by
 obtain ⟨q1,off1,c1,hix1,hcl1,hc1,hcc1⟩:=RL.ix h1 (i:=(i:Int)) (by omega) (by omega);rw [Aq hi] at hc1;generalize ops[i]=y at *;obtain ⟨w1,w2,rfl,g1,g2⟩:=hc1;have hcv1:=hcc1 I [] (Ext.refl _) (fun _ h=>h);obtain ⟨a1,d1,rfl⟩:=Bytes.form g1;obtain ⟨a2,d2,rfl⟩:=Bytes.form g2;refine loop (fun n s I' L'=>I'=I∧∃(k:Nat) (d:Bool) (XO:LH) (v:Value) (acc:List TKV) (cells:List Value),n+k=l.length∧s=(v,.bool d,.int .i64 k,())∧L'=XO++L∧SlO 113 2 XO v cells acc.length∧Recs (TKVV I) 2 acc cells∧acc.length≤2 * k∧
   acc++chL y.fKey y.fValue d (l.drop k)=chL y.fKey y.fValue y.fDel l) l.length ⟨rfl,0,y.fDel,[],_,[],[],rfl,rfl,rfl,SlO.none _ _,rfl,by simp,rfl⟩ ?_
 rintro n s I' L' ⟨rfl,k,d,XO,v,acc,cells,hnk,rfl,rfl,hO,hR,hal,hA⟩;unfold Hh;simp only [RL.len h0,SSd,Nat.reduceAdd];refine AC (fun e=>?_) (fun e=>?_)
 ·have hk':k < l.length:=by simpa using e
  rw [List.drop_eq_getElem_cons hk',chL] at hA;obtain ⟨q,off,c,hix,hcl,hc,hcc⟩:=RL.ix h0 (i:=(k:Int)) (by omega) (by omega);rw [Aq hk'] at hc;generalize l[k]=x at *;obtain ⟨u1,u2,rfl,f1,f2⟩:=hc;have hcv:=hcc I' [] (Ext.refl _) (fun _ h=>h);have hu:∀u∈[u1,u2],u.oneCell'=true:=by
   obtain ⟨_,_,rfl⟩:=Bytes.form f1;obtain ⟨_,_,rfl⟩:=Bytes.form f2;exact AK rfl
  have five:∀(XO:LH) (v:Value) (cells:List Value) (acc:List TKV) (d:Bool),SlO 113 2 XO v cells acc.length→Recs (TKVV I') 2 acc cells→acc.length≤2 * k+2→acc++chL y.fKey y.fValue d (l.drop (k+1))=chL y.fKey y.fValue y.fDel l→
    Iw ω v (.bool d) (.int .i64 k) (fun s'=>Gh fun I2 L2=>∃m',m' < n∧I2=I'∧∃(k:Nat) (d:Bool) (XO:LH) (v:Value) (acc:List TKV) (cells:List Value),m'+k=l.length∧s'=(v,.bool d,.int .i64 k,())∧L2=XO++L∧SlO 113 2 XO v cells acc.length∧Recs (TKVV I') 2 acc cells∧acc.length≤2 * k∧
   acc++chL y.fKey y.fValue d (l.drop k)=chL y.fKey y.fValue y.fDel l) (fun v=>Gh (K v)) I' (XO++L):=by
   intro XO v cells acc d hO hR hal hA;unfold Iw;try simp only [SSd,Nat.reduceAdd]
   rw [wrap_i64 _ (by omega)];exact Gh.done ⟨n - 1,by omega,rfl,k+1,d,XO,v,acc,cells,by omega,rfl,rfl,hO,hR,by omega,hA⟩
  have seven:∀(XO:LH) (v:Value) (cells:List Value) (acc:List TKV) (d:Bool),SlO 113 2 XO v cells acc.length→Recs (TKVV I') 2 acc cells→acc.length≤2 * k+1→acc++x::chL y.fKey y.fValue d (l.drop (k+1))=chL y.fKey y.fValue y.fDel l→
    Ft ω v0 v (.bool d) (.int .i64 k) (fun s'=>Gh fun I2 L2=>∃m',m' < n∧I2=I'∧∃(k:Nat) (d:Bool) (XO:LH) (v:Value) (acc:List TKV) (cells:List Value),m'+k=l.length∧s'=(v,.bool d,.int .i64 k,())∧L2=XO++L∧SlO 113 2 XO v cells acc.length∧Recs (TKVV I') 2 acc cells∧acc.length≤2 * k∧
   acc++chL y.fKey y.fValue d (l.drop k)=chL y.fKey y.fValue y.fDel l) (fun v=>Gh (K v)) I' (XO++L):=by
   intro XO v cells acc d hO hR hal hA;unfold Ft;simp only [hix,SSd,Nat.reduceAdd];refine Jl hcv (Ext.refl _) rfl ?_;refine NZ (R:=TKVV) (X6:=XO) (x:=x) rfl (by omega) hO hR ⟨u1,u2,rfl,f1,f2⟩ rfl hu (by omega) (by omega) (fun X1 X6 v6 cells6 h6 hR6=>?_);exact Gh.to (X6++L) (Gh.done (five X6 v6 cells6 _ d h6 hR6 (by simp;omega) (by rw [List.append_assoc];exact hA)))
  refine AZ ?_;simp only [hix,SSd,Nat.reduceAdd];refine CQ (hcv 0 _ rfl) (Ext.refl _) ?_;refine Ek f1 (Ext.refl _) ?_;simp only [hix1,SSd,Nat.reduceAdd];refine CQ (hcv1 1 _ rfl) (Ext.refl _) ?_;refine Ek g1 (Ext.refl _) ?_;simp only [sEq,SSd,Nat.reduceAdd];refine AC (fun e2=>?_) (fun e2=>?_)
  ·have e2':x.fKey=y.fKey:=by simpa using e2
   rw [if_pos e2'] at hA;exact five XO v cells acc d hO hR (by omega) hA
  ·have e2':¬x.fKey=y.fKey:=by simpa using e2
   rw [if_neg e2'] at hA;refine AZ ?_;try simp only [SSd,Nat.reduceAdd]
   cases d with
   |true=>
    rw [if_neg (by simp)] at hA;simp only [Bool.not_true,SSd,Nat.reduceAdd];exact seven XO v cells acc true hO hR (by omega) hA
   |false=>
    simp only [Bool.not_false,hix,SSd,Nat.reduceAdd];refine CQ (hcv 0 _ rfl) (Ext.refl _) ?_;refine Ek f1 (Ext.refl _) ?_;refine CQ (hcv1 1 _ rfl) (Ext.refl _) ?_;refine Ek g1 (Ext.refl _) ?_;simp only [sGt,SSd,Nat.reduceAdd];refine AC (fun e3=>?_) (fun e3=>?_)
    ·have hb:blt y.fKey x.fKey=true:=by
      simp only [Bool.not_eq_true',Bool.or_eq_false_iff] at e3;cases hb:blt y.fKey x.fKey with
      |true=>rfl
      |false=>exact absurd (Dn _ _ e3.1 hb) e2'
     rw [if_pos ⟨rfl,hb⟩] at hA;unfold NJ;refine AZ ?_;simp only [hix1,SSd,Nat.reduceAdd];refine CQ (hcv1 1 _ rfl) (Ext.refl _) ?_;refine CQ (hcv1 2 _ rfl) (Ext.refl _) ?_;try simp only [SSd,Nat.reduceAdd]
     refine NZ (R:=TKVV) (X6:=XO) (x:=⟨y.fKey,y.fValue⟩) rfl (by omega) hO hR ⟨_,_,rfl,g1,g2⟩ rfl (AK rfl) (by omega) (by omega) (fun X1 X6 v6 cells6 h6 hR6=>?_);exact Gh.to (X6++L) (Gh.done (seven X6 v6 cells6 _ true h6 hR6 (by simp;omega) (by rw [List.append_assoc];exact hA)))
    ·have hb:¬(false=false∧blt y.fKey x.fKey=true):=by
      rintro ⟨_,hb⟩;have:=EM hb;rw [this] at e3;simp at e3;exact e2' e3
     rw [if_neg hb] at hA;exact seven XO v cells acc false hO hR (by omega) hA
 ·have hkl:k=l.length:=by simp at e;omega
  subst hkl;rw [List.drop_length,chL] at hA;have ten:∀(XO:LH) (v:Value) (cells:List Value) (acc:List TKV),SlO 113 2 XO v cells acc.length→Recs (TKVV I') 2 acc cells→acc=chL y.fKey y.fValue y.fDel l→Lt ω v0 v4 v5 (.int .i64 i) v (fun s=>Gh (Kn0 s)) (fun v=>Gh (K v)) I' (XO++L):=by
   intro XO v cells acc hO hR he;subst he;unfold Lt;try simp only [SSd,Nat.reduceAdd]
   rw [wrap_i64 _ (by omega)];exact SlO.freeze hO (fun I3 hI3 hSl=>Gh.done (hk I3 v hI3 (RL.ofI hSl (hR.imp fun x c h=>h.mono hI3))))
  unfold NI;try simp only [SSd,Nat.reduceAdd]
  refine AC (fun e2=>?_) (fun e2=>?_)
  ·have e2':d=false:=by simpa using e2
   subst e2';rw [if_neg (by simp)] at hA;refine AZ ?_;simp only [hix1,SSd,Nat.reduceAdd];refine CQ (hcv1 1 _ rfl) (Ext.refl _) ?_;refine CQ (hcv1 2 _ rfl) (Ext.refl _) ?_;try simp only [SSd,Nat.reduceAdd]
   refine NZ (R:=TKVV) (X6:=XO) (x:=⟨y.fKey,y.fValue⟩) rfl (by omega) hO hR ⟨_,_,rfl,g1,g2⟩ rfl (AK rfl) (by omega) (by omega) (fun X1 X6 v6 cells6 h6 hR6=>?_);exact Gh.to (X6++L) (Gh.done (ten X6 v6 cells6 _ h6 hR6 hA))
  ·have e2':d=true:=by simpa using e2
   subst e2';rw [if_pos rfl,List.append_nil] at hA;exact ten XO v cells acc hO hR hA
theorem IA {v0 v1 : Value} {l : List TKV} {ops : List TOp} (h0 : RL TKVV 2 I [] v0 l) (h1 : RL TOpV 3 I [] v1 ops) (hc : ChOk ops) (hlv : ∀ y ∈ ops, y.fValue.length ≤ 65536) (hll : l.length ≤ 200000000) (hol : ops.length ≤ 200000000)
    (hk : ∀ I' v', Ext I I' → RL TKVV 2 I' [] v' (Hz l ops) → K (.tuple #[v', .bool true]) I' L) : CT ω 27 #[v0, v1] K I L := by
  refine AOY ?_
  unfold AKk
  refine loop (fun n s I' L' => Ext I I' ∧ L' = L ∧ ∃ (i : Nat) (v : Value), n + i = ops.length ∧ s = (v, .slice none 0 0, .bool false, .int .i64 i, ()) ∧ RL TKVV 2 I' [] v (Hz l (ops.take i))) ops.length ⟨Ext.refl _, rfl, 0, v0, rfl, rfl, h0⟩ ?_
  rintro n s I' L' ⟨hI, rfl, i, v, hni, rfl, hv⟩
  have h1' := RL.monoI (fun x c h => h.mono hI) h1 hI
  unfold AAr
  simp only [RL.len h1, SSd, Nat.reduceAdd]
  refine AC (fun e => ?_) (fun e => ?_)
  · have hi : i < ops.length := by simpa using e
    have hcl := OW l (ops.take i)
    rw [List.length_take] at hcl
    have hin := fun (Kn0 : (Value × Value × Value × Value × Unit) → M) (v4 v5 : Value) => ANh (ω := ω) (K := K) (L := L') (Kn0 := Kn0) (v4 := v4) (v5 := v5) hv h1' hi (by omega) (by omega)
    have hch : chL ops[i].fKey ops[i].fValue ops[i].fDel (Hz l (ops.take i)) = Hz l (ops.take (i + 1)) := by
      rw [List.take_succ_eq_append_getElem hi, QT]
    rw [hch] at hin
    have hok := hc.each _ (List.getElem_mem hi)
    have hlv1 := hlv _ (List.getElem_mem hi)
    obtain ⟨q1, off1, c1, hix1, hcl1, hc1, hcc1⟩ := RL.ix h1' (i := (i : Int)) (by omega) (by omega)
    rw [Aq hi] at hc1
    have hprev : 0 < i → ∃ q b off w0 w1 w2, ixV 3 v1 (.int .i64 ((i : Int) - 1)) = some (.pointer (some ⟨b, off, none⟩)) ∧ Cells I' L' b off [w0, w1, w2] ∧ Bytes I' w1 q ∧ (blt ops[i].fKey q || ops[i].fKey == q) = false := by
      intro h
      obtain ⟨q2, off2, c2, hix2, hcl2, hc2, hcc2⟩ := RL.ix h1' (i := ((i - 1 : Nat) : Int)) (by omega) (by omega)
      rw [Aq (by omega)] at hc2
      obtain ⟨w1, w2, he, g1, g2⟩ := hc2
      have hcc3 := hcc2 I' L' (Ext.refl _) (fun _ h => by cases h)
      rw [he] at hcc3
      have hlt := List.pairwise_iff_getElem.1 hc.rise (i - 1) i (by omega) hi (by omega)
      refine ⟨_, _, _, _, _, _, by rw [← hix2]; congr 3; omega, hcc3, g1, ?_⟩
      rw [EM hlt]
      simpa using fun e => IZ hlt e
    generalize ops[i] = y at *
    obtain ⟨w1, w2, rfl, g1, g2⟩ := hc1
    obtain ⟨a1, d1, rfl⟩ := Bytes.form g1
    obtain ⟨a2, d2, rfl⟩ := Bytes.form g2
    have hcv1 := hcc1 I' [] (Ext.refl _) (fun _ h => h)
    obtain ⟨o1, o2, o3⟩ := hok
    refine AZ ?_
    simp only [hix1, SSd, Nat.reduceAdd]
    refine CQ (hcv1 1 _ rfl) (Ext.refl _) ?_
    try simp only [SSd, Nat.reduceAdd]
    refine AG (fun e2 => ?_) (fun e2 => absurd e2 (by simp; omega))
    try simp only [SSd, Nat.reduceAdd]
    refine CQ (hcv1 1 _ rfl) (Ext.refl _) ?_
    try simp only [SSd, Nat.reduceAdd]
    refine AG (fun e2 => ?_) (fun e2 => absurd e2 (by simp; omega))
    refine CQ (hcv1 2 _ rfl) (Ext.refl _) ?_
    try simp only [SSd, Nat.reduceAdd]
    refine AG (fun e2 => ?_) (fun e2 => absurd e2 (by simp; omega))
    refine CQ (hcv1 0 _ rfl) (Ext.refl _) ?_
    simp only [ANk, ANj, ANi]
    have tail : (Gd (.bool (decide (0 < (i : Int)))) true
                  (Rv (some (Stay I' L')) (AD (.pointer (some ⟨q1, off1 + 1, none⟩))) fun v24 =>
                    Rv (some (Stay I' L')) (bsR v24) fun v25 =>
                      Pv (ixV 3 v1 (.int .i64 (IntKind.i64.wrap ((i : Int) - 1)))) fun v27 =>
                        Pv (AA 1 v27) fun v28 =>
                          Rv (some (Stay I' L')) (AD v28) fun v29 =>
                            Rv (some (Stay I' L')) (bsR v29) fun v30 =>
                              Pv (BO .leq v25 v30) fun v31 =>
                                Br v31 (Gh (K (.tuple #[.slice none 0 0, .bool false])))
                                  (Rv none (AD (.pointer (some ⟨q1, off1, none⟩))) fun v34 =>
                                    An ((.slice none 0 0, v34, .int .i64 0, ()) : Value × Value × Value × Unit) fun s Kn1 =>
                                      Hh ω v v1 (.slice none 0 0) (.bool false) (.int .i64 i) s.1 s.2.1 s.2.2.1
                                        (fun s => Gh fun I2 L2 => ∃ m', m' < n ∧ Ext I I2 ∧ L2 = L' ∧ ∃ (i : Nat) (v : Value), m' + i = ops.length ∧ s = (v, .slice none 0 0, .bool false, .int .i64 i, ()) ∧ RL TKVV 2 I2 [] v (Hz l (ops.take i))) Kn1 fun v => Gh (K v)))
                  (Rv none (AD (.pointer (some ⟨q1, off1, none⟩))) fun v83 =>
                    An ((.slice none 0 0, v83, .int .i64 0, ()) : Value × Value × Value × Unit) fun s Kn1 =>
                      Hh ω v v1 (.slice none 0 0) (.bool false) (.int .i64 i) s.1 s.2.1 s.2.2.1
                        (fun s => Gh fun I2 L2 => ∃ m', m' < n ∧ Ext I I2 ∧ L2 = L' ∧ ∃ (i : Nat) (v : Value), m' + i = ops.length ∧ s = (v, .slice none 0 0, .bool false, .int .i64 i, ()) ∧ RL TKVV 2 I2 [] v (Hz l (ops.take i))) Kn1 fun v => Gh (K v))) I' L' := by
      have fin := hin (fun s => fun I2 L2 => ∃ m', m' < n ∧ Ext I I2 ∧ L2 = L' ∧ ∃ (i : Nat) (v : Value), m' + i = ops.length ∧ s = (v, .slice none 0 0, .bool false, .int .i64 i, ()) ∧ RL TKVV 2 I2 [] v (Hz l (ops.take i))) (.slice none 0 0) (.bool false) (fun I2 v2 hI2 hv2 => ⟨n - 1, by omega, hI.trans hI2, rfl, i + 1, v2, by omega, rfl, hv2⟩)
      refine AG (fun e2 => ?_) (fun e2 => ?_)
      · obtain ⟨q, b, off, u0, u1, u2, hix2, hc2, hq, hle⟩ := hprev (by simp at e2; omega)
        refine CQ (hcv1 1 _ rfl) (Ext.refl _) ?_
        refine Ek g1 (Ext.refl _) ?_
        rw [wrap_i64 _ (by omega)]
        simp only [hix2, SSd, Nat.reduceAdd]
        refine CQ (hc2 1 _ rfl) (Ext.refl _) ?_
        refine Ek hq (Ext.refl _) ?_
        simp only [sLe, hle, SSd, Nat.reduceAdd]
        refine rdC (hcv1 0 _ rfl) (Ext.refl _) ?_
        exact fin
      · refine rdC (hcv1 0 _ rfl) (Ext.refl _) ?_
        exact fin
    refine AG (fun e3 => ?_) (fun e3 => ?_)
    · refine CQ (hcv1 2 _ rfl) (Ext.refl _) ?_
      try simp only [SSd, Nat.reduceAdd]
      refine AG (fun e4 => tail) (fun e4 => absurd (o3 (by simpa using e3)) (by simpa using e4))
    · exact tail
  · have hi : i = ops.length := by simp at e; omega
    subst hi
    rw [List.take_length] at hv
    exact Gh.done (hk I' v hI hv)
end
theorem Lr {k v:List UInt8}:∀{l:List TKV} {d:Bool},IC l→IC (chL k v d l)
 |[],d,_=>by unfold chL;split <;> simp [IC]
 |y::l,d,h=>by
  obtain ⟨h1,h2⟩:=List.pairwise_cons.1 h;unfold chL;split
  ·exact Lr h2
  ·rename_i hy
   split
   ·rename_i hd
    refine List.pairwise_cons.2 ⟨fun z hz=>?_,List.pairwise_cons.2 ⟨fun z hz=>?_,Lr h2⟩⟩
    ·rcases List.mem_cons.1 hz with rfl|hz
     ·exact hd.2
     ·rcases mem_chL.1 hz with ⟨hz,_⟩|⟨hz,_⟩
      ·exact Bj hd.2 (h1 z hz)
      ·cases hz
    ·rcases mem_chL.1 hz with ⟨hz,_⟩|⟨hz,_⟩
     ·exact h1 z hz
     ·cases hz
   ·rename_i hd
    refine List.pairwise_cons.2 ⟨fun z hz=>?_,Lr h2⟩;rcases mem_chL.1 hz with ⟨hz2,_⟩|⟨hz2,rfl⟩
    ·exact h1 z hz2
    ·cases e:blt y.fKey k with
     |true=>rfl
     |false=>
      cases e2:blt k y.fKey with
      |true=>exact absurd ⟨hz2,e2⟩ hd
      |false=>exact absurd (Dn _ _ e e2) hy
theorem AAV {l:List TKV}(h:IC l):∀ops:List TOp,IC (Hz l ops):=by
 intro ops;unfold Hz;induction ops generalizing l with
 |nil=>exact h
 |cons y ops ih=>exact ih (Lr h)
def NoM (nt:Nts):Prop:=nt [109]=none
theorem NoM.upd {nt:Nts}(h:NoM nt){k:List UInt8}(hk:k≠[109])(x:Bool×List UInt8):NoM (CO nt k x):=by
 unfold NoM;rw [CN _ _ (Ne.symm hk)];exact h
theorem AAN (k:List UInt8)(v:TVer):Ag k v≠[109]:=fun e=>by unfold Ag at e;cases e
theorem Xw (k:List UInt8):(105::k)≠[109]:=fun e=>by cases e
theorem NoM.put {nt:Nts}(h:NoM nt)(sp:Sp)(x:TIntent):NoM (Fz sp x nt):=by
 unfold Fz;split
 ·exact h
 ·exact h.upd (Xw _) _
theorem NoM.res {nt:Nts}(h:NoM nt)(sp:Sp)(k:List UInt8)(txn:Int)(yes:Bool)(a:TStamp):NoM (GN sp k txn yes a nt):=by
 unfold GN;split
 ·split
  ·unfold Jj;split
   ·exact (h.upd (Xw _) _).upd (AAN _ _) _
   ·exact h.upd (Xw _) _
  ·exact h
 ·exact h
theorem NoM.gone {k:List UInt8}:∀{l:List TVer} {nt:Nts},NoM nt→NoM (HW k l nt)
 |[],_,h=>h
 |v::l,_,h=>NoM.gone (l:=l) (h.upd (AAN _ _) _)
theorem NoM.colR {fl:TStamp}:∀{rows:List Row} {nt:Nts},NoM nt→NoM (EJ fl rows nt)
 |[],_,h=>h
 |r::rows,nt,h=>by
  have h1:NoM (EV fl nt r):=by
   unfold EV;split
   ·exact h
   ·exact h.gone
  exact NoM.colR (rows:=rows) h1
theorem NoM.col {nt:Nts}(h:NoM nt)(sp:Sp)(a:TStamp):NoM (Hf sp a nt):=by
 unfold Hf;split
 ·exact h
 ·split
  ·exact (h.upd (by decide) _).colR
  ·exact h.colR
theorem NoM.verN {g:Bool}{k:List UInt8}:∀{l:List TVer} {nt:Nts},NoM nt→NoM (verN g k l nt)
 |[],_,h=>h
 |v::l,_,h=>NoM.verN (l:=l) (h.upd (AAN _ _) _)
theorem NoM.noteA {g:Bool}{r:Row}{nt:Nts}(h:NoM nt):NoM (noteA g r nt):=by
 unfold Go.Proofs.YtmmfcgbfbcamcaaGreatDoor.noteA;split
 ·exact h.verN
 ·exact h.verN.upd (Xw _) _
theorem NoM.noteAs {g:Bool}:∀{rs:List Row} {nt:Nts},NoM nt→NoM (noteAs g rs nt)
 |[],_,h=>h
 |r::rs,_,h=>NoM.noteAs (rs:=rs) h.noteA
theorem NoM.floor (fl:TStamp):NoM (BC fl):=by
 unfold BC;split
 ·rfl
 ·exact NoM.upd (nt:=nt0) rfl (by decide) _
theorem NoM.resL {c:TCmd}:∀{l:List TIntent} {sp:Sp} {nt:Nts},NoM nt→NoM (resL c l sp nt).2.2
 |[],sp,nt,h=>h
 |x::l,sp,nt,h=>by
  have h2:=h.res sp x.fKey c.fTxn c.fYes c.fAt;unfold Go.Proofs.YtmmfcgbfbcamcaaGreatDoor.resL;split
  ·exact NoM.resL (l:=l) h
  ·split
   ·exact h2
   ·exact NoM.resL (l:=l) h2
def NoK (m m':Mch):Prop:=(NoM m.nt→NoM m'.nt)∧m'.kept=m.kept
theorem NoK.refl (m:Mch):NoK m m:=⟨id,rfl⟩
section
variable {m:Mch}{c:TCmd}
theorem ALO:NoK m (FP m c).2:=by
 unfold FP;split
 ·exact .refl m
 ·split
  ·exact .refl m
  ·unfold Dx room;split <;> exact ⟨id,rfl⟩
theorem AIB:NoK m (EH m c).2:=by
 unfold EH;split
 ·exact .refl m
 ·split <;> exact ⟨id,rfl⟩
theorem Us {e:Int}{a:TStamp}:NoK m (EZ m c e a):=by
 unfold EZ;split <;> exact ⟨id,rfl⟩
theorem NoK.trans {a b d:Mch}(h:NoK a b)(h':NoK b d):NoK a d:=⟨fun x=>h'.1 (h.1 x),h'.2.trans h.2⟩
theorem AKv:NoK m (DN m c).2:=by
 unfold DN;split
 ·exact .refl m
 ·split
  ·exact .refl m
  ·split
   ·exact .refl m
   ·split
    ·exact .refl m
    ·dsimp only
     split
     ·exact NoK.trans (b:={m with sp:=ET m.sp (DC c (BI m.low (CH m c).1 c.fTxn).1),nt:=Fz m.sp (DC c (BI m.low (CH m c).1 c.fTxn).1) m.nt}) ⟨fun h=>h.put m.sp (DC c (BI m.low (CH m c).1 c.fTxn).1),rfl⟩ Us
     ·exact ⟨fun h=>h.put m.sp _,rfl⟩
theorem AKu:NoK m (Ew m c).2:=by
 unfold Ew;split
 ·exact .refl m
 ·split
  ·exact .refl m
  ·split
   ·exact .refl m
   ·split
    ·exact .refl m
    ·split
     ·exact .refl m
     ·exact NoK.trans (b:={m with low:=Bw m.low c.fTo c.fTxn}) ⟨id,rfl⟩ Us
theorem VF {m1:Mch}{k s:Int}{a:TStamp}(e:Dq m k s a=some m1):NoK m m1:=by
 unfold Dq at e;split at e
 ·cases e;exact .refl m
 ·split at e
  ·cases e
  ·cases e;exact ⟨id,rfl⟩
theorem ANH:NoK m (FR m c).2:=by
 unfold FR;split
 ·exact .refl m
 ·split
  ·exact .refl m
  ·rename_i e
   have h1:=VF e;split
   ·exact h1
   ·exact h1.trans Us
theorem ALS:NoK m (FQ m c).2:=by
 unfold FQ;split
 ·exact .refl m
 ·rename_i e
  have h1:=VF e;dsimp only
  unfold endOf;split <;> exact h1
theorem AIk:NoK m (Dc m c).2:=by
 unfold Dc;split
 ·exact .refl m
 ·rename_i e
  have h1:=VF e;dsimp only
  unfold GB;split <;> exact h1
theorem ALR:NoK m (HL m c).2:=by
 unfold HL;split <;> exact ⟨id,rfl⟩
theorem AKt:NoK m (FX m c).2:=by
 unfold FX;split
 ·exact .refl m
 ·exact ⟨fun h=>NoM.resL h,rfl⟩
theorem ALV:NoK m (PC m c).2:=⟨fun h=>h.col m.sp c.fAt,rfl⟩
theorem AAX:NoK m (Ci m c).2.1:=by
 unfold Ci;split
 ·exact .refl m
 ·exact ⟨fun h=>h.noteAs,rfl⟩
theorem apply_k:NoK m (BH m c).2.1:=by
 have ite:∀{p:Prop} [Decidable p] {x y:TRes×Mch×Option Mch},NoK m x.2.1→NoK m y.2.1→NoK m (if p then x else y).2.1:=fun {p} _ {x y} h1 h2=>by
  by_cases h:p
  ·rw [if_pos h];exact h1
  ·rw [if_neg h];exact h2
 exact ite (.refl m) (ite ALO (ite AIB (ite AKv (ite AKu (ite ANH (ite ALS (ite AIk (ite ALR (ite AKt (ite ALV AAX))))))))))
end
end Go.Proofs.YtmmfcgbfbcamcaaGreatDoor
