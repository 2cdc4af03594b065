/-
  Lemmas, part 8: laid together by a program.
-/
import Derived.Test.YtmmfcgbfbcamcaaGreatDoorP7
import Derived.Test.YtmmfcgbfbcamcaaGreatDoorP6
set_option maxRecDepth 100000
set_option linter.unusedVariables false
set_option linter.unusedSimpArgs false
set_option linter.unusedSectionVars false
namespace Go.Proofs.YtmmfcgbfbcamcaaGreatDoor
open Go.SL
theorem VQ {k:List UInt8}(h:An k=true):1≤k.length∧k.length≤110:=by simpa [An] using h
abbrev mk0:TMk:=⟨z0,0⟩
structure Mch where
 span:TSpan
 sp:Sp
 nt:Nts
 marks:AL (List UInt8) TMk
 low:TMk
 recs:AL Int TRc
 seen:AL Int TSn
 oldest:Int
 kept:List UInt8
def Al (e:Int):TRes:=⟨e,BK,[],z0,0,0⟩
def okR:TRes:=Al 0
def HB (p q:TSpan):Bool:= !(blt q.fFrom p.fFrom)&&(p.fTo.length==0||(!(q.fTo.length==0)&& !(blt p.fTo q.fTo)))
def Ar (k:TMk)(a:TStamp)(n:Int):TMk:=if bhd a k.fAt=true then ⟨a,n⟩ else if bhd k.fAt a=false∧n≠k.fBy then ⟨k.fAt,0⟩ else k
def BJ (low:TMk)(l:AL (List UInt8) TMk):TMk:=l.foldl (fun k q=>Ar k q.2.fAt q.2.fBy) low
def EO (m:Mch)(k:List UInt8):Bool:=(lkA m.marks k).isNone&&m.marks.length==32
def room (m:Mch)(k:List UInt8):Mch:=if EO m k=true then {m with marks:=[],low:=BJ m.low m.marks} else m
def CR (m:Mch)(k:List UInt8)(a:TStamp)(n:Int):Mch:=
 {room m k with marks:=Ap blt k (Ar ((lkA (room m k).marks k).getD mk0) a n) (room m k).marks}
def Am (k:TMk)(w:TStamp)(n:Int):TStamp×Int:=if k.fBy=n∧bhd k.fAt w=true then (k.fAt,0) else if k.fBy=n∨bhd w k.fAt=true then (w,0) else Bs k.fAt
def Ep (m:Mch)(c:TCmd):TRes×Mch:=
 if inB m.span c.fKey=false then (Al 141,m) else
 if (CG m.sp c.fKey c.fAt c.fTxn).2≠0 then (⟨(CG m.sp c.fKey c.fAt c.fTxn).2,BK,[],z0,(CG m.sp c.fKey c.fAt c.fTxn).1.fBy,0⟩,m) else
 (⟨0,(CG m.sp c.fKey c.fAt c.fTxn).1,[],z0,0,0⟩,CR m c.fKey c.fAt c.fTxn)
def Dk (m:Mch)(c:TCmd):TRes×Mch:=
 if HB m.span c.fSpan=false then (Al 141,m) else
 if (Bk m.sp c.fSpan c.fAt c.fTxn c.fMost).2.2≠0 then (⟨(Bk m.sp c.fSpan c.fAt c.fTxn c.fMost).2.2,BK,[],z0,(Bk m.sp c.fSpan c.fAt c.fTxn c.fMost).2.1,0⟩,m) else
 (⟨0,BK,(Bk m.sp c.fSpan c.fAt c.fTxn c.fMost).1,z0,0,0⟩,{m with low:=Ar m.low c.fAt c.fTxn})
def BV (m:Mch)(c:TCmd):Option TRes:=match lkA m.seen c.fTxn with
 |some x=>if x.fSeq=c.fSeq then some ⟨x.fCode,BK,[],x.fAt,0,0⟩ else if c.fSeq < x.fSeq then some (Al 144) else none
 |none=>if c.fTxn≤m.oldest then some (Al 144) else none
def Cd (m:Mch)(c:TCmd)(e:Int)(a:TStamp):AL Int TSn:=Ap ilt c.fTxn ⟨c.fSeq,e,a⟩ m.seen
def DD (m:Mch)(c:TCmd)(e:Int)(a:TStamp):Mch:=
 if 64 < (Cd m c e a).length then {m with seen:=(Cd m c e a).tail,oldest:=((Cd m c e a).head?.map (·.1)).getD 0} else {m with seen:=Cd m c e a}
def BU (m:Mch)(c:TCmd):TStamp×Int:=match lkA m.marks c.fKey with
 |some k=>Am k c.fAt c.fTxn
 |none=>(c.fAt,0)
def Av (c:TCmd)(w:TStamp):TIntent:=⟨c.fKey,c.fTxn,w,c.fDel,c.fValue⟩
def CP (m:Mch)(c:TCmd):TRes×Mch:=
 if inB m.span c.fKey=false then (Al 141,m) else
 match BV m c with
 |some r=>(r,m)
 |none=>
  if (BU m c).2≠0 then (Al (BU m c).2,m) else
  if (Am m.low (BU m c).1 c.fTxn).2≠0 then (Al (Am m.low (BU m c).1 c.fTxn).2,m) else
  let x:=Av c (Am m.low (BU m c).1 c.fTxn).1
  let m1:Mch:={m with sp:=CL m.sp x,nt:=Ek m.sp x m.nt}
  (⟨(Az m.sp x).2.2,BK,[],(Az m.sp x).1,(Az m.sp x).2.1,0⟩,if (Az m.sp x).2.2=0 then DD m1 c 0 (Az m.sp x).1 else m1)
def Dj (m:Mch)(c:TCmd):TRes×Mch:=
 if HB m.span c.fSpan=false then (Al 141,m) else
 match BV m c with
 |some r=>(r,m)
 |none=>
  if bhd c.fAt c.fTo=true then (Al 1,m) else
  if (chF m.sp c.fSpan c.fAt c.fTo c.fTxn).2≠0 then (Al (chF m.sp c.fSpan c.fAt c.fTo c.fTxn).2,m) else
  if (chF m.sp c.fSpan c.fAt c.fTo c.fTxn).1=true then (Al 144,m) else
  (okR,DD {m with low:=Ar m.low c.fTo c.fTxn} c 0 z0)
def Cr (m:Mch)(n s:Int)(a:TStamp):Option Mch:=if (lkA m.recs n).isSome=true then some m else if 64≤m.recs.length then none else some {m with recs:=Ap ilt n ⟨s,a⟩ m.recs}
def recAt (m:Mch)(n:Int):TRc:=(lkA m.recs n).getD ⟨0,z0⟩
def EH (m:Mch)(c:TCmd):TRes×Mch:=
 match BV m c with
 |some r=>(r,m)
 |none=>match Cr m c.fTxn 1 c.fAt with
  |none=>(Al 143,m)
  |some m1=>if (recAt m1 c.fTxn).fState≠1 then (⟨142,BK,[],z0,0,(recAt m1 c.fTxn).fState⟩,m1) else (⟨0,BK,[],z0,0,1⟩,DD m1 c 0 z0)
def Cx (c:TCmd):Int:=if c.fYes=true then 2 else 3
def endOf (m1:Mch)(c:TCmd):Mch:=if (recAt m1 c.fTxn).fState=1 then {m1 with recs:=Ap ilt c.fTxn ⟨Cx c,c.fAt⟩ m1.recs} else m1
def FG (m:Mch)(c:TCmd):TRes×Mch:=match Cr m c.fTxn 3 c.fAt with
 |none=>(Al 143,m)
 |some m1=>(⟨if (recAt (endOf m1 c) c.fTxn).fState≠Cx c then 142 else 0,BK,[],(recAt (endOf m1 c) c.fTxn).fAt,0,(recAt (endOf m1 c) c.fTxn).fState⟩,endOf m1 c)
def pushB (x:TRc)(c:TCmd):Bool:=x.fState==1&&(bhd x.fAt c.fAt||(!(bhd c.fAt x.fAt)&&decide (c.fBy < c.fTxn)))
def IZ (m1:Mch)(c:TCmd):Mch:=if pushB (recAt m1 c.fTxn) c=true then {m1 with recs:=Ap ilt c.fTxn ⟨3,(recAt m1 c.fTxn).fAt⟩ m1.recs} else m1
def DZ (m:Mch)(c:TCmd):TRes×Mch:=match Cr m c.fTxn 3 c.fAt with
 |none=>(Al 143,m)
 |some m1=>(⟨0,BK,[],(recAt m1 c.fTxn).fAt,0,if pushB (recAt m1 c.fTxn) c=true then 3 else (recAt m1 c.fTxn).fState⟩,IZ m1 c)
def FF (m:Mch)(c:TCmd):TRes×Mch:=if (recAt m c.fTxn).fState=1 then (Al 142,m) else (okR,{m with recs:=HQ c.fTxn m.recs})
def Cy (c:TCmd):List TIntent→Sp→Nts→Int×Sp×Nts
 |[],sp,nt=>(0,sp,nt)
 |x::l,sp,nt=>if x.fTxn≠c.fTxn∨inB c.fSpan x.fKey=false then Cy c l sp nt else
   if (DU sp x.fKey c.fTxn c.fYes c.fAt).2≠0 then ((DU sp x.fKey c.fTxn c.fYes c.fAt).2,Dl sp x.fKey c.fTxn c.fYes c.fAt,HL sp x.fKey c.fTxn c.fYes c.fAt nt) else
   Cy c l (Dl sp x.fKey c.fTxn c.fYes c.fAt) (HL sp x.fKey c.fTxn c.fYes c.fAt nt)
def EV (m:Mch)(c:TCmd):TRes×Mch:=if HB m.span c.fSpan=false then (Al 141,m) else
 (Al (Cy c (intsOf m.sp.rows) m.sp m.nt).1,{m with sp:=(Cy c (intsOf m.sp.rows) m.sp m.nt).2.1,nt:=(Cy c (intsOf m.sp.rows) m.sp m.nt).2.2})
def QK (m:Mch)(c:TCmd):TRes×Mch:=(Al (Gy m.sp c.fAt).2,{m with sp:=colS m.sp c.fAt,nt:=OW m.sp c.fAt m.nt})
noncomputable def CA (m:Mch)(c:TCmd):TRes×Mch×Option Mch:=if inB m.span c.fKey=false∨c.fKey=m.span.fFrom then (Al 141,m,none) else
 (okR,{m with span:=⟨m.span.fFrom,c.fKey⟩,sp:=Gu c.fKey m.sp,nt:=CE true (CN c.fKey m.sp.rows) m.nt,marks:=m.marks.filter fun q=>blt q.1 c.fKey},
  some ⟨⟨c.fKey,m.span.fTo⟩,Fw c.fKey m.sp,CE false (CN c.fKey m.sp.rows) (DB m.sp.floor),m.marks.filter fun q=> !blt q.1 c.fKey,m.low,[],m.seen,m.oldest,[]⟩)
def As (r:TRes×Mch):TRes×Mch×Option Mch:=(r.1,r.2,none)
noncomputable def doM (m:Mch)(c:TCmd):TRes×Mch×Option Mch:=
 if c.fKind=1 then As (Ep m c) else if c.fKind=2 then As (Dk m c) else if c.fKind=3 then As (CP m c) else if c.fKind=4 then As (Dj m c) else if c.fKind=5 then As (EH m c) else
 if c.fKind=6 then As (FG m c) else if c.fKind=7 then As (DZ m c) else if c.fKind=8 then As (FF m c) else if c.fKind=9 then As (EV m c) else if c.fKind=10 then As (QK m c) else CA m c
noncomputable def BQ (m:Mch)(c:TCmd):TRes×Mch×Option Mch:=if Ba c=false then (Al 140,m,none) else doM m c
def FR (p:TSpan):Mch:=⟨p,sp0,nt0,[],mk0,[],[],0,[]⟩
def Db (n:Int):Bool:=decide (0≤n∧n≤9007199254740991)
structure MkOk (k:TMk):Prop where
 right:AU k.fAt=true
 by':Db k.fBy=true
structure RcOk (x:TRc):Prop where
 state:1≤x.fState∧x.fState≤3
 right:AU x.fAt=true
structure SnOk (x:TSn):Prop where
 seq:Db x.fSeq=true
 code:x.fCode=0
 right:AU x.fAt=true
structure MOk (m:Mch)(N:Nat):Prop where
 span:CB m.span=true
 sp:SpOk m.sp
 rows:m.sp.rows.length≤N
 vers:Ah m.sp.rows≤N * N
 marks:SrtA blt m.marks
 marksL:m.marks.length≤32
 mark:∀q∈m.marks,An q.1=true∧MkOk q.2
 low:MkOk m.low
 recs:SrtA ilt m.recs
 recsL:m.recs.length≤64
 rec':∀q∈m.recs,Bj q.1=true∧RcOk q.2
 seen:SrtA ilt m.seen
 seenL:m.seen.length≤64
 sn:∀q∈m.seen,Bj q.1=true∧SnOk q.2
 oldest:Db m.oldest=true
section
variable {ω:Om}{I:Imm}{L:LH}{K:Value→M}
theorem QL {v:Value}{l:List UInt8}(h:Bytes I v l)(hl:l.length≤140737488355328)(hk:∀X a c,SlO 5 1 X (.slice a l.length c) (u8s l) l.length→K (.slice a l.length c) I (X++L)):CT ω 82 #[v] K I L:=by
 refine AJw ?_;unfold AGK;obtain ⟨a,cap,rfl⟩:=Bytes.form h;cases a with
 |none=>
  try simp only [SSd,Nat.reduceAdd]
  have hl0:l.length=0:=by
   obtain ⟨_,a,c,e,_,h⟩:=h;cases e
   by_cases h0:l.length=0
   ·exact h0
   ·obtain ⟨b,off,cs,T,fr,e,_⟩:=h h0;cases e
  have:l=[]:=List.eq_nil_of_length_eq_zero hl0;subst this;exact Gh.done (hk [] _ _ (SlO.none _ 1))
 |some a=>
  try simp only [SSd,Nat.reduceAdd]
  refine QO (fun X u hX=>?_);refine DJ rfl hX (SlI.news h) (FX _) (by omega) (by omega) (fun X' v' hX'=>?_);obtain ⟨a1,cap1,rfl⟩:=hX'.form;simp only [Nat.zero_add,List.nil_append] at hX' ⊢;exact Gh.done (hk X' _ _ hX')
theorem EF {v:Value}{l:List UInt8}(h:Bytes I v l)(hl:l.length≤140737488355328)(hk:∀a c I',Ext I I'→Bytes I' (.slice a l.length c) l→K (.slice a l.length c) I' L):CT ω 82 #[v] K I L:=
 Cal.gh (QL h hl (fun X a c hX=>SlO.freeze hX (fun I' hI hS=>Gh.done (hk a c I' hI hS))))
theorem DH {v w:Value}{a b:List UInt8}(hv:Bytes I v a)(hw:Bytes I w b)(hk:K (.int .i64 (HU a b)) I L):CT ω 85 #[v,w] K I L:=by
 refine AJv ?_;unfold AGJ;exact AFV hv hw (Gh.done (Gh.done hk))
theorem VI {v:Value}{l:List UInt8}(h:Bytes I v l)(hk:K (.bool (An l)) I L):CT ω 91 #[v] K I L:=by
 obtain ⟨a,c,rfl⟩:=Bytes.form h;refine AJr ?_;unfold sh91;repeat' (first|(with_reducible first|refine AK ?_|refine AX ?_|refine AY ?_|refine keepA ?_|refine AM (fun _=>?_)|refine rdb ?_)|((with_reducible first|refine st1 ?_ ?_|refine rdB ?_ ?_);rfl)|(with_reducible refine AV ?_)|((with_reducible refine Ae ?_ ?_);rfl)|((with_reducible refine stB ?_ ?_ ?_ ?_);rfl;rfl;exact AE rfl)|((with_reducible first|refine rdP _ rfl ?_ ?_|refine Af _ rfl ?_ ?_);rfl)|((with_reducible refine stP _ rfl ?_ ?_ ?_ ?_);rfl;rfl;rfl)|(with_reducible first|refine AO (sh91.eq_1 ..) ?_|refine And.intro ?_ ?_)|(simp only [SSg,Int.reduceBEq,Int.reduceBNe,Int.reduceLT,Int.reduceLE,beq_self_eq_true,bne_self_eq_false])|(with_reducible first|refine AH (fun _=>?_) (fun _=>?_)|refine AD (fun _=>?_) (fun _=>?_))|(simp only [SSd,Nat.reduceAdd]))
 all_goals (refine Gh.done (Bz hk ?_);rw [Bool.eq_iff_iff];simp only [An,ne_eq,decide_eq_true_eq,decide_eq_false_iff_not,Bool.false_eq_true,iff_false] at *; omega)
theorem Gl {a:Int}(hk:K (.bool (Bj a)) I L):CT ω 90 #[.int .i64 a] K I L:=by
 refine AJs ?_;unfold sh90;repeat' (first|(with_reducible first|refine AK ?_|refine AX ?_|refine AY ?_|refine keepA ?_|refine AM (fun _=>?_)|refine rdb ?_)|((with_reducible first|refine st1 ?_ ?_|refine rdB ?_ ?_);rfl)|(with_reducible refine AV ?_)|((with_reducible refine Ae ?_ ?_);rfl)|((with_reducible refine stB ?_ ?_ ?_ ?_);rfl;rfl;exact AE rfl)|((with_reducible first|refine rdP _ rfl ?_ ?_|refine Af _ rfl ?_ ?_);rfl)|((with_reducible refine stP _ rfl ?_ ?_ ?_ ?_);rfl;rfl;rfl)|(with_reducible first|refine AO (sh90.eq_1 ..) ?_|refine And.intro ?_ ?_)|(simp only [SSg,Int.reduceBEq,Int.reduceBNe,Int.reduceLT,Int.reduceLE,beq_self_eq_true,bne_self_eq_false])|(with_reducible first|refine AH (fun _=>?_) (fun _=>?_)|refine AD (fun _=>?_) (fun _=>?_))|(simp only [SSd,Nat.reduceAdd]))
 all_goals (refine Gh.done (Bz hk ?_);simp_all [Bj] <;> omega)
theorem ltI (a b:List UInt8):decide (0 < HU a b)=blt b a:=OY a b
theorem Kx {p:TSpan}{c:List Value}(hp:TSpanV I p c)(hk:K (.bool (CB p)) I L):CT ω 30 #[.agg c.toArray] K I L:=by
 obtain ⟨v0,v1,rfl,h0,h1⟩:=hp;refine AKY ?_;unfold sh30;repeat' (first|(with_reducible first|refine AK ?_|refine AX ?_|refine AY ?_|refine keepA ?_|refine AM (fun _=>?_))|((with_reducible refine call ?_);refine (DH h1 h0 ?_))|(with_reducible refine rdb ?_)|((with_reducible first|refine st1 ?_ ?_|refine rdB ?_ ?_);rfl)|(with_reducible refine AV ?_)|((with_reducible refine Ae ?_ ?_);rfl)|((with_reducible refine stB ?_ ?_ ?_ ?_);rfl;rfl;exact AE rfl)|((with_reducible first|refine rdP _ rfl ?_ ?_|refine Af _ rfl ?_ ?_);rfl)|((with_reducible refine stP _ rfl ?_ ?_ ?_ ?_);rfl;rfl;rfl)|(with_reducible first|refine AO (sh30.eq_1 ..) ?_|refine And.intro ?_ ?_)|(simp only [SSg,Int.reduceBEq,Int.reduceBNe,Int.reduceLT,Int.reduceLE,beq_self_eq_true,bne_self_eq_false])|(with_reducible first|refine AH (fun _=>?_) (fun _=>?_)|refine AD (fun _=>?_) (fun _=>?_))|(simp only [SSd,Nat.reduceAdd,Bytes.len h0,Bytes.len h1]))
 all_goals (refine Gh.to L (Gh.done (Bz hk ?_));rw [Bool.eq_iff_iff];simp only [CB,←OY,Bool.and_eq_true,Bool.or_eq_true,decide_eq_true_eq,beq_iff_eq,ne_eq,decide_eq_false_iff_not,Bool.false_eq_true,iff_false,not_and,not_or,gt_iff_lt,beq_eq_false_iff_ne,Bool.not_eq_false,iff_true] at *; omega)
theorem EA {p:TSpan}{c:List Value}{kv:Value}{k:List UInt8}(hp:TSpanV I p c)(h:Bytes I kv k)(hk:K (.bool (inB p k)) I L):CT ω 148 #[.agg c.toArray,kv] K I L:=by
 obtain ⟨v0,v1,rfl,h0,h1⟩:=hp;refine AIU ?_;unfold sh148;repeat' (first|(with_reducible first|refine AK ?_|refine AX ?_|refine AY ?_|refine keepA ?_|refine AM (fun _=>?_))|((with_reducible refine call ?_);refine (DH h h0 ?_))|((with_reducible refine call ?_);refine (DH h h1 ?_))|(with_reducible refine rdb ?_)|((with_reducible first|refine st1 ?_ ?_|refine rdB ?_ ?_);rfl)|(with_reducible refine AV ?_)|((with_reducible refine Ae ?_ ?_);rfl)|((with_reducible refine stB ?_ ?_ ?_ ?_);rfl;rfl;exact AE rfl)|((with_reducible first|refine rdP _ rfl ?_ ?_|refine Af _ rfl ?_ ?_);rfl)|((with_reducible refine stP _ rfl ?_ ?_ ?_ ?_);rfl;rfl;rfl)|(with_reducible first|refine AO (sh148.eq_1 ..) ?_|refine And.intro ?_ ?_)|(simp only [SSg,Int.reduceBEq,Int.reduceBNe,Int.reduceLT,Int.reduceLE,beq_self_eq_true,bne_self_eq_false])|(with_reducible first|refine AH (fun _=>?_) (fun _=>?_)|refine AD (fun _=>?_) (fun _=>?_))|(simp only [SSd,Nat.reduceAdd,Bytes.len h1]))
 all_goals (refine Gh.to L (Gh.done (Bz hk ?_));rw [Bool.eq_iff_iff];simp only [inB,←AFY,Bool.not_eq_true',Bool.and_eq_true,Bool.or_eq_true,decide_eq_true_eq,beq_iff_eq,ne_eq,decide_eq_false_iff_not,Bool.false_eq_true,iff_false,not_and,not_or,ge_iff_le,true_iff,and_true,true_and,or_true,beq_eq_false_iff_ne,Bool.not_eq_false,iff_true] at *; omega)
abbrev mv (k:TMk):Value:=.agg #[.int .i64 k.fAt.fWall,.int .i64 k.fAt.fLogic,.int .i64 k.fBy]
theorem GC (a b:TStamp):decide (0 < MA a b)=bhd a b:=Kb a b
theorem Eg (a b:TStamp):decide (MA a b < 0)=bhd b a:=by
 unfold MA bhd MN;by_cases h1:a.fWall < b.fWall <;> by_cases h2:b.fWall < a.fWall <;> by_cases h3:a.fLogic < b.fLogic <;> by_cases h4:b.fLogic < a.fLogic <;> simp [h1,h2,h3,h4] <;> omega
theorem UA {k k':TMk}(h:K (mv k) I L)(e:k=k'):K (mv k') I L:=e ▸ h
theorem Do {k:TMk}{a:TStamp}{n:Int}(hk:K (mv (Ar k a n)) I L):CT ω 153 #[mv k,sv a,.int .i64 n] K I L:=by
 refine AIP ?_;unfold sh153;have h1:=GC a k.fAt;have h2:=Eg a k.fAt;repeat' (first|(with_reducible first|refine AK ?_|refine AX ?_|refine AY ?_|refine keepA ?_|refine AM (fun _=>?_))|((with_reducible refine call ?_);refine (DG (x:=a) (y:=k.fAt) ?_))|(with_reducible refine rdb ?_)|((with_reducible first|refine st1 ?_ ?_|refine rdB ?_ ?_);rfl)|(with_reducible refine AV ?_)|((with_reducible refine Ae ?_ ?_);rfl)|((with_reducible refine stB ?_ ?_ ?_ ?_);rfl;rfl;exact AE rfl)|((with_reducible first|refine rdP _ rfl ?_ ?_|refine Af _ rfl ?_ ?_);rfl)|((with_reducible refine stP _ rfl ?_ ?_ ?_ ?_);rfl;rfl;rfl)|(with_reducible first|refine AO (sh153_3.eq_1 ..) ?_|refine AO (sh153_1.eq_1 ..) ?_|refine AO (sh153.eq_1 ..) ?_|refine And.intro ?_ ?_)|(simp only [SSg,Int.reduceBEq,Int.reduceBNe,Int.reduceLT,Int.reduceLE,beq_self_eq_true,bne_self_eq_false])|(with_reducible first|refine AH (fun _=>?_) (fun _=>?_)|refine AD (fun _=>?_) (fun _=>?_))|(simp only [SSd,Nat.reduceAdd]))
 ·exact Gh.to L (Gh.done (UA (k':=⟨a,n⟩) hk (by unfold Ar;rw [if_pos (by rw [←h1];assumption)])))
 ·rename_i e1 e2 e3
  refine Gh.to L (Gh.done (UA (k':=⟨k.fAt,0⟩) hk ?_));unfold Ar;rw [if_neg (by rw [←h1];simpa using e1),if_pos ⟨by rw [←h2];simp at e2 ⊢;omega,by simpa using e3⟩]
 ·rename_i e1 e2 e3
  refine Gh.to L (Gh.done (UA (k':=k) hk ?_));unfold Ar;rw [if_neg (by rw [←h1];simpa using e1),if_neg (by rintro ⟨_,h⟩;simp at e3;exact h e3)]
 ·rename_i e1 e2
  refine Gh.to L (Gh.done (UA (k':=k) hk ?_));unfold Ar;rw [if_neg (by rw [←h1];simpa using e1),if_neg (by rintro ⟨h,_⟩;rw [←h2] at h;simp at e1 e2 h;omega)]
theorem Ih {p:TStamp×Int}{q:TStamp}{e:Int}(h:K (.tuple #[sv p.1,.int .i64 p.2]) I L)(h2:p=(q,e)):K (.tuple #[sv q,.int .i64 e]) I L:=by subst h2;exact h
theorem LE {k:TMk}{w:TStamp}{n:Int}(hk:K (.tuple #[sv (Am k w n).1,.int .i64 (Am k w n).2]) I L):CT ω 155 #[mv k,sv w,.int .i64 n] K I L:=by
 refine AIN ?_;unfold sh155;have h1:=GC k.fAt w;have h2:=Eg k.fAt w;repeat' (first|(with_reducible first|refine AK ?_|refine AX ?_|refine AY ?_|refine keepA ?_|refine AM (fun _=>?_))|((with_reducible refine call ?_);refine (DG (x:=k.fAt) (y:=w) ?_))|((with_reducible refine call ?_);refine (LT ?_))|(with_reducible refine rdb ?_)|((with_reducible first|refine st1 ?_ ?_|refine rdB ?_ ?_);rfl)|(with_reducible refine AV ?_)|((with_reducible refine Ae ?_ ?_);rfl)|((with_reducible refine stB ?_ ?_ ?_ ?_);rfl;rfl;exact AE rfl)|((with_reducible first|refine rdP _ rfl ?_ ?_|refine Af _ rfl ?_ ?_);rfl)|((with_reducible refine stP _ rfl ?_ ?_ ?_ ?_);rfl;rfl;rfl)|(with_reducible first|refine AO (sh155_1.eq_1 ..) ?_|refine AO (sh155_3.eq_1 ..) ?_|refine AO (sh155_2.eq_1 ..) ?_|refine AO (sh155.eq_1 ..) ?_|refine And.intro ?_ ?_)|(simp only [SSg,Int.reduceBEq,Int.reduceBNe,Int.reduceLT,Int.reduceLE,beq_self_eq_true,bne_self_eq_false])|(with_reducible first|refine AH (fun _=>?_) (fun _=>?_)|refine AD (fun _=>?_) (fun _=>?_))|(simp only [SSd,Nat.reduceAdd]))
 all_goals refine Gh.to L (Gh.done ?_)
 all_goals first|refine Ih (q:=k.fAt) hk ?_|refine Ih (q:=w) hk ?_|refine Ih hk (q:=(Bs k.fAt).1) (e:=(Bs k.fAt).2) ?_
 all_goals (unfold Am;rw [←h1,←h2];clear h1 h2 hk;simp only [decide_eq_true_eq,beq_iff_eq,beq_eq_false_iff_ne,Bool.not_eq_false,gt_iff_lt,ne_eq,decide_eq_false_iff_not,Bool.not_eq_true] at *)
 all_goals first|(rw [if_pos (by omega)];done)|(rw [if_neg (by omega),if_pos (by omega)];done)|(rw [if_neg (by omega),if_neg (by omega)];done)|trace_state
end
theorem maxB_iff {n:Int}:Db n=true↔Jc n:=by simp [Db,Jc]
theorem ABP:MkOk mk0:=⟨by decide,by decide⟩
theorem Hs {k:TMk}{a:TStamp}{n:Int}(h:MkOk k)(ha:AU a=true)(hn:Db n=true):MkOk (Ar k a n):=by
 unfold Ar;split
 ·exact ⟨ha,hn⟩
 ·split
  ·exact ⟨h.right,rfl⟩
  ·exact h
theorem NF:∀{l:AL (List UInt8) TMk} {k:TMk},MkOk k→(∀q∈l,An q.1=true∧MkOk q.2)→MkOk (BJ k l)
 |[],k,h,_=>h
 |q::l,k,h,hl=>NF (l:=l) (Hs h (hl q (List.mem_cons_self ..)).2.right (hl q (List.mem_cons_self ..)).2.by') (fun x hx=>hl x (List.mem_cons_of_mem _ hx))
theorem MOk.more {m:Mch}{N N':Nat}(h:MOk m N)(hN:N≤N'):MOk m N':={h with rows:=Nat.le_trans h.rows hN,vers:=Nat.le_trans h.vers (Nat.mul_le_mul hN hN)}
theorem AEr {m:Mch}{N:Nat}(h:MOk m N)(k:List UInt8):MOk (room m k) N∧((lkA (room m k).marks k).isNone=true→(room m k).marks.length < 32):=by
 unfold room;split
 ·rename_i e
  exact ⟨{h with marks:=List.Pairwise.nil,marksL:=by simp,mark:=(fun q hq=>by cases hq),low:=NF h.low h.mark},fun _=>by simp⟩
 ·rename_i e
  refine ⟨h,fun hn=>?_⟩;have:=h.marksL;simp only [EO,hn,Bool.true_and,beq_iff_eq] at e;omega
theorem ABU {m:Mch}{N:Nat}(h:MOk m N){k:List UInt8}{a:TStamp}{n:Int}(hk:An k=true)(ha:AU a=true)(hn:Db n=true):MOk (CR m k a n) N:=by
 obtain ⟨h1,h2⟩:=AEr h k;unfold CR;have hx:MkOk ((lkA (room m k).marks k).getD mk0):=by
  cases e:lkA (room m k).marks k with
  |none=>exact ABP
  |some x=>exact (h1.mark _ (Dc e)).2
 refine {h1 with marks:=h1.marks.ins bltO,marksL:=?_,mark:=fun q hq=>?_}
 ·show (Ap blt k _ (room m k).marks).length≤32;have:=FT (lt:=blt) k (Ar ((lkA (room m k).marks k).getD mk0) a n) (room m k).marks;by_cases e:lkA (room m k).marks k=none
  ·have:=h2 (by rw [e];rfl);omega
  ·have:=LO bltO (k:=k) (v:=Ar ((lkA (room m k).marks k).getD mk0) a n) h1.marks e;have:=h1.marksL;omega
 ·rcases GK hq with rfl|hq
  ·exact ⟨hk,Hs hx ha hn⟩
  ·exact h1.mark q hq
theorem Nt {m:Mch}{N:Nat}(h:MOk m N){c:TCmd}{a:TStamp}(ht:Bj c.fTxn=true)(hs:Db c.fSeq=true)(ha:AU a=true):MOk (DD m c 0 a) N:=by
 have hsrt:SrtA ilt (Cd m c 0 a):=h.seen.ins LS;have hmem:∀q∈Cd m c 0 a,Bj q.1=true∧SnOk q.2:=fun q hq=>by
  rcases GK hq with rfl|hq
  ·exact ⟨ht,hs,rfl,ha⟩
  ·exact h.sn q hq
 have hlen:(Cd m c 0 a).length≤m.seen.length+1:=(FT ..).1;have:=h.seenL;unfold DD;split
 ·refine {h with seen:=?_,seenL:=?_,sn:=fun q hq=>hmem q (List.mem_of_mem_tail hq),oldest:=?_}
  ·exact List.Pairwise.sublist (List.tail_sublist _) hsrt
  ·show (Cd m c 0 a).tail.length≤64;rw [List.length_tail];omega
  ·show Db (((Cd m c 0 a).head?.map (·.1)).getD 0)=true;cases e:Cd m c 0 a with
   |nil=>rfl
   |cons q l=>
    have:=(hmem q (by rw [e];exact List.mem_cons_self ..)).1;exact maxB_iff.2 (Cg this)
 ·exact {h with seen:=hsrt,seenL:=by show (Cd m c 0 a).length≤64;omega,sn:=hmem}
theorem OD {m m1:Mch}{N:Nat}{n s:Int}{a:TStamp}(h:MOk m N)(hn:Bj n=true)(hs:1≤s∧s≤3)(ha:AU a=true)(e:Cr m n s a=some m1):MOk m1 N∧∃x,lkA m1.recs n=some x:=by
 unfold Cr at e;split at e
 ·rename_i h1
  cases e
  exact ⟨h,Option.isSome_iff_exists.1 h1⟩
 ·split at e
  ·cases e
  ·rename_i h1 h2
   cases e
   refine ⟨{h with recs:=h.recs.ins LS,recsL:=?_,rec':=fun q hq=>?_},⟨s,a⟩,by simp [FA]⟩
   ·have:=FT (lt:=ilt) n (⟨s,a⟩:TRc) m.recs;show (Ap ilt n _ m.recs).length≤64;omega
   ·rcases GK hq with rfl|hq
    ·exact ⟨hn,hs,ha⟩
    ·exact h.rec' q hq
theorem Mj {m:Mch}{N:Nat}{n s:Int}{a:TStamp}(h:MOk m N)(hn:Bj n=true)(hs:1≤s∧s≤3)(ha:AU a=true)(hx:∃x,lkA m.recs n=some x):MOk {m with recs:=Ap ilt n ⟨s,a⟩ m.recs} N:=by
 obtain ⟨x,hx⟩:=hx;refine {h with recs:=h.recs.ins LS,recsL:=?_,rec':=fun q hq=>?_}
 ·show (Ap ilt n _ m.recs).length≤64;rw [LO LS h.recs (by rw [hx];simp)];exact h.recsL
 ·rcases GK hq with rfl|hq
  ·exact ⟨hn,hs,ha⟩
  ·exact h.rec' q hq
theorem FN {m:Mch}{N:Nat}{n:Int}(h:MOk m N):(0≤(recAt m n).fState∧(recAt m n).fState≤3)∧AU (recAt m n).fAt=true:=by
 unfold recAt;cases e:lkA m.recs n with
 |none=>exact ⟨⟨by decide,by decide⟩,by decide⟩
 |some x=>
  have:=(h.rec' _ (Dc e)).2;exact ⟨⟨by have:=this.state.1;simp only [Option.getD_some] at *; omega,this.state.2⟩,this.right⟩
def rowB (x:TKV):Bool:=An x.fKey&&decide (x.fValue.length≤10000)
def Eu (r:TRes):Bool:=r.fRows.all rowB&&decide (0≤r.fCode∧r.fCode≤999)&&decide (0≤r.fState∧r.fState≤3)&&Db r.fBy&&Db r.fGot.fBy&&AU r.fAt&&AU r.fGot.fAt&&decide (r.fGot.fValue.length≤10000)&&decide (r.fRows.length≤90)
theorem Ob {e:Int}{a:TStamp}{n s:Int}(he:0≤e∧e≤999)(hs:0≤s∧s≤3)(hn:Db n=true)(ha:AU a=true):Eu ⟨e,BK,[],a,n,s⟩=true:=by
 simp only [Eu,hn,ha,he,hs,and_self,decide_true,List.all_nil,Bool.and_true,Bool.true_and,List.length_nil];rfl
theorem BF {e:Int}(he:0≤e∧e≤999):Eu (Al e)=true:=Ob he ⟨by omega,by omega⟩ (by decide) (by decide)
theorem Iu {m:Mch}{N:Nat}{c:TCmd}{r:TRes}(h:MOk m N)(e:BV m c=some r):Eu r=true:=by
 unfold BV at e;split at e
 ·rename_i x hx
  split at e
  ·cases e
   have:=(h.sn _ (Dc hx)).2;exact Ob ⟨by have:=this.code;simp only at *; omega,by have:=this.code;simp only at *; omega⟩ ⟨by omega,by omega⟩ (by decide) this.right
  ·split at e
   ·cases e;exact BF (by omega)
   ·cases e
 ·split at e
  ·cases e;exact BF (by omega)
  ·cases e
theorem ADV {N:Nat}:N * N+1≤(N+1) * (N+1):=by
 rw [Nat.add_mul,Nat.mul_add];omega
theorem ADU {N:Nat}:N * N+N≤(N+1) * (N+1):=by
 rw [Nat.add_mul,Nat.mul_add];omega
theorem PE {o:Option TVer}(h:∀v,o=some v→VerOk v):(DC o).fBy=0∧AU (DC o).fAt=true∧(DC o).fValue.length≤10000:=by
 cases o with
 |none=>exact ⟨rfl,by decide,by decide⟩
 |some v=>
  have hv:=h v rfl;unfold DC;simp only
  split
  ·exact ⟨rfl,by decide,by decide⟩
  ·exact ⟨rfl,hv.right,hv.len⟩
theorem Tj {r:Row}{a:TStamp}{n:Int}(h:RowOk r):Db (seen r a n).1.fBy=true∧AU (seen r a n).1.fAt=true∧(seen r a n).1.fValue.length≤10000∧(0≤(seen r a n).2∧(seen r a n).2≤999):=by
 have h1:=PE (o:=upTo r.vs a) (fun v hv=>h.vs v (Or hv));have hz:Db 0=true:=by decide
 unfold seen;split
 ·exact ⟨by rw [h1.1];exact hz,h1.2.1,h1.2.2,by simp,by simp⟩
 ·rename_i h0
  split
  ·have h2:=PE (o:=some r.it.ver) (fun v hv=>by
    cases hv
    rcases h.it with h|⟨_,h⟩
    ·rw [h] at h0;exact absurd rfl h0
    ·exact h)
   exact ⟨by rw [h2.1];exact hz,h2.2.1,h2.2.2,by simp,by simp⟩
  ·split
   ·refine ⟨maxB_iff.2 ?_,rfl,Nat.zero_le _,by simp,by simp⟩;have:=h.txn;exact ⟨this.1,this.2⟩
   ·exact ⟨by rw [h1.1];exact hz,h1.2.1,h1.2.2,by simp,by simp⟩
theorem AGv {sp:Sp}(h:SpOk sp)(k:List UInt8)(a:TStamp)(n:Int):Db (CG sp k a n).1.fBy=true∧AU (CG sp k a n).1.fAt=true∧(CG sp k a n).1.fValue.length≤10000∧(0≤(CG sp k a n).2∧(CG sp k a n).2≤999):=by
 have z:∀e:Int,0≤e→e≤999→Db ((BK,e):TGot×Int).1.fBy=true∧AU ((BK,e):TGot×Int).1.fAt=true∧((BK,e):TGot×Int).1.fValue.length≤10000∧(0≤((BK,e):TGot×Int).2∧((BK,e):TGot×Int).2≤999):=fun e h1 h2=>⟨rfl,rfl,Nat.zero_le _,h1,h2⟩;unfold CG;split
 ·exact z 1 (by omega) (by omega)
 ·split
  ·exact z 131 (by omega) (by omega)
  ·split
   ·exact z 0 (by omega) (by omega)
   ·rename_i r hr
    exact Tj (h.rows r (Ca hr))
theorem PF {a:TStamp}{n most:Int}(hm:1≤most∧most≤90):∀{rows:List Row} {acc:List TKV},(∀r∈rows,RowOk r)→(∀x∈acc,rowB x=true)→(acc.length:Int) < most→
  (∀x∈(Ci a n most rows acc).1,rowB x=true)∧(Ci a n most rows acc).1.length≤90∧Db (Ci a n most rows acc).2.1=true∧(0≤(Ci a n most rows acc).2.2∧(Ci a n most rows acc).2.2≤999)
 |[],acc,_,ha,hl=>⟨ha,by show acc.length≤90;omega,rfl,by simp [Ci],by simp [Ci]⟩
 |r::rs,acc,hr,ha,hl=>by
  have h1:=Tj (a:=a) (n:=n) (hr r (List.mem_cons_self ..));have hp:(∀x∈push r (seen r a n).1 acc,rowB x=true)∧(push r (seen r a n).1 acc).length≤acc.length+1:=by
   unfold push;split
   ·refine ⟨fun x hx=>?_,by simp⟩;rcases List.mem_append.1 hx with hx|hx
    ·exact ha x hx
    ·simp only [List.mem_singleton] at hx;subst hx;have h2:=h1.2.2.1;simp [rowB,(hr r (List.mem_cons_self ..)).key,h2]
   ·exact ⟨ha,by omega⟩
  unfold Ci;split
  ·exact ⟨(fun x hx=>by cases hx),by simp,h1.1,h1.2.2.2⟩
  ·split
   ·rename_i e
    exact ⟨hp.1,by show (push r (seen r a n).1 acc).length≤90;omega,by show Db 0=true;decide,by simp,by simp⟩
   ·rename_i e
    exact PF hm (fun x hx=>hr x (List.mem_cons_of_mem _ hx)) hp.1 (by omega)
theorem scan_ok {sp:Sp}(h:SpOk sp){p:TSpan}{a:TStamp}{n most:Int}(hm:1≤most∧most≤90):(∀x∈(Bk sp p a n most).1,rowB x=true)∧(Bk sp p a n most).1.length≤90∧Db (Bk sp p a n most).2.1=true∧(0≤(Bk sp p a n most).2.2∧(Bk sp p a n most).2.2≤999):=by
 unfold Bk;split
 ·exact ⟨(fun x hx=>by cases hx),by simp,rfl,by simp,by simp⟩
 ·split
  ·exact ⟨(fun x hx=>by cases hx),by simp,rfl,by simp,by simp⟩
  ·exact PF hm (fun r hr=>h.rows r (List.mem_filter.1 hr).1) (fun x hx=>by cases hx) (by simp;omega)
theorem LC (a:TStamp):0≤(Bs a).2∧(Bs a).2≤999:=by
 unfold Bs;split
 ·simp
 ·split
  ·simp
  ·split <;> simp
theorem Pk {k:TMk}{w:TStamp}{n:Int}(hk:MkOk k)(hw:AU w=true):(0≤(Am k w n).2∧(Am k w n).2≤999)∧((Am k w n).2=0→AU (Am k w n).1=true):=by
 unfold Am;split
 ·exact ⟨by simp,fun _=>hk.right⟩
 ·split
  ·exact ⟨by simp,fun _=>hw⟩
  ·exact ⟨LC _,fun h=>(Pd h).1⟩
theorem Pl {m:Mch}{N:Nat}{c:TCmd}(h:MOk m N)(hw:AU c.fAt=true):(0≤(BU m c).2∧(BU m c).2≤999)∧((BU m c).2=0→AU (BU m c).1=true):=by
 unfold BU;split
 ·rename_i k hk
  exact Pk (h.mark _ (Dc hk)).2 hw
 ·exact ⟨by simp,fun _=>hw⟩
theorem RP (a:TStamp)(o:Option TVer):0≤(Cu a o).2∧(Cu a o).2≤999:=by
 unfold Cu;split
 ·simp
 ·split
  ·simp
  ·exact LC _
theorem VG {sp:Sp}(h:SpOk sp)(x:TIntent):(0≤(Az sp x).2.2∧(Az sp x).2.2≤999)∧Db (Az sp x).2.1=true∧AU (Az sp x).1=true:=by
 by_cases h0:(Az sp x).2.2=0
 ·have h1:=OG h h0;refine ⟨by omega,?_,h1.2.1⟩;unfold Az at h0 ⊢;split at h0
  ·simp at h0
  ·split at h0
   ·simp at h0
   ·split at h0
    ·rename_i h3 h4 h5;exact absurd h0 h5
    ·rename_i h3 h4 h5;rw [if_neg h3,if_neg h4,if_neg h5];simp;decide
 ·unfold Az at h0 ⊢;split
  ·exact ⟨by simp,by simp;decide,by simp;decide⟩
  ·split
   ·refine ⟨by simp,?_,by simp;decide⟩;refine maxB_iff.2 ?_;unfold Bm;cases e:rowOf sp.rows x.fKey with
    |none=>exact CX
    |some r=>have:=(h.rows r (Ca e)).txn;exact ⟨this.1,this.2⟩
   ·split
    ·exact ⟨RP _ _,by simp;decide,by simp;decide⟩
    ·rename_i h3 h4 h5;rw [if_neg h3,if_neg h4,if_neg h5] at h0;exact absurd rfl h0
theorem ABx (sp:Sp)(p:TSpan)(a b:TStamp)(n:Int):0≤(chF sp p a b n).2∧(chF sp p a b n).2≤999:=by
 unfold chF;split
 ·simp
 ·split <;> simp
theorem VC (sp:Sp)(k:List UInt8)(n:Int)(y:Bool)(a:TStamp):0≤(DU sp k n y a).2∧(DU sp k n y a).2≤999:=by
 unfold DU;split
 ·simp
 ·split
  ·simp
  ·split <;> simp
theorem Vj (sp:Sp)(b:TStamp):0≤(Gy sp b).2∧(Gy sp b).2≤999:=by
 unfold Gy;split <;> simp
theorem Nz {c:TCmd}:∀{l:List TIntent} {sp:Sp} {nt:Nts},SpOk sp→(0≤(Cy c l sp nt).1∧(Cy c l sp nt).1≤999)∧SpOk (Cy c l sp nt).2.1∧(Cy c l sp nt).2.1.rows.length≤sp.rows.length∧Ah (Cy c l sp nt).2.1.rows≤Ah sp.rows+l.length
 |[],sp,nt,h=>⟨by simp [Cy],h,Nat.le_refl _,by simp [Cy]⟩
 |x::l,sp,nt,h=>by
  have h1:=h.res (k:=x.fKey) (txn:=c.fTxn) (yes:=c.fYes) (a:=c.fAt);have h2:=Ny (k:=x.fKey) (txn:=c.fTxn) (yes:=c.fYes) (a:=c.fAt) h;unfold Cy;split
  ·have:=Nz (c:=c) (l:=l) (nt:=nt) h;refine ⟨this.1,this.2.1,this.2.2.1,?_⟩;simp only [List.length_cons];omega
  ·split
   ·refine ⟨VC _ _ _ _ _,h1,h2.1,?_⟩;simp only [List.length_cons];omega
   ·have:=Nz (c:=c) (l:=l) (nt:=HL sp x.fKey c.fTxn c.fYes c.fAt nt) h1;refine ⟨this.1,this.2.1,by omega,?_⟩;simp only [List.length_cons];omega
theorem Hx (rows:List Row):(intsOf rows).length≤rows.length:=by
 unfold intsOf;rw [List.length_map];exact List.length_filter_le _ _
section
variable {m:Mch}{N:Nat}{c:TCmd}
theorem AFN (h:MOk m N)(hk:An c.fKey=true)(ha:AU c.fAt=true)(hn:Db c.fTxn=true):Eu (Ep m c).1=true∧MOk (Ep m c).2 N:=by
 have g:=AGv h.sp c.fKey c.fAt c.fTxn;unfold Ep;split
 ·exact ⟨BF (by omega),h⟩
 ·split
  ·exact ⟨Ob g.2.2.2 ⟨by omega,by omega⟩ g.1 (by decide),h⟩
  ·refine ⟨?_,ABU h hk ha hn⟩;simp only [Eu,g.1,g.2.1,g.2.2.1,decide_true,Bool.and_true,List.all_nil,Bool.true_and];rfl
theorem AAW (h:MOk m N)(hm:1≤c.fMost∧c.fMost≤90)(ha:AU c.fAt=true)(hn:Db c.fTxn=true):Eu (Dk m c).1=true∧MOk (Dk m c).2 N:=by
 have g:=scan_ok h.sp (p:=c.fSpan) (a:=c.fAt) (n:=c.fTxn) hm;unfold Dk;split
 ·exact ⟨BF (by omega),h⟩
 ·split
  ·exact ⟨Ob g.2.2.2 ⟨by omega,by omega⟩ g.2.2.1 (by decide),h⟩
  ·refine ⟨?_,{h with low:=Hs h.low ha hn}⟩;simp only [Eu,g.2.1,decide_true,Bool.and_true,List.all_eq_true.2 g.1,Bool.true_and];rfl
theorem AEy (h:MOk m N)(ha:AU c.fAt=true)(ht:Bj c.fTxn=true)(hs:Db c.fSeq=true):Eu (CP m c).1=true∧MOk (CP m c).2 (N+1):=by
 have hm:=h.more (Nat.le_succ N);unfold CP;split
 ·exact ⟨BF (by omega),hm⟩
 ·split
  ·rename_i r e;exact ⟨Iu h e,hm⟩
  ·split
   ·exact ⟨BF (Pl h ha).1,hm⟩
   ·rename_i e1
    have h1:=(Pl h ha).2 (by simpa using e1);split
    ·exact ⟨BF (Pk h.low h1).1,hm⟩
    ·have g:=VG h.sp (Av c (Am m.low (BU m c).1 c.fTxn).1);have hp:MOk {m with sp:=CL m.sp (Av c (Am m.low (BU m c).1 c.fTxn).1),nt:=Ek m.sp (Av c (Am m.low (BU m c).1 c.fTxn).1) m.nt} (N+1):=by
      have:=AEx (x:=Av c (Am m.low (BU m c).1 c.fTxn).1) h.sp;have h2:=h.rows;have h3:=h.vers;have h4:=ADV (N:=N);refine {h with sp:=h.sp.put,rows:=?_,vers:=?_}
      ·show (CL m.sp _).rows.length≤N+1;omega
      ·show Ah (CL m.sp _).rows≤(N+1) * (N+1);omega
     refine ⟨Ob g.1 ⟨by omega,by omega⟩ g.2.1 g.2.2,?_⟩;simp only
     split
     ·exact Nt hp ht hs g.2.2
     ·exact hp
theorem AEu (h:MOk m N)(ha:AU c.fTo=true)(ht:Bj c.fTxn=true)(hs:Db c.fSeq=true):Eu (Dj m c).1=true∧MOk (Dj m c).2 N:=by
 unfold Dj;split
 ·exact ⟨BF (by omega),h⟩
 ·split
  ·rename_i r e;exact ⟨Iu h e,h⟩
  ·split
   ·exact ⟨BF (by omega),h⟩
   ·split
    ·exact ⟨BF (ABx _ _ _ _ _),h⟩
    ·split
     ·exact ⟨BF (by omega),h⟩
     ·exact ⟨BF (by omega),Nt (m:={m with low:=Ar m.low c.fTo c.fTxn}) {h with low:=Hs h.low ha (maxB_iff.2 (Cg ht))} ht hs (by decide)⟩
theorem AFX (h:MOk m N)(ha:AU c.fAt=true)(ht:Bj c.fTxn=true)(hs:Db c.fSeq=true):Eu (EH m c).1=true∧MOk (EH m c).2 N:=by
 unfold EH;split
 ·rename_i r e;exact ⟨Iu h e,h⟩
 ·split
  ·exact ⟨BF (by omega),h⟩
  ·rename_i m1 e
   obtain ⟨h1,_⟩:=OD h ht ⟨by omega,by omega⟩ ha e;split
   ·exact ⟨Ob ⟨by omega,by omega⟩ (FN h1).1 (by decide) (by decide),h1⟩
   ·exact ⟨Ob ⟨by omega,by omega⟩ ⟨by omega,by omega⟩ (by decide) (by decide),Nt h1 ht hs (by decide)⟩
theorem ADQ (c:TCmd):1≤Cx c∧Cx c≤3:=by unfold Cx;split <;> omega
theorem AFQ (h:MOk m N)(ha:AU c.fAt=true)(ht:Bj c.fTxn=true):Eu (FG m c).1=true∧MOk (FG m c).2 N:=by
 unfold FG;split
 ·exact ⟨BF (by omega),h⟩
 ·rename_i m1 e
  obtain ⟨h1,hx⟩:=OD h ht ⟨by omega,by omega⟩ ha e;have h2:MOk (endOf m1 c) N:=by
   unfold endOf;split
   ·exact Mj h1 ht (ADQ c) ha hx
   ·exact h1
  exact ⟨Ob (by split <;> omega) (FN h2).1 (by decide) (FN h2).2,h2⟩
theorem ABJ (h:MOk m N)(ha:AU c.fAt=true)(ht:Bj c.fTxn=true):Eu (DZ m c).1=true∧MOk (DZ m c).2 N:=by
 unfold DZ;split
 ·exact ⟨BF (by omega),h⟩
 ·rename_i m1 e
  obtain ⟨h1,hx⟩:=OD h ht ⟨by omega,by omega⟩ ha e;refine ⟨Ob ⟨by omega,by omega⟩ ?_ (by decide) (FN h1).2,?_⟩
  ·split
   ·exact ⟨by omega,by omega⟩
   ·exact (FN h1).1
  ·show MOk (IZ m1 c) N;unfold IZ;split
   ·exact Mj h1 ht ⟨by omega,by omega⟩ (FN h1).2 hx
   ·exact h1
theorem forM_ok (h:MOk m N):Eu (FF m c).1=true∧MOk (FF m c).2 N:=by
 unfold FF;split
 ·exact ⟨BF (by omega),h⟩
 ·refine ⟨BF (by omega),{h with recs:=h.recs.del,recsL:=?_,rec':=fun q hq=>h.rec' q (List.mem_filter.1 hq).1}⟩;exact Nat.le_trans (List.length_filter_le _ _) h.recsL
theorem AEs (h:MOk m N):Eu (EV m c).1=true∧MOk (EV m c).2 (N+1):=by
 unfold EV;split
 ·exact ⟨BF (by omega),h.more (Nat.le_succ N)⟩
 ·have g:=Nz (c:=c) (l:=intsOf m.sp.rows) (nt:=m.nt) h.sp;have h1:=Hx m.sp.rows;have h2:=h.rows;have h3:=h.vers;have h4:=ADU (N:=N);refine ⟨BF g.1,{h with sp:=g.2.1,rows:=?_,vers:=?_}⟩
  ·show (Cy _ _ _ _).2.1.rows.length≤N+1;omega
  ·show Ah (Cy _ _ _ _).2.1.rows≤(N+1) * (N+1);omega
theorem AFT (h:MOk m N):Eu (QK m c).1=true∧MOk (QK m c).2 N:=by
 have h1:=AFS (sp:=m.sp) (b:=c.fAt);have h2:=h.rows;have h3:=h.vers;refine ⟨BF (Vj _ _),{h with sp:=h.sp.col,rows:=?_,vers:=?_}⟩
 ·show (colS m.sp c.fAt).rows.length≤N;omega
 ·show Ah (colS m.sp c.fAt).rows≤N * N;omega
theorem split_ok (h:MOk m N)(hk:An c.fKey=true):Eu (CA m c).1=true∧MOk (CA m c).2.1 N∧∀r,(CA m c).2.2=some r→MOk r N:=by
 unfold CA;split
 ·exact ⟨BF (by omega),h,fun r hr=>by cases hr⟩
 ·rename_i e
  have hi:inB m.span c.fKey=true∧c.fKey≠m.span.fFrom:=by
   constructor
   ·cases hb:inB m.span c.fKey with
    |true=>rfl
    |false=>exact absurd (.inl hb) e
   ·exact fun e2=>e (.inr e2)
  have hv:=Ua (k:=c.fKey) h.sp;have hkl:=VQ hk;have hsp:=h.span;simp only [CB,Bool.and_eq_true,Bool.or_eq_true,decide_eq_true_eq,beq_iff_eq] at hsp;have hin:=hi.1;simp only [inB,Bool.and_eq_true,Bool.or_eq_true,Bool.not_eq_true',beq_iff_eq] at hin;have hlt:blt m.span.fFrom c.fKey=true:=by
   cases hb:blt m.span.fFrom c.fKey with
   |true=>rfl
   |false=>exact absurd (Ds _ _ hin.1 hb) hi.2
  have fl:∀f:(List UInt8×TMk)→Bool,SrtA blt (m.marks.filter f)∧(m.marks.filter f).length≤32∧∀q∈m.marks.filter f,An q.1=true∧MkOk q.2:=fun f=>
   ⟨List.Pairwise.sublist List.filter_sublist h.marks,Nat.le_trans (List.length_filter_le _ _) h.marksL,fun q hq=>h.mark q (List.mem_filter.1 hq).1⟩
  have h2:=h.rows;have h3:=h.vers;refine ⟨BF (by omega),{h with span:=?_,sp:=ADX h.sp,rows:=by show (Gu c.fKey m.sp).rows.length≤N;omega,vers:=by show Ah (Gu c.fKey m.sp).rows≤N * N;omega,marks:=(fl _).1,marksL:=(fl _).2.1,mark:=(fl _).2.2},fun r hr=>?_⟩
  ·simp only [CB,Bool.and_eq_true,Bool.or_eq_true,decide_eq_true_eq,beq_iff_eq];exact ⟨⟨hsp.1.1,by omega⟩,.inr hlt⟩
  ·cases hr
   refine {h with span:=?_,sp:=ADW h.sp,rows:=by show (Fw c.fKey m.sp).rows.length≤N;omega,vers:=by show Ah (Fw c.fKey m.sp).rows≤N * N;omega,marks:=(fl _).1,marksL:=(fl _).2.1,mark:=(fl _).2.2,recs:=List.Pairwise.nil,recsL:=by simp,rec':=fun q hq=>by cases hq};simp only [CB,Bool.and_eq_true,Bool.or_eq_true,decide_eq_true_eq,beq_iff_eq];exact ⟨⟨by omega,hsp.1.2⟩,hin.2⟩
theorem Ij {c:TCmd}(h:kindOk c=true)(h11:c.fKind=11∨c.fKind=1∨c.fKind=3):An c.fKey=true:=by
 unfold kindOk at h;rcases h11 with e|e|e <;> simp [e] at h <;> simp [h]
theorem Em {c:TCmd}(h:kindOk c=true)(hk:3≤c.fKind∧c.fKind≤9):Bj c.fTxn=true:=by
 unfold kindOk at h;have:c.fKind=3∨c.fKind=4∨c.fKind=5∨c.fKind=6∨c.fKind=7∨c.fKind=8∨c.fKind=9:=by omega
 rcases this with e|e|e|e|e|e|e <;> simp [e] at h <;> simp [h]
theorem Pp {c:TCmd}(h:kindOk c=true)(hk:c.fKind=2):1≤c.fMost∧c.fMost≤90:=by
 unfold kindOk at h;simp [hk] at h;omega
theorem De {α:Type}{P:α→Prop}{q:Prop}[Decidable q]{a b:α}(h1:q→P a)(h2:¬q→P b):P (if q then a else b):=by
 by_cases h:q
 ·rw [if_pos h];exact h1 h
 ·rw [if_neg h];exact h2 h
def OkR (N:Nat)(r:TRes×Mch×Option Mch):Prop:=Eu r.1=true∧MOk r.2.1 N∧∀x,r.2.2=some x→MOk x N
theorem OkR.ns {r:TRes×Mch}(h:Eu r.1=true∧MOk r.2 N):OkR N (As r):=⟨h.1,h.2,fun x hx=>by cases hx⟩
theorem OkR.up {r:TRes×Mch}(h:Eu r.1=true∧MOk r.2 N):OkR (N+1) (As r):=OkR.ns ⟨h.1,h.2.more (Nat.le_succ N)⟩
theorem NW (h:MOk m N):OkR (N+1) (BQ m c):=by
 have hm:=h.more (Nat.le_succ N);unfold BQ;refine De (fun e=>⟨BF (by omega),hm,fun r hr=>by cases hr⟩) (fun e=>?_);have hr:Ba c=true:=by simpa using e
 have hc:=IY hr;have hk:kindOk c=true:=by
  simp only [Ba,Bool.and_eq_true] at hr;exact hr.2
 have hT:Db c.fTxn=true:=maxB_iff.2 hc.txn;have hS:Db c.fSeq=true:=maxB_iff.2 hc.seq;have hK:=hc.kind;unfold doM;refine De (fun e=>OkR.up (AFN h (Ij hk (.inr (.inl e))) hc.at' hT)) (fun h1=>?_);refine De (fun e=>OkR.up (AAW h (Pp hk e) hc.at' hT)) (fun h2=>?_);refine De (fun e=>OkR.ns (AEy h hc.at' (Em hk (by omega)) hS)) (fun h3=>?_);refine De (fun e=>OkR.up (AEu h hc.to (Em hk (by omega)) hS)) (fun h4=>?_);refine De (fun e=>OkR.up (AFX h hc.at' (Em hk (by omega)) hS)) (fun h5=>?_);refine De (fun e=>OkR.up (AFQ h hc.at' (Em hk (by omega)))) (fun h6=>?_);refine De (fun e=>OkR.up (ABJ h hc.at' (Em hk (by omega)))) (fun h7=>?_);refine De (fun e=>OkR.up (forM_ok h)) (fun h8=>?_);refine De (fun e=>OkR.ns (AEs h)) (fun h9=>?_);refine De (fun e=>OkR.up (AFT h)) (fun h10=>?_);have:=split_ok h (c:=c) (Ij hk (.inl (by omega)));exact ⟨this.1,this.2.1.more (Nat.le_succ N),fun r hr=>(this.2.2 r hr).more (Nat.le_succ N)⟩
theorem Tv {p:TSpan}(h:CB p=true):MOk (FR p) 0:=⟨h,AGG,Nat.le_refl _,Nat.le_refl _,List.Pairwise.nil,by simp [FR],(fun q hq=>by cases hq),ABP,List.Pairwise.nil,by simp [FR],(fun q hq=>by cases hq),List.Pairwise.nil,by simp [FR],(fun q hq=>by cases hq),by show Db 0=true;decide⟩
end
abbrev rcv (x:TRc):Value:=.agg #[.int .i64 x.fState,.int .i64 x.fAt.fWall,.int .i64 x.fAt.fLogic]
abbrev snv (x:TSn):Value:=.agg #[.int .i64 x.fSeq,.int .i64 x.fCode,.int .i64 x.fAt.fWall,.int .i64 x.fAt.fLogic]
abbrev AGm (v0 v1:Value)(s mk:Nat)(low:TMk)(rc sn:Nat)(old:Int)(kv:Value):Obj:=
 .cells #[v0,v1,pt s,.map (some mk),.int .i64 low.fAt.fWall,.int .i64 low.fAt.fLogic,.int .i64 low.fBy,.map (some rc),.map (some sn),.int .i64 old,kv] 163 (0,0)
abbrev rv (e:Int)(a:TStamp)(n s:Int):Value:=.agg #[.int .i64 e,.bool false,.slice none 0 0,.int .i64 0,.int .i64 0,.int .i64 0,.slice none 0 0,.int .i64 a.fWall,.int .i64 a.fLogic,.int .i64 n,.int .i64 s]
theorem Ce (I:Imm)(e:Int)(a:TStamp)(n s:Int):TResV I ⟨e,BK,[],a,n,s⟩ [.int .i64 e,.bool false,.slice none 0 0,.int .i64 0,.int .i64 0,.int .i64 0,.slice none 0 0,.int .i64 a.fWall,.int .i64 a.fLogic,.int .i64 n,.int .i64 s]:=
 ⟨_,_,rfl,SlI.nil I 1 none 0,RL.nil none 0⟩
section
variable {ω:Om}{I:Imm}{L:LH}{K:Value→M}
theorem Au {e:Int}(hk:K (rv e z0 0 0) I L):CT ω 34 #[.int .i64 e] K I L:=by
 refine AKU ?_;unfold sh34;repeat' (first|(with_reducible first|refine AK ?_|refine AX ?_|refine AY ?_|refine keepA ?_|refine AM (fun _=>?_)|refine rdb ?_)|((with_reducible first|refine st1 ?_ ?_|refine rdB ?_ ?_);rfl)|(with_reducible refine AV ?_)|((with_reducible refine Ae ?_ ?_);rfl)|((with_reducible refine stB ?_ ?_ ?_ ?_);rfl;rfl;exact AE rfl)|((with_reducible first|refine rdP _ rfl ?_ ?_|refine Af _ rfl ?_ ?_);rfl)|((with_reducible refine stP _ rfl ?_ ?_ ?_ ?_);rfl;rfl;rfl)|(with_reducible first|refine AO (sh34.eq_1 ..) ?_|refine And.intro ?_ ?_)|(simp only [SSg,Int.reduceBEq,Int.reduceBNe,Int.reduceLT,Int.reduceLE,beq_self_eq_true,bne_self_eq_false])|(with_reducible first|refine AH (fun _=>?_) (fun _=>?_)|refine AD (fun _=>?_) (fun _=>?_))|(simp only [SSd,Nat.reduceAdd]))
 exact Gh.to L (Gh.done hk)
structure MV where
 km:Nat
 rc:Nat
 sn:Nat
 v0:Value
 v1:Value
 kv:Value
 e1:Array MapEntry
 c1:Nat
 e2:Array MapEntry
 c2:Nat
 e3:Array MapEntry
 c3:Nat
abbrev mL (b s:Nat)(V:MV)(m:Mch)(R:LH):LH:=
 (b,AGm V.v0 V.v1 s V.km m.low V.rc V.sn m.oldest V.kv)::(V.km,.map V.e1 V.c1)::(V.rc,.map V.e2 V.c2)::(V.sn,.map V.e3 V.c3)::R
structure MF (I:Imm)(V:MV)(m:Mch):Prop where
 f0:Bytes I V.v0 m.span.fFrom
 f1:Bytes I V.v1 m.span.fTo
 mks:MapS V.e1 V.c1 (Bb mv m.marks)
 rcs:MapSi V.e2 V.c2 (Bb rcv m.recs)
 sns:MapSi V.e3 V.c3 (Bb snv m.seen)
 kpt:Bytes I V.kv m.kept
theorem MF.mono {I I':Imm}{V:MV}{m:Mch}(h:MF I V m)(hI:Ext I I'):MF I' V m:={h with f0:=h.f0.mono hI,f1:=h.f1.mono hI,kpt:=h.kpt.mono hI}
variable {b s:Nat}{V:MV}{m:Mch}{R:LH}{c:TCmd}{cc:List Value}
class AtL (b:Nat) (L:LH) (L1:outParam LH) (o:outParam Obj) (L2:outParam LH):Prop where
 eq:L=L1++(b,o)::L2
instance atRight (b:Nat)(A L L1:LH)(o:Obj)(L2:LH)[h:AtL b L L1 o L2]:AtL b (A++L) (A++L1) o L2:=⟨by rw [h.eq,List.append_assoc]⟩
instance atThere (b:Nat)(x:Nat×Obj)(L L1:LH)(o:Obj)(L2:LH)[h:AtL b L L1 o L2]:AtL b (x::L) (x::L1) o L2:=⟨by rw [h.eq];rfl⟩
instance atHere (b:Nat)(o:Obj)(L:LH):AtL b ((b,o)::L) [] o L:=⟨rfl⟩
theorem PW {β:Type}{enc:β→Value}{l:AL Int β}{k:Int}{x:β}{v:Value}{r c:Nat}{es:Array MapEntry}{L1 L2:LH}[hL:AtL r L L1 (.map es c) L2](h:MapSi es c (Bb enc l))(hv:v=enc x)
  (hk:∀e' c',MapSi e' c' (Bb enc (Ap ilt k x l))→Gh (K undef) I (L1++(r,.map e' c')::L2)):GU (.int .i64) (.map (some r)) (.int .i64 k) v (gh K) I L:=by
 obtain ⟨e',c',he,hM⟩:=h.put k v;rw [hv,VY] at hM;have u:UpL r L (.map es c) (.map e' c') (L1++(r,.map e' c')::L2):=⟨L1,L2,hL.eq,rfl⟩;exact AJS (k:=k) h he (hk e' c' hM)
theorem Tp {β:Type}{enc:β→Value}{l:AL Key β}{k:Key}{x:β}{v:Value}{r c:Nat}{es:Array MapEntry}{L1 L2:LH}[hL:AtL r L L1 (.map es c) L2](h:MapS es c (Bb enc l))(hv:v=enc x)
  (hk:∀e' c',MapS e' c' (Bb enc (Ap blt k x l))→Gh (K undef) I (L1++(r,.map e' c')::L2)):GU .string (.map (some r)) (BW k) v (gh K) I L:=by
 obtain ⟨e',c',he,hM⟩:=h.put k v;rw [hv,ABm] at hM;have u:UpL r L (.map es c) (.map e' c') (L1++(r,.map e' c')::L2):=⟨L1,L2,hL.eq,rfl⟩;exact AEw (k:=k) h he (hk e' c' hM)
theorem AFn {β:Type}{enc:β→Value}{l:AL Int β}{k:Int}{r c:Nat}{es:Array MapEntry}{L1 L2:LH}[hL:AtL r L L1 (.map es c) L2](h:MapSi es c (Bb enc l))
  (hk:∀e',MapSi e' c (Bb enc (HQ k l))→Gh (K (.tuple #[])) I (L1++(r,.map e' c)::L2)):MT (.int .i64) (.map (some r)) (.int .i64 k) (gh K) I L:=by
 obtain ⟨e',he,hM⟩:=h.del k;rw [VZ] at hM;have u:UpL r L (.map es c) (.map e' c) (L1++(r,.map e' c)::L2):=⟨L1,L2,hL.eq,rfl⟩;exact AJh (k:=k) h he (hk e' hM)
theorem lkI {zero:Value}{ok:Bool}{m:Int→Option Value}{k:Int}{r c:Nat}{es:Array MapEntry}[InL r L (.map es c)](h:MapSi es c m)(hk:K (lkV zero ok (m k)) I L):Rv none (lkR (.int .i64) zero ok (.map (some r)) (.int .i64 k)) K I L:=AKx (k:=k) h hk
theorem RZ {zero:Value}{ok:Bool}{m:Int→Option Value}{k:Int}{r c:Nat}{es:Array MapEntry}{I0:Imm}{X:LH}[InL r X (.map es c)](h:MapSi es c m)(hk:K (lkV zero ok (m k)) I L):Rv (some (Stay I0 X)) (lkR (.int .i64) zero ok (.map (some r)) (.int .i64 k)) K I L:=AJW (k:=k) h hk
theorem lkT {zero:Value}{ok:Bool}{m:Key→Option Value}{k:Key}{r c:Nat}{es:Array MapEntry}[InL r L (.map es c)](h:MapS es c m)(hk:K (lkV zero ok (m k)) I L):Rv none (lkR .string zero ok (.map (some r)) (BW k)) K I L:=lkm (k:=k) h hk
theorem ABY {zero:Value}{ok:Bool}{m:Key→Option Value}{k:Key}{r c:Nat}{es:Array MapEntry}{I0:Imm}{X:LH}[InL r X (.map es c)](h:MapS es c m)(hk:K (lkV zero ok (m k)) I L):Rv (some (Stay I0 X)) (lkR .string zero ok (.map (some r)) (BW k)) K I L:=AKy (k:=k) h hk
theorem IF (b:Nat)(V:MV){P:Program}{f:FuncId}{args:Array Value}{o1 o2 o3 o4:Obj}{R1 R2 R3 R4:LH}[PickB b L o1 R1][PickB V.km R1 o2 R2][PickB V.rc R2 o3 R3][PickB V.sn R3 o4 R4]
  (h:Cal P ω f args K I ((b,o1)::(V.km,o2)::(V.rc,o3)::(V.sn,o4)::R4)):Cal P ω f args K I L:=by
 refine Cal.perm (L':=(b,o1)::(V.km,o2)::(V.rc,o3)::(V.sn,o4)::R4) ?_ h;have p1:L.Perm ((b,o1)::R1):=PickB.perm;have p2:R1.Perm ((V.km,o2)::R2):=PickB.perm;have p3:R2.Perm ((V.rc,o3)::R3):=PickB.perm;have p4:R3.Perm ((V.sn,o4)::R4):=PickB.perm;exact p1.trans (.cons _ (p2.trans (.cons _ (p3.trans (.cons _ p4)))))
theorem Fp (hF:MF I V m)(hc:TCmdV I c cc)
  (hk1:∀e a,BV m c=some ⟨e,BK,[],a,0,0⟩→K (.tuple #[rv e a 0 0,.bool true]) I (mL b s V m R)) (hk2:BV m c=none→K (.tuple #[rv 0 z0 0 0,.bool false]) I (mL b s V m R)):
  CT ω 154 #[pt b,.agg cc.toArray] K I (mL b s V m R):=by
 have hM:=hF.sns;obtain ⟨w0,w1,w2,w3,rfl,g0,g1,g2,g3⟩:=hc;refine AIO ?_;unfold sh154;cases hx:lkA m.seen c.fTxn with
 |none=>
  have hl:Bb snv m.seen c.fTxn=none:=by unfold Bb;rw [hx];rfl
  have ha:BV m c=if c.fTxn≤m.oldest then some (Al 144) else none:=by unfold BV;rw [hx]
  rw [ha] at hk1 hk2;repeat' (first|(with_reducible first|refine AK ?_|refine AX ?_|refine AY ?_|refine keepA ?_|refine AM (fun _=>?_)|refine RZ hM ?_)|((with_reducible refine call ?_);refine (Au ?_))|(with_reducible refine rdb ?_)|((with_reducible first|refine st1 ?_ ?_|refine rdB ?_ ?_);rfl)|(with_reducible refine AV ?_)|((with_reducible refine Ae ?_ ?_);rfl)|((with_reducible refine stB ?_ ?_ ?_ ?_);rfl;rfl;exact AE rfl)|((with_reducible first|refine rdP _ rfl ?_ ?_|refine Af _ rfl ?_ ?_);rfl)|((with_reducible refine stP _ rfl ?_ ?_ ?_ ?_);rfl;rfl;rfl)|(with_reducible first|refine AO (sh154_1.eq_1 ..) ?_|refine AO (sh154_3.eq_1 ..) ?_|refine AO (sh154_4.eq_1 ..) ?_|refine AO (sh154_2.eq_1 ..) ?_|refine AO (sh154.eq_1 ..) ?_|refine And.intro ?_ ?_)|(simp only [SSg,Int.reduceBEq,Int.reduceBNe,Int.reduceLT,Int.reduceLE,beq_self_eq_true,bne_self_eq_false])|(with_reducible first|refine AH (fun _=>?_) (fun _=>?_)|refine AD (fun _=>?_) (fun _=>?_))|(simp only [SSd,Nat.reduceAdd,hl,lkV,if_true]))
  all_goals first
   |exact Gh.to (mL b s V m R) (Gh.done (hk1 144 z0 (by rw [if_pos (by first|(simp_all;done)|(simp_all;omega)|omega)];rfl)))
   |exact Gh.to (mL b s V m R) (Gh.done (hk2 (by rw [if_neg (by first|(simp_all;done)|(simp_all;omega)|omega)])))
 |some x=>
  have hl:Bb snv m.seen c.fTxn=some (snv x):=by unfold Bb;rw [hx];rfl
  have ha:BV m c=if x.fSeq=c.fSeq then some ⟨x.fCode,BK,[],x.fAt,0,0⟩ else if c.fSeq < x.fSeq then some (Al 144) else none:=by unfold BV;rw [hx]
  rw [ha] at hk1 hk2;repeat' (first|(with_reducible first|refine AK ?_|refine AX ?_|refine AY ?_|refine keepA ?_|refine AM (fun _=>?_)|refine RZ hM ?_)|((with_reducible refine call ?_);refine (Au ?_))|(with_reducible refine rdb ?_)|((with_reducible first|refine st1 ?_ ?_|refine rdB ?_ ?_);rfl)|(with_reducible refine AV ?_)|((with_reducible refine Ae ?_ ?_);rfl)|((with_reducible refine stB ?_ ?_ ?_ ?_);rfl;rfl;exact AE rfl)|((with_reducible first|refine rdP _ rfl ?_ ?_|refine Af _ rfl ?_ ?_);rfl)|((with_reducible refine stP _ rfl ?_ ?_ ?_ ?_);rfl;rfl;rfl)|(with_reducible first|refine AO (sh154_1.eq_1 ..) ?_|refine AO (sh154_3.eq_1 ..) ?_|refine AO (sh154_4.eq_1 ..) ?_|refine AO (sh154_2.eq_1 ..) ?_|refine AO (sh154.eq_1 ..) ?_|refine And.intro ?_ ?_)|(simp only [SSg,Int.reduceBEq,Int.reduceBNe,Int.reduceLT,Int.reduceLE,beq_self_eq_true,bne_self_eq_false])|(with_reducible first|refine AH (fun _=>?_) (fun _=>?_)|refine AD (fun _=>?_) (fun _=>?_))|(simp only [SSd,Nat.reduceAdd,hl,lkV,if_true]))
  all_goals first
   |exact Gh.to (mL b s V m R) (Gh.done (hk1 _ _ (by rw [if_pos (by first|(simp_all;done)|(simp_all;omega)|omega)])))
   |exact Gh.to (mL b s V m R) (Gh.done (hk1 144 z0 (by rw [if_neg (by first|(simp_all;done)|(simp_all;omega)|omega),if_pos (by first|(simp_all;done)|(simp_all;omega)|omega)];rfl)))
   |exact Gh.to (mL b s V m R) (Gh.done (hk2 (by rw [if_neg (by first|(simp_all;done)|(simp_all;omega)|omega),if_neg (by first|(simp_all;done)|(simp_all;omega)|omega)])))
theorem GE {n st:Int}{a:TStamp}(hF:MF I V m)(hs:SrtA ilt m.recs)
  (hk1:Cr m n st a=none→K (.bool false) I (mL b s V m R)) (hk2:∀V' m1,Cr m n st a=some m1→MF I V' m1→K (.bool true) I (mL b s V' m1 R)):
  CT ω 160 #[pt b,.int .i64 n,.int .i64 st,sv a] K I (mL b s V m R):=by
 have hM:=hF.rcs;refine AII ?_;unfold sh160;have hsz:=hM.sizeA hs;cases hx:lkA m.recs n with
 |none=>
  have hl:Bb rcv m.recs n=none:=by unfold Bb;rw [hx];rfl
  have ha:Cr m n st a=if 64≤m.recs.length then none else some {m with recs:=Ap ilt n ⟨st,a⟩ m.recs}:=by unfold Cr;rw [hx];rfl
  rw [ha] at hk1 hk2;repeat' (first|(with_reducible first|refine AK ?_|refine AX ?_|refine AY ?_|refine keepA ?_|refine AM (fun _=>?_)|refine lkI hM ?_|refine Tx ?_)|((with_reducible refine PW (x:=⟨st,a⟩) hM ?_ (fun es' c' hM'=>Gh.done ?_));rfl)|(with_reducible refine rdb ?_)|((with_reducible first|refine st1 ?_ ?_|refine rdB ?_ ?_);rfl)|(with_reducible refine AV ?_)|((with_reducible refine Ae ?_ ?_);rfl)|((with_reducible refine stB ?_ ?_ ?_ ?_);rfl;rfl;exact AE rfl)|((with_reducible first|refine rdP _ rfl ?_ ?_|refine Af _ rfl ?_ ?_);rfl)|((with_reducible refine stP _ rfl ?_ ?_ ?_ ?_);rfl;rfl;rfl)|(with_reducible first|refine AO (sh160.eq_1 ..) ?_|refine And.intro ?_ ?_)|(simp only [SSg,Int.reduceBEq,Int.reduceBNe,Int.reduceLT,Int.reduceLE,beq_self_eq_true,bne_self_eq_false])|(with_reducible first|refine AH (fun _=>?_) (fun _=>?_)|refine AD (fun _=>?_) (fun _=>?_))|(simp only [SSd,Nat.reduceAdd,hl,lkV,if_true,hsz]))
  all_goals first
   |exact Gh.to (mL b s V m R) (Gh.done (hk1 (by rw [if_pos (by first|(simp_all;done)|(simp_all;omega)|omega)])))
   |rename_i es' c' hM';exact Gh.to (mL b s {V with e2:=es',c2:=c'} {m with recs:=Ap ilt n ⟨st,a⟩ m.recs} R) (Gh.done (hk2 {V with e2:=es',c2:=c'} {m with recs:=Ap ilt n ⟨st,a⟩ m.recs} (by rw [if_neg (by first|(simp_all;done)|(simp_all;omega)|omega)]) {hF with rcs:=hM'}))
 |some x=>
  have hl:Bb rcv m.recs n=some (rcv x):=by unfold Bb;rw [hx];rfl
  have ha:Cr m n st a=some m:=by unfold Cr;rw [hx];rfl
  rw [ha] at hk1 hk2;repeat' (first|(with_reducible first|refine AK ?_|refine AX ?_|refine AY ?_|refine keepA ?_|refine AM (fun _=>?_)|refine lkI hM ?_|refine Tx ?_)|((with_reducible refine PW (x:=⟨st,a⟩) hM ?_ (fun es' c' hM'=>Gh.done ?_));rfl)|(with_reducible refine rdb ?_)|((with_reducible first|refine st1 ?_ ?_|refine rdB ?_ ?_);rfl)|(with_reducible refine AV ?_)|((with_reducible refine Ae ?_ ?_);rfl)|((with_reducible refine stB ?_ ?_ ?_ ?_);rfl;rfl;exact AE rfl)|((with_reducible first|refine rdP _ rfl ?_ ?_|refine Af _ rfl ?_ ?_);rfl)|((with_reducible refine stP _ rfl ?_ ?_ ?_ ?_);rfl;rfl;rfl)|(with_reducible first|refine AO (sh160.eq_1 ..) ?_|refine And.intro ?_ ?_)|(simp only [SSg,Int.reduceBEq,Int.reduceBNe,Int.reduceLT,Int.reduceLE,beq_self_eq_true,bne_self_eq_false])|(with_reducible first|refine AH (fun _=>?_) (fun _=>?_)|refine AD (fun _=>?_) (fun _=>?_))|(simp only [SSd,Nat.reduceAdd,hl,lkV,if_true,hsz]))
  all_goals exact Gh.to (mL b s V m R) (Gh.done (hk2 V m rfl hF))
theorem Ko {m:Mch}{n:Int}:lkV (.agg #[.int .i64 0,.int .i64 0,.int .i64 0]) false (Bb rcv m.recs n)=rcv (recAt m n):=by
 unfold recAt Bb;cases lkA m.recs n with
 |none=>rfl
 |some x=>rfl
theorem AEv {l:AL Int TRc}{n:Int}{x:TRc}{z:Value}:lkV z false (Bb rcv (Ap ilt n x l) n)=rcv x:=by
 unfold Bb;rw [FA,if_pos rfl];rfl
theorem Mp {m:Mch}{n:Int}{x:TRc}:recAt {m with recs:=Ap ilt n x m.recs} n=x:=by
 unfold recAt;rw [show ({m with recs:=Ap ilt n x m.recs}:Mch).recs=Ap ilt n x m.recs from rfl,FA,if_pos rfl];rfl
abbrev rvR (r:TRes):Value:=rv r.fCode r.fAt r.fBy r.fState
theorem NN (e:Cr m c.fTxn 3 c.fAt=none):FG m c=(Al 143,m):=by unfold FG;rw [e]
theorem NM {m1:Mch}(e:Cr m c.fTxn 3 c.fAt=some m1)(h:(recAt m1 c.fTxn).fState=1):FG m c=(⟨0,BK,[],c.fAt,0,Cx c⟩,{m1 with recs:=Ap ilt c.fTxn ⟨Cx c,c.fAt⟩ m1.recs}):=by
 unfold FG;rw [e];simp only;unfold endOf;rw [if_pos h,Mp];simp
theorem QF {m1:Mch}(e:Cr m c.fTxn 3 c.fAt=some m1)(h:(recAt m1 c.fTxn).fState≠1)(h2:(recAt m1 c.fTxn).fState≠Cx c):FG m c=(⟨142,BK,[],(recAt m1 c.fTxn).fAt,0,(recAt m1 c.fTxn).fState⟩,m1):=by
 unfold FG;rw [e];simp only;unfold endOf;rw [if_neg h,if_pos h2]
theorem QE {m1:Mch}(e:Cr m c.fTxn 3 c.fAt=some m1)(h:(recAt m1 c.fTxn).fState≠1)(h2:(recAt m1 c.fTxn).fState=Cx c):FG m c=(⟨0,BK,[],(recAt m1 c.fTxn).fAt,0,(recAt m1 c.fTxn).fState⟩,m1):=by
 unfold FG;rw [e];simp only;unfold endOf;rw [if_neg h,if_neg (by simp [h2])]
theorem ABl (hF:MF I V m)(hs:SrtA ilt m.recs)(hc:TCmdV I c cc)(hk:∀r m',FG m c=(r,m')→∀V',MF I V' m'→K (rvR r) I (mL b s V' m' R)):
  CT ω 99 #[pt b,.agg cc.toArray] K I (mL b s V m R):=by
 obtain ⟨w0,w1,w2,w3,rfl,g0,g1,g2,g3⟩:=hc;refine AJj ?_;unfold sh99;refine AM (fun b1=>AM (fun b2=>?_));have hw:Cx c=if c.fYes=true then 2 else 3:=rfl
 cases hy:c.fYes <;> rw [hy] at hw <;> simp only [Bool.false_eq_true,if_false,if_true] at hw
 all_goals repeat' (first|(with_reducible first|refine AK ?_|refine AX ?_|refine AY ?_|refine keepA ?_|refine AM (fun _=>?_))|((with_reducible refine call ?_);refine (IF b V (GE hF hs (fun e=>?_) (fun V1 m1 e hF1=>?_))))|((with_reducible refine call ?_);refine (Au ?_))|(with_reducible refine RZ hF1.rcs ?_)|((with_reducible refine PW (x:=⟨Cx c,c.fAt⟩) hF1.rcs ?_ (fun e' c' hM'=>Gh.done ?_));rw [hw])|(with_reducible first|refine RZ hM' ?_|refine rdb ?_)|((with_reducible first|refine st1 ?_ ?_|refine rdB ?_ ?_);rfl)|(with_reducible refine AV ?_)|((with_reducible refine Ae ?_ ?_);rfl)|((with_reducible refine stB ?_ ?_ ?_ ?_);rfl;rfl;exact AE rfl)|((with_reducible first|refine rdP _ rfl ?_ ?_|refine Af _ rfl ?_ ?_);rfl)|((with_reducible refine stP _ rfl ?_ ?_ ?_ ?_);rfl;rfl;rfl)|(with_reducible first|refine AO (sh99_3.eq_1 ..) ?_|refine AO (sh99_2.eq_1 ..) ?_|refine AO (sh99_1.eq_1 ..) ?_|refine AO (sh99.eq_1 ..) ?_|refine And.intro ?_ ?_)|(simp only [SSg,Int.reduceBEq,Int.reduceBNe,Int.reduceLT,Int.reduceLE,beq_self_eq_true,bne_self_eq_false])|(with_reducible first|refine AH (fun _=>?_) (fun _=>?_)|refine AD (fun _=>?_) (fun _=>?_))|(simp only [SSd,Nat.reduceAdd,Ko,AEv,hy,hw]))
 all_goals first
  |exact Gh.to (mL b s V m R) (Gh.done (hk _ _ (NN e) V hF))
  |exact Gh.to (mL b s V1 m1 R) (Gh.done (hk _ _ (QF e (by first|(simp_all;done)|(simp_all;omega)|omega) (by first|(simp_all;done)|(simp_all;omega)|omega)) V1 hF1))
  |exact Gh.to (mL b s V1 m1 R) (Gh.done (hk _ _ (QE e (by first|(simp_all;done)|(simp_all;omega)|omega) (by first|(simp_all;done)|(simp_all;omega)|omega)) V1 hF1))
  |(have hk':=hk _ _ (NM e (by first|(simp_all;done)|(simp_all;omega)|omega)) {V1 with e2:=e',c2:=c'} {hF1 with rcs:=hM'};rw [hw] at hk';exact Gh.to (mL b s {V1 with e2:=e',c2:=c'} {m1 with recs:=Ap ilt c.fTxn ⟨Cx c,c.fAt⟩ m1.recs} R) (Gh.done hk'))
  |trace_state
end
theorem DT:∀{a c:List MapEntry},a.Nodup→(∀x∈a,x∈c)→a.length≤c.length
 |[],c,_,_=>by simp
 |x::a,c,hn,hs=>by
  obtain ⟨C1,C2,rfl⟩:=List.append_of_mem (hs x (List.mem_cons_self ..));have:=DT (a:=a) (c:=C1++C2) (List.nodup_cons.1 hn).2 (fun y hy=>by
   have h1:=hs y (List.mem_cons_of_mem _ hy);simp only [List.mem_append,List.mem_cons] at h1 ⊢;rcases h1 with h1|rfl|h1
   ·exact .inl h1
   ·exact absurd hy (List.nodup_cons.1 hn).1
   ·exact .inr h1)
  simp only [List.length_append,List.length_cons] at this ⊢;omega
section
variable {ω:Om}{I:Imm}{L:LH}{K:Value→M}
theorem AJc {yv:Value}{qm m:Nat}{es:Array MapEntry}{clock:Nat}{mm:Key→Option Value}(J:List MapEntry→M)(hm:MapS es clock mm)
  (hJ:∀vis I' L',J vis I' L'→Cell I' L' qm 0 (.map (some m))∧MapAt I' L' m es clock)
  (hstep:∀vis e b I' L',J vis I' L'→e∈es.toList→It es (vis++[e])→CW ω yv #[e.key] (fun v=>Gh fun I2 L2=>v= .bool true∧∃L3,L2=(b,Bt m clock (vis++[e]))::L3∧J (vis++[e]) I2 L3) I' ((b,Bt m clock (vis++[e]))::L'))
  (h0:J [] I L) (hk:∀vis I' L',vis.Perm es.toList→J vis I' L'→K (.tuple #[]) I' L'):
  CT ω 181 #[yv,pt qm] K I L:=by
 obtain ⟨hc,hmp⟩:=hJ _ _ _ h0;refine AHs ?_;unfold YD;refine rdC hc (Ext.refl _) ?_;refine AAv hmp (fun b=>?_);refine Gh.done ?_;refine loop (fun n s I' L'=>∃vis L3,It es vis∧n+vis.length=es.toList.length∧L'=(b,Bt m clock vis)::L3∧J vis I' L3) es.toList.length ⟨[],L,It.none es,rfl,rfl,h0⟩ ?_;rintro n s I' L' ⟨vis,L3,hi,hn,rfl,hJ3⟩;unfold Sy;obtain ⟨hc3,hmp3⟩:=hJ _ _ _ hJ3;refine AJV hm hmp3 hi (fun hp=>Gh.done ?_) (fun e he hi'=>Gh.done ?_)
 ·try simp only [SSd,Nat.reduceAdd]
  exact Gh.to L3 (Gh.done (hk vis I' L3 hp hJ3))
 ·have hlen:vis.length+1≤es.toList.length:=by
   have:=DT (BT hi'.nod) hi'.sub;simpa using this
  try simp only [SSd,Nat.reduceAdd]
  refine ⟨_,AGy hm hmp3 he,?_⟩;try simp only [SSd,Nat.reduceAdd]
  refine CalV.mono (hstep vis e b I' L3 hJ3 he hi') (fun v2 I2 L2 hv2=>Gh.mono hv2 ?_);rintro I3 L3' ⟨rfl,L4,rfl,hJ4⟩;simp only [Bool.not_true,SSd,Nat.reduceAdd];exact (Gh.done ⟨n - 1,by omega,_,L4,hi',by rw [List.length_append,List.length_singleton];omega,rfl,hJ4⟩)
theorem AJZ {m:Nat}(hk:∀qm,K (.func (.func 181) #[] #[pt qm]) I ((qm,.cells #[.map (some m)] 157 (0,0))::L)):CT ω 127 #[.map (some m)] K I L:=by
 refine AIc ?_;unfold ZL;exact AM (fun qm=>Gh.done (hk qm))
theorem AJe {qm m:Nat}{es:Array MapEntry}{clock:Nat}{mm:Key→Option Value}(hm:MapS es clock mm)(hN:es.toList.length≤1000000)(hmp:MapAt I L m es clock)
  (hk:∀(X:LH) (v:Value) (vis:List MapEntry),vis.Perm es.toList→SlO 9 1 X v ((vis.map BM).map CM) vis.length→K v I (X++L)):
  CT ω 179 #[.func (.func 181) #[] #[pt qm]] K I ((qm,.cells #[.map (some m)] 157 (0,0))::L):=by
 refine AHt ?_;unfold YF;refine call ?_;refine AHT ?_;unfold Wv;refine AM (fun bs=>?_);unfold NZ Of;simp only
 rw [if_pos (show Bo Tryz.prog 181=true by kernel_rfl)];intro l D Lo _ hy;refine AJc (qm:=qm) (m:=m) (es:=es) (clock:=clock) (mm:=mm)
  (fun vis I' L'=>I'=I∧∃XO vo,SlO 9 1 XO vo ((vis.map BM).map CM) vis.length∧vis.length≤es.toList.length∧L'=(l,Lo .ready none)::(D,.deferred (some []))::(bs,.cells #[vo] 177 (0,0))::(XO++(qm,.cells #[.map (some m)] 157 (0,0))::L)) hm ?_ ?_ ?_ ?_
 ·rintro vis I' L' ⟨rfl,XO,vo,_,_,rfl⟩;exact ⟨Cell.own (b:=qm) (cs:=#[.map (some m)]) (T:=157) (fr:=(0,0)) (by simp) rfl,MapAt.mono hmp (Ext.refl _) (fun x hx=>by simp [hx])⟩
 ·rintro vis e b I' L' ⟨rfl,XO,vo,hO,hlv,rfl⟩ he hi';have hlen:vis.length+1≤es.toList.length:=by
   have:=DT (BT hi'.nod) hi'.sub;simpa using this
  have hek:e.key=CM (BM e):=by
   obtain ⟨s,hs⟩:=hm.str e he;simp [BM,hs,CM]
  refine hy _ _ _ _ rfl (UU ?_);simp only [List.head!];refine Vr ?_;refine rdb ?_;rw [hek];refine Dg rfl (by omega) rfl (fun X1 u hX1=>?_);obtain ⟨va,vc,rfl⟩:=hO.form;refine DJ (X:=XO) rfl hO (hX1.news (fun x hx=>by simp [hx])) (by simp [Value.cells,Value.oneCell',CM]) (by omega) (by omega) (fun X6 v6 h6=>?_);obtain ⟨a6,c6,rfl⟩:=h6.form;refine st1 rfl ?_;refine QD ?_;refine Gh.to ((b,Bt m clock (vis++[e]))::(l,Lo .ready none)::(D,.deferred (some []))::(bs,.cells #[.slice a6 (vis.length+1) c6] 177 (0,0))::(X6++(qm,.cells #[.map (some m)] 157 (0,0))::L)) (Gh.done ⟨rfl,_,rfl,rfl,X6,_,?_,?_,rfl⟩)
  ·simpa [Value.cells,CM] using h6
  ·simpa using hlen
 ·exact ⟨rfl,[],_,SlO.none _ _,Nat.zero_le _,rfl⟩
 ·rintro vis I' L' hp ⟨rfl,XO,vo,hO,hlv,rfl⟩;refine Gh.done (QG (s:=.ready) (j:=none) (by simp) ?_);show Np ω (pt bs) (.slice none 0 0) D _ _ _;unfold Np;refine rdb ?_;refine tak ?_;exact Gh.to (XO++L) (Gh.done (Gh.done (hk XO vo vis hp hO)))
theorem AJb {yv:Value}{qm m:Nat}{es:Array MapEntry}{clock:Nat}{mm:Int→Option Value}(J:List MapEntry→M)(hm:MapSi es clock mm)
  (hJ:∀vis I' L',J vis I' L'→Cell I' L' qm 0 (.map (some m))∧MapAt I' L' m es clock)
  (hstep:∀vis e b I' L',J vis I' L'→e∈es.toList→It es (vis++[e])→CW ω yv #[e.key] (fun v=>Gh fun I2 L2=>v= .bool true∧∃L3,L2=(b,Bt m clock (vis++[e]))::L3∧J (vis++[e]) I2 L3) I' ((b,Bt m clock (vis++[e]))::L'))
  (h0:J [] I L) (hk:∀vis I' L',vis.Perm es.toList→J vis I' L'→K (.tuple #[]) I' L'):
  CT ω 184 #[yv,pt qm] K I L:=by
 obtain ⟨hc,hmp⟩:=hJ _ _ _ h0;refine AHr ?_;unfold YA;refine rdC hc (Ext.refl _) ?_;refine AAv hmp (fun b=>?_);refine Gh.done ?_;refine loop (fun n s I' L'=>∃vis L3,It es vis∧n+vis.length=es.toList.length∧L'=(b,Bt m clock vis)::L3∧J vis I' L3) es.toList.length ⟨[],L,It.none es,rfl,rfl,h0⟩ ?_;rintro n s I' L' ⟨vis,L3,hi,hn,rfl,hJ3⟩;unfold Sv;obtain ⟨hc3,hmp3⟩:=hJ _ _ _ hJ3;refine AFj hm hmp3 hi (fun hp=>Gh.done ?_) (fun e he hi'=>Gh.done ?_)
 ·try simp only [SSd,Nat.reduceAdd]
  exact Gh.to L3 (Gh.done (hk vis I' L3 hp hJ3))
 ·have hlen:vis.length+1≤es.toList.length:=by
   have:=DT (BT hi'.nod) hi'.sub;simpa using this
  try simp only [SSd,Nat.reduceAdd]
  refine ⟨_,AFm hm hmp3 he,?_⟩;try simp only [SSd,Nat.reduceAdd]
  refine CalV.mono (hstep vis e b I' L3 hJ3 he hi') (fun v2 I2 L2 hv2=>Gh.mono hv2 ?_);rintro I3 L3' ⟨rfl,L4,rfl,hJ4⟩;simp only [Bool.not_true,SSd,Nat.reduceAdd];exact (Gh.done ⟨n - 1,by omega,_,L4,hi',by rw [List.length_append,List.length_singleton];omega,rfl,hJ4⟩)
theorem ALG {qm m:Nat}{es:Array MapEntry}{clock:Nat}{mm:Int→Option Value}(hm:MapSi es clock mm)(hN:es.toList.length≤1000000)(hmp:MapAt I L m es clock)
  (hk:∀(X:LH) (v:Value) (vis:List MapEntry),vis.Perm es.toList→SlO 3 1 X v ((vis.map Bf).map (Value.int .i64)) vis.length→K v I (X++L)):
  CT ω 182 #[.func (.func 184) #[] #[pt qm]] K I ((qm,.cells #[.map (some m)] 160 (0,0))::L):=by
 refine ACE ?_;unfold Sx;refine call ?_;refine ACA ?_;unfold Sc;refine AM (fun bs=>?_);unfold NZ Of;simp only
 rw [if_pos (show Bo Tryz.prog 184=true by kernel_rfl)];intro l D Lo _ hy;refine AJb (qm:=qm) (m:=m) (es:=es) (clock:=clock) (mm:=mm)
  (fun vis I' L'=>I'=I∧∃XO vo,SlO 3 1 XO vo ((vis.map Bf).map (Value.int .i64)) vis.length∧vis.length≤es.toList.length∧L'=(l,Lo .ready none)::(D,.deferred (some []))::(bs,.cells #[vo] 23 (0,0))::(XO++(qm,.cells #[.map (some m)] 160 (0,0))::L)) hm ?_ ?_ ?_ ?_
 ·rintro vis I' L' ⟨rfl,XO,vo,_,_,rfl⟩;exact ⟨Cell.own (b:=qm) (cs:=#[.map (some m)]) (T:=160) (fr:=(0,0)) (by simp) rfl,MapAt.mono hmp (Ext.refl _) (fun x hx=>by simp [hx])⟩
 ·rintro vis e b I' L' ⟨rfl,XO,vo,hO,hlv,rfl⟩ he hi';have hlen:vis.length+1≤es.toList.length:=by
   have:=DT (BT hi'.nod) hi'.sub;simpa using this
  have hek:e.key=(Value.int .i64) (Bf e):=by
   obtain ⟨s,hs⟩:=hm.str e he;simp [Bf,hs,Value.cells]
  refine hy _ _ _ _ rfl (UU ?_);simp only [List.head!];refine Vr ?_;refine rdb ?_;rw [hek];refine Dg rfl (by omega) rfl (fun X1 u hX1=>?_);obtain ⟨va,vc,rfl⟩:=hO.form;refine DJ (X:=XO) rfl hO (hX1.news (fun x hx=>by simp [hx])) (by simp [Value.cells,Value.oneCell',Value.cells]) (by omega) (by omega) (fun X6 v6 h6=>?_);obtain ⟨a6,c6,rfl⟩:=h6.form;refine st1 rfl ?_;refine QD ?_;refine Gh.to ((b,Bt m clock (vis++[e]))::(l,Lo .ready none)::(D,.deferred (some []))::(bs,.cells #[.slice a6 (vis.length+1) c6] 23 (0,0))::(X6++(qm,.cells #[.map (some m)] 160 (0,0))::L)) (Gh.done ⟨rfl,_,rfl,rfl,X6,_,?_,?_,rfl⟩)
  ·simpa [Value.cells,Value.cells] using h6
  ·simpa using hlen
 ·exact ⟨rfl,[],_,SlO.none _ _,Nat.zero_le _,rfl⟩
 ·rintro vis I' L' hp ⟨rfl,XO,vo,hO,hlv,rfl⟩;refine Gh.done (QG (s:=.ready) (j:=none) (by simp) ?_);show Hl ω (pt bs) (.slice none 0 0) D _ _ _;unfold Hl;refine rdb ?_;refine tak ?_;exact Gh.to (XO++L) (Gh.done (Gh.done (hk XO vo vis hp hO)))
theorem AJa {yv:Value}{qm m:Nat}{es:Array MapEntry}{clock:Nat}{mm:Int→Option Value}(J:List MapEntry→M)(hm:MapSi es clock mm)
  (hJ:∀vis I' L',J vis I' L'→Cell I' L' qm 0 (.map (some m))∧MapAt I' L' m es clock)
  (hstep:∀vis e b I' L',J vis I' L'→e∈es.toList→It es (vis++[e])→CW ω yv #[e.key] (fun v=>Gh fun I2 L2=>v= .bool true∧∃L3,L2=(b,Bt m clock (vis++[e]))::L3∧J (vis++[e]) I2 L3) I' ((b,Bt m clock (vis++[e]))::L'))
  (h0:J [] I L) (hk:∀vis I' L',vis.Perm es.toList→J vis I' L'→K (.tuple #[]) I' L'):
  CT ω 185 #[yv,pt qm] K I L:=by
 obtain ⟨hc,hmp⟩:=hJ _ _ _ h0;refine AHq ?_;unfold Xy;refine rdC hc (Ext.refl _) ?_;refine AAv hmp (fun b=>?_);refine Gh.done ?_;refine loop (fun n s I' L'=>∃vis L3,It es vis∧n+vis.length=es.toList.length∧L'=(b,Bt m clock vis)::L3∧J vis I' L3) es.toList.length ⟨[],L,It.none es,rfl,rfl,h0⟩ ?_;rintro n s I' L' ⟨vis,L3,hi,hn,rfl,hJ3⟩;unfold Su;obtain ⟨hc3,hmp3⟩:=hJ _ _ _ hJ3;refine AFj hm hmp3 hi (fun hp=>Gh.done ?_) (fun e he hi'=>Gh.done ?_)
 ·try simp only [SSd,Nat.reduceAdd]
  exact Gh.to L3 (Gh.done (hk vis I' L3 hp hJ3))
 ·have hlen:vis.length+1≤es.toList.length:=by
   have:=DT (BT hi'.nod) hi'.sub;simpa using this
  try simp only [SSd,Nat.reduceAdd]
  refine ⟨_,AFm hm hmp3 he,?_⟩;try simp only [SSd,Nat.reduceAdd]
  refine CalV.mono (hstep vis e b I' L3 hJ3 he hi') (fun v2 I2 L2 hv2=>Gh.mono hv2 ?_);rintro I3 L3' ⟨rfl,L4,rfl,hJ4⟩;simp only [Bool.not_true,SSd,Nat.reduceAdd];exact (Gh.done ⟨n - 1,by omega,_,L4,hi',by rw [List.length_append,List.length_singleton];omega,rfl,hJ4⟩)
theorem AJY {m:Nat}(hk:∀qm,K (.func (.func 185) #[] #[pt qm]) I ((qm,.cells #[.map (some m)] 161 (0,0))::L)):CT ω 130 #[.map (some m)] K I L:=by
 refine AIb ?_;unfold ZJ;exact AM (fun qm=>Gh.done (hk qm))
theorem AJd {qm m:Nat}{es:Array MapEntry}{clock:Nat}{mm:Int→Option Value}(hm:MapSi es clock mm)(hN:es.toList.length≤1000000)(hmp:MapAt I L m es clock)
  (hk:∀(X:LH) (v:Value) (vis:List MapEntry),vis.Perm es.toList→SlO 3 1 X v ((vis.map Bf).map (Value.int .i64)) vis.length→K v I (X++L)):
  CT ω 182 #[.func (.func 185) #[] #[pt qm]] K I ((qm,.cells #[.map (some m)] 161 (0,0))::L):=by
 refine ACE ?_;unfold Sx;refine call ?_;refine ACA ?_;unfold Sc;refine AM (fun bs=>?_);unfold NZ Of;simp only
 rw [if_pos (show Bo Tryz.prog 185=true by kernel_rfl)];intro l D Lo _ hy;refine AJa (qm:=qm) (m:=m) (es:=es) (clock:=clock) (mm:=mm)
  (fun vis I' L'=>I'=I∧∃XO vo,SlO 3 1 XO vo ((vis.map Bf).map (Value.int .i64)) vis.length∧vis.length≤es.toList.length∧L'=(l,Lo .ready none)::(D,.deferred (some []))::(bs,.cells #[vo] 23 (0,0))::(XO++(qm,.cells #[.map (some m)] 161 (0,0))::L)) hm ?_ ?_ ?_ ?_
 ·rintro vis I' L' ⟨rfl,XO,vo,_,_,rfl⟩;exact ⟨Cell.own (b:=qm) (cs:=#[.map (some m)]) (T:=161) (fr:=(0,0)) (by simp) rfl,MapAt.mono hmp (Ext.refl _) (fun x hx=>by simp [hx])⟩
 ·rintro vis e b I' L' ⟨rfl,XO,vo,hO,hlv,rfl⟩ he hi';have hlen:vis.length+1≤es.toList.length:=by
   have:=DT (BT hi'.nod) hi'.sub;simpa using this
  have hek:e.key=(Value.int .i64) (Bf e):=by
   obtain ⟨s,hs⟩:=hm.str e he;simp [Bf,hs,Value.cells]
  refine hy _ _ _ _ rfl (UU ?_);simp only [List.head!];refine Vr ?_;refine rdb ?_;rw [hek];refine Dg rfl (by omega) rfl (fun X1 u hX1=>?_);obtain ⟨va,vc,rfl⟩:=hO.form;refine DJ (X:=XO) rfl hO (hX1.news (fun x hx=>by simp [hx])) (by simp [Value.cells,Value.oneCell',Value.cells]) (by omega) (by omega) (fun X6 v6 h6=>?_);obtain ⟨a6,c6,rfl⟩:=h6.form;refine st1 rfl ?_;refine QD ?_;refine Gh.to ((b,Bt m clock (vis++[e]))::(l,Lo .ready none)::(D,.deferred (some []))::(bs,.cells #[.slice a6 (vis.length+1) c6] 23 (0,0))::(X6++(qm,.cells #[.map (some m)] 161 (0,0))::L)) (Gh.done ⟨rfl,_,rfl,rfl,X6,_,?_,?_,rfl⟩)
  ·simpa [Value.cells,Value.cells] using h6
  ·simpa using hlen
 ·exact ⟨rfl,[],_,SlO.none _ _,Nat.zero_le _,rfl⟩
 ·rintro vis I' L' hp ⟨rfl,XO,vo,hO,hlv,rfl⟩;refine Gh.done (QG (s:=.ready) (j:=none) (by simp) ?_);show Hl ω (pt bs) (.slice none 0 0) D _ _ _;unfold Hl;refine rdb ?_;refine tak ?_;exact Gh.to (XO++L) (Gh.done (Gh.done (hk XO vo vis hp hO)))
end
section
variable {ω:Om}{I:Imm}{L:LH}{K:Value→M}
theorem ABQ {X F:LH}{v:Value}{l:List Int}{T:Nat}(h:SlO T 1 X v (l.map (Value.int .i64)) l.length)(hne:l≠[])(hlen:l.length≤1000000000)(hk:∀k,k∈l→(∀y∈l,k≤y)→K (.int .i64 k) I (X++F)):
  CT ω 218 #[v] K I (X++F):=by
 have hl0:0 < l.length:=List.length_pos_iff.2 hne;obtain ⟨a,cap,rfl⟩:=h.form;have at':∀i (hi:i < l.length),∃b,ixV 1 (.slice a l.length cap) (.int .i64 i)=some (.pointer (some ⟨b,i * 1,none⟩))∧Cell I (X++F) b (i * 1) (.int .i64 l[i]):=by
  intro i hi;obtain ⟨b,h1,h2⟩:=h.ix .i64 hi;refine ⟨b,h1,?_⟩;have:=h2 I (X++F) (fun x hx=>List.mem_append_left _ hx) 0 (.int .i64 l[i]) (by simp [hi]);simpa using this
 refine AHe ?_;unfold XY;have hlt:decide ((l.length:Int) < 1)=false:=by simp;omega
 simp only [hlt,SSd,Nat.reduceAdd];unfold Sm;obtain ⟨b,h1,h2⟩:=at' 0 hl0;simp only [Int.natCast_zero] at h1;simp only [h1,SSd,Nat.reduceAdd];refine rd1 (by simpa using h2) ?_;refine loop (fun n s I' L'=>I'=I∧L'=X++F∧∃(k:Int) (i:Nat),n+i=l.length∧0 < i∧s=(.int .i64 k,.int .i64 i,())∧k∈l∧∀y∈l.take i,k≤y) (l.length - 1) ⟨rfl,rfl,l[0],1,by omega,by omega,rfl,List.getElem_mem _,?_⟩ ?_
 ·intro y hy;rw [List.take_one] at hy;cases l with
  |nil=>simp at hl0
  |cons x l=>simp at hy;simp [hy]
 rintro n s I' L' ⟨rfl,rfl,k,i,hn,hi0,rfl,hm,hle⟩;unfold Sl;try simp only [SSd,Nat.reduceAdd]
 refine AD (fun e=>?_) (fun e=>?_)
 ·simp only [decide_eq_true_eq] at e;have hi:i < l.length:=by omega
  obtain ⟨b,h1,h2⟩:=at' i hi;simp only [h1,SSd,Nat.reduceAdd];refine rd1 h2 ?_;try simp only [SSd,Nat.reduceAdd]
  rw [wrap_i64 _ (by omega)];refine Gh.done ⟨n - 1,by omega,rfl,rfl,if l[i] < k then l[i] else k,i+1,by omega,by omega,rfl,?_,fun y hy=>?_⟩
  ·split
   ·exact List.getElem_mem _
   ·exact hm
  ·rw [take_snoc hi] at hy;rcases List.mem_append.1 hy with hy|hy
   ·have:=hle y hy;split <;> omega
   ·simp only [List.mem_singleton] at hy;subst hy;split <;> omega
 ·simp only [decide_eq_false_iff_not] at e;rw [List.take_of_length_le (by omega)] at hle;exact Gh.done (hk k hm hle)
theorem Vc {β:Type}{q:Int×β}{l:AL Int β}(h:SrtA ilt (q::l)):HQ q.1 (q::l)=l:=by
 obtain ⟨h1,h2⟩:=List.pairwise_cons.1 h;unfold HQ;rw [List.filter_cons,if_neg (by simp),List.filter_eq_self];intro x hx;have:=h1 x hx;simp only [decide_eq_true_eq] at this;simp;omega
variable {b s:Nat}{V:MV}{m:Mch}{R:LH}{c:TCmd}{cc:List Value}
theorem Qv {e:Int}{a:TStamp}(h:¬64 < (Cd m c e a).length):DD m c e a={m with seen:=Cd m c e a}:=if_neg h
theorem KZ {e:Int}{a:TStamp}(hF:MF I V m)(hs:SrtA ilt m.seen)(hl:m.seen.length≤64)(hc:TCmdV I c cc)(hk:∀V',MF I V' (DD m c e a)→K (.tuple #[]) I (mL b s V' (DD m c e a) R)){n s':Int}:
  CT ω 157 #[pt b,.agg cc.toArray,rv e a n s'] K I (mL b s V m R):=by
 have hs2:SrtA ilt (Cd m c e a):=hs.ins LS;have hle:(Cd m c e a).length≤m.seen.length+1:=(FT ..).1;obtain ⟨w0,w1,w2,w3,rfl,g0,g1,g2,g3⟩:=hc;refine AIL ?_;unfold sh157;refine AM (fun b1=>AM (fun b2=>?_));repeat' (first|(with_reducible first|refine AK ?_|refine AX ?_|refine AY ?_|refine keepA ?_|refine AM (fun _=>?_))|((with_reducible refine PW (x:=⟨c.fSeq,e,a⟩) hF.sns ?_ (fun e' c' hM'=>Gh.done ?_));rfl)|(with_reducible first|refine Tx ?_|refine rdb ?_)|((with_reducible first|refine st1 ?_ ?_|refine rdB ?_ ?_);rfl)|(with_reducible refine AV ?_)|((with_reducible refine Ae ?_ ?_);rfl)|((with_reducible refine stB ?_ ?_ ?_ ?_);rfl;rfl;exact AE rfl)|((with_reducible first|refine rdP _ rfl ?_ ?_|refine Af _ rfl ?_ ?_);rfl)|((with_reducible refine stP _ rfl ?_ ?_ ?_ ?_);rfl;rfl;rfl)|(with_reducible first|refine AO (sh157.eq_1 ..) ?_|refine And.intro ?_ ?_)|(simp only [SSg,Int.reduceBEq,Int.reduceBNe,Int.reduceLT,Int.reduceLE,beq_self_eq_true,bne_self_eq_false])|(with_reducible first|refine AH (fun _=>?_) (fun _=>?_)|refine AD (fun _=>?_) (fun _=>?_))|(simp only [SSd,Nat.reduceAdd]))
 ·rename_i hgt
  have hsz:=hM'.sizeA hs2;have hperm:=hM'.keysA hs2;have hgt2:64 < (Cd m c e a).length:=by
   have:64 < ((e'.size:Nat):Int):=by simpa using hgt
   unfold Cd;omega
  refine call (AJY (fun qm=>?_));refine call (AJd hM' (by simp;unfold Cd at hle;omega) (.inl (by simp)) (fun X v vis hvp hO=>?_));have hpk:(vis.map Bf).Perm ((Cd m c e a).map (·.1)):=(hvp.map _).trans hperm;have hvl:(vis.map Bf).length=(Cd m c e a).length:=by rw [hpk.length_eq];simp
  have hO':SlO 3 1 X v ((vis.map Bf).map (Value.int .i64)) (vis.map Bf).length:=by simpa using hO
  refine CI (ABQ hO' (fun h=>by rw [h] at hvl;simp at hvl;omega) (by omega) (fun k hk1 hk2=>Gh.done ?_));have hk1':=hpk.mem_iff.1 hk1;obtain ⟨q,l,hql⟩:∃q l,Cd m c e a=q::l:=by
   cases h:Cd m c e a with
   |nil=>rw [h] at hgt2;simp at hgt2
   |cons q l=>exact ⟨q,l,rfl⟩
  have hkq:k=q.1:=by
   rw [hql] at hk1' hs2 hpk;obtain ⟨h1,h2⟩:=List.pairwise_cons.1 hs2;rcases List.mem_cons.1 hk1' with h|h
   ·exact h
   ·obtain ⟨y,hy,rfl⟩:=List.mem_map.1 h;have g1:=h1 y hy;have g2:=hk2 q.1 (hpk.mem_iff.2 (List.mem_cons_self ..));simp only [decide_eq_true_eq] at g1;omega
  have hsee:DD m c e a={m with seen:=l,oldest:=k}:=by
   unfold DD;rw [if_pos hgt2,hql,hkq];rfl
  have hdel:HQ k (Cd m c e a)=l:=by
   rw [hql] at hs2 ⊢;rw [hkq];exact Vc hs2
  rw [hsee] at hk;try simp only [SSd,Nat.reduceAdd]
  refine rdb ?_;refine AFn hM' (fun e2 hM2=>Gh.done ?_);simp only [List.append_assoc,List.cons_append,List.nil_append];try simp only [SSd,Nat.reduceAdd]
  refine st1 rfl ?_;rw [show Ap ilt c.fTxn ⟨c.fSeq,e,a⟩ m.seen=Cd m c e a from rfl,hdel] at hM2;exact Gh.to (mL b s {V with e3:=e2,c3:=c'} {m with seen:=l,oldest:=k} R) (Gh.done (hk {V with e3:=e2,c3:=c'} {hF with sns:=hM2}))
 ·rename_i hgt
  have hsz:=hM'.sizeA hs2;have hgt2:¬64 < (Cd m c e a).length:=by
   have:¬64 < ((e'.size:Nat):Int):=by simpa using hgt
   unfold Cd;omega
  rw [Qv hgt2] at hk;exact Gh.to (mL b s {V with e3:=e',c3:=c'} {m with seen:=Cd m c e a} R) (Gh.done (hk {V with e3:=e',c3:=c'} {hF with sns:=hM'}))
theorem SB {r:TRes}(e:BV m c=some r):EH m c=(r,m):=by unfold EH;rw [e]
theorem Vs (e:BV m c=none)(e1:Cr m c.fTxn 1 c.fAt=none):EH m c=(Al 143,m):=by unfold EH;rw [e];simp only;rw [e1]
theorem ACy {m1:Mch}(e:BV m c=none)(e1:Cr m c.fTxn 1 c.fAt=some m1)(h:(recAt m1 c.fTxn).fState≠1):EH m c=(⟨142,BK,[],z0,0,(recAt m1 c.fTxn).fState⟩,m1):=by
 unfold EH;rw [e];simp only;rw [e1];simp only;rw [if_pos h]
theorem ACx {m1:Mch}(e:BV m c=none)(e1:Cr m c.fTxn 1 c.fAt=some m1)(h:(recAt m1 c.fTxn).fState=1):EH m c=(⟨0,BK,[],z0,0,1⟩,DD m1 c 0 z0):=by
 unfold EH;rw [e];simp only;rw [e1];simp only;rw [if_neg (by simp [h])]
theorem FM {m1:Mch}{n st:Int}{a:TStamp}(e:Cr m n st a=some m1):m1.seen=m.seen∧m1.low=m.low∧m1.marks=m.marks∧m1.sp=m.sp∧m1.span=m.span∧m1.oldest=m.oldest∧m1.nt=m.nt∧m1.kept=m.kept:=by
 unfold Cr at e;split at e
 ·cases e;simp
 ·split at e
  ·cases e
  ·cases e;simp
set_option maxHeartbeats 1000000 in
theorem SA (hF:MF I V m)(hs:SrtA ilt m.recs)(hs3:SrtA ilt m.seen)(hl3:m.seen.length≤64)(hc:TCmdV I c cc)(hk:∀r m',EH m c=(r,m')→∀V',MF I V' m'→K (rvR r) I (mL b s V' m' R)):
  CT ω 98 #[pt b,.agg cc.toArray] K I (mL b s V m R):=by
 have hc':=hc;obtain ⟨w0,w1,w2,w3,rfl,g0,g1,g2,g3⟩:=hc;refine AJk ?_;unfold sh98;refine AM (fun b1=>AM (fun b2=>?_));repeat' (first|(with_reducible first|refine AK ?_|refine AX ?_|refine AY ?_|refine keepA ?_|refine AM (fun _=>?_))|((with_reducible refine call ?_);refine (IF b V (Fp hF hc' (fun e a ha=>?_) (fun ha=>?_))))|((with_reducible refine call ?_);refine (IF b V (GE hF hs (fun e=>?_) (fun V1 m1 e hF1=>?_))))|((with_reducible refine call ?_);refine (Au ?_))|(with_reducible refine RZ hF1.rcs ?_)|((with_reducible refine call ?_);refine (IF b V1 (KZ (e:=0) (a:=z0) (n:=0) (s':=0) hF1 (by rw [(FM e).1];exact hs3) (by rw [(FM e).1];exact hl3) hc' (fun V2 hF2=>?_))))|(with_reducible refine rdb ?_)|((with_reducible first|refine st1 ?_ ?_|refine rdB ?_ ?_);rfl)|(with_reducible refine AV ?_)|((with_reducible refine Ae ?_ ?_);rfl)|((with_reducible refine stB ?_ ?_ ?_ ?_);rfl;rfl;exact AE rfl)|((with_reducible first|refine rdP _ rfl ?_ ?_|refine Af _ rfl ?_ ?_);rfl)|((with_reducible refine stP _ rfl ?_ ?_ ?_ ?_);rfl;rfl;rfl)|(with_reducible first|refine AO (sh98.eq_1 ..) ?_|refine And.intro ?_ ?_)|(simp only [SSg,Int.reduceBEq,Int.reduceBNe,Int.reduceLT,Int.reduceLE,beq_self_eq_true,bne_self_eq_false])|(with_reducible first|refine AH (fun _=>?_) (fun _=>?_)|refine AD (fun _=>?_) (fun _=>?_))|(simp only [SSd,Nat.reduceAdd,Ko]))
 ·exact Gh.to (mL b s V m R) (Gh.done (hk _ _ (SB ha) V hF))
 ·exact Gh.to (mL b s V m R) (Gh.done (hk _ _ (Vs ha e) V hF))
 ·exact Gh.to (mL b s V1 m1 R) (Gh.done (hk _ _ (ACy ha e (by first|(simp_all;done)|(simp_all;omega)|omega)) V1 hF1))
 ·rename_i hst
  have hst:(recAt m1 c.fTxn).fState=1:=by simpa using hst
  have hk':=hk _ _ (ACx ha e hst) V2 hF2;rw [hst];exact Gh.to (mL b s V2 (DD m1 c 0 z0) R) (Gh.done hk')
theorem Kt (e:Cr m c.fTxn 3 c.fAt=none):DZ m c=(Al 143,m):=by unfold DZ;rw [e]
theorem Mv {m1:Mch}(e:Cr m c.fTxn 3 c.fAt=some m1)(h:pushB (recAt m1 c.fTxn) c=true):DZ m c=(⟨0,BK,[],(recAt m1 c.fTxn).fAt,0,3⟩,{m1 with recs:=Ap ilt c.fTxn ⟨3,(recAt m1 c.fTxn).fAt⟩ m1.recs}):=by
 unfold DZ;rw [e];simp only;unfold IZ;rw [if_pos h,if_pos h]
theorem PX {m1:Mch}(e:Cr m c.fTxn 3 c.fAt=some m1)(h:pushB (recAt m1 c.fTxn) c=false):DZ m c=(⟨0,BK,[],(recAt m1 c.fTxn).fAt,0,(recAt m1 c.fTxn).fState⟩,m1):=by
 unfold DZ;rw [e];simp only;unfold IZ;rw [if_neg (by simp [h]),if_neg (by simp [h])]
theorem Ku (x:TRc):pushB x c=(x.fState==1&&(decide (MA c.fAt x.fAt < 0)||(MA c.fAt x.fAt==0&&decide (c.fBy < c.fTxn)))):=by
 unfold pushB;rw [←Eg,←GC,Bool.eq_iff_iff];simp only [Bool.and_eq_true,Bool.or_eq_true,Bool.not_eq_true',decide_eq_true_eq,decide_eq_false_iff_not,beq_iff_eq];omega
theorem RO (hF:MF I V m)(hs:SrtA ilt m.recs)(hc:TCmdV I c cc)(hk:∀r m',DZ m c=(r,m')→∀V',MF I V' m'→K (rvR r) I (mL b s V' m' R)):
  CT ω 100 #[pt b,.agg cc.toArray] K I (mL b s V m R):=by
 obtain ⟨w0,w1,w2,w3,rfl,g0,g1,g2,g3⟩:=hc;refine AIy ?_;unfold sh100;refine AM (fun b1=>AM (fun b2=>?_));repeat' (first|(with_reducible first|refine AK ?_|refine AX ?_|refine AY ?_|refine keepA ?_|refine AM (fun _=>?_))|((with_reducible refine call ?_);refine (IF b V (GE hF hs (fun e=>?_) (fun V1 m1 e hF1=>?_))))|((with_reducible refine call ?_);refine (Au ?_))|(with_reducible refine RZ hF1.rcs ?_)|((with_reducible refine call ?_);refine (DG (x:=c.fAt) (y:=(recAt m1 c.fTxn).fAt) ?_))|((with_reducible refine PW (x:=⟨3,(recAt m1 c.fTxn).fAt⟩) hF1.rcs ?_ (fun e' c' hM'=>Gh.done ?_));rfl)|(with_reducible refine rdb ?_)|((with_reducible first|refine st1 ?_ ?_|refine rdB ?_ ?_);rfl)|(with_reducible refine AV ?_)|((with_reducible refine Ae ?_ ?_);rfl)|((with_reducible refine stB ?_ ?_ ?_ ?_);rfl;rfl;exact AE rfl)|((with_reducible first|refine rdP _ rfl ?_ ?_|refine Af _ rfl ?_ ?_);rfl)|((with_reducible refine stP _ rfl ?_ ?_ ?_ ?_);rfl;rfl;rfl)|(with_reducible first|refine AO (sh100_2.eq_1 ..) ?_|refine AO (sh100_1.eq_1 ..) ?_|refine AO (sh100.eq_1 ..) ?_|refine And.intro ?_ ?_)|(simp only [SSg,Int.reduceBEq,Int.reduceBNe,Int.reduceLT,Int.reduceLE,beq_self_eq_true,bne_self_eq_false])|(with_reducible first|refine AH (fun _=>?_) (fun _=>?_)|refine AD (fun _=>?_) (fun _=>?_))|(simp only [SSd,Nat.reduceAdd,Ko]))
 all_goals first
  |exact Gh.to (mL b s V m R) (Gh.done (hk _ _ (Kt e) V hF))
  |exact Gh.to (mL b s V1 m1 R) (Gh.done (hk _ _ (PX e (by rw [Ku];simp_all)) V1 hF1))
  |exact Gh.to (mL b s {V1 with e2:=e',c2:=c'} {m1 with recs:=Ap ilt c.fTxn ⟨3,(recAt m1 c.fTxn).fAt⟩ m1.recs} R) (Gh.done (hk _ _ (Mv e (by rw [Ku];simp_all)) {V1 with e2:=e',c2:=c'} {hF1 with rcs:=hM'}))
  |trace_state
theorem Py (hF:MF I V m)(hc:TCmdV I c cc)(hk:∀r m',FF m c=(r,m')→∀V',MF I V' m'→K (rvR r) I (mL b s V' m' R)):
  CT ω 101 #[pt b,.agg cc.toArray] K I (mL b s V m R):=by
 obtain ⟨w0,w1,w2,w3,rfl,g0,g1,g2,g3⟩:=hc;refine AIx ?_;unfold sh101;refine AM (fun b1=>AM (fun b2=>?_));repeat' (first|(with_reducible first|refine AK ?_|refine AX ?_|refine AY ?_|refine keepA ?_|refine AM (fun _=>?_))|((with_reducible refine call ?_);refine (Au ?_))|(with_reducible first|refine RZ hF.rcs ?_|refine AFn hF.rcs (fun e' hM'=>Gh.done ?_)|refine rdb ?_)|((with_reducible first|refine st1 ?_ ?_|refine rdB ?_ ?_);rfl)|(with_reducible refine AV ?_)|((with_reducible refine Ae ?_ ?_);rfl)|((with_reducible refine stB ?_ ?_ ?_ ?_);rfl;rfl;exact AE rfl)|((with_reducible first|refine rdP _ rfl ?_ ?_|refine Af _ rfl ?_ ?_);rfl)|((with_reducible refine stP _ rfl ?_ ?_ ?_ ?_);rfl;rfl;rfl)|(with_reducible first|refine AO (sh101.eq_1 ..) ?_|refine And.intro ?_ ?_)|(simp only [SSg,Int.reduceBEq,Int.reduceBNe,Int.reduceLT,Int.reduceLE,beq_self_eq_true,bne_self_eq_false])|(with_reducible first|refine AH (fun _=>?_) (fun _=>?_)|refine AD (fun _=>?_) (fun _=>?_))|(simp only [SSd,Nat.reduceAdd,Ko]))
 all_goals first
  |exact Gh.to (mL b s V m R) (Gh.done (hk (Al 142) m (by unfold FF;rw [if_pos (by first|(simp_all;done)|(simp_all;omega)|omega)]) V hF))
  |exact Gh.to (mL b s {V with e2:=e'} {m with recs:=HQ c.fTxn m.recs} R) (Gh.done (hk okR {m with recs:=HQ c.fTxn m.recs} (by unfold FF;rw [if_neg (by first|(simp_all;done)|(simp_all;omega)|omega)]) {V with e2:=e'} {hF with rcs:=hM'}))
  |trace_state
theorem Ib {p:TSpan}{pc:List Value}(hF:MF I V m)(hp:TSpanV I p pc)(hk:K (.bool (HB m.span p)) I (mL b s V m R)):
  CT ω 151 #[pt b,.agg pc.toArray] K I (mL b s V m R):=by
 obtain ⟨v0,v1,rfl,h0,h1⟩:=hp;refine AIR ?_;unfold sh151;repeat' (first|(with_reducible first|refine AK ?_|refine AX ?_|refine AY ?_|refine keepA ?_|refine AM (fun _=>?_))|((with_reducible refine call ?_);refine (DH hF.f0 h0 ?_))|((with_reducible refine call ?_);refine (DH h1 hF.f1 ?_))|(with_reducible refine rdb ?_)|((with_reducible first|refine st1 ?_ ?_|refine rdB ?_ ?_);rfl)|(with_reducible refine AV ?_)|((with_reducible refine Ae ?_ ?_);rfl)|((with_reducible refine stB ?_ ?_ ?_ ?_);rfl;rfl;exact AE rfl)|((with_reducible first|refine rdP _ rfl ?_ ?_|refine Af _ rfl ?_ ?_);rfl)|((with_reducible refine stP _ rfl ?_ ?_ ?_ ?_);rfl;rfl;rfl)|(with_reducible first|refine AO (sh151.eq_1 ..) ?_|refine And.intro ?_ ?_)|(simp only [SSg,Int.reduceBEq,Int.reduceBNe,Int.reduceLT,Int.reduceLE,beq_self_eq_true,bne_self_eq_false])|(with_reducible first|refine AH (fun _=>?_) (fun _=>?_)|refine AD (fun _=>?_) (fun _=>?_))|(simp only [SSd,Nat.reduceAdd,Bytes.len h1,Bytes.len hF.f1]))
 all_goals (refine Gh.to (mL b s V m R) (Gh.done (Bz hk ?_));rw [Bool.eq_iff_iff];simp only [HB,←OY,Bool.not_eq_true',Bool.and_eq_true,Bool.or_eq_true,decide_eq_true_eq,beq_iff_eq,ne_eq,decide_eq_false_iff_not,Bool.false_eq_true,iff_false,not_and,not_or,ge_iff_le,gt_iff_lt,true_iff,and_true,true_and,or_true,beq_eq_false_iff_ne,Bool.not_eq_false,iff_true] at *; omega)
end
def UN:Prop:=∀(ω:Om) (I:Imm) (K:Value→M) (T:Nat) (X F:LH) (v:Value) (zs:List (List UInt8)),SlO T 1 X v (zs.map CM) zs.length→zs.length≤1000000000→
 (∀(X':LH) (ys:List (List UInt8)),ys.Perm zs→ys.Pairwise (fun a b=>blt b a=false)→SlO T 1 X' v (ys.map CM) ys.length→K (.tuple #[]) I (X'++F))→CT ω 180 #[v] K I (X++F)
theorem AFI {κ:Type}[DecidableEq κ]{lt:κ→κ→Bool}(ho:Ord κ lt){a b:List κ}(hp:a.Perm b)(ha:a.Pairwise fun x y=>lt y x=false)(hb:b.Pairwise fun x y=>lt x y=true):a=b:=by
 have hna:a.Nodup:=hp.nodup_iff.2 (hb.imp fun h=>SrtA.ne ho h);have ha2:a.Pairwise fun x y=>lt x y=true:=(ha.and hna).imp fun {x y} h=>by
  cases hx:lt x y with
  |true=>rfl
  |false=>exact absurd (ho.tot _ _ hx h.1) h.2
 exact List.Perm.eq_of_pairwise (fun x y _ _ h1 h2=>by have:=ho.tr _ _ _ h1 h2;rw [ho.irr] at this;cases this) ha2 hb hp
section
variable {ω:Om}{I:Imm}{L:LH}{K:Value→M}{b s:Nat}{V:MV}{m:Mch}{R:LH}
theorem Pi {low:TMk}{l:AL (List UInt8) TMk}{q:List UInt8×TMk}:BJ low (l++[q])=Ar (BJ low l) q.2.fAt q.2.fBy:=by
 unfold BJ;rw [List.foldl_append];rfl
theorem RU {ba:Nat}{kv:Value}{k:List UInt8}{a:TStamp}{n:Int}(hF:MF I V m)(hB:Bytes I kv k)(hn:lkA m.marks k=none)
  (hk:∀V',MF I V' {m with marks:=Ap blt k (Ar mk0 a n) m.marks}→K (.tuple #[]) I ((ba,.cells #[.int .i64 a.fWall,.int .i64 a.fLogic] 41 (0,0))::mL b s V' {m with marks:=Ap blt k (Ar mk0 a n) m.marks} R)):
  sh150_5 ω (pt b) kv (.int .i64 n) (pt ba) K I ((ba,.cells #[.int .i64 a.fWall,.int .i64 a.fLogic] 41 (0,0))::mL b s V m R):=by
 have hl:Bb mv m.marks k=none:=by unfold Bb;rw [hn];rfl
 repeat' (first|(with_reducible first|refine AK ?_|refine AX ?_|refine AY ?_|refine keepA ?_|refine AM (fun _=>?_)|refine BS hB (Ext.refl _) ?_)|((with_reducible refine ABY hF.mks ?_);simp only [hl,lkV,if_true,if_false,Bool.false_eq_true])|((with_reducible refine call ?_);refine (Do (k:=mk0) (a:=a) (n:=n) ?_))|((with_reducible refine Tp (x:=Ar mk0 a n) hF.mks ?_ (fun e' c' hM'=>Gh.done ?_));rfl)|(with_reducible refine rdb ?_)|((with_reducible first|refine st1 ?_ ?_|refine rdB ?_ ?_);rfl)|(with_reducible refine AV ?_)|((with_reducible refine Ae ?_ ?_);rfl)|((with_reducible refine stB ?_ ?_ ?_ ?_);rfl;rfl;exact AE rfl)|((with_reducible first|refine rdP _ rfl ?_ ?_|refine Af _ rfl ?_ ?_);rfl)|((with_reducible refine stP _ rfl ?_ ?_ ?_ ?_);rfl;rfl;rfl)|(with_reducible first|refine AO (sh150_5.eq_1 ..) ?_|refine AO (sh150_4.eq_1 ..) ?_|refine AO (sh150_2.eq_1 ..) ?_|refine AO (sh150_1.eq_1 ..) ?_|refine AO (sh150_6.eq_1 ..) ?_|refine AO (sh150.eq_1 ..) ?_|refine And.intro ?_ ?_)|(simp only [SSg,Int.reduceBEq,Int.reduceBNe,Int.reduceLT,Int.reduceLE,beq_self_eq_true,bne_self_eq_false])|(with_reducible first|refine AH (fun _=>?_) (fun _=>?_)|refine AD (fun _=>?_) (fun _=>?_))|(simp only [SSd,Nat.reduceAdd,hl,lkV,if_true,if_false,Bool.false_eq_true]))
 ·exact hk {V with e1:=e',c1:=c'} {hF with mks:=hM'}
theorem VK {kv:Value}{k:List UInt8}{a:TStamp}{n:Int}(hS:EO m k=true→UN)(hF:MF I V m)(hm:SrtA blt m.marks)(hB:Bytes I kv k)
  (hk:∀V',MF I V' (CR m k a n)→K (.tuple #[]) I (mL b s V' (CR m k a n) R)):
  CT ω 150 #[pt b,kv,sv a,.int .i64 n] K I (mL b s V m R):=by
 have hsz:=hF.mks.sizeA hm;refine AIS ?_;unfold sh150;refine AM (fun ba=>?_);cases hx:lkA m.marks k with
 |some x=>
  have hl:Bb mv m.marks k=some (mv x):=by unfold Bb;rw [hx];rfl
  have hf:EO m k=false:=by unfold EO;rw [hx];rfl
  have hmk:CR m k a n={m with marks:=Ap blt k (Ar x a n) m.marks}:=by unfold CR room;rw [hf];simp [hx]
  rw [hmk] at hk;repeat' (first|(with_reducible first|refine AK ?_|refine AX ?_|refine AY ?_|refine keepA ?_|refine AM (fun _=>?_)|refine BS hB (Ext.refl _) ?_)|((with_reducible refine ABY hF.mks ?_);simp only [hl,lkV,if_true,if_false,Bool.false_eq_true])|((with_reducible refine call ?_);refine (Do (k:=x) (a:=a) (n:=n) ?_))|((with_reducible refine Tp (x:=Ar x a n) hF.mks ?_ (fun e' c' hM'=>Gh.done ?_));rfl)|(with_reducible refine rdb ?_)|((with_reducible first|refine st1 ?_ ?_|refine rdB ?_ ?_);rfl)|(with_reducible refine AV ?_)|((with_reducible refine Ae ?_ ?_);rfl)|((with_reducible refine stB ?_ ?_ ?_ ?_);rfl;rfl;exact AE rfl)|((with_reducible first|refine rdP _ rfl ?_ ?_|refine Af _ rfl ?_ ?_);rfl)|((with_reducible refine stP _ rfl ?_ ?_ ?_ ?_);rfl;rfl;rfl)|(with_reducible first|refine AO (sh150_5.eq_1 ..) ?_|refine AO (sh150_4.eq_1 ..) ?_|refine AO (sh150_2.eq_1 ..) ?_|refine AO (sh150_1.eq_1 ..) ?_|refine AO (sh150_6.eq_1 ..) ?_|refine AO (sh150.eq_1 ..) ?_|refine And.intro ?_ ?_)|(simp only [SSg,Int.reduceBEq,Int.reduceBNe,Int.reduceLT,Int.reduceLE,beq_self_eq_true,bne_self_eq_false])|(with_reducible first|refine AH (fun _=>?_) (fun _=>?_)|refine AD (fun _=>?_) (fun _=>?_))|(simp only [SSd,Nat.reduceAdd,hl,lkV,if_true,if_false,Bool.false_eq_true]))
  exact Gh.to (mL b s {V with e1:=e',c1:=c'} {m with marks:=Ap blt k (Ar x a n) m.marks} R) (Gh.done (hk {V with e1:=e',c1:=c'} {hF with mks:=hM'}))
 |none=>
  have hl:Bb mv m.marks k=none:=by unfold Bb;rw [hx];rfl
  have hfl:EO m k=(m.marks.length==32):=by unfold EO;rw [hx];rfl
  repeat' (first|(with_reducible first|refine AK ?_|refine AX ?_|refine AY ?_|refine keepA ?_|refine AM (fun _=>?_)|refine BS hB (Ext.refl _) ?_)|((with_reducible refine ABY hF.mks ?_);simp only [hl,lkV,if_true,if_false,Bool.false_eq_true])|(with_reducible refine AKz ?_)|((with_reducible refine call ?_);refine (Do (k:=mk0) (a:=a) (n:=n) ?_))|((with_reducible refine Tp (x:=Ar mk0 a n) hF.mks ?_ (fun e' c' hM'=>Gh.done ?_));rfl)|(with_reducible refine rdb ?_)|((with_reducible first|refine st1 ?_ ?_|refine rdB ?_ ?_);rfl)|(with_reducible refine AV ?_)|((with_reducible refine Ae ?_ ?_);rfl)|((with_reducible refine stB ?_ ?_ ?_ ?_);rfl;rfl;exact AE rfl)|((with_reducible first|refine rdP _ rfl ?_ ?_|refine Af _ rfl ?_ ?_);rfl)|((with_reducible refine stP _ rfl ?_ ?_ ?_ ?_);rfl;rfl;rfl)|(with_reducible first|refine AO (sh150_5.eq_1 ..) ?_|refine AO (sh150_4.eq_1 ..) ?_|refine AO (sh150_2.eq_1 ..) ?_|refine AO (sh150_1.eq_1 ..) ?_|refine AO (sh150_6.eq_1 ..) ?_|refine AO (sh150.eq_1 ..) ?_|refine And.intro ?_ ?_)|(simp only [SSg,Int.reduceBEq,Int.reduceBNe,Int.reduceLT,Int.reduceLE,beq_self_eq_true,bne_self_eq_false])|(with_reducible first|refine AH (fun _=>?_) (fun _=>?_)|refine AD (fun _=>?_) (fun _=>?_))|(simp only [SSd,Nat.reduceAdd,hl,lkV,if_true,if_false,Bool.false_eq_true,hsz]))
  ·rename_i bx hlen
   have hlen:m.marks.length=32:=by simp at hlen;omega
   have hf:EO m k=true:=by rw [hfl,hlen];rfl
   have hS:=hS hf;have hroom:room m k={m with marks:=[],low:=BJ m.low m.marks}:=by unfold room;rw [if_pos hf]
   have hmk:CR m k a n={m with marks:=Ap blt k (Ar mk0 a n) [],low:=BJ m.low m.marks}:=by unfold CR;rw [hroom];rfl
   rw [hmk] at hk;refine call (AJZ (fun qm=>?_));refine call ?_;refine AId ?_;unfold ZN;refine call (AJe hF.mks (by simp [hsz,hlen]) (.inl (by simp)) (fun X v vis hvp hO=>?_));have hO':SlO 9 1 X v ((vis.map BM).map CM) (vis.map BM).length:=by simpa using hO
   have hpk:=(hvp.map BM).trans (hF.mks.keysA hm);have hvl:(vis.map BM).length=32:=by rw [hpk.length_eq];simp [hlen]
   refine call (hS _ _ _ _ _ _ _ _ hO' (by omega) (fun X' ys hp hpw hO2=>?_));have hys:ys=m.marks.map (·.1):=AFI bltO (hp.trans hpk) hpw (List.pairwise_map.2 hm);subst hys;rw [List.length_map,hlen] at hO2;obtain ⟨sa,scap,rfl⟩:=hO2.form;refine Gh.done ?_;try simp only [SSd,Nat.reduceAdd]
   refine loop (fun n' (s':Value×Unit) I' L'=>I'=I∧∃(i:Nat),n'+i=32∧s'=(.int .i64 i,())∧L'=X'++((bx,.cells #[.int .i64 0,.int .i64 0,.int .i64 0] 159 (0,0))::(ba,.cells #[.int .i64 a.fWall,.int .i64 a.fLogic] 41 (0,0))::mL b s V {m with low:=BJ m.low (m.marks.take i)} R)) 32 ⟨rfl,0,rfl,rfl,rfl⟩ ?_;rintro n' s' I' L' ⟨rfl,i,hn,rfl,rfl⟩;unfold sh150_2;try simp only [SSd,Nat.reduceAdd]
   refine AD (fun e=>?_) (fun e=>?_)
   ·have hi:i < m.marks.length:=by simp at e;omega
    obtain ⟨bq,hix,hcq⟩:=hO2.ix .i64 (i:=i) (by omega);have hcq1:=hcq I' (X'++((bx,.cells #[.int .i64 0,.int .i64 0,.int .i64 0] 159 (0,0))::(ba,.cells #[.int .i64 a.fWall,.int .i64 a.fLogic] 41 (0,0))::mL b s V {m with low:=BJ m.low (m.marks.take i)} R)) (fun x hx=>List.mem_append_left _ hx) 0 (CM m.marks[i].1) (by simp [hi]);have hq:lkA m.marks m.marks[i].1=some m.marks[i].2:=FD bltO hm (List.getElem_mem hi);have hlq:Bb mv m.marks m.marks[i].1=some (mv m.marks[i].2):=by unfold Bb;rw [hq];rfl
    have htk:BJ m.low (m.marks.take (i+1))=Ar (BJ m.low (m.marks.take i)) m.marks[i].2.fAt m.marks[i].2.fBy:=by rw [take_snoc hi,Pi]
    simp only [hix,SSd,Nat.reduceAdd];refine rd1 (by simpa using hcq1) ?_;try simp only [SSd,Nat.reduceAdd]
    refine rdb ?_;refine lkT hF.mks ?_;simp only [hlq,lkV,Bool.false_eq_true,if_false];refine AM (fun bk=>?_);refine stB rfl rfl (AE rfl) ?_;refine AK ?_;try simp only [SSd,Nat.reduceAdd]
    refine Af [.int .i64 (BJ m.low (m.marks.take i)).fAt.fWall,.int .i64 (BJ m.low (m.marks.take i)).fAt.fLogic,.int .i64 (BJ m.low (m.marks.take i)).fBy] rfl rfl ?_;try simp only [SSd,Nat.reduceAdd]
    refine Af [.int .i64 m.marks[i].2.fAt.fWall,.int .i64 m.marks[i].2.fAt.fLogic] rfl rfl ?_;try simp only [SSd,Nat.reduceAdd]
    refine AV ?_;refine call (Do (k:=BJ m.low (m.marks.take i)) (a:=m.marks[i].2.fAt) (n:=m.marks[i].2.fBy) ?_);try simp only [SSd,Nat.reduceAdd]
    rw [←htk,wrap_i64 _ (by omega)];refine stP [V.v0,V.v1,pt s,.map (some V.km),.int .i64 (BJ m.low (m.marks.take (i+1))).fAt.fWall,.int .i64 (BJ m.low (m.marks.take (i+1))).fAt.fLogic,.int .i64 (BJ m.low (m.marks.take (i+1))).fBy,.map (some V.rc),.map (some V.sn),.int .i64 m.oldest,V.kv] rfl rfl rfl rfl ?_;try simp only [SSd,Nat.reduceAdd]
    exact Gh.to (X'++((bx,.cells #[.int .i64 0,.int .i64 0,.int .i64 0] 159 (0,0))::(ba,.cells #[.int .i64 a.fWall,.int .i64 a.fLogic] 41 (0,0))::mL b s V {m with low:=BJ m.low (m.marks.take (i+1))} R)) (Gh.done ⟨n' - 1,by omega,rfl,i+1,by omega,rfl,rfl⟩)
   ·have hi:i=m.marks.length:=by simp at e;omega
    rw [hi,List.take_length];unfold sh150_4;refine VJ (fun m2=>?_);refine Gh.to ((m2,.map #[] 0)::(ba,.cells #[.int .i64 a.fWall,.int .i64 a.fLogic] 41 (0,0))::mL b s V {m with low:=BJ m.low m.marks} R) (Gh.done ?_);try simp only [SSd,Nat.reduceAdd]
    refine WB rfl ?_;refine Gh.to ((ba,.cells #[.int .i64 a.fWall,.int .i64 a.fLogic] 41 (0,0))::mL b s {V with km:=m2,e1:=#[],c1:=0} {m with marks:=[],low:=BJ m.low m.marks} R) (Gh.done ?_);refine RU (V:={V with km:=m2,e1:=#[],c1:=0}) (m:={m with marks:=[],low:=BJ m.low m.marks}) {hF with mks:=MapS.empty} hB rfl (fun V' hV'=>?_);exact Gh.to (mL b s V' {m with marks:=Ap blt k (Ar mk0 a n) [],low:=BJ m.low m.marks} R) (Gh.done (hk V' hV'))
  ·rename_i hlen
   have hf:EO m k=false:=by rw [hfl];simp at hlen ⊢;omega
   have hmk:CR m k a n={m with marks:=Ap blt k (Ar mk0 a n) m.marks}:=by unfold CR room;rw [hf];simp [hx]
   rw [hmk] at hk;exact Gh.to (mL b s {V with e1:=e',c1:=c'} {m with marks:=Ap blt k (Ar mk0 a n) m.marks} R) (Gh.done (hk {V with e1:=e',c1:=c'} {hF with mks:=hM'}))
end
def MchR (I:Imm)(b:Nat)(X:LH)(m:Mch):Prop:=∃s V SX,X.Perm (mL b s V m SX)∧MF I V m∧SpR I s SX m.sp m.nt
theorem MchR.mono {I I':Imm}{b:Nat}{X:LH}{m:Mch}(h:MchR I b X m)(hI:Ext I I'):MchR I' b X m:=by
 obtain ⟨s,V,SX,h1,h2,h3⟩:=h;exact ⟨s,V,SX,h1,h2.mono hI,h3.mono hI⟩
def PostK (K:Value→M)(b:Nat)(F:LH)(I:Imm)(r:TRes)(m':Mch):Prop:=∀I' X' cells,Ext I I'→MchR I' b X' m'→TResV I' r cells→K (.agg cells.toArray) I' (X'++F)
theorem PostK.go {K:Value→M}{b s:Nat}{V:MV}{SX F:LH}{I I':Imm}{r:TRes}{m:Mch}{cells:List Value}(h:PostK K b F I r m)(hI:Ext I I')(hF:MF I' V m)(hS:SpR I' s SX m.sp m.nt)(hr:TResV I' r cells):K (.agg cells.toArray) I' (mL b s V m (SX++F)):=
 h I' (mL b s V m SX) cells hI ⟨s,V,SX,List.Perm.refl _,hF,hS⟩ hr
theorem FV:∀{rows:List Row} {n:Nat},Ah rows≤n→∀r∈rows,r.vs.length≤n
 |x::rows,n,h,r,hr=>by
  have e:Ah (x::rows)=x.vs.length+Ah rows:=by simp [Ah]
  rcases List.mem_cons.1 hr with rfl|hr
  ·omega
  ·exact FV (rows:=rows) (n:=n) (by omega) r hr
theorem Pf (m:Mch)(k:List UInt8)(a:TStamp)(n:Int):(CR m k a n).sp=m.sp∧(CR m k a n).nt=m.nt:=by
 unfold CR room;split <;> exact ⟨rfl,rfl⟩
theorem Gg (m:Mch)(c:TCmd)(e:Int)(a:TStamp):(DD m c e a).sp=m.sp∧(DD m c e a).nt=m.nt:=by
 unfold DD;split <;> exact ⟨rfl,rfl⟩
theorem GA {N:Nat}(h:N≤10000):N * N≤100000000:=Nat.mul_le_mul h h
section
variable {ω:Om}{I:Imm}{L:LH}{K:Value→M}{b s N:Nat}{V:MV}{m:Mch}{SX F:LH}{c:TCmd}{cc:List Value}
theorem VV (hM : MOk m N) (hN : N ≤ 10000) (hS : EO m c.fKey = true → UN) (hF : MF I V m) (hSp : SpR I s SX m.sp m.nt) (hc : TCmdV I c cc) (hk : PostK K b F I (Ep m c).1 (Ep m c).2) :
    CT ω 94 #[pt b, .agg cc.toArray] K I (mL b s V m (SX ++ F)) := by
  have h1 := hM.vers
  have h2 := GA hN
  have h3 := hM.rows
  have hvs : ∀ r ∈ m.sp.rows, r.vs.length ≤ 1000000000 := FV (by omega)
  obtain ⟨w0, w1, w2, w3, rfl, g0, g1, g2, g3⟩ := hc
  refine AJo ?_
  unfold sh94
  refine AM (fun b1 => AM (fun b2 => ?_))
  repeat' (first | (with_reducible first | refine AK ?_ | refine AX ?_ | refine AY ?_ | refine keepA ?_ | refine AM (fun _ => ?_)) | ((with_reducible refine call ?_); refine (EA (p := m.span) ⟨_, _, rfl, hF.f0, hF.f1⟩ g0 ?_)) | ((with_reducible refine call ?_); refine (Au ?_)) | (((with_reducible refine call ?_); refine (ABg (sp := m.sp) (k := c.fKey) (m := c.fAt) (txn := c.fTxn) (hSp.view (fun x hx => by simp [hx])) hM.sp.rise hvs g0 (fun I1 u1 hI1 hB1 => ?_))); obtain ⟨ua, uc, rfl⟩ := Bytes.form hB1) | ((with_reducible refine call ?_); refine (IF b V (VK hS (hF.mono hI1) hM.marks (g0.mono hI1) (fun V1 hF1 => ?_)))) | (with_reducible refine rdb ?_) | ((with_reducible first | refine st1 ?_ ?_ | refine rdB ?_ ?_); rfl) | (with_reducible refine AV ?_) | ((with_reducible refine Ae ?_ ?_); rfl) | ((with_reducible refine stB ?_ ?_ ?_ ?_); rfl; rfl; exact AE rfl) | ((with_reducible first | refine rdP _ rfl ?_ ?_ | refine Af _ rfl ?_ ?_); rfl) | ((with_reducible refine stP _ rfl ?_ ?_ ?_ ?_); rfl; rfl; rfl) | (with_reducible first | refine AO (sh94_1.eq_1 ..) ?_ | refine AO (sh94.eq_1 ..) ?_ | refine And.intro ?_ ?_) | (simp only [SSg, Int.reduceBEq, Int.reduceBNe, Int.reduceLT, Int.reduceLE, beq_self_eq_true, bne_self_eq_false]) | (with_reducible first | refine AH (fun _ => ?_) (fun _ => ?_) | refine AD (fun _ => ?_) (fun _ => ?_)) | (simp only [SSd, Nat.reduceAdd]))
  · have e : Ep m c = (Al 141, m) := by unfold Ep; rw [if_pos (by first | (simp_all; done) | (simp_all; omega) | omega)]
    rw [e] at hk
    exact Gh.to (mL b s V m (SX ++ F)) (Gh.done (hk.go (Ext.refl _) hF hSp (Ce ..)))
  all_goals first
    | (have e : Ep m c = (⟨(CG m.sp c.fKey c.fAt c.fTxn).2, BK, [], z0, (CG m.sp c.fKey c.fAt c.fTxn).1.fBy, 0⟩, m) := by unfold Ep; rw [if_neg (by first | (simp_all; done) | (simp_all; omega) | omega), if_pos (by first | (simp_all; done) | (simp_all; omega) | omega)]
       rw [e] at hk
       exact Gh.to (mL b s V m (SX ++ F)) (Gh.done (hk.go hI1 (hF.mono hI1) (hSp.mono hI1) (Ce ..))))
    | (have e : Ep m c = (⟨0, (CG m.sp c.fKey c.fAt c.fTxn).1, [], z0, 0, 0⟩, CR m c.fKey c.fAt c.fTxn) := by unfold Ep; rw [if_neg (by first | (simp_all; done) | (simp_all; omega) | omega), if_neg (by first | (simp_all; done) | (simp_all; omega) | omega)]
       rw [e] at hk
       exact Gh.to (mL b s V1 (CR m c.fKey c.fAt c.fTxn) (SX ++ F)) (Gh.done (hk.go hI1 hF1 (by rw [(Pf ..).1, (Pf ..).2]; exact hSp.mono hI1) ⟨_, _, rfl, hB1, RL.nil none 0⟩)))
theorem Qw (hM:MOk m N)(hN:N≤10000)(hF:MF I V m)(hSp:SpR I s SX m.sp m.nt)(hc:TCmdV I c cc)(hk:PostK K b F I (Dk m c).1 (Dk m c).2):
  CT ω 95 #[pt b,.agg cc.toArray] K I (mL b s V m (SX++F)):=by
 have h1:=hM.vers;have h2:=GA hN;have h3:=hM.rows;have hvs:∀r∈m.sp.rows,r.vs.length≤1000000000:=FV (by omega);obtain ⟨w0,w1,w2,w3,rfl,g0,g1,g2,g3⟩:=hc;refine AJn ?_;unfold sh95;refine AM (fun b1=>AM (fun b2=>?_));repeat' (first|(with_reducible first|refine AK ?_|refine AX ?_|refine AY ?_|refine keepA ?_|refine AM (fun _=>?_))|((with_reducible refine call ?_);refine (IF b V (Ib hF (p:=c.fSpan) ⟨_,_,rfl,g2,g3⟩ ?_)))|((with_reducible refine call ?_);refine (Au ?_))|(((with_reducible refine call ?_);refine (Us (sp:=m.sp) (p:=c.fSpan) (m:=c.fAt) (txn:=c.fTxn) (most:=c.fMost) (hSp.view (fun x hx=>by simp [hx])) hM.sp.rise (by omega) hvs ⟨_,_,rfl,g2,g3⟩ (fun I1 u1 hI1 hB1=>?_)));obtain ⟨ua,uc,rfl⟩:=RL.form hB1)|((with_reducible refine call ?_);refine (Do (k:=m.low) (a:=c.fAt) (n:=c.fTxn) ?_))|(with_reducible refine rdb ?_)|((with_reducible first|refine st1 ?_ ?_|refine rdB ?_ ?_);rfl)|(with_reducible refine AV ?_)|((with_reducible refine Ae ?_ ?_);rfl)|((with_reducible refine stB ?_ ?_ ?_ ?_);rfl;rfl;exact AE rfl)|((with_reducible first|refine rdP _ rfl ?_ ?_|refine Af _ rfl ?_ ?_);rfl)|((with_reducible refine stP _ rfl ?_ ?_ ?_ ?_);rfl;rfl;rfl)|(with_reducible first|refine AO (sh95.eq_1 ..) ?_|refine And.intro ?_ ?_)|(simp only [SSg,Int.reduceBEq,Int.reduceBNe,Int.reduceLT,Int.reduceLE,beq_self_eq_true,bne_self_eq_false])|(with_reducible first|refine AH (fun _=>?_) (fun _=>?_)|refine AD (fun _=>?_) (fun _=>?_))|(simp only [SSd,Nat.reduceAdd]))
 ·have e:Dk m c=(Al 141,m):=by unfold Dk;rw [if_pos (by first|(simp_all;done)|(simp_all;omega)|omega)]
  rw [e] at hk;exact Gh.to (mL b s V m (SX++F)) (Gh.done (hk.go (Ext.refl _) hF hSp (Ce ..)))
 ·have e:Dk m c=(⟨(Bk m.sp c.fSpan c.fAt c.fTxn c.fMost).2.2,BK,[],z0,(Bk m.sp c.fSpan c.fAt c.fTxn c.fMost).2.1,0⟩,m):=by unfold Dk;rw [if_neg (by first|(simp_all;done)|(simp_all;omega)|omega),if_pos (by first|(simp_all;done)|(simp_all;omega)|omega)]
  rw [e] at hk;exact Gh.to (mL b s V m (SX++F)) (Gh.done (hk.go hI1 (hF.mono hI1) (hSp.mono hI1) (Ce ..)))
 ·have e:Dk m c=(⟨0,BK,(Bk m.sp c.fSpan c.fAt c.fTxn c.fMost).1,z0,0,0⟩,{m with low:=Ar m.low c.fAt c.fTxn}):=by unfold Dk;rw [if_neg (by first|(simp_all;done)|(simp_all;omega)|omega),if_neg (by first|(simp_all;done)|(simp_all;omega)|omega)]
  rw [e] at hk;exact Gh.to (mL b s V {m with low:=Ar m.low c.fAt c.fTxn} (SX++F)) (Gh.done (hk.go hI1 {hF.mono hI1 with} (hSp.mono hI1) ⟨_,_,rfl,SlI.nil I1 1 none 0,hB1⟩))
theorem MO (hM:MOk m N)(hN:N≤10000)(hF:MF I V m)(hSp:SpR I s SX m.sp m.nt)(hc:TCmdV I c cc)(hk:PostK K b F I (QK m c).1 (QK m c).2):
  CT ω 103 #[pt b,.agg cc.toArray] K I (mL b s V m (SX++F)):=by
 have h1:=hM.vers;have h2:=GA hN;have h3:=hM.rows;obtain ⟨w0,w1,w2,w3,rfl,g0,g1,g2,g3⟩:=hc;refine AIv ?_;unfold sh103;refine AM (fun b1=>AM (fun b2=>?_));repeat' (first|(with_reducible first|refine AK ?_|refine AX ?_|refine AY ?_|refine keepA ?_|refine AM (fun _=>?_))|((with_reducible refine call ?_);refine (Au ?_))|((with_reducible refine call ?_);refine (Cal.split SX (OU (below:=c.fAt) hSp hM.sp (by omega) (by omega) (fun X1 I1 hI1 hS1=>?_))))|(with_reducible refine rdb ?_)|((with_reducible first|refine st1 ?_ ?_|refine rdB ?_ ?_);rfl)|(with_reducible refine AV ?_)|((with_reducible refine Ae ?_ ?_);rfl)|((with_reducible refine stB ?_ ?_ ?_ ?_);rfl;rfl;exact AE rfl)|((with_reducible first|refine rdP _ rfl ?_ ?_|refine Af _ rfl ?_ ?_);rfl)|((with_reducible refine stP _ rfl ?_ ?_ ?_ ?_);rfl;rfl;rfl)|(with_reducible first|refine AO (sh103.eq_1 ..) ?_|refine And.intro ?_ ?_)|(simp only [SSg,Int.reduceBEq,Int.reduceBNe,Int.reduceLT,Int.reduceLE,beq_self_eq_true,bne_self_eq_false])|(with_reducible first|refine AH (fun _=>?_) (fun _=>?_)|refine AD (fun _=>?_) (fun _=>?_))|(simp only [SSd,Nat.reduceAdd]))
 exact Gh.to (mL b s V {m with sp:=colS m.sp c.fAt,nt:=OW m.sp c.fAt m.nt} (X1++F)) (Gh.done (hk.go hI1 {hF.mono hI1 with} hS1 (Ce ..)))
abbrev AFE (m:Mch)(c:TCmd):Mch:={m with low:=Ar m.low c.fTo c.fTxn}
theorem RM {r:TRes}(h0:HB m.span c.fSpan=true)(e:BV m c=some r):Dj m c=(r,m):=by unfold Dj;rw [if_neg (by simp [h0]),e]
theorem OC (hM:MOk m N)(hN:N≤10000)(hF:MF I V m)(hSp:SpR I s SX m.sp m.nt)(hc:TCmdV I c cc)(hk:PostK K b F I (Dj m c).1 (Dj m c).2):
  CT ω 97 #[pt b,.agg cc.toArray] K I (mL b s V m (SX++F)):=by
 have h1:=hM.vers;have h2:=GA hN;have h3:=hM.rows;have hvs:∀r∈m.sp.rows,r.vs.length≤1000000000:=FV (by omega);have hc':=hc;obtain ⟨w0,w1,w2,w3,rfl,g0,g1,g2,g3⟩:=hc;have hcm:=Eg c.fTo c.fAt;have hF0:MF I V (AFE m c):={hF with};refine AJl ?_;unfold sh97;refine AM (fun b1=>AM (fun b2=>?_));repeat' (first|(with_reducible first|refine AK ?_|refine AX ?_|refine AY ?_|refine keepA ?_|refine AM (fun _=>?_))|((with_reducible refine call ?_);refine (IF b V (Ib hF (p:=c.fSpan) ⟨_,_,rfl,g2,g3⟩ ?_)))|((with_reducible refine call ?_);refine (Au ?_))|((with_reducible refine call ?_);refine (IF b V (Fp hF hc' (fun e a ha=>?_) (fun ha=>?_))))|((with_reducible refine call ?_);refine (DG (x:=c.fTo) (y:=c.fAt) ?_))|((with_reducible refine call ?_);refine (OX (sp:=m.sp) (p:=c.fSpan) (fr:=c.fAt) (to:=c.fTo) (txn:=c.fTxn) (hSp.view (fun x hx=>by simp [hx])) hM.sp.rise (by omega) hvs ⟨_,_,rfl,g2,g3⟩ ?_))|((with_reducible refine call ?_);refine (Do (k:=m.low) (a:=c.fTo) (n:=c.fTxn) ?_))|((with_reducible refine call ?_);refine (IF b V (KZ (m:=AFE m c) (e:=0) (a:=z0) (n:=0) (s':=0) hF0 hM.seen hM.seenL hc' (fun V2 hF2=>?_))))|(with_reducible refine rdb ?_)|((with_reducible first|refine st1 ?_ ?_|refine rdB ?_ ?_);rfl)|(with_reducible refine AV ?_)|((with_reducible refine Ae ?_ ?_);rfl)|((with_reducible refine stB ?_ ?_ ?_ ?_);rfl;rfl;exact AE rfl)|((with_reducible first|refine rdP _ rfl ?_ ?_|refine Af _ rfl ?_ ?_);rfl)|((with_reducible refine stP _ rfl ?_ ?_ ?_ ?_);rfl;rfl;rfl)|(with_reducible first|refine AO (sh97.eq_1 ..) ?_|refine And.intro ?_ ?_)|(simp only [SSg,Int.reduceBEq,Int.reduceBNe,Int.reduceLT,Int.reduceLE,beq_self_eq_true,bne_self_eq_false])|(with_reducible first|refine AH (fun _=>?_) (fun _=>?_)|refine AD (fun _=>?_) (fun _=>?_))|(simp only [SSd,Nat.reduceAdd]))
 ·have e:Dj m c=(Al 141,m):=by unfold Dj;rw [if_pos (by first|(simp_all;done)|(simp_all;omega)|omega)]
  rw [e] at hk;exact Gh.to (mL b s V m (SX++F)) (Gh.done (hk.go (Ext.refl _) hF hSp (Ce ..)))
 ·rename_i ho _
  rw [RM (by first|(simp_all;done)|(simp_all;omega)|omega) ha] at hk;exact Gh.to (mL b s V m (SX++F)) (Gh.done (hk.go (Ext.refl _) hF hSp (Ce ..)))
 ·rename_i ho _ e1
  have e:Dj m c=(Al 1,m):=by unfold Dj;rw [if_neg (by first|(simp_all;done)|(simp_all;omega)|omega),ha];simp only;rw [if_pos (by rw [←hcm];exact e1)]
  rw [e] at hk;exact Gh.to (mL b s V m (SX++F)) (Gh.done (hk.go (Ext.refl _) hF hSp (Ce ..)))
 ·rename_i ho _ e1 e2
  have e:Dj m c=(Al (chF m.sp c.fSpan c.fAt c.fTo c.fTxn).2,m):=by unfold Dj;rw [if_neg (by first|(simp_all;done)|(simp_all;omega)|omega),ha];simp only;rw [if_neg (by rw [←hcm,e1];simp),if_pos (by simpa using e2)]
  rw [e] at hk;exact Gh.to (mL b s V m (SX++F)) (Gh.done (hk.go (Ext.refl _) hF hSp (Ce ..)))
 ·rename_i ho _ e1 e2 e3
  have e:Dj m c=(Al 144,m):=by unfold Dj;rw [if_neg (by first|(simp_all;done)|(simp_all;omega)|omega),ha];simp only;rw [if_neg (by rw [←hcm,e1];simp),if_neg (by simpa using e2),if_pos e3]
  rw [e] at hk;exact Gh.to (mL b s V m (SX++F)) (Gh.done (hk.go (Ext.refl _) hF hSp (Ce ..)))
 ·rename_i ho _ e1 e2 e3
  have e:Dj m c=(okR,DD (AFE m c) c 0 z0):=by unfold Dj;rw [if_neg (by first|(simp_all;done)|(simp_all;omega)|omega),ha];simp only;rw [if_neg (by rw [←hcm,e1];simp),if_neg (by simpa using e2),if_neg (by rw [e3];simp)]
  rw [e] at hk;exact Gh.to (mL b s V2 (DD (AFE m c) c 0 z0) (SX++F)) (Gh.done (hk.go (Ext.refl _) hF2 (by rw [(Gg ..).1,(Gg ..).2];exact hSp) (Ce ..)))
theorem Ks {r:TRes}(h0:inB m.span c.fKey=true)(e:BV m c=some r):CP m c=(r,m):=by unfold CP;rw [if_neg (by simp [h0]),e]
theorem AEz (h0:inB m.span c.fKey=true)(e:BV m c=none)(h:(BU m c).2≠0):CP m c=(Al (BU m c).2,m):=by unfold CP;rw [if_neg (by simp [h0]),e];simp only;rw [if_pos h]
theorem ABH {W:TStamp}(h0:inB m.span c.fKey=true)(e:BV m c=none)(h:BU m c=(W,0))(h2:(Am m.low W c.fTxn).2≠0):CP m c=(Al (Am m.low W c.fTxn).2,m):=by
 unfold CP;rw [if_neg (by simp [h0]),e];simp only;rw [h,if_neg (by simp),if_pos h2]
abbrev Mr (m:Mch)(c:TCmd)(W:TStamp):Mch:={m with sp:=CL m.sp (Av c (Am m.low W c.fTxn).1),nt:=Ek m.sp (Av c (Am m.low W c.fTxn).1) m.nt}
theorem PV {W:TStamp}(h0:inB m.span c.fKey=true)(e:BV m c=none)(h:BU m c=(W,0))(h2:(Am m.low W c.fTxn).2=0):CP m c=
  (⟨(Az m.sp (Av c (Am m.low W c.fTxn).1)).2.2,BK,[],(Az m.sp (Av c (Am m.low W c.fTxn).1)).1,(Az m.sp (Av c (Am m.low W c.fTxn).1)).2.1,0⟩,
   if (Az m.sp (Av c (Am m.low W c.fTxn).1)).2.2=0 then DD (Mr m c W) c (Az m.sp (Av c (Am m.low W c.fTxn).1)).2.2 (Az m.sp (Av c (Am m.low W c.fTxn).1)).1 else Mr m c W):=by
 unfold CP;rw [if_neg (by simp [h0]),e];simp only;rw [h,if_neg (by simp),if_neg (by simp [h2])];congr 1
 split
 ·rename_i h3;rw [h3]
 ·rfl
theorem Le (SX:LH){R:LH}[h:SplitL SX L R]{B:M→M}(hB:B (Stay I R) I L):Ac B I L:=draw _ ⟨Ext.refl I,fun x hx=>h.perm.mem_iff.2 (List.mem_append_right _ hx)⟩ hB
theorem Mt {p8 : Value} {W : TStamp} {bk bw bo b2 b1 : Nat} {ok oo : Obj} {w0 w1 w2 w3 : Value} (hM : MOk m N) (hN : N ≤ 10000) (hF : MF I V m) (hSp : SpR I s SX m.sp m.nt) (g0 : Bytes I w0 c.fKey) (g1 : Bytes I w1 c.fValue) (g2 : Bytes I w2 c.fSpan.fFrom) (g3 : Bytes I w3 c.fSpan.fTo)
    (hi : inB m.span c.fKey = true) (ha : BV m c = none) (hW : BU m c = (W, 0)) (hk : PostK K b F I (CP m c).1 (CP m c).2) :
    sh96_1 ω (pt b) (pt b1) (pt b2) (pt bw) p8 (fun v => Gh (K v)) I ((bk, ok) :: (bw, .cells #[.int .i64 W.fWall, .int .i64 W.fLogic] 41 (0, 0)) :: (bo, oo) :: mL b s V m
      ((b2, .cells #[.int .i64 0, .bool false, .slice none 0 0, .int .i64 0, .int .i64 0, .int .i64 0, .slice none 0 0, .int .i64 0, .int .i64 0, .int .i64 0, .int .i64 0] 52 (0, 0)) ::
      (b1, .cells #[.int .i64 c.fKind, .int .i64 c.fTxn, .int .i64 c.fSeq, .int .i64 c.fAt.fWall, .int .i64 c.fAt.fLogic, .int .i64 c.fTo.fWall, .int .i64 c.fTo.fLogic, .int .i64 c.fBy, .bool c.fYes, .bool c.fDel, w0, w1, w2, w3, .int .i64 c.fMost] 56 (0, 0)) :: (SX ++ F))) := by
  have h1 := hM.vers
  have h2 := GA hN
  have h3 := hM.rows
  have hvs : ∀ r ∈ m.sp.rows, r.vs.length ≤ 100000000 := FV (by omega)
  have hF0 : ∀ W I', Ext I I' → MF I' V (Mr m c W) := fun W I' hI => { hF.mono hI with }
  have hc' : TCmdV I c _ := ⟨w0, w1, w2, w3, rfl, g0, g1, g2, g3⟩
  obtain ⟨wa0, wc0, rfl⟩ := Bytes.form g0
  obtain ⟨wa1, wc1, rfl⟩ := Bytes.form g1
  repeat' (first | (with_reducible first | refine Le SX ?_ | refine AX ?_ | refine AY ?_ | refine keepA ?_ | refine AM (fun _ => ?_)) | ((with_reducible refine call ?_); refine (Au ?_)) | ((with_reducible refine call ?_); refine (LE (k := m.low) (w := W) (n := c.fTxn) ?_)) | ((with_reducible refine call ?_); refine (Cal.split SX (ABG (x := Av c (Am m.low W c.fTxn).1) hSp hM.sp (by omega) hvs ⟨_, _, rfl, g0, g1⟩ (fun X1 I1 hI1 hS1 => ?_)))) | ((with_reducible refine call ?_); refine (IF b V (KZ (m := Mr m c W) (e := (Az m.sp (Av c (Am m.low W c.fTxn).1)).2.2) (a := (Az m.sp (Av c (Am m.low W c.fTxn).1)).1) (n := (Az m.sp (Av c (Am m.low W c.fTxn).1)).2.1) (s' := 0) (hF0 W I1 hI1) hM.seen hM.seenL (hc'.mono hI1) (fun V2 hF2 => ?_)))) | (with_reducible refine rdb ?_) | ((with_reducible first | refine st1 ?_ ?_ | refine rdB ?_ ?_); rfl) | (with_reducible refine AV ?_) | ((with_reducible refine Ae ?_ ?_); rfl) | ((with_reducible refine stB ?_ ?_ ?_ ?_); rfl; rfl; exact AE rfl) | ((with_reducible first | refine rdP _ rfl ?_ ?_ | refine Af _ rfl ?_ ?_); rfl) | ((with_reducible refine stP _ rfl ?_ ?_ ?_ ?_); rfl; rfl; rfl) | (with_reducible first | refine AO (sh96_3.eq_1 ..) ?_ | refine AO (sh96_2.eq_1 ..) ?_ | refine AO (sh96_1.eq_1 ..) ?_ | refine AO (sh96.eq_1 ..) ?_ | refine And.intro ?_ ?_) | (simp only [SSg, Int.reduceBEq, Int.reduceBNe, Int.reduceLT, Int.reduceLE, beq_self_eq_true, bne_self_eq_false]) | (with_reducible first | refine AH (fun _ => ?_) (fun _ => ?_) | refine AD (fun _ => ?_) (fun _ => ?_)) | (simp only [SSd, Nat.reduceAdd]))
  all_goals first
    | (rw [ABH hi ha hW (by first | (simp_all; done) | (simp_all; omega) | omega)] at hk
       exact Gh.to (mL b s V m (SX ++ F)) (Gh.done (hk.go (Ext.refl _) hF hSp (Ce ..))))
    | (rw [PV hi ha hW (by first | (simp_all; done) | (simp_all; omega) | omega), if_pos (by first | (simp_all; done) | (simp_all; omega) | omega)] at hk
       exact Gh.to (mL b s V2 (DD (Mr m c W) c (Az m.sp (Av c (Am m.low W c.fTxn).1)).2.2 (Az m.sp (Av c (Am m.low W c.fTxn).1)).1) (X1 ++ F)) (Gh.done (hk.go hI1 hF2 (by rw [(Gg ..).1, (Gg ..).2]; exact hS1) (Ce ..))))
    | (rw [PV hi ha hW (by first | (simp_all; done) | (simp_all; omega) | omega), if_neg (by first | (simp_all; done) | (simp_all; omega) | omega)] at hk
       exact Gh.to (mL b s V (Mr m c W) (X1 ++ F)) (Gh.done (hk.go hI1 (hF0 W I1 hI1) hS1 (Ce ..))))
    | trace_state
theorem VF (hM:MOk m N)(hN:N≤10000)(hF:MF I V m)(hSp:SpR I s SX m.sp m.nt)(hc:TCmdV I c cc)(hk:PostK K b F I (CP m c).1 (CP m c).2):
  CT ω 96 #[pt b,.agg cc.toArray] K I (mL b s V m (SX++F)):=by
 have hc':=hc;obtain ⟨w0,w1,w2,w3,rfl,g0,g1,g2,g3⟩:=hc;refine AJm ?_;unfold sh96;refine AM (fun b1=>AM (fun b2=>?_));have hl:Bb mv m.marks c.fKey=(lkA m.marks c.fKey).map mv:=rfl;have hl1:BU m c=match lkA m.marks c.fKey with|some k=>Am k c.fAt c.fTxn|none=>(c.fAt,0):=rfl
 rcases hx:lkA m.marks c.fKey with _|x
 all_goals rw [hx] at hl hl1
 all_goals simp only [Option.map_none,Option.map_some] at hl hl1
 ·repeat' (first|(with_reducible first|refine AK ?_|refine AX ?_|refine AY ?_|refine keepA ?_|refine AM (fun _=>?_)|refine Mt (W:=c.fAt) hM hN hF hSp g0 g1 g2 g3 ?_ ha hl1 hk)|((with_reducible refine call ?_);refine (EA (p:=m.span) ⟨_,_,rfl,hF.f0,hF.f1⟩ g0 ?_))|((with_reducible refine call ?_);refine (Au ?_))|((with_reducible refine call ?_);refine (IF b V (Fp hF hc' (fun e a ha=>?_) (fun ha=>?_))))|(with_reducible refine BS g0 (Ext.refl _) ?_)|((with_reducible refine ABY hF.mks ?_);simp only [hl,lkV,if_true,if_false,Bool.false_eq_true])|(with_reducible refine rdb ?_)|((with_reducible first|refine st1 ?_ ?_|refine rdB ?_ ?_);rfl)|(with_reducible refine AV ?_)|((with_reducible refine Ae ?_ ?_);rfl)|((with_reducible refine stB ?_ ?_ ?_ ?_);rfl;rfl;exact AE rfl)|((with_reducible first|refine rdP _ rfl ?_ ?_|refine Af _ rfl ?_ ?_);rfl)|((with_reducible refine stP _ rfl ?_ ?_ ?_ ?_);rfl;rfl;rfl)|(with_reducible first|refine AO (sh96_3.eq_1 ..) ?_|refine AO (sh96_2.eq_1 ..) ?_|refine AO (sh96_1.eq_1 ..) ?_|refine AO (sh96.eq_1 ..) ?_|refine And.intro ?_ ?_)|(simp only [SSg,Int.reduceBEq,Int.reduceBNe,Int.reduceLT,Int.reduceLE,beq_self_eq_true,bne_self_eq_false])|(with_reducible first|refine AH (fun _=>?_) (fun _=>?_)|refine AD (fun _=>?_) (fun _=>?_))|(simp only [SSd,Nat.reduceAdd]))
  ·have e1:CP m c=(Al 141,m):=by unfold CP;rw [if_pos (by first|(simp_all;done)|(simp_all;omega)|omega)]
   rw [e1] at hk;exact Gh.to (mL b s V m (SX++F)) (Gh.done (hk.go (Ext.refl _) hF hSp (Ce ..)))
  ·rw [Ks (by first|(simp_all;done)|(simp_all;omega)|omega) ha] at hk;exact Gh.to (mL b s V m (SX++F)) (Gh.done (hk.go (Ext.refl _) hF hSp (Ce ..)))
  ·rename_i hi _ _ _;simpa using hi
 ·have hl2:(Am x c.fAt c.fTxn).2=0→BU m c=((Am x c.fAt c.fTxn).1,0):=fun h=>by rw [hl1,←h]
  repeat' (first|(with_reducible first|refine AK ?_|refine AX ?_|refine AY ?_|refine keepA ?_|refine AM (fun _=>?_)|refine Mt (W:=(Am x c.fAt c.fTxn).1) hM hN hF hSp g0 g1 g2 g3 ?_ ha ?_ hk)|((with_reducible refine call ?_);refine (EA (p:=m.span) ⟨_,_,rfl,hF.f0,hF.f1⟩ g0 ?_))|((with_reducible refine call ?_);refine (Au ?_))|((with_reducible refine call ?_);refine (IF b V (Fp hF hc' (fun e a ha=>?_) (fun ha=>?_))))|(with_reducible refine BS g0 (Ext.refl _) ?_)|((with_reducible refine ABY hF.mks ?_);simp only [hl,lkV,if_true,if_false,Bool.false_eq_true])|((with_reducible refine call ?_);refine (LE (k:=x) (w:=c.fAt) (n:=c.fTxn) ?_))|(with_reducible refine rdb ?_)|((with_reducible first|refine st1 ?_ ?_|refine rdB ?_ ?_);rfl)|(with_reducible refine AV ?_)|((with_reducible refine Ae ?_ ?_);rfl)|((with_reducible refine stB ?_ ?_ ?_ ?_);rfl;rfl;exact AE rfl)|((with_reducible first|refine rdP _ rfl ?_ ?_|refine Af _ rfl ?_ ?_);rfl)|((with_reducible refine stP _ rfl ?_ ?_ ?_ ?_);rfl;rfl;rfl)|(with_reducible first|refine AO (sh96_3.eq_1 ..) ?_|refine AO (sh96_2.eq_1 ..) ?_|refine AO (sh96_1.eq_1 ..) ?_|refine AO (sh96.eq_1 ..) ?_|refine And.intro ?_ ?_)|(simp only [SSg,Int.reduceBEq,Int.reduceBNe,Int.reduceLT,Int.reduceLE,beq_self_eq_true,bne_self_eq_false])|(with_reducible first|refine AH (fun _=>?_) (fun _=>?_)|refine AD (fun _=>?_) (fun _=>?_))|(simp only [SSd,Nat.reduceAdd]))
  ·have e1:CP m c=(Al 141,m):=by unfold CP;rw [if_pos (by first|(simp_all;done)|(simp_all;omega)|omega)]
   rw [e1] at hk;exact Gh.to (mL b s V m (SX++F)) (Gh.done (hk.go (Ext.refl _) hF hSp (Ce ..)))
  ·rw [Ks (by first|(simp_all;done)|(simp_all;omega)|omega) ha] at hk;exact Gh.to (mL b s V m (SX++F)) (Gh.done (hk.go (Ext.refl _) hF hSp (Ce ..)))
  ·rename_i hi _ _ _ hn
   rw [AEz (by simpa using hi) ha (by rw [hl1];simpa using hn),hl1] at hk;exact Gh.to (mL b s V m (SX++F)) (Gh.done (hk.go (Ext.refl _) hF hSp (Ce ..)))
  ·rename_i hi _ _ _ hn;simpa using hi
  ·rename_i hi _ _ _ hn;exact hl2 (by simpa using hn)
theorem VB {x:TIntent}{l:List TIntent}{sp:Sp}{nt:Nts}(h:¬(x.fTxn≠c.fTxn∨inB c.fSpan x.fKey=false))(h2:(DU sp x.fKey c.fTxn c.fYes c.fAt).2=0):
  Cy c (x::l) sp nt=Cy c l (Dl sp x.fKey c.fTxn c.fYes c.fAt) (HL sp x.fKey c.fTxn c.fYes c.fAt nt):=by
 show (if x.fTxn≠c.fTxn∨inB c.fSpan x.fKey=false then _ else _)=_;rw [if_neg h,if_neg (by simp [h2])]
theorem Mn {x:TIntent}{l:List TIntent}{sp:Sp}{nt:Nts}(h:x.fTxn≠c.fTxn∨inB c.fSpan x.fKey=false):Cy c (x::l) sp nt=Cy c l sp nt:=if_pos h
theorem AAz {x:TIntent}{l:List TIntent}{sp:Sp}{nt:Nts}(h:¬(x.fTxn≠c.fTxn∨inB c.fSpan x.fKey=false))(h2:(DU sp x.fKey c.fTxn c.fYes c.fAt).2≠0):
  Cy c (x::l) sp nt=((DU sp x.fKey c.fTxn c.fYes c.fAt).2,Dl sp x.fKey c.fTxn c.fYes c.fAt,HL sp x.fKey c.fTxn c.fYes c.fAt nt):=by
 show (if x.fTxn≠c.fTxn∨inB c.fSpan x.fKey=false then _ else _)=_;rw [if_neg h,if_pos h2]
abbrev AAy (m:Mch)(sp:Sp)(nt:Nts):Mch:={m with sp:=sp,nt:=nt}
abbrev EU:Obj:=.cells #[.int .i64 0,.bool false,.slice none 0 0,.int .i64 0,.int .i64 0,.int .i64 0,.slice none 0 0,.int .i64 0,.int .i64 0,.int .i64 0,.int .i64 0] 52 (0,0)
abbrev Dr (c:TCmd)(w0 w1 w2 w3:Value):Obj:=.cells #[.int .i64 c.fKind,.int .i64 c.fTxn,.int .i64 c.fSeq,.int .i64 c.fAt.fWall,.int .i64 c.fAt.fLogic,.int .i64 c.fTo.fWall,.int .i64 c.fTo.fLogic,.int .i64 c.fBy,.bool c.fYes,.bool c.fDel,w0,w1,w2,w3,.int .i64 c.fMost] 56 (0,0)
theorem MG (hM:MOk m N)(hN:N≤5000)(hF:MF I V m)(hSp:SpR I s SX m.sp m.nt)(hc:TCmdV I c cc)(hk:PostK K b F I (EV m c).1 (EV m c).2):
  CT ω 102 #[pt b,.agg cc.toArray] K I (mL b s V m (SX++F)):=by
 have h1:=hM.vers;have h2:N * N≤25000000:=Nat.mul_le_mul hN hN;have h3:=hM.rows;obtain ⟨w0,w1,w2,w3,rfl,g0,g1,g2,g3⟩:=hc;refine AIw ?_;unfold sh102;refine AM (fun b1=>AM (fun b2=>?_));try simp only [SSd,Nat.reduceAdd]
 refine rdP _ rfl rfl ?_;refine call (IF b V (Ib hF (p:=c.fSpan) ⟨_,_,rfl,g2,g3⟩ ?_));try simp only [SSd,Nat.reduceAdd]
 refine AD (fun e=>?_) (fun e=>?_)
 ·have e1:EV m c=(Al 141,m):=by unfold EV;rw [if_pos (by first|(simp_all;done)|(simp_all;omega)|omega)]
  rw [e1] at hk;repeat' (first|(with_reducible first|refine AK ?_|refine AX ?_|refine AY ?_|refine keepA ?_|refine AM (fun _=>?_))|((with_reducible refine call ?_);refine (Au ?_))|(with_reducible refine rdb ?_)|((with_reducible first|refine st1 ?_ ?_|refine rdB ?_ ?_);rfl)|(with_reducible refine AV ?_)|((with_reducible refine Ae ?_ ?_);rfl)|((with_reducible refine stB ?_ ?_ ?_ ?_);rfl;rfl;exact AE rfl)|((with_reducible first|refine rdP _ rfl ?_ ?_|refine Af _ rfl ?_ ?_);rfl)|((with_reducible refine stP _ rfl ?_ ?_ ?_ ?_);rfl;rfl;rfl)|(with_reducible first|refine AO (sh102_3.eq_1 ..) ?_|refine AO (sh102_4.eq_1 ..) ?_|refine AO (sh102_6.eq_1 ..) ?_|refine AO (sh102_1.eq_1 ..) ?_|refine AO (sh102.eq_1 ..) ?_|refine And.intro ?_ ?_)|(simp only [SSg,Int.reduceBEq,Int.reduceBNe,Int.reduceLT,Int.reduceLE,beq_self_eq_true,bne_self_eq_false])|(with_reducible first|refine AH (fun _=>?_) (fun _=>?_)|refine AD (fun _=>?_) (fun _=>?_))|(simp only [SSd,Nat.reduceAdd]))
  exact Gh.to (mL b s V m (SX++F)) (Gh.done (hk.go (Ext.refl _) hF hSp (Ce ..)))
 have ho:HB m.span c.fSpan=true:=by simpa using e
 have e1:EV m c=(Al (Cy c (intsOf m.sp.rows) m.sp m.nt).1,AAy m (Cy c (intsOf m.sp.rows) m.sp m.nt).2.1 (Cy c (intsOf m.sp.rows) m.sp m.nt).2.2):=by unfold EV;rw [if_neg (by simp [ho])]
 rw [e1] at hk;try simp only [SSd,Nat.reduceAdd]
 refine rdb ?_;refine call (Hy (sp:=m.sp) (hSp.view (fun x hx=>by simp [hx])) hM.sp.rise (by omega) (fun I1 iv hI1 hIv=>?_));have hil:=Hx m.sp.rows;generalize intsOf m.sp.rows=its at *;simp only [RL.len hIv,SSd,Nat.reduceAdd];refine loop (fun n' (s':Value×Unit) I' L'=>∃(i:Nat) (sp':Sp) (nt':Nts) (X':LH),n'+i=its.length∧s'=(.int .i64 i,())∧Ext I1 I'∧SpR I' s X' sp' nt'∧SpOk sp'∧sp'.rows.length≤m.sp.rows.length∧Ah sp'.rows≤Ah m.sp.rows+i∧
  Cy c its m.sp m.nt=Cy c (its.drop i) sp' nt'∧L'=mL b s V m ((b2,EU)::
   (b1,Dr c w0 w1 w2 w3)::(X'++F)))
  its.length ⟨0,m.sp,m.nt,SX,rfl,rfl,Ext.refl _,hSp.mono hI1,hM.sp,Nat.le_refl _,Nat.le_refl _,rfl,rfl⟩ ?_
 rintro n' s' I' L' ⟨i,sp',nt',X',hn,rfl,hI',hS',hok,hrl,hvl,hre,rfl⟩;unfold sh102_1;try simp only [SSd,Nat.reduceAdd]
 refine AD (fun e2=>?_) (fun e2=>?_)
 ·have hi:i < its.length:=by simpa using e2
  obtain ⟨bx,off,cx,hix,hcl,hcx,hcc⟩:=RL.ix hIv (i:=(i:Int)) (by omega) (by omega);rw [Ab hi] at hcx;have hdrop:its.drop i=its[i]::its.drop (i+1):=List.drop_eq_getElem_cons hi;generalize its[i]=x at *;obtain ⟨x0,x1,rfl,k0,k1⟩:=hcx;obtain ⟨xa0,xc0,rfl⟩:=Bytes.form k0;obtain ⟨xa1,xc1,rfl⟩:=Bytes.form k1;have w64:IntKind.i64.wrap ((i:Int)+1)=((i+1:Nat):Int):=by rw [wrap_i64 _ (by omega)];rfl
  simp only [hix,SSd,Nat.reduceAdd];refine rdN hcl (hcc I' _ hI' (fun x hx=>by cases hx)) ?_;repeat' (first|(with_reducible first|refine Le X' ?_|refine AX ?_|refine AY ?_|refine keepA ?_|refine AM (fun _=>?_))|((with_reducible refine call ?_);refine (EA (p:=c.fSpan) ⟨_,_,rfl,(g2.mono hI1).mono hI',(g3.mono hI1).mono hI'⟩ (k0.mono hI') ?_))|((with_reducible refine call ?_);refine (Au ?_))|((with_reducible refine call ?_);refine (Cal.split X' (Nx (k:=x.fKey) (txn:=c.fTxn) (yes:=c.fYes) (a:=c.fAt) hS' hok (by omega) (FV (by omega)) (k0.mono hI') (fun X2 I2 hI2 hS2=>?_))))|(with_reducible refine rdb ?_)|((with_reducible first|refine st1 ?_ ?_|refine rdB ?_ ?_);rfl)|(with_reducible refine AV ?_)|((with_reducible refine Ae ?_ ?_);rfl)|((with_reducible refine stB ?_ ?_ ?_ ?_);rfl;rfl;exact AE rfl)|((with_reducible first|refine rdP _ rfl ?_ ?_|refine Af _ rfl ?_ ?_);rfl)|((with_reducible refine stP _ rfl ?_ ?_ ?_ ?_);rfl;rfl;rfl)|(with_reducible first|refine AO (sh102_3.eq_1 ..) ?_|refine AO (sh102_4.eq_1 ..) ?_|refine AO (sh102_6.eq_1 ..) ?_|refine AO (sh102_1.eq_1 ..) ?_|refine AO (sh102.eq_1 ..) ?_|refine And.intro ?_ ?_)|(simp only [SSg,Int.reduceBEq,Int.reduceBNe,Int.reduceLT,Int.reduceLE,beq_self_eq_true,bne_self_eq_false])|(with_reducible first|refine AH (fun _=>?_) (fun _=>?_)|refine AD (fun _=>?_) (fun _=>?_))|(simp only [SSd,Nat.reduceAdd]))
  ·rename_i q1 q2
   rw [w64];refine Gh.to (mL b s V m ((b2,EU)::(b1,Dr c w0 w1 w2 w3)::(X'++F))) (Gh.done ⟨n' - 1,by omega,i+1,sp',nt',X',by omega,rfl,hI',hS',hok,hrl,by omega,?_,rfl⟩);rw [hre,hdrop,Mn (.inr (by first|(simp_all;done)|(simp_all;omega)|omega))]
  ·rename_i q1 q2 q3
   have hq:¬(x.fTxn≠c.fTxn∨inB c.fSpan x.fKey=false):=by simp at q1 q2;simp [q1,q2]
   rw [hre,hdrop,AAz hq (by simpa using q3)] at hk;exact Gh.to (mL b s V (AAy m (Dl sp' x.fKey c.fTxn c.fYes c.fAt) (HL sp' x.fKey c.fTxn c.fYes c.fAt nt')) (X2++F)) (Gh.done (hk.go (hI1.trans (hI'.trans hI2)) {hF.mono (hI1.trans (hI'.trans hI2)) with} hS2 (Ce ..)))
  ·rename_i q1 q2 q3
   have hq:¬(x.fTxn≠c.fTxn∨inB c.fSpan x.fKey=false):=by simp at q1 q2;simp [q1,q2]
   have hlen:=Ny (k:=x.fKey) (txn:=c.fTxn) (yes:=c.fYes) (a:=c.fAt) hok;rw [w64];refine Gh.to (mL b s V m ((b2,EU)::(b1,Dr c w0 w1 w2 w3)::(X2++F))) (Gh.done ⟨n' - 1,by omega,i+1,_,_,X2,by omega,rfl,hI'.trans hI2,hS2,hok.res,by omega,by omega,?_,rfl⟩);rw [hre,hdrop,VB hq (by simpa using q3)]
  ·rename_i q1
   rw [w64];refine Gh.to (mL b s V m ((b2,EU)::(b1,Dr c w0 w1 w2 w3)::(X'++F))) (Gh.done ⟨n' - 1,by omega,i+1,sp',nt',X',by omega,rfl,hI',hS',hok,hrl,by omega,?_,rfl⟩);rw [hre,hdrop,Mn (.inl (by simpa using q1))]
 ·have hi:i=its.length:=by simp at e2;omega
  rw [hre,hi,List.drop_length] at hk;repeat' (first|(with_reducible first|refine AK ?_|refine AX ?_|refine AY ?_|refine keepA ?_|refine AM (fun _=>?_)|refine rdb ?_)|((with_reducible first|refine st1 ?_ ?_|refine rdB ?_ ?_);rfl)|(with_reducible refine AV ?_)|((with_reducible refine Ae ?_ ?_);rfl)|((with_reducible refine stB ?_ ?_ ?_ ?_);rfl;rfl;exact AE rfl)|((with_reducible first|refine rdP _ rfl ?_ ?_|refine Af _ rfl ?_ ?_);rfl)|((with_reducible refine stP _ rfl ?_ ?_ ?_ ?_);rfl;rfl;rfl)|(with_reducible first|refine AO (sh102_3.eq_1 ..) ?_|refine AO (sh102_4.eq_1 ..) ?_|refine AO (sh102_6.eq_1 ..) ?_|refine AO (sh102_1.eq_1 ..) ?_|refine AO (sh102.eq_1 ..) ?_|refine And.intro ?_ ?_)|(simp only [SSg,Int.reduceBEq,Int.reduceBNe,Int.reduceLT,Int.reduceLE,beq_self_eq_true,bne_self_eq_false])|(with_reducible first|refine AH (fun _=>?_) (fun _=>?_)|refine AD (fun _=>?_) (fun _=>?_))|(simp only [SSd,Nat.reduceAdd]))
  exact Gh.to (mL b s V (AAy m sp' nt') (X'++F)) (Gh.done (hk.go (hI1.trans hI') {hF.mono (hI1.trans hI') with} hS' (Ce ..)))
end
def HP (c:TCmd):Bool:=c.fSeq==0&&(c.fBy==0&&(c.fMost==0&&((c.fTo.fWall==0&&c.fTo.fLogic==0)&&(!c.fYes&&(!c.fDel&&(c.fKey.length==0&&(c.fValue.length==0&&(c.fSpan.fFrom.length==0&&c.fSpan.fTo.length==0))))))))
theorem ALA {a b c d:Nat}(ha:a≤140737488355328)(hb:b≤140737488355328)(hc:c≤140737488355328)(hd:d≤140737488355328):
  IntKind.i64.wrap (IntKind.i64.wrap (IntKind.i64.wrap (IntKind.i64.wrap ((a:Int))+b)+c)+d)=(a:Int)+b+c+d:=by
 rw [wrap_i64 (a:Int) (by omega),wrap_i64 ((a:Int)+b) (by omega),wrap_i64 ((a:Int)+b+c) (by omega),wrap_i64 ((a:Int)+b+c+d) (by omega)]
structure Lens (c:TCmd):Prop where
 k:c.fKey.length≤140737488355328
 v:c.fValue.length≤140737488355328
 f:c.fSpan.fFrom.length≤140737488355328
 t:c.fSpan.fTo.length≤140737488355328
section
variable {ω:Om}{I:Imm}{L:LH}{K:Value→M}
theorem Ro {c:TCmd}{cc:List Value}(hc:TCmdV I c cc)(hL:Lens c)(hk:K (.bool (HP c)) I L):CT ω 92 #[.agg cc.toArray] K I L:=by
 obtain ⟨w0,w1,w2,w3,rfl,g0,g1,g2,g3⟩:=hc;have hl:=ALA hL.k hL.v hL.f hL.t;refine AJq ?_;unfold sh92;by_cases hz:c.fSeq=0∧c.fBy=0∧c.fMost=0
 ·obtain ⟨z1,z2,z3⟩:=hz;have hl2:IntKind.i64.wrap (IntKind.i64.wrap (IntKind.i64.wrap (IntKind.i64.wrap (IntKind.i64.wrap (IntKind.i64.wrap ((0:Int)+0)+0)+c.fKey.length)+c.fValue.length)+c.fSpan.fFrom.length)+c.fSpan.fTo.length)=(c.fKey.length:Int)+c.fValue.length+c.fSpan.fFrom.length+c.fSpan.fTo.length:=by
   rw [show IntKind.i64.wrap ((0:Int)+0)=0 from rfl,show IntKind.i64.wrap ((0:Int)+0)=0 from rfl,Int.zero_add,hl]
  have he:HP c=(((c.fKey.length:Int)+c.fValue.length+c.fSpan.fFrom.length+c.fSpan.fTo.length==0)&&((c.fTo.fWall==0&&c.fTo.fLogic==0)&&(!c.fYes&& !c.fDel))):=by
   unfold HP;rw [z1,z2,z3,Bool.eq_iff_iff];have e4:((c.fKey.length:Int)+c.fValue.length+c.fSpan.fFrom.length+c.fSpan.fTo.length=0)↔(c.fKey.length=0∧c.fValue.length=0∧c.fSpan.fFrom.length=0∧c.fSpan.fTo.length=0):=by omega
   simp only [Bool.and_eq_true,beq_iff_eq,Bool.not_eq_true',beq_self_eq_true,true_and,e4];constructor
   ·rintro ⟨a1,a2,a3,a4,a5,a6,a7⟩;exact ⟨⟨a4,a5,a6,a7⟩,a1,a2,a3⟩
   ·rintro ⟨⟨a4,a5,a6,a7⟩,a1,a2,a3⟩;exact ⟨a1,a2,a3,a4,a5,a6,a7⟩
  rw [he] at hk;repeat' (first|(with_reducible first|refine AK ?_|refine AX ?_|refine AY ?_|refine keepA ?_|refine AM (fun _=>?_)|refine rdb ?_)|((with_reducible first|refine st1 ?_ ?_|refine rdB ?_ ?_);rfl)|(with_reducible refine AV ?_)|((with_reducible refine Ae ?_ ?_);rfl)|((with_reducible refine stB ?_ ?_ ?_ ?_);rfl;rfl;exact AE rfl)|((with_reducible first|refine rdP _ rfl ?_ ?_|refine Af _ rfl ?_ ?_);rfl)|((with_reducible refine stP _ rfl ?_ ?_ ?_ ?_);rfl;rfl;rfl)|(with_reducible first|refine AO (sh92.eq_1 ..) ?_|refine And.intro ?_ ?_)|(simp only [SSg,Int.reduceBEq,Int.reduceBNe,Int.reduceLT,Int.reduceLE,beq_self_eq_true,bne_self_eq_false])|(with_reducible first|refine AH (fun _=>?_) (fun _=>?_)|refine AD (fun _=>?_) (fun _=>?_))|(simp only [SSd,Nat.reduceAdd,z1,z2,z3,hl2,Bytes.len g0,Bytes.len g1,Bytes.len g2,Bytes.len g3]))
  all_goals (refine Gh.to L (Gh.done (Bz hk ?_));simp_all)
 ·have he:HP c=false:=by
   unfold HP;rw [Bool.eq_false_iff];intro h;simp only [Bool.and_eq_true,beq_iff_eq] at h;exact hz ⟨h.1,h.2.1,h.2.2.1⟩
  rw [he] at hk;repeat' (first|(with_reducible first|refine AK ?_|refine AX ?_|refine AY ?_|refine keepA ?_|refine AM (fun _=>?_)|refine rdb ?_)|((with_reducible first|refine st1 ?_ ?_|refine rdB ?_ ?_);rfl)|(with_reducible refine AV ?_)|((with_reducible refine Ae ?_ ?_);rfl)|((with_reducible refine stB ?_ ?_ ?_ ?_);rfl;rfl;exact AE rfl)|((with_reducible first|refine rdP _ rfl ?_ ?_|refine Af _ rfl ?_ ?_);rfl)|((with_reducible refine stP _ rfl ?_ ?_ ?_ ?_);rfl;rfl;rfl)|(with_reducible first|refine AO (sh92.eq_1 ..) ?_|refine And.intro ?_ ?_)|(simp only [SSg,Int.reduceBEq,Int.reduceBNe,Int.reduceLT,Int.reduceLE,beq_self_eq_true,bne_self_eq_false])|(with_reducible first|refine AH (fun _=>?_) (fun _=>?_)|refine AD (fun _=>?_) (fun _=>?_))|(simp only [SSd,Nat.reduceAdd,Bytes.len g0,Bytes.len g1,Bytes.len g2,Bytes.len g3]))
  all_goals (refine Gh.to L (Gh.done (Bz hk ?_));simp_all)
theorem Jf (I:Imm):Bytes I (.slice none 0 0) []:=SlI.nil I 1 none 0
theorem AGz {k t s aw al tw tl b mo:Int}{y d:Bool}{w0 w1 w2 w3:Value}{key value fr to:List UInt8}(g0:Bytes I w0 key)(g1:Bytes I w1 value)(g2:Bytes I w2 fr)(g3:Bytes I w3 to)
  (l0:key.length≤140737488355328) (l1:value.length≤140737488355328) (l2:fr.length≤140737488355328) (l3:to.length≤140737488355328)
  (hk:K (.bool (HP ⟨k,t,s,⟨aw,al⟩,⟨tw,tl⟩,b,y,d,key,value,⟨fr,to⟩,mo⟩)) I L):
  CT ω 92 #[.agg #[.int .i64 k,.int .i64 t,.int .i64 s,.int .i64 aw,.int .i64 al,.int .i64 tw,.int .i64 tl,.int .i64 b,.bool y,.bool d,w0,w1,w2,w3,.int .i64 mo]] K I L:=
 Ro (c:=⟨k,t,s,⟨aw,al⟩,⟨tw,tl⟩,b,y,d,key,value,⟨fr,to⟩,mo⟩) ⟨w0,w1,w2,w3,rfl,g0,g1,g2,g3⟩ ⟨l0,l1,l2,l3⟩ hk
set_option maxHeartbeats 2000000 in
theorem Kl {rd:Bool}{c:TCmd}{w0 w1 w2 w3:Value}{b1 b2:Nat}(g0:Bytes I w0 c.fKey)(g1:Bytes I w1 c.fValue)(g2:Bytes I w2 c.fSpan.fFrom)(g3:Bytes I w3 c.fSpan.fTo)(hL:Lens c)(hrd:Ak c.fTxn=rd)
  (hk:K (.bool (kindOk c)) I L):
  Br (.bool (c.fKind==1))
   (sh33_2 ω (pt b1) (.bool false) (.bool rd) (.bool (Bj c.fTxn)) (pt b2) (fun v=>Gh (K v)))
   (sh33_5 ω (pt b1) (.bool false) (.bool rd) (.bool (Bj c.fTxn)) (pt b2) (.int .i64 c.fKind) (fun v=>Gh (K v))) I
   ((b2,.cells #[.int .i64 0,.int .i64 0,.int .i64 c.fSeq,.int .i64 0,.int .i64 0,.int .i64 c.fTo.fWall,.int .i64 c.fTo.fLogic,.int .i64 c.fBy,.bool c.fYes,.bool c.fDel,w0,w1,w2,w3,.int .i64 c.fMost] 56 (0,0))::(b1,Dr c w0 w1 w2 w3)::L):=by
 subst hrd;have h12:c.fKind=1∨c.fKind=2∨c.fKind=3∨c.fKind=4∨c.fKind=5∨c.fKind=6∨c.fKind=7∨c.fKind=8∨c.fKind=9∨c.fKind=10∨c.fKind=11∨(c.fKind < 1∨11 < c.fKind):=by omega
 rcases h12 with hK|hK|hK|hK|hK|hK|hK|hK|hK|hK|hK|hK
 rotate_right
 ·have n1:c.fKind≠1:=by omega
  have n2:c.fKind≠2:=by omega
  have n3:c.fKind≠3:=by omega
  have n4:c.fKind≠4:=by omega
  have n5:c.fKind≠5:=by omega
  have n6:c.fKind≠6:=by omega
  have n7:c.fKind≠7:=by omega
  have n8:c.fKind≠8:=by omega
  have n9:c.fKind≠9:=by omega
  have n10:c.fKind≠10:=by omega
  have n11:c.fKind≠11:=by omega
  have hz:kindOk c=false:=by unfold kindOk;simp [n1,n2,n3,n4,n5,n6,n7,n8,n9,n10,n11]
  have beq:∀n:Int,c.fKind≠n→(c.fKind==n)=false:=fun n h=>by simpa using h
  repeat' (first|(with_reducible first|refine AK ?_|refine AX ?_|refine AY ?_|refine keepA ?_|refine AM (fun _=>?_)|refine rdb ?_)|((with_reducible first|refine st1 ?_ ?_|refine rdB ?_ ?_);rfl)|(with_reducible refine AV ?_)|((with_reducible refine Ae ?_ ?_);rfl)|((with_reducible refine stB ?_ ?_ ?_ ?_);rfl;rfl;exact AE rfl)|((with_reducible first|refine rdP _ rfl ?_ ?_|refine Af _ rfl ?_ ?_);rfl)|((with_reducible refine stP _ rfl ?_ ?_ ?_ ?_);rfl;rfl;rfl)|(with_reducible first|refine AO (sh33_4.eq_1 ..) ?_|refine AO (sh33_2.eq_1 ..) ?_|refine AO (sh33_5.eq_1 ..) ?_|refine AO (sh33.eq_1 ..) ?_|refine And.intro ?_ ?_)|(simp only [SSg,Int.reduceBEq,Int.reduceBNe,Int.reduceLT,Int.reduceLE,beq_self_eq_true,bne_self_eq_false])|(with_reducible first|refine AH (fun _=>?_) (fun _=>?_)|refine AD (fun _=>?_) (fun _=>?_))|(simp only [SSd,Nat.reduceAdd,beq _ n1,beq _ n2,beq _ n3,beq _ n4,beq _ n5,beq _ n6,beq _ n7,beq _ n8,beq _ n9,beq _ n10,beq _ n11]))
  all_goals (rw [hz] at hk;first|exact Gh.to L (Gh.done hk)|(rename_i q1 q2;simp [n1] at q1))
 all_goals repeat' (first|(with_reducible first|refine AK ?_|refine AX ?_|refine AY ?_|refine keepA ?_|refine AM (fun _=>?_))|((with_reducible refine call ?_);refine (VI g0 ?_))|((with_reducible refine call ?_);refine (Gl ?_))|((with_reducible refine call ?_);refine (AGz (by first|exact g0|exact Jf I) (by first|exact g1|exact Jf I) (by first|exact g2|exact Jf I) (by first|exact g3|exact Jf I) (by first|exact hL.k|exact Nat.zero_le _) (by first|exact hL.v|exact Nat.zero_le _) (by first|exact hL.f|exact Nat.zero_le _) (by first|exact hL.t|exact Nat.zero_le _) ?_))|(with_reducible refine rdb ?_)|((with_reducible first|refine st1 ?_ ?_|refine rdB ?_ ?_);rfl)|(with_reducible refine AV ?_)|((with_reducible refine Ae ?_ ?_);rfl)|((with_reducible refine stB ?_ ?_ ?_ ?_);rfl;rfl;exact AE rfl)|((with_reducible first|refine rdP _ rfl ?_ ?_|refine Af _ rfl ?_ ?_);rfl)|((with_reducible refine stP _ rfl ?_ ?_ ?_ ?_);rfl;rfl;rfl)|(with_reducible first|refine AO (sh33_4.eq_1 ..) ?_|refine AO (sh33_2.eq_1 ..) ?_|refine AO (sh33_5.eq_1 ..) ?_|refine AO (sh33.eq_1 ..) ?_|refine And.intro ?_ ?_)|(simp only [SSg,Int.reduceBEq,Int.reduceBNe,Int.reduceLT,Int.reduceLE,beq_self_eq_true,bne_self_eq_false])|(with_reducible first|refine AH (fun _=>?_) (fun _=>?_)|refine AD (fun _=>?_) (fun _=>?_))|(simp only [SSd,Nat.reduceAdd,hK,Bytes.len g1]))
 all_goals (refine Gh.to L (Gh.done (Bz hk ?_));simp_all [kindOk,HP,EM,CF,BI,EW,OK])
 all_goals first|done|ac_rfl|(intros;omega)|(have hv:c.fValue.length≤10000:=(by omega);simp only [hv,decide_true,Bool.true_and];ac_rfl)|trace_state
theorem RH {c:TCmd}{cc:List Value}(hc:TCmdV I c cc)(hL:Lens c)(hk:K (.bool (Ba c)) I L):CT ω 33 #[.agg cc.toArray] K I L:=by
 obtain ⟨w0,w1,w2,w3,rfl,g0,g1,g2,g3⟩:=hc;obtain ⟨y0,z0',rfl⟩:=Bytes.form g0;obtain ⟨y1,z1,rfl⟩:=Bytes.form g1;obtain ⟨y2,z2,rfl⟩:=Bytes.form g2;obtain ⟨y3,z3,rfl⟩:=Bytes.form g3;have hr:AU c.fAt=true→AU c.fTo=true→CB c.fSpan=true→¬c.fSeq < 0→¬c.fSeq > 9007199254740991→K (.bool (kindOk c)) I L:=by
  intro h1 h2 h3 h4 h5;have:Ba c=kindOk c:=by unfold Ba;simp [h1,h2,h3,show 0≤c.fSeq∧c.fSeq≤9007199254740991 by omega]
  rwa [this] at hk
 have h0:c.fTxn=0→Ak c.fTxn=true:=fun h=>by simp [Ak,h]
 have h00:c.fTxn≠0→Ak c.fTxn=Bj c.fTxn:=fun h=>by simp [Ak,h]
 refine AKV ?_;unfold sh33;refine AM (fun b1=>?_);try simp only [SSd,Nat.reduceAdd]
 refine rdP [.int .i64 c.fAt.fWall,.int .i64 c.fAt.fLogic] rfl rfl ?_;refine call (BZ (x:=c.fAt) ?_);try simp only [SSd,Nat.reduceAdd]
 refine AH (fun e1=>?_) (fun e1=>?_);rotate_left
 ·exact Gh.to L (Gh.done (Bz hk (by simp_all [Ba])))
 try simp only [SSd,Nat.reduceAdd]
 refine rdP [.int .i64 c.fTo.fWall,.int .i64 c.fTo.fLogic] rfl rfl ?_;refine call (BZ (x:=c.fTo) ?_);try simp only [SSd,Nat.reduceAdd]
 refine AH (fun e2=>?_) (fun e2=>?_);rotate_left
 ·exact Gh.to L (Gh.done (Bz hk (by simp_all [Ba])))
 try simp only [SSd,Nat.reduceAdd]
 refine rdP _ rfl rfl ?_;try simp only [SSd,Nat.reduceAdd]
 refine call (Kx (p:=c.fSpan) ⟨_,_,rfl,g2,g3⟩ ?_);try simp only [SSd,Nat.reduceAdd]
 refine AH (fun e3=>?_) (fun e3=>?_);rotate_left
 ·exact Gh.to L (Gh.done (Bz hk (by simp_all [Ba])))
 try simp only [SSd,Nat.reduceAdd]
 refine rdb ?_;try simp only [SSd,Nat.reduceAdd]
 refine AH (fun e4=>?_) (fun e4=>?_);rotate_left
 ·exact Gh.to L (Gh.done (Bz hk (by simp_all [Ba];intros;omega)))
 try simp only [SSd,Nat.reduceAdd]
 refine rdb ?_;try simp only [SSd,Nat.reduceAdd]
 refine AD (fun e5=>?_) (fun e5=>?_)
 ·exact Gh.to L (Gh.done (Bz hk (by simp_all [Ba];intros;omega)))
 have hk':=hr (by simpa using e1) (by simpa using e2) (by simpa using e3) (by simpa using e4) (by simpa using e5);clear hk hr;try simp only [SSd,Nat.reduceAdd]
 refine rdb ?_;try simp only [SSd,Nat.reduceAdd]
 refine AH (fun e6=>?_) (fun e6=>?_)
 ·refine rdb ?_;refine call (Gl ?_);repeat' (first|(with_reducible first|refine AK ?_|refine AX ?_|refine AY ?_|refine keepA ?_|refine AM (fun _=>?_)|refine Kl g0 g1 g2 g3 hL ?_ ?_)|((with_reducible refine call ?_);refine (Gl ?_))|(with_reducible refine rdb ?_)|((with_reducible first|refine st1 ?_ ?_|refine rdB ?_ ?_);rfl)|(with_reducible refine AV ?_)|((with_reducible refine Ae ?_ ?_);rfl)|((with_reducible refine stB ?_ ?_ ?_ ?_);rfl;rfl;exact AE rfl)|((with_reducible first|refine rdP _ rfl ?_ ?_|refine Af _ rfl ?_ ?_);rfl)|((with_reducible refine stP _ rfl ?_ ?_ ?_ ?_);rfl;rfl;rfl)|(with_reducible first|refine AO (sh33_4.eq_1 ..) ?_|refine AO (sh33_2.eq_1 ..) ?_|refine AO (sh33_5.eq_1 ..) ?_|refine AO (sh33.eq_1 ..) ?_|refine And.intro ?_ ?_)|(simp only [SSg,Int.reduceBEq,Int.reduceBNe,Int.reduceLT,Int.reduceLE,beq_self_eq_true,bne_self_eq_false])|(with_reducible first|refine AH (fun _=>?_) (fun _=>?_)|refine AD (fun _=>?_) (fun _=>?_))|(simp only [SSd,Nat.reduceAdd]))
  all_goals first|exact hk'|exact h00 (by simpa using e6)
 ·repeat' (first|(with_reducible first|refine AK ?_|refine AX ?_|refine AY ?_|refine keepA ?_|refine AM (fun _=>?_)|refine Kl g0 g1 g2 g3 hL ?_ ?_)|((with_reducible refine call ?_);refine (Gl ?_))|(with_reducible refine rdb ?_)|((with_reducible first|refine st1 ?_ ?_|refine rdB ?_ ?_);rfl)|(with_reducible refine AV ?_)|((with_reducible refine Ae ?_ ?_);rfl)|((with_reducible refine stB ?_ ?_ ?_ ?_);rfl;rfl;exact AE rfl)|((with_reducible first|refine rdP _ rfl ?_ ?_|refine Af _ rfl ?_ ?_);rfl)|((with_reducible refine stP _ rfl ?_ ?_ ?_ ?_);rfl;rfl;rfl)|(with_reducible first|refine AO (sh33_4.eq_1 ..) ?_|refine AO (sh33_2.eq_1 ..) ?_|refine AO (sh33_5.eq_1 ..) ?_|refine AO (sh33.eq_1 ..) ?_|refine And.intro ?_ ?_)|(simp only [SSg,Int.reduceBEq,Int.reduceBNe,Int.reduceLT,Int.reduceLE,beq_self_eq_true,bne_self_eq_false])|(with_reducible first|refine AH (fun _=>?_) (fun _=>?_)|refine AD (fun _=>?_) (fun _=>?_))|(simp only [SSd,Nat.reduceAdd]))
  all_goals first|exact hk'|exact h0 (by simpa using e6)
abbrev ABS (p:TSpan)(sp:Sp)(nt:Nts):Mch:=⟨p,sp,nt,[],mk0,[],[],0,[]⟩
theorem NE {p:TSpan}{pc:List Value}{s:Nat}(sp:Sp)(nt:Nts)(hp:TSpanV I p pc)(h1:p.fFrom.length≤140737488355328)(h2:p.fTo.length≤140737488355328)
  (hk:∀b V I',Ext I I'→MF I' V (ABS p sp nt)→K (pt b) I' (mL b s V (ABS p sp nt) L)):
  CT ω 31 #[.agg pc.toArray,pt s] K I L:=by
 obtain ⟨v0,v1,rfl,g0,g1⟩:=hp;refine AKX ?_;unfold sh31;refine AM (fun b1=>?_);repeat' (first|(with_reducible first|refine AK ?_|refine AX ?_|refine AY ?_|refine keepA ?_|refine AM (fun _=>?_))|((with_reducible refine call ?_);refine (EF g0 h1 (fun a0 c0 I1 hI1 hB1=>?_)))|((with_reducible refine call ?_);refine (EF (g1.mono hI1) h2 (fun a1 c1 I2 hI2 hB2=>?_)))|(with_reducible refine rdb ?_)|((with_reducible first|refine st1 ?_ ?_|refine rdB ?_ ?_);rfl)|(with_reducible refine AV ?_)|((with_reducible refine Ae ?_ ?_);rfl)|((with_reducible refine stB ?_ ?_ ?_ ?_);rfl;rfl;exact AE rfl)|((with_reducible first|refine rdP _ rfl ?_ ?_|refine Af _ rfl ?_ ?_);rfl)|((with_reducible refine stP _ rfl ?_ ?_ ?_ ?_);rfl;rfl;rfl)|(with_reducible first|refine AO (sh31.eq_1 ..) ?_|refine And.intro ?_ ?_)|(simp only [SSg,Int.reduceBEq,Int.reduceBNe,Int.reduceLT,Int.reduceLE,beq_self_eq_true,bne_self_eq_false])|(with_reducible first|refine AH (fun _=>?_) (fun _=>?_)|refine AD (fun _=>?_) (fun _=>?_))|(simp only [SSd,Nat.reduceAdd]))
 refine VJ (fun m1=>Gh.done (VJ (fun m2=>Gh.done (VJ (fun m3=>Gh.done ?_)))));try simp only [SSd,Nat.reduceAdd]
 refine AM (fun b=>?_);refine Gh.to (mL b s ⟨m1,m2,m3,.slice a0 p.fFrom.length c0,.slice a1 p.fTo.length c1,.slice none 0 0,#[],0,#[],0,#[],0⟩ (ABS p sp nt) L) (Gh.done (hk b _ I2 (hI1.trans hI2) ⟨hB1.mono hI2,hB2,MapS.empty,MapSi.empty,MapSi.empty,Jf I2⟩))
theorem NA {p:TSpan}{pc:List Value}(hp:TSpanV I p pc)(h0:CB p=false→K (.tuple #[.pointer none,.int .i64 1]) I L)
  (hk:CB p=true→∀b X I',Ext I I'→MchR I' b X (FR p)→K (.tuple #[pt b,.int .i64 0]) I' (X++L)):CT ω 11 #[.agg pc.toArray] K I L:=by
 have hp':=hp;obtain ⟨v0,v1,rfl,g0,g1⟩:=hp;refine AKf ?_;unfold AGe;refine AM (fun b1=>?_);refine rdB rfl ?_;refine call (Kx (p:=p) hp' ?_);try simp only [SSd,Nat.reduceAdd]
 refine AD (fun e=>?_) (fun e=>?_)
 ·exact Gh.to L (Gh.done (h0 (by simpa using e)))
 ·have he:CB p=true:=by simpa using e
  have hl:p.fFrom.length≤111∧p.fTo.length≤111:=by
   simp only [CB,Bool.and_eq_true,decide_eq_true_eq] at he;exact he.1
  refine AK ?_;refine Ae rfl ?_;refine CI (Pe (fun bs SX hS=>Gh.done ?_));refine Bv (Ext.refl _) ?_;refine call (NE sp0 nt0 (p:=p) hp' (by omega) (by omega) (fun b V I' hI hF=>?_));try simp only [SSd,Nat.reduceAdd]
  exact Gh.to (mL b bs V (ABS p sp0 nt0) (SX++L)) (Gh.done (hk he b (mL b bs V (ABS p sp0 nt0) SX) I' hI ⟨bs,V,SX,List.Perm.refl _,hF,hS.mono hI⟩))
end
def Fu (I:Imm)(v:Value)(f:FuncId):Prop:=∃q,v= .func (.func 147) #[] #[pt q]∧I q=some (.cells #[.func (.func f) #[] #[]] 181 (0,0))
abbrev DQ (q:Nat):Value:=.func (.func 147) #[] #[pt q]
theorem AJB (q1 q2 q3 q4 q5 q6 q7 q8 q9 q10:Nat):QP 1 #[Value.nilFunc,Value.nilFunc,Value.nilFunc,Value.nilFunc,Value.nilFunc,Value.nilFunc,Value.nilFunc,Value.nilFunc,Value.nilFunc,Value.nilFunc,Value.nilFunc,Value.nilFunc] [(1,DQ q1),(2,DQ q2),(3,DQ q3),(4,DQ q4),(5,DQ q5),(6,DQ q6),(7,DQ q7),(8,DQ q8),(9,DQ q9),(10,DQ q10),(11,.func (.func 104) #[] #[])]=some (.agg #[.nilFunc,DQ q1,DQ q2,DQ q3,DQ q4,DQ q5,DQ q6,DQ q7,DQ q8,DQ q9,DQ q10,.func (.func 104) #[] #[]]):=by kernel_rfl
section
variable {ω:Om}{I:Imm}{L:LH}{K:Value→M}
theorem CH {f:FuncId}(hk:∀q I',Ext I I'→I' q=some (.cells #[.func (.func f) #[] #[]] 181 (0,0))→K (DQ q) I' L):CT ω 93 #[.func (.func f) #[] #[]] K I L:=by
 refine AJp ?_;unfold AGH;refine AM (fun q=>?_);refine Gh.freeze fun hI=>Gh.done (hk _ _ hI (by simp [Imm.put,Value.cells]))
theorem QH (hk : ∀ I' v1 v2 v3 v4 v5 v6 v7 v8 v9 v10, Ext I I' → Fu I' v1 94 → Fu I' v2 95 → Fu I' v3 96 → Fu I' v4 97 → Fu I' v5 98 →
      Fu I' v6 99 → Fu I' v7 100 → Fu I' v8 101 → Fu I' v9 102 → Fu I' v10 103 →
      K (.agg #[.nilFunc, v1, v2, v3, v4, v5, v6, v7, v8, v9, v10, .func (.func 104) #[] #[]]) I' L) :
    CT ω 35 #[] K I L := by
  refine AKT ?_
  unfold AGZ
  refine AM (fun b => ?_)
  refine call (CH (fun q1 I1 hI1 g1 => ?_))
  refine call (CH (fun q2 I2 hI2 g2 => ?_))
  refine call (CH (fun q3 I3 hI3 g3 => ?_))
  refine call (CH (fun q4 I4 hI4 g4 => ?_))
  refine call (CH (fun q5 I5 hI5 g5 => ?_))
  refine call (CH (fun q6 I6 hI6 g6 => ?_))
  refine call (CH (fun q7 I7 hI7 g7 => ?_))
  refine call (CH (fun q8 I8 hI8 g8 => ?_))
  refine call (CH (fun q9 I9 hI9 g9 => ?_))
  refine call (CH (fun q10 I10 hI10 g10 => ?_))
  have t9 := hI10
  have t8 := hI9.trans t9
  have t7 := hI8.trans t8
  have t6 := hI7.trans t7
  have t5 := hI6.trans t6
  have t4 := hI5.trans t5
  have t3 := hI4.trans t4
  have t2 := hI3.trans t3
  have t1 := hI2.trans t2
  have hk' := hk I10 (DQ q1) (DQ q2) (DQ q3) (DQ q4) (DQ q5) (DQ q6) (DQ q7) (DQ q8) (DQ q9) (DQ q10) (hI1.trans t1) ⟨q1, rfl, t1 _ _ g1⟩ ⟨q2, rfl, t2 _ _ g2⟩ ⟨q3, rfl, t3 _ _ g3⟩ ⟨q4, rfl, t4 _ _ g4⟩ ⟨q5, rfl, t5 _ _ g5⟩ ⟨q6, rfl, t6 _ _ g6⟩ ⟨q7, rfl, t7 _ _ g7⟩ ⟨q8, rfl, t8 _ _ g8⟩ ⟨q9, rfl, t9 _ _ g9⟩ ⟨q10, rfl, g10⟩
  clear t1 t2 t3 t4 t5 t6 t7 t8 t9 hk
  rw [AJB]
  simp only [Cc]
  refine stB rfl rfl (AE rfl) ?_
  refine rdB rfl ?_
  exact Gh.to L (Gh.done hk')
theorem UI {P:Program}{f:FuncId}{args:Array Value}(he:Bo P f=true)(h:Cal P ω f args K I L):CalV P ω (.func (.func f) #[] #[]) args K I L:=by
 unfold CalV;simp only
 rw [if_pos he];simpa using h
theorem QN {P:Program}{f:FuncId}{args cap:Array Value}(he:Bo P f=true)(h:Cal P ω f (args++cap) K I L):CalV P ω (.func (.func f) #[] cap) args K I L:=by
 unfold CalV;simp only
 rw [if_pos he];simpa using h
def AKo (ω:Om)(f:FuncId)(I:Imm)(m:Mch)(c:TCmd)(r:TRes)(m':Mch):Prop:=
 ∀(K:Value→M) (b s:Nat) (V:MV) (SX F:LH) (cc:List Value),TCmdV I c cc→MF I V m→SpR I s SX m.sp m.nt→PostK K b F I r m'→CT ω f #[pt b,.agg cc.toArray] K I (mL b s V m (SX++F))
theorem Uf {I:Imm}{r:TRes}{cells:List Value}(h:TResV I r cells):cells.length=11:=by
 obtain ⟨v0,v1,rfl,_⟩:=h;rfl
theorem Rp {b:Nat}{X F:LH}{m m':Mch}{r:TRes}{c:TCmd}{cc:List Value}{v:Value}{f:FuncId}(hD:Fu I v f)(he:Bo Tryz.prog f=true)(hc:TCmdV I c cc)(hM:MchR I b X m)(hf:AKo ω f I m c r m')
  (hk:∀I' X' cells,Ext I I'→MchR I' b X' m'→TResV I' r cells→K (.tuple #[.agg cells.toArray,.pointer none]) I' (X'++F)) (hL:L.Perm (X++F)):CW ω v #[pt b,.agg cc.toArray] K I L:=by
 obtain ⟨q,rfl,hq⟩:=hD;obtain ⟨s,V,SX,hp,hF,hS⟩:=hM;refine QN (show Bo Tryz.prog 147=true by kernel_rfl) ?_;have hc':=hc;obtain ⟨w0,w1,w2,w3,rfl,g0,g1,g2,g3⟩:=hc;refine AIV ?_;unfold Yy;refine AM (fun b1=>AM (fun b2=>?_));refine rd1 (Cell.imm hq rfl) ?_;refine rdB rfl ?_;refine UI he ?_;refine CI (Cal.perm (L':=mL b s V m (SX++((b2,EU)::(b1,Dr c w0 w1 w2 w3)::F))) (AQ (by simp only [AN,BH hL,AP,BH hp];((try simp only [AN,AP,Aa,AR]);(try ac_rfl)))) ?_);refine hf _ b s V SX _ _ hc' hF hS (fun I' X' cells hI hM' hr=>?_);have hr1:=hr.one;have hrl:=Uf hr;refine Gh.done ?_;obtain ⟨x0,x1,rfl,_,_⟩:=id hr;refine stB rfl rfl hr1 ?_;refine rdB rfl ?_;exact Gh.to (X'++F) (Gh.done (hk I' X' _ hI hM' hr))
def plainR (r:TRes):Prop:=r.fGot=BK∧r.fRows=[]
theorem plainR.V {r:TRes}(h:plainR r)(I:Imm):TResV I r [.int .i64 r.fCode,.bool false,.slice none 0 0,.int .i64 0,.int .i64 0,.int .i64 0,.slice none 0 0,.int .i64 r.fAt.fWall,.int .i64 r.fAt.fLogic,.int .i64 r.fBy,.int .i64 r.fState]:=by
 obtain ⟨e,g,l,a,n,s⟩:=r;obtain ⟨h1,h2⟩:=h;simp only at h1 h2
 subst h1 h2;exact Ce I e a n s
theorem Qf {m:Mch}{c:TCmd}{r:TRes}(h:BV m c=some r):plainR r:=by
 unfold BV at h;split at h
 ·split at h
  ·cases h;exact ⟨rfl,rfl⟩
  ·split at h
   ·cases h;exact ⟨rfl,rfl⟩
   ·cases h
 ·split at h
  ·cases h;exact ⟨rfl,rfl⟩
  ·cases h
theorem Lq {m:Mch}{c:TCmd}:plainR (EH m c).1∧(EH m c).2.sp=m.sp∧(EH m c).2.nt=m.nt:=by
 unfold EH;split
 ·rename_i r h;exact ⟨Qf h,rfl,rfl⟩
 ·split
  ·exact ⟨⟨rfl,rfl⟩,rfl,rfl⟩
  ·rename_i m1 h
   have h2:=FM h;split
   ·exact ⟨⟨rfl,rfl⟩,h2.2.2.2.1,h2.2.2.2.2.2.2.1⟩
   ·refine ⟨⟨rfl,rfl⟩,?_,?_⟩
    ·show (DD m1 c 0 z0).sp=_;rw [(Gg ..).1];exact h2.2.2.2.1
    ·show (DD m1 c 0 z0).nt=_;rw [(Gg ..).2];exact h2.2.2.2.2.2.2.1
theorem Ld {m:Mch}{c:TCmd}:plainR (FG m c).1∧(FG m c).2.sp=m.sp∧(FG m c).2.nt=m.nt:=by
 unfold FG;split
 ·exact ⟨⟨rfl,rfl⟩,rfl,rfl⟩
 ·rename_i m1 h
  have h2:=FM h;refine ⟨⟨rfl,rfl⟩,?_,?_⟩ <;> (show _=_;simp only;unfold endOf;split)
  ·exact h2.2.2.2.1
  ·exact h2.2.2.2.1
  ·exact h2.2.2.2.2.2.2.1
  ·exact h2.2.2.2.2.2.2.1
theorem JC {m:Mch}{c:TCmd}:plainR (DZ m c).1∧(DZ m c).2.sp=m.sp∧(DZ m c).2.nt=m.nt:=by
 unfold DZ;split
 ·exact ⟨⟨rfl,rfl⟩,rfl,rfl⟩
 ·rename_i m1 h
  have h2:=FM h;refine ⟨⟨rfl,rfl⟩,?_,?_⟩ <;> (show _=_;simp only;unfold IZ;split)
  ·exact h2.2.2.2.1
  ·exact h2.2.2.2.1
  ·exact h2.2.2.2.2.2.2.1
  ·exact h2.2.2.2.2.2.2.1
theorem LV {m:Mch}{c:TCmd}:plainR (FF m c).1∧(FF m c).2.sp=m.sp∧(FF m c).2.nt=m.nt:=by
 unfold FF;split
 ·exact ⟨⟨rfl,rfl⟩,rfl,rfl⟩
 ·exact ⟨⟨rfl,rfl⟩,rfl,rfl⟩
theorem PostK.plain {b s:Nat}{V':MV}{SX F:LH}{m:Mch}{x:TRes×Mch}(h:PostK K b F I x.1 x.2)(hp:plainR x.1∧x.2.sp=m.sp∧x.2.nt=m.nt)(hS:SpR I s SX m.sp m.nt)(hF:MF I V' x.2):K (rvR x.1) I (mL b s V' x.2 (SX++F)):=
 PostK.go h (Ext.refl _) hF (by rw [hp.2.1,hp.2.2];exact hS) (hp.1.V I)
end
def PostA (K:Value→M)(b:Nat)(F:LH)(I:Imm)(x:TRes×Mch×Option Mch):Prop:=∀I' X' cells,Ext I I'→MchR I' b X' x.2.1→TResV I' x.1 cells→
 (x.2.2=none→K (.tuple #[.agg cells.toArray,.pointer none]) I' (X'++F))∧(∀m2 b2 X2,x.2.2=some m2→MchR I' b2 X2 m2→K (.tuple #[.agg cells.toArray,pt b2]) I' (X'++(X2++F)))
def ADN:Prop:=∀(ω:Om) (I:Imm) (K:Value→M) (b N:Nat) (X F:LH) (m:Mch) (c:TCmd) (cc:List Value),MOk m N→N≤5000→MchR I b X m→TCmdV I c cc→An c.fKey=true→PostA K b F I (CA m c)→CT ω 104 #[pt b,.agg cc.toArray] K I (X++F)
section
variable {ω:Om}{I:Imm}{L:LH}{K:Value→M}
theorem PostA.plain {b:Nat}{F:LH}{x:TRes×Mch}(h:PostA K b F I (As x)){I':Imm}{X':LH}{cells:List Value}(hI:Ext I I')(hM:MchR I' b X' x.2)(hr:TResV I' x.1 cells):K (.tuple #[.agg cells.toArray,.pointer none]) I' (X'++F):=(h I' X' cells hI hM hr).1 rfl
theorem En {v1 v2 v3 v4 v5 v6 v7 v8 v9 v10 v11:Value}(k:Nat)(v:Value)(h:[Value.nilFunc,v1,v2,v3,v4,v5,v6,v7,v8,v9,v10,v11][k]? =some v):
  VR false 1 12 (.agg #[.nilFunc,v1,v2,v3,v4,v5,v6,v7,v8,v9,v10,v11]) (.int .i64 (k:Int))=some v:=by
 have hk:k < 12:=by have:=(List.getElem?_eq_some_iff.1 h).1;simpa using this
 unfold VR;simp only
 rw [if_pos ⟨by omega,by omega⟩];unfold Er;simpa using h
theorem HW {b N:Nat}{X F:LH}{m:Mch}{c:TCmd}{cc:List Value}(hM:MOk m N)(hN:N≤5000)(hX:MchR I b X m)(hc:TCmdV I c cc)(hL:Lens c)(hS:EO m c.fKey=true→UN)(hsp:c.fKind=11→ADN)
  (hk:PostA K b F I (BQ m c)):CT ω 12 #[pt b,.agg cc.toArray] K I (X++F):=by
 have hc':=hc;have hN2:N≤10000:=by omega
 obtain ⟨w0,w1,w2,w3,rfl,g0,g1,g2,g3⟩:=hc;refine AKe ?_;unfold sh12;refine AM (fun b1=>AM (fun b2=>?_));refine rdB rfl ?_;refine call (RH hc' hL ?_);try simp only [SSd,Nat.reduceAdd]
 refine AD (fun e=>?_) (fun e=>?_)
 ·have hr:Ba c=false:=by simpa using e
  have ea:BQ m c=(Al 140,m,none):=by unfold BQ;rw [if_pos hr]
  rw [ea] at hk;repeat' (first|(with_reducible first|refine AK ?_|refine AX ?_|refine AY ?_|refine keepA ?_|refine AM (fun _=>?_))|((with_reducible refine call ?_);refine (Au ?_))|(with_reducible refine rdb ?_)|((with_reducible first|refine st1 ?_ ?_|refine rdB ?_ ?_);rfl)|(with_reducible refine AV ?_)|((with_reducible refine Ae ?_ ?_);rfl)|((with_reducible refine stB ?_ ?_ ?_ ?_);rfl;rfl;exact AE rfl)|((with_reducible first|refine rdP _ rfl ?_ ?_|refine Af _ rfl ?_ ?_);rfl)|((with_reducible refine stP _ rfl ?_ ?_ ?_ ?_);rfl;rfl;rfl)|(with_reducible first|refine AO (sh12.eq_1 ..) ?_|refine And.intro ?_ ?_)|(simp only [SSg,Int.reduceBEq,Int.reduceBNe,Int.reduceLT,Int.reduceLE,beq_self_eq_true,bne_self_eq_false])|(with_reducible first|refine AH (fun _=>?_) (fun _=>?_)|refine AD (fun _=>?_) (fun _=>?_))|(simp only [SSd,Nat.reduceAdd]))
  exact Gh.to (X++F) (Gh.done ((hk I X _ (Ext.refl _) hX (Ce ..)).1 rfl))
 have hr:Ba c=true:=by simpa using e
 have ho:=IY hr;have hkk:kindOk c=true:=by
  simp only [Ba,Bool.and_eq_true] at hr;exact hr.2
 have ea:BQ m c=doM m c:=by unfold BQ;rw [if_neg (by simp [hr])]
 rw [ea] at hk;refine Le X ?_;refine call (QH (fun I1 v1 v2 v3 v4 v5 v6 v7 v8 v9 v10 hI1 h1 h2 h3 h4 h5 h6 h7 h8 h9 h10=>?_));refine Bv hI1 ?_;try simp only [SSd,Nat.reduceAdd]
 refine AV ?_;have fin:∀(v:Value) (f:FuncId) (x:TRes×Mch),Fu I1 v f→Bo Tryz.prog f=true→AKo ω f I1 m c x.1 x.2→doM m c=As x→
   (Rv (some (Stay I ((b2,EU)::(b1,Dr c w0 w1 w2 w3)::F))) (AF 15 (pt b1)) fun v12=>CW ω v #[pt b,v12] (gh fun v13=>Pv (exV v13 0) fun v14=>Pv (exV v13 1) fun v15=>Sto 11 (pt b2) v14 (gh fun _=>Rv none (AF 11 (pt b2)) fun v16=>Gh (K (.tuple #[v16,v15]))))) I1
    ((b2,EU)::(b1,Dr c w0 w1 w2 w3)::(X++F)):=by
  intro v f x hD he hf hx;rw [hx] at hk;refine Ae rfl ?_;refine Rp (X:=X) (F:=(b2,EU)::(b1,Dr c w0 w1 w2 w3)::F) hD he (hc'.mono hI1) (hX.mono hI1) hf (fun I' X' cells hI hM' hrr=>?_) (AQ (by ((try simp only [AN,AP,Aa,AR]);(try ac_rfl))));have hr1:=hrr.one;refine Gh.done ?_;try simp only [SSd,Nat.reduceAdd]
  obtain ⟨x0,x1,rfl,_,_⟩:=id hrr;refine stB rfl rfl hr1 ?_;refine rdB rfl ?_;exact Gh.to (X'++F) (Gh.done (hk.plain (hI1.trans hI) hM' hrr))
 have hkd:=ho.kind;have hT:Db c.fTxn=true:=maxB_iff.2 ho.txn;have h12:c.fKind=(1:Nat)∨c.fKind=(2:Nat)∨c.fKind=(3:Nat)∨c.fKind=(4:Nat)∨c.fKind=(5:Nat)∨c.fKind=(6:Nat)∨c.fKind=(7:Nat)∨c.fKind=(8:Nat)∨c.fKind=(9:Nat)∨c.fKind=(10:Nat)∨c.fKind=(11:Nat):=by omega
 rcases h12 with hK|hK|hK|hK|hK|hK|hK|hK|hK|hK|hK
 ·have hix:=En (v1:=v1) (v2:=v2) (v3:=v3) (v4:=v4) (v5:=v5) (v6:=v6) (v7:=v7) (v8:=v8) (v9:=v9) (v10:=v10) (v11:=.func (.func 104) #[] #[]) 1 v1 rfl;rw [←hK] at hix;rw [hix,Cc];exact fin v1 _ (Ep m c) h1 (by kernel_rfl) (fun K b s V SX F cc hc hF hSp hk=>VV hM hN2 hS hF hSp hc hk) (by unfold doM;simp [hK])
 ·have hix:=En (v1:=v1) (v2:=v2) (v3:=v3) (v4:=v4) (v5:=v5) (v6:=v6) (v7:=v7) (v8:=v8) (v9:=v9) (v10:=v10) (v11:=.func (.func 104) #[] #[]) 2 v2 rfl;rw [←hK] at hix;rw [hix,Cc];exact fin v2 _ (Dk m c) h2 (by kernel_rfl) (fun K b s V SX F cc hc hF hSp hk=>Qw hM hN2 hF hSp hc hk) (by unfold doM;simp [hK])
 ·have hix:=En (v1:=v1) (v2:=v2) (v3:=v3) (v4:=v4) (v5:=v5) (v6:=v6) (v7:=v7) (v8:=v8) (v9:=v9) (v10:=v10) (v11:=.func (.func 104) #[] #[]) 3 v3 rfl;rw [←hK] at hix;rw [hix,Cc];exact fin v3 _ (CP m c) h3 (by kernel_rfl) (fun K b s V SX F cc hc hF hSp hk=>VF hM hN2 hF hSp hc hk) (by unfold doM;simp [hK])
 ·have hix:=En (v1:=v1) (v2:=v2) (v3:=v3) (v4:=v4) (v5:=v5) (v6:=v6) (v7:=v7) (v8:=v8) (v9:=v9) (v10:=v10) (v11:=.func (.func 104) #[] #[]) 4 v4 rfl;rw [←hK] at hix;rw [hix,Cc];exact fin v4 _ (Dj m c) h4 (by kernel_rfl) (fun K b s V SX F cc hc hF hSp hk=>OC hM hN2 hF hSp hc hk) (by unfold doM;simp [hK])
 ·have hix:=En (v1:=v1) (v2:=v2) (v3:=v3) (v4:=v4) (v5:=v5) (v6:=v6) (v7:=v7) (v8:=v8) (v9:=v9) (v10:=v10) (v11:=.func (.func 104) #[] #[]) 5 v5 rfl;rw [←hK] at hix;rw [hix,Cc];exact fin v5 _ (EH m c) h5 (by kernel_rfl) (fun K b s V SX F cc hc hF hSp hk=>SA hF hM.recs hM.seen hM.seenL hc (fun r m' hx V' hF'=>by have:=PostK.plain (x:=(r,m')) (by rw [hx] at hk;exact hk) (by rw [←hx];exact Lq) hSp hF';exact this)) (by unfold doM;simp [hK])
 ·have hix:=En (v1:=v1) (v2:=v2) (v3:=v3) (v4:=v4) (v5:=v5) (v6:=v6) (v7:=v7) (v8:=v8) (v9:=v9) (v10:=v10) (v11:=.func (.func 104) #[] #[]) 6 v6 rfl;rw [←hK] at hix;rw [hix,Cc];exact fin v6 _ (FG m c) h6 (by kernel_rfl) (fun K b s V SX F cc hc hF hSp hk=>ABl hF hM.recs hc (fun r m' hx V' hF'=>by have:=PostK.plain (x:=(r,m')) (by rw [hx] at hk;exact hk) (by rw [←hx];exact Ld) hSp hF';exact this)) (by unfold doM;simp [hK])
 ·have hix:=En (v1:=v1) (v2:=v2) (v3:=v3) (v4:=v4) (v5:=v5) (v6:=v6) (v7:=v7) (v8:=v8) (v9:=v9) (v10:=v10) (v11:=.func (.func 104) #[] #[]) 7 v7 rfl;rw [←hK] at hix;rw [hix,Cc];exact fin v7 _ (DZ m c) h7 (by kernel_rfl) (fun K b s V SX F cc hc hF hSp hk=>RO hF hM.recs hc (fun r m' hx V' hF'=>by have:=PostK.plain (x:=(r,m')) (by rw [hx] at hk;exact hk) (by rw [←hx];exact JC) hSp hF';exact this)) (by unfold doM;simp [hK])
 ·have hix:=En (v1:=v1) (v2:=v2) (v3:=v3) (v4:=v4) (v5:=v5) (v6:=v6) (v7:=v7) (v8:=v8) (v9:=v9) (v10:=v10) (v11:=.func (.func 104) #[] #[]) 8 v8 rfl;rw [←hK] at hix;rw [hix,Cc];exact fin v8 _ (FF m c) h8 (by kernel_rfl) (fun K b s V SX F cc hc hF hSp hk=>Py hF hc (fun r m' hx V' hF'=>by have:=PostK.plain (x:=(r,m')) (by rw [hx] at hk;exact hk) (by rw [←hx];exact LV) hSp hF';exact this)) (by unfold doM;simp [hK])
 ·have hix:=En (v1:=v1) (v2:=v2) (v3:=v3) (v4:=v4) (v5:=v5) (v6:=v6) (v7:=v7) (v8:=v8) (v9:=v9) (v10:=v10) (v11:=.func (.func 104) #[] #[]) 9 v9 rfl;rw [←hK] at hix;rw [hix,Cc];exact fin v9 _ (EV m c) h9 (by kernel_rfl) (fun K b s V SX F cc hc hF hSp hk=>MG hM hN hF hSp hc hk) (by unfold doM;simp [hK])
 ·have hix:=En (v1:=v1) (v2:=v2) (v3:=v3) (v4:=v4) (v5:=v5) (v6:=v6) (v7:=v7) (v8:=v8) (v9:=v9) (v10:=v10) (v11:=.func (.func 104) #[] #[]) 10 v10 rfl;rw [←hK] at hix;rw [hix,Cc];exact fin v10 _ (QK m c) h10 (by kernel_rfl) (fun K b s V SX F cc hc hF hSp hk=>MO hM hN2 hF hSp hc hk) (by unfold doM;simp [hK])
 ·have hix:=En (v1:=v1) (v2:=v2) (v3:=v3) (v4:=v4) (v5:=v5) (v6:=v6) (v7:=v7) (v8:=v8) (v9:=v9) (v10:=v10) (v11:=.func (.func 104) #[] #[]) 11 _ rfl;rw [←hK] at hix;rw [hix,Cc];have hx:doM m c=CA m c:=by unfold doM;simp [hK]
  rw [hx] at hk;refine Ae rfl ?_;refine UI (by kernel_rfl) ?_;refine CI (Cal.split X ?_);refine hsp hK ω _ _ b N X _ m c _ hM hN (hX.mono hI1) (hc'.mono hI1) (Ij hkk (.inl hK)) (fun I' X' cells hI hM' hrr=>?_);have hr1:=hrr.one;obtain ⟨k1,k2⟩:=hk I' X' cells (hI1.trans hI) hM' hrr;obtain ⟨x0,x1,rfl,_,_⟩:=id hrr;refine ⟨fun hn=>?_,fun m2 b3 X2 hm hX2=>?_⟩
  ·refine Gh.done ?_;try simp only [SSd,Nat.reduceAdd]
   refine stB rfl rfl hr1 ?_;refine rdB rfl ?_;exact Gh.to (X'++F) (Gh.done (k1 hn))
  ·refine Gh.done ?_;try simp only [SSd,Nat.reduceAdd]
   refine stB rfl rfl hr1 ?_;refine rdB rfl ?_;exact Gh.to (X'++(X2++F)) (Gh.done (k2 m2 b3 X2 hm hX2))
end
theorem Ez {α:Type}{vs:List α}{o k:Nat}(hv:vs.length=k){l:List α}(hl:o+k≤l.length)(j:Nat):(l.take o++vs++l.drop (o+k))[j]? =if j < o then l[j]? else if j < o+k then vs[j - o]? else l[j]? :=by
 have ht:(l.take o).length=o:=by rw [List.length_take];omega
 rw [List.append_assoc,List.getElem?_append,ht];split
 ·rename_i h;rw [List.getElem?_take,if_pos h]
 ·rename_i h
  rw [List.getElem?_append,hv];by_cases h2:j < o+k
  ·rw [if_pos (by omega),if_pos h2]
  ·rw [if_neg (by omega),if_neg h2,List.getElem?_drop];congr 1;omega
theorem SlO.sto {T n len i d k off b:Nat}{X L F:LH}[hsp:SplitL X L F]{I:Imm}{v x:Value}{cells vs:List Value}{K:Value→M}{kk:IntKind}(h:SlO T n X v cells len)(hi:i < len)(hd:d+k≤n)
  (hp:ixV n v (.int kk i)=some (.pointer (some ⟨b,off,none⟩))) (hx:x.cells=vs.toArray) (hl:vs.length=k) (h1:∀u∈vs,u.oneCell'=true)
  (hk:∀X',SlO T n X' v (cells.take (i * n+d)++vs++cells.drop (i * n+d+k)) len→Gh (K undef) I (X'++F)):Sto k (.pointer (some ⟨b,off+d,none⟩)) x (gh K) I L:=by
 obtain ⟨hl0,h⟩:=h;rcases h with ⟨rfl,rfl,a,rfl⟩|⟨b0,cap,cs,rfl,rfl,hcs,hle,hc⟩
 ·omega
 rw [Rd b0 0 n kk len cap i hi] at hp;simp only [Option.some.injEq,Value.pointer.injEq,Addr.mk.injEq,Nat.zero_add,and_true] at hp;obtain ⟨rfl,rfl⟩:=hp;obtain ⟨L1,L2,hL⟩:=List.append_of_mem (hsp.perm.mem_iff.2 (List.mem_append_left F (List.mem_singleton.2 rfl)));subst hL;have hin:(i+1) * n≤len * n:=Nat.mul_le_mul_right n hi;have hlc:len * n≤cap * n:=Nat.mul_le_mul_right n hle;rw [Nat.add_mul] at hin;have hwr:=Oi vs cs (i * n+d) (by omega);refine ⟨b0,i * n+d,cs,T,L1,L2,rfl,by simp [hx,hl],by rw [hx];simpa using h1,by rw [hcs];omega,rfl,?_⟩;have e:x.cells.toList=vs:=by rw [hx]
 rw [e,hwr,hl];have p:(L1++(b0,Obj.cells cs T (0,0))::L2).Perm ((b0,Obj.cells cs T (0,0))::F):=hsp.perm;have p2:(L1++L2).Perm F:=(List.perm_middle.symm.trans p).cons_inv;refine Gh.perm (List.perm_middle.trans (List.Perm.cons _ p2)) (hk [(b0,_)] ⟨?_,.inr ⟨b0,cap,_,rfl,rfl,?_,hle,fun j u hu=>?_⟩⟩)
 ·simp only [List.length_append,List.length_take,List.length_drop];omega
 ·simp only [List.size_toArray,List.length_append,List.length_take,List.length_drop,Array.length_toList];omega
 ·rw [Ez hl (by omega)] at hu;rw [List.getElem?_toArray,Ez hl (by rw [Array.length_toList];omega)];split
  ·rename_i h;rw [if_pos h] at hu;rw [Array.getElem?_toList];exact hc j u hu
  ·rename_i h;rw [if_neg h] at hu
   split
   ·rename_i h2;rw [if_pos h2] at hu;exact hu
   ·rename_i h2;rw [if_neg h2] at hu;rw [Array.getElem?_toList];exact hc j u hu
theorem Recs.upd {α:Type}{R:α→List Value→Prop}{n d k:Nat}{vs:List Value}(hv:vs.length=k)(hd:d+k≤n){y:α}:∀{xs:List α} {cells:List Value} {i:Nat} {x:α},Recs R n xs cells→xs[i]? =some x→(∀c,c.length=n→R x c→R y (c.take d++vs++c.drop (d+k)))→Recs R n (xs.set i y) (cells.take (i * n+d)++vs++cells.drop (i * n+d+k))
 |[],_,i,x,_,h,_=>by simp at h
 |x0::xs,cells,0,x,⟨h1,h2,h3⟩,h,hy=>by
  simp only [List.getElem?_cons_zero,Option.some.injEq] at h;subst h;have hlen:n≤cells.length:=by rw [List.length_take] at h1;omega
  have e1:(cells.take (0 * n+d)++vs++cells.drop (0 * n+d+k)).take n=(cells.take n).take d++vs++(cells.take n).drop (d+k):=by
   rw [Nat.zero_mul,Nat.zero_add];apply List.ext_getElem?
   intro j;rw [Ez hv (by omega),List.getElem?_take,Ez hv (by omega),List.getElem?_take];by_cases g1:j < n
   ·simp only [if_pos g1]
   ·rw [if_neg g1,if_neg g1,if_neg (by omega),if_neg (by omega)]
  have e2:(cells.take (0 * n+d)++vs++cells.drop (0 * n+d+k)).drop n=cells.drop n:=by
   rw [Nat.zero_mul,Nat.zero_add];apply List.ext_getElem?
   intro j;rw [List.getElem?_drop,Ez hv (by omega),if_neg (by omega),if_neg (by omega),List.getElem?_drop]
  rw [List.set_cons_zero];refine ⟨?_,?_,?_⟩
  ·rw [e1];simp only [List.length_append,List.length_take,List.length_drop];omega
  ·rw [e1];exact hy _ h1 h2
  ·rw [e2];exact h3
 |x0::xs,cells,i+1,x,⟨h1,h2,h3⟩,h,hy=>by
  simp only [List.getElem?_cons_succ] at h;have hlen:n≤cells.length:=by rw [List.length_take] at h1;omega
  have ih:=Recs.upd hv hd h3 h hy;have hi:i < xs.length:=(List.getElem?_eq_some_iff.1 h).1;have hl3:=Recs.length h3;have hin:(i+1) * n≤xs.length * n:=Nat.mul_le_mul_right n hi;rw [List.length_drop] at hl3;rw [Nat.add_mul] at hin;have e0:(i+1) * n+d=n+(i * n+d):=by rw [Nat.add_mul];omega
  have e1:(cells.take ((i+1) * n+d)++vs++cells.drop ((i+1) * n+d+k)).take n=cells.take n:=by
   rw [e0];apply List.ext_getElem?
   intro j;rw [List.getElem?_take,List.getElem?_take];by_cases g1:j < n
   ·rw [if_pos g1,if_pos g1,Ez hv (by omega),if_pos (by omega)]
   ·rw [if_neg g1,if_neg g1]
  have e2:(cells.take ((i+1) * n+d)++vs++cells.drop ((i+1) * n+d+k)).drop n=(cells.drop n).take (i * n+d)++vs++(cells.drop n).drop (i * n+d+k):=by
   rw [e0];apply List.ext_getElem?
   intro j;rw [List.getElem?_drop,Ez hv (by omega),Ez hv (by rw [List.length_drop];omega),List.getElem?_drop];by_cases g1:j < i * n+d
   ·rw [if_pos (by omega),if_pos g1]
   ·rw [if_neg (by omega),if_neg g1];by_cases g2:j < i * n+d+k
    ·rw [if_pos (by omega),if_pos g2];congr 1;omega
    ·rw [if_neg (by omega),if_neg g2]
  rw [List.set_cons_succ];refine ⟨?_,?_,?_⟩
  ·rw [e1];exact h1
  ·rw [e1];exact h2
  ·rw [e2];exact ih
theorem SlO.rl {α:Type}{R:Imm→α→List Value→Prop}{T n:Nat}{X L:LH}{I:Imm}{v:Value}{cells:List Value}{xs:List α}(h:SlO T n X v cells xs.length)(hR:Recs (R I) n xs cells)(hX:∀x∈X,x∈L):RL R n I L v xs:=by
 have h0:=h;obtain ⟨hl,h⟩:=h;rcases h with ⟨_,h2,a,rfl⟩|⟨b,cap,cs,_,rfl,_,hle,_⟩
 ·exact ⟨a,0,cells,by rw [h2],by omega,h0.news hX,hR⟩
 ·exact ⟨_,cap,cells,rfl,hle,h0.news hX,hR⟩
section
variable {κ β:Type}[DecidableEq κ]{lt:κ→κ→Bool}
def EK (lt:κ→κ→Bool)(k:κ)(v:β):Bool→AL κ β→AL κ β
 |d,[]=>if d=true then [] else [(k,v)]
 |d,q::l=>(if d=false∧lt q.1 k=false then [(k,v)] else [])++((if q.1=k then [] else [q])++EK lt k v (d|| !lt q.1 k) l)
theorem Il {k:κ}{v:β}:∀{l:AL κ β},(∀q∈l,q.1≠k)→EK lt k v true l=l
 |[],_=>rfl
 |q::l,h=>by
  have h1:=h q (List.mem_cons_self ..);have h2:=Il (k:=k) (v:=v) (l:=l) (fun x hx=>h x (List.mem_cons_of_mem _ hx));simp only [EK,h1,if_false,Bool.true_or,h2,Bool.true_eq_false,false_and,List.nil_append,List.singleton_append]
theorem Hz (ho:Ord κ lt){k:κ}{v:β}:∀{l:AL κ β},SrtA lt l→EK lt k v false l=Ap lt k v l
 |[],_=>rfl
 |q::l,h=>by
  obtain ⟨h1,h2⟩:=List.pairwise_cons.1 h;by_cases e:q.1=k
  ·have hlt:lt q.1 k=false:=by rw [e,ho.irr]
   have hn:∀x∈l,x.1≠k:=fun x hx=>by have:=SrtA.ne ho (h1 x hx);rw [←e];exact Ne.symm this
   simp only [EK,Ap,hlt,Bool.not_false,Bool.or_true,Il hn];rw [if_pos e,if_pos e];rfl
  ·cases hlt:lt q.1 k with
   |true=>
    have h3:lt k q.1=false:=by
     cases hh:lt k q.1 with
     |false=>rfl
     |true=>have:=ho.tr _ _ _ hlt hh;rw [ho.irr] at this;cases this
    have ih:=Hz ho (k:=k) (v:=v) h2;simp only [EK,Ap,hlt,h3,Bool.not_true,Bool.or_false,ih];rw [if_neg e,if_neg e];rfl
   |false=>
    have h3:lt k q.1=true:=by
     cases hh:lt k q.1 with
     |true=>rfl
     |false=>exact absurd (ho.tot _ _ hlt hh) e
    have hn:∀x∈l,x.1≠k:=fun x hx hxk=>by have:=h1 x hx;rw [hxk,hlt] at this;cases this
    simp only [EK,Ap,hlt,h3,Bool.not_false,Bool.or_true,Il hn];rw [if_neg e,if_neg e];rfl
theorem LJ {l:AL κ β}{i:Nat}{k:κ}(hi:i < l.length)(hn:∀q∈l.take i,q.1≠k)(he:l[i].1=k):lkA l k=some l[i].2:=by
 have hs:l=l.take i++l[i]::l.drop (i+1):=by rw [←List.drop_eq_getElem_cons hi,List.take_append_drop]
 have:∀(a:AL κ β) (q:κ×β) (c:AL κ β),(∀x∈a,x.1≠k)→q.1=k→lkA (a++q::c) k=some q.2:=by
  intro a q c ha hq;induction a with
  |nil=>rw [List.nil_append,Bc,if_pos hq]
  |cons y a ih=>rw [List.cons_append,Bc,if_neg (ha y (List.mem_cons_self ..)),ih (fun x hx=>ha x (List.mem_cons_of_mem _ hx))]
 generalize l[i]=q at *;rw [hs,this _ _ _ hn he]
theorem LN (ho:Ord κ lt){k:κ}{v:β}:∀{l:AL κ β} {i:Nat},SrtA lt l→(∀q,l[i]? =some q→q.1=k)→i < l.length→Ap lt k v l=l.set i (k,v)
 |[],_,_,_,hi=>by simp at hi
 |q::l,0,_,he,_=>by
  have:=he q rfl;simp only [Ap,this,if_true,List.set_cons_zero]
 |q::l,i+1,h,he,hi=>by
  obtain ⟨h1,h2⟩:=List.pairwise_cons.1 h;have hi':i < l.length:=by simpa using hi
  have hk:l[i].1=k:=he l[i] (by simp [hi']);have hlt:lt q.1 k=true:=by rw [←hk];exact h1 _ (List.getElem_mem hi')
  have hne:q.1≠k:=SrtA.ne ho hlt;have h3:lt k q.1=false:=by
   cases hh:lt k q.1 with
   |false=>rfl
   |true=>have:=ho.tr _ _ _ hlt hh;rw [ho.irr] at this;cases this
  have ih:=LN ho (k:=k) (v:=v) (l:=l) (i:=i) h2 (fun q hq=>he q (by simpa using hq)) hi';simp only [Ap,hne,h3,if_false,Bool.false_eq_true,ih,List.set_cons_succ]
end
def MkR (I:Imm)(q:List UInt8×TMk)(c:List Value):Prop:=∃v,c=[v,.int .i64 q.2.fAt.fWall,.int .i64 q.2.fAt.fLogic,.int .i64 q.2.fBy]∧Bytes I v q.1
def RcR (_I:Imm)(q:Int×TRc)(c:List Value):Prop:=c=[.int .i64 q.1,.int .i64 q.2.fState,.int .i64 q.2.fAt.fWall,.int .i64 q.2.fAt.fLogic]
def SnR (_I:Imm)(q:Int×TSn)(c:List Value):Prop:=c=[.int .i64 q.1,.int .i64 q.2.fSeq,.int .i64 q.2.fCode,.int .i64 q.2.fAt.fWall,.int .i64 q.2.fAt.fLogic]
theorem MkR.mono {I I':Imm}{q:List UInt8×TMk}{c:List Value}(h:MkR I q c)(hI:Ext I I'):MkR I' q c:=by
 obtain ⟨v,rfl,h⟩:=h;exact ⟨v,rfl,h.mono hI⟩
theorem MkR.one {I:Imm}{q:List UInt8×TMk}{c:List Value}(h:MkR I q c):∀u∈c,u.oneCell'=true:=by
 obtain ⟨v,rfl,h⟩:=h;obtain ⟨_,_,rfl⟩:=Bytes.form h;exact AE rfl
theorem RcR.mono {I I':Imm}{q:Int×TRc}{c:List Value}(h:RcR I q c)(_:Ext I I'):RcR I' q c:=h
theorem SnR.mono {I I':Imm}{q:Int×TSn}{c:List Value}(h:SnR I q c)(_:Ext I I'):SnR I' q c:=h
abbrev Kr (vF vT:Value)(bs:Nat)(vM:Value)(low:TMk)(vR vS:Value)(old:Int):Obj:=
 .cells #[vF,vT,pt bs,vM,.slice none 0 0,.int .i64 low.fAt.fWall,.int .i64 low.fAt.fLogic,.int .i64 low.fBy,vR,vS,.int .i64 old] 88 (0,0)
structure RV where
 bs:Nat
 vF:Value
 vT:Value
 vV:Value
 vI:Value
 vM:Value
 cM:List Value
 XM:LH
 vR:Value
 cR:List Value
 XR:LH
 vS:Value
abbrev rL (br:Nat)(V:RV)(m:Mch)(R:LH):LH:=
 (br,Kr V.vF V.vT V.bs V.vM m.low V.vR V.vS m.oldest)::(V.bs,BC V.vV V.vI m.sp.floor)::(V.XM++(V.XR++R))
structure RF14 (I:Imm)(V:RV)(m:Mch):Prop where
 f0:Bytes I V.vF m.span.fFrom
 f1:Bytes I V.vT m.span.fTo
 mkO:SlO 84 4 V.XM V.vM V.cM m.marks.length
 mkR:Recs (MkR I) 4 m.marks V.cM
 rc:SlO 138 4 V.XR V.vR V.cR m.recs.length
 rcR:Recs (RcR I) 4 m.recs V.cR
 sn:RL SnR 5 I [] V.vS m.seen
 vs:RL TVersionV 5 I [] V.vV (Ad m.sp.rows)
 is:RL TIntentV 6 I [] V.vI (intsOf m.sp.rows)
theorem rlI {α:Type}{R:Imm→α→List Value→Prop}{n:Nat}{I I':Imm}{v:Value}{xs:List α}(hR:∀x c,R I x c→R I' x c)(h:RL R n I [] v xs)(hI:Ext I I'):RL R n I' [] v xs:=RL.mono hR h hI (fun x hx=>hx)
theorem RF14.mono {I I':Imm}{V:RV}{m:Mch}(h:RF14 I V m)(hI:Ext I I'):RF14 I' V m:=
 ⟨h.f0.mono hI,h.f1.mono hI,h.mkO,h.mkR.imp fun _ _ h=>h.mono hI,h.rc,h.rcR.imp fun _ _ h=>h.mono hI,rlI (fun _ _ h=>h.mono hI) h.sn hI,rlI (fun _ _ h=>h.mono hI) h.vs hI,rlI (fun _ _ h=>h.mono hI) h.is hI⟩
def R14 (I:Imm)(br:Nat)(X:LH)(m:Mch):Prop:=∃V,X.Perm (rL br V m [])∧RF14 I V m
theorem R14.mono {I I':Imm}{br:Nat}{X:LH}{m:Mch}(h:R14 I br X m)(hI:Ext I I'):R14 I' br X m:=by
 obtain ⟨V,h1,h2⟩:=h;exact ⟨V,h1,h2.mono hI⟩
theorem AJA (a b:List UInt8):(blt a b||a==b)= !blt b a:=by
 rw [Bool.eq_iff_iff];simp only [Bool.or_eq_true,beq_iff_eq,Bool.not_eq_true'];constructor
 ·rintro (h|rfl)
  ·exact CO h
  ·exact Bx _
 ·intro h;cases h4:blt a b with
  |true=>exact .inl rfl
  |false=>exact .inr (Ds _ _ h4 h)
section
variable {ω:Om}{I:Imm}{L:LH}{K:Value→M}{br:Nat}{V:RV}{m:Mch}{R:LH}
theorem HJ {p:TSpan}{pc:List Value}(hF:RF14 I V m)(hp:TSpanV I p pc)(hk:K (.bool (HB m.span p)) I (rL br V m R)):
  CT ω 49 #[pt br,.agg pc.toArray] K I (rL br V m R):=by
 obtain ⟨v0,v1,rfl,g0,g1⟩:=hp;obtain ⟨a0,c0,h0⟩:=Bytes.form hF.f0;obtain ⟨a1,c1,h1⟩:=Bytes.form hF.f1;have f0:=hF.f0;have f1:=hF.f1;obtain ⟨b0,d0,rfl⟩:=Bytes.form g0;obtain ⟨b1,d1,rfl⟩:=Bytes.form g1;refine AKN ?_;unfold sh49;repeat' (first|(with_reducible first|refine AK ?_|refine AX ?_|refine AY ?_|refine keepA ?_|refine AM (fun _=>?_)|refine EG f0 (Ext.refl _) ?_|refine EG f1 (Ext.refl _) ?_|refine EG g0 (Ext.refl _) ?_|refine EG g1 (Ext.refl _) ?_|refine BS f0 (Ext.refl _) ?_|refine BS f1 (Ext.refl _) ?_|refine BS g0 (Ext.refl _) ?_|refine BS g1 (Ext.refl _) ?_|refine rdb ?_)|((with_reducible first|refine st1 ?_ ?_|refine rdB ?_ ?_);rfl)|(with_reducible refine AV ?_)|((with_reducible refine Ae ?_ ?_);rfl)|((with_reducible refine stB ?_ ?_ ?_ ?_);rfl;rfl;exact AE rfl)|((with_reducible first|refine rdP _ rfl ?_ ?_|refine Af _ rfl ?_ ?_);rfl)|((with_reducible refine stP _ rfl ?_ ?_ ?_ ?_);rfl;rfl;rfl)|(with_reducible first|refine AO (sh49.eq_1 ..) ?_|refine And.intro ?_ ?_)|(simp only [SSg,Int.reduceBEq,Int.reduceBNe,Int.reduceLT,Int.reduceLE,beq_self_eq_true,bne_self_eq_false])|(with_reducible first|refine AH (fun _=>?_) (fun _=>?_)|refine AD (fun _=>?_) (fun _=>?_))|(simp only [SSd,Nat.reduceAdd,Bytes.len f1,Bytes.len g1,AJA]))
 all_goals (refine Gh.to (rL br V m R) (Gh.done (Bz hk ?_));simp_all [HB])
 all_goals first|done|(intros;omega)|(rw [show (m.span.fTo.length==0)=false from by simpa using ‹¬m.span.fTo=[]›,show (p.fTo.length==0)=false from by (rw [beq_eq_false_iff_ne];omega)];simp)
theorem UC {v:Value}{k k':TMk}(h:K (.agg #[v,.int .i64 k.fAt.fWall,.int .i64 k.fAt.fLogic,.int .i64 k.fBy]) I L)(e:k=k'):K (.agg #[v,.int .i64 k'.fAt.fWall,.int .i64 k'.fAt.fLogic,.int .i64 k'.fBy]) I L:=e ▸ h
theorem Cq {a0:_}{n0 c0:Nat}{k:TMk}{a:TStamp}{n:Int}(hk:K (.agg #[.slice a0 n0 c0,.int .i64 (Ar k a n).fAt.fWall,.int .i64 (Ar k a n).fAt.fLogic,.int .i64 (Ar k a n).fBy]) I L):
  CT ω 51 #[.agg #[.slice a0 n0 c0,.int .i64 k.fAt.fWall,.int .i64 k.fAt.fLogic,.int .i64 k.fBy],sv a,.int .i64 n] K I L:=by
 refine AKL ?_;unfold sh51;have h1:=GC a k.fAt;have h2:=Eg a k.fAt;repeat' (first|(with_reducible first|refine AK ?_|refine AX ?_|refine AY ?_|refine keepA ?_|refine AM (fun _=>?_))|((with_reducible refine call ?_);refine (DF (x:=a) (y:=k.fAt) ?_))|(with_reducible first|refine st1 rfl ?_|refine stP _ rfl rfl rfl rfl ?_|refine rdb ?_)|((with_reducible first|refine st1 ?_ ?_|refine rdB ?_ ?_);rfl)|(with_reducible refine AV ?_)|((with_reducible refine Ae ?_ ?_);rfl)|((with_reducible refine stB ?_ ?_ ?_ ?_);rfl;rfl;exact AE rfl)|((with_reducible first|refine rdP _ rfl ?_ ?_|refine Af _ rfl ?_ ?_);rfl)|((with_reducible refine stP _ rfl ?_ ?_ ?_ ?_);rfl;rfl;rfl)|(with_reducible first|refine AO (sh51_1.eq_1 ..) ?_|refine AO (sh51_2.eq_1 ..) ?_|refine AO (sh51.eq_1 ..) ?_|refine And.intro ?_ ?_)|(simp only [SSg,Int.reduceBEq,Int.reduceBNe,Int.reduceLT,Int.reduceLE,beq_self_eq_true,bne_self_eq_false])|(with_reducible first|refine AH (fun _=>?_) (fun _=>?_)|refine AD (fun _=>?_) (fun _=>?_))|(simp only [SSd,Nat.reduceAdd]))
 ·exact Gh.to L (Gh.done (UC (k':=⟨a,n⟩) hk (by unfold Ar;rw [if_pos (by rw [←h1];assumption)])))
 ·rename_i e1 e2 e3
  refine Gh.to L (Gh.done (UC (k':=⟨k.fAt,0⟩) hk ?_));unfold Ar;rw [if_neg (by rw [←h1];simpa using e1),if_pos ⟨by rw [←h2];simp at e2 ⊢;omega,fun h=>(by simpa using e3:¬k.fBy=n) h.symm⟩]
 ·rename_i e1 e2 e3
  refine Gh.to L (Gh.done (UC (k':=k) hk ?_));unfold Ar;rw [if_neg (by rw [←h1];simpa using e1),if_neg (by rintro ⟨_,h⟩;simp at e3;exact h e3.symm)]
 ·rename_i e1 e2
  refine Gh.to L (Gh.done (UC (k':=k) hk ?_));unfold Ar;rw [if_neg (by rw [←h1];simpa using e1),if_neg (by rintro ⟨h,_⟩;rw [←h2] at h;simp at e1 e2 h;omega)]
theorem ET {a0:_}{n0 c0:Nat}{k:TMk}{w:TStamp}{n:Int}(hk:K (.tuple #[sv (Am k w n).1,.int .i64 (Am k w n).2]) I L):
  CT ω 169 #[sv w,.agg #[.slice a0 n0 c0,.int .i64 k.fAt.fWall,.int .i64 k.fAt.fLogic,.int .i64 k.fBy],.int .i64 n] K I L:=by
 refine AIC ?_;unfold sh169;have h1:=GC k.fAt w;have h2:=Eg k.fAt w;repeat' (first|(with_reducible first|refine AK ?_|refine AX ?_|refine AY ?_|refine keepA ?_|refine AM (fun _=>?_))|((with_reducible refine call ?_);refine (DF (x:=k.fAt) (y:=w) ?_))|((with_reducible refine call ?_);refine (Kj ?_))|(with_reducible refine rdb ?_)|((with_reducible first|refine st1 ?_ ?_|refine rdB ?_ ?_);rfl)|(with_reducible refine AV ?_)|((with_reducible refine Ae ?_ ?_);rfl)|((with_reducible refine stB ?_ ?_ ?_ ?_);rfl;rfl;exact AE rfl)|((with_reducible first|refine rdP _ rfl ?_ ?_|refine Af _ rfl ?_ ?_);rfl)|((with_reducible refine stP _ rfl ?_ ?_ ?_ ?_);rfl;rfl;rfl)|(with_reducible first|refine AO (sh169.eq_1 ..) ?_|refine And.intro ?_ ?_)|(simp only [SSg,Int.reduceBEq,Int.reduceBNe,Int.reduceLT,Int.reduceLE,beq_self_eq_true,bne_self_eq_false])|(with_reducible first|refine AH (fun _=>?_) (fun _=>?_)|refine AD (fun _=>?_) (fun _=>?_))|(simp only [SSd,Nat.reduceAdd]))
 all_goals refine Gh.to L (Gh.done ?_)
 all_goals first|refine Ih (q:=k.fAt) hk ?_|refine Ih (q:=w) hk ?_|refine Ih hk (q:=(Bs k.fAt).1) (e:=(Bs k.fAt).2) ?_
 all_goals (unfold Am;rw [←h1,←h2];clear h1 h2 hk;simp only [decide_eq_true_eq,beq_iff_eq,beq_eq_false_iff_ne,Bool.not_eq_false,gt_iff_lt,ne_eq,decide_eq_false_iff_not,Bool.not_eq_true] at *)
 all_goals first|(rw [if_pos (by omega)];done)|(rw [if_neg (by omega),if_pos (by omega)];done)|(rw [if_neg (by omega),if_neg (by omega)];done)|trace_state
end
section
variable {ω:Om}{I:Imm}{L:LH}{K:Value→M}{br:Nat}{V:RV}{m:Mch}{R:LH}
theorem Tz {e:Int}{a:TStamp}{b b':Bool}(h:K (.tuple #[rv e a 0 0,.bool b]) I L)(hb:b=b'):K (.tuple #[rv e a 0 0,.bool b']) I L:=hb ▸ h
theorem HI {c:TCmd}{cc:List Value}(hF:RF14 I V m)(hs:SrtA ilt m.seen)(hl:m.seen.length≤1000000)(hc:TCmdV I c cc)
  (hk1:∀e a,BV m c=some ⟨e,BK,[],a,0,0⟩→K (.tuple #[rv e a 0 0,.bool true]) I (rL br V m R)) (hk2:BV m c=none→K (.tuple #[rv 144 z0 0 0,.bool false]) I (rL br V m R)):
  CT ω 168 #[pt br,.agg cc.toArray] K I (rL br V m R):=by
 obtain ⟨w0,w1,w2,w3,rfl,g0,g1,g2,g3⟩:=hc;have hS:=hF.sn;refine AID ?_;unfold sh168;refine AM (fun q1=>AM (fun q2=>?_));refine loop (fun n s I' L'=>I'=I∧L'=(q2,EU)::(q1,Dr c w0 w1 w2 w3)::rL br V m R∧∃i:Nat,n+i=m.seen.length∧s=(.bool false,.int .i64 i,())∧∀x∈m.seen.take i,x.1≠c.fTxn) m.seen.length ⟨rfl,rfl,0,rfl,rfl,by simp⟩ ?_;rintro n s I' L' ⟨rfl,rfl,i,hni,rfl,hno⟩;unfold sh168_1;try simp only [SSd,Nat.reduceAdd]
 refine rdb ?_;simp only [RL.len hS,SSd,Nat.reduceAdd];refine AD (fun e=>?_) (fun e=>?_)
 ·have hi:i < m.seen.length:=by simpa using e
  obtain ⟨q,off,d,hix,hcl,hd,hcc⟩:=RL.ix hS (i:=(i:Int)) (by omega) (by omega);rw [Ab hi] at hd;have hlk:=LJ (k:=c.fTxn) hi hno;have hsn:=take_snoc hi;generalize m.seen[i]=x at *;obtain rfl:=hd;have hcv:=hcc I' [] (Ext.refl _) (fun _ h=>h);have hat:Cells I' [] q (off+3) [.int .i64 x.2.fAt.fWall,.int .i64 x.2.fAt.fLogic]:=by simpa using hcv.sub (k:=3) (m:=2)
  refine AK ?_;try simp only [SSd,Nat.reduceAdd]
  refine AV ?_;simp only [hix,SSd,Nat.reduceAdd];refine Aq (hcv 0 _ rfl) (Ext.refl _) ?_;try simp only [SSd,Nat.reduceAdd]
  refine AV ?_;try simp only [SSd,Nat.reduceAdd]
  refine AD (fun e2=>?_) (fun e2=>?_)
  ·have e2':x.1=c.fTxn:=by simpa using e2
   have hx:=hlk e2';have ha:BV m c=if x.2.fSeq=c.fSeq then some ⟨x.2.fCode,BK,[],x.2.fAt,0,0⟩ else if c.fSeq < x.2.fSeq then some (Al 144) else none:=by unfold BV;rw [hx]
   refine AK ?_;try simp only [SSd,Nat.reduceAdd]
   refine AV ?_;simp only [hix,SSd,Nat.reduceAdd];refine Aq (hcv 1 _ rfl) (Ext.refl _) ?_;try simp only [SSd,Nat.reduceAdd]
   refine AV ?_;try simp only [SSd,Nat.reduceAdd]
   refine AD (fun e3=>?_) (fun e3=>?_)
   ·have e3':x.2.fSeq=c.fSeq:=by simpa using e3
    rw [if_pos e3'] at ha;refine AK ?_;try simp only [SSd,Nat.reduceAdd]
    refine AV ?_;simp only [hix,SSd,Nat.reduceAdd];refine Aq (hcv 2 _ rfl) (Ext.refl _) ?_;try simp only [SSd,Nat.reduceAdd]
    refine AV ?_;simp only [hix,SSd,Nat.reduceAdd];refine BX hat (Ext.refl _) rfl ?_;try simp only [SSd,Nat.reduceAdd]
    refine stB rfl rfl (AE rfl) ?_;refine rdB rfl ?_;exact Gh.to (rL br V m R) (Gh.done (hk1 _ _ ha))
   ·have e3':¬x.2.fSeq=c.fSeq:=by simpa using e3
    rw [if_neg e3'] at ha;repeat' (first|(with_reducible first|refine AK ?_|refine AX ?_|refine AY ?_|refine keepA ?_|refine AM (fun _=>?_)|refine rdb ?_)|((with_reducible first|refine st1 ?_ ?_|refine rdB ?_ ?_);rfl)|(with_reducible refine AV ?_)|((with_reducible refine Ae ?_ ?_);rfl)|((with_reducible refine stB ?_ ?_ ?_ ?_);rfl;rfl;exact AE rfl)|((with_reducible first|refine rdP _ rfl ?_ ?_|refine Af _ rfl ?_ ?_);rfl)|((with_reducible refine stP _ rfl ?_ ?_ ?_ ?_);rfl;rfl;rfl)|(with_reducible first|refine AO (sh168_3.eq_1 ..) ?_|refine AO (sh168_1.eq_1 ..) ?_|refine AO (sh168.eq_1 ..) ?_|refine And.intro ?_ ?_)|(simp only [SSg,Int.reduceBEq,Int.reduceBNe,Int.reduceLT,Int.reduceLE,beq_self_eq_true,bne_self_eq_false])|(with_reducible first|refine AH (fun _=>?_) (fun _=>?_)|refine AD (fun _=>?_) (fun _=>?_))|(simp only [SSd,Nat.reduceAdd,hix]))
    refine Aq (hcv 1 _ rfl) (Ext.refl _) ?_;try simp only [SSd,Nat.reduceAdd]
    refine stB rfl rfl (AE rfl) ?_;refine Bv (Ext.refl _) ?_;refine rdB rfl ?_;by_cases h:c.fSeq < x.2.fSeq
    ·rw [if_pos h] at ha;exact Gh.to (rL br V m R) (Gh.done (Tz (hk1 144 z0 ha) (by simp [h])))
    ·rw [if_neg h] at ha;exact Gh.to (rL br V m R) (Gh.done (Tz (hk2 ha) (by simp [h])))
  ·have e2':x.1≠c.fTxn:=by simpa using e2
   try simp only [SSd,Nat.reduceAdd]
   rw [wrap_i64 _ (by omega)];refine Gh.done ⟨n - 1,by omega,rfl,rfl,i+1,by omega,rfl,fun y hy=>?_⟩;rw [hsn] at hy;rcases List.mem_append.1 hy with hy|hy
   ·exact hno y hy
   ·simp only [List.mem_singleton] at hy;subst hy;exact e2'
 ·have hi:i=m.seen.length:=by simp at e;omega
  rw [hi,List.take_length] at hno;have hx:lkA m.seen c.fTxn=none:=lkA_none.2 hno;have ha:BV m c=if c.fTxn≤m.oldest then some (Al 144) else none:=by unfold BV;rw [hx]
  unfold sh168_3;repeat' (first|(with_reducible first|refine AK ?_|refine AX ?_|refine AY ?_|refine keepA ?_|refine AM (fun _=>?_)|refine rdb ?_)|((with_reducible first|refine st1 ?_ ?_|refine rdB ?_ ?_);rfl)|(with_reducible refine AV ?_)|((with_reducible refine Ae ?_ ?_);rfl)|((with_reducible refine stB ?_ ?_ ?_ ?_);rfl;rfl;exact AE rfl)|((with_reducible first|refine rdP _ rfl ?_ ?_|refine Af _ rfl ?_ ?_);rfl)|((with_reducible refine stP _ rfl ?_ ?_ ?_ ?_);rfl;rfl;rfl)|(with_reducible first|refine AO (sh168_3.eq_1 ..) ?_|refine AO (sh168_1.eq_1 ..) ?_|refine AO (sh168.eq_1 ..) ?_|refine And.intro ?_ ?_)|(simp only [SSg,Int.reduceBEq,Int.reduceBNe,Int.reduceLT,Int.reduceLE,beq_self_eq_true,bne_self_eq_false])|(with_reducible first|refine AH (fun _=>?_) (fun _=>?_)|refine AD (fun _=>?_) (fun _=>?_))|(simp only [SSd,Nat.reduceAdd]))
  by_cases h:c.fTxn≤m.oldest
  ·rw [if_pos h] at ha;exact Gh.to (rL br V m R) (Gh.done (Tz (hk1 144 z0 ha) (by simp [h])))
  ·rw [if_neg h] at ha;exact Gh.to (rL br V m R) (Gh.done (Tz (hk2 ha) (by simp [h])))
end
abbrev snC (q:Int×TSn):List Value:=[.int .i64 q.1,.int .i64 q.2.fSeq,.int .i64 q.2.fCode,.int .i64 q.2.fAt.fWall,.int .i64 q.2.fAt.fLogic]
abbrev AJN (q:Int×TSn):Obj:=.cells (snC q).toArray 301 (0,0)
abbrev roO (e:Int)(a:TStamp)(b' st':Int):Obj:=.cells #[.int .i64 e,.bool false,.slice none 0 0,.int .i64 0,.int .i64 0,.int .i64 0,.slice none 0 0,.int .i64 a.fWall,.int .i64 a.fLogic,.int .i64 b',.int .i64 st'] 52 (0,0)
section
variable {ω:Om}{I:Imm}{L:LH}{K:Value→M}{br:Nat}{V:RV}{m:Mch}{R:LH}
abbrev Ka (q6 q2 q1:Nat)(x:Int×TSn)(c:TCmd)(ro:Obj)(w0 w1 w2 w3:Value)(XO Z:LH):LH:=(q6,AJN x)::(q2,ro)::(q1,Dr c w0 w1 w2 w3)::(XO++Z)
theorem Ur {q6 q2 q1 i:Nat}{x:Int×TSn}{c:TCmd}{ro:Obj}{w0 w1 w2 w3 v:Value}{d:Bool}{acc:List (Int×TSn)}{cells:List Value}{XO:LH}{Kn0:(Value×Value×Value×Unit)→M}(hS:RL SnR 5 I [] V.vS m.seen)(hx:x.1=c.fTxn)(hi:i < m.seen.length)(hil:m.seen.length≤1000)
  (hO:SlO 301 5 XO v cells acc.length) (hR:Recs (SnR I) 5 acc cells) (hal:acc.length≤4000)
  (hk:∀XO' v' cells',SlO 301 5 XO' v' cells' (acc++(if m.seen[i].1=x.1 then [] else [m.seen[i]])).length→Recs (SnR I) 5 (acc++(if m.seen[i].1=x.1 then [] else [m.seen[i]])) cells'→Gh (Kn0 (v',.bool d,.int .i64 ((i:Int)+1),())) I (Ka q6 q2 q1 x c ro w0 w1 w2 w3 XO' (rL br V m R))):
  Ga ω (pt br) (pt q1) v (.bool d) (.int .i64 i) (fun s=>Gh (Kn0 s)) (fun v=>Gh (K v)) I (Ka q6 q2 q1 x c ro w0 w1 w2 w3 XO (rL br V m R)):=by
 obtain ⟨q,off,dd,hix,hcl,hd,hcc⟩:=RL.ix hS (i:=(i:Int)) (by omega) (by omega);rw [Ab hi] at hd;generalize m.seen[i]=y at *;obtain rfl:=hd;have hcv:=hcc I [] (Ext.refl _) (fun _ h=>h);unfold Ga;refine AK ?_;try simp only [SSd,Nat.reduceAdd]
 refine AV ?_;simp only [hix,SSd,Nat.reduceAdd];refine Aq (hcv 0 _ rfl) (Ext.refl _) ?_;try simp only [SSd,Nat.reduceAdd]
 refine AV ?_;try simp only [SSd,Nat.reduceAdd]
 refine AD (fun e=>?_) (fun e=>?_)
 ·have e':¬y.1=x.1:=by rw [hx];simpa using e
  rw [if_neg e'] at hk;refine rdb ?_;simp only [hix,SSd,Nat.reduceAdd];refine FO hcv (Ext.refl _) rfl ?_;refine DY (R:=SnR) (X6:=XO) (x:=y) rfl (by omega) hO hR rfl rfl (AE rfl) (by omega) (by omega) (fun X1 X6 v6 cells6 h6 hR6=>?_);unfold Jt;try simp only [SSd,Nat.reduceAdd]
  rw [wrap_i64 _ (by omega)];exact Gh.to (Ka q6 q2 q1 x c ro w0 w1 w2 w3 X6 (rL br V m R)) (hk X6 v6 cells6 h6 hR6)
 ·have e':y.1=x.1:=by rw [hx];simpa using e
  rw [if_pos e',List.append_nil] at hk;unfold Jt;try simp only [SSd,Nat.reduceAdd]
  rw [wrap_i64 _ (by omega)];exact hk XO v cells hO hR
theorem Gi {c:TCmd}{cc:List Value}{e b' st':Int}{a:TStamp}(hF:RF14 I V m)(hs:SrtA ilt m.seen)(hil:m.seen.length≤1000)(hc:TCmdV I c cc)
  (hk:∀I' V',Ext I I'→RF14 I' V' (DD m c e a)→K (.tuple #[]) I' (rL br V' (DD m c e a) R)):
  CT ω 171 #[pt br,.agg cc.toArray,rv e a b' st'] K I (rL br V m R):=by
 obtain ⟨w0,w1,w2,w3,rfl,g0,g1,g2,g3⟩:=hc;have hS:=hF.sn;have hins:EK ilt c.fTxn (⟨c.fSeq,e,a⟩:TSn) false m.seen=Cd m c e a:=Hz LS hs;refine AIA ?_;unfold YX;refine AM (fun q1=>AM (fun q2=>?_));try simp only [SSd,Nat.reduceAdd]
 refine rdb ?_;try simp only [SSd,Nat.reduceAdd]
 refine rdb ?_;try simp only [SSd,Nat.reduceAdd]
 refine rdb ?_;try simp only [SSd,Nat.reduceAdd]
 refine rdP [.int .i64 a.fWall,.int .i64 a.fLogic] rfl rfl ?_;try simp only [SSd,Nat.reduceAdd]
 refine AM (fun q6=>?_);refine stB rfl rfl (AE rfl) ?_;have end9:∀(XO:LH) (v:Value) (cells:List Value) (acc:List (Int×TSn)),SlO 301 5 XO v cells acc.length→Recs (SnR I) 5 acc cells→acc=Cd m c e a→Js ω (pt br) v (fun v=>Gh (K v)) I (Ka q6 q2 q1 (c.fTxn,⟨c.fSeq,e,a⟩) c (roO e a b' st') w0 w1 w2 w3 XO (rL br V m R)):=by
  intro XO v cells acc hO hR he;have hlen:=congrArg List.length he;obtain ⟨oa,oc,rfl⟩:=hO.form;unfold Js;try simp only [SSd,Nat.reduceAdd]
  refine AD (fun e8=>?_) (fun e8=>?_)
  ·have h64:64 < (Cd m c e a).length:=by simp at e8;omega
   obtain ⟨b0,hix0,hc0⟩:=SlO.ix hO .i64 (i:=0) (by omega);have hrec:=Recs.get hR (i:=0) (x:=acc[0]'(by omega)) (by simp);have hh:acc.head? =some (acc[0]'(by omega)):=by rw [List.head?_eq_getElem?];simp
   generalize acc[0]'(by omega)=y at *;obtain ⟨hr1,hr2⟩:=hrec;have hr2':(cells.drop (0 * 5)).take 5=snC y:=hr2;have hc0':=hc0 I (Ka q6 q2 q1 (c.fTxn,⟨c.fSeq,e,a⟩) c (roO e a b' st') w0 w1 w2 w3 XO (rL br V m R)) (fun x hx=>by simp [hx]);rw [hr2'] at hc0';rw [show ((0:Nat):Int)=0 from rfl] at hix0;simp only [hix0,SSd,Nat.reduceAdd];refine rdC (L0:=Ka q6 q2 q1 (c.fTxn,⟨c.fSeq,e,a⟩) c (roO e a b' st') w0 w1 w2 w3 XO (rL br V m R)) (hc0' 0 _ rfl) (Ext.refl _) ?_;try simp only [SSd,Nat.reduceAdd]
   refine WB rfl ?_;have heq:DD m c e a={m with seen:=(Cd m c e a).tail,oldest:=y.1}:=by
    unfold DD;rw [if_pos h64,←he,hh];rfl
   rw [heq] at hk;refine Gh.to (XO++((br,Kr V.vF V.vT V.bs V.vM m.low V.vR V.vS y.1)::(V.bs,BC V.vV V.vI m.sp.floor)::(V.XM++(V.XR++R)))) (SlO.freeze hO (fun I3 hI3 hSl=>Gh.done ?_));obtain ⟨v3,hv3,hRL⟩:=RL.part (lo:=1) (hi:=acc.length) (RL.ofI (R:=SnR) (L:=[]) hSl (hR.imp fun x c h=>SnR.mono h hI3)) (by omega) (Nat.le_refl _) (some (.int .i64 1)) none (BG .i64 1 _ _ (by omega)) (fun cap hc=>rfl);rw [List.take_of_length_le (by rw [List.length_drop];omega),List.drop_one,he] at hRL;simp only [hv3,SSd,Nat.reduceAdd];unfold Jr;try simp only [SSd,Nat.reduceAdd]
   obtain ⟨u3,k3,rfl⟩:=RL.form hRL;refine st1 rfl ?_;refine Gh.done (hk I3 {V with vS:=.slice u3 _ k3} hI3 {hF.mono hI3 with sn:=?_});exact hRL
  ·have h64:¬64 < (Cd m c e a).length:=by simp at e8;omega
   have heq:DD m c e a={m with seen:=Cd m c e a}:=by unfold DD;rw [if_neg h64]
   rw [heq] at hk;unfold Jr;try simp only [SSd,Nat.reduceAdd]
   refine st1 rfl ?_;refine Gh.to (XO++((br,Kr V.vF V.vT V.bs V.vM m.low V.vR (.slice oa acc.length oc) m.oldest)::(V.bs,BC V.vV V.vI m.sp.floor)::(V.XM++(V.XR++R)))) (SlO.freeze hO (fun I3 hI3 hSl=>Gh.done ?_));refine hk I3 {V with vS:=.slice oa acc.length oc} hI3 {hF.mono hI3 with sn:=?_};have:=RL.ofI (R:=SnR) (L:=[]) hSl (hR.imp fun x c h=>SnR.mono h hI3);rw [he] at this ⊢;exact this
 refine loop (fun n s I' L'=>I'=I∧∃(i:Nat) (d:Bool) (XO:LH) (v:Value) (acc:List (Int×TSn)) (cells:List Value),n+i=m.seen.length∧s=(v,.bool d,.int .i64 i,())∧L'=Ka q6 q2 q1 (c.fTxn,⟨c.fSeq,e,a⟩) c (roO e a b' st') w0 w1 w2 w3 XO (rL br V m R)∧SlO 301 5 XO v cells acc.length∧Recs (SnR I) 5 acc cells∧acc.length≤2 * i∧
   acc++EK ilt c.fTxn ⟨c.fSeq,e,a⟩ d (m.seen.drop i)=Cd m c e a) m.seen.length ⟨rfl,0,false,[],_,[],[],rfl,rfl,rfl,SlO.none _ _,rfl,by simp,hins⟩ ?_
 rintro n s I' L' ⟨rfl,i,d,XO,v,acc,cells,hni,rfl,rfl,hO,hR,hal,hA⟩;unfold TJ;try simp only [SSd,Nat.reduceAdd]
 refine rdb ?_;simp only [RL.len hS,SSd,Nat.reduceAdd];refine AD (fun e1=>?_) (fun e1=>?_)
 ·have hi:i < m.seen.length:=by simpa using e1
  have hd:m.seen.drop i=m.seen[i]::m.seen.drop (i+1):=List.drop_eq_getElem_cons hi;rw [hd,EK] at hA;obtain ⟨q,off,dd,hix,hcl,hdd,hcc⟩:=RL.ix hS (i:=(i:Int)) (by omega) (by omega);rw [Ab hi] at hdd;have three:∀(XO:LH) (v:Value) (cells:List Value) (acc:List (Int×TSn)) (d:Bool),SlO 301 5 XO v cells acc.length→Recs (SnR I') 5 acc cells→acc.length≤2 * i+1→acc++((if m.seen[i].1=c.fTxn then [] else [m.seen[i]])++EK ilt c.fTxn ⟨c.fSeq,e,a⟩ d (m.seen.drop (i+1)))=Cd m c e a→
    Ga ω (pt br) (pt q1) v (.bool d) (.int .i64 i) (fun s'=>Gh fun I2 L2=>∃m',m' < n∧I2=I'∧∃(i:Nat) (d:Bool) (XO:LH) (v:Value) (acc:List (Int×TSn)) (cells:List Value),m'+i=m.seen.length∧s'=(v,.bool d,.int .i64 i,())∧L2=Ka q6 q2 q1 (c.fTxn,⟨c.fSeq,e,a⟩) c (roO e a b' st') w0 w1 w2 w3 XO (rL br V m R)∧SlO 301 5 XO v cells acc.length∧Recs (SnR I') 5 acc cells∧acc.length≤2 * i∧
   acc++EK ilt c.fTxn ⟨c.fSeq,e,a⟩ d (m.seen.drop i)=Cd m c e a) (fun v=>Gh (K v)) I' (Ka q6 q2 q1 (c.fTxn,⟨c.fSeq,e,a⟩) c (roO e a b' st') w0 w1 w2 w3 XO (rL br V m R)):=by
   intro XO v cells acc d hO hR hal hA;refine Ur (x:=(c.fTxn,⟨c.fSeq,e,a⟩)) hS rfl hi hil hO hR (by omega) (fun XO' v' cells' hO' hR'=>Gh.done ⟨n - 1,by omega,rfl,i+1,d,XO',v',_,cells',by omega,rfl,rfl,hO',hR',?_,by rw [List.append_assoc];exact hA⟩);rw [List.length_append];split <;> simp <;> omega
  generalize m.seen[i]=y at *;obtain rfl:=hdd;have hcv:=hcc I' [] (Ext.refl _) (fun _ h=>h);refine AK ?_;try simp only [SSd,Nat.reduceAdd]
  cases d with
  |true=>
   rw [if_neg (by simp),List.nil_append,Bool.true_or] at hA;simp only [Bool.not_true,SSd,Nat.reduceAdd];exact three XO v cells acc true hO hR (by omega) hA
  |false=>
   simp only [Bool.not_false,SSd,Nat.reduceAdd];refine AV ?_;simp only [hix,SSd,Nat.reduceAdd];refine Aq (hcv 0 _ rfl) (Ext.refl _) ?_;try simp only [SSd,Nat.reduceAdd]
   refine AV ?_;try simp only [SSd,Nat.reduceAdd]
   refine AD (fun e2=>?_) (fun e2=>?_)
   ·have hlt:ilt y.1 c.fTxn=false:=by simp at e2 ⊢;omega
    rw [if_pos ⟨rfl,hlt⟩,hlt] at hA;unfold TI;refine rdB rfl ?_;refine Ck (R:=SnR) (X6:=XO) (x:=(c.fTxn,(⟨c.fSeq,e,a⟩:TSn))) rfl (by omega) hO hR rfl rfl (AE rfl) (by omega) (by omega) (fun X1 X6 v6 cells6 h6 hR6=>?_);refine Gh.to (Ka q6 q2 q1 (c.fTxn,⟨c.fSeq,e,a⟩) c (roO e a b' st') w0 w1 w2 w3 X6 (rL br V m R)) (Gh.done (three X6 v6 cells6 _ true h6 hR6 (by simp;omega) ?_));rw [List.append_assoc];exact hA
   ·have hlt:ilt y.1 c.fTxn=true:=by simp at e2 ⊢;omega
    rw [if_neg (by simp [hlt]),List.nil_append,hlt] at hA;exact three XO v cells acc false hO hR (by omega) hA
 ·have hi:i=m.seen.length:=by simp at e1;omega
  subst hi;rw [List.drop_length,EK] at hA;unfold TH;try simp only [SSd,Nat.reduceAdd]
  cases d with
  |true=>
   simp only [Bool.not_true,SSd,Nat.reduceAdd];exact end9 XO v cells acc hO hR (by simpa using hA)
  |false=>
   simp only [Bool.not_false,SSd,Nat.reduceAdd];refine rdB rfl ?_;refine Ck (R:=SnR) (X6:=XO) (x:=(c.fTxn,(⟨c.fSeq,e,a⟩:TSn))) rfl (by omega) hO hR rfl rfl (AE rfl) (by omega) (by omega) (fun X1 X6 v6 cells6 h6 hR6=>?_);exact Gh.to (Ka q6 q2 q1 (c.fTxn,⟨c.fSeq,e,a⟩) c (roO e a b' st') w0 w1 w2 w3 X6 (rL br V m R)) (Gh.done (end9 X6 v6 cells6 _ h6 hR6 (by simpa using hA)))
end
end Go.Proofs.YtmmfcgbfbcamcaaGreatDoor
