/- lemmas -/
import Derived.Test.YtmmfcgbfbcamcaaGreatDoorP7
import Derived.Test.YtmmfcgbfbcamcaaGreatDoorP6
set_option maxRecDepth 100000
set_option maxHeartbeats 2000000
set_option linter.unusedVariables false
set_option linter.unusedSimpArgs false
set_option linter.unusedSectionVars false
namespace Go.SL
structure Ord (κ:Type)(lt:κ→κ→Bool):Prop where
 irr:∀a,lt a a=false
 tr:∀a b c,lt a b=true→lt b c=true→lt a c=true
 tot:∀a b,lt a b=false→lt b a=false→a=b
theorem bltO:Ord (List UInt8) blt:=⟨BM,λ_ _ _=>CG,DG⟩
abbrev ilt (a b:Int):Bool:=decide (a < b)
theorem HZ:Ord Int ilt:=⟨λa=>by simp,λa b c h1 h2=>by simp at *; omega,λa b h1 h2=>by simp at *; omega⟩
section
variable {κ β:Type}[DecidableEq κ]{lt:κ→κ→Bool}
abbrev AL (κ β:Type):Type:=List (κ×β)
def lkA (l:AL κ β)(k:κ):Option β:=(l.find? λq=>q.1==k).map (·.2)
def SrtA (lt:κ→κ→Bool)(l:AL κ β):Prop:=l.Pairwise λa b=>lt a.1 b.1=true
def Am (lt:κ→κ→Bool)(k:κ)(v:β):AL κ β→AL κ β
 |[]=>[(k,v)]
 |q::l=>if q.1=k then (k,v)::l else if lt k q.1=true then (k,v)::q::l else q::Am lt k v l
def Hx (k:κ)(l:AL κ β):AL κ β:=l.filter λq=> !(q.1==k)
theorem HN (k:κ):lkA ([]:AL κ β) k=none:=rfl
theorem BZ (q:κ×β)(l:AL κ β)(k:κ):lkA (q::l) k=if q.1=k then some q.2 else lkA l k:=by
 unfold lkA;by_cases h:q.1=k <;> simp [h]
theorem lkA_none {l:AL κ β}{k:κ}:lkA l k=none↔∀q∈l,q.1≠k:=by
 unfold lkA;simp [List.find?_eq_none]
theorem Dq {l:AL κ β}{k:κ}{v:β}(h:lkA l k=some v):(k,v)∈l:=by
 unfold lkA at h;cases hf:l.find? (λq=>q.1==k) with
 |none=>rw [hf] at h;cases h
 |some q=>
  rw [hf] at h;have h1:=List.find?_some hf;have h2:=List.mem_of_find?_eq_some hf;simp at h1 h;rw [←h1,←h];exact h2
theorem SrtA.ne (ho:Ord κ lt){a b:κ}(h:lt a b=true):a≠b:=λe=>by rw [e,ho.irr] at h;cases h
theorem SrtA.nodup (ho:Ord κ lt){l:AL κ β}(h:SrtA lt l):(l.map (·.1)).Nodup:=List.pairwise_map.2 (h.imp λhab=>SrtA.ne ho hab)
theorem EV (ho:Ord κ lt):∀{l:AL κ β} {k:κ} {v:β},SrtA lt l→(k,v)∈l→lkA l k=some v
 |q::l,k,v,h,hm=>by
  obtain ⟨h1,h2⟩:=List.pairwise_cons.1 h;rw [BZ];rcases List.mem_cons.1 hm with rfl|hm
  ·simp
  ·rw [if_neg (SrtA.ne ho (h1 _ hm))];exact EV ho h2 hm
theorem Em:∀(l:AL κ β) (k:κ) (v:β) (q:κ),lkA (Am lt k v l) q=if q=k then some v else lkA l q
 |[],k,v,q=>by
  simp only [Am,BZ,HN];by_cases h:q=k
  ·rw [if_pos h.symm,if_pos h]
  ·rw [if_neg (Ne.symm h),if_neg h]
 |x::l,k,v,q=>by
  have ih:=Em l k v q;simp only [Am];by_cases h:x.1=k
  ·rw [if_pos h];simp only [BZ];by_cases e:q=k
   ·rw [if_pos e.symm,if_pos e]
   ·rw [if_neg (Ne.symm e),if_neg e,if_neg (λe2=>e (by rw [←e2,h]))]
  ·rw [if_neg h];split
   ·simp only [BZ];by_cases e:q=k
    ·rw [if_pos e.symm,if_pos e]
    ·rw [if_neg (Ne.symm e),if_neg e]
   ·simp only [BZ,ih];by_cases e:x.1=q
    ·rw [if_pos e,if_pos e,if_neg (λe2=>h (by rw [e,e2]))]
    ·rw [if_neg e,if_neg e]
theorem AIA (l:AL κ β)(k q:κ):lkA (Hx k l) q=if q=k then none else lkA l q:=by
 induction l with
 |nil=>unfold Hx;simp [HN]
 |cons x l ih=>
  unfold Hx at ih ⊢;rw [List.filter_cons];by_cases h:x.1=k
  ·simp only [h,beq_self_eq_true,Bool.not_true,Bool.false_eq_true,if_false,ih,BZ];by_cases e:q=k
   ·simp [e]
   ·rw [if_neg e,if_neg e,if_neg (Ne.symm e)]
  ·have:(!(x.1==k))=true:=by simp [h]
   rw [if_pos this];simp only [BZ,ih];by_cases e:q=k
   ·rw [if_pos e,if_neg (λe2=>h (by rw [e2,e]))];rw [if_pos e]
   ·rw [if_neg e,if_neg e]
theorem Gi {l:AL κ β}{k:κ}{v:β}{q:κ×β}(h:q∈Am lt k v l):q=(k,v)∨q∈l:=by
 induction l with
 |nil=>simp [Am] at h;exact .inl h
 |cons x l ih=>
  simp only [Am] at h;split at h
  ·rcases List.mem_cons.1 h with h|h
   ·exact .inl h
   ·exact .inr (List.mem_cons_of_mem _ h)
  ·split at h
   ·rcases List.mem_cons.1 h with h|h
    ·exact .inl h
    ·exact .inr h
   ·rcases List.mem_cons.1 h with h|h
    ·exact .inr (by rw [h];exact List.mem_cons_self ..)
    ·rcases ih h with h|h
     ·exact .inl h
     ·exact .inr (List.mem_cons_of_mem _ h)
theorem SrtA.ins (ho:Ord κ lt){k:κ}{v:β}:∀{l:AL κ β},SrtA lt l→SrtA lt (Am lt k v l)
 |[],_=>List.pairwise_singleton ..
 |x::l,h=>by
  obtain ⟨h1,h2⟩:=List.pairwise_cons.1 h;simp only [Am];split
  ·rename_i e
   exact List.pairwise_cons.2 ⟨λy hy=>by have:=h1 y hy;rw [e] at this;exact this,h2⟩
  ·rename_i e
   split
   ·rename_i hb
    refine List.pairwise_cons.2 ⟨λy hy=>?_,h⟩;rcases List.mem_cons.1 hy with rfl|hy
    ·exact hb
    ·exact ho.tr _ _ _ hb (h1 y hy)
   ·rename_i hb
    refine List.pairwise_cons.2 ⟨λy hy=>?_,SrtA.ins ho h2⟩;rcases Gi hy with rfl|hy
    ·cases hx:lt x.1 k with
     |true=>rfl
     |false=>exact absurd (ho.tot _ _ hx (by simpa using hb)) e
    ·exact h1 y hy
theorem SrtA.del {k:κ}{l:AL κ β}(h:SrtA lt l):SrtA lt (Hx k l):=List.Pairwise.sublist List.filter_sublist h
theorem Ff (k:κ)(v:β):∀l:AL κ β,(Am lt k v l).length≤l.length+1∧l.length≤(Am lt k v l).length
 |[]=>by simp [Am]
 |x::l=>by
  have ih:=Ff k v l;simp only [Am];split
  ·simp
  ·split <;> simp <;> omega
theorem MR (ho:Ord κ lt){k:κ}{v:β}:∀{l:AL κ β},SrtA lt l→lkA l k≠none→(Am lt k v l).length=l.length
 |[],_,h=>absurd rfl h
 |x::l,hs,h=>by
  obtain ⟨h1,h2⟩:=List.pairwise_cons.1 hs;simp only [Am];split
  ·simp
  ·rename_i e
   rw [BZ,if_neg e] at h;split
   ·rename_i hb
    exfalso
    cases hv:lkA l k with
    |none=>exact h hv
    |some w=>
     have:=h1 _ (Dq hv);have h3:=ho.tr _ _ _ hb this;simp only at h3
     rw [ho.irr] at h3;cases h3
   ·simp [MR ho h2 h]
theorem SrtA.ext (ho:Ord κ lt):∀{a b:AL κ β},SrtA lt a→SrtA lt b→(∀k,lkA a k=lkA b k)→a=b
 |[],[],_,_,_=>rfl
 |[],y::b,_,hb,h=>by have:=h y.1;rw [HN,EV ho hb (List.mem_cons_self ..)] at this;cases this
 |x::a,[],ha,_,h=>by have:=h x.1;rw [HN,EV ho ha (List.mem_cons_self ..)] at this;cases this
 |x::a,y::b,ha,hb,h=>by
  obtain ⟨a1,a2⟩:=List.pairwise_cons.1 ha;obtain ⟨b1,b2⟩:=List.pairwise_cons.1 hb;have hxy:x.1=y.1:=by
   have hx:=h x.1;have hy:=h y.1;rw [EV ho ha (List.mem_cons_self ..),BZ] at hx;rw [EV ho hb (List.mem_cons_self ..),BZ] at hy;apply Classical.byContradiction
   intro hne;rw [if_neg (Ne.symm hne)] at hx;rw [if_neg hne] at hy;have g1:=b1 _ (Dq hx.symm);have g2:=a1 _ (Dq hy);have:=ho.tr _ _ _ g1 g2;rw [ho.irr] at this;cases this
  have hv:x.2=y.2:=by
   have hx:=h x.1;rw [EV ho ha (List.mem_cons_self ..),BZ,if_pos hxy.symm] at hx;exact Option.some.inj hx
  have he:x=y:=Prod.ext hxy hv;rw [he,SrtA.ext ho a2 b2 (λk=>?_)];have hk:=h k;rw [BZ,BZ,he] at hk;by_cases e:y.1=k
  ·have n1:lkA a k=none:=lkA_none.2 λq hq=>by
    have:=SrtA.ne ho (a1 q hq);rw [←e,←hxy];exact Ne.symm this
   have n2:lkA b k=none:=lkA_none.2 λq hq=>by
    have:=SrtA.ne ho (b1 q hq);rw [←e];exact Ne.symm this
   rw [n1,n2]
  ·rw [if_neg e,if_neg e] at hk;exact hk
end
section
variable {κ β:Type}[DecidableEq κ]{lt:κ→κ→Bool}
def BO (enc:β→Value)(l:AL κ β):κ→Option Value:=λk=>(lkA l k).map enc
theorem Vs {l:AL κ β}{k:κ}:lkA l k≠none↔k∈l.map (·.1):=by
 constructor
 ·intro h;cases hv:lkA l k with
  |none=>exact absurd hv h
  |some v=>exact List.mem_map.2 ⟨_,Dq hv,rfl⟩
 ·intro h hn;obtain ⟨q,hq,rfl⟩:=List.mem_map.1 h;exact lkA_none.1 hn q hq rfl
end
theorem AEV {β:Type}(enc:β→Value)(l:AL Key β)(k:Key)(v:β):GL (BO enc l) k (some (enc v))=BO enc (Am blt k v l):=by
 funext q;unfold GL BO;rw [Em];split <;> rfl
theorem Xr {β:Type}(enc:β→Value)(l:AL Int β)(k:Int)(v:β):Jk (BO enc l) k (some (enc v))=BO enc (Am ilt k v l):=by
 funext q;unfold Jk BO;rw [Em];split <;> rfl
theorem Xu {β:Type}(enc:β→Value)(l:AL Int β)(k:Int):Jk (BO enc l) k none=BO enc (Hx k l):=by
 funext q;unfold Jk BO;rw [AIA];split <;> rfl
theorem MapS.keysA {β:Type}{enc:β→Value}{l:AL Key β}{es:Array MapEntry}{clock:Nat}(h:MapS es clock (BO enc l))(hs:SrtA blt l):(es.toList.map Aw).Perm (l.map (·.1)):=by
 refine (List.perm_ext_iff_of_nodup h.nod (hs.nodup bltO)).2 λk=>?_;rw [←Vs];have hv:=h.val k;unfold BO at hv;rw [←Classical.not_not (a:=k∈es.toList.map Aw),←fnd_none (l:=es.toList) (i:=0)];constructor
 ·intro hn he;rw [he] at hv;cases hf:fnd k es.toList 0 with
  |none=>exact hn hf
  |some p=>rw [hf] at hv;cases hv
 ·intro hn he;rw [he] at hv;cases hl:lkA l k with
  |none=>exact hn hl
  |some p=>rw [hl] at hv;cases hv
theorem MapSi.keysA {β:Type}{enc:β→Value}{l:AL Int β}{es:Array MapEntry}{clock:Nat}(h:MapSi es clock (BO enc l))(hs:SrtA ilt l):(es.toList.map BN).Perm (l.map (·.1)):=by
 refine (List.perm_ext_iff_of_nodup h.nod (hs.nodup HZ)).2 λk=>?_;rw [←Vs];have hv:=h.val k;unfold BO at hv;rw [←Classical.not_not (a:=k∈es.toList.map BN),←fnd_nonei (l:=es.toList) (i:=0)];constructor
 ·intro hn he;rw [he] at hv;cases hf:Cd k es.toList 0 with
  |none=>exact hn hf
  |some p=>rw [hf] at hv;cases hv
 ·intro hn he;rw [he] at hv;cases hl:lkA l k with
  |none=>exact hn hl
  |some p=>rw [hl] at hv;cases hv
theorem MapS.sizeA {β:Type}{enc:β→Value}{l:AL Key β}{es:Array MapEntry}{clock:Nat}(h:MapS es clock (BO enc l))(hs:SrtA blt l):es.size=l.length:=by
 have:=(h.keysA hs).length_eq;simpa using this
theorem MapSi.sizeA {β:Type}{enc:β→Value}{l:AL Int β}{es:Array MapEntry}{clock:Nat}(h:MapSi es clock (BO enc l))(hs:SrtA ilt l):es.size=l.length:=by
 have:=(h.keysA hs).length_eq;simpa using this
end Go.SL
namespace Go.Proofs.YtmmfcgbfbcamcaaGreatDoor
open Go.SL
theorem Et {k:List UInt8}(h:Aj k=true):1≤k.length∧k.length≤110:=by simpa [Aj] using h
abbrev mk0:TMk:=⟨z0,0⟩
structure Mch where
 span:TSpan
 sp:Sp
 nt:Nts
 marks:AL (List UInt8) TMk
 low:TMk
 recs:AL Int TRc
 seen:AL Int TSn
 oldest:Int
 kept:List UInt8
def Ag (e:Int):TRes:=⟨e,BE,[],z0,0,0⟩
def okR:TRes:=Ag 0
def Gb (p q:TSpan):Bool:= !(blt q.fFrom p.fFrom)&&(p.fTo.length==0||(!(q.fTo.length==0)&& !(blt p.fTo q.fTo)))
def An (k:TMk)(a:TStamp)(n:Int):TMk:=if bhd a k.fAt=true then ⟨a,n⟩ else if bhd k.fAt a=false∧n≠k.fBy then ⟨k.fAt,0⟩ else k
def BK (low:TMk)(l:AL (List UInt8) TMk):TMk:=l.foldl (λk q=>An k q.2.fAt q.2.fBy) low
def Ed (m:Mch)(k:List UInt8):Bool:=(lkA m.marks k).isNone&&m.marks.length==32
def room (m:Mch)(k:List UInt8):Mch:=if Ed m k=true then {m with marks:=[],low:=BK m.low m.marks} else m
def Cb (m:Mch)(k:List UInt8)(a:TStamp)(n:Int):Mch:=
 {room m k with marks:=Am blt k (An ((lkA (room m k).marks k).getD mk0) a n) (room m k).marks}
def Ad (k:TMk)(w:TStamp)(n:Int):TStamp×Int:=if k.fBy=n∧bhd k.fAt w=true then (k.fAt,0) else if k.fBy=n∨bhd w k.fAt=true then (w,0) else Bs k.fAt
def FF (m:Mch)(c:TCmd):TRes×Mch:=
 if inB m.span c.fKey=false then (Ag 141,m) else
 if (CN m.sp c.fKey c.fAt c.fTxn).2≠0 then (⟨(CN m.sp c.fKey c.fAt c.fTxn).2,BE,[],z0,(CN m.sp c.fKey c.fAt c.fTxn).1.fBy,0⟩,m) else
 (⟨0,(CN m.sp c.fKey c.fAt c.fTxn).1,[],z0,0,0⟩,Cb m c.fKey c.fAt c.fTxn)
def Dt (m:Mch)(c:TCmd):TRes×Mch:=
 if Gb m.span c.fSpan=false then (Ag 141,m) else
 if (Bk m.sp c.fSpan c.fAt c.fTxn c.fMost).2.2≠0 then (⟨(Bk m.sp c.fSpan c.fAt c.fTxn c.fMost).2.2,BE,[],z0,(Bk m.sp c.fSpan c.fAt c.fTxn c.fMost).2.1,0⟩,m) else
 (⟨0,BE,(Bk m.sp c.fSpan c.fAt c.fTxn c.fMost).1,z0,0,0⟩,{m with low:=An m.low c.fAt c.fTxn})
def Ax (m:Mch)(c:TCmd):Option TRes:=match lkA m.seen c.fTxn with
 |some x=>if x.fSeq=c.fSeq then some ⟨x.fCode,BE,[],x.fAt,0,0⟩ else if c.fSeq < x.fSeq then some (Ag 144) else none
 |none=>if c.fTxn≤m.oldest then some (Ag 144) else none
def CL (m:Mch)(c:TCmd)(e:Int)(a:TStamp):AL Int TSn:=Am ilt c.fTxn ⟨c.fSeq,e,a⟩ m.seen
def Bw (m:Mch)(c:TCmd)(e:Int)(a:TStamp):Mch:=
 if 64 < (CL m c e a).length then {m with seen:=(CL m c e a).tail,oldest:=((CL m c e a).head?.map (·.1)).getD 0} else {m with seen:=CL m c e a}
def Ar (m:Mch)(c:TCmd):TStamp×Int:=match lkA m.marks c.fKey with
 |some k=>Ad k c.fAt c.fTxn
 |none=>(c.fAt,0)
def Ak (c:TCmd)(w:TStamp):TIntent:=⟨c.fKey,c.fTxn,w,c.fDel,c.fValue⟩
def Bm (m:Mch)(c:TCmd):TRes×Mch:=
 if inB m.span c.fKey=false then (Ag 141,m) else
 match Ax m c with
 |some r=>(r,m)
 |none=>
  if (Ar m c).2≠0 then (Ag (Ar m c).2,m) else
  if (Ad m.low (Ar m c).1 c.fTxn).2≠0 then (Ag (Ad m.low (Ar m c).1 c.fTxn).2,m) else
  let x:=Ak c (Ad m.low (Ar m c).1 c.fTxn).1
  let m1:Mch:={m with sp:=CI m.sp x,nt:=EM m.sp x m.nt}
  (⟨(At m.sp x).2.2,BE,[],(At m.sp x).1,(At m.sp x).2.1,0⟩,if (At m.sp x).2.2=0 then Bw m1 c 0 (At m.sp x).1 else m1)
def CV (m:Mch)(c:TCmd):TRes×Mch:=
 if Gb m.span c.fSpan=false then (Ag 141,m) else
 match Ax m c with
 |some r=>(r,m)
 |none=>
  if bhd c.fAt c.fTo=true then (Ag 1,m) else
  if (chF m.sp c.fSpan c.fAt c.fTo c.fTxn).2≠0 then (Ag (chF m.sp c.fSpan c.fAt c.fTo c.fTxn).2,m) else
  if (chF m.sp c.fSpan c.fAt c.fTo c.fTxn).1=true then (Ag 144,m) else
  (okR,Bw {m with low:=An m.low c.fTo c.fTxn} c 0 z0)
def Cu (m:Mch)(n s:Int)(a:TStamp):Option Mch:=if (lkA m.recs n).isSome=true then some m else if 64≤m.recs.length then none else some {m with recs:=Am ilt n ⟨s,a⟩ m.recs}
def recAt (m:Mch)(n:Int):TRc:=(lkA m.recs n).getD ⟨0,z0⟩
def DA (m:Mch)(c:TCmd):TRes×Mch:=
 match Ax m c with
 |some r=>(r,m)
 |none=>match Cu m c.fTxn 1 c.fAt with
  |none=>(Ag 143,m)
  |some m1=>if (recAt m1 c.fTxn).fState≠1 then (⟨142,BE,[],z0,0,(recAt m1 c.fTxn).fState⟩,m1) else (⟨0,BE,[],z0,0,1⟩,Bw m1 c 0 z0)
def DK (c:TCmd):Int:=if c.fYes=true then 2 else 3
def endOf (m1:Mch)(c:TCmd):Mch:=if (recAt m1 c.fTxn).fState=1 then {m1 with recs:=Am ilt c.fTxn ⟨DK c,c.fAt⟩ m1.recs} else m1
def FV (m:Mch)(c:TCmd):TRes×Mch:=match Cu m c.fTxn 3 c.fAt with
 |none=>(Ag 143,m)
 |some m1=>(⟨if (recAt (endOf m1 c) c.fTxn).fState≠DK c then 142 else 0,BE,[],(recAt (endOf m1 c) c.fTxn).fAt,0,(recAt (endOf m1 c) c.fTxn).fState⟩,endOf m1 c)
def pushB (x:TRc)(c:TCmd):Bool:=x.fState==1&&(bhd x.fAt c.fAt||(!(bhd c.fAt x.fAt)&&decide (c.fBy < c.fTxn)))
def JO (m1:Mch)(c:TCmd):Mch:=if pushB (recAt m1 c.fTxn) c=true then {m1 with recs:=Am ilt c.fTxn ⟨3,(recAt m1 c.fTxn).fAt⟩ m1.recs} else m1
def Do (m:Mch)(c:TCmd):TRes×Mch:=match Cu m c.fTxn 3 c.fAt with
 |none=>(Ag 143,m)
 |some m1=>(⟨0,BE,[],(recAt m1 c.fTxn).fAt,0,if pushB (recAt m1 c.fTxn) c=true then 3 else (recAt m1 c.fTxn).fState⟩,JO m1 c)
def FU (m:Mch)(c:TCmd):TRes×Mch:=if (recAt m c.fTxn).fState=1 then (Ag 142,m) else (okR,{m with recs:=Hx c.fTxn m.recs})
def DL (c:TCmd):List TIntent→Sp→Nts→Int×Sp×Nts
 |[],sp,nt=>(0,sp,nt)
 |x::l,sp,nt=>if x.fTxn≠c.fTxn∨inB c.fSpan x.fKey=false then DL c l sp nt else
   if (Di sp x.fKey c.fTxn c.fYes c.fAt).2≠0 then ((Di sp x.fKey c.fTxn c.fYes c.fAt).2,Dw sp x.fKey c.fTxn c.fYes c.fAt,Ho sp x.fKey c.fTxn c.fYes c.fAt nt) else
   DL c l (Dw sp x.fKey c.fTxn c.fYes c.fAt) (Ho sp x.fKey c.fTxn c.fYes c.fAt nt)
def Ej (m:Mch)(c:TCmd):TRes×Mch:=if Gb m.span c.fSpan=false then (Ag 141,m) else
 (Ag (DL c (intsOf m.sp.rows) m.sp m.nt).1,{m with sp:=(DL c (intsOf m.sp.rows) m.sp m.nt).2.1,nt:=(DL c (intsOf m.sp.rows) m.sp m.nt).2.2})
def Rf (m:Mch)(c:TCmd):TRes×Mch:=(Ag (Ha m.sp c.fAt).2,{m with sp:=colS m.sp c.fAt,nt:=Px m.sp c.fAt m.nt})
noncomputable def CB (m:Mch)(c:TCmd):TRes×Mch×Option Mch:=if inB m.span c.fKey=false∨c.fKey=m.span.fFrom then (Ag 141,m,none) else
 (okR,{m with span:=⟨m.span.fFrom,c.fKey⟩,sp:=HV c.fKey m.sp,nt:=noteAs true (CY c.fKey m.sp.rows) m.nt,marks:=m.marks.filter λq=>blt q.1 c.fKey},
  some ⟨⟨c.fKey,m.span.fTo⟩,GN c.fKey m.sp,noteAs false (CY c.fKey m.sp.rows) (BL m.sp.floor),m.marks.filter λq=> !blt q.1 c.fKey,m.low,[],m.seen,m.oldest,[]⟩)
def Al (r:TRes×Mch):TRes×Mch×Option Mch:=(r.1,r.2,none)
noncomputable def doM (m:Mch)(c:TCmd):TRes×Mch×Option Mch:=
 if c.fKind=1 then Al (FF m c) else if c.fKind=2 then Al (Dt m c) else if c.fKind=3 then Al (Bm m c) else if c.fKind=4 then Al (CV m c) else if c.fKind=5 then Al (DA m c) else
 if c.fKind=6 then Al (FV m c) else if c.fKind=7 then Al (Do m c) else if c.fKind=8 then Al (FU m c) else if c.fKind=9 then Al (Ej m c) else if c.fKind=10 then Al (Rf m c) else CB m c
noncomputable def Ap (m:Mch)(c:TCmd):TRes×Mch×Option Mch:=if BV c=false then (Ag 140,m,none) else doM m c
def GO (p:TSpan):Mch:=⟨p,sp0,nt0,[],mk0,[],[],0,[]⟩
def Dj (n:Int):Bool:=decide (0≤n∧n≤9007199254740991)
structure MkOk (k:TMk):Prop where
 right:AN k.fAt=true
 by':Dj k.fBy=true
structure RcOk (x:TRc):Prop where
 state:1≤x.fState∧x.fState≤3
 right:AN x.fAt=true
structure SnOk (x:TSn):Prop where
 seq:Dj x.fSeq=true
 code:x.fCode=0
 right:AN x.fAt=true
structure MOk (m:Mch)(N:Nat):Prop where
 span:CC m.span=true
 sp:SpOk m.sp
 rows:m.sp.rows.length≤N
 vers:Ac m.sp.rows≤N * N
 marks:SrtA blt m.marks
 marksL:m.marks.length≤32
 mark:∀q∈m.marks,Aj q.1=true∧MkOk q.2
 low:MkOk m.low
 recs:SrtA ilt m.recs
 recsL:m.recs.length≤64
 rec':∀q∈m.recs,BU q.1=true∧RcOk q.2
 seen:SrtA ilt m.seen
 seenL:m.seen.length≤64
 sn:∀q∈m.seen,BU q.1=true∧SnOk q.2
 oldest:Dj m.oldest=true
section
variable {ω:Om}{I:Imm}{L:LH}{K:Value→M}
theorem Rg {v:Value}{l:List UInt8}(h:Bytes I v l)(hl:l.length≤140737488355328)(hk:∀X a c,SlO 5 1 X (.slice a l.length c) (u8s l) l.length→K (.slice a l.length c) I (X++L)):CT ω 82 #[v] K I L:=by
 refine ANG ?_;unfold AJR;obtain ⟨a,cap,rfl⟩:=Bytes.form h;cases a with
 |none=>
  try refine O ?_
  have hl0:l.length=0:=by
   obtain ⟨_,a,c,e,_,h⟩:=h;cases e
   by_cases h0:l.length=0
   ·exact h0
   ·obtain ⟨b,off,cs,T,fr,e,_⟩:=h h0;cases e
  have:l=[]:=List.eq_nil_of_length_eq_zero hl0;subst this;exact Gh.done (hk [] _ _ (SlO.none _ 1))
 |some a=>
  try refine O ?_
  refine Rl (λX u hX=>?_);refine DX rfl hX (SlI.news h) (Fl _) (by omega) (by omega) (λX' v' hX'=>?_);obtain ⟨a1,cap1,rfl⟩:=hX'.form;simp only [Nat.zero_add,List.nil_append] at hX' ⊢;exact Gh.done (hk X' _ _ hX')
theorem Gs {v:Value}{l:List UInt8}(h:Bytes I v l)(hl:l.length≤140737488355328)(hk:∀a c I',Ext I I'→Bytes I' (.slice a l.length c) l→K (.slice a l.length c) I' L):CT ω 82 #[v] K I L:=
 Cal.gh (Rg h hl (λX a c hX=>SlO.freeze hX (λI' hI hS=>Gh.done (hk a c I' hI hS))))
theorem DV {v w:Value}{a b:List UInt8}(hv:Bytes I v a)(hw:Bytes I w b)(hk:K (.int .i64 (EZ a b)) I L):CT ω 85 #[v,w] K I L:=by
 refine ANF ?_;unfold AJQ;exact AIS hv hw (Gh.done (Gh.done hk))
theorem XZ {v:Value}{l:List UInt8}(h:Bytes I v l)(hk:K (.bool (Aj l)) I L):CT ω 91 #[v] K I L:=by
 obtain ⟨a,c,rfl⟩:=Bytes.form h;refine ANA ?_;unfold sh91;repeat' (first|refine Γ ?_|refine Θ (λ_=>?_)|refine Δ ?_|(with_reducible first|refine AK (sh91.eq_1 ..) ?_|refine And.intro ?_ ?_)|refine Φ ?_|refine Ξ (λ_=>?_) (λ_=>?_)|refine O ?_|fail)
 all_goals (refine Gh.done (CA hk ?_);rw [Bool.eq_iff_iff];simp only [Aj,ne_eq,decide_eq_true_eq,decide_eq_false_iff_not,Bool.false_eq_true,iff_false] at *; omega)
theorem HL {a:Int}(hk:K (.bool (BU a)) I L):CT ω 90 #[.int .i64 a] K I L:=by
 refine ANB ?_;unfold sh90;repeat' (first|refine Γ ?_|refine Θ (λ_=>?_)|refine Δ ?_|(with_reducible first|refine AK (sh90.eq_1 ..) ?_|refine And.intro ?_ ?_)|refine Φ ?_|refine Ξ (λ_=>?_) (λ_=>?_)|refine O ?_|fail)
 all_goals (refine Gh.done (CA hk ?_);simp_all [BU] <;> omega)
theorem ltI (a b:List UInt8):decide (0 < EZ a b)=blt b a:=Pz a b
theorem Lw {p:TSpan}{c:List Value}(hp:DO I p c)(hk:K (.bool (CC p)) I L):CT ω 30 #[.agg c.toArray] K I L:=by
 obtain ⟨v0,v1,rfl,h0,h1⟩:=hp;refine ANi ?_;unfold sh30;repeat' (first|refine Γ ?_|refine Θ (λ_=>?_)|(refine Ψ ?_;refine (DV h1 h0 ?_))|refine Δ ?_|(with_reducible first|refine AK (sh30.eq_1 ..) ?_|refine And.intro ?_ ?_)|refine Φ ?_|refine Ξ (λ_=>?_) (λ_=>?_)|(simp only [SSd,Nat.reduceAdd,Bytes.len h0,Bytes.len h1]))
 all_goals (refine Gh.to L (Gh.done (CA hk ?_));rw [Bool.eq_iff_iff];simp only [CC,←Pz,Bool.and_eq_true,Bool.or_eq_true,decide_eq_true_eq,beq_iff_eq,ne_eq,decide_eq_false_iff_not,Bool.false_eq_true,iff_false,not_and,not_or,gt_iff_lt,beq_eq_false_iff_ne,Bool.not_eq_false,iff_true] at *; omega)
theorem EN {p:TSpan}{c:List Value}{kv:Value}{k:List UInt8}(hp:DO I p c)(h:Bytes I kv k)(hk:K (.bool (inB p k)) I L):CT ω 148 #[.agg c.toArray,kv] K I L:=by
 obtain ⟨v0,v1,rfl,h0,h1⟩:=hp;refine ALg ?_;unfold sh148;repeat' (first|refine Γ ?_|refine Θ (λ_=>?_)|(refine Ψ ?_;refine (DV h h0 ?_))|(refine Ψ ?_;refine (DV h h1 ?_))|refine Δ ?_|(with_reducible first|refine AK (sh148.eq_1 ..) ?_|refine And.intro ?_ ?_)|refine Φ ?_|refine Ξ (λ_=>?_) (λ_=>?_)|(simp only [SSd,Nat.reduceAdd,Bytes.len h1]))
 all_goals (refine Gh.to L (Gh.done (CA hk ?_));rw [Bool.eq_iff_iff];simp only [inB,←AIV,Bool.not_eq_true',Bool.and_eq_true,Bool.or_eq_true,decide_eq_true_eq,beq_iff_eq,ne_eq,decide_eq_false_iff_not,Bool.false_eq_true,iff_false,not_and,not_or,ge_iff_le,true_iff,and_true,true_and,or_true,beq_eq_false_iff_ne,Bool.not_eq_false,iff_true] at *; omega)
abbrev mv (k:TMk):Value:=.agg #[.int .i64 k.fAt.fWall,.int .i64 k.fAt.fLogic,.int .i64 k.fBy]
theorem GV (a b:TStamp):decide (0 < NE a b)=bhd a b:=La a b
theorem Ey (a b:TStamp):decide (NE a b < 0)=bhd b a:=by
 unfold NE bhd NQ;by_cases h1:a.fWall < b.fWall <;> by_cases h2:b.fWall < a.fWall <;> by_cases h3:a.fLogic < b.fLogic <;> by_cases h4:b.fLogic < a.fLogic <;> simp [h1,h2,h3,h4] <;> omega
theorem Vv {k k':TMk}(h:K (mv k) I L)(e:k=k'):K (mv k') I L:=e ▸ h
theorem Dz {k:TMk}{a:TStamp}{n:Int}(hk:K (mv (An k a n)) I L):CT ω 153 #[mv k,sv a,.int .i64 n] K I L:=by
 refine ALb ?_;unfold sh153;have h1:=GV a k.fAt;have h2:=Ey a k.fAt;repeat' (first|refine Γ ?_|refine Θ (λ_=>?_)|(refine Ψ ?_;refine (DS (x:=a) (y:=k.fAt) ?_))|refine Δ ?_|(with_reducible first|refine AK (sh153_3.eq_1 ..) ?_|refine AK (sh153_1.eq_1 ..) ?_|refine AK (sh153.eq_1 ..) ?_|refine And.intro ?_ ?_)|refine Φ ?_|refine Ξ (λ_=>?_) (λ_=>?_)|refine O ?_|fail)
 ·exact Gh.to L (Gh.done (Vv (k':=⟨a,n⟩) hk (by unfold An;rw [if_pos (by rw [←h1];assumption)])))
 ·rename_i e1 e2 e3
  refine Gh.to L (Gh.done (Vv (k':=⟨k.fAt,0⟩) hk ?_));unfold An;rw [if_neg (by rw [←h1];simpa using e1),if_pos ⟨by rw [←h2];simp at e2 ⊢;omega,by simpa using e3⟩]
 ·rename_i e1 e2 e3
  refine Gh.to L (Gh.done (Vv (k':=k) hk ?_));unfold An;rw [if_neg (by rw [←h1];simpa using e1),if_neg (by rintro ⟨_,h⟩;simp at e3;exact h e3)]
 ·rename_i e1 e2
  refine Gh.to L (Gh.done (Vv (k':=k) hk ?_));unfold An;rw [if_neg (by rw [←h1];simpa using e1),if_neg (by rintro ⟨h,_⟩;rw [←h2] at h;simp at e1 e2 h;omega)]
theorem JX {p:TStamp×Int}{q:TStamp}{e:Int}(h:K (.tuple #[sv p.1,.int .i64 p.2]) I L)(h2:p=(q,e)):K (.tuple #[sv q,.int .i64 e]) I L:=by subst h2;exact h
theorem ME {k:TMk}{w:TStamp}{n:Int}(hk:K (.tuple #[sv (Ad k w n).1,.int .i64 (Ad k w n).2]) I L):CT ω 155 #[mv k,sv w,.int .i64 n] K I L:=by
 refine ALZ ?_;unfold sh155;have h1:=GV k.fAt w;have h2:=Ey k.fAt w;repeat' (first|refine Γ ?_|refine Θ (λ_=>?_)|(refine Ψ ?_;refine (DS (x:=k.fAt) (y:=w) ?_))|(refine Ψ ?_;refine (MX ?_))|refine Δ ?_|(with_reducible first|refine AK (sh155_1.eq_1 ..) ?_|refine AK (sh155_3.eq_1 ..) ?_|refine AK (sh155_2.eq_1 ..) ?_|refine AK (sh155.eq_1 ..) ?_|refine And.intro ?_ ?_)|refine Φ ?_|refine Ξ (λ_=>?_) (λ_=>?_)|refine O ?_|fail)
 all_goals refine Gh.to L (Gh.done ?_)
 all_goals first|refine JX (q:=k.fAt) hk ?_|refine JX (q:=w) hk ?_|refine JX hk (q:=(Bs k.fAt).1) (e:=(Bs k.fAt).2) ?_
 all_goals (unfold Ad;rw [←h1,←h2];clear h1 h2 hk;simp only [decide_eq_true_eq,beq_iff_eq,beq_eq_false_iff_ne,Bool.not_eq_false,gt_iff_lt,ne_eq,decide_eq_false_iff_not,Bool.not_eq_true] at *)
 all_goals first|(rw [if_pos (by omega)];done)|(rw [if_neg (by omega),if_pos (by omega)];done)|(rw [if_neg (by omega),if_neg (by omega)];done)|trace_state
end
theorem maxB_iff {n:Int}:Dj n=true↔EQ n:=by simp [Dj,EQ]
theorem ADx:MkOk mk0:=⟨by decide,by decide⟩
theorem Ie {k:TMk}{a:TStamp}{n:Int}(h:MkOk k)(ha:AN a=true)(hn:Dj n=true):MkOk (An k a n):=by
 unfold An;split
 ·exact ⟨ha,hn⟩
 ·split
  ·exact ⟨h.right,rfl⟩
  ·exact h
theorem OM:∀{l:AL (List UInt8) TMk} {k:TMk},MkOk k→(∀q∈l,Aj q.1=true∧MkOk q.2)→MkOk (BK k l)
 |[],k,h,_=>h
 |q::l,k,h,hl=>OM (l:=l) (Ie h (hl q (List.mem_cons_self ..)).2.right (hl q (List.mem_cons_self ..)).2.by') (λx hx=>hl x (List.mem_cons_of_mem _ hx))
theorem MOk.more {m:Mch}{N N':Nat}(h:MOk m N)(hN:N≤N'):MOk m N':={h with rows:=Nat.le_trans h.rows hN,vers:=Nat.le_trans h.vers (Nat.mul_le_mul hN hN)}
theorem AHk {m:Mch}{N:Nat}(h:MOk m N)(k:List UInt8):MOk (room m k) N∧((lkA (room m k).marks k).isNone=true→(room m k).marks.length < 32):=by
 unfold room;split
 ·rename_i e
  exact ⟨{h with marks:=List.Pairwise.nil,marksL:=by simp,mark:=(λq hq=>by cases hq),low:=OM h.low h.mark},λ_=>by simp⟩
 ·rename_i e
  refine ⟨h,λhn=>?_⟩;have:=h.marksL;simp only [Ed,hn,Bool.true_and,beq_iff_eq] at e;omega
theorem AEC {m:Mch}{N:Nat}(h:MOk m N){k:List UInt8}{a:TStamp}{n:Int}(hk:Aj k=true)(ha:AN a=true)(hn:Dj n=true):MOk (Cb m k a n) N:=by
 obtain ⟨h1,h2⟩:=AHk h k;unfold Cb;have hx:MkOk ((lkA (room m k).marks k).getD mk0):=by
  cases e:lkA (room m k).marks k with
  |none=>exact ADx
  |some x=>exact (h1.mark _ (Dq e)).2
 refine {h1 with marks:=h1.marks.ins bltO,marksL:=?_,mark:=λq hq=>?_}
 ·show (Am blt k _ (room m k).marks).length≤32;have:=Ff (lt:=blt) k (An ((lkA (room m k).marks k).getD mk0) a n) (room m k).marks;by_cases e:lkA (room m k).marks k=none
  ·have:=h2 (by rw [e];rfl);omega
  ·have:=MR bltO (k:=k) (v:=An ((lkA (room m k).marks k).getD mk0) a n) h1.marks e;have:=h1.marksL;omega
 ·rcases Gi hq with rfl|hq
  ·exact ⟨hk,Ie hx ha hn⟩
  ·exact h1.mark q hq
theorem PM {m:Mch}{N:Nat}(h:MOk m N){c:TCmd}{a:TStamp}(ht:BU c.fTxn=true)(hs:Dj c.fSeq=true)(ha:AN a=true):MOk (Bw m c 0 a) N:=by
 have hsrt:SrtA ilt (CL m c 0 a):=h.seen.ins HZ;have hmem:∀q∈CL m c 0 a,BU q.1=true∧SnOk q.2:=λq hq=>by
  rcases Gi hq with rfl|hq
  ·exact ⟨ht,hs,rfl,ha⟩
  ·exact h.sn q hq
 have hlen:(CL m c 0 a).length≤m.seen.length+1:=(Ff ..).1;have:=h.seenL;unfold Bw;split
 ·refine {h with seen:=?_,seenL:=?_,sn:=λq hq=>hmem q (List.mem_of_mem_tail hq),oldest:=?_}
  ·exact List.Pairwise.sublist (List.tail_sublist _) hsrt
  ·show (CL m c 0 a).tail.length≤64;rw [List.length_tail];omega
  ·show Dj (((CL m c 0 a).head?.map (·.1)).getD 0)=true;cases e:CL m c 0 a with
   |nil=>rfl
   |cons q l=>
    have:=(hmem q (by rw [e];exact List.mem_cons_self ..)).1;exact maxB_iff.2 (Ce this)
 ·exact {h with seen:=hsrt,seenL:=by show (CL m c 0 a).length≤64;omega,sn:=hmem}
theorem PY {m m1:Mch}{N:Nat}{n s:Int}{a:TStamp}(h:MOk m N)(hn:BU n=true)(hs:1≤s∧s≤3)(ha:AN a=true)(e:Cu m n s a=some m1):MOk m1 N∧∃x,lkA m1.recs n=some x:=by
 unfold Cu at e;split at e
 ·rename_i h1
  cases e
  exact ⟨h,Option.isSome_iff_exists.1 h1⟩
 ·split at e
  ·cases e
  ·rename_i h1 h2
   cases e
   refine ⟨{h with recs:=h.recs.ins HZ,recsL:=?_,rec':=λq hq=>?_},⟨s,a⟩,by simp [Em]⟩
   ·have:=Ff (lt:=ilt) n (⟨s,a⟩:TRc) m.recs;show (Am ilt n _ m.recs).length≤64;omega
   ·rcases Gi hq with rfl|hq
    ·exact ⟨hn,hs,ha⟩
    ·exact h.rec' q hq
theorem Nn {m:Mch}{N:Nat}{n s:Int}{a:TStamp}(h:MOk m N)(hn:BU n=true)(hs:1≤s∧s≤3)(ha:AN a=true)(hx:∃x,lkA m.recs n=some x):MOk {m with recs:=Am ilt n ⟨s,a⟩ m.recs} N:=by
 obtain ⟨x,hx⟩:=hx;refine {h with recs:=h.recs.ins HZ,recsL:=?_,rec':=λq hq=>?_}
 ·show (Am ilt n _ m.recs).length≤64;rw [MR HZ h.recs (by rw [hx];simp)];exact h.recsL
 ·rcases Gi hq with rfl|hq
  ·exact ⟨hn,hs,ha⟩
  ·exact h.rec' q hq
theorem Fc {m:Mch}{N:Nat}{n:Int}(h:MOk m N):(0≤(recAt m n).fState∧(recAt m n).fState≤3)∧AN (recAt m n).fAt=true:=by
 unfold recAt;cases e:lkA m.recs n with
 |none=>exact ⟨⟨by decide,by decide⟩,by decide⟩
 |some x=>
  have:=(h.rec' _ (Dq e)).2;exact ⟨⟨by have:=this.state.1;simp only [Option.getD_some] at *; omega,this.state.2⟩,this.right⟩
def rowB (x:TKV):Bool:=Aj x.fKey&&decide (x.fValue.length≤10000)
def FJ (r:TRes):Bool:=r.fRows.all rowB&&decide (0≤r.fCode∧r.fCode≤999)&&decide (0≤r.fState∧r.fState≤3)&&Dj r.fBy&&Dj r.fGot.fBy&&AN r.fAt&&AN r.fGot.fAt&&decide (r.fGot.fValue.length≤10000)&&decide (r.fRows.length≤90)
theorem QC {e:Int}{a:TStamp}{n s:Int}(he:0≤e∧e≤999)(hs:0≤s∧s≤3)(hn:Dj n=true)(ha:AN a=true):FJ ⟨e,BE,[],a,n,s⟩=true:=by
 simp only [FJ,hn,ha,he,hs,and_self,decide_true,List.all_nil,Bool.and_true,Bool.true_and,List.length_nil];rfl
theorem BG {e:Int}(he:0≤e∧e≤999):FJ (Ag e)=true:=QC he ⟨by omega,by omega⟩ (by decide) (by decide)
theorem Jg {m:Mch}{N:Nat}{c:TCmd}{r:TRes}(h:MOk m N)(e:Ax m c=some r):FJ r=true:=by
 unfold Ax at e;split at e
 ·rename_i x hx
  split at e
  ·cases e
   have:=(h.sn _ (Dq hx)).2;exact QC ⟨by have:=this.code;simp only at *; omega,by have:=this.code;simp only at *; omega⟩ ⟨by omega,by omega⟩ (by decide) this.right
  ·split at e
   ·cases e;exact BG (by omega)
   ·cases e
 ·split at e
  ·cases e;exact BG (by omega)
  ·cases e
theorem AGI {N:Nat}:N * N+1≤(N+1) * (N+1):=by
 rw [Nat.add_mul,Nat.mul_add];omega
theorem AGH {N:Nat}:N * N+N≤(N+1) * (N+1):=by
 rw [Nat.add_mul,Nat.mul_add];omega
theorem QY {o:Option TVer}(h:∀v,o=some v→VerOk v):(DP o).fBy=0∧AN (DP o).fAt=true∧(DP o).fValue.length≤10000:=by
 cases o with
 |none=>exact ⟨rfl,by decide,by decide⟩
 |some v=>
  have hv:=h v rfl;unfold DP;simp only
  split
  ·exact ⟨rfl,by decide,by decide⟩
  ·exact ⟨rfl,hv.right,hv.len⟩
theorem Vd {r:Row}{a:TStamp}{n:Int}(h:RowOk r):Dj (seen r a n).1.fBy=true∧AN (seen r a n).1.fAt=true∧(seen r a n).1.fValue.length≤10000∧(0≤(seen r a n).2∧(seen r a n).2≤999):=by
 have h1:=QY (o:=upTo r.vs a) (λv hv=>h.vs v (QN hv));have hz:Dj 0=true:=by decide
 unfold seen;split
 ·exact ⟨by rw [h1.1];exact hz,h1.2.1,h1.2.2,by simp,by simp⟩
 ·rename_i h0
  split
  ·have h2:=QY (o:=some r.it.ver) (λv hv=>by
    cases hv
    rcases h.it with h|⟨_,h⟩
    ·rw [h] at h0;exact absurd rfl h0
    ·exact h)
   exact ⟨by rw [h2.1];exact hz,h2.2.1,h2.2.2,by simp,by simp⟩
  ·split
   ·refine ⟨maxB_iff.2 ?_,rfl,Nat.zero_le _,by simp,by simp⟩;have:=h.txn;exact ⟨this.1,this.2⟩
   ·exact ⟨by rw [h1.1];exact hz,h1.2.1,h1.2.2,by simp,by simp⟩
theorem AKG {sp:Sp}(h:SpOk sp)(k:List UInt8)(a:TStamp)(n:Int):Dj (CN sp k a n).1.fBy=true∧AN (CN sp k a n).1.fAt=true∧(CN sp k a n).1.fValue.length≤10000∧(0≤(CN sp k a n).2∧(CN sp k a n).2≤999):=by
 have z:∀e:Int,0≤e→e≤999→Dj ((BE,e):TGot×Int).1.fBy=true∧AN ((BE,e):TGot×Int).1.fAt=true∧((BE,e):TGot×Int).1.fValue.length≤10000∧(0≤((BE,e):TGot×Int).2∧((BE,e):TGot×Int).2≤999):=λe h1 h2=>⟨rfl,rfl,Nat.zero_le _,h1,h2⟩;unfold CN;split
 ·exact z 1 (by omega) (by omega)
 ·split
  ·exact z 131 (by omega) (by omega)
  ·split
   ·exact z 0 (by omega) (by omega)
   ·rename_i r hr
    exact Vd (h.rows r (CU hr))
theorem QZ {a:TStamp}{n most:Int}(hm:1≤most∧most≤90):∀{rows:List Row} {acc:List TKV},(∀r∈rows,RowOk r)→(∀x∈acc,rowB x=true)→(acc.length:Int) < most→
  (∀x∈(Cr a n most rows acc).1,rowB x=true)∧(Cr a n most rows acc).1.length≤90∧Dj (Cr a n most rows acc).2.1=true∧(0≤(Cr a n most rows acc).2.2∧(Cr a n most rows acc).2.2≤999)
 |[],acc,_,ha,hl=>⟨ha,by show acc.length≤90;omega,rfl,by simp [Cr],by simp [Cr]⟩
 |r::rs,acc,hr,ha,hl=>by
  have h1:=Vd (a:=a) (n:=n) (hr r (List.mem_cons_self ..));have hp:(∀x∈push r (seen r a n).1 acc,rowB x=true)∧(push r (seen r a n).1 acc).length≤acc.length+1:=by
   unfold push;split
   ·refine ⟨λx hx=>?_,by simp⟩;rcases List.mem_append.1 hx with hx|hx
    ·exact ha x hx
    ·simp only [List.mem_singleton] at hx;subst hx;have h2:=h1.2.2.1;simp [rowB,(hr r (List.mem_cons_self ..)).key,h2]
   ·exact ⟨ha,by omega⟩
  unfold Cr;split
  ·exact ⟨(λx hx=>by cases hx),by simp,h1.1,h1.2.2.2⟩
  ·split
   ·rename_i e
    exact ⟨hp.1,by show (push r (seen r a n).1 acc).length≤90;omega,by show Dj 0=true;decide,by simp,by simp⟩
   ·rename_i e
    exact QZ hm (λx hx=>hr x (List.mem_cons_of_mem _ hx)) hp.1 (by omega)
theorem scan_ok {sp:Sp}(h:SpOk sp){p:TSpan}{a:TStamp}{n most:Int}(hm:1≤most∧most≤90):(∀x∈(Bk sp p a n most).1,rowB x=true)∧(Bk sp p a n most).1.length≤90∧Dj (Bk sp p a n most).2.1=true∧(0≤(Bk sp p a n most).2.2∧(Bk sp p a n most).2.2≤999):=by
 unfold Bk;split
 ·exact ⟨(λx hx=>by cases hx),by simp,rfl,by simp,by simp⟩
 ·split
  ·exact ⟨(λx hx=>by cases hx),by simp,rfl,by simp,by simp⟩
  ·exact QZ hm (λr hr=>h.rows r (List.mem_filter.1 hr).1) (λx hx=>by cases hx) (by simp;omega)
theorem MC (a:TStamp):0≤(Bs a).2∧(Bs a).2≤999:=by
 unfold Bs;split
 ·simp
 ·split
  ·simp
  ·split <;> simp
theorem RE {k:TMk}{w:TStamp}{n:Int}(hk:MkOk k)(hw:AN w=true):(0≤(Ad k w n).2∧(Ad k w n).2≤999)∧((Ad k w n).2=0→AN (Ad k w n).1=true):=by
 unfold Ad;split
 ·exact ⟨by simp,λ_=>hk.right⟩
 ·split
  ·exact ⟨by simp,λ_=>hw⟩
  ·exact ⟨MC _,λh=>(Qv h).1⟩
theorem RF {m:Mch}{N:Nat}{c:TCmd}(h:MOk m N)(hw:AN c.fAt=true):(0≤(Ar m c).2∧(Ar m c).2≤999)∧((Ar m c).2=0→AN (Ar m c).1=true):=by
 unfold Ar;split
 ·rename_i k hk
  exact RE (h.mark _ (Dq hk)).2 hw
 ·exact ⟨by simp,λ_=>hw⟩
theorem TK (a:TStamp)(o:Option TVer):0≤(DH a o).2∧(DH a o).2≤999:=by
 unfold DH;split
 ·simp
 ·split
  ·simp
  ·exact MC _
theorem XW {sp:Sp}(h:SpOk sp)(x:TIntent):(0≤(At sp x).2.2∧(At sp x).2.2≤999)∧Dj (At sp x).2.1=true∧AN (At sp x).1=true:=by
 by_cases h0:(At sp x).2.2=0
 ·have h1:=Pc h h0;refine ⟨by omega,?_,h1.2.1⟩;unfold At at h0 ⊢;split at h0
  ·simp at h0
  ·split at h0
   ·simp at h0
   ·split at h0
    ·rename_i h3 h4 h5;exact absurd h0 h5
    ·rename_i h3 h4 h5;rw [if_neg h3,if_neg h4,if_neg h5];simp;decide
 ·unfold At at h0 ⊢;split
  ·exact ⟨by simp,by simp;decide,by simp;decide⟩
  ·split
   ·refine ⟨by simp,?_,by simp;decide⟩;refine maxB_iff.2 ?_;unfold Ba;cases e:rowOf sp.rows x.fKey with
    |none=>exact CS
    |some r=>have:=(h.rows r (CU e)).txn;exact ⟨this.1,this.2⟩
   ·split
    ·exact ⟨TK _ _,by simp;decide,by simp;decide⟩
    ·rename_i h3 h4 h5;rw [if_neg h3,if_neg h4,if_neg h5] at h0;exact absurd rfl h0
theorem AEg (sp:Sp)(p:TSpan)(a b:TStamp)(n:Int):0≤(chF sp p a b n).2∧(chF sp p a b n).2≤999:=by
 unfold chF;split
 ·simp
 ·split <;> simp
theorem XJ (sp:Sp)(k:List UInt8)(n:Int)(y:Bool)(a:TStamp):0≤(Di sp k n y a).2∧(Di sp k n y a).2≤999:=by
 unfold Di;split
 ·simp
 ·split
  ·simp
  ·split <;> simp
theorem YE (sp:Sp)(b:TStamp):0≤(Ha sp b).2∧(Ha sp b).2≤999:=by
 unfold Ha;split <;> simp
theorem PU {c:TCmd}:∀{l:List TIntent} {sp:Sp} {nt:Nts},SpOk sp→(0≤(DL c l sp nt).1∧(DL c l sp nt).1≤999)∧SpOk (DL c l sp nt).2.1∧(DL c l sp nt).2.1.rows.length≤sp.rows.length∧Ac (DL c l sp nt).2.1.rows≤Ac sp.rows+l.length
 |[],sp,nt,h=>⟨by simp [DL],h,Nat.le_refl _,by simp [DL]⟩
 |x::l,sp,nt,h=>by
  have h1:=h.res (k:=x.fKey) (txn:=c.fTxn) (yes:=c.fYes) (a:=c.fAt);have h2:=PT (k:=x.fKey) (txn:=c.fTxn) (yes:=c.fYes) (a:=c.fAt) h;unfold DL;split
  ·have:=PU (c:=c) (l:=l) (nt:=nt) h;refine ⟨this.1,this.2.1,this.2.2.1,?_⟩;simp only [List.length_cons];omega
  ·split
   ·refine ⟨XJ _ _ _ _ _,h1,h2.1,?_⟩;simp only [List.length_cons];omega
   ·have:=PU (c:=c) (l:=l) (nt:=Ho sp x.fKey c.fTxn c.fYes c.fAt nt) h1;refine ⟨this.1,this.2.1,by omega,?_⟩;simp only [List.length_cons];omega
theorem Ky (rows:List Row):(intsOf rows).length≤rows.length:=by
 unfold intsOf;rw [List.length_map];exact List.length_filter_le _ _
section
variable {m:Mch}{N:Nat}{c:TCmd}
theorem AIJ (h:MOk m N)(hk:Aj c.fKey=true)(ha:AN c.fAt=true)(hn:Dj c.fTxn=true):FJ (FF m c).1=true∧MOk (FF m c).2 N:=by
 have g:=AKG h.sp c.fKey c.fAt c.fTxn;unfold FF;split
 ·exact ⟨BG (by omega),h⟩
 ·split
  ·exact ⟨QC g.2.2.2 ⟨by omega,by omega⟩ g.1 (by decide),h⟩
  ·refine ⟨?_,AEC h hk ha hn⟩;simp only [FJ,g.1,g.2.1,g.2.2.1,decide_true,Bool.and_true,List.all_nil,Bool.true_and];rfl
theorem ADB (h:MOk m N)(hm:1≤c.fMost∧c.fMost≤90)(ha:AN c.fAt=true)(hn:Dj c.fTxn=true):FJ (Dt m c).1=true∧MOk (Dt m c).2 N:=by
 have g:=scan_ok h.sp (p:=c.fSpan) (a:=c.fAt) (n:=c.fTxn) hm;unfold Dt;split
 ·exact ⟨BG (by omega),h⟩
 ·split
  ·exact ⟨QC g.2.2.2 ⟨by omega,by omega⟩ g.2.2.1 (by decide),h⟩
  ·refine ⟨?_,{h with low:=Ie h.low ha hn}⟩;simp only [FJ,g.2.1,decide_true,Bool.and_true,List.all_eq_true.2 g.1,Bool.true_and];rfl
theorem AHs (h:MOk m N)(ha:AN c.fAt=true)(ht:BU c.fTxn=true)(hs:Dj c.fSeq=true):FJ (Bm m c).1=true∧MOk (Bm m c).2 (N+1):=by
 have hm:=h.more (Nat.le_succ N);unfold Bm;split
 ·exact ⟨BG (by omega),hm⟩
 ·split
  ·rename_i r e;exact ⟨Jg h e,hm⟩
  ·split
   ·exact ⟨BG (RF h ha).1,hm⟩
   ·rename_i e1
    have h1:=(RF h ha).2 (by simpa using e1);split
    ·exact ⟨BG (RE h.low h1).1,hm⟩
    ·have g:=XW h.sp (Ak c (Ad m.low (Ar m c).1 c.fTxn).1);have hp:MOk {m with sp:=CI m.sp (Ak c (Ad m.low (Ar m c).1 c.fTxn).1),nt:=EM m.sp (Ak c (Ad m.low (Ar m c).1 c.fTxn).1) m.nt} (N+1):=by
      have:=AHr (x:=Ak c (Ad m.low (Ar m c).1 c.fTxn).1) h.sp;have h2:=h.rows;have h3:=h.vers;have h4:=AGI (N:=N);refine {h with sp:=h.sp.put,rows:=?_,vers:=?_}
      ·show (CI m.sp _).rows.length≤N+1;omega
      ·show Ac (CI m.sp _).rows≤(N+1) * (N+1);omega
     refine ⟨QC g.1 ⟨by omega,by omega⟩ g.2.1 g.2.2,?_⟩;simp only
     split
     ·exact PM hp ht hs g.2.2
     ·exact hp
theorem AHo (h:MOk m N)(ha:AN c.fTo=true)(ht:BU c.fTxn=true)(hs:Dj c.fSeq=true):FJ (CV m c).1=true∧MOk (CV m c).2 N:=by
 unfold CV;split
 ·exact ⟨BG (by omega),h⟩
 ·split
  ·rename_i r e;exact ⟨Jg h e,h⟩
  ·split
   ·exact ⟨BG (by omega),h⟩
   ·split
    ·exact ⟨BG (AEg _ _ _ _ _),h⟩
    ·split
     ·exact ⟨BG (by omega),h⟩
     ·exact ⟨BG (by omega),PM (m:={m with low:=An m.low c.fTo c.fTxn}) {h with low:=Ie h.low ha (maxB_iff.2 (Ce ht))} ht hs (by decide)⟩
theorem AIU (h:MOk m N)(ha:AN c.fAt=true)(ht:BU c.fTxn=true)(hs:Dj c.fSeq=true):FJ (DA m c).1=true∧MOk (DA m c).2 N:=by
 unfold DA;split
 ·rename_i r e;exact ⟨Jg h e,h⟩
 ·split
  ·exact ⟨BG (by omega),h⟩
  ·rename_i m1 e
   obtain ⟨h1,_⟩:=PY h ht ⟨by omega,by omega⟩ ha e;split
   ·exact ⟨QC ⟨by omega,by omega⟩ (Fc h1).1 (by decide) (by decide),h1⟩
   ·exact ⟨QC ⟨by omega,by omega⟩ ⟨by omega,by omega⟩ (by decide) (by decide),PM h1 ht hs (by decide)⟩
theorem AGB (c:TCmd):1≤DK c∧DK c≤3:=by unfold DK;split <;> omega
theorem AIN (h:MOk m N)(ha:AN c.fAt=true)(ht:BU c.fTxn=true):FJ (FV m c).1=true∧MOk (FV m c).2 N:=by
 unfold FV;split
 ·exact ⟨BG (by omega),h⟩
 ·rename_i m1 e
  obtain ⟨h1,hx⟩:=PY h ht ⟨by omega,by omega⟩ ha e;have h2:MOk (endOf m1 c) N:=by
   unfold endOf;split
   ·exact Nn h1 ht (AGB c) ha hx
   ·exact h1
  exact ⟨QC (by split <;> omega) (Fc h2).1 (by decide) (Fc h2).2,h2⟩
theorem ADm (h:MOk m N)(ha:AN c.fAt=true)(ht:BU c.fTxn=true):FJ (Do m c).1=true∧MOk (Do m c).2 N:=by
 unfold Do;split
 ·exact ⟨BG (by omega),h⟩
 ·rename_i m1 e
  obtain ⟨h1,hx⟩:=PY h ht ⟨by omega,by omega⟩ ha e;refine ⟨QC ⟨by omega,by omega⟩ ?_ (by decide) (Fc h1).2,?_⟩
  ·split
   ·exact ⟨by omega,by omega⟩
   ·exact (Fc h1).1
  ·show MOk (JO m1 c) N;unfold JO;split
   ·exact Nn h1 ht ⟨by omega,by omega⟩ (Fc h1).2 hx
   ·exact h1
theorem forM_ok (h:MOk m N):FJ (FU m c).1=true∧MOk (FU m c).2 N:=by
 unfold FU;split
 ·exact ⟨BG (by omega),h⟩
 ·refine ⟨BG (by omega),{h with recs:=h.recs.del,recsL:=?_,rec':=λq hq=>h.rec' q (List.mem_filter.1 hq).1}⟩;exact Nat.le_trans (List.length_filter_le _ _) h.recsL
theorem AHm (h:MOk m N):FJ (Ej m c).1=true∧MOk (Ej m c).2 (N+1):=by
 unfold Ej;split
 ·exact ⟨BG (by omega),h.more (Nat.le_succ N)⟩
 ·have g:=PU (c:=c) (l:=intsOf m.sp.rows) (nt:=m.nt) h.sp;have h1:=Ky m.sp.rows;have h2:=h.rows;have h3:=h.vers;have h4:=AGH (N:=N);refine ⟨BG g.1,{h with sp:=g.2.1,rows:=?_,vers:=?_}⟩
  ·show (DL _ _ _ _).2.1.rows.length≤N+1;omega
  ·show Ac (DL _ _ _ _).2.1.rows≤(N+1) * (N+1);omega
theorem AIQ (h:MOk m N):FJ (Rf m c).1=true∧MOk (Rf m c).2 N:=by
 have h1:=AIP (sp:=m.sp) (b:=c.fAt);have h2:=h.rows;have h3:=h.vers;refine ⟨BG (YE _ _),{h with sp:=h.sp.col,rows:=?_,vers:=?_}⟩
 ·show (colS m.sp c.fAt).rows.length≤N;omega
 ·show Ac (colS m.sp c.fAt).rows≤N * N;omega
theorem split_ok (h:MOk m N)(hk:Aj c.fKey=true):FJ (CB m c).1=true∧MOk (CB m c).2.1 N∧∀r,(CB m c).2.2=some r→MOk r N:=by
 unfold CB;split
 ·exact ⟨BG (by omega),h,λr hr=>by cases hr⟩
 ·rename_i e
  have hi:inB m.span c.fKey=true∧c.fKey≠m.span.fFrom:=by
   constructor
   ·cases hb:inB m.span c.fKey with
    |true=>rfl
    |false=>exact absurd (.inl hb) e
   ·exact λe2=>e (.inr e2)
  have hv:=WZ (k:=c.fKey) h.sp;have hkl:=Et hk;have hsp:=h.span;simp only [CC,Bool.and_eq_true,Bool.or_eq_true,decide_eq_true_eq,beq_iff_eq] at hsp;have hin:=hi.1;simp only [inB,Bool.and_eq_true,Bool.or_eq_true,Bool.not_eq_true',beq_iff_eq] at hin;have hlt:blt m.span.fFrom c.fKey=true:=by
   cases hb:blt m.span.fFrom c.fKey with
   |true=>rfl
   |false=>exact absurd (DG _ _ hin.1 hb) hi.2
  have fl:∀f:(List UInt8×TMk)→Bool,SrtA blt (m.marks.filter f)∧(m.marks.filter f).length≤32∧∀q∈m.marks.filter f,Aj q.1=true∧MkOk q.2:=λf=>
   ⟨List.Pairwise.sublist List.filter_sublist h.marks,Nat.le_trans (List.length_filter_le _ _) h.marksL,λq hq=>h.mark q (List.mem_filter.1 hq).1⟩
  have h2:=h.rows;have h3:=h.vers;refine ⟨BG (by omega),{h with span:=?_,sp:=AGN h.sp,rows:=by show (HV c.fKey m.sp).rows.length≤N;omega,vers:=by show Ac (HV c.fKey m.sp).rows≤N * N;omega,marks:=(fl _).1,marksL:=(fl _).2.1,mark:=(fl _).2.2},λr hr=>?_⟩
  ·simp only [CC,Bool.and_eq_true,Bool.or_eq_true,decide_eq_true_eq,beq_iff_eq];exact ⟨⟨hsp.1.1,by omega⟩,.inr hlt⟩
  ·cases hr
   refine {h with span:=?_,sp:=AGM h.sp,rows:=by show (GN c.fKey m.sp).rows.length≤N;omega,vers:=by show Ac (GN c.fKey m.sp).rows≤N * N;omega,marks:=(fl _).1,marksL:=(fl _).2.1,mark:=(fl _).2.2,recs:=List.Pairwise.nil,recsL:=by simp,rec':=λq hq=>by cases hq};simp only [CC,Bool.and_eq_true,Bool.or_eq_true,decide_eq_true_eq,beq_iff_eq];exact ⟨⟨by omega,hsp.1.2⟩,hin.2⟩
theorem JZ {c:TCmd}(h:kindOk c=true)(h11:c.fKind=11∨c.fKind=1∨c.fKind=3):Aj c.fKey=true:=by
 unfold kindOk at h;rcases h11 with e|e|e <;> simp [e] at h <;> simp [h]
theorem EB {c:TCmd}(h:kindOk c=true)(hk:3≤c.fKind∧c.fKind≤9):BU c.fTxn=true:=by
 unfold kindOk at h;have:c.fKind=3∨c.fKind=4∨c.fKind=5∨c.fKind=6∨c.fKind=7∨c.fKind=8∨c.fKind=9:=by omega
 rcases this with e|e|e|e|e|e|e <;> simp [e] at h <;> simp [h]
theorem RJ {c:TCmd}(h:kindOk c=true)(hk:c.fKind=2):1≤c.fMost∧c.fMost≤90:=by
 unfold kindOk at h;simp [hk] at h;omega
theorem Ds {α:Type}{P:α→Prop}{q:Prop}[Decidable q]{a b:α}(h1:q→P a)(h2:¬q→P b):P (if q then a else b):=by
 by_cases h:q
 ·rw [if_pos h];exact h1 h
 ·rw [if_neg h];exact h2 h
def OkR (N:Nat)(r:TRes×Mch×Option Mch):Prop:=FJ r.1=true∧MOk r.2.1 N∧∀x,r.2.2=some x→MOk x N
theorem OkR.ns {r:TRes×Mch}(h:FJ r.1=true∧MOk r.2 N):OkR N (Al r):=⟨h.1,h.2,λx hx=>by cases hx⟩
theorem OkR.up {r:TRes×Mch}(h:FJ r.1=true∧MOk r.2 N):OkR (N+1) (Al r):=OkR.ns ⟨h.1,h.2.more (Nat.le_succ N)⟩
theorem Oh (h:MOk m N):OkR (N+1) (Ap m c):=by
 have hm:=h.more (Nat.le_succ N);unfold Ap;refine Ds (λe=>⟨BG (by omega),hm,λr hr=>by cases hr⟩) (λe=>?_);have hr:BV c=true:=by simpa using e
 have hc:=HJ hr;have hk:kindOk c=true:=by
  simp only [BV,Bool.and_eq_true] at hr;exact hr.2
 have hT:Dj c.fTxn=true:=maxB_iff.2 hc.txn;have hS:Dj c.fSeq=true:=maxB_iff.2 hc.seq;have hK:=hc.kind;unfold doM;refine Ds (λe=>OkR.up (AIJ h (JZ hk (.inr (.inl e))) hc.at' hT)) (λh1=>?_);refine Ds (λe=>OkR.up (ADB h (RJ hk e) hc.at' hT)) (λh2=>?_);refine Ds (λe=>OkR.ns (AHs h hc.at' (EB hk (by omega)) hS)) (λh3=>?_);refine Ds (λe=>OkR.up (AHo h hc.to (EB hk (by omega)) hS)) (λh4=>?_);refine Ds (λe=>OkR.up (AIU h hc.at' (EB hk (by omega)) hS)) (λh5=>?_);refine Ds (λe=>OkR.up (AIN h hc.at' (EB hk (by omega)))) (λh6=>?_);refine Ds (λe=>OkR.up (ADm h hc.at' (EB hk (by omega)))) (λh7=>?_);refine Ds (λe=>OkR.up (forM_ok h)) (λh8=>?_);refine Ds (λe=>OkR.ns (AHm h)) (λh9=>?_);refine Ds (λe=>OkR.up (AIQ h)) (λh10=>?_);have:=split_ok h (c:=c) (JZ hk (.inl (by omega)));exact ⟨this.1,this.2.1.more (Nat.le_succ N),λr hr=>(this.2.2 r hr).more (Nat.le_succ N)⟩
theorem Vr {p:TSpan}(h:CC p=true):MOk (GO p) 0:=⟨h,AJM,Nat.le_refl _,Nat.le_refl _,List.Pairwise.nil,by simp [GO],(λq hq=>by cases hq),ADx,List.Pairwise.nil,by simp [GO],(λq hq=>by cases hq),List.Pairwise.nil,by simp [GO],(λq hq=>by cases hq),by show Dj 0=true;decide⟩
end
abbrev rcv (x:TRc):Value:=.agg #[.int .i64 x.fState,.int .i64 x.fAt.fWall,.int .i64 x.fAt.fLogic]
abbrev snv (x:TSn):Value:=.agg #[.int .i64 x.fSeq,.int .i64 x.fCode,.int .i64 x.fAt.fWall,.int .i64 x.fAt.fLogic]
abbrev AJw (v0 v1:Value)(s mk:Nat)(low:TMk)(rc sn:Nat)(old:Int)(kv:Value):Obj:=
 .cells #[v0,v1,pt s,.map (some mk),.int .i64 low.fAt.fWall,.int .i64 low.fAt.fLogic,.int .i64 low.fBy,.map (some rc),.map (some sn),.int .i64 old,kv] 163 (0,0)
abbrev rv (e:Int)(a:TStamp)(n s:Int):Value:=.agg #[.int .i64 e,.bool false,.slice none 0 0,.int .i64 0,.int .i64 0,.int .i64 0,.slice none 0 0,.int .i64 a.fWall,.int .i64 a.fLogic,.int .i64 n,.int .i64 s]
theorem Cm (I:Imm)(e:Int)(a:TStamp)(n s:Int):TResV I ⟨e,BE,[],a,n,s⟩ [.int .i64 e,.bool false,.slice none 0 0,.int .i64 0,.int .i64 0,.int .i64 0,.slice none 0 0,.int .i64 a.fWall,.int .i64 a.fLogic,.int .i64 n,.int .i64 s]:=
 ⟨_,_,rfl,SlI.nil I 1 none 0,RL.nil none 0⟩
section
variable {ω:Om}{I:Imm}{L:LH}{K:Value→M}
theorem Au {e:Int}(hk:K (rv e z0 0 0) I L):CT ω 34 #[.int .i64 e] K I L:=by
 refine ANe ?_;unfold sh34;repeat' (first|refine Γ ?_|refine Θ (λ_=>?_)|refine Δ ?_|(with_reducible first|refine AK (sh34.eq_1 ..) ?_|refine And.intro ?_ ?_)|refine Φ ?_|refine Ξ (λ_=>?_) (λ_=>?_)|refine O ?_|fail)
 exact Gh.to L (Gh.done hk)
structure MV where
 km:Nat
 rc:Nat
 sn:Nat
 v0:Value
 v1:Value
 kv:Value
 e1:Array MapEntry
 c1:Nat
 e2:Array MapEntry
 c2:Nat
 e3:Array MapEntry
 c3:Nat
abbrev mL (b s:Nat)(V:MV)(m:Mch)(R:LH):LH:=
 (b,AJw V.v0 V.v1 s V.km m.low V.rc V.sn m.oldest V.kv)::(V.km,.map V.e1 V.c1)::(V.rc,.map V.e2 V.c2)::(V.sn,.map V.e3 V.c3)::R
structure MF (I:Imm)(V:MV)(m:Mch):Prop where
 f0:Bytes I V.v0 m.span.fFrom
 f1:Bytes I V.v1 m.span.fTo
 mks:MapS V.e1 V.c1 (BO mv m.marks)
 rcs:MapSi V.e2 V.c2 (BO rcv m.recs)
 sns:MapSi V.e3 V.c3 (BO snv m.seen)
 kpt:Bytes I V.kv m.kept
theorem MF.mono {I I':Imm}{V:MV}{m:Mch}(h:MF I V m)(hI:Ext I I'):MF I' V m:={h with f0:=h.f0.mono hI,f1:=h.f1.mono hI,kpt:=h.kpt.mono hI}
variable {b s:Nat}{V:MV}{m:Mch}{R:LH}{c:TCmd}{cc:List Value}
class AtL (b:Nat) (L:LH) (L1:outParam LH) (o:outParam Obj) (L2:outParam LH):Prop where
 eq:L=L1++(b,o)::L2
instance atRight (b:Nat)(A L L1:LH)(o:Obj)(L2:LH)[h:AtL b L L1 o L2]:AtL b (A++L) (A++L1) o L2:=⟨by rw [h.eq,List.append_assoc]⟩
instance atThere (b:Nat)(x:Nat×Obj)(L L1:LH)(o:Obj)(L2:LH)[h:AtL b L L1 o L2]:AtL b (x::L) (x::L1) o L2:=⟨by rw [h.eq];rfl⟩
instance atHere (b:Nat)(o:Obj)(L:LH):AtL b ((b,o)::L) [] o L:=⟨rfl⟩
theorem Qo {β:Type}{enc:β→Value}{l:AL Int β}{k:Int}{x:β}{v:Value}{r c:Nat}{es:Array MapEntry}{L1 L2:LH}[hL:AtL r L L1 (.map es c) L2](h:MapSi es c (BO enc l))(hv:v=enc x)
  (hk:∀e' c',MapSi e' c' (BO enc (Am ilt k x l))→Gh (K undef) I (L1++(r,.map e' c')::L2)):Gu (.int .i64) (.map (some r)) (.int .i64 k) v (gh K) I L:=by
 obtain ⟨e',c',he,hM⟩:=h.put k v;rw [hv,Xr] at hM;have u:UpL r L (.map es c) (.map e' c') (L1++(r,.map e' c')::L2):=⟨L1,L2,hL.eq,rfl⟩;exact AMg (k:=k) h he (hk e' c' hM)
theorem Vl {β:Type}{enc:β→Value}{l:AL Key β}{k:Key}{x:β}{v:Value}{r c:Nat}{es:Array MapEntry}{L1 L2:LH}[hL:AtL r L L1 (.map es c) L2](h:MapS es c (BO enc l))(hv:v=enc x)
  (hk:∀e' c',MapS e' c' (BO enc (Am blt k x l))→Gh (K undef) I (L1++(r,.map e' c')::L2)):Gu .string (.map (some r)) (BS k) v (gh K) I L:=by
 obtain ⟨e',c',he,hM⟩:=h.put k v;rw [hv,AEV] at hM;have u:UpL r L (.map es c) (.map e' c') (L1++(r,.map e' c')::L2):=⟨L1,L2,hL.eq,rfl⟩;exact AHq (k:=k) h he (hk e' c' hM)
theorem AIp {β:Type}{enc:β→Value}{l:AL Int β}{k:Int}{r c:Nat}{es:Array MapEntry}{L1 L2:LH}[hL:AtL r L L1 (.map es c) L2](h:MapSi es c (BO enc l))
  (hk:∀e',MapSi e' c (BO enc (Hx k l))→Gh (K (.tuple #[])) I (L1++(r,.map e' c)::L2)):NV (.int .i64) (.map (some r)) (.int .i64 k) (gh K) I L:=by
 obtain ⟨e',he,hM⟩:=h.del k;rw [Xu] at hM;have u:UpL r L (.map es c) (.map e' c) (L1++(r,.map e' c)::L2):=⟨L1,L2,hL.eq,rfl⟩;exact AMq (k:=k) h he (hk e' hM)
theorem lkI {zero:Value}{ok:Bool}{m:Int→Option Value}{k:Int}{r c:Nat}{es:Array MapEntry}[InL r L (.map es c)](h:MapSi es c m)(hk:K (lkV zero ok (m k)) I L):Rv none (lkR (.int .i64) zero ok (.map (some r)) (.int .i64 k)) K I L:=AOI (k:=k) h hk
theorem TR {zero:Value}{ok:Bool}{m:Int→Option Value}{k:Int}{r c:Nat}{es:Array MapEntry}{I0:Imm}{X:LH}[InL r X (.map es c)](h:MapSi es c m)(hk:K (lkV zero ok (m k)) I L):Rv (some (Stay I0 X)) (lkR (.int .i64) zero ok (.map (some r)) (.int .i64 k)) K I L:=AMi (k:=k) h hk
theorem lkT {zero:Value}{ok:Bool}{m:Key→Option Value}{k:Key}{r c:Nat}{es:Array MapEntry}[InL r L (.map es c)](h:MapS es c m)(hk:K (lkV zero ok (m k)) I L):Rv none (lkR .string zero ok (.map (some r)) (BS k)) K I L:=lkm (k:=k) h hk
theorem AEG {zero:Value}{ok:Bool}{m:Key→Option Value}{k:Key}{r c:Nat}{es:Array MapEntry}{I0:Imm}{X:LH}[InL r X (.map es c)](h:MapS es c m)(hk:K (lkV zero ok (m k)) I L):Rv (some (Stay I0 X)) (lkR .string zero ok (.map (some r)) (BS k)) K I L:=AOJ (k:=k) h hk
theorem Iq (b:Nat)(V:MV){P:Program}{f:FuncId}{args:Array Value}{o1 o2 o3 o4:Obj}{R1 R2 R3 R4:LH}[PickB b L o1 R1][PickB V.km R1 o2 R2][PickB V.rc R2 o3 R3][PickB V.sn R3 o4 R4]
  (h:Cal P ω f args K I ((b,o1)::(V.km,o2)::(V.rc,o3)::(V.sn,o4)::R4)):Cal P ω f args K I L:=by
 refine Cal.perm (L':=(b,o1)::(V.km,o2)::(V.rc,o3)::(V.sn,o4)::R4) ?_ h;have p1:L.Perm ((b,o1)::R1):=PickB.perm;have p2:R1.Perm ((V.km,o2)::R2):=PickB.perm;have p3:R2.Perm ((V.rc,o3)::R3):=PickB.perm;have p4:R3.Perm ((V.sn,o4)::R4):=PickB.perm;exact p1.trans (.cons _ (p2.trans (.cons _ (p3.trans (.cons _ p4)))))
theorem GF (hF:MF I V m)(hc:TCmdV I c cc)
  (hk1:∀e a,Ax m c=some ⟨e,BE,[],a,0,0⟩→K (.tuple #[rv e a 0 0,.bool true]) I (mL b s V m R)) (hk2:Ax m c=none→K (.tuple #[rv 0 z0 0 0,.bool false]) I (mL b s V m R)):
  CT ω 154 #[pt b,.agg cc.toArray] K I (mL b s V m R):=by
 have hM:=hF.sns;obtain ⟨w0,w1,w2,w3,rfl,g0,g1,g2,g3⟩:=hc;refine ALa ?_;unfold sh154;cases hx:lkA m.seen c.fTxn with
 |none=>
  have hl:BO snv m.seen c.fTxn=none:=by unfold BO;rw [hx];rfl
  have ha:Ax m c=if c.fTxn≤m.oldest then some (Ag 144) else none:=by unfold Ax;rw [hx]
  rw [ha] at hk1 hk2;repeat' (first|refine Γ ?_|(with_reducible first|refine AQ (λ_=>?_)|refine TR hM ?_)|(refine Ψ ?_;refine (Au ?_))|refine Δ ?_|(with_reducible first|refine AK (sh154_1.eq_1 ..) ?_|refine AK (sh154_3.eq_1 ..) ?_|refine AK (sh154_4.eq_1 ..) ?_|refine AK (sh154_2.eq_1 ..) ?_|refine AK (sh154.eq_1 ..) ?_|refine And.intro ?_ ?_)|refine Φ ?_|refine Ξ (λ_=>?_) (λ_=>?_)|(simp only [SSd,Nat.reduceAdd,hl,lkV,if_true]))
  all_goals first
   |exact Gh.to (mL b s V m R) (Gh.done (hk1 144 z0 (by rw [if_pos (by first|(simp_all;done)|(simp_all;omega)|omega)];rfl)))
   |exact Gh.to (mL b s V m R) (Gh.done (hk2 (by rw [if_neg (by first|(simp_all;done)|(simp_all;omega)|omega)])))
 |some x=>
  have hl:BO snv m.seen c.fTxn=some (snv x):=by unfold BO;rw [hx];rfl
  have ha:Ax m c=if x.fSeq=c.fSeq then some ⟨x.fCode,BE,[],x.fAt,0,0⟩ else if c.fSeq < x.fSeq then some (Ag 144) else none:=by unfold Ax;rw [hx]
  rw [ha] at hk1 hk2;repeat' (first|refine Γ ?_|(with_reducible first|refine AQ (λ_=>?_)|refine TR hM ?_)|(refine Ψ ?_;refine (Au ?_))|refine Δ ?_|(with_reducible first|refine AK (sh154_1.eq_1 ..) ?_|refine AK (sh154_3.eq_1 ..) ?_|refine AK (sh154_4.eq_1 ..) ?_|refine AK (sh154_2.eq_1 ..) ?_|refine AK (sh154.eq_1 ..) ?_|refine And.intro ?_ ?_)|refine Φ ?_|refine Ξ (λ_=>?_) (λ_=>?_)|(simp only [SSd,Nat.reduceAdd,hl,lkV,if_true]))
  all_goals first
   |exact Gh.to (mL b s V m R) (Gh.done (hk1 _ _ (by rw [if_pos (by first|(simp_all;done)|(simp_all;omega)|omega)])))
   |exact Gh.to (mL b s V m R) (Gh.done (hk1 144 z0 (by rw [if_neg (by first|(simp_all;done)|(simp_all;omega)|omega),if_pos (by first|(simp_all;done)|(simp_all;omega)|omega)];rfl)))
   |exact Gh.to (mL b s V m R) (Gh.done (hk2 (by rw [if_neg (by first|(simp_all;done)|(simp_all;omega)|omega),if_neg (by first|(simp_all;done)|(simp_all;omega)|omega)])))
theorem GX {n st:Int}{a:TStamp}(hF:MF I V m)(hs:SrtA ilt m.recs)
  (hk1:Cu m n st a=none→K (.bool false) I (mL b s V m R)) (hk2:∀V' m1,Cu m n st a=some m1→MF I V' m1→K (.bool true) I (mL b s V' m1 R)):
  CT ω 160 #[pt b,.int .i64 n,.int .i64 st,sv a] K I (mL b s V m R):=by
 have hM:=hF.rcs;refine ALU ?_;unfold sh160;have hsz:=hM.sizeA hs;cases hx:lkA m.recs n with
 |none=>
  have hl:BO rcv m.recs n=none:=by unfold BO;rw [hx];rfl
  have ha:Cu m n st a=if 64≤m.recs.length then none else some {m with recs:=Am ilt n ⟨st,a⟩ m.recs}:=by unfold Cu;rw [hx];rfl
  rw [ha] at hk1 hk2;repeat' (first|refine Γ ?_|(with_reducible first|refine AQ (λ_=>?_)|refine lkI hM ?_|refine RG ?_)|((with_reducible refine Qo (x:=⟨st,a⟩) hM ?_ (λes' c' hM'=>Gh.done ?_));rfl)|refine Δ ?_|(with_reducible first|refine AK (sh160.eq_1 ..) ?_|refine And.intro ?_ ?_)|refine Φ ?_|refine Ξ (λ_=>?_) (λ_=>?_)|(simp only [SSd,Nat.reduceAdd,hl,lkV,if_true,hsz]))
  all_goals first
   |exact Gh.to (mL b s V m R) (Gh.done (hk1 (by rw [if_pos (by first|(simp_all;done)|(simp_all;omega)|omega)])))
   |rename_i es' c' hM';exact Gh.to (mL b s {V with e2:=es',c2:=c'} {m with recs:=Am ilt n ⟨st,a⟩ m.recs} R) (Gh.done (hk2 {V with e2:=es',c2:=c'} {m with recs:=Am ilt n ⟨st,a⟩ m.recs} (by rw [if_neg (by first|(simp_all;done)|(simp_all;omega)|omega)]) {hF with rcs:=hM'}))
 |some x=>
  have hl:BO rcv m.recs n=some (rcv x):=by unfold BO;rw [hx];rfl
  have ha:Cu m n st a=some m:=by unfold Cu;rw [hx];rfl
  rw [ha] at hk1 hk2;repeat' (first|refine Γ ?_|(with_reducible first|refine AQ (λ_=>?_)|refine lkI hM ?_|refine RG ?_)|((with_reducible refine Qo (x:=⟨st,a⟩) hM ?_ (λes' c' hM'=>Gh.done ?_));rfl)|refine Δ ?_|(with_reducible first|refine AK (sh160.eq_1 ..) ?_|refine And.intro ?_ ?_)|refine Φ ?_|refine Ξ (λ_=>?_) (λ_=>?_)|(simp only [SSd,Nat.reduceAdd,hl,lkV,if_true,hsz]))
  all_goals exact Gh.to (mL b s V m R) (Gh.done (hk2 V m rfl hF))
theorem PX {m:Mch}{n:Int}:lkV (.agg #[.int .i64 0,.int .i64 0,.int .i64 0]) false (BO rcv m.recs n)=rcv (recAt m n):=by
 unfold recAt BO;cases lkA m.recs n with
 |none=>rfl
 |some x=>rfl
theorem AHp {l:AL Int TRc}{n:Int}{x:TRc}{z:Value}:lkV z false (BO rcv (Am ilt n x l) n)=rcv x:=by
 unfold BO;rw [Em,if_pos rfl];rfl
theorem Nw {m:Mch}{n:Int}{x:TRc}:recAt {m with recs:=Am ilt n x m.recs} n=x:=by
 unfold recAt;rw [show ({m with recs:=Am ilt n x m.recs}:Mch).recs=Am ilt n x m.recs from rfl,Em,if_pos rfl];rfl
abbrev rvR (r:TRes):Value:=rv r.fCode r.fAt r.fBy r.fState
theorem OV (e:Cu m c.fTxn 3 c.fAt=none):FV m c=(Ag 143,m):=by unfold FV;rw [e]
theorem OU {m1:Mch}(e:Cu m c.fTxn 3 c.fAt=some m1)(h:(recAt m1 c.fTxn).fState=1):FV m c=(⟨0,BE,[],c.fAt,0,DK c⟩,{m1 with recs:=Am ilt c.fTxn ⟨DK c,c.fAt⟩ m1.recs}):=by
 unfold FV;rw [e];simp only;unfold endOf;rw [if_pos h,Nw];simp
theorem Ra {m1:Mch}(e:Cu m c.fTxn 3 c.fAt=some m1)(h:(recAt m1 c.fTxn).fState≠1)(h2:(recAt m1 c.fTxn).fState≠DK c):FV m c=(⟨142,BE,[],(recAt m1 c.fTxn).fAt,0,(recAt m1 c.fTxn).fState⟩,m1):=by
 unfold FV;rw [e];simp only;unfold endOf;rw [if_neg h,if_pos h2]
theorem RZ {m1:Mch}(e:Cu m c.fTxn 3 c.fAt=some m1)(h:(recAt m1 c.fTxn).fState≠1)(h2:(recAt m1 c.fTxn).fState=DK c):FV m c=(⟨0,BE,[],(recAt m1 c.fTxn).fAt,0,(recAt m1 c.fTxn).fState⟩,m1):=by
 unfold FV;rw [e];simp only;unfold endOf;rw [if_neg h,if_neg (by simp [h2])]
theorem AEU (hF:MF I V m)(hs:SrtA ilt m.recs)(hc:TCmdV I c cc)(hk:∀r m',FV m c=(r,m')→∀V',MF I V' m'→K (rvR r) I (mL b s V' m' R)):
  CT ω 99 #[pt b,.agg cc.toArray] K I (mL b s V m R):=by
 obtain ⟨w0,w1,w2,w3,rfl,g0,g1,g2,g3⟩:=hc;refine AMs ?_;unfold sh99;refine AQ (λb1=>AQ (λb2=>?_));have hw:DK c=if c.fYes=true then 2 else 3:=rfl
 cases hy:c.fYes <;> rw [hy] at hw <;> simp only [Bool.false_eq_true,if_false,if_true] at hw
 all_goals repeat' (first|refine Γ ?_|refine Θ (λ_=>?_)|(refine Ψ ?_;refine (Iq b V (GX hF hs (λe=>?_) (λV1 m1 e hF1=>?_))))|(refine Ψ ?_;refine (Au ?_))|(with_reducible refine TR hF1.rcs ?_)|((with_reducible refine Qo (x:=⟨DK c,c.fAt⟩) hF1.rcs ?_ (λe' c' hM'=>Gh.done ?_));rw [hw])|(with_reducible first|refine TR hM' ?_)|refine Δ ?_|(with_reducible first|refine AK (sh99_3.eq_1 ..) ?_|refine AK (sh99_2.eq_1 ..) ?_|refine AK (sh99_1.eq_1 ..) ?_|refine AK (sh99.eq_1 ..) ?_|refine And.intro ?_ ?_)|refine Φ ?_|refine Ξ (λ_=>?_) (λ_=>?_)|(simp only [SSd,Nat.reduceAdd,PX,AHp,hy,hw]))
 all_goals first
  |exact Gh.to (mL b s V m R) (Gh.done (hk _ _ (OV e) V hF))
  |exact Gh.to (mL b s V1 m1 R) (Gh.done (hk _ _ (Ra e (by first|(simp_all;done)|(simp_all;omega)|omega) (by first|(simp_all;done)|(simp_all;omega)|omega)) V1 hF1))
  |exact Gh.to (mL b s V1 m1 R) (Gh.done (hk _ _ (RZ e (by first|(simp_all;done)|(simp_all;omega)|omega) (by first|(simp_all;done)|(simp_all;omega)|omega)) V1 hF1))
  |(have hk':=hk _ _ (OU e (by first|(simp_all;done)|(simp_all;omega)|omega)) {V1 with e2:=e',c2:=c'} {hF1 with rcs:=hM'};rw [hw] at hk';exact Gh.to (mL b s {V1 with e2:=e',c2:=c'} {m1 with recs:=Am ilt c.fTxn ⟨DK c,c.fAt⟩ m1.recs} R) (Gh.done hk'))
  |trace_state
end
theorem Dh:∀{a c:List MapEntry},a.Nodup→(∀x∈a,x∈c)→a.length≤c.length
 |[],c,_,_=>by simp
 |x::a,c,hn,hs=>by
  obtain ⟨C1,C2,rfl⟩:=List.append_of_mem (hs x (List.mem_cons_self ..));have:=Dh (a:=a) (c:=C1++C2) (List.nodup_cons.1 hn).2 (λy hy=>by
   have h1:=hs y (List.mem_cons_of_mem _ hy);simp only [List.mem_append,List.mem_cons] at h1 ⊢;rcases h1 with h1|rfl|h1
   ·exact .inl h1
   ·exact absurd hy (List.nodup_cons.1 hn).1
   ·exact .inr h1)
  simp only [List.length_append,List.length_cons] at this ⊢;omega
section
variable {ω:Om}{I:Imm}{L:LH}{K:Value→M}
theorem AMn {yv:Value}{qm m:Nat}{es:Array MapEntry}{clock:Nat}{mm:Key→Option Value}(J:List MapEntry→M)(hm:MapS es clock mm)
  (hJ:∀vis I' L',J vis I' L'→Cell I' L' qm 0 (.map (some m))∧MapAt I' L' m es clock)
  (hstep:∀vis e b I' L',J vis I' L'→e∈es.toList→It es (vis++[e])→CW ω yv #[e.key] (λv=>Gh λI2 L2=>v= .bool true∧∃L3,L2=(b,Bc m clock (vis++[e]))::L3∧J (vis++[e]) I2 L3) I' ((b,Bc m clock (vis++[e]))::L'))
  (h0:J [] I L) (hk:∀vis I' L',vis.Perm es.toList→J vis I' L'→K (.tuple #[]) I' L'):
  CT ω 181 #[yv,pt qm] K I L:=by
 obtain ⟨hc,hmp⟩:=hJ _ _ _ h0;refine ALE ?_;unfold ABA;refine rdC hc (Ext.refl _) ?_;refine XD hmp (λb=>?_);refine Gh.done ?_;refine loop (λn s I' L'=>∃vis L3,It es vis∧n+vis.length=es.toList.length∧L'=(b,Bc m clock vis)::L3∧J vis I' L3) es.toList.length ⟨[],L,It.none es,rfl,rfl,h0⟩ ?_;rintro n s I' L' ⟨vis,L3,hi,hn,rfl,hJ3⟩;unfold Un;obtain ⟨hc3,hmp3⟩:=hJ _ _ _ hJ3;refine AJt hm hmp3 hi (λhp=>Gh.done ?_) (λe he hi'=>Gh.done ?_)
 ·try refine O ?_
  exact Gh.to L3 (Gh.done (hk vis I' L3 hp hJ3))
 ·have hlen:vis.length+1≤es.toList.length:=by
   have:=Dh (BH hi'.nod) hi'.sub;simpa using this
  try refine O ?_
  refine ⟨_,AIM hm hmp3 he,?_⟩;try refine O ?_
  refine CalV.mono (hstep vis e b I' L3 hJ3 he hi') (λv2 I2 L2 hv2=>Gh.mono hv2 ?_);rintro I3 L3' ⟨rfl,L4,rfl,hJ4⟩;simp only [Bool.not_true,SSd,Nat.reduceAdd];exact (Gh.done ⟨n - 1,by omega,_,L4,hi',by rw [List.length_append,List.length_singleton];omega,rfl,hJ4⟩)
theorem AIi {m:Nat}(hk:∀qm,K (.func (.func 181) #[] #[pt qm]) I ((qm,.cells #[.map (some m)] 157 (0,0))::L)):CT ω 127 #[.map (some m)] K I L:=by
 refine ALs ?_;unfold ACQ;exact AQ (λqm=>Gh.done (hk qm))
theorem AIl {qm m:Nat}{es:Array MapEntry}{clock:Nat}{mm:Key→Option Value}(hm:MapS es clock mm)(hN:es.toList.length≤1000000)(hmp:MapAt I L m es clock)
  (hk:∀(X:LH) (v:Value) (vis:List MapEntry),vis.Perm es.toList→SlO 9 1 X v ((vis.map Aw).map CJ) vis.length→K v I (X++L)):
  CT ω 179 #[.func (.func 181) #[] #[pt qm]] K I ((qm,.cells #[.map (some m)] 157 (0,0))::L):=by
 refine ALF ?_;unfold ABC;refine call ?_;refine AKd ?_;unfold AAC;refine AQ (λbs=>?_);unfold JB NU;simp only
 rw [if_pos (show Bj Tryz.prog 181=true by kernel_rfl)];intro l D Lo _ hy;refine AMn (qm:=qm) (m:=m) (es:=es) (clock:=clock) (mm:=mm)
  (λvis I' L'=>I'=I∧∃XO vo,SlO 9 1 XO vo ((vis.map Aw).map CJ) vis.length∧vis.length≤es.toList.length∧L'=(l,Lo .ready none)::(D,.deferred (some []))::(bs,.cells #[vo] 177 (0,0))::(XO++(qm,.cells #[.map (some m)] 157 (0,0))::L)) hm ?_ ?_ ?_ ?_
 ·rintro vis I' L' ⟨rfl,XO,vo,_,_,rfl⟩;exact ⟨Cell.own (b:=qm) (cs:=#[.map (some m)]) (T:=157) (fr:=(0,0)) (by simp) rfl,MapAt.mono hmp (Ext.refl _) (λx hx=>by simp [hx])⟩
 ·rintro vis e b I' L' ⟨rfl,XO,vo,hO,hlv,rfl⟩ he hi';have hlen:vis.length+1≤es.toList.length:=by
   have:=Dh (BH hi'.nod) hi'.sub;simpa using this
  have hek:e.key=CJ (Aw e):=by
   obtain ⟨s,hs⟩:=hm.str e he;simp [Aw,hs,CJ]
  refine hy _ _ _ _ rfl (SS ?_);simp only [List.head!];refine Tt ?_;refine rdb ?_;rw [hek];refine EH rfl (by omega) rfl (λX1 u hX1=>?_);obtain ⟨va,vc,rfl⟩:=hO.form;refine DX (X:=XO) rfl hO (hX1.news (λx hx=>by simp [hx])) (by simp [Value.cells,Value.oneCell',CJ]) (by omega) (by omega) (λX6 v6 h6=>?_);obtain ⟨a6,c6,rfl⟩:=h6.form;refine st1 rfl ?_;refine Pr ?_;refine Gh.to ((b,Bc m clock (vis++[e]))::(l,Lo .ready none)::(D,.deferred (some []))::(bs,.cells #[.slice a6 (vis.length+1) c6] 177 (0,0))::(X6++(qm,.cells #[.map (some m)] 157 (0,0))::L)) (Gh.done ⟨rfl,_,rfl,rfl,X6,_,?_,?_,rfl⟩)
  ·simpa [Value.cells,CJ] using h6
  ·simpa using hlen
 ·exact ⟨rfl,[],_,SlO.none _ _,Nat.zero_le _,rfl⟩
 ·rintro vis I' L' hp ⟨rfl,XO,vo,hO,hlv,rfl⟩;refine Gh.done (Ps (s:=.ready) (j:=none) (by simp) ?_);show PH ω (pt bs) (.slice none 0 0) D _ _ _;unfold PH;refine rdb ?_;refine tak ?_;exact Gh.to (XO++L) (Gh.done (Gh.done (hk XO vo vis hp hO)))
theorem AMm {yv:Value}{qm m:Nat}{es:Array MapEntry}{clock:Nat}{mm:Int→Option Value}(J:List MapEntry→M)(hm:MapSi es clock mm)
  (hJ:∀vis I' L',J vis I' L'→Cell I' L' qm 0 (.map (some m))∧MapAt I' L' m es clock)
  (hstep:∀vis e b I' L',J vis I' L'→e∈es.toList→It es (vis++[e])→CW ω yv #[e.key] (λv=>Gh λI2 L2=>v= .bool true∧∃L3,L2=(b,Bc m clock (vis++[e]))::L3∧J (vis++[e]) I2 L3) I' ((b,Bc m clock (vis++[e]))::L'))
  (h0:J [] I L) (hk:∀vis I' L',vis.Perm es.toList→J vis I' L'→K (.tuple #[]) I' L'):
  CT ω 184 #[yv,pt qm] K I L:=by
 obtain ⟨hc,hmp⟩:=hJ _ _ _ h0;refine ALD ?_;unfold AAx;refine rdC hc (Ext.refl _) ?_;refine XD hmp (λb=>?_);refine Gh.done ?_;refine loop (λn s I' L'=>∃vis L3,It es vis∧n+vis.length=es.toList.length∧L'=(b,Bc m clock vis)::L3∧J vis I' L3) es.toList.length ⟨[],L,It.none es,rfl,rfl,h0⟩ ?_;rintro n s I' L' ⟨vis,L3,hi,hn,rfl,hJ3⟩;unfold Ul;obtain ⟨hc3,hmp3⟩:=hJ _ _ _ hJ3;refine AIg hm hmp3 hi (λhp=>Gh.done ?_) (λe he hi'=>Gh.done ?_)
 ·try refine O ?_
  exact Gh.to L3 (Gh.done (hk vis I' L3 hp hJ3))
 ·have hlen:vis.length+1≤es.toList.length:=by
   have:=Dh (BH hi'.nod) hi'.sub;simpa using this
  try refine O ?_
  refine ⟨_,AIo hm hmp3 he,?_⟩;try refine O ?_
  refine CalV.mono (hstep vis e b I' L3 hJ3 he hi') (λv2 I2 L2 hv2=>Gh.mono hv2 ?_);rintro I3 L3' ⟨rfl,L4,rfl,hJ4⟩;simp only [Bool.not_true,SSd,Nat.reduceAdd];exact (Gh.done ⟨n - 1,by omega,_,L4,hi',by rw [List.length_append,List.length_singleton];omega,rfl,hJ4⟩)
theorem AMk {m:Nat}(hk:∀qm,K (.func (.func 184) #[] #[pt qm]) I ((qm,.cells #[.map (some m)] 160 (0,0))::L)):CT ω 129 #[.map (some m)] K I L:=by
 refine ALr ?_;unfold ACN;exact AQ (λqm=>Gh.done (hk qm))
theorem AMo {qm m:Nat}{es:Array MapEntry}{clock:Nat}{mm:Int→Option Value}(hm:MapSi es clock mm)(hN:es.toList.length≤1000000)(hmp:MapAt I L m es clock)
  (hk:∀(X:LH) (v:Value) (vis:List MapEntry),vis.Perm es.toList→SlO 3 1 X v ((vis.map BN).map (Value.int .i64)) vis.length→K v I (X++L)):
  CT ω 182 #[.func (.func 184) #[] #[pt qm]] K I ((qm,.cells #[.map (some m)] 160 (0,0))::L):=by
 refine AEn ?_;unfold Um;refine call ?_;refine AEj ?_;unfold UT;refine AQ (λbs=>?_);unfold JB NU;simp only
 rw [if_pos (show Bj Tryz.prog 184=true by kernel_rfl)];intro l D Lo _ hy;refine AMm (qm:=qm) (m:=m) (es:=es) (clock:=clock) (mm:=mm)
  (λvis I' L'=>I'=I∧∃XO vo,SlO 3 1 XO vo ((vis.map BN).map (Value.int .i64)) vis.length∧vis.length≤es.toList.length∧L'=(l,Lo .ready none)::(D,.deferred (some []))::(bs,.cells #[vo] 23 (0,0))::(XO++(qm,.cells #[.map (some m)] 160 (0,0))::L)) hm ?_ ?_ ?_ ?_
 ·rintro vis I' L' ⟨rfl,XO,vo,_,_,rfl⟩;exact ⟨Cell.own (b:=qm) (cs:=#[.map (some m)]) (T:=160) (fr:=(0,0)) (by simp) rfl,MapAt.mono hmp (Ext.refl _) (λx hx=>by simp [hx])⟩
 ·rintro vis e b I' L' ⟨rfl,XO,vo,hO,hlv,rfl⟩ he hi';have hlen:vis.length+1≤es.toList.length:=by
   have:=Dh (BH hi'.nod) hi'.sub;simpa using this
  have hek:e.key=(Value.int .i64) (BN e):=by
   obtain ⟨s,hs⟩:=hm.str e he;simp [BN,hs,Value.cells]
  refine hy _ _ _ _ rfl (SS ?_);simp only [List.head!];refine Tt ?_;refine rdb ?_;rw [hek];refine EH rfl (by omega) rfl (λX1 u hX1=>?_);obtain ⟨va,vc,rfl⟩:=hO.form;refine DX (X:=XO) rfl hO (hX1.news (λx hx=>by simp [hx])) (by simp [Value.cells,Value.oneCell',Value.cells]) (by omega) (by omega) (λX6 v6 h6=>?_);obtain ⟨a6,c6,rfl⟩:=h6.form;refine st1 rfl ?_;refine Pr ?_;refine Gh.to ((b,Bc m clock (vis++[e]))::(l,Lo .ready none)::(D,.deferred (some []))::(bs,.cells #[.slice a6 (vis.length+1) c6] 23 (0,0))::(X6++(qm,.cells #[.map (some m)] 160 (0,0))::L)) (Gh.done ⟨rfl,_,rfl,rfl,X6,_,?_,?_,rfl⟩)
  ·simpa [Value.cells,Value.cells] using h6
  ·simpa using hlen
 ·exact ⟨rfl,[],_,SlO.none _ _,Nat.zero_le _,rfl⟩
 ·rintro vis I' L' hp ⟨rfl,XO,vo,hO,hlv,rfl⟩;refine Gh.done (Ps (s:=.ready) (j:=none) (by simp) ?_);show IW ω (pt bs) (.slice none 0 0) D _ _ _;unfold IW;refine rdb ?_;refine tak ?_;exact Gh.to (XO++L) (Gh.done (Gh.done (hk XO vo vis hp hO)))
theorem AMl {yv:Value}{qm m:Nat}{es:Array MapEntry}{clock:Nat}{mm:Int→Option Value}(J:List MapEntry→M)(hm:MapSi es clock mm)
  (hJ:∀vis I' L',J vis I' L'→Cell I' L' qm 0 (.map (some m))∧MapAt I' L' m es clock)
  (hstep:∀vis e b I' L',J vis I' L'→e∈es.toList→It es (vis++[e])→CW ω yv #[e.key] (λv=>Gh λI2 L2=>v= .bool true∧∃L3,L2=(b,Bc m clock (vis++[e]))::L3∧J (vis++[e]) I2 L3) I' ((b,Bc m clock (vis++[e]))::L'))
  (h0:J [] I L) (hk:∀vis I' L',vis.Perm es.toList→J vis I' L'→K (.tuple #[]) I' L'):
  CT ω 185 #[yv,pt qm] K I L:=by
 obtain ⟨hc,hmp⟩:=hJ _ _ _ h0;refine ALC ?_;unfold AAv;refine rdC hc (Ext.refl _) ?_;refine XD hmp (λb=>?_);refine Gh.done ?_;refine loop (λn s I' L'=>∃vis L3,It es vis∧n+vis.length=es.toList.length∧L'=(b,Bc m clock vis)::L3∧J vis I' L3) es.toList.length ⟨[],L,It.none es,rfl,rfl,h0⟩ ?_;rintro n s I' L' ⟨vis,L3,hi,hn,rfl,hJ3⟩;unfold Uk;obtain ⟨hc3,hmp3⟩:=hJ _ _ _ hJ3;refine AIg hm hmp3 hi (λhp=>Gh.done ?_) (λe he hi'=>Gh.done ?_)
 ·try refine O ?_
  exact Gh.to L3 (Gh.done (hk vis I' L3 hp hJ3))
 ·have hlen:vis.length+1≤es.toList.length:=by
   have:=Dh (BH hi'.nod) hi'.sub;simpa using this
  try refine O ?_
  refine ⟨_,AIo hm hmp3 he,?_⟩;try refine O ?_
  refine CalV.mono (hstep vis e b I' L3 hJ3 he hi') (λv2 I2 L2 hv2=>Gh.mono hv2 ?_);rintro I3 L3' ⟨rfl,L4,rfl,hJ4⟩;simp only [Bool.not_true,SSd,Nat.reduceAdd];exact (Gh.done ⟨n - 1,by omega,_,L4,hi',by rw [List.length_append,List.length_singleton];omega,rfl,hJ4⟩)
theorem AIh {m:Nat}(hk:∀qm,K (.func (.func 185) #[] #[pt qm]) I ((qm,.cells #[.map (some m)] 161 (0,0))::L)):CT ω 130 #[.map (some m)] K I L:=by
 refine ALq ?_;unfold ACL;exact AQ (λqm=>Gh.done (hk qm))
theorem AIk {qm m:Nat}{es:Array MapEntry}{clock:Nat}{mm:Int→Option Value}(hm:MapSi es clock mm)(hN:es.toList.length≤1000000)(hmp:MapAt I L m es clock)
  (hk:∀(X:LH) (v:Value) (vis:List MapEntry),vis.Perm es.toList→SlO 3 1 X v ((vis.map BN).map (Value.int .i64)) vis.length→K v I (X++L)):
  CT ω 182 #[.func (.func 185) #[] #[pt qm]] K I ((qm,.cells #[.map (some m)] 161 (0,0))::L):=by
 refine AEn ?_;unfold Um;refine call ?_;refine AEj ?_;unfold UT;refine AQ (λbs=>?_);unfold JB NU;simp only
 rw [if_pos (show Bj Tryz.prog 185=true by kernel_rfl)];intro l D Lo _ hy;refine AMl (qm:=qm) (m:=m) (es:=es) (clock:=clock) (mm:=mm)
  (λvis I' L'=>I'=I∧∃XO vo,SlO 3 1 XO vo ((vis.map BN).map (Value.int .i64)) vis.length∧vis.length≤es.toList.length∧L'=(l,Lo .ready none)::(D,.deferred (some []))::(bs,.cells #[vo] 23 (0,0))::(XO++(qm,.cells #[.map (some m)] 161 (0,0))::L)) hm ?_ ?_ ?_ ?_
 ·rintro vis I' L' ⟨rfl,XO,vo,_,_,rfl⟩;exact ⟨Cell.own (b:=qm) (cs:=#[.map (some m)]) (T:=161) (fr:=(0,0)) (by simp) rfl,MapAt.mono hmp (Ext.refl _) (λx hx=>by simp [hx])⟩
 ·rintro vis e b I' L' ⟨rfl,XO,vo,hO,hlv,rfl⟩ he hi';have hlen:vis.length+1≤es.toList.length:=by
   have:=Dh (BH hi'.nod) hi'.sub;simpa using this
  have hek:e.key=(Value.int .i64) (BN e):=by
   obtain ⟨s,hs⟩:=hm.str e he;simp [BN,hs,Value.cells]
  refine hy _ _ _ _ rfl (SS ?_);simp only [List.head!];refine Tt ?_;refine rdb ?_;rw [hek];refine EH rfl (by omega) rfl (λX1 u hX1=>?_);obtain ⟨va,vc,rfl⟩:=hO.form;refine DX (X:=XO) rfl hO (hX1.news (λx hx=>by simp [hx])) (by simp [Value.cells,Value.oneCell',Value.cells]) (by omega) (by omega) (λX6 v6 h6=>?_);obtain ⟨a6,c6,rfl⟩:=h6.form;refine st1 rfl ?_;refine Pr ?_;refine Gh.to ((b,Bc m clock (vis++[e]))::(l,Lo .ready none)::(D,.deferred (some []))::(bs,.cells #[.slice a6 (vis.length+1) c6] 23 (0,0))::(X6++(qm,.cells #[.map (some m)] 161 (0,0))::L)) (Gh.done ⟨rfl,_,rfl,rfl,X6,_,?_,?_,rfl⟩)
  ·simpa [Value.cells,Value.cells] using h6
  ·simpa using hlen
 ·exact ⟨rfl,[],_,SlO.none _ _,Nat.zero_le _,rfl⟩
 ·rintro vis I' L' hp ⟨rfl,XO,vo,hO,hlv,rfl⟩;refine Gh.done (Ps (s:=.ready) (j:=none) (by simp) ?_);show IW ω (pt bs) (.slice none 0 0) D _ _ _;unfold IW;refine rdb ?_;refine tak ?_;exact Gh.to (XO++L) (Gh.done (Gh.done (hk XO vo vis hp hO)))
end
section
variable {ω:Om}{I:Imm}{L:LH}{K:Value→M}
theorem ADy {X F:LH}{v:Value}{l:List Int}{T:Nat}(h:SlO T 1 X v (l.map (Value.int .i64)) l.length)(hne:l≠[])(hlen:l.length≤1000000000)(hk:∀k,k∈l→(∀y∈l,k≤y)→K (.int .i64 k) I (X++F)):
  CT ω 218 #[v] K I (X++F):=by
 have hl0:0 < l.length:=List.length_pos_iff.2 hne;obtain ⟨a,cap,rfl⟩:=h.form;have at':∀i (hi:i < l.length),∃b,ixV 1 (.slice a l.length cap) (.int .i64 i)=some (.pointer (some ⟨b,i * 1,none⟩))∧Cell I (X++F) b (i * 1) (.int .i64 l[i]):=by
  intro i hi;obtain ⟨b,h1,h2⟩:=h.ix .i64 hi;refine ⟨b,h1,?_⟩;have:=h2 I (X++F) (λx hx=>List.mem_append_left _ hx) 0 (.int .i64 l[i]) (by simp [hi]);simpa using this
 refine AKo ?_;unfold AAW;have hlt:decide ((l.length:Int) < 1)=false:=by simp;omega
 simp only [hlt,SSd,Nat.reduceAdd];unfold Ud;obtain ⟨b,h1,h2⟩:=at' 0 hl0;simp only [Int.natCast_zero] at h1;simp only [h1,SSd,Nat.reduceAdd];refine rd1 (by simpa using h2) ?_;refine loop (λn s I' L'=>I'=I∧L'=X++F∧∃(k:Int) (i:Nat),n+i=l.length∧0 < i∧s=(.int .i64 k,.int .i64 i,())∧k∈l∧∀y∈l.take i,k≤y) (l.length - 1) ⟨rfl,rfl,l[0],1,by omega,by omega,rfl,List.getElem_mem _,?_⟩ ?_
 ·intro y hy;rw [List.take_one] at hy;cases l with
  |nil=>simp at hl0
  |cons x l=>simp at hy;simp [hy]
 rintro n s I' L' ⟨rfl,rfl,k,i,hn,hi0,rfl,hm,hle⟩;unfold Uc;try refine O ?_
 refine AF (λe=>?_) (λe=>?_)
 ·simp only [decide_eq_true_eq] at e;have hi:i < l.length:=by omega
  obtain ⟨b,h1,h2⟩:=at' i hi;simp only [h1,SSd,Nat.reduceAdd];refine rd1 h2 ?_;try refine O ?_
  rw [wrap_i64 _ (by omega)];refine Gh.done ⟨n - 1,by omega,rfl,rfl,if l[i] < k then l[i] else k,i+1,by omega,by omega,rfl,?_,λy hy=>?_⟩
  ·split
   ·exact List.getElem_mem _
   ·exact hm
  ·rw [take_snoc hi] at hy;rcases List.mem_append.1 hy with hy|hy
   ·have:=hle y hy;split <;> omega
   ·simp only [List.mem_singleton] at hy;subst hy;split <;> omega
 ·simp only [decide_eq_false_iff_not] at e;rw [List.take_of_length_le (by omega)] at hle;exact Gh.done (hk k hm hle)
theorem Xx {β:Type}{q:Int×β}{l:AL Int β}(h:SrtA ilt (q::l)):Hx q.1 (q::l)=l:=by
 obtain ⟨h1,h2⟩:=List.pairwise_cons.1 h;unfold Hx;rw [List.filter_cons,if_neg (by simp),List.filter_eq_self];intro x hx;have:=h1 x hx;simp only [decide_eq_true_eq] at this;simp;omega
variable {b s:Nat}{V:MV}{m:Mch}{R:LH}{c:TCmd}{cc:List Value}
theorem Sl {e:Int}{a:TStamp}(h:¬64 < (CL m c e a).length):Bw m c e a={m with seen:=CL m c e a}:=if_neg h
theorem LY {e:Int}{a:TStamp}(hF:MF I V m)(hs:SrtA ilt m.seen)(hl:m.seen.length≤64)(hc:TCmdV I c cc)(hk:∀V',MF I V' (Bw m c e a)→K (.tuple #[]) I (mL b s V' (Bw m c e a) R)){n s':Int}:
  CT ω 157 #[pt b,.agg cc.toArray,rv e a n s'] K I (mL b s V m R):=by
 have hs2:SrtA ilt (CL m c e a):=hs.ins HZ;have hle:(CL m c e a).length≤m.seen.length+1:=(Ff ..).1;obtain ⟨w0,w1,w2,w3,rfl,g0,g1,g2,g3⟩:=hc;refine ALX ?_;unfold sh157;refine AQ (λb1=>AQ (λb2=>?_));repeat' (first|refine Γ ?_|refine Θ (λ_=>?_)|((with_reducible refine Qo (x:=⟨c.fSeq,e,a⟩) hF.sns ?_ (λe' c' hM'=>Gh.done ?_));rfl)|(with_reducible first|refine RG ?_)|refine Δ ?_|(with_reducible first|refine AK (sh157.eq_1 ..) ?_|refine And.intro ?_ ?_)|refine Φ ?_|refine Ξ (λ_=>?_) (λ_=>?_)|refine O ?_|fail)
 ·rename_i hgt
  have hsz:=hM'.sizeA hs2;have hperm:=hM'.keysA hs2;have hgt2:64 < (CL m c e a).length:=by
   have:64 < ((e'.size:Nat):Int):=by simpa using hgt
   unfold CL;omega
  refine call (AIh (λqm=>?_));refine call (AIk hM' (by simp;unfold CL at hle;omega) (.inl (by simp)) (λX v vis hvp hO=>?_));have hpk:(vis.map BN).Perm ((CL m c e a).map (·.1)):=(hvp.map _).trans hperm;have hvl:(vis.map BN).length=(CL m c e a).length:=by rw [hpk.length_eq];simp
  have hO':SlO 3 1 X v ((vis.map BN).map (Value.int .i64)) (vis.map BN).length:=by simpa using hO
  refine Bu (ADy hO' (λh=>by rw [h] at hvl;simp at hvl;omega) (by omega) (λk hk1 hk2=>Gh.done ?_));have hk1':=hpk.mem_iff.1 hk1;obtain ⟨q,l,hql⟩:∃q l,CL m c e a=q::l:=by
   cases h:CL m c e a with
   |nil=>rw [h] at hgt2;simp at hgt2
   |cons q l=>exact ⟨q,l,rfl⟩
  have hkq:k=q.1:=by
   rw [hql] at hk1' hs2 hpk;obtain ⟨h1,h2⟩:=List.pairwise_cons.1 hs2;rcases List.mem_cons.1 hk1' with h|h
   ·exact h
   ·obtain ⟨y,hy,rfl⟩:=List.mem_map.1 h;have g1:=h1 y hy;have g2:=hk2 q.1 (hpk.mem_iff.2 (List.mem_cons_self ..));simp only [decide_eq_true_eq] at g1;omega
  have hsee:Bw m c e a={m with seen:=l,oldest:=k}:=by
   unfold Bw;rw [if_pos hgt2,hql,hkq];rfl
  have hdel:Hx k (CL m c e a)=l:=by
   rw [hql] at hs2 ⊢;rw [hkq];exact Xx hs2
  rw [hsee] at hk
  refine rdb ?_;refine AIp hM' (λe2 hM2=>Gh.done ?_);simp only [List.append_assoc,List.cons_append,List.nil_append]
  refine st1 rfl ?_;rw [show Am ilt c.fTxn ⟨c.fSeq,e,a⟩ m.seen=CL m c e a from rfl,hdel] at hM2;exact Gh.to (mL b s {V with e3:=e2,c3:=c'} {m with seen:=l,oldest:=k} R) (Gh.done (hk {V with e3:=e2,c3:=c'} {hF with sns:=hM2}))
 ·rename_i hgt
  have hsz:=hM'.sizeA hs2;have hgt2:¬64 < (CL m c e a).length:=by
   have:¬64 < ((e'.size:Nat):Int):=by simpa using hgt
   unfold CL;omega
  rw [Sl hgt2] at hk;exact Gh.to (mL b s {V with e3:=e',c3:=c'} {m with seen:=CL m c e a} R) (Gh.done (hk {V with e3:=e',c3:=c'} {hF with sns:=hM'}))
theorem IB {r:TRes}(e:Ax m c=some r):DA m c=(r,m):=by unfold DA;rw [e]
theorem Og (e:Ax m c=none)(e1:Cu m c.fTxn 1 c.fAt=none):DA m c=(Ag 143,m):=by unfold DA;rw [e];simp only;rw [e1]
theorem SI {m1:Mch}(e:Ax m c=none)(e1:Cu m c.fTxn 1 c.fAt=some m1)(h:(recAt m1 c.fTxn).fState≠1):DA m c=(⟨142,BE,[],z0,0,(recAt m1 c.fTxn).fState⟩,m1):=by
 unfold DA;rw [e];simp only;rw [e1];simp only;rw [if_pos h]
theorem SH {m1:Mch}(e:Ax m c=none)(e1:Cu m c.fTxn 1 c.fAt=some m1)(h:(recAt m1 c.fTxn).fState=1):DA m c=(⟨0,BE,[],z0,0,1⟩,Bw m1 c 0 z0):=by
 unfold DA;rw [e];simp only;rw [e1];simp only;rw [if_neg (by simp [h])]
theorem Er {m1:Mch}{n st:Int}{a:TStamp}(e:Cu m n st a=some m1):m1.seen=m.seen∧m1.low=m.low∧m1.marks=m.marks∧m1.sp=m.sp∧m1.span=m.span∧m1.oldest=m.oldest∧m1.nt=m.nt∧m1.kept=m.kept:=by
 unfold Cu at e;split at e
 ·cases e;simp
 ·split at e
  ·cases e
  ·cases e;simp
set_option maxHeartbeats 1000000 in
theorem Tq (hF:MF I V m)(hs:SrtA ilt m.recs)(hs3:SrtA ilt m.seen)(hl3:m.seen.length≤64)(hc:TCmdV I c cc)(hk:∀r m',DA m c=(r,m')→∀V',MF I V' m'→K (rvR r) I (mL b s V' m' R)):
  CT ω 98 #[pt b,.agg cc.toArray] K I (mL b s V m R):=by
 have hc':=hc;obtain ⟨w0,w1,w2,w3,rfl,g0,g1,g2,g3⟩:=hc;refine AMt ?_;unfold sh98;refine AQ (λb1=>AQ (λb2=>?_));repeat' (first|refine Γ ?_|refine Θ (λ_=>?_)|(refine Ψ ?_;refine (Iq b V (GF hF hc' (λe a ha=>?_) (λha=>?_))))|(refine Ψ ?_;refine (Iq b V (GX hF hs (λe=>?_) (λV1 m1 e hF1=>?_))))|(refine Ψ ?_;refine (Au ?_))|(with_reducible refine TR hF1.rcs ?_)|(refine Ψ ?_;refine (Iq b V1 (LY (e:=0) (a:=z0) (n:=0) (s':=0) hF1 (by rw [(Er e).1];exact hs3) (by rw [(Er e).1];exact hl3) hc' (λV2 hF2=>?_))))|refine Δ ?_|(with_reducible first|refine AK (sh98.eq_1 ..) ?_|refine And.intro ?_ ?_)|refine Φ ?_|refine Ξ (λ_=>?_) (λ_=>?_)|(simp only [SSd,Nat.reduceAdd,PX]))
 ·exact Gh.to (mL b s V m R) (Gh.done (hk _ _ (IB ha) V hF))
 ·exact Gh.to (mL b s V m R) (Gh.done (hk _ _ (Og ha e) V hF))
 ·exact Gh.to (mL b s V1 m1 R) (Gh.done (hk _ _ (SI ha e (by first|(simp_all;done)|(simp_all;omega)|omega)) V1 hF1))
 ·rename_i hst
  have hst:(recAt m1 c.fTxn).fState=1:=by simpa using hst
  have hk':=hk _ _ (SH ha e hst) V2 hF2;rw [hst];exact Gh.to (mL b s V2 (Bw m1 c 0 z0) R) (Gh.done hk')
theorem Lt (e:Cu m c.fTxn 3 c.fAt=none):Do m c=(Ag 143,m):=by unfold Do;rw [e]
theorem OC {m1:Mch}(e:Cu m c.fTxn 3 c.fAt=some m1)(h:pushB (recAt m1 c.fTxn) c=true):Do m c=(⟨0,BE,[],(recAt m1 c.fTxn).fAt,0,3⟩,{m1 with recs:=Am ilt c.fTxn ⟨3,(recAt m1 c.fTxn).fAt⟩ m1.recs}):=by
 unfold Do;rw [e];simp only;unfold JO;rw [if_pos h,if_pos h]
theorem Qq {m1:Mch}(e:Cu m c.fTxn 3 c.fAt=some m1)(h:pushB (recAt m1 c.fTxn) c=false):Do m c=(⟨0,BE,[],(recAt m1 c.fTxn).fAt,0,(recAt m1 c.fTxn).fState⟩,m1):=by
 unfold Do;rw [e];simp only;unfold JO;rw [if_neg (by simp [h]),if_neg (by simp [h])]
theorem Lu (x:TRc):pushB x c=(x.fState==1&&(decide (NE c.fAt x.fAt < 0)||(NE c.fAt x.fAt==0&&decide (c.fBy < c.fTxn)))):=by
 unfold pushB;rw [←Ey,←GV,Bool.eq_iff_iff];simp only [Bool.and_eq_true,Bool.or_eq_true,Bool.not_eq_true',decide_eq_true_eq,decide_eq_false_iff_not,beq_iff_eq];omega
theorem TJ (hF:MF I V m)(hs:SrtA ilt m.recs)(hc:TCmdV I c cc)(hk:∀r m',Do m c=(r,m')→∀V',MF I V' m'→K (rvR r) I (mL b s V' m' R)):
  CT ω 100 #[pt b,.agg cc.toArray] K I (mL b s V m R):=by
 obtain ⟨w0,w1,w2,w3,rfl,g0,g1,g2,g3⟩:=hc;refine AMN ?_;unfold sh100;refine AQ (λb1=>AQ (λb2=>?_));repeat' (first|refine Γ ?_|refine Θ (λ_=>?_)|(refine Ψ ?_;refine (Iq b V (GX hF hs (λe=>?_) (λV1 m1 e hF1=>?_))))|(refine Ψ ?_;refine (Au ?_))|(with_reducible refine TR hF1.rcs ?_)|(refine Ψ ?_;refine (DS (x:=c.fAt) (y:=(recAt m1 c.fTxn).fAt) ?_))|((with_reducible refine Qo (x:=⟨3,(recAt m1 c.fTxn).fAt⟩) hF1.rcs ?_ (λe' c' hM'=>Gh.done ?_));rfl)|refine Δ ?_|(with_reducible first|refine AK (sh100_2.eq_1 ..) ?_|refine AK (sh100_1.eq_1 ..) ?_|refine AK (sh100.eq_1 ..) ?_|refine And.intro ?_ ?_)|refine Φ ?_|refine Ξ (λ_=>?_) (λ_=>?_)|(simp only [SSd,Nat.reduceAdd,PX]))
 all_goals first
  |exact Gh.to (mL b s V m R) (Gh.done (hk _ _ (Lt e) V hF))
  |exact Gh.to (mL b s V1 m1 R) (Gh.done (hk _ _ (Qq e (by rw [Lu];simp_all)) V1 hF1))
  |exact Gh.to (mL b s {V1 with e2:=e',c2:=c'} {m1 with recs:=Am ilt c.fTxn ⟨3,(recAt m1 c.fTxn).fAt⟩ m1.recs} R) (Gh.done (hk _ _ (OC e (by rw [Lu];simp_all)) {V1 with e2:=e',c2:=c'} {hF1 with rcs:=hM'}))
  |trace_state
theorem RR (hF:MF I V m)(hc:TCmdV I c cc)(hk:∀r m',FU m c=(r,m')→∀V',MF I V' m'→K (rvR r) I (mL b s V' m' R)):
  CT ω 101 #[pt b,.agg cc.toArray] K I (mL b s V m R):=by
 obtain ⟨w0,w1,w2,w3,rfl,g0,g1,g2,g3⟩:=hc;refine AMM ?_;unfold sh101;refine AQ (λb1=>AQ (λb2=>?_));repeat' (first|refine Γ ?_|refine Θ (λ_=>?_)|(refine Ψ ?_;refine (Au ?_))|(with_reducible first|refine TR hF.rcs ?_|refine AIp hF.rcs (λe' hM'=>Gh.done ?_))|refine Δ ?_|(with_reducible first|refine AK (sh101.eq_1 ..) ?_|refine And.intro ?_ ?_)|refine Φ ?_|refine Ξ (λ_=>?_) (λ_=>?_)|(simp only [SSd,Nat.reduceAdd,PX]))
 all_goals first
  |exact Gh.to (mL b s V m R) (Gh.done (hk (Ag 142) m (by unfold FU;rw [if_pos (by first|(simp_all;done)|(simp_all;omega)|omega)]) V hF))
  |exact Gh.to (mL b s {V with e2:=e'} {m with recs:=Hx c.fTxn m.recs} R) (Gh.done (hk okR {m with recs:=Hx c.fTxn m.recs} (by unfold FU;rw [if_neg (by first|(simp_all;done)|(simp_all;omega)|omega)]) {V with e2:=e'} {hF with rcs:=hM'}))
  |trace_state
theorem JQ {p:TSpan}{pc:List Value}(hF:MF I V m)(hp:DO I p pc)(hk:K (.bool (Gb m.span p)) I (mL b s V m R)):
  CT ω 151 #[pt b,.agg pc.toArray] K I (mL b s V m R):=by
 obtain ⟨v0,v1,rfl,h0,h1⟩:=hp;refine ALd ?_;unfold sh151;repeat' (first|refine Γ ?_|refine Θ (λ_=>?_)|(refine Ψ ?_;refine (DV hF.f0 h0 ?_))|(refine Ψ ?_;refine (DV h1 hF.f1 ?_))|refine Δ ?_|(with_reducible first|refine AK (sh151.eq_1 ..) ?_|refine And.intro ?_ ?_)|refine Φ ?_|refine Ξ (λ_=>?_) (λ_=>?_)|(simp only [SSd,Nat.reduceAdd,Bytes.len h1,Bytes.len hF.f1]))
 all_goals (refine Gh.to (mL b s V m R) (Gh.done (CA hk ?_));rw [Bool.eq_iff_iff];simp only [Gb,←Pz,Bool.not_eq_true',Bool.and_eq_true,Bool.or_eq_true,decide_eq_true_eq,beq_iff_eq,ne_eq,decide_eq_false_iff_not,Bool.false_eq_true,iff_false,not_and,not_or,ge_iff_le,gt_iff_lt,true_iff,and_true,true_and,or_true,beq_eq_false_iff_ne,Bool.not_eq_false,iff_true] at *; omega)
end
def WN:Prop:=∀(ω:Om) (I:Imm) (K:Value→M) (T:Nat) (X F:LH) (v:Value) (zs:List (List UInt8)),SlO T 1 X v (zs.map CJ) zs.length→zs.length≤1000000000→
 (∀(X':LH) (ys:List (List UInt8)),ys.Perm zs→ys.Pairwise (λa b=>blt b a=false)→SlO T 1 X' v (ys.map CJ) ys.length→K (.tuple #[]) I (X'++F))→CT ω 180 #[v] K I (X++F)
theorem Kx {κ:Type}[DecidableEq κ]{lt:κ→κ→Bool}(ho:Ord κ lt){a b:List κ}(hp:a.Perm b)(ha:a.Pairwise λx y=>lt y x=false)(hb:b.Pairwise λx y=>lt x y=true):a=b:=by
 have hna:a.Nodup:=hp.nodup_iff.2 (hb.imp λh=>SrtA.ne ho h);have ha2:a.Pairwise λx y=>lt x y=true:=(ha.and hna).imp λ{x y} h=>by
  cases hx:lt x y with
  |true=>rfl
  |false=>exact absurd (ho.tot _ _ hx h.1) h.2
 exact List.Perm.eq_of_pairwise (λx y _ _ h1 h2=>by have:=ho.tr _ _ _ h1 h2;rw [ho.irr] at this;cases this) ha2 hb hp
section
variable {ω:Om}{I:Imm}{L:LH}{K:Value→M}{b s:Nat}{V:MV}{m:Mch}{R:LH}
theorem RC {low:TMk}{l:AL (List UInt8) TMk}{q:List UInt8×TMk}:BK low (l++[q])=An (BK low l) q.2.fAt q.2.fBy:=by
 unfold BK;rw [List.foldl_append];rfl
theorem TO {ba:Nat}{kv:Value}{k:List UInt8}{a:TStamp}{n:Int}(hF:MF I V m)(hB:Bytes I kv k)(hn:lkA m.marks k=none)
  (hk:∀V',MF I V' {m with marks:=Am blt k (An mk0 a n) m.marks}→K (.tuple #[]) I ((ba,.cells #[.int .i64 a.fWall,.int .i64 a.fLogic] 41 (0,0))::mL b s V' {m with marks:=Am blt k (An mk0 a n) m.marks} R)):
  sh150_5 ω (pt b) kv (.int .i64 n) (pt ba) K I ((ba,.cells #[.int .i64 a.fWall,.int .i64 a.fLogic] 41 (0,0))::mL b s V m R):=by
 have hl:BO mv m.marks k=none:=by unfold BO;rw [hn];rfl
 repeat' (first|refine Γ ?_|(with_reducible first|refine AQ (λ_=>?_)|refine Bd hB (Ext.refl _) ?_)|((with_reducible refine AEG hF.mks ?_);simp only [hl,lkV,if_true,if_false,Bool.false_eq_true])|(refine Ψ ?_;refine (Dz (k:=mk0) (a:=a) (n:=n) ?_))|((with_reducible refine Vl (x:=An mk0 a n) hF.mks ?_ (λe' c' hM'=>Gh.done ?_));rfl)|refine Δ ?_|(with_reducible first|refine AK (sh150_5.eq_1 ..) ?_|refine AK (sh150_4.eq_1 ..) ?_|refine AK (sh150_2.eq_1 ..) ?_|refine AK (sh150_1.eq_1 ..) ?_|refine AK (sh150_6.eq_1 ..) ?_|refine AK (sh150.eq_1 ..) ?_|refine And.intro ?_ ?_)|refine Φ ?_|refine Ξ (λ_=>?_) (λ_=>?_)|(simp only [SSd,Nat.reduceAdd,hl,lkV,if_true,if_false,Bool.false_eq_true]))
 ·exact hk {V with e1:=e',c1:=c'} {hF with mks:=hM'}
theorem Xd {kv:Value}{k:List UInt8}{a:TStamp}{n:Int}(hS:Ed m k=true→WN)(hF:MF I V m)(hm:SrtA blt m.marks)(hB:Bytes I kv k)
  (hk:∀V',MF I V' (Cb m k a n)→K (.tuple #[]) I (mL b s V' (Cb m k a n) R)):
  CT ω 150 #[pt b,kv,sv a,.int .i64 n] K I (mL b s V m R):=by
 have hsz:=hF.mks.sizeA hm;refine ALe ?_;unfold sh150;refine AQ (λba=>?_);cases hx:lkA m.marks k with
 |some x=>
  have hl:BO mv m.marks k=some (mv x):=by unfold BO;rw [hx];rfl
  have hf:Ed m k=false:=by unfold Ed;rw [hx];rfl
  have hmk:Cb m k a n={m with marks:=Am blt k (An x a n) m.marks}:=by unfold Cb room;rw [hf];simp [hx]
  rw [hmk] at hk;repeat' (first|refine Γ ?_|(with_reducible first|refine AQ (λ_=>?_)|refine Bd hB (Ext.refl _) ?_)|((with_reducible refine AEG hF.mks ?_);simp only [hl,lkV,if_true,if_false,Bool.false_eq_true])|(refine Ψ ?_;refine (Dz (k:=x) (a:=a) (n:=n) ?_))|((with_reducible refine Vl (x:=An x a n) hF.mks ?_ (λe' c' hM'=>Gh.done ?_));rfl)|refine Δ ?_|(with_reducible first|refine AK (sh150_5.eq_1 ..) ?_|refine AK (sh150_4.eq_1 ..) ?_|refine AK (sh150_2.eq_1 ..) ?_|refine AK (sh150_1.eq_1 ..) ?_|refine AK (sh150_6.eq_1 ..) ?_|refine AK (sh150.eq_1 ..) ?_|refine And.intro ?_ ?_)|refine Φ ?_|refine Ξ (λ_=>?_) (λ_=>?_)|(simp only [SSd,Nat.reduceAdd,hl,lkV,if_true,if_false,Bool.false_eq_true]))
  exact Gh.to (mL b s {V with e1:=e',c1:=c'} {m with marks:=Am blt k (An x a n) m.marks} R) (Gh.done (hk {V with e1:=e',c1:=c'} {hF with mks:=hM'}))
 |none=>
  have hl:BO mv m.marks k=none:=by unfold BO;rw [hx];rfl
  have hfl:Ed m k=(m.marks.length==32):=by unfold Ed;rw [hx];rfl
  repeat' (first|refine Γ ?_|(with_reducible first|refine AQ (λ_=>?_)|refine Bd hB (Ext.refl _) ?_)|((with_reducible refine AEG hF.mks ?_);simp only [hl,lkV,if_true,if_false,Bool.false_eq_true])|(with_reducible refine AOK ?_)|(refine Ψ ?_;refine (Dz (k:=mk0) (a:=a) (n:=n) ?_))|((with_reducible refine Vl (x:=An mk0 a n) hF.mks ?_ (λe' c' hM'=>Gh.done ?_));rfl)|refine Δ ?_|(with_reducible first|refine AK (sh150_5.eq_1 ..) ?_|refine AK (sh150_4.eq_1 ..) ?_|refine AK (sh150_2.eq_1 ..) ?_|refine AK (sh150_1.eq_1 ..) ?_|refine AK (sh150_6.eq_1 ..) ?_|refine AK (sh150.eq_1 ..) ?_|refine And.intro ?_ ?_)|refine Φ ?_|refine Ξ (λ_=>?_) (λ_=>?_)|(simp only [SSd,Nat.reduceAdd,hl,lkV,if_true,if_false,Bool.false_eq_true,hsz]))
  ·rename_i bx hlen
   have hlen:m.marks.length=32:=by simp at hlen;omega
   have hf:Ed m k=true:=by rw [hfl,hlen];rfl
   have hS:=hS hf;have hroom:room m k={m with marks:=[],low:=BK m.low m.marks}:=by unfold room;rw [if_pos hf]
   have hmk:Cb m k a n={m with marks:=Am blt k (An mk0 a n) [],low:=BK m.low m.marks}:=by unfold Cb;rw [hroom];rfl
   rw [hmk] at hk;refine call (AIi (λqm=>?_));refine call ?_;refine AEs ?_;unfold VP;refine call (AIl hF.mks (by simp [hsz,hlen]) (.inl (by simp)) (λX v vis hvp hO=>?_));have hO':SlO 9 1 X v ((vis.map Aw).map CJ) (vis.map Aw).length:=by simpa using hO
   have hpk:=(hvp.map Aw).trans (hF.mks.keysA hm);have hvl:(vis.map Aw).length=32:=by rw [hpk.length_eq];simp [hlen]
   refine call (hS _ _ _ _ _ _ _ _ hO' (by omega) (λX' ys hp hpw hO2=>?_));have hys:ys=m.marks.map (·.1):=Kx bltO (hp.trans hpk) hpw (List.pairwise_map.2 hm);subst hys;rw [List.length_map,hlen] at hO2;obtain ⟨sa,scap,rfl⟩:=hO2.form;refine Gh.done ?_;try refine O ?_
   refine loop (λn' (s':Value×Unit) I' L'=>I'=I∧∃(i:Nat),n'+i=32∧s'=(.int .i64 i,())∧L'=X'++((bx,.cells #[.int .i64 0,.int .i64 0,.int .i64 0] 159 (0,0))::(ba,.cells #[.int .i64 a.fWall,.int .i64 a.fLogic] 41 (0,0))::mL b s V {m with low:=BK m.low (m.marks.take i)} R)) 32 ⟨rfl,0,rfl,rfl,rfl⟩ ?_;rintro n' s' I' L' ⟨rfl,i,hn,rfl,rfl⟩;unfold sh150_2;try refine O ?_
   refine AF (λe=>?_) (λe=>?_)
   ·have hi:i < m.marks.length:=by simp at e;omega
    obtain ⟨bq,hix,hcq⟩:=hO2.ix .i64 (i:=i) (by omega);have hcq1:=hcq I' (X'++((bx,.cells #[.int .i64 0,.int .i64 0,.int .i64 0] 159 (0,0))::(ba,.cells #[.int .i64 a.fWall,.int .i64 a.fLogic] 41 (0,0))::mL b s V {m with low:=BK m.low (m.marks.take i)} R)) (λx hx=>List.mem_append_left _ hx) 0 (CJ m.marks[i].1) (by simp [hi]);have hq:lkA m.marks m.marks[i].1=some m.marks[i].2:=EV bltO hm (List.getElem_mem hi);have hlq:BO mv m.marks m.marks[i].1=some (mv m.marks[i].2):=by unfold BO;rw [hq];rfl
    have htk:BK m.low (m.marks.take (i+1))=An (BK m.low (m.marks.take i)) m.marks[i].2.fAt m.marks[i].2.fBy:=by rw [take_snoc hi,RC]
    simp only [hix,SSd,Nat.reduceAdd];refine rd1 (by simpa using hcq1) ?_
    refine rdb ?_;refine lkT hF.mks ?_;simp only [hlq,lkV,Bool.false_eq_true,if_false];refine AQ (λbk=>?_);refine stB rfl rfl (AH rfl) ?_;refine AZ ?_;try refine O ?_
    refine Cv [.int .i64 (BK m.low (m.marks.take i)).fAt.fWall,.int .i64 (BK m.low (m.marks.take i)).fAt.fLogic,.int .i64 (BK m.low (m.marks.take i)).fBy] rfl rfl ?_
    refine Cv [.int .i64 m.marks[i].2.fAt.fWall,.int .i64 m.marks[i].2.fAt.fLogic] rfl rfl ?_
    refine Ab ?_;refine call (Dz (k:=BK m.low (m.marks.take i)) (a:=m.marks[i].2.fAt) (n:=m.marks[i].2.fBy) ?_)
    rw [←htk,wrap_i64 _ (by omega)];refine stP [V.v0,V.v1,pt s,.map (some V.km),.int .i64 (BK m.low (m.marks.take (i+1))).fAt.fWall,.int .i64 (BK m.low (m.marks.take (i+1))).fAt.fLogic,.int .i64 (BK m.low (m.marks.take (i+1))).fBy,.map (some V.rc),.map (some V.sn),.int .i64 m.oldest,V.kv] rfl rfl rfl rfl ?_
    exact Gh.to (X'++((bx,.cells #[.int .i64 0,.int .i64 0,.int .i64 0] 159 (0,0))::(ba,.cells #[.int .i64 a.fWall,.int .i64 a.fLogic] 41 (0,0))::mL b s V {m with low:=BK m.low (m.marks.take (i+1))} R)) (Gh.done ⟨n' - 1,by omega,rfl,i+1,by omega,rfl,rfl⟩)
   ·have hi:i=m.marks.length:=by simp at e;omega
    rw [hi,List.take_length];unfold sh150_4;refine Qw (λm2=>?_);refine Gh.to ((m2,.map #[] 0)::(ba,.cells #[.int .i64 a.fWall,.int .i64 a.fLogic] 41 (0,0))::mL b s V {m with low:=BK m.low m.marks} R) (Gh.done ?_);try refine O ?_
    refine Yd rfl ?_;refine Gh.to ((ba,.cells #[.int .i64 a.fWall,.int .i64 a.fLogic] 41 (0,0))::mL b s {V with km:=m2,e1:=#[],c1:=0} {m with marks:=[],low:=BK m.low m.marks} R) (Gh.done ?_);refine TO (V:={V with km:=m2,e1:=#[],c1:=0}) (m:={m with marks:=[],low:=BK m.low m.marks}) {hF with mks:=MapS.empty} hB rfl (λV' hV'=>?_);exact Gh.to (mL b s V' {m with marks:=Am blt k (An mk0 a n) [],low:=BK m.low m.marks} R) (Gh.done (hk V' hV'))
  ·rename_i hlen
   have hf:Ed m k=false:=by rw [hfl];simp at hlen ⊢;omega
   have hmk:Cb m k a n={m with marks:=Am blt k (An mk0 a n) m.marks}:=by unfold Cb room;rw [hf];simp [hx]
   rw [hmk] at hk;exact Gh.to (mL b s {V with e1:=e',c1:=c'} {m with marks:=Am blt k (An mk0 a n) m.marks} R) (Gh.done (hk {V with e1:=e',c1:=c'} {hF with mks:=hM'}))
end
def MchR (I:Imm)(b:Nat)(X:LH)(m:Mch):Prop:=∃s V SX,X.Perm (mL b s V m SX)∧MF I V m∧SpR I s SX m.sp m.nt
theorem MchR.mono {I I':Imm}{b:Nat}{X:LH}{m:Mch}(h:MchR I b X m)(hI:Ext I I'):MchR I' b X m:=by
 obtain ⟨s,V,SX,h1,h2,h3⟩:=h;exact ⟨s,V,SX,h1,h2.mono hI,h3.mono hI⟩
def PostK (K:Value→M)(b:Nat)(F:LH)(I:Imm)(r:TRes)(m':Mch):Prop:=∀I' X' cells,Ext I I'→MchR I' b X' m'→TResV I' r cells→K (.agg cells.toArray) I' (X'++F)
theorem PostK.go {K:Value→M}{b s:Nat}{V:MV}{SX F:LH}{I I':Imm}{r:TRes}{m:Mch}{cells:List Value}(h:PostK K b F I r m)(hI:Ext I I')(hF:MF I' V m)(hS:SpR I' s SX m.sp m.nt)(hr:TResV I' r cells):K (.agg cells.toArray) I' (mL b s V m (SX++F)):=
 h I' (mL b s V m SX) cells hI ⟨s,V,SX,List.Perm.refl _,hF,hS⟩ hr
theorem Fj:∀{rows:List Row} {n:Nat},Ac rows≤n→∀r∈rows,r.vs.length≤n
 |x::rows,n,h,r,hr=>by
  have e:Ac (x::rows)=x.vs.length+Ac rows:=by simp [Ac]
  rcases List.mem_cons.1 hr with rfl|hr
  ·omega
  ·exact Fj (rows:=rows) (n:=n) (by omega) r hr
theorem Qy (m:Mch)(k:List UInt8)(a:TStamp)(n:Int):(Cb m k a n).sp=m.sp∧(Cb m k a n).nt=m.nt:=by
 unfold Cb room;split <;> exact ⟨rfl,rfl⟩
theorem HH (m:Mch)(c:TCmd)(e:Int)(a:TStamp):(Bw m c e a).sp=m.sp∧(Bw m c e a).nt=m.nt:=by
 unfold Bw;split <;> exact ⟨rfl,rfl⟩
theorem GS {N:Nat}(h:N≤10000):N * N≤100000000:=Nat.mul_le_mul h h
section
variable {ω:Om}{I:Imm}{L:LH}{K:Value→M}{b s N:Nat}{V:MV}{m:Mch}{SX F:LH}{c:TCmd}{cc:List Value}
theorem Xo (hM : MOk m N) (hN : N ≤ 10000) (hS : Ed m c.fKey = true → WN) (hF : MF I V m) (hSp : SpR I s SX m.sp m.nt) (hc : TCmdV I c cc) (hk : PostK K b F I (FF m c).1 (FF m c).2) :
    CT ω 94 #[pt b, .agg cc.toArray] K I (mL b s V m (SX ++ F)) := by
  have h1 := hM.vers
  have h2 := GS hN
  have h3 := hM.rows
  have hvs : ∀ r ∈ m.sp.rows, r.vs.length ≤ 1000000000 := Fj (by omega)
  obtain ⟨w0, w1, w2, w3, rfl, g0, g1, g2, g3⟩ := hc
  refine AMx ?_
  unfold sh94
  refine AQ (λb1 => AQ (λb2 => ?_))
  repeat' (first | (with_reducible first | refine AZ ?_ | refine Gq ?_ | refine Mk ?_ | refine keepA ?_ | refine AQ (λ_ => ?_)) | (refine Ψ ?_; refine (EN (p := m.span) ⟨_, _, rfl, hF.f0, hF.f1⟩ g0 ?_)) | (refine Ψ ?_; refine (Au ?_)) | ((refine Ψ ?_; refine (AEP (sp := m.sp) (k := c.fKey) (m := c.fAt) (txn := c.fTxn) (hSp.view (λx hx => by simp [hx])) hM.sp.rise hvs g0 (λI1 u1 hI1 hB1 => ?_))); obtain ⟨ua, uc, rfl⟩ := Bytes.form hB1) | (refine Ψ ?_; refine (Iq b V (Xd hS (hF.mono hI1) hM.marks (g0.mono hI1) (λV1 hF1 => ?_)))) | (with_reducible refine rdb ?_) | ((with_reducible first | refine st1 ?_ ?_ | refine rdB ?_ ?_); rfl) | (with_reducible refine Ab ?_) | ((with_reducible refine Ck ?_ ?_); rfl) | ((with_reducible refine stB ?_ ?_ ?_ ?_); rfl; rfl; exact AH rfl) | ((with_reducible first | refine rdP _ rfl ?_ ?_ | refine Cv _ rfl ?_ ?_); rfl) | ((with_reducible refine stP _ rfl ?_ ?_ ?_ ?_); rfl; rfl; rfl) | (with_reducible first | refine AK (sh94_1.eq_1 ..) ?_ | refine AK (sh94.eq_1 ..) ?_ | refine And.intro ?_ ?_) | (simp only [SSg, Int.reduceBEq, Int.reduceBNe, Int.reduceLT, Int.reduceLE, beq_self_eq_true, bne_self_eq_false]) | (with_reducible first | refine AV (λ_ => ?_) (λ_ => ?_) | refine AF (λ_ => ?_) (λ_ => ?_)) | (simp only [SSd, Nat.reduceAdd]))
  · have e : FF m c = (Ag 141, m) := by unfold FF; rw [if_pos (by first | (simp_all; done) | (simp_all; omega) | omega)]
    rw [e] at hk
    exact Gh.to (mL b s V m (SX ++ F)) (Gh.done (hk.go (Ext.refl _) hF hSp (Cm ..)))
  all_goals first
    | (have e : FF m c = (⟨(CN m.sp c.fKey c.fAt c.fTxn).2, BE, [], z0, (CN m.sp c.fKey c.fAt c.fTxn).1.fBy, 0⟩, m) := by unfold FF; rw [if_neg (by first | (simp_all; done) | (simp_all; omega) | omega), if_pos (by first | (simp_all; done) | (simp_all; omega) | omega)]
       rw [e] at hk
       exact Gh.to (mL b s V m (SX ++ F)) (Gh.done (hk.go hI1 (hF.mono hI1) (hSp.mono hI1) (Cm ..))))
    | (have e : FF m c = (⟨0, (CN m.sp c.fKey c.fAt c.fTxn).1, [], z0, 0, 0⟩, Cb m c.fKey c.fAt c.fTxn) := by unfold FF; rw [if_neg (by first | (simp_all; done) | (simp_all; omega) | omega), if_neg (by first | (simp_all; done) | (simp_all; omega) | omega)]
       rw [e] at hk
       exact Gh.to (mL b s V1 (Cb m c.fKey c.fAt c.fTxn) (SX ++ F)) (Gh.done (hk.go hI1 hF1 (by rw [(Qy ..).1, (Qy ..).2]; exact hSp.mono hI1) ⟨_, _, rfl, hB1, RL.nil none 0⟩)))
theorem Sm (hM:MOk m N)(hN:N≤10000)(hF:MF I V m)(hSp:SpR I s SX m.sp m.nt)(hc:TCmdV I c cc)(hk:PostK K b F I (Dt m c).1 (Dt m c).2):
  CT ω 95 #[pt b,.agg cc.toArray] K I (mL b s V m (SX++F)):=by
 have h1:=hM.vers;have h2:=GS hN;have h3:=hM.rows;have hvs:∀r∈m.sp.rows,r.vs.length≤1000000000:=Fj (by omega);obtain ⟨w0,w1,w2,w3,rfl,g0,g1,g2,g3⟩:=hc;refine AMw ?_;unfold sh95;refine AQ (λb1=>AQ (λb2=>?_));repeat' (first|refine Γ ?_|refine Θ (λ_=>?_)|(refine Ψ ?_;refine (Iq b V (JQ hF (p:=c.fSpan) ⟨_,_,rfl,g2,g3⟩ ?_)))|(refine Ψ ?_;refine (Au ?_))|((refine Ψ ?_;refine (Wu (sp:=m.sp) (p:=c.fSpan) (m:=c.fAt) (txn:=c.fTxn) (most:=c.fMost) (hSp.view (λx hx=>by simp [hx])) hM.sp.rise (by omega) hvs ⟨_,_,rfl,g2,g3⟩ (λI1 u1 hI1 hB1=>?_)));obtain ⟨ua,uc,rfl⟩:=RL.form hB1)|(refine Ψ ?_;refine (Dz (k:=m.low) (a:=c.fAt) (n:=c.fTxn) ?_))|refine Δ ?_|(with_reducible first|refine AK (sh95.eq_1 ..) ?_|refine And.intro ?_ ?_)|refine Φ ?_|refine Ξ (λ_=>?_) (λ_=>?_)|refine O ?_|fail)
 ·have e:Dt m c=(Ag 141,m):=by unfold Dt;rw [if_pos (by first|(simp_all;done)|(simp_all;omega)|omega)]
  rw [e] at hk;exact Gh.to (mL b s V m (SX++F)) (Gh.done (hk.go (Ext.refl _) hF hSp (Cm ..)))
 ·have e:Dt m c=(⟨(Bk m.sp c.fSpan c.fAt c.fTxn c.fMost).2.2,BE,[],z0,(Bk m.sp c.fSpan c.fAt c.fTxn c.fMost).2.1,0⟩,m):=by unfold Dt;rw [if_neg (by first|(simp_all;done)|(simp_all;omega)|omega),if_pos (by first|(simp_all;done)|(simp_all;omega)|omega)]
  rw [e] at hk;exact Gh.to (mL b s V m (SX++F)) (Gh.done (hk.go hI1 (hF.mono hI1) (hSp.mono hI1) (Cm ..)))
 ·have e:Dt m c=(⟨0,BE,(Bk m.sp c.fSpan c.fAt c.fTxn c.fMost).1,z0,0,0⟩,{m with low:=An m.low c.fAt c.fTxn}):=by unfold Dt;rw [if_neg (by first|(simp_all;done)|(simp_all;omega)|omega),if_neg (by first|(simp_all;done)|(simp_all;omega)|omega)]
  rw [e] at hk;exact Gh.to (mL b s V {m with low:=An m.low c.fAt c.fTxn} (SX++F)) (Gh.done (hk.go hI1 {hF.mono hI1 with} (hSp.mono hI1) ⟨_,_,rfl,SlI.nil I1 1 none 0,hB1⟩))
theorem NS (hM:MOk m N)(hN:N≤10000)(hF:MF I V m)(hSp:SpR I s SX m.sp m.nt)(hc:TCmdV I c cc)(hk:PostK K b F I (Rf m c).1 (Rf m c).2):
  CT ω 103 #[pt b,.agg cc.toArray] K I (mL b s V m (SX++F)):=by
 have h1:=hM.vers;have h2:=GS hN;have h3:=hM.rows;obtain ⟨w0,w1,w2,w3,rfl,g0,g1,g2,g3⟩:=hc;refine AMK ?_;unfold sh103;refine AQ (λb1=>AQ (λb2=>?_));repeat' (first|refine Γ ?_|refine Θ (λ_=>?_)|(refine Ψ ?_;refine (Au ?_))|(refine Ψ ?_;refine (Cal.split SX (Pu (below:=c.fAt) hSp hM.sp (by omega) (by omega) (λX1 I1 hI1 hS1=>?_))))|refine Δ ?_|(with_reducible first|refine AK (sh103.eq_1 ..) ?_|refine And.intro ?_ ?_)|refine Φ ?_|refine Ξ (λ_=>?_) (λ_=>?_)|refine O ?_|fail)
 exact Gh.to (mL b s V {m with sp:=colS m.sp c.fAt,nt:=Px m.sp c.fAt m.nt} (X1++F)) (Gh.done (hk.go hI1 {hF.mono hI1 with} hS1 (Cm ..)))
abbrev AHz (m:Mch)(c:TCmd):Mch:={m with low:=An m.low c.fTo c.fTxn}
theorem TH {r:TRes}(h0:Gb m.span c.fSpan=true)(e:Ax m c=some r):CV m c=(r,m):=by unfold CV;rw [if_neg (by simp [h0]),e]
theorem PW (hM:MOk m N)(hN:N≤10000)(hF:MF I V m)(hSp:SpR I s SX m.sp m.nt)(hc:TCmdV I c cc)(hk:PostK K b F I (CV m c).1 (CV m c).2):
  CT ω 97 #[pt b,.agg cc.toArray] K I (mL b s V m (SX++F)):=by
 have h1:=hM.vers;have h2:=GS hN;have h3:=hM.rows;have hvs:∀r∈m.sp.rows,r.vs.length≤1000000000:=Fj (by omega);have hc':=hc;obtain ⟨w0,w1,w2,w3,rfl,g0,g1,g2,g3⟩:=hc;have hcm:=Ey c.fTo c.fAt;have hF0:MF I V (AHz m c):={hF with};refine AMu ?_;unfold sh97;refine AQ (λb1=>AQ (λb2=>?_));repeat' (first|refine Γ ?_|refine Θ (λ_=>?_)|(refine Ψ ?_;refine (Iq b V (JQ hF (p:=c.fSpan) ⟨_,_,rfl,g2,g3⟩ ?_)))|(refine Ψ ?_;refine (Au ?_))|(refine Ψ ?_;refine (Iq b V (GF hF hc' (λe a ha=>?_) (λha=>?_))))|(refine Ψ ?_;refine (DS (x:=c.fTo) (y:=c.fAt) ?_))|(refine Ψ ?_;refine (Py (sp:=m.sp) (p:=c.fSpan) (fr:=c.fAt) (to:=c.fTo) (txn:=c.fTxn) (hSp.view (λx hx=>by simp [hx])) hM.sp.rise (by omega) hvs ⟨_,_,rfl,g2,g3⟩ ?_))|(refine Ψ ?_;refine (Dz (k:=m.low) (a:=c.fTo) (n:=c.fTxn) ?_))|(refine Ψ ?_;refine (Iq b V (LY (m:=AHz m c) (e:=0) (a:=z0) (n:=0) (s':=0) hF0 hM.seen hM.seenL hc' (λV2 hF2=>?_))))|refine Δ ?_|(with_reducible first|refine AK (sh97.eq_1 ..) ?_|refine And.intro ?_ ?_)|refine Φ ?_|refine Ξ (λ_=>?_) (λ_=>?_)|refine O ?_|fail)
 ·have e:CV m c=(Ag 141,m):=by unfold CV;rw [if_pos (by first|(simp_all;done)|(simp_all;omega)|omega)]
  rw [e] at hk;exact Gh.to (mL b s V m (SX++F)) (Gh.done (hk.go (Ext.refl _) hF hSp (Cm ..)))
 ·rename_i ho _
  rw [TH (by first|(simp_all;done)|(simp_all;omega)|omega) ha] at hk;exact Gh.to (mL b s V m (SX++F)) (Gh.done (hk.go (Ext.refl _) hF hSp (Cm ..)))
 ·rename_i ho _ e1
  have e:CV m c=(Ag 1,m):=by unfold CV;rw [if_neg (by first|(simp_all;done)|(simp_all;omega)|omega),ha];simp only;rw [if_pos (by rw [←hcm];exact e1)]
  rw [e] at hk;exact Gh.to (mL b s V m (SX++F)) (Gh.done (hk.go (Ext.refl _) hF hSp (Cm ..)))
 ·rename_i ho _ e1 e2
  have e:CV m c=(Ag (chF m.sp c.fSpan c.fAt c.fTo c.fTxn).2,m):=by unfold CV;rw [if_neg (by first|(simp_all;done)|(simp_all;omega)|omega),ha];simp only;rw [if_neg (by rw [←hcm,e1];simp),if_pos (by simpa using e2)]
  rw [e] at hk;exact Gh.to (mL b s V m (SX++F)) (Gh.done (hk.go (Ext.refl _) hF hSp (Cm ..)))
 ·rename_i ho _ e1 e2 e3
  have e:CV m c=(Ag 144,m):=by unfold CV;rw [if_neg (by first|(simp_all;done)|(simp_all;omega)|omega),ha];simp only;rw [if_neg (by rw [←hcm,e1];simp),if_neg (by simpa using e2),if_pos e3]
  rw [e] at hk;exact Gh.to (mL b s V m (SX++F)) (Gh.done (hk.go (Ext.refl _) hF hSp (Cm ..)))
 ·rename_i ho _ e1 e2 e3
  have e:CV m c=(okR,Bw (AHz m c) c 0 z0):=by unfold CV;rw [if_neg (by first|(simp_all;done)|(simp_all;omega)|omega),ha];simp only;rw [if_neg (by rw [←hcm,e1];simp),if_neg (by simpa using e2),if_neg (by rw [e3];simp)]
  rw [e] at hk;exact Gh.to (mL b s V2 (Bw (AHz m c) c 0 z0) (SX++F)) (Gh.done (hk.go (Ext.refl _) hF2 (by rw [(HH ..).1,(HH ..).2];exact hSp) (Cm ..)))
theorem Ls {r:TRes}(h0:inB m.span c.fKey=true)(e:Ax m c=some r):Bm m c=(r,m):=by unfold Bm;rw [if_neg (by simp [h0]),e]
theorem AHt (h0:inB m.span c.fKey=true)(e:Ax m c=none)(h:(Ar m c).2≠0):Bm m c=(Ag (Ar m c).2,m):=by unfold Bm;rw [if_neg (by simp [h0]),e];simp only;rw [if_pos h]
theorem ADk {W:TStamp}(h0:inB m.span c.fKey=true)(e:Ax m c=none)(h:Ar m c=(W,0))(h2:(Ad m.low W c.fTxn).2≠0):Bm m c=(Ag (Ad m.low W c.fTxn).2,m):=by
 unfold Bm;rw [if_neg (by simp [h0]),e];simp only;rw [h,if_neg (by simp),if_pos h2]
abbrev Ny (m:Mch)(c:TCmd)(W:TStamp):Mch:={m with sp:=CI m.sp (Ak c (Ad m.low W c.fTxn).1),nt:=EM m.sp (Ak c (Ad m.low W c.fTxn).1) m.nt}
theorem Qn {W:TStamp}(h0:inB m.span c.fKey=true)(e:Ax m c=none)(h:Ar m c=(W,0))(h2:(Ad m.low W c.fTxn).2=0):Bm m c=
  (⟨(At m.sp (Ak c (Ad m.low W c.fTxn).1)).2.2,BE,[],(At m.sp (Ak c (Ad m.low W c.fTxn).1)).1,(At m.sp (Ak c (Ad m.low W c.fTxn).1)).2.1,0⟩,
   if (At m.sp (Ak c (Ad m.low W c.fTxn).1)).2.2=0 then Bw (Ny m c W) c (At m.sp (Ak c (Ad m.low W c.fTxn).1)).2.2 (At m.sp (Ak c (Ad m.low W c.fTxn).1)).1 else Ny m c W):=by
 unfold Bm;rw [if_neg (by simp [h0]),e];simp only;rw [h,if_neg (by simp),if_neg (by simp [h2])];congr 1
 split
 ·rename_i h3;rw [h3]
 ·rfl
theorem Rb (SX:LH){R:LH}[h:SplitL SX L R]{B:M→M}(hB:B (Stay I R) I L):AY B I L:=draw _ ⟨Ext.refl I,λx hx=>h.perm.mem_iff.2 (List.mem_append_right _ hx)⟩ hB
theorem Nz {p8:Value}{W:TStamp}{bk bw bo b2 b1:Nat}{ok oo:Obj}{w0 w1 w2 w3:Value}(hM:MOk m N)(hN:N≤10000)(hF:MF I V m)(hSp:SpR I s SX m.sp m.nt)(g0:Bytes I w0 c.fKey)(g1:Bytes I w1 c.fValue)(g2:Bytes I w2 c.fSpan.fFrom)(g3:Bytes I w3 c.fSpan.fTo)
  (hi:inB m.span c.fKey=true) (ha:Ax m c=none) (hW:Ar m c=(W,0)) (hk:PostK K b F I (Bm m c).1 (Bm m c).2):
  sh96_1 ω (pt b) (pt b1) (pt b2) (pt bw) p8 (λv=>Gh (K v)) I ((bk,ok)::(bw,.cells #[.int .i64 W.fWall,.int .i64 W.fLogic] 41 (0,0))::(bo,oo)::mL b s V m
   ((b2,.cells #[.int .i64 0,.bool false,.slice none 0 0,.int .i64 0,.int .i64 0,.int .i64 0,.slice none 0 0,.int .i64 0,.int .i64 0,.int .i64 0,.int .i64 0] 52 (0,0))::
   (b1,.cells #[.int .i64 c.fKind,.int .i64 c.fTxn,.int .i64 c.fSeq,.int .i64 c.fAt.fWall,.int .i64 c.fAt.fLogic,.int .i64 c.fTo.fWall,.int .i64 c.fTo.fLogic,.int .i64 c.fBy,.bool c.fYes,.bool c.fDel,w0,w1,w2,w3,.int .i64 c.fMost] 56 (0,0))::(SX++F))):=by
 have h1:=hM.vers;have h2:=GS hN;have h3:=hM.rows;have hvs:∀r∈m.sp.rows,r.vs.length≤100000000:=Fj (by omega);have hF0:∀W I',Ext I I'→MF I' V (Ny m c W):=λW I' hI=>{hF.mono hI with};have hc':TCmdV I c _:=⟨w0,w1,w2,w3,rfl,g0,g1,g2,g3⟩;obtain ⟨wa0,wc0,rfl⟩:=Bytes.form g0;obtain ⟨wa1,wc1,rfl⟩:=Bytes.form g1;repeat' (first|(with_reducible first|refine Rb SX ?_|refine Gq ?_|refine Mk ?_|refine keepA ?_|refine AQ (λ_=>?_))|(refine Ψ ?_;refine (Au ?_))|(refine Ψ ?_;refine (ME (k:=m.low) (w:=W) (n:=c.fTxn) ?_))|(refine Ψ ?_;refine (Cal.split SX (ADj (x:=Ak c (Ad m.low W c.fTxn).1) hSp hM.sp (by omega) hvs ⟨_,_,rfl,g0,g1⟩ (λX1 I1 hI1 hS1=>?_))))|(refine Ψ ?_;refine (Iq b V (LY (m:=Ny m c W) (e:=(At m.sp (Ak c (Ad m.low W c.fTxn).1)).2.2) (a:=(At m.sp (Ak c (Ad m.low W c.fTxn).1)).1) (n:=(At m.sp (Ak c (Ad m.low W c.fTxn).1)).2.1) (s':=0) (hF0 W I1 hI1) hM.seen hM.seenL (hc'.mono hI1) (λV2 hF2=>?_))))|refine Δ ?_|(with_reducible first|refine AK (sh96_3.eq_1 ..) ?_|refine AK (sh96_2.eq_1 ..) ?_|refine AK (sh96_1.eq_1 ..) ?_|refine AK (sh96.eq_1 ..) ?_|refine And.intro ?_ ?_)|refine Φ ?_|refine Ξ (λ_=>?_) (λ_=>?_)|refine O ?_|fail)
 all_goals first
  |(rw [ADk hi ha hW (by first|(simp_all;done)|(simp_all;omega)|omega)] at hk;exact Gh.to (mL b s V m (SX++F)) (Gh.done (hk.go (Ext.refl _) hF hSp (Cm ..))))
  |(rw [Qn hi ha hW (by first|(simp_all;done)|(simp_all;omega)|omega),if_pos (by first|(simp_all;done)|(simp_all;omega)|omega)] at hk;exact Gh.to (mL b s V2 (Bw (Ny m c W) c (At m.sp (Ak c (Ad m.low W c.fTxn).1)).2.2 (At m.sp (Ak c (Ad m.low W c.fTxn).1)).1) (X1++F)) (Gh.done (hk.go hI1 hF2 (by rw [(HH ..).1,(HH ..).2];exact hS1) (Cm ..))))
  |(rw [Qn hi ha hW (by first|(simp_all;done)|(simp_all;omega)|omega),if_neg (by first|(simp_all;done)|(simp_all;omega)|omega)] at hk;exact Gh.to (mL b s V (Ny m c W) (X1++F)) (Gh.done (hk.go hI1 (hF0 W I1 hI1) hS1 (Cm ..))))
  |trace_state
theorem XU (hM:MOk m N)(hN:N≤10000)(hF:MF I V m)(hSp:SpR I s SX m.sp m.nt)(hc:TCmdV I c cc)(hk:PostK K b F I (Bm m c).1 (Bm m c).2):
  CT ω 96 #[pt b,.agg cc.toArray] K I (mL b s V m (SX++F)):=by
 have hc':=hc;obtain ⟨w0,w1,w2,w3,rfl,g0,g1,g2,g3⟩:=hc;refine AMv ?_;unfold sh96;refine AQ (λb1=>AQ (λb2=>?_));have hl:BO mv m.marks c.fKey=(lkA m.marks c.fKey).map mv:=rfl;have hl1:Ar m c=match lkA m.marks c.fKey with|some k=>Ad k c.fAt c.fTxn|none=>(c.fAt,0):=rfl
 rcases hx:lkA m.marks c.fKey with _|x
 all_goals rw [hx] at hl hl1
 all_goals simp only [Option.map_none,Option.map_some] at hl hl1
 ·repeat' (first|refine Γ ?_|(with_reducible first|refine AQ (λ_=>?_)|refine Nz (W:=c.fAt) hM hN hF hSp g0 g1 g2 g3 ?_ ha hl1 hk)|(refine Ψ ?_;refine (EN (p:=m.span) ⟨_,_,rfl,hF.f0,hF.f1⟩ g0 ?_))|(refine Ψ ?_;refine (Au ?_))|(refine Ψ ?_;refine (Iq b V (GF hF hc' (λe a ha=>?_) (λha=>?_))))|(with_reducible refine Bd g0 (Ext.refl _) ?_)|((with_reducible refine AEG hF.mks ?_);simp only [hl,lkV,if_true,if_false,Bool.false_eq_true])|refine Δ ?_|(with_reducible first|refine AK (sh96_3.eq_1 ..) ?_|refine AK (sh96_2.eq_1 ..) ?_|refine AK (sh96_1.eq_1 ..) ?_|refine AK (sh96.eq_1 ..) ?_|refine And.intro ?_ ?_)|refine Φ ?_|refine Ξ (λ_=>?_) (λ_=>?_)|refine O ?_|fail)
  ·have e1:Bm m c=(Ag 141,m):=by unfold Bm;rw [if_pos (by first|(simp_all;done)|(simp_all;omega)|omega)]
   rw [e1] at hk;exact Gh.to (mL b s V m (SX++F)) (Gh.done (hk.go (Ext.refl _) hF hSp (Cm ..)))
  ·rw [Ls (by first|(simp_all;done)|(simp_all;omega)|omega) ha] at hk;exact Gh.to (mL b s V m (SX++F)) (Gh.done (hk.go (Ext.refl _) hF hSp (Cm ..)))
  ·rename_i hi _ _ _;simpa using hi
 ·have hl2:(Ad x c.fAt c.fTxn).2=0→Ar m c=((Ad x c.fAt c.fTxn).1,0):=λh=>by rw [hl1,←h]
  repeat' (first|refine Γ ?_|(with_reducible first|refine AQ (λ_=>?_)|refine Nz (W:=(Ad x c.fAt c.fTxn).1) hM hN hF hSp g0 g1 g2 g3 ?_ ha ?_ hk)|(refine Ψ ?_;refine (EN (p:=m.span) ⟨_,_,rfl,hF.f0,hF.f1⟩ g0 ?_))|(refine Ψ ?_;refine (Au ?_))|(refine Ψ ?_;refine (Iq b V (GF hF hc' (λe a ha=>?_) (λha=>?_))))|(with_reducible refine Bd g0 (Ext.refl _) ?_)|((with_reducible refine AEG hF.mks ?_);simp only [hl,lkV,if_true,if_false,Bool.false_eq_true])|(refine Ψ ?_;refine (ME (k:=x) (w:=c.fAt) (n:=c.fTxn) ?_))|refine Δ ?_|(with_reducible first|refine AK (sh96_3.eq_1 ..) ?_|refine AK (sh96_2.eq_1 ..) ?_|refine AK (sh96_1.eq_1 ..) ?_|refine AK (sh96.eq_1 ..) ?_|refine And.intro ?_ ?_)|refine Φ ?_|refine Ξ (λ_=>?_) (λ_=>?_)|refine O ?_|fail)
  ·have e1:Bm m c=(Ag 141,m):=by unfold Bm;rw [if_pos (by first|(simp_all;done)|(simp_all;omega)|omega)]
   rw [e1] at hk;exact Gh.to (mL b s V m (SX++F)) (Gh.done (hk.go (Ext.refl _) hF hSp (Cm ..)))
  ·rw [Ls (by first|(simp_all;done)|(simp_all;omega)|omega) ha] at hk;exact Gh.to (mL b s V m (SX++F)) (Gh.done (hk.go (Ext.refl _) hF hSp (Cm ..)))
  ·rename_i hi _ _ _ hn
   rw [AHt (by simpa using hi) ha (by rw [hl1];simpa using hn),hl1] at hk;exact Gh.to (mL b s V m (SX++F)) (Gh.done (hk.go (Ext.refl _) hF hSp (Cm ..)))
  ·rename_i hi _ _ _ hn;simpa using hi
  ·rename_i hi _ _ _ hn;exact hl2 (by simpa using hn)
theorem XI {x:TIntent}{l:List TIntent}{sp:Sp}{nt:Nts}(h:¬(x.fTxn≠c.fTxn∨inB c.fSpan x.fKey=false))(h2:(Di sp x.fKey c.fTxn c.fYes c.fAt).2=0):
  DL c (x::l) sp nt=DL c l (Dw sp x.fKey c.fTxn c.fYes c.fAt) (Ho sp x.fKey c.fTxn c.fYes c.fAt nt):=by
 show (if x.fTxn≠c.fTxn∨inB c.fSpan x.fKey=false then _ else _)=_;rw [if_neg h,if_neg (by simp [h2])]
theorem Nu {x:TIntent}{l:List TIntent}{sp:Sp}{nt:Nts}(h:x.fTxn≠c.fTxn∨inB c.fSpan x.fKey=false):DL c (x::l) sp nt=DL c l sp nt:=if_pos h
theorem ADc {x:TIntent}{l:List TIntent}{sp:Sp}{nt:Nts}(h:¬(x.fTxn≠c.fTxn∨inB c.fSpan x.fKey=false))(h2:(Di sp x.fKey c.fTxn c.fYes c.fAt).2≠0):
  DL c (x::l) sp nt=((Di sp x.fKey c.fTxn c.fYes c.fAt).2,Dw sp x.fKey c.fTxn c.fYes c.fAt,Ho sp x.fKey c.fTxn c.fYes c.fAt nt):=by
 show (if x.fTxn≠c.fTxn∨inB c.fSpan x.fKey=false then _ else _)=_;rw [if_neg h,if_pos h2]
abbrev ADb (m:Mch)(sp:Sp)(nt:Nts):Mch:={m with sp:=sp,nt:=nt}
abbrev FI:Obj:=.cells #[.int .i64 0,.bool false,.slice none 0 0,.int .i64 0,.int .i64 0,.int .i64 0,.slice none 0 0,.int .i64 0,.int .i64 0,.int .i64 0,.int .i64 0] 52 (0,0)
abbrev DU (c:TCmd)(w0 w1 w2 w3:Value):Obj:=.cells #[.int .i64 c.fKind,.int .i64 c.fTxn,.int .i64 c.fSeq,.int .i64 c.fAt.fWall,.int .i64 c.fAt.fLogic,.int .i64 c.fTo.fWall,.int .i64 c.fTo.fLogic,.int .i64 c.fBy,.bool c.fYes,.bool c.fDel,w0,w1,w2,w3,.int .i64 c.fMost] 56 (0,0)
theorem NL (hM:MOk m N)(hN:N≤5000)(hF:MF I V m)(hSp:SpR I s SX m.sp m.nt)(hc:TCmdV I c cc)(hk:PostK K b F I (Ej m c).1 (Ej m c).2):
  CT ω 102 #[pt b,.agg cc.toArray] K I (mL b s V m (SX++F)):=by
 have h1:=hM.vers;have h2:N * N≤25000000:=Nat.mul_le_mul hN hN;have h3:=hM.rows;obtain ⟨w0,w1,w2,w3,rfl,g0,g1,g2,g3⟩:=hc;refine AML ?_;unfold sh102;refine AQ (λb1=>AQ (λb2=>?_));try refine O ?_
 refine rdP _ rfl rfl ?_;refine call (Iq b V (JQ hF (p:=c.fSpan) ⟨_,_,rfl,g2,g3⟩ ?_));try refine O ?_
 refine AF (λe=>?_) (λe=>?_)
 ·have e1:Ej m c=(Ag 141,m):=by unfold Ej;rw [if_pos (by first|(simp_all;done)|(simp_all;omega)|omega)]
  rw [e1] at hk;repeat' (first|refine Γ ?_|refine Θ (λ_=>?_)|(refine Ψ ?_;refine (Au ?_))|refine Δ ?_|(with_reducible first|refine AK (sh102_3.eq_1 ..) ?_|refine AK (sh102_4.eq_1 ..) ?_|refine AK (sh102_6.eq_1 ..) ?_|refine AK (sh102_1.eq_1 ..) ?_|refine AK (sh102.eq_1 ..) ?_|refine And.intro ?_ ?_)|refine Φ ?_|refine Ξ (λ_=>?_) (λ_=>?_)|refine O ?_|fail)
  exact Gh.to (mL b s V m (SX++F)) (Gh.done (hk.go (Ext.refl _) hF hSp (Cm ..)))
 have ho:Gb m.span c.fSpan=true:=by simpa using e
 have e1:Ej m c=(Ag (DL c (intsOf m.sp.rows) m.sp m.nt).1,ADb m (DL c (intsOf m.sp.rows) m.sp m.nt).2.1 (DL c (intsOf m.sp.rows) m.sp m.nt).2.2):=by unfold Ej;rw [if_neg (by simp [ho])]
 rw [e1] at hk
 refine rdb ?_;refine call (Pm (sp:=m.sp) (hSp.view (λx hx=>by simp [hx])) hM.sp.rise (by omega) (λI1 iv hI1 hIv=>?_));have hil:=Ky m.sp.rows;generalize intsOf m.sp.rows=its at *;simp only [RL.len hIv,SSd,Nat.reduceAdd];refine loop (λn' (s':Value×Unit) I' L'=>∃(i:Nat) (sp':Sp) (nt':Nts) (X':LH),n'+i=its.length∧s'=(.int .i64 i,())∧Ext I1 I'∧SpR I' s X' sp' nt'∧SpOk sp'∧sp'.rows.length≤m.sp.rows.length∧Ac sp'.rows≤Ac m.sp.rows+i∧
  DL c its m.sp m.nt=DL c (its.drop i) sp' nt'∧L'=mL b s V m ((b2,FI)::
   (b1,DU c w0 w1 w2 w3)::(X'++F)))
  its.length ⟨0,m.sp,m.nt,SX,rfl,rfl,Ext.refl _,hSp.mono hI1,hM.sp,Nat.le_refl _,Nat.le_refl _,rfl,rfl⟩ ?_
 rintro n' s' I' L' ⟨i,sp',nt',X',hn,rfl,hI',hS',hok,hrl,hvl,hre,rfl⟩;unfold sh102_1;try refine O ?_
 refine AF (λe2=>?_) (λe2=>?_)
 ·have hi:i < its.length:=by simpa using e2
  obtain ⟨bx,off,cx,hix,hcl,hcx,hcc⟩:=RL.ix hIv (i:=(i:Int)) (by omega) (by omega);rw [AX hi] at hcx;have hdrop:its.drop i=its[i]::its.drop (i+1):=List.drop_eq_getElem_cons hi;generalize its[i]=x at *;obtain ⟨x0,x1,rfl,k0,k1⟩:=hcx;obtain ⟨xa0,xc0,rfl⟩:=Bytes.form k0;obtain ⟨xa1,xc1,rfl⟩:=Bytes.form k1;have w64:IntKind.i64.wrap ((i:Int)+1)=((i+1:Nat):Int):=by rw [wrap_i64 _ (by omega)];rfl
  simp only [hix,SSd,Nat.reduceAdd];refine rdN hcl (hcc I' _ hI' (λx hx=>by cases hx)) ?_;repeat' (first|(with_reducible first|refine Rb X' ?_|refine Gq ?_|refine Mk ?_|refine keepA ?_|refine AQ (λ_=>?_))|(refine Ψ ?_;refine (EN (p:=c.fSpan) ⟨_,_,rfl,(g2.mono hI1).mono hI',(g3.mono hI1).mono hI'⟩ (k0.mono hI') ?_))|(refine Ψ ?_;refine (Au ?_))|(refine Ψ ?_;refine (Cal.split X' (PS (k:=x.fKey) (txn:=c.fTxn) (yes:=c.fYes) (a:=c.fAt) hS' hok (by omega) (Fj (by omega)) (k0.mono hI') (λX2 I2 hI2 hS2=>?_))))|refine Δ ?_|(with_reducible first|refine AK (sh102_3.eq_1 ..) ?_|refine AK (sh102_4.eq_1 ..) ?_|refine AK (sh102_6.eq_1 ..) ?_|refine AK (sh102_1.eq_1 ..) ?_|refine AK (sh102.eq_1 ..) ?_|refine And.intro ?_ ?_)|refine Φ ?_|refine Ξ (λ_=>?_) (λ_=>?_)|refine O ?_|fail)
  ·rename_i q1 q2
   rw [w64];refine Gh.to (mL b s V m ((b2,FI)::(b1,DU c w0 w1 w2 w3)::(X'++F))) (Gh.done ⟨n' - 1,by omega,i+1,sp',nt',X',by omega,rfl,hI',hS',hok,hrl,by omega,?_,rfl⟩);rw [hre,hdrop,Nu (.inr (by first|(simp_all;done)|(simp_all;omega)|omega))]
  ·rename_i q1 q2 q3
   have hq:¬(x.fTxn≠c.fTxn∨inB c.fSpan x.fKey=false):=by simp at q1 q2;simp [q1,q2]
   rw [hre,hdrop,ADc hq (by simpa using q3)] at hk;exact Gh.to (mL b s V (ADb m (Dw sp' x.fKey c.fTxn c.fYes c.fAt) (Ho sp' x.fKey c.fTxn c.fYes c.fAt nt')) (X2++F)) (Gh.done (hk.go (hI1.trans (hI'.trans hI2)) {hF.mono (hI1.trans (hI'.trans hI2)) with} hS2 (Cm ..)))
  ·rename_i q1 q2 q3
   have hq:¬(x.fTxn≠c.fTxn∨inB c.fSpan x.fKey=false):=by simp at q1 q2;simp [q1,q2]
   have hlen:=PT (k:=x.fKey) (txn:=c.fTxn) (yes:=c.fYes) (a:=c.fAt) hok;rw [w64];refine Gh.to (mL b s V m ((b2,FI)::(b1,DU c w0 w1 w2 w3)::(X2++F))) (Gh.done ⟨n' - 1,by omega,i+1,_,_,X2,by omega,rfl,hI'.trans hI2,hS2,hok.res,by omega,by omega,?_,rfl⟩);rw [hre,hdrop,XI hq (by simpa using q3)]
  ·rename_i q1
   rw [w64];refine Gh.to (mL b s V m ((b2,FI)::(b1,DU c w0 w1 w2 w3)::(X'++F))) (Gh.done ⟨n' - 1,by omega,i+1,sp',nt',X',by omega,rfl,hI',hS',hok,hrl,by omega,?_,rfl⟩);rw [hre,hdrop,Nu (.inl (by simpa using q1))]
 ·have hi:i=its.length:=by simp at e2;omega
  rw [hre,hi,List.drop_length] at hk;repeat' (first|refine Γ ?_|refine Θ (λ_=>?_)|refine Δ ?_|(with_reducible first|refine AK (sh102_3.eq_1 ..) ?_|refine AK (sh102_4.eq_1 ..) ?_|refine AK (sh102_6.eq_1 ..) ?_|refine AK (sh102_1.eq_1 ..) ?_|refine AK (sh102.eq_1 ..) ?_|refine And.intro ?_ ?_)|refine Φ ?_|refine Ξ (λ_=>?_) (λ_=>?_)|refine O ?_|fail)
  exact Gh.to (mL b s V (ADb m sp' nt') (X'++F)) (Gh.done (hk.go (hI1.trans hI') {hF.mono (hI1.trans hI') with} hS' (Cm ..)))
end
def Hw (c:TCmd):Bool:=c.fSeq==0&&(c.fBy==0&&(c.fMost==0&&((c.fTo.fWall==0&&c.fTo.fLogic==0)&&(!c.fYes&&(!c.fDel&&(c.fKey.length==0&&(c.fValue.length==0&&(c.fSpan.fFrom.length==0&&c.fSpan.fTo.length==0))))))))
theorem AOL {a b c d:Nat}(ha:a≤140737488355328)(hb:b≤140737488355328)(hc:c≤140737488355328)(hd:d≤140737488355328):
  IntKind.i64.wrap (IntKind.i64.wrap (IntKind.i64.wrap (IntKind.i64.wrap ((a:Int))+b)+c)+d)=(a:Int)+b+c+d:=by
 rw [wrap_i64 (a:Int) (by omega),wrap_i64 ((a:Int)+b) (by omega),wrap_i64 ((a:Int)+b+c) (by omega),wrap_i64 ((a:Int)+b+c+d) (by omega)]
structure Lens (c:TCmd):Prop where
 k:c.fKey.length≤140737488355328
 v:c.fValue.length≤140737488355328
 f:c.fSpan.fFrom.length≤140737488355328
 t:c.fSpan.fTo.length≤140737488355328
section
variable {ω:Om}{I:Imm}{L:LH}{K:Value→M}
theorem Te {c:TCmd}{cc:List Value}(hc:TCmdV I c cc)(hL:Lens c)(hk:K (.bool (Hw c)) I L):CT ω 92 #[.agg cc.toArray] K I L:=by
 obtain ⟨w0,w1,w2,w3,rfl,g0,g1,g2,g3⟩:=hc;have hl:=AOL hL.k hL.v hL.f hL.t;refine AMz ?_;unfold sh92;by_cases hz:c.fSeq=0∧c.fBy=0∧c.fMost=0
 ·obtain ⟨z1,z2,z3⟩:=hz;have hl2:IntKind.i64.wrap (IntKind.i64.wrap (IntKind.i64.wrap (IntKind.i64.wrap (IntKind.i64.wrap (IntKind.i64.wrap ((0:Int)+0)+0)+c.fKey.length)+c.fValue.length)+c.fSpan.fFrom.length)+c.fSpan.fTo.length)=(c.fKey.length:Int)+c.fValue.length+c.fSpan.fFrom.length+c.fSpan.fTo.length:=by
   rw [show IntKind.i64.wrap ((0:Int)+0)=0 from rfl,show IntKind.i64.wrap ((0:Int)+0)=0 from rfl,Int.zero_add,hl]
  have he:Hw c=(((c.fKey.length:Int)+c.fValue.length+c.fSpan.fFrom.length+c.fSpan.fTo.length==0)&&((c.fTo.fWall==0&&c.fTo.fLogic==0)&&(!c.fYes&& !c.fDel))):=by
   unfold Hw;rw [z1,z2,z3,Bool.eq_iff_iff];have e4:((c.fKey.length:Int)+c.fValue.length+c.fSpan.fFrom.length+c.fSpan.fTo.length=0)↔(c.fKey.length=0∧c.fValue.length=0∧c.fSpan.fFrom.length=0∧c.fSpan.fTo.length=0):=by omega
   simp only [Bool.and_eq_true,beq_iff_eq,Bool.not_eq_true',beq_self_eq_true,true_and,e4];constructor
   ·rintro ⟨a1,a2,a3,a4,a5,a6,a7⟩;exact ⟨⟨a4,a5,a6,a7⟩,a1,a2,a3⟩
   ·rintro ⟨⟨a4,a5,a6,a7⟩,a1,a2,a3⟩;exact ⟨a1,a2,a3,a4,a5,a6,a7⟩
  rw [he] at hk;repeat' (first|refine Γ ?_|refine Θ (λ_=>?_)|refine Δ ?_|(with_reducible first|refine AK (sh92.eq_1 ..) ?_|refine And.intro ?_ ?_)|refine Φ ?_|refine Ξ (λ_=>?_) (λ_=>?_)|(simp only [SSd,Nat.reduceAdd,z1,z2,z3,hl2,Bytes.len g0,Bytes.len g1,Bytes.len g2,Bytes.len g3]))
  all_goals (refine Gh.to L (Gh.done (CA hk ?_));simp_all)
 ·have he:Hw c=false:=by
   unfold Hw;rw [Bool.eq_false_iff];intro h;simp only [Bool.and_eq_true,beq_iff_eq] at h;exact hz ⟨h.1,h.2.1,h.2.2.1⟩
  rw [he] at hk;repeat' (first|refine Γ ?_|refine Θ (λ_=>?_)|refine Δ ?_|(with_reducible first|refine AK (sh92.eq_1 ..) ?_|refine And.intro ?_ ?_)|refine Φ ?_|refine Ξ (λ_=>?_) (λ_=>?_)|(simp only [SSd,Nat.reduceAdd,Bytes.len g0,Bytes.len g1,Bytes.len g2,Bytes.len g3]))
  all_goals (refine Gh.to L (Gh.done (CA hk ?_));simp_all)
theorem Fh (I:Imm):Bytes I (.slice none 0 0) []:=SlI.nil I 1 none 0
theorem AKJ {k t s aw al tw tl b mo:Int}{y d:Bool}{w0 w1 w2 w3:Value}{key value fr to:List UInt8}(g0:Bytes I w0 key)(g1:Bytes I w1 value)(g2:Bytes I w2 fr)(g3:Bytes I w3 to)
  (l0:key.length≤140737488355328) (l1:value.length≤140737488355328) (l2:fr.length≤140737488355328) (l3:to.length≤140737488355328)
  (hk:K (.bool (Hw ⟨k,t,s,⟨aw,al⟩,⟨tw,tl⟩,b,y,d,key,value,⟨fr,to⟩,mo⟩)) I L):
  CT ω 92 #[.agg #[.int .i64 k,.int .i64 t,.int .i64 s,.int .i64 aw,.int .i64 al,.int .i64 tw,.int .i64 tl,.int .i64 b,.bool y,.bool d,w0,w1,w2,w3,.int .i64 mo]] K I L:=
 Te (c:=⟨k,t,s,⟨aw,al⟩,⟨tw,tl⟩,b,y,d,key,value,⟨fr,to⟩,mo⟩) ⟨w0,w1,w2,w3,rfl,g0,g1,g2,g3⟩ ⟨l0,l1,l2,l3⟩ hk
set_option maxHeartbeats 2000000 in
theorem Lk {rd:Bool}{c:TCmd}{w0 w1 w2 w3:Value}{b1 b2:Nat}(g0:Bytes I w0 c.fKey)(g1:Bytes I w1 c.fValue)(g2:Bytes I w2 c.fSpan.fFrom)(g3:Bytes I w3 c.fSpan.fTo)(hL:Lens c)(hrd:Ai c.fTxn=rd)
  (hk:K (.bool (kindOk c)) I L):
  Br (.bool (c.fKind==1))
   (sh33_2 ω (pt b1) (.bool false) (.bool rd) (.bool (BU c.fTxn)) (pt b2) (λv=>Gh (K v)))
   (sh33_5 ω (pt b1) (.bool false) (.bool rd) (.bool (BU c.fTxn)) (pt b2) (.int .i64 c.fKind) (λv=>Gh (K v))) I
   ((b2,.cells #[.int .i64 0,.int .i64 0,.int .i64 c.fSeq,.int .i64 0,.int .i64 0,.int .i64 c.fTo.fWall,.int .i64 c.fTo.fLogic,.int .i64 c.fBy,.bool c.fYes,.bool c.fDel,w0,w1,w2,w3,.int .i64 c.fMost] 56 (0,0))::(b1,DU c w0 w1 w2 w3)::L):=by
 subst hrd;have h12:c.fKind=1∨c.fKind=2∨c.fKind=3∨c.fKind=4∨c.fKind=5∨c.fKind=6∨c.fKind=7∨c.fKind=8∨c.fKind=9∨c.fKind=10∨c.fKind=11∨(c.fKind < 1∨11 < c.fKind):=by omega
 rcases h12 with hK|hK|hK|hK|hK|hK|hK|hK|hK|hK|hK|hK
 rotate_right
 ·have n1:c.fKind≠1:=by omega
  have n2:c.fKind≠2:=by omega
  have n3:c.fKind≠3:=by omega
  have n4:c.fKind≠4:=by omega
  have n5:c.fKind≠5:=by omega
  have n6:c.fKind≠6:=by omega
  have n7:c.fKind≠7:=by omega
  have n8:c.fKind≠8:=by omega
  have n9:c.fKind≠9:=by omega
  have n10:c.fKind≠10:=by omega
  have n11:c.fKind≠11:=by omega
  have hz:kindOk c=false:=by unfold kindOk;simp [n1,n2,n3,n4,n5,n6,n7,n8,n9,n10,n11]
  have beq:∀n:Int,c.fKind≠n→(c.fKind==n)=false:=λn h=>by simpa using h
  repeat' (first|refine Γ ?_|refine Θ (λ_=>?_)|refine Δ ?_|(with_reducible first|refine AK (sh33_4.eq_1 ..) ?_|refine AK (sh33_2.eq_1 ..) ?_|refine AK (sh33_5.eq_1 ..) ?_|refine AK (sh33.eq_1 ..) ?_|refine And.intro ?_ ?_)|refine Φ ?_|refine Ξ (λ_=>?_) (λ_=>?_)|(simp only [SSd,Nat.reduceAdd,beq _ n1,beq _ n2,beq _ n3,beq _ n4,beq _ n5,beq _ n6,beq _ n7,beq _ n8,beq _ n9,beq _ n10,beq _ n11]))
  all_goals (rw [hz] at hk;first|exact Gh.to L (Gh.done hk)|(rename_i q1 q2;simp [n1] at q1))
 all_goals repeat' (first|refine Γ ?_|refine Θ (λ_=>?_)|(refine Ψ ?_;refine (XZ g0 ?_))|(refine Ψ ?_;refine (HL ?_))|(refine Ψ ?_;refine (AKJ (by first|exact g0|exact Fh I) (by first|exact g1|exact Fh I) (by first|exact g2|exact Fh I) (by first|exact g3|exact Fh I) (by first|exact hL.k|exact Nat.zero_le _) (by first|exact hL.v|exact Nat.zero_le _) (by first|exact hL.f|exact Nat.zero_le _) (by first|exact hL.t|exact Nat.zero_le _) ?_))|refine Δ ?_|(with_reducible first|refine AK (sh33_4.eq_1 ..) ?_|refine AK (sh33_2.eq_1 ..) ?_|refine AK (sh33_5.eq_1 ..) ?_|refine AK (sh33.eq_1 ..) ?_|refine And.intro ?_ ?_)|refine Φ ?_|refine Ξ (λ_=>?_) (λ_=>?_)|(simp only [SSd,Nat.reduceAdd,hK,Bytes.len g1]))
 all_goals (refine Gh.to L (Gh.done (CA hk ?_));simp_all [kindOk,Hw,Ea,CF,BJ,Ek,Pg])
 all_goals first|done|ac_rfl|(intros;omega)|(have hv:c.fValue.length≤10000:=(by omega);simp only [hv,decide_true,Bool.true_and];ac_rfl)|trace_state
theorem Sz {c:TCmd}{cc:List Value}(hc:TCmdV I c cc)(hL:Lens c)(hk:K (.bool (BV c)) I L):CT ω 33 #[.agg cc.toArray] K I L:=by
 obtain ⟨w0,w1,w2,w3,rfl,g0,g1,g2,g3⟩:=hc;obtain ⟨y0,z0',rfl⟩:=Bytes.form g0;obtain ⟨y1,z1,rfl⟩:=Bytes.form g1;obtain ⟨y2,z2,rfl⟩:=Bytes.form g2;obtain ⟨y3,z3,rfl⟩:=Bytes.form g3;have hr:AN c.fAt=true→AN c.fTo=true→CC c.fSpan=true→¬c.fSeq < 0→¬c.fSeq > 9007199254740991→K (.bool (kindOk c)) I L:=by
  intro h1 h2 h3 h4 h5;have:BV c=kindOk c:=by unfold BV;simp [h1,h2,h3,show 0≤c.fSeq∧c.fSeq≤9007199254740991 by omega]
  rwa [this] at hk
 have h0:c.fTxn=0→Ai c.fTxn=true:=λh=>by simp [Ai,h]
 have h00:c.fTxn≠0→Ai c.fTxn=BU c.fTxn:=λh=>by simp [Ai,h]
 refine ANf ?_;unfold sh33;refine AQ (λb1=>?_);try refine O ?_
 refine rdP [.int .i64 c.fAt.fWall,.int .i64 c.fAt.fLogic] rfl rfl ?_;refine call (Bb (x:=c.fAt) ?_);try refine O ?_
 refine AV (λe1=>?_) (λe1=>?_);rotate_left
 ·exact Gh.to L (Gh.done (CA hk (by simp_all [BV])))
 refine rdP [.int .i64 c.fTo.fWall,.int .i64 c.fTo.fLogic] rfl rfl ?_;refine call (Bb (x:=c.fTo) ?_);try refine O ?_
 refine AV (λe2=>?_) (λe2=>?_);rotate_left
 ·exact Gh.to L (Gh.done (CA hk (by simp_all [BV])))
 refine rdP _ rfl rfl ?_;try refine O ?_
 refine call (Lw (p:=c.fSpan) ⟨_,_,rfl,g2,g3⟩ ?_);try refine O ?_
 refine AV (λe3=>?_) (λe3=>?_);rotate_left
 ·exact Gh.to L (Gh.done (CA hk (by simp_all [BV])))
 refine rdb ?_;try refine O ?_
 refine AV (λe4=>?_) (λe4=>?_);rotate_left
 ·exact Gh.to L (Gh.done (CA hk (by simp_all [BV];intros;omega)))
 refine rdb ?_;try refine O ?_
 refine AF (λe5=>?_) (λe5=>?_)
 ·exact Gh.to L (Gh.done (CA hk (by simp_all [BV];intros;omega)))
 have hk':=hr (by simpa using e1) (by simpa using e2) (by simpa using e3) (by simpa using e4) (by simpa using e5);clear hk hr
 refine rdb ?_;try refine O ?_
 refine AV (λe6=>?_) (λe6=>?_)
 ·refine rdb ?_;refine call (HL ?_);repeat' (first|refine Γ ?_|(with_reducible first|refine AQ (λ_=>?_)|refine Lk g0 g1 g2 g3 hL ?_ ?_)|(refine Ψ ?_;refine (HL ?_))|refine Δ ?_|(with_reducible first|refine AK (sh33_4.eq_1 ..) ?_|refine AK (sh33_2.eq_1 ..) ?_|refine AK (sh33_5.eq_1 ..) ?_|refine AK (sh33.eq_1 ..) ?_|refine And.intro ?_ ?_)|refine Φ ?_|refine Ξ (λ_=>?_) (λ_=>?_)|refine O ?_|fail)
  all_goals first|exact hk'|exact h00 (by simpa using e6)
 ·repeat' (first|refine Γ ?_|(with_reducible first|refine AQ (λ_=>?_)|refine Lk g0 g1 g2 g3 hL ?_ ?_)|(refine Ψ ?_;refine (HL ?_))|refine Δ ?_|(with_reducible first|refine AK (sh33_4.eq_1 ..) ?_|refine AK (sh33_2.eq_1 ..) ?_|refine AK (sh33_5.eq_1 ..) ?_|refine AK (sh33.eq_1 ..) ?_|refine And.intro ?_ ?_)|refine Φ ?_|refine Ξ (λ_=>?_) (λ_=>?_)|refine O ?_|fail)
  all_goals first|exact hk'|exact h0 (by simpa using e6)
abbrev AEA (p:TSpan)(sp:Sp)(nt:Nts):Mch:=⟨p,sp,nt,[],mk0,[],[],0,[]⟩
theorem OL {p:TSpan}{pc:List Value}{s:Nat}(sp:Sp)(nt:Nts)(hp:DO I p pc)(h1:p.fFrom.length≤140737488355328)(h2:p.fTo.length≤140737488355328)
  (hk:∀b V I',Ext I I'→MF I' V (AEA p sp nt)→K (pt b) I' (mL b s V (AEA p sp nt) L)):
  CT ω 31 #[.agg pc.toArray,pt s] K I L:=by
 obtain ⟨v0,v1,rfl,g0,g1⟩:=hp;refine ANh ?_;unfold sh31;refine AQ (λb1=>?_);repeat' (first|(with_reducible first|refine AZ ?_|refine Gq ?_|refine Mk ?_|refine keepA ?_|refine AQ (λ_=>?_))|((with_reducible refine call ?_);refine (Gs g0 h1 (λa0 c0 I1 hI1 hB1=>?_)))|((with_reducible refine call ?_);refine (Gs (g1.mono hI1) h2 (λa1 c1 I2 hI2 hB2=>?_)))|(with_reducible refine rdb ?_)|((with_reducible first|refine st1 ?_ ?_|refine rdB ?_ ?_);rfl)|(with_reducible refine Ab ?_)|((with_reducible refine Ck ?_ ?_);rfl)|((with_reducible refine stB ?_ ?_ ?_ ?_);rfl;rfl;exact AH rfl)|((with_reducible first|refine rdP _ rfl ?_ ?_|refine Cv _ rfl ?_ ?_);rfl)|((with_reducible refine stP _ rfl ?_ ?_ ?_ ?_);rfl;rfl;rfl)|(with_reducible first|refine AK (sh31.eq_1 ..) ?_|refine And.intro ?_ ?_)|(simp only [SSg,Int.reduceBEq,Int.reduceBNe,Int.reduceLT,Int.reduceLE,beq_self_eq_true,bne_self_eq_false])|(with_reducible first|refine AV (λ_=>?_) (λ_=>?_)|refine AF (λ_=>?_) (λ_=>?_))|(simp only [SSd,Nat.reduceAdd]))
 refine Qw (λm1=>Gh.done (Qw (λm2=>Gh.done (Qw (λm3=>Gh.done ?_)))));try refine O ?_
 refine AQ (λb=>?_);refine Gh.to (mL b s ⟨m1,m2,m3,.slice a0 p.fFrom.length c0,.slice a1 p.fTo.length c1,.slice none 0 0,#[],0,#[],0,#[],0⟩ (AEA p sp nt) L) (Gh.done (hk b _ I2 (hI1.trans hI2) ⟨hB1.mono hI2,hB2,MapS.empty,MapSi.empty,MapSi.empty,Fh I2⟩))
theorem JV {p:TSpan}{pc:List Value}(hp:DO I p pc)(h0:CC p=false→K (.tuple #[.pointer none,.int .i64 1]) I L)
  (hk:CC p=true→∀b X I',Ext I I'→MchR I' b X (GO p)→K (.tuple #[pt b,.int .i64 0]) I' (X++L)):CT ω 11 #[.agg pc.toArray] K I L:=by
 have hp':=hp;obtain ⟨v0,v1,rfl,g0,g1⟩:=hp;refine ANo ?_;unfold AJl;refine AQ (λb1=>?_);refine rdB rfl ?_;refine call (Lw (p:=p) hp' ?_);try refine O ?_
 refine AF (λe=>?_) (λe=>?_)
 ·exact Gh.to L (Gh.done (h0 (by simpa using e)))
 ·have he:CC p=true:=by simpa using e
  have hl:p.fFrom.length≤111∧p.fTo.length≤111:=by
   simp only [CC,Bool.and_eq_true,decide_eq_true_eq] at he;exact he.1
  refine AZ ?_;refine Ck rfl ?_;refine Bu (Qx (λbs SX hS=>Gh.done ?_));refine Bt (Ext.refl _) ?_;refine call (OL sp0 nt0 (p:=p) hp' (by omega) (by omega) (λb V I' hI hF=>?_))
  exact Gh.to (mL b bs V (AEA p sp0 nt0) (SX++L)) (Gh.done (hk he b (mL b bs V (AEA p sp0 nt0) SX) I' hI ⟨bs,V,SX,List.Perm.refl _,hF,hS.mono hI⟩))
end
def GK (I:Imm)(v:Value)(f:FuncId):Prop:=∃q,v= .func (.func 147) #[] #[pt q]∧I q=some (.cells #[.func (.func f) #[] #[]] 181 (0,0))
abbrev Dd (q:Nat):Value:=.func (.func 147) #[] #[pt q]
theorem AMQ (q1 q2 q3 q4 q5 q6 q7 q8 q9 q10:Nat):Rm 1 #[Value.nilFunc,Value.nilFunc,Value.nilFunc,Value.nilFunc,Value.nilFunc,Value.nilFunc,Value.nilFunc,Value.nilFunc,Value.nilFunc,Value.nilFunc,Value.nilFunc,Value.nilFunc] [(1,Dd q1),(2,Dd q2),(3,Dd q3),(4,Dd q4),(5,Dd q5),(6,Dd q6),(7,Dd q7),(8,Dd q8),(9,Dd q9),(10,Dd q10),(11,.func (.func 104) #[] #[])]=some (.agg #[.nilFunc,Dd q1,Dd q2,Dd q3,Dd q4,Dd q5,Dd q6,Dd q7,Dd q8,Dd q9,Dd q10,.func (.func 104) #[] #[]]):=by kernel_rfl
section
variable {ω:Om}{I:Imm}{L:LH}{K:Value→M}
theorem CO {f:FuncId}(hk:∀q I',Ext I I'→I' q=some (.cells #[.func (.func f) #[] #[]] 181 (0,0))→K (Dd q) I' L):CT ω 93 #[.func (.func f) #[] #[]] K I L:=by
 refine AMy ?_;unfold AJN;refine AQ (λq=>?_);refine Gh.freeze λhI=>Gh.done (hk _ _ hI (by simp [Imm.put,Value.cells]))
theorem Rc (hk : ∀ I' v1 v2 v3 v4 v5 v6 v7 v8 v9 v10, Ext I I' → GK I' v1 94 → GK I' v2 95 → GK I' v3 96 → GK I' v4 97 → GK I' v5 98 →
      GK I' v6 99 → GK I' v7 100 → GK I' v8 101 → GK I' v9 102 → GK I' v10 103 →
      K (.agg #[.nilFunc, v1, v2, v3, v4, v5, v6, v7, v8, v9, v10, .func (.func 104) #[] #[]]) I' L) :
    CT ω 35 #[] K I L := by
  refine ANd ?_
  unfold AJg
  refine AQ (λb => ?_)
  refine call (CO (λq1 I1 hI1 g1 => ?_))
  refine call (CO (λq2 I2 hI2 g2 => ?_))
  refine call (CO (λq3 I3 hI3 g3 => ?_))
  refine call (CO (λq4 I4 hI4 g4 => ?_))
  refine call (CO (λq5 I5 hI5 g5 => ?_))
  refine call (CO (λq6 I6 hI6 g6 => ?_))
  refine call (CO (λq7 I7 hI7 g7 => ?_))
  refine call (CO (λq8 I8 hI8 g8 => ?_))
  refine call (CO (λq9 I9 hI9 g9 => ?_))
  refine call (CO (λq10 I10 hI10 g10 => ?_))
  have t9 := hI10
  have t8 := hI9.trans t9
  have t7 := hI8.trans t8
  have t6 := hI7.trans t7
  have t5 := hI6.trans t6
  have t4 := hI5.trans t5
  have t3 := hI4.trans t4
  have t2 := hI3.trans t3
  have t1 := hI2.trans t2
  have hk' := hk I10 (Dd q1) (Dd q2) (Dd q3) (Dd q4) (Dd q5) (Dd q6) (Dd q7) (Dd q8) (Dd q9) (Dd q10) (hI1.trans t1) ⟨q1, rfl, t1 _ _ g1⟩ ⟨q2, rfl, t2 _ _ g2⟩ ⟨q3, rfl, t3 _ _ g3⟩ ⟨q4, rfl, t4 _ _ g4⟩ ⟨q5, rfl, t5 _ _ g5⟩ ⟨q6, rfl, t6 _ _ g6⟩ ⟨q7, rfl, t7 _ _ g7⟩ ⟨q8, rfl, t8 _ _ g8⟩ ⟨q9, rfl, t9 _ _ g9⟩ ⟨q10, rfl, g10⟩
  clear t1 t2 t3 t4 t5 t6 t7 t8 t9 hk
  rw [AMQ]
  simp only [Cl]
  refine stB rfl rfl (AH rfl) ?_
  refine rdB rfl ?_
  exact Gh.to L (Gh.done hk')
theorem WG {P:Program}{f:FuncId}{args:Array Value}(he:Bj P f=true)(h:Cal P ω f args K I L):CalV P ω (.func (.func f) #[] #[]) args K I L:=by
 unfold CalV;simp only
 rw [if_pos he];simpa using h
theorem Ri {P:Program}{f:FuncId}{args cap:Array Value}(he:Bj P f=true)(h:Cal P ω f (args++cap) K I L):CalV P ω (.func (.func f) #[] cap) args K I L:=by
 unfold CalV;simp only
 rw [if_pos he];simpa using h
def ANz (ω:Om)(f:FuncId)(I:Imm)(m:Mch)(c:TCmd)(r:TRes)(m':Mch):Prop:=
 ∀(K:Value→M) (b s:Nat) (V:MV) (SX F:LH) (cc:List Value),TCmdV I c cc→MF I V m→SpR I s SX m.sp m.nt→PostK K b F I r m'→CT ω f #[pt b,.agg cc.toArray] K I (mL b s V m (SX++F))
theorem Wg {I:Imm}{r:TRes}{cells:List Value}(h:TResV I r cells):cells.length=11:=by
 obtain ⟨v0,v1,rfl,_⟩:=h;rfl
theorem Tf {b:Nat}{X F:LH}{m m':Mch}{r:TRes}{c:TCmd}{cc:List Value}{v:Value}{f:FuncId}(hD:GK I v f)(he:Bj Tryz.prog f=true)(hc:TCmdV I c cc)(hM:MchR I b X m)(hf:ANz ω f I m c r m')
  (hk:∀I' X' cells,Ext I I'→MchR I' b X' m'→TResV I' r cells→K (.tuple #[.agg cells.toArray,.pointer none]) I' (X'++F)) (hL:L.Perm (X++F)):CW ω v #[pt b,.agg cc.toArray] K I L:=by
 obtain ⟨q,rfl,hq⟩:=hD;obtain ⟨s,V,SX,hp,hF,hS⟩:=hM;refine Ri (show Bj Tryz.prog 147=true by kernel_rfl) ?_;have hc':=hc;obtain ⟨w0,w1,w2,w3,rfl,g0,g1,g2,g3⟩:=hc;refine ALh ?_;unfold ABu;refine AQ (λb1=>AQ (λb2=>?_));refine rd1 (Cell.imm hq rfl) ?_;refine rdB rfl ?_;refine WG he ?_;refine Bu (Cal.perm (L':=mL b s V m (SX++((b2,FI)::(b1,DU c w0 w1 w2 w3)::F))) (AO (by simp only [AJ,BQ hL,AM,BQ hp];((try simp only [AJ,AM,AU,AP]);(try ac_rfl)))) ?_);refine hf _ b s V SX _ _ hc' hF hS (λI' X' cells hI hM' hr=>?_);have hr1:=hr.one;have hrl:=Wg hr;refine Gh.done ?_;obtain ⟨x0,x1,rfl,_,_⟩:=id hr;refine stB rfl rfl hr1 ?_;refine rdB rfl ?_;exact Gh.to (X'++F) (Gh.done (hk I' X' _ hI hM' hr))
def plainR (r:TRes):Prop:=r.fGot=BE∧r.fRows=[]
theorem plainR.V {r:TRes}(h:plainR r)(I:Imm):TResV I r [.int .i64 r.fCode,.bool false,.slice none 0 0,.int .i64 0,.int .i64 0,.int .i64 0,.slice none 0 0,.int .i64 r.fAt.fWall,.int .i64 r.fAt.fLogic,.int .i64 r.fBy,.int .i64 r.fState]:=by
 obtain ⟨e,g,l,a,n,s⟩:=r;obtain ⟨h1,h2⟩:=h;simp only at h1 h2
 subst h1 h2;exact Cm I e a n s
theorem SM {m:Mch}{c:TCmd}{r:TRes}(h:Ax m c=some r):plainR r:=by
 unfold Ax at h;split at h
 ·split at h
  ·cases h;exact ⟨rfl,rfl⟩
  ·split at h
   ·cases h;exact ⟨rfl,rfl⟩
   ·cases h
 ·split at h
  ·cases h;exact ⟨rfl,rfl⟩
  ·cases h
theorem Mv {m:Mch}{c:TCmd}:plainR (DA m c).1∧(DA m c).2.sp=m.sp∧(DA m c).2.nt=m.nt:=by
 unfold DA;split
 ·rename_i r h;exact ⟨SM h,rfl,rfl⟩
 ·split
  ·exact ⟨⟨rfl,rfl⟩,rfl,rfl⟩
  ·rename_i m1 h
   have h2:=Er h;split
   ·exact ⟨⟨rfl,rfl⟩,h2.2.2.2.1,h2.2.2.2.2.2.2.1⟩
   ·refine ⟨⟨rfl,rfl⟩,?_,?_⟩
    ·show (Bw m1 c 0 z0).sp=_;rw [(HH ..).1];exact h2.2.2.2.1
    ·show (Bw m1 c 0 z0).nt=_;rw [(HH ..).2];exact h2.2.2.2.2.2.2.1
theorem Mj {m:Mch}{c:TCmd}:plainR (FV m c).1∧(FV m c).2.sp=m.sp∧(FV m c).2.nt=m.nt:=by
 unfold FV;split
 ·exact ⟨⟨rfl,rfl⟩,rfl,rfl⟩
 ·rename_i m1 h
  have h2:=Er h;refine ⟨⟨rfl,rfl⟩,?_,?_⟩ <;> (show _=_;simp only;unfold endOf;split)
  ·exact h2.2.2.2.1
  ·exact h2.2.2.2.1
  ·exact h2.2.2.2.2.2.2.1
  ·exact h2.2.2.2.2.2.2.1
theorem Jp {m:Mch}{c:TCmd}:plainR (Do m c).1∧(Do m c).2.sp=m.sp∧(Do m c).2.nt=m.nt:=by
 unfold Do;split
 ·exact ⟨⟨rfl,rfl⟩,rfl,rfl⟩
 ·rename_i m1 h
  have h2:=Er h;refine ⟨⟨rfl,rfl⟩,?_,?_⟩ <;> (show _=_;simp only;unfold JO;split)
  ·exact h2.2.2.2.1
  ·exact h2.2.2.2.1
  ·exact h2.2.2.2.2.2.2.1
  ·exact h2.2.2.2.2.2.2.1
theorem MZ {m:Mch}{c:TCmd}:plainR (FU m c).1∧(FU m c).2.sp=m.sp∧(FU m c).2.nt=m.nt:=by
 unfold FU;split
 ·exact ⟨⟨rfl,rfl⟩,rfl,rfl⟩
 ·exact ⟨⟨rfl,rfl⟩,rfl,rfl⟩
theorem PostK.plain {b s:Nat}{V':MV}{SX F:LH}{m:Mch}{x:TRes×Mch}(h:PostK K b F I x.1 x.2)(hp:plainR x.1∧x.2.sp=m.sp∧x.2.nt=m.nt)(hS:SpR I s SX m.sp m.nt)(hF:MF I V' x.2):K (rvR x.1) I (mL b s V' x.2 (SX++F)):=
 PostK.go h (Ext.refl _) hF (by rw [hp.2.1,hp.2.2];exact hS) (hp.1.V I)
end
def PostA (K:Value→M)(b:Nat)(F:LH)(I:Imm)(x:TRes×Mch×Option Mch):Prop:=∀I' X' cells,Ext I I'→MchR I' b X' x.2.1→TResV I' x.1 cells→
 (x.2.2=none→K (.tuple #[.agg cells.toArray,.pointer none]) I' (X'++F))∧(∀m2 b2 X2,x.2.2=some m2→MchR I' b2 X2 m2→K (.tuple #[.agg cells.toArray,pt b2]) I' (X'++(X2++F)))
def AFz:Prop:=∀(ω:Om) (I:Imm) (K:Value→M) (b N:Nat) (X F:LH) (m:Mch) (c:TCmd) (cc:List Value),MOk m N→N≤5000→MchR I b X m→TCmdV I c cc→Aj c.fKey=true→PostA K b F I (CB m c)→CT ω 104 #[pt b,.agg cc.toArray] K I (X++F)
section
variable {ω:Om}{I:Imm}{L:LH}{K:Value→M}
theorem PostA.plain {b:Nat}{F:LH}{x:TRes×Mch}(h:PostA K b F I (Al x)){I':Imm}{X':LH}{cells:List Value}(hI:Ext I I')(hM:MchR I' b X' x.2)(hr:TResV I' x.1 cells):K (.tuple #[.agg cells.toArray,.pointer none]) I' (X'++F):=(h I' X' cells hI hM hr).1 rfl
theorem FE {v1 v2 v3 v4 v5 v6 v7 v8 v9 v10 v11:Value}(k:Nat)(v:Value)(h:[Value.nilFunc,v1,v2,v3,v4,v5,v6,v7,v8,v9,v10,v11][k]? =some v):
  Xj false 1 12 (.agg #[.nilFunc,v1,v2,v3,v4,v5,v6,v7,v8,v9,v10,v11]) (.int .i64 (k:Int))=some v:=by
 have hk:k < 12:=by have:=(List.getElem?_eq_some_iff.1 h).1;simpa using this
 unfold Xj;simp only
 rw [if_pos ⟨by omega,by omega⟩];unfold FG;simpa using h
theorem ID {b N:Nat}{X F:LH}{m:Mch}{c:TCmd}{cc:List Value}(hM:MOk m N)(hN:N≤5000)(hX:MchR I b X m)(hc:TCmdV I c cc)(hL:Lens c)(hS:Ed m c.fKey=true→WN)(hsp:c.fKind=11→AFz)
  (hk:PostA K b F I (Ap m c)):CT ω 12 #[pt b,.agg cc.toArray] K I (X++F):=by
 have hc':=hc;have hN2:N≤10000:=by omega
 obtain ⟨w0,w1,w2,w3,rfl,g0,g1,g2,g3⟩:=hc;refine ANn ?_;unfold sh12;refine AQ (λb1=>AQ (λb2=>?_));refine rdB rfl ?_;refine call (Sz hc' hL ?_);try refine O ?_
 refine AF (λe=>?_) (λe=>?_)
 ·have hr:BV c=false:=by simpa using e
  have ea:Ap m c=(Ag 140,m,none):=by unfold Ap;rw [if_pos hr]
  rw [ea] at hk;repeat' (first|refine Γ ?_|refine Θ (λ_=>?_)|(refine Ψ ?_;refine (Au ?_))|refine Δ ?_|(with_reducible first|refine AK (sh12.eq_1 ..) ?_|refine And.intro ?_ ?_)|refine Φ ?_|refine Ξ (λ_=>?_) (λ_=>?_)|refine O ?_|fail)
  exact Gh.to (X++F) (Gh.done ((hk I X _ (Ext.refl _) hX (Cm ..)).1 rfl))
 have hr:BV c=true:=by simpa using e
 have ho:=HJ hr;have hkk:kindOk c=true:=by
  simp only [BV,Bool.and_eq_true] at hr;exact hr.2
 have ea:Ap m c=doM m c:=by unfold Ap;rw [if_neg (by simp [hr])]
 rw [ea] at hk;refine Rb X ?_;refine call (Rc (λI1 v1 v2 v3 v4 v5 v6 v7 v8 v9 v10 hI1 h1 h2 h3 h4 h5 h6 h7 h8 h9 h10=>?_));refine Bt hI1 ?_
 refine Ab ?_;have fin:∀(v:Value) (f:FuncId) (x:TRes×Mch),GK I1 v f→Bj Tryz.prog f=true→ANz ω f I1 m c x.1 x.2→doM m c=Al x→
   (Rv (some (Stay I ((b2,FI)::(b1,DU c w0 w1 w2 w3)::F))) (AD 15 (pt b1)) λv12=>CW ω v #[pt b,v12] (gh λv13=>Pv (exV v13 0) λv14=>Pv (exV v13 1) λv15=>Sto 11 (pt b2) v14 (gh λ_=>Rv none (AD 11 (pt b2)) λv16=>Gh (K (.tuple #[v16,v15]))))) I1
    ((b2,FI)::(b1,DU c w0 w1 w2 w3)::(X++F)):=by
  intro v f x hD he hf hx;rw [hx] at hk;refine Ck rfl ?_;refine Tf (X:=X) (F:=(b2,FI)::(b1,DU c w0 w1 w2 w3)::F) hD he (hc'.mono hI1) (hX.mono hI1) hf (λI' X' cells hI hM' hrr=>?_) (AO (by ((try simp only [AJ,AM,AU,AP]);(try ac_rfl))));have hr1:=hrr.one;refine Gh.done ?_;try refine O ?_
  obtain ⟨x0,x1,rfl,_,_⟩:=id hrr;refine stB rfl rfl hr1 ?_;refine rdB rfl ?_;exact Gh.to (X'++F) (Gh.done (hk.plain (hI1.trans hI) hM' hrr))
 have hkd:=ho.kind;have hT:Dj c.fTxn=true:=maxB_iff.2 ho.txn;have h12:c.fKind=(1:Nat)∨c.fKind=(2:Nat)∨c.fKind=(3:Nat)∨c.fKind=(4:Nat)∨c.fKind=(5:Nat)∨c.fKind=(6:Nat)∨c.fKind=(7:Nat)∨c.fKind=(8:Nat)∨c.fKind=(9:Nat)∨c.fKind=(10:Nat)∨c.fKind=(11:Nat):=by omega
 rcases h12 with hK|hK|hK|hK|hK|hK|hK|hK|hK|hK|hK
 ·have hix:=FE (v1:=v1) (v2:=v2) (v3:=v3) (v4:=v4) (v5:=v5) (v6:=v6) (v7:=v7) (v8:=v8) (v9:=v9) (v10:=v10) (v11:=.func (.func 104) #[] #[]) 1 v1 rfl;rw [←hK] at hix;rw [hix,Cl];exact fin v1 _ (FF m c) h1 (by kernel_rfl) (λK b s V SX F cc hc hF hSp hk=>Xo hM hN2 hS hF hSp hc hk) (by unfold doM;simp [hK])
 ·have hix:=FE (v1:=v1) (v2:=v2) (v3:=v3) (v4:=v4) (v5:=v5) (v6:=v6) (v7:=v7) (v8:=v8) (v9:=v9) (v10:=v10) (v11:=.func (.func 104) #[] #[]) 2 v2 rfl;rw [←hK] at hix;rw [hix,Cl];exact fin v2 _ (Dt m c) h2 (by kernel_rfl) (λK b s V SX F cc hc hF hSp hk=>Sm hM hN2 hF hSp hc hk) (by unfold doM;simp [hK])
 ·have hix:=FE (v1:=v1) (v2:=v2) (v3:=v3) (v4:=v4) (v5:=v5) (v6:=v6) (v7:=v7) (v8:=v8) (v9:=v9) (v10:=v10) (v11:=.func (.func 104) #[] #[]) 3 v3 rfl;rw [←hK] at hix;rw [hix,Cl];exact fin v3 _ (Bm m c) h3 (by kernel_rfl) (λK b s V SX F cc hc hF hSp hk=>XU hM hN2 hF hSp hc hk) (by unfold doM;simp [hK])
 ·have hix:=FE (v1:=v1) (v2:=v2) (v3:=v3) (v4:=v4) (v5:=v5) (v6:=v6) (v7:=v7) (v8:=v8) (v9:=v9) (v10:=v10) (v11:=.func (.func 104) #[] #[]) 4 v4 rfl;rw [←hK] at hix;rw [hix,Cl];exact fin v4 _ (CV m c) h4 (by kernel_rfl) (λK b s V SX F cc hc hF hSp hk=>PW hM hN2 hF hSp hc hk) (by unfold doM;simp [hK])
 ·have hix:=FE (v1:=v1) (v2:=v2) (v3:=v3) (v4:=v4) (v5:=v5) (v6:=v6) (v7:=v7) (v8:=v8) (v9:=v9) (v10:=v10) (v11:=.func (.func 104) #[] #[]) 5 v5 rfl;rw [←hK] at hix;rw [hix,Cl];exact fin v5 _ (DA m c) h5 (by kernel_rfl) (λK b s V SX F cc hc hF hSp hk=>Tq hF hM.recs hM.seen hM.seenL hc (λr m' hx V' hF'=>by have:=PostK.plain (x:=(r,m')) (by rw [hx] at hk;exact hk) (by rw [←hx];exact Mv) hSp hF';exact this)) (by unfold doM;simp [hK])
 ·have hix:=FE (v1:=v1) (v2:=v2) (v3:=v3) (v4:=v4) (v5:=v5) (v6:=v6) (v7:=v7) (v8:=v8) (v9:=v9) (v10:=v10) (v11:=.func (.func 104) #[] #[]) 6 v6 rfl;rw [←hK] at hix;rw [hix,Cl];exact fin v6 _ (FV m c) h6 (by kernel_rfl) (λK b s V SX F cc hc hF hSp hk=>AEU hF hM.recs hc (λr m' hx V' hF'=>by have:=PostK.plain (x:=(r,m')) (by rw [hx] at hk;exact hk) (by rw [←hx];exact Mj) hSp hF';exact this)) (by unfold doM;simp [hK])
 ·have hix:=FE (v1:=v1) (v2:=v2) (v3:=v3) (v4:=v4) (v5:=v5) (v6:=v6) (v7:=v7) (v8:=v8) (v9:=v9) (v10:=v10) (v11:=.func (.func 104) #[] #[]) 7 v7 rfl;rw [←hK] at hix;rw [hix,Cl];exact fin v7 _ (Do m c) h7 (by kernel_rfl) (λK b s V SX F cc hc hF hSp hk=>TJ hF hM.recs hc (λr m' hx V' hF'=>by have:=PostK.plain (x:=(r,m')) (by rw [hx] at hk;exact hk) (by rw [←hx];exact Jp) hSp hF';exact this)) (by unfold doM;simp [hK])
 ·have hix:=FE (v1:=v1) (v2:=v2) (v3:=v3) (v4:=v4) (v5:=v5) (v6:=v6) (v7:=v7) (v8:=v8) (v9:=v9) (v10:=v10) (v11:=.func (.func 104) #[] #[]) 8 v8 rfl;rw [←hK] at hix;rw [hix,Cl];exact fin v8 _ (FU m c) h8 (by kernel_rfl) (λK b s V SX F cc hc hF hSp hk=>RR hF hc (λr m' hx V' hF'=>by have:=PostK.plain (x:=(r,m')) (by rw [hx] at hk;exact hk) (by rw [←hx];exact MZ) hSp hF';exact this)) (by unfold doM;simp [hK])
 ·have hix:=FE (v1:=v1) (v2:=v2) (v3:=v3) (v4:=v4) (v5:=v5) (v6:=v6) (v7:=v7) (v8:=v8) (v9:=v9) (v10:=v10) (v11:=.func (.func 104) #[] #[]) 9 v9 rfl;rw [←hK] at hix;rw [hix,Cl];exact fin v9 _ (Ej m c) h9 (by kernel_rfl) (λK b s V SX F cc hc hF hSp hk=>NL hM hN hF hSp hc hk) (by unfold doM;simp [hK])
 ·have hix:=FE (v1:=v1) (v2:=v2) (v3:=v3) (v4:=v4) (v5:=v5) (v6:=v6) (v7:=v7) (v8:=v8) (v9:=v9) (v10:=v10) (v11:=.func (.func 104) #[] #[]) 10 v10 rfl;rw [←hK] at hix;rw [hix,Cl];exact fin v10 _ (Rf m c) h10 (by kernel_rfl) (λK b s V SX F cc hc hF hSp hk=>NS hM hN2 hF hSp hc hk) (by unfold doM;simp [hK])
 ·have hix:=FE (v1:=v1) (v2:=v2) (v3:=v3) (v4:=v4) (v5:=v5) (v6:=v6) (v7:=v7) (v8:=v8) (v9:=v9) (v10:=v10) (v11:=.func (.func 104) #[] #[]) 11 _ rfl;rw [←hK] at hix;rw [hix,Cl];have hx:doM m c=CB m c:=by unfold doM;simp [hK]
  rw [hx] at hk;refine Ck rfl ?_;refine WG (by kernel_rfl) ?_;refine Bu (Cal.split X ?_);refine hsp hK ω _ _ b N X _ m c _ hM hN (hX.mono hI1) (hc'.mono hI1) (JZ hkk (.inl hK)) (λI' X' cells hI hM' hrr=>?_);have hr1:=hrr.one;obtain ⟨k1,k2⟩:=hk I' X' cells (hI1.trans hI) hM' hrr;obtain ⟨x0,x1,rfl,_,_⟩:=id hrr;refine ⟨λhn=>?_,λm2 b3 X2 hm hX2=>?_⟩
  ·refine Gh.done ?_;try refine O ?_
   refine stB rfl rfl hr1 ?_;refine rdB rfl ?_;exact Gh.to (X'++F) (Gh.done (k1 hn))
  ·refine Gh.done ?_;try refine O ?_
   refine stB rfl rfl hr1 ?_;refine rdB rfl ?_;exact Gh.to (X'++(X2++F)) (Gh.done (k2 m2 b3 X2 hm hX2))
end
theorem FO {α:Type}{vs:List α}{o k:Nat}(hv:vs.length=k){l:List α}(hl:o+k≤l.length)(j:Nat):(l.take o++vs++l.drop (o+k))[j]? =if j < o then l[j]? else if j < o+k then vs[j - o]? else l[j]? :=by
 have ht:(l.take o).length=o:=by rw [List.length_take];omega
 rw [List.append_assoc,List.getElem?_append,ht];split
 ·rename_i h;rw [List.getElem?_take,if_pos h]
 ·rename_i h
  rw [List.getElem?_append,hv];by_cases h2:j < o+k
  ·rw [if_pos (by omega),if_pos h2]
  ·rw [if_neg (by omega),if_neg h2,List.getElem?_drop];congr 1;omega
theorem SlO.sto {T n len i d k off b:Nat}{X L F:LH}[hsp:SplitL X L F]{I:Imm}{v x:Value}{cells vs:List Value}{K:Value→M}{kk:IntKind}(h:SlO T n X v cells len)(hi:i < len)(hd:d+k≤n)
  (hp:ixV n v (.int kk i)=some (.pointer (some ⟨b,off,none⟩))) (hx:x.cells=vs.toArray) (hl:vs.length=k) (h1:∀u∈vs,u.oneCell'=true)
  (hk:∀X',SlO T n X' v (cells.take (i * n+d)++vs++cells.drop (i * n+d+k)) len→Gh (K undef) I (X'++F)):Sto k (.pointer (some ⟨b,off+d,none⟩)) x (gh K) I L:=by
 obtain ⟨hl0,h⟩:=h;rcases h with ⟨rfl,rfl,a,rfl⟩|⟨b0,cap,cs,rfl,rfl,hcs,hle,hc⟩
 ·omega
 rw [TV b0 0 n kk len cap i hi] at hp;simp only [Option.some.injEq,Value.pointer.injEq,Addr.mk.injEq,Nat.zero_add,and_true] at hp;obtain ⟨rfl,rfl⟩:=hp;obtain ⟨L1,L2,hL⟩:=List.append_of_mem (hsp.perm.mem_iff.2 (List.mem_append_left F (List.mem_singleton.2 rfl)));subst hL;have hin:(i+1) * n≤len * n:=Nat.mul_le_mul_right n hi;have hlc:len * n≤cap * n:=Nat.mul_le_mul_right n hle;rw [Nat.add_mul] at hin;have hwr:=QH vs cs (i * n+d) (by omega);refine ⟨b0,i * n+d,cs,T,L1,L2,rfl,by simp [hx,hl],by rw [hx];simpa using h1,by rw [hcs];omega,rfl,?_⟩;have e:x.cells.toList=vs:=by rw [hx]
 rw [e,hwr,hl];have p:(L1++(b0,Obj.cells cs T (0,0))::L2).Perm ((b0,Obj.cells cs T (0,0))::F):=hsp.perm;have p2:(L1++L2).Perm F:=(List.perm_middle.symm.trans p).cons_inv;refine Gh.perm (List.perm_middle.trans (List.Perm.cons _ p2)) (hk [(b0,_)] ⟨?_,.inr ⟨b0,cap,_,rfl,rfl,?_,hle,λj u hu=>?_⟩⟩)
 ·simp only [List.length_append,List.length_take,List.length_drop];omega
 ·simp only [List.size_toArray,List.length_append,List.length_take,List.length_drop,Array.length_toList];omega
 ·rw [FO hl (by omega)] at hu;rw [List.getElem?_toArray,FO hl (by rw [Array.length_toList];omega)];split
  ·rename_i h;rw [if_pos h] at hu;rw [Array.getElem?_toList];exact hc j u hu
  ·rename_i h;rw [if_neg h] at hu
   split
   ·rename_i h2;rw [if_pos h2] at hu;exact hu
   ·rename_i h2;rw [if_neg h2] at hu;rw [Array.getElem?_toList];exact hc j u hu
theorem Recs.upd {α:Type}{R:α→List Value→Prop}{n d k:Nat}{vs:List Value}(hv:vs.length=k)(hd:d+k≤n){y:α}:∀{xs:List α} {cells:List Value} {i:Nat} {x:α},Recs R n xs cells→xs[i]? =some x→(∀c,c.length=n→R x c→R y (c.take d++vs++c.drop (d+k)))→Recs R n (xs.set i y) (cells.take (i * n+d)++vs++cells.drop (i * n+d+k))
 |[],_,i,x,_,h,_=>by simp at h
 |x0::xs,cells,0,x,⟨h1,h2,h3⟩,h,hy=>by
  simp only [List.getElem?_cons_zero,Option.some.injEq] at h;subst h;have hlen:n≤cells.length:=by rw [List.length_take] at h1;omega
  have e1:(cells.take (0 * n+d)++vs++cells.drop (0 * n+d+k)).take n=(cells.take n).take d++vs++(cells.take n).drop (d+k):=by
   rw [Nat.zero_mul,Nat.zero_add];apply List.ext_getElem?
   intro j;rw [FO hv (by omega),List.getElem?_take,FO hv (by omega),List.getElem?_take];by_cases g1:j < n
   ·simp only [if_pos g1]
   ·rw [if_neg g1,if_neg g1,if_neg (by omega),if_neg (by omega)]
  have e2:(cells.take (0 * n+d)++vs++cells.drop (0 * n+d+k)).drop n=cells.drop n:=by
   rw [Nat.zero_mul,Nat.zero_add];apply List.ext_getElem?
   intro j;rw [List.getElem?_drop,FO hv (by omega),if_neg (by omega),if_neg (by omega),List.getElem?_drop]
  rw [List.set_cons_zero];refine ⟨?_,?_,?_⟩
  ·rw [e1];simp only [List.length_append,List.length_take,List.length_drop];omega
  ·rw [e1];exact hy _ h1 h2
  ·rw [e2];exact h3
 |x0::xs,cells,i+1,x,⟨h1,h2,h3⟩,h,hy=>by
  simp only [List.getElem?_cons_succ] at h;have hlen:n≤cells.length:=by rw [List.length_take] at h1;omega
  have ih:=Recs.upd hv hd h3 h hy;have hi:i < xs.length:=(List.getElem?_eq_some_iff.1 h).1;have hl3:=Recs.length h3;have hin:(i+1) * n≤xs.length * n:=Nat.mul_le_mul_right n hi;rw [List.length_drop] at hl3;rw [Nat.add_mul] at hin;have e0:(i+1) * n+d=n+(i * n+d):=by rw [Nat.add_mul];omega
  have e1:(cells.take ((i+1) * n+d)++vs++cells.drop ((i+1) * n+d+k)).take n=cells.take n:=by
   rw [e0];apply List.ext_getElem?
   intro j;rw [List.getElem?_take,List.getElem?_take];by_cases g1:j < n
   ·rw [if_pos g1,if_pos g1,FO hv (by omega),if_pos (by omega)]
   ·rw [if_neg g1,if_neg g1]
  have e2:(cells.take ((i+1) * n+d)++vs++cells.drop ((i+1) * n+d+k)).drop n=(cells.drop n).take (i * n+d)++vs++(cells.drop n).drop (i * n+d+k):=by
   rw [e0];apply List.ext_getElem?
   intro j;rw [List.getElem?_drop,FO hv (by omega),FO hv (by rw [List.length_drop];omega),List.getElem?_drop];by_cases g1:j < i * n+d
   ·rw [if_pos (by omega),if_pos g1]
   ·rw [if_neg (by omega),if_neg g1];by_cases g2:j < i * n+d+k
    ·rw [if_pos (by omega),if_pos g2];congr 1;omega
    ·rw [if_neg (by omega),if_neg g2]
  rw [List.set_cons_succ];refine ⟨?_,?_,?_⟩
  ·rw [e1];exact h1
  ·rw [e1];exact h2
  ·rw [e2];exact ih
theorem SlO.rl {α:Type}{R:Imm→α→List Value→Prop}{T n:Nat}{X L:LH}{I:Imm}{v:Value}{cells:List Value}{xs:List α}(h:SlO T n X v cells xs.length)(hR:Recs (R I) n xs cells)(hX:∀x∈X,x∈L):RL R n I L v xs:=by
 have h0:=h;obtain ⟨hl,h⟩:=h;rcases h with ⟨_,h2,a,rfl⟩|⟨b,cap,cs,_,rfl,_,hle,_⟩
 ·exact ⟨a,0,cells,by rw [h2],by omega,h0.news hX,hR⟩
 ·exact ⟨_,cap,cells,rfl,hle,h0.news hX,hR⟩
section
variable {κ β:Type}[DecidableEq κ]{lt:κ→κ→Bool}
def EW (lt:κ→κ→Bool)(k:κ)(v:β):Bool→AL κ β→AL κ β
 |d,[]=>if d=true then [] else [(k,v)]
 |d,q::l=>(if d=false∧lt q.1 k=false then [(k,v)] else [])++((if q.1=k then [] else [q])++EW lt k v (d|| !lt q.1 k) l)
theorem Jb {k:κ}{v:β}:∀{l:AL κ β},(∀q∈l,q.1≠k)→EW lt k v true l=l
 |[],_=>rfl
 |q::l,h=>by
  have h1:=h q (List.mem_cons_self ..);have h2:=Jb (k:=k) (v:=v) (l:=l) (λx hx=>h x (List.mem_cons_of_mem _ hx));simp only [EW,h1,if_false,Bool.true_or,h2,Bool.true_eq_false,false_and,List.nil_append,List.singleton_append]
theorem Ij (ho:Ord κ lt){k:κ}{v:β}:∀{l:AL κ β},SrtA lt l→EW lt k v false l=Am lt k v l
 |[],_=>rfl
 |q::l,h=>by
  obtain ⟨h1,h2⟩:=List.pairwise_cons.1 h;by_cases e:q.1=k
  ·have hlt:lt q.1 k=false:=by rw [e,ho.irr]
   have hn:∀x∈l,x.1≠k:=λx hx=>by have:=SrtA.ne ho (h1 x hx);rw [←e];exact Ne.symm this
   simp only [EW,Am,hlt,Bool.not_false,Bool.or_true,Jb hn];rw [if_pos e,if_pos e];rfl
  ·cases hlt:lt q.1 k with
   |true=>
    have h3:lt k q.1=false:=by
     cases hh:lt k q.1 with
     |false=>rfl
     |true=>have:=ho.tr _ _ _ hlt hh;rw [ho.irr] at this;cases this
    have ih:=Ij ho (k:=k) (v:=v) h2;simp only [EW,Am,hlt,h3,Bool.not_true,Bool.or_false,ih];rw [if_neg e,if_neg e];rfl
   |false=>
    have h3:lt k q.1=true:=by
     cases hh:lt k q.1 with
     |true=>rfl
     |false=>exact absurd (ho.tot _ _ hlt hh) e
    have hn:∀x∈l,x.1≠k:=λx hx hxk=>by have:=h1 x hx;rw [hxk,hlt] at this;cases this
    simp only [EW,Am,hlt,h3,Bool.not_false,Bool.or_true,Jb hn];rw [if_neg e,if_neg e];rfl
theorem MJ {l:AL κ β}{i:Nat}{k:κ}(hi:i < l.length)(hn:∀q∈l.take i,q.1≠k)(he:l[i].1=k):lkA l k=some l[i].2:=by
 have hs:l=l.take i++l[i]::l.drop (i+1):=by rw [←List.drop_eq_getElem_cons hi,List.take_append_drop]
 have:∀(a:AL κ β) (q:κ×β) (c:AL κ β),(∀x∈a,x.1≠k)→q.1=k→lkA (a++q::c) k=some q.2:=by
  intro a q c ha hq;induction a with
  |nil=>rw [List.nil_append,BZ,if_pos hq]
  |cons y a ih=>rw [List.cons_append,BZ,if_neg (ha y (List.mem_cons_self ..)),ih (λx hx=>ha x (List.mem_cons_of_mem _ hx))]
 generalize l[i]=q at *;rw [hs,this _ _ _ hn he]
theorem MQ (ho:Ord κ lt){k:κ}{v:β}:∀{l:AL κ β} {i:Nat},SrtA lt l→(∀q,l[i]? =some q→q.1=k)→i < l.length→Am lt k v l=l.set i (k,v)
 |[],_,_,_,hi=>by simp at hi
 |q::l,0,_,he,_=>by
  have:=he q rfl;simp only [Am,this,if_true,List.set_cons_zero]
 |q::l,i+1,h,he,hi=>by
  obtain ⟨h1,h2⟩:=List.pairwise_cons.1 h;have hi':i < l.length:=by simpa using hi
  have hk:l[i].1=k:=he l[i] (by simp [hi']);have hlt:lt q.1 k=true:=by rw [←hk];exact h1 _ (List.getElem_mem hi')
  have hne:q.1≠k:=SrtA.ne ho hlt;have h3:lt k q.1=false:=by
   cases hh:lt k q.1 with
   |false=>rfl
   |true=>have:=ho.tr _ _ _ hlt hh;rw [ho.irr] at this;cases this
  have ih:=MQ ho (k:=k) (v:=v) (l:=l) (i:=i) h2 (λq hq=>he q (by simpa using hq)) hi';simp only [Am,hne,h3,if_false,Bool.false_eq_true,ih,List.set_cons_succ]
end
def MkR (I:Imm)(q:List UInt8×TMk)(c:List Value):Prop:=∃v,c=[v,.int .i64 q.2.fAt.fWall,.int .i64 q.2.fAt.fLogic,.int .i64 q.2.fBy]∧Bytes I v q.1
def RcR (_I:Imm)(q:Int×TRc)(c:List Value):Prop:=c=[.int .i64 q.1,.int .i64 q.2.fState,.int .i64 q.2.fAt.fWall,.int .i64 q.2.fAt.fLogic]
def SnR (_I:Imm)(q:Int×TSn)(c:List Value):Prop:=c=[.int .i64 q.1,.int .i64 q.2.fSeq,.int .i64 q.2.fCode,.int .i64 q.2.fAt.fWall,.int .i64 q.2.fAt.fLogic]
theorem MkR.mono {I I':Imm}{q:List UInt8×TMk}{c:List Value}(h:MkR I q c)(hI:Ext I I'):MkR I' q c:=by
 obtain ⟨v,rfl,h⟩:=h;exact ⟨v,rfl,h.mono hI⟩
theorem MkR.one {I:Imm}{q:List UInt8×TMk}{c:List Value}(h:MkR I q c):∀u∈c,u.oneCell'=true:=by
 obtain ⟨v,rfl,h⟩:=h;obtain ⟨_,_,rfl⟩:=Bytes.form h;exact AH rfl
theorem RcR.mono {I I':Imm}{q:Int×TRc}{c:List Value}(h:RcR I q c)(_:Ext I I'):RcR I' q c:=h
theorem SnR.mono {I I':Imm}{q:Int×TSn}{c:List Value}(h:SnR I q c)(_:Ext I I'):SnR I' q c:=h
abbrev Lr (vF vT:Value)(bs:Nat)(vM:Value)(low:TMk)(vR vS:Value)(old:Int):Obj:=
 .cells #[vF,vT,pt bs,vM,.slice none 0 0,.int .i64 low.fAt.fWall,.int .i64 low.fAt.fLogic,.int .i64 low.fBy,vR,vS,.int .i64 old] 88 (0,0)
structure RV where
 bs:Nat
 vF:Value
 vT:Value
 vV:Value
 vI:Value
 vM:Value
 cM:List Value
 XM:LH
 vR:Value
 cR:List Value
 XR:LH
 vS:Value
abbrev rL (br:Nat)(V:RV)(m:Mch)(R:LH):LH:=
 (br,Lr V.vF V.vT V.bs V.vM m.low V.vR V.vS m.oldest)::(V.bs,BC V.vV V.vI m.sp.floor)::(V.XM++(V.XR++R))
structure RF14 (I:Imm)(V:RV)(m:Mch):Prop where
 f0:Bytes I V.vF m.span.fFrom
 f1:Bytes I V.vT m.span.fTo
 mkO:SlO 84 4 V.XM V.vM V.cM m.marks.length
 mkR:Recs (MkR I) 4 m.marks V.cM
 rc:SlO 138 4 V.XR V.vR V.cR m.recs.length
 rcR:Recs (RcR I) 4 m.recs V.cR
 sn:RL SnR 5 I [] V.vS m.seen
 vs:RL TVersionV 5 I [] V.vV (Aa m.sp.rows)
 is:RL TIntentV 6 I [] V.vI (intsOf m.sp.rows)
theorem rlI {α:Type}{R:Imm→α→List Value→Prop}{n:Nat}{I I':Imm}{v:Value}{xs:List α}(hR:∀x c,R I x c→R I' x c)(h:RL R n I [] v xs)(hI:Ext I I'):RL R n I' [] v xs:=RL.mono hR h hI (λx hx=>hx)
theorem RF14.mono {I I':Imm}{V:RV}{m:Mch}(h:RF14 I V m)(hI:Ext I I'):RF14 I' V m:=
 ⟨h.f0.mono hI,h.f1.mono hI,h.mkO,h.mkR.imp λ_ _ h=>h.mono hI,h.rc,h.rcR.imp λ_ _ h=>h.mono hI,rlI (λ_ _ h=>h.mono hI) h.sn hI,rlI (λ_ _ h=>h.mono hI) h.vs hI,rlI (λ_ _ h=>h.mono hI) h.is hI⟩
def R14 (I:Imm)(br:Nat)(X:LH)(m:Mch):Prop:=∃V,X.Perm (rL br V m [])∧RF14 I V m
theorem R14.mono {I I':Imm}{br:Nat}{X:LH}{m:Mch}(h:R14 I br X m)(hI:Ext I I'):R14 I' br X m:=by
 obtain ⟨V,h1,h2⟩:=h;exact ⟨V,h1,h2.mono hI⟩
theorem AMP (a b:List UInt8):(blt a b||a==b)= !blt b a:=by
 rw [Bool.eq_iff_iff];simp only [Bool.or_eq_true,beq_iff_eq,Bool.not_eq_true'];constructor
 ·rintro (h|rfl)
  ·exact CZ h
  ·exact BM _
 ·intro h;cases h4:blt a b with
  |true=>exact .inl rfl
  |false=>exact .inr (DG _ _ h4 h)
section
variable {ω:Om}{I:Imm}{L:LH}{K:Value→M}{br:Nat}{V:RV}{m:Mch}{R:LH}
theorem Hm {p:TSpan}{pc:List Value}(hF:RF14 I V m)(hp:DO I p pc)(hk:K (.bool (Gb m.span p)) I (rL br V m R)):
  CT ω 49 #[pt br,.agg pc.toArray] K I (rL br V m R):=by
 obtain ⟨v0,v1,rfl,g0,g1⟩:=hp;obtain ⟨a0,c0,h0⟩:=Bytes.form hF.f0;obtain ⟨a1,c1,h1⟩:=Bytes.form hF.f1;have f0:=hF.f0;have f1:=hF.f1;obtain ⟨b0,d0,rfl⟩:=Bytes.form g0;obtain ⟨b1,d1,rfl⟩:=Bytes.form g1;refine ANX ?_;unfold sh49;repeat' (first|refine Γ ?_|(with_reducible first|refine AQ (λ_=>?_)|refine DF f0 (Ext.refl _) ?_|refine DF f1 (Ext.refl _) ?_|refine DF g0 (Ext.refl _) ?_|refine DF g1 (Ext.refl _) ?_|refine Bd f0 (Ext.refl _) ?_|refine Bd f1 (Ext.refl _) ?_|refine Bd g0 (Ext.refl _) ?_|refine Bd g1 (Ext.refl _) ?_)|refine Δ ?_|(with_reducible first|refine AK (sh49.eq_1 ..) ?_|refine And.intro ?_ ?_)|refine Φ ?_|refine Ξ (λ_=>?_) (λ_=>?_)|(simp only [SSd,Nat.reduceAdd,Bytes.len f1,Bytes.len g1,AMP]))
 all_goals (refine Gh.to (rL br V m R) (Gh.done (CA hk ?_));simp_all [Gb])
 all_goals first|done|(intros;omega)|(rw [show (m.span.fTo.length==0)=false from by simpa using ‹¬m.span.fTo=[]›,show (p.fTo.length==0)=false from by (rw [beq_eq_false_iff_ne];omega)];simp)
theorem Vx {v:Value}{k k':TMk}(h:K (.agg #[v,.int .i64 k.fAt.fWall,.int .i64 k.fAt.fLogic,.int .i64 k.fBy]) I L)(e:k=k'):K (.agg #[v,.int .i64 k'.fAt.fWall,.int .i64 k'.fAt.fLogic,.int .i64 k'.fBy]) I L:=e ▸ h
theorem DC {a0:_}{n0 c0:Nat}{k:TMk}{a:TStamp}{n:Int}(hk:K (.agg #[.slice a0 n0 c0,.int .i64 (An k a n).fAt.fWall,.int .i64 (An k a n).fAt.fLogic,.int .i64 (An k a n).fBy]) I L):
  CT ω 51 #[.agg #[.slice a0 n0 c0,.int .i64 k.fAt.fWall,.int .i64 k.fAt.fLogic,.int .i64 k.fBy],sv a,.int .i64 n] K I L:=by
 refine ANV ?_;unfold sh51;have h1:=GV a k.fAt;have h2:=Ey a k.fAt;repeat' (first|refine Γ ?_|refine Θ (λ_=>?_)|(refine Ψ ?_;refine (DR (x:=a) (y:=k.fAt) ?_))|(with_reducible first|refine st1 rfl ?_|refine stP _ rfl rfl rfl rfl ?_)|refine Δ ?_|(with_reducible first|refine AK (sh51_1.eq_1 ..) ?_|refine AK (sh51_2.eq_1 ..) ?_|refine AK (sh51.eq_1 ..) ?_|refine And.intro ?_ ?_)|refine Φ ?_|refine Ξ (λ_=>?_) (λ_=>?_)|refine O ?_|fail)
 ·exact Gh.to L (Gh.done (Vx (k':=⟨a,n⟩) hk (by unfold An;rw [if_pos (by rw [←h1];assumption)])))
 ·rename_i e1 e2 e3
  refine Gh.to L (Gh.done (Vx (k':=⟨k.fAt,0⟩) hk ?_));unfold An;rw [if_neg (by rw [←h1];simpa using e1),if_pos ⟨by rw [←h2];simp at e2 ⊢;omega,λh=>(by simpa using e3:¬k.fBy=n) h.symm⟩]
 ·rename_i e1 e2 e3
  refine Gh.to L (Gh.done (Vx (k':=k) hk ?_));unfold An;rw [if_neg (by rw [←h1];simpa using e1),if_neg (by rintro ⟨_,h⟩;simp at e3;exact h e3.symm)]
 ·rename_i e1 e2
  refine Gh.to L (Gh.done (Vx (k':=k) hk ?_));unfold An;rw [if_neg (by rw [←h1];simpa using e1),if_neg (by rintro ⟨h,_⟩;rw [←h2] at h;simp at e1 e2 h;omega)]
theorem Ei {a0:_}{n0 c0:Nat}{k:TMk}{w:TStamp}{n:Int}(hk:K (.tuple #[sv (Ad k w n).1,.int .i64 (Ad k w n).2]) I L):
  CT ω 169 #[sv w,.agg #[.slice a0 n0 c0,.int .i64 k.fAt.fWall,.int .i64 k.fAt.fLogic,.int .i64 k.fBy],.int .i64 n] K I L:=by
 refine ALO ?_;unfold sh169;have h1:=GV k.fAt w;have h2:=Ey k.fAt w;repeat' (first|refine Γ ?_|refine Θ (λ_=>?_)|(refine Ψ ?_;refine (DR (x:=k.fAt) (y:=w) ?_))|(refine Ψ ?_;refine (Li ?_))|refine Δ ?_|(with_reducible first|refine AK (sh169.eq_1 ..) ?_|refine And.intro ?_ ?_)|refine Φ ?_|refine Ξ (λ_=>?_) (λ_=>?_)|refine O ?_|fail)
 all_goals refine Gh.to L (Gh.done ?_)
 all_goals first|refine JX (q:=k.fAt) hk ?_|refine JX (q:=w) hk ?_|refine JX hk (q:=(Bs k.fAt).1) (e:=(Bs k.fAt).2) ?_
 all_goals (unfold Ad;rw [←h1,←h2];clear h1 h2 hk;simp only [decide_eq_true_eq,beq_iff_eq,beq_eq_false_iff_ne,Bool.not_eq_false,gt_iff_lt,ne_eq,decide_eq_false_iff_not,Bool.not_eq_true] at *)
 all_goals first|(rw [if_pos (by omega)];done)|(rw [if_neg (by omega),if_pos (by omega)];done)|(rw [if_neg (by omega),if_neg (by omega)];done)|trace_state
end
section
variable {ω:Om}{I:Imm}{L:LH}{K:Value→M}{br:Nat}{V:RV}{m:Mch}{R:LH}
theorem Vu {e:Int}{a:TStamp}{b b':Bool}(h:K (.tuple #[rv e a 0 0,.bool b]) I L)(hb:b=b'):K (.tuple #[rv e a 0 0,.bool b']) I L:=hb ▸ h
theorem Hl {c:TCmd}{cc:List Value}(hF:RF14 I V m)(hs:SrtA ilt m.seen)(hl:m.seen.length≤1000000)(hc:TCmdV I c cc)
  (hk1:∀e a,Ax m c=some ⟨e,BE,[],a,0,0⟩→K (.tuple #[rv e a 0 0,.bool true]) I (rL br V m R)) (hk2:Ax m c=none→K (.tuple #[rv 144 z0 0 0,.bool false]) I (rL br V m R)):
  CT ω 168 #[pt br,.agg cc.toArray] K I (rL br V m R):=by
 obtain ⟨w0,w1,w2,w3,rfl,g0,g1,g2,g3⟩:=hc;have hS:=hF.sn;refine ALP ?_;unfold sh168;refine AQ (λq1=>AQ (λq2=>?_));refine loop (λn s I' L'=>I'=I∧L'=(q2,FI)::(q1,DU c w0 w1 w2 w3)::rL br V m R∧∃i:Nat,n+i=m.seen.length∧s=(.bool false,.int .i64 i,())∧∀x∈m.seen.take i,x.1≠c.fTxn) m.seen.length ⟨rfl,rfl,0,rfl,rfl,by simp⟩ ?_;rintro n s I' L' ⟨rfl,rfl,i,hni,rfl,hno⟩;unfold sh168_1;try refine O ?_
 refine rdb ?_;simp only [RL.len hS,SSd,Nat.reduceAdd];refine AF (λe=>?_) (λe=>?_)
 ·have hi:i < m.seen.length:=by simpa using e
  obtain ⟨q,off,d,hix,hcl,hd,hcc⟩:=RL.ix hS (i:=(i:Int)) (by omega) (by omega);rw [AX hi] at hd;have hlk:=MJ (k:=c.fTxn) hi hno;have hsn:=take_snoc hi;generalize m.seen[i]=x at *;obtain rfl:=hd;have hcv:=hcc I' [] (Ext.refl _) (λ_ h=>h);have hat:Cells I' [] q (off+3) [.int .i64 x.2.fAt.fWall,.int .i64 x.2.fAt.fLogic]:=by simpa using hcv.sub (k:=3) (m:=2)
  refine AZ ?_
  refine Ab ?_;simp only [hix,SSd,Nat.reduceAdd];refine Av (hcv 0 _ rfl) (Ext.refl _) ?_
  refine Ab ?_;try refine O ?_
  refine AF (λe2=>?_) (λe2=>?_)
  ·have e2':x.1=c.fTxn:=by simpa using e2
   have hx:=hlk e2';have ha:Ax m c=if x.2.fSeq=c.fSeq then some ⟨x.2.fCode,BE,[],x.2.fAt,0,0⟩ else if c.fSeq < x.2.fSeq then some (Ag 144) else none:=by unfold Ax;rw [hx]
   refine AZ ?_
   refine Ab ?_;simp only [hix,SSd,Nat.reduceAdd];refine Av (hcv 1 _ rfl) (Ext.refl _) ?_
   refine Ab ?_;try refine O ?_
   refine AF (λe3=>?_) (λe3=>?_)
   ·have e3':x.2.fSeq=c.fSeq:=by simpa using e3
    rw [if_pos e3'] at ha;refine AZ ?_
    refine Ab ?_;simp only [hix,SSd,Nat.reduceAdd];refine Av (hcv 2 _ rfl) (Ext.refl _) ?_
    refine Ab ?_;simp only [hix,SSd,Nat.reduceAdd];refine Bo hat (Ext.refl _) rfl ?_;try refine O ?_
    refine stB rfl rfl (AH rfl) ?_;refine rdB rfl ?_;exact Gh.to (rL br V m R) (Gh.done (hk1 _ _ ha))
   ·have e3':¬x.2.fSeq=c.fSeq:=by simpa using e3
    rw [if_neg e3'] at ha;repeat' (first|refine Γ ?_|refine Θ (λ_=>?_)|refine Δ ?_|(with_reducible first|refine AK (sh168_3.eq_1 ..) ?_|refine AK (sh168_1.eq_1 ..) ?_|refine AK (sh168.eq_1 ..) ?_|refine And.intro ?_ ?_)|refine Φ ?_|refine Ξ (λ_=>?_) (λ_=>?_)|(simp only [SSd,Nat.reduceAdd,hix]))
    refine Av (hcv 1 _ rfl) (Ext.refl _) ?_;try refine O ?_
    refine stB rfl rfl (AH rfl) ?_;refine Bt (Ext.refl _) ?_;refine rdB rfl ?_;by_cases h:c.fSeq < x.2.fSeq
    ·rw [if_pos h] at ha;exact Gh.to (rL br V m R) (Gh.done (Vu (hk1 144 z0 ha) (by simp [h])))
    ·rw [if_neg h] at ha;exact Gh.to (rL br V m R) (Gh.done (Vu (hk2 ha) (by simp [h])))
  ·have e2':x.1≠c.fTxn:=by simpa using e2
   rw [wrap_i64 _ (by omega)];refine Gh.done ⟨n - 1,by omega,rfl,rfl,i+1,by omega,rfl,λy hy=>?_⟩;rw [hsn] at hy;rcases List.mem_append.1 hy with hy|hy
   ·exact hno y hy
   ·simp only [List.mem_singleton] at hy;subst hy;exact e2'
 ·have hi:i=m.seen.length:=by simp at e;omega
  rw [hi,List.take_length] at hno;have hx:lkA m.seen c.fTxn=none:=lkA_none.2 hno;have ha:Ax m c=if c.fTxn≤m.oldest then some (Ag 144) else none:=by unfold Ax;rw [hx]
  unfold sh168_3;repeat' (first|refine Γ ?_|refine Θ (λ_=>?_)|refine Δ ?_|(with_reducible first|refine AK (sh168_3.eq_1 ..) ?_|refine AK (sh168_1.eq_1 ..) ?_|refine AK (sh168.eq_1 ..) ?_|refine And.intro ?_ ?_)|refine Φ ?_|refine Ξ (λ_=>?_) (λ_=>?_)|refine O ?_|fail)
  by_cases h:c.fTxn≤m.oldest
  ·rw [if_pos h] at ha;exact Gh.to (rL br V m R) (Gh.done (Vu (hk1 144 z0 ha) (by simp [h])))
  ·rw [if_neg h] at ha;exact Gh.to (rL br V m R) (Gh.done (Vu (hk2 ha) (by simp [h])))
end
end Go.Proofs.YtmmfcgbfbcamcaaGreatDoor
