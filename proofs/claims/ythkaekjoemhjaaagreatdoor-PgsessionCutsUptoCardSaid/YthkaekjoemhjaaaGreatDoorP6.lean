/- lemmas -/
import Derived.Test.YthkaekjoemhjaaaGreatDoorP5
import Derived.Test.YthkaekjoemhjaaaGreatDoorP3
import Derived.Test.YthkaekjoemhjaaaGreatDoorP2
import Derived.Test.YthkaekjoemhjaaaGreatDoorP4
import Derived.Test.YthkaekjoemhjaaaGreatDoorRows
import Derived.LaidSub
import Derived.MakeChecks
import Derived.Lib.LaidTab
import Derived.JoinedCond
import Derived.LaidLaws
import Derived.SizedLaws
set_option maxRecDepth 100000
set_option maxHeartbeats 40000000
set_option linter.unusedVariables false
set_option linter.unusedSimpArgs false
set_option linter.unusedSectionVars false
namespace Go.Proofs.YthkaekjoemhjaaaGreatDoor
open Go.SL
theorem Ph (m:TBack):(GU m).1.length≤EP m+100:=by
 have hb:(DN m).2.1.length≤EP m+60:=by
  have hf:=QM m.fFields;have hc:=Qb m.fCells;unfold EP DN;repeat' split
  all_goals simp only [zk,Bv,txB,zbh,List.flatMap_nil,zf,zh]
  all_goals (try (repeat' split))
  all_goals (try simp only [zf,zh])
  all_goals omega
 unfold GU;simp only
 repeat' split
 ·simp
 ·simp
 ·simp
 ·simp only [zf,zk,Bv];omega
def LeP (x:Bs×Bs):Prop:=x.1.length+x.2.length≤60
theorem AID {c:Prop}[Decidable c]{x y:Bs×Bs}(hx:LeP x)(hy:LeP y):LeP (if c then x else y):=by split <;> assumption
theorem AEC (e:Int):(Ey e).1.length+(Ey e).2.length≤60:=by
 show LeP (Ey e);unfold Ey;repeat' refine AID ?_ ?_
 all_goals (unfold LeP;decide)
theorem LP (s:Ses)(l:List TBack):(BD s l).out.length≤s.out.length+Dv l:=by
 have h:∀(l:List TBack) (acc:Bs),(EO l acc).1.length≤acc.length+Dv l:=by
  intro l;induction l with
  |nil=>intro acc;simp [EO,Dv]
  |cons m r ih=>
   intro acc;rw [MV];simp only [EO];split
   ·simp
   ·have:=ih (acc++(GU m).1);rw [zk] at this;omega
 unfold BD;split
 ·omega
 ·have:=h l [];simp only [zk,zh] at *; omega
theorem AAe {l:List TBack}{n:Nat}(h:∀m∈l,EP m≤n):Dv l≤l.length * (n+100):=by
 induction l with
 |nil=>simp [Dv]
 |cons m r ih=>
  have h1:=Ph m;have h2:=h m (zK ..);have h3:=ih λx hx=>h x (zH _ hx);rw [MV,zf,zaA];omega
def AIO (e:Int)(fatal:Bool):TBack:={fKind:=9,fState:=(Ey e).1,fText:=(Ey e).2,fFatal:=fatal}
theorem AAq (e:Int)(f:Bool):EP (AIO e f)≤62:=by
 have:=AEC e;simp only [EP,AIO,Bc,zak,zaC,zh];omega
theorem LU (m:TBack):Dv [m]≤EP m+100:=by
 have:=Ph m;simpa [Dv] using this
section
variable {ω:Om}{I:Imm}{L F:LH}{K:Value→M}{s:Ses}{b:Nat}{X:LH}
theorem RJ {m:TBack}{c:List Value}{z:Array Value}{K':Value→M}[hsp:SplitL X L F](hz:z.size=10)(hS:SeM I s b X)(hm:∀I',Ext I I'→TBackV I' m c)(hok:Wl m)(hsz:EP m≤1000000)(hn:s.out.length≤99999990000000)
  (hk:∀I' X' e,Ext I I'→SeM I' (BD s [m]) b X'→K' (.int .i64 e) I' (X'++F)):AB 49 10 z 1 [(0,.agg c.toArray)] (gh λv=>CT ω 45 #[Ac b,v] (gh K')) I L:=by
 refine AHm (R:=TBackV) hz zx (hm I (zAC _)) (λh hI=>TBackV.mono h hI) (TBackV.len (hm I (zAC _))) (λu I1 hI1 hw=>?_);have ho:=LU m;refine call (MN (X:=X) (l:=[m]) (hS.mono hI1) hw zy (by simpa using hok) zo (λI2 X2 hI2 hS2=>?_));exact hk I2 X2 _ (zAB hI1 hI2) hS2
theorem GG (e:Int)(fatal:Bool)[hsp:SplitL X L F](hS:SeM I s b X)(hn:s.out.length≤99999990000000)(hk:∀I' X',Ext I I'→SeM I' (BP s e fatal) b X'→K (.tuple #[]) I' (X'++F)):CT ω 25 #[Ac b,.int .i64 e,.bool fatal] K I L:=by
 refine AQU ?_;unfold APV;refine call (XK e ?_);refine call (Nq e ?_);try refine zqe ?_
 have hsz:=AAq e fatal;refine RJ (X:=X) (m:=AIO e fatal) rfl hS (λI' _=>⟨_,_,rfl,zAD none 0,zAD none 0⟩) ⟨by omega,by show (0:Int)≤0;decide,by show (0:Int)≤255;decide,by show (0:Int)≤9;decide⟩ zo hn (λI' X' e' hI' hS'=>?_);exact zAA (hk I' X' hI' hS')
theorem ER (t:Bs)[hsp:SplitL X L F](hS:SeM I s b X)(ht:t.length≤100000)(hn:s.out.length≤99999990000000)(hk:∀I' X',Ext I I'→SeM I' (DD s t) b X'→K (.tuple #[]) I' (X'++F)):CT ω 31 #[Ac b,.string ⟨t.toArray⟩] K I L:=by
 refine AQO ?_;unfold APP;try refine zqe ?_
 have hsz:EP {fKind:=7,fText:=t}≤100002:=by simp only [EP,Bc,zak,zaC,zh];omega
 refine RJ (X:=X) (m:={fKind:=7,fText:=t}) rfl hS (λI' _=>⟨_,_,rfl,zAD none 0,zAD none 0⟩) ⟨by omega,by show (0:Int)≤0;decide,by show (0:Int)≤255;decide,by show (0:Int)≤7;decide⟩ zo hn (λI' X' e' hI' hS'=>?_);exact zAA (hk I' X' hI' hS')
theorem Le [hsp:SplitL X L F](hS:SeM I s b X)(hk:∀X',SeM I (Fa s) b X'→K (.tuple #[]) I (X'++F)):CT ω 26 #[Ac b] K I L:=by
 refine zAP X ?_;obtain ⟨vl,vs,vo,sc,XL,XO,rfl,h2,h3,h4,h5,h6⟩:=hS;refine AQT ?_;unfold APU;have fin:∀(k:Int),(Fa s).kind=k→Gh (K (.tuple #[])) I ((b,CX s.pid s.secret s.status (.slice none 0 0) false (.slice none 0 0) k z51 false true vo)::(XL++(XO++F))):=by
  intro k hk';have:=hk ((b,CX s.pid s.secret s.status (.slice none 0 0) false (.slice none 0 0) k z51 false true vo)::XO) ⟨_,_,vo,z51,[],XO,by rw [←hk'];rfl,zAN _ _,zAD none 0,h4,h5,h6⟩;exact zAG ((b,CX s.pid s.secret s.status (.slice none 0 0) false (.slice none 0 0) k z51 false true vo)::(XO++F)) (zAA this)
 have fin1:∀(k:Int),(Fa s).kind=4→TJ ω (Ac b) (λv=>Gh (K v)) I ((b,CX s.pid s.secret s.status (.slice none 0 0) false (.slice none 0 0) k z51 false true vo)::(XL++(XO++F))):=by
  intro k hk';unfold TJ;try refine zqe ?_
  refine st1 rfl ?_;exact fin 4 hk'
 simp only [zi,SSd,Nat.reduceAdd];refine rdb ?_;try refine zqe ?_
 have hkd:(Fa s).kind=if s.status==84||s.kind==4 then 4 else 0:=rfl
 cases h1:(s.status==84) with
 |true=>
  rw [h1,Bool.true_or,if_pos rfl] at hkd;refine BZ (λhb=>by cases hb) (λ_=>?_);refine st1 rfl ?_;try refine zqe ?_
  refine st1 rfl ?_;try refine zqe ?_
  refine st1 rfl ?_;try refine zqe ?_
  refine st1 rfl ?_;try refine zqe ?_
  refine ML (k':=0) (sc':=z51) (own':=false) rfl ?_;exact fin1 0 hkd
 |false=>
  rw [h1,zbd] at hkd;refine BZ (λ_=>?_) (λhb=>absurd rfl hb);refine rdb ?_;try refine zqe ?_
  refine st1 rfl ?_;try refine zqe ?_
  refine st1 rfl ?_;try refine zqe ?_
  refine st1 rfl ?_;try refine zqe ?_
  refine st1 rfl ?_;try refine zqe ?_
  refine ML (k':=0) (sc':=z51) (own':=false) rfl ?_;cases h2:(s.kind==4) with
  |true=>
   rw [h2,if_pos rfl] at hkd;try refine zqe ?_
   exact fin1 0 hkd
  |false=>
   rw [h2] at hkd;try refine zqe ?_
   exact fin 0 (by rw [hkd];rfl)
end
abbrev z53:Array Value:=#[(Value.int .i64 0),(Value.int .i64 0),(Value.bool false),(Value.slice none 0 0),(Value.slice none 0 0),(Value.int .i64 0),(Value.int .i64 0),(Value.bool false),(Value.int .i64 0),(Value.string (ByteArray.mk #[])),(Value.string (ByteArray.mk #[])),(Value.string (ByteArray.mk #[])),(Value.int .i64 0),(Value.int .i64 0),(Value.bool false),(Value.slice none 0 0),(Value.slice none 0 0),(Value.int .i64 0),(Value.int .i64 0),(Value.bool false),(Value.int .i64 0),(Value.string (ByteArray.mk #[])),(Value.string (ByteArray.mk #[])),(Value.string (ByteArray.mk #[])),(Value.int .i64 0),(Value.int .i64 0),(Value.bool false),(Value.slice none 0 0),(Value.slice none 0 0),(Value.int .i64 0),(Value.int .i64 0),(Value.string (ByteArray.mk #[])),(Value.slice none 0 0),(Value.slice none 0 0),(Value.slice none 0 0),(Value.int .i64 0),(Value.int .i64 0),(Value.bool false),(Value.int .i64 0),(Value.string (ByteArray.mk #[])),(Value.string (ByteArray.mk #[])),(Value.string (ByteArray.mk #[])),(Value.int .i64 0),(Value.int .i64 0),(Value.bool false),(Value.slice none 0 0),(Value.slice none 0 0),(Value.slice none 0 0),(Value.string (ByteArray.mk #[])),(Value.string (ByteArray.mk #[])),(Value.slice none 0 0),(Value.bool false),(Value.bool false)]
theorem AFs (k:Int)(o:Bool)(c0 c1 c2 c3 c4 c5 c6 c7 c8 c9 c10 c11 c12 c13 c14 c15 c16 c17 c18 c19 c20 c21 c22 c23 c24 c25 c26 c27 c28 c29 c30 c31 c32 c33 c34 c35 c36 c37 c38 c39 c40 c41 c42 c43 c44 c45 c46 c47 c48 c49 c50:Value):AV z53 Zv [(0,.int .i64 k),(1,.agg #[c0,c1,c2,c3,c4,c5,c6,c7,c8,c9,c10,c11,c12,c13,c14,c15,c16,c17,c18,c19,c20,c21,c22,c23,c24,c25,c26,c27,c28,c29,c30,c31,c32,c33,c34,c35,c36,c37,c38,c39,c40,c41,c42,c43,c44,c45,c46,c47,c48,c49,c50]),(2,.bool o)]=some (.agg #[.int .i64 k,c0,c1,c2,c3,c4,c5,c6,c7,c8,c9,c10,c11,c12,c13,c14,c15,c16,c17,c18,c19,c20,c21,c22,c23,c24,c25,c26,c27,c28,c29,c30,c31,c32,c33,c34,c35,c36,c37,c38,c39,c40,c41,c42,c43,c44,c45,c46,c47,c48,c49,c50,.bool o]):=by kernel_rfl
theorem AIg (k:Int)(o:Bool)(c:List Value)(hl:c.length=51):AV z53 Zv [(0,.int .i64 k),(1,.agg c.toArray),(2,.bool o)]=some (.agg (.int .i64 k::(c++[.bool o])).toArray):=by
 obtain ⟨c0,c1,c2,c3,c4,c5,c6,c7,c8,c9,c10,c11,c12,c13,c14,c15,c16,c17,c18,c19,c20,c21,c22,c23,c24,r,rfl⟩:∃c0 c1 c2 c3 c4 c5 c6 c7 c8 c9 c10 c11 c12 c13 c14 c15 c16 c17 c18 c19 c20 c21 c22 c23 c24 r,c=c0::c1::c2::c3::c4::c5::c6::c7::c8::c9::c10::c11::c12::c13::c14::c15::c16::c17::c18::c19::c20::c21::c22::c23::c24::r:=by
  match c,hl with
  |c0::c1::c2::c3::c4::c5::c6::c7::c8::c9::c10::c11::c12::c13::c14::c15::c16::c17::c18::c19::c20::c21::c22::c23::c24::r,_=>exact ⟨c0,c1,c2,c3,c4,c5,c6,c7,c8,c9,c10,c11,c12,c13,c14,c15,c16,c17,c18,c19,c20,c21,c22,c23,c24,r,rfl⟩
 have hr:r.length=26:=by simpa using hl
 obtain ⟨c25,c26,c27,c28,c29,c30,c31,c32,c33,c34,c35,c36,c37,c38,c39,c40,c41,c42,c43,c44,c45,c46,c47,c48,c49,c50,rfl⟩:∃c25 c26 c27 c28 c29 c30 c31 c32 c33 c34 c35 c36 c37 c38 c39 c40 c41 c42 c43 c44 c45 c46 c47 c48 c49 c50,r=[c25,c26,c27,c28,c29,c30,c31,c32,c33,c34,c35,c36,c37,c38,c39,c40,c41,c42,c43,c44,c45,c46,c47,c48,c49,c50]:=by
  match r,hr with
  |[c25,c26,c27,c28,c29,c30,c31,c32,c33,c34,c35,c36,c37,c38,c39,c40,c41,c42,c43,c44,c45,c46,c47,c48,c49,c50],_=>exact ⟨c25,c26,c27,c28,c29,c30,c31,c32,c33,c34,c35,c36,c37,c38,c39,c40,c41,c42,c43,c44,c45,c46,c47,c48,c49,c50,rfl⟩
 exact AFs ..
section
variable {ω:Om}{I:Imm}{L F:LH}{K:Value→M}{s:Ses}{b:Nat}{X:LH}
theorem Nc [hsp:SplitL X L F](hS:SeM I s b X)(hk:∀X',SeM I (BR s) b X'→K (.tuple #[]) I (X'++F)):CT ω 30 #[Ac b] K I L:=by
 refine zAP X ?_;obtain ⟨vl,vs,vo,sc,XL,XO,rfl,h2,h3,h4,h5,h6⟩:=hS;refine AQP ?_;unfold APQ;unfold BR at hk;simp only [zi,SSd,Nat.reduceAdd];refine st1 rfl ?_;try refine zqe ?_
 refine rdb ?_;try refine zqe ?_
 cases h1:(s.status==84) with
 |true=>
  rw [if_pos h1] at hk;try refine zqe ?_
  refine st1 rfl ?_;try refine zqe ?_
  refine ML (k':=4) (sc':=z51) (own':=false) rfl ?_;exact asc (A:=Gh (K _)) (zAA (hk _ ⟨vl,_,vo,z51,XL,XO,rfl,h2,zAD none 0,h4,by show (0:Int)≤69;decide,by show (69:Int)≤255;decide⟩))
 |false=>
  rw [if_neg (by rw [h1];decide)] at hk;try refine zqe ?_
  exact asc (A:=Gh (K _)) (zAA (hk _ ⟨vl,_,vo,sc,XL,XO,rfl,h2,zAD none 0,h4,h5,h6⟩))
theorem Il (kind asked:Int)(tag:Bs)[hsp:SplitL X L F](hS:SeM I s b X)(ht:tag.length≤100000)(hn:s.out.length≤99999990000000)(hk:∀I' X',Ext I I'→SeM I' (JX s kind asked tag) b X'→K (.tuple #[]) I' (X'++F)):CT ω 73 #[Ac b,.int .i64 kind,.int .u8 asked,.string ⟨tag.toArray⟩] K I L:=by
 refine zAP X ?_;have hS':=hS;obtain ⟨vl,vs,vo,sc,XL,XO,rfl,h2,h3,h4,h5,h6⟩:=hS;refine AQB ?_;unfold APD;unfold JX at hk;simp only [zi,SSd,Nat.reduceAdd];refine rdb ?_;try refine zqe ?_
 cases h1:(s.status==asked) with
 |true=>
  rw [if_pos h1] at hk;try refine zqe ?_
  refine ML (k':=kind) (sc':=z51) (own':=false) rfl ?_;exact asc (A:=Gh (K _)) (zAA (hk I _ (zAC _) ⟨vl,vs,vo,z51,XL,XO,rfl,h2,h3,h4,h5,h6⟩))
 |false=>
  rw [if_neg (by rw [h1];decide)] at hk;try refine zqe ?_
  refine call (asc ?_);exact ER tag hS' ht hn (λI' X' hI h=>zAA (hk I' X' hI h))
theorem AHL {x:TStmt}{c:List Value}(h:TStmtV I x c):∃r,c= .int .i64 x.fKind::r∧∃sc:A51,sc.1=c:=by
 have h1:=TStmtV.len h;have h2:=TStmtV.one h;obtain ⟨v0,v1,v2,v3,v4,v5,v6,v7,v8,v9,v10,v11,v12,rfl,_⟩:=h;exact ⟨_,rfl,⟨_,h1,zaD.2 h2⟩,rfl⟩
theorem XP {x:TStmt}{c:List Value}(hx:TStmtV I x c)[hsp:SplitL X L F](hS:SeM I s b X)(hn:s.out.length≤99999990000000)(hk:∀I' X',Ext I I'→SeM I' (EG s x) b X'→K (.tuple #[]) I' (X'++F)):CT ω 48 #[Ac b,.agg c.toArray] K I L:=by
 refine zAP X ?_;have hS':=hS;obtain ⟨vl,vs,vo,sc,XL,XO,rfl,h2,h3,h4,h5,h6⟩:=hS;have hc51:=TStmtV.len hx;obtain ⟨r,rfl,sx,hsx⟩:=AHL hx;refine AQJ ?_;unfold APK;unfold EG at hk;have rb:∀(bx:Nat),s.status=69→(x.fKind==10||x.fKind==11)=true→TF ω (Ac b) (λv=>Gh (K v)) I ((bx,.cells (.int .i64 x.fKind::r).toArray 76 (0,0))::(b,CX s.pid s.secret s.status vl s.query vs s.kind sc s.own s.ended vo)::(XL++(XO++F))):=by
  intro bx e1 e2;rw [if_pos (by rw [e1];rfl),if_pos e2] at hk;unfold TF;try refine zqe ?_
  refine st1 rfl ?_;refine call (Cal.to (((b,CX s.pid s.secret 73 vl s.query vs s.kind sc s.own s.ended vo)::(XL++(XO++F)))) (asc ?_));exact ER (s:={s with status:=73}) [82,79,76,76,66,65,67,75] ⟨vl,vs,vo,sc,XL,XO,rfl,h2,h3,h4,by show (0:Int)≤73;decide,by show (73:Int)≤255;decide⟩ zx hn (λI' X' hI h=>zAA (hk I' X' hI h))
 simp only [zi,SSd,Nat.reduceAdd];refine Am (λbx=>?_);refine rdb ?_;try refine zqe ?_
 cases h1:(s.status==69) with
 |true=>
  have e1:s.status=69:=by simpa using h1
  try refine zqe ?_
  refine rdb ?_;try refine zqe ?_
  cases h10:(x.fKind==10) with
  |true=>
   try refine zqe ?_
   exact rb bx e1 (by rw [h10];rfl)
  |false=>
  try refine zqe ?_
  cases h11:(x.fKind==11) with
  |true=>
   try refine zqe ?_
   exact rb bx e1 (by rw [h11,Bool.or_true])
  |false=>
  rw [if_pos h1,if_neg (by rw [h10,h11];decide)] at hk;try refine zqe ?_
  have hb:Wl {fKind:=9,fState:=[50,53,80,48,50],fText:=[116,104,101,32,116,114,97,110,115,97,99,116,105,111,110,32,104,97,115,32,102,97,105,108,101,100]}:=⟨by decide,by decide,by decide,by decide⟩;refine RJ (X:=(b,CX s.pid s.secret s.status vl s.query vs s.kind sc s.own s.ended vo)::(XL++XO)) (m:={fKind:=9,fState:=[50,53,80,48,50],fText:=[116,104,101,32,116,114,97,110,115,97,99,116,105,111,110,32,104,97,115,32,102,97,105,108,101,100]}) rfl hS' (λI' _=>⟨_,_,rfl,zAD none 0,zAD none 0⟩) hb zx hn (λI' X' e' hI' hS2=>?_);obtain ⟨vl,vs,vo,sc,XL,XO,rfl,h2,h3,h4,h5,h6⟩:=hS2;simp only [zi,SSd,Nat.reduceAdd];refine st1 rfl ?_;refine zAG (((b,_)::(XL++(XO++F)))) (asc (A:=Gh (K _)) (zAA (hk I' _ hI' ⟨vl,_,vo,sc,XL,XO,rfl,h2,zAD none 0,h4,h5,h6⟩)))
 |false=>
  rw [if_neg (by rw [h1];decide)] at hk;have go:∀{f:FuncId} {args:Array Value},CT ω f args (λv21=>(λv=>Gh (K v)) (.tuple #[])) I (((b,CX s.pid s.secret s.status vl s.query vs s.kind sc s.own s.ended vo)::(XL++XO))++F)→CT ω f args (gh λv21=>(λv=>Gh (K v)) (.tuple #[])) I ((bx,.cells (.int .i64 x.fKind::r).toArray 76 (0,0))::(b,CX s.pid s.secret s.status vl s.query vs s.kind sc s.own s.ended vo)::(XL++(XO++F))):=by
   intro f args h;exact call (Cal.to (((b,CX s.pid s.secret s.status vl s.query vs s.kind sc s.own s.ended vo)::(XL++(XO++F)))) (asc h))
  try refine zqe ?_
  refine rdb ?_;try refine zqe ?_
  cases h9:(x.fKind==9) with
  |true=>
   rw [if_pos h9] at hk;try refine zqe ?_
   refine go (Il 2 73 [66,69,71,73,78] hS' zx hn (λI' X' hI h=>zAA (hk I' X' hI h)))
  |false=>
  rw [if_neg (by rw [h9];decide)] at hk;try refine zqe ?_
  cases h10:(x.fKind==10) with
  |true=>
   rw [if_pos h10] at hk;try refine zqe ?_
   refine go (Il 3 84 [67,79,77,77,73,84] hS' zx hn (λI' X' hI h=>zAA (hk I' X' hI h)))
  |false=>
  rw [if_neg (by rw [h10];decide)] at hk;try refine zqe ?_
  cases h11:(x.fKind==11) with
  |true=>
   rw [if_pos h11] at hk;try refine zqe ?_
   refine go (Il 4 84 [82,79,76,76,66,65,67,75] hS' zx hn (λI' X' hI h=>zAA (hk I' X' hI h)))
  |false=>
  rw [if_neg (by rw [h11];decide)] at hk;try refine zqe ?_
  refine Dy ?_;refine Pe hc51 ?_;try refine zqe ?_
  refine BM ?_;try refine zqe ?_
  refine AIi (AIg _ _ _ hc51) ?_;try refine zqe ?_
  refine ML (k':=1) (sc':=sx) (own':=s.status==73) (by rw [WZ,hsx];rfl) ?_;refine zAG ((b,CX s.pid s.secret s.status vl s.query vs 1 sx (s.status==73) s.ended vo)::(XL++(XO++F))) ?_;exact asc (A:=Gh (K _)) (zAA (hk I _ (zAC _) ⟨vl,vs,vo,sx,XL,XO,rfl,h2,h3,h4,h5,h6⟩))
end
def hiL (s:Ses):List TBack:=[{fKind:=1},{fKind:=2,fName:=[115,101,114,118,101,114,95,118,101,114,115,105,111,110],fText:=[49,54,46,48]},{fKind:=2,fName:=[99,108,105,101,110,116,95,101,110,99,111,100,105,110,103],fText:=[85,84,70,56]},{fKind:=2,fName:=[68,97,116,101,83,116,121,108,101],fText:=[73,83,79]},{fKind:=3,fPid:=s.pid,fSecret:=s.secret},{fKind:=4,fStatus:=73}]
theorem AKu (s:Ses):∀m∈hiL s,Wl m∧EP m≤60:=by
 intro m hm;simp only [hiL,zX,zaT,or_false] at hm;rcases hm with rfl|rfl|rfl|rfl|rfl|rfl
 all_goals (refine ⟨⟨?_,?_,?_,?_⟩,?_⟩ <;> first|decide|(simp [EP,Bc];done))
section
variable {ω:Om}{I:Imm}{L F:LH}{K:Value→M}{s:Ses}{b:Nat}{X:LH}
theorem Sl [hsp:SplitL X L F](hS:SeM I s b X)(hn:s.out.length≤99999990000000)(hk:∀I' X',Ext I I'→SeM I' (Ic s) b X'→K (.tuple #[]) I' (X'++F)):CT ω 77 #[Ac b] K I L:=by
 refine zAP X ?_;obtain ⟨vl,vs,vo,sc,XL,XO,rfl,h2,h3,h4,h5,h6⟩:=hS;refine APx ?_;unfold AOz;simp only [zi,SSd,Nat.reduceAdd];refine st1 rfl ?_;refine Dy ?_;try refine zqe ?_
 refine BM ?_;try refine zqe ?_
 refine BM ?_;try refine zqe ?_
 have hok:=AKu s;have hon:Dv (hiL s)≤960:=by
  have:=AAe (l:=hiL s) (n:=60) (λm hm=>(hok m hm).2);simpa [hiL] using this
 refine Eu (R:=TBackV) (hiL s) [[.int .i64 1,.string ⟨#[]⟩,.string ⟨#[]⟩,.int .i64 0,.int .i64 0,.int .u8 0,.slice none 0 0,.slice none 0 0,.string ⟨#[]⟩,.bool false],
  [.int .i64 2,.string ⟨([115,101,114,118,101,114,95,118,101,114,115,105,111,110]:Bs).toArray⟩,.string ⟨([49,54,46,48]:Bs).toArray⟩,.int .i64 0,.int .i64 0,.int .u8 0,.slice none 0 0,.slice none 0 0,.string ⟨#[]⟩,.bool false],
  [.int .i64 2,.string ⟨([99,108,105,101,110,116,95,101,110,99,111,100,105,110,103]:Bs).toArray⟩,.string ⟨([85,84,70,56]:Bs).toArray⟩,.int .i64 0,.int .i64 0,.int .u8 0,.slice none 0 0,.slice none 0 0,.string ⟨#[]⟩,.bool false],
  [.int .i64 2,.string ⟨([68,97,116,101,83,116,121,108,101]:Bs).toArray⟩,.string ⟨([73,83,79]:Bs).toArray⟩,.int .i64 0,.int .i64 0,.int .u8 0,.slice none 0 0,.slice none 0 0,.string ⟨#[]⟩,.bool false],
  [.int .i64 3,.string ⟨#[]⟩,.string ⟨#[]⟩,.int .i64 s.pid,.int .i64 s.secret,.int .u8 0,.slice none 0 0,.slice none 0 0,.string ⟨#[]⟩,.bool false],
  [.int .i64 4,.string ⟨#[]⟩,.string ⟨#[]⟩,.int .i64 0,.int .i64 0,.int .u8 73,.slice none 0 0,.slice none 0 0,.string ⟨#[]⟩,.bool false]] rfl rfl rfl ?_ ?_ (λhI h=>TBackV.mono h hI) (λI1 a hI1 hw=>zAA ?_)
 ·intro c hc;simp only [zX,zaT,or_false] at hc;rcases hc with rfl|rfl|rfl|rfl|rfl|rfl <;> rfl
 ·intro p hp;simp only [hiL,List.zip_cons_cons,List.zip_nil_right,zX,zaT,or_false] at hp;rcases hp with rfl|rfl|rfl|rfl|rfl|rfl <;> exact ⟨_,_,rfl,zAD none 0,zAD none 0⟩
 ·refine call (MN (X:=(b,CX s.pid s.secret 73 vl s.query vs s.kind sc s.own s.ended vo)::(XL++XO)) (s:={s with status:=73}) (l:=hiL s) ⟨vl,vs,vo,sc,XL,XO,rfl,h2,zAL (λ_ _ h=>TStmtV.mono h hI1) h3 hI1 (λ_ h=>h),h4,by show (0:Int)≤73;decide,by show (73:Int)≤255;decide⟩ hw (by simp [hiL]) (λm hm=>(hok m hm).1) (by show s.out.length+_≤_;omega) (λI' X' hI hS'=>?_));exact zAA (hk I' X' (zAB hI1 hI) hS')
theorem YO {G:Imm}(hTok:EE ω G)(hLim:Qi ω)(t:Bs)[hsp:SplitL X L F](hG:Ext G I)(hS:SeM I s b X)(hn:s.out.length≤99999990000000)(hk:∀I' X',Ext I I'→SeM I' (UX s t) b X'→K (.tuple #[]) I' (X'++F)):CT ω 78 #[Ac b,.string ⟨t.toArray⟩] K I L:=by
 refine zAP X ?_;obtain ⟨vl,vs,vo,sc,XL,XO,rfl,h2,h3,h4,h5,h6⟩:=hS;refine APw ?_;unfold AOy;unfold UX at hk;simp only [zi,SSd,Nat.reduceAdd];refine st1 rfl ?_;refine call (Xh hTok hLim t hG (λI1 a k hI1 hw=>?_));have hS1:SeM I1 {s with query:=true} b ((b,CX s.pid s.secret s.status vl true vs s.kind sc s.own s.ended vo)::(XL++XO)):=⟨vl,vs,vo,sc,XL,XO,rfl,h2,zAL (λ_ _ h=>TStmtV.mono h hI1) h3 hI1 (λ_ h=>h),h4,h5,h6⟩;generalize Ce t=p at *;obtain ⟨pl,pe⟩:=p;simp only at *
 try refine zqe ?_
 refine Am (λbf=>?_);refine stB rfl rfl (Ak rfl) ?_;try refine zqe ?_
 refine rdb ?_;try refine zqe ?_
 have last:∀(I2:Imm) (X':LH) (s2:Ses),Ext I1 I2→SeM I2 s2 b X'→(∀I' X',Ext I I'→SeM I' {s2 with stmts:=pl} b X'→K (.tuple #[]) I' (X'++F))→PD ω (Ac b) (.slice a pl.length k) (λv=>Gh (K v)) I2 (X'++((bf,.cells [.int .i64 pe.code,.int .i64 pe.at'].toArray 157 (0,0))::F)):=by
  intro I2 X' s2 hI2 hS2 hk2;obtain ⟨vl,vs,vo,sc,XL,XO,rfl,h2,h3,h4,h5,h6⟩:=hS2;unfold PD;simp only [zi,SSd,Nat.reduceAdd];refine st1 rfl ?_;refine zAG ((b,_)::(XL++(XO++F))) (asc (A:=Gh (K _)) (zAA (hk2 I2 _ (zAB hI1 hI2) ⟨vl,_,vo,sc,XL,XO,rfl,h2,zAL (λ_ _ h=>TStmtV.mono h hI2) hw hI2 (λ_ h=>h),h4,h5,h6⟩)))
 cases h1:(pe.code != 0) with
 |true=>
  rw [if_pos h1] at hk;try refine zqe ?_
  refine rdb ?_;refine call (GG (X:=(b,CX s.pid s.secret s.status vl true vs s.kind sc s.own s.ended vo)::(XL++XO)) pe.code false hS1 hn (λI2 X2 hI2 hS2=>?_));refine call (Nc (X:=X2) hS2 (λX3 hS3=>?_));exact zAG (X3++F) (zAA (hk I2 X3 (zAB hI1 hI2) hS3))
 |false=>
 rw [if_neg (by rw [h1];decide)] at hk;simp only [Hl,SSd,Nat.reduceAdd];cases hp:pl with
 |nil=>
  rw [hp] at hk last hw;simp only [List.isEmpty_nil,if_true] at hk;simp only [zh,show (((0:Nat):Int)==0)=true from rfl,SSd,Nat.reduceAdd];refine RJ (X:=(b,CX s.pid s.secret s.status vl true vs s.kind sc s.own s.ended vo)::(XL++XO)) (m:={fKind:=8}) rfl hS1 (λI' _=>⟨_,_,rfl,zAD none 0,zAD none 0⟩) ⟨by decide,by decide,by decide,by decide⟩ zx hn (λI' X' e' hI' hS2=>?_);exact last I' X' _ hI' hS2 hk
 |cons y r=>
  rw [hp] at hk last;simp only [List.isEmpty_cons,zl,if_false] at hk;have hz:((((y::r).length:Nat):Int)==0)=false:=beq_false_of_ne zu;simp only [hz,SSd,Nat.reduceAdd];unfold PD;rw [hp] at hw;try refine zqe ?_
  refine st1 rfl ?_;refine zAG ((b,_)::(XL++(XO++F))) (asc (A:=Gh (K _)) (zAA (hk I1 _ hI1 ⟨vl,_,vo,sc,XL,XO,rfl,h2,hw,h4,h5,h6⟩)))
theorem ABR {G:Imm}{f:TFront}{c:List Value}(hTok:EE ω G)(hLim:Qi ω)(hf:FrC f c)[hsp:SplitL X L F](hG:Ext G I)(hS:SeM I s b X)(hn:s.out.length≤99999990000000)(hk:∀I' X',Ext I I'→SeM I' (Hg s f) b X'→K (.tuple #[]) I' (X'++F)):CT ω 51 #[Ac b,.agg c.toArray] K I L:=by
 refine zAP X ?_;obtain ⟨a,n,k,p,sc,tg,rfl⟩:=hf;refine AQG ?_;unfold APH;unfold Hg at hk;try refine zqe ?_
 refine Am (λbf=>?_);try refine zqe ?_
 refine rdb ?_;try refine zqe ?_
 by_cases h2:(f.fKind==2)=true
 ·rw [if_pos h2] at hk;simp only [h2,SSd,Nat.reduceAdd];refine RJ (X:=X) (m:={fKind:=10}) rfl hS (λI' _=>⟨_,_,rfl,zAD none 0,zAD none 0⟩) ⟨by decide,by decide,by decide,by decide⟩ zx hn (λI' X' e' hI' hS2=>?_);exact zAG (X'++F) (zAA (hk I' X' hI' hS2))
 rw [if_neg h2] at hk;simp only [zW.2 h2,SSd,Nat.reduceAdd];have he:TB ω (Ac b) (.pointer (some ⟨bf,0,none⟩)) (.int .i64 f.fKind) (.bool (f.fKind==3||f.fKind==5)) (λv=>Gh (K v)) I ((bf,.cells [.int .i64 f.fKind,.slice a n k,.string ⟨f.fText.toArray⟩,.int .i64 p,.int .i64 sc,.int .u8 tg].toArray 106 (0,0))::(X++F)):=by
  unfold TB;by_cases h3:(f.fKind==3||f.fKind==5)=true
  ·rw [if_pos h3] at hk;simp only [h3,SSd,Nat.reduceAdd];refine call (Le (X:=X) hS (λX' h=>?_));exact zAG (X'++F) (zAA (hk I X' (zAC _) h))
  rw [if_neg h3] at hk;simp only [zW.2 h3,SSd,Nat.reduceAdd];by_cases h1:(f.fKind==1)=true
  ·rw [if_pos h1] at hk;simp only [h1,SSd,Nat.reduceAdd];refine call (Sl (X:=X) hS hn (λI' X' hI h=>?_));exact zAG (X'++F) (zAA (hk I' X' hI h))
  rw [if_neg h1] at hk;simp only [zW.2 h1,SSd,Nat.reduceAdd];by_cases h4:(f.fKind==4)=true
  ·rw [if_pos h4] at hk;simp only [h4,SSd,Nat.reduceAdd];refine rdb ?_;refine call (YO (X:=X) hTok hLim f.fText hG hS hn (λI' X' hI h=>?_));exact zAG (X'++F) (zAA (hk I' X' hI h))
  rw [if_neg h4] at hk;simp only [zW.2 h4,SSd,Nat.reduceAdd];refine call (GG (X:=X) 230 true hS hn (λI' X' hI h=>?_));refine call (Le (X:=X') h (λX2 h2=>?_));exact zAG (X2++F) (zAA (hk I' X2 hI h2))
 cases h3:(f.fKind==3) with
 |true=>
  rw [h3,Bool.true_or] at he;try refine zqe ?_
  exact he
 |false=>
  rw [h3,zbd] at he;try refine zqe ?_
  exact he
end
theorem Ji (s:Ses)(m:TBack)(h:EP m≤1000):(BD s [m]).out.length≤s.out.length+1100:=by
 have h1:=LP s [m];have h2:=LU m;omega
theorem JV (s:Ses)(e:Int)(f:Bool):(BP s e f).out.length≤s.out.length+1100:=Ji s (AIO e f) (by have:=AAq e f;omega)
theorem QQ (s:Ses)(t:Bs)(h:t.length≤900):(DD s t).out.length≤s.out.length+1100:=Ji s {fKind:=7,fText:=t} (by simp only [EP,Bc,zak,zaC,zh];omega)
theorem UN (s:Ses):(Fa s).out=s.out:=rfl
theorem WF (s:Ses):(BR s).out=s.out:=by unfold BR;split <;> rfl
theorem ACB (s:Ses):(Ic s).out.length≤s.out.length+1100:=by
 have h1:=LP {s with status:=73} (hiL s);have h2:=AAe (l:=hiL s) (n:=60) (λm hm=>(AKu s m hm).2);have h3:(hiL s).length=6:=rfl;have h4:Ic s=BD {s with status:=73} (hiL s):=rfl;rw [h4];simp only at h1
 omega
theorem UR (s:Ses)(k a:Int)(t:Bs)(h:t.length≤900):(JX s k a t).out.length≤s.out.length+1100:=by
 unfold JX;split
 ·simp only;omega
 ·exact QQ s t h
theorem AEw (s:Ses)(x:TStmt):(EG s x).out.length≤s.out.length+1100:=by
 unfold EG;split
 ·split
  ·exact QQ {s with status:=73} _ zx
  ·exact Ji s _ zx
 split
 ·exact UR s _ _ _ zx
 split
 ·exact UR s _ _ _ zx
 split
 ·exact UR s _ _ _ zx
 ·simp only;omega
theorem AIA (s:Ses)(f:TFront):(Hg s f).out.length≤s.out.length+1100:=by
 unfold Hg UX;repeat' split
 ·exact Ji s _ zx
 ·rw [UN];omega
 ·exact ACB s
 ·rw [WF];exact JV {s with query:=true} _ _
 ·exact Ji {s with query:=true} _ zx
 ·simp only;omega
 ·rw [UN];exact JV s _ _
theorem ABf {s t:Ses}(h:Az s=some t):t.out.length≤s.out.length+1100:=by
 unfold Az at h;split at h
 ·cases h
 split at h
 ·simp only [zn] at h;subst h;exact AEw {s with stmts:=s.stmts.tail} _
 split at h
 ·simp only [zn] at h;subst h;exact Ji {s with query:=false} _ (by simp only [EP,Bc,zak,zaC,zh];omega)
 simp only at h
 split at h
 ·cases h
 split at h
 ·simp only [zn] at h;subst h;rw [UN];exact JV s _ _
 ·simp only [zn] at h;subst h;exact AIA {s with left:=s.left.drop (Ap s.left (s.status==0)).2.1.toNat} _
def Au (s:Ses):Nat:=s.out.length+2000 * mu s
theorem PV {s t:Ses}(h:Az s=some t):Au t≤Au s:=by
 have h1:=ABf h;have h2:=Du h;unfold Au;omega
theorem AIH (n:Nat):∀{s:Ses},mu s < n→Au (goF s)≤Au s:=by
 induction n with
 |zero=>intro s h;omega
 |succ n ih=>
  intro s hn;rw [Dw];cases hr:Az s with
  |none=>exact zt _
  |some t=>
   have h1:=Du hr;exact zaq (ih zo) (PV hr)
section
variable {ω:Om}{I:Imm}{L F:LH}{K:Value→M}{s:Ses}{b:Nat}{X:LH}
theorem OwB.drop_at {v:Value}{l:Bs}{n:Nat}(h:OwB X v l)(hn:n≤l.length)(h0:0 < n):∃bb off cap,Cb 1 v (some (.int .i64 n)) none none=some (.slice (some ⟨bb,off,none⟩) (l.length - n) cap)∧∀(I:Imm) (L:LH),(∀x∈X,x∈L)→News 1 (.slice (some ⟨bb,off,none⟩) (l.length - n) cap) I L (l.length - n) (Lib.byteCells (l.drop n)):=by
 obtain ⟨hl,h2⟩:=h;rcases h2 with ⟨rfl,hz,_⟩|⟨bb,cap,cs,rfl,rfl,hcs,hle,hcell⟩
 ·omega
 ·have hs:Cb 1 (.slice (some ⟨bb,0,none⟩) l.length cap) (some (.int .i64 n)) none none=some (.slice (some ⟨bb,if cap=n then 0 else n,none⟩) (l.length - n) (cap - n)):=by
   have h2:n≠0:=by omega
   by_cases hc:cap=n
   ·simp [Cb,DL,hn,hc]
   ·simp [Cb,DL,hn,hc,h2,Addr.add]
  refine ⟨bb,_,_,hs,λI L hX=>?_⟩;by_cases hc:cap=n
  ·have:l.length - n=0:=by omega
   rw [this];have hd:l.drop n=[]:=zat zo;rw [hd];exact .inl ⟨_,_,rfl,rfl,rfl⟩
  ·rw [if_neg hc];refine .inr (.inl ⟨bb,n,cap - n,rfl,by simp [Lib.byteCells],λj u hu=>?_⟩);have hm:(bb,Obj.cells cs 5 (0,0))∈L:=hX _ (zN.2 rfl);refine Cell.own hm (hcell (n+j) u ?_);have:Lib.byteCells (l.drop n)=(Lib.byteCells l).drop n:=by simp [Lib.byteCells]
   rw [this,zax] at hu;exact hu
theorem AFk {bb off cap len:Nat}{t:Bs}(hn:News 1 (.slice (some ⟨bb,off,none⟩) len cap) I L len (Lib.byteCells t))(hlen:len=t.length)(hl:t.length≤1000000000000)(hk:∀X' v',OwB X' v' t→K v' I (X'++L)):CT ω 50 #[.slice (some ⟨bb,off,none⟩) len cap] K I L:=by
 subst hlen;refine AQH ?_;unfold API;try refine zqe ?_
 refine AFr (λX0 u0 hX0=>?_);refine BQ (X:=X0) (n:=1) (m:=t.length) rfl hX0 (news:=Lib.byteCells t) ?_ (λu hu=>?_) zo zo (λX2 v2 hX2=>?_)
 ·rcases hn with ⟨a,c,e,h0,h1⟩|⟨b',o',c',e,h1,h2⟩|⟨s,e,_⟩
  ·exact .inl ⟨a,c,e,h0,h1⟩
  ·exact .inr (.inl ⟨b',o',c',e,h1,λj u hu=>(h2 j u hu).mono (zAC _) (λx hx=>zam _ hx)⟩)
  ·cases e
 ·obtain ⟨d,_,rfl⟩:=zal.1 hu;rfl
 ·have hX2:OwB X2 v2 t:=by
   have:SlO 5 1 X2 v2 ([]++Lib.byteCells t) (0+t.length):=hX2;rw [zaJ,zaS] at this;exact this
  exact zAA (hk X2 v2 hX2)
end
section
variable {ω:Om}{I:Imm}{L F:LH}{K:Value→M}{s:Ses}{b:Nat}{X:LH}
theorem ADI {v:Value}{l:List TStmt}(h:RL TStmtV 51 I [] v l)(h0:l≠[]):∃a k,Cb 51 v (some (.int .i64 1)) none none=some (.slice a l.tail.length k)∧RL TStmtV 51 I [] (.slice a l.tail.length k) l.tail:=by
 have hp:=zby.2 h0;obtain ⟨v',e1,h1⟩:=RL.part h (lo:=1) (hi:=l.length) hp (zt _) (some (.int .i64 (1:Nat))) none (KW _ _ _ _ hp) (λcap hc=>rfl);have e:(l.drop 1).take (l.length - 1)=l.tail:=by
  rw [List.drop_one,zY (by rw [zaU];omega)]
 rw [e] at h1;obtain ⟨a,k,rfl⟩:=zAH h1;exact ⟨a,k,e1,h1⟩
theorem AAf {G:Imm}(hTok:EE ω G)(hLim:Qi ω)[hsp:SplitL X L F](hG:Ext G I)(hS:SeM I s b X)(hn:Au s≤99999980000000)(hk:∀I' X',Ext I I'→SeM I' (goF s) b X'→K (.tuple #[]) I' (X'++F)):CT ω 27 #[Ac b] K I L:=by
 refine zAP X ?_;refine AQS ?_;unfold APT;refine loop (λm st I' L'=>∃(s':Ses) (X':LH),mu s'=m∧Ext I I'∧L'=X'++F∧SeM I' s' b X'∧goF s'=goF s∧Au s'≤99999980000000) (mu s) ⟨s,X,rfl,zAC _,rfl,hS,rfl,hn⟩ ?_;rintro m st I' L' ⟨s',X',rfl,hI,rfl,hS',hgo,hroom⟩;have wait:Az s'=none→∀I2,Ext I' I2→K (.tuple #[]) I2 (X'++F):=λh I2 hI2=>by
  refine hk I2 X' (zAB hI hI2) ?_;rw [←hgo,Dw,h];exact hS'.mono hI2
 have over:∀(I2:Imm) (X2:LH) (t:Ses),Ext I' I2→Az s'=some t→t.ended=true→SeM I2 t b X2→K (.tuple #[]) I2 (X2++F):=by
  intro I2 X2 t hI2 hr he hS2;refine hk I2 X2 (zAB hI hI2) ?_;rw [←hgo,Dw,hr];simp only
  rw [AFS he];exact hS2
 have step:∀(I2:Imm) (X2:LH) (t:Ses),Ext I' I2→Az s'=some t→SeM I2 t b X2→∃m',m' < mu s'∧∃(s':Ses) (X':LH),mu s'=m'∧Ext I I2∧X2++F=X'++F∧SeM I2 s' b X'∧goF s'=goF s∧Au s'≤99999980000000:=by
  intro I2 X2 t hI2 hr hS2;refine ⟨mu t,Du hr,t,X2,rfl,zAB hI hI2,rfl,hS2,?_,zaq (PV hr) hroom⟩;rw [←hgo,Dw (s:=s'),hr]
 have hout:s'.out.length≤99999990000000:=by unfold Au at hroom;omega
 have hleft:s'.left.length≤100000000:=by unfold Au mu at hroom;omega
 have hSS:=hS';obtain ⟨vl,vs,vo,sc,XL,XO,rfl,h2,h3,h4,h5,h6⟩:=hS';unfold ADm;simp only [zi,SSd,Nat.reduceAdd];refine rdb ?_;try refine zqe ?_
 have hrd:Az s'=if s'.ended||s'.kind != 0 then none else if s'.query&& !s'.stmts.isEmpty then some (EG {s' with stmts:=s'.stmts.tail} (s'.stmts.headD default)) else if s'.query then some (BD {s' with query:=false} [{fKind:=4,fStatus:=s'.status}]) else if (Ap s'.left (s'.status==0)).2.2==10 then none else if (Ap s'.left (s'.status==0)).2.2 != 0 then some (Fa (BP s' (Ap s'.left (s'.status==0)).2.2 true)) else some (Hg {s' with left:=s'.left.drop (Ap s'.left (s'.status==0)).2.1.toNat} (Ap s'.left (s'.status==0)).1):=rfl
 cases hen:s'.ended with
 |true=>
  rw [if_pos (by rw [hen];rfl)] at hrd;have:=wait hrd I' (zAC _);rw [hen] at this;simp only [zad,SSd,Nat.reduceAdd];exact asc (A:=Gh (K _)) (zAA this)
 |false=>
 simp only [zan,SSd,Nat.reduceAdd];refine rdb ?_;try refine zqe ?_
 cases hki:(s'.kind==0) with
 |false=>
  rw [if_pos (by simp only [bne,hki,hen];rfl)] at hrd;have:=wait hrd I' (zAC _);rw [hen] at this;try refine zqe ?_
  exact asc (A:=Gh (K _)) (zAA this)
 |true=>
 rw [if_neg (by simp only [bne,hki,hen];decide)] at hrd;try refine zqe ?_
 refine rdb ?_;rw [hen] at hSS;have k5:(s'.query&& !s'.stmts.isEmpty)=false→TI ω (Ac b) (λst=>Gh λI2 L2=>∃m',m' < mu s'∧∃(s':Ses) (X':LH),mu s'=m'∧Ext I I2∧L2=X'++F∧SeM I2 s' b X'∧goF s'=goF s∧Au s'≤99999980000000) (λv=>Gh (K v)) I' ((b,CX s'.pid s'.secret s'.status vl s'.query vs s'.kind sc s'.own false vo)::(XL++(XO++F))):=by
  intro hq;rw [if_neg (by rw [hq];decide)] at hrd;unfold TI;try refine zqe ?_
  refine rdb ?_;cases hqq:s'.query with
  |true=>
   rw [if_pos hqq] at hrd;try refine zqe ?_
   refine st1 rfl ?_;try refine zqe ?_
   refine rdb ?_;try refine zqe ?_
   refine RJ (X:=(b,CX s'.pid s'.secret s'.status vl false vs s'.kind sc s'.own false vo)::(XL++XO)) (s:={s' with query:=false}) (m:={fKind:=4,fStatus:=s'.status}) rfl ⟨vl,vs,vo,sc,XL,XO,by rw [←hen],h2,h3,h4,h5,h6⟩ (λI' _=>⟨_,_,rfl,zAD none 0,zAD none 0⟩) ⟨by simp [EP,Bc],h5,h6,by show (0:Int)≤4;decide⟩ (by simp [EP,Bc]) hout (λI2 X2 e' hI2 hS2=>?_);exact zAA (step I2 X2 _ hI2 hrd hS2)
  |false=>
   rw [if_neg (by rw [hqq];decide)] at hrd;have hS3:=hSS;rw [hqq] at hSS;try refine zqe ?_
   refine AFZ [(b,CX s'.pid s'.secret s'.status vl false vs s'.kind sc s'.own false vo)] ?_;try refine zqe ?_
   refine BM ?_;try refine zqe ?_
   refine BM ?_;try refine zqe ?_
   have size:=@Ie s'.left (s'.status==0);have tail:∀(I2:Imm) (bf:Nat) (c:List Value),Ext I' I2→FrC (Ap s'.left (s'.status==0)).1 c→TG ω (Ac b) (.pointer (some ⟨bf,0,none⟩)) (.int .i64 (Ap s'.left (s'.status==0)).2.1) (.int .i64 (Ap s'.left (s'.status==0)).2.2) (λst=>Gh λI2 L2=>∃m',m' < mu s'∧∃(s':Ses) (X':LH),mu s'=m'∧Ext I I2∧L2=X'++F∧SeM I2 s' b X'∧goF s'=goF s∧Au s'≤99999980000000) (λv=>Gh (K v)) I2 ((bf,FrO c)::(b,CX s'.pid s'.secret s'.status vl false vs s'.kind sc s'.own false vo)::(XL++(XO++F))):=by
    intro I2 bf c hI2 hc;generalize hfr:Ap s'.left (s'.status==0)=fr at *;obtain ⟨f,size',e⟩:=fr;simp only at *
    unfold TG;have hSx:=hSS.mono hI2;try refine zqe ?_
    by_cases h10:(e==10)=true
    ·rw [if_pos h10] at hrd;have:=wait hrd I2 hI2;rw [hen,hqq] at this;simp only [h10,SSd,Nat.reduceAdd];exact zAG ((b,CX s'.pid s'.secret s'.status vl false vs s'.kind sc s'.own false vo)::(XL++(XO++F))) (asc (A:=Gh (K _)) (zAA this))
    rw [if_neg h10] at hrd;simp only [zW.2 h10,SSd,Nat.reduceAdd];by_cases h0:(e != 0)=true
    ·rw [if_pos h0] at hrd;simp only [h0,SSd,Nat.reduceAdd];refine call (GG (X:=(b,CX s'.pid s'.secret s'.status vl false vs s'.kind sc s'.own false vo)::(XL++XO)) e true hSx hout (λI3 X3 hI3 hS3=>?_));refine call (Le (X:=X3) hS3 (λX4 hS4=>?_));exact zAG (X4++F) (zAA (over I3 X4 _ (zAB hI2 hI3) hrd rfl hS4))
    rw [if_neg h0] at hrd;simp only [zW.2 h0,SSd,Nat.reduceAdd];obtain ⟨g1,g2⟩:=size (by simpa using h0);obtain ⟨n,rfl⟩:∃n:Nat,size'=n:=⟨size'.toNat,by omega⟩;rw [Int.toNat_natCast] at hrd;obtain ⟨bb,off,cap,e1,e2⟩:=OwB.drop_at h2 (n:=n) zo zo;refine rdb ?_;simp only [e1,SSd,Nat.reduceAdd];refine call (AFk (e2 I2 _ (λx hx=>zH _ (zH _ (zae _ hx)))) (by rw [zZ]) (by rw [zZ];omega) (λXN v' hXN=>?_));obtain ⟨a',k',rfl⟩:=hXN.form;try refine zqe ?_
    refine st1 rfl ?_;refine Ew (FrC.one hc).1 ?_;refine call (Cal.to ((b,CX s'.pid s'.secret s'.status (.slice a' (s'.left.drop n).length k') false vs s'.kind sc s'.own false vo)::(XN++(XO++F))) (asc ?_));refine ABR (G:=G) (s:={s' with left:=s'.left.drop n}) (X:=(b,CX s'.pid s'.secret s'.status (.slice a' (s'.left.drop n).length k') false vs s'.kind sc s'.own false vo)::(XN++XO)) hTok hLim hc (zAB hG (zAB hI hI2)) ⟨_,vs,vo,sc,XN,XO,by rw [hen,hqq],hXN,zAL (λ_ _ h=>TStmtV.mono h hI2) h3 hI2 (λ_ h=>h),h4,h5,h6⟩ hout (λI3 X3 hI3 hS3=>?_);exact zAA (step I3 X3 _ (zAB hI2 hI3) hrd hS3)
   have z1:∀{f:TFront} {c:List Value},FrC f c→∀u∈c,u.oneCell'=true:=λh=>(FrC.one h).2;refine And.intro ?_ ?_
   ·refine WA (zAP XL (Lm h2 (λI1 hI1 hv=>?_)));refine JZ (s'.status==0) hv zo (λc hc=>⟨zAC _,λI2 hI2=>?_⟩);refine zAG ((b,CX s'.pid s'.secret s'.status vl false vs s'.kind sc s'.own false vo)::(XL++(XO++F))) (zAA ?_);try refine zqe ?_
    refine Am (λbf=>?_);refine Dc hI2 ?_;refine stB (FrC.one hc).1 rfl (z1 hc) ?_;exact tail I2 bf c hI2 hc
   ·refine Am (λbf=>?_);refine Dc (zAC _) ?_;refine WA (zAP XL (Lm h2 (λI1 hI1 hv=>?_)));refine JZ (s'.status==0) hv zo (λc hc=>⟨zAC _,λI2 hI2=>?_⟩);refine zAG ((bf,FrO z6)::(b,CX s'.pid s'.secret s'.status vl false vs s'.kind sc s'.own false vo)::(XL++(XO++F))) (zAA ?_);try refine zqe ?_
    refine stB (FrC.one hc).1 rfl (z1 hc) ?_;exact tail I2 bf c hI2 hc
 cases hq:s'.query with
 |true=>
  rw [hq] at k5 hSS;try refine zqe ?_
  refine rdb ?_;simp only [zAQ h3,SSd,Nat.reduceAdd];cases hst:s'.stmts with
  |nil=>
   rw [hst] at k5;simp only [zh,show decide ((0:Int) < ((0:Nat):Int))=false from rfl,SSd,Nat.reduceAdd];exact k5 rfl
  |cons y r=>
   have hne:s'.stmts≠[]:=by rw [hst];exact List.cons_ne_nil _ _
   rw [if_pos (by rw [hq,hst];rfl)] at hrd;have hd:s'.stmts.headD default=QG s'.stmts 0:=by rw [hst];rfl
   have hpos:decide ((0:Int) < ((y::r).length:Nat))=true:=decide_eq_true (by simp only [zf];omega);simp only [hpos,SSd,Nat.reduceAdd];unfold ADl;try refine zqe ?_
   refine rdb ?_;obtain ⟨bt,off,c,g1,gl,g2,g3⟩:=RL.hd h3 hne;obtain ⟨a',k',e1,e2⟩:=ADI h3 hne;rw [←hd] at g2;simp only [g1,SSd,Nat.reduceAdd];refine rdN gl (g3 _ _ (zAC _) (λ_ h=>by cases h)) ?_;refine Am (λbx=>?_);refine stB gl rfl (TStmtV.one g2) ?_;refine rdb ?_;simp only [e1,SSd,Nat.reduceAdd];refine st1 rfl ?_;refine Ew gl ?_;refine call (XP (X:=(b,CX s'.pid s'.secret s'.status vl true (.slice a' s'.stmts.tail.length k') s'.kind sc s'.own false vo)::(XL++XO)) (s:={s' with stmts:=s'.stmts.tail}) g2 ⟨vl,_,vo,sc,XL,XO,by rw [hen,hq],h2,e2,h4,h5,h6⟩ hout (λI2 X2 hI2 hS2=>?_));exact zAG (X2++F) (zAA (step I2 X2 _ hI2 hrd hS2))
 |false=>
  rw [hq] at k5;try refine zqe ?_
  exact k5 rfl
end
section
variable {ω:Om}{I:Imm}{L F:LH}{K:Value→M}{s:Ses}{b:Nat}{X:LH}
theorem Bytes.clip {v:Value}{l:Bs}(h:Bytes I v l):∃a,Cb 1 v none (some (.int .i64 (l.length:Nat))) (some (.int .i64 (l.length:Nat)))=some (.slice a l.length l.length)∧Bytes I (.slice a l.length l.length) l:=by
 obtain ⟨hl,a,cap,rfl,hcap,h⟩:=h;have hs:Cb 1 (.slice a l.length cap) none (some (.int .i64 (l.length:Nat))) (some (.int .i64 (l.length:Nat)))=some (.slice (if l.length=0 then a else a.map (·.add 0)) l.length l.length):=by
  simp [Cb,DL,hcap]
 refine ⟨_,hs,hl,_,_,rfl,zt _,λh0=>?_⟩;obtain ⟨bb,off,cs,T,fr,rfl,h1,h2⟩:=h h0;refine ⟨bb,off,cs,T,fr,?_,h1,h2⟩;rw [if_neg h0];rfl
theorem Oy [hsp:SplitL X L F](hS:SeM I s b X)(hk:∀I' X' v,Ext I I'→SeM I' {s with out:=[]} b X'→Bytes I' v s.out→K v I' (X'++F)):CT ω 28 #[Ac b] K I L:=by
 refine zAP X ?_;obtain ⟨vl,vs,vo,sc,XL,XO,rfl,h2,h3,h4,h5,h6⟩:=hS;refine AQR ?_;unfold APS;simp only [zi,SSd,Nat.reduceAdd];refine rdb ?_;refine call (AAt ?_);refine zAG (XO++((b,CX s.pid s.secret s.status vl s.query vs s.kind sc s.own s.ended vo)::(XL++F))) ?_;refine SlO.freeze h4 (λI1 hI1 hv=>zAA ?_);have hv:Bytes I1 vo s.out:=hv;refine AQF ?_;unfold APG;obtain ⟨a,e1,e2⟩:=Bytes.clip hv;simp only [hv.len,e1,SSd,Nat.reduceAdd];refine zAA ?_;refine st1 rfl ?_;have:=hk I1 ((b,CX s.pid s.secret s.status vl s.query vs s.kind sc s.own s.ended (.slice none 0 0))::(XL++[])) _ hI1 ⟨vl,vs,_,sc,XL,[],rfl,h2,zAL (λ_ _ h=>TStmtV.mono h hI1) h3 hI1 (λ_ h=>h),zAN _ _,h5,h6⟩ e2;rw [zaK,zau] at this;exact zAA this
theorem Ry {G:Imm}(hTok:EE ω G)(hLim:Qi ω){w:Value}{t:Bs}[hsp:SplitL X L F](hG:Ext G I)(hS:SeM I s b X)(hw:Bytes I w t)(hlen:(s.left++t).length≤100000000)(hn:Au {s with left:=s.left++t}≤99999980000000)
  (hk:∀I' X' v,Ext I I'→SeM I' (DR s t).1 b X'→Bytes I' v (DR s t).2→K v I' (X'++F)):CT ω 11 #[Ac b,w] K I L:=by
 refine zAP X ?_;have hSS:=hS;obtain ⟨vl,vs,vo,sc,XL,XO,rfl,h2,h3,h4,h5,h6⟩:=hS;rw [zk] at hlen;refine AQY ?_;unfold APZ;unfold DR at hk;simp only [zi,SSd,Nat.reduceAdd];refine rdb ?_;cases hen:s.ended with
 |true=>
  rw [if_pos hen] at hk;rw [hen] at hSS;try refine zqe ?_
  exact asc (A:=Gh (K _)) (zAA (hk I _ _ (zAC _) hSS (SlI.nil _ _ _ _)))
 |false=>
 rw [if_neg (by rw [hen];decide)] at hk;simp only at hk
 try refine zqe ?_
 refine rdb ?_;refine BQ (X:=XL) (n:=1) (m:=t.length) rfl h2 (news:=Lib.byteCells t) (SlI.news hw) (λu hu=>?_) zo zo (λX2 u2 hX2=>?_)
 ·obtain ⟨d,_,rfl⟩:=zal.1 hu;rfl
 have hX2:OwB X2 u2 (s.left++t):=OwB.mk hX2;obtain ⟨a,k,rfl⟩:=hX2.form;try refine zqe ?_
 refine st1 rfl ?_;try refine zqe ?_
 refine rdb ?_;simp only [Hl,SSd,Nat.reduceAdd];have hS1:SeM I {s with left:=s.left++t} b ((b,CX s.pid s.secret s.status (.slice a (s.left++t).length k) s.query vs s.kind sc s.own false vo)::(X2++XO)):=⟨_,vs,vo,sc,X2,XO,by rw [←hen],hX2,h3,h4,h5,h6⟩;have hro:s.out.length≤99999990000000:=by unfold Au at hn;simp only at hn;omega
 have last:∀(I1:Imm) (X1:LH) (t1:Ses),Ext I I1→SeM I1 t1 b X1→(∀I' X' v,Ext I I'→SeM I' {t1 with out:=[]} b X'→Bytes I' v t1.out→K v I' (X'++F))→Tf ω (Ac b) (.slice none 0 0) (λv=>Gh (K v)) I1 (X1++F):=by
  intro I1 X1 t1 hI1 hS1 hk1;unfold Tf;refine call (Oy (X:=X1) hS1 (λI2 X2 v hI2 hS2 hb=>?_));exact zAA (hk1 I2 X2 v (zAB hI1 hI2) hS2 hb)
 refine AP (λhb=>?_) (λhb=>?_)
 ·have hb:2097152 < (s.left++t).length:=by have:=of_decide_eq_true hb;omega
  rw [if_pos hb] at hk;refine call (Cal.to ((b,CX s.pid s.secret s.status (.slice a (s.left++t).length k) s.query vs s.kind sc s.own false vo)::(X2++(XO++F))) ?_);refine GG (X:=(b,CX s.pid s.secret s.status (.slice a (s.left++t).length k) s.query vs s.kind sc s.own false vo)::(X2++XO)) 231 true hS1 hro (λI1 X1 hI1 hS2=>?_);refine call (Le (X:=X1) hS2 (λX3 hS3=>?_));exact last I1 X3 _ hI1 hS3 hk
 ·have hb:¬2097152 < (s.left++t).length:=by have:=of_decide_eq_false hb;omega
  rw [if_neg hb] at hk;refine call (Cal.to ((b,CX s.pid s.secret s.status (.slice a (s.left++t).length k) s.query vs s.kind sc s.own false vo)::(X2++(XO++F))) ?_);refine AAf (X:=(b,CX s.pid s.secret s.status (.slice a (s.left++t).length k) s.query vs s.kind sc s.own false vo)::(X2++XO)) hTok hLim hG hS1 hn (λI1 X1 hI1 hS2=>?_);exact last I1 X1 _ hI1 hS2 hk
theorem Uh (asked e:Int)[hsp:SplitL X L F](hS:SeM I s b X)(hn:s.out.length≤99999990000000)(hk:∀I' X',Ext I I'→SeM I' (Gt s asked e) b X'→K (.tuple #[]) I' (X'++F)):CT ω 32 #[Ac b,.int .i64 asked,.int .i64 e] K I L:=by
 refine zAP X ?_;obtain ⟨vl,vs,vo,sc,XL,XO,rfl,h2,h3,h4,h5,h6⟩:=hS;refine AQN ?_;unfold APO;unfold Gt at hk;simp only at hk
 have hS1:∀st:Int,0≤st∧st≤255→SeM I {s with status:=st} b ((b,CX s.pid s.secret st vl s.query vs s.kind sc s.own s.ended vo)::(XL++XO)):=λst h=>⟨vl,vs,vo,sc,XL,XO,rfl,h2,h3,h4,h.1,h.2⟩;simp only [zi,SSd,Nat.reduceAdd];refine st1 rfl ?_;try refine zqe ?_
 by_cases h0:(e != 0)=true
 ·rw [if_pos h0] at hk;simp only [h0,SSd,Nat.reduceAdd];refine call (GG (X:=(b,CX s.pid s.secret 73 vl s.query vs s.kind sc s.own s.ended vo)::(XL++XO)) e false (hS1 73 zo) hn (λI1 X1 hI1 hS2=>?_));obtain ⟨vl,vs,vo,sc,XL,XO,rfl,h2,h3,h4,h5,h6⟩:=hS2;simp only [zi,SSd,Nat.reduceAdd];refine st1 rfl ?_;exact asc (A:=Gh (K _)) (zAA (hk I1 _ hI1 ⟨vl,_,vo,sc,XL,XO,rfl,h2,zAD none 0,h4,h5,h6⟩))
 rw [if_neg h0] at hk;simp only [zW.2 h0,SSd,Nat.reduceAdd];by_cases h2':(asked==2)=true
 ·rw [if_pos h2'] at hk;simp only [h2',SSd,Nat.reduceAdd];refine st1 rfl ?_;refine call (ER (X:=(b,CX s.pid s.secret 84 vl s.query vs s.kind sc s.own s.ended vo)::(XL++XO)) [66,69,71,73,78] (hS1 84 zo) zx hn (λI1 X1 hI1 hS2=>?_));exact zAA (hk I1 X1 hI1 hS2)
 rw [if_neg h2'] at hk;simp only [zW.2 h2',SSd,Nat.reduceAdd];refine call (ER (X:=(b,CX s.pid s.secret 73 vl s.query vs s.kind sc s.own s.ended vo)::(XL++XO)) [67,79,77,77,73,84] (hS1 73 zo) zx hn (λI1 X1 hI1 hS2=>?_));exact zAA (hk I1 X1 hI1 hS2)
end
def VlV (_:Imm)(v:TValue)(c:List Value):Prop:=c=ALR v
def TOutV (I:Imm)(o:TOut)(c:List Value):Prop:=∃x0 x1 vf vr,c=[x0,x1,vf,vr,.string ⟨o.fTag.toArray⟩]∧x0.oneCell'=true∧x1.oneCell'=true∧RL TFieldV 2 I [] vf o.fFields∧RL (MC VlV 4) 1 I [] vr o.fRows
theorem AGz {I I':Imm}{v:Value}{l:List TValue}(h:RL VlV 4 I [] v l)(hI:Ext I I'):RL VlV 4 I' [] v l:=zAL (R:=VlV) (I:=I) (I':=I') (λ_ _ h=>h) h hI (λ_ h=>h)
theorem TOutV.mono {I I':Imm}{o:TOut}{c:List Value}(h:TOutV I o c)(hI:Ext I I'):TOutV I' o c:=by
 obtain ⟨x0,x1,vf,vr,rfl,h0,h1,h2,h3⟩:=h;refine ⟨x0,x1,vf,vr,rfl,h0,h1,FL.mono h2 hI,zAL (λx c h=>?_) h3 hI (λ_ h=>h)⟩;obtain ⟨v,rfl,h⟩:=h;exact ⟨v,rfl,AGz h hI⟩
structure OutOk (o:TOut):Prop where
 f:(o.fFields.map λf=>f.fName.length+19).sum≤1000000000
 r:o.fRows.length≤900000000
 c:∀r∈o.fRows,r.length≤1000000000∧(r.map λv=>v.fText.length+40).sum≤5000000000
 i:∀r∈o.fRows,∀v∈r, -9223372036854775808≤v.fInt∧v.fInt≤9223372036854775807
 t:o.fTag.length≤1000000000
def JF (dec:Int→Bs)(r:List TValue):TBack:={fKind:=6,fCells:=r.map (Ec dec)}
section
variable {ω:Om}{I:Imm}{L F:LH}{K:Value→M}{s:Ses}{b:Nat}{X:LH}
abbrev z10:List Value:=[.int .i64 0,.string ⟨#[]⟩,.string ⟨#[]⟩,.int .i64 0,.int .i64 0,.int .u8 0,.slice none 0 0,.slice none 0 0,.string ⟨#[]⟩,.bool false]
abbrev ALn (v:Value):List Value:=[.int .i64 6,.string ⟨#[]⟩,.string ⟨#[]⟩,.int .i64 0,.int .i64 0,.int .u8 0,.slice none 0 0,v,.string ⟨#[]⟩,.bool false]
instance splitNi4 (L:LH):SplitL [] L L:=⟨List.Perm.refl _⟩
theorem WX {XL:LH}{v:Value}{cells:List Value}{l:List TBack}{m:TBack}{c:List Value}{bytes:Nat}[SplitL XL L F](hL:SlO 49 10 XL v cells l.length)(hR:Recs (TBackV I) 10 l cells)(hm:TBackV I m c)(hb:(l.length+1) * bytes≤150000000000000)(hl:l.length+1≤150000000000000)
  (hk:∀X1 X' v' cells',SlO 49 10 X' v' cells' (l++[m]).length→Recs (TBackV I) 10 (l++[m]) cells'→K v' I (X'++(X1++F))):AB 49 10 z10.toArray 1 [(0,.agg c.toArray)] (gh λu=>App 49 10 bytes z10.toArray v u (gh K)) I L:=
 Gw (R:=TBackV) (X6:=XL) rfl zx hL hR hm hm.len hm.one hb hl hk
theorem ACR {G:Imm}(hP:Ua G){o:TOut}{c:List Value}[hsp:SplitL X L F](hG:Ext G I)(hS:SeM I s b X)(ho:TOutV I o c)(hok:OutOk o)(hn:s.out.length+Dv (Bh (BB true) o)≤100000000000000)(hbk:∀m∈Bh (BB true) o,Wl m)
  (hk:∀I' X',Ext I I'→SeM I' (BD s (Bh (BB true) o)) b X'→K (.int .i64 (EO (Bh (BB true) o) []).2) I' (X'++F)):CT ω 29 #[Ac b,.agg c.toArray] K I L:=by
 refine zAP X ?_;obtain ⟨x0,x1,vf,vr,rfl,h0,h1,h2,h3⟩:=ho;have hr:=hok.r;refine AQQ ?_;unfold APR;try refine zqe ?_
 refine Am (λbo=>?_);refine rdb ?_;simp only [zAQ h2,SSd,Nat.reduceAdd];have last:∀(I':Imm) (L' R XL:LH) (v:Value) (cells:List Value) (l:List TBack) [SplitL XL L' R] [SubP (X++F) R],Ext I I'→SlO 49 10 XL v cells l.length→Recs (TBackV I') 10 l cells→Bh (BB true) o=l++[{fKind:=7,fText:=o.fTag}]→l.length≤900000001→
   AB 49 10 z10.toArray 1 [(0,.agg #[.int .i64 7,.string ⟨#[]⟩,.string ⟨o.fTag.toArray⟩,.int .i64 0,.int .i64 0,.int .u8 0,.slice none 0 0,.slice none 0 0,.string ⟨#[]⟩,.bool false])] (gh λv39=>App 49 10 136 z10.toArray v v39 (gh λv40=>CT ω 45 #[Ac b,v40] (gh λv41=>(λv=>Gh (K v)) v41))) I' L':=by
  intro I' L' R XL v cells l _ _ hI hL hR hrows hl;refine WX (XL:=XL) (F:=R) (l:=l) (m:={fKind:=7,fText:=o.fTag}) (c:=[.int .i64 7,.string ⟨#[]⟩,.string ⟨o.fTag.toArray⟩,.int .i64 0,.int .i64 0,.int .u8 0,.slice none 0 0,.slice none 0 0,.string ⟨#[]⟩,.bool false]) hL hR ⟨_,_,rfl,zAD none 0,zAD none 0⟩ zo zo (λX1 X' v' cells' hX' hR'=>?_);rw [←hrows] at hX' hR';have hlen:(Bh (BB true) o).length≤900000002:=by rw [hrows,zk];simp;omega
  refine call (AAt ?_);refine RL.ofO (R:=TBackV) (λh hI=>TBackV.mono h hI) hX' hR' (λI2 hI2 hw=>zAA ?_);refine Cal.to (X++F) ?_;refine MN (X:=X) (hS.mono (zAB hI hI2)) hw zo hbk hn (λI3 X3 hI3 hS3=>?_);exact zAA (hk I3 X3 (zAB hI (zAB hI2 hI3)) hS3)
 by_cases hf:o.fFields.length > 0
 ·have hrows:Bh (BB true) o=({fKind:=5,fFields:=o.fFields}::o.fRows.map (JF (BB true)))++[{fKind:=7,fText:=o.fTag}]:=by
   unfold Bh;rw [if_pos hf];rfl
  have hf':decide ((0:Int) < (o.fFields.length:Nat))=true:=decide_eq_true zo;simp only [hf',SSd,Nat.reduceAdd];refine rdb ?_;obtain ⟨af,kf,rfl⟩:=zAH h2;try refine zqe ?_
  refine WX (XL:=[]) (F:=(bo,.cells [x0,x1,.slice af o.fFields.length kf,vr,.string ⟨o.fTag.toArray⟩].toArray 42 (0,0))::(X++F)) (l:=[]) (m:={fKind:=5,fFields:=o.fFields}) (c:=[.int .i64 5,.string ⟨#[]⟩,.string ⟨#[]⟩,.int .i64 0,.int .i64 0,.int .u8 0,.slice af o.fFields.length kf,.slice none 0 0,.string ⟨#[]⟩,.bool false]) (zAN _ _) rfl ⟨_,_,rfl,h2,zAD none 0⟩ zy zy (λX1 XL v cells hXL hRL=>?_);try refine zqe ?_
  refine rdb ?_;simp only [zAQ h3,SSd,Nat.reduceAdd];refine loop (λq st I' L'=>∃(k:Nat) (Y Z:LH) (v':Value) (cells':List Value),k+q=o.fRows.length∧st=(v',Value.int .i64 (k:Nat),())∧Ext I I'∧L'=Y++(Z++((bo,.cells [x0,x1,.slice af o.fFields.length kf,vr,.string ⟨o.fTag.toArray⟩].toArray 42 (0,0))::(X++F)))∧SlO 49 10 Y v' cells' ({fKind:=5,fFields:=o.fFields}::(o.fRows.take k).map (JF (BB true))).length∧Recs (TBackV I') 10 ({fKind:=5,fFields:=o.fFields}::(o.fRows.take k).map (JF (BB true))) cells') o.fRows.length
   ⟨0,XL,X1,v,cells,by omega,rfl,zAC _,rfl,hXL,hRL⟩ ?_
  rintro q st I1 L1 ⟨k,Y,Z,v',cells',hkq,rfl,hI1,rfl,hY,hR⟩;unfold ADk;try refine zqe ?_
  refine AP (λhb=>?_) (λhb=>?_)
  ·have hb:k < o.fRows.length:=by
    have:=of_decide_eq_true hb;omega
   obtain ⟨bt,off,c1,g1,gl,g2,g3⟩:=RL.ix h3 (i:=k) zo zo;rw [BH hb] at g2;obtain ⟨vrow,rfl,hrow⟩:=g2;have hmem:o.fRows[k]∈o.fRows:=zaG hb;obtain ⟨hc1,hc2⟩:=hok.c _ hmem;have hci:=hok.i _ hmem;have htk:(o.fRows.take (k+1)).map (JF (BB true))=(o.fRows.take k).map (JF (BB true))++[JF (BB true) o.fRows[k]]:=by
    rw [zg hb,zM];rfl
   generalize o.fRows[k]=row at *;simp only [g1,SSd,Nat.reduceAdd];refine rd1 (g3 _ _ hI1 (λ_ h=>by cases h) 0 _ rfl) ?_;try refine zqe ?_
   refine Am (λbm=>?_);refine stB rfl rfl (Ak rfl) ?_;simp only [zAQ hrow,SSd,Nat.reduceAdd];refine loop (λq2 st I2 L2=>∃(j:Nat) (XC:LH) (vc:Value) (cc:List Value),j+q2=row.length∧st=(Value.int .i64 (j:Nat),())∧I2=I1∧L2=XC++((bm,BkO (ALn vc))::(Y++(Z++((bo,.cells [x0,x1,.slice af o.fFields.length kf,vr,.string ⟨o.fTag.toArray⟩].toArray 42 (0,0))::(X++F)))))∧SlO 113 2 XC vc cc ((row.take j).map (Ec (BB true))).length∧Recs (TCellV I1) 2 ((row.take j).map (Ec (BB true))) cc) row.length
    ⟨0,[],.slice none 0 0,[],by omega,rfl,rfl,rfl,zAN _ _,rfl⟩ ?_
   rintro q2 st I2 L2 ⟨j,XC,vc,cc,hjq,rfl,rfl,rfl,hXC,hRC⟩;have hlc:((row.take j).map (Ec (BB true))).length=j:=by rw [zaR,zB];omega
   unfold ADj;try refine zqe ?_
   refine AP (λhb2=>?_) (λhb2=>?_)
   ·have hb2:j < row.length:=by
     have:=of_decide_eq_true hb2;omega
    obtain ⟨bt2,off2,c2,g1',gl',g2',g3'⟩:=RL.ix hrow (i:=j) zo zo;rw [BH hb2] at g2';have g2':c2=ALR row[j]:=g2';subst g2';have hvi:=hci row[j] (zaG hb2);have htj:(row.take (j+1)).map (Ec (BB true))=(row.take j).map (Ec (BB true))++[Ec (BB true) row[j]]:=by
     rw [zg hb2,zM];rfl
    generalize row[j]=val at *;obtain ⟨avc,kvc,rfl⟩:=hXC.form;simp only [g1',SSd,Nat.reduceAdd];refine rdN rfl (g3' _ _ hI1 (λ_ h=>by cases h)) ?_;refine Am (λbv=>?_);refine stB rfl rfl (Ak rfl) ?_;refine Dy ?_;try refine zqe ?_
    refine BM ?_;refine Pe rfl ?_;refine call (Vw hP (zAB hG hI1) val hvi (λc hc=>?_));refine Dc (zAC _) ?_;refine AEb (R:=TCellV) (X6:=XC) (zAC _) (λ_ h=>h) rfl zx hXC hRC hc hc.len hc.one zo zo (λX2 X6 a' c' cells2 hX6 hR6=>?_);try refine zqe ?_
    refine st1 rfl ?_;simp only [wrap_i64 ((j:Int)+1) zo,SSd,Nat.reduceAdd];rw [←htj] at hX6 hR6;refine zAG (X6++((bm,BkO (ALn (.slice a' ((row.take j).map (Ec (BB true))++[Ec (BB true) val]).length c')))::(Y++(Z++((bo,.cells [x0,x1,.slice af o.fFields.length kf,vr,.string ⟨o.fTag.toArray⟩].toArray 42 (0,0))::(X++F)))))) (zAA ⟨q2 - 1,by omega,j+1,X6,_,cells2,by omega,rfl,rfl,rfl,?_,hR6⟩);rw [←htj];exact hX6
   ·have hb2:¬j < row.length:=by
     have:=of_decide_eq_false hb2;omega
    rw [zY zo] at hXC hRC;obtain ⟨avc,kvc,rfl⟩:=hXC.form;unfold ADi;refine Ew rfl ?_;refine Qd rfl zx rfl (λX2 u2 hX2=>?_);refine zAG (XC++(X2++(Y++(Z++((bo,.cells [x0,x1,.slice af o.fFields.length kf,vr,.string ⟨o.fTag.toArray⟩].toArray 42 (0,0))::(X++F)))))) ?_;refine RL.ofO (R:=TCellV) (λh hI=>TCellV.mono h hI) hXC hRC (λI3 hI3 hw=>zAA ?_);have hl1:({fKind:=5,fFields:=o.fFields}::(o.fRows.take k).map (JF (BB true))).length=k+1:=by rw [zf,zaR,zB];omega
    refine BQ (X:=Y) (n:=10) (m:=1) rfl hY (hX2.news (λx hx=>zae _ hx)) (Ak rfl) zo zo (λY2 w2 hY2=>?_);simp only [wrap_i64 ((k:Int)+1) zo,SSd,Nat.reduceAdd];refine zAG (Y2++(Z++((bo,.cells [x0,x1,.slice af o.fFields.length kf,vr,.string ⟨o.fTag.toArray⟩].toArray 42 (0,0))::(X++F)))) (zAA ⟨q - 1,by omega,k+1,Y2,Z,w2,cells'++ALn (.slice avc (row.map (Ec (BB true))).length kvc),by omega,rfl,zAB hI1 hI3,rfl,?_,?_⟩)
    ·have e:({fKind:=5,fFields:=o.fFields}::(o.fRows.take (k+1)).map (JF (BB true))).length=({fKind:=5,fFields:=o.fFields}::(o.fRows.take k).map (JF (BB true))).length+1:=by rw [htk];simp
     rw [e];exact hY2
    ·rw [htk,←zau];exact Recs.append (hR.imp λ_ _ h=>TBackV.mono h hI3) (Recs.one rfl ⟨_,_,rfl,zAD none 0,hw⟩)
  ·have hb:¬k < o.fRows.length:=by
    have:=of_decide_eq_false hb;omega
   rw [zY zo] at hY hR;unfold ADh;try refine zqe ?_
   refine rdb ?_;try refine zqe ?_
   exact last I1 _ _ Y v' cells' _ hI1 hY hR hrows zu
 ·have hrows:Bh (BB true) o=[]++[{fKind:=7,fText:=o.fTag}]:=by
   unfold Bh;rw [if_neg hf]
  have hf':decide ((0:Int) < (o.fFields.length:Nat))=false:=decide_eq_false zo;simp only [hf',SSd,Nat.reduceAdd];unfold ADg;try refine zqe ?_
  refine rdb ?_;try refine zqe ?_
  exact last I _ _ [] _ [] [] (zAC _) (zAN _ _) rfl hrows zy
end
theorem AHz (s:Ses):mu (BR s)≤mu s:=by
 unfold BR mu;split <;> simp only [zh] <;> omega
theorem ABi (s:Ses):Au (BR s)≤Au s:=by
 have h1:=AHz s;have h2:=WF s;unfold Au;rw [h2];omega
theorem RU (s:Ses)(e:Int)(f:Bool):Au (BP s e f)≤Au s+1100:=by
 have h1:=JV s e f;have h2:mu (BP s e f)=mu s:=Eh s _;unfold Au;rw [h2];omega
theorem ABh (s:Ses)(l:List TBack):Au (BD s l)≤Au s+Dv l:=by
 have h1:=LP s l;have h2:mu (BD s l)=mu s:=Eh s _;unfold Au;rw [h2];omega
theorem MO (s:Ses)(t:Bs)(h:t.length≤900):Au (DD s t)≤Au s+1100:=by
 have h1:=QQ s t h;have h2:mu (DD s t)=mu s:=Eh s _;unfold Au;rw [h2];omega
theorem SQ (dec:Int→Bs)(s:Ses)(o:TOut)(e:Int):Au (Ba dec s o e)≤Au s+Dv (Bh dec o)+1100:=by
 unfold Ba;simp only
 have e0:Au {s with kind:=0,stmt:=default,own:=false}=Au s:=rfl;split
 ·have h2:Au (if e==0 then BD {s with kind:=0,stmt:=default,own:=false} (Bh dec o) else {s with kind:=0,stmt:=default,own:=false})≤Au s+Dv (Bh dec o):=by
   split
   ·exact ABh _ _
   ·rw [e0];omega
  generalize (if e==0 then BD {s with kind:=0,stmt:=default,own:=false} (Bh dec o) else {s with kind:=0,stmt:=default,own:=false})=s2 at h2 ⊢;generalize (if (e==0)=true then (EO (Bh dec o) []).2 else e)=e1;split
  ·have h3:=ABi (BP s2 e1 false);have h4:=RU s2 e1 false;omega
  ·omega
 split
 ·split
  ·refine zaq (MO _ _ zx) ?_;show Au s+1100≤_;omega
  ·rw [e0];omega
 ·unfold Gt;simp only
  split
  ·refine zaq (m:=Au (BP {s with kind:=0,stmt:=default,own:=false,status:=73} e false)) ?_ ?_
   ·unfold Au mu;simp only [zh];omega
   ·refine zaq (RU _ _ _) ?_;show Au s+1100≤_;omega
  split
  iterate 2
   ·refine zaq (MO _ _ zx) ?_;show Au s+1100≤_;omega
section
variable {ω:Om}{I:Imm}{L F:LH}{K:Value→M}{s:Ses}{b:Nat}{X:LH}
theorem UY {G:Imm}(hP:Ua G)(hTok:EE ω G)(hLim:Qi ω){o:TOut}{c:List Value}(e:Int)[hsp:SplitL X L F](hG:Ext G I)(hS:SeM I s b X)(ho:TOutV I o c)(hok:OutOk o)(hbk:∀m∈Bh (BB true) o,Wl m)(hn:Au s+Dv (Bh (BB true) o)≤99999900000000)
  (hk:∀I' X' v,Ext I I'→SeM I' (Fe (BB true) s o e).1 b X'→Bytes I' v (Fe (BB true) s o e).2→K v I' (X'++F)):CT ω 12 #[Ac b,.agg c.toArray,.int .i64 e] K I L:=by
 refine zAP X ?_;have hSS:=hS;have hroom:=SQ (BB true) s o e;have hout:s.out.length+Dv (Bh (BB true) o)≤99999900000000:=by unfold Au at hn;omega
 obtain ⟨vl,vs,vo,sc,XL,XO,rfl,h2,h3,h4,h5,h6⟩:=hS;obtain ⟨x0,x1,vf,vr,rfl,ho0,ho1,ho2,ho3⟩:=ho;refine AQX ?_;unfold APY;unfold Fe at hk;simp only [zi,SSd,Nat.reduceAdd];refine Am (λbo=>?_);refine rdb ?_;try refine zqe ?_
 by_cases hk0:(s.kind==0)=true
 ·rw [if_pos hk0] at hk;simp only [hk0,SSd,Nat.reduceAdd];exact zAG ((b,CX s.pid s.secret s.status vl s.query vs s.kind sc s.own s.ended vo)::(XL++(XO++F))) (asc (A:=Gh (K _)) (zAA (hk I _ _ (zAC _) hSS (SlI.nil _ _ _ _))))
 rw [if_neg hk0] at hk;have fin:∀(I1:Imm) (L1 R X1:LH) (t:Ses) (p:Value) [SplitL X1 L1 R] [SubP F R],Ext I I1→SeM I1 t b X1→Ba (BB true) s o e=t→IM ω (Ac b) p (λv=>Gh (K v)) I1 L1:=by
  intro I1 L1 R X1 t p _ _ hI1 hS1 ht;rw [ht] at hk hroom;unfold IM;refine call (AAf (X:=X1) (F:=R) hTok hLim (zAB hG hI1) hS1 zo (λI2 X2 hI2 hS2=>?_));refine call (Oy (X:=X2) hS2 (λI3 X3 v hI3 hS3 hv=>?_));exact zAG (X3++F) (zAA (hk I3 X3 v (zAB hI1 (zAB hI2 hI3)) hS3 hv))
 have hS0:SeM I {s with kind:=0,stmt:=default,own:=false} b ((b,CX s.pid s.secret s.status vl s.query vs 0 z51 false s.ended vo)::(XL++XO)):=⟨vl,vs,vo,z51,XL,XO,rfl,h2,h3,h4,h5,h6⟩;simp only [zW.2 hk0,SSd,Nat.reduceAdd];refine ML (k':=0) (sc':=z51) (own':=false) rfl ?_;by_cases hk1:(s.kind==1)=true
 ·have fin1:∀(I1:Imm) (L1 R X1:LH) (t:Ses) (e1:Int) (p:Value) [SplitL X1 L1 R] [SubP F R],Ext I I1→SeM I1 t b X1→t.out.length≤99999990000000→Ba (BB true) s o e=(if e1 != 0 then BR (BP t e1 false) else t)→TZ ω (Ac b) (.int .i64 e1) p (λv=>Gh (K v)) I1 L1:=by
   intro I1 L1 R X1 t e1 p _ _ hI1 hS1 hto ht;unfold TZ;try refine zqe ?_
   by_cases he:(e1 != 0)=true
   ·rw [if_pos he] at ht;simp only [he,SSd,Nat.reduceAdd];refine call (GG (X:=X1) (F:=R) e1 false hS1 hto (λI2 X2 hI2 hS2=>?_));refine call (Nc (X:=X2) hS2 (λX3 hS3=>?_));exact fin I2 _ R X3 _ _ (zAB hI1 hI2) hS3 ht
   ·rw [if_neg he] at ht;simp only [zW.2 he,SSd,Nat.reduceAdd];exact fin I1 _ R X1 t _ hI1 hS1 ht
  have h1e:Ba (BB true) s o e=(if ((if (e==0)=true then (EO (Bh (BB true) o) []).2 else e) != 0)=true then BR (BP (if (e==0)=true then BD {s with kind:=0,stmt:=default,own:=false} (Bh (BB true) o) else {s with kind:=0,stmt:=default,own:=false}) (if (e==0)=true then (EO (Bh (BB true) o) []).2 else e) false) else (if (e==0)=true then BD {s with kind:=0,stmt:=default,own:=false} (Bh (BB true) o) else {s with kind:=0,stmt:=default,own:=false})):=by
   unfold Ba;simp only;rw [if_pos hk1]
  simp only [hk1,SSd,Nat.reduceAdd];by_cases he:(e==0)=true
  ·simp only [he,if_true] at h1e;simp only [he,SSd,Nat.reduceAdd];refine Ew rfl ?_;refine call (ACR (X:=(b,CX s.pid s.secret s.status vl s.query vs 0 z51 false s.ended vo)::(XL++XO)) hP hG hS0 ⟨x0,x1,vf,vr,rfl,ho0,ho1,ho2,ho3⟩ hok (by show s.out.length+_≤_;omega) hbk (λI1 X1 hI1 hS1=>?_));have hso:=LP {s with kind:=0,stmt:=default,own:=false} (Bh (BB true) o);simp only at hso
   exact fin1 I1 _ _ X1 _ _ _ hI1 hS1 zo h1e
  ·simp only [he,zl,if_false] at h1e;simp only [zW.2 he,SSd,Nat.reduceAdd];exact fin1 I _ _ ((b,CX s.pid s.secret s.status vl s.query vs 0 z51 false s.ended vo)::(XL++XO)) _ e _ (zAC _) hS0 (by show s.out.length≤_;omega) h1e
 simp only [zW.2 hk1,SSd,Nat.reduceAdd];by_cases hk4:(s.kind==4)=true
 ·have h4e:Ba (BB true) s o e=(if (s.status==84&& !s.ended)=true then DD {s with kind:=0,stmt:=default,own:=false,status:=73} [82,79,76,76,66,65,67,75] else {s with kind:=0,stmt:=default,own:=false}):=by
   unfold Ba;simp only;rw [if_neg hk1,if_pos hk4]
  simp only [hk4,SSd,Nat.reduceAdd];refine rdb ?_;try refine zqe ?_
  have fin0:(s.status==84&& !s.ended)=false→IM ω (Ac b) (.slice none 0 0) (λv=>Gh (K v)) I ((bo,.cells [x0,x1,vf,vr,.string ⟨o.fTag.toArray⟩].toArray 42 (0,0))::(b,CX s.pid s.secret s.status vl s.query vs 0 z51 false s.ended vo)::(XL++(XO++F))):=by
   intro h;rw [if_neg (by rw [h];decide)] at h4e;exact fin I _ _ ((b,CX s.pid s.secret s.status vl s.query vs 0 z51 false s.ended vo)::(XL++XO)) _ _ (zAC _) hS0 h4e
  cases hs:(s.status==84) with
  |false=>
   try refine zqe ?_
   exact fin0 (by rw [hs];rfl)
  |true=>
   try refine zqe ?_
   refine rdb ?_;cases hen:s.ended with
   |true=>
    rw [hen] at fin0;simp only [zad,SSd,Nat.reduceAdd];exact fin0 (by rw [zad,Bool.and_false])
   |false=>
    rw [if_pos (by rw [hs,hen];rfl)] at h4e;simp only [zan,SSd,Nat.reduceAdd];unfold ADq;try refine zqe ?_
    refine st1 rfl ?_;refine call (ER (X:=(b,CX s.pid s.secret 73 vl s.query vs 0 z51 false false vo)::(XL++XO)) (s:={s with kind:=0,stmt:=default,own:=false,status:=73}) [82,79,76,76,66,65,67,75] ⟨vl,vs,vo,z51,XL,XO,by rw [hen],h2,h3,h4,by show (0:Int)≤73;decide,by show (73:Int)≤255;decide⟩ zx (by show s.out.length≤_;omega) (λI1 X1 hI1 hS1=>?_));exact fin I1 _ _ X1 _ _ hI1 hS1 h4e
 ·have hte:Ba (BB true) s o e=Gt {s with kind:=0,stmt:=default,own:=false} s.kind e:=by
   unfold Ba;simp only;rw [if_neg hk1,if_neg hk4]
  simp only [zW.2 hk4,SSd,Nat.reduceAdd];refine call (Uh (X:=(b,CX s.pid s.secret s.status vl s.query vs 0 z51 false s.ended vo)::(XL++XO)) s.kind e hS0 (by show s.out.length≤_;omega) (λI1 X1 hI1 hS1=>?_));exact fin I1 _ _ X1 _ _ hI1 hS1 hte
end
def okI (n:Int):Prop:= -9223372036854775808≤n∧n≤9223372036854775807
theorem QS:∀(k f n:Nat) (acc:Bs),1≤k→n < 10 ^ k→(Vq f n acc).length≤acc.length+k
 |0,_,_,_,h,_=>by omega
 |k+1,0,n,acc,_,_=>by simp only [Vq];omega
 |k+1,f+1,n,acc,_,hn=>by
  simp only [Vq];split
  ·simp
  ·rename_i h10
   cases k with
   |zero=>simp at hn;omega
   |succ k=>
    have hd:n / 10 < 10 ^ (k+1):=by
     rw [Nat.pow_succ] at hn;omega
    have:=QS (k+1) f (n / 10) (UInt8.ofNat (48+n % 10)::acc) zo hd;simp only [zf] at this;omega
theorem AFc {n:Int}(h:okI n):(BB true n).length≤20:=by
 unfold okI at h;unfold BB;split
 ·simp only [if_true,zf];have:=QS 19 (n.natAbs+1) n.natAbs [] zo zo;simp only [zh] at this;omega
 ·have:=QS 19 (n.toNat+1) n.toNat [] zo zo;simp only [zh] at this;omega
theorem Hr {α:Type}{f g:α→Nat}{c:Nat}:∀{l:List α},(∀x∈l,f x≤c * g x)→(l.map f).sum≤c * (l.map g).sum
 |[],_=>by simp
 |x::l,h=>by
  have h1:=h x (zK ..);have h2:=Hr (l:=l) λy hy=>h y (zH _ hy);simp only [zG,zai,Nat.mul_add];omega
theorem Sr {α:Type}{f:α→Nat}:∀{l:List α} {x:α},x∈l→f x≤(l.map f).sum
 |y::l,x,h=>by
  simp only [zG,zai];rcases zX.1 h with rfl|h
  ·omega
  ·have:=Sr (f:=f) h;omega
theorem Kt {α:Type}{f:α→Nat}:∀{l:List α},(∀x∈l,1≤f x)→l.length≤(l.map f).sum
 |[],_=>by simp
 |x::l,h=>by
  have h1:=h x (zK ..);have h2:=Kt (l:=l) λy hy=>h y (zH _ hy);simp only [zG,zai,zf];omega
def mVl (v:TValue):Nat:=v.fText.length+1
def MW (r:List TValue):Nat:=(r.map mVl).sum+1
def Xn (f:TField):Nat:=f.fName.length+1
def Nu (o:TOut):Nat:=(o.fFields.map Xn).sum+(o.fRows.map MW).sum+o.fTag.length
def VY (o:TOut):Prop:=∀r∈o.fRows,∀v∈r,okI v.fInt
theorem ACf {v:TValue}(h:okI v.fInt):(Ec (BB true) v).fText.length≤v.fText.length+20:=by
 have hd:=AFc h;unfold Ec;repeat' split
 all_goals (simp only [zh];try split) <;> simp <;> omega
theorem AEX {r:List TValue}(h:∀v∈r,okI v.fInt):EP (JF (BB true) r)≤25 * MW r:=by
 have h1:((r.map (Ec (BB true))).map λc=>4+c.fText.length).sum≤25 * (r.map mVl).sum:=by
  rw [List.map_map];refine Hr (λv hv=>?_);have:=ACf (h v hv);simp only [Function.comp,mVl];omega
 simp only [EP,JF,Bc,zak,zaC,zh,MW];omega
theorem AIL (l:List TField):(l.map λf=>f.fName.length+19).sum≤19 * (l.map Xn).sum:=Hr λf _=>by unfold Xn;omega
theorem out_ok {o:TOut}(h:Nu o≤2097152)(hi:VY o):OutOk o∧(∀m∈Bh (BB true) o,Wl m)∧Dv (Bh (BB true) o)≤300000000:=by
 have hf:=AIL o.fFields;unfold Nu at h;have hr:o.fRows.length≤(o.fRows.map MW).sum:=Kt λr _=>by unfold MW;omega
 have hrow:∀r∈o.fRows,MW r≤2097152:=λr hr=>by have:=Sr (f:=MW) hr;omega
 have hvs:∀r:List TValue,r.length≤(r.map mVl).sum:=λr=>Kt λv _=>by unfold mVl;omega
 have hbk:∀m∈Bh (BB true) o,Wl m∧(m.fKind=6→True):=by
  intro m hm;refine ⟨?_,λ_=>trivial⟩;unfold Bh at hm;rcases zav.1 hm with hm|hm
  ·split at hm
   ·rcases zX.1 hm with rfl|hm
    ·refine ⟨?_,by show (0:Int)≤0;decide,by show (0:Int)≤255;decide,by show (0:Int)≤5;decide⟩;simp only [EP,Bc,zak,zaC,zh];omega
    ·obtain ⟨r,hr2,rfl⟩:=zal.1 hm;refine ⟨?_,by show (0:Int)≤0;decide,by show (0:Int)≤255;decide,by show (0:Int)≤6;decide⟩;have h1:=AEX (hi r hr2);have h2:=hrow r hr2;show EP (JF (BB true) r)≤_;omega
   ·cases hm
  ·rw [zN] at hm;subst hm;refine ⟨?_,by show (0:Int)≤0;decide,by show (0:Int)≤255;decide,by show (0:Int)≤7;decide⟩;simp only [EP,Bc,zak,zaC,zh];omega
 refine ⟨⟨by omega,by omega,λr hr2=>?_,hi,by omega⟩,λm hm=>(hbk m hm).1,?_⟩
 ·have h1:=hrow r hr2;have h2:=hvs r;unfold MW at h1;refine ⟨by omega,?_⟩;have h3:(r.map λv=>v.fText.length+40).sum≤40 * (r.map mVl).sum:=Hr λv _=>by unfold mVl;omega
  omega
 ·have happ:∀a b:List TBack,Dv (a++b)=Dv a+Dv b:=λa b=>by simp [Dv]
  have hrows:Dv (o.fRows.map (JF (BB true)))≤125 * (o.fRows.map MW).sum:=by
   unfold Dv;rw [List.map_map];refine Hr λr hr2=>?_;have h1:=AEX (hi r hr2);have h2:=Ph (JF (BB true) r);have h3:1≤MW r:=by unfold MW;omega
   simp only [Function.comp];omega
  have hlast:=LU {fKind:=7,fText:=o.fTag};have hl2:EP {fKind:=7,fText:=o.fTag}=o.fTag.length+2:=by simp [EP,Bc]
  have hfirst:Dv [{fKind:=5,fFields:=o.fFields}]≤19 * (o.fFields.map Xn).sum+102:=by
   have:=LU {fKind:=5,fFields:=o.fFields};have h5:EP {fKind:=5,fFields:=o.fFields}=(o.fFields.map λf=>f.fName.length+19).sum+2:=by simp [EP,Bc]
   omega
  unfold Bh;rw [happ];split
  ·have e:Dv ({fKind:=5,fFields:=o.fFields}::o.fRows.map (JF (BB true)))=Dv [{fKind:=5,fFields:=o.fFields}]+Dv (o.fRows.map (JF (BB true))):=happ [_] _;have e2:(o.fRows.map λr=>({fKind:=6,fCells:=r.map (Ec (BB true))}:TBack))=o.fRows.map (JF (BB true)):=rfl;rw [e2,e];omega
  ·have:Dv []=0:=rfl;omega
abbrev z61:Array Value:=#[(Value.int .i64 0),(Value.int .i64 0),(Value.int .u8 0),(Value.slice none 0 0),(Value.bool false),(Value.slice none 0 0),(Value.int .i64 0),(Value.int .i64 0),(Value.bool false),(Value.slice none 0 0),(Value.slice none 0 0),(Value.int .i64 0),(Value.int .i64 0),(Value.bool false),(Value.int .i64 0),(Value.string (ByteArray.mk #[])),(Value.string (ByteArray.mk #[])),(Value.string (ByteArray.mk #[])),(Value.int .i64 0),(Value.int .i64 0),(Value.bool false),(Value.slice none 0 0),(Value.slice none 0 0),(Value.int .i64 0),(Value.int .i64 0),(Value.bool false),(Value.int .i64 0),(Value.string (ByteArray.mk #[])),(Value.string (ByteArray.mk #[])),(Value.string (ByteArray.mk #[])),(Value.int .i64 0),(Value.int .i64 0),(Value.bool false),(Value.slice none 0 0),(Value.slice none 0 0),(Value.int .i64 0),(Value.int .i64 0),(Value.string (ByteArray.mk #[])),(Value.slice none 0 0),(Value.slice none 0 0),(Value.slice none 0 0),(Value.int .i64 0),(Value.int .i64 0),(Value.bool false),(Value.int .i64 0),(Value.string (ByteArray.mk #[])),(Value.string (ByteArray.mk #[])),(Value.string (ByteArray.mk #[])),(Value.int .i64 0),(Value.int .i64 0),(Value.bool false),(Value.slice none 0 0),(Value.slice none 0 0),(Value.slice none 0 0),(Value.string (ByteArray.mk #[])),(Value.string (ByteArray.mk #[])),(Value.slice none 0 0),(Value.bool false),(Value.bool false),(Value.bool false),(Value.slice none 0 0)]
theorem AIf (p q:Int):AV z61 #[(0,1),(1,1),(2,1),(3,1),(4,1),(5,1),(6,53),(59,1),(60,1)] [(0,.int .i64 p),(1,.int .i64 q)]=some (.agg (Dt p q 0 (.slice none 0 0) false (.slice none 0 0) 0 z51 false false (.slice none 0 0)).toArray):=by kernel_rfl
theorem ACi (p q:Int):WH 1 #[.int .i64 0,.int .i64 0] [(0,.int .i64 p),(1,.int .i64 q)]=some (.agg #[.int .i64 p,.int .i64 q]):=by kernel_rfl
theorem AME (p q:Int):ABy false 1 2 (.agg #[.int .i64 p,.int .i64 q]) (.int .i64 ((0:Nat):Int))=some (.int .i64 p):=by kernel_rfl
theorem AMD (p q:Int):ABy false 1 2 (.agg #[.int .i64 p,.int .i64 q]) (.int .i64 ((1:Nat):Int))=some (.int .i64 q):=by kernel_rfl
section
variable {ω:Om}{I:Imm}{L F:LH}{K:Value→M}{s:Ses}{b:Nat}{X:LH}
theorem Wh {G:Imm}(hP:Ua G)(hTok:EE ω G)(hLim:Qi ω){o:TOut}{c:List Value}(e:Int)[hsp:SplitL X L F](hG:Ext G I)(hS:SeM I s b X)(ho:TOutV I o c)(hmo:Nu o≤2097152)(hio:VY o)(hn:Au s≤99999000000000)
  (hk:∀I' X' v,Ext I I'→SeM I' (Fe (BB true) s o e).1 b X'→Bytes I' v (Fe (BB true) s o e).2→K v I' (X'++F)):CT ω 12 #[Ac b,.agg c.toArray,.int .i64 e] K I L:=by
 obtain ⟨h1,h2,h3⟩:=out_ok hmo hio;exact UY hP hTok hLim e hG hS ho h1 h2 zo hk
theorem JC [hsp:SplitL X L F](hS:SeM I s b X)(hk:K (.int .u8 s.status) I (X++F)):CT ω 10 #[Ac b] K I L:=by
 refine zAP X ?_;obtain ⟨vl,vs,vo,sc,XL,XO,rfl,h2,h3,h4,h5,h6⟩:=hS;refine AQZ ?_;unfold APa;simp only [zi,SSd,Nat.reduceAdd];refine rdb ?_;exact asc (A:=Gh (K _)) (zAA hk)
theorem AGq [hsp:SplitL X L F](hS:SeM I s b X)(hk:∀sc:A51,K (WZ s.kind sc s.own) I (X++F)):CT ω 22 #[Ac b] K I L:=by
 refine zAP X ?_;obtain ⟨vl,vs,vo,sc,XL,XO,rfl,h2,h3,h4,h5,h6⟩:=hS;have hl:=sc.2.1;have h53:(.int .i64 s.kind::(sc.1++[.bool s.own]):List Value).length=53:=by simp [hl]
 have hone:∀u∈(.int .i64 s.kind::(sc.1++[.bool s.own]):List Value),u.oneCell'=true:=by
  intro u hu;rcases zX.1 hu with rfl|hu
  ·rfl
  ·rcases zav.1 hu with hu|hu
   ·exact zaD.1 sc.2.2 u hu
   ·rw [zN.1 hu];rfl
 refine AQW ?_;unfold APX;simp only [zi,SSd,Nat.reduceAdd];refine Am (λba=>?_);refine rdP (.int .i64 s.kind::(sc.1++[.bool s.own])) ?_ h53 ?_
 ·unfold Dt;have e:([.int .i64 s.pid,.int .i64 s.secret,.int .u8 s.status,vl,.bool s.query,vs,.int .i64 s.kind]++(sc.1++[.bool s.own,.bool s.ended,vo]):List Value).drop 6= .int .i64 s.kind::(sc.1++[.bool s.own,.bool s.ended,vo]):=rfl;rw [e,zbx,List.take_append,hl,zY zo];rfl
 refine stB h53 rfl hone ?_;refine Ew h53 ?_;refine zAG ((b,CX s.pid s.secret s.status vl s.query vs s.kind sc s.own s.ended vo)::(XL++(XO++F))) (asc (A:=Gh (K _)) (zAA (hk sc)))
theorem KL (p q:Int)(hp: -2147483648≤p∧p≤2147483647)(hq: -2147483648≤q∧q≤2147483647)(hk:∀b X,SeM I {pid:=p,secret:=q} b X→K (.tuple #[Ac b,.int .i64 0]) I (X++L)):CT ω 8 #[.int .i64 p,.int .i64 q] K I L:=by
 refine AQs ?_;unfold sh8;simp only [ACi,SSd,Nat.reduceAdd];refine loop (λm st I' L'=>∃k:Nat,k+m=2∧st=(Value.pointer none,Value.int .i64 0,Value.int .i64 (k:Nat),())∧I'=I∧L'=L) 2 ⟨0,rfl,rfl,rfl,rfl⟩ ?_;rintro m st I' L' ⟨k,hkm,rfl,rfl,rfl⟩;unfold AIw;try refine zqe ?_
 have h3:k=0∨k=1∨k=2:=by omega
 rcases h3 with rfl|rfl|rfl
 ·simp only [show decide (((0:Nat):Int) < 2)=true from rfl,AME,decide_eq_false (show ¬p < -2147483648 by omega),decide_eq_false (show ¬(2147483647:Int) < p by omega),show IntKind.i64.wrap (((0:Nat):Int)+1)=((1:Nat):Int) from rfl,SSd,Nat.reduceAdd];exact zAA ⟨1,by omega,1,rfl,rfl,rfl,rfl⟩
 ·simp only [show decide (((1:Nat):Int) < 2)=true from rfl,AMD,decide_eq_false (show ¬q < -2147483648 by omega),decide_eq_false (show ¬(2147483647:Int) < q by omega),show IntKind.i64.wrap (((1:Nat):Int)+1)=((2:Nat):Int) from rfl,SSd,Nat.reduceAdd];exact zAA ⟨0,by omega,2,rfl,rfl,rfl,rfl⟩
 ·simp only [show decide (((2:Nat):Int) < 2)=false from rfl,SSd,Nat.reduceAdd];unfold AIv;refine AIi (AIf p q) ?_;refine Am (λb=>?_);exact zAA (hk b [(b,_)] ⟨_,_,_,z51,[],[],rfl,zAN _ _,zAD none 0,zAN _ _,by show (0:Int)≤0;decide,by show (0:Int)≤255;decide⟩)
end
section
variable {H:Type}{enc:TypeId×Value→H}{P:Program}{w:World}{T:TypeId}{cs:List Value}{d:DataW H}
def Td (enc:TypeId×Value→H)(P:Program)(w:World)(T:TypeId)(cs:List Value)(d:DataW H):Prop:=
 ∃(fuel:Nat) (ps:List MemPlace),DataW.trod enc P w 0 (λ_=>true) true fuel T cs=some (d,ps)
theorem MJ {k:IntKind}(hu:P.underlying T=some (.int k))(h:Td enc P w T cs d):∃n,cs=[.int k n]∧(Lit.int k n).wf=true:=by
 obtain ⟨fuel,ps,h⟩:=h;cases fuel with
 |zero=>simp [DataW.trod] at h
 |succ fuel=>
  simp only [DataW.trod,hu] at h;split at h <;> simp_all
theorem AHI (hu:P.underlying T=some .bool)(h:Td enc P w T cs d):∃b,cs=[.bool b]:=by
 obtain ⟨fuel,ps,h⟩:=h;cases fuel with
 |zero=>simp [DataW.trod] at h
 |succ fuel=>
  simp only [DataW.trod,hu] at h;split at h <;> simp_all
theorem AHG (hu:P.underlying T=some .string)(h:Td enc P w T cs d):∃s:ByteArray,cs=[.string s]∧s.size+1≤Rows.uptoBulk d:=by
 obtain ⟨fuel,ps,h⟩:=h;cases fuel with
 |zero=>simp [DataW.trod] at h
 |succ fuel=>
  simp only [DataW.trod,hu] at h;split at h <;> simp_all
  obtain ⟨_,rfl,_⟩:=h;exact zt _
theorem XH (hu:P.underlying T=some .string)(h:Td enc P w T cs d):∃s:List UInt8,cs=[.string ⟨s.toArray⟩]∧s.length+1≤Rows.uptoBulk d:=by
 obtain ⟨s,h1,h2⟩:=AHG hu h;exact ⟨s.data.toList,by rw [h1],h2⟩
theorem AFo {H:Type}(d:DataW H):1≤Rows.uptoBulk d:=by
 cases d with
 |lit l=>cases l <;> simp [Rows.uptoBulk]
 |_=>simp [Rows.uptoBulk]
theorem Qc:∀{l:List (DataW H)} {i:Nat} {x:DataW H},l[i]? =some x→Rows.uptoBulk x≤Rows.uptoBulkAll l
 |[],_,_,h=>by simp at h
 |y::l,0,x,h=>by simp at h;subst h;simp [Rows.uptoBulkAll]
 |y::l,i+1,x,h=>by
  have:=Qc (l:=l) (i:=i) (by simpa using h);simp only [Rows.uptoBulkAll];omega
theorem Jc {fs:Array Field}(hu:P.underlying T=some (.struct fs))(h:Td enc P w T cs d):cs.length=P.cellsOf T∧∃ds,d= .agg ds∧ds.length=fs.toList.length∧∀(i:Nat) (f:Field),fs.toList[i]? =some f→∃di,ds[i]? =some di∧Td enc P w f.type ((cs.drop f.offset).take (P.cellsOf f.type)) di:=by
 obtain ⟨fuel,ps,h⟩:=h;cases fuel with
 |zero=>simp [DataW.trod] at h
 |succ fuel=>
  have h':(if cs.length=P.cellsOf T then (fs.toList.mapM λf=>DataW.trod enc P w 0 (λ_=>true) true fuel f.type ((cs.drop f.offset).take (P.cellsOf f.type))).map λxs=>(DataW.agg (xs.map (·.1)),xs.flatMap (·.2)) else none)=some (d,ps):=by
   rw [←h];simp only [DataW.trod,hu]
  split at h'
  ·rename_i hlen
   refine ⟨hlen,?_⟩;obtain ⟨xs,hxs,hd⟩:=zaH.1 h';simp only [zah] at hd;obtain ⟨rfl,_⟩:=hd;refine ⟨_,rfl,by rw [zaR,mapM_len _ _ hxs],λi f hf=>?_⟩;obtain ⟨y,hy,hyd⟩:=JO _ _ hxs i f hf;exact ⟨y.1,by rw [List.getElem?_map,hy];rfl,fuel,y.2,hyd⟩
  ·cases h'
theorem Kq {e:TypeId}(hu:P.underlying T=some (.slice e))(h:Td enc P w T cs d):
  ∃a len cap,cs=[.slice a len cap]∧len≤cap∧∃ds:List (DataW H),ds.length=len∧Rows.uptoBulkAll ds+1≤Rows.uptoBulk d∧
   ((a=none∧len=0∧cap=0)∨∃ad,a=some ad∧∀i,i < len→∃ec di,w.cells? 0 (ad.add (i * P.cellsOf e)) (P.cellsOf e)=some ec∧ds[i]? =some di∧Td enc P w e ec di):=by
 obtain ⟨fuel,ps,h⟩:=h;cases fuel with
 |zero=>simp [DataW.trod] at h
 |succ fuel=>
  simp only [DataW.trod,hu] at h;split at h <;> try (simp_all;done)
  ·refine ⟨none,0,0,rfl,zt _,[],rfl,?_,.inl ⟨rfl,rfl,rfl⟩⟩;exact AFo _
  ·rename_i e' ad len cap he
   simp only [zn,TypeDesc.slice.injEq] at he;subst he;split at h
   ·rename_i hc
    simp only [zaN] at h;obtain ⟨elems,hel,h⟩:=h;simp only [if_true,zaH] at h;obtain ⟨rest,hrest,h⟩:=h;simp only [zah] at h;obtain ⟨rfl,_⟩:=h;have hlen:elems.length=len:=by have:=mapM_len _ _ hel;simpa using this
    refine ⟨some ad,len,cap,rfl,hc.2.1,elems.map (·.1),by rw [zaR,hlen],?_,.inr ⟨ad,rfl,λi hi=>?_⟩⟩
    ·simp only [Rows.uptoBulk];omega
    ·obtain ⟨y,hy,hyd⟩:=JO _ _ hel i i (List.getElem?_range hi);simp only [zaN] at hyd;obtain ⟨ec,h1,h2⟩:=hyd;exact ⟨ec,y.1,h1,by rw [List.getElem?_map,hy];rfl,fuel,y.2,h2⟩
   ·cases h
theorem ADA {e:TypeId}(hu:P.underlying T=some (.slice e))(hn:0 < P.cellsOf e){v:Value}(h:Td enc P w T [v] d):
  ∃cells len ds,SlI (Dh w) (P.cellsOf e) v cells len∧ds.length=len∧Rows.uptoBulkAll ds+1≤Rows.uptoBulk d∧∀i,i < len→∃di,ds[i]? =some di∧Td enc P w e ((cells.drop (i * P.cellsOf e)).take (P.cellsOf e)) di:=by
 obtain ⟨a,len,cap,hcs,hle,ds,hds,hb,h2⟩:=Kq hu h;simp only [zaQ,and_true] at hcs;subst hcs;clear h;have h:=h2;generalize hN:P.cellsOf e=n at *;rcases h with ⟨rfl,rfl,rfl⟩|⟨ad,rfl,h⟩
 ·exact ⟨[],0,ds,SlI.nil _ _ _ _,hds,hb,λi hi=>by omega⟩
 ·by_cases h0:len=0
  ·subst h0;exact ⟨[],0,ds,SlI.nil _ _ _ _,hds,hb,λi hi=>by omega⟩
  ·have hcell:∀i,i < len→∀j,j < n→∃u,w.cell? ((ad.add (i * n)).add j)=some u:=by
    intro i hi j hj;obtain ⟨ec,_,hec,_⟩:=h i hi;unfold World.cells? at hec;split at hec
    ·obtain ⟨y,_,hy⟩:=JO _ _ hec j j (List.getElem?_range hj);exact ⟨y,hy⟩
    ·cases hec
   obtain ⟨u0,hu0⟩:=hcell 0 zo 0 hn;obtain ⟨b,off,sp⟩:=ad;have hsp:sp=none∧∃c T' fr,w.heap[b]? =some (.cells c T' fr):=by
    simp only [Addr.add,Nat.zero_mul,if_true] at hu0;unfold World.cell? at hu0;split at hu0
    ·rename_i c T' fr hb
     simp only at hu0 hb
     cases sp with
     |none=>exact ⟨rfl,c,T',fr,hb⟩
     |some s=>simp at hu0
    ·cases hu0
   obtain ⟨rfl,c,T',fr,hblk⟩:=hsp;have hget:∀i,i < len→∀j,j < n→∃u,c[off+i * n+j]? =some u:=by
    intro i hi j hj;obtain ⟨u,hu⟩:=hcell i hi j hj;rw [Cm,Cm] at hu;simp only [World.cell?,hblk] at hu;exact ⟨u,by simpa using hu⟩
   have hlast:=hget (len - 1) zo (n - 1) zo;obtain ⟨ul,hul⟩:=hlast;have hsz:off+len * n≤c.size:=by
    have:=(zV.1 hul).1;have e1:(len - 1) * n+n=len * n:=by rw [←Nat.succ_mul];congr 1;omega
    omega
   have hclen:((c.toList.drop off).take (len * n)).length=len * n:=by
    rw [zB,zZ,Array.length_toList];omega
   refine ⟨(c.toList.drop off).take (len * n),len,ds,⟨hclen,_,cap,rfl,hle,λ_=>⟨b,off,c,T',fr,rfl,hblk,λj u hu=>?_⟩⟩,hds,hb,λi hi=>?_⟩
   ·rw [zaE] at hu;split at hu
    ·rw [zax] at hu;simpa using hu
    ·cases hu
   ·obtain ⟨ec,di,hec,hdi,htr⟩:=h i hi;have:((((c.toList.drop off).take (len * n)).drop (i * n)).take n)=ec:=by
     unfold World.cells? at hec;split at hec
     ·apply List.ext_getElem?
      intro j;have hln:=mapM_len _ _ hec;simp only [List.length_range] at hln;have hin:i * n+n≤len * n:=by rw [←Nat.succ_mul];exact zaB n hi
      by_cases hj:j < n
      ·obtain ⟨y,hy,hcy⟩:=JO _ _ hec j j (List.getElem?_range hj);rw [hy,zaE,if_pos hj,zax,zaE,if_pos zo,zax];rw [Cm,Cm] at hcy;simp only [World.cell?,hblk] at hcy;simp only [Array.getElem?_toList];rw [show off+(i * n+j)=off+i * n+j from by omega];simpa using hcy
      ·rw [zaE,if_neg hj];rw [List.getElem?_eq_none zo]
     ·cases hec
    rw [this];exact ⟨di,hdi,htr⟩
theorem PZ {α:Type}{R:α→List Value→Prop}{μ:α→Nat}{n:Nat}:∀(ds:List (DataW H)) (cells:List Value),cells.length=ds.length * n→(∀i di,ds[i]? =some di→∃x,R x ((cells.drop (i * n)).take n)∧μ x≤Rows.uptoBulk di)→∃xs:List α,xs.length=ds.length∧Recs R n xs cells∧(xs.map μ).sum≤Rows.uptoBulkAll ds
 |[],cells,hl,_=>⟨[],rfl,zQ (by simpa using hl),by simp [Rows.uptoBulkAll]⟩
 |d::ds,cells,hl,h=>by
  obtain ⟨x,hx,hm⟩:=h 0 d rfl;simp only [Nat.zero_mul,List.drop_zero] at hx;have hl':cells.length=ds.length * n+n:=by rw [hl,zf,zaA];omega
  obtain ⟨xs,hxl,hR,hs⟩:=PZ (R:=R) (μ:=μ) (n:=n) ds (cells.drop n) (by rw [zZ];omega) (λi di hi=>by
   obtain ⟨y,hy,hm⟩:=h (i+1) di (by simpa using hi);refine ⟨y,?_,hm⟩;rw [List.drop_drop];rwa [show n+i * n=(i+1) * n from by rw [zaA];omega])
  exact ⟨x::xs,by simp [hxl],⟨by rw [zB];omega,hx,hR⟩,by simp only [zG,zai,Rows.uptoBulkAll];omega⟩
theorem AHH {α:Type}{R:Imm→α→List Value→Prop}{μ:α→Nat}{e:TypeId}(hu:P.underlying T=some (.slice e))(hn:0 < P.cellsOf e){v:Value}(h:Td enc P w T [v] d)(hR:∀c di,Rows.uptoBulk di < Rows.uptoBulk d→Td enc P w e c di→∃x,R (Dh w) x c∧μ x≤Rows.uptoBulk di):
  ∃xs:List α,RL R (P.cellsOf e) (Dh w) [] v xs∧(xs.map μ).sum+1≤Rows.uptoBulk d:=by
 obtain ⟨cells,len,ds,hS,hds,hb,hT⟩:=ADA hu hn h;subst hds;obtain ⟨xs,hxl,hRR,hs⟩:=PZ (R:=R (Dh w)) (μ:=μ) ds cells hS.1 (λi di hi=>by
  obtain ⟨d2,h1,h2⟩:=hT i (by exact (zaj.1 hi).1);rw [hi] at h1;simp only [zn] at h1;subst h1;exact hR _ _ (by have:=Qc hi;omega) h2)
 rw [←hxl] at hS;exact ⟨xs,RL.ofI hS hRR,by omega⟩
end
structure TStep where
 fDo:Int
 fB:Bs
 fO:TOut
 fE:Int
instance:Inhabited TStep:=⟨⟨0,[],default,0⟩⟩
theorem VM {α:Type}{R:α→List Value→Prop}{Q:α→Prop}{n:Nat}:∀{xs:List α} {cs:List Value},Recs (λx c=>R x c∧Q x) n xs cs→Recs R n xs cs∧∀x∈xs,Q x
 |[],cs,h=>⟨h,nofun⟩
 |x::xs,cs,⟨h1,h2,h3⟩=>by
  obtain ⟨g1,g2⟩:=VM h3;exact ⟨⟨h1,h2.1,g1⟩,λy hy=>by
   rcases zX.1 hy with rfl|hy
   ·exact h2.2
   ·exact g2 y hy⟩
theorem ALo {α:Type}{R:Imm→α→List Value→Prop}{Q:α→Prop}{n:Nat}{I:Imm}{v:Value}{xs:List α}(h:RL (λI x c=>R I x c∧Q x) n I [] v xs):RL R n I [] v xs∧∀x∈xs,Q x:=by
 obtain ⟨a,cap,cells,h1,h2,h3,h4⟩:=h;obtain ⟨g1,g2⟩:=VM h4;exact ⟨⟨a,cap,cells,h1,h2,h3,g1⟩,g2⟩
section
variable {H:Type}{enc:TypeId×Value→H}{W:World}{cs:List Value}{d:DataW H}
theorem FK {P:Program}{w:World}{T:TypeId}{fs:Array Field}(hu:P.underlying T=some (.struct fs)){ds:List (DataW H)}(hf:∀(i:Nat) (f:Field),fs.toList[i]? =some f→∃di,ds[i]? =some di∧Td enc P w f.type ((cs.drop f.offset).take (P.cellsOf f.type)) di)(i:Nat){f:Field}(hi:fs.toList[i]? =some f){di:DataW H}(hdi:ds[i]? =some di){n:Nat}(hn:P.cellsOf f.type=n):Td enc P w f.type ((cs.drop f.offset).take n) di:=by
 obtain ⟨d2,h1,h2⟩:=hf i f hi;rw [hdi] at h1;simp only [zn] at h1;subst h1;subst hn;exact h2
theorem Kr {α:Type}{R:Imm→α→List Value→Prop}{Q:α→Prop}{μ:α→Nat}{T:TypeId}(e:TypeId){n:Nat}(hu:Tryz.prog.underlying T=some (.slice e))(hn:Tryz.prog.cellsOf e=n)(h0:0 < n){v:Value}(h:Td enc Tryz.prog W T [v] d)(hR:∀c di,Rows.uptoBulk di < Rows.uptoBulk d→Td enc Tryz.prog W e c di→∃x,(R (Dh W) x c∧Q x)∧μ x≤Rows.uptoBulk di):
  ∃xs:List α,RL R n (Dh W) [] v xs∧(∀x∈xs,Q x)∧(xs.map μ).sum+1≤Rows.uptoBulk d:=by
 subst hn;obtain ⟨xs,h1,h2⟩:=AHH (R:=λI x c=>R I x c∧Q x) hu h0 h hR;obtain ⟨g1,g2⟩:=ALo h1;exact ⟨xs,g1,g2,h2⟩
theorem ABK (h:Td enc Tryz.prog W 62 cs d):∃x:TValue,cs=[.int .i64 x.fType,.bool x.fNull,.int .i64 x.fInt,.string ⟨x.fText.toArray⟩]∧okI x.fInt∧x.fText.length+1≤Rows.uptoBulk d:=by
 obtain ⟨hl,ds,rfl,hdl,hf⟩:=Jc Tryz.underlying62 h;rw [show Tryz.prog.cellsOf 62=4 by kernel_rfl] at hl;obtain ⟨c0,c1,c2,c3,rfl⟩:∃c0 c1 c2 c3,cs=[c0,c1,c2,c3]:=by
  match cs,hl with
  |[c0,c1,c2,c3],_=>exact ⟨c0,c1,c2,c3,rfl⟩
 obtain ⟨d0,d1,d2,d3,rfl⟩:∃d0 d1 d2 d3,ds=[d0,d1,d2,d3]:=by
  match ds,(show ds.length=4 from hdl) with
  |[d0,d1,d2,d3],_=>exact ⟨d0,d1,d2,d3,rfl⟩
 clear hl hdl h;obtain ⟨n0,e0,w0⟩:=MJ (k:=.i64) (by kernel_rfl) (cs:=[c0]) (FK (di:=d0) Tryz.underlying62 hf 0 rfl rfl (n:=1) (by kernel_rfl));simp only [zaQ,and_true] at e0;subst e0;obtain ⟨n1,e1⟩:=AHI (by kernel_rfl) (cs:=[c1]) (FK (di:=d1) Tryz.underlying62 hf 1 rfl rfl (n:=1) (by kernel_rfl));simp only [zaQ,and_true] at e1;subst e1;obtain ⟨n2,e2,w2⟩:=MJ (k:=.i64) (by kernel_rfl) (cs:=[c2]) (FK (di:=d2) Tryz.underlying62 hf 2 rfl rfl (n:=1) (by kernel_rfl));simp only [zaQ,and_true] at e2;subst e2;obtain ⟨n3,e3,w3⟩:=XH (by kernel_rfl) (cs:=[c3]) (FK (di:=d3) Tryz.underlying62 hf 3 rfl rfl (n:=1) (by kernel_rfl));simp only [zaQ,and_true] at e3;subst e3;refine ⟨⟨n0,n1,n2,n3⟩,rfl,wf_i64 w2,?_⟩;simp only [Rows.uptoBulk,Rows.uptoBulkAll];omega
theorem AMJ (h:Td enc Tryz.prog W 144 cs d):∃x:TField,TFieldV (Dh W) x cs∧Xn x≤Rows.uptoBulk d:=by
 obtain ⟨hl,ds,rfl,hdl,hf⟩:=Jc Tryz.underlying144 h;rw [show Tryz.prog.cellsOf 144=2 by kernel_rfl] at hl;obtain ⟨c0,c1,rfl⟩:∃c0 c1,cs=[c0,c1]:=by
  match cs,hl with
  |[c0,c1],_=>exact ⟨c0,c1,rfl⟩
 obtain ⟨d0,d1,rfl⟩:∃d0 d1,ds=[d0,d1]:=by
  match ds,(show ds.length=2 from hdl) with
  |[d0,d1],_=>exact ⟨d0,d1,rfl⟩
 clear hl hdl h;obtain ⟨n0,e0,w0⟩:=XH (by kernel_rfl) (cs:=[c0]) (FK (di:=d0) Tryz.underlying144 hf 0 rfl rfl (n:=1) (by kernel_rfl));simp only [zaQ,and_true] at e0;subst e0;obtain ⟨n1,e1,w1⟩:=MJ (k:=.i64) (by kernel_rfl) (cs:=[c1]) (FK (di:=d1) Tryz.underlying144 hf 1 rfl rfl (n:=1) (by kernel_rfl));simp only [zaQ,and_true] at e1;subst e1;refine ⟨⟨n0,n1⟩,rfl,?_⟩;simp only [Xn,Rows.uptoBulk,Rows.uptoBulkAll];omega
theorem AOo (h:Td enc Tryz.prog W 62 cs d):∃x:TValue,(VlV (Dh W) x cs∧okI x.fInt)∧mVl x≤Rows.uptoBulk d:=by
 obtain ⟨x,h1,h2,h3⟩:=ABK h;exact ⟨x,⟨h1,h2⟩,h3⟩
theorem AHl (h:Td enc Tryz.prog W 111 cs d):∃r:List TValue,(MC VlV 4 (Dh W) r cs∧∀v∈r,okI v.fInt)∧MW r≤Rows.uptoBulk d:=by
 obtain ⟨a,len,cap,rfl,_⟩:=Kq (e:=62) (by kernel_rfl) h;obtain ⟨xs,h1,h2,h3⟩:=Kr (R:=VlV) (Q:=λv=>okI v.fInt) (μ:=mVl) 62 (by kernel_rfl) (n:=4) (by kernel_rfl) zx h (λc di _ hc=>AOo hc);exact ⟨xs,⟨⟨_,rfl,h1⟩,h2⟩,h3⟩
theorem ADB {T:TypeId}(hu:Tryz.prog.underlying T=some (.slice 5)){v:Value}(h:Td enc Tryz.prog W T [v] d):∃l:Bs,Bytes (Dh W) v l∧l.length+1≤Rows.uptoBulk d:=by
 obtain ⟨cells,len,ds,hS,hds,hb,hT⟩:=ADA hu (show 0 < Tryz.prog.cellsOf 5 by decide+kernel) h;have h1:Tryz.prog.cellsOf 5=1:=by kernel_rfl
 rw [h1] at hS hT;subst hds;obtain ⟨xs,hxl,hR,hs⟩:=PZ (R:=λ(x:UInt8) c=>c=[.int .u8 x.toNat]) (μ:=λ_=>1) (n:=1) ds cells hS.1 (λi di hi=>by
  obtain ⟨d2,h1,h2⟩:=hT i (by exact (zaj.1 hi).1);rw [hi] at h1;simp only [zn] at h1;subst h1;obtain ⟨n,e,hw⟩:=MJ (k:=.u8) (by kernel_rfl) h2;have:=wf_u8 hw;refine ⟨UInt8.ofNat n.toNat,?_,AFo _⟩;rw [e];have:((UInt8.ofNat n.toNat).toNat:Int)=n:=by simp;omega
  rw [this])
 have hc:∀(xs:List UInt8) (cells:List Value),Recs (λ(x:UInt8) c=>c=[.int .u8 x.toNat]) 1 xs cells→cells=u8s xs:=by
  intro xs;induction xs with
  |nil=>intro cells h;exact h
  |cons x xs ih=>
   intro cells h;obtain ⟨g1,g2,g3⟩:=h;have:=ih _ g3;rw [←zaf 1 cells,g2,this];rfl
 have:=hc xs cells hR;subst this;rw [←hxl] at hS;refine ⟨xs,hS,?_⟩;have hl:∀ys:List UInt8,(ys.map λ_=>1).sum=ys.length:=by
  intro ys;induction ys with
  |nil=>rfl
  |cons x ys ih=>simp only [zG,zai,zf,ih];omega
 have h2:=hl xs;have h3:(xs.map λ_=>1).sum≤Rows.uptoBulkAll ds:=hs;rw [h2] at h3;omega
theorem ALt (h:Td enc Tryz.prog W 42 cs d):∃x:TOut,(TOutV (Dh W) x cs∧VY x)∧Nu x≤Rows.uptoBulk d:=by
 obtain ⟨hl,ds,rfl,hdl,hf⟩:=Jc Tryz.underlying42 h;rw [show Tryz.prog.cellsOf 42=5 by kernel_rfl] at hl;obtain ⟨c0,c1,c2,c3,c4,rfl⟩:∃c0 c1 c2 c3 c4,cs=[c0,c1,c2,c3,c4]:=by
  match cs,hl with
  |[c0,c1,c2,c3,c4],_=>exact ⟨c0,c1,c2,c3,c4,rfl⟩
 obtain ⟨d0,d1,d2,d3,d4,rfl⟩:∃d0 d1 d2 d3 d4,ds=[d0,d1,d2,d3,d4]:=by
  match ds,(show ds.length=5 from hdl) with
  |[d0,d1,d2,d3,d4],_=>exact ⟨d0,d1,d2,d3,d4,rfl⟩
 clear hl hdl h;obtain ⟨a0,l0,k0,e0,_⟩:=Kq (e:=371) (by kernel_rfl) (cs:=[c0]) (FK (di:=d0) Tryz.underlying42 hf 0 rfl rfl (n:=1) (by kernel_rfl));simp only [zaQ,and_true] at e0;subst e0;obtain ⟨a1,l1,k1,e1,_⟩:=Kq (e:=373) (by kernel_rfl) (cs:=[c1]) (FK (di:=d1) Tryz.underlying42 hf 1 rfl rfl (n:=1) (by kernel_rfl));simp only [zaQ,and_true] at e1;subst e1;obtain ⟨n2,h2,q2,w2⟩:=Kr (R:=TFieldV) (Q:=λ_=>True) (μ:=Xn) 144 (by kernel_rfl) (n:=2) (by kernel_rfl) zx (v:=c2) (FK (di:=d2) Tryz.underlying42 hf 2 rfl rfl (n:=1) (by kernel_rfl)) (λc di _ hc=>by obtain ⟨x,g1,g2⟩:=AMJ hc;exact ⟨x,⟨g1,trivial⟩,g2⟩);obtain ⟨n3,h3,q3,w3⟩:=Kr (R:=(MC VlV 4)) (Q:=λr=>∀v∈r,okI v.fInt) (μ:=MW) 111 (by kernel_rfl) (n:=1) (by kernel_rfl) zx (v:=c3) (FK (di:=d3) Tryz.underlying42 hf 3 rfl rfl (n:=1) (by kernel_rfl)) (λc di _ hc=>AHl hc);obtain ⟨n4,e4,w4⟩:=XH (by kernel_rfl) (cs:=[c4]) (FK (di:=d4) Tryz.underlying42 hf 4 rfl rfl (n:=1) (by kernel_rfl));simp only [zaQ,and_true] at e4;subst e4;refine ⟨⟨n2,n3,n4⟩,⟨⟨_,_,_,_,rfl,rfl,rfl,h2,h3⟩,q3⟩,?_⟩;simp only [Nu,Rows.uptoBulk,Rows.uptoBulkAll];omega
end
section
variable {P:Program}{ω:Om}{K:Value→M}{I:Imm}{L:LH}
theorem WB {f:FuncId}{args cap:Array Value}(he:CS P f=true)(h:Cal P ω f (args++cap) K I L):CalV P ω (.func (.func f) #[] cap) args K I L:=by
 unfold CalV;simp only [he,if_true];simpa using h
end
theorem CalV.to {P:Program}{ω:Om}{K:Value→M}{I:Imm}{L:LH}{x:Value}{args:Array Value}(L':LH)[hs:SubP L' L](h:CalV P ω x args K I L'):CalV P ω x args K I L:=by
 have key:∀w,St ω w I L→St ω w I L':=λw hw=>by
  obtain ⟨R,hR⟩:=hs.sub;exact (hw.perm hR).drop (List.sublist_append_left L' R)
 match x,h with
 | .func (.func f) first cap,h=>
  simp only [CalV] at h ⊢;by_cases he:CS P f=true
  ·rw [if_pos he] at h ⊢;exact λw hw=>h w (key w hw)
  ·rw [if_neg he] at h ⊢;cases hx:QO P f with
   |none=>rw [hx] at h;exact h.elim
   |some e=>
    rw [hx] at h;exact λw hw=>h w (key w hw)
 | .func (.yield l) first cap,h=>exact λw hw=>h w (key w hw)
abbrev DV (n:Int):Obj:=.cells [.int .i64 n].toArray 3 (0,0)
abbrev doV (b1 b2:Nat):Value:=.func (.func 197) #[] #[Ac b1,Ac b2]
abbrev doO (b1 b2:Nat):Obj:=.cells [doV b1 b2].toArray 277 (0,0)
abbrev inV (bd bi:Nat):Value:=.func (.func 237) #[] #[Ac bd,Ac bi]
abbrev inO (bd bi:Nat):Obj:=.cells [inV bd bi].toArray 277 (0,0)
def mxI (a b:Int):Int:=if b > a then b else a
theorem ALx (a b:Int):mxI a b=max a b:=by unfold mxI;omega
section
variable {ω:Om}{K:Value→M}{I:Imm}{F:LH}
theorem AIU {b1 b2:Nat}{p d n:Int}{c:List Value}(hc:c.length=11)(hp:0≤p∧p≤1000000000000000000)(hk:K (.tuple #[]) I ((b1,DV (p+1))::(b2,DV (max d n))::F)):
  CW ω (doV b1 b2) #[.agg c.toArray,.int .i64 n] K I ((b1,DV p)::(b2,DV d)::F):=by
 refine WB (by kernel_rfl) ?_;refine ANh ?_;show ADp ω (.agg c.toArray) (.int .i64 n) (Ac b1) (Ac b2) _ I _;unfold ADp;refine Am (λb=>?_);rw [←ALx] at hk;unfold mxI at hk;repeat' (first|refine zqa ?_|refine zqh (λ_=>?_)|refine zqr ?_|refine zqb ?_|refine zqi ?_ ?_|refine zqc ?_|refine zqg (λ_=>?_) (λ_=>?_)|(simp only [SSd,Nat.reduceAdd,wrap_i64 (p+1) zo]))
 exact zAG _ (zAA hk)
theorem VQ {l:List Ex}{k:Nat}(h:k < l.length):Ad (l.take (k+1))=Ad (l.take k)+Aj l[k]:=by
 rw [zg h,DK];simp [Ad]
theorem IG:∀a b:List Ex,Bq (a++b)=max (Bq a) (Bq b)
 |[],b=>by simp [Bq]
 |x::a,b=>by simp only [zau,Bq,IG a b];omega
theorem YA {l:List Ex}{k:Nat}(h:k < l.length):Bq (l.take (k+1))=max (Bq (l.take k)) (Gj l[k]):=by
 rw [zg h,IG];simp [Bq]
theorem ACU (x:Ex):1≤Gj x:=by cases x;simp [Gj]
theorem RZ (x:Ex):1≤Aj x:=by cases x;simp [Aj]
theorem Rf {x:Ex}:∀{l:List Ex},x∈l→Aj x≤Ad l
 |y::l,h=>by
  rcases zX.1 h with rfl|h
  ·simp only [Ad];omega
  ·have:=Rf h;simp only [Ad];omega
mutual
theorem QR:∀x:Ex,Gj x≤Aj x
 | .mk _ _ _ _ _ _ _ l=>by simp only [Gj,Aj];have:=Nb l;omega
theorem Nb:∀l:List Ex,Bq l≤Ad l
 |[]=>by simp [Bq]
 |x::l=>by simp only [Bq,Ad];have:=QR x;have:=Nb l;omega
end
theorem Xg (x:Ex):Aj x=Ad x.args+1:=by cases x;rfl
theorem ACT (x:Ex):Gj x=Bq x.args+1:=by cases x;rfl
theorem AAk {b1 b2 bd bi:Nat}:∀(m:Nat) (x:Ex),Aj x≤m→∀(p d n:Int) (c:List Value) (K:Value→M) (I:Imm) (F:LH),ExV I x c→0≤p→p+Aj x≤1000000000000000000→0≤n→n+Gj x≤1000000000000000000→
  K (.tuple #[]) I ((b1,DV (p+Aj x))::(b2,DV (max d (n+Gj x - 1)))::(bd,doO b1 b2)::(bi,inO bd bi)::F)→
  CW ω (inV bd bi) #[.agg c.toArray,.int .i64 n] K I ((b1,DV p)::(b2,DV d)::(bd,doO b1 b2)::(bi,inO bd bi)::F)
 |0,x,hm,_,_,_,_,_,_,_,_,_,_,_,_,_=>by have:=RZ x;omega
 |m+1,x,hm,p,d,n,c,K,I,F,hx,hp,hpx,hn,hnx,hk=>by
  refine WB (by kernel_rfl) ?_;refine ANF ?_;show ADn ω (.agg c.toArray) (.int .i64 n) (Ac bd) (Ac bi) _ I _;have hcl:=hx.len;obtain ⟨v,rfl,ha⟩:=ExV.iff.1 hx;unfold ADn;refine Am (λb=>?_);try refine zqe ?_
  refine rdb ?_;refine rdB rfl ?_;refine SN ?_;refine CalV.to ((b1,DV p)::(b2,DV d)::(b,.cells (BX x v).toArray 65 (0,0))::(bd,doO b1 b2)::(bi,inO bd bi)::F) ?_;refine AIU hcl ⟨hp,by omega⟩ ?_;try refine zqe ?_
  refine rdb ?_;simp only [zAQ ha,SSd,Nat.reduceAdd];have h1:=Xg x;have h2:=ACT x;refine loop (λq s I' L'=>∃k:Nat,k+q=x.args.length∧s=(.int .i64 k,())∧I'=I∧L'=(b1,DV (p+1+Ad (x.args.take k)))::(b2,DV (max (max d n) (n+Bq (x.args.take k))))::(b,.cells (BX x v).toArray 65 (0,0))::(bd,doO b1 b2)::(bi,inO bd bi)::F) x.args.length ⟨0,by omega,rfl,rfl,by rw [show p+1+((Ad (x.args.take 0):Nat):Int)=p+1 by simp [Ad],show max (max d n) (n+((Bq (x.args.take 0):Nat):Int))=max d n by simp only [List.take_zero,Bq];omega]⟩ ?_;rintro q s I' L' ⟨k,hkq,rfl,rfl,rfl⟩;unfold Yo;try refine zqe ?_
  have hle:x.args.length≤Ad x.args:=by
   generalize x.args=l;induction l with
   |nil=>simp
   |cons y l ih=>have:=RZ y;simp only [Ad,zf];omega
  refine AP (λhb=>?_) (λhb=>?_)
  ·have hb:k < x.args.length:=by
    have:=of_decide_eq_true hb;omega
   obtain ⟨bt,off,c1,g1,gl,g2,g3⟩:=RL.ix ha (i:=k) zo zo;rw [BH hb] at g2;have hcl1:=ExV.len g2;have hm1:=Rf (zaG hb);have hone:=ExV.one g2;simp only [g1,SSd,Nat.reduceAdd];refine Tz (g3 _ [] (zAC _) (λ_ h=>h)) (zAC _) hcl1 ?_;refine Am (λb3=>?_);refine stB hcl1 rfl hone ?_;refine rdb ?_;refine rdB hcl1 ?_;simp only [wrap_i64 (n+1) zo,SSd,Nat.reduceAdd];refine SN ?_;refine CalV.to ((b1,DV (p+1+Ad (x.args.take k)))::(b2,DV (max (max d n) (n+Bq (x.args.take k))))::(bd,doO b1 b2)::(bi,inO bd bi)::(b3,.cells c1.toArray 65 (0,0))::(b,.cells (BX x v).toArray 65 (0,0))::F) ?_;have htk:=VQ hb;have htd:=YA hb;have hts:Ad (x.args.take (k+1))≤Ad x.args:=by
    have h:=DK (x.args.take (k+1)) (x.args.drop (k+1));rw [zaf] at h;omega
   have hdl:Gj x.args[k]≤Bq x.args:=by
    have h:=IG (x.args.take (k+1)) (x.args.drop (k+1));rw [zaf] at h;omega
   refine AAk m x.args[k] zo _ _ (n+1) c1 _ _ _ g2 zo zo zo zo ?_;simp only [wrap_i64 ((k:Int)+1) zo,SSd,Nat.reduceAdd];rw [←show p+1+(Ad (x.args.take (k+1)):Int)=p+1+Ad (x.args.take k)+Aj x.args[k] by omega,←show max (max d n) (n+(Bq (x.args.take (k+1)):Int))=max (max (max d n) (n+Bq (x.args.take k))) (n+1+Gj x.args[k] - 1) by omega];refine zAG ((b1,DV (p+1+Ad (x.args.take (k+1))))::(b2,DV (max (max d n) (n+Bq (x.args.take (k+1)))))::(b,.cells (BX x v).toArray 65 (0,0))::(bd,doO b1 b2)::(bi,inO bd bi)::F) ?_;exact zAA ⟨q - 1,by omega,k+1,by omega,rfl,rfl,rfl⟩
  ·have hb:¬k < x.args.length:=by
    have:=of_decide_eq_false hb;omega
   have hkl:x.args.take k=x.args:=zY zo;rw [hkl];rw [←show p+(Aj x:Int)=p+1+Ad x.args by omega,←show max d (n+(Gj x:Int) - 1)=max (max d n) (n+Bq x.args) by omega];exact zAG ((b1,DV (p+Aj x))::(b2,DV (max d (n+Gj x - 1)))::(bd,doO b1 b2)::(bi,inO bd bi)::F) (zAA hk)
end
def GL (I:Imm)(X:LH)(v:Value)(xs:List Ex):Prop:=∃cells,GrO I 65 11 X v cells xs.length∧Recs (ExV I) 11 xs cells
theorem GL.mono {I I':Imm}{X:LH}{v:Value}{xs:List Ex}(h:GL I X v xs)(hI:Ext I I'):GL I' X v xs:=by
 obtain ⟨cells,h1,h2⟩:=h;exact ⟨cells,h1.mono hI,Recs.imp (λ_ _ h=>ExV.mono hI h) h2⟩
theorem GL.rl {I:Imm}{X L:LH}{v:Value}{xs:List Ex}(h:GL I X v xs)(hL:∀x∈X,x∈L):RL ExV 11 I L v xs:=by
 obtain ⟨cells,h1,h2⟩:=h;obtain ⟨a,k,rfl,hle⟩:=h1.form;exact ⟨a,k,cells,rfl,hle,h1.news hL,h2⟩
section
variable {ω:Om}{K:Value→M}{I:Imm}{F:LH}
instance splitNil (L:LH):SplitL [] L L:=⟨List.Perm.refl _⟩
theorem Gf {X L:LH}[SplitL X L F]{z:Array Value}{xs ys:List Ex}{s x:Value}(hz:z.size=11)(hG:GL I X s xs)(hy:ExL I x ys)(hb:xs.length+ys.length≤1000000000000)(hk:∀X' v',GL I X' v' (xs++ys)→K v' I (X'++F)):
  App 65 11 128 z s x (gh K) I L:=by
 obtain ⟨cells,h1,h2⟩:=hG;obtain ⟨c,s4,r4⟩:=RL.toI zx hy;refine AOh (X:=X) hz h1 s4.news (Recs.one_cells (λ_ _ h=>ExV.one h) r4) zo zo (λX' v' h=>hk X' v' ⟨_,by rw [zk];exact h,Recs.append h2 r4⟩)
theorem Qe {z:Array Value}{x:Ex}{c:List Value}(hx:ExV I x c)(hk:∀I' a,Ext I I'→ExL I' (.slice a 1 1) [x]→Gh (K (.slice a 1 1)) I' F):AB 65 11 z 1 [(0,.agg c.toArray)] (gh K) I F:=
 Eu (R:=ExV) [x] [c] rfl rfl rfl (by simp [hx.len]) (by simpa using hx) (λhI h=>ExV.mono hI h) hk
theorem AMM {X:LH}{vs w:Value}{p2 p4:Value}{ys:List TItem}{xs:List Ex}(hy:RL TItemV 14 I [] vs ys)(hG:GL I X w xs)(hb:xs.length+ys.length≤1000000000000)
  (hk:∀I' X' w',Ext I I'→GL I' X' w' (xs++ys.map λy=>y.fExpr)→TV ω p2 p4 w' K I' (X'++F)):
  Aw ((w,.int .i64 0,()):Value×Value×Unit) (λs Kn=>TW ω p2 p4 vs (.int .i64 ys.length) s.1 s.2.1 Kn K) I (X++F):=by
 refine loop (λq st I' L'=>∃k X' v',k+q=ys.length∧st=(v',.int .i64 (k:Nat),())∧Ext I I'∧GL I' X' v' (xs++(ys.take k).map λy=>y.fExpr)∧L'=X'++F) ys.length ⟨0,X,w,by omega,rfl,zAC _,by simpa using hG,rfl⟩ ?_;rintro q st I' L' ⟨k,X',v',hkq,rfl,hI',hG',rfl⟩;unfold TW;try refine zqe ?_
 refine AP (λhb=>?_) (λhb=>?_)
 ·have hb:k < ys.length:=by
   have:=of_decide_eq_true hb;omega
  obtain ⟨bt,off,c1,g1,gl,g2,g3⟩:=RL.ix hy (i:=k) zo zo;rw [BH hb] at g2;obtain ⟨v0,rfl,h0⟩:=g2.mono hI';simp only [g1,SSd,Nat.reduceAdd];refine Tz (g3 _ [] hI' (λ_ h=>h)) (zAC _) rfl ?_;refine Am (λb3=>?_);obtain ⟨a0,k0,rfl⟩:=zAH h0;refine stB rfl rfl (Ak rfl) ?_;try refine zqe ?_
  refine rdP _ rfl rfl ?_;refine Qe (x:=ys[k].fExpr) (ExV.iff.2 ⟨_,rfl,h0⟩) (λI2 a2 hI2 hw2=>zAA ?_);refine Gf (X:=X') rfl (hG'.mono hI2) hw2 zu (λX3 w3 hG3=>?_);simp only [wrap_i64 ((k:Int)+1) zo,SSd,Nat.reduceAdd];refine zAG (X3++F) (zAA ⟨q - 1,by omega,k+1,X3,w3,by omega,rfl,zAB hI' hI2,?_,rfl⟩);rw [zg hb,zM,←zi];exact hG3
 ·have hb:¬k < ys.length:=by
   have:=of_decide_eq_false hb;omega
  rw [zY zo] at hG';exact hk I' X' v' hI' hG'
theorem AML {X:LH}{vs w:Value}{p2 p4:Value}{ys:List TSource}{xs:List Ex}(hy:RL TSourceV 14 I [] vs ys)(hG:GL I X w xs)(hb:xs.length+ys.length≤1000000000000)
  (hk:∀I' X' w',Ext I I'→GL I' X' w' (xs++ys.map λy=>y.fOn)→TT ω p2 p4 w' K I' (X'++F)):
  Aw ((w,.int .i64 0,()):Value×Value×Unit) (λs Kn=>TU ω p2 p4 vs (.int .i64 ys.length) s.1 s.2.1 Kn K) I (X++F):=by
 refine loop (λq st I' L'=>∃k X' v',k+q=ys.length∧st=(v',.int .i64 (k:Nat),())∧Ext I I'∧GL I' X' v' (xs++(ys.take k).map λy=>y.fOn)∧L'=X'++F) ys.length ⟨0,X,w,by omega,rfl,zAC _,by simpa using hG,rfl⟩ ?_;rintro q st I' L' ⟨k,X',v',hkq,rfl,hI',hG',rfl⟩;unfold TU;try refine zqe ?_
 refine AP (λhb=>?_) (λhb=>?_)
 ·have hb:k < ys.length:=by
   have:=of_decide_eq_true hb;omega
  obtain ⟨bt,off,c1,g1,gl,g2,g3⟩:=RL.ix hy (i:=k) zo zo;rw [BH hb] at g2;obtain ⟨v0,rfl,h0⟩:=g2.mono hI';simp only [g1,SSd,Nat.reduceAdd];refine Tz (g3 _ [] hI' (λ_ h=>h)) (zAC _) rfl ?_;refine Am (λb3=>?_);obtain ⟨a0,k0,rfl⟩:=zAH h0;refine stB rfl rfl (Ak rfl) ?_;try refine zqe ?_
  refine rdP _ rfl rfl ?_;refine Qe (x:=ys[k].fOn) (ExV.iff.2 ⟨_,rfl,h0⟩) (λI2 a2 hI2 hw2=>zAA ?_);refine Gf (X:=X') rfl (hG'.mono hI2) hw2 zu (λX3 w3 hG3=>?_);simp only [wrap_i64 ((k:Int)+1) zo,SSd,Nat.reduceAdd];refine zAG (X3++F) (zAA ⟨q - 1,by omega,k+1,X3,w3,by omega,rfl,zAB hI' hI2,?_,rfl⟩);rw [zg hb,zM,←zi];exact hG3
 ·have hb:¬k < ys.length:=by
   have:=of_decide_eq_false hb;omega
  rw [zY zo] at hG';exact hk I' X' v' hI' hG'
theorem AMK {X:LH}{vs w:Value}{p2 p4:Value}{ys:List TOrder}{xs:List Ex}(hy:RL TOrderV 12 I [] vs ys)(hG:GL I X w xs)(hb:xs.length+ys.length≤1000000000000)
  (hk:∀I' X' w',Ext I I'→GL I' X' w' (xs++ys.map λy=>y.fExpr)→TR ω p2 p4 w' K I' (X'++F)):
  Aw ((w,.int .i64 0,()):Value×Value×Unit) (λs Kn=>TS ω p2 p4 vs (.int .i64 ys.length) s.1 s.2.1 Kn K) I (X++F):=by
 refine loop (λq st I' L'=>∃k X' v',k+q=ys.length∧st=(v',.int .i64 (k:Nat),())∧Ext I I'∧GL I' X' v' (xs++(ys.take k).map λy=>y.fExpr)∧L'=X'++F) ys.length ⟨0,X,w,by omega,rfl,zAC _,by simpa using hG,rfl⟩ ?_;rintro q st I' L' ⟨k,X',v',hkq,rfl,hI',hG',rfl⟩;unfold TS;try refine zqe ?_
 refine AP (λhb=>?_) (λhb=>?_)
 ·have hb:k < ys.length:=by
   have:=of_decide_eq_true hb;omega
  obtain ⟨bt,off,c1,g1,gl,g2,g3⟩:=RL.ix hy (i:=k) zo zo;rw [BH hb] at g2;obtain ⟨v0,rfl,h0⟩:=g2.mono hI';simp only [g1,SSd,Nat.reduceAdd];refine Tz (g3 _ [] hI' (λ_ h=>h)) (zAC _) rfl ?_;refine Am (λb3=>?_);obtain ⟨a0,k0,rfl⟩:=zAH h0;refine stB rfl rfl (Ak rfl) ?_;try refine zqe ?_
  refine rdP _ rfl rfl ?_;refine Qe (x:=ys[k].fExpr) (ExV.iff.2 ⟨_,rfl,h0⟩) (λI2 a2 hI2 hw2=>zAA ?_);refine Gf (X:=X') rfl (hG'.mono hI2) hw2 zu (λX3 w3 hG3=>?_);simp only [wrap_i64 ((k:Int)+1) zo,SSd,Nat.reduceAdd];refine zAG (X3++F) (zAA ⟨q - 1,by omega,k+1,X3,w3,by omega,rfl,zAB hI' hI2,?_,rfl⟩);rw [zg hb,zM,←zi];exact hG3
 ·have hb:¬k < ys.length:=by
   have:=of_decide_eq_false hb;omega
  rw [zY zo] at hG';exact hk I' X' v' hI' hG'
theorem AIS {X:LH}{vs w:Value}{p2 p4:Value}{ys:List TSet}{xs:List Ex}(hy:RL TSetV 12 I [] vs ys)(hG:GL I X w xs)(hb:xs.length+ys.length≤1000000000000)
  (hk:∀I' X' w',Ext I I'→GL I' X' w' (xs++ys.map λy=>y.fExpr)→PL ω p2 p4 w' K I' (X'++F)):
  Aw ((w,.int .i64 0,()):Value×Value×Unit) (λs Kn=>PM ω p2 p4 vs (.int .i64 ys.length) s.1 s.2.1 Kn K) I (X++F):=by
 refine loop (λq st I' L'=>∃k X' v',k+q=ys.length∧st=(v',.int .i64 (k:Nat),())∧Ext I I'∧GL I' X' v' (xs++(ys.take k).map λy=>y.fExpr)∧L'=X'++F) ys.length ⟨0,X,w,by omega,rfl,zAC _,by simpa using hG,rfl⟩ ?_;rintro q st I' L' ⟨k,X',v',hkq,rfl,hI',hG',rfl⟩;unfold PM;try refine zqe ?_
 refine AP (λhb=>?_) (λhb=>?_)
 ·have hb:k < ys.length:=by
   have:=of_decide_eq_true hb;omega
  obtain ⟨bt,off,c1,g1,gl,g2,g3⟩:=RL.ix hy (i:=k) zo zo;rw [BH hb] at g2;obtain ⟨v0,rfl,h0⟩:=g2.mono hI';simp only [g1,SSd,Nat.reduceAdd];refine Tz (g3 _ [] hI' (λ_ h=>h)) (zAC _) rfl ?_;refine Am (λb3=>?_);obtain ⟨a0,k0,rfl⟩:=zAH h0;refine stB rfl rfl (Ak rfl) ?_;try refine zqe ?_
  refine rdP _ rfl rfl ?_;refine Qe (x:=ys[k].fExpr) (ExV.iff.2 ⟨_,rfl,h0⟩) (λI2 a2 hI2 hw2=>zAA ?_);refine Gf (X:=X') rfl (hG'.mono hI2) hw2 zu (λX3 w3 hG3=>?_);simp only [wrap_i64 ((k:Int)+1) zo,SSd,Nat.reduceAdd];refine zAG (X3++F) (zAA ⟨q - 1,by omega,k+1,X3,w3,by omega,rfl,zAB hI' hI2,?_,rfl⟩);rw [zg hb,zM,←zi];exact hG3
 ·have hb:¬k < ys.length:=by
   have:=of_decide_eq_false hb;omega
  rw [zY zo] at hG';exact hk I' X' v' hI' hG'
theorem AIR {X:LH}{vs w:Value}{p4:Value}{ys:List TCol}{xs:List Ex}(hy:RL TColV 16 I [] vs ys)(hG:GL I X w xs)(hb:xs.length+ys.length≤1000000000000)
  (hk:∀I' X' w',Ext I I'→GL I' X' w' (xs++ys.map λy=>y.fDefault)→LD ω p4 w' K I' (X'++F)):
  Aw ((w,.int .i64 0,()):Value×Value×Unit) (λs Kn=>PK ω p4 vs (.int .i64 ys.length) s.1 s.2.1 Kn K) I (X++F):=by
 refine loop (λq st I' L'=>∃k X' v',k+q=ys.length∧st=(v',.int .i64 (k:Nat),())∧Ext I I'∧GL I' X' v' (xs++(ys.take k).map λy=>y.fDefault)∧L'=X'++F) ys.length ⟨0,X,w,by omega,rfl,zAC _,by simpa using hG,rfl⟩ ?_;rintro q st I' L' ⟨k,X',v',hkq,rfl,hI',hG',rfl⟩;unfold PK;try refine zqe ?_
 refine AP (λhb=>?_) (λhb=>?_)
 ·have hb:k < ys.length:=by
   have:=of_decide_eq_true hb;omega
  obtain ⟨bt,off,c1,g1,gl,g2,g3⟩:=RL.ix hy (i:=k) zo zo;rw [BH hb] at g2;obtain ⟨v0,rfl,h0⟩:=g2.mono hI';simp only [g1,SSd,Nat.reduceAdd];refine Tz (g3 _ [] hI' (λ_ h=>h)) (zAC _) rfl ?_;refine Am (λb3=>?_);obtain ⟨a0,k0,rfl⟩:=zAH h0;refine stB rfl rfl (Ak rfl) ?_;try refine zqe ?_
  refine rdP _ rfl rfl ?_;refine Qe (x:=ys[k].fDefault) (ExV.iff.2 ⟨_,rfl,h0⟩) (λI2 a2 hI2 hw2=>zAA ?_);refine Gf (X:=X') rfl (hG'.mono hI2) hw2 zu (λX3 w3 hG3=>?_);simp only [wrap_i64 ((k:Int)+1) zo,SSd,Nat.reduceAdd];refine zAG (X3++F) (zAA ⟨q - 1,by omega,k+1,X3,w3,by omega,rfl,zAB hI' hI2,?_,rfl⟩);rw [zg hb,zM,←zi];exact hG3
 ·have hb:¬k < ys.length:=by
   have:=of_decide_eq_false hb;omega
  rw [zY zo] at hG';exact hk I' X' v' hI' hG'
theorem AIT {X:LH}{vs w:Value}{p2 p4:Value}{ys:List (List Ex)}{xs:List Ex}(hy:RL (MC ExV 11) 1 I [] vs ys)(hyl:ys.length≤1000000000000)(hG:GL I X w xs)(hb:xs.length+ys.flatten.length≤1000000000000)
  (hk:∀I' X' w',Ext I I'→GL I' X' w' (xs++ys.flatten)→PN ω p2 p4 w' K I' (X'++F)):
  Aw ((w,.int .i64 0,()):Value×Value×Unit) (λs Kn=>PO ω p2 p4 vs (.int .i64 ys.length) s.1 s.2.1 Kn K) I (X++F):=by
 refine loop (λq st I' L'=>∃k X' v',k+q=ys.length∧st=(v',.int .i64 (k:Nat),())∧Ext I I'∧GL I' X' v' (xs++(ys.take k).flatten)∧L'=X'++F) ys.length ⟨0,X,w,by omega,rfl,zAC _,by simpa using hG,rfl⟩ ?_;rintro q st I' L' ⟨k,X',v',hkq,rfl,hI',hG',rfl⟩;unfold PO;try refine zqe ?_
 refine AP (λhb=>?_) (λhb=>?_)
 ·have hb:k < ys.length:=by
   have:=of_decide_eq_true hb;omega
  obtain ⟨bt,off,c1,g1,gl,g2,g3⟩:=RL.ix hy (i:=k) zo zo;rw [BH hb] at g2;obtain ⟨v0,rfl,h0⟩:=LstX.mono g2 hI';simp only [g1,SSd,Nat.reduceAdd];refine rdC (g3 _ [] hI' (λ_ h=>h) 0 _ rfl) (zAC _) ?_;have hfl:(ys.take (k+1)).flatten=(ys.take k).flatten++ys[k]:=by rw [zg hb,List.flatten_append];simp only [zbr,List.flatten_nil,zaK]
  have hle:(ys.take (k+1)).flatten.length≤ys.flatten.length:=by
   have h:ys.flatten=(ys.take (k+1)).flatten++(ys.drop (k+1)).flatten:=by rw [←List.flatten_append,zaf]
   rw [h,zk];omega
  rw [hfl,zk] at hle;refine Gf (X:=X') rfl hG' h0 (by simp only [zk];omega) (λX3 w3 hG3=>?_);simp only [wrap_i64 ((k:Int)+1) zo,SSd,Nat.reduceAdd];refine zAG (X3++F) (zAA ⟨q - 1,by omega,k+1,X3,w3,by omega,rfl,hI',?_,rfl⟩);rw [hfl,←zi];exact hG3
 ·have hb:¬k < ys.length:=by
   have:=of_decide_eq_false hb;omega
  rw [zY zo] at hG';exact hk I' X' v' hI' hG'
def CB (x:Ex):Bool:=x.kind != 0
def AGu (s:TStmt):List Ex:=[s.fWhere,s.fSelect.fWhere,s.fSelect.fHaving]++s.fSelect.fGroup++s.fSelect.fItems.map (λy=>y.fExpr)++s.fSelect.fFrom.map (λy=>y.fOn)++s.fSelect.fOrder.map (λy=>y.fExpr)++s.fRows.flatten++s.fSets.map (λy=>y.fExpr)++s.fCols.map (λy=>y.fDefault)
theorem YQ (s:TStmt):Ad ((AGu s).filter CB)=Ad (FZ s)∧Bq ((AGu s).filter CB)=Bq (FZ s):=by
 have e:∀l:List Ex,l.filter (λx=>x.kind != 0)=l.filter CB:=λl=>rfl;have c:∀(x:Ex) (l:List Ex),x::l=[x]++l:=λ_ _=>rfl;simp only [FZ,e,AGu];rw [c s.fWhere,c s.fSelect.fWhere [s.fSelect.fHaving],c s.fSelect.fWhere [_,_],c s.fSelect.fHaving [_]];simp only [List.filter_append,DK,IG];constructor
 ·omega
 ·ac_rfl
theorem AIQ {X:LH}{y:Nat×Obj}{b1 b2 bd bi:Nat}{w:Value}{xs:List Ex}{p d:Int}(hG:GL I X w xs)(hp:0≤p)(hd:0≤d)(hpx:p+Ad (xs.filter CB)≤100000000000000000)(hlen:xs.length≤1000000000000)
  (hk:Gh (K (.tuple #[])) I ((b1,DV (p+Ad (xs.filter CB)))::(b2,DV (max d (Bq (xs.filter CB))))::F)):
  LD ω (Ac bi) w (λv=>Gh (K v)) I (X++((bi,inO bd bi)::(bd,doO b1 b2)::y::(b1,DV p)::(b2,DV d)::F)):=by
 unfold LD;have hR:RL ExV 11 I X w xs:=hG.rl (λ_ h=>h);simp only [zAQ hR,SSd,Nat.reduceAdd];refine loop (λq s I' L'=>∃k:Nat,k+q=xs.length∧s=(.int .i64 k,())∧I'=I∧L'=X++((bi,inO bd bi)::(bd,doO b1 b2)::y::(b1,DV (p+Ad ((xs.take k).filter CB)))::(b2,DV (max d (Bq ((xs.take k).filter CB))))::F)) xs.length ⟨0,by omega,rfl,rfl,by
  rw [show p+((Ad ((xs.take 0).filter CB):Nat):Int)=p by simp [Ad],show max d ((Bq ((xs.take 0).filter CB):Nat):Int)=d by simp only [List.take_zero,List.filter_nil,Bq];omega]⟩ ?_
 rintro q s I' L' ⟨k,hkq,rfl,rfl,rfl⟩;unfold Uw;try refine zqe ?_
 refine AP (λhb=>?_) (λhb=>?_)
 ·have hb:k < xs.length:=by
   have:=of_decide_eq_true hb;omega
  obtain ⟨bt,off,c1,g1,gl,g2,g3⟩:=RL.ix hR (i:=k) zo zo;rw [BH hb] at g2;have hts:=zg hb;have hple:Ad ((xs.take (k+1)).filter CB)≤Ad (xs.filter CB):=by
   have h:xs.filter CB=(xs.take (k+1)).filter CB++(xs.drop (k+1)).filter CB:=by rw [←List.filter_append,zaf]
   rw [h,DK];omega
  have hstep:∀{Y:LH},SubP (X++((bi,inO bd bi)::(bd,doO b1 b2)::y::(b1,DV (p+Ad ((xs.take (k+1)).filter CB)))::(b2,DV (max d (Bq ((xs.take (k+1)).filter CB))))::F)) Y→LC ω (.int .i64 k) (λs'=>Gh λI2 L2=>∃m',m' < q∧∃k:Nat,k+m'=xs.length∧s'=(.int .i64 k,())∧I2=I'∧L2=X++((bi,inO bd bi)::(bd,doO b1 b2)::y::(b1,DV (p+Ad ((xs.take k).filter CB)))::(b2,DV (max d (Bq ((xs.take k).filter CB))))::F)) (λv=>Gh (K v)) I' Y:=by
   intro Y hY;unfold LC;simp only [wrap_i64 ((k:Int)+1) zo,SSd,Nat.reduceAdd];exact zAG _ (zAA ⟨q - 1,by omega,k+1,by omega,rfl,rfl,rfl⟩)
  obtain ⟨v0,rfl,h0⟩:=ExV.iff.1 g2;simp only [g1,SSd,Nat.reduceAdd];refine rdN rfl (g3 _ _ (zAC _) (λx hx=>by simp [hx])) ?_;refine Am (λb3=>?_);obtain ⟨a0,k0,rfl⟩:=zAH h0;refine stB rfl rfl (Ak rfl) ?_;try refine zqe ?_
  refine rdb ?_;try refine zqe ?_
  refine AP (λht=>?_) (λht=>?_)
  ·have ht':CB xs[k]=true:=ht;rw [hts,List.filter_append,List.filter_cons_of_pos ht',List.filter_nil,DK,IG] at hstep;rw [hts,List.filter_append,List.filter_cons_of_pos ht',List.filter_nil,DK] at hple;simp only [Ad,Bq] at hstep hple;refine rdb ?_;refine rdB rfl ?_;refine SN ?_;refine CalV.to ((b1,DV (p+Ad ((xs.take k).filter CB)))::(b2,DV (max d (Bq ((xs.take k).filter CB))))::(bd,doO b1 b2)::(bi,inO bd bi)::(X++(y::F))) ?_;have hdp:=QR xs[k];have hdpos:=ACU xs[k];refine AAk _ xs[k] (zt _) _ _ 1 _ _ _ _ g2 zo zo zo zo ?_;refine hstep ?_;rw [show p+((Ad ((xs.take k).filter CB)+(Aj xs[k]+0):Nat):Int)=p+Ad ((xs.take k).filter CB)+Aj xs[k] by omega,show max d ((max (Bq ((xs.take k).filter CB)) (max (Gj xs[k]) 0):Nat):Int)=max (max d (Bq ((xs.take k).filter CB))) (1+Gj xs[k] - 1) by omega];infer_instance
  ·have ht':¬CB xs[k]=true:=by
    intro h;rw [show (xs[k].kind != 0)=true from h] at ht;cases ht
   rw [hts,List.filter_append,List.filter_cons_of_neg ht',List.filter_nil,zaK] at hstep;exact hstep inferInstance
 ·have hb:¬k < xs.length:=by
   have:=of_decide_eq_false hb;omega
  rw [zY zo];exact zAG _ hk
theorem ACQ {b1 b2:Nat}{p d:Int}{s:TStmt}{c:List Value}(hs:TStmtV I s c)(hcnt:cS s≤1000000000)(hp:0≤p)(hd:0≤d)(hpx:p+Ad (FZ s)≤100000000000000000)
  (hk:∀I',Ext I I'→K (.tuple #[]) I' ((b1,DV (p+Ad (FZ s)))::(b2,DV (max d (Bq (FZ s))))::F)):
  CT ω 196 #[.agg c.toArray,doV b1 b2] K I ((b1,DV p)::(b2,DV d)::F):=by
 obtain ⟨v0,v1,v2,v3,v4,v5,v6,v7,v8,v9,v10,v11,v12,rfl,h0,h1,h2,h3,h4,h5,h6,h7,h8,h9,h10,h11,h12⟩:=hs;obtain ⟨a0,k0,rfl⟩:=zAH h0;obtain ⟨a1,k1,rfl⟩:=zAH h1;obtain ⟨a2,k2,rfl⟩:=zAH h2;obtain ⟨a3,k3,rfl⟩:=zAH h3;obtain ⟨a4,k4,rfl⟩:=zAH h4;obtain ⟨a5,k5,rfl⟩:=zAH h5;obtain ⟨a7,k7,rfl⟩:=zAH h7;obtain ⟨a8,k8,rfl⟩:=zAH h8;obtain ⟨a9,k9,rfl⟩:=zAH h9;obtain ⟨a10,k10,rfl⟩:=zAH h10;simp only [cS,cQ] at hcnt;refine ANi ?_;unfold AJu;refine Am (λbs=>?_);refine Am (o:=doO b1 b2) (λbd=>?_);refine Am (λbi=>?_);refine st1 rfl ?_;try refine zqe ?_
 refine rdP _ rfl rfl ?_;refine rdP _ rfl rfl ?_;refine rdP _ rfl rfl ?_;refine Eu (R:=ExV) [s.fWhere,s.fSelect.fWhere,s.fSelect.fHaving] [_,_,_] rfl rfl rfl zy (by
  intro q hq;simp only [List.zip_cons_cons,List.zip_nil_right,zX,zaT,or_false] at hq;rcases hq with rfl|rfl|rfl
  ·exact ExV.iff.2 ⟨_,rfl,h9⟩
  ·exact ExV.iff.2 ⟨_,rfl,h2⟩
  ·exact ExV.iff.2 ⟨_,rfl,h4⟩) (λhI h=>ExV.mono hI h) (λI1 aw hI1 hw1=>zAA ?_)
 obtain ⟨c1,s1,r1⟩:=RL.toI zx hw1;have hG1:GL I1 [] (.slice aw 3 3) [s.fWhere,s.fSelect.fWhere,s.fSelect.fHaving]:=⟨c1,.inr ⟨rfl,⟨aw,rfl⟩,s1⟩,r1⟩;refine rdb ?_;refine Gf (X:=[]) rfl hG1 (zAM h3 hI1) zL (λX2 w2 hG2=>?_);refine rdb ?_;simp only [zAQ h0,SSd,Nat.reduceAdd];refine AMM (X:=X2) (zAL (λ_ _ h=>TItemV.mono h hI1) h0 hI1 (λ_ h=>h)) hG2 zL (λI3 X3 w3 hI3 hG3=>?_);unfold TV;try refine zqe ?_
 refine rdb ?_;try refine zqe ?_
 have hI13:=zAB hI1 hI3;refine AML (X:=X3) (zAL (λ_ _ h=>TSourceV.mono h hI13) h1 hI13 (λ_ h=>h)) hG3 (by simp only [zU,zaR];omega) (λI4 X4 w4 hI4 hG4=>?_);unfold TT;try refine zqe ?_
 refine rdb ?_;try refine zqe ?_
 have hI14:=zAB hI13 hI4;refine AMK (X:=X4) (zAL (λ_ _ h=>TOrderV.mono h hI14) h5 hI14 (λ_ h=>h)) hG4 (by simp only [zU,zaR];omega) (λI5 X5 w5 hI5 hG5=>?_);unfold TR;try refine zqe ?_
 refine rdb ?_;try refine zqe ?_
 have hI15:=zAB hI14 hI5;refine AIT (X:=X5) (zAL (λ_ _ h=>LstX.mono h hI15) h7 hI15 (λ_ h=>h)) zo hG5 (by simp only [zU,zaR];omega) (λI6 X6 w6 hI6 hG6=>?_);unfold PN;try refine zqe ?_
 refine rdb ?_;try refine zqe ?_
 have hI16:=zAB hI15 hI6;refine AIS (X:=X6) (zAL (λ_ _ h=>TSetV.mono h hI16) h8 hI16 (λ_ h=>h)) hG6 (by simp only [zU,zaR];omega) (λI7 X7 w7 hI7 hG7=>?_);unfold PL;try refine zqe ?_
 refine rdb ?_;try refine zqe ?_
 have hI17:=zAB hI16 hI7;refine AIR (X:=X7) (zAL (λ_ _ h=>TColV.mono h hI17) h10 hI17 (λ_ h=>h)) hG7 (by simp only [zU,zaR];omega) (λI8 X8 w8 hI8 hG8=>?_);have hI18:=zAB hI17 hI8;have hA:([s.fWhere,s.fSelect.fWhere,s.fSelect.fHaving]++s.fSelect.fGroup++s.fSelect.fItems.map (λy=>y.fExpr)++s.fSelect.fFrom.map (λy=>y.fOn)++s.fSelect.fOrder.map (λy=>y.fExpr)++s.fRows.flatten++s.fSets.map (λy=>y.fExpr)++s.fCols.map (λy=>y.fDefault))=AGu s:=rfl;rw [hA] at hG8;have hlen:(AGu s).length≤1000000000000:=by simp only [←hA,zU,zaR];omega
 obtain ⟨q1,q2⟩:=YQ s;refine AIQ hG8 hp hd (by rw [q1];exact hpx) hlen ?_;rw [q1,q2];exact zAA (hk I8 hI18)
end
theorem VR {l:List TStmt}{k:Nat}(h:k < l.length):BG (l.take (k+1))=BG (l.take k)+KH l[k]:=by
 rw [zg h];simp only [BG,zM,zaL,zG,zak,zai,zaC,Nat.add_zero]
theorem SA:∀a b:List TStmt,EH (a++b)=max (EH a) (EH b)
 |[],b=>by simp [EH]
 |x::a,b=>by simp only [zau,EH,SA a b];omega
theorem YB {l:List TStmt}{k:Nat}(h:k < l.length):EH (l.take (k+1))=max (EH (l.take k)) (AFb l[k]):=by
 rw [zg h,SA];simp [EH]
theorem ABl {l:List TStmt}(k:Nat):BG (l.take k)≤BG l:=by
 have h:BG l=BG (l.take k)+BG (l.drop k):=by
  unfold BG;rw [←zaL,←zM,zaf]
 omega
theorem Pj:∀l:List TStmt,l.length≤BG l
 |[]=>zaw _
 |s::l=>by
  have:=Pj l;simp only [BG,zG,zai,zf,KH] at this ⊢;omega
section
variable {ω:Om}
theorem ABT {I:Imm}{L:LH}{K:Value→M}{v:Value}{l:List TStmt}(hl:RL TStmtV 51 I [] v l)(hp:BG l≤1000000000)(hc:∀s∈l,cS s≤1000000000)
  (hk:∀I',Ext I I'→K (.tuple #[.int .i64 (BG l:Nat),.int .i64 (EH l:Nat)]) I' L):CT ω 156 #[v] K I L:=by
 refine ANy ?_;unfold AKK;simp only [zAQ hl,SSd,Nat.reduceAdd];refine Am (λb1=>?_);refine Am (λb2=>?_);refine st1 rfl ?_;refine st1 rfl ?_;have hlen:=Pj l;refine loop (λq st I' L'=>∃k:Nat,k+q=l.length∧st=(.int .i64 k,())∧Ext I I'∧L'=(b2,DV (EH (l.take k)))::(b1,DV (BG (l.take k)+(l.length - k)))::L) l.length ⟨0,by omega,rfl,zAC _,?_⟩ ?_
 ·rw [show ((BG (l.take 0):Nat):Int)+((l.length:Int) - (0:Nat))=l.length by simp [BG]];rfl
 rintro q st I' L' ⟨k,hkq,rfl,hI',rfl⟩;unfold ZY;try refine zqe ?_
 refine AP (λhb=>?_) (λhb=>?_)
 ·have hb:k < l.length:=by
   have:=of_decide_eq_true hb;omega
  obtain ⟨bt,off,c1,g1,gl,g2,g3⟩:=RL.ix hl (i:=k) zo zo;rw [BH hb] at g2;have g2:=g2.mono hI';have hone:=TStmtV.one g2;simp only [g1,SSd,Nat.reduceAdd];refine Tz (g3 _ [] hI' (λ_ h=>h)) (zAC _) gl ?_;refine Am (λb3=>?_);refine stB gl rfl hone ?_;refine rdB gl ?_;refine call ?_;have hcs:=hc _ (zaG hb);have hpk:=VR hb;have hdk:=YB hb;have hle:=ABl (l:=l) (k+1);have e1:KH l[k]=Ad (FZ l[k])+1:=rfl;refine Cal.to ((b1,DV (BG (l.take k)+(l.length - k)))::(b2,DV (EH (l.take k)))::L) ?_;refine ACQ g2 hcs zo zo zo (λI2 hI2=>?_);simp only [wrap_i64 ((k:Int)+1) zo,SSd,Nat.reduceAdd];rw [show (BG (l.take k):Int)+((l.length:Int) - k)+Ad (FZ l[k])=BG (l.take (k+1))+((l.length:Int) - (k+1:Nat)) by omega,show max (EH (l.take k):Int) (Bq (FZ l[k]))=EH (l.take (k+1)) by rw [hdk];simp only [AFb];omega];exact zAG ((b2,DV (EH (l.take (k+1))))::(b1,DV (BG (l.take (k+1))+(l.length - (k+1:Nat))))::L) (zAA ⟨q - 1,by omega,k+1,by omega,rfl,zAB hI' hI2,rfl⟩)
 ·have hb:¬k < l.length:=by
   have:=of_decide_eq_false hb;omega
  have hkl:l.take k=l:=zY zo;rw [hkl,show (BG l:Int)+((l.length:Int) - k)=BG l by omega];unfold ZX;repeat' (first|refine zqa ?_|refine zqh (λ_=>?_)|refine zqr ?_|refine zqb ?_|refine zqi ?_ ?_|refine zqc ?_|refine zqg (λ_=>?_) (λ_=>?_)|refine zqe ?_|fail)
  exact zAG _ (zAA (hk I' hI'))
theorem AFJ:Qi ω:=by
 intro v l K I L hl hp hc hk;refine AOL ?_;unfold AKW;refine call (ABT hl hp hc (λI' hI'=>?_));have hk:=hk I' hI';unfold UJ at hk;try refine zqe ?_
 refine AP (λhb=>?_) (λhb=>?_)
 ·have hb:=of_decide_eq_true hb;rw [if_pos zo] at hk;exact zAA hk
 ·have hb:=of_decide_eq_false hb;rw [if_neg zo] at hk;try refine zqe ?_
  refine AP (λhb2=>?_) (λhb2=>?_)
  ·have hb2:=of_decide_eq_true hb2;rw [if_pos zo] at hk;exact zAA hk
  ·have hb2:=of_decide_eq_false hb2;rw [if_neg zo] at hk;exact zAA hk
end
def wtext:Bs:=[97,110,100,32,97,115,32,97,115,99,32,98,101,103,105,110,32,98,101,116,119,101,101,110,32,98,121,32,99,97,115,101,32,99,111,109,109,105,116,32,99,114,101,97,116,101,32,99,114,111,115,115,32,100,101,102,97,117,108,116,32,100,101,108,101,116,101,32,100,101,115,99,32,100,105,115,116,105,110,99,116,32,100,114,111,112,32,101,108,115,101,32,101,110,100,32,102,97,108,115,101,32,102,114,111,109,32,103,114,111,117,112,32,104,97,118,105,110,103,32,105,110,32,105,110,100,101,120,32,105,110,110,101,114,32,105,110,115,101,114,116,32,105,110,116,111,32,105,115,32,106,111,105,110,32,107,101,121,32,108,101,102,116,32,108,105,107,101,32,108,105,109,105,116,32,110,111,116,32,110,117,108,108,32,111,102,102,115,101,116,32,111,110,32,111,114,32,111,114,100,101,114,32,112,114,105,109,97,114,121,32,114,111,108,108,98,97,99,107,32,115,101,108,101,99,116,32,115,101,116,32,116,97,98,108,101,32,116,104,101,110,32,116,114,117,101,32,117,110,105,113,117,101,32,117,112,100,97,116,101,32,118,97,108,117,101,115,32,119,104,101,110,32,119,104,101,114,101]
def spN (c:UInt8):Int:=if (9≤c&&c≤13)||c==32 then 1 else 0
def SpG (G:Imm):Prop:=∀c:UInt8,Cell G [] 6 c.toNat (.int .u8 (spN c))
def trF:Nat→Int×Int×Int
 |0=>(0,1,0)
 |i+1=>let t:=trF i
  let c:=wtext.getD i 0
  (IntKind.i64.wrap (t.1+ES .and .i64 t.2.1 (ES .xor .i64 (if IntKind.i64.signed then -1 else IntKind.i64.max) (IntKind.i64.wrap (spN c)))),IntKind.i64.wrap (spN c),ES .or .u8 t.2.2 c.toNat)
def UD (k:Nat):Nat:=((wordsL.take k).map λw=>w.length+1).sum
def wiF (i:Nat):Nat:=((wtext.take i).filter λc=>spN c==1).length
theorem ALV:(trF wtext.length).1=50∧decide ((trF wtext.length).2.2≥128)=false:=by decide+kernel
theorem ADL:(List.range wtext.length).all (λi=>if spN (wtext.getD i 0)=0 then wiF (i+1)==wiF i else
  decide (wiF i < 49)&&wiF (i+1)==wiF i+1&&decide (UD (wiF i)≤i)&&(wtext.drop (UD (wiF i))).take (i - UD (wiF i))==wordsL.getD (wiF i) []&&i+1==UD (wiF i+1)&&decide (i+1 < wtext.length)&&spN (wtext.getD (i+1) 0)==0)=true:=by decide+kernel
theorem AHN:wiF wtext.length=49∧UD 49 < wtext.length∧wtext.drop (UD 49)=wordsL.getD 49 []:=by decide+kernel
theorem Ws {i:Nat}(h:i < wtext.length):wtext[i]? =some (wtext.getD i 0):=by
 rw [zao h];simp [h]
theorem VB {I:Imm}{X L F:LH}[hsp:SplitL X L F]{T len:Nat}{v u:Value}{cells:List Value}{i:Int}(ho:SlO T 1 X v cells len)(h0:0≤i)(h1:i < len)(hu:u.oneCell'=true):
  ∃b,ixV 1 v (.int .i64 i)=some (.pointer (some ⟨b,i.toNat,none⟩))∧∀K:Value→M,(∀X',SlO T 1 X' v (cells.set i.toNat u) len→K undef I (X'++F))→Sto 1 (.pointer (some ⟨b,i.toNat,none⟩)) u (gh K) I L:=by
 obtain ⟨b,e,_⟩:=AAQ (I:=I) (L:=L) (F:=F) (u:=u) (K:=λ_ _ _=>True) ho h0 h1 hu (λ_ _=>trivial);refine ⟨b,e,λK hk=>?_⟩;obtain ⟨b',e',h⟩:=AAQ (I:=I) (L:=L) (F:=F) (u:=u) (K:=K) ho h0 h1 hu hk;rw [e] at e';simp only [zn,Value.pointer.injEq,Addr.mk.injEq,and_true] at e';rw [e'];exact h
section
variable {ω:Om}
theorem rdG {G I:Imm}{L:LH}{K:Value→M}(hG:SpG G)(hI:Ext G I)(c:UInt8)(hk:K (.int .u8 (spN c)) I L):Rv none (BN (.pointer (some ⟨6,c.toNat * 1,none⟩))) K I L:=by
 refine rd1 ?_ hk;have:=(hG c).mono hI (L':=L) (λ_ h=>by cases h);simpa using this
theorem UK (c:UInt8):MZ 1 256 (.pointer (some ⟨6,0,none⟩)) (.int .u8 c.toNat)=some (.pointer (some ⟨6,c.toNat * 1,none⟩)):=by
 have:=c.toNat_lt;have h2:((c.toNat:Int) < 256):=by omega
 simp [MZ,h2,Addr.add]
theorem UM {G I:Imm}{L:LH}{K:Value→M}(hG:SpG G)(hGI:Ext G I)(hk:∀X v,SlO 9 1 X v (wordsL.map λx=>Value.string ⟨x.toArray⟩) wordsL.length→K v I (X++L)):CT ω 212 #[.string ⟨wtext.toArray⟩] K I L:=by
 refine ANg ?_;unfold AJt;refine loop (λq st I' L'=>∃i:Nat,i+q=wtext.length∧st=(.int .i64 (trF i).1,.int .i64 (trF i).2.1,.int .u8 (trF i).2.2,.int .i64 i,())∧I'=I∧L'=L) wtext.length ⟨0,by omega,rfl,rfl,rfl⟩ ?_;rintro q st I' L' ⟨i,hq,rfl,rfl,rfl⟩;unfold ZM;try refine zqe ?_
 refine AP (λhb=>?_) (λhb=>?_)
 ·have hb:i < wtext.length:=by
   have:=of_decide_eq_true hb;omega
  simp only [ixS wtext (Ws hb),UK,SSd,Nat.reduceAdd];refine rdG hG hGI _ ?_;have hwl:wtext.length≤1000:=by decide+kernel
  simp only [AHB,wrap_i64 ((i:Int)+1) zo,SSd,Nat.reduceAdd];exact zAA ⟨q - 1,by omega,i+1,by omega,by rw [trF];rfl,rfl,rfl⟩
 have hb:¬i < wtext.length:=by
  have:=of_decide_eq_false hb;omega
 obtain rfl:i=wtext.length:=by omega
 unfold ZL;obtain ⟨t1,t2⟩:=ALV;simp only [t1,t2,SSd,Nat.reduceAdd];refine ALz (ln:=50) (cn:=50) zo zo zo (λX v hX=>?_);have h0:∃c,wtext[0]? =some c∧spN c=0:=⟨97,rfl,rfl⟩;obtain ⟨c0,hc0,hs0⟩:=h0;refine loop (λq st I2 L2=>st=(.int .i64 0,())∧I2=I'∧L2=X++L') 0 ⟨rfl,rfl,rfl⟩ ?_;rintro _ st I2 L2 ⟨rfl,rfl,rfl⟩;unfold ZK;simp only [show decide ((0:Int) < (wtext.length:Nat))=true from rfl,SSd,Nat.reduceAdd];simp only [ixS wtext hc0 (a:=0),UK,show (.int .i64 0:Value)= .int .i64 ((0:Nat):Int) from rfl,SSd,Nat.reduceAdd];refine rdG hG hGI _ ?_;simp only [hs0,show ((0:Int) != 0)=false from rfl,SSd,Nat.reduceAdd];unfold TQ;have hwl:wtext.length≤1000:=by decide+kernel
 have hxz:(Builtin.zeroCells #[.string ⟨#[]⟩] 50).toList=(wordsL.take 0).map (λx=>Value.string ⟨x.toArray⟩)++List.replicate (50 - 0) (.string ⟨#[]⟩):=by kernel_rfl
 have hX:SlO 9 1 X v ((wordsL.take 0).map (λx=>Value.string ⟨x.toArray⟩)++List.replicate (50 - 0) (.string ⟨#[]⟩)) 50:=by rw [←hxz];exact hX
 have hw50:wordsL.length=50:=rfl;refine loop (λq st I3 L3=>∃(i:Nat) (X':LH),i+q=wtext.length∧st=(Value.int .i64 (wiF i:Nat),Value.int .i64 (UD (wiF i):Nat),Value.int .i64 (i:Nat),())∧I3=I2∧L3=X'++L'∧wiF i < 50∧UD (wiF i)≤i∧SlO 9 1 X' v ((wordsL.take (wiF i)).map (λx=>Value.string ⟨x.toArray⟩)++List.replicate (50 - wiF i) (.string ⟨#[]⟩)) 50) wtext.length ⟨0,X,by omega,rfl,rfl,rfl,by decide,by decide,hX⟩ ?_;rintro q st I3 L3 ⟨i,X',hq,rfl,rfl,rfl,hk50,hoff,hX'⟩;unfold ZJ;try refine zqe ?_
 refine AP (λhb=>?_) (λhb=>?_)
 ·have hb:i < wtext.length:=by
   have:=of_decide_eq_true hb;omega
  have hst:=zaD.1 ADL i (zaO.2 hb);simp only [ixS wtext (Ws hb),UK,SSd,Nat.reduceAdd];refine rdG hG hGI _ ?_;try refine zqe ?_
  refine AP (λhs=>?_) (λhs=>?_)
  ·have hs:spN (wtext.getD i 0)=0:=by simpa using hs
   rw [if_pos hs] at hst;have hst:wiF (i+1)=wiF i:=by simpa using hst
   simp only [wrap_i64 ((i:Int)+1) zo,SSd,Nat.reduceAdd];exact zAA ⟨q - 1,by omega,i+1,X',by omega,by rw [hst];rfl,rfl,rfl,by rw [hst];exact hk50,by rw [hst];omega,by rw [hst];exact hX'⟩
  ·have hs:¬spN (wtext.getD i 0)=0:=by simpa using hs
   rw [if_neg hs] at hst;simp only [zF,decide_eq_true_eq,beq_iff_eq] at hst;obtain ⟨⟨⟨⟨⟨⟨a1,a2⟩,a3⟩,a4⟩,a5⟩,a6⟩,a7⟩:=hst;simp only [slS wtext a3 (zbv hb),a4,SSd,Nat.reduceAdd];have hkl:wiF i < wordsL.length:=by omega
   have hgd:wordsL.getD (wiF i) []=wordsL[wiF i]:=by simp [hkl]
   have hset:((wordsL.take (wiF i)).map (λx=>Value.string ⟨x.toArray⟩)++List.replicate (50 - wiF i) (Value.string ⟨#[]⟩)).set (wiF i) (.string ⟨(wordsL.getD (wiF i) []).toArray⟩)=(wordsL.take (wiF i+1)).map (λx=>Value.string ⟨x.toArray⟩)++List.replicate (50 - (wiF i+1)) (.string ⟨#[]⟩):=by
    rw [zg hkl,zM,hgd];rw [List.set_append_right _ _ zu];have e1:wiF i - ((wordsL.take (wiF i)).map (λx=>Value.string ⟨x.toArray⟩)).length=0:=by simp;omega
    have e2:50 - wiF i=(50 - (wiF i+1))+1:=by omega
    rw [e1,e2,List.replicate_succ,List.set_cons_zero];simp
   obtain ⟨b',g1,g2⟩:=VB (I:=I3) (L:=X'++L') (F:=L') (u:=.string ⟨(wordsL.getD (wiF i) []).toArray⟩) (i:=(wiF i:Nat)) hX' zo zo rfl;simp only [g1,SSd,Nat.reduceAdd];refine g2 _ (λX5 hX5=>?_);rw [Int.toNat_natCast,hset] at hX5;simp only [wrap_i64 ((i:Int)+1) zo,wrap_i64 ((wiF i:Int)+1) zo,SSd,Nat.reduceAdd];refine loop (λq' st I6 L6=>st=(Value.int .i64 ((i+1:Nat):Int),())∧I6=I3∧L6=X5++L') 0 ⟨rfl,rfl,rfl⟩ ?_;rintro _ st I6 L6 ⟨rfl,rfl,rfl⟩;unfold ZI;have hlt:decide (((i+1:Nat):Int) < (wtext.length:Nat))=true:=decide_eq_true zo;simp only [hlt,ixS wtext (Ws a6),UK,SSd,Nat.reduceAdd];refine rdG hG hGI _ ?_;simp only [a7,show ((0:Int) != 0)=false from rfl,SSd,Nat.reduceAdd];exact zAA ⟨q - 1,by omega,i+1,X5,by omega,by rw [a2,←a5];rfl,rfl,rfl,by rw [a2];omega,by rw [a2,←a5];omega,by rw [a2];exact hX5⟩
 ·have hb:¬i < wtext.length:=by
   have:=of_decide_eq_false hb;omega
  obtain rfl:i=wtext.length:=by omega
  obtain ⟨l1,l2,l3⟩:=AHN;rw [l1] at hX';unfold Uu;simp only [l1,show decide (((UD 49:Nat):Int) < (wtext.length:Nat))=true from decide_eq_true zo,ABS wtext (zbv l2),l3,SSd,Nat.reduceAdd];obtain ⟨b',g1,g2⟩:=VB (I:=I3) (L:=X'++L') (F:=L') (u:=.string ⟨(wordsL.getD 49 []).toArray⟩) (i:=((49:Nat):Int)) hX' zo zo rfl;simp only [g1,SSd,Nat.reduceAdd];refine g2 _ (λX5 hX5=>?_);have hset:((wordsL.take 49).map (λx=>Value.string ⟨x.toArray⟩)++List.replicate (50 - 49) (Value.string ⟨#[]⟩)).set ((49:Nat):Int).toNat (.string ⟨(wordsL.getD 49 []).toArray⟩)=wordsL.map (λx=>Value.string ⟨x.toArray⟩):=rfl;rw [hset] at hX5;exact zAA (hk X5 _ hX5)
theorem Qw (I:Imm):∀l:List Bs,Recs (StrV I) 1 l (l.map λx=>Value.string ⟨x.toArray⟩)
 |[]=>rfl
 |x::l=>⟨rfl,rfl,Qw I l⟩
theorem Ud {G I:Imm}{L:LH}{K:Value→M}(hG:SpG G)(hGI:Ext G I)(hk:∀X v,SlO 9 1 X v (wordsL.map λx=>Value.string ⟨x.toArray⟩) wordsL.length→K v I (X++L)):CT ω 182 #[] K I L:=by
 refine ANw ?_;unfold AKI;exact call (UM hG hGI (λX v hX=>zAA (hk X v hX)))
theorem Wy {G:Imm}(hG:SpG G):AGv ω G:=by
 intro K I L hGI hk;refine zAI (Ud hG hGI (λX v hX=>?_));exact RL.ofO (R:=StrV) (xs:=wordsL) (λ{I I' x c} h hI=>h) hX (Qw I wordsL) (λI6 hI6 hw6=>zAA (hk I6 _ hI6 hw6))
end
def BdS (s:Ses):Prop:=s.left.length≤2097152∧s.stmts.length≤2000∧s.out=[]
theorem ABr (s:Ses)(x:TStmt):(EG s x).left=s.left∧(EG s x).stmts.length≤s.stmts.length:=by
 unfold EG JX DD;repeat' split
 all_goals first
  |exact ⟨(Ar _ _).1,by rw [(Ar _ _).2.1];exact zt _⟩
  |exact ⟨(Ar _ _).1,zaw _⟩
  |exact ⟨rfl,zt _⟩
theorem AFC (s:Ses)(f:TFront):(Hg s f).left.length≤s.left.length∧(s.stmts.length≤2000→(Hg s f).stmts.length≤2000):=by
 unfold Hg;split
 ·exact ⟨by rw [(Ar _ _).1];exact zt _,λh=>by rw [(Ar _ _).2.1];exact h⟩
 split
 ·exact ⟨zaw _,λ_=>zaw _⟩
 split
 ·exact ⟨by unfold Ic;rw [(Ar _ _).1];exact zt _,λh=>by unfold Ic;rw [(Ar _ _).2.1];exact h⟩
 split
 ·unfold UX;have hp:=NR f.fText;split
  ·have hb:∀t:Ses,(BR t).left=t.left∧(BR t).stmts=[]:=λt=>by unfold BR;split <;> exact ⟨rfl,rfl⟩
   refine ⟨?_,λ_=>?_⟩
   ·rw [(hb _).1];unfold BP;rw [(Ar _ _).1];exact zt _
   ·rw [(hb _).2];exact zaw _
  split
  ·exact ⟨by simp only;rw [(Ar _ _).1];exact zt _,λ_=>hp⟩
  ·exact ⟨zt _,λ_=>hp⟩
 ·exact ⟨zaw _,λ_=>zaw _⟩
theorem XY {s t:Ses}(h:Az s=some t):t.left.length≤s.left.length∧(s.stmts.length≤2000→t.stmts.length≤2000):=by
 unfold Az at h;split at h
 ·cases h
 split at h
 ·simp only [zn] at h;subst h;have:=ABr {s with stmts:=s.stmts.tail} (s.stmts.headD default);refine ⟨by rw [this.1];exact zt _,λh=>zaq this.2 ?_⟩;simp only [zaU];omega
 split at h
 ·simp only [zn] at h;subst h;exact ⟨by rw [(Ar _ _).1];exact zt _,λh=>by rw [(Ar _ _).2.1];exact h⟩
 simp only at h
 split at h
 ·cases h
 split at h
 ·simp only [zn] at h;subst h;exact ⟨zaw _,λ_=>zaw _⟩
 ·simp only [zn] at h;subst h;have:=AFC {s with left:=s.left.drop (Ap s.left (s.status==0)).2.1.toNat} (Ap s.left (s.status==0)).1;refine ⟨zaq this.1 ?_,this.2⟩;simp only [zZ];omega
theorem AAm (n:Nat):∀{s:Ses},mu s < n→(goF s).left.length≤s.left.length∧(s.stmts.length≤2000→(goF s).stmts.length≤2000):=by
 induction n with
 |zero=>intro s h;omega
 |succ n ih=>
  intro s hn;rw [Dw];cases hr:Az s with
  |none=>exact ⟨zt _,λh=>h⟩
  |some t=>
   have h1:=Du hr;have h2:=XY hr;have h3:=ih (s:=t) zo;exact ⟨zaq h3.1 h2.1,λh=>h3.2 (h2.2 h)⟩
theorem BdS.feed {s:Ses}(h:BdS s)(b:Bs):BdS (DR s b).1:=by
 unfold DR;split
 ·exact h
 simp only
 split
 ·exact ⟨zaw _,zaw _,rfl⟩
 ·rename_i hl
  have h1:=AAm _ (zaM (mu {s with left:=s.left++b}));exact ⟨zaq h1.1 (by simp only;omega),h1.2 h.2.1,rfl⟩
theorem ACl (dec:Int→Bs)(s:Ses)(o:TOut)(e:Int):(Ba dec s o e).left=s.left∧(Ba dec s o e).stmts.length≤s.stmts.length:=by
 have hb:∀t:Ses,(BR t).left=t.left∧(BR t).stmts=[]:=λt=>by unfold BR;split <;> exact ⟨rfl,rfl⟩
 unfold Ba;simp only
 split
 ·have h2:(if e==0 then BD {s with kind:=0,stmt:=default,own:=false} (Bh dec o) else {s with kind:=0,stmt:=default,own:=false}).left=s.left∧(if e==0 then BD {s with kind:=0,stmt:=default,own:=false} (Bh dec o) else {s with kind:=0,stmt:=default,own:=false}).stmts=s.stmts:=by
   split
   ·exact ⟨(Ar _ _).1,(Ar _ _).2.1⟩
   ·exact ⟨rfl,rfl⟩
  generalize (if e==0 then BD {s with kind:=0,stmt:=default,own:=false} (Bh dec o) else {s with kind:=0,stmt:=default,own:=false})=s2 at h2 ⊢;generalize (if (e==0)=true then (EO (Bh dec o) []).2 else e)=e1;split
  ·refine ⟨?_,by rw [(hb _).2];exact zaw _⟩;rw [(hb _).1];unfold BP;rw [(Ar _ _).1];exact h2.1
  ·exact ⟨h2.1,by rw [h2.2];exact zt _⟩
 split
 ·split
  ·unfold DD;exact ⟨(Ar _ _).1,by rw [(Ar _ _).2.1];exact zt _⟩
  ·exact ⟨rfl,zt _⟩
 ·unfold Gt DD BP;simp only
  repeat' split
  ·exact ⟨(Ar _ _).1,zaw _⟩
  iterate 2
   ·exact ⟨(Ar _ _).1,by rw [(Ar _ _).2.1];exact zt _⟩
theorem BdS.ans {s:Ses}(h:BdS s)(dec:Int→Bs)(o:TOut)(e:Int):BdS (Fe dec s o e).1:=by
 unfold Fe;split
 ·exact h
 ·have h1:=AAm _ (zaM (mu (Ba dec s o e)));have h2:=ACl dec s o e;exact ⟨by refine zaq h1.1 ?_;rw [h2.1];exact h.1,h1.2 (zaq h2.2 h.2.1),rfl⟩
theorem BdS.room {s:Ses}(h:BdS s):Au s≤20000000000000:=by
 obtain ⟨h1,h2,h3⟩:=h;unfold Au mu;rw [h3];have:(if s.query=true then 1 else 0:Nat)≤1:=by split <;> omega
 simp only [zh];omega
theorem BdS.room_add {s:Ses}(h:BdS s)(b:Bs)(hb:b.length≤2097152):(s.left++b).length≤100000000∧Au {s with left:=s.left++b}≤99999980000000:=by
 obtain ⟨h1,h2,h3⟩:=h;unfold Au mu;simp only
 rw [h3];have:(if s.query=true then 1 else 0:Nat)≤1:=by split <;> omega
 simp only [zh,zk];omega
section
variable {ω:Om}{I:Imm}{L F:LH}{K:Value→M}{s:Ses}{b:Nat}{X:LH}
theorem VZ:0 < (DR {pid:=1,secret:=2} [0,0,0,9,0,3,0,0,0]).2.length∧(DR {pid:=1,secret:=2} [0,0,0,9,0,3,0,0,0]).1.status=73:=by decide+kernel
theorem Xq (hk:∀I' v,Ext I I'→Bytes I' v [0,0,0,9,0,3,0,0,0]→K v I' L):CT ω 24 #[] K I L:=by
 refine AQV ?_;unfold APW;refine Lr (n:=1) [.int .u8 0,.int .u8 0,.int .u8 0,.int .u8 9,.int .u8 0,.int .u8 3,.int .u8 0,.int .u8 0,.int .u8 0] rfl rfl (by simp [Value.cells]) (λI1 a hI1 hS=>zAA ?_);exact zAA (hk I1 _ hI1 hS)
theorem YN {G:Imm}(hTok:EE ω G)(hLim:Qi ω)(hG:Ext G I)(hk:∀I',Ext I I'→K (.bool true) I' L):CT ω 7 #[] K I L:=by
 refine AQt ?_;unfold sh7;refine call (KL 1 2 zo zo (λb X hS=>?_));simp only [show ((0:Int) != 0)=false from rfl,SSd,Nat.reduceAdd];refine call (Xq (λI1 v hI1 hv=>?_));have hb:BdS {pid:=1,secret:=2}:=⟨zaw _,zaw _,rfl⟩;obtain ⟨r1,r2⟩:=hb.room_add [0,0,0,9,0,3,0,0,0] zx;refine call (Ry (X:=X) hTok hLim (zAB hG hI1) (hS.mono hI1) hv r1 r2 (λI2 X2 v2 hI2 hS2 hv2=>?_));refine call (JC (X:=X2) hS2 ?_);obtain ⟨a1,a2⟩:=VZ;rw [a2];have hd:decide ((0:Int) < ((DR {pid:=1,secret:=2} [0,0,0,9,0,3,0,0,0]).2.length:Nat))=true:=decide_eq_true zo;simp only [hv2.len,hd,show ((73:Int)==73)=true from rfl,SSd,Nat.reduceAdd];exact zAG L (zAA (hk I2 (zAB hI1 hI2)))
end
section
variable {ω:Om}{I:Imm}{L F:LH}{K:Value→M}{s:Ses}{b:Nat}{X:LH}
end
open Go.ChangeShapes
section
variable {H:Type}{enc:TypeId×Value→H}
theorem handed_cond_and {a:Assume}{C:Checked}{os:Os}{f:FuncId}{fn:Func}{s:OpenSpec}{k:(H:Type)→List (DataW H)→Bool}(hk:s.cond=some k){F:Stop.Interp}{conds:List PathCond}{apart fresh handsOn again:Bool}{X:World→Array Value→Prop}
  (hX:∀(w w':World) (args:Array Value),w.heap=w'.heap→X w args→X w' args)
  (own:ownKnob C.prog.godebug=none) (started:os.Started) (noInit:C.prog.inits.idxOf? f=none) (hfn:C.prog.funcs[f]? =some fn)
  (witness:∃(w:World) (tape:Tape) (i:Input),w.os=os∧(w.forCall tape i).Shaped C.prog∧i.vars=[]∧Input.okWide C.prog (w.forCall tape i) .any w.heap.size f i∧
   ((s.pre enc C.prog fn conds apart (w.forCall tape i).memory i.args∧X (w.forCall tape i).memory i.args)∧sizedMet enc C.prog fn s apart (w.forCall tape i).memory i.args)∧a.holds C.prog (lone (Frame.enter C.prog f i.args .normal) [] (w.forCall tape i)))
  (contract:∀(W:World) (base:Nat) (args:Array Value) (ds gs:List (DataW H)) (before:List MemPlace),
   (∀(j:Nat) t v,fn.params[j]? =some t→args[j]? =some v→Value.okWide C.prog W .any base t v)→
   DataW.Whole enc C.prog fn.params.toList s.vars apart W args.toList ds gs before→
   conds.all (PathCond.test C.prog ⟨fn.params.toList,ds,s.bare.plain.varTypes C.prog,gs⟩)=true→k H (ds++gs)=true→X W args→
   a.holds C.prog (lone (Frame.enter C.prog f args .normal) [] W)→
   Calls C.prog f args W λe W'=>∃v,e= .returned v∧(s.at F).post enc C.prog fn apart fresh handsOn again W args v W'):
  ReturnsInHanded a C os f .any (λw args=>(s.pre enc C.prog fn conds apart w args∧X w args)∧sizedMet enc C.prog fn s apart w args) ((s.at F).post enc C.prog fn apart fresh handsOn again):=by
 refine returnsInHanded_of_calls own started noInit witness ?_;intro w tape i _ _ _ hok hpre hholds;obtain ⟨_,_,_,fn',hfn',_,_,_,_,hval⟩:=hok;have e:fn'=fn:=Option.some.inj (hfn'.symm.trans hfn);subst e;obtain ⟨ds,gs,before,hw,hc,hkk⟩:=(OpenSpec.pre_some hk conds apart _ _).1 hpre.1.1;have hw':=DataW.Whole.of_heap (w':=w.forCall tape i) (by rfl) hw;refine (contract (w.forCall tape i) w.heap.size i.args ds gs before hval hw' hc hkk (hX _ _ _ (by rfl) hpre.1.2) hholds).mono λe W' ⟨v,he,hp⟩=>?_;subst he;exact ChangeSpec.post_blind hp
theorem cond_witness {C:Checked}{os:Os}{f:FuncId}{fn:Func}{s:OpenSpec}{k:(H:Type)→List (DataW H)→Bool}(hk:s.cond=some k){conds:List PathCond}{apart:Bool}{X:World→Array Value→Prop}(modest:Bool)(w0:World)(args:Array Value)(fuel:Nat)(hos:w0.os=os)
  (hsh:(w0.forCall (λ_ _=>0) ⟨#[],args,[]⟩).Shaped C.prog)
  (hok:Input.okWideB C.prog (w0.forCall (λ_ _=>0) ⟨#[],args,[]⟩) f ⟨#[],args,[]⟩=true)
  {x:List (DataW H)×List (DataW H)×List MemPlace} (hx:DataW.whole enc C.prog (w0.forCall (λ_ _=>0) ⟨#[],args,[]⟩).memory fn.params.toList s.vars apart args.toList fuel=some x)
  (hconds:conds.all (PathCond.test C.prog ⟨fn.params.toList,x.1,s.bare.plain.varTypes C.prog,x.2.1⟩)=true) (hkk:k H (x.1++x.2.1)=true)
  (hsz:s.bare.sizedB enc C.prog fn apart (w0.forCall (λ_ _=>0) ⟨#[],args,[]⟩).memory args fuel=true)
  (hX:X (w0.forCall (λ_ _=>0) ⟨#[],args,[]⟩).memory args):
  ∃(w:World) (tape:Tape) (i:Input),w.os=os∧(w.forCall tape i).Shaped C.prog∧i.vars=[]∧Input.okWide C.prog (w.forCall tape i) .any w.heap.size f i∧
   ((s.pre enc C.prog fn conds apart (w.forCall tape i).memory i.args∧X (w.forCall tape i).memory i.args)∧sizedMet enc C.prog fn s apart (w.forCall tape i).memory i.args)∧({modest:=modest}:Assume).holds C.prog (lone (Frame.enter C.prog f i.args .normal) [] (w.forCall tape i)):=
 ⟨w0,λ_ _=>0,⟨#[],args,[]⟩,hos,hsh,(Input.okWide_of_okWideB (base:=0) hok).1,(Input.okWide_of_okWideB hok).2,
  ⟨⟨(OpenSpec.pre_some hk conds apart _ _).2 ⟨x.1,x.2.1,x.2.2,DataW.Whole_of_whole hx,hconds,hkk⟩,hX⟩,sizedMet_of_sizedB hsz⟩,by
  simp only [Assume.holds];exact ⟨by simp,by simp,λ_=>Modest.zero,by simp,by simp⟩⟩
end
theorem small_one {H:Type}{d:DataW H}{ds:List (DataW H)}(h:Rows.uptoSmall H ds=true)(hd:d∈ds):Rows.uptoBulk d≤1048576:=by
 unfold Rows.uptoSmall at h;have h:=of_decide_eq_true h;obtain ⟨i,hi⟩:=List.getElem?_of_mem hd;have:=Qc hi;omega
def spTab:List Int:=(List.range 256).map λi=>spN (UInt8.ofNat i)
theorem Uk {P:Program}{W:World}{name:String}{k:IntKind}{zs:List Int}{g:Nat}(h:Lib.TabIs P W name k zs)(hg:P.globalNamed name=some g):∃T fr,Dh W g=some (.cells (zs.map λz=>Value.int k z).toArray T fr):=by
 unfold Lib.TabIs World.var? at h;rw [hg] at h;simp only [zbw] at h;unfold Dh;split at h
 ·rename_i cs T fr hc
  simp only [zn] at h;subst h;exact ⟨T,fr,hc⟩
 ·cases h
theorem XM {W:World}(hL:laidMetH Tryz.prog Rows.pgsessionAbortsUptoRow.laid W):SpG (Dh W):=by
 have h1 := hL.filter (λx => x.1 == "strings.asciiSpace");rw [show (Rows.pgsessionAbortsUptoRow.laid.filter (λx => x.1 == "strings.asciiSpace")) = [("strings.asciiSpace", Lib.tabData .u8 spTab)] by kernel_rfl, MakeChecks.laidMetH_plain _ _ _ (by kernel_rfl)] at h1;have h2:=Lib.tabIs_of_head (g:=6) (t:=304) (e:=5) (n:=256) (by kernel_rfl) (by kernel_rfl) (by kernel_rfl) (by kernel_rfl) (by kernel_rfl) (by kernel_rfl) h1;obtain ⟨T,fr,h3⟩:=Uk h2 (g:=6) (by kernel_rfl);intro c;refine Cell.imm h3 ?_;have hc:=c.toNat_lt;have hl:c.toNat < (spTab.map λz=>Value.int .u8 z).length:=by simp [spTab];omega
 rw [zay,zao hl];simp [spTab]
theorem VP {W:World}(hL:laidMetH Tryz.prog Rows.pgsessionAbortsUptoRow.laid W):Ua (Dh W):=by
 have h1 := hL.filter (λx => x.1 == "internal/strconv.uint64pow10");rw [show (Rows.pgsessionAbortsUptoRow.laid.filter (λx => x.1 == "internal/strconv.uint64pow10")) = [("internal/strconv.uint64pow10", Lib.tabData .u64 Lib.pow10Tab)] by kernel_rfl, MakeChecks.laidMetH_plain _ _ _ (by kernel_rfl)] at h1;have hg : Tryz.prog.globalNamed "internal/strconv.uint64pow10" = some 0 := by kernel_rfl
 have h2 : Lib.TabIs Tryz.prog W "internal/strconv.uint64pow10" .u64 Lib.pow10Tab := Lib.tabIs_of_head (t := 250) (e := 194) (n := 20) hg (by kernel_rfl) (by kernel_rfl) (by kernel_rfl) (by kernel_rfl) (by kernel_rfl) h1;obtain ⟨T,fr,h3⟩:=Uk h2 hg;exact ⟨0,T,fr,hg,h3⟩
theorem ALW {W:World}{ω:Om}(hL:laidMetH Tryz.prog Rows.pgsessionAbortsUptoRow.laid W):EE ω (Dh W):=Uj (Wy (XM hL))
section
variable {H:Type}{enc:TypeId×Value→H}{W:World}{base:Nat}
theorem Ui {v:Value}{d:DataW H}(o:Value.okWide Tryz.prog W .any base 22 v)(t:Td enc Tryz.prog W 22 v.cells.toList d)(hb:Rows.uptoBulk d≤1048576):∃l:Bs,Bytes (Dh W) v l∧l.length≤1048576:=by
 obtain ⟨a,len,cap,rfl⟩:=WideShapes.okWide_slice (show Tryz.prog.underlying 22=some (.slice 5) by kernel_rfl) o;obtain ⟨l,h1,h2⟩:=ADB (by kernel_rfl) t;exact ⟨l,h1,by omega⟩
end
def Bj (s:Ses)(x:Bs):Ses:={s with left:=s.left++x}
theorem LZ {l x:Bs}{i:Nat}(h:i < l.length):(l++x).getD i 0=l.getD i 0:=by
 simp only [zbf,List.getElem?_append_left h]
theorem ACC {l x:Bs}(h:l≠[]):(l++x).headD 0=l.headD 0:=by
 cases l with
 |nil=>exact absurd rfl h
 |cons a l=>rfl
theorem ACN {l x:Bs}{head:Nat}{least most:Int}(h:(DX l head least most).2≠10):DX (l++x) head least most=DX l head least most∧head+4≤l.length:=by
 unfold DX at h ⊢;by_cases h0:l.length < head+4
 ·rw [if_pos h0] at h;exact absurd rfl h
 ·rw [if_neg h0] at h ⊢;rw [if_neg (by rw [zk];omega)];refine ⟨?_,by omega⟩;rw [LZ zo,LZ zo,LZ zo,LZ zo];simp only at h ⊢
  generalize n4W (l.getD head 0) (l.getD (head+1) 0) (l.getD (head+2) 0) (l.getD (head+3) 0)=n at h ⊢;split
  ·rfl
  split
  ·rfl
  rename_i h1 h2
  rw [if_neg h1,if_neg h2] at h;by_cases h3:(l.length:Int) - head < n
  ·rw [if_pos h3] at h;exact absurd rfl h
  ·rw [if_neg h3,if_neg (by rw [zk];omega)]
theorem ACH {l x:Bs}{st:Bool}(h:(Ap l st).2.2≠10):Ap (l++x) st=Ap l st:=by
 have hne:l≠[]:=λe=>by subst e;exact h (Me st)
 have hpos:0 < l.length:=zby.2 hne;unfold Ap at h ⊢;rw [ACC hne];have e1:decide ((l++x).length > 0)=decide (l.length > 0):=by
  rw [decide_eq_true (by rw [zk];omega),decide_eq_true zo]
 rw [e1];by_cases hc:(!st&&(decide (l.length > 0)&&(l.headD 0==0||decide (127 < l.headD 0))))=true
 ·rw [if_pos hc,if_pos hc]
 ·rw [if_neg hc] at h ⊢;rw [if_neg hc];simp only at h ⊢
  have hq:(DX l (if st=true then 0 else 1) (if st=true then 8 else 4) (if st=true then 10000 else 1048576)).2≠10:=by
   intro e;rw [e] at h;exact h rfl
  obtain ⟨g1,g2⟩:=ACN (x:=x) hq;rw [g1];by_cases hz:((DX l (if st=true then 0 else 1) (if st=true then 8 else 4) (if st=true then 10000 else 1048576)).2 != 0)=true
  ·rw [if_pos hz,if_pos hz]
  ·have hz':(DX l (if st=true then 0 else 1) (if st=true then 8 else 4) (if st=true then 10000 else 1048576)).2=0:=by simpa using hz
   have hp:=Jl hz';have e2:((l++x).drop ((if st=true then 0 else 1)+4)).take ((DX l (if st=true then 0 else 1) (if st=true then 8 else 4) (if st=true then 10000 else 1048576)).1.toNat - 4)=(l.drop ((if st=true then 0 else 1)+4)).take ((DX l (if st=true then 0 else 1) (if st=true then 8 else 4) (if st=true then 10000 else 1048576)).1.toNat - 4):=by
    rw [List.drop_append_of_le_length zo,zbi];rw [zZ];cases st <;> simp at hp ⊢ <;> omega
   rw [e2]
theorem Bz (s:Ses)(l:List TBack)(x:Bs):BD (Bj s x) l=Bj (BD s l) x:=by unfold BD Bj;split <;> rfl
theorem AEx (s:Ses)(y:TStmt)(x:Bs):EG (Bj s x) y=Bj (EG s y) x:=by
 have e1:(Bj s x).status=s.status:=rfl;unfold EG JX DD;rw [e1];split
 ·split
  ·exact Bz {s with status:=73} _ x
  ·rw [Bz];rfl
 split
 ·split
  ·rfl
  ·exact Bz s _ x
 split
 ·split
  ·rfl
  ·exact Bz s _ x
 split
 ·split
  ·rfl
  ·exact Bz s _ x
 ·rfl
theorem UO (s:Ses)(x:Bs):Fa (Bj s x)=Fa s:=rfl
theorem WG (s:Ses)(x:Bs):BR (Bj s x)=Bj (BR s) x:=by unfold BR Bj;split <;> rfl
def Iq (s:Ses)(x:Bs):Ses:=if s.ended then s else Bj s x
theorem ET {s:Ses}(h:s.ended=false)(x:Bs):Iq s x=Bj s x:=by simp [Iq,h]
theorem AIB {s:Ses}(h:s.ended=false)(f:TFront)(x:Bs):Hg (Bj s x) f=Iq (Hg s f) x:=by
 unfold Hg;split
 ·rw [Bz,ET (by rw [(Ar _ _).2.2.2.2.2];exact h)]
 split
 ·rw [UO];rfl
 split
 ·unfold Ic;rw [ET (by rw [(Ar _ _).2.2.2.2.2];exact h)];exact Bz {s with status:=73} _ x
 split
 ·unfold UX BP;split
  ·have h1:(BR (BD {s with query:=true} [{fKind:=9,fState:=(Ey (Ce f.fText).2.code).1,fText:=(Ey (Ce f.fText).2.code).2,fFatal:=false}])).ended=false:=by
    unfold BR;split <;> (simp only;rw [(Ar _ _).2.2.2.2.2];exact h)
   rw [ET h1,←WG];exact congrArg BR (Bz {s with query:=true} _ x)
  split
  ·rw [ET (by simp only;rw [(Ar _ _).2.2.2.2.2];exact h)];exact congrArg (λu:Ses=>{u with stmts:=(Ce f.fText).1}) (Bz {s with query:=true} _ x)
  ·rw [ET (by exact h)];rfl
 ·show Fa (BD (Bj s x) _)=_;rw [Bz,UO];rfl
theorem ABg {s t:Ses}(h:Az s=some t)(x:Bs):Az (Bj s x)=some (Iq t x):=by
 unfold Az at h ⊢;by_cases h0:(s.ended||s.kind != 0)=true
 ·rw [if_pos h0] at h;cases h
 have hn:s.ended=false:=by
  cases he:s.ended with
  |false=>rfl
  |true=>rw [he] at h0;simp at h0
 rw [if_neg h0] at h;rw [if_neg (show ¬((Bj s x).ended||(Bj s x).kind != 0)=true from h0)];by_cases h1:(s.query&& !s.stmts.isEmpty)=true
 ·rw [if_pos h1] at h;rw [if_pos (show ((Bj s x).query&& !(Bj s x).stmts.isEmpty)=true from h1)];simp only [zn] at h ⊢;subst h;have e:(EG {s with stmts:=s.stmts.tail} (s.stmts.headD default)).ended=false:=by
   have:∀(u:Ses) (y:TStmt),u.ended=false→(EG u y).ended=false:=by
    intro u y hu;unfold EG JX DD;repeat' split
    all_goals first
     |exact hu
     |(simp only;rw [(Ar _ _).2.2.2.2.2];exact hu)
   exact this _ _ hn
  rw [ET e];exact AEx {s with stmts:=s.stmts.tail} _ x
 rw [if_neg h1] at h;rw [if_neg (show ¬((Bj s x).query&& !(Bj s x).stmts.isEmpty)=true from h1)];by_cases h2:s.query=true
 ·rw [if_pos h2] at h;rw [if_pos (show (Bj s x).query=true from h2)];simp only [zn] at h ⊢;subst h;rw [ET (by rw [(Ar _ _).2.2.2.2.2];exact hn)];exact Bz {s with query:=false} _ x
 rw [if_neg h2] at h;rw [if_neg (show ¬(Bj s x).query=true from h2)];simp only at h ⊢
 by_cases h3:((Ap s.left (s.status==0)).2.2==10)=true
 ·rw [if_pos h3] at h;cases h
 rw [if_neg h3] at h;have h3':(Ap s.left (s.status==0)).2.2≠10:=by simpa using h3
 rw [show Ap (Bj s x).left ((Bj s x).status==0)=Ap s.left (s.status==0) from ACH h3',if_neg h3];by_cases h4:((Ap s.left (s.status==0)).2.2 != 0)=true
 ·rw [if_pos h4] at h ⊢;simp only [zn] at h ⊢;subst h;unfold BP;rw [Bz,UO];rfl
 ·rw [if_neg h4] at h ⊢;simp only [zn] at h ⊢;subst h;have h5:=Ie (show (Ap s.left (s.status==0)).2.2=0 by simpa using h4);have e:(Bj s x).left.drop (Ap s.left (s.status==0)).2.1.toNat=s.left.drop (Ap s.left (s.status==0)).2.1.toNat++x:=by
   show (s.left++x).drop _=_;rw [List.drop_append_of_le_length zo]
  rw [e];exact AIB (s:={s with left:=s.left.drop (Ap s.left (s.status==0)).2.1.toNat}) hn _ x
theorem ACv (s:Ses)(k e:Int)(x:Bs):Gt (Bj s x) k e=Bj (Gt s k e) x:=by
 unfold Gt DD BP;simp only
 split
 ·exact congrArg (λu:Ses=>{u with stmts:=[]}) (Bz {s with status:=73} _ x)
 split
 ·exact Bz {s with status:=84} _ x
 ·exact Bz {s with status:=73} _ x
theorem AGt (dec:Int→Bs)(s:Ses)(o:TOut)(e:Int)(x:Bs):Ba dec (Bj s x) o e=Bj (Ba dec s o e) x:=by
 unfold Ba;simp only [show (Bj s x).kind=s.kind from rfl,show (Bj s x).status=s.status from rfl,show (Bj s x).ended=s.ended from rfl];by_cases h1:(s.kind==1)=true
 ·rw [if_pos h1,if_pos h1];generalize (if (e==0)=true then (EO (Bh dec o) []).2 else e)=e1;have key:∀u:Ses,(if (e1 != 0)=true then BR (BP (Bj u x) e1 false) else Bj u x)=Bj (if (e1 != 0)=true then BR (BP u e1 false) else u) x:=by
   intro u;split
   ·unfold BP;rw [Bz,WG]
   ·rfl
  cases (e==0) with
  |true=>exact (congrArg (λu=>if (e1 != 0)=true then BR (BP u e1 false) else u) (Bz {s with kind:=0,stmt:=default,own:=false} _ x)).trans (key _)
  |false=>exact key {s with kind:=0,stmt:=default,own:=false}
 rw [if_neg h1,if_neg h1];by_cases h4:(s.kind==4)=true
 ·rw [if_pos h4,if_pos h4];split
  ·exact Bz {s with kind:=0,stmt:=default,own:=false,status:=73} _ x
  ·rfl
 ·rw [if_neg h4,if_neg h4];exact ACv {s with kind:=0,stmt:=default,own:=false} _ _ x
theorem YM (s:Ses):(BR s).ended=s.ended:=by unfold BR;split <;> rfl
theorem IP (s:Ses)(l:List TBack):(BD s l).ended=s.ended:=(Ar s l).2.2.2.2.2
theorem Qh (dec:Int→Bs)(s:Ses)(o:TOut)(e:Int):(Ba dec s o e).ended=s.ended:=by
 unfold Ba Gt DD BP;simp only
 repeat' split
 all_goals simp only [YM,IP]
abbrev Rpl:=Nat→TOut×Int
def DY (dec:Int→Bs)(rp:Rpl)(s:Ses)(i:Nat):Option (Ses×Nat×List Int):=
 if s.kind != 0 then some (Ba dec s (rp i).1 (rp i).2,i+1,[s.kind]) else (Az s).map λt=>(t,i,[])
inductive RunH (dec:Int→Bs) (rp:Rpl):Ses→Nat→Ses→Nat→List Int→Prop
 |done {s:Ses} {i:Nat}:DY dec rp s i=none→RunH dec rp s i s i []
 |step {s t u:Ses} {i j k:Nat} {a b:List Int}:DY dec rp s i=some (t,j,a)→RunH dec rp t j u k b→RunH dec rp s i u k (a++b)
section
variable {dec:Int→Bs}{rp:Rpl}
theorem RunH.same {s t u:Ses}{i j k:Nat}{a b:List Int}(h:RunH dec rp s i t j a)(h':RunH dec rp s i u k b):t=u∧j=k∧a=b:=by
 induction h generalizing u k b with
 |done h0=>
  cases h' with
  |done _=>exact ⟨rfl,rfl,rfl⟩
  |step h1 _=>rw [h0] at h1;cases h1
 |step h0 _ ih=>
  cases h' with
  |done h1=>rw [h0] at h1;cases h1
  |step h1 h2=>
   rw [h0] at h1;simp only [zn,zah] at h1;obtain ⟨rfl,rfl,rfl⟩:=h1;obtain ⟨rfl,rfl,rfl⟩:=ih h2;exact ⟨rfl,rfl,rfl⟩
theorem ADJ {s t:Ses}{i j:Nat}{a:List Int}(h:DY dec rp s i=some (t,j,a))(x:Bs):DY dec rp (Iq s x) i=some (Iq t x,j,a):=by
 unfold DY at h;by_cases hk:(s.kind != 0)=true
 ·rw [if_pos hk] at h;simp only [zn,zah] at h;obtain ⟨rfl,rfl,rfl⟩:=h;have hk':((Iq s x).kind != 0)=true:=by unfold Iq;split <;> exact hk
  unfold DY;rw [if_pos hk'];have e1:(Iq s x).kind=s.kind:=by unfold Iq;split <;> rfl
  rw [e1];congr 2
  cases he:s.ended with
  |true=>
   have e2:Iq s x=s:=by simp [Iq,he]
   have e3:Iq (Ba dec s (rp i).1 (rp i).2) x=Ba dec s (rp i).1 (rp i).2:=by simp [Iq,Qh,he]
   rw [e2,e3]
  |false=>rw [ET he,ET (by rw [Qh];exact he),AGt]
 ·rw [if_neg hk] at h;cases hr:Az s with
  |none=>rw [hr] at h;cases h
  |some u=>
   rw [hr] at h;simp only [zbb,zn,zah] at h;obtain ⟨rfl,rfl,rfl⟩:=h;have hn:s.ended=false:=by
    cases he:s.ended with
    |false=>rfl
    |true=>simp [Az,he] at hr
   rw [ET hn];unfold DY;rw [if_neg (show ¬((Bj s x).kind != 0)=true from hk),ABg hr x];rfl
theorem RunH.add {s t u:Ses}{i j k:Nat}{a b:List Int}(x:Bs)(h:RunH dec rp s i t j a)(h':RunH dec rp (Iq t x) j u k b):RunH dec rp (Iq s x) i u k (a++b):=by
 induction h with
 |done _=>exact h'
 |step h0 _ ih=>rw [zi];exact .step (ADJ h0 x) (ih h')
end
def BI (p:Bs)(s:Ses):Ses:={s with out:=p++s.out}
theorem Dj (p:Bs)(s:Ses)(l:List TBack):BD (BI p s) l=BI p (BD s l):=by
 unfold BD;split
 ·rfl
 ·simp only [BI,zi]
theorem AFq (p:Bs)(s:Ses):BR (BI p s)=BI p (BR s):=by unfold BR BI;split <;> rfl
theorem ALw (p:Bs)(s:Ses)(y:TStmt):EG (BI p s) y=BI p (EG s y):=by
 have e1:(BI p s).status=s.status:=rfl;unfold EG JX DD;rw [e1];split
 ·split
  ·exact Dj p {s with status:=73} _
  ·rw [Dj];rfl
 split
 ·split
  ·rfl
  ·exact Dj p s _
 split
 ·split
  ·rfl
  ·exact Dj p s _
 split
 ·split
  ·rfl
  ·exact Dj p s _
 ·rfl
theorem APh (p:Bs)(s:Ses)(f:TFront):Hg (BI p s) f=BI p (Hg s f):=by
 unfold Hg;split
 ·exact Dj p s _
 split
 ·rfl
 split
 ·exact Dj p {s with status:=73} _
 split
 ·unfold UX BP;split
  ·rw [←AFq];exact congrArg BR (Dj p {s with query:=true} _)
  split
  ·exact congrArg (λu:Ses=>{u with stmts:=(Ce f.fText).1}) (Dj p {s with query:=true} _)
  ·rfl
 ·unfold BP;show Fa (BD (BI p s) _)=BI p (Fa (BD s _));rw [Dj];rfl
theorem Tv (p:Bs)(s:Ses):Az (BI p s)=(Az s).map (BI p):=by
 unfold Az;by_cases h0:(s.ended||s.kind != 0)=true
 ·rw [if_pos h0,if_pos (show ((BI p s).ended||(BI p s).kind != 0)=true from h0)];rfl
 rw [if_neg h0,if_neg (show ¬((BI p s).ended||(BI p s).kind != 0)=true from h0)];by_cases h1:(s.query&& !s.stmts.isEmpty)=true
 ·rw [if_pos h1,if_pos (show ((BI p s).query&& !(BI p s).stmts.isEmpty)=true from h1)];exact congrArg some (ALw p {s with stmts:=s.stmts.tail} _)
 rw [if_neg h1,if_neg (show ¬((BI p s).query&& !(BI p s).stmts.isEmpty)=true from h1)];by_cases h2:s.query=true
 ·rw [if_pos h2,if_pos (show (BI p s).query=true from h2)];exact congrArg some (Dj p {s with query:=false} _)
 rw [if_neg h2,if_neg (show ¬(BI p s).query=true from h2)];show (if ((Ap s.left (s.status==0)).2.2==10)=true then none else if ((Ap s.left (s.status==0)).2.2 != 0)=true then some (Fa (BP (BI p s) (Ap s.left (s.status==0)).2.2 true)) else some (Hg {BI p s with left:=s.left.drop (Ap s.left (s.status==0)).2.1.toNat} (Ap s.left (s.status==0)).1))=Option.map (BI p) (if ((Ap s.left (s.status==0)).2.2==10)=true then none else if ((Ap s.left (s.status==0)).2.2 != 0)=true then some (Fa (BP s (Ap s.left (s.status==0)).2.2 true)) else some (Hg {s with left:=s.left.drop (Ap s.left (s.status==0)).2.1.toNat} (Ap s.left (s.status==0)).1));split
 ·rfl
 split
 ·unfold BP;show some (Fa (BD (BI p s) _))=some (BI p (Fa (BD s _)));rw [Dj];rfl
 ·exact congrArg some (APh p {s with left:=s.left.drop (Ap s.left (s.status==0)).2.1.toNat} _)
theorem ALU (p:Bs)(s:Ses)(k e:Int):Gt (BI p s) k e=BI p (Gt s k e):=by
 unfold Gt DD BP;simp only
 split
 ·exact congrArg (λu:Ses=>{u with stmts:=[]}) (Dj p {s with status:=73} _)
 split
 ·exact Dj p {s with status:=84} _
 ·exact Dj p {s with status:=73} _
theorem AGs (dec:Int→Bs)(p:Bs)(s:Ses)(o:TOut)(e:Int):Ba dec (BI p s) o e=BI p (Ba dec s o e):=by
 unfold Ba;simp only [show (BI p s).kind=s.kind from rfl,show (BI p s).status=s.status from rfl,show (BI p s).ended=s.ended from rfl];by_cases h1:(s.kind==1)=true
 ·rw [if_pos h1,if_pos h1];generalize (if (e==0)=true then (EO (Bh dec o) []).2 else e)=e1;have key:∀u:Ses,(if (e1 != 0)=true then BR (BP (BI p u) e1 false) else BI p u)=BI p (if (e1 != 0)=true then BR (BP u e1 false) else u):=by
   intro u;split
   ·unfold BP;rw [Dj,AFq]
   ·rfl
  cases (e==0) with
  |true=>exact (congrArg (λu=>if (e1 != 0)=true then BR (BP u e1 false) else u) (Dj p {s with kind:=0,stmt:=default,own:=false} _)).trans (key _)
  |false=>exact key {s with kind:=0,stmt:=default,own:=false}
 rw [if_neg h1,if_neg h1];by_cases h4:(s.kind==4)=true
 ·rw [if_pos h4,if_pos h4];split
  ·exact Dj p {s with kind:=0,stmt:=default,own:=false,status:=73} _
  ·rfl
 ·rw [if_neg h4,if_neg h4];exact ALU p {s with kind:=0,stmt:=default,own:=false} _ _
section
variable {dec:Int→Bs}{rp:Rpl}
theorem Ox (p:Bs)(s:Ses)(i:Nat):DY dec rp (BI p s) i=(DY dec rp s i).map λq=>(BI p q.1,q.2):=by
 unfold DY;by_cases hk:(s.kind != 0)=true
 ·rw [if_pos hk,if_pos (show ((BI p s).kind != 0)=true from hk),AGs];rfl
 ·rw [if_neg hk,if_neg (show ¬((BI p s).kind != 0)=true from hk),Tv];cases Az s <;> rfl
theorem PW {s t:Ses}(h:Az s=some t):s.kind=0∧s.ended=false:=by
 unfold Az at h;split at h
 ·cases h
 ·rename_i h0
  simp only [zaW,bne_iff_ne,ne_eq,not_or,Bool.not_eq_true,Decidable.not_not] at h0;exact ⟨h0.2,h0.1⟩
theorem Ov {s t:Ses}(h:Az s=some t)(i:Nat):DY dec rp s i=some (t,i,[]):=by
 unfold DY;rw [if_neg (by simp [(PW h).1]),h];rfl
theorem RunH.ofGoN (n:Nat):∀{s u:Ses} {i k:Nat} {a:List Int},mu s < n→RunH dec rp (goF s) i u k a→RunH dec rp s i u k a:=by
 induction n with
 |zero=>intro s u i k a h;omega
 |succ n ih=>
  intro s u i k a hn h;rw [Dw] at h;cases hr:Az s with
  |none=>rw [hr] at h;exact h
  |some t=>
   rw [hr] at h;have:=Du hr;exact .step (a:=[]) (Ov hr i) (ih zo h)
theorem RunH.ofGo {s u:Ses}{i k:Nat}{a:List Int}(h:RunH dec rp (goF s) i u k a):RunH dec rp s i u k a:=RunH.ofGoN (mu s+1) (zaM _) h
theorem AII (n:Nat):∀{s:Ses},mu s < n→Az (goF s)=none:=by
 induction n with
 |zero=>intro s h;omega
 |succ n ih=>
  intro s hn;rw [Dw];cases hr:Az s with
  |none=>exact hr
  |some t=>have:=Du hr;exact ih zo
theorem AAl (s:Ses):Az (goF s)=none:=AII (mu s+1) (zaM _)
theorem APl (p:Bs):∀(n:Nat) (t:Ses),mu t < n→BI p (goF t)=goF (BI p t):=by
 intro n;induction n with
 |zero=>intro t h;omega
 |succ n ih=>
  intro t hn;rw [Dw (s:=t),Dw (s:=BI p t),Tv];cases hr:Az t with
  |none=>rfl
  |some u=>have:=Du hr;exact ih u zo
theorem Ou {t:Ses}(h:Az t=none):Az {t with out:=[]}=none:=by
 have e1:t=BI t.out {t with out:=[]}:=by simp [BI]
 rw [e1,Tv] at h;cases hr:Az {t with out:=[]} with
 |none=>rfl
 |some u=>rw [hr] at h;cases h
theorem RunH.fin {s t:Ses}{i j:Nat}{a:List Int}(h:RunH dec rp s i t j a):DY dec rp t j=none:=by
 induction h with
 |done h=>exact h
 |step _ _ ih=>exact ih
def Fj (dec:Int→Bs)(rp:Rpl):Nat→Ses→Nat→Bs→List Int→Bool×Ses×Nat×Bs×List Int
 |0,s,i,out,asked=>(false,s,i,out,asked)
 |k+1,s,i,out,asked=>if s.kind==0 then (true,s,i,out,asked) else Fj dec rp k (Fe dec s (rp i).1 (rp i).2).1 (i+1) (out++(Fe dec s (rp i).1 (rp i).2).2) (asked++[s.kind])
theorem AIk {s u:Ses}{i k:Nat}{a:List Int}(out:Bs)(hk:s.kind≠0)(h:RunH dec rp (BI (out++(Fe dec s (rp i).1 (rp i).2).2) (Fe dec s (rp i).1 (rp i).2).1) (i+1) u k a):RunH dec rp (BI out s) i u k (s.kind::a):=by
 have hk':¬(s.kind==0)=true:=by simpa using hk
 unfold Fe at h;rw [if_neg hk'] at h;simp only at h
 have e:BI (out++(goF (Ba dec s (rp i).1 (rp i).2)).out) {goF (Ba dec s (rp i).1 (rp i).2) with out:=[]}=BI out (goF (Ba dec s (rp i).1 (rp i).2)):=by
  simp only [BI,zaK]
 rw [e] at h;have e2:BI out (goF (Ba dec s (rp i).1 (rp i).2))=goF (Ba dec (BI out s) (rp i).1 (rp i).2):=by
  rw [AGs];exact APl out _ _ (zaM _)
 rw [e2] at h;refine .step (a:=[s.kind]) ?_ h.ofGo;unfold DY;rw [if_pos (show ((BI out s).kind != 0)=true by simpa [BI] using hk)];rfl
theorem AIm (s:Ses)(o:TOut)(e:Int)(h:s.out=[]):(Fe dec s o e).1.out=[]:=by
 unfold Fe;split
 ·exact h
 ·rfl
theorem Wi (s:Ses)(o:TOut)(e:Int)(h:s.kind≠0):Az (Fe dec s o e).1=none:=by
 unfold Fe;rw [if_neg (by simpa using h)];exact Ou (AAl _)
theorem Ru:∀(n:Nat) {s s':Ses} {i i':Nat} {out out':Bs} {asked asked':List Int},Az s=none→s.out=[]→Fj dec rp n s i out asked=(true,s',i',out',asked')→∃a,asked'=asked++a∧RunH dec rp (BI out s) i (BI out' s') i' a∧s'.out=[]∧s'.kind=0
 |0,_,_,_,_,_,_,_,_,_,_,h=>by simp [Fj] at h
 |n+1,s,s',i,i',out,out',asked,asked',hr,ho,h=>by
  unfold Fj at h;by_cases hk:(s.kind==0)=true
  ·rw [if_pos hk] at h;simp only [zah,true_and] at h;obtain ⟨rfl,rfl,rfl,rfl⟩:=h;have hk':s.kind=0:=by simpa using hk
   refine ⟨[],by simp,.done ?_,ho,hk'⟩;rw [Ox];unfold DY;rw [if_neg (by simp [hk']),hr];rfl
  ·rw [if_neg hk] at h;have hk':s.kind≠0:=by simpa using hk
   obtain ⟨a,h1,h2,h3,h4⟩:=Ru n (Wi s _ _ hk') (AIm s _ _ ho) h;exact ⟨s.kind::a,by rw [h1];simp,AIk out hk' h2,h3,h4⟩
theorem RunH.to_go (n:Nat):∀{s u:Ses} {i k:Nat} {a:List Int},mu s < n→RunH dec rp s i u k a→RunH dec rp (goF s) i u k a:=by
 induction n with
 |zero=>intro s u i k a h;omega
 |succ n ih=>
  intro s u i k a hn h;rw [Dw];cases hr:Az s with
  |none=>exact h
  |some t=>
   have hs:=Ov (dec:=dec) (rp:=rp) hr i;cases h with
   |done h0=>rw [hs] at h0;cases h0
   |step h0 h1=>
    rw [hs] at h0;simp only [zn,zah] at h0;obtain ⟨rfl,rfl,rfl⟩:=h0;have:=Du hr;exact ih zo h1
theorem RunH.strip {p:Bs}{s' u:Ses}{i k:Nat}{a:List Int}(h:RunH dec rp s' i u k a):∀s,s'=BI p s→∃u',u=BI p u'∧RunH dec rp s i u' k a:=by
 induction h with
 |done h0=>
  rintro s rfl;refine ⟨s,rfl,.done ?_⟩;rw [Ox] at h0;cases h:DY dec rp s _ with
  |none=>rfl
  |some q=>rw [h] at h0;cases h0
 |step h0 _ ih=>
  rintro s rfl;rw [Ox] at h0;cases h:DY dec rp s _ with
  |none=>rw [h] at h0;cases h0
  |some q=>
   rw [h] at h0;obtain ⟨q1,q2,q3⟩:=q;simp only [zbb,zn,zah] at h0;obtain ⟨rfl,rfl,rfl⟩:=h0;obtain ⟨u',h1,h2⟩:=ih q1 rfl;exact ⟨u',h1,.step h h2⟩
theorem QF:∀(n:Nat) {s t:Ses} {i j:Nat} {a:List Int} (out:Bs) (asked:List Int),RunH dec rp s i t j a→Az s=none→a.length < n→(Fj dec rp n s i out asked).1=true
 |0,_,_,_,_,_,_,_,_,_,hn=>by omega
 |n+1,s,t,i,j,a,out,asked,h,hr,hn=>by
  unfold Fj;by_cases hk:(s.kind==0)=true
  ·rw [if_pos hk]
  ·rw [if_neg hk];have hk':s.kind≠0:=by simpa using hk
   have hs:DY dec rp s i=some (Ba dec s (rp i).1 (rp i).2,i+1,[s.kind]):=by
    unfold DY;rw [if_pos (by simpa using hk')]
   cases h with
   |done h0=>rw [hs] at h0;cases h0
   |step h0 h1=>
    rw [hs] at h0;simp only [zn,zah] at h0;obtain ⟨rfl,rfl,rfl⟩:=h0;have h2:=RunH.to_go _ (zaM _) h1;obtain ⟨u',_,h3⟩:=h2.strip (p:=(goF (Ba dec s (rp i).1 (rp i).2)).out) {goF (Ba dec s (rp i).1 (rp i).2) with out:=[]} (by simp [BI]);have e:(Fe dec s (rp i).1 (rp i).2).1={goF (Ba dec s (rp i).1 (rp i).2) with out:=[]}:=by
     unfold Fe;rw [if_neg hk]
    refine QF n _ _ (by rw [e];exact h3) (Wi s _ _ hk') ?_;simp only [zU] at hn;omega
end
def YS:Prop:=∀t:Bs,5 * (Ce t).1.length≤t.length+1
def ED (k:Int):Nat:=if k==0 then 0 else if k==1 then 2 else 1
def wgt (s:Ses):Nat:=2 * s.left.length+10 * s.stmts.length+5 * ED s.kind+(if s.ended then 0 else 5)
theorem AAw (k:Int):ED k≤2:=by unfold ED;split <;> (try split) <;> omega
theorem FU (s:Ses)(l:List TBack):wgt (BD s l)=wgt s:=by
 obtain ⟨h1,h2,_,h4,_,h6⟩:=Ar s l;unfold wgt;rw [h1,h2,h4,h6]
theorem Si (s:Ses):wgt (Fa s)≤5:=by
 unfold wgt Fa;simp only [zh,if_true];split <;> simp [ED]
theorem ACr (s:Ses)(hn:s.ended=false):wgt (BR s)≤2 * s.left.length+5 * ED s.kind+10:=by
 unfold wgt BR;have:=AAw s.kind;split
 ·simp only [zh,hn];simp [ED]
 ·simp only [zh,hn];simp
theorem ACq (s:Ses)(x:TStmt)(hk:s.kind=0):wgt (EG s x)≤wgt s+10:=by
 have h0:ED s.kind=0:=by rw [hk];rfl
 unfold EG;split
 ·split
  ·unfold DD;rw [FU];unfold wgt;simp only;omega
  ·have h:=FU s [{fKind:=9,fState:=[50,53,80,48,50],fText:=[116,104,101,32,116,114,97,110,115,97,99,116,105,111,110,32,104,97,115,32,102,97,105,108,101,100]}];simp only [wgt] at h ⊢;simp only [zh];omega
 split
 ·unfold JX;split
  ·unfold wgt;simp only [h0];simp [ED];omega
  ·unfold DD;rw [FU];omega
 split
 ·unfold JX;split
  ·unfold wgt;simp only [h0];simp [ED];omega
  ·unfold DD;rw [FU];omega
 split
 ·unfold JX;split
  ·unfold wgt;simp only [h0];simp [ED];omega
  ·unfold DD;rw [FU];omega
 ·unfold wgt;simp only [h0];simp [ED];omega
theorem take_len {n:Int}{r:Rdq}(h:(r.take n).2.bad=false):(r.take n).1.length+(r.take n).2.b.length=r.b.length∧r.bad=false:=by
 unfold Rdq.take at h ⊢;split
 ·rename_i h0;rw [if_pos h0] at h;cases h
 ·rename_i h0
  rw [if_neg h0] at h;simp only at h ⊢
  refine ⟨?_,h⟩;simp only [not_or,Int.not_lt] at h0;rw [zB,zZ];omega
theorem ADC {r:Rdq}(h:(r.take 1).2.bad=false):(r.take 1).1.length=1:=by
 unfold Rdq.take at h ⊢;split
 ·rename_i h0;rw [if_pos h0] at h;cases h
 ·rename_i h0
  simp only [not_or,Int.not_lt] at h0 ⊢;rw [zB];have:(1:Int).toNat=1:=rfl;omega
theorem ACy {r:Rdq}(h:r.text.2.bad=false):r.text.1.length+1+r.text.2.b.length=r.b.length:=by
 unfold Rdq.text at h ⊢;simp only at h ⊢
 split
 ·rename_i h0;rw [if_pos h0] at h;rw [h0] at h;cases h
 ·rename_i h0
  rw [if_neg h0] at h;have h0:(r.take (ix0 r.b)).2.bad=false:=by simpa using h0
  have h1:=take_len h0;have h2:=take_len h;have h3:=ADC h;simp only
  omega
theorem ABn (b:Bs):(Pq b).1.fKind≠4:=by
 unfold Pq;simp only
 repeat' split
 all_goals first
  |decide
  |simp
theorem AFB {tag:Int}{b:Bs}(h:(UH tag b).2=0)(hk:(UH tag b).1.fKind=4):(UH tag b).1.fText.length+1=b.length:=by
 unfold UH at h hk ⊢;simp only at h hk ⊢
 split at h
 ·rename_i h0
  rw [if_pos h0] at hk ⊢;split at h
  ·rename_i h1
   rw [if_pos h1];simp only [Rdq.whole,zF,zaV,zbk] at h1;have:=ACy (r:=⟨b,false⟩) h1.1;rw [h1.2] at this;simpa using this
  ·simp at h
 ·rename_i h0
  rw [if_neg h0] at hk;split at hk
  iterate 2
   ·split at hk <;> simp at hk
theorem Xu (c:Bool)(q:Int×Int)(o:TFront×Int)(h0:Int)(h:(if c then (({},0,230):TFront×Int×Int) else if q.2 != 0 then ({},0,q.2) else if o.2 != 0 then ({},0,o.2) else (o.1,h0+q.1,0)).2.2=0):
  (if c then (({},0,230):TFront×Int×Int) else if q.2 != 0 then ({},0,q.2) else if o.2 != 0 then ({},0,o.2) else (o.1,h0+q.1,0))=(o.1,h0+q.1,0)∧q.2=0∧o.2=0:=by
 obtain ⟨q1,q2⟩:=q;obtain ⟨o1,o2⟩:=o;cases c with
 |true=>simp at h
 |false=>
  by_cases h1:q2=0
  ·subst h1;by_cases h2:o2=0
   ·subst h2;simp
   ·simp [h2] at h
  ·simp [h1] at h
theorem Vd {b:Bs}{st:Bool}(h:(Ap b st).2.2=0)(hk:(Ap b st).1.fKind=4):((Ap b st).1.fText.length:Int)+6≤(Ap b st).2.1:=by
 unfold Ap at h hk ⊢;obtain ⟨e,hq,ho⟩:=Xu _ _ _ _ h;rw [e] at hk ⊢;have hp:=Jl hq;cases st with
 |true=>exact absurd hk (ABn _)
 |false=>
  have:=AFB ho hk;rw [zB,zZ] at this;simp at hp this ⊢;omega
theorem MX (s:Ses)(l:List TBack):(BD s l).left=s.left:=(Ar s l).1
theorem AGy (hF:YS){s:Ses}{f:TFront}{n:Nat}(hn:s.ended=false)(hk:s.kind=0)(h1:1≤n)(hq:f.fKind=4→f.fText.length+6≤n):wgt (Hg s f)≤wgt s+2 * n:=by
 have h0:ED s.kind=0:=by rw [hk];rfl
 unfold Hg;split
 ·rw [FU];omega
 split
 ·have:=Si s;unfold wgt at *; rw [hn] at *; simp at *; omega
 split
 ·unfold Ic;rw [FU];unfold wgt;simp only;omega
 split
 ·rename_i h2 h3 h4 hf
  have hq:=hq (by simpa using hf);have hl:=hF f.fText;unfold UX;split
  ·refine zaq (ACr _ (by unfold BP;rw [IP];exact hn)) ?_;unfold BP;rw [MX,(Ar _ _).2.2.2.1];unfold wgt;simp only [h0];omega
  split
  ·rename_i h5 h6
   have he:(Ce f.fText).1=[]:=by simpa using h6
   unfold wgt;simp only
   rw [MX,(Ar _ _).2.2.2.1,IP,he];simp only [zh];omega
  ·unfold wgt;simp only;omega
 ·have:=Si (BP s 230 true);unfold wgt at *; rw [hn] at *; simp at *; omega
theorem ABG (hF:YS){s t:Ses}(h:Az s=some t):wgt t≤wgt s:=by
 have hk:=PW h;have h0:ED s.kind=0:=by rw [hk.1];rfl
 have hnot:wgt s=2 * s.left.length+10 * s.stmts.length+5:=by unfold wgt;rw [h0,hk.2];simp
 unfold Az at h;rw [if_neg (by simp [hk.1,hk.2])] at h;split at h
 ·rename_i h1
  simp only [zn] at h;subst h;simp only [zF,zaV] at h1;have hl:s.stmts.length≠0:=by
   intro e;have:=zQ e;rw [this] at h1;simp at h1
  refine zaq (ACq _ _ (by exact hk.1)) ?_;rw [hnot];unfold wgt;simp only [h0,hk.2,zaU];simp;omega
 split at h
 ·simp only [zn] at h;subst h;rw [FU];unfold wgt;simp only;omega
 ·simp only at h
  split at h
  ·cases h
  rename_i h3
  have hne:s.left.length≠0:=by
   intro e;rw [zQ e] at h3;exact h3 (by rw [Me];rfl)
  split at h
  ·simp only [zn] at h;subst h;have:=Si (BP s (Ap s.left (s.status==0)).2.2 true);omega
  ·rename_i h4
   have h4:(Ap s.left (s.status==0)).2.2=0:=by simpa using h4
   have h5:=Ie h4;simp only [zn] at h;subst h;refine zaq (AGy hF (n:=(Ap s.left (s.status==0)).2.1.toNat) (by exact hk.2) (by exact hk.1) zo (λhf=>?_)) ?_
   ·have:=Vd h4 hf;omega
   ·rw [hnot];unfold wgt;simp only [h0,hk.2,zZ];simp;omega
theorem YV (dec:Int→Bs)(s:Ses)(o:TOut)(e:Int)(hk:s.kind≠0):wgt (Ba dec s o e)+5≤wgt s∧mu (Ba dec s o e)≤mu s∧ED (Ba dec s o e).kind+1≤ED s.kind:=by
 have hb:∀u:Ses,u.kind=0→ED (BR u).kind≤1∧(BR u).left=u.left∧(BR u).stmts=[]∧(BR u).query=u.query∧(BR u).ended=u.ended:=by
  intro u hu;unfold BR;split
  ·exact ⟨by simp [ED],rfl,rfl,rfl,rfl⟩
  ·exact ⟨by simp only [hu];decide,rfl,rfl,rfl,rfl⟩
 have key:∀u:Ses,u.left=s.left→(u.stmts=s.stmts∨u.stmts=[])→u.query=s.query→u.ended=s.ended→ED u.kind+1≤ED s.kind→wgt u+5≤wgt s∧mu u≤mu s∧ED u.kind+1≤ED s.kind:=by
  intro u h1 h2 h3 h4 h5;refine ⟨?_,?_,h5⟩
  ·unfold wgt;rw [h1,h4];rcases h2 with h2|h2 <;> rw [h2] <;> (try simp only [zh]) <;> omega
  ·unfold mu;rw [h1,h3];rcases h2 with h2|h2 <;> rw [h2] <;> (try simp only [zh]) <;> omega
 unfold Ba;simp only
 split
 ·rename_i h1
  have h1:s.kind=1:=by simpa using h1
  have h2:ED s.kind=2:=by rw [h1];rfl
  have hs2:∀u:Ses,u=(if e==0 then BD {s with kind:=0,stmt:=default,own:=false} (Bh dec o) else {s with kind:=0,stmt:=default,own:=false})→u.left=s.left∧u.stmts=s.stmts∧u.query=s.query∧u.ended=s.ended∧u.kind=0:=by
   rintro u rfl;split
   ·obtain ⟨g1,g2,g3,g4,_,g6⟩:=Ar {s with kind:=0,stmt:=default,own:=false} (Bh dec o);exact ⟨g1,g2,g3,g6,g4⟩
   ·exact ⟨rfl,rfl,rfl,rfl,rfl⟩
  generalize hu:(if (e==0)=true then BD {s with kind:=0,stmt:=default,own:=false} (Bh dec o) else {s with kind:=0,stmt:=default,own:=false})=u;obtain ⟨g1,g2,g3,g4,g5⟩:=hs2 u hu.symm;generalize (if (e==0)=true then (EO (Bh dec o) []).2 else e)=e1;split
  ·unfold BP;obtain ⟨f1,f2,f3,f4,_,f6⟩:=Ar u [{fKind:=9,fState:=(Ey e1).1,fText:=(Ey e1).2,fFatal:=false}];obtain ⟨b1,b2,b3,b4,b5⟩:=hb _ (f4.trans g5);exact key _ (b2.trans (f1.trans g1)) (.inr b3) (b4.trans (f3.trans g3)) (b5.trans (f6.trans g4)) zo
  ·exact key _ g1 (.inl g2) g3 g4 (by rw [g5,h2];decide)
 have h1:1≤ED s.kind:=by unfold ED;rw [if_neg (by simpa using hk)];split <;> omega
 split
 ·split
  ·unfold DD;obtain ⟨f1,f2,f3,f4,_,f6⟩:=Ar {s with kind:=0,stmt:=default,own:=false,status:=73} [{fKind:=7,fText:=[82,79,76,76,66,65,67,75]}];exact key _ f1 (.inl f2) f3 f6 (by rw [f4];simpa [ED] using h1)
  ·exact key _ rfl (.inl rfl) rfl rfl (by simpa [ED] using h1)
 ·unfold Gt;simp only
  split
  ·unfold BP;refine key _ ?_ (.inr rfl) ?_ ?_ ?_
   ·exact MX _ _
   ·exact (Ar _ _).2.2.1
   ·exact IP _ _
   ·simp only;rw [(Ar _ _).2.2.2.1];simpa [ED] using h1
  split
  ·unfold DD;obtain ⟨f1,f2,f3,f4,_,f6⟩:=Ar {s with kind:=0,stmt:=default,own:=false,status:=84} [{fKind:=7,fText:=[66,69,71,73,78]}];exact key _ f1 (.inl f2) f3 f6 (by rw [f4];simpa [ED] using h1)
  ·unfold DD;obtain ⟨f1,f2,f3,f4,_,f6⟩:=Ar {s with kind:=0,stmt:=default,own:=false,status:=73} [{fKind:=7,fText:=[67,79,77,77,73,84]}];exact key _ f1 (.inl f2) f3 f6 (by rw [f4];simpa [ED] using h1)
section
variable {dec:Int→Bs}{rp:Rpl}
theorem RunH.weight (hF:YS){s t:Ses}{i j:Nat}{a:List Int}(h:RunH dec rp s i t j a):5 * a.length+wgt t≤wgt s:=by
 induction h with
 |done _=>simp
 |@step s t u i j k a b h0 _ ih=>
  unfold DY at h0;by_cases hk:(s.kind != 0)=true
  ·rw [if_pos hk] at h0;simp only [zn,zah] at h0;obtain ⟨rfl,rfl,rfl⟩:=h0;have:=(YV dec s (rp i).1 (rp i).2 (by simpa using hk)).1;simp only [zU];omega
  ·rw [if_neg hk] at h0;cases hr:Az s with
   |none=>rw [hr] at h0;cases h0
   |some v=>
    rw [hr] at h0;simp only [zbb,zn,zah] at h0;obtain ⟨rfl,rfl,rfl⟩:=h0;have:=ABG hF hr;simp only [zaJ];omega
theorem RunH.ex (n:Nat):∀(s:Ses) (i:Nat),3 * mu s+ED s.kind < n→∃t j a,RunH dec rp s i t j a:=by
 induction n with
 |zero=>intro s i h;omega
 |succ n ih=>
  intro s i hn;cases h:DY dec rp s i with
  |none=>exact ⟨s,i,[],.done h⟩
  |some q=>
   obtain ⟨t,j,a⟩:=q;have hlt:3 * mu t+ED t.kind < 3 * mu s+ED s.kind:=by
    unfold DY at h;split at h
    ·rename_i hk
     simp only [zn,zah] at h;obtain ⟨rfl,rfl,rfl⟩:=h;have:=YV dec s (rp i).1 (rp i).2 (by simpa using hk);omega
    ·cases hr:Az s with
     |none=>rw [hr] at h;cases h
     |some u=>
      rw [hr] at h;simp only [zbb,zn,zah] at h;obtain ⟨rfl,rfl,rfl⟩:=h;have:=Du hr;have:=AAw u.kind;omega
   obtain ⟨u,k,b,h'⟩:=ih t j zo;exact ⟨u,k,_,.step h h'⟩
end
section
variable {dec:Int→Bs}{rp:Rpl}
def Iu (dec:Int→Bs)(rp:Rpl)(q:Ses×Nat×Bs×List Int)(y:Bs):Bool×Ses×Nat×Bs×List Int:=Fj dec rp 10000 (DR q.1 y).1 q.2.1 (q.2.2.1++(DR q.1 y).2) q.2.2.2
structure Wt (s:Ses):Prop where
 o:s.out=[]
 k:s.kind=0
 r:Az s=none
theorem ACA (hF:YS){s:Ses}{i:Nat}{out y:Bs}{asked:List Int}(h:Wt s)(hl:s.left.length+y.length≤2097152)(hw:wgt (Bj s y) < 50000):
  ∃S' i' out' A,Iu dec rp (s,i,out,asked) y=(true,S',i',out',asked++A)∧RunH dec rp (Iq (BI out s) y) i (BI out' S') i' A∧Wt S':=by
 unfold Iu;simp only
 cases he:s.ended with
 |true=>
  have e1:DR s y=(s,[]):=by simp [DR,he]
  rw [e1];refine ⟨s,i,out,[],?_,?_,h⟩
  ·unfold Fj;rw [if_pos (by simp [h.k])];simp
  ·have e2:Iq (BI out s) y=BI out s:=by simp [Iq,BI,he]
   rw [e2];refine .done ?_;rw [Ox];unfold DY;rw [if_neg (by simp [h.k]),h.r];rfl
 |false=>
  have e1:DR s y=({goF (Bj s y) with out:=[]},(goF (Bj s y)).out):=by
   unfold DR;rw [if_neg (by simp [he])];simp only
   rw [if_neg (by rw [zk];omega)];rfl
  rw [e1];obtain ⟨t,j,a,hr⟩:=RunH.ex (dec:=dec) (rp:=rp) _ (Bj s y) i (zaM _);have ha:=hr.weight hF;have h1:=RunH.to_go _ (zaM _) hr;obtain ⟨u',_,h2⟩:=h1.strip (p:=(goF (Bj s y)).out) {goF (Bj s y) with out:=[]} (by simp [BI]);have hs:=Ou (AAl (Bj s y));have ok:=QF 10000 (out++(goF (Bj s y)).out) asked h2 hs zo;simp only
  generalize hg:Fj dec rp 10000 {goF (Bj s y) with out:=[]} i (out++(goF (Bj s y)).out) asked=R at ok ⊢;obtain ⟨b,S',i',out',asked'⟩:=R;simp only at ok;subst ok
  obtain ⟨A,g1,g2,g3,g4⟩:=Ru 10000 hs rfl hg;subst g1;refine ⟨S',i',out',A,rfl,?_,⟨g3,g4,?_⟩⟩
  ·have e2:BI (out++(goF (Bj s y)).out) {goF (Bj s y) with out:=[]}=BI out (goF (Bj s y)):=by simp only [BI,zaK]
   rw [e2,APl out _ _ (zaM _)] at g2;rw [ET (by exact he)];exact g2.ofGo
  ·have:=g2.fin;rw [Ox] at this;unfold DY at this;rw [if_neg (by simp [g4])] at this;cases hr:Az S' with
   |none=>rfl
   |some u=>rw [hr] at this;cases this
theorem AFL {s t:Ses}{i j:Nat}{a:List Int}(hF:YS)(h:RunH dec rp s i t j a):2 * t.left.length≤wgt s:=by
 have:=h.weight hF;unfold wgt at *; omega
theorem Sj (s:Ses)(y:Bs):wgt (Bj s y)=wgt s+2 * y.length:=by
 show 2 * (s.left++y).length+10 * s.stmts.length+5 * ED s.kind+(if s.ended=true then 0 else 5)=(2 * s.left.length+10 * s.stmts.length+5 * ED s.kind+(if s.ended=true then 0 else 5))+2 * y.length;rw [zk];omega
structure Mid (dec:Int→Bs)(rp:Rpl)(s0:Ses)(x:Bs)(q:Ses×Nat×Bs×List Int):Prop where
 w:Wt q.1
 run:RunH dec rp (Bj s0 x) 0 (BI q.2.2.1 q.1) q.2.1 q.2.2.2
theorem Mid.feed (hF:YS){s0:Ses}{x y:Bs}{q:Ses×Nat×Bs×List Int}(h0:s0.ended=false)(hw0:wgt s0≤5)(h:Mid dec rp s0 x q)(hn:x.length+y.length≤20000):∃q',Iu dec rp q y=(true,q')∧Mid dec rp s0 (x++y) q':=by
 obtain ⟨s,i,out,asked⟩:=q;have hx:=Sj s0 x;have hl:=AFL hF h.run;have hl':2 * s.left.length≤wgt (Bj s0 x):=hl;have hws:wgt s≤wgt (Bj s0 x):=by
  have:=h.run.weight hF;have e:wgt (BI out s)=wgt s:=rfl;simp only [e] at this;omega
 have hwy:=Sj s y;obtain ⟨S',i',out',A,g1,g2,g3⟩:=ACA (dec:=dec) (rp:=rp) (s:=s) hF (i:=i) (out:=out) (y:=y) (asked:=asked) (show Wt s from h.w) zo zo;refine ⟨(S',i',out',asked++A),g1,g3,?_⟩;have:=RunH.add y h.run g2;rw [ET (by exact h0)] at this;have e:Bj (Bj s0 x) y=Bj s0 (x++y):=by unfold Bj;simp only [zi]
 rw [e] at this;exact this
end
structure TReply where
 fO:TOut
 fE:Int
instance:Inhabited TReply:=⟨⟨default,0⟩⟩
def TReplyV (I:Imm)(x:TReply)(c:List Value):Prop:=∃co,c=co++[.int .i64 x.fE]∧TOutV I x.fO co
def ALN:TOut:=⟨[],[],[88]⟩
def rpL (l:List TReply):Rpl:=λi=>if i < l.length then ((l.getD i default).fO,(l.getD i default).fE) else (ALN,0)
abbrev Fh (b:Nat)(vl:Value)(i:Nat)(vo va:Value):Obj:=.cells [Ac b,vl,.int .i64 (i:Nat),vo,va].toArray 32 (0,0)
instance splitOne (x:Nat×Obj)(XL F:LH):SplitL (x::XL) (x::(XL++F)) F:=⟨List.Perm.refl _⟩
def HoM (I:Imm)(l:List TReply)(q:Ses×Nat×Bs×List Int)(bh b:Nat)(X:LH):Prop:=∃vl vo va XS XO XA,X=(bh,Fh b vl q.2.1 vo va)::(XS++(XO++XA))∧RL TReplyV 6 I [] vl l∧SeM I q.1 b XS∧OwB XO vo q.2.2.1∧SlO 3 1 XA va (QE q.2.2.2) q.2.2.2.length
theorem TReplyV.mono {I I':Imm}{x:TReply}{c:List Value}(h:TReplyV I x c)(hI:Ext I I'):TReplyV I' x c:=by
 obtain ⟨co,rfl,h⟩:=h;exact ⟨co,rfl,h.mono hI⟩
def Pi (q:Ses×Nat×Bs×List Int):Nat:=q.2.2.1.length+Au q.1
theorem JQ (dec:Int→Bs)(rp:Rpl):∀(n:Nat) (s:Ses) (i:Nat) (out:Bs) (asked:List Int),asked.length≤(Fj dec rp n s i out asked).2.2.2.2.length
 |0,s,i,out,asked=>zt _
 |n+1,s,i,out,asked=>by
  unfold Fj;split
  ·exact zt _
  ·refine zaq ?_ (JQ dec rp n _ _ _ _);rw [zk];omega
theorem NV (s:Ses):(goF s).out.length+Au {goF s with out:=[]}≤Au s:=by
 have h:=AIH (mu s+1) (s:=s) (zaM _);have e:Au (goF s)=(goF s).out.length+Au {goF s with out:=[]}:=by
  unfold Au;show (goF s).out.length+2000 * mu (goF s)=(goF s).out.length+(0+2000 * mu (goF s));omega
 omega
theorem AFW {s:Ses}(hb:BdS s)(y:Bs):(DR s y).2.length+Au (DR s y).1≤Au s+4020000 * y.length+1100:=by
 have hro:Au {s with left:=s.left++y}≤Au s+4020000 * y.length:=by
  unfold Au mu;simp only [zk];omega
 unfold DR;split
 ·simp only [zh];omega
 simp only
 split
 ·have h1:=JV {s with left:=s.left++y} 231 true;have h3:=hb.2.2;have e:Au {Fa (BP {s with left:=s.left++y} 231 true) with out:=[]}=0:=by
   unfold Au;have:mu {Fa (BP {s with left:=s.left++y} 231 true) with out:=[]}=0:=UG (BP {s with left:=s.left++y} 231 true);rw [this];rfl
  have h4:({s with left:=s.left++y}:Ses).out.length=0:=by
   show s.out.length=0;rw [h3];rfl
  rw [e];show (BP {s with left:=s.left++y} 231 true).out.length+0≤_;omega
 ·have:=NV {s with left:=s.left++y};show (goF {s with left:=s.left++y}).out.length+Au {goF {s with left:=s.left++y} with out:=[]}≤_;omega
theorem AIl {s:Ses}(hb:BdS s)(dec:Int→Bs)(o:TOut)(e:Int):(Fe dec s o e).2.length+Au (Fe dec s o e).1≤Au s+Dv (Bh dec o)+1100:=by
 unfold Fe;split
 ·simp only [zh];omega
 ·have h1:=NV (Ba dec s o e);have h2:=SQ dec s o e;show (goF (Ba dec s o e)).out.length+Au {goF (Ba dec s o e) with out:=[]}≤_;omega
section
variable {ω:Om}{I:Imm}{L F:LH}{K:Value→M}
theorem HoM.mono {I I':Imm}{l:List TReply}{q:Ses×Nat×Bs×List Int}{bh b:Nat}{X:LH}(h:HoM I l q bh b X)(hI:Ext I I'):HoM I' l q bh b X:=by
 obtain ⟨vl,vo,va,XS,XO,XA,h1,h2,h3,h4,h5⟩:=h;exact ⟨vl,vo,va,XS,XO,XA,h1,zAL (λ_ _ h=>TReplyV.mono h hI) h2 hI (λ_ h=>h),h3.mono hI,h4,h5⟩
theorem AQz {A:M}{I:Imm}{x:Nat×Obj}{XS XO XA F:LH}(h:A I ((x::(XS++(XO++XA)))++F)):A I (x::(XS++(XO++(XA++F)))):=by
 rw [zau,zi,zi] at h;exact h
theorem KN {G:Imm}(hP:Ua G)(hTok:EE ω G)(hLim:Qi ω){l:List TReply}(hl:l.length≤100000000)(hi:∀r∈l,VY r.fO∧Nu r.fO≤1048576){s:Ses}{i:Nat}{out:Bs}{asked:List Int}{bh b:Nat}{X:LH}{w:Value}{y:Bs}[hsp:SplitL X L F](hG:Ext G I)(hH:HoM I l (s,i,out,asked) bh b X)(hw:Bytes I w y)(hy:y.length≤2097152)(hb:BdS s)
  (hia:i≤asked.length) (hA:(Iu (BB true) (rpL l) (s,i,out,asked) y).2.2.2.2.length≤20000) (hp:Pi (s,i,out,asked)≤20000000000000)
  (hk:∀I' X',Ext I I'→HoM I' l (Iu (BB true) (rpL l) (s,i,out,asked) y).2 bh b X'→BdS (Iu (BB true) (rpL l) (s,i,out,asked) y).2.1→(Iu (BB true) (rpL l) (s,i,out,asked) y).2.2.1≤(Iu (BB true) (rpL l) (s,i,out,asked) y).2.2.2.2.length→
   Pi (Iu (BB true) (rpL l) (s,i,out,asked) y).2+300001100 * asked.length≤Pi (s,i,out,asked)+4020000 * y.length+1100+300001100 * (Iu (BB true) (rpL l) (s,i,out,asked) y).2.2.2.2.length→K (.bool (Iu (BB true) (rpL l) (s,i,out,asked) y).1) I' (X'++F)):CT ω 9 #[Ac bh,w] K I L:=by
 refine zAP X ?_;obtain ⟨vl,vo,va,XS,XO,XA,rfl,h2,h3,h4,h5⟩:=hH;simp only at h3 h4 h5
 refine AQr ?_;unfold sh9;have hf:Iu (BB true) (rpL l) (s,i,out,asked) y=Fj (BB true) (rpL l) 10000 (DR s y).1 i (out++(DR s y).2) asked:=rfl;obtain ⟨r1,r2⟩:=hb.room_add y hy;have hfp:=AFW hb y;have hbf:=hb.feed y;have hp:out.length+Au s≤20000000000000:=hp;simp only [zi,SSd,Nat.reduceAdd];refine rdb ?_;refine call (Ry (X:=XS) hTok hLim hG h3 hw r1 r2 (λI1 X1 v1 hI1 hS1 hv1=>?_));try refine zqe ?_
 refine rdb ?_;refine BQ (X:=XO) (n:=1) (m:=(DR s y).2.length) rfl h4 (news:=Lib.byteCells (DR s y).2) (SlI.news hv1) (λu hu=>?_) zo zo (λX2 u2 hX2=>?_)
 ·obtain ⟨d,_,rfl⟩:=zal.1 hu;rfl
 have hX2:OwB X2 u2 (out++(DR s y).2):=OwB.mk hX2;obtain ⟨a2,k2,rfl⟩:=hX2.form;try refine zqe ?_
 refine st1 rfl ?_;have hal:=JQ (BB true) (rpL l) 10000 (DR s y).1 i (out++(DR s y).2) asked;rw [hf] at hk hA;have hfp2:(out++(DR s y).2).length+Au (DR s y).1≤(out.length+Au s)+4020000 * y.length+1100:=by rw [zk];omega
 generalize hR:Fj (BB true) (rpL l) 10000 (DR s y).1 i (out++(DR s y).2) asked=R at hk hA hal;have hl2:=zAL (R:=TReplyV) (I:=I) (I':=I1) (λ_ _ h=>TReplyV.mono h hI1) h2 hI1 (λ_ h=>h);refine loop (λn st I' L'=>∃(s':Ses) (i':Nat) (out':Bs) (asked':List Int) (k:Nat) (vo' va':Value) (XS' XO' XA':LH),k+n=10000∧st=(Value.bool false,Value.int .i64 (k:Nat),())∧Ext I1 I'∧L'=XO'++(XS'++((bh,Fh b vl i' vo' va')::(XA'++F)))∧SeM I' s' b XS'∧OwB XO' vo' out'∧SlO 3 1 XA' va' (QE asked') asked'.length∧BdS s'∧i'≤asked'.length∧
   out'.length+Au s'+300001100 * asked.length≤(out.length+Au s)+4020000 * y.length+1100+300001100 * asked'.length∧Fj (BB true) (rpL l) n s' i' out' asked'=R) 10000
  ⟨_,i,_,asked,0,_,va,X1,X2,XA,by omega,rfl,zAC _,rfl,hS1,hX2,h5,hbf,hia,by omega,hR⟩ ?_
 rintro n st I2 L2 ⟨s',i',out',asked',k,vo',va',XS',XO',XA',hkn,rfl,hI2,rfl,hS',hO',hA',hb',hia',hpot,hR'⟩;have hal':=JQ (BB true) (rpL l) n s' i' out' asked';rw [hR'] at hal';have fin:∀(I3:Imm) (L3:LH) (r:Bool) [SubP ((bh,Fh b vl i' vo' va')::(XS'++(XO'++(XA'++F)))) L3],Ext I2 I3→R=(r,s',i',out',asked')→Gh (K (.bool r)) I3 L3:=by
  intro I3 L3 r _ hI3 hr;rw [hr] at hk;simp only at hk
  refine zAG ((bh,Fh b vl i' vo' va')::(XS'++(XO'++(XA'++F)))) (AQz (A:=Gh (K (.bool r))) (zAA (hk I3 _ (zAB hI1 (zAB hI2 hI3)) ⟨vl,vo',va',XS',XO',XA',rfl,?_,hS'.mono hI3,hO',hA'⟩ hb' hia' hpot)));exact zAL (R:=TReplyV) (I:=I1) (I':=I3) (λ_ _ h=>TReplyV.mono h (zAB hI2 hI3)) hl2 (zAB hI2 hI3) (λ_ h=>h)
 unfold AIu;try refine zqe ?_
 refine AP (λhb1=>?_) (λhb1=>?_)
 ·obtain ⟨n,rfl⟩:∃q,n=q+1:=⟨n - 1,by have:=of_decide_eq_true hb1;omega⟩;unfold Fj at hR';refine rdb ?_;refine call (AGq (X:=XS') hS' (λsc=>?_));have hls:=sc.2.1;have h53:(.int .i64 s'.kind::(sc.1++[.bool s'.own]):List Value).length=53:=by simp [hls]
  have hone:∀u∈(.int .i64 s'.kind::(sc.1++[.bool s'.own]):List Value),u.oneCell'=true:=by
   intro u hu;rcases zX.1 hu with rfl|hu
   ·rfl
   ·rcases zav.1 hu with hu|hu
    ·exact zaD.1 sc.2.2 u hu
    ·rw [zN.1 hu];rfl
  refine Am (λba=>?_);unfold WZ;refine stB h53 rfl hone ?_;try refine zqe ?_
  refine rdb ?_;try refine zqe ?_
  by_cases hk0:(s'.kind==0)=true
  ·rw [if_pos hk0] at hR';simp only [hk0,SSd,Nat.reduceAdd];exact fin I2 _ true (zAC _) hR'.symm
  rw [if_neg hk0] at hR';have tail:∀(br:Nat) (o:TOut) (e:Int) (x0 x1 vf vr:Value),rpL l i'=(o,e)→TOutV I2 o [x0,x1,vf,vr,.string ⟨o.fTag.toArray⟩]→VY o→Nu o≤1048576→
    Yd ω (Ac bh) (.bool false) (.int .i64 (k:Nat)) (.pointer (some ⟨ba,0,none⟩)) (.pointer (some ⟨br,0,none⟩)) (λst=>Gh λI' L'=>∃m',m' < n+1∧∃(s':Ses) (i':Nat) (out':Bs) (asked':List Int) (k:Nat) (vo' va':Value) (XS' XO' XA':LH),k+m'=10000∧st=(Value.bool false,Value.int .i64 (k:Nat),())∧Ext I1 I'∧L'=XO'++(XS'++((bh,Fh b vl i' vo' va')::(XA'++F)))∧SeM I' s' b XS'∧OwB XO' vo' out'∧SlO 3 1 XA' va' (QE asked') asked'.length∧BdS s'∧i'≤asked'.length∧
     out'.length+Au s'+300001100 * asked.length≤(out.length+Au s)+4020000 * y.length+1100+300001100 * asked'.length∧Fj (BB true) (rpL l) m' s' i' out' asked'=R) (λv=>Gh (K v)) I2
     ((br,.cells [x0,x1,vf,vr,.string ⟨o.fTag.toArray⟩,.int .i64 e].toArray 88 (0,0))::(ba,.cells (.int .i64 s'.kind::(sc.1++[.bool s'.own])).toArray 78 (0,0))::(XS'++(XO'++((bh,Fh b vl i' vo' va')::(XA'++F))))):=by
   intro br o e x0 x1 vf vr hrp ho hio hmo;rw [hrp] at hR';simp only at hR'
   unfold Yd;try refine zqe ?_
   refine rdb ?_;have ew:IntKind.i64.wrap ((i':Int)+1)=((i'+1:Nat):Int):=by rw [wrap_i64 _ zo];rfl
   simp only [ew,SSd,Nat.reduceAdd];refine st1 rfl ?_;refine Dy ?_;try refine zqe ?_
   refine BM ?_;try refine zqe ?_
   refine BM ?_;refine CU (v:=.int .i64 s'.kind) rfl zx rfl (λXB u hXB=>?_);refine Dc (zAC _) ?_;refine BQ (X:=XA') (n:=1) (m:=1) rfl hA' (hXB.news (λx hx=>zae _ hx)) (Ak rfl) zo zo (λXA2 va2 hXA2=>?_);have hXA2:SlO 3 1 XA2 va2 (QE (asked'++[s'.kind])) (asked'++[s'.kind]).length:=by
    have e1:QE (asked'++[s'.kind])=QE asked'++[.int .i64 s'.kind]:=by simp [QE]
    have e2:(asked'++[s'.kind]).length=asked'.length+1:=by simp
    rw [e1,e2];exact hXA2
   obtain ⟨aa,ka,rfl⟩:=hXA2.form;try refine zqe ?_
   refine st1 rfl ?_;refine Dy ?_;try refine zqe ?_
   refine BM ?_;try refine zqe ?_
   refine AHn [x0,x1,vf,vr,.string ⟨o.fTag.toArray⟩] rfl rfl ?_;try refine zqe ?_
   refine BM ?_;have hap:=AIl hb' (BB true) o e;have hon:=(out_ok (o:=o) zo hio).2.2;have hroom:=hb'.room;refine call (Wh (X:=XS') hP hTok hLim e (zAB hG (zAB hI1 hI2)) hS' ho zo hio zo (λI3 XS3 v3 hI3 hS3 hv3=>?_));try refine zqe ?_
   refine rdb ?_;refine BQ (X:=XO') (n:=1) (m:=(Fe (BB true) s' o e).2.length) rfl hO' (news:=Lib.byteCells (Fe (BB true) s' o e).2) (SlI.news hv3) (λu hu=>?_) zo zo (λXO3 u3 hXO3=>?_)
   ·obtain ⟨d,_,rfl⟩:=zal.1 hu;rfl
   have hXO3:OwB XO3 u3 (out'++(Fe (BB true) s' o e).2):=OwB.mk hXO3;obtain ⟨ao,ko,rfl⟩:=hXO3.form;try refine zqe ?_
   refine st1 rfl ?_;simp only [wrap_i64 ((k:Int)+1) zo,SSd,Nat.reduceAdd];refine zAG (XO3++(XS3++((bh,Fh b vl (i'+1) (.slice ao (out'++(Fe (BB true) s' o e).2).length ko) (.slice aa (asked'++[s'.kind]).length ka))::(XA2++F)))) (zAA ⟨n,by omega,_,i'+1,_,_,k+1,_,_,XS3,XO3,XA2,by omega,rfl,zAB hI2 hI3,rfl,hS3,hXO3,hXA2,hb'.ans _ _ _,by rw [zk];simp;omega,?_,hR'⟩);rw [zk,zk,List.length_singleton];omega
  simp only [zW.2 hk0,SSd,Nat.reduceAdd];refine Am (λbr=>?_);refine stB rfl rfl (Ak rfl) ?_;refine Dy ?_;try refine zqe ?_
  refine BM ?_;try refine zqe ?_
  refine BM ?_;simp only [zAQ hl2,SSd,Nat.reduceAdd];refine AP (λhb2=>?_) (λhb2=>?_)
  ·have hil:i' < l.length:=by have:=of_decide_eq_true hb2;omega
   have hl3:=zAL (R:=TReplyV) (I:=I1) (I':=I2) (λ_ _ h=>TReplyV.mono h hI2) hl2 hI2 (λ_ h=>h);obtain ⟨bt,off,c1,g1,gl,g2,g3⟩:=RL.ix hl3 (i:=i') zo zo;rw [BH hil] at g2;have hr:rpL l i'=(l[i'].fO,l[i'].fE):=by
    unfold rpL;rw [if_pos hil,zbf,zao hil];rfl
   obtain ⟨q1,q2⟩:=hi l[i'] (zaG hil);generalize l[i']=x at *;obtain ⟨co,rfl,ho⟩:=g2;have ho':=ho;obtain ⟨y0,y1,yf,yr,rfl,p0,p1,p2,p3⟩:=ho;have hone2:∀u∈([y0,y1,yf,yr,.string ⟨x.fO.fTag.toArray⟩,.int .i64 x.fE]:List Value),u.oneCell'=true:=by
    obtain ⟨_,_,rfl⟩:=zAH p2;obtain ⟨_,_,rfl⟩:=zAH p3;intro u hu;simp only [zX,zaT,or_false] at hu;rcases hu with rfl|rfl|rfl|rfl|rfl|rfl
    all_goals first
     |rfl
     |assumption
   refine Dy ?_;try refine zqe ?_
   refine BM ?_;try refine zqe ?_
   refine BM ?_;simp only [g1,zau,zaJ,SSd,Nat.reduceAdd];refine ALq (vs:=[y0,y1,yf,yr,.string ⟨x.fO.fTag.toArray⟩,.int .i64 x.fE]) rfl (λI' L' hS=>g3 _ _ hS.1 (λ_ h=>by cases h)) ?_;refine stB rfl rfl hone2 ?_;exact tail br x.fO x.fE y0 y1 yf yr hr ho' q1 q2
  ·have hil:¬i' < l.length:=by have:=of_decide_eq_false hb2;omega
   have hr:rpL l i'=(ALN,0):=by unfold rpL;rw [if_neg hil]
   exact tail br ALN 0 _ _ _ _ hr ⟨_,_,_,_,rfl,rfl,rfl,zAD none 0,zAD none 0⟩ (λr hr=>by cases hr) zx
 ·have hn0:n=0:=by have:=of_decide_eq_false hb1;omega
  subst hn0;exact fin I2 _ false (zAC _) hR'.symm
end
def SufR {α:Type}(l:List Tok)(x:Res α):Prop:=∀a r,x= .ok a r→r <:+ l
def Suf {α:Type}(p:Pr α):Prop:=∀l,SufR l (p l)
theorem Bg {l l0:List Tok}(h:l <:+ l0):l.tail <:+ l0:=(zaa l).trans h
section
variable {α β:Type}{l:List Tok}
theorem SufR.ok {a:α}{r:List Tok}(h:r <:+ l):SufR l (.ok a r):=λb q e=>by
 simp only [Res.ok.injEq] at e;rw [←e.2];exact h
theorem zAJ:type_of% @SufR.ok:=@SufR.ok
theorem SufR.err {n:Nat}:SufR (α:=α) l (.err n):=λb q e=>by cases e
theorem SufR.bad {r:List Tok}:SufR (α:=α) l (bad r):=λb q e=>by cases e
theorem SufR.bind {x:Res α}{f:α→Pr β}(hx:SufR l x)(hf:∀a r,r <:+ l→SufR l (f a r)):SufR l (x.bind f):=λb q e=>by
 obtain ⟨a,r,h1,h2⟩:=bind_ok e;exact hf a r (hx a r h1) b q h2
theorem zAE:type_of% @SufR.bind:=@SufR.bind
theorem SufR.ite {c:Prop}[Decidable c]{x y:Res α}(h1:SufR l x)(h2:SufR l y):SufR l (if c then x else y):=by split <;> assumption
theorem zAK:type_of% @SufR.ite:=@SufR.ite
theorem SufR.call {p:Pr α}{l':List Tok}(h:Suf p)(hl:l' <:+ l):SufR l (p l'):=λa r e=>(h l' a r e).trans hl
theorem zAF:type_of% @SufR.call:=@SufR.call
end
theorem BL {s:Bs}:Suf (AC s):=λl=>by unfold AC;exact zAK (zAJ (zaa l)) SufR.bad
theorem Cc:Suf Aq:=λl=>by unfold Aq;exact zAK (zAJ (zaa l)) SufR.bad
theorem XV:Suf Ns:=λl=>by unfold Ns;exact zAK (zAJ (zaa l)) SufR.bad
theorem VA:Suf FN:=λl=>by unfold FN;exact zAK (zAJ (zaa l)) SufR.bad
theorem AAO {α:Type}{one:Pr α}(h:Suf one):∀n acc,Suf (Cj one n acc)
 |0,acc=>λl=>zAJ (zar l)
 |n+1,acc=>λl=>by
  unfold Cj;exact zAK (zAE (zAF h (zaa l)) λx r hr=>zAF (AAO h n _) hr) (zAJ (zar l))
theorem Jf {α:Type}{n:Nat}{one:Pr α}(h:Suf one):Suf (BO n one):=λl=>by
 unfold BO;exact zAE (h l) λx r hr=>zAF (AAO h n _) hr
theorem AAP {one:Pr Ex}{op:List Tok→Int}(h:Suf one):∀n x,Suf (Fg one op n x)
 |0,x=>λl=>zAJ (zar l)
 |n+1,x=>λl=>by
  unfold Fg;exact zAK (zAJ (zar l)) (zAE (zAF h (zaa l)) λy r hr=>zAF (AAP h n _) hr)
theorem LK {n:Nat}{one:Pr Ex}{op:List Tok→Int}(h:Suf one):Suf (DI n one op):=λl=>by
 unfold DI;exact zAE (h l) λx r hr=>zAF (AAP h n _) hr
theorem Jd {α:Type}{n:Nat}{one:Pr α}(h:Suf one):Suf (CE n one):=λl=>by
 unfold CE;exact zAE (BL l) λ_ r hr=>zAE (zAF (Jf h) hr) λx r hr=>zAE (zAF BL hr) λ_ r hr=>zAJ hr
theorem ADv:Suf Gg:=λl=>by
 unfold Gg;split
 ·exact zAJ (zaa l)
 ·exact zAK (zAE (zAF XV (zaa l)) λx r hr=>zAJ hr) (XV l)
theorem AAM {n:Nat}{E:Pr Ex}(hE:Suf E){acc:List Ex}:Suf (Ed n E acc):=λl=>by
 unfold Ed;exact zAE (BL l) λ_ r hr=>zAE (zAF hE hr) λa r hr=>zAE (zAF BL hr) λ_ r hr=>zAE (zAF hE hr) λb r hr=>zAJ hr
theorem Uy {n:Nat}{E:Pr Ex}(hE:Suf E):∀m acc,Suf (FH n E m acc)
 |0,acc=>λl=>zAJ (zar l)
 |m+1,acc=>λl=>by
  unfold FH;exact zAK (zAE (AAM hE l) λa r hr=>zAF (Uy hE m _) hr) (zAJ (zar l))
theorem AHT {n:Nat}{E:Pr Ex}(hE:Suf E):Suf (Iy n E):=λl=>by
 unfold Iy;exact zAE (AAM hE l) λa r hr=>zAE (zAF (Uy hE n a) hr) λa r hr=>zAE (zAK (zAE (zAF hE (Bg hr)) λx r hr=>zAJ hr) (zAJ hr)) λa r hr=>zAE (zAF BL hr) λ_ r hr=>zAJ hr
theorem ADw {n:Nat}{E:Pr Ex}{s:Bs}(hE:Suf E):Suf (Dx n E s):=λl=>by
 unfold Dx;refine zAK (zAE (Jd hE l) λa r hr=>zAJ hr) (zAE (BL l) λ_ r hr=>zAK (zAE (zAF hE hr) λx r hr=>zAE (zAF BL hr) λ_ r hr=>zAJ hr) (zAK (zAE (zAF BL (Bg hr)) λ_ r hr=>zAJ hr) (zAE (zAF hE ?_) λx r hr=>zAE (zAF BL hr) λ_ r hr=>zAJ hr)));split
 ·exact Bg hr
 ·exact hr
theorem ADr {n:Nat}{E U:Pr Ex}(hE:Suf E)(hU:Suf U):Suf (GM n E U):=λl=>by
 unfold GM;refine zAK (zAE (zAF hU (zaa l)) λx r hr=>zAJ hr) (zAK (zAE (zAF hE (zaa l)) λx r hr=>zAE (zAF BL hr) λ_ r hr=>zAJ hr) (zAK (zAF (AHT hE) (zaa l)) (zAK (XV l) ?_)));split
 ·exact zAJ (zaa l)
 ·exact zAE (Cc l) λs r hr=>zAK (zAF (ADw hE) hr) (zAK (zAE (zAF Cc (Bg hr)) λc r hr=>zAJ hr) (zAJ hr))
theorem AHQ {n:Nat}{E S:Pr Ex}(hE:Suf E)(hS:Suf S):Suf (JH n E S):=λl=>by
 unfold JH;refine zAE (hS l) λx r hr=>?_;have hq:(if isT r [110,111,116]=true then r.tail else r) <:+ l:=by
  split
  ·exact Bg hr
  ·exact hr
 simp only
 refine zAK (zAE (zAF hS (Bg hr)) λy r hr=>zAJ hr) (zAK (zAK (zAE (zAF BL (Bg (Bg hr))) λ_ r hr=>zAJ hr) (zAE (zAF BL (Bg hr)) λ_ r hr=>zAJ hr)) ?_);exact zAK (zAE (zAF (Jd hE) (Bg hq)) λa r hr=>zAJ hr) (zAK (zAE (zAF hS (Bg hq)) λy r hr=>zAE (zAF BL hr) λ_ r hr=>zAE (zAF hS hr) λz r hr=>zAJ hr) (zAK (zAE (zAF hS (Bg hq)) λy r hr=>zAJ hr) (zAK SufR.bad (zAJ hq))))
theorem ALh {N Q:Pr Ex}(hN:Suf N)(hQ:Suf Q):Suf (Qn N Q):=λl=>by
 unfold Qn;exact zAK (zAE (zAF hN (zaa l)) λx r hr=>zAJ hr) (hQ l)
theorem Uz:∀n,Suf (IC n).1∧Suf (IC n).2.1∧Suf (IC n).2.2
 |0=>⟨λl=>SufR.err,λl=>SufR.err,λl=>SufR.err⟩
 |n+1=>by
  obtain ⟨hE,hN,hU⟩:=Uz n;have u:=ADr (n:=n) hE hU;have s:=LK (n:=n) (op:=AKq) (LK (n:=n) (op:=AEm) u);have q:=ALh hN (AHQ (n:=n) hE s);exact ⟨LK (LK q),q,u⟩
theorem XW {n:Nat}:Suf (eP n):=(Uz n).1
theorem LM {n:Nat}{s:Bs}:Suf (EK n s):=λl=>by
 unfold EK;exact zAK (zAF XW (zaa l)) (zAJ (zar l))
theorem AHR {n:Nat}:Suf (Gy n):=λl=>by
 unfold Gy;exact zAK (zAJ (zaa l)) (zAK (zAJ (Bg (Bg (zaa l)))) (zAE (XW l) λx r hr=>zAK (zAE (zAF Cc (Bg hr)) λa r hr=>zAJ hr) (zAJ hr)))
theorem ADu {n:Nat}:Suf (Hf n):=λl=>by
 unfold Hf;exact zAE (XW l) λx r hr=>zAK (zAJ (Bg hr)) (zAK (zAJ (Bg hr)) (zAJ hr))
theorem Je:Suf DC:=λl=>by
 unfold DC;exact zAE (Cc l) λs r hr=>zAK (zAE (zAF Cc (Bg hr)) λa r hr=>zAJ hr) (zAK (zAE (zAF Cc hr) λa r hr=>zAJ hr) (zAJ hr))
theorem Ti {n:Nat}{b:Bool}:Suf (GY n b):=λl=>by
 unfold GY;exact zAE (BL l) λ_ r hr=>zAE (zAF Je hr) λs r hr=>zAE (zAF BL hr) λ_ r hr=>zAE (zAF XW hr) λx r hr=>zAJ hr
theorem Ht {n:Nat}:∀m acc,Suf (DU n m acc)
 |0,acc=>λl=>zAJ (zar l)
 |m+1,acc=>λl=>by
  have hl:=zaa l;unfold DU;exact zAK (zAE (zAF Je hl) λs r hr=>zAF (Ht m _) hr) (zAK (zAE (zAF BL hl) λ_ r hr=>zAE (zAF Je hr) λs r hr=>zAF (Ht m _) hr) (zAK (zAE (zAF Ti hl) λs r hr=>zAF (Ht m _) hr) (zAK (zAE (zAF Ti hl) λs r hr=>zAF (Ht m _) hr) (zAK (zAE (Ti l) λs r hr=>zAF (Ht m _) hr) (zAJ (zar l))))))
theorem AHS {n:Nat}:Suf (Jy n):=λl=>by
 unfold Jy;exact zAE (Je l) λs r hr=>zAF (Ht n _) hr
theorem PR {α:Type}{s:Bs}{d:α}{p:Pr α}(h:Suf p):Suf (Po s d p):=λl=>by
 unfold Po;exact zAK (zAF h (zaa l)) (zAJ (zar l))
theorem AKo {α:Type}{p:Pr α}(h:Suf p):Suf (byP p):=λl=>by
 unfold byP;exact zAE (BL l) λ_ r hr=>zAF h hr
theorem ADt {n:Nat}:Suf (Ha n):=λl=>by
 unfold Ha;have hl:(if isT l [100,105,115,116,105,110,99,116]=true then l.tail else l) <:+ l:=by
  split
  ·exact zaa l
  ·exact zar l
 exact zAE (zAF (Jf AHR) hl) λ_ r hr=>zAE (zAF (PR AHS) hr) λ_ r hr=>zAE (zAF LM hr) λ_ r hr=>zAE (zAF (PR (AKo (Jf XW))) hr) λ_ r hr=>zAE (zAF LM hr) λ_ r hr=>zAE (zAF (PR (AKo (Jf ADu))) hr) λ_ r hr=>zAE (zAF (PR VA) hr) λ_ r hr=>zAE (zAF (PR VA) hr) λ_ r hr=>zAJ hr
theorem ALg {n:Nat}:Suf (Tj n):=λl=>by
 unfold Tj;exact zAE (Cc l) λ_ r hr=>zAE (zAF BL hr) λ_ r hr=>zAE (zAF XW hr) λ_ r hr=>zAJ hr
theorem LJ:∀m c,Suf (Ff m c)
 |0,c=>λl=>zAJ (zar l)
 |m+1,c=>λl=>by
  have hl:=zaa l;unfold Ff;exact zAK (zAE (zAF BL hl) λ_ r hr=>zAF (LJ m _) hr) (zAK (zAE (zAF BL hl) λ_ r hr=>zAF (LJ m _) hr) (zAK (zAF (LJ m _) hl) (zAK (zAE (zAF ADv hl) λx r hr=>zAF (LJ m _) hr) (zAJ (zar l)))))
theorem ABZ {n:Nat}:Suf (Es n):=λl=>by
 unfold Es;exact zAE (Cc l) λs r hr=>zAK SufR.bad (zAF (LJ n _) (Bg hr))
theorem AAN {n:Nat}:∀m cs ks,Suf (FV n m cs ks)
 |0,cs,ks=>λl=>zAJ (zar l)
 |m+1,cs,ks=>λl=>by
  unfold FV;exact zAE (zAK (zAE (zAF BL (zaa l)) λ_ r hr=>zAE (zAF (Jd Cc) hr) λk r hr=>zAJ hr) (zAE (ABZ l) λc r hr=>zAJ hr)) λx r hr=>zAK (zAF (AAN m _ _) (Bg hr)) (zAJ hr)
theorem ADs {n:Nat}:Suf (MK n):=λl=>by
 unfold MK;exact zAE (Cc l) λ_ r hr=>zAE (zAF BL hr) λ_ r hr=>zAE (zAF (AAN (n+1) [] []) hr) λx r hr=>zAK SufR.bad (zAE (zAF BL hr) λ_ r hr=>zAJ hr)
theorem ABY {n:Nat}:Suf (FQ n):=λl=>by
 unfold FQ;have hl:(if isT l [117,110,105,113,117,101]=true then l.tail else l) <:+ l:=by
  split
  ·exact zaa l
  ·exact zar l
 exact zAK (zAF ADs (zaa l)) (zAE (zAF BL hl) λ_ r hr=>zAE (zAF Cc hr) λ_ r hr=>zAE (zAF BL hr) λ_ r hr=>zAE (zAF Cc hr) λ_ r hr=>zAE (zAF (Jd Cc) hr) λ_ r hr=>zAJ hr)
theorem ABW {n:Nat}:Suf (Dn n):=λl=>by
 unfold Dn;exact zAE (BL l) λ_ r hr=>zAE (zAF Cc hr) λ_ r hr=>zAE (zAK (zAF (Jd Cc) hr) (zAJ hr)) λ_ r hr=>zAE (zAF BL hr) λ_ r hr=>zAE (zAF (Jf (Jd XW)) hr) λ_ r hr=>zAJ hr
theorem ABV {n:Nat}:Suf (Dl n):=λl=>by
 unfold Dl;exact zAE (Cc l) λ_ r hr=>zAE (zAF BL hr) λ_ r hr=>zAE (zAF (Jf ALg) hr) λ_ r hr=>zAE (zAF LM hr) λ_ r hr=>zAJ hr
theorem ABX {n:Nat}:Suf (Dp n):=λl=>by
 unfold Dp;exact zAE (BL l) λ_ r hr=>zAE (zAF Cc hr) λ_ r hr=>zAE (zAF LM hr) λ_ r hr=>zAJ hr
def tw (t:Tok):Nat:=if t.kind==2||t.kind==5 then t.text.length else 0
def twL (l:List Tok):Nat:=(l.map tw).sum
theorem Sm {l r:List Tok}(h:r <:+ l):twL r≤twL l:=by
 obtain ⟨a,rfl⟩:=h;simp only [twL,zM,zaL];omega
theorem Oj {l:List Tok}{s:Bs}(h:isT l s=true)(hs:s≠[]):twL l=s.length+twL l.tail:=by
 cases l with
 |nil=>
  exfalso
  simp only [isT,hd,List.headD_nil,zF,beq_iff_eq] at h;exact hs h.2.symm
 |cons t l=>
  simp only [isT,hd,List.headD_cons,zF,beq_iff_eq] at h;simp only [twL,zG,zai,List.tail_cons,tw];rw [if_pos h.1,h.2]
theorem AHD {n:Nat}{l r:List Tok}{s:TStmt}(h:EF n l= .ok s r):twL r+5≤twL l:=by
 have key:∀{w:Bs} {x:Res TStmt},isT l w=true→w≠[]→SufR l.tail x→x= .ok s r→twL r+w.length≤twL l:=by
  intro w x h1 h2 h3 h4;have:=Sm (h3 _ _ h4);have:=Oj h1 h2;omega
 unfold EF at h;split at h
 ·have:=key (w:=[115,101,108,101,99,116]) zA zx (zAE (ADt _) λq r hr=>zAJ hr) h;simp only [zf,zh] at this;omega
 split at h
 ·have:=key (w:=[105,110,115,101,114,116]) zA zx (ABW _) h;simp only [zf,zh] at this;omega
 split at h
 ·have:=key (w:=[117,112,100,97,116,101]) zA zx (ABV _) h;simp only [zf,zh] at this;omega
 split at h
 ·have:=key (w:=[100,101,108,101,116,101]) zA zx (ABX _) h;simp only [zf,zh] at this;omega
 split at h
 ·have:=key (w:=[99,114,101,97,116,101]) zA zx (ABY _) h;simp only [zf,zh] at this;omega
 split at h
 ·rename_i hd0
  have h0:=Oj hd0 zx;unfold Gi at h;split at h
  ·rename_i ht
   have h1:=Oj ht zx;have h2:=Sm ((zAE (l:=l.tail.tail) (Cc _) λq r hr=>zAJ hr) _ _ h);simp only [zf,zh] at h0 h1;omega
  ·obtain ⟨u,q,g1,g2⟩:=bind_ok h;unfold AC at g1;split at g1
   ·rename_i ht
    simp only [Res.ok.injEq] at g1;obtain ⟨_,rfl⟩:=g1;have h1:=Oj ht zx;have h2:=Sm ((zAE (l:=l.tail.tail) (Cc _) λq r hr=>zAJ hr) _ _ g2);simp only [zf,zh] at h0 h1;omega
   ·cases g1
 split at h
 ·have:=key (w:=[98,101,103,105,110]) zA zx (zAJ (zar _)) h;simp only [zf,zh] at this;omega
 split at h
 ·have:=key (w:=[99,111,109,109,105,116]) zA zx (zAJ (zar _)) h;simp only [zf,zh] at this;omega
 ·obtain ⟨u,q,g1,g2⟩:=bind_ok h;unfold AC at g1;split at g1
  ·rename_i ht
   simp only [Res.ok.injEq] at g1;obtain ⟨_,rfl⟩:=g1;have h1:=Oj ht zx;simp only [Res.ok.injEq] at g2;obtain ⟨_,rfl⟩:=g2;simp only [zf,zh] at h1;omega
  ·cases g1
theorem Oi (n:Nat):∀(m:Nat) (acc:List TStmt) (l:List Tok) (x:List TStmt) (r:List Tok),CV n m acc l= .ok x r→5 * x.length+twL r≤5 * acc.length+twL l
 |0,acc,l,x,r,h=>by
  simp only [CV,Res.ok.injEq] at h;obtain ⟨rfl,rfl⟩:=h;exact zt _
 |m+1,acc,l,x,r,h=>by
  unfold CV at h;split at h
  ·simp only [Res.ok.injEq] at h;obtain ⟨rfl,rfl⟩:=h;exact zt _
  split at h
  ·have h1:=Oi n m _ _ _ _ h;have h2:=Sm (zaa l);omega
  ·obtain ⟨s,q,g1,g2⟩:=bind_ok h;split at g2
   ·have h1:=Oi n m _ _ _ _ g2;have h2:=AHD g1;rw [zk,List.length_singleton] at h1;omega
   ·cases g2
theorem JD:∀(b:Bool) (s:Bs),(CY b s).length≤s.length
 |b,[]=>by cases b <;> simp [CY]
 |true,c::r=>by
  unfold CY;have h1:=JD false r;have h2:=JD true r;split <;> simp only [zf] <;> omega
 |false,c::r=>by
  unfold CY;have h1:=JD false r;have h2:=JD true r;repeat' split
  all_goals simp only [zf]
  all_goals omega
theorem Pg (q:UInt8):∀(n:Nat) (l:Bs) (s r:Bs),l.length≤n→Eg q l=some (s,r)→r.length≤l.length
 |0,l,s,r,hn,h=>by
  have:=zQ (Nat.le_zero.1 hn);subst this;simp [Eg] at h
 |n+1,[],s,r,hn,h=>by simp [Eg] at h
 |n+1,c::l,s,r,hn,h=>by
  simp only [zf] at hn;unfold Eg at h;split at h
  ·cases h
  split at h
  ·simp only [zaH,zah] at h;obtain ⟨⟨a,b⟩,h1,_,rfl⟩:=h;have:=Pg q n l a b zo h1;simp only [zf];omega
  ·split at h
   ·simp only [zn,zah] at h;obtain ⟨_,rfl⟩:=h;simp
   ·rename_i d r'
    simp only [zf] at hn;split at h
    ·simp only [zaH,zah] at h;obtain ⟨⟨a,b⟩,h1,_,rfl⟩:=h;have:=Pg q n r' a b zo h1;simp only [zf];omega
    ·simp only [zn,zah] at h;obtain ⟨_,rfl⟩:=h;simp
theorem AIs (p:UInt8→Bool)(s:Bs):(s.takeWhile p).length+(s.dropWhile p).length=s.length:=by
 rw [←zk,List.takeWhile_append_dropWhile]
theorem ALu {a:Nat}{s r:Bs}{t:Tok}(h:Hy a s= .tok t r):tw t+r.length≤s.length:=by
 cases s with
 |nil=>simp [Hy] at h
 |cons c s=>
  simp only [Hy] at h;split at h
  ·have hw:=AIs (λc=>DJ c||Bi c) (c::s);unfold NK at h;split at h
   ·cases h
   ·simp only [LexR.tok.injEq] at h;obtain ⟨rfl,rfl⟩:=h;have:tw ⟨if wordsL.contains (((c::s).takeWhile λc=>DJ c||Bi c).map Ej) then 2 else 1,a,((c::s).takeWhile λc=>DJ c||Bi c).map Ej,0⟩≤((c::s).takeWhile λc=>DJ c||Bi c).length:=by
     unfold tw;simp only
     split
     ·rw [zaR];exact zt _
     ·exact zaw _
    omega
  split at h
  ·have hw:=AIs Bi (c::s);split at h
   ·cases h
   ·split at h
    ·cases h
    ·simp only [LexR.tok.injEq] at h;obtain ⟨rfl,rfl⟩:=h;have h0:tw ⟨3,a,[],‹Int›⟩=0:=rfl;simp only [zf] at hw;simp only [tw,zf];simp
     omega
  split at h
  ·split at h
   ·cases h
   ·rename_i s' r' hq
    have:=Pg c _ s s' r' (zt _) hq;split at h
    ·split at h
     ·cases h
     ·simp only [LexR.tok.injEq] at h;obtain ⟨rfl,rfl⟩:=h;simp only [tw,zf];simp;omega
    ·simp only [LexR.tok.injEq] at h;obtain ⟨rfl,rfl⟩:=h;simp only [tw,zf];simp;omega
  ·split at h
   ·cases h
   ·rename_i s' hs
    simp only [LexR.tok.injEq] at h;obtain ⟨rfl,rfl⟩:=h;have hp:=List.find?_some hs;have hle:s'.length≤(c::s).length:=by
     have:=(zbe.1 hp).length_le;exact this
    have:(if s'=[33,61] then [60,62] else s').length=s'.length:=by
     split
     ·rename_i e;rw [e];rfl
     ·rfl
    simp only [tw];rw [zZ];simp only [this];simp only [zf] at hle ⊢;simp;omega
theorem Ya (n:Nat):∀(m:Nat) (acc:List Tok) (s:Bs) (l:List Tok),Gu n m acc s= .toks l→twL l≤twL acc+s.length
 |0,acc,s,l,h=>by
  simp only [Gu,LexA.toks.injEq] at h;subst h;omega
 |m+1,acc,s,l,h=>by
  unfold Gu at h;have hs:=JD false s;split at h
  ·simp only [LexA.toks.injEq] at h;subst h;simp only [twL,zM,zaL,zG,zak,zai,zaC,tw];simp
  ·rename_i c r hc
   rw [hc] at hs;split at h
   ·cases h
   ·rename_i t r' ht
    have h1:=ALu ht;have h2:=Ya n m _ _ _ h;simp only [twL,zM,zaL,zG,zak,zai,zaC] at h2 ⊢;omega
theorem few:YS:=by
 intro t;have hr:5 * (readA t).1.length≤t.length:=by
  unfold readA;split
  ·simp
  ·rename_i l hl
   have h1:=Ya _ _ _ _ _ hl;have h0:twL []=0:=rfl;split
   ·rename_i x r hx
    have h2:=Oi _ _ _ _ _ _ hx;simp only [zh] at h2;simp only;omega
   ·simp
 unfold Ce;split
 ·simp
 split
 ·simp
 split
 ·simp
 ·simp only;omega
def s12:Ses:={pid:=1,secret:=2}
theorem s12_wt:Wt s12:=⟨rfl,rfl,by decide+kernel⟩
theorem AED:BdS s12:=⟨zaw _,zaw _,rfl⟩
theorem OU:wgt s12≤5:=by decide
theorem APi {dec:Int→Bs}{rp:Rpl}:Mid dec rp s12 [] (s12,0,[],[]):=by
 refine ⟨s12_wt,?_⟩;have e:Bj s12 []=s12:=by simp [Bj,s12]
 rw [e];show RunH dec rp s12 0 (BI [] s12) 0 [];have e2:BI [] s12=s12:=by simp [BI,s12]
 rw [e2];refine .done ?_;unfold DY;rw [if_neg zx,s12_wt.r];rfl
theorem AFE {dec:Int→Bs}{rp:Rpl}{x:Bs}{q r:Ses×Nat×Bs×List Int}(h1:Mid dec rp s12 x q)(h2:Mid dec rp s12 x r):q.1=r.1∧q.2.2.1=r.2.2.1∧q.2.2.2=r.2.2.2:=by
 obtain ⟨S1,i1,o1,A1⟩:=q;obtain ⟨S2,i2,o2,A2⟩:=r;obtain ⟨e1,e2,e3⟩:=h1.run.same h2.run;have a1:S1.out=[]:=h1.w.o;have a2:S2.out=[]:=h2.w.o;simp only at e1 e3 ⊢
 have f1:o1=o2:=by
  have:=congrArg Ses.out e1;simp only [BI] at this;rw [a1,a2] at this;simpa using this
 subst f1;refine ⟨?_,rfl,e3⟩;cases S1;cases S2
 simp only [BI,Ses.mk.injEq] at e1 a1 a2 ⊢;subst a1 a2;simp_all
theorem Hz {dec:Int→Bs}{rp:Rpl}{x:Bs}{q:Ses×Nat×Bs×List Int}(h:Mid dec rp s12 x q)(hx:x.length≤20000):q.2.2.2.length≤8001:=by
 have h1:=h.run.weight few;have h2:=Sj s12 x;have h3:=OU;omega
section
variable {ω:Om}{I:Imm}{L F:LH}{K:Value→M}
theorem AFp {I0:Imm}{X Y:LH}{v:Value}{l:Bs}[h:LSub X Y](ho:OwB X v l)(hk:K (.string ⟨l.toArray⟩) I L):Rv (some (Stay I0 Y)) (bsR v) K I L:=by
 obtain ⟨hl,h2⟩:=ho;rcases h2 with ⟨rfl,h0,a,rfl⟩|⟨bb,cap,cs,rfl,rfl,hcs,hle,hcell⟩
 ·have:l=[]:=zQ h0;subst this;exact ⟨_,λI' L' hS=>.inl ⟨a,0,rfl,rfl⟩,hk⟩
 ·refine ⟨_,λI' L' hS=>.inr ⟨bb,0,l.length,cap,l,rfl,rfl,λj u hu=>?_,rfl⟩,hk⟩;rw [zaS];exact Cell.own (hS.2 _ (h.sub _ (zN.2 rfl))) (hcell j u hu)
theorem AFe {G:Imm}(hP:Ua G)(hTok:EE ω G)(hLim:Qi ω){w wc wl:Value}{bs:Bs}{cuts:List Int}{l:List TReply}(hG:Ext G I)(hw:Bytes I w bs)(hwc:RL (AGx .i64) 1 I [] wc cuts)(hcl:cuts.length≤1000000000)(hwl:RL TReplyV 6 I [] wl l)(hl:l.length≤100000000)(hi:∀r∈l,VY r.fO∧Nu r.fO≤1048576)
  (hk:∀I',Ext I I'→K (.bool true) I' []):CT ω 3 #[w,wc,wl] K I []:=by
 refine AQu ?_;unfold sh3;refine call (YN hTok hLim hG (λI1 hI1=>?_));refine call (KL 1 2 zo zo (λb1 X1 hS1=>?_));simp only [show ((0:Int) != 0)=false from rfl,zad,SSd,Nat.reduceAdd];refine call (KL 1 2 zo zo (λb2 X2 hS2=>?_));simp only [show ((0:Int) != 0)=false from rfl,zad,hw.len,SSd,Nat.reduceAdd];refine AP (λhb=>zAG [] (zAA (hk I1 hI1))) (λhb=>?_);have hbl:bs.length≤20000:=by have:=of_decide_eq_false hb;omega
 obtain ⟨al,kl,rfl⟩:=zAH hwl;try refine zqe ?_
 refine Am (λh1=>?_);try refine zqe ?_
 refine Am (λh2=>?_);have hwl1:=zAL (R:=TReplyV) (I:=I) (I':=I1) (λ_ _ h=>TReplyV.mono h hI1) hwl hI1 (λ_ h=>h);have HA:HoM I1 l (s12,0,[],[]) h1 b1 ((h1,Fh b1 (.slice al l.length kl) 0 (.slice none 0 0) (.slice none 0 0))::(X1++([]++[]))):=⟨_,_,_,X1,[],[],rfl,hwl1,hS1,zAN _ _,zAN _ _⟩;have HB:HoM I1 l (s12,0,[],[]) h2 b2 ((h2,Fh b2 (.slice al l.length kl) 0 (.slice none 0 0) (.slice none 0 0))::(X2++([]++[]))):=⟨_,_,_,X2,[],[],rfl,hwl1,hS2,zAN _ _,zAN _ _⟩;simp only [zaK] at HA HB;have hpw:∀q:Ses×Nat×Bs×List Int,q.2.2.1.length+Au q.1=Pi q:=λ_=>rfl;have hp0:Pi (s12,0,[],[])=0:=by decide
 refine call (Cal.to ((h1,Fh b1 (.slice al l.length kl) 0 (.slice none 0 0) (.slice none 0 0))::(X1++((h2,Fh b2 (.slice al l.length kl) 0 (.slice none 0 0) (.slice none 0 0))::(X2++[])))) ?_);obtain ⟨qa,ha1,ha2⟩:=Mid.feed (dec:=BB true) (rp:=rpL l) few rfl OU APi (y:=bs) (by simpa using hbl);rw [zaJ] at ha2;have haA:=Hz ha2 hbl;refine KN (X:=(h1,Fh b1 (.slice al l.length kl) 0 (.slice none 0 0) (.slice none 0 0))::X1) (F:=(h2,Fh b2 (.slice al l.length kl) 0 (.slice none 0 0) (.slice none 0 0))::(X2++[])) hP hTok hLim hl hi (zAB hG hI1) HA (hw.mono hI1) zo AED (zt _) (by rw [ha1];show qa.2.2.2.length≤_;omega) (by rw [hp0];omega) (λI2 Xa hI2 HA2 hbA hiA hpA=>?_);rw [ha1] at HA2 hbA hiA hpA;simp only [ha1] at HA2 hbA hiA hpA ⊢;have endB:∀(I3:Imm) (Xb:LH) (q:Ses×Nat×Bs×List Int) (at':Nat),Ext I2 I3→HoM I3 l q h2 b2 Xb→Mid (BB true) (rpL l) s12 (bs.take at') q→BdS q.1→q.2.1≤q.2.2.2.length→Pi q≤4020000 * at'+1100 * 201+300001100 * q.2.2.2.length→at'≤bs.length→
   Ur ω w (.bool false) (Ac b1) (Ac b2) (Ac h1) (Ac h2) (.bool true) (.int .i64 (at':Nat)) (λv=>Gh (K v)) I3 (Xa++(Xb++[])):=by
  intro I3 Xb q at' hI3 HB3 hm hbd hia hp hat;unfold Ur;have hE:=zAB hI1 (zAB hI2 hI3);obtain ⟨v',e1,e2⟩:=Bytes.drop (hw.mono hE) (n:=at') hat;simp only [e1,SSd,Nat.reduceAdd];have hml:(bs.take at').length=at':=by rw [zB];omega
  obtain ⟨qb,hb1,hb2⟩:=Mid.feed (dec:=BB true) (rp:=rpL l) few rfl OU hm (y:=bs.drop at') (by rw [hml,zZ];omega);rw [zaf] at hb2;have hqa:=Hz hm zo;have hqb:=Hz hb2 hbl;refine call (KN (X:=Xb) (s:=q.1) (i:=q.2.1) (out:=q.2.2.1) (asked:=q.2.2.2) hP hTok hLim hl hi (zAB hG hE) HB3 e2 (by rw [zZ];omega) hbd hia (by rw [show ((q.1,q.2.1,q.2.2.1,q.2.2.2):Ses×Nat×Bs×List Int)=q from rfl,hb1];show qb.2.2.2.length≤_;omega) (by show Pi q≤_;omega) (λI4 Xc hI4 HC hbC hiC hpC=>?_));rw [show ((q.1,q.2.1,q.2.2.1,q.2.2.2):Ses×Nat×Bs×List Int)=q from rfl,hb1] at HC;rw [show ((q.1,q.2.1,q.2.2.1,q.2.2.2):Ses×Nat×Bs×List Int)=q from rfl,hb1];simp only at HC ⊢
  obtain ⟨s1,s2,s3⟩:=AFE ha2 hb2;have HA4:=HA2.mono (zAB hI3 hI4);obtain ⟨vl1,vo1,va1,XS1,XO1,XA1,rfl,u1,u2,u3,u4⟩:=HA4;obtain ⟨vl2,vo2,va2,XS2,XO2,XA2,rfl,w1,w2,w3,w4⟩:=HC;obtain ⟨Sa,ia,oa,Aa⟩:=qa;obtain ⟨Sb,ib,ob,Ab⟩:=qb;simp only at s1 s2 s3 u2 u3 u4 w2 w3 w4
  subst s1 s2 s3;obtain ⟨aa1,ka1,rfl⟩:=u4.form;obtain ⟨aa2,ka2,rfl⟩:=w4.form;simp only [zi,zaK,zad,SSd,Nat.reduceAdd];refine Dy ?_;try refine zqe ?_
  refine BM ?_;refine AFp u3 ?_;try refine zqe ?_
  refine BM ?_;refine AFp w3 ?_;simp only [sNe,beq_self_eq_true,zad,SSd,Nat.reduceAdd];refine BM ?_;try refine zqe ?_
  refine BM ?_;simp only [Hl,bne_self_eq_false,SSd,Nat.reduceAdd];have hAl:Aa.length≤8001:=haA;refine loop (λm st I' L'=>∃k:Nat,k+m=Aa.length∧st=(Value.bool false,Value.int .i64 (k:Nat),())∧I'=I4∧L'=((h2,Fh b2 vl2 ib vo2 (Value.slice aa2 Aa.length ka2))::(XS2++(XO2++(XA2++(h1,Fh b1 vl1 ia vo1 (Value.slice aa1 Aa.length ka1))::(XS1++(XO1++XA1))))))) Aa.length ⟨0,by omega,rfl,rfl,rfl⟩ ?_;rintro m st I5 L5 ⟨k,hkm,rfl,rfl,rfl⟩;unfold AIx;try refine zqe ?_
  refine rdb ?_;try refine zqe ?_
  refine AP (λhb5=>?_) (λhb5=>?_)
  ·have hk:k < Aa.length:=by have:=of_decide_eq_true hb5;omega
   obtain ⟨p1,e1,g1⟩:=SlO.ix u4 .i64 hk;obtain ⟨p2,e2,g2⟩:=SlO.ix w4 .i64 hk;have hcell:((QE Aa).drop (k * 1)).take 1=[.int .i64 Aa[k]]:=by
    rw [Nat.mul_one];have hlt:k < (QE Aa).length:=by simpa [QE] using hk
    rw [zaz hlt];simp [QE]
   rw [hcell] at g1 g2;refine Dy ?_;try refine zqe ?_
   refine BM ?_;simp only [e1,SSd,Nat.reduceAdd];refine AHp (λI' L' hS=>g1 I' L' (λx hx=>hS.2 _ (zH _ (zam _ (zam _ (zam _ (zH _ (zam _ (zam _ hx)))))))) 0 _ rfl) ?_;try refine zqe ?_
   refine BM ?_;simp only [e2,SSd,Nat.reduceAdd];refine AHp (λI' L' hS=>g2 I' L' (λx hx=>hS.2 _ (zH _ (zam _ (zam _ (zae _ hx))))) 0 _ rfl) ?_;simp only [bne_self_eq_false,wrap_i64 ((k:Int)+1) zo,SSd,Nat.reduceAdd];exact zAA ⟨m - 1,by omega,k+1,by omega,rfl,rfl,rfl⟩
  ·unfold ADf;refine call (Cal.to (XS1++(XS2++[])) ?_);refine JC (X:=XS1) u2 ?_;refine call (Cal.to (XS2++[]) ?_);refine JC (X:=XS2) w2 ?_;simp only [beq_self_eq_true,SSd,Nat.reduceAdd];exact zAG [] (zAA (hk _ (zAB hE hI4)))
 refine loop (λm st I' L'=>∃(k at':Nat) (q:Ses×Nat×Bs×List Int) (Xb:LH),k+m=cuts.length+1∧k≤cuts.length∧k≤200∧st=(Value.bool false,Value.int .i64 (at':Nat),Value.int .i64 (k:Nat),())∧Ext I2 I'∧L'=Xa++(Xb++[])∧HoM I' l q h2 b2 Xb∧Mid (BB true) (rpL l) s12 (bs.take at') q∧BdS q.1∧q.2.1≤q.2.2.2.length∧Pi q≤4020000 * at'+1100 * k+300001100 * q.2.2.2.length∧at'≤bs.length) (cuts.length+1)
  ⟨0,0,(s12,0,[],[]),(h2,Fh b2 (.slice al l.length kl) 0 (.slice none 0 0) (.slice none 0 0))::X2,by omega,by omega,by omega,rfl,zAC _,rfl,HB.mono hI2,APi,AED,zt _,by rw [hp0];omega,by omega⟩ ?_
 rintro m st I3 L3 ⟨k,at',q,Xb,hkm,hkl,hk200,rfl,hI3,rfl,HB3,hm,hbd,hia,hp,hat⟩;have hE:=zAB hI1 (zAB hI2 hI3);unfold AIz;have fin:Ur ω w (.bool false) (Ac b1) (Ac b2) (Ac h1) (Ac h2) (.bool true) (.int .i64 (at':Nat)) (λv=>Gh (K v)) I3 (Xa++(Xb++[])):=endB I3 Xb q at' hI3 HB3 hm hbd hia zo hat;simp only [zAQ hwc,hw.len,SSd,Nat.reduceAdd];refine BZ (λhb1=>?_) (λhb1=>fin);try refine zqe ?_
 refine AP (λhb2=>?_) (λhb2=>fin);have hk:k < cuts.length:=by have:=of_decide_eq_true hb1;omega
 have hk2:k < 200:=by have:=of_decide_eq_true hb2;omega
 have hwc3:=zAL (R:=AGx .i64) (I:=I) (I':=I3) (λ_ _ h=>h) hwc hE (λ_ h=>h);obtain ⟨bt,off,c1,g1,gl,g2,g3⟩:=RL.ix hwc3 (i:=k) zo zo;rw [BH hk] at g2;have g2:c1=[.int .i64 cuts[k]]:=g2;subst g2;generalize cuts[k]=c at *;have hrd:∀{K:Value→M} {L:LH},K (.int .i64 c) I3 L→Rv none (BN (.pointer (some ⟨bt,off,none⟩))) K I3 L:=λh=>rd1 (g3 _ _ (zAC _) (λ_ h=>by cases h) 0 _ rfl) h;have next:∀(I4:Imm) (L4:LH) (q4:Ses×Nat×Bs×List Int) (Xc:LH) (at4:Nat) [SubP (Xa++(Xc++[])) L4],Ext I3 I4→HoM I4 l q4 h2 b2 Xc→Mid (BB true) (rpL l) s12 (bs.take at4) q4→BdS q4.1→q4.2.1≤q4.2.2.2.length→Pi q4≤4020000 * at4+1100 * (k+1)+300001100 * q4.2.2.2.length→at4≤bs.length→
   Us ω (.bool false) (.int .i64 (at4:Nat)) (.int .i64 (k:Nat)) (λst=>Gh λI' L'=>∃m',m' < m∧∃(k at':Nat) (q:Ses×Nat×Bs×List Int) (Xb:LH),k+m'=cuts.length+1∧k≤cuts.length∧k≤200∧st=(Value.bool false,Value.int .i64 (at':Nat),Value.int .i64 (k:Nat),())∧Ext I2 I'∧L'=Xa++(Xb++[])∧HoM I' l q h2 b2 Xb∧Mid (BB true) (rpL l) s12 (bs.take at') q∧BdS q.1∧q.2.1≤q.2.2.2.length∧Pi q≤4020000 * at'+1100 * k+300001100 * q.2.2.2.length∧at'≤bs.length) (λv=>Gh (K v)) I4 L4:=by
  intro I4 L4 q4 Xc at4 _ hI4 H4 m4 b4 i4 p4 a4;unfold Us;simp only [wrap_i64 ((k:Int)+1) zo,SSd,Nat.reduceAdd];exact zAG (Xa++(Xc++[])) (zAA ⟨m - 1,by omega,k+1,at4,q4,Xc,by omega,by omega,by omega,rfl,zAB hI3 hI4,rfl,H4,m4,b4,i4,p4,a4⟩)
 have same:=next I3 (Xa++(Xb++[])) q Xb at' (zAC _) HB3 hm hbd hia zo hat;try simp only [g1,SSd,Nat.reduceAdd]
 refine hrd ?_;try refine zqe ?_
 refine BZ (λhb3=>?_) (λhb3=>same);try simp only [g1,SSd,Nat.reduceAdd]
 refine hrd ?_;try refine zqe ?_
 refine AP (λhb4=>?_) (λhb4=>same);have hc1:(at':Int) < c:=of_decide_eq_true hb3;have hc2:c < (bs.length:Nat):=of_decide_eq_true hb4;obtain ⟨n,rfl⟩:∃n:Nat,c=n:=⟨c.toNat,by omega⟩;unfold AIy;try simp only [g1,SSd,Nat.reduceAdd]
 refine hrd ?_;obtain ⟨v',e1,e2⟩:=Bytes.part (hw.mono hE) (lo:=at') (hi:=n) zo zo;simp only [e1,SSd,Nat.reduceAdd];have hml:(bs.take at').length=at':=by rw [zB];omega
 have hpl:((bs.drop at').take (n - at')).length=n - at':=by rw [zB,zZ];omega
 have hcat:bs.take at'++(bs.drop at').take (n - at')=bs.take n:=by
  have h1:bs.take n=bs.take (at'+(n - at')):=by congr 1;omega
  rw [h1,List.take_add]
 obtain ⟨qb,hb1',hb2'⟩:=Mid.feed (dec:=BB true) (rp:=rpL l) few rfl OU hm (y:=(bs.drop at').take (n - at')) (by rw [hml,hpl];omega);rw [hcat] at hb2';have hqa:=Hz hm zo;have hqb:=Hz hb2' (by rw [zB];omega);refine call (KN (X:=Xb) (s:=q.1) (i:=q.2.1) (out:=q.2.2.1) (asked:=q.2.2.2) hP hTok hLim hl hi (zAB hG hE) HB3 e2 (by rw [hpl];omega) hbd hia (by rw [show ((q.1,q.2.1,q.2.2.1,q.2.2.2):Ses×Nat×Bs×List Int)=q from rfl,hb1'];show qb.2.2.2.length≤_;omega) (by show Pi q≤_;omega) (λI4 Xc hI4 HC hbC hiC hpC=>?_));rw [show ((q.1,q.2.1,q.2.2.1,q.2.2.2):Ses×Nat×Bs×List Int)=q from rfl] at HC hbC hiC hpC ⊢;rw [hb1'] at HC hbC hiC hpC ⊢;simp only at HC hbC hiC hpC ⊢
 rw [hpl] at hpC;simp only [zad,g1,SSd,Nat.reduceAdd];refine rd1 (g3 _ _ hI4 (λ_ h=>by cases h) 0 _ rfl) ?_;exact next I4 _ qb Xc n hI4 HC hb2' hbC hiC zo zo
end
section
variable {H:Type}{enc:TypeId×Value→H}{W:World}{base:Nat}{cs:List Value}{d:DataW H}
theorem AEa (h:Td enc Tryz.prog W 88 cs d):∃x:TReply,(TReplyV (Dh W) x cs∧VY x.fO)∧Nu x.fO+1≤Rows.uptoBulk d:=by
 obtain ⟨hl,ds,rfl,hdl,hf⟩:=Jc Tryz.underlying88 h;rw [show Tryz.prog.cellsOf 88=6 by kernel_rfl] at hl;obtain ⟨c0,c1,c2,c3,c4,c5,rfl⟩:∃c0 c1 c2 c3 c4 c5,cs=[c0,c1,c2,c3,c4,c5]:=by
  match cs,hl with
  |[c0,c1,c2,c3,c4,c5],_=>exact ⟨c0,c1,c2,c3,c4,c5,rfl⟩
 obtain ⟨d0,d1,rfl⟩:∃d0 d1,ds=[d0,d1]:=by
  match ds,(show ds.length=2 from hdl) with
  |[d0,d1],_=>exact ⟨d0,d1,rfl⟩
 clear hl hdl h;obtain ⟨n0,⟨⟨x0,x1,vf,vr,e0,g0,g1,g2,g3⟩,q0⟩,w0⟩:=ALt (cs:=[c0,c1,c2,c3,c4]) (FK (di:=d0) Tryz.underlying88 hf 0 rfl rfl (n:=5) (by kernel_rfl));simp only [zaQ,and_true] at e0;obtain ⟨rfl,rfl,rfl,rfl,rfl⟩:=e0;obtain ⟨n1,e1,w1⟩:=MJ (k:=.i64) (by kernel_rfl) (cs:=[c5]) (FK (di:=d1) Tryz.underlying88 hf 1 rfl rfl (n:=1) (by kernel_rfl));simp only [zaQ,and_true] at e1;subst e1;refine ⟨⟨n0,n1⟩,⟨⟨_,rfl,c0,c1,c2,c3,rfl,g0,g1,g2,g3⟩,q0⟩,?_⟩;simp only [Rows.uptoBulk,Rows.uptoBulkAll];omega
theorem AMF {c:List Value}{di:DataW H}(h:Td enc Tryz.prog W 3 c di):∃x:Int,(AGx .i64 (Dh W) x c∧True)∧1≤Rows.uptoBulk di:=by
 obtain ⟨n,e,_⟩:=MJ (k:=.i64) (by kernel_rfl) h;exact ⟨n,⟨e,trivial⟩,AFo _⟩
theorem cuts_walk {v0 v1 v2:Value}{d0 d1 d2:DataW H}(hL:laidMetH Tryz.prog Rows.pgsessionCutsUptoRow.laid W)(o0:Value.okWide Tryz.prog W .any base 22 v0)(t0:Td enc Tryz.prog W 22 v0.cells.toList d0)(b0:Rows.uptoBulk d0≤1048576)
  (o1:Value.okWide Tryz.prog W .any base 23 v1) (t1:Td enc Tryz.prog W 23 v1.cells.toList d1) (b1:Rows.uptoBulk d1≤1048576)
  (o2:Value.okWide Tryz.prog W .any base 24 v2) (t2:Td enc Tryz.prog W 24 v2.cells.toList d2) (b2:Rows.uptoBulk d2≤1048576) (ω:Om):
  CT ω 3 #[v0,v1,v2] (λv I' _=>v= .bool true∧Ext (Dh W) I') (Dh W) []:=by
 obtain ⟨l,g1,g2⟩:=Ui o0 t0 b0;obtain ⟨a1,len1,cap1,rfl⟩:=WideShapes.okWide_slice (show Tryz.prog.underlying 23=some (.slice 3) by kernel_rfl) o1;obtain ⟨a2,len2,cap2,rfl⟩:=WideShapes.okWide_slice (show Tryz.prog.underlying 24=some (.slice 88) by kernel_rfl) o2;obtain ⟨xs,h1,_,h3⟩:=Kr (R:=AGx .i64) (Q:=λ_=>True) (μ:=λ_=>1) 3 (by kernel_rfl) (n:=1) (by kernel_rfl) zx t1 (λc di _ hc=>AMF hc);obtain ⟨rs,k1,k2,k3⟩:=Kr (R:=TReplyV) (Q:=λx=>VY x.fO) (μ:=λx=>Nu x.fO+1) 88 (by kernel_rfl) (n:=6) (by kernel_rfl) zx t2 (λc di _ hc=>AEa hc);have hx:xs.length≤(xs.map λ_=>1).sum:=Kt λ_ _=>zt _;have hr:rs.length≤(rs.map λx=>Nu x.fO+1).sum:=Kt λ_ _=>by omega
 exact AFe (VP hL) (ALW hL) AFJ (zAC _) g1 h1 zo k1 zo (λr hr2=>⟨k2 r hr2,by have:=Sr (f:=λx:TReply=>Nu x.fO+1) hr2;omega⟩) (λI' hI=>⟨rfl,hI⟩)
end
end Go.Proofs.YthkaekjoemhjaaaGreatDoor
