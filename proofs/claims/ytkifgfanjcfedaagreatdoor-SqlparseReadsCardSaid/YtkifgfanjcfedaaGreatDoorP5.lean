/- lemmas -/
import Derived.Test.YtkifgfanjcfedaaGreatDoorP4
set_option maxRecDepth 100000
set_option maxHeartbeats 40000000
set_option linter.unusedVariables false
set_option linter.unusedSimpArgs false
set_option linter.unusedSectionVars false
namespace Go.Proofs.YtkifgfanjcfedaaGreatDoor
open Go.SL
def XU {α:Type}(f:TValue→Pr α)(g:Pr α):Pr α:=λl=>match GR l with
 |some v=>f v l.tail
 |none=>g l
def YesL (s:Stt)(l:List Tok)(v:TValue):Prop:=s= .good l∧GR l=some v
def NoL (s:Stt):Prop:=∀l,s= .good l→GR l=none
theorem AHa {α:Type}{f:TValue→Pr α}{g:Pr α}{x:α}{v:TValue}{s s':Stt}{l:List Tok}(hy:YesL s l v)(h:Out (run (f v) (.good l.tail)) x s'):Out (run (XU f g) s) x s':=by
 obtain ⟨rfl,hy⟩:=hy;show Out (XU f g l) x s';simp only [XU,hy];exact h
theorem AHb {α:Type}{f:TValue→Pr α}{g:Pr α}{x:α}{s s':Stt}(hn:NoL s)(h:Out (run g s) x s'):Out (run (XU f g) s) x s':=by
 cases s with
 |bad e=>exact h
 |good l=>
  show Out (XU f g l) x s';simp only [XU,hn l rfl];exact h
def Oo {α:Type}(c:Bool)(w:Bs)(f g:Pr α):Pr α:=λl=>if (c&&isT l w)=true then f l.tail else g l
theorem XJ {α:Type}{w:Bs}{f g:Pr α}{x:α}{c:Bool}{s s':Stt}{l:List Tok}(hc:c=true)(hy:Yes w s l)(h:Out (run f (.good l.tail)) x s'):Out (run (Oo c w f g) s) x s':=by
 subst hc;exact VY (f:=f) (g:=g) hy h
theorem Qx {α:Type}{w:Bs}{f g:Pr α}{x:α}{c:Bool}{s s':Stt}(hn:c=false∨No w s)(h:Out (run g s) x s'):Out (run (Oo c w f g) s) x s':=by
 rcases hn with rfl|hn
 ·cases s <;> exact h
 ·cases c
  ·cases s <;> exact h
  ·exact ZG (f:=f) (g:=g) hn h
theorem ADt {l:List Tok}{v:TValue}(h:GR l=some v):(hd l).kind≠6:=by
 intro e;simp [GR,isK,isT,e] at h
theorem ADs {l:List Tok}(hT:Toks l):GR l=if (hd l).kind==4 then some ⟨3,false,0,(hd l).text⟩ else if (hd l).kind==2 then (if (hd l).text==[116,114,117,101] then some ⟨2,false,1,[]⟩ else if (hd l).text==[102,97,108,115,101] then some ⟨2,false,0,[]⟩ else if (hd l).text==[110,117,108,108] then some ⟨4,true,0,[]⟩ else none) else none:=by
 have iw:∀s:Bs,s ∉ signsL→isT l s=((hd l).kind==2&&(hd l).text==s):=by
  intro s hs;cases h:isT l s with
  |true=>
   have h6:=NL h;simp only [isT,zF,zaF,beq_iff_eq] at h;rcases h.1 with h1|h1
   ·simp [h1,h.2]
   ·have:=(hT.ok h6).2.2.1 h1;rw [h.2] at this;exact absurd this hs
  |false=>
   simp only [isT] at h;cases h2:(hd l).kind==2 with
   |false=>rfl
   |true=>rw [h2] at h;simpa using h.symm
 rw [GR,iw [116,114,117,101] zx,iw [102,97,108,115,101] zx,iw [110,117,108,108] zx];simp only [isK];by_cases h4:(hd l).kind=4 <;> by_cases h2:(hd l).kind=2 <;> simp [h4,h2]
theorem AEB:FP=XU (λv=>okP (GU v)) (itP [45] (BC KX λx=>okP (exK 4 [x])) KX):=rfl
section
variable {ω:Om}{I:Imm}{L:LH}{K:Value→M}{C:Obj→LH}{b:Nat}{w:Value}{toks:List Tok}{st:Stt}{k:Nat}{bd:Bool}
theorem UA [hF:Foc b L (RDo w k bd) C](h:TD I w toks)(hs:RdS toks st k bd)(ht:∀l v k',YesL st l v→RdS toks (.good l.tail) k' false→(Stt.good l.tail).sz+1=st.sz→K (.tuple #[.agg (Ag (GU v) (.slice none 0 0)).toArray,.bool true]) I (C (RDo w k' false)))(hf:NoL st→K (.tuple #[.agg exZ.toArray,.bool false]) I L):
  CT ω 228 #[AL b] K I L:=by
 obtain ⟨L1,L2,rfl,rfl⟩:=hF.foc;obtain ⟨bt,off,h1,h2⟩:=hs.peek h;have hlt:=hs.lt;have hle:=hs.le;have e:IntKind.i64.wrap ((k:Int)+1)=((k+1:Nat):Int):=by rw [wrap_i64 _ zo];rfl
 refine APG ?_;unfold sh228;have yes:∀{v:TValue} {L':LH},(bd=true→False)→GR (toks.drop k)=some v→SubP (L1++(b,RDo w (k+1) bd)::L2) L'→Gh (K (.tuple #[.agg (Ag (GU v) (.slice none 0 0)).toArray,.bool true])) I L':=by
  intro v L' hb hv hsb;obtain rfl:bd=false:=by simpa using hb
  refine zAE (L1++(b,RDo w (k+1) false)::L2) (zAA ?_);rcases hs.st with ⟨_,rfl⟩|⟨q,_⟩
  ·exact ht _ v (k+1) ⟨rfl,hv⟩ (hs.next (ADt hv)) hs.ok.len
  ·cases q
 have no:∀{L':LH},(bd=false→GR (toks.drop k)=none)→SubP (L1++(b,RDo w k bd)::L2) L'→Gh (K (.tuple #[.agg exZ.toArray,.bool false])) I L':=by
  intro L' hv hsb;refine zAE (L1++(b,RDo w k bd)::L2) (zAA (hf λl hl=>?_));subst hl;rcases hs.st with ⟨hb,q⟩|⟨_,q⟩
  ·cases q;exact hv hb
  ·cases q
 have hl:=ADs hs.ok;repeat' (first|refine zqa ?_|refine zqh (λ_=>?_)|(refine Qo (h2 _ [] (zAC _)) (zAC _) rfl ?_)|refine zqr ?_|refine zqb ?_|(with_reducible first|refine Ap (sh228_2.eq_1 ..) ?_|refine Ap (sh228_3.eq_1 ..) ?_|refine Ap (sh228_5.eq_1 ..) ?_|refine Ap (sh228_7.eq_1 ..) ?_|refine Ap (sh228_8.eq_1 ..) ?_|refine Ap (sh228_6.eq_1 ..) ?_|refine Ap (sh228_4.eq_1 ..) ?_|refine Ap (sh228.eq_1 ..) ?_|refine And.intro ?_ ?_)|refine zqc ?_|refine zqg (λ_=>?_) (λ_=>?_)|(simp only [SSd,Nat.reduceAdd,h1,e]))
 all_goals first
  |exact no (by intro hb;simp_all;done) inferInstance
  |exact yes (v:=⟨3,false,0,(hd (toks.drop k)).text⟩) (by intro hb;simp_all;done) (by rw [hl];simp_all;done) inferInstance
  |exact yes (v:=⟨2,false,1,[]⟩) (by intro hb;simp_all;done) (by rw [hl];simp_all;done) inferInstance
  |exact yes (v:=⟨2,false,0,[]⟩) (by intro hb;simp_all;done) (by rw [hl];simp_all;done) inferInstance
  |exact yes (v:=⟨4,true,0,[]⟩) (by intro hb;simp_all;done) (by rw [hl];simp_all;done) inferInstance
theorem ACe (n:Nat):FdE ω n b w toks 229 KX:=by
 intro K I L C st k bd hF h hs hn hk;obtain ⟨L1,L2,rfl,rfl⟩:=hF.foc;obtain ⟨bt,off,h1,h2⟩:=hs.peek h;have hlt:=hs.lt;have hle:=hs.le;have e:IntKind.i64.wrap ((k:Int)+1)=((k+1:Nat):Int):=by rw [wrap_i64 _ zo];rfl
 refine APF ?_;unfold sh229;have bad:(bd=false→isK (toks.drop k) 3=false)→Gh (K (.agg exZ.toArray)) I (L1++(b,RDo w k true)::L2):=λhb=>zAA (hk ex0 _ k true I _ hs.fail (by
   rcases hs.st with ⟨h1,h2⟩|⟨h1,h2⟩
   ·subst h2;show Out (if isK _ 3 then _ else _) _ _;rw [if_neg (by rw [hb h1];decide)];exact rfl
   ·subst h2;exact rfl) (zak _) (zAC _) ⟨none,0,rfl,zAD none 0⟩)
 have good:(bd=true→False)→isK (toks.drop k) 3=true→Gh (K (.agg (Ag (GU ⟨1,false,(hd (toks.drop k)).num,[]⟩) (.slice none 0 0)).toArray)) I (L1++(b,RDo w (k+1) bd)::L2):=λhb hk1=>by
  obtain rfl:bd=false:=by simpa using hb
  rcases hs.st with ⟨_,h2⟩|⟨h2,_⟩
  ·subst h2;have hs':=hs.next (by rw [Ih hk1];decide);have hsz:=hs.ok.len;refine zAA (hk _ _ (k+1) false I _ hs' ?_ (by simp only [Stt.sz];omega) (zAC _) ⟨none,0,rfl,zAD none 0⟩);show Out (if isK _ 3 then _ else _) _ _;rw [if_pos hk1];exact ⟨rfl,rfl⟩
  ·cases h2
 repeat' (first|refine zqa ?_|refine zqh (λ_=>?_)|(refine Qo (h2 _ [] (zAC _)) (zAC _) rfl ?_)|refine zqr ?_|refine zqb ?_|(with_reducible first|refine Ap (sh229_1.eq_1 ..) ?_|refine Ap (sh229.eq_1 ..) ?_|refine And.intro ?_ ?_)|refine zqc ?_|refine zqg (λ_=>?_) (λ_=>?_)|(simp only [SSd,Nat.reduceAdd,h1,e]))
 all_goals first
  |exact zAE _ (bad (by intro hb;simp_all [isK];done))
  |exact zAE _ (good (by intro hb;simp_all;done) (by simp_all [isK];done))
theorem AER (n:Nat):FdE ω n b w toks 215 FP:=by
 intro K I L C st k bd hF h hs hn hk;obtain ⟨L1,L2,rfl,rfl⟩:=hF.foc;refine APP ?_;unfold sh215;rw [AEB] at hk;repeat' (first|(with_reducible first|refine BM ?_|refine keepA ?_|refine AQ (λ_=>?_))|(with_reducible refine call ?_;refine UA zD zA (λl v k' hy hs' hz'=>?_) (λhno=>?_))|(with_reducible refine call ?_;refine FdE.goE (ACe n) zD zA zo (λy s' k' bd' I' a' c' hs' ho' hz' hI' hv'=>?_))|(with_reducible refine call ?_;refine Ad _ zD zA (λl k' hy hs' hz'=>?_) (λhno=>?_))|(with_reducible refine call ?_;refine BP _ zD zA (λl hy=>?_) (λhno=>?_))|(with_reducible refine call ?_;refine Aj _ zD zA (λs' k' bd' hs' ho' hz' hzz'=>?_))|(with_reducible refine call ?_;refine BB zD zA (λx s' k' bd' hs' ho' hz' hzz'=>?_))|(with_reducible first|refine BQ zC (λI' a hI' hw'=>zAA ?_)|refine BJ zC zC (λI' a hI' hw'=>zAA ?_)|refine Ba zC zC zC (λI' a hI' hw'=>zAA ?_))|(with_reducible refine call ?_;refine BN zC ?_)|refine zqr ?_|refine zqb ?_|(with_reducible first|refine Ap (sh215.eq_1 ..) ?_|refine And.intro ?_ ?_)|refine zqc ?_|refine zqg (λhb=>?_) (λhb=>?_)|refine zqe ?_|fail)
 ·exact zAE (L1++(b,RDo w k' false)::L2) (zAA (hk _ _ k' false _ _ hs' zO zo zE ⟨_,_,rfl,zAD none 0⟩))
 all_goals exact zAE (L1++(b,RDo w k' bd')::L2) (zAA (hk _ s' k' bd' _ _ hs' zO zo zE ⟨_,_,rfl,zC⟩))
theorem AIc (n : Nat) {E : Pr Ex} (s : Bs) (hE : FdE ω n b w toks 127 E) : Fd ω n b w toks 265 #[AL b, .string ⟨s.toArray⟩] (DF n E s) EW := by
  have hRow := Vr n hE
  have e1 : s = [99, 111, 97, 108, 101, 115, 99, 101] → DF n E s = BC (Bc n E) λa => okP (exK 27 a) := λh => by funext l; simp only [DF, if_pos h]; rfl
  have e2 : s ≠ [99, 111, 97, 108, 101, 115, 99, 101] → s = [108, 101, 110, 103, 116, 104] → DF n E s = BC (AP [40]) λ_ => BC E λx => BC (AP [41]) λ_ => okP (exK 8 [x]) := λh h2 => by funext l; simp only [DF, if_neg h, if_pos h2]; rfl
  have e3 : s ≠ [99, 111, 97, 108, 101, 115, 99, 101] → s ≠ [108, 101, 110, 103, 116, 104] → DF n E s = BC (AP [40]) λ_ => Oo (s == [99, 111, 117, 110, 116]) [42] (BC (AP [41]) λ_ => okP (Ed s false [exK 3 []])) (itP [100, 105, 115, 116, 105, 110, 99, 116] (BC E λx => BC (AP [41]) λ_ => okP (Ed s true [x])) (BC E λx => BC (AP [41]) λ_ => okP (Ed s false [x]))) := λh h2 => by
    funext l
    simp only [DF, if_neg h, if_neg h2]
    show _ = (AP [40] l).bind _
    congr 1
    funext _ r
    simp only [Oo, itP]
    split
    · rfl
    · cases isT r [100, 105, 115, 116, 105, 110, 99, 116] <;> rfl
  intro K I L C st k bd hF h hs hn hk
  obtain ⟨L1, L2, rfl, rfl⟩ := hF.foc
  refine AOo ?_
  unfold sh265
  repeat' (first | (with_reducible first | refine BM ?_ | refine keepA ?_ | refine AQ (λ_ => ?_)) | (with_reducible refine call ?_;refine FdE.goE hE zD zA zo (λy s' k' bd' I' a' c' hs' ho' hz' hI' hv' => ?_)) | (with_reducible refine call ?_;refine FdL.goL hRow zD zA zo (λy s' k' bd' I' a' c' hs' ho' hz' hI' hv' hl' => ?_)) | (with_reducible refine ACk (λI' a hI' hw' => zAA ?_)) | (with_reducible refine call ?_;refine Ad _ zD zA (λl k' hy hs' hz' => ?_) (λhno => ?_)) | (with_reducible refine call ?_;refine BP _ zD zA (λl hy => ?_) (λhno => ?_)) | (with_reducible refine call ?_;refine Aj _ zD zA (λs' k' bd' hs' ho' hz' hzz' => ?_)) | (with_reducible refine call ?_;refine BB zD zA (λx s' k' bd' hs' ho' hz' hzz' => ?_)) | (with_reducible first | refine BQ zC (λI' a hI' hw' => zAA ?_) | refine BJ zC zC (λI' a hI' hw' => zAA ?_) | refine Ba zC zC zC (λI' a hI' hw' => zAA ?_)) | (with_reducible refine call ?_;refine BN zC ?_) | (with_reducible refine rdb ?_) | ((with_reducible first | refine st1 ?_ ?_ | refine rdB ?_ ?_); rfl) | (with_reducible refine CB ?_) | ((with_reducible refine GK ?_ ?_); rfl) | ((with_reducible refine stB ?_ ?_ ?_ ?_); rfl; rfl; exact AY rfl) | ((with_reducible first | refine rdP _ rfl ?_ ?_ | refine IX _ rfl ?_ ?_); rfl) | ((with_reducible refine stP _ rfl ?_ ?_ ?_ ?_); rfl; rfl; rfl) | (with_reducible first | refine Ap (sh265_1.eq_1 ..) ?_ | refine Ap (sh265_2.eq_1 ..) ?_ | refine Ap (sh265.eq_1 ..) ?_ | refine And.intro ?_ ?_) | (simp only [SSg, Int.reduceBEq, Int.reduceBNe, Int.reduceLT, Int.reduceLE, beq_self_eq_true, bne_self_eq_false]) | (with_reducible first | refine BD (λhb => ?_) (λhb => ?_) | refine AB (λhb => ?_) (λhb => ?_)) | (simp only [SSd, Nat.reduceAdd]))
  all_goals first
    | (rw [e1 (by simpa using ‹(s == [99, 111, 97, 108, 101, 115, 99, 101]) = true›)] at hk
       exact zAE (L1 ++ (b, RDo w k' bd') :: L2) (zAA (hk (exK 27 y) s' k' bd' _ _ hs' zO zo zE ⟨_, _, rfl, hv'⟩)))
    | (rw [e2 (by simpa using ‹(s == [99, 111, 97, 108, 101, 115, 99, 101]) = false›) (by simpa using ‹(s == [108, 101, 110, 103, 116, 104]) = true›)] at hk
       exact zAE (L1 ++ (b, RDo w k' bd') :: L2) (zAA (hk (exK 8 [y]) s' k' bd' _ _ hs' zO zo zE ⟨_, _, rfl, zC⟩)))
    | (rw [e3 (by simpa using ‹(s == [99, 111, 97, 108, 101, 115, 99, 101]) = false›) (by simpa using ‹(s == [108, 101, 110, 103, 116, 104]) = false›)] at hk
       first
         | exact zAE (L1 ++ (b, RDo w k' bd') :: L2) (zAA (hk (Ed s false [exK 3 []]) s' k' bd' _ _ hs' zO zo zE ⟨_, _, rfl, zC⟩))
         | exact zAE (L1 ++ (b, RDo w k' bd') :: L2) (zAA (hk (Ed s true [y]) s' k' bd' _ _ hs' zO zo zE ⟨_, _, rfl, zC⟩))
         | exact zAE (L1 ++ (b, RDo w k' bd') :: L2) (zAA (hk (Ed s false [y]) s' k' bd' _ _ hs' zO zo zE ⟨_, _, rfl, zC⟩)))
end
def Su (E:Pr Ex)(a:List Ex):Pr Ex:=BC (itP [101,108,115,101] (BC E λx=>okP (a++[x])) (okP a)) λa=>BC (AP [101,110,100]) λ_=>okP (exK 26 a)
theorem AEh (n:Nat)(E:Pr Ex):FD n E=BC (Dl n E []) λa=>BC (DV n E n a) (Su E):=rfl
theorem Sl (n:Nat)(E:Pr Ex)(acc:List Ex):Dl n E acc=BC (AP [119,104,101,110]) λ_=>BC E λa=>BC (AP [116,104,101,110]) λ_=>BC E λb=>okP (acc++[a,b]):=rfl
theorem ADi {n f:Nat}{E:Pr Ex}{acc:List Ex}{s:Stt}(h:No [119,104,101,110] s):Out (run (DV n E f acc) s) acc s:=by
 cases s with
 |bad e=>exact out_bad
 |good l=>
  show Out (DV n E f acc l) acc _;cases f with
  |zero=>exact ⟨rfl,rfl⟩
  |succ f=>
   simp only [DV,h l rfl];exact ⟨rfl,rfl⟩
section
variable {ω:Om}{b:Nat}{w:Value}{toks:List Tok}
theorem AEV (n:Nat)(hn0:n≤1000000000){E:Pr Ex}(hE:FdE ω n b w toks 127 E):FdE ω n b w toks 264 (FD n E):=by
 intro K I L C st k bd hF h hs hn hk;obtain ⟨L1,L2,rfl,rfl⟩:=hF.foc;refine AOp ?_;unfold ALQ;refine AQ (λb1=>?_);try refine zqe ?_
 refine AQ (λb3=>?_);repeat' (first|refine zqa ?_|refine zqh (λ_=>?_)|refine zqr ?_|refine zqb ?_|refine zqi ?_ ?_|refine zqc ?_|refine zqg (λ_=>?_) (λ_=>?_)|refine zqe ?_|fail)
 refine loop (λm s I2 Lx=>∃(X:LH) (v:Value) (cells:List Value) (acc:List Ex) (c:Bool) (st2:Stt) (k2:Nat) (bd2:Bool),st2.sz=m∧s=(.bool c,())∧Ext I I2∧Lx=(b3,Obj.cells (NT v).toArray 37 (0,0))::(b1,Obj.cells exZ.toArray 37 (0,0))::(X++(L1++(b,RDo w k2 bd2)::L2))∧SlO 37 11 X v cells acc.length∧Recs (ExV I2) 11 acc cells∧RdS toks st2 k2 bd2∧acc.length+2 * st2.sz≤2 * st.sz∧
   ((c=true∧acc=[]∧(∀y s',Out (run (FD n E) st2) y s'→Out (run (FD n E) st) y s'))∨(c=false∧∃f,st2.sz≤f∧∀y s',Out (run (BC (DV n E f acc) (Su E)) st2) y s'→Out (run (FD n E) st) y s'))) st.sz
  ⟨[],.slice none 0 0,[],[],true,st,k,bd,rfl,rfl,zAC _,rfl,SlO.none _ _,rfl,hs,by simp,.inl ⟨rfl,rfl,λ_ _ h=>h⟩⟩ ?_
 rintro m s I2 Lx ⟨X,v,cells,acc,c,st2,k2,bd2,rfl,rfl,hI2,rfl,hX,hR,hs2,hal,hm⟩;obtain ⟨av,cv,rfl⟩:=hX.form;have fin:(∀y s',Out (run (Su E acc) st2) y s'→Out (run (FD n E) st) y s')→PH ω (AL b) (AL b1) (AL b3) (λv=>Gh (K v)) I2 ((b3,Obj.cells (NT (.slice av acc.length cv)).toArray 37 (0,0))::(b1,Obj.cells exZ.toArray 37 (0,0))::(X++(L1++(b,RDo w k2 bd2)::L2))):=by
  intro hm;have last:∀{I3:Imm} {Y X3:LH} {a3:Option Addr} {c3:Nat} {cells3:List Value} {acc3:List Ex} {st3:Stt} {k3:Nat} {bd3:Bool},Ext I2 I3→SlO 37 11 X3 (.slice a3 acc3.length c3) cells3 acc3.length→Recs (ExV I3) 11 acc3 cells3→RdS toks st3 k3 bd3→st3.sz≤st.sz→(∀y s',Out (run (BC (AP [101,110,100]) λ_=>okP (exK 26 acc3)) st3) y s'→Out (run (FD n E) st) y s')→PG ω (AL b) (AL b1) (AL b3) (λv=>Gh (K v)) I3 ((b3,Obj.cells (NT (.slice a3 acc3.length c3)).toArray 37 (0,0))::(b1,Obj.cells exZ.toArray 37 (0,0))::(X3++(Y++(L1++(b,RDo w k3 bd3)::L2)))):=by
   intro I3 Y X3 a3 c3 cells3 acc3 st3 k3 bd3 hI3 hX3 hR3 hs3 hz3 hm3;unfold PG;refine call (Aj _ zD hs3 (λs4 k4 bd4 hs4 ho4 hz4 _=>?_));repeat' (first|refine zqa ?_|refine zqh (λ_=>?_)|refine zqr ?_|refine zqb ?_|refine zqi ?_ ?_|refine zqc ?_|refine zqg (λ_=>?_) (λ_=>?_)|refine zqe ?_|fail)
   refine zAE (X3++(L1++(b,RDo w k4 bd4)::L2)) ?_;refine RL.ofO (R:=ExV) (λ{I I' x c} h hI=>ExV.mono hI h) hX3 hR3 (λI10 hI10 hw10=>zAA ?_);exact hk (exK 26 acc3) s4 k4 bd4 I10 _ hs4 (hm3 _ _ zO) zo zE ⟨_,_,rfl,hw10⟩
  unfold PH;refine call (Ad _ zD hs2 (λl k3 hy hs3 hz3=>?_) (λhno=>?_))
  ·try refine zqe ?_
   refine call (FdE.goE hE zD hs3 zo (λx s4 k4 bd4 I4 a4 c4 hs4 ho4 hz4 hI4 hv4=>?_));refine AQ (λb5=>?_);repeat' (first|refine zqa ?_|refine zqh (λ_=>?_)|refine zqr ?_|refine zqb ?_|refine zqi ?_ ?_|refine zqc ?_|refine zqg (λ_=>?_) (λ_=>?_)|refine zqe ?_|fail)
   refine BQ hv4 (λI5 a5 hI5 hw5=>zAA ?_);obtain ⟨c5,s5,r5⟩:=RL.toI zx hw5;refine Il (X:=X) rfl hX s5.news (r5.one_cells λx c h=>ExV.one h) zL zL (λX6 w6 hX6=>?_);have e6:acc.length+[x].length=(acc++[x]).length:=by simp
   rw [e6] at hX6;obtain ⟨a6,k6,rfl⟩:=hX6.form;refine zAE ((b3,Obj.cells (NT (.slice av acc.length cv)).toArray 37 (0,0))::(b1,Obj.cells exZ.toArray 37 (0,0))::(X6++(L1++(b,RDo w k4 bd4)::L2))) (zAA ?_);repeat' (first|refine zqa ?_|refine zqh (λ_=>?_)|refine zqr ?_|refine zqb ?_|refine zqi ?_ ?_|refine zqc ?_|refine zqg (λ_=>?_) (λ_=>?_)|refine zqe ?_|fail)
   have hR6:=zAS (zAU (R':=ExV I5) (λ_ _ h=>ExV.mono (zAB hI4 hI5) h) hR) r5;exact last (Y:=[]) (zAB hI4 hI5) hX6 hR6 hs4 zo (λy s' hh=>hm _ _ (BF (IK hy (BF ho4 DU)) hh))
  ·try refine zqe ?_
   exact last (Y:=[]) (zAC _) hX hR hs2 zo (λy s' hh=>hm _ _ (BF (CP hno DU) hh))
 unfold AAq;try refine zqe ?_
 refine rdb ?_;cases bd2 with
 |true=>
  obtain ⟨e,rfl⟩:=hs2.zero;simp only [zQ,SSd,Nat.reduceAdd];refine fin (λy s' hh=>?_);rcases hm with ⟨_,_,hm⟩|⟨_,f,_,hm⟩ <;> exact hm _ _ hh
 |false=>
  have h1:=hs2.one;simp only [zG,SSd,Nat.reduceAdd];have step:(∃f,st2.sz≤f+1∧∀acc' s4,Out (run (Dl n E acc) st2) acc' s4→∀y s',Out (run (BC (DV n E f acc') (Su E)) s4) y s'→Out (run (FD n E) st) y s')∨(c=false∧No [119,104,101,110] st2):=by
   rcases hm with ⟨rfl,rfl,hm⟩|⟨rfl,f,hf,hm⟩
   ·exact .inl ⟨n,by omega,λacc' s4 ha y s' hh=>hm _ _ (by rw [AEh];exact BF ha hh)⟩
   ·by_cases hw:∃l,Yes [119,104,101,110] st2 l
    ·obtain ⟨l,hy⟩:=hw;obtain ⟨f,rfl⟩:∃q,f=q+1:=⟨f - 1,by omega⟩;refine .inl ⟨f,hf,λacc' s4 ha y s' hh=>hm _ _ ?_⟩;have e:run (BC (DV n E (f+1) acc) (Su E)) st2=run (BC (Dl n E acc) λa=>BC (DV n E f a) (Su E)) st2:=by
      obtain ⟨rfl,hy⟩:=hy;show (DV n E (f+1) acc l).bind _=(Dl n E acc l).bind _;simp only [DV,hy,if_true];cases Dl n E acc l <;> rfl
     rw [e];exact BF ha hh
    ·exact .inr ⟨rfl,λl hl=>by
      cases h:isT l [119,104,101,110] with
      |false=>rfl
      |true=>exact absurd ⟨l,hl,h⟩ hw⟩
  refine call (BP _ zD hs2 (λl hy=>?_) (λhno=>?_));rotate_left
  ·cases c with
   |false=>
    simp only [zG,SSd,Nat.reduceAdd];refine fin (λy s' hh=>?_);rcases hm with ⟨q,_⟩|⟨_,f,_,hm⟩
    ·cases q
    ·exact hm _ _ (BF (ADi hno) hh)
   |true=>
    have hst:=step.resolve_right (λq=>by cases q.1);simp only [zG,zQ,SSd,Nat.reduceAdd];obtain ⟨f,hf,hst⟩:=hst;clear step fin hm;refine call (Aj [119,104,101,110] zD hs2 (λs3 k3 bd3 hs3 ho3 hz3 hz3'=>?_));refine call (FdE.goE hE zD hs3 zo (λx s4 k4 bd4 I4 a4 c4 hs4 ho4 hz4 hI4 hv4=>?_));refine AQ (λb5=>?_);repeat' (first|refine zqa ?_|refine zqh (λ_=>?_)|refine zqr ?_|refine zqb ?_|refine zqi ?_ ?_|refine zqc ?_|refine zqg (λ_=>?_) (λ_=>?_)|refine zqe ?_|fail)
    refine call (Aj [116,104,101,110] zD hs4 (λs5 k5 bd5 hs5 ho5 hz5 hz5'=>?_));refine call (FdE.goE hE zD hs5 zo (λy s6 k6 bd6 I6 a6 c6 hs6 ho6 hz6 hI6 hv6=>?_));refine AQ (λb6=>?_);repeat' (first|refine zqa ?_|refine zqh (λ_=>?_)|refine zqr ?_|refine zqb ?_|refine zqi ?_ ?_|refine zqc ?_|refine zqg (λ_=>?_) (λ_=>?_)|refine zqe ?_|fail)
    refine BJ (zAI hv4 hI6) hv6 (λI7 a7 hI7 hw7=>zAA ?_);obtain ⟨c7,s7,r7⟩:=RL.toI zx hw7;refine Il (X:=X) rfl hX s7.news (r7.one_cells λx c h=>ExV.one h) zL zL (λX8 w8 hX8=>?_);have hI27:Ext I2 I7:=zAB hI4 (zAB hI6 hI7);have hR8:=zAS (zAU (R':=ExV I7) (λ_ _ h=>ExV.mono hI27 h) hR) r7;have e8:acc.length+[x,y].length=(acc++[x,y]).length:=by simp
    rw [e8] at hX8;obtain ⟨a8,k8,rfl⟩:=hX8.form;refine zAE ((b3,Obj.cells (NT (.slice av acc.length cv)).toArray 37 (0,0))::(b1,Obj.cells exZ.toArray 37 (0,0))::(X8++(L1++(b,RDo w k6 bd6)::L2))) (zAA ?_);repeat' (first|refine zqa ?_|refine zqh (λ_=>?_)|refine zqr ?_|refine zqb ?_|refine zqi ?_ ?_|refine zqc ?_|refine zqg (λ_=>?_) (λ_=>?_)|refine zqe ?_|fail)
    have hW:Out (run (Dl n E acc) st2) (acc++[x,y]) s6:=by rw [Sl];exact zO
    have hl8:(acc++[x,y]).length=acc.length+2:=by simp
    have h36:s6.sz+1≤st2.sz:=by
     cases bd3 with
     |false=>have:=(hz3' rfl).2;omega
     |true=>
      obtain ⟨e,rfl⟩:=hs3.zero;have:(Stt.bad e).sz=0:=rfl;omega
    exact zAA ⟨s6.sz,by omega,X8,_,_,acc++[x,y],false,s6,k6,bd6,rfl,rfl,zAB hI2 hI27,rfl,hX8,hR8,hs6,by omega,.inr ⟨rfl,f,by omega,λy s' hh=>hst _ _ hW _ _ hh⟩⟩
  ·have hst:=step.resolve_right (λq=>by have:=q.2 l hy.1;rw [hy.2] at this;cases this);simp only [zQ,SSd,Nat.reduceAdd];obtain ⟨f,hf,hst⟩:=hst;clear step fin hm;refine call (Aj [119,104,101,110] zD hs2 (λs3 k3 bd3 hs3 ho3 hz3 hz3'=>?_));refine call (FdE.goE hE zD hs3 zo (λx s4 k4 bd4 I4 a4 c4 hs4 ho4 hz4 hI4 hv4=>?_));refine AQ (λb5=>?_);repeat' (first|refine zqa ?_|refine zqh (λ_=>?_)|refine zqr ?_|refine zqb ?_|refine zqi ?_ ?_|refine zqc ?_|refine zqg (λ_=>?_) (λ_=>?_)|refine zqe ?_|fail)
   refine call (Aj [116,104,101,110] zD hs4 (λs5 k5 bd5 hs5 ho5 hz5 hz5'=>?_));refine call (FdE.goE hE zD hs5 zo (λy s6 k6 bd6 I6 a6 c6 hs6 ho6 hz6 hI6 hv6=>?_));refine AQ (λb6=>?_);repeat' (first|refine zqa ?_|refine zqh (λ_=>?_)|refine zqr ?_|refine zqb ?_|refine zqi ?_ ?_|refine zqc ?_|refine zqg (λ_=>?_) (λ_=>?_)|refine zqe ?_|fail)
   refine BJ (zAI hv4 hI6) hv6 (λI7 a7 hI7 hw7=>zAA ?_);obtain ⟨c7,s7,r7⟩:=RL.toI zx hw7;refine Il (X:=X) rfl hX s7.news (r7.one_cells λx c h=>ExV.one h) zL zL (λX8 w8 hX8=>?_);have hI27:Ext I2 I7:=zAB hI4 (zAB hI6 hI7);have hR8:=zAS (zAU (R':=ExV I7) (λ_ _ h=>ExV.mono hI27 h) hR) r7;have e8:acc.length+[x,y].length=(acc++[x,y]).length:=by simp
   rw [e8] at hX8;obtain ⟨a8,k8,rfl⟩:=hX8.form;refine zAE ((b3,Obj.cells (NT (.slice av acc.length cv)).toArray 37 (0,0))::(b1,Obj.cells exZ.toArray 37 (0,0))::(X8++(L1++(b,RDo w k6 bd6)::L2))) (zAA ?_);repeat' (first|refine zqa ?_|refine zqh (λ_=>?_)|refine zqr ?_|refine zqb ?_|refine zqi ?_ ?_|refine zqc ?_|refine zqg (λ_=>?_) (λ_=>?_)|refine zqe ?_|fail)
   have hW:Out (run (Dl n E acc) st2) (acc++[x,y]) s6:=by rw [Sl];exact zO
   have hl8:(acc++[x,y]).length=acc.length+2:=by simp
   have h36:s6.sz+1≤st2.sz:=by
    cases bd3 with
    |false=>have:=(hz3' rfl).2;omega
    |true=>
     obtain ⟨e,rfl⟩:=hs3.zero;have:(Stt.bad e).sz=0:=rfl;omega
   exact zAA ⟨s6.sz,by omega,X8,_,_,acc++[x,y],false,s6,k6,bd6,rfl,rfl,zAB hI2 hI27,rfl,hX8,hR8,hs6,by omega,.inr ⟨rfl,f,by omega,λy s' hh=>hst _ _ hW _ _ hh⟩⟩
end
def callL:List Bs:=[[108,101,110,103,116,104],[99,111,97,108,101,115,99,101],[99,111,117,110,116],[115,117,109],[109,105,110],[109,97,120],[97,118,103]]
theorem ADy (s:Bs):callL.contains s=Dt s:=by
 simp only [callL,List.contains_cons,List.contains_nil,Bool.or_false,Dt,isAgg];cases s==[108,101,110,103,116,104] <;> cases s==[99,111,97,108,101,115,99,101] <;> simp [Bool.or_assoc]
def kP {α:Type}(c:Int)(f g:Pr α):Pr α:=λl=>if isK l c=true then f l else g l
def Oj {α:Type}(c:Bool)(w:Bs)(f g:Pr α):Pr α:=λl=>if (isT l w&&c)=true then f l else g l
theorem AHc {α:Type}{c:Int}{f g:Pr α}{x:α}{s s':Stt}(hn:∀l,s= .good l→isK l c=true)(h:Out (run f s) x s'):Out (run (kP c f g) s) x s':=by
 cases s with
 |bad e=>exact h
 |good l=>
  show Out (kP c f g l) x s';simp only [kP,hn l rfl,if_true];exact h
theorem ZH {α:Type}{c:Int}{f g:Pr α}{x:α}{s s':Stt}(hn:∀l,s= .good l→isK l c=false)(h:Out (run g s) x s'):Out (run (kP c f g) s) x s':=by
 cases s with
 |bad e=>exact h
 |good l=>
  show Out (kP c f g l) x s';simp only [kP,hn l rfl,zt,if_false];exact h
theorem XH {α:Type}{c:Bool}{w:Bs}{f g:Pr α}{x:α}{l:List Tok}{s s':Stt}(hc:c=true)(hy:Yes w s l)(h:Out (run f s) x s'):Out (run (Oj c w f g) s) x s':=by
 obtain ⟨rfl,hy⟩:=hy;show Out (Oj c w f g l) x s';simp only [Oj,hc,hy,Bool.and_self,if_true];exact h
theorem XI {α:Type}{c:Bool}{w:Bs}{f g:Pr α}{x:α}{s s':Stt}(hn:c=false∨No w s)(h:Out (run g s) x s'):Out (run (Oj c w f g) s) x s':=by
 cases s with
 |bad e=>exact h
 |good l=>
  show Out (Oj c w f g l) x s';have:(isT l w&&c)=false:=by
   rcases hn with rfl|hn
   ·exact Bool.and_false _
   ·rw [hn l rfl];rfl
  simp only [Oj,this,zt,if_false];exact h
theorem ADB (n:Nat)(E U:Pr Ex):Fp n E U=itP [45] (BC U λx=>okP (exK 4 [x])) (itP [40] (BC E λx=>BC (AP [41]) λ_=>okP x) (itP [99,97,115,101] (FD n E) (kP 3 KX (XU (λv=>okP (GU v)) (BC Ar λs=>Oj (callL.contains s) [40] (DF n E s) (itP [46] (BC Ar λc=>okP (FQ s c)) (okP (FQ [] s)))))))):=by simp only [ADy];rfl
theorem YesL.k3 {s:Stt}{l:List Tok}{v:TValue}(h:YesL s l v):∀l,s= .good l→isK l 3=false:=by
 intro l2 h2;obtain ⟨h1,h⟩:=h;rw [h1] at h2;cases h2;cases h3:isK l 3 with
 |false=>rfl
 |true=>
  have:=Ih h3;simp [GR,isK,isT,this] at h
section
variable {ω:Om}{b:Nat}{w:Value}{toks:List Tok}
theorem Xl {I:Imm}{L:LH}{K:Value→M}{v:Value}{ws:List Bs}(hw:StL I v ws)(hws:ws.length≤1000)(t:Bs)(hk:K (.bool (ws.contains t)) I L):CT ω 80 #[v,.string ⟨t.toArray⟩] K I L:=by
 refine ATn ?_;unfold ARo;refine loop (λm st I2 Lx=>∃i:Nat,i+m=ws.length∧I2=I∧st=(.bool false,.int .i64 i,())∧Lx=L∧∀j (hj:j < ws.length),j < i→(ws[j]==t)=false) ws.length ⟨0,by omega,rfl,rfl,rfl,λj _ h=>by omega⟩ ?_;rintro m st I2 Lx ⟨i,h1,rfl,rfl,rfl,hall⟩;unfold AFb;simp only [zAK hw,SSd,Nat.reduceAdd];refine AB (λhb=>?_) (λhb=>?_)
 ·have hb:i < ws.length:=by
   have:((i:Int) < ws.length):=by simpa using hb
   omega
  obtain ⟨bw,off,cw,hi1,_,hi2,hi3⟩:=zAR hw (i:=i) zo zo;rw [Am hb] at hi2;obtain rfl:=hi2;simp only [hi1,SSd,Nat.reduceAdd];refine rd1 ((hi3 _ [] (zAC _) (λ_ h=>h) 0 _ rfl).mono (zAC _) (λ_ h=>by cases h)) ?_;try refine zqe ?_
  refine AB (λhe=>?_) (λhe=>?_)
  ·have he:ws[i]=t:=by simpa using he
   have hc:ws.contains t=true:=by
    rw [zbl,←he];exact zH hb
   rw [hc] at hk;exact zAA hk
  ·have he:ws[i]≠t:=by simpa using he
   simp only [wrap_i64 ((i:Int)+1) zo,SSd,Nat.reduceAdd];refine zAA ⟨m - 1,by omega,i+1,by omega,rfl,rfl,rfl,λj hj hji=>?_⟩;rcases zbi (Nat.le_of_lt_succ hji) with hlt|rfl
   ·exact hall j hj hlt
   ·simpa using he
 ·have hb:¬i < ws.length:=by
   have:¬((i:Int) < ws.length):=by simpa using hb
   omega
  have hc:ws.contains t=false:=by
   cases hc:ws.contains t with
   |false=>rfl
   |true=>
    rw [zbl] at hc;obtain ⟨j,hj,e⟩:=List.mem_iff_getElem.1 hc;have:=hall j hj zo;simp [e] at this
  rw [hc] at hk;exact zAA hk
theorem AEJ (n:Nat)(hn0:n+1≤1000000000){E U:Pr Ex}(hE:FdE ω n b w toks 127 E)(hU:FdE ω n b w toks 261 U):FdE ω (n+1) b w toks 261 (Fp n E U):=by
 have hC:=AEV n zo hE;intro K I L C st k bd hF h hs hn hk;obtain ⟨L1,L2,rfl,rfl⟩:=hF.foc;obtain ⟨bt,off,p1,p2⟩:=hs.peek h;refine AOr ?_;unfold sh261;rw [ADB] at hk;have hk3:∀l,st= .good l→isK l 3=((hd (toks.drop k)).kind==3):=λl hl=>by
  rcases hs.st with ⟨_,q⟩|⟨_,q⟩ <;> rw [q] at hl <;> cases hl
  rfl
 repeat' (first|(with_reducible first|refine BM ?_|refine keepA ?_|refine AQ (λ_=>?_))|(with_reducible refine call ?_;refine FdE.goE hE zD zA zo (λy s' k' bd' I' a' c' hs' ho' hz' hI' hv'=>?_))|(with_reducible refine call ?_;refine FdE.goE hU zD zA zo (λy s' k' bd' I' a' c' hs' ho' hz' hI' hv'=>?_))|(with_reducible refine call ?_;refine FdE.goE hC zD zA zo (λy s' k' bd' I' a' c' hs' ho' hz' hI' hv'=>?_))|(with_reducible refine call ?_;refine FdE.goE (AIc n _ hE) zD zA (by have:=hzz' (RdS.yes hs' hy).1;omega) (λy s' k' bd' I' a' c' hs' ho' hz' hI' hv'=>?_))|(with_reducible refine call ?_;refine UA zD zA (λl v k' hy hs' hz'=>?_) (λhno=>?_))|(with_reducible refine call ?_;refine FdE.goE (ACe (n+1)) zD zA zo (λy s' k' bd' I' a' c' hs' ho' hz' hI' hv'=>?_))|(refine Gm (v:=.int .i64 (hd (toks.drop k)).kind) (λI' L' hS=>p2 I' L' hS.1 0 _ rfl) ?_)|((with_reducible refine DT callL ?_ ?_ (λI' a' hI' hw'=>zAA ?_));rfl;rfl)|(with_reducible refine call ?_;refine Xl zA zx _ ?_)|(with_reducible refine call ?_;refine Ad _ zD zA (λl k' hy hs' hz'=>?_) (λhno=>?_))|(with_reducible refine call ?_;refine BP _ zD zA (λl hy=>?_) (λhno=>?_))|(with_reducible refine call ?_;refine Aj _ zD zA (λs' k' bd' hs' ho' hz' hzz'=>?_))|(with_reducible refine call ?_;refine BB zD zA (λx s' k' bd' hs' ho' hz' hzz'=>?_))|(with_reducible first|refine BQ zC (λI' a hI' hw'=>zAA ?_)|refine BJ zC zC (λI' a hI' hw'=>zAA ?_)|refine Ba zC zC zC (λI' a hI' hw'=>zAA ?_))|(with_reducible refine call ?_;refine BN zC ?_)|refine zqr ?_|refine zqb ?_|(with_reducible first|refine Ap (sh261_1.eq_1 ..) ?_|refine Ap (sh261_2.eq_1 ..) ?_|refine Ap (sh261.eq_1 ..) ?_|refine And.intro ?_ ?_)|refine zqc ?_|refine zqg (λhb=>?_) (λhb=>?_)|(simp only [SSd,Nat.reduceAdd,p1]))
 ·exact zAE (L1++(b,RDo w k' bd')::L2) (zAA (hk (exK 4 [y]) s' k' bd' _ _ hs' zO zo zE ⟨_,_,rfl,zC⟩))
 iterate 2
  ·exact zAE (L1++(b,RDo w k' bd')::L2) (zAA (hk y s' k' bd' _ _ hs' zO zo zE ⟨_,_,rfl,zC⟩))
 ·have hk3:=YesL.k3 hy;exact zAE (L1++(b,RDo w k' false)::L2) (zAA (hk (GU v) _ k' false _ _ hs' zO zo zE ⟨_,_,rfl,zAD none 0⟩))
 ·have hk3:∀l,st= .good l→isK l 3=true:=λl hl=>(hk3 l hl).trans zA;exact zAE (L1++(b,RDo w k' bd')::L2) (zAA (hk y s' k' bd' _ _ hs' zO zo zE ⟨_,_,rfl,zC⟩))
 all_goals
  have hk3:∀l,st= .good l→isK l 3=false:=λl hl=>(hk3 l hl).trans zA
 ·exact zAE (L1++(b,RDo w k' bd')::L2) (zAA (hk y s' k' bd' _ _ hs' zO zo zE ⟨_,_,rfl,zC⟩))
 all_goals first
  |exact zAE (L1++(b,RDo w k' bd')::L2) (zAA (hk (FQ _ x) s' k' bd' _ _ hs' zO zo zE ⟨_,_,rfl,zAD none 0⟩))
  |exact zAE (L1++(b,RDo w k' bd')::L2) (zAA (hk (FQ [] x) s' k' bd' _ _ hs' zO zo zE ⟨_,_,rfl,zAD none 0⟩))
end
abbrev VOk {α:Type}(R:Imm→α→List Value→Prop)(g:Res α)(n:Nat)(K:Value→M)(C:Obj→LH)(I:Imm):Prop:=
 ∀x r,g= .ok x r→Toks r→r.length≤n→∀I' v' c,Ext I I'→TL I' v' r→R I' x c→K (.agg c.toArray) I' (C (PBo v'))
def FnV {α:Type}(ω:Om)(n b f:Nat)(g:Pr α)(R:Imm→α→List Value→Prop):Prop:=
 ∀(K Pn:Value→M) (I:Imm) (L:LH) (C:Obj→LH) (v:Value) (l:List Tok),Foc b L (PBo v) C→TL I v l→Toks l→l.length≤n→VOk R (g l) l.length K C I→PEr (g l) Pn C I→CalP Tryz.prog ω f #[AL b] K Pn I L
theorem FnV.go {α:Type}{ω:Om}{n b f:Nat}{g:Pr α}{R:Imm→α→List Value→Prop}(h:FnV ω n b f g R){I:Imm}{L:LH}{K Pn:Value→M}{C:Obj→LH}{v:Value}{l:List Tok}[hF:Foc b L (PBo v) C](hv:TL I v l)(hT:Toks l)(hl:l.length≤n)(hok:VOk R (g l) l.length K C I)(herr:PEr (g l) Pn C I):
  CalP Tryz.prog ω f #[AL b] K Pn I L:=h K Pn I L C v l hF hv hT hl hok herr
theorem FnV.one {α:Type}{ω:Om}{n b f:Nat}{g:Pr α}{R:Imm→α→List Value→Prop}{I0:Imm}(h:FnV ω n b f g R)(he:Ce Tryz.prog f=true):OneP ω n b g (Hz R) (.func (.func f) #[AL b] #[]) I0:=by
 intro K Pn I L C v l hF hI hv hT hl hok herr;exact NU he (h K Pn I L C v l hF hv hT hl (λx r hg hT' hr I' v' c hI' hv' hc=>hok x r hg hT' hr I' v' _ hI' hv' ⟨c,rfl,hc⟩) herr)
section
variable {ω:Om}{b:Nat}
theorem ANs (n:Nat)(hE:FnE ω n b 148 (eP n)):FnV ω n b 101 (Nh n) TSetV:=by
 intro K Pn I L C v l hF h hT hl hok herr;obtain ⟨L1,L2,rfl,rfl⟩:=hF.foc;refine ARF ?_;unfold ANC;repeat' (first|(with_reducible first|refine CX (b:=b) ?_|refine keepA ?_|refine AQ (λ_=>?_))|(with_reducible refine Aa ?_;refine hE.go zT zA zo (λy r' hg hT2 hr2 I' v' a' k' hI' hv' hw'=>?_) (λe hg I' v' hI'=>?_))|(with_reducible refine Az ?_;refine CY _ zT zA (λhb hT' hl' v' hv'=>?_) (λhb=>?_))|(with_reducible refine CG _ zT zA (λhb hT' hl' I' v' hI' hv'=>?_) (λhb I' v' hI'=>?_))|(with_reducible refine Aa ?_;refine Cj zT zA (λhb hT' hl' v' hv'=>?_) (λhb=>?_))|(with_reducible refine Aa ?_;refine Ak zT zA ?_)|(with_reducible first|refine BQ zC (λI' a hI' hw'=>zAA ?_)|refine BJ zC zC (λI' a hI' hw'=>zAA ?_)|refine Ba zC zC zC (λI' a hI' hw'=>zAA ?_))|(with_reducible refine Az ?_;refine BV zC ?_)|refine zqr ?_|refine zqb ?_|refine zqi ?_ ?_|refine zqc ?_|refine zqg (λhb=>?_) (λhb=>?_)|refine zqe ?_|fail)
 all_goals first
  |exact zAE (L1++(b,PBo v')::L2) (zAA (herr _ (by simp [Nh,Ar,Res.bind,bad,AP, *] <;> rfl) _ _ zE))
  |exact zAE (L1++(b,PBo v)::L2) (zAA (herr _ (by simp [Nh,Ar,Res.bind,bad,AP, *] <;> rfl) _ _ zE))
  |exact zAE (L1++(b,PBo v')::L2) (zAA (hok ⟨(hd l).text,y⟩ _ (by simp [Nh,Ar,AP,Res.bind, *] <;> rfl) zA zo _ _ _ zE zT ⟨_,rfl,zC⟩))
theorem MB (n:Nat)(hE:FnE ω n b 148 (eP n))(s:Bs){I:Imm}{L:LH}{K Pn:Value→M}{C:Obj→LH}{v:Value}{l:List Tok}[hF:Foc b L (PBo v) C](h:TL I v l)(hT:Toks l)(hl:l.length≤n)
  (hok:∀x r,DW n s l= .ok x r→Toks r→r.length≤l.length→∀I' v' a k,Ext I I'→TL I' v' r→ExL I' (.slice a x.args.length k) x.args→K (.agg (Ag x (.slice a x.args.length k)).toArray) I' (C (PBo v'))) (herr:PEr (DW n s l) Pn C I):
  CalP Tryz.prog ω 102 #[AL b,.string ⟨s.toArray⟩] K Pn I L:=by
 obtain ⟨L1,L2,rfl,rfl⟩:=hF.foc;refine ARD ?_;unfold ANB;repeat' (first|(with_reducible first|refine CX (b:=b) ?_|refine keepA ?_|refine AQ (λ_=>?_))|(with_reducible refine Aa ?_;refine hE.go zT zA zo (λy r' hg hT2 hr2 I' v' a' k' hI' hv' hw'=>?_) (λe hg I' v' hI'=>?_))|(with_reducible refine Az ?_;refine CY _ zT zA (λhb hT' hl' v' hv'=>?_) (λhb=>?_))|(with_reducible refine CG _ zT zA (λhb hT' hl' I' v' hI' hv'=>?_) (λhb I' v' hI'=>?_))|(with_reducible refine Aa ?_;refine Cj zT zA (λhb hT' hl' v' hv'=>?_) (λhb=>?_))|(with_reducible refine Aa ?_;refine Ak zT zA ?_)|(with_reducible first|refine BQ zC (λI' a hI' hw'=>zAA ?_)|refine BJ zC zC (λI' a hI' hw'=>zAA ?_)|refine Ba zC zC zC (λI' a hI' hw'=>zAA ?_))|(with_reducible refine Az ?_;refine BV zC ?_)|refine zqr ?_|refine zqb ?_|refine zqi ?_ ?_|refine zqc ?_|refine zqg (λhb=>?_) (λhb=>?_)|refine zqe ?_|fail)
 all_goals first
  |exact zAE (L1++(b,PBo v')::L2) (zAA (herr _ (by simp [DW,Res.bind,bad,AP, *] <;> rfl) _ _ zE))
  |exact zAE (L1++(b,PBo v)::L2) (zAA (hok ex0 l (by simp [DW, *]) hT (zW _) I v none 0 (zAC _) h (zAD none 0)))
  |exact zAE (L1++(b,PBo v')::L2) (zAA (hok y _ (by simp [DW, *] <;> rfl) zA zo _ _ _ _ zE zT zC))
theorem Rt {I:Imm}{L:LH}{K Pn:Value→M}{C:Obj→LH}{v:Value}{l:List Tok}[hF:Foc b L (PBo v) C](h:TL I v l)(hT:Toks l)
  (hok:∀x r,EO l= .ok x r→Toks r→r.length+1=l.length→∀v',TL I v' r→K (.int .i64 x) I (C (PBo v'))) (herr:∀e,EO l= .err e→Pn (Fh e) I L):
  CalP Tryz.prog ω 151 #[AL b] K Pn I L:=by
 obtain ⟨L1,L2,rfl,rfl⟩:=hF.foc;obtain ⟨bt,off,h1,h2⟩:=h.hd hT;refine AQN ?_;unfold sh151;repeat' (first|(with_reducible first|refine CX (b:=b) ?_|refine keepA ?_|refine AQ (λ_=>?_))|((with_reducible refine rd1 (v:=.int .i64 (hd l).kind) ?_ ?_);exact (h2 _ [] (zAC _) 0 _ rfl).mono (zAC _) (λ_ h=>by cases h))|((with_reducible refine rd1 (v:=.int .i64 (hd l).num) ?_ ?_);exact (h2 _ [] (zAC _) 3 _ rfl).mono (zAC _) (λ_ h=>by cases h))|(with_reducible refine Aa ?_;refine Vd 3 zx zT zA (λhk v' hv'=>?_) (λhk=>?_))|(with_reducible refine Az ?_;refine CY _ zT zA (λhb hT' hl' v' hv'=>?_) (λhb=>?_))|(with_reducible refine CG _ zT zA (λhb hT' hl' I' v' hI' hv'=>?_) (λhb I' v' hI'=>?_))|(with_reducible refine Aa ?_;refine Cj zT zA (λhb hT' hl' v' hv'=>?_) (λhb=>?_))|(with_reducible refine Aa ?_;refine Ak zT zA ?_)|(with_reducible first|refine BQ zC (λI' a hI' hw'=>zAA ?_)|refine BJ zC zC (λI' a hI' hw'=>zAA ?_)|refine Ba zC zC zC (λI' a hI' hw'=>zAA ?_))|(with_reducible refine Az ?_;refine BV zC ?_)|refine zqr ?_|refine zqb ?_|(with_reducible first|refine Ap (sh151_2.eq_1 ..) ?_|refine Ap (sh151_1.eq_1 ..) ?_|refine Ap (sh151.eq_1 ..) ?_|refine And.intro ?_ ?_)|refine zqc ?_|refine zqg (λhb=>?_) (λhb=>?_)|(simp only [SSd,Nat.reduceAdd,h1]))
 all_goals (try have hd1:=of_decide_eq_true hb)
 all_goals (try have hd2:=of_decide_eq_false hb)
 all_goals first
  |(exfalso;simp_all [isK];done)
  |exact zAA (hok _ _ (by unfold EO;rw [if_pos (by simp [hk];omega)]) (hT.tailK hk) hT.len v' hv')
  |exact zAA (herr _ (by simp_all [EO,isK,bad] <;> rfl))
  |exact zAA (herr _ (by unfold EO;rw [if_neg (by simp;intros;omega)];rfl))
theorem AHj (n:Nat)(hE:FnE ω n b 148 (eP n)):FnV ω n b 150 (Ef n) TOrderV:=by
 intro K Pn I L C v l hF h hT hl hok herr;obtain ⟨L1,L2,rfl,rfl⟩:=hF.foc;refine AQO ?_;unfold sh150;repeat' (first|(with_reducible first|refine CX (b:=b) ?_|refine keepA ?_|refine AQ (λ_=>?_))|(with_reducible refine Aa ?_;refine hE.go zT zA zo (λy r' hg hT2 hr2 I' v' a' k' hI' hv' hw'=>?_) (λe hg I' v' hI'=>?_))|(with_reducible refine Az ?_;refine CY _ zT zA (λhb hT' hl' v' hv'=>?_) (λhb=>?_))|(with_reducible refine CG _ zT zA (λhb hT' hl' I' v' hI' hv'=>?_) (λhb I' v' hI'=>?_))|(with_reducible refine Aa ?_;refine Cj zT zA (λhb hT' hl' v' hv'=>?_) (λhb=>?_))|(with_reducible refine Aa ?_;refine Ak zT zA ?_)|(with_reducible first|refine BQ zC (λI' a hI' hw'=>zAA ?_)|refine BJ zC zC (λI' a hI' hw'=>zAA ?_)|refine Ba zC zC zC (λI' a hI' hw'=>zAA ?_))|(with_reducible refine Az ?_;refine BV zC ?_)|refine zqr ?_|refine zqb ?_|(with_reducible first|refine Ap (sh150_1.eq_1 ..) ?_|refine Ap (sh150.eq_1 ..) ?_|refine And.intro ?_ ?_)|refine zqc ?_|refine zqg (λhb=>?_) (λhb=>?_)|refine zqe ?_|fail)
 all_goals first
  |exact zAE (L1++(b,PBo v')::L2) (zAA (herr _ (by simp [Ef,Res.bind,bad,AP, *] <;> rfl) _ _ zE))
  |exact zAE (L1++(b,PBo v')::L2) (zAA (hok ⟨y,true⟩ _ (by simp [Ef,Res.bind, *] <;> rfl) zA zo _ _ _ zE zT ⟨_,rfl,zC⟩))
  |exact zAE (L1++(b,PBo v')::L2) (zAA (hok ⟨y,false⟩ _ (by simp [Ef,Res.bind, *] <;> rfl) zA zo _ _ _ zE zT ⟨_,rfl,zC⟩))
theorem TC (n:Nat):FnV ω n b 198 CU TSourceV:=by
 intro K Pn I L C v l hF h hT hl hok herr;obtain ⟨L1,L2,rfl,rfl⟩:=hF.foc;refine APd ?_;unfold sh198;refine AQ (λb1=>?_);refine Aa (Cj h hT (λhn hT1 hl1 v1 hv1=>?_) (λhn=>zAE (L1++(b,PBo v)::L2) (zAA (herr (hd l).at' (by simp [CU,Ar,Res.bind,bad,hn]) I v (zAC _)))));obtain ⟨bt,off,h1,h2⟩:=hv1.hd hT1;repeat' (first|(with_reducible first|refine CX (b:=b) ?_|refine keepA ?_|refine AQ (λ_=>?_))|((with_reducible refine rd1 (v:=.int .i64 (hd l.tail).kind) ?_ ?_);exact (h2 _ [] (zAC _) 0 _ rfl).mono (zAC _) (λ_ h=>by cases h))|(with_reducible refine Az ?_;refine CY _ zT zA (λhb hT' hl' v' hv'=>?_) (λhb=>?_))|(with_reducible refine CG _ zT zA (λhb hT' hl' I' v' hI' hv'=>?_) (λhb I' v' hI'=>?_))|(with_reducible refine Aa ?_;refine Cj zT zA (λhb hT' hl' v' hv'=>?_) (λhb=>?_))|(with_reducible refine Aa ?_;refine Ak zT zA ?_)|(with_reducible first|refine BQ zC (λI' a hI' hw'=>zAA ?_)|refine BJ zC zC (λI' a hI' hw'=>zAA ?_)|refine Ba zC zC zC (λI' a hI' hw'=>zAA ?_))|(with_reducible refine Az ?_;refine BV zC ?_)|refine zqr ?_|refine zqb ?_|(with_reducible first|refine Ap (sh198_2.eq_1 ..) ?_|refine Ap (sh198_1.eq_1 ..) ?_|refine Ap (sh198.eq_1 ..) ?_|refine And.intro ?_ ?_)|refine zqc ?_|refine zqg (λhb=>?_) (λhb=>?_)|(simp only [SSd,Nat.reduceAdd,h1]))
 all_goals (try have hk1:isK l.tail 1=true:=‹((hd l.tail).kind==1)=true›)
 all_goals (try have hk1:isK l.tail 1=false:=‹((hd l.tail).kind==1)=false›)
 all_goals (try (exfalso;simp_all;done))
 all_goals first
  |exact zAE (L1++(b,PBo v')::L2) (zAA (herr _ (by simp [CU,Ar,Res.bind,bad,AP, *] <;> rfl) _ _ zE))
  |exact zAE (L1++(b,PBo v1)::L2) (zAA (herr _ (by simp [CU,Ar,Res.bind,bad,AP, *] <;> rfl) _ _ zE))
  |exact zAE (L1++(b,PBo v')::L2) (zAA (hok ⟨_,_,false,ex0⟩ _ (by simp [CU,Ar,Res.bind, *] <;> rfl) zA zo _ _ _ zE zT ⟨.slice none 0 0,rfl,zAD none 0⟩))
  |exact zAE (L1++(b,PBo v1)::L2) (zAA (hok ⟨(hd l).text,[],false,ex0⟩ _ (by simp [CU,Ar,Res.bind, *] <;> rfl) zA zo _ _ _ zE zT ⟨.slice none 0 0,rfl,zAD none 0⟩))
end
section
variable {ω:Om}{I:Imm}{L:LH}{K Pn:Value→M}{C:Obj→LH}{b:Nat}{v:Value}{l:List Tok}
theorem TL.at (h:TL I v l){j:Nat}(hj:j < l.length){t:Tok}(ht:l[j]? =some t):∃bt off,ixV 4 v (.int .i64 (j:Int))=some (.pointer (some ⟨bt,off,none⟩))∧∀I' L',Ext I I'→Cells I' L' bt off [.int .i64 t.kind,.int .i64 t.at',.string ⟨t.text.toArray⟩,.int .i64 t.num]:=by
 obtain ⟨bt,off,c,h1,_,h2,h3⟩:=zAR h (i:=(j:Int)) zo zo;have:Lj l (j:Int)=t:=by rw [Am hj];exact Option.some.inj ((zan hj).symm.trans ht)
 rw [this] at h2;rw [show c=_ from h2] at h3;exact ⟨bt,off,h1,λI' L' hI=>h3 I' L' hI (λ_ h=>by cases h)⟩
def EK (l:List Tok):Bool:=isK l 1&&isK l.tail 5&&(hd l.tail).text==[46]&&isK l.tail.tail 5&&(hd l.tail.tail).text==[42]
theorem ADx {n:Nat}(h0:isT l [42]=false)(hs:EK l=true):Ec n l= .ok ⟨true,(hd l).text,ex0,[]⟩ l.tail.tail.tail:=by
 simp only [Ec,h0,zt,if_false];exact if_pos hs
theorem Ig {n:Nat}(h0:isT l [42]=false)(hs:EK l=false):Ec n l=(eP n l).bind λx r=>if isT r [97,115] then (Ar r.tail).bind λa r=>.ok ⟨false,[],x,a⟩ r else .ok ⟨false,[],x,[]⟩ r:=by
 simp only [Ec,h0,zt,if_false];unfold EK at hs;exact if_neg (by rw [hs];decide)
theorem ADI (hT:Toks l)(h:EK l=true):3 < l.length:=by
 simp only [EK,zF] at h;obtain ⟨⟨⟨⟨h1,h2⟩,_⟩,h3⟩,_⟩:=h;have hT1:=hT.tailK h1;have hT2:=hT1.tailK h2;have hT3:=hT2.tailK h3;have:=hT.len;have:=hT1.len;have:=hT2.len;have:=hT3.len;omega
theorem AKZ (n:Nat)(hE:FnE ω n b 148 (eP n)):FnV ω n b 145 (Ec n) TItemV:=by
 intro K Pn I L C v l hF h hT hl hok herr;obtain ⟨L1,L2,rfl,rfl⟩:=hF.foc;refine AQT ?_;unfold sh145;refine AQ (λb1=>?_);refine Az (CY [42] h hT (λhb hT' hl' v' hv'=>?_) (λhb0=>?_))
 ·repeat' (first|refine zqa ?_|refine zqh (λ_=>?_)|refine zqr ?_|refine zqb ?_|refine zqi ?_ ?_|refine zqc ?_|refine zqg (λ_=>?_) (λ_=>?_)|refine zqe ?_|fail)
  exact zAE (L1++(b,PBo v')::L2) (zAA (hok ⟨true,[],ex0,[]⟩ _ (by simp [Ec,hb]) hT' zo _ _ _ (zAC _) hv' ⟨.slice none 0 0,rfl,zAD none 0⟩))
 cases hlen:decide ((3:Int) < (l.length:Nat)) with
 |true=>
  have hlen:=of_decide_eq_true hlen;obtain ⟨t1,t2,t3,t4,r,rfl⟩:∃t1 t2 t3 t4 r,l=t1::t2::t3::t4::r:=by
   match l,hlen with
   |t1::t2::t3::t4::r,_=>exact ⟨t1,t2,t3,t4,r,rfl⟩
  obtain ⟨p1,o1,i1,c1⟩:=h.at (j:=0) zy (t:=t1) rfl;obtain ⟨p2,o2,i2,c2⟩:=h.at (j:=1) zy (t:=t2) rfl;obtain ⟨p3,o3,i3,c3⟩:=h.at (j:=2) zy (t:=t3) rfl;have i1:ixV 4 v (.int .i64 0)=_:=i1;have i2:ixV 4 v (.int .i64 1)=_:=i2;have i3:ixV 4 v (.int .i64 2)=_:=i3;have hl3:decide (((t1::t2::t3::t4::r).length:Nat) > (3:Int))=true:=decide_eq_true hlen;simp only [zAK h,hl3,SSd,Nat.reduceAdd];repeat' (first|(with_reducible first|refine CX (b:=b) ?_|refine keepA ?_|refine AQ (λ_=>?_))|((with_reducible refine rd1 (v:=.int .i64 t1.kind) ?_ ?_);exact (c1 _ [] (zAC _) 0 _ rfl).mono (zAC _) (λ_ h=>by cases h))|((with_reducible refine rd1 (v:=.int .i64 t2.kind) ?_ ?_);exact (c2 _ [] (zAC _) 0 _ rfl).mono (zAC _) (λ_ h=>by cases h))|((with_reducible refine rd1 (v:=.string ⟨t2.text.toArray⟩) ?_ ?_);exact (c2 _ [] (zAC _) 2 _ rfl).mono (zAC _) (λ_ h=>by cases h))|((with_reducible refine rd1 (v:=.int .i64 t3.kind) ?_ ?_);exact (c3 _ [] (zAC _) 0 _ rfl).mono (zAC _) (λ_ h=>by cases h))|((with_reducible refine rd1 (v:=.string ⟨t3.text.toArray⟩) ?_ ?_);exact (c3 _ [] (zAC _) 2 _ rfl).mono (zAC _) (λ_ h=>by cases h))|(with_reducible refine Aa ?_;refine hE.go zT zA zo (λy r' hg hT2 hr2 I' v' a' k' hI' hv' hw'=>?_) (λe hg I' v' hI'=>?_))|(with_reducible refine Az ?_;refine CY _ zT zA (λhb hT' hl' v' hv'=>?_) (λhb=>?_))|(with_reducible refine CG _ zT zA (λhb hT' hl' I' v' hI' hv'=>?_) (λhb I' v' hI'=>?_))|(with_reducible refine Aa ?_;refine Cj zT zA (λhb hT' hl' v' hv'=>?_) (λhb=>?_))|(with_reducible refine Aa ?_;refine Ak zT zA ?_)|(with_reducible first|refine BQ zC (λI' a hI' hw'=>zAA ?_)|refine BJ zC zC (λI' a hI' hw'=>zAA ?_)|refine Ba zC zC zC (λI' a hI' hw'=>zAA ?_))|(with_reducible refine Az ?_;refine BV zC ?_)|refine zqr ?_|refine zqb ?_|(with_reducible first|refine Ap (sh145_1.eq_1 ..) ?_|refine Ap (sh145_3.eq_1 ..) ?_|refine Ap (sh145_2.eq_1 ..) ?_|refine Ap (sh145.eq_1 ..) ?_|refine And.intro ?_ ?_)|refine zqc ?_|refine zqg (λhb=>?_) (λhb=>?_)|(simp only [SSd,Nat.reduceAdd,zAK h,hl3,i1,i2,i3]))
  all_goals (try (exfalso;simp_all [isK,hd];done))
  iterate 1
   have hs:EK (t1::t2::t3::t4::r)=true:=by simp_all [EK,isK,hd]
   have hn:=ADx (n:=n) hb0 hs;refine DT [[46],[42]] rfl rfl (λI' a hI hw=>zAA ?_);have e1:isT (t2::t3::t4::r) [46]=true:=by simp_all [isT,hd]
   have e2:isT (t3::t4::r) [42]=true:=by simp_all [isT,hd]
   refine Aa (Sm [[46],[42]] hw zy (hv'.mono hI) hT' (λr1 hg hT1 hr v1 hv1=>?_) (λe hg v'=>?_))
   ·simp only [Fj,AP,List.tail_cons,e1,e2,if_true,Res.bind,Res.ok.injEq,true_and] at hg;subst hg;repeat' (first|refine zqa ?_|refine zqh (λ_=>?_)|refine zqr ?_|refine zqb ?_|refine zqi ?_ ?_|refine zqc ?_|refine zqg (λ_=>?_) (λ_=>?_)|refine zqe ?_|fail)
    exact zAE (L1++(b,PBo v1)::L2) (zAA (hok ⟨true,t1.text,ex0,[]⟩ _ hn hT1 (by first|(simp;done)|(simp;omega)) _ _ _ hI hv1 ⟨.slice none 0 0,rfl,zAD none 0⟩))
   ·simp [Fj,AP,e1,e2,Res.bind] at hg
  all_goals first
   |(have hs:EK (t1::t2::t3::t4::r)=false:=(by simp_all [EK,isK,hd]);have hn:=Ig (n:=n) hb0 hs;exact zAE (L1++(b,PBo v')::L2) (zAA (herr _ (by rw [hn];simp [Ar,Res.bind,bad, *] <;> rfl) _ _ zE)))
   |(have hs:EK (t1::t2::t3::t4::r)=false:=(by simp_all [EK,isK,hd]);have hn:=Ig (n:=n) hb0 hs;exact zAE (L1++(b,PBo v')::L2) (zAA (hok ⟨false,[],y,[]⟩ _ (by rw [hn];simp [Ar,Res.bind,bad, *] <;> rfl) zA zo _ _ _ zE zT ⟨_,rfl,zC⟩)))
   |(have hs:EK (t1::t2::t3::t4::r)=false:=(by simp_all [EK,isK,hd]);have hn:=Ig (n:=n) hb0 hs;exact zAE (L1++(b,PBo v')::L2) (zAA (hok ⟨false,[],y,(hd r'.tail).text⟩ _ (by rw [hn];simp [Ar,Res.bind,bad, *] <;> rfl) zA zo _ _ _ zE zT ⟨_,rfl,zC⟩)))
 |false=>
  have hlen':¬((3:Int) < (l.length:Nat)):=of_decide_eq_false hlen;have hl3:decide ((l.length:Nat) > (3:Int))=false:=hlen;have hs:EK l=false:=by
   cases hs:EK l with
   |false=>rfl
   |true=>have:=ADI hT hs;omega
  repeat' (first|(with_reducible first|refine CX (b:=b) ?_|refine keepA ?_|refine AQ (λ_=>?_))|(with_reducible refine Aa ?_;refine hE.go zT zA zo (λy r' hg hT2 hr2 I' v' a' k' hI' hv' hw'=>?_) (λe hg I' v' hI'=>?_))|(with_reducible refine Az ?_;refine CY _ zT zA (λhb hT' hl' v' hv'=>?_) (λhb=>?_))|(with_reducible refine CG _ zT zA (λhb hT' hl' I' v' hI' hv'=>?_) (λhb I' v' hI'=>?_))|(with_reducible refine Aa ?_;refine Cj zT zA (λhb hT' hl' v' hv'=>?_) (λhb=>?_))|(with_reducible refine Aa ?_;refine Ak zT zA ?_)|(with_reducible first|refine BQ zC (λI' a hI' hw'=>zAA ?_)|refine BJ zC zC (λI' a hI' hw'=>zAA ?_)|refine Ba zC zC zC (λI' a hI' hw'=>zAA ?_))|(with_reducible refine Az ?_;refine BV zC ?_)|refine zqr ?_|refine zqb ?_|(with_reducible first|refine Ap (sh145_1.eq_1 ..) ?_|refine Ap (sh145_3.eq_1 ..) ?_|refine Ap (sh145_2.eq_1 ..) ?_|refine Ap (sh145.eq_1 ..) ?_|refine And.intro ?_ ?_)|refine zqc ?_|refine zqg (λhb=>?_) (λhb=>?_)|(simp only [SSd,Nat.reduceAdd,zAK h,hl3]))
  all_goals first
   |(have hn:=Ig (n:=n) hb0 hs;exact zAE (L1++(b,PBo v')::L2) (zAA (herr _ (by rw [hn];simp [Ar,Res.bind,bad, *] <;> rfl) _ _ zE)))
   |(have hn:=Ig (n:=n) hb0 hs;exact zAE (L1++(b,PBo v')::L2) (zAA (hok ⟨false,[],y,[]⟩ _ (by rw [hn];simp [Ar,Res.bind,bad, *] <;> rfl) zA zo _ _ _ zE zT ⟨_,rfl,zC⟩)))
   |(have hn:=Ig (n:=n) hb0 hs;exact zAE (L1++(b,PBo v')::L2) (zAA (hok ⟨false,[],y,(hd r'.tail).text⟩ _ (by rw [hn];simp [Ar,Res.bind,bad, *] <;> rfl) zA zo _ _ _ zE zT ⟨_,rfl,zC⟩)))
end
def QY (g:Pr TItem):Pr TItem:=λl=>if EK l=true then .ok ⟨true,(hd l).text,ex0,[]⟩ l.tail.tail.tail else g l
theorem AIH (n:Nat):Ec n=itP [42] (okP ⟨true,[],ex0,[]⟩) (QY (BC (eP n) λx=>itP [97,115] (BC Ar λa=>okP ⟨false,[],x,a⟩) (okP ⟨false,[],x,[]⟩))):=rfl
theorem ADm {g:Pr TItem}{x:TItem}{s s':Stt}(hn:∀l,s= .good l→EK l=false)(h:Out (run g s) x s'):Out (run (QY g) s) x s':=by
 cases s with
 |bad e=>exact h
 |good l=>
  show Out (QY g l) x s';simp only [QY,hn l rfl,zt,if_false];exact h
theorem ADl {g:Pr TItem}{l:List Tok}(hn:EK l=true):Out (run (QY g) (.good l)) ⟨true,(hd l).text,ex0,[]⟩ (.good l.tail.tail.tail):=by
 show Out (QY g l) _ _;simp only [QY,hn,if_true];exact ⟨rfl,rfl⟩
theorem WW (toks:List Tok)(k:Nat):EK (toks.drop k)=((hd (toks.drop k)).kind==1&&(hd (toks.drop (k+1))).kind==5&&(hd (toks.drop (k+1))).text==[46]&&(hd (toks.drop (k+1+1))).kind==5&&(hd (toks.drop (k+1+1))).text==[42]):=by
 simp only [EK,isK,List.tail_drop]
theorem YZ:CU=BC Ar λs=>itP [97,115] (BC Ar λa=>okP ⟨s,a,false,ex0⟩) (kP 1 (BC Ar λa=>okP ⟨s,a,false,ex0⟩) (okP ⟨s,[],false,ex0⟩)):=rfl
theorem AEo (n:Nat)(s:Bs):DW n s=itP s (eP n) (okP ex0):=rfl
section
variable {ω:Om}{b:Nat}{w:Value}{toks:List Tok}
theorem UC:∀n:Nat,n≤1000000000→FdE ω n b w toks 127 (eP n)∧FdE ω n b w toks 213 (nP n)∧FdE ω n b w toks 261 (uP n)
 |0,_=>⟨λ_ _ _ _ _ _ _ _ _ _ hn=>absurd hn (Nat.not_lt_zero _),λ_ _ _ _ _ _ _ _ _ _ hn=>absurd hn (Nat.not_lt_zero _),λ_ _ _ _ _ _ _ _ _ _ hn=>absurd hn (Nat.not_lt_zero _)⟩
 |n+1,hn=>by
  obtain ⟨hE,hN,hU⟩:=UC n zo;have u:=AEJ n hn hE hU;have s:=AKr n (AIT n u);have nn:=AKu n hN (AIU n hn hE s);exact ⟨AOV n (AKz n nn),nn,u⟩
theorem dE (n:Nat)(hn:n≤1000000000):FdE ω n b w toks 127 (eP n):=(UC n hn).1
theorem Ny (n:Nat)(hn0:n≤1000000000):FdE ω n b w toks 88 (DW n [119,104,101,114,101]):=by
 have hE:=dE (ω:=ω) (b:=b) (w:=w) (toks:=toks) n hn0;intro K I L C st k bd hF h hs hn hk;obtain ⟨L1,L2,rfl,rfl⟩:=hF.foc;refine ATf ?_;unfold sh88;rw [AEo] at hk;repeat' (first|(with_reducible first|refine BM ?_|refine keepA ?_|refine AQ (λ_=>?_))|(with_reducible refine call ?_;refine FdE.goE hE zD zA zo (λy s' k' bd' I' a' c' hs' ho' hz' hI' hv'=>?_))|(with_reducible refine call ?_;refine Ad _ zD zA (λl k' hy hs' hz'=>?_) (λhno=>?_))|(with_reducible refine call ?_;refine BP _ zD zA (λl hy=>?_) (λhno=>?_))|(with_reducible refine call ?_;refine Aj _ zD zA (λs' k' bd' hs' ho' hz' hzz'=>?_))|(with_reducible refine call ?_;refine BB zD zA (λx s' k' bd' hs' ho' hz' hzz'=>?_))|(with_reducible first|refine BQ zC (λI' a hI' hw'=>zAA ?_)|refine BJ zC zC (λI' a hI' hw'=>zAA ?_)|refine Ba zC zC zC (λI' a hI' hw'=>zAA ?_))|(with_reducible refine call ?_;refine BN zC ?_)|refine zqr ?_|refine zqb ?_|(with_reducible first|refine Ap (sh88.eq_1 ..) ?_|refine And.intro ?_ ?_)|refine zqc ?_|refine zqg (λhb=>?_) (λhb=>?_)|refine zqe ?_|fail)
 ·exact zAE (L1++(b,RDo w k' bd')::L2) (zAA (hk y s' k' bd' _ _ hs' zO zo zE ⟨_,_,rfl,zC⟩))
 ·exact zAE (L1++(b,RDo w k bd)::L2) (zAA (hk ex0 st k bd _ _ hs zO zo zE ⟨_,_,rfl,zAD none 0⟩))
theorem AET (n:Nat):Fd ω n b w toks 129 #[AL b] EO (λ_ x v=>v= .int .i64 x):=by
 intro K I L C st k bd hF h hs hn hk;obtain ⟨L1,L2,rfl,rfl⟩:=hF.foc;obtain ⟨bt,off,h1,h2⟩:=hs.peek h;have hlt:=hs.lt;have hle:=hs.le;have e:IntKind.i64.wrap ((k:Int)+1)=((k+1:Nat):Int):=by rw [wrap_i64 _ zo];rfl
 refine AQj ?_;unfold sh129;have bad:(bd=false→(isK (toks.drop k) 3&&decide ((hd (toks.drop k)).num≤2147483647))=false)→Gh (K (.int .i64 0)) I (L1++(b,RDo w k true)::L2):=λhb=>zAA (hk 0 _ k true I _ hs.fail (by
   rcases hs.st with ⟨h1,h2⟩|⟨h1,h2⟩
   ·subst h2;show Out (if (isK _ 3&&_)=true then _ else _) _ _;rw [if_neg (by rw [hb h1];decide)];exact rfl
   ·subst h2;exact rfl) (zak _) (zAC _) rfl)
 have good:(bd=true→False)→isK (toks.drop k) 3=true→(hd (toks.drop k)).num≤2147483647→Gh (K (.int .i64 (hd (toks.drop k)).num)) I (L1++(b,RDo w (k+1) bd)::L2):=λhb hk1 hk2=>by
  obtain rfl:bd=false:=by simpa using hb
  rcases hs.st with ⟨_,h2⟩|⟨h2,_⟩
  ·subst h2;have hs':=hs.next (by rw [Ih hk1];decide);have hsz:=hs.ok.len;refine zAA (hk _ _ (k+1) false I _ hs' ?_ (by simp only [Stt.sz];omega) (zAC _) rfl);show Out (if (isK _ 3&&_)=true then _ else _) _ _;rw [if_pos (by rw [hk1,decide_eq_true hk2];rfl)];exact ⟨rfl,rfl⟩
  ·cases h2
 repeat' (first|refine zqa ?_|refine zqh (λ_=>?_)|(refine Qo (h2 _ [] (zAC _)) (zAC _) rfl ?_)|refine zqr ?_|refine zqb ?_|(with_reducible first|refine Ap (sh129_1.eq_1 ..) ?_|refine Ap (sh129.eq_1 ..) ?_|refine And.intro ?_ ?_)|refine zqc ?_|refine zqg (λ_=>?_) (λ_=>?_)|(simp only [SSd,Nat.reduceAdd,h1,e]))
 all_goals first
  |exact zAE _ (bad (by intro hb;simp_all [isK];done))
  |exact zAE _ (good (by intro hb;simp_all;done) (by simp_all [isK];done) (by simp_all;done))
  |exact zAE _ (good (by intro hb;simp_all;done) (by simp_all [isK];done) (by simp_all;omega))
  |exact zAE _ (bad (by intro hb;simp_all [isK];omega))
theorem AIW (n : Nat) (hn0 : n ≤ 1000000000) : Fd ω n b w toks 124 #[AL b] (Ec n) (Hz TItemV) := by
  have hE := dE (ω := ω) (b := b) (w := w) (toks := toks) n hn0
  intro K I L C st k bd hF h hs hn hk
  obtain ⟨L1, L2, rfl, rfl⟩ := hF.foc
  refine AQo ?_
  unfold sh124
  rw [AIH] at hk
  refine AQ (λb1 => ?_)
  refine call (Ad _ h hs (λl k' hy hs' hz' => ?_) (λhno => ?_))
  · repeat' (first | (with_reducible first | refine BM ?_ | refine keepA ?_ | refine AQ (λ_ => ?_)) | (with_reducible refine call ?_;refine Ad _ zD zA (λl k' hy hs' hz' => ?_) (λhno => ?_)) | (with_reducible refine call ?_;refine BP _ zD zA (λl hy => ?_) (λhno => ?_)) | (with_reducible refine call ?_;refine Aj _ zD zA (λs' k' bd' hs' ho' hz' hzz' => ?_)) | (with_reducible refine call ?_;refine BB zD zA (λx s' k' bd' hs' ho' hz' hzz' => ?_)) | (with_reducible first | refine BQ zC (λI' a hI' hw' => zAA ?_) | refine BJ zC zC (λI' a hI' hw' => zAA ?_) | refine Ba zC zC zC (λI' a hI' hw' => zAA ?_)) | (with_reducible refine call ?_;refine BN zC ?_) | (with_reducible refine rdb ?_) | ((with_reducible first | refine st1 ?_ ?_ | refine rdB ?_ ?_); rfl) | (with_reducible refine CB ?_) | ((with_reducible refine GK ?_ ?_); rfl) | ((with_reducible refine stB ?_ ?_ ?_ ?_); rfl; rfl; exact AY rfl) | ((with_reducible first | refine rdP _ rfl ?_ ?_ | refine IX _ rfl ?_ ?_); rfl) | ((with_reducible refine stP _ rfl ?_ ?_ ?_ ?_); rfl; rfl; rfl) | refine zqi ?_ ?_ | (simp only [SSg, Int.reduceBEq, Int.reduceBNe, Int.reduceLT, Int.reduceLE, beq_self_eq_true, bne_self_eq_false]) | (with_reducible first | refine BD (λhb => ?_) (λhb => ?_) | refine AB (λhb => ?_) (λhb => ?_)) | (simp only [SSd, Nat.reduceAdd]))
    exact zAE (L1 ++ (b, RDo w k' false) :: L2) (zAA (hk ⟨true, [], ex0, []⟩ _ k' false _ _ hs' zO zo zE ⟨_, rfl, _, rfl, zAD none 0⟩))
  obtain ⟨bt, off, p1, p2⟩ := hs.peek h
  have hlt := hs.lt
  have hle := hs.le
  have e1 : IntKind.i64.wrap ((k : Int) + 1) = ((k + 1 : Nat) : Int) := by rw [wrap_i64 _ zo]; rfl
  have e2 : IntKind.i64.wrap ((k : Int) + 2) = ((k + 1 + 1 : Nat) : Int) := by rw [wrap_i64 _ zo]; rfl
  have hst : (bd = false → EK (toks.drop k) = false) → ∀ l, st = .good l → EK l = false := by
    intro hb l hl
    rcases hs.st with ⟨q1, q⟩ | ⟨_, q⟩ <;> rw [q] at hl <;> cases hl
    exact hb q1
  rw [WW] at hst
  cases c1 : (hd (toks.drop k)).kind == 1 with
  | false =>
    have hst := hst (by rw [c1]; intro _; rfl)
    repeat' (first | (with_reducible first | refine BM ?_ | refine keepA ?_ | refine AQ (λ_ => ?_)) | (with_reducible refine call ?_;refine FdE.goE hE zD zA zo (λy s' k' bd' I' a' c' hs' ho' hz' hI' hv' => ?_)) | (refine Gm (v := .int .i64 (hd (toks.drop k)).kind) (λI' L' hS => p2 I' L' hS.1 0 _ rfl) ?_) | (with_reducible refine call ?_;refine Ad _ zD zA (λl k' hy hs' hz' => ?_) (λhno => ?_)) | (with_reducible refine call ?_;refine BP _ zD zA (λl hy => ?_) (λhno => ?_)) | (with_reducible refine call ?_;refine Aj _ zD zA (λs' k' bd' hs' ho' hz' hzz' => ?_)) | (with_reducible refine call ?_;refine BB zD zA (λx s' k' bd' hs' ho' hz' hzz' => ?_)) | (with_reducible first | refine BQ zC (λI' a hI' hw' => zAA ?_) | refine BJ zC zC (λI' a hI' hw' => zAA ?_) | refine Ba zC zC zC (λI' a hI' hw' => zAA ?_)) | (with_reducible refine call ?_;refine BN zC ?_) | (with_reducible refine rdb ?_) | ((with_reducible first | refine st1 ?_ ?_ | refine rdB ?_ ?_); rfl) | (with_reducible refine CB ?_) | ((with_reducible refine GK ?_ ?_); rfl) | ((with_reducible refine stB ?_ ?_ ?_ ?_); rfl; rfl; exact AY rfl) | ((with_reducible first | refine rdP _ rfl ?_ ?_ | refine IX _ rfl ?_ ?_); rfl) | ((with_reducible refine stP _ rfl ?_ ?_ ?_ ?_); rfl; rfl; rfl) | (with_reducible first | refine Ap (sh124_1.eq_1 ..) ?_ | refine Ap (sh124_3.eq_1 ..) ?_ | refine Ap (sh124_2.eq_1 ..) ?_ | refine Ap (sh124.eq_1 ..) ?_ | refine And.intro ?_ ?_) | (simp only [SSg, Int.reduceBEq, Int.reduceBNe, Int.reduceLT, Int.reduceLE, beq_self_eq_true, bne_self_eq_false]) | (with_reducible first | refine BD (λhb => ?_) (λhb => ?_) | refine AB (λhb => ?_) (λhb => ?_)) | (simp only [SSd, Nat.reduceAdd, p1, c1]))
    all_goals first
      | exact zAE (L1 ++ (b, RDo w k' bd') :: L2) (zAA (hk ⟨false, [], y, []⟩ s' k' bd' _ _ hs' zO zo zE ⟨_, rfl, _, rfl, zC⟩))
      | exact zAE (L1 ++ (b, RDo w k' bd') :: L2) (zAA (hk ⟨false, [], y, x⟩ s' k' bd' _ _ hs' zO zo zE ⟨_, rfl, _, rfl, zC⟩))
  | true =>
    have hs1 := hs.next (by have : (hd (toks.drop k)).kind = 1 := by simpa using c1
                            omega)
    obtain ⟨bq, oq, q1, q2⟩ := hs1.peek h
    cases c2 : (hd (toks.drop (k + 1))).kind == 5 with
    | false =>
      have hst := hst (by rw [c1, c2]; intro _; rfl)
      repeat' (first | (with_reducible first | refine BM ?_ | refine keepA ?_ | refine AQ (λ_ => ?_)) | (with_reducible refine call ?_;refine FdE.goE hE zD zA zo (λy s' k' bd' I' a' c' hs' ho' hz' hI' hv' => ?_)) | (refine Gm (v := .int .i64 (hd (toks.drop k)).kind) (λI' L' hS => p2 I' L' hS.1 0 _ rfl) ?_) | (refine Gm (v := .int .i64 (hd (toks.drop (k + 1))).kind) (λI' L' hS => q2 I' L' hS.1 0 _ rfl) ?_) | (refine Gm (v := .string ⟨(hd (toks.drop (k + 1))).text.toArray⟩) (λI' L' hS => q2 I' L' hS.1 1 _ rfl) ?_) | (with_reducible refine call ?_;refine Ad _ zD zA (λl k' hy hs' hz' => ?_) (λhno => ?_)) | (with_reducible refine call ?_;refine BP _ zD zA (λl hy => ?_) (λhno => ?_)) | (with_reducible refine call ?_;refine Aj _ zD zA (λs' k' bd' hs' ho' hz' hzz' => ?_)) | (with_reducible refine call ?_;refine BB zD zA (λx s' k' bd' hs' ho' hz' hzz' => ?_)) | (with_reducible first | refine BQ zC (λI' a hI' hw' => zAA ?_) | refine BJ zC zC (λI' a hI' hw' => zAA ?_) | refine Ba zC zC zC (λI' a hI' hw' => zAA ?_)) | (with_reducible refine call ?_;refine BN zC ?_) | (with_reducible refine rdb ?_) | ((with_reducible first | refine st1 ?_ ?_ | refine rdB ?_ ?_); rfl) | (with_reducible refine CB ?_) | ((with_reducible refine GK ?_ ?_); rfl) | ((with_reducible refine stB ?_ ?_ ?_ ?_); rfl; rfl; exact AY rfl) | ((with_reducible first | refine rdP _ rfl ?_ ?_ | refine IX _ rfl ?_ ?_); rfl) | ((with_reducible refine stP _ rfl ?_ ?_ ?_ ?_); rfl; rfl; rfl) | (with_reducible first | refine Ap (sh124_1.eq_1 ..) ?_ | refine Ap (sh124_3.eq_1 ..) ?_ | refine Ap (sh124_2.eq_1 ..) ?_ | refine Ap (sh124.eq_1 ..) ?_ | refine And.intro ?_ ?_) | (simp only [SSg, Int.reduceBEq, Int.reduceBNe, Int.reduceLT, Int.reduceLE, beq_self_eq_true, bne_self_eq_false]) | (with_reducible first | refine BD (λhb => ?_) (λhb => ?_) | refine AB (λhb => ?_) (λhb => ?_)) | (simp only [SSd, Nat.reduceAdd, p1, c1, e1, q1, c2]))
      all_goals first
        | exact zAE (L1 ++ (b, RDo w k' bd') :: L2) (zAA (hk ⟨false, [], y, []⟩ s' k' bd' _ _ hs' zO zo zE ⟨_, rfl, _, rfl, zC⟩))
        | exact zAE (L1 ++ (b, RDo w k' bd') :: L2) (zAA (hk ⟨false, [], y, x⟩ s' k' bd' _ _ hs' zO zo zE ⟨_, rfl, _, rfl, zC⟩))
    | true =>
      have hs2 := hs1.next (by have : (hd (toks.drop (k + 1))).kind = 5 := by simpa using c2
                               omega)
      obtain ⟨br, or, r1, r2⟩ := hs2.peek h
      have e3 : IntKind.i64.wrap ((k : Int) + 3) = ((k + 1 + 1 + 1 : Nat) : Int) := by rw [wrap_i64 _ zo]; rfl
      rw [c1, c2] at hst
      repeat' (first | (with_reducible first | refine BM ?_ | refine keepA ?_ | refine AQ (λ_ => ?_)) | (with_reducible refine call ?_;refine FdE.goE hE zD zA zo (λy s' k' bd' I' a' c' hs' ho' hz' hI' hv' => ?_)) | (refine Gm (v := .int .i64 (hd (toks.drop k)).kind) (λI' L' hS => p2 I' L' hS.1 0 _ rfl) ?_) | (refine Gm (v := .int .i64 (hd (toks.drop (k + 1))).kind) (λI' L' hS => q2 I' L' hS.1 0 _ rfl) ?_) | (refine Gm (v := .string ⟨(hd (toks.drop (k + 1))).text.toArray⟩) (λI' L' hS => q2 I' L' hS.1 1 _ rfl) ?_) | (refine Gm (v := .int .i64 (hd (toks.drop (k + 1 + 1))).kind) (λI' L' hS => r2 I' L' hS.1 0 _ rfl) ?_) | (refine Gm (v := .string ⟨(hd (toks.drop (k + 1 + 1))).text.toArray⟩) (λI' L' hS => r2 I' L' hS.1 1 _ rfl) ?_) | (refine Gm (v := .string ⟨(hd (toks.drop k)).text.toArray⟩) (λI' L' hS => p2 I' L' hS.1 1 _ rfl) ?_) | (with_reducible refine call ?_;refine Ad _ zD zA (λl k' hy hs' hz' => ?_) (λhno => ?_)) | (with_reducible refine call ?_;refine BP _ zD zA (λl hy => ?_) (λhno => ?_)) | (with_reducible refine call ?_;refine Aj _ zD zA (λs' k' bd' hs' ho' hz' hzz' => ?_)) | (with_reducible refine call ?_;refine BB zD zA (λx s' k' bd' hs' ho' hz' hzz' => ?_)) | (with_reducible first | refine BQ zC (λI' a hI' hw' => zAA ?_) | refine BJ zC zC (λI' a hI' hw' => zAA ?_) | refine Ba zC zC zC (λI' a hI' hw' => zAA ?_)) | (with_reducible refine call ?_;refine BN zC ?_) | (with_reducible refine rdb ?_) | ((with_reducible first | refine st1 ?_ ?_ | refine rdB ?_ ?_); rfl) | (with_reducible refine CB ?_) | ((with_reducible refine GK ?_ ?_); rfl) | ((with_reducible refine stB ?_ ?_ ?_ ?_); rfl; rfl; exact AY rfl) | ((with_reducible first | refine rdP _ rfl ?_ ?_ | refine IX _ rfl ?_ ?_); rfl) | ((with_reducible refine stP _ rfl ?_ ?_ ?_ ?_); rfl; rfl; rfl) | (with_reducible first | refine Ap (sh124_1.eq_1 ..) ?_ | refine Ap (sh124_3.eq_1 ..) ?_ | refine Ap (sh124_2.eq_1 ..) ?_ | refine Ap (sh124.eq_1 ..) ?_ | refine And.intro ?_ ?_) | (simp only [SSg, Int.reduceBEq, Int.reduceBNe, Int.reduceLT, Int.reduceLE, beq_self_eq_true, bne_self_eq_false]) | (with_reducible first | refine BD (λhb => ?_) (λhb => ?_) | refine AB (λhb => ?_) (λhb => ?_)) | (simp only [SSd, Nat.reduceAdd, p1, c1, e1, q1, c2, e2, r1, e3]))
      all_goals first
        | (have hst := hst (by intro hb; simp_all; done); first
          | exact zAE (L1 ++ (b, RDo w k' bd') :: L2) (zAA (hk ⟨false, [], y, []⟩ s' k' bd' _ _ hs' zO zo zE ⟨_, rfl, _, rfl, zC⟩))
          | exact zAE (L1 ++ (b, RDo w k' bd') :: L2) (zAA (hk ⟨false, [], y, x⟩ s' k' bd' _ _ hs' zO zo zE ⟨_, rfl, _, rfl, zC⟩)))
        | (obtain rfl : bd = false := by simpa using ‹(!bd) = true›
           rcases hs.st with ⟨_, rfl⟩ | ⟨q, _⟩
           rotate_left
           · cases q
           have hs3 := hs2.next (by have : (hd (toks.drop (k + 1 + 1))).kind = 5 := by simp_all
                                    omega)
           have hsb : EK (toks.drop k) = true := by rw [WW]; simp_all
           refine zAE (L1 ++ (b, RDo w (k + 1 + 1 + 1) false) :: L2) (zAA (hk ⟨true, (hd (toks.drop k)).text, ex0, []⟩ _ _ false _ _ hs3 (CP hno ?_) ?_ zE ⟨_, rfl, _, rfl, zAD none 0⟩))
           · have := ADl (g := BC (eP n) λx => itP [97, 115] (BC Ar λa => okP ⟨false, [], x, a⟩) (okP ⟨false, [], x, []⟩)) hsb
             simpa only [List.tail_drop] using this
           · simp only [Stt.sz, List.tail_drop, zar]
             omega)
end
theorem Ns (n:Nat):Ef n=BC (eP n) λx=>itP [100,101,115,99] (okP ⟨x,true⟩) (itP [97,115,99] (okP ⟨x,false⟩) (okP ⟨x,false⟩)):=rfl
section
variable {ω:Om}{b:Nat}{w:Value}{toks:List Tok}
theorem AAA (n:Nat):Fd ω n b w toks 184 #[AL b] CU (Hz TSourceV):=by
 intro K I L C st k bd hF h hs hn hk;obtain ⟨L1,L2,rfl,rfl⟩:=hF.foc;refine APp ?_;unfold sh184;rw [YZ] at hk;refine AQ (λb1=>?_);try refine zqe ?_
 refine AQ (λb3=>?_);repeat' (first|refine zqa ?_|refine zqh (λ_=>?_)|refine zqr ?_|refine zqb ?_|refine zqi ?_ ?_|refine zqc ?_|refine zqg (λ_=>?_) (λ_=>?_)|refine zqe ?_|fail)
 refine call (BB h hs (λnm s1 k1 bd1 hs1 ho1 hz1 hzz1=>?_));repeat' (first|refine zqa ?_|refine zqh (λ_=>?_)|refine zqr ?_|refine zqb ?_|refine zqi ?_ ?_|refine zqc ?_|refine zqg (λ_=>?_) (λ_=>?_)|refine zqe ?_|fail)
 refine call (Ad _ h hs1 (λl k' hy hs' hz'=>?_) (λhno=>?_))
 ·repeat' (first|(with_reducible first|refine BM ?_|refine keepA ?_|refine AQ (λ_=>?_))|(with_reducible refine call ?_;refine Ad _ zD zA (λl k' hy hs' hz'=>?_) (λhno=>?_))|(with_reducible refine call ?_;refine BP _ zD zA (λl hy=>?_) (λhno=>?_))|(with_reducible refine call ?_;refine Aj _ zD zA (λs' k' bd' hs' ho' hz' hzz'=>?_))|(with_reducible refine call ?_;refine BB zD zA (λx s' k' bd' hs' ho' hz' hzz'=>?_))|(with_reducible first|refine BQ zC (λI' a hI' hw'=>zAA ?_)|refine BJ zC zC (λI' a hI' hw'=>zAA ?_)|refine Ba zC zC zC (λI' a hI' hw'=>zAA ?_))|(with_reducible refine call ?_;refine BN zC ?_)|refine zqr ?_|refine zqb ?_|(with_reducible first|refine Ap (sh184_2.eq_1 ..) ?_|refine Ap (sh184_1.eq_1 ..) ?_|refine Ap (sh184.eq_1 ..) ?_|refine And.intro ?_ ?_)|refine zqc ?_|refine zqg (λhb=>?_) (λhb=>?_)|refine zqe ?_|fail)
  exact zAE (L1++(b,RDo w k' bd')::L2) (zAA (hk ⟨nm,x,false,ex0⟩ s' k' bd' _ _ hs' zO zo zE ⟨_,rfl,_,rfl,zAD none 0⟩))
 ·obtain ⟨bt,off,p1,p2⟩:=hs1.peek h;have hk1:∀l,s1= .good l→isK l 1=((hd (toks.drop k1)).kind==1):=λl hl=>by
   rcases hs1.st with ⟨_,q⟩|⟨_,q⟩ <;> rw [q] at hl <;> cases hl
   rfl
  repeat' (first|(with_reducible first|refine BM ?_|refine keepA ?_|refine AQ (λ_=>?_))|(refine Gm (v:=.int .i64 (hd (toks.drop k1)).kind) (λI' L' hS=>p2 I' L' hS.1 0 _ rfl) ?_)|(with_reducible refine call ?_;refine Ad _ zD zA (λl k' hy hs' hz'=>?_) (λhno=>?_))|(with_reducible refine call ?_;refine BP _ zD zA (λl hy=>?_) (λhno=>?_))|(with_reducible refine call ?_;refine Aj _ zD zA (λs' k' bd' hs' ho' hz' hzz'=>?_))|(with_reducible refine call ?_;refine BB zD zA (λx s' k' bd' hs' ho' hz' hzz'=>?_))|(with_reducible first|refine BQ zC (λI' a hI' hw'=>zAA ?_)|refine BJ zC zC (λI' a hI' hw'=>zAA ?_)|refine Ba zC zC zC (λI' a hI' hw'=>zAA ?_))|(with_reducible refine call ?_;refine BN zC ?_)|refine zqr ?_|refine zqb ?_|(with_reducible first|refine Ap (sh184_2.eq_1 ..) ?_|refine Ap (sh184_1.eq_1 ..) ?_|refine Ap (sh184.eq_1 ..) ?_|refine And.intro ?_ ?_)|refine zqc ?_|refine zqg (λhb=>?_) (λhb=>?_)|(simp only [SSd,Nat.reduceAdd,p1]))
  ·have hk1:∀l,s1= .good l→isK l 1=true:=λl hl=>(hk1 l hl).trans zA;exact zAE (L1++(b,RDo w k' bd')::L2) (zAA (hk ⟨nm,x,false,ex0⟩ s' k' bd' _ _ hs' zO zo zE ⟨_,rfl,_,rfl,zAD none 0⟩))
  ·have hk1:∀l,s1= .good l→isK l 1=false:=λl hl=>(hk1 l hl).trans (by first|assumption|exact Bool.eq_false_iff.2 zA);exact zAE (L1++(b,RDo w k1 bd1)::L2) (zAA (hk ⟨nm,[],false,ex0⟩ s1 k1 bd1 _ _ hs1 zO zo zE ⟨_,rfl,_,rfl,zAD none 0⟩))
  ·obtain rfl:bd1=true:=by simpa using ‹(!bd1)≠true›
   obtain ⟨e,rfl⟩:=hs1.zero;have hk1:∀l,Stt.bad e= .good l→isK l 1=false:=λl hl=>nomatch hl
   exact zAE (L1++(b,RDo w k1 true)::L2) (zAA (hk ⟨nm,[],false,ex0⟩ _ k1 true _ _ hs1 zO zo zE ⟨_,rfl,_,rfl,zAD none 0⟩))
theorem AAE (n:Nat)(hn0:n≤1000000000):Fd ω n b w toks 128 #[AL b] (BL n (Ef n)) (AAa TOrderV 12):=by
 have hE:=dE (ω:=ω) (b:=b) (w:=w) (toks:=toks) n hn0;intro K I L C st k bd hF h hs hn hk;obtain ⟨L1,L2,rfl,rfl⟩:=hF.foc;refine AQk ?_;unfold AMn;refine loop (λm s I2 Lx=>∃(X:LH) (v:Value) (cells:List Value) (xs:List TOrder) (f:Nat) (st2:Stt) (k2:Nat) (bd2:Bool),st2.sz=m∧s=(v,())∧Ext I I2∧Lx=X++(L1++(b,RDo w k2 bd2)::L2)∧SlO 127 12 X v cells xs.length∧Recs (TOrderV I2) 12 xs cells∧RdS toks st2 k2 bd2∧st2.sz≤f+1∧xs.length+st2.sz≤st.sz∧Rest n (Ef n) st f xs st2) st.sz
  ⟨[],_,[],[],n,st,k,bd,rfl,rfl,zAC _,rfl,SlO.none _ _,rfl,hs,by omega,by simp,Rest.start⟩ ?_
 rintro m s I2 Lx ⟨X,v,cells,xs,f,st2,k2,bd2,rfl,rfl,hI2,rfl,hX,hR,hs2,hf,hlen,hm⟩;unfold ABp;try refine zqe ?_
 refine rdb ?_;cases bd2 with
 |true=>
  obtain ⟨e,rfl⟩:=hs2.zero;simp only [zQ,SSd,Nat.reduceAdd];exact RL.ofO (R:=TOrderV) (λh hI=>zAO h hI) hX hR (λI3 hI3 hw=>zAA (hk xs _ k2 true I3 v hs2 (hm.bad xs) zo (zAB hI2 hI3) hw))
 |false=>
  have h1:=hs2.one;simp only [zG,SSd,Nat.reduceAdd];refine call (FdE.goE hE zD hs2 zo (λx s3 k3 bd3 I3 a3 c3 hs3 ho3 hz3 hI3 hv3=>?_));refine AQ (λb1=>?_);refine stB rfl rfl (AY rfl) ?_;refine call (Ad _ (h.mono (zAB hI2 hI3)) hs3 (λl k5 hy hs5 hz5=>?_) (λhno=>?_))
  ·have ho5:Out (run (Ef n) st2) ⟨x,true⟩ (.good l.tail):=by rw [Ns];exact zO
   simp only [zQ,SSd,Nat.reduceAdd];unfold MV;refine rdB rfl ?_;simp only [zQ,SSd,Nat.reduceAdd]
   refine CZ (X6:=X) (R:=TOrderV) (x:=⟨x,true⟩) rfl zx hX (hR.imp λ_ _ h=>zAO h hI3) ⟨_,rfl,hv3⟩ rfl (AY rfl) zo zo (λX1 X6 w6 cells6 hX6 hR6=>?_);refine call (Ad _ (h.mono (zAB hI2 hI3)) hs5 (λl k4 hy hs4 hz4=>?_) (λhno=>?_))
   ·have h4:=hs4.one;obtain ⟨f,rfl⟩:∃q,f=q+1:=⟨f - 1,by omega⟩;simp only [zQ,SSd,Nat.reduceAdd];exact zAE (X6++(L1++(b,RDo w k4 false)::L2)) (zAA ⟨_,by omega,X6,w6,cells6,xs++[⟨x,true⟩],f,.good l.tail,k4,false,rfl,rfl,zAB hI2 hI3,rfl,hX6,hR6,hs4,by omega,by rw [zn,zV];omega,hm.next ho5 hy⟩)
   ·simp only [zG,SSd,Nat.reduceAdd];refine RL.ofO (R:=TOrderV) (λh hI=>zAO h hI) hX6 hR6 (λI4 hI4 hw=>zAE (L1++(b,RDo w _ _)::L2) (zAA (hk (xs++[(⟨x,true⟩:TOrder)]) _ _ _ I4 w6 hs5 (hm.stop ho5 hno) zo (zAB hI2 (zAB hI3 hI4)) hw)))
  ·simp only [zG,SSd,Nat.reduceAdd];refine call (Ad _ (h.mono (zAB hI2 hI3)) hs3 (λl k5 hy hs5 hz5=>?_) (λhno2=>?_))
   ·have ho5:Out (run (Ef n) st2) ⟨x,false⟩ (.good l.tail):=by rw [Ns];exact zO
    unfold MV;refine rdB rfl ?_;simp only [zQ,SSd,Nat.reduceAdd]
    refine CZ (X6:=X) (R:=TOrderV) (x:=⟨x,false⟩) rfl zx hX (hR.imp λ_ _ h=>zAO h hI3) ⟨_,rfl,hv3⟩ rfl (AY rfl) zo zo (λX1 X6 w6 cells6 hX6 hR6=>?_);refine call (Ad _ (h.mono (zAB hI2 hI3)) hs5 (λl k4 hy hs4 hz4=>?_) (λhno=>?_))
    ·have h4:=hs4.one;obtain ⟨f,rfl⟩:∃q,f=q+1:=⟨f - 1,by omega⟩;simp only [zQ,SSd,Nat.reduceAdd];exact zAE (X6++(L1++(b,RDo w k4 false)::L2)) (zAA ⟨_,by omega,X6,w6,cells6,xs++[⟨x,false⟩],f,.good l.tail,k4,false,rfl,rfl,zAB hI2 hI3,rfl,hX6,hR6,hs4,by omega,by rw [zn,zV];omega,hm.next ho5 hy⟩)
    ·simp only [zG,SSd,Nat.reduceAdd];refine RL.ofO (R:=TOrderV) (λh hI=>zAO h hI) hX6 hR6 (λI4 hI4 hw=>zAE (L1++(b,RDo w _ _)::L2) (zAA (hk (xs++[(⟨x,false⟩:TOrder)]) _ _ _ I4 w6 hs5 (hm.stop ho5 hno) zo (zAB hI2 (zAB hI3 hI4)) hw)))
   ·have ho5:Out (run (Ef n) st2) ⟨x,false⟩ s3:=by rw [Ns];exact zO
    have hs5:=hs3;unfold MV;refine rdB rfl ?_;simp only [zQ,SSd,Nat.reduceAdd]
    refine CZ (X6:=X) (R:=TOrderV) (x:=⟨x,false⟩) rfl zx hX (hR.imp λ_ _ h=>zAO h hI3) ⟨_,rfl,hv3⟩ rfl (AY rfl) zo zo (λX1 X6 w6 cells6 hX6 hR6=>?_);refine call (Ad _ (h.mono (zAB hI2 hI3)) hs5 (λl k4 hy hs4 hz4=>?_) (λhno=>?_))
    ·have h4:=hs4.one;obtain ⟨f,rfl⟩:∃q,f=q+1:=⟨f - 1,by omega⟩;simp only [zQ,SSd,Nat.reduceAdd];exact zAE (X6++(L1++(b,RDo w k4 false)::L2)) (zAA ⟨_,by omega,X6,w6,cells6,xs++[⟨x,false⟩],f,.good l.tail,k4,false,rfl,rfl,zAB hI2 hI3,rfl,hX6,hR6,hs4,by omega,by rw [zn,zV];omega,hm.next ho5 hy⟩)
    ·simp only [zG,SSd,Nat.reduceAdd];refine RL.ofO (R:=TOrderV) (λh hI=>zAO h hI) hX6 hR6 (λI4 hI4 hw=>zAE (L1++(b,RDo w _ _)::L2) (zAA (hk (xs++[(⟨x,false⟩:TOrder)]) _ _ _ I4 w6 hs5 (hm.stop ho5 hno) zo (zAB hI2 (zAB hI3 hI4)) hw)))
end
abbrev LOk {α:Type}(R:Imm→α→List Value→Prop)(m:Nat)(g:Res (List α))(n:Nat)(K:Value→M)(C:Obj→LH)(I:Imm):Prop:=
 ∀x r,g= .ok x r→Toks r→r.length≤n→∀I' v' a k,Ext I I'→TL I' v' r→RL R m I' [] (.slice a x.length k) x→x.length≤n+1→K (.slice a x.length k) I' (C (PBo v'))
def FnL {α:Type}(ω:Om)(n b f:Nat)(g:Pr (List α))(R:Imm→α→List Value→Prop)(m:Nat):Prop:=
 ∀(K Pn:Value→M) (I:Imm) (L:LH) (C:Obj→LH) (v:Value) (l:List Tok),Foc b L (PBo v) C→TL I v l→Toks l→l.length≤n→LOk R m (g l) l.length K C I→PEr (g l) Pn C I→CalP Tryz.prog ω f #[AL b] K Pn I L
theorem FnL.go {α:Type}{ω:Om}{n b f m:Nat}{g:Pr (List α)}{R:Imm→α→List Value→Prop}(h:FnL ω n b f g R m){I:Imm}{L:LH}{K Pn:Value→M}{C:Obj→LH}{v:Value}{l:List Tok}[hF:Foc b L (PBo v) C](hv:TL I v l)(hT:Toks l)(hl:l.length≤n)(hok:LOk R m (g l) l.length K C I)(herr:PEr (g l) Pn C I):
  CalP Tryz.prog ω f #[AL b] K Pn I L:=h K Pn I L C v l hF hv hT hl hok herr
section
variable {ω:Om}{b:Nat}
theorem AOe {I:Imm}{L:LH}{K:Value→M}{w:Value}{xs:List TSource}(hw:RL TSourceV 14 I [] w xs)(hk:∀a k,RL TSourceV 14 I [] (.slice a xs.length k) xs→K (.slice a xs.length k) I L):CT ω 199 #[w] K I L:=by
 refine APc ?_;unfold ALq;obtain ⟨w',h1,h2⟩:=GX hw;simp only [zAK hw,h1,SSd,Nat.reduceAdd];obtain ⟨a,k,rfl⟩:=zAF h2;exact zAA (hk a k h2)
def Jo (n:Nat)(l:List Tok):Option (Res TSource):=
 if isT l [44] then some (CU l.tail) else
 if isT l [99,114,111,115,115] then some ((AP [106,111,105,110] l.tail).bind λ_ r=>CU r) else
 if isT l [108,101,102,116] then some (Hg n true l.tail) else
 if isT l [105,110,110,101,114] then some (Hg n false l.tail) else
 if isT l [106,111,105,110] then some (Hg n false l) else none
theorem ER {α β γ:Type}(x:Res α)(f:α→Pr β)(g:β→Pr γ):(x.bind f).bind g=x.bind λa r=>(f a r).bind g:=by cases x <;> rfl
theorem XZ (n f:Nat)(acc:List TSource)(l:List Tok):CS n (f+1) acc l=match Jo n l with
  |some g=>g.bind λs r=>CS n f (acc++[s]) r
  |none=>.ok acc l:=by
 simp only [CS,Jo];split
 ·rfl
 split
 ·simp only [ER]
 split
 ·rfl
 split
 ·rfl
 split
 ·rfl
 ·rfl
theorem TB (n:Nat){I:Imm}{L:LH}{K Pn:Value→M}{C:Obj→LH}{v:Value}{l:List Tok}[hF:Foc b L (PBo v) C](h:TL I v l)(hT:Toks l)(hl:l.length≤n)
  (hok:∀x r,CU l= .ok x r→Toks r→r.length≤l.length→∀I' v' a k,Ext I I'→TL I' v' r→ExL I' (.slice a x.fOn.args.length k) x.fOn.args→K (.agg #[.string ⟨x.fTable.toArray⟩,.string ⟨x.fAs.toArray⟩,.bool x.fLeft,.int .i64 x.fOn.kind,.int .i64 x.fOn.value.fType,.bool x.fOn.value.fNull,.int .i64 x.fOn.value.fInt,.string ⟨x.fOn.value.fText.toArray⟩,.string ⟨x.fOn.table.toArray⟩,.string ⟨x.fOn.name.toArray⟩,.int .i64 x.fOn.slot,.int .i64 x.fOn.type,.bool x.fOn.distinct,.slice a x.fOn.args.length k]) I' (C (PBo v')))
  (herr:PEr (CU l) Pn C I):CalP Tryz.prog ω 198 #[AL b] K Pn I L:=by
 refine (TC n).go h hT hl (λx r hg hT' hr I' v' c hI' hv' hc=>?_) herr;obtain ⟨v0,rfl,h0⟩:=hc;obtain ⟨a,k,rfl⟩:=zAF h0;exact hok x r hg hT' hr I' v' a k hI' hv' h0
theorem AED (n : Nat) (hE : FnE ω n b 148 (eP n)) (bb : Bool) {I : Imm} {L1 L2 X : LH} {Kn1 : (Value × Value × Unit) → M} {K Pn : Value → M} {v w : Value} {l : List Tok} {cells : List Value} {xs : List TSource} (h : TL I v l) (hT : Toks l) (hl : l.length ≤ n)
    (hX : SlO 123 14 X w cells xs.length) (hR : Recs (TSourceV I) 14 xs cells) (hxs : xs.length ≤ 1000000001)
    (hnext : ∀ x r, Hg n bb l = .ok x r → Toks r → r.length + 1 ≤ l.length → ∀ I' v' X' w' cells', Ext I I' → TL I' v' r → SlO 123 14 X' w' cells' (xs ++ [x]).length → Recs (TSourceV I') 14 (xs ++ [x]) cells' → Gh (Kn1 (.slice none 0 0, w', ())) I' (X' ++ (L1 ++ (b, PBo v') :: L2)))
    (herr : PEr (Hg n bb l) Pn (λo => L1 ++ (b, o) :: L2) I) :
    MP ω (AL b) (.slice none 0 0) w (.bool bb) (λs => Gh (Kn1 s)) (λv => Gh (K v)) (λv => Gh (Pn v)) I (X ++ (L1 ++ (b, PBo v) :: L2)) := by
  unfold MP
  repeat' (first | (with_reducible first | refine CX (b := b) ?_ | refine keepA ?_ | refine AQ (λ_ => ?_)) | (with_reducible refine Aa ?_;refine TB n zT zA zo (λx r hg hT2 hr2 I' v' a' k' hI' hv' hw' => ?_) (λe hg I' v' hI' => ?_)) | (with_reducible refine Aa ?_;refine hE.go zT zA zo (λy r' hg' hT2 hr3 I' v' a' k' hI' hv' hw' => ?_) (λe hg' I' v' hI' => ?_)) | (with_reducible refine Az ?_;refine CY _ zT zA (λhb hT' hl' v' hv' => ?_) (λhb => ?_)) | (with_reducible refine CG _ zT zA (λhb hT' hl' I' v' hI' hv' => ?_) (λhb I' v' hI' => ?_)) | (with_reducible refine Aa ?_;refine Cj zT zA (λhb hT' hl' v' hv' => ?_) (λhb => ?_)) | (with_reducible refine Aa ?_;refine Ak zT zA ?_) | (with_reducible first | refine BQ zC (λI' a hI' hw' => zAA ?_) | refine BJ zC zC (λI' a hI' hw' => zAA ?_) | refine Ba zC zC zC (λI' a hI' hw' => zAA ?_)) | (with_reducible refine Az ?_;refine BV zC ?_) | (with_reducible refine rdb ?_) | ((with_reducible first | refine st1 ?_ ?_ | refine rdB ?_ ?_); rfl) | (with_reducible refine CB ?_) | ((with_reducible refine GK ?_ ?_); rfl) | ((with_reducible refine stB ?_ ?_ ?_ ?_); rfl; rfl; exact AY rfl) | ((with_reducible first | refine rdP _ rfl ?_ ?_ | refine IX _ rfl ?_ ?_); rfl) | ((with_reducible refine stP _ rfl ?_ ?_ ?_ ?_); rfl; rfl; rfl) | refine zqi ?_ ?_ | (simp only [SSg, Int.reduceBEq, Int.reduceBNe, Int.reduceLT, Int.reduceLE, beq_self_eq_true, bne_self_eq_false]) | (with_reducible first | refine BD (λhb => ?_) (λhb => ?_) | refine AB (λhb => ?_) (λhb => ?_)) | (simp only [SSd, Nat.reduceAdd]))
  all_goals first
    | exact zAE (L1 ++ (b, PBo v') :: L2) (zAA (herr _ (by simp [Hg, Res.bind, bad, AP, *] <;> rfl) _ _ zE))
    | (refine CZ (X6 := X) (R := TSourceV) (x := ⟨x.fTable, x.fAs, bb, y⟩) rfl zo hX (zAU (λ_ _ h => zAQ h zE) hR) ⟨_, rfl, zC⟩ rfl (AY rfl) zo zo (λX1 X6 w6 cells6 hX6 hR6 => zAE (X6 ++ (L1 ++ (b, PBo v') :: L2)) ?_)
       exact hnext ⟨x.fTable, x.fAs, bb, y⟩ _ (by simp [Hg, Res.bind, AP, *] <;> rfl) zA zo _ _ _ _ _ zE zT hX6 hR6)
theorem AEE (n : Nat) (hE : FnE ω n b 148 (eP n)) {I : Imm} {L1 L2 X : LH} {Kn1 : (Value × Value × Unit) → M} {K Pn : Value → M} {v w : Value} {l : List Tok} {cells : List Value} {xs : List TSource} (h : TL I v l) (hT : Toks l) (hl : l.length ≤ n)
    (hX : SlO 123 14 X w cells xs.length) (hR : Recs (TSourceV I) 14 xs cells) (hxs : xs.length ≤ 1000000001)
    (hnext : ∀ g x r, Jo n l = some g → g = .ok x r → Toks r → r.length + 1 ≤ l.length → ∀ I' v' X' w' cells', Ext I I' → TL I' v' r → SlO 123 14 X' w' cells' (xs ++ [x]).length → Recs (TSourceV I') 14 (xs ++ [x]) cells' → Gh (Kn1 (.slice none 0 0, w', ())) I' (X' ++ (L1 ++ (b, PBo v') :: L2)))
    (herr : ∀ g, Jo n l = some g → PEr g Pn (λo => L1 ++ (b, o) :: L2) I)
    (hend : Jo n l = none → ∀ I' a k, Ext I I' → RL TSourceV 14 I' [] (.slice a xs.length k) xs → TL I' v l → Gh (K (.slice a xs.length k)) I' (L1 ++ (b, PBo v) :: L2)) :
    VE ω (AL b) (.slice none 0 0) w (λs => Gh (Kn1 s)) (λv => Gh (K v)) (λv => Gh (Pn v)) I (X ++ (L1 ++ (b, PBo v) :: L2)) := by
  unfold VE
  have hl1 := hT.len
  have J : ∀ (bb : Bool) {l1 : List Tok} {v1 : Value}, TL I v1 l1 → Toks l1 → l1.length ≤ l.length → Jo n l = some (Hg n bb l1) → MP ω (AL b) (.slice none 0 0) w (.bool bb) (λs => Gh (Kn1 s)) (λv => Gh (K v)) (λv => Gh (Pn v)) I (X ++ (L1 ++ (b, PBo v1) :: L2)) := by
    intro bb l1 v1 h1 hT1 hl1 hn
    exact AED n hE bb h1 hT1 zo hX hR hxs (λx r hg hT hr => hnext _ x r hn hg hT zo) (herr _ hn)
  repeat' (first | (with_reducible first | refine CX (b := b) ?_ | refine keepA ?_ | refine AQ (λ_ => ?_)) | (with_reducible refine Aa ?_;refine TB n zT zA zo (λx r hg hT2 hr2 I' v' a' k' hI' hv' hw' => ?_) (λe hg I' v' hI' => ?_)) | (with_reducible refine Az ?_;refine JG _ zT zA (λhb => ?_) (λhb => ?_)) | (with_reducible refine Az ?_;refine CY _ zT zA (λhb hT' hl' v' hv' => ?_) (λhb => ?_)) | (with_reducible refine CG _ zT zA (λhb hT' hl' I' v' hI' hv' => ?_) (λhb I' v' hI' => ?_)) | (with_reducible refine Aa ?_;refine Cj zT zA (λhb hT' hl' v' hv' => ?_) (λhb => ?_)) | (with_reducible refine Aa ?_;refine Ak zT zA ?_) | (with_reducible first | refine BQ zC (λI' a hI' hw' => zAA ?_) | refine BJ zC zC (λI' a hI' hw' => zAA ?_) | refine Ba zC zC zC (λI' a hI' hw' => zAA ?_)) | (with_reducible refine Az ?_;refine BV zC ?_) | (with_reducible refine rdb ?_) | ((with_reducible first | refine st1 ?_ ?_ | refine rdB ?_ ?_); rfl) | (with_reducible refine CB ?_) | ((with_reducible refine GK ?_ ?_); rfl) | ((with_reducible refine stB ?_ ?_ ?_ ?_); rfl; rfl; exact AY rfl) | ((with_reducible first | refine rdP _ rfl ?_ ?_ | refine IX _ rfl ?_ ?_); rfl) | ((with_reducible refine stP _ rfl ?_ ?_ ?_ ?_); rfl; rfl; rfl) | (with_reducible first | refine Ap (sh146_4.eq_1 ..) ?_ | refine And.intro ?_ ?_) | (simp only [SSg, Int.reduceBEq, Int.reduceBNe, Int.reduceLT, Int.reduceLE, beq_self_eq_true, bne_self_eq_false]) | (with_reducible first | refine BD (λhb => ?_) (λhb => ?_) | refine AB (λhb => ?_) (λhb => ?_)) | (simp only [SSd, Nat.reduceAdd]))
  all_goals (try (exfalso; simp_all; done))
  all_goals first
    | exact J true zA zA zo (by simp [Jo, *])
    | exact J false zA zA zo (by simp [Jo, *])
    | exact zAE (L1 ++ (b, PBo v') :: L2) (zAA (herr _ (by simp [Jo, *] <;> rfl) _ (by simp [Res.bind, bad, AP, *] <;> rfl) _ _ zE))
    | (refine CZ (X6 := X) (R := TSourceV) (x := x) rfl zo hX (zAU (λ_ _ h => zAQ h zE) hR) ⟨_, rfl, zC⟩ rfl (AY rfl) zo zo (λX1 X6 w6 cells6 hX6 hR6 => zAE (X6 ++ (L1 ++ (b, PBo v') :: L2)) ?_)
       exact hnext _ x _ (by simp [Jo, *] <;> rfl) (by simp [Res.bind, AP, *] <;> rfl) zA zo _ _ _ _ _ zE zT hX6 hR6)
    | (refine CalP.pre (RL.ofO (R := TSourceV) (λ{I I' x c} h hI => zAQ h hI) hX hR (λI3 hI3 hw => zAA ?_))
       refine Az (AOe hw (λa k hw' => hend (by simp [Jo, *]) I3 a k hI3 hw' (h.mono hI3))))
theorem AKe (n:Nat)(hn0:n≤1000000000)(hE:FnE ω n b 148 (eP n)):FnL ω n b 146 (JY n) TSourceV 14:=by
 intro K Pn I L C v l hF h hT hl hok herr;obtain ⟨L1,L2,rfl,rfl⟩:=hF.foc;refine AQS ?_;unfold AMY;refine Aa ((TC n).go h hT hl ?_ ?_);rotate_left
 ·rintro e hg I1 v1 hI1;exact zAE (L1++(b,PBo v1)::L2) (zAA (herr e (by simp only [JY,hg,Res.bind]) I1 v1 hI1))
 rintro x r hg hT1 hr I1 v1 c hI1 hTL1 hx;refine Dw rfl zo (by simpa [Value.cells] using hx.len) (λX u hX=>?_);refine loop (λm s I2 Lx=>∃X v2 l2 w cells xs f,l2.length=m∧s=(.slice none 0 0,w,())∧Ext I I2∧Lx=X++(L1++(b,PBo v2)::L2)∧TL I2 v2 l2∧Toks l2∧SlO 123 14 X w cells xs.length∧Recs (TSourceV I2) 14 xs cells∧l2.length≤f∧0 < xs.length∧xs.length+l2.length≤l.length+1∧JY n l=CS n f xs l2) r.length
   ⟨X,v1,r,u,_,[x],n,rfl,rfl,hI1,rfl,hTL1,hT1,hX,(by simpa [Value.cells] using Recs.one hx.len hx),by omega,by simp,by simp;omega,by simp only [JY,hg,Res.bind]⟩ ?_
 clear hX hTL1 hT1 hx hg hr;rintro m s I2 Lx ⟨X,v2,l2,w,cells,xs,f,rfl,rfl,hI2,rfl,hTL2,hT2,hX,hR,hf,hpos,hlen,hm⟩;have hl2:=hT2.len;obtain ⟨f,rfl⟩:∃k,f=k+1:=⟨f - 1,by omega⟩;rw [XZ] at hm;refine AEE n hE hTL2 hT2 zo hX hR zo (λg x r hn hg hT3 hr3 I3 v3 X3 w3 cells3 hI3 hTL3 hX3 hR3=>?_) (λg hn e hg I3 v3 hI3=>?_) (λhn I3 a k hI3 hw hTL3=>?_)
 ·exact zAA ⟨r.length,by omega,X3,v3,r,w3,cells3,xs++[x],f,rfl,rfl,zAB hI2 hI3,rfl,hTL3,hT3,hX3,hR3,by omega,by simp,by simp;omega,by rw [hm,hn];simp only [hg,Res.bind]⟩
 ·exact herr e (by rw [hm,hn];simp only [hg,Res.bind]) I3 v3 (zAB hI2 hI3)
 ·exact zAA (hok xs l2 (by rw [hm,hn]) hT2 zo I3 v2 a k (zAB hI2 hI3) hTL3 hw zo)
end
abbrev AIG {α:Type}(n:Nat)(b:Bool)(F:TSource→Pr α):Pr α:=BC (AP [106,111,105,110]) λ_=>BC CU λs=>BC (AP [111,110]) λ_=>BC (eP n) λx=>F ⟨s.fTable,s.fAs,b,x⟩
theorem FC (n f:Nat)(acc:List TSource):CS n (f+1) acc=itP [44] (BC CU λs=>CS n f (acc++[s])) (itP [99,114,111,115,115] (BC (AP [106,111,105,110]) λ_=>BC CU λs=>CS n f (acc++[s])) (itP [108,101,102,116] (AIG n true λs=>CS n f (acc++[s])) (itP [105,110,110,101,114] (AIG n false λs=>CS n f (acc++[s])) (Oj true [106,111,105,110] (AIG n false λs=>CS n f (acc++[s])) (okP acc))))):=by
 funext l
 simp only [CS,itP,Oj,Bool.and_true,okP,Hg,ER];rfl
theorem ADn {n f:Nat}{acc:List TSource}{s:Stt}(h1:No [44] s)(h2:No [99,114,111,115,115] s)(h3:No [108,101,102,116] s)(h4:No [105,110,110,101,114] s)(h5:No [106,111,105,110] s):Out (run (CS n f acc) s) acc s:=by
 cases f with
 |zero=>exact out_ok
 |succ f=>rw [FC];exact zO
abbrev SQ (x:TSource)(v:Value):List Value:=[.string ⟨x.fTable.toArray⟩,.string ⟨x.fAs.toArray⟩,.bool x.fLeft,.int .i64 x.fOn.kind,.int .i64 x.fOn.value.fType,.bool x.fOn.value.fNull,.int .i64 x.fOn.value.fInt,.string ⟨x.fOn.value.fText.toArray⟩,.string ⟨x.fOn.table.toArray⟩,.string ⟨x.fOn.name.toArray⟩,.int .i64 x.fOn.slot,.int .i64 x.fOn.type,.bool x.fOn.distinct,v]
section
variable {ω:Om}{b:Nat}{w:Value}{toks:List Tok}
theorem Rh (n:Nat){I:Imm}{L:LH}{K:Value→M}{C:Obj→LH}{st:Stt}{k:Nat}{bd:Bool}[hF:Foc b L (RDo w k bd) C](hw:TD I w toks)(hs:RdS toks st k bd)(hn:st.sz < n)
  (hk:∀x s' k' bd' I' a c,RdS toks s' k' bd'→Out (run CU st) x s'→s'.sz≤st.sz→Ext I I'→ExL I' (.slice a x.fOn.args.length c) x.fOn.args→K (.agg (SQ x (.slice a x.fOn.args.length c)).toArray) I' (C (RDo w k' bd'))):CT ω 184 #[AL b] K I L:=
 (AAA n).go hw hs hn λx s' k' bd' I' v h1 h2 h3 h4 ⟨c,h5,h6⟩=>by
  obtain ⟨v0,rfl,h0⟩:=h6;obtain ⟨a,k,rfl⟩:=zAF h0;subst h5;exact hk x s' k' bd' I' a k h1 h2 h3 h4 h0
theorem AIZ (n:Nat)(hn0:n≤1000000000):Fd ω n b w toks 125 #[AL b] (JY n) (AAa TSourceV 14):=by
 have hE:=dE (ω:=ω) (b:=b) (w:=w) (toks:=toks) n hn0;intro K I L C st k bd hF h hs hn hk;obtain ⟨L1,L2,rfl,rfl⟩:=hF.foc;refine AQn ?_;unfold sh125;refine call (Rh n h hs hn (λx0 s1 k1 bd1 I1 a1 c1 hs1 ho1 hz1 hI1 hv1=>?_));refine AQ (λb2=>?_);repeat' (first|refine zqa ?_|refine zqh (λ_=>?_)|refine zqr ?_|refine zqb ?_|refine zqi ?_ ?_|refine zqc ?_|refine zqg (λ_=>?_) (λ_=>?_)|refine zqe ?_|fail)
 refine Dw rfl zx rfl (λX0 u0 hX0=>?_);refine loop (λm s I2 Lx=>∃(X:LH) (v:Value) (cells:List Value) (xs:List TSource) (f:Nat) (st2:Stt) (k2:Nat) (bd2:Bool) (sx:TSource) (v0:Value),st2.sz=m∧s=(v,())∧Ext I I2∧Lx=X++((b2,Obj.cells (SQ sx v0).toArray 123 (0,0))::(L1++(b,RDo w k2 bd2)::L2))∧v0.oneCell'=true∧SlO 123 14 X v cells xs.length∧Recs (TSourceV I2) 14 xs cells∧RdS toks st2 k2 bd2∧st2.sz≤f∧xs.length+st2.sz≤st.sz+1∧st2.sz≤st.sz∧(∀y s',Out (run (CS n f xs) st2) y s'→Out (run (JY n) st) y s')) s1.sz
  ⟨X0,u0,_,[x0],n,s1,k1,bd1,x0,_,rfl,rfl,hI1,rfl,rfl,hX0,Recs.one rfl ⟨_,rfl,hv1⟩,hs1,by omega,by simp;omega,by omega,λy s' hh=>BF ho1 hh⟩ ?_
 rintro m s I2 Lx ⟨X,v,cells,xs,f,st2,k2,bd2,sx,v0,rfl,rfl,hI2,rfl,h01,hX,hR,hs2,hf,hlen,hle2,hm⟩;have h1v:∀u∈SQ sx v0,u.oneCell'=true:=by
  intro u hu;simp only [zZ,zaH,or_false] at hu;rcases hu with rfl|rfl|rfl|rfl|rfl|rfl|rfl|rfl|rfl|rfl|rfl|rfl|rfl|rfl <;> first|rfl|exact h01
 unfold sh125_1;try refine zqe ?_
 refine rdb ?_;cases bd2 with
 |true=>
  obtain ⟨e,rfl⟩:=hs2.zero;simp only [zQ,SSd,Nat.reduceAdd];exact RL.ofO (R:=TSourceV) (λh hI=>zAQ h hI) hX hR (λI3 hI3 hw=>zAE (L1++(b,RDo w k2 true)::L2) (zAA (hk xs _ k2 true I3 v hs2 (hm _ _ out_bad) zo (zAB hI2 hI3) hw)))
 |false=>
  have h1:=hs2.one;obtain ⟨f,rfl⟩:∃q,f=q+1:=⟨f - 1,by omega⟩;simp only [zG,SSd,Nat.reduceAdd];repeat' (first|(with_reducible first|refine BM ?_|refine keepA ?_|refine AQ (λ_=>?_))|(with_reducible refine call ?_;refine FdE.goE hE zD zA zo (λy s' k' bd' I' a' c' hs' ho' hz' hI' hv'=>?_))|(with_reducible refine call ?_;refine Rh n zD zA zo (λx s' k' bd' I' a' c' hs' ho' hz' hI' hv'=>?_))|(with_reducible refine call ?_;refine Ad _ zD zA (λl k' hy hs' hz'=>?_) (λhno=>?_))|(with_reducible refine call ?_;refine BP _ zD zA (λl hy=>?_) (λhno=>?_))|(with_reducible refine call ?_;refine Aj _ zD zA (λs' k' bd' hs' ho' hz' hzz'=>?_))|(with_reducible refine call ?_;refine BB zD zA (λx s' k' bd' hs' ho' hz' hzz'=>?_))|(with_reducible first|refine BQ zC (λI' a hI' hw'=>zAA ?_)|refine BJ zC zC (λI' a hI' hw'=>zAA ?_)|refine Ba zC zC zC (λI' a hI' hw'=>zAA ?_))|(with_reducible refine call ?_;refine BN zC ?_)|refine zqr ?_|refine zqb ?_|(with_reducible first|refine Ap (sh125_4.eq_1 ..) ?_|refine Ap (sh125_7.eq_1 ..) ?_|refine Ap (sh125_6.eq_1 ..) ?_|refine Ap (sh125_3.eq_1 ..) ?_|refine Ap (sh125_2.eq_1 ..) ?_|refine Ap (sh125_1.eq_1 ..) ?_|refine Ap (sh125.eq_1 ..) ?_|refine And.intro ?_ ?_)|refine zqc ?_|refine zqg (λhb=>?_) (λhb=>?_)|refine zqe ?_|fail)
  iterate 2
   ·refine CZ (X6:=X) (R:=TSourceV) (x:=(x:TSource)) rfl zx hX (hR.imp λ_ _ h=>zAQ h zE) ⟨_,rfl,zC⟩ rfl (AY rfl) zo zo (λX1 X6 w6 cells6 hX6 hR6=>?_);exact zAE (X6++((b2,Obj.cells (SQ (x:TSource) (.slice a' x.fOn.args.length c')).toArray 123 (0,0))::(L1++(b,RDo w k' bd')::L2))) (zAA ⟨s'.sz,by omega,X6,w6,cells6,xs++[(x:TSource)],f,s',k',bd',(x:TSource),_,rfl,rfl,zE,rfl,rfl,hX6,hR6,hs',by omega,by rw [zn,zV];omega,by omega,λy2 s2 hh=>hm _ _ (by rw [FC];exact zO)⟩)
  iterate 2
   ·refine CZ (X6:=X) (R:=TSourceV) (x:=(⟨x.fTable,x.fAs,true,y⟩:TSource)) rfl zx hX (hR.imp λ_ _ h=>zAQ h zE) ⟨_,rfl,zC⟩ rfl (AY rfl) zo zo (λX1 X6 w6 cells6 hX6 hR6=>?_);exact zAE (X6++((b2,Obj.cells (SQ (⟨x.fTable,x.fAs,true,y⟩:TSource) (.slice a' y.args.length c')).toArray 123 (0,0))::(L1++(b,RDo w k' bd')::L2))) (zAA ⟨s'.sz,by omega,X6,w6,cells6,xs++[(⟨x.fTable,x.fAs,true,y⟩:TSource)],f,s',k',bd',(⟨x.fTable,x.fAs,true,y⟩:TSource),_,rfl,rfl,zE,rfl,rfl,hX6,hR6,hs',by omega,by rw [zn,zV];omega,by omega,λy2 s2 hh=>hm _ _ (by rw [FC];exact zO)⟩)
  iterate 3
   ·refine CZ (X6:=X) (R:=TSourceV) (x:=(⟨x.fTable,x.fAs,false,y⟩:TSource)) rfl zx hX (hR.imp λ_ _ h=>zAQ h zE) ⟨_,rfl,zC⟩ rfl (AY rfl) zo zo (λX1 X6 w6 cells6 hX6 hR6=>?_);exact zAE (X6++((b2,Obj.cells (SQ (⟨x.fTable,x.fAs,false,y⟩:TSource) (.slice a' y.args.length c')).toArray 123 (0,0))::(L1++(b,RDo w k' bd')::L2))) (zAA ⟨s'.sz,by omega,X6,w6,cells6,xs++[(⟨x.fTable,x.fAs,false,y⟩:TSource)],f,s',k',bd',(⟨x.fTable,x.fAs,false,y⟩:TSource),_,rfl,rfl,zE,rfl,rfl,hX6,hR6,hs',by omega,by rw [zn,zV];omega,by omega,λy2 s2 hh=>hm _ _ (by rw [FC];exact zO)⟩)
  ·exact RL.ofO (R:=TSourceV) (λh hI=>zAQ h hI) hX hR (λI3 hI3 hw=>zAE (L1++(b,RDo w k2 false)::L2) (zAA (hk xs _ k2 false I3 v hs2 (hm _ _ (ADn zA zA zA zA zA)) zo (zAB hI2 hI3) hw)))
end
theorem NF {α:Type}{R:Imm→α→List Value→Prop}{m n:Nat}{g:Res (List α)}{K:Value→M}{C:Obj→LH}{I:Imm}(h:LOk R m g n K C I):POk g (λI x v=>RL R m I [] v x∧x.length≤n) n K C I:=by
 rintro x r hg hT hr I' v' w hI' hv' ⟨hw,hx⟩;obtain ⟨a,k,rfl⟩:=zAF hw;exact h x r hg hT hr I' v' a k hI' hv' hw zo
theorem ItL.mono {I I':Imm}{v:Value}{l:List TItem}(h:RL TItemV 14 I [] v l)(hI:Ext I I'):RL TItemV 14 I' [] v l:=zAL (λ_ _ h=>TItemV.mono h hI) h hI (λ_ h=>h)
theorem zAV:type_of% @ItL.mono:=@ItL.mono
theorem SoL.mono {I I':Imm}{v:Value}{l:List TSource}(h:RL TSourceV 14 I [] v l)(hI:Ext I I'):RL TSourceV 14 I' [] v l:=zAL (λ_ _ h=>zAQ h hI) h hI (λ_ h=>h)
theorem OrL.mono {I I':Imm}{v:Value}{l:List TOrder}(h:RL TOrderV 12 I [] v l)(hI:Ext I I'):RL TOrderV 12 I' [] v l:=zAL (λ_ _ h=>zAO h hI) h hI (λ_ h=>h)
def TM (s:TSelect):Pr TSelect:=λl=>.ok s l
def Kq (s:TSelect):Pr TSelect:=λl=>if isT l [111,102,102,115,101,116] then (EO l.tail).bind λx r=>TM {s with fOffset:=x} r else TM s l
def Kr (s:TSelect):Pr TSelect:=λl=>if isT l [108,105,109,105,116] then (EO l.tail).bind λx r=>Kq {s with fLimit:=x} r else Kq s l
def LP (n:Nat)(s:TSelect):Pr TSelect:=λl=>if isT l [111,114,100,101,114] then (AP [98,121] l.tail).bind λ_ r=>(BL n (Ef n) r).bind λx r=>Kr {s with fOrder:=x} r else Kr s l
def Kt (n:Nat)(s:TSelect):Pr TSelect:=λl=>(DW n [104,97,118,105,110,103] l).bind λx r=>LP n {s with fHaving:=x} r
def LQ (n:Nat)(s:TSelect):Pr TSelect:=λl=>if isT l [103,114,111,117,112] then (AP [98,121] l.tail).bind λ_ r=>(BL n (eP n) r).bind λx r=>Kt n {s with fGroup:=x} r else Kt n s l
def Ku (n:Nat)(s:TSelect):Pr TSelect:=λl=>(DW n [119,104,101,114,101] l).bind λx r=>LQ n {s with fWhere:=x} r
def Ji (n:Nat)(s:TSelect):Pr TSelect:=λl=>if isT l [102,114,111,109] then (JY n l.tail).bind λx r=>Ku n {s with fFrom:=x} r else Ku n s l
abbrev VR (d:Bool):TSelect:=⟨d,[],[],ex0,[],ex0,[], -1,0⟩
theorem XM {α β:Type}(s:Bs)(d:α)(p:Pr α)(l:List Tok)(f:α→Pr β):(SS s d p l).bind f=if isT l s then (p l.tail).bind f else f d l:=by
 unfold SS;split <;> rfl
theorem ADZ (n:Nat)(l:List Tok):FM n l=(BL n (Ec n) (if isT l [100,105,115,116,105,110,99,116] then l.tail else l)).bind λx r=>Ji n {VR (isT l [100,105,115,116,105,110,99,116]) with fItems:=x} r:=by
 simp only [FM,XM,byP,ER,Ji,Ku,LQ,Kt,LP,Kr,Kq,TM]
abbrev selZ:List Value:=[.bool false,.slice none 0 0,.slice none 0 0,.int .i64 0,.int .i64 0,.bool false,.int .i64 0,.string ⟨#[]⟩,.string ⟨#[]⟩,.string ⟨#[]⟩,.int .i64 0,.int .i64 0,.bool false,.slice none 0 0,.slice none 0 0,.int .i64 0,.int .i64 0,.bool false,.int .i64 0,.string ⟨#[]⟩,.string ⟨#[]⟩,.string ⟨#[]⟩,.int .i64 0,.int .i64 0,.bool false,.slice none 0 0,.slice none 0 0,.int .i64 0,.int .i64 0]
section
variable {ω:Om}{b:Nat}
theorem ACF (n:Nat)(hn0:n≤1000000000)(hE:FnE ω n b 148 (eP n)){I:Imm}{L1 L2:LH}{K Pn:Value→M}{v:Value}{l:List Tok}{b1 bq N0:Nat}{s:TSelect}{c:List Value}(h:TL I v l)(hT:Toks l)(hl:l.length≤n)(hN:l.length≤N0)(hs:BX I s c)
  (hok:VOk BX (TM s l) N0 K (λo=>L1++(b,o)::L2) I) (herr:PEr (TM s l) Pn (λo=>L1++(b,o)::L2) I):
  UR ω (AL b1) (AL bq) (λv=>Gh (K v)) (λv=>Gh (Pn v)) I ((bq,.cells c.toArray 40 (0,0))::(b1,.cells selZ.toArray 40 (0,0))::(L1++(b,PBo v)::L2)):=by
 obtain ⟨v0,v1,v2,v3,v4,v5,rfl,h0,h1,h2,h3,h4,h5⟩:=hs;obtain ⟨a0,k0,rfl⟩:=zAF h0;obtain ⟨a1,k1,rfl⟩:=zAF h1;obtain ⟨a2,k2,rfl⟩:=zAF h2;obtain ⟨a3,k3,rfl⟩:=zAF h3;obtain ⟨a4,k4,rfl⟩:=zAF h4;obtain ⟨a5,k5,rfl⟩:=zAF h5;have hs:BX I s _:=⟨_,_,_,_,_,_,rfl,h0,h1,h2,h3,h4,h5⟩;unfold UR;have hl0:=hT.len;repeat' (first|(with_reducible first|refine CX (b:=b) ?_|refine keepA ?_|refine AQ (λ_=>?_))|(with_reducible refine Az ?_;refine CY _ zT zA (λhb hT' hl' v' hv'=>?_) (λhb=>?_))|(with_reducible refine CG _ zT zA (λhb hT' hl' I' v' hI' hv'=>?_) (λhb I' v' hI'=>?_))|(with_reducible refine Aa ?_;refine Cj zT zA (λhb hT' hl' v' hv'=>?_) (λhb=>?_))|(with_reducible refine Aa ?_;refine Ak zT zA ?_)|(with_reducible first|refine BQ zC (λI' a hI' hw'=>zAA ?_)|refine BJ zC zC (λI' a hI' hw'=>zAA ?_)|refine Ba zC zC zC (λI' a hI' hw'=>zAA ?_))|(with_reducible refine Az ?_;refine BV zC ?_)|refine zqr ?_|refine zqb ?_|refine zqi ?_ ?_|refine zqc ?_|refine zqg (λhb=>?_) (λhb=>?_)|refine zqe ?_|fail)
 exact zAE (L1++(b,PBo v)::L2) (zAA (hok s l (by simp [TM]) hT hN I v _ (zAC _) h hs))
theorem ACG (n:Nat)(hn0:n≤1000000000)(hE:FnE ω n b 148 (eP n)){I:Imm}{L1 L2:LH}{K Pn:Value→M}{v:Value}{l:List Tok}{b1 bq N0:Nat}{s:TSelect}{c:List Value}(h:TL I v l)(hT:Toks l)(hl:l.length≤n)(hN:l.length≤N0)(hs:BX I s c)
  (hok:VOk BX (Kq s l) N0 K (λo=>L1++(b,o)::L2) I) (herr:PEr (Kq s l) Pn (λo=>L1++(b,o)::L2) I):
  UT ω (AL b) (AL b1) (AL bq) (λv=>Gh (K v)) (λv=>Gh (Pn v)) I ((bq,.cells c.toArray 40 (0,0))::(b1,.cells selZ.toArray 40 (0,0))::(L1++(b,PBo v)::L2)):=by
 obtain ⟨v0,v1,v2,v3,v4,v5,rfl,h0,h1,h2,h3,h4,h5⟩:=hs;obtain ⟨a0,k0,rfl⟩:=zAF h0;obtain ⟨a1,k1,rfl⟩:=zAF h1;obtain ⟨a2,k2,rfl⟩:=zAF h2;obtain ⟨a3,k3,rfl⟩:=zAF h3;obtain ⟨a4,k4,rfl⟩:=zAF h4;obtain ⟨a5,k5,rfl⟩:=zAF h5;have hs:BX I s _:=⟨_,_,_,_,_,_,rfl,h0,h1,h2,h3,h4,h5⟩;unfold UT;have hl0:=hT.len;repeat' (first|(with_reducible first|refine CX (b:=b) ?_|refine keepA ?_|refine AQ (λ_=>?_))|(with_reducible refine Aa ?_;refine Rt zT zA (λx r hg hT2 hr2 v' hv'=>?_) (λe hg=>?_))|(with_reducible refine Az ?_;refine CY _ zT zA (λhb hT' hl' v' hv'=>?_) (λhb=>?_))|(with_reducible refine CG _ zT zA (λhb hT' hl' I' v' hI' hv'=>?_) (λhb I' v' hI'=>?_))|(with_reducible refine Aa ?_;refine Cj zT zA (λhb hT' hl' v' hv'=>?_) (λhb=>?_))|(with_reducible refine Aa ?_;refine Ak zT zA ?_)|(with_reducible first|refine BQ zC (λI' a hI' hw'=>zAA ?_)|refine BJ zC zC (λI' a hI' hw'=>zAA ?_)|refine Ba zC zC zC (λI' a hI' hw'=>zAA ?_))|(with_reducible refine Az ?_;refine BV zC ?_)|refine zqr ?_|refine zqb ?_|refine zqi ?_ ?_|refine zqc ?_|refine zqg (λhb=>?_) (λhb=>?_)|refine zqe ?_|fail)
 all_goals first
  |exact zAE (L1++(b,PBo v')::L2) (zAA (herr _ (by simp [Kq,Res.bind,bad,AP,Res.bind,bad,AP, *] <;> rfl) _ _ zE))
  |exact ACF n hn0 hE zT zA zo zo (s:={s with fOffset:=x}) ⟨_,_,_,_,_,_,rfl,(zAV h0 zE),(SoL.mono h1 zE),(zAI h2 zE),(zAL (λ_ _ h=>ExV.mono zE h) h3 zE (λ_ h=>h)),(zAI h4 zE),(OrL.mono h5 zE)⟩ (λy q hy hT' hq I' v' c hI hv hc=>hok y q (by simp [Kq,AP,Res.bind,hy, *]) hT' hq I' v' c zE hv hc) (λe hy I' v' hI=>herr e (by simp [Kq,AP,Res.bind,hy, *]) I' v' zE)
  |exact ACF n hn0 hE zT zA zo zo (s:=s) ⟨_,_,_,_,_,_,rfl,(zAV h0 zE),(SoL.mono h1 zE),(zAI h2 zE),(zAL (λ_ _ h=>ExV.mono zE h) h3 zE (λ_ h=>h)),(zAI h4 zE),(OrL.mono h5 zE)⟩ (λy q hy hT' hq I' v' c hI hv hc=>hok y q (by simp [Kq,AP,Res.bind,hy, *]) hT' hq I' v' c zE hv hc) (λe hy I' v' hI=>herr e (by simp [Kq,AP,Res.bind,hy, *]) I' v' zE)
theorem ACH (n:Nat)(hn0:n≤1000000000)(hE:FnE ω n b 148 (eP n)){I:Imm}{L1 L2:LH}{K Pn:Value→M}{v:Value}{l:List Tok}{b1 bq N0:Nat}{s:TSelect}{c:List Value}(h:TL I v l)(hT:Toks l)(hl:l.length≤n)(hN:l.length≤N0)(hs:BX I s c)
  (hok:VOk BX (Kr s l) N0 K (λo=>L1++(b,o)::L2) I) (herr:PEr (Kr s l) Pn (λo=>L1++(b,o)::L2) I):
  UU ω (AL b) (AL b1) (AL bq) (λv=>Gh (K v)) (λv=>Gh (Pn v)) I ((bq,.cells c.toArray 40 (0,0))::(b1,.cells selZ.toArray 40 (0,0))::(L1++(b,PBo v)::L2)):=by
 obtain ⟨v0,v1,v2,v3,v4,v5,rfl,h0,h1,h2,h3,h4,h5⟩:=hs;obtain ⟨a0,k0,rfl⟩:=zAF h0;obtain ⟨a1,k1,rfl⟩:=zAF h1;obtain ⟨a2,k2,rfl⟩:=zAF h2;obtain ⟨a3,k3,rfl⟩:=zAF h3;obtain ⟨a4,k4,rfl⟩:=zAF h4;obtain ⟨a5,k5,rfl⟩:=zAF h5;have hs:BX I s _:=⟨_,_,_,_,_,_,rfl,h0,h1,h2,h3,h4,h5⟩;unfold UU;have hl0:=hT.len;repeat' (first|(with_reducible first|refine CX (b:=b) ?_|refine keepA ?_|refine AQ (λ_=>?_))|(with_reducible refine Aa ?_;refine Rt zT zA (λx r hg hT2 hr2 v' hv'=>?_) (λe hg=>?_))|(with_reducible refine Az ?_;refine CY _ zT zA (λhb hT' hl' v' hv'=>?_) (λhb=>?_))|(with_reducible refine CG _ zT zA (λhb hT' hl' I' v' hI' hv'=>?_) (λhb I' v' hI'=>?_))|(with_reducible refine Aa ?_;refine Cj zT zA (λhb hT' hl' v' hv'=>?_) (λhb=>?_))|(with_reducible refine Aa ?_;refine Ak zT zA ?_)|(with_reducible first|refine BQ zC (λI' a hI' hw'=>zAA ?_)|refine BJ zC zC (λI' a hI' hw'=>zAA ?_)|refine Ba zC zC zC (λI' a hI' hw'=>zAA ?_))|(with_reducible refine Az ?_;refine BV zC ?_)|refine zqr ?_|refine zqb ?_|refine zqi ?_ ?_|refine zqc ?_|refine zqg (λhb=>?_) (λhb=>?_)|refine zqe ?_|fail)
 all_goals first
  |exact zAE (L1++(b,PBo v')::L2) (zAA (herr _ (by simp [Kr,Res.bind,bad,AP,Res.bind,bad,AP, *] <;> rfl) _ _ zE))
  |exact ACG n hn0 hE zT zA zo zo (s:={s with fLimit:=x}) ⟨_,_,_,_,_,_,rfl,(zAV h0 zE),(SoL.mono h1 zE),(zAI h2 zE),(zAL (λ_ _ h=>ExV.mono zE h) h3 zE (λ_ h=>h)),(zAI h4 zE),(OrL.mono h5 zE)⟩ (λy q hy hT' hq I' v' c hI hv hc=>hok y q (by simp [Kr,AP,Res.bind,hy, *]) hT' hq I' v' c zE hv hc) (λe hy I' v' hI=>herr e (by simp [Kr,AP,Res.bind,hy, *]) I' v' zE)
  |exact ACG n hn0 hE zT zA zo zo (s:=s) ⟨_,_,_,_,_,_,rfl,(zAV h0 zE),(SoL.mono h1 zE),(zAI h2 zE),(zAL (λ_ _ h=>ExV.mono zE h) h3 zE (λ_ h=>h)),(zAI h4 zE),(OrL.mono h5 zE)⟩ (λy q hy hT' hq I' v' c hI hv hc=>hok y q (by simp [Kr,AP,Res.bind,hy, *]) hT' hq I' v' c zE hv hc) (λe hy I' v' hI=>herr e (by simp [Kr,AP,Res.bind,hy, *]) I' v' zE)
theorem ACI (n:Nat)(hn0:n≤1000000000)(hE:FnE ω n b 148 (eP n)){I:Imm}{L1 L2:LH}{K Pn:Value→M}{v:Value}{l:List Tok}{b1 bq N0:Nat}{s:TSelect}{c:List Value}(h:TL I v l)(hT:Toks l)(hl:l.length≤n)(hN:l.length≤N0)(hs:BX I s c)
  (hok:VOk BX (Kt n s l) N0 K (λo=>L1++(b,o)::L2) I) (herr:PEr (Kt n s l) Pn (λo=>L1++(b,o)::L2) I):
  UV ω (AL b) (AL b1) (AL bq) (λv=>Gh (K v)) (λv=>Gh (Pn v)) I ((bq,.cells c.toArray 40 (0,0))::(b1,.cells selZ.toArray 40 (0,0))::(L1++(b,PBo v)::L2)):=by
 obtain ⟨v0,v1,v2,v3,v4,v5,rfl,h0,h1,h2,h3,h4,h5⟩:=hs;obtain ⟨a0,k0,rfl⟩:=zAF h0;obtain ⟨a1,k1,rfl⟩:=zAF h1;obtain ⟨a2,k2,rfl⟩:=zAF h2;obtain ⟨a3,k3,rfl⟩:=zAF h3;obtain ⟨a4,k4,rfl⟩:=zAF h4;obtain ⟨a5,k5,rfl⟩:=zAF h5;have hs:BX I s _:=⟨_,_,_,_,_,_,rfl,h0,h1,h2,h3,h4,h5⟩;unfold UV;have hl0:=hT.len;repeat' (first|(with_reducible first|refine CX (b:=b) ?_|refine keepA ?_|refine AQ (λ_=>?_))|(with_reducible refine Aa ?_;refine MB n hE _ zT zA zo (λy r1 hg1 hT1 hr1 I' v' a' k' hI' hv' hw1=>?_) (λe hg I' v' hI'=>?_))|(with_reducible refine Aa ?_;refine ANn n hn0 ((AHj n hE).one rfl) zT zA zo (NF (λx r hg hT2 hr2 I' v' a' k' hI' hv' hw' hx'=>?_)) (λe hg I' v' hI'=>?_))|(with_reducible refine Az ?_;refine CY _ zT zA (λhb hT' hl' v' hv'=>?_) (λhb=>?_))|(with_reducible refine CG _ zT zA (λhb hT' hl' I' v' hI' hv'=>?_) (λhb I' v' hI'=>?_))|(with_reducible refine Aa ?_;refine Cj zT zA (λhb hT' hl' v' hv'=>?_) (λhb=>?_))|(with_reducible refine Aa ?_;refine Ak zT zA ?_)|(with_reducible first|refine BQ zC (λI' a hI' hw'=>zAA ?_)|refine BJ zC zC (λI' a hI' hw'=>zAA ?_)|refine Ba zC zC zC (λI' a hI' hw'=>zAA ?_))|(with_reducible refine Az ?_;refine BV zC ?_)|refine zqr ?_|refine zqb ?_|refine zqi ?_ ?_|refine zqc ?_|refine zqg (λhb=>?_) (λhb=>?_)|refine zqe ?_|fail)
 all_goals first
  |exact zAE (L1++(b,PBo v')::L2) (zAA (herr _ (by simp [Kt,LP,Res.bind,bad,AP,Res.bind,bad,AP, *] <;> rfl) _ _ zE))
  |exact ACH n hn0 hE zT zA zo zo (s:={s with fHaving:=y,fOrder:=x}) ⟨_,_,_,_,_,_,rfl,(zAV h0 zE),(SoL.mono h1 zE),(zAI h2 zE),(zAL (λ_ _ h=>ExV.mono zE h) h3 zE (λ_ h=>h)),(zAI hw1 zE),hw'⟩ (λy q hy hT' hq I' v' c hI hv hc=>hok y q (by simp [Kt,LP,AP,Res.bind,hy, *]) hT' hq I' v' c zE hv hc) (λe hy I' v' hI=>herr e (by simp [Kt,LP,AP,Res.bind,hy, *]) I' v' zE)
  |exact ACH n hn0 hE zT zA zo zo (s:={s with fHaving:=y}) ⟨_,_,_,_,_,_,rfl,(zAV h0 zE),(SoL.mono h1 zE),(zAI h2 zE),(zAL (λ_ _ h=>ExV.mono zE h) h3 zE (λ_ h=>h)),(zAI hw1 zE),(OrL.mono h5 zE)⟩ (λy q hy hT' hq I' v' c hI hv hc=>hok y q (by simp [Kt,LP,AP,Res.bind,hy, *]) hT' hq I' v' c zE hv hc) (λe hy I' v' hI=>herr e (by simp [Kt,LP,AP,Res.bind,hy, *]) I' v' zE)
theorem QE (n:Nat)(hn0:n≤1000000000)(hE:FnE ω n b 148 (eP n)){I:Imm}{L1 L2:LH}{K Pn:Value→M}{v:Value}{l:List Tok}{b1 bq N0:Nat}{s:TSelect}{c:List Value}(h:TL I v l)(hT:Toks l)(hl:l.length≤n)(hN:l.length≤N0)(hs:BX I s c)
  (hok:VOk BX (Ku n s l) N0 K (λo=>L1++(b,o)::L2) I) (herr:PEr (Ku n s l) Pn (λo=>L1++(b,o)::L2) I):
  UW ω (AL b) (AL b1) (AL bq) (λv=>Gh (K v)) (λv=>Gh (Pn v)) I ((bq,.cells c.toArray 40 (0,0))::(b1,.cells selZ.toArray 40 (0,0))::(L1++(b,PBo v)::L2)):=by
 obtain ⟨v0,v1,v2,v3,v4,v5,rfl,h0,h1,h2,h3,h4,h5⟩:=hs;obtain ⟨a0,k0,rfl⟩:=zAF h0;obtain ⟨a1,k1,rfl⟩:=zAF h1;obtain ⟨a2,k2,rfl⟩:=zAF h2;obtain ⟨a3,k3,rfl⟩:=zAF h3;obtain ⟨a4,k4,rfl⟩:=zAF h4;obtain ⟨a5,k5,rfl⟩:=zAF h5;have hs:BX I s _:=⟨_,_,_,_,_,_,rfl,h0,h1,h2,h3,h4,h5⟩;unfold UW;have hl0:=hT.len;repeat' (first|(with_reducible first|refine CX (b:=b) ?_|refine keepA ?_|refine AQ (λ_=>?_))|(with_reducible refine Aa ?_;refine MB n hE _ zT zA zo (λy r1 hg1 hT1 hr1 I' v' a' k' hI' hv' hw1=>?_) (λe hg I' v' hI'=>?_))|(with_reducible refine Aa ?_;refine AFK n hn0 (hE.one rfl) zT zA zo (NF (λx r hg hT2 hr2 I' v' a' k' hI' hv' hw' hx'=>?_)) (λe hg I' v' hI'=>?_))|(with_reducible refine Az ?_;refine CY _ zT zA (λhb hT' hl' v' hv'=>?_) (λhb=>?_))|(with_reducible refine CG _ zT zA (λhb hT' hl' I' v' hI' hv'=>?_) (λhb I' v' hI'=>?_))|(with_reducible refine Aa ?_;refine Cj zT zA (λhb hT' hl' v' hv'=>?_) (λhb=>?_))|(with_reducible refine Aa ?_;refine Ak zT zA ?_)|(with_reducible first|refine BQ zC (λI' a hI' hw'=>zAA ?_)|refine BJ zC zC (λI' a hI' hw'=>zAA ?_)|refine Ba zC zC zC (λI' a hI' hw'=>zAA ?_))|(with_reducible refine Az ?_;refine BV zC ?_)|refine zqr ?_|refine zqb ?_|refine zqi ?_ ?_|refine zqc ?_|refine zqg (λhb=>?_) (λhb=>?_)|refine zqe ?_|fail)
 all_goals first
  |exact zAE (L1++(b,PBo v')::L2) (zAA (herr _ (by simp [Ku,LQ,Res.bind,bad,AP,Res.bind,bad,AP, *] <;> rfl) _ _ zE))
  |exact ACI n hn0 hE zT zA zo zo (s:={s with fWhere:=y,fGroup:=x}) ⟨_,_,_,_,_,_,rfl,(zAV h0 zE),(SoL.mono h1 zE),(zAI hw1 zE),hw',(zAI h4 zE),(OrL.mono h5 zE)⟩ (λy q hy hT' hq I' v' c hI hv hc=>hok y q (by simp [Ku,LQ,AP,Res.bind,hy, *]) hT' hq I' v' c zE hv hc) (λe hy I' v' hI=>herr e (by simp [Ku,LQ,AP,Res.bind,hy, *]) I' v' zE)
  |exact ACI n hn0 hE zT zA zo zo (s:={s with fWhere:=y}) ⟨_,_,_,_,_,_,rfl,(zAV h0 zE),(SoL.mono h1 zE),(zAI hw1 zE),(zAL (λ_ _ h=>ExV.mono zE h) h3 zE (λ_ h=>h)),(zAI h4 zE),(OrL.mono h5 zE)⟩ (λy q hy hT' hq I' v' c hI hv hc=>hok y q (by simp [Ku,LQ,AP,Res.bind,hy, *]) hT' hq I' v' c zE hv hc) (λe hy I' v' hI=>herr e (by simp [Ku,LQ,AP,Res.bind,hy, *]) I' v' zE)
theorem AHM (n:Nat)(hn0:n≤1000000000)(hE:FnE ω n b 148 (eP n)):FnV ω n b 94 (FM n) BX:=by
 intro K Pn I L C v l hF h hT hl hok herr;obtain ⟨L1,L2,rfl,rfl⟩:=hF.foc;rw [ADZ] at hok herr;refine ATZ ?_;unfold ARe;repeat' (first|(with_reducible first|refine CX (b:=b) ?_|refine keepA ?_|refine AQ (λ_=>?_))|(with_reducible refine Aa ?_;refine ANp n hn0 ((AKZ n hE).one rfl) zT zA zo (NF (λy r1 hg1 hT1 hr1 I' v' a' k' hI' hv' hw1 hx1=>?_)) (λe hg I' v' hI'=>?_))|(with_reducible refine Aa ?_;refine (AKe n hn0 hE).go zT zA zo (λx r hg hT2 hr2 I' v' a' k' hI' hv' hw' hx'=>?_) (λe hg I' v' hI'=>?_))|(with_reducible refine Az ?_;refine CY _ zT zA (λhb hT' hl' v' hv'=>?_) (λhb=>?_))|(with_reducible refine CG _ zT zA (λhb hT' hl' I' v' hI' hv'=>?_) (λhb I' v' hI'=>?_))|(with_reducible refine Aa ?_;refine Cj zT zA (λhb hT' hl' v' hv'=>?_) (λhb=>?_))|(with_reducible refine Aa ?_;refine Ak zT zA ?_)|(with_reducible first|refine BQ zC (λI' a hI' hw'=>zAA ?_)|refine BJ zC zC (λI' a hI' hw'=>zAA ?_)|refine Ba zC zC zC (λI' a hI' hw'=>zAA ?_))|(with_reducible refine Az ?_;refine BV zC ?_)|refine zqr ?_|refine zqb ?_|refine zqi ?_ ?_|refine zqc ?_|refine zqg (λhb=>?_) (λhb=>?_)|refine zqe ?_|fail)
 all_goals first
  |exact zAE (L1++(b,PBo v')::L2) (zAA (herr _ (by simp [Ji,Res.bind,bad,AP, *] <;> rfl) _ _ zE))
  |exact QE n hn0 hE zT zA zo zo (s:={VR true with fItems:=y,fFrom:=x}) ⟨_,_,_,_,_,_,rfl,(zAV hw1 zE),hw',zAD none 0,zAD none 0,zAD none 0,zAD none 0⟩ (λz q hz hT' hq I' v' c hI hv hc=>hok z q (by simp [Ji,Res.bind,hz, *]) hT' hq I' v' c zE hv hc) (λe hz I' v' hI=>herr e (by simp [Ji,Res.bind,hz, *]) I' v' zE)
  |exact QE n hn0 hE zT zA zo zo (s:={VR true with fItems:=y}) ⟨_,_,_,_,_,_,rfl,(zAV hw1 zE),(zAD none 0),zAD none 0,zAD none 0,zAD none 0,zAD none 0⟩ (λz q hz hT' hq I' v' c hI hv hc=>hok z q (by simp [Ji,Res.bind,hz, *]) hT' hq I' v' c zE hv hc) (λe hz I' v' hI=>herr e (by simp [Ji,Res.bind,hz, *]) I' v' zE)
  |exact QE n hn0 hE zT zA zo zo (s:={VR false with fItems:=y,fFrom:=x}) ⟨_,_,_,_,_,_,rfl,(zAV hw1 zE),hw',zAD none 0,zAD none 0,zAD none 0,zAD none 0⟩ (λz q hz hT' hq I' v' c hI hv hc=>hok z q (by simp [Ji,Res.bind,hz, *]) hT' hq I' v' c zE hv hc) (λe hz I' v' hI=>herr e (by simp [Ji,Res.bind,hz, *]) I' v' zE)
  |exact QE n hn0 hE zT zA zo zo (s:={VR false with fItems:=y}) ⟨_,_,_,_,_,_,rfl,(zAV hw1 zE),(zAD none 0),zAD none 0,zAD none 0,zAD none 0,zAD none 0⟩ (λz q hz hT' hq I' v' c hI hv hc=>hok z q (by simp [Ji,Res.bind,hz, *]) hT' hq I' v' c zE hv hc) (λe hz I' v' hI=>herr e (by simp [Ji,Res.bind,hz, *]) I' v' zE)
end
def qd9 (s:TSelect):Pr TSelect:=okP s
def qd8 (s:TSelect):Pr TSelect:=itP [111,102,102,115,101,116] (BC EO λx=>qd9 {s with fOffset:=x}) (qd9 s)
def qd7 (s:TSelect):Pr TSelect:=itP [108,105,109,105,116] (BC EO λx=>qd8 {s with fLimit:=x}) (qd8 s)
def qd6 (n:Nat)(s:TSelect):Pr TSelect:=itP [111,114,100,101,114] (BC (AP [98,121]) λ_=>BC (BL n (Ef n)) λx=>qd7 {s with fOrder:=x}) (qd7 s)
def qd5 (n:Nat)(s:TSelect):Pr TSelect:=itP [104,97,118,105,110,103] (BC (eP n) λx=>qd6 n {s with fHaving:=x}) (qd6 n s)
def qd4 (n:Nat)(s:TSelect):Pr TSelect:=BC (DW n [119,104,101,114,101]) λx=>itP [103,114,111,117,112] (BC (AP [98,121]) λ_=>BC (BL n (eP n)) λg=>qd5 n {s with fWhere:=x,fGroup:=g}) (qd5 n {s with fWhere:=x})
def qd3 (n:Nat)(s:TSelect):Pr TSelect:=itP [102,114,111,109] (BC (JY n) λx=>qd4 n {s with fFrom:=x}) (qd4 n s)
theorem AAW {β:Type}(n:Nat)(l:List Tok)(f:Ex→Pr β):(DW n [104,97,118,105,110,103] l).bind f=if isT l [104,97,118,105,110,103] then (eP n l.tail).bind f else f ex0 l:=by
 unfold DW;split <;> rfl
theorem AHN (n:Nat):FM n=itP [100,105,115,116,105,110,99,116] (BC (BL n (Ec n)) λx=>qd3 n {VR true with fItems:=x}) (BC (BL n (Ec n)) λx=>qd3 n {VR false with fItems:=x}):=by
 funext l
 simp only [FM,itP,BC,XM,byP,ER,AAW,qd3,qd4,qd5,qd6,qd7,qd8,qd9];cases isT l [100,105,115,116,105,110,99,116] <;> rfl
section
variable {ω:Om}{b:Nat}{w:Value}{toks:List Tok}
def DQ (w:Value)(toks:List Tok)(n b b1 bq:Nat)(G:TSelect→Pr TSelect)(F:(Value→M)→M):Prop:=
 ∀(s:TSelect) (c:List Value) (I:Imm) (L1 L2:LH) (st:Stt) (k:Nat) (bd:Bool) (K:Value→M),TD I w toks→RdS toks st k bd→st.sz < n→BX I s c→
  (∀y s' k' bd' I' v,RdS toks s' k' bd'→Out (run (G s) st) y s'→s'.sz≤st.sz→Ext I I'→Hz BX I' y v→K v I' (L1++(b,RDo w k' bd')::L2))→
  F (λv=>Gh (K v)) I ((bq,.cells c.toArray 40 (0,0))::(b1,.cells selZ.toArray 40 (0,0))::(L1++(b,RDo w k bd)::L2))
theorem DQ.go {n b1 bq:Nat}{G:TSelect→Pr TSelect}{F:(Value→M)→M}(H:DQ w toks n b b1 bq G F)(s:TSelect){c:List Value}{I:Imm}{L1 L2:LH}{st:Stt}{k:Nat}{bd:Bool}{K:Value→M}(h:TD I w toks)(hs:RdS toks st k bd)(hn:st.sz < n)(hq:BX I s c)
  (hk:∀y s' k' bd' I' v,RdS toks s' k' bd'→Out (run (G s) st) y s'→s'.sz≤st.sz→Ext I I'→Hz BX I' y v→K v I' (L1++(b,RDo w k' bd')::L2)):
  F (λv=>Gh (K v)) I ((bq,.cells c.toArray 40 (0,0))::(b1,.cells selZ.toArray 40 (0,0))::(L1++(b,RDo w k bd)::L2)):=H s c I L1 L2 st k bd K h hs hn hq hk
theorem ATH (n b1 bq:Nat):DQ w toks n b b1 bq qd9 (λK=>Ub ω (AL b1) (AL bq) K):=by
 intro s c I L1 L2 st k bd K h hs hn hq hk;obtain ⟨v0,v1,v2,v3,v4,v5,rfl,h0,h1,h2,h3,h4,h5⟩:=hq;obtain ⟨a0,k0,rfl⟩:=zAF h0;obtain ⟨a1,k1,rfl⟩:=zAF h1;obtain ⟨a2,k2,rfl⟩:=zAF h2;obtain ⟨a3,k3,rfl⟩:=zAF h3;obtain ⟨a4,k4,rfl⟩:=zAF h4;obtain ⟨a5,k5,rfl⟩:=zAF h5;unfold Ub;repeat' (first|(with_reducible first|refine BM ?_|refine keepA ?_|refine AQ (λ_=>?_))|(with_reducible refine call ?_;refine Ad _ zD zA (λl k' hy hs' hz'=>?_) (λhno=>?_))|(with_reducible refine call ?_;refine BP _ zD zA (λl hy=>?_) (λhno=>?_))|(with_reducible refine call ?_;refine Aj _ zD zA (λs' k' bd' hs' ho' hz' hzz'=>?_))|(with_reducible refine call ?_;refine BB zD zA (λx s' k' bd' hs' ho' hz' hzz'=>?_))|(with_reducible first|refine BQ zC (λI' a hI' hw'=>zAA ?_)|refine BJ zC zC (λI' a hI' hw'=>zAA ?_)|refine Ba zC zC zC (λI' a hI' hw'=>zAA ?_))|(with_reducible refine call ?_;refine BN zC ?_)|refine zqr ?_|refine zqb ?_|refine zqi ?_ ?_|refine zqc ?_|refine zqg (λhb=>?_) (λhb=>?_)|refine zqe ?_|fail)
 exact zAE (L1++(b,RDo w k bd)::L2) (zAA (hk s st k bd _ _ hs zO (zW _) (zAC _) ⟨_,rfl,_,_,_,_,_,_,rfl,h0,h1,h2,h3,h4,h5⟩))
theorem UF (n:Nat){I:Imm}{L:LH}{K:Value→M}{C:Obj→LH}{st:Stt}{k:Nat}{bd:Bool}[hF:Foc b L (RDo w k bd) C](hw:TD I w toks)(hs:RdS toks st k bd)(hn:st.sz < n)
  (hk:∀x s' k' bd' I',RdS toks s' k' bd'→Out (run EO st) x s'→s'.sz≤st.sz→Ext I I'→K (.int .i64 x) I' (C (RDo w k' bd'))):CT ω 129 #[AL b] K I L:=
 (AET n).go hw hs hn λx s' k' bd' I' v h1 h2 h3 h4 h5=>by subst h5;exact hk x s' k' bd' I' h1 h2 h3 h4
theorem FdW.goW {α:Type}{R:Imm→α→List Value→Prop}{m n:Nat}{f:Nat}{args:Array Value}{g:Pr (List α)}(h:Fd ω n b w toks f args g (AAa R m)){I:Imm}{L:LH}{K:Value→M}{C:Obj→LH}{st:Stt}{k:Nat}{bd:Bool}[hF:Foc b L (RDo w k bd) C](hw:TD I w toks)(hs:RdS toks st k bd)(hn:st.sz < n)
  (hk:∀x s' k' bd' I' a c,RdS toks s' k' bd'→Out (run g st) x s'→s'.sz≤st.sz→Ext I I'→RL R m I' [] (.slice a x.length c) x→K (.slice a x.length c) I' (C (RDo w k' bd'))):CT ω f args K I L:=
 h.go hw hs hn λx s' k' bd' I' v h1 h2 h3 h4 h5=>by
  obtain ⟨a,c,rfl⟩:=zAF h5;exact hk x s' k' bd' I' a c h1 h2 h3 h4 h5
theorem ATI (n b1 bq:Nat)(hn0:n≤1000000000):DQ w toks n b b1 bq (qd8) (λK=>Uc ω (AL b) (AL b1) (AL bq) K):=by
 have hE:=dE (ω:=ω) (b:=b) (w:=w) (toks:=toks) n hn0;intro s c I L1 L2 st k bd K h hs hn hq hk;obtain ⟨v0,v1,v2,v3,v4,v5,rfl,h0,h1,h2,h3,h4,h5⟩:=hq;obtain ⟨a0,k0,rfl⟩:=zAF h0;obtain ⟨a1,k1,rfl⟩:=zAF h1;obtain ⟨a2,k2,rfl⟩:=zAF h2;obtain ⟨a3,k3,rfl⟩:=zAF h3;obtain ⟨a4,k4,rfl⟩:=zAF h4;obtain ⟨a5,k5,rfl⟩:=zAF h5;unfold Uc;repeat' (first|(with_reducible first|refine BM ?_|refine keepA ?_|refine AQ (λ_=>?_))|(with_reducible refine call ?_;refine UF n zD zA zo (λx s' k' bd' I' hs' ho' hz' hI'=>?_))|(with_reducible refine call ?_;refine Ad _ zD zA (λl k' hy hs' hz'=>?_) (λhno=>?_))|(with_reducible refine call ?_;refine BP _ zD zA (λl hy=>?_) (λhno=>?_))|(with_reducible refine call ?_;refine Aj _ zD zA (λs' k' bd' hs' ho' hz' hzz'=>?_))|(with_reducible refine call ?_;refine BB zD zA (λx s' k' bd' hs' ho' hz' hzz'=>?_))|(with_reducible first|refine BQ zC (λI' a hI' hw'=>zAA ?_)|refine BJ zC zC (λI' a hI' hw'=>zAA ?_)|refine Ba zC zC zC (λI' a hI' hw'=>zAA ?_))|(with_reducible refine call ?_;refine BN zC ?_)|refine zqr ?_|refine zqb ?_|refine zqi ?_ ?_|refine zqc ?_|refine zqg (λhb=>?_) (λhb=>?_)|refine zqe ?_|fail)
 ·exact DQ.go (ATH n b1 bq) ({s with fOffset:=x}) zD zA zo ⟨_,_,_,_,_,_,rfl,(zAV h0 zE),(SoL.mono h1 zE),(zAI h2 zE),(zAL (λ_ _ h=>ExV.mono zE h) h3 zE (λ_ h=>h)),(zAI h4 zE),(OrL.mono h5 zE)⟩ (λy s2 k2 bd2 I2 v2 r1 r2 r3 r4 r5=>hk y s2 k2 bd2 I2 v2 r1 (by rw [qd8];exact zO) zo (zAB zE r4) r5)
 ·exact DQ.go (ATH n b1 bq) s zD zA zo ⟨_,_,_,_,_,_,rfl,(zAV h0 zE),(SoL.mono h1 zE),(zAI h2 zE),(zAL (λ_ _ h=>ExV.mono zE h) h3 zE (λ_ h=>h)),(zAI h4 zE),(OrL.mono h5 zE)⟩ (λy s2 k2 bd2 I2 v2 r1 r2 r3 r4 r5=>hk y s2 k2 bd2 I2 v2 r1 (by rw [qd8];exact zO) zo (zAB zE r4) r5)
theorem ATJ (n b1 bq:Nat)(hn0:n≤1000000000):DQ w toks n b b1 bq (qd7) (λK=>Ud ω (AL b) (AL b1) (AL bq) K):=by
 have hE:=dE (ω:=ω) (b:=b) (w:=w) (toks:=toks) n hn0;intro s c I L1 L2 st k bd K h hs hn hq hk;obtain ⟨v0,v1,v2,v3,v4,v5,rfl,h0,h1,h2,h3,h4,h5⟩:=hq;obtain ⟨a0,k0,rfl⟩:=zAF h0;obtain ⟨a1,k1,rfl⟩:=zAF h1;obtain ⟨a2,k2,rfl⟩:=zAF h2;obtain ⟨a3,k3,rfl⟩:=zAF h3;obtain ⟨a4,k4,rfl⟩:=zAF h4;obtain ⟨a5,k5,rfl⟩:=zAF h5;unfold Ud;repeat' (first|(with_reducible first|refine BM ?_|refine keepA ?_|refine AQ (λ_=>?_))|(with_reducible refine call ?_;refine UF n zD zA zo (λx s' k' bd' I' hs' ho' hz' hI'=>?_))|(with_reducible refine call ?_;refine Ad _ zD zA (λl k' hy hs' hz'=>?_) (λhno=>?_))|(with_reducible refine call ?_;refine BP _ zD zA (λl hy=>?_) (λhno=>?_))|(with_reducible refine call ?_;refine Aj _ zD zA (λs' k' bd' hs' ho' hz' hzz'=>?_))|(with_reducible refine call ?_;refine BB zD zA (λx s' k' bd' hs' ho' hz' hzz'=>?_))|(with_reducible first|refine BQ zC (λI' a hI' hw'=>zAA ?_)|refine BJ zC zC (λI' a hI' hw'=>zAA ?_)|refine Ba zC zC zC (λI' a hI' hw'=>zAA ?_))|(with_reducible refine call ?_;refine BN zC ?_)|refine zqr ?_|refine zqb ?_|refine zqi ?_ ?_|refine zqc ?_|refine zqg (λhb=>?_) (λhb=>?_)|refine zqe ?_|fail)
 ·exact DQ.go (ATI n b1 bq hn0) ({s with fLimit:=x}) zD zA zo ⟨_,_,_,_,_,_,rfl,(zAV h0 zE),(SoL.mono h1 zE),(zAI h2 zE),(zAL (λ_ _ h=>ExV.mono zE h) h3 zE (λ_ h=>h)),(zAI h4 zE),(OrL.mono h5 zE)⟩ (λy s2 k2 bd2 I2 v2 r1 r2 r3 r4 r5=>hk y s2 k2 bd2 I2 v2 r1 (by rw [qd7];exact zO) zo (zAB zE r4) r5)
 ·exact DQ.go (ATI n b1 bq hn0) s zD zA zo ⟨_,_,_,_,_,_,rfl,(zAV h0 zE),(SoL.mono h1 zE),(zAI h2 zE),(zAL (λ_ _ h=>ExV.mono zE h) h3 zE (λ_ h=>h)),(zAI h4 zE),(OrL.mono h5 zE)⟩ (λy s2 k2 bd2 I2 v2 r1 r2 r3 r4 r5=>hk y s2 k2 bd2 I2 v2 r1 (by rw [qd7];exact zO) zo (zAB zE r4) r5)
theorem ATK (n b1 bq:Nat)(hn0:n≤1000000000):DQ w toks n b b1 bq (qd6 n) (λK=>Ue ω (AL b) (AL b1) (AL bq) K):=by
 have hE:=dE (ω:=ω) (b:=b) (w:=w) (toks:=toks) n hn0;intro s c I L1 L2 st k bd K h hs hn hq hk;obtain ⟨v0,v1,v2,v3,v4,v5,rfl,h0,h1,h2,h3,h4,h5⟩:=hq;obtain ⟨a0,k0,rfl⟩:=zAF h0;obtain ⟨a1,k1,rfl⟩:=zAF h1;obtain ⟨a2,k2,rfl⟩:=zAF h2;obtain ⟨a3,k3,rfl⟩:=zAF h3;obtain ⟨a4,k4,rfl⟩:=zAF h4;obtain ⟨a5,k5,rfl⟩:=zAF h5;unfold Ue;repeat' (first|(with_reducible first|refine BM ?_|refine keepA ?_|refine AQ (λ_=>?_))|(with_reducible refine call ?_;refine FdW.goW (AAE n hn0) zD zA zo (λx s' k' bd' I' a' c' hs' ho' hz' hI' hv'=>?_))|(with_reducible refine call ?_;refine Ad _ zD zA (λl k' hy hs' hz'=>?_) (λhno=>?_))|(with_reducible refine call ?_;refine BP _ zD zA (λl hy=>?_) (λhno=>?_))|(with_reducible refine call ?_;refine Aj _ zD zA (λs' k' bd' hs' ho' hz' hzz'=>?_))|(with_reducible refine call ?_;refine BB zD zA (λx s' k' bd' hs' ho' hz' hzz'=>?_))|(with_reducible first|refine BQ zC (λI' a hI' hw'=>zAA ?_)|refine BJ zC zC (λI' a hI' hw'=>zAA ?_)|refine Ba zC zC zC (λI' a hI' hw'=>zAA ?_))|(with_reducible refine call ?_;refine BN zC ?_)|refine zqr ?_|refine zqb ?_|refine zqi ?_ ?_|refine zqc ?_|refine zqg (λhb=>?_) (λhb=>?_)|refine zqe ?_|fail)
 ·exact DQ.go (ATJ n b1 bq hn0) ({s with fOrder:=x}) zD zA zo ⟨_,_,_,_,_,_,rfl,(zAV h0 zE),(SoL.mono h1 zE),(zAI h2 zE),(zAL (λ_ _ h=>ExV.mono zE h) h3 zE (λ_ h=>h)),(zAI h4 zE),(OrL.mono hv' zE)⟩ (λy s2 k2 bd2 I2 v2 r1 r2 r3 r4 r5=>hk y s2 k2 bd2 I2 v2 r1 (by rw [qd6];exact zO) zo (zAB zE r4) r5)
 ·exact DQ.go (ATJ n b1 bq hn0) s zD zA zo ⟨_,_,_,_,_,_,rfl,(zAV h0 zE),(SoL.mono h1 zE),(zAI h2 zE),(zAL (λ_ _ h=>ExV.mono zE h) h3 zE (λ_ h=>h)),(zAI h4 zE),(OrL.mono h5 zE)⟩ (λy s2 k2 bd2 I2 v2 r1 r2 r3 r4 r5=>hk y s2 k2 bd2 I2 v2 r1 (by rw [qd6];exact zO) zo (zAB zE r4) r5)
theorem ATL (n b1 bq:Nat)(hn0:n≤1000000000):DQ w toks n b b1 bq (qd5 n) (λK=>Uf ω (AL b) (AL b1) (AL bq) K):=by
 have hE:=dE (ω:=ω) (b:=b) (w:=w) (toks:=toks) n hn0;intro s c I L1 L2 st k bd K h hs hn hq hk;obtain ⟨v0,v1,v2,v3,v4,v5,rfl,h0,h1,h2,h3,h4,h5⟩:=hq;obtain ⟨a0,k0,rfl⟩:=zAF h0;obtain ⟨a1,k1,rfl⟩:=zAF h1;obtain ⟨a2,k2,rfl⟩:=zAF h2;obtain ⟨a3,k3,rfl⟩:=zAF h3;obtain ⟨a4,k4,rfl⟩:=zAF h4;obtain ⟨a5,k5,rfl⟩:=zAF h5;unfold Uf;repeat' (first|(with_reducible first|refine BM ?_|refine keepA ?_|refine AQ (λ_=>?_))|(with_reducible refine call ?_;refine FdE.goE hE zD zA zo (λx s' k' bd' I' a' c' hs' ho' hz' hI' hv'=>?_))|(with_reducible refine call ?_;refine Ad _ zD zA (λl k' hy hs' hz'=>?_) (λhno=>?_))|(with_reducible refine call ?_;refine BP _ zD zA (λl hy=>?_) (λhno=>?_))|(with_reducible refine call ?_;refine Aj _ zD zA (λs' k' bd' hs' ho' hz' hzz'=>?_))|(with_reducible refine call ?_;refine BB zD zA (λx s' k' bd' hs' ho' hz' hzz'=>?_))|(with_reducible first|refine BQ zC (λI' a hI' hw'=>zAA ?_)|refine BJ zC zC (λI' a hI' hw'=>zAA ?_)|refine Ba zC zC zC (λI' a hI' hw'=>zAA ?_))|(with_reducible refine call ?_;refine BN zC ?_)|refine zqr ?_|refine zqb ?_|refine zqi ?_ ?_|refine zqc ?_|refine zqg (λhb=>?_) (λhb=>?_)|refine zqe ?_|fail)
 ·exact DQ.go (ATK n b1 bq hn0) ({s with fHaving:=x}) zD zA zo ⟨_,_,_,_,_,_,rfl,(zAV h0 zE),(SoL.mono h1 zE),(zAI h2 zE),(zAL (λ_ _ h=>ExV.mono zE h) h3 zE (λ_ h=>h)),(zAI hv' zE),(OrL.mono h5 zE)⟩ (λy s2 k2 bd2 I2 v2 r1 r2 r3 r4 r5=>hk y s2 k2 bd2 I2 v2 r1 (by rw [qd5];exact zO) zo (zAB zE r4) r5)
 ·exact DQ.go (ATK n b1 bq hn0) s zD zA zo ⟨_,_,_,_,_,_,rfl,(zAV h0 zE),(SoL.mono h1 zE),(zAI h2 zE),(zAL (λ_ _ h=>ExV.mono zE h) h3 zE (λ_ h=>h)),(zAI h4 zE),(OrL.mono h5 zE)⟩ (λy s2 k2 bd2 I2 v2 r1 r2 r3 r4 r5=>hk y s2 k2 bd2 I2 v2 r1 (by rw [qd5];exact zO) zo (zAB zE r4) r5)
theorem ATM (n b1 bq:Nat)(hn0:n≤1000000000):DQ w toks n b b1 bq (qd4 n) (λK=>Ug ω (AL b) (AL b1) (AL bq) K):=by
 have hE:=dE (ω:=ω) (b:=b) (w:=w) (toks:=toks) n hn0;intro s c I L1 L2 st k bd K h hs hn hq hk;obtain ⟨v0,v1,v2,v3,v4,v5,rfl,h0,h1,h2,h3,h4,h5⟩:=hq;obtain ⟨a0,k0,rfl⟩:=zAF h0;obtain ⟨a1,k1,rfl⟩:=zAF h1;obtain ⟨a2,k2,rfl⟩:=zAF h2;obtain ⟨a3,k3,rfl⟩:=zAF h3;obtain ⟨a4,k4,rfl⟩:=zAF h4;obtain ⟨a5,k5,rfl⟩:=zAF h5;unfold Ug;repeat' (first|(with_reducible first|refine BM ?_|refine keepA ?_|refine AQ (λ_=>?_))|(with_reducible refine call ?_;refine FdL.goL (UB n hE) zD zA zo (λg s' k' bd' I' a' c' hs' ho' hz' hI' hg' _=>?_))|(with_reducible refine call ?_;refine FdE.goE (Ny n hn0) zD zA zo (λx s' k' bd' I' a' c' hs' ho' hz' hI' hv'=>?_))|(with_reducible refine call ?_;refine Ad _ zD zA (λl k' hy hs' hz'=>?_) (λhno=>?_))|(with_reducible refine call ?_;refine BP _ zD zA (λl hy=>?_) (λhno=>?_))|(with_reducible refine call ?_;refine Aj _ zD zA (λs' k' bd' hs' ho' hz' hzz'=>?_))|(with_reducible refine call ?_;refine BB zD zA (λx s' k' bd' hs' ho' hz' hzz'=>?_))|(with_reducible first|refine BQ zC (λI' a hI' hw'=>zAA ?_)|refine BJ zC zC (λI' a hI' hw'=>zAA ?_)|refine Ba zC zC zC (λI' a hI' hw'=>zAA ?_))|(with_reducible refine call ?_;refine BN zC ?_)|refine zqr ?_|refine zqb ?_|refine zqi ?_ ?_|refine zqc ?_|refine zqg (λhb=>?_) (λhb=>?_)|refine zqe ?_|fail)
 ·exact DQ.go (ATL n b1 bq hn0) ({s with fWhere:=x,fGroup:=g}) zD zA zo ⟨_,_,_,_,_,_,rfl,(zAV h0 zE),(SoL.mono h1 zE),(zAI hv' zE),(zAL (λ_ _ h=>ExV.mono zE h) hg' zE (λ_ h=>h)),(zAI h4 zE),(OrL.mono h5 zE)⟩ (λy s2 k2 bd2 I2 v2 r1 r2 r3 r4 r5=>hk y s2 k2 bd2 I2 v2 r1 (by rw [qd4];exact zO) zo (zAB zE r4) r5)
 ·exact DQ.go (ATL n b1 bq hn0) {s with fWhere:=x} zD zA zo ⟨_,_,_,_,_,_,rfl,(zAV h0 zE),(SoL.mono h1 zE),(zAI hv' zE),(zAL (λ_ _ h=>ExV.mono zE h) h3 zE (λ_ h=>h)),(zAI h4 zE),(OrL.mono h5 zE)⟩ (λy s2 k2 bd2 I2 v2 r1 r2 r3 r4 r5=>hk y s2 k2 bd2 I2 v2 r1 (by rw [qd4];exact zO) zo (zAB zE r4) r5)
theorem AVI (n b1 bq:Nat)(hn0:n≤1000000000):DQ w toks n b b1 bq (qd3 n) (λK=>Nb ω (AL b) (AL b1) (AL bq) K):=by
 have hE:=dE (ω:=ω) (b:=b) (w:=w) (toks:=toks) n hn0;intro s c I L1 L2 st k bd K h hs hn hq hk;obtain ⟨v0,v1,v2,v3,v4,v5,rfl,h0,h1,h2,h3,h4,h5⟩:=hq;obtain ⟨a0,k0,rfl⟩:=zAF h0;obtain ⟨a1,k1,rfl⟩:=zAF h1;obtain ⟨a2,k2,rfl⟩:=zAF h2;obtain ⟨a3,k3,rfl⟩:=zAF h3;obtain ⟨a4,k4,rfl⟩:=zAF h4;obtain ⟨a5,k5,rfl⟩:=zAF h5;unfold Nb;repeat' (first|(with_reducible first|refine BM ?_|refine keepA ?_|refine AQ (λ_=>?_))|(with_reducible refine call ?_;refine FdW.goW (AIZ n hn0) zD zA zo (λx s' k' bd' I' a' c' hs' ho' hz' hI' hv'=>?_))|(with_reducible refine call ?_;refine Ad _ zD zA (λl k' hy hs' hz'=>?_) (λhno=>?_))|(with_reducible refine call ?_;refine BP _ zD zA (λl hy=>?_) (λhno=>?_))|(with_reducible refine call ?_;refine Aj _ zD zA (λs' k' bd' hs' ho' hz' hzz'=>?_))|(with_reducible refine call ?_;refine BB zD zA (λx s' k' bd' hs' ho' hz' hzz'=>?_))|(with_reducible first|refine BQ zC (λI' a hI' hw'=>zAA ?_)|refine BJ zC zC (λI' a hI' hw'=>zAA ?_)|refine Ba zC zC zC (λI' a hI' hw'=>zAA ?_))|(with_reducible refine call ?_;refine BN zC ?_)|refine zqr ?_|refine zqb ?_|refine zqi ?_ ?_|refine zqc ?_|refine zqg (λhb=>?_) (λhb=>?_)|refine zqe ?_|fail)
 ·exact DQ.go (ATM n b1 bq hn0) ({s with fFrom:=x}) zD zA zo ⟨_,_,_,_,_,_,rfl,(zAV h0 zE),(SoL.mono hv' zE),(zAI h2 zE),(zAL (λ_ _ h=>ExV.mono zE h) h3 zE (λ_ h=>h)),(zAI h4 zE),(OrL.mono h5 zE)⟩ (λy s2 k2 bd2 I2 v2 r1 r2 r3 r4 r5=>hk y s2 k2 bd2 I2 v2 r1 (by rw [qd3];exact zO) zo (zAB zE r4) r5)
 ·exact DQ.go (ATM n b1 bq hn0) s zD zA zo ⟨_,_,_,_,_,_,rfl,(zAV h0 zE),(SoL.mono h1 zE),(zAI h2 zE),(zAL (λ_ _ h=>ExV.mono zE h) h3 zE (λ_ h=>h)),(zAI h4 zE),(OrL.mono h5 zE)⟩ (λy s2 k2 bd2 I2 v2 r1 r2 r3 r4 r5=>hk y s2 k2 bd2 I2 v2 r1 (by rw [qd3];exact zO) zo (zAB zE r4) r5)
theorem NE {α:Type}{R:Imm→α→List Value→Prop}{I:Imm}{X6 L0 F:LH}{T n bytes:Nat}{z:Array Value}{v:Value}{cells c:List Value}{xs:List α}{x:α}{K:Value→M}[SplitL X6 L0 F](hz:z.size=n)(hn:0 < n)(h6:SlO T n X6 v cells xs.length)(hR:Recs (R I) n xs cells)(hx:R I x c)(hcl:c.length=n)(h1:∀u∈c,u.oneCell'=true)(hb:(xs.length+1) * bytes≤150000000000000)(hl:xs.length+1≤150000000000000)
  (hk:∀X1 X6' v' cells',SlO T n X6' v' cells' (xs++[x]).length→Recs (R I) n (xs++[x]) cells'→Gh (K v') I (X6'++(X1++F))):
  AU T n z 1 [(0,.agg c.toArray)] (gh λu=>App T n bytes z v u (gh K)) I L0:=by
 refine Dw hz hn (by simpa [Value.cells] using hcl) (λX1 u hX1=>?_);refine Il (X:=X6) hz h6 (hX1.news (λx hx=>zaq _ hx)) (λu hu=>h1 u (by simpa [Value.cells] using hu)) hb hl (λX' v' hX'=>?_);exact hk X1 X' v' _ (by simpa [Value.cells] using hX') (zAS hR (Recs.one (by simpa [Value.cells] using hcl) (by simpa [Value.cells] using hx)))
abbrev ADO (d:Bool)(v:Value):List Value:=[.bool d,v,.slice none 0 0,.int .i64 0,.int .i64 0,.bool false,.int .i64 0,.string ⟨#[]⟩,.string ⟨#[]⟩,.string ⟨#[]⟩,.int .i64 0,.int .i64 0,.bool false,.slice none 0 0,.slice none 0 0,.int .i64 0,.int .i64 0,.bool false,.int .i64 0,.string ⟨#[]⟩,.string ⟨#[]⟩,.string ⟨#[]⟩,.int .i64 0,.int .i64 0,.bool false,.slice none 0 0,.slice none 0 0,.int .i64 (-1),.int .i64 0]
theorem AIV (n:Nat)(hn0:n≤1000000000){I:Imm}{L:LH}{K:Value→M}{C:Obj→LH}{st:Stt}{k:Nat}{bd:Bool}[hF:Foc b L (RDo w k bd) C](hw:TD I w toks)(hs:RdS toks st k bd)(hn:st.sz < n)
  (hk:∀x s' k' bd' I' c,RdS toks s' k' bd'→Out (run (Ec n) st) x s'→s'.sz≤st.sz→Ext I I'→TItemV I' x c→K (.agg c.toArray) I' (C (RDo w k' bd'))):CT ω 124 #[AL b] K I L:=
 (AIW n hn0).go hw hs hn λx s' k' bd' I' v h1 h2 h3 h4 ⟨c,h5,h6⟩=>by subst h5;exact hk x s' k' bd' I' c h1 h2 h3 h4 h6
theorem AEN (n:Nat)(hn0:n≤1000000000):Fd ω n b w toks 83 #[AL b] (FM n) (Hz BX):=by
 intro K I L C st k bd hF h hs hn hk;obtain ⟨L1,L2,rfl,rfl⟩:=hF.foc;refine ATk ?_;unfold ARl;refine AQ (λb1=>?_);try refine zqe ?_
 refine AQ (λbq=>?_);repeat' (first|refine zqa ?_|refine zqh (λ_=>?_)|refine zqr ?_|refine zqb ?_|refine zqi ?_ ?_|refine zqc ?_|refine zqg (λ_=>?_) (λ_=>?_)|refine zqe ?_|fail)
 have body:∀{d:Bool} {s1:Stt} {k1:Nat} {bd1:Bool},RdS toks s1 k1 bd1→s1.sz≤st.sz→(∀y s',Out (run (BC (BL n (Ec n)) λx=>qd3 n {VR d with fItems:=x}) s1) y s'→Out (run (FM n) st) y s')→
   Ac (():Unit) (λs Kn0=>Yc ω (AL b) (AL b1) (AL bq) Kn0 (λv=>Gh (K v))) I ((bq,Obj.cells (ADO d (.slice none 0 0)).toArray 40 (0,0))::(b1,Obj.cells selZ.toArray 40 (0,0))::(L1++(b,RDo w k1 bd1)::L2)):=by
  intro d s1 k1 bd1 hs1 hz1 hm1;have hle:=hs1.le;refine loop (λm s I2 Lx=>∃(X:LH) (a:Option Addr) (c:Nat) (cells:List Value) (xs:List TItem) (f:Nat) (st2:Stt) (k2:Nat) (bd2:Bool),st2.sz=m∧Ext I I2∧Lx=(bq,Obj.cells (ADO d (.slice a xs.length c)).toArray 40 (0,0))::(b1,Obj.cells selZ.toArray 40 (0,0))::(X++(L1++(b,RDo w k2 bd2)::L2))∧SlO 119 14 X (.slice a xs.length c) cells xs.length∧Recs (TItemV I2) 14 xs cells∧RdS toks st2 k2 bd2∧st2.sz≤f+1∧xs.length+st2.sz≤s1.sz∧Rest n (Ec n) s1 f xs st2) s1.sz
   ⟨[],none,0,[],[],n,s1,k1,bd1,rfl,zAC _,rfl,SlO.none _ _,rfl,hs1,by omega,by simp,Rest.start⟩ ?_
  rintro m s I2 Lx ⟨X,a,c,cells,xs,f,st2,k2,bd2,rfl,hI2,rfl,hX,hR,hs2,hf,hlen,hm⟩;have hb1:s1.sz≤toks.length:=by
   rcases hs1.cases with ⟨_,rfl⟩|⟨_,e,rfl⟩
   ·simp only [Stt.sz,zar];omega
   ·exact zak _
  have last:∀{I3:Imm} {X3 Y:LH} {a3:Option Addr} {c3:Nat} {cells3:List Value} {xs3:List TItem} {s3:Stt} {k3:Nat} {bd3:Bool},Ext I I3→SlO 119 14 X3 (.slice a3 xs3.length c3) cells3 xs3.length→Recs (TItemV I3) 14 xs3 cells3→RdS toks s3 k3 bd3→s3.sz≤st.sz→Out (run (BL n (Ec n)) s1) xs3 s3→
    Nb ω (AL b) (AL b1) (AL bq) (λv=>Gh (K v)) I3 ((bq,Obj.cells (ADO d (.slice a3 xs3.length c3)).toArray 40 (0,0))::(b1,Obj.cells selZ.toArray 40 (0,0))::(X3++(Y++(L1++(b,RDo w k3 bd3)::L2)))):=by
   intro I3 X3 Y a3 c3 cells3 xs3 s3 k3 bd3 hI3 hX3 hR3 hs3 hz3 ho3;unfold Nb;refine Cal.pre (zAE (X3++((bq,Obj.cells (ADO d (.slice a3 xs3.length c3)).toArray 40 (0,0))::(b1,Obj.cells selZ.toArray 40 (0,0))::(L1++(b,RDo w k3 bd3)::L2))) (RL.ofO (R:=TItemV) (λh hI=>TItemV.mono h hI) hX3 hR3 (λI4 hI4 hw=>zAE ((bq,Obj.cells (ADO d (.slice a3 xs3.length c3)).toArray 40 (0,0))::(b1,Obj.cells selZ.toArray 40 (0,0))::(L1++(b,RDo w k3 bd3)::L2)) (zAA ?_))));exact DQ.go (AVI n b1 bq hn0) {VR d with fItems:=xs3} zD hs3 zo ⟨_,_,_,_,_,_,rfl,hw,zAD none 0,zAD none 0,zAD none 0,zAD none 0,zAD none 0⟩ (λy s' k' bd' I' v r1 r2 r3 r4 r5=>hk y s' k' bd' I' v r1 (hm1 _ _ (BF ho3 r2)) zo (zAB hI3 (zAB hI4 r4)) r5)
  unfold Yc;try refine zqe ?_
  refine rdb ?_;cases bd2 with
  |true=>
   obtain ⟨e,rfl⟩:=hs2.zero;simp only [zQ,SSd,Nat.reduceAdd];exact last (Y:=[]) hI2 hX hR hs2 (zak _) (hm.bad xs)
  |false=>
   have h1:=hs2.one;simp only [zG,SSd,Nat.reduceAdd];refine call (AIV n hn0 zD hs2 zo (λx s3 k3 bd3 I3 c3 hs3 ho3 hz3 hI3 hv3=>?_));obtain ⟨v3,rfl,hv3⟩:=hv3;obtain ⟨a3,e3,rfl⟩:=zAF hv3;refine AQ (λb5=>?_);repeat' (first|refine zqa ?_|refine zqh (λ_=>?_)|refine zqr ?_|refine zqb ?_|refine zqi ?_ ?_|refine zqc ?_|refine zqg (λ_=>?_) (λ_=>?_)|refine zqe ?_|fail)
   refine NE (X6:=X) (R:=TItemV) (x:=x) rfl zx hX (hR.imp λ_ _ h=>TItemV.mono h hI3) ⟨_,rfl,hv3⟩ rfl (AY rfl) zo zo (λX1 X6 w6 cells6 hX6 hR6=>?_);obtain ⟨a6,e6,rfl⟩:=hX6.form;refine zAE ((bq,Obj.cells (ADO d (.slice a xs.length c)).toArray 40 (0,0))::(b1,Obj.cells selZ.toArray 40 (0,0))::(X6++(L1++(b,RDo w k3 bd3)::L2))) (zAA ?_);repeat' (first|refine zqa ?_|refine zqh (λ_=>?_)|refine zqr ?_|refine zqb ?_|refine zqi ?_ ?_|refine zqc ?_|refine zqg (λ_=>?_) (λ_=>?_)|refine zqe ?_|fail)
   refine call (Ad _ zD hs3 (λl k4 hy hs4 hz4=>?_) (λhno=>?_))
   ·have h4:=hs4.one;obtain ⟨f,rfl⟩:∃q,f=q+1:=⟨f - 1,by omega⟩;simp only [zQ,SSd,Nat.reduceAdd];exact zAA ⟨_,by omega,X6,a6,e6,cells6,xs++[x],f,.good l.tail,k4,false,rfl,zAB hI2 hI3,rfl,hX6,hR6,hs4,by omega,by rw [zn,zV];omega,hm.next ho3 hy⟩
   ·simp only [zG,SSd,Nat.reduceAdd];exact last (Y:=[]) (zAB hI2 hI3) hX6 hR6 hs3 zo (hm.stop ho3 hno)
 rw [AHN] at body;refine call (Ad _ h hs (λl k' hy hs' hz'=>?_) (λhno=>?_))
 ·repeat' (first|refine zqa ?_|refine zqh (λ_=>?_)|refine zqr ?_|refine zqb ?_|refine zqi ?_ ?_|refine zqc ?_|refine zqg (λ_=>?_) (λ_=>?_)|refine zqe ?_|fail)
  exact body (d:=true) hs' zo (λy s' hh=>IK hy hh)
 ·repeat' (first|refine zqa ?_|refine zqh (λ_=>?_)|refine zqr ?_|refine zqb ?_|refine zqi ?_ ?_|refine zqc ?_|refine zqg (λ_=>?_) (λ_=>?_)|refine zqe ?_|fail)
  exact body (d:=false) hs (zW _) (λy s' hh=>CP hno hh)
end
section
variable {ω:Om}{b:Nat}
theorem AIK (n:Nat):FnE ω n b 222 FP:=by
 intro K Pn I L C v l hF h hT hl hok herr;obtain ⟨L1,L2,rfl,rfl⟩:=hF.foc;have hN:FnE ω n b 234 KX:=Tc n;refine APK ?_;unfold sh222;repeat' (first|(with_reducible first|refine CX (b:=b) ?_|refine keepA ?_|refine AQ (λ_=>?_))|(with_reducible refine Aa ?_;refine hN.go zT zA zo (λy r' hg hT2 hr2 I' v' a' k' hI' hv' hw'=>?_) (λe hg I' v' hI'=>?_))|(with_reducible refine Az ?_;refine NJ zT zA (λx hx hT' hl' v' hv'=>?_) (λhx=>?_))|(with_reducible refine Az ?_;refine CY _ zT zA (λhb hT' hl' v' hv'=>?_) (λhb=>?_))|(with_reducible refine CG _ zT zA (λhb hT' hl' I' v' hI' hv'=>?_) (λhb I' v' hI'=>?_))|(with_reducible refine Aa ?_;refine Cj zT zA (λhb hT' hl' v' hv'=>?_) (λhb=>?_))|(with_reducible refine Aa ?_;refine Ak zT zA ?_)|(with_reducible first|refine BQ zC (λI' a hI' hw'=>zAA ?_)|refine BJ zC zC (λI' a hI' hw'=>zAA ?_)|refine Ba zC zC zC (λI' a hI' hw'=>zAA ?_))|(with_reducible refine Az ?_;refine BV zC ?_)|refine zqr ?_|refine zqb ?_|(with_reducible first|refine Ap (sh222.eq_1 ..) ?_|refine And.intro ?_ ?_)|refine zqc ?_|refine zqg (λhb=>?_) (λhb=>?_)|refine zqe ?_|fail)
 all_goals first
  |exact zAE (L1++(b,PBo v')::L2) (zAA (herr _ (by simp [FP,Res.bind,bad,AP, *] <;> rfl) _ _ zE))
  |exact zAE (L1++(b,PBo v')::L2) (zAA (hok _ _ (by simp [FP,Res.bind,bad,AP, *] <;> rfl) zA zo _ _ _ zE zT zC))
  |exact zAE (L1++(b,PBo v')::L2) (zAA (hok (exK 4 [y]) _ (by simp [FP,Res.bind, *] <;> rfl) zA zo _ _ _ zE zT zC))
def tyK (s:Bs):Option Int:=if s=[116,101,120,116] then some 3 else if s=[98,111,111,108,101,97,110]∨s=[98,111,111,108] then some 2 else if s=[98,105,103,105,110,116]∨s=[105,110,116,101,103,101,114]∨s=[105,110,116] then some 1 else none
theorem AJo:Jc (Jc (Jc (Jc (Jc (Jc (λ_=>none) [105,110,116] (some (.int .i64 1))) [105,110,116,101,103,101,114] (some (.int .i64 1))) [98,105,103,105,110,116] (some (.int .i64 1))) [98,111,111,108] (some (.int .i64 2))) [98,111,111,108,101,97,110] (some (.int .i64 2))) [116,101,120,116] (some (.int .i64 3))=λk=>(tyK k).map (.int .i64):=by
 funext k
 simp only [Jc,tyK];by_cases h1:k=[116,101,120,116]
 ·subst h1;rfl
 by_cases h2:k=[98,111,111,108,101,97,110]
 ·subst h2;rfl
 by_cases h3:k=[98,111,111,108]
 ·subst h3;rfl
 by_cases h4:k=[98,105,103,105,110,116]
 ·subst h4;rfl
 by_cases h5:k=[105,110,116,101,103,101,114]
 ·subst h5;rfl
 by_cases h6:k=[105,110,116]
 ·subst h6;rfl
 simp only [h1,h2,h3,h4,h5,h6,if_false,or_self];rfl
theorem ADC (s:Bs):typeOf s=(tyK s).getD 0:=by
 simp only [typeOf,tyK];by_cases h1:s=[116,101,120,116]
 ·subst h1;rfl
 by_cases h2:s=[98,111,111,108,101,97,110]
 ·subst h2;rfl
 by_cases h3:s=[98,111,111,108]
 ·subst h3;rfl
 by_cases h4:s=[98,105,103,105,110,116]
 ·subst h4;rfl
 by_cases h5:s=[105,110,116,101,103,101,114]
 ·subst h5;rfl
 by_cases h6:s=[105,110,116]
 ·subst h6;rfl
 simp only [h1,h2,h3,h4,h5,h6,if_false,or_self];rfl
def Jp (c:TCol)(l:List Tok):Option (Res TCol):=
  if (!c.fNotNull&&isT l [110,111,116])=true then some ((AP [110,117,108,108] l.tail).bind λ_ r=>.ok {c with fNotNull:=true} r) else
  if (!c.fKey&&isT l [112,114,105,109,97,114,121])=true then some ((AP [107,101,121] l.tail).bind λ_ r=>.ok {c with fKey:=true} r) else
  if (!c.fUnique&&isT l [117,110,105,113,117,101])=true then some (.ok {c with fUnique:=true} l.tail) else
  if (c.fDefault.kind==0&&isT l [100,101,102,97,117,108,116])=true then some ((FP l.tail).bind λx r=>.ok {c with fDefault:=x} r) else none
theorem ZI (m:Nat)(c:TCol)(l:List Tok):Dc (m+1) c l=match Jp c l with
  |some g=>g.bind λc r=>Dc m c r
  |none=>.ok c l:=by
 simp only [Dc,Jp];split
 ·simp only [ER];rfl
 split
 ·simp only [ER];rfl
 split
 ·rfl
 split
 ·simp only [ER];rfl
 ·rfl
abbrev colZ:List Value:=[.string ⟨#[]⟩,.int .i64 0,.bool false,.bool false,.bool false,.int .i64 0,.int .i64 0,.bool false,.int .i64 0,.string ⟨#[]⟩,.string ⟨#[]⟩,.string ⟨#[]⟩,.int .i64 0,.int .i64 0,.bool false,.slice none 0 0]
theorem AIg {I:Imm}{X L1 L2:LH}{Kn1:Unit→M}{K Pn:Value→M}{v:Value}{l:List Tok}{b1 bc:Nat}{x:TCol}{c:List Value}(h:TL I v l)(hT:Toks l)(hx:TColV I x c)
  (hnext:∀g y r,Jp x l=some g→g= .ok y r→Toks r→r.length+1≤l.length→∀I' v' c',Ext I I'→TL I' v' r→TColV I' y c'→Gh (Kn1 ()) I' (X++((bc,.cells c'.toArray 101 (0,0))::(b1,.cells colZ.toArray 101 (0,0))::(L1++(b,PBo v')::L2))))
  (herr:∀g,Jp x l=some g→PEr g Pn (λo=>L1++(b,o)::L2) I)
  (hend:Jp x l=none→Gh (K (.agg c.toArray)) I (L1++(b,PBo v)::L2)):
  sh205_3 ω (AL b) (AL b1) (AL bc) (λs=>Gh (Kn1 s)) (λv=>Gh (K v)) (λv=>Gh (Pn v)) I (X++((bc,.cells c.toArray 101 (0,0))::(b1,.cells colZ.toArray 101 (0,0))::(L1++(b,PBo v)::L2))):=by
 obtain ⟨v0,rfl,h0⟩:=hx;obtain ⟨a0,k0,rfl⟩:=zAF h0;have hl1:=hT.len;have hG:FnE ω l.length b 222 FP:=AIK _;unfold sh205_3;repeat' (first|(with_reducible first|refine CX (b:=b) ?_|refine keepA ?_|refine AQ (λ_=>?_))|(with_reducible refine Aa ?_;refine hG.go zT zA zo (λy r hg hT2 hr2 I' v' a' k' hI' hv' hw'=>?_) (λe hg I' v' hI'=>?_))|(with_reducible refine Az ?_;refine CY _ zT zA (λhb hT' hl' v' hv'=>?_) (λhb=>?_))|(with_reducible refine CG _ zT zA (λhb hT' hl' I' v' hI' hv'=>?_) (λhb I' v' hI'=>?_))|(with_reducible refine Aa ?_;refine Cj zT zA (λhb hT' hl' v' hv'=>?_) (λhb=>?_))|(with_reducible refine Aa ?_;refine Ak zT zA ?_)|(with_reducible first|refine BQ zC (λI' a hI' hw'=>zAA ?_)|refine BJ zC zC (λI' a hI' hw'=>zAA ?_)|refine Ba zC zC zC (λI' a hI' hw'=>zAA ?_))|(with_reducible refine Az ?_;refine BV zC ?_)|refine zqr ?_|refine zqb ?_|(with_reducible first|refine Ap (sh205_4.eq_1 ..) ?_|refine Ap (sh205_8.eq_1 ..) ?_|refine Ap (sh205_10.eq_1 ..) ?_|refine Ap (sh205_12.eq_1 ..) ?_|refine Ap (sh205_13.eq_1 ..) ?_|refine Ap (sh205_11.eq_1 ..) ?_|refine Ap (sh205_9.eq_1 ..) ?_|refine Ap (sh205_7.eq_1 ..) ?_|refine Ap (sh205_3.eq_1 ..) ?_|refine Ap (sh205_2.eq_1 ..) ?_|refine Ap (sh205_1.eq_1 ..) ?_|refine Ap (sh205.eq_1 ..) ?_|refine And.intro ?_ ?_)|refine zqc ?_|refine zqg (λhb=>?_) (λhb=>?_)|refine zqe ?_|fail)
 all_goals first
  |exact zAE (L1++(b,PBo v)::L2) (hend (by simp [Jp, *]))
  |exact zAE (L1++(b,PBo v')::L2) (zAA (herr _ (by simp [Jp, *] <;> rfl) _ (by simp [Res.bind,bad,AP, *] <;> rfl) _ _ zE))
  |exact hnext _ {x with fNotNull:=true} _ (by simp [Jp, *] <;> rfl) (by simp [Res.bind,AP, *] <;> rfl) zA zo _ _ _ zE zT ⟨_,rfl,zC⟩
  |exact hnext _ {x with fKey:=true} _ (by simp [Jp, *] <;> rfl) (by simp [Res.bind,AP, *] <;> rfl) zA zo _ _ _ zE zT ⟨_,rfl,zC⟩
  |exact hnext _ {x with fUnique:=true} _ (by simp [Jp, *] <;> rfl) (by simp [Res.bind,AP, *] <;> rfl) zA zo _ _ _ zE zT ⟨_,rfl,zC⟩
  |exact hnext _ {x with fDefault:=y} _ (by simp [Jp, *] <;> rfl) (by simp [Res.bind,AP, *] <;> rfl) zA zo _ _ _ zE zT ⟨_,rfl,zC⟩
theorem AEf (n:Nat):FnV ω n b 205 (DX n) TColV:=by
 intro K Pn I L C v l hF h hT hl hok herr;obtain ⟨L1,L2,rfl,rfl⟩:=hF.foc;refine APW ?_;unfold sh205;refine AQ (λb1=>?_);refine Aa (Cj h hT (λhn hT1 hl1 v1 hv1=>?_) (λhn=>zAE (L1++(b,PBo v)::L2) (zAA (herr (hd l).at' (by simp [DX,Ar,Res.bind,bad,hn]) I v (zAC _)))));obtain ⟨bt,off,h1,h2⟩:=hv1.hd hT1;have two:∀(X:LH) (t:Int) (hty:(if isK l.tail 1 then typeOf (hd l.tail).text else 0)=t) (bc:Nat),sh205_1 ω (AL b) (AL b1) (AL bc) (λv=>Gh (K v)) (λv=>Gh (Pn v)) I (X++((bc,.cells #[.string ⟨(hd l).text.toArray⟩,.int .i64 t,.bool false,.bool false,.bool false,.int .i64 0,.int .i64 0,.bool false,.int .i64 0,.string ⟨#[]⟩,.string ⟨#[]⟩,.string ⟨#[]⟩,.int .i64 0,.int .i64 0,.bool false,.slice none 0 0] 101 (0,0))::(b1,.cells colZ.toArray 101 (0,0))::(L1++(b,PBo v1)::L2))):=by
  intro X t hty bc;have hcol:DX n l=if t=0 then bad l.tail else Dc n ⟨(hd l).text,t,false,false,false,ex0⟩ l.tail.tail:=by
   simp only [DX,Ar,hn,if_true,Res.bind,hty]
  rw [hcol] at hok herr;unfold sh205_1;repeat' (first|refine zqa ?_|refine zqh (λ_=>?_)|refine zqr ?_|refine zqb ?_|refine zqi ?_ ?_|refine zqc ?_|refine zqg (λ_=>?_) (λ_=>?_)|refine zqe ?_|fail)
  ·rename_i h0
   have h0:t=0:=by simpa using h0
   refine Aa (Ak hv1 hT1 ?_);exact zAE (L1++(b,PBo v1)::L2) (zAA (herr _ (by rw [if_pos h0];rfl) I v1 (zAC _)))
  rename_i h0
  have h0:t≠0:=by simpa using h0
  rw [if_neg h0] at hok herr;have hk1:isK l.tail 1=true:=by
   cases hk:isK l.tail 1 with
   |true=>rfl
   |false=>rw [hk] at hty;exact absurd hty.symm h0
  have hT2:=hT1.tailK hk1;have hl2:=hT1.len;unfold sh205_2;refine Az (IW hv1 hT1 (λv2 hv2=>?_));refine loop (λm s I2 Lx=>∃x c v2 l2 f,l2.length=m∧Ext I I2∧Lx=X++((bc,Obj.cells (c:List Value).toArray 101 (0,0))::(b1,.cells colZ.toArray 101 (0,0))::(L1++(b,PBo v2)::L2))∧TColV I2 x c∧TL I2 v2 l2∧Toks l2∧l2.length≤f∧l2.length≤l.length∧Dc n ⟨(hd l).text,t,false,false,false,ex0⟩ l.tail.tail=Dc f x l2) l.tail.tail.length
   ⟨⟨(hd l).text,t,false,false,false,ex0⟩,_,v2,l.tail.tail,n,rfl,zAC _,rfl,⟨_,rfl,zAD none 0⟩,hv2,hT2,by omega,by omega,rfl⟩ ?_
  rintro m s I2 Lx ⟨x,c,v2,l2,f,rfl,hI2,rfl,hx,hTL2,hT2,hf,hlen,hm⟩;have hl2:=hT2.len;obtain ⟨f,rfl⟩:∃k,f=k+1:=⟨f - 1,by omega⟩;rw [ZI] at hm;refine AIg hTL2 hT2 hx (λg y r hn hg hT3 hr3 I3 v3 c3 hI3 hTL3 hc3=>?_) (λg hn e hg I3 v3 hI3=>?_) (λhn=>?_)
  ·exact zAA ⟨r.length,by omega,y,c3,v3,r,f,rfl,zAB hI2 hI3,rfl,hc3,hTL3,hT3,by omega,by omega,by rw [hm,hn];simp only [hg,Res.bind]⟩
  ·exact herr e (by rw [hm,hn];simp only [hg,Res.bind]) I3 v3 (zAB hI2 hI3)
  ·exact zAA (hok x l2 (by rw [hm,hn]) hT2 hlen I2 v2 c hI2 hTL2 hx)
 repeat' (first|refine zqa ?_|refine zqh (λ_=>?_)|((with_reducible refine rd1 (v:=.int .i64 (hd l.tail).kind) ?_ ?_);exact (h2 _ [] (zAC _) 0 _ rfl).mono (zAC _) (λ_ h=>by cases h))|refine zqr ?_|refine zqb ?_|refine zqi ?_ ?_|refine zqc ?_|refine zqg (λ_=>?_) (λ_=>?_)|(simp only [SSd,Nat.reduceAdd,h1]))
 ·rename_i hk
  have hk:isK l.tail 1=true:=by simpa [isK] using hk
  refine AHt (λbm=>?_);obtain ⟨es1,c1,e1,p1⟩:=MapS.empty.put [105,110,116] (.int .i64 1);obtain ⟨es2,c2,e2,p2⟩:=p1.put [105,110,116,101,103,101,114] (.int .i64 1);obtain ⟨es3,c3,e3,p3⟩:=p2.put [98,105,103,105,110,116] (.int .i64 1);obtain ⟨es4,c4,e4,p4⟩:=p3.put [98,111,111,108] (.int .i64 2);obtain ⟨es5,c5,e5,p5⟩:=p4.put [98,111,111,108,101,97,110] (.int .i64 2);obtain ⟨es6,c6,e6,p6⟩:=p5.put [116,101,120,116] (.int .i64 3);rw [AJo] at p6;refine zAA (Ol (k:=[105,110,116]) MapS.empty e1 ?_);refine zAA (Ol (k:=[105,110,116,101,103,101,114]) p1 e2 ?_);refine zAA (Ol (k:=[98,105,103,105,110,116]) p2 e3 ?_);refine zAA (Ol (k:=[98,111,111,108]) p3 e4 ?_);refine zAA (Ol (k:=[98,111,111,108,101,97,110]) p4 e5 ?_);refine zAA (Ol (k:=[116,101,120,116]) p5 e6 ?_);refine zAA ?_;refine rdb ?_;simp only [h1,SSd,Nat.reduceAdd];refine rd1 (v:=.string ⟨(hd l.tail).text.toArray⟩) ((h2 _ [] (zAC _) 2 _ rfl).mono (zAC _) (λ_ h=>by cases h)) ?_;refine lkm (k:=(hd l.tail).text) p6 ?_;have hty:(if isK l.tail 1 then typeOf (hd l.tail).text else 0)=typeOf (hd l.tail).text:=by rw [hk];rfl
  have hlk:lkV (.int .i64 0) false ((λk=>(tyK k).map (.int .i64)) (hd l.tail).text)= .int .i64 (typeOf (hd l.tail).text):=by
   rw [ADC];show lkV _ _ (Option.map _ (tyK (hd l.tail).text))=_;cases tyK (hd l.tail).text <;> rfl
  simp only at hlk
  rw [hlk];repeat' (first|refine zqa ?_|refine zqh (λ_=>?_)|refine zqr ?_|refine zqb ?_|refine zqi ?_ ?_|refine zqc ?_|refine zqg (λ_=>?_) (λ_=>?_)|refine zqe ?_|fail)
  exact two [_] _ hty _
 ·rename_i hk
  have hk:isK l.tail 1=false:=by simpa [isK] using hk
  exact two [] 0 (by rw [hk];rfl) _
end
end Go.Proofs.YtkifgfanjcfedaaGreatDoor
