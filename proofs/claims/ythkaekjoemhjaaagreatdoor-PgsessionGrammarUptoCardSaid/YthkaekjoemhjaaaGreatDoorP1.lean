/- lemmas -/
import Derived.Orders
import Derived.OrdersHeld
import Derived.KernelRfl
import Derived.Laws.Append
import Derived.Laws.Cells
import Derived.Laws.CopyRow
import Derived.Laws.Strings
import Derived.Laws.StructEq
import Derived.Laws.Externs
import Derived.RangeFuncLeaves
import Derived.RangeFuncRecord
import Derived.Lib.Builder
import Derived.Lib.UnsafeStr
import Derived.Lib.MakeNoZero
import Derived.RecoverIn
import Derived.IntWalk
import Derived.OrdersIn
set_option maxRecDepth 100000
set_option maxHeartbeats 40000000
set_option linter.unusedVariables false
set_option linter.unusedSimpArgs false
set_option linter.unusedSectionVars false
namespace Go.SL
theorem zo {P:Prop}(h:P:=by omega):P:=h
theorem zx {P:Prop}(h:P:=by decide):P:=h
theorem zy {P:Prop}(h:P:=by simp):P:=h
theorem zu {P:Prop}(h:P:=by simp;omega):P:=h
theorem zq {P:Prop}(h:P:=by decide+kernel):P:=h
theorem zn:type_of% @Option.some.injEq:=@Option.some.injEq
theorem zk:type_of% @List.length_append:=@List.length_append
theorem zf:type_of% @List.take_succ_eq_append_getElem:=@List.take_succ_eq_append_getElem
theorem zt:type_of% @List.append_assoc:=@List.append_assoc
theorem zg:type_of% @Bool.eq_false_iff:=@Bool.eq_false_iff
theorem zl:type_of% @Bool.false_eq_true:=@Bool.false_eq_true
theorem zh:type_of% @Nat.le_refl:=@Nat.le_refl
theorem zi:type_of% @List.length_cons:=@List.length_cons
theorem zQ:type_of% @Bool.and_eq_true:=@Bool.and_eq_true
theorem zW:type_of% @List.take_of_length_le:=@List.take_of_length_le
theorem zY:type_of% @List.mem_append_left:=@List.mem_append_left
theorem zF:type_of% @List.map_cons:=@List.map_cons
theorem zG:type_of% @List.eq_nil_of_length_eq_zero:=@List.eq_nil_of_length_eq_zero
theorem zH:type_of% @List.length_nil:=@List.length_nil
theorem zJ:type_of% @List.mem_cons_self:=@List.mem_cons_self
theorem zK:type_of% @List.mem_cons:=@List.mem_cons
theorem zX:type_of% @Nat.eq_of_beq_eq_true:=@Nat.eq_of_beq_eq_true
theorem zV:type_of% @List.mem_cons_of_mem:=@List.mem_cons_of_mem
theorem zB:type_of% @Bool.not_true:=@Bool.not_true
theorem zN:type_of% @Array.getElem?_eq_some_iff:=@Array.getElem?_eq_some_iff
theorem zM:type_of% @List.mem_singleton:=@List.mem_singleton
theorem zZ:type_of% @List.take_append_drop:=@List.take_append_drop
theorem zaa:type_of% @List.map_append:=@List.map_append
theorem zab:type_of% @List.drop_eq_getElem_cons:=@List.drop_eq_getElem_cons
theorem zac:type_of% @List.getElem?_cons_succ:=@List.getElem?_cons_succ
theorem zad:type_of% @List.getElem?_cons_zero:=@List.getElem?_cons_zero
theorem zae:type_of% @List.sum_cons:=@List.sum_cons
theorem zaf:type_of% @List.mem_map:=@List.mem_map
theorem zah:type_of% @List.cons_append:=@List.cons_append
theorem zai:type_of% @List.length_take:=@List.length_take
theorem zaj:type_of% @List.getElem?_eq_some_iff:=@List.getElem?_eq_some_iff
theorem zak:type_of% @Bool.not_false:=@Bool.not_false
theorem zal:type_of% @List.map_nil:=@List.map_nil
theorem zam:type_of% @List.getElem?_eq_getElem:=@List.getElem?_eq_getElem
theorem zan:type_of% @List.drop_eq_nil_of_le:=@List.drop_eq_nil_of_le
theorem zao:type_of% @Nat.zero_le:=@Nat.zero_le
theorem zaq:type_of% @List.length_drop:=@List.length_drop
theorem zar:type_of% @List.getElem_mem:=@List.getElem_mem
theorem zas:type_of% @List.all_eq_true:=@List.all_eq_true
theorem zat:type_of% @List.getElem?_drop:=@List.getElem?_drop
theorem zau:type_of% @Array.getD_eq_getD_getElem?:=@Array.getD_eq_getD_getElem?
theorem zav:type_of% @List.getElem?_toArray:=@List.getElem?_toArray
theorem zaw:type_of% @Option.map_eq_some_iff:=@Option.map_eq_some_iff
theorem zax:type_of% @Nat.add_mul:=@Nat.add_mul
theorem zay:type_of% @Nat.mul_le_mul_right:=@Nat.mul_le_mul_right
theorem zaz:type_of% @List.mem_append:=@List.mem_append
theorem zaA:type_of% @List.sum_nil:=@List.sum_nil
theorem zaB:type_of% @List.getElem?_take:=@List.getElem?_take
theorem zaC:type_of% @Nat.le_trans:=@Nat.le_trans
theorem zaD:type_of% @Array.getElem?_eq_getElem:=@Array.getElem?_eq_getElem
theorem zaE:type_of% @List.cons.injEq:=@List.cons.injEq
theorem zaF:type_of% @List.nil_append:=@List.nil_append
theorem zaG:type_of% @List.not_mem_nil:=@List.not_mem_nil
theorem zaH:type_of% @List.flatMap_cons:=@List.flatMap_cons
theorem zaI:type_of% @Array.getElem?_setIfInBounds_ne:=@Array.getElem?_setIfInBounds_ne
theorem zaJ:type_of% @Bool.or_eq_true:=@Bool.or_eq_true
theorem zaK:type_of% @List.append_nil:=@List.append_nil
theorem zaL:type_of% @Bool.not_eq_true':=@Bool.not_eq_true'
theorem zaM:type_of% @Option.bind_eq_some_iff:=@Option.bind_eq_some_iff
theorem zaN:type_of% @Prod.mk.injEq:=@Prod.mk.injEq
theorem zaO:type_of% @Array.getElem?_append_left:=@Array.getElem?_append_left
theorem zaP:type_of% @Int.fdiv_eq_ediv_of_nonneg:=@Int.fdiv_eq_ediv_of_nonneg
theorem zaQ:type_of% @List.mem_range:=@List.mem_range
theorem zaR:type_of% @List.sum_append:=@List.sum_append
theorem zaS:type_of% @Nat.zero_add:=@Nat.zero_add
theorem zaT:type_of% @List.mem_append_right:=@List.mem_append_right
theorem zaU:type_of% @List.length_map:=@List.length_map
theorem zaV:type_of% @List.length_tail:=@List.length_tail
theorem zaW:type_of% @List.getD_cons_zero:=@List.getD_cons_zero
theorem zaX:type_of% @List.nodup_cons:=@List.nodup_cons
theorem zaY:type_of% @Array.mem_of_getElem?:=@Array.mem_of_getElem?
theorem zaZ:type_of% @Option.isSome_some:=@Option.isSome_some
theorem zba:type_of% @Bool.false_or:=@Bool.false_or
theorem zbb:type_of% @Nat.min_eq_left:=@Nat.min_eq_left
theorem zbc:type_of% @List.all_append:=@List.all_append
theorem zbd:type_of% @List.perm_middle:=@List.perm_middle
theorem zbe:type_of% @Nat.lt_succ_self:=@Nat.lt_succ_self
theorem zbf:type_of% @List.isEmpty_iff:=@List.isEmpty_iff
theorem zbg:type_of% @List.all_cons:=@List.all_cons
theorem zbh:type_of% @List.getD_cons_succ:=@List.getD_cons_succ
theorem zbi:type_of% @Nat.le_add_right:=@Nat.le_add_right
theorem zbj:type_of% @List.set_cons_succ:=@List.set_cons_succ
theorem zbk:type_of% @List.pairwise_cons:=@List.pairwise_cons
theorem zbl:type_of% @List.Perm.append_left:=@List.Perm.append_left
theorem zbm:type_of% @List.isPrefixOf_iff_prefix:=@List.isPrefixOf_iff_prefix
theorem zbn:type_of% @Nat.add_assoc:=@Nat.add_assoc
theorem zbo:type_of% @List.nodup_append:=@List.nodup_append
theorem zbp:type_of% @Int.toNat_natCast:=@Int.toNat_natCast
theorem zbq:type_of% @List.flatten_cons:=@List.flatten_cons
theorem zbr:type_of% @Nat.blt_eq:=@Nat.blt_eq
theorem zbs:type_of% @List.drop_drop:=@List.drop_drop
theorem zbt:type_of% @List.mapM_cons:=@List.mapM_cons
theorem zbu:type_of% @Nat.le_of_lt:=@Nat.le_of_lt
theorem zbv:type_of% @Option.bind_some:=@Option.bind_some
theorem zbw:type_of% @Nat.beq_refl:=@Nat.beq_refl
theorem zbx:type_of% @List.flatMap_append:=@List.flatMap_append
theorem zE {P:Prop}(h:P:=by repeat (first|exact Ext.refl _|assumption|refine Ext.trans ?_ (by assumption))):P:=h
theorem zT {P:Prop}(h:P:=by first|assumption|exact TL.mono (by assumption) zE):P:=h
theorem zC {P:Prop}(h:P:=by first|assumption|exact RL.nil none 0|exact ExL.k (by assumption)|exact ExL.mono (by assumption) zE|exact ExL.k (ExL.mono (by assumption) zE)):P:=h
theorem zU:(∀{α:Type}(a b:List α),(a++b).length=a.length+b.length)∧(∀{α:Type}(a:α)(l:List α),(a::l).length=l.length+1)∧(∀{α:Type},([]:List α).length=0):=⟨λ_ _=>zk,λ_ _=>rfl,rfl⟩
theorem zL {P:Prop}(h:P:=by simp only [zU];omega):P:=h
theorem zA {P:Prop}(h:P:=by assumption):P:=h
theorem zO {P:Prop}(h:P:=by repeat (first|exact out_okP|exact out_bad|(with_reducible assumption)|(with_reducible refine out_itF zA ?_)|(with_reducible refine out_itY zA ?_)|(with_reducible refine out_cmpN zA ?_)|(with_reducible refine out_seq zA ?_)|(with_reducible refine out_starN zA ?_)|(with_reducible refine out_litY zA ?_)|(with_reducible refine out_kY zA ?_)|(with_reducible refine out_kN zA ?_)|(with_reducible refine out_seeY (by first|assumption|rfl) zA ?_)|(with_reducible refine out_seeN (by first|exact .inr zA|exact .inl zA|exact .inl (zg.2 zA)) ?_)|(with_reducible refine out_litF zA ?_)|(with_reducible refine out_itcY zA zA ?_)|(with_reducible refine out_itcN (by first|exact .inr zA|exact .inl zA) ?_)|exact out_badP zA|exact out_negT zA|exact out_negF)):P:=h
theorem zD {P:Prop}(h:P:=by first|assumption|exact TD.mono zA zE):P:=h
abbrev Imm:=Nat→Option Obj
abbrev LH:=List (Nat×Obj)
abbrev M:=Imm→LH→Prop
inductive Df where
 |col (D:Nat)
 |fn (f:Nat) (cap args:List Value)
def dfs:List Df→List Deferred
 |[]=>[]
 | .col D::r=>{target:=.collected D,args:=#[]}::dfs r
 | .fn f cap args::r=>{target:=.fn (.func f) cap.toArray,args:=args.toArray}::dfs r
structure Env where
 t:Nat→Option Value
 df:List Df
structure Om where
 tape:Nat→Question→Nat
 os:Os
 out:Array (Nat×ByteArray)
 dr:Nat
structure St (ω:Om)(w:World)(I:Imm)(L:LH):Prop where
 imm:∀b o,I b=some o→w.heap[b]? =some o
 own:∀b o,(b,o)∈L→w.heap[b]? =some o
 nodup:(L.map Prod.fst).Nodup
 apart:∀b o,(b,o)∈L→I b=none
 tape:w.tape=ω.tape
 os:w.os=ω.os
 out:w.output=ω.out
 dr:ω.dr≤w.drawn
def Ext (I I':Imm):Prop:=∀b o,I b=some o→I' b=some o
theorem Ext.refl (I:Imm):Ext I I:=λ_ _ h=>h
theorem zAC:type_of% @Ext.refl:=@Ext.refl
theorem Ext.trans {I J K:Imm}(h:Ext I J)(h':Ext J K):Ext I K:=λb o hb=>h' b o (h b o hb)
theorem zAB:type_of% @Ext.trans:=@Ext.trans
theorem St.drew {ω:Om}{w:World}{I:Imm}{L:LH}(h:St ω w I L){n:Nat}(hn:w.drawn≤n):St ω {w with drawn:=n} I L:=
 ⟨h.imm,h.own,h.nodup,h.apart,h.tape,h.os,h.out,zaC h.dr hn⟩
theorem St.lt {ω:Om}{w:World}{I:Imm}{L:LH}(h:St ω w I L){b:Nat}{o:Obj}(hm:(b,o)∈L):b < w.heap.size:=by
 have:=h.own b o hm;exact (zN.1 this).1
theorem St.ltI {ω:Om}{w:World}{I:Imm}{L:LH}(h:St ω w I L){b:Nat}{o:Obj}(hm:I b=some o):b < w.heap.size:=by
 have:=h.imm b o hm;exact (zN.1 this).1
theorem St.push {ω:Om}{w:World}{I:Imm}{L:LH}(h:St ω w I L)(o:Obj):
  St ω {w with heap:=w.heap.push o} I ((w.heap.size,o)::L):=by
 refine ⟨λb o' hb=>?_,λb o' hb=>?_,?_,λb o' hb=>?_,h.tape,h.os,h.out,h.dr⟩
 ·have:=h.imm b o' hb;have hlt:=h.ltI hb;simp only [Array.getElem?_push];rw [if_neg zo];exact this
 ·rcases zK.1 hb with hb|hb
  ·simp only [zaN] at hb;obtain ⟨rfl,rfl⟩:=hb;simp
  ·have:=h.own b o' hb;have hlt:=h.lt hb;simp only [Array.getElem?_push];rw [if_neg zo];exact this
 ·simp only [zF,zaX];refine ⟨λhm=>?_,h.nodup⟩;obtain ⟨⟨b,o'⟩,hm,hb⟩:=zaf.1 hm;have:=h.lt hm;simp only at hb;omega
 ·rcases zK.1 hb with hb|hb
  ·simp only [zaN] at hb;obtain ⟨rfl,rfl⟩:=hb;cases hI:I w.heap.size with
   |none=>rfl
   |some o''=>exact absurd (h.ltI hI) zo
  ·exact h.apart b o' hb
theorem St.perm {ω:Om}{w:World}{I:Imm}{L L':LH}(h:St ω w I L)(hp:L.Perm L'):St ω w I L':=
 ⟨h.imm,λb o hb=>h.own b o (hp.mem_iff.2 hb),(hp.map _).nodup_iff.1 h.nodup,λb o hb=>h.apart b o (hp.mem_iff.2 hb),h.tape,h.os,h.out,h.dr⟩
theorem St.drop {ω:Om}{w:World}{I:Imm}{L L':LH}(h:St ω w I L)(hs:L'.Sublist L):St ω w I L':=
 ⟨h.imm,λb o hb=>h.own b o (hs.subset hb),h.nodup.sublist (hs.map _),λb o hb=>h.apart b o (hs.subset hb),h.tape,h.os,h.out,h.dr⟩
def Imm.put (I:Imm)(b:Nat)(o:Obj):Imm:=λb'=>if b'=b then some o else I b'
theorem St.freeze {ω:Om}{w:World}{I:Imm}{L:LH}{b:Nat}{o:Obj}(h:St ω w I ((b,o)::L)):St ω w (Imm.put I b o) L:=by
 have hb:=h.own b o (zJ ..);refine ⟨λb' o' hb'=>?_,λb' o' hb'=>h.own b' o' (zV _ hb'),(zaX.1 h.nodup).2,λb' o' hb'=>?_,h.tape,h.os,h.out,h.dr⟩
 ·unfold Imm.put at hb';split at hb'
  ·rename_i e;subst e;simp only [zn] at hb';subst hb';exact hb
  ·exact h.imm b' o' hb'
 ·unfold Imm.put;have hn:=(zaX.1 h.nodup).1;rw [if_neg (λe=>hn (by subst e;exact zaf.2 ⟨(b',o'),hb',rfl⟩))];exact h.apart b' o' (zV _ hb')
def Env.upd (e:Env)(d:Option Tmp)(v:Value):Env:=
 match d with
 |none=>e
 |some d=>⟨λt=>if Nat.beq t d then some v else e.t t,e.df⟩
def Env.ev (n:Nat)(e:Env):Operand→Option Value
 | .tmp t=>if Nat.blt t n then e.t t else none
 | .const v=>some v
 | .global g=>some (.pointer (some ⟨g,0,none⟩))
 | .func f=>some (.func (.func f) #[] #[])
structure Rep (n:Nat)(a:Act)(e:Env):Prop where
 size:a.tmps.size=n
 defers:a.defers=dfs e.df
 at':∀t v,t < n→e.t t=some v→a.tmps.getD t undef=v
theorem Rep.ev {n:Nat}{a:Act}{e:Env}(h:Rep n a e){x:Operand}{v:Value}(hx:e.ev n x=some v):a.eval x=v:=by
 cases x with
 |tmp t=>
  simp only [Env.ev] at hx;split at hx
  ·rename_i ht
   exact h.at' t v (by simpa [zbr] using ht) hx
  ·cases hx
 |const u=>simpa [Env.ev,Act.eval] using hx
 |global g=>simpa [Env.ev,Act.eval] using hx
 |func f=>simpa [Env.ev,Act.eval] using hx
theorem Rep.put {n:Nat}{a:Act}{e:Env}(h:Rep n a e)(d:Option Tmp)(v:Value):Rep n (a.put d v) (e.upd d v):=by
 cases d with
 |none=>exact h
 |some d=>
  refine ⟨by simp [Act.put,h.size],by simp [Act.put,h.defers,Env.upd],λt u ht hu=>?_⟩;simp only [Env.upd] at hu;by_cases htd:t=d
  ·subst htd;simp only [zbw,if_true,zn] at hu;subst hu;have:t < a.tmps.size:=by rw [h.size];exact ht
   simp [Act.put,this]
  ·have:Nat.beq t d=false:=by
    cases hb:Nat.beq t d with
    |false=>rfl
    |true=>exact absurd (zX hb) htd
   simp only [this,zl,if_false] at hu;have hh:=h.at' t u ht hu;have hne:d≠t:=λe=>htd e.symm;simp only [Act.put];rw [zau] at hh ⊢;rw [zaI hne];exact hh
theorem Rep.init (args:Array Value)(k:Nat)(e:Env)(n:Nat)(hn:args.size+k=n)(he:∀t v,e.t t=some v→args[t]? =some v)(hd:e.df=[]):
  Rep n {tmps:=args++Array.replicate k undef,defers:=[]} e:=by
 refine ⟨by simp [hn],by rw [hd];rfl,λt v ht hv=>?_⟩;have h:=he t v hv;have hlt:=(zN.1 h).1;rw [zau,zaO hlt,h];rfl
section
variable (P:Program)(ω:Om)
def Ret (K:Value→M)(e:Ending)(w':World):Prop:=∃v I' L',e= .returned v∧St ω w' I' L'∧K v I' L'
def Cal (f:FuncId)(args:Array Value)(K:Value→M):M:=λI L=>∀w,St ω w I L→Calls P f args w (Ret ω K)
def Rd (S:M)(s:Sem Value)(K:Value→M):M:=λI L=>∃v,(∀I' L' w,S I' L'→St ω w I' L'→s.run P w= .ok v w)∧K v I L
end
def F:M:=λ_ _=>False
def Br (v:Value)(A B:M):M:=match v with
 | .bool b=>if b then A else B
 |_=>F
def Gd (v:Value)(want:Bool)(A B:M):M:=match v with
 | .bool b=>if b==want then A else B
 |_=>F
def AQ (S:M)(K:Value→M):Value→M:=λv I L=>S I L∧K v I L
def Bg (B:M→M):M:=λI L=>∃S:M,S I L∧B S I L
def Qi (ws:List Value)(B:M→M):M:=Bg B
theorem OY (A B:M):Br (.bool true) A B=A:=rfl
theorem MB (A B:M):Br (.bool false) A B=B:=rfl
theorem AL {b:Bool}{A B:M}{I:Imm}{L:LH}(ht:b=true→A I L)(hf:b=false→B I L):Br (.bool b) A B I L:=by
 cases b
 ·exact hf rfl
 ·exact ht rfl
theorem BX {b want:Bool}{A B:M}{I:Imm}{L:LH}(ht:b=want→A I L)(hf:b≠want→B I L):Gd (.bool b) want A B I L:=by
 unfold Gd;by_cases h:b=want
 ·simp only [h,beq_self_eq_true,if_true];exact ht h
 ·simp only [beq_eq_false_iff_ne.2 h,zl,if_false];exact hf h
def Cons (I:Imm)(L:LH):Prop:=(L.map Prod.fst).Nodup∧∀b o,(b,o)∈L→I b=none
theorem St.cons {ω:Om}{w:World}{I:Imm}{L:LH}(h:St ω w I L):Cons I L:=⟨h.nodup,h.apart⟩
def Gh (A:M):M:=λI L=>Cons I L→∃I' L',(∀ω w,St ω w I L→St ω w I' L')∧A I' L'
def gh (K:Value→M):Value→M:=λv=>Gh (K v)
theorem LM {K:Value→M}{ω:Om}{w:World}{v:Value}{I:Imm}{L:LH}(hs:St ω w I L)(h:gh K v I L):∃I' L',St ω w I' L'∧K v I' L':=by
 obtain ⟨I',L',h1,h2⟩:=h hs.cons;exact ⟨I',L',h1 ω w hs,h2⟩
def Aq {σ:Type}(s0:σ)(B:σ→(σ→M)→M):M:=λI L=>
 ∃(Inv:Nat→σ→M) (m:Nat),Inv m s0 I L∧∀m s I' L',Inv m s I' L'→B s (λs'=>Gh λI2 L2=>∃m',m' < m∧Inv m' s' I2 L2) I' L'
def Ae (k:Nat):Value→Option Value
 | .pointer (some ⟨b,off,none⟩)=>some (.pointer (some ⟨b,off+k,none⟩))
 |_=>none
def Ad:Value→Option Value
 | .pointer none=>none
 | .nilIface=>none
 | .nilFunc=>none
 | .func (.method _) _ _=>none
 |v=>some v
def AAl (c a b:Value):Option Value:=match c with
 | .bool t=>some (if t then a else b)
 |_=>none
def Dv (op:BinOp)(k:IntKind)(a b:Int):Int:=
 match op with
 | .and=>k.wrap (BitVec.ofInt k.bits a &&& BitVec.ofInt k.bits b).toNat
 | .or=>k.wrap (BitVec.ofInt k.bits a ||| BitVec.ofInt k.bits b).toNat
 | .xor=>k.wrap (BitVec.ofInt k.bits a ^^^ BitVec.ofInt k.bits b).toNat
 |_=>k.wrap (BitVec.ofInt k.bits a &&& ~~~BitVec.ofInt k.bits b).toNat
def AA (op:BinOp)(x y:Value):Option Value:=
 match op,x,y with
 | .shl,.int k a,.int _ b=>if b < 0 then none else some (.int k (k.wrap (a * 2 ^ (min b.toNat k.bits))))
 | .shr,.int k a,.int _ b=>if b < 0 then none else some (.int k (a.fdiv (2 ^ (min b.toNat k.bits))))
 | .add,.int k a,.int k' b=>if k=k' then some (.int k (k.wrap (a+b))) else none
 | .sub,.int k a,.int k' b=>if k=k' then some (.int k (k.wrap (a - b))) else none
 | .mul,.int k a,.int k' b=>if k=k' then some (.int k (k.wrap (a * b))) else none
 | .quo,.int k a,.int k' b=>if k=k' then (if b=0 then none else some (.int k (k.wrap (a.tdiv b)))) else none
 | .rem,.int k a,.int k' b=>if k=k' then (if b=0 then none else some (.int k (a.tmod b))) else none
 | .and,.int k a,.int k' b=>if k=k' then some (.int k (Dv .and k a b)) else none
 | .or,.int k a,.int k' b=>if k=k' then some (.int k (Dv .or k a b)) else none
 | .xor,.int k a,.int k' b=>if k=k' then some (.int k (Dv .xor k a b)) else none
 | .andNot,.int k a,.int k' b=>if k=k' then some (.int k (Dv .andNot k a b)) else none
 | .eql,.int k a,.int k' b=>if k=k' then some (.bool (a==b)) else none
 | .neq,.int k a,.int k' b=>if k=k' then some (.bool (a != b)) else none
 | .lss,.int k a,.int k' b=>if k=k' then some (.bool (decide (a < b))) else none
 | .leq,.int k a,.int k' b=>if k=k' then some (.bool (decide (a≤b))) else none
 | .gtr,.int k a,.int k' b=>if k=k' then some (.bool (decide (b < a))) else none
 | .geq,.int k a,.int k' b=>if k=k' then some (.bool (decide (b≤a))) else none
 |_,_,_=>none
def Jp (op:BinOp)(x y:Value):Option Value:=
 match op,x,y with
 | .eql,.bool a,.bool b=>some (.bool (a==b))
 | .neq,.bool a,.bool b=>some (.bool (!(a==b)))
 |_,_,_=>none
def BB (op:BinOp)(x y:Value):Option Value:=
 match op,x,y with
 | .add,.string a,.string b=>if a.size+b.size≤9223372036854775807 then some (.string (a++b)) else none
 | .eql,.string a,.string b=>some (.bool (a.toList==b.toList))
 | .neq,.string a,.string b=>some (.bool (!(a.toList==b.toList)))
 | .lss,.string a,.string b=>some (.bool (Op.bytesLess a.toList b.toList))
 | .leq,.string a,.string b=>some (.bool (Op.bytesLess a.toList b.toList||a.toList==b.toList))
 | .gtr,.string a,.string b=>some (.bool (!(Op.bytesLess a.toList b.toList||a.toList==b.toList)))
 | .geq,.string a,.string b=>some (.bool (!(Op.bytesLess a.toList b.toList)))
 |_,_,_=>none
def Gl (op:BinOp)(x y:Value):Option Value:=
 match op,x,y with
 | .eql,.pointer none,.pointer b=>some (.bool b.isNone)
 | .eql,.pointer (some _),.pointer none=>some (.bool false)
 | .neq,.pointer none,.pointer b=>some (.bool (!b.isNone))
 | .neq,.pointer (some _),.pointer none=>some (.bool true)
 | .eql,.pointer (some a),.pointer (some b)=>if a=b then some (.bool true) else none
 | .neq,.pointer (some a),.pointer (some b)=>if a=b then some (.bool false) else none
 |_,_,_=>none
def Hq (op:BinOp)(x y:Value):Option Value:=
 match op,x,y with
 | .eql,.slice none _ _,.slice b _ _=>some (.bool b.isNone)
 | .eql,.slice (some _) _ _,.slice none _ _=>some (.bool false)
 | .neq,.slice none _ _,.slice b _ _=>some (.bool (!b.isNone))
 | .neq,.slice (some _) _ _,.slice none _ _=>some (.bool true)
 |_,_,_=>none
def eqD (d:TypeDesc)(a b:Value):Option Bool:=match d,a,b with
 | .int _,.int k x,.int k' y=>if k=k' then some (x==y) else none
 | .bool,.bool x,.bool y=>some (x==y)
 | .string,.string x,.string y=>some (x.toList==y.toList)
 |_,_,_=>none
def Jm (xs ys:Array Value):List (TypeDesc×Nat)→Option Bool
 |[]=>some true
 |(d,o)::l=>match xs[o]?,ys[o]? with
  |some a,some b=>match eqD d a b,Jm xs ys l with
   |some r,some r'=>some (r&&r')
   |_,_=>none
  |_,_=>none
def Gm (op:BinOp)(l:List (TypeDesc×Nat))(x y:Value):Option Value:=
 match op,x,y with
 | .eql,.agg xs,.agg ys=>(Jm xs ys l).map λr=>.bool r
 | .neq,.agg xs,.agg ys=>(Jm xs ys l).map λr=>.bool !r
 |_,_,_=>none
def unV (op:UnOp)(x:Value):Option Value:=
 match op,x with
 | .not,.bool b=>some (.bool !b)
 | .neg,.int k n=>some (.int k (k.wrap (0 - n)))
 | .xor,.int k n=>some (.int k (Dv .xor k (if k.signed then -1 else k.max) n))
 |_,_=>none
def lenV:Value→Option Value
 | .slice _ n _=>some (.int .i64 n)
 |_=>none
def BP:Value→Option Value
 | .string s=>some (.int .i64 s.size)
 |_=>none
def WQ:Value→Option Value
 | .slice _ _ n=>some (.int .i64 n)
 |_=>none
def AML:Value→Value→Option Value
 | .int k a,.int _ b=>some (.int k (if b < a then b else a))
 |_,_=>none
def AFb:Value→Value→Option Value
 | .int k a,.int _ b=>some (.int k (if b > a then b else a))
 |_,_=>none
def DJ (x:Option Value)(dflt y:Nat):Option Nat:=match x with
 |none=>some dflt
 |some (.int _ i)=>if 0≤i∧i≤y then some i.toNat else none
 |some _=>none
def Bi (n:Nat)(x:Value)(lo hi mx:Option Value):Option Value:=
 match x with
 | .slice a len cap=>
  if hi.isNone&&mx.isSome then none else
  (DJ mx cap cap).bind λm=>(DJ hi len m).bind λh=>(DJ lo 0 h).bind λl=>
   some (.slice (if m=l then a else a.map (·.add (l * n))) (h - l) (m - l))
 |_=>none
def ADP (n len:Nat)(x:Value)(lo hi mx:Option Value):Option Value:=
 match x with
 | .pointer (some a)=>
  if hi.isNone&&mx.isSome then none else
  (DJ mx len len).bind λm=>(DJ hi len m).bind λh=>(DJ lo 0 h).bind λl=>
   some (.slice (some (if m=l then a else a.add (l * n))) (h - l) (m - l))
 |_=>none
def DT (x:Value)(lo hi:Option Value):Option Value:=
 match x with
 | .string s=>(DJ hi s.size s.size).bind λh=>(DJ lo 0 h).bind λl=>some (.string (s.extract l h))
 |_=>none
def ixV (n:Nat)(x i:Value):Option Value:=
 match x,i with
 | .slice (some ⟨b,off,none⟩) len _,.int _ i=>if 0≤i∧i < len then some (.pointer (some ⟨b,off+i.toNat * n,none⟩)) else none
 |_,_=>none
def Ei (x i:Value):Option Value:=
 match x,i with
 | .string s,.int _ i=>if 0≤i then (s[i.toNat]?).map (λb=>.int .u8 b.toNat) else none
 |_,_=>none
def exV (x:Value)(i:Nat):Option Value:=
 match x with
 | .tuple vs=>vs[i]?
 |_=>none
def GG (k:IntKind):Value→Option Value
 | .int _ n=>some (.int k (k.wrap n))
 |_=>none
def ALn:Value→Option Value
 | .string s=>some (.string s)
 |_=>none
def AU (zero:Array Value)(places:Array (Nat×Nat))(parts:List (Nat×Value)):Option Value:=
 (Instr.fill (places[·]?) zero parts).map .agg
def FK (agg:Bool)(off n:Nat):Value→Option Value
 | .agg cs=>if agg then some (.agg (cs.extract off (off+n))) else cs[off]?
 |_=>none
def WV (n:Nat)(zero:Array Value)(parts:List (Nat×Value)):Option Value:=
 (Instr.fill (λi=>some (i * n,n)) zero parts).map .agg
def ACG (agg:Bool)(n len:Nat)(x i:Value):Option Value:=
 match i with
 | .int _ i=>if 0≤i∧i < len then FK agg (i.toNat * n) n x else none
 |_=>none
def MZ (n len:Nat)(x i:Value):Option Value:=
 match x,i with
 | .pointer (some ⟨b,off,none⟩),.int _ i=>if 0≤i∧i < len then some (.pointer (some ⟨b,off+i.toNat * n,none⟩)) else none
 |_,_=>none
def Cell (I:Imm)(L:LH)(b off:Nat)(v:Value):Prop:=∃cs T fr,((b,Obj.cells cs T fr)∈L∨I b=some (Obj.cells cs T fr))∧cs[off]? =some v
def Cells (I:Imm)(L:LH)(b off:Nat)(vs:List Value):Prop:=∀j u,vs[j]? =some u→Cell I L b (off+j) u
def BF (x:Value)(I:Imm)(L:LH)(v:Value):Prop:=∃b off,x= .pointer (some ⟨b,off,none⟩)∧Cell I L b off v
def AB (n:Nat)(x:Value)(I:Imm)(L:LH)(v:Value):Prop:=∃b off vs,x= .pointer (some ⟨b,off,none⟩)∧vs.length=n∧Cells I L b off vs∧v= .agg vs.toArray
def bsR (x:Value)(I:Imm)(L:LH)(v:Value):Prop:=
 (∃a cap,x= .slice a 0 cap∧v= .string .empty)∨
 (∃b off len cap,∃s:List UInt8,x= .slice (some ⟨b,off,none⟩) len cap∧s.length=len∧Cells I L b off (s.map λc=>.int .u8 c.toNat)∧v= .string ⟨s.toArray⟩)
def ptr (b:Nat):Value:=.pointer (some ⟨b,0,none⟩)
def New (o:Obj)(K:Value→M):M:=λI L=>∀b,K (.pointer (some ⟨b,0,none⟩)) I ((b,o)::L)
abbrev one (v:Value):Bool:=v.oneCell'
def wr (cs:Array Value)(off:Nat):List Value→Array Value
 |[]=>cs
 |v::vs=>wr (cs.setIfInBounds off v) (off+1) vs
def Sto (n:Nat)(x v:Value)(K:Value→M):M:=λI L=>
 ∃b off cs T fz L1 L2,x= .pointer (some ⟨b,off,none⟩)∧v.cells.size=n∧(∀u∈v.cells.toList,one u=true)∧off+n≤cs.size∧(fz=(0,0)∨off+n≤fz.1)∧
  L=L1++(b,.cells cs T fz)::L2∧K undef I (L1++(b,.cells (wr cs off v.cells.toList) T fz)::L2)
def MkS (T bytes:Nat)(zero:Array Value)(l c:Value)(K:Value→M):M:=λI L=>
 ∃k k':IntKind,∃ln cn:Nat,l= .int k ln∧c= .int k' cn∧ln≤cn∧cn≤140737488355328∧cn * bytes≤281474976710656∧
  ∀b,K (.slice (some ⟨b,0,none⟩) ln cn) I ((b,.cells (Builtin.zeroCells zero cn) T (0,0))::L)
def AC (T n:Nat)(zero:Array Value)(len:Nat)(parts:List (Nat×Value))(K:Value→M):M:=λI L=>
 ∃cells,Instr.fill (λi=>some (i * n,n)) ((Array.range (len * n)).map (zero[· % zero.size]!)) parts=some cells∧
  ∀b,K (.slice (some ⟨b,0,none⟩) len len) I ((b,.cells cells T (0,0))::L)
def News (n:Nat)(x:Value)(I:Imm)(L:LH)(m:Nat)(news:List Value):Prop:=
 (∃a cap,x= .slice a 0 cap∧m=0∧news=[])∨
 (∃b off cap,x= .slice (some ⟨b,off,none⟩) m cap∧news.length=m * n∧Cells I L b off news)∨
 (∃s:ByteArray,x= .string s∧n=1∧m=s.size∧news=s.data.toList.map λb=>.int .u8 b.toNat)
def App (T n bytes : Nat) (zero : Array Value) (s x : Value) (K : Value → M) : M := λI L =>
  ∃ a len cap m news, s = .slice a len cap ∧ News n x I L m news ∧ (∀ u ∈ news, one u = true) ∧
    ((len + m ≤ cap ∧ news = [] ∧ K (.slice a (len + m) cap) I L) ∨
     (len + m ≤ cap ∧ ∃ b off cs T' L1 L2, a = some ⟨b, off, none⟩ ∧ L = L1 ++ (b, .cells cs T' (0, 0)) :: L2 ∧ off + (len + m) * n ≤ cs.size ∧
        K (.slice a (len + m) cap) I (L1 ++ (b, .cells (wr cs (off + len * n) news) T' (0, 0)) :: L2)) ∨
     (cap < len + m ∧ (len + m) * bytes ≤ 150000000000000 ∧ len + m ≤ 150000000000000 ∧ ∃ olds : List Value, ∃ L0, News n s I L len olds ∧ L0.Sublist L ∧
        ∀ b c, len + m ≤ c → K (.slice (some ⟨b, 0, none⟩) (len + m) c) I ((b, .cells ((olds ++ news).toArray ++ Builtin.zeroCells zero (c - (len + m))) T (0, 0)) :: L0)))
def API (T n bytes : Nat) (zero : Array Value) (s x : Value) (K : Value → M) : M := λI L =>
  ∃ a len cap, ∃ m : Nat, s = .slice a len cap ∧ x = .int .i64 m ∧ (∀ u ∈ zero.toList, one u = true) ∧ m * bytes ≤ 150000000000000 ∧ m ≤ 150000000000000 ∧
    ((len + m ≤ cap ∧ m = 0 ∧ K (.slice a (len + m) cap) I L) ∨
     (len + m ≤ cap ∧ ∃ b off cs T' L1 L2, a = some ⟨b, off, none⟩ ∧ L = L1 ++ (b, .cells cs T' (0, 0)) :: L2 ∧ off + (len + m) * n ≤ cs.size ∧
        K (.slice a (len + m) cap) I (L1 ++ (b, .cells (wr cs (off + len * n) (Builtin.zeroCells zero m).toList) T' (0, 0)) :: L2)) ∨
     (cap < len + m ∧ (len + m) * bytes ≤ 150000000000000 ∧ len + m ≤ 150000000000000 ∧ ∃ olds : List Value, ∃ L0, News n s I L len olds ∧ L0.Sublist L ∧
        ∀ b c, len + m ≤ c → K (.slice (some ⟨b, 0, none⟩) (len + m) c) I ((b, .cells (olds.toArray ++ Builtin.zeroCells zero m ++ Builtin.zeroCells zero (c - (len + m))) T (0, 0)) :: L0)))
def APH (n : Nat) (d x : Value) (K : Value → M) : M := λI L =>
  ∃ a len cap m xs, d = .slice a len cap ∧ News n x I L m xs ∧
    ((min m len = 0 ∧ K (.int .i64 0) I L) ∨
     (∃ b off cs T' L1 L2, a = some ⟨b, off, none⟩ ∧ L = L1 ++ (b, .cells cs T' (0, 0)) :: L2 ∧ off + (min m len) * n ≤ cs.size ∧ (∀ u ∈ xs.take (min m len * n), one u = true) ∧
        K (.int .i64 (min m len : Nat)) I (L1 ++ (b, .cells (wr cs off (xs.take (min m len * n))) T' (0, 0)) :: L2)))
def ARu (zero:Array Value)(x:Value)(K:Value→M):M:=λI L=>
 (∃a cap,x= .slice a 0 cap∧K (.tuple #[]) I L)∨
 (∃b off len cap cs T' L1 L2,x= .slice (some ⟨b,off,none⟩) len cap∧L=L1++(b,.cells cs T' (0,0))::L2∧off+len * zero.size≤cs.size∧(∀u∈zero.toList,one u=true)∧
   K (.tuple #[]) I (L1++(b,.cells (wr cs off (Builtin.zeroCells zero len).toList) T' (0,0))::L2))
def ARq (x:Value)(K:Value→M):M:=λI L=>
 ∃b off len cap cs T' L1 L2,x= .slice (some ⟨b,off,none⟩) len cap∧L=L1++(b,.cells cs T' (0,0))::L2∧K x I (L1++(b,.cells cs T' (cs.size,cs.size+1))::L2)
def ARt (T:Nat)(x:Value)(K:Value→M):M:=λI L=>
 ∃s:ByteArray,x= .string s∧∀b c,s.size≤c→K (.slice (some ⟨b,0,none⟩) s.size c) I ((b,.cells (s.data.map (λb=>.int .u8 b.toNat)++Array.replicate (c - s.size) (.int .u8 0)) T (c,c+1))::L)
def MapAt (I:Imm)(L:LH)(r:Nat)(es:Array MapEntry)(clock:Nat):Prop:=(r,Obj.map es clock)∈L∨I r=some (Obj.map es clock)
def ARr (I:Imm)(L:LH)(x:Value)(es:Array MapEntry):Prop:=(x= .map none∧es=#[])∨∃r clock,x= .map (some r)∧MapAt I L r es clock
def Vm:TypeDesc→Bool
 | .int _=>true
 | .bool=>true
 | .string=>true
 |_=>false
def lkR (kd:TypeDesc)(zero:Value)(ok:Bool)(x k:Value)(I:Imm)(L:LH)(v:Value):Prop:=
 ∃es r,ARr I L x es∧Instr.findNow kd k es.toList 0=some r∧v=(match r with
  |some (_,u)=>if ok then .tuple #[u,.bool true] else u
  |none=>if ok then .tuple #[zero,.bool false] else zero)
def Uk (K:Value→M):M:=λI L=>∀b,K (.map (some b)) I ((b,.map #[] 0)::L)
def GR (kd:TypeDesc)(x k v:Value)(K:Value→M):M:=λI L=>
 ∃r es clock L1 L2 q,x= .map (some r)∧L=L1++(r,.map es clock)::L2∧Instr.findNow kd k es.toList 0=some q∧
  K undef I (L1++(r,match q with
   |some (i,_)=>.map (es.modify i λe=>{e with key:=k,val:=v}) clock
   |none=>.map (es.push {key:=k,val:=v,born:=clock}) (clock+1))::L2)
def ARn (x:Value)(K:Value→M):M:=λI L=>
 (x= .map none∧∀b,K (.pointer (some ⟨b,0,none⟩)) I ((b,.mapIter none 0 #[] 0)::L))∨
 ∃r es clock,x= .map (some r)∧MapAt I L r es clock∧∀b,K (.pointer (some ⟨b,0,none⟩)) I ((b,.mapIter (some r) clock #[] clock)::L)
def AHS (x:Value)(K:Value→M):M:=λI L=>∃s,x= .string s∧∀b,K (.pointer (some ⟨b,0,none⟩)) I ((b,.stringIter s 0)::L)
def ACu (x:Value)(K:Value→M):M:=λI L=>
 ∃(b:Nat) (s:ByteArray) (pos:Nat) (L1 L2:LH),x= .pointer (some ⟨b,0,none⟩)∧L=L1++(b,.stringIter s pos)::L2∧
  if pos < s.size then K (.tuple #[.bool true,.int .i64 pos,.int .i32 (Utf8.decode s pos).1]) I (L1++(b,.stringIter s (pos+(Utf8.decode s pos).2))::L2) else K (.tuple #[.bool false]) I L
def Wx (T:Nat)(zero:Value):Value→Option Value
 | .nilIface=>some (.tuple #[zero,.bool false])
 | .iface t v=>some (if Nat.beq t T then .tuple #[v,.bool true] else .tuple #[zero,.bool false])
 |_=>none
def Nk (lit:Bool)(op:BinOp)(x y:Value):Option Value:=
 match op,x,y with
 | .eql,.iface _ _,.nilIface=>some (.bool false)
 | .neq,.iface _ _,.nilIface=>some (.bool true)
 | .eql,.nilIface,.nilIface=>if lit then some (.bool true) else none
 | .neq,.nilIface,.nilIface=>if lit then some (.bool false) else none
 |_,_,_=>none
def WX (op:BinOp)(x y:Value):Option Value:=
 match op,x,y with
 | .eql,.map none,.map b=>some (.bool b.isNone)
 | .eql,.map (some _),.map none=>some (.bool false)
 | .neq,.map none,.map b=>some (.bool !b.isNone)
 | .neq,.map (some _),.map none=>some (.bool true)
 |_,_,_=>none
def YF:Operand→Bool
 | .const _=>true
 |_=>false
section
variable (P:Program)(ω:Om)
def CU (f:FuncId):Bool:=match P.funcs[f]? with
 | some fn => fn.name != "runtime.NumGoroutine" && fn.body.isSome
 |none=>false
def QO (f:FuncId):Option (Array Value→Sem Value):=match P.funcs[f]? with
 | some fn => if fn.name == "runtime.NumGoroutine" || fn.body.isSome then none else match Extern.findNext fn with
  |some _=>none
  |none=>Extern.find fn
 |none=>none
def ExtE (e:Array Value→Sem Value)(args:Array Value)(K:Value→M):M:=λI L=>∀w,St ω w I L→∃v w' I' L',(e args).run P w= .ok v w'∧St ω w' I' L'∧K v I' L'
def ARm (l:Nat)(args:Array Value)(K:Value→M):M:=λI L=>∀w,St ω w I L→∃f tmps assign body,(Instr.yield l args).run P w= .ok (.round l f tmps assign body) w∧RoundIn Fence.wide 0 P l f tmps assign body w (Ret ω K)
def CalV (x:Value)(args:Array Value)(K:Value→M):M:=match x with
 | .func (.func f) first cap=>if CU P f then Cal P ω f (first++args++cap) K else match QO P f with
  |some e=>ExtE P ω e (first++args++cap) K
  |none=>F
 | .func (.yield l) first cap=>ARm P ω l (first++args) K
 |_=>F
def Ye (K Pn:Value→M)(e:Ending)(w':World):Prop:=∃v I' L',St ω w' I' L'∧((e= .returned v∧K v I' L')∨(e= .panicked [{v,recovered:=false}]∧Pn v I' L'))
def CalP (f:FuncId)(args:Array Value)(K Pn:Value→M):M:=λI L=>∀w,St ω w I L→Calls P f args w (Ye ω K Pn)
def CalVP (x:Value)(args:Array Value)(K Pn:Value→M):M:=match x with
 | .func (.func f) first cap=>if CU P f then CalP P ω f (first++args++cap) K Pn else match QO P f with
  |some e=>ExtE P ω e (first++args++cap) K
  |none=>F
 | .func (.yield l) first cap=>ARm P ω l (first++args) K
 |_=>F
inductive OpV where
 |pure (r:Option Value)
 |read (R:Imm→LH→Value→Prop)
 |eff (E:(Value→M)→M)
 |no
def QM (T f:Nat):Option Nat:=match P.underlying T with
 |some (.struct fs)=>match fs[f]? with
  |some fd=>match P.info? fd.type with
   |some i=>if i.size=0 then none else some fd.offset
   |none=>none
  |none=>none
 |_=>none
def Dy (T:Nat):Bool:=match P.underlying T with
 |some (.struct _)=>true
 |some (.array _ _)=>true
 |_=>false
def Be (T:Nat):Option (Nat×Nat×Array Value):=match P.info? T with
 |some i=>match i.zero with
  |some z=>if z.cells.size=i.size&&Nat.blt 0 i.size then some (i.size,i.bytes,z.cells) else none
  |none=>none
 |none=>none
def IU (T:Nat):Option Nat:=match P.underlying T with
 |some (.slice e)=>some e
 |_=>none
def JH (T:Nat):Option (Array (Nat×Nat)):=match P.underlying T with
 |some (.struct fs)=>fs.mapM λf=>match P.info? f.type with
  |some i=>some (f.offset,i.size)
  |none=>none
 |_=>none
def QK:List Field→Option (List (TypeDesc×Nat))
 |[]=>some []
 | f :: fs => if f.name == "_" then none else match P.underlying f.type, Be P f.type, QK fs with
  |some (.int k),some (1,_,_),some l=>some ((.int k,f.offset)::l)
  |some .bool,some (1,_,_),some l=>some ((.bool,f.offset)::l)
  |some .string,some (1,_,_),some l=>some ((.string,f.offset)::l)
  |_,_,_=>none
def ALZ (op:BinOp)(T:Nat)(fs:List Field)(x y:Value):Option Value:=match P.stoodInHeld T||P.eqGuardType P.depth T with
 |true=>none
 |false=>match QK P fs with
  |some l=>Gm op l x y
  |none=>none
def ALh (x:Value):Imm→LH→Value→Prop:=λI L v=>∃(b off:Nat) (cs:Array Value) (T:Nat) (fr:Nat×Nat),x= .pointer (some ⟨b,off,none⟩)∧(I b=some (.cells cs T fr)∨(b,.cells cs T fr)∈L)∧off < cs.size∧v=x
def ALi (E:Nat)(x:Value):Imm→LH→Value→Prop:=λI L v=>∃(b off:Nat) (cs:Array Value) (T:Nat) (fr:Nat×Nat),x= .pointer (some ⟨b,off,none⟩)∧(I b=some (.cells cs T fr)∨(b,.cells cs T fr)∈L)∧liesAt P P.depth T (cs.size / P.cellsOf T) off E 1=true∧v=x
def ACz (x:Value):Option Value:=match x with
 | .slice none _ _=>some (.pointer none)
 | .slice (some a) _ (_+1)=>some (.pointer (some a))
 |_=>none
def frz (fr:Nat×Nat)(n:Nat):Nat×Nat:=if fr.1==fr.2 then (0,0+n) else (min fr.1 0,max fr.2 (0+n))
def APF (E:Nat)(x y:Value)(K:Value→M):M:=λI L=>
 (∃p,x= .pointer p∧y= .int .i64 0∧K (.string ⟨#[]⟩) I L)∨
 (∃(b:Nat) (cs:Array Value) (fr:Nat×Nat) (l:List UInt8) (L1 L2:LH),x= .pointer (some ⟨b,0,none⟩)∧y= .int .i64 l.length∧l≠[]∧l.length≤cs.size∧l.length≤9223372036854775807∧L=L1++(b,.cells cs E fr)::L2∧
  (∀(j:Nat) (u:UInt8),l[j]? =some u→cs[j]? =some (.int .u8 u.toNat))∧K (.string ⟨l.toArray⟩) I (L1++(b,.cells cs E (frz fr l.length))::L2))
def opt {α:Type}(x:Option α)(f:α→OpV):OpV:=match x with
 |some a=>f a
 |none=>.no
def evs (ρ:Operand→Option Value):List Operand→Option (List Value)
 |[]=>some []
 |x::xs=>match ρ x with
  |some v=>match evs ρ xs with
   |some vs=>some (v::vs)
   |none=>none
  |none=>none
def ACV (ρ:Operand→Option Value):List (Nat×Operand)→Option (List (Nat×Value))
 |[]=>some []
 |(i,x)::xs=>match ρ x with
  |some v=>match ACV ρ xs with
   |some vs=>some ((i,v)::vs)
   |none=>none
  |none=>none
def evo (ρ:Operand→Option Value):Option Operand→Option (Option Value)
 |none=>some none
 |some x=>match ρ x with
  |some v=>some (some v)
  |none=>none
def opv (ρ:Operand→Option Value)(op:Op):OpV:=
 match op with
 | .move x=>opt (ρ x) λv=>.pure (some v)
 | .assign x=>opt (ρ x) λv=>.pure (some v)
 | .pick c a b=>opt (ρ c) λc=>opt (ρ a) λa=>opt (ρ b) λb=>.pure (AAl c a b)
 | .nilCheck x=>opt (ρ x) λv=>.pure (Ad v)
 | .fieldAddr T x f=>opt (ρ x) λv=>opt (QM P T f) λk=>.pure (Ae k v)
 | .binOp op T x y _=>opt (ρ x) λa=>opt (ρ y) λb=>match P.underlying T with
  |some (.int _)=>.pure (AA op a b)
  |some .string=>.pure (BB op a b)
  |some .bool=>.pure (Jp op a b)
  |some (.pointer E)=>opt (P.info? E) λ_=>.pure (Gl op a b)
  |some (.slice _)=>.pure (Hq op a b)
  |some (.struct fs)=>.pure (ALZ P op T fs.toList a b)
  |_=>.no
 | .unOp op _ x=>opt (ρ x) λv=>.pure (unV op v)
 | .extract x i=>opt (ρ x) λv=>.pure (exV v i)
 | .convert src dst x=>opt (ρ x) λv=>match P.underlying src,P.underlying dst with
  |some (.int _),some (.int k)=>.pure (GG k v)
  |some (.slice e),some .string=>match P.underlying e with
   |some (.int .u8)=>.read (bsR v)
   |_=>.no
  |some (.slice _),some (.slice e)=>match P.underlying e with
   |some (.int .u8)=>if Nat.beq src dst then .eff (ARq v) else .no
   |_=>.no
  |some .string,some (.slice e)=>match P.underlying e with
   |some (.int .u8)=>.eff (ARt e v)
   |_=>.no
  |some .string,some .string=>.pure (ALn v)
  |some (.pointer E),some .unsafePointer=>opt (P.info? E) λj=>if Nat.beq j.size 0 then .no else .read (ALh v)
  |some .unsafePointer,some (.pointer E)=>opt (P.info? E) λ_=>.read (ALi P E v)
  |_,_=>.no
 | .indexAddr T x i=>opt (ρ x) λv=>opt (ρ i) λi=>match P.underlying T with
  |some (.slice E)=>opt (Be P E) λ(n,_,_)=>.pure (ixV n v i)
  |some (.array len E)=>opt (Be P E) λ(n,_,_)=>.pure (MZ n len v i)
  |_=>.no
 | .index T x i=>opt (ρ x) λv=>opt (ρ i) λi=>match P.underlying T with
  |some .string=>.pure (Ei v i)
  |some (.array len E)=>opt (P.underlying E) λ_=>opt (Be P E) λ(n,_,_)=>.pure (ACG (Dy P E) n len v i)
  |_=>.no
 | .slice T x lo hi mx=>opt (ρ x) λv=>opt (evo ρ lo) λlo=>opt (evo ρ hi) λhi=>opt (evo ρ mx) λmx=>match P.underlying T with
  |some .string=>if mx.isSome then .no else .pure (DT v lo hi)
  |some (.slice E)=>opt (Be P E) λ(n,_,_)=>.pure (Bi n v lo hi mx)
  |some (.array len E)=>opt (Be P E) λ(n,_,_)=>.pure (ADP n len v lo hi mx)
  |_=>.no
 | .build T parts=>opt (ACV ρ parts.toList) λps=>opt (Be P T) λ(_,_,z)=>match P.underlying T with
  |some (.array _ E)=>opt (Be P E) λ(n,_,_)=>.pure (WV n z ps)
  |_=>opt (JH P T) λpl=>.pure (AU z pl ps)
 | .field T x f=>opt (ρ x) λv=>match P.underlying T with
  |some (.struct fs)=>match fs[f]? with
   |some fd=>opt (P.underlying fd.type) λ_=>opt (Be P fd.type) λ(n,_,_)=>.pure (FK (Dy P fd.type) fd.offset n v)
   |none=>.no
  |_=>.no
 | .makeFunc fn first cap=>opt (evs ρ first.toList) λfi=>opt (evs ρ cap.toList) λca=>.pure (some (.func fn fi.toArray ca.toArray))
 | .load T x=>opt (ρ x) λv=>if Dy P T then opt (Be P T) λ(n,_,_)=>.read (AB n v) else (match P.underlying T with
  |some _=>.read (BF v)
  |none=>.no)
 | .alloc T=>opt (Be P T) λ(_,_,z)=>.eff (New (.cells z T (0,0)))
 | .box T x=>opt (ρ x) λv=>.eff (New (.cells v.cells T (0,0)))
 | .store T x y=>opt (ρ x) λx=>opt (ρ y) λy=>opt (Be P T) λ(n,_,_)=>.eff (Sto n x y)
 | .makeSlice T l c=>opt (ρ l) λl=>opt (ρ c) λc=>opt (IU P T) λE=>opt (Be P E) λ(_,by',z)=>.eff (MkS E by' z l c)
 | .buildSlice T len parts=>opt (ACV ρ parts.toList) λps=>opt (IU P T) λE=>opt (Be P E) λ(n,_,z)=>
   if len * n≤16777216 then .eff (AC E n z len ps) else .no
 | .call {callee:=.value f,args,.. }=>opt (ρ f) λf=>opt (evs ρ args.toList) λvs=>.eff (CalV P ω f vs.toArray)
 | .call {callee:=.builtin .len,args,argTypes}=>match args.toList,argTypes.toList with
  |[x],[T]=>opt (ρ x) λv=>match P.underlying T with
   |some (.slice _)=>.pure (lenV v)
   |some .string=>.pure (BP v)
   |some (.array n _)=>.pure (some (.int .i64 n))
   |_=>.no
  |_,_=>.no
 | .call {callee:=.builtin .cap,args,argTypes}=>match args.toList,argTypes.toList with
  |[x],[T]=>opt (ρ x) λv=>match P.underlying T with
   |some (.slice _)=>.pure (WQ v)
   |_=>.no
  |_,_=>.no
 | .call {callee:=.builtin .min,args,.. }=>match args.toList with
  |[x,y]=>opt (ρ x) λx=>opt (ρ y) λy=>.pure (AML x y)
  |_=>.no
 | .call {callee:=.builtin .max,args,.. }=>match args.toList with
  |[x,y]=>opt (ρ x) λx=>opt (ρ y) λy=>.pure (AFb x y)
  |_=>.no
 | .call {callee:=.builtin .append,args,argTypes}=>match args.toList,argTypes.toList with
  |[s,x],[T,T']=>opt (ρ s) λs=>opt (ρ x) λx=>opt (IU P T) λE=>opt (Be P E) λ(n,by',z)=>if by'≤1073741824 then (match P.underlying T' with
   |some (.slice _)=>.eff (App E n by' z s x)
   |some .string=>.eff (App E n by' z s x)
   |some (.int _)=>.eff (API E n by' z s x)
   |_=>.no) else .no
  |_,_=>.no
 | .call {callee:=.builtin .copy,args,argTypes}=>match args.toList,argTypes.toList with
  |[s,x],T::_=>opt (ρ s) λs=>opt (ρ x) λx=>opt (IU P T) λE=>opt (Be P E) λ(n,_,_)=>.eff (APH n s x)
  |_,_=>.no
 | .call {callee:=.builtin .clear,args,argTypes}=>match args.toList,argTypes.toList with
  |[x],[T]=>opt (ρ x) λx=>opt (IU P T) λE=>opt (Be P E) λ(_,_,z)=>.eff (ARu z x)
  |_,_=>.no
 | .call {callee:=.builtin .unsafeSliceData,args,.. }=>match args.toList with
  |[x]=>opt (ρ x) λx=>.pure (ACz x)
  |_=>.no
 | .call {callee:=.builtin .unsafeString,args,argTypes}=>match args.toList,argTypes.toList with
  |[x,y],[T,_]=>opt (ρ x) λx=>opt (ρ y) λy=>match P.underlying T with
   |some (.pointer E)=>if Nat.beq (P.cellsOf E) 1 then .eff (APF E x y) else .no
   |_=>.no
  |_,_=>.no
 |_=>.no
def QC (T:Nat):Option (Nat×Nat):=match P.underlying T with
 |some (.map k e)=>some (k,e)
 |_=>none
def mkd (T:Nat)(f:TypeDesc→Nat→OpV):OpV:=opt (QC P T) λ(k,e)=>opt (P.underlying k) λd=>if Vm d then f d e else .no
def znv (E:Nat):Option Value:=match P.info? E with
 |some i=>i.zero
 |none=>none
def IL (T:Nat):Bool:=match P.underlying T with
 |some (.interface _)=>true
 |_=>false
def Ba (pn:Option (Value→M))(ρ:Operand→Option Value)(op:Op):OpV:=
 match op with
 | .call {callee:=.value f,args,.. }=>match pn with
  |none=>opv P ω ρ op
  |some Pn=>opt (ρ f) λf=>opt (evs ρ args.toList) λvs=>.eff (λK=>CalVP P ω f vs.toArray K Pn)
 | .panic x=>match pn with
  |none=>.no
  |some Pn=>opt (ρ x) λv=>match v with
   | .iface _ _=>.eff (λ_=>Pn v)
   |_=>.no
 | .makeMap T none=>opt (QC P T) λ_=>.eff Uk
 | .makeMap T (some r)=>opt (QC P T) λ_=>opt (ρ r) λv=>match v with
  | .int _ _=>.eff Uk
  |_=>.no
 | .lookup T x i ok=>opt (ρ x) λx=>opt (ρ i) λi=>mkd P T λd e=>opt (znv P e) λz=>.read (lkR d z ok x i)
 | .mapUpdate T m k v=>opt (ρ m) λm=>opt (ρ k) λk=>opt (ρ v) λv=>mkd P T λd _=>.eff (GR d m k v)
 | .insert T m k v=>opt (ρ m) λm=>opt (ρ k) λk=>opt (ρ v) λv=>mkd P T λd _=>.eff (GR d m k v)
 | .range T x=>opt (ρ x) λx=>match P.underlying T with
  |some .string=>.eff (AHS x)
  |_=>.no
 | .next x true=>opt (ρ x) λx=>.eff (ACu x)
 | .makeInterface T x=>opt (ρ x) λv=>if IL P T then .no else opt (P.underlying T) λ_=>.pure (some (.iface T v))
 | .typeAssert x _ T true=>opt (ρ x) λv=>if IL P T then .no else opt (P.underlying T) λ_=>opt (znv P T) λz=>.pure (Wx T z v)
 | .binOp op T x y U=>if IL P T then opt (ρ x) λa=>opt (ρ y) λb=>.pure (Nk (YF x||YF y) op a b) else match QC P T with
  |some _=>opt (ρ x) λa=>opt (ρ y) λb=>.pure (WX op a b)
  |none=>opv P ω ρ (.binOp op T x y U)
 |_=>opv P ω ρ op
def Pv (r:Option Value)(K:Value→M):M:=match r with
 |some v=>K v
 |none=>F
def Rv (S:Option M)(R:Imm→LH→Value→Prop)(K:Value→M):M:=match S with
 |none=>λI L=>∃v,R I L v∧K v I L
 |some S=>λI L=>∃v,(∀I' L',S I' L'→R I' L' v)∧K v I L
def kp (S:Option M)(need:Bool)(K:Value→M):Value→M:=match S with
 |none=>K
 |some S=>if need then AQ S K else K
def opk (op:Op):Nat:=match op with
 | .load _ _=>1
 | .convert src dst _=>match P.underlying src,P.underlying dst with
  |some (.slice _),some .string=>1
  |some (.slice _),some (.slice _)=>2
  |some .string,some (.slice _)=>2
  |some (.pointer _),some .unsafePointer=>1
  |some .unsafePointer,some (.pointer _)=>1
  |_,_=>0
 | .alloc _=>2
 | .box _ _=>2
 | .store _ _ _=>2
 | .makeSlice _ _ _=>2
 | .buildSlice _ _ _=>2
 | .makeMap _ _=>2
 | .lookup _ _ _ _=>1
 | .entry _=>1
 | .mapUpdate _ _ _ _=>2
 | .insert _ _ _ _=>2
 | .range _ _=>2
 | .next _ _=>2
 | .panic _=>2
 | .call {callee:=.builtin .delete,.. }=>2
 | .call {callee:=.builtin .len,argTypes,.. }=>match argTypes.toList with
  |[T]=>match QC P T with
   |some _=>1
   |none=>0
  |_=>0
 | .call {callee:=.value _,.. }=>2
 | .call {callee:=.builtin .append,.. }=>2
 | .call {callee:=.builtin .copy,.. }=>2
 | .call {callee:=.builtin .clear,.. }=>2
 | .call {callee:=.builtin .unsafeString,.. }=>2
 |_=>0
def chk (S:Option M)(k k':Nat)(A:M):M:=if !S.isSome||Nat.beq k k' then A else F
def Oi (pn:Option (Value→M))(S:Option M)(need:Bool)(ρ:Operand→Option Value)(op:Op)(K:Value→M):M:=
 match Ba P ω pn ρ op with
 | .pure r=>chk S (opk P op) 0 (Pv r K)
 | .read R=>chk S (opk P op) 1 (Rv S R K)
 | .eff E=>chk S (opk P op) 2 (E (gh (kp S need K)))
 | .no=>F
abbrev Pnf:=Option (List Df→Value→M)
def MR (pn:Pnf)(e:Env):Option (Value→M):=match pn with
 |none=>none
 |some p=>some (p e.df)
def ACJ (ops:Array Oper)(g:Nat):Option Tmp:=(ops[g]?).bind (·.dst)
abbrev Md:=List (Tmp×Bool×Bool)
def dec:Md→Tmp→Bool→Option Bool
 |[],_,_=>none
 |(t',want',b)::r,t,want=>if Nat.beq t' t&&(want'==want) then some b else dec r t want
def forget (d:Option Tmp)(md:Md):Md:=match d with
 |some d=>md.filter λf=> !Nat.beq f.1 d
 |none=>md
def skd (n:Nat)(d:Option Tmp)(md:Md):Md:=match d with
 |some t=>if Nat.blt t n then (t,true,false)::(t,false,false)::forget d md else forget d md
 |none=>md
def skM (S:Option M)(need:Bool)(k:Nat)(A:M):M:=match S with
 |none=>A
 |some S=>if need&&Nat.beq k 2 then (λI L=>S I L∧A I L) else A
def Env.df' (e:Env)(d:List Df):Env:=⟨e.t,d⟩
def dfr (ρ:Operand→Option Value)(op:Op):Option Df:=match op with
 | .defer {callee:=.value f,args,.. }=>match ρ f,evs ρ args.toList with
  |some (.func (.func g) first cap),some vs=>if CU P g then some (.fn g cap.toList (first.toList++vs)) else none
  |_,_=>none
 |_=>none
def Dw (pn:Pnf)(S:Option M)(nd:Nat→Bool)(n:Nat)(ops:Array Oper):Nat→Md→List Oper→Env→(Env→M)→M
 |_,_,[],e,K=>K e
 |i,md,o::rest,e,K=>
  match o.guard with
  |none=>match dfr P (e.ev n) o.op with
   |some d=>if S.isNone then Dw pn S nd n ops (i+1) (forget o.dst md) rest ((e.upd o.dst undef).df' (d::e.df)) K else F
   |none=>Oi P ω (MR pn e) S (nd i) (e.ev n) o.op (λv=>Dw pn S nd n ops (i+1) (forget o.dst md) rest (e.upd o.dst v) K)
  |some (g,want)=>
   match ACJ ops g with
   |none=>F
   |some t=>
    match dec md t want with
    |some true=>Oi P ω (MR pn e) S (nd i) (e.ev n) o.op (λv=>Dw pn S nd n ops (i+1) (forget o.dst md) rest (e.upd o.dst v) K)
    |some false=>skM S (nd i) (opk P o.op) (Dw pn S nd n ops (i+1) (skd n o.dst md) rest (e.upd o.dst undef) K)
    |none=>
     match e.ev n (.tmp t) with
     |none=>F
     |some v=>Gd v want
       (Oi P ω (MR pn e) S (nd i) ((e.upd (some t) (.bool want)).ev n) o.op (λv=>Dw pn S nd n ops (i+1) (forget o.dst ((t,want,true)::md)) rest ((e.upd (some t) (.bool want)).upd o.dst v) K))
       (skM S (nd i) (opk P o.op) (Dw pn S nd n ops (i+1) (skd n o.dst ((t,want,false)::md)) rest ((e.upd (some t) (.bool !want)).upd o.dst undef) K))
def reach (ops:Array Oper):Nat→Nat→Nat→Bool
 |0,_,_=>false
 |f+1,i,j=>match ops[i]? with
  |none=>false
  |some o=>o.after.any λe=>Region.binds .any e&&(Nat.beq e.on j||(Nat.blt j e.on&&reach ops f e.on j))
def DL (ops:Array Oper)(i:Nat):Nat:=match ops[i]? with
 |some o=>opk P o.op
 |none=>0
def Xy (ops:Array Oper)(i:Nat):Bool:=(List.range ops.size).any λj=>Nat.beq (DL P ops j) 1&& !Nat.beq i j&& !reach ops ops.size i j
def UB (ops:Array Oper):Bool:=
 Region.noSelect ops&&
 (List.range ops.size).all λi=>match ops[i]? with
  |none=>false
  |some oi=>
   (oi.after.all λe=> !Region.binds .any e||Nat.blt e.on i)&&
   (List.range i).all λj=>match ops[j]? with
    |none=>false
    |some oj=>reach ops ops.size i j||(oj.apart ops oi&&oi.apart ops oj&& !(Nat.beq (opk P oi.op) 2&&Nat.beq (opk P oj.op) 2))
def AEy (rc:Nat→Nat→Bool)(i:Nat)(l:List Nat):Bool:=l.all λj=>Nat.beq j i|| !rc i j
def APJ:List M→M
 |[]=>F
 |[A]=>A
 |A::B::r=>λI L=>A I L∧APJ (B::r) I L
def Ej (ops:Array Oper)(i:Nat):Nat:=if Nat.beq (DL P ops i) 1&&(List.range ops.size).any (λj=>Nat.beq (DL P ops j) 2&&reach ops ops.size i j) then 2 else DL P ops i
def AFT (ops:Array Oper)(i:Nat):Bool:=(List.range ops.size).any λj=>Nat.beq (Ej P ops j) 1&& !Nat.beq i j&& !reach ops ops.size i j
def AJF (pn:Option (Value→M))(S:M)(need:Bool)(ρ:Operand→Option Value)(op:Op)(K:Value→M):M:=
 match Ba P ω pn ρ op with
 | .read R=>Rv none R (kp (some S) need K)
 |_=>Oi P ω pn (some S) need ρ op K
def grd (n:Nat)(ops:Array Oper)(o:Oper)(md:Md)(e:Env)(A B:Md→Env→M):M:=
 match o.guard with
 |none=>A md e
 |some (g,want)=>match ACJ ops g with
  |none=>F
  |some t=>match dec md t want with
   |some true=>A md e
   |some false=>B md e
   |none=>match e.ev n (.tmp t) with
    |none=>F
    |some v=>Gd v want (A ((t,want,true)::md) (e.upd (some t) (.bool want))) (B ((t,want,false)::md) (e.upd (some t) (.bool !want)))
def vcG (pn:Pnf)(S:M)(nd:Nat→Bool)(kd:Nat→Nat)(rc:Nat→Nat→Bool)(n:Nat)(ops:Array Oper):Nat→List Nat→Md→Env→(Env→M)→M
 |0,_,_,e,K=>K e
 |f+1,l,md,e,K=>
  match l.find? (λi=> !Nat.beq (kd i) 2&&AEy rc i l) with
  |some i=>match ops[i]? with
   |some o=>grd n ops o md e (λmd e=>Oi P ω (MR pn e) (some S) (nd i) (e.ev n) o.op (λv=>vcG pn S nd kd rc n ops f (l.erase i) (forget o.dst md) (e.upd o.dst v) K))
     (λmd e=>vcG pn S nd kd rc n ops f (l.erase i) (skd n o.dst md) (e.upd o.dst undef) K)
   |none=>F
  |none=>APJ ((l.filter λk=>AEy rc k l).map λk=>match ops[k]? with
   |some o=>grd n ops o md e (λmd e=>AJF P ω (MR pn e) S (nd k) (e.ev n) o.op (λv=>vcG pn S nd kd rc n ops f (l.erase k) (forget o.dst md) (e.upd o.dst v) K))
     (λmd e=>skM (some S) (nd k) 2 (vcG pn S nd kd rc n ops f (l.erase k) (skd n o.dst md) (e.upd o.dst undef) K))
   |none=>F)
def AMS (ops:Array Oper):Bool:=
 Region.noSelect ops&&
 (List.range ops.size).all λi=>match ops[i]? with
  |none=>false
  |some oi=>
   (oi.after.all λe=> !Region.binds .any e||Nat.blt e.on i)&&
   (List.range i).all λj=>match ops[j]? with
    |none=>false
    |some oj=>reach ops ops.size i j||(oj.apart ops oi&&oi.apart ops oj)
def AMF (ops:Array Oper):Bool:=(List.range ops.size).all λi=>(List.range i).all λj=>Nat.beq (DL P ops i) 2|| !Nat.beq (DL P ops j) 2||reach ops ops.size i j
def XM (pn:Pnf)(n:Nat)(ops:Array Oper)(e:Env)(K:Env→M):M:=
 if UB P ops&&(pn.isNone||AMF P ops) then Bg (λS=>Dw P ω pn (some S) (Xy P ops) n ops 0 [] ops.toList e K)
 else if AMS ops then Bg (λS=>vcG P ω pn S (AFT P ops) (Ej P ops) (λi j=>reach ops ops.size i j) n ops ops.size (List.range ops.size) [] e K) else F
def FI:List Oper→List Nat
 |[]=>[]
 |o::l=>match o.dst with
  |some d=>d::FI l
  |none=>FI l
def asg:Code→List Nat
 | .region _ ops _=>FI ops.toList
 | .seq a b=>asg a++asg b
 | .cond _ a b=>asg a++asg b
 | .block _ c=>asg c
 | .loop c=>asg c
 | .scope c=>asg c
 |_=>[]
def FB:List Oper→Bool
 |[]=>true
 |o::l=>(match o.op with
  | .defer _=>false
  |_=>true)&&FB l
def DY:Code→Bool
 | .region _ ops _=>FB ops.toList
 | .seq a b=>DY a&&DY b
 | .cond _ a b=>DY a&&DY b
 | .block _ c=>DY c
 | .loop c=>DY c
 | .scope c=>DY c
 | .rangeFunc _ _ _ _=>false
 |_=>true
def Ja (t:Nat):List Nat→Bool
 |[]=>false
 |x::xs=>Nat.beq t x||Ja t xs
def Tup:List Nat→Type
 |[]=>Unit
 |_::ss=>Value×Tup ss
def YH (e:Env):(ss:List Nat)→Option (Tup ss)
 |[]=>some ()
 |s::ss=>match e.t s with
  |none=>none
  |some v=>match YH e ss with
   |none=>none
   |some r=>some (v,r)
def AET (e:Env):(ss:List Nat)→Tup ss→Env
 |[],_=>e
 |s::ss,r=>(AET e ss r.2).upd (some s) r.1
def clr (e:Env)(l:List Nat):Env:=⟨λt=>if Ja t l then none else e.t t,e.df⟩
def JY (n:Nat)(l:List Nat)(e:Env):List Nat:=(List.range n).filter λt=>Ja t l&&(e.t t).isSome
def onT {ss:List Nat}(r:Option (Tup ss))(K:Tup ss→M):M:=match r with
 |some s=>K s
 |none=>F
def Lp (n:Nat)(l:List Nat)(e:Env)(B:Env→(Env→M)→M):M:=
 onT (YH e (JY n l e)) λs0=>Aq s0 (λs Kn=>B (AET (clr e l) (JY n l e) s) (λe'=>onT (YH e' (JY n l e)) Kn))
abbrev Pnx:=Option (Env→Value→M)
def pnR (pn:Pnx)(e:Env)(ops:Array Oper):Pnf:=match pn with
 |none=>none
 |some p=>some λdf v=>p ⟨(clr e (FI ops.toList)).t,df⟩ v
def vc (pn:Pnx)(n:Nat):Code→(Env→M)→(Nat→Env→M)→(Env→M)→Env→M
 | .skip,K,_,_,e=>K e
 | .label _,K,_,_,e=>K e
 | .region _ ops false,K,_,_,e=>Dw P ω (pnR pn e ops) none (λ_=>false) n ops 0 [] ops.toList e K
 | .region _ ops true,K,_,_,e=>XM P ω (pnR pn e ops) n ops e K
 | .seq a b,K,X,R,e=>vc pn n a (λe'=>vc pn n b K X R e') X R e
 | .cond c t f,K,X,R,e=>match e.ev n c with
  |some v=>Br v (vc pn n t K X R e) (vc pn n f K X R e)
  |none=>F
 | .block id c,K,X,R,e=>vc pn n c K (λi=>if Nat.beq i id then K else X i) R e
 | .loop c,_,X,R,e=>if DY c then Lp n (asg c) e (λe' Kn=>vc pn n c Kn X R e') else F
 | .exit id,_,X,_,e=>X id e
 | .ret,_,_,R,e=>R e
 | .scope c,K,X,R,e=>vc pn n c K X R e
 |_,_,_,_,_=>F
def FX (n:Nat)(e:Env):List ResultVar→(List Value→M)→M
 |[],K=>K []
 | .tmp t::rs,K=>match e.ev n (.tmp t) with
  |some v=>FX n e rs (λvs=>K (v::vs))
  |none=>F
 | .cell t T::rs,K=>match e.ev n (.tmp t),Be P T,P.underlying T with
  |some x,some (m,_,_),some _=>if Dy P T then Rv none (AB m x) (λv=>FX n e rs (λvs=>K (v::vs))) else Rv none (BF x) (λv=>FX n e rs (λvs=>K (v::vs)))
  |_,_,_=>F
def resV:List Value→Value
 |[v]=>v
 |vs=>.tuple vs.toArray
def Tak (D:Nat)(A:M):M:=λI L=>∃L1 L2,L=L1++(D,.deferred (some []))::L2∧A I (L1++L2)
def CalD (f:FuncId)(args:Array Value)(K:Value→M):M:=λI L=>∀w,St ω w I L→CallsDIn Fence.wide 0 P f args .returning w (λe u' w'=>u'= .returning∧Ret ω K e w')
def CalDR (f:FuncId)(args:Array Value)(v:Value)(K:Value→M):M:=λI L=>∀w,St ω w I L→CallsDIn Fence.wide 0 P f args (.panicking [{v,recovered:=false}]) w (λe u' w'=>u'= .panicking [{v,recovered:=true}]∧Ret ω K e w')
def fin:List Df→M→M
 |[],A=>A
 | .col D::r,A=>Tak D (fin r A)
 | .fn f cap args::r,A=>if CU P f then CalD P ω f (args++cap).toArray (gh λ_=>fin r A) else F
def AIb (v:Value):List Df→M→M→M
 |[],_,B=>B
 | .col D::r,A,B=>Tak D (AIb v r A B)
 | .fn f cap args::r,A,_=>if CU P f then CalDR P ω f (args++cap).toArray v (gh λ_=>fin P ω r A) else F
def ACy (pn:Option (Value→M))(fn:Func)(args:List Value)(K:Value→M):M:=match fn.body with
 |none=>F
 |some c=>if Nat.ble args.length fn.ntmps then
   vc P ω (match pn with
    |none=>none
    |some Pn=>some λe v=>AIb P ω v e.df (FX P fn.ntmps e fn.results.toList (λvs=>K (resV vs))) (Pn v)) fn.ntmps c (λe=>fin P ω e.df (FX P fn.ntmps e fn.results.toList (λvs=>K (resV vs)))) (λ_ _=>F)
    (λe=>fin P ω e.df (FX P fn.ntmps e fn.results.toList (λvs=>K (resV vs)))) ⟨λt=>args[t]?,[]⟩ else F
def vcF (fn:Func)(args:List Value)(K:Value→M):M:=ACy P ω none fn args K
def vcP (fn:Func)(args:List Value)(K Pn:Value→M):M:=ACy P ω (some Pn) fn args K
def vcQ (fn:Func)(args:List Value)(K:Value→M):M:=ACy P ω (some λ_=>F) fn args K
def AMC (op:Op):Bool:=match op with
 | .call {callee:=.builtin .recover,.. }=>true
 |_=>false
def vcRl (rv:Value)(n:Nat):List Oper→Env→(Env→M)→M
 |[],_,_=>F
 |o::rest,e,K=>match o.guard with
  |some _=>F
  |none=>if AMC o.op then vcRl2 n rest (e.upd o.dst rv) K else match Ba P ω none (e.ev n) o.op with
   | .pure r=>Pv r λv=>vcRl rv n rest (e.upd o.dst v) K
   |_=>F
where vcRl2 (n:Nat):List Oper→Env→(Env→M)→M
 |[],e,K=>K e
 |o::rest,e,K=>match o.guard with
  |some _=>F
  |none=>match Ba P ω none (e.ev n) o.op with
   | .pure r=>Pv r λv=>vcRl2 n rest (e.upd o.dst v) K
   |_=>F
def vcS (rv:Value)(n:Nat):Code→(Env→M)→(Env→M)→Env→M
 | .seq a b,K,R,e=>vcS rv n a (λe'=>if DY b then vc P ω none n b K (λ_ _=>F) R e' else F) R e
 | .region _ ops false,K,_,e=>vcRl P ω rv n ops.toList e K
 |_,_,_,_=>F
def vcR (rv:Value)(fn:Func)(args:List Value)(K:Value→M):M:=match fn.body with
 |none=>F
 |some c=>if Nat.ble args.length fn.ntmps then
   vcS P ω rv fn.ntmps c (λe=>FX P fn.ntmps e fn.results.toList (λvs=>K (resV vs)))
    (λe=>FX P fn.ntmps e fn.results.toList (λvs=>K (resV vs))) ⟨λt=>args[t]?,[]⟩ else F
end
section
variable {P:Program}{ω:Om}
theorem Cell.cell {w:World}{I:Imm}{L:LH}(h:St ω w I L){b off:Nat}{v:Value}(hc:Cell I L b off v):w.cell? ⟨b,off,none⟩=some v:=by
 obtain ⟨cs,T,fr,hm,hv⟩:=hc;have hb:w.heap[b]? =some (.cells cs T fr):=hm.elim (h.own _ _) (h.imm _ _);simp [World.cell?,hb,hv]
theorem Ce (b off k:Nat):(⟨b,off,none⟩:Addr).add k=⟨b,off+k,none⟩:=by
 unfold Addr.add;split <;> simp_all
theorem Cells.load {w:World}{I:Imm}{L:LH}(h:St ω w I L){b off:Nat}{vs:List Value}(hc:Cells I L b off vs):
  (loadCells ⟨b,off,none⟩ vs.length).run P w= .ok vs.toArray w:=
 run_loadCells_list w _ _ λj v hv=>by rw [Ce];exact (hc j v hv).cell h
theorem AY {T:TypeId}{d:TypeDesc}{w:World}(h:P.underlying T=some d):(underlying T).run P w= .ok d w:=by
 simp [underlying,h]
theorem EC {T:TypeId}{i:TypeInfo}{w:World}(h:P.info? T=some i):(typeInfo T).run P w= .ok i w:=by
 simp [typeInfo,h]
theorem run_sizeOf {T:TypeId}{i:TypeInfo}{w:World}(h:P.info? T=some i):(sizeOf T).run P w= .ok i.size w:=by
 simp [sizeOf,EC h]
theorem DU {T:TypeId}{i:TypeInfo}{z:Value}{w:World}(h:P.info? T=some i)(hz:i.zero=some z):(zeroValue T).run P w= .ok z w:=by
 simp [zeroValue,EC h,hz]
theorem BM {T n by':Nat}{z:Array Value}(h:Be P T=some (n,by',z)):
  ∃i zv,P.info? T=some i∧i.zero=some zv∧zv.cells=z∧i.size=n∧i.bytes=by'∧z.size=n∧0 < n:=by
 unfold Be at h;split at h
 ·rename_i i hi
  split at h
  ·rename_i zv hz
   split at h
   ·rename_i hc
    simp only [zn,zaN] at h;obtain ⟨rfl,rfl,rfl⟩:=h;simp only [zQ,decide_eq_true_eq,zbr] at hc;exact ⟨i,zv,hi,hz,rfl,rfl,rfl,hc.1,hc.2⟩
   ·cases h
  ·cases h
 ·cases h
theorem Dp {T E:Nat}(h:IU P T=some E):P.underlying T=some (.slice E):=by
 unfold IU at h;split at h <;> simp_all
theorem AHw {T f k:Nat}{x v:Value}{w:World}(h:QM P T f=some k)(hv:Ae k x=some v):(Instr.fieldAt T x f).run P w= .ok v w:=by
 unfold QM at h;split at h
 ·rename_i fs hu
  split at h
  ·rename_i fd hf
   split at h
   ·rename_i i hi
    split at h
    ·cases h
    ·rename_i hs
     simp only [zn] at h;subst h;unfold Ae at hv;split at hv
     ·simp only [zn] at hv;subst hv;simp [Instr.fieldAt,AY hu,hf,Instr.sureAddr,fieldPlace,run_sizeOf hi,hs,Ce]
     ·cases hv
   ·cases h
  ·cases h
 ·cases h
theorem AEm {op:BinOp}{T:TypeId}{x y v:Value}{w:World}(hv:AA op x y=some v):(binOp op T x y).run P w= .ok v w:=by
 unfold AA at hv;split at hv <;> (try split at hv) <;> (try split at hv) <;> simp only [zn,reduceCtorEq] at hv <;> subst hv <;>
  simp_all [binOp,Op.shift,Op.intArith,Op.intDiv,Op.intBits,Op.intCmp,Dv]
 all_goals (intro h;omega)
theorem AEi {op:BinOp}{T:TypeId}{x y v:Value}{w:World}(hv:BB op x y=some v):(binOp op T x y).run P w= .ok v w:=by
 unfold BB at hv;split at hv <;> (try split at hv) <;> simp only [zn,reduceCtorEq] at hv <;> subst hv <;>
  simp_all [binOp,Op.stringOp]
 rename_i h
 have:IntKind.i64.max=9223372036854775807:=by decide
 omega
theorem AIf (d:Nat){T:TypeId}{a b:Bool}{w:World}(hu:P.underlying T=some .bool):(Op.equalIn (d+1) T (.bool a) (.bool b)).run P w= .ok (a==b) w:=by
 simp [Op.equalIn,AY hu]
theorem AEo {op:BinOp}{T:TypeId}{x y v:Value}{w:World}(hu:P.underlying T=some .bool)(hv:Jp op x y=some v):(binOp op T x y).run P w= .ok v w:=by
 unfold Jp at hv;split at hv <;> simp only [zn,reduceCtorEq] at hv <;> subst hv <;> simp only [binOp] <;>
  simp [Op.equal,Op.maxDepth,AIf 9999 hu]
theorem JI (d:Nat){T E:TypeId}{w:World}(hu:P.underlying T=some (.pointer E))(b:Option Addr)(a:Addr):
  (Op.equalIn (d+1) T (.pointer none) (.pointer b)).run P w= .ok b.isNone w∧(Op.equalIn (d+1) T (.pointer (some a)) (.pointer none)).run P w= .ok false w:=by
 constructor <;> simp [Op.equalIn,AY hu]
theorem ABA {T E:TypeId}{j:TypeInfo}{w:World}(a:Addr)(hu:P.underlying T=some (.pointer E))(hi:P.info? E=some j)(d:Nat):(Op.equalIn (d+1) T (.pointer (some a)) (.pointer (some a))).run P w= .ok true w:=by
 simp [Op.equalIn,AY hu,sizeOf,typeInfo,hi,run_sameAddr_same]
theorem AEj {op:BinOp}{T E:TypeId}{j:TypeInfo}{x y v:Value}{w:World}(hu:P.underlying T=some (.pointer E))(hi:P.info? E=some j)(hv:Gl op x y=some v):(binOp op T x y).run P w= .ok v w:=by
 unfold Gl at hv;split at hv
 iterate 4
  ·simp only [zn] at hv;subst hv;simp only [binOp];simp [Op.equal,Op.maxDepth,(JI 9999 hu _ default).1,(JI 9999 hu none _).2]
 iterate 2
  ·split at hv
   ·rename_i e;subst e
    simp only [zn] at hv;subst hv;simp only [binOp];simp [Op.equal,Op.maxDepth,ABA _ hu hi 9999]
   ·cases hv
 ·cases hv
theorem AFu (d:Nat){T E:TypeId}{w:World}(hu:P.underlying T=some (.slice E))(b:Option Addr)(a:Addr)(n c n' c':Nat):
  (Op.equalIn (d+1) T (.slice none n c) (.slice b n' c')).run P w= .ok b.isNone w∧(Op.equalIn (d+1) T (.slice (some a) n c) (.slice none n' c')).run P w= .ok false w:=by
 constructor <;> simp [Op.equalIn,AY hu]
theorem AEk {op:BinOp}{T E:TypeId}{x y v:Value}{w:World}(hu:P.underlying T=some (.slice E))(hv:Hq op x y=some v):(binOp op T x y).run P w= .ok v w:=by
 unfold Hq at hv;split at hv <;> simp only [zn,reduceCtorEq] at hv <;> subst hv <;> simp only [binOp] <;>
  simp [Op.equal,Op.maxDepth,(AFu 9999 hu _ default _ _ _ _).1,(AFu 9999 hu none _ _ _ _ _).2]
theorem ALw {op:UnOp}{x v:Value}{w:World}(hv:unV op x=some v):(Op.unary op x).run P w= .ok v w:=by
 unfold unV at hv;split at hv <;> simp only [zn,reduceCtorEq] at hv <;> subst hv <;> simp [Op.unary,Op.intArith,Op.intBits,Dv]
theorem ALz {x v:Value}{i:Nat}{w:World}(hv:exV x i=some v):(Instr.extract x i).run P w= .ok v w:=by
 unfold exV at hv;split at hv
 ·simp [Instr.extract,hv]
 ·cases hv
theorem run_sliceBound {x:Value}{y n:Nat}{code:BoundsCode}{d:Nat}{w:World}(h:DJ (some x) d y=some n):(Instr.sliceBound x y code).run P w= .ok n w:=by
 unfold DJ at h;split at h
 ·cases (‹some x=none›)
 ·rename_i k i hx
  simp only [zn] at hx;subst hx;split at h
  ·rename_i hb
   simp only [zn] at h;subst h;simp [Instr.sliceBound,asIntOf,hb.1,hb.2]
  ·cases h
 ·cases h
theorem AHo {T E n by' : Nat} {z : Array Value} {x v : Value} {lo hi mx : Option Value} {w : World} (hu : P.underlying T = some (.slice E)) (ht : Be P E = some (n, by', z))
    (hv : Bi n x lo hi mx = some v) : (Instr.sliceAt T x lo hi mx).run P w = .ok v w := by
  obtain ⟨i, zv, hi', _, _, hn, _, _, _⟩ := BM ht
  unfold Bi at hv
  split at hv
  · rename_i a len cap
    split at hv
    · cases hv
    · rename_i hc
      simp only [zaM] at hv
      obtain ⟨m, hm, h, hh, l, hl, hv⟩ := hv
      simp only [zn] at hv
      subst hv
      have hb : (Instr.sliceBounds true len cap lo hi mx).run P w = .ok (l, h, m) w := by
        unfold Instr.sliceBounds
        cases mx with
        | none =>
          have hm' : m = cap := by simpa [DJ] using hm.symm
          subst hm'
          cases hi with
          | none =>
            have hh' : h = len := by simpa [DJ] using hh.symm
            subst hh'
            cases lo with
            | none => have : l = 0 := by simpa [DJ] using hl.symm
                      subst this; simp
            | some lo => simp [run_sliceBound hl]
          | some hi =>
            cases lo with
            | none => have : l = 0 := by simpa [DJ] using hl.symm
                      subst this; simp [run_sliceBound hh]
            | some lo => simp [run_sliceBound hl, run_sliceBound hh]
        | some mx =>
          cases hi with
          | none => simp at hc
          | some hi =>
            cases lo with
            | none => have : l = 0 := by simpa [DJ] using hl.symm
                      subst this; simp [run_sliceBound hh, run_sliceBound hm]
            | some lo => simp [run_sliceBound hl, run_sliceBound hh, run_sliceBound hm]
      simp [Instr.sliceAt, AY hu, Instr.slice, hb, run_sizeOf hi', hn]
  · cases hv
theorem AEc {T E n by' len : Nat} {z : Array Value} {x v : Value} {lo hi mx : Option Value} {w : World} (hu : P.underlying T = some (.array len E)) (ht : Be P E = some (n, by', z))
    (hv : ADP n len x lo hi mx = some v) : (Instr.sliceAt T x lo hi mx).run P w = .ok v w := by
  obtain ⟨i, zv, hi', _, _, hn, _, _, _⟩ := BM ht
  unfold ADP at hv
  split at hv
  · rename_i a
    split at hv
    · cases hv
    · rename_i hc
      simp only [zaM] at hv
      obtain ⟨m, hm, h, hh, l, hl, hv⟩ := hv
      simp only [zn] at hv
      subst hv
      have hb : (Instr.sliceBounds false len len lo hi mx).run P w = .ok (l, h, m) w := by
        unfold Instr.sliceBounds
        cases mx with
        | none =>
          have hm' : m = len := by simpa [DJ] using hm.symm
          subst hm'
          cases hi with
          | none =>
            have hh' : h = m := by simpa [DJ] using hh.symm
            subst hh'
            cases lo with
            | none => have : l = 0 := by simpa [DJ] using hl.symm
                      subst this; simp
            | some lo => simp [run_sliceBound hl]
          | some hi =>
            cases lo with
            | none => have : l = 0 := by simpa [DJ] using hl.symm
                      subst this; simp [run_sliceBound hh]
            | some lo => simp [run_sliceBound hl, run_sliceBound hh]
        | some mx =>
          cases hi with
          | none => simp at hc
          | some hi =>
            cases lo with
            | none => have : l = 0 := by simpa [DJ] using hl.symm
                      subst this; simp [run_sliceBound hh, run_sliceBound hm]
            | some lo => simp [run_sliceBound hl, run_sliceBound hh, run_sliceBound hm]
      simp [Instr.sliceAt, AY hu, Instr.sureAddr, asAddr, hb, run_sizeOf hi', hn]
  · cases hv
theorem AEb {T : Nat} {x v : Value} {lo hi : Option Value} {w : World} (hu : P.underlying T = some .string)
    (hv : DT x lo hi = some v) : (Instr.sliceAt T x lo hi none).run P w = .ok v w := by
  unfold DT at hv
  split at hv
  · rename_i s
    simp only [zaM] at hv
    obtain ⟨h, hh, l, hl, hv⟩ := hv
    simp only [zn] at hv
    subst hv
    have hb : (Instr.sliceBounds false s.size s.size lo hi none).run P w = .ok (l, h, s.size) w := by
      unfold Instr.sliceBounds
      cases hi with
      | none =>
        have hh' : h = s.size := by simpa [DJ] using hh.symm
        subst hh'
        cases lo with
        | none => have : l = 0 := by simpa [DJ] using hl.symm
                  subst this; simp
        | some lo => simp [run_sliceBound hl]
      | some hi =>
        cases lo with
        | none => have : l = 0 := by simpa [DJ] using hl.symm
                  subst this; simp [run_sliceBound hh]
        | some lo => simp [run_sliceBound hl, run_sliceBound hh]
    simp [Instr.sliceAt, AY hu, Instr.slice, hb]
  · cases hv
theorem ALy {T E n by':Nat}{z:Array Value}{x i v:Value}{w:World}(hu:P.underlying T=some (.slice E))(ht:Be P E=some (n,by',z))
  (hv:ixV n x i=some v):(Instr.indexAt T x i).run P w= .ok v w:=by
 obtain ⟨inf,zv,hi',_,_,hn,_,_,_⟩:=BM ht;unfold ixV at hv;split at hv
 ·rename_i b off len cap k i
  split at hv
  ·rename_i hb
   simp only [zn] at hv;subst hv;simp [Instr.indexAt,asIntOf,AY hu,hb.1,hb.2,run_sizeOf hi',hn,Ce]
  ·cases hv
 ·cases hv
theorem AHt {T:Nat}{x i v:Value}{w:World}(hu:P.underlying T=some .string)(hv:Ei x i=some v):(Instr.index T x i).run P w= .ok v w:=by
 unfold Ei at hv;split at hv
 ·rename_i s k i
  split at hv
  ·rename_i hb
   obtain ⟨c,hc,rfl⟩:=zaw.1 hv;simp [Instr.index,asIntOf,AY hu,hb,hc]
  ·cases hv
 ·cases hv
theorem Ib:∀(fs:List Field) (pl:List (Nat×Nat)) (w:World),
  (fs.mapM λf=>match P.info? f.type with|some i=>some (f.offset,i.size)|none=>none)=some pl→
  (fs.mapM λf=>(do pure (f.offset,←sizeOf f.type):Sem (Nat×Nat))).run P w= .ok pl w
 |[],pl,w,h=>by simp at h;subst h;simp
 |f::fs,pl,w,h=>by
  simp only [zbt,Option.bind_eq_bind,zaM] at h;obtain ⟨p,hp,ps,hps,h⟩:=h;simp only [Option.pure_def,zn] at h;subst h;split at hp
  ·rename_i i hi
   simp only [zn] at hp;subst hp;have:=Ib fs ps w hps;simp only [zbt,Sem.run_bind,run_sizeOf hi,Result.andThen_ok,Sem.run_pure,this]
  ·cases hp
theorem AIB {T n by':Nat}{z:Array Value}{pl:Array (Nat×Nat)}{parts:Array (Nat×Value)}{v:Value}{w:World}(hp:JH P T=some pl)(ht:Be P T=some (n,by',z))
  (hv:AU z pl parts.toList=some v):(Instr.build T parts).run P w= .ok v w:=by
 obtain ⟨inf,zv,hi',hz,rfl,hn,_,_,_⟩:=BM ht;unfold JH at hp;split at hp
 ·rename_i fs hu
  unfold AU at hv;obtain ⟨cells,hc,rfl⟩:=zaw.1 hv;have hm:(fs.mapM λf=>(do pure (f.offset,←sizeOf f.type):Sem (Nat×Nat))).run P w= .ok pl w:=by
   rw [Array.mapM_eq_mapM_toList] at hp ⊢;simp only [Option.map_eq_map,zaw] at hp;obtain ⟨l,hl,rfl⟩:=hp;have:=Ib (P:=P) fs.toList l w hl;simp only [Sem.run_map,this,Result.andThen_ok]
  simp only [Instr.build,Sem.run_bind,DU hi' hz,Result.andThen_ok,AY hu,hm,hc,Sem.run_pure]
 ·cases hp
theorem PS {T n by' off:Nat}{z cs:Array Value}{v:Value}{w:World}(hU:(P.underlying T).isSome=true)(ht:Be P T=some (n,by',z))
  (hv:FK (Dy P T) off n (.agg cs)=some v):(part T cs off).run P w= .ok v w:=by
 obtain ⟨inf,zv,hi',hz,rfl,hn,_,_,_⟩:=BM ht;unfold FK at hv;simp only at hv
 obtain ⟨d,hd⟩:=Option.isSome_iff_exists.1 hU;unfold part;simp only [Sem.run_bind,isAgg,AY hd,Result.andThen_ok];unfold Dy at hv;rw [hd] at hv;cases d <;> simp_all [run_sizeOf hi']
theorem JG {T:TypeId}{fs:Array Field}(hu:P.underlying T=some (.struct fs)):P.fieldsOf T=fs:=by
 simp [Program.fieldsOf,hu]
theorem AHx {d:Nat}{T:TypeId}{D:TypeDesc}{a b:Value}{r:Bool}{w:World}(hu:P.underlying T=some D)(h:eqD D a b=some r):(Op.equalIn (d+1) T a b).run P w= .ok r w:=by
 unfold eqD at h;split at h
 ·split at h
  ·rename_i hk;subst hk
   simp only [zn] at h;subst h;exact run_equalIn_int w d T _ _ _ _ hu
  ·cases h
 ·simp only [zn] at h;subst h;exact run_equalIn_bool w d T _ _ hu
 ·simp only [zn] at h;subst h;exact run_equalIn_string w d T _ _ hu
 ·cases h
theorem RX {T:TypeId}{D:TypeDesc}{by' off:Nat}{z cs:Array Value}{v:Value}{w:World}(hu:P.underlying T=some D)(hD:Dy P T=false)(ht:Be P T=some (1,by',z))(hv:cs[off]? =some v):(part T cs off).run P w= .ok v w:=
 PS (by rw [hu];rfl) ht (by rw [hD];simpa [FK] using hv)
theorem Hz {d:Nat}{xs ys:Array Value}{w:World}:∀{fs:List Field} {l:List (TypeDesc×Nat)} {r:Bool},QK P fs=some l→Jm xs ys l=some r→(Op.eqFields (d+1) xs ys fs).run P w= .ok r w
 |[],l,r,h,hr=>by
  simp only [QK,zn] at h;subst h;simp only [Jm,zn] at hr;subst hr;simp [Op.eqFields]
 |f::fs,l,r,h,hr=>by
  unfold QK at h;split at h
  ·cases h
  rename_i hn
  have hn' : f.name ≠ "_" := by simpa using hn
  have key:∀{D:TypeDesc} {by':Nat} {z:Array Value} {l':List (TypeDesc×Nat)},P.underlying f.type=some D→Dy P f.type=false→Be P f.type=some (1,by',z)→QK P fs=some l'→l=(D,f.offset)::l'→
    (Op.eqFields (d+1) xs ys (f::fs)).run P w= .ok r w:=by
   intro D by' z l' h1 h2 h3 h4 h5;subst h5;simp only [Jm] at hr;split at hr
   ·rename_i a b ha hb
    split at hr
    ·rename_i r1 r2 e1 e2
     simp only [zn] at hr;subst hr;have i1:=Hz (d:=d) (w:=w) h4 e2;simp only [Op.eqFields,hn',ne_eq,not_false_eq_true,if_true,Sem.run_bind,RX (w:=w) h1 h2 h3 ha,RX (w:=w) h1 h2 h3 hb,AHx (d:=d) (w:=w) h1 e1,Result.andThen_ok];cases r1
     ·simp
     ·simpa using i1
    ·cases hr
   ·cases hr
  split at h <;> simp only [zn,reduceCtorEq] at h
  ·rename_i k _ _ l' h1 h2 h3
   exact key h1 (by simp [Dy,h1]) h2 h3 h.symm
  iterate 2
   ·rename_i _ _ l' h1 h2 h3
    exact key h1 (by simp [Dy,h1]) h2 h3 h.symm
theorem VO {op:BinOp}{T:TypeId}{fs:Array Field}{l:List (TypeDesc×Nat)}{x y v:Value}{w:World}(hu:P.underlying T=some (.struct fs))(hp:P.stoodInHeld T=false)(hl:QK P fs.toList=some l)(hv:Gm op l x y=some v):(binOp op T x y).run P w= .ok v w:=by
 have hu':P.underlying T=some (.struct (P.fieldsOf T)):=by rw [JG hu];exact hu
 unfold Gm at hv;split at hv
 ·obtain ⟨r,hr,rfl⟩:=zaw.1 hv;rw [run_eql_struct,run_equalIn_struct w 9999 T _ _ hu' hp,JG hu,Hz (d:=9998) hl hr];rfl
 ·obtain ⟨r,hr,rfl⟩:=zaw.1 hv;rw [run_neq_struct,run_equalIn_struct w 9999 T _ _ hu' hp,JG hu,Hz (d:=9998) hl hr];rfl
 ·cases hv
theorem AEh {T E len n by' m by2:Nat}{z z2:Array Value}{parts:Array (Nat×Value)}{v:Value}{w:World}(hu:P.underlying T=some (.array len E))(hE:Be P E=some (n,by',z2))(ht:Be P T=some (m,by2,z))
  (hv:WV n z parts.toList=some v):(Instr.build T parts).run P w= .ok v w:=by
 obtain ⟨inf,zv,hi',hz,rfl,hn,_,_,_⟩:=BM ht;obtain ⟨inf2,zv2,hi2,hz2,_,hn2,_,_,_⟩:=BM hE;unfold WV at hv;obtain ⟨cells,hc,rfl⟩:=zaw.1 hv;simp only [Instr.build,Sem.run_bind,DU hi' hz,Result.andThen_ok,AY hu,run_sizeOf hi2,hn2,hc,Sem.run_pure]
theorem AHv {T E len n by':Nat}{z:Array Value}{d:TypeDesc}{x i v:Value}{w:World}(hu:P.underlying T=some (.array len E))(hd:P.underlying E=some d)(ht:Be P E=some (n,by',z))
  (hv:ACG (Dy P E) n len x i=some v):(Instr.index T x i).run P w= .ok v w:=by
 obtain ⟨inf,zv,hi',_,_,hn,_,_,_⟩:=BM ht;unfold ACG at hv;split at hv
 ·rename_i k i
  split at hv
  ·rename_i hb
   cases x with
   |agg cs=>
    have:=PS (P:=P) (w:=w) (by rw [hd];rfl) ht hv;simp [Instr.index,asIntOf,AY hu,hb.1,hb.2,run_sizeOf hi',hn,this]
   |_=>simp [FK] at hv
  ·cases hv
 ·cases hv
theorem AHu {T E len n by':Nat}{z:Array Value}{x i v:Value}{w:World}(hu:P.underlying T=some (.array len E))(ht:Be P E=some (n,by',z))
  (hv:MZ n len x i=some v):(Instr.indexAt T x i).run P w= .ok v w:=by
 obtain ⟨inf,zv,hi',_,_,hn,_,_,_⟩:=BM ht;unfold MZ at hv;split at hv
 ·rename_i b off k i
  split at hv
  ·rename_i hb
   simp only [zn] at hv;subst hv;simp [Instr.indexAt,asIntOf,AY hu,Instr.sureAddr,hb.1,hb.2,run_sizeOf hi',hn,Ce]
  ·cases hv
 ·cases hv
theorem NV {T n by':Nat}{z:Array Value}(ht:Be P T=some (n,by',z))(ha:Dy P T=true){x v:Value}{w:World}{I:Imm}{L:LH}(hs:St ω w I L)(h:AB n x I L v):
  (Instr.loadAt T x).run P w= .ok v w:=by
 obtain ⟨inf,zv,hi',hz,rfl,hn,_,_,_⟩:=BM ht;obtain ⟨b,off,vs,rfl,hl,hc,rfl⟩:=h;have:=Cells.load (P:=P) hs hc;rw [hl] at this;unfold Dy at ha;have hagg:(isAgg T).run P w= .ok true w:=by
  unfold isAgg;split at ha
  iterate 2
   ·rename_i hu;simp [AY hu]
  ·cases ha
 simp [Instr.loadAt,Instr.sureAddr,loadVar,hagg,run_sizeOf hi',hn,this]
theorem NU {T:Nat}{d:TypeDesc}(hd:P.underlying T=some d)(ha:Dy P T=false){x v:Value}{w:World}{I:Imm}{L:LH}(hs:St ω w I L)(h:BF x I L v):
  (Instr.loadAt T x).run P w= .ok v w:=by
 obtain ⟨b,off,rfl,hc⟩:=h;have:=hc.cell hs;unfold Dy at ha;have hagg:(isAgg T).run P w= .ok false w:=by
  unfold isAgg;rw [hd] at ha;cases d <;> simp_all [AY hd]
 simp [Instr.loadAt,Instr.sureAddr,loadVar,hagg,this]
end
section
variable {P:Program}{ω:Om}
theorem XH:∀(vs:List Value) (cs:Array Value) (off j:Nat),off+vs.length≤cs.size→
  (wr cs off vs)[j]? =if j < off then cs[j]? else if j < off+vs.length then vs[j - off]? else cs[j]?
 |[],cs,off,j,_=>by simp only [wr,zH,Nat.add_zero];split <;> rfl
 |v::vs,cs,off,j,h=>by
  simp only [zi] at h;rw [wr,XH vs _ (off+1) j zu];simp only [zi];by_cases h1:j < off
  ·rw [if_pos zo,if_pos h1,zaI zo]
  ·rw [if_neg h1];by_cases h2:j=off
   ·subst h2;rw [if_pos zo,if_pos zo,Array.getElem?_setIfInBounds_self_of_lt zo];simp
   ·rw [if_neg zo,zaI zo];by_cases h3:j < off+1+vs.length
    ·rw [if_pos h3,if_pos zo,show j - off=(j - (off+1))+1 from by omega];simp
    ·rw [if_neg h3,if_neg zo]
theorem Nu:∀(vs:List Value) (cs:Array Value) (off:Nat),(wr cs off vs).size=cs.size
 |[],_,_=>rfl
 |_::vs,_,_=>by rw [wr,Nu vs];simp
theorem Oa (vs:List Value)(cs:Array Value)(off:Nat)(h:off+vs.length≤cs.size):
  wr cs off vs=(cs.toList.take off++vs++cs.toList.drop (off+vs.length)).toArray:=by
 apply Array.ext_getElem?
 intro j;rw [XH vs cs off j h];have hc:cs.toList.length=cs.size:=by simp
 have ht:(cs.toList.take off).length=off:=by rw [zai];omega
 simp only [zav,zt,List.getElem?_append,ht,zat];by_cases h1:j < off
 ·simp [h1]
 ·rw [if_neg h1,if_neg h1];by_cases h2:j < off+vs.length
  ·rw [if_pos h2,if_pos zo]
  ·rw [if_neg h2,if_neg zo,show off+vs.length+(j - off - vs.length)=j from by omega];simp
theorem RS {w:World}{I:Imm}{L1 L2:LH}{b T:Nat}{fr:Nat×Nat}{cs cs':Array Value}(h:St ω w I (L1++(b,.cells cs T fr)::L2)):
  St ω (w.setRow b cs') I (L1++(b,.cells cs' T fr)::L2):=by
 have hb:=h.own b (.cells cs T fr) zy;have hnd:=h.nodup;have hne:∀b' o',(b',o')∈L1∨(b',o')∈L2→b'≠b:=by
  intro b' o' hm e;subst e;simp only [zaa,zF,zbo,zaX] at hnd;rcases hm with hm|hm
  ·exact hnd.2.2 b' (zaf.2 ⟨_,hm,rfl⟩) b' (zJ ..) rfl
  ·exact hnd.2.1.1 (zaf.2 ⟨_,hm,rfl⟩)
 have hat:∀b',b'≠b→(w.setRow b cs').heap[b']? =w.heap[b']? :=by
  intro b' hb';simp only [World.setRow,Array.getElem?_modify];rw [if_neg (λe=>hb' e.symm)]
 refine ⟨λb' o' hb'=>?_,λb' o' hb'=>?_,by simpa using h.nodup,λb' o' hb'=>?_,h.tape,h.os,h.out,h.dr⟩
 ·rw [hat b' (λe=>by subst e;have:=h.apart b' _ (by simp:(b',Obj.cells cs T fr)∈_);rw [this] at hb';cases hb')];exact h.imm b' o' hb'
 ·simp only [zaz,zK,zaN] at hb';rcases hb' with hb'|⟨rfl,rfl⟩|hb'
  ·rw [hat b' (hne b' o' (.inl hb'))];exact h.own b' o' (by simp [hb'])
  ·exact setRow_heap w b' cs cs' T fr hb
  ·rw [hat b' (hne b' o' (.inr hb'))];exact h.own b' o' (by simp [hb'])
 ·simp only [zaz,zK,zaN] at hb';rcases hb' with hb'|⟨rfl,rfl⟩|hb'
  ·exact h.apart b' o' (by simp [hb'])
  ·exact h.apart b' (.cells cs T fr) zy
  ·exact h.apart b' o' (by simp [hb'])
theorem KC {w:World}{I:Imm}{L1 L2:LH}{b:Nat}{o o':Obj}(h:St ω w I (L1++(b,o)::L2)):
  St ω {w with heap:=w.heap.setIfInBounds b o'} I (L1++(b,o')::L2):=by
 have hb:=h.own b o zy;have hnd:=h.nodup;have hne:∀b' o',(b',o')∈L1∨(b',o')∈L2→b'≠b:=by
  intro b' o' hm e;subst e;simp only [zaa,zF,zbo,zaX] at hnd;rcases hm with hm|hm
  ·exact hnd.2.2 b' (zaf.2 ⟨_,hm,rfl⟩) b' (zJ ..) rfl
  ·exact hnd.2.1.1 (zaf.2 ⟨_,hm,rfl⟩)
 have hat:∀b',b'≠b→(w.heap.setIfInBounds b o')[b']? =w.heap[b']? :=λb' hb'=>zaI (λe=>hb' e.symm);refine ⟨λb' o2 hb'=>?_,λb' o2 hb'=>?_,by simpa using h.nodup,λb' o2 hb'=>?_,h.tape,h.os,h.out,h.dr⟩
 ·rw [hat b' (λe=>by subst e;have:=h.apart b' _ (by simp:(b',o)∈_);rw [this] at hb';cases hb')];exact h.imm b' o2 hb'
 ·simp only [zaz,zK,zaN] at hb';rcases hb' with hb'|⟨rfl,rfl⟩|hb'
  ·rw [hat b' (hne b' o2 (.inl hb'))];exact h.own b' o2 (by simp [hb'])
  ·have hlt:=(zN.1 hb).1;simp [hlt]
  ·rw [hat b' (hne b' o2 (.inr hb'))];exact h.own b' o2 (by simp [hb'])
 ·simp only [zaz,zK,zaN] at hb';rcases hb' with hb'|⟨rfl,rfl⟩|hb'
  ·exact h.apart b' o2 (by simp [hb'])
  ·exact h.apart b' o zy
  ·exact h.apart b' o2 (by simp [hb'])
theorem QG (w:World){b:Nat}{cs:Array Value}{T:Nat}(hb:w.heap[b]? =some (.cells cs T (0,0))):
  w.freeze {block:=b,off:=cs.size} 1={w with heap:=w.heap.setIfInBounds b (.cells cs T (cs.size,cs.size+1))}:=by
 unfold World.freeze;simp only [Nat.one_ne_zero,if_false];congr 1
 apply Array.ext_getElem?
 intro j;rw [Array.getElem?_modify];by_cases hj:b=j
 ·subst hj;have hlt:=(zN.1 hb).1;rw [hb,if_pos rfl,Array.getElem?_setIfInBounds_self_of_lt hlt];simp
 ·rw [if_neg hj,zaI hj]
theorem AEe {T E:Nat}{x:Value}{K:Value→M}{w:World}{I:Imm}{L:LH}(hu:P.underlying T=some (.slice E))(hE:P.underlying E=some (.int .u8))(hs:St ω w I L)(h:ARq x K I L):
  ∃u w' I' L',(convert T T x).run P w= .ok u w'∧St ω w' I' L'∧K u I' L':=by
 obtain ⟨b,off,len,cap,cs,T',L1,L2,rfl,rfl,hK⟩:=h;have hb:=hs.own b (.cells cs T' (0,0)) zy;refine ⟨_,_,I,_,?_,KC (o':=.cells cs T' (cs.size,cs.size+1)) hs,hK⟩;have hsh:w.shape? b=some (T',cs.size):=by simp [World.shape?,hb]
 simp only [convert,AY hu,Sem.run_bind,Result.andThen_ok,beq_self_eq_true,AY hE,markStringish,run_shape,hsh,run_freeze,Sem.run_pure,QG w hb]
theorem AEf {src T E:Nat}{x:Value}{K:Value→M}{w:World}{I:Imm}{L:LH}(hs':P.underlying src=some .string)(hu:P.underlying T=some (.slice E))(hE:P.underlying E=some (.int .u8))(hs:St ω w I L)(h:ARt E x K I L):
  ∃u w' I' L',(convert src T x).run P w= .ok u w'∧St ω w' I' L'∧K u I' L':=by
 obtain ⟨s,rfl,hK⟩:=h;have hq:(Question.appendCap s.size 0 E).forced=false:=rfl;let c:=(Question.appendCap s.size 0 E).cut (w.tape w.drawn (Question.appendCap s.size 0 E))
 have hc:s.size≤c:=zbi _ _;let cells:Array Value:=s.data.map (λb=>.int .u8 b.toNat)++Array.replicate (c - s.size) (.int .u8 0)
 have hcs:cells.size=c:=by
  have:s.data.size=s.size:=rfl;simp [cells,this];omega
 have h1:St ω {w with drawn:=w.drawn+1} I L:=hs.drew (Nat.le_succ _);have h2:=h1.push (.cells cells E (0,0));have h3:=KC (L1:=[]) (o':=.cells cells E (c,c+1)) h2;refine ⟨.slice (some ⟨w.heap.size,0,none⟩) s.size c,_,I,_,?_,h3,hK w.heap.size c hc⟩;have hb:({w with drawn:=w.drawn+1,heap:=w.heap.push (.cells cells E (0,0))}:World).heap[w.heap.size]? =some (.cells cells E (0,0)):=by simp
 have hfr:=QG _ hb;rw [hcs] at hfr;have hsh:({w with drawn:=w.drawn+1,heap:=w.heap.push (.cells cells E (0,0))}:World).shape? w.heap.size=some (E,c):=by simp [World.shape?,hcs]
 simp only [convert,AY hs',AY hu,Sem.run_bind,Result.andThen_ok,AY hE,Conv.stringToBytes,run_choose,hq,zl,if_false,newRow,run_newObj,Sem.run_pure,markStringish,run_shape,hsh,run_freeze,hfr,cells,c]
theorem Fa {w:World}{I:Imm}{L1 L2:LH}{b T off:Nat}{cs:Array Value}{vs:List Value}(h:St ω w I (L1++(b,.cells cs T (0,0))::L2))(hl:off+vs.length≤cs.size)
  (h1:∀v∈vs,one v=true):∃w',(storeCells ⟨b,off,none⟩ vs).run P w= .ok () w'∧St ω w' I (L1++(b,.cells (wr cs off vs) T (0,0))::L2):=by
 have hb:=h.own b (.cells cs T (0,0)) zy;have hr:=run_storeCells_at (P:=P) b off T vs 0 cs w hb zo h1;refine ⟨_,hr,?_⟩;rw [Oa vs cs off hl];exact RS h
theorem GV (g o:Nat)(t:TypeId)(fz:Nat×Nat):∀(vs:List Value) (i:Nat) (cur:Array Value) (w:World),w.heap[g]? =some (.cells cur t fz)→o+i+vs.length≤fz.1→o+i+vs.length≤cur.size→(∀v∈vs,v.oneCell'=true)→
  (storeCells ⟨g,o,none⟩ vs i).run P w= .ok () (w.setRow g (cur.toList.take (o+i)++vs++cur.toList.drop (o+i+vs.length)).toArray)
 |[],i,cur,w,hg,_,_,_=>by
  simp only [storeCells,zaK,zH,Nat.add_zero,zZ,Array.toArray_toList];rw [setRow_self w g cur t fz hg];rfl
 |v::rest,i,cur,w,hg,hfz,hl,h1=>by
  simp only [zi] at hfz hl;have hi:o+i < cur.size:=by omega
  have ha:(⟨g,o,none⟩:Addr).add i=⟨g,o+i,none⟩:=by unfold Addr.add;split <;> simp_all
  have hc:w.cell? ⟨g,o+i,none⟩=some cur[o+i]:=by simp [World.cell?,hg,hi]
  have hf:w.frozen? ⟨g,o+i,none⟩=false:=by
   obtain ⟨lo,up⟩:=fz;simp only [World.frozen?,hg,Bool.and_eq_false_iff,decide_eq_false_iff_not];left
   simp only at hfz
   omega
  have hst:(store ((⟨g,o,none⟩:Addr).add i) v).run P w= .ok () (w.setRow g (cur.setIfInBounds (o+i) v)):=by
   rw [ha,run_store P w _ v _ (h1 v zy),hc];simp [hf,setCell_eq_setRow w g (o+i) cur t fz v hg]
  have ih:=GV g o t fz rest (i+1) (cur.setIfInBounds (o+i) v) (w.setRow g (cur.setIfInBounds (o+i) v)) (setRow_heap w g cur _ t _ hg) zo zu (λx hx=>h1 x (by simp [hx]));simp only [storeCells,Sem.run_bind,hst,Result.andThen_ok,ih,setRow_setRow];congr 3
  have e:=list_seg_step cur.toList (o+i) v rest zu;simpa [Array.toList_setIfInBounds,zbn] using e
theorem VM {w:World}{I:Imm}{L1 L2:LH}{b T off:Nat}{fz:Nat×Nat}{cs:Array Value}{vs:List Value}(h:St ω w I (L1++(b,.cells cs T fz)::L2))(hl:off+vs.length≤cs.size)(hf:fz=(0,0)∨off+vs.length≤fz.1)
  (h1:∀v∈vs,one v=true):∃w',(storeCells ⟨b,off,none⟩ vs).run P w= .ok () w'∧St ω w' I (L1++(b,.cells (wr cs off vs) T fz)::L2):=by
 rcases hf with rfl|hf
 ·exact Fa h hl h1
 have hb:=h.own b (.cells cs T fz) zy;have hr:=GV (P:=P) b off T fz vs 0 cs w hb zo zo h1;refine ⟨_,hr,?_⟩;rw [Oa vs cs off hl];exact RS h
theorem AHn {T n by':Nat}{z:Array Value}{x v:Value}{K:Value→M}{w:World}{I:Imm}{L:LH}(ht:Be P T=some (n,by',z))(hs:St ω w I L)(h:Sto n x v K I L):
  ∃w' I' L',(Instr.storeAt T x v).run P w= .ok () w'∧St ω w' I' L'∧K undef I' L':=by
 obtain ⟨inf,zv,hi',hz,rfl,hn,_,_,_⟩:=BM ht;obtain ⟨b,off,cs,T',fz,L1,L2,rfl,hsz,h1,hle,hf,rfl,hK⟩:=h;obtain ⟨w',hr,hst⟩:=VM (P:=P) (vs:=v.cells.toList) hs (by simp [hsz];exact hle) (by simpa [hsz] using hf) h1;refine ⟨w',I,_,?_,hst,hK⟩;simp [Instr.storeAt,Instr.sureAddr,storeVar,run_sizeOf hi',hn,hsz,hr]
theorem AHq {T:Nat}{v:Value}{K:Value→M}{w:World}{I:Imm}{L:LH}(hs:St ω w I L)(h:New (.cells v.cells T (0,0)) K I L):
  ∃u w' I' L',(Instr.box T v).run P w= .ok u w'∧St ω w' I' L'∧K u I' L':=
 ⟨.pointer (some ⟨w.heap.size,0,none⟩),_,I,_,by simp [Instr.box,newVar,newRow],hs.push _,h _⟩
theorem ABl {T n by':Nat}{z:Array Value}{K:Value→M}{w:World}{I:Imm}{L:LH}(ht:Be P T=some (n,by',z))(hs:St ω w I L)(h:New (.cells z T (0,0)) K I L):
  ∃u w' I' L',(Instr.alloc T true (.tuple #[])).run P w= .ok u w'∧St ω w' I' L'∧K u I' L':=by
 obtain ⟨inf,zv,hi',hz,rfl,hn,_,_,_⟩:=BM ht;exact ⟨.pointer (some ⟨w.heap.size,0,none⟩),_,I,_,by simp [Instr.alloc,DU hi' hz,newVar,newRow],hs.push _,h _⟩
theorem AHr {T E by' n:Nat}{z:Array Value}{l c:Value}{K:Value→M}{w:World}{I:Imm}{L:LH}(hu:P.underlying T=some (.slice E))(ht:Be P E=some (n,by',z))
  (hs:St ω w I L) (h:MkS E by' z l c K I L):∃u w' I' L',(Instr.makeSlice T l c).run P w= .ok u w'∧St ω w' I' L'∧K u I' L':=by
 obtain ⟨inf,zv,hi',hz,rfl,hn,hby,hsz,hpos⟩:=BM ht;obtain ⟨k,k',ln,cn,rfl,rfl,hlc,hc,hcb,hK⟩:=h;have hwl:IntKind.i64.wrap (ln:Int)=ln:=IntWalk.i64_in _ zo;have hwc:IntKind.i64.wrap (cn:Int)=cn:=IntWalk.i64_in _ zo;have hcells:(Array.range (cn * n)).map ((if cn * n=0 then #[] else zv.cells)[· % (if cn * n=0 then #[] else zv.cells).size]!)=Builtin.zeroCells zv.cells cn:=by
  unfold Builtin.zeroCells;rw [hsz];by_cases h0:cn * n=0
  ·rw [h0];simp
  ·simp only [h0,if_false];rw [hsz]
 refine ⟨.slice (some ⟨w.heap.size,0,none⟩) ln cn,{w with heap:=w.heap.push (.cells (Builtin.zeroCells zv.cells cn) E (0,0))},I,_,?_,hs.push _,hK _⟩;have hnn:¬((cn:Int) < 0):=by omega
 have hbb:¬(281474976710656 < ((by':Int)) * (cn:Int)):=by
  have h1:(((cn * by':Nat)):Int)≤((281474976710656:Nat):Int):=Int.ofNat_le.2 hcb;rw [Int.natCast_mul,Int.mul_comm] at h1;exact Int.not_lt.2 h1
 have hln:¬((ln:Int) < 0):=by omega
 have hgt:¬((ln:Int) > (cn:Int)):=by omega
 rw [←hcells];by_cases h0:cn * n=0
 ·simp [Instr.makeSlice,AY hu,asInt,asIntOf,EC hi',hby,hwl,hwc,hnn,hbb,hln,hgt,run_sizeOf hi',hn,h0,newRow]
 ·simp [Instr.makeSlice,AY hu,asInt,asIntOf,EC hi',hby,hwl,hwc,hnn,hbb,hln,hgt,run_sizeOf hi',hn,h0,newRow,DU hi' hz]
end
section
variable {P:Program}{ω:Om}
theorem AEg {T E by' n len:Nat}{z:Array Value}{parts:Array (Nat×Value)}{K:Value→M}{w:World}{I:Imm}{L:LH}(hu:P.underlying T=some (.slice E))(ht:Be P E=some (n,by',z))
  (hle:len * n≤16777216) (hs:St ω w I L) (h:AC E n z len parts.toList K I L):∃u w' I' L',(Instr.buildSlice T len parts).run P w= .ok u w'∧St ω w' I' L'∧K u I' L':=by
 obtain ⟨inf,zv,hi',hz,rfl,hn,hby,hsz,hpos⟩:=BM ht;obtain ⟨cells,hc,hK⟩:=h;refine ⟨.slice (some ⟨w.heap.size,0,none⟩) len len,{w with heap:=w.heap.push (.cells cells E (0,0))},I,_,?_,hs.push _,hK _⟩;have hcells:∀(zz:Array Value),len * n=0→(Array.range (len * n)).map (zz[· % zz.size]!)=(Array.range (len * n)).map (zv.cells[· % zv.cells.size]!):=by
  intro zz h0;rw [h0];simp
 have hnot:¬(len * n > 2 ^ 24):=by omega
 by_cases h0:len * n=0
 ·simp only [Instr.buildSlice,AY hu,Sem.run_bind,Result.andThen_ok,run_sizeOf hi',hn,if_neg hnot,if_pos h0,Sem.run_pure,hcells #[] h0,hc,newRow,run_newObj]
 ·simp only [Instr.buildSlice,AY hu,Sem.run_bind,Result.andThen_ok,run_sizeOf hi',hn,if_neg hnot,if_neg h0,Sem.run_pure,DU hi' hz,hc,newRow,run_newObj]
theorem News.len {n m:Nat}{x:Value}{I:Imm}{L:LH}{news:List Value}(h:News n x I L m news):(w:World)→(Builtin.lenOf x).run P w= .ok m w:=by
 intro w;rcases h with ⟨a,cap,rfl,rfl,_⟩|⟨b,off,cap,rfl,_⟩|⟨s,rfl,_,rfl,_⟩ <;> simp [Builtin.lenOf]
theorem News.length {n m:Nat}{x:Value}{I:Imm}{L:LH}{news:List Value}(h:News n x I L m news):news.length=m * n:=by
 rcases h with ⟨a,cap,rfl,rfl,rfl⟩|⟨b,off,cap,rfl,hl,_⟩|⟨s,rfl,rfl,rfl,rfl⟩
 ·simp
 ·exact hl
 ·simp
theorem Cells.take {I:Imm}{L:LH}{b off:Nat}{vs:List Value}(h:Cells I L b off vs)(k:Nat):Cells I L b off (vs.take k):=by
 intro j u hu;rw [zaB] at hu;split at hu
 ·exact h j u hu
 ·cases hu
theorem News.first {n m k:Nat}{x:Value}{I:Imm}{L:LH}{news:List Value}(h:News n x I L m news)(hk:k≤m){w:World}(hs:St ω w I L):
  (Builtin.firstCells n k x).run P w= .ok (news.take (k * n)).toArray w:=by
 rcases h with ⟨a,cap,rfl,rfl,rfl⟩|⟨b,off,cap,rfl,hl,hc⟩|⟨s,rfl,rfl,rfl,rfl⟩
 ·have hk0:k=0:=by omega
  subst hk0;cases a <;> simp [Builtin.firstCells,loadCells,loadCellsFrom]
 ·have:=Cells.load (P:=P) hs (hc.take (k * n));have hlen:(news.take (k * n)).length=k * n:=by
   rw [zai,hl];exact zbb (zay n hk)
  rw [hlen] at this;simp only [Builtin.firstCells,this]
 ·simp only [Builtin.firstCells,Sem.run_pure,Nat.mul_one];congr 1
  apply Array.ext'
  simp [ByteArray.data_extract]
theorem News.all {n m:Nat}{x:Value}{I:Imm}{L:LH}{news:List Value}(h:News n x I L m news){w:World}(hs:St ω w I L):
  (Builtin.firstCells n m x).run P w= .ok news.toArray w:=by
 have:=h.first (P:=P) (zh m) hs;rwa [zW (by rw [h.length];exact zh _)] at this
theorem SB {need:Nat}:∀(k c:Nat),c≤need+(need+768) / 4→Builtin.growBy need k c≤need+(need+768) / 4
 |0,c,h=>h
 |k+1,c,h=>by
  unfold Builtin.growBy;split
  ·exact h
  ·exact SB k _ zo
theorem Ie {need old bytes:Nat}(h:old < need)(hb:need * bytes≤150000000000000)(h1:bytes≤1073741824):Builtin.nextslicecap need old * bytes≤281474976710656:=by
 unfold Builtin.nextslicecap;split
 ·omega
 ·split
  ·have:2 * old * bytes≤512 * 1073741824:=Nat.mul_le_mul zo h1;omega
  ·have h2:=zay bytes (SB (need:=need) 4 old zo);refine zaC h2 ?_;have h3:4 * ((need+768) / 4) * bytes≤(need+768) * bytes:=zay _ zo;rw [zax,Nat.mul_assoc] at h3;rw [zax];omega
theorem AIC {T T' ty E by' n:Nat}{d:TypeDesc}{z:Array Value}{s x:Value}{K:Value→M}{w:World}{I:Imm}{L:LH}(hu:P.underlying T=some (.slice E))(hu':P.underlying T'=some d)
  (hd:∀k,d≠.int k) (ht:Be P E=some (n,by',z)) (hb30:by'≤1073741824) (hs:St ω w I L) (h:App E n by' z s x K I L):
  ∃u w' I' L',(Builtin.append_ #[T,T'] ty #[s,x]).run P w= .ok u w'∧St ω w' I' L'∧K u I' L':=by
 obtain ⟨inf,zv,hi',hz,rfl,hn,hby,hsz,hpos⟩:=BM ht;obtain ⟨a,len,cap,m,news,rfl,hnews,h1,h⟩:=h;have hzeros:(match d with| .int _=>true|_=>false)=false:=by
  cases d <;> first|rfl|exact absurd rfl (hd _)
 rcases h with ⟨hfit,rfl,hK⟩|⟨hfit,b,off,cs,T2,L1,L2,rfl,rfl,hle,hK⟩|⟨hgrow,hbytes,hmax,olds,L0,holds,hsub,hK⟩
 ·refine ⟨_,w,I,L,?_,hs,hK⟩;simp only [Builtin.append_,zav,zad,zac,AY hu,Sem.run_bind,Result.andThen_ok,run_sizeOf hi',hn,AY hu',Sem.run_pure,hzeros,zl,
   if_false,hnews.len,if_pos hfit,zak,if_true,hnews.all hs]
  cases a <;> simp [storeCells]
 ·obtain ⟨w',hr,hst⟩:=Fa (P:=P) (off:=off+len * n) (vs:=news) hs (by rw [hnews.length,zbn,←zax];exact hle) h1;refine ⟨_,w',I,_,?_,hst,hK⟩;simp only [Builtin.append_,zav,zad,zac,AY hu,Sem.run_bind,Result.andThen_ok,run_sizeOf hi',hn,AY hu',Sem.run_pure,hzeros,zl,
   if_false,hnews.len,if_pos hfit,zak,if_true,hnews.all hs,Ce,hr]
 ·have hq:(Question.appendCap (len+m) cap E).forced=false:=rfl;let c:=(Question.appendCap (len+m) cap E).cut (w.tape w.drawn (Question.appendCap (len+m) cap E))
  have hc:len+m≤c:=zbi _ _;have hs':St ω {w with drawn:=w.drawn+1} I L:=hs.drew (Nat.le_succ _);refine ⟨.slice (some ⟨w.heap.size,0,none⟩) (len+m) c,
   {w with drawn:=w.drawn+1,heap:=w.heap.push (.cells ((olds++news).toArray++Builtin.zeroCells zv.cells (c - (len+m))) E (0,0))},I,_,?_,(hs'.drop hsub).push _,hK w.heap.size c hc⟩
  have hcap:¬(Builtin.nextslicecap (len+m) cap * by' > 2 ^ 48):=by
   have:=Ie hgrow hbytes hb30;omega
  have hfit:¬(len+m≤cap):=by omega
  have hmx:¬((((len+m:Nat):Int) > IntKind.i64.max)∧((false=true)∨by'=0)):=by
   have:IntKind.i64.max=9223372036854775807:=by decide
   omega
  simp only [Builtin.append_,zav,zad,zac,AY hu,Sem.run_bind,Result.andThen_ok,run_sizeOf hi',hn,AY hu',Sem.run_pure,hzeros,zl,
   if_false,hnews.len,if_neg hfit,zak,if_true,EC hi',hby,if_neg hmx,if_neg hcap,run_choose,hq,run_askRoom,holds.all hs',hnews.all hs',DU hi' hz,newRow,run_newObj]
  have hmx':¬(9223372036854775807 < (len:Int)+(m:Int)∧by'=0):=by omega
  have hcap':¬(281474976710656 < Builtin.nextslicecap (len+m) cap * by'):=by omega
  simp [c,hmx',hcap',EC hi',hby,DU hi' hz];rw [if_neg (by rw [hq];decide)];have e1:(Builtin.firstCells n len (.slice a len cap)).run P w.drew= .ok olds.toArray w.drew:=holds.all hs';have e2:(Builtin.firstCells n m x).run P w.drew= .ok news.toArray w.drew:=hnews.all hs';simp [e1,e2];rw [←List.append_toArray,Array.append_assoc];rfl
theorem ALc {z:Array Value}{m:Nat}(h1:∀u∈z.toList,one u=true)(hz:0 < z.size):∀v∈(Builtin.zeroCells z m).toList,one v=true:=by
 intro v hv;simp only [Builtin.zeroCells,Array.toList_map,zaf] at hv;obtain ⟨j,_,rfl⟩:=hv;have hlt:j % z.size < z.size:=Nat.mod_lt _ zo;rw [getElem!_pos z _ hlt];exact h1 _ (Array.getElem_mem_toList hlt)
theorem AEq {T T' ty E by' n:Nat}{k:IntKind}{z:Array Value}{s x:Value}{K:Value→M}{w:World}{I:Imm}{L:LH}(hu:P.underlying T=some (.slice E))(hu':P.underlying T'=some (.int k))
  (ht:Be P E=some (n,by',z)) (hb30:by'≤1073741824) (hs:St ω w I L) (h:API E n by' z s x K I L):
  ∃u w' I' L',(Builtin.append_ #[T,T'] ty #[s,x]).run P w= .ok u w'∧St ω w' I' L'∧K u I' L':=by
 obtain ⟨inf,zv,hi',hz,rfl,hn,hby,hsz,hpos⟩:=BM ht;obtain ⟨a,len,cap,m,rfl,rfl,h1,hmb,hm,h⟩:=h;have hw:IntKind.i64.wrap (m:Int)=m:=IntWalk.i64_in _ zo;have hneg:¬((m:Int) < 0):=by omega
 have hbb:¬((m:Int) * (by':Int) > 281474976710656):=by
  have h1:(((m * by':Nat)):Int)≤((150000000000000:Nat):Int):=Int.ofNat_le.2 hmb;rw [Int.natCast_mul] at h1;omega
 have hzl:(Builtin.zeroCells zv.cells m).toList.length=m * n:=by simp [Builtin.zeroCells,hsz]
 have hzc:m * n=0→Builtin.zeroCells zv.cells m=#[]:=by
  intro h0;simp [Builtin.zeroCells,hsz,h0]
 rcases h with ⟨hfit,rfl,hK⟩|⟨hfit,b,off,cs,T2,L1,L2,rfl,rfl,hle,hK⟩|⟨hgrow,hbytes,hmax,olds,L0,holds,hsub,hK⟩
 ·refine ⟨_,w,I,L,?_,hs,hK⟩;have hzc:Builtin.zeroCells zv.cells 0=#[]:=by simp [Builtin.zeroCells]
  have hw0:IntKind.i64.wrap 0=0:=by decide
  have hfit':len≤cap:=by omega
  cases a <;> simp [Builtin.append_,AY hu,run_sizeOf hi',hn,AY hu',asInt,asIntOf,hw0,EC hi',hby,hfit',storeCells]
 ·obtain ⟨w',hr,hst⟩:=Fa (P:=P) (off:=off+len * n) (vs:=(Builtin.zeroCells zv.cells m).toList) hs (by rw [hzl,zbn,←zax];exact hle) (ALc h1 zo);refine ⟨_,w',I,_,?_,hst,hK⟩;by_cases h0:m * n=0
  ·rw [hzc h0] at hr;simp [Builtin.append_,AY hu,run_sizeOf hi',hn,AY hu',asInt,asIntOf,hw,EC hi',hby,hneg,hbb,hfit,Ce,h0];simp at hr;simp [hr]
  ·simp [Builtin.append_,AY hu,run_sizeOf hi',hn,AY hu',asInt,asIntOf,hw,EC hi',hby,hneg,hbb,hfit,Ce,hr,h0,DU hi' hz]
 ·have hq:(Question.appendCap (len+m) cap E).forced=false:=rfl;let c:=(Question.appendCap (len+m) cap E).cut (w.tape w.drawn (Question.appendCap (len+m) cap E))
  have hc:len+m≤c:=zbi _ _;have hs':St ω {w with drawn:=w.drawn+1} I L:=hs.drew (Nat.le_succ _);refine ⟨.slice (some ⟨w.heap.size,0,none⟩) (len+m) c,
   {w with drawn:=w.drawn+1,heap:=w.heap.push (.cells (olds.toArray++Builtin.zeroCells zv.cells m++Builtin.zeroCells zv.cells (c - (len+m))) E (0,0))},I,_,?_,(hs'.drop hsub).push _,hK w.heap.size c hc⟩
  have hcap:¬(Builtin.nextslicecap (len+m) cap * by' > 2 ^ 48):=by
   have:=Ie hgrow hbytes hb30;omega
  have hcap':¬(281474976710656 < Builtin.nextslicecap (len+m) cap * by'):=by omega
  have hfit:¬(len+m≤cap):=by omega
  have hmx:¬((9223372036854775807:Int) < (len:Int)+(m:Int)):=by omega
  have hmx2:IntKind.i64.max=9223372036854775807:=by decide
  have e1:(Builtin.firstCells n len (.slice a len cap)).run P w.drew= .ok olds.toArray w.drew:=holds.all hs';simp [Builtin.append_,AY hu,run_sizeOf hi',hn,AY hu',asInt,asIntOf,hw,EC hi',hby,hneg,hbb,hfit,hmx2,hmx,hcap',run_choose];rw [if_neg (by rw [hq];decide)];by_cases h0:m * n=0
  ·simp [e1,h0,DU hi' hz,hzc h0,newRow,run_newObj,c];rfl
  ·simp [e1,h0,DU hi' hz,newRow,run_newObj,c];rfl
theorem AHy {T ty E by' n:Nat}{Ts:List TypeId}{z:Array Value}{s x:Value}{K:Value→M}{w:World}{I:Imm}{L:LH}(hu:P.underlying T=some (.slice E))
  (ht:Be P E=some (n,by',z)) (hs:St ω w I L) (h:APH n s x K I L):
  ∃u w' I' L',(Builtin.copy_ (T::Ts).toArray ty #[s,x]).run P w= .ok u w'∧St ω w' I' L'∧K u I' L':=by
 obtain ⟨inf,zv,hi',hz,rfl,hn,hby,hsz,hpos⟩:=BM ht;obtain ⟨a,len,cap,m,xs,rfl,hnews,h⟩:=h;have hf:=hnews.first (P:=P) (Nat.min_le_left m len) hs;rcases h with ⟨h0,hK⟩|⟨b,off,cs,T2,L1,L2,rfl,rfl,hle,h1,hK⟩
 ·refine ⟨_,w,I,L,?_,hs,hK⟩;rw [h0] at hf;simp only [Nat.zero_mul,List.take_zero] at hf;have h0':Nat.min m len=0:=h0;simp only [Builtin.copy_,zav,zad,zac,AY hu,Sem.run_bind,Result.andThen_ok,run_sizeOf hi',hn,hnews.len,h0',hf];cases a <;> simp [storeCells,goInt]
 ·have hlen:(xs.take (min m len * n)).length=min m len * n:=by
   rw [zai,hnews.length];exact zbb (zay n (Nat.min_le_left m len))
  obtain ⟨w',hr,hst⟩:=Fa (P:=P) (off:=off) (vs:=xs.take (min m len * n)) hs (by rw [hlen];exact hle) (λv hv=>h1 v hv);refine ⟨_,w',I,_,?_,hst,hK⟩;have hmin:Nat.min m len=min m len:=rfl;simp only [Builtin.copy_,zav,zad,zac,AY hu,Sem.run_bind,Result.andThen_ok,run_sizeOf hi',hn,hnews.len,hmin,hf,hr,Sem.run_pure,goInt]
theorem AHz {T ty E by' n:Nat}{z:Array Value}{x:Value}{K:Value→M}{w:World}{I:Imm}{L:LH}(hu:P.underlying T=some (.slice E))
  (ht:Be P E=some (n,by',z)) (hs:St ω w I L) (h:ARu z x K I L):
  ∃u w' I' L',(Builtin.clear_ #[T] ty #[x]).run P w= .ok u w'∧St ω w' I' L'∧K u I' L':=by
 obtain ⟨inf,zv,hi',hz,rfl,hn,hby,hsz,hpos⟩:=BM ht;rcases h with ⟨a,cap,rfl,hK⟩|⟨b,off,len,cap,cs,T2,L1,L2,rfl,rfl,hle,h1,hK⟩
 ·refine ⟨_,w,I,L,?_,hs,hK⟩;simp only [Builtin.clear_,zav,zad,AY hu,Sem.run_bind,Result.andThen_ok];cases a <;> simp
 ·have hz1:∀v∈(Builtin.zeroCells zv.cells len).toList,one v=true:=by
   intro v hv;simp only [Builtin.zeroCells,Array.toList_map,zaf] at hv;obtain ⟨j,_,rfl⟩:=hv;have hlt:j % zv.cells.size < zv.cells.size:=Nat.mod_lt _ zo;rw [getElem!_pos zv.cells _ hlt];exact h1 _ (Array.getElem_mem_toList hlt)
  have hzl:(Builtin.zeroCells zv.cells len).toList.length=len * zv.cells.size:=by simp [Builtin.zeroCells]
  obtain ⟨w',hr,hst⟩:=Fa (P:=P) (off:=off) (vs:=(Builtin.zeroCells zv.cells len).toList) hs (by rw [hzl];exact hle) hz1;refine ⟨_,w',I,_,?_,hst,hK⟩;cases len with
  |zero=>
   have:(Builtin.zeroCells zv.cells 0).toList=[]:=by simp [Builtin.zeroCells]
   rw [this] at hr;simp only [storeCells,Sem.run_pure,Result.ok.injEq,true_and] at hr;subst hr;simp only [Builtin.clear_,zav,zad,AY hu,Sem.run_bind,Result.andThen_ok,Sem.run_pure]
  |succ len=>
   simp only [Builtin.clear_,zav,zad,AY hu,Sem.run_bind,Result.andThen_ok,DU hi' hz,hr,Sem.run_pure]
def Outc (P:Program)(ω:Om)(K:Value→M):Result Next→Prop
 | .ok (.value v) w'=>∃I' L',St ω w' I' L'∧K v I' L'
 | .ok .skip w'=>∃I' L',St ω w' I' L'∧K undef I' L'
 | .ok (.enter f args) w'=>Calls P f args w' (Ret ω K)
 | .ok (.round l f tmps assign body) w'=>RoundIn Fence.wide 0 P l f tmps assign body w' (Ret ω K)
 |_=>False
def XB (P:Program)(ω:Om)(K Pn:Value→M):Result Next→Prop
 | .ok (.value v) w'=>∃I' L',St ω w' I' L'∧K v I' L'
 | .ok .skip w'=>∃I' L',St ω w' I' L'∧K undef I' L'
 | .ok (.enter f args) w'=>Calls P f args w' (Ye ω K Pn)
 | .ok (.round l f tmps assign body) w'=>RoundIn Fence.wide 0 P l f tmps assign body w' (Ret ω K)
 | .halt (.panic v) w'=>∃I' L',St ω w' I' L'∧Pn v I' L'
 |_=>False
theorem Outc.toP {K Pn:Value→M}{r:Result Next}(h:Outc P ω K r):XB P ω K Pn r:=by
 unfold Outc at h;split at h
 ·exact h
 ·exact h
 ·exact Calls.mono h λe w' ⟨v,I',L',he,hs,hk⟩=>⟨v,I',L',hs,.inl ⟨he,hk⟩⟩
 ·exact h
 ·exact h.elim
theorem PT {x:Value}{args:Array Value}{K:Value→M}{w:World}{I:Imm}{L:LH}(hs:St ω w I L)(h:CalV P ω x args K I L):
  Outc P ω K ((do let d ←Deferred.ofValue x args;invoke d.target d.args:Sem Next).run P w):=by
 unfold CalV at h;split at h
 ·rename_i f first cap
  split at h
  ·rename_i he
   unfold CU at he;split at he
   ·rename_i fn hf
    simp only [zQ,bne_iff_ne,ne_eq] at he;have hn : (fn.name == "runtime.NumGoroutine") = false := by simpa using he.1
    have hb:fn.body.isNone=false:=by
     cases hb:fn.body with
     |none=>simp [hb] at he
     |some _=>rfl
    have hr:(do let d ←Deferred.ofValue (.func (.func f) first cap) args;invoke d.target d.args:Sem Next).run P w= .ok (.enter f (first++args++cap)) w:=by
     simp only [Deferred.ofValue,Sem.run_bind,Sem.run_pure,Result.andThen_ok,invoke,callFunc,run_program,hf,hn,hb,zl,if_false]
    rw [hr];exact h w hs
   ·cases he
  ·cases hext:QO P f with
   |none=>rw [hext] at h;exact h.elim
   |some e=>
    rw [hext] at h;simp only at h
    unfold QO at hext;cases hf:P.funcs[f]? with
    |none=>rw [hf] at hext;cases hext
    |some fn=>
     rw [hf] at hext;simp only at hext
     by_cases hnb : (fn.name == "runtime.NumGoroutine" || fn.body.isSome) = true
     ·rw [if_pos hnb] at hext;cases hext
     ·rw [if_neg hnb] at hext;simp only [zaJ,not_or,Bool.not_eq_true] at hnb;cases hn:Extern.findNext fn with
      |some _=>rw [hn] at hext;cases hext
      |none=>
       rw [hn] at hext;simp only at hext
       obtain ⟨v,w',I',L',hv,hs',hk⟩:=h w hs;have hb:fn.body.isNone=true:=by
        cases hb:fn.body with
        |none=>rfl
        |some _=>rw [hb] at hnb;simp at hnb
       have hr:=run_callFunc_extern hf hnb.1 hb hn hext (first++args++cap) w;rw [hv] at hr;have hr2:(do let d ←Deferred.ofValue (.func (.func f) first cap) args;invoke d.target d.args:Sem Next).run P w=(callFunc f (first++args++cap)).run P w:=by
        simp only [Deferred.ofValue,Sem.run_bind,Sem.run_pure,Result.andThen_ok,invoke]
       rw [hr2,hr];exact ⟨I',L',hs',hk⟩
 ·rename_i l first cap
  obtain ⟨f,tmps,assign,body,hy,hR⟩:=h w hs;have hr:(do let d ←Deferred.ofValue (.func (.yield l) first cap) args;invoke d.target d.args:Sem Next).run P w= .ok (.round l f tmps assign body) w:=by
   simp only [Deferred.ofValue,Sem.run_bind,Sem.run_pure,Result.andThen_ok,invoke,hy]
  rw [hr];exact hR
 ·exact h.elim
theorem ABk {x:Value}{args:Array Value}{K Pn:Value→M}{w:World}{I:Imm}{L:LH}(hs:St ω w I L)(h:CalVP P ω x args K Pn I L):
  XB P ω K Pn ((do let d ←Deferred.ofValue x args;invoke d.target d.args:Sem Next).run P w):=by
 unfold CalVP at h;split at h
 ·rename_i f first cap
  by_cases he:CU P f=true
  ·rw [if_pos he] at h;unfold CU at he;split at he
   ·rename_i fn hf
    simp only [zQ,bne_iff_ne,ne_eq] at he;have hn : (fn.name == "runtime.NumGoroutine") = false := by simpa using he.1
    have hb:fn.body.isNone=false:=by
     cases hb:fn.body with
     |none=>simp [hb] at he
     |some _=>rfl
    have hr:(do let d ←Deferred.ofValue (.func (.func f) first cap) args;invoke d.target d.args:Sem Next).run P w= .ok (.enter f (first++args++cap)) w:=by
     simp only [Deferred.ofValue,Sem.run_bind,Sem.run_pure,Result.andThen_ok,invoke,callFunc,run_program,hf,hn,hb,zl,if_false]
    rw [hr];exact h w hs
   ·cases he
  ·rw [if_neg he] at h;refine (PT (K:=K) hs ?_).toP;unfold CalV;simp only
   rw [if_neg he];exact h
 ·rename_i l first cap
  exact (PT (x:=.func (.yield l) first cap) hs h).toP
 ·exact h.elim
theorem Hm {n:Nat}{a:Act}{e:Env}(hr:Rep n a e):∀(xs:List Operand) (vs:List Value),evs (e.ev n) xs=some vs→xs.map a.eval=vs
 |[],vs,h=>by simpa [evs] using h
 |x::xs,vs,h=>by
  simp only [evs] at h;split at h
  ·rename_i v hv
   split at h
   ·rename_i us hus
    simp only [zn] at h;subst h;simp [hr.ev hv,Hm hr xs us hus]
   ·cases h
  ·cases h
theorem ND {n:Nat}{a:Act}{e:Env}(hr:Rep n a e):∀(xs:List (Nat×Operand)) (vs:List (Nat×Value)),ACV (e.ev n) xs=some vs→xs.map (λ(i,x)=>(i,a.eval x))=vs
 |[],vs,h=>by simpa [ACV] using h
 |(i,x)::xs,vs,h=>by
  simp only [ACV] at h;split at h
  ·rename_i v hv
   split at h
   ·rename_i us hus
    simp only [zn] at h;subst h;simp [hr.ev hv,ND hr xs us hus]
   ·cases h
  ·cases h
theorem Ed {n:Nat}{a:Act}{e:Env}(hr:Rep n a e)(x:Option Operand)(v:Option Value)(h:evo (e.ev n) x=some v):x.map a.eval=v:=by
 cases x with
 |none=>simpa [evo] using h
 |some x=>
  simp only [evo] at h;split at h
  ·rename_i u hu
   simp only [zn] at h;subst h;simp [hr.ev hu]
  ·cases h
theorem Iw {α:Type}{x:Option α}{f:α→OpV}{r:OpV}(h:opt x f=r)(hr:r≠.no):∃a,x=some a∧f a=r:=by
 cases x with
 |none=>exact absurd h.symm hr
 |some a=>exact ⟨a,rfl,h⟩
end
section
variable {P:Program}{ω:Om}{n:Nat}{a:Act}{e:Env}
theorem AIA {src dst E:Nat}{x v:Value}{w:World}{I:Imm}{L:LH}(hu:P.underlying src=some (.slice E))(hd:P.underlying dst=some .string)(hE:P.underlying E=some (.int .u8))
  (hs:St ω w I L) (h:bsR x I L v):(convert src dst x).run P w= .ok v w:=by
 rcases h with ⟨a,cap,rfl,rfl⟩|⟨b,off,len,cap,s,rfl,rfl,hc,rfl⟩
 ·cases a <;> simp [convert,AY hu,AY hd,AY hE,Conv.bytesToString,loadCells,loadCellsFrom]
 ·have hl:=Cells.load (P:=P) hs hc;rw [zaU] at hl;have hfor:∀(f:Value→ByteArray→Sem (ForInStep ByteArray)),(∀(c:UInt8) s,f (.int .u8 c.toNat) s=pure (ForInStep.yield (s.push c)))→
    ∀(t:List UInt8) (acc:ByteArray),(forIn (t.map λc=>Value.int .u8 c.toNat) acc f).run P w= .ok ⟨(acc.data.toList++t).toArray⟩ w:=by
   intro f hf t;induction t with
   |nil=>intro acc;simp
   |cons c t ih=>
    intro acc;simp only [zF,List.forIn_cons,Sem.run_bind,Sem.run_pure,Result.andThen_ok,hf,ih];congr 1
    simp [ByteArray.push]
  simp only [convert,AY hu,AY hd,AY hE,Conv.bytesToString,Sem.run_bind,Result.andThen_ok,hl];simp only [←Array.forIn_toList];rw [hfor _ (λc s=>by simp) s ByteArray.empty];rfl
theorem VC {w:World}{I:Imm}{L:LH}{b:Nat}{cs:Array Value}{T:Nat}{fr:Nat×Nat}(hs:St ω w I L)(h:I b=some (.cells cs T fr)∨(b,.cells cs T fr)∈L):w.shape? b=some (T,cs.size):=by
 have hb:w.heap[b]? =some (.cells cs T fr):=by
  rcases h with h|h
  ·exact hs.imm _ _ h
  ·exact hs.own _ _ h
 simp [World.shape?,hb]
theorem AEZ {src dst E:Nat}{j:TypeInfo}{x v:Value}{w:World}{I:Imm}{L:LH}(hu:P.underlying src=some (.pointer E))(hd:P.underlying dst=some .unsafePointer)(hE:P.info? E=some j)(hj:j.size≠0)
  (hs:St ω w I L) (h:ALh x I L v):(convert src dst x).run P w= .ok v w:=by
 obtain ⟨b,off,cs,T,fr,rfl,hm,hoff,rfl⟩:=h;exact Lib.run_to_unsafe w ⟨b,off,none⟩ hu hd hE hj (VC hs hm) hoff
theorem AEa {src dst E:Nat}{j:TypeInfo}{x v:Value}{w:World}{I:Imm}{L:LH}(hu:P.underlying src=some .unsafePointer)(hd:P.underlying dst=some (.pointer E))(hE:P.info? E=some j)
  (hs:St ω w I L) (h:ALi P E x I L v):(convert src dst x).run P w= .ok v w:=by
 obtain ⟨b,off,cs,T,fr,rfl,hm,hl,rfl⟩:=h;exact Lib.run_from_unsafe w ⟨b,off,none⟩ hu hd hE (VC hs hm) hl
theorem YK {op:BinOp}{T:TypeId}{x y:Operand}{u v:Value}{w:World}(h:∀cs,u≠.agg cs)(h':u≠.nilIface):(eqGuard op T x y u v).run P w= .ok () w:=by
 cases u <;> first|exact absurd rfl h'|exact absurd rfl (h _)|(unfold eqGuard;split <;> rfl)
theorem Fh {o:Oper}{v:Value}(hr:Rep n a e)(h:opv P ω (e.ev n) o.op= .pure (some v))(w:World):(execOp a.eval o).run P w= .ok (.value v) w:=by
 obtain ⟨dst,op,type,pos,after,guard⟩:=o;simp only at h
 have key:∀{α:Type} {x:Option α} {f:α→OpV} {r:Option Value},opt x f= .pure r→∃a,x=some a∧f a= .pure r:=λh=>Iw h zy;cases op <;> simp only [opv,reduceCtorEq] at h
 case move x=>
  obtain ⟨u,hu,h⟩:=key h;simp only [OpV.pure.injEq,zn] at h;subst h;simp [execOp,hr.ev hu]
 case assign x=>
  obtain ⟨u,hu,h⟩:=key h;simp only [OpV.pure.injEq,zn] at h;subst h;simp [execOp,hr.ev hu]
 case pick c x y=>
  obtain ⟨u,hu,h⟩:=key h;obtain ⟨u1,hu1,h⟩:=key h;obtain ⟨u2,hu2,h⟩:=key h;simp only [OpV.pure.injEq] at h;unfold AAl at h;split at h
  ·simp only [zn] at h;subst h;simp [execOp,hr.ev hu,hr.ev hu1,hr.ev hu2,asBool]
  ·cases h
 case nilCheck x=>
  obtain ⟨u,hu,h⟩:=key h;simp only [OpV.pure.injEq] at h;simp only [execOp,hr.ev hu];unfold Ad at h;split at h
  iterate 4
   ·cases h
  ·rename_i h1 h2 h3 h4
   simp only [zn] at h;subst h;split
   ·exact absurd rfl h1
   ·exact absurd rfl h2
   ·exact absurd rfl h3
   ·exact absurd rfl (h4 _ _ _)
   ·rfl
 case fieldAddr T x f=>
  obtain ⟨u,hu,h⟩:=key h;obtain ⟨k,hk,h⟩:=key h;simp only [OpV.pure.injEq] at h;simp [execOp,hr.ev hu,AHw hk h]
 case binOp op T x y _=>
  obtain ⟨u,hu,h⟩:=key h;obtain ⟨u1,hu1,h⟩:=key h;have hg:∀{r},(∀cs,u≠.agg cs)→u≠.nilIface→(binOp op T u u1).run P w= .ok r w→(execOp a.eval ⟨dst,.binOp op T x y ‹_›,type,pos,after,guard⟩).run P w= .ok (.value r) w:=by
   intro r h1 h2 h3;simp [execOp,hr.ev hu,hr.ev hu1,YK h1 h2,h3]
  split at h <;> (try simp only [OpV.pure.injEq,reduceCtorEq] at h)
  ·refine hg ?_ ?_ (AEm h)
   ·intro cs e;subst e;simp [AA] at h
   ·intro e;subst e;simp [AA] at h
  ·refine hg ?_ ?_ (AEi h)
   ·intro cs e;subst e;simp [BB] at h
   ·intro e;subst e;simp [BB] at h
  ·rename_i hT
   refine hg ?_ ?_ (AEo hT h)
   ·intro cs e;subst e;simp [Jp] at h
   ·intro e;subst e;simp [Jp] at h
  ·rename_i hT
   obtain ⟨j,hj,h⟩:=key h;simp only [OpV.pure.injEq] at h;refine hg ?_ ?_ (AEj hT hj h)
   ·intro cs e;subst e;simp [Gl] at h
   ·intro e;subst e;simp [Gl] at h
  ·rename_i hT
   refine hg ?_ ?_ (AEk hT h)
   ·intro cs e;subst e;simp [Hq] at h
   ·intro e;subst e;simp [Hq] at h
  ·rename_i fs hT
   unfold ALZ at h;split at h
   ·cases h
   ·rename_i hgu
    simp only [Bool.or_eq_false_iff] at hgu;split at h
    ·rename_i l hl
     have h2:=h;unfold Gm at h2;split at h2
     iterate 2
      ·simp [execOp,hr.ev hu,hr.ev hu1,run_eqGuard_agg (P:=P) w _ T x y _ _ hgu.2,VO hT hgu.1 hl h]
     ·cases h2
    ·cases h
 case unOp op T x=>
  obtain ⟨u,hu,h⟩:=key h;simp only [OpV.pure.injEq] at h;simp [execOp,hr.ev hu,ALw h]
 case extract x i=>
  obtain ⟨u,hu,h⟩:=key h;simp only [OpV.pure.injEq] at h;simp [execOp,hr.ev hu,ALz h]
 case convert src dst x=>
  obtain ⟨u,hu,h⟩:=key h;split at h
  ·rename_i k k' h1 h2
   simp only [OpV.pure.injEq] at h;unfold GG at h;split at h
   ·simp only [zn] at h;subst h;simp [execOp,hr.ev hu,convert,AY h1,AY h2,Conv.intToInt]
   ·cases h
  ·split at h <;> cases h
  ·split at h
   ·split at h <;> cases h
   ·cases h
  ·split at h <;> cases h
  ·rename_i h1 h2
   simp only [OpV.pure.injEq] at h;unfold ALn at h;split at h
   ·simp only [zn] at h;subst h;simp [execOp,hr.ev hu,convert,AY h1,AY h2]
   ·cases h
  ·obtain ⟨_,_,h⟩:=key h;split at h <;> cases h
  ·obtain ⟨_,_,h⟩:=key h;cases h
  ·cases h
 case indexAddr T x i=>
  obtain ⟨u,hu,h⟩:=key h;obtain ⟨u1,hu1,h⟩:=key h;split at h
  ·rename_i E hE
   obtain ⟨⟨m,by',z⟩,ht,h⟩:=key h;simp only [OpV.pure.injEq] at h;simp [execOp,hr.ev hu,hr.ev hu1,ALy hE ht h]
  ·rename_i len E hE
   obtain ⟨⟨m,by',z⟩,ht,h⟩:=key h;simp only [OpV.pure.injEq] at h;simp [execOp,hr.ev hu,hr.ev hu1,AHu hE ht h]
  ·cases h
 case index T x i=>
  obtain ⟨u,hu,h⟩:=key h;obtain ⟨u1,hu1,h⟩:=key h;split at h
  ·rename_i hT
   simp only [OpV.pure.injEq] at h;simp [execOp,hr.ev hu,hr.ev hu1,AHt hT h]
  ·rename_i len E hT
   obtain ⟨d,hd,h⟩:=key h;obtain ⟨⟨m,by',z⟩,ht,h⟩:=key h;simp only [OpV.pure.injEq] at h;simp [execOp,hr.ev hu,hr.ev hu1,AHv hT hd ht h]
  ·cases h
 case slice T x lo hi mx=>
  obtain ⟨u,hu,h⟩:=key h;obtain ⟨u1,hu1,h⟩:=key h;obtain ⟨u2,hu2,h⟩:=key h;obtain ⟨u3,hu3,h⟩:=key h;split at h
  ·rename_i hT
   split at h
   ·cases h
   ·rename_i hm
    simp only [OpV.pure.injEq] at h;have hm':u3=none:=by cases u3 <;> simp_all
    subst hm';simp [execOp,hr.ev hu,Ed hr _ _ hu1,Ed hr _ _ hu2,Ed hr _ _ hu3,AEb hT h]
  ·rename_i E hT
   obtain ⟨⟨m,by',z⟩,ht,h⟩:=key h;simp only [OpV.pure.injEq] at h;simp [execOp,hr.ev hu,Ed hr _ _ hu1,Ed hr _ _ hu2,Ed hr _ _ hu3,AHo hT ht h]
  ·rename_i len E hT
   obtain ⟨⟨m,by',z⟩,ht,h⟩:=key h;simp only [OpV.pure.injEq] at h;simp [execOp,hr.ev hu,Ed hr _ _ hu1,Ed hr _ _ hu2,Ed hr _ _ hu3,AEc hT ht h]
  ·cases h
 case build T parts=>
  obtain ⟨ps,hps,h⟩:=key h;obtain ⟨⟨m,by',z⟩,ht,h⟩:=key h;have he:=ND hr _ _ hps;have this:(parts.map λ(i,x)=>(i,a.eval x)).toList=ps:=by simpa using he
  split at h
  ·rename_i len E hT
   obtain ⟨⟨m2,by2,z2⟩,hE,h⟩:=key h;simp only [OpV.pure.injEq] at h;simp only [execOp,Sem.run_bind];rw [AEh hT hE ht (by rw [this];exact h)];rfl
  ·obtain ⟨pl,hpl,h⟩:=key h;simp only [OpV.pure.injEq] at h;simp only [execOp,Sem.run_bind];rw [AIB hpl ht (by rw [this];exact h)];rfl
 case field T x f=>
  obtain ⟨u,hu,h⟩:=key h;split at h
  ·rename_i fs hT
   split at h
   ·rename_i fd hf
    obtain ⟨d,hd,h⟩:=key h;obtain ⟨⟨m,by',z⟩,ht,h⟩:=key h;simp only [OpV.pure.injEq] at h;cases u with
    |agg cs=>
     have hU:(P.underlying fd.type).isSome=true:=by rw [hd];rfl
     simp [execOp,hr.ev hu,Instr.field,AY hT,hf,asAgg,PS hU ht h]
    |_=>simp [FK] at h
   ·cases h
  ·cases h
 case makeFunc fn first cap=>
  obtain ⟨u,hu,h⟩:=key h;obtain ⟨u1,hu1,h⟩:=key h;simp only [OpV.pure.injEq,zn] at h;subst h;have e1:=Hm hr _ _ hu;have e2:=Hm hr _ _ hu1;have e1':first.map a.eval=u.toArray:=by apply Array.ext';simpa using e1
  have e2':cap.map a.eval=u1.toArray:=by apply Array.ext';simpa using e2
  simp [execOp,Instr.makeFunc,e1',e2']
 case load T x=>
  obtain ⟨u,hu,h⟩:=key h;split at h
  ·obtain ⟨_,_,h⟩:=key h;cases h
  ·split at h <;> cases h
 case alloc T=>obtain ⟨_,_,h⟩:=key h;cases h
 case box T x=>obtain ⟨_,_,h⟩:=key h;cases h
 case store T x y=>obtain ⟨_,_,h⟩:=key h;obtain ⟨_,_,h⟩:=key h;obtain ⟨_,_,h⟩:=key h;cases h
 case makeSlice T l c=>obtain ⟨_,_,h⟩:=key h;obtain ⟨_,_,h⟩:=key h;obtain ⟨_,_,h⟩:=key h;obtain ⟨_,_,h⟩:=key h;cases h
 case buildSlice T len ps=>
  obtain ⟨_,_,h⟩:=key h;obtain ⟨_,_,h⟩:=key h;obtain ⟨_,_,h⟩:=key h;split at h <;> cases h
 case call c=>
  obtain ⟨callee,args,argTypes⟩:=c;cases callee with
  |value f=>simp only at h;obtain ⟨_,_,h⟩:=key h;obtain ⟨_,_,h⟩:=key h;cases h
  |invoke r m=>simp at h
  |builtin b=>
   cases b <;> simp only [reduceCtorEq] at h
   case len=>
    split at h
    ·rename_i x T hx hT
     obtain ⟨u,hu,h⟩:=key h;have ea:args=#[x]:=by apply Array.ext';simpa using hx
     have et:argTypes=#[T]:=by apply Array.ext';simpa using hT
     subst ea et;split at h
     ·rename_i E hE
      simp only [OpV.pure.injEq] at h;unfold lenV at h;split at h
      ·simp only [zn] at h;subst h;simp [execOp,resolve,invoke,builtin,Builtin.len_,hr.ev hu,AY hE,goInt]
      ·cases h
     ·rename_i hE
      simp only [OpV.pure.injEq] at h;unfold BP at h;split at h
      ·simp only [zn] at h;subst h;simp [execOp,resolve,invoke,builtin,Builtin.len_,hr.ev hu,AY hE,goInt]
      ·cases h
     ·rename_i len E hE
      simp only [OpV.pure.injEq,zn] at h;subst h;simp [execOp,resolve,invoke,builtin,Builtin.len_,hr.ev hu,AY hE,goInt]
     ·cases h
    ·cases h
   case cap=>
    split at h
    ·rename_i x T hx hT
     obtain ⟨u,hu,h⟩:=key h;have ea:args=#[x]:=by apply Array.ext';simpa using hx
     have et:argTypes=#[T]:=by apply Array.ext';simpa using hT
     subst ea et;split at h
     ·rename_i E hE
      simp only [OpV.pure.injEq] at h;unfold WQ at h;split at h
      ·simp only [zn] at h;subst h;simp [execOp,resolve,invoke,builtin,Builtin.cap_,hr.ev hu,AY hE,goInt]
      ·cases h
     ·cases h
    ·cases h
   case min=>
    split at h
    ·rename_i x y hx
     obtain ⟨u,hu,h⟩:=key h;obtain ⟨u1,hu1,h⟩:=key h;have ea:args=#[x,y]:=by apply Array.ext';simpa using hx
     subst ea;simp only [OpV.pure.injEq] at h;unfold AML at h;split at h
     ·simp only [zn] at h;subst h;simp [execOp,resolve,invoke,builtin,Builtin.min_,Builtin.min2,hr.ev hu,hr.ev hu1]
     ·cases h
    ·cases h
   case max=>
    split at h
    ·rename_i x y hx
     obtain ⟨u,hu,h⟩:=key h;obtain ⟨u1,hu1,h⟩:=key h;have ea:args=#[x,y]:=by apply Array.ext';simpa using hx
     subst ea;simp only [OpV.pure.injEq] at h;unfold AFb at h;split at h
     ·simp only [zn] at h;subst h;simp [execOp,resolve,invoke,builtin,Builtin.max_,Builtin.max2,hr.ev hu,hr.ev hu1]
     ·cases h
    ·cases h
   case append=>
    split at h
    ·obtain ⟨_,_,h⟩:=key h;obtain ⟨_,_,h⟩:=key h;obtain ⟨_,_,h⟩:=key h;obtain ⟨_,_,h⟩:=key h;split at h
     ·split at h <;> cases h
     ·cases h
    ·cases h
   case copy=>
    split at h
    ·obtain ⟨_,_,h⟩:=key h;obtain ⟨_,_,h⟩:=key h;obtain ⟨_,_,h⟩:=key h;obtain ⟨_,_,h⟩:=key h;cases h
    ·cases h
   case clear=>
    split at h
    ·obtain ⟨_,_,h⟩:=key h;obtain ⟨_,_,h⟩:=key h;obtain ⟨_,_,h⟩:=key h;cases h
    ·cases h
   case unsafeSliceData=>
    split at h
    ·rename_i x hx
     obtain ⟨u,hu,h⟩:=key h;have ea:args=#[x]:=by apply Array.ext';simpa using hx
     subst ea;simp only [OpV.pure.injEq] at h;unfold ACz at h;split at h
     ·simp only [zn] at h;subst h;simp [execOp,resolve,invoke,builtin,hr.ev hu,Lib.run_unsafeSliceData_nil]
     ·simp only [zn] at h;subst h;simp [execOp,resolve,invoke,builtin,hr.ev hu,Lib.run_unsafeSliceData_row]
     ·cases h
    ·cases h
   case unsafeString=>
    split at h
    ·obtain ⟨_,_,h⟩:=key h;obtain ⟨_,_,h⟩:=key h;split at h
     ·split at h <;> cases h
     ·cases h
    ·cases h
end
section
variable {P:Program}{ω:Om}{n:Nat}{a:Act}{e:Env}
theorem Fg {o:Oper}{R:Imm→LH→Value→Prop}(hr:Rep n a e)(h:opv P ω (e.ev n) o.op= .read R){w:World}{I:Imm}{L:LH}(hs:St ω w I L){v:Value}(hv:R I L v):
  (execOp a.eval o).run P w= .ok (.value v) w:=by
 obtain ⟨dst,op,type,pos,after,guard⟩:=o;simp only at h
 have key:∀{α:Type} {x:Option α} {f:α→OpV},opt x f= .read R→∃a,x=some a∧f a= .read R:=λh=>Iw h zy;cases op <;> simp only [opv,reduceCtorEq] at h
 case load T x=>
  obtain ⟨u,hu,h⟩:=key h;split at h
  ·rename_i ha
   obtain ⟨⟨m,by',z⟩,ht,h⟩:=key h;simp only [OpV.read.injEq] at h;subst h;simp [execOp,hr.ev hu,NV ht ha hs hv]
  ·rename_i ha
   split at h
   ·rename_i d hd
    simp only [OpV.read.injEq] at h;subst h;simp [execOp,hr.ev hu,NU hd (by simpa using ha) hs hv]
   ·cases h
 case convert src dst x=>
  obtain ⟨u,hu,h⟩:=key h;split at h
  ·cases h
  ·rename_i E h1 h2
   split at h
   ·rename_i hE
    simp only [OpV.read.injEq] at h;subst h;simp [execOp,hr.ev hu,AIA h1 h2 hE hs hv]
   ·cases h
  ·split at h
   ·split at h <;> cases h
   ·cases h
  ·split at h <;> cases h
  ·cases h
  ·rename_i E h1 h2
   obtain ⟨j,hj,h⟩:=key h;split at h
   ·cases h
   ·rename_i hz
    simp only [OpV.read.injEq] at h;subst h;simp [execOp,hr.ev hu,AEZ h1 h2 hj (λe=>hz (by rw [e];rfl)) hs hv]
  ·rename_i E h1 h2
   obtain ⟨j,hj,h⟩:=key h;simp only [OpV.read.injEq] at h;subst h;simp [execOp,hr.ev hu,AEa h1 h2 hj hs hv]
  ·cases h
 case call c=>
  obtain ⟨callee,args,argTypes⟩:=c;cases callee with
  |value f=>simp only at h;obtain ⟨_,_,h⟩:=key h;obtain ⟨_,_,h⟩:=key h;cases h
  |invoke r m=>simp at h
  |builtin b=>
   cases b <;> simp only [reduceCtorEq] at h
   case len=>
    split at h
    ·obtain ⟨_,_,h⟩:=key h;split at h <;> cases h
    ·cases h
   case cap=>
    split at h
    ·obtain ⟨_,_,h⟩:=key h;split at h <;> cases h
    ·cases h
   case min=>
    split at h
    ·obtain ⟨_,_,h⟩:=key h;obtain ⟨_,_,h⟩:=key h;cases h
    ·cases h
   case max=>
    split at h
    ·obtain ⟨_,_,h⟩:=key h;obtain ⟨_,_,h⟩:=key h;cases h
    ·cases h
   case append=>
    split at h
    ·obtain ⟨_,_,h⟩:=key h;obtain ⟨_,_,h⟩:=key h;obtain ⟨_,_,h⟩:=key h;obtain ⟨_,_,h⟩:=key h;split at h <;> first|cases h|(split at h <;> cases h)
    ·cases h
   case copy=>
    split at h
    ·obtain ⟨_,_,h⟩:=key h;obtain ⟨_,_,h⟩:=key h;obtain ⟨_,_,h⟩:=key h;obtain ⟨_,_,h⟩:=key h;cases h
    ·cases h
   case clear=>
    split at h
    ·obtain ⟨_,_,h⟩:=key h;obtain ⟨_,_,h⟩:=key h;obtain ⟨_,_,h⟩:=key h;cases h
    ·cases h
   case unsafeSliceData=>
    split at h
    ·obtain ⟨_,_,h⟩:=key h;cases h
    ·cases h
   case unsafeString=>
    split at h
    ·obtain ⟨_,_,h⟩:=key h;obtain ⟨_,_,h⟩:=key h;split at h
     ·split at h <;> cases h
     ·cases h
    ·cases h
 case move x=>obtain ⟨_,_,h⟩:=key h;cases h
 case assign x=>obtain ⟨_,_,h⟩:=key h;cases h
 case pick c x y=>obtain ⟨_,_,h⟩:=key h;obtain ⟨_,_,h⟩:=key h;obtain ⟨_,_,h⟩:=key h;cases h
 case nilCheck x=>obtain ⟨_,_,h⟩:=key h;cases h
 case fieldAddr T x f=>obtain ⟨_,_,h⟩:=key h;obtain ⟨_,_,h⟩:=key h;cases h
 case binOp op T x y _=>obtain ⟨_,_,h⟩:=key h;obtain ⟨_,_,h⟩:=key h;split at h <;> first|cases h|(obtain ⟨_,_,h⟩:=key h;cases h)
 case unOp op T x=>obtain ⟨_,_,h⟩:=key h;cases h
 case extract x i=>obtain ⟨_,_,h⟩:=key h;cases h
 case indexAddr T x i=>
  obtain ⟨_,_,h⟩:=key h;obtain ⟨_,_,h⟩:=key h;split at h
  iterate 2
   ·obtain ⟨_,_,h⟩:=key h;cases h
  ·cases h
 case index T x i=>
  obtain ⟨_,_,h⟩:=key h;obtain ⟨_,_,h⟩:=key h;split at h
  ·cases h
  ·obtain ⟨_,_,h⟩:=key h;obtain ⟨_,_,h⟩:=key h;cases h
  ·cases h
 case slice T x lo hi mx=>
  obtain ⟨_,_,h⟩:=key h;obtain ⟨_,_,h⟩:=key h;obtain ⟨_,_,h⟩:=key h;obtain ⟨_,_,h⟩:=key h;split at h
  ·split at h <;> cases h
  iterate 2
   ·obtain ⟨_,_,h⟩:=key h;cases h
  ·cases h
 case build T parts=>
  obtain ⟨_,_,h⟩:=key h;obtain ⟨_,_,h⟩:=key h;split at h
  iterate 2
   ·obtain ⟨_,_,h⟩:=key h;cases h
 case field T x f=>
  obtain ⟨_,_,h⟩:=key h;split at h
  ·split at h
   ·obtain ⟨_,_,h⟩:=key h;obtain ⟨_,_,h⟩:=key h;cases h
   ·cases h
  ·cases h
 case makeFunc fn first cap=>obtain ⟨_,_,h⟩:=key h;obtain ⟨_,_,h⟩:=key h;cases h
 case alloc T=>obtain ⟨_,_,h⟩:=key h;cases h
 case box T x=>obtain ⟨_,_,h⟩:=key h;cases h
 case store T x y=>obtain ⟨_,_,h⟩:=key h;obtain ⟨_,_,h⟩:=key h;obtain ⟨_,_,h⟩:=key h;cases h
 case makeSlice T l c=>obtain ⟨_,_,h⟩:=key h;obtain ⟨_,_,h⟩:=key h;obtain ⟨_,_,h⟩:=key h;obtain ⟨_,_,h⟩:=key h;cases h
 case buildSlice T len ps=>obtain ⟨_,_,h⟩:=key h;obtain ⟨_,_,h⟩:=key h;obtain ⟨_,_,h⟩:=key h;split at h <;> cases h
theorem ACS {w:World}{I:Imm}{L1 L2:LH}{b T m:Nat}{fr:Nat×Nat}{cs:Array Value}(h:St ω w I (L1++(b,.cells cs T fr)::L2))(hm:m≠0):
  St ω (w.freeze ⟨b,0,none⟩ m) I (L1++(b,.cells cs T (frz fr m))::L2):=by
 have hb:=h.own b (.cells cs T fr) zy;have e:w.freeze ⟨b,0,none⟩ m={w with heap:=w.heap.setIfInBounds b (.cells cs T (frz fr m))}:=by
  unfold World.freeze;rw [if_neg hm];congr 1
  apply Array.ext_getElem?
  intro i;rw [Array.getElem?_modify,Array.getElem?_setIfInBounds];by_cases hi:b=i
  ·subst hi;have hlt:=(zN.1 hb).1;obtain ⟨lo,hi⟩:=fr;obtain ⟨_,hw⟩:=zN.1 hb;simp [hlt,frz,hw]
  ·simp [hi]
 rw [e];exact KC h
theorem AEY {pt it ty E:Nat}{x y:Value}{K:Value→M}{w:World}{I:Imm}{L:LH}(hp:P.underlying pt=some (.pointer E))(hc:P.cellsOf E=1)(hs:St ω w I L)(h:APF E x y K I L):
  ∃v w' I' L',(Builtin.unsafeString_ #[pt,it] ty #[x,y]).run P w= .ok v w'∧St ω w' I' L'∧K v I' L':=by
 rcases h with ⟨p,rfl,rfl,hk⟩|⟨b,cs,fr,l,L1,L2,rfl,rfl,h0,hle,h63,rfl,hcell,hk⟩
 ·exact ⟨_,w,I,L,Lib.run_unsafeString_none w pt it ty p,hs,hk⟩
 ·have hb:=hs.own b (.cells cs E fr) zy;have hl:l.length≠0:=by simpa using h0
  refine ⟨_,_,I,_,Lib.run_unsafeString_row w pt it ty E hp hc b cs.size (by simp [World.shape?,hb]) l h0 hle h63 (λj u hu=>?_),ACS hs hl,hk⟩;have:=hcell j u hu;by_cases hj:j=0
  ·subst hj;simp [World.cell?,hb,Addr.add,this]
  ·simp [World.cell?,hb,Addr.add,this,hj]
theorem Es {K:Value→M}{s:Sem Value}{w:World}(h:∃u w' I' L',s.run P w= .ok u w'∧St ω w' I' L'∧K u I' L'):
  Outc P ω K ((do pure (.value (←s)):Sem Next).run P w):=by
 obtain ⟨u,w',I',L',hr,hs,hk⟩:=h;simp only [Sem.run_bind,hr,Result.andThen_ok,Sem.run_pure];exact ⟨I',L',hs,hk⟩
theorem II {o:Oper}{E:(Value→M)→M}(hr:Rep n a e)(h:opv P ω (e.ev n) o.op= .eff E){w:World}{I:Imm}{L:LH}(hs:St ω w I L){K:Value→M}(hE':E K I L):
  Outc P ω K ((execOp a.eval o).run P w):=by
 obtain ⟨dst,op,type,pos,after,guard⟩:=o;simp only at h
 have key:∀{α:Type} {x:Option α} {f:α→OpV},opt x f= .eff E→∃a,x=some a∧f a= .eff E:=λh=>Iw h zy;cases op <;> simp only [opv,reduceCtorEq] at h
 case alloc T=>
  obtain ⟨⟨m,by',z⟩,ht,h⟩:=key h;simp only [OpV.eff.injEq] at h;subst h;exact Es (ABl ht hs hE')
 case box T x=>
  obtain ⟨u,hu,h⟩:=key h;simp only [OpV.eff.injEq] at h;subst h;simp only [execOp,hr.ev hu];exact Es (AHq hs hE')
 case store T x y=>
  obtain ⟨u,hu,h⟩:=key h;obtain ⟨u1,hu1,h⟩:=key h;obtain ⟨⟨m,by',z⟩,ht,h⟩:=key h;simp only [OpV.eff.injEq] at h;subst h;obtain ⟨w',I',L',hrun,hst,hk⟩:=AHn ht hs hE';simp only [execOp,hr.ev hu,hr.ev hu1,Sem.run_bind,hrun,Result.andThen_ok,Sem.run_pure];exact ⟨I',L',hst,hk⟩
 case makeSlice T l c=>
  obtain ⟨u,hu,h⟩:=key h;obtain ⟨u1,hu1,h⟩:=key h;obtain ⟨E',hE2,h⟩:=key h;obtain ⟨⟨m,by',z⟩,ht,h⟩:=key h;simp only [OpV.eff.injEq] at h;subst h;simp only [execOp,hr.ev hu,hr.ev hu1];exact Es (AHr (Dp hE2) ht hs hE')
 case buildSlice T len parts=>
  obtain ⟨ps,hps,h⟩:=key h;obtain ⟨E',hE2,h⟩:=key h;obtain ⟨⟨m,by',z⟩,ht,h⟩:=key h;split at h
  ·rename_i hle
   simp only [OpV.eff.injEq] at h;subst h;have he:=ND hr _ _ hps;have:(parts.map λ(i,x)=>(i,a.eval x)).toList=ps:=by simpa using he
   rw [←this] at hE';simp only [execOp];exact Es (AEg (Dp hE2) ht hle hs hE')
  ·cases h
 case call c=>
  obtain ⟨callee,args,argTypes⟩:=c;cases callee with
  |value f=>
   simp only at h
   obtain ⟨u,hu,h⟩:=key h;obtain ⟨vs,hvs,h⟩:=key h;simp only [OpV.eff.injEq] at h;subst h;have e1:=Hm hr _ _ hvs;have e1':args.map a.eval=vs.toArray:=by apply Array.ext';simpa using e1
   simp only [execOp,resolve,hr.ev hu,e1'];exact PT hs hE'
  |invoke r m=>simp at h
  |builtin b=>
   cases b <;> simp only [reduceCtorEq] at h
   case len=>
    split at h
    ·obtain ⟨_,_,h⟩:=key h;split at h <;> cases h
    ·cases h
   case cap=>
    split at h
    ·obtain ⟨_,_,h⟩:=key h;split at h <;> cases h
    ·cases h
   case min=>
    split at h
    ·obtain ⟨_,_,h⟩:=key h;obtain ⟨_,_,h⟩:=key h;cases h
    ·cases h
   case max=>
    split at h
    ·obtain ⟨_,_,h⟩:=key h;obtain ⟨_,_,h⟩:=key h;cases h
    ·cases h
   case append=>
    split at h
    ·rename_i s x T T' hx hT
     obtain ⟨u,hu,h⟩:=key h;obtain ⟨u1,hu1,h⟩:=key h;obtain ⟨E',hE2,h⟩:=key h;obtain ⟨⟨m,by',z⟩,ht,h⟩:=key h;have ea:args=#[s,x]:=by apply Array.ext';simpa using hx
     have et:argTypes=#[T,T']:=by apply Array.ext';simpa using hT
     subst ea et;have hb30:by'≤1073741824:=by
      by_cases hb:by'≤1073741824
      ·exact hb
      ·simp only [if_neg hb] at h;cases h
     simp only [if_pos hb30] at h;have fin:∀d,P.underlying T'=some d→(∀k,d≠.int k)→App E' m by' z u u1 K I L→
       Outc P ω K ((execOp a.eval ⟨dst,.call ⟨.builtin .append,#[s,x],#[T,T']⟩,type,pos,after,guard⟩).run P w):=by
      intro d hd hk hA;have:=AIC (ty:=type) (Dp hE2) hd hk ht hb30 hs hA;simp only [execOp,resolve,Sem.run_bind,Sem.run_pure,Result.andThen_ok,invoke,builtin,List.map_toArray,zF,zal,hr.ev hu,hr.ev hu1];obtain ⟨v,w',I',L',hrun,hst,hkk⟩:=this;simp only [hrun,Result.andThen_ok];exact ⟨I',L',hst,hkk⟩
     split at h
     iterate 2
      ·rename_i hd
       simp only [OpV.eff.injEq] at h;subst h;exact fin _ hd zy hE'
     ·rename_i kk hd
      simp only [OpV.eff.injEq] at h;subst h;have:=AEq (ty:=type) (Dp hE2) hd ht hb30 hs hE';simp only [execOp,resolve,Sem.run_bind,Sem.run_pure,Result.andThen_ok,invoke,builtin,List.map_toArray,zF,zal,hr.ev hu,hr.ev hu1];obtain ⟨v,w',I',L',hrun,hst,hkk⟩:=this;simp only [hrun,Result.andThen_ok];exact ⟨I',L',hst,hkk⟩
     ·cases h
    ·cases h
   case copy=>
    split at h
    ·rename_i s x T Ts hx hT
     obtain ⟨u,hu,h⟩:=key h;obtain ⟨u1,hu1,h⟩:=key h;obtain ⟨E',hE2,h⟩:=key h;obtain ⟨⟨m,by',z⟩,ht,h⟩:=key h;simp only [OpV.eff.injEq] at h;subst h;have ea:args=#[s,x]:=by apply Array.ext';simpa using hx
     have et:argTypes=(T::Ts).toArray:=by apply Array.ext';simpa using hT
     subst ea et;have:=AHy (ty:=type) (Ts:=Ts) (Dp hE2) ht hs hE';simp only [execOp,resolve,Sem.run_bind,Sem.run_pure,Result.andThen_ok,invoke,builtin,List.map_toArray,zF,zal,hr.ev hu,hr.ev hu1];obtain ⟨v,w',I',L',hrun,hst,hkk⟩:=this;simp only [hrun,Result.andThen_ok];exact ⟨I',L',hst,hkk⟩
    ·cases h
   case clear=>
    split at h
    ·rename_i x T hx hT
     obtain ⟨u,hu,h⟩:=key h;obtain ⟨E',hE2,h⟩:=key h;obtain ⟨⟨m,by',z⟩,ht,h⟩:=key h;simp only [OpV.eff.injEq] at h;subst h;have ea:args=#[x]:=by apply Array.ext';simpa using hx
     have et:argTypes=#[T]:=by apply Array.ext';simpa using hT
     subst ea et;have:=AHz (ty:=type) (Dp hE2) ht hs hE';simp only [execOp,resolve,Sem.run_bind,Sem.run_pure,Result.andThen_ok,invoke,builtin,List.map_toArray,zF,zal,hr.ev hu];obtain ⟨v,w',I',L',hrun,hst,hkk⟩:=this;simp only [hrun,Result.andThen_ok];exact ⟨I',L',hst,hkk⟩
    ·cases h
   case unsafeSliceData=>
    split at h
    ·obtain ⟨_,_,h⟩:=key h;cases h
    ·cases h
   case unsafeString=>
    split at h
    ·rename_i x y T Tn hx hT
     obtain ⟨u,hu,h⟩:=key h;obtain ⟨u1,hu1,h⟩:=key h;split at h
     ·rename_i E' hE2
      split at h
      ·rename_i hc
       simp only [OpV.eff.injEq] at h;subst h;have ea:args=#[x,y]:=by apply Array.ext';simpa using hx
       have et:argTypes=#[T,Tn]:=by apply Array.ext';simpa using hT
       subst ea et;have:=AEY (it:=Tn) (ty:=type) hE2 (zX hc) hs hE';simp only [execOp,resolve,Sem.run_bind,Sem.run_pure,Result.andThen_ok,invoke,builtin,List.map_toArray,zF,zal,hr.ev hu,hr.ev hu1];obtain ⟨v,w',I',L',hrun,hst,hkk⟩:=this;simp only [hrun,Result.andThen_ok];exact ⟨I',L',hst,hkk⟩
      ·cases h
     ·cases h
    ·cases h
 case move x=>obtain ⟨_,_,h⟩:=key h;cases h
 case assign x=>obtain ⟨_,_,h⟩:=key h;cases h
 case pick c x y=>obtain ⟨_,_,h⟩:=key h;obtain ⟨_,_,h⟩:=key h;obtain ⟨_,_,h⟩:=key h;cases h
 case nilCheck x=>obtain ⟨_,_,h⟩:=key h;cases h
 case fieldAddr T x f=>obtain ⟨_,_,h⟩:=key h;obtain ⟨_,_,h⟩:=key h;cases h
 case binOp op T x y _=>obtain ⟨_,_,h⟩:=key h;obtain ⟨_,_,h⟩:=key h;split at h <;> first|cases h|(obtain ⟨_,_,h⟩:=key h;cases h)
 case unOp op T x=>obtain ⟨_,_,h⟩:=key h;cases h
 case extract x i=>obtain ⟨_,_,h⟩:=key h;cases h
 case indexAddr T x i=>
  obtain ⟨_,_,h⟩:=key h;obtain ⟨_,_,h⟩:=key h;split at h
  iterate 2
   ·obtain ⟨_,_,h⟩:=key h;cases h
  ·cases h
 case index T x i=>
  obtain ⟨_,_,h⟩:=key h;obtain ⟨_,_,h⟩:=key h;split at h
  ·cases h
  ·obtain ⟨_,_,h⟩:=key h;obtain ⟨_,_,h⟩:=key h;cases h
  ·cases h
 case slice T x lo hi mx=>
  obtain ⟨_,_,h⟩:=key h;obtain ⟨_,_,h⟩:=key h;obtain ⟨_,_,h⟩:=key h;obtain ⟨_,_,h⟩:=key h;split at h
  ·split at h <;> cases h
  iterate 2
   ·obtain ⟨_,_,h⟩:=key h;cases h
  ·cases h
 case build T parts=>
  obtain ⟨_,_,h⟩:=key h;obtain ⟨_,_,h⟩:=key h;split at h
  iterate 2
   ·obtain ⟨_,_,h⟩:=key h;cases h
 case field T x f=>
  obtain ⟨_,_,h⟩:=key h;split at h
  ·split at h
   ·obtain ⟨_,_,h⟩:=key h;obtain ⟨_,_,h⟩:=key h;cases h
   ·cases h
  ·cases h
 case makeFunc fn first cap=>obtain ⟨_,_,h⟩:=key h;obtain ⟨_,_,h⟩:=key h;cases h
 case load T x=>
  obtain ⟨_,_,h⟩:=key h;split at h
  ·obtain ⟨_,_,h⟩:=key h;cases h
  ·split at h <;> cases h
 case convert src dst x=>
  obtain ⟨u,hu,h⟩:=key h;split at h
  ·cases h
  ·split at h <;> cases h
  ·rename_i e h1 h2
   split at h
   ·rename_i hE
    split at h
    ·rename_i hsd
     have hsd:=zX hsd;simp only [OpV.eff.injEq] at h;subst h;simp only [execOp,hr.ev hu];rw [hsd];exact Es (AEe h2 hE hs hE')
    ·cases h
   ·cases h
  ·rename_i e h1 h2
   split at h
   ·rename_i hE
    simp only [OpV.eff.injEq] at h;subst h;simp only [execOp,hr.ev hu];exact Es (AEf h1 h2 hE hs hE')
   ·cases h
  ·cases h
  ·obtain ⟨_,_,h⟩:=key h;split at h <;> cases h
  ·obtain ⟨_,_,h⟩:=key h;cases h
  ·cases h
end
section
variable {P:Program}{ω:Om}{n:Nat}{a:Act}{e:Env}
theorem JU {T k E:Nat}(h:QC P T=some (k,E)):P.underlying T=some (.map k E):=by
 unfold QC at h;split at h <;> simp_all
theorem KR {E:Nat}{z:Value}(h:znv P E=some z)(w:World):(zeroValue E).run P w= .ok z w:=by
 unfold znv at h;split at h
 ·rename_i i hi;exact DU hi h
 ·cases h
theorem MapAt.heap {w:World}{I:Imm}{L:LH}{r clock:Nat}{es:Array MapEntry}(hs:St ω w I L)(h:MapAt I L r es clock):w.heap[r]? =some (.map es clock):=h.elim (hs.own _ _) (hs.imm _ _)
theorem Js {w:World}{r clock:Nat}{es:Array MapEntry}(h:w.heap[r]? =some (.map es clock)):(getObj r).run P w= .ok (.map es clock) w:=by
 simp [getObj,Sem.run,h]
theorem run_checkKey {k:Nat}{d:TypeDesc}(hu:P.underlying k=some d)(hd:Vm d=true)(em:Bool)(v:Value)(w:World):(Instr.checkKey em 10000 k v).run P w= .ok () w:=by
 unfold Instr.checkKey;simp only [Sem.run_bind,AY hu,Result.andThen_ok];cases d <;> first|(simp [Vm] at hd;done)|simp
theorem run_findKey {k:Nat}{d:TypeDesc}{v:Value}{es:List MapEntry}{r:Option (Nat×Value)}(hu:P.underlying k=some d)(hf:Instr.findNow d v es 0=some r)(w:World):(Instr.findKey k v es).run P w= .ok r w:=by
 simp [Instr.findKey,AY hu,hf]
theorem QL {d:TypeDesc}{k:Value}:∀{l:List MapEntry} {i0 i:Nat} {v:Value},Instr.findNow d k l i0=some (some (i,v))→∃j e,i=i0+j∧l[j]? =some e∧e.val=v∧Instr.sameNow d k e.key=some true
 |[],i0,i,v,h=>by simp [Instr.findNow] at h
 |e::l,i0,i,v,h=>by
  simp only [Instr.findNow] at h;split at h
  ·rename_i hs
   simp only [zn,zaN] at h;exact ⟨0,e,by omega,rfl,h.2,hs⟩
  ·obtain ⟨j,e',h1,h2,h3,h4⟩:=QL h;exact ⟨j+1,e',by omega,by simpa using h2,h3,h4⟩
  ·cases h
theorem NH {a b:ByteArray}(h:(a==b)=true):a=b:=by
 cases a;cases b
 congr
 exact eq_of_beq (α:=Array UInt8) h
theorem KL (a:ByteArray):(a==a)=true:=by
 cases a with
 |mk d=>exact beq_self_eq_true (α:=Array UInt8) d
theorem ABh {d:TypeDesc}{k k':Value}(hd:Vm d=true)(h:Instr.sameNow d k k'=some true):Instr.sameBits 10000 k' k=true:=by
 unfold Instr.sameNow at h;split at h
 ·split at h
  ·rename_i hk;subst hk
   simp only [zn,beq_iff_eq] at h;subst h;simp [Instr.sameBits]
  ·cases h
 ·rename_i a b
  simp only [zn] at h;obtain rfl:a=b:=NH h;simp [Instr.sameBits,KL]
 ·simp only [zn,beq_iff_eq] at h;subst h;simp [Instr.sameBits]
 ·cases h
theorem UE {d:TypeDesc}{k:Value}{es:Array MapEntry}{i:Nat}{v:Value}(hd:Vm d=true)(hf:Instr.findNow d k es.toList 0=some (some (i,v)))(w:World):
  (Instr.keyThatStays (((es[i]?).map (·.key)).getD k) k).run P w= .ok k w:=by
 obtain ⟨j,e,h1,h2,h3,h4⟩:=QL hf;have:es[i]? =some e:=by
  rw [show i=j by omega];simpa using h2
 rw [this];simp [Instr.keyThatStays,ABh hd h4]
theorem ALx {T kt E:Nat}{d:TypeDesc}{z x k v:Value}{ok:Bool}{w:World}{I:Imm}{L:LH}(hT:QC P T=some (kt,E))(hu:P.underlying kt=some d)(hd:Vm d=true)(hz:znv P E=some z)(hs:St ω w I L)
  (h:lkR d z ok x k I L v):(Instr.lookup T x k ok).run P w= .ok v w:=by
 have hT':=JU hT;obtain ⟨es,r,hM,hf,rfl⟩:=h;unfold Instr.lookup;rcases hM with ⟨rfl,rfl⟩|⟨r',clock,rfl,hA⟩
 ·simp only [Sem.run_bind,AY hT',Result.andThen_ok,Sem.run_pure,run_checkKey hu hd,run_findKey hu hf];cases r with
  |none=>simp [KR hz]
  |some q=>obtain ⟨i,u⟩:=q;simp
 ·simp only [Sem.run_bind,AY hT',Result.andThen_ok,Js (hA.heap hs),Sem.run_pure,run_checkKey hu hd,run_findKey hu hf];cases r with
  |none=>simp [KR hz]
  |some q=>obtain ⟨i,u⟩:=q;simp
theorem UD {w:World}{b:Nat}{o o':Obj}(h:w.heap[b]? =some o)(hc:∀c T fr,o≠.cells c T fr):(setObj b o').run P w= .ok () {w with heap:=w.heap.setIfInBounds b o'}:=by
 cases o <;> first|exact absurd rfl (hc _ _ _)|simp [setObj,Sem.run,h]
theorem AAa {T kt E:Nat}{d:TypeDesc}{x k v:Value}{w:World}{I:Imm}{L:LH}{K:Value→M}(hT:QC P T=some (kt,E))(hu:P.underlying kt=some d)(hd:Vm d=true)(hs:St ω w I L)(h:GR d x k v K I L):
  ∃w' I' L',(Instr.mapUpdate T x k v).run P w= .ok () w'∧St ω w' I' L'∧K undef I' L':=by
 have hT':=JU hT;obtain ⟨r,es,clock,L1,L2,q,rfl,rfl,hf,hk⟩:=h;have hb:=hs.own r (.map es clock) zy;refine ⟨_,I,_,?_,KC hs,hk⟩;unfold Instr.mapUpdate;simp only [Sem.run_bind,AY hT',Result.andThen_ok,Js hb,run_checkKey hu hd,run_findKey hu hf];cases q with
 |none=>exact UD hb (λ_ _ _=>by simp)
 |some p=>
  obtain ⟨i,u⟩:=p;simp only [Sem.run_bind,UE hd hf,Result.andThen_ok];exact UD hb (λ_ _ _=>by simp)
theorem AAb {T kt E:Nat}{r:Option Value}{w:World}{I:Imm}{L:LH}{K:Value→M}(hT:QC P T=some (kt,E))(hr:r=none∨∃k i,r=some (.int k i))(hs:St ω w I L)(h:Uk K I L):
  ∃v w' I' L',(Instr.makeMap T r).run P w= .ok v w'∧St ω w' I' L'∧K v I' L':=by
 have hT':=JU hT;refine ⟨.map (some w.heap.size),_,I,_,?_,hs.push (.map #[] 0),h _⟩;rcases hr with rfl|⟨k,i,rfl⟩
 ·simp [Instr.makeMap,newObj,Sem.run]
 ·simp [Instr.makeMap,newObj,Sem.run,AY hT',asInt,asIntOf]
theorem AHp {T:Nat}{d:TypeDesc}{x:Value}{w:World}{I:Imm}{L:LH}{K:Value→M}(hu:P.underlying T=some d)(hs:St ω w I L)
  (h:(∃k e,d= .map k e∧ARn x K I L)∨(d= .string∧AHS x K I L)):
  ∃v w' I' L',(Instr.range T x).run P w= .ok v w'∧St ω w' I' L'∧K v I' L':=by
 rcases h with ⟨k,e,rfl,⟨rfl,hk⟩|⟨r,es,clock,rfl,hA,hk⟩⟩|⟨rfl,s,rfl,hk⟩
 ·refine ⟨_,_,I,_,?_,hs.push (.mapIter none 0 #[] 0),hk _⟩;simp [Instr.range,newObj,Sem.run,AY hu]
 ·refine ⟨_,_,I,_,?_,hs.push (.mapIter (some r) clock #[] clock),hk _⟩;simp [Instr.range,newObj,Sem.run,AY hu,Js (hA.heap hs)]
 ·refine ⟨_,_,I,_,?_,hs.push (.stringIter s 0),hk _⟩;simp [Instr.range,newObj,Sem.run,AY hu]
theorem AEd {T:Nat}{x:Value}{w:World}{I:Imm}{L:LH}{K:Value→M}(hs:St ω w I L)(h:ACu x K I L):
  ∃v w' I' L',(Instr.next x true T).run P w= .ok v w'∧St ω w' I' L'∧K v I' L':=by
 obtain ⟨b,s,pos,L1,L2,rfl,rfl,hk⟩:=h;have hb:=hs.own b (.stringIter s pos) zy;have hg:(getObj b).run P w= .ok (.stringIter s pos) w:=by simp [getObj,Sem.run,hb]
 by_cases hp:pos < s.size
 ·rw [if_pos hp] at hk;refine ⟨_,_,I,_,?_,KC hs,hk⟩;simp only [Instr.next,Sem.run_bind,hg,Result.andThen_ok,if_pos hp];simp [UD (o':=.stringIter s (pos+(Utf8.decode s pos).2)) hb (λ_ _ _=>by simp),goInt]
 ·rw [if_neg hp] at hk;refine ⟨_,w,I,_,?_,hs,hk⟩;simp only [Instr.next,Sem.run_bind,hg,Result.andThen_ok,if_neg hp];simp
theorem run_choose {n:Nat}(hn:0 < n)(w:World):∃i d,i < n∧w.drawn≤d∧(choose (.mapNext n)).run P w= .ok i {w with drawn:=d}:=by
 unfold choose;simp only [Sem.run];by_cases hf:(Question.mapNext n).forced=true
 ·refine ⟨0,w.drawn,hn,zh _,?_⟩;simp [hf]
 ·refine ⟨w.tape w.drawn (.mapNext n) % n,w.drawn+1,Nat.mod_lt _ hn,Nat.le_succ _,?_⟩;simp [hf,Question.cut]
theorem SA {T:Nat}{d:TypeDesc}(hd:P.underlying T=some d)(h:IL P T=false):∀ms,d≠.interface ms:=by
 intro ms e;subst e;simp [IL,hd] at h
theorem AHs {T:Nat}{d:TypeDesc}{v:Value}{w:World}(hd:P.underlying T=some d)(h:IL P T=false):(Instr.makeInterface T v).run P w= .ok (.iface T v) w:=by
 have:=SA hd h;unfold Instr.makeInterface;simp only [Sem.run_bind,AY hd,Result.andThen_ok];cases d <;> first|exact absurd rfl (this _)|simp
theorem AEp {T U:Nat}{d:TypeDesc}{x v z:Value}{w:World}(hd:P.underlying T=some d)(h:IL P T=false)(hz:znv P T=some z)(hv:Wx T z x=some v):(Instr.typeAssert x U T true).run P w= .ok v w:=by
 have:=SA hd h;unfold Instr.typeAssert;simp only [Sem.run_bind,AY hd,Result.andThen_ok];unfold Wx at hv;split at hv
 ·simp only [zn] at hv;subst hv;cases d <;> first|exact absurd rfl (this _)|simp [KR hz]
 ·rename_i t u
  simp only [zn] at hv;by_cases ht:t=T
  ·subst ht;simp only [zbw,if_true] at hv;subst hv;cases d <;> first|exact absurd rfl (this _)|simp
  ·have hb:Nat.beq t T=false:=by
    cases hb:Nat.beq t T with
    |false=>rfl
    |true=>exact absurd (zX hb) ht
   simp only [hb,zl,if_false] at hv;subst hv;cases d <;> first|exact absurd rfl (this _)|simp [ht,KR hz]
 ·cases hv
theorem AFv (d:Nat){T k E:TypeId}{w:World}(hu:P.underlying T=some (.map k E))(b:Option Nat)(a:Nat):
  (Op.equalIn (d+1) T (.map none) (.map b)).run P w= .ok b.isNone w∧(Op.equalIn (d+1) T (.map (some a)) (.map none)).run P w= .ok false w:=by
 constructor <;> simp [Op.equalIn,AY hu]
theorem AEl {op:BinOp}{T k E:Nat}{x y v:Value}{w:World}(hu:P.underlying T=some (.map k E))(hv:WX op x y=some v):(binOp op T x y).run P w= .ok v w:=by
 unfold WX at hv;split at hv <;> simp only [zn,reduceCtorEq] at hv <;> subst hv <;> simp only [binOp] <;>
  simp [Op.equal,Op.maxDepth,(AFv 9999 hu _ default).1,(AFv 9999 hu none _).2]
theorem ACK {op:BinOp}{T:Nat}{o1 o2:Operand}{x y v:Value}{w:World}(hv:WX op x y=some v):(eqGuard op T o1 o2 x y).run P w= .ok () w:=by
 unfold WX at hv;split at hv <;> simp only [zn,reduceCtorEq] at hv <;> simp [eqGuard]
theorem ALO (d:Nat){T:TypeId}{ms:Array (String×TypeId)}{w:World}(hu:P.underlying T=some (.interface ms))(t:Nat)(v:Value):
  (Op.equalIn (d+1) T .nilIface .nilIface).run P w= .ok true w∧(Op.equalIn (d+1) T (.iface t v) .nilIface).run P w= .ok false w:=by
 constructor <;> simp [Op.equalIn,AY hu]
theorem AEn {op:BinOp}{T:Nat}{lit:Bool}{x y v:Value}{w:World}(hi:IL P T=true)(hv:Nk lit op x y=some v):(binOp op T x y).run P w= .ok v w:=by
 unfold IL at hi;split at hi
 ·rename_i ms hu
  unfold Nk at hv;split at hv <;> (try split at hv) <;> simp only [zn,reduceCtorEq] at hv <;> subst hv <;> simp only [binOp] <;>
   simp [Op.equal,Op.maxDepth,(ALO 9999 hu _ _).2,(ALO 9999 hu 0 .nilIface).1]
 ·cases hi
theorem AFm {op:BinOp}{T:Nat}{o1 o2:Operand}{x y v:Value}{w:World}(hv:Nk (YF o1||YF o2) op x y=some v):(eqGuard op T o1 o2 x y).run P w= .ok () w:=by
 have nn:(YF o1||YF o2)=true→(eqGuard op T o1 o2 .nilIface .nilIface).run P w= .ok () w:=by
  intro hl;cases o1 <;> cases o2 <;> simp [YF] at hl <;> simp [eqGuard]
 unfold Nk at hv;split at hv
 iterate 2
  ·simp [eqGuard]
 iterate 2
  ·split at hv
   ·rename_i hl;exact nn hl
   ·cases hv
 ·cases hv
end
section
variable {P:Program}{ω:Om}{n:Nat}{a:Act}{e:Env}{pn:Option (Value→M)}
theorem Eb {T:Nat}{f:TypeDesc→Nat→OpV}{r:OpV}(h:mkd P T f=r)(hr:r≠.no):∃kt E d,QC P T=some (kt,E)∧P.underlying kt=some d∧Vm d=true∧f d E=r:=by
 unfold mkd at h;obtain ⟨⟨kt,E⟩,h1,h⟩:=Iw h hr;obtain ⟨d,h2,h⟩:=Iw h hr;split at h
 ·rename_i hd;exact ⟨kt,E,d,h1,h2,hd,h⟩
 ·exact absurd h.symm hr
theorem HY {o:Oper}{v:Value}(hr:Rep n a e)(h:Ba P ω pn (e.ev n) o.op= .pure (some v))(w:World):(execOp a.eval o).run P w= .ok (.value v) w:=by
 obtain ⟨dst,op,type,pos,after,guard⟩:=o;simp only at h
 have key:∀{α:Type} {x:Option α} {f:α→OpV},opt x f= .pure (some v)→∃a,x=some a∧f a= .pure (some v):=λh=>Iw h zy;cases op
 case makeInterface T x=>
  simp only [Ba] at h;obtain ⟨u,hu,h⟩:=key h;split at h
  ·cases h
  ·rename_i hi
   obtain ⟨d,hd,h⟩:=key h;simp only [OpV.pure.injEq,zn] at h;subst h;simp [execOp,hr.ev hu,AHs hd (by simpa using hi)]
 case typeAssert x U T ok=>
  cases ok with
  |false=>exact Fh (o:=⟨dst,.typeAssert x U T false,type,pos,after,guard⟩) hr (by simpa only [Ba] using h) w
  |true=>
   simp only [Ba] at h;obtain ⟨u,hu,h⟩:=key h;split at h
   ·cases h
   ·rename_i hi
    obtain ⟨d,hd,h⟩:=key h;obtain ⟨z,hz,h⟩:=key h;simp only [OpV.pure.injEq] at h;simp [execOp,hr.ev hu,AEp hd (by simpa using hi) hz h]
 case binOp op T x y U=>
  simp only [Ba] at h;split at h
  ·rename_i hi
   obtain ⟨u,hu,h⟩:=key h;obtain ⟨u1,hu1,h⟩:=key h;simp only [OpV.pure.injEq] at h;simp [execOp,hr.ev hu,hr.ev hu1,AFm h,AEn hi h]
  ·split at h
   ·rename_i q hq
    obtain ⟨u,hu,h⟩:=key h;obtain ⟨u1,hu1,h⟩:=key h;simp only [OpV.pure.injEq] at h;simp [execOp,hr.ev hu,hr.ev hu1,ACK h,AEl (JU hq) h]
   ·exact Fh (o:=⟨dst,.binOp op T x y U,type,pos,after,guard⟩) hr h w
 case panic x=>
  simp only [Ba] at h;split at h
  ·cases h
  ·obtain ⟨u,hu,h⟩:=key h;split at h <;> cases h
 case makeMap T r=>
  cases r with
  |none=>simp only [Ba] at h;obtain ⟨u,hu,h⟩:=key h;cases h
  |some r=>
   simp only [Ba] at h;obtain ⟨u,hu,h⟩:=key h;obtain ⟨u1,hu1,h⟩:=key h;split at h <;> cases h
 case lookup T x i ok=>
  simp only [Ba] at h;obtain ⟨u,hu,h⟩:=key h;obtain ⟨u1,hu1,h⟩:=key h;obtain ⟨_,_,_,_,_,_,h⟩:=Eb h zy;obtain ⟨_,_,h⟩:=key h;cases h
 case mapUpdate T m k x=>
  simp only [Ba] at h;obtain ⟨u,hu,h⟩:=key h;obtain ⟨u1,hu1,h⟩:=key h;obtain ⟨u2,hu2,h⟩:=key h;obtain ⟨_,_,_,_,_,_,h⟩:=Eb h zy;cases h
 case insert T m k x=>
  simp only [Ba] at h;obtain ⟨u,hu,h⟩:=key h;obtain ⟨u1,hu1,h⟩:=key h;obtain ⟨u2,hu2,h⟩:=key h;obtain ⟨_,_,_,_,_,_,h⟩:=Eb h zy;cases h
 case range T x=>
  simp only [Ba] at h;obtain ⟨u,hu,h⟩:=key h;split at h <;> cases h
 case next x s=>
  cases s with
  |false=>exact Fh (o:=⟨dst,.next x false,type,pos,after,guard⟩) hr (by simpa only [Ba] using h) w
  |true=>simp only [Ba] at h;obtain ⟨u,hu,h⟩:=key h;cases h
 case call c=>
  obtain ⟨callee,args,argTypes⟩:=c;cases callee with
  |value f=>
   cases pn with
   |none=>exact Fh (o:=⟨dst,.call ⟨.value f,args,argTypes⟩,type,pos,after,guard⟩) hr (by simpa only [Ba] using h) w
   |some Pn=>
    simp only [Ba] at h;obtain ⟨u,hu,h⟩:=key h;obtain ⟨u1,hu1,h⟩:=key h;cases h
  |invoke r m=>exact Fh (o:=⟨dst,.call ⟨.invoke r m,args,argTypes⟩,type,pos,after,guard⟩) hr (by simpa only [Ba] using h) w
  |builtin b=>
   cases b
   all_goals exact Fh (o:=⟨dst,.call ⟨.builtin _,args,argTypes⟩,type,pos,after,guard⟩) hr (by simpa only [Ba] using h) w
 all_goals exact Fh (o:=⟨dst,_,type,pos,after,guard⟩) hr (by simpa only [Ba] using h) w
theorem JR {o:Oper}{R:Imm→LH→Value→Prop}(hr:Rep n a e)(h:Ba P ω pn (e.ev n) o.op= .read R){w:World}{I:Imm}{L:LH}(hs:St ω w I L){v:Value}(hv:R I L v):
  (execOp a.eval o).run P w= .ok (.value v) w:=by
 obtain ⟨dst,op,type,pos,after,guard⟩:=o;simp only at h
 have key:∀{α:Type} {x:Option α} {f:α→OpV},opt x f= .read R→∃a,x=some a∧f a= .read R:=λh=>Iw h zy;cases op
 case makeInterface T x=>
  simp only [Ba] at h;obtain ⟨u,hu,h⟩:=key h;split at h
  ·cases h
  ·obtain ⟨d,hd,h⟩:=key h;cases h
 case typeAssert x U T ok=>
  cases ok with
  |false=>exact Fg (o:=⟨dst,.typeAssert x U T false,type,pos,after,guard⟩) hr (by simpa only [Ba] using h) hs hv
  |true=>
   simp only [Ba] at h;obtain ⟨u,hu,h⟩:=key h;split at h
   ·cases h
   ·obtain ⟨d,hd,h⟩:=key h;obtain ⟨z,hz,h⟩:=key h;cases h
 case binOp op T x y U=>
  simp only [Ba] at h;split at h
  ·obtain ⟨u,hu,h⟩:=key h;obtain ⟨u1,hu1,h⟩:=key h;cases h
  ·split at h
   ·obtain ⟨u,hu,h⟩:=key h;obtain ⟨u1,hu1,h⟩:=key h;cases h
   ·exact Fg (o:=⟨dst,.binOp op T x y U,type,pos,after,guard⟩) hr h hs hv
 case panic x=>
  simp only [Ba] at h;split at h
  ·cases h
  ·obtain ⟨u,hu,h⟩:=key h;split at h <;> cases h
 case makeMap T r=>
  cases r with
  |none=>simp only [Ba] at h;obtain ⟨u,hu,h⟩:=key h;cases h
  |some r=>
   simp only [Ba] at h;obtain ⟨u,hu,h⟩:=key h;obtain ⟨u1,hu1,h⟩:=key h;split at h <;> cases h
 case lookup T x i ok=>
  simp only [Ba] at h;obtain ⟨u,hu,h⟩:=key h;obtain ⟨u1,hu1,h⟩:=key h;obtain ⟨kt,E,d,h1,h2,h3,h⟩:=Eb h zy;obtain ⟨z,hz,h⟩:=key h;simp only [OpV.read.injEq] at h;subst h;simp [execOp,hr.ev hu,hr.ev hu1,ALx h1 h2 h3 hz hs hv]
 case mapUpdate T m k x=>
  simp only [Ba] at h;obtain ⟨u,hu,h⟩:=key h;obtain ⟨u1,hu1,h⟩:=key h;obtain ⟨u2,hu2,h⟩:=key h;obtain ⟨_,_,_,_,_,_,h⟩:=Eb h zy;cases h
 case insert T m k x=>
  simp only [Ba] at h;obtain ⟨u,hu,h⟩:=key h;obtain ⟨u1,hu1,h⟩:=key h;obtain ⟨u2,hu2,h⟩:=key h;obtain ⟨_,_,_,_,_,_,h⟩:=Eb h zy;cases h
 case range T x=>
  simp only [Ba] at h;obtain ⟨u,hu,h⟩:=key h;split at h <;> cases h
 case next x s=>
  cases s with
  |false=>exact Fg (o:=⟨dst,.next x false,type,pos,after,guard⟩) hr (by simpa only [Ba] using h) hs hv
  |true=>simp only [Ba] at h;obtain ⟨u,hu,h⟩:=key h;cases h
 case call c=>
  obtain ⟨callee,args,argTypes⟩:=c;cases callee with
  |value f=>
   cases pn with
   |none=>exact Fg (o:=⟨dst,.call ⟨.value f,args,argTypes⟩,type,pos,after,guard⟩) hr (by simpa only [Ba] using h) hs hv
   |some Pn=>
    simp only [Ba] at h;obtain ⟨u,hu,h⟩:=key h;obtain ⟨u1,hu1,h⟩:=key h;cases h
  |invoke r m=>exact Fg (o:=⟨dst,.call ⟨.invoke r m,args,argTypes⟩,type,pos,after,guard⟩) hr (by simpa only [Ba] using h) hs hv
  |builtin b=>
   cases b
   all_goals exact Fg (o:=⟨dst,.call ⟨.builtin _,args,argTypes⟩,type,pos,after,guard⟩) hr (by simpa only [Ba] using h) hs hv
 all_goals exact Fg (o:=⟨dst,_,type,pos,after,guard⟩) hr (by simpa only [Ba] using h) hs hv
def AJE (pn:Option (Value→M)):Value→M:=match pn with
 |none=>λ_=>F
 |some p=>p
theorem IG {K Pn:Value→M}{s:Sem Value}{w:World}(h:∃v w' I' L',s.run P w= .ok v w'∧St ω w' I' L'∧K v I' L'):XB P ω K Pn ((do pure (.value (←s)):Sem Next).run P w):=by
 obtain ⟨v,w',I',L',hr,hs,hk⟩:=h;simp only [Sem.run_bind,hr,Result.andThen_ok,Sem.run_pure];exact ⟨I',L',hs,hk⟩
theorem Ro {K Pn:Value→M}{s:Sem Unit}{w:World}(h:∃w' I' L',s.run P w= .ok () w'∧St ω w' I' L'∧K undef I' L'):XB P ω K Pn ((do s;pure .skip:Sem Next).run P w):=by
 obtain ⟨w',I',L',hr,hs,hk⟩:=h;simp only [Sem.run_bind,hr,Result.andThen_ok,Sem.run_pure];exact ⟨I',L',hs,hk⟩
theorem Pm {o:Oper}{E:(Value→M)→M}(hr:Rep n a e)(h:Ba P ω pn (e.ev n) o.op= .eff E){w:World}{I:Imm}{L:LH}(hs:St ω w I L){K:Value→M}(hE':E K I L):
  XB P ω K (AJE pn) ((execOp a.eval o).run P w):=by
 obtain ⟨dst,op,type,pos,after,guard⟩:=o;simp only at h
 have key:∀{α:Type} {x:Option α} {f:α→OpV},opt x f= .eff E→∃a,x=some a∧f a= .eff E:=λh=>Iw h zy;cases op
 case makeInterface T x=>
  simp only [Ba] at h;obtain ⟨u,hu,h⟩:=key h;split at h
  ·cases h
  ·obtain ⟨d,hd,h⟩:=key h;cases h
 case typeAssert x U T ok=>
  cases ok with
  |false=>exact (II (o:=⟨dst,.typeAssert x U T false,type,pos,after,guard⟩) hr (by simpa only [Ba] using h) hs hE').toP
  |true=>
   simp only [Ba] at h;obtain ⟨u,hu,h⟩:=key h;split at h
   ·cases h
   ·obtain ⟨d,hd,h⟩:=key h;obtain ⟨z,hz,h⟩:=key h;cases h
 case binOp op T x y U=>
  simp only [Ba] at h;split at h
  ·obtain ⟨u,hu,h⟩:=key h;obtain ⟨u1,hu1,h⟩:=key h;cases h
  ·split at h
   ·obtain ⟨u,hu,h⟩:=key h;obtain ⟨u1,hu1,h⟩:=key h;cases h
   ·exact (II (o:=⟨dst,.binOp op T x y U,type,pos,after,guard⟩) hr h hs hE').toP
 case panic x=>
  simp only [Ba] at h;split at h
  ·cases h
  ·obtain ⟨u,hu,h⟩:=key h;split at h
   ·rename_i Pn v t x'
    simp only [OpV.eff.injEq] at h;subst h;have:(execOp a.eval ⟨dst,.panic x,type,pos,after,guard⟩).run P w= .halt (.panic (.iface t x')) w:=by
     simp [execOp,hr.ev hu,Instr.panic,goPanic,Sem.run_bind,Sem.run]
    rw [this];exact ⟨I,L,hs,hE'⟩
   ·cases h
 case makeMap T r=>
  cases r with
  |none=>
   simp only [Ba] at h;obtain ⟨q,hq,h⟩:=key h;simp only [OpV.eff.injEq] at h;subst h;exact IG (AAb hq (.inl rfl) hs hE')
  |some r=>
   simp only [Ba] at h;obtain ⟨q,hq,h⟩:=key h;obtain ⟨u1,hu1,h⟩:=key h;split at h
   ·simp only [OpV.eff.injEq] at h;subst h;exact IG (AAb hq (.inr ⟨_,_,congrArg some (hr.ev hu1)⟩) hs hE')
   ·cases h
 case lookup T x i ok=>
  simp only [Ba] at h;obtain ⟨u,hu,h⟩:=key h;obtain ⟨u1,hu1,h⟩:=key h;obtain ⟨kt,E,d,h1,h2,h3,h⟩:=Eb h zy;obtain ⟨z,hz,h⟩:=key h;cases h
 case mapUpdate T m k x=>
  simp only [Ba] at h;obtain ⟨u,hu,h⟩:=key h;obtain ⟨u1,hu1,h⟩:=key h;obtain ⟨u2,hu2,h⟩:=key h;obtain ⟨_,_,_,h1,h2,h3,h⟩:=Eb h zy;simp only [OpV.eff.injEq] at h;subst h;refine Ro ?_;rw [hr.ev hu,hr.ev hu1,hr.ev hu2];exact AAa h1 h2 h3 hs hE'
 case insert T m k x=>
  simp only [Ba] at h;obtain ⟨u,hu,h⟩:=key h;obtain ⟨u1,hu1,h⟩:=key h;obtain ⟨u2,hu2,h⟩:=key h;obtain ⟨_,_,_,h1,h2,h3,h⟩:=Eb h zy;simp only [OpV.eff.injEq] at h;subst h;refine Ro ?_;rw [hr.ev hu,hr.ev hu1,hr.ev hu2];exact AAa h1 h2 h3 hs hE'
 case range T x=>
  simp only [Ba] at h;obtain ⟨u,hu,h⟩:=key h;split at h
  ·rename_i hT
   simp only [OpV.eff.injEq] at h;subst h;refine IG ?_;rw [hr.ev hu];exact AHp hT hs (.inr ⟨rfl,hE'⟩)
  ·cases h
 case next x s=>
  cases s with
  |false=>exact (II (o:=⟨dst,.next x false,type,pos,after,guard⟩) hr (by simpa only [Ba] using h) hs hE').toP
  |true=>
   simp only [Ba] at h;obtain ⟨u,hu,h⟩:=key h;simp only [OpV.eff.injEq] at h;subst h;refine IG ?_;rw [hr.ev hu];exact AEd hs hE'
 case call c=>
  obtain ⟨callee,args,argTypes⟩:=c;cases callee with
  |value f=>
   cases pn with
   |none=>exact (II (o:=⟨dst,.call ⟨.value f,args,argTypes⟩,type,pos,after,guard⟩) hr (by simpa only [Ba] using h) hs hE').toP
   |some Pn=>
    simp only [Ba] at h;obtain ⟨u,hu,h⟩:=key h;obtain ⟨us,hus,h⟩:=key h;simp only [OpV.eff.injEq] at h;subst h;have:=ABk hs hE';have hargs:args.map a.eval=us.toArray:=by
     have:=Hm hr args.toList us hus;apply Array.ext'
     simpa using this
    have hrun:(execOp a.eval ⟨dst,.call ⟨.value f,args,argTypes⟩,type,pos,after,guard⟩)=(do let d ←Deferred.ofValue u us.toArray;invoke d.target d.args:Sem Next):=by
     simp only [execOp,resolve,hargs,hr.ev hu]
    rw [hrun];exact this
  |invoke r m=>exact (II (o:=⟨dst,.call ⟨.invoke r m,args,argTypes⟩,type,pos,after,guard⟩) hr (by simpa only [Ba] using h) hs hE').toP
  |builtin b=>
   cases b
   all_goals exact (II (o:=⟨dst,.call ⟨.builtin _,args,argTypes⟩,type,pos,after,guard⟩) hr (by simpa only [Ba] using h) hs hE').toP
 all_goals exact (II (o:=⟨dst,_,type,pos,after,guard⟩) hr (by simpa only [Ba] using h) hs hE').toP
end
def Fr (r:Option Nat):Fence:={Fence.wide with round:=r}
section
variable {P:Program}
def EW (P:Program)(o:Oper)(a:Act)(next:Act→World→Prop)(Q:Exit→Act→World→Prop):Result Next→Prop
 | .ok (.value v) w'=>next (a.put o.dst v) w'
 | .ok .skip w'=>next (a.put o.dst undef) w'
 | .ok (.defer d) w'=>next ({a with defers:=d::a.defers}.put o.dst undef) w'
 | .ok (.enter f args) w'=>Calls P f args w' λ
   | .returned v,w''=>next (a.put o.dst v) w''
   | .panicked chain,w''=>Q (.panic chain) a w''
   | .outgrown,_=>LetsOut Q
 | .ok (.row row args) w'=>Rows P row args w' λv w''=>next (a.put o.dst v) w''
 | .ok (.round l f tmps assign body) w'=>RoundIn Fence.wide 0 P l f tmps assign body w' λ
   | .returned v,w''=>next (a.put o.dst v) w''
   | .panicked chain,w''=>Q (.panic chain) a w''
   | .outgrown,_=>LetsOut Q
 | .halt (.panic v) w'=>Q (.panic [{v,recovered:=false}]) a w'
 |_=>False
def wpR (P:Program)(o:Oper)(a:Act)(w:World)(next:Act→World→Prop)(Q:Exit→Act→World→Prop):Prop:=EW P o a next Q ((execOp a.eval o).run P w)
def CO (P:Program)(ops:Array Oper)(Q:Exit→Act→World→Prop)(i:Nat)(K:Act→World→Prop)(a:Act)(w:World):Prop:=
 match ops[i]? with
 |none=>K a w
 |some o=>if Region.wanted o (yielded ops a.tmps) then wpR P o a w K Q else K (a.put o.dst undef) w
def Oc (P:Program)(ops:Array Oper)(Q:Exit→Act→World→Prop):List Nat→Act→World→Prop
 |[],a,w=>Q .normal a w
 |i::rest,a,w=>CO P ops Q i (Oc P ops Q rest) a w
def Jq (P:Program)(ops:Array Oper)(Q:Exit→Act→World→Prop):Nat→Array Bool→Act→World→Prop
 |0,listed,a,w=>Region.ready .any ops listed=[]∧Q .normal a w
 |fuel+1,listed,a,w=>
  (Region.ready .any ops listed=[]→Q .normal a w)∧
  ∀i∈Region.ready .any ops listed,CO P ops Q i (Jq P ops Q fuel (listed.setIfInBounds i true)) a w
def okD (r:Option Nat)(o:Oper):Prop:=r=none∨∀c,o.op≠.defer c
variable {r:Option Nat}{n:Nat}{ops:Array Oper}{Q:Exit→Act→World→Prop}
theorem XP {o:Oper}{a:Act}{K K':Act→World→Prop}{res:Result Next}(h:∀a w,K a w→K' a w)(hh:EW P o a K Q res):EW P o a K' Q res:=by
 cases res with
 |ok x w'=>
  cases x <;> simp only [EW] at hh ⊢ <;>
   first
    |exact h _ _ hh
    |exact Calls.mono hh (λe w'' he=>by cases e <;> first|exact h _ _ he|exact he)
    |exact Rows.mono hh (λ_ _ he=>h _ _ he)
    |exact RoundIn.mono hh (λe w'' he=>by cases e <;> first|exact h _ _ he|exact he)
 |halt x w'=>cases x <;> simp only [EW] at hh ⊢ <;> exact hh
theorem EL {i:Nat}{a:Act}{w:World}{K K':Act→World→Prop}(h:∀a w,K a w→K' a w)(hh:CO P ops Q i K a w):CO P ops Q i K' a w:=by
 unfold CO at *;split
 ·exact h _ _ (by simpa [*] using hh)
 ·rename_i o ho
  simp only [ho] at hh;split
  ·rename_i hw;simp only [hw,if_true] at hh;exact XP h hh
  ·rename_i hw;simp only [hw] at hh;exact h _ _ hh
theorem ALf {o:Oper}{a:Act}{w:World}{K:Act→World→Prop}(hd:okD r o)(h:wpR P o a w K Q):o.wpIn (Fr r) n P a w K Q:=by
 unfold Oper.wpIn;refine ⟨λ_ _=>trivial,?_⟩;have hsem:o.semAt (Fr r).round a.eval=execOp a.eval o:=by
  rcases hd with rfl|hd
  ·rfl
  ·exact Oper.semAt_eq _ _ _ hd
 rw [hsem];unfold wpR at h;have hdep:(Fr r).depth.isSome=true→1≤n:=λh=>by simp [Fr,Fence.wide] at h
 generalize (execOp a.eval o).run P w=res at *;cases res with
 |ok x w'=>
  cases x <;> simp only [EW,Oper.uponIn] at h ⊢
  case value v=>exact h
  case skip=>exact h
  case defer d=>exact h
  case enter f args=>exact ⟨hdep,(callsIn_wide (n:=n - 1)).2 h⟩
  case row row args=>exact ⟨hdep,λc cs _=>let ⟨v,w',q,s⟩:=h c cs;⟨v,w',q,stepsIn_wide.2 s⟩⟩
  case round l f tmps assign body=>exact ⟨hdep,⟨trivial,λc cs _=>h.2 c cs (room_wide _)⟩⟩
 |halt x w'=>cases x <;> simp only [EW,Oper.uponIn] at h ⊢ <;> exact h
theorem Ul {i:Nat}{a:Act}{w:World}{K K':Act→World→Prop}(hd:∀o∈ops,okD r o)(hK:∀a w,K a w→K' a w)(h:CO P ops Q i K a w):wpOpIn (Fr r) n P ops Q i K' a w:=by
 have h:=EL hK h;unfold CO at h;unfold wpOpIn;split
 ·simpa [*] using h
 ·rename_i o ho
  simp only [ho] at h;split
  ·rename_i hw;simp only [hw,if_true] at h;exact ALf (hd o (zaY ho)) h
  ·rename_i hw;simp only [hw] at h;exact ⟨λ_ _=>trivial,h⟩
theorem Qw (hd:∀o∈ops,okD r o):∀(l:List Nat) (a:Act) (w:World),Oc P ops Q l a w→wpOpsIn (Fr r) n P ops Q l a w
 |[],a,w,h=>h
 |i::l,a,w,h=>by
  rw [wpOpsIn_cons];exact Ul hd (λa w h=>Qw hd l a w h) h
theorem Qx (hd:∀o∈ops,okD r o):∀(f:Nat) (listed:Array Bool) (a:Act) (w:World),Jq P ops Q f listed a w→wpAnyIn (Fr r) n P .any ops Q f listed a w
 |0,listed,a,w,h=>h
 |f+1,listed,a,w,h=>⟨h.1,λi hi=>Ul hd (λa w h=>Qx hd f _ a w h) (h.2 i hi)⟩
theorem Xn {id:Nat}{a:Act}{w:World}(hd:∀o∈ops,okD r o)(h:Oc P ops Q (List.range ops.size) a w):(Code.region id ops false).wpIn (Fr r) n P Q a w:=
 wpIn_region (Qw hd _ a w h)
theorem PW {id:Nat}{a:Act}{w:World}(hm:P.follows .mixedOrders=true)(hd:∀o∈ops,okD r o)(h:Jq P ops Q ops.size (Array.replicate ops.size false) a {w with drawn:=w.drawn+1}):
  (Code.region id ops true).wpIn (Fr r) n P Q a w:=
 wpIn_region_any hm (Qx hd _ _ _ _ h)
def Qp (PQ:List PanicEntry→List Deferred→World→Prop):Exit→Act→World→Prop
 | .panic c,a,w=>PQ c a.defers w
 |_,_,_=>False
variable {PQ:List PanicEntry→List Deferred→World→Prop}
theorem qp_put {c:List PanicEntry}{a:Act}{d:Option Tmp}{v:Value}{w:World}:Qp PQ (.panic c) (a.put d v) w↔Qp PQ (.panic c) a w:=by
 cases d <;> exact Iff.rfl
theorem UI:¬LetsOut (Qp PQ):=λ⟨_,_,h⟩=>h
theorem Yg {i:Nat}{K:Act→World→Prop}{a:Act}{w:World}(hQ:∀c w,PQ c a.defers w→Q (.panic c) a w)(h:CO P ops (Qp PQ) i K a w):CO P ops Q i K a w:=by
 unfold CO at *;split
 ·simpa [*] using h
 ·rename_i o ho
  simp only [ho] at h;split
  ·rename_i hw
   simp only [hw,if_true] at h;unfold wpR at *;generalize (execOp a.eval o).run P w=res at *;cases res with
   |ok x w'=>
    cases x <;> simp only [EW] at h ⊢ <;> first
     |exact h
     |exact Calls.mono h (λe w'' he=>by cases e <;> first|exact he|exact hQ _ _ he|exact (UI he).elim)
     |exact RoundIn.mono h (λe w'' he=>by cases e <;> first|exact he|exact hQ _ _ he|exact (UI he).elim)
   |halt x w'=>cases x <;> simp only [EW] at h ⊢ <;> exact hQ _ _ h
  ·rename_i hw;simp only [hw] at h;exact h
end
section
variable {P:Program}{ω:Om}{n:Nat}
def yb (v:Value)(want:Bool):Bool:=match v with
 | .bool x=>x==want
 |_=>false
def MdOk (n:Nat)(ops:Array Oper)(md:Md)(e:Env):Prop:=
 ∀f∈md,f.1 < n∧∃v,e.t f.1=some v∧yb v f.2.1=f.2.2
theorem MdOk.none (ops:Array Oper)(e:Env):MdOk n ops [] e:=λ_ h=>by cases h
theorem MdOk.cons {ops:Array Oper}{md:Md}{e:Env}(h:MdOk n ops md e){t:Tmp}{want b:Bool}{v:Value}(ht:t < n)(hv:e.t t=some v)(hb:yb v want=b):MdOk n ops ((t,want,b)::md) e:=by
 intro f hf;rcases zK.1 hf with rfl|hf
 ·exact ⟨ht,v,hv,hb⟩
 ·exact h f hf
theorem MdOk.forget {ops:Array Oper}{md:Md}{e:Env}(h:MdOk n ops md e)(d:Option Tmp)(v:Value):MdOk n ops (forget d md) (e.upd d v):=by
 cases d with
 |none=>exact h
 |some d=>
  intro f hf;simp only [SL.forget,List.mem_filter] at hf;obtain ⟨h1,v',h2,h3⟩:=h f hf.1;refine ⟨h1,v',?_,h3⟩;have:Nat.beq f.1 d=false:=by simpa using hf.2
  simp only [Env.upd,this,zl,if_false,h2]
theorem MdOk.skd {ops:Array Oper}{md:Md}{e:Env}(h:MdOk n ops md e)(d:Option Tmp):MdOk n ops (skd n d md) (e.upd d undef):=by
 cases d with
 |none=>exact h
 |some d=>
  have hf:=h.forget (some d) undef;simp only [SL.skd];split
  ·rename_i hb
   have hlt:d < n:=by simpa [zbr] using hb
   exact (hf.cons (v:=undef) hlt (by simp [Env.upd]) rfl).cons (v:=undef) hlt (by simp [Env.upd]) rfl
  ·exact hf
theorem Ua:∀{md:Md} {t:Tmp} {want b:Bool},dec md t want=some b→(t,want,b)∈md
 |[],_,_,_,h=>by simp [dec] at h
 |(t',want',b')::r,t,want,b,h=>by
  simp only [dec] at h;split at h
  ·rename_i hc
   simp only [zQ,beq_iff_eq] at hc;simp only [zn] at h;rw [←zX hc.1,←hc.2,←h];exact zJ ..
  ·exact zV _ (Ua h)
theorem Hr {a:Act}{e:Env}(hr:Rep n a e){ops:Array Oper}{g:Nat}{t:Tmp}{v:Value}{want:Bool}(hg:ACJ ops g=some t)(ht:t < n)(hx:e.t t=some v):(yielded ops a.tmps g==some want)=yb v want:=by
 unfold yielded;unfold ACJ at hg;rw [hg];have h:=hr.at' t _ ht hx;have hlt:t < a.tmps.size:=by rw [hr.size];exact ht
 rw [zau,zaD hlt] at h;simp only [zbv,zaD hlt];simp only [Option.getD_some] at h;rw [h];cases v <;> simp [yb]
theorem Rep.known {n:Nat}{a:Act}{e:Env}(h:Rep n a e){t:Tmp}{v:Value}(hv:e.t t=some v):Rep n a (e.upd (some t) v):=by
 refine ⟨h.size,h.defers,λt' v' ht' hv'=>?_⟩;simp only [Env.upd] at hv';split at hv'
 ·rename_i hb
  have:=zX hb;subst this;simp only [zn] at hv';subst hv';exact h.at' t' _ ht' hv
 ·exact h.at' t' v' ht' hv'
theorem KT (e:Env)(t:Tmp)(v:Value):(e.upd (some t) v).t t=some v:=by simp [Env.upd]
theorem Vr {ops:Array Oper}{md:Md}{o:Oper}{e:Env}{A B:Md→Env→M}{I:Imm}{L:LH}{a:Act}(hr:Rep n a e)(hmd:MdOk n ops md e)(h:grd n ops o md e A B I L):
  ∃(e':Env) (md':Md),Rep n a e'∧MdOk n ops md' e'∧((Region.wanted o (yielded ops a.tmps)=true∧A md' e' I L)∨(Region.wanted o (yielded ops a.tmps)=false∧B md' e' I L)):=by
 unfold grd at h;unfold Region.wanted;cases hgd:o.guard with
 |none=>rw [hgd] at h;exact ⟨e,md,hr,hmd,.inl ⟨rfl,h⟩⟩
 |some gw=>
  obtain ⟨g,want⟩:=gw;rw [hgd] at h;simp only at h ⊢
  cases hgv:ACJ ops g with
  |none=>rw [hgv] at h;exact h.elim
  |some t=>
   rw [hgv] at h;simp only at h
   cases hd:dec md t want with
   |some b=>
    obtain ⟨ht,v,hv,hb⟩:=hmd _ (Ua hd);have fin:=Hr (want:=want) hr hgv ht hv;simp only at hb
    rw [hb] at fin;rw [hd] at h;cases b with
    |true=>exact ⟨e,md,hr,hmd,.inl ⟨fin,h⟩⟩
    |false=>exact ⟨e,md,hr,hmd,.inr ⟨fin,h⟩⟩
   |none=>
    rw [hd] at h;simp only [Env.ev] at h;by_cases ht:t < n
    ·have htb:Nat.blt t n=true:=by simpa [zbr] using ht
     simp only [htb,if_true] at h;cases hv:e.t t with
     |none=>rw [hv] at h;exact h.elim
     |some v=>
      rw [hv] at h;simp only at h
      have fin:=Hr (want:=want) hr hgv ht hv;have hup:∀u,e.t t=some u→MdOk n ops md (e.upd (some t) u):=by
       intro u hu f hf;obtain ⟨h1,v',h2,h3⟩:=hmd f hf;refine ⟨h1,v',?_,h3⟩;simp only [Env.upd];split
       ·rename_i hb
        have:=zX hb;rw [this,hu] at h2;exact h2
       ·exact h2
      unfold Gd at h;split at h
      ·rename_i x
       split at h
       ·rename_i hb
        have hx:x=want:=by simpa using hb
        subst hx;exact ⟨_,_,hr.known hv,(hup _ hv).cons ht (KT e t (.bool x)) (by simp [yb]),.inl ⟨by rw [fin];simp [yb],h⟩⟩
       ·rename_i hb
        have hb':(x==want)=false:=by simpa using hb
        have hx:x= !want:=by revert hb';cases x <;> cases want <;> decide
        subst hx;exact ⟨_,_,hr.known hv,(hup _ hv).cons ht (KT e t _) hb',.inr ⟨by rw [fin];exact hb',h⟩⟩
      ·exact h.elim
    ·have htb:Nat.blt t n=false:=by
      cases hb:Nat.blt t n with
      |false=>rfl
      |true=>exact absurd (by simpa [zbr] using hb) ht
     simp only [htb,zl,if_false] at h;exact h.elim
theorem RG {pn:Pnf}{S:Option M}{nd:Nat→Bool}{ops:Array Oper}{i:Nat}{md:Md}{o:Oper}{rest:List Oper}{e:Env}{K:Env→M}{I:Imm}{L:LH}{a:Act}
  (hr:Rep n a e) (hmd:MdOk n ops md e) (h:Dw P ω pn S nd n ops i md (o::rest) e K I L):
  ∃e':Env,Rep n a e'∧MR pn e'=MR pn e∧(
  (Region.wanted o (yielded ops a.tmps)=true∧∃md',(∀v,MdOk n ops md' (e'.upd o.dst v))∧Oi P ω (MR pn e) S (nd i) (e'.ev n) o.op (λv=>Dw P ω pn S nd n ops (i+1) md' rest (e'.upd o.dst v) K) I L)∨
  (Region.wanted o (yielded ops a.tmps)=false∧∃md',MdOk n ops md' (e'.upd o.dst undef)∧skM S (nd i) (opk P o.op) (Dw P ω pn S nd n ops (i+1) md' rest (e'.upd o.dst undef) K) I L)∨
  (Region.wanted o (yielded ops a.tmps)=true∧S.isNone=true∧∃d md',dfr P (e'.ev n) o.op=some d∧MdOk n ops md' (e'.upd o.dst undef)∧Dw P ω pn S nd n ops (i+1) md' rest ((e'.upd o.dst undef).df' (d::e'.df)) K I L)):=by
 simp only [Dw] at h;unfold Region.wanted;cases hgd:o.guard with
 |none=>
  rw [hgd] at h;simp only at h
  cases hd:dfr P (e.ev n) o.op with
  |none=>rw [hd] at h;exact ⟨e,hr,rfl,.inl ⟨rfl,_,λv=>hmd.forget _ v,h⟩⟩
  |some d=>
   rw [hd] at h;simp only at h
   split at h
   ·rename_i hS
    exact ⟨e,hr,rfl,.inr (.inr ⟨rfl,hS,d,_,hd,hmd.forget _ undef,h⟩)⟩
   ·exact h.elim
 |some gw=>
  obtain ⟨g,want⟩:=gw;rw [hgd] at h;simp only at h ⊢
  cases hgv:ACJ ops g with
  |none=>rw [hgv] at h;exact h.elim
  |some t=>
   rw [hgv] at h;simp only at h
   cases hd:dec md t want with
   |some b=>
    obtain ⟨ht,v,hv,hb⟩:=hmd _ (Ua hd);have fin:=Hr (want:=want) hr hgv ht hv;simp only at hb
    rw [hb] at fin;rw [hd] at h;cases b with
    |true=>exact ⟨e,hr,rfl,.inl ⟨fin,_,λv=>hmd.forget _ v,h⟩⟩
    |false=>exact ⟨e,hr,rfl,.inr (.inl ⟨fin,_,hmd.skd _,h⟩)⟩
   |none=>
    rw [hd] at h;simp only [Env.ev] at h;by_cases ht:t < n
    ·have htb:Nat.blt t n=true:=by simpa [zbr] using ht
     simp only [htb,if_true] at h;cases hv:e.t t with
     |none=>rw [hv] at h;exact h.elim
     |some v=>
      rw [hv] at h;simp only at h
      have fin:=Hr (want:=want) hr hgv ht hv;have hup:∀u,e.t t=some u→MdOk n ops md (e.upd (some t) u):=by
       intro u hu f hf;obtain ⟨h1,v',h2,h3⟩:=hmd f hf;refine ⟨h1,v',?_,h3⟩;simp only [Env.upd];split
       ·rename_i hb
        have:=zX hb;rw [this,hu] at h2;exact h2
       ·exact h2
      unfold Gd at h;split at h
      ·rename_i x
       split at h
       ·rename_i hb
        have hx:x=want:=by simpa using hb
        subst hx;refine ⟨_,hr.known hv,by cases pn <;> rfl,.inl ⟨by rw [fin];simp [yb],_,λv=>((hup _ hv).cons ht (KT e t (.bool x)) (by simp [yb])).forget _ v,h⟩⟩
       ·rename_i hb
        have hb':(x==want)=false:=by simpa using hb
        have hx:x= !want:=by revert hb';cases x <;> cases want <;> decide
        subst hx;refine ⟨_,hr.known hv,by cases pn <;> rfl,.inr (.inl ⟨by rw [fin];exact hb',_,((hup _ hv).cons ht (KT e t _) hb').skd _,h⟩)⟩
      ·exact h.elim
    ·have htb:Nat.blt t n=false:=by
      cases hb:Nat.blt t n with
      |false=>rfl
      |true=>exact absurd (by simpa [zbr] using hb) ht
     simp only [htb,zl,if_false] at h;exact h.elim
theorem Hu {o:Oper}{a:Act}{K Pn:Value→M}{r:Result Next}{Kw:Act→World→Prop}{Q:Exit→Act→World→Prop}
  (hk:∀v w' I' L',St ω w' I' L'→K v I' L'→Kw (a.put o.dst v) w') (hp:∀v w' I' L',St ω w' I' L'→Pn v I' L'→Q (.panic [{v,recovered:=false}]) a w') (h:XB P ω K Pn r):EW P o a Kw Q r:=by
 unfold XB at h;split at h
 iterate 2
  ·obtain ⟨I',L',hs,hk'⟩:=h;exact hk _ _ I' L' hs hk'
 ·refine Calls.mono h λe w' he=>?_;obtain ⟨v,I',L',hs,⟨rfl,hk'⟩|⟨rfl,hp'⟩⟩:=he
  ·exact hk _ _ I' L' hs hk'
  ·exact hp _ _ I' L' hs hp'
 ·refine RoundIn.mono h λe w' he=>?_;obtain ⟨v,I',L',rfl,hs,hk'⟩:=he;exact hk _ _ I' L' hs hk'
 ·obtain ⟨I',L',hs,hp'⟩:=h;exact hp _ _ I' L' hs hp'
 ·exact h.elim
theorem AHU {o:Oper}{a:Act}{e:Env}(hr:Rep n a e){pn:Option (Value→M)}{need:Bool}{K:Value→M}{w:World}{I:Imm}{L:LH}(hs:St ω w I L)(h:Oi P ω pn none need (e.ev n) o.op K I L)
  {Kw:Act→World→Prop} {Q:Exit→Act→World→Prop} (hk:∀v w' I' L',St ω w' I' L'→K v I' L'→Kw (a.put o.dst v) w') (hp:∀v w' I' L',St ω w' I' L'→AJE pn v I' L'→Q (.panic [{v,recovered:=false}]) a w'):wpR P o a w Kw Q:=by
 unfold Oi at h;unfold wpR;cases hop:Ba P ω pn (e.ev n) o.op with
 |pure r=>
  rw [hop] at h;simp only [chk,Option.isSome_none,zak,Bool.true_or,if_true] at h;cases r with
  |some v=>
   rw [HY hr hop w];exact hk _ _ I L hs h
  |none=>exact h.elim
 |read R=>
  rw [hop] at h;simp only [chk,Option.isSome_none,zak,Bool.true_or,if_true,Rv] at h;obtain ⟨v,hv,hK⟩:=h;rw [JR hr hop hs hv];exact hk _ _ I L hs hK
 |eff E=>
  rw [hop] at h;simp only [chk,Option.isSome_none,zak,Bool.true_or,if_true,kp] at h;exact Hu (λv w' I' L' hs' hg=>by obtain ⟨I2,L2,hs2,hk2⟩:=LM hs' hg;exact hk v w' I2 L2 hs2 hk2) hp (Pm hr hop hs h)
 |no=>rw [hop] at h;exact h.elim
def ABL (ω:Om)(pn:Pnf)(Jv:Act→Prop)(Q:Exit→Act→World→Prop):Prop:=∀(a:Act) (e:Env) (w:World) (v:Value) (I:Imm) (L:LH),Jv a→a.defers=dfs e.df→St ω w I L→AJE (MR pn e) v I L→Q (.panic [{v,recovered:=false}]) a w
def df1:Df→Deferred
 | .col D=>{target:=.collected D,args:=#[]}
 | .fn f cap args=>{target:=.fn (.func f) cap.toArray,args:=args.toArray}
theorem AFx (d:Df)(l:List Df):dfs (d::l)=df1 d::dfs l:=by cases d <;> rfl
theorem ABj {a:Act}{e:Env}(hr:Rep n a e){o:Oper}{d:Df}(h:dfr P (e.ev n) o.op=some d)(w:World):
  (execOp a.eval o).run P w= .ok (.defer (df1 d)) w:=by
 unfold dfr at h;split at h
 ·rename_i f args argTypes hop
  split at h
  ·rename_i g first cap vs hf hvs
   split at h
   ·simp only [zn] at h;subst h;have h1:=hr.ev hf;have h2:args.map a.eval=vs.toArray:=by
     have:=Hm hr args.toList vs hvs;apply Array.ext'
     simpa using this
    simp only [execOp,hop,resolve,h1,h2,Deferred.ofValue,df1,Sem.run_bind,Sem.run_pure,Result.andThen_ok];simp
   ·cases h
  ·cases h
 ·cases h
theorem Rep.defer {a:Act}{e:Env}(hr:Rep n a e)(o:Oper)(d:Df):Rep n ({a with defers:=df1 d::a.defers}.put o.dst undef) ((e.upd o.dst undef).df' (d::e.df)):=by
 have h:=hr.put o.dst undef;refine ⟨?_,?_,λt v ht hv=>?_⟩
 ·have:=h.size;cases hd:o.dst <;> simp only [hd,Act.put] at this ⊢ <;> exact this
 ·rw [show ((e.upd o.dst undef).df' (d::e.df)).df=d::e.df from rfl,AFx,←hr.defers];cases hd:o.dst <;> rfl
 ·have:=h.at' t v ht hv;cases hd:o.dst <;> simp only [hd,Act.put] at this ⊢ <;> exact this
theorem Ht {pn:Pnf}{ops:Array Oper}{nd:Nat→Bool}{K:Env→M}{Q:Exit→Act→World→Prop}{Iv Jv:Act→Prop}(hI:∀a o v,o∈ops→Iv a→Iv (a.put o.dst v))(hId:∀a o ds,o∈ops→(∃c,o.op= .defer c)→Iv a→Iv (({a with defers:=ds}:Act).put o.dst undef))
  (hQ:∀a w e I L,Iv a→Rep n a e→St ω w I L→K e I L→Q .normal a w) (hIJ:∀a,Iv a→Jv a) (hP:ABL ω pn Jv Q):
  ∀(rest:List Oper) (i:Nat) (md:Md) (e:Env) (a:Act) (w:World) (I:Imm) (L:LH),(∀k,rest[k]? =ops[i+k]?)→Iv a→Rep n a e→MdOk n ops md e→St ω w I L→
   Dw P ω pn none nd n ops i md rest e K I L→Oc P ops Q (List.range' i rest.length) a w
 |[],i,md,e,a,w,I,L,_,hv,hr,_,hs,h=>hQ a w e I L hv hr hs h
 |o::rest,i,md,e,a,w,I,L,hops,hv,hr,hmd,hs,h=>by
  have ho:ops[i]? =some o:=by have:=hops 0;simpa using this.symm
  have hom:o∈ops:=zaY ho;have hops':∀k,rest[k]? =ops[(i+1)+k]? :=λk=>by
   have:=hops (k+1);simp only [zac] at this;rw [this];congr 1;omega
  simp only [zi,List.range'_succ,Oc,CO,ho];obtain ⟨e',hr,hpe,hstep⟩:=RG hr hmd h;rcases hstep with ⟨hw,md',hmd',h⟩|⟨hw,md',hmd',h⟩|⟨hw,_,d,md',hd,hmd',h⟩
  ·simp only [hw,if_true];exact AHU hr hs h (λv w' I' L' hs' hk=>Ht hI hId hQ hIJ hP rest (i+1) md' _ _ w' I' L' hops' (hI _ o v hom hv) (hr.put _ _) (hmd' v) hs' hk)
    (λv w' I' L' hs' hp=>hP a e' w' v I' L' (hIJ a hv) hr.defers hs' (by rw [hpe];exact hp))
  ·simp only [hw,zl,if_false];exact Ht hI hId hQ hIJ hP rest (i+1) md' _ _ w I L hops' (hI _ o _ hom hv) (hr.put _ _) hmd' hs h
  ·simp only [hw,if_true];unfold wpR;rw [ABj hr hd w];have hdo:∃c,o.op= .defer c:=by
    unfold dfr at hd;split at hd
    ·rename_i hop;exact ⟨_,hop⟩
    ·cases hd
   exact Ht hI hId hQ hIJ hP rest (i+1) md' _ _ w I L hops' (hId _ o _ hom hdo hv) (hr.defer o d) hmd' hs h
theorem Xm {r:Option Nat}{m:Nat}{pn:Pnf}{ops:Array Oper}{nd:Nat→Bool}{K:Env→M}{Q:Exit→Act→World→Prop}{id:Nat}{e:Env}{a:Act}{w:World}{I:Imm}{L:LH}
  {Iv Jv:Act→Prop} (hd:∀o∈ops,okD r o) (hI:∀a o v,o∈ops→Iv a→Iv (a.put o.dst v)) (hId:∀a o ds,o∈ops→(∃c,o.op= .defer c)→Iv a→Iv (({a with defers:=ds}:Act).put o.dst undef)) (hv:Iv a)
  (hQ:∀a w e I L,Iv a→Rep n a e→St ω w I L→K e I L→Q .normal a w) (hIJ:∀a,Iv a→Jv a) (hP:ABL ω pn Jv Q) (hr:Rep n a e) (hs:St ω w I L) (h:Dw P ω pn none nd n ops 0 [] ops.toList e K I L):
  (Code.region id ops false).wpIn (Fr r) m P Q a w:=by
 refine Xn hd ?_;have:=Ht hI hId hQ hIJ hP ops.toList 0 [] e a w I L (λk=>by simp) hv hr (MdOk.none _ _) hs h;rw [List.range_eq_range'];simpa using this
end
section
variable {P:Program}{PQ:List PanicEntry→List Deferred→World→Prop}{ops:Array Oper}{Sw:World→Prop}{kd:Nat→Nat}{nd:Nat→Bool}{Fin:Act→World→Prop}
def Ser (P : Program) (PQ : List PanicEntry → List Deferred → World → Prop) (ops : Array Oper) (Sw : World → Prop) (kd : Nat → Nat) (nd : Nat → Bool) (Fin : Act → World → Prop) : List Nat → Act → World → Prop
  | [], a, w => Fin a w
  | i :: l, a, w => ∃ o, ops[i]? = some o ∧
      ((kd i = 2 ∧ CO P ops (Qp PQ) i (λa' w' => (nd i = true → Sw w') ∧ Ser P PQ ops Sw kd nd Fin l a' w') a w) ∨
       (kd i ≠ 2 ∧ ∃ v, YieldsIf P ops (λw => kd i = 1 → Sw w) o v a ∧ Ser P PQ ops Sw kd nd Fin l (a.put o.dst v) w))
theorem MF {j:Nat}{oj:Oper}(hj:ops[j]? =some oj){K:Act→World→Prop}{a:Act}{w:World}(h:CO P ops (Qp PQ) j K a w):
  CO P ops (Qp PQ) j (λa' w'=>(∃u ds,a'=({a with defers:=ds}:Act).put oj.dst u)∧K a' w') a w:=by
 unfold CO at *;simp only [hj] at *;split
 ·rename_i hw
  simp only [hw,if_true] at h;unfold wpR at *;generalize (execOp a.eval oj).run P w=r at *;cases r with
  |ok x w'=>
   cases x <;> simp only [EW] at h ⊢
   case value v=>exact ⟨⟨v,a.defers,rfl⟩,h⟩
   case skip=>exact ⟨⟨undef,a.defers,rfl⟩,h⟩
   case defer d=>exact ⟨⟨undef,d::a.defers,rfl⟩,h⟩
   case enter f args=>exact Calls.mono h (λe w'' he=>by cases e <;> first|exact ⟨⟨_,a.defers,rfl⟩,he⟩|exact he)
   case row r args=>exact Rows.mono h (λv w'' he=>⟨⟨v,a.defers,rfl⟩,he⟩)
   case round l f tmps assign body=>exact RoundIn.mono h (λe w'' he=>by cases e <;> first|exact ⟨⟨_,a.defers,rfl⟩,he⟩|exact he)
  |halt x w'=>cases x <;> simp only [EW] at h ⊢ <;> exact h
 ·rename_i hw;simp only [hw] at h
  exact ⟨⟨undef,a.defers,rfl⟩,h⟩
theorem ABP {j:Nat}{K:Act→World→Prop}{a:Act}{w:World}(hst:∀c ds w,¬PQ c ds w)(h:CO P ops (Qp PQ) j K a w):∃a' w',K a' w':=by
 unfold CO at h;split at h
 ·exact ⟨_,_,h⟩
 ·rename_i o ho
  split at h
  ·unfold wpR at h;cases hrun:(execOp a.eval o).run P w with
   |ok x w'=>
    rw [hrun] at h;cases x <;> simp only [EW] at h
    case value v=>exact ⟨_,_,h⟩
    case skip=>exact ⟨_,_,h⟩
    case defer d=>exact ⟨_,_,h⟩
    case enter f args=>
     obtain ⟨e,w'',fr,he,_⟩:=h [];cases e with
     |returned v=>exact ⟨_,_,he⟩
     |panicked c=>exact (hst _ _ _ he).elim
     |outgrown=>exact (UI he).elim
    case row r args=>obtain ⟨v,w'',hR,_⟩:=h default [];exact ⟨_,_,hR⟩
    case round l f tmps assign body=>
     obtain ⟨e,w'',he,_⟩:=h.2 default [] (room_wide _);cases e with
     |returned v=>exact ⟨_,_,he⟩
     |panicked c=>exact (hst _ _ _ he).elim
     |outgrown=>exact (UI he).elim
   |halt x w'=>
    rw [hrun] at h;cases x <;> simp only [EW] at h
    exact (hst _ _ _ h).elim
  ·exact ⟨_,_,h⟩
theorem Ql {j:Nat}{oi oj:Oper}{v:Value}(hj:ops[j]? =some oj)(hap:oi.apart ops oj=true)(hsj:∀cs b,oj.op≠.select cs b)
  {K:Act→World→Prop} {a:Act} {w:World} (h:CO P ops (Qp PQ) j (λa' w'=>K (a'.put oi.dst v) w') a w):CO P ops (Qp PQ) j K (a.put oi.dst v) w:=by
 obtain ⟨h1,h2,h3⟩:=Oper.apart_spec hap;unfold CO at *;simp only [hj] at *;rw [wanted_put oj a oi.dst v h1];split
 ·rename_i hw
  simp only [hw,if_true] at h;unfold wpR at *;rw [execOp_put oj hsj a oi.dst v h1];generalize (execOp a.eval oj).run P w=r at *;cases r with
  |ok x w'=>
   cases x <;> simp only [EW] at h ⊢
   case value u=>rw [Act.put_comm a v u h2];exact h
   case skip=>rw [Act.put_comm a v undef h2];exact h
   case defer d=>
    rw [Act.put_defers,Act.put_comm _ v undef h2];exact h
   case enter f args=>exact Calls.mono h (λe w'' he=>by cases e <;> first|(simp only at he ⊢;rw [Act.put_comm a v _ h2];exact he)|exact qp_put.2 he|exact he)
   case row r args=>exact Rows.mono h (λu w'' he=>by rw [Act.put_comm a v u h2];exact he)
   case round l f tmps assign body=>exact RoundIn.mono h (λe w'' he=>by cases e <;> first|(simp only at he ⊢;rw [Act.put_comm a v _ h2];exact he)|exact qp_put.2 he|exact he)
  |halt x w'=>cases x <;> simp only [EW] at h ⊢ <;> exact qp_put.2 h
 ·rename_i hw;simp only [hw] at h
  rw [Act.put_comm a v undef h2];exact h
theorem Yf {Q:Exit→Act→World→Prop}{S:World→Prop}{i:Nat}{o:Oper}{v:Value}{a:Act}(hi:ops[i]? =some o)(hy:YieldsIf P ops S o v a)
  {K:Act→World→Prop} {w:World} (hS:S w) (h:K (a.put o.dst v) w):CO P ops Q i K a w:=by
 unfold CO;simp only [hi];rcases hy with ⟨hw,hv⟩|⟨hw,rfl⟩
 ·simp only [hw,if_true,wpR,hv w hS,EW];exact h
 ·simp only [hw,zl,if_false];exact h
theorem NJ {S:World→Prop}{j:Nat}{oi oj:Oper}{v:Value}(hj:ops[j]? =some oj)(hap:oi.apart ops oj=true)
  (hsi:∀cs b,oi.op≠.select cs b) (hsj:∀cs b,oj.op≠.select cs b) {K:Act→World→Prop} {a:Act} {w:World}
  (hy:YieldsIf P ops S oi v a) (h:CO P ops (Qp PQ) j K (a.put oi.dst v) w):
  CO P ops (Qp PQ) j (λa' w'=>YieldsIf P ops S oi v a'∧K (a'.put oi.dst v) w') a w:=by
 obtain ⟨h1,h2,h3⟩:=Oper.apart_spec hap;have keep:∀(a:Act),YieldsIf P ops S oi v a→∀u,YieldsIf P ops S oi v (a.put oj.dst u):=λa hy u=>
  hy.of_same (execOp_put oi hsi a oj.dst u h3) (wanted_put oi a oj.dst u h3)
 have keepD:∀d,YieldsIf P ops S oi v {a with defers:=d::a.defers}:=λd=>hy.of_same rfl rfl;unfold CO at *;simp only [hj] at *;rw [wanted_put oj a oi.dst v h1] at h;split
 ·rename_i hw
  simp only [hw,if_true] at h;unfold wpR at *;rw [execOp_put oj hsj a oi.dst v h1] at h;generalize (execOp a.eval oj).run P w=r at *;cases r with
  |ok n w'=>
   cases n <;> simp only [EW] at h ⊢
   case value u=>exact ⟨keep a hy u,by rw [←Act.put_comm a v u h2];exact h⟩
   case skip=>exact ⟨keep a hy _,by rw [←Act.put_comm a v undef h2];exact h⟩
   case defer d=>
    refine ⟨keep _ (keepD d) _,?_⟩;rw [←Act.put_comm _ v undef h2,←Act.put_defers];exact h
   case enter f args=>
    refine Calls.mono h λe w'' he=>?_;cases e with
    |returned u=>exact ⟨keep a hy u,by rw [←Act.put_comm a v u h2];exact he⟩
    |panicked c=>exact qp_put.1 he
    |outgrown=>exact he
   case row row args=>exact Rows.mono h λu w'' he=>⟨keep a hy u,by rw [←Act.put_comm a v u h2];exact he⟩
   case round l f tmps assign body=>
    refine RoundIn.mono h λe w'' he=>?_;cases e with
    |returned u=>exact ⟨keep a hy u,by rw [←Act.put_comm a v u h2];exact he⟩
    |panicked c=>exact qp_put.1 he
    |outgrown=>exact he
  |halt x w'=>
   cases x <;> simp only [EW] at h ⊢ <;> exact qp_put.1 h
 ·rename_i hw
  simp only [hw] at h;exact ⟨keep a hy _,by rw [←Act.put_comm a v undef h2];exact h⟩
theorem Ey {S:World→Prop}{oi oj:Oper}{v u:Value}{a:Act}{ds:List Deferred}(hsi:∀cs b,oi.op≠.select cs b)(h3:∀d,oj.dst=some d→d ∉ oi.looksAt ops):
  YieldsIf P ops S oi v (({a with defers:=ds}:Act).put oj.dst u)↔YieldsIf P ops S oi v a:=by
 have e1:execOp (({a with defers:=ds}:Act).put oj.dst u).eval oi=execOp a.eval oi:=by
  rw [execOp_put oi hsi _ oj.dst u h3];rfl
 have e2:Region.wanted oi (yielded ops (({a with defers:=ds}:Act).put oj.dst u).tmps)=Region.wanted oi (yielded ops a.tmps):=by
  rw [wanted_put oi _ oj.dst u h3]
 constructor
 ·exact λh=>h.of_same e1.symm e2.symm
 ·exact λh=>h.of_same e1 e2
theorem Qk {S:World→Prop}{o:Oper}{v u:Value}{a:Act}{w:World}(hw:S w)(h:YieldsIf P ops S o v a)(h':YieldsIf P ops S o u a):v=u:=by
 rcases h with ⟨hw1,h⟩|⟨hw1,rfl⟩ <;> rcases h' with ⟨hw2,h'⟩|⟨hw2,rfl⟩
 ·have:=(h w hw).symm.trans (h' w hw);simpa using this
 iterate 2
  ·rw [hw1] at hw2;cases hw2
 ·rfl
structure SerOk (PQ:List PanicEntry→List Deferred→World→Prop)(ops:Array Oper)(kd:Nat→Nat)(nd:Nat→Bool)(rc:Nat→Nat→Bool):Prop where
 pan:(∀c ds w,¬PQ c ds w)∨∀i j,j < i→i < ops.size→kd i≠2→kd j=2→rc i j=true
 sel:∀(j:Nat) (o:Oper) cs b,ops[j]? =some o→o.op≠.select cs b
 dep:∀i o,ops[i]? =some o→∀e∈o.after,Region.binds .any e=true→e.on < i
 ord:∀i j oi oj,j < i→ops[i]? =some oi→ops[j]? =some oj→rc i j=true∨(oj.apart ops oi=true∧oi.apart ops oj=true∧¬(kd i=2∧kd j=2))
 rlt:∀i j,rc i j=true→j < i
 need:∀i j,i < ops.size→j < ops.size→kd j=1→i≠j→rc i j=false→nd i=true
section main
variable {rc:Nat→Nat→Bool}(ok:SerOk PQ ops kd nd rc)
include ok
theorem MK {i:Nat}{oi:Oper}(hi:ops[i]? =some oi)(hk:kd i≠2):∀(l:List Nat) (a:Act) (w:World),l.Pairwise (· < ·)→(∀j∈l,j < ops.size)→i∈l→(∀j∈l,j < i→rc i j=false)→
  Ser P PQ ops Sw kd nd Fin l a w→(∃v,YieldsIf P ops (λw=>kd i=1→Sw w) oi v a∧Ser P PQ ops Sw kd nd Fin (l.erase i) (a.put oi.dst v) w)
 |[],_,_,_,_,hm,_,_=>by cases hm
 |j::l,a,w,hp,hlt,hm,hrc,h=>by
  obtain ⟨oj,hj,h⟩:=h;by_cases hij:j=i
  ·subst hij;rw [hi] at hj;simp only [zn] at hj;subst hj;rcases h with ⟨hk2,_⟩|⟨_,v,hy,hser⟩
   ·exact absurd hk2 hk
   ·exact ⟨v,hy,by simpa using hser⟩
  ·have hm':i∈l:=by
    rcases zK.1 hm with h|h
    ·exact absurd h.symm hij
    ·exact h
   have hji:j < i:=(zbk.1 hp).1 i hm';have hp':=(zbk.1 hp).2;have hlt':∀k∈l,k < ops.size:=λk hk=>hlt k (zV _ hk);have hrc':∀k∈l,k < i→rc i k=false:=λk hk=>hrc k (zV _ hk);have hap:=(ok.ord i j oi oj hji hi hj).resolve_left (by rw [hrc j (zJ ..) hji];simp);obtain ⟨ap1,ap2,_⟩:=hap;obtain ⟨a1,a2,a3⟩:=Oper.apart_spec ap1;obtain ⟨b1,b2,b3⟩:=Oper.apart_spec ap2;have herase:(j::l).erase i=j::l.erase i:=by rw [List.erase_cons_tail (by simpa using hij)]
   rw [herase];rcases h with ⟨hk2,hwp⟩|⟨hkj,vj,hyj,hser⟩
   ·-- the earlier one changes memory
    have hst:∀c ds w,¬PQ c ds w:=by
     rcases ok.pan with hst|hp
     ·exact hst
     ·have h1:=hp i j hji (hlt' i hm') hk hk2;rw [hrc j (zJ ..) hji] at h1;cases h1
    have hform:=MF hj hwp;have hmono:CO P ops (Qp PQ) j (λa' w'=>(∃u ds,a'=({a with defers:=ds}:Act).put oj.dst u)∧(nd j=true→Sw w')∧
      ∃v,YieldsIf P ops (λw=>kd i=1→Sw w) oi v a∧Ser P PQ ops Sw kd nd Fin (l.erase i) (a'.put oi.dst v) w') a w:=by
     refine EL ?_ hform;rintro a' w' ⟨⟨u,ds,rfl⟩,hS,hser⟩;obtain ⟨v,hy,hs⟩:=MK hi hk l _ w' hp' hlt' hm' hrc' hser;exact ⟨⟨u,ds,rfl⟩,hS,v,(Ey (ok.sel i oi · · hi) b3).1 hy,hs⟩
    obtain ⟨a0,w0,_,_,v,hy,_⟩:=ABP hst hmono;refine ⟨v,hy,oj,hj,.inl ⟨hk2,Ql hj ap2 (ok.sel j oj · · hj) (EL ?_ hmono)⟩⟩;rintro a' w' ⟨_,hS,v',hy',hs'⟩;have hSw:kd i=1→Sw w':=λhk1=>hS (ok.need j i (hlt j (zJ ..)) (hlt' i hm') hk1 hij (by
     cases hr:rc j i with
     |false=>rfl
     |true=>have:=ok.rlt j i hr;omega))
    have:=Qk (S:=λw=>kd i=1→Sw w) hSw hy hy';subst this;exact ⟨hS,hs'⟩
   ·obtain ⟨vi,hyi,hs⟩:=MK hi hk l _ w hp' hlt' hm' hrc' hser;refine ⟨vi,?_,oj,hj,.inr ⟨hkj,vj,?_,?_⟩⟩
    ·exact (Ey (ds:=a.defers) (ok.sel i oi · · hi) b3).1 hyi
    ·exact (Ey (ds:=a.defers) (ok.sel j oj · · hj) a3).2 hyj
    ·rw [Act.put_comm a vi vj b2];exact hs
theorem AAY {i:Nat}{oi:Oper}(hi:ops[i]? =some oi)(hk:kd i=2):∀(l:List Nat) (a:Act) (w:World),l.Pairwise (· < ·)→i∈l→(∀j∈l,j < i→rc i j=false)→
  Ser P PQ ops Sw kd nd Fin l a w→CO P ops (Qp PQ) i (λa' w'=>(nd i=true→Sw w')∧Ser P PQ ops Sw kd nd Fin (l.erase i) a' w') a w
 |[],_,_,_,hm,_,_=>by cases hm
 |j::l,a,w,hp,hm,hrc,h=>by
  obtain ⟨oj,hj,h⟩:=h;by_cases hij:j=i
  ·subst hij;rcases h with ⟨_,h⟩|⟨hk2,_⟩
   ·simpa using h
   ·exact absurd hk hk2
  ·have hm':i∈l:=by
    rcases zK.1 hm with h|h
    ·exact absurd h.symm hij
    ·exact h
   have hji:j < i:=(zbk.1 hp).1 i hm';have hp':=(zbk.1 hp).2;have hrc':∀k∈l,k < i→rc i k=false:=λk hk=>hrc k (zV _ hk);have hap:=(ok.ord i j oi oj hji hi hj).resolve_left (by rw [hrc j (zJ ..) hji];simp);obtain ⟨ap1,ap2,hne⟩:=hap;have herase:(j::l).erase i=j::l.erase i:=by rw [List.erase_cons_tail (by simpa using hij)]
   rw [herase];rcases h with ⟨hk2,_⟩|⟨hkj,vj,hyj,hser⟩
   ·exact absurd ⟨hk,hk2⟩ hne
   ·have ih:=AAY hi hk l _ w hp' hm' hrc' hser;have:=NJ hi ap1 (ok.sel j oj · · hj) (ok.sel i oi · · hi) hyj ih;refine EL ?_ this;rintro a' w' ⟨hy,hS,hs⟩;exact ⟨hS,oj,hj,.inr ⟨hkj,vj,hy,hs⟩⟩
theorem AAZ {Q:Exit→Act→World→Prop}(hQ:∀a w,Fin a w→Q .normal a w){Iv:Act→Prop}(hI:∀a o v ds,o∈ops→Iv a→Iv (({a with defers:=ds}:Act).put o.dst v))(hQP:∀c a w,Iv a→PQ c a.defers w→Q (.panic c) a w)
  (hrl:∀(listed:Array Bool) i,(∀k,listed.getD k false=true→∀o,ops[k]? =some o→∀e∈o.after,Region.binds .any e=true→listed.getD e.on false=true)→
   i∈Region.ready .any ops listed→∀j,rc i j=true→listed.getD j false=true):
  ∀(fuel:Nat) (listed:Array Bool) (l:List Nat) (a:Act) (w:World),Iv a→listed.size=ops.size→l.length=fuel→l.Pairwise (· < ·)→(∀i,i∈l↔i < ops.size∧listed.getD i true=false)→
   (∀k,listed.getD k false=true→∀o,ops[k]? =some o→∀e∈o.after,Region.binds .any e=true→listed.getD e.on false=true)→
   ((∃j∈l,kd j=1)→Sw w)→Ser P PQ ops Sw kd nd Fin l a w→Jq P ops Q fuel listed a w
 |0,listed,l,a,w,hv,hsz,hlen,hp,hmem,hdc,hS,h=>by
  have hl:l=[]:=zG hlen;subst hl;refine ⟨?_,hQ a w h⟩;apply List.eq_nil_iff_forall_not_mem.2
  intro i hi;obtain ⟨h0,o,ho,_⟩:=mem_ready.1 hi;have:=(hmem i).2 ⟨(zN.1 ho).1,h0⟩;cases this
 |fuel+1,listed,l,a,w,hv,hsz,hlen,hp,hmem,hdc,hS,h=>by
  have both:∀j,j < ops.size→(listed.getD j false=true∨listed.getD j true=false):=by
   intro j hj;have:j < listed.size:=by omega
   rw [zau,zau,zaD this];cases listed[j] <;> simp
  refine ⟨λhnil=>?_,λi hi=>?_⟩
  ·cases l with
   |nil=>simp at hlen
   |cons j l=>
    exfalso
    obtain ⟨oj,hj,_⟩:=h;have hjm:=(hmem j).1 (zJ ..);have:j∈Region.ready .any ops listed:=mem_ready.2 ⟨hjm.2,oj,hj,λe he hb=>by
     have hlt:=ok.dep j oj hj e he hb;rcases both e.on zo with h|h
     ·exact h
     ·have hm:=(hmem e.on).2 ⟨by omega,h⟩;rcases zK.1 hm with h|h
      ·omega
      ·have:=(zbk.1 hp).1 _ h;omega⟩
    rw [hnil] at this;cases this
  ·obtain ⟨h0,oi,ho,hdeps⟩:=mem_ready.1 hi;have hlt:=(zN.1 ho).1;have him:i∈l:=(hmem i).2 ⟨hlt,h0⟩;have hrc:∀j∈l,rc i j=false:=by
    intro j hj;cases hr:rc i j with
    |false=>rfl
    |true=>
     have h1:=hrl listed i hdc hi j hr;have h2:=((hmem j).1 hj).2;have:j < listed.size:=by have:=((hmem j).1 hj).1;omega
     rw [zau,zaD this] at h1 h2;simp only [Option.getD_some] at h1 h2;rw [h1] at h2;cases h2
   have hom:oi∈ops:=zaY ho;have next:∀a' w',Iv a'→((∃j∈l.erase i,kd j=1)→Sw w')→Ser P PQ ops Sw kd nd Fin (l.erase i) a' w'→Jq P ops Q fuel (listed.setIfInBounds i true) a' w':=by
    intro a' w' hv' hS' hs';have hnd:l.Nodup:=hp.imp (λh=>Nat.ne_of_lt h);refine AAZ hQ hI hQP hrl fuel _ (l.erase i) a' w' hv' (by simp [hsz]) (by rw [List.length_erase_of_mem him,hlen];rfl) (hp.sublist List.erase_sublist) (λk=>?_) (λk hk o hok e he hb=>?_) hS' hs'
    ·rw [hnd.mem_erase_iff,hmem k];by_cases hki:k=i
     ·subst hki;have:k < listed.size:=by omega
      simp [this]
     ·rw [getD_set_ne true (λe=>hki e.symm)];simp [hki]
    ·by_cases hki:k=i
     ·subst hki;rw [ho] at hok;simp only [zn] at hok;subst hok;exact getD_set_true (hdeps e he hb)
     ·rw [getD_set_ne false (λe=>hki e.symm)] at hk;exact getD_set_true (hdc k hk o hok e he hb)
   by_cases hk:kd i=2
   ·refine Yg (λc w=>hQP c a w hv) (EL ?_ (MF ho (AAY ok ho hk l a w hp him (λj hj _=>hrc j hj) h)));rintro a' w' ⟨⟨u,ds,rfl⟩,hS',hs'⟩;refine next _ w' (hI a oi u ds hom hv) (λ⟨j,hj,hkj⟩=>hS' ?_) hs';have hnd:l.Nodup:=hp.imp (λh=>Nat.ne_of_lt h);have hj':=(hnd.mem_erase_iff.1 hj);exact ok.need i j hlt ((hmem j).1 hj'.2).1 hkj (λe=>hj'.1 e.symm) (hrc j hj'.2)
   ·obtain ⟨v,hy,hs'⟩:=MK ok ho hk l a w hp (λj hj=>((hmem j).1 hj).1) him (λj hj _=>hrc j hj) h;have hSi:kd i=1→Sw w:=λh1=>hS ⟨i,him,h1⟩;exact Yf ho hy hSi (next _ w (hI a oi v a.defers hom hv) (λ⟨j,hj,hkj⟩=>hS ⟨j,List.mem_of_mem_erase hj,hkj⟩) hs')
end main
end
section
variable {P:Program}{PQ:List PanicEntry→List Deferred→World→Prop}{ops:Array Oper}{Sw:World→Prop}{kd:Nat→Nat}{nd:Nat→Bool}{rc:Nat→Nat→Bool}{Fin:Act→World→Prop}
def Rdy (rc:Nat→Nat→Bool)(i:Nat)(l:List Nat):Prop:=∀j∈l,j≠i→rc i j=false
theorem Rdy.erase {i j:Nat}{l:List Nat}(h:Rdy rc i l):Rdy rc i (l.erase j):=λk hk hne=>h k (List.mem_of_mem_erase hk) hne
def Uj (P:Program)(PQ:List PanicEntry→List Deferred→World→Prop)(ops:Array Oper)(Sw:World→Prop)(kd:Nat→Nat)(nd:Nat→Bool)(rc:Nat→Nat→Bool)(Fin:Act→World→Prop):Nat→List Nat→Act→World→Prop
 |0,_,a,w=>Fin a w
 |f+1,l,a,w=>
  (∃i o v,i∈l∧kd i≠2∧Rdy rc i l∧ops[i]? =some o∧YieldsIf P ops (λw=>kd i=1→Sw w) o v a∧Uj P PQ ops Sw kd nd rc Fin f (l.erase i) (a.put o.dst v) w)∨
  ((∀i∈l,Rdy rc i l→kd i=2)∧∀k∈l,Rdy rc k l→CO P ops (Qp PQ) k (λa' w'=>(nd k=true→Sw w')∧Uj P PQ ops Sw kd nd rc Fin f (l.erase k) a' w') a w)
structure SerGOk (ops:Array Oper)(kd:Nat→Nat)(nd:Nat→Bool)(rc:Nat→Nat→Bool):Prop where
 sel:∀(j:Nat) (o:Oper) cs b,ops[j]? =some o→o.op≠.select cs b
 dep:∀i o,ops[i]? =some o→∀e∈o.after,Region.binds .any e=true→e.on < i
 ord:∀i j oi oj,j < i→ops[i]? =some oi→ops[j]? =some oj→rc i j=true∨(oj.apart ops oi=true∧oi.apart ops oj=true)
 need:∀i j,i < ops.size→j < ops.size→kd j=1→i≠j→rc i j=false→nd i=true
section main
variable (ok:SerGOk ops kd nd rc)
include ok
theorem SerGOk.apart {i j:Nat}{oi oj:Oper}(hi:ops[i]? =some oi)(hj:ops[j]? =some oj)(hne:i≠j)(h1:rc i j=false)(h2:rc j i=false):oi.apart ops oj=true∧oj.apart ops oi=true:=by
 rcases Nat.lt_or_gt_of_ne hne with h|h
 ·have:=(ok.ord j i oj oi h hj hi).resolve_left (by simp [h2]);exact this
 ·have:=(ok.ord i j oi oj h hi hj).resolve_left (by simp [h1]);exact ⟨this.2,this.1⟩
theorem Xj {i:Nat}{oi:Oper}(hi:ops[i]? =some oi)(hk:kd i≠2):∀(f:Nat) (l:List Nat) (a:Act) (w:World),l.Nodup→l.length=f+1→i∈l→Rdy rc i l→Uj P PQ ops Sw kd nd rc Fin (f+1) l a w→
  ∃v,YieldsIf P ops (λw=>kd i=1→Sw w) oi v a∧Uj P PQ ops Sw kd nd rc Fin f (l.erase i) (a.put oi.dst v) w:=by
 intro f;induction f with
 |zero=>
  intro l a w hnd hlen hm hrd h;rcases h with ⟨i',o',v',hm',hk',hrd',ho',hy',hs'⟩|⟨h2,_⟩
  ·have:i'=i:=by
    cases l with
    |nil=>cases hm
    |cons x l=>
     have:l=[]:=zG (by simpa using hlen);subst this;simp only [zM] at hm hm';rw [hm,hm']
   subst this;rw [hi] at ho';simp only [zn] at ho';subst ho';exact ⟨v',hy',hs'⟩
  ·exact absurd (h2 i hm hrd) hk
 |succ f ih=>
  intro l a w hnd hlen hm hrd h;rcases h with ⟨i',o',v',hm',hk',hrd',ho',hy',hs'⟩|⟨h2,_⟩
  ·by_cases hii:i'=i
   ·subst hii;rw [hi] at ho';simp only [zn] at ho';subst ho';exact ⟨v',hy',hs'⟩
   ·have hm1:i∈l.erase i':=(List.mem_erase_of_ne (λe=>hii e.symm)).2 hm;obtain ⟨v,hy,hs⟩:=ih (l.erase i') _ w (hnd.erase i') (by rw [List.length_erase_of_mem hm',hlen];rfl) hm1 hrd.erase hs';obtain ⟨ap1,ap2⟩:=ok.apart hi ho' (λe=>hii e.symm) (hrd i' hm' hii) (hrd' i hm (λe=>hii e.symm));obtain ⟨a1,a2,a3⟩:=Oper.apart_spec ap1;obtain ⟨b1,b2,b3⟩:=Oper.apart_spec ap2;refine ⟨v,(Ey (ds:=a.defers) (ok.sel i oi · · hi) a3).1 hy,.inl ⟨i',o',v',(List.mem_erase_of_ne hii).2 hm',hk',hrd'.erase,ho',?_,?_⟩⟩
    ·exact (Ey (ds:=a.defers) (ok.sel i' o' · · ho') b3).2 hy'
    ·rw [List.erase_comm,Act.put_comm a v v' a2];exact hs
  ·exact absurd (h2 i hm hrd) hk
theorem AEU {k:Nat}{ok':Oper}(hi:ops[k]? =some ok')(hk:kd k=2):∀(f:Nat) (l:List Nat) (a:Act) (w:World),l.Nodup→l.length=f+1→k∈l→Rdy rc k l→Uj P PQ ops Sw kd nd rc Fin (f+1) l a w→
  CO P ops (Qp PQ) k (λa' w'=>(nd k=true→Sw w')∧Uj P PQ ops Sw kd nd rc Fin f (l.erase k) a' w') a w:=by
 intro f;induction f with
 |zero=>
  intro l a w hnd hlen hm hrd h;rcases h with ⟨i',o',v',hm',hk',hrd',ho',hy',hs'⟩|⟨_,h2⟩
  ·have:i'=k:=by
    cases l with
    |nil=>cases hm
    |cons x l=>
     have:l=[]:=zG (by simpa using hlen);subst this;simp only [zM] at hm hm';rw [hm,hm']
   subst this;exact absurd hk hk'
  ·exact h2 k hm hrd
 |succ f ih=>
  intro l a w hnd hlen hm hrd h;rcases h with ⟨i',o',v',hm',hk',hrd',ho',hy',hs'⟩|⟨_,h2⟩
  ·have hii:i'≠k:=λe=>by subst e;exact hk' hk
   have hm1:k∈l.erase i':=(List.mem_erase_of_ne (λe=>hii e.symm)).2 hm;have:=ih (l.erase i') _ w (hnd.erase i') (by rw [List.length_erase_of_mem hm',hlen];rfl) hm1 hrd.erase hs';obtain ⟨ap1,ap2⟩:=ok.apart hi ho' (λe=>hii e.symm) (hrd i' hm' hii) (hrd' k hm (λe=>hii e.symm));have:=NJ hi ap2 (ok.sel i' o' · · ho') (ok.sel k ok' · · hi) hy' this;refine EL ?_ this;rintro a' w' ⟨hy,hS,hs⟩;refine ⟨hS,.inl ⟨i',o',v',(List.mem_erase_of_ne hii).2 hm',hk',hrd'.erase,ho',hy,?_⟩⟩;rw [List.erase_comm];exact hs
  ·exact h2 k hm hrd
theorem VK {Q:Exit→Act→World→Prop}(hQ:∀a w,Fin a w→Q .normal a w){Iv:Act→Prop}(hI:∀a o v ds,o∈ops→Iv a→Iv (({a with defers:=ds}:Act).put o.dst v))(hQP:∀c a w,Iv a→PQ c a.defers w→Q (.panic c) a w)
  (hrl:∀(listed:Array Bool) i,(∀k,listed.getD k false=true→∀o,ops[k]? =some o→∀e∈o.after,Region.binds .any e=true→listed.getD e.on false=true)→
   i∈Region.ready .any ops listed→∀j,rc i j=true→listed.getD j false=true):
  ∀(fuel:Nat) (listed:Array Bool) (l:List Nat) (a:Act) (w:World),Iv a→listed.size=ops.size→l.length=fuel→l.Pairwise (· < ·)→(∀i,i∈l↔i < ops.size∧listed.getD i true=false)→
   (∀k,listed.getD k false=true→∀o,ops[k]? =some o→∀e∈o.after,Region.binds .any e=true→listed.getD e.on false=true)→
   ((∃j∈l,kd j=1)→Sw w)→Uj P PQ ops Sw kd nd rc Fin fuel l a w→Jq P ops Q fuel listed a w
 |0,listed,l,a,w,hv,hsz,hlen,hp,hmem,hdc,hS,h=>by
  have hl:l=[]:=zG hlen;subst hl;refine ⟨?_,hQ a w h⟩;apply List.eq_nil_iff_forall_not_mem.2
  intro i hi;obtain ⟨h0,o,ho,_⟩:=mem_ready.1 hi;have:=(hmem i).2 ⟨(zN.1 ho).1,h0⟩;cases this
 |fuel+1,listed,l,a,w,hv,hsz,hlen,hp,hmem,hdc,hS,h=>by
  have both:∀j,j < ops.size→(listed.getD j false=true∨listed.getD j true=false):=by
   intro j hj;have:j < listed.size:=by omega
   rw [zau,zau,zaD this];cases listed[j] <;> simp
  refine ⟨λhnil=>?_,λi hi=>?_⟩
  ·cases l with
   |nil=>simp at hlen
   |cons j l=>
    exfalso
    have hjm:=(hmem j).1 (zJ ..);obtain ⟨oj,hj⟩:∃oj,ops[j]? =some oj:=⟨_,zaD hjm.1⟩;have:j∈Region.ready .any ops listed:=mem_ready.2 ⟨hjm.2,oj,hj,λe he hb=>by
     have hlt:=ok.dep j oj hj e he hb;rcases both e.on zo with h|h
     ·exact h
     ·have hm:=(hmem e.on).2 ⟨by omega,h⟩;rcases zK.1 hm with h|h
      ·omega
      ·have:=(zbk.1 hp).1 _ h;omega⟩
    rw [hnil] at this;cases this
  ·obtain ⟨h0,oi,ho,hdeps⟩:=mem_ready.1 hi;have hlt:=(zN.1 ho).1;have him:i∈l:=(hmem i).2 ⟨hlt,h0⟩;have hnd:l.Nodup:=hp.imp (λh=>Nat.ne_of_lt h);have hrc:∀j∈l,rc i j=false:=by
    intro j hj;cases hr:rc i j with
    |false=>rfl
    |true=>
     have h1:=hrl listed i hdc hi j hr;have h2:=((hmem j).1 hj).2;have:j < listed.size:=by have:=((hmem j).1 hj).1;omega
     rw [zau,zaD this] at h1 h2;simp only [Option.getD_some] at h1 h2;rw [h1] at h2;cases h2
   have hom:oi∈ops:=zaY ho;have next:∀a' w',Iv a'→((∃j∈l.erase i,kd j=1)→Sw w')→Uj P PQ ops Sw kd nd rc Fin fuel (l.erase i) a' w'→Jq P ops Q fuel (listed.setIfInBounds i true) a' w':=by
    intro a' w' hv' hS' hs';refine VK hQ hI hQP hrl fuel _ (l.erase i) a' w' hv' (by simp [hsz]) (by rw [List.length_erase_of_mem him,hlen];rfl) (hp.sublist List.erase_sublist) (λk=>?_) (λk hk o hok e he hb=>?_) hS' hs'
    ·rw [hnd.mem_erase_iff,hmem k];by_cases hki:k=i
     ·subst hki;have:k < listed.size:=by omega
      simp [this]
     ·rw [getD_set_ne true (λe=>hki e.symm)];simp [hki]
    ·by_cases hki:k=i
     ·subst hki;rw [ho] at hok;simp only [zn] at hok;subst hok;exact getD_set_true (hdeps e he hb)
     ·rw [getD_set_ne false (λe=>hki e.symm)] at hk;exact getD_set_true (hdc k hk o hok e he hb)
   by_cases hk:kd i=2
   ·refine Yg (λc w=>hQP c a w hv) (EL ?_ (MF ho (AEU ok ho hk fuel l a w hnd hlen him (λj hj _=>hrc j hj) h)));rintro a' w' ⟨⟨u,ds,rfl⟩,hS',hs'⟩;refine next _ w' (hI a oi u ds hom hv) (λ⟨j,hj,hkj⟩=>hS' ?_) hs';have hj':=(hnd.mem_erase_iff.1 hj);exact ok.need i j hlt ((hmem j).1 hj'.2).1 hkj (λe=>hj'.1 e.symm) (hrc j hj'.2)
   ·obtain ⟨v,hy,hs'⟩:=Xj ok ho hk fuel l a w hnd hlen him (λj hj _=>hrc j hj) h;have hSi:kd i=1→Sw w:=λh1=>hS ⟨i,him,h1⟩;exact Yf ho hy hSi (next _ w (hI a oi v a.defers hom hv) (λ⟨j,hj,hkj⟩=>hS ⟨j,List.mem_of_mem_erase hj,hkj⟩) hs')
end main
end
end Go.SL
