/-
  Lemmas, part 10: laid together by a program.
-/
import Derived.Test.YtkifgfanjcfedaaGreatDoorP9
import Derived.Test.YtkifgfanjcfedaaGreatDoorP2
import Derived.Test.YtkifgfanjcfedaaGreatDoorP8
import Derived.JoinedCond
import Derived.LaidLaws
import Derived.SizedLaws
set_option maxRecDepth 100000
set_option linter.unusedVariables false
set_option linter.unusedSimpArgs false
set_option linter.unusedSectionVars false
namespace Go.Proofs.YtkifgfanjcfedaaGreatDoor
open Go.SL
def mB (s:Bs):Nat:=s.length+1
mutual
def mE:Ex→Nat
 | .mk _ v t n _ _ _ l=>v.fText.length+t.length+n.length+mL l+1
def mL:List Ex→Nat
 |[]=>0
 |x::l=>mE x+mL l
end
mutual
def iE:Ex→Prop
 | .mk _ v _ _ _ _ _ l=>okI v.fInt∧iL l
def iL:List Ex→Prop
 |[]=>True
 |x::l=>iE x∧iL l
end
theorem Ua:∀l:List Ex,(l.map mE).sum=mL l
 |[]=>rfl
 |x::l=>by simp only [List.map_cons,List.sum_cons,mL,Ua l]
theorem ABC:∀{l:List Ex},(∀x∈l,iE x)→iL l
 |[],_=>trivial
 |x::l,h=>⟨h x (List.mem_cons_self ..),ABC fun y hy=>h y (List.mem_cons_of_mem _ hy)⟩
theorem AIu {x:Ex}:∀{l:List Ex},iL l→x∈l→iE x
 |y::l,h,hx=>by
  rcases List.mem_cons.1 hx with rfl|hx
  ·exact h.1
  ·exact AIu h.2 hx
theorem Vk {α:Type}{R:α→List Value→Prop}{Q:α→Prop}{n:Nat}:∀{xs:List α} {cs:List Value},Recs (fun x c=>R x c∧Q x) n xs cs→Recs R n xs cs∧∀x∈xs,Q x
 |[],cs,h=>⟨h,nofun⟩
 |x::xs,cs,⟨h1,h2,h3⟩=>by
  obtain ⟨g1,g2⟩:=Vk h3;exact ⟨⟨h1,h2.1,g1⟩,fun y hy=>by
   rcases List.mem_cons.1 hy with rfl|hy
   ·exact h2.2
   ·exact g2 y hy⟩
theorem APC {α:Type}{R:Imm→α→List Value→Prop}{Q:α→Prop}{n:Nat}{I:Imm}{v:Value}{xs:List α}(h:RL (fun I x c=>R I x c∧Q x) n I [] v xs):RL R n I [] v xs∧∀x∈xs,Q x:=by
 obtain ⟨a,cap,cells,h1,h2,h3,h4⟩:=h;obtain ⟨g1,g2⟩:=Vk h4;exact ⟨⟨a,cap,cells,h1,h2,h3,g1⟩,g2⟩
section
variable {H:Type}{enc:TypeId×Value→H}{W:World}{cs:List Value}{d:DataW H}
theorem BI {P:Program}{w:World}{T:TypeId}{fs:Array Field}(hu:P.underlying T=some (.struct fs)){ds:List (DataW H)}(hf:∀(i:Nat) (f:Field),fs.toList[i]? =some f→∃di,ds[i]? =some di∧Td enc P w f.type ((cs.drop f.offset).take (P.cellsOf f.type)) di)(i:Nat){f:Field}(hi:fs.toList[i]? =some f){di:DataW H}(hdi:ds[i]? =some di){n:Nat}(hn:P.cellsOf f.type=n):Td enc P w f.type ((cs.drop f.offset).take n) di:=by
 obtain ⟨d2,h1,h2⟩:=hf i f hi;rw [hdi] at h1;simp only [Option.some.injEq] at h1;subst h1;subst hn;exact h2
theorem GZ {α:Type}{R:Imm→α→List Value→Prop}{Q:α→Prop}{μ:α→Nat}{T:TypeId}(e:TypeId){n:Nat}(hu:Tryz.prog.underlying T=some (.slice e))(hn:Tryz.prog.cellsOf e=n)(h0:0 < n){v:Value}(h:Td enc Tryz.prog W T [v] d)(hR:∀c di,Rows.uptoBulk di < Rows.uptoBulk d→Td enc Tryz.prog W e c di→∃x,(R (Cf W) x c∧Q x)∧μ x≤Rows.uptoBulk di):
  ∃xs:List α,RL R n (Cf W) [] v xs∧(∀x∈xs,Q x)∧(xs.map μ).sum+1≤Rows.uptoBulk d:=by
 subst hn;obtain ⟨xs,h1,h2⟩:=AKj (R:=fun I x c=>R I x c∧Q x) hu h0 h hR;obtain ⟨g1,g2⟩:=APC h1;exact ⟨xs,g1,g2,h2⟩
theorem TP {T:TypeId}(hu:Tryz.prog.underlying T=some (.slice 9)){v:Value}(h:Td enc Tryz.prog W T [v] d):∃xs:List Bs,RL StrV 1 (Cf W) [] v xs∧(xs.map mB).sum+1≤Rows.uptoBulk d:=by
 obtain ⟨xs,h1,_,h2⟩:=GZ (R:=StrV) (Q:=fun _=>True) (μ:=mB) 9 hu (n:=1) (by kernel_rfl) (by decide) h (fun c di _ hc=>by
  obtain ⟨s,g1,g2⟩:=FO (by kernel_rfl) hc;exact ⟨s,⟨g1,trivial⟩,g2⟩)
 exact ⟨xs,h1,h2⟩
theorem ABd (h:Td enc Tryz.prog W 34 cs d):∃x:TValue,cs=[.int .i64 x.fType,.bool x.fNull,.int .i64 x.fInt,.string ⟨x.fText.toArray⟩]∧okI x.fInt∧x.fText.length+1≤Rows.uptoBulk d:=by
 obtain ⟨hl,ds,rfl,hdl,hf⟩:=Dk Tryz.underlying34 h;rw [show Tryz.prog.cellsOf 34=4 by kernel_rfl] at hl;obtain ⟨c0,c1,c2,c3,rfl⟩:∃c0 c1 c2 c3,cs=[c0,c1,c2,c3]:=by
  match cs,hl with
  |[c0,c1,c2,c3],_=>exact ⟨c0,c1,c2,c3,rfl⟩
 obtain ⟨d0,d1,d2,d3,rfl⟩:∃d0 d1 d2 d3,ds=[d0,d1,d2,d3]:=by
  match ds,(show ds.length=4 from hdl) with
  |[d0,d1,d2,d3],_=>exact ⟨d0,d1,d2,d3,rfl⟩
 clear hl hdl h;obtain ⟨n0,e0,w0⟩:=Iu (k:=.i64) (by kernel_rfl) (cs:=[c0]) (BI (di:=d0) Tryz.underlying34 hf 0 rfl rfl (n:=1) (by kernel_rfl));simp only [List.cons.injEq,and_true] at e0;subst e0;obtain ⟨n1,e1⟩:=Fe (by kernel_rfl) (cs:=[c1]) (BI (di:=d1) Tryz.underlying34 hf 1 rfl rfl (n:=1) (by kernel_rfl));simp only [List.cons.injEq,and_true] at e1;subst e1;obtain ⟨n2,e2,w2⟩:=Iu (k:=.i64) (by kernel_rfl) (cs:=[c2]) (BI (di:=d2) Tryz.underlying34 hf 2 rfl rfl (n:=1) (by kernel_rfl));simp only [List.cons.injEq,and_true] at e2;subst e2;obtain ⟨n3,e3,w3⟩:=FO (by kernel_rfl) (cs:=[c3]) (BI (di:=d3) Tryz.underlying34 hf 3 rfl rfl (n:=1) (by kernel_rfl));simp only [List.cons.injEq,and_true] at e3;subst e3;refine ⟨⟨n0,n1,n2,n3⟩,rfl,wf_i64 w2,?_⟩;simp only [Rows.uptoBulk,Rows.uptoBulkAll];omega
theorem AJD:∀(k:Nat) (cs:List Value) (d:DataW H),Rows.uptoBulk d≤k→Td enc Tryz.prog W 37 cs d→∃x,ExV (Cf W) x cs∧iE x∧mE x≤Rows.uptoBulk d
 |0,cs,d,hk,_=>by have:=bulk.one_le d;omega
 |k+1,cs,d,hk,h=>by
  obtain ⟨hl,ds,rfl,hdl,hf⟩:=Dk Tryz.underlying37 h;rw [show Tryz.prog.cellsOf 37=11 by kernel_rfl] at hl;obtain ⟨c0,c1,c2,c3,c4,c5,c6,c7,c8,c9,c10,rfl⟩:∃c0 c1 c2 c3 c4 c5 c6 c7 c8 c9 c10,cs=[c0,c1,c2,c3,c4,c5,c6,c7,c8,c9,c10]:=by
   match cs,hl with
   |[c0,c1,c2,c3,c4,c5,c6,c7,c8,c9,c10],_=>exact ⟨c0,c1,c2,c3,c4,c5,c6,c7,c8,c9,c10,rfl⟩
  obtain ⟨d0,d1,d2,d3,d4,d5,d6,d7,rfl⟩:∃d0 d1 d2 d3 d4 d5 d6 d7,ds=[d0,d1,d2,d3,d4,d5,d6,d7]:=by
   match ds,(show ds.length=8 from hdl) with
   |[d0,d1,d2,d3,d4,d5,d6,d7],_=>exact ⟨d0,d1,d2,d3,d4,d5,d6,d7,rfl⟩
  clear hl hdl h;obtain ⟨n0,e0,w0⟩:=Iu (k:=.i64) (by kernel_rfl) (cs:=[c0]) (BI (di:=d0) Tryz.underlying37 hf 0 rfl rfl (n:=1) (by kernel_rfl));simp only [List.cons.injEq,and_true] at e0;subst e0;obtain ⟨n1,e1,i1,w1⟩:=ABd (cs:=[c1,c2,c3,c4]) (BI (di:=d1) Tryz.underlying37 hf 1 rfl rfl (n:=4) (by kernel_rfl));simp only [List.cons.injEq,and_true] at e1;obtain ⟨rfl,rfl,rfl,rfl⟩:=e1;obtain ⟨n2,e2,w2⟩:=FO (by kernel_rfl) (cs:=[c5]) (BI (di:=d2) Tryz.underlying37 hf 2 rfl rfl (n:=1) (by kernel_rfl));simp only [List.cons.injEq,and_true] at e2;subst e2;obtain ⟨n3,e3,w3⟩:=FO (by kernel_rfl) (cs:=[c6]) (BI (di:=d3) Tryz.underlying37 hf 3 rfl rfl (n:=1) (by kernel_rfl));simp only [List.cons.injEq,and_true] at e3;subst e3;obtain ⟨n4,e4,w4⟩:=Iu (k:=.i64) (by kernel_rfl) (cs:=[c7]) (BI (di:=d4) Tryz.underlying37 hf 4 rfl rfl (n:=1) (by kernel_rfl));simp only [List.cons.injEq,and_true] at e4;subst e4;obtain ⟨n5,e5,w5⟩:=Iu (k:=.i64) (by kernel_rfl) (cs:=[c8]) (BI (di:=d5) Tryz.underlying37 hf 5 rfl rfl (n:=1) (by kernel_rfl));simp only [List.cons.injEq,and_true] at e5;subst e5;obtain ⟨n6,e6⟩:=Fe (by kernel_rfl) (cs:=[c9]) (BI (di:=d6) Tryz.underlying37 hf 6 rfl rfl (n:=1) (by kernel_rfl));simp only [List.cons.injEq,and_true] at e6;subst e6;have hb:Rows.uptoBulk d7 < Rows.uptoBulk (.agg [d0,d1,d2,d3,d4,d5,d6,d7]):=by simp only [Rows.uptoBulk,Rows.uptoBulkAll];omega
  obtain ⟨n7,h7,q7,w7⟩:=GZ (R:=ExV) (Q:=iE) (μ:=mE) 37 (by kernel_rfl) (n:=11) (by kernel_rfl) (by decide) (v:=c10) (BI (di:=d7) Tryz.underlying37 hf 7 rfl rfl (n:=1) (by kernel_rfl)) (fun c di hlt hc=>by
   obtain ⟨x,g1,g2,g3⟩:=AJD k c di (by omega) hc;exact ⟨x,⟨g1,g2⟩,g3⟩)
  rw [Ua] at w7;refine ⟨.mk n0 n1 n2 n3 n4 n5 n6 n7,ExV.iff.2 ⟨c10,rfl,h7⟩,⟨i1,ABC q7⟩,?_⟩;simp only [mE,Rows.uptoBulk,Rows.uptoBulkAll];omega
theorem Mc (h:Td enc Tryz.prog W 37 cs d):∃x,ExV (Cf W) x cs∧iE x∧mE x≤Rows.uptoBulk d:=AJD _ cs d (Nat.le_refl _) h
theorem AJC {T:TypeId}(hu:Tryz.prog.underlying T=some (.slice 37)){v:Value}(h:Td enc Tryz.prog W T [v] d):∃xs:List Ex,RL ExV 11 (Cf W) [] v xs∧(∀x∈xs,iE x)∧mL xs+1≤Rows.uptoBulk d:=by
 obtain ⟨xs,h1,h2,h3⟩:=GZ (R:=ExV) (Q:=iE) (μ:=mE) 37 hu (n:=11) (by kernel_rfl) (by decide) h (fun c di _ hc=>by
  obtain ⟨x,g1,g2,g3⟩:=Mc hc;exact ⟨x,⟨g1,g2⟩,g3⟩)
 rw [Ua] at h3;exact ⟨xs,h1,h2,h3⟩
theorem APB {c:List Value}(h:Td enc Tryz.prog W 35 c d):∃xs:List Ex,(Ez ExV 11 (Cf W) xs c∧∀x∈xs,iE x)∧mL xs+1≤Rows.uptoBulk d:=by
 obtain ⟨a,len,cap,rfl,_⟩:=VK (e:=37) (by kernel_rfl) h;obtain ⟨xs,h1,h2,h3⟩:=AJC (by kernel_rfl) h;exact ⟨xs,⟨⟨_,rfl,h1⟩,h2⟩,h3⟩
def Eo (x:TItem):Nat:=x.fTable.length+mE x.fExpr+x.fAs.length+1
def Ud (x:TItem):Prop:=iE x.fExpr
theorem AKT (h:Td enc Tryz.prog W 119 cs d):∃x,(TItemV (Cf W) x cs∧Ud x)∧Eo x≤Rows.uptoBulk d:=by
 obtain ⟨hl,ds,rfl,hdl,hf⟩:=Dk Tryz.underlying119 h;rw [show Tryz.prog.cellsOf 119=14 by kernel_rfl] at hl;obtain ⟨c0,c1,c2,c3,c4,c5,c6,c7,c8,c9,c10,c11,c12,c13,rfl⟩:∃c0 c1 c2 c3 c4 c5 c6 c7 c8 c9 c10 c11 c12 c13,cs=[c0,c1,c2,c3,c4,c5,c6,c7,c8,c9,c10,c11,c12,c13]:=by
  match cs,hl with
  |[c0,c1,c2,c3,c4,c5,c6,c7,c8,c9,c10,c11,c12,c13],_=>exact ⟨c0,c1,c2,c3,c4,c5,c6,c7,c8,c9,c10,c11,c12,c13,rfl⟩
 obtain ⟨d0,d1,d2,d3,rfl⟩:∃d0 d1 d2 d3,ds=[d0,d1,d2,d3]:=by
  match ds,(show ds.length=4 from hdl) with
  |[d0,d1,d2,d3],_=>exact ⟨d0,d1,d2,d3,rfl⟩
 clear hl hdl h;obtain ⟨n0,e0⟩:=Fe (by kernel_rfl) (cs:=[c0]) (BI (di:=d0) Tryz.underlying119 hf 0 rfl rfl (n:=1) (by kernel_rfl));simp only [List.cons.injEq,and_true] at e0;subst e0;obtain ⟨n1,e1,w1⟩:=FO (by kernel_rfl) (cs:=[c1]) (BI (di:=d1) Tryz.underlying119 hf 1 rfl rfl (n:=1) (by kernel_rfl));simp only [List.cons.injEq,and_true] at e1;subst e1;obtain ⟨n2,g2,q2,w2⟩:=Mc (cs:=[c2,c3,c4,c5,c6,c7,c8,c9,c10,c11,c12]) (BI (di:=d2) Tryz.underlying119 hf 2 rfl rfl (n:=11) (by kernel_rfl));obtain ⟨u2,e2,h2⟩:=ExV.iff.1 g2;simp only [Az,str,List.cons.injEq,and_true] at e2;obtain ⟨rfl,rfl,rfl,rfl,rfl,rfl,rfl,rfl,rfl,rfl,rfl⟩:=e2;obtain ⟨n3,e3,w3⟩:=FO (by kernel_rfl) (cs:=[c13]) (BI (di:=d3) Tryz.underlying119 hf 3 rfl rfl (n:=1) (by kernel_rfl));simp only [List.cons.injEq,and_true] at e3;subst e3;refine ⟨⟨n0,n1,n2,n3⟩,⟨⟨_,rfl,h2⟩,q2⟩,?_⟩;simp only [Eo,Rows.uptoBulk,Rows.uptoBulkAll];omega
def DD (x:TSource):Nat:=x.fTable.length+x.fAs.length+mE x.fOn+1
def Jw (x:TSource):Prop:=iE x.fOn
theorem Yd (h:Td enc Tryz.prog W 123 cs d):∃x,(TSourceV (Cf W) x cs∧Jw x)∧DD x≤Rows.uptoBulk d:=by
 obtain ⟨hl,ds,rfl,hdl,hf⟩:=Dk Tryz.underlying123 h;rw [show Tryz.prog.cellsOf 123=14 by kernel_rfl] at hl;obtain ⟨c0,c1,c2,c3,c4,c5,c6,c7,c8,c9,c10,c11,c12,c13,rfl⟩:∃c0 c1 c2 c3 c4 c5 c6 c7 c8 c9 c10 c11 c12 c13,cs=[c0,c1,c2,c3,c4,c5,c6,c7,c8,c9,c10,c11,c12,c13]:=by
  match cs,hl with
  |[c0,c1,c2,c3,c4,c5,c6,c7,c8,c9,c10,c11,c12,c13],_=>exact ⟨c0,c1,c2,c3,c4,c5,c6,c7,c8,c9,c10,c11,c12,c13,rfl⟩
 obtain ⟨d0,d1,d2,d3,rfl⟩:∃d0 d1 d2 d3,ds=[d0,d1,d2,d3]:=by
  match ds,(show ds.length=4 from hdl) with
  |[d0,d1,d2,d3],_=>exact ⟨d0,d1,d2,d3,rfl⟩
 clear hl hdl h;obtain ⟨n0,e0,w0⟩:=FO (by kernel_rfl) (cs:=[c0]) (BI (di:=d0) Tryz.underlying123 hf 0 rfl rfl (n:=1) (by kernel_rfl));simp only [List.cons.injEq,and_true] at e0;subst e0;obtain ⟨n1,e1,w1⟩:=FO (by kernel_rfl) (cs:=[c1]) (BI (di:=d1) Tryz.underlying123 hf 1 rfl rfl (n:=1) (by kernel_rfl));simp only [List.cons.injEq,and_true] at e1;subst e1;obtain ⟨n2,e2⟩:=Fe (by kernel_rfl) (cs:=[c2]) (BI (di:=d2) Tryz.underlying123 hf 2 rfl rfl (n:=1) (by kernel_rfl));simp only [List.cons.injEq,and_true] at e2;subst e2;obtain ⟨n3,g3,q3,w3⟩:=Mc (cs:=[c3,c4,c5,c6,c7,c8,c9,c10,c11,c12,c13]) (BI (di:=d3) Tryz.underlying123 hf 3 rfl rfl (n:=11) (by kernel_rfl));obtain ⟨u3,e3,h3⟩:=ExV.iff.1 g3;simp only [Az,str,List.cons.injEq,and_true] at e3;obtain ⟨rfl,rfl,rfl,rfl,rfl,rfl,rfl,rfl,rfl,rfl,rfl⟩:=e3;refine ⟨⟨n0,n1,n2,n3⟩,⟨⟨_,rfl,h3⟩,q3⟩,?_⟩;simp only [DD,Rows.uptoBulk,Rows.uptoBulkAll];omega
def DX (x:TOrder):Nat:=mE x.fExpr+1
def PK (x:TOrder):Prop:=iE x.fExpr
theorem ACs (h:Td enc Tryz.prog W 127 cs d):∃x,(TOrderV (Cf W) x cs∧PK x)∧DX x≤Rows.uptoBulk d:=by
 obtain ⟨hl,ds,rfl,hdl,hf⟩:=Dk Tryz.underlying127 h;rw [show Tryz.prog.cellsOf 127=12 by kernel_rfl] at hl;obtain ⟨c0,c1,c2,c3,c4,c5,c6,c7,c8,c9,c10,c11,rfl⟩:∃c0 c1 c2 c3 c4 c5 c6 c7 c8 c9 c10 c11,cs=[c0,c1,c2,c3,c4,c5,c6,c7,c8,c9,c10,c11]:=by
  match cs,hl with
  |[c0,c1,c2,c3,c4,c5,c6,c7,c8,c9,c10,c11],_=>exact ⟨c0,c1,c2,c3,c4,c5,c6,c7,c8,c9,c10,c11,rfl⟩
 obtain ⟨d0,d1,rfl⟩:∃d0 d1,ds=[d0,d1]:=by
  match ds,(show ds.length=2 from hdl) with
  |[d0,d1],_=>exact ⟨d0,d1,rfl⟩
 clear hl hdl h;obtain ⟨n0,g0,q0,w0⟩:=Mc (cs:=[c0,c1,c2,c3,c4,c5,c6,c7,c8,c9,c10]) (BI (di:=d0) Tryz.underlying127 hf 0 rfl rfl (n:=11) (by kernel_rfl));obtain ⟨u0,e0,h0⟩:=ExV.iff.1 g0;simp only [Az,str,List.cons.injEq,and_true] at e0;obtain ⟨rfl,rfl,rfl,rfl,rfl,rfl,rfl,rfl,rfl,rfl,rfl⟩:=e0;obtain ⟨n1,e1⟩:=Fe (by kernel_rfl) (cs:=[c11]) (BI (di:=d1) Tryz.underlying127 hf 1 rfl rfl (n:=1) (by kernel_rfl));simp only [List.cons.injEq,and_true] at e1;subst e1;refine ⟨⟨n0,n1⟩,⟨⟨_,rfl,h0⟩,q0⟩,?_⟩;simp only [DX,Rows.uptoBulk,Rows.uptoBulkAll];omega
def Ia (x:TSet):Nat:=x.fColumn.length+mE x.fExpr+1
def AIt (x:TSet):Prop:=iE x.fExpr
theorem ANC (h:Td enc Tryz.prog W 99 cs d):∃x,(TSetV (Cf W) x cs∧AIt x)∧Ia x≤Rows.uptoBulk d:=by
 obtain ⟨hl,ds,rfl,hdl,hf⟩:=Dk Tryz.underlying99 h;rw [show Tryz.prog.cellsOf 99=12 by kernel_rfl] at hl;obtain ⟨c0,c1,c2,c3,c4,c5,c6,c7,c8,c9,c10,c11,rfl⟩:∃c0 c1 c2 c3 c4 c5 c6 c7 c8 c9 c10 c11,cs=[c0,c1,c2,c3,c4,c5,c6,c7,c8,c9,c10,c11]:=by
  match cs,hl with
  |[c0,c1,c2,c3,c4,c5,c6,c7,c8,c9,c10,c11],_=>exact ⟨c0,c1,c2,c3,c4,c5,c6,c7,c8,c9,c10,c11,rfl⟩
 obtain ⟨d0,d1,rfl⟩:∃d0 d1,ds=[d0,d1]:=by
  match ds,(show ds.length=2 from hdl) with
  |[d0,d1],_=>exact ⟨d0,d1,rfl⟩
 clear hl hdl h;obtain ⟨n0,e0,w0⟩:=FO (by kernel_rfl) (cs:=[c0]) (BI (di:=d0) Tryz.underlying99 hf 0 rfl rfl (n:=1) (by kernel_rfl));simp only [List.cons.injEq,and_true] at e0;subst e0;obtain ⟨n1,g1,q1,w1⟩:=Mc (cs:=[c1,c2,c3,c4,c5,c6,c7,c8,c9,c10,c11]) (BI (di:=d1) Tryz.underlying99 hf 1 rfl rfl (n:=11) (by kernel_rfl));obtain ⟨u1,e1,h1⟩:=ExV.iff.1 g1;simp only [Az,str,List.cons.injEq,and_true] at e1;obtain ⟨rfl,rfl,rfl,rfl,rfl,rfl,rfl,rfl,rfl,rfl,rfl⟩:=e1;refine ⟨⟨n0,n1⟩,⟨⟨_,rfl,h1⟩,q1⟩,?_⟩;simp only [Ia,Rows.uptoBulk,Rows.uptoBulkAll];omega
def GH (x:TCol):Nat:=x.fName.length+mE x.fDefault+1
def WI (x:TCol):Prop:=iE x.fDefault
theorem ANF (h:Td enc Tryz.prog W 101 cs d):∃x,(TColV (Cf W) x cs∧WI x)∧GH x≤Rows.uptoBulk d:=by
 obtain ⟨hl,ds,rfl,hdl,hf⟩:=Dk Tryz.underlying101 h;rw [show Tryz.prog.cellsOf 101=16 by kernel_rfl] at hl;obtain ⟨c0,c1,c2,c3,c4,c5,c6,c7,c8,c9,c10,c11,c12,c13,c14,c15,rfl⟩:∃c0 c1 c2 c3 c4 c5 c6 c7 c8 c9 c10 c11 c12 c13 c14 c15,cs=[c0,c1,c2,c3,c4,c5,c6,c7,c8,c9,c10,c11,c12,c13,c14,c15]:=by
  match cs,hl with
  |[c0,c1,c2,c3,c4,c5,c6,c7,c8,c9,c10,c11,c12,c13,c14,c15],_=>exact ⟨c0,c1,c2,c3,c4,c5,c6,c7,c8,c9,c10,c11,c12,c13,c14,c15,rfl⟩
 obtain ⟨d0,d1,d2,d3,d4,d5,rfl⟩:∃d0 d1 d2 d3 d4 d5,ds=[d0,d1,d2,d3,d4,d5]:=by
  match ds,(show ds.length=6 from hdl) with
  |[d0,d1,d2,d3,d4,d5],_=>exact ⟨d0,d1,d2,d3,d4,d5,rfl⟩
 clear hl hdl h;obtain ⟨n0,e0,w0⟩:=FO (by kernel_rfl) (cs:=[c0]) (BI (di:=d0) Tryz.underlying101 hf 0 rfl rfl (n:=1) (by kernel_rfl));simp only [List.cons.injEq,and_true] at e0;subst e0;obtain ⟨n1,e1,w1⟩:=Iu (k:=.i64) (by kernel_rfl) (cs:=[c1]) (BI (di:=d1) Tryz.underlying101 hf 1 rfl rfl (n:=1) (by kernel_rfl));simp only [List.cons.injEq,and_true] at e1;subst e1;obtain ⟨n2,e2⟩:=Fe (by kernel_rfl) (cs:=[c2]) (BI (di:=d2) Tryz.underlying101 hf 2 rfl rfl (n:=1) (by kernel_rfl));simp only [List.cons.injEq,and_true] at e2;subst e2;obtain ⟨n3,e3⟩:=Fe (by kernel_rfl) (cs:=[c3]) (BI (di:=d3) Tryz.underlying101 hf 3 rfl rfl (n:=1) (by kernel_rfl));simp only [List.cons.injEq,and_true] at e3;subst e3;obtain ⟨n4,e4⟩:=Fe (by kernel_rfl) (cs:=[c4]) (BI (di:=d4) Tryz.underlying101 hf 4 rfl rfl (n:=1) (by kernel_rfl));simp only [List.cons.injEq,and_true] at e4;subst e4;obtain ⟨n5,g5,q5,w5⟩:=Mc (cs:=[c5,c6,c7,c8,c9,c10,c11,c12,c13,c14,c15]) (BI (di:=d5) Tryz.underlying101 hf 5 rfl rfl (n:=11) (by kernel_rfl));obtain ⟨u5,e5,h5⟩:=ExV.iff.1 g5;simp only [Az,str,List.cons.injEq,and_true] at e5;obtain ⟨rfl,rfl,rfl,rfl,rfl,rfl,rfl,rfl,rfl,rfl,rfl⟩:=e5;refine ⟨⟨n0,n1,n2,n3,n4,n5⟩,⟨⟨_,rfl,h5⟩,q5⟩,?_⟩;simp only [GH,Rows.uptoBulk,Rows.uptoBulkAll];omega
def QV (x:TIdx):Nat:=x.fName.length+x.fTable.length+(x.fColumns.map mB).sum+1
def ANR (x:TIdx):Prop:=True
theorem ANE (h:Td enc Tryz.prog W 46 cs d):∃x,(ATV (Cf W) x cs∧ANR x)∧QV x≤Rows.uptoBulk d:=by
 obtain ⟨hl,ds,rfl,hdl,hf⟩:=Dk Tryz.underlying46 h;rw [show Tryz.prog.cellsOf 46=4 by kernel_rfl] at hl;obtain ⟨c0,c1,c2,c3,rfl⟩:∃c0 c1 c2 c3,cs=[c0,c1,c2,c3]:=by
  match cs,hl with
  |[c0,c1,c2,c3],_=>exact ⟨c0,c1,c2,c3,rfl⟩
 obtain ⟨d0,d1,d2,d3,rfl⟩:∃d0 d1 d2 d3,ds=[d0,d1,d2,d3]:=by
  match ds,(show ds.length=4 from hdl) with
  |[d0,d1,d2,d3],_=>exact ⟨d0,d1,d2,d3,rfl⟩
 clear hl hdl h;obtain ⟨n0,e0,w0⟩:=FO (by kernel_rfl) (cs:=[c0]) (BI (di:=d0) Tryz.underlying46 hf 0 rfl rfl (n:=1) (by kernel_rfl));simp only [List.cons.injEq,and_true] at e0;subst e0;obtain ⟨n1,e1,w1⟩:=FO (by kernel_rfl) (cs:=[c1]) (BI (di:=d1) Tryz.underlying46 hf 1 rfl rfl (n:=1) (by kernel_rfl));simp only [List.cons.injEq,and_true] at e1;subst e1;obtain ⟨n2,h2,w2⟩:=TP (by kernel_rfl) (v:=c2) (BI (di:=d2) Tryz.underlying46 hf 2 rfl rfl (n:=1) (by kernel_rfl));obtain ⟨n3,e3⟩:=Fe (by kernel_rfl) (cs:=[c3]) (BI (di:=d3) Tryz.underlying46 hf 3 rfl rfl (n:=1) (by kernel_rfl));simp only [List.cons.injEq,and_true] at e3;subst e3;refine ⟨⟨n0,n1,n2,n3⟩,⟨⟨_,rfl,h2⟩,trivial⟩,?_⟩;simp only [QV,Rows.uptoBulk,Rows.uptoBulkAll];omega
def En (x:TSelect):Nat:=(x.fItems.map Eo).sum+(x.fFrom.map DD).sum+mE x.fWhere+mL x.fGroup+mE x.fHaving+(x.fOrder.map DX).sum+1
def QY (x:TSelect):Prop:=(∀y∈x.fItems,Ud y)∧(∀y∈x.fFrom,Jw y)∧iE x.fWhere∧(∀y∈x.fGroup,iE y)∧iE x.fHaving∧(∀y∈x.fOrder,PK y)∧okI x.fLimit∧okI x.fOffset
theorem Ye (h:Td enc Tryz.prog W 40 cs d):∃x,(Bd (Cf W) x cs∧QY x)∧En x≤Rows.uptoBulk d:=by
 obtain ⟨hl,ds,rfl,hdl,hf⟩:=Dk Tryz.underlying40 h;rw [show Tryz.prog.cellsOf 40=29 by kernel_rfl] at hl;obtain ⟨c0,c1,c2,c3,c4,c5,c6,c7,c8,c9,c10,c11,c12,c13,c14,c15,c16,c17,c18,c19,c20,c21,c22,c23,c24,c25,c26,c27,c28,rfl⟩:∃c0 c1 c2 c3 c4 c5 c6 c7 c8 c9 c10 c11 c12 c13 c14 c15 c16 c17 c18 c19 c20 c21 c22 c23 c24 c25 c26 c27 c28,cs=[c0,c1,c2,c3,c4,c5,c6,c7,c8,c9,c10,c11,c12,c13,c14,c15,c16,c17,c18,c19,c20,c21,c22,c23,c24,c25,c26,c27,c28]:=by
  match cs,hl with
  |[c0,c1,c2,c3,c4,c5,c6,c7,c8,c9,c10,c11,c12,c13,c14,c15,c16,c17,c18,c19,c20,c21,c22,c23,c24,c25,c26,c27,c28],_=>exact ⟨c0,c1,c2,c3,c4,c5,c6,c7,c8,c9,c10,c11,c12,c13,c14,c15,c16,c17,c18,c19,c20,c21,c22,c23,c24,c25,c26,c27,c28,rfl⟩
 obtain ⟨d0,d1,d2,d3,d4,d5,d6,d7,d8,rfl⟩:∃d0 d1 d2 d3 d4 d5 d6 d7 d8,ds=[d0,d1,d2,d3,d4,d5,d6,d7,d8]:=by
  match ds,(show ds.length=9 from hdl) with
  |[d0,d1,d2,d3,d4,d5,d6,d7,d8],_=>exact ⟨d0,d1,d2,d3,d4,d5,d6,d7,d8,rfl⟩
 clear hl hdl h;obtain ⟨n0,e0⟩:=Fe (by kernel_rfl) (cs:=[c0]) (BI (di:=d0) Tryz.underlying40 hf 0 rfl rfl (n:=1) (by kernel_rfl));simp only [List.cons.injEq,and_true] at e0;subst e0;obtain ⟨n1,h1,q1,w1⟩:=GZ (R:=TItemV) (Q:=Ud) (μ:=Eo) 119 (by kernel_rfl) (n:=14) (by kernel_rfl) (by decide) (v:=c1) (BI (di:=d1) Tryz.underlying40 hf 1 rfl rfl (n:=1) (by kernel_rfl)) (fun c di _ hc=>AKT hc);obtain ⟨n2,h2,q2,w2⟩:=GZ (R:=TSourceV) (Q:=Jw) (μ:=DD) 123 (by kernel_rfl) (n:=14) (by kernel_rfl) (by decide) (v:=c2) (BI (di:=d2) Tryz.underlying40 hf 2 rfl rfl (n:=1) (by kernel_rfl)) (fun c di _ hc=>Yd hc);obtain ⟨n3,g3,q3,w3⟩:=Mc (cs:=[c3,c4,c5,c6,c7,c8,c9,c10,c11,c12,c13]) (BI (di:=d3) Tryz.underlying40 hf 3 rfl rfl (n:=11) (by kernel_rfl));obtain ⟨u3,e3,h3⟩:=ExV.iff.1 g3;simp only [Az,str,List.cons.injEq,and_true] at e3;obtain ⟨rfl,rfl,rfl,rfl,rfl,rfl,rfl,rfl,rfl,rfl,rfl⟩:=e3;obtain ⟨n4,h4,q4,w4⟩:=AJC (by kernel_rfl) (v:=c14) (BI (di:=d4) Tryz.underlying40 hf 4 rfl rfl (n:=1) (by kernel_rfl));obtain ⟨n5,g5,q5,w5⟩:=Mc (cs:=[c15,c16,c17,c18,c19,c20,c21,c22,c23,c24,c25]) (BI (di:=d5) Tryz.underlying40 hf 5 rfl rfl (n:=11) (by kernel_rfl));obtain ⟨u5,e5,h5⟩:=ExV.iff.1 g5;simp only [Az,str,List.cons.injEq,and_true] at e5;obtain ⟨rfl,rfl,rfl,rfl,rfl,rfl,rfl,rfl,rfl,rfl,rfl⟩:=e5;obtain ⟨n6,h6,q6,w6⟩:=GZ (R:=TOrderV) (Q:=PK) (μ:=DX) 127 (by kernel_rfl) (n:=12) (by kernel_rfl) (by decide) (v:=c26) (BI (di:=d6) Tryz.underlying40 hf 6 rfl rfl (n:=1) (by kernel_rfl)) (fun c di _ hc=>ACs hc)
 obtain ⟨n7,e7,w7⟩:=Iu (k:=.i64) (by kernel_rfl) (cs:=[c27]) (BI (di:=d7) Tryz.underlying40 hf 7 rfl rfl (n:=1) (by kernel_rfl));simp only [List.cons.injEq,and_true] at e7;subst e7;obtain ⟨n8,e8,w8⟩:=Iu (k:=.i64) (by kernel_rfl) (cs:=[c28]) (BI (di:=d8) Tryz.underlying40 hf 8 rfl rfl (n:=1) (by kernel_rfl));simp only [List.cons.injEq,and_true] at e8;subst e8;refine ⟨⟨n0,n1,n2,n3,n4,n5,n6,n7,n8⟩,⟨⟨_,_,_,_,_,_,rfl,h1,h2,h3,h4,h5,h6⟩,⟨q1,q2,q3,q4,q5,q6,wf_i64 w7,wf_i64 w8⟩⟩,?_⟩;simp only [En,Rows.uptoBulk,Rows.uptoBulkAll];omega
def GM (x:TStmt):Nat:=En x.fSelect+x.fTable.length+(x.fColumns.map mB).sum+(x.fRows.map fun l=>mL l+1).sum+(x.fSets.map Ia).sum+mE x.fWhere+(x.fCols.map GH).sum+(x.fKey.map mB).sum+QV x.fIndex+1
def QX (x:TStmt):Prop:=QY x.fSelect∧(∀l∈x.fRows,∀y∈l,iE y)∧(∀y∈x.fSets,AIt y)∧iE x.fWhere∧(∀y∈x.fCols,WI y)∧ANR x.fIndex
theorem AKS (h:Td enc Tryz.prog W 48 cs d):∃x,(TStmtV (Cf W) x cs∧QX x)∧GM x≤Rows.uptoBulk d:=by
 obtain ⟨hl,ds,rfl,hdl,hf⟩:=Dk Tryz.underlying48 h;rw [show Tryz.prog.cellsOf 48=51 by kernel_rfl] at hl;obtain ⟨c0,c1,c2,c3,c4,c5,c6,c7,c8,c9,c10,c11,c12,c13,c14,c15,c16,c17,c18,c19,c20,c21,c22,c23,c24,r,rfl⟩:∃c0 c1 c2 c3 c4 c5 c6 c7 c8 c9 c10 c11 c12 c13 c14 c15 c16 c17 c18 c19 c20 c21 c22 c23 c24 r,cs=c0::c1::c2::c3::c4::c5::c6::c7::c8::c9::c10::c11::c12::c13::c14::c15::c16::c17::c18::c19::c20::c21::c22::c23::c24::r:=by
  match cs,hl with
  |c0::c1::c2::c3::c4::c5::c6::c7::c8::c9::c10::c11::c12::c13::c14::c15::c16::c17::c18::c19::c20::c21::c22::c23::c24::r,_=>exact ⟨c0,c1,c2,c3,c4,c5,c6,c7,c8,c9,c10,c11,c12,c13,c14,c15,c16,c17,c18,c19,c20,c21,c22,c23,c24,r,rfl⟩
 have hr:r.length=26:=by simpa using hl
 obtain ⟨c25,c26,c27,c28,c29,c30,c31,c32,c33,c34,c35,c36,c37,c38,c39,c40,c41,c42,c43,c44,c45,c46,c47,c48,c49,c50,rfl⟩:∃c25 c26 c27 c28 c29 c30 c31 c32 c33 c34 c35 c36 c37 c38 c39 c40 c41 c42 c43 c44 c45 c46 c47 c48 c49 c50,r=[c25,c26,c27,c28,c29,c30,c31,c32,c33,c34,c35,c36,c37,c38,c39,c40,c41,c42,c43,c44,c45,c46,c47,c48,c49,c50]:=by
  match r,hr with
  |[c25,c26,c27,c28,c29,c30,c31,c32,c33,c34,c35,c36,c37,c38,c39,c40,c41,c42,c43,c44,c45,c46,c47,c48,c49,c50],_=>exact ⟨c25,c26,c27,c28,c29,c30,c31,c32,c33,c34,c35,c36,c37,c38,c39,c40,c41,c42,c43,c44,c45,c46,c47,c48,c49,c50,rfl⟩
 obtain ⟨d0,d1,d2,d3,d4,d5,d6,d7,d8,d9,rfl⟩:∃d0 d1 d2 d3 d4 d5 d6 d7 d8 d9,ds=[d0,d1,d2,d3,d4,d5,d6,d7,d8,d9]:=by
  match ds,(show ds.length=10 from hdl) with
  |[d0,d1,d2,d3,d4,d5,d6,d7,d8,d9],_=>exact ⟨d0,d1,d2,d3,d4,d5,d6,d7,d8,d9,rfl⟩
 clear hl hdl h;obtain ⟨n0,e0,w0⟩:=Iu (k:=.i64) (by kernel_rfl) (cs:=[c0]) (BI (di:=d0) Tryz.underlying48 hf 0 rfl rfl (n:=1) (by kernel_rfl));simp only [List.cons.injEq,and_true] at e0;subst e0;obtain ⟨n1,⟨⟨u1_0,u1_1,u1_2,u1_3,u1_4,u1_5,e1,h1_0,h1_1,h1_2,h1_3,h1_4,h1_5⟩,q1⟩,w1⟩:=Ye (cs:=[c1,c2,c3,c4,c5,c6,c7,c8,c9,c10,c11,c12,c13,c14,c15,c16,c17,c18,c19,c20,c21,c22,c23,c24,c25,c26,c27,c28,c29]) (BI (di:=d1) Tryz.underlying48 hf 1 rfl rfl (n:=29) (by kernel_rfl));simp only [List.cons.injEq,and_true] at e1;obtain ⟨rfl,rfl,rfl,rfl,rfl,rfl,rfl,rfl,rfl,rfl,rfl,rfl,rfl,rfl,rfl,rfl,rfl,rfl,rfl,rfl,rfl,rfl,rfl,rfl,rfl,rfl,rfl,rfl,rfl⟩:=e1;obtain ⟨n2,e2,w2⟩:=FO (by kernel_rfl) (cs:=[c30]) (BI (di:=d2) Tryz.underlying48 hf 2 rfl rfl (n:=1) (by kernel_rfl));simp only [List.cons.injEq,and_true] at e2;subst e2;obtain ⟨n3,h3,w3⟩:=TP (by kernel_rfl) (v:=c31) (BI (di:=d3) Tryz.underlying48 hf 3 rfl rfl (n:=1) (by kernel_rfl));obtain ⟨n4,h4,q4,w4⟩:=GZ (R:=Ez ExV 11) (Q:=fun l=>∀x∈l,iE x) (μ:=fun l=>mL l+1) 35 (by kernel_rfl) (n:=1) (by kernel_rfl) (by decide) (v:=c32) (BI (di:=d4) Tryz.underlying48 hf 4 rfl rfl (n:=1) (by kernel_rfl)) (fun c di _ hc=>APB hc);obtain ⟨n5,h5,q5,w5⟩:=GZ (R:=TSetV) (Q:=AIt) (μ:=Ia) 99 (by kernel_rfl) (n:=12) (by kernel_rfl) (by decide) (v:=c33) (BI (di:=d5) Tryz.underlying48 hf 5 rfl rfl (n:=1) (by kernel_rfl)) (fun c di _ hc=>ANC hc);obtain ⟨n6,g6,q6,w6⟩:=Mc (cs:=[c34,c35,c36,c37,c38,c39,c40,c41,c42,c43,c44]) (BI (di:=d6) Tryz.underlying48 hf 6 rfl rfl (n:=11) (by kernel_rfl))
 obtain ⟨u6,e6,h6⟩:=ExV.iff.1 g6;simp only [Az,str,List.cons.injEq,and_true] at e6;obtain ⟨rfl,rfl,rfl,rfl,rfl,rfl,rfl,rfl,rfl,rfl,rfl⟩:=e6;obtain ⟨n7,h7,q7,w7⟩:=GZ (R:=TColV) (Q:=WI) (μ:=GH) 101 (by kernel_rfl) (n:=16) (by kernel_rfl) (by decide) (v:=c45) (BI (di:=d7) Tryz.underlying48 hf 7 rfl rfl (n:=1) (by kernel_rfl)) (fun c di _ hc=>ANF hc);obtain ⟨n8,h8,w8⟩:=TP (by kernel_rfl) (v:=c46) (BI (di:=d8) Tryz.underlying48 hf 8 rfl rfl (n:=1) (by kernel_rfl));obtain ⟨n9,⟨⟨u9_0,e9,h9_0⟩,q9⟩,w9⟩:=ANE (cs:=[c47,c48,c49,c50]) (BI (di:=d9) Tryz.underlying48 hf 9 rfl rfl (n:=4) (by kernel_rfl));simp only [List.cons.injEq,and_true] at e9;obtain ⟨rfl,rfl,rfl,rfl⟩:=e9;refine ⟨⟨n0,n1,n2,n3,n4,n5,n6,n7,n8,n9⟩,⟨⟨_,_,_,_,_,_,_,_,_,_,_,_,_,rfl,h1_0,h1_1,h1_2,h1_3,h1_4,h1_5,h3,h4,h5,h6,h7,h8,h9_0⟩,⟨q1,q4,q5,q6,q7,q9⟩⟩,?_⟩;simp only [GM,Rows.uptoBulk,Rows.uptoBulkAll];omega
end
theorem Qn:∀(k f n:Nat) (acc:Bs),1≤k→n < 10 ^ k→(WU f n acc).length≤acc.length+k
 |0,_,_,_,h,_=>by omega
 |k+1,0,n,acc,_,_=>by simp only [WU];omega
 |k+1,f+1,n,acc,_,hn=>by
  simp only [WU];split
  ·simp
  ·rename_i h10
   cases k with
   |zero=>simp at hn;omega
   |succ k=>
    have hd:n / 10 < 10 ^ (k+1):=by
     rw [Nat.pow_succ] at hn;omega
    have:=Qn (k+1) f (n / 10) (UInt8.ofNat (48+n % 10)::acc) (by omega) hd;simp only [List.length_cons] at this;omega
theorem Qq {n:Int}(h:okI n):(LV true n).length≤20:=by
 unfold okI at h;unfold LV;split
 ·simp only [if_true,List.length_cons];have:=Qn 19 (n.natAbs+1) n.natAbs [] (by omega) (by omega);simp only [List.length_nil] at this;omega
 ·have:=Qn 19 (n.toNat+1) n.toNat [] (by omega) (by omega);simp only [List.length_nil] at this;omega
theorem SG (q:UInt8)(s:Bs):(JA q s).length≤2 * s.length+2:=by
 have:∀s:Bs,(s.flatMap fun c=>if c==q then [q,q] else [c]).length≤2 * s.length:=by
  intro s;induction s with
  |nil=>simp
  |cons c s ih=>
   simp only [List.flatMap_cons,List.length_append,List.length_cons];split <;> simp only [List.length_cons,List.length_nil] <;> omega
 have:=this s;simp only [JA,List.length_append,List.length_cons,List.length_nil];omega
theorem DT (s:Bs):(nameB s).length≤2 * s.length+2:=by
 unfold nameB;split
 ·omega
 ·exact SG 34 s
theorem AKd {v:TValue}(h:okI v.fInt):(VF true v).length≤2 * v.fText.length+20:=by
 unfold VF;split
 ·simp
 split
 ·have:=SG 39 v.fText;omega
 split
 ·split <;> simp
 ·have:=Qq h;omega
theorem Ho:∀l:List Bs,(Ak l).length≤(l.map fun x=>x.length+2).sum
 |[]=>by simp [Ak]
 |[x]=>by simp [Ak]
 |x::y::l=>by
  have:=Ho (y::l);simp only [Ak,List.length_append,List.map_cons,List.sum_cons] at this ⊢;simp only [List.length_cons,List.length_nil];omega
theorem Ij {α:Type}{f:α→Bs}{μ:α→Nat}:∀(l:List α),(∀x∈l,(f x).length+2≤40 * μ x)→(Ak (l.map f)).length≤40 * (l.map μ).sum:=by
 intro l h;refine Nat.le_trans (Ho _) ?_;induction l with
 |nil=>simp
 |cons x l ih=>
  have h1:=h x (List.mem_cons_self ..);have h2:=ih fun y hy=>h y (List.mem_cons_of_mem _ hy);simp only [List.map_cons,List.sum_cons] at h2 ⊢;omega
theorem KL:∀(l:List Ex) (F:Nat→Bs),(∀i x,l[i]? =some x→(F i).length+2≤40 * mE x)→(((List.range l.length).map F).map fun x=>x.length+2).sum≤40 * mL l
 |[],F,_=>by simp [mL]
 |x::l,F,h=>by
  have h0:=h 0 x rfl;have ih:=KL l (fun i=>F (i+1)) (fun i y hy=>h (i+1) y (by simpa using hy));rw [List.length_cons,List.range_succ_eq_map];simp only [List.map_cons,List.sum_cons,List.map_map,mL] at ih ⊢;have e:((fun x:Bs=>x.length+2) ∘ F ∘ Nat.succ)=((fun x:Bs=>x.length+2) ∘ fun i=>F (i+1)):=rfl;rw [e];omega
theorem WP {α:Type}(F:α→Bs):∀l:List α,(l.flatMap F).length≤((l.map F).map fun x=>x.length+2).sum
 |[]=>by simp
 |x::l=>by
  have:=WP F l;simp only [List.flatMap_cons,List.length_append,List.map_cons,List.sum_cons] at this ⊢;omega
theorem YE (x:Ex):mE x=x.value.fText.length+x.table.length+x.name.length+mL x.args+1:=by cases x;rfl
theorem ABe {l:List Ex}{A:Nat→Nat}(h:∀i x,l[i]? =some x→A i+8≤40 * mE x)(h1:∀i,l[i]? =none→A i≤1):A 0+A 1+A 2≤40 * mL l+3∧A 0+A 1≤40 * mL l+2∧A 0≤40 * mL l+1:=by
 match l with
 |[]=>
  have a0:=h1 0 rfl;have a1:=h1 1 rfl;have a2:=h1 2 rfl;omega
 |[x]=>
  have a0:=h 0 x rfl;have a1:=h1 1 rfl;have a2:=h1 2 rfl;simp only [mL];omega
 |[x,y]=>
  have a0:=h 0 x rfl;have a1:=h 1 y rfl;have a2:=h1 2 rfl;simp only [mL];omega
 |x::y::z::l=>
  have a0:=h 0 x rfl;have a1:=h 1 y rfl;have a2:=h 2 z rfl;simp only [mL];omega
theorem ADP {k:Int}{s:Bs}{l:Int}(h:Fp k=some (s,l)):s.length≤4:=by
 unfold Fp at h;by_cases h0:k=22;· subst h0;simp at h;rw [←h.1];decide
 by_cases h1:k=21;· subst h1;simp at h;rw [←h.1];decide
 by_cases h2:k=23;· subst h2;simp at h;rw [←h.1];decide
 by_cases h3:k=15;· subst h3;simp at h;rw [←h.1];decide
 by_cases h4:k=16;· subst h4;simp at h;rw [←h.1];decide
 by_cases h5:k=17;· subst h5;simp at h;rw [←h.1];decide
 by_cases h6:k=18;· subst h6;simp at h;rw [←h.1];decide
 by_cases h7:k=19;· subst h7;simp at h;rw [←h.1];decide
 by_cases h8:k=20;· subst h8;simp at h;rw [←h.1];decide
 by_cases h9:k=9;· subst h9;simp at h;rw [←h.1];decide
 by_cases h10:k=10;· subst h10;simp at h;rw [←h.1];decide
 by_cases h11:k=14;· subst h11;simp at h;rw [←h.1];decide
 by_cases h12:k=11;· subst h12;simp at h;rw [←h.1];decide
 by_cases h13:k=12;· subst h13;simp at h;rw [←h.1];decide
 by_cases h14:k=13;· subst h14;simp at h;rw [←h.1];decide
 simp [h0,h1,h2,h3,h4,h5,h6,h7,h8,h9,h10,h11,h12,h13,h14] at h
theorem ACS {x:Ex}{arg:Nat→Int→Bs}(hi:okI x.value.fInt)(h:∀i l y,x.args[i]? =some y→(arg i l).length+8≤40 * mE y)(h1:∀i l,x.args[i]? =none→(arg i l).length≤1):(BJ true x arg).length+10≤40 * mE x:=by
 rw [YE];have t3:∀l0 l1 l2:Int,(arg 0 l0).length+(arg 1 l1).length+(arg 2 l2).length≤40 * mL x.args+3∧(arg 0 l0).length+(arg 1 l1).length≤40 * mL x.args+2∧(arg 0 l0).length≤40 * mL x.args+1:=by
  intro l0 l1 l2;have:=ABe (l:=x.args) (A:=fun i=>(arg i (if i=0 then l0 else if i=1 then l1 else l2)).length) (fun i y hy=>h i _ y hy) (fun i hy=>h1 i _ hy);simpa using this
 unfold BJ;split
 ·rename_i s l hs
  have a:=ADP hs;have:=(t3 (if l=4 then 5 else l) (l+1) 0).2.1;simp only [List.length_append,List.length_cons,List.length_nil];omega
 by_cases k1:x.kind=1
 ·rw [if_pos k1];have:=AKd hi;omega
 rw [if_neg k1];by_cases k2:x.kind=2
 ·rw [if_pos k2];have a:=DT x.table;have b:=DT x.name;simp only [List.length_append];split <;> simp only [List.length_append,List.length_cons,List.length_nil] <;> omega
 rw [if_neg k2];by_cases k4:x.kind=4
 ·rw [if_pos k4];have:=(t3 8 0 0).2.2;simp only [List.length_append,List.length_cons,List.length_nil];omega
 rw [if_neg k4];by_cases k5:x.kind=5
 ·rw [if_pos k5];have:=(t3 3 0 0).2.2;simp only [List.length_append,List.length_cons,List.length_nil];omega
 rw [if_neg k5];by_cases k6:x.kind=6
 ·rw [if_pos k6];have:=(t3 5 0 0).2.2;simp only [List.length_append,List.length_cons,List.length_nil];omega
 rw [if_neg k6];by_cases k7:x.kind=7
 ·rw [if_pos k7];have:=(t3 5 0 0).2.2;simp only [List.length_append,List.length_cons,List.length_nil];omega
 rw [if_neg k7];by_cases k24:x.kind=24
 ·rw [if_pos k24];have ha:(arg 0 5).length+(Ak ((List.range (x.args.length - 1)).map fun i=>arg (i+1) 1)).length≤40 * mL x.args+1:=by
   cases hx:x.args with
   |nil=>
    have:=h1 0 5 (by rw [hx];rfl);simp [Ak];omega
   |cons y l=>
    have a0:=h 0 5 y (by rw [hx];rfl);have:=Ho ((List.range l.length).map fun i=>arg (i+1) 1);have b:=KL l (fun i=>arg (i+1) 1) (fun i z hz=>by have:=h (i+1) 1 z (by rw [hx];simpa using hz);omega);simp only [List.length_cons,Nat.add_sub_cancel,mL];omega
  simp only [List.length_append,List.length_cons,List.length_nil];omega
 rw [if_neg k24];by_cases k25:x.kind=25
 ·rw [if_pos k25];have:=(t3 5 5 5).1;simp only [List.length_append,List.length_cons,List.length_nil];omega
 rw [if_neg k25];by_cases k8:x.kind=8
 ·rw [if_pos k8];have:=(t3 1 0 0).2.2;simp only [List.length_append,List.length_cons,List.length_nil];omega
 rw [if_neg k8];by_cases k27:x.kind=27
 ·rw [if_pos k27];have:=Ho ((List.range x.args.length).map fun i=>arg i 1);have b:=KL x.args (fun i=>arg i 1) (fun i z hz=>by have:=h i 1 z hz;omega);simp only [List.length_append,List.length_cons,List.length_nil];omega
 rw [if_neg k27];by_cases k26:x.kind=26
 ·rw [if_pos k26];have:=WP (fun i=>(if i % 2=1 then [32,116,104,101,110,32] else if i+1=x.args.length then [32,101,108,115,101,32] else [32,119,104,101,110,32])++arg i 1) (List.range x.args.length);have b:=KL x.args (fun i=>(if i % 2=1 then [32,116,104,101,110,32] else if i+1=x.args.length then [32,101,108,115,101,32] else [32,119,104,101,110,32])++arg i 1) (fun i z hz=>by
   have:=h i 1 z hz;have e:(if i % 2=1 then [32,116,104,101,110,32] else if i+1=x.args.length then [32,101,108,115,101,32] else [32,119,104,101,110,32]:Bs).length=6:=by
    split
    ·rfl
    ·split <;> rfl
   simp only [List.length_append,e];omega)
  simp only [List.length_append,List.length_cons,List.length_nil];omega
 rw [if_neg k26];by_cases k28:x.kind=28
 ·rw [if_pos k28];have:=(t3 1 0 0).2.2;simp only [List.length_append];split <;> split <;> simp only [List.length_cons,List.length_nil] <;> omega
 ·rw [if_neg k28];simp only [List.length_cons,List.length_nil];omega
theorem WS:∀(n:Nat) (x:Ex) (asked:Int),iE x→(Ku true n x asked).length+8≤40 * mE x
 |0,x,asked,_=>by
  have:=YE x;simp only [Ku,List.length_nil];omega
 |n+1,x,asked,hi=>by
  have hix:okI x.value.fInt∧iL x.args:=by cases x;exact hi
  have e:∃F:Nat→Int→Bs,Ku true (n+1) x asked=ACI (decide (AIm x.kind < asked)) (BJ true x F)∧∀i l,F i l=match x.args[i]? with|some y=>Ku true n y l|none=>[63]:=⟨_,rfl,fun _ _=>rfl⟩
  obtain ⟨F,e,hF⟩:=e;have hin:=ACS (x:=x) (arg:=F) hix.1
   (fun i l y hy=>by rw [hF];simp only [hy];exact WS n y l (AIu hix.2 (List.mem_of_getElem? hy))) (fun i l hy=>by rw [hF];simp [hy])
  rw [e];simp only [ACI];split
  ·simp only [List.length_append,List.length_cons,List.length_nil];omega
  ·omega
theorem JM {x:Ex}(h:iE x)(asked:Int):(exB true x asked).length+8≤40 * mE x:=WS _ x asked h
theorem WB {l:List Ex}(h:∀x∈l,iE x):(Ib true l).length≤40 * mL l:=by
 rw [←Ua];exact Ij l fun x hx=>by have:=JM (h x hx) 1;omega
theorem LZ {s:Bs}{x:Ex}(h:iE x)(hs:s.length≤8):(DY true s x).length≤40 * mE x:=by
 unfold DY;split
 ·simp
 ·have:=JM h 1;simp only [List.length_append];omega
theorem AKO (s:Bs):(asB s).length≤2 * s.length+6:=by
 unfold asB;split
 ·simp
 ·have:=DT s;simp only [List.length_append,List.length_cons,List.length_nil];omega
theorem AIq {x:TItem}(h:Ud x):(IJ true x).length+2≤40 * Eo x:=by
 have a:=AKO x.fAs;have b:=DT x.fTable;have c:=JM h 1;unfold IJ Eo;simp only [List.length_append];split
 ·split <;> simp only [List.length_append,List.length_cons,List.length_nil] <;> omega
 ·omega
theorem AKo {x:TSource}(i:Nat)(h:Jw x):(XV true i x).length≤40 * DD x:=by
 have a:=AKO x.fAs;have b:=DT x.fTable;have c:=JM h 1;unfold XV DD;have e:(if i=0 then [32,102,114,111,109,32] else if x.fLeft then [32,108,101,102,116,32,106,111,105,110,32] else if x.fOn.kind≠0 then [32,106,111,105,110,32] else [32,99,114,111,115,115,32,106,111,105,110,32]:Bs).length≤12:=by
  split
  ·decide
  split
  ·decide
  split <;> decide
 revert e
 generalize (if i=0 then [32,102,114,111,109,32] else if x.fLeft then [32,108,101,102,116,32,106,111,105,110,32] else if x.fOn.kind≠0 then [32,106,111,105,110,32] else [32,99,114,111,115,115,32,106,111,105,110,32]:Bs)=p;intro e;simp only [List.length_append];split
 ·simp only [List.length_append,List.length_cons,List.length_nil];omega
 ·simp only [List.length_nil];omega
theorem VO:∀(l:List TSource) (i:Nat),(∀x∈l,Jw x)→(Dc true i l).length≤40 * (l.map DD).sum
 |[],i,_=>by simp [Dc]
 |x::l,i,h=>by
  have a:=AKo i (h x (List.mem_cons_self ..));have b:=VO l (i+1) fun y hy=>h y (List.mem_cons_of_mem _ hy);simp only [Dc,List.length_append,List.map_cons,List.sum_cons];omega
theorem AMS {x:TOrder}(h:PK x):(UU true x).length+2≤40 * DX x:=by
 have c:=JM h 1;unfold UU DX;simp only [List.length_append];split <;> simp only [List.length_cons,List.length_nil] <;> omega
theorem NR (l:List Bs):(EJ l).length≤40 * (l.map mB).sum+2:=by
 have:=Ij (f:=nameB) (μ:=mB) l fun x _=>by have:=DT x;unfold mB;omega
 unfold EJ;simp only [List.length_append,List.length_cons,List.length_nil];omega
theorem ABy {q:TSelect}(h:QY q):(Jl true q).length≤40 * En q+100:=by
 obtain ⟨h1,h2,h3,h4,h5,h6,h7,h8⟩:=h;have a1:=Ij (f:=IJ true) (μ:=Eo) q.fItems fun x hx=>AIq (h1 x hx);have a2:=VO q.fFrom 0 h2;have a3:=LZ (s:=[32,119,104,101,114,101,32]) h3 (by decide);have a4:=WB h4;have a5:=LZ (s:=[32,104,97,118,105,110,103,32]) h5 (by decide);have a6:=Ij (f:=UU true) (μ:=DX) q.fOrder fun x hx=>AMS (h6 x hx);have a7:=Qq h7;have a8:=Qq h8;unfold Jl En;have b1:(if q.fDistinct then [100,105,115,116,105,110,99,116,32] else []:Bs).length≤9:=by split <;> decide
 have b4:(if q.fGroup.isEmpty then [] else [32,103,114,111,117,112,32,98,121,32]++Ib true q.fGroup).length≤40 * mL q.fGroup+10:=by
  split <;> simp only [List.length_append,List.length_cons,List.length_nil] <;> omega
 have b6:(if q.fOrder.isEmpty then [] else [32,111,114,100,101,114,32,98,121,32]++Ak (q.fOrder.map (UU true))).length≤40 * (q.fOrder.map DX).sum+10:=by
  split <;> simp only [List.length_append,List.length_cons,List.length_nil] <;> omega
 have b7:(if 0≤q.fLimit then [32,108,105,109,105,116,32]++LV true q.fLimit else []).length≤27:=by
  split <;> simp only [List.length_append,List.length_cons,List.length_nil] <;> omega
 have b8:(if q.fOffset=0 then [] else [32,111,102,102,115,101,116,32]++LV true q.fOffset).length≤28:=by
  split <;> simp only [List.length_append,List.length_cons,List.length_nil] <;> omega
 simp only [List.length_append,List.length_cons,List.length_nil];omega
theorem AMr {c:TCol}(h:WI c):(RD true c).length+2≤40 * GH c+40:=by
 have a:=DT c.fName;have b:=JM h 1;unfold RD GH;rw [show (if true=true then (1:Int) else 7)=1 from rfl];have b1:(VI c.fType).length≤4:=by
  unfold VI;split
  ·decide
  split
  ·decide
  split <;> decide
 have b2:(if c.fNotNull then [32,110,111,116,32,110,117,108,108] else []:Bs).length≤9:=by split <;> decide
 have b3:(if c.fKey then [32,112,114,105,109,97,114,121,32,107,101,121] else []:Bs).length≤12:=by split <;> decide
 have b4:(if c.fUnique then [32,117,110,105,113,117,101] else []:Bs).length≤7:=by split <;> decide
 have b5:(if c.fDefault.kind=0 then [] else [32,100,101,102,97,117,108,116,32]++exB true c.fDefault 1).length≤40 * mE c.fDefault+1:=by
  split <;> simp only [List.length_append,List.length_cons,List.length_nil] <;> omega
 simp only [List.length_append,List.length_cons,List.length_nil];omega
theorem AJO {c:TCol}(h:WI c):(RD true c).length+2≤80 * GH c:=by
 have:=AMr h;have:1≤GH c:=by unfold GH;omega
 omega
theorem Qz {α:Type}{f:α→Bs}{μ:α→Nat}:∀(l:List α),(∀x∈l,(f x).length+2≤80 * μ x)→(Ak (l.map f)).length≤80 * (l.map μ).sum:=by
 intro l h;refine Nat.le_trans (Ho _) ?_;induction l with
 |nil=>simp
 |cons x l ih=>
  have h1:=h x (List.mem_cons_self ..);have h2:=ih fun y hy=>h y (List.mem_cons_of_mem _ hy);simp only [List.map_cons,List.sum_cons] at h2 ⊢;omega
theorem AID {l:List Ex}(h:∀x∈l,iE x):(rowB true l).length+2≤80 * (mL l+1):=by
 have:=WB h;unfold rowB;simp only [List.length_append,List.length_cons,List.length_nil];omega
theorem AIy {s:TStmt}(h:QX s):(BM true s).length≤80 * GM s+200:=by
 obtain ⟨h1,h2,h3,h4,h5,h6⟩:=h;have a1:=ABy h1;have a2:=DT s.fTable;have a3:=NR s.fColumns;have a4:=Qz (f:=rowB true) (μ:=fun l=>mL l+1) s.fRows fun x hx=>AID (h2 x hx);have a5:=Ij (f:=fun x:TSet=>nameB x.fColumn++[32,61,32]++exB true x.fExpr 1) (μ:=Ia) s.fSets fun x hx=>by
  have b1:=DT x.fColumn;have b2:=JM (h3 x hx) 1;unfold Ia;simp only [List.length_append,List.length_cons,List.length_nil];omega
 have a6:=LZ (s:=[32,119,104,101,114,101,32]) h4 (by decide);have a7:=Qz (f:=RD true) (μ:=GH) s.fCols fun x hx=>AJO (h5 x hx);have a8:=NR s.fKey;have a9:=DT s.fIndex.fName;have a10:=DT s.fIndex.fTable;have a11:=NR s.fIndex.fColumns;unfold BM GM QV;by_cases k1:s.fKind=1
 ·rw [if_pos k1];omega
 rw [if_neg k1];by_cases k2:s.fKind=2
 ·rw [if_pos k2];have b:(if s.fColumns.isEmpty then [] else [32]++EJ s.fColumns).length≤40 * (s.fColumns.map mB).sum+3:=by
   split <;> simp only [List.length_append,List.length_cons,List.length_nil] <;> omega
  simp only [List.length_append,List.length_cons,List.length_nil];omega
 rw [if_neg k2];by_cases k3:s.fKind=3
 ·rw [if_pos k3];simp only [List.length_append,List.length_cons,List.length_nil];omega
 rw [if_neg k3];by_cases k4:s.fKind=4
 ·rw [if_pos k4];simp only [List.length_append,List.length_cons,List.length_nil];omega
 rw [if_neg k4];by_cases k5:s.fKind=5
 ·rw [if_pos k5];have b:(if s.fKey.isEmpty then [] else [44,32,112,114,105,109,97,114,121,32,107,101,121,32]++EJ s.fKey).length≤40 * (s.fKey.map mB).sum+20:=by
   split <;> simp only [List.length_append,List.length_cons,List.length_nil] <;> omega
  unfold Jg;simp only [List.length_append,List.length_cons,List.length_nil];omega
 rw [if_neg k5];by_cases k6:s.fKind=6
 ·rw [if_pos k6];have b:(if s.fIndex.fUnique then [117,110,105,113,117,101,32] else []:Bs).length≤7:=by split <;> decide
  simp only [List.length_append,List.length_cons,List.length_nil];omega
 rw [if_neg k6];by_cases k7:s.fKind=7
 ·rw [if_pos k7];simp only [List.length_append,List.length_cons,List.length_nil];omega
 rw [if_neg k7];by_cases k8:s.fKind=8
 ·rw [if_pos k8];simp only [List.length_append,List.length_cons,List.length_nil];omega
 rw [if_neg k8];by_cases k9:s.fKind=9
 ·rw [if_pos k9];simp only [List.length_cons,List.length_nil];omega
 rw [if_neg k9];by_cases k10:s.fKind=10
 ·rw [if_pos k10];simp only [List.length_cons,List.length_nil];omega
 rw [if_neg k10];by_cases k11:s.fKind=11
 ·rw [if_pos k11];simp only [List.length_cons,List.length_nil];omega
 ·rw [if_neg k11];simp only [List.length_cons,List.length_nil];omega
mutual
theorem AAs:∀x:Ex,Ai x≤mE x
 | .mk k v t n s ty d l=>by have:=Vt l;simp only [Ai,mE];omega
theorem Vt:∀l:List Ex,Ag l≤mL l
 |[]=>Nat.le_refl _
 |x::l=>by have:=AAs x;have:=Vt l;simp only [Ag,mL];omega
end
theorem ASE (x:Ex):1≤mE x:=by rw [YE];omega
theorem WC:∀l:List Ex,l.length≤mL l
 |[]=>Nat.le_refl _
 |x::l=>by have:=ASE x;have:=WC l;simp only [mL,List.length_cons];omega
mutual
theorem ANM:∀{x:Ex},iE x→mE x≤1000000000000→okE x
 | .mk k v t n s ty d l,h,hp=>by
  simp only [mE] at hp;have:=WC l;exact ⟨h.1,by omega,AAt h.2 (by omega)⟩
theorem AAt:∀{l:List Ex},iL l→mL l≤1000000000000→okL l
 |[],_,_=>trivial
 |x::l,h,hp=>by
  simp only [mL] at hp;exact ⟨ANM h.1 (by omega),AAt h.2 (by omega)⟩
end
theorem AJB (p:Ex→Bool):∀l:List Ex,Ag (l.filter p)≤mL l
 |[]=>Nat.le_refl _
 |x::l=>by
  have:=AJB p l;have:=AAs x;rw [List.filter_cons];split <;> simp only [Ag,mL] <;> omega
theorem YD:∀a b:List Ex,mL (a++b)=mL a+mL b
 |[],b=>by simp [mL]
 |x::a,b=>by simp only [List.cons_append,mL,YD a b];omega
theorem NS {α:Type}(f:α→Ex)(μ:α→Nat):∀l:List α,(∀x,mE (f x)≤μ x)→mL (l.map f)≤(l.map μ).sum
 |[],_=>Nat.le_refl _
 |x::l,h=>by have:=NS f μ l h;have:=h x;simp only [List.map_cons,mL,List.sum_cons];omega
theorem AAx:∀l:List (List Ex),mL l.flatten+l.length≤(l.map fun x=>mL x+1).sum
 |[]=>Nat.le_refl _
 |x::l=>by have:=AAx l;simp only [List.flatten_cons,YD,List.map_cons,List.sum_cons,List.length_cons];omega
theorem JH {α:Type}(μ:α→Nat)(h:∀x,1≤μ x):∀l:List α,l.length≤(l.map μ).sum
 |[]=>Nat.le_refl _
 |x::l=>by have:=JH μ h l;have:=h x;simp only [List.map_cons,List.sum_cons,List.length_cons];omega
theorem IE {α:Type}(μ:α→Nat){x:α}:∀{l:List α},x∈l→μ x≤(l.map μ).sum
 |y::l,h=>by
  simp only [List.map_cons,List.sum_cons];rcases List.mem_cons.1 h with rfl|h
  ·omega
  ·have:=IE μ h;omega
theorem AMy {s:TStmt}(h:QX s)(hm:GM s≤1048576):OkS s∧Em s≤1000000000∧(BM true s).length≤900000000:=by
 have hf:=AIy h;obtain ⟨⟨h1,h2,h3,h4,h5,h6,h7,h8⟩,k2,k3,k4,k5,_⟩:=h;have hq:En s.fSelect≤GM s:=by unfold GM;omega
 have q1:(s.fSelect.fItems.map Eo).sum+(s.fSelect.fFrom.map DD).sum+mE s.fSelect.fWhere+mL s.fSelect.fGroup+mE s.fSelect.fHaving+(s.fSelect.fOrder.map DX).sum+1=En s.fSelect:=by unfold En;omega
 have s1:En s.fSelect+s.fTable.length+(s.fColumns.map mB).sum+(s.fRows.map fun l=>mL l+1).sum+(s.fSets.map Ia).sum+mE s.fWhere+(s.fCols.map GH).sum+(s.fKey.map mB).sum+QV s.fIndex+1=GM s:=by unfold GM;omega
 have i1:(s.fIndex.fColumns.map mB).sum≤QV s.fIndex:=by unfold QV;omega
 have pI:∀x:TItem,mE x.fExpr≤Eo x:=fun x=>by unfold Eo;omega
 have pS:∀x:TSource,mE x.fOn≤DD x:=fun x=>by unfold DD;omega
 have pO:∀x:TOrder,mE x.fExpr≤DX x:=fun x=>by unfold DX;omega
 have pT:∀x:TSet,mE x.fExpr≤Ia x:=fun x=>by unfold Ia;omega
 have pC:∀x:TCol,mE x.fDefault≤GH x:=fun x=>by unfold GH;omega
 have lB:∀l:List Bs,l.length≤(l.map mB).sum:=JH mB fun x=>by unfold mB;omega
 have l1:=JH Eo (fun x=>by unfold Eo;omega) s.fSelect.fItems;have l2:=JH DD (fun x=>by unfold DD;omega) s.fSelect.fFrom;have l3:=WC s.fSelect.fGroup;have l4:=JH DX (fun x=>by unfold DX;omega) s.fSelect.fOrder;have l5:=AAx s.fRows;have l5':=WC s.fRows.flatten;have l6:=JH Ia (fun x=>by unfold Ia;omega) s.fSets;have l7:=JH GH (fun x=>by unfold GH;omega) s.fCols;have b1:=lB s.fColumns;have b2:=lB s.fKey;have b3:=lB s.fIndex.fColumns;have e:∀{x:Ex},iE x→mE x≤GM s→okE x:=fun h hx=>ANM h (by omega);refine ⟨⟨⟨fun x hx=>e (h1 x hx) ?_,fun x hx=>e (h2 x hx) ?_,e h3 (by omega),AAt (ABC h4) (by omega),e h5 (by omega),fun x hx=>e (h6 x hx) ?_,h7,h8,?_⟩,e k4 (by omega),fun x hx=>⟨AAt (ABC (k2 x hx)) ?_,?_⟩,fun x hx=>e (k3 x hx) ?_,fun x hx=>e (k5 x hx) ?_,?_,by omega,by omega,by omega⟩,?_,by omega⟩
 ·have:=IE Eo hx;have:=pI x;omega
 ·have:=IE DD hx;have:=pS x;omega
 ·have:=IE DX hx;have:=pO x;omega
 ·unfold cQ;omega
 ·have:=IE (fun l=>mL l+1) hx;omega
 ·have:=IE (fun l=>mL l+1) hx;have:=WC x;omega
 ·have:=IE Ia hx;have:=pT x;omega
 ·have:=IE GH hx;have:=pC x;omega
 ·unfold cS cQ;omega
 ·unfold Em FV;have a0:=AJB (fun x=>x.kind != 0) (s.fSelect.fItems.map (·.fExpr)++s.fSelect.fFrom.map (·.fOn)++[s.fSelect.fWhere,s.fSelect.fHaving,s.fWhere]++s.fSelect.fGroup++s.fSelect.fOrder.map (·.fExpr)++s.fRows.flatten++s.fSets.map (·.fExpr)++s.fCols.map (·.fDefault));have a1:=NS (·.fExpr) Eo s.fSelect.fItems pI;have a2:=NS (·.fOn) DD s.fSelect.fFrom pS;have a3:=NS (·.fExpr) DX s.fSelect.fOrder pO;have a4:=NS (·.fExpr) Ia s.fSets pT;have a5:=NS (·.fDefault) GH s.fCols pC;simp only [YD,mL] at a0;omega
theorem FW {α:Type}{f:α→α→Bool}:∀{xs ys:List α},(∀x∈xs,∀y,f x y=true→x=y)→eqL f xs ys=true→xs=ys
 |[],[],_,_=>rfl
 |[],_::_,_,h=>by cases h
 |_::_,[],_,h=>by cases h
 |x::xs,y::ys,hf,h=>by
  simp only [eqL,Bool.and_eq_true] at h;rw [hf x (List.mem_cons_self ..) y h.1,FW (fun z hz=>hf z (List.mem_cons_of_mem _ hz)) h.2]
theorem Ry:∀(n:Nat) (x y:Ex),DF x≤n→EH x y=true→x=y
 |0,x,y,hd,_=>by have:=FY x;omega
 |n+1,x,y,hd,h=>by
  rw [Vb] at h;simp only [Bool.and_eq_true,beq_iff_eq] at h;have hdd:=Dl x;have ha:=FW (fun z hz w hw=>Ry n z w (by have:=Es hz;omega) hw) h.2;obtain ⟨k,v,t,m,s,ty,d,l⟩:=x;obtain ⟨k',v',t',m',s',ty',d',l'⟩:=y;simp only [Ex.kind,Ex.value,Ex.table,Ex.name,Ex.slot,Ex.type,Ex.distinct,Ex.args] at h ha;obtain ⟨⟨⟨⟨⟨⟨⟨rfl,rfl⟩,rfl⟩,rfl⟩,rfl⟩,rfl⟩,rfl⟩,_⟩:=h;rw [ha]
theorem sE {x y:Ex}(h:EH x y=true):x=y:=Ry _ x y (Nat.le_refl _) h
theorem eB {x y:Bs}(h:eqB x y=true):x=y:=by simpa [eqB] using h
theorem same_eq {a b:TStmt}(h:KY a b=true):a=b:=by
 unfold KY sQu sIx sRe at h;simp only [Bool.and_eq_true,beq_iff_eq] at h;obtain ⟨⟨⟨⟨⟨⟨⟨⟨⟨⟨⟨⟨⟨d1,d2⟩,d3⟩,d4⟩,d5⟩,d6⟩,h2⟩,h3⟩,h4⟩,h5⟩,h6⟩,h7⟩,⟨⟨⟨x1,x2⟩,x3⟩,x4⟩⟩,⟨⟨⟨⟨r1,r2⟩,r3⟩,r4⟩,r5⟩⟩:=h;have h2:=FW (fun x _ y hxy=>by
  unfold sIt at hxy;simp only [Bool.and_eq_true,beq_iff_eq] at hxy;obtain ⟨⟨⟨e1,e2⟩,e3⟩,e4⟩:=hxy;cases x;cases y;simp only at e1 e2 e3 e4;rw [e1,e2,e3,sE e4]) h2
 have h3:=FW (fun x _ y hxy=>by
  unfold sSo at hxy;simp only [Bool.and_eq_true,beq_iff_eq] at hxy;obtain ⟨⟨⟨e1,e2⟩,e3⟩,e4⟩:=hxy;cases x;cases y;simp only at e1 e2 e3 e4;rw [e1,e2,e3,sE e4]) h3
 have h4:=FW (fun x _ y hxy=>by
  unfold sOr at hxy;simp only [Bool.and_eq_true,beq_iff_eq] at hxy;obtain ⟨e1,e4⟩:=hxy;cases x;cases y;simp only at e1 e4;rw [e1,sE e4]) h4
 have h5:=FW (fun x _ y hxy=>FW (fun x _ y h=>sE h) hxy) h5;have h6:=FW (fun x _ y hxy=>by
  unfold sSe at hxy;simp only [Bool.and_eq_true,beq_iff_eq] at hxy;obtain ⟨e1,e4⟩:=hxy;cases x;cases y;simp only at e1 e4;rw [e1,sE e4]) h6
 have h7:=FW (fun x _ y hxy=>by
  unfold sCo at hxy;simp only [Bool.and_eq_true,beq_iff_eq] at hxy;obtain ⟨⟨⟨⟨⟨e1,e2⟩,e3⟩,e4⟩,e5⟩,e6⟩:=hxy;cases x;cases y;simp only at e1 e2 e3 e4 e5 e6;rw [e1,e2,e3,e4,e5,sE e6]) h7
 have d4:=sE d4;have d5:=sE d5;have d6:=FW (fun x _ y h=>sE h) d6;have x4:=FW (fun x _ y h=>eB h) x4;have r3:=FW (fun x _ y h=>eB h) r3;have r4:=FW (fun x _ y h=>eB h) r4;have r5:=sE r5;obtain ⟨k,⟨q1,q2,q3,q4,q5,q6,q7,q8,q9⟩,t,co,ro,se,wh,cl,ke,⟨j1,j2,j3,j4⟩⟩:=a;obtain ⟨k',⟨q1',q2',q3',q4',q5',q6',q7',q8',q9'⟩,t',co',ro',se',wh',cl',ke',⟨j1',j2',j3',j4'⟩⟩:=b;simp only at *
 subst d1 d2 d3 d4 d5 d6 h2 h3 h4 h5 h6 h7 x1 x2 x3 x4 r1 r2 r3 r4 r5;rfl
theorem AIE {s:TStmt}(h:Ej s=0):readA (BM true s)=([s],ok0)∧NT (Em s) (Qm s)=0:=by
 unfold Ej at h;cases hr:readA (BM true s) with
 |mk l f=>
  rw [hr] at h;match l,h with
  |[],h=>exact absurd (show (177:Int)=0 from h) (by decide)
  |_::_::_,h=>exact absurd (show (177:Int)=0 from h) (by decide)
  |[x],h=>
   simp only at h
   split at h
   ·rename_i hf
    split at h
    ·rename_i hx
     rw [same_eq hx,hf];exact ⟨rfl,h⟩
    ·exact absurd h (by decide)
   ·exact absurd h (by decide)
theorem AKr {s:TStmt}(h:(JV s).2=0):(JV s).1=BM true s∧EW (BM true s)=([s],ok0):=by
 unfold JV at h ⊢;split at h
 ·rename_i h1
  exact absurd h h1
 rename_i h1
 rw [if_neg h1];have h1:Ej s=0:=Decidable.not_not.1 h1;split at h
 ·exact absurd h (by decide)
 rename_i h2
 rw [if_neg h2];obtain ⟨g1,g2⟩:=AIE h1;refine ⟨rfl,?_⟩;unfold EW;rw [if_neg h2,g1];have e1:NT (BO [s]) (Dj [s])=0:=by
  rw [←g2];simp [BO,Dj]
 simp only [e1,ne_eq,not_true_eq_false,if_false]
theorem ADS {s:TStmt}(h:(JV s).2≠0):(JV s).1=[]:=by
 unfold JV at h ⊢;split
 ·rfl
 rename_i h1
 rw [if_neg h1] at h;split
 ·rfl
 ·rename_i h2
  rw [if_neg h2] at h;exact absurd rfl h
section
variable {ω:Om}{G I:Imm}{L F:LH}{K:Value→M}
theorem AKN (hG:Ey G)(hS:SpG G)(hGI:Ext G I){s:TStmt}{c:List Value}(hi:QX s)(hm:GM s≤1048576)(hc:TStmtV I s c)(hk:∀I',Ext I I'→K (.bool true) I' L):CT ω 6 #[.agg c.toArray] K I L:=by
 obtain ⟨hq,hp,hn⟩:=AMy hi hm;have hTok:=Jf (Ik (ω:=ω) hS);have hcl:=hc.len;refine ATu ?_;unfold sh6;refine AV (fun bs=>?_);refine call (XY hG hS hGI (fun I1 hI1=>?_));refine rdB hcl ?_;have hG1:=Ext.trans hGI hI1;refine call (Ru hG hS hG1 hq (AMN hn) hp (hc.mono hI1) hn (fun I2 hI2=>?_));have hI12:=Ext.trans hI1 hI2;simp only [Bool.not_true,SSd,Nat.reduceAdd];refine AB (fun h=>?_) (fun h=>?_)
 ·have h:(JV s).2≠0:=by simpa using h
  unfold ADd;rw [ADS h];have e:Ap .eql (.string ⟨([]:Bs).toArray⟩) (.string (ByteArray.mk #[]))=some (.bool true):=by
   rw [show (ByteArray.mk #[])=⟨([]:Bs).toArray⟩ from rfl,sEq];rfl
  simp only [e,SSd,Nat.reduceAdd];exact Gh.to L (Gh.done (hk I2 hI12))
 have h:(JV s).2=0:=by simpa using h
 obtain ⟨e1,e2⟩:=AKr h;rw [e1];refine call (LQ hTok MR (BM true s) (Ext.trans hGI hI12) (fun I3 a k hI3 hw=>?_));rw [e2] at hw ⊢;simp only [List.length_cons,List.length_nil,Nat.zero_add,show ok0.code=0 from rfl,show ((ok0.at':Int))=0 from rfl,SSd,Nat.reduceAdd];have hI13:=Ext.trans hI12 hI3;refine AV (fun bf=>?_);refine stB rfl rfl (AO rfl) ?_;refine rdB hcl ?_;refine Dz (R:=TStmtV) [s] [c] rfl rfl rfl (by simp [hcl]) (by simpa using hc.mono hI13) (fun hI h=>h.mono hI) (fun I4 a4 hI4 hw4=>Gh.done ?_);have hgd:∀x∈[s],GdS ((BM true s).length+1) x∧cS x≤1000000000:=by
  intro x hx;rw [List.mem_singleton.1 hx];have h1:s∈(readA (BM true s)).1:=ACH s (by rw [e2];exact List.mem_cons_self ..);exact ⟨SE _ s h1,hq.cnt⟩
 refine call (ABx (l:=[s]) (N:=(BM true s).length+1) (by omega) (by simp) hgd (RL.mono (I:=I3) (fun _ _ h=>h.mono hI4) hw hI4 (fun _ h=>nomatch h)) (RL.mono (fun _ _ h=>h) hw4 (Ext.refl _) (fun _ h=>nomatch h)) ?_);try simp only [SSd,Nat.reduceAdd]
 refine rdb ?_;simp only [show ((0:Int)==0)=true from rfl,SSd,Nat.reduceAdd];exact Gh.to L (Gh.done (hk I4 (Ext.trans hI13 hI4)))
end
open Go.ChangeShapes
section
variable {H:Type}{enc:TypeId×Value→H}
theorem handed_cond_and {a:Assume}{C:Checked}{os:Os}{f:FuncId}{fn:Func}{s:OpenSpec}{k:(H:Type)→List (DataW H)→Bool}(hk:s.cond=some k){F:Stop.Interp}{conds:List PathCond}{apart fresh handsOn again:Bool}{X:World→Array Value→Prop}
  (hX:∀(w w':World) (args:Array Value),w.heap=w'.heap→X w args→X w' args)
  (own:ownKnob C.prog.godebug=none) (started:os.Started) (noInit:C.prog.inits.idxOf? f=none) (hfn:C.prog.funcs[f]? =some fn)
  (witness:∃(w:World) (tape:Tape) (i:Input),w.os=os∧(w.forCall tape i).Shaped C.prog∧i.vars=[]∧Input.okWide C.prog (w.forCall tape i) .any w.heap.size f i∧
   ((s.pre enc C.prog fn conds apart (w.forCall tape i).memory i.args∧X (w.forCall tape i).memory i.args)∧sizedMet enc C.prog fn s apart (w.forCall tape i).memory i.args)∧a.holds C.prog (lone (Frame.enter C.prog f i.args .normal) [] (w.forCall tape i)))
  (contract:∀(W:World) (base:Nat) (args:Array Value) (ds gs:List (DataW H)) (before:List MemPlace),
   (∀(j:Nat) t v,fn.params[j]? =some t→args[j]? =some v→Value.okWide C.prog W .any base t v)→
   DataW.Whole enc C.prog fn.params.toList s.vars apart W args.toList ds gs before→
   conds.all (PathCond.test C.prog ⟨fn.params.toList,ds,s.bare.plain.varTypes C.prog,gs⟩)=true→k H (ds++gs)=true→X W args→
   a.holds C.prog (lone (Frame.enter C.prog f args .normal) [] W)→
   Calls C.prog f args W fun e W'=>∃v,e= .returned v∧(s.at F).post enc C.prog fn apart fresh handsOn again W args v W'):
  ReturnsInHanded a C os f .any (fun w args=>(s.pre enc C.prog fn conds apart w args∧X w args)∧sizedMet enc C.prog fn s apart w args) ((s.at F).post enc C.prog fn apart fresh handsOn again):=by
 refine returnsInHanded_of_calls own started noInit witness ?_;intro w tape i _ _ _ hok hpre hholds;obtain ⟨_,_,_,fn',hfn',_,_,_,_,hval⟩:=hok;have e:fn'=fn:=Option.some.inj (hfn'.symm.trans hfn);subst e;obtain ⟨ds,gs,before,hw,hc,hkk⟩:=(OpenSpec.pre_some hk conds apart _ _).1 hpre.1.1;have hw':=DataW.Whole.of_heap (w':=w.forCall tape i) (by rfl) hw;refine (contract (w.forCall tape i) w.heap.size i.args ds gs before hval hw' hc hkk (hX _ _ _ (by rfl) hpre.1.2) hholds).mono fun e W' ⟨v,he,hp⟩=>?_;subst he;exact ChangeSpec.post_blind hp
theorem cond_witness {C:Checked}{os:Os}{f:FuncId}{fn:Func}{s:OpenSpec}{k:(H:Type)→List (DataW H)→Bool}(hk:s.cond=some k){conds:List PathCond}{apart:Bool}{X:World→Array Value→Prop}(modest:Bool)(w0:World)(args:Array Value)(fuel:Nat)(hos:w0.os=os)
  (hsh:(w0.forCall (fun _ _=>0) ⟨#[],args,[]⟩).Shaped C.prog)
  (hok:Input.okWideB C.prog (w0.forCall (fun _ _=>0) ⟨#[],args,[]⟩) f ⟨#[],args,[]⟩=true)
  {x:List (DataW H)×List (DataW H)×List MemPlace} (hx:DataW.whole enc C.prog (w0.forCall (fun _ _=>0) ⟨#[],args,[]⟩).memory fn.params.toList s.vars apart args.toList fuel=some x)
  (hconds:conds.all (PathCond.test C.prog ⟨fn.params.toList,x.1,s.bare.plain.varTypes C.prog,x.2.1⟩)=true) (hkk:k H (x.1++x.2.1)=true)
  (hsz:s.bare.sizedB enc C.prog fn apart (w0.forCall (fun _ _=>0) ⟨#[],args,[]⟩).memory args fuel=true)
  (hX:X (w0.forCall (fun _ _=>0) ⟨#[],args,[]⟩).memory args):
  ∃(w:World) (tape:Tape) (i:Input),w.os=os∧(w.forCall tape i).Shaped C.prog∧i.vars=[]∧Input.okWide C.prog (w.forCall tape i) .any w.heap.size f i∧
   ((s.pre enc C.prog fn conds apart (w.forCall tape i).memory i.args∧X (w.forCall tape i).memory i.args)∧sizedMet enc C.prog fn s apart (w.forCall tape i).memory i.args)∧({modest:=modest}:Assume).holds C.prog (lone (Frame.enter C.prog f i.args .normal) [] (w.forCall tape i)):=
 ⟨w0,fun _ _=>0,⟨#[],args,[]⟩,hos,hsh,(Input.okWide_of_okWideB (base:=0) hok).1,(Input.okWide_of_okWideB hok).2,
  ⟨⟨(OpenSpec.pre_some hk conds apart _ _).2 ⟨x.1,x.2.1,x.2.2,DataW.Whole_of_whole hx,hconds,hkk⟩,hX⟩,sizedMet_of_sizedB hsz⟩,by
  simp only [Assume.holds];exact ⟨by simp,by simp,fun _=>Modest.zero,by simp,by simp⟩⟩
end
theorem small_one {H:Type}{d:DataW H}{ds:List (DataW H)}(h:Rows.uptoSmall H ds=true)(hd:d∈ds):Rows.uptoBulk d≤1048576:=by
 unfold Rows.uptoSmall at h;have h:=of_decide_eq_true h;obtain ⟨i,hi⟩:=List.getElem?_of_mem hd;have:=RH hi;omega
theorem ADB {H:Type}{enc:TypeId×Value→H}{W:World}{base:Nat}{v:Value}{d:DataW H}(o:Value.okWide Tryz.prog W .any base 48 v)(t:Td enc Tryz.prog W 48 v.cells.toList d)(hb:Rows.uptoBulk d≤1048576):∃s c,v= .agg c.toArray∧TStmtV (Cf W) s c∧QX s∧GM s≤1048576:=by
 simp only [Value.okWide,Tryz.underlying48] at o;obtain ⟨cs,rfl,_⟩:=o;obtain ⟨s,⟨h1,h2⟩,h3⟩:=AKS t;exact ⟨s,cs.toList,by simp,h1,h2,by omega⟩
theorem back_walk {H:Type}{enc:TypeId×Value→H}{W:World}{base:Nat}{v0:Value}{d0:DataW H}(hL:laidMetH Tryz.prog Rows.sqlparseBackUptoRow.laid W)(o0:Value.okWide Tryz.prog W .any base 48 v0)(t0:Td enc Tryz.prog W 48 v0.cells.toList d0)(b0:Rows.uptoBulk d0≤1048576)(ω:Om):
  CT ω 6 #[v0] (fun v I' _=>v= .bool true∧Ext (Cf W) I') (Cf W) []:=by
 obtain ⟨s,c,rfl,h1,h2,h3⟩:=ADB o0 t0 b0;exact AKN (Vq hL) (XW hL) (Ext.refl _) h2 h3 h1 (fun I' hI=>⟨rfl,hI⟩)
end Go.Proofs.YtkifgfanjcfedaaGreatDoor
