/-
  Lemmas, part 7: laid together by a program.
-/
import Derived.Test.YtkifgfanjcfedaaGreatDoorP6
import Derived.Test.YtkifgfanjcfedaaGreatDoorP5
import Derived.Test.YtkifgfanjcfedaaGreatDoorProg
import Derived.Shelf.Strconv.Itoa4
import Derived.Shelf.Lays
import Derived.Ground.NamesProg
set_option maxRecDepth 100000
set_option linter.unusedVariables false
set_option linter.unusedSimpArgs false
set_option linter.unusedSectionVars false
namespace Go.Proofs.YtkifgfanjcfedaaGreatDoor
open Go.SL
abbrev LOk {α:Type}(R:Imm→α→List Value→Prop)(m:Nat)(g:Res (List α))(n:Nat)(K:Value→M)(C:Obj→LH)(I:Imm):Prop:=
 ∀x r,g= .ok x r→Toks r→r.length≤n→∀I' v' a k,Ext I I'→TL I' v' r→RL R m I' [] (.slice a x.length k) x→x.length≤n+1→K (.slice a x.length k) I' (C (PBo v'))
def FnL {α:Type}(ω:Om)(n b f:Nat)(g:Pr (List α))(R:Imm→α→List Value→Prop)(m:Nat):Prop:=
 ∀(K Pn:Value→M) (I:Imm) (L:LH) (C:Obj→LH) (v:Value) (l:List Tok),Foc b L (PBo v) C→TL I v l→Toks l→l.length≤n→LOk R m (g l) l.length K C I→PEr (g l) Pn C I→CalP Tryz.prog ω f #[AX b] K Pn I L
theorem FnL.go {α:Type}{ω:Om}{n b f m:Nat}{g:Pr (List α)}{R:Imm→α→List Value→Prop}(h:FnL ω n b f g R m){I:Imm}{L:LH}{K Pn:Value→M}{C:Obj→LH}{v:Value}{l:List Tok}[hF:Foc b L (PBo v) C](hv:TL I v l)(hT:Toks l)(hl:l.length≤n)(hok:LOk R m (g l) l.length K C I)(herr:PEr (g l) Pn C I):
  CalP Tryz.prog ω f #[AX b] K Pn I L:=h K Pn I L C v l hF hv hT hl hok herr
section
variable {ω:Om}{b:Nat}
theorem ALp {I:Imm}{L:LH}{K:Value→M}{w:Value}{xs:List TSource}(hw:RL TSourceV 14 I [] w xs)(hk:∀a k,RL TSourceV 14 I [] (.slice a xs.length k) xs→K (.slice a xs.length k) I L):CT ω 199 #[w] K I L:=by
 refine AMa ?_;unfold ACM;obtain ⟨w',h1,h2⟩:=FD hw;simp only [RL.len hw,h1,SSd,Nat.reduceAdd];obtain ⟨a,k,rfl⟩:=RL.form h2;exact Gh.done (hk a k h2)
def Ik (n:Nat)(l:List Tok):Option (Res TSource):=
 if isT l [44] then some (Ci l.tail) else
 if isT l [99,114,111,115,115] then some ((AY [106,111,105,110] l.tail).bind fun _ r=>Ci r) else
 if isT l [108,101,102,116] then some (Gz n true l.tail) else
 if isT l [105,110,110,101,114] then some (Gz n false l.tail) else
 if isT l [106,111,105,110] then some (Gz n false l) else none
theorem Es {α β γ:Type}(x:Res α)(f:α→Pr β)(g:β→Pr γ):(x.bind f).bind g=x.bind fun a r=>(f a r).bind g:=by cases x <;> rfl
theorem UF (n f:Nat)(acc:List TSource)(l:List Tok):DN n (f+1) acc l=match Ik n l with
  |some g=>g.bind fun s r=>DN n f (acc++[s]) r
  |none=>.ok acc l:=by
 simp only [DN,Ik];split
 ·rfl
 split
 ·simp only [Es]
 split
 ·rfl
 split
 ·rfl
 split
 ·rfl
 ·rfl
theorem Px (n:Nat){I:Imm}{L:LH}{K Pn:Value→M}{C:Obj→LH}{v:Value}{l:List Tok}[hF:Foc b L (PBo v) C](h:TL I v l)(hT:Toks l)(hl:l.length≤n)
  (hok:∀x r,Ci l= .ok x r→Toks r→r.length≤l.length→∀I' v' a k,Ext I I'→TL I' v' r→ExL I' (.slice a x.fOn.args.length k) x.fOn.args→K (.agg #[.string ⟨x.fTable.toArray⟩,.string ⟨x.fAs.toArray⟩,.bool x.fLeft,.int .i64 x.fOn.kind,.int .i64 x.fOn.value.fType,.bool x.fOn.value.fNull,.int .i64 x.fOn.value.fInt,.string ⟨x.fOn.value.fText.toArray⟩,.string ⟨x.fOn.table.toArray⟩,.string ⟨x.fOn.name.toArray⟩,.int .i64 x.fOn.slot,.int .i64 x.fOn.type,.bool x.fOn.distinct,.slice a x.fOn.args.length k]) I' (C (PBo v')))
  (herr:PEr (Ci l) Pn C I):CalP Tryz.prog ω 198 #[AX b] K Pn I L:=by
 refine (Py n).go h hT hl (fun x r hg hT' hr I' v' c hI' hv' hc=>?_) herr;obtain ⟨v0,rfl,h0⟩:=hc;obtain ⟨a,k,rfl⟩:=RL.form h0;exact hok x r hg hT' hr I' v' a k hI' hv' h0
theorem ZQ (n : Nat) (hE : FnE ω n b 148 (eP n)) (bb : Bool) {I : Imm} {L1 L2 X : LH} {Kn1 : (Value × Value × Unit) → M} {K Pn : Value → M} {v w : Value} {l : List Tok} {cells : List Value} {xs : List TSource} (h : TL I v l) (hT : Toks l) (hl : l.length ≤ n)
    (hX : SlO 123 14 X w cells xs.length) (hR : Recs (TSourceV I) 14 xs cells) (hxs : xs.length ≤ 1000000001)
    (hnext : ∀ x r, Gz n bb l = .ok x r → Toks r → r.length + 1 ≤ l.length → ∀ I' v' X' w' cells', Ext I I' → TL I' v' r → SlO 123 14 X' w' cells' (xs ++ [x]).length → Recs (TSourceV I') 14 (xs ++ [x]) cells' → Gh (Kn1 (.slice none 0 0, w', ())) I' (X' ++ (L1 ++ (b, PBo v') :: L2)))
    (herr : PEr (Gz n bb l) Pn (fun o => L1 ++ (b, o) :: L2) I) :
    KA ω (AX b) (.slice none 0 0) w (.bool bb) (fun s => Gh (Kn1 s)) (fun v => Gh (K v)) (fun v => Gh (Pn v)) I (X ++ (L1 ++ (b, PBo v) :: L2)) := by
  unfold KA
  repeat' (first | (with_reducible first | refine Bl (b := b) ?_ | refine keepA ?_ | refine AV (fun _ => ?_)) | ((with_reducible refine Ac ?_); with_reducible refine Px n (by first | assumption | exact TL.mono (by assumption) (by repeat (first | exact Ext.refl _ | assumption | refine Ext.trans ?_ (by assumption)))) (by assumption) (by omega) (fun x r hg hT2 hr2 I' v' a' k' hI' hv' hw' => ?_) (fun e hg I' v' hI' => ?_)) | ((with_reducible refine Ac ?_); with_reducible refine hE.go (by first | assumption | exact TL.mono (by assumption) (by repeat (first | exact Ext.refl _ | assumption | refine Ext.trans ?_ (by assumption)))) (by assumption) (by omega) (fun y r' hg' hT2 hr3 I' v' a' k' hI' hv' hw' => ?_) (fun e hg' I' v' hI' => ?_)) | ((with_reducible refine Ar ?_); with_reducible refine Bo _ (by first | assumption | exact TL.mono (by assumption) (by repeat (first | exact Ext.refl _ | assumption | refine Ext.trans ?_ (by assumption)))) (by assumption) (fun hb hT' hl' v' hv' => ?_) (fun hb => ?_)) | (with_reducible refine Be _ (by first | assumption | exact TL.mono (by assumption) (by repeat (first | exact Ext.refl _ | assumption | refine Ext.trans ?_ (by assumption)))) (by assumption) (fun hb hT' hl' I' v' hI' hv' => ?_) (fun hb I' v' hI' => ?_)) | ((with_reducible refine Ac ?_); with_reducible refine CG (by first | assumption | exact TL.mono (by assumption) (by repeat (first | exact Ext.refl _ | assumption | refine Ext.trans ?_ (by assumption)))) (by assumption) (fun hb hT' hl' v' hv' => ?_) (fun hb => ?_)) | ((with_reducible refine Ac ?_); with_reducible refine Aj (by first | assumption | exact TL.mono (by assumption) (by repeat (first | exact Ext.refl _ | assumption | refine Ext.trans ?_ (by assumption)))) (by assumption) ?_) | (with_reducible first | refine CP (by first | assumption | exact RL.nil none 0 | exact ExL.k (by assumption) | exact ExL.mono (by assumption) (by repeat (first | exact Ext.refl _ | assumption | refine Ext.trans ?_ (by assumption))) | exact ExL.k (ExL.mono (by assumption) (by repeat (first | exact Ext.refl _ | assumption | refine Ext.trans ?_ (by assumption))))) (fun I' a hI' hw' => Gh.done ?_) | refine Bz (by first | assumption | exact RL.nil none 0 | exact ExL.k (by assumption) | exact ExL.mono (by assumption) (by repeat (first | exact Ext.refl _ | assumption | refine Ext.trans ?_ (by assumption))) | exact ExL.k (ExL.mono (by assumption) (by repeat (first | exact Ext.refl _ | assumption | refine Ext.trans ?_ (by assumption))))) (by first | assumption | exact RL.nil none 0 | exact ExL.k (by assumption) | exact ExL.mono (by assumption) (by repeat (first | exact Ext.refl _ | assumption | refine Ext.trans ?_ (by assumption))) | exact ExL.k (ExL.mono (by assumption) (by repeat (first | exact Ext.refl _ | assumption | refine Ext.trans ?_ (by assumption))))) (fun I' a hI' hw' => Gh.done ?_) | refine CS (by first | assumption | exact RL.nil none 0 | exact ExL.k (by assumption) | exact ExL.mono (by assumption) (by repeat (first | exact Ext.refl _ | assumption | refine Ext.trans ?_ (by assumption))) | exact ExL.k (ExL.mono (by assumption) (by repeat (first | exact Ext.refl _ | assumption | refine Ext.trans ?_ (by assumption))))) (by first | assumption | exact RL.nil none 0 | exact ExL.k (by assumption) | exact ExL.mono (by assumption) (by repeat (first | exact Ext.refl _ | assumption | refine Ext.trans ?_ (by assumption))) | exact ExL.k (ExL.mono (by assumption) (by repeat (first | exact Ext.refl _ | assumption | refine Ext.trans ?_ (by assumption))))) (by first | assumption | exact RL.nil none 0 | exact ExL.k (by assumption) | exact ExL.mono (by assumption) (by repeat (first | exact Ext.refl _ | assumption | refine Ext.trans ?_ (by assumption))) | exact ExL.k (ExL.mono (by assumption) (by repeat (first | exact Ext.refl _ | assumption | refine Ext.trans ?_ (by assumption))))) (fun I' a hI' hw' => Gh.done ?_)) | ((with_reducible refine Ar ?_); with_reducible refine BK (by first | assumption | exact RL.nil none 0 | exact ExL.k (by assumption) | exact ExL.mono (by assumption) (by repeat (first | exact Ext.refl _ | assumption | refine Ext.trans ?_ (by assumption))) | exact ExL.k (ExL.mono (by assumption) (by repeat (first | exact Ext.refl _ | assumption | refine Ext.trans ?_ (by assumption))))) ?_) | (with_reducible refine rdb ?_) | ((with_reducible first | refine st1 ?_ ?_ | refine rdB ?_ ?_); rfl) | (with_reducible refine Ai ?_) | ((with_reducible refine Az ?_ ?_); rfl) | ((with_reducible refine stB ?_ ?_ ?_ ?_); rfl; rfl; exact AO rfl) | ((with_reducible first | refine rdP _ rfl ?_ ?_ | refine BB _ rfl ?_ ?_); rfl) | ((with_reducible refine stP _ rfl ?_ ?_ ?_ ?_); rfl; rfl; rfl) | (with_reducible refine And.intro ?_ ?_) | (simp only [SSg, Int.reduceBEq, Int.reduceBNe, Int.reduceLT, Int.reduceLE, beq_self_eq_true, bne_self_eq_false]) | (with_reducible first | refine AP (fun hb => ?_) (fun hb => ?_) | refine AA (fun hb => ?_) (fun hb => ?_)) | (simp only [SSd, Nat.reduceAdd]))
  all_goals first
    | exact Gh.to (L1 ++ (b, PBo v') :: L2) (Gh.done (herr _ (by simp [Gz, Res.bind, bad, AY, *] <;> rfl) _ _ (by repeat (first | exact Ext.refl _ | assumption | refine Ext.trans ?_ (by assumption)))))
    | (refine JH (X6 := X) (R := TSourceV) (x := ⟨x.fTable, x.fAs, bb, y⟩) rfl (by omega) hX (Recs.imp (fun _ _ h => TSourceV.mono h (by repeat (first | exact Ext.refl _ | assumption | refine Ext.trans ?_ (by assumption)))) hR) ⟨_, rfl, (by first | assumption | exact RL.nil none 0 | exact ExL.k (by assumption) | exact ExL.mono (by assumption) (by repeat (first | exact Ext.refl _ | assumption | refine Ext.trans ?_ (by assumption))) | exact ExL.k (ExL.mono (by assumption) (by repeat (first | exact Ext.refl _ | assumption | refine Ext.trans ?_ (by assumption)))))⟩ rfl (AO rfl) (by omega) (by omega) (fun X1 X6 w6 cells6 hX6 hR6 => Gh.to (X6 ++ (L1 ++ (b, PBo v') :: L2)) ?_)
       exact hnext ⟨x.fTable, x.fAs, bb, y⟩ _ (by simp [Gz, Res.bind, AY, *] <;> rfl) (by assumption) (by omega) _ _ _ _ _ (by repeat (first | exact Ext.refl _ | assumption | refine Ext.trans ?_ (by assumption))) (by first | assumption | exact TL.mono (by assumption) (by repeat (first | exact Ext.refl _ | assumption | refine Ext.trans ?_ (by assumption)))) hX6 hR6)
theorem ZR (n : Nat) (hE : FnE ω n b 148 (eP n)) {I : Imm} {L1 L2 X : LH} {Kn1 : (Value × Value × Unit) → M} {K Pn : Value → M} {v w : Value} {l : List Tok} {cells : List Value} {xs : List TSource} (h : TL I v l) (hT : Toks l) (hl : l.length ≤ n)
    (hX : SlO 123 14 X w cells xs.length) (hR : Recs (TSourceV I) 14 xs cells) (hxs : xs.length ≤ 1000000001)
    (hnext : ∀ g x r, Ik n l = some g → g = .ok x r → Toks r → r.length + 1 ≤ l.length → ∀ I' v' X' w' cells', Ext I I' → TL I' v' r → SlO 123 14 X' w' cells' (xs ++ [x]).length → Recs (TSourceV I') 14 (xs ++ [x]) cells' → Gh (Kn1 (.slice none 0 0, w', ())) I' (X' ++ (L1 ++ (b, PBo v') :: L2)))
    (herr : ∀ g, Ik n l = some g → PEr g Pn (fun o => L1 ++ (b, o) :: L2) I)
    (hend : Ik n l = none → ∀ I' a k, Ext I I' → RL TSourceV 14 I' [] (.slice a xs.length k) xs → TL I' v l → Gh (K (.slice a xs.length k)) I' (L1 ++ (b, PBo v) :: L2)) :
    RF ω (AX b) (.slice none 0 0) w (fun s => Gh (Kn1 s)) (fun v => Gh (K v)) (fun v => Gh (Pn v)) I (X ++ (L1 ++ (b, PBo v) :: L2)) := by
  unfold RF
  have hl1 := hT.len
  have J : ∀ (bb : Bool) {l1 : List Tok} {v1 : Value}, TL I v1 l1 → Toks l1 → l1.length ≤ l.length → Ik n l = some (Gz n bb l1) → KA ω (AX b) (.slice none 0 0) w (.bool bb) (fun s => Gh (Kn1 s)) (fun v => Gh (K v)) (fun v => Gh (Pn v)) I (X ++ (L1 ++ (b, PBo v1) :: L2)) := by
    intro bb l1 v1 h1 hT1 hl1 hn
    exact ZQ n hE bb h1 hT1 (by omega) hX hR hxs (fun x r hg hT hr => hnext _ x r hn hg hT (by omega)) (herr _ hn)
  repeat' (first | (with_reducible first | refine Bl (b := b) ?_ | refine keepA ?_ | refine AV (fun _ => ?_)) | ((with_reducible refine Ac ?_); with_reducible refine Px n (by first | assumption | exact TL.mono (by assumption) (by repeat (first | exact Ext.refl _ | assumption | refine Ext.trans ?_ (by assumption)))) (by assumption) (by omega) (fun x r hg hT2 hr2 I' v' a' k' hI' hv' hw' => ?_) (fun e hg I' v' hI' => ?_)) | ((with_reducible refine Ar ?_); with_reducible refine Hw _ (by first | assumption | exact TL.mono (by assumption) (by repeat (first | exact Ext.refl _ | assumption | refine Ext.trans ?_ (by assumption)))) (by assumption) (fun hb => ?_) (fun hb => ?_)) | ((with_reducible refine Ar ?_); with_reducible refine Bo _ (by first | assumption | exact TL.mono (by assumption) (by repeat (first | exact Ext.refl _ | assumption | refine Ext.trans ?_ (by assumption)))) (by assumption) (fun hb hT' hl' v' hv' => ?_) (fun hb => ?_)) | (with_reducible refine Be _ (by first | assumption | exact TL.mono (by assumption) (by repeat (first | exact Ext.refl _ | assumption | refine Ext.trans ?_ (by assumption)))) (by assumption) (fun hb hT' hl' I' v' hI' hv' => ?_) (fun hb I' v' hI' => ?_)) | ((with_reducible refine Ac ?_); with_reducible refine CG (by first | assumption | exact TL.mono (by assumption) (by repeat (first | exact Ext.refl _ | assumption | refine Ext.trans ?_ (by assumption)))) (by assumption) (fun hb hT' hl' v' hv' => ?_) (fun hb => ?_)) | ((with_reducible refine Ac ?_); with_reducible refine Aj (by first | assumption | exact TL.mono (by assumption) (by repeat (first | exact Ext.refl _ | assumption | refine Ext.trans ?_ (by assumption)))) (by assumption) ?_) | (with_reducible first | refine CP (by first | assumption | exact RL.nil none 0 | exact ExL.k (by assumption) | exact ExL.mono (by assumption) (by repeat (first | exact Ext.refl _ | assumption | refine Ext.trans ?_ (by assumption))) | exact ExL.k (ExL.mono (by assumption) (by repeat (first | exact Ext.refl _ | assumption | refine Ext.trans ?_ (by assumption))))) (fun I' a hI' hw' => Gh.done ?_) | refine Bz (by first | assumption | exact RL.nil none 0 | exact ExL.k (by assumption) | exact ExL.mono (by assumption) (by repeat (first | exact Ext.refl _ | assumption | refine Ext.trans ?_ (by assumption))) | exact ExL.k (ExL.mono (by assumption) (by repeat (first | exact Ext.refl _ | assumption | refine Ext.trans ?_ (by assumption))))) (by first | assumption | exact RL.nil none 0 | exact ExL.k (by assumption) | exact ExL.mono (by assumption) (by repeat (first | exact Ext.refl _ | assumption | refine Ext.trans ?_ (by assumption))) | exact ExL.k (ExL.mono (by assumption) (by repeat (first | exact Ext.refl _ | assumption | refine Ext.trans ?_ (by assumption))))) (fun I' a hI' hw' => Gh.done ?_) | refine CS (by first | assumption | exact RL.nil none 0 | exact ExL.k (by assumption) | exact ExL.mono (by assumption) (by repeat (first | exact Ext.refl _ | assumption | refine Ext.trans ?_ (by assumption))) | exact ExL.k (ExL.mono (by assumption) (by repeat (first | exact Ext.refl _ | assumption | refine Ext.trans ?_ (by assumption))))) (by first | assumption | exact RL.nil none 0 | exact ExL.k (by assumption) | exact ExL.mono (by assumption) (by repeat (first | exact Ext.refl _ | assumption | refine Ext.trans ?_ (by assumption))) | exact ExL.k (ExL.mono (by assumption) (by repeat (first | exact Ext.refl _ | assumption | refine Ext.trans ?_ (by assumption))))) (by first | assumption | exact RL.nil none 0 | exact ExL.k (by assumption) | exact ExL.mono (by assumption) (by repeat (first | exact Ext.refl _ | assumption | refine Ext.trans ?_ (by assumption))) | exact ExL.k (ExL.mono (by assumption) (by repeat (first | exact Ext.refl _ | assumption | refine Ext.trans ?_ (by assumption))))) (fun I' a hI' hw' => Gh.done ?_)) | ((with_reducible refine Ar ?_); with_reducible refine BK (by first | assumption | exact RL.nil none 0 | exact ExL.k (by assumption) | exact ExL.mono (by assumption) (by repeat (first | exact Ext.refl _ | assumption | refine Ext.trans ?_ (by assumption))) | exact ExL.k (ExL.mono (by assumption) (by repeat (first | exact Ext.refl _ | assumption | refine Ext.trans ?_ (by assumption))))) ?_) | (with_reducible refine rdb ?_) | ((with_reducible first | refine st1 ?_ ?_ | refine rdB ?_ ?_); rfl) | (with_reducible refine Ai ?_) | ((with_reducible refine Az ?_ ?_); rfl) | ((with_reducible refine stB ?_ ?_ ?_ ?_); rfl; rfl; exact AO rfl) | ((with_reducible first | refine rdP _ rfl ?_ ?_ | refine BB _ rfl ?_ ?_); rfl) | ((with_reducible refine stP _ rfl ?_ ?_ ?_ ?_); rfl; rfl; rfl) | (with_reducible first | refine BZ (sh146_4.eq_1 ..) ?_ | refine And.intro ?_ ?_) | (simp only [SSg, Int.reduceBEq, Int.reduceBNe, Int.reduceLT, Int.reduceLE, beq_self_eq_true, bne_self_eq_false]) | (with_reducible first | refine AP (fun hb => ?_) (fun hb => ?_) | refine AA (fun hb => ?_) (fun hb => ?_)) | (simp only [SSd, Nat.reduceAdd]))
  all_goals (try (exfalso; simp_all; done))
  all_goals first
    | exact J true (by assumption) (by assumption) (by omega) (by simp [Ik, *])
    | exact J false (by assumption) (by assumption) (by omega) (by simp [Ik, *])
    | exact Gh.to (L1 ++ (b, PBo v') :: L2) (Gh.done (herr _ (by simp [Ik, *] <;> rfl) _ (by simp [Res.bind, bad, AY, *] <;> rfl) _ _ (by repeat (first | exact Ext.refl _ | assumption | refine Ext.trans ?_ (by assumption)))))
    | (refine JH (X6 := X) (R := TSourceV) (x := x) rfl (by omega) hX (Recs.imp (fun _ _ h => TSourceV.mono h (by repeat (first | exact Ext.refl _ | assumption | refine Ext.trans ?_ (by assumption)))) hR) ⟨_, rfl, (by first | assumption | exact RL.nil none 0 | exact ExL.k (by assumption) | exact ExL.mono (by assumption) (by repeat (first | exact Ext.refl _ | assumption | refine Ext.trans ?_ (by assumption))) | exact ExL.k (ExL.mono (by assumption) (by repeat (first | exact Ext.refl _ | assumption | refine Ext.trans ?_ (by assumption)))))⟩ rfl (AO rfl) (by omega) (by omega) (fun X1 X6 w6 cells6 hX6 hR6 => Gh.to (X6 ++ (L1 ++ (b, PBo v') :: L2)) ?_)
       exact hnext _ x _ (by simp [Ik, *] <;> rfl) (by simp [Res.bind, AY, *] <;> rfl) (by assumption) (by omega) _ _ _ _ _ (by repeat (first | exact Ext.refl _ | assumption | refine Ext.trans ?_ (by assumption))) (by first | assumption | exact TL.mono (by assumption) (by repeat (first | exact Ext.refl _ | assumption | refine Ext.trans ?_ (by assumption)))) hX6 hR6)
    | (refine CalP.pre (RL.ofO (R := TSourceV) (fun {I I' x c} h hI => TSourceV.mono h hI) hX hR (fun I3 hI3 hw => Gh.done ?_))
       refine Ar (ALp hw (fun a k hw' => hend (by simp [Ik, *]) I3 a k hI3 hw' (h.mono hI3))))
set_option maxHeartbeats 4000000 in
theorem AJF (n:Nat)(hn0:n≤1000000000)(hE:FnE ω n b 148 (eP n)):FnL ω n b 146 (Lh n) TSourceV 14:=by
 intro K Pn I L C v l hF h hT hl hok herr;obtain ⟨L1,L2,rfl,rfl⟩:=hF.foc;refine ANN ?_;unfold ADg;refine Ac ((Py n).go h hT hl ?_ ?_);rotate_left
 ·rintro e hg I1 v1 hI1;exact Gh.to (L1++(b,PBo v1)::L2) (Gh.done (herr e (by simp only [Lh,hg,Res.bind]) I1 v1 hI1))
 rintro x r hg hT1 hr I1 v1 c hI1 hTL1 hx;refine EY rfl (by omega) (by simpa [Value.cells] using hx.len) (fun X u hX=>?_);refine loop (fun m s I2 Lx=>∃X v2 l2 w cells xs f,l2.length=m∧s=(.slice none 0 0,w,())∧Ext I I2∧Lx=X++(L1++(b,PBo v2)::L2)∧TL I2 v2 l2∧Toks l2∧SlO 123 14 X w cells xs.length∧Recs (TSourceV I2) 14 xs cells∧l2.length≤f∧0 < xs.length∧xs.length+l2.length≤l.length+1∧Lh n l=DN n f xs l2) r.length
   ⟨X,v1,r,u,_,[x],n,rfl,rfl,hI1,rfl,hTL1,hT1,hX,(by simpa [Value.cells] using Recs.one hx.len hx),by omega,by simp,by simp;omega,by simp only [Lh,hg,Res.bind]⟩ ?_
 clear hX hTL1 hT1 hx hg hr;rintro m s I2 Lx ⟨X,v2,l2,w,cells,xs,f,rfl,rfl,hI2,rfl,hTL2,hT2,hX,hR,hf,hpos,hlen,hm⟩;have hl2:=hT2.len;obtain ⟨f,rfl⟩:∃k,f=k+1:=⟨f - 1,by omega⟩;rw [UF] at hm;refine ZR n hE hTL2 hT2 (by omega) hX hR (by omega) (fun g x r hn hg hT3 hr3 I3 v3 X3 w3 cells3 hI3 hTL3 hX3 hR3=>?_) (fun g hn e hg I3 v3 hI3=>?_) (fun hn I3 a k hI3 hw hTL3=>?_)
 ·exact Gh.done ⟨r.length,by omega,X3,v3,r,w3,cells3,xs++[x],f,rfl,rfl,Ext.trans hI2 hI3,rfl,hTL3,hT3,hX3,hR3,by omega,by simp,by simp;omega,by rw [hm,hn];simp only [hg,Res.bind]⟩
 ·exact herr e (by rw [hm,hn];simp only [hg,Res.bind]) I3 v3 (Ext.trans hI2 hI3)
 ·exact Gh.done (hok xs l2 (by rw [hm,hn]) hT2 (by omega) I3 v2 a k (Ext.trans hI2 hI3) hTL3 hw (by omega))
end
theorem KN {α:Type}{R:Imm→α→List Value→Prop}{m n:Nat}{g:Res (List α)}{K:Value→M}{C:Obj→LH}{I:Imm}(h:LOk R m g n K C I):POk g (fun I x v=>RL R m I [] v x∧x.length≤n) n K C I:=by
 rintro x r hg hT hr I' v' w hI' hv' ⟨hw,hx⟩;obtain ⟨a,k,rfl⟩:=RL.form hw;exact h x r hg hT hr I' v' a k hI' hv' hw (by omega)
theorem ItL.mono {I I':Imm}{v:Value}{l:List TItem}(h:RL TItemV 14 I [] v l)(hI:Ext I I'):RL TItemV 14 I' [] v l:=RL.mono (fun _ _ h=>TItemV.mono h hI) h hI (fun _ h=>h)
theorem SoL.mono {I I':Imm}{v:Value}{l:List TSource}(h:RL TSourceV 14 I [] v l)(hI:Ext I I'):RL TSourceV 14 I' [] v l:=RL.mono (fun _ _ h=>TSourceV.mono h hI) h hI (fun _ h=>h)
theorem OrL.mono {I I':Imm}{v:Value}{l:List TOrder}(h:RL TOrderV 12 I [] v l)(hI:Ext I I'):RL TOrderV 12 I' [] v l:=RL.mono (fun _ _ h=>TOrderV.mono h hI) h hI (fun _ h=>h)
def QE (s:TSelect):Pr TSelect:=fun l=>.ok s l
def JR (s:TSelect):Pr TSelect:=fun l=>if isT l [111,102,102,115,101,116] then (GI l.tail).bind fun x r=>QE {s with fOffset:=x} r else QE s l
def JS (s:TSelect):Pr TSelect:=fun l=>if isT l [108,105,109,105,116] then (GI l.tail).bind fun x r=>JR {s with fLimit:=x} r else JR s l
def Jg (n:Nat)(s:TSelect):Pr TSelect:=fun l=>if isT l [111,114,100,101,114] then (AY [98,121] l.tail).bind fun _ r=>(BV n (Ig n) r).bind fun x r=>JS {s with fOrder:=x} r else JS s l
def JU (n:Nat)(s:TSelect):Pr TSelect:=fun l=>(EZ n [104,97,118,105,110,103] l).bind fun x r=>Jg n {s with fHaving:=x} r
def Jh (n:Nat)(s:TSelect):Pr TSelect:=fun l=>if isT l [103,114,111,117,112] then (AY [98,121] l.tail).bind fun _ r=>(BV n (eP n) r).bind fun x r=>JU n {s with fGroup:=x} r else JU n s l
def JV (n:Nat)(s:TSelect):Pr TSelect:=fun l=>(EZ n [119,104,101,114,101] l).bind fun x r=>Jh n {s with fWhere:=x} r
def Ic (n:Nat)(s:TSelect):Pr TSelect:=fun l=>if isT l [102,114,111,109] then (Lh n l.tail).bind fun x r=>JV n {s with fFrom:=x} r else JV n s l
abbrev AEn (d:Bool):TSelect:=⟨d,[],[],ex0,[],ex0,[], -1,0⟩
theorem AFW {α β:Type}(s:Bs)(d:α)(p:Pr α)(l:List Tok)(f:α→Pr β):(Rl s d p l).bind f=if isT l s then (p l.tail).bind f else f d l:=by
 unfold Rl;split <;> rfl
theorem ZC (n:Nat)(l:List Tok):Ie n l=(BV n (IL n) (if isT l [100,105,115,116,105,110,99,116] then l.tail else l)).bind fun x r=>Ic n {AEn (isT l [100,105,115,116,105,110,99,116]) with fItems:=x} r:=by
 simp only [Ie,AFW,byP,Es,Ic,JV,Jh,JU,Jg,JS,JR,QE]
abbrev selZ:List Value:=[.bool false,.slice none 0 0,.slice none 0 0,.int .i64 0,.int .i64 0,.bool false,.int .i64 0,.string ⟨#[]⟩,.string ⟨#[]⟩,.string ⟨#[]⟩,.int .i64 0,.int .i64 0,.bool false,.slice none 0 0,.slice none 0 0,.int .i64 0,.int .i64 0,.bool false,.int .i64 0,.string ⟨#[]⟩,.string ⟨#[]⟩,.string ⟨#[]⟩,.int .i64 0,.int .i64 0,.bool false,.slice none 0 0,.slice none 0 0,.int .i64 0,.int .i64 0]
section
variable {ω:Om}{b:Nat}
theorem Xt (n:Nat)(hn0:n≤1000000000)(hE:FnE ω n b 148 (eP n)){I:Imm}{L1 L2:LH}{K Pn:Value→M}{v:Value}{l:List Tok}{b1 bq N0:Nat}{s:TSelect}{c:List Value}(h:TL I v l)(hT:Toks l)(hl:l.length≤n)(hN:l.length≤N0)(hs:CB I s c)
  (hok:VOk CB (QE s l) N0 K (fun o=>L1++(b,o)::L2) I) (herr:PEr (QE s l) Pn (fun o=>L1++(b,o)::L2) I):
  Qm ω (AX b1) (AX bq) (fun v=>Gh (K v)) (fun v=>Gh (Pn v)) I ((bq,.cells c.toArray 40 (0,0))::(b1,.cells selZ.toArray 40 (0,0))::(L1++(b,PBo v)::L2)):=by
 obtain ⟨v0,v1,v2,v3,v4,v5,rfl,h0,h1,h2,h3,h4,h5⟩:=hs;obtain ⟨a0,k0,rfl⟩:=RL.form h0;obtain ⟨a1,k1,rfl⟩:=RL.form h1;obtain ⟨a2,k2,rfl⟩:=RL.form h2;obtain ⟨a3,k3,rfl⟩:=RL.form h3;obtain ⟨a4,k4,rfl⟩:=RL.form h4;obtain ⟨a5,k5,rfl⟩:=RL.form h5;have hs:CB I s _:=⟨_,_,_,_,_,_,rfl,h0,h1,h2,h3,h4,h5⟩;unfold Qm;have hl0:=hT.len;repeat' (first|(with_reducible first|refine Bl (b:=b) ?_|refine keepA ?_|refine AV (fun _=>?_))|((with_reducible refine Ar ?_);with_reducible refine Bo _ (by first|assumption|exact TL.mono (by assumption) (by repeat (first|exact Ext.refl _|assumption|refine Ext.trans ?_ (by assumption)))) (by assumption) (fun hb hT' hl' v' hv'=>?_) (fun hb=>?_))|(with_reducible refine Be _ (by first|assumption|exact TL.mono (by assumption) (by repeat (first|exact Ext.refl _|assumption|refine Ext.trans ?_ (by assumption)))) (by assumption) (fun hb hT' hl' I' v' hI' hv'=>?_) (fun hb I' v' hI'=>?_))|((with_reducible refine Ac ?_);with_reducible refine CG (by first|assumption|exact TL.mono (by assumption) (by repeat (first|exact Ext.refl _|assumption|refine Ext.trans ?_ (by assumption)))) (by assumption) (fun hb hT' hl' v' hv'=>?_) (fun hb=>?_))|((with_reducible refine Ac ?_);with_reducible refine Aj (by first|assumption|exact TL.mono (by assumption) (by repeat (first|exact Ext.refl _|assumption|refine Ext.trans ?_ (by assumption)))) (by assumption) ?_)|(with_reducible first|refine CP (by first|assumption|exact RL.nil none 0|exact ExL.k (by assumption)|exact ExL.mono (by assumption) (by repeat (first|exact Ext.refl _|assumption|refine Ext.trans ?_ (by assumption)))|exact ExL.k (ExL.mono (by assumption) (by repeat (first|exact Ext.refl _|assumption|refine Ext.trans ?_ (by assumption))))) (fun I' a hI' hw'=>Gh.done ?_)|refine Bz (by first|assumption|exact RL.nil none 0|exact ExL.k (by assumption)|exact ExL.mono (by assumption) (by repeat (first|exact Ext.refl _|assumption|refine Ext.trans ?_ (by assumption)))|exact ExL.k (ExL.mono (by assumption) (by repeat (first|exact Ext.refl _|assumption|refine Ext.trans ?_ (by assumption))))) (by first|assumption|exact RL.nil none 0|exact ExL.k (by assumption)|exact ExL.mono (by assumption) (by repeat (first|exact Ext.refl _|assumption|refine Ext.trans ?_ (by assumption)))|exact ExL.k (ExL.mono (by assumption) (by repeat (first|exact Ext.refl _|assumption|refine Ext.trans ?_ (by assumption))))) (fun I' a hI' hw'=>Gh.done ?_)|refine CS (by first|assumption|exact RL.nil none 0|exact ExL.k (by assumption)|exact ExL.mono (by assumption) (by repeat (first|exact Ext.refl _|assumption|refine Ext.trans ?_ (by assumption)))|exact ExL.k (ExL.mono (by assumption) (by repeat (first|exact Ext.refl _|assumption|refine Ext.trans ?_ (by assumption))))) (by first|assumption|exact RL.nil none 0|exact ExL.k (by assumption)|exact ExL.mono (by assumption) (by repeat (first|exact Ext.refl _|assumption|refine Ext.trans ?_ (by assumption)))|exact ExL.k (ExL.mono (by assumption) (by repeat (first|exact Ext.refl _|assumption|refine Ext.trans ?_ (by assumption))))) (by first|assumption|exact RL.nil none 0|exact ExL.k (by assumption)|exact ExL.mono (by assumption) (by repeat (first|exact Ext.refl _|assumption|refine Ext.trans ?_ (by assumption)))|exact ExL.k (ExL.mono (by assumption) (by repeat (first|exact Ext.refl _|assumption|refine Ext.trans ?_ (by assumption))))) (fun I' a hI' hw'=>Gh.done ?_))|((with_reducible refine Ar ?_);with_reducible refine BK (by first|assumption|exact RL.nil none 0|exact ExL.k (by assumption)|exact ExL.mono (by assumption) (by repeat (first|exact Ext.refl _|assumption|refine Ext.trans ?_ (by assumption)))|exact ExL.k (ExL.mono (by assumption) (by repeat (first|exact Ext.refl _|assumption|refine Ext.trans ?_ (by assumption))))) ?_)|(with_reducible refine rdb ?_)|((with_reducible first|refine st1 ?_ ?_|refine rdB ?_ ?_);rfl)|(with_reducible refine Ai ?_)|((with_reducible refine Az ?_ ?_);rfl)|((with_reducible refine stB ?_ ?_ ?_ ?_);rfl;rfl;exact AO rfl)|((with_reducible first|refine rdP _ rfl ?_ ?_|refine BB _ rfl ?_ ?_);rfl)|((with_reducible refine stP _ rfl ?_ ?_ ?_ ?_);rfl;rfl;rfl)|(with_reducible refine And.intro ?_ ?_)|(simp only [SSg,Int.reduceBEq,Int.reduceBNe,Int.reduceLT,Int.reduceLE,beq_self_eq_true,bne_self_eq_false])|(with_reducible first|refine AP (fun hb=>?_) (fun hb=>?_)|refine AA (fun hb=>?_) (fun hb=>?_))|(simp only [SSd,Nat.reduceAdd]))
 exact Gh.to (L1++(b,PBo v)::L2) (Gh.done (hok s l (by simp [QE]) hT hN I v _ (Ext.refl _) h hs))
theorem Xu (n:Nat)(hn0:n≤1000000000)(hE:FnE ω n b 148 (eP n)){I:Imm}{L1 L2:LH}{K Pn:Value→M}{v:Value}{l:List Tok}{b1 bq N0:Nat}{s:TSelect}{c:List Value}(h:TL I v l)(hT:Toks l)(hl:l.length≤n)(hN:l.length≤N0)(hs:CB I s c)
  (hok:VOk CB (JR s l) N0 K (fun o=>L1++(b,o)::L2) I) (herr:PEr (JR s l) Pn (fun o=>L1++(b,o)::L2) I):
  Qn ω (AX b) (AX b1) (AX bq) (fun v=>Gh (K v)) (fun v=>Gh (Pn v)) I ((bq,.cells c.toArray 40 (0,0))::(b1,.cells selZ.toArray 40 (0,0))::(L1++(b,PBo v)::L2)):=by
 obtain ⟨v0,v1,v2,v3,v4,v5,rfl,h0,h1,h2,h3,h4,h5⟩:=hs;obtain ⟨a0,k0,rfl⟩:=RL.form h0;obtain ⟨a1,k1,rfl⟩:=RL.form h1;obtain ⟨a2,k2,rfl⟩:=RL.form h2;obtain ⟨a3,k3,rfl⟩:=RL.form h3;obtain ⟨a4,k4,rfl⟩:=RL.form h4;obtain ⟨a5,k5,rfl⟩:=RL.form h5;have hs:CB I s _:=⟨_,_,_,_,_,_,rfl,h0,h1,h2,h3,h4,h5⟩;unfold Qn;have hl0:=hT.len;repeat' (first|(with_reducible first|refine Bl (b:=b) ?_|refine keepA ?_|refine AV (fun _=>?_))|((with_reducible refine Ac ?_);with_reducible refine PH (by first|assumption|exact TL.mono (by assumption) (by repeat (first|exact Ext.refl _|assumption|refine Ext.trans ?_ (by assumption)))) (by assumption) (fun x r hg hT2 hr2 v' hv'=>?_) (fun e hg=>?_))|((with_reducible refine Ar ?_);with_reducible refine Bo _ (by first|assumption|exact TL.mono (by assumption) (by repeat (first|exact Ext.refl _|assumption|refine Ext.trans ?_ (by assumption)))) (by assumption) (fun hb hT' hl' v' hv'=>?_) (fun hb=>?_))|(with_reducible refine Be _ (by first|assumption|exact TL.mono (by assumption) (by repeat (first|exact Ext.refl _|assumption|refine Ext.trans ?_ (by assumption)))) (by assumption) (fun hb hT' hl' I' v' hI' hv'=>?_) (fun hb I' v' hI'=>?_))|((with_reducible refine Ac ?_);with_reducible refine CG (by first|assumption|exact TL.mono (by assumption) (by repeat (first|exact Ext.refl _|assumption|refine Ext.trans ?_ (by assumption)))) (by assumption) (fun hb hT' hl' v' hv'=>?_) (fun hb=>?_))|((with_reducible refine Ac ?_);with_reducible refine Aj (by first|assumption|exact TL.mono (by assumption) (by repeat (first|exact Ext.refl _|assumption|refine Ext.trans ?_ (by assumption)))) (by assumption) ?_)|(with_reducible first|refine CP (by first|assumption|exact RL.nil none 0|exact ExL.k (by assumption)|exact ExL.mono (by assumption) (by repeat (first|exact Ext.refl _|assumption|refine Ext.trans ?_ (by assumption)))|exact ExL.k (ExL.mono (by assumption) (by repeat (first|exact Ext.refl _|assumption|refine Ext.trans ?_ (by assumption))))) (fun I' a hI' hw'=>Gh.done ?_)|refine Bz (by first|assumption|exact RL.nil none 0|exact ExL.k (by assumption)|exact ExL.mono (by assumption) (by repeat (first|exact Ext.refl _|assumption|refine Ext.trans ?_ (by assumption)))|exact ExL.k (ExL.mono (by assumption) (by repeat (first|exact Ext.refl _|assumption|refine Ext.trans ?_ (by assumption))))) (by first|assumption|exact RL.nil none 0|exact ExL.k (by assumption)|exact ExL.mono (by assumption) (by repeat (first|exact Ext.refl _|assumption|refine Ext.trans ?_ (by assumption)))|exact ExL.k (ExL.mono (by assumption) (by repeat (first|exact Ext.refl _|assumption|refine Ext.trans ?_ (by assumption))))) (fun I' a hI' hw'=>Gh.done ?_)|refine CS (by first|assumption|exact RL.nil none 0|exact ExL.k (by assumption)|exact ExL.mono (by assumption) (by repeat (first|exact Ext.refl _|assumption|refine Ext.trans ?_ (by assumption)))|exact ExL.k (ExL.mono (by assumption) (by repeat (first|exact Ext.refl _|assumption|refine Ext.trans ?_ (by assumption))))) (by first|assumption|exact RL.nil none 0|exact ExL.k (by assumption)|exact ExL.mono (by assumption) (by repeat (first|exact Ext.refl _|assumption|refine Ext.trans ?_ (by assumption)))|exact ExL.k (ExL.mono (by assumption) (by repeat (first|exact Ext.refl _|assumption|refine Ext.trans ?_ (by assumption))))) (by first|assumption|exact RL.nil none 0|exact ExL.k (by assumption)|exact ExL.mono (by assumption) (by repeat (first|exact Ext.refl _|assumption|refine Ext.trans ?_ (by assumption)))|exact ExL.k (ExL.mono (by assumption) (by repeat (first|exact Ext.refl _|assumption|refine Ext.trans ?_ (by assumption))))) (fun I' a hI' hw'=>Gh.done ?_))|((with_reducible refine Ar ?_);with_reducible refine BK (by first|assumption|exact RL.nil none 0|exact ExL.k (by assumption)|exact ExL.mono (by assumption) (by repeat (first|exact Ext.refl _|assumption|refine Ext.trans ?_ (by assumption)))|exact ExL.k (ExL.mono (by assumption) (by repeat (first|exact Ext.refl _|assumption|refine Ext.trans ?_ (by assumption))))) ?_)|(with_reducible refine rdb ?_)|((with_reducible first|refine st1 ?_ ?_|refine rdB ?_ ?_);rfl)|(with_reducible refine Ai ?_)|((with_reducible refine Az ?_ ?_);rfl)|((with_reducible refine stB ?_ ?_ ?_ ?_);rfl;rfl;exact AO rfl)|((with_reducible first|refine rdP _ rfl ?_ ?_|refine BB _ rfl ?_ ?_);rfl)|((with_reducible refine stP _ rfl ?_ ?_ ?_ ?_);rfl;rfl;rfl)|(with_reducible refine And.intro ?_ ?_)|(simp only [SSg,Int.reduceBEq,Int.reduceBNe,Int.reduceLT,Int.reduceLE,beq_self_eq_true,bne_self_eq_false])|(with_reducible first|refine AP (fun hb=>?_) (fun hb=>?_)|refine AA (fun hb=>?_) (fun hb=>?_))|(simp only [SSd,Nat.reduceAdd]))
 all_goals first
  |exact Gh.to (L1++(b,PBo v')::L2) (Gh.done (herr _ (by simp [JR,Res.bind,bad,AY,Res.bind,bad,AY, *] <;> rfl) _ _ (by repeat (first|exact Ext.refl _|assumption|refine Ext.trans ?_ (by assumption)))))
  |exact Xt n hn0 hE (by first|assumption|exact TL.mono (by assumption) (by repeat (first|exact Ext.refl _|assumption|refine Ext.trans ?_ (by assumption)))) (by assumption) (by omega) (by omega) (s:={s with fOffset:=x}) ⟨_,_,_,_,_,_,rfl,(ItL.mono h0 (by repeat (first|exact Ext.refl _|assumption|refine Ext.trans ?_ (by assumption)))),(SoL.mono h1 (by repeat (first|exact Ext.refl _|assumption|refine Ext.trans ?_ (by assumption)))),(ExL.mono h2 (by repeat (first|exact Ext.refl _|assumption|refine Ext.trans ?_ (by assumption)))),(RL.mono (fun _ _ h=>ExV.mono (by repeat (first|exact Ext.refl _|assumption|refine Ext.trans ?_ (by assumption))) h) h3 (by repeat (first|exact Ext.refl _|assumption|refine Ext.trans ?_ (by assumption))) (fun _ h=>h)),(ExL.mono h4 (by repeat (first|exact Ext.refl _|assumption|refine Ext.trans ?_ (by assumption)))),(OrL.mono h5 (by repeat (first|exact Ext.refl _|assumption|refine Ext.trans ?_ (by assumption))))⟩ (fun y q hy hT' hq I' v' c hI hv hc=>hok y q (by simp [JR,AY,Res.bind,hy, *]) hT' hq I' v' c (by repeat (first|exact Ext.refl _|assumption|refine Ext.trans ?_ (by assumption))) hv hc) (fun e hy I' v' hI=>herr e (by simp [JR,AY,Res.bind,hy, *]) I' v' (by repeat (first|exact Ext.refl _|assumption|refine Ext.trans ?_ (by assumption))))
  |exact Xt n hn0 hE (by first|assumption|exact TL.mono (by assumption) (by repeat (first|exact Ext.refl _|assumption|refine Ext.trans ?_ (by assumption)))) (by assumption) (by omega) (by omega) (s:=s) ⟨_,_,_,_,_,_,rfl,(ItL.mono h0 (by repeat (first|exact Ext.refl _|assumption|refine Ext.trans ?_ (by assumption)))),(SoL.mono h1 (by repeat (first|exact Ext.refl _|assumption|refine Ext.trans ?_ (by assumption)))),(ExL.mono h2 (by repeat (first|exact Ext.refl _|assumption|refine Ext.trans ?_ (by assumption)))),(RL.mono (fun _ _ h=>ExV.mono (by repeat (first|exact Ext.refl _|assumption|refine Ext.trans ?_ (by assumption))) h) h3 (by repeat (first|exact Ext.refl _|assumption|refine Ext.trans ?_ (by assumption))) (fun _ h=>h)),(ExL.mono h4 (by repeat (first|exact Ext.refl _|assumption|refine Ext.trans ?_ (by assumption)))),(OrL.mono h5 (by repeat (first|exact Ext.refl _|assumption|refine Ext.trans ?_ (by assumption))))⟩ (fun y q hy hT' hq I' v' c hI hv hc=>hok y q (by simp [JR,AY,Res.bind,hy, *]) hT' hq I' v' c (by repeat (first|exact Ext.refl _|assumption|refine Ext.trans ?_ (by assumption))) hv hc) (fun e hy I' v' hI=>herr e (by simp [JR,AY,Res.bind,hy, *]) I' v' (by repeat (first|exact Ext.refl _|assumption|refine Ext.trans ?_ (by assumption))))
theorem Xv (n:Nat)(hn0:n≤1000000000)(hE:FnE ω n b 148 (eP n)){I:Imm}{L1 L2:LH}{K Pn:Value→M}{v:Value}{l:List Tok}{b1 bq N0:Nat}{s:TSelect}{c:List Value}(h:TL I v l)(hT:Toks l)(hl:l.length≤n)(hN:l.length≤N0)(hs:CB I s c)
  (hok:VOk CB (JS s l) N0 K (fun o=>L1++(b,o)::L2) I) (herr:PEr (JS s l) Pn (fun o=>L1++(b,o)::L2) I):
  Qo ω (AX b) (AX b1) (AX bq) (fun v=>Gh (K v)) (fun v=>Gh (Pn v)) I ((bq,.cells c.toArray 40 (0,0))::(b1,.cells selZ.toArray 40 (0,0))::(L1++(b,PBo v)::L2)):=by
 obtain ⟨v0,v1,v2,v3,v4,v5,rfl,h0,h1,h2,h3,h4,h5⟩:=hs;obtain ⟨a0,k0,rfl⟩:=RL.form h0;obtain ⟨a1,k1,rfl⟩:=RL.form h1;obtain ⟨a2,k2,rfl⟩:=RL.form h2;obtain ⟨a3,k3,rfl⟩:=RL.form h3;obtain ⟨a4,k4,rfl⟩:=RL.form h4;obtain ⟨a5,k5,rfl⟩:=RL.form h5;have hs:CB I s _:=⟨_,_,_,_,_,_,rfl,h0,h1,h2,h3,h4,h5⟩;unfold Qo;have hl0:=hT.len;repeat' (first|(with_reducible first|refine Bl (b:=b) ?_|refine keepA ?_|refine AV (fun _=>?_))|((with_reducible refine Ac ?_);with_reducible refine PH (by first|assumption|exact TL.mono (by assumption) (by repeat (first|exact Ext.refl _|assumption|refine Ext.trans ?_ (by assumption)))) (by assumption) (fun x r hg hT2 hr2 v' hv'=>?_) (fun e hg=>?_))|((with_reducible refine Ar ?_);with_reducible refine Bo _ (by first|assumption|exact TL.mono (by assumption) (by repeat (first|exact Ext.refl _|assumption|refine Ext.trans ?_ (by assumption)))) (by assumption) (fun hb hT' hl' v' hv'=>?_) (fun hb=>?_))|(with_reducible refine Be _ (by first|assumption|exact TL.mono (by assumption) (by repeat (first|exact Ext.refl _|assumption|refine Ext.trans ?_ (by assumption)))) (by assumption) (fun hb hT' hl' I' v' hI' hv'=>?_) (fun hb I' v' hI'=>?_))|((with_reducible refine Ac ?_);with_reducible refine CG (by first|assumption|exact TL.mono (by assumption) (by repeat (first|exact Ext.refl _|assumption|refine Ext.trans ?_ (by assumption)))) (by assumption) (fun hb hT' hl' v' hv'=>?_) (fun hb=>?_))|((with_reducible refine Ac ?_);with_reducible refine Aj (by first|assumption|exact TL.mono (by assumption) (by repeat (first|exact Ext.refl _|assumption|refine Ext.trans ?_ (by assumption)))) (by assumption) ?_)|(with_reducible first|refine CP (by first|assumption|exact RL.nil none 0|exact ExL.k (by assumption)|exact ExL.mono (by assumption) (by repeat (first|exact Ext.refl _|assumption|refine Ext.trans ?_ (by assumption)))|exact ExL.k (ExL.mono (by assumption) (by repeat (first|exact Ext.refl _|assumption|refine Ext.trans ?_ (by assumption))))) (fun I' a hI' hw'=>Gh.done ?_)|refine Bz (by first|assumption|exact RL.nil none 0|exact ExL.k (by assumption)|exact ExL.mono (by assumption) (by repeat (first|exact Ext.refl _|assumption|refine Ext.trans ?_ (by assumption)))|exact ExL.k (ExL.mono (by assumption) (by repeat (first|exact Ext.refl _|assumption|refine Ext.trans ?_ (by assumption))))) (by first|assumption|exact RL.nil none 0|exact ExL.k (by assumption)|exact ExL.mono (by assumption) (by repeat (first|exact Ext.refl _|assumption|refine Ext.trans ?_ (by assumption)))|exact ExL.k (ExL.mono (by assumption) (by repeat (first|exact Ext.refl _|assumption|refine Ext.trans ?_ (by assumption))))) (fun I' a hI' hw'=>Gh.done ?_)|refine CS (by first|assumption|exact RL.nil none 0|exact ExL.k (by assumption)|exact ExL.mono (by assumption) (by repeat (first|exact Ext.refl _|assumption|refine Ext.trans ?_ (by assumption)))|exact ExL.k (ExL.mono (by assumption) (by repeat (first|exact Ext.refl _|assumption|refine Ext.trans ?_ (by assumption))))) (by first|assumption|exact RL.nil none 0|exact ExL.k (by assumption)|exact ExL.mono (by assumption) (by repeat (first|exact Ext.refl _|assumption|refine Ext.trans ?_ (by assumption)))|exact ExL.k (ExL.mono (by assumption) (by repeat (first|exact Ext.refl _|assumption|refine Ext.trans ?_ (by assumption))))) (by first|assumption|exact RL.nil none 0|exact ExL.k (by assumption)|exact ExL.mono (by assumption) (by repeat (first|exact Ext.refl _|assumption|refine Ext.trans ?_ (by assumption)))|exact ExL.k (ExL.mono (by assumption) (by repeat (first|exact Ext.refl _|assumption|refine Ext.trans ?_ (by assumption))))) (fun I' a hI' hw'=>Gh.done ?_))|((with_reducible refine Ar ?_);with_reducible refine BK (by first|assumption|exact RL.nil none 0|exact ExL.k (by assumption)|exact ExL.mono (by assumption) (by repeat (first|exact Ext.refl _|assumption|refine Ext.trans ?_ (by assumption)))|exact ExL.k (ExL.mono (by assumption) (by repeat (first|exact Ext.refl _|assumption|refine Ext.trans ?_ (by assumption))))) ?_)|(with_reducible refine rdb ?_)|((with_reducible first|refine st1 ?_ ?_|refine rdB ?_ ?_);rfl)|(with_reducible refine Ai ?_)|((with_reducible refine Az ?_ ?_);rfl)|((with_reducible refine stB ?_ ?_ ?_ ?_);rfl;rfl;exact AO rfl)|((with_reducible first|refine rdP _ rfl ?_ ?_|refine BB _ rfl ?_ ?_);rfl)|((with_reducible refine stP _ rfl ?_ ?_ ?_ ?_);rfl;rfl;rfl)|(with_reducible refine And.intro ?_ ?_)|(simp only [SSg,Int.reduceBEq,Int.reduceBNe,Int.reduceLT,Int.reduceLE,beq_self_eq_true,bne_self_eq_false])|(with_reducible first|refine AP (fun hb=>?_) (fun hb=>?_)|refine AA (fun hb=>?_) (fun hb=>?_))|(simp only [SSd,Nat.reduceAdd]))
 all_goals first
  |exact Gh.to (L1++(b,PBo v')::L2) (Gh.done (herr _ (by simp [JS,Res.bind,bad,AY,Res.bind,bad,AY, *] <;> rfl) _ _ (by repeat (first|exact Ext.refl _|assumption|refine Ext.trans ?_ (by assumption)))))
  |exact Xu n hn0 hE (by first|assumption|exact TL.mono (by assumption) (by repeat (first|exact Ext.refl _|assumption|refine Ext.trans ?_ (by assumption)))) (by assumption) (by omega) (by omega) (s:={s with fLimit:=x}) ⟨_,_,_,_,_,_,rfl,(ItL.mono h0 (by repeat (first|exact Ext.refl _|assumption|refine Ext.trans ?_ (by assumption)))),(SoL.mono h1 (by repeat (first|exact Ext.refl _|assumption|refine Ext.trans ?_ (by assumption)))),(ExL.mono h2 (by repeat (first|exact Ext.refl _|assumption|refine Ext.trans ?_ (by assumption)))),(RL.mono (fun _ _ h=>ExV.mono (by repeat (first|exact Ext.refl _|assumption|refine Ext.trans ?_ (by assumption))) h) h3 (by repeat (first|exact Ext.refl _|assumption|refine Ext.trans ?_ (by assumption))) (fun _ h=>h)),(ExL.mono h4 (by repeat (first|exact Ext.refl _|assumption|refine Ext.trans ?_ (by assumption)))),(OrL.mono h5 (by repeat (first|exact Ext.refl _|assumption|refine Ext.trans ?_ (by assumption))))⟩ (fun y q hy hT' hq I' v' c hI hv hc=>hok y q (by simp [JS,AY,Res.bind,hy, *]) hT' hq I' v' c (by repeat (first|exact Ext.refl _|assumption|refine Ext.trans ?_ (by assumption))) hv hc) (fun e hy I' v' hI=>herr e (by simp [JS,AY,Res.bind,hy, *]) I' v' (by repeat (first|exact Ext.refl _|assumption|refine Ext.trans ?_ (by assumption))))
  |exact Xu n hn0 hE (by first|assumption|exact TL.mono (by assumption) (by repeat (first|exact Ext.refl _|assumption|refine Ext.trans ?_ (by assumption)))) (by assumption) (by omega) (by omega) (s:=s) ⟨_,_,_,_,_,_,rfl,(ItL.mono h0 (by repeat (first|exact Ext.refl _|assumption|refine Ext.trans ?_ (by assumption)))),(SoL.mono h1 (by repeat (first|exact Ext.refl _|assumption|refine Ext.trans ?_ (by assumption)))),(ExL.mono h2 (by repeat (first|exact Ext.refl _|assumption|refine Ext.trans ?_ (by assumption)))),(RL.mono (fun _ _ h=>ExV.mono (by repeat (first|exact Ext.refl _|assumption|refine Ext.trans ?_ (by assumption))) h) h3 (by repeat (first|exact Ext.refl _|assumption|refine Ext.trans ?_ (by assumption))) (fun _ h=>h)),(ExL.mono h4 (by repeat (first|exact Ext.refl _|assumption|refine Ext.trans ?_ (by assumption)))),(OrL.mono h5 (by repeat (first|exact Ext.refl _|assumption|refine Ext.trans ?_ (by assumption))))⟩ (fun y q hy hT' hq I' v' c hI hv hc=>hok y q (by simp [JS,AY,Res.bind,hy, *]) hT' hq I' v' c (by repeat (first|exact Ext.refl _|assumption|refine Ext.trans ?_ (by assumption))) hv hc) (fun e hy I' v' hI=>herr e (by simp [JS,AY,Res.bind,hy, *]) I' v' (by repeat (first|exact Ext.refl _|assumption|refine Ext.trans ?_ (by assumption))))
theorem Xw (n:Nat)(hn0:n≤1000000000)(hE:FnE ω n b 148 (eP n)){I:Imm}{L1 L2:LH}{K Pn:Value→M}{v:Value}{l:List Tok}{b1 bq N0:Nat}{s:TSelect}{c:List Value}(h:TL I v l)(hT:Toks l)(hl:l.length≤n)(hN:l.length≤N0)(hs:CB I s c)
  (hok:VOk CB (JU n s l) N0 K (fun o=>L1++(b,o)::L2) I) (herr:PEr (JU n s l) Pn (fun o=>L1++(b,o)::L2) I):
  Qq ω (AX b) (AX b1) (AX bq) (fun v=>Gh (K v)) (fun v=>Gh (Pn v)) I ((bq,.cells c.toArray 40 (0,0))::(b1,.cells selZ.toArray 40 (0,0))::(L1++(b,PBo v)::L2)):=by
 obtain ⟨v0,v1,v2,v3,v4,v5,rfl,h0,h1,h2,h3,h4,h5⟩:=hs;obtain ⟨a0,k0,rfl⟩:=RL.form h0;obtain ⟨a1,k1,rfl⟩:=RL.form h1;obtain ⟨a2,k2,rfl⟩:=RL.form h2;obtain ⟨a3,k3,rfl⟩:=RL.form h3;obtain ⟨a4,k4,rfl⟩:=RL.form h4;obtain ⟨a5,k5,rfl⟩:=RL.form h5;have hs:CB I s _:=⟨_,_,_,_,_,_,rfl,h0,h1,h2,h3,h4,h5⟩;unfold Qq;have hl0:=hT.len;repeat' (first|(with_reducible first|refine Bl (b:=b) ?_|refine keepA ?_|refine AV (fun _=>?_))|((with_reducible refine Ac ?_);with_reducible refine Jr n hE _ (by first|assumption|exact TL.mono (by assumption) (by repeat (first|exact Ext.refl _|assumption|refine Ext.trans ?_ (by assumption)))) (by assumption) (by omega) (fun y r1 hg1 hT1 hr1 I' v' a' k' hI' hv' hw1=>?_) (fun e hg I' v' hI'=>?_))|((with_reducible refine Ac ?_);with_reducible refine AKQ n hn0 ((AFU n hE).one rfl) (by first|assumption|exact TL.mono (by assumption) (by repeat (first|exact Ext.refl _|assumption|refine Ext.trans ?_ (by assumption)))) (by assumption) (by omega) (KN (fun x r hg hT2 hr2 I' v' a' k' hI' hv' hw' hx'=>?_)) (fun e hg I' v' hI'=>?_))|((with_reducible refine Ar ?_);with_reducible refine Bo _ (by first|assumption|exact TL.mono (by assumption) (by repeat (first|exact Ext.refl _|assumption|refine Ext.trans ?_ (by assumption)))) (by assumption) (fun hb hT' hl' v' hv'=>?_) (fun hb=>?_))|(with_reducible refine Be _ (by first|assumption|exact TL.mono (by assumption) (by repeat (first|exact Ext.refl _|assumption|refine Ext.trans ?_ (by assumption)))) (by assumption) (fun hb hT' hl' I' v' hI' hv'=>?_) (fun hb I' v' hI'=>?_))|((with_reducible refine Ac ?_);with_reducible refine CG (by first|assumption|exact TL.mono (by assumption) (by repeat (first|exact Ext.refl _|assumption|refine Ext.trans ?_ (by assumption)))) (by assumption) (fun hb hT' hl' v' hv'=>?_) (fun hb=>?_))|((with_reducible refine Ac ?_);with_reducible refine Aj (by first|assumption|exact TL.mono (by assumption) (by repeat (first|exact Ext.refl _|assumption|refine Ext.trans ?_ (by assumption)))) (by assumption) ?_)|(with_reducible first|refine CP (by first|assumption|exact RL.nil none 0|exact ExL.k (by assumption)|exact ExL.mono (by assumption) (by repeat (first|exact Ext.refl _|assumption|refine Ext.trans ?_ (by assumption)))|exact ExL.k (ExL.mono (by assumption) (by repeat (first|exact Ext.refl _|assumption|refine Ext.trans ?_ (by assumption))))) (fun I' a hI' hw'=>Gh.done ?_)|refine Bz (by first|assumption|exact RL.nil none 0|exact ExL.k (by assumption)|exact ExL.mono (by assumption) (by repeat (first|exact Ext.refl _|assumption|refine Ext.trans ?_ (by assumption)))|exact ExL.k (ExL.mono (by assumption) (by repeat (first|exact Ext.refl _|assumption|refine Ext.trans ?_ (by assumption))))) (by first|assumption|exact RL.nil none 0|exact ExL.k (by assumption)|exact ExL.mono (by assumption) (by repeat (first|exact Ext.refl _|assumption|refine Ext.trans ?_ (by assumption)))|exact ExL.k (ExL.mono (by assumption) (by repeat (first|exact Ext.refl _|assumption|refine Ext.trans ?_ (by assumption))))) (fun I' a hI' hw'=>Gh.done ?_)|refine CS (by first|assumption|exact RL.nil none 0|exact ExL.k (by assumption)|exact ExL.mono (by assumption) (by repeat (first|exact Ext.refl _|assumption|refine Ext.trans ?_ (by assumption)))|exact ExL.k (ExL.mono (by assumption) (by repeat (first|exact Ext.refl _|assumption|refine Ext.trans ?_ (by assumption))))) (by first|assumption|exact RL.nil none 0|exact ExL.k (by assumption)|exact ExL.mono (by assumption) (by repeat (first|exact Ext.refl _|assumption|refine Ext.trans ?_ (by assumption)))|exact ExL.k (ExL.mono (by assumption) (by repeat (first|exact Ext.refl _|assumption|refine Ext.trans ?_ (by assumption))))) (by first|assumption|exact RL.nil none 0|exact ExL.k (by assumption)|exact ExL.mono (by assumption) (by repeat (first|exact Ext.refl _|assumption|refine Ext.trans ?_ (by assumption)))|exact ExL.k (ExL.mono (by assumption) (by repeat (first|exact Ext.refl _|assumption|refine Ext.trans ?_ (by assumption))))) (fun I' a hI' hw'=>Gh.done ?_))|((with_reducible refine Ar ?_);with_reducible refine BK (by first|assumption|exact RL.nil none 0|exact ExL.k (by assumption)|exact ExL.mono (by assumption) (by repeat (first|exact Ext.refl _|assumption|refine Ext.trans ?_ (by assumption)))|exact ExL.k (ExL.mono (by assumption) (by repeat (first|exact Ext.refl _|assumption|refine Ext.trans ?_ (by assumption))))) ?_)|(with_reducible refine rdb ?_)|((with_reducible first|refine st1 ?_ ?_|refine rdB ?_ ?_);rfl)|(with_reducible refine Ai ?_)|((with_reducible refine Az ?_ ?_);rfl)|((with_reducible refine stB ?_ ?_ ?_ ?_);rfl;rfl;exact AO rfl)|((with_reducible first|refine rdP _ rfl ?_ ?_|refine BB _ rfl ?_ ?_);rfl)|((with_reducible refine stP _ rfl ?_ ?_ ?_ ?_);rfl;rfl;rfl)|(with_reducible refine And.intro ?_ ?_)|(simp only [SSg,Int.reduceBEq,Int.reduceBNe,Int.reduceLT,Int.reduceLE,beq_self_eq_true,bne_self_eq_false])|(with_reducible first|refine AP (fun hb=>?_) (fun hb=>?_)|refine AA (fun hb=>?_) (fun hb=>?_))|(simp only [SSd,Nat.reduceAdd]))
 all_goals first
  |exact Gh.to (L1++(b,PBo v')::L2) (Gh.done (herr _ (by simp [JU,Jg,Res.bind,bad,AY,Res.bind,bad,AY, *] <;> rfl) _ _ (by repeat (first|exact Ext.refl _|assumption|refine Ext.trans ?_ (by assumption)))))
  |exact Xv n hn0 hE (by first|assumption|exact TL.mono (by assumption) (by repeat (first|exact Ext.refl _|assumption|refine Ext.trans ?_ (by assumption)))) (by assumption) (by omega) (by omega) (s:={s with fHaving:=y,fOrder:=x}) ⟨_,_,_,_,_,_,rfl,(ItL.mono h0 (by repeat (first|exact Ext.refl _|assumption|refine Ext.trans ?_ (by assumption)))),(SoL.mono h1 (by repeat (first|exact Ext.refl _|assumption|refine Ext.trans ?_ (by assumption)))),(ExL.mono h2 (by repeat (first|exact Ext.refl _|assumption|refine Ext.trans ?_ (by assumption)))),(RL.mono (fun _ _ h=>ExV.mono (by repeat (first|exact Ext.refl _|assumption|refine Ext.trans ?_ (by assumption))) h) h3 (by repeat (first|exact Ext.refl _|assumption|refine Ext.trans ?_ (by assumption))) (fun _ h=>h)),(ExL.mono hw1 (by repeat (first|exact Ext.refl _|assumption|refine Ext.trans ?_ (by assumption)))),hw'⟩ (fun y q hy hT' hq I' v' c hI hv hc=>hok y q (by simp [JU,Jg,AY,Res.bind,hy, *]) hT' hq I' v' c (by repeat (first|exact Ext.refl _|assumption|refine Ext.trans ?_ (by assumption))) hv hc) (fun e hy I' v' hI=>herr e (by simp [JU,Jg,AY,Res.bind,hy, *]) I' v' (by repeat (first|exact Ext.refl _|assumption|refine Ext.trans ?_ (by assumption))))
  |exact Xv n hn0 hE (by first|assumption|exact TL.mono (by assumption) (by repeat (first|exact Ext.refl _|assumption|refine Ext.trans ?_ (by assumption)))) (by assumption) (by omega) (by omega) (s:={s with fHaving:=y}) ⟨_,_,_,_,_,_,rfl,(ItL.mono h0 (by repeat (first|exact Ext.refl _|assumption|refine Ext.trans ?_ (by assumption)))),(SoL.mono h1 (by repeat (first|exact Ext.refl _|assumption|refine Ext.trans ?_ (by assumption)))),(ExL.mono h2 (by repeat (first|exact Ext.refl _|assumption|refine Ext.trans ?_ (by assumption)))),(RL.mono (fun _ _ h=>ExV.mono (by repeat (first|exact Ext.refl _|assumption|refine Ext.trans ?_ (by assumption))) h) h3 (by repeat (first|exact Ext.refl _|assumption|refine Ext.trans ?_ (by assumption))) (fun _ h=>h)),(ExL.mono hw1 (by repeat (first|exact Ext.refl _|assumption|refine Ext.trans ?_ (by assumption)))),(OrL.mono h5 (by repeat (first|exact Ext.refl _|assumption|refine Ext.trans ?_ (by assumption))))⟩ (fun y q hy hT' hq I' v' c hI hv hc=>hok y q (by simp [JU,Jg,AY,Res.bind,hy, *]) hT' hq I' v' c (by repeat (first|exact Ext.refl _|assumption|refine Ext.trans ?_ (by assumption))) hv hc) (fun e hy I' v' hI=>herr e (by simp [JU,Jg,AY,Res.bind,hy, *]) I' v' (by repeat (first|exact Ext.refl _|assumption|refine Ext.trans ?_ (by assumption))))
theorem NR (n:Nat)(hn0:n≤1000000000)(hE:FnE ω n b 148 (eP n)){I:Imm}{L1 L2:LH}{K Pn:Value→M}{v:Value}{l:List Tok}{b1 bq N0:Nat}{s:TSelect}{c:List Value}(h:TL I v l)(hT:Toks l)(hl:l.length≤n)(hN:l.length≤N0)(hs:CB I s c)
  (hok:VOk CB (JV n s l) N0 K (fun o=>L1++(b,o)::L2) I) (herr:PEr (JV n s l) Pn (fun o=>L1++(b,o)::L2) I):
  Qr ω (AX b) (AX b1) (AX bq) (fun v=>Gh (K v)) (fun v=>Gh (Pn v)) I ((bq,.cells c.toArray 40 (0,0))::(b1,.cells selZ.toArray 40 (0,0))::(L1++(b,PBo v)::L2)):=by
 obtain ⟨v0,v1,v2,v3,v4,v5,rfl,h0,h1,h2,h3,h4,h5⟩:=hs;obtain ⟨a0,k0,rfl⟩:=RL.form h0;obtain ⟨a1,k1,rfl⟩:=RL.form h1;obtain ⟨a2,k2,rfl⟩:=RL.form h2;obtain ⟨a3,k3,rfl⟩:=RL.form h3;obtain ⟨a4,k4,rfl⟩:=RL.form h4;obtain ⟨a5,k5,rfl⟩:=RL.form h5;have hs:CB I s _:=⟨_,_,_,_,_,_,rfl,h0,h1,h2,h3,h4,h5⟩;unfold Qr;have hl0:=hT.len;repeat' (first|(with_reducible first|refine Bl (b:=b) ?_|refine keepA ?_|refine AV (fun _=>?_))|((with_reducible refine Ac ?_);with_reducible refine Jr n hE _ (by first|assumption|exact TL.mono (by assumption) (by repeat (first|exact Ext.refl _|assumption|refine Ext.trans ?_ (by assumption)))) (by assumption) (by omega) (fun y r1 hg1 hT1 hr1 I' v' a' k' hI' hv' hw1=>?_) (fun e hg I' v' hI'=>?_))|((with_reducible refine Ac ?_);with_reducible refine AAa n hn0 (hE.one rfl) (by first|assumption|exact TL.mono (by assumption) (by repeat (first|exact Ext.refl _|assumption|refine Ext.trans ?_ (by assumption)))) (by assumption) (by omega) (KN (fun x r hg hT2 hr2 I' v' a' k' hI' hv' hw' hx'=>?_)) (fun e hg I' v' hI'=>?_))|((with_reducible refine Ar ?_);with_reducible refine Bo _ (by first|assumption|exact TL.mono (by assumption) (by repeat (first|exact Ext.refl _|assumption|refine Ext.trans ?_ (by assumption)))) (by assumption) (fun hb hT' hl' v' hv'=>?_) (fun hb=>?_))|(with_reducible refine Be _ (by first|assumption|exact TL.mono (by assumption) (by repeat (first|exact Ext.refl _|assumption|refine Ext.trans ?_ (by assumption)))) (by assumption) (fun hb hT' hl' I' v' hI' hv'=>?_) (fun hb I' v' hI'=>?_))|((with_reducible refine Ac ?_);with_reducible refine CG (by first|assumption|exact TL.mono (by assumption) (by repeat (first|exact Ext.refl _|assumption|refine Ext.trans ?_ (by assumption)))) (by assumption) (fun hb hT' hl' v' hv'=>?_) (fun hb=>?_))|((with_reducible refine Ac ?_);with_reducible refine Aj (by first|assumption|exact TL.mono (by assumption) (by repeat (first|exact Ext.refl _|assumption|refine Ext.trans ?_ (by assumption)))) (by assumption) ?_)|(with_reducible first|refine CP (by first|assumption|exact RL.nil none 0|exact ExL.k (by assumption)|exact ExL.mono (by assumption) (by repeat (first|exact Ext.refl _|assumption|refine Ext.trans ?_ (by assumption)))|exact ExL.k (ExL.mono (by assumption) (by repeat (first|exact Ext.refl _|assumption|refine Ext.trans ?_ (by assumption))))) (fun I' a hI' hw'=>Gh.done ?_)|refine Bz (by first|assumption|exact RL.nil none 0|exact ExL.k (by assumption)|exact ExL.mono (by assumption) (by repeat (first|exact Ext.refl _|assumption|refine Ext.trans ?_ (by assumption)))|exact ExL.k (ExL.mono (by assumption) (by repeat (first|exact Ext.refl _|assumption|refine Ext.trans ?_ (by assumption))))) (by first|assumption|exact RL.nil none 0|exact ExL.k (by assumption)|exact ExL.mono (by assumption) (by repeat (first|exact Ext.refl _|assumption|refine Ext.trans ?_ (by assumption)))|exact ExL.k (ExL.mono (by assumption) (by repeat (first|exact Ext.refl _|assumption|refine Ext.trans ?_ (by assumption))))) (fun I' a hI' hw'=>Gh.done ?_)|refine CS (by first|assumption|exact RL.nil none 0|exact ExL.k (by assumption)|exact ExL.mono (by assumption) (by repeat (first|exact Ext.refl _|assumption|refine Ext.trans ?_ (by assumption)))|exact ExL.k (ExL.mono (by assumption) (by repeat (first|exact Ext.refl _|assumption|refine Ext.trans ?_ (by assumption))))) (by first|assumption|exact RL.nil none 0|exact ExL.k (by assumption)|exact ExL.mono (by assumption) (by repeat (first|exact Ext.refl _|assumption|refine Ext.trans ?_ (by assumption)))|exact ExL.k (ExL.mono (by assumption) (by repeat (first|exact Ext.refl _|assumption|refine Ext.trans ?_ (by assumption))))) (by first|assumption|exact RL.nil none 0|exact ExL.k (by assumption)|exact ExL.mono (by assumption) (by repeat (first|exact Ext.refl _|assumption|refine Ext.trans ?_ (by assumption)))|exact ExL.k (ExL.mono (by assumption) (by repeat (first|exact Ext.refl _|assumption|refine Ext.trans ?_ (by assumption))))) (fun I' a hI' hw'=>Gh.done ?_))|((with_reducible refine Ar ?_);with_reducible refine BK (by first|assumption|exact RL.nil none 0|exact ExL.k (by assumption)|exact ExL.mono (by assumption) (by repeat (first|exact Ext.refl _|assumption|refine Ext.trans ?_ (by assumption)))|exact ExL.k (ExL.mono (by assumption) (by repeat (first|exact Ext.refl _|assumption|refine Ext.trans ?_ (by assumption))))) ?_)|(with_reducible refine rdb ?_)|((with_reducible first|refine st1 ?_ ?_|refine rdB ?_ ?_);rfl)|(with_reducible refine Ai ?_)|((with_reducible refine Az ?_ ?_);rfl)|((with_reducible refine stB ?_ ?_ ?_ ?_);rfl;rfl;exact AO rfl)|((with_reducible first|refine rdP _ rfl ?_ ?_|refine BB _ rfl ?_ ?_);rfl)|((with_reducible refine stP _ rfl ?_ ?_ ?_ ?_);rfl;rfl;rfl)|(with_reducible refine And.intro ?_ ?_)|(simp only [SSg,Int.reduceBEq,Int.reduceBNe,Int.reduceLT,Int.reduceLE,beq_self_eq_true,bne_self_eq_false])|(with_reducible first|refine AP (fun hb=>?_) (fun hb=>?_)|refine AA (fun hb=>?_) (fun hb=>?_))|(simp only [SSd,Nat.reduceAdd]))
 all_goals first
  |exact Gh.to (L1++(b,PBo v')::L2) (Gh.done (herr _ (by simp [JV,Jh,Res.bind,bad,AY,Res.bind,bad,AY, *] <;> rfl) _ _ (by repeat (first|exact Ext.refl _|assumption|refine Ext.trans ?_ (by assumption)))))
  |exact Xw n hn0 hE (by first|assumption|exact TL.mono (by assumption) (by repeat (first|exact Ext.refl _|assumption|refine Ext.trans ?_ (by assumption)))) (by assumption) (by omega) (by omega) (s:={s with fWhere:=y,fGroup:=x}) ⟨_,_,_,_,_,_,rfl,(ItL.mono h0 (by repeat (first|exact Ext.refl _|assumption|refine Ext.trans ?_ (by assumption)))),(SoL.mono h1 (by repeat (first|exact Ext.refl _|assumption|refine Ext.trans ?_ (by assumption)))),(ExL.mono hw1 (by repeat (first|exact Ext.refl _|assumption|refine Ext.trans ?_ (by assumption)))),hw',(ExL.mono h4 (by repeat (first|exact Ext.refl _|assumption|refine Ext.trans ?_ (by assumption)))),(OrL.mono h5 (by repeat (first|exact Ext.refl _|assumption|refine Ext.trans ?_ (by assumption))))⟩ (fun y q hy hT' hq I' v' c hI hv hc=>hok y q (by simp [JV,Jh,AY,Res.bind,hy, *]) hT' hq I' v' c (by repeat (first|exact Ext.refl _|assumption|refine Ext.trans ?_ (by assumption))) hv hc) (fun e hy I' v' hI=>herr e (by simp [JV,Jh,AY,Res.bind,hy, *]) I' v' (by repeat (first|exact Ext.refl _|assumption|refine Ext.trans ?_ (by assumption))))
  |exact Xw n hn0 hE (by first|assumption|exact TL.mono (by assumption) (by repeat (first|exact Ext.refl _|assumption|refine Ext.trans ?_ (by assumption)))) (by assumption) (by omega) (by omega) (s:={s with fWhere:=y}) ⟨_,_,_,_,_,_,rfl,(ItL.mono h0 (by repeat (first|exact Ext.refl _|assumption|refine Ext.trans ?_ (by assumption)))),(SoL.mono h1 (by repeat (first|exact Ext.refl _|assumption|refine Ext.trans ?_ (by assumption)))),(ExL.mono hw1 (by repeat (first|exact Ext.refl _|assumption|refine Ext.trans ?_ (by assumption)))),(RL.mono (fun _ _ h=>ExV.mono (by repeat (first|exact Ext.refl _|assumption|refine Ext.trans ?_ (by assumption))) h) h3 (by repeat (first|exact Ext.refl _|assumption|refine Ext.trans ?_ (by assumption))) (fun _ h=>h)),(ExL.mono h4 (by repeat (first|exact Ext.refl _|assumption|refine Ext.trans ?_ (by assumption)))),(OrL.mono h5 (by repeat (first|exact Ext.refl _|assumption|refine Ext.trans ?_ (by assumption))))⟩ (fun y q hy hT' hq I' v' c hI hv hc=>hok y q (by simp [JV,Jh,AY,Res.bind,hy, *]) hT' hq I' v' c (by repeat (first|exact Ext.refl _|assumption|refine Ext.trans ?_ (by assumption))) hv hc) (fun e hy I' v' hI=>herr e (by simp [JV,Jh,AY,Res.bind,hy, *]) I' v' (by repeat (first|exact Ext.refl _|assumption|refine Ext.trans ?_ (by assumption))))
theorem AFS (n:Nat)(hn0:n≤1000000000)(hE:FnE ω n b 148 (eP n)):FnV ω n b 94 (Ie n) CB:=by
 intro K Pn I L C v l hF h hT hl hok herr;obtain ⟨L1,L2,rfl,rfl⟩:=hF.foc;rw [ZC] at hok herr;refine AOd ?_;unfold AKY;repeat' (first|(with_reducible first|refine Bl (b:=b) ?_|refine keepA ?_|refine AV (fun _=>?_))|((with_reducible refine Ac ?_);with_reducible refine AKS n hn0 ((AJB n hE).one rfl) (by first|assumption|exact TL.mono (by assumption) (by repeat (first|exact Ext.refl _|assumption|refine Ext.trans ?_ (by assumption)))) (by assumption) (by omega) (KN (fun y r1 hg1 hT1 hr1 I' v' a' k' hI' hv' hw1 hx1=>?_)) (fun e hg I' v' hI'=>?_))|((with_reducible refine Ac ?_);with_reducible refine (AJF n hn0 hE).go (by first|assumption|exact TL.mono (by assumption) (by repeat (first|exact Ext.refl _|assumption|refine Ext.trans ?_ (by assumption)))) (by assumption) (by omega) (fun x r hg hT2 hr2 I' v' a' k' hI' hv' hw' hx'=>?_) (fun e hg I' v' hI'=>?_))|((with_reducible refine Ar ?_);with_reducible refine Bo _ (by first|assumption|exact TL.mono (by assumption) (by repeat (first|exact Ext.refl _|assumption|refine Ext.trans ?_ (by assumption)))) (by assumption) (fun hb hT' hl' v' hv'=>?_) (fun hb=>?_))|(with_reducible refine Be _ (by first|assumption|exact TL.mono (by assumption) (by repeat (first|exact Ext.refl _|assumption|refine Ext.trans ?_ (by assumption)))) (by assumption) (fun hb hT' hl' I' v' hI' hv'=>?_) (fun hb I' v' hI'=>?_))|((with_reducible refine Ac ?_);with_reducible refine CG (by first|assumption|exact TL.mono (by assumption) (by repeat (first|exact Ext.refl _|assumption|refine Ext.trans ?_ (by assumption)))) (by assumption) (fun hb hT' hl' v' hv'=>?_) (fun hb=>?_))|((with_reducible refine Ac ?_);with_reducible refine Aj (by first|assumption|exact TL.mono (by assumption) (by repeat (first|exact Ext.refl _|assumption|refine Ext.trans ?_ (by assumption)))) (by assumption) ?_)|(with_reducible first|refine CP (by first|assumption|exact RL.nil none 0|exact ExL.k (by assumption)|exact ExL.mono (by assumption) (by repeat (first|exact Ext.refl _|assumption|refine Ext.trans ?_ (by assumption)))|exact ExL.k (ExL.mono (by assumption) (by repeat (first|exact Ext.refl _|assumption|refine Ext.trans ?_ (by assumption))))) (fun I' a hI' hw'=>Gh.done ?_)|refine Bz (by first|assumption|exact RL.nil none 0|exact ExL.k (by assumption)|exact ExL.mono (by assumption) (by repeat (first|exact Ext.refl _|assumption|refine Ext.trans ?_ (by assumption)))|exact ExL.k (ExL.mono (by assumption) (by repeat (first|exact Ext.refl _|assumption|refine Ext.trans ?_ (by assumption))))) (by first|assumption|exact RL.nil none 0|exact ExL.k (by assumption)|exact ExL.mono (by assumption) (by repeat (first|exact Ext.refl _|assumption|refine Ext.trans ?_ (by assumption)))|exact ExL.k (ExL.mono (by assumption) (by repeat (first|exact Ext.refl _|assumption|refine Ext.trans ?_ (by assumption))))) (fun I' a hI' hw'=>Gh.done ?_)|refine CS (by first|assumption|exact RL.nil none 0|exact ExL.k (by assumption)|exact ExL.mono (by assumption) (by repeat (first|exact Ext.refl _|assumption|refine Ext.trans ?_ (by assumption)))|exact ExL.k (ExL.mono (by assumption) (by repeat (first|exact Ext.refl _|assumption|refine Ext.trans ?_ (by assumption))))) (by first|assumption|exact RL.nil none 0|exact ExL.k (by assumption)|exact ExL.mono (by assumption) (by repeat (first|exact Ext.refl _|assumption|refine Ext.trans ?_ (by assumption)))|exact ExL.k (ExL.mono (by assumption) (by repeat (first|exact Ext.refl _|assumption|refine Ext.trans ?_ (by assumption))))) (by first|assumption|exact RL.nil none 0|exact ExL.k (by assumption)|exact ExL.mono (by assumption) (by repeat (first|exact Ext.refl _|assumption|refine Ext.trans ?_ (by assumption)))|exact ExL.k (ExL.mono (by assumption) (by repeat (first|exact Ext.refl _|assumption|refine Ext.trans ?_ (by assumption))))) (fun I' a hI' hw'=>Gh.done ?_))|((with_reducible refine Ar ?_);with_reducible refine BK (by first|assumption|exact RL.nil none 0|exact ExL.k (by assumption)|exact ExL.mono (by assumption) (by repeat (first|exact Ext.refl _|assumption|refine Ext.trans ?_ (by assumption)))|exact ExL.k (ExL.mono (by assumption) (by repeat (first|exact Ext.refl _|assumption|refine Ext.trans ?_ (by assumption))))) ?_)|(with_reducible refine rdb ?_)|((with_reducible first|refine st1 ?_ ?_|refine rdB ?_ ?_);rfl)|(with_reducible refine Ai ?_)|((with_reducible refine Az ?_ ?_);rfl)|((with_reducible refine stB ?_ ?_ ?_ ?_);rfl;rfl;exact AO rfl)|((with_reducible first|refine rdP _ rfl ?_ ?_|refine BB _ rfl ?_ ?_);rfl)|((with_reducible refine stP _ rfl ?_ ?_ ?_ ?_);rfl;rfl;rfl)|(with_reducible refine And.intro ?_ ?_)|(simp only [SSg,Int.reduceBEq,Int.reduceBNe,Int.reduceLT,Int.reduceLE,beq_self_eq_true,bne_self_eq_false])|(with_reducible first|refine AP (fun hb=>?_) (fun hb=>?_)|refine AA (fun hb=>?_) (fun hb=>?_))|(simp only [SSd,Nat.reduceAdd]))
 all_goals first
  |exact Gh.to (L1++(b,PBo v')::L2) (Gh.done (herr _ (by simp [Ic,Res.bind,bad,AY, *] <;> rfl) _ _ (by repeat (first|exact Ext.refl _|assumption|refine Ext.trans ?_ (by assumption)))))
  |exact NR n hn0 hE (by first|assumption|exact TL.mono (by assumption) (by repeat (first|exact Ext.refl _|assumption|refine Ext.trans ?_ (by assumption)))) (by assumption) (by omega) (by omega) (s:={AEn true with fItems:=y,fFrom:=x}) ⟨_,_,_,_,_,_,rfl,(ItL.mono hw1 (by repeat (first|exact Ext.refl _|assumption|refine Ext.trans ?_ (by assumption)))),hw',RL.nil none 0,RL.nil none 0,RL.nil none 0,RL.nil none 0⟩ (fun z q hz hT' hq I' v' c hI hv hc=>hok z q (by simp [Ic,Res.bind,hz, *]) hT' hq I' v' c (by repeat (first|exact Ext.refl _|assumption|refine Ext.trans ?_ (by assumption))) hv hc) (fun e hz I' v' hI=>herr e (by simp [Ic,Res.bind,hz, *]) I' v' (by repeat (first|exact Ext.refl _|assumption|refine Ext.trans ?_ (by assumption))))
  |exact NR n hn0 hE (by first|assumption|exact TL.mono (by assumption) (by repeat (first|exact Ext.refl _|assumption|refine Ext.trans ?_ (by assumption)))) (by assumption) (by omega) (by omega) (s:={AEn true with fItems:=y}) ⟨_,_,_,_,_,_,rfl,(ItL.mono hw1 (by repeat (first|exact Ext.refl _|assumption|refine Ext.trans ?_ (by assumption)))),(RL.nil none 0),RL.nil none 0,RL.nil none 0,RL.nil none 0,RL.nil none 0⟩ (fun z q hz hT' hq I' v' c hI hv hc=>hok z q (by simp [Ic,Res.bind,hz, *]) hT' hq I' v' c (by repeat (first|exact Ext.refl _|assumption|refine Ext.trans ?_ (by assumption))) hv hc) (fun e hz I' v' hI=>herr e (by simp [Ic,Res.bind,hz, *]) I' v' (by repeat (first|exact Ext.refl _|assumption|refine Ext.trans ?_ (by assumption))))
  |exact NR n hn0 hE (by first|assumption|exact TL.mono (by assumption) (by repeat (first|exact Ext.refl _|assumption|refine Ext.trans ?_ (by assumption)))) (by assumption) (by omega) (by omega) (s:={AEn false with fItems:=y,fFrom:=x}) ⟨_,_,_,_,_,_,rfl,(ItL.mono hw1 (by repeat (first|exact Ext.refl _|assumption|refine Ext.trans ?_ (by assumption)))),hw',RL.nil none 0,RL.nil none 0,RL.nil none 0,RL.nil none 0⟩ (fun z q hz hT' hq I' v' c hI hv hc=>hok z q (by simp [Ic,Res.bind,hz, *]) hT' hq I' v' c (by repeat (first|exact Ext.refl _|assumption|refine Ext.trans ?_ (by assumption))) hv hc) (fun e hz I' v' hI=>herr e (by simp [Ic,Res.bind,hz, *]) I' v' (by repeat (first|exact Ext.refl _|assumption|refine Ext.trans ?_ (by assumption))))
  |exact NR n hn0 hE (by first|assumption|exact TL.mono (by assumption) (by repeat (first|exact Ext.refl _|assumption|refine Ext.trans ?_ (by assumption)))) (by assumption) (by omega) (by omega) (s:={AEn false with fItems:=y}) ⟨_,_,_,_,_,_,rfl,(ItL.mono hw1 (by repeat (first|exact Ext.refl _|assumption|refine Ext.trans ?_ (by assumption)))),(RL.nil none 0),RL.nil none 0,RL.nil none 0,RL.nil none 0,RL.nil none 0⟩ (fun z q hz hT' hq I' v' c hI hv hc=>hok z q (by simp [Ic,Res.bind,hz, *]) hT' hq I' v' c (by repeat (first|exact Ext.refl _|assumption|refine Ext.trans ?_ (by assumption))) hv hc) (fun e hz I' v' hI=>herr e (by simp [Ic,Res.bind,hz, *]) I' v' (by repeat (first|exact Ext.refl _|assumption|refine Ext.trans ?_ (by assumption))))
end
section
variable {ω:Om}{b:Nat}
theorem AFu (n:Nat):FnE ω n b 222 Hz:=by
 intro K Pn I L C v l hF h hT hl hok herr;obtain ⟨L1,L2,rfl,rfl⟩:=hF.foc;have hN:FnE ω n b 234 Pe:=QN n;refine AML ?_;unfold sh222;repeat' (first|(with_reducible first|refine Bl (b:=b) ?_|refine keepA ?_|refine AV (fun _=>?_))|((with_reducible refine Ac ?_);with_reducible refine hN.go (by first|assumption|exact TL.mono (by assumption) (by repeat (first|exact Ext.refl _|assumption|refine Ext.trans ?_ (by assumption)))) (by assumption) (by omega) (fun y r' hg hT2 hr2 I' v' a' k' hI' hv' hw'=>?_) (fun e hg I' v' hI'=>?_))|((with_reducible refine Ar ?_);with_reducible refine KQ (by first|assumption|exact TL.mono (by assumption) (by repeat (first|exact Ext.refl _|assumption|refine Ext.trans ?_ (by assumption)))) (by assumption) (fun x hx hT' hl' v' hv'=>?_) (fun hx=>?_))|((with_reducible refine Ar ?_);with_reducible refine Bo _ (by first|assumption|exact TL.mono (by assumption) (by repeat (first|exact Ext.refl _|assumption|refine Ext.trans ?_ (by assumption)))) (by assumption) (fun hb hT' hl' v' hv'=>?_) (fun hb=>?_))|(with_reducible refine Be _ (by first|assumption|exact TL.mono (by assumption) (by repeat (first|exact Ext.refl _|assumption|refine Ext.trans ?_ (by assumption)))) (by assumption) (fun hb hT' hl' I' v' hI' hv'=>?_) (fun hb I' v' hI'=>?_))|((with_reducible refine Ac ?_);with_reducible refine CG (by first|assumption|exact TL.mono (by assumption) (by repeat (first|exact Ext.refl _|assumption|refine Ext.trans ?_ (by assumption)))) (by assumption) (fun hb hT' hl' v' hv'=>?_) (fun hb=>?_))|((with_reducible refine Ac ?_);with_reducible refine Aj (by first|assumption|exact TL.mono (by assumption) (by repeat (first|exact Ext.refl _|assumption|refine Ext.trans ?_ (by assumption)))) (by assumption) ?_)|(with_reducible first|refine CP (by first|assumption|exact RL.nil none 0|exact ExL.k (by assumption)|exact ExL.mono (by assumption) (by repeat (first|exact Ext.refl _|assumption|refine Ext.trans ?_ (by assumption)))|exact ExL.k (ExL.mono (by assumption) (by repeat (first|exact Ext.refl _|assumption|refine Ext.trans ?_ (by assumption))))) (fun I' a hI' hw'=>Gh.done ?_)|refine Bz (by first|assumption|exact RL.nil none 0|exact ExL.k (by assumption)|exact ExL.mono (by assumption) (by repeat (first|exact Ext.refl _|assumption|refine Ext.trans ?_ (by assumption)))|exact ExL.k (ExL.mono (by assumption) (by repeat (first|exact Ext.refl _|assumption|refine Ext.trans ?_ (by assumption))))) (by first|assumption|exact RL.nil none 0|exact ExL.k (by assumption)|exact ExL.mono (by assumption) (by repeat (first|exact Ext.refl _|assumption|refine Ext.trans ?_ (by assumption)))|exact ExL.k (ExL.mono (by assumption) (by repeat (first|exact Ext.refl _|assumption|refine Ext.trans ?_ (by assumption))))) (fun I' a hI' hw'=>Gh.done ?_)|refine CS (by first|assumption|exact RL.nil none 0|exact ExL.k (by assumption)|exact ExL.mono (by assumption) (by repeat (first|exact Ext.refl _|assumption|refine Ext.trans ?_ (by assumption)))|exact ExL.k (ExL.mono (by assumption) (by repeat (first|exact Ext.refl _|assumption|refine Ext.trans ?_ (by assumption))))) (by first|assumption|exact RL.nil none 0|exact ExL.k (by assumption)|exact ExL.mono (by assumption) (by repeat (first|exact Ext.refl _|assumption|refine Ext.trans ?_ (by assumption)))|exact ExL.k (ExL.mono (by assumption) (by repeat (first|exact Ext.refl _|assumption|refine Ext.trans ?_ (by assumption))))) (by first|assumption|exact RL.nil none 0|exact ExL.k (by assumption)|exact ExL.mono (by assumption) (by repeat (first|exact Ext.refl _|assumption|refine Ext.trans ?_ (by assumption)))|exact ExL.k (ExL.mono (by assumption) (by repeat (first|exact Ext.refl _|assumption|refine Ext.trans ?_ (by assumption))))) (fun I' a hI' hw'=>Gh.done ?_))|((with_reducible refine Ar ?_);with_reducible refine BK (by first|assumption|exact RL.nil none 0|exact ExL.k (by assumption)|exact ExL.mono (by assumption) (by repeat (first|exact Ext.refl _|assumption|refine Ext.trans ?_ (by assumption)))|exact ExL.k (ExL.mono (by assumption) (by repeat (first|exact Ext.refl _|assumption|refine Ext.trans ?_ (by assumption))))) ?_)|(with_reducible refine rdb ?_)|((with_reducible first|refine st1 ?_ ?_|refine rdB ?_ ?_);rfl)|(with_reducible refine Ai ?_)|((with_reducible refine Az ?_ ?_);rfl)|((with_reducible refine stB ?_ ?_ ?_ ?_);rfl;rfl;exact AO rfl)|((with_reducible first|refine rdP _ rfl ?_ ?_|refine BB _ rfl ?_ ?_);rfl)|((with_reducible refine stP _ rfl ?_ ?_ ?_ ?_);rfl;rfl;rfl)|(with_reducible first|refine BZ (sh222.eq_1 ..) ?_|refine And.intro ?_ ?_)|(simp only [SSg,Int.reduceBEq,Int.reduceBNe,Int.reduceLT,Int.reduceLE,beq_self_eq_true,bne_self_eq_false])|(with_reducible first|refine AP (fun hb=>?_) (fun hb=>?_)|refine AA (fun hb=>?_) (fun hb=>?_))|(simp only [SSd,Nat.reduceAdd]))
 all_goals first
  |exact Gh.to (L1++(b,PBo v')::L2) (Gh.done (herr _ (by simp [Hz,Res.bind,bad,AY, *] <;> rfl) _ _ (by repeat (first|exact Ext.refl _|assumption|refine Ext.trans ?_ (by assumption)))))
  |exact Gh.to (L1++(b,PBo v')::L2) (Gh.done (hok _ _ (by simp [Hz,Res.bind,bad,AY, *] <;> rfl) (by assumption) (by omega) _ _ _ (by repeat (first|exact Ext.refl _|assumption|refine Ext.trans ?_ (by assumption))) (by first|assumption|exact TL.mono (by assumption) (by repeat (first|exact Ext.refl _|assumption|refine Ext.trans ?_ (by assumption)))) (by first|assumption|exact RL.nil none 0|exact ExL.k (by assumption)|exact ExL.mono (by assumption) (by repeat (first|exact Ext.refl _|assumption|refine Ext.trans ?_ (by assumption)))|exact ExL.k (ExL.mono (by assumption) (by repeat (first|exact Ext.refl _|assumption|refine Ext.trans ?_ (by assumption)))))))
  |exact Gh.to (L1++(b,PBo v')::L2) (Gh.done (hok (exK 4 [y]) _ (by simp [Hz,Res.bind, *] <;> rfl) (by assumption) (by omega) _ _ _ (by repeat (first|exact Ext.refl _|assumption|refine Ext.trans ?_ (by assumption))) (by first|assumption|exact TL.mono (by assumption) (by repeat (first|exact Ext.refl _|assumption|refine Ext.trans ?_ (by assumption)))) (by first|assumption|exact RL.nil none 0|exact ExL.k (by assumption)|exact ExL.mono (by assumption) (by repeat (first|exact Ext.refl _|assumption|refine Ext.trans ?_ (by assumption)))|exact ExL.k (ExL.mono (by assumption) (by repeat (first|exact Ext.refl _|assumption|refine Ext.trans ?_ (by assumption)))))))
def tyK (s:Bs):Option Int:=if s=[116,101,120,116] then some 3 else if s=[98,111,111,108,101,97,110]∨s=[98,111,111,108] then some 2 else if s=[98,105,103,105,110,116]∨s=[105,110,116,101,103,101,114]∨s=[105,110,116] then some 1 else none
theorem AHS:IX (IX (IX (IX (IX (IX (fun _=>none) [105,110,116] (some (.int .i64 1))) [105,110,116,101,103,101,114] (some (.int .i64 1))) [98,105,103,105,110,116] (some (.int .i64 1))) [98,111,111,108] (some (.int .i64 2))) [98,111,111,108,101,97,110] (some (.int .i64 2))) [116,101,120,116] (some (.int .i64 3))=fun k=>(tyK k).map (.int .i64):=by
 funext k
 simp only [IX,tyK];by_cases h1:k=[116,101,120,116]
 ·subst h1;rfl
 by_cases h2:k=[98,111,111,108,101,97,110]
 ·subst h2;rfl
 by_cases h3:k=[98,111,111,108]
 ·subst h3;rfl
 by_cases h4:k=[98,105,103,105,110,116]
 ·subst h4;rfl
 by_cases h5:k=[105,110,116,101,103,101,114]
 ·subst h5;rfl
 by_cases h6:k=[105,110,116]
 ·subst h6;rfl
 simp only [h1,h2,h3,h4,h5,h6,if_false,or_self];rfl
theorem Yi (s:Bs):typeOf s=(tyK s).getD 0:=by
 simp only [typeOf,tyK];by_cases h1:s=[116,101,120,116]
 ·subst h1;rfl
 by_cases h2:s=[98,111,111,108,101,97,110]
 ·subst h2;rfl
 by_cases h3:s=[98,111,111,108]
 ·subst h3;rfl
 by_cases h4:s=[98,105,103,105,110,116]
 ·subst h4;rfl
 by_cases h5:s=[105,110,116,101,103,101,114]
 ·subst h5;rfl
 by_cases h6:s=[105,110,116]
 ·subst h6;rfl
 simp only [h1,h2,h3,h4,h5,h6,if_false,or_self];rfl
def Il (c:TCol)(l:List Tok):Option (Res TCol):=
  if (!c.fNotNull&&isT l [110,111,116])=true then some ((AY [110,117,108,108] l.tail).bind fun _ r=>.ok {c with fNotNull:=true} r) else
  if (!c.fKey&&isT l [112,114,105,109,97,114,121])=true then some ((AY [107,101,121] l.tail).bind fun _ r=>.ok {c with fKey:=true} r) else
  if (!c.fUnique&&isT l [117,110,105,113,117,101])=true then some (.ok {c with fUnique:=true} l.tail) else
  if (c.fDefault.kind==0&&isT l [100,101,102,97,117,108,116])=true then some ((Hz l.tail).bind fun x r=>.ok {c with fDefault:=x} r) else none
theorem VP (m:Nat)(c:TCol)(l:List Tok):Gg (m+1) c l=match Il c l with
  |some g=>g.bind fun c r=>Gg m c r
  |none=>.ok c l:=by
 simp only [Gg,Il];split
 ·simp only [Es];rfl
 split
 ·simp only [Es];rfl
 split
 ·rfl
 split
 ·simp only [Es];rfl
 ·rfl
abbrev colZ:List Value:=[.string ⟨#[]⟩,.int .i64 0,.bool false,.bool false,.bool false,.int .i64 0,.int .i64 0,.bool false,.int .i64 0,.string ⟨#[]⟩,.string ⟨#[]⟩,.string ⟨#[]⟩,.int .i64 0,.int .i64 0,.bool false,.slice none 0 0]
set_option maxHeartbeats 1000000 in
theorem AGG {I:Imm}{X L1 L2:LH}{Kn1:Unit→M}{K Pn:Value→M}{v:Value}{l:List Tok}{b1 bc:Nat}{x:TCol}{c:List Value}(h:TL I v l)(hT:Toks l)(hx:TColV I x c)
  (hnext:∀g y r,Il x l=some g→g= .ok y r→Toks r→r.length+1≤l.length→∀I' v' c',Ext I I'→TL I' v' r→TColV I' y c'→Gh (Kn1 ()) I' (X++((bc,.cells c'.toArray 101 (0,0))::(b1,.cells colZ.toArray 101 (0,0))::(L1++(b,PBo v')::L2))))
  (herr:∀g,Il x l=some g→PEr g Pn (fun o=>L1++(b,o)::L2) I)
  (hend:Il x l=none→Gh (K (.agg c.toArray)) I (L1++(b,PBo v)::L2)):
  sh205_3 ω (AX b) (AX b1) (AX bc) (fun s=>Gh (Kn1 s)) (fun v=>Gh (K v)) (fun v=>Gh (Pn v)) I (X++((bc,.cells c.toArray 101 (0,0))::(b1,.cells colZ.toArray 101 (0,0))::(L1++(b,PBo v)::L2))):=by
 obtain ⟨v0,rfl,h0⟩:=hx;obtain ⟨a0,k0,rfl⟩:=RL.form h0;have hl1:=hT.len;have hG:FnE ω l.length b 222 Hz:=AFu _;unfold sh205_3;repeat' (first|(with_reducible first|refine Bl (b:=b) ?_|refine keepA ?_|refine AV (fun _=>?_))|((with_reducible refine Ac ?_);with_reducible refine hG.go (by first|assumption|exact TL.mono (by assumption) (by repeat (first|exact Ext.refl _|assumption|refine Ext.trans ?_ (by assumption)))) (by assumption) (by omega) (fun y r hg hT2 hr2 I' v' a' k' hI' hv' hw'=>?_) (fun e hg I' v' hI'=>?_))|((with_reducible refine Ar ?_);with_reducible refine Bo _ (by first|assumption|exact TL.mono (by assumption) (by repeat (first|exact Ext.refl _|assumption|refine Ext.trans ?_ (by assumption)))) (by assumption) (fun hb hT' hl' v' hv'=>?_) (fun hb=>?_))|(with_reducible refine Be _ (by first|assumption|exact TL.mono (by assumption) (by repeat (first|exact Ext.refl _|assumption|refine Ext.trans ?_ (by assumption)))) (by assumption) (fun hb hT' hl' I' v' hI' hv'=>?_) (fun hb I' v' hI'=>?_))|((with_reducible refine Ac ?_);with_reducible refine CG (by first|assumption|exact TL.mono (by assumption) (by repeat (first|exact Ext.refl _|assumption|refine Ext.trans ?_ (by assumption)))) (by assumption) (fun hb hT' hl' v' hv'=>?_) (fun hb=>?_))|((with_reducible refine Ac ?_);with_reducible refine Aj (by first|assumption|exact TL.mono (by assumption) (by repeat (first|exact Ext.refl _|assumption|refine Ext.trans ?_ (by assumption)))) (by assumption) ?_)|(with_reducible first|refine CP (by first|assumption|exact RL.nil none 0|exact ExL.k (by assumption)|exact ExL.mono (by assumption) (by repeat (first|exact Ext.refl _|assumption|refine Ext.trans ?_ (by assumption)))|exact ExL.k (ExL.mono (by assumption) (by repeat (first|exact Ext.refl _|assumption|refine Ext.trans ?_ (by assumption))))) (fun I' a hI' hw'=>Gh.done ?_)|refine Bz (by first|assumption|exact RL.nil none 0|exact ExL.k (by assumption)|exact ExL.mono (by assumption) (by repeat (first|exact Ext.refl _|assumption|refine Ext.trans ?_ (by assumption)))|exact ExL.k (ExL.mono (by assumption) (by repeat (first|exact Ext.refl _|assumption|refine Ext.trans ?_ (by assumption))))) (by first|assumption|exact RL.nil none 0|exact ExL.k (by assumption)|exact ExL.mono (by assumption) (by repeat (first|exact Ext.refl _|assumption|refine Ext.trans ?_ (by assumption)))|exact ExL.k (ExL.mono (by assumption) (by repeat (first|exact Ext.refl _|assumption|refine Ext.trans ?_ (by assumption))))) (fun I' a hI' hw'=>Gh.done ?_)|refine CS (by first|assumption|exact RL.nil none 0|exact ExL.k (by assumption)|exact ExL.mono (by assumption) (by repeat (first|exact Ext.refl _|assumption|refine Ext.trans ?_ (by assumption)))|exact ExL.k (ExL.mono (by assumption) (by repeat (first|exact Ext.refl _|assumption|refine Ext.trans ?_ (by assumption))))) (by first|assumption|exact RL.nil none 0|exact ExL.k (by assumption)|exact ExL.mono (by assumption) (by repeat (first|exact Ext.refl _|assumption|refine Ext.trans ?_ (by assumption)))|exact ExL.k (ExL.mono (by assumption) (by repeat (first|exact Ext.refl _|assumption|refine Ext.trans ?_ (by assumption))))) (by first|assumption|exact RL.nil none 0|exact ExL.k (by assumption)|exact ExL.mono (by assumption) (by repeat (first|exact Ext.refl _|assumption|refine Ext.trans ?_ (by assumption)))|exact ExL.k (ExL.mono (by assumption) (by repeat (first|exact Ext.refl _|assumption|refine Ext.trans ?_ (by assumption))))) (fun I' a hI' hw'=>Gh.done ?_))|((with_reducible refine Ar ?_);with_reducible refine BK (by first|assumption|exact RL.nil none 0|exact ExL.k (by assumption)|exact ExL.mono (by assumption) (by repeat (first|exact Ext.refl _|assumption|refine Ext.trans ?_ (by assumption)))|exact ExL.k (ExL.mono (by assumption) (by repeat (first|exact Ext.refl _|assumption|refine Ext.trans ?_ (by assumption))))) ?_)|(with_reducible refine rdb ?_)|((with_reducible first|refine st1 ?_ ?_|refine rdB ?_ ?_);rfl)|(with_reducible refine Ai ?_)|((with_reducible refine Az ?_ ?_);rfl)|((with_reducible refine stB ?_ ?_ ?_ ?_);rfl;rfl;exact AO rfl)|((with_reducible first|refine rdP _ rfl ?_ ?_|refine BB _ rfl ?_ ?_);rfl)|((with_reducible refine stP _ rfl ?_ ?_ ?_ ?_);rfl;rfl;rfl)|(with_reducible first|refine BZ (sh205_4.eq_1 ..) ?_|refine BZ (sh205_8.eq_1 ..) ?_|refine BZ (sh205_10.eq_1 ..) ?_|refine BZ (sh205_12.eq_1 ..) ?_|refine BZ (sh205_13.eq_1 ..) ?_|refine BZ (sh205_11.eq_1 ..) ?_|refine BZ (sh205_9.eq_1 ..) ?_|refine BZ (sh205_7.eq_1 ..) ?_|refine BZ (sh205_3.eq_1 ..) ?_|refine BZ (sh205_2.eq_1 ..) ?_|refine BZ (sh205_1.eq_1 ..) ?_|refine BZ (sh205.eq_1 ..) ?_|refine And.intro ?_ ?_)|(simp only [SSg,Int.reduceBEq,Int.reduceBNe,Int.reduceLT,Int.reduceLE,beq_self_eq_true,bne_self_eq_false])|(with_reducible first|refine AP (fun hb=>?_) (fun hb=>?_)|refine AA (fun hb=>?_) (fun hb=>?_))|(simp only [SSd,Nat.reduceAdd]))
 all_goals first
  |exact Gh.to (L1++(b,PBo v)::L2) (hend (by simp [Il, *]))
  |exact Gh.to (L1++(b,PBo v')::L2) (Gh.done (herr _ (by simp [Il, *] <;> rfl) _ (by simp [Res.bind,bad,AY, *] <;> rfl) _ _ (by repeat (first|exact Ext.refl _|assumption|refine Ext.trans ?_ (by assumption)))))
  |exact hnext _ {x with fNotNull:=true} _ (by simp [Il, *] <;> rfl) (by simp [Res.bind,AY, *] <;> rfl) (by assumption) (by omega) _ _ _ (by repeat (first|exact Ext.refl _|assumption|refine Ext.trans ?_ (by assumption))) (by first|assumption|exact TL.mono (by assumption) (by repeat (first|exact Ext.refl _|assumption|refine Ext.trans ?_ (by assumption)))) ⟨_,rfl,(by first|assumption|exact RL.nil none 0|exact ExL.k (by assumption)|exact ExL.mono (by assumption) (by repeat (first|exact Ext.refl _|assumption|refine Ext.trans ?_ (by assumption)))|exact ExL.k (ExL.mono (by assumption) (by repeat (first|exact Ext.refl _|assumption|refine Ext.trans ?_ (by assumption)))))⟩
  |exact hnext _ {x with fKey:=true} _ (by simp [Il, *] <;> rfl) (by simp [Res.bind,AY, *] <;> rfl) (by assumption) (by omega) _ _ _ (by repeat (first|exact Ext.refl _|assumption|refine Ext.trans ?_ (by assumption))) (by first|assumption|exact TL.mono (by assumption) (by repeat (first|exact Ext.refl _|assumption|refine Ext.trans ?_ (by assumption)))) ⟨_,rfl,(by first|assumption|exact RL.nil none 0|exact ExL.k (by assumption)|exact ExL.mono (by assumption) (by repeat (first|exact Ext.refl _|assumption|refine Ext.trans ?_ (by assumption)))|exact ExL.k (ExL.mono (by assumption) (by repeat (first|exact Ext.refl _|assumption|refine Ext.trans ?_ (by assumption)))))⟩
  |exact hnext _ {x with fUnique:=true} _ (by simp [Il, *] <;> rfl) (by simp [Res.bind,AY, *] <;> rfl) (by assumption) (by omega) _ _ _ (by repeat (first|exact Ext.refl _|assumption|refine Ext.trans ?_ (by assumption))) (by first|assumption|exact TL.mono (by assumption) (by repeat (first|exact Ext.refl _|assumption|refine Ext.trans ?_ (by assumption)))) ⟨_,rfl,(by first|assumption|exact RL.nil none 0|exact ExL.k (by assumption)|exact ExL.mono (by assumption) (by repeat (first|exact Ext.refl _|assumption|refine Ext.trans ?_ (by assumption)))|exact ExL.k (ExL.mono (by assumption) (by repeat (first|exact Ext.refl _|assumption|refine Ext.trans ?_ (by assumption)))))⟩
  |exact hnext _ {x with fDefault:=y} _ (by simp [Il, *] <;> rfl) (by simp [Res.bind,AY, *] <;> rfl) (by assumption) (by omega) _ _ _ (by repeat (first|exact Ext.refl _|assumption|refine Ext.trans ?_ (by assumption))) (by first|assumption|exact TL.mono (by assumption) (by repeat (first|exact Ext.refl _|assumption|refine Ext.trans ?_ (by assumption)))) ⟨_,rfl,(by first|assumption|exact RL.nil none 0|exact ExL.k (by assumption)|exact ExL.mono (by assumption) (by repeat (first|exact Ext.refl _|assumption|refine Ext.trans ?_ (by assumption)))|exact ExL.k (ExL.mono (by assumption) (by repeat (first|exact Ext.refl _|assumption|refine Ext.trans ?_ (by assumption)))))⟩
theorem AAC (n:Nat):FnV ω n b 205 (FQ n) TColV:=by
 intro K Pn I L C v l hF h hT hl hok herr;obtain ⟨L1,L2,rfl,rfl⟩:=hF.foc;refine AMU ?_;unfold sh205;refine AV (fun b1=>?_);refine Ac (CG h hT (fun hn hT1 hl1 v1 hv1=>?_) (fun hn=>Gh.to (L1++(b,PBo v)::L2) (Gh.done (herr (hd l).at' (by simp [FQ,BF,Res.bind,bad,hn]) I v (Ext.refl _)))));obtain ⟨bt,off,h1,h2⟩:=hv1.hd hT1;have two:∀(X:LH) (t:Int) (hty:(if isK l.tail 1 then typeOf (hd l.tail).text else 0)=t) (bc:Nat),sh205_1 ω (AX b) (AX b1) (AX bc) (fun v=>Gh (K v)) (fun v=>Gh (Pn v)) I (X++((bc,.cells #[.string ⟨(hd l).text.toArray⟩,.int .i64 t,.bool false,.bool false,.bool false,.int .i64 0,.int .i64 0,.bool false,.int .i64 0,.string ⟨#[]⟩,.string ⟨#[]⟩,.string ⟨#[]⟩,.int .i64 0,.int .i64 0,.bool false,.slice none 0 0] 101 (0,0))::(b1,.cells colZ.toArray 101 (0,0))::(L1++(b,PBo v1)::L2))):=by
  intro X t hty bc;have hcol:FQ n l=if t=0 then bad l.tail else Gg n ⟨(hd l).text,t,false,false,false,ex0⟩ l.tail.tail:=by
   simp only [FQ,BF,hn,if_true,Res.bind,hty]
  rw [hcol] at hok herr;unfold sh205_1;repeat' (first|(with_reducible first|refine Ag ?_|refine Af ?_|refine Ae ?_|refine keepA ?_|refine AV (fun _=>?_)|refine rdb ?_)|((with_reducible first|refine st1 ?_ ?_|refine rdB ?_ ?_);rfl)|(with_reducible refine Ai ?_)|((with_reducible refine Az ?_ ?_);rfl)|((with_reducible refine stB ?_ ?_ ?_ ?_);rfl;rfl;exact AO rfl)|((with_reducible first|refine rdP _ rfl ?_ ?_|refine BB _ rfl ?_ ?_);rfl)|((with_reducible refine stP _ rfl ?_ ?_ ?_ ?_);rfl;rfl;rfl)|(with_reducible refine And.intro ?_ ?_)|(simp only [SSg,Int.reduceBEq,Int.reduceBNe,Int.reduceLT,Int.reduceLE,beq_self_eq_true,bne_self_eq_false])|(with_reducible first|refine AP (fun _=>?_) (fun _=>?_)|refine AA (fun _=>?_) (fun _=>?_))|(simp only [SSd,Nat.reduceAdd]))
  ·rename_i h0
   have h0:t=0:=by simpa using h0
   refine Ac (Aj hv1 hT1 ?_);exact Gh.to (L1++(b,PBo v1)::L2) (Gh.done (herr _ (by rw [if_pos h0];rfl) I v1 (Ext.refl _)))
  rename_i h0
  have h0:t≠0:=by simpa using h0
  rw [if_neg h0] at hok herr;have hk1:isK l.tail 1=true:=by
   cases hk:isK l.tail 1 with
   |true=>rfl
   |false=>rw [hk] at hty;exact absurd hty.symm h0
  have hT2:=hT1.tailK hk1;have hl2:=hT1.len;unfold sh205_2;refine Ar (Gt hv1 hT1 (fun v2 hv2=>?_));refine loop (fun m s I2 Lx=>∃x c v2 l2 f,l2.length=m∧Ext I I2∧Lx=X++((bc,Obj.cells (c:List Value).toArray 101 (0,0))::(b1,.cells colZ.toArray 101 (0,0))::(L1++(b,PBo v2)::L2))∧TColV I2 x c∧TL I2 v2 l2∧Toks l2∧l2.length≤f∧l2.length≤l.length∧Gg n ⟨(hd l).text,t,false,false,false,ex0⟩ l.tail.tail=Gg f x l2) l.tail.tail.length
   ⟨⟨(hd l).text,t,false,false,false,ex0⟩,_,v2,l.tail.tail,n,rfl,Ext.refl _,rfl,⟨_,rfl,RL.nil none 0⟩,hv2,hT2,by omega,by omega,rfl⟩ ?_
  rintro m s I2 Lx ⟨x,c,v2,l2,f,rfl,hI2,rfl,hx,hTL2,hT2,hf,hlen,hm⟩;have hl2:=hT2.len;obtain ⟨f,rfl⟩:∃k,f=k+1:=⟨f - 1,by omega⟩;rw [VP] at hm;refine AGG hTL2 hT2 hx (fun g y r hn hg hT3 hr3 I3 v3 c3 hI3 hTL3 hc3=>?_) (fun g hn e hg I3 v3 hI3=>?_) (fun hn=>?_)
  ·exact Gh.done ⟨r.length,by omega,y,c3,v3,r,f,rfl,Ext.trans hI2 hI3,rfl,hc3,hTL3,hT3,by omega,by omega,by rw [hm,hn];simp only [hg,Res.bind]⟩
  ·exact herr e (by rw [hm,hn];simp only [hg,Res.bind]) I3 v3 (Ext.trans hI2 hI3)
  ·exact Gh.done (hok x l2 (by rw [hm,hn]) hT2 hlen I2 v2 c hI2 hTL2 hx)
 repeat' (first|(with_reducible first|refine Ag ?_|refine Af ?_|refine Ae ?_|refine keepA ?_|refine AV (fun _=>?_))|((with_reducible refine rd1 (v:=.int .i64 (hd l.tail).kind) ?_ ?_);exact (h2 _ [] (Ext.refl _) 0 _ rfl).mono (Ext.refl _) (fun _ h=>by cases h))|(with_reducible refine rdb ?_)|((with_reducible first|refine st1 ?_ ?_|refine rdB ?_ ?_);rfl)|(with_reducible refine Ai ?_)|((with_reducible refine Az ?_ ?_);rfl)|((with_reducible refine stB ?_ ?_ ?_ ?_);rfl;rfl;exact AO rfl)|((with_reducible first|refine rdP _ rfl ?_ ?_|refine BB _ rfl ?_ ?_);rfl)|((with_reducible refine stP _ rfl ?_ ?_ ?_ ?_);rfl;rfl;rfl)|(with_reducible refine And.intro ?_ ?_)|(simp only [SSg,Int.reduceBEq,Int.reduceBNe,Int.reduceLT,Int.reduceLE,beq_self_eq_true,bne_self_eq_false])|(with_reducible first|refine AP (fun _=>?_) (fun _=>?_)|refine AA (fun _=>?_) (fun _=>?_))|(simp only [SSd,Nat.reduceAdd,h1]))
 ·rename_i hk
  have hk:isK l.tail 1=true:=by simpa [isK] using hk
  refine AFe (fun bm=>?_);obtain ⟨es1,c1,e1,p1⟩:=MapS.empty.put [105,110,116] (.int .i64 1);obtain ⟨es2,c2,e2,p2⟩:=p1.put [105,110,116,101,103,101,114] (.int .i64 1);obtain ⟨es3,c3,e3,p3⟩:=p2.put [98,105,103,105,110,116] (.int .i64 1);obtain ⟨es4,c4,e4,p4⟩:=p3.put [98,111,111,108] (.int .i64 2);obtain ⟨es5,c5,e5,p5⟩:=p4.put [98,111,111,108,101,97,110] (.int .i64 2);obtain ⟨es6,c6,e6,p6⟩:=p5.put [116,101,120,116] (.int .i64 3);rw [AHS] at p6;refine Gh.done (MF (k:=[105,110,116]) MapS.empty e1 ?_);refine Gh.done (MF (k:=[105,110,116,101,103,101,114]) p1 e2 ?_);refine Gh.done (MF (k:=[98,105,103,105,110,116]) p2 e3 ?_);refine Gh.done (MF (k:=[98,111,111,108]) p3 e4 ?_);refine Gh.done (MF (k:=[98,111,111,108,101,97,110]) p4 e5 ?_);refine Gh.done (MF (k:=[116,101,120,116]) p5 e6 ?_);refine Gh.done ?_;refine rdb ?_;simp only [h1,SSd,Nat.reduceAdd];refine rd1 (v:=.string ⟨(hd l.tail).text.toArray⟩) ((h2 _ [] (Ext.refl _) 2 _ rfl).mono (Ext.refl _) (fun _ h=>by cases h)) ?_;refine lkm (k:=(hd l.tail).text) p6 ?_;have hty:(if isK l.tail 1 then typeOf (hd l.tail).text else 0)=typeOf (hd l.tail).text:=by rw [hk];rfl
  have hlk:lkV (.int .i64 0) false ((fun k=>(tyK k).map (.int .i64)) (hd l.tail).text)= .int .i64 (typeOf (hd l.tail).text):=by
   rw [Yi];show lkV _ _ (Option.map _ (tyK (hd l.tail).text))=_;cases tyK (hd l.tail).text <;> rfl
  simp only at hlk
  rw [hlk];repeat' (first|(with_reducible first|refine Ag ?_|refine Af ?_|refine Ae ?_|refine keepA ?_|refine AV (fun _=>?_)|refine rdb ?_)|((with_reducible first|refine st1 ?_ ?_|refine rdB ?_ ?_);rfl)|(with_reducible refine Ai ?_)|((with_reducible refine Az ?_ ?_);rfl)|((with_reducible refine stB ?_ ?_ ?_ ?_);rfl;rfl;exact AO rfl)|((with_reducible first|refine rdP _ rfl ?_ ?_|refine BB _ rfl ?_ ?_);rfl)|((with_reducible refine stP _ rfl ?_ ?_ ?_ ?_);rfl;rfl;rfl)|(with_reducible refine And.intro ?_ ?_)|(simp only [SSg,Int.reduceBEq,Int.reduceBNe,Int.reduceLT,Int.reduceLE,beq_self_eq_true,bne_self_eq_false])|(with_reducible first|refine AP (fun _=>?_) (fun _=>?_)|refine AA (fun _=>?_) (fun _=>?_))|(simp only [SSd,Nat.reduceAdd]))
  exact two [_] _ hty _
 ·rename_i hk
  have hk:isK l.tail 1=false:=by simpa [isK] using hk
  exact two [] 0 (by rw [hk];rfl) _
end
abbrev stZ:List Value:=[.int .i64 0,.bool false,.slice none 0 0,.slice none 0 0,.int .i64 0,.int .i64 0,.bool false,.int .i64 0,.string ⟨#[]⟩,.string ⟨#[]⟩,.string ⟨#[]⟩,.int .i64 0,.int .i64 0,.bool false,.slice none 0 0,.slice none 0 0,.int .i64 0,.int .i64 0,.bool false,.int .i64 0,.string ⟨#[]⟩,.string ⟨#[]⟩,.string ⟨#[]⟩,.int .i64 0,.int .i64 0,.bool false,.slice none 0 0,.slice none 0 0,.int .i64 0,.int .i64 0,.string ⟨#[]⟩,.slice none 0 0,.slice none 0 0,.slice none 0 0,.int .i64 0,.int .i64 0,.bool false,.int .i64 0,.string ⟨#[]⟩,.string ⟨#[]⟩,.string ⟨#[]⟩,.int .i64 0,.int .i64 0,.bool false,.slice none 0 0,.slice none 0 0,.slice none 0 0,.string ⟨#[]⟩,.string ⟨#[]⟩,.slice none 0 0,.bool false]
abbrev VA (nm:Bs)(w wk:Value):List Value:=[.int .i64 5,.bool false,.slice none 0 0,.slice none 0 0,.int .i64 0,.int .i64 0,.bool false,.int .i64 0,.string ⟨#[]⟩,.string ⟨#[]⟩,.string ⟨#[]⟩,.int .i64 0,.int .i64 0,.bool false,.slice none 0 0,.slice none 0 0,.int .i64 0,.int .i64 0,.bool false,.int .i64 0,.string ⟨#[]⟩,.string ⟨#[]⟩,.string ⟨#[]⟩,.int .i64 0,.int .i64 0,.bool false,.slice none 0 0,.slice none 0 0,.int .i64 0,.int .i64 0,.string ⟨nm.toArray⟩,.slice none 0 0,.slice none 0 0,.slice none 0 0,.int .i64 0,.int .i64 0,.bool false,.int .i64 0,.string ⟨#[]⟩,.string ⟨#[]⟩,.string ⟨#[]⟩,.int .i64 0,.int .i64 0,.bool false,.slice none 0 0,w,wk,.string ⟨#[]⟩,.string ⟨#[]⟩,.slice none 0 0,.bool false]
def MH (w:Value)(n:Nat):Prop:=(n=0∧w= .slice none 0 0)∨(0 < n∧∃p k,w= .slice (some p) n k)
theorem SlO.nn {T n len:Nat}{X:LH}{v:Value}{cells:List Value}(h:SlO T n X v cells len)(h0:0 < len):MH v len:=by
 obtain ⟨_,h8⟩:=h;rcases h8 with ⟨_,h1,_⟩|⟨b8,k8,_,_,h8,_⟩
 ·omega
 ·exact .inr ⟨h0,_,_,h8⟩
theorem RL.nn {α:Type}{R:Imm→α→List Value→Prop}{n:Nat}{I:Imm}{v:Value}{xs:List α}(hn:0 < n)(h:RL R n I [] v xs)(h0:0 < xs.length):MH v xs.length:=by
 obtain ⟨cells,⟨_,a,cap,rfl,_,h⟩,_⟩:=RL.toI hn h;obtain ⟨b,off,cs,T,fr,ha,_⟩:=h (by omega);exact .inr ⟨h0,⟨b,off,none⟩,cap,by rw [ha]⟩
theorem Yp {α:Type}{n:Nat}{g:Pr α}{l r:List Tok}{x:List α}(h:BV n g l= .ok x r):0 < x.length:=by
 have go:∀m (acc:List α) l x r,CY g m acc l= .ok x r→acc.length≤x.length:=by
  intro m;induction m with
  |zero=>intro acc l x r h;simp only [CY,Res.ok.injEq] at h;obtain ⟨rfl,_⟩:=h;exact Nat.le_refl _
  |succ m ih=>
   intro acc l x r h;simp only [CY] at h;split at h
   ·cases hg:g l.tail with
    |ok y r2=>rw [hg] at h;have:=ih _ _ _ _ h;simp at this;omega
    |err e=>rw [hg] at h;simp [Res.bind] at h
   ·simp only [Res.ok.injEq] at h;obtain ⟨rfl,_⟩:=h;exact Nat.le_refl _
 simp only [BV] at h;cases hg:g l with
 |ok y r2=>rw [hg] at h;have:=go _ _ _ _ _ h;simp at this;omega
 |err e=>rw [hg] at h;simp [Res.bind] at h
theorem Yd {α:Type}{n:Nat}{g:Pr α}{l r:List Tok}{x:List α}(h:CE n g l= .ok x r):0 < x.length:=by
 simp only [CE] at h;cases h1:AY [40] l with
 |err e=>rw [h1] at h;simp [Res.bind] at h
 |ok _ r1=>
  rw [h1] at h;simp only [Res.bind] at h;cases h2:BV n g r1 with
  |err e=>rw [h2] at h;simp at h
  |ok y r2=>
   rw [h2] at h;simp only at h;cases h3:AY [41] r2 with
   |err e=>rw [h3] at h;simp at h
   |ok _ r3=>rw [h3] at h;simp only [Res.ok.injEq] at h;obtain ⟨rfl,_⟩:=h;exact Yp h2
def SA (nm:Bs)(x:List TCol×List Bs)(r:List Tok):Res TStmt:=if x.1.isEmpty then bad r else (AY [41] r).bind fun _ r=>.ok {(default:TStmt) with fKind:=5,fTable:=nm,fCols:=x.1,fKey:=x.2} r
theorem Yk (n:Nat)(l:List Tok):Ql n l=(BF l).bind fun s r=>(AY [40] r).bind fun _ r=>(FZ n (n+1) [] [] r).bind (SA s):=rfl
def JW (n:Nat)(cs:List TCol)(ks:List Bs)(l:List Tok):Res (List TCol×List Bs):=
 if (ks.isEmpty&&isT l [112,114,105,109,97,114,121])=true then (AY [107,101,121] l.tail).bind fun _ r=>(CE n BF r).bind fun k r=>.ok (cs,k) r else (FQ n l).bind fun c r=>Res.ok (cs++[c],ks) r
theorem Nv (n m:Nat)(cs:List TCol)(ks:List Bs)(l:List Tok):FZ n (m+1) cs ks l=(JW n cs ks l).bind fun x r=>if isT r [44] then FZ n m x.1 x.2 r.tail else .ok x r:=rfl
theorem APt {I:Imm}{L:LH}{K:Value→M}{x:TCol}{c:List Value}(hc:TColV I x c)(hk:∀I' a,Ext I I'→RL TColV 16 I' [] (.slice a 1 1) [x]→Gh (K (.slice a 1 1)) I' L):
  Ad 101 16 #[.string ⟨#[]⟩,.int .i64 0,.bool false,.bool false,.bool false,.int .i64 0,.int .i64 0,.bool false,.int .i64 0,.string ⟨#[]⟩,.string ⟨#[]⟩,.string ⟨#[]⟩,.int .i64 0,.int .i64 0,.bool false,.slice none 0 0] 1 [(0,.agg c.toArray)] (gh K) I L:=
 Du (R:=TColV) [x] [c] rfl rfl rfl (by simpa using hc.len) (by simpa using hc) (fun hI h=>TColV.mono h hI) hk
section
variable {ω:Om}{b:Nat}
theorem OZ (n:Nat)(hn0:n≤1000000000){I:Imm}{L:LH}{K Pn:Value→M}{C:Obj→LH}{v:Value}{l:List Tok}[hF:Foc b L (PBo v) C](h:TL I v l)(hT:Toks l)(hl:l.length≤n)
  (hok:∀x r,CE n BF l= .ok x r→Toks r→r.length≤l.length→∀I' v' a k,Ext I I'→TL I' v' r→StL I' (.slice (some a) x.length k) x→0 < x.length→K (.slice (some a) x.length k) I' (C (PBo v'))) (herr:PEr (CE n BF l) Pn C I):CalP Tryz.prog ω 97 #[AX b] K Pn I L:=
 VT n hn0 h hT hl (fun x r hg hT' hr I' v' w hI hv' hw=>by
  have hpos:=Yd hg;rcases RL.nn (by decide) hw.1 hpos with ⟨h0,_⟩|⟨_,p,k,rfl⟩
  ·omega
  ·exact hok x r hg hT' hr I' v' p k hI hv' hw.1 hpos) herr
theorem APj {I:Imm}{X L1 L2:LH}{Kn1:Unit→M}{K Pn:Value→M}{v w wk:Value}{l:List Tok}{b1 bs N0:Nat}{nm:Bs}{cs:List TCol}{ks:List Bs}{cells:List Value}(h:TL I v l)(hT:Toks l)(hN:l.length≤N0)
  (hX:SlO 101 16 X w cells cs.length) (hR:Recs (TColV I) 16 cs cells) (hw:MH w cs.length) (hk:StL I wk ks) (hkn:MH wk ks.length)
  (hnext:isT l [44]=true→∀v,TL I v l.tail→Gh (Kn1 ()) I (X++((bs,.cells (VA nm w wk).toArray 48 (0,0))::(b1,.cells stZ.toArray 48 (0,0))::(L1++(b,PBo v)::L2))))
  (hok:isT l [44]=false→VOk TStmtV (SA nm (cs,ks) l) N0 K (fun o=>L1++(b,o)::L2) I) (herr:isT l [44]=false→PEr (SA nm (cs,ks) l) Pn (fun o=>L1++(b,o)::L2) I):
  Jz ω (AX b) (AX b1) (AX bs) (fun s=>Gh (Kn1 s)) (fun v=>Gh (K v)) (fun v=>Gh (Pn v)) I (X++((bs,.cells (VA nm w wk).toArray 48 (0,0))::(b1,.cells stZ.toArray 48 (0,0))::(L1++(b,PBo v)::L2))):=by
 unfold Jz;refine Ar (Bo [44] h hT (fun hb hT' hl' v' hv'=>?_) (fun hb=>?_))
 ·repeat' (first|(with_reducible first|refine Ag ?_|refine Af ?_|refine Ae ?_|refine keepA ?_|refine AV (fun _=>?_)|refine rdb ?_)|((with_reducible first|refine st1 ?_ ?_|refine rdB ?_ ?_);rfl)|(with_reducible refine Ai ?_)|((with_reducible refine Az ?_ ?_);rfl)|((with_reducible refine stB ?_ ?_ ?_ ?_);rfl;rfl;exact AO rfl)|((with_reducible first|refine rdP _ rfl ?_ ?_|refine BB _ rfl ?_ ?_);rfl)|((with_reducible refine stP _ rfl ?_ ?_ ?_ ?_);rfl;rfl;rfl)|(with_reducible refine And.intro ?_ ?_)|(simp only [SSg,Int.reduceBEq,Int.reduceBNe,Int.reduceLT,Int.reduceLE,beq_self_eq_true,bne_self_eq_false])|(with_reducible first|refine AP (fun _=>?_) (fun _=>?_)|refine AA (fun _=>?_) (fun _=>?_))|(simp only [SSd,Nat.reduceAdd]))
  exact hnext hb v' hv'
 have hok:=hok hb;have herr:=herr hb;have hl1:=hT.len;rcases hw with ⟨h0,rfl⟩|⟨h0,p,kc,rfl⟩
 ·have hcs:cs=[]:=List.eq_nil_of_length_eq_zero h0;subst hcs;repeat' (first|(with_reducible first|refine Ag ?_|refine Af ?_|refine Ae ?_|refine keepA ?_|refine AV (fun _=>?_)|refine rdb ?_)|((with_reducible first|refine st1 ?_ ?_|refine rdB ?_ ?_);rfl)|(with_reducible refine Ai ?_)|((with_reducible refine Az ?_ ?_);rfl)|((with_reducible refine stB ?_ ?_ ?_ ?_);rfl;rfl;exact AO rfl)|((with_reducible first|refine rdP _ rfl ?_ ?_|refine BB _ rfl ?_ ?_);rfl)|((with_reducible refine stP _ rfl ?_ ?_ ?_ ?_);rfl;rfl;rfl)|(with_reducible first|refine BZ (sh157_5.eq_1 ..) ?_|refine And.intro ?_ ?_)|(simp only [SSg,Int.reduceBEq,Int.reduceBNe,Int.reduceLT,Int.reduceLE,beq_self_eq_true,bne_self_eq_false])|(with_reducible first|refine AP (fun _=>?_) (fun _=>?_)|refine AA (fun _=>?_) (fun _=>?_))|(simp only [SSd,Nat.reduceAdd]))
  refine Ac (Aj h hT ?_);exact Gh.to (L1++(b,PBo v)::L2) (Gh.done (herr _ rfl I v (Ext.refl _)))
 ·have hce:cs.isEmpty=false:=by cases cs with
   |nil=>simp at h0
   |cons=>rfl
  obtain ⟨ak,kk,rfl⟩:=RL.form hk;repeat' (first|(with_reducible first|refine Bl (b:=b) ?_|refine keepA ?_|refine AV (fun _=>?_))|((with_reducible refine Ar ?_);with_reducible refine Bo _ (by first|assumption|exact TL.mono (by assumption) (by repeat (first|exact Ext.refl _|assumption|refine Ext.trans ?_ (by assumption)))) (by assumption) (fun hb hT' hl' v' hv'=>?_) (fun hb=>?_))|(with_reducible refine Be _ (by first|assumption|exact TL.mono (by assumption) (by repeat (first|exact Ext.refl _|assumption|refine Ext.trans ?_ (by assumption)))) (by assumption) (fun hb hT' hl' I' v' hI' hv'=>?_) (fun hb I' v' hI'=>?_))|((with_reducible refine Ac ?_);with_reducible refine CG (by first|assumption|exact TL.mono (by assumption) (by repeat (first|exact Ext.refl _|assumption|refine Ext.trans ?_ (by assumption)))) (by assumption) (fun hb hT' hl' v' hv'=>?_) (fun hb=>?_))|((with_reducible refine Ac ?_);with_reducible refine Aj (by first|assumption|exact TL.mono (by assumption) (by repeat (first|exact Ext.refl _|assumption|refine Ext.trans ?_ (by assumption)))) (by assumption) ?_)|(with_reducible first|refine CP (by first|assumption|exact RL.nil none 0|exact ExL.k (by assumption)|exact ExL.mono (by assumption) (by repeat (first|exact Ext.refl _|assumption|refine Ext.trans ?_ (by assumption)))|exact ExL.k (ExL.mono (by assumption) (by repeat (first|exact Ext.refl _|assumption|refine Ext.trans ?_ (by assumption))))) (fun I' a hI' hw'=>Gh.done ?_)|refine Bz (by first|assumption|exact RL.nil none 0|exact ExL.k (by assumption)|exact ExL.mono (by assumption) (by repeat (first|exact Ext.refl _|assumption|refine Ext.trans ?_ (by assumption)))|exact ExL.k (ExL.mono (by assumption) (by repeat (first|exact Ext.refl _|assumption|refine Ext.trans ?_ (by assumption))))) (by first|assumption|exact RL.nil none 0|exact ExL.k (by assumption)|exact ExL.mono (by assumption) (by repeat (first|exact Ext.refl _|assumption|refine Ext.trans ?_ (by assumption)))|exact ExL.k (ExL.mono (by assumption) (by repeat (first|exact Ext.refl _|assumption|refine Ext.trans ?_ (by assumption))))) (fun I' a hI' hw'=>Gh.done ?_)|refine CS (by first|assumption|exact RL.nil none 0|exact ExL.k (by assumption)|exact ExL.mono (by assumption) (by repeat (first|exact Ext.refl _|assumption|refine Ext.trans ?_ (by assumption)))|exact ExL.k (ExL.mono (by assumption) (by repeat (first|exact Ext.refl _|assumption|refine Ext.trans ?_ (by assumption))))) (by first|assumption|exact RL.nil none 0|exact ExL.k (by assumption)|exact ExL.mono (by assumption) (by repeat (first|exact Ext.refl _|assumption|refine Ext.trans ?_ (by assumption)))|exact ExL.k (ExL.mono (by assumption) (by repeat (first|exact Ext.refl _|assumption|refine Ext.trans ?_ (by assumption))))) (by first|assumption|exact RL.nil none 0|exact ExL.k (by assumption)|exact ExL.mono (by assumption) (by repeat (first|exact Ext.refl _|assumption|refine Ext.trans ?_ (by assumption)))|exact ExL.k (ExL.mono (by assumption) (by repeat (first|exact Ext.refl _|assumption|refine Ext.trans ?_ (by assumption))))) (fun I' a hI' hw'=>Gh.done ?_))|((with_reducible refine Ar ?_);with_reducible refine BK (by first|assumption|exact RL.nil none 0|exact ExL.k (by assumption)|exact ExL.mono (by assumption) (by repeat (first|exact Ext.refl _|assumption|refine Ext.trans ?_ (by assumption)))|exact ExL.k (ExL.mono (by assumption) (by repeat (first|exact Ext.refl _|assumption|refine Ext.trans ?_ (by assumption))))) ?_)|(with_reducible refine rdb ?_)|((with_reducible first|refine st1 ?_ ?_|refine rdB ?_ ?_);rfl)|(with_reducible refine Ai ?_)|((with_reducible refine Az ?_ ?_);rfl)|((with_reducible refine stB ?_ ?_ ?_ ?_);rfl;rfl;exact AO rfl)|((with_reducible first|refine rdP _ rfl ?_ ?_|refine BB _ rfl ?_ ?_);rfl)|((with_reducible refine stP _ rfl ?_ ?_ ?_ ?_);rfl;rfl;rfl)|(with_reducible first|refine BZ (sh157_5.eq_1 ..) ?_|refine BZ (sh157_6.eq_1 ..) ?_|refine And.intro ?_ ?_)|(simp only [SSg,Int.reduceBEq,Int.reduceBNe,Int.reduceLT,Int.reduceLE,beq_self_eq_true,bne_self_eq_false])|(with_reducible first|refine AP (fun hb=>?_) (fun hb=>?_)|refine AA (fun hb=>?_) (fun hb=>?_))|(simp only [SSd,Nat.reduceAdd]))
  ·refine Gh.to (X++(L1++(b,PBo v')::L2)) ?_;refine RL.ofO (R:=TColV) (fun {I I' x c} h hI=>TColV.mono h hI) hX (Recs.imp (fun _ _ h=>TColV.mono h (by repeat (first|exact Ext.refl _|assumption|refine Ext.trans ?_ (by assumption)))) hR) (fun I3 hI3 hw=>Gh.done ?_);exact hok {(default:TStmt) with fKind:=5,fTable:=nm,fCols:=cs,fKey:=ks} _ (by simp [SA,hce,AY,hb,Res.bind] <;> rfl) (by assumption) (by omega) I3 _ _ (by repeat (first|exact Ext.refl _|assumption|refine Ext.trans ?_ (by assumption))) (by first|assumption|exact TL.mono (by assumption) (by repeat (first|exact Ext.refl _|assumption|refine Ext.trans ?_ (by assumption)))) ⟨_,_,_,_,_,_,_,_,_,_,_,_,_,rfl,RL.nil none 0,RL.nil none 0,RL.nil none 0,RL.nil none 0,RL.nil none 0,RL.nil none 0,RL.nil none 0,RL.nil none 0,RL.nil none 0,RL.nil none 0,hw,(StL.mono hk (by repeat (first|exact Ext.refl _|assumption|refine Ext.trans ?_ (by assumption)))),RL.nil none 0⟩
  ·exact Gh.to (L1++(b,PBo v')::L2) (Gh.done (herr _ (by simp [SA,hce,AY,hb,Res.bind,bad]) I' v' (by repeat (first|exact Ext.refl _|assumption|refine Ext.trans ?_ (by assumption)))))
theorem AAV (n:Nat)(hn0:n≤1000000000){I:Imm}{X L1 L2:LH}{Kn1:Unit→M}{K Pn:Value→M}{v w wk:Value}{l:List Tok}{b1 bs N0:Nat}{nm:Bs}{cs:List TCol}{ks:List Bs}{cells:List Value}(h:TL I v l)(hT:Toks l)(hl:l.length≤n)(hN:l.length≤N0)
  (hX:SlO 101 16 X w cells cs.length) (hR:Recs (TColV I) 16 cs cells) (hcs:cs.length≤1000000001) (hw:MH w cs.length) (hk:StL I wk ks) (hkn:MH wk ks.length)
  (hnext:∀cs' ks' r,JW n cs ks l= .ok (cs',ks') r→isT r [44]=true→Toks r.tail→r.tail.length+1≤l.length→cs'.length≤cs.length+1→∀I' X v w wk cells,Ext I I'→TL I' v r.tail→SlO 101 16 X w cells cs'.length→Recs (TColV I') 16 cs' cells→MH w cs'.length→StL I' wk ks'→MH wk ks'.length→Gh (Kn1 ()) I' (X++((bs,.cells (VA nm w wk).toArray 48 (0,0))::(b1,.cells stZ.toArray 48 (0,0))::(L1++(b,PBo v)::L2))))
  (hok:∀x r,JW n cs ks l= .ok x r→isT r [44]=false→VOk TStmtV (SA nm x r) N0 K (fun o=>L1++(b,o)::L2) I) (herr:PEr ((JW n cs ks l).bind fun x r=>if isT r [44] then .ok default [] else SA nm x r) Pn (fun o=>L1++(b,o)::L2) I):
  Qz ω (AX b) (AX b1) (AX bs) (fun s=>Gh (Kn1 s)) (fun v=>Gh (K v)) (fun v=>Gh (Pn v)) I (X++((bs,.cells (VA nm w wk).toArray 48 (0,0))::(b1,.cells stZ.toArray 48 (0,0))::(L1++(b,PBo v)::L2))):=by
 have hl1:=hT.len;unfold Qz;have hcol:=AAC (ω:=ω) (b:=b) n;have ext:∀{I':Imm} {v' wk':Value} {l':List Tok} {ks':List Bs} {X':LH} {w':Value} {cells':List Value} {cs':List TCol},Ext I I'→TL I' v' l'→Toks l'→l'.length≤l.length→JW n cs ks l= .ok (cs',ks') l'→cs'.length≤cs.length+1→SlO 101 16 X' w' cells' cs'.length→Recs (TColV I') 16 cs' cells'→MH w' cs'.length→StL I' wk' ks'→MH wk' ks'.length→
   Jz ω (AX b) (AX b1) (AX bs) (fun s=>Gh (Kn1 s)) (fun v=>Gh (K v)) (fun v=>Gh (Pn v)) I' (X'++((bs,.cells (VA nm w' wk').toArray 48 (0,0))::(b1,.cells stZ.toArray 48 (0,0))::(L1++(b,PBo v')::L2))):=by
  intro I' v' wk' l' ks' X' w' cells' cs' hI' hTL' hT' hl' hg hcl hX' hR' hw' hk' hkn';refine APj (N0:=N0) hTL' hT' (by omega) hX' hR' hw' hk' hkn' (fun hb v2 hv2=>?_) (fun hb x r hx hTr hr I2 v2 c hI2 hv2 hc=>?_) (fun hb e hx I2 v2 hI2=>?_)
  ·exact hnext _ _ _ hg hb (hT'.tailT hb) (by have:=hT'.len;omega) hcl I' _ _ _ _ _ hI' hv2 hX' hR' hw' hk' hkn'
  ·exact hok _ _ hg hb x r hx hTr hr I2 v2 c (Ext.trans hI' hI2) hv2 hc
  ·exact herr e (by rw [hg];simp [Res.bind,hb,hx]) I2 v2 (Ext.trans hI' hI2)
 have col:ks.isEmpty=false∨isT l [112,114,105,109,97,114,121]=false→Mc ω (AX b) (AX b1) (AX bs) (fun s=>Gh (Kn1 s)) (fun v=>Gh (K v)) (fun v=>Gh (Pn v)) I (X++((bs,.cells (VA nm w wk).toArray 48 (0,0))::(b1,.cells stZ.toArray 48 (0,0))::(L1++(b,PBo v)::L2))):=by
  intro hcase;have hnx:JW n cs ks l=(FQ n l).bind fun c r=>Res.ok (cs++[c],ks) r:=by
   rcases hcase with hc|hc <;> simp [JW,hc]
  unfold Mc;refine Bl (b:=b) ?_;try simp only [SSd,Nat.reduceAdd]
  refine Ai ?_;refine Ac (hcol.go h hT hl (fun x r hg hT3 hr I3 v3 c hI3 hv3 hc=>?_) (fun e hg I3 v3 hI3=>Gh.to (L1++(b,PBo v3)::L2) (Gh.done (herr e (by rw [hnx];simp [Res.bind,hg]) I3 v3 hI3))));refine Bj hI3 ?_;refine APt hc (fun I4 a4 hI4 hw4=>Gh.done ?_);refine Bj (Ext.trans hI3 hI4) ?_;obtain ⟨c4,s4,r4⟩:=RL.toI (by decide) hw4;refine DJ (X:=X) rfl hX s4.news (r4.one_cells fun x c h=>TColV.one h) (by simp only [List.length_cons,List.length_nil];omega) (by simp only [List.length_cons,List.length_nil];omega) (fun X5 w5 hX5=>?_);have e5:cs.length+[x].length=(cs++[x]).length:=by simp
  rw [e5] at hX5;have hR5:=Recs.append (Recs.imp (R':=TColV I4) (fun _ _ h=>TColV.mono h (Ext.trans hI3 hI4)) hR) r4;have hn5:=SlO.nn hX5 (by simp);obtain ⟨a5,k5,rfl⟩:=hX5.form;repeat' (first|(with_reducible first|refine Ag ?_|refine Af ?_|refine Ae ?_|refine keepA ?_|refine AV (fun _=>?_)|refine rdb ?_)|((with_reducible first|refine st1 ?_ ?_|refine rdB ?_ ?_);rfl)|(with_reducible refine Ai ?_)|((with_reducible refine Az ?_ ?_);rfl)|((with_reducible refine stB ?_ ?_ ?_ ?_);rfl;rfl;exact AO rfl)|((with_reducible first|refine rdP _ rfl ?_ ?_|refine BB _ rfl ?_ ?_);rfl)|((with_reducible refine stP _ rfl ?_ ?_ ?_ ?_);rfl;rfl;rfl)|(with_reducible refine And.intro ?_ ?_)|(simp only [SSg,Int.reduceBEq,Int.reduceBNe,Int.reduceLT,Int.reduceLE,beq_self_eq_true,bne_self_eq_false])|(with_reducible first|refine AP (fun _=>?_) (fun _=>?_)|refine AA (fun _=>?_) (fun _=>?_))|(simp only [SSd,Nat.reduceAdd]))
  exact ext (Ext.trans hI3 hI4) (hv3.mono hI4) hT3 hr (by rw [hnx];simp [Res.bind,hg]) (by simp) hX5 hR5 hn5 (hk.mono (Ext.trans hI3 hI4)) hkn
 rcases hkn with ⟨h0,rfl⟩|⟨h0,p,kc,rfl⟩
 ·have hks:ks=[]:=List.eq_nil_of_length_eq_zero h0;subst hks;have hw3:=hw;rcases hw3 with ⟨_,hw3⟩|⟨_,pw,kw,hw3⟩ <;> subst hw3
  all_goals repeat' (first|(with_reducible first|refine Bl (b:=b) ?_|refine keepA ?_|refine AV (fun _=>?_))|((with_reducible refine Ac ?_);with_reducible refine OZ n hn0 (by first|assumption|exact TL.mono (by assumption) (by repeat (first|exact Ext.refl _|assumption|refine Ext.trans ?_ (by assumption)))) (by assumption) (by omega) (fun x r hg hT3 hr I' v' a' k' hI' hv' hw' hpos=>?_) (fun e hg I' v' hI'=>?_))|((with_reducible refine Ar ?_);with_reducible refine Bo _ (by first|assumption|exact TL.mono (by assumption) (by repeat (first|exact Ext.refl _|assumption|refine Ext.trans ?_ (by assumption)))) (by assumption) (fun hb hT' hl' v' hv'=>?_) (fun hb=>?_))|(with_reducible refine Be _ (by first|assumption|exact TL.mono (by assumption) (by repeat (first|exact Ext.refl _|assumption|refine Ext.trans ?_ (by assumption)))) (by assumption) (fun hb hT' hl' I' v' hI' hv'=>?_) (fun hb I' v' hI'=>?_))|((with_reducible refine Ac ?_);with_reducible refine CG (by first|assumption|exact TL.mono (by assumption) (by repeat (first|exact Ext.refl _|assumption|refine Ext.trans ?_ (by assumption)))) (by assumption) (fun hb hT' hl' v' hv'=>?_) (fun hb=>?_))|((with_reducible refine Ac ?_);with_reducible refine Aj (by first|assumption|exact TL.mono (by assumption) (by repeat (first|exact Ext.refl _|assumption|refine Ext.trans ?_ (by assumption)))) (by assumption) ?_)|(with_reducible first|refine CP (by first|assumption|exact RL.nil none 0|exact ExL.k (by assumption)|exact ExL.mono (by assumption) (by repeat (first|exact Ext.refl _|assumption|refine Ext.trans ?_ (by assumption)))|exact ExL.k (ExL.mono (by assumption) (by repeat (first|exact Ext.refl _|assumption|refine Ext.trans ?_ (by assumption))))) (fun I' a hI' hw'=>Gh.done ?_)|refine Bz (by first|assumption|exact RL.nil none 0|exact ExL.k (by assumption)|exact ExL.mono (by assumption) (by repeat (first|exact Ext.refl _|assumption|refine Ext.trans ?_ (by assumption)))|exact ExL.k (ExL.mono (by assumption) (by repeat (first|exact Ext.refl _|assumption|refine Ext.trans ?_ (by assumption))))) (by first|assumption|exact RL.nil none 0|exact ExL.k (by assumption)|exact ExL.mono (by assumption) (by repeat (first|exact Ext.refl _|assumption|refine Ext.trans ?_ (by assumption)))|exact ExL.k (ExL.mono (by assumption) (by repeat (first|exact Ext.refl _|assumption|refine Ext.trans ?_ (by assumption))))) (fun I' a hI' hw'=>Gh.done ?_)|refine CS (by first|assumption|exact RL.nil none 0|exact ExL.k (by assumption)|exact ExL.mono (by assumption) (by repeat (first|exact Ext.refl _|assumption|refine Ext.trans ?_ (by assumption)))|exact ExL.k (ExL.mono (by assumption) (by repeat (first|exact Ext.refl _|assumption|refine Ext.trans ?_ (by assumption))))) (by first|assumption|exact RL.nil none 0|exact ExL.k (by assumption)|exact ExL.mono (by assumption) (by repeat (first|exact Ext.refl _|assumption|refine Ext.trans ?_ (by assumption)))|exact ExL.k (ExL.mono (by assumption) (by repeat (first|exact Ext.refl _|assumption|refine Ext.trans ?_ (by assumption))))) (by first|assumption|exact RL.nil none 0|exact ExL.k (by assumption)|exact ExL.mono (by assumption) (by repeat (first|exact Ext.refl _|assumption|refine Ext.trans ?_ (by assumption)))|exact ExL.k (ExL.mono (by assumption) (by repeat (first|exact Ext.refl _|assumption|refine Ext.trans ?_ (by assumption))))) (fun I' a hI' hw'=>Gh.done ?_))|((with_reducible refine Ar ?_);with_reducible refine BK (by first|assumption|exact RL.nil none 0|exact ExL.k (by assumption)|exact ExL.mono (by assumption) (by repeat (first|exact Ext.refl _|assumption|refine Ext.trans ?_ (by assumption)))|exact ExL.k (ExL.mono (by assumption) (by repeat (first|exact Ext.refl _|assumption|refine Ext.trans ?_ (by assumption))))) ?_)|(with_reducible refine rdb ?_)|((with_reducible first|refine st1 ?_ ?_|refine rdB ?_ ?_);rfl)|(with_reducible refine Ai ?_)|((with_reducible refine Az ?_ ?_);rfl)|((with_reducible refine stB ?_ ?_ ?_ ?_);rfl;rfl;exact AO rfl)|((with_reducible first|refine rdP _ rfl ?_ ?_|refine BB _ rfl ?_ ?_);rfl)|((with_reducible refine stP _ rfl ?_ ?_ ?_ ?_);rfl;rfl;rfl)|(with_reducible first|refine BZ (sh157_2.eq_1 ..) ?_|refine And.intro ?_ ?_)|(simp only [SSg,Int.reduceBEq,Int.reduceBNe,Int.reduceLT,Int.reduceLE,beq_self_eq_true,bne_self_eq_false])|(with_reducible first|refine AP (fun hb=>?_) (fun hb=>?_)|refine AA (fun hb=>?_) (fun hb=>?_))|(simp only [SSd,Nat.reduceAdd]))
  all_goals first
   |exact col (.inr (by assumption))
   |exact ext (by first|exact Ext.refl _|exact (by repeat (first|exact Ext.refl _|assumption|refine Ext.trans ?_ (by assumption)))) (by first|assumption|exact TL.mono (by assumption) (by repeat (first|exact Ext.refl _|assumption|refine Ext.trans ?_ (by assumption)))) (by assumption) (by omega) (by simp [JW,AY,Res.bind, *]) (by omega) hX (Recs.imp (fun _ _ h=>TColV.mono h (by repeat (first|exact Ext.refl _|assumption|refine Ext.trans ?_ (by assumption)))) hR) hw hw' (.inr ⟨by assumption,_,_,rfl⟩)
   |exact Gh.to (L1++(b,PBo v')::L2) (Gh.done (herr _ (by simp [JW,AY,Res.bind,bad, *] <;> rfl) _ _ (by repeat (first|exact Ext.refl _|assumption|refine Ext.trans ?_ (by assumption)))))
 ·have hke:ks.isEmpty=false:=by cases ks with
   |nil=>simp at h0
   |cons=>rfl
  repeat' (first|(with_reducible first|refine Ag ?_|refine Af ?_|refine Ae ?_|refine keepA ?_|refine AV (fun _=>?_)|refine rdb ?_)|((with_reducible first|refine st1 ?_ ?_|refine rdB ?_ ?_);rfl)|(with_reducible refine Ai ?_)|((with_reducible refine Az ?_ ?_);rfl)|((with_reducible refine stB ?_ ?_ ?_ ?_);rfl;rfl;exact AO rfl)|((with_reducible first|refine rdP _ rfl ?_ ?_|refine BB _ rfl ?_ ?_);rfl)|((with_reducible refine stP _ rfl ?_ ?_ ?_ ?_);rfl;rfl;rfl)|(with_reducible refine And.intro ?_ ?_)|(simp only [SSg,Int.reduceBEq,Int.reduceBNe,Int.reduceLT,Int.reduceLE,beq_self_eq_true,bne_self_eq_false])|(with_reducible first|refine AP (fun _=>?_) (fun _=>?_)|refine AA (fun _=>?_) (fun _=>?_))|(simp only [SSd,Nat.reduceAdd]))
  exact col (.inl hke)
theorem AAU (n:Nat)(hn0:n≤1000000000):FnV ω n b 157 (Ql n) TStmtV:=by
 intro K Pn I L C v l hF h hT hl hok herr;obtain ⟨L1,L2,rfl,rfl⟩:=hF.foc;rw [Yk] at hok herr;refine ANB ?_;unfold ADM;refine AV (fun b1=>?_);refine Ac (CG h hT (fun hn hT1 hl1 v1 hv1=>?_) (fun hn=>Gh.to (L1++(b,PBo v)::L2) (Gh.done (herr (hd l).at' (by simp [BF,Res.bind,bad,hn]) I v (Ext.refl _)))));try simp only [SSd,Nat.reduceAdd]
 refine AV (fun bs=>?_);repeat' (first|(with_reducible first|refine Ag ?_|refine Af ?_|refine Ae ?_|refine keepA ?_|refine AV (fun _=>?_)|refine rdb ?_)|((with_reducible first|refine st1 ?_ ?_|refine rdB ?_ ?_);rfl)|(with_reducible refine Ai ?_)|((with_reducible refine Az ?_ ?_);rfl)|((with_reducible refine stB ?_ ?_ ?_ ?_);rfl;rfl;exact AO rfl)|((with_reducible first|refine rdP _ rfl ?_ ?_|refine BB _ rfl ?_ ?_);rfl)|((with_reducible refine stP _ rfl ?_ ?_ ?_ ?_);rfl;rfl;rfl)|(with_reducible refine And.intro ?_ ?_)|(simp only [SSg,Int.reduceBEq,Int.reduceBNe,Int.reduceLT,Int.reduceLE,beq_self_eq_true,bne_self_eq_false])|(with_reducible first|refine AP (fun _=>?_) (fun _=>?_)|refine AA (fun _=>?_) (fun _=>?_))|(simp only [SSd,Nat.reduceAdd]))
 refine Be [40] hv1 hT1 (fun hw hT2 hl2 I2 v2 hI2 hv2=>?_) (fun hw I2 v2 hI2=>Gh.to (L1++(b,PBo v2)::L2) (Gh.done (herr (hd l.tail).at' (by simp [BF,Res.bind,bad,hn,AY,hw]) I2 v2 hI2)));have e:∀{x},x=((BF l).bind fun s r=>(AY [40] r).bind fun _ r=>(FZ n (n+1) [] [] r).bind (SA s))↔x=(FZ n (n+1) [] [] l.tail.tail).bind (SA (hd l).text):=by
  intro x;simp [BF,Res.bind,hn,AY,hw]
 have e:=e.1 rfl;rw [e] at hok herr;clear e;refine loop (fun m s I3 Lx=>∃X v l2 w wk cells cs ks f,l2.length=m∧Ext I I3∧Lx=X++((bs,.cells (VA (hd l).text w wk).toArray 48 (0,0))::(b1,.cells stZ.toArray 48 (0,0))::(L1++(b,PBo v)::L2))∧TL I3 v l2∧Toks l2∧SlO 101 16 X w cells cs.length∧Recs (TColV I3) 16 cs cells∧MH w cs.length∧StL I3 wk ks∧MH wk ks.length∧l2.length≤f∧cs.length+l2.length≤l.length∧FZ n (n+1) [] [] l.tail.tail=FZ n f cs ks l2) l.tail.tail.length
  ⟨[],v2,l.tail.tail,.slice none 0 0,.slice none 0 0,[],[],[],n+1,rfl,hI2,rfl,hv2,hT2,SlO.none _ _,rfl,.inl ⟨rfl,rfl⟩,RL.nil none 0,.inl ⟨rfl,rfl⟩,by omega,by simp;omega,rfl⟩ ?_
 rintro m s I3 Lx ⟨X,v3,l2,w,wk,cells,cs,ks,f,rfl,hI3,rfl,hTL,hT3,hX,hR,hw3,hk,hkn,hf,hlen,hm⟩;have hl3:=hT3.len;obtain ⟨f,rfl⟩:∃k,f=k+1:=⟨f - 1,by omega⟩;rw [hm,Nv,Es] at hok herr;rw [Nv n f cs ks l2] at hm;refine AAV n hn0 (N0:=l.length) hTL hT3 (by omega) (by omega) hX hR (by omega) hw3 hk hkn (fun cs' ks' r hg hb hTr hr hcl I4 X4 v4 w4 wk4 cells4 hI4 hv4 hX4 hR4 hw4 hk4 hkn4=>?_) (fun x r hg hb y q hy hTq hq I4 v4 c hI4 hv4 hc=>?_) (fun e hg I4 v4 hI4=>?_)
 ·exact Gh.done ⟨r.tail.length,by omega,X4,v4,r.tail,w4,wk4,cells4,cs',ks',f,rfl,Ext.trans hI3 hI4,rfl,hv4,hTr,hX4,hR4,hw4,hk4,hkn4,by omega,by omega,by rw [hm,hg];simp only [Res.bind,hb,if_true]⟩
 ·exact hok y q (by simp [hg,Res.bind,hb,hy]) hTq hq I4 v4 c (Ext.trans hI3 hI4) hv4 hc
 ·refine herr e ?_ I4 v4 (Ext.trans hI3 hI4);cases hx:JW n cs ks l2 with
  |err e'=>rw [hx] at hg;simpa [Res.bind] using hg
  |ok x r=>
   rw [hx] at hg;cases hb:isT r [44] with
   |true=>simp [Res.bind,hb] at hg
   |false=>simpa [Res.bind,hb] using hg
end
section
variable {ω:Om}{b:Nat}
theorem AFR (n:Nat)(hn0:n≤1000000000)(hE:FnE ω n b 148 (eP n)){I:Imm}{L:LH}{K Pn:Value→M}{C:Obj→LH}{v:Value}{l:List Tok}[hF:Foc b L (PBo v) C](h:TL I v l)(hT:Toks l)(hl:l.length≤n)
  (hok:∀x r,Ie n l= .ok x r→Toks r→r.length≤l.length→∀I' v' a0 k0 a1 k1 a2 k2 a3 k3 a4 k4 a5 k5,Ext I I'→TL I' v' r→RL TItemV 14 I' [] (.slice a0 x.fItems.length k0) x.fItems→RL TSourceV 14 I' [] (.slice a1 x.fFrom.length k1) x.fFrom→ExL I' (.slice a2 x.fWhere.args.length k2) x.fWhere.args→RL ExV 11 I' [] (.slice a3 x.fGroup.length k3) x.fGroup→ExL I' (.slice a4 x.fHaving.args.length k4) x.fHaving.args→RL TOrderV 12 I' [] (.slice a5 x.fOrder.length k5) x.fOrder→K (.agg #[.bool x.fDistinct,.slice a0 x.fItems.length k0,.slice a1 x.fFrom.length k1,.int .i64 x.fWhere.kind,.int .i64 x.fWhere.value.fType,.bool x.fWhere.value.fNull,.int .i64 x.fWhere.value.fInt,.string ⟨x.fWhere.value.fText.toArray⟩,.string ⟨x.fWhere.table.toArray⟩,.string ⟨x.fWhere.name.toArray⟩,.int .i64 x.fWhere.slot,.int .i64 x.fWhere.type,.bool x.fWhere.distinct,.slice a2 x.fWhere.args.length k2,.slice a3 x.fGroup.length k3,.int .i64 x.fHaving.kind,.int .i64 x.fHaving.value.fType,.bool x.fHaving.value.fNull,.int .i64 x.fHaving.value.fInt,.string ⟨x.fHaving.value.fText.toArray⟩,.string ⟨x.fHaving.table.toArray⟩,.string ⟨x.fHaving.name.toArray⟩,.int .i64 x.fHaving.slot,.int .i64 x.fHaving.type,.bool x.fHaving.distinct,.slice a4 x.fHaving.args.length k4,.slice a5 x.fOrder.length k5,.int .i64 x.fLimit,.int .i64 x.fOffset]) I' (C (PBo v')))
  (herr:PEr (Ie n l) Pn C I):CalP Tryz.prog ω 94 #[AX b] K Pn I L:=by
 refine (AFS n hn0 hE).go h hT hl (fun x r hg hT' hr I' v' c hI' hv' hc=>?_) herr;obtain ⟨v0,v1,v2,v3,v4,v5,rfl,h0,h1,h2,h3,h4,h5⟩:=hc;obtain ⟨a0,k0,rfl⟩:=RL.form h0;obtain ⟨a1,k1,rfl⟩:=RL.form h1;obtain ⟨a2,k2,rfl⟩:=RL.form h2;obtain ⟨a3,k3,rfl⟩:=RL.form h3;obtain ⟨a4,k4,rfl⟩:=RL.form h4;obtain ⟨a5,k5,rfl⟩:=RL.form h5;exact hok x r hg hT' hr I' v' a0 k0 a1 k1 a2 k2 a3 k3 a4 k4 a5 k5 hI' hv' h0 h1 h2 h3 h4 h5
theorem row_one (n:Nat)(hn0:n≤1000000000)(hE:FnE ω n b 148 (eP n)){I:Imm}:OneP ω n b (CE n (eP n)) (APa ExV 11) (.func (.func 99) #[AX b] #[]) I:=by
 intro K Pn I' L C v l hF hI h hT hl hok herr;refine Ko (by kernel_rfl) (TV n hn0 hE h hT hl (fun x r hg hT' hr I' v' w hI hv' hw=>hok x r hg hT' hr I' v' w hI hv' hw.1) herr)
theorem ZZ (n:Nat)(hn0:n≤1000000000):FnV ω n b 103 (Gn n) TStmtV:=by
 intro K Pn I L C v l hF h hT hl hok herr;obtain ⟨L1,L2,rfl,rfl⟩:=hF.foc;have hTb:=AAU (ω:=ω) (b:=b) n hn0;refine ANq ?_;unfold AEc;have hl0:=hT.len;repeat' (first|(with_reducible first|refine Bl (b:=b) ?_|refine keepA ?_|refine AV (fun _=>?_))|((with_reducible refine Ac ?_);with_reducible refine hTb.go (by first|assumption|exact TL.mono (by assumption) (by repeat (first|exact Ext.refl _|assumption|refine Ext.trans ?_ (by assumption)))) (by assumption) (by omega) (fun x r hg hT3 hr I' v' c hI' hv' hc=>?_) (fun e hg I' v' hI'=>?_))|((with_reducible refine Ac ?_);with_reducible refine OZ n hn0 (by first|assumption|exact TL.mono (by assumption) (by repeat (first|exact Ext.refl _|assumption|refine Ext.trans ?_ (by assumption)))) (by assumption) (by omega) (fun x r hg hT3 hr I' v' a' k' hI' hv' hw' hpos=>?_) (fun e hg I' v' hI'=>?_))|((with_reducible refine stB ?_ ?_ ?_ ?_);exact TStmtV.len (by assumption);rfl;exact TStmtV.one (by assumption))|((with_reducible refine rdB ?_ ?_);exact TStmtV.len (by assumption))|((with_reducible refine Ar ?_);with_reducible refine Bo _ (by first|assumption|exact TL.mono (by assumption) (by repeat (first|exact Ext.refl _|assumption|refine Ext.trans ?_ (by assumption)))) (by assumption) (fun hb hT' hl' v' hv'=>?_) (fun hb=>?_))|(with_reducible refine Be _ (by first|assumption|exact TL.mono (by assumption) (by repeat (first|exact Ext.refl _|assumption|refine Ext.trans ?_ (by assumption)))) (by assumption) (fun hb hT' hl' I' v' hI' hv'=>?_) (fun hb I' v' hI'=>?_))|((with_reducible refine Ac ?_);with_reducible refine CG (by first|assumption|exact TL.mono (by assumption) (by repeat (first|exact Ext.refl _|assumption|refine Ext.trans ?_ (by assumption)))) (by assumption) (fun hb hT' hl' v' hv'=>?_) (fun hb=>?_))|((with_reducible refine Ac ?_);with_reducible refine Aj (by first|assumption|exact TL.mono (by assumption) (by repeat (first|exact Ext.refl _|assumption|refine Ext.trans ?_ (by assumption)))) (by assumption) ?_)|(with_reducible first|refine CP (by first|assumption|exact RL.nil none 0|exact ExL.k (by assumption)|exact ExL.mono (by assumption) (by repeat (first|exact Ext.refl _|assumption|refine Ext.trans ?_ (by assumption)))|exact ExL.k (ExL.mono (by assumption) (by repeat (first|exact Ext.refl _|assumption|refine Ext.trans ?_ (by assumption))))) (fun I' a hI' hw'=>Gh.done ?_)|refine Bz (by first|assumption|exact RL.nil none 0|exact ExL.k (by assumption)|exact ExL.mono (by assumption) (by repeat (first|exact Ext.refl _|assumption|refine Ext.trans ?_ (by assumption)))|exact ExL.k (ExL.mono (by assumption) (by repeat (first|exact Ext.refl _|assumption|refine Ext.trans ?_ (by assumption))))) (by first|assumption|exact RL.nil none 0|exact ExL.k (by assumption)|exact ExL.mono (by assumption) (by repeat (first|exact Ext.refl _|assumption|refine Ext.trans ?_ (by assumption)))|exact ExL.k (ExL.mono (by assumption) (by repeat (first|exact Ext.refl _|assumption|refine Ext.trans ?_ (by assumption))))) (fun I' a hI' hw'=>Gh.done ?_)|refine CS (by first|assumption|exact RL.nil none 0|exact ExL.k (by assumption)|exact ExL.mono (by assumption) (by repeat (first|exact Ext.refl _|assumption|refine Ext.trans ?_ (by assumption)))|exact ExL.k (ExL.mono (by assumption) (by repeat (first|exact Ext.refl _|assumption|refine Ext.trans ?_ (by assumption))))) (by first|assumption|exact RL.nil none 0|exact ExL.k (by assumption)|exact ExL.mono (by assumption) (by repeat (first|exact Ext.refl _|assumption|refine Ext.trans ?_ (by assumption)))|exact ExL.k (ExL.mono (by assumption) (by repeat (first|exact Ext.refl _|assumption|refine Ext.trans ?_ (by assumption))))) (by first|assumption|exact RL.nil none 0|exact ExL.k (by assumption)|exact ExL.mono (by assumption) (by repeat (first|exact Ext.refl _|assumption|refine Ext.trans ?_ (by assumption)))|exact ExL.k (ExL.mono (by assumption) (by repeat (first|exact Ext.refl _|assumption|refine Ext.trans ?_ (by assumption))))) (fun I' a hI' hw'=>Gh.done ?_))|((with_reducible refine Ar ?_);with_reducible refine BK (by first|assumption|exact RL.nil none 0|exact ExL.k (by assumption)|exact ExL.mono (by assumption) (by repeat (first|exact Ext.refl _|assumption|refine Ext.trans ?_ (by assumption)))|exact ExL.k (ExL.mono (by assumption) (by repeat (first|exact Ext.refl _|assumption|refine Ext.trans ?_ (by assumption))))) ?_)|(with_reducible refine rdb ?_)|((with_reducible first|refine st1 ?_ ?_|refine rdB ?_ ?_);rfl)|(with_reducible refine Ai ?_)|((with_reducible refine Az ?_ ?_);rfl)|((with_reducible refine stB ?_ ?_ ?_ ?_);rfl;rfl;exact AO rfl)|((with_reducible first|refine rdP _ rfl ?_ ?_|refine BB _ rfl ?_ ?_);rfl)|((with_reducible refine stP _ rfl ?_ ?_ ?_ ?_);rfl;rfl;rfl)|(with_reducible refine And.intro ?_ ?_)|(simp only [SSg,Int.reduceBEq,Int.reduceBNe,Int.reduceLT,Int.reduceLE,beq_self_eq_true,bne_self_eq_false])|(with_reducible first|refine AP (fun hb=>?_) (fun hb=>?_)|refine AA (fun hb=>?_) (fun hb=>?_))|(simp only [SSd,Nat.reduceAdd]))
 all_goals first
  |exact Gh.to (L1++(b,PBo v')::L2) (Gh.done (herr _ (by simp [Gn,BF,Res.bind,bad,AY, *] <;> rfl) _ _ (by repeat (first|exact Ext.refl _|assumption|refine Ext.trans ?_ (by assumption)))))
  |exact Gh.to (L1++(b,PBo v')::L2) (Gh.done (hok x _ (by simp [Gn,Res.bind, *] <;> rfl) (by assumption) (by omega) _ _ _ (by repeat (first|exact Ext.refl _|assumption|refine Ext.trans ?_ (by assumption))) (by first|assumption|exact TL.mono (by assumption) (by repeat (first|exact Ext.refl _|assumption|refine Ext.trans ?_ (by assumption)))) (by assumption)))
  |exact Gh.to (L1++(b,PBo v')::L2) (Gh.done (hok {(default:TStmt) with fKind:=6,fIndex:=⟨(hd l.tail.tail).text,(hd l.tail.tail.tail.tail).text,x,true⟩} _ (by simp [Gn,BF,AY,Res.bind, *] <;> rfl) (by assumption) (by omega) _ _ _ (by repeat (first|exact Ext.refl _|assumption|refine Ext.trans ?_ (by assumption))) (by first|assumption|exact TL.mono (by assumption) (by repeat (first|exact Ext.refl _|assumption|refine Ext.trans ?_ (by assumption)))) ⟨_,_,_,_,_,_,_,_,_,_,_,_,_,rfl,RL.nil none 0,RL.nil none 0,RL.nil none 0,RL.nil none 0,RL.nil none 0,RL.nil none 0,RL.nil none 0,RL.nil none 0,RL.nil none 0,RL.nil none 0,RL.nil none 0,RL.nil none 0,(StL.mono hw' (by repeat (first|exact Ext.refl _|assumption|refine Ext.trans ?_ (by assumption))))⟩))
  |exact Gh.to (L1++(b,PBo v')::L2) (Gh.done (hok {(default:TStmt) with fKind:=6,fIndex:=⟨(hd l.tail).text,(hd l.tail.tail.tail).text,x,false⟩} _ (by simp [Gn,BF,AY,Res.bind, *] <;> rfl) (by assumption) (by omega) _ _ _ (by repeat (first|exact Ext.refl _|assumption|refine Ext.trans ?_ (by assumption))) (by first|assumption|exact TL.mono (by assumption) (by repeat (first|exact Ext.refl _|assumption|refine Ext.trans ?_ (by assumption)))) ⟨_,_,_,_,_,_,_,_,_,_,_,_,_,rfl,RL.nil none 0,RL.nil none 0,RL.nil none 0,RL.nil none 0,RL.nil none 0,RL.nil none 0,RL.nil none 0,RL.nil none 0,RL.nil none 0,RL.nil none 0,RL.nil none 0,RL.nil none 0,(StL.mono hw' (by repeat (first|exact Ext.refl _|assumption|refine Ext.trans ?_ (by assumption))))⟩))
theorem Yl (n:Nat)(hn0:n≤1000000000)(hE:FnE ω n b 148 (eP n)){I:Imm}{L:LH}{K Pn:Value→M}{C:Obj→LH}{v:Value}{l:List Tok}[hF:Foc b L (PBo v) C](h:TL I v l)(hT:Toks l)(hl:l.length≤n)
  (hok:VOk TStmtV (EJ n l) (l.length - 1) K C I) (herr:PEr (EJ n l) Pn C I):CalP Tryz.prog ω 44 #[AX b] K Pn I L:=by
 obtain ⟨L1,L2,rfl,rfl⟩:=hF.foc;have hCr:=ZZ (ω:=ω) (b:=b) n hn0;refine APA ?_;unfold sh44;have hl0:=hT.len;repeat' (first|(with_reducible first|refine Bl (b:=b) ?_|refine keepA ?_|refine AV (fun _=>?_))|((with_reducible refine Ac ?_);with_reducible refine AFR n hn0 hE (by first|assumption|exact TL.mono (by assumption) (by repeat (first|exact Ext.refl _|assumption|refine Ext.trans ?_ (by assumption)))) (by assumption) (by omega) (fun x r hg hT3 hr I' v' a0 k0 a1 k1 a2 k2 a3 k3 a4 k4 a5 k5 hI' hv' h0 h1 h2 h3 h4 h5=>?_) (fun e hg I' v' hI'=>?_))|((with_reducible refine Ac ?_);with_reducible refine hCr.go (by first|assumption|exact TL.mono (by assumption) (by repeat (first|exact Ext.refl _|assumption|refine Ext.trans ?_ (by assumption)))) (by assumption) (by omega) (fun x r hg hT3 hr I' v' c hI' hv' hc=>?_) (fun e hg I' v' hI'=>?_))|((with_reducible refine Ac ?_);with_reducible refine OZ n hn0 (by first|assumption|exact TL.mono (by assumption) (by repeat (first|exact Ext.refl _|assumption|refine Ext.trans ?_ (by assumption)))) (by assumption) (by omega) (fun ns r1 hg1 hT4 hr1 I' v' a1 k1 hI' hv' hw1 hpos=>?_) (fun e hg I' v' hI'=>?_))|((with_reducible refine Ar ?_);with_reducible refine Hw _ (by first|assumption|exact TL.mono (by assumption) (by repeat (first|exact Ext.refl _|assumption|refine Ext.trans ?_ (by assumption)))) (by assumption) (fun hb=>?_) (fun hb=>?_))|((with_reducible refine Ac ?_);with_reducible refine AKR n hn0 (row_one n hn0 hE) (by first|assumption|exact TL.mono (by assumption) (by repeat (first|exact Ext.refl _|assumption|refine Ext.trans ?_ (by assumption)))) (by assumption) (by omega) (KN (fun x r hg hT3 hr I' v' a' k' hI' hv' hw' hx'=>?_)) (fun e hg I' v' hI'=>?_))|((with_reducible refine Ac ?_);with_reducible refine AKO n hn0 ((ALM n hE).one rfl) (by first|assumption|exact TL.mono (by assumption) (by repeat (first|exact Ext.refl _|assumption|refine Ext.trans ?_ (by assumption)))) (by assumption) (by omega) (KN (fun ss r1 hg1 hT4 hr1 I' v' a1 k1 hI' hv' hw1 hx1=>?_)) (fun e hg I' v' hI'=>?_))|((with_reducible refine Ac ?_);with_reducible refine Jr n hE _ (by first|assumption|exact TL.mono (by assumption) (by repeat (first|exact Ext.refl _|assumption|refine Ext.trans ?_ (by assumption)))) (by assumption) (by omega) (fun y r hg hT3 hr I' v' a' k' hI' hv' hw'=>?_) (fun e hg I' v' hI'=>?_))|((with_reducible refine stB ?_ ?_ ?_ ?_);exact TStmtV.len (by assumption);rfl;exact TStmtV.one (by assumption))|((with_reducible refine rdB ?_ ?_);exact TStmtV.len (by assumption))|((with_reducible refine Ar ?_);with_reducible refine Bo _ (by first|assumption|exact TL.mono (by assumption) (by repeat (first|exact Ext.refl _|assumption|refine Ext.trans ?_ (by assumption)))) (by assumption) (fun hb hT' hl' v' hv'=>?_) (fun hb=>?_))|(with_reducible refine Be _ (by first|assumption|exact TL.mono (by assumption) (by repeat (first|exact Ext.refl _|assumption|refine Ext.trans ?_ (by assumption)))) (by assumption) (fun hb hT' hl' I' v' hI' hv'=>?_) (fun hb I' v' hI'=>?_))|((with_reducible refine Ac ?_);with_reducible refine CG (by first|assumption|exact TL.mono (by assumption) (by repeat (first|exact Ext.refl _|assumption|refine Ext.trans ?_ (by assumption)))) (by assumption) (fun hb hT' hl' v' hv'=>?_) (fun hb=>?_))|((with_reducible refine Ac ?_);with_reducible refine Aj (by first|assumption|exact TL.mono (by assumption) (by repeat (first|exact Ext.refl _|assumption|refine Ext.trans ?_ (by assumption)))) (by assumption) ?_)|(with_reducible first|refine CP (by first|assumption|exact RL.nil none 0|exact ExL.k (by assumption)|exact ExL.mono (by assumption) (by repeat (first|exact Ext.refl _|assumption|refine Ext.trans ?_ (by assumption)))|exact ExL.k (ExL.mono (by assumption) (by repeat (first|exact Ext.refl _|assumption|refine Ext.trans ?_ (by assumption))))) (fun I' a hI' hw'=>Gh.done ?_)|refine Bz (by first|assumption|exact RL.nil none 0|exact ExL.k (by assumption)|exact ExL.mono (by assumption) (by repeat (first|exact Ext.refl _|assumption|refine Ext.trans ?_ (by assumption)))|exact ExL.k (ExL.mono (by assumption) (by repeat (first|exact Ext.refl _|assumption|refine Ext.trans ?_ (by assumption))))) (by first|assumption|exact RL.nil none 0|exact ExL.k (by assumption)|exact ExL.mono (by assumption) (by repeat (first|exact Ext.refl _|assumption|refine Ext.trans ?_ (by assumption)))|exact ExL.k (ExL.mono (by assumption) (by repeat (first|exact Ext.refl _|assumption|refine Ext.trans ?_ (by assumption))))) (fun I' a hI' hw'=>Gh.done ?_)|refine CS (by first|assumption|exact RL.nil none 0|exact ExL.k (by assumption)|exact ExL.mono (by assumption) (by repeat (first|exact Ext.refl _|assumption|refine Ext.trans ?_ (by assumption)))|exact ExL.k (ExL.mono (by assumption) (by repeat (first|exact Ext.refl _|assumption|refine Ext.trans ?_ (by assumption))))) (by first|assumption|exact RL.nil none 0|exact ExL.k (by assumption)|exact ExL.mono (by assumption) (by repeat (first|exact Ext.refl _|assumption|refine Ext.trans ?_ (by assumption)))|exact ExL.k (ExL.mono (by assumption) (by repeat (first|exact Ext.refl _|assumption|refine Ext.trans ?_ (by assumption))))) (by first|assumption|exact RL.nil none 0|exact ExL.k (by assumption)|exact ExL.mono (by assumption) (by repeat (first|exact Ext.refl _|assumption|refine Ext.trans ?_ (by assumption)))|exact ExL.k (ExL.mono (by assumption) (by repeat (first|exact Ext.refl _|assumption|refine Ext.trans ?_ (by assumption))))) (fun I' a hI' hw'=>Gh.done ?_))|((with_reducible refine Ar ?_);with_reducible refine BK (by first|assumption|exact RL.nil none 0|exact ExL.k (by assumption)|exact ExL.mono (by assumption) (by repeat (first|exact Ext.refl _|assumption|refine Ext.trans ?_ (by assumption)))|exact ExL.k (ExL.mono (by assumption) (by repeat (first|exact Ext.refl _|assumption|refine Ext.trans ?_ (by assumption))))) ?_)|(with_reducible refine rdb ?_)|((with_reducible first|refine st1 ?_ ?_|refine rdB ?_ ?_);rfl)|(with_reducible refine Ai ?_)|((with_reducible refine Az ?_ ?_);rfl)|((with_reducible refine stB ?_ ?_ ?_ ?_);rfl;rfl;exact AO rfl)|((with_reducible first|refine rdP _ rfl ?_ ?_|refine BB _ rfl ?_ ?_);rfl)|((with_reducible refine stP _ rfl ?_ ?_ ?_ ?_);rfl;rfl;rfl)|(with_reducible first|refine BZ (sh44_1.eq_1 ..) ?_|refine BZ (sh44.eq_1 ..) ?_|refine And.intro ?_ ?_)|(simp only [SSg,Int.reduceBEq,Int.reduceBNe,Int.reduceLT,Int.reduceLE,beq_self_eq_true,bne_self_eq_false])|(with_reducible first|refine AP (fun hb=>?_) (fun hb=>?_)|refine AA (fun hb=>?_) (fun hb=>?_))|(simp only [SSd,Nat.reduceAdd]))
 all_goals first
  |exact Gh.to (L1++(b,PBo v')::L2) (Gh.done (herr _ (by simp [EJ,Dy,Dw,Dz,Gm,BF,AY,Res.bind,bad, *] <;> rfl) _ _ (by repeat (first|exact Ext.refl _|assumption|refine Ext.trans ?_ (by assumption)))))
  |exact Gh.to (L1++(b,PBo v')::L2) (Gh.done (hok x _ (by simp [EJ,Res.bind, *] <;> rfl) (by assumption) (by omega) _ _ _ (by repeat (first|exact Ext.refl _|assumption|refine Ext.trans ?_ (by assumption))) (by first|assumption|exact TL.mono (by assumption) (by repeat (first|exact Ext.refl _|assumption|refine Ext.trans ?_ (by assumption)))) (by assumption)))
  |exact Gh.to (L1++(b,PBo v')::L2) (Gh.done (hok {(default:TStmt) with fKind:=1,fSelect:=x} _ (by simp [EJ,Dy,Dw,Dz,Gm,BF,AY,Res.bind, *] <;> rfl) (by assumption) (by omega) _ _ _ (by repeat (first|exact Ext.refl _|assumption|refine Ext.trans ?_ (by assumption))) (by first|assumption|exact TL.mono (by assumption) (by repeat (first|exact Ext.refl _|assumption|refine Ext.trans ?_ (by assumption)))) ⟨_,_,_,_,_,_,_,_,_,_,_,_,_,rfl,h0,h1,h2,h3,h4,h5,RL.nil none 0,RL.nil none 0,RL.nil none 0,RL.nil none 0,RL.nil none 0,RL.nil none 0,RL.nil none 0⟩))
  |exact Gh.to (L1++(b,PBo v')::L2) (Gh.done (hok {(default:TStmt) with fKind:=2,fTable:=(hd l.tail.tail).text,fColumns:=ns,fRows:=x} _ (by simp [EJ,Dy,Dw,Dz,Gm,BF,AY,Res.bind, *] <;> rfl) (by assumption) (by omega) _ _ _ (by repeat (first|exact Ext.refl _|assumption|refine Ext.trans ?_ (by assumption))) (by first|assumption|exact TL.mono (by assumption) (by repeat (first|exact Ext.refl _|assumption|refine Ext.trans ?_ (by assumption)))) ⟨_,_,_,_,_,_,_,_,_,_,_,_,_,rfl,RL.nil none 0,RL.nil none 0,RL.nil none 0,RL.nil none 0,RL.nil none 0,RL.nil none 0,(StL.mono hw1 (by repeat (first|exact Ext.refl _|assumption|refine Ext.trans ?_ (by assumption)))),hw',RL.nil none 0,RL.nil none 0,RL.nil none 0,RL.nil none 0,RL.nil none 0⟩))
  |exact Gh.to (L1++(b,PBo v')::L2) (Gh.done (hok {(default:TStmt) with fKind:=2,fTable:=(hd l.tail.tail).text,fColumns:=[],fRows:=x} _ (by simp [EJ,Dy,Dw,Dz,Gm,BF,AY,Res.bind, *] <;> rfl) (by assumption) (by omega) _ _ _ (by repeat (first|exact Ext.refl _|assumption|refine Ext.trans ?_ (by assumption))) (by first|assumption|exact TL.mono (by assumption) (by repeat (first|exact Ext.refl _|assumption|refine Ext.trans ?_ (by assumption)))) ⟨_,_,_,_,_,_,_,_,_,_,_,_,_,rfl,RL.nil none 0,RL.nil none 0,RL.nil none 0,RL.nil none 0,RL.nil none 0,RL.nil none 0,RL.nil none 0,hw',RL.nil none 0,RL.nil none 0,RL.nil none 0,RL.nil none 0,RL.nil none 0⟩))
  |exact Gh.to (L1++(b,PBo v')::L2) (Gh.done (hok {(default:TStmt) with fKind:=3,fTable:=(hd l.tail).text,fSets:=ss,fWhere:=y} _ (by simp [EJ,Dy,Dw,Dz,Gm,BF,AY,Res.bind, *] <;> rfl) (by assumption) (by omega) _ _ _ (by repeat (first|exact Ext.refl _|assumption|refine Ext.trans ?_ (by assumption))) (by first|assumption|exact TL.mono (by assumption) (by repeat (first|exact Ext.refl _|assumption|refine Ext.trans ?_ (by assumption)))) ⟨_,_,_,_,_,_,_,_,_,_,_,_,_,rfl,RL.nil none 0,RL.nil none 0,RL.nil none 0,RL.nil none 0,RL.nil none 0,RL.nil none 0,RL.nil none 0,RL.nil none 0,(RL.mono (fun _ _ h=>TSetV.mono h (by repeat (first|exact Ext.refl _|assumption|refine Ext.trans ?_ (by assumption)))) hw1 (by repeat (first|exact Ext.refl _|assumption|refine Ext.trans ?_ (by assumption))) (fun _ h=>by cases h)),(by first|assumption|exact RL.nil none 0|exact ExL.k (by assumption)|exact ExL.mono (by assumption) (by repeat (first|exact Ext.refl _|assumption|refine Ext.trans ?_ (by assumption)))|exact ExL.k (ExL.mono (by assumption) (by repeat (first|exact Ext.refl _|assumption|refine Ext.trans ?_ (by assumption))))),RL.nil none 0,RL.nil none 0,RL.nil none 0⟩))
  |exact Gh.to (L1++(b,PBo v')::L2) (Gh.done (hok {(default:TStmt) with fKind:=4,fTable:=(hd l.tail.tail).text,fWhere:=y} _ (by simp [EJ,Dy,Dw,Dz,Gm,BF,AY,Res.bind, *] <;> rfl) (by assumption) (by omega) _ _ _ (by repeat (first|exact Ext.refl _|assumption|refine Ext.trans ?_ (by assumption))) (by first|assumption|exact TL.mono (by assumption) (by repeat (first|exact Ext.refl _|assumption|refine Ext.trans ?_ (by assumption)))) ⟨_,_,_,_,_,_,_,_,_,_,_,_,_,rfl,RL.nil none 0,RL.nil none 0,RL.nil none 0,RL.nil none 0,RL.nil none 0,RL.nil none 0,RL.nil none 0,RL.nil none 0,RL.nil none 0,(by first|assumption|exact RL.nil none 0|exact ExL.k (by assumption)|exact ExL.mono (by assumption) (by repeat (first|exact Ext.refl _|assumption|refine Ext.trans ?_ (by assumption)))|exact ExL.k (ExL.mono (by assumption) (by repeat (first|exact Ext.refl _|assumption|refine Ext.trans ?_ (by assumption))))),RL.nil none 0,RL.nil none 0,RL.nil none 0⟩))
  |exact Gh.to (L1++(b,PBo v')::L2) (Gh.done (hok {(default:TStmt) with fKind:=7,fTable:=(hd l.tail.tail).text} _ (by simp [EJ,Dy,Dw,Dz,Gm,BF,AY,Res.bind, *] <;> rfl) (by assumption) (by omega) _ _ _ (by repeat (first|exact Ext.refl _|assumption|refine Ext.trans ?_ (by assumption))) (by first|assumption|exact TL.mono (by assumption) (by repeat (first|exact Ext.refl _|assumption|refine Ext.trans ?_ (by assumption)))) ⟨_,_,_,_,_,_,_,_,_,_,_,_,_,rfl,RL.nil none 0,RL.nil none 0,RL.nil none 0,RL.nil none 0,RL.nil none 0,RL.nil none 0,RL.nil none 0,RL.nil none 0,RL.nil none 0,RL.nil none 0,RL.nil none 0,RL.nil none 0,RL.nil none 0⟩))
  |exact Gh.to (L1++(b,PBo v')::L2) (Gh.done (hok {(default:TStmt) with fKind:=8,fIndex:=⟨(hd l.tail.tail).text,[],[],false⟩} _ (by simp [EJ,Dy,Dw,Dz,Gm,BF,AY,Res.bind, *] <;> rfl) (by assumption) (by omega) _ _ _ (by repeat (first|exact Ext.refl _|assumption|refine Ext.trans ?_ (by assumption))) (by first|assumption|exact TL.mono (by assumption) (by repeat (first|exact Ext.refl _|assumption|refine Ext.trans ?_ (by assumption)))) ⟨_,_,_,_,_,_,_,_,_,_,_,_,_,rfl,RL.nil none 0,RL.nil none 0,RL.nil none 0,RL.nil none 0,RL.nil none 0,RL.nil none 0,RL.nil none 0,RL.nil none 0,RL.nil none 0,RL.nil none 0,RL.nil none 0,RL.nil none 0,RL.nil none 0⟩))
  |exact Gh.to (L1++(b,PBo v')::L2) (Gh.done (hok {(default:TStmt) with fKind:=9} _ (by simp [EJ,Dy,Dw,Dz,Gm,BF,AY,Res.bind, *] <;> rfl) (by assumption) (by omega) _ _ _ (by repeat (first|exact Ext.refl _|assumption|refine Ext.trans ?_ (by assumption))) (by first|assumption|exact TL.mono (by assumption) (by repeat (first|exact Ext.refl _|assumption|refine Ext.trans ?_ (by assumption)))) ⟨_,_,_,_,_,_,_,_,_,_,_,_,_,rfl,RL.nil none 0,RL.nil none 0,RL.nil none 0,RL.nil none 0,RL.nil none 0,RL.nil none 0,RL.nil none 0,RL.nil none 0,RL.nil none 0,RL.nil none 0,RL.nil none 0,RL.nil none 0,RL.nil none 0⟩))
  |exact Gh.to (L1++(b,PBo v')::L2) (Gh.done (hok {(default:TStmt) with fKind:=10} _ (by simp [EJ,Dy,Dw,Dz,Gm,BF,AY,Res.bind, *] <;> rfl) (by assumption) (by omega) _ _ _ (by repeat (first|exact Ext.refl _|assumption|refine Ext.trans ?_ (by assumption))) (by first|assumption|exact TL.mono (by assumption) (by repeat (first|exact Ext.refl _|assumption|refine Ext.trans ?_ (by assumption)))) ⟨_,_,_,_,_,_,_,_,_,_,_,_,_,rfl,RL.nil none 0,RL.nil none 0,RL.nil none 0,RL.nil none 0,RL.nil none 0,RL.nil none 0,RL.nil none 0,RL.nil none 0,RL.nil none 0,RL.nil none 0,RL.nil none 0,RL.nil none 0,RL.nil none 0⟩))
  |exact Gh.to (L1++(b,PBo v')::L2) (Gh.done (hok {(default:TStmt) with fKind:=11} _ (by simp [EJ,Dy,Dw,Dz,Gm,BF,AY,Res.bind, *] <;> rfl) (by assumption) (by omega) _ _ _ (by repeat (first|exact Ext.refl _|assumption|refine Ext.trans ?_ (by assumption))) (by first|assumption|exact TL.mono (by assumption) (by repeat (first|exact Ext.refl _|assumption|refine Ext.trans ?_ (by assumption)))) ⟨_,_,_,_,_,_,_,_,_,_,_,_,_,rfl,RL.nil none 0,RL.nil none 0,RL.nil none 0,RL.nil none 0,RL.nil none 0,RL.nil none 0,RL.nil none 0,RL.nil none 0,RL.nil none 0,RL.nil none 0,RL.nil none 0,RL.nil none 0,RL.nil none 0⟩))
end
def SV (ω:Om)(G:Imm):Prop:=∀(s:Bs) (K:Value→M) (I:Imm) (L:LH),Ext G I→s.length≤900000000→
 (∀l,AFn s= .toks l→Toks l→l.length≤s.length+1→∀I' v,Ext I I'→TL I' v l→K (.tuple #[v,.agg #[.int .i64 0,.int .i64 0]]) I' L)→
 (∀f,AFn s= .bad f→f.code≠0→∀I' a m k,Ext I I'→K (.tuple #[.slice a m k,.agg #[.int .i64 f.code,.int .i64 f.at']]) I' L)→CT ω 41 #[.string ⟨s.toArray⟩] K I L
theorem APs {I:Imm}{L:LH}{K:Value→M}{x:TStmt}{c:List Value}(hc:TStmtV I x c)(hk:∀I' a,Ext I I'→RL TStmtV 51 I' [] (.slice a 1 1) [x]→Gh (K (.slice a 1 1)) I' L):
  Ad 48 51 #[.int .i64 0,.bool false,.slice none 0 0,.slice none 0 0,.int .i64 0,.int .i64 0,.bool false,.int .i64 0,.string ⟨#[]⟩,.string ⟨#[]⟩,.string ⟨#[]⟩,.int .i64 0,.int .i64 0,.bool false,.slice none 0 0,.slice none 0 0,.int .i64 0,.int .i64 0,.bool false,.int .i64 0,.string ⟨#[]⟩,.string ⟨#[]⟩,.string ⟨#[]⟩,.int .i64 0,.int .i64 0,.bool false,.slice none 0 0,.slice none 0 0,.int .i64 0,.int .i64 0,.string ⟨#[]⟩,.slice none 0 0,.slice none 0 0,.slice none 0 0,.int .i64 0,.int .i64 0,.bool false,.int .i64 0,.string ⟨#[]⟩,.string ⟨#[]⟩,.string ⟨#[]⟩,.int .i64 0,.int .i64 0,.bool false,.slice none 0 0,.slice none 0 0,.slice none 0 0,.string ⟨#[]⟩,.string ⟨#[]⟩,.slice none 0 0,.bool false] 1 [(0,.agg c.toArray)] (gh K) I L:=
 Du (R:=TStmtV) [x] [c] rfl rfl rfl (by simpa using hc.len) (by simpa using hc) (fun hI h=>TStmtV.mono h hI) hk
theorem TD (n m:Nat)(acc:List TStmt)(l:List Tok):CU n (m+1) acc l=if isK l 6 then .ok acc l else if isT l [59] then CU n m acc l.tail else
  (EJ n l).bind fun s r=>if isK r 6||isT r [59] then CU n m (acc++[s]) r else Go.Proofs.YtkifgfanjcfedaaGreatDoor.bad r:=rfl
section
variable {ω:Om}
theorem AIs {I:Imm}{L1 L2:LH}{bo bf:Nat}{K:Value→M}{e:Nat}{w c a:Value}(hk:K (.tuple #[]) I (L1++((bf,.cells #[.int .i64 174,.int .i64 e] 26 (0,0))::(bo,.cells #[.slice none 0 0] 23 (0,0))::L2))):
  CalDR Tryz.prog ω 42 #[AX bo,AX bf] (Eg e) K I (L1++((bf,.cells #[c,a] 26 (0,0))::(bo,.cells #[w] 23 (0,0))::L2)):=by
 refine ALv ?_;unfold sh42;have e1:Lu true .neq (Eg e) .nilIface=some (.bool true):=rfl;have e2:Um 87 (.agg #[.int .i64 0]) (Eg e)=some (.tuple #[.agg #[.int .i64 e],.bool true]):=rfl;simp only [e1,e2,SSd,Nat.reduceAdd];refine AV (fun b1=>?_);repeat' (first|(with_reducible first|refine Ag ?_|refine Af ?_|refine Ae ?_|refine keepA ?_|refine AV (fun _=>?_)|refine rdb ?_)|((with_reducible first|refine st1 ?_ ?_|refine rdB ?_ ?_);rfl)|(with_reducible refine Ai ?_)|((with_reducible refine Az ?_ ?_);rfl)|((with_reducible refine stB ?_ ?_ ?_ ?_);rfl;rfl;exact AO rfl)|((with_reducible first|refine rdP _ rfl ?_ ?_|refine BB _ rfl ?_ ?_);rfl)|((with_reducible refine stP _ rfl ?_ ?_ ?_ ?_);rfl;rfl;rfl)|(with_reducible first|refine BZ (sh42_1.eq_1 ..) ?_|refine BZ (sh42.eq_1 ..) ?_|refine And.intro ?_ ?_)|(simp only [SSg,Int.reduceBEq,Int.reduceBNe,Int.reduceLT,Int.reduceLE,beq_self_eq_true,bne_self_eq_false])|(with_reducible first|refine AP (fun _=>?_) (fun _=>?_)|refine AA (fun _=>?_) (fun _=>?_))|(simp only [SSd,Nat.reduceAdd,JQ]))
 exact Gh.to _ (Gh.done hk)
theorem ALT {I:Imm}{L:LH}{bo bf:Nat}{K:Value→M}(hk:K (.tuple #[]) I L):CalD Tryz.prog ω 42 #[AX bo,AX bf] K I L:=by
 refine ALw ?_;unfold sh42;have e1:Lu true .neq .nilIface .nilIface=some (.bool false):=rfl;simp only [e1,SSd,Nat.reduceAdd];exact Gh.done hk
set_option maxHeartbeats 1000000 in
theorem QG {G:Imm}(hTok:SV ω G)(s:Bs)(hs:s.length≤900000000){I:Imm}{L:LH}{K:Value→M}(hG:Ext G I)
  (hok:∀I' a k,Ext I I'→RL TStmtV 51 I' [] (.slice a (readA s).1.length k) (readA s).1→K (.tuple #[.slice a (readA s).1.length k,.agg #[.int .i64 (readA s).2.code,.int .i64 (readA s).2.at']]) I' L):
  CT ω 25 #[.string ⟨s.toArray⟩] K I L:=by
 refine API ?_;unfold ALD;refine AV (fun bo=>?_);refine AV (fun bf=>?_);refine Ar (hTok s _ _ _ hG hs (fun l hlx hT hlen I1 v1 hI1 hv1=>?_) (fun f hlx hf I1 a m k hI1=>?_))
 ·have hrd:readA s=match CU l.length (l.length+1) [] l with
    | .ok x _=>(x,ok0)
    | .err a=>([],⟨174,a⟩):=by
   simp only [readA,hlx];cases CU l.length (l.length+1) [] l <;> rfl
  obtain ⟨a,k,rfl⟩:=RL.form hv1;repeat' (first|(with_reducible first|refine Ag ?_|refine Af ?_|refine Ae ?_|refine keepA ?_|refine AV (fun _=>?_)|refine rdb ?_)|((with_reducible first|refine st1 ?_ ?_|refine rdB ?_ ?_);rfl)|(with_reducible refine Ai ?_)|((with_reducible refine Az ?_ ?_);rfl)|((with_reducible refine stB ?_ ?_ ?_ ?_);rfl;rfl;exact AO rfl)|((with_reducible first|refine rdP _ rfl ?_ ?_|refine BB _ rfl ?_ ?_);rfl)|((with_reducible refine stP _ rfl ?_ ?_ ?_ ?_);rfl;rfl;rfl)|(with_reducible refine And.intro ?_ ?_)|(simp only [SSg,Int.reduceBEq,Int.reduceBNe,Int.reduceLT,Int.reduceLE,beq_self_eq_true,bne_self_eq_false])|(with_reducible first|refine AP (fun _=>?_) (fun _=>?_)|refine AA (fun _=>?_) (fun _=>?_))|(simp only [SSd,Nat.reduceAdd]))
  rename_i bp
  have bad:∀(e:Nat) {I2:Imm} {X:LH} {vp w c d:Value},Ext I1 I2→CU l.length (l.length+1) [] l= .err e→CalDR Tryz.prog ω 42 #[AX bo,AX bf] (Eg e) (gh fun _=>Rv none (AC (AX bo)) fun v25=>Rv none (AU 2 (AX bf)) fun v26=>Gh (K (.tuple #[v25,v26]))) I2 (X++((bp,PBo vp)::((bf,.cells #[c,d] 26 (0,0))::(bo,.cells #[w] 23 (0,0))::L))):=by
   intro e I2 X vp w c d hI2 hg;rw [hg] at hrd;have:=AIs (ω:=ω) (L1:=X++[(bp,PBo vp)]) (L2:=L) (bo:=bo) (bf:=bf) (e:=e) (w:=w) (c:=c) (a:=d) (I:=I2) (K:=gh fun _=>Rv none (AC (AX bo)) fun v25=>Rv none (AU 2 (AX bf)) fun v26=>Gh (K (.tuple #[v25,v26])));simp only [List.append_assoc,List.singleton_append] at this;refine this (Gh.done ?_);refine rdb ?_;refine rdB rfl ?_;refine Gh.to L (Gh.done ?_);rw [hrd] at hok;exact hok I2 none 0 (Ext.trans hI1 hI2) (RL.nil none 0)
  refine loop (fun m s I2 Lx=>∃X v l2 w cells xs f,l2.length=m∧Ext I1 I2∧Lx=X++((bp,PBo v)::((bf,.cells #[.int .i64 0,.int .i64 0] 26 (0,0))::(bo,.cells #[w] 23 (0,0))::L))∧TL I2 v l2∧Toks l2∧SlO 48 51 X w cells xs.length∧Recs (TStmtV I2) 51 xs cells∧l2.length≤f∧xs.length+l2.length≤l.length∧CU l.length (l.length+1) [] l=CU l.length f xs l2) l.length
   ⟨[],_,l,.slice none 0 0,[],[],l.length+1,rfl,Ext.refl _,rfl,hv1,hT,SlO.none _ _,rfl,by omega,by simp,rfl⟩ ?_
  rintro m s I2 Lx ⟨X,v2,l2,w,cells,xs,f,rfl,hI2,rfl,hTL,hT2,hX,hR,hf,hlen2,hm⟩;have hl2:=hT2.len;obtain ⟨f,rfl⟩:∃q,f=q+1:=⟨f - 1,by omega⟩;obtain ⟨aw,kw,rfl⟩:=hX.form;unfold ABL;obtain ⟨bt,off,h1,h2⟩:=hTL.hd hT2;have step:∀{I3:Imm} {X:LH} {v3 w3:Value} {cells3:List Value} {xs3:List TStmt} {l3:List Tok} {f3:Nat},Ext I2 I3→TL I3 v3 l3→Toks l3→l3.length < l2.length→SlO 48 51 X w3 cells3 xs3.length→Recs (TStmtV I3) 51 xs3 cells3→l3.length≤f3→xs3.length+l3.length≤l.length→CU l.length (l.length+1) [] l=CU l.length f3 xs3 l3→
    Gh (fun I2 L'=>∃m',m' < l2.length∧∃X v l2 w cells xs f,l2.length=m'∧Ext I1 I2∧L'=X++((bp,PBo v)::((bf,.cells #[.int .i64 0,.int .i64 0] 26 (0,0))::(bo,.cells #[w] 23 (0,0))::L))∧TL I2 v l2∧Toks l2∧SlO 48 51 X w cells xs.length∧Recs (TStmtV I2) 51 xs cells∧l2.length≤f∧xs.length+l2.length≤l.length∧CU l.length (l.length+1) [] l=CU l.length f xs l2) I3 (X++((bp,PBo v3)::((bf,.cells #[.int .i64 0,.int .i64 0] 26 (0,0))::(bo,.cells #[w3] 23 (0,0))::L))):=
   fun {I3 X v3 w3 cells3 xs3 l3 f3} hI3 hv3 hT3 hlt hX3 hR3 hf3 hs3 hm3=>Gh.done ⟨l3.length,hlt,X,v3,l3,w3,cells3,xs3,f3,rfl,Ext.trans hI2 hI3,rfl,hv3,hT3,hX3,hR3,hf3,hs3,hm3⟩
  rw [TD l.length f xs l2] at hm;repeat' (first|(with_reducible first|refine Ag ?_|refine Af ?_|refine Ae ?_|refine keepA ?_|refine AV (fun _=>?_))|((with_reducible refine rd1 (v:=.int .i64 (hd l2).kind) ?_ ?_);exact (h2 _ [] (Ext.refl _) 0 _ rfl).mono (Ext.refl _) (fun _ h=>by cases h))|(with_reducible refine rdb ?_)|((with_reducible first|refine st1 ?_ ?_|refine rdB ?_ ?_);rfl)|(with_reducible refine Ai ?_)|((with_reducible refine Az ?_ ?_);rfl)|((with_reducible refine stB ?_ ?_ ?_ ?_);rfl;rfl;exact AO rfl)|((with_reducible first|refine rdP _ rfl ?_ ?_|refine BB _ rfl ?_ ?_);rfl)|((with_reducible refine stP _ rfl ?_ ?_ ?_ ?_);rfl;rfl;rfl)|(with_reducible refine And.intro ?_ ?_)|(simp only [SSg,Int.reduceBEq,Int.reduceBNe,Int.reduceLT,Int.reduceLE,beq_self_eq_true,bne_self_eq_false])|(with_reducible first|refine AP (fun _=>?_) (fun _=>?_)|refine AA (fun _=>?_) (fun _=>?_))|(simp only [SSd,Nat.reduceAdd,h1]))
  ·rename_i hk
   have hk:isK l2 6=false:=by simpa [isK] using hk
   refine Ar (Bo [59] hTL hT2 (fun hb hT3 hl3 v3 hv3=>?_) (fun hb=>?_))
   ·repeat' (first|(with_reducible first|refine Ag ?_|refine Af ?_|refine Ae ?_|refine keepA ?_|refine AV (fun _=>?_)|refine rdb ?_)|((with_reducible first|refine st1 ?_ ?_|refine rdB ?_ ?_);rfl)|(with_reducible refine Ai ?_)|((with_reducible refine Az ?_ ?_);rfl)|((with_reducible refine stB ?_ ?_ ?_ ?_);rfl;rfl;exact AO rfl)|((with_reducible first|refine rdP _ rfl ?_ ?_|refine BB _ rfl ?_ ?_);rfl)|((with_reducible refine stP _ rfl ?_ ?_ ?_ ?_);rfl;rfl;rfl)|(with_reducible refine And.intro ?_ ?_)|(simp only [SSg,Int.reduceBEq,Int.reduceBNe,Int.reduceLT,Int.reduceLE,beq_self_eq_true,bne_self_eq_false])|(with_reducible first|refine AP (fun _=>?_) (fun _=>?_)|refine AA (fun _=>?_) (fun _=>?_))|(simp only [SSd,Nat.reduceAdd]))
    exact step (f3:=f) (Ext.refl _) hv3 hT3 (by omega) hX hR (by omega) (by omega) (by rw [hm];simp [hk,hb])
   try simp only [SSd,Nat.reduceAdd]
   refine Bl (b:=bp) ?_;refine Ai ?_;refine Ac (Yl l.length (by omega) (exprs ω bp l.length (by omega)).1 hTL hT2 (by omega) (fun y r hg hTr hr I3 v3 c hI3 hv3 hc=>?_) (fun e hg I3 v3 hI3=>bad e (Ext.trans hI2 hI3) (by rw [hm];simp [hk,hb,hg,Res.bind])));refine Bj hI3 ?_;refine APs hc (fun I4 a4 hI4 hw4=>Gh.done ?_);refine Bj (Ext.trans hI3 hI4) ?_;obtain ⟨c4,s4,r4⟩:=RL.toI (by decide) hw4;refine DJ (X:=X) rfl hX s4.news (r4.one_cells fun x c h=>TStmtV.one h) (by simp only [List.length_cons,List.length_nil];omega) (by simp only [List.length_cons,List.length_nil];omega) (fun X5 w5 hX5=>?_);have e5:xs.length+[y].length=(xs++[y]).length:=by simp
   rw [e5] at hX5;have hR5:=Recs.append (Recs.imp (R':=TStmtV I4) (fun _ _ h=>TStmtV.mono h (Ext.trans hI3 hI4)) hR) r4;obtain ⟨a5,k5,rfl⟩:=hX5.form;have hv4:=hv3.mono hI4;obtain ⟨bt4,off4,h14,h24⟩:=hv4.hd hTr;have next:isK r 6=true∨isT r [59]=true→_:=fun hc=>step (l3:=r) (f3:=f) (xs3:=xs++[y]) (Ext.trans hI3 hI4) hv4 hTr (by omega) hX5 hR5 (by omega) (by simp;omega) (by rw [hm];simp [hk,hb,hg,Res.bind];intro h1 h2;rw [h1,h2] at hc;simp at hc);repeat' (first|(with_reducible first|refine Ag ?_|refine Af ?_|refine Ae ?_|refine keepA ?_|refine AV (fun _=>?_))|((with_reducible refine rd1 (v:=.int .i64 (hd r).kind) ?_ ?_);exact (h24 _ [] (Ext.refl _) 0 _ rfl).mono (Ext.refl _) (fun _ h=>by cases h))|((with_reducible refine Ar ?_);with_reducible refine Hw _ hv4 hTr (fun hb2=>?_) (fun hb2=>?_))|(with_reducible refine rdb ?_)|((with_reducible first|refine st1 ?_ ?_|refine rdB ?_ ?_);rfl)|(with_reducible refine Ai ?_)|((with_reducible refine Az ?_ ?_);rfl)|((with_reducible refine stB ?_ ?_ ?_ ?_);rfl;rfl;exact AO rfl)|((with_reducible first|refine rdP _ rfl ?_ ?_|refine BB _ rfl ?_ ?_);rfl)|((with_reducible refine stP _ rfl ?_ ?_ ?_ ?_);rfl;rfl;rfl)|(with_reducible refine And.intro ?_ ?_)|(simp only [SSg,Int.reduceBEq,Int.reduceBNe,Int.reduceLT,Int.reduceLE,beq_self_eq_true,bne_self_eq_false])|(with_reducible first|refine AP (fun _=>?_) (fun _=>?_)|refine AA (fun _=>?_) (fun _=>?_))|(simp only [SSd,Nat.reduceAdd,h14]))
   ·exact next (.inr hb2)
   ·rename_i hk6
    have hk6:isK r 6=false:=by simpa [isK] using hk6
    unfold ABK;exact Ac (Aj hv4 hTr (bad _ (Ext.trans hI2 (Ext.trans hI3 hI4)) (by rw [hm];simp [hk,hb,hg,Res.bind,hk6,hb2];rfl)))
   ·rename_i hk6
    exact next (.inl (by simpa [isK] using hk6))
  ·rename_i hk
   have hk:isK l2 6=true:=by simpa [isK] using hk
   have hm:CU l.length (l.length+1) [] l= .ok xs l2:=by rw [hm];simp [hk]
   rw [hm] at hrd;unfold ABJ;repeat' (first|(with_reducible first|refine Ag ?_|refine Af ?_|refine Ae ?_|refine keepA ?_|refine AV (fun _=>?_)|refine rdb ?_)|((with_reducible first|refine st1 ?_ ?_|refine rdB ?_ ?_);rfl)|(with_reducible refine Ai ?_)|((with_reducible refine Az ?_ ?_);rfl)|((with_reducible refine stB ?_ ?_ ?_ ?_);rfl;rfl;exact AO rfl)|((with_reducible first|refine rdP _ rfl ?_ ?_|refine BB _ rfl ?_ ?_);rfl)|((with_reducible refine stP _ rfl ?_ ?_ ?_ ?_);rfl;rfl;rfl)|(with_reducible refine And.intro ?_ ?_)|(simp only [SSg,Int.reduceBEq,Int.reduceBNe,Int.reduceLT,Int.reduceLE,beq_self_eq_true,bne_self_eq_false])|(with_reducible first|refine AP (fun _=>?_) (fun _=>?_)|refine AA (fun _=>?_) (fun _=>?_))|(simp only [SSd,Nat.reduceAdd]))
   refine ALT (Gh.done ?_);refine rdb ?_;refine rdB rfl ?_;refine Gh.to (X++L) ?_;refine RL.ofO (R:=TStmtV) (fun {I I' x c} h hI=>TStmtV.mono h hI) hX hR (fun I3 hI3 hw=>Gh.done ?_);rw [hrd] at hok;exact hok I3 _ _ (Ext.trans hI1 (Ext.trans hI2 hI3)) hw
 ·have hrd:readA s=([],f):=by simp only [readA,hlx]
  rw [hrd] at hok;repeat' (first|(with_reducible first|refine Ag ?_|refine Af ?_|refine Ae ?_|refine keepA ?_|refine AV (fun _=>?_)|refine rdb ?_)|((with_reducible first|refine st1 ?_ ?_|refine rdB ?_ ?_);rfl)|(with_reducible refine Ai ?_)|((with_reducible refine Az ?_ ?_);rfl)|((with_reducible refine stB ?_ ?_ ?_ ?_);rfl;rfl;exact AO rfl)|((with_reducible first|refine rdP _ rfl ?_ ?_|refine BB _ rfl ?_ ?_);rfl)|((with_reducible refine stP _ rfl ?_ ?_ ?_ ?_);rfl;rfl;rfl)|(with_reducible refine And.intro ?_ ?_)|(simp only [SSg,Int.reduceBEq,Int.reduceBNe,Int.reduceLT,Int.reduceLE,beq_self_eq_true,bne_self_eq_false])|(with_reducible first|refine AP (fun _=>?_) (fun _=>?_)|refine AA (fun _=>?_) (fun _=>?_))|(simp only [SSd,Nat.reduceAdd]))
  ·exact Gh.to L (Gh.done (hok I1 none 0 hI1 (RL.nil none 0)))
  ·rename_i hz _
   exact absurd (by simpa using hz) hf
end
theorem YD:∀{l:Bs} {n k:Int},(∀d∈l,Bi d=true)→0≤n→n≤9223372036854775807→OY l n=some k→0≤k∧k≤9223372036854775807
 |[],n,k,_,h0,h1,h=>by simp only [OY,Option.some.injEq] at h;subst h;exact ⟨h0,h1⟩
 |d::r,n,k,hd,h0,h1,h=>by
  have hdg:=hd d (List.mem_cons_self ..);simp only [Bi,Bool.and_eq_true,decide_eq_true_eq] at hdg;have g1:(48:Nat)≤d.toNat:=hdg.1;have g2:d.toNat≤57:=hdg.2;simp only [OY] at h;split at h
  ·cases h
  ·exact YD (fun e he=>hd e (List.mem_cons_of_mem _ he)) (by omega) (by omega) h
theorem AIx {a:Nat}:∀{l:Bs} {t:Tok} {r:Bs},Ij a l= .tok t r→YS t
 |[],t,r,h=>by simp [Ij] at h
 |c::l,t,r,h=>by
  simp only [Ij] at h;split at h
  ·unfold Nb at h;split at h
   ·cases h
   ·simp only [LexR.tok.injEq] at h;obtain ⟨rfl,_⟩:=h;refine ⟨?_,?_,?_,?_⟩
    ·simp only;split <;> decide
    ·simp only
     intro hk;split at hk
     ·rename_i hc;exact List.contains_iff_mem.1 hc
     ·exact absurd hk (by decide)
    ·simp only;intro hk;split at hk <;> exact absurd hk (by decide)
    ·simp only;intro hk;split at hk <;> exact absurd hk (by decide)
  split at h
  ·split at h
   ·cases h
   ·rename_i k hk
    split at h
    ·cases h
    ·simp only [LexR.tok.injEq] at h;obtain ⟨rfl,_⟩:=h;exact ⟨by simp,by simp,by simp,fun _=>YD (fun d hd=>Dn hd) (by omega) (by omega) hk⟩
  split at h
  ·split at h
   ·cases h
   ·split at h
    ·split at h
     ·cases h
     ·simp only [LexR.tok.injEq] at h;obtain ⟨rfl,_⟩:=h;exact ⟨by simp,by simp,by simp,by simp⟩
    ·simp only [LexR.tok.injEq] at h;obtain ⟨rfl,_⟩:=h;exact ⟨by simp,by simp,by simp,by simp⟩
  split at h
  ·cases h
  ·rename_i x hx
   simp only [LexR.tok.injEq] at h;obtain ⟨rfl,_⟩:=h;refine ⟨by simp,by simp,fun _=>?_,by simp⟩;simp only
   split
   ·decide
   ·exact List.mem_of_find?_eq_some hx
theorem OX {a:Nat}:∀{l:Bs} {e:Int},Ij a l= .bad e→e≠0
 |[],e,h=>by simp only [Ij,LexR.bad.injEq] at h;subst h;decide
 |c::l,e,h=>by
  simp only [Ij,Nb] at h;repeat' split at h
  all_goals first
   |(simp only [LexR.bad.injEq] at h;subst h;decide)
   |cases h
theorem Toks.snoc:∀{l:List Tok} {t:Tok},(∀x∈l,YS x)→t.kind=6→Toks (l++[t])
 |[],t,_,h=>h
 |[x],t,hl,h=>⟨hl x (List.mem_cons_self ..),h⟩
 |x::y::l,t,hl,h=>⟨hl x (List.mem_cons_self ..),Toks.snoc (l:=y::l) (fun z hz=>hl z (List.mem_cons_of_mem _ hz)) h⟩
theorem QA (l:Bs):CX false (CX false l)=CX false l:=by
 have go:∀(b:Bool) (l:Bs),CX false (CX b l)=CX b l:=by
  intro b l;induction l generalizing b with
  |nil=>cases b <;> rfl
  |cons c r ih=>
   cases b with
   |true=>
    simp only [CX];split
    ·exact ih false
    ·exact ih true
   |false=>
    simp only [CX];split
    ·exact ih false
    ·rename_i h1
     split
     ·exact ih true
     ·rename_i h2
      simp only [CX,h1,h2,Bool.false_eq_true,if_false]
 exact go false l
def AAS (n f:Nat)(acc:List Tok):Bs→LexA
 |[]=>.toks (acc++[⟨6,n,[],0⟩])
 |c::r=>match Ij (n - (r.length+1)) (c::r) with
   | .bad e=>.bad ⟨e,(n - (r.length+1):Nat)⟩
   | .tok t r'=>IY n f (acc++[t]) r'
theorem Ns (n f:Nat)(acc:List Tok)(s:Bs):IY n (f+1) acc s=AAS n f acc (CX false s):=by
 rw [IY];unfold AAS;cases CX false s <;> rfl
def Vy (ω:Om)(G:Imm):Prop:=∀(K:Value→M) (I:Imm) (L:LH),Ext G I→(∀I' v,Ext I I'→StL I' v wordsL→K v I' L)→CT ω 19 #[] K I L
section
variable {ω:Om}
theorem AHC {I:Imm}{L:LH}{K:Value→M}(t:Tok)(hk:∀I' a,Ext I I'→TL I' (.slice a 1 1) [t]→Gh (K (.slice a 1 1)) I' L):
  Ad 93 4 #[.int .i64 0,.int .i64 0,.string ⟨#[]⟩,.int .i64 0] 1 [(0,.agg #[.int .i64 t.kind,.int .i64 t.at',.string ⟨t.text.toArray⟩,.int .i64 t.num])] (gh K) I L:=
 Du (R:=TokV) [t] [[.int .i64 t.kind,.int .i64 t.at',.string ⟨t.text.toArray⟩,.int .i64 t.num]] rfl rfl rfl (by simp) (by simp [TokV]) (fun hI h=>TokV.mono h) hk
theorem LX {G:Imm}(hW:Vy ω G):SV ω G:=by
 intro s K I L hG hs hok hbad;refine APC ?_;unfold AKx;refine AV (fun b1=>?_);refine call (hW _ _ _ hG (fun I1 w hI1 hw=>?_));obtain ⟨aw,kw,rfl⟩:=RL.form hw;try simp only [SSd,Nat.reduceAdd]
 refine AV (fun b=>?_);have e0:Obj.cells #[.string ⟨s.toArray⟩,.int .i64 0,.slice aw wordsL.length kw] 145 (0,0)=LBo s 0 (.slice aw wordsL.length kw):=rfl;rw [e0];refine call (QH (s:=s) (a:=0) (w:=.slice aw wordsL.length kw) (Nat.zero_le _) hs (fun a0 _ h0 hd0=>?_));refine loop (fun m st I2 Lx=>∃(a:Nat) (X:LH) (v:Value) (cells:List Value) (acc:List Tok) (f:Nat),a+m=s.length∧Ext I1 I2∧st=(.slice none 0 0,v,())∧Lx=X++((b,LBo s a (.slice aw wordsL.length kw))::(b1,.cells [.int .i64 0,.int .i64 0].toArray 26 (0,0))::L)∧SlO 93 4 X v cells acc.length∧Recs (TokV I2) 4 acc cells∧(∀t∈acc,YS t)∧acc.length≤a∧s.length - a≤f∧CX false (s.drop a)=s.drop a∧AFn s=AAS s.length f acc (s.drop a)) (s.length - a0)
  ⟨a0,[],_,[],[],s.length,by omega,Ext.refl _,rfl,rfl,SlO.none _ _,rfl,(fun t h=>by cases h),by simp,by omega,by rw [hd0,QA],by rw [hd0];exact Ns s.length s.length [] s⟩ ?_
 rintro m st I2 Lx ⟨a,X,v,cells,acc,f,hm,hI2,rfl,rfl,hX,hR,hTk,hal,hf,hsk,hlx⟩;obtain ⟨av,kv,rfl⟩:=hX.form;unfold AAy;try simp only [SSd,Nat.reduceAdd]
 refine rdb ?_;try simp only [SSd,Nat.reduceAdd]
 refine AA (fun hb=>?_) (fun hb=>?_)
 ·have ha:a < s.length:=by
   have:=of_decide_eq_true hb;omega
  obtain ⟨c,hc,hd⟩:=Oz ha;have hla:s.length - ((s.drop (a+1)).length+1)=a:=by rw [List.length_drop];omega
  have hlx:AFn s=match Ij a (s.drop a) with
    | .bad e=>.bad ⟨e,(a:Nat)⟩
    | .tok t r'=>IY s.length f (acc++[t]) r':=by
   rw [hlx,hd];simp only [AAS,hla]
  refine call (ZI (s:=s) (a:=a) (w:=.slice aw wordsL.length kw) ha hs (StL.mono hw hI2) ⟨fun t r ht I3 a' hI3 h1 h2 hdr=>?_,fun e he=>⟨OX he,fun I3 a' k x n hI3=>?_⟩⟩)
  ·rw [ht] at hlx;simp only at hlx
   repeat' (first|(with_reducible first|refine Ag ?_|refine Af ?_|refine Ae ?_|refine keepA ?_|refine AV (fun _=>?_)|refine rdb ?_)|((with_reducible first|refine st1 ?_ ?_|refine rdB ?_ ?_);rfl)|(with_reducible refine Ai ?_)|((with_reducible refine Az ?_ ?_);rfl)|((with_reducible refine stB ?_ ?_ ?_ ?_);rfl;rfl;exact AO rfl)|((with_reducible first|refine rdP _ rfl ?_ ?_|refine BB _ rfl ?_ ?_);rfl)|((with_reducible refine stP _ rfl ?_ ?_ ?_ ?_);rfl;rfl;rfl)|(with_reducible refine And.intro ?_ ?_)|(simp only [SSg,Int.reduceBEq,Int.reduceBNe,Int.reduceLT,Int.reduceLE,beq_self_eq_true,bne_self_eq_false])|(with_reducible first|refine AP (fun _=>?_) (fun _=>?_)|refine AA (fun _=>?_) (fun _=>?_))|(simp only [SSd,Nat.reduceAdd,JQ]))
   refine AHC t (fun I4 a4 hI4 hw4=>Gh.done ?_);obtain ⟨c4,s4,r4⟩:=RL.toI (by decide) hw4;refine DJ (X:=X) rfl hX s4.news (r4.one_cells fun x c h=>by rw [show c=_ from h];exact AO rfl) (by simp only [List.length_cons,List.length_nil];omega) (by simp only [List.length_cons,List.length_nil];omega) (fun X5 w5 hX5=>?_);have e5:acc.length+[t].length=(acc++[t]).length:=by simp
   rw [e5] at hX5;have hR5:=Recs.append (Recs.imp (R':=TokV I4) (fun _ _ h=>h) hR) r4;refine call (QH (s:=s) (a:=a') (w:=.slice aw wordsL.length kw) h2 hs (fun a6 h6 h7 hd6=>?_));obtain ⟨f,rfl⟩:∃q,f=q+1:=⟨f - 1,by omega⟩;rw [←hdr,Ns,←hd6] at hlx;refine Gh.to (X5++((b,LBo s a6 (.slice aw wordsL.length kw))::(b1,.cells [.int .i64 0,.int .i64 0].toArray 26 (0,0))::L)) (Gh.done ⟨s.length - a6,by omega,a6,X5,w5,_,acc++[t],f,by omega,Ext.trans hI2 (Ext.trans hI3 hI4),rfl,rfl,hX5,hR5,?_,by simp;omega,by omega,by rw [hd6,QA],hlx⟩);intro x hx;rcases List.mem_append.1 hx with hx|hx
   ·exact hTk x hx
   ·rw [List.mem_singleton.1 hx];exact AIx ht
  ·rw [he] at hlx;have hne:=OX he;repeat' (first|(with_reducible first|refine Ag ?_|refine Af ?_|refine Ae ?_|refine keepA ?_|refine AV (fun _=>?_)|refine rdb ?_)|((with_reducible first|refine st1 ?_ ?_|refine rdB ?_ ?_);rfl)|(with_reducible refine Ai ?_)|((with_reducible refine Az ?_ ?_);rfl)|((with_reducible refine stB ?_ ?_ ?_ ?_);rfl;rfl;exact AO rfl)|((with_reducible first|refine rdP _ rfl ?_ ?_|refine BB _ rfl ?_ ?_);rfl)|((with_reducible refine stP _ rfl ?_ ?_ ?_ ?_);rfl;rfl;rfl)|(with_reducible refine And.intro ?_ ?_)|(simp only [SSg,Int.reduceBEq,Int.reduceBNe,Int.reduceLT,Int.reduceLE,beq_self_eq_true,bne_self_eq_false])|(with_reducible first|refine AP (fun _=>?_) (fun _=>?_)|refine AA (fun _=>?_) (fun _=>?_))|(simp only [SSd,Nat.reduceAdd,JQ]))
   ·rename_i hz
    have hz:=hz;exact Gh.to L (Gh.done (hbad _ hlx hne I3 none 0 0 (Ext.trans hI1 (Ext.trans hI2 hI3))))
   ·rename_i hz
    exact absurd (by simpa using hz) hne
 ·have ha:¬a < s.length:=by
   have:=of_decide_eq_false hb;omega
  have hdn:s.drop a=[]:=List.drop_eq_nil_of_le (by omega);rw [hdn] at hlx;unfold AAx;repeat' (first|(with_reducible first|refine Ag ?_|refine Af ?_|refine Ae ?_|refine keepA ?_|refine AV (fun _=>?_)|refine rdb ?_)|((with_reducible first|refine st1 ?_ ?_|refine rdB ?_ ?_);rfl)|(with_reducible refine Ai ?_)|((with_reducible refine Az ?_ ?_);rfl)|((with_reducible refine stB ?_ ?_ ?_ ?_);rfl;rfl;exact AO rfl)|((with_reducible first|refine rdP _ rfl ?_ ?_|refine BB _ rfl ?_ ?_);rfl)|((with_reducible refine stP _ rfl ?_ ?_ ?_ ?_);rfl;rfl;rfl)|(with_reducible refine And.intro ?_ ?_)|(simp only [SSg,Int.reduceBEq,Int.reduceBNe,Int.reduceLT,Int.reduceLE,beq_self_eq_true,bne_self_eq_false])|(with_reducible first|refine AP (fun _=>?_) (fun _=>?_)|refine AA (fun _=>?_) (fun _=>?_))|(simp only [SSd,Nat.reduceAdd]))
  refine AHC (⟨6,s.length,[],0⟩:Tok) (fun I4 a4 hI4 hw4=>Gh.done ?_);obtain ⟨c4,s4,r4⟩:=RL.toI (by decide) hw4;refine DJ (X:=X) rfl hX s4.news (r4.one_cells fun x c h=>by rw [show c=_ from h];exact AO rfl) (by simp only [List.length_cons,List.length_nil];omega) (by simp only [List.length_cons,List.length_nil];omega) (fun X5 w5 hX5=>?_);have e5:acc.length+[(⟨6,s.length,[],0⟩:Tok)].length=(acc++[(⟨6,s.length,[],0⟩:Tok)]).length:=by simp
  rw [e5] at hX5;have hR5:=Recs.append (Recs.imp (R':=TokV I4) (fun _ _ h=>h) hR) r4;obtain ⟨a5,k5,rfl⟩:=hX5.form;repeat' (first|(with_reducible first|refine Ag ?_|refine Af ?_|refine Ae ?_|refine keepA ?_|refine AV (fun _=>?_)|refine rdb ?_)|((with_reducible first|refine st1 ?_ ?_|refine rdB ?_ ?_);rfl)|(with_reducible refine Ai ?_)|((with_reducible refine Az ?_ ?_);rfl)|((with_reducible refine stB ?_ ?_ ?_ ?_);rfl;rfl;exact AO rfl)|((with_reducible first|refine rdP _ rfl ?_ ?_|refine BB _ rfl ?_ ?_);rfl)|((with_reducible refine stP _ rfl ?_ ?_ ?_ ?_);rfl;rfl;rfl)|(with_reducible refine And.intro ?_ ?_)|(simp only [SSg,Int.reduceBEq,Int.reduceBNe,Int.reduceLT,Int.reduceLE,beq_self_eq_true,bne_self_eq_false])|(with_reducible first|refine AP (fun _=>?_) (fun _=>?_)|refine AA (fun _=>?_) (fun _=>?_))|(simp only [SSd,Nat.reduceAdd]))
  refine Gh.to (X5++L) ?_;refine RL.ofO (R:=TokV) (fun {I I' x c} h hI=>h) hX5 hR5 (fun I6 hI6 hw6=>Gh.done ?_);exact hok _ hlx (Toks.snoc hTk rfl) (by simp;omega) I6 _ (Ext.trans hI1 (Ext.trans hI2 (Ext.trans hI4 hI6))) hw6
end
end Go.Proofs.YtkifgfanjcfedaaGreatDoor
namespace Go.Proofs
open Go.Shelf
def Tryz.lay173_ren:Go.Shelf.Ren:=⟨fun|173=>212|246=>223|283=>235|284=>236|285=>237|286=>238|129=>245|317=>244|318=>246|319=>247|320=>248|337=>256|338=>257|n=>n,fun|2=>2|3=>3|9=>9|4=>4|171=>267|0=>0|53=>268|37=>71|5=>5|173=>271|212=>275|51=>173|20=>20|213=>276|46=>252|232=>282|233=>283|n=>n,fun|17=>5|18=>6|19=>7|n=>n⟩
theorem Tryz.lay173:Go.Proofs.LaysM.n173 Tryz.prog Tryz.lay173_ren:={
 mixed:=by kernel_rfl
 f129:=Tryz.func245.trans (congrArg some (by kernel_rfl))
 f173:=Tryz.func212.trans (congrArg some (by kernel_rfl))
 f246:=Tryz.func223.trans (congrArg some (by kernel_rfl))
 f283:=Tryz.func235.trans (congrArg some (by kernel_rfl))
 f284:=Tryz.func236.trans (congrArg some (by kernel_rfl))
 f285:=Tryz.func237.trans (congrArg some (by kernel_rfl))
 f286:=Tryz.func238.trans (congrArg some (by kernel_rfl))
 f317:=Tryz.func244.trans (congrArg some (by kernel_rfl))
 f318:=Tryz.func246.trans (congrArg some (by kernel_rfl))
 f319:=Tryz.func247.trans (congrArg some (by kernel_rfl))
 f320:=Tryz.func248.trans (congrArg some (by kernel_rfl))
 f337:=Tryz.func256.trans (congrArg some (by kernel_rfl))
 f338:=Tryz.func257.trans (congrArg some (by kernel_rfl))
 t0:=Tryz.underlying0
 a0:=Tryz.isAgg0
 z0:=Tryz.sizeOf0
 v0:=Tryz.zeroValue0
 t2:=Tryz.underlying2
 a2:=Tryz.isAgg2
 z2:=Tryz.sizeOf2
 v2:=Tryz.zeroValue2
 t3:=Tryz.underlying3
 a3:=Tryz.isAgg3
 z3:=Tryz.sizeOf3
 v3:=Tryz.zeroValue3
 t4:=Tryz.underlying4
 a4:=Tryz.isAgg4
 z4:=Tryz.sizeOf4
 v4:=Tryz.zeroValue4
 t5:=Tryz.underlying5
 a5:=Tryz.isAgg5
 z5:=Tryz.sizeOf5
 v5:=Tryz.zeroValue5
 t9:=Tryz.underlying9
 a9:=Tryz.isAgg9
 z9:=Tryz.sizeOf9
 v9:=Tryz.zeroValue9
 t20:=Tryz.underlying20
 a20:=Tryz.isAgg20
 z20:=Tryz.sizeOf20
 v20:=Tryz.zeroValue20
 t37:=Tryz.underlying71
 a37:=Tryz.isAgg71
 z37:=Tryz.sizeOf71
 v37:=Tryz.zeroValue71
 t46:=Tryz.underlying252
 a46:=Tryz.isAgg252
 z46:=Tryz.sizeOf252
 v46:=Tryz.zeroValue252
 t51:=Tryz.underlying173
 a51:=Tryz.isAgg173
 z51:=Tryz.sizeOf173
 v51:=Tryz.zeroValue173
 t53:=Tryz.underlying268
 a53:=Tryz.isAgg268
 z53:=Tryz.sizeOf268
 v53:=Tryz.zeroValue268
 t171:=Tryz.underlying267
 a171:=Tryz.isAgg267
 z171:=Tryz.sizeOf267
 v171:=Tryz.zeroValue267
 t173:=Tryz.underlying271
 a173:=Tryz.isAgg271
 z173:=Tryz.sizeOf271
 v173:=Tryz.zeroValue271
 t212:=Tryz.underlying275
 a212:=Tryz.isAgg275
 z212:=Tryz.sizeOf275
 v212:=Tryz.zeroValue275
 t213:=Tryz.underlying276
 a213:=Tryz.isAgg276
 z213:=Tryz.sizeOf276
 t232:=Tryz.underlying282
 a232:=Tryz.isAgg282
 z232:=Tryz.sizeOf282
 v232:=Tryz.zeroValue282
 t233:=Tryz.underlying283
 a233:=Tryz.isAgg283
 z233:=Tryz.sizeOf283
 v233:=Tryz.zeroValue283
 g17:=by kernel_rfl
 g18:=by kernel_rfl
 g19:=by kernel_rfl
 i0:=by kernel_rfl
 i2:=by kernel_rfl
 i3:=by kernel_rfl
 i4:=by kernel_rfl
 i5:=by kernel_rfl
 i9:=by kernel_rfl
 i20:=by kernel_rfl
 i37:=by kernel_rfl
 i46:=by kernel_rfl
 i51:=by kernel_rfl
 i53:=by kernel_rfl
 i171:=by kernel_rfl
 i173:=by kernel_rfl
 i212:=by kernel_rfl
 i232:=by kernel_rfl
 i233:=by kernel_rfl
 m17:=by kernel_rfl
 m18:=by kernel_rfl
 m19:=by kernel_rfl}
def Tryz.lay171_ren:Go.Shelf.Ren:=⟨fun|171=>171|243=>208|246=>223|283=>235|284=>236|285=>237|286=>238|129=>245|317=>244|318=>246|319=>247|320=>248|337=>256|338=>257|n=>n,fun|3=>3|9=>9|2=>2|4=>4|171=>267|0=>0|53=>268|37=>71|5=>5|173=>271|212=>275|51=>173|20=>20|213=>276|46=>252|232=>282|233=>283|n=>n,fun|17=>5|18=>6|19=>7|n=>n⟩
theorem Tryz.lay171:Go.Proofs.LaysM.n171 Tryz.prog Tryz.lay171_ren:={
 mixed:=by kernel_rfl
 f129:=Tryz.func245.trans (congrArg some (by kernel_rfl))
 f171:=Tryz.func171.trans (congrArg some (by kernel_rfl))
 f243:=Tryz.func208.trans (congrArg some (by kernel_rfl))
 f246:=Tryz.func223.trans (congrArg some (by kernel_rfl))
 f283:=Tryz.func235.trans (congrArg some (by kernel_rfl))
 f284:=Tryz.func236.trans (congrArg some (by kernel_rfl))
 f285:=Tryz.func237.trans (congrArg some (by kernel_rfl))
 f286:=Tryz.func238.trans (congrArg some (by kernel_rfl))
 f317:=Tryz.func244.trans (congrArg some (by kernel_rfl))
 f318:=Tryz.func246.trans (congrArg some (by kernel_rfl))
 f319:=Tryz.func247.trans (congrArg some (by kernel_rfl))
 f320:=Tryz.func248.trans (congrArg some (by kernel_rfl))
 f337:=Tryz.func256.trans (congrArg some (by kernel_rfl))
 f338:=Tryz.func257.trans (congrArg some (by kernel_rfl))
 t0:=Tryz.underlying0
 a0:=Tryz.isAgg0
 z0:=Tryz.sizeOf0
 v0:=Tryz.zeroValue0
 t2:=Tryz.underlying2
 a2:=Tryz.isAgg2
 z2:=Tryz.sizeOf2
 v2:=Tryz.zeroValue2
 t3:=Tryz.underlying3
 a3:=Tryz.isAgg3
 z3:=Tryz.sizeOf3
 v3:=Tryz.zeroValue3
 t4:=Tryz.underlying4
 a4:=Tryz.isAgg4
 z4:=Tryz.sizeOf4
 v4:=Tryz.zeroValue4
 t5:=Tryz.underlying5
 a5:=Tryz.isAgg5
 z5:=Tryz.sizeOf5
 v5:=Tryz.zeroValue5
 t9:=Tryz.underlying9
 a9:=Tryz.isAgg9
 z9:=Tryz.sizeOf9
 v9:=Tryz.zeroValue9
 t20:=Tryz.underlying20
 a20:=Tryz.isAgg20
 z20:=Tryz.sizeOf20
 v20:=Tryz.zeroValue20
 t37:=Tryz.underlying71
 a37:=Tryz.isAgg71
 z37:=Tryz.sizeOf71
 v37:=Tryz.zeroValue71
 t46:=Tryz.underlying252
 a46:=Tryz.isAgg252
 z46:=Tryz.sizeOf252
 v46:=Tryz.zeroValue252
 t51:=Tryz.underlying173
 a51:=Tryz.isAgg173
 z51:=Tryz.sizeOf173
 v51:=Tryz.zeroValue173
 t53:=Tryz.underlying268
 a53:=Tryz.isAgg268
 z53:=Tryz.sizeOf268
 v53:=Tryz.zeroValue268
 t171:=Tryz.underlying267
 a171:=Tryz.isAgg267
 z171:=Tryz.sizeOf267
 v171:=Tryz.zeroValue267
 t173:=Tryz.underlying271
 a173:=Tryz.isAgg271
 z173:=Tryz.sizeOf271
 v173:=Tryz.zeroValue271
 t212:=Tryz.underlying275
 a212:=Tryz.isAgg275
 z212:=Tryz.sizeOf275
 v212:=Tryz.zeroValue275
 t213:=Tryz.underlying276
 a213:=Tryz.isAgg276
 z213:=Tryz.sizeOf276
 t232:=Tryz.underlying282
 a232:=Tryz.isAgg282
 z232:=Tryz.sizeOf282
 v232:=Tryz.zeroValue282
 t233:=Tryz.underlying283
 a233:=Tryz.isAgg283
 z233:=Tryz.sizeOf283
 v233:=Tryz.zeroValue283
 g17:=by kernel_rfl
 g18:=by kernel_rfl
 g19:=by kernel_rfl
 i0:=by kernel_rfl
 i2:=by kernel_rfl
 i3:=by kernel_rfl
 i4:=by kernel_rfl
 i5:=by kernel_rfl
 i9:=by kernel_rfl
 i20:=by kernel_rfl
 i37:=by kernel_rfl
 i46:=by kernel_rfl
 i51:=by kernel_rfl
 i53:=by kernel_rfl
 i171:=by kernel_rfl
 i173:=by kernel_rfl
 i212:=by kernel_rfl
 i232:=by kernel_rfl
 i233:=by kernel_rfl
 m17:=by kernel_rfl
 m18:=by kernel_rfl
 m19:=by kernel_rfl}
end Go.Proofs
namespace Go.Proofs.YtkifgfanjcfedaaGreatDoor
open Go.SL
def Eb (G : Imm) : Prop := ∃ g T fr, Tryz.prog.globalNamed "internal/strconv.uint64pow10" = some g ∧ G g = some (.cells (Lib.pow10Tab.map fun z => Value.int .u64 z).toArray T fr)
theorem PE:∀(f n:Nat) (acc:Bs),n < f→AGC f n acc=Lib.decDigits n++acc
 |0,n,acc,h=>by omega
 |f+1,n,acc,h=>by
  rw [AGC,Lib.decDigits];split
  ·rfl
  ·rw [PE f (n / 10) _ (by omega),List.append_assoc];rfl
theorem Qb (n:Int):PG true n=Lib.itoa n:=by
 unfold PG Lib.itoa;split
 ·simp only [if_true];rw [PE _ _ _ (by omega),List.append_nil]
 ·rw [PE _ _ _ (by omega),List.append_nil]
section
variable {ω:Om}{I:Imm}{L:LH}{K:Value→M}
theorem St.grows {w:World}{k:Nat}{os:Array Obj}(hs:St ω w I L):St ω (Sort.grow (w.drewN k) os) I L:=by
 have hd:St ω (w.drewN k) I L:=hs.drew (Nat.le_add_right _ _);refine ⟨fun b o hb=>?_,fun b o hb=>?_,hd.nodup,hd.apart,hd.tape,hd.os,hd.out,hd.dr⟩
 ·have:=hd.imm b o hb;show ((w.drewN k).heap++os)[b]? =some o;rw [Array.getElem?_append_left (Array.getElem?_eq_some_iff.1 this).1];exact this
 ·have:=hd.own b o hb;show ((w.drewN k).heap++os)[b]? =some o;rw [Array.getElem?_append_left (Array.getElem?_eq_some_iff.1 this).1];exact this
theorem Xz {G : Imm}{w : World}(hG : Eb G)(hI : Ext G I)(hs : St ω w I L) : Lib.TabIs Tryz.prog w "internal/strconv.uint64pow10" .u64 Lib.pow10Tab := by
 obtain ⟨g,T,fr,h1,h2⟩:=hG;unfold Lib.TabIs World.var?;rw [h1];have:=hs.imm g _ (hI g _ h2);simp only [Option.bind_some,this]
theorem Oi {G:Imm}(hG:Eb G)(hI:Ext G I)(n:Int)(h0: -9223372036854775808≤n)(h1:n≤9223372036854775807)(hk:K (.string ⟨(PG true n).toArray⟩) I L):CT ω 212 #[.int .i64 n,.int .i64 10] K I L:=fun w hs=>by
 have h:=Go.Proofs.Any.strconv_FormatInt_10 Go.Proofs.Tryz.lay173 n h0 h1 w (Xz hG hI hs);refine Calls.mono h ?_;rintro e w' ⟨rfl,k,os,rfl⟩;rw [Qb] at hk;exact ⟨_,I,L,rfl,St.grows hs,hk⟩
theorem QQ {G:Imm}(hG:Eb G)(hI:Ext G I)(n:Int)(h0: -9223372036854775808≤n)(h1:n≤9223372036854775807)(hk:K (.string ⟨(PG true n).toArray⟩) I L):CT ω 171 #[.int .i64 n] K I L:=fun w hs=>by
 have h:=Go.Proofs.Any.strconv_Itoa Go.Proofs.Tryz.lay171 n h0 h1 w (Xz hG hI hs);refine Calls.mono h ?_;rintro e w' ⟨rfl,k,os,rfl⟩;rw [Qb] at hk;exact ⟨_,I,L,rfl,St.grows hs,hk⟩
end
def okc (c:UInt8):Bool:=(Cf c||Bi c)&& !(65≤c&&c≤90)
theorem Rq (c:UInt8):okc c=((Cf c||Bi c)&&(decide ((c.toNat:Int) < 65)||decide ((90:Int) < c.toNat))):=by
 have:=Jd (p:=fun c=>okc c==((Cf c||Bi c)&&(decide ((c.toNat:Int) < 65)||decide ((90:Int) < c.toNat)))) (by decide+kernel) c;exact eq_of_beq this
theorem ZE (s:Bs):KO s=((!s.isEmpty&&(!s.head?.any Bi&& !wordsL.contains s))&&s.all okc):=by
 unfold KO okc;simp only [Bool.and_assoc]
theorem PU {p:UInt8→Bool}{s:Bs}{i:Nat}(h:i < s.length):(s.take (i+1)).all p=((s.take i).all p&&p s[i]):=by
 rw [List.take_succ_eq_append_getElem h,List.all_append];simp
theorem VW {ω:Om}{I:Imm}{L:LH}{K:Value→M}{s:Bs}{pl:Bool}{p0:Value}(hs:s.length≤1000000000)(hk:GZ ω p0 (.string ⟨s.toArray⟩) (.bool (pl&&s.all okc)) (fun v=>Gh (K v)) I L):
  BD ((.bool pl,.int .i64 0,()):Value×Value×Unit) (fun st Kn=>RJ ω p0 (.string ⟨s.toArray⟩) (.int .i64 s.length) st.1 st.2.1 Kn (fun v=>Gh (K v))) I L:=by
 refine loop (fun q st I' L'=>∃i:Nat,i+q=s.length∧st=(Value.bool (pl&&(s.take i).all okc),Value.int .i64 (i:Nat),())∧I'=I∧L'=L) s.length ⟨0,by omega,by simp,rfl,rfl⟩ ?_;rintro q st I' L' ⟨i,hq,rfl,rfl,rfl⟩;unfold RJ;try simp only [SSd,Nat.reduceAdd]
 refine AA (fun hb=>?_) (fun hb=>?_)
 ·have hb:i < s.length:=by
   have:=of_decide_eq_true hb;omega
  have hc:s[i]? =some s[i]:=List.getElem?_eq_getElem hb;have hat:=PU (p:=okc) hb;rw [Rq] at hat;generalize s[i]=c at hc hat;generalize (s.take i).all okc=tk at hat ⊢;repeat' (first|(with_reducible first|refine Ag ?_|refine Af ?_|refine Ae ?_|refine keepA ?_|refine AV (fun _=>?_))|((with_reducible refine call ?_);with_reducible refine EM c ?_)|((with_reducible refine call ?_);with_reducible refine EG c ?_)|(with_reducible refine rdb ?_)|((with_reducible first|refine st1 ?_ ?_|refine rdB ?_ ?_);rfl)|(with_reducible refine Ai ?_)|((with_reducible refine Az ?_ ?_);rfl)|((with_reducible refine stB ?_ ?_ ?_ ?_);rfl;rfl;exact AO rfl)|((with_reducible first|refine rdP _ rfl ?_ ?_|refine BB _ rfl ?_ ?_);rfl)|((with_reducible refine stP _ rfl ?_ ?_ ?_ ?_);rfl;rfl;rfl)|(with_reducible refine And.intro ?_ ?_)|(simp only [SSg,Int.reduceBEq,Int.reduceBNe,Int.reduceLT,Int.reduceLE,beq_self_eq_true,bne_self_eq_false])|(with_reducible first|refine AP (fun _=>?_) (fun _=>?_)|refine AA (fun _=>?_) (fun _=>?_))|(simp only [SSd,Nat.reduceAdd,ixS s hc,wrap_i64 ((i:Int)+1) (by omega)]))
  all_goals (refine Gh.done ⟨q - 1,by omega,i+1,by omega,?_,rfl,rfl⟩;rw [hat];clear hk hat;simp_all;try omega)
 ·have hb:¬i < s.length:=by
   have:=of_decide_eq_false hb;omega
  rw [List.take_of_length_le (by omega)];exact hk
theorem VV {ω:Om}{I:Imm}{L:LH}{K:Value→M}{s:Bs}{pl:Bool}{p0:Value}(hs:s.length≤1000000000)(hk:GZ ω p0 (.string ⟨s.toArray⟩) (.bool (pl&&s.all okc)) (fun v=>Gh (K v)) I L):
  BD ((.bool pl,.int .i64 0,()):Value×Value×Unit) (fun st Kn=>RI ω p0 (.string ⟨s.toArray⟩) (.int .i64 s.length) st.1 st.2.1 Kn (fun v=>Gh (K v))) I L:=by
 refine loop (fun q st I' L'=>∃i:Nat,i+q=s.length∧st=(Value.bool (pl&&(s.take i).all okc),Value.int .i64 (i:Nat),())∧I'=I∧L'=L) s.length ⟨0,by omega,by simp,rfl,rfl⟩ ?_;rintro q st I' L' ⟨i,hq,rfl,rfl,rfl⟩;unfold RI;try simp only [SSd,Nat.reduceAdd]
 refine AA (fun hb=>?_) (fun hb=>?_)
 ·have hb:i < s.length:=by
   have:=of_decide_eq_true hb;omega
  have hc:s[i]? =some s[i]:=List.getElem?_eq_getElem hb;have hat:=PU (p:=okc) hb;rw [Rq] at hat;generalize s[i]=c at hc hat;generalize (s.take i).all okc=tk at hat ⊢;repeat' (first|(with_reducible first|refine Ag ?_|refine Af ?_|refine Ae ?_|refine keepA ?_|refine AV (fun _=>?_))|((with_reducible refine call ?_);with_reducible refine EM c ?_)|((with_reducible refine call ?_);with_reducible refine EG c ?_)|(with_reducible refine rdb ?_)|((with_reducible first|refine st1 ?_ ?_|refine rdB ?_ ?_);rfl)|(with_reducible refine Ai ?_)|((with_reducible refine Az ?_ ?_);rfl)|((with_reducible refine stB ?_ ?_ ?_ ?_);rfl;rfl;exact AO rfl)|((with_reducible first|refine rdP _ rfl ?_ ?_|refine BB _ rfl ?_ ?_);rfl)|((with_reducible refine stP _ rfl ?_ ?_ ?_ ?_);rfl;rfl;rfl)|(with_reducible refine And.intro ?_ ?_)|(simp only [SSg,Int.reduceBEq,Int.reduceBNe,Int.reduceLT,Int.reduceLE,beq_self_eq_true,bne_self_eq_false])|(with_reducible first|refine AP (fun _=>?_) (fun _=>?_)|refine AA (fun _=>?_) (fun _=>?_))|(simp only [SSd,Nat.reduceAdd,ixS s hc,wrap_i64 ((i:Int)+1) (by omega)]))
  all_goals (refine Gh.done ⟨q - 1,by omega,i+1,by omega,?_,rfl,rfl⟩;rw [hat];clear hk hat;simp_all;try omega)
 ·have hb:¬i < s.length:=by
   have:=of_decide_eq_false hb;omega
  rw [List.take_of_length_le (by omega)];exact hk
theorem VU {ω:Om}{I:Imm}{L:LH}{K:Value→M}{s:Bs}{pl:Bool}{p0:Value}(hs:s.length≤1000000000)(hk:GZ ω p0 (.string ⟨s.toArray⟩) (.bool (pl&&s.all okc)) (fun v=>Gh (K v)) I L):
  BD ((.bool pl,.int .i64 0,()):Value×Value×Unit) (fun st Kn=>RH ω p0 (.string ⟨s.toArray⟩) (.int .i64 s.length) st.1 st.2.1 Kn (fun v=>Gh (K v))) I L:=by
 refine loop (fun q st I' L'=>∃i:Nat,i+q=s.length∧st=(Value.bool (pl&&(s.take i).all okc),Value.int .i64 (i:Nat),())∧I'=I∧L'=L) s.length ⟨0,by omega,by simp,rfl,rfl⟩ ?_;rintro q st I' L' ⟨i,hq,rfl,rfl,rfl⟩;unfold RH;try simp only [SSd,Nat.reduceAdd]
 refine AA (fun hb=>?_) (fun hb=>?_)
 ·have hb:i < s.length:=by
   have:=of_decide_eq_true hb;omega
  have hc:s[i]? =some s[i]:=List.getElem?_eq_getElem hb;have hat:=PU (p:=okc) hb;rw [Rq] at hat;generalize s[i]=c at hc hat;generalize (s.take i).all okc=tk at hat ⊢;repeat' (first|(with_reducible first|refine Ag ?_|refine Af ?_|refine Ae ?_|refine keepA ?_|refine AV (fun _=>?_))|((with_reducible refine call ?_);with_reducible refine EM c ?_)|((with_reducible refine call ?_);with_reducible refine EG c ?_)|(with_reducible refine rdb ?_)|((with_reducible first|refine st1 ?_ ?_|refine rdB ?_ ?_);rfl)|(with_reducible refine Ai ?_)|((with_reducible refine Az ?_ ?_);rfl)|((with_reducible refine stB ?_ ?_ ?_ ?_);rfl;rfl;exact AO rfl)|((with_reducible first|refine rdP _ rfl ?_ ?_|refine BB _ rfl ?_ ?_);rfl)|((with_reducible refine stP _ rfl ?_ ?_ ?_ ?_);rfl;rfl;rfl)|(with_reducible refine And.intro ?_ ?_)|(simp only [SSg,Int.reduceBEq,Int.reduceBNe,Int.reduceLT,Int.reduceLE,beq_self_eq_true,bne_self_eq_false])|(with_reducible first|refine AP (fun _=>?_) (fun _=>?_)|refine AA (fun _=>?_) (fun _=>?_))|(simp only [SSd,Nat.reduceAdd,ixS s hc,wrap_i64 ((i:Int)+1) (by omega)]))
  all_goals (refine Gh.done ⟨q - 1,by omega,i+1,by omega,?_,rfl,rfl⟩;rw [hat];clear hk hat;simp_all;try omega)
 ·have hb:¬i < s.length:=by
   have:=of_decide_eq_false hb;omega
  rw [List.take_of_length_le (by omega)];exact hk
section
variable {ω:Om}{I:Imm}{L F:LH}{K:Value→M}{b:Nat}{w:Value}{X:LH}{l:Bs}
theorem AFh (s:Bs):s.length≤(nameB s).length:=by
 unfold nameB;split
 ·exact Nat.le_refl _
 ·show s.length≤(Jj 34 s).length;have:=SG 34 s;have h:Jj 34 s=[34]++(DT 34 s++[34]):=rfl;rw [h];simp only [List.length_append];omega
theorem BP [hs:SplitL X L F](hW:WrS b w X l)(hw:StL I w wordsL)(s:Bs)(hn:(l++nameB s).length≤1000000000)(hk:∀I' X',Ext I I'→WrS b w X' (l++nameB s)→K (.tuple #[]) I' (X'++F)):
  CT ω 114 #[AX b,.string ⟨s.toArray⟩] K I L:=by
 have hsl:s.length≤1000000000:=by have:=AFh s;rw [List.length_append] at hn;omega
 refine Cal.split X ?_;refine ANl ?_;unfold AEV;have fin:∀pl:Bool,(pl&&s.all okc)=KO s→GZ ω (AX b) (.string ⟨s.toArray⟩) (.bool (pl&&s.all okc)) (fun v=>Gh (K v)) I (X++F):=by
  intro pl hpl;rw [hpl];unfold GZ;unfold nameB at hn hk;cases hp:KO s with
  |true=>
   rw [hp] at hn hk;try simp only [SSd,Nat.reduceAdd]
   refine BL hW (by simpa using hn) (fun I' X' hI' hW'=>Gh.done (hk I' X' hI' (by simpa using hW')))
  |false=>
   rw [hp] at hn hk;try simp only [SSd,Nat.reduceAdd]
   refine call (OQ hW s 34 (by simpa using hn) (fun I' X' hI' hW'=>Gh.done (hk I' X' hI' (by simpa using hW'))))
 have hpe:=ZE s;cases s with
 |nil=>
  have e0:((([]:Bs)==[])=true):=rfl;simp only [sNe,RZ,e0,Bool.not_true,SSd,Nat.reduceAdd];exact VU hsl (fin false (by rw [hpe];rfl))
 |cons c r=>
  have e0:((c::r)==([]:Bs))=false:=rfl;have hc0:(c::r)[0]? =some c:=rfl;simp only [sNe,RZ,e0,Bool.not_false,show (.int .i64 0:Value)= .int .i64 ((0:Nat):Int) from rfl,ixS (c::r) hc0,SSd,Nat.reduceAdd];refine call (EG c ?_);simp only [List.isEmpty_cons,List.head?_cons,Option.any_some,Bool.not_false,Bool.true_and] at hpe;cases hd:Bi c with
  |true=>
   rw [hd] at hpe;simp only [SSd,Nat.reduceAdd,RZ];exact VV hsl (fin false (by rw [hpe];rfl))
  |false=>
   rw [hd] at hpe;obtain ⟨p,v,X0,hp,hX,rfl⟩:=hW;simp only [List.append_assoc,List.cons_append,List.nil_append,SSd,Nat.reduceAdd] at fin ⊢;refine rdb ?_;refine call (JZ hw (by decide) (c::r) ?_);simp only [SSd,Nat.reduceAdd,RZ];exact VW hsl (fin _ (by rw [hpe];rfl))
def AAf (k:Int):Option Value:=(Fe k).map fun x=>.agg #[.string ⟨x.1.toArray⟩,.int .i64 x.2]
theorem AHb:Di (Di (Di (Di (Di (Di (Di (Di (Di (Di (Di (Di (Di (Di (Di ((fun _=>none)) 22 (some (.agg #[.string ⟨[111,114].toArray⟩,.int .i64 1]))) 21 (some (.agg #[.string ⟨[97,110,100].toArray⟩,.int .i64 2]))) 23 (some (.agg #[.string ⟨[108,105,107,101].toArray⟩,.int .i64 4]))) 15 (some (.agg #[.string ⟨[61].toArray⟩,.int .i64 4]))) 16 (some (.agg #[.string ⟨[60,62].toArray⟩,.int .i64 4]))) 17 (some (.agg #[.string ⟨[60].toArray⟩,.int .i64 4]))) 18 (some (.agg #[.string ⟨[60,61].toArray⟩,.int .i64 4]))) 19 (some (.agg #[.string ⟨[62].toArray⟩,.int .i64 4]))) 20 (some (.agg #[.string ⟨[62,61].toArray⟩,.int .i64 4]))) 9 (some (.agg #[.string ⟨[43].toArray⟩,.int .i64 5]))) 10 (some (.agg #[.string ⟨[45].toArray⟩,.int .i64 5]))) 14 (some (.agg #[.string ⟨[124,124].toArray⟩,.int .i64 5]))) 11 (some (.agg #[.string ⟨[42].toArray⟩,.int .i64 6]))) 12 (some (.agg #[.string ⟨[47].toArray⟩,.int .i64 6]))) 13 (some (.agg #[.string ⟨[37].toArray⟩,.int .i64 6]))=AAf:=by
 funext k
 simp only [Di,AAf,Fe];by_cases h22:k=22
 ·subst h22;rfl
 by_cases h21:k=21
 ·subst h21;rfl
 by_cases h23:k=23
 ·subst h23;rfl
 by_cases h15:k=15
 ·subst h15;rfl
 by_cases h16:k=16
 ·subst h16;rfl
 by_cases h17:k=17
 ·subst h17;rfl
 by_cases h18:k=18
 ·subst h18;rfl
 by_cases h19:k=19
 ·subst h19;rfl
 by_cases h20:k=20
 ·subst h20;rfl
 by_cases h9:k=9
 ·subst h9;rfl
 by_cases h10:k=10
 ·subst h10;rfl
 by_cases h14:k=14
 ·subst h14;rfl
 by_cases h11:k=11
 ·subst h11;rfl
 by_cases h12:k=12
 ·subst h12;rfl
 by_cases h13:k=13
 ·subst h13;rfl
 simp only [h22,h21,h23,h15,h16,h17,h18,h19,h20,h9,h10,h14,h11,h12,h13,if_false];rfl
theorem DI (s:Bs)(n:Int):BC Zc #[(0,1),(1,1)] [(0,.string ⟨s.toArray⟩),(1,.int .i64 n)]=some (.agg #[.string ⟨s.toArray⟩,.int .i64 n]):=rfl
theorem Ey (hk:∀bm es clock,MapSi es clock AAf→K (.map (some bm)) I ((bm,.map es clock)::L)):CT ω 176 #[] K I L:=by
 refine AMp ?_;unfold ACp;refine AFe (fun bm=>?_);obtain ⟨es0,c0,e0,p0⟩:=MapSi.empty.put 22 (.agg #[.string ⟨[111,114].toArray⟩,.int .i64 1]);obtain ⟨es1,c1,e1,p1⟩:=p0.put 21 (.agg #[.string ⟨[97,110,100].toArray⟩,.int .i64 2]);obtain ⟨es2,c2,e2,p2⟩:=p1.put 23 (.agg #[.string ⟨[108,105,107,101].toArray⟩,.int .i64 4]);obtain ⟨es3,c3,e3,p3⟩:=p2.put 15 (.agg #[.string ⟨[61].toArray⟩,.int .i64 4]);obtain ⟨es4,c4,e4,p4⟩:=p3.put 16 (.agg #[.string ⟨[60,62].toArray⟩,.int .i64 4]);obtain ⟨es5,c5,e5,p5⟩:=p4.put 17 (.agg #[.string ⟨[60].toArray⟩,.int .i64 4]);obtain ⟨es6,c6,e6,p6⟩:=p5.put 18 (.agg #[.string ⟨[60,61].toArray⟩,.int .i64 4]);obtain ⟨es7,c7,e7,p7⟩:=p6.put 19 (.agg #[.string ⟨[62].toArray⟩,.int .i64 4]);obtain ⟨es8,c8,e8,p8⟩:=p7.put 20 (.agg #[.string ⟨[62,61].toArray⟩,.int .i64 4]);obtain ⟨es9,c9,e9,p9⟩:=p8.put 9 (.agg #[.string ⟨[43].toArray⟩,.int .i64 5]);obtain ⟨es10,c10,e10,p10⟩:=p9.put 10 (.agg #[.string ⟨[45].toArray⟩,.int .i64 5]);obtain ⟨es11,c11,e11,p11⟩:=p10.put 14 (.agg #[.string ⟨[124,124].toArray⟩,.int .i64 5]);obtain ⟨es12,c12,e12,p12⟩:=p11.put 11 (.agg #[.string ⟨[42].toArray⟩,.int .i64 6]);obtain ⟨es13,c13,e13,p13⟩:=p12.put 12 (.agg #[.string ⟨[47].toArray⟩,.int .i64 6]);obtain ⟨es14,c14,e14,p14⟩:=p13.put 13 (.agg #[.string ⟨[37].toArray⟩,.int .i64 6]);rw [AHb] at p14;refine Gh.done ?_;simp only [DI,CZ];refine Ec (k:=22) MapSi.empty e0 ?_;refine Gh.done ?_;simp only [DI,CZ];refine Ec (k:=21) p0 e1 ?_;refine Gh.done ?_;simp only [DI,CZ]
 refine Ec (k:=23) p1 e2 ?_;refine Gh.done ?_;simp only [DI,CZ];refine Ec (k:=15) p2 e3 ?_;refine Gh.done ?_;simp only [DI,CZ];refine Ec (k:=16) p3 e4 ?_;refine Gh.done ?_;simp only [DI,CZ];refine Ec (k:=17) p4 e5 ?_;refine Gh.done ?_;simp only [DI,CZ];refine Ec (k:=18) p5 e6 ?_;refine Gh.done ?_;simp only [DI,CZ];refine Ec (k:=19) p6 e7 ?_;refine Gh.done ?_;simp only [DI,CZ];refine Ec (k:=20) p7 e8 ?_;refine Gh.done ?_;simp only [DI,CZ];refine Ec (k:=9) p8 e9 ?_;refine Gh.done ?_;simp only [DI,CZ];refine Ec (k:=10) p9 e10 ?_;refine Gh.done ?_;simp only [DI,CZ];refine Ec (k:=14) p10 e11 ?_;refine Gh.done ?_;simp only [DI,CZ];refine Ec (k:=11) p11 e12 ?_;refine Gh.done ?_;simp only [DI,CZ];refine Ec (k:=12) p12 e13 ?_;refine Gh.done ?_;simp only [DI,CZ];refine Ec (k:=13) p13 e14 ?_;refine Gh.done ?_;exact Gh.done (hk bm _ _ p14)
theorem Ff {k:Int}{es:Array MapEntry}{clock bm:Nat}{K:Value→M}[hin:InL bm L (.map es clock)](h:MapSi es clock AAf)(hy:∀s n,Fe k=some (s,n)→K (.tuple #[.agg #[.string ⟨s.toArray⟩,.int .i64 n],.bool true]) I L)(hn:Fe k=none→K (.tuple #[.agg #[.string (ByteArray.mk #[]),.int .i64 0],.bool false]) I L):
  Rv none (lkR (.int .i64) (.agg #[.string (ByteArray.mk #[]),.int .i64 0]) true (.map (some bm)) (.int .i64 k)) K I L:=by
 refine AON (k:=k) h ?_;unfold AAf;cases hs:Fe k with
 |none=>exact hn hs
 |some x=>exact hy x.1 x.2 hs
theorem VZ (k : Int) (hk : K (.int .i64 (AIz k)) I L) : CT ω 175 #[.int .i64 k] K I L := by
  refine AMq ?_
  unfold ACr
  unfold AIz at hk
  try simp only [SSd, Nat.reduceAdd]
  refine AA (fun h => ?_) (fun h => ?_)
  · have h : k = 5 := by simpa using h
    rw [if_pos h] at hk; exact Gh.done hk
  have h5 : k ≠ 5 := by simpa using h
  rw [if_neg h5] at hk
  have rest : ∀ q : Bool, q = decide (k = 6 ∨ k = 7 ∨ k = 24 ∨ k = 25) → JE ω (.int .i64 k) (.int .i64 0) (.int .i64 k) (.bool q) (fun v => Gh (K v)) I L := by
    rintro q hq
    unfold JE
    refine AA (fun h => ?_) (fun h => ?_)
    · rw [h] at hq
      rw [if_pos (of_decide_eq_true hq.symm)] at hk; exact Gh.done hk
    rw [h] at hq
    rw [if_neg (of_decide_eq_false hq.symm)] at hk
    try simp only [SSd, Nat.reduceAdd]
    refine AA (fun h => ?_) (fun h => ?_)
    · have h : k = 4 := by simpa using h
      rw [if_pos h] at hk; exact Gh.done hk
    have h4 : k ≠ 4 := by simpa using h
    rw [if_neg h4] at hk
    refine call (Ey (fun bm es clock hm => ?_))
    refine Ff hm (fun s n hs => ?_) (fun hs => ?_)
    · rw [hs] at hk
      try simp only [SSd, Nat.reduceAdd]
      refine AV (fun bs => ?_)
      refine stB rfl rfl (AO rfl) ?_
      try simp only [SSd, Nat.reduceAdd]
      refine rdb ?_
      exact Gh.to L (Gh.done hk)
    · rw [hs] at hk
      try simp only [SSd, Nat.reduceAdd]
      refine AV (fun bs => ?_)
      refine stB rfl rfl (AO rfl) ?_
      try simp only [SSd, Nat.reduceAdd]
      exact Gh.to L (Gh.done hk)
  refine AA (fun h => ?_) (fun h => ?_)
  · have h : k = 6 := by simpa using h
    rw [show ((k == 6) = true) by simpa using h]
    exact rest true (by simp [h])
  have h6 : k ≠ 6 := by simpa using h
  try simp only [SSd, Nat.reduceAdd]
  refine AA (fun h => ?_) (fun h => ?_)
  · have h : k = 7 := by simpa using h
    rw [show ((k == 7) = true) by simpa using h]
    exact rest true (by simp [h])
  have h7 : k ≠ 7 := by simpa using h
  try simp only [SSd, Nat.reduceAdd]
  refine AA (fun h => ?_) (fun h => ?_)
  · have h : k = 24 := by simpa using h
    rw [show ((k == 24) = true) by simpa using h]
    exact rest true (by simp [h])
  have h24 : k ≠ 24 := by simpa using h
  try simp only [SSd, Nat.reduceAdd]
  refine rest _ ?_
  simp only [h6, h7, h24, false_or]
  cases h25 : (k == 25) with
  | true => have : k = 25 := by simpa using h25
            simp [this]
  | false => have : k ≠ 25 := by simpa using h25
             simp [this]
def okI (n:Int):Prop:= -9223372036854775808≤n∧n≤9223372036854775807
theorem Nr {G:Imm}(hG:Eb G)(hGI:Ext G I)[hs:SplitL X L F](hW:WrS b w X l)(x:TValue)(hx:okI x.fInt)(hn:(l++Yg true x).length≤1000000000)(hk:∀I' X',Ext I I'→WrS b w X' (l++Yg true x)→K (.tuple #[]) I' (X'++F)):
  CT ω 178 #[AX b,.agg #[.int .i64 x.fType,.bool x.fNull,.int .i64 x.fInt,.string ⟨x.fText.toArray⟩]] K I L:=by
 refine Cal.split X ?_;refine AMn ?_;unfold ACl;refine AV (fun bv=>?_);unfold Yg at hn hk;try simp only [SSd,Nat.reduceAdd]
 refine rdb ?_;refine AA (fun h=>?_) (fun h=>?_)
 ·rw [if_pos h] at hn hk;refine BL hW hn (fun I' X' hI' hW'=>Gh.to (X'++F) (Gh.done (hk I' X' hI' hW')))
 rw [if_neg (by simp [h])] at hn hk;try simp only [SSd,Nat.reduceAdd]
 refine rdb ?_;try simp only [SSd,Nat.reduceAdd]
 refine AA (fun h=>?_) (fun h=>?_)
 ·have h:x.fType=3:=by simpa using h
  rw [if_pos h] at hn hk;try simp only [SSd,Nat.reduceAdd]
  refine rdb ?_;refine call (OQ hW x.fText 39 hn (fun I' X' hI' hW'=>Gh.to (X'++F) (Gh.done (hk I' X' hI' hW'))))
 have h:x.fType≠3:=by simpa using h
 rw [if_neg h] at hn hk;try simp only [SSd,Nat.reduceAdd]
 refine rdb ?_;try simp only [SSd,Nat.reduceAdd]
 refine AA (fun h=>?_) (fun h=>?_)
 ·have h:x.fType=2:=by simpa using h
  rw [if_pos h] at hn hk;try simp only [SSd,Nat.reduceAdd]
  refine rdb ?_;try simp only [SSd,Nat.reduceAdd]
  refine call ?_;refine AMQ ?_;unfold ABr;refine call ?_;refine AMJ ?_;unfold ABe;refine AA (fun h1=>?_) (fun h1=>?_)
  ·have h1:x.fInt=1:=by simpa using h1
   rw [if_pos h1] at hn hk;refine Gh.done (Gh.done ?_);refine BL hW hn (fun I' X' hI' hW'=>Gh.to (X'++F) (Gh.done (hk I' X' hI' hW')))
  ·have h1:x.fInt≠1:=by simpa using h1
   rw [if_neg h1] at hn hk;refine Gh.done (Gh.done ?_);refine BL hW hn (fun I' X' hI' hW'=>Gh.to (X'++F) (Gh.done (hk I' X' hI' hW')))
 have h:x.fType≠2:=by simpa using h
 rw [if_neg h] at hn hk;try simp only [SSd,Nat.reduceAdd]
 refine rdb ?_;refine call (Oi hG hGI _ hx.1 hx.2 ?_);refine BL hW hn (fun I' X' hI' hW'=>Gh.to (X'++F) (Gh.done (hk I' X' hI' hW')))
end
end Go.Proofs.YtkifgfanjcfedaaGreatDoor
