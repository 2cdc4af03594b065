/-
  A space in memory; what is noted.
-/
-- S3
import Derived.Test.YtmnnnoinfhiilaaDoorH
set_option linter.unusedSimpArgs false
set_option linter.unusedVariables false
namespace Go.Proofs.YtmnnnoinfhiilaaDoor
open Go.SL
set_option maxRecDepth 10000
/-! ### Ranges over functions: rules -/
class RemL (b : Nat) (L : LH) (o : outParam Obj) (L' : outParam LH) : Prop where
  ex : ∃ L1 L2, L = L1 ++ (b, o) :: L2 ∧ L' = L1 ++ L2
instance remRight (b : Nat) (A L : LH) (o : Obj) (L' : LH) [h : RemL b L o L'] : RemL b (A ++ L) o (A ++ L') := by
  obtain ⟨L1, L2, rfl, rfl⟩ := h.ex
  exact ⟨A ++ L1, L2, by simp, by simp⟩
instance remThere (b : Nat) (x : Nat × Obj) (L : LH) (o : Obj) (L' : LH) [h : RemL b L o L'] : RemL b (x :: L) o (x :: L') := by
  obtain ⟨L1, L2, rfl, rfl⟩ := h.ex
  exact ⟨x :: L1, L2, rfl, rfl⟩
instance remHere (b : Nat) (o : Obj) (L : LH) : RemL b ((b, o) :: L) o L := ⟨[], L, rfl, rfl⟩
section
variable {I : Imm} {L L' : LH} {l D : Nat} {Lo : LoF} {K : Value → M} {A : M}
theorem begR [u : UpL l L (Lo .ready none) (Lo .busy none) L'] (h : A I L') : BegR l Lo A I L := by
  obtain ⟨L1, L2, rfl, rfl⟩ := u.up
  exact ⟨L1, L2, rfl, h⟩
theorem endR [u : UpL l L (Lo .busy none) (Lo .ready none) L'] (h : K (.bool true) I L') : EndR l Lo none K I L := by
  obtain ⟨L1, L2, rfl, rfl⟩ := u.up
  exact ⟨L1, L2, rfl, h⟩
theorem endRX {c : Code} [u : UpL l L (Lo .busy none) (Lo .done (some c)) L'] (h : K (.bool false) I L') : EndR l Lo (some c) K I L := by
  obtain ⟨L1, L2, rfl, rfl⟩ := u.up
  exact ⟨L1, L2, rfl, h⟩
theorem tak [r : RemL D L (.deferred (some [])) L'] (h : A I L') : Tak D A I L := by
  obtain ⟨L1, L2, rfl, rfl⟩ := r.ex
  exact ⟨L1, L2, rfl, h⟩
theorem endL {J : Option Code → M} {s : LoopState} {j : Option Code} [r : RemL l L (Lo s j) L'] (hs : s ≠ .busy) (h : J j I L') : EndL l Lo J I L := by
  obtain ⟨L1, L2, rfl, rfl⟩ := r.ex
  exact ⟨L1, L2, s, j, hs, rfl, h⟩
theorem yldM {B : RB} [u : InL l L (Lo .ready none)] (h : B (BegR l Lo) (EndR l Lo none K) (fun id => EndR l Lo (some (.exit id)) K) (EndR l Lo (some .ret) K) I L) : YldM l Lo B K I L := by
  obtain ⟨L1, L2, h1⟩ := List.append_of_mem u.mem
  exact ⟨⟨L1, L2, h1⟩, h⟩
end
abbrev Nts := List UInt8 → Option (Bool × List UInt8)
def updN (nt : Nts) (k : List UInt8) (x : Bool × List UInt8) : Nts := fun q => if q = k then some x else nt q
def verC (v : TVer) : List Value := [.int .i64 v.fAt.fWall, .int .i64 v.fAt.fLogic, .bool v.fDel, sstr v.fValue]
def versC (l : List TVer) : List Value := l.flatMap verC
abbrev cellO (sl : Value) (x : Itn) : Obj := .cells #[sl, .int .i64 x.ver.fAt.fWall, .int .i64 x.ver.fAt.fLogic, .bool x.ver.fDel, sstr x.ver.fValue, .int .i64 x.txn] 85 (0, 0)
abbrev spO (m : Nat) (kv : Value) (fl : TStamp) (ch : Nat) : Obj := .cells #[.map (some m), kv, .int .i64 fl.fWall, .int .i64 fl.fLogic, .map (some ch)] 74 (0, 0)
abbrev pt (p : Nat) : Value := .pointer (some ⟨p, 0, none⟩)
theorem versC_recs {I : Imm} : ∀ (l : List TVer), Recs (TVerV I) 4 l (versC l)
  | [] => rfl
  | x :: l => ⟨rfl, rfl, by
    have : (versC (x :: l)).drop 4 = versC l := rfl
    rw [this]; exact versC_recs l⟩
abbrev VsO (Y : LH) (sl : Value) (vs : List TVer) : Prop := SlO 80 4 Y sl (versC vs) vs.length
def RowsR : LH → List Nat → List Row → Prop
  | X, [], [] => X = []
  | X, p :: ps, r :: rs => ∃ sl Y Z, X.Perm ((p, cellO sl r.it) :: (Y ++ Z)) ∧ VsO Y sl r.vs ∧ RowsR Z ps rs
  | _, _, _ => False
theorem RowsR.perm : ∀ {ps : List Nat} {rs : List Row} {X X' : LH}, RowsR X ps rs → X.Perm X' → RowsR X' ps rs
  | [], [], X, X', h, hp => by rw [show X = [] from h] at hp; exact List.nil_perm.1 hp
  | p :: ps, r :: rs, X, X', ⟨sl, Y, Z, h1, h2, h3⟩, hp => ⟨sl, Y, Z, hp.symm.trans h1, h2, h3⟩
theorem RowsR.len : ∀ {ps : List Nat} {rs : List Row} {X : LH}, RowsR X ps rs → ps.length = rs.length
  | [], [], _, _ => rfl
  | p :: ps, r :: rs, X, ⟨sl, Y, Z, h1, h2, h3⟩ => by simp [RowsR.len h3]
theorem RowsR.pick {B : List Row} {r : Row} {Q : List Nat} {p : Nat} : ∀ {P : List Nat} {A : List Row} {X : LH}, P.length = A.length → RowsR X (P ++ p :: Q) (A ++ r :: B) →
    ∃ sl Y Z, X.Perm ((p, cellO sl r.it) :: (Y ++ Z)) ∧ VsO Y sl r.vs ∧ RowsR Z (P ++ Q) (A ++ B)
  | [], [], X, _, h => h
  | q :: P, a :: A, X, hl, ⟨sl, Y, Z, h1, h2, h3⟩ => by
    obtain ⟨sl', Y', Z', g1, g2, g3⟩ := RowsR.pick (P := P) (A := A) (by simpa using hl) h3
    refine ⟨sl', Y', (q, cellO sl a.it) :: (Y ++ Z'), ms_perm ?_, g2, sl, Y, Z', List.Perm.refl _, h2, g3⟩
    rw [ms_eq h1, ms_cons, ms_app, ms_eq g1]
    ((try simp only [ms_cons, ms_app, ms_nil, ms_nil']); (try ac_rfl))
  | [], _ :: _, _, hl, _ => by simp at hl
  | _ :: _, [], _, hl, _ => by simp at hl
theorem RowsR.put {B : List Row} {r : Row} {Q : List Nat} {p : Nat} {sl : Value} {Y : LH} : ∀ {P : List Nat} {A : List Row} {X Z : LH}, P.length = A.length → X.Perm ((p, cellO sl r.it) :: (Y ++ Z)) → VsO Y sl r.vs → RowsR Z (P ++ Q) (A ++ B) → RowsR X (P ++ p :: Q) (A ++ r :: B)
  | [], [], X, Z, _, h1, h2, h3 => ⟨sl, Y, Z, h1, h2, h3⟩
  | q :: P, a :: A, X, Z, hl, h1, h2, ⟨sl', Y', Z', g1, g2, g3⟩ => by
    refine ⟨sl', Y', (p, cellO sl r.it) :: (Y ++ Z'), ms_perm ?_, g2, RowsR.put (P := P) (A := A) (by simpa using hl) (List.Perm.refl _) h2 g3⟩
    rw [ms_eq h1, ms_cons, ms_app, ms_eq g1]
    ((try simp only [ms_cons, ms_app, ms_nil, ms_nil']); (try ac_rfl))
  | [], _ :: _, _, _, hl, _, _, _ => by simp at hl
  | _ :: _, [], _, _, hl, _, _, _ => by simp at hl
/-! ### Which cell a key has -/
def cellsM (ps : List Nat) (rows : List Row) : List UInt8 → Option Value := fun k => ((ps.zip rows).find? fun q => q.2.key == k).map fun q => pt q.1
theorem zipf_none {P : List Nat} {A : List Row} {k : List UInt8} (h : ∀ x ∈ A, x.key ≠ k) : (P.zip A).find? (fun q => q.2.key == k) = none :=
  List.find?_eq_none.2 fun q hq => by
    have := h q.2 (List.of_mem_zip hq).2
    simpa using this
theorem cellsM_mid {P Q : List Nat} {A B : List Row} {p : Nat} {r : Row} {k : List UInt8} (hl : P.length = A.length) (hm : Mid A k B) (hk : r.key = k) : cellsM (P ++ p :: Q) (A ++ r :: B) k = some (pt p) := by
  unfold cellsM
  rw [List.zip_append hl, List.find?_append, zipf_none (fun x hx => blt_ne (hm.lt x hx))]
  simp [hk]
theorem cellsM_gap {P : List Nat} {A : List Row} {k : List UInt8} (h : ∀ x ∈ A, x.key ≠ k) : cellsM P A k = none := by
  unfold cellsM; rw [zipf_none h]; rfl
theorem cellsM_ins {P Q : List Nat} {A B : List Row} {p : Nat} {r : Row} {k : List UInt8} (hl : P.length = A.length) (hm : Mid A k B) (hk : r.key = k) : cellsM (P ++ p :: Q) (A ++ r :: B) = updM (cellsM (P ++ Q) (A ++ B)) k (some (pt p)) := by
  funext q
  unfold updM
  by_cases hq : q = k
  · rw [if_pos hq, hq, cellsM_mid hl hm hk]
  · rw [if_neg hq]
    unfold cellsM
    rw [List.zip_append hl, List.zip_append hl, List.find?_append, List.find?_append, List.zip_cons_cons, List.find?_cons_of_neg (by simp [hk]; exact fun e => hq e.symm)]
theorem cellsM_del {P Q : List Nat} {A B : List Row} {p : Nat} {r : Row} {k : List UInt8} (hl : P.length = A.length) (hm : Mid A k B) (hk : r.key = k) : cellsM (P ++ Q) (A ++ B) = updM (cellsM (P ++ p :: Q) (A ++ r :: B)) k none := by
  rw [cellsM_ins hl hm hk]
  funext q
  unfold updM
  by_cases hq : q = k
  · rw [if_pos hq, hq, cellsM_gap hm.notin]
  · rw [if_neg hq, if_neg hq]
theorem cellsM_swap {P Q : List Nat} {A B : List Row} {p : Nat} {r r' : Row} (hl : P.length = A.length) (hm : Mid A r.key B) (hk : r'.key = r.key) : cellsM (P ++ p :: Q) (A ++ r' :: B) = cellsM (P ++ p :: Q) (A ++ r :: B) := by
  rw [cellsM_ins hl hm hk, cellsM_ins hl hm rfl]
theorem split_ps {ps : List Nat} {A B : List Row} {r : Row} (h : ps.length = (A ++ r :: B).length) : ∃ P p Q, ps = P ++ p :: Q ∧ P.length = A.length ∧ Q.length = B.length := by
  rw [List.length_append, List.length_cons] at h
  refine ⟨ps.take A.length, ps[A.length]'(by omega), ps.drop (A.length + 1), ?_, by simp; omega, by simp; omega⟩
  rw [← List.drop_eq_getElem_cons (by omega), List.take_append_drop]
theorem split_ps2 {ps : List Nat} {A B : List Row} (h : ps.length = (A ++ B).length) : ∃ P Q, ps = P ++ Q ∧ P.length = A.length ∧ Q.length = B.length := by
  rw [List.length_append] at h
  exact ⟨ps.take A.length, ps.drop A.length, (List.take_append_drop ..).symm, by simp; omega, by simp; omega⟩
/-! ### What is noted, in memory -/
def NotesR (I : Imm) (mm : List UInt8 → Option Value) (nt : Nts) : Prop := ∀ k, (nt k = none ∧ mm k = none) ∨ ∃ d l kv v, nt k = some (d, l) ∧ mm k = some (.agg #[.bool d, kv, v]) ∧ Bytes I kv k ∧ Bytes I v l
theorem NotesR.mono {I I' : Imm} {mm : List UInt8 → Option Value} {nt : Nts} (h : NotesR I mm nt) (hI : Ext I I') : NotesR I' mm nt := fun k => by
  rcases h k with h | ⟨d, l, kv, v, h1, h2, h3, h4⟩
  · exact .inl h
  · exact .inr ⟨d, l, kv, v, h1, h2, h3.mono hI, h4.mono hI⟩
def NtR (I : Imm) (ch : Nat) (X : LH) (nt : Nts) : Prop := ∃ ces cclock mm, X = [(ch, .map ces cclock)] ∧ MapS ces cclock mm ∧ NotesR I mm nt
theorem NtR.mono {I I' : Imm} {ch : Nat} {X : LH} {nt : Nts} (h : NtR I ch X nt) (hI : Ext I I') : NtR I' ch X nt := by
  obtain ⟨ces, cclock, mm, h1, h2, h3⟩ := h
  exact ⟨ces, cclock, mm, h1, h2, h3.mono hI⟩
structure SpF (I : Imm) (ch : Nat) (kv : Value) (es : Array MapEntry) (clock : Nat) (ps : List Nat) (KX RX NX : LH) (sp : Sp) (nt : Nts) : Prop where
  map : MapS es clock (cellsM ps sp.rows)
  keys : StrO KX kv (keysOf sp.rows)
  rows : RowsR RX ps sp.rows
  nts : NtR I ch NX nt
def SpP (I : Imm) (b : Nat) (ps : List Nat) (X : LH) (sp : Sp) (nt : Nts) : Prop := ∃ m ch kv es clock KX RX NX, X.Perm ((b, spO m kv sp.floor ch) :: (m, .map es clock) :: (KX ++ (RX ++ NX))) ∧ SpF I ch kv es clock ps KX RX NX sp nt
theorem SpF.mono {I I' : Imm} {ch : Nat} {kv : Value} {es : Array MapEntry} {clock : Nat} {ps : List Nat} {KX RX NX : LH} {sp : Sp} {nt : Nts} (h : SpF I ch kv es clock ps KX RX NX sp nt) (hI : Ext I I') : SpF I' ch kv es clock ps KX RX NX sp nt := ⟨h.map, h.keys, h.rows, h.nts.mono hI⟩
def SpR (I : Imm) (b : Nat) (X : LH) (sp : Sp) (nt : Nts) : Prop := ∃ ps, SpP I b ps X sp nt
theorem SpP.mono {I I' : Imm} {b : Nat} {ps : List Nat} {X : LH} {sp : Sp} {nt : Nts} (h : SpP I b ps X sp nt) (hI : Ext I I') : SpP I' b ps X sp nt := by
  obtain ⟨m, ch, kv, es, clock, KX, RX, NX, h1, h2⟩ := h
  exact ⟨m, ch, kv, es, clock, KX, RX, NX, h1, h2.mono hI⟩
theorem SpR.mono {I I' : Imm} {b : Nat} {X : LH} {sp : Sp} {nt : Nts} (h : SpR I b X sp nt) (hI : Ext I I') : SpR I' b X sp nt := by
  obtain ⟨ps, h⟩ := h
  exact ⟨ps, h.mono hI⟩
section
variable {ω : Om} {I : Imm} {L : LH} {K : Value → M}
theorem note_spec {b m ch : Nat} {kv a1 a2 : Value} {fl : TStamp} {NX F : LH} {nt : Nts} {d : Bool} {k l : List UInt8} (hN : NtR I ch NX nt) (h1 : Bytes I a1 k) (h2 : Bytes I a2 l)
    (hk : ∀ NX', NtR I ch NX' (updN nt k (d, l)) → K (.tuple #[]) I ((b, spO m kv fl ch) :: (NX' ++ F))) :
    Cal Tryd.prog ω 50 #[pt b, a1, a2, .bool d] K I ((b, spO m kv fl ch) :: (NX ++ F)) := by
  obtain ⟨ces, cclock, mm, rfl, hm, hn⟩ := hN
  refine cal50 ?_
  unfold sh50
  refine drawC ?_
  try simp only [SSd, Nat.reduceAdd]
  refine rdbS ?_
  refine bs_I h1 (Ext.refl _) ?_
  obtain ⟨ka, kc, rfl⟩ := Bytes.form h1
  obtain ⟨va, vc, rfl⟩ := Bytes.form h2
  try simp only [SSd, Nat.reduceAdd]
  obtain ⟨es', c', he, hm'⟩ := hm.put k (.agg #[.bool d, .slice ka k.length kc, .slice va l.length vc])
  refine putm hm he ?_
  refine Gh.done (Gh.done (hk [(ch, .map es' c')] ⟨es', c', _, rfl, hm', fun q => ?_⟩))
  unfold updN updM
  by_cases hq : q = k
  · subst hq
    simp only [if_true]
    exact .inr ⟨d, l, _, _, rfl, rfl, h1, h2⟩
  · simp only [if_neg hq]
    exact hn q
theorem note_sp {b : Nat} {ps : List Nat} {a1 a2 : Value} {X F : LH} {sp : Sp} {nt : Nts} {d : Bool} {k l : List UInt8} (hS : SpP I b ps X sp nt) (h1 : Bytes I a1 k) (h2 : Bytes I a2 l)
    (hk : ∀ X', SpP I b ps X' sp (updN nt k (d, l)) → K (.tuple #[]) I (X' ++ F)) : Cal Tryd.prog ω 50 #[pt b, a1, a2, .bool d] K I (X ++ F) := by
  obtain ⟨m, ch, kv, es, clock, KX, RX, NX, hp, hF⟩ := hS
  refine Cal.gh (Cal.perm (L' := (b, spO m kv sp.floor ch) :: (NX ++ ((m, .map es clock) :: (KX ++ (RX ++ F))))) (ms_perm (by rw [ms_app, ms_eq hp]; ((try simp only [ms_cons, ms_app, ms_nil, ms_nil']); (try ac_rfl)))) (note_spec hF.nts h1 h2 fun NX' h' => ?_))
  refine Gh.perm (L' := ((b, spO m kv sp.floor ch) :: (m, .map es clock) :: (KX ++ (RX ++ NX'))) ++ F) (ms_perm (by ((try simp only [ms_cons, ms_app, ms_nil, ms_nil']); (try ac_rfl)))) (Gh.done (hk _ ⟨m, ch, kv, es, clock, KX, RX, NX', List.Perm.refl _, hF.map, hF.keys, hF.rows, h'⟩))
theorem noteVersion_spec {b : Nat} {ps : List Nat} {X F : LH} {sp : Sp} {nt : Nts} {k : List UInt8} {v : TVer} (hS : SpP I b ps X sp nt) (hr : rightB v.fAt = true) (hl : k.length ≤ 1000000000) (hvl : v.fValue.length ≤ 1000000000)
    (hk : ∀ X' I', Ext I I' → SpP I' b ps X' sp (updN nt (vkey k v) (false, verText v)) → K (.tuple #[]) I' (X' ++ F)) :
    Cal Tryd.prog ω 28 #[pt b, sstr k, vv v] K I (X ++ F) := by
  refine cal28 ?_
  unfold sh28
  refine newI (fun q => ?_)
  refine drawC ?_
  refine rdBS rfl ?_
  refine callG (vkey_spec hr hl (fun X1 u I1 hI1 hX => ?_))
  refine OB.freeze hX (fun I2 hI2 hB => Gh.done ?_)
  refine keepS (hI1.trans hI2) (fun x hx => hx) ?_
  refine rdBS rfl ?_
  refine callG (text_spec hvl (fun X3 u3 hX3 => ?_))
  refine OB.freeze hX3 (fun I3 hI3 hB3 => Gh.done ?_)
  refine call (Cal.to (X ++ F) ?_)
  refine note_sp (hS.mono (hI1.trans (hI2.trans hI3))) (hB.mono hI3) hB3 (fun X' h' => ?_)
  exact Gh.done (hk X' I3 (hI1.trans (hI2.trans hI3)) h')
def itText (x : Itn) : Bool × List UInt8 := if x.txn = 0 then (true, []) else (false, stF x.ver.fAt ++ varL x.txn.toNat ++ verText x.ver)
def CellV (I : Imm) (L : LH) (p : Nat) (r : Row) : Prop := ∃ sl, Cells I L p 0 [sl, .int .i64 r.it.ver.fAt.fWall, .int .i64 r.it.ver.fAt.fLogic, .bool r.it.ver.fDel, sstr r.it.ver.fValue, .int .i64 r.it.txn] ∧ RL TVerV 4 I L sl r.vs
structure ViewF (I : Imm) (L : LH) (b m : Nat) (kv : Value) (es : Array MapEntry) (clock : Nat) (ps : List Nat) (sp : Sp) : Prop where
  head : Cells I L b 0 [.map (some m), kv, .int .i64 sp.floor.fWall, .int .i64 sp.floor.fLogic]
  at' : MapAt I L m es clock
  map : MapS es clock (cellsM ps sp.rows)
  keys : Strs I L kv (keysOf sp.rows)
  len : ps.length = sp.rows.length
  cell : ∀ (i p : Nat) r, ps[i]? = some p → sp.rows[i]? = some r → CellV I L p r
def View (I : Imm) (L : LH) (b : Nat) (sp : Sp) : Prop := ∃ m kv es clock ps, ViewF I L b m kv es clock ps sp
theorem CellV.mono {I I' : Imm} {L L' : LH} {p : Nat} {r : Row} (h : CellV I L p r) (hI : Ext I I') (hL : ∀ x ∈ L, x ∈ L') : CellV I' L' p r := by
  obtain ⟨sl, h1, h2⟩ := h
  exact ⟨sl, h1.mono hI hL, h2.mono (fun x c h => TVerV.mono h hI) hI hL⟩
theorem MapAt.mono {I I' : Imm} {L L' : LH} {m : Nat} {es : Array MapEntry} {clock : Nat} (h : MapAt I L m es clock) (hI : Ext I I') (hL : ∀ x ∈ L, x ∈ L') : MapAt I' L' m es clock := h.imp (hL _) (hI _ _)
theorem ViewF.mono {I I' : Imm} {L L' : LH} {b m : Nat} {kv : Value} {es : Array MapEntry} {clock : Nat} {ps : List Nat} {sp : Sp} (h : ViewF I L b m kv es clock ps sp) (hI : Ext I I') (hL : ∀ x ∈ L, x ∈ L') : ViewF I' L' b m kv es clock ps sp :=
  ⟨h.head.mono hI hL, MapAt.mono h.at' hI hL, h.map, h.keys.mono (fun x c h => StrV.mono h hI) hI hL, h.len, fun i p r h1 h2 => (h.cell i p r h1 h2).mono hI hL⟩
theorem View.mono {I I' : Imm} {L L' : LH} {b : Nat} {sp : Sp} (h : View I L b sp) (hI : Ext I I') (hL : ∀ x ∈ L, x ∈ L') : View I' L' b sp := by
  obtain ⟨m, kv, es, clock, ps, h⟩ := h
  exact ⟨m, kv, es, clock, ps, h.mono hI hL⟩
theorem own_cells {L : LH} {b : Nat} {l : List Value} {T : Nat} {fr : Nat × Nat} (h : (b, Obj.cells l.toArray T fr) ∈ L) (n : Nat) : Cells I L b 0 (l.take n) := fun j u hu => Cell.own h (by
  rw [List.getElem?_take] at hu
  split at hu
  · simpa using hu
  · cases hu)
theorem VsO.rl {Y L : LH} {sl : Value} {vs : List TVer} (h : VsO Y sl vs) (hY : ∀ x ∈ Y, x ∈ L) : RL TVerV 4 I L sl vs := by
  have hn := h.news (I := I) hY
  obtain ⟨_, hh⟩ := h
  rcases hh with ⟨_, h0, a, rfl⟩ | ⟨b, cap, cs, _, rfl, _, hle, _⟩
  · refine ⟨a, 0, _, ?_, by omega, hn, versC_recs vs⟩
    rw [h0]
  · exact ⟨_, cap, _, rfl, hle, hn, versC_recs vs⟩
theorem RowsR.cell {L : LH} : ∀ {ps : List Nat} {rs : List Row} {X : LH}, RowsR X ps rs → (∀ x ∈ X, x ∈ L) → ∀ (i p : Nat) r, ps[i]? = some p → rs[i]? = some r → CellV I L p r
  | [], [], _, _, _, i, p, r, h1, _ => by simp at h1
  | q :: ps, a :: rs, X, ⟨sl, Y, Z, h1, h2, h3⟩, hL, 0, p, r, g1, g2 => by
    simp only [List.getElem?_cons_zero, Option.some.injEq] at g1 g2
    subst g1 g2
    exact ⟨sl, own_cells (hL _ (h1.mem_iff.2 (List.mem_cons_self ..))) 6, h2.rl (fun x hx => hL _ (h1.mem_iff.2 (by simp [hx])))⟩
  | q :: ps, a :: rs, X, ⟨sl, Y, Z, h1, h2, h3⟩, hL, i + 1, p, r, g1, g2 =>
    RowsR.cell h3 (fun x hx => hL _ (h1.mem_iff.2 (by simp [hx]))) i p r (by simpa using g1) (by simpa using g2)
theorem SpP.view {b : Nat} {ps : List Nat} {X L : LH} {sp : Sp} {nt : Nts} (h : SpP I b ps X sp nt) (hL : ∀ x ∈ X, x ∈ L) : View I L b sp := by
  obtain ⟨m, ch, kv, es, clock, KX, RX, NX, hp, hF⟩ := h
  have hmem : ∀ x, x ∈ ((b, spO m kv sp.floor ch) :: (m, Obj.map es clock) :: (KX ++ (RX ++ NX))) → x ∈ L := fun x hx => hL _ (hp.mem_iff.2 hx)
  refine ⟨m, kv, es, clock, ps, own_cells (hmem _ (List.mem_cons_self ..)) 4, .inl (hmem _ (by simp)), hF.map, StrO.rl hF.keys (fun x hx => hmem _ (by simp [hx])), hF.rows.len, hF.rows.cell (fun x hx => hmem _ (by simp [hx]))⟩
theorem SpR.view {b : Nat} {X L : LH} {sp : Sp} {nt : Nts} (h : SpR I b X sp nt) (hL : ∀ x ∈ X, x ∈ L) : View I L b sp := by
  obtain ⟨ps, h⟩ := h
  exact h.view hL
theorem ViewF.look {b m : Nat} {kv : Value} {es : Array MapEntry} {clock : Nat} {ps : List Nat} {sp : Sp} (h : ViewF I L b m kv es clock ps sp) (hs : SrtK (keysOf sp.rows)) (k : List UInt8) :
    (rowOf sp.rows k = none ∧ cellsM ps sp.rows k = none) ∨ ∃ r p, rowOf sp.rows k = some r ∧ cellsM ps sp.rows k = some (pt p) ∧ CellV I L p r ∧ r.key = k := by
  have hlen := h.len
  have hcell := h.cell
  obtain ⟨rows, fl⟩ := sp
  rcases place k hs with ⟨A, r, B, e, hk, hm⟩ | ⟨A, B, e, hm⟩
  · simp only at e; subst e
    obtain ⟨P, p, Q, rfl, hl, _⟩ := split_ps hlen
    refine .inr ⟨r, p, rowOf_mid hm hk, cellsM_mid hl hm hk, hcell A.length p r ?_ ?_, hk⟩
    · rw [← hl]; simp
    · simp
  · simp only at e; subst e
    exact .inl ⟨rowOf_none' hm.notin, cellsM_gap hm.notin⟩
theorem itC {r : Row} {L : LH} {p : Nat} {sl : Value} (h : Cells I L p 0 [sl, .int .i64 r.it.ver.fAt.fWall, .int .i64 r.it.ver.fAt.fLogic, .bool r.it.ver.fDel, sstr r.it.ver.fValue, .int .i64 r.it.txn]) :
    Cell I L p 0 sl ∧ Cells I L p 1 [.int .i64 r.it.ver.fAt.fWall, .int .i64 r.it.ver.fAt.fLogic] ∧ Cells I L p 1 [.int .i64 r.it.ver.fAt.fWall, .int .i64 r.it.ver.fAt.fLogic, .bool r.it.ver.fDel, sstr r.it.ver.fValue] ∧ Cell I L p 3 (.bool r.it.ver.fDel) ∧ Cell I L p 4 (sstr r.it.ver.fValue) ∧ Cell I L p 5 (.int .i64 r.it.txn) ∧
    Cells I L p 1 [.int .i64 r.it.ver.fAt.fWall, .int .i64 r.it.ver.fAt.fLogic, .bool r.it.ver.fDel, sstr r.it.ver.fValue, .int .i64 r.it.txn] :=
  ⟨h 0 _ rfl, by simpa using h.sub (k := 1) (m := 2), by simpa using h.sub (k := 1) (m := 4), by simpa using h 3 _ rfl, by simpa using h 4 _ rfl, by simpa using h 5 _ rfl, by simpa using h.sub (k := 1) (m := 5)⟩
theorem noteIntent_spec {b : Nat} {ps : List Nat} {X F : LH} {sp : Sp} {nt : Nts} {k : List UInt8} {r : Row} (hS : SpP I b ps X sp nt) (hs : SrtK (keysOf sp.rows)) (hr : rowOf sp.rows k = some r)
    (ht : 0 ≤ r.it.txn ∧ r.it.txn < 9223372036854775808) (hri : r.it.txn ≠ 0 → rightB r.it.ver.fAt = true) (hl : k.length ≤ 1000000000) (hvl : r.it.ver.fValue.length ≤ 1000000000)
    (hk : ∀ X' I', Ext I I' → SpP I' b ps X' sp (updN nt (105 :: k) (itText r.it)) → K (.tuple #[]) I' (X' ++ F)) :
    Cal Tryd.prog ω 27 #[pt b, sstr k] K I (X ++ F) := by
  obtain ⟨m, kv, es, clock, ps', hV⟩ := hS.view (L := X ++ F) (fun x hx => List.mem_append_left _ hx)
  obtain ⟨h0, _⟩ | ⟨r', p, h1, hc, ⟨sl, hC, hVs⟩, hkr⟩ := hV.look hs k
  · rw [hr] at h0; cases h0
  obtain rfl : r' = r := by rw [hr] at h1; exact (Option.some.inj h1).symm
  obtain ⟨c0, c1, c14, c3, c4, c5, _⟩ := itC hC
  refine cal27 ?_
  unfold sh27
  refine by1 (c := 105) (fun X1 u1 h1 => Gh.done ?_)
  refine ob_appG (y := k) h1 (.inr (.inr ⟨_, rfl, rfl, by simp [ByteArray.size], by simp [u8s]⟩)) (by simp; omega) (fun X2 u2 h2 => ?_)
  refine OB.freeze h2 (fun I2 hI2 hB2 => Gh.done ?_)
  try simp only [SSd, Nat.reduceAdd]
  refine rdC (hV.head 0 _ rfl) hI2 ?_
  refine ⟨_, lk_at ((MapAt.mono hV.at' hI2 (fun x hx => by simp [hx]))) hV.map, ?_⟩
  simp only [hc, lkV]
  simp only [Bool.false_eq_true, if_false, SSd, Nat.reduceAdd]
  refine rdC c5 hI2 ?_
  try simp only [SSd, Nat.reduceAdd]
  refine br_split (fun e => ?_) (fun e => ?_)
  · simp at e
    refine call (Cal.to (X ++ F) ?_)
    refine note_sp (hS.mono hI2) hB2 (show Bytes I2 _ [] from SlI.nil I2 1 none 0) (fun X' h' => ?_)
    refine Gh.done (hk X' I2 hI2 ?_)
    unfold itText; rw [if_pos e]; exact h'
  · simp at e
    refine rdNC c1 hI2 rfl ?_
    have hs9 : (stF r'.it.ver.fAt).length = 9 := rfl
    have hv9 := varL_9 (n := r'.it.txn.toNat) (by omega)
    refine callG (hbytes_spec (hri e) (fun X3 u3 h3 => Gh.done ?_))
    try simp only [SSd, Nat.reduceAdd]
    refine rdC c5 hI2 ?_
    try simp only [SSd, Nat.reduceAdd]
    rw [wrap_u64 _ ht.1 (by omega), show r'.it.txn = ((r'.it.txn.toNat : Nat) : Int) by omega]
    refine call (number_spec (by omega) (fun u4 I4 hI4 hB4 => ?_))
    refine ob_appG (y := varL r'.it.txn.toNat) h3 (SlI.news hB4) (by omega) (fun X5 u5 h5 => Gh.done ?_)
    refine rdNC c14 (hI2.trans hI4) rfl ?_
    refine call (text_spec hvl (fun X6 u6 h6 => ?_))
    have hvt : (verText r'.it.ver).length ≤ 1000000001 := by unfold verText; split <;> simp; omega
    refine ob_appG (X6 := X5) (y := verText r'.it.ver) h5 (h6.news (fun x hx => by simp [hx])) (by rw [List.length_append]; omega) (fun X7 u7 h7 => ?_)
    refine OB.freeze h7 (fun I7 hI7 hB7 => Gh.done ?_)
    refine call (Cal.to (X ++ F) ?_)
    refine note_sp (hS.mono (hI2.trans (hI4.trans hI7))) (hB2.mono (hI4.trans hI7)) hB7 (fun X' h' => ?_)
    refine Gh.done (hk X' I7 (hI2.trans (hI4.trans hI7)) ?_)
    unfold itText; rw [if_neg e]; exact h'
end
end Go.Proofs.YtmnnnoinfhiilaaDoor
