/-
  A space in memory; what is noted.
-/
-- S3
import Derived.Test.YtmnnnoinfhiilaaDoorH
set_option linter.unusedSimpArgs false
set_option linter.unusedVariables false
namespace Go.Proofs.YtmnnnoinfhiilaaDoor
open Go.SL
set_option maxRecDepth 10000
/-! ### Ranges over functions: rules -/
class RemL (b : Nat) (L : LH) (o : outParam Obj) (L' : outParam LH) : Prop where
  ex : ∃ L1 L2, L = L1 ++ (b, o) :: L2 ∧ L' = L1 ++ L2
instance remRight (b : Nat) (A L : LH) (o : Obj) (L' : LH) [h : RemL b L o L'] : RemL b (A ++ L) o (A ++ L') := by
  obtain ⟨L1, L2, rfl, rfl⟩ := h.ex
  exact ⟨A ++ L1, L2, by simp, by simp⟩
instance remThere (b : Nat) (x : Nat × Obj) (L : LH) (o : Obj) (L' : LH) [h : RemL b L o L'] : RemL b (x :: L) o (x :: L') := by
  obtain ⟨L1, L2, rfl, rfl⟩ := h.ex
  exact ⟨x :: L1, L2, rfl, rfl⟩
instance remHere (b : Nat) (o : Obj) (L : LH) : RemL b ((b, o) :: L) o L := ⟨[], L, rfl, rfl⟩
section
variable {I : Imm} {L L' : LH} {l D : Nat} {Lo : LoF} {K : Value → M} {A : M}
end
abbrev Nts := List UInt8 → Option (Bool × List UInt8)
def verC (v : TVer) : List Value := [.int .i64 v.fAt.fWall, .int .i64 v.fAt.fLogic, .bool v.fDel, sstr v.fValue]
def versC (l : List TVer) : List Value := l.flatMap verC
abbrev cellO (sl : Value) (x : Itn) : Obj := .cells #[sl, .int .i64 x.ver.fAt.fWall, .int .i64 x.ver.fAt.fLogic, .bool x.ver.fDel, sstr x.ver.fValue, .int .i64 x.txn] 85 (0, 0)
abbrev spO (m : Nat) (kv : Value) (fl : TStamp) (ch : Nat) : Obj := .cells #[.map (some m), kv, .int .i64 fl.fWall, .int .i64 fl.fLogic, .map (some ch)] 74 (0, 0)
abbrev pt (p : Nat) : Value := .pointer (some ⟨p, 0, none⟩)
theorem versC_recs {I : Imm} : ∀ (l : List TVer), Recs (TVerV I) 4 l (versC l)
  | [] => rfl
  | x :: l => ⟨rfl, rfl, by
    have : (versC (x :: l)).drop 4 = versC l := rfl
    rw [this]; exact versC_recs l⟩
abbrev VsO (Y : LH) (sl : Value) (vs : List TVer) : Prop := SlO 80 4 Y sl (versC vs) vs.length
def RowsR : LH → List Nat → List Row → Prop
  | X, [], [] => X = []
  | X, p :: ps, r :: rs => ∃ sl Y Z, X.Perm ((p, cellO sl r.it) :: (Y ++ Z)) ∧ VsO Y sl r.vs ∧ RowsR Z ps rs
  | _, _, _ => False
theorem RowsR.perm : ∀ {ps : List Nat} {rs : List Row} {X X' : LH}, RowsR X ps rs → X.Perm X' → RowsR X' ps rs
  | [], [], X, X', h, hp => by rw [show X = [] from h] at hp; exact List.nil_perm.1 hp
  | p :: ps, r :: rs, X, X', ⟨sl, Y, Z, h1, h2, h3⟩, hp => ⟨sl, Y, Z, hp.symm.trans h1, h2, h3⟩
theorem RowsR.len : ∀ {ps : List Nat} {rs : List Row} {X : LH}, RowsR X ps rs → ps.length = rs.length
  | [], [], _, _ => rfl
  | p :: ps, r :: rs, X, ⟨sl, Y, Z, h1, h2, h3⟩ => by simp [RowsR.len h3]
theorem RowsR.put {B : List Row} {r : Row} {Q : List Nat} {p : Nat} {sl : Value} {Y : LH} : ∀ {P : List Nat} {A : List Row} {X Z : LH}, P.length = A.length → X.Perm ((p, cellO sl r.it) :: (Y ++ Z)) → VsO Y sl r.vs → RowsR Z (P ++ Q) (A ++ B) → RowsR X (P ++ p :: Q) (A ++ r :: B)
  | [], [], X, Z, _, h1, h2, h3 => ⟨sl, Y, Z, h1, h2, h3⟩
  | q :: P, a :: A, X, Z, hl, h1, h2, ⟨sl', Y', Z', g1, g2, g3⟩ => by
    refine ⟨sl', Y', (p, cellO sl r.it) :: (Y ++ Z'), ms_perm ?_, g2, RowsR.put (P := P) (A := A) (by simpa using hl) (List.Perm.refl _) h2 g3⟩
    rw [ms_eq h1, ms_cons, ms_app, ms_eq g1]
    ((try simp only [ms_cons, ms_app, ms_nil, ms_nil']); (try ac_rfl))
  | [], _ :: _, _, _, hl, _, _, _ => by simp at hl
  | _ :: _, [], _, _, hl, _, _, _ => by simp at hl
/-! ### Which cell a key has -/
def cellsM (ps : List Nat) (rows : List Row) : List UInt8 → Option Value := fun k => ((ps.zip rows).find? fun q => q.2.key == k).map fun q => pt q.1
/-! ### What is noted, in memory -/
def NotesR (I : Imm) (mm : List UInt8 → Option Value) (nt : Nts) : Prop := ∀ k, (nt k = none ∧ mm k = none) ∨ ∃ d l kv v, nt k = some (d, l) ∧ mm k = some (.agg #[.bool d, kv, v]) ∧ Bytes I kv k ∧ Bytes I v l
theorem NotesR.mono {I I' : Imm} {mm : List UInt8 → Option Value} {nt : Nts} (h : NotesR I mm nt) (hI : Ext I I') : NotesR I' mm nt := fun k => by
  rcases h k with h | ⟨d, l, kv, v, h1, h2, h3, h4⟩
  · exact .inl h
  · exact .inr ⟨d, l, kv, v, h1, h2, h3.mono hI, h4.mono hI⟩
def NtR (I : Imm) (ch : Nat) (X : LH) (nt : Nts) : Prop := ∃ ces cclock mm, X = [(ch, .map ces cclock)] ∧ MapS ces cclock mm ∧ NotesR I mm nt
theorem NtR.mono {I I' : Imm} {ch : Nat} {X : LH} {nt : Nts} (h : NtR I ch X nt) (hI : Ext I I') : NtR I' ch X nt := by
  obtain ⟨ces, cclock, mm, h1, h2, h3⟩ := h
  exact ⟨ces, cclock, mm, h1, h2, h3.mono hI⟩
structure SpF (I : Imm) (ch : Nat) (kv : Value) (es : Array MapEntry) (clock : Nat) (ps : List Nat) (KX RX NX : LH) (sp : Sp) (nt : Nts) : Prop where
  map : MapS es clock (cellsM ps sp.rows)
  keys : StrO KX kv (keysOf sp.rows)
  rows : RowsR RX ps sp.rows
  nts : NtR I ch NX nt
def SpP (I : Imm) (b : Nat) (ps : List Nat) (X : LH) (sp : Sp) (nt : Nts) : Prop := ∃ m ch kv es clock KX RX NX, X.Perm ((b, spO m kv sp.floor ch) :: (m, .map es clock) :: (KX ++ (RX ++ NX))) ∧ SpF I ch kv es clock ps KX RX NX sp nt
theorem SpF.mono {I I' : Imm} {ch : Nat} {kv : Value} {es : Array MapEntry} {clock : Nat} {ps : List Nat} {KX RX NX : LH} {sp : Sp} {nt : Nts} (h : SpF I ch kv es clock ps KX RX NX sp nt) (hI : Ext I I') : SpF I' ch kv es clock ps KX RX NX sp nt := ⟨h.map, h.keys, h.rows, h.nts.mono hI⟩
def SpR (I : Imm) (b : Nat) (X : LH) (sp : Sp) (nt : Nts) : Prop := ∃ ps, SpP I b ps X sp nt
theorem SpP.mono {I I' : Imm} {b : Nat} {ps : List Nat} {X : LH} {sp : Sp} {nt : Nts} (h : SpP I b ps X sp nt) (hI : Ext I I') : SpP I' b ps X sp nt := by
  obtain ⟨m, ch, kv, es, clock, KX, RX, NX, h1, h2⟩ := h
  exact ⟨m, ch, kv, es, clock, KX, RX, NX, h1, h2.mono hI⟩
theorem SpR.mono {I I' : Imm} {b : Nat} {X : LH} {sp : Sp} {nt : Nts} (h : SpR I b X sp nt) (hI : Ext I I') : SpR I' b X sp nt := by
  obtain ⟨ps, h⟩ := h
  exact ⟨ps, h.mono hI⟩
section
variable {ω : Om} {I : Imm} {L : LH} {K : Value → M}
def CellV (I : Imm) (L : LH) (p : Nat) (r : Row) : Prop := ∃ sl, Cells I L p 0 [sl, .int .i64 r.it.ver.fAt.fWall, .int .i64 r.it.ver.fAt.fLogic, .bool r.it.ver.fDel, sstr r.it.ver.fValue, .int .i64 r.it.txn] ∧ RL TVerV 4 I L sl r.vs
structure ViewF (I : Imm) (L : LH) (b m : Nat) (kv : Value) (es : Array MapEntry) (clock : Nat) (ps : List Nat) (sp : Sp) : Prop where
  head : Cells I L b 0 [.map (some m), kv, .int .i64 sp.floor.fWall, .int .i64 sp.floor.fLogic]
  at' : MapAt I L m es clock
  map : MapS es clock (cellsM ps sp.rows)
  keys : Strs I L kv (keysOf sp.rows)
  len : ps.length = sp.rows.length
  cell : ∀ (i p : Nat) r, ps[i]? = some p → sp.rows[i]? = some r → CellV I L p r
def View (I : Imm) (L : LH) (b : Nat) (sp : Sp) : Prop := ∃ m kv es clock ps, ViewF I L b m kv es clock ps sp
theorem CellV.mono {I I' : Imm} {L L' : LH} {p : Nat} {r : Row} (h : CellV I L p r) (hI : Ext I I') (hL : ∀ x ∈ L, x ∈ L') : CellV I' L' p r := by
  obtain ⟨sl, h1, h2⟩ := h
  exact ⟨sl, h1.mono hI hL, h2.mono (fun x c h => TVerV.mono h hI) hI hL⟩
theorem MapAt.mono {I I' : Imm} {L L' : LH} {m : Nat} {es : Array MapEntry} {clock : Nat} (h : MapAt I L m es clock) (hI : Ext I I') (hL : ∀ x ∈ L, x ∈ L') : MapAt I' L' m es clock := h.imp (hL _) (hI _ _)
theorem ViewF.mono {I I' : Imm} {L L' : LH} {b m : Nat} {kv : Value} {es : Array MapEntry} {clock : Nat} {ps : List Nat} {sp : Sp} (h : ViewF I L b m kv es clock ps sp) (hI : Ext I I') (hL : ∀ x ∈ L, x ∈ L') : ViewF I' L' b m kv es clock ps sp :=
  ⟨h.head.mono hI hL, MapAt.mono h.at' hI hL, h.map, h.keys.mono (fun x c h => StrV.mono h hI) hI hL, h.len, fun i p r h1 h2 => (h.cell i p r h1 h2).mono hI hL⟩
theorem View.mono {I I' : Imm} {L L' : LH} {b : Nat} {sp : Sp} (h : View I L b sp) (hI : Ext I I') (hL : ∀ x ∈ L, x ∈ L') : View I' L' b sp := by
  obtain ⟨m, kv, es, clock, ps, h⟩ := h
  exact ⟨m, kv, es, clock, ps, h.mono hI hL⟩
theorem own_cells {L : LH} {b : Nat} {l : List Value} {T : Nat} {fr : Nat × Nat} (h : (b, Obj.cells l.toArray T fr) ∈ L) (n : Nat) : Cells I L b 0 (l.take n) := fun j u hu => Cell.own h (by
  rw [List.getElem?_take] at hu
  split at hu
  · simpa using hu
  · cases hu)
theorem VsO.rl {Y L : LH} {sl : Value} {vs : List TVer} (h : VsO Y sl vs) (hY : ∀ x ∈ Y, x ∈ L) : RL TVerV 4 I L sl vs := by
  have hn := h.news (I := I) hY
  obtain ⟨_, hh⟩ := h
  rcases hh with ⟨_, h0, a, rfl⟩ | ⟨b, cap, cs, _, rfl, _, hle, _⟩
  · refine ⟨a, 0, _, ?_, by omega, hn, versC_recs vs⟩
    rw [h0]
  · exact ⟨_, cap, _, rfl, hle, hn, versC_recs vs⟩
theorem RowsR.cell {L : LH} : ∀ {ps : List Nat} {rs : List Row} {X : LH}, RowsR X ps rs → (∀ x ∈ X, x ∈ L) → ∀ (i p : Nat) r, ps[i]? = some p → rs[i]? = some r → CellV I L p r
  | [], [], _, _, _, i, p, r, h1, _ => by simp at h1
  | q :: ps, a :: rs, X, ⟨sl, Y, Z, h1, h2, h3⟩, hL, 0, p, r, g1, g2 => by
    simp only [List.getElem?_cons_zero, Option.some.injEq] at g1 g2
    subst g1 g2
    exact ⟨sl, own_cells (hL _ (h1.mem_iff.2 (List.mem_cons_self ..))) 6, h2.rl (fun x hx => hL _ (h1.mem_iff.2 (by simp [hx])))⟩
  | q :: ps, a :: rs, X, ⟨sl, Y, Z, h1, h2, h3⟩, hL, i + 1, p, r, g1, g2 =>
    RowsR.cell h3 (fun x hx => hL _ (h1.mem_iff.2 (by simp [hx]))) i p r (by simpa using g1) (by simpa using g2)
end
end Go.Proofs.YtmnnnoinfhiilaaDoor
