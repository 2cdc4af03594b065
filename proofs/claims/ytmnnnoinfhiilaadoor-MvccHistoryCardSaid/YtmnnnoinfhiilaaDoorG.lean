/-
  A space by definition: its rows, and what is asked of them.
-/
-- S3
import Derived.Test.YtmnnnoinfhiilaaDoorE
import Derived.Test.YtmnnnoinfhiilaaDoorSlMap
set_option linter.unusedSimpArgs false
set_option linter.unusedVariables false
namespace Go.Proofs.YtmnnnoinfhiilaaDoor
open Go.SL
set_option maxRecDepth 10000
structure Itn where
  ver : TVer
  txn : Int
def noIt : Itn := ⟨⟨⟨0, 0⟩, false, []⟩, 0⟩
structure Row where
  key : List UInt8
  vs : List TVer
  it : Itn
structure Sp where
  rows : List Row
  floor : TStamp
abbrev z0 : TStamp := ⟨0, 0⟩
def gotN : TGot := ⟨false, [], ⟨0, 0⟩, 0⟩
def gotV (v : List UInt8) (a : TStamp) : TGot := ⟨true, v, a, 0⟩
def gotB (n : Int) : TGot := ⟨false, [], ⟨0, 0⟩, n⟩
def keysOf (rows : List Row) : List (List UInt8) := rows.map (·.key)
def rowOf (rows : List Row) (k : List UInt8) : Option Row := rows.find? fun r => r.key == k
def upTo (vs : List TVer) (m : TStamp) : Option TVer := vs.reverse.find? fun v => !bhd v.fAt m
def seenV : Option TVer → TGot
  | none => gotN
  | some v => if v.fDel = true then gotN else gotV v.fValue v.fAt
def seen (r : Row) (m : TStamp) (txn : Int) : TGot × Int :=
  if r.it.txn = 0 then (seenV (upTo r.vs m), 0) else if r.it.txn = txn then (seenV (some r.it.ver), 0) else if bhd r.it.ver.fAt m = false then (gotB r.it.txn, 130) else (seenV (upTo r.vs m), 0)
def getF (sp : Sp) (k : List UInt8) (m : TStamp) (txn : Int) : TGot × Int :=
  if keyOk k = false ∨ (rightB m && readerB txn) = false then (gotN, 1) else if bhd sp.floor m = true then (gotN, 131) else match rowOf sp.rows k with
  | none => (gotN, 0)
  | some r => seen r m txn
def push (r : Row) (g : TGot) (acc : List TKV) : List TKV := if g.fFound = true then acc ++ [⟨r.key, g.fValue⟩] else acc
def scanL (m : TStamp) (txn most : Int) : List Row → List TKV → List TKV × Int × Int
  | [], acc => (acc, 0, 0)
  | r :: rs, acc => if (seen r m txn).2 ≠ 0 then ([], (seen r m txn).1.fBy, (seen r m txn).2) else
      if ((push r (seen r m txn).1 acc).length : Int) = most then (push r (seen r m txn).1 acc, 0, 0) else scanL m txn most rs (push r (seen r m txn).1 acc)
def inR (p : TSpan) (rows : List Row) : List Row := rows.filter fun r => inB p r.key
def scanF (sp : Sp) (p : TSpan) (m : TStamp) (txn most : Int) : List TKV × Int × Int :=
  if (rightB m && readerB txn) = false ∨ most < 1 then ([], 0, 1) else if bhd sp.floor m = true then ([], 0, 131) else scanL m txn most (inR p sp.rows) []
def itAt (rows : List Row) (k : List UInt8) : Itn := match rowOf rows k with
  | none => noIt
  | some r => r.it
def vsAt (rows : List Row) (k : List UInt8) : List TVer := match rowOf rows k with
  | none => []
  | some r => r.vs
def setIt (k : List UInt8) (it : Itn) : List Row → List Row
  | [] => [⟨k, [], it⟩]
  | r :: rs => if r.key = k then ⟨k, r.vs, it⟩ :: rs else if blt k r.key = true then ⟨k, [], it⟩ :: r :: rs else r :: setIt k it rs
def pastL (a : TStamp) : Option TVer → TStamp × Int
  | none => (a, 0)
  | some v => if bhd a v.fAt = true then (a, 0) else nextF v.fAt
def putBad (x : TIntent) : Prop := keyOk x.fKey = false ∨ txnB x.fTxn = false ∨ rightB x.fAt = false ∨ 10000 < x.fValue.length ∨ (x.fDel = true ∧ x.fValue ≠ [])
instance (x : TIntent) : Decidable (putBad x) := by unfold putBad; infer_instance
def putAt (sp : Sp) (x : TIntent) : TStamp :=
  let a := if bhd sp.floor x.fAt = true then sp.floor else x.fAt
  if (itAt sp.rows x.fKey).txn ≠ 0 ∧ bhd (itAt sp.rows x.fKey).ver.fAt a = true then (itAt sp.rows x.fKey).ver.fAt else a
def putA (sp : Sp) (x : TIntent) : TStamp × Int × Int :=
  if putBad x then (z0, 0, 1) else
  if (itAt sp.rows x.fKey).txn ≠ 0 ∧ (itAt sp.rows x.fKey).txn ≠ x.fTxn then (z0, (itAt sp.rows x.fKey).txn, 130) else
  if (pastL (putAt sp x) (vsAt sp.rows x.fKey).getLast?).2 ≠ 0 then (z0, 0, (pastL (putAt sp x) (vsAt sp.rows x.fKey).getLast?).2) else ((pastL (putAt sp x) (vsAt sp.rows x.fKey).getLast?).1, 0, 0)
def putS (sp : Sp) (x : TIntent) : Sp := if (putA sp x).2.2 ≠ 0 then sp else ⟨setIt x.fKey ⟨⟨(putA sp x).1, x.fDel, x.fValue⟩, x.fTxn⟩ sp.rows, sp.floor⟩
def updR (k : List UInt8) (f : Row → Row) (rows : List Row) : List Row := rows.map fun r => if r.key = k then f r else r
def emptyB (r : Row) : Bool := r.vs.isEmpty && r.it.txn == 0
def tidyR (rows : List Row) : List Row := rows.filter fun r => !emptyB r
def earlyB (a : TStamp) : Option TVer → Bool
  | none => false
  | some v => !bhd a v.fAt
def resA (sp : Sp) (k : List UInt8) (txn : Int) (yes : Bool) (a : TStamp) : Bool × Int :=
  if keyOk k = false ∨ txnB txn = false ∨ (yes = true ∧ rightB a = false) then (false, 1) else
  if (itAt sp.rows k).txn ≠ txn then (false, 0) else
  if yes = true ∧ (bhd (itAt sp.rows k).ver.fAt a = true ∨ earlyB a (vsAt sp.rows k).getLast? = true) then (false, 1) else (true, 0)
def resR (yes : Bool) (a : TStamp) (r : Row) : Row := ⟨r.key, if yes = true then r.vs ++ [⟨a, r.it.ver.fDel, r.it.ver.fValue⟩] else r.vs, noIt⟩
def resS (sp : Sp) (k : List UInt8) (txn : Int) (yes : Bool) (a : TStamp) : Sp := if (resA sp k txn yes a).1 = true then ⟨tidyR (updR k (resR yes a) sp.rows), sp.floor⟩ else sp
def oldB (k v : TVer) : Bool := bhd k.fAt v.fAt || (k.fDel && (v.fAt.fWall == k.fAt.fWall && v.fAt.fLogic == k.fAt.fLogic))
def colR (fl : TStamp) (r : Row) : Row := match upTo r.vs fl with
  | none => r
  | some k => ⟨r.key, r.vs.filter fun v => !oldB k v, r.it⟩
def versN (rows : List Row) : Nat := (rows.map (·.vs.length)).sum
def colFl (sp : Sp) (b : TStamp) : TStamp := if bhd b sp.floor = true then b else sp.floor
def colS (sp : Sp) (b : TStamp) : Sp := if rightB b = false then sp else ⟨tidyR (sp.rows.map (colR (colFl sp b))), colFl sp b⟩
def itF (r : Row) : TIntent := ⟨r.key, r.it.txn, r.it.ver.fAt, r.it.ver.fDel, r.it.ver.fValue⟩
def intsOf (rows : List Row) : List TIntent := (rows.filter fun r => r.it.txn != 0).map itF
def verF (k : List UInt8) (v : TVer) : TVersion := ⟨k, v.fAt, v.fDel, v.fValue⟩
def versOf (rows : List Row) : List TVersion := rows.flatMap fun r => r.vs.map (verF r.key)
/-! ### What spaces there are -/
structure VerOk (v : TVer) : Prop where
  right : rightB v.fAt = true
  len : v.fValue.length ≤ 10000
  del : v.fDel = true → v.fValue = []
structure RowOk (r : Row) : Prop where
  key : keyOk r.key = true
  vs : ∀ v ∈ r.vs, VerOk v
  rise : r.vs.Pairwise fun a b => bhd b.fAt a.fAt = true
  it : r.it = noIt ∨ (txnB r.it.txn = true ∧ VerOk r.it.ver)
  some : emptyB r = false
structure SpOk (sp : Sp) : Prop where
  rise : SrtK (keysOf sp.rows)
  rows : ∀ r ∈ sp.rows, RowOk r
  floor : rightB sp.floor = true
theorem RowOk.txn {r : Row} (h : RowOk r) : 0 ≤ r.it.txn ∧ r.it.txn ≤ 9007199254740991 := by
  rcases h.it with h | ⟨h, _⟩
  · rw [h]; decide
  · simp [txnB] at h; omega
theorem RowOk.zero {r : Row} (h : RowOk r) (h0 : r.it.txn = 0) : r.it = noIt := by
  rcases h.it with h | ⟨h, _⟩
  · exact h
  · rw [h0] at h; cases h
end Go.Proofs.YtmnnnoinfhiilaaDoor
