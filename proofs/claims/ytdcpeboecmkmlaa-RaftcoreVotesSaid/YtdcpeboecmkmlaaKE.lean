/-
  A node of the group, plainly: what its changing functions make of it, and what it sends.
-/
-- S2
import Derived.Test.YtdcpeboecmkmlaaKD
set_option linter.unusedSimpArgs false
set_option linter.unusedVariables false
namespace Go.Proofs.Ytdcpeboecmkmlaa
open Go.SL
set_option maxRecDepth 10000

structure RF where
  group : Int
  id : Int
  term : Int
  vote : Int
  g : LG
  st : List UInt8
  role : Int
  leader : Int
  elapsed : Int
  vt : Int → Bool
  nx : Int → Int
  mt : Int → Int
  out : List RM

def updI {α : Type} (f : Int → α) (p : Int) (v : α) : Int → α := fun q => if q = p then v else f q
def msg0 : RM := ⟨0, 0, 0, 0, 0, 0, 0, 0, false, [], [], []⟩
def mems (r : RF) : List Int := memOf r.g.mem r.g.es
def sendF (r : RF) (m : RM) : RF := { r with out := r.out ++ [{ m with group := r.group, frm := r.id, term := r.term }] }
def majF (l : List Int) (p : Int → Bool) : Bool := decide (l.length < 2 * (l.filter p).length)
def followF (r : RF) (t : Int) : RF := { r with term := if r.term < t then t else r.term, vote := if r.term < t then 0 else r.vote, role := 1, leader := 0 }
def snapM (r : RF) (p : Int) : RM := { msg0 with kind := 5, to := p, index := r.g.index, lterm := r.g.term, mem := r.g.mem, data := r.st }
def appM (r : RF) (p : Int) : RM := { msg0 with kind := 3, to := p, index := r.nx p - 1, lterm := (termAt r.g (r.nx p - 1)).1, commit := r.g.commit, ents := sliceAt r.g (r.nx p - 1 + 1) 64 }
def sendToF (r : RF) (p : Int) : RF := sendF r (if r.nx p - 1 < r.g.index then snapM r p else appM r p)
def eachF (r : RF) (l : List Int) : RF := l.foldl (fun r p => if p = r.id then r else sendToF r p) r
def sendAllF (r : RF) : RF := if r.role = 3 then eachF r (mems r) else r
def bestG (q : Int → Bool) (c : Int) : Nat → Int
  | 0 => 0
  | k + 1 => if q (c + (k + 1 : Nat)) then c + (k + 1 : Nat) else bestG q c k
def hasQ (r : RF) (n : Int) : Bool := ((termAt r.g n).1 == r.term) && majF (mems r) (fun p => decide (n ≤ r.mt p))
def matF (r : RF) : RF := { r with mt := updI r.mt r.id (lastI r.g) }
def bestF (r : RF) : Int := bestG (hasQ r) r.g.commit (lastI r.g - r.g.commit).toNat
def settleF (r : RF) (n : Int) : RF := { r with g := (settleG r.g n).2 }
def outF (r : RF) : RF := if (!chg r.g && !(mems r).contains r.id) then { r with role := 1, leader := 0 } else r
def commitF (r : RF) : Bool × RF :=
  let b := bestF (matF r)
  (decide (0 < b), outF (if 0 < b then settleF (matF r) b else matF r))
def lead0 (r : RF) : RF := { r with role := 3, leader := r.id, nx := fun _ => lastI r.g + 1, mt := fun _ => 0 }
def leadF (r : RF) : RF := sendAllF (commitF { lead0 r with g := (addG r.g r.term 1 []).2.2 }).2
def electedF (r : RF) : Bool := majF (mems r) r.vt
def want0 (r : RF) : RF := { r with term := r.term + 1, vote := r.id, role := 2, leader := 0, elapsed := 0, vt := fun p => decide (p = r.id) }
def voteM (r : RF) (p : Int) : RM := { msg0 with kind := 1, to := p, index := lastI r.g, lterm := lastT r.g }
def askF (r : RF) (l : List Int) : RF := l.foldl (fun r p => if p = r.id then r else sendF r (voteM r p)) r
def wantF (r : RF) : RF := if r.term = 9007199254740991 then r else if electedF (want0 r) then leadF (want0 r) else askF (want0 r) (mems r)
def tickF (r : RF) (w : Int) : RF :=
  if r.role = 3 then sendAllF r else
  if w ≤ r.elapsed + 1 ∧ (mems r).contains r.id = true then wantF { r with elapsed := r.elapsed + 1 } else { r with elapsed := r.elapsed + 1 }
def addF (r : RF) (k : Int) (d : List UInt8) : Int × Int × RF :=
  let a := addG r.g r.term k d
  if a.2.1 ≠ 0 then (0, a.2.1, r) else (a.1, 0, sendAllF (commitF { r with g := a.2.2 }).2)
def proposeF (r : RF) (d : List UInt8) : Int × Int × RF := if r.role ≠ 3 then (0, 110, r) else addF r 2 d
def unlikeL (a b : List Int) : Nat := ([1, 2, 3, 4, 5].filter fun p : Int => a.contains p != b.contains p).length
def changeF (r : RF) (l : List Int) : Int × Int × RF :=
  if r.role ≠ 3 then (0, 110, r) else if memB l = false then (0, 1, r)
  else if chg r.g = true ∨ (termAt r.g r.g.commit).1 ≠ r.term ∨ unlikeL l (mems r) ≠ 1 then (0, 111, r)
  else addF r 3 (l.map byteOf)
def compactF (r : RF) (i : Int) (d : List UInt8) : Int × RF :=
  if 60000 < d.length then (1, r) else
  let c := cutG r.g i
  if c.1 ≠ 0 then (c.1, r) else (0, { r with g := c.2, st := d })
def newOk (group id term vote : Int) (g : LG) (st : List UInt8) : Bool :=
  decide (1 ≤ group) && decide (group ≤ 255) && nodeB id && countB term && ((vote == 0) || nodeB vote) && decide (lastT g ≤ term) && decide (st.length ≤ 60000)
def newF (group id term vote : Int) (g : LG) (st : List UInt8) : RF := ⟨group, id, term, vote, g, st, 1, 0, 0, fun _ => false, fun _ => 0, fun _ => 0, []⟩
def takeF (r : RF) : RF := { r with out := [] }

/-! ### A message -/
def votedM (m : RM) (b : Bool) : RM := { msg0 with kind := 2, to := m.frm, ok := b }
def doneM (m : RM) (b : Bool) (i : Int) : RM := { msg0 with kind := 4, to := m.frm, ok := b, index := i }
def refuseF (r : RF) (m : RM) : RF := if m.kind = 1 then sendF r (votedM m false) else if m.kind = 3 ∨ m.kind = 5 then sendF r (doneM m false 0) else r
def grantB (r : RF) (m : RM) : Bool := (decide (r.vote = 0) || decide (r.vote = m.frm)) && newB r.g m.index m.lterm
def askedF (r : RF) (m : RM) : RF :=
  let yes := grantB r m
  sendF (if yes then { r with vote := m.frm, elapsed := 0 } else r) (votedM m yes)
def grantedF (r : RF) (m : RM) : RF :=
  if m.ok = true ∧ r.role = 2 then
    (let r1 := { r with vt := updI r.vt m.frm true }
     if electedF r1 then leadF r1 else r1)
  else r
def hearF (r : RF) (p : Int) : RF := { r with role := 1, leader := p, elapsed := 0 }
def appendF (r : RF) (m : RM) : RF :=
  let r1 := hearF r m.frm
  let o := offerG r1.g m.index m.lterm m.ents
  if o.2.2.1 ≠ 0 then { r1 with g := o.2.2.2 } else
  sendF (if o.2.1 then settleF { r1 with g := o.2.2.2 } (min m.commit o.1) else { r1 with g := o.2.2.2 }) (doneM m o.2.1 o.1)
def installF (r : RF) (m : RM) : RF :=
  let r1 := hearF r m.frm
  if m.index ≤ r1.g.commit then sendF r1 (doneM m true r1.g.commit) else
  let o := resetG r1.g m.index m.lterm m.mem
  if o.1 ≠ 0 then r1 else sendF { r1 with g := o.2, st := m.data } (doneM m true m.index)
def appendedF (r : RF) (m : RM) : RF :=
  let p := m.frm
  if m.ok = false then
    (if m.index + 1 < r.nx p then sendToF { r with nx := updI r.nx p (max m.index (r.mt p) + 1) } p else r)
  else if lastI r.g < m.index then r else
  let k := max (r.mt p) m.index
  let r1 := { r with mt := updI r.mt p k, nx := updI r.nx p (k + 1) }
  let c := commitF r1
  if c.1 then sendAllF c.2 else if c.2.role = 3 ∧ c.2.nx p ≤ lastI r.g then sendToF c.2 p else c.2
def handleF (r : RF) (m : RM) : RF :=
  if m.kind = 1 then askedF r m else if m.kind = 2 then grantedF r m
  else if m.kind = 3 then (if r.role = 3 then r else appendF r m)
  else if m.kind = 5 then (if r.role = 3 then r else installF r m)
  else if m.kind = 4 then (if r.role = 3 then appendedF r m else r)
  else r
def upF (r : RF) (m : RM) : RF := if r.term < m.term then followF r m.term else r
def stepF (r : RF) (m : RM) : Int × RF :=
  if rightB m = false ∨ m.group ≠ r.group ∨ m.to ≠ r.id then (1, r)
  else if m.term < r.term then (0, refuseF r m)
  else (0, handleF (upF r m) m)
end Go.Proofs.Ytdcpeboecmkmlaa
