/-
  A node of the group, plainly: what its changing functions make of it, and what it sends.
-/
-- S3
import Derived.Test.YtdcpeboecmkmlaaKA
set_option linter.unusedSimpArgs false
set_option linter.unusedVariables false
namespace Go.Proofs.Ytdcpeboecmkmlaa
open Go.SL
set_option maxRecDepth 10000

structure RF where
  group : Int
  id : Int
  term : Int
  vote : Int
  g : LG
  st : List UInt8
  role : Int
  leader : Int
  elapsed : Int
  vt : Int → Bool
  nx : Int → Int
  mt : Int → Int
  out : List RM

def updI {α : Type} (f : Int → α) (p : Int) (v : α) : Int → α := fun q => if q = p then v else f q
def msg0 : RM := ⟨0, 0, 0, 0, 0, 0, 0, 0, false, [], [], []⟩
def mems (r : RF) : List Int := memOf r.g.mem r.g.es
def sendF (r : RF) (m : RM) : RF := { r with out := r.out ++ [{ m with group := r.group, frm := r.id, term := r.term }] }
def majF (l : List Int) (p : Int → Bool) : Bool := decide (l.length < 2 * (l.filter p).length)
def followF (r : RF) (t : Int) : RF := { r with term := if r.term < t then t else r.term, vote := if r.term < t then 0 else r.vote, role := 1, leader := 0 }
def snapM (r : RF) (p : Int) : RM := { msg0 with kind := 5, to := p, index := r.g.index, lterm := r.g.term, mem := r.g.mem, data := r.st }
def appM (r : RF) (p : Int) : RM := { msg0 with kind := 3, to := p, index := r.nx p - 1, lterm := (termAt r.g (r.nx p - 1)).1, commit := r.g.commit, ents := sliceAt r.g (r.nx p - 1 + 1) 64 }
def sendToF (r : RF) (p : Int) : RF := sendF r (if r.nx p - 1 < r.g.index then snapM r p else appM r p)
def eachF (r : RF) (l : List Int) : RF := l.foldl (fun r p => if p = r.id then r else sendToF r p) r
def sendAllF (r : RF) : RF := if r.role = 3 then eachF r (mems r) else r
def bestG (q : Int → Bool) (c : Int) : Nat → Int
  | 0 => 0
  | k + 1 => if q (c + (k + 1 : Nat)) then c + (k + 1 : Nat) else bestG q c k
def hasQ (r : RF) (n : Int) : Bool := ((termAt r.g n).1 == r.term) && majF (mems r) (fun p => decide (n ≤ r.mt p))
def matF (r : RF) : RF := { r with mt := updI r.mt r.id (lastI r.g) }
def bestF (r : RF) : Int := bestG (hasQ r) r.g.commit (lastI r.g - r.g.commit).toNat
def settleF (r : RF) (n : Int) : RF := { r with g := (settleG r.g n).2 }
def outF (r : RF) : RF := if (!chg r.g && !(mems r).contains r.id) then { r with role := 1, leader := 0 } else r
def commitF (r : RF) : Bool × RF :=
  let b := bestF (matF r)
  (decide (0 < b), outF (if 0 < b then settleF (matF r) b else matF r))
def lead0 (r : RF) : RF := { r with role := 3, leader := r.id, nx := fun _ => lastI r.g + 1, mt := fun _ => 0 }
def leadF (r : RF) : RF := sendAllF (commitF { lead0 r with g := (addG r.g r.term 1 []).2.2 }).2
def electedF (r : RF) : Bool := majF (mems r) r.vt
def want0 (r : RF) : RF := { r with term := r.term + 1, vote := r.id, role := 2, leader := 0, elapsed := 0, vt := fun p => decide (p = r.id) }
def voteM (r : RF) (p : Int) : RM := { msg0 with kind := 1, to := p, index := lastI r.g, lterm := lastT r.g }
def askF (r : RF) (l : List Int) : RF := l.foldl (fun r p => if p = r.id then r else sendF r (voteM r p)) r
def wantF (r : RF) : RF := if r.term = 9007199254740991 then r else if electedF (want0 r) then leadF (want0 r) else askF (want0 r) (mems r)
def tickF (r : RF) (w : Int) : RF :=
  if r.role = 3 then sendAllF r else
  if w ≤ r.elapsed + 1 ∧ (mems r).contains r.id = true then wantF { r with elapsed := r.elapsed + 1 } else { r with elapsed := r.elapsed + 1 }
def addF (r : RF) (k : Int) (d : List UInt8) : Int × Int × RF :=
  let a := addG r.g r.term k d
  if a.2.1 ≠ 0 then (0, a.2.1, r) else (a.1, 0, sendAllF (commitF { r with g := a.2.2 }).2)
def proposeF (r : RF) (d : List UInt8) : Int × Int × RF := if r.role ≠ 3 then (0, 110, r) else addF r 2 d
def unlikeL (a b : List Int) : Nat := ([1, 2, 3, 4, 5].filter fun p : Int => a.contains p != b.contains p).length
def changeF (r : RF) (l : List Int) : Int × Int × RF :=
  if r.role ≠ 3 then (0, 110, r) else if memB l = false then (0, 1, r)
  else if chg r.g = true ∨ (termAt r.g r.g.commit).1 ≠ r.term ∨ unlikeL l (mems r) ≠ 1 then (0, 111, r)
  else addF r 3 (l.map byteOf)
def compactF (r : RF) (i : Int) (d : List UInt8) : Int × RF :=
  if 60000 < d.length then (1, r) else
  let c := cutG r.g i
  if c.1 ≠ 0 then (c.1, r) else (0, { r with g := c.2, st := d })
def newOk (group id term vote : Int) (g : LG) (st : List UInt8) : Bool :=
  decide (1 ≤ group) && decide (group ≤ 255) && nodeB id && countB term && ((vote == 0) || nodeB vote) && decide (lastT g ≤ term) && decide (st.length ≤ 60000)
def newF (group id term vote : Int) (g : LG) (st : List UInt8) : RF := ⟨group, id, term, vote, g, st, 1, 0, 0, fun _ => false, fun _ => 0, fun _ => 0, []⟩
def takeF (r : RF) : RF := { r with out := [] }

/-! ### A message -/
def votedM (m : RM) (b : Bool) : RM := { msg0 with kind := 2, to := m.frm, ok := b }
def doneM (m : RM) (b : Bool) (i : Int) : RM := { msg0 with kind := 4, to := m.frm, ok := b, index := i }
def refuseF (r : RF) (m : RM) : RF := if m.kind = 1 then sendF r (votedM m false) else if m.kind = 3 ∨ m.kind = 5 then sendF r (doneM m false 0) else r
def grantB (r : RF) (m : RM) : Bool := (decide (r.vote = 0) || decide (r.vote = m.frm)) && newB r.g m.index m.lterm
def askedF (r : RF) (m : RM) : RF :=
  let yes := grantB r m
  sendF (if yes then { r with vote := m.frm, elapsed := 0 } else r) (votedM m yes)
def grantedF (r : RF) (m : RM) : RF :=
  if m.ok = true ∧ r.role = 2 then
    (let r1 := { r with vt := updI r.vt m.frm true }
     if electedF r1 then leadF r1 else r1)
  else r
def hearF (r : RF) (p : Int) : RF := { r with role := 1, leader := p, elapsed := 0 }
def appendF (r : RF) (m : RM) : RF :=
  let r1 := hearF r m.frm
  let o := offerG r1.g m.index m.lterm m.ents
  if o.2.2.1 ≠ 0 then { r1 with g := o.2.2.2 } else
  sendF (if o.2.1 then settleF { r1 with g := o.2.2.2 } (min m.commit o.1) else { r1 with g := o.2.2.2 }) (doneM m o.2.1 o.1)
def installF (r : RF) (m : RM) : RF :=
  let r1 := hearF r m.frm
  if m.index ≤ r1.g.commit then sendF r1 (doneM m true r1.g.commit) else
  let o := resetG r1.g m.index m.lterm m.mem
  if o.1 ≠ 0 then r1 else sendF { r1 with g := o.2, st := m.data } (doneM m true m.index)
def appendedF (r : RF) (m : RM) : RF :=
  let p := m.frm
  if m.ok = false then
    (if m.index + 1 < r.nx p then sendToF { r with nx := updI r.nx p (max m.index (r.mt p) + 1) } p else r)
  else if lastI r.g < m.index then r else
  let k := max (r.mt p) m.index
  let r1 := { r with mt := updI r.mt p k, nx := updI r.nx p (k + 1) }
  let c := commitF r1
  if c.1 then sendAllF c.2 else if c.2.role = 3 ∧ c.2.nx p ≤ lastI r.g then sendToF c.2 p else c.2
def handleF (r : RF) (m : RM) : RF :=
  if m.kind = 1 then askedF r m else if m.kind = 2 then grantedF r m
  else if m.kind = 3 then (if r.role = 3 then r else appendF r m)
  else if m.kind = 5 then (if r.role = 3 then r else installF r m)
  else if m.kind = 4 then (if r.role = 3 then appendedF r m else r)
  else r
def upF (r : RF) (m : RM) : RF := if r.term < m.term then followF r m.term else r
def stepF (r : RF) (m : RM) : Int × RF :=
  if rightB m = false ∨ m.group ≠ r.group ∨ m.to ≠ r.id then (1, r)
  else if m.term < r.term then (0, refuseF r m)
  else (0, handleF (upF r m) m)
end Go.Proofs.Ytdcpeboecmkmlaa

namespace Go.Proofs.Ytdcpeboecmkmlaa
open Go.SL
set_option maxRecDepth 10000

/-- the 28 cells of a node -/
abbrev rcells (r : RF) (z0 : Bool) (z1 z2 : Int) (lv stv ov : Value) : List Value :=
  [.int .i64 r.group, .int .i64 r.id, .int .i64 r.term, .int .i64 r.vote, lv, stv, .int .i64 r.role, .int .i64 r.leader, .int .i64 r.elapsed,
   .bool z0, .bool (r.vt 1), .bool (r.vt 2), .bool (r.vt 3), .bool (r.vt 4), .bool (r.vt 5),
   .int .i64 z1, .int .i64 z2, .int .i64 (r.nx 1), .int .i64 (r.mt 1), .int .i64 (r.nx 2), .int .i64 (r.mt 2), .int .i64 (r.nx 3), .int .i64 (r.mt 3), .int .i64 (r.nx 4), .int .i64 (r.mt 4), .int .i64 (r.nx 5), .int .i64 (r.mt 5), ov]
abbrev Msgs (I : Imm) (L : LH) (v : Value) (l : List RM) : Prop := RL MsgV 12 I L v l
def pt (b : Nat) : Value := .pointer (some ⟨b, 0, none⟩)
def RaftR (I : Imm) (b : Nat) (X : LH) (r : RF) : Prop :=
  ∃ lb XL XO stv ov z0 z1 z2 oc, X = (b, Obj.cells (rcells r z0 z1 z2 (.pointer (some ⟨lb, 0, none⟩)) stv ov).toArray 131 (0, 0)) :: (XL ++ XO) ∧
    LogR I lb XL r.g ∧ Bytes I stv r.st ∧ SlO 77 12 XO ov oc r.out.length ∧ Recs (MsgV I) 12 r.out oc
theorem RaftR.mono {I I' : Imm} {b : Nat} {X : LH} {r : RF} (h : RaftR I b X r) (hI : Ext I I') : RaftR I' b X r := by
  obtain ⟨lb, XL, XO, stv, ov, z0, z1, z2, oc, hX, h1, h2, h3, h4⟩ := h
  exact ⟨lb, XL, XO, stv, ov, z0, z1, z2, oc, hX, h1.mono hI, h2.mono hI, h3, h4.imp fun _ _ h => h.mono hI⟩

theorem five {p : Int} (h : 1 ≤ p ∧ p ≤ 5) : p = 1 ∨ p = 2 ∨ p = 3 ∨ p = 4 ∨ p = 5 := by omega
section
variable {r : RF} {z0 : Bool} {z1 z2 : Int} {lv stv ov : Value}
theorem rc_vt {p : Int} (h : 1 ≤ p ∧ p ≤ 5) : (rcells r z0 z1 z2 lv stv ov)[9 + p.toNat * 1]? = some (.bool (r.vt p)) := by
  rcases five h with rfl | rfl | rfl | rfl | rfl <;> rfl
theorem rc_nx {p : Int} (h : 1 ≤ p ∧ p ≤ 5) : (rcells r z0 z1 z2 lv stv ov)[15 + p.toNat * 2]? = some (.int .i64 (r.nx p)) := by
  rcases five h with rfl | rfl | rfl | rfl | rfl <;> rfl
theorem rc_mt {p : Int} (h : 1 ≤ p ∧ p ≤ 5) : (rcells r z0 z1 z2 lv stv ov)[15 + p.toNat * 2 + 1]? = some (.int .i64 (r.mt p)) := by
  rcases five h with rfl | rfl | rfl | rfl | rfl <;> rfl
theorem rc_svt {p : Int} {t : Bool} (h : 1 ≤ p ∧ p ≤ 5) : (rcells r z0 z1 z2 lv stv ov).set (9 + p.toNat * 1) (.bool t) = rcells { r with vt := updI r.vt p t } z0 z1 z2 lv stv ov := by
  rcases five h with rfl | rfl | rfl | rfl | rfl <;> rfl
theorem rc_snx {p : Int} {t : Int} (h : 1 ≤ p ∧ p ≤ 5) : (rcells r z0 z1 z2 lv stv ov).set (15 + p.toNat * 2) (.int .i64 t) = rcells { r with nx := updI r.nx p t } z0 z1 z2 lv stv ov := by
  rcases five h with rfl | rfl | rfl | rfl | rfl <;> rfl
theorem rc_smt {p : Int} {t : Int} (h : 1 ≤ p ∧ p ≤ 5) : (rcells r z0 z1 z2 lv stv ov).set (15 + p.toNat * 2 + 1) (.int .i64 t) = rcells { r with mt := updI r.mt p t } z0 z1 z2 lv stv ov := by
  rcases five h with rfl | rfl | rfl | rfl | rfl <;> rfl
theorem rc_len : (rcells r z0 z1 z2 lv stv ov).length = 28 := rfl
end

theorem cells_ptr (a : Option Addr) : Value.cells (.pointer a) = #[.pointer a] := rfl
theorem ixPV_at {b off n len : Nat} {i : Int} (k : IntKind) (h0 : 0 ≤ i) (h1 : i < len) : ixPV n len (.pointer (some ⟨b, off, none⟩)) (.int k i) = some (.pointer (some ⟨b, off + i.toNat * n, none⟩)) := by
  simp only [ixPV]; rw [if_pos ⟨h0, h1⟩]

section
variable {ω : Om} {I : Imm} {L : LH} {K : Value → M}

/-- one cell of a block, wherever it is -/
theorem stL {b off T : Nat} {l l' : List Value} {v : Value} {L' : LH} [h : InL b L (.cells l.toArray T (0, 0))] (hs : l.set off v = l') (ho : off < l.length) [u : UpL b L (.cells l.toArray T (0, 0)) (.cells l'.toArray T (0, 0)) L'] (hv : v.oneCell' = true) (hk : K undef I L') :
    Sto 1 (.pointer (some ⟨b, off, none⟩)) v (gh K) I L := by
  obtain ⟨L1, L2, rfl, rfl⟩ := u.up
  have hc : v.cells = #[v] := by cases v <;> first | rfl | simp [Value.oneCell'] at hv
  refine ⟨b, off, l.toArray, T, L1, L2, rfl, by simp [hc], by simp [hc]; exact hv, by simp; omega, rfl, ?_⟩
  rw [hc, wr_one l l' off v hs]
  exact Gh.done hk
theorem rdL {b off T : Nat} {l : List Value} {v : Value} {fr : Nat × Nat} [h : InL b L (.cells l.toArray T fr)] (hv : l[off]? = some v) (hk : K v I L) : Rv none (ld1R (.pointer (some ⟨b, off, none⟩))) K I L :=
  rd1 (Cell.own h.mem (by simpa using hv)) hk
theorem rdLS {b off T : Nat} {l : List Value} {v : Value} {fr : Nat × Nat} {I0 : Imm} {X : LH} [h : InL b X (.cells l.toArray T fr)] (hv : l[off]? = some v) (hk : K v I L) : Rv (some (Stay I0 X)) (ld1R (.pointer (some ⟨b, off, none⟩))) K I L :=
  rd1S (fun I' L' hS => Cell.own (hS.2 _ h.mem) (by simpa using hv)) hk

theorem raft_fin {b lb : Nat} {XL XO F : LH} {v stv ov : Value} {oc : List Value} {r : RF} {cs : Array Value} (z0 : Bool) (z1 z2 : Int) (hk : ∀ X', RaftR I b X' r → K v I (X' ++ F)) (h1 : LogR I lb XL r.g) (h2 : Bytes I stv r.st)
    (h3 : SlO 77 12 XO ov oc r.out.length) (h4 : Recs (MsgV I) 12 r.out oc) (hc : cs = (rcells r z0 z1 z2 (.pointer (some ⟨lb, 0, none⟩)) stv ov).toArray) : K v I ((b, Obj.cells cs 131 (0, 0)) :: (XL ++ (XO ++ F))) := by
  subst hc
  have := hk ((b, Obj.cells (rcells r z0 z1 z2 (.pointer (some ⟨lb, 0, none⟩)) stv ov).toArray 131 (0, 0)) :: (XL ++ XO)) ⟨lb, XL, XO, stv, ov, z0, z1, z2, oc, rfl, h1, h2, h3, h4⟩
  simpa only [List.cons_append, List.append_assoc] using this

theorem raft_end {b lb : Nat} {XL XO F R : LH} {v stv ov : Value} {oc : List Value} {r : RF} {cs : Array Value} [hp : PickB b L (Obj.cells cs 131 (0, 0)) R] [hs : SubP (XL ++ (XO ++ F)) R] (z0 : Bool) (z1 z2 : Int) (hk : ∀ X', RaftR I b X' r → K v I (X' ++ F)) (h1 : LogR I lb XL r.g) (h2 : Bytes I stv r.st)
    (h3 : SlO 77 12 XO ov oc r.out.length) (h4 : Recs (MsgV I) 12 r.out oc) (hc : cs = (rcells r z0 z1 z2 (.pointer (some ⟨lb, 0, none⟩)) stv ov).toArray) : Gh (K v) I L :=
  Gh.pick b (XL ++ (XO ++ F)) (Gh.done (raft_fin z0 z1 z2 hk h1 h2 h3 h4 hc))
/-- a call on a node -/
theorem raft_cal {f : FuncId} {args : Array Value} {lb : Nat} {XL XO R : LH} (b : Nat) (F : LH) {stv ov : Value} {oc : List Value} {r : RF} {cs : Array Value} [hp : PickB b L (Obj.cells cs 131 (0, 0)) R] [hs : SubP (XL ++ (XO ++ F)) R] (z0 : Bool) (z1 z2 : Int) (h1 : LogR I lb XL r.g) (h2 : Bytes I stv r.st)
    (h3 : SlO 77 12 XO ov oc r.out.length) (h4 : Recs (MsgV I) 12 r.out oc) (hc : cs = (rcells r z0 z1 z2 (.pointer (some ⟨lb, 0, none⟩)) stv ov).toArray)
    (h : ∀ X, RaftR I b X r → Cal Try.prog ω f args K I (X ++ F)) : Cal Try.prog ω f args K I L := by
  refine Cal.pick b ?_
  subst hc
  have := h ((b, Obj.cells (rcells r z0 z1 z2 (.pointer (some ⟨lb, 0, none⟩)) stv ov).toArray 131 (0, 0)) :: (XL ++ XO)) ⟨lb, XL, XO, stv, ov, z0, z1, z2, oc, rfl, h1, h2, h3, h4⟩
  obtain ⟨R', hR⟩ := hs.sub
  refine Cal.perm (List.Perm.cons _ hR) ?_
  refine Cal.drop (L' := (b, Obj.cells (rcells r z0 z1 z2 (.pointer (some ⟨lb, 0, none⟩)) stv ov).toArray 131 (0, 0)) :: (XL ++ (XO ++ F))) (List.Sublist.cons_cons _ (List.sublist_append_left _ _)) ?_
  simpa only [List.cons_append, List.append_assoc] using this

theorem send_spec {b : Nat} {X F : LH} {r : RF} {m : RM} {c : List Value} (h : RaftR I b X r) (hm : MsgV I m c) (hl : r.out.length ≤ 1000)
    (hk : ∀ X', RaftR I b X' (sendF r m) → K (.tuple #[]) I (X' ++ F)) : Cal Try.prog ω 114 #[.pointer (some ⟨b, 0, none⟩), .agg c.toArray] K I (X ++ F) := by
  obtain ⟨lb, XL, XO, stv, ov, z0, z1, z2, oc, rfl, h1, h2, h3, h4⟩ := h
  obtain ⟨a0, p0, a1, p1, a2, p2, rfl, hE, hM, hD⟩ := hm.form
  refine cal114 ?_
  unfold sh114
  simp only [List.cons_append, List.append_assoc]
  repeat' (first | (with_reducible refine drawC ?_) | (with_reducible refine drawW1 ?_) | (with_reducible refine drawW2 ?_) | (with_reducible refine keepC (by repeat (first | exact Ext.refl _ | assumption | refine Ext.trans ?_ (by assumption))) ?_) | (with_reducible refine newI (fun _ => ?_)) | first | (with_reducible refine rdb ?_) | ((with_reducible refine st1 ?_ ?_); rfl) | ((with_reducible refine rdB ?_ ?_); rfl) | (with_reducible refine rdbS ?_) | ((with_reducible refine rdBS ?_ ?_); rfl) | ((with_reducible refine stB ?_ ?_ ?_ ?_); rfl; rfl; exact one_all rfl) | ((with_reducible refine rdP _ rfl ?_ ?_); rfl) | ((with_reducible refine rdPS _ rfl ?_ ?_); rfl) | ((with_reducible refine stP _ rfl ?_ ?_ ?_ ?_); rfl; rfl; rfl) | (with_reducible refine And.intro ?_ ?_) | (simp only [Bool.not_true, Bool.not_false, Bool.and_self, Bool.true_and, Int.reduceBEq, Int.reduceBNe, Int.reduceLT, Int.reduceLE, decide_true, decide_false, Br_true, Br_false, Gd_tt, Gd_ft, Gd_tf, Gd_ff, beq_self_eq_true, bne_self_eq_false]) | (with_reducible refine gd_split (fun _ => ?_) (fun _ => ?_)) | (with_reducible refine br_split (fun _ => ?_) (fun _ => ?_)) | (simp only [SSd, List.getElem?_toArray, List.getElem?_cons_zero, List.getElem?_cons_succ, Nat.zero_add, Nat.add_zero, Nat.zero_mul, List.drop_succ_cons, List.drop_zero, List.take_succ_cons, List.take_zero, List.nil_append, List.cons_append, Nat.reduceAdd, List.drop_nil, List.take_nil]))
  refine rec_appK (x := { m with group := r.group, frm := r.id, term := r.term }) (X6 := XO) (Ext.refl I) (fun y hy => hy) rfl (by omega) h3 h4 ⟨_, _, _, rfl, hE, hM, hD⟩ rfl (one_all rfl) (by omega) (by omega) (fun X1 X6' a' c' cells' h6 hR => ?_)
  repeat' (first | (with_reducible refine drawC ?_) | (with_reducible refine drawW1 ?_) | (with_reducible refine drawW2 ?_) | (with_reducible refine keepC (by repeat (first | exact Ext.refl _ | assumption | refine Ext.trans ?_ (by assumption))) ?_) | (with_reducible refine newI (fun _ => ?_)) | first | (with_reducible refine rdb ?_) | ((with_reducible refine st1 ?_ ?_); rfl) | ((with_reducible refine rdB ?_ ?_); rfl) | (with_reducible refine rdbS ?_) | ((with_reducible refine rdBS ?_ ?_); rfl) | ((with_reducible refine stB ?_ ?_ ?_ ?_); rfl; rfl; exact one_all rfl) | ((with_reducible refine rdP _ rfl ?_ ?_); rfl) | ((with_reducible refine rdPS _ rfl ?_ ?_); rfl) | ((with_reducible refine stP _ rfl ?_ ?_ ?_ ?_); rfl; rfl; rfl) | (with_reducible refine And.intro ?_ ?_) | (simp only [Bool.not_true, Bool.not_false, Bool.and_self, Bool.true_and, Int.reduceBEq, Int.reduceBNe, Int.reduceLT, Int.reduceLE, decide_true, decide_false, Br_true, Br_false, Gd_tt, Gd_ft, Gd_tf, Gd_ff, beq_self_eq_true, bne_self_eq_false]) | (with_reducible refine gd_split (fun _ => ?_) (fun _ => ?_)) | (with_reducible refine br_split (fun _ => ?_) (fun _ => ?_)) | (simp only [SSd, List.getElem?_toArray, List.getElem?_cons_zero, List.getElem?_cons_succ, Nat.zero_add, Nat.add_zero, Nat.zero_mul, List.drop_succ_cons, List.drop_zero, List.take_succ_cons, List.take_zero, List.nil_append, List.cons_append, Nat.reduceAdd, List.drop_nil, List.take_nil]))
  exact raft_end (F := F) z0 z1 z2 hk h1 h2 h6 hR rfl

theorem take_spec {b : Nat} {X F : LH} {r : RF} (h : RaftR I b X r) (hk : ∀ X' v I', Ext I I' → Msgs I' [] v r.out → RaftR I' b X' (takeF r) → K v I' (X' ++ F)) :
    Cal Try.prog ω 87 #[.pointer (some ⟨b, 0, none⟩)] K I (X ++ F) := by
  obtain ⟨lb, XL, XO, stv, ov, z0, z1, z2, oc, rfl, h1, h2, h3, h4⟩ := h
  simp only [List.cons_append, List.append_assoc]
  refine Cal.split XO (cal_pre (RL.ofO (R := MsgV) MsgV.mono h3 h4 (fun I1 hI1 hL => Gh.done ?_)))
  refine cal87 ?_
  unfold sh87
  refine rdb ?_
  have clip : ∀ {K : Value → M} {L : LH}, (∀ a, Msgs I1 [] (.slice a r.out.length r.out.length) r.out → K (.slice a r.out.length r.out.length) I1 L) → Cal Try.prog ω 112 #[ov] K I1 L := by
    intro K L hk
    refine cal112 ?_
    unfold sh112
    simp only [RL.len hL, SSd, List.getElem?_toArray, List.getElem?_cons_zero, List.getElem?_cons_succ, Nat.zero_add, Nat.add_zero, Nat.zero_mul, List.drop_succ_cons, List.drop_zero, List.take_succ_cons, List.take_zero, List.nil_append, List.cons_append, Nat.reduceAdd, List.drop_nil, List.take_nil]
    obtain ⟨a, hs, hl⟩ := RL.clip hL (Nat.le_refl _)
    rw [List.take_of_length_le (Nat.le_refl _)] at hl
    simp only [hs, SSd, List.getElem?_toArray, List.getElem?_cons_zero, List.getElem?_cons_succ, Nat.zero_add, Nat.add_zero, Nat.zero_mul, List.drop_succ_cons, List.drop_zero, List.take_succ_cons, List.take_zero, List.nil_append, List.cons_append, Nat.reduceAdd, List.drop_nil, List.take_nil]
    exact Gh.done (hk a hl)
  refine call (clip (fun a ha => ?_))
  repeat' (first | (with_reducible refine drawC ?_) | (with_reducible refine drawW1 ?_) | (with_reducible refine drawW2 ?_) | (with_reducible refine keepC (by repeat (first | exact Ext.refl _ | assumption | refine Ext.trans ?_ (by assumption))) ?_) | (with_reducible refine newI (fun _ => ?_)) | first | (with_reducible refine rdb ?_) | ((with_reducible refine st1 ?_ ?_); rfl) | ((with_reducible refine rdB ?_ ?_); rfl) | (with_reducible refine rdbS ?_) | ((with_reducible refine rdBS ?_ ?_); rfl) | ((with_reducible refine stB ?_ ?_ ?_ ?_); rfl; rfl; exact one_all rfl) | ((with_reducible refine rdP _ rfl ?_ ?_); rfl) | ((with_reducible refine rdPS _ rfl ?_ ?_); rfl) | ((with_reducible refine stP _ rfl ?_ ?_ ?_ ?_); rfl; rfl; rfl) | (with_reducible refine And.intro ?_ ?_) | (simp only [Bool.not_true, Bool.not_false, Bool.and_self, Bool.true_and, Int.reduceBEq, Int.reduceBNe, Int.reduceLT, Int.reduceLE, decide_true, decide_false, Br_true, Br_false, Gd_tt, Gd_ft, Gd_tf, Gd_ff, beq_self_eq_true, bne_self_eq_false]) | (with_reducible refine gd_split (fun _ => ?_) (fun _ => ?_)) | (with_reducible refine br_split (fun _ => ?_) (fun _ => ?_)) | (simp only [SSd, List.getElem?_toArray, List.getElem?_cons_zero, List.getElem?_cons_succ, Nat.zero_add, Nat.add_zero, Nat.zero_mul, List.drop_succ_cons, List.drop_zero, List.take_succ_cons, List.take_zero, List.nil_append, List.cons_append, Nat.reduceAdd, List.drop_nil, List.take_nil]))
  exact Gh.done (raft_fin (XO := []) (r := takeF r) z0 z1 z2 (fun X' h' => hk X' _ I1 hI1 ha h') (h1.mono hI1) (h2.mono hI1) (SlO.none _ _) rfl rfl)

theorem follow_spec11 {b : Nat} {X F : LH} {r : RF} {t : Int} (h : RaftR I b X r) (hk : ∀ X', RaftR I b X' (followF r t) → K (.tuple #[]) I (X' ++ F)) :
    Cal Try.prog ω 91 #[.pointer (some ⟨b, 0, none⟩), .int .i64 t] K I (X ++ F) := by
  obtain ⟨lb, XL, XO, stv, ov, z0, z1, z2, oc, rfl, h1, h2, h3, h4⟩ := h
  refine cal91 ?_
  unfold sh91
  simp only [List.cons_append, List.append_assoc]
  repeat' (first | (with_reducible refine drawC ?_) | (with_reducible refine drawW1 ?_) | (with_reducible refine drawW2 ?_) | (with_reducible refine keepC (by repeat (first | exact Ext.refl _ | assumption | refine Ext.trans ?_ (by assumption))) ?_) | (with_reducible refine newI (fun _ => ?_)) | first | (with_reducible refine rdb ?_) | ((with_reducible refine st1 ?_ ?_); rfl) | ((with_reducible refine rdB ?_ ?_); rfl) | (with_reducible refine rdbS ?_) | ((with_reducible refine rdBS ?_ ?_); rfl) | ((with_reducible refine stB ?_ ?_ ?_ ?_); rfl; rfl; exact one_all rfl) | ((with_reducible refine rdP _ rfl ?_ ?_); rfl) | ((with_reducible refine rdPS _ rfl ?_ ?_); rfl) | ((with_reducible refine stP _ rfl ?_ ?_ ?_ ?_); rfl; rfl; rfl) | (with_reducible refine unfE (sh91_1.eq_1 ..) ?_) | (with_reducible refine unfE (sh91.eq_1 ..) ?_) | (with_reducible refine And.intro ?_ ?_) | (simp only [Bool.not_true, Bool.not_false, Bool.and_self, Bool.true_and, Int.reduceBEq, Int.reduceBNe, Int.reduceLT, Int.reduceLE, decide_true, decide_false, Br_true, Br_false, Gd_tt, Gd_ft, Gd_tf, Gd_ff, beq_self_eq_true, bne_self_eq_false]) | (with_reducible refine gd_split (fun _ => ?_) (fun _ => ?_)) | (with_reducible refine br_split (fun _ => ?_) (fun _ => ?_)) | (simp only [SSd, List.getElem?_toArray, List.getElem?_cons_zero, List.getElem?_cons_succ, Nat.zero_add, Nat.add_zero, Nat.zero_mul, List.drop_succ_cons, List.drop_zero, List.take_succ_cons, List.take_zero, List.nil_append, List.cons_append, Nat.reduceAdd, List.drop_nil, List.take_nil]))
  all_goals (
    refine Gh.done (raft_fin z0 z1 z2 hk h1 h2 h3 h4 ?_)
    simp_all [followF]
    try omega)
end
end Go.Proofs.Ytdcpeboecmkmlaa
