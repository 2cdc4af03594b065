/-
  Steps of a calm group: a follower takes entries, a leader hears of it.
-/
-- S3
import Derived.Test.YtdcpeboecmkmlaaPF
set_option linter.unusedSimpArgs false
set_option linter.unusedVariables false
namespace Go.Proofs.Ytdcpeboecmkmlaa
open Go.SL
set_option maxRecDepth 10000

def msgApp (FL : List LE) (k p : Int) (i j cm : Nat) : RM := { msg0 with kind := 3, group := 7, frm := k, to := p, term := 1, index := i, lterm := baseT i, commit := cm, ents := (FL.take j).drop i }
def msgSnap (FL : List LE) (k p : Int) (b : Nat) (st : List UInt8) : RM := { msg0 with kind := 5, group := 7, frm := k, to := p, term := 1, index := b, lterm := baseT b, mem := memOf [1, 2, 3] (FL.take b), data := st }
def msgDone (p k : Int) (j : Nat) : RM := { msg0 with kind := 4, group := 7, frm := p, to := k, term := 1, ok := true, index := j }
variable {FL : List LE} {b n c i j cm : Nat} {k p : Int} {r : RF}
theorem all_fol : ∀ {l : List LE} {i t : Int}, followB i t l = true → (∀ e ∈ l, e.term = 1) → entsAll i 1 l = true
  | [], _, _, _, _ => rfl
  | e :: l, i, t, h, ht => by
    simp only [followB, Bool.and_eq_true, decide_eq_true_eq] at h
    simp only [entsAll, Bool.and_eq_true, decide_eq_true_eq, beq_iff_eq]
    exact ⟨⟨⟨h.1.1.1, h.1.1.2⟩, by rw [ht e (List.mem_cons_self ..)]; omega⟩, all_fol h.2 (fun x hx => ht x (List.mem_cons_of_mem _ hx))⟩
theorem baseT_le (i : Nat) : 0 ≤ baseT i ∧ baseT i ≤ 1 := by unfold baseT; split <;> omega
theorem right_app (h : FLok FL) (hk : 1 ≤ k ∧ k ≤ 5) (hp : 1 ≤ p ∧ p ≤ 5) (hij : i ≤ j) (hj : j ≤ FL.length) (hc : cm ≤ 60) : rightB (msgApp FL k p i j cm) = true := by
  have hs := h.sml
  have hb := baseT_le i
  have ha : entsAll i 1 ((FL.take j).drop i) = true := all_fol (h.part hij hj) (fun e he => h.trm e (List.mem_of_mem_take (List.mem_of_mem_drop he)))
  simp only [rightB, msgApp, msg0, countB, nodeB, kindB, entsB, Bool.and_eq_true, decide_eq_true_eq]
  simp [ha, lg_len hij hj]
  exact ⟨⟨⟨⟨⟨by omega, decide_eq_true (by omega)⟩, by omega⟩, decide_eq_true (by omega)⟩, decide_eq_true (by omega)⟩, decide_eq_true (by omega), by omega⟩
theorem right_done (hk : 1 ≤ k ∧ k ≤ 5) (hp : 1 ≤ p ∧ p ≤ 5) (hj : j ≤ 60) : rightB (msgDone p k j) = true := by
  simp only [rightB, msgDone, msg0, countB, nodeB, kindB, bareB, placeB, Bool.and_eq_true, decide_eq_true_eq]
  simp
  exact ⟨⟨by omega, decide_eq_true (by omega)⟩, decide_eq_true (by omega)⟩

/-- a node that follows -/
structure FoP (FL : List LE) (p : Int) (b n c : Nat) (r : RF) : Prop where
  grp : r.group = 7
  idn : r.id = p
  trm : r.term = 1
  rol : r.role = 1
  g : r.g = LGof FL b n c
  out : r.out = []
theorem fo_app (h : FLok FL) (hr : FoP FL p b n c r) (hk : 1 ≤ k ∧ k ≤ 5) (hp : 1 ≤ p ∧ p ≤ 5) (hb : b ≤ i) (hi : i ≤ n) (hn : n ≤ FL.length) (hij : i ≤ j) (hj : j ≤ FL.length) (hc : cm ≤ 60) :
    (stepF r (msgApp FL k p i j cm)).2.out = [msgDone p k j] ∧ FoP FL p b (max n j) (max c (min cm j)) (takeF (stepF r (msgApp FL k p i j cm)).2) := by
  have hR := right_app (k := k) (p := p) h hk hp hij hj hc
  obtain ⟨g1, g2, g3, g4, g5, g6⟩ := hr
  have hO := lg_offer (c := c) h hb hi hn hij hj
  have hS := lg_settle (FL := FL) (b := b) (n := max n j) (c := c) (i := min cm j) (by omega) (by omega) (by omega)
  have e : stepF r (msgApp FL k p i j cm) = (0, appendF r (msgApp FL k p i j cm)) := by
    unfold stepF
    rw [if_neg (by rw [hR, g1, g2]; simp [msgApp]), if_neg (by rw [g3]; simp [msgApp])]
    unfold upF
    rw [if_neg (by rw [g3]; simp [msgApp])]
    unfold handleF
    rw [if_neg (by simp [msgApp]), if_neg (by simp [msgApp]), if_pos (by simp [msgApp]), if_neg (by rw [g4]; decide)]
  rw [e]
  have e2 : appendF r (msgApp FL k p i j cm) = sendF { hearF r k with g := LGof FL b (max n j) (max c (min cm j)) } (doneM (msgApp FL k p i j cm) true j) := by
    unfold appendF
    simp only [msgApp, hearF, g5, hO]
    rw [if_neg (by decide), if_pos trivial]
    simp only [settleF]
    rw [show min (cm : Int) (j : Int) = ((min cm j : Nat) : Int) by omega, hS]
  rw [e2]
  exact ⟨by simp [sendF, hearF, doneM, msgDone, msgApp, msg0, g1, g2, g3, g6], ⟨by simp [takeF, sendF, hearF, g1], by simp [takeF, sendF, hearF, g2], by simp [takeF, sendF, hearF, g3], rfl, rfl, rfl⟩⟩

/-! ### The leader -/
/-- a leader 'k' of the members 'ms': 'nx', 'mt' of the others -/
structure LdP (FL : List LE) (k : Int) (b n c : Nat) (nx mt : Int → Nat) (st : List UInt8) (r : RF) : Prop where
  grp : r.group = 7
  idn : r.id = k
  trm : r.term = 1
  rol : r.role = 3
  g : r.g = LGof FL b n c
  nx : ∀ p, 1 ≤ p ∧ p ≤ 5 → r.nx p = nx p
  mt : ∀ p, 1 ≤ p ∧ p ≤ 5 → p ≠ k → r.mt p = mt p
  sta : r.st = st
  out : r.out = []
/-- what a leader sends to one, to all -/
def toM (FL : List LE) (k : Int) (b n c : Nat) (nx : Int → Nat) (st : List UInt8) (p : Int) : RM :=
  if nx p - 1 < b then msgSnap FL k p b st else msgApp FL k p (nx p - 1) n c
def toAll (FL : List LE) (k : Int) (b n c : Nat) (nx : Int → Nat) (st : List UInt8) (ms : List Int) : List RM := (ms.filter (· ≠ k)).map (toM FL k b n c nx st)
theorem ld_send (h : FLok FL) {nx : Int → Nat} {st : List UInt8} (hb : b ≤ n) (hn : n ≤ FL.length) (hp : 1 ≤ p ∧ p ≤ 5) (hx : 1 ≤ nx p ∧ nx p ≤ n + 1) (g1 : r.group = 7) (g2 : r.id = k) (g3 : r.term = 1) (g5 : r.g = LGof FL b n c) (g6 : r.nx p = nx p) (g7 : r.st = st) :
    sendToF r p = { r with out := r.out ++ [toM FL k b n c nx st p] } := by
  unfold sendToF toM
  rw [g6, show ((nx p : Nat) : Int) - 1 = ((nx p - 1 : Nat) : Int) by omega]
  by_cases e : nx p - 1 < b
  · rw [if_pos (by rw [g5]; simp only [LGof]; omega), if_pos e]
    simp [sendF, snapM, msgSnap, msg0, g1, g2, g3, g5, g7, LGof]
  · rw [if_neg (by rw [g5]; simp only [LGof]; omega), if_neg e]
    have hs := lg_slice (c := c) h (b := b) (i := nx p - 1) (n := n) (by omega) (by omega) hn
    have ht := lg_term (c := c) h (b := b) (i := nx p - 1) (n := n) (by omega) (by omega) hn
    simp only [sendF, appM, msgApp, g1, g2, g3, g5, g6]
    rw [show ((nx p : Nat) : Int) - 1 = ((nx p - 1 : Nat) : Int) by omega, hs, ht]
    simp [msg0, LGof]
theorem ld_each (h : FLok FL) {nx mt : Int → Nat} {st : List UInt8} (hb : b ≤ n) (hn : n ≤ FL.length) : ∀ (ms : List Int) (r : RF), (∀ p ∈ ms, p ≠ k → (1 ≤ p ∧ p ≤ 5) ∧ 1 ≤ nx p ∧ nx p ≤ n + 1) → LdP FL k b n c nx mt st { r with out := [] } →
    eachF r ms = { r with out := r.out ++ toAll FL k b n c nx st ms }
  | [], r, _, _ => by simp [eachF, toAll]
  | p :: ms, r, hm, hr => by
    have hr' := hr
    obtain ⟨g1, g2, g3, g4, g5, g6, g7, g8, g9⟩ := hr'
    rw [each_cons]
    by_cases e : p = k
    · rw [if_pos (e.trans (show r.id = k from g2).symm), ld_each h hb hn ms r (fun q hq => hm q (List.mem_cons_of_mem _ hq)) hr]
      simp [toAll, e]
    · rw [if_neg (by rw [show r.id = k from g2]; exact e)]
      obtain ⟨hp, hx⟩ := hm p (List.mem_cons_self ..) e
      rw [ld_send (r := r) h hb hn hp hx g1 g2 g3 g5 (g6 p hp) g8]
      rw [ld_each h hb hn ms { r with out := r.out ++ [toM FL k b n c nx st p] } (fun q hq => hm q (List.mem_cons_of_mem _ hq)) ⟨g1, g2, g3, g4, g5, g6, g7, g8, rfl⟩]
      simp [toAll, e]
theorem ld_all (h : FLok FL) {nx mt : Int → Nat} {st : List UInt8} (hb : b ≤ n) (hn : n ≤ FL.length) (hm : ∀ p ∈ memOf [1, 2, 3] (FL.take n), p ≠ k → (1 ≤ p ∧ p ≤ 5) ∧ 1 ≤ nx p ∧ nx p ≤ n + 1) (hr : LdP FL k b n c nx mt st { r with out := [] }) :
    sendAllF r = { r with out := r.out ++ toAll FL k b n c nx st (memOf [1, 2, 3] (FL.take n)) } := by
  unfold sendAllF
  rw [if_pos hr.rol]
  have e : mems r = memOf [1, 2, 3] (FL.take n) := by
    have := hr.g
    unfold mems
    rw [show r.g = LGof FL b n c from this, lg_mems hb]
  rw [e]
  exact ld_each h hb hn _ r hm hr

/-- what is settled when one entry at most is not yet -/
theorem ld_out {r : RF} (hid : (mems r).contains r.id = true) : outF r = r := by
  unfold outF; rw [hid]; simp
theorem ld_com (h : FLok FL) (hb : b ≤ c) (hc : n = c ∨ n = c + 1) (hn : n ≤ FL.length) (g2 : r.id = k) (g3 : r.term = 1) (g5 : r.g = LGof FL b n c) (hid : (memOf [1, 2, 3] (FL.take n)).contains k = true) :
    commitF r = if n = c + 1 ∧ majF (memOf [1, 2, 3] (FL.take n)) (fun p => decide ((n : Int) ≤ updI r.mt k n p)) = true then (true, { matF r with g := LGof FL b n n }) else (false, matF r) := by
  have hl := lg_last (c := c) (b := b) (n := n) (by omega) hn
  have hm : mems (matF r) = memOf [1, 2, 3] (FL.take n) := by
    unfold mems; rw [show (matF r).g = LGof FL b n c from g5, lg_mems (by omega)]
  have hgm : (matF r).g = LGof FL b n c := g5
  have hmt : (matF r).mt = updI r.mt k n := by
    simp only [matF, g2, g5, hl]
  have ho : outF (matF r) = matF r := ld_out (by rw [hm, show (matF r).id = k from g2]; exact hid)
  rw [commitF_eq, comF]
  have hk : (lastI (matF r).g - (matF r).g.commit).toNat = n - c := by
    rw [hgm, hl]; simp only [LGof]; omega
  have hb2 : bestF (matF r) = bestG (hasQ (matF r)) c (n - c) := by
    unfold bestF; rw [hk, hgm]; rfl
  by_cases e : n = c + 1
  · subst e
    have hq : hasQ (matF r) ((c : Int) + ((0 + 1 : Nat) : Int)) = majF (memOf [1, 2, 3] (FL.take (c + 1))) (fun p => decide (((c + 1 : Nat) : Int) ≤ updI r.mt k ((c + 1 : Nat) : Int) p)) := by
      unfold hasQ
      rw [hm, hmt, hgm, show (c : Int) + ((0 + 1 : Nat) : Int) = ((c + 1 : Nat) : Int) by omega, lg_term h (by omega) (by omega) hn, show (matF r).term = 1 from g3]
      simp [baseT]
    rw [hb2, show c + 1 - c = 0 + 1 by omega, bestG, hq, bestG]
    by_cases hM : majF (memOf [1, 2, 3] (FL.take (c + 1))) (fun p => decide (((c + 1 : Nat) : Int) ≤ updI r.mt k ((c + 1 : Nat) : Int) p)) = true
    · rw [if_pos hM, if_pos (show c + 1 = c + 1 ∧ _ from ⟨rfl, hM⟩), if_pos (show (0 : Int) < (c : Int) + ((0 + 1 : Nat) : Int) by omega)]
      have hs := lg_settle (FL := FL) (b := b) (n := c + 1) (c := c) (i := c + 1) (by omega) hn (by omega)
      have e2 : settleF (matF r) ((c : Int) + ((0 + 1 : Nat) : Int)) = { matF r with g := LGof FL b (c + 1) (c + 1) } := by
        unfold settleF
        rw [hgm, show (c : Int) + ((0 + 1 : Nat) : Int) = ((c + 1 : Nat) : Int) by omega, hs, Nat.max_eq_right (by omega)]
      rw [e2, ld_out (r := { matF r with g := LGof FL b (c + 1) (c + 1) })]
      · simp
      · unfold mems
        simp only
        rw [lg_mems (by omega), show (matF r).id = k from g2]; exact hid
    · rw [if_neg hM, if_neg (fun h1 : c + 1 = c + 1 ∧ _ => hM h1.2), if_neg (show ¬ (0 : Int) < 0 by omega), ho]; simp
  · obtain rfl : n = c := by omega
    rw [hb2, Nat.sub_self, bestG, if_neg (fun h1 : n = n + 1 ∧ _ => e h1.1), if_neg (show ¬ (0 : Int) < 0 by omega), ho]; simp

def updN (f : Int → Nat) (p : Int) (v : Nat) : Int → Nat := fun q => if q = p then v else f q
/-- does a majority have the last entry? -/
def majN (ms : List Int) (k : Int) (mt : Int → Nat) (n : Nat) : Bool := majF ms (fun p => decide (p = k) || decide (n ≤ mt p))
theorem majF_congr {l : List Int} {f g : Int → Bool} (h : ∀ p ∈ l, f p = g p) : majF l f = majF l g := by
  unfold majF
  rw [List.filter_congr h]
theorem majN_eq {ms : List Int} (hms : ∀ p ∈ ms, 1 ≤ p ∧ p ≤ 5) {mt : Int → Nat} {f : Int → Int} (hf : ∀ p, 1 ≤ p ∧ p ≤ 5 → p ≠ k → f p = mt p) : majF ms (fun p => decide ((n : Int) ≤ updI f k n p)) = majN ms k mt n := by
  refine majF_congr (fun p hp => ?_)
  by_cases e : p = k
  · subst e; simp [updI_same]
  · simp only [updI, if_neg e, hf p (hms p hp) e]
    simp [e]
theorem appended_ok {m : RM} {r2 : RF} {x : Bool} {r1 : RF} (hok : m.ok = true) (hle : ¬ lastI r.g < m.index) (hr1 : { r with mt := updI r.mt m.frm (max (r.mt m.frm) m.index), nx := updI r.nx m.frm (max (r.mt m.frm) m.index + 1) } = r1) (hc : commitF r1 = (x, r2)) :
    appendedF r m = if x = true then sendAllF r2 else if r2.role = 3 ∧ r2.nx m.frm ≤ lastI r.g then sendToF r2 m.frm else r2 := by
  unfold appendedF
  rw [if_neg (by rw [hok]; decide), if_neg hle]
  simp only [hr1, hc]
/-- the leader hears that a node has what it was sent -/
theorem ld_done (h : FLok FL) {nx mt : Int → Nat} {st : List UInt8} (hr : LdP FL k b n c nx mt st r) (hk : 1 ≤ k ∧ k ≤ 5) (hp : 1 ≤ p ∧ p ≤ 5) (hpk : p ≠ k) (hb : b ≤ c) (hc : n = c ∨ n = c + 1) (hn : n ≤ FL.length) (hj : j ≤ n) (hmt : mt p ≤ n)
    (hms : ∀ q ∈ memOf [1, 2, 3] (FL.take n), 1 ≤ q ∧ q ≤ 5) (hid : (memOf [1, 2, 3] (FL.take n)).contains k = true) (hnx : ∀ q ∈ memOf [1, 2, 3] (FL.take n), q ≠ k → 1 ≤ nx q ∧ nx q ≤ n + 1)
    {nx' mt' : Int → Nat} (e1 : updN nx p (max (mt p) j + 1) = nx') (e2 : updN mt p (max (mt p) j) = mt') {c' : Nat} {o : List RM}
    (e3 : (if n = c + 1 ∧ majN (memOf [1, 2, 3] (FL.take n)) k mt' n = true then (n, toAll FL k b n n nx' st (memOf [1, 2, 3] (FL.take n))) else (c, if nx' p ≤ n then [toM FL k b n c nx' st p] else [])) = (c', o)) :
    (stepF r (msgDone p k j)).2.out = o ∧ LdP FL k b n c' nx' mt' st (takeF (stepF r (msgDone p k j)).2) := by
  have hs := h.sml
  have hR := right_done (k := k) (p := p) (j := j) hk hp (by omega)
  obtain ⟨g1, g2, g3, g4, g5, g6, g7, g8, g9⟩ := hr
  have hl := lg_last (c := c) (b := b) (n := n) (by omega) hn
  have e : stepF r (msgDone p k j) = (0, appendedF r (msgDone p k j)) := by
    unfold stepF
    rw [if_neg (by rw [hR, g1, g2]; simp [msgDone]), if_neg (by rw [g3]; simp [msgDone])]
    unfold upF
    rw [if_neg (by rw [g3]; simp [msgDone])]
    unfold handleF
    rw [if_neg (by simp [msgDone]), if_neg (by simp [msgDone]), if_neg (by simp [msgDone]), if_neg (by simp [msgDone]), if_pos (by simp [msgDone]), if_pos g4]
  rw [e]
  have hM : max (r.mt p) (j : Int) = ((max (mt p) j : Nat) : Int) := by rw [g7 p hp hpk]; omega
  have hx' : ∀ q, 1 ≤ q ∧ q ≤ 5 → updI r.nx p (((max (mt p) j : Nat) : Int) + 1) q = ((nx' q : Nat) : Int) := fun q hq => by
    rw [← e1]; simp only [updI, updN]; split
    · omega
    · exact g6 q hq
  have ht' : ∀ q, 1 ≤ q ∧ q ≤ 5 → q ≠ k → updI r.mt p ((max (mt p) j : Nat) : Int) q = ((mt' q : Nat) : Int) := fun q hq hqk => by
    rw [← e2]; simp only [updI, updN]; split
    · rfl
    · exact g7 q hq hqk
  have hcm := ld_com (r := { r with mt := updI r.mt p ((max (mt p) j : Nat) : Int), nx := updI r.nx p (((max (mt p) j : Nat) : Int) + 1) }) (k := k) h hb hc hn g2 g3 g5 hid
  rw [majN_eq (mt := mt') hms ht'] at hcm
  have hnx' : ∀ q ∈ memOf [1, 2, 3] (FL.take n), q ≠ k → (1 ≤ q ∧ q ≤ 5) ∧ 1 ≤ nx' q ∧ nx' q ≤ n + 1 := fun q hq hqk => by
    refine ⟨hms q hq, ?_⟩
    rw [← e1]; simp only [updN]; split
    · omega
    · exact hnx q hq hqk
  have e4 : appendedF r (msgDone p k j) = (if n = c + 1 ∧ majN (memOf [1, 2, 3] (FL.take n)) k mt' n = true then sendAllF { matF { r with mt := updI r.mt p ((max (mt p) j : Nat) : Int), nx := updI r.nx p (((max (mt p) j : Nat) : Int) + 1) } with g := LGof FL b n n }
      else if nx' p ≤ n then sendToF (matF { r with mt := updI r.mt p ((max (mt p) j : Nat) : Int), nx := updI r.nx p (((max (mt p) j : Nat) : Int) + 1) }) p else matF { r with mt := updI r.mt p ((max (mt p) j : Nat) : Int), nx := updI r.nx p (((max (mt p) j : Nat) : Int) + 1) }) := by
    have hr1 : { r with mt := updI r.mt p (max (r.mt p) (j : Int)), nx := updI r.nx p (max (r.mt p) (j : Int) + 1) } = { r with mt := updI r.mt p ((max (mt p) j : Nat) : Int), nx := updI r.nx p (((max (mt p) j : Nat) : Int) + 1) } := by rw [hM]
    have hle : ¬ lastI r.g < (msgDone p k j).index := by rw [g5, hl]; show ¬ (n : Int) < (j : Int); omega
    by_cases hy : n = c + 1 ∧ majN (memOf [1, 2, 3] (FL.take n)) k mt' n = true
    · rw [if_pos hy] at hcm ⊢
      rw [appended_ok (m := msgDone p k j) rfl hle hr1 hcm, if_pos rfl]
    · rw [if_neg hy] at hcm ⊢
      rw [appended_ok (m := msgDone p k j) rfl hle hr1 hcm, if_neg (by decide)]
      have h3 : (matF { r with mt := updI r.mt p ((max (mt p) j : Nat) : Int), nx := updI r.nx p (((max (mt p) j : Nat) : Int) + 1) }).role = 3 := g4
      have h4 : (matF { r with mt := updI r.mt p ((max (mt p) j : Nat) : Int), nx := updI r.nx p (((max (mt p) j : Nat) : Int) + 1) }).nx (msgDone p k j).frm = ((nx' p : Nat) : Int) := hx' p hp
      rw [h3, h4, g5, hl]
      by_cases hh : nx' p ≤ n
      · rw [if_pos hh, if_pos ⟨rfl, by omega⟩]; rfl
      · rw [if_neg hh, if_neg (fun x => hh (by omega))]
  rw [e4]
  have hmt2 : ∀ q, 1 ≤ q ∧ q ≤ 5 → q ≠ k → (matF { r with mt := updI r.mt p ((max (mt p) j : Nat) : Int), nx := updI r.nx p (((max (mt p) j : Nat) : Int) + 1) }).mt q = ((mt' q : Nat) : Int) := fun q hq hqk => by
    have := ht' q hq hqk
    rw [← this]
    show updI (updI r.mt p _) r.id _ q = _
    rw [g2, updI, if_neg hqk]
  by_cases hy : n = c + 1 ∧ majN (memOf [1, 2, 3] (FL.take n)) k mt' n = true
  · rw [if_pos hy] at e3 ⊢
    cases e3
    rw [ld_all (r := { matF { r with mt := updI r.mt p ((max (mt p) j : Nat) : Int), nx := updI r.nx p (((max (mt p) j : Nat) : Int) + 1) } with g := LGof FL b n n }) (b := b) (k := k) (c := n) (nx := nx') (mt := mt') (st := st) h (by omega) hn hnx' ⟨g1, g2, g3, g4, rfl, hx', hmt2, g8, rfl⟩]
    refine ⟨?_, ⟨g1, g2, g3, g4, rfl, hx', hmt2, g8, rfl⟩⟩
    show r.out ++ _ = _
    rw [g9]; rfl
  · rw [if_neg hy] at e3 ⊢
    cases e3
    by_cases hh : nx' p ≤ n
    · have h5 : 1 ≤ nx' p ∧ nx' p ≤ n + 1 := by
        have h6 : nx' p = max (mt p) j + 1 := by rw [← e1]; simp [updN]
        omega
      rw [if_pos hh, if_pos hh]
      rw [ld_send (r := matF { r with mt := updI r.mt p ((max (mt p) j : Nat) : Int), nx := updI r.nx p (((max (mt p) j : Nat) : Int) + 1) }) (k := k) (c := c) (nx := nx') (st := st) h (by omega) hn hp h5 g1 g2 g3 g5 (hx' p hp) g8]
      refine ⟨?_, ⟨g1, g2, g3, g4, g5, hx', hmt2, g8, rfl⟩⟩
      show r.out ++ _ = _
      rw [g9]; rfl
    · rw [if_neg hh, if_neg hh]
      exact ⟨g9, ⟨g1, g2, g3, g4, g5, hx', hmt2, g8, rfl⟩⟩
/-- the leader adds an entry -/
theorem ld_add (h : FLok FL) {nx mt : Int → Nat} {st : List UInt8} (hr : LdP FL k b n n nx mt st r) (hb : b ≤ n) (hn : n < FL.length)
    (hms : ∀ q ∈ memOf [1, 2, 3] (FL.take (n + 1)), 1 ≤ q ∧ q ≤ 5) (hid : (memOf [1, 2, 3] (FL.take (n + 1))).contains k = true) (hnx : ∀ q ∈ memOf [1, 2, 3] (FL.take (n + 1)), q ≠ k → 1 ≤ nx q ∧ nx q ≤ n + 2)
    (hmj : majN (memOf [1, 2, 3] (FL.take (n + 1))) k mt (n + 1) = false) {kd : Int} {d : List UInt8} (hkd : FL[n].kind = kd) (hd : FL[n].data = d) :
    (addF r kd d).2.2.out = toAll FL k b (n + 1) n nx st (memOf [1, 2, 3] (FL.take (n + 1))) ∧ LdP FL k b (n + 1) n nx mt st (takeF (addF r kd d).2.2) := by
  obtain ⟨g1, g2, g3, g4, g5, g6, g7, g8, g9⟩ := hr
  have hA := lg_add (b := b) (n := n) (c := n) h hb hn
  rw [hkd, hd] at hA
  have hcm := ld_com (r := { r with g := LGof FL b (n + 1) n }) (k := k) (b := b) (n := n + 1) (c := n) h hb (.inr rfl) hn g2 g3 rfl hid
  rw [majN_eq (mt := mt) hms g7, if_neg (by rw [hmj]; simp)] at hcm
  have hmt2 : ∀ q, 1 ≤ q ∧ q ≤ 5 → q ≠ k → (matF { r with g := LGof FL b (n + 1) n }).mt q = mt q := fun q hq hqk => by
    rw [← g7 q hq hqk]
    show updI r.mt r.id _ q = _
    rw [g2, updI, if_neg hqk]
  have e : addF r kd d = ((n : Int) + 1, 0, sendAllF (matF { r with g := LGof FL b (n + 1) n })) := by
    unfold addF
    have hA2 : addG r.g r.term kd d = ((n : Int) + 1, 0, LGof FL b (n + 1) n) := by rw [g5, g3]; exact hA
    rw [hA2]
    simp only
    rw [if_neg (by simp), hcm]
  rw [e]
  simp only
  rw [ld_all (r := matF { r with g := LGof FL b (n + 1) n }) (b := b) (k := k) (n := n + 1) (c := n) (nx := nx) (mt := mt) (st := st) h (by omega) hn (fun q hq hqk => ⟨hms q hq, hnx q hq hqk⟩) ⟨g1, g2, g3, g4, rfl, g6, hmt2, g8, rfl⟩]
  refine ⟨?_, ⟨g1, g2, g3, g4, rfl, g6, hmt2, g8, rfl⟩⟩
  show r.out ++ _ = _
  rw [g9]; rfl
/-- the leader ticks -/
theorem ld_tick (h : FLok FL) {nx mt : Int → Nat} {st : List UInt8} {w : Int} (hr : LdP FL k b n c nx mt st r) (hb : b ≤ n) (hn : n ≤ FL.length)
    (hms : ∀ q ∈ memOf [1, 2, 3] (FL.take n), 1 ≤ q ∧ q ≤ 5) (hnx : ∀ q ∈ memOf [1, 2, 3] (FL.take n), q ≠ k → 1 ≤ nx q ∧ nx q ≤ n + 1) :
    (tickF r w).out = toAll FL k b n c nx st (memOf [1, 2, 3] (FL.take n)) ∧ LdP FL k b n c nx mt st (takeF (tickF r w)) := by
  have hr' := hr
  obtain ⟨g1, g2, g3, g4, g5, g6, g7, g8, g9⟩ := hr'
  unfold tickF
  rw [if_pos g4, ld_all (b := b) (k := k) (n := n) (c := c) (nx := nx) (mt := mt) (st := st) h hb hn (fun q hq hqk => ⟨hms q hq, hnx q hq hqk⟩) ⟨g1, g2, g3, g4, g5, g6, g7, g8, rfl⟩]
  refine ⟨?_, ⟨g1, g2, g3, g4, g5, g6, g7, g8, rfl⟩⟩
  show r.out ++ _ = _
  rw [g9]; rfl
end Go.Proofs.Ytdcpeboecmkmlaa
