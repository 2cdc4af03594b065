/-
  Rounds of a calm group: what is added reaches all.
-/
-- S3
import Derived.Test.YtdcpeboecmkmlaaPG
set_option linter.unusedSimpArgs false
set_option linter.unusedVariables false
namespace Go.Proofs.Ytdcpeboecmkmlaa
open Go.SL
set_option maxRecDepth 10000

variable {FL : List LE} {b n c i j cm T : Nat} {k p l : Int} {N : Int → RF} {rest : List RM} {Q : (Int → RF) → Prop}
/-- what is meant to be at an index -/
def GL (FL : List LE) : Int → LE := fun i => geti FL (i - 1)
def Run (G : Int → LE) (l : Int) (N : Int → RF) (pend : List RM) (T : Nat) (Q : (Int → RF) → Prop) : Prop := ∃ N', Dl G l N pend T N' ∧ Q N'
theorem Run.nil {G : Int → LE} (h : Q N) : Run G l N [] 0 Q := ⟨N, Dl.nil N, h⟩
theorem Run.one {G : Int → LE} {m : RM} {o : List RM} (hp : 1 ≤ m.to ∧ m.to ≤ 5) (ho : (stepF (N m.to) m).2.out = o) (hno : NO G l (takeF (stepF (N m.to) m).2))
    (hd : Run G l (updI N m.to (takeF (stepF (N m.to) m).2)) (rest ++ o) T Q) : Run G l N (m :: rest) (T + 1) Q := by
  obtain ⟨N', h1, h2⟩ := hd
  exact ⟨N', Dl.cons hp hno (by rw [ho]; exact h1), h2⟩
theorem lg_no {r : RF} (h : FLok FL) (hc : b ≤ c) (hcn : c ≤ n) (hn : n ≤ FL.length) (hg : r.g = LGof FL b n c) (hl : r.role = 3 → (1 ≤ r.term ∧ r.term ≤ 10000) ∧ r.id = l) : NO (GL FL) l r := by
  have hs := h.sml
  refine ⟨by rw [hg]; simp only [LGof]; omega, fun i e h1 h2 h3 => ?_, hl⟩
  rw [hg] at h1 h2 h3
  simp only [LGof] at h1 h2
  have ha := lg_at (c := c) (i := i.toNat) h (b := b) (n := n) (by omega) (by omega) hn
  rw [show ((i.toNat : Nat) : Int) = i by omega, h3] at ha
  rw [Option.some.inj ha]
  unfold GL
  have := geti_some (l := FL) (i := i - 1) (by omega) (by omega)
  rw [show (i - 1).toNat = i.toNat - 1 by omega, List.getElem?_eq_getElem (by omega)] at this
  exact Option.some.inj this
theorem Run.fo (h : FLok FL) (hr : FoP FL p b n c (N p)) (hk : 1 ≤ k ∧ k ≤ 5) (hp : 1 ≤ p ∧ p ≤ 5) (hb : b ≤ i) (hi : i ≤ n) (hn : n ≤ FL.length) (hij : i ≤ j) (hj : j ≤ FL.length) (hc : cm ≤ 60) (hbc : b ≤ c) (hcn : c ≤ n) {n' c' : Nat} (en : max n j = n') (ec : max c (min cm j) = c')
    (hd : ∀ r', FoP FL p b n' c' r' → Run (GL FL) l (updI N p r') (rest ++ [msgDone p k j]) T Q) : Run (GL FL) l N (msgApp FL k p i j cm :: rest) (T + 1) Q := by
  subst en ec
  obtain ⟨h1, h2⟩ := fo_app (k := k) h hr hk hp hb hi hn hij hj hc
  refine Run.one (m := msgApp FL k p i j cm) hp h1 ?_ (hd _ h2)
  exact lg_no h (by omega) (by omega) (by omega) h2.g (fun h3 => by
    have h4 := h2.rol
    rw [show (takeF (stepF (N (msgApp FL k p i j cm).to) (msgApp FL k p i j cm)).2).role = 1 from h4] at h3; cases h3)
theorem Run.ld (h : FLok FL) {nx mt : Int → Nat} {st : List UInt8} (hr : LdP FL k b n c nx mt st (N k)) (hk : 1 ≤ k ∧ k ≤ 5) (hp : 1 ≤ p ∧ p ≤ 5) (hpk : p ≠ k) (hb : b ≤ c) (hc : n = c ∨ n = c + 1) (hn : n ≤ FL.length) (hj : j ≤ n) (hmt : mt p ≤ n)
    (hms : ∀ q ∈ memOf [1, 2, 3] (FL.take n), 1 ≤ q ∧ q ≤ 5) (hid : (memOf [1, 2, 3] (FL.take n)).contains k = true) (hnx : ∀ q ∈ memOf [1, 2, 3] (FL.take n), q ≠ k → 1 ≤ nx q ∧ nx q ≤ n + 1)
    {nx' mt' : Int → Nat} (e1 : updN nx p (max (mt p) j + 1) = nx') (e2 : updN mt p (max (mt p) j) = mt') {c' : Nat} {o : List RM}
    (e3 : (if n = c + 1 ∧ majN (memOf [1, 2, 3] (FL.take n)) k mt' n = true then (n, toAll FL k b n n nx' st (memOf [1, 2, 3] (FL.take n))) else (c, if nx' p ≤ n then [toM FL k b n c nx' st p] else [])) = (c', o))
    (hd : ∀ r', LdP FL k b n c' nx' mt' st r' → Run (GL FL) k (updI N k r') (rest ++ o) T Q) : Run (GL FL) k N (msgDone p k j :: rest) (T + 1) Q := by
  obtain ⟨h1, h2⟩ := ld_done h hr hk hp hpk hb hc hn hj hmt hms hid hnx e1 e2 e3
  have hc' : b ≤ c' ∧ c' ≤ n := by
    split at e3 <;> cases e3 <;> omega
  refine Run.one (m := msgDone p k j) hk h1 ?_ (hd _ h2)
  exact lg_no h hc'.1 hc'.2 hn h2.g (fun _ => ⟨by rw [show (takeF (stepF (N (msgDone p k j).to) (msgDone p k j)).2).term = 1 from h2.trm]; omega, h2.idn⟩)

def Tri (k a b : Int) : Prop := (k = 1 ∧ a = 2 ∧ b = 3) ∨ (k = 2 ∧ a = 1 ∧ b = 3) ∨ (k = 3 ∧ a = 1 ∧ b = 2)
theorem tri_maj {k a b : Int} (h : Tri k a b) {mt : Int → Nat} {n : Nat} : majN [1, 2, 3] k mt n = (decide (n ≤ mt a) || decide (n ≤ mt b)) := by
  rcases h with ⟨rfl, rfl, rfl⟩ | ⟨rfl, rfl, rfl⟩ | ⟨rfl, rfl, rfl⟩ <;> simp only [majN, majF] <;> simp only [List.filter_cons, List.filter_nil] <;>
    cases decide (n ≤ mt 1) <;> cases decide (n ≤ mt 2) <;> cases decide (n ≤ mt 3) <;> simp
theorem tri_all {k a b : Int} (h : Tri k a b) {nx : Int → Nat} {st : List UInt8} {b0 n c : Nat} : toAll FL k b0 n c nx st [1, 2, 3] = [toM FL k b0 n c nx st a, toM FL k b0 n c nx st b] := by
  rcases h with ⟨rfl, rfl, rfl⟩ | ⟨rfl, rfl, rfl⟩ | ⟨rfl, rfl, rfl⟩ <;> rfl
theorem toM0 {nx : Int → Nat} {st : List UInt8} {n c : Nat} (hx : nx p = i + 1) : toM FL k 0 n c nx st p = msgApp FL k p i n c := by
  unfold toM; rw [if_neg (by omega), hx]; rfl
/-- a group at rest: three nodes have 'n' entries, all committed -/
structure Grp (FL : List LE) (k a b : Int) (n : Nat) (nx mt : Int → Nat) (N : Int → RF) : Prop where
  ld : LdP FL k 0 n n nx mt [] (N k)
  fa : FoP FL a 0 n n (N a)
  fb : FoP FL b 0 n n (N b)
  na : nx a = n + 1
  nb : nx b = n + 1
  ma : mt a = n
  mb : mt b = n
set_option maxHeartbeats 1000000 in
/-- an entry that was added reaches all -/
theorem round8 {a b : Int} (h : FLok FL) (ht : Tri k a b) {nx mt : Int → Nat} (hn : n + 1 ≤ FL.length) (hm : memOf [1, 2, 3] (FL.take (n + 1)) = [1, 2, 3])
    (hld : LdP FL k 0 (n + 1) n nx mt [] (N k)) (hfa : FoP FL a 0 n n (N a)) (hfb : FoP FL b 0 n n (N b)) (na : nx a = n + 1) (nb : nx b = n + 1) (ma : mt a ≤ n) (mb : mt b ≤ n)
    (hQ : ∀ N' nx' mt', Grp FL k a b (n + 1) nx' mt' N' → (∀ p, p = 4 ∨ p = 5 → N' p = N p ∧ nx' p = nx p ∧ mt' p = mt p) → Q N') :
    Run (GL FL) k N [msgApp FL k a n (n + 1) n, msgApp FL k b n (n + 1) n] 8 Q := by
  have hs := h.sml
  have hk : 1 ≤ k ∧ k ≤ 5 := by unfold Tri at ht; omega
  have ha : 1 ≤ a ∧ a ≤ 5 := by unfold Tri at ht; omega
  have hb : 1 ≤ b ∧ b ≤ 5 := by unfold Tri at ht; omega
  have hka : k ≠ a := by unfold Tri at ht; omega
  have hkb : k ≠ b := by unfold Tri at ht; omega
  have hab : a ≠ b := by unfold Tri at ht; omega
  have hid : ([1, 2, 3] : List Int).contains k = true := by rcases ht with ⟨rfl, _⟩ | ⟨rfl, _⟩ | ⟨rfl, _⟩ <;> rfl
  have hms : ∀ q ∈ ([1, 2, 3] : List Int), 1 ≤ q ∧ q ≤ 5 := fun q hq => by simp at hq; omega
  have hq2 : ∀ q ∈ ([1, 2, 3] : List Int), q ≠ k → q = a ∨ q = b := fun q hq hqk => by unfold Tri at ht; simp at hq; omega
  -- the followers take it
  refine Run.fo (n' := n + 1) (c' := n) h hfa hk ha (Nat.zero_le _) (Nat.le_refl _) (by omega) (by omega) hn (by omega) (Nat.zero_le _) (Nat.le_refl _) (by omega) (by omega) (fun r1 h1 => ?_)
  refine Run.fo (n' := n + 1) (c' := n) (c := n) (b := 0) (n := n) h (by simp only [updI, if_neg (Ne.symm hab)]; exact hfb) hk hb (Nat.zero_le _) (Nat.le_refl _) (by omega) (by omega) hn (by omega) (Nat.zero_le _) (Nat.le_refl _) (by omega) (by omega) (fun r2 h2 => ?_)
  show Run _ _ _ [msgDone a k (n + 1), msgDone b k (n + 1)] _ _
  -- the leader hears of it
  refine Run.ld (b := 0) (c := n) (n := n + 1) (nx := nx) (mt := mt) (st := []) (nx' := updN nx a (n + 2)) (mt' := updN mt a (n + 1)) (c' := n + 1) (o := [msgApp FL k a (n + 1) (n + 1) (n + 1), msgApp FL k b n (n + 1) (n + 1)]) h (by simp only [updI, if_neg hka, if_neg hkb]; exact hld) hk ha (Ne.symm hka) (Nat.zero_le _) (.inr rfl) hn (Nat.le_refl _) (by omega)
    (by rw [hm]; exact hms) (by rw [hm]; exact hid) (by rw [hm]; exact fun q hq hqk => by rcases hq2 q hq hqk with rfl | rfl <;> omega) (by rw [Nat.max_eq_right (by omega)]) (by rw [Nat.max_eq_right (by omega)]) (by
      rw [hm, tri_maj ht, if_pos ⟨rfl, by simp [updN]⟩, tri_all ht, toM0 (i := n + 1) (by simp [updN]), toM0 (i := n) (by simp only [updN, if_neg (Ne.symm hab)]; exact nb)]) (fun r3 h3 => ?_)
  show Run _ _ _ [msgDone b k (n + 1), msgApp FL k a (n + 1) (n + 1) (n + 1), msgApp FL k b n (n + 1) (n + 1)] _ _
  have ub : ∀ {α : Type} {f : Int → α} {v : α}, updI f a v b = f b := fun {α f v} => by simp only [updI, if_neg (Ne.symm hab)]
  have ua : ∀ {α : Type} {f : Int → α} {v : α}, updI f b v a = f a := fun {α f v} => by simp only [updI, if_neg hab]
  have uka : ∀ {α : Type} {f : Int → α} {v : α}, updI f a v k = f k := fun {α f v} => by simp only [updI, if_neg hka]
  have ukb : ∀ {α : Type} {f : Int → α} {v : α}, updI f b v k = f k := fun {α f v} => by simp only [updI, if_neg hkb]
  have uak : ∀ {α : Type} {f : Int → α} {v : α}, updI f k v a = f a := fun {α f v} => by simp only [updI, if_neg (Ne.symm hka)]
  have ubk : ∀ {α : Type} {f : Int → α} {v : α}, updI f k v b = f b := fun {α f v} => by simp only [updI, if_neg (Ne.symm hkb)]
  refine Run.ld (b := 0) (c := n + 1) (n := n + 1) (st := []) (nx' := updN (updN nx a (n + 2)) b (n + 2)) (mt' := updN (updN mt a (n + 1)) b (n + 1)) (c' := n + 1) (o := []) h (by rw [updI_same]; exact h3) hk hb (Ne.symm hkb) (Nat.zero_le _) (.inl rfl) hn (Nat.le_refl _) (by simp only [updN, if_neg (Ne.symm hab)]; omega)
    (by rw [hm]; exact hms) (by rw [hm]; exact hid) (by rw [hm]; exact fun q hq hqk => by rcases hq2 q hq hqk with rfl | rfl <;> simp [updN, Ne.symm hab] <;> omega) (by simp only [updN, if_neg (Ne.symm hab)]; rw [Nat.max_eq_right (by omega)]) (by simp only [updN, if_neg (Ne.symm hab)]; rw [Nat.max_eq_right (by omega)]) (by
      rw [if_neg (by omega), if_neg (by simp [updN])]) (fun r4 h4 => ?_)
  show Run _ _ _ [msgApp FL k a (n + 1) (n + 1) (n + 1), msgApp FL k b n (n + 1) (n + 1)] _ _
  refine Run.fo (n' := n + 1) (c' := n + 1) (b := 0) (n := n + 1) (c := n) h (by rw [uak, uak, ua, updI_same]; exact h1) hk ha (Nat.zero_le _) (Nat.le_refl _) hn (Nat.le_refl _) hn (by omega) (Nat.zero_le _) (by omega) (by omega) (by omega) (fun r5 h5 => ?_)
  refine Run.fo (n' := n + 1) (c' := n + 1) (b := 0) (n := n + 1) (c := n) h (by rw [ub, ubk, ubk, updI_same]; exact h2) hk hb (Nat.zero_le _) (by omega) hn (by omega) hn (by omega) (Nat.zero_le _) (by omega) (by omega) (by omega) (fun r6 h6 => ?_)
  show Run _ _ _ [msgDone a k (n + 1), msgDone b k (n + 1)] _ _
  generalize hX : updN (updN nx a (n + 2)) b (n + 2) = X at *
  generalize hY : updN (updN mt a (n + 1)) b (n + 1) = Y at *
  have Xa : X a = n + 2 := by rw [← hX]; simp [updN, hab]
  have Xb : X b = n + 2 := by rw [← hX]; simp [updN]
  have Ya : Y a = n + 1 := by rw [← hY]; simp [updN, hab]
  have Yb : Y b = n + 1 := by rw [← hY]; simp [updN]
  refine Run.ld (b := 0) (c := n + 1) (n := n + 1) (st := []) (nx' := updN X a (n + 2)) (mt' := updN Y a (n + 1)) (c' := n + 1) (o := []) h (by rw [ukb, uka, updI_same]; exact h4) hk ha (Ne.symm hka) (Nat.zero_le _) (.inl rfl) hn (Nat.le_refl _) (by omega)
    (by rw [hm]; exact hms) (by rw [hm]; exact hid) (by rw [hm]; exact fun q hq hqk => by rcases hq2 q hq hqk with rfl | rfl <;> omega) (by rw [Ya, Nat.max_self]) (by rw [Ya, Nat.max_self]) (by
      rw [if_neg (by omega), if_neg (by simp [updN])]) (fun r7 h7 => ?_)
  show Run _ _ _ [msgDone b k (n + 1)] _ _
  refine Run.ld (b := 0) (c := n + 1) (n := n + 1) (st := []) (nx' := updN (updN X a (n + 2)) b (n + 2)) (mt' := updN (updN Y a (n + 1)) b (n + 1)) (c' := n + 1) (o := []) h (by rw [updI_same]; exact h7) hk hb (Ne.symm hkb) (Nat.zero_le _) (.inl rfl) hn (Nat.le_refl _) (by simp only [updN, if_neg (Ne.symm hab)]; omega)
    (by rw [hm]; exact hms) (by rw [hm]; exact hid) (by rw [hm]; exact fun q hq hqk => by rcases hq2 q hq hqk with rfl | rfl <;> simp [updN, Ne.symm hab] <;> omega) (by simp only [updN, if_neg (Ne.symm hab), Yb, Nat.max_self]) (by simp only [updN, if_neg (Ne.symm hab), Yb, Nat.max_self]) (by
      rw [if_neg (by omega), if_neg (by simp [updN])]) (fun r8 h8 => ?_)
  refine Run.nil (hQ _ _ _ ⟨by rw [updI_same]; exact h8, by rw [uak, uak, ua, updI_same]; exact h5, by rw [ubk, ubk, updI_same]; exact h6, by simp [updN, hab], by simp [updN], by simp [updN, hab], by simp [updN]⟩ (fun q hq => ?_))
  have hqa : q ≠ a := by unfold Tri at ht; omega
  have hqb : q ≠ b := by unfold Tri at ht; omega
  have hqk : q ≠ k := by unfold Tri at ht; omega
  rw [← hX, ← hY]
  simp [updI, updN, hqa, hqb, hqk]
end Go.Proofs.Ytdcpeboecmkmlaa
