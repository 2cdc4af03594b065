/-
  A calm group: it beats; it elects.
-/
-- S3
import Derived.Test.YtdcpeboecmkmlaaPH
set_option linter.unusedSimpArgs false
set_option linter.unusedVariables false
namespace Go.Proofs.Ytdcpeboecmkmlaa
open Go.SL
set_option maxRecDepth 10000

variable {FL : List LE} {n T : Nat} {k a b : Int} {N : Int → RF} {Q : (Int → RF) → Prop}
set_option maxHeartbeats 1000000 in
/-- the leader's beat reaches all -/
theorem round4 (h : FLok FL) (ht : Tri k a b) {nx mt : Int → Nat} (hn : n ≤ FL.length) (hm : memOf [1, 2, 3] (FL.take n) = [1, 2, 3]) (hg : Grp FL k a b n nx mt N)
    (hQ : ∀ N' nx' mt', Grp FL k a b n nx' mt' N' → (∀ p, p = 4 ∨ p = 5 → N' p = N p ∧ nx' p = nx p ∧ mt' p = mt p) → Q N') :
    Run (GL FL) k N [msgApp FL k a n n n, msgApp FL k b n n n] 4 Q := by
  have hs := h.sml
  obtain ⟨hld, hfa, hfb, na, nb, ma, mb⟩ := hg
  have hk : 1 ≤ k ∧ k ≤ 5 := by unfold Tri at ht; omega
  have ha : 1 ≤ a ∧ a ≤ 5 := by unfold Tri at ht; omega
  have hb : 1 ≤ b ∧ b ≤ 5 := by unfold Tri at ht; omega
  have hka : k ≠ a := by unfold Tri at ht; omega
  have hkb : k ≠ b := by unfold Tri at ht; omega
  have hab : a ≠ b := by unfold Tri at ht; omega
  have hid : ([1, 2, 3] : List Int).contains k = true := by rcases ht with ⟨rfl, _⟩ | ⟨rfl, _⟩ | ⟨rfl, _⟩ <;> rfl
  have hms : ∀ q ∈ ([1, 2, 3] : List Int), 1 ≤ q ∧ q ≤ 5 := fun q hq => by simp at hq; omega
  have hq2 : ∀ q ∈ ([1, 2, 3] : List Int), q ≠ k → q = a ∨ q = b := fun q hq hqk => by unfold Tri at ht; simp at hq; omega
  have ub : ∀ {α : Type} {f : Int → α} {v : α}, updI f a v b = f b := fun {α f v} => by simp only [updI, if_neg (Ne.symm hab)]
  have ua : ∀ {α : Type} {f : Int → α} {v : α}, updI f b v a = f a := fun {α f v} => by simp only [updI, if_neg hab]
  have uka : ∀ {α : Type} {f : Int → α} {v : α}, updI f a v k = f k := fun {α f v} => by simp only [updI, if_neg hka]
  have ukb : ∀ {α : Type} {f : Int → α} {v : α}, updI f b v k = f k := fun {α f v} => by simp only [updI, if_neg hkb]
  have uak : ∀ {α : Type} {f : Int → α} {v : α}, updI f k v a = f a := fun {α f v} => by simp only [updI, if_neg (Ne.symm hka)]
  have ubk : ∀ {α : Type} {f : Int → α} {v : α}, updI f k v b = f b := fun {α f v} => by simp only [updI, if_neg (Ne.symm hkb)]
  refine Run.fo (n' := n) (c' := n) h hfa hk ha (Nat.zero_le _) (Nat.le_refl _) hn (Nat.le_refl _) hn (by omega) (Nat.zero_le _) (Nat.le_refl _) (by omega) (by omega) (fun r1 h1 => ?_)
  refine Run.fo (n' := n) (c' := n) (c := n) (b := 0) (n := n) h (by rw [ub]; exact hfb) hk hb (Nat.zero_le _) (Nat.le_refl _) hn (Nat.le_refl _) hn (by omega) (Nat.zero_le _) (Nat.le_refl _) (by omega) (by omega) (fun r2 h2 => ?_)
  show Run _ _ _ [msgDone a k n, msgDone b k n] _ _
  refine Run.ld (b := 0) (c := n) (n := n) (st := []) (nx' := updN nx a (n + 1)) (mt' := updN mt a n) (c' := n) (o := []) h (by rw [ukb, uka]; exact hld) hk ha (Ne.symm hka) (Nat.zero_le _) (.inl rfl) hn (Nat.le_refl _) (by omega)
    (by rw [hm]; exact hms) (by rw [hm]; exact hid) (by rw [hm]; exact fun q hq hqk => by rcases hq2 q hq hqk with rfl | rfl <;> omega) (by rw [ma, Nat.max_self]) (by rw [ma, Nat.max_self]) (by
      rw [if_neg (by omega), if_neg (by simp [updN])]) (fun r7 h7 => ?_)
  show Run _ _ _ [msgDone b k n] _ _
  refine Run.ld (b := 0) (c := n) (n := n) (st := []) (nx' := updN (updN nx a (n + 1)) b (n + 1)) (mt' := updN (updN mt a n) b n) (c' := n) (o := []) h (by rw [updI_same]; exact h7) hk hb (Ne.symm hkb) (Nat.zero_le _) (.inl rfl) hn (Nat.le_refl _) (by simp only [updN, if_neg (Ne.symm hab)]; omega)
    (by rw [hm]; exact hms) (by rw [hm]; exact hid) (by rw [hm]; exact fun q hq hqk => by rcases hq2 q hq hqk with rfl | rfl <;> simp [updN, Ne.symm hab] <;> omega) (by simp only [updN, if_neg (Ne.symm hab), mb, Nat.max_self]) (by simp only [updN, if_neg (Ne.symm hab), mb, Nat.max_self]) (by
      rw [if_neg (by omega), if_neg (by simp [updN])]) (fun r8 h8 => ?_)
  refine Run.nil (hQ _ _ _ ⟨by rw [updI_same]; exact h8, by rw [uak, uak, ua, updI_same]; exact h1, by rw [ubk, ubk, updI_same]; exact h2, by simp [updN, hab], by simp [updN], by simp [updN, hab], by simp [updN]⟩ (fun q hq => ?_))
  have hqa : q ≠ a := by unfold Tri at ht; omega
  have hqb : q ≠ b := by unfold Tri at ht; omega
  have hqk : q ≠ k := by unfold Tri at ht; omega
  simp [updI, updN, hqa, hqb, hqk]

/-! ### The election -/
def msgVote (k p : Int) : RM := { msg0 with kind := 1, group := 7, frm := k, to := p, term := 1 }
def msgVoted (p k : Int) : RM := { msg0 with kind := 2, group := 7, frm := p, to := k, term := 1, ok := true }
abbrev rNew (p : Int) : RF := newF 7 p 0 0 (newG [1, 2, 3]) []
abbrev rCan (k : Int) : RF := takeF (tickF (rNew k) 1)
theorem el_tick (ht : Tri k a b) : (tickF (rNew k) 1).out = [msgVote k a, msgVote k b] := by
  rcases ht with ⟨rfl, rfl, rfl⟩ | ⟨rfl, rfl, rfl⟩ | ⟨rfl, rfl, rfl⟩ <;> rfl
theorem el_vote (ht : Tri k a b) : ((stepF (rNew a) (msgVote k a)).2.out = [msgVoted a k] ∧ FoP FL a 0 0 0 (takeF (stepF (rNew a) (msgVote k a)).2)) ∧ ((stepF (rNew b) (msgVote k b)).2.out = [msgVoted b k] ∧ FoP FL b 0 0 0 (takeF (stepF (rNew b) (msgVote k b)).2)) := by
  rcases ht with ⟨rfl, rfl, rfl⟩ | ⟨rfl, rfl, rfl⟩ | ⟨rfl, rfl, rfl⟩ <;> exact ⟨⟨rfl, ⟨rfl, rfl, rfl, rfl, rfl, rfl⟩⟩, ⟨rfl, ⟨rfl, rfl, rfl, rfl, rfl, rfl⟩⟩⟩
theorem el_lead (ht : Tri k a b) (h0 : FL.take 1 = [⟨1, 1, 1, []⟩]) : (stepF (rCan k) (msgVoted a k)).2.out = [msgApp FL k a 0 1 0, msgApp FL k b 0 1 0] ∧ LdP FL k 0 1 0 (fun _ => 1) (fun _ => 0) [] (takeF (stepF (rCan k) (msgVoted a k)).2) := by
  have e1 : LGof FL 0 1 0 = ⟨0, 0, [1, 2, 3], [⟨1, 1, 1, []⟩], 0⟩ := by unfold LGof; rw [h0]; rfl
  have e2 : ∀ p, msgApp FL k p 0 1 0 = { msg0 with kind := 3, group := 7, frm := k, to := p, term := 1, ents := [⟨1, 1, 1, []⟩] } := fun p => by unfold msgApp; rw [h0]; rfl
  rw [e2, e2]
  rcases ht with ⟨rfl, rfl, rfl⟩ | ⟨rfl, rfl, rfl⟩ | ⟨rfl, rfl, rfl⟩ <;> refine ⟨rfl, ⟨rfl, rfl, rfl, rfl, by rw [e1]; rfl, fun p hp => rfl, fun p hp hpk => ?_, rfl, rfl⟩⟩ <;> rcases five hp with rfl | rfl | rfl | rfl | rfl <;> first | rfl | exact absurd rfl hpk
theorem el_rest {c : Nat} {nx mt : Int → Nat} {st : List UInt8} {r : RF} {bb : Nat} (ht : Tri k a b) (hr : LdP FL k bb n c nx mt st r) : (stepF r (msgVoted b k)).2 = r := by
  have hk : 1 ≤ k ∧ k ≤ 5 := by unfold Tri at ht; omega
  have hR : rightB (msgVoted b k) = true := by rcases ht with ⟨rfl, rfl, rfl⟩ | ⟨rfl, rfl, rfl⟩ | ⟨rfl, rfl, rfl⟩ <;> rfl
  obtain ⟨g1, g2, g3, g4, g5, g6, g7, g8, g9⟩ := hr
  unfold stepF
  rw [if_neg (by rw [hR, g1, g2]; simp [msgVoted]), if_neg (by rw [g3]; simp [msgVoted])]
  unfold upF
  rw [if_neg (by rw [g3]; simp [msgVoted])]
  unfold handleF
  rw [if_neg (by simp [msgVoted]), if_pos (by simp [msgVoted])]
  unfold grantedF
  rw [if_neg (by rw [g4]; simp)]
set_option maxHeartbeats 1000000 in
/-- the first who ticks leads -/
theorem round12 (h : FLok FL) (ht : Tri k a b) (h0 : FL.take 1 = [⟨1, 1, 1, []⟩]) (hNk : N k = rCan k) (hNa : N a = rNew a) (hNb : N b = rNew b)
    (hQ : ∀ N' nx' mt', Grp FL k a b 1 nx' mt' N' → (∀ p, p = 4 ∨ p = 5 → N' p = N p ∧ nx' p = 1 ∧ mt' p = 0) → Q N') :
    Run (GL FL) k N [msgVote k a, msgVote k b] 12 Q := by
  have hn : 1 ≤ FL.length := by
    have := congrArg List.length h0
    rw [List.length_take] at this; simp at this; omega
  have hk : 1 ≤ k ∧ k ≤ 5 := by unfold Tri at ht; omega
  have ha : 1 ≤ a ∧ a ≤ 5 := by unfold Tri at ht; omega
  have hb : 1 ≤ b ∧ b ≤ 5 := by unfold Tri at ht; omega
  have hka : k ≠ a := by unfold Tri at ht; omega
  have hkb : k ≠ b := by unfold Tri at ht; omega
  have hab : a ≠ b := by unfold Tri at ht; omega
  have ub : ∀ {α : Type} {f : Int → α} {v : α}, updI f a v b = f b := fun {α f v} => by simp only [updI, if_neg (Ne.symm hab)]
  have ua : ∀ {α : Type} {f : Int → α} {v : α}, updI f b v a = f a := fun {α f v} => by simp only [updI, if_neg hab]
  have uka : ∀ {α : Type} {f : Int → α} {v : α}, updI f a v k = f k := fun {α f v} => by simp only [updI, if_neg hka]
  have ukb : ∀ {α : Type} {f : Int → α} {v : α}, updI f b v k = f k := fun {α f v} => by simp only [updI, if_neg hkb]
  have uak : ∀ {α : Type} {f : Int → α} {v : α}, updI f k v a = f a := fun {α f v} => by simp only [updI, if_neg (Ne.symm hka)]
  have ubk : ∀ {α : Type} {f : Int → α} {v : α}, updI f k v b = f b := fun {α f v} => by simp only [updI, if_neg (Ne.symm hkb)]
  obtain ⟨⟨va1, va2⟩, ⟨vb1, vb2⟩⟩ := el_vote (FL := FL) ht
  obtain ⟨l1, l2⟩ := el_lead ht h0
  have fno : ∀ {p : Int} {r : RF}, FoP FL p 0 0 0 r → NO (GL FL) k r := fun hf => lg_no h (Nat.le_refl _) (Nat.le_refl _) (Nat.zero_le _) hf.g (fun h3 => by rw [hf.rol] at h3; cases h3)
  have lno : ∀ {r : RF} {nx mt : Int → Nat}, LdP FL k 0 1 0 nx mt [] r → NO (GL FL) k r := fun hf => lg_no h (Nat.le_refl _) (Nat.zero_le _) hn hf.g (fun _ => ⟨by rw [hf.trm]; omega, hf.idn⟩)
  refine Run.one (m := msgVote k a) (o := [msgVoted a k]) ha (by show (stepF (N a) _).2.out = _; rw [hNa]; exact va1) (by show NO _ _ (takeF (stepF (N a) _).2); rw [hNa]; exact fno va2) ?_
  show Run _ _ (updI N a (takeF (stepF (N a) (msgVote k a)).2)) [msgVote k b, msgVoted a k] _ _
  rw [hNa]
  generalize takeF (stepF (rNew a) (msgVote k a)).2 = ra at va2
  refine Run.one (m := msgVote k b) (o := [msgVoted b k]) hb (by show (stepF (updI N a ra b) _).2.out = _; rw [ub, hNb]; exact vb1) (by show NO _ _ (takeF (stepF (updI N a ra b) _).2); rw [ub, hNb]; exact fno vb2) ?_
  show Run _ _ (updI (updI N a ra) b (takeF (stepF (updI N a ra b) (msgVote k b)).2)) [msgVoted a k, msgVoted b k] _ _
  rw [ub, hNb]
  generalize takeF (stepF (rNew b) (msgVote k b)).2 = rb at vb2
  refine Run.one (m := msgVoted a k) (o := [msgApp FL k a 0 1 0, msgApp FL k b 0 1 0]) hk (by show (stepF (updI (updI N a ra) b rb k) _).2.out = _; rw [ukb, uka, hNk]; exact l1) (by show NO _ _ (takeF (stepF (updI (updI N a ra) b rb k) _).2); rw [ukb, uka, hNk]; exact lno l2) ?_
  show Run _ _ (updI (updI (updI N a ra) b rb) k (takeF (stepF (updI (updI N a ra) b rb k) (msgVoted a k)).2)) [msgVoted b k, msgApp FL k a 0 1 0, msgApp FL k b 0 1 0] _ _
  rw [ukb, uka, hNk]
  generalize takeF (stepF (rCan k) (msgVoted a k)).2 = rk at l2
  have hrest : takeF (stepF (updI (updI (updI N a ra) b rb) k rk k) (msgVoted b k)).2 = rk := by
    rw [updI_same, el_rest ht l2]
    have := l2.out
    unfold takeF; rw [← this]
  have hrest2 : (stepF (updI (updI (updI N a ra) b rb) k rk k) (msgVoted b k)).2.out = [] := by rw [updI_same, el_rest ht l2]; exact l2.out
  refine Run.one (m := msgVoted b k) (o := []) hk hrest2 (by show NO _ _ (takeF (stepF (updI (updI (updI N a ra) b rb) k rk k) (msgVoted b k)).2); rw [hrest]; exact lno l2) ?_
  show Run _ _ (updI (updI (updI (updI N a ra) b rb) k rk) k (takeF (stepF (updI (updI (updI N a ra) b rb) k rk k) (msgVoted b k)).2)) [msgApp FL k a 0 1 0, msgApp FL k b 0 1 0] _ _
  rw [hrest]
  refine round8 (n := 0) h ht hn (by rw [h0]; rfl) (by rw [updI_same]; exact l2) (by rw [uak, uak, ua, updI_same]; exact va2) (by rw [ubk, ubk, updI_same]; exact vb2) rfl rfl (Nat.le_refl _) (Nat.le_refl _) (fun N' nx' mt' hg hr => hQ N' nx' mt' hg (fun q hq => ?_))
  obtain ⟨h1, h2, h3⟩ := hr q hq
  have hqa : q ≠ a := by unfold Tri at ht; omega
  have hqb : q ≠ b := by unfold Tri at ht; omega
  have hqk : q ≠ k := by unfold Tri at ht; omega
  exact ⟨by rw [h1]; simp [updI, hqa, hqb, hqk], h2, h3⟩
end Go.Proofs.Ytdcpeboecmkmlaa

namespace Go.Proofs.Ytdcpeboecmkmlaa
open Go.SL
set_option maxRecDepth 10000

/-- bytes as entries from an index on -/
def dataL : Int → List UInt8 → List LE
  | _, [] => []
  | i, x :: r => ⟨i, 1, 2, [x]⟩ :: dataL (i + 1) r
def calmL (d : List UInt8) (more : List LE) : List LE := ⟨1, 1, 1, []⟩ :: (dataL 2 d ++ more)
theorem dataL_len : ∀ {i : Int} {d : List UInt8}, (dataL i d).length = d.length
  | _, [] => rfl
  | i, x :: r => by simp [dataL, dataL_len (i := i + 1) (d := r)]
theorem dataL_fol : ∀ {d : List UInt8} {i : Int}, 0 ≤ i → i + d.length ≤ 1000 → followB i 1 (dataL (i + 1) d) = true ∧ ltm 1 (dataL (i + 1) d) = 1
  | [], _, _, _ => ⟨rfl, rfl⟩
  | x :: r, i, h0, h => by
    simp only [List.length_cons] at h
    obtain ⟨h1, h2⟩ := dataL_fol (d := r) (i := i + 1) (by omega) (by omega)
    refine ⟨?_, h2⟩
    simp only [dataL, followB, h1, entB, countB, Bool.and_eq_true, decide_eq_true_eq]
    simp
    omega
theorem dataL_mem : ∀ {d : List UInt8} {i : Int}, ∀ e ∈ dataL i d, e.term = 1 ∧ e.kind = 2 ∧ e.data.length ≤ 10
  | [], _, e, h => by cases h
  | x :: r, i, e, h => by
    rcases List.mem_cons.1 h with rfl | h
    · exact ⟨rfl, rfl, by simp⟩
    · exact dataL_mem e h
theorem dataL_get : ∀ {d : List UInt8} {i : Int} {j : Nat} (hj : j < d.length), (dataL i d)[j]? = some ⟨i + j, 1, 2, [d[j]]⟩
  | x :: r, i, 0, _ => by simp [dataL]
  | x :: r, i, j + 1, h => by
    simp only [List.length_cons] at h
    have := dataL_get (d := r) (i := i + 1) (j := j) (by omega)
    simp only [dataL, List.getElem?_cons_succ, this, List.getElem_cons_succ]
    congr 2
    omega
theorem calm_len {d : List UInt8} {more : List LE} : (calmL d more).length = d.length + 1 + more.length := by simp [calmL, dataL_len]; omega
theorem calm_get {d : List UInt8} {more : List LE} {j : Nat} (hj : j < d.length) : (calmL d more)[j + 1]? = some ⟨(j : Int) + 2, 1, 2, [d[j]]⟩ := by
  simp only [calmL, List.getElem?_cons_succ]
  rw [List.getElem?_append_left (by rw [dataL_len]; exact hj), dataL_get hj]
  congr 2
  omega
theorem memOf_none : ∀ {l : List LE} {m : List Int}, (∀ e ∈ l, e.kind ≠ 3) → memOf m l = m
  | [], _, _ => rfl
  | e :: r, m, h => by
    rw [memOf, if_neg (h e (List.mem_cons_self ..))]
    exact memOf_none (fun x hx => h x (List.mem_cons_of_mem _ hx))
theorem calm_mem {d : List UInt8} {more : List LE} {n : Nat} (hn : n ≤ d.length + 1) : memOf [1, 2, 3] ((calmL d more).take n) = [1, 2, 3] := by
  refine memOf_none (fun e he => ?_)
  have e1 : (calmL d more).take n = (calmL d []).take n := by
    have : calmL d more = calmL d [] ++ more := by simp [calmL]
    rw [this, List.take_append_of_le_length (by rw [calm_len]; simp; omega)]
  rw [e1] at he
  have := List.mem_of_mem_take he
  simp only [calmL, List.append_nil] at this
  rcases List.mem_cons.1 this with rfl | h
  · decide
  · rw [(dataL_mem e h).2.1]; decide
theorem calm_ok {d : List UInt8} {more : List LE} (hd : d.length ≤ 20) (hl : more.length ≤ 1) (hf : followB ((d.length : Int) + 1) 1 more = true) (ht : ∀ e ∈ more, e.term = 1 ∧ e.data.length ≤ 10) : FLok (calmL d more) := by
  obtain ⟨h1, h2⟩ := dataL_fol (d := d) (i := 1) (by omega) (by omega)
  refine ⟨?_, fun e he => ?_, by rw [calm_len]; omega, fun e he => ?_⟩
  · simp only [calmL, followB]
    rw [show (0 : Int) + 1 = 1 by rfl, show (2 : Int) = 1 + 1 by rfl, followB_append, h1, h2, dataL_len, show (1 : Int) + (d.length : Int) = (d.length : Int) + 1 by omega, hf]
    decide
  · simp only [calmL] at he
    rcases List.mem_cons.1 he with rfl | h
    · rfl
    · rcases List.mem_append.1 h with h | h
      · exact (dataL_mem e h).1
      · exact (ht e h).1
  · simp only [calmL] at he
    rcases List.mem_cons.1 he with rfl | h
    · simp
    · rcases List.mem_append.1 h with h | h
      · exact (dataL_mem e h).2.2
      · exact (ht e h).2
end Go.Proofs.Ytdcpeboecmkmlaa

namespace Go.Proofs.Ytdcpeboecmkmlaa
open Go.SL
set_option maxRecDepth 10000

variable {FL : List LE} {b n c i j cm T : Nat} {k p l : Int} {N : Int → RF} {rest : List RM} {Q : (Int → RF) → Prop} {st : List UInt8} {r : RF}
theorem right_snp (h : FLok FL) (hk : 1 ≤ k ∧ k ≤ 5) (hp : 1 ≤ p ∧ p ≤ 5) (hb : b ≤ FL.length) (hst : st.length ≤ 10) : rightB (msgSnap FL k p b st) = true := by
  have hs := h.sml
  have hbt := baseT_le b
  have hm : memB (memOf [1, 2, 3] (FL.take b)) = true := (lg_wf (b := b) (c := b) (n := b) h (Nat.le_refl _) (Nat.le_refl _) hb).mem
  simp only [rightB, msgSnap, msg0, countB, nodeB, kindB, Bool.and_eq_true, decide_eq_true_eq]
  simp [hm]
  exact ⟨⟨⟨⟨by omega, decide_eq_true (by omega)⟩, decide_eq_true (by omega)⟩, decide_eq_true (by omega)⟩, decide_eq_true (by omega), decide_eq_true (by omega)⟩
theorem fo_snap1 (h : FLok FL) (e : r = rNew p) (hk : 1 ≤ k ∧ k ≤ 5) (hp : 1 ≤ p ∧ p ≤ 5) (hb1 : 1 ≤ b) (hb : b ≤ FL.length) (hst : st.length ≤ 10) :
    (stepF r (msgSnap FL k p b st)).2.out = [msgDone p k b] ∧ FoP FL p b b b (takeF (stepF r (msgSnap FL k p b st)).2) ∧ (stepF r (msgSnap FL k p b st)).2.st = st := by
  have hR := right_snp (k := k) (p := p) (st := st) h hk hp hb hst
  have hG := lg_reset h hb1 hb
  have e1 : stepF r (msgSnap FL k p b st) = (0, installF (followF r 1) (msgSnap FL k p b st)) := by
    subst e
    unfold stepF
    rw [if_neg (by rw [hR]; simp [msgSnap, newF]), if_neg (by simp [msgSnap, newF])]
    unfold upF
    rw [if_pos (by simp [msgSnap, newF])]
    unfold handleF
    rw [if_neg (by simp [msgSnap]), if_neg (by simp [msgSnap]), if_neg (by simp [msgSnap]), if_pos (by simp [msgSnap]), if_neg (by simp [followF])]
    rfl
  rw [e1]
  have e2 : installF (followF r 1) (msgSnap FL k p b st) = sendF { hearF (followF r 1) k with g := LGof FL b b b, st := st } (doneM (msgSnap FL k p b st) true b) := by
    subst e
    unfold installF
    simp only [msgSnap, hearF, followF, newF]
    rw [if_neg (by simp only [newG]; omega), hG]
    rfl
  rw [e2]
  subst e
  exact ⟨by simp [sendF, hearF, followF, newF, doneM, msgDone, msgSnap, msg0], ⟨rfl, rfl, rfl, rfl, rfl, rfl⟩, rfl⟩
theorem fo_snap2 (h : FLok FL) (hr : FoP FL p b n c r) (hk : 1 ≤ k ∧ k ≤ 5) (hp : 1 ≤ p ∧ p ≤ 5) (hi : i ≤ c) (hb : i ≤ FL.length) (hst : st.length ≤ 10) :
    (stepF r (msgSnap FL k p i st)).2.out = [msgDone p k c] ∧ FoP FL p b n c (takeF (stepF r (msgSnap FL k p i st)).2) ∧ (stepF r (msgSnap FL k p i st)).2.st = r.st := by
  have hR := right_snp (k := k) (p := p) (st := st) h hk hp hb hst
  obtain ⟨g1, g2, g3, g4, g5, g6⟩ := hr
  have e1 : stepF r (msgSnap FL k p i st) = (0, installF r (msgSnap FL k p i st)) := by
    unfold stepF
    rw [if_neg (by rw [hR, g1, g2]; simp [msgSnap]), if_neg (by rw [g3]; simp [msgSnap])]
    unfold upF
    rw [if_neg (by rw [g3]; simp [msgSnap])]
    unfold handleF
    rw [if_neg (by simp [msgSnap]), if_neg (by simp [msgSnap]), if_neg (by simp [msgSnap]), if_pos (by simp [msgSnap]), if_neg (by rw [g4]; decide)]
  rw [e1]
  have e2 : installF r (msgSnap FL k p i st) = sendF (hearF r k) (doneM (msgSnap FL k p i st) true c) := by
    unfold installF
    simp only [msgSnap, hearF, g5, LGof]
    rw [if_pos (by omega)]
  rw [e2]
  exact ⟨by simp [sendF, hearF, doneM, msgDone, msgSnap, msg0, g1, g2, g3, g6], ⟨by simp [takeF, sendF, hearF, g1], by simp [takeF, sendF, hearF, g2], by simp [takeF, sendF, hearF, g3], rfl, by simp [takeF, sendF, hearF, g5], rfl⟩, rfl⟩
theorem st_append (r : RF) (m : RM) : (appendF r m).st = r.st := by
  unfold appendF; simp only; split
  · rfl
  · split <;> rfl
theorem st_app (hr : FoP FL p b n c r) : (stepF r (msgApp FL k p i j cm)).2.st = r.st := by
  obtain ⟨g1, g2, g3, g4, g5, g6⟩ := hr
  unfold stepF
  split
  · rfl
  · rw [if_neg (by rw [g3]; simp [msgApp])]
    unfold upF
    rw [if_neg (by rw [g3]; simp [msgApp])]
    unfold handleF
    rw [if_neg (by simp [msgApp]), if_neg (by simp [msgApp]), if_pos (by simp [msgApp]), if_neg (by rw [g4]; decide)]
    exact st_append _ _
theorem fo_no (h : FLok FL) (hr : FoP FL p b n c r) (hb : b ≤ c) (hc : c ≤ n) (hn : n ≤ FL.length) : NO (GL FL) l r :=
  lg_no h hb hc hn hr.g (fun h3 => by rw [hr.rol] at h3; cases h3)
theorem Run.foS (h : FLok FL) (hr : FoP FL p b n c (N p) ∧ (N p).st = st) (hk : 1 ≤ k ∧ k ≤ 5) (hp : 1 ≤ p ∧ p ≤ 5) (hb : b ≤ i) (hi : i ≤ n) (hn : n ≤ FL.length) (hij : i ≤ j) (hj : j ≤ FL.length) (hc : cm ≤ 60) (hbc : b ≤ c) (hcn : c ≤ n) {n' c' : Nat} (en : max n j = n') (ec : max c (min cm j) = c')
    (hd : ∀ r', FoP FL p b n' c' r' ∧ r'.st = st → Run (GL FL) l (updI N p r') (rest ++ [msgDone p k j]) T Q) : Run (GL FL) l N (msgApp FL k p i j cm :: rest) (T + 1) Q := by
  subst en ec
  obtain ⟨h1, h2⟩ := fo_app (k := k) h hr.1 hk hp hb hi hn hij hj hc
  exact Run.one (m := msgApp FL k p i j cm) hp h1 (fo_no h h2 (by omega) (by omega) (by omega)) (hd _ ⟨h2, (st_app hr.1).trans hr.2⟩)
theorem Run.snap1 (h : FLok FL) (e : N p = rNew p) (hk : 1 ≤ k ∧ k ≤ 5) (hp : 1 ≤ p ∧ p ≤ 5) (hb1 : 1 ≤ b) (hb : b ≤ FL.length) (hst : st.length ≤ 10)
    (hd : ∀ r', FoP FL p b b b r' ∧ r'.st = st → Run (GL FL) l (updI N p r') (rest ++ [msgDone p k b]) T Q) : Run (GL FL) l N (msgSnap FL k p b st :: rest) (T + 1) Q := by
  obtain ⟨h1, h2, h3⟩ := fo_snap1 (k := k) h e hk hp hb1 hb hst
  exact Run.one (m := msgSnap FL k p b st) hp h1 (fo_no h h2 (by omega) (by omega) (by omega)) (hd _ ⟨h2, h3⟩)
theorem Run.snap2 (h : FLok FL) {st' : List UInt8} (hr : FoP FL p b n c (N p) ∧ (N p).st = st') (hk : 1 ≤ k ∧ k ≤ 5) (hp : 1 ≤ p ∧ p ≤ 5) (hi : i ≤ c) (hb : i ≤ FL.length) (hst : st.length ≤ 10) (hbc : b ≤ c) (hcn : c ≤ n) (hn : n ≤ FL.length)
    (hd : ∀ r', FoP FL p b n c r' ∧ r'.st = st' → Run (GL FL) l (updI N p r') (rest ++ [msgDone p k c]) T Q) : Run (GL FL) l N (msgSnap FL k p i st :: rest) (T + 1) Q := by
  obtain ⟨h1, h2, h3⟩ := fo_snap2 (k := k) h hr.1 hk hp hi hb hst
  exact Run.one (m := msgSnap FL k p i st) hp h1 (fo_no h h2 hbc hcn hn) (hd _ ⟨h2, h3.trans hr.2⟩)

/-- values for five nodes -/
def nf (x1 x2 x3 x4 x5 : Nat) : Int → Nat := fun p => if p = 1 then x1 else if p = 2 then x2 else if p = 3 then x3 else if p = 4 then x4 else x5
section
variable {x1 x2 x3 x4 x5 v : Nat}
theorem nf1 : nf x1 x2 x3 x4 x5 1 = x1 := rfl
theorem nf2 : nf x1 x2 x3 x4 x5 2 = x2 := rfl
theorem nf3 : nf x1 x2 x3 x4 x5 3 = x3 := rfl
theorem nf4 : nf x1 x2 x3 x4 x5 4 = x4 := rfl
theorem nf_2 : updN (nf x1 x2 x3 x4 x5) 2 v = nf x1 v x3 x4 x5 := by
  funext p; unfold updN nf; by_cases h : p = 2
  · subst h; rfl
  · rw [if_neg h, if_neg h, if_neg h]
theorem nf_3 : updN (nf x1 x2 x3 x4 x5) 3 v = nf x1 x2 v x4 x5 := by
  funext p; unfold updN nf; by_cases h : p = 3
  · subst h; rfl
  · simp only [if_neg h]
theorem nf_4 : updN (nf x1 x2 x3 x4 x5) 4 v = nf x1 x2 x3 v x5 := by
  funext p; unfold updN nf; by_cases h : p = 4
  · subst h; rfl
  · simp only [if_neg h]
theorem nf_eq (f : Int → Nat) (hp : 1 ≤ p ∧ p ≤ 5) : f p = nf (f 1) (f 2) (f 3) (f 4) (f 5) p := by
  rcases five hp with rfl | rfl | rfl | rfl | rfl <;> rfl
theorem maj4 {m : Nat} : majN [1, 2, 3, 4] 1 (nf x1 x2 x3 x4 x5) m = decide ((if m ≤ x2 then 1 else 0) + (if m ≤ x3 then 1 else 0) + (if m ≤ x4 then 1 else 0) ≥ 2) := by
  simp only [majN, majF, List.filter_cons, List.filter_nil, nf2, nf3, nf4]
  by_cases h2 : m ≤ x2 <;> by_cases h3 : m ≤ x3 <;> by_cases h4 : m ≤ x4 <;> simp [h2, h3, h4]
theorem all4 {b0 m cc : Nat} {nx : Int → Nat} : toAll FL 1 b0 m cc nx st [1, 2, 3, 4] = [toM FL 1 b0 m cc nx st 2, toM FL 1 b0 m cc nx st 3, toM FL 1 b0 m cc nx st 4] := rfl
theorem toM_a {nx : Int → Nat} (hx : nx p = i + 1) (hb : b ≤ i) : toM FL k b n c nx st p = msgApp FL k p i n c := by
  unfold toM; rw [hx, if_neg (by omega)]; rfl
theorem toM_s {nx : Int → Nat} (hx : nx p - 1 < b) : toM FL k b n c nx st p = msgSnap FL k p b st := by
  unfold toM; rw [if_pos hx]
end
theorem LdP.congr {nx mt nx' mt' : Int → Nat} (h : LdP FL k b n c nx mt st r) (h1 : ∀ p, 1 ≤ p ∧ p ≤ 5 → nx p = nx' p) (h2 : ∀ p, 1 ≤ p ∧ p ≤ 5 → mt p = mt' p) : LdP FL k b n c nx' mt' st r :=
  ⟨h.grp, h.idn, h.trm, h.rol, h.g, fun p hp => by rw [h.nx p hp, h1 p hp], fun p hp hk => by rw [h.mt p hp hk, h2 p hp], h.sta, h.out⟩

/-- the leader hears of node 2, 3 or 4 -/
theorem Run.ld4 (h : FLok FL) {x2 x3 x4 m1 m2 m3 m4 x1 x5 m5 : Nat} (hr : LdP FL 1 b n c (nf x1 x2 x3 x4 x5) (nf m1 m2 m3 m4 m5) st (N 1)) (hp : p = 2 ∨ p = 3 ∨ p = 4) (hb : b ≤ c) (hc : n = c ∨ n = c + 1) (hn : n ≤ FL.length) (hj : j ≤ n)
    (hm : memOf [1, 2, 3] (FL.take n) = [1, 2, 3, 4]) (hx2 : 1 ≤ x2 ∧ x2 ≤ n + 1) (hx3 : 1 ≤ x3 ∧ x3 ≤ n + 1) (hx4 : 1 ≤ x4 ∧ x4 ≤ n + 1) (hm2 : m2 ≤ n) (hm3 : m3 ≤ n) (hm4 : m4 ≤ n)
    {y2 y3 y4 k2 k3 k4 : Nat} (ey : updN (nf x1 x2 x3 x4 x5) p (max (nf m1 m2 m3 m4 m5 p) j + 1) = nf x1 y2 y3 y4 x5) (ek : updN (nf m1 m2 m3 m4 m5) p (max (nf m1 m2 m3 m4 m5 p) j) = nf m1 k2 k3 k4 m5)
    {c' : Nat} {o : List RM} (e3 : (if n = c + 1 ∧ majN [1, 2, 3, 4] 1 (nf m1 k2 k3 k4 m5) n = true then (n, toAll FL 1 b n n (nf x1 y2 y3 y4 x5) st [1, 2, 3, 4]) else (c, if nf x1 y2 y3 y4 x5 p ≤ n then [toM FL 1 b n c (nf x1 y2 y3 y4 x5) st p] else [])) = (c', o))
    (hd : ∀ r', LdP FL 1 b n c' (nf x1 y2 y3 y4 x5) (nf m1 k2 k3 k4 m5) st r' → Run (GL FL) 1 (updI N 1 r') (rest ++ o) T Q) : Run (GL FL) 1 N (msgDone p 1 j :: rest) (T + 1) Q := by
  have hq : ∀ q ∈ ([1, 2, 3, 4] : List Int), q = 1 ∨ q = 2 ∨ q = 3 ∨ q = 4 := fun q hq => by simpa using hq
  have hnx : ∀ q ∈ ([1, 2, 3, 4] : List Int), q ≠ 1 → 1 ≤ nf x1 x2 x3 x4 x5 q ∧ nf x1 x2 x3 x4 x5 q ≤ n + 1 := by
    intro q h hn1
    rcases hq q h with rfl | rfl | rfl | rfl
    · exact absurd rfl hn1
    · exact hx2
    · exact hx3
    · exact hx4
  have hmt : nf m1 m2 m3 m4 m5 p ≤ n := by rcases hp with rfl | rfl | rfl <;> simp only [nf2, nf3, nf4] <;> assumption
  refine Run.ld (k := 1) (b := b) (c := c) (n := n) (nx := nf x1 x2 x3 x4 x5) (mt := nf m1 m2 m3 m4 m5) (st := st) (nx' := nf x1 y2 y3 y4 x5) (mt' := nf m1 k2 k3 k4 m5) (c' := c') (o := o) h hr (by omega) (by omega) (by omega) hb hc hn hj hmt
    (by rw [hm]; exact fun q h => by have := hq q h; omega) (by rw [hm]; rfl) (by rw [hm]; exact hnx) ey ek (by rw [hm]; exact e3) hd
end Go.Proofs.Ytdcpeboecmkmlaa

namespace Go.Proofs.Ytdcpeboecmkmlaa
open Go.SL
set_option maxRecDepth 10000

variable {FL : List LE} {n T : Nat} {N : Int → RF} {Q : (Int → RF) → Prop} {st : List UInt8} {x1 x5 m1 m5 : Nat}
set_option maxHeartbeats 1000000 in
theorem join16 (h : FLok FL) (hn : n + 1 ≤ FL.length) (hn1 : 1 ≤ n) (hm : memOf [1, 2, 3] (FL.take (n + 1)) = [1, 2, 3, 4]) (hst : st.length ≤ 10)
    (hld : LdP FL 1 n (n + 1) n (nf x1 (n + 1) (n + 1) 1 x5) (nf m1 n n 0 m5) st (N 1)) (hfa : FoP FL 2 0 n n (N 2)) (hfb : FoP FL 3 0 n n (N 3)) (h4 : N 4 = rNew 4)
    (hQ : ∀ N', LdP FL 1 n (n + 1) (n + 1) (nf x1 (n + 2) (n + 2) (n + 2) x5) (nf m1 (n + 1) (n + 1) (n + 1) m5) st (N' 1) → FoP FL 2 0 (n + 1) (n + 1) (N' 2) → FoP FL 3 0 (n + 1) (n + 1) (N' 3) → FoP FL 4 n (n + 1) (n + 1) (N' 4) ∧ (N' 4).st = st → Q N') :
    Run (GL FL) 1 N [msgApp FL 1 2 n (n + 1) n, msgApp FL 1 3 n (n + 1) n, msgSnap FL 1 4 n st] 16 Q := by
  have hs := h.sml
  -- three hear
  refine Run.fo (b := 0) (n := n) (c := n) (n' := n + 1) (c' := n) h hfa (by omega) (by omega) (by omega) (by omega) (by omega) (by omega) hn (by omega) (by omega) (by omega) (by omega) (by omega) (fun r2 h2 => ?_)
  refine Run.fo (b := 0) (n := n) (c := n) (n' := n + 1) (c' := n) h (show FoP FL 3 0 n n (N 3) from hfb) (by omega) (by omega) (by omega) (by omega) (by omega) (by omega) hn (by omega) (by omega) (by omega) (by omega) (by omega) (fun r3 h3 => ?_)
  refine Run.snap1 h (show N 4 = rNew 4 from h4) (by omega) (by omega) hn1 (by omega) hst (fun r4 h4' => ?_)
  generalize hN1 : updI (updI (updI N 2 r2) 3 r3) 4 r4 = N1
  replace hld : LdP FL 1 n (n + 1) n (nf x1 (n + 1) (n + 1) 1 x5) (nf m1 n n 0 m5) st (N1 1) := by subst hN1; exact hld
  replace h2 : FoP FL 2 0 (n + 1) n (N1 2) := by subst hN1; exact h2
  replace h3 : FoP FL 3 0 (n + 1) n (N1 3) := by subst hN1; exact h3
  replace h4' : FoP FL 4 n n n (N1 4) ∧ (N1 4).st = st := by subst hN1; exact h4'
  clear hN1 hfa hfb h4
  show Run _ _ _ [msgDone 2 1 (n + 1), msgDone 3 1 (n + 1), msgDone 4 1 n] _ _
  -- the leader hears of them
  refine Run.ld4 (p := 2) (y2 := n + 2) (y3 := n + 1) (y4 := 1) (k2 := n + 1) (k3 := n) (k4 := 0) (c' := n) (o := []) h hld (by omega) (by omega) (by omega) hn (by omega) hm (by omega) (by omega) (by omega) (by omega) (by omega) (by omega)
    (by rw [nf2, nf_2, Nat.max_eq_right (by omega)]) (by rw [nf2, nf_2, Nat.max_eq_right (by omega)]) (by rw [if_neg (by rw [maj4, if_neg (show ¬ n + 1 ≤ n by omega)]; simp), nf2, if_neg (by omega)]) (fun r1 h1 => ?_)
  refine Run.ld4 (p := 3) (N := updI N1 1 r1) (y2 := n + 2) (y3 := n + 2) (y4 := 1) (k2 := n + 1) (k3 := n + 1) (k4 := 0) (c' := n + 1) (o := [msgApp FL 1 2 (n + 1) (n + 1) (n + 1), msgApp FL 1 3 (n + 1) (n + 1) (n + 1), msgSnap FL 1 4 n st]) h (show LdP _ _ _ _ _ _ _ _ r1 from h1) (by omega) (by omega) (by omega) hn (by omega) hm (by omega) (by omega) (by omega) (by omega) (by omega) (by omega)
    (by rw [nf3, nf_3, Nat.max_eq_right (by omega)]) (by rw [nf3, nf_3, Nat.max_eq_right (by omega)]) (by
      rw [if_pos ⟨rfl, by rw [maj4]; simp⟩, all4, toM_a (i := n + 1) rfl (by omega), toM_a (i := n + 1) rfl (by omega), toM_s (by rw [nf4]; omega)]) (fun r1' h1' => ?_)
  refine Run.ld4 (p := 4) (j := n) (N := updI (updI N1 1 r1) 1 r1') (y2 := n + 2) (y3 := n + 2) (y4 := n + 1) (k2 := n + 1) (k3 := n + 1) (k4 := n) (c' := n + 1) (o := [msgApp FL 1 4 n (n + 1) (n + 1)]) h (show LdP _ _ _ _ _ _ _ _ r1' from h1') (by omega) (by omega) (by omega) hn (by omega) hm (by omega) (by omega) (by omega) (by omega) (by omega) (by omega)
    (by rw [nf4, nf_4, Nat.max_eq_right (by omega)]) (by rw [nf4, nf_4, Nat.max_eq_right (by omega)]) (by
      rw [if_neg (by omega), nf4, if_pos (by omega), toM_a (i := n) rfl (by omega)]) (fun r1'' h1'' => ?_)
  generalize hN2 : updI (updI (updI N1 1 r1) 1 r1') 1 r1'' = N2
  replace hld : LdP FL 1 n (n + 1) (n + 1) (nf x1 (n + 2) (n + 2) (n + 1) x5) (nf m1 (n + 1) (n + 1) n m5) st (N2 1) := by subst hN2; exact h1''
  replace h2 : FoP FL 2 0 (n + 1) n (N2 2) := by subst hN2; exact h2
  replace h3 : FoP FL 3 0 (n + 1) n (N2 3) := by subst hN2; exact h3
  replace h4' : FoP FL 4 n n n (N2 4) ∧ (N2 4).st = st := by subst hN2; exact h4'
  clear hN2 h1 h1' h1''
  show Run _ _ _ [msgApp FL 1 2 (n + 1) (n + 1) (n + 1), msgApp FL 1 3 (n + 1) (n + 1) (n + 1), msgSnap FL 1 4 n st, msgApp FL 1 4 n (n + 1) (n + 1)] _ _
  refine Run.fo (b := 0) (n := n + 1) (c := n) (n' := n + 1) (c' := n + 1) h h2 (by omega) (by omega) (by omega) (by omega) (by omega) (by omega) hn (by omega) (by omega) (by omega) (by omega) (by omega) (fun r2 h2 => ?_)
  refine Run.fo (b := 0) (n := n + 1) (c := n) (n' := n + 1) (c' := n + 1) h (show FoP FL 3 0 (n + 1) n (N2 3) from h3) (by omega) (by omega) (by omega) (by omega) (by omega) (by omega) hn (by omega) (by omega) (by omega) (by omega) (by omega) (fun r3 h3 => ?_)
  refine Run.snap2 (b := n) (n := n) (c := n) (st' := st) h (show FoP FL 4 n n n (N2 4) ∧ (N2 4).st = st from h4') (by omega) (by omega) (by omega) (by omega) hst (by omega) (by omega) (by omega) (fun r4 h4 => ?_)
  refine Run.foS (b := n) (n := n) (c := n) (n' := n + 1) (c' := n + 1) (st := st) h (show FoP FL 4 n n n r4 ∧ r4.st = st from h4) (by omega) (by omega) (by omega) (by omega) (by omega) (by omega) hn (by omega) (by omega) (by omega) (by omega) (by omega) (fun r4' h4 => ?_)
  generalize hN3 : updI (updI (updI (updI N2 2 r2) 3 r3) 4 r4) 4 r4' = N3
  replace hld : LdP FL 1 n (n + 1) (n + 1) (nf x1 (n + 2) (n + 2) (n + 1) x5) (nf m1 (n + 1) (n + 1) n m5) st (N3 1) := by subst hN3; exact hld
  replace h2 : FoP FL 2 0 (n + 1) (n + 1) (N3 2) := by subst hN3; exact h2
  replace h3 : FoP FL 3 0 (n + 1) (n + 1) (N3 3) := by subst hN3; exact h3
  replace h4 : FoP FL 4 n (n + 1) (n + 1) (N3 4) ∧ (N3 4).st = st := by subst hN3; exact h4
  clear hN3 h4'
  show Run _ _ _ [msgDone 2 1 (n + 1), msgDone 3 1 (n + 1), msgDone 4 1 n, msgDone 4 1 (n + 1)] _ _
  refine Run.ld4 (p := 2) (y2 := n + 2) (y3 := n + 2) (y4 := n + 1) (k2 := n + 1) (k3 := n + 1) (k4 := n) (c' := n + 1) (o := []) h hld (by omega) (by omega) (by omega) hn (by omega) hm (by omega) (by omega) (by omega) (by omega) (by omega) (by omega)
    (by rw [nf2, nf_2, Nat.max_self]) (by rw [nf2, nf_2, Nat.max_self]) (by rw [if_neg (by omega), nf2, if_neg (by omega)]) (fun r1 h1 => ?_)
  refine Run.ld4 (p := 3) (N := updI N3 1 r1) (y2 := n + 2) (y3 := n + 2) (y4 := n + 1) (k2 := n + 1) (k3 := n + 1) (k4 := n) (c' := n + 1) (o := []) h (show LdP _ _ _ _ _ _ _ _ r1 from h1) (by omega) (by omega) (by omega) hn (by omega) hm (by omega) (by omega) (by omega) (by omega) (by omega) (by omega)
    (by rw [nf3, nf_3, Nat.max_self]) (by rw [nf3, nf_3, Nat.max_self]) (by rw [if_neg (by omega), nf3, if_neg (by omega)]) (fun r1' h1' => ?_)
  refine Run.ld4 (p := 4) (j := n) (N := updI (updI N3 1 r1) 1 r1') (y2 := n + 2) (y3 := n + 2) (y4 := n + 1) (k2 := n + 1) (k3 := n + 1) (k4 := n) (c' := n + 1) (o := [msgApp FL 1 4 n (n + 1) (n + 1)]) h (show LdP _ _ _ _ _ _ _ _ r1' from h1') (by omega) (by omega) (by omega) hn (by omega) hm (by omega) (by omega) (by omega) (by omega) (by omega) (by omega)
    (by rw [nf4, nf_4, Nat.max_self]) (by rw [nf4, nf_4, Nat.max_self]) (by rw [if_neg (by omega), nf4, if_pos (by omega), toM_a (i := n) rfl (by omega)]) (fun r1'' h1'' => ?_)
  refine Run.ld4 (p := 4) (j := n + 1) (N := updI (updI (updI N3 1 r1) 1 r1') 1 r1'') (y2 := n + 2) (y3 := n + 2) (y4 := n + 2) (k2 := n + 1) (k3 := n + 1) (k4 := n + 1) (c' := n + 1) (o := []) h (show LdP _ _ _ _ _ _ _ _ r1'' from h1'') (by omega) (by omega) (by omega) hn (by omega) hm (by omega) (by omega) (by omega) (by omega) (by omega) (by omega)
    (by rw [nf4, nf_4, Nat.max_eq_right (by omega)]) (by rw [nf4, nf_4, Nat.max_eq_right (by omega)]) (by rw [if_neg (by omega), nf4, if_neg (by omega)]) (fun r1''' h1''' => ?_)
  generalize hN4 : updI (updI (updI (updI N3 1 r1) 1 r1') 1 r1'') 1 r1''' = N4
  replace hld : LdP FL 1 n (n + 1) (n + 1) (nf x1 (n + 2) (n + 2) (n + 2) x5) (nf m1 (n + 1) (n + 1) (n + 1) m5) st (N4 1) := by subst hN4; exact h1'''
  replace h2 : FoP FL 2 0 (n + 1) (n + 1) (N4 2) := by subst hN4; exact h2
  replace h3 : FoP FL 3 0 (n + 1) (n + 1) (N4 3) := by subst hN4; exact h3
  replace h4 : FoP FL 4 n (n + 1) (n + 1) (N4 4) ∧ (N4 4).st = st := by subst hN4; exact h4
  clear hN4 h1 h1' h1'' h1'''
  show Run _ _ _ [msgApp FL 1 4 n (n + 1) (n + 1)] _ _
  refine Run.foS (b := n) (n := n + 1) (c := n + 1) (n' := n + 1) (c' := n + 1) (st := st) h h4 (by omega) (by omega) (by omega) (by omega) (by omega) (by omega) hn (by omega) (by omega) (by omega) (by omega) (by omega) (fun r4 h4 => ?_)
  show Run _ _ _ [msgDone 4 1 (n + 1)] _ _
  refine Run.ld4 (p := 4) (j := n + 1) (N := updI N4 4 r4) (y2 := n + 2) (y3 := n + 2) (y4 := n + 2) (k2 := n + 1) (k3 := n + 1) (k4 := n + 1) (c' := n + 1) (o := []) h hld (by omega) (by omega) (by omega) hn (by omega) hm (by omega) (by omega) (by omega) (by omega) (by omega) (by omega)
    (by rw [nf4, nf_4, Nat.max_self]) (by rw [nf4, nf_4, Nat.max_self]) (by rw [if_neg (by omega), nf4, if_neg (by omega)]) (fun r1 h1 => ?_)
  exact Run.nil (hQ _ h1 h2 h3 h4)
set_option maxHeartbeats 1000000 in
theorem beat6 (h : FLok FL) (hn : n + 1 ≤ FL.length) (hn1 : 1 ≤ n) (hm : memOf [1, 2, 3] (FL.take (n + 1)) = [1, 2, 3, 4])
    (hld : LdP FL 1 n (n + 1) (n + 1) (nf x1 (n + 2) (n + 2) (n + 2) x5) (nf m1 (n + 1) (n + 1) (n + 1) m5) st (N 1)) (h2 : FoP FL 2 0 (n + 1) (n + 1) (N 2)) (h3 : FoP FL 3 0 (n + 1) (n + 1) (N 3)) (h4 : FoP FL 4 n (n + 1) (n + 1) (N 4) ∧ (N 4).st = st)
    (hQ : ∀ N', LdP FL 1 n (n + 1) (n + 1) (nf x1 (n + 2) (n + 2) (n + 2) x5) (nf m1 (n + 1) (n + 1) (n + 1) m5) st (N' 1) → FoP FL 4 n (n + 1) (n + 1) (N' 4) ∧ (N' 4).st = st → Q N') :
    Run (GL FL) 1 N [msgApp FL 1 2 (n + 1) (n + 1) (n + 1), msgApp FL 1 3 (n + 1) (n + 1) (n + 1), msgApp FL 1 4 (n + 1) (n + 1) (n + 1)] 6 Q := by
  have hs := h.sml
  refine Run.fo (b := 0) (n := n + 1) (c := n + 1) (n' := n + 1) (c' := n + 1) h h2 (by omega) (by omega) (by omega) (by omega) (by omega) (by omega) hn (by omega) (by omega) (by omega) (by omega) (by omega) (fun r2 h2 => ?_)
  refine Run.fo (b := 0) (n := n + 1) (c := n + 1) (n' := n + 1) (c' := n + 1) h (show FoP FL 3 0 (n + 1) (n + 1) (N 3) from h3) (by omega) (by omega) (by omega) (by omega) (by omega) (by omega) hn (by omega) (by omega) (by omega) (by omega) (by omega) (fun r3 h3 => ?_)
  refine Run.foS (b := n) (n := n + 1) (c := n + 1) (n' := n + 1) (c' := n + 1) (st := st) h (show FoP FL 4 n (n + 1) (n + 1) (N 4) ∧ (N 4).st = st from h4) (by omega) (by omega) (by omega) (by omega) (by omega) (by omega) hn (by omega) (by omega) (by omega) (by omega) (by omega) (fun r4 h4 => ?_)
  generalize hN3 : updI (updI (updI N 2 r2) 3 r3) 4 r4 = N3
  replace hld : LdP FL 1 n (n + 1) (n + 1) (nf x1 (n + 2) (n + 2) (n + 2) x5) (nf m1 (n + 1) (n + 1) (n + 1) m5) st (N3 1) := by subst hN3; exact hld
  replace h4 : FoP FL 4 n (n + 1) (n + 1) (N3 4) ∧ (N3 4).st = st := by subst hN3; exact h4
  clear hN3
  show Run _ _ _ [msgDone 2 1 (n + 1), msgDone 3 1 (n + 1), msgDone 4 1 (n + 1)] _ _
  refine Run.ld4 (p := 2) (y2 := n + 2) (y3 := n + 2) (y4 := n + 2) (k2 := n + 1) (k3 := n + 1) (k4 := n + 1) (c' := n + 1) (o := []) h hld (by omega) (by omega) (by omega) hn (by omega) hm (by omega) (by omega) (by omega) (by omega) (by omega) (by omega)
    (by rw [nf2, nf_2, Nat.max_self]) (by rw [nf2, nf_2, Nat.max_self]) (by rw [if_neg (by omega), nf2, if_neg (by omega)]) (fun r1 h1 => ?_)
  refine Run.ld4 (p := 3) (N := updI N3 1 r1) (y2 := n + 2) (y3 := n + 2) (y4 := n + 2) (k2 := n + 1) (k3 := n + 1) (k4 := n + 1) (c' := n + 1) (o := []) h (show LdP _ _ _ _ _ _ _ _ r1 from h1) (by omega) (by omega) (by omega) hn (by omega) hm (by omega) (by omega) (by omega) (by omega) (by omega) (by omega)
    (by rw [nf3, nf_3, Nat.max_self]) (by rw [nf3, nf_3, Nat.max_self]) (by rw [if_neg (by omega), nf3, if_neg (by omega)]) (fun r1' h1' => ?_)
  refine Run.ld4 (p := 4) (N := updI (updI N3 1 r1) 1 r1') (y2 := n + 2) (y3 := n + 2) (y4 := n + 2) (k2 := n + 1) (k3 := n + 1) (k4 := n + 1) (c' := n + 1) (o := []) h (show LdP _ _ _ _ _ _ _ _ r1' from h1') (by omega) (by omega) (by omega) hn (by omega) hm (by omega) (by omega) (by omega) (by omega) (by omega) (by omega)
    (by rw [nf4, nf_4, Nat.max_self]) (by rw [nf4, nf_4, Nat.max_self]) (by rw [if_neg (by omega), nf4, if_neg (by omega)]) (fun r1'' h1'' => ?_)
  exact Run.nil (hQ _ h1'' h4)
end Go.Proofs.Ytdcpeboecmkmlaa
