/-
  Parts of one list: logs that are such parts.
-/
-- S3
import Derived.Test.YtdcpeboecmkmlaaPE
set_option linter.unusedSimpArgs false
set_option linter.unusedVariables false
namespace Go.Proofs.Ytdcpeboecmkmlaa
open Go.SL
set_option maxRecDepth 10000

def baseT (b : Nat) : Int := if b = 0 then 0 else 1
/-- the part of a list behind 'b' up to 'n', as a log; 'c' are committed -/
def LGof (FL : List LE) (b n c : Nat) : LG := ⟨b, baseT b, memOf [1, 2, 3] (FL.take b), (FL.take n).drop b, c⟩
structure FLok (FL : List LE) : Prop where
  fol : followB 0 0 FL = true
  trm : ∀ e ∈ FL, e.term = 1
  sml : FL.length ≤ 60
  dat : ∀ e ∈ FL, e.data.length ≤ 10
variable {FL : List LE} {b n c i : Nat}
theorem ltm_one {t : Int} : ∀ {l : List LE}, (∀ e ∈ l, e.term = 1) → ltm t l = if l = [] then t else 1
  | [], _ => rfl
  | e :: r, h => by
    rw [ltm, ltm_one (fun x hx => h x (List.mem_cons_of_mem _ hx)), h e (List.mem_cons_self ..)]
    simp
theorem FLok.base (h : FLok FL) (hn : n ≤ FL.length) : ltm 0 (FL.take n) = baseT n := by
  rw [ltm_one (fun e he => h.trm e (List.mem_of_mem_take he)), baseT]
  by_cases h0 : n = 0
  · subst h0; simp
  · rw [if_neg, if_neg h0]
    intro e
    have : (FL.take n).length = 0 := by rw [e]; rfl
    rw [List.length_take] at this
    omega
theorem lg_len (hb : b ≤ n) (hn : n ≤ FL.length) : ((FL.take n).drop b).length = n - b := by rw [List.length_drop, List.length_take]; omega
theorem lg_last (hb : b ≤ n) (hn : n ≤ FL.length) : lastI (LGof FL b n c) = n := by
  simp only [lastI, LGof, lg_len hb hn]; omega
theorem FLok.part (h : FLok FL) (hb : b ≤ n) (hn : n ≤ FL.length) : followB b (baseT b) ((FL.take n).drop b) = true := by
  have e : FL.take b ++ ((FL.take n).drop b ++ FL.drop n) = FL := by
    rw [← List.append_assoc]
    conv => rhs; rw [← List.take_append_drop n FL]
    congr 1
    conv => rhs; rw [← List.take_append_drop b (FL.take n)]
    congr 1
    rw [List.take_take, Nat.min_eq_left hb]
  have hf := h.fol
  rw [← e, followB_append, followB_append, h.base (by omega), List.length_take, Nat.min_eq_left (by omega)] at hf
  simp only [Bool.and_eq_true] at hf
  have := hf.2.1
  simpa using this
theorem lg_at (h : FLok FL) (hb : b < i) (hi : i ≤ n) (hn : n ≤ FL.length) : entAt (LGof FL b n c) i = some (FL[i - 1]'(by omega)) := by
  have hl := lg_last (c := c) (b := b) (n := n) (by omega) hn
  unfold entAt
  rw [if_pos ⟨by simp only [LGof]; omega, by rw [hl]; omega⟩]
  congr 1
  have := geti_some (l := (LGof FL b n c).es) (i := (i : Int) - (LGof FL b n c).index - 1) (by simp only [LGof]; omega) (by simp only [LGof, lg_len (by omega : b ≤ n) hn]; omega)
  have h2 : (LGof FL b n c).es[((i : Int) - (LGof FL b n c).index - 1).toNat]? = some (FL[i - 1]'(by omega)) := by
    simp only [LGof]
    rw [List.getElem?_drop, List.getElem?_take_of_lt (by omega), List.getElem?_eq_getElem (by omega)]
    congr 2
    omega
  rw [h2] at this
  exact (Option.some.inj this).symm
theorem lg_term (h : FLok FL) (hb : b ≤ i) (hi : i ≤ n) (hn : n ≤ FL.length) : termAt (LGof FL b n c) i = (baseT i, 0) := by
  unfold termAt
  by_cases e : i = b
  · subst e; rw [if_pos (show (i : Int) = (LGof FL i n c).index from rfl)]; rfl
  · rw [if_neg (by simp only [LGof]; omega), lg_at h (by omega) hi hn]
    simp only
    rw [h.trm _ (List.getElem_mem _), baseT, if_neg (by omega)]
theorem lg_mems (hb : b ≤ n) : memOf (LGof FL b n c).mem (LGof FL b n c).es = memOf [1, 2, 3] (FL.take n) := by
  simp only [LGof]
  rw [← memOf_append]
  congr 1
  conv => rhs; rw [← List.take_append_drop b (FL.take n)]
  rw [List.take_take, Nat.min_eq_left hb]
theorem lg_slice (h : FLok FL) (hb : b ≤ i) (hi : i ≤ n) (hn : n ≤ FL.length) : sliceAt (LGof FL b n c) ((i : Int) + 1) 64 = (FL.take n).drop i := by
  have hl := lg_last (c := c) (b := b) (n := n) (by omega) hn
  have hs := h.sml
  unfold sliceAt
  rw [hl]
  by_cases e : i = n
  · subst e
    rw [if_neg (by omega), List.drop_of_length_le (by rw [List.length_take]; omega)]
  · rw [if_pos ⟨by simp only [LGof]; omega, by omega, by omega⟩]
    simp only [LGof]
    rw [show ((i : Int) + 1 - (b : Int) - 1).toNat = i - b by omega, List.drop_drop, show b + (i - b) = i by omega]
    exact List.take_of_length_le (by rw [List.length_drop, List.length_take]; simp; omega)
theorem lg_ltm (h : FLok FL) (hb : b ≤ n) (hn : n ≤ FL.length) : lastT (LGof FL b n c) = baseT n := by
  have hl := lg_len hb hn
  show ltm (baseT b) ((FL.take n).drop b) = baseT n
  rw [ltm_one (fun e he => h.trm e (List.mem_of_mem_take (List.mem_of_mem_drop he)))]
  by_cases e : n = b
  · subst e
    rw [if_pos (List.eq_nil_of_length_eq_zero (by rw [hl]; omega))]
  · rw [if_neg (by intro e2; rw [e2] at hl; simp at hl; omega), baseT, if_neg (by omega)]
theorem lg_wf (h : FLok FL) (hb : b ≤ c) (hc : c ≤ n) (hn : n ≤ FL.length) : WF (LGof FL b n c) := by
  have hs := h.sml
  have hl := lg_last (c := c) (b := b) (n := n) (by omega) hn
  have hmb : memB [1, 2, 3] = true := rfl
  refine ⟨by simp [LGof, countB]; omega, by simp only [LGof, countB, baseT]; split <;> simp, ?_, ?_, h.part (by omega) hn, ⟨by simp only [LGof]; omega, by rw [hl]; simp only [LGof]; omega⟩, ?_⟩
  · have hf := h.part (FL := FL) (b := 0) (n := b) (by omega) (by omega)
    simp only [List.drop_zero] at hf
    exact memOf_ok hmb hf
  · simp only [LGof, baseT]; split <;> omega
  · simp only [LGof, lg_len (by omega : b ≤ n) hn]; omega
theorem lg_settle (hb : b ≤ n) (hn : n ≤ FL.length) (hi : i ≤ n) : settleG (LGof FL b n c) i = (0, LGof FL b n (max c i)) := by
  unfold settleG
  rw [lg_last hb hn, if_neg (by omega)]
  simp only [LGof]
  congr 2
  omega
/-- the next entry is added -/
theorem lg_add (h : FLok FL) (hb : b ≤ n) (hn : n < FL.length) : addG (LGof FL b n c) 1 FL[n].kind FL[n].data = ((n : Int) + 1, 0, LGof FL b (n + 1) c) := by
  have hf := h.part (FL := FL) (b := n) (n := n + 1) (by omega) (by omega)
  have he : (FL.take (n + 1)).drop n = [FL[n]] := by
    rw [List.drop_take, show n + 1 - n = 1 by omega, List.drop_eq_getElem_cons hn, List.take_succ_cons, List.take_zero]
  rw [he] at hf
  have hf2 := hf
  simp only [followB, Bool.and_eq_true, decide_eq_true_eq] at hf2
  have heq : FL[n] = ⟨(n : Int) + 1, 1, FL[n].kind, FL[n].data⟩ := by
    have h1 := hf2.1.1.2
    have h2 := h.trm FL[n] (List.getElem_mem _)
    cases hq : FL[n]
    rw [hq] at h1 h2
    simp only at h1 h2
    subst h1 h2; rfl
  unfold addG
  rw [lg_last hb (by omega), lg_ltm h hb (by omega), ← heq, hf, if_pos rfl]
  simp only [LGof]
  congr 3
  rw [← he]
  conv => lhs; rw [show (FL.take n).drop b = ((FL.take (n + 1)).take n).drop b by rw [List.take_take, Nat.min_eq_left (by omega)]]
  rw [List.drop_take]
  conv => rhs; rw [← List.take_append_drop (n - b) ((FL.take (n + 1)).drop b)]
  rw [List.drop_drop, show b + (n - b) = n by omega]
theorem FLok.idx (h : FLok FL) {i : Nat} (hi : i < FL.length) : FL[i].index = (i : Int) + 1 := by
  have hf := h.part (FL := FL) (b := i) (n := i + 1) (by omega) (by omega)
  rw [List.drop_take, show i + 1 - i = 1 by omega, List.drop_eq_getElem_cons hi, List.take_succ_cons, List.take_zero] at hf
  simp only [followB, Bool.and_eq_true, decide_eq_true_eq] at hf
  exact hf.1.1.2
theorem lg_offW (h : FLok FL) {j : Nat} (hn : n ≤ FL.length) (hj : j ≤ FL.length) : ∀ (k i : Nat), i + k = j → b ≤ i → i ≤ n → offW (LGof FL b n c) ((FL.take j).drop i) = some (LGof FL b (max n j) c)
  | 0, i, hk, hb, hi => by
    rw [List.drop_of_length_le (by rw [List.length_take]; omega), offW, Nat.max_eq_left (by omega)]
  | k + 1, i, hk, hb, hi => by
    have hil : i < (FL.take j).length := by rw [List.length_take]; omega
    have hit : (FL.take j)[i] = FL[i]'(by omega) := by rw [List.getElem_take]
    rw [List.drop_eq_getElem_cons hil, hit, offW]
    have hx := h.idx (i := i) (by omega)
    by_cases e : i < n
    · rw [show (FL[i]'(by omega)).index = ((i + 1 : Nat) : Int) by rw [hx]; rfl, lg_at h (by omega) (by omega) hn]
      simp only [Nat.add_sub_cancel]
      rw [if_pos trivial]
      exact lg_offW h hn hj k (i + 1) (by omega) (by omega) (by omega)
    · obtain rfl : i = n := by omega
      have hl := lg_last (c := c) hb hn
      have hne : entAt (LGof FL b i c) (FL[i]'(by omega)).index = none := by
        unfold entAt; rw [hl, if_neg (by omega)]
      rw [hne]
      simp only
      congr 1
      rw [hx, ← hit, ← List.drop_eq_getElem_cons hil, Nat.max_eq_right (by omega)]
      simp only [LGof]
      congr 1
      rw [List.take_of_length_le (by rw [lg_len hb hn]; omega)]
      conv => lhs; rw [show (FL.take i).drop b = ((FL.take j).take i).drop b by rw [List.take_take, Nat.min_eq_left (by omega)]]
      rw [List.drop_take]
      conv => rhs; rw [← List.take_append_drop (i - b) ((FL.take j).drop b)]
      rw [List.drop_drop, show b + (i - b) = i by omega]
/-- what follows is offered -/
theorem lg_offer (h : FLok FL) {j : Nat} (hb : b ≤ i) (hi : i ≤ n) (hn : n ≤ FL.length) (hij : i ≤ j) (hj : j ≤ FL.length) : offerG (LGof FL b n c) i (baseT i) ((FL.take j).drop i) = ((j : Int), true, 0, LGof FL b (max n j) c) := by
  have hs := h.sml
  unfold offerG
  rw [if_neg, if_neg (by simp only [LGof]; omega), if_pos (lg_term h hb hi hn)]
  · unfold off2
    rw [lg_offW h hn hj (j - i) i (by omega) hb hi]
    simp only [lg_len hij hj]
    congr 1
    omega
  · rw [h.part hij hj]
    simp only [countB, baseT]
    split <;> simp <;> omega
/-- the log is cut off -/
theorem lg_cut (h : FLok FL) {k : Nat} (hb : b ≤ k) (hk : k ≤ c) (hc : c ≤ n) (hn : n ≤ FL.length) : cutG (LGof FL b n c) k = (0, LGof FL k n c) := by
  have hl := lg_last (c := c) (b := b) (n := n) (by omega) hn
  unfold cutG
  rw [if_neg (by simp only [LGof]; omega), lg_term h hb (by omega) hn]
  unfold mAt
  rw [if_pos ⟨by simp only [LGof]; omega, by rw [hl]; omega⟩]
  simp only [LGof]
  rw [show ((k : Int) - (b : Int)).toNat = k - b by omega]
  congr 2
  · rw [← memOf_append]
    congr 1
    rw [List.take_drop, show b + (k - b) = k by omega, List.take_take, Nat.min_eq_left (by omega)]
    conv => rhs; rw [← List.take_append_drop b (FL.take k)]
    rw [List.take_take, Nat.min_eq_left hb]
  · rw [List.drop_drop, show b + (k - b) = k by omega]
/-- a state is taken -/
theorem lg_reset (h : FLok FL) {k : Nat} (hk : 1 ≤ k) (hkl : k ≤ FL.length) : resetG (newG [1, 2, 3]) k (baseT k) (memOf [1, 2, 3] (FL.take k)) = (0, LGof FL k k k) := by
  have hw := lg_wf (b := k) (c := k) (n := k) h (Nat.le_refl _) (Nat.le_refl _) hkl
  have hs := h.sml
  have hp : pointB k (baseT k) (memOf [1, 2, 3] (FL.take k)) = true := by
    simp only [pointB, Bool.and_eq_true]
    refine ⟨⟨⟨?_, ?_⟩, hw.mem⟩, ?_⟩
    · simp [countB]; omega
    · rw [baseT, if_neg (by omega)]; rfl
    · rw [baseT, if_neg (by omega)]
      have : ((k : Int) == 0) = false := by simp; omega
      rw [this]; rfl
  unfold resetG
  rw [hp, if_neg (by simp), if_neg (by simp only [newG]; omega), if_neg]
  · simp only [LGof]
    rw [List.drop_of_length_le (by rw [List.length_take]; omega)]
  · intro e
    have := termAt_ok e
    simp [newG, lastI] at this
    omega
end Go.Proofs.Ytdcpeboecmkmlaa
