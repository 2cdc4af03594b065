/-
  A bound on the bulk of what came in bounds the weight of each part: for statements of the second form.
-/
import Derived.Test.YtlalbollbdlfhaaRows
import Derived.Test.YtlalbollbdlfhaaSlOpen
set_option linter.unusedSimpArgs false
set_option linter.unusedVariables false
set_option linter.unusedSectionVars false
namespace Go.Proofs.Ytlalbollbdlfhaa.bulk
open Go.SL
/-- the types of the table are closed, and none is large -/
def typeOk (P : Program) (N C T : Nat) : Bool := Nat.ble (P.bytesOf T) C && match P.underlying T with
  | some (.pointer e) => Nat.blt e N
  | some (.slice e) => Nat.blt e N
  | some (.array _ e) => Nat.blt e N
  | some (.struct fs) => fs.toList.all fun f => Nat.blt f.type N
  | some (.map k e) => Nat.blt k N && Nat.blt e N
  | _ => true
def closedB (P : Program) (N C : Nat) : Bool := (List.range N).all (typeOk P N C)
theorem ble_le {a b : Nat} (h : Nat.ble a b = true) : a ≤ b := Nat.le_of_ble_eq_true h
theorem blt_lt {a b : Nat} (h : Nat.blt a b = true) : a < b := Nat.le_of_ble_eq_true h
section
variable {H : Type} {P : Program} {C N : Nat} (hC1 : 1 ≤ C) (hcl : closedB P N C = true)
theorem typ {T : Nat} (hcl : closedB P N C = true) (h : T < N) : typeOk P N C T = true := List.all_eq_true.1 hcl T (List.mem_range.2 h)
theorem byt {T : Nat} (hcl : closedB P N C = true) (h : T < N) : P.bytesOf T ≤ C := by
  have := typ hcl h
  simp only [typeOk, Bool.and_eq_true] at this
  exact ble_le this.1
theorem one_le (d : DataW H) : 1 ≤ Rows.uptoBulk d := by
  cases d with
  | lit l => cases l <;> simp [Rows.uptoBulk]
  | _ => simp [Rows.uptoBulk]
theorem len_le : ∀ l : List (DataW H), l.length ≤ Rows.uptoBulkAll l
  | [] => by simp [Rows.uptoBulkAll]
  | x :: r => by
    have h1 := one_le x
    have h2 := len_le r
    simp only [Rows.uptoBulkAll, List.length_cons]; omega
theorem lenE_le : ∀ l : List (Lit × DataW H), l.length ≤ Rows.uptoBulkEntries l
  | [] => by simp [Rows.uptoBulkEntries]
  | (a, d) :: r => by
    have h1 : 1 ≤ Rows.uptoBulkEntry (a, d) := by cases a <;> simp [Rows.uptoBulkEntry]
    have h2 := lenE_le r
    simp only [Rows.uptoBulkEntries, List.length_cons]; omega
include hC1 hcl
mutual
theorem w1 : ∀ (d : DataW H) (T : TypeId), T < N → ∀ x ∈ d.weights P T, x ≤ Rows.uptoBulk d * (2 * C)
  | .lit (.string bytes), T => fun hT x hx => by
    simp only [DataW.weights, List.mem_singleton] at hx
    subst hx
    simp only [Rows.uptoBulk]
    exact Nat.le_trans (Nat.le_succ _) (Nat.le_mul_of_pos_right _ (by omega))
  | .lit (.bool _), T => fun hT x hx => by simp [DataW.weights] at hx
  | .lit (.int _ _), T => fun hT x hx => by simp [DataW.weights] at hx
  | .lit (.float _ _), T => fun hT x hx => by simp [DataW.weights] at hx
  | .lit .nil, T => fun hT x hx => by simp [DataW.weights] at hx
  | .nil, T => fun hT x hx => by simp [DataW.weights] at hx
  | .ptr d, T => fun hT x hx => by
    simp only [DataW.weights] at hx
    split at hx
    · rename_i e he
      have hk := typ hcl hT
      simp only [typeOk, he, Bool.and_eq_true] at hk
      exact Nat.le_trans (w1 d _ (blt_lt hk.2) x hx) (Nat.mul_le_mul_right _ (by simp only [Rows.uptoBulk]; omega))
    · cases hx
  | .slice elems spare, T => fun hT x hx => by
    simp only [DataW.weights] at hx
    split at hx
    · rename_i e he
      have hk := typ hcl hT
      simp only [typeOk, he, Bool.and_eq_true] at hk
      have hT := blt_lt hk.2
      rcases List.mem_cons.1 hx with rfl | hx
      · have h1 := len_le elems
        have h2 := len_le spare
        refine Nat.mul_le_mul ?_ (Nat.le_trans (byt hcl hT) (by omega))
        simp only [Rows.uptoBulk]; omega
      · rcases List.mem_append.1 hx with hx | hx
        · exact Nat.le_trans (wAll elems _ hT x hx) (Nat.mul_le_mul_right _ (by simp only [Rows.uptoBulk]; omega))
        · exact Nat.le_trans (wAll spare _ hT x hx) (Nat.mul_le_mul_right _ (by simp only [Rows.uptoBulk]; omega))
    · cases hx
  | .agg parts, T => fun hT x hx => by
    simp only [DataW.weights] at hx
    split at hx
    · rename_i fs he
      have hk := typ hcl hT
      simp only [typeOk, he, Bool.and_eq_true, List.all_eq_true] at hk
      refine Nat.le_trans (wEach parts _ (fun t ht => ?_) x hx) (Nat.mul_le_mul_right _ (by simp only [Rows.uptoBulk]; omega))
      obtain ⟨f, hf, rfl⟩ := List.mem_map.1 ht
      exact blt_lt (hk.2 f hf)
    · rename_i n e he
      have hk := typ hcl hT
      simp only [typeOk, he, Bool.and_eq_true] at hk
      exact Nat.le_trans (wAll parts _ (blt_lt hk.2) x hx) (Nat.mul_le_mul_right _ (by simp only [Rows.uptoBulk]; omega))
    · cases hx
  | .iface _ _, T => fun hT x hx => by simp [DataW.weights] at hx
  | .map entries, T => fun hT x hx => by
    simp only [DataW.weights] at hx
    split at hx
    · rename_i k e he
      have hk := typ hcl hT
      simp only [typeOk, he, Bool.and_eq_true] at hk
      rcases List.mem_cons.1 hx with rfl | hx
      · have h1 := lenE_le entries
        have h2 := byt hcl (blt_lt hk.2.1)
        have h3 := byt hcl (blt_lt hk.2.2)
        refine Nat.mul_le_mul ?_ (by omega)
        simp only [Rows.uptoBulk]; omega
      · exact Nat.le_trans (wEntries entries _ (blt_lt hk.2.2) x hx) (Nat.mul_le_mul_right _ (by simp only [Rows.uptoBulk]; omega))
    · cases hx
  | .held _, T => fun hT x hx => by simp [DataW.weights] at hx
theorem wAll : ∀ (l : List (DataW H)) (T : TypeId), T < N → ∀ x ∈ DataW.weightsAll P T l, x ≤ Rows.uptoBulkAll l * (2 * C)
  | [], _ => fun hT x hx => by simp [DataW.weightsAll] at hx
  | d :: r, T => fun hT x hx => by
    simp only [DataW.weightsAll] at hx
    rcases List.mem_append.1 hx with hx | hx
    · exact Nat.le_trans (w1 d _ hT x hx) (Nat.mul_le_mul_right _ (by simp only [Rows.uptoBulkAll]; omega))
    · exact Nat.le_trans (wAll r _ hT x hx) (Nat.mul_le_mul_right _ (by simp only [Rows.uptoBulkAll]; omega))
theorem wEach : ∀ (l : List (DataW H)) (ts : List TypeId), (∀ t ∈ ts, t < N) → ∀ x ∈ DataW.weightsEach P ts l, x ≤ Rows.uptoBulkAll l * (2 * C)
  | [], ts => fun hT x hx => by cases ts <;> simp [DataW.weightsEach] at hx
  | d :: r, [] => fun hT x hx => by simp [DataW.weightsEach] at hx
  | d :: r, t :: ts => fun hT x hx => by
    simp only [DataW.weightsEach] at hx
    rcases List.mem_append.1 hx with hx | hx
    · exact Nat.le_trans (w1 d _ (hT t (List.mem_cons_self ..)) x hx) (Nat.mul_le_mul_right _ (by simp only [Rows.uptoBulkAll]; omega))
    · exact Nat.le_trans (wEach r ts (fun t ht => hT t (List.mem_cons_of_mem _ ht)) x hx) (Nat.mul_le_mul_right _ (by simp only [Rows.uptoBulkAll]; omega))
theorem wEntries : ∀ (l : List (Lit × DataW H)) (T : TypeId), T < N → ∀ x ∈ DataW.weightsEntries P T l, x ≤ Rows.uptoBulkEntries l * (2 * C)
  | [], _ => fun hT x hx => by simp [DataW.weightsEntries] at hx
  | d :: r, T => fun hT x hx => by
    simp only [DataW.weightsEntries] at hx
    rcases List.mem_append.1 hx with hx | hx
    · exact Nat.le_trans (wEntry d _ hT x hx) (Nat.mul_le_mul_right _ (by simp only [Rows.uptoBulkEntries]; omega))
    · exact Nat.le_trans (wEntries r _ hT x hx) (Nat.mul_le_mul_right _ (by simp only [Rows.uptoBulkEntries]; omega))
theorem wEntry : ∀ (d : Lit × DataW H) (T : TypeId), T < N → ∀ x ∈ DataW.weightsEntry P T d, x ≤ Rows.uptoBulkEntry d * (2 * C)
  | (.string bytes, d), T => fun hT x hx => by
    simp only [DataW.weightsEntry] at hx
    rcases List.mem_cons.1 hx with rfl | hx
    · simp only [Rows.uptoBulkEntry]
      exact Nat.le_trans (show bytes.length ≤ bytes.length + Rows.uptoBulk d + 1 by omega) (Nat.le_mul_of_pos_right _ (by omega))
    · exact Nat.le_trans (w1 d _ hT x hx) (Nat.mul_le_mul_right _ (by simp only [Rows.uptoBulkEntry]; omega))
  | (.bool _, d), T => fun hT x hx => Nat.le_trans (w1 d T hT x (by simpa only [DataW.weightsEntry] using hx)) (Nat.mul_le_mul_right _ (by simp only [Rows.uptoBulkEntry]; omega))
  | (.int _ _, d), T => fun hT x hx => Nat.le_trans (w1 d T hT x (by simpa only [DataW.weightsEntry] using hx)) (Nat.mul_le_mul_right _ (by simp only [Rows.uptoBulkEntry]; omega))
  | (.float _ _, d), T => fun hT x hx => Nat.le_trans (w1 d T hT x (by simpa only [DataW.weightsEntry] using hx)) (Nat.mul_le_mul_right _ (by simp only [Rows.uptoBulkEntry]; omega))
  | (.nil, d), T => fun hT x hx => Nat.le_trans (w1 d T hT x (by simpa only [DataW.weightsEntry] using hx)) (Nat.mul_le_mul_right _ (by simp only [Rows.uptoBulkEntry]; omega))
end
theorem small {ds : List (DataW H)} {ts : List TypeId} (hts : ∀ t ∈ ts, t < N) (hk : Rows.uptoSmall H ds = true) : (DataW.weightsEach P ts ds).all (· ≤ 1048576 * (2 * C)) = true := by
  have h : Rows.uptoBulkAll ds ≤ 1048576 := of_decide_eq_true hk
  rw [List.all_eq_true]
  intro x hx
  exact decide_eq_true (Nat.le_trans (wEach hC1 hcl ds ts hts x hx) (Nat.mul_le_mul_right _ h))
end
end Go.Proofs.Ytlalbollbdlfhaa.bulk
