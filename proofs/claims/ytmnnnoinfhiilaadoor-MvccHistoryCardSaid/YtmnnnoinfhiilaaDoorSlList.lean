/-
  Lists that can be read, loops that count.
-/
import Derived.Test.YtmnnnoinfhiilaaDoorSlWalk
set_option linter.unusedSimpArgs false
set_option linter.unusedVariables false
set_option linter.unusedSectionVars false
namespace Go.SL
theorem Gd_tt (A B : M) : Gd (.bool true) true A B = A := rfl
theorem Gd_ft (A B : M) : Gd (.bool false) true A B = B := rfl
theorem Gd_tf (A B : M) : Gd (.bool true) false A B = B := rfl
theorem Gd_ff (A B : M) : Gd (.bool false) false A B = A := rfl
/-! ### Blocks among blocks -/
class LSub (L L' : LH) : Prop where
  sub : ∀ x ∈ L, x ∈ L'
instance (priority := 100) lsubRefl (L : LH) : LSub L L := ⟨fun _ h => h⟩
instance (priority := 110) lsubNil (L : LH) : LSub [] L := ⟨fun _ h => by cases h⟩
instance (priority := 90) lsubCons (L L' : LH) (y : Nat × Obj) [h : LSub L L'] : LSub L (y :: L') := ⟨fun x hx => List.mem_cons_of_mem _ (h.sub x hx)⟩
instance (priority := 90) lsubApp (L A L' : LH) [h : LSub L L'] : LSub L (A ++ L') := ⟨fun x hx => List.mem_append_right _ (h.sub x hx)⟩
instance (priority := 80) lsubAppL (L A L' : LH) [h : LSub L A] : LSub L (A ++ L') := ⟨fun x hx => List.mem_append_left _ (h.sub x hx)⟩
/-! ### Reads by what is known of cells, whatever lies on top -/
section readsC
variable {I I0 I1 : Imm} {L L0 X : LH} {K : Value → M} {b off n : Nat} {v : Value}
theorem Cells.mono {vs : List Value} (h : Cells I0 L0 b off vs) (hI : Ext I0 I) (hL : ∀ x ∈ L0, x ∈ L) : Cells I L b off vs := fun j u hu => (h j u hu).mono hI hL
theorem Cells.sub {vs : List Value} {k m : Nat} (h : Cells I L b off vs) : Cells I L b (off + k) ((vs.drop k).take m) := fun j u hu => by
  rw [List.getElem?_take] at hu
  split at hu
  · rw [List.getElem?_drop] at hu
    have := h (k + j) u hu
    rwa [← Nat.add_assoc] at this
  · cases hu
theorem rdC [hl : LSub L0 L] (hc : Cell I0 L0 b off v) (hI : Ext I0 I) (hk : K v I L) : Rv none (ld1R (.pointer (some ⟨b, off, none⟩))) K I L := rd1 (hc.mono hI hl.sub) hk
theorem rdCS [hl : LSub L0 X] (hc : Cell I0 L0 b off v) (hI : Ext I0 I1) (hk : K v I L) : Rv (some (Stay I1 X)) (ld1R (.pointer (some ⟨b, off, none⟩))) K I L := rd1I (hc.mono hI hl.sub) hk
theorem rdNC [hl : LSub L0 L] {vs : List Value} (hc : Cells I0 L0 b off vs) (hI : Ext I0 I) (hn : vs.length = n) (hk : K (.agg vs.toArray) I L) : Rv none (ldNR n (.pointer (some ⟨b, off, none⟩))) K I L := rdN hn (hc.mono hI hl.sub) hk
theorem rdNCS [hl : LSub L0 X] {vs : List Value} (hc : Cells I0 L0 b off vs) (hI : Ext I0 I1) (hn : vs.length = n) (hk : K (.agg vs.toArray) I L) : Rv (some (Stay I1 X)) (ldNR n (.pointer (some ⟨b, off, none⟩))) K I L := rdNI hn (hc.mono hI hl.sub) hk
theorem keepC [hl : LSub X L] (hI : Ext I0 I) (hk : K v I L) : Keep (Stay I0 X) K v I L := keepS hI hl.sub hk
theorem drawC {B : M → M} (h : B (Stay I L) I L) : Draw B I L := draw _ (Stay.start I L) h
end readsC
/-! ### Elements by a whole number -/
def geti {α : Type} [Inhabited α] (l : List α) (i : Int) : α := l.getD i.toNat default
theorem geti_nat {α : Type} [Inhabited α] {l : List α} {k : Nat} (h : k < l.length) : geti l (k : Int) = l[k] := by
  simp [geti, List.getD, h]
theorem geti_some {α : Type} [Inhabited α] {l : List α} {i : Int} (h0 : 0 ≤ i) (h1 : i < l.length) : l[i.toNat]? = some (geti l i) := by
  have : i.toNat < l.length := by omega
  simp [geti, List.getD, this]
theorem ixV_int (b off n : Nat) (k : IntKind) (len cap : Nat) (i : Int) (h0 : 0 ≤ i) (h1 : i < len) : ixV n (.slice (some ⟨b, off, none⟩) len cap) (.int k i) = some (.pointer (some ⟨b, off + i.toNat * n, none⟩)) := by
  simp only [ixV]; rw [if_pos ⟨h0, h1⟩]
theorem News.ix {I : Imm} {L : LH} {n m : Nat} {a : Option Addr} {cap : Nat} {cells : List Value} (h : News n (.slice a m cap) I L m cells) (k : IntKind) {i : Int} (h0 : 0 ≤ i) (h1 : i < m) :
    ∃ b off, ixV n (.slice a m cap) (.int k i) = some (.pointer (some ⟨b, off, none⟩)) ∧ ∀ I' L', Ext I I' → (∀ x ∈ L, x ∈ L') → Cells I' L' b off ((cells.drop (i.toNat * n)).take n) := by
  rcases h with ⟨a', cap', h2, h3, _⟩ | ⟨b, off, cap', h2, hl, hc⟩ | ⟨s, h2, _⟩
  · omega
  · simp only [Value.slice.injEq] at h2
    obtain ⟨rfl, _, rfl⟩ := h2
    refine ⟨b, off + i.toNat * n, ixV_int b off n k m cap i h0 h1, fun I' L' hI hL j u hu => ?_⟩
    rw [List.getElem?_take] at hu
    split at hu
    · rw [List.getElem?_drop] at hu
      have := (hc _ u hu).mono hI hL
      rwa [← Nat.add_assoc] at this
    · cases hu
  · cases h2
def RL {α : Type} (R : Imm → α → List Value → Prop) (n : Nat) (I : Imm) (L : LH) (v : Value) (xs : List α) : Prop :=
  ∃ a cap cells, v = .slice a xs.length cap ∧ xs.length ≤ cap ∧ News n v I L xs.length cells ∧ Recs (R I) n xs cells
section rl
variable {α : Type} {R : Imm → α → List Value → Prop} {n : Nat} {I I' : Imm} {L L' : LH} {v : Value} {xs : List α}
theorem RL.len (h : RL R n I L v xs) : lenV v = some (.int .i64 xs.length) := by
  obtain ⟨a, cap, cells, rfl, _⟩ := h; rfl
theorem RL.form (h : RL R n I L v xs) : ∃ a cap, v = .slice a xs.length cap := by
  obtain ⟨a, cap, cells, rfl, _⟩ := h; exact ⟨a, cap, rfl⟩
theorem News.mono {m : Nat} {news : List Value} (h : News n v I L m news) (hI : Ext I I') (hL : ∀ x ∈ L, x ∈ L') : News n v I' L' m news := by
  rcases h with h | ⟨b, off, cap, h1, h2, h3⟩ | h
  · exact .inl h
  · exact .inr (.inl ⟨b, off, cap, h1, h2, fun j u hu => (h3 j u hu).mono hI hL⟩)
  · exact .inr (.inr h)
theorem RL.mono (hR : ∀ x c, R I x c → R I' x c) (h : RL R n I L v xs) (hI : Ext I I') (hL : ∀ x ∈ L, x ∈ L') : RL R n I' L' v xs := by
  obtain ⟨a, cap, cells, hv, hc, hn, hr⟩ := h
  exact ⟨a, cap, cells, hv, hc, hn.mono hI hL, hr.imp hR⟩
theorem RL.ofI {cells : List Value} (h : SlI I n v cells xs.length) (hr : Recs (R I) n xs cells) : RL R n I L v xs := by
  have hn := SlI.news (L := L) h
  obtain ⟨_, a, cap, hv, hle, _⟩ := h
  exact ⟨a, cap, cells, hv, hle, hn, hr⟩
theorem RL.nil (a : Option Addr) (cap : Nat) : RL R n I L (.slice a 0 cap) [] := ⟨a, cap, [], rfl, Nat.zero_le _, .inl ⟨a, cap, rfl, rfl, rfl⟩, rfl⟩
theorem RL.ix [Inhabited α] (h : RL R n I L v xs) {i : Int} (h0 : 0 ≤ i) (h1 : i < xs.length) :
    ∃ b off c, ixV n v (.int .i64 i) = some (.pointer (some ⟨b, off, none⟩)) ∧ c.length = n ∧ R I (geti xs i) c ∧ ∀ I' L', Ext I I' → (∀ x ∈ L, x ∈ L') → Cells I' L' b off c := by
  obtain ⟨a, cap, cells, rfl, _, hn, hr⟩ := h
  obtain ⟨b, off, hix, hc⟩ := News.ix hn .i64 h0 h1
  obtain ⟨g1, g2⟩ := hr.get (geti_some h0 h1)
  exact ⟨b, off, _, hix, g1, g2, hc⟩
theorem RL.part (h : RL R n I L v xs) {lo hi : Nat} (h1 : lo ≤ hi) (h2 : hi ≤ xs.length) (blo bhi : Option Value) (hlo : bndV blo 0 hi = some lo) (hhi : ∀ cap, xs.length ≤ cap → bndV bhi xs.length cap = some hi) :
    ∃ v', slcV n v blo bhi none = some v' ∧ RL R n I L v' ((xs.drop lo).take (hi - lo)) := by
  obtain ⟨a, cap, cells, rfl, hcap, hn, hr⟩ := h
  have hb1 := hhi cap hcap
  have hlen : ((xs.drop lo).take (hi - lo)).length = hi - lo := by rw [List.length_take, List.length_drop]; omega
  refine ⟨.slice (if cap = lo then a else a.map (·.add (lo * n))) (hi - lo) (cap - lo), ?_, _, cap - lo, (cells.drop (lo * n)).take ((hi - lo) * n), by rw [hlen], by rw [hlen]; omega, ?_, ?_⟩
  · simp only [slcV]
    rw [if_neg (by simp)]
    simp only [bndV] at hb1 hlo ⊢
    simp [hb1, hlo]
  · rw [hlen]
    by_cases h0 : hi - lo = 0
    · rw [h0]; exact .inl ⟨_, _, rfl, rfl, by simp⟩
    · rcases hn with ⟨a', cap', e1, e2, _⟩ | ⟨b, off, cap', e1, hl, hc⟩ | ⟨s, e1, _⟩
      · omega
      · simp only [Value.slice.injEq] at e1
        obtain ⟨rfl, _, rfl⟩ := e1
        refine .inr (.inl ⟨b, off + lo * n, cap - lo, by rw [if_neg (by omega)]; simp [add_none], ?_, fun j u hu => ?_⟩)
        · rw [List.length_take, List.length_drop, hl]
          apply Nat.min_eq_left
          rw [← Nat.sub_mul]
          exact Nat.mul_le_mul_right n (by omega)
        · rw [List.getElem?_take] at hu
          split at hu
          · rw [List.getElem?_drop] at hu
            have := hc _ u hu
            rwa [← Nat.add_assoc] at this
          · cases hu
      · cases e1
  · exact (hr.drop lo).take (hi - lo)
end rl
/-! ### Lists that grow: owned ones, and unowned ones without room -/
def GrO (I : Imm) (T n : Nat) (X : LH) (v : Value) (cells : List Value) (len : Nat) : Prop :=
  SlO T n X v cells len ∨ (X = [] ∧ (∃ a, v = .slice a len len) ∧ SlI I n v cells len)
theorem GrO.mono {I I' : Imm} {T n : Nat} {X : LH} {v : Value} {cells : List Value} {len : Nat} (h : GrO I T n X v cells len) (hI : Ext I I') : GrO I' T n X v cells len := by
  rcases h with h | ⟨h1, h2, h3⟩
  · exact .inl h
  · exact .inr ⟨h1, h2, h3.mono hI⟩
theorem GrO.news {I : Imm} {T n len : Nat} {X F : LH} {v : Value} {cells : List Value} (h : GrO I T n X v cells len) (hF : ∀ x ∈ X, x ∈ F) : News n v I F len cells := by
  rcases h with h | ⟨h1, h2, h3⟩
  · exact h.news hF
  · exact SlI.news h3
theorem GrO.form {I : Imm} {T n len : Nat} {X : LH} {v : Value} {cells : List Value} (h : GrO I T n X v cells len) : ∃ a cap, v = .slice a len cap ∧ len ≤ cap := by
  rcases h with h | ⟨h1, ⟨a, h2⟩, h3⟩
  · obtain ⟨_, h⟩ := h
    rcases h with ⟨_, rfl, a, rfl⟩ | ⟨b, cap, cs, _, rfl, _, hle, _⟩
    · exact ⟨a, 0, rfl, Nat.le_refl _⟩
    · exact ⟨_, cap, rfl, hle⟩
  · exact ⟨a, len, h2, Nat.le_refl _⟩
theorem GrO.freeze {A : M} {I : Imm} {T n len : Nat} {X F : LH} {v : Value} {cells : List Value} (h : GrO I T n X v cells len) (hk : ∀ I', Ext I I' → SlI I' n v cells len → Gh A I' F) : Gh A I (X ++ F) := by
  rcases h with h | ⟨rfl, _, h3⟩
  · exact SlO.freeze h hk
  · exact hk I (Ext.refl I) h3
/-! ### Elements that are set -/
end Go.SL
