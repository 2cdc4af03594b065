/-
  Lists that can be read, loops that count.
-/
import Derived.Test.YtmnnnoinfhiilaaDoorSlWalk
set_option linter.unusedSimpArgs false
set_option linter.unusedVariables false
set_option linter.unusedSectionVars false
namespace Go.SL

theorem Gd_tt (A B : M) : Gd (.bool true) true A B = A := rfl
theorem Gd_ft (A B : M) : Gd (.bool false) true A B = B := rfl
theorem Gd_tf (A B : M) : Gd (.bool true) false A B = B := rfl
theorem Gd_ff (A B : M) : Gd (.bool false) false A B = A := rfl
/-! ### Blocks among blocks -/
class LSub (L L' : LH) : Prop where
  sub : ∀ x ∈ L, x ∈ L'
instance (priority := 100) lsubRefl (L : LH) : LSub L L := ⟨fun _ h => h⟩
instance (priority := 110) lsubNil (L : LH) : LSub [] L := ⟨fun _ h => by cases h⟩
instance (priority := 90) lsubCons (L L' : LH) (y : Nat × Obj) [h : LSub L L'] : LSub L (y :: L') := ⟨fun x hx => List.mem_cons_of_mem _ (h.sub x hx)⟩
instance (priority := 90) lsubApp (L A L' : LH) [h : LSub L L'] : LSub L (A ++ L') := ⟨fun x hx => List.mem_append_right _ (h.sub x hx)⟩
instance (priority := 80) lsubAppL (L A L' : LH) [h : LSub L A] : LSub L (A ++ L') := ⟨fun x hx => List.mem_append_left _ (h.sub x hx)⟩

/-! ### Reads by what is known of cells, whatever lies on top -/
section readsC
variable {I I0 I1 : Imm} {L L0 X : LH} {K : Value → M} {b off n : Nat} {v : Value}
theorem Cells.mono {vs : List Value} (h : Cells I0 L0 b off vs) (hI : Ext I0 I) (hL : ∀ x ∈ L0, x ∈ L) : Cells I L b off vs := fun j u hu => (h j u hu).mono hI hL
theorem Cells.sub {vs : List Value} {k m : Nat} (h : Cells I L b off vs) : Cells I L b (off + k) ((vs.drop k).take m) := fun j u hu => by
  rw [List.getElem?_take] at hu
  split at hu
  · rw [List.getElem?_drop] at hu
    have := h (k + j) u hu
    rwa [← Nat.add_assoc] at this
  · cases hu
theorem rdC [hl : LSub L0 L] (hc : Cell I0 L0 b off v) (hI : Ext I0 I) (hk : K v I L) : Rv none (ld1R (.pointer (some ⟨b, off, none⟩))) K I L := rd1 (hc.mono hI hl.sub) hk
theorem rdCS [hl : LSub L0 X] (hc : Cell I0 L0 b off v) (hI : Ext I0 I1) (hk : K v I L) : Rv (some (Stay I1 X)) (ld1R (.pointer (some ⟨b, off, none⟩))) K I L := rd1I (hc.mono hI hl.sub) hk
theorem rdNC [hl : LSub L0 L] {vs : List Value} (hc : Cells I0 L0 b off vs) (hI : Ext I0 I) (hn : vs.length = n) (hk : K (.agg vs.toArray) I L) : Rv none (ldNR n (.pointer (some ⟨b, off, none⟩))) K I L := rdN hn (hc.mono hI hl.sub) hk
theorem rdNCS [hl : LSub L0 X] {vs : List Value} (hc : Cells I0 L0 b off vs) (hI : Ext I0 I1) (hn : vs.length = n) (hk : K (.agg vs.toArray) I L) : Rv (some (Stay I1 X)) (ldNR n (.pointer (some ⟨b, off, none⟩))) K I L := rdNI hn (hc.mono hI hl.sub) hk
theorem keepC [hl : LSub X L] (hI : Ext I0 I) (hk : K v I L) : Keep (Stay I0 X) K v I L := keepS hI hl.sub hk
theorem drawC {B : M → M} (h : B (Stay I L) I L) : Draw B I L := draw _ (Stay.start I L) h
end readsC

/-! ### Elements by a whole number -/
def geti {α : Type} [Inhabited α] (l : List α) (i : Int) : α := l.getD i.toNat default
theorem geti_nat {α : Type} [Inhabited α] {l : List α} {k : Nat} (h : k < l.length) : geti l (k : Int) = l[k] := by
  simp [geti, List.getD, h]
theorem geti_some {α : Type} [Inhabited α] {l : List α} {i : Int} (h0 : 0 ≤ i) (h1 : i < l.length) : l[i.toNat]? = some (geti l i) := by
  have : i.toNat < l.length := by omega
  simp [geti, List.getD, this]

theorem ixV_int (b off n : Nat) (k : IntKind) (len cap : Nat) (i : Int) (h0 : 0 ≤ i) (h1 : i < len) : ixV n (.slice (some ⟨b, off, none⟩) len cap) (.int k i) = some (.pointer (some ⟨b, off + i.toNat * n, none⟩)) := by
  simp only [ixV]; rw [if_pos ⟨h0, h1⟩]

theorem News.ix {I : Imm} {L : LH} {n m : Nat} {a : Option Addr} {cap : Nat} {cells : List Value} (h : News n (.slice a m cap) I L m cells) (k : IntKind) {i : Int} (h0 : 0 ≤ i) (h1 : i < m) :
    ∃ b off, ixV n (.slice a m cap) (.int k i) = some (.pointer (some ⟨b, off, none⟩)) ∧ ∀ I' L', Ext I I' → (∀ x ∈ L, x ∈ L') → Cells I' L' b off ((cells.drop (i.toNat * n)).take n) := by
  rcases h with ⟨a', cap', h2, h3, _⟩ | ⟨b, off, cap', h2, hl, hc⟩ | ⟨s, h2, _⟩
  · omega
  · simp only [Value.slice.injEq] at h2
    obtain ⟨rfl, _, rfl⟩ := h2
    refine ⟨b, off + i.toNat * n, ixV_int b off n k m cap i h0 h1, fun I' L' hI hL j u hu => ?_⟩
    rw [List.getElem?_take] at hu
    split at hu
    · rw [List.getElem?_drop] at hu
      have := (hc _ u hu).mono hI hL
      rwa [← Nat.add_assoc] at this
    · cases hu
  · cases h2

/-- 'v' is a slice that can be read: the records 'xs' -/
def RL {α : Type} (R : Imm → α → List Value → Prop) (n : Nat) (I : Imm) (L : LH) (v : Value) (xs : List α) : Prop :=
  ∃ a cap cells, v = .slice a xs.length cap ∧ xs.length ≤ cap ∧ News n v I L xs.length cells ∧ Recs (R I) n xs cells

section rl
variable {α : Type} {R : Imm → α → List Value → Prop} {n : Nat} {I I' : Imm} {L L' : LH} {v : Value} {xs : List α}
theorem RL.len (h : RL R n I L v xs) : lenV v = some (.int .i64 xs.length) := by
  obtain ⟨a, cap, cells, rfl, _⟩ := h; rfl
theorem RL.form (h : RL R n I L v xs) : ∃ a cap, v = .slice a xs.length cap := by
  obtain ⟨a, cap, cells, rfl, _⟩ := h; exact ⟨a, cap, rfl⟩
theorem News.mono {m : Nat} {news : List Value} (h : News n v I L m news) (hI : Ext I I') (hL : ∀ x ∈ L, x ∈ L') : News n v I' L' m news := by
  rcases h with h | ⟨b, off, cap, h1, h2, h3⟩ | h
  · exact .inl h
  · exact .inr (.inl ⟨b, off, cap, h1, h2, fun j u hu => (h3 j u hu).mono hI hL⟩)
  · exact .inr (.inr h)
theorem RL.mono (hR : ∀ x c, R I x c → R I' x c) (h : RL R n I L v xs) (hI : Ext I I') (hL : ∀ x ∈ L, x ∈ L') : RL R n I' L' v xs := by
  obtain ⟨a, cap, cells, hv, hc, hn, hr⟩ := h
  exact ⟨a, cap, cells, hv, hc, hn.mono hI hL, hr.imp hR⟩
theorem RL.ofI {cells : List Value} (h : SlI I n v cells xs.length) (hr : Recs (R I) n xs cells) : RL R n I L v xs := by
  have hn := SlI.news (L := L) h
  obtain ⟨_, a, cap, hv, hle, _⟩ := h
  exact ⟨a, cap, cells, hv, hle, hn, hr⟩
theorem RL.nil (a : Option Addr) (cap : Nat) : RL R n I L (.slice a 0 cap) [] := ⟨a, cap, [], rfl, Nat.zero_le _, .inl ⟨a, cap, rfl, rfl, rfl⟩, rfl⟩
theorem RL.ix [Inhabited α] (h : RL R n I L v xs) {i : Int} (h0 : 0 ≤ i) (h1 : i < xs.length) :
    ∃ b off c, ixV n v (.int .i64 i) = some (.pointer (some ⟨b, off, none⟩)) ∧ c.length = n ∧ R I (geti xs i) c ∧ ∀ I' L', Ext I I' → (∀ x ∈ L, x ∈ L') → Cells I' L' b off c := by
  obtain ⟨a, cap, cells, rfl, _, hn, hr⟩ := h
  obtain ⟨b, off, hix, hc⟩ := News.ix hn .i64 h0 h1
  obtain ⟨g1, g2⟩ := hr.get (geti_some h0 h1)
  exact ⟨b, off, _, hix, g1, g2, hc⟩
/-- x[lo:hi] -/
theorem RL.part (h : RL R n I L v xs) {lo hi : Nat} (h1 : lo ≤ hi) (h2 : hi ≤ xs.length) (blo bhi : Option Value) (hlo : bndV blo 0 hi = some lo) (hhi : ∀ cap, xs.length ≤ cap → bndV bhi xs.length cap = some hi) :
    ∃ v', slcV n v blo bhi none = some v' ∧ RL R n I L v' ((xs.drop lo).take (hi - lo)) := by
  obtain ⟨a, cap, cells, rfl, hcap, hn, hr⟩ := h
  have hb1 := hhi cap hcap
  have hlen : ((xs.drop lo).take (hi - lo)).length = hi - lo := by rw [List.length_take, List.length_drop]; omega
  refine ⟨.slice (if cap = lo then a else a.map (·.add (lo * n))) (hi - lo) (cap - lo), ?_, _, cap - lo, (cells.drop (lo * n)).take ((hi - lo) * n), by rw [hlen], by rw [hlen]; omega, ?_, ?_⟩
  · simp only [slcV]
    rw [if_neg (by simp)]
    simp only [bndV] at hb1 hlo ⊢
    simp [hb1, hlo]
  · rw [hlen]
    by_cases h0 : hi - lo = 0
    · rw [h0]; exact .inl ⟨_, _, rfl, rfl, by simp⟩
    · rcases hn with ⟨a', cap', e1, e2, _⟩ | ⟨b, off, cap', e1, hl, hc⟩ | ⟨s, e1, _⟩
      · omega
      · simp only [Value.slice.injEq] at e1
        obtain ⟨rfl, _, rfl⟩ := e1
        refine .inr (.inl ⟨b, off + lo * n, cap - lo, by rw [if_neg (by omega)]; simp [add_none], ?_, fun j u hu => ?_⟩)
        · rw [List.length_take, List.length_drop, hl]
          apply Nat.min_eq_left
          rw [← Nat.sub_mul]
          exact Nat.mul_le_mul_right n (by omega)
        · rw [List.getElem?_take] at hu
          split at hu
          · rw [List.getElem?_drop] at hu
            have := hc _ u hu
            rwa [← Nat.add_assoc] at this
          · cases hu
      · cases e1
  · exact (hr.drop lo).take (hi - lo)
/-- x[:j:j] -/
theorem RL.clip (h : RL R n I L v xs) {j : Nat} (hj : j ≤ xs.length) : ∃ a', slcV n v none (some (.int .i64 j)) (some (.int .i64 j)) = some (.slice a' j j) ∧ RL R n I L (.slice a' j j) (xs.take j) := by
  obtain ⟨a, cap, cells, rfl, hcap, hn, hr⟩ := h
  have hlen : (xs.take j).length = j := by rw [List.length_take]; omega
  refine ⟨if j = 0 then a else a.map (·.add (0 * n)), ?_, _, j, cells.take (j * n), by rw [hlen], by rw [hlen]; exact Nat.le_refl _, ?_, hr.take j⟩
  · simp only [slcV, Option.isNone_some, Bool.false_and, Bool.false_eq_true, if_false]
    rw [bnd_in _ _ _ _ (by omega), Option.bind_some, bnd_in _ _ _ _ (Nat.le_refl _), Option.bind_some, show bndV none 0 j = some 0 from rfl, Option.bind_some]
    simp
  · rw [hlen]
    by_cases h0 : j = 0
    · subst h0; exact .inl ⟨_, _, rfl, rfl, by simp⟩
    · rcases hn with ⟨a', cap', e1, e2, _⟩ | ⟨b, off, cap', e1, hl, hc⟩ | ⟨s, e1, _⟩
      · omega
      · simp only [Value.slice.injEq] at e1
        obtain ⟨rfl, _, rfl⟩ := e1
        refine .inr (.inl ⟨b, off, j, by rw [if_neg h0]; simp [add_none], ?_, fun i u hu => ?_⟩)
        · rw [List.length_take, hl]
          exact Nat.min_eq_left (Nat.mul_le_mul_right n hj)
        · rw [List.getElem?_take] at hu
          split at hu
          · exact hc _ u hu
          · cases hu
      · cases e1
end rl

/-! ### Lists that grow: owned ones, and unowned ones without room -/
def GrO (I : Imm) (T n : Nat) (X : LH) (v : Value) (cells : List Value) (len : Nat) : Prop :=
  SlO T n X v cells len ∨ (X = [] ∧ (∃ a, v = .slice a len len) ∧ SlI I n v cells len)
theorem GrO.mono {I I' : Imm} {T n : Nat} {X : LH} {v : Value} {cells : List Value} {len : Nat} (h : GrO I T n X v cells len) (hI : Ext I I') : GrO I' T n X v cells len := by
  rcases h with h | ⟨h1, h2, h3⟩
  · exact .inl h
  · exact .inr ⟨h1, h2, h3.mono hI⟩
theorem GrO.news {I : Imm} {T n len : Nat} {X F : LH} {v : Value} {cells : List Value} (h : GrO I T n X v cells len) (hF : ∀ x ∈ X, x ∈ F) : News n v I F len cells := by
  rcases h with h | ⟨h1, h2, h3⟩
  · exact h.news hF
  · exact SlI.news h3
theorem GrO.form {I : Imm} {T n len : Nat} {X : LH} {v : Value} {cells : List Value} (h : GrO I T n X v cells len) : ∃ a cap, v = .slice a len cap ∧ len ≤ cap := by
  rcases h with h | ⟨h1, ⟨a, h2⟩, h3⟩
  · obtain ⟨_, h⟩ := h
    rcases h with ⟨_, rfl, a, rfl⟩ | ⟨b, cap, cs, _, rfl, _, hle, _⟩
    · exact ⟨a, 0, rfl, Nat.le_refl _⟩
    · exact ⟨_, cap, rfl, hle⟩
  · exact ⟨a, len, h2, Nat.le_refl _⟩
theorem GrO.freeze {A : M} {I : Imm} {T n len : Nat} {X F : LH} {v : Value} {cells : List Value} (h : GrO I T n X v cells len) (hk : ∀ I', Ext I I' → SlI I' n v cells len → Gh A I' F) : Gh A I (X ++ F) := by
  rcases h with h | ⟨rfl, _, h3⟩
  · exact SlO.freeze h hk
  · exact hk I (Ext.refl I) h3
/-- append to a slice without room: always to new memory -/
theorem app_view {I : Imm} {L F : LH} (hp : L.Perm F) {T n bytes len m : Nat} {z : Array Value} {s x : Value} {a : Option Addr} {olds news : List Value} {K : Value → M} (hz : z.size = n) (hs : s = .slice a len len) (ho : News n s I L len olds) (hn : News n x I L m news)
    (h1 : ∀ u ∈ news, u.oneCell' = true) (hm : 0 < m) (hb : (len + m) * bytes ≤ 150000000000000) (hm' : len + m ≤ 150000000000000) (hk : ∀ X' v', SlO T n X' v' (olds ++ news) (len + m) → K v' I (X' ++ F)) : App T n bytes z s x (gh K) I L := by
  have hol := ho.length
  have hnl := hn.length
  have hlen : (olds ++ news).length = (len + m) * n := by rw [List.length_append, hol, hnl, Nat.add_mul]
  refine ⟨a, len, len, m, news, hs, hn, h1, .inr (.inr ⟨by omega, hb, hm', olds, L, ho, List.Sublist.refl _, fun b c hc => ?_⟩)⟩
  refine Gh.perm (List.Perm.cons _ hp) (Gh.done (hk [(b, _)] _ ⟨hlen, .inr ⟨b, c, _, rfl, rfl, ?_, hc, ?_⟩⟩))
  · simp only [Array.size_append, List.size_toArray, zero_size, hz, hlen]
    rw [← Nat.add_mul]; congr 1; omega
  · intro j u hu
    have hlt : j < (olds ++ news).length := (List.getElem?_eq_some_iff.1 hu).1
    rw [Array.getElem?_append_left (by simpa using hlt)]
    simpa using hu
theorem app_gr {I : Imm} {X L F : LH} [hsp : SplitL X L F] {T n bytes len m : Nat} {z : Array Value} {s x : Value} {cells news : List Value} {K : Value → M} (hz : z.size = n) (ho : GrO I T n X s cells len) (hn : News n x I L m news)
    (h1 : ∀ u ∈ news, u.oneCell' = true) (hb : (len + m) * bytes ≤ 150000000000000) (hm : len + m ≤ 150000000000000)
    (hk : ∀ X' v', GrO I T n X' v' (cells ++ news) (len + m) → K v' I (X' ++ F)) : App T n bytes z s x (gh K) I L := by
  rcases ho with ho | ⟨rfl, ⟨a, ha⟩, h3⟩
  · exact app_own hz ho hn h1 hb hm (fun X' v' h => hk X' v' (.inl h))
  · have hp := hsp.perm
    by_cases h0 : m = 0
    · subst h0
      have hnil : news = [] := List.eq_nil_of_length_eq_zero (by simpa using hn.length)
      subst hnil
      refine ⟨a, len, len, 0, [], ha, hn, h1, .inl ⟨Nat.le_refl _, rfl, Gh.perm hp (Gh.done ?_)⟩⟩
      have := hk [] s (.inr ⟨rfl, ⟨a, ha⟩, by simpa using h3⟩)
      rw [ha] at this
      exact this
    · exact app_view hp hz ha (SlI.news h3 (L := L)) hn h1 (by omega) hb hm (fun X' v' h => hk X' v' (.inl h))

/-! ### Elements that are set -/
theorem set_own {I : Imm} {X L F : LH} [hsp : SplitL X L F] {T len : Nat} {v u : Value} {cells : List Value} {K : Value → M} {i : Int} (ho : SlO T 1 X v cells len) (h0 : 0 ≤ i) (h1 : i < len) (hu : u.oneCell' = true)
    (hk : ∀ X', SlO T 1 X' v (cells.set i.toNat u) len → K undef I (X' ++ F)) :
    ∃ b, ixV 1 v (.int .i64 i) = some (.pointer (some ⟨b, i.toNat, none⟩)) ∧ Sto 1 (.pointer (some ⟨b, i.toNat, none⟩)) u (gh K) I L := by
  have hp := hsp.perm
  obtain ⟨hl, ho'⟩ := ho
  rcases ho' with ⟨rfl, rfl, a, rfl⟩ | ⟨b, cap, cs, rfl, rfl, hcs, hle, hc⟩
  · omega
  · refine ⟨b, by rw [ixV_int b 0 1 .i64 len cap i h0 h1, Nat.zero_add, Nat.mul_one], ?_⟩
    have hmem : (b, Obj.cells cs T (0, 0)) ∈ L := hp.mem_iff.2 (List.mem_append_left _ (List.mem_singleton.2 rfl))
    obtain ⟨L1, L2, rfl⟩ := List.append_of_mem hmem
    have hF : (L1 ++ L2).Perm F := by
      have h2 : (L1 ++ (b, Obj.cells cs T (0, 0)) :: L2).Perm ((b, Obj.cells cs T (0, 0)) :: (L1 ++ L2)) := List.perm_middle
      exact (List.perm_cons _).1 (h2.symm.trans hp)
    have huc : u.cells = #[u] := by cases u <;> first | rfl | simp [Value.oneCell'] at hu
    refine ⟨b, i.toNat, cs, T, L1, L2, rfl, by simp [huc], by simp [huc]; exact hu, by omega, rfl, ?_⟩
    refine Gh.perm (List.perm_middle.trans (List.Perm.cons _ hF)) (Gh.done (hk [(b, _)] ⟨by simp [hl], .inr ⟨b, cap, _, rfl, rfl, by rw [wr_size]; exact hcs, hle, ?_⟩⟩))
    intro j w hw
    simp only [huc, wr]
    rw [List.getElem?_set] at hw
    split at hw
    · rename_i e
      subst e
      split at hw
      · cases hw
        rw [Array.getElem?_setIfInBounds_self_of_lt (by omega)]
      · cases hw
    · rename_i e
      rw [Array.getElem?_setIfInBounds_ne e]
      exact hc j w hw
theorem take_set_succ {α : Type} {l : List α} {k : Nat} {x : α} (h : k < l.length) : (l.set k x).take (k + 1) = l.take k ++ [x] := by
  rw [List.take_add_one, List.take_set_of_le (Nat.le_refl k)]
  simp [h]

end Go.SL
