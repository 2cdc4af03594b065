/-
  Slices: immutable ones, owned ones; lists of records.
-/
import Derived.Test.YtmnnnoinfhiilaaDoorSlRules
set_option linter.unusedSimpArgs false
set_option linter.unusedVariables false
set_option linter.unusedSectionVars false
namespace Go.SL
def SlI (I : Imm) (n : Nat) (v : Value) (cells : List Value) (len : Nat) : Prop :=
  cells.length = len * n ∧ ∃ a cap, v = .slice a len cap ∧ len ≤ cap ∧
    (len ≠ 0 → ∃ b off cs T fr, a = some ⟨b, off, none⟩ ∧ I b = some (Obj.cells cs T fr) ∧ ∀ j u, cells[j]? = some u → cs[off + j]? = some u)
theorem SlI.mono {I I' : Imm} {n len : Nat} {v : Value} {cells : List Value} (h : SlI I n v cells len) (hI : Ext I I') : SlI I' n v cells len := by
  obtain ⟨hl, a, cap, hv, hc, h⟩ := h
  refine ⟨hl, a, cap, hv, hc, fun h0 => ?_⟩
  obtain ⟨b, off, cs, T, fr, ha, hb, hcs⟩ := h h0
  exact ⟨b, off, cs, T, fr, ha, hI _ _ hb, hcs⟩
theorem SlI.nil (I : Imm) (n : Nat) (a : Option Addr) (cap : Nat) : SlI I n (.slice a 0 cap) [] 0 := ⟨by simp, a, cap, rfl, Nat.zero_le _, fun h => absurd rfl h⟩
theorem SlI.news {I : Imm} {L : LH} {n len : Nat} {v : Value} {cells : List Value} (h : SlI I n v cells len) : News n v I L len cells := by
  obtain ⟨hl, a, cap, rfl, hc, h⟩ := h
  by_cases h0 : len = 0
  · subst h0
    exact .inl ⟨a, cap, rfl, rfl, List.eq_nil_of_length_eq_zero (by simpa using hl)⟩
  · obtain ⟨b, off, cs, T, fr, rfl, hb, hcs⟩ := h h0
    exact .inr (.inl ⟨b, off, cap, rfl, hl, fun j u hu => Cell.imm hb (hcs j u hu)⟩)
def SlO (T n : Nat) (X : LH) (v : Value) (cells : List Value) (len : Nat) : Prop :=
  cells.length = len * n ∧
  ((X = [] ∧ len = 0 ∧ ∃ a, v = .slice a 0 0) ∨
   (∃ (b cap : Nat) (cs : Array Value), X = [(b, Obj.cells cs T (0, 0))] ∧ v = .slice (some ⟨b, 0, Option.none⟩) len cap ∧ cs.size = cap * n ∧ len ≤ cap ∧ ∀ (j : Nat) (u : Value), cells[j]? = some u → cs[j]? = some u))
theorem SlO.none (T n : Nat) : SlO T n [] (.slice none 0 0) [] 0 := ⟨by simp, .inl ⟨rfl, rfl, _, rfl⟩⟩
theorem SlO.empty (T n : Nat) (a : Option Addr) : SlO T n [] (.slice a 0 0) [] 0 := ⟨by simp, .inl ⟨rfl, rfl, _, rfl⟩⟩
theorem SlO.form {T n len : Nat} {X : LH} {v : Value} {cells : List Value} (h : SlO T n X v cells len) : ∃ a cap, v = .slice a len cap := by
  rcases h.2 with ⟨_, rfl, a, rfl⟩ | ⟨b, cap, cs, _, rfl, _⟩
  · exact ⟨a, 0, rfl⟩
  · exact ⟨_, cap, rfl⟩
theorem SlO.news {I : Imm} {T n len : Nat} {X F : LH} {v : Value} {cells : List Value} (h : SlO T n X v cells len) (hF : ∀ x ∈ X, x ∈ F) : News n v I F len cells := by
  obtain ⟨hl, h⟩ := h
  rcases h with ⟨rfl, rfl, a, rfl⟩ | ⟨b, cap, cs, rfl, rfl, hcs, hle, hc⟩
  · exact .inl ⟨a, 0, rfl, rfl, List.eq_nil_of_length_eq_zero (by simpa using hl)⟩
  · exact .inr (.inl ⟨b, 0, cap, rfl, hl, fun j u hu => Cell.own (hF _ (List.mem_singleton.2 rfl)) (by rw [Nat.zero_add]; exact hc j u hu)⟩)
theorem SlO.freeze {A : M} {I : Imm} {T n len : Nat} {X F : LH} {v : Value} {cells : List Value} (h : SlO T n X v cells len) (hk : ∀ I', Ext I I' → SlI I' n v cells len → Gh A I' F) : Gh A I (X ++ F) := by
  obtain ⟨hl, h⟩ := h
  rcases h with ⟨rfl, rfl, a, rfl⟩ | ⟨b, cap, cs, rfl, rfl, hcs, hle, hc⟩
  · exact hk I (Ext.refl I) ⟨hl, a, 0, rfl, Nat.le_refl _, fun h => absurd rfl h⟩
  · exact Gh.freeze fun hext => hk _ hext ⟨hl, _, cap, rfl, hle, fun _ => ⟨b, 0, cs, T, (0, 0), rfl, by simp [Imm.put], fun j u hu => by rw [Nat.zero_add]; exact hc j u hu⟩⟩
theorem zero_size (z : Array Value) (k : Nat) : (Builtin.zeroCells z k).size = k * z.size := by simp [Builtin.zeroCells]
theorem Cell.perm {I : Imm} {L L' : LH} {b off : Nat} {v : Value} (h : Cell I L b off v) (hp : L.Perm L') : Cell I L' b off v := h.mono (Ext.refl I) (fun _ hx => hp.mem_iff.1 hx)
theorem News.perm {I : Imm} {L L' : LH} {n m : Nat} {x : Value} {news : List Value} (h : News n x I L m news) (hp : L.Perm L') : News n x I L' m news := by
  rcases h with h | ⟨b, off, cap, h1, h2, h3⟩ | h
  · exact .inl h
  · exact .inr (.inl ⟨b, off, cap, h1, h2, fun j u hu => (h3 j u hu).perm hp⟩)
  · exact .inr (.inr h)
theorem app_ownG {I : Imm} {X L F : LH} [hsp : SplitL X L F] {T n bytes len m : Nat} {z : Array Value} {s x : Value} {cells news : List Value} {K : Value → M} (hz : z.size = n) (ho : SlO T n X s cells len) (hn : News n x I L m news)
    (h1 : ∀ u ∈ news, u.oneCell' = true) (hb : (len + m) * bytes ≤ 150000000000000) (hm : len + m ≤ 150000000000000)
    (hk : ∀ X' v', SlO T n X' v' (cells ++ news) (len + m) → Gh (K v') I (X' ++ F)) : App T n bytes z s x (gh K) I L := by
  have hp := hsp.perm
  obtain ⟨hl, ho'⟩ := ho
  have hnl := hn.length
  have hlen : (cells ++ news).length = (len + m) * n := by rw [List.length_append, hl, hnl, Nat.add_mul]
  rcases ho' with ⟨rfl, rfl, a, rfl⟩ | ⟨b, cap, cs, rfl, rfl, hcs, hle, hc⟩
  · have hce : cells = [] := List.eq_nil_of_length_eq_zero (by simpa using hl)
    subst hce
    refine ⟨a, 0, 0, m, news, rfl, hn, h1, ?_⟩
    by_cases h0 : m = 0
    · subst h0
      have : news = [] := List.eq_nil_of_length_eq_zero (by simpa using hnl)
      subst this
      exact .inl ⟨Nat.le_refl _, rfl, Gh.perm hp (hk [] (.slice a 0 0) (SlO.empty T n a))⟩
    · refine .inr (.inr ⟨by omega, hb, hm, [], L, .inl ⟨a, 0, rfl, rfl, rfl⟩, List.Sublist.refl _, fun b c hc => ?_⟩)
      refine Gh.perm (List.Perm.cons _ hp) (hk [(b, _)] _ ⟨hlen, .inr ⟨b, c, _, rfl, rfl, ?_, hc, ?_⟩⟩)
      · simp only [List.nil_append, Array.size_append, List.size_toArray, zero_size, hz, hnl]
        rw [← Nat.add_mul]; congr 1; omega
      · intro j u hu
        simp only [List.nil_append] at hu ⊢
        have hlt : j < news.length := (List.getElem?_eq_some_iff.1 hu).1
        rw [Array.getElem?_append_left (by simpa using hlt)]
        simpa using hu
  · have hmem : (b, Obj.cells cs T (0, 0)) ∈ L := hp.mem_iff.2 (List.mem_append_left _ (List.mem_singleton.2 rfl))
    obtain ⟨L1, L2, rfl⟩ := List.append_of_mem hmem
    have hF : (L1 ++ L2).Perm F := by
      have h2 : (L1 ++ (b, Obj.cells cs T (0, 0)) :: L2).Perm ((b, Obj.cells cs T (0, 0)) :: (L1 ++ L2)) := List.perm_middle
      exact (List.perm_cons _).1 (h2.symm.trans hp)
    refine ⟨_, len, cap, m, news, rfl, hn, h1, ?_⟩
    by_cases hfit : len + m ≤ cap
    · refine .inr (.inl ⟨hfit, b, 0, cs, T, L1, L2, rfl, rfl, by rw [hcs, Nat.zero_add]; exact Nat.mul_le_mul_right n hfit, ?_⟩)
      refine Gh.perm (List.perm_middle.trans (List.Perm.cons _ hF)) (hk [(b, _)] _ ⟨hlen, .inr ⟨b, cap, _, rfl, rfl, by rw [wr_size]; exact hcs, hfit, ?_⟩⟩)
      have hroom : 0 + len * n + news.length ≤ cs.size := by
        rw [hcs, hnl, Nat.zero_add, ← Nat.add_mul]; exact Nat.mul_le_mul_right n hfit
      intro j u hu
      rw [wr_get news cs (0 + len * n) j hroom]
      simp only [Nat.zero_add] at hroom ⊢
      by_cases hj : j < len * n
      · rw [if_pos hj]
        rw [List.getElem?_append_left (by omega)] at hu
        exact hc j u hu
      · rw [if_neg hj]
        rw [List.getElem?_append_right (by omega), hl] at hu
        have hlt := (List.getElem?_eq_some_iff.1 hu).1
        rw [if_pos (by omega)]
        exact hu
    · refine .inr (.inr ⟨by omega, hb, hm, cells, L1 ++ L2, .inr (.inl ⟨b, 0, cap, rfl, hl, fun j u hu => Cell.own hmem (by rw [Nat.zero_add]; exact hc j u hu)⟩),
        List.Sublist.append (List.Sublist.refl _) (List.sublist_cons_self ..), fun b' c hcc => ?_⟩)
      refine Gh.perm (List.Perm.cons _ hF) (hk [(b', _)] _ ⟨hlen, .inr ⟨b', c, _, rfl, rfl, ?_, hcc, ?_⟩⟩)
      · simp only [Array.size_append, List.size_toArray, zero_size, hz, hlen]
        rw [← Nat.add_mul]; congr 1; omega
      · intro j u hu
        have hlt : j < (cells ++ news).length := (List.getElem?_eq_some_iff.1 hu).1
        rw [Array.getElem?_append_left (by simpa using hlt)]
        simpa using hu
theorem app_own {I : Imm} {X L F : LH} [hsp : SplitL X L F] {T n bytes len m : Nat} {z : Array Value} {s x : Value} {cells news : List Value} {K : Value → M} (hz : z.size = n) (ho : SlO T n X s cells len) (hn : News n x I L m news)
    (h1 : ∀ u ∈ news, u.oneCell' = true) (hb : (len + m) * bytes ≤ 150000000000000) (hm : len + m ≤ 150000000000000)
    (hk : ∀ X' v', SlO T n X' v' (cells ++ news) (len + m) → K v' I (X' ++ F)) : App T n bytes z s x (gh K) I L := app_ownG hz ho hn h1 hb hm (fun X' v' h => Gh.done (hk X' v' h))
theorem mk_own {I : Imm} {F : LH} {T bytes : Nat} {z : Array Value} {ln cn : Nat} {K : Value → M} (hlc : ln ≤ cn) (hc : cn ≤ 140737488355328) (hb : cn * bytes ≤ 281474976710656)
    (hk : ∀ X v, SlO T z.size X v (Builtin.zeroCells z ln).toList ln → K v I (X ++ F)) : MkS T bytes z (.int .i64 ln) (.int .i64 cn) (gh K) I F := by
  refine ⟨.i64, .i64, ln, cn, rfl, rfl, hlc, hc, hb, fun b => ?_⟩
  refine Gh.done (hk [(b, _)] _ ⟨by simp [zero_size], .inr ⟨b, cn, _, rfl, rfl, zero_size z cn, hlc, ?_⟩⟩)
  intro j u hu
  have hlt : j < ln * z.size := by have := (List.getElem?_eq_some_iff.1 hu).1; simpa [zero_size] using this
  have hlt' : j < cn * z.size := Nat.lt_of_lt_of_le hlt (Nat.mul_le_mul_right _ hlc)
  simp only [Builtin.zeroCells, Array.toList_map, List.getElem?_map, Array.toList_range, List.getElem?_range hlt, Option.map_some, Option.some.injEq] at hu
  simp only [Builtin.zeroCells, Array.getElem?_map, Array.getElem?_range, hlt', if_true, Option.map_some, hu]
theorem bld_oneG {I : Imm} {F : LH} {T n : Nat} {z : Array Value} {v : Value} {K : Value → M} (hz : z.size = n) (hn : 0 < n) (hv : v.cells.size = n)
    (hk : ∀ X u, SlO T n X u v.cells.toList 1 → Gh (K u) I (X ++ F)) : BldS T n z 1 [(0, v)] (gh K) I F := by
  have hfold : ∀ (vs : List Value) (cs : Array Value) (k : Nat), k + vs.length ≤ cs.size → (vs.zipIdx k).foldl (fun cs (c, j) => cs.setIfInBounds (0 + j) c) cs = wr cs k vs := by
    intro vs
    induction vs with
    | nil => intro cs k _; rfl
    | cons v vs ih =>
      intro cs k hk
      simp only [List.zipIdx_cons, List.foldl_cons, wr, Nat.zero_add]
      simp only [List.length_cons] at hk
      have := ih (cs.setIfInBounds k v) (k + 1) (by simp; omega)
      simpa using this
  refine ⟨v.cells, ?_, fun b => ?_⟩
  · simp only [Instr.fill]
    have h0 : ((Array.range (1 * n)).map (fun x => z[x % z.size]!)).size = n := by simp
    rw [h0]
    have hc : ¬ ((decide (v.cells.size ≠ n) || decide (0 * n + v.cells.size > n)) = true) := by simp [hv]
    rw [if_neg hc]
    congr 1
    rw [← Array.foldl_toList]
    simp only [Array.toList_zipIdx, Nat.zero_mul]
    rw [hfold _ _ 0 (by rw [h0]; simp [hv]), wr_eq _ _ 0 (by rw [h0]; simp [hv])]
    apply Array.ext'
    simp [hv]
  · exact hk [(b, _)] _ ⟨by simp [hv], .inr ⟨b, 1, _, rfl, rfl, by omega, Nat.le_refl _, fun j u hu => by simpa using hu⟩⟩
theorem bld_one {I : Imm} {F : LH} {T n : Nat} {z : Array Value} {v : Value} {K : Value → M} (hz : z.size = n) (hn : 0 < n) (hv : v.cells.size = n)
    (hk : ∀ X u, SlO T n X u v.cells.toList 1 → K u I (X ++ F)) : BldS T n z 1 [(0, v)] (gh K) I F := bld_oneG hz hn hv (fun X u h => Gh.done (hk X u h))
theorem mrk_own {I : Imm} {X L F : LH} [hsp : SplitL X L F] {T n len : Nat} {v : Value} {cells : List Value} {K : Value → M} (ho : SlO T n X v cells len) (hX : X ≠ [])
    (hk : ∀ I', Ext I I' → SlI I' n v cells len → K v I' F) : MrkS v (gh K) I L := by
  have hp := hsp.perm
  obtain ⟨hl, ho⟩ := ho
  rcases ho with ⟨rfl, _⟩ | ⟨b, cap, cs, rfl, rfl, hcs, hle, hc⟩
  · exact absurd rfl hX
  · have hmem : (b, Obj.cells cs T (0, 0)) ∈ L := hp.mem_iff.2 (List.mem_append_left _ (List.mem_singleton.2 rfl))
    obtain ⟨L1, L2, rfl⟩ := List.append_of_mem hmem
    have hF : (L1 ++ L2).Perm F := by
      have h2 : (L1 ++ (b, Obj.cells cs T (0, 0)) :: L2).Perm ((b, Obj.cells cs T (0, 0)) :: (L1 ++ L2)) := List.perm_middle
      exact (List.perm_cons _).1 (h2.symm.trans hp)
    refine ⟨b, 0, len, cap, cs, T, L1, L2, rfl, rfl, ?_⟩
    refine Gh.perm (List.perm_middle.trans (List.Perm.cons _ hF)) (Gh.freeze fun hext => Gh.done (hk _ hext ⟨hl, _, cap, rfl, hle, fun _ => ⟨b, 0, cs, T, _, rfl, by simp [Imm.put]; rfl, fun j u hu => by rw [Nat.zero_add]; exact hc j u hu⟩⟩))
/-! ### Elements, parts -/
theorem SlO.ix {T n len i : Nat} {X : LH} {v : Value} {cells : List Value} (h : SlO T n X v cells len) (k : IntKind) (hi : i < len) :
    ∃ b, ixV n v (.int k i) = some (.pointer (some ⟨b, i * n, Option.none⟩)) ∧ ∀ I L, (∀ x ∈ X, x ∈ L) → Cells I L b (i * n) ((cells.drop (i * n)).take n) := by
  obtain ⟨hl, h⟩ := h
  rcases h with ⟨rfl, rfl, a, rfl⟩ | ⟨b, cap, cs, rfl, rfl, hcs, hle, hc⟩
  · omega
  · refine ⟨b, by rw [ixV_in b 0 n k len cap i hi, Nat.zero_add], fun I L hX j u hu => ?_⟩
    rw [List.getElem?_take] at hu
    split at hu
    · rw [List.getElem?_drop] at hu
      exact Cell.own (hX _ (List.mem_singleton.2 rfl)) (hc _ u hu)
    · cases hu
theorem SlI.ix {I : Imm} {n len i : Nat} {v : Value} {cells : List Value} (h : SlI I n v cells len) (k : IntKind) (hi : i < len) :
    ∃ b off, ixV n v (.int k i) = some (.pointer (some ⟨b, off, none⟩)) ∧ ∀ I' L, Ext I I' → Cells I' L b off ((cells.drop (i * n)).take n) := by
  obtain ⟨hl, a, cap, rfl, hcap, h⟩ := h
  obtain ⟨b, off, cs, T, fr, rfl, hb, hcs⟩ := h (by omega)
  refine ⟨b, off + i * n, ixV_in b off n k len cap i hi, fun I' L hI j u hu => ?_⟩
  rw [List.getElem?_take] at hu
  split at hu
  · rw [List.getElem?_drop] at hu
    refine Cell.imm (hI _ _ hb) ?_
    have := hcs _ u hu
    rwa [← Nat.add_assoc] at this
  · cases hu
theorem bnd_in (k : IntKind) (i d y : Nat) (h : i ≤ y) : bndV (some (.int k i)) d y = some i := by
  simp only [bndV]; rw [if_pos (by omega)]; simp
theorem SlI.part {I : Imm} {n len lo hi : Nat} {v : Value} {cells : List Value} (h : SlI I n v cells len) (h1 : lo ≤ hi) (h2 : hi ≤ len) (blo bhi : Option Value)
    (hlo : ∀ y, hi ≤ y → bndV blo 0 y = some lo ∨ y ≠ hi) (hhi : ∀ cap, len ≤ cap → bndV bhi len cap = some hi) :
    ∃ v', slcV n v blo bhi none = some v' ∧ SlI I n v' ((cells.drop (lo * n)).take ((hi - lo) * n)) (hi - lo) := by
  obtain ⟨hl, a, cap, rfl, hcap, h⟩ := h
  have hb1 := hhi cap hcap
  have hb2 : bndV blo 0 hi = some lo := (hlo hi (Nat.le_refl _)).resolve_right (by simp)
  refine ⟨.slice (if cap = lo then a else a.map (·.add (lo * n))) (hi - lo) (cap - lo), ?_, ?_, _, _, rfl, by omega, fun h0 => ?_⟩
  · simp only [slcV]
    rw [if_neg (by simp)]
    simp only [bndV] at hb1 hb2 ⊢
    simp [hb1, hb2]
  · rw [List.length_take, List.length_drop, hl]
    apply Nat.min_eq_left
    rw [← Nat.sub_mul]
    exact Nat.mul_le_mul_right n (by omega)
  · obtain ⟨b, off, cs, T, fr, rfl, hb, hcs⟩ := h (by omega)
    refine ⟨b, off + lo * n, cs, T, fr, by rw [if_neg (by omega)]; simp [add_none], hb, fun j u hu => ?_⟩
    rw [List.getElem?_take] at hu
    split at hu
    · rw [List.getElem?_drop] at hu
      have := hcs _ u hu
      rwa [← Nat.add_assoc] at this
    · cases hu
/-! ### Bytes, ints -/
def u8s (l : List UInt8) : List Value := l.map fun c => .int .u8 c.toNat
def i64s (l : List Int) : List Value := l.map (.int .i64)
def Bytes (I : Imm) (v : Value) (l : List UInt8) : Prop := SlI I 1 v (u8s l) l.length
def Ints (I : Imm) (v : Value) (l : List Int) : Prop := SlI I 1 v (i64s l) l.length
theorem Bytes.mono {I I' : Imm} {v : Value} {l : List UInt8} (h : Bytes I v l) (hI : Ext I I') : Bytes I' v l := SlI.mono h hI
theorem Ints.mono {I I' : Imm} {v : Value} {l : List Int} (h : Ints I v l) (hI : Ext I I') : Ints I' v l := SlI.mono h hI
theorem Bytes.form {I : Imm} {v : Value} {l : List UInt8} (h : Bytes I v l) : ∃ a cap, v = .slice a l.length cap := by
  obtain ⟨_, a, cap, hv, _⟩ := h; exact ⟨a, cap, hv⟩
theorem Ints.form {I : Imm} {v : Value} {l : List Int} (h : Ints I v l) : ∃ a cap, v = .slice a l.length cap := by
  obtain ⟨_, a, cap, hv, _⟩ := h; exact ⟨a, cap, hv⟩
theorem u8s_one (l : List UInt8) : ∀ u ∈ u8s l, u.oneCell' = true := by
  intro u hu
  obtain ⟨c, _, rfl⟩ := List.mem_map.1 hu
  rfl
theorem Bytes.str {I : Imm} {L : LH} {v : Value} {l : List UInt8} (h : Bytes I v l) : bsR v I L (.string ⟨l.toArray⟩) := by
  rcases SlI.news (L := L) h with ⟨a, cap, rfl, hl, hn⟩ | ⟨b, off, cap, rfl, hl, hc⟩ | ⟨s, rfl, _⟩
  · have : l = [] := List.eq_nil_of_length_eq_zero hl
    subst this
    exact .inl ⟨a, cap, rfl, rfl⟩
  · exact .inr ⟨b, off, _, cap, l, rfl, rfl, hc, rfl⟩
  · obtain ⟨a, cap, hv⟩ := h.form; cases hv
/-! ### Records -/
def Recs {α : Type} (R : α → List Value → Prop) (n : Nat) : List α → List Value → Prop
  | [], cells => cells = []
  | x :: xs, cells => (cells.take n).length = n ∧ R x (cells.take n) ∧ Recs R n xs (cells.drop n)
section recs
variable {α : Type} {R R' : α → List Value → Prop} {n : Nat}
theorem Recs.length : ∀ {xs : List α} {cells : List Value}, Recs R n xs cells → cells.length = xs.length * n
  | [], cells, h => by rw [h]; simp
  | x :: xs, cells, ⟨h1, _, h2⟩ => by
    have := Recs.length h2
    rw [List.length_drop] at this
    rw [List.length_take] at h1
    simp only [List.length_cons, Nat.add_mul, Nat.one_mul]
    omega
theorem Recs.imp (hR : ∀ x c, R x c → R' x c) : ∀ {xs : List α} {cells : List Value}, Recs R n xs cells → Recs R' n xs cells
  | [], _, h => h
  | _ :: _, _, ⟨h1, h2, h3⟩ => ⟨h1, hR _ _ h2, Recs.imp hR h3⟩
theorem Recs.append : ∀ {xs ys : List α} {cs ds : List Value}, Recs R n xs cs → Recs R n ys ds → Recs R n (xs ++ ys) (cs ++ ds)
  | [], ys, cs, ds, h, h' => by rw [show cs = [] from h]; exact h'
  | x :: xs, ys, cs, ds, ⟨h1, h2, h3⟩, h' => by
    have hle : n ≤ cs.length := by rw [List.length_take] at h1; omega
    refine ⟨?_, ?_, ?_⟩
    · rw [List.take_append_of_le_length hle]; exact h1
    · rw [List.take_append_of_le_length hle]; exact h2
    · rw [List.drop_append_of_le_length hle]; exact Recs.append h3 h'
theorem Recs.one {x : α} {c : List Value} (hl : c.length = n) (h : R x c) : Recs R n [x] c := by
  refine ⟨by rw [List.take_of_length_le (by omega)]; exact hl, by rw [List.take_of_length_le (by omega)]; exact h, ?_⟩
  show c.drop n = []
  simp [hl]
theorem Recs.get : ∀ {xs : List α} {cells : List Value} {i : Nat} {x : α}, Recs R n xs cells → xs[i]? = some x → ((cells.drop (i * n)).take n).length = n ∧ R x ((cells.drop (i * n)).take n)
  | [], _, _, _, _, h => by simp at h
  | y :: ys, cells, 0, x, ⟨h1, h2, _⟩, h => by
    simp only [List.getElem?_cons_zero, Option.some.injEq] at h; subst h
    simpa using ⟨by simpa using h1, h2⟩
  | y :: ys, cells, i + 1, x, ⟨_, _, h3⟩, h => by
    have := Recs.get (i := i) h3 (by simpa using h)
    rw [List.drop_drop] at this
    rwa [show (i + 1) * n = n + i * n from by rw [Nat.add_mul]; omega]
theorem Recs.take : ∀ {xs : List α} {cells : List Value} (k : Nat), Recs R n xs cells → Recs R n (xs.take k) (cells.take (k * n))
  | [], cells, k, h => by rw [show cells = [] from h]; simp [Recs]
  | x :: xs, cells, 0, _ => by simp [Recs]
  | x :: xs, cells, k + 1, ⟨h1, h2, h3⟩ => by
    have hle : n ≤ (k + 1) * n := by rw [Nat.add_mul]; omega
    refine ⟨?_, ?_, ?_⟩
    · rw [List.take_take, Nat.min_eq_left hle]; exact h1
    · rw [List.take_take, Nat.min_eq_left hle]; exact h2
    · have := Recs.take k h3
      rw [List.drop_take]
      rwa [show (k + 1) * n - n = k * n from by rw [Nat.add_mul]; omega]
theorem Recs.drop : ∀ {xs : List α} {cells : List Value} (k : Nat), Recs R n xs cells → Recs R n (xs.drop k) (cells.drop (k * n))
  | [], cells, k, h => by rw [show cells = [] from h]; simp [Recs]
  | x :: xs, cells, 0, h => by simpa using h
  | x :: xs, cells, k + 1, ⟨_, _, h3⟩ => by
    have := Recs.drop k h3
    rw [List.drop_drop] at this
    rwa [show (k + 1) * n = n + k * n from by rw [Nat.add_mul]; omega]
end recs
end Go.SL
