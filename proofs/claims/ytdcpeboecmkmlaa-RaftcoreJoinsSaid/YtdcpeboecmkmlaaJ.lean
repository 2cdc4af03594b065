/-
  The document's log: what its changing functions do.
-/
-- S4
import Derived.Test.YtdcpeboecmkmlaaO
set_option linter.unusedSimpArgs false
set_option linter.unusedVariables false
namespace Go.Proofs.Ytdcpeboecmkmlaa
open Go.SL
set_option maxRecDepth 10000

section
variable {ω : Om} {I : Imm} {L : LH} {K : Value → M}

/-- the document's log at block 'b' -/
def LogQ (I : Imm) (b : Nat) (X : LH) (g : LG) : Prop :=
  ∃ mv lv, X = [(b, Obj.cells #[.int .i64 g.index, .int .i64 g.term, mv, lv, .int .i64 g.commit] 120 (0, 0))] ∧ Ints I mv g.mem ∧ Ents I lv g.es
theorem LogQ.mono {I I' : Imm} {b : Nat} {X : LH} {g : LG} (h : LogQ I b X g) (hI : Ext I I') : LogQ I' b X g := by
  obtain ⟨mv, lv, hX, hm, hE⟩ := h
  exact ⟨mv, lv, hX, hm.mono hI, Ents.to hE hI⟩
theorem LogQ.view {b : Nat} {X : LH} {g : LG} (h : LogQ I b X g) [hs : LSub X L] : LogV I L b g := by
  obtain ⟨mv, lv, rfl, hm, hE⟩ := h
  exact ⟨mv, lv, cells_own (hs.sub _ (List.mem_singleton.2 rfl)), hm, Ents.to hE (Ext.refl I)⟩
theorem LogQ.viewF {b : Nat} {X F : LH} {g : LG} (h : LogQ I b X g) : LogV I (X ++ F) b g := h.view (hs := ⟨fun x hx => List.mem_append_left _ hx⟩)

theorem bldR1 {a : Option Addr} {l c : Nat} : bldV #[(Value.int .i64 0), (Value.int .i64 0), (Value.slice none 0 0), (Value.slice none 0 0), (Value.int .i64 0)] #[(0, 1), (1, 1), (2, 1), (3, 1), (4, 1)] [(2, .slice a l c)] = some (.agg #[.int .i64 0, .int .i64 0, .slice a l c, .slice none 0 0, .int .i64 0]) := by kernel_rfl
theorem bldR5 {i t k : Int} {a a' : Option Addr} {l c l' c' : Nat} : bldV #[(Value.int .i64 0), (Value.int .i64 0), (Value.slice none 0 0), (Value.slice none 0 0), (Value.int .i64 0)] #[(0, 1), (1, 1), (2, 1), (3, 1), (4, 1)] [(0, .int .i64 i), (1, .int .i64 t), (2, .slice a l c), (3, .slice a' l' c'), (4, .int .i64 k)] = some (.agg #[.int .i64 i, .int .i64 t, .slice a l c, .slice a' l' c', .int .i64 k]) := by kernel_rfl

theorem rnew_spec {v : Value} {m : List Int} (h : Ints I v m)
    (hk0 : memB m = false → K (.tuple #[.pointer none, .int .i64 1]) I L) (hk : memB m = true → ∀ b X, LogQ I b X (newG m) → K (.tuple #[.pointer (some ⟨b, 0, none⟩), .int .i64 0]) I (X ++ L)) : Cal Try.prog ω 31 #[v] K I L := by
  refine cal31 ?_
  unfold sh31
  refine call (rmembers_spec h ?_)
  try simp only [SSe, List.getElem?_toArray, List.getElem?_cons_zero, List.getElem?_cons_succ, Nat.zero_add, Nat.add_zero, Nat.zero_mul]
  refine br_split (fun h1 => ?_) (fun h1 => ?_)
  · exact Gh.done (hk0 (by simpa using h1))
  · have h' := h
    obtain ⟨a, cap, rfl⟩ := Ints.form h'
    simp only [bldR1, SSe, List.getElem?_toArray, List.getElem?_cons_zero, List.getElem?_cons_succ, Nat.zero_add, Nat.add_zero, Nat.zero_mul]
    refine newI (fun b => ?_)
    exact Gh.done (hk (by simpa using h1) b [_] ⟨_, _, rfl, h, RL.nil _ _⟩)

theorem rpoint_spec {i t : Int} {mv : Value} {m : List Int} (h : Ints I mv m) (hk : K (.bool (pointB i t m)) I L) : Cal Try.prog ω 64 #[.int .i64 i, .int .i64 t, mv] K I L := by
  refine cal64 ?_
  unfold sh64
  repeat' (first | (with_reducible refine drawC ?_) | (with_reducible refine keepC (by first | exact Ext.refl _ | assumption) ?_) | (with_reducible refine gd_split (fun _ => ?_) (fun _ => ?_)) | (with_reducible refine br_split (fun _ => ?_) (fun _ => ?_)) | (with_reducible refine newI (fun _ => ?_)) | (refine call (rcount_spec ?_)) | (refine call (rmembers_spec h ?_)) | first | refine rdb ?_ | refine st1 rfl ?_ | refine rdB rfl ?_ | refine rdbS ?_ | refine rdBS rfl ?_ | (simp only [SSe, List.getElem?_toArray, List.getElem?_cons_zero, List.getElem?_cons_succ, Nat.zero_add, Nat.add_zero, Nat.zero_mul]))
  all_goals (refine Gh.done (leafB hk ?_); simp_all [pointB])

theorem rload_spec {i t c : Int} {mv ev : Value} {m : List Int} {es : List LE} (hm : Ints I mv m) (he : Ents I ev es) (hl : es.length * 48 ≤ 150000000000000)
    (hk0 : loadB i t m es c = false → ∀ I', Ext I I' → K (.tuple #[.pointer none, .int .i64 102]) I' L) (hk : loadB i t m es c = true → ∀ b X I', Ext I I' → LogQ I' b X ⟨i, t, m, es, c⟩ → K (.tuple #[.pointer (some ⟨b, 0, none⟩), .int .i64 0]) I' (X ++ L)) :
    Cal Try.prog ω 20 #[.int .i64 i, .int .i64 t, mv, ev, .int .i64 c] K I L := by
  refine cal20 ?_
  unfold sh20
  refine call (rpoint_spec hm ?_)
  try simp only [SSe, List.getElem?_toArray, List.getElem?_cons_zero, List.getElem?_cons_succ, Nat.zero_add, Nat.add_zero, Nat.zero_mul]
  refine br_split (fun h1 => Gh.done (hk0 (by simp_all [loadB]) I (Ext.refl I))) (fun h1 => ?_)
  have hp : pointB i t m = true := by simpa using h1
  obtain ⟨p1, p2, p3, p4⟩ := point_spec hp
  have p1' := p1
  simp [countB] at p1'
  refine call (rfollows_spec he (by omega) (fun I' f hI' hf => ?_))
  have hf := hf p1
  subst hf
  have hm' := hm
  have he' := he
  obtain ⟨a, cap, rfl⟩ := Ints.form hm'
  obtain ⟨a', cap', rfl⟩ := RL.form he'
  have hdef : loadB i t m es c = (followB i t es && decide (i ≤ c ∧ c ≤ i + es.length)) := by simp [loadB, hp]
  repeat' (first | (with_reducible refine drawC ?_) | (with_reducible refine keepC (by first | exact Ext.refl _ | assumption) ?_) | (with_reducible refine gd_split (fun _ => ?_) (fun _ => ?_)) | (with_reducible refine br_split (fun _ => ?_) (fun _ => ?_)) | (with_reducible refine newI (fun _ => ?_)) | first | refine rdb ?_ | refine st1 rfl ?_ | refine rdB rfl ?_ | refine rdbS ?_ | refine rdBS rfl ?_ | (simp only [SSe, List.getElem?_toArray, List.getElem?_cons_zero, List.getElem?_cons_succ, Nat.zero_add, Nat.add_zero, Nat.zero_mul, RL.len he, wrap_i64 (i + es.length) (by omega), bldR5]))
  all_goals first
    | (refine Gh.done (hk0 ?_ I' hI'); rw [hdef]; clear hk hk0 hdef; cases hfb : followB i t es <;> simp_all <;> omega)
    | (refine Gh.done (hk ?_ _ [_] I' hI' ⟨_, _, rfl, hm.mono hI', Ents.to he hI'⟩); rw [hdef]; clear hk hk0 hdef; cases hfb : followB i t es <;> simp_all <;> omega)

theorem rsettle_spec {b : Nat} {X F : LH} {g : LG} {i : Int} (h : LogQ I b X g) (hw : WF g) (hk : ∀ X', LogQ I b X' (settleG g i).2 → K (.int .i64 (settleG g i).1) I (X' ++ F)) : Cal Try.prog ω 78 #[.pointer (some ⟨b, 0, none⟩), .int .i64 i] K I (X ++ F) := by
  refine cal78 ?_
  unfold sh78
  refine call (rlast_spec h.viewF hw.sz ?_)
  try simp only [SSe, List.getElem?_toArray, List.getElem?_cons_zero, List.getElem?_cons_succ, Nat.zero_add, Nat.add_zero, Nat.zero_mul]
  refine br_split (fun h1 => ?_) (fun h1 => ?_)
  · simp only [decide_eq_true_eq] at h1
    rw [settleG, if_pos h1] at hk
    exact Gh.done (hk X h)
  · simp only [decide_eq_false_iff_not] at h1
    rw [settleG, if_neg h1] at hk
    obtain ⟨mv, lv, rfl, hm, hE⟩ := h
    simp only [List.cons_append]
    refine rdb ?_
    try simp only [SSe, List.getElem?_toArray, List.getElem?_cons_zero, List.getElem?_cons_succ, Nat.zero_add, Nat.add_zero, Nat.zero_mul]
    refine st1 rfl ?_
    refine Gh.done (hk [_] ⟨mv, lv, ?_, hm, hE⟩)
    simp only
    rw [show (if i > g.commit then i else g.commit) = max g.commit i from by split <;> omega]

/-- a copy of some entries, as a list of its own -/
theorem copy_app {v w : Value} {es : List LE} {X : LH} {K : Value → M} (hE : LsV I L v es) (hX : SlO 59 4 X w [] 0) {F : LH} [SplitL X L F] (hl : es.length * 48 ≤ 150000000000000) (hk : ∀ X' v' cells', SlO 59 4 X' v' cells' es.length → Recs (LeV I) 4 es cells' → Gh (K v') I (X' ++ F)) :
    App 59 4 48 #[(Value.int .i64 0), (Value.int .i64 0), (Value.int .i64 0), (Value.slice none 0 0)] w v (gh K) I L := by
  obtain ⟨a, cap, cells, hv, _, hn, hR⟩ := hE
  refine app_ownG (X := X) rfl hX hn (hR.one_cells (fun _ _ h => h.one)) (by omega) (by omega) (fun X' v' h => ?_)
  exact hk X' v' cells (by simpa using h) hR
theorem one_app {v u : Value} {es : List LE} {e : LE} {c cells : List Value} {X X1 : LH} {K : Value → M} (h6 : SlO 59 4 X v cells es.length) (hR : Recs (LeV I) 4 es cells) (he : LeV I e c) (h1 : SlO 59 4 X1 u c 1) (hX1 : ∀ x ∈ X1, x ∈ L) {F : LH} [SplitL X L F] (hl : (es.length + 1) * 48 ≤ 150000000000000)
    (hk : ∀ X' v' cells', SlO 59 4 X' v' cells' (es ++ [e]).length → Recs (LeV I) 4 (es ++ [e]) cells' → Gh (K v') I (X' ++ F)) :
    App 59 4 48 #[(Value.int .i64 0), (Value.int .i64 0), (Value.int .i64 0), (Value.slice none 0 0)] v u (gh K) I L := by
  refine app_ownG (X := X) rfl h6 (h1.news hX1) (fun u hu => LeV.one he u hu) (by omega) (by omega) (fun X' v' h => ?_)
  exact hk X' v' _ (by simpa using h) (Recs.append hR (Recs.one (LeV.len he) he))

/-- append(append([]T{}, l...), e): the list is copied, the one entry is laid behind it, in whatever order that is done -/
theorem snoc3 {v : Value} {es : List LE} {e : LE} {c : List Value} {I0 : Imm} {X0 : LH} {K : Value → M} (hE : Ents I v es) (he : LeV I e c) [hs : LSub X0 L] (hI : Ext I0 I) (hl : (es.length + 1) * 48 ≤ 150000000000000)
    (hk : ∀ X' v' cells', SlO 59 4 X' v' cells' (es ++ [e]).length → Recs (LeV I) 4 (es ++ [e]) cells' → K v' I (X' ++ L)) :
    (fun I L => (BldS 59 4 #[(Value.int .i64 0), (Value.int .i64 0), (Value.int .i64 0), (Value.slice none 0 0)] 0 [] <| gh <| Keep (Stay I0 X0) fun v15 =>
        (fun I L => (App 59 4 48 #[(Value.int .i64 0), (Value.int .i64 0), (Value.int .i64 0), (Value.slice none 0 0)] v15 v <| gh <| Keep (Stay I0 X0) fun v16 =>
          BldS 59 4 #[(Value.int .i64 0), (Value.int .i64 0), (Value.int .i64 0), (Value.slice none 0 0)] 1 [(0, .agg c.toArray)] <| gh <| Keep (Stay I0 X0) fun v17 =>
          App 59 4 48 #[(Value.int .i64 0), (Value.int .i64 0), (Value.int .i64 0), (Value.slice none 0 0)] v16 v17 <| gh K) I L ∧ (BldS 59 4 #[(Value.int .i64 0), (Value.int .i64 0), (Value.int .i64 0), (Value.slice none 0 0)] 1 [(0, .agg c.toArray)] <| gh <| Keep (Stay I0 X0) fun v21 =>
          App 59 4 48 #[(Value.int .i64 0), (Value.int .i64 0), (Value.int .i64 0), (Value.slice none 0 0)] v15 v <| gh <| Keep (Stay I0 X0) fun v22 =>
          App 59 4 48 #[(Value.int .i64 0), (Value.int .i64 0), (Value.int .i64 0), (Value.slice none 0 0)] v22 v21 <| gh K) I L)) I L ∧ (BldS 59 4 #[(Value.int .i64 0), (Value.int .i64 0), (Value.int .i64 0), (Value.slice none 0 0)] 1 [(0, .agg c.toArray)] <| gh <| Keep (Stay I0 X0) fun v26 =>
        BldS 59 4 #[(Value.int .i64 0), (Value.int .i64 0), (Value.int .i64 0), (Value.slice none 0 0)] 0 [] <| gh <| Keep (Stay I0 X0) fun v27 =>
        App 59 4 48 #[(Value.int .i64 0), (Value.int .i64 0), (Value.int .i64 0), (Value.slice none 0 0)] v27 v <| gh <| Keep (Stay I0 X0) fun v28 =>
        App 59 4 48 #[(Value.int .i64 0), (Value.int .i64 0), (Value.int .i64 0), (Value.slice none 0 0)] v28 v26 <| gh K) I L) I L := by
  have hcl : (Value.agg c.toArray).cells.size = 4 := by simpa [Value.cells] using LeV.len he
  refine ⟨bld_zero (fun X u hX => keepC hI ⟨?_, ?_⟩), ?_⟩
  · refine copy_app (X := X) (Ents.to hE (Ext.refl I)) hX (by omega) (fun X1 v1 cells1 h1 hR1 => Gh.done (keepC hI ?_))
    refine bld_one rfl (by omega) hcl (fun X2 u2 hX2 => keepC hI ?_)
    simp only [Value.cells, List.toList_toArray] at hX2
    refine one_app (X := X1) h1 hR1 he hX2 (fun x hx => List.mem_append_left _ hx) hl (fun X' v' cells' h' hR' => ?_)
    exact Gh.to (X' ++ L) (Gh.done (hk X' v' cells' h' hR'))
  · refine bld_one rfl (by omega) hcl (fun X2 u2 hX2 => keepC hI ?_)
    simp only [Value.cells, List.toList_toArray] at hX2
    refine copy_app (X := X) (Ents.to hE (Ext.refl I)) hX (by omega) (fun X1 v1 cells1 h1 hR1 => Gh.done (keepC hI ?_))
    refine one_app (X := X1) h1 hR1 he hX2 (fun x hx => List.mem_append_right _ (List.mem_append_left _ hx)) hl (fun X' v' cells' h' hR' => ?_)
    exact Gh.to (X' ++ L) (Gh.done (hk X' v' cells' h' hR'))
  · refine bld_one rfl (by omega) hcl (fun X2 u2 hX2 => keepC hI ?_)
    simp only [Value.cells, List.toList_toArray] at hX2
    refine bld_zero (fun X u hX => keepC hI ?_)
    refine copy_app (X := X) (Ents.to hE (Ext.refl I)) hX (by omega) (fun X1 v1 cells1 h1 hR1 => Gh.done (keepC hI ?_))
    refine one_app (X := X1) h1 hR1 he hX2 (fun x hx => List.mem_append_right _ (List.mem_append_left _ hx)) hl (fun X' v' cells' h' hR' => ?_)
    exact Gh.to (X' ++ L) (Gh.done (hk X' v' cells' h' hR'))

theorem radd_spec {b : Nat} {X F : LH} {g : LG} {t k : Int} {dv : Value} {d : List UInt8} (h : LogQ I b X g) (hw : WF g) (hd : Bytes I dv d) (hlen : (g.es.length + 1) * 48 ≤ 150000000000000)
    (hk : ∀ X' I', Ext I I' → LogQ I' b X' (addG g t k d).2.2 → K (.tuple #[.int .i64 (addG g t k d).1, .int .i64 (addG g t k d).2.1]) I' (X' ++ F)) :
    Cal Try.prog ω 76 #[.pointer (some ⟨b, 0, none⟩), .int .i64 t, .int .i64 k, dv] K I (X ++ F) := by
  have hl := hw.last
  refine cal76 ?_
  unfold sh76
  refine call (rlast_spec h.viewF hw.sz ?_)
  refine call (rlastTerm_spec h.viewF hw.sz ?_)
  have hd' := hd
  obtain ⟨a, cap, rfl⟩ := Bytes.form hd'
  simp only [SSe, List.getElem?_toArray, List.getElem?_cons_zero, List.getElem?_cons_succ, Nat.zero_add, Nat.add_zero, Nat.zero_mul, wrap_i64 (lastI g + 1) (by omega), bldE]
  have hc : LeV I ⟨lastI g + 1, t, k, d⟩ [.int .i64 (lastI g + 1), .int .i64 t, .int .i64 k, .slice a d.length cap] := ⟨_, rfl, hd⟩
  refine newI (fun b1 => ?_)
  refine stB rfl rfl (one_all rfl) ?_
  refine rdB rfl ?_
  refine one_ents hc (fun u I2 hI2 hE => ?_)
  refine call (rfollows_spec hE (by simp) (fun I3 f hI3 hf => ?_))
  have hf := hf (by simp [countB]; omega)
  subst hf
  try simp only [SSe, List.getElem?_toArray, List.getElem?_cons_zero, List.getElem?_cons_succ, Nat.zero_add, Nat.add_zero, Nat.zero_mul]
  refine br_split (fun h1 => ?_) (fun h1 => ?_)
  · rw [addG, if_neg (by simpa using h1)] at hk
    exact Gh.to (X ++ F) (Gh.done (hk X I3 (hI2.trans hI3) (h.mono (hI2.trans hI3))))
  · rw [addG, if_pos (by simpa using h1)] at hk
    obtain ⟨mv, lv, rfl, hm, hQ⟩ := h.mono (hI2.trans hI3)
    refine drawC ?_
    simp only [List.cons_append, List.nil_append]
    refine rdbS ?_
    refine rdBS rfl ?_
    refine snoc3 (e := ⟨lastI g + 1, t, k, d⟩) hQ (hc.mono (hI2.trans hI3)) (Ext.refl I3) hlen (fun X' v' cells' h' hR' => ?_)
    try simp only [SSe, List.getElem?_toArray, List.getElem?_cons_zero, List.getElem?_cons_succ, Nat.zero_add, Nat.add_zero, Nat.zero_mul]
    refine st1G (gr_one (I := I3) (.inl h')) ?_
    refine Ents.ofO h' hR' (fun I4 hI4 hE4 => Gh.done ?_)
    unfold sh76_1
    simp only [SSe, List.getElem?_toArray, List.getElem?_cons_zero, List.getElem?_cons_succ, Nat.zero_add, Nat.add_zero, Nat.zero_mul, wrap_i64 (lastI g + 1) (by omega)]
    exact Gh.to (_ :: F) (Gh.done (hk [_] I4 ((hI2.trans hI3).trans hI4) ⟨mv, v', rfl, hm.mono hI4, hE4⟩))

theorem rcut_spec {b : Nat} {X F : LH} {g : LG} {i : Int} (h : LogQ I b X g) (hw : WF g) (hi : inI64 i)
    (hk : ∀ X' I', Ext I I' → LogQ I' b X' (cutG g i).2 → K (.int .i64 (cutG g i).1) I' (X' ++ F)) : Cal Try.prog ω 25 #[.pointer (some ⟨b, 0, none⟩), .int .i64 i] K I (X ++ F) := by
  obtain ⟨mv0, lv0, hm0, hl0, c0, c1, c2, c3, c4, c5⟩ := (h.viewF (F := F)).cells
  have hlast := hw.last
  have hcom := hw.com
  have hlen := hw.len
  refine cal25 ?_
  unfold sh25
  try simp only [SSe, List.getElem?_toArray, List.getElem?_cons_zero, List.getElem?_cons_succ, Nat.zero_add, Nat.add_zero, Nat.zero_mul]
  refine rd1 c0 ?_
  try simp only [SSe, List.getElem?_toArray, List.getElem?_cons_zero, List.getElem?_cons_succ, Nat.zero_add, Nat.add_zero, Nat.zero_mul]
  have bad : (i < g.index ∨ g.commit < i) → Gh (K (.int .i64 100)) I (X ++ F) := fun hb => by
    rw [cutG, if_pos hb] at hk
    exact Gh.done (hk X I (Ext.refl I) h)
  refine gd_split (fun h1 => ?_) (fun h1 => bad (by simp at h1; omega))
  simp at h1
  refine rd1 c4 ?_
  try simp only [SSe, List.getElem?_toArray, List.getElem?_cons_zero, List.getElem?_cons_succ, Nat.zero_add, Nat.add_zero, Nat.zero_mul]
  refine br_split (fun h2 => bad (by simp at h2; omega)) (fun h2 => ?_)
  simp at h2
  rw [cutG, if_neg (by omega)] at hk
  refine call (rterm_spec h.viewF hw.sz hi ?_)
  try simp only [SSe, List.getElem?_toArray, List.getElem?_cons_zero, List.getElem?_cons_succ, Nat.zero_add, Nat.add_zero, Nat.zero_mul]
  refine call (rmembersAt_spec h.viewF hw hi (fun v I1 hI1 hv => ?_))
  try simp only [SSe, List.getElem?_toArray, List.getElem?_cons_zero, List.getElem?_cons_succ, Nat.zero_add, Nat.add_zero, Nat.zero_mul]
  obtain ⟨mv, lv, rfl, hm, hE⟩ := h.mono hI1
  refine drawC ?_
  simp only [List.cons_append, List.nil_append]
  refine bld_zero (fun X0 u hX0 => keepC (Ext.refl _) ?_)
  refine rdbS ?_
  refine rdbS ?_
  unfold inI64 at hi
  unfold lastI at hlast hcom
  simp only [SSe, List.getElem?_toArray, List.getElem?_cons_zero, List.getElem?_cons_succ, Nat.zero_add, Nat.add_zero, Nat.zero_mul, wrap_i64 (i - g.index) (by omega)]
  obtain ⟨v1, hs1, hl1⟩ := RL.part hE (lo := (i - g.index).toNat) (hi := g.es.length) (by omega) (Nat.le_refl _) (some (.int .i64 (i - g.index))) none (by simp [bndV]; omega) (fun _ _ => rfl)
  rw [List.take_of_length_le (by simp)] at hl1
  simp only [hs1, SSe, List.getElem?_toArray, List.getElem?_cons_zero, List.getElem?_cons_succ, Nat.zero_add, Nat.add_zero, Nat.zero_mul]
  refine copy_app (X := X0) (Ents.to hl1 (Ext.refl _)) hX0 (by rw [List.length_drop]; omega) (fun X' v' cells' h6 hR' => Gh.done ?_)
  refine st1 (gr_one (I := I1) (.inl h6)) ?_
  try simp only [SSe, List.getElem?_toArray, List.getElem?_cons_zero, List.getElem?_cons_succ, Nat.zero_add, Nat.add_zero, Nat.zero_mul]
  refine st1 rfl ?_
  refine st1 rfl ?_
  refine st1 (ints_one hv) ?_
  refine Ents.ofO h6 hR' (fun I2 hI2 hE2 => ?_)
  exact Gh.to (_ :: F) (Gh.done (hk [_] I2 (hI1.trans hI2) ⟨_, v', rfl, hv.mono hI2, hE2⟩))

theorem rreset_spec {b : Nat} {X F : LH} {g : LG} {i t : Int} {mv : Value} {m : List Int} (h : LogQ I b X g) (hw : WF g) (hm : Ints I mv m) (hi : inI64 i)
    (hk : ∀ X' I', Ext I I' → LogQ I' b X' (resetG g i t m).2 → K (.int .i64 (resetG g i t m).1) I' (X' ++ F)) : Cal Try.prog ω 79 #[.pointer (some ⟨b, 0, none⟩), .int .i64 i, .int .i64 t, mv] K I (X ++ F) := by
  have hlast := hw.last
  have hcom := hw.com
  have hlen := hw.len
  refine cal79 ?_
  unfold sh79
  refine call (rpoint_spec hm ?_)
  try simp only [SSe, List.getElem?_toArray, List.getElem?_cons_zero, List.getElem?_cons_succ, Nat.zero_add, Nat.add_zero, Nat.zero_mul]
  refine br_split (fun h1 => ?_) (fun h1 => ?_)
  · rw [resetG, if_pos (by simpa using h1)] at hk
    exact Gh.to (X ++ F) (Gh.done (hk X I (Ext.refl I) h))
  have hp : pointB i t m = true := by simpa using h1
  rw [resetG, if_neg (by simp [hp])] at hk
  obtain ⟨mv0, lv0, hm0, hl0, c0, c1, c2, c3, c4, c5⟩ := (h.viewF (F := F)).cells
  refine rd1 c4 ?_
  try simp only [SSe, List.getElem?_toArray, List.getElem?_cons_zero, List.getElem?_cons_succ, Nat.zero_add, Nat.add_zero, Nat.zero_mul]
  refine br_split (fun h2 => ?_) (fun h2 => ?_)
  · rw [if_pos (by simpa using h2)] at hk
    exact Gh.to (X ++ F) (Gh.done (hk X I (Ext.refl I) h))
  simp at h2
  rw [if_neg (by omega)] at hk
  refine call (rterm_spec h.viewF hw.sz hi ?_)
  try simp only [SSe, List.getElem?_toArray, List.getElem?_cons_zero, List.getElem?_cons_succ, Nat.zero_add, Nat.add_zero, Nat.zero_mul]
  have fin : ∀ (lv' : Value) (es' : List LE) (mv1 : Value) (I2 : Imm), Ext I I2 → Ents I2 lv' es' →
      (if termAt g i = (t, 0) then g.es.drop (i - g.index).toNat else []) = es' → sh79_1 ω (.pointer (some ⟨b, 0, none⟩)) (.int .i64 i) (.int .i64 t) mv (.int .i64 0) (fun v => Gh (K v)) I2 ((b, Obj.cells #[.int .i64 g.index, .int .i64 g.term, mv1, lv', .int .i64 g.commit] 120 (0, 0)) :: F) := by
    intro lv' es' mv1 I2 hI2 hE he
    unfold sh79_1
    try simp only [SSe, List.getElem?_toArray, List.getElem?_cons_zero, List.getElem?_cons_succ, Nat.zero_add, Nat.add_zero, Nat.zero_mul]
    refine st1 rfl ?_
    refine st1 rfl ?_
    refine st1 (ints_one hm) ?_
    refine st1 rfl ?_
    exact Gh.done (hk [_] I2 hI2 ⟨mv, lv', rfl, hm.mono hI2, by rw [he]; exact hE⟩)
  have no : termAt g i ≠ (t, 0) → sh79_3 ω (.pointer (some ⟨b, 0, none⟩)) (.int .i64 i) (.int .i64 t) mv (.int .i64 0) (fun v => Gh (K v)) I (X ++ F) := by
    intro hne
    obtain ⟨mv1, lv, rfl, hm1, hE⟩ := h
    unfold sh79_3
    simp only [SSe, List.getElem?_toArray, List.getElem?_cons_zero, List.getElem?_cons_succ, Nat.zero_add, Nat.add_zero, Nat.zero_mul, List.cons_append, List.nil_append]
    refine st1 rfl ?_
    exact fin _ [] mv1 I (Ext.refl I) (RL.nil _ _) (by rw [if_neg hne])
  refine gd_split (fun h3 => ?_) (fun h3 => no (by intro e; rw [e] at h3; simp at h3))
  refine br_split (fun h4 => ?_) (fun h4 => no (by intro e; rw [e] at h4; simp at h4))
  have ht : termAt g i = (t, 0) := by
    simp at h3 h4
    rw [← h4, ← h3]
  obtain ⟨q1, q2⟩ := termAt_ok ht
  unfold lastI at q2 hlast
  obtain ⟨mv1, lv, rfl, hm1, hE⟩ := h
  unfold sh79_2
  simp only [SSe, List.getElem?_toArray, List.getElem?_cons_zero, List.getElem?_cons_succ, Nat.zero_add, Nat.add_zero, Nat.zero_mul, List.cons_append, List.nil_append]
  refine drawC ?_
  refine bld_zero (fun X0 u hX0 => keepC (Ext.refl _) ?_)
  refine rdbS ?_
  refine rdbS ?_
  simp only [SSe, List.getElem?_toArray, List.getElem?_cons_zero, List.getElem?_cons_succ, Nat.zero_add, Nat.add_zero, Nat.zero_mul, wrap_i64 (i - g.index) (by omega)]
  obtain ⟨v1, hs1, hl1⟩ := RL.part hE (lo := (i - g.index).toNat) (hi := g.es.length) (by omega) (Nat.le_refl _) (some (.int .i64 (i - g.index))) none (by simp [bndV]; omega) (fun _ _ => rfl)
  rw [List.take_of_length_le (by simp)] at hl1
  simp only [hs1, SSe, List.getElem?_toArray, List.getElem?_cons_zero, List.getElem?_cons_succ, Nat.zero_add, Nat.add_zero, Nat.zero_mul]
  refine copy_app (X := X0) (Ents.to hl1 (Ext.refl _)) hX0 (by rw [List.length_drop]; omega) (fun X' v' cells' h6 hR' => Gh.done ?_)
  try simp only [SSe, List.getElem?_toArray, List.getElem?_cons_zero, List.getElem?_cons_succ, Nat.zero_add, Nat.add_zero, Nat.zero_mul]
  refine st1G (gr_one (I := I) (.inl h6)) ?_
  refine Ents.ofO h6 hR' (fun I2 hI2 hE2 => Gh.done ?_)
  exact fin _ _ mv1 I2 hI2 hE2 (by rw [if_pos ht])

end
end Go.Proofs.Ytdcpeboecmkmlaa
