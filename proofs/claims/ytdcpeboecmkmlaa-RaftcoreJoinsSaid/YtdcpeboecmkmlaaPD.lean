/-
  A world of five nodes: what a node has committed is noted down, who leads is noted down.
-/
-- S3
import Derived.Test.YtdcpeboecmkmlaaPC
set_option linter.unusedSimpArgs false
set_option linter.unusedVariables false
namespace Go.Proofs.Ytdcpeboecmkmlaa
open Go.SL
set_option maxRecDepth 10000

/-- what is noted down for an index, for a term -/
def comG (l : List LE) (i : Int) : LE := (l[(i - 1).toNat]?).getD le0
def ledG (l : List Int) (t : Int) : Int := (l[t.toNat]?).getD 0
instance : Inhabited LE := ⟨le0⟩
theorem comG_in {l : List LE} {i : Int} (h1 : 1 ≤ i) (h2 : i ≤ l.length) : comG l i = geti l (i - 1) := by
  unfold comG; rw [geti_some (by omega) (by omega)]; rfl
theorem comG_pad (l : List LE) (i : Int) : comG (l ++ [le0]) i = comG l i := by
  unfold comG
  rcases Nat.lt_trichotomy (i - 1).toNat l.length with h | h | h
  · rw [List.getElem?_append_left h]
  · rw [h, List.getElem?_concat_length, List.getElem?_eq_none (Nat.le_refl _)]; rfl
  · rw [List.getElem?_eq_none (by simp; omega), List.getElem?_eq_none (by omega)]
theorem comG_set {l : List LE} {i j : Int} {e : LE} (h1 : 1 ≤ i) (h2 : i ≤ l.length) (hj : 1 ≤ j) : comG (l.set (i - 1).toNat e) j = if j = i then e else comG l j := by
  unfold comG
  by_cases h : j = i
  · subst h; rw [if_pos rfl, List.getElem?_set_self (by omega)]; rfl
  · rw [if_neg h, List.getElem?_set_ne (by omega)]
theorem ledG_pad (l : List Int) (i : Int) : ledG (l ++ [0]) i = ledG l i := by
  unfold ledG
  rcases Nat.lt_trichotomy i.toNat l.length with h | h | h
  · rw [List.getElem?_append_left h]
  · rw [h, List.getElem?_concat_length, List.getElem?_eq_none (Nat.le_refl _)]; rfl
  · rw [List.getElem?_eq_none (by simp; omega), List.getElem?_eq_none (by omega)]
theorem ledG_set {l : List Int} {i j e : Int} (h1 : 0 ≤ i) (h2 : i < l.length) (hj : 0 ≤ j) : ledG (l.set i.toNat e) j = if j = i then e else ledG l j := by
  unfold ledG
  by_cases h : j = i
  · subst h; rw [if_pos rfl, List.getElem?_set_self (by omega)]; rfl
  · rw [if_neg h, List.getElem?_set_ne (by omega)]
theorem ledG_in {l : List Int} {i : Int} (h1 : 0 ≤ i) (h2 : i < l.length) : ledG l i = geti l i := by
  unfold ledG; rw [geti_some h1 h2]; rfl
theorem Recs.set {α : Type} {R : α → List Value → Prop} {n : Nat} {xs : List α} {cells vs : List Value} {i : Nat} {x : α} (h : Recs R n xs cells) (hi : i < xs.length) (hl : vs.length = n) (hx : R x vs) :
    Recs R n (xs.set i x) (cells.take (i * n) ++ (vs ++ cells.drop (i * n + n))) := by
  rw [List.set_eq_take_append_cons_drop, if_pos hi]
  refine Recs.append (h.take i) (Recs.append (xs := [x]) (Recs.one hl hx) ?_)
  rw [show i * n + n = (i + 1) * n from (Nat.succ_mul i n).symm]
  exact h.drop (i + 1)
theorem i64s_set {l : List Int} {k : Nat} {x : Int} : (i64s l).set k (.int .i64 x) = i64s (l.set k x) := by
  simp only [i64s, List.map_set]

theorem set_cells {l : List Value} {k : Nat} {v : Value} (h : k < l.length) : l.take (k * 1) ++ ([v] ++ l.drop (k * 1 + 1)) = l.set k v := by
  rw [Nat.mul_one, List.set_eq_take_append_cons_drop, if_pos h]; rfl
section
variable {ω : Om} {I : Imm} {L : LH} {K : Value → M}
/-- an element of several cells of an owned slice is set -/
theorem setN_own {I : Imm} {X L F : LH} [hsp : SplitL X L F] {T n len : Nat} {v : Value} {cells vs : List Value} {i : Int} {u0 : Value} (hvc : u0.cells.toList = vs) (ho : SlO T n X v cells len) (h0 : 0 ≤ i) (h1 : i < len) (hvl : vs.length = n) (hu : ∀ u ∈ vs, u.oneCell' = true) :
    ∃ b, ixV n v (.int .i64 i) = some (.pointer (some ⟨b, i.toNat * n, none⟩)) ∧ ∀ {K : Value → M} (_ : ∀ X', SlO T n X' v (cells.take (i.toNat * n) ++ (vs ++ cells.drop (i.toNat * n + n))) len → Gh (K undef) I (X' ++ F)), Sto n (.pointer (some ⟨b, i.toNat * n, none⟩)) u0 (gh K) I L := by
  have hp := hsp.perm
  obtain ⟨hl, ho'⟩ := ho
  rcases ho' with ⟨rfl, rfl, a, rfl⟩ | ⟨b, cap, cs, rfl, rfl, hcs, hle, hc⟩
  · omega
  · refine ⟨b, by rw [ixV_int b 0 n .i64 len cap i h0 h1, Nat.zero_add], fun hk => ?_⟩
    have hmem : (b, Obj.cells cs T (0, 0)) ∈ L := hp.mem_iff.2 (List.mem_append_left _ (List.mem_singleton.2 rfl))
    obtain ⟨L1, L2, rfl⟩ := List.append_of_mem hmem
    have hF : (L1 ++ L2).Perm F := by
      have h2 : (L1 ++ (b, Obj.cells cs T (0, 0)) :: L2).Perm ((b, Obj.cells cs T (0, 0)) :: (L1 ++ L2)) := List.perm_middle
      exact (List.perm_cons _).1 (h2.symm.trans hp)
    have hin : i.toNat * n + n ≤ len * n := by
      rw [← Nat.succ_mul]; exact Nat.mul_le_mul_right n (by omega)
    have hcap : len * n ≤ cap * n := Nat.mul_le_mul_right n hle
    refine ⟨b, i.toNat * n, cs, T, L1, L2, rfl, by rw [← Array.length_toList, hvc]; exact hvl, by rw [hvc]; exact hu, by omega, rfl, ?_⟩
    have hlen : (cells.take (i.toNat * n) ++ (vs ++ cells.drop (i.toNat * n + n))).length = len * n := by
      rw [List.length_append, List.length_append, List.length_take, List.length_drop, hl, hvl]
      generalize i.toNat * n = q at *
      generalize len * n = p at *
      omega
    refine Gh.perm (List.perm_middle.trans (List.Perm.cons _ hF)) (hk [(b, _)] ⟨hlen, .inr ⟨b, cap, _, rfl, rfl, by rw [wr_size]; exact hcs, hle, ?_⟩⟩)
    intro j w hw
    rw [hvc]
    rw [wr_get vs cs _ _ (by omega)]
    have ht : (cells.take (i.toNat * n)).length = i.toNat * n := by rw [List.length_take]; omega
    by_cases hj : j < i.toNat * n
    · rw [if_pos hj]
      rw [List.getElem?_append_left (by omega), List.getElem?_take_of_lt hj] at hw
      exact hc j w hw
    · rw [if_neg hj]
      rw [List.getElem?_append_right (by omega), ht] at hw
      by_cases hj2 : j < i.toNat * n + vs.length
      · rw [if_pos hj2]
        rwa [List.getElem?_append_left (by omega)] at hw
      · rw [if_neg hj2]
        rw [List.getElem?_append_right (by omega), List.getElem?_drop] at hw
        rw [show i.toNat * n + n + (j - i.toNat * n - vs.length) = j by omega] at hw
        exact hc j w hw
theorem RL.ofOwn {α : Type} {R : Imm → α → List Value → Prop} {I : Imm} {T n : Nat} {X L : LH} {v : Value} {xs : List α} {cells : List Value} (h : SlO T n X v cells xs.length) (hr : Recs (R I) n xs cells) (hL : ∀ x ∈ X, x ∈ L) : RL R n I L v xs := by
  have hn := h.news (I := I) hL
  obtain ⟨a, cap, rfl⟩ := h.form
  refine ⟨a, cap, cells, rfl, ?_, hn, hr⟩
  rcases h.2 with ⟨_, h0, a', e⟩ | ⟨b, cap', cs, _, e, _, hle, _⟩
  · omega
  · simp only [Value.slice.injEq] at e
    omega
theorem glogR2_spec {b : Nat} {X F : LH} {r : RF} (h : RaftR I b X r) (hw : WF r.g) (hk : ∀ lb' o I', Ext I I' → LogV I' ((lb', o) :: X) lb' r.g → K (.pointer (some ⟨lb', 0, none⟩)) I' ((lb', o) :: (X ++ F))) :
    Cal Try.prog ω 45 #[.pointer (some ⟨b, 0, none⟩)] K I (X ++ F) := by
  obtain ⟨lb, XL, XO, stv, ov, z0, z1, z2, oc, rfl, h1, h2, h3, h4⟩ := h
  obtain ⟨mv, lv, XL2, cells, rfl, hm, hG, hRc⟩ := h1
  have hlv : LsV I XL2 lv r.g.es := by
    obtain ⟨a, cap, hv, hle⟩ := hG.form
    exact ⟨a, cap, cells, hv, hle, hG.news (fun x hx => hx), hRc⟩
  simp only [List.cons_append, List.append_assoc] at hk ⊢
  refine glog_spec (L0 := XL2) (Cell.own (InL.mem) rfl) (cells_own InL.mem) hm hlv (memB_len hw.mem) (fun lb' mv' a I2 hI2 hm2 hl2 => ?_)
  exact hk lb' _ I2 hI2 ⟨mv', _, cells_own InL.mem, hm2, LsV.to hl2 (Ext.refl _)⟩
theorem grole_at {b : Nat} {X : LH} {r : RF} (h : RaftR I b X r) (hX : ∀ x ∈ X, x ∈ L) : Cell I L b 6 (.int .i64 r.role) ∧ Cell I L b 2 (.int .i64 r.term) := by
  obtain ⟨lb, XL, XO, stv, ov, z0, z1, z2, oc, rfl, h1, h2, h3, h4⟩ := h
  exact ⟨Cell.own (hX _ (List.mem_cons_self ..)) rfl, Cell.own (hX _ (List.mem_cons_self ..)) rfl⟩
theorem cat_in {k : Int} (h : 1 ≤ k ∧ k ≤ 5) (Xs : Int → LH) (F : LH) : ∀ x ∈ Xs k, x ∈ catX Xs F := fun x hx => (cat_perm h Xs F).mem_iff.2 (List.mem_append_left _ hx)

/-- who leads is noted down -/
theorem holds1_spec {wb : Nat} {bs : Int → Nat} {Xs : Int → LH} {XS XC XD F L' : LH} {sv cv dv x4 : Value} {w : WM} {k : Int} [hs : SubP ((wb, Obj.cells (wcells bs sv cv dv).toArray 103 (0, 0)) :: catX Xs (XS ++ (XC ++ (XD ++ F)))) L']
    (hk5 : 1 ≤ k ∧ k ≤ 5) (hN : NodesR I bs Xs w.n) (hR : RestR I XS XC XD sv cv dv w) (h2 : (w.n k).role = 3 → (1 ≤ (w.n k).term ∧ (w.n k).term ≤ 10000) ∧ (ledG w.led (w.n k).term = 0 ∨ ledG w.led (w.n k).term = k)) (hll : w.led.length ≤ 10001)
    (hk : ∀ L2 led', WorldR I wb L2 { w with led := led' } F → (∀ t, 0 ≤ t → ledG led' t = if (w.n k).role = 3 ∧ t = (w.n k).term then k else ledG w.led t) → led'.length ≤ 10001 → K (.bool true) I L2) :
    sh49_1 ω (.pointer (some ⟨wb, 0, none⟩)) (.int .i64 k) x4 (.pointer (some ⟨bs k, 0, none⟩)) (fun v => Gh (K v)) I L' := by
  obtain ⟨R0, hR0⟩ := hs.sub
  obtain ⟨hS, hC, h4⟩ := hR
  have hcell := grole_at (L := L') (hN k hk5) (fun x hx => hR0.mem_iff.2 (List.mem_append_left _ (List.mem_cons_of_mem _ (cat_in hk5 Xs _ x hx))))
  unfold sh49_1
  refine call (grole_spec hcell.1 ?_)
  refine callG (gterm_spec hcell.2 ?_)
  refine Gh.to ((wb, Obj.cells (wcells bs sv cv dv).toArray 103 (0, 0)) :: catX Xs (XS ++ (XC ++ (XD ++ F)))) (Gh.done ?_)
  try simp only [SSd, List.getElem?_toArray, List.getElem?_cons_zero, List.getElem?_cons_succ, Nat.zero_add, Nat.add_zero, Nat.zero_mul, List.drop_succ_cons, List.drop_zero, List.take_succ_cons, List.take_zero, List.nil_append, List.cons_append, Nat.reduceAdd, List.drop_nil, List.take_nil]
  refine br_split (fun hr => ?_) (fun hr => ?_)
  · have hr : (w.n k).role ≠ 3 := by simpa using hr
    refine Gh.done (hk _ w.led ⟨bs, Xs, XS, XC, XD, sv, cv, dv, hN, ⟨hS, hC, h4⟩, rfl⟩ (fun t _ => by rw [if_neg (fun h => hr h.1)]) hll)
  have hr : (w.n k).role = 3 := by simpa using hr
  obtain ⟨⟨ht1, ht2⟩, hled⟩ := h2 hr
  generalize ht : (w.n k).term = t at *
  refine gd_split (fun h => ?_) (fun h => ?_)
  rotate_left
  · exfalso; simp at h; omega
  refine br_split (fun h => by simp at h; omega) (fun _ => ?_)
  refine loop (fun m s I' L' => I' = I ∧ ∃ (led' : List Int) (X' : LH) (dv' : Value), led'.length + m = max w.led.length (t.toNat + 1) ∧ SlO 3 1 X' dv' (i64s led') led'.length ∧ (∀ j, ledG led' j = ledG w.led j) ∧
      L' = (wb, Obj.cells (wcells bs sv cv dv').toArray 103 (0, 0)) :: catX Xs (XS ++ (XC ++ (X' ++ F)))) (max w.led.length (t.toNat + 1) - w.led.length)
    ⟨rfl, w.led, XD, dv, by omega, h4, fun _ => rfl, rfl⟩ ?_
  rintro m s I' L' ⟨rfl, led', X', dv', hm, h4', hG, rfl⟩
  unfold sh49_6
  try simp only [SSd, List.getElem?_toArray, List.getElem?_cons_zero, List.getElem?_cons_succ, Nat.zero_add, Nat.add_zero, Nat.zero_mul, List.drop_succ_cons, List.drop_zero, List.take_succ_cons, List.take_zero, List.nil_append, List.cons_append, Nat.reduceAdd, List.drop_nil, List.take_nil]
  refine rdb ?_
  obtain ⟨a, cap, rfl⟩ := h4'.form
  try simp only [SSd, List.getElem?_toArray, List.getElem?_cons_zero, List.getElem?_cons_succ, Nat.zero_add, Nat.add_zero, Nat.zero_mul, List.drop_succ_cons, List.drop_zero, List.take_succ_cons, List.take_zero, List.nil_append, List.cons_append, Nat.reduceAdd, List.drop_nil, List.take_nil]
  refine br_split (fun hlt => ?_) (fun hlt => ?_)
  · simp at hlt
    refine rdb ?_
    try simp only [SSd, List.getElem?_toArray, List.getElem?_cons_zero, List.getElem?_cons_succ, Nat.zero_add, Nat.add_zero, Nat.zero_mul, List.drop_succ_cons, List.drop_zero, List.take_succ_cons, List.take_zero, List.nil_append, List.cons_append, Nat.reduceAdd, List.drop_nil, List.take_nil]
    refine bld_one rfl (by omega) rfl (fun X1 u hX1 => ?_)
    refine app_own (X := X') rfl h4' (hX1.news (fun x hx => List.mem_append_left _ hx)) (by simp [Value.cells, Value.oneCell']) (by omega) (by omega) (fun X6' v' h6 => ?_)
    refine st1 (SlO.one1 h6) ?_
    refine Gh.pick wb (catX Xs (XS ++ (XC ++ (X6' ++ F)))) (Gh.done ⟨m - 1, by omega, rfl, led' ++ [0], X6', v', by simp; omega, ?_, fun j => by rw [ledG_pad, hG], rfl⟩)
    simpa [Value.cells, i64s] using h6
  · simp at hlt
    have fin : ∀ (led2 : List Int) (X2 : LH), led2.length = led'.length → SlO 3 1 X2 (.slice a led'.length cap) (i64s led2) led2.length → (∀ j, 0 ≤ j → ledG led2 j = if j = t then k else ledG w.led j) →
        sh49_4 ω (.pointer (some ⟨wb, 0, none⟩)) (.int .i64 k) x4 (.int .i64 t) (fun v => Gh (K v)) I' ((wb, Obj.cells (wcells bs sv cv (.slice a led'.length cap)).toArray 103 (0, 0)) :: catX Xs (XS ++ (XC ++ (X2 ++ F)))) := by
      intro led2 X2 hl2 h2' hG2
      unfold sh49_4
      try simp only [SSd, List.getElem?_toArray, List.getElem?_cons_zero, List.getElem?_cons_succ, Nat.zero_add, Nat.add_zero, Nat.zero_mul, List.drop_succ_cons, List.drop_zero, List.take_succ_cons, List.take_zero, List.nil_append, List.cons_append, Nat.reduceAdd, List.drop_nil, List.take_nil]
      refine rdb ?_
      obtain ⟨b2, hix, hc2⟩ := h2'.ix .i64 (i := t.toNat) (by omega)
      rw [show ((t.toNat : Nat) : Int) = t by omega] at hix
      have hgt : geti led2 t = k := by
        rw [← ledG_in (by omega) (by omega), hG2 t (by omega), if_pos rfl]
      have hc3 := hc2 I' ((wb, Obj.cells (wcells bs sv cv (.slice a led'.length cap)).toArray 103 (0, 0)) :: catX Xs (XS ++ (XC ++ (X2 ++ F)))) (fun x hx => by simp [hx])
      rw [i64s_one_at (by omega) (by omega), hgt] at hc3
      simp only [hix, SSd, List.getElem?_toArray, List.getElem?_cons_zero, List.getElem?_cons_succ, Nat.zero_add, Nat.add_zero, Nat.zero_mul, List.drop_succ_cons, List.drop_zero, List.take_succ_cons, List.take_zero, List.nil_append, List.cons_append, Nat.reduceAdd, List.drop_nil, List.take_nil]
      refine rd1 (hc3 0 _ rfl) ?_
      simp only [SSd, List.getElem?_toArray, List.getElem?_cons_zero, List.getElem?_cons_succ, Nat.zero_add, Nat.add_zero, Nat.zero_mul, List.drop_succ_cons, List.drop_zero, List.take_succ_cons, List.take_zero, List.nil_append, List.cons_append, Nat.reduceAdd, List.drop_nil, List.take_nil, beq_self_eq_true]
      refine Gh.done (hk _ led2 ⟨bs, Xs, XS, XC, X2, sv, cv, _, hN, ⟨hS, hC, by rw [hl2] at h2' ⊢; exact h2'⟩, rfl⟩ (fun j hj => ?_) (by omega))
      rw [hG2 j hj]; simp [hr]
    unfold sh49_3
    try simp only [SSd, List.getElem?_toArray, List.getElem?_cons_zero, List.getElem?_cons_succ, Nat.zero_add, Nat.add_zero, Nat.zero_mul, List.drop_succ_cons, List.drop_zero, List.take_succ_cons, List.take_zero, List.nil_append, List.cons_append, Nat.reduceAdd, List.drop_nil, List.take_nil]
    refine rdb ?_
    obtain ⟨b2, hix, hc2⟩ := h4'.ix .i64 (i := t.toNat) (by omega)
    rw [show ((t.toNat : Nat) : Int) = t by omega] at hix
    have hc3 := hc2 I' ((wb, Obj.cells (wcells bs sv cv (.slice a led'.length cap)).toArray 103 (0, 0)) :: catX Xs (XS ++ (XC ++ (X' ++ F)))) (fun x hx => by simp [hx])
    rw [i64s_one_at (by omega) (by omega)] at hc3
    have hgt : geti led' t = ledG w.led t := by rw [← ledG_in (by omega) (by omega), hG]
    rw [hgt] at hc3
    simp only [hix, SSd, List.getElem?_toArray, List.getElem?_cons_zero, List.getElem?_cons_succ, Nat.zero_add, Nat.add_zero, Nat.zero_mul, List.drop_succ_cons, List.drop_zero, List.take_succ_cons, List.take_zero, List.nil_append, List.cons_append, Nat.reduceAdd, List.drop_nil, List.take_nil]
    refine rd1 (hc3 0 _ rfl) ?_
    try simp only [SSd, List.getElem?_toArray, List.getElem?_cons_zero, List.getElem?_cons_succ, Nat.zero_add, Nat.add_zero, Nat.zero_mul, List.drop_succ_cons, List.drop_zero, List.take_succ_cons, List.take_zero, List.nil_append, List.cons_append, Nat.reduceAdd, List.drop_nil, List.take_nil]
    refine br_split (fun h0 => ?_) (fun h0 => ?_)
    · simp at h0
      refine rdb ?_
      obtain ⟨b3, hix3, hst⟩ := setN_own (X := X') (L := (wb, Obj.cells (wcells bs sv cv (.slice a led'.length cap)).toArray 103 (0, 0)) :: catX Xs (XS ++ (XC ++ (X' ++ F)))) (I := I') (u0 := .int .i64 k) (i := t)
        rfl h4' (by omega) (by omega) rfl (by simp [Value.oneCell', Value.cells])
      simp only [hix3, SSd, List.getElem?_toArray, List.getElem?_cons_zero, List.getElem?_cons_succ, Nat.zero_add, Nat.add_zero, Nat.zero_mul, List.drop_succ_cons, List.drop_zero, List.take_succ_cons, List.take_zero, List.nil_append, List.cons_append, Nat.reduceAdd, List.drop_nil, List.take_nil]
      refine hst (fun X2 h2' => ?_)
      refine Gh.to ((wb, Obj.cells (wcells bs sv cv (.slice a led'.length cap)).toArray 103 (0, 0)) :: catX Xs (XS ++ (XC ++ (X2 ++ F)))) (Gh.done (fin (led'.set t.toNat k) X2 (by simp) ?_ (fun j hj => ?_)))
      · rw [← i64s_set, List.length_set]
        rw [← set_cells (by simp [i64s]; omega)]
        exact h2'
      · rw [ledG_set (by omega) (by omega) hj, hG]
    · exact fin led' X' rfl h4' (fun j hj => by
        rw [hG]; split
        · rename_i e; subst e; rcases hled with h | h
          · simp [h] at h0
          · exact h
        · rfl)

theorem LogV.toM {I I' : Imm} {L L' : LH} {b : Nat} {g : LG} (h : LogV I L b g) (hI : Ext I I') (hL : ∀ x ∈ L, x ∈ L') : LogV I' L' b g := LogV.to h hI (hL := ⟨hL⟩)
theorem ent_at {g : LG} {i : Int} (h1 : g.index < i) (h2 : i ≤ lastI g) : ∃ e, entAt g i = some e := by unfold entAt; rw [if_pos ⟨h1, h2⟩]; exact ⟨_, rfl⟩

set_option maxHeartbeats 1000000 in
theorem holds_spec {wb N : Nat} {w : WM} {F : LH} {k : Int} (hW : WorldR I wb L w F) (hw : WWF N w) (hk5 : 1 ≤ k ∧ k ≤ 5) (hcb : (w.n k).g.commit ≤ 100000) (hcl : w.com.length ≤ 100000) (hll : w.led.length ≤ 10001)
    (h1 : ∀ i e, (w.n k).g.index < i → i ≤ (w.n k).g.commit → entAt (w.n k).g i = some e → (comG w.com i).term = 0 ∨ comG w.com i = e)
    (h2 : (w.n k).role = 3 → (1 ≤ (w.n k).term ∧ (w.n k).term ≤ 10000) ∧ (ledG w.led (w.n k).term = 0 ∨ ledG w.led (w.n k).term = k))
    (hk : ∀ L' I' com' led', Ext I I' → WorldR I' wb L' { w with com := com', led := led' } F → com'.length ≤ 100000 → (∀ j, 1 ≤ j → comG com' j = if (w.n k).g.index < j ∧ j ≤ (w.n k).g.commit then (entAt (w.n k).g j).getD le0 else comG w.com j) →
      led'.length ≤ 10001 → (∀ t, 0 ≤ t → ledG led' t = if (w.n k).role = 3 ∧ t = (w.n k).term then k else ledG w.led t) → K (.bool true) I' L') :
    Cal Try.prog ω 49 #[.pointer (some ⟨wb, 0, none⟩), .int .i64 k] K I L := by
  obtain ⟨bs, Xs, XS, XC, XD, sv, cv, dv, hN, hR, rfl⟩ := hW
  have hwk := (hw.nod k hk5).1
  have hcm := hwk.wf.com
  have hix := hwk.wf.idx
  refine cal49 ?_
  unfold sh49
  simp only [SSd, List.getElem?_toArray, List.getElem?_cons_zero, List.getElem?_cons_succ, Nat.zero_add, Nat.add_zero, Nat.zero_mul, List.drop_succ_cons, List.drop_zero, List.take_succ_cons, List.take_zero, List.nil_append, List.cons_append, Nat.reduceAdd, List.drop_nil, List.take_nil, ixPV_at _ (show 0 ≤ k by omega) (show k < ((6 : Nat) : Int) by omega)]
  refine rdL (wc_at hk5) ?_
  simp only [SSd, List.getElem?_toArray, List.getElem?_cons_zero, List.getElem?_cons_succ, Nat.zero_add, Nat.add_zero, Nat.zero_mul, List.drop_succ_cons, List.drop_zero, List.take_succ_cons, List.take_zero, List.nil_append, List.cons_append, Nat.reduceAdd, List.drop_nil, List.take_nil, pt]
  refine callG (Cal.perm (L' := Xs k ++ ((wb, Obj.cells (wcells bs sv cv dv).toArray 103 (0, 0)) :: catR k Xs (XS ++ (XC ++ (XD ++ F))))) ((List.Perm.cons _ (cat_perm hk5 Xs _)).trans List.perm_middle.symm) (glogR2_spec (hN k hk5) hwk.wf (fun lb' o I1 hI1 hV => ?_)))
  refine Gh.perm (L' := (lb', o) :: (wb, Obj.cells (wcells bs sv cv dv).toArray 103 (0, 0)) :: catX Xs (XS ++ (XC ++ (XD ++ F)))) (List.Perm.cons _ (List.perm_middle.trans (List.Perm.cons _ (cat_perm hk5 Xs _).symm))) (Gh.done ?_)
  have hVL : ∀ {I' : Imm} {y : Nat × Obj} {A : LH} {W : LH}, Ext I1 I' → LogV I' (A ++ ((lb', o) :: y :: catX Xs W)) lb' (w.n k).g := fun hI => hV.toM hI (fun x hx => List.mem_append_right _ (by
    rcases List.mem_cons.1 hx with rfl | hx
    · exact List.mem_cons_self ..
    · exact List.mem_cons_of_mem _ (List.mem_cons_of_mem _ (cat_in hk5 Xs _ x hx))))
  try simp only [SSd, List.getElem?_toArray, List.getElem?_cons_zero, List.getElem?_cons_succ, Nat.zero_add, Nat.add_zero, Nat.zero_mul, List.drop_succ_cons, List.drop_zero, List.take_succ_cons, List.take_zero, List.nil_append, List.cons_append, Nat.reduceAdd, List.drop_nil, List.take_nil]
  refine call (commit_spec (hVL (A := []) (Ext.refl _)) ?_)
  refine call (start_spec (hVL (A := []) (Ext.refl _)) hwk.wf (fun mv I2 hI2 hm2 => ?_))
  refine newI (fun b9 => ?_)
  obtain ⟨ma, mcap, rfl⟩ := Ints.form hm2
  refine stB rfl rfl (one_all rfl) ?_
  try simp only [SSd, List.getElem?_toArray, List.getElem?_cons_zero, List.getElem?_cons_succ, Nat.zero_add, Nat.add_zero, Nat.zero_mul, List.drop_succ_cons, List.drop_zero, List.take_succ_cons, List.take_zero, List.nil_append, List.cons_append, Nat.reduceAdd, List.drop_nil, List.take_nil]
  refine rdb ?_
  have hi0 : 0 ≤ (w.n k).g.index := by
    have := hix; simp [countB] at this; omega
  have hwf := hwk.wf
  generalize hg : (w.n k).g = g at *
  simp only [SSd, List.getElem?_toArray, List.getElem?_cons_zero, List.getElem?_cons_succ, Nat.zero_add, Nat.add_zero, Nat.zero_mul, List.drop_succ_cons, List.drop_zero, List.take_succ_cons, List.take_zero, List.nil_append, List.cons_append, Nat.reduceAdd, List.drop_nil, List.take_nil, wrap_i64 (g.index + 1) (by omega)]
  refine loop (fun m s I' L' => Ext I2 I' ∧ ∃ (i : Int) (com' : List LE) (XC' : LH) (cv' : Value) (c : List Value), g.index + 1 ≤ i ∧ i + m = g.commit + 1 ∧ s = (.bool false, .int .i64 i, ()) ∧ SlO 59 4 XC' cv' c com'.length ∧ Recs (LeV I') 4 com' c ∧ com'.length ≤ 100000 ∧
      (∀ j, 1 ≤ j → comG com' j = if g.index < j ∧ j < i then (entAt g j).getD le0 else comG w.com j) ∧
      L' = (b9, Obj.cells #[.int .i64 g.index, .int .i64 g.term, .slice ma g.mem.length mcap] 46 (0, 0)) :: (lb', o) :: (wb, Obj.cells (wcells bs sv cv' dv).toArray 103 (0, 0)) :: catX Xs (XS ++ (XC' ++ (XD ++ F)))) (g.commit - g.index).toNat
    ⟨Ext.refl _, g.index + 1, w.com, XC, cv, _, by omega, by omega, rfl, hR.cmt.choose_spec.1, hR.cmt.choose_spec.2.imp fun _ _ h => h.mono (hI1.trans hI2), hcl, fun j hj => by rw [if_neg (by omega)], rfl⟩ ?_
  rintro m s I' L' ⟨hI, i, com', XC', cv', c, hi1, hi2, rfl, h3, h4, hlen, hG, rfl⟩
  unfold sh49_8
  try simp only [SSd, List.getElem?_toArray, List.getElem?_cons_zero, List.getElem?_cons_succ, Nat.zero_add, Nat.add_zero, Nat.zero_mul, List.drop_succ_cons, List.drop_zero, List.take_succ_cons, List.take_zero, List.nil_append, List.cons_append, Nat.reduceAdd, List.drop_nil, List.take_nil]
  have hI12 := (hI1.trans hI2).trans hI
  refine br_split (fun hle => ?_) (fun hle => ?_)
  rotate_left
  · simp at hle
    obtain rfl : i = g.commit + 1 := by omega
    refine holds1_spec (XS := XS) (XC := XC') (XD := XD) (F := F) (sv := sv) (cv := cv') (dv := dv) (w := { w with com := com' }) hk5 (hN.mono hI12) ⟨hR.snt.imp fun _ h => ⟨h.1, h.2.imp fun _ _ h => h.mono hI12⟩, ⟨c, h3, h4⟩, hR.ldr⟩ h2 hll (fun L2 led' hW2 hG2 hl2 => hk L2 I' com' led' hI12 hW2 hlen (fun j hj => ?_) hl2 hG2)
    rw [hG j hj]
    by_cases hj2 : g.index < j ∧ j ≤ g.commit
    · rw [if_pos (by omega), if_pos hj2]
    · rw [if_neg (by omega), if_neg hj2]
  simp at hle
  obtain ⟨e, he⟩ := ent_at (g := g) (i := i) (by omega) (by omega)
  have he1 := h1 i e (by omega) (by omega) he
  refine call (at_spec (hVL (A := [_]) (hI2.trans hI)) hwf (i := i) (by unfold inI64; omega) (fun ce I3 hI3 hce => ?_))
  rw [he] at hce
  simp only [Option.getD_some] at hce
  simp only [SSd, List.getElem?_toArray, List.getElem?_cons_zero, List.getElem?_cons_succ, Nat.zero_add, Nat.add_zero, Nat.zero_mul, List.drop_succ_cons, List.drop_zero, List.take_succ_cons, List.take_zero, List.nil_append, List.cons_append, Nat.reduceAdd, List.drop_nil, List.take_nil, he, Option.isSome_some]
  obtain ⟨ev, rfl, hB⟩ := hce
  obtain ⟨ea, ecap, rfl⟩ := hB.form
  refine newI (fun b5 => ?_)
  refine stB rfl rfl (one_all rfl) ?_
  try simp only [SSd, List.getElem?_toArray, List.getElem?_cons_zero, List.getElem?_cons_succ, Nat.zero_add, Nat.add_zero, Nat.zero_mul, List.drop_succ_cons, List.drop_zero, List.take_succ_cons, List.take_zero, List.nil_append, List.cons_append, Nat.reduceAdd, List.drop_nil, List.take_nil]
  refine br_split (fun h => by simp at h) (fun _ => ?_)
  -- the note and the entry are alike
  have fin : ∀ (com2 : List LE) (XC2 : LH) (cv2 : Value) (c2 : List Value), SlO 59 4 XC2 cv2 c2 com2.length → Recs (LeV I3) 4 com2 c2 → com2.length ≤ 100000 → i ≤ com2.length →
      (∀ j, 1 ≤ j → comG com2 j = if j = i then e else comG com' j) →
      sh49_10 ω (.pointer (some ⟨wb, 0, none⟩)) (.bool false) (.int .i64 i) (.pointer (some ⟨b5, 0, none⟩))
        (fun s' => Gh fun I2' L2 => ∃ m', m' < m ∧ (Ext I2 I2' ∧ ∃ (i : Int) (com' : List LE) (XC' : LH) (cv' : Value) (c : List Value), g.index + 1 ≤ i ∧ i + m' = g.commit + 1 ∧ s' = (.bool false, .int .i64 i, ()) ∧ SlO 59 4 XC' cv' c com'.length ∧ Recs (LeV I2') 4 com' c ∧ com'.length ≤ 100000 ∧
          (∀ j, 1 ≤ j → comG com' j = if g.index < j ∧ j < i then (entAt g j).getD le0 else comG w.com j) ∧
          L2 = (b9, Obj.cells #[.int .i64 g.index, .int .i64 g.term, .slice ma g.mem.length mcap] 46 (0, 0)) :: (lb', o) :: (wb, Obj.cells (wcells bs sv cv' dv).toArray 103 (0, 0)) :: catX Xs (XS ++ (XC' ++ (XD ++ F)))))
        (fun v => Gh (K v)) I3 ((b5, Obj.cells #[.int .i64 e.index, .int .i64 e.term, .int .i64 e.kind, .slice ea e.data.length ecap] 59 (0, 0)) :: (b9, Obj.cells #[.int .i64 g.index, .int .i64 g.term, .slice ma g.mem.length mcap] 46 (0, 0)) :: (lb', o) :: (wb, Obj.cells (wcells bs sv cv2 dv).toArray 103 (0, 0)) :: catX Xs (XS ++ (XC2 ++ (XD ++ F)))) := by
    intro com2 XC2 cv2 c2 h3' h4' hl2 hil hG2
    have hei : geti com2 (i - 1) = e := by rw [← comG_in (by omega) (by omega), hG2 i (by omega), if_pos rfl]
    unfold sh49_10
    refine drawC ?_
    refine rdBS rfl ?_
    refine bld_one rfl (by omega) rfl (fun X1 u hX1 => ?_)
    refine keepC (Ext.refl _) ?_
    try simp only [SSd, List.getElem?_toArray, List.getElem?_cons_zero, List.getElem?_cons_succ, Nat.zero_add, Nat.add_zero, Nat.zero_mul, List.drop_succ_cons, List.drop_zero, List.take_succ_cons, List.take_zero, List.nil_append, List.cons_append, Nat.reduceAdd, List.drop_nil, List.take_nil]
    refine rdbS ?_
    have hrl : RL LeV 4 I3 (X1 ++ ((b5, Obj.cells #[.int .i64 e.index, .int .i64 e.term, .int .i64 e.kind, .slice ea e.data.length ecap] 59 (0, 0)) :: (b9, Obj.cells #[.int .i64 g.index, .int .i64 g.term, .slice ma g.mem.length mcap] 46 (0, 0)) :: (lb', o) :: (wb, Obj.cells (wcells bs sv cv2 dv).toArray 103 (0, 0)) :: catX Xs (XS ++ (XC2 ++ (XD ++ F))))) cv2 com2 :=
      RL.ofOwn h3' h4' (fun x hx => by simp [hx])
    obtain ⟨v2, hs2, hl2'⟩ := RL.part hrl (lo := (i - 1).toNat) (hi := i.toNat) (by omega) (by omega) (some (.int .i64 (i - 1))) (some (.int .i64 i)) (by simp [bndV]; omega) (fun cap hcap => by simp [bndV]; omega)
    have hone : (com2.drop (i - 1).toNat).take (i.toNat - (i - 1).toNat) = [e] := by
      rw [show i.toNat - (i - 1).toNat = 1 by omega, List.drop_eq_getElem_cons (by omega), List.take_succ_cons, List.take_zero]
      congr 1
      rw [← hei]
      have := geti_some (l := com2) (i := i - 1) (by omega) (by omega)
      rw [List.getElem?_eq_getElem (by omega)] at this
      exact Option.some.inj this
    rw [hone] at hl2'
    simp only [wrap_i64 (i - 1) (by omega), hs2, SSd, List.getElem?_toArray, List.getElem?_cons_zero, List.getElem?_cons_succ, Nat.zero_add, Nat.add_zero, Nat.zero_mul, List.drop_succ_cons, List.drop_zero, List.take_succ_cons, List.take_zero, List.nil_append, List.cons_append, Nat.reduceAdd, List.drop_nil, List.take_nil]
    have hu : LsV I3 (X1 ++ ((b5, Obj.cells #[.int .i64 e.index, .int .i64 e.term, .int .i64 e.kind, .slice ea e.data.length ecap] 59 (0, 0)) :: (b9, Obj.cells #[.int .i64 g.index, .int .i64 g.term, .slice ma g.mem.length mcap] 46 (0, 0)) :: (lb', o) :: (wb, Obj.cells (wcells bs sv cv2 dv).toArray 103 (0, 0)) :: catX Xs (XS ++ (XC2 ++ (XD ++ F))))) u [e] :=
      RL.ofOwn hX1 (Recs.one rfl ⟨_, rfl, hB⟩) (fun x hx => by simp [hx])
    refine call (sameents_spec hu hl2' (by simp) ?_)
    simp only [SSd, List.getElem?_toArray, List.getElem?_cons_zero, List.getElem?_cons_succ, Nat.zero_add, Nat.add_zero, Nat.zero_mul, List.drop_succ_cons, List.drop_zero, List.take_succ_cons, List.take_zero, List.nil_append, List.cons_append, Nat.reduceAdd, List.drop_nil, List.take_nil, wrap_i64 (i + 1) (by omega)]
    refine br_split (fun h => by simp at h) (fun _ => ?_)
    refine Gh.to ((b9, Obj.cells #[.int .i64 g.index, .int .i64 g.term, .slice ma g.mem.length mcap] 46 (0, 0)) :: (lb', o) :: (wb, Obj.cells (wcells bs sv cv2 dv).toArray 103 (0, 0)) :: catX Xs (XS ++ (XC2 ++ (XD ++ F)))) (Gh.done ?_)
    refine ⟨m - 1, by omega, hI.trans hI3, i + 1, com2, XC2, cv2, c2, by omega, by omega, rfl, h3', h4', hl2, fun j hj => ?_, rfl⟩
    rw [hG2 j hj, hG j hj]
    by_cases hji : j = i
    · subst hji; rw [if_pos rfl, if_pos (by omega), he]; rfl
    · rw [if_neg hji]
      by_cases hj2 : g.index < j ∧ j < i
      · rw [if_pos hj2, if_pos (by omega)]
      · rw [if_neg hj2, if_neg (by omega)]
  have h3i := hI3
  refine loop (fun m2 s I2' L2 => I2' = I3 ∧ ∃ (com2 : List LE) (XC2 : LH) (cv2 : Value) (c2 : List Value), com2.length + m2 = max com'.length i.toNat ∧ SlO 59 4 XC2 cv2 c2 com2.length ∧ Recs (LeV I3) 4 com2 c2 ∧ (∀ j, comG com2 j = comG com' j) ∧
      L2 = (b5, Obj.cells #[.int .i64 e.index, .int .i64 e.term, .int .i64 e.kind, .slice ea e.data.length ecap] 59 (0, 0)) :: (b9, Obj.cells #[.int .i64 g.index, .int .i64 g.term, .slice ma g.mem.length mcap] 46 (0, 0)) :: (lb', o) :: (wb, Obj.cells (wcells bs sv cv2 dv).toArray 103 (0, 0)) :: catX Xs (XS ++ (XC2 ++ (XD ++ F)))) (max com'.length i.toNat - com'.length)
    ⟨rfl, com', XC', cv', c, by omega, h3, h4.imp fun _ _ h => h.mono hI3, fun _ => rfl, rfl⟩ ?_
  rintro m2 s I2' L2 ⟨rfl, com2, XC2, cv2, c2, hm2, h3', h4', hG2, rfl⟩
  unfold sh49_12
  try simp only [SSd, List.getElem?_toArray, List.getElem?_cons_zero, List.getElem?_cons_succ, Nat.zero_add, Nat.add_zero, Nat.zero_mul, List.drop_succ_cons, List.drop_zero, List.take_succ_cons, List.take_zero, List.nil_append, List.cons_append, Nat.reduceAdd, List.drop_nil, List.take_nil]
  refine rdb ?_
  obtain ⟨va, vcap, rfl⟩ := h3'.form
  try simp only [SSd, List.getElem?_toArray, List.getElem?_cons_zero, List.getElem?_cons_succ, Nat.zero_add, Nat.add_zero, Nat.zero_mul, List.drop_succ_cons, List.drop_zero, List.take_succ_cons, List.take_zero, List.nil_append, List.cons_append, Nat.reduceAdd, List.drop_nil, List.take_nil]
  refine br_split (fun hlt => ?_) (fun hlt => ?_)
  · simp at hlt
    refine rdb ?_
    try simp only [bldE0, SSd, List.getElem?_toArray, List.getElem?_cons_zero, List.getElem?_cons_succ, Nat.zero_add, Nat.add_zero, Nat.zero_mul, List.drop_succ_cons, List.drop_zero, List.take_succ_cons, List.take_zero, List.nil_append, List.cons_append, Nat.reduceAdd, List.drop_nil, List.take_nil]
    refine rec_app (R := LeV) (x := le0) (X6 := XC2) (c := [.int .i64 0, .int .i64 0, .int .i64 0, .slice none 0 0]) rfl (by omega) h3' h4' (zeroLe I2') rfl (one_all rfl) (by omega) (by omega) (fun X1 X6' v' cells' h6 hR6 => ?_)
    refine st1 (SlO.one1 h6) ?_
    refine Gh.to ((b5, Obj.cells #[.int .i64 e.index, .int .i64 e.term, .int .i64 e.kind, .slice ea e.data.length ecap] 59 (0, 0)) :: (b9, Obj.cells #[.int .i64 g.index, .int .i64 g.term, .slice ma g.mem.length mcap] 46 (0, 0)) :: (lb', o) :: (wb, Obj.cells (wcells bs sv v' dv).toArray 103 (0, 0)) :: catX Xs (XS ++ (X6' ++ (XD ++ F)))) (Gh.done ?_)
    exact ⟨m2 - 1, by omega, rfl, com2 ++ [le0], X6', v', cells', by simp; omega, h6, hR6, fun j => by rw [comG_pad, hG2], rfl⟩
  simp at hlt
  have hil : i ≤ com2.length := by omega
  have hl2 : com2.length ≤ 100000 := by omega
  unfold sh49_9
  try simp only [SSd, List.getElem?_toArray, List.getElem?_cons_zero, List.getElem?_cons_succ, Nat.zero_add, Nat.add_zero, Nat.zero_mul, List.drop_succ_cons, List.drop_zero, List.take_succ_cons, List.take_zero, List.nil_append, List.cons_append, Nat.reduceAdd, List.drop_nil, List.take_nil]
  refine rdb ?_
  have hrl : RL LeV 4 I2' ((b5, Obj.cells #[.int .i64 e.index, .int .i64 e.term, .int .i64 e.kind, .slice ea e.data.length ecap] 59 (0, 0)) :: (b9, Obj.cells #[.int .i64 g.index, .int .i64 g.term, .slice ma g.mem.length mcap] 46 (0, 0)) :: (lb', o) :: (wb, Obj.cells (wcells bs sv (.slice va com2.length vcap) dv).toArray 103 (0, 0)) :: catX Xs (XS ++ (XC2 ++ (XD ++ F)))) (.slice va com2.length vcap) com2 :=
    RL.ofOwn h3' h4' (fun x hx => by simp [hx])
  obtain ⟨b6, off6, c6, hix6, hcl6, ⟨dv6, rfl, hB6⟩, hc6⟩ := RL.ix hrl (i := i - 1) (by omega) (by omega)
  have hc6 := hc6 I2' _ (Ext.refl _) (fun _ h => h)
  have hgi : geti com2 (i - 1) = comG w.com i := by
    rw [← comG_in (by omega) (by omega), hG2, hG i (by omega), if_neg (by omega)]
  rw [hgi] at hc6
  simp only [wrap_i64 (i - 1) (by omega), hix6, SSd, List.getElem?_toArray, List.getElem?_cons_zero, List.getElem?_cons_succ, Nat.zero_add, Nat.add_zero, Nat.zero_mul, List.drop_succ_cons, List.drop_zero, List.take_succ_cons, List.take_zero, List.nil_append, List.cons_append, Nat.reduceAdd, List.drop_nil, List.take_nil]
  refine rd1 (hc6 1 _ rfl) ?_
  try simp only [SSd, List.getElem?_toArray, List.getElem?_cons_zero, List.getElem?_cons_succ, Nat.zero_add, Nat.add_zero, Nat.zero_mul, List.drop_succ_cons, List.drop_zero, List.take_succ_cons, List.take_zero, List.nil_append, List.cons_append, Nat.reduceAdd, List.drop_nil, List.take_nil]
  refine br_split (fun h0 => ?_) (fun h0 => ?_)
  · simp at h0
    refine drawC ?_
    refine rdbS ?_
    try simp only [wrap_i64 (i - 1) (by omega), SSd, List.getElem?_toArray, List.getElem?_cons_zero, List.getElem?_cons_succ, Nat.zero_add, Nat.add_zero, Nat.zero_mul, List.drop_succ_cons, List.drop_zero, List.take_succ_cons, List.take_zero, List.nil_append, List.cons_append, Nat.reduceAdd, List.drop_nil, List.take_nil]
    refine rdBS rfl ?_
    obtain ⟨b7, hix7, hst⟩ := setN_own (X := XC2) (L := (b5, Obj.cells #[.int .i64 e.index, .int .i64 e.term, .int .i64 e.kind, .slice ea e.data.length ecap] 59 (0, 0)) :: (b9, Obj.cells #[.int .i64 g.index, .int .i64 g.term, .slice ma g.mem.length mcap] 46 (0, 0)) :: (lb', o) :: (wb, Obj.cells (wcells bs sv (.slice va com2.length vcap) dv).toArray 103 (0, 0)) :: catX Xs (XS ++ (XC2 ++ (XD ++ F))))
      (I := I2') (u0 := .agg #[.int .i64 e.index, .int .i64 e.term, .int .i64 e.kind, .slice ea e.data.length ecap]) (i := i - 1) rfl h3' (by omega) (by omega) rfl (one_all rfl)
    simp only [hix7]
    refine hst (fun X2 h2' => ?_)
    refine Gh.to ((b5, Obj.cells #[.int .i64 e.index, .int .i64 e.term, .int .i64 e.kind, .slice ea e.data.length ecap] 59 (0, 0)) :: (b9, Obj.cells #[.int .i64 g.index, .int .i64 g.term, .slice ma g.mem.length mcap] 46 (0, 0)) :: (lb', o) :: (wb, Obj.cells (wcells bs sv (.slice va com2.length vcap) dv).toArray 103 (0, 0)) :: catX Xs (XS ++ (X2 ++ (XD ++ F)))) (Gh.done ?_)
    exact fin (com2.set (i - 1).toNat e) X2 _ _ (by rw [List.length_set]; exact h2') (Recs.set h4' (by omega) rfl ⟨_, rfl, hB⟩) (by simp; omega) (by simp; omega) (fun j hj => by rw [comG_set (by omega) hil hj, hG2])
  · simp at h0
    refine fin com2 XC2 _ c2 h3' h4' hl2 hil (fun j hj => ?_)
    rw [hG2]
    split
    · rename_i e0; subst e0
      rcases he1 with h | h
      · exact absurd h h0
      · rw [hG j hj, if_neg (by omega), h]
    · rfl
end
end Go.Proofs.Ytdcpeboecmkmlaa
