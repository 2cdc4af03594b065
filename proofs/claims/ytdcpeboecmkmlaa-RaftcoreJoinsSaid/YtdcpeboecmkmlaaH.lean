/-
  The program's log: what its changing functions do.
-/
-- S4
import Derived.Test.YtdcpeboecmkmlaaG
set_option linter.unusedSimpArgs false
set_option linter.unusedVariables false
namespace Go.Proofs.Ytdcpeboecmkmlaa
open Go.SL
set_option maxRecDepth 10000

section
variable {ω : Om} {I : Imm} {L : LH} {K : Value → M}

/-- the program's log at block 'b', with all of its memory 'X' -/
def LogR (I : Imm) (b : Nat) (X : LH) (g : LG) : Prop :=
  ∃ mv lv XL cells, X = (b, Obj.cells #[.int .i64 g.index, .int .i64 g.term, mv, lv, .int .i64 g.commit] 112 (0, 0)) :: XL ∧ Ints I mv g.mem ∧ GrO I 59 4 XL lv cells g.es.length ∧ Recs (LeV I) 4 g.es cells
theorem LogR.mono {I I' : Imm} {b : Nat} {X : LH} {g : LG} (h : LogR I b X g) (hI : Ext I I') : LogR I' b X g := by
  obtain ⟨mv, lv, XL, cells, hX, hm, hG, hR⟩ := h
  exact ⟨mv, lv, XL, cells, hX, hm.mono hI, hG.mono hI, hR.imp fun _ _ h => h.mono hI⟩
theorem cells_own {b T : Nat} {vs : List Value} (hm : (b, Obj.cells vs.toArray T (0, 0)) ∈ L) : Cells I L b 0 vs := fun j u hu => Cell.own hm (by simpa using hu)
theorem LogR.view {b : Nat} {X : LH} {g : LG} (h : LogR I b X g) [hs : LSub X L] : LogV I L b g := by
  obtain ⟨mv, lv, XL, cells, rfl, hm, hG, hR⟩ := h
  obtain ⟨a, cap, hv, hle⟩ := hG.form
  exact ⟨mv, lv, cells_own (hs.sub _ (List.mem_cons_self ..)), hm, a, cap, cells, hv, hle, hG.news (fun x hx => hs.sub _ (List.mem_cons_of_mem _ hx)), hR⟩
theorem LogR.viewF {b : Nat} {X F : LH} {g : LG} (h : LogR I b X g) : LogV I (X ++ F) b g := h.view (hs := ⟨fun x hx => List.mem_append_left _ hx⟩)
theorem ents_one {v : Value} {es : List LE} (h : LsV I L v es) : v.oneCell' = true := by
  obtain ⟨a, cap, rfl⟩ := RL.form h; rfl
theorem ints_one {v : Value} {l : List Int} (h : Ints I v l) : v.oneCell' = true := by
  obtain ⟨a, cap, rfl⟩ := Ints.form h; rfl
theorem gr_one {T n len : Nat} {X : LH} {v : Value} {cells : List Value} (h : GrO I T n X v cells len) : v.oneCell' = true := by
  obtain ⟨a, cap, rfl, _⟩ := h.form; rfl

theorem bldP {i t : Int} {a : Option Addr} {l c : Nat} : bldV #[(Value.int .i64 0), (Value.int .i64 0), (Value.slice none 0 0)] #[(0, 1), (1, 1), (2, 1)] [(0, .int .i64 i), (1, .int .i64 t), (2, .slice a l c)] = some (.agg #[.int .i64 i, .int .i64 t, .slice a l c]) := by kernel_rfl
theorem bldP2 {a : Option Addr} {l c : Nat} : bldV #[(Value.int .i64 0), (Value.int .i64 0), (Value.slice none 0 0)] #[(0, 1), (1, 1), (2, 1)] [(2, .slice a l c)] = some (.agg #[.int .i64 0, .int .i64 0, .slice a l c]) := by kernel_rfl
theorem bldL0 {mv : Value} : bldV #[(Value.int .i64 0), (Value.int .i64 0), (Value.slice none 0 0), (Value.slice none 0 0), (Value.int .i64 0)] #[(0, 3), (3, 1), (4, 1)] [(0, .agg #[.int .i64 0, .int .i64 0, mv])] = some (.agg #[.int .i64 0, .int .i64 0, mv, .slice none 0 0, .int .i64 0]) := by kernel_rfl
theorem bldL {i t k : Int} {mv : Value} {a : Option Addr} {l c : Nat} : bldV #[(Value.int .i64 0), (Value.int .i64 0), (Value.slice none 0 0), (Value.slice none 0 0), (Value.int .i64 0)] #[(0, 3), (3, 1), (4, 1)] [(0, .agg #[.int .i64 i, .int .i64 t, mv]), (1, .slice a l c), (2, .int .i64 k)] = some (.agg #[.int .i64 i, .int .i64 t, mv, .slice a l c, .int .i64 k]) := by kernel_rfl
theorem bldE {i t k : Int} {a : Option Addr} {l c : Nat} : bldV #[(Value.int .i64 0), (Value.int .i64 0), (Value.int .i64 0), (Value.slice none 0 0)] #[(0, 1), (1, 1), (2, 1), (3, 1)] [(0, .int .i64 i), (1, .int .i64 t), (2, .int .i64 k), (3, .slice a l c)] = some (.agg #[.int .i64 i, .int .i64 t, .int .i64 k, .slice a l c]) := by kernel_rfl

theorem new_spec {v : Value} {m : List Int} (h : Ints I v m)
    (hk0 : memB m = false → K (.tuple #[.pointer none, .int .i64 1]) I L) (hk : memB m = true → ∀ b X I', Ext I I' → LogR I' b X (newG m) → K (.tuple #[.pointer (some ⟨b, 0, none⟩), .int .i64 0]) I' (X ++ L)) : Cal Try.prog ω 13 #[v] K I L := by
  refine cal13 ?_
  unfold sh13
  refine call (members_spec h ?_)
  try simp only [SSe, List.getElem?_toArray, List.getElem?_cons_zero, List.getElem?_cons_succ, Nat.zero_add, Nat.add_zero, Nat.zero_mul]
  refine br_split (fun h1 => ?_) (fun h1 => ?_)
  · exact Gh.done (hk0 (by simpa using h1))
  · have hm : memB m = true := by simpa using h1
    have hml := memB_len hm
    refine call (cloneI_spec h (by omega) (fun v' I' hI' hv' => ?_))
    have hv'' := hv'
    obtain ⟨a, cap, rfl⟩ := Ints.form hv''
    simp only [bldP2, bldL0, SSe, List.getElem?_toArray, List.getElem?_cons_zero, List.getElem?_cons_succ, Nat.zero_add, Nat.add_zero, Nat.zero_mul]
    refine newI (fun b => ?_)
    exact Gh.done (hk hm b [_] I' hI' ⟨_, _, [], [], rfl, hv', .inl (SlO.none _ _), rfl⟩)

theorem pright_spec {i t : Int} {mv : Value} {m : List Int} (h : Ints I mv m) (hk : K (.bool (pointB i t m)) I L) : Cal Try.prog ω 62 #[.agg #[.int .i64 i, .int .i64 t, mv]] K I L := by
  refine cal62 ?_
  unfold sh62
  repeat' (first | (with_reducible refine drawC ?_) | (with_reducible refine keepC (by first | exact Ext.refl _ | assumption) ?_) | (with_reducible refine gd_split (fun _ => ?_) (fun _ => ?_)) | (with_reducible refine br_split (fun _ => ?_) (fun _ => ?_)) | (with_reducible refine newI (fun _ => ?_)) | (refine call (count_spec ?_)) | (refine call (members_spec h ?_)) | first | refine rdb ?_ | refine st1 rfl ?_ | refine rdB rfl ?_ | refine rdbS ?_ | refine rdBS rfl ?_ | (simp only [SSe, List.getElem?_toArray, List.getElem?_cons_zero, List.getElem?_cons_succ, Nat.zero_add, Nat.add_zero, Nat.zero_mul]))
  all_goals (refine Gh.to L (Gh.done (leafB hk ?_)); simp_all [pointB])

theorem load_spec {i t c : Int} {mv ev : Value} {m : List Int} {es : List LE} (hm : Ints I mv m) (he : Ents I ev es) (hl : es.length * 48 ≤ 150000000000000) (hc : inI64 c)
    (hk0 : loadB i t m es c = false → ∀ I', Ext I I' → K (.tuple #[.pointer none, .int .i64 102]) I' L) (hk : loadB i t m es c = true → ∀ b X I', Ext I I' → LogR I' b X ⟨i, t, m, es, c⟩ → K (.tuple #[.pointer (some ⟨b, 0, none⟩), .int .i64 0]) I' (X ++ L)) :
    Cal Try.prog ω 19 #[.agg #[.int .i64 i, .int .i64 t, mv], ev, .int .i64 c] K I L := by
  refine cal19 ?_
  unfold sh19
  refine newI (fun b1 => ?_)
  refine rdB rfl ?_
  refine call (pright_spec hm ?_)
  try simp only [SSe, List.getElem?_toArray, List.getElem?_cons_zero, List.getElem?_cons_succ, Nat.zero_add, Nat.add_zero, Nat.zero_mul]
  have out : loadB i t m es c = false → ∀ I', Ext I I' → ∀ o, Gh (K (.tuple #[.pointer none, .int .i64 102])) I' ((b1, o) :: L) := fun h I' hI' o => Gh.to L (Gh.done (hk0 h I' hI'))
  refine gd_split (fun h1 => ?_) (fun h1 => out (by simp_all [loadB]) I (Ext.refl I) _)
  have hp : pointB i t m = true := by simpa using h1
  obtain ⟨p1, p2, p3, p4⟩ := point_spec hp
  have hml := memB_len p3
  have p1' := p1
  simp [countB] at p1'
  unfold inI64 at hc
  refine rdb ?_
  refine rdb ?_
  refine call (follow_spec he p1 (by omega) (fun I' hI' => ?_))
  try simp only [SSe, List.getElem?_toArray, List.getElem?_cons_zero, List.getElem?_cons_succ, Nat.zero_add, Nat.add_zero, Nat.zero_mul]
  refine gd_split (fun h2 => ?_) (fun h2 => out (by simp_all [loadB]) I' hI' _)
  refine rdb ?_
  try simp only [SSe, List.getElem?_toArray, List.getElem?_cons_zero, List.getElem?_cons_succ, Nat.zero_add, Nat.add_zero, Nat.zero_mul]
  refine gd_split (fun h3 => ?_) (fun h3 => out (by simp at h3; simp only [loadB, Bool.and_eq_false_iff, decide_eq_false_iff_not]; right; omega) I' hI' _)
  simp at h3
  refine rdb ?_
  simp only [SSe, List.getElem?_toArray, List.getElem?_cons_zero, List.getElem?_cons_succ, Nat.zero_add, Nat.add_zero, Nat.zero_mul, wrap_i64 (c - i) (by omega), RL.len he]
  refine br_split (fun h4 => out (by simp at h4; simp only [loadB, Bool.and_eq_false_iff, decide_eq_false_iff_not]; right; omega) I' hI' _) (fun h4 => ?_)
  simp at h4
  have hf : followB i t es = true := by simpa using h2
  have hlb : loadB i t m es c = true := by simp only [loadB, hp, hf, Bool.true_and, decide_eq_true_eq]; omega
  refine rdB rfl ?_
  refine call (copied_spec (hm.mono hI') (by omega) (fun mv' I2 hI2 hm' => ?_))
  refine call (owned_spec (Ents.to he (hI'.trans hI2)) (fun e he => ?_) hl (fun X v' cells I3 hI3 h6 hR => ?_))
  · obtain ⟨k, hk', rfl⟩ := List.getElem_of_mem he
    rw [← geti_nat hk']
    have := entB_small (fol_at hf hk').2.1
    omega
  · obtain ⟨a6, cap6, rfl⟩ := h6.form
    simp only [bldL, SSe, List.getElem?_toArray, List.getElem?_cons_zero, List.getElem?_cons_succ, Nat.zero_add, Nat.add_zero, Nat.zero_mul]
    refine newI (fun b => ?_)
    exact Gh.to (_ :: (X ++ L)) (Gh.done (hk hlb b (_ :: X) I3 ((hI'.trans hI2).trans hI3) ⟨mv', _, X, cells, rfl, hm'.mono hI3, .inl h6, hR⟩))

theorem settle_spec {b : Nat} {X F : LH} {g : LG} {i : Int} (h : LogR I b X g) (hw : WF g) (hk : ∀ X', LogR I b X' (settleG g i).2 → K (.int .i64 (settleG g i).1) I (X' ++ F)) : Cal Try.prog ω 27 #[.pointer (some ⟨b, 0, none⟩), .int .i64 i] K I (X ++ F) := by
  refine cal27 ?_
  unfold sh27
  refine call (last_spec h.viewF hw ?_)
  try simp only [SSe, List.getElem?_toArray, List.getElem?_cons_zero, List.getElem?_cons_succ, Nat.zero_add, Nat.add_zero, Nat.zero_mul]
  refine br_split (fun h1 => ?_) (fun h1 => ?_)
  · simp only [decide_eq_true_eq] at h1
    rw [settleG, if_pos h1] at hk
    exact Gh.done (hk X h)
  · simp only [decide_eq_false_iff_not] at h1
    rw [settleG, if_neg h1] at hk
    obtain ⟨mv, lv, XL, cells, rfl, hm, hG, hR⟩ := h
    simp only [List.cons_append]
    refine rdb ?_
    try simp only [SSe, List.getElem?_toArray, List.getElem?_cons_zero, List.getElem?_cons_succ, Nat.zero_add, Nat.add_zero, Nat.zero_mul]
    refine st1 rfl ?_
    refine Gh.done (hk (_ :: XL) ⟨mv, lv, XL, cells, ?_, hm, hG, hR⟩)
    simp only
    rw [show (if i > g.commit then i else g.commit) = max g.commit i from by split <;> omega]

theorem one_ents {e : LE} {c : List Value} {F : LH} {K : Value → M} (he : LeV I e c) (hk : ∀ u I', Ext I I' → Ents I' u [e] → K u I' F) :
    BldS 59 4 #[(Value.int .i64 0), (Value.int .i64 0), (Value.int .i64 0), (Value.slice none 0 0)] 1 [(0, .agg c.toArray)] (gh K) I F := by
  refine bld_oneG rfl (by omega) (by simpa [Value.cells] using LeV.len he) (fun X u hX => ?_)
  refine SlO.freeze hX (fun I' hI hS => Gh.done (hk _ I' hI ?_))
  exact RL.ofI hS (by simpa [Value.cells] using Recs.one (LeV.len he) (he.mono hI))

theorem add_spec {b : Nat} {X F : LH} {g : LG} {t k : Int} {dv : Value} {d : List UInt8} (h : LogR I b X g) (hw : WF g) (hd : Bytes I dv d) (hdl : d.length ≤ 140737488355328) (hlen : (g.es.length + 1) * 48 ≤ 150000000000000)
    (hk : ∀ X' I', Ext I I' → LogR I' b X' (addG g t k d).2.2 → K (.tuple #[.int .i64 (addG g t k d).1, .int .i64 (addG g t k d).2.1]) I' (X' ++ F)) :
    Cal Try.prog ω 14 #[.pointer (some ⟨b, 0, none⟩), .int .i64 t, .int .i64 k, dv] K I (X ++ F) := by
  have hl := hw.last
  refine cal14 ?_
  unfold sh14
  refine call (last_spec h.viewF hw ?_)
  obtain ⟨a, cap, rfl⟩ := Bytes.form hd
  simp only [SSe, List.getElem?_toArray, List.getElem?_cons_zero, List.getElem?_cons_succ, Nat.zero_add, Nat.add_zero, Nat.zero_mul, wrap_i64 (lastI g + 1) (by omega), bldE]
  refine call (own_spec (e := ⟨lastI g + 1, t, k, d⟩) ⟨_, rfl, hd⟩ hdl (fun c I1 hI1 hc => ?_))
  have hc' := hc
  obtain ⟨dv1, rfl, hB1⟩ := hc'
  obtain ⟨a1, cap1, hdv1⟩ := Bytes.form hB1
  refine newI (fun b1 => ?_)
  refine stB rfl rfl hc.one ?_
  refine rdB rfl ?_
  refine one_ents hc (fun u I2 hI2 hE => ?_)
  refine call (follow_spec hE (by simp [countB]; omega) (by simp) (fun I3 hI3 => ?_))
  try simp only [SSe, List.getElem?_toArray, List.getElem?_cons_zero, List.getElem?_cons_succ, Nat.zero_add, Nat.add_zero, Nat.zero_mul]
  refine br_split (fun h1 => ?_) (fun h1 => ?_)
  · rw [addG, if_neg (by simpa using h1)] at hk
    exact Gh.to (X ++ F) (Gh.done (hk X I3 ((hI1.trans hI2).trans hI3) (h.mono ((hI1.trans hI2).trans hI3))))
  · rw [addG, if_pos (by simpa using h1)] at hk
    have h' := h.mono ((hI1.trans hI2).trans hI3)
    obtain ⟨mv, lv, XL, cells, rfl, hm, hG, hR⟩ := h'
    have hc3 := hc.mono (hI2.trans hI3)
    refine drawC ?_
    simp only [List.cons_append]
    refine rdbS ?_
    refine rdBS rfl ?_
    refine bld_one rfl (by omega) rfl (fun X1 u1 hX1 => ?_)
    refine keepC (Ext.refl _) ?_
    refine app_gr (X := XL) rfl hG (hX1.news (fun x hx => List.mem_append_left _ hx)) (fun u hu => hc.one u (by simpa [Value.cells] using hu)) (by omega) (by omega) (fun X' v' hX' => ?_)
    refine st1 (gr_one hX') ?_
    try simp only [SSe, List.getElem?_toArray, List.getElem?_cons_zero, List.getElem?_cons_succ, Nat.zero_add, Nat.add_zero, Nat.zero_mul]
    refine rdb ?_
    refine Gh.to (_ :: (X' ++ F)) (Gh.done (hk (_ :: X') I3 ((hI1.trans hI2).trans hI3) ⟨mv, v', X', _, rfl, hm, by simpa [Value.cells] using hX', ?_⟩))
    exact Recs.append hR (Recs.one rfl (by simpa [Value.cells] using hc3))

/-- a new list is laid into the log -/
theorem LogR.put {I' : Imm} {b : Nat} {XL : LH} {g : LG} {mv lv : Value} {cells : List Value} (hm : Ints I' mv g.mem) (hG : GrO I' 59 4 XL lv cells g.es.length) (hR : Recs (LeV I') 4 g.es cells) :
    LogR I' b ((b, Obj.cells #[.int .i64 g.index, .int .i64 g.term, mv, lv, .int .i64 g.commit] 112 (0, 0)) :: XL) g := ⟨mv, lv, XL, cells, rfl, hm, hG, hR⟩

theorem stPart {T : Nat} {b : Nat} {a0 a1 a2 v0 v1 v2 a3 a4 : Value} {K : Value → M} {L L' : LH} [h : InL b L (.cells #[a0, a1, a2, a3, a4] T (0, 0))] [u : UpL b L (.cells #[a0, a1, a2, a3, a4] T (0, 0)) (.cells #[v0, v1, v2, a3, a4] T (0, 0)) L'] (h0 : v0.oneCell' = true) (h1 : v1.oneCell' = true) (h2 : v2.oneCell' = true) (hk : K undef I L') :
    Sto 3 (.pointer (some ⟨b, 0, none⟩)) (.agg #[v0, v1, v2]) (gh K) I L := by
  obtain ⟨L1, L2, rfl, rfl⟩ := u.up
  refine ⟨b, 0, _, T, L1, L2, rfl, rfl, ?_, by simp, rfl, Gh.done hk⟩
  intro u hu
  simp [Value.cells] at hu
  rcases hu with rfl | rfl | rfl <;> assumption

theorem cut_spec {b : Nat} {X F : LH} {g : LG} {i : Int} (h : LogR I b X g) (hw : WF g) (hi : inI64 i)
    (hk : ∀ X' I', Ext I I' → LogR I' b X' (cutG g i).2 → K (.int .i64 (cutG g i).1) I' (X' ++ F)) : Cal Try.prog ω 23 #[.pointer (some ⟨b, 0, none⟩), .int .i64 i] K I (X ++ F) := by
  obtain ⟨mv0, lv0, hm0, hl0, c0, c1, c2, c3, c4, c5⟩ := (h.viewF (F := F)).cells
  have hlast := hw.last
  have hcom := hw.com
  have hlen := hw.len
  refine cal23 ?_
  unfold sh23
  try simp only [SSe, List.getElem?_toArray, List.getElem?_cons_zero, List.getElem?_cons_succ, Nat.zero_add, Nat.add_zero, Nat.zero_mul]
  refine rd1 c0 ?_
  try simp only [SSe, List.getElem?_toArray, List.getElem?_cons_zero, List.getElem?_cons_succ, Nat.zero_add, Nat.add_zero, Nat.zero_mul]
  have bad : (i < g.index ∨ g.commit < i) → Gh (K (.int .i64 100)) I (X ++ F) := fun hb => by
    rw [cutG, if_pos hb] at hk
    exact Gh.done (hk X I (Ext.refl I) h)
  refine gd_split (fun h1 => ?_) (fun h1 => bad (by simp at h1; omega))
  simp at h1
  refine rd1 c4 ?_
  try simp only [SSe, List.getElem?_toArray, List.getElem?_cons_zero, List.getElem?_cons_succ, Nat.zero_add, Nat.add_zero, Nat.zero_mul]
  refine br_split (fun h2 => bad (by simp at h2; omega)) (fun h2 => ?_)
  simp at h2
  rw [cutG, if_neg (by omega)] at hk
  refine call (term_spec h.viewF hw hi ?_)
  try simp only [SSe, List.getElem?_toArray, List.getElem?_cons_zero, List.getElem?_cons_succ, Nat.zero_add, Nat.add_zero, Nat.zero_mul]
  refine call (membersAt_spec h.viewF hw hi (fun v I1 hI1 hv => ?_))
  try simp only [SSe, List.getElem?_toArray, List.getElem?_cons_zero, List.getElem?_cons_succ, Nat.zero_add, Nat.add_zero, Nat.zero_mul]
  obtain ⟨mv, lv, XL, cells, rfl, hm, hG, hR⟩ := h.mono hI1
  have hls : LsV I1 ((b, Obj.cells #[.int .i64 g.index, .int .i64 g.term, mv, lv, .int .i64 g.commit] 112 (0, 0)) :: (XL ++ F)) lv g.es := by
    obtain ⟨a, cap, hv, hle⟩ := hG.form
    exact ⟨a, cap, cells, hv, hle, hG.news (fun x hx => by simp [hx]), hR⟩
  refine drawC ?_
  simp only [List.cons_append]
  refine rdbS ?_
  refine rdbS ?_
  unfold inI64 at hi
  unfold lastI at hlast hcom
  simp only [SSe, List.getElem?_toArray, List.getElem?_cons_zero, List.getElem?_cons_succ, Nat.zero_add, Nat.add_zero, Nat.zero_mul, wrap_i64 (i - g.index) (by omega)]
  obtain ⟨v1, hs1, hl1⟩ := RL.part hls (lo := (i - g.index).toNat) (hi := g.es.length) (by omega) (Nat.le_refl _) (some (.int .i64 (i - g.index))) none (by simp [bndV]; omega) (fun _ _ => rfl)
  rw [List.take_of_length_le (by simp)] at hl1
  simp only [hs1, SSe, List.getElem?_toArray, List.getElem?_cons_zero, List.getElem?_cons_succ, Nat.zero_add, Nat.add_zero, Nat.zero_mul]
  refine call (cloneE_spec hl1 (by rw [List.length_drop]; omega) (fun X' v' cells' h6 hR' => ?_))
  refine st1 (gr_one (I := I1) (.inl h6)) ?_
  have hv' := hv
  obtain ⟨av, cv, rfl⟩ := Ints.form hv'
  simp only [bldP, SSe, List.getElem?_toArray, List.getElem?_cons_zero, List.getElem?_cons_succ, Nat.zero_add, Nat.add_zero, Nat.zero_mul]
  refine stPart rfl rfl rfl ?_
  exact Gh.to (_ :: (X' ++ F)) (Gh.done (hk (_ :: X') I1 hI1 ⟨_, v', X', cells', rfl, hv, .inl h6, hR'⟩))

theorem reset_spec {b : Nat} {X F : LH} {g : LG} {i t : Int} {mv : Value} {m : List Int} (h : LogR I b X g) (hw : WF g) (hm : Ints I mv m) (hi : inI64 i)
    (hk : ∀ X' I', Ext I I' → LogR I' b X' (resetG g i t m).2 → K (.int .i64 (resetG g i t m).1) I' (X' ++ F)) : Cal Try.prog ω 28 #[.pointer (some ⟨b, 0, none⟩), .agg #[.int .i64 i, .int .i64 t, mv]] K I (X ++ F) := by
  have hlast := hw.last
  have hcom := hw.com
  have hlen := hw.len
  refine cal28 ?_
  unfold sh28
  refine newI (fun b1 => ?_)
  refine rdB rfl ?_
  refine call (pright_spec hm ?_)
  try simp only [SSe, List.getElem?_toArray, List.getElem?_cons_zero, List.getElem?_cons_succ, Nat.zero_add, Nat.add_zero, Nat.zero_mul]
  refine br_split (fun h1 => ?_) (fun h1 => ?_)
  · rw [resetG, if_pos (by simpa using h1)] at hk
    exact Gh.to (X ++ F) (Gh.done (hk X I (Ext.refl I) h))
  have hp : pointB i t m = true := by simpa using h1
  obtain ⟨p1, p2, p3, p4⟩ := point_spec hp
  have hml := memB_len p3
  rw [resetG, if_neg (by simp [hp])] at hk
  obtain ⟨mv0, lv0, hm0, hl0, c0, c1, c2, c3, c4, c5⟩ := (h.viewF (F := F)).cells
  refine drawC ?_
  refine rdbS ?_
  refine rdCS c4 (Ext.refl _) ?_
  try simp only [SSe, List.getElem?_toArray, List.getElem?_cons_zero, List.getElem?_cons_succ, Nat.zero_add, Nat.add_zero, Nat.zero_mul]
  refine br_split (fun h2 => ?_) (fun h2 => ?_)
  · rw [if_pos (by simpa using h2)] at hk
    exact Gh.to (X ++ F) (Gh.done (hk X I (Ext.refl I) h))
  simp at h2
  rw [if_neg (by omega)] at hk
  refine rdb ?_
  refine call (term_spec (LogV.to (h.viewF (F := F)) (Ext.refl I)) hw hi ?_)
  try simp only [SSe, List.getElem?_toArray, List.getElem?_cons_zero, List.getElem?_cons_succ, Nat.zero_add, Nat.add_zero, Nat.zero_mul]
  -- the last lines
  have fin : ∀ (lv' : Value) (X' : LH) (cells' : List Value) (es' : List LE) (mv1 : Value), SlO 59 4 X' lv' cells' es'.length → Recs (LeV I) 4 es' cells' →
      (if termAt g i = (t, 0) then g.es.drop (i - g.index).toNat else []) = es' → sh28_1 ω (.pointer (some ⟨b, 0, none⟩)) (.pointer (some ⟨b1, 0, none⟩)) (.int .i64 0) (fun v => Gh (K v)) I ((b1, Obj.cells #[.int .i64 i, .int .i64 t, mv] 46 (0, 0)) :: (b, Obj.cells #[.int .i64 g.index, .int .i64 g.term, mv1, lv', .int .i64 g.commit] 112 (0, 0)) :: (X' ++ F)) := by
    intro lv' X' cells' es' mv1 h6 hR' he
    unfold sh28_1
    try simp only [SSe, List.getElem?_toArray, List.getElem?_cons_zero, List.getElem?_cons_succ, Nat.zero_add, Nat.add_zero, Nat.zero_mul]
    refine draw (Stay I [(b1, Obj.cells #[.int .i64 i, .int .i64 t, mv] 46 (0, 0))]) ⟨Ext.refl I, by simp⟩ ?_
    refine rdBS rfl ?_
    refine call (copied_spec hm (by omega) (fun mv2 I2 hI2 hm2 => ?_))
    refine keepS hI2 (by simp) ?_
    refine rdbS ?_
    refine stPart rfl rfl (ints_one hm2) ?_
    refine keepS hI2 (by simp) ?_
    refine st1 rfl ?_
    refine Gh.to (_ :: (X' ++ F)) (Gh.done (hk (_ :: X') I2 hI2 ⟨mv2, lv', X', cells', rfl, hm2, ?_, ?_⟩))
    · rw [he]; exact .inl h6
    · rw [he]; exact hR'.imp fun _ _ h => h.mono hI2
  have no : termAt g i ≠ (t, 0) → sh28_3 ω (.pointer (some ⟨b, 0, none⟩)) (.pointer (some ⟨b1, 0, none⟩)) (.int .i64 0) (fun v => Gh (K v)) I ((b1, Obj.cells #[.int .i64 i, .int .i64 t, mv] 46 (0, 0)) :: (X ++ F)) := by
    intro hne
    obtain ⟨mv1, lv, XL, cells, rfl, hm1, hG, hR⟩ := h
    unfold sh28_3
    simp only [SSe, List.getElem?_toArray, List.getElem?_cons_zero, List.getElem?_cons_succ, Nat.zero_add, Nat.add_zero, Nat.zero_mul, List.cons_append]
    refine st1G rfl ?_
    exact Gh.to (_ :: _ :: F) (Gh.done (fin _ [] [] [] mv1 (SlO.none _ _) rfl (by rw [if_neg hne])))
  refine gd_split (fun h3 => ?_) (fun h3 => no (by intro e; rw [e] at h3; simp at h3))
  refine rdb ?_
  try simp only [SSe, List.getElem?_toArray, List.getElem?_cons_zero, List.getElem?_cons_succ, Nat.zero_add, Nat.add_zero, Nat.zero_mul]
  refine br_split (fun h4 => ?_) (fun h4 => no (by intro e; rw [e] at h4; simp at h4))
  have ht : termAt g i = (t, 0) := by
    simp at h3 h4
    rw [← h4, ← h3]
  obtain ⟨q1, q2⟩ := termAt_ok ht
  unfold lastI at q2 hlast
  obtain ⟨mv1, lv, XL, cells, rfl, hm1, hG, hR⟩ := h
  have hls : LsV I ((b1, Obj.cells #[.int .i64 i, .int .i64 t, mv] 46 (0, 0)) :: (b, Obj.cells #[.int .i64 g.index, .int .i64 g.term, mv1, lv, .int .i64 g.commit] 112 (0, 0)) :: (XL ++ F)) lv g.es := by
    obtain ⟨a, cap, hv, hle⟩ := hG.form
    exact ⟨a, cap, cells, hv, hle, hG.news (fun x hx => by simp [hx]), hR⟩
  unfold sh28_2
  simp only [SSe, List.getElem?_toArray, List.getElem?_cons_zero, List.getElem?_cons_succ, Nat.zero_add, Nat.add_zero, Nat.zero_mul, List.cons_append]
  refine drawC ?_
  refine rdbS ?_
  refine rdbS ?_
  refine rdbS ?_
  simp only [SSe, List.getElem?_toArray, List.getElem?_cons_zero, List.getElem?_cons_succ, Nat.zero_add, Nat.add_zero, Nat.zero_mul, wrap_i64 (i - g.index) (by omega)]
  obtain ⟨v1, hs1, hl1⟩ := RL.part hls (lo := (i - g.index).toNat) (hi := g.es.length) (by omega) (Nat.le_refl _) (some (.int .i64 (i - g.index))) none (by simp [bndV]; omega) (fun _ _ => rfl)
  rw [List.take_of_length_le (by simp)] at hl1
  simp only [hs1, SSe, List.getElem?_toArray, List.getElem?_cons_zero, List.getElem?_cons_succ, Nat.zero_add, Nat.add_zero, Nat.zero_mul]
  refine call (cloneE_spec hl1 (by rw [List.length_drop]; omega) (fun X' v' cells' h6 hR' => ?_))
  refine st1G (gr_one (I := I) (.inl h6)) ?_
  exact Gh.to (_ :: _ :: (X' ++ F)) (Gh.done (fin _ X' cells' _ mv1 h6 hR' (by rw [if_pos ht])))

end
end Go.Proofs.Ytdcpeboecmkmlaa
