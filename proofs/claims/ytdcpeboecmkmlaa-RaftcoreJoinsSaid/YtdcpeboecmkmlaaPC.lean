/-
  A world of five nodes: an event.
-/
-- S3
import Derived.Test.YtdcpeboecmkmlaaPA
set_option linter.unusedSimpArgs false
set_option linter.unusedVariables false
namespace Go.Proofs.Ytdcpeboecmkmlaa
open Go.SL
set_option maxRecDepth 10000

section
variable {ω : Om} {I : Imm} {L : LH} {K : Value → M}
theorem newGh {o : Obj} (h : ∀ b, Gh (K (.pointer (some ⟨b, 0, none⟩))) I ((b, o) :: L)) : New o (gh K) I L := fun b => h b

/-- what an event sends is laid behind what was sent -/
theorem play2_spec {wb : Nat} {bs : Int → Nat} {Xs : Int → LH} {XS XC XD F L' : LH} {sv cv dv v : Value} {w : WM} {n' : Int → RF} {l : List RM} {k : Int} [hs : SubP ((wb, Obj.cells (wcells bs sv cv dv).toArray 103 (0, 0)) :: catX Xs (XS ++ (XC ++ (XD ++ F)))) L']
    (hN : NodesR I bs Xs n') (hR : RestR I XS XC XD sv cv dv w) (hv : Msgs I [] v l) (hl : w.sent.length + l.length ≤ 100000)
    (hk : ∀ L2, WorldR I wb L2 { w with n := n', sent := w.sent ++ l } F → K (.int .i64 k) I L2) :
    Gh (sh48_2 ω (.pointer (some ⟨wb, 0, none⟩)) (.int .i64 0) (.int .i64 k) v (fun v => Gh (K v))) I L' := by
  refine Gh.to ((wb, Obj.cells (wcells bs sv cv dv).toArray 103 (0, 0)) :: catX Xs (XS ++ (XC ++ (XD ++ F)))) (Gh.done ?_)
  obtain ⟨⟨c, h1, h2⟩, h3, h4⟩ := hR
  unfold sh48_2
  try simp only [SSd, List.getElem?_toArray, List.getElem?_cons_zero, List.getElem?_cons_succ, Nat.zero_add, Nat.add_zero, Nat.zero_mul, List.drop_succ_cons, List.drop_zero, List.take_succ_cons, List.take_zero, List.nil_append, List.cons_append, Nat.reduceAdd, List.drop_nil, List.take_nil]
  refine rdb ?_
  obtain ⟨a, cap, cells, rfl, _, hn, hr⟩ := hv
  refine app_own (X := XS) rfl h1 (News.mono hn (Ext.refl _) (fun x hx => by cases hx)) (hr.one_cells (fun _ _ h => h.one)) (by omega) (by omega) (fun X' v' h6 => ?_)
  refine st1 (SlO.one1 h6) ?_
  refine Gh.pick wb (catX Xs (X' ++ (XC ++ (XD ++ F)))) (Gh.done (hk _ ⟨bs, Xs, X', XC, XD, v', cv, dv, hN, ⟨⟨_, ?_, Recs.append h2 hr⟩, h3, h4⟩, rfl⟩))
  simp only [List.length_append]; exact h6

theorem glogR_spec {b : Nat} {X F : LH} {r : RF} (h : RaftR I b X r) (hw : WF r.g) (hk : ∀ lb' o I', Ext I I' → LogV I' ((lb', o) :: (X ++ F)) lb' r.g → K (.pointer (some ⟨lb', 0, none⟩)) I' ((lb', o) :: (X ++ F))) :
    Cal Try.prog ω 45 #[.pointer (some ⟨b, 0, none⟩)] K I (X ++ F) := by
  obtain ⟨lb, XL, XO, stv, ov, z0, z1, z2, oc, rfl, h1, h2, h3, h4⟩ := h
  obtain ⟨mv, lv, XL2, cells, rfl, hm, hG, hRc⟩ := h1
  have hlv : LsV I XL2 lv r.g.es := by
    obtain ⟨a, cap, hv, hle⟩ := hG.form
    exact ⟨a, cap, cells, hv, hle, hG.news (fun x hx => hx), hRc⟩
  simp only [List.cons_append, List.append_assoc] at hk ⊢
  refine glog_spec (L0 := XL2) (Cell.own (InL.mem) rfl) (cells_own InL.mem) hm hlv (memB_len hw.mem) (fun lb' mv' a I2 hI2 hm2 hl2 => ?_)
  exact hk lb' _ I2 hI2 ⟨mv', _, cells_own InL.mem, hm2, LsV.to hl2 (Ext.refl _)⟩

theorem Gh.split {A : M} (X : LH) {R : LH} [h : SplitL X L R] (hc : Gh A I (X ++ R)) : Gh A I L := Gh.perm h.perm hc
/-- one cell of a block, wherever it is -/
theorem stLG {b off T : Nat} {l l' : List Value} {v : Value} {L' : LH} [h : InL b L (.cells l.toArray T (0, 0))] (hs : l.set off v = l') (ho : off < l.length) [u : UpL b L (.cells l.toArray T (0, 0)) (.cells l'.toArray T (0, 0)) L'] (hv : v.oneCell' = true) (hk : Gh (K undef) I L') :
    Sto 1 (.pointer (some ⟨b, off, none⟩)) v (gh K) I L := by
  obtain ⟨L1, L2, rfl, rfl⟩ := u.up
  have hc : v.cells = #[v] := by cases v <;> first | rfl | simp [Value.oneCell'] at hv
  refine ⟨b, off, l.toArray, T, L1, L2, rfl, by simp [hc], by simp [hc]; exact hv, by simp; omega, rfl, ?_⟩
  rw [hc, wr_one l l' off v hs]
  exact hk
theorem bB1 {F : LH} {n : Int} {K : Value → M} (hk : ∀ u I', Ext I I' → Bytes I' u [byteOf n] → K u I' F) : BldS 5 1 #[(Value.int .u8 0)] 1 [(0, .int .u8 ((byteOf n).toNat : Int))] (gh K) I F := by
  refine bld_oneG rfl (by omega) rfl (fun X u hX => ?_)
  exact SlO.freeze hX (fun I' hI hS => Gh.done (hk u I' hI hS))
theorem back3 {A : M} {Xs : Int → LH} {k : Int} {X W : LH} {x y : Nat × Obj} (hk : 1 ≤ k ∧ k ≤ 5) (h : Gh A I (x :: y :: catX (updI Xs k X) W)) : Gh A I (X ++ (x :: y :: catR k Xs W)) :=
  Gh.perm (List.perm_middle.trans (List.Perm.cons _ (List.perm_middle.trans (List.Perm.cons _ (cat_upd hk Xs X W))))) h

set_option maxHeartbeats 1000000 in
theorem play_spec {wb N : Nat} {w : WM} {F : LH} {d who n : Int} (hW : WorldR I wb L w F) (hw : WWF N w) (hN : N ≤ 2000) (hn : inI64 n)
    (hk : ∀ L' I', Ext I I' → WorldR I' wb L' (playF w d who n).2 F → K (.int .i64 (playF w d who n).1) I' L') :
    Cal Try.prog ω 48 #[.pointer (some ⟨wb, 0, none⟩), .agg #[.int .i64 d, .int .i64 who, .int .i64 n]] K I L := by
  obtain ⟨bs, Xs, XS, XC, XD, sv, cv, dv, hNd, hR, rfl⟩ := hW
  have hk5 := who_in who
  have ha3 := and3 who
  have hnum := hw.num
  refine cal48 ?_
  unfold sh48
  refine newGh (fun x1 => ?_)
  -- whose turn it is
  have go : ∀ {I1 : Imm} {L1 : LH} [InL x1 L1 (Obj.cells #[.int .i64 d, .int .i64 who, .int .i64 n] 97 (0, 0))], sh48_1 ω (.pointer (some ⟨wb, 0, none⟩)) (.pointer (some ⟨x1, 0, none⟩)) (.int .i64 0) (.int .i64 (whoF who)) (fun v => Gh (K v)) I1 L1 →
      (Pv (fldV 1 (.pointer (some ⟨x1, 0, none⟩))) fun v2 => Rv none (ld1R v2) fun v3 => Pv (binIV .and v3 (.int .i64 3)) fun v4 => Pv (binIV .add (.int .i64 1) v4) fun v5 => Pv (fldV 1 (.pointer (some ⟨x1, 0, none⟩))) fun v98 => Rv none (ld1R v98) fun v99 => Pv (binIV .and v99 (.int .i64 4)) fun v100 => Pv (binIV .neq v100 (.int .i64 0)) fun v101 =>
        Br v101 (sh48_1 ω (.pointer (some ⟨wb, 0, none⟩)) (.pointer (some ⟨x1, 0, none⟩)) (.int .i64 0) (.int .i64 5) (fun v => Gh (K v)))
          (sh48_1 ω (.pointer (some ⟨wb, 0, none⟩)) (.pointer (some ⟨x1, 0, none⟩)) (.int .i64 0) v5 (fun v => Gh (K v)))) I1 L1 := by
    intro I1 L1 hin h
    try simp only [SSd, List.getElem?_toArray, List.getElem?_cons_zero, List.getElem?_cons_succ, Nat.zero_add, Nat.add_zero, Nat.zero_mul, List.drop_succ_cons, List.drop_zero, List.take_succ_cons, List.take_zero, List.nil_append, List.cons_append, Nat.reduceAdd, List.drop_nil, List.take_nil]
    refine rdb ?_
    try simp only [SSd, List.getElem?_toArray, List.getElem?_cons_zero, List.getElem?_cons_succ, Nat.zero_add, Nat.add_zero, Nat.zero_mul, List.drop_succ_cons, List.drop_zero, List.take_succ_cons, List.take_zero, List.nil_append, List.cons_append, Nat.reduceAdd, List.drop_nil, List.take_nil]
    refine rdb ?_
    simp only [SSd, List.getElem?_toArray, List.getElem?_cons_zero, List.getElem?_cons_succ, Nat.zero_add, Nat.add_zero, Nat.zero_mul, List.drop_succ_cons, List.drop_zero, List.take_succ_cons, List.take_zero, List.nil_append, List.cons_append, Nat.reduceAdd, List.drop_nil, List.take_nil, wrap_i64 (1 + bitsV .and .i64 who 3) (by omega)]
    unfold whoF at h
    refine br_split (fun hb => ?_) (fun hb => ?_)
    · rw [if_neg (by simpa using hb)] at h; exact h
    · rw [if_pos (by simpa using hb)] at h; exact h
  generalize hkk : whoF who = k at *
  by_cases hd1 : d = 1
  · refine Gh.done (go ?_)
    clear go
    obtain ⟨⟨sc, hs1, hs2⟩, hs3, hs4⟩ := id hR
    obtain ⟨sa, scap, hsf⟩ := hs1.form
    subst hsf
    have hle : w.sent.length ≤ scap := by
      obtain ⟨_, hh⟩ := hs1
      rcases hh with ⟨_, e, _, h⟩ | ⟨b, cap', cs, _, h, _, hle, _⟩
      · rw [e]; omega
      · simp only [Value.slice.injEq] at h; omega
    have hRL : RL MsgV 12 I XS (.slice sa w.sent.length scap) w.sent := ⟨sa, scap, sc, rfl, hle, hs1.news (fun x hx => hx), hs2⟩
    have same : playF w d who n = (0, w) → Gh (K (.int .i64 0)) I ((x1, Obj.cells #[.int .i64 d, .int .i64 who, .int .i64 n] 97 (0, 0)) :: (wb, Obj.cells (wcells bs (.slice sa w.sent.length scap) cv dv).toArray 103 (0, 0)) :: catX Xs (XS ++ (XC ++ (XD ++ F)))) := fun he => by
      rw [he] at hk
      exact Gh.second'' (Gh.done (hk _ I (Ext.refl _) ⟨bs, Xs, XS, XC, XD, _, cv, dv, hNd, hR, rfl⟩))
    unfold sh48_1
    simp only [SSd, List.getElem?_toArray, List.getElem?_cons_zero, List.getElem?_cons_succ, Nat.zero_add, Nat.add_zero, Nat.zero_mul, List.drop_succ_cons, List.drop_zero, List.take_succ_cons, List.take_zero, List.nil_append, List.cons_append, Nat.reduceAdd, List.drop_nil, List.take_nil, ixPV_at _ (show 0 ≤ k by omega) (show k < ((6 : Nat) : Int) by omega)]
    refine rdL (wc_at hk5) ?_
    simp only [SSd, List.getElem?_toArray, List.getElem?_cons_zero, List.getElem?_cons_succ, Nat.zero_add, Nat.add_zero, Nat.zero_mul, List.drop_succ_cons, List.drop_zero, List.take_succ_cons, List.take_zero, List.nil_append, List.cons_append, Nat.reduceAdd, List.drop_nil, List.take_nil, pt]
    refine rdb ?_
    try simp only [SSd, List.getElem?_toArray, List.getElem?_cons_zero, List.getElem?_cons_succ, Nat.zero_add, Nat.add_zero, Nat.zero_mul, List.drop_succ_cons, List.drop_zero, List.take_succ_cons, List.take_zero, List.nil_append, List.cons_append, Nat.reduceAdd, List.drop_nil, List.take_nil]
    refine br_split (fun h => by simp [hd1] at h) (fun _ => ?_)
    refine br_split (fun _ => ?_) (fun h => by simp [hd1] at h)
    refine drawC ?_
    refine rdbS ?_
    try simp only [SSd, List.getElem?_toArray, List.getElem?_cons_zero, List.getElem?_cons_succ, Nat.zero_add, Nat.add_zero, Nat.zero_mul, List.drop_succ_cons, List.drop_zero, List.take_succ_cons, List.take_zero, List.nil_append, List.cons_append, Nat.reduceAdd, List.drop_nil, List.take_nil]
    refine gd_split (fun hn0 => ?_) (fun hn0 => same (by rw [playF, if_neg (by omega), if_pos hd1, if_pos (by simp at hn0; omega)]))
    simp at hn0
    refine rdbS ?_
    try simp only [SSd, List.getElem?_toArray, List.getElem?_cons_zero, List.getElem?_cons_succ, Nat.zero_add, Nat.add_zero, Nat.zero_mul, List.drop_succ_cons, List.drop_zero, List.take_succ_cons, List.take_zero, List.nil_append, List.cons_append, Nat.reduceAdd, List.drop_nil, List.take_nil]
    refine rdbS ?_
    try simp only [SSd, List.getElem?_toArray, List.getElem?_cons_zero, List.getElem?_cons_succ, Nat.zero_add, Nat.add_zero, Nat.zero_mul, List.drop_succ_cons, List.drop_zero, List.take_succ_cons, List.take_zero, List.nil_append, List.cons_append, Nat.reduceAdd, List.drop_nil, List.take_nil]
    refine br_split (fun hn1 => same (by rw [playF, if_neg (by omega), if_pos hd1, if_pos (by simp at hn1; omega)])) (fun hn1 => ?_)
    simp at hn1
    haveI : Inhabited RM := ⟨msg0⟩
    obtain ⟨bm, om, cm, hix, hcl, hm, hcm⟩ := RL.ix hRL (i := n) (by omega) (by omega)
    have hgm : (w.sent[n.toNat]?).getD msg0 = geti w.sent n := by
      rw [geti_some (by omega) (by omega)]; rfl
    have hin : geti w.sent n ∈ w.sent := List.mem_of_getElem? (geti_some (by omega) (by omega))
    have hpl : playF w d who n = if (geti w.sent n).to < 1 ∨ 5 < (geti w.sent n).to then (0, w) else ((geti w.sent n).to, afterW w (geti w.sent n).to (stepF (w.n (geti w.sent n).to) (geti w.sent n)).2) := by
      rw [playF, if_neg (by omega), if_pos hd1, if_neg (by omega)]; simp only [hgm]
    have hsm := hw.sml _ hin
    generalize geti w.sent n = m at *
    refine drawC ?_
    refine rdbS ?_
    try simp only [SSd, List.getElem?_toArray, List.getElem?_cons_zero, List.getElem?_cons_succ, Nat.zero_add, Nat.add_zero, Nat.zero_mul, List.drop_succ_cons, List.drop_zero, List.take_succ_cons, List.take_zero, List.nil_append, List.cons_append, Nat.reduceAdd, List.drop_nil, List.take_nil]
    refine rdbS ?_
    simp only [hix, SSd, List.getElem?_toArray, List.getElem?_cons_zero, List.getElem?_cons_succ, Nat.zero_add, Nat.add_zero, Nat.zero_mul, List.drop_succ_cons, List.drop_zero, List.take_succ_cons, List.take_zero, List.nil_append, List.cons_append, Nat.reduceAdd, List.drop_nil, List.take_nil]
    refine rdNI hcl (hcm _ _ (Ext.refl _) (inferInstance : LSub XS _).sub) ?_
    have hm' := hm
    obtain ⟨a0, p0, a1, p1, a2, p2, rfl, hE, hM, hD⟩ := hm'.form
    refine newGh (fun m2 => ?_)
    by_cases hto : m.to < 1 ∨ 5 < m.to
    · rw [if_pos hto] at hpl
      refine Gh.done ?_
      refine keepC (Ext.refl _) ?_
      refine stB rfl rfl (one_all rfl) ?_
      try simp only [SSd, List.getElem?_toArray, List.getElem?_cons_zero, List.getElem?_cons_succ, Nat.zero_add, Nat.add_zero, Nat.zero_mul, List.drop_succ_cons, List.drop_zero, List.take_succ_cons, List.take_zero, List.nil_append, List.cons_append, Nat.reduceAdd, List.drop_nil, List.take_nil]
      refine rdb ?_
      try simp only [SSd, List.getElem?_toArray, List.getElem?_cons_zero, List.getElem?_cons_succ, Nat.zero_add, Nat.add_zero, Nat.zero_mul, List.drop_succ_cons, List.drop_zero, List.take_succ_cons, List.take_zero, List.nil_append, List.cons_append, Nat.reduceAdd, List.drop_nil, List.take_nil]
      refine gd_split (fun ht => ?_) (fun ht => Gh.second'' (same hpl))
      simp at ht
      refine rdb ?_
      try simp only [SSd, List.getElem?_toArray, List.getElem?_cons_zero, List.getElem?_cons_succ, Nat.zero_add, Nat.add_zero, Nat.zero_mul, List.drop_succ_cons, List.drop_zero, List.take_succ_cons, List.take_zero, List.nil_append, List.cons_append, Nat.reduceAdd, List.drop_nil, List.take_nil]
      exact br_split (fun _ => Gh.second'' (same hpl)) (fun h => by simp at h; omega)
    rw [if_neg hto] at hpl
    rw [hpl] at hk
    have ht5 : 1 ≤ m.to ∧ m.to ≤ 5 := by omega
    obtain ⟨hwk, hok, hgk, hik⟩ := hw.nod m.to ht5
    have hX := hNd m.to ht5
    refine Gh.perm (List.Perm.cons _ (List.Perm.cons _ (List.Perm.cons _ (cat_perm ht5 Xs _)))) (Gh.done ?_)
    refine keepS (Ext.refl _) (fun x hx => ((List.Perm.cons _ (List.Perm.cons _ (List.Perm.cons _ (cat_perm ht5 Xs _)))).mem_iff.1 (List.mem_cons_of_mem _ hx))) ?_
    refine stB rfl rfl (one_all rfl) ?_
    try simp only [SSd, List.getElem?_toArray, List.getElem?_cons_zero, List.getElem?_cons_succ, Nat.zero_add, Nat.add_zero, Nat.zero_mul, List.drop_succ_cons, List.drop_zero, List.take_succ_cons, List.take_zero, List.nil_append, List.cons_append, Nat.reduceAdd, List.drop_nil, List.take_nil]
    refine rdb ?_
    try simp only [SSd, List.getElem?_toArray, List.getElem?_cons_zero, List.getElem?_cons_succ, Nat.zero_add, Nat.add_zero, Nat.zero_mul, List.drop_succ_cons, List.drop_zero, List.take_succ_cons, List.take_zero, List.nil_append, List.cons_append, Nat.reduceAdd, List.drop_nil, List.take_nil]
    refine gd_split (fun _ => ?_) (fun h => by simp at h; omega)
    refine rdb ?_
    try simp only [SSd, List.getElem?_toArray, List.getElem?_cons_zero, List.getElem?_cons_succ, Nat.zero_add, Nat.add_zero, Nat.zero_mul, List.drop_succ_cons, List.drop_zero, List.take_succ_cons, List.take_zero, List.nil_append, List.cons_append, Nat.reduceAdd, List.drop_nil, List.take_nil]
    refine br_split (fun h => by simp at h; omega) (fun _ => ?_)
    refine rdb ?_
    refine drawC ?_
    simp only [SSd, List.getElem?_toArray, List.getElem?_cons_zero, List.getElem?_cons_succ, Nat.zero_add, Nat.add_zero, Nat.zero_mul, List.drop_succ_cons, List.drop_zero, List.take_succ_cons, List.take_zero, List.nil_append, List.cons_append, Nat.reduceAdd, List.drop_nil, List.take_nil, ixPV_at _ (show 0 ≤ m.to by omega) (show m.to < ((6 : Nat) : Int) by omega)]
    refine rdLS (wc_at ht5) ?_
    simp only [SSd, List.getElem?_toArray, List.getElem?_cons_zero, List.getElem?_cons_succ, Nat.zero_add, Nat.add_zero, Nat.zero_mul, List.drop_succ_cons, List.drop_zero, List.take_succ_cons, List.take_zero, List.nil_append, List.cons_append, Nat.reduceAdd, List.drop_nil, List.take_nil, pt]
    refine rdBS rfl ?_
    have hl := len_step hwk (show (65 * N + 64) * 48 ≤ 150000000000000 by omega) m
    refine callG (Cal.split (Xs m.to) (step_spec hX hwk (by omega) hok hm (by omega) (fun X' v I1 hI1 hv hX' => ?_)))
    try simp only [SSd, List.getElem?_toArray, List.getElem?_cons_zero, List.getElem?_cons_succ, Nat.zero_add, Nat.add_zero, Nat.zero_mul, List.drop_succ_cons, List.drop_zero, List.take_succ_cons, List.take_zero, List.nil_append, List.cons_append, Nat.reduceAdd, List.drop_nil, List.take_nil]
    refine Gh.to (X' ++ ((x1, Obj.cells #[.int .i64 d, .int .i64 who, .int .i64 n] 97 (0, 0)) :: (wb, Obj.cells (wcells bs (.slice sa w.sent.length scap) cv dv).toArray 103 (0, 0)) :: catR m.to Xs (XS ++ (XC ++ (XD ++ F))))) ?_
    exact back3 ht5 (play2_spec (n' := updI w.n m.to (takeF (stepF (w.n m.to) m).2)) (l := (stepF (w.n m.to) m).2.out) ((hNd.mono hI1).upd rfl hX') (hR.mono hI1) hv (by rw [hok] at hl; simp at hl; omega) (fun L2 h2 => hk L2 I1 hI1 h2))
  have hnod := hw.nod k hk5
  have hX := hNd k hk5
  by_cases hd5 : d = 5
  · obtain ⟨hwk, hok, hgk, hik⟩ := hnod
    rw [show playF w d who n = (k, afterW w k (newF 7 k (w.n k).term (w.n k).vote (w.n k).g (w.n k).st)) by
      rw [playF, if_neg (by omega), if_neg (by omega), if_neg (by omega), if_neg (by omega), if_neg (by omega), if_pos hd5, hkk]] at hk
    refine Gh.perm (List.Perm.cons _ (List.Perm.cons _ (cat_perm hk5 Xs _))) ?_
    obtain ⟨lb, XL, XO, stv, ov, z0, z1, z2, oc, hXk, f1, f2, f3, f4⟩ := hX
    rw [hXk]
    simp only [List.cons_append, List.append_assoc]
    refine Gh.split XL (LogR.freeze f1 (fun mv lv I3 hI3 fm fl => Gh.done ?_))
    refine go ?_
    clear go
    unfold sh48_1
    simp only [SSd, List.getElem?_toArray, List.getElem?_cons_zero, List.getElem?_cons_succ, Nat.zero_add, Nat.add_zero, Nat.zero_mul, List.drop_succ_cons, List.drop_zero, List.take_succ_cons, List.take_zero, List.nil_append, List.cons_append, Nat.reduceAdd, List.drop_nil, List.take_nil, ixPV_at _ (show 0 ≤ k by omega) (show k < ((6 : Nat) : Int) by omega)]
    refine rdL (wc_at hk5) ?_
    simp only [SSd, List.getElem?_toArray, List.getElem?_cons_zero, List.getElem?_cons_succ, Nat.zero_add, Nat.add_zero, Nat.zero_mul, List.drop_succ_cons, List.drop_zero, List.take_succ_cons, List.take_zero, List.nil_append, List.cons_append, Nat.reduceAdd, List.drop_nil, List.take_nil, pt]
    refine rdb ?_
    try simp only [SSd, List.getElem?_toArray, List.getElem?_cons_zero, List.getElem?_cons_succ, Nat.zero_add, Nat.add_zero, Nat.zero_mul, List.drop_succ_cons, List.drop_zero, List.take_succ_cons, List.take_zero, List.nil_append, List.cons_append, Nat.reduceAdd, List.drop_nil, List.take_nil]
    refine br_split (fun h => by simp [hd5] at h) (fun _ => ?_)
    refine br_split (fun h => by simp [hd5] at h) (fun _ => ?_)
    refine br_split (fun h => by simp [hd5] at h) (fun _ => ?_)
    refine br_split (fun h => by simp [hd5] at h) (fun _ => ?_)
    refine br_split (fun h => by simp [hd5] at h) (fun _ => ?_)
    refine br_split (fun _ => ?_) (fun h => by simp [hd5] at h)
    refine call (glog_spec (L0 := []) (Cell.own (InL.mem) rfl) (cells_own InL.mem) fm fl (memB_len hwk.wf.mem) (fun lb' mv' aa I4 hI4 hm4 hl4 => ?_))
    refine call (gterm_spec (v := .int .i64 (w.n k).term) (Cell.own (InL.mem) rfl) ?_)
    refine call (gvote_spec (v := .int .i64 (w.n k).vote) (Cell.own (InL.mem) rfl) ?_)
    refine call (gstate_spec (Cell.own (InL.mem) rfl) (f2.mono (hI3.trans hI4)) hwk.stl (fun s5 I5 hI5 hs5 => ?_))
    have hnk := hwk.newOk
    have hst := hwk.stl
    rw [hgk, hik] at hnk
    refine call (new11_spec (g := (w.n k).g) (st := (w.n k).st) (cells_own InL.mem) (hm4.mono hI5) (LsV.to (L' := []) hl4 hI5) hwk.wf hs5 (by omega) (fun hn => by rw [hnk] at hn; cases hn) (fun _ b' X' I6 hI6 hX' => ?_))
    have hI36 := ((hI3.trans hI4).trans hI5).trans hI6
    simp only [SSd, List.getElem?_toArray, List.getElem?_cons_zero, List.getElem?_cons_succ, Nat.zero_add, Nat.add_zero, Nat.zero_mul, List.drop_succ_cons, List.drop_zero, List.take_succ_cons, List.take_zero, List.nil_append, List.cons_append, Nat.reduceAdd, List.drop_nil, List.take_nil, bne_self_eq_false, ixPV_at _ (show 0 ≤ k by omega) (show k < ((6 : Nat) : Int) by omega)]
    refine stLG (wc_set hk5) (by simp; omega) rfl ?_
    refine Gh.to (X' ++ ((x1, Obj.cells #[.int .i64 d, .int .i64 who, .int .i64 n] 97 (0, 0)) :: (wb, Obj.cells (wcells (updI bs k b') sv cv dv).toArray 103 (0, 0)) :: catR k Xs (XS ++ (XC ++ (XD ++ F))))) ?_
    exact back3 hk5 (play2_spec (n' := updI w.n k (newF 7 k (w.n k).term (w.n k).vote (w.n k).g (w.n k).st)) (l := []) ((hNd.mono hI36).updB hX') (hR.mono hI36) (RL.nil _ _) (by simp; omega) (fun L2 h2 => hk L2 I6 hI36 h2))
  refine Gh.perm (List.Perm.cons _ (List.Perm.cons _ (cat_perm hk5 Xs _))) (Gh.done ?_)
  refine go ?_
  clear go
  unfold sh48_1
  simp only [SSd, List.getElem?_toArray, List.getElem?_cons_zero, List.getElem?_cons_succ, Nat.zero_add, Nat.add_zero, Nat.zero_mul, List.drop_succ_cons, List.drop_zero, List.take_succ_cons, List.take_zero, List.nil_append, List.cons_append, Nat.reduceAdd, List.drop_nil, List.take_nil, ixPV_at _ (show 0 ≤ k by omega) (show k < ((6 : Nat) : Int) by omega)]
  refine rdL (wc_at hk5) ?_
  simp only [SSd, List.getElem?_toArray, List.getElem?_cons_zero, List.getElem?_cons_succ, Nat.zero_add, Nat.add_zero, Nat.zero_mul, List.drop_succ_cons, List.drop_zero, List.take_succ_cons, List.take_zero, List.nil_append, List.cons_append, Nat.reduceAdd, List.drop_nil, List.take_nil, pt]
  refine rdb ?_
  try simp only [SSd, List.getElem?_toArray, List.getElem?_cons_zero, List.getElem?_cons_succ, Nat.zero_add, Nat.add_zero, Nat.zero_mul, List.drop_succ_cons, List.drop_zero, List.take_succ_cons, List.take_zero, List.nil_append, List.cons_append, Nat.reduceAdd, List.drop_nil, List.take_nil]
  obtain ⟨hwk, hok, hgk, hik⟩ := hnod
  have hE1 : (65 * N + 1) * 48 ≤ 150000000000000 := by omega
  -- behind a call
  have fin : ∀ (r' : RF) {X' : LH} {I1 : Imm} {v : Value}, Ext I I1 → RaftR I1 (bs k) X' (takeF r') → Msgs I1 [] v r'.out → r'.out.length ≤ 7 → playF w d who n = (k, afterW w k r') →
      Gh (sh48_2 ω (.pointer (some ⟨wb, 0, none⟩)) (.int .i64 0) (.int .i64 k) v (fun v => Gh (K v))) I1 (X' ++ ((x1, Obj.cells #[.int .i64 d, .int .i64 who, .int .i64 n] 97 (0, 0)) :: (wb, Obj.cells (wcells bs sv cv dv).toArray 103 (0, 0)) :: catR k Xs (XS ++ (XC ++ (XD ++ F))))) := by
    intro r' X' I1 v hI1 hX' hv hl he
    rw [he] at hk
    exact back3 hk5 (play2_spec (n' := updI w.n k (takeF r')) (l := r'.out) ((hNd.mono hI1).upd rfl hX') (hR.mono hI1) hv (by omega) (fun L2 h2 => hk L2 I1 hI1 h2))
  refine br_split (fun h0 => ?_) (fun h0 => ?_)
  · have h0 : d = 0 := by simpa using h0
    refine rdb ?_
    have hl := len_tick hwk hE1 n
    refine callG (Cal.split (Xs k) (tick_spec hX hwk hE1 (by omega) hok (fun X' v I1 hI1 hv hX' => ?_)))
    exact fin _ hI1 hX' hv (by rw [hok] at hl; simp at hl; omega) (by rw [playF, if_pos h0, hkk])
  have h0 : d ≠ 0 := by simpa using h0
  refine br_split (fun h1 => by simp at h1; exact absurd h1 hd1) (fun _ => ?_)
  refine br_split (fun h2 => ?_) (fun h2 => ?_)
  · have h2 : d = 2 := by simpa using h2
    refine rdb ?_
    simp only [SSd, List.getElem?_toArray, List.getElem?_cons_zero, List.getElem?_cons_succ, Nat.zero_add, Nat.add_zero, Nat.zero_mul, List.drop_succ_cons, List.drop_zero, List.take_succ_cons, List.take_zero, List.nil_append, List.cons_append, Nat.reduceAdd, List.drop_nil, List.take_nil, u8_wrap]
    refine bB1 (fun u I1 hI1 hu => ?_)
    have hl := len_propose hwk hE1 [byteOf n]
    refine callG (Cal.split (Xs k) (propose_spec (hX.mono hI1) hwk hE1 hok hu (by simp) (fun X' v I2 hI2 hv hX' => ?_)))
    try simp only [SSd, List.getElem?_toArray, List.getElem?_cons_zero, List.getElem?_cons_succ, Nat.zero_add, Nat.add_zero, Nat.zero_mul, List.drop_succ_cons, List.drop_zero, List.take_succ_cons, List.take_zero, List.nil_append, List.cons_append, Nat.reduceAdd, List.drop_nil, List.take_nil]
    exact fin _ (hI1.trans hI2) hX' hv (by rw [hok] at hl; simp at hl; omega) (by rw [playF, if_neg h0, if_neg hd1, if_pos h2, hkk])
  have h2 : d ≠ 2 := by simpa using h2
  refine br_split (fun h3 => ?_) (fun h3 => ?_)
  · have h3 : d = 3 := by simpa using h3
    refine call (Cal.split (Xs k) (glogR_spec hX hwk.wf (fun lb' o I1 hI1 hV => ?_)))
    try simp only [SSd, List.getElem?_toArray, List.getElem?_cons_zero, List.getElem?_cons_succ, Nat.zero_add, Nat.add_zero, Nat.zero_mul, List.drop_succ_cons, List.drop_zero, List.take_succ_cons, List.take_zero, List.nil_append, List.cons_append, Nat.reduceAdd, List.drop_nil, List.take_nil]
    refine drawC ?_
    refine call (lmembers_spec hV hwk.wf (fun mv I2 hI2 hmv => ?_))
    refine keepC hI2 ?_
    refine rdbS ?_
    have hml := memB_len hwk.wf.mems
    refine call (changed_spec hmv (by omega) (fun cv' I3 hI3 hcv => ?_))
    have hI13 := (hI1.trans hI2).trans hI3
    have hlc : (changedL (memOf (w.n k).g.mem (w.n k).g.es) n).length ≤ 5 := List.length_filter_le _ _
    have hl := len_change hwk hE1 (changedL (memOf (w.n k).g.mem (w.n k).g.es) n)
    refine callG (Cal.split (Xs k) (change_spec (hX.mono hI13) hwk hE1 hok hcv (by omega) (fun X' v I4 hI4 hv hX' => ?_)))
    try simp only [SSd, List.getElem?_toArray, List.getElem?_cons_zero, List.getElem?_cons_succ, Nat.zero_add, Nat.add_zero, Nat.zero_mul, List.drop_succ_cons, List.drop_zero, List.take_succ_cons, List.take_zero, List.nil_append, List.cons_append, Nat.reduceAdd, List.drop_nil, List.take_nil]
    refine Gh.to (X' ++ ((x1, Obj.cells #[.int .i64 d, .int .i64 who, .int .i64 n] 97 (0, 0)) :: (wb, Obj.cells (wcells bs sv cv dv).toArray 103 (0, 0)) :: catR k Xs (XS ++ (XC ++ (XD ++ F))))) ?_
    exact fin _ (hI13.trans hI4) hX' hv (by rw [hok] at hl; simp at hl; omega) (by rw [playF, if_neg h0, if_neg hd1, if_neg h2, if_pos h3, hkk]; rfl)
  have h3 : d ≠ 3 := by simpa using h3
  refine br_split (fun h4 => ?_) (fun h4 => ?_)
  · have h4 : d = 4 := by simpa using h4
    have hcm := hwk.wf.com
    have hla := hwk.wf.last
    refine call (Cal.split (Xs k) (glogR_spec hX hwk.wf (fun lb' o I1 hI1 hV => ?_)))
    try simp only [SSd, List.getElem?_toArray, List.getElem?_cons_zero, List.getElem?_cons_succ, Nat.zero_add, Nat.add_zero, Nat.zero_mul, List.drop_succ_cons, List.drop_zero, List.take_succ_cons, List.take_zero, List.nil_append, List.cons_append, Nat.reduceAdd, List.drop_nil, List.take_nil]
    refine call (commit_spec hV ?_)
    refine call (commit_spec hV ?_)
    simp only [SSd, List.getElem?_toArray, List.getElem?_cons_zero, List.getElem?_cons_succ, Nat.zero_add, Nat.add_zero, Nat.zero_mul, List.drop_succ_cons, List.drop_zero, List.take_succ_cons, List.take_zero, List.nil_append, List.cons_append, Nat.reduceAdd, List.drop_nil, List.take_nil, u8_wrap]
    refine bB1 (fun u I2 hI2 hu => ?_)
    have hI12 := hI1.trans hI2
    refine callG (Cal.split (Xs k) (compact_spec (hX.mono hI12) hwk (by unfold inI64; omega) hu (by simp) (fun X' I3 hI3 hX' => ?_)))
    have q2 : (compactF (w.n k) (w.n k).g.commit [byteOf (w.n k).g.commit]).2.out = [] := by
      unfold compactF; split
      · exact hok
      · simp only; split
        · exact hok
        · exact hok
    refine Gh.to (X' ++ ((x1, Obj.cells #[.int .i64 d, .int .i64 who, .int .i64 n] 97 (0, 0)) :: (wb, Obj.cells (wcells bs sv cv dv).toArray 103 (0, 0)) :: catR k Xs (XS ++ (XC ++ (XD ++ F))))) ?_
    exact fin _ (hI12.trans hI3) (by rw [takeF_nil q2]; exact hX') (by rw [q2]; exact RL.nil _ _) (by rw [q2]; simp) (by rw [playF, if_neg h0, if_neg hd1, if_neg h2, if_neg h3, if_pos h4, hkk])
  have h4 : d ≠ 4 := by simpa using h4
  refine br_split (fun h5 => by simp at h5; exact absurd h5 hd5) (fun _ => ?_)
  rw [show playF w d who n = (0, w) by rw [playF, if_neg h0, if_neg hd1, if_neg h2, if_neg h3, if_neg h4, if_neg hd5]] at hk
  refine Gh.perm (List.Perm.cons _ (List.Perm.cons _ (cat_perm hk5 Xs _).symm)) (Gh.second'' (Gh.done ?_))
  exact hk _ I (Ext.refl _) ⟨bs, Xs, XS, XC, XD, sv, cv, dv, hNd, hR, rfl⟩
end
end Go.Proofs.Ytdcpeboecmkmlaa
