/-
  A space is read: a cell's version, what a transaction reads.
-/
-- S3
import Derived.Test.YtmnnnoinfhiilaaDoorF
set_option linter.unusedSimpArgs false
set_option linter.unusedVariables false
namespace Go.Proofs.YtmnnnoinfhiilaaDoor
open Go.SL
set_option maxRecDepth 10000
section
variable {ω : Om} {I : Imm} {L : LH} {K : Value → M}
theorem upTo_at {vs : List TVer} {m : TStamp} {k : Nat} (hk : k < vs.length) (h : bhd vs[k].fAt m = false) (h2 : ∀ w ∈ vs.drop (k + 1), bhd w.fAt m = true) : upTo vs m = some vs[k] := by
  unfold upTo
  have e : vs = vs.take k ++ vs[k] :: vs.drop (k + 1) := by rw [← List.drop_eq_getElem_cons hk, List.take_append_drop]
  generalize vs[k] = v at *
  rw [e, List.reverse_append, List.reverse_cons, List.append_assoc, List.find?_append, List.find?_eq_none.2 (fun w hw => by simpa using h2 w (List.mem_reverse.1 hw))]
  simp [h]
theorem upTo_no {vs : List TVer} {m : TStamp} (h2 : ∀ w ∈ vs, bhd w.fAt m = true) : upTo vs m = none := by
  unfold upTo
  exact List.find?_eq_none.2 fun w hw => by simpa using h2 w (List.mem_reverse.1 hw)
theorem verAt {v : TVer} {q off : Nat} (h : Cells I L q off (verC v)) : Cells I L q off [.int .i64 v.fAt.fWall, .int .i64 v.fAt.fLogic] ∧ Cell I L q (off + 2) (.bool v.fDel) ∧ Cell I L q (off + 3) (sstr v.fValue) :=
  ⟨by simpa [verC] using h.sub (k := 0) (m := 2), h 2 _ rfl, h 3 _ rfl⟩
theorem upTo_spec {L0 : LH} [LSub L0 L] {p : Nat} {r : Row} {m : TStamp} (hV : CellV I L0 p r) (hlen : r.vs.length ≤ 1000000000) (hn : upTo r.vs m = none → K (.pointer none) I L)
    (hs : ∀ q off v, upTo r.vs m = some v → Cells I L0 q off (verC v) → K (.pointer (some ⟨q, off, none⟩)) I L) : Cal Tryd.prog ω 41 #[pt p, sv m] K I L := by
  obtain ⟨sl, hC, hVs⟩ := hV
  refine cal41 ?_
  unfold sh41
  refine newI (fun b => ?_)
  try simp only [SSd, Nat.reduceAdd]
  refine rdC (hC 0 _ rfl) (Ext.refl _) ?_
  simp only [RL.len hVs, SSd, Nat.reduceAdd]
  refine loop (fun n s I' L' => I' = I ∧ L' = (b, Obj.cells #[.int .i64 m.fWall, .int .i64 m.fLogic] 34 (0, 0)) :: L ∧ ∃ k : Nat, n = k ∧ k ≤ r.vs.length ∧ s = (.pointer none, .int .i64 ((k : Int) - 1), ()) ∧ ∀ w ∈ r.vs.drop k, bhd w.fAt m = true) r.vs.length ⟨rfl, rfl, r.vs.length, rfl, Nat.le_refl _, by rw [wrap_i64 _ (by omega)], by simp⟩ ?_
  rintro n s I' L' ⟨rfl, rfl, k, rfl, hkl, rfl, hA⟩
  unfold sh41_1
  try simp only [SSd, Nat.reduceAdd]
  refine br_split (fun e => ?_) (fun e => ?_)
  · simp at e
    obtain ⟨j, rfl⟩ : ∃ j, n = j + 1 := ⟨n - 1, by omega⟩
    rw [show ((j + 1 : Nat) : Int) - 1 = (j : Int) by omega]
    refine drawC ?_
    try simp only [SSd, Nat.reduceAdd]
    refine rdCS (hC 0 _ rfl) (Ext.refl _) ?_
    obtain ⟨q, off, c, hix, hl, hc, hcc⟩ := RL.ix hVs (i := j) (by omega) (by omega)
    obtain rfl : c = verC _ := hc
    simp only [hix, SSd, Nat.reduceAdd]
    have hc4 := hcc I' L0 (Ext.refl _) (fun _ h => h)
    rw [geti_nat (by omega)] at hc4
    obtain ⟨g1, g2, g3⟩ := verAt hc4
    refine rdNCS g1 (Ext.refl _) rfl ?_
    refine rdBS rfl ?_
    refine call (behind_spec ?_)
    try simp only [SSd, Nat.reduceAdd]
    refine br_split (fun e2 => ?_) (fun e2 => ?_)
    · simp at e2
      try simp only [SSd, Nat.reduceAdd]
      refine rdC (hC 0 _ rfl) (Ext.refl _) ?_
      simp only [hix, SSd, Nat.reduceAdd]
      exact Gh.to L (Gh.done (hs q off _ (upTo_at (by omega) e2 hA) hc4))
    · simp at e2
      try simp only [SSd, Nat.reduceAdd]
      rw [wrap_i64 _ (by omega)]
      refine Gh.done ⟨j, by omega, rfl, rfl, j, rfl, by omega, rfl, fun w hw => ?_⟩
      rw [List.drop_eq_getElem_cons (by omega)] at hw
      rcases List.mem_cons.1 hw with rfl | hw
      · exact e2
      · exact hA w hw
  · simp at e
    have h0 : n = 0 := by omega
    subst h0
    exact Gh.to L (Gh.done (hn (upTo_no (by simpa using hA))))
abbrev gvV (g : TGot) (v0 : Value) : Value := .agg #[.bool g.fFound, v0, .int .i64 g.fAt.fWall, .int .i64 g.fAt.fLogic, .int .i64 g.fBy]
def VerP (I : Imm) (L : LH) (pv : Value) : Option TVer → Prop
  | none => pv = .pointer none
  | some v => ∃ q off, pv = .pointer (some ⟨q, off, none⟩) ∧ Cells I L q off (verC v)
theorem seenV_spec {b1 b2 : Nat} {o1 : Obj} {pv : Value} {ov : Option TVer} (h : VerP I L pv ov)
    (hk : ∀ I' v0, Ext I I' → Bytes I' v0 (seenV ov).fValue → K (.tuple #[gvV (seenV ov) v0, .int .i64 0]) I' L) :
    sh32_2 ω (.pointer (some ⟨b2, 0, none⟩)) (.int .i64 0) pv (fun v => Gh (K v)) I ((b2, .cells #[.bool false, .slice none 0 0, .int .i64 0, .int .i64 0, .int .i64 0] 60 (0, 0)) :: (b1, o1) :: L) := by
  have hz : ∀ I', Bytes I' (.slice none 0 0) [] := fun I' => SlI.nil I' 1 none 0
  unfold sh32_2
  cases ov with
  | none =>
    obtain rfl : pv = .pointer none := h
    have e : binPV .eql (.pointer none) (.pointer none) = some (.bool true) := rfl
    simp only [e, SSd, Nat.reduceAdd]
    unfold sh32_3
    repeat' (first | (with_reducible refine drawC ?_) | (with_reducible refine drawW1 ?_) | (with_reducible refine drawW2 ?_) | (with_reducible refine keepC (by repeat (first | exact Ext.refl _ | assumption | refine Ext.trans ?_ (by assumption))) ?_) | (with_reducible refine newI (fun _ => ?_)) | first | (with_reducible refine rdb ?_) | ((with_reducible refine st1 ?_ ?_); rfl) | ((with_reducible refine rdB ?_ ?_); rfl) | (with_reducible refine rdbS ?_) | ((with_reducible refine rdBS ?_ ?_); rfl) | ((with_reducible refine stB ?_ ?_ ?_ ?_); rfl; rfl; exact one_all rfl) | ((with_reducible refine rdP _ rfl ?_ ?_); rfl) | ((with_reducible refine rdPS _ rfl ?_ ?_); rfl) | ((with_reducible refine stP _ rfl ?_ ?_ ?_ ?_); rfl; rfl; rfl) | (with_reducible refine unfE (sh32_3.eq_1 ..) ?_) | (with_reducible refine unfE (sh32_2.eq_1 ..) ?_) | (with_reducible refine unfE (sh32.eq_1 ..) ?_) | (with_reducible refine And.intro ?_ ?_) | (simp only [Bool.not_true, Bool.not_false, Bool.and_self, Bool.true_and, Int.reduceBEq, Int.reduceBNe, Int.reduceLT, Int.reduceLE, decide_true, decide_false, Br_true, Br_false, Gd_tt, Gd_ft, Gd_tf, Gd_ff, beq_self_eq_true, bne_self_eq_false]) | (with_reducible refine gd_split (fun _ => ?_) (fun _ => ?_)) | (with_reducible refine br_split (fun _ => ?_) (fun _ => ?_)) | (simp only [SSd, Nat.reduceAdd]))
    exact Gh.to L (Gh.done (hk I _ (Ext.refl _) (hz I)))
  | some v =>
    obtain ⟨q, off, rfl, hc⟩ := h
    obtain ⟨g1, g2, g3⟩ := verAt hc
    try simp only [SSd, Nat.reduceAdd]
    refine rdC g2 (Ext.refl _) ?_
    refine br_split (fun e => ?_) (fun e => ?_)
    · unfold sh32_3
      have es : seenV (some v) = gotN := by simp [seenV, e]
      rw [es] at hk
      repeat' (first | (with_reducible refine drawC ?_) | (with_reducible refine drawW1 ?_) | (with_reducible refine drawW2 ?_) | (with_reducible refine keepC (by repeat (first | exact Ext.refl _ | assumption | refine Ext.trans ?_ (by assumption))) ?_) | (with_reducible refine newI (fun _ => ?_)) | first | (with_reducible refine rdb ?_) | ((with_reducible refine st1 ?_ ?_); rfl) | ((with_reducible refine rdB ?_ ?_); rfl) | (with_reducible refine rdbS ?_) | ((with_reducible refine rdBS ?_ ?_); rfl) | ((with_reducible refine stB ?_ ?_ ?_ ?_); rfl; rfl; exact one_all rfl) | ((with_reducible refine rdP _ rfl ?_ ?_); rfl) | ((with_reducible refine rdPS _ rfl ?_ ?_); rfl) | ((with_reducible refine stP _ rfl ?_ ?_ ?_ ?_); rfl; rfl; rfl) | (with_reducible refine unfE (sh32_3.eq_1 ..) ?_) | (with_reducible refine unfE (sh32_2.eq_1 ..) ?_) | (with_reducible refine unfE (sh32.eq_1 ..) ?_) | (with_reducible refine And.intro ?_ ?_) | (simp only [Bool.not_true, Bool.not_false, Bool.and_self, Bool.true_and, Int.reduceBEq, Int.reduceBNe, Int.reduceLT, Int.reduceLE, decide_true, decide_false, Br_true, Br_false, Gd_tt, Gd_ft, Gd_tf, Gd_ff, beq_self_eq_true, bne_self_eq_false]) | (with_reducible refine gd_split (fun _ => ?_) (fun _ => ?_)) | (with_reducible refine br_split (fun _ => ?_) (fun _ => ?_)) | (simp only [SSd, Nat.reduceAdd]))
      exact Gh.to L (Gh.done (hk I _ (Ext.refl _) (hz I)))
    · have es : seenV (some v) = gotV v.fValue v.fAt := by simp [seenV, e]
      rw [es] at hk
      refine drawC ?_
      try simp only [SSd, Nat.reduceAdd]
      refine rdCS g3 (Ext.refl _) ?_
      refine cvsb (fun u I2 hI2 hB => ?_)
      obtain ⟨a, c, rfl⟩ := Bytes.form hB
      refine Gh.done (keepC hI2 ?_)
      try simp only [SSd, Nat.reduceAdd]
      refine rdNCS g1 (Ext.refl _) rfl ?_
      repeat' (first | (with_reducible refine drawC ?_) | (with_reducible refine drawW1 ?_) | (with_reducible refine drawW2 ?_) | (with_reducible refine keepC (by repeat (first | exact Ext.refl _ | assumption | refine Ext.trans ?_ (by assumption))) ?_) | (with_reducible refine newI (fun _ => ?_)) | first | (with_reducible refine rdb ?_) | ((with_reducible refine st1 ?_ ?_); rfl) | ((with_reducible refine rdB ?_ ?_); rfl) | (with_reducible refine rdbS ?_) | ((with_reducible refine rdBS ?_ ?_); rfl) | ((with_reducible refine stB ?_ ?_ ?_ ?_); rfl; rfl; exact one_all rfl) | ((with_reducible refine rdP _ rfl ?_ ?_); rfl) | ((with_reducible refine rdPS _ rfl ?_ ?_); rfl) | ((with_reducible refine stP _ rfl ?_ ?_ ?_ ?_); rfl; rfl; rfl) | (with_reducible refine unfE (sh32_3.eq_1 ..) ?_) | (with_reducible refine unfE (sh32_2.eq_1 ..) ?_) | (with_reducible refine unfE (sh32.eq_1 ..) ?_) | (with_reducible refine And.intro ?_ ?_) | (simp only [Bool.not_true, Bool.not_false, Bool.and_self, Bool.true_and, Int.reduceBEq, Int.reduceBNe, Int.reduceLT, Int.reduceLE, decide_true, decide_false, Br_true, Br_false, Gd_tt, Gd_ft, Gd_tf, Gd_ff, beq_self_eq_true, bne_self_eq_false]) | (with_reducible refine gd_split (fun _ => ?_) (fun _ => ?_)) | (with_reducible refine br_split (fun _ => ?_) (fun _ => ?_)) | (simp only [SSd, Nat.reduceAdd]))
      exact Gh.to L (Gh.done (hk I2 _ hI2 hB))
theorem cread_spec {p : Nat} {r : Row} {m : TStamp} {txn : Int} (hV : CellV I L p r) (hlen : r.vs.length ≤ 1000000000)
    (hk : ∀ I' v0, Ext I I' → Bytes I' v0 (seen r m txn).1.fValue → K (.tuple #[gvV (seen r m txn).1 v0, .int .i64 (seen r m txn).2]) I' L) : Cal Tryd.prog ω 32 #[pt p, sv m, .int .i64 txn] K I L := by
  obtain ⟨sl, hC, hVs⟩ := hV
  have hV' : CellV I L p r := ⟨sl, hC, hVs⟩
  obtain ⟨c0, c1, c14, c3, c4, c5, _⟩ := itC hC
  have hz : ∀ I', Bytes I' (.slice none 0 0) [] := fun I' => SlI.nil I' 1 none 0
  have hX : ∀ b1 b2 pv, VerP I L pv (upTo r.vs m) → Pv (nilV (pt p)) (fun v5 => Pv (fldV 1 v5) fun v6 => Pv (nilV v6) fun v7 => Pv (fldV 4 v7) fun v8 => Rv none (ld1R v8) fun v9 => Pv (binIV .eql v9 (.int .i64 0)) fun v10 => Br v10 (sh32_2 ω (.pointer (some ⟨b2, 0, none⟩)) (.int .i64 0) pv (fun v => Gh (K v)))
    (Pv (nilV v6) fun v26 => Pv (fldV 4 v26) fun v27 => Rv none (ld1R v27) fun v28 => Pv (binIV .eql v28 (.int .i64 txn)) fun v29 => Br v29 (Pv (nilV v6) fun v30 => Pv (fldV 0 v30) fun v31 => sh32_2 ω (.pointer (some ⟨b2, 0, none⟩)) (.int .i64 0) v31 (fun v => Gh (K v)))
      (Draw fun S => Pv (nilV v6) fun v32 => Pv (fldV 0 v32) fun v33 => Pv (fldV 0 v33) fun v34 => Rv (some S) (ldNR 2 v34) fun v35 => Rv (some S) (ldNR 2 (.pointer (some ⟨b1, 0, none⟩))) fun v36 => Cal Tryd.prog ω 24 #[v35, v36] <| gh fun v37 => Pv (unV .not v37) fun v38 =>
        Br v38 (Pv (nilV v6) fun v39 => Pv (fldV 4 v39) fun v40 => Rv none (ld1R v40) fun v41 => Pv (bldV #[.bool false, .slice none 0 0, .int .i64 0, .int .i64 0, .int .i64 0] #[(0, 1), (1, 1), (2, 2), (4, 1)] [(3, v41)]) fun v42 => Sto 5 (.pointer (some ⟨b2, 0, none⟩)) v42 <| gh fun _ => Rv none (ldNR 5 (.pointer (some ⟨b2, 0, none⟩))) fun v43 => Gh (K (.tuple #[v43, .int .i64 130])))
          (sh32_2 ω (.pointer (some ⟨b2, 0, none⟩)) (.int .i64 0) pv (fun v => Gh (K v)))))) I ((b2, .cells #[.bool false, .slice none 0 0, .int .i64 0, .int .i64 0, .int .i64 0] 60 (0, 0)) :: (b1, Obj.cells #[.int .i64 m.fWall, .int .i64 m.fLogic] 34 (0, 0)) :: L) := by
    intro b1 b2 pv hpv
    try simp only [SSd, Nat.reduceAdd]
    refine rdC c5 (Ext.refl _) ?_
    try simp only [SSd, Nat.reduceAdd]
    refine br_split (fun e => ?_) (fun e => ?_)
    · simp at e
      have es : seen r m txn = (seenV (upTo r.vs m), 0) := by unfold seen; rw [if_pos e]
      rw [es] at hk
      exact seenV_spec hpv hk
    simp at e
    try simp only [SSd, Nat.reduceAdd]
    refine rdC c5 (Ext.refl _) ?_
    try simp only [SSd, Nat.reduceAdd]
    refine br_split (fun e2 => ?_) (fun e2 => ?_)
    · simp at e2
      try simp only [SSd, Nat.reduceAdd]
      have es : seen r m txn = (seenV (some r.it.ver), 0) := by unfold seen; rw [if_neg e, if_pos e2]
      rw [es] at hk
      exact seenV_spec (ov := some r.it.ver) ⟨p, 1, rfl, c14⟩ hk
    simp at e2
    refine drawC ?_
    try simp only [SSd, Nat.reduceAdd]
    refine rdNCS c1 (Ext.refl _) rfl ?_
    refine rdBS rfl ?_
    refine call (behind_spec ?_)
    try simp only [SSd, Nat.reduceAdd]
    refine br_split (fun e3 => ?_) (fun e3 => ?_)
    · simp at e3
      have es : seen r m txn = (gotB r.it.txn, 130) := by unfold seen; rw [if_neg e, if_neg e2, if_pos e3]
      rw [es] at hk
      try simp only [SSd, Nat.reduceAdd]
      refine rdC c5 (Ext.refl _) ?_
      repeat' (first | (with_reducible refine drawC ?_) | (with_reducible refine drawW1 ?_) | (with_reducible refine drawW2 ?_) | (with_reducible refine keepC (by repeat (first | exact Ext.refl _ | assumption | refine Ext.trans ?_ (by assumption))) ?_) | (with_reducible refine newI (fun _ => ?_)) | first | (with_reducible refine rdb ?_) | ((with_reducible refine st1 ?_ ?_); rfl) | ((with_reducible refine rdB ?_ ?_); rfl) | (with_reducible refine rdbS ?_) | ((with_reducible refine rdBS ?_ ?_); rfl) | ((with_reducible refine stB ?_ ?_ ?_ ?_); rfl; rfl; exact one_all rfl) | ((with_reducible refine rdP _ rfl ?_ ?_); rfl) | ((with_reducible refine rdPS _ rfl ?_ ?_); rfl) | ((with_reducible refine stP _ rfl ?_ ?_ ?_ ?_); rfl; rfl; rfl) | (with_reducible refine unfE (sh32_3.eq_1 ..) ?_) | (with_reducible refine unfE (sh32_2.eq_1 ..) ?_) | (with_reducible refine unfE (sh32.eq_1 ..) ?_) | (with_reducible refine And.intro ?_ ?_) | (simp only [Bool.not_true, Bool.not_false, Bool.and_self, Bool.true_and, Int.reduceBEq, Int.reduceBNe, Int.reduceLT, Int.reduceLE, decide_true, decide_false, Br_true, Br_false, Gd_tt, Gd_ft, Gd_tf, Gd_ff, beq_self_eq_true, bne_self_eq_false]) | (with_reducible refine gd_split (fun _ => ?_) (fun _ => ?_)) | (with_reducible refine br_split (fun _ => ?_) (fun _ => ?_)) | (simp only [SSd, Nat.reduceAdd]))
      exact Gh.to L (Gh.done (hk I _ (Ext.refl _) (hz I)))
    · simp at e3
      have es : seen r m txn = (seenV (upTo r.vs m), 0) := by unfold seen; rw [if_neg e, if_neg e2, if_neg (by simp [e3])]
      rw [es] at hk
      exact seenV_spec hpv hk
  refine cal32 ?_
  unfold sh32
  refine newI (fun b1 => ?_)
  refine newI (fun b2 => ?_)
  refine rdB rfl ?_
  refine call (upTo_spec hV' hlen (fun h0 => ?_) (fun q off v h0 hc => ?_))
  · exact hX b1 b2 _ (by rw [h0]; rfl)
  · exact hX b1 b2 _ (by rw [h0]; exact ⟨q, off, rfl, hc⟩)
theorem ViewF.cellAt {b m q : Nat} {kv : Value} {es : Array MapEntry} {clock : Nat} {ps : List Nat} {sp : Sp} {r : Row} {k : List UInt8} (h : ViewF I L b m kv es clock ps sp) (hs : SrtK (keysOf sp.rows)) (h1 : rowOf sp.rows k = some r) (h2 : cellsM ps sp.rows k = some (pt q)) : CellV I L q r := by
  obtain ⟨g1, g2⟩ | ⟨r', p, g1, g2, g3, g4⟩ := h.look hs k
  · rw [h1] at g1; cases g1
  · rw [h1] at g1; rw [h2] at g2
    cases g1; cases g2; exact g3
theorem get_spec {b : Nat} {sp : Sp} {a : Value} {k : List UInt8} {m : TStamp} {txn : Int} (hV : View I L b sp) (hs : SrtK (keysOf sp.rows)) (hvs : ∀ r ∈ sp.rows, r.vs.length ≤ 1000000000) (hB : Bytes I a k)
    (hk : ∀ I' v0, Ext I I' → Bytes I' v0 (getF sp k m txn).1.fValue → K (.tuple #[gvV (getF sp k m txn).1 v0, .int .i64 (getF sp k m txn).2]) I' L) :
    Cal Tryd.prog ω 16 #[pt b, a, sv m, .int .i64 txn] K I L := by
  obtain ⟨mm, kv, es, clock, ps, hV⟩ := hV
  have hz : ∀ I', Bytes I' (.slice none 0 0) [] := fun I' => SlI.nil I' 1 none 0
  refine cal16 ?_
  unfold sh16
  refine newI (fun b1 => newI (fun b2 => drawC ?_))
  try simp only [SSd, Nat.reduceAdd]
  refine rdCS (hV.head 0 _ rfl) (Ext.refl _) ?_
  refine bs_I hB (Ext.refl _) ?_
  refine ⟨_, fun I' L' hS => lk_at (MapAt.mono hV.at' hS.1 (fun x hx => hS.2 _ (by simp [hx]))) hV.map, ?_⟩
  refine call (iskey_spec hB ?_)
  have hc2 : Cells I L b 2 [.int .i64 sp.floor.fWall, .int .i64 sp.floor.fLogic] := by simpa using hV.head.sub (k := 2) (m := 2)
  have main : ∀ t : Bool, (t = true → keyOk k = false ∨ (rightB m && readerB txn) = false) → (t = false → ¬ (keyOk k = false ∨ (rightB m && readerB txn) = false)) →
      sh16_1 ω (pt b) (.int .i64 txn) (.pointer (some ⟨b1, 0, none⟩)) (.pointer (some ⟨b2, 0, none⟩)) (.int .i64 0) (lkV (.pointer none) false (cellsM ps sp.rows k)) (.bool t) (fun v => Gh (K v)) I
        ((b2, .cells #[.bool false, .slice none 0 0, .int .i64 0, .int .i64 0, .int .i64 0] 60 (0, 0)) :: (b1, Obj.cells #[.int .i64 m.fWall, .int .i64 m.fLogic] 34 (0, 0)) :: L) := by
    intro t ht hf
    unfold sh16_1
    refine br_split (fun e => ?_) (fun e => ?_)
    · have eg : getF sp k m txn = (gotN, 1) := by unfold getF; rw [if_pos (ht e)]
      rw [eg] at hk
      repeat' (first | (with_reducible refine drawC ?_) | (with_reducible refine drawW1 ?_) | (with_reducible refine drawW2 ?_) | (with_reducible refine keepC (by repeat (first | exact Ext.refl _ | assumption | refine Ext.trans ?_ (by assumption))) ?_) | (with_reducible refine newI (fun _ => ?_)) | first | (with_reducible refine rdb ?_) | ((with_reducible refine st1 ?_ ?_); rfl) | ((with_reducible refine rdB ?_ ?_); rfl) | (with_reducible refine rdbS ?_) | ((with_reducible refine rdBS ?_ ?_); rfl) | ((with_reducible refine stB ?_ ?_ ?_ ?_); rfl; rfl; exact one_all rfl) | ((with_reducible refine rdP _ rfl ?_ ?_); rfl) | ((with_reducible refine rdPS _ rfl ?_ ?_); rfl) | ((with_reducible refine stP _ rfl ?_ ?_ ?_ ?_); rfl; rfl; rfl) | (with_reducible refine unfE (sh16_1.eq_1 ..) ?_) | (with_reducible refine unfE (sh16.eq_1 ..) ?_) | (with_reducible refine And.intro ?_ ?_) | (simp only [Bool.not_true, Bool.not_false, Bool.and_self, Bool.true_and, Int.reduceBEq, Int.reduceBNe, Int.reduceLT, Int.reduceLE, decide_true, decide_false, Br_true, Br_false, Gd_tt, Gd_ft, Gd_tf, Gd_ff, beq_self_eq_true, bne_self_eq_false]) | (with_reducible refine gd_split (fun _ => ?_) (fun _ => ?_)) | (with_reducible refine br_split (fun _ => ?_) (fun _ => ?_)) | (simp only [SSd, Nat.reduceAdd]))
      exact Gh.to L (Gh.done (hk I _ (Ext.refl _) (hz I)))
    · have hf' := hf e
      refine drawC ?_
      try simp only [SSd, Nat.reduceAdd]
      refine rdNCS hc2 (Ext.refl _) rfl ?_
      refine rdBS rfl ?_
      refine call (behind_spec ?_)
      refine br_split (fun e2 => ?_) (fun e2 => ?_)
      · have eg : getF sp k m txn = (gotN, 131) := by unfold getF; rw [if_neg hf', if_pos e2]
        rw [eg] at hk
        repeat' (first | (with_reducible refine drawC ?_) | (with_reducible refine drawW1 ?_) | (with_reducible refine drawW2 ?_) | (with_reducible refine keepC (by repeat (first | exact Ext.refl _ | assumption | refine Ext.trans ?_ (by assumption))) ?_) | (with_reducible refine newI (fun _ => ?_)) | first | (with_reducible refine rdb ?_) | ((with_reducible refine st1 ?_ ?_); rfl) | ((with_reducible refine rdB ?_ ?_); rfl) | (with_reducible refine rdbS ?_) | ((with_reducible refine rdBS ?_ ?_); rfl) | ((with_reducible refine stB ?_ ?_ ?_ ?_); rfl; rfl; exact one_all rfl) | ((with_reducible refine rdP _ rfl ?_ ?_); rfl) | ((with_reducible refine rdPS _ rfl ?_ ?_); rfl) | ((with_reducible refine stP _ rfl ?_ ?_ ?_ ?_); rfl; rfl; rfl) | (with_reducible refine unfE (sh16_1.eq_1 ..) ?_) | (with_reducible refine unfE (sh16.eq_1 ..) ?_) | (with_reducible refine And.intro ?_ ?_) | (simp only [Bool.not_true, Bool.not_false, Bool.and_self, Bool.true_and, Int.reduceBEq, Int.reduceBNe, Int.reduceLT, Int.reduceLE, decide_true, decide_false, Br_true, Br_false, Gd_tt, Gd_ft, Gd_tf, Gd_ff, beq_self_eq_true, bne_self_eq_false]) | (with_reducible refine gd_split (fun _ => ?_) (fun _ => ?_)) | (with_reducible refine br_split (fun _ => ?_) (fun _ => ?_)) | (simp only [SSd, Nat.reduceAdd]))
        exact Gh.to L (Gh.done (hk I _ (Ext.refl _) (hz I)))
      · obtain ⟨h1, h2⟩ | ⟨r, p, h1, h2, h3, h4⟩ := hV.look hs k
        · have eg : getF sp k m txn = (gotN, 0) := by unfold getF; rw [if_neg hf', if_neg (by simp [e2]), h1]
          rw [eg] at hk
          rw [h2]
          have en : binPV .eql (lkV (.pointer none) false none) (.pointer none) = some (.bool true) := rfl
          simp only [en]
          repeat' (first | (with_reducible refine drawC ?_) | (with_reducible refine drawW1 ?_) | (with_reducible refine drawW2 ?_) | (with_reducible refine keepC (by repeat (first | exact Ext.refl _ | assumption | refine Ext.trans ?_ (by assumption))) ?_) | (with_reducible refine newI (fun _ => ?_)) | first | (with_reducible refine rdb ?_) | ((with_reducible refine st1 ?_ ?_); rfl) | ((with_reducible refine rdB ?_ ?_); rfl) | (with_reducible refine rdbS ?_) | ((with_reducible refine rdBS ?_ ?_); rfl) | ((with_reducible refine stB ?_ ?_ ?_ ?_); rfl; rfl; exact one_all rfl) | ((with_reducible refine rdP _ rfl ?_ ?_); rfl) | ((with_reducible refine rdPS _ rfl ?_ ?_); rfl) | ((with_reducible refine stP _ rfl ?_ ?_ ?_ ?_); rfl; rfl; rfl) | (with_reducible refine unfE (sh16_1.eq_1 ..) ?_) | (with_reducible refine unfE (sh16.eq_1 ..) ?_) | (with_reducible refine And.intro ?_ ?_) | (simp only [Bool.not_true, Bool.not_false, Bool.and_self, Bool.true_and, Int.reduceBEq, Int.reduceBNe, Int.reduceLT, Int.reduceLE, decide_true, decide_false, Br_true, Br_false, Gd_tt, Gd_ft, Gd_tf, Gd_ff, beq_self_eq_true, bne_self_eq_false]) | (with_reducible refine gd_split (fun _ => ?_) (fun _ => ?_)) | (with_reducible refine br_split (fun _ => ?_) (fun _ => ?_)) | (simp only [SSd, Nat.reduceAdd]))
          exact Gh.to L (Gh.done (hk I _ (Ext.refl _) (hz I)))
        · have eg : getF sp k m txn = seen r m txn := by unfold getF; rw [if_neg hf', if_neg (by simp [e2]), h1]
          rw [eg] at hk
          rw [h2]
          simp only [lkV, Bool.false_eq_true, if_false, SSd, Nat.reduceAdd]
          refine rdB rfl ?_
          refine call (cread_spec (h3.mono (Ext.refl _) (fun x hx => by simp [hx])) (hvs r (rowOf_mem h1)) (fun I' v0 hI' hB0 => ?_))
          try simp only [SSd, Nat.reduceAdd]
          refine stB rfl rfl ?_ ?_
          · obtain ⟨_, _, rfl⟩ := Bytes.form hB0; exact one_all rfl
          refine rdB rfl ?_
          exact Gh.to L (Gh.done (hk I' v0 hI' hB0))
  try simp only [SSd, Nat.reduceAdd]
  cases hkk : keyOk k with
  | false =>
    simp only [Bool.not_false, SSd, Nat.reduceAdd]
    exact main true (fun _ => .inl hkk) (by simp)
  | true =>
    simp only [Bool.not_true, SSd, Nat.reduceAdd]
    refine rdB rfl ?_
    refine call (ask_spec ?_)
    try simp only [SSd, Nat.reduceAdd]
    refine main _ (fun h => .inr (by rw [Bool.not_eq_true'] at h; exact h)) (fun h => by rw [Bool.not_eq_false'] at h; rw [hkk, h]; simp)
/-! ### The keys of a span, in turn -/
theorem inR_take {p : TSpan} {A B : List Row} (h : ∀ r ∈ A, blt r.key p.fFrom = true) : inR p (A ++ B) = inR p B := by
  unfold inR
  rw [List.filter_append, List.filter_eq_nil_iff.2 (fun r hr => by simp [inB, h r hr]), List.nil_append]
theorem inR_stop {p : TSpan} {r : Row} {rs : List Row} (hs : SrtK (keysOf (r :: rs))) (h0 : p.fTo ≠ []) (h : blt r.key p.fTo = false) : inR p (r :: rs) = [] := by
  unfold inR
  refine List.filter_eq_nil_iff.2 fun x hx => ?_
  have hx2 : blt x.key p.fTo = false := by
    rcases List.mem_cons.1 hx with rfl | hx
    · exact h
    · cases hb : blt x.key p.fTo with
      | false => rfl
      | true =>
        have h1 := (List.pairwise_cons.1 (show List.Pairwise _ (r.key :: keysOf rs) from hs)).1 _ (List.mem_map_of_mem hx)
        rw [blt_trans h1 hb] at h; cases h
  have h3 : p.fTo.length ≠ 0 := fun e => h0 (List.eq_nil_of_length_eq_zero e)
  simp [inB, hx2, h0]
theorem in_spec {yv : Value} {b m qs qp : Nat} {kv v0 v1 : Value} {es : Array MapEntry} {clock : Nat} {ps : List Nat} {sp : Sp} {p : TSpan} (J : List Row → M) (Post : M) (hs : SrtK (keysOf sp.rows)) (hlen : sp.rows.length ≤ 1000000000)
    (hJ : ∀ rs I' L', J rs I' L' → ViewF I' L' b m kv es clock ps sp ∧ Cell I' L' qs 0 (pt b) ∧ Cells I' L' qp 0 [v0, v1] ∧ Bytes I' v0 p.fFrom ∧ Bytes I' v1 p.fTo)
    (hstep : ∀ r rs I' L' q, J (r :: rs) I' L' → rowOf sp.rows r.key = some r → cellsM ps sp.rows r.key = some (pt q) → CalV Tryd.prog ω yv #[sstr r.key, pt q] (fun v => Gh fun I2 L2 => (v = .bool true ∧ J rs I2 L2) ∨ (v = .bool false ∧ Post I2 L2)) I' L')
    (hend : ∀ I' L', J [] I' L' → Post I' L') (h0 : J (inR p sp.rows) I L) (hk : ∀ I' L', Post I' L' → K (.tuple #[]) I' L') :
    Cal Tryd.prog ω 56 #[yv, pt qs, pt qp] K I L := by
  obtain ⟨hV, hqs, hqp, hB0, hB1⟩ := hJ _ _ _ h0
  refine cal56 ?_
  unfold sh56
  refine drawC ?_
  refine rdCS hqs (Ext.refl _) ?_
  try simp only [SSd, Nat.reduceAdd]
  refine rdCS (hV.head 1 _ rfl) (Ext.refl _) ?_
  refine rdCS (hqp 0 _ rfl) (Ext.refl _) ?_
  refine bs_I hB0 (Ext.refl _) ?_
  have hkl : (keysOf sp.rows).length = sp.rows.length := by simp [keysOf]
  refine call (bsearch_spec hV.keys (by omega) hs (fun i hi hlo hhi => ?_))
  try simp only [SSd, Nat.reduceAdd]
  refine rdC hqs (Ext.refl _) ?_
  try simp only [SSd, Nat.reduceAdd]
  refine rdC (hV.head 1 _ rfl) (Ext.refl _) ?_
  obtain ⟨kv', hsl, hK'⟩ := RL.part hV.keys (lo := i) (hi := (keysOf sp.rows).length) (by omega) (Nat.le_refl _) (some (.int .i64 i)) none (bnd_in _ _ _ _ (by omega)) (fun _ _ => rfl)
  rw [List.take_of_length_le (by simp)] at hK'
  simp only [hsl, RL.len hK', SSd, Nat.reduceAdd]
  have hrest : inR p sp.rows = inR p (sp.rows.drop i) := by
    conv => lhs; rw [← List.take_append_drop i sp.rows]
    refine inR_take fun r hr => hlo r.key ?_
    rw [show (keysOf sp.rows).take i = keysOf (sp.rows.take i) by simp [keysOf]]
    exact List.mem_map_of_mem hr
  rw [hrest] at h0
  have hdl : ((keysOf sp.rows).drop i).length = sp.rows.length - i := by simp [keysOf]
  rw [hdl]
  have hge : ∀ r ∈ sp.rows.drop i, blt r.key p.fFrom = false := fun r hr => hhi r.key (by
    rw [show (keysOf sp.rows).drop i = keysOf (sp.rows.drop i) by simp [keysOf]]
    exact List.mem_map_of_mem hr)
  refine loop (fun n s I' L' => ∃ j : Nat, n + j = sp.rows.length - i ∧ s = (.int .i64 j, ()) ∧ J (inR p ((sp.rows.drop i).drop j)) I' L') (sp.rows.length - i) ⟨0, rfl, rfl, by simpa using h0⟩ ?_
  rintro n s I' L' ⟨j, hnj, rfl, hj⟩
  obtain ⟨hV', hqs', hqp', hB0', hB1'⟩ := hJ _ _ _ hj
  unfold sh56_1
  try simp only [SSd, Nat.reduceAdd]
  refine br_split (fun e => ?_) (fun e => ?_)
  rotate_left
  · simp at e
    rw [List.drop_drop, List.drop_eq_nil_of_le (by omega)] at hj
    exact Gh.done (hk _ _ (hend _ _ hj))
  simp at e
  obtain ⟨kv2, hsl2, hK2⟩ := RL.part hV'.keys (lo := i) (hi := (keysOf sp.rows).length) (by omega) (Nat.le_refl _) (some (.int .i64 i)) none (bnd_in _ _ _ _ (by omega)) (fun _ _ => rfl)
  rw [List.take_of_length_le (by simp)] at hK2
  obtain rfl : kv2 = kv' := by rw [hsl] at hsl2; exact (Option.some.inj hsl2).symm
  obtain ⟨bb, off, c, hix, hl, hc, hcc⟩ := RL.ix hK2 (i := j) (by omega) (by omega)
  obtain rfl : c = _ := hc
  simp only [hix, SSd, Nat.reduceAdd]
  refine rdC (hcc I' L' (Ext.refl _) (fun _ h => h) 0 _ rfl) (Ext.refl _) ?_
  have hij : i + j < sp.rows.length := by omega
  have hkey : geti ((keysOf sp.rows).drop i) (j : Int) = sp.rows[i + j].key := by
    rw [geti_nat (by omega)]
    simp [keysOf]
  rw [hkey]
  have hd : (sp.rows.drop i).drop j = sp.rows[i + j] :: (sp.rows.drop i).drop (j + 1) := by
    rw [List.drop_drop, List.drop_drop, ← Nat.add_assoc]
    exact List.drop_eq_getElem_cons hij
  have hmem : sp.rows[i + j] ∈ sp.rows.drop i := by
    have : sp.rows[i + j] ∈ (sp.rows.drop i).drop j := by rw [hd]; exact List.mem_cons_self ..
    exact List.mem_of_mem_drop this
  have hsd : SrtK (keysOf (sp.rows[i + j] :: (sp.rows.drop i).drop (j + 1))) := by
    rw [← hd]; exact SrtK.sub hs ((List.drop_sublist ..).trans (List.drop_sublist ..))
  rw [hd] at hj
  have hg := hge _ hmem
  have e0 : sp.rows = sp.rows.take (i + j) ++ sp.rows[i + j] :: sp.rows.drop (i + j + 1) := by rw [← List.drop_eq_getElem_cons hij, List.take_append_drop]
  generalize sp.rows[i + j] = r at *
  have hrow : rowOf sp.rows r.key = some r := by
    have hm : Mid (sp.rows.take (i + j)) r.key (sp.rows.drop (i + j + 1)) := SrtK.mid (e0 ▸ hs)
    conv => lhs; rw [e0]
    exact rowOf_mid hm rfl
  have hrm : r ∈ sp.rows := List.mem_of_mem_drop hmem
  refine rdC (hqp' 1 _ rfl) (Ext.refl _) ?_
  simp only [Bytes.len hB1', SSd, Nat.reduceAdd]
  have fin : ∀ (hin : inB p r.key = true), Rv none (ld1R (.pointer (some ⟨qs, 0, none⟩))) (fun v28 => Pv (nilV v28) fun v29 => Pv (fldV 0 v29) fun v30 => Rv none (ld1R v30) fun v31 => Rv none (lkR .string (.pointer none) false v31 (sstr r.key)) fun v32 =>
      CalV Tryd.prog ω yv #[sstr r.key, v32] <| gh fun v33 => Pv (unV .not v33) fun v34 => Br v34 (Gh (K (.tuple #[]))) (Pv (binIV .add (.int .i64 j) (.int .i64 1)) fun v35 =>
        (fun s' => Gh fun I2 L2 => ∃ m', m' < n ∧ ∃ j : Nat, m' + j = sp.rows.length - i ∧ s' = (.int .i64 j, ()) ∧ J (inR p ((sp.rows.drop i).drop j)) I2 L2) (v35, ()))) I' L' := by
    intro hin
    refine rdC hqs' (Ext.refl _) ?_
    try simp only [SSd, Nat.reduceAdd]
    refine rdC (hV'.head 0 _ rfl) (Ext.refl _) ?_
    refine ⟨_, lk_at hV'.at' hV'.map, ?_⟩
    obtain ⟨h1, h2⟩ | ⟨r', q, h1, h2, h3, h4⟩ := hV'.look hs r.key
    · rw [hrow] at h1; cases h1
    obtain rfl : r' = r := by rw [hrow] at h1; exact (Option.some.inj h1).symm
    rw [h2]
    simp only [lkV, Bool.false_eq_true, if_false]
    have hj' : J (r' :: inR p ((sp.rows.drop i).drop (j + 1))) I' L' := by
      rw [show inR p (r' :: (sp.rows.drop i).drop (j + 1)) = r' :: inR p ((sp.rows.drop i).drop (j + 1)) by simp [inR, hin]] at hj
      exact hj
    refine CalV.mono (hstep r' _ I' L' q hj' hrow h2) (fun v I2 L2 hh => Gh.mono hh fun I2 L2 h => ?_)
    clear hh
    rcases h with ⟨rfl, h⟩ | ⟨rfl, h⟩
    · simp only [SSd, Nat.reduceAdd, Bool.not_true]
      rw [wrap_i64 _ (by omega)]
      exact Gh.done ⟨n - 1, by omega, j + 1, by omega, rfl, h⟩
    · simp only [SSd, Nat.reduceAdd, Bool.not_false]
      exact Gh.done (hk _ _ h)
  refine gd_split (fun e2 => ?_) (fun e2 => ?_)
  · simp at e2
    refine rdC (hqp' 1 _ rfl) (Ext.refl _) ?_
    refine bs_N hB1' (Ext.refl _) ?_
    simp only [sGe, SSd, Nat.reduceAdd]
    refine gd_split (fun e3 => ?_) (fun e3 => ?_)
    · have hlt : blt r.key p.fTo = true := by simpa using e3
      exact fin (by simp [inB, hg, hlt])
    · have hlt : blt r.key p.fTo = false := by simpa using e3
      rw [inR_stop hsd (fun e => by rw [e] at e2; exact absurd e2 (by simp)) hlt] at hj
      exact Gh.done (hk _ _ (hend _ _ hj))
  · simp at e2
    exact fin (by simp [inB, hg, e2])
theorem in0_spec {b : Nat} {v0 v1 : Value} (hk : ∀ qs qp, K (.func (.func 56) #[] #[pt qs, pt qp]) I ((qp, .cells #[v0, v1] 47 (0, 0)) :: (qs, .cells #[pt b] 24 (0, 0)) :: L)) :
    Cal Tryd.prog ω 31 #[pt b, .agg #[v0, v1]] K I L := by
  refine cal31 ?_
  unfold sh31
  exact newI (fun qs => newI (fun qp => Gh.done (hk qs qp)))
theorem rngIn {qs qp : Nat} {B : Value → Value → RB} {Kn : Nat → M} {Xs : Nat → List (Nat × M)} {Rr : Nat → M}
    (h : ∀ (l D : Nat) (Lo : LoF), (∀ a b K' I' L', YldM l Lo (B a b) K' I' L' → CalV Tryd.prog ω (.func (.yield l) #[] #[]) #[a, b] K' I' L') →
      Cal Tryd.prog ω 56 #[.func (.yield l) #[] #[], pt qs, pt qp] (fun _ => Gh (EndL l Lo (jumpM (Kn D) (Xs D) (Rr D)))) I ((l, Lo .ready none) :: (D, .deferred (some [])) :: L)) :
    RngF2 Tryd.prog ω (.func (.func 56) #[] #[pt qs, pt qp]) B Kn Xs Rr I L := by
  unfold RngF2 RngM
  simp only
  rw [if_pos (show entersB Tryd.prog 56 = true by kernel_rfl)]
  intro l D Lo _ hy
  exact h l D Lo (fun a b K' I' L' hh => hy [a, b] K' I' L' rfl hh)
end
end Go.Proofs.YtmnnnoinfhiilaaDoor
