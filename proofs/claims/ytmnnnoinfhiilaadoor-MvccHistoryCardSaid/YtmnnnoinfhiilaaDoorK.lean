/-
  A space is read: a span, what has changed, the floor, the intents.
-/
-- S3
import Derived.Test.YtmnnnoinfhiilaaDoorJ
set_option linter.unusedSimpArgs false
set_option linter.unusedVariables false
namespace Go.Proofs.YtmnnnoinfhiilaaDoor
open Go.SL
set_option maxRecDepth 10000
section
variable {ω : Om} {I : Imm} {L : LH} {K : Value → M}
theorem clipK_spec {X : LH} {v : Value} {cells : List Value} {len : Nat} (h : SlO 92 2 X v cells len) (hk : ∀ a', (∀ I' , SlI I' 2 v cells len → SlI I' 2 (.slice a' len len) cells len) → K (.slice a' len len) I L) : Cal Tryd.prog ω 33 #[v] K I L := by
  refine cal33 ?_
  unfold sh33
  obtain ⟨a, cap, rfl⟩ := h.form
  have hle : len ≤ cap := by
    rcases h.2 with ⟨_, h0, a', e⟩ | ⟨b, cap', cs, _, e, _, hle, _⟩
    · omega
    · cases e; exact hle
  have s1 : slcV 2 (.slice a len cap) none (some (.int .i64 len)) (some (.int .i64 len)) = some (.slice (if len = 0 then a else a.map (·.add (0 * 2))) len len) := by
    simp only [slcV, Option.isNone_some, Bool.false_and, Bool.false_eq_true, if_false, bnd_in _ _ _ _ hle, bnd_in _ _ _ _ (Nat.le_refl _), Option.bind_some, bnd0, Nat.sub_zero]
  simp only [s1, SSd, Nat.reduceAdd]
  refine Gh.done (hk _ fun I' ⟨h1, a', cap', e, h2, h3⟩ => ⟨h1, _, len, rfl, Nat.le_refl _, fun h0 => ?_⟩)
  obtain ⟨b, off, cs, T, fr, h4, hm, hcs⟩ := h3 h0
  cases e
  subst h4
  exact ⟨b, off, cs, T, fr, by rw [if_neg h0]; simp [add_none], hm, hcs⟩
theorem scan2 {b4 b8 len cap T4 T8 : Nat} {a : Option Addr} {most : Int} {Nk : M} {Xk : Nat → M} [h8 : InL b8 L (.cells #[.slice a len cap] T8 (0, 0))] [h4 : InL b4 L (.cells #[.int .i64 most] T4 (0, 0))] (hx : (len : Int) = most → Xk 1 I L) (hn : ¬ (len : Int) = most → Nk I L) :
    sh13_2 ω (.pointer (some ⟨b4, 0, none⟩)) (.pointer (some ⟨b8, 0, none⟩)) Nk Xk K I L := by
  unfold sh13_2
  refine rd1 (Cell.own h8.mem rfl) ?_
  try simp only [SSd, Nat.reduceAdd]
  refine rd1 (Cell.own h4.mem rfl) ?_
  try simp only [SSd, Nat.reduceAdd]
  refine br_split (fun e => hx (by simpa using e)) (fun e => hn (by simpa using e))
theorem scan_spec {b : Nat} {sp : Sp} {p : TSpan} {pc : List Value} {m : TStamp} {txn most : Int} (hV : View I L b sp) (hs : SrtK (keysOf sp.rows)) (hlen : sp.rows.length ≤ 1000000000) (hvs : ∀ r ∈ sp.rows, r.vs.length ≤ 1000000000) (hp : TSpanV I p pc)
    (hk : ∀ I' v, Ext I I' → RL TKVV 2 I' [] v (scanF sp p m txn most).1 → K (.tuple #[v, .int .i64 (scanF sp p m txn most).2.1, .int .i64 (scanF sp p m txn most).2.2]) I' L) :
    Cal Tryd.prog ω 13 #[pt b, .agg pc.toArray, sv m, .int .i64 txn, .int .i64 most] K I L := by
  obtain ⟨v0, v1, rfl, hb0, hb1⟩ := hp
  refine cal13 ?_
  unfold sh13
  refine newI (fun b1 => newI (fun b2 => newI (fun b3 => newI (fun b4 => newI (fun b5 => newI (fun b6 => newI (fun b7 => ?_)))))))
  refine rdB rfl ?_
  refine rdb ?_
  refine call (ask_spec ?_)
  have main : ∀ t : Bool, (t = true → (rightB m && readerB txn) = false ∨ most < 1) → (t = false → ¬ ((rightB m && readerB txn) = false ∨ most < 1)) →
      sh13_1 ω (pt b) (pt b1) (pt b2) (pt b3) (pt b4) (pt b5) (pt b6) (pt b7) (.bool t) (fun v => Gh (K v)) I
        ((b7, .cells #[.int .i64 0] 35 (0, 0)) :: (b6, .cells #[.int .i64 0] 3 (0, 0)) :: (b5, .cells #[.slice none 0 0] 27 (0, 0)) :: (b4, .cells #[.int .i64 most] 3 (0, 0)) :: (b3, .cells #[.int .i64 txn] 3 (0, 0)) :: (b2, Obj.cells #[.int .i64 m.fWall, .int .i64 m.fLogic] 34 (0, 0)) :: (b1, Obj.cells #[v0, v1] 47 (0, 0)) :: L) := by
    intro t ht hf
    unfold sh13_1
    refine br_split (fun e => ?_) (fun e => ?_)
    · have eg : scanF sp p m txn most = ([], 0, 1) := by unfold scanF; rw [if_pos (ht e)]
      rw [eg] at hk
      repeat' (first | (with_reducible refine drawC ?_) | (with_reducible refine drawW1 ?_) | (with_reducible refine drawW2 ?_) | (with_reducible refine keepC (by repeat (first | exact Ext.refl _ | assumption | refine Ext.trans ?_ (by assumption))) ?_) | (with_reducible refine newI (fun _ => ?_)) | first | (with_reducible refine rdb ?_) | ((with_reducible refine st1 ?_ ?_); rfl) | ((with_reducible refine rdB ?_ ?_); rfl) | (with_reducible refine rdbS ?_) | ((with_reducible refine rdBS ?_ ?_); rfl) | ((with_reducible refine stB ?_ ?_ ?_ ?_); rfl; rfl; exact one_all rfl) | ((with_reducible refine rdP _ rfl ?_ ?_); rfl) | ((with_reducible refine rdPS _ rfl ?_ ?_); rfl) | ((with_reducible refine stP _ rfl ?_ ?_ ?_ ?_); rfl; rfl; rfl) | (with_reducible refine unfE (sh13_2.eq_1 ..) ?_) | (with_reducible refine unfE (sh13_4.eq_1 ..) ?_) | (with_reducible refine unfE (sh13_1.eq_1 ..) ?_) | (with_reducible refine unfE (sh13.eq_1 ..) ?_) | (with_reducible refine And.intro ?_ ?_) | (simp only [Bool.not_true, Bool.not_false, Bool.and_self, Bool.true_and, Int.reduceBEq, Int.reduceBNe, Int.reduceLT, Int.reduceLE, decide_true, decide_false, Br_true, Br_false, Gd_tt, Gd_ft, Gd_tf, Gd_ff, beq_self_eq_true, bne_self_eq_false]) | (with_reducible refine gd_split (fun _ => ?_) (fun _ => ?_)) | (with_reducible refine br_split (fun _ => ?_) (fun _ => ?_)) | (simp only [SSd, Nat.reduceAdd]))
      exact Gh.to L (Gh.done (hk I _ (Ext.refl _) (RL.nil _ _)))
    · have hf' := hf e
      obtain ⟨mm, kv, es, clock, ps, hV⟩ := hV
      have hc2 : Cells I L b 2 [.int .i64 sp.floor.fWall, .int .i64 sp.floor.fLogic] := by simpa using hV.head.sub (k := 2) (m := 2)
      refine drawC ?_
      try simp only [SSd, Nat.reduceAdd]
      refine rdNCS hc2 (Ext.refl _) rfl ?_
      refine rdBS rfl ?_
      refine call (behind_spec ?_)
      refine br_split (fun e2 => ?_) (fun e2 => ?_)
      · have eg : scanF sp p m txn most = ([], 0, 131) := by unfold scanF; rw [if_neg hf', if_pos e2]
        rw [eg] at hk
        repeat' (first | (with_reducible refine drawC ?_) | (with_reducible refine drawW1 ?_) | (with_reducible refine drawW2 ?_) | (with_reducible refine keepC (by repeat (first | exact Ext.refl _ | assumption | refine Ext.trans ?_ (by assumption))) ?_) | (with_reducible refine newI (fun _ => ?_)) | first | (with_reducible refine rdb ?_) | ((with_reducible refine st1 ?_ ?_); rfl) | ((with_reducible refine rdB ?_ ?_); rfl) | (with_reducible refine rdbS ?_) | ((with_reducible refine rdBS ?_ ?_); rfl) | ((with_reducible refine stB ?_ ?_ ?_ ?_); rfl; rfl; exact one_all rfl) | ((with_reducible refine rdP _ rfl ?_ ?_); rfl) | ((with_reducible refine rdPS _ rfl ?_ ?_); rfl) | ((with_reducible refine stP _ rfl ?_ ?_ ?_ ?_); rfl; rfl; rfl) | (with_reducible refine unfE (sh13_2.eq_1 ..) ?_) | (with_reducible refine unfE (sh13_4.eq_1 ..) ?_) | (with_reducible refine unfE (sh13_1.eq_1 ..) ?_) | (with_reducible refine unfE (sh13.eq_1 ..) ?_) | (with_reducible refine And.intro ?_ ?_) | (simp only [Bool.not_true, Bool.not_false, Bool.and_self, Bool.true_and, Int.reduceBEq, Int.reduceBNe, Int.reduceLT, Int.reduceLE, decide_true, decide_false, Br_true, Br_false, Gd_tt, Gd_ft, Gd_tf, Gd_ff, beq_self_eq_true, bne_self_eq_false]) | (with_reducible refine gd_split (fun _ => ?_) (fun _ => ?_)) | (with_reducible refine br_split (fun _ => ?_) (fun _ => ?_)) | (simp only [SSd, Nat.reduceAdd]))
        exact Gh.to L (Gh.done (hk I _ (Ext.refl _) (RL.nil _ _)))
      · have eg : scanF sp p m txn most = scanL m txn most (inR p sp.rows) [] := by unfold scanF; rw [if_neg hf', if_neg (by simp [e2])]
        rw [eg] at hk
        refine newI (fun b8 => ?_)
        refine rdB rfl ?_
        refine call (in0_spec (fun qs qp => ?_))
        refine rngIn (fun l D Lo hy => ?_)
        have hfin : ∀ (s : LoopState) (j : Option Code) (hs : s ≠ .busy) (hj : j = none ∨ j = some (.exit 1)) (I2 : Imm) (XO : LH) (vo : Value) (acc : List TKV) (cells : List Value), Ext I I2 → SlO 92 2 XO vo cells acc.length → Recs (TKVV I2) 2 acc cells → scanL m txn most (inR p sp.rows) [] = (acc, 0, 0) →
            EndL l Lo (jumpM (sh13_4 ω (pt b5) (pt b6) (pt b7) (.pointer (some ⟨b8, 0, none⟩)) D fun v => Gh (K v)) [(1, sh13_4 ω (pt b5) (pt b6) (pt b7) (.pointer (some ⟨b8, 0, none⟩)) D fun v => Gh (K v))]
              (Tak D (Rv none (ld1R (pt b5)) fun v20 => Rv none (ld1R (pt b6)) fun v21 => Rv none (ld1R (pt b7)) fun v22 => Gh (K (.tuple #[v20, v21, v22]))))) I2
              ((l, Lo s j) :: (D, .deferred (some [])) :: (qp, .cells #[v0, v1] 47 (0, 0)) :: (qs, .cells #[pt b] 24 (0, 0)) :: (b8, .cells #[vo] 27 (0, 0)) :: (b7, .cells #[.int .i64 0] 35 (0, 0)) :: (b6, .cells #[.int .i64 0] 3 (0, 0)) :: (b5, .cells #[.slice none 0 0] 27 (0, 0)) :: (b4, .cells #[.int .i64 most] 3 (0, 0)) :: (b3, .cells #[.int .i64 txn] 3 (0, 0)) :: (b2, Obj.cells #[.int .i64 m.fWall, .int .i64 m.fLogic] 34 (0, 0)) :: (b1, Obj.cells #[v0, v1] 47 (0, 0)) :: (XO ++ L)) := by
          intro s j hs hj I2 XO vo acc cells hI2 hO hR hsc
          refine endL (s := s) (j := j) hs ?_
          have body : sh13_4 ω (pt b5) (pt b6) (pt b7) (.pointer (some ⟨b8, 0, none⟩)) D (fun v => Gh (K v)) I2
              ((D, .deferred (some [])) :: (qp, .cells #[v0, v1] 47 (0, 0)) :: (qs, .cells #[pt b] 24 (0, 0)) :: (b8, .cells #[vo] 27 (0, 0)) :: (b7, .cells #[.int .i64 0] 35 (0, 0)) :: (b6, .cells #[.int .i64 0] 3 (0, 0)) :: (b5, .cells #[.slice none 0 0] 27 (0, 0)) :: (b4, .cells #[.int .i64 most] 3 (0, 0)) :: (b3, .cells #[.int .i64 txn] 3 (0, 0)) :: (b2, Obj.cells #[.int .i64 m.fWall, .int .i64 m.fLogic] 34 (0, 0)) :: (b1, Obj.cells #[v0, v1] 47 (0, 0)) :: (XO ++ L)) := by
            unfold sh13_4
            refine rdb ?_
            refine call (clipK_spec hO (fun v' hv' => ?_))
            refine st1 rfl ?_
            refine st1 rfl ?_
            refine st1 rfl ?_
            refine tak ?_
            refine rdb (rdb (rdb ?_))
            refine Gh.to (XO ++ L) (SlO.freeze hO (fun I3 hI3 hSl => Gh.done ?_))
            rw [hsc] at hk
            exact hk I3 _ (hI2.trans hI3) (RL.ofI (hv' _ hSl) (hR.imp fun x c h => h.mono hI3))
          rcases hj with rfl | rfl
          · exact body
          · exact body
        refine in_spec (J := fun rs I' L' => Ext I I' ∧ ∃ XO vo acc cells, L' = (l, Lo .ready none) :: (D, .deferred (some [])) :: (qp, .cells #[v0, v1] 47 (0, 0)) :: (qs, .cells #[pt b] 24 (0, 0)) :: (b8, .cells #[vo] 27 (0, 0)) :: (b7, .cells #[.int .i64 0] 35 (0, 0)) :: (b6, .cells #[.int .i64 0] 3 (0, 0)) :: (b5, .cells #[.slice none 0 0] 27 (0, 0)) :: (b4, .cells #[.int .i64 most] 3 (0, 0)) :: (b3, .cells #[.int .i64 txn] 3 (0, 0)) :: (b2, Obj.cells #[.int .i64 m.fWall, .int .i64 m.fLogic] 34 (0, 0)) :: (b1, Obj.cells #[v0, v1] 47 (0, 0)) :: (XO ++ L) ∧
            SlO 92 2 XO vo cells acc.length ∧ Recs (TKVV I') 2 acc cells ∧ acc.length + rs.length ≤ 1000000000 ∧ scanL m txn most rs acc = scanL m txn most (inR p sp.rows) []) (Post := EndL l Lo (jumpM (sh13_4 ω (pt b5) (pt b6) (pt b7) (.pointer (some ⟨b8, 0, none⟩)) D fun v => Gh (K v)) [(1, sh13_4 ω (pt b5) (pt b6) (pt b7) (.pointer (some ⟨b8, 0, none⟩)) D fun v => Gh (K v))]
              (Tak D (Rv none (ld1R (pt b5)) fun v20 => Rv none (ld1R (pt b6)) fun v21 => Rv none (ld1R (pt b7)) fun v22 => Gh (K (.tuple #[v20, v21, v22])))))) (p := p) (v0 := v0) (v1 := v1) (sp := sp) (b := b) (m := mm) (kv := kv) (es := es) (clock := clock) (ps := ps) hs hlen ?_ ?_ ?_ ?_ (fun I' L' h => Gh.done h)
        · rintro rs I' L' ⟨hI, XO, vo, acc, cells, rfl, _⟩
          exact ⟨hV.mono hI (fun x hx => by simp [hx]), Cell.own (b := qs) (cs := #[pt b]) (T := 24) (fr := (0, 0)) (by simp) rfl, own_cells (l := [v0, v1]) (T := 47) (fr := (0, 0)) (by simp) 2, hb0.mono hI, hb1.mono hI⟩
        · rintro r rs I' L' q ⟨hI, XO, vo, acc, cells, rfl, hO, hR, hlen2, hsc⟩ hrow hcl
          have hC := hV.cellAt hs hrow hcl
          simp only [List.length_cons] at hlen2
          refine hy _ _ _ _ _ (yldM ?_)
          refine begR ?_
          refine rdB rfl ?_
          refine rdb ?_
          refine call (cread_spec (hC.mono hI (fun x hx => by simp [hx])) (hvs r (rowOf_mem hrow)) (fun I2 g0 hI2 hg0 => ?_))
          obtain ⟨ga, gc, rfl⟩ := Bytes.form hg0
          try simp only [SSd, Nat.reduceAdd]
          refine newI (fun b9 => ?_)
          refine stB rfl rfl (one_all rfl) ?_
          try simp only [SSd, Nat.reduceAdd]
          refine br_split (fun e3 => ?_) (fun e3 => ?_)
          · have e3' : (seen r m txn).2 ≠ 0 := by simpa using e3
            simp only [scanL] at hsc
            rw [if_pos e3'] at hsc
            refine drawW1 ?_
            try simp only [SSd, Nat.reduceAdd]
            refine rdbS ?_
            refine st1 rfl ?_
            refine keepC (Ext.refl _) ?_
            refine st1 rfl ?_
            refine st1 rfl ?_
            refine endRX ?_
            refine Gh.to ((l, Lo .done (some .ret)) :: (D, .deferred (some [])) :: (b7, .cells #[.int .i64 (seen r m txn).2] 35 (0, 0)) :: (b6, .cells #[.int .i64 (seen r m txn).1.fBy] 3 (0, 0)) :: (b5, .cells #[.slice none 0 0] 27 (0, 0)) :: L) (Gh.done (.inr ⟨rfl, ?_⟩))
            refine endL (s := .done) (j := some .ret) (by simp) ?_
            refine tak (rdb (rdb (rdb ?_)))
            rw [← hsc] at hk
            exact Gh.to L (Gh.done (hk I2 _ (hI.trans hI2) (RL.nil _ _)))
          · have e3' : ¬ ((seen r m txn).2 ≠ 0) := by simpa using e3
            simp only [scanL] at hsc
            rw [if_neg e3'] at hsc
            try simp only [SSd, Nat.reduceAdd]
            refine rdb ?_
            refine br_split (fun e4 => ?_) (fun e4 => ?_)
            · refine rdb ?_
              refine cvsb (fun ku I3 hI3 hKB => Gh.done ?_)
              obtain ⟨ka, kc, rfl⟩ := Bytes.form hKB
              refine rdb ?_
              try simp only [SSd, Nat.reduceAdd]
              refine rec_app (R := TKVV) (X6 := XO) (x := ⟨r.key, (seen r m txn).1.fValue⟩) rfl (by omega) hO (hR.imp fun x c h => h.mono (hI2.trans hI3)) ⟨_, _, rfl, hKB, hg0.mono hI3⟩ rfl (one_all rfl) (by omega) (by omega) (fun X1 X6 v6 cells6 h6 hR6 => ?_)
              have hpush : push r (seen r m txn).1 acc = acc ++ [⟨r.key, (seen r m txn).1.fValue⟩] := by unfold push; rw [if_pos e4]
              rw [hpush] at hsc
              obtain ⟨a6, c6, rfl⟩ := h6.form
              refine st1 rfl ?_
              refine scan2 (fun hm => endRX ?_) (fun hm => endR ?_)
              · rw [if_pos hm] at hsc
                refine Gh.to ((l, Lo .done (some (.exit 1))) :: (D, .deferred (some [])) :: (qp, .cells #[v0, v1] 47 (0, 0)) :: (qs, .cells #[pt b] 24 (0, 0)) :: (b8, .cells #[.slice a6 (acc ++ [(⟨r.key, (seen r m txn).1.fValue⟩ : TKV)]).length c6] 27 (0, 0)) :: (b7, .cells #[.int .i64 0] 35 (0, 0)) :: (b6, .cells #[.int .i64 0] 3 (0, 0)) :: (b5, .cells #[.slice none 0 0] 27 (0, 0)) :: (b4, .cells #[.int .i64 most] 3 (0, 0)) :: (b3, .cells #[.int .i64 txn] 3 (0, 0)) :: (b2, Obj.cells #[.int .i64 m.fWall, .int .i64 m.fLogic] 34 (0, 0)) :: (b1, Obj.cells #[v0, v1] 47 (0, 0)) :: (X6 ++ L)) (Gh.done (.inr ⟨rfl, ?_⟩))
                exact hfin .done (some (.exit 1)) (by simp) (.inr rfl) I3 X6 _ _ cells6 (hI.trans (hI2.trans hI3)) h6 hR6 hsc.symm
              · rw [if_neg hm] at hsc
                refine Gh.to ((l, Lo .ready none) :: (D, .deferred (some [])) :: (qp, .cells #[v0, v1] 47 (0, 0)) :: (qs, .cells #[pt b] 24 (0, 0)) :: (b8, .cells #[.slice a6 (acc ++ [(⟨r.key, (seen r m txn).1.fValue⟩ : TKV)]).length c6] 27 (0, 0)) :: (b7, .cells #[.int .i64 0] 35 (0, 0)) :: (b6, .cells #[.int .i64 0] 3 (0, 0)) :: (b5, .cells #[.slice none 0 0] 27 (0, 0)) :: (b4, .cells #[.int .i64 most] 3 (0, 0)) :: (b3, .cells #[.int .i64 txn] 3 (0, 0)) :: (b2, Obj.cells #[.int .i64 m.fWall, .int .i64 m.fLogic] 34 (0, 0)) :: (b1, Obj.cells #[v0, v1] 47 (0, 0)) :: (X6 ++ L)) (Gh.done (.inl ⟨rfl, hI.trans (hI2.trans hI3), X6, _, _, cells6, rfl, h6, hR6, by simp; omega, hsc⟩))
            · have hpush : push r (seen r m txn).1 acc = acc := by unfold push; rw [if_neg (by simp [e4])]
              rw [hpush] at hsc
              obtain ⟨a6, c6, rfl⟩ := hO.form
              refine scan2 (fun hm => endRX ?_) (fun hm => endR ?_)
              · rw [if_pos hm] at hsc
                refine Gh.to ((l, Lo .done (some (.exit 1))) :: (D, .deferred (some [])) :: (qp, .cells #[v0, v1] 47 (0, 0)) :: (qs, .cells #[pt b] 24 (0, 0)) :: (b8, .cells #[.slice a6 acc.length c6] 27 (0, 0)) :: (b7, .cells #[.int .i64 0] 35 (0, 0)) :: (b6, .cells #[.int .i64 0] 3 (0, 0)) :: (b5, .cells #[.slice none 0 0] 27 (0, 0)) :: (b4, .cells #[.int .i64 most] 3 (0, 0)) :: (b3, .cells #[.int .i64 txn] 3 (0, 0)) :: (b2, Obj.cells #[.int .i64 m.fWall, .int .i64 m.fLogic] 34 (0, 0)) :: (b1, Obj.cells #[v0, v1] 47 (0, 0)) :: (XO ++ L)) (Gh.done (.inr ⟨rfl, ?_⟩))
                exact hfin .done (some (.exit 1)) (by simp) (.inr rfl) I2 XO _ _ cells (hI.trans hI2) hO (hR.imp fun x c h => h.mono hI2) hsc.symm
              · rw [if_neg hm] at hsc
                refine Gh.to ((l, Lo .ready none) :: (D, .deferred (some [])) :: (qp, .cells #[v0, v1] 47 (0, 0)) :: (qs, .cells #[pt b] 24 (0, 0)) :: (b8, .cells #[.slice a6 acc.length c6] 27 (0, 0)) :: (b7, .cells #[.int .i64 0] 35 (0, 0)) :: (b6, .cells #[.int .i64 0] 3 (0, 0)) :: (b5, .cells #[.slice none 0 0] 27 (0, 0)) :: (b4, .cells #[.int .i64 most] 3 (0, 0)) :: (b3, .cells #[.int .i64 txn] 3 (0, 0)) :: (b2, Obj.cells #[.int .i64 m.fWall, .int .i64 m.fLogic] 34 (0, 0)) :: (b1, Obj.cells #[v0, v1] 47 (0, 0)) :: (XO ++ L)) (Gh.done (.inl ⟨rfl, hI.trans hI2, XO, _, _, cells, rfl, hO, hR.imp fun x c h => h.mono hI2, by omega, hsc⟩))
        · rintro I' L' ⟨hI, XO, vo, acc, cells, rfl, hO, hR, hlen2, hsc⟩
          exact hfin .ready none (by simp) (.inl rfl) I' XO vo acc cells hI hO hR hsc.symm
        · refine ⟨Ext.refl _, [], _, [], [], rfl, SlO.none _ _, rfl, ?_, rfl⟩
          have := List.length_filter_le (fun r : Row => inB p r.key) sp.rows
          simp [inR]; omega
  cases hq : (rightB m && readerB txn) with
  | false =>
    simp only [Bool.not_false, SSd, Nat.reduceAdd]
    exact main true (fun _ => .inl hq) (by simp)
  | true =>
    simp only [Bool.not_true, SSd, Nat.reduceAdd]
    refine rdb ?_
    try simp only [SSd, Nat.reduceAdd]
    exact main _ (fun h => .inr (by simpa using h)) (fun h => by rw [hq]; simpa using h)
/-! ### What has changed -/
end
end Go.Proofs.YtmnnnoinfhiilaaDoor
