/-
  What is asked hangs on the ranges in where its span ends alone; an answer is taken.
-/
-- S2
import Derived.Test.YtlalbollbdlfhaaL
set_option linter.unusedSimpArgs false
set_option linter.unusedVariables false
namespace Go.Proofs.Ytlalbollbdlfhaa
open Go.SL
set_option maxRecDepth 10000

/-- each key lies in a range -/
def Cov (ls : List TRange) : Prop := ∀ k, (ls.find? (holdsB · k)).isSome = true
theorem cov_whole : Cov wholeR := by
  intro k
  have : holdsB ⟨1, ⟨[], []⟩, 1⟩ k = true := by simp [holdsB, blt_nil]
  simp [wholeR, this]
theorem keyReq_cov {ls : List TRange} (h : Cov ls) (k : List UInt8) (c : TCmd) : ∃ id, keyReq ls k c = some ⟨id, c, 0⟩ := by
  obtain ⟨r, hr⟩ := Option.isSome_iff_exists.1 (h k)
  exact ⟨r.fId, by unfold keyReq partF; rw [show (aloneF k).fFrom = k from rfl, hr]; rfl⟩
theorem overReq_cov {ls : List TRange} (h : Cov ls) (hok : ∀ r ∈ ls, rngOk r) (p : TSpan) (hp : spanOk p) (c : TCmd) : ∃ id t, overReq ls p c = some ⟨id, { c with fSpan := ⟨p.fFrom, t⟩ }, 0⟩ ∧ t.length ≤ 140737488355327 := by
  obtain ⟨r, hr⟩ := Option.isSome_iff_exists.1 (h p.fFrom)
  refine ⟨r.fId, toF r p, by unfold overReq partF; rw [hr]; rfl, ?_⟩
  have hm := List.mem_of_find?_eq_some hr
  unfold toF
  split
  · exact hp.2
  · exact (hok r hm).2
/-- what is asked: a command, whose span's end hangs on the ranges -/
structure Asks (x : TTxn) (c : TCmd) : Prop where
  ok : c.fSpan.fFrom.length ≤ 140737488355327
  put : c.fKind = 3 → x.fBlocked.fTxn = 0 → x.fStage = 2
  key : c.fKey.length ≤ 110
  fresh : c.fKind = 4 → x.fStage = 3
  clean : (x.fStage = 5 ∨ x.fStage = 6) → x.fBlocked.fTxn = 0 → c.fKind ≠ 6 → c.fKind ≠ 8 → x.fKeys ≠ []
theorem like_self (c : TCmd) : likeT c c.fSpan.fTo = c := rfl
theorem hd_mem {α : Type} [Inhabited α] {l : List α} (h : l ≠ []) : geti l 0 ∈ l := by
  have h1 : 0 < l.length := List.length_pos_iff.2 h
  have := geti_nat h1
  simp only [Int.natCast_zero] at this
  rw [this]; exact List.getElem_mem _
theorem ask_cov {x : TTxn} (hx : TxOk x) : (∀ ls, Cov ls → (∀ r ∈ ls, rngOk r) → askF ls x = none) ∨ ∃ c, Asks x c ∧ ∀ ls, Cov ls → (∀ r ∈ ls, rngOk r) → ∃ id t, askF ls x = some ⟨id, likeT c t, 0⟩ ∧ t.length ≤ 140737488355327 := by
  have kr : ∀ (k : List UInt8) (c : TCmd), Asks x c → c.fSpan.fTo.length ≤ 140737488355327 → (∀ ls, askF ls x = keyReq ls k c) → ∃ c, Asks x c ∧ ∀ ls, Cov ls → (∀ r ∈ ls, rngOk r) → ∃ id t, askF ls x = some ⟨id, likeT c t, 0⟩ ∧ t.length ≤ 140737488355327 := fun k c ha hl e =>
    ⟨c, ha, fun ls h _ => by
      obtain ⟨id, h1⟩ := keyReq_cov h k c
      exact ⟨id, c.fSpan.fTo, by rw [e, h1, like_self], hl⟩⟩
  have ov : ∀ (p : TSpan) (c : TCmd), spanOk p → Asks x { c with fSpan := p } → (∀ ls, askF ls x = overReq ls p c) → ∃ c, Asks x c ∧ ∀ ls, Cov ls → (∀ r ∈ ls, rngOk r) → ∃ id t, askF ls x = some ⟨id, likeT c t, 0⟩ ∧ t.length ≤ 140737488355327 := fun p c hp ha e =>
    ⟨_, ha, fun ls h hok => by
      obtain ⟨id, t, h1, h2⟩ := overReq_cov h hok p hp c
      exact ⟨id, t, by rw [e, h1]; rfl, h2⟩⟩
  have l0 : ([] : List UInt8).length ≤ 140737488355327 := by simp
  have l1 : ([] : List UInt8).length ≤ 110 := by simp
  by_cases hb : x.fBlocked.fTxn = 0
  · by_cases h1 : x.fStage = 1
    · refine .inr (ov (geti x.fSpans 0) (scanC x) (hx.spanL _ (hd_mem (hx.spans hb (.inl h1)))) ⟨(hx.spanL _ (hd_mem (hx.spans hb (.inl h1)))).1, fun h => absurd h (by show ¬ (2 : Int) = 3; omega), l1, fun h => absurd h (by show ¬ (2 : Int) = 4; omega), fun h => by omega⟩ (fun ls => ?_))
      rw [askF, if_neg (by simpa using hb), if_pos h1]
    by_cases h2 : x.fStage = 2
    · by_cases hbe : x.fBegun = true
      · have hm := hx.opL _ (hd_mem (hx.ops hb h2 hbe))
        refine .inr (kr (geti x.fOps 0).fKey (putC x) ⟨l0, fun _ _ => h2, hm.1, fun h => absurd h (by show ¬ (3 : Int) = 4; omega), fun h => by omega⟩ l0 (fun ls => ?_))
        rw [askF, if_neg (by simpa using hb), if_neg h1, if_pos h2, if_pos hbe]
      · refine .inr (kr [] (beginC x) ⟨l0, fun h => absurd h (by show ¬ (5 : Int) = 3; omega), l1, fun h => absurd h (by show ¬ (5 : Int) = 4; omega), fun h => by omega⟩ l0 (fun ls => ?_))
        rw [askF, if_neg (by simpa using hb), if_neg h1, if_pos h2, if_neg hbe]
    by_cases h3 : x.fStage = 3
    · refine .inr (ov (geti x.fSpans 0) (refreshC x) (hx.spanL _ (hd_mem (hx.spans hb (.inr h3)))) ⟨(hx.spanL _ (hd_mem (hx.spans hb (.inr h3)))).1, fun h => absurd h (by show ¬ (4 : Int) = 3; omega), l1, fun _ => h3, fun h => by omega⟩ (fun ls => ?_))
      rw [askF, if_neg (by simpa using hb), if_neg h1, if_neg h2, if_pos h3]
    by_cases h4 : x.fStage = 4 ∨ x.fStage = 5
    · refine .inr (kr [] (endC x) ⟨l0, fun h => absurd h (by show ¬ (6 : Int) = 3; omega), l1, fun h => absurd h (by show ¬ (6 : Int) = 4; omega), fun _ _ h => absurd rfl h⟩ l0 (fun ls => ?_))
      rw [askF, if_neg (by simpa using hb), if_neg h1, if_neg h2, if_neg h3, if_pos h4]
    by_cases h6 : x.fStage = 6
    · by_cases hk : x.fKeys = []
      · refine .inr (kr [] (forgetC x) ⟨l0, fun h => absurd h (by show ¬ (8 : Int) = 3; omega), l1, fun h => absurd h (by show ¬ (8 : Int) = 4; omega), fun _ _ _ h => absurd rfl h⟩ l0 (fun ls => ?_))
        rw [askF, if_neg (by simpa using hb), if_neg h1, if_neg h2, if_neg h3, if_neg h4, if_pos h6, cleanF, if_pos hk]
      · have hm := hx.keyL _ (hd_mem hk)
        refine .inr (kr (geti x.fKeys 0) (cleanC x) ⟨by show (geti x.fKeys 0).length ≤ _; omega, fun h => absurd h (by show ¬ (9 : Int) = 3; omega), l1, fun h => absurd h (by show ¬ (9 : Int) = 4; omega), fun _ _ _ _ => hk⟩ (by show (geti x.fKeys 0 ++ [0]).length ≤ _; simp; omega) (fun ls => ?_))
        rw [askF, if_neg (by simpa using hb), if_neg h1, if_neg h2, if_neg h3, if_neg h4, if_pos h6, cleanF, if_neg hk]
    · refine .inl (fun ls _ _ => ?_)
      rw [askF, if_neg (by simpa using hb), if_neg h1, if_neg h2, if_neg h3, if_neg h4, if_neg h6]
  · by_cases he : x.fBlocked.fEnded = 0
    · refine .inr (kr [] (pushC x) ⟨l0, fun h => absurd h (by show ¬ (7 : Int) = 3; omega), l1, fun h => absurd h (by show ¬ (7 : Int) = 4; omega), fun _ h => absurd h hb⟩ l0 (fun ls => ?_))
      rw [askF, if_pos hb, pushF, if_pos he]
    · refine .inr (ov x.fBlocked.fWhere (resolveC x) hx.whereL ⟨hx.whereL.1, fun h => absurd h (by show ¬ (9 : Int) = 3; omega), l1, fun h => absurd h (by show ¬ (9 : Int) = 4; omega), fun _ h => absurd h hb⟩ (fun ls => ?_))
      rw [askF, if_pos hb, pushF, if_neg he]
theorem next_cov {x : TTxn} (hx : TxOk x) : (∀ ls, Cov ls → (∀ r ∈ ls, rngOk r) → nextF ls x = none) ∨ ∃ c, Asks x c ∧ ∀ ls, Cov ls → (∀ r ∈ ls, rngOk r) → ∃ id t, nextF ls x = some ⟨id, likeT c t, x.fTurn⟩ ∧ t.length ≤ 140737488355327 := by
  rcases ask_cov hx with h | ⟨c, h1, h2⟩
  · exact .inl fun ls a b => by rw [nextF, h ls a b]; rfl
  · refine .inr ⟨c, h1, fun ls a b => ?_⟩
    obtain ⟨id, t, h3, h4⟩ := h2 ls a b
    exact ⟨id, t, by rw [nextF, h3]; rfl, h4⟩

theorem TxL.at {I : Imm} {b : Nat} {x : TTxn} {v0 v1 v2 v3 v4 v5 v6 v7 v8 v9 v10 : Value} {Xr Xw Xs Xg F : LH} {cr cw cs cg : List Value} (h : TxL I x (Xr ++ (Xw ++ (Xs ++ Xg))) v0 v1 v2 v3 v4 v5 v6 v7 v8 Xr Xw Xs Xg cr cw cs cg) (h9 : Bytes I v9 x.fBlocked.fWhere.fFrom) (h10 : Bytes I v10 x.fBlocked.fWhere.fTo) :
    ∃ X, TxR I b X x ∧ (b, txCells x v0 v1 v2 v3 v4 v5 v6 v7 v8 v9 v10) :: (Xr ++ (Xw ++ (Xs ++ (Xg ++ F)))) = X ++ F :=
  ⟨_, ⟨_, _, _, _, _, _, _, _, _, _, _, _, rfl, ⟨_, _, _, _, _, _, _, _, h⟩, h9, h10⟩, by simp [List.append_assoc]⟩

section
variable {ω : Om} {I : Imm} {L : LH} {K : Value → M}

/-- what is done with an answer that is taken -/
theorem answer1_spec {b b1 b2 bT bw bc n : Nat} {o1 oT ow : Obj} {F : LH} {x : TTxn} {c : TCmd} {t : List UInt8} {r : TRes} {qa0 qa1 qa2 qa3 ra0 ra1 : Option Addr} {qp0 qp1 qp2 qp3 rp0 rp1 : Nat} {v0 v1 v2 v3 v4 v5 v6 v7 v8 v9 v10 : Value} {Xr Xw Xs Xg : LH} {cr cw cs cg : List Value}
    (hL0 : TxL I x (Xr ++ (Xw ++ (Xs ++ Xg))) v0 v1 v2 v3 v4 v5 v6 v7 v8 Xr Xw Xs Xg cr cw cs cg) (h9 : Bytes I v9 x.fBlocked.fWhere.fFrom) (h10 : Bytes I v10 x.fBlocked.fWhere.fTo) (hT0 : TI n x) (hn : n ≤ 700)
    (q0 : Bytes I (.slice qa0 (likeT c t).fKey.length qp0) (likeT c t).fKey) (q1 : Bytes I (.slice qa1 (likeT c t).fValue.length qp1) (likeT c t).fValue) (q2 : Bytes I (.slice qa2 (likeT c t).fSpan.fFrom.length qp2) (likeT c t).fSpan.fFrom) (q3 : Bytes I (.slice qa3 (likeT c t).fSpan.fTo.length qp3) (likeT c t).fSpan.fTo)
    (r0 : Bytes I (.slice ra0 r.fGot.fValue.length rp0) r.fGot.fValue) (r1 : RL TKVV 2 I [] (.slice ra1 r.fRows.length rp1) r.fRows)
    (ha : Asks x c) (htl : t.length ≤ 140737488355327) (hrs : rowsOk r.fRows)
    (hk : ∀ t X' I' x', Ext I I' → TxR I' b X' x' → TI (n + 2) x' → K (.bool t) I' (X' ++ F)) :
    (sh16_4 ω (.pointer (some ⟨b, 0, none⟩)) (.pointer (some ⟨b2, 0, none⟩)) (.bool false) (.pointer (some ⟨bc, 0, none⟩)) (fun v => Gh (K v)) I ((bc, Obj.cells #[.int .i64 (likeT c t).fKind, .int .i64 (likeT c t).fTxn, .int .i64 (likeT c t).fSeq, .int .i64 (likeT c t).fAt.fWall, .int .i64 (likeT c t).fAt.fLogic, .int .i64 (likeT c t).fTo.fWall, .int .i64 (likeT c t).fTo.fLogic, .int .i64 (likeT c t).fBy, .bool (likeT c t).fYes, .bool (likeT c t).fDel, .slice qa0 (likeT c t).fKey.length qp0, .slice qa1 (likeT c t).fValue.length qp1, .slice qa2 (likeT c t).fSpan.fFrom.length qp2, .slice qa3 (likeT c t).fSpan.fTo.length qp3, .int .i64 (likeT c t).fMost] 48 (0, 0)) :: (bw, ow) :: (bT, oT) :: (b2, resO r ra0 rp0 ra1 rp1) :: (b1, o1) :: (b, txCells { x with fTurn := IntKind.i64.wrap (x.fTurn + 1) } v0 v1 v2 v3 v4 v5 v6 v7 v8 v9 v10) :: (Xr ++ (Xw ++ (Xs ++ (Xg ++ F)))))) ∧
    (x.fBlocked.fTxn = 0 → sh16_5 ω (.pointer (some ⟨b, 0, none⟩)) (.pointer (some ⟨b2, 0, none⟩)) (.bool false) (.pointer (some ⟨bc, 0, none⟩)) (fun v => Gh (K v)) I ((bc, Obj.cells #[.int .i64 (likeT c t).fKind, .int .i64 (likeT c t).fTxn, .int .i64 (likeT c t).fSeq, .int .i64 (likeT c t).fAt.fWall, .int .i64 (likeT c t).fAt.fLogic, .int .i64 (likeT c t).fTo.fWall, .int .i64 (likeT c t).fTo.fLogic, .int .i64 (likeT c t).fBy, .bool (likeT c t).fYes, .bool (likeT c t).fDel, .slice qa0 (likeT c t).fKey.length qp0, .slice qa1 (likeT c t).fValue.length qp1, .slice qa2 (likeT c t).fSpan.fFrom.length qp2, .slice qa3 (likeT c t).fSpan.fTo.length qp3, .int .i64 (likeT c t).fMost] 48 (0, 0)) :: (bw, ow) :: (bT, oT) :: (b2, resO r ra0 rp0 ra1 rp1) :: (b1, o1) :: (b, txCells { x with fTurn := IntKind.i64.wrap (x.fTurn + 1) } v0 v1 v2 v3 v4 v5 v6 v7 v8 v9 v10) :: (Xr ++ (Xw ++ (Xs ++ (Xg ++ F)))))) := by
  have hL : TxL I { x with fTurn := IntKind.i64.wrap (x.fTurn + 1) } (Xr ++ (Xw ++ (Xs ++ Xg))) v0 v1 v2 v3 v4 v5 v6 v7 v8 Xr Xw Xs Xg cr cw cs cg := hL0.same ⟨rfl, rfl, rfl, rfl, rfl, rfl, rfl, rfl⟩
  have hT : TI n { x with fTurn := IntKind.i64.wrap (x.fTurn + 1) } := { hT0 with }
  obtain ⟨X1, hX1, e1⟩ := TxL.at (F := F) (b := b) hL h9 h10
  have hy : TCmdV I (likeT c t) _ := ⟨_, _, _, _, rfl, q0, q1, q2, q3⟩
  have hr : TResV I r _ := ⟨_, _, rfl, r0, r1⟩
  refine ⟨?_, fun hb => ?_⟩
  · unfold sh16_4
    refine rdB rfl ?_
    refine rdB rfl ?_
    refine call (Cal.to ((b, txCells { x with fTurn := IntKind.i64.wrap (x.fTurn + 1) } v0 v1 v2 v3 v4 v5 v6 v7 v8 v9 v10) :: (Xr ++ (Xw ++ (Xs ++ (Xg ++ F))))) ?_)
    rw [e1]
    exact unblock_spec hX1 hT hy hr (fun X' x' h1 h2 => Gh.done (hk true X' I x' (Ext.refl _) h1 (h2.up (by omega))))
  have s8 : sh16_8 ω (.pointer (some ⟨b, 0, none⟩)) (.bool false) (fun v => Gh (K v)) I ((bc, Obj.cells #[.int .i64 (likeT c t).fKind, .int .i64 (likeT c t).fTxn, .int .i64 (likeT c t).fSeq, .int .i64 (likeT c t).fAt.fWall, .int .i64 (likeT c t).fAt.fLogic, .int .i64 (likeT c t).fTo.fWall, .int .i64 (likeT c t).fTo.fLogic, .int .i64 (likeT c t).fBy, .bool (likeT c t).fYes, .bool (likeT c t).fDel, .slice qa0 (likeT c t).fKey.length qp0, .slice qa1 (likeT c t).fValue.length qp1, .slice qa2 (likeT c t).fSpan.fFrom.length qp2, .slice qa3 (likeT c t).fSpan.fTo.length qp3, .int .i64 (likeT c t).fMost] 48 (0, 0)) :: (bw, ow) :: (bT, oT) :: (b2, resO r ra0 rp0 ra1 rp1) :: (b1, o1) :: (b, txCells { x with fTurn := IntKind.i64.wrap (x.fTurn + 1) } v0 v1 v2 v3 v4 v5 v6 v7 v8 v9 v10) :: (Xr ++ (Xw ++ (Xs ++ (Xg ++ F))))) := by
    unfold sh16_8
    refine call (undo_at (F := F) hL hT (fun X' x' h1 h2 => ?_))
    exact Gh.done (hk true X' I x' (Ext.refl _) h1 (h2.up (by omega)))
  have hsp : spanOk (likeT c t).fSpan := ⟨ha.ok, htl⟩
  have s7 : sh16_7 ω (.pointer (some ⟨b, 0, none⟩)) (.pointer (some ⟨b2, 0, none⟩)) (.bool false) (.pointer (some ⟨bc, 0, none⟩)) (fun v => Gh (K v)) I ((bc, Obj.cells #[.int .i64 (likeT c t).fKind, .int .i64 (likeT c t).fTxn, .int .i64 (likeT c t).fSeq, .int .i64 (likeT c t).fAt.fWall, .int .i64 (likeT c t).fAt.fLogic, .int .i64 (likeT c t).fTo.fWall, .int .i64 (likeT c t).fTo.fLogic, .int .i64 (likeT c t).fBy, .bool (likeT c t).fYes, .bool (likeT c t).fDel, .slice qa0 (likeT c t).fKey.length qp0, .slice qa1 (likeT c t).fValue.length qp1, .slice qa2 (likeT c t).fSpan.fFrom.length qp2, .slice qa3 (likeT c t).fSpan.fTo.length qp3, .int .i64 (likeT c t).fMost] 48 (0, 0)) :: (bw, ow) :: (bT, oT) :: (b2, resO r ra0 rp0 ra1 rp1) :: (b1, o1) :: (b, txCells { x with fTurn := IntKind.i64.wrap (x.fTurn + 1) } v0 v1 v2 v3 v4 v5 v6 v7 v8 v9 v10) :: (Xr ++ (Xw ++ (Xs ++ (Xg ++ F))))) := by
    unfold sh16_7
    unfold txCells
    have hkl : (likeT c t).fKey.length ≤ 110 := ha.key
    repeat' (first | (with_reducible refine drawC ?_) | (with_reducible refine drawW1 ?_) | (with_reducible refine drawW2 ?_) | (with_reducible refine keepC (by repeat (first | exact Ext.refl _ | assumption | refine Ext.trans ?_ (by assumption))) ?_) | (with_reducible refine newI (fun _ => ?_)) | ((with_reducible refine call ?_); refine (copied_spec (x := (likeT c t).fSpan) ⟨_, _, rfl, q2, q3⟩ hsp (fun c' I2 hI2 hc' => ?_)); obtain ⟨_, _, _, _, rfl, g0, g1⟩ := hc'.form) | ((with_reducible refine call ?_); refine (alone_spec (k := (likeT c t).fKey) (q0.mono (by repeat (first | exact Ext.refl _ | assumption | refine Ext.trans ?_ (by assumption)))) (by omega) (fun c' I3 hI3 hc' => ?_)); obtain ⟨_, _, _, _, rfl, g2, g3⟩ := hc'.form) | first | (with_reducible refine rdb ?_) | ((with_reducible refine st1 ?_ ?_); rfl) | ((with_reducible refine rdB ?_ ?_); rfl) | (with_reducible refine rdbS ?_) | ((with_reducible refine rdBS ?_ ?_); rfl) | ((with_reducible refine stB ?_ ?_ ?_ ?_); rfl; rfl; exact one_all rfl) | ((with_reducible refine rdP _ rfl ?_ ?_); rfl) | ((with_reducible refine rdPS _ rfl ?_ ?_); rfl) | ((with_reducible refine stP _ rfl ?_ ?_ ?_ ?_); rfl; rfl; rfl) | (with_reducible refine And.intro ?_ ?_) | (simp only [Bool.not_true, Bool.not_false, Bool.and_self, Bool.true_and, Br_true, Br_false, Gd_tt, Gd_ft, Gd_tf, Gd_ff, beq_self_eq_true, bne_self_eq_false]) | (with_reducible refine gd_split (fun _ => ?_) (fun _ => ?_)) | (with_reducible refine br_split (fun _ => ?_) (fun _ => ?_)) | (simp only [Pv_some, fldV_p, nilV_p, nilV_f, lenV_s, capV_s, sLen, minV_i, maxV_i, strV_s, unV_not, unV_neg, pickV_t, pickV_f, exV_t, cvIV_i, binI_add, binI_sub, binI_mul, binI_eql, binI_neq, binI_lss, binI_leq, binI_gtr, binI_geq, binI_and, binI_or, binB_eql, binB_neq, sEq, sNe, sLt, sLe, sGt, sGe, stampEq, stampNe, fldv_agg, fldv_one, binP_eql_nil, binP_neq_nil, binN_eql_nil, binN_neq_nil, binN_eql_nn, binN_neq_nn, Br_true, Br_false, Gd_tt, Gd_ft, Gd_tf, Gd_ff, cells_agg, List.getElem?_toArray, List.getElem?_cons_zero, List.getElem?_cons_succ, Nat.zero_add, Nat.add_zero, Nat.zero_mul, List.drop_succ_cons, List.drop_zero, List.take_succ_cons, List.take_zero, List.nil_append, List.cons_append, Nat.reduceAdd, List.drop_nil, List.take_nil, bld_1, bld_2, bld_3, bld_4, bld_5, bld_6, bld_7, bld_8, bld_9, bld_10, bld_11, bld_12, bld_13, bld_14, bld_15, bld_16, bld_17, bld_18, bld_19, bld_20, bld_21, bld_22, bld_23, bld_24, bld_25, bld_26, bld_27, bld_28]))
    · refine Gh.pick b (Xr ++ (Xw ++ (Xs ++ (Xg ++ F)))) (Gh.done ?_)
      exact TxL.close (x := { x with fTurn := IntKind.i64.wrap (x.fTurn + 1), fBlocked := { (default : Tblocker) with fTxn := r.fBy, fWhere := aloneF (likeT c t).fKey } }) ((hL.mono (by repeat (first | exact Ext.refl _ | assumption | refine Ext.trans ?_ (by assumption)))).same ⟨rfl, rfl, rfl, rfl, rfl, rfl, rfl, rfl⟩) g2 g3 (fun X' hX' => hk true X' _ _ (by repeat (first | exact Ext.refl _ | assumption | refine Ext.trans ?_ (by assumption))) hX' { hT.up (Nat.le_add_right n 2) with
        whereL := ⟨by show (likeT c t).fKey.length ≤ _; omega, by show ((likeT c t).fKey ++ [0]).length ≤ _; simp; omega⟩ })
    · refine Gh.pick b (Xr ++ (Xw ++ (Xs ++ (Xg ++ F)))) (Gh.done ?_)
      exact TxL.close (x := { x with fTurn := IntKind.i64.wrap (x.fTurn + 1), fBlocked := { (default : Tblocker) with fTxn := r.fBy, fWhere := (likeT c t).fSpan } }) ((hL.mono (by repeat (first | exact Ext.refl _ | assumption | refine Ext.trans ?_ (by assumption)))).same ⟨rfl, rfl, rfl, rfl, rfl, rfl, rfl, rfl⟩) g0 g1 (fun X' hX' => hk true X' _ _ (by repeat (first | exact Ext.refl _ | assumption | refine Ext.trans ?_ (by assumption))) hX' { hT.up (Nat.le_add_right n 2) with
        whereL := hsp })
  have s6 : ∀ tb, (tb = true → x.fStage = 5 ∨ x.fStage = 6) → sh16_6 ω (.pointer (some ⟨b, 0, none⟩)) (.pointer (some ⟨b2, 0, none⟩)) (.bool false) (.pointer (some ⟨bc, 0, none⟩)) (.bool tb) (fun v => Gh (K v)) I ((bc, Obj.cells #[.int .i64 (likeT c t).fKind, .int .i64 (likeT c t).fTxn, .int .i64 (likeT c t).fSeq, .int .i64 (likeT c t).fAt.fWall, .int .i64 (likeT c t).fAt.fLogic, .int .i64 (likeT c t).fTo.fWall, .int .i64 (likeT c t).fTo.fLogic, .int .i64 (likeT c t).fBy, .bool (likeT c t).fYes, .bool (likeT c t).fDel, .slice qa0 (likeT c t).fKey.length qp0, .slice qa1 (likeT c t).fValue.length qp1, .slice qa2 (likeT c t).fSpan.fFrom.length qp2, .slice qa3 (likeT c t).fSpan.fTo.length qp3, .int .i64 (likeT c t).fMost] 48 (0, 0)) :: (bw, ow) :: (bT, oT) :: (b2, resO r ra0 rp0 ra1 rp1) :: (b1, o1) :: (b, txCells { x with fTurn := IntKind.i64.wrap (x.fTurn + 1) } v0 v1 v2 v3 v4 v5 v6 v7 v8 v9 v10) :: (Xr ++ (Xw ++ (Xs ++ (Xg ++ F))))) := fun tb htb => by
    unfold sh16_6
    refine br_split (fun e => ?_) (fun e => ?_)
    · refine rdB rfl ?_
      refine rdB rfl ?_
      refine call (Cal.to ((b, txCells { x with fTurn := IntKind.i64.wrap (x.fTurn + 1) } v0 v1 v2 v3 v4 v5 v6 v7 v8 v9 v10) :: (Xr ++ (Xw ++ (Xs ++ (Xg ++ F))))) ?_)
      rw [e1]
      exact cleaned_spec hX1 hT (by omega) hy hr (htb e) (fun a1 a2 => ha.clean (htb e) hb a1 a2) (fun X' I' x' hI' h1 h2 => Gh.done (hk true X' I' x' hI' h1 (h2.up (by omega))))
    try simp only [Pv_some, fldV_p, nilV_p, nilV_f, lenV_s, capV_s, sLen, minV_i, maxV_i, strV_s, unV_not, unV_neg, pickV_t, pickV_f, exV_t, cvIV_i, binI_add, binI_sub, binI_mul, binI_eql, binI_neq, binI_lss, binI_leq, binI_gtr, binI_geq, binI_and, binI_or, binB_eql, binB_neq, sEq, sNe, sLt, sLe, sGt, sGe, stampEq, stampNe, fldv_agg, fldv_one, binP_eql_nil, binP_neq_nil, binN_eql_nil, binN_neq_nil, binN_eql_nn, binN_neq_nn, Br_true, Br_false, Gd_tt, Gd_ft, Gd_tf, Gd_ff, cells_agg, List.getElem?_toArray, List.getElem?_cons_zero, List.getElem?_cons_succ, Nat.zero_add, Nat.add_zero, Nat.zero_mul, List.drop_succ_cons, List.drop_zero, List.take_succ_cons, List.take_zero, List.nil_append, List.cons_append, Nat.reduceAdd, List.drop_nil, List.take_nil, bld_1, bld_2, bld_3, bld_4, bld_5, bld_6, bld_7, bld_8, bld_9, bld_10, bld_11, bld_12, bld_13, bld_14, bld_15, bld_16, bld_17, bld_18, bld_19, bld_20, bld_21, bld_22, bld_23, bld_24, bld_25, bld_26, bld_27, bld_28]
    refine rdb ?_
    try simp only [Pv_some, fldV_p, nilV_p, nilV_f, lenV_s, capV_s, sLen, minV_i, maxV_i, strV_s, unV_not, unV_neg, pickV_t, pickV_f, exV_t, cvIV_i, binI_add, binI_sub, binI_mul, binI_eql, binI_neq, binI_lss, binI_leq, binI_gtr, binI_geq, binI_and, binI_or, binB_eql, binB_neq, sEq, sNe, sLt, sLe, sGt, sGe, stampEq, stampNe, fldv_agg, fldv_one, binP_eql_nil, binP_neq_nil, binN_eql_nil, binN_neq_nil, binN_eql_nn, binN_neq_nn, Br_true, Br_false, Gd_tt, Gd_ft, Gd_tf, Gd_ff, cells_agg, List.getElem?_toArray, List.getElem?_cons_zero, List.getElem?_cons_succ, Nat.zero_add, Nat.add_zero, Nat.zero_mul, List.drop_succ_cons, List.drop_zero, List.take_succ_cons, List.take_zero, List.nil_append, List.cons_append, Nat.reduceAdd, List.drop_nil, List.take_nil, bld_1, bld_2, bld_3, bld_4, bld_5, bld_6, bld_7, bld_8, bld_9, bld_10, bld_11, bld_12, bld_13, bld_14, bld_15, bld_16, bld_17, bld_18, bld_19, bld_20, bld_21, bld_22, bld_23, bld_24, bld_25, bld_26, bld_27, bld_28]
    refine br_split (fun e2 => ?_) (fun e2 => ?_)
    · refine rdB rfl ?_
      refine rdB rfl ?_
      refine call (Cal.to ((b, txCells { x with fTurn := IntKind.i64.wrap (x.fTurn + 1) } v0 v1 v2 v3 v4 v5 v6 v7 v8 v9 v10) :: (Xr ++ (Xw ++ (Xs ++ (Xg ++ F))))) ?_)
      rw [e1]
      exact done_spec hX1 hT (by omega) hy hr hsp hrs (fun e => ⟨ha.put e hb, ha.key⟩) (fun e => ha.fresh e) (fun X' I' x' hI' h1 h2 => Gh.done (hk true X' I' x' hI' h1 h2))
    · repeat' (first | (with_reducible refine drawC ?_) | (with_reducible refine drawW1 ?_) | (with_reducible refine drawW2 ?_) | (with_reducible refine keepC (by repeat (first | exact Ext.refl _ | assumption | refine Ext.trans ?_ (by assumption))) ?_) | (with_reducible refine newI (fun _ => ?_)) | first | (with_reducible refine rdb ?_) | ((with_reducible refine st1 ?_ ?_); rfl) | ((with_reducible refine rdB ?_ ?_); rfl) | (with_reducible refine rdbS ?_) | ((with_reducible refine rdBS ?_ ?_); rfl) | ((with_reducible refine stB ?_ ?_ ?_ ?_); rfl; rfl; exact one_all rfl) | ((with_reducible refine rdP _ rfl ?_ ?_); rfl) | ((with_reducible refine rdPS _ rfl ?_ ?_); rfl) | ((with_reducible refine stP _ rfl ?_ ?_ ?_ ?_); rfl; rfl; rfl) | (with_reducible refine And.intro ?_ ?_) | (simp only [Bool.not_true, Bool.not_false, Bool.and_self, Bool.true_and, Br_true, Br_false, Gd_tt, Gd_ft, Gd_tf, Gd_ff, beq_self_eq_true, bne_self_eq_false]) | (with_reducible refine gd_split (fun _ => ?_) (fun _ => ?_)) | (with_reducible refine br_split (fun _ => ?_) (fun _ => ?_)) | (simp only [Pv_some, fldV_p, nilV_p, nilV_f, lenV_s, capV_s, sLen, minV_i, maxV_i, strV_s, unV_not, unV_neg, pickV_t, pickV_f, exV_t, cvIV_i, binI_add, binI_sub, binI_mul, binI_eql, binI_neq, binI_lss, binI_leq, binI_gtr, binI_geq, binI_and, binI_or, binB_eql, binB_neq, sEq, sNe, sLt, sLe, sGt, sGe, stampEq, stampNe, fldv_agg, fldv_one, binP_eql_nil, binP_neq_nil, binN_eql_nil, binN_neq_nil, binN_eql_nn, binN_neq_nn, Br_true, Br_false, Gd_tt, Gd_ft, Gd_tf, Gd_ff, cells_agg, List.getElem?_toArray, List.getElem?_cons_zero, List.getElem?_cons_succ, Nat.zero_add, Nat.add_zero, Nat.zero_mul, List.drop_succ_cons, List.drop_zero, List.take_succ_cons, List.take_zero, List.nil_append, List.cons_append, Nat.reduceAdd, List.drop_nil, List.take_nil, bld_1, bld_2, bld_3, bld_4, bld_5, bld_6, bld_7, bld_8, bld_9, bld_10, bld_11, bld_12, bld_13, bld_14, bld_15, bld_16, bld_17, bld_18, bld_19, bld_20, bld_21, bld_22, bld_23, bld_24, bld_25, bld_26, bld_27, bld_28]))
      all_goals first
        | exact s8
        | exact s7
  unfold sh16_5
  try simp only [Pv_some, fldV_p, nilV_p, nilV_f, lenV_s, capV_s, sLen, minV_i, maxV_i, strV_s, unV_not, unV_neg, pickV_t, pickV_f, exV_t, cvIV_i, binI_add, binI_sub, binI_mul, binI_eql, binI_neq, binI_lss, binI_leq, binI_gtr, binI_geq, binI_and, binI_or, binB_eql, binB_neq, sEq, sNe, sLt, sLe, sGt, sGe, stampEq, stampNe, fldv_agg, fldv_one, binP_eql_nil, binP_neq_nil, binN_eql_nil, binN_neq_nil, binN_eql_nn, binN_neq_nn, Br_true, Br_false, Gd_tt, Gd_ft, Gd_tf, Gd_ff, cells_agg, List.getElem?_toArray, List.getElem?_cons_zero, List.getElem?_cons_succ, Nat.zero_add, Nat.add_zero, Nat.zero_mul, List.drop_succ_cons, List.drop_zero, List.take_succ_cons, List.take_zero, List.nil_append, List.cons_append, Nat.reduceAdd, List.drop_nil, List.take_nil, bld_1, bld_2, bld_3, bld_4, bld_5, bld_6, bld_7, bld_8, bld_9, bld_10, bld_11, bld_12, bld_13, bld_14, bld_15, bld_16, bld_17, bld_18, bld_19, bld_20, bld_21, bld_22, bld_23, bld_24, bld_25, bld_26, bld_27, bld_28]
  refine rdb ?_
  try simp only [Pv_some, fldV_p, nilV_p, nilV_f, lenV_s, capV_s, sLen, minV_i, maxV_i, strV_s, unV_not, unV_neg, pickV_t, pickV_f, exV_t, cvIV_i, binI_add, binI_sub, binI_mul, binI_eql, binI_neq, binI_lss, binI_leq, binI_gtr, binI_geq, binI_and, binI_or, binB_eql, binB_neq, sEq, sNe, sLt, sLe, sGt, sGe, stampEq, stampNe, fldv_agg, fldv_one, binP_eql_nil, binP_neq_nil, binN_eql_nil, binN_neq_nil, binN_eql_nn, binN_neq_nn, Br_true, Br_false, Gd_tt, Gd_ft, Gd_tf, Gd_ff, cells_agg, List.getElem?_toArray, List.getElem?_cons_zero, List.getElem?_cons_succ, Nat.zero_add, Nat.add_zero, Nat.zero_mul, List.drop_succ_cons, List.drop_zero, List.take_succ_cons, List.take_zero, List.nil_append, List.cons_append, Nat.reduceAdd, List.drop_nil, List.take_nil, bld_1, bld_2, bld_3, bld_4, bld_5, bld_6, bld_7, bld_8, bld_9, bld_10, bld_11, bld_12, bld_13, bld_14, bld_15, bld_16, bld_17, bld_18, bld_19, bld_20, bld_21, bld_22, bld_23, bld_24, bld_25, bld_26, bld_27, bld_28]
  refine br_split (fun e => ?_) (fun e => ?_)
  · exact s6 _ (fun h => .inl (by simpa using h))
  · refine rdb ?_
    try simp only [Pv_some, fldV_p, nilV_p, nilV_f, lenV_s, capV_s, sLen, minV_i, maxV_i, strV_s, unV_not, unV_neg, pickV_t, pickV_f, exV_t, cvIV_i, binI_add, binI_sub, binI_mul, binI_eql, binI_neq, binI_lss, binI_leq, binI_gtr, binI_geq, binI_and, binI_or, binB_eql, binB_neq, sEq, sNe, sLt, sLe, sGt, sGe, stampEq, stampNe, fldv_agg, fldv_one, binP_eql_nil, binP_neq_nil, binN_eql_nil, binN_neq_nil, binN_eql_nn, binN_neq_nn, Br_true, Br_false, Gd_tt, Gd_ft, Gd_tf, Gd_ff, cells_agg, List.getElem?_toArray, List.getElem?_cons_zero, List.getElem?_cons_succ, Nat.zero_add, Nat.add_zero, Nat.zero_mul, List.drop_succ_cons, List.drop_zero, List.take_succ_cons, List.take_zero, List.nil_append, List.cons_append, Nat.reduceAdd, List.drop_nil, List.take_nil, bld_1, bld_2, bld_3, bld_4, bld_5, bld_6, bld_7, bld_8, bld_9, bld_10, bld_11, bld_12, bld_13, bld_14, bld_15, bld_16, bld_17, bld_18, bld_19, bld_20, bld_21, bld_22, bld_23, bld_24, bld_25, bld_26, bld_27, bld_28]
    exact s6 _ (fun h => .inr (by simpa using h))

theorem answer_spec {b n : Nat} {X F : LH} {x : TTxn} {c : TCmd} {id : Int} {t : List UInt8} {qc : List Value} {r : TRes} {rc : List Value} (h : TxR I b X x) (hT : TI n x) (hn : n ≤ 700) (hq : TRequestV I ⟨id, likeT c t, x.fTurn⟩ qc) (hr : TResV I r rc)
    (ha : Asks x c) (hcov : ∃ id' t', nextF wholeR x = some ⟨id', likeT c t', x.fTurn⟩) (htl : t.length ≤ 140737488355327) (hrs : rowsOk r.fRows)
    (hk : ∀ t X' I' x', Ext I I' → TxR I' b X' x' → TI (n + 2) x' → K (.bool t) I' (X' ++ F)) :
    Cal Try.prog ω 16 #[.pointer (some ⟨b, 0, none⟩), .agg qc.toArray, .agg rc.toArray] K I (X ++ F) := by
  have hR0 := h
  obtain ⟨_, _, _, _, _, _, _, _, rfl, q0, q1, q2, q3⟩ := hq.form
  obtain ⟨_, _, _, _, rfl, r0, r1⟩ := hr.form
  obtain ⟨v0, v1, v2, v3, v4, v5, v6, v7, v8, v9, v10, T, rfl, ⟨Xr, Xw, Xs, Xg, cr, cw, cs, cg, hL⟩, h9, h10⟩ := h
  obtain rfl := hL.mem
  have hvm : ∀ y ∈ (b, txCells x v0 v1 v2 v3 v4 v5 v6 v7 v8 v9 v10) :: (Xr ++ (Xw ++ (Xs ++ Xg))), y ∈ (b, txCells x v0 v1 v2 v3 v4 v5 v6 v7 v8 v9 v10) :: (Xr ++ (Xw ++ (Xs ++ (Xg ++ F)))) := fun y hy => by
    simp only [List.mem_cons, List.mem_append] at hy ⊢
    rcases hy with hy | hy | hy | hy | hy <;> simp [hy]
  have hk0 := fun I' hI' => hk false _ I' x hI' (hR0.mono hI') (hT.up (by omega))
  simp only [List.cons_append, List.append_assoc] at hk0 ⊢
  refine cal16 ?_
  unfold sh16
  refine newI (fun b1 => newI (fun b2 => ?_))
  refine call (rnew_spec (fun bT tv I1 T1 hI1 htv => ?_))
  refine call (rlist_spec (List.mem_cons_self ..) htv wholeOk (by simp [wholeR]) (fun lv I2 hI2 hlv => ?_))
  have hR2 := hR0.mono (hI1.trans hI2)
  refine call (next_spec (hR2.view (fun y hy => List.mem_cons_of_mem _ (List.mem_cons_of_mem _ (List.mem_cons_of_mem _ (hvm y hy))))) hT.ok hlv (by simp [wholeR]) wholeOk (fun c' I3 hI3 hc' => ?_))
  obtain ⟨id', t', hnx⟩ := hcov
  rw [hnx] at hc' ⊢
  have hc2 := hc'
  obtain ⟨_, _, _, _, _, _, _, _, rfl, w0, w1, w2, w3⟩ := hc2.form
  simp only [Option.isSome_some]
  unfold txCells
  have hI0 : Ext I I3 := (hI1.trans hI2).trans hI3
  repeat' (first | (with_reducible refine drawC ?_) | (with_reducible refine drawW1 ?_) | (with_reducible refine drawW2 ?_) | (with_reducible refine keepC (by repeat (first | exact Ext.refl _ | assumption | refine Ext.trans ?_ (by assumption))) ?_) | (with_reducible refine newI (fun _ => ?_)) | ((with_reducible refine call ?_); refine (like_spec (x := likeT c t) (t := t') ⟨_, _, _, _, rfl, q0.mono hI0, q1.mono hI0, q2.mono hI0, q3.mono hI0⟩ ⟨_, _, _, _, rfl, w0, w1, w2, w3⟩ ?_)) | first | (with_reducible refine rdb ?_) | ((with_reducible refine st1 ?_ ?_); rfl) | ((with_reducible refine rdB ?_ ?_); rfl) | (with_reducible refine rdbS ?_) | ((with_reducible refine rdBS ?_ ?_); rfl) | ((with_reducible refine stB ?_ ?_ ?_ ?_); rfl; rfl; exact one_all rfl) | ((with_reducible refine rdP _ rfl ?_ ?_); rfl) | ((with_reducible refine rdPS _ rfl ?_ ?_); rfl) | ((with_reducible refine stP _ rfl ?_ ?_ ?_ ?_); rfl; rfl; rfl) | (with_reducible refine And.intro ?_ ?_) | (simp only [Bool.not_true, Bool.not_false, Bool.and_self, Bool.true_and, Br_true, Br_false, Gd_tt, Gd_ft, Gd_tf, Gd_ff, beq_self_eq_true, bne_self_eq_false]) | (with_reducible refine gd_split (fun _ => ?_) (fun _ => ?_)) | (with_reducible refine br_split (fun _ => ?_) (fun _ => ?_)) | (simp only [Pv_some, fldV_p, nilV_p, nilV_f, lenV_s, capV_s, sLen, minV_i, maxV_i, strV_s, unV_not, unV_neg, pickV_t, pickV_f, exV_t, cvIV_i, binI_add, binI_sub, binI_mul, binI_eql, binI_neq, binI_lss, binI_leq, binI_gtr, binI_geq, binI_and, binI_or, binB_eql, binB_neq, sEq, sNe, sLt, sLe, sGt, sGe, stampEq, stampNe, fldv_agg, fldv_one, binP_eql_nil, binP_neq_nil, binN_eql_nil, binN_neq_nil, binN_eql_nn, binN_neq_nn, Br_true, Br_false, Gd_tt, Gd_ft, Gd_tf, Gd_ff, cells_agg, List.getElem?_toArray, List.getElem?_cons_zero, List.getElem?_cons_succ, Nat.zero_add, Nat.add_zero, Nat.zero_mul, List.drop_succ_cons, List.drop_zero, List.take_succ_cons, List.take_zero, List.nil_append, List.cons_append, Nat.reduceAdd, List.drop_nil, List.take_nil, bld_1, bld_2, bld_3, bld_4, bld_5, bld_6, bld_7, bld_8, bld_9, bld_10, bld_11, bld_12, bld_13, bld_14, bld_15, bld_16, bld_17, bld_18, bld_19, bld_20, bld_21, bld_22, bld_23, bld_24, bld_25, bld_26, bld_27, bld_28, reqOf, Option.getD_some]))
  · exact Gh.pick b (Xr ++ (Xw ++ (Xs ++ (Xg ++ F)))) (Gh.done (hk0 I3 hI0))
  -- it is taken: the turn is one more
  all_goals (rename_i bw _ bc _)
  · exact (answer1_spec (hL.mono hI0) (h9.mono hI0) (h10.mono hI0) hT hn (q0.mono hI0) (q1.mono hI0) (q2.mono hI0) (q3.mono hI0) (r0.mono hI0) (RL.mono (fun _ _ h => TKVV.mono h hI0) r1 hI0 (fun _ h => by cases h)) ha htl hrs (fun t X' I' x' hI' h1 h2 => hk t X' I' x' (hI0.trans hI') h1 h2)).1
  · rename_i hb
    simp at hb
    exact (answer1_spec (hL.mono hI0) (h9.mono hI0) (h10.mono hI0) hT hn (q0.mono hI0) (q1.mono hI0) (q2.mono hI0) (q3.mono hI0) (r0.mono hI0) (RL.mono (fun _ _ h => TKVV.mono h hI0) r1 hI0 (fun _ h => by cases h)) ha htl hrs (fun t X' I' x' hI' h1 h2 => hk t X' I' x' (hI0.trans hI') h1 h2)).2 hb
end
end Go.Proofs.Ytlalbollbdlfhaa
