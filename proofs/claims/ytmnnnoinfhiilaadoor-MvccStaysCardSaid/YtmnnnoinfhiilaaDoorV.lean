/-
  The document's space is read.
-/
-- S3
import Derived.Test.YtmnnnoinfhiilaaDoorU
set_option linter.unusedSimpArgs false
set_option linter.unusedVariables false
namespace Go.Proofs.YtmnnnoinfhiilaaDoor
open Go.SL
set_option maxRecDepth 10000
section
variable {ω : Om} {I : Imm} {L : LH} {K : Value → M}
structure RefF (I : Imm) (L : LH) (b : Nat) (vV vI : Value) (V : List TVersion) (Is : List TIntent) (fl : TStamp) : Prop where
  head : Cells I L b 0 [vV, vI, .int .i64 fl.fWall, .int .i64 fl.fLogic]
  vers : RL TVersionV 5 I [] vV V
  ints : RL TIntentV 6 I [] vI Is
theorem RefF.mono {I' : Imm} {L' : LH} {b : Nat} {vV vI : Value} {V : List TVersion} {Is : List TIntent} {fl : TStamp} (h : RefF I L b vV vI V Is fl) (hI : Ext I I') (hL : ∀ x ∈ L, x ∈ L') : RefF I' L' b vV vI V Is fl :=
  ⟨h.head.mono hI hL, h.vers.mono (fun x c h => h.mono hI) hI (fun _ h => h), h.ints.mono (fun x c h => h.mono hI) hI (fun _ h => h)⟩
def noInt : TIntent := ⟨[], 0, ⟨0, 0⟩, false, []⟩
def noVer : TVersion := ⟨[], ⟨0, 0⟩, false, []⟩
abbrev itV (v0 v1 : Value) (x : TIntent) : List Value := [v0, .int .i64 x.fTxn, .int .i64 x.fAt.fWall, .int .i64 x.fAt.fLogic, .bool x.fDel, v1]
abbrev veV (v0 v1 : Value) (x : TVersion) : List Value := [v0, .int .i64 x.fAt.fWall, .int .i64 x.fAt.fLogic, .bool x.fDel, v1]
theorem rintent_spec {L0 : LH} [LSub L0 L] {b : Nat} {vV vI a : Value} {V : List TVersion} {Is : List TIntent} {fl : TStamp} {k : List UInt8} (hR : RefF I L0 b vV vI V Is fl) (hB : Bytes I a k) (hlen : Is.length ≤ 1000000000)
    (hk : ∀ v0 v1, Bytes I v0 ((Is.find? (fun x => x.fKey == k)).getD noInt).fKey → Bytes I v1 ((Is.find? (fun x => x.fKey == k)).getD noInt).fValue → K (.tuple #[.agg (itV v0 v1 ((Is.find? (fun x => x.fKey == k)).getD noInt)).toArray, .bool (Is.find? (fun x => x.fKey == k)).isSome]) I L) :
    Cal Tryd.prog ω 59 #[pt b, a] K I L := by
  refine cal59 ?_
  unfold sh59
  refine newI (fun b1 => ?_)
  refine loop (fun n s I' L' => I' = I ∧ ∃ j : Nat, n + j = Is.length ∧ s = (.bool false, .int .i64 j, ()) ∧ L' = (b1, .cells #[.slice none 0 0, .int .i64 0, .int .i64 0, .int .i64 0, .bool false, .slice none 0 0] 39 (0, 0)) :: L ∧ ∀ x ∈ Is.take j, x.fKey ≠ k) Is.length ⟨rfl, 0, rfl, rfl, rfl, by simp⟩ ?_
  rintro n s I' L' ⟨rfl, j, hnj, rfl, rfl, hA⟩
  unfold sh59_1
  try simp only [SSd, Nat.reduceAdd]
  refine rdC (hR.head 1 _ rfl) (Ext.refl _) ?_
  simp only [RL.len hR.ints, SSd, Nat.reduceAdd]
  refine br_split (fun e => ?_) (fun e => ?_)
  · have hjl : j < Is.length := by simpa using e
    obtain ⟨q, off, c, hix, hl, hc, hcc⟩ := RL.ix hR.ints (i := (j : Int)) (by omega) (by omega)
    rw [geti_nat hjl] at hc
    obtain ⟨v0, v1, rfl, h0, h1⟩ := hc
    have hcc' := hcc I' [] (Ext.refl _) (fun _ h => h)
    refine drawC ?_
    try simp only [SSd, Nat.reduceAdd]
    refine rdCS (hR.head 1 _ rfl) (Ext.refl _) ?_
    simp only [hix, SSd, Nat.reduceAdd]
    refine rdCS (hcc' 0 _ rfl) (Ext.refl _) ?_
    refine bs_I h0 (Ext.refl _) ?_
    refine bs_I hB (Ext.refl _) ?_
    simp only [sEq, SSd, Nat.reduceAdd]
    have hAll : ∀ x ∈ Is.take j, ¬ (x.fKey == k) = true := fun x hx => by simpa using hA x hx
    refine br_split (fun e2 => ?_) (fun e2 => ?_)
    · have hf : Is.find? (fun x => x.fKey == k) = some Is[j] := by
        conv => lhs; rw [split_at hjl]
        rw [List.find?_append, List.find?_eq_none.2 hAll, List.find?_cons, e2]; rfl
      rw [hf] at hk
      try simp only [SSd, Nat.reduceAdd]
      refine rdC (hR.head 1 _ rfl) (Ext.refl _) ?_
      simp only [hix, SSd, Nat.reduceAdd]
      refine rdNC hcc' (Ext.refl _) rfl ?_
      refine stB rfl rfl ?_ ?_
      · obtain ⟨_, _, rfl⟩ := Bytes.form h0
        obtain ⟨_, _, rfl⟩ := Bytes.form h1
        exact one_all rfl
      refine rdB rfl ?_
      exact Gh.to L (Gh.done (hk v0 v1 h0 h1))
    · try simp only [SSd, Nat.reduceAdd]
      rw [wrap_i64 _ (by omega)]
      refine Gh.done ⟨n - 1, by omega, rfl, j + 1, by omega, rfl, rfl, fun x hx => ?_⟩
      rw [take_snoc hjl] at hx
      rcases List.mem_append.1 hx with hx | hx
      · exact hA x hx
      · simp only [List.mem_singleton] at hx; subst hx; simpa using e2
  · have hjl : j = Is.length := by simp at e; omega
    subst hjl
    rw [List.take_length] at hA
    have hf : Is.find? (fun x => x.fKey == k) = none := List.find?_eq_none.2 fun x hx => by simpa using hA x hx
    rw [hf] at hk
    unfold sh59_3
    repeat' (first | (with_reducible refine drawC ?_) | (with_reducible refine drawW1 ?_) | (with_reducible refine drawW2 ?_) | (with_reducible refine keepC (by repeat (first | exact Ext.refl _ | assumption | refine Ext.trans ?_ (by assumption))) ?_) | (with_reducible refine newI (fun _ => ?_)) | first | (with_reducible refine rdb ?_) | ((with_reducible refine st1 ?_ ?_); rfl) | ((with_reducible refine rdB ?_ ?_); rfl) | (with_reducible refine rdbS ?_) | ((with_reducible refine rdBS ?_ ?_); rfl) | ((with_reducible refine stB ?_ ?_ ?_ ?_); rfl; rfl; exact one_all rfl) | ((with_reducible refine rdP _ rfl ?_ ?_); rfl) | ((with_reducible refine rdPS _ rfl ?_ ?_); rfl) | ((with_reducible refine stP _ rfl ?_ ?_ ?_ ?_); rfl; rfl; rfl) | (with_reducible refine unfE (sh59_3.eq_1 ..) ?_) | (with_reducible refine unfE (sh59_1.eq_1 ..) ?_) | (with_reducible refine unfE (sh59.eq_1 ..) ?_) | (with_reducible refine And.intro ?_ ?_) | (simp only [Bool.not_true, Bool.not_false, Bool.and_self, Bool.true_and, Int.reduceBEq, Int.reduceBNe, Int.reduceLT, Int.reduceLE, decide_true, decide_false, Br_true, Br_false, Gd_tt, Gd_ft, Gd_tf, Gd_ff, beq_self_eq_true, bne_self_eq_false]) | (with_reducible refine gd_split (fun _ => ?_) (fun _ => ?_)) | (with_reducible refine br_split (fun _ => ?_) (fun _ => ?_)) | (simp only [SSd, Nat.reduceAdd]))
    exact Gh.to L (Gh.done (hk _ _ (SlI.nil I' 1 none 0) (SlI.nil I' 1 none 0)))
theorem lastV_snoc {V : List TVersion} {v : TVersion} {k : List UInt8} {m : TStamp} : lastV (V ++ [v]) k m = if (v.fKey == k && !bhd v.fAt m) = true then some v else lastV V k m := by
  rw [lastV_app]
  unfold lastV
  by_cases h : (v.fKey == k && !bhd v.fAt m) = true <;> simp [h]
theorem rversion_spec {L0 : LH} [LSub L0 L] {b : Nat} {vV vI a : Value} {V : List TVersion} {Is : List TIntent} {fl m : TStamp} {k : List UInt8} (hR : RefF I L0 b vV vI V Is fl) (hB : Bytes I a k) (hlen : V.length ≤ 1000000000)
    (hk : ∀ v0 v1, Bytes I v0 ((lastV V k m).getD noVer).fKey → Bytes I v1 ((lastV V k m).getD noVer).fValue → K (.tuple #[.agg (veV v0 v1 ((lastV V k m).getD noVer)).toArray, .bool (lastV V k m).isSome]) I L) :
    Cal Tryd.prog ω 73 #[pt b, a, sv m] K I L := by
  refine cal73 ?_
  unfold sh73
  refine newI (fun b1 => newI (fun b2 => ?_))
  try simp only [SSd, Nat.reduceAdd]
  refine newI (fun b3 => ?_)
  refine stB rfl rfl (one_all rfl) ?_
  refine loop (fun n s I' L' => I' = I ∧ ∃ (j : Nat) (v0 v1 : Value), n + j = V.length ∧ s = (.bool (lastV (V.take j) k m).isSome, .int .i64 j, ()) ∧ L' = (b3, .cells (veV v0 v1 ((lastV (V.take j) k m).getD noVer)).toArray 123 (0, 0)) :: (b2, .cells #[.slice none 0 0, .int .i64 0, .int .i64 0, .bool false, .slice none 0 0] 123 (0, 0)) :: (b1, .cells #[.int .i64 m.fWall, .int .i64 m.fLogic] 34 (0, 0)) :: L ∧
      Bytes I v0 ((lastV (V.take j) k m).getD noVer).fKey ∧ Bytes I v1 ((lastV (V.take j) k m).getD noVer).fValue) V.length ⟨rfl, 0, _, _, rfl, rfl, rfl, SlI.nil I 1 none 0, SlI.nil I 1 none 0⟩ ?_
  rintro n s I' L' ⟨rfl, j, w0, w1, hnj, rfl, rfl, hw0, hw1⟩
  obtain ⟨wa, wc, rfl⟩ := Bytes.form hw0
  obtain ⟨xa, xc, rfl⟩ := Bytes.form hw1
  unfold sh73_1
  try simp only [SSd, Nat.reduceAdd]
  refine rdC (hR.head 0 _ rfl) (Ext.refl _) ?_
  simp only [RL.len hR.vers, SSd, Nat.reduceAdd]
  refine br_split (fun e => ?_) (fun e => ?_)
  · have hjl : j < V.length := by simpa using e
    obtain ⟨q, off, c, hix, hl, hc, hcc⟩ := RL.ix hR.vers (i := (j : Int)) (by omega) (by omega)
    rw [geti_nat hjl] at hc
    obtain ⟨v0, v1, rfl, h0, h1⟩ := hc
    have hcc' := hcc I' [] (Ext.refl _) (fun _ h => h)
    have hst : Cells I' [] q (off + 1) [.int .i64 V[j].fAt.fWall, .int .i64 V[j].fAt.fLogic] := by simpa using hcc'.sub (k := 1) (m := 2)
    have hsn := lastV_snoc (V := V.take j) (v := V[j]) (k := k) (m := m)
    rw [← take_snoc hjl] at hsn
    have next : ∀ (hno : (V[j].fKey == k && !bhd V[j].fAt m) = false), sh73_4 ω (.bool (lastV (V.take j) k m).isSome) (.int .i64 j) (fun s' => Gh fun I2 L2 => ∃ m', m' < n ∧ I2 = I' ∧ ∃ (j : Nat) (v0 v1 : Value), m' + j = V.length ∧ s' = (.bool (lastV (V.take j) k m).isSome, .int .i64 j, ()) ∧ L2 = (b3, .cells (veV v0 v1 ((lastV (V.take j) k m).getD noVer)).toArray 123 (0, 0)) :: (b2, .cells #[.slice none 0 0, .int .i64 0, .int .i64 0, .bool false, .slice none 0 0] 123 (0, 0)) :: (b1, .cells #[.int .i64 m.fWall, .int .i64 m.fLogic] 34 (0, 0)) :: L ∧
      Bytes I' v0 ((lastV (V.take j) k m).getD noVer).fKey ∧ Bytes I' v1 ((lastV (V.take j) k m).getD noVer).fValue) (fun v => Gh (K v)) I' ((b3, .cells (veV (.slice wa ((lastV (V.take j) k m).getD noVer).fKey.length wc) (.slice xa ((lastV (V.take j) k m).getD noVer).fValue.length xc) ((lastV (V.take j) k m).getD noVer)).toArray 123 (0, 0)) :: (b2, .cells #[.slice none 0 0, .int .i64 0, .int .i64 0, .bool false, .slice none 0 0] 123 (0, 0)) :: (b1, .cells #[.int .i64 m.fWall, .int .i64 m.fLogic] 34 (0, 0)) :: L) := by
      intro hno
      rw [if_neg (by rw [hno]; simp)] at hsn
      unfold sh73_4
      try simp only [SSd, Nat.reduceAdd]
      rw [wrap_i64 _ (by omega)]
      refine Gh.done ⟨n - 1, by omega, rfl, j + 1, _, _, by omega, by rw [hsn]; rfl, by rw [hsn], by rw [hsn]; exact hw0, by rw [hsn]; exact hw1⟩
    refine drawC ?_
    try simp only [SSd, Nat.reduceAdd]
    refine rdCS (hR.head 0 _ rfl) (Ext.refl _) ?_
    simp only [hix, SSd, Nat.reduceAdd]
    refine rdNCS hst (Ext.refl _) rfl ?_
    refine rdBS rfl ?_
    refine call (rbehind_spec (x := V[j].fAt) (y := m) ?_)
    refine drawC ?_
    try simp only [SSd, Nat.reduceAdd]
    refine rdCS (hR.head 0 _ rfl) (Ext.refl _) ?_
    simp only [hix, SSd, Nat.reduceAdd]
    refine rdCS (hcc' 0 _ rfl) (Ext.refl _) ?_
    refine bs_I h0 (Ext.refl _) ?_
    refine bs_I hB (Ext.refl _) ?_
    simp only [sEq, SSd, Nat.reduceAdd]
    refine gd_split (fun e2 => ?_) (fun e2 => next (by rw [Bool.eq_false_iff.2 e2]; rfl))
    try simp only [SSd, Nat.reduceAdd]
    refine br_split (fun e3 => ?_) (fun e3 => next (by rw [e2, e3]; rfl))
    unfold sh73_2
    try simp only [SSd, Nat.reduceAdd]
    refine rdC (hR.head 0 _ rfl) (Ext.refl _) ?_
    simp only [hix, SSd, Nat.reduceAdd]
    refine rdNC hcc' (Ext.refl _) rfl ?_
    refine stB rfl rfl ?_ ?_
    · obtain ⟨_, _, rfl⟩ := Bytes.form h0
      obtain ⟨_, _, rfl⟩ := Bytes.form h1
      exact one_all rfl
    unfold sh73_4
    try simp only [SSd, Nat.reduceAdd]
    rw [wrap_i64 _ (by omega)]
    rw [if_pos (by rw [e2, e3]; rfl)] at hsn
    refine Gh.done ⟨n - 1, by omega, rfl, j + 1, v0, v1, by omega, by rw [hsn]; rfl, by rw [hsn]; rfl, by rw [hsn]; exact h0, by rw [hsn]; exact h1⟩
  · have hjl : j = V.length := by simp at e; omega
    subst hjl
    simp only [List.take_length] at hw0 hw1 ⊢
    unfold sh73_6
    refine rdB rfl ?_
    refine stB rfl rfl (one_all rfl) ?_
    refine rdB rfl ?_
    exact Gh.to L (Gh.done (hk _ _ hw0 hw1))
theorem rlast_spec {L0 : LH} [LSub L0 L] {b : Nat} {vV vI a : Value} {V : List TVersion} {Is : List TIntent} {fl : TStamp} {k : List UInt8} (hR : RefF I L0 b vV vI V Is fl) (hB : Bytes I a k) (hlen : V.length ≤ 1000000000)
    (hk : ∀ v0 v1, Bytes I v0 ((lastV V k topS).getD noVer).fKey → Bytes I v1 ((lastV V k topS).getD noVer).fValue → K (.tuple #[.agg (veV v0 v1 ((lastV V k topS).getD noVer)).toArray, .bool (lastV V k topS).isSome]) I L) :
    Cal Tryd.prog ω 61 #[pt b, a] K I L := by
  refine cal61 ?_
  unfold sh61
  refine newI (fun b1 => ?_)
  try simp only [SSd, Nat.reduceAdd]
  refine call (rversion_spec (m := topS) hR hB hlen (fun v0 v1 h0 h1 => ?_))
  obtain ⟨wa, wc, rfl⟩ := Bytes.form h0
  obtain ⟨xa, xc, rfl⟩ := Bytes.form h1
  try simp only [SSd, Nat.reduceAdd]
  refine newI (fun b2 => ?_)
  refine stB rfl rfl (one_all rfl) ?_
  refine rdB rfl ?_
  refine stB rfl rfl (one_all rfl) ?_
  refine rdB rfl ?_
  exact Gh.to L (Gh.done (hk _ _ h0 h1))
def getR (rows : List Row) (k : List UInt8) (m : TStamp) (txn : Int) : TGot × Int := match rowOf rows k with
  | none => (gotN, 0)
  | some r => seen r m txn
def gotVer : Option TVersion → TGot
  | none => gotN
  | some v => if v.fDel = true then gotN else gotV v.fValue v.fAt
theorem gotVer_map (k : List UInt8) (o : Option TVer) : gotVer (o.map (verF k)) = seenV o := by cases o <;> rfl
abbrev gotO : Obj := .cells #[.bool false, .slice none 0 0, .int .i64 0, .int .i64 0, .int .i64 0] 60 (0, 0)
theorem rread_tail {L0 : LH} [LSub L0 L] {b b1 b2 b3 : Nat} {o3 : Obj} {vV vI a : Value} {V : List TVersion} {Is : List TIntent} {fl m : TStamp} {k : List UInt8} (hR : RefF I L0 b vV vI V Is fl) (hB : Bytes I a k) (hlen : V.length ≤ 1000000000)
    (hk : ∀ v0, Bytes I v0 (gotVer (lastV V k m)).fValue → K (.tuple #[gvV (gotVer (lastV V k m)) v0, .int .i64 0]) I L) :
    (Rv none (ldNR 2 (pt b1)) fun v30 => Cal Tryd.prog ω 73 #[pt b, a, v30] <| gh fun v31 => Pv (exV v31 0) fun v32 => Pv (exV v31 1) fun v33 => New (.cells #[.slice none 0 0, .int .i64 0, .int .i64 0, .bool false, .slice none 0 0] 123 (0, 0)) <| gh fun v34 => Sto 5 v34 v32 <| gh fun _ =>
      Pv (unV .not v33) fun v35 => Gd v35 false (Pv (fldV 3 v34) fun v36 => Rv none (ld1R v36) fun v37 => Br v37 (sh65_3 ω (pt b2) (.int .i64 0) (fun v => Gh (K v))) (Pv (fldV 4 v34) fun v40 => Rv none (ld1R v40) fun v41 => Pv (fldV 1 v34) fun v42 => Rv none (ldNR 2 v42) fun v43 =>
        Pv (bldV #[.bool false, .slice none 0 0, .int .i64 0, .int .i64 0, .int .i64 0] #[(0, 1), (1, 1), (2, 2), (4, 1)] [(0, .bool true), (1, v41), (2, v43)]) fun v44 => Sto 5 (pt b2) v44 <| gh fun _ => Rv none (ldNR 5 (pt b2)) fun v45 => Gh (K (.tuple #[v45, .int .i64 0]))))
        (sh65_3 ω (pt b2) (.int .i64 0) (fun v => Gh (K v)))) I ((b3, o3) :: (b2, gotO) :: (b1, .cells #[.int .i64 m.fWall, .int .i64 m.fLogic] 34 (0, 0)) :: L) := by
  have hz : ∀ I', Bytes I' (.slice none 0 0) [] := fun I' => SlI.nil I' 1 none 0
  refine rdB rfl ?_
  refine call (rversion_spec (L0 := L0) (m := m) hR hB hlen (fun v0 v1 h0 h1 => ?_))
  obtain ⟨wa, wc, rfl⟩ := Bytes.form h0
  obtain ⟨xa, xc, rfl⟩ := Bytes.form h1
  try simp only [SSd, Nat.reduceAdd]
  refine newI (fun b4 => ?_)
  refine stB rfl rfl (one_all rfl) ?_
  have three : ∀ (he : gotVer (lastV V k m) = gotN), sh65_3 ω (pt b2) (.int .i64 0) (fun v => Gh (K v)) I ((b4, .cells (veV (.slice wa ((lastV V k m).getD noVer).fKey.length wc) (.slice xa ((lastV V k m).getD noVer).fValue.length xc) ((lastV V k m).getD noVer)).toArray 123 (0, 0)) :: (b3, o3) :: (b2, gotO) :: (b1, .cells #[.int .i64 m.fWall, .int .i64 m.fLogic] 34 (0, 0)) :: L) := by
    intro he
    rw [he] at hk
    unfold sh65_3
    repeat' (first | (with_reducible refine drawC ?_) | (with_reducible refine drawW1 ?_) | (with_reducible refine drawW2 ?_) | (with_reducible refine keepC (by repeat (first | exact Ext.refl _ | assumption | refine Ext.trans ?_ (by assumption))) ?_) | (with_reducible refine newI (fun _ => ?_)) | first | (with_reducible refine rdb ?_) | ((with_reducible refine st1 ?_ ?_); rfl) | ((with_reducible refine rdB ?_ ?_); rfl) | (with_reducible refine rdbS ?_) | ((with_reducible refine rdBS ?_ ?_); rfl) | ((with_reducible refine stB ?_ ?_ ?_ ?_); rfl; rfl; exact one_all rfl) | ((with_reducible refine rdP _ rfl ?_ ?_); rfl) | ((with_reducible refine rdPS _ rfl ?_ ?_); rfl) | ((with_reducible refine stP _ rfl ?_ ?_ ?_ ?_); rfl; rfl; rfl) | (with_reducible refine unfE (sh65_1.eq_1 ..) ?_) | (with_reducible refine unfE (sh65_2.eq_1 ..) ?_) | (with_reducible refine unfE (sh65_3.eq_1 ..) ?_) | (with_reducible refine unfE (sh65.eq_1 ..) ?_) | (with_reducible refine And.intro ?_ ?_) | (simp only [Bool.not_true, Bool.not_false, Bool.and_self, Bool.true_and, Int.reduceBEq, Int.reduceBNe, Int.reduceLT, Int.reduceLE, decide_true, decide_false, Br_true, Br_false, Gd_tt, Gd_ft, Gd_tf, Gd_ff, beq_self_eq_true, bne_self_eq_false]) | (with_reducible refine gd_split (fun _ => ?_) (fun _ => ?_)) | (with_reducible refine br_split (fun _ => ?_) (fun _ => ?_)) | (simp only [SSd, Nat.reduceAdd]))
    exact Gh.to L (Gh.done (hk _ (hz I)))
  cases hl : lastV V k m with
  | none =>
    rw [hl] at three
    simp only [Option.isSome_none, Bool.not_false, SSd, Nat.reduceAdd]
    exact three rfl
  | some v =>
    rw [hl] at three hk h1
    simp only [Option.isSome_some, Bool.not_true, SSd, Nat.reduceAdd]
    refine rdb ?_
    refine br_split (fun e => ?_) (fun e => ?_)
    · exact three (if_pos e)
    · have hg : gotVer (some v) = gotV v.fValue v.fAt := if_neg (by rw [show v.fDel = false from e]; simp)
      rw [hg] at hk
      try simp only [SSd, Nat.reduceAdd]
      refine rdb ?_
      try simp only [SSd, Nat.reduceAdd]
      refine rdP [.int .i64 v.fAt.fWall, .int .i64 v.fAt.fLogic] rfl rfl ?_
      repeat' (first | (with_reducible refine drawC ?_) | (with_reducible refine drawW1 ?_) | (with_reducible refine drawW2 ?_) | (with_reducible refine keepC (by repeat (first | exact Ext.refl _ | assumption | refine Ext.trans ?_ (by assumption))) ?_) | (with_reducible refine newI (fun _ => ?_)) | first | (with_reducible refine rdb ?_) | ((with_reducible refine st1 ?_ ?_); rfl) | ((with_reducible refine rdB ?_ ?_); rfl) | (with_reducible refine rdbS ?_) | ((with_reducible refine rdBS ?_ ?_); rfl) | ((with_reducible refine stB ?_ ?_ ?_ ?_); rfl; rfl; exact one_all rfl) | ((with_reducible refine rdP _ rfl ?_ ?_); rfl) | ((with_reducible refine rdPS _ rfl ?_ ?_); rfl) | ((with_reducible refine stP _ rfl ?_ ?_ ?_ ?_); rfl; rfl; rfl) | (with_reducible refine unfE (sh65_1.eq_1 ..) ?_) | (with_reducible refine unfE (sh65_2.eq_1 ..) ?_) | (with_reducible refine unfE (sh65_3.eq_1 ..) ?_) | (with_reducible refine unfE (sh65.eq_1 ..) ?_) | (with_reducible refine And.intro ?_ ?_) | (simp only [Bool.not_true, Bool.not_false, Bool.and_self, Bool.true_and, Int.reduceBEq, Int.reduceBNe, Int.reduceLT, Int.reduceLE, decide_true, decide_false, Br_true, Br_false, Gd_tt, Gd_ft, Gd_tf, Gd_ff, beq_self_eq_true, bne_self_eq_false]) | (with_reducible refine gd_split (fun _ => ?_) (fun _ => ?_)) | (with_reducible refine br_split (fun _ => ?_) (fun _ => ?_)) | (simp only [SSd, Nat.reduceAdd]))
      exact Gh.to L (Gh.done (hk _ h1))
theorem rread_spec {L0 : LH} [LSub L0 L] {b : Nat} {vV vI a : Value} {sp : Sp} {fl m : TStamp} {k : List UInt8} {txn : Int} (hR : RefF I L0 b vV vI (versOf sp.rows) (intsOf sp.rows) fl) (hok : SpOk sp) (hB : Bytes I a k) (hlen : sp.rows.length ≤ 100000000) (hn : versN sp.rows ≤ 100000000)
    (hk : ∀ v0, Bytes I v0 (getR sp.rows k m txn).1.fValue → K (.tuple #[gvV (getR sp.rows k m txn).1 v0, .int .i64 (getR sp.rows k m txn).2]) I L) :
    Cal Tryd.prog ω 65 #[pt b, a, sv m, .int .i64 txn] K I L := by
  have hz : ∀ I', Bytes I' (.slice none 0 0) [] := fun I' => SlI.nil I' 1 none 0
  have hs := hok.rise
  have hIl : (intsOf sp.rows).length ≤ 1000000000 := by
    have := List.length_filter_le (fun r : Row => r.it.txn != 0) sp.rows
    simp [intsOf]; omega
  have hVl : (versOf sp.rows).length ≤ 1000000000 := by rw [versN_len]; omega
  refine cal65 ?_
  unfold sh65
  refine newI (fun b1 => newI (fun b2 => ?_))
  refine call (rintent_spec (L0 := L0) hR hB hIl (fun v0 v1 h0 h1 => ?_))
  rw [ints_find hs k] at h0 h1 ⊢
  obtain ⟨wa, wc, rfl⟩ := Bytes.form h0
  obtain ⟨xa, xc, rfl⟩ := Bytes.form h1
  try simp only [SSd, Nat.reduceAdd]
  refine newI (fun b3 => ?_)
  refine stB rfl rfl (one_all rfl) ?_
  have tail := fun (o3 : Obj) (hg : getR sp.rows k m txn = (gotVer (lastV (versOf sp.rows) k m), 0)) => rread_tail (ω := ω) (K := K) (L := L) (b1 := b1) (b2 := b2) (b3 := b3) (o3 := o3) (m := m) hR hB hVl (by rw [hg] at hk; exact hk)
  have hlv := vers_last hs k m
  cases hr : rowOf sp.rows k with
  | none =>
    have ei : itOpt sp.rows k = none := by unfold itOpt; rw [hr]
    have eg : getR sp.rows k m txn = (gotVer (lastV (versOf sp.rows) k m), 0) := by
      unfold getR; rw [hr, hlv]; unfold verOpt; rw [hr]; rfl
    simp only [ei, Option.isSome_none, Option.getD_none, SSd, Nat.reduceAdd]
    refine rdP [.int .i64 0, .int .i64 0] rfl rfl ?_
    refine rdB rfl ?_
    refine call (rbehind_spec (x := ⟨0, 0⟩) (y := m) ?_)
    exact tail _ eg
  | some r =>
    have egv : gotVer (lastV (versOf sp.rows) k m) = seenV (upTo r.vs m) := by rw [hlv]; unfold verOpt; rw [hr]; exact gotVer_map k _
    have eg0 : getR sp.rows k m txn = seen r m txn := by unfold getR; rw [hr]
    by_cases h0' : r.it.txn = 0
    · have ei : itOpt sp.rows k = none := by unfold itOpt; rw [hr]; exact if_pos h0'
      have eg : getR sp.rows k m txn = (gotVer (lastV (versOf sp.rows) k m), 0) := by rw [eg0, egv]; unfold seen; rw [if_pos h0']
      simp only [ei, Option.isSome_none, Option.getD_none, SSd, Nat.reduceAdd]
      refine rdP [.int .i64 0, .int .i64 0] rfl rfl ?_
      refine rdB rfl ?_
      refine call (rbehind_spec (x := ⟨0, 0⟩) (y := m) ?_)
      exact tail _ eg
    · have ei : itOpt sp.rows k = some (itF r) := by unfold itOpt; rw [hr]; exact if_neg h0'
      rw [ei] at h1
      simp only [ei, Option.isSome_some, Option.getD_some, itF, SSd, Nat.reduceAdd]
      have late : (getR sp.rows k m txn = if bhd r.it.ver.fAt m = false then (gotB r.it.txn, 130) else (gotVer (lastV (versOf sp.rows) k m), 0)) → ∀ (hnx : ¬ r.it.txn = txn), True := fun _ _ => trivial
      by_cases htx : r.it.txn = txn
      · have eg : getR sp.rows k m txn = (seenV (some r.it.ver), 0) := by rw [eg0]; unfold seen; rw [if_neg h0', if_pos htx]
        rw [eg] at hk
        have e1 : (txn != 0) = true := by simp; rw [← htx]; exact h0'
        have e2 : (r.it.txn == txn) = true := by simpa using htx
        simp only [e1, SSd, Nat.reduceAdd]
        refine rdb ?_
        simp only [e2, SSd, Nat.reduceAdd]
        unfold sh65_1
        try simp only [SSd, Nat.reduceAdd]
        refine rdb ?_
        refine br_split (fun e => ?_) (fun e => ?_)
        · have hg : seenV (some r.it.ver) = gotN := if_pos e
          rw [hg] at hk
          repeat' (first | (with_reducible refine drawC ?_) | (with_reducible refine drawW1 ?_) | (with_reducible refine drawW2 ?_) | (with_reducible refine keepC (by repeat (first | exact Ext.refl _ | assumption | refine Ext.trans ?_ (by assumption))) ?_) | (with_reducible refine newI (fun _ => ?_)) | first | (with_reducible refine rdb ?_) | ((with_reducible refine st1 ?_ ?_); rfl) | ((with_reducible refine rdB ?_ ?_); rfl) | (with_reducible refine rdbS ?_) | ((with_reducible refine rdBS ?_ ?_); rfl) | ((with_reducible refine stB ?_ ?_ ?_ ?_); rfl; rfl; exact one_all rfl) | ((with_reducible refine rdP _ rfl ?_ ?_); rfl) | ((with_reducible refine rdPS _ rfl ?_ ?_); rfl) | ((with_reducible refine stP _ rfl ?_ ?_ ?_ ?_); rfl; rfl; rfl) | (with_reducible refine unfE (sh65_1.eq_1 ..) ?_) | (with_reducible refine unfE (sh65_2.eq_1 ..) ?_) | (with_reducible refine unfE (sh65_3.eq_1 ..) ?_) | (with_reducible refine unfE (sh65.eq_1 ..) ?_) | (with_reducible refine And.intro ?_ ?_) | (simp only [Bool.not_true, Bool.not_false, Bool.and_self, Bool.true_and, Int.reduceBEq, Int.reduceBNe, Int.reduceLT, Int.reduceLE, decide_true, decide_false, Br_true, Br_false, Gd_tt, Gd_ft, Gd_tf, Gd_ff, beq_self_eq_true, bne_self_eq_false]) | (with_reducible refine gd_split (fun _ => ?_) (fun _ => ?_)) | (with_reducible refine br_split (fun _ => ?_) (fun _ => ?_)) | (simp only [SSd, Nat.reduceAdd]))
          exact Gh.to L (Gh.done (hk _ (hz I)))
        · have hg : seenV (some r.it.ver) = gotV r.it.ver.fValue r.it.ver.fAt := if_neg (by rw [show r.it.ver.fDel = false from e]; simp)
          rw [hg] at hk
          try simp only [SSd, Nat.reduceAdd]
          refine rdb ?_
          try simp only [SSd, Nat.reduceAdd]
          refine rdP [.int .i64 r.it.ver.fAt.fWall, .int .i64 r.it.ver.fAt.fLogic] rfl rfl ?_
          repeat' (first | (with_reducible refine drawC ?_) | (with_reducible refine drawW1 ?_) | (with_reducible refine drawW2 ?_) | (with_reducible refine keepC (by repeat (first | exact Ext.refl _ | assumption | refine Ext.trans ?_ (by assumption))) ?_) | (with_reducible refine newI (fun _ => ?_)) | first | (with_reducible refine rdb ?_) | ((with_reducible refine st1 ?_ ?_); rfl) | ((with_reducible refine rdB ?_ ?_); rfl) | (with_reducible refine rdbS ?_) | ((with_reducible refine rdBS ?_ ?_); rfl) | ((with_reducible refine stB ?_ ?_ ?_ ?_); rfl; rfl; exact one_all rfl) | ((with_reducible refine rdP _ rfl ?_ ?_); rfl) | ((with_reducible refine rdPS _ rfl ?_ ?_); rfl) | ((with_reducible refine stP _ rfl ?_ ?_ ?_ ?_); rfl; rfl; rfl) | (with_reducible refine unfE (sh65_1.eq_1 ..) ?_) | (with_reducible refine unfE (sh65_2.eq_1 ..) ?_) | (with_reducible refine unfE (sh65_3.eq_1 ..) ?_) | (with_reducible refine unfE (sh65.eq_1 ..) ?_) | (with_reducible refine And.intro ?_ ?_) | (simp only [Bool.not_true, Bool.not_false, Bool.and_self, Bool.true_and, Int.reduceBEq, Int.reduceBNe, Int.reduceLT, Int.reduceLE, decide_true, decide_false, Br_true, Br_false, Gd_tt, Gd_ft, Gd_tf, Gd_ff, beq_self_eq_true, bne_self_eq_false]) | (with_reducible refine gd_split (fun _ => ?_) (fun _ => ?_)) | (with_reducible refine br_split (fun _ => ?_) (fun _ => ?_)) | (simp only [SSd, Nat.reduceAdd]))
          exact Gh.to L (Gh.done (hk _ h1))
      · have e2 : (r.it.txn == txn) = false := by simpa using htx
        have fin : ∀ (hg : getR sp.rows k m txn = if bhd r.it.ver.fAt m = false then (gotB r.it.txn, 130) else (gotVer (lastV (versOf sp.rows) k m), 0)), bhd r.it.ver.fAt m = false →
            sh65_2 ω (pt b2) (.int .i64 0) (pt b3) (fun v => Gh (K v)) I ((b3, .cells (itV (.slice wa (itF r).fKey.length wc) (.slice xa (itF r).fValue.length xc) (itF r)).toArray 39 (0, 0)) :: (b2, gotO) :: (b1, .cells #[.int .i64 m.fWall, .int .i64 m.fLogic] 34 (0, 0)) :: L) := by
          intro hg hb
          rw [hg, if_pos hb] at hk
          unfold sh65_2
          try simp only [SSd, Nat.reduceAdd]
          refine rdb ?_
          repeat' (first | (with_reducible refine drawC ?_) | (with_reducible refine drawW1 ?_) | (with_reducible refine drawW2 ?_) | (with_reducible refine keepC (by repeat (first | exact Ext.refl _ | assumption | refine Ext.trans ?_ (by assumption))) ?_) | (with_reducible refine newI (fun _ => ?_)) | first | (with_reducible refine rdb ?_) | ((with_reducible refine st1 ?_ ?_); rfl) | ((with_reducible refine rdB ?_ ?_); rfl) | (with_reducible refine rdbS ?_) | ((with_reducible refine rdBS ?_ ?_); rfl) | ((with_reducible refine stB ?_ ?_ ?_ ?_); rfl; rfl; exact one_all rfl) | ((with_reducible refine rdP _ rfl ?_ ?_); rfl) | ((with_reducible refine rdPS _ rfl ?_ ?_); rfl) | ((with_reducible refine stP _ rfl ?_ ?_ ?_ ?_); rfl; rfl; rfl) | (with_reducible refine unfE (sh65_1.eq_1 ..) ?_) | (with_reducible refine unfE (sh65_2.eq_1 ..) ?_) | (with_reducible refine unfE (sh65_3.eq_1 ..) ?_) | (with_reducible refine unfE (sh65.eq_1 ..) ?_) | (with_reducible refine And.intro ?_ ?_) | (simp only [Bool.not_true, Bool.not_false, Bool.and_self, Bool.true_and, Int.reduceBEq, Int.reduceBNe, Int.reduceLT, Int.reduceLE, decide_true, decide_false, Br_true, Br_false, Gd_tt, Gd_ft, Gd_tf, Gd_ff, beq_self_eq_true, bne_self_eq_false]) | (with_reducible refine gd_split (fun _ => ?_) (fun _ => ?_)) | (with_reducible refine br_split (fun _ => ?_) (fun _ => ?_)) | (simp only [SSd, Nat.reduceAdd]))
          exact Gh.to L (Gh.done (hk _ (hz I)))
        have eg : getR sp.rows k m txn = if bhd r.it.ver.fAt m = false then (gotB r.it.txn, 130) else (gotVer (lastV (versOf sp.rows) k m), 0) := by
          rw [eg0, egv]; unfold seen; rw [if_neg h0', if_neg htx]
        by_cases e1 : (txn != 0) = true
        · simp only [e1, SSd, Nat.reduceAdd]
          refine rdb ?_
          simp only [e2, SSd, Nat.reduceAdd]
          refine rdP [.int .i64 r.it.ver.fAt.fWall, .int .i64 r.it.ver.fAt.fLogic] rfl rfl ?_
          refine rdB rfl ?_
          refine call (rbehind_spec (x := r.it.ver.fAt) (y := m) ?_)
          try simp only [SSd, Nat.reduceAdd]
          refine br_split (fun e => fin eg (by simpa using e)) (fun e => ?_)
          have e' : bhd r.it.ver.fAt m = true := by simpa using e
          exact tail _ (by rw [eg, if_neg (by rw [e']; simp)])
        · simp only [Bool.eq_false_iff.2 e1, SSd, Nat.reduceAdd]
          refine rdP [.int .i64 r.it.ver.fAt.fWall, .int .i64 r.it.ver.fAt.fLogic] rfl rfl ?_
          refine rdB rfl ?_
          refine call (rbehind_spec (x := r.it.ver.fAt) (y := m) ?_)
          try simp only [SSd, Nat.reduceAdd]
          refine br_split (fun e => fin eg (by simpa using e)) (fun e => ?_)
          have e' : bhd r.it.ver.fAt m = true := by simpa using e
          exact tail _ (by rw [eg, if_neg (by rw [e']; simp)])
end
end Go.Proofs.YtmnnnoinfhiilaaDoor
