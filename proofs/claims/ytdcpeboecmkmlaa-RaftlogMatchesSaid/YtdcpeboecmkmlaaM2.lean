/-
  Logs match: the walk.
-/
import Derived.Test.YtdcpeboecmkmlaaM1
set_option linter.unusedSimpArgs false
set_option linter.unusedVariables false
namespace Go.Proofs.Ytdcpeboecmkmlaa
open Go.SL
set_option maxRecDepth 10000

theorem slice1 (a : List LE) : sliceAt (mk3 a) 1 1000 = a.take 1000 := by
  unfold sliceAt
  split
  · rfl
  · rename_i h
    have : a.length = 0 := by
      apply Classical.byContradiction
      intro h0
      exact h ⟨by show (0 : Int) < 1; omega, by show (1 : Int) ≤ 0 + (a.length : Int); omega, by omega⟩
    rw [List.eq_nil_of_length_eq_zero this]; rfl

def byteOf (n : Int) : UInt8 := UInt8.ofNat (n % 256).toNat
theorem u8_wrap (n : Int) : IntKind.u8.wrap n = ((byteOf n).toNat : Int) := by
  have e : IntKind.u8.wrap n = n % 256 := by
    simp only [IntKind.wrap]
    simp [IntKind.bits, IntKind.signed]
  rw [e, byteOf]
  simp
  omega
theorem and_one (n : Int) : ∃ f : Nat, f < 2 ∧ bitsV .and .i64 n 1 = f := by
  refine ⟨(BitVec.ofInt 64 n &&& 1#64).toNat, ?_, ?_⟩
  · rw [BitVec.toNat_and]
    have : (1#64).toNat = 1 := rfl
    rw [this, Nat.and_one_is_mod]
    omega
  · have h2 : (BitVec.ofInt 64 n &&& 1#64).toNat < 2 := by
      rw [BitVec.toNat_and]
      have : (1#64).toNat = 1 := rfl
      rw [this, Nat.and_one_is_mod]
      omega
    show IntKind.i64.wrap ((BitVec.ofInt 64 n &&& 1#64).toNat : Int) = _
    exact wrap_i64 _ (by omega)

section
variable {ω : Om} {I : Imm} {L : LH} {K : Value → M}

theorem alike_spec {b c : Nat} {x y : List LE} {LL : Int → List LE} (hb : LogV I L b (mk3 x)) (hc : LogV I L c (mk3 y)) (wx : WF (mk3 x)) (wy : WF (mk3 y)) (px : Pre LL x) (py : Pre LL y) (hk : ∀ I', Ext I I' → K (.bool true) I' L) :
    Cal Try.prog ω 18 #[.pointer (some ⟨b, 0, none⟩), .pointer (some ⟨c, 0, none⟩)] K I L := by
  refine cal18 ?_
  unfold sh18
  refine call (slice_spec hb wx (by unfold inI64; omega) (by unfold inI64; omega) (fun v1 I1 hI1 h1 => ?_))
  refine call (slice_spec (hc.to hI1) wy (by unfold inI64; omega) (by unfold inI64; omega) (fun v2 I2 hI2 h2 => ?_))
  rw [slice1] at h1 h2
  have p1 := px.take 1000
  have p2 := py.take 1000
  have l1 : (x.take 1000).length ≤ 1000 := by rw [List.length_take]; omega
  have l2 : (y.take 1000).length ≤ 1000 := by rw [List.length_take]; omega
  have hI := hI1.trans hI2
  revert h1 h2 p1 p2 l1 l2
  generalize x.take 1000 = xs
  generalize y.take 1000 = ys
  intro h1 h2 p1 p2 l1 l2
  simp only [RL.len h1, RL.len h2, Pv_some, fldV_p, nilV_p, nilV_f, lenV_s, capV_s, lenSV_s, minV_i, maxV_i, strV_s, unV_not, unV_neg, pickV_t, pickV_f, exV_t, cvIV_i, binI_add, binI_sub, binI_mul, binI_eql, binI_neq, binI_lss, binI_leq, binI_gtr, binI_geq, binI_and, binI_or, binB_eql, binB_neq, binS_eql, binS_neq, binP_eql_nil, binP_neq_nil, binN_eql_nil, binN_neq_nil, binN_eql_nn, binN_neq_nn, Br_true, Br_false, Gd_tt, Gd_ft, Gd_tf, Gd_ff, cells_agg, List.getElem?_toArray, List.getElem?_cons_zero, List.getElem?_cons_succ, Nat.zero_add, Nat.add_zero, Nat.zero_mul]
  have e5 : IntKind.i64.wrap ((if (ys.length : Int) < xs.length then (ys.length : Int) else xs.length) - 1) = ((min xs.length ys.length : Nat) : Int) - 1 := by
    rw [wrap_i64 _ (by split <;> omega)]
    split <;> omega
  rw [e5]
  refine loop (fun m s I' L' => I' = I2 ∧ L' = L ∧ m ≤ min xs.length ys.length ∧ s = (.bool false, .int .i64 ((m : Int) - 1), ())) (min xs.length ys.length) ⟨rfl, rfl, Nat.le_refl _, rfl⟩ ?_
  rintro m s I' L' ⟨rfl, rfl, hm, rfl⟩
  unfold sh18_3
  try simp only [Pv_some, fldV_p, nilV_p, nilV_f, lenV_s, capV_s, lenSV_s, minV_i, maxV_i, strV_s, unV_not, unV_neg, pickV_t, pickV_f, exV_t, cvIV_i, binI_add, binI_sub, binI_mul, binI_eql, binI_neq, binI_lss, binI_leq, binI_gtr, binI_geq, binI_and, binI_or, binB_eql, binB_neq, binS_eql, binS_neq, binP_eql_nil, binP_neq_nil, binN_eql_nil, binN_neq_nil, binN_eql_nn, binN_neq_nn, Br_true, Br_false, Gd_tt, Gd_ft, Gd_tf, Gd_ff, cells_agg, List.getElem?_toArray, List.getElem?_cons_zero, List.getElem?_cons_succ, Nat.zero_add, Nat.add_zero, Nat.zero_mul]
  refine br_split (fun hge => ?_) (fun _ => Gh.done (hk I' hI))
  simp at hge
  obtain ⟨b1, off1, c1, hix1, hcl1, ⟨dv1, rfl, hB1⟩, hc1⟩ := RL.ix h1 (i := (m : Int) - 1) (by omega) (by omega)
  obtain ⟨b2, off2, c2, hix2, hcl2, ⟨dv2, rfl, hB2⟩, hc2⟩ := RL.ix h2 (i := (m : Int) - 1) (by omega) (by omega)
  have d1 := hc1 I' L' hI2 (fun _ h => by cases h) 1 _ rfl
  have d2 := hc2 I' L' (Ext.refl _) (fun _ h => by cases h) 1 _ rfl
  refine draw (Stay I' L') (Stay.start I' L') ?_
  simp only [hix1, hix2, Pv_some, fldV_p, nilV_p, nilV_f, lenV_s, capV_s, lenSV_s, minV_i, maxV_i, strV_s, unV_not, unV_neg, pickV_t, pickV_f, exV_t, cvIV_i, binI_add, binI_sub, binI_mul, binI_eql, binI_neq, binI_lss, binI_leq, binI_gtr, binI_geq, binI_and, binI_or, binB_eql, binB_neq, binS_eql, binS_neq, binP_eql_nil, binP_neq_nil, binN_eql_nil, binN_neq_nil, binN_eql_nn, binN_neq_nn, Br_true, Br_false, Gd_tt, Gd_ft, Gd_tf, Gd_ff, cells_agg, List.getElem?_toArray, List.getElem?_cons_zero, List.getElem?_cons_succ, Nat.zero_add, Nat.add_zero, Nat.zero_mul]
  refine rd1I d1 ?_
  refine rd1I d2 ?_
  try simp only [Pv_some, fldV_p, nilV_p, nilV_f, lenV_s, capV_s, lenSV_s, minV_i, maxV_i, strV_s, unV_not, unV_neg, pickV_t, pickV_f, exV_t, cvIV_i, binI_add, binI_sub, binI_mul, binI_eql, binI_neq, binI_lss, binI_leq, binI_gtr, binI_geq, binI_and, binI_or, binB_eql, binB_neq, binS_eql, binS_neq, binP_eql_nil, binP_neq_nil, binN_eql_nil, binN_neq_nil, binN_eql_nn, binN_neq_nn, Br_true, Br_false, Gd_tt, Gd_ft, Gd_tf, Gd_ff, cells_agg, List.getElem?_toArray, List.getElem?_cons_zero, List.getElem?_cons_succ, Nat.zero_add, Nat.add_zero, Nat.zero_mul]
  refine br_split (fun he => ?_) (fun _ => ?_)
  · simp only [beq_iff_eq] at he
    have em : ((m - 1 : Nat) : Int) = (m : Int) - 1 := by omega
    have hs := p1.same p2 (i := m - 1) (by omega) (by omega) (by rw [em]; exact he)
    rw [show m - 1 + 1 = m from by omega] at hs
    refine draw (Stay I' L') (Stay.start I' L') ?_
    rw [show (m : Int) - 1 + 1 = m from by omega]
    obtain ⟨v3, hs3, hl3⟩ := RL.part h1 (lo := 0) (hi := m) (by omega) (by omega) none (some (.int .i64 m)) rfl (fun cap hc => bnd_in _ _ _ _ (by omega))
    obtain ⟨v4, hs4, hl4⟩ := RL.part h2 (lo := 0) (hi := m) (by omega) (by omega) none (some (.int .i64 m)) rfl (fun cap hc => bnd_in _ _ _ _ (by omega))
    simp only [wrap_i64 (m : Int) (by omega), hs3, hs4, Pv_some, fldV_p, nilV_p, nilV_f, lenV_s, capV_s, lenSV_s, minV_i, maxV_i, strV_s, unV_not, unV_neg, pickV_t, pickV_f, exV_t, cvIV_i, binI_add, binI_sub, binI_mul, binI_eql, binI_neq, binI_lss, binI_leq, binI_gtr, binI_geq, binI_and, binI_or, binB_eql, binB_neq, binS_eql, binS_neq, binP_eql_nil, binP_neq_nil, binN_eql_nil, binN_neq_nil, binN_eql_nn, binN_neq_nn, Br_true, Br_false, Gd_tt, Gd_ft, Gd_tf, Gd_ff, cells_agg, List.getElem?_toArray, List.getElem?_cons_zero, List.getElem?_cons_succ, Nat.zero_add, Nat.add_zero, Nat.zero_mul]
    rw [List.drop_zero, Nat.sub_zero] at hl3 hl4
    rw [← hs] at hl4
    exact call (sameents_spec (Ents.to hl3 hI2) (Ents.to hl4 (Ext.refl _)) (by rw [List.length_take]; omega) (Gh.done (hk I' hI)))
  · rw [wrap_i64 _ (by omega)]
    exact Gh.done ⟨m - 1, by omega, rfl, rfl, by omega, by rw [show ((m - 1 : Nat) : Int) = (m : Int) - 1 from by omega]⟩

/-! ### Three logs in memory -/
def catX (Xs : Nat → LH) (F : LH) : LH := Xs 0 ++ (Xs 1 ++ (Xs 2 ++ F))
def catR (k : Nat) (Xs : Nat → LH) (F : LH) : LH := if k = 0 then Xs 1 ++ (Xs 2 ++ F) else if k = 1 then Xs 0 ++ (Xs 2 ++ F) else Xs 0 ++ (Xs 1 ++ F)
def updX (Xs : Nat → LH) (k : Nat) (X : LH) : Nat → LH := fun j => if j = k then X else Xs j
theorem perm3 (A B C : LH) : (A ++ (B ++ C)).Perm (B ++ (A ++ C)) := by
  rw [← List.append_assoc, ← List.append_assoc]
  exact List.Perm.append_right C List.perm_append_comm
theorem pickX (Z : LH) {k : Nat} (hk : k < 3) (Xs : Nat → LH) (F : LH) : (Z ++ catX Xs F).Perm (Xs k ++ (Z ++ catR k Xs F)) := by
  refine (List.Perm.append_left Z ?_).trans (perm3 Z (Xs k) _)
  unfold catX catR
  match k, hk with
  | 0, _ => exact List.Perm.refl _
  | 1, _ => exact perm3 _ _ _
  | 2, _ => exact (List.Perm.append_left _ (perm3 _ _ _)).trans (perm3 _ _ _)
theorem putX (Z : LH) {k : Nat} (hk : k < 3) (Xs : Nat → LH) (X : LH) (F : LH) : (X ++ (Z ++ catR k Xs F)).Perm (Z ++ catX (updX Xs k X) F) := by
  refine (((pickX Z hk (updX Xs k X) F).trans ?_)).symm
  have e1 : updX Xs k X k = X := by simp [updX]
  have e2 : catR k (updX Xs k X) F = catR k Xs F := by
    unfold catR updX
    match k, hk with
    | 0, _ => rfl
    | 1, _ => rfl
    | 2, _ => rfl
  rw [e1, e2]
theorem memX {Z F : LH} {k : Nat} (hk : k < 3) {Xs : Nat → LH} : ∀ x ∈ Xs k, x ∈ Z ++ catX Xs F := fun x hx => (pickX Z hk Xs F).mem_iff.2 (List.mem_append_left _ hx)
theorem memF {Z F : LH} {Xs : Nat → LH} {x : Nat × Obj} (hx : x ∈ F) : x ∈ Z ++ catX Xs F := by simp [catX, hx]

def pt (b : Nat) : Value := .pointer (some ⟨b, 0, none⟩)
abbrev arr (bs : Nat → Nat) : Obj := .cells #[pt (bs 0), pt (bs 1), pt (bs 2)] 25 (0, 0)
theorem arr_cell {ba : Nat} {bs : Nat → Nat} {k : Nat} (hk : k < 3) (hm : (ba, arr bs) ∈ L) : Cell I L ba (k * 1) (pt (bs k)) := by
  refine Cell.own hm ?_
  match k, hk with
  | 0, _ => rfl
  | 1, _ => rfl
  | 2, _ => rfl
theorem ix3 (ba : Nat) {k : Nat} (hk : k < 3) : ixPV 1 3 (.pointer (some ⟨ba, 0, none⟩)) (.int .i64 k) = some (.pointer (some ⟨ba, k * 1, none⟩)) := by
  unfold ixPV
  simp only
  rw [if_pos (by omega)]
  simp

structure Mv where
  d : Int
  a : Int
  b : Int
  n : Int
  m : Int
instance : Inhabited Mv := ⟨⟨0, 0, 0, 0, 0⟩⟩
def MvV (I : Imm) (x : Mv) (c : List Value) : Prop := c = [.int .i64 x.d, .int .i64 x.a, .int .i64 x.b, .int .i64 x.n, .int .i64 x.m] ∧ inI64 x.n ∧ inI64 x.m

/-- what holds of the three logs in memory -/
structure Mem3 (I : Imm) (bs : Nat → Nat) (Xs : Nat → LH) (gs : Nat → List LE) : Prop where
  log : ∀ k, k < 3 → LogR I (bs k) (Xs k) (mk3 (gs k))
theorem Mem3.mono {I I' : Imm} {bs : Nat → Nat} {Xs : Nat → LH} {gs : Nat → List LE} (h : Mem3 I bs Xs gs) (hI : Ext I I') : Mem3 I' bs Xs gs := ⟨fun k hk => (h.log k hk).mono hI⟩
theorem Mem3.upd {I I' : Imm} {bs : Nat → Nat} {Xs : Nat → LH} {gs : Nat → List LE} (h : Mem3 I bs Xs gs) (hI : Ext I I') {k : Nat} {X : LH} {es : List LE} (hX : LogR I' (bs k) X (mk3 es)) : Mem3 I' bs (updX Xs k X) (upd gs k es) := by
  refine ⟨fun j hj => ?_⟩
  unfold updX Go.Proofs.Ytdcpeboecmkmlaa.upd
  by_cases e : j = k
  · subst e; simp only [if_true]; exact hX
  · simp only [if_neg e]; exact (h.log j hj).mono hI
theorem Mt.wf {gs : Nat → List LE} {n : Nat} {T ld : Int} {LL : Int → List LE} (h : Mt gs n T ld LL) (hn : n ≤ 300) (k : Nat) : WF (mk3 (gs k)) := mk3_wf (h.fol k) (by have := h.len k; omega)

/-- the loop's state -/
abbrev StL (I2 : Imm) (bs : Nat → Nat) (ba : Nat) (L : LH) (len : Nat) (mm : Nat) (s : Value × Value × Value × Value × Unit) (I' : Imm) (L' : LH) : Prop :=
  Ext I2 I' ∧ ∃ (k : Nat) (T ld : Int) (gs : Nat → List LE) (Xs : Nat → LH) (LL : Int → List LE), k + mm = len ∧ s = (.bool false, .int .i64 T, .int .i64 ld, .int .i64 k, ()) ∧ k ≤ 200 ∧ Mt gs k T ld LL ∧ Mem3 I' bs Xs gs ∧ L' = catX Xs ((ba, arr bs) :: L)

/-- behind an offer: the logs are held against each other -/
theorem pairs_spec {bs : Nat → Nat} {ba : Nat} {Xs : Nat → LH} {gs : Nat → List LE} {n : Nat} {T ld : Int} {LL : Int → List LE} {i : Int} {Z F : LH} {Kn : (Value × Value × Value × Value × Unit) → M} (hm : Mt gs n T ld LL) (hn : n ≤ 300) (hM : Mem3 I bs Xs gs) (hF : (ba, arr bs) ∈ F) (hi : 0 ≤ i ∧ i ≤ 200)
    (hk : ∀ I', Ext I I' → Kn (.bool false, .int .i64 T, .int .i64 ld, .int .i64 (i + 1), ()) I' (Z ++ catX Xs F)) :
    sh3_11 ω (.bool false) (.pointer (some ⟨ba, 0, none⟩)) (.int .i64 T) (.int .i64 ld) (.int .i64 i) Kn K I (Z ++ catX Xs F) := by
  unfold sh3_11
  refine loop (fun m s I' L' => Ext I I' ∧ L' = Z ++ catX Xs F ∧ ∃ a : Nat, a + m = 3 ∧ s = ((Value.bool false, Value.int .i64 a, ()) : Value × Value × Unit)) 3 ⟨Ext.refl _, rfl, 0, rfl, rfl⟩ ?_
  rintro m s I' L' ⟨hI', rfl, a, ham, rfl⟩
  unfold sh3_13
  try simp only [Pv_some, fldV_p, nilV_p, nilV_f, lenV_s, capV_s, lenSV_s, minV_i, maxV_i, strV_s, unV_not, unV_neg, pickV_t, pickV_f, exV_t, cvIV_i, binI_add, binI_sub, binI_mul, binI_eql, binI_neq, binI_lss, binI_leq, binI_gtr, binI_geq, binI_and, binI_or, binB_eql, binB_neq, binS_eql, binS_neq, binP_eql_nil, binP_neq_nil, binN_eql_nil, binN_neq_nil, binN_eql_nn, binN_neq_nn, Br_true, Br_false, Gd_tt, Gd_ft, Gd_tf, Gd_ff, cells_agg, List.getElem?_toArray, List.getElem?_cons_zero, List.getElem?_cons_succ, Nat.zero_add, Nat.add_zero, Nat.zero_mul]
  refine br_split (fun ha => ?_) (fun ha => ?_)
  · simp at ha
    refine loop (fun m2 s I2 L2 => Ext I I2 ∧ L2 = Z ++ catX Xs F ∧ ∃ b : Nat, b + m2 = a ∧ s = ((Value.bool false, Value.int .i64 b, ()) : Value × Value × Unit)) a ⟨hI', rfl, 0, by omega, rfl⟩ ?_
    rintro m2 s I2 L2 ⟨hI2, rfl, b, hbm, rfl⟩
    unfold sh3_17
    try simp only [Pv_some, fldV_p, nilV_p, nilV_f, lenV_s, capV_s, lenSV_s, minV_i, maxV_i, strV_s, unV_not, unV_neg, pickV_t, pickV_f, exV_t, cvIV_i, binI_add, binI_sub, binI_mul, binI_eql, binI_neq, binI_lss, binI_leq, binI_gtr, binI_geq, binI_and, binI_or, binB_eql, binB_neq, binS_eql, binS_neq, binP_eql_nil, binP_neq_nil, binN_eql_nil, binN_neq_nil, binN_eql_nn, binN_neq_nn, Br_true, Br_false, Gd_tt, Gd_ft, Gd_tf, Gd_ff, cells_agg, List.getElem?_toArray, List.getElem?_cons_zero, List.getElem?_cons_succ, Nat.zero_add, Nat.add_zero, Nat.zero_mul]
    refine br_split (fun hb => ?_) (fun hb => ?_)
    · simp at hb
      refine draw (Stay I2 _) (Stay.start I2 _) ?_
      have ca := arr_cell (I := I2) (k := a) (by omega) (memF (Z := Z) (Xs := Xs) hF)
      have cb := arr_cell (I := I2) (k := b) (by omega) (memF (Z := Z) (Xs := Xs) hF)
      simp only [ix3 ba (k := a) (by omega), ix3 ba (k := b) (by omega), Pv_some]
      refine rd1I ca ?_
      refine rd1I cb ?_
      refine call (alike_spec (((hM.mono hI2).log a (by omega)).view (hs := ⟨memX (by omega)⟩)) (((hM.mono hI2).log b (by omega)).view (hs := ⟨memX (by omega)⟩)) (hm.wf hn a) (hm.wf hn b) (hm.pre a) (hm.pre b) (fun I3 hI3 => ?_))
      simp only [Pv_some, fldV_p, nilV_p, nilV_f, lenV_s, capV_s, lenSV_s, minV_i, maxV_i, strV_s, unV_not, unV_neg, pickV_t, pickV_f, exV_t, cvIV_i, binI_add, binI_sub, binI_mul, binI_eql, binI_neq, binI_lss, binI_leq, binI_gtr, binI_geq, binI_and, binI_or, binB_eql, binB_neq, binS_eql, binS_neq, binP_eql_nil, binP_neq_nil, binN_eql_nil, binN_neq_nil, binN_eql_nn, binN_neq_nn, Br_true, Br_false, Gd_tt, Gd_ft, Gd_tf, Gd_ff, cells_agg, List.getElem?_toArray, List.getElem?_cons_zero, List.getElem?_cons_succ, Nat.zero_add, Nat.add_zero, Nat.zero_mul, Bool.not_true, wrap_i64 ((b : Int) + 1) (by omega)]
      exact Gh.done ⟨m2 - 1, by omega, hI2.trans hI3, rfl, b + 1, by omega, by simp⟩
    · unfold sh3_14
      simp only [Pv_some, fldV_p, nilV_p, nilV_f, lenV_s, capV_s, lenSV_s, minV_i, maxV_i, strV_s, unV_not, unV_neg, pickV_t, pickV_f, exV_t, cvIV_i, binI_add, binI_sub, binI_mul, binI_eql, binI_neq, binI_lss, binI_leq, binI_gtr, binI_geq, binI_and, binI_or, binB_eql, binB_neq, binS_eql, binS_neq, binP_eql_nil, binP_neq_nil, binN_eql_nil, binN_neq_nil, binN_eql_nn, binN_neq_nn, Br_true, Br_false, Gd_tt, Gd_ft, Gd_tf, Gd_ff, cells_agg, List.getElem?_toArray, List.getElem?_cons_zero, List.getElem?_cons_succ, Nat.zero_add, Nat.add_zero, Nat.zero_mul, wrap_i64 ((a : Int) + 1) (by omega)]
      exact Gh.done ⟨m - 1, by omega, hI2, rfl, a + 1, by omega, by simp⟩
  · unfold sh3_5
    simp only [Pv_some, fldV_p, nilV_p, nilV_f, lenV_s, capV_s, lenSV_s, minV_i, maxV_i, strV_s, unV_not, unV_neg, pickV_t, pickV_f, exV_t, cvIV_i, binI_add, binI_sub, binI_mul, binI_eql, binI_neq, binI_lss, binI_leq, binI_gtr, binI_geq, binI_and, binI_or, binB_eql, binB_neq, binS_eql, binS_neq, binP_eql_nil, binP_neq_nil, binN_eql_nil, binN_neq_nil, binN_eql_nn, binN_neq_nn, Br_true, Br_false, Gd_tt, Gd_ft, Gd_tf, Gd_ff, cells_agg, List.getElem?_toArray, List.getElem?_cons_zero, List.getElem?_cons_succ, Nat.zero_add, Nat.add_zero, Nat.zero_mul, wrap_i64 (i + 1) (by omega)]
    exact hk I' hI'

theorem byte_one {F : LH} {n : Int} {K : Value → M} (hk : ∀ u I', Ext I I' → Bytes I' u [byteOf n] → K u I' F) : BldS 5 1 #[(Value.int .u8 0)] 1 [(0, .int .u8 (IntKind.u8.wrap n))] (gh K) I F := by
  refine bld_oneG rfl (by omega) (by simp [Value.cells]) (fun X u hX => ?_)
  refine SlO.freeze hX (fun I' hI hS => Gh.done (hk _ I' hI ?_))
  rw [u8_wrap] at hS
  simpa [Bytes, u8s, Value.cells] using hS


/-- a step -/
theorem move_spec {bs : Nat → Nat} {ba be len mm k : Nat} {Xs : Nat → LH} {gs : Nat → List LE} {T ld : Int} {LL : Int → List LE} {x : Mv} {f t : Nat} {I2 : Imm} (hf : f < 3) (ht : t < 3) (hkm : k + mm = len) (hmm : 0 < mm) (hk : k ≤ 199) (hm : Mt gs k T ld LL) (hM : Mem3 I bs Xs gs) (hI : Ext I2 I) (hx : inI64 x.n ∧ inI64 x.m) :
    sh3_8 ω (.bool false) (.pointer (some ⟨ba, 0, none⟩)) (.int .i64 T) (.int .i64 ld) (.int .i64 k) (.pointer (some ⟨be, 0, none⟩)) (.int .i64 f) (.int .i64 t) (fun s' => Gh fun I3 L3 => ∃ m', m' < mm ∧ StL I2 bs ba L len m' s' I3 L3) K I
      ((be, Obj.cells #[.int .i64 x.d, .int .i64 x.a, .int .i64 x.b, .int .i64 x.n, .int .i64 x.m] 31 (0, 0)) :: catX Xs ((ba, arr bs) :: L)) := by
  have harr : (ba, arr bs) ∈ (ba, arr bs) :: L := List.mem_cons_self ..
  have mview : ∀ {I' : Imm}, Ext I I' → ∀ {j : Nat}, j < 3 → ∀ {Z : LH}, LogV I' (Z ++ catX Xs ((ba, arr bs) :: L)) (bs j) (mk3 (gs j)) := fun hI' _ hj _ => ((hM.mono hI').log _ hj).view (hs := ⟨memX hj⟩)
  have fin : ∀ (T' ld' : Int) (gs' : Nat → List LE) (Xs' : Nat → LH) (LL' : Int → List LE) (I' : Imm) (Z : LH), Ext I I' → Mt gs' (k + 1) T' ld' LL' → Mem3 I' bs Xs' gs' →
      (Gh fun I3 L3 => ∃ m', m' < mm ∧ StL I2 bs ba L len m' (.bool false, .int .i64 T', .int .i64 ld', .int .i64 ((k : Int) + 1), ()) I3 L3) I' (Z ++ catX Xs' ((ba, arr bs) :: L)) := fun T' ld' gs' Xs' LL' I' Z hI' h1 h2 => by
    refine Gh.drop (List.sublist_append_right Z _) (Gh.done ?_)
    exact ⟨mm - 1, by omega, hI.trans hI', k + 1, T', ld', gs', Xs', LL', by omega, by simp, by omega, h1, h2, rfl⟩
  have skip : ∀ (I' : Imm), Ext I I' → ∀ (o : Obj), sh3_5 ω (.bool false) (.int .i64 T) (.int .i64 ld) (.int .i64 k) (fun s' => Gh fun I3 L3 => ∃ m', m' < mm ∧ StL I2 bs ba L len m' s' I3 L3) K I' ((be, o) :: catX Xs ((ba, arr bs) :: L)) := fun I' hI' o => by
    unfold sh3_5
    simp only [Pv_some, fldV_p, nilV_p, nilV_f, lenV_s, capV_s, lenSV_s, minV_i, maxV_i, strV_s, unV_not, unV_neg, pickV_t, pickV_f, exV_t, cvIV_i, binI_add, binI_sub, binI_mul, binI_eql, binI_neq, binI_lss, binI_leq, binI_gtr, binI_geq, binI_and, binI_or, binB_eql, binB_neq, binS_eql, binS_neq, binP_eql_nil, binP_neq_nil, binN_eql_nil, binN_neq_nil, binN_eql_nn, binN_neq_nn, Br_true, Br_false, Gd_tt, Gd_ft, Gd_tf, Gd_ff, cells_agg, List.getElem?_toArray, List.getElem?_cons_zero, List.getElem?_cons_succ, Nat.zero_add, Nat.add_zero, Nat.zero_mul, wrap_i64 ((k : Int) + 1) (by omega)]
    exact fin T ld gs Xs LL I' [_] hI' hm.up (hM.mono hI')
  have key : ∀ T', T' = (if ld = (f : Int) then T else T + 1) → sh3_9 ω (.bool false) (.pointer (some ⟨ba, 0, none⟩)) (.int .i64 T') (.int .i64 f) (.int .i64 k) (.pointer (some ⟨be, 0, none⟩)) (.int .i64 f) (fun s' => Gh fun I3 L3 => ∃ m', m' < mm ∧ StL I2 bs ba L len m' s' I3 L3) K I
      ((be, Obj.cells #[.int .i64 x.d, .int .i64 x.a, .int .i64 x.b, .int .i64 x.n, .int .i64 x.m] 31 (0, 0)) :: catX Xs ((ba, arr bs) :: L)) := fun T' hT' => by
    unfold sh3_9
    refine draw (Stay I _) (Stay.start I _) ?_
    simp only [ix3 ba hf, Pv_some]
    refine rd1I (arr_cell hf (memF (Z := [_]) harr)) ?_
    try simp only [Pv_some, fldV_p, nilV_p, nilV_f, lenV_s, capV_s, lenSV_s, minV_i, maxV_i, strV_s, unV_not, unV_neg, pickV_t, pickV_f, exV_t, cvIV_i, binI_add, binI_sub, binI_mul, binI_eql, binI_neq, binI_lss, binI_leq, binI_gtr, binI_geq, binI_and, binI_or, binB_eql, binB_neq, binS_eql, binS_neq, binP_eql_nil, binP_neq_nil, binN_eql_nil, binN_neq_nil, binN_eql_nn, binN_neq_nn, Br_true, Br_false, Gd_tt, Gd_ft, Gd_tf, Gd_ff, cells_agg, List.getElem?_toArray, List.getElem?_cons_zero, List.getElem?_cons_succ, Nat.zero_add, Nat.add_zero, Nat.zero_mul]
    refine rdbS ?_
    try simp only [Pv_some, fldV_p, nilV_p, nilV_f, lenV_s, capV_s, lenSV_s, minV_i, maxV_i, strV_s, unV_not, unV_neg, pickV_t, pickV_f, exV_t, cvIV_i, binI_add, binI_sub, binI_mul, binI_eql, binI_neq, binI_lss, binI_leq, binI_gtr, binI_geq, binI_and, binI_or, binB_eql, binB_neq, binS_eql, binS_neq, binP_eql_nil, binP_neq_nil, binN_eql_nil, binN_neq_nil, binN_eql_nn, binN_neq_nn, Br_true, Br_false, Gd_tt, Gd_ft, Gd_tf, Gd_ff, cells_agg, List.getElem?_toArray, List.getElem?_cons_zero, List.getElem?_cons_succ, Nat.zero_add, Nat.add_zero, Nat.zero_mul]
    refine byte_one (fun u I1 hI1 hB => ?_)
    refine keepS hI1 (fun x hx => hx) ?_
    obtain ⟨a1, a2⟩ := hm.add (by omega) f (byteOf x.n)
    rw [← hT'] at a1 a2
    obtain ⟨LL', a2⟩ := a2
    refine callG (Cal.perm (pickX [_] hf Xs _) ?_)
    refine add_spec ((hM.mono hI1).log f hf) (hm.wf (by omega) f) hB (by simp) (by have := hm.len f; show ((gs f).length + 1) * 48 ≤ _; omega) (fun X' I' hI' hR => ?_)
    refine Gh.perm (putX [_] hf Xs X' _) (Gh.done ?_)
    rw [a1] at hR ⊢
    simp only [Pv_some, fldV_p, nilV_p, nilV_f, lenV_s, capV_s, lenSV_s, minV_i, maxV_i, strV_s, unV_not, unV_neg, pickV_t, pickV_f, exV_t, cvIV_i, binI_add, binI_sub, binI_mul, binI_eql, binI_neq, binI_lss, binI_leq, binI_gtr, binI_geq, binI_and, binI_or, binB_eql, binB_neq, binS_eql, binS_neq, binP_eql_nil, binP_neq_nil, binN_eql_nil, binN_neq_nil, binN_eql_nn, binN_neq_nn, Br_true, Br_false, Gd_tt, Gd_ft, Gd_tf, Gd_ff, cells_agg, List.getElem?_toArray, List.getElem?_cons_zero, List.getElem?_cons_succ, Nat.zero_add, Nat.add_zero, Nat.zero_mul, bne_self_eq_false]
    unfold sh3_5
    simp only [Pv_some, fldV_p, nilV_p, nilV_f, lenV_s, capV_s, lenSV_s, minV_i, maxV_i, strV_s, unV_not, unV_neg, pickV_t, pickV_f, exV_t, cvIV_i, binI_add, binI_sub, binI_mul, binI_eql, binI_neq, binI_lss, binI_leq, binI_gtr, binI_geq, binI_and, binI_or, binB_eql, binB_neq, binS_eql, binS_neq, binP_eql_nil, binP_neq_nil, binN_eql_nil, binN_neq_nil, binN_eql_nn, binN_neq_nn, Br_true, Br_false, Gd_tt, Gd_ft, Gd_tf, Gd_ff, cells_agg, List.getElem?_toArray, List.getElem?_cons_zero, List.getElem?_cons_succ, Nat.zero_add, Nat.add_zero, Nat.zero_mul, wrap_i64 ((k : Int) + 1) (by omega)]
    exact fin _ _ _ _ LL' I' [_] (hI1.trans hI') a2 (hM.upd (hI1.trans hI') hR)
  have htn := hm.tn
  unfold sh3_8
  try simp only [Pv_some, fldV_p, nilV_p, nilV_f, lenV_s, capV_s, lenSV_s, minV_i, maxV_i, strV_s, unV_not, unV_neg, pickV_t, pickV_f, exV_t, cvIV_i, binI_add, binI_sub, binI_mul, binI_eql, binI_neq, binI_lss, binI_leq, binI_gtr, binI_geq, binI_and, binI_or, binB_eql, binB_neq, binS_eql, binS_neq, binP_eql_nil, binP_neq_nil, binN_eql_nil, binN_neq_nil, binN_eql_nn, binN_neq_nn, Br_true, Br_false, Gd_tt, Gd_ft, Gd_tf, Gd_ff, cells_agg, List.getElem?_toArray, List.getElem?_cons_zero, List.getElem?_cons_succ, Nat.zero_add, Nat.add_zero, Nat.zero_mul]
  refine rdb ?_
  try simp only [Pv_some, fldV_p, nilV_p, nilV_f, lenV_s, capV_s, lenSV_s, minV_i, maxV_i, strV_s, unV_not, unV_neg, pickV_t, pickV_f, exV_t, cvIV_i, binI_add, binI_sub, binI_mul, binI_eql, binI_neq, binI_lss, binI_leq, binI_gtr, binI_geq, binI_and, binI_or, binB_eql, binB_neq, binS_eql, binS_neq, binP_eql_nil, binP_neq_nil, binN_eql_nil, binN_neq_nil, binN_eql_nn, binN_neq_nn, Br_true, Br_false, Gd_tt, Gd_ft, Gd_tf, Gd_ff, cells_agg, List.getElem?_toArray, List.getElem?_cons_zero, List.getElem?_cons_succ, Nat.zero_add, Nat.add_zero, Nat.zero_mul]
  refine br_split (fun h0 => ?_) (fun h0 => ?_)
  · refine br_split (fun h1 => ?_) (fun h1 => ?_)
    · simp only [wrap_i64 (T + 1) (by omega)]
      exact key _ (by simp at h1; rw [if_neg h1])
    · simp at h1
      subst h1
      exact key _ (by simp)
  · refine draw (Stay I _) (Stay.start I _) ?_
    simp only [ix3 ba hf, Pv_some]
    refine rd1I (arr_cell hf (memF (Z := [_]) harr)) ?_
    try simp only [Pv_some, fldV_p, nilV_p, nilV_f, lenV_s, capV_s, lenSV_s, minV_i, maxV_i, strV_s, unV_not, unV_neg, pickV_t, pickV_f, exV_t, cvIV_i, binI_add, binI_sub, binI_mul, binI_eql, binI_neq, binI_lss, binI_leq, binI_gtr, binI_geq, binI_and, binI_or, binB_eql, binB_neq, binS_eql, binS_neq, binP_eql_nil, binP_neq_nil, binN_eql_nil, binN_neq_nil, binN_eql_nn, binN_neq_nn, Br_true, Br_false, Gd_tt, Gd_ft, Gd_tf, Gd_ff, cells_agg, List.getElem?_toArray, List.getElem?_cons_zero, List.getElem?_cons_succ, Nat.zero_add, Nat.add_zero, Nat.zero_mul]
    refine rdbS ?_
    refine call (term_spec (mview (Ext.refl I) hf (Z := [_])) (hm.wf (by omega) f) hx.1 ?_)
    try simp only [Pv_some, fldV_p, nilV_p, nilV_f, lenV_s, capV_s, lenSV_s, minV_i, maxV_i, strV_s, unV_not, unV_neg, pickV_t, pickV_f, exV_t, cvIV_i, binI_add, binI_sub, binI_mul, binI_eql, binI_neq, binI_lss, binI_leq, binI_gtr, binI_geq, binI_and, binI_or, binB_eql, binB_neq, binS_eql, binS_neq, binP_eql_nil, binP_neq_nil, binN_eql_nil, binN_neq_nil, binN_eql_nn, binN_neq_nn, Br_true, Br_false, Gd_tt, Gd_ft, Gd_tf, Gd_ff, cells_agg, List.getElem?_toArray, List.getElem?_cons_zero, List.getElem?_cons_succ, Nat.zero_add, Nat.add_zero, Nat.zero_mul]
    refine gd_split (fun h1 => ?_) (fun h1 => skip I (Ext.refl I) _)
    simp at h1
    obtain ⟨t', ht'⟩ : ∃ t', termAt (mk3 (gs f)) x.n = (t', 0) := ⟨(termAt (mk3 (gs f)) x.n).1, by rw [← h1]⟩
    rw [ht']
    have hin := termAt_ok ht'
    have hlast := (hm.wf (by omega) f).last
    have hidx : (mk3 (gs f)).index = 0 := rfl
    refine br_split (fun h2 => skip I (Ext.refl I) _) (fun h2 => ?_)
    refine draw (Stay I _) (Stay.start I _) ?_
    simp only [ix3 ba ht, Pv_some]
    refine rd1I (arr_cell ht (memF (Z := [_]) harr)) ?_
    try simp only [Pv_some, fldV_p, nilV_p, nilV_f, lenV_s, capV_s, lenSV_s, minV_i, maxV_i, strV_s, unV_not, unV_neg, pickV_t, pickV_f, exV_t, cvIV_i, binI_add, binI_sub, binI_mul, binI_eql, binI_neq, binI_lss, binI_leq, binI_gtr, binI_geq, binI_and, binI_or, binB_eql, binB_neq, binS_eql, binS_neq, binP_eql_nil, binP_neq_nil, binN_eql_nil, binN_neq_nil, binN_eql_nn, binN_neq_nn, Br_true, Br_false, Gd_tt, Gd_ft, Gd_tf, Gd_ff, cells_agg, List.getElem?_toArray, List.getElem?_cons_zero, List.getElem?_cons_succ, Nat.zero_add, Nat.add_zero, Nat.zero_mul]
    refine rdbS ?_
    refine rd1I (arr_cell hf (memF (Z := [_]) harr)) ?_
    try simp only [Pv_some, fldV_p, nilV_p, nilV_f, lenV_s, capV_s, lenSV_s, minV_i, maxV_i, strV_s, unV_not, unV_neg, pickV_t, pickV_f, exV_t, cvIV_i, binI_add, binI_sub, binI_mul, binI_eql, binI_neq, binI_lss, binI_leq, binI_gtr, binI_geq, binI_and, binI_or, binB_eql, binB_neq, binS_eql, binS_neq, binP_eql_nil, binP_neq_nil, binN_eql_nil, binN_neq_nil, binN_eql_nn, binN_neq_nn, Br_true, Br_false, Gd_tt, Gd_ft, Gd_tf, Gd_ff, cells_agg, List.getElem?_toArray, List.getElem?_cons_zero, List.getElem?_cons_succ, Nat.zero_add, Nat.add_zero, Nat.zero_mul]
    refine rdbS ?_
    simp only [Pv_some, fldV_p, nilV_p, nilV_f, lenV_s, capV_s, lenSV_s, minV_i, maxV_i, strV_s, unV_not, unV_neg, pickV_t, pickV_f, exV_t, cvIV_i, binI_add, binI_sub, binI_mul, binI_eql, binI_neq, binI_lss, binI_leq, binI_gtr, binI_geq, binI_and, binI_or, binB_eql, binB_neq, binS_eql, binS_neq, binP_eql_nil, binP_neq_nil, binN_eql_nil, binN_neq_nil, binN_eql_nn, binN_neq_nn, Br_true, Br_false, Gd_tt, Gd_ft, Gd_tf, Gd_ff, cells_agg, List.getElem?_toArray, List.getElem?_cons_zero, List.getElem?_cons_succ, Nat.zero_add, Nat.add_zero, Nat.zero_mul, wrap_i64 (x.n + 1) (by omega)]
    refine rdbS ?_
    refine call (slice_spec (mview (Ext.refl I) hf (Z := [_])) (hm.wf (by omega) f) (by unfold inI64; omega) hx.2 (fun v I1 hI1 hE => ?_))
    refine keepS hI1 (fun x hx => hx) ?_
    obtain ⟨es, a1, a2⟩ := hm.offer (by omega) f t (many := x.m) ht'
    refine callG (Cal.perm (pickX [_] ht Xs _) ?_)
    have hsl : (sliceAt (mk3 (gs f)) (x.n + 1) x.m).length ≤ (gs f).length := by
      unfold sliceAt
      split
      · rw [List.length_take, List.length_drop]
        show min _ ((gs f).length - _) ≤ _
        omega
      · simp
    have lf := hm.len f
    have lt := hm.len t
    refine offer_spec ((hM.mono hI1).log t ht) (hm.wf (by omega) t) hE hx.1 (by show ((gs t).length + _) * 48 ≤ _; omega) (fun X' I' hI' hR => ?_)
    refine Gh.perm (putX [_] ht Xs X' _) (Gh.done ?_)
    rw [a1] at hR ⊢
    simp only [Pv_some, fldV_p, nilV_p, nilV_f, lenV_s, capV_s, lenSV_s, minV_i, maxV_i, strV_s, unV_not, unV_neg, pickV_t, pickV_f, exV_t, cvIV_i, binI_add, binI_sub, binI_mul, binI_eql, binI_neq, binI_lss, binI_leq, binI_gtr, binI_geq, binI_and, binI_or, binB_eql, binB_neq, binS_eql, binS_neq, binP_eql_nil, binP_neq_nil, binN_eql_nil, binN_neq_nil, binN_eql_nn, binN_neq_nn, Br_true, Br_false, Gd_tt, Gd_ft, Gd_tf, Gd_ff, cells_agg, List.getElem?_toArray, List.getElem?_cons_zero, List.getElem?_cons_succ, Nat.zero_add, Nat.add_zero, Nat.zero_mul, bne_self_eq_false]
    have hM' := hM.upd (hI1.trans hI') hR
    refine br_split (fun h3 => ?_) (fun h3 => ?_)
    · simp at h3
      rw [if_pos h3.symm] at a2
      exact pairs_spec (Z := [_]) a2 (by omega) hM' harr (by omega) (fun I3 hI3 => fin _ _ _ _ LL I3 [_] ((hI1.trans hI').trans hI3) a2.up (hM'.mono hI3))
    · simp at h3
      rw [if_neg (fun e => h3 e.symm)] at a2
      exact pairs_spec (Z := [_]) a2 (by omega) hM' harr (by omega) (fun I3 hI3 => fin _ _ _ _ LL I3 [_] ((hI1.trans hI').trans hI3) a2.up (hM'.mono hI3))

theorem made_ints {F : LH} {K : Value → M} (hk : ∀ u I', Ext I I' → Ints I' u [1, 2, 3] → K u I' F) : BldS 3 1 #[(Value.int .i64 0)] 3 [(0, .int .i64 1), (1, .int .i64 2), (2, .int .i64 3)] (gh K) I F := by
  refine ⟨#[.int .i64 1, .int .i64 2, .int .i64 3], by kernel_rfl, fun b => ?_⟩
  refine SlO.freeze (X := [(b, _)]) (F := F) (T := 3) (n := 1) (len := 3) (cells := i64s [1, 2, 3]) ⟨rfl, .inr ⟨b, 3, _, rfl, rfl, rfl, Nat.le_refl _, fun j u hu => by simpa [i64s] using hu⟩⟩ (fun I' hI' hS => Gh.done (hk _ I' hI' hS))

abbrev Mvs (I : Imm) (v : Value) (ms : List Mv) : Prop := RL MvV 5 I [] v ms

theorem matches_law {v0 : Value} {ms : List Mv} (h0 : Mvs I v0 ms) (hlen : ms.length < 4611686018427387904) (hk : ∀ I' L', Ext I I' → K (.bool true) I' L') : Cal Try.prog ω 3 #[v0] K I L := by
  refine cal3 ?_
  unfold sh3
  refine call (awake_spec (fun I1 hI1 => ?_))
  refine newI (fun ba => ?_)
  have main : ∀ (I2 : Imm) (bs : Nat → Nat) (Xs : Nat → LH), Ext I1 I2 → Mem3 I2 bs Xs (fun _ => []) → sh3_1 ω v0 (.bool false) (.bool true) (.pointer (some ⟨ba, 0, none⟩)) (fun v => Gh (K v)) I2 (catX Xs ((ba, arr bs) :: L)) := fun I2 bs Xs hI2 hM => by
    unfold sh3_1
    refine loop (StL I2 bs ba L ms.length) ms.length ⟨Ext.refl _, 0, 0, -1, _, Xs, _, by omega, rfl, by omega, Mt.start, hM, rfl⟩ ?_
    rintro mm s I' L' ⟨hI', k, T, ld, gs, Xs', LL, hkm, rfl, hk200, hm, hM', rfl⟩
    unfold sh3_4
    simp only [RL.len h0, Pv_some, fldV_p, nilV_p, nilV_f, lenV_s, capV_s, lenSV_s, minV_i, maxV_i, strV_s, unV_not, unV_neg, pickV_t, pickV_f, exV_t, cvIV_i, binI_add, binI_sub, binI_mul, binI_eql, binI_neq, binI_lss, binI_leq, binI_gtr, binI_geq, binI_and, binI_or, binB_eql, binB_neq, binS_eql, binS_neq, binP_eql_nil, binP_neq_nil, binN_eql_nil, binN_neq_nil, binN_eql_nn, binN_neq_nn, Br_true, Br_false, Gd_tt, Gd_ft, Gd_tf, Gd_ff, cells_agg, List.getElem?_toArray, List.getElem?_cons_zero, List.getElem?_cons_succ, Nat.zero_add, Nat.add_zero, Nat.zero_mul]
    refine gd_split (fun hlt => ?_) (fun _ => Gh.done (hk I' _ (hI1.trans (hI2.trans hI'))))
    refine br_split (fun hlt2 => ?_) (fun _ => Gh.done (hk I' _ (hI1.trans (hI2.trans hI'))))
    simp at hlt hlt2
    obtain ⟨b1, off1, c1, hix1, hcl1, ⟨rfl, hx⟩, hc1⟩ := RL.ix h0 (i := k) (by omega) (by omega)
    simp only [hix1, Pv_some, fldV_p, nilV_p, nilV_f, lenV_s, capV_s, lenSV_s, minV_i, maxV_i, strV_s, unV_not, unV_neg, pickV_t, pickV_f, exV_t, cvIV_i, binI_add, binI_sub, binI_mul, binI_eql, binI_neq, binI_lss, binI_leq, binI_gtr, binI_geq, binI_and, binI_or, binB_eql, binB_neq, binS_eql, binS_neq, binP_eql_nil, binP_neq_nil, binN_eql_nil, binN_neq_nil, binN_eql_nn, binN_neq_nn, Br_true, Br_false, Gd_tt, Gd_ft, Gd_tf, Gd_ff, cells_agg, List.getElem?_toArray, List.getElem?_cons_zero, List.getElem?_cons_succ, Nat.zero_add, Nat.add_zero, Nat.zero_mul]
    refine rdN hcl1 (hc1 I' _ (hI1.trans (hI2.trans hI')) (fun _ h => by cases h)) ?_
    refine newI (fun be => ?_)
    refine stB rfl rfl (one_all rfl) ?_
    have st : ∀ f t : Nat, f < 3 → t < 3 → sh3_8 ω (.bool false) (.pointer (some ⟨ba, 0, none⟩)) (.int .i64 T) (.int .i64 ld) (.int .i64 k) (.pointer (some ⟨be, 0, none⟩)) (.int .i64 f) (.int .i64 t) (fun s' => Gh fun I3 L3 => ∃ m', m' < mm ∧ StL I2 bs ba L ms.length m' s' I3 L3) (fun v => Gh (K v)) I'
      ((be, Obj.cells #[.int .i64 (geti ms (k : Int)).d, .int .i64 (geti ms (k : Int)).a, .int .i64 (geti ms (k : Int)).b, .int .i64 (geti ms (k : Int)).n, .int .i64 (geti ms (k : Int)).m] 31 (0, 0)) :: catX Xs' ((ba, arr bs) :: L)) := fun f t hf ht =>
        move_spec hf ht hkm (by omega) (by omega) hm hM' hI' hx
    have st7 : ∀ f : Nat, f < 3 → sh3_7 ω (.bool false) (.pointer (some ⟨ba, 0, none⟩)) (.int .i64 T) (.int .i64 ld) (.int .i64 k) (.pointer (some ⟨be, 0, none⟩)) (.int .i64 f) (fun s' => Gh fun I3 L3 => ∃ m', m' < mm ∧ StL I2 bs ba L ms.length m' s' I3 L3) (fun v => Gh (K v)) I'
      ((be, Obj.cells #[.int .i64 (geti ms (k : Int)).d, .int .i64 (geti ms (k : Int)).a, .int .i64 (geti ms (k : Int)).b, .int .i64 (geti ms (k : Int)).n, .int .i64 (geti ms (k : Int)).m] 31 (0, 0)) :: catX Xs' ((ba, arr bs) :: L)) := fun f hf => by
      unfold sh3_7
      try simp only [Pv_some, fldV_p, nilV_p, nilV_f, lenV_s, capV_s, lenSV_s, minV_i, maxV_i, strV_s, unV_not, unV_neg, pickV_t, pickV_f, exV_t, cvIV_i, binI_add, binI_sub, binI_mul, binI_eql, binI_neq, binI_lss, binI_leq, binI_gtr, binI_geq, binI_and, binI_or, binB_eql, binB_neq, binS_eql, binS_neq, binP_eql_nil, binP_neq_nil, binN_eql_nil, binN_neq_nil, binN_eql_nn, binN_neq_nn, Br_true, Br_false, Gd_tt, Gd_ft, Gd_tf, Gd_ff, cells_agg, List.getElem?_toArray, List.getElem?_cons_zero, List.getElem?_cons_succ, Nat.zero_add, Nat.add_zero, Nat.zero_mul]
      refine rdb ?_
      obtain ⟨t, ht, e⟩ := and_one (geti ms (k : Int)).b
      simp only [Pv_some, fldV_p, nilV_p, nilV_f, lenV_s, capV_s, lenSV_s, minV_i, maxV_i, strV_s, unV_not, unV_neg, pickV_t, pickV_f, exV_t, cvIV_i, binI_add, binI_sub, binI_mul, binI_eql, binI_neq, binI_lss, binI_leq, binI_gtr, binI_geq, binI_and, binI_or, binB_eql, binB_neq, binS_eql, binS_neq, binP_eql_nil, binP_neq_nil, binN_eql_nil, binN_neq_nil, binN_eql_nn, binN_neq_nn, Br_true, Br_false, Gd_tt, Gd_ft, Gd_tf, Gd_ff, cells_agg, List.getElem?_toArray, List.getElem?_cons_zero, List.getElem?_cons_succ, Nat.zero_add, Nat.add_zero, Nat.zero_mul, e]
      refine rdb ?_
      try simp only [Pv_some, fldV_p, nilV_p, nilV_f, lenV_s, capV_s, lenSV_s, minV_i, maxV_i, strV_s, unV_not, unV_neg, pickV_t, pickV_f, exV_t, cvIV_i, binI_add, binI_sub, binI_mul, binI_eql, binI_neq, binI_lss, binI_leq, binI_gtr, binI_geq, binI_and, binI_or, binB_eql, binB_neq, binS_eql, binS_neq, binP_eql_nil, binP_neq_nil, binN_eql_nil, binN_neq_nil, binN_eql_nn, binN_neq_nn, Br_true, Br_false, Gd_tt, Gd_ft, Gd_tf, Gd_ff, cells_agg, List.getElem?_toArray, List.getElem?_cons_zero, List.getElem?_cons_succ, Nat.zero_add, Nat.add_zero, Nat.zero_mul]
      refine br_split (fun _ => st f 2 hf (by omega)) (fun _ => st f t hf (by omega))
    try simp only [Pv_some, fldV_p, nilV_p, nilV_f, lenV_s, capV_s, lenSV_s, minV_i, maxV_i, strV_s, unV_not, unV_neg, pickV_t, pickV_f, exV_t, cvIV_i, binI_add, binI_sub, binI_mul, binI_eql, binI_neq, binI_lss, binI_leq, binI_gtr, binI_geq, binI_and, binI_or, binB_eql, binB_neq, binS_eql, binS_neq, binP_eql_nil, binP_neq_nil, binN_eql_nil, binN_neq_nil, binN_eql_nn, binN_neq_nn, Br_true, Br_false, Gd_tt, Gd_ft, Gd_tf, Gd_ff, cells_agg, List.getElem?_toArray, List.getElem?_cons_zero, List.getElem?_cons_succ, Nat.zero_add, Nat.add_zero, Nat.zero_mul]
    refine rdb ?_
    obtain ⟨f, hf, e⟩ := and_one (geti ms (k : Int)).a
    simp only [Pv_some, fldV_p, nilV_p, nilV_f, lenV_s, capV_s, lenSV_s, minV_i, maxV_i, strV_s, unV_not, unV_neg, pickV_t, pickV_f, exV_t, cvIV_i, binI_add, binI_sub, binI_mul, binI_eql, binI_neq, binI_lss, binI_leq, binI_gtr, binI_geq, binI_and, binI_or, binB_eql, binB_neq, binS_eql, binS_neq, binP_eql_nil, binP_neq_nil, binN_eql_nil, binN_neq_nil, binN_eql_nn, binN_neq_nn, Br_true, Br_false, Gd_tt, Gd_ft, Gd_tf, Gd_ff, cells_agg, List.getElem?_toArray, List.getElem?_cons_zero, List.getElem?_cons_succ, Nat.zero_add, Nat.add_zero, Nat.zero_mul, e]
    refine rdb ?_
    try simp only [Pv_some, fldV_p, nilV_p, nilV_f, lenV_s, capV_s, lenSV_s, minV_i, maxV_i, strV_s, unV_not, unV_neg, pickV_t, pickV_f, exV_t, cvIV_i, binI_add, binI_sub, binI_mul, binI_eql, binI_neq, binI_lss, binI_leq, binI_gtr, binI_geq, binI_and, binI_or, binB_eql, binB_neq, binS_eql, binS_neq, binP_eql_nil, binP_neq_nil, binN_eql_nil, binN_neq_nil, binN_eql_nn, binN_neq_nn, Br_true, Br_false, Gd_tt, Gd_ft, Gd_tf, Gd_ff, cells_agg, List.getElem?_toArray, List.getElem?_cons_zero, List.getElem?_cons_succ, Nat.zero_add, Nat.add_zero, Nat.zero_mul]
    refine br_split (fun _ => st7 2 (by omega)) (fun _ => st7 f (by omega))
  refine loop (fun m s I' L' => Ext I1 I' ∧ ∃ (k : Nat) (bs : Nat → Nat) (Xs : Nat → LH), k + m = 3 ∧ s = ((Value.bool false, Value.int .i64 k, ()) : Value × Value × Unit) ∧ (∀ j, j < k → LogR I' (bs j) (Xs j) (mk3 [])) ∧ (∀ j, k ≤ j → Xs j = []) ∧
      L' = catX Xs ((ba, .cells #[if 0 < k then pt (bs 0) else .pointer none, if 1 < k then pt (bs 1) else .pointer none, if 2 < k then pt (bs 2) else .pointer none] 25 (0, 0)) :: L)) 3
    ⟨Ext.refl _, 0, fun _ => 0, fun _ => [], rfl, rfl, fun j hj => by omega, fun _ _ => rfl, rfl⟩ ?_
  rintro m s I' L' ⟨hI', k, bs, Xs, hkm, rfl, hb, hn, rfl⟩
  unfold sh3_21
  try simp only [Pv_some, fldV_p, nilV_p, nilV_f, lenV_s, capV_s, lenSV_s, minV_i, maxV_i, strV_s, unV_not, unV_neg, pickV_t, pickV_f, exV_t, cvIV_i, binI_add, binI_sub, binI_mul, binI_eql, binI_neq, binI_lss, binI_leq, binI_gtr, binI_geq, binI_and, binI_or, binB_eql, binB_neq, binS_eql, binS_neq, binP_eql_nil, binP_neq_nil, binN_eql_nil, binN_neq_nil, binN_eql_nn, binN_neq_nn, Br_true, Br_false, Gd_tt, Gd_ft, Gd_tf, Gd_ff, cells_agg, List.getElem?_toArray, List.getElem?_cons_zero, List.getElem?_cons_succ, Nat.zero_add, Nat.add_zero, Nat.zero_mul]
  refine br_split (fun hlt => ?_) (fun hlt => ?_)
  · simp at hlt
    refine made_ints (fun u I2 hI2 hu => ?_)
    refine call (new_spec hu (fun hb => by simp [memB, risB] at hb) (fun _ b X I3 hI3 hR => ?_))
    simp only [Pv_some, fldV_p, nilV_p, nilV_f, lenV_s, capV_s, lenSV_s, minV_i, maxV_i, strV_s, unV_not, unV_neg, pickV_t, pickV_f, exV_t, cvIV_i, binI_add, binI_sub, binI_mul, binI_eql, binI_neq, binI_lss, binI_leq, binI_gtr, binI_geq, binI_and, binI_or, binB_eql, binB_neq, binS_eql, binS_neq, binP_eql_nil, binP_neq_nil, binN_eql_nil, binN_neq_nil, binN_eql_nn, binN_neq_nn, Br_true, Br_false, Gd_tt, Gd_ft, Gd_tf, Gd_ff, cells_agg, List.getElem?_toArray, List.getElem?_cons_zero, List.getElem?_cons_succ, Nat.zero_add, Nat.add_zero, Nat.zero_mul, bne_self_eq_false]
    have h30 : ∀ j, j < k + 1 → LogR I3 ((fun j => if j = k then b else bs j) j) (updX Xs k X j) (mk3 []) := fun j hj => by
      unfold updX
      by_cases e : j = k
      · subst e; simp only [if_true]; exact hR
      · simp only [if_neg e]; exact (hb j (by omega)).mono (hI2.trans hI3)
    have hn' : ∀ j, k + 1 ≤ j → updX Xs k X j = [] := fun j hj => by
      unfold updX
      rw [if_neg (by omega)]
      exact hn j (by omega)
    have hz := hn k (Nat.le_refl _)
    have hk3 : k < 3 := by omega
    have hput := fun F => putX [] hk3 Xs X F
    simp only [List.nil_append] at hput
    simp only [wrap_i64 ((k : Int) + 1) (by omega)]
    have next : ∀ (L3 : LH), L3.Perm (catX (updX Xs k X) ((ba, .cells #[if 0 < k + 1 then pt ((fun j => if j = k then b else bs j) 0) else .pointer none, if 1 < k + 1 then pt ((fun j => if j = k then b else bs j) 1) else .pointer none, if 2 < k + 1 then pt ((fun j => if j = k then b else bs j) 2) else .pointer none] 25 (0, 0)) :: L)) → Gh (fun I2' L2 => ∃ m', m' < m ∧ Ext I1 I2' ∧ ∃ (k' : Nat) (bs : Nat → Nat) (Xs : Nat → LH), k' + m' = 3 ∧ ((Value.bool false, Value.int .i64 ((k : Int) + 1), ()) : Value × Value × Unit) = ((Value.bool false, Value.int .i64 k', ()) : Value × Value × Unit) ∧ (∀ j, j < k' → LogR I2' (bs j) (Xs j) (mk3 [])) ∧ (∀ j, k' ≤ j → Xs j = []) ∧
      L2 = catX Xs ((ba, .cells #[if 0 < k' then pt (bs 0) else .pointer none, if 1 < k' then pt (bs 1) else .pointer none, if 2 < k' then pt (bs 2) else .pointer none] 25 (0, 0)) :: L)) I3 L3 := fun L3 hp => by
      refine Gh.perm hp (Gh.done ?_)
      exact ⟨m - 1, by omega, (hI'.trans hI2).trans hI3, k + 1, _, _, by omega, by simp, h30, hn', rfl⟩
    match k, hk3 with
    | 0, _ =>
      simp only [show ixPV 1 3 (.pointer (some ⟨ba, 0, none⟩)) (.int .i64 ((0 : Nat) : Int)) = some (.pointer (some ⟨ba, 0, none⟩)) from rfl, Pv_some]
      unfold catX
      refine st1 rfl ?_
      refine next _ (List.Perm.trans (List.Perm.of_eq ?_) (hput _))
      simp [catR, hz, pt]
    | 1, _ =>
      simp only [show ixPV 1 3 (.pointer (some ⟨ba, 0, none⟩)) (.int .i64 ((1 : Nat) : Int)) = some (.pointer (some ⟨ba, 1, none⟩)) from rfl, Pv_some]
      unfold catX
      refine st1 rfl ?_
      refine next _ (List.Perm.trans (List.Perm.of_eq ?_) (hput _))
      simp [catR, hz, pt]
    | 2, _ =>
      simp only [show ixPV 1 3 (.pointer (some ⟨ba, 0, none⟩)) (.int .i64 ((2 : Nat) : Int)) = some (.pointer (some ⟨ba, 2, none⟩)) from rfl, Pv_some]
      unfold catX
      refine st1 rfl ?_
      refine next _ (List.Perm.trans (List.Perm.of_eq ?_) (hput _))
      simp [catR, hz, pt]
  · simp at hlt
    have : k = 3 := by omega
    subst this
    simp only [show (0 < 3) = True from by simp, show (1 < 3) = True from by simp, show (2 < 3) = True from by simp, if_true]
    refine main I' bs Xs hI' ⟨fun j hj => hb j hj⟩

end
end Go.Proofs.Ytdcpeboecmkmlaa
