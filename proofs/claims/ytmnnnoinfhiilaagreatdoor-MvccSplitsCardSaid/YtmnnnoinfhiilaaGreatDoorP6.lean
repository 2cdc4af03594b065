/-
  Lemmas, part 6: laid together by a program.
-/
import Derived.Test.YtmnnnoinfhiilaaGreatDoorP5
-- S3
set_option linter.unusedSimpArgs false
set_option linter.unusedVariables false
namespace Go.Proofs.YtmnnnoinfhiilaaGreatDoor
open Go.SL
set_option maxRecDepth 10000
/-! ### Keys, merged -/
def pushK (out : List (List UInt8)) (x : List UInt8) : List (List UInt8) := if out.getLast? = some x then out else out ++ [x]
def mrgK : Nat → List (List UInt8) → List (List UInt8) → List (List UInt8) → List (List UInt8)
  | 0, _, _, out => out
  | _ + 1, [], [], out => out
  | n + 1, x :: a, [], out => mrgK n a [] (pushK out x)
  | n + 1, [], y :: b, out => mrgK n [] b (pushK out y)
  | n + 1, x :: a, y :: b, out => if (blt x y || x == y) = true then mrgK n a (y :: b) (pushK out x) else mrgK n (x :: a) b (pushK out y)
theorem mrgK_same {k : List UInt8} {a b : List (List UInt8)} (ha : ∀ x ∈ a, blt k x = true) (hb : ∀ x ∈ b, blt k x = true) : ∀ (n e N : Nat) (out : List (List UInt8)), out.getLast? = some k →
    mrgK (n + e + N) (List.replicate n k ++ a) (List.replicate e k ++ b) out = mrgK N a b out
  | 0, 0, N, out, _ => by simp
  | 0, e + 1, N, out, h => by
    have hp : pushK out k = out := if_pos h
    have ih := mrgK_same ha hb 0 e N out h
    rw [show 0 + (e + 1) + N = (0 + e + N) + 1 by omega, List.replicate_succ]
    simp only [List.replicate_zero, List.nil_append, List.cons_append] at ih ⊢
    cases a with
    | nil => simp only [mrgK, hp]; exact ih
    | cons x a =>
      have hx := ha x (List.mem_cons_self ..)
      simp only [mrgK, hp]
      rw [if_neg (by rw [blt_asymm hx]; simpa using blt_ne' hx)]
      exact ih
  | n + 1, 0, N, out, h => by
    have hp : pushK out k = out := if_pos h
    have ih := mrgK_same ha hb n 0 N out h
    rw [show n + 1 + 0 + N = (n + 0 + N) + 1 by omega, List.replicate_succ]
    simp only [List.replicate_zero, List.nil_append, List.cons_append] at ih ⊢
    cases b with
    | nil => simp only [mrgK, hp]; exact ih
    | cons y b =>
      have hy := hb y (List.mem_cons_self ..)
      simp only [mrgK, hp]
      rw [if_pos (by rw [hy]; rfl)]
      exact ih
  | n + 1, e + 1, N, out, h => by
    have hp : pushK out k = out := if_pos h
    have ih := mrgK_same ha hb n (e + 1) N out h
    rw [show n + 1 + (e + 1) + N = (n + (e + 1) + N) + 1 by omega, List.replicate_succ]
    rw [List.replicate_succ] at ih ⊢
    simp only [List.cons_append] at ih ⊢
    simp only [mrgK, hp]
    rw [if_pos (by simp)]
    exact ih
theorem mrgK_new {k : List UInt8} {a b : List (List UInt8)} (ha : ∀ x ∈ a, blt k x = true) (hb : ∀ x ∈ b, blt k x = true) (n e N : Nat) (out : List (List UInt8)) (h : out.getLast? ≠ some k) (h0 : 0 < n + e) :
    mrgK (n + e + N) (List.replicate n k ++ a) (List.replicate e k ++ b) out = mrgK N a b (out ++ [k]) := by
  have hp : pushK out k = out ++ [k] := if_neg h
  have hl : (out ++ [k]).getLast? = some k := by simp
  match n, e, h0 with
  | 0, e + 1, _ =>
    have ih := mrgK_same ha hb 0 e N (out ++ [k]) hl
    rw [show 0 + (e + 1) + N = (0 + e + N) + 1 by omega, List.replicate_succ]
    simp only [List.replicate_zero, List.nil_append, List.cons_append] at ih ⊢
    cases a with
    | nil => simp only [mrgK, hp]; exact ih
    | cons x a =>
      have hx := ha x (List.mem_cons_self ..)
      simp only [mrgK, hp]
      rw [if_neg (by rw [blt_asymm hx]; simpa using blt_ne' hx)]
      exact ih
  | n + 1, 0, _ =>
    have ih := mrgK_same ha hb n 0 N (out ++ [k]) hl
    rw [show n + 1 + 0 + N = (n + 0 + N) + 1 by omega, List.replicate_succ]
    simp only [List.replicate_zero, List.nil_append, List.cons_append] at ih ⊢
    cases b with
    | nil => simp only [mrgK, hp]; exact ih
    | cons y b =>
      have hy := hb y (List.mem_cons_self ..)
      simp only [mrgK, hp]
      rw [if_pos (by rw [hy]; rfl)]
      exact ih
  | n + 1, e + 1, _ =>
    have ih := mrgK_same ha hb n (e + 1) N (out ++ [k]) hl
    rw [show n + 1 + (e + 1) + N = (n + (e + 1) + N) + 1 by omega, List.replicate_succ]
    rw [List.replicate_succ] at ih ⊢
    simp only [List.cons_append] at ih ⊢
    simp only [mrgK, hp]
    rw [if_pos (by simp)]
    exact ih
def vKeys (rows : List Row) : List (List UInt8) := (versOf rows).map (·.fKey)
def iKeys (rows : List Row) : List (List UInt8) := (intsOf rows).map (·.fKey)
theorem vKeys_cons (r : Row) (rs : List Row) : vKeys (r :: rs) = List.replicate r.vs.length r.key ++ vKeys rs := by
  unfold vKeys
  rw [versOf_cons, List.map_append, List.map_map]
  congr 1
  exact List.eq_replicate_iff.2 ⟨by simp, fun b hb => by
    obtain ⟨v, _, rfl⟩ := List.mem_map.1 hb; rfl⟩
theorem iKeys_cons (r : Row) (rs : List Row) : iKeys (r :: rs) = List.replicate (if r.it.txn = 0 then 0 else 1) r.key ++ iKeys rs := by
  unfold iKeys
  rw [intsOf_cons, List.map_append]
  congr 1
  by_cases h : r.it.txn = 0 <;> simp [h, itF]
theorem mrgK_rows : ∀ {rows : List Row} {out : List (List UInt8)}, SrtK (keysOf rows) → (∀ r ∈ rows, emptyB r = false) → (∀ l, out.getLast? = some l → ∀ r ∈ rows, blt l r.key = true) →
    mrgK ((vKeys rows).length + (iKeys rows).length) (vKeys rows) (iKeys rows) out = out ++ keysOf rows
  | [], out, _, _, _ => by simp [vKeys, iKeys, versOf, intsOf, keysOf, mrgK]
  | r :: rs, out, hs, he, hl => by
    obtain ⟨h1, h2⟩ := List.pairwise_cons.1 (show List.Pairwise _ (r.key :: keysOf rs) from hs)
    have ih := mrgK_rows (rows := rs) (out := out ++ [r.key]) h2 (fun x hx => he x (List.mem_cons_of_mem _ hx)) (fun l hl' x hx => by
      simp at hl'; subst hl'; exact h1 _ (List.mem_map_of_mem hx))
    rw [vKeys_cons, iKeys_cons, List.length_append, List.length_append, List.length_replicate, List.length_replicate]
    have hv : ∀ x ∈ vKeys rs, blt r.key x = true := fun x hx => by
      obtain ⟨u, hu, rfl⟩ := List.mem_map.1 hx
      obtain ⟨y, hy, e, _⟩ := vers_key hu
      rw [e]; exact h1 _ (List.mem_map_of_mem hy)
    have hi : ∀ x ∈ iKeys rs, blt r.key x = true := fun x hx => by
      obtain ⟨u, hu, rfl⟩ := List.mem_map.1 hx
      obtain ⟨y, hy, e⟩ := ints_key hu
      rw [e]; exact h1 _ (List.mem_map_of_mem hy)
    have hne : 0 < r.vs.length + (if r.it.txn = 0 then 0 else 1) := by
      have := he r (List.mem_cons_self ..)
      by_cases h : r.it.txn = 0
      · rw [if_pos h]
        cases hvs : r.vs with
        | nil => simp [emptyB, hvs, h] at this
        | cons v l => simp
      · rw [if_neg h]; omega
    have := mrgK_new hv hi r.vs.length (if r.it.txn = 0 then 0 else 1) ((vKeys rs).length + (iKeys rs).length) out (fun e => by
      have := hl _ e r (List.mem_cons_self ..)
      rw [blt_irrefl] at this; cases this) hne
    rw [show r.vs.length + (vKeys rs).length + ((if r.it.txn = 0 then 0 else 1) + (iKeys rs).length) = r.vs.length + (if r.it.txn = 0 then 0 else 1) + ((vKeys rs).length + (iKeys rs).length) by omega, this, ih]
    simp [keysOf]
section
variable {ω : Om} {I : Imm} {L : LH} {K : Value → M}
theorem rget_spec {L0 : LH} [LSub L0 L] {b : Nat} {vV vI a : Value} {sp : Sp} {m : TStamp} {k : List UInt8} {txn : Int} (hR : RefF I L0 b vV vI (versOf sp.rows) (intsOf sp.rows) sp.floor) (hok : SpOk sp) (hB : Bytes I a k) (hlen : sp.rows.length ≤ 100000000) (hn : versN sp.rows ≤ 100000000)
    (hk : ∀ v0, Bytes I v0 (getF sp k m txn).1.fValue → K (.tuple #[gvV (getF sp k m txn).1 v0, .int .i64 (getF sp k m txn).2]) I L) :
    Cal Tryz.prog ω 20 #[pt b, a, sv m, .int .i64 txn] K I L := by
  have hz : ∀ I', Bytes I' (.slice none 0 0) [] := fun I' => SlI.nil I' 1 none 0
  refine cal20 ?_
  unfold sh20
  refine newI (fun b1 => newI (fun b2 => ?_))
  refine call (riskey_spec hB ?_)
  refine rdB rfl ?_
  refine call (rright_spec (x := m) ?_)
  refine call (rreader_spec ?_)
  have bad : ∀ (hb : keyOk k = false ∨ (rightB m && readerB txn) = false), sh20_1 ω (pt b2) (.int .i64 0) (fun v => Gh (K v)) I ((b2, gotO) :: (b1, .cells #[.int .i64 m.fWall, .int .i64 m.fLogic] 30 (0, 0)) :: L) := by
    intro hb
    have eg : getF sp k m txn = (gotN, 1) := by unfold getF; rw [if_pos hb]
    rw [eg] at hk
    unfold sh20_1
    repeat' (first | (with_reducible refine drawC ?_) | (with_reducible refine drawW1 ?_) | (with_reducible refine drawW2 ?_) | (with_reducible refine keepC (by repeat (first | exact Ext.refl _ | assumption | refine Ext.trans ?_ (by assumption))) ?_) | (with_reducible refine newI (fun _ => ?_)) | first | (with_reducible refine rdb ?_) | ((with_reducible refine st1 ?_ ?_); rfl) | ((with_reducible refine rdB ?_ ?_); rfl) | (with_reducible refine rdbS ?_) | ((with_reducible refine rdBS ?_ ?_); rfl) | ((with_reducible refine stB ?_ ?_ ?_ ?_); rfl; rfl; exact one_all rfl) | ((with_reducible refine rdP _ rfl ?_ ?_); rfl) | ((with_reducible refine rdPS _ rfl ?_ ?_); rfl) | ((with_reducible refine stP _ rfl ?_ ?_ ?_ ?_); rfl; rfl; rfl) | (with_reducible refine unfE (sh20_1.eq_1 ..) ?_) | (with_reducible refine unfE (sh20_2.eq_1 ..) ?_) | (with_reducible refine unfE (sh20.eq_1 ..) ?_) | (with_reducible refine And.intro ?_ ?_) | (simp only [Bool.not_true, Bool.not_false, Bool.and_self, Bool.true_and, Int.reduceBEq, Int.reduceBNe, Int.reduceLT, Int.reduceLE, decide_true, decide_false, Br_true, Br_false, Gd_tt, Gd_ft, Gd_tf, Gd_ff, beq_self_eq_true, bne_self_eq_false]) | (with_reducible refine gd_split (fun _ => ?_) (fun _ => ?_)) | (with_reducible refine br_split (fun _ => ?_) (fun _ => ?_)) | (simp only [SSd, Nat.reduceAdd]))
    exact Gh.to L (Gh.done (hk _ (hz I)))
  try simp only [SSd, Nat.reduceAdd]
  refine gd_split (fun e => ?_) (fun e => bad (.inl (by simpa using e)))
  have k1 : keyOk k = true := by simpa using e
  try simp only [SSd, Nat.reduceAdd]
  refine gd_split (fun e => ?_) (fun e => bad (.inr (by have : rightB m = false := by simpa using e
                                                        rw [this]; rfl)))
  have k2 : rightB m = true := by simpa using e
  try simp only [SSd, Nat.reduceAdd]
  refine br_split (fun e => bad (.inr (by have : readerB txn = false := by simpa using e
                                          rw [this]; simp))) (fun e => ?_)
  have k3 : readerB txn = true := by simpa using e
  have hf : ¬ (keyOk k = false ∨ (rightB m && readerB txn) = false) := by rw [k1, k2, k3]; simp
  have hc2 : Cells I L0 b 2 [.int .i64 sp.floor.fWall, .int .i64 sp.floor.fLogic] := by simpa using hR.head.sub (k := 2) (m := 2)
  refine drawC ?_
  try simp only [SSd, Nat.reduceAdd]
  refine rdNCS hc2 (Ext.refl _) rfl ?_
  refine rdBS rfl ?_
  refine call (rbehind_spec (x := sp.floor) (y := m) ?_)
  refine br_split (fun e2 => ?_) (fun e2 => ?_)
  · have eg : getF sp k m txn = (gotN, 131) := by unfold getF; rw [if_neg hf, if_pos e2]
    rw [eg] at hk
    unfold sh20_2
    repeat' (first | (with_reducible refine drawC ?_) | (with_reducible refine drawW1 ?_) | (with_reducible refine drawW2 ?_) | (with_reducible refine keepC (by repeat (first | exact Ext.refl _ | assumption | refine Ext.trans ?_ (by assumption))) ?_) | (with_reducible refine newI (fun _ => ?_)) | first | (with_reducible refine rdb ?_) | ((with_reducible refine st1 ?_ ?_); rfl) | ((with_reducible refine rdB ?_ ?_); rfl) | (with_reducible refine rdbS ?_) | ((with_reducible refine rdBS ?_ ?_); rfl) | ((with_reducible refine stB ?_ ?_ ?_ ?_); rfl; rfl; exact one_all rfl) | ((with_reducible refine rdP _ rfl ?_ ?_); rfl) | ((with_reducible refine rdPS _ rfl ?_ ?_); rfl) | ((with_reducible refine stP _ rfl ?_ ?_ ?_ ?_); rfl; rfl; rfl) | (with_reducible refine unfE (sh20_1.eq_1 ..) ?_) | (with_reducible refine unfE (sh20_2.eq_1 ..) ?_) | (with_reducible refine unfE (sh20.eq_1 ..) ?_) | (with_reducible refine And.intro ?_ ?_) | (simp only [Bool.not_true, Bool.not_false, Bool.and_self, Bool.true_and, Int.reduceBEq, Int.reduceBNe, Int.reduceLT, Int.reduceLE, decide_true, decide_false, Br_true, Br_false, Gd_tt, Gd_ft, Gd_tf, Gd_ff, beq_self_eq_true, bne_self_eq_false]) | (with_reducible refine gd_split (fun _ => ?_) (fun _ => ?_)) | (with_reducible refine br_split (fun _ => ?_) (fun _ => ?_)) | (simp only [SSd, Nat.reduceAdd]))
    exact Gh.to L (Gh.done (hk _ (hz I)))
  · have eg : getF sp k m txn = getR sp.rows k m txn := by unfold getF getR; rw [if_neg hf, if_neg (by rw [e2]; simp)]; cases rowOf sp.rows k <;> rfl
    rw [eg] at hk
    refine rdB rfl ?_
    refine call (rread_spec (L0 := L0) hR hok hB hlen hn (fun v0 h0 => ?_))
    obtain ⟨wa, wc, rfl⟩ := Bytes.form h0
    try simp only [SSd, Nat.reduceAdd]
    refine newI (fun b3 => ?_)
    refine stB rfl rfl (one_all rfl) ?_
    refine rdB rfl ?_
    refine stB rfl rfl (one_all rfl) ?_
    refine rdB rfl ?_
    exact Gh.to L (Gh.done (hk _ h0))
theorem push_spec {X F : LH} {v p4 p5 : Value} {out : List (List UInt8)} {key : List UInt8} {Kn0 : (Value × Value × Value × Unit) → M} (h : StrO X v out) (hl : out.length ≤ 1000000000) (hk : ∀ X' v', StrO X' v' (pushK out key) → Gh (Kn0 (v', p4, p5, ())) I (X' ++ F)) :
    sh68_3 ω v p4 p5 (sstr key) (fun s => Gh (Kn0 s)) (fun v => Gh (K v)) I (X ++ F) := by
  have app : ∀ (hn : out.getLast? ≠ some key), sh68_4 ω v p4 p5 (sstr key) (fun s => Gh (Kn0 s)) (fun v => Gh (K v)) I (X ++ F) := by
    intro hn
    have hp : pushK out key = out ++ [key] := if_neg hn
    rw [hp] at hk
    unfold sh68_4
    refine bld_one rfl (by omega) rfl (fun X1 u hX1 => ?_)
    refine app_ownG (X := X) (news := [sstr key]) rfl h (by simpa [Value.cells] using hX1.news (fun x hx => List.mem_append_left _ hx)) (one_all rfl) (by omega) (by omega) (fun X' v' hX' => ?_)
    have hS : StrO X' v' (out ++ [key]) := by
      unfold StrO
      have e : strs (out ++ [key]) = strs out ++ [sstr key] := by simp [strs]
      rw [e, List.length_append]
      exact hX'
    exact Gh.to (X' ++ F) (Gh.done (hk X' v' hS))
  obtain ⟨sa, sc, rfl⟩ := h.form
  unfold sh68_3
  try simp only [SSd, Nat.reduceAdd]
  cases hgl : out.getLast? with
  | none =>
    have h0 : out = [] := List.getLast?_eq_none_iff.1 hgl
    have e : (((out.length : Nat) : Int) == 0) = true := by rw [h0]; rfl
    simp only [e, SSd, Nat.reduceAdd]
    exact app (by rw [hgl]; simp)
  | some l =>
    obtain ⟨h0, hlx⟩ := last_ix hgl
    have e : (((out.length : Nat) : Int) == 0) = false := by simp; intro h; rw [h] at h0; simp at h0
    simp only [e, SSd, Nat.reduceAdd]
    rw [wrap_i64 _ (by omega)]
    have el : ((out.length : Nat) : Int) - 1 = ((out.length - 1 : Nat) : Int) := by omega
    rw [el]
    obtain ⟨q, off, c, hix, hcl, hc, hcc⟩ := RL.ix (StrO.rl (I := I) (L := X) h (fun _ h => h)) (i := ((out.length - 1 : Nat) : Int)) (by omega) (by omega)
    obtain rfl : c = _ := hc
    rw [hlx] at hcc
    simp only [hix, SSd, Nat.reduceAdd]
    refine rdC (hcc I X (Ext.refl _) (fun _ h => h) 0 _ rfl) (Ext.refl _) ?_
    simp only [sNe, SSd, Nat.reduceAdd]
    refine br_split (fun e2 => app (by rw [hgl]; simpa using e2)) (fun e2 => ?_)
    have e2' : l = key := by simpa using e2
    have hp : pushK out key = out := if_pos (by rw [hgl, e2'])
    rw [hp] at hk
    exact hk X _ h
theorem rkeys_spec {L0 : LH} [LSub L0 L] {b : Nat} {vV vI : Value} {V : List TVersion} {Is : List TIntent} {fl : TStamp} (hR : RefF I L0 b vV vI V Is fl) (hlV : V.length ≤ 400000000) (hlI : Is.length ≤ 400000000)
    (hk : ∀ X v, StrO X v (mrgK (V.length + Is.length) (V.map (·.fKey)) (Is.map (·.fKey)) []) → K v I (X ++ L)) :
    Cal Tryz.prog ω 68 #[pt b] K I L := by
  refine cal68 ?_
  unfold sh68
  refine loop (fun n s I' L' => I' = I ∧ ∃ (i j : Nat) (out : List (List UInt8)) (X : LH) (v : Value), n + i + j = V.length + Is.length ∧ i ≤ V.length ∧ j ≤ Is.length ∧ s = (v, .int .i64 i, .int .i64 j, ()) ∧ L' = X ++ L ∧ StrO X v out ∧ out.length ≤ i + j ∧
      mrgK n ((V.map (·.fKey)).drop i) ((Is.map (·.fKey)).drop j) out = mrgK (V.length + Is.length) (V.map (·.fKey)) (Is.map (·.fKey)) []) (V.length + Is.length) ⟨rfl, 0, 0, [], [], _, by omega, by omega, by omega, rfl, rfl, SlO.none _ 1, by simp, rfl⟩ ?_
  rintro n s I' L' ⟨rfl, i, j, out, X, v, hn, hi, hj, rfl, rfl, hX, hol, hm⟩
  have hVl : (V.map (·.fKey)).length = V.length := by simp
  have hIl : (Is.map (·.fKey)).length = Is.length := by simp
  have hpl : ∀ key, (pushK out key).length ≤ out.length + 1 := fun key => by unfold pushK; split <;> simp
  -- a version's key
  have two : ∀ (hiv : i < V.length), (Is.length ≤ j ∨ ∃ hji : j < Is.length, (blt V[i].fKey Is[j].fKey || V[i].fKey == Is[j].fKey) = true) → sh68_2 ω (pt b) v (.int .i64 i) (.int .i64 j) (.string (ByteArray.mk #[])) (fun s' => Gh fun I2 L2 => ∃ m', m' < n ∧ I2 = I' ∧ ∃ (i j : Nat) (out : List (List UInt8)) (X : LH) (v : Value), m' + i + j = V.length + Is.length ∧ i ≤ V.length ∧ j ≤ Is.length ∧ s' = (v, .int .i64 i, .int .i64 j, ()) ∧ L2 = X ++ L ∧ StrO X v out ∧ out.length ≤ i + j ∧
      mrgK m' ((V.map (·.fKey)).drop i) ((Is.map (·.fKey)).drop j) out = mrgK (V.length + Is.length) (V.map (·.fKey)) (Is.map (·.fKey)) []) (fun v => Gh (K v)) I' (X ++ L) := by
    intro hiv hc
    obtain ⟨q, off, c, hix, hl, hcR, hcc⟩ := RL.ix hR.vers (i := (i : Int)) (by omega) (by omega)
    rw [geti_nat hiv] at hcR
    obtain ⟨v0, v1, rfl, h0, h1⟩ := hcR
    have hcv := hcc I' [] (Ext.refl _) (fun _ h => h)
    unfold sh68_2
    try simp only [SSd, Nat.reduceAdd]
    refine rdC (hR.head 0 _ rfl) (Ext.refl _) ?_
    simp only [hix, SSd, Nat.reduceAdd]
    refine rdC (hcv 0 _ rfl) (Ext.refl _) ?_
    refine bs_N h0 (Ext.refl _) ?_
    try simp only [SSd, Nat.reduceAdd]
    rw [wrap_i64 _ (by omega)]
    refine push_spec hX (by omega) (fun X' v' h' => Gh.done ⟨n - 1, by omega, rfl, i + 1, j, _, X', v', by omega, by omega, hj, rfl, rfl, h', by have := hpl V[i].fKey; omega, ?_⟩)
    rw [← hm]
    have hn1 : n = (n - 1) + 1 := by omega
    generalize n - 1 = n' at hn1 ⊢
    subst hn1
    rw [List.drop_eq_getElem_cons (l := V.map (·.fKey)) (i := i) (by omega)]
    simp only [List.getElem_map]
    rcases hc with hc | ⟨hji, hc⟩
    · rw [show (Is.map (·.fKey)).drop j = [] from List.drop_eq_nil_of_le (by omega)]
      rfl
    · rw [List.drop_eq_getElem_cons (l := Is.map (·.fKey)) (i := j) (by omega)]
      simp only [List.getElem_map, mrgK]
      rw [if_pos hc]
  -- an intent's
  have sixg : ∀ (hji : j < Is.length), (V.length ≤ i ∨ ∃ hiv : i < V.length, (blt V[i].fKey Is[j].fKey || V[i].fKey == Is[j].fKey) = false) → sh68_6 ω (pt b) v (.int .i64 i) (.int .i64 j) (.string (ByteArray.mk #[])) (fun s' => Gh fun I2 L2 => ∃ m', m' < n ∧ I2 = I' ∧ ∃ (i j : Nat) (out : List (List UInt8)) (X : LH) (v : Value), m' + i + j = V.length + Is.length ∧ i ≤ V.length ∧ j ≤ Is.length ∧ s' = (v, .int .i64 i, .int .i64 j, ()) ∧ L2 = X ++ L ∧ StrO X v out ∧ out.length ≤ i + j ∧
      mrgK m' ((V.map (·.fKey)).drop i) ((Is.map (·.fKey)).drop j) out = mrgK (V.length + Is.length) (V.map (·.fKey)) (Is.map (·.fKey)) []) (fun v => Gh (K v)) I' (X ++ L) := by
    intro hji hc
    obtain ⟨q, off, c, hix, hl, hcR, hcc⟩ := RL.ix hR.ints (i := (j : Int)) (by omega) (by omega)
    rw [geti_nat hji] at hcR
    obtain ⟨v0, v1, rfl, h0, h1⟩ := hcR
    have hcv := hcc I' [] (Ext.refl _) (fun _ h => h)
    unfold sh68_6
    try simp only [SSd, Nat.reduceAdd]
    refine rdC (hR.head 1 _ rfl) (Ext.refl _) ?_
    simp only [hix, SSd, Nat.reduceAdd]
    refine rdC (hcv 0 _ rfl) (Ext.refl _) ?_
    refine bs_N h0 (Ext.refl _) ?_
    try simp only [SSd, Nat.reduceAdd]
    rw [wrap_i64 _ (by omega)]
    refine push_spec hX (by omega) (fun X' v' h' => Gh.done ⟨n - 1, by omega, rfl, i, j + 1, _, X', v', by omega, hi, by omega, rfl, rfl, h', by have := hpl Is[j].fKey; omega, ?_⟩)
    rw [← hm]
    have hn1 : n = (n - 1) + 1 := by omega
    generalize n - 1 = n' at hn1 ⊢
    subst hn1
    rw [List.drop_eq_getElem_cons (l := Is.map (·.fKey)) (i := j) (by omega)]
    simp only [List.getElem_map]
    rcases hc with hc | ⟨hiv, hc⟩
    · rw [show (V.map (·.fKey)).drop i = [] from List.drop_eq_nil_of_le (by omega)]
      rfl
    · rw [List.drop_eq_getElem_cons (l := V.map (·.fKey)) (i := i) (by omega)]
      simp only [List.getElem_map, mrgK]
      rw [if_neg (by rw [hc]; simp)]
  have six' : ∀ (hiv : i < V.length) (hji : j < Is.length), (blt V[i].fKey Is[j].fKey || V[i].fKey == Is[j].fKey) = false → _ := fun hiv hji h => sixg hji (.inr ⟨hiv, h⟩)
  unfold sh68_1
  try simp only [SSd, Nat.reduceAdd]
  refine rdC (hR.head 0 _ rfl) (Ext.refl _) ?_
  simp only [RL.len hR.vers, SSd, Nat.reduceAdd]
  refine gd_split (fun e => ?_) (fun e => ?_)
  · have hiV : i = V.length := by simp at e; omega
    try simp only [SSd, Nat.reduceAdd]
    refine rdC (hR.head 1 _ rfl) (Ext.refl _) ?_
    simp only [RL.len hR.ints, SSd, Nat.reduceAdd]
    refine br_split (fun e2 => ?_) (fun e2 => ?_)
    rotate_left
    · have hjI : j = Is.length := by simp at e2; omega
      have hn0 : n = 0 := by omega
      subst hn0
      rw [← hm] at hk
      exact Gh.done (hk X v hX)
    have hji : j < Is.length := by simpa using e2
    have six : V.length ≤ i → _ := fun h => sixg hji (.inl h)
    refine drawC ?_
    try simp only [SSd, Nat.reduceAdd]
    refine rdCS (hR.head 0 _ rfl) (Ext.refl _) ?_
    simp only [RL.len hR.vers, SSd, Nat.reduceAdd]
    refine gd_split (fun ei => ?_) (fun ei => six (by simpa using ei))
    try simp only [SSd, Nat.reduceAdd]
    refine rdCS (hR.head 1 _ rfl) (Ext.refl _) ?_
    simp only [RL.len hR.ints, SSd, Nat.reduceAdd]
    refine gd_split (fun ej => ?_) (fun ej => two (by simpa using ei) (.inl (by simp at ej; omega)))
    have hiv : i < V.length := by simpa using ei
    have hji : j < Is.length := by simp at ej; omega
    obtain ⟨q, off, c, hix, hl, hc, hcc⟩ := RL.ix hR.vers (i := (i : Int)) (by omega) (by omega)
    rw [geti_nat hiv] at hc
    obtain ⟨v0, v1, rfl, h0, h1⟩ := hc
    have hcv := hcc I' [] (Ext.refl _) (fun _ h => h)
    obtain ⟨q2, off2, c2, hix2, hl2, hc2, hcc2⟩ := RL.ix hR.ints (i := (j : Int)) (by omega) (by omega)
    rw [geti_nat hji] at hc2
    obtain ⟨w0, w1, rfl, g0, g1⟩ := hc2
    have hci := hcc2 I' [] (Ext.refl _) (fun _ h => h)
    try simp only [SSd, Nat.reduceAdd]
    refine rdCS (hR.head 0 _ rfl) (Ext.refl _) ?_
    simp only [hix, SSd, Nat.reduceAdd]
    refine rdCS (hcv 0 _ rfl) (Ext.refl _) ?_
    refine bs_I h0 (Ext.refl _) ?_
    try simp only [SSd, Nat.reduceAdd]
    refine rdCS (hR.head 1 _ rfl) (Ext.refl _) ?_
    simp only [hix2, SSd, Nat.reduceAdd]
    refine rdCS (hci 0 _ rfl) (Ext.refl _) ?_
    refine bs_I g0 (Ext.refl _) ?_
    try simp only [SSd, Nat.reduceAdd]
    refine br_split (fun e3 => two hiv (.inr ⟨hji, e3⟩)) (fun e3 => six' hiv hji e3)
  · have hiv' : i < V.length := by simpa using e
    refine drawC ?_
    try simp only [SSd, Nat.reduceAdd]
    refine rdCS (hR.head 0 _ rfl) (Ext.refl _) ?_
    simp only [RL.len hR.vers, SSd, Nat.reduceAdd]
    refine gd_split (fun ei => ?_) (fun ei => absurd hiv' (by simpa using ei))
    try simp only [SSd, Nat.reduceAdd]
    refine rdCS (hR.head 1 _ rfl) (Ext.refl _) ?_
    simp only [RL.len hR.ints, SSd, Nat.reduceAdd]
    refine gd_split (fun ej => ?_) (fun ej => two (by simpa using ei) (.inl (by simp at ej; omega)))
    have hiv : i < V.length := by simpa using ei
    have hji : j < Is.length := by simp at ej; omega
    obtain ⟨q, off, c, hix, hl, hc, hcc⟩ := RL.ix hR.vers (i := (i : Int)) (by omega) (by omega)
    rw [geti_nat hiv] at hc
    obtain ⟨v0, v1, rfl, h0, h1⟩ := hc
    have hcv := hcc I' [] (Ext.refl _) (fun _ h => h)
    obtain ⟨q2, off2, c2, hix2, hl2, hc2, hcc2⟩ := RL.ix hR.ints (i := (j : Int)) (by omega) (by omega)
    rw [geti_nat hji] at hc2
    obtain ⟨w0, w1, rfl, g0, g1⟩ := hc2
    have hci := hcc2 I' [] (Ext.refl _) (fun _ h => h)
    try simp only [SSd, Nat.reduceAdd]
    refine rdCS (hR.head 0 _ rfl) (Ext.refl _) ?_
    simp only [hix, SSd, Nat.reduceAdd]
    refine rdCS (hcv 0 _ rfl) (Ext.refl _) ?_
    refine bs_I h0 (Ext.refl _) ?_
    try simp only [SSd, Nat.reduceAdd]
    refine rdCS (hR.head 1 _ rfl) (Ext.refl _) ?_
    simp only [hix2, SSd, Nat.reduceAdd]
    refine rdCS (hci 0 _ rfl) (Ext.refl _) ?_
    refine bs_I g0 (Ext.refl _) ?_
    try simp only [SSd, Nat.reduceAdd]
    refine br_split (fun e3 => two hiv (.inr ⟨hji, e3⟩)) (fun e3 => six' hiv hji e3)
end
end Go.Proofs.YtmnnnoinfhiilaaGreatDoor
-- S3
set_option linter.unusedSimpArgs false
set_option linter.unusedVariables false
namespace Go.Proofs.YtmnnnoinfhiilaaGreatDoor
open Go.SL
set_option maxRecDepth 10000
section
variable {ω : Om} {I : Imm} {L : LH} {K : Value → M}
theorem inR_cons (p : TSpan) (r : Row) (rs : List Row) : inR p (r :: rs) = if inB p r.key = true then r :: inR p rs else inR p rs := by
  unfold inR; rw [List.filter_cons]
theorem rowOf_at {rows : List Row} (hs : SrtK (keysOf rows)) {i : Nat} (hi : i < rows.length) : rowOf rows rows[i].key = some rows[i] := by
  have e := split_at hi
  generalize rows[i] = r at e ⊢
  have hm : Mid (rows.take i) r.key (rows.drop (i + 1)) := SrtK.mid (e ▸ hs)
  conv => lhs; rw [e]
  exact rowOf_mid hm rfl
def scanR (m : TStamp) (txn most : Int) (rows : List Row) (acc : List TKV) : List TKV × Int × Int := if (acc.length : Int) = most then (acc, 0, 0) else scanL m txn most rows acc
theorem scanR_cons {m : TStamp} {txn most : Int} {r : Row} {rs : List Row} {acc : List TKV} (h : ¬ (acc.length : Int) = most) :
    scanR m txn most (r :: rs) acc = if (seen r m txn).2 ≠ 0 then ([], (seen r m txn).1.fBy, (seen r m txn).2) else scanR m txn most rs (push r (seen r m txn).1 acc) := by
  unfold scanR; rw [if_neg h]; rfl
abbrev rscL (b1 b2 : Nat) (v0 v1 : Value) (m : TStamp) (R : LH) : LH := (b2, .cells #[.int .i64 m.fWall, .int .i64 m.fLogic] 30 (0, 0)) :: (b1, .cells #[v0, v1] 39 (0, 0)) :: R
theorem rscan_spec {L0 : LH} [LSub L0 L] {b : Nat} {vV vI : Value} {sp : Sp} {p : TSpan} {pc : List Value} {m : TStamp} {txn most : Int} (hR : RefF I L0 b vV vI (versOf sp.rows) (intsOf sp.rows) sp.floor) (hok : SpOk sp) (hlen : sp.rows.length ≤ 100000000) (hn : versN sp.rows ≤ 100000000) (hp : TSpanV I p pc)
    (hk : ∀ I' v, Ext I I' → RL TKVV 2 I' [] v (scanF sp p m txn most).1 → K (.tuple #[v, .int .i64 (scanF sp p m txn most).2.1, .int .i64 (scanF sp p m txn most).2.2]) I' L) :
    Cal Tryz.prog ω 23 #[pt b, .agg pc.toArray, sv m, .int .i64 txn, .int .i64 most] K I L := by
  obtain ⟨v0, v1, rfl, hb0, hb1⟩ := hp
  have hs := hok.rise
  have hz : ∀ I', Bytes I' (.slice none 0 0) [] := fun I' => SlI.nil I' 1 none 0
  have bad : ∀ (b1 b2 : Nat), ((rightB m && readerB txn) = false ∨ most < 1) → Gh (K (.tuple #[.slice none 0 0, .int .i64 0, .int .i64 1])) I (rscL b1 b2 v0 v1 m L) := by
    intro b1 b2 hb
    have eg : scanF sp p m txn most = ([], 0, 1) := by unfold scanF; rw [if_pos hb]
    rw [eg] at hk
    exact Gh.to L (Gh.done (hk I _ (Ext.refl _) (RL.nil _ _)))
  refine cal23 ?_
  unfold sh23
  refine newI (fun b1 => newI (fun b2 => ?_))
  refine rdB rfl ?_
  refine call (rright_spec (x := m) ?_)
  refine call (rreader_spec ?_)
  try simp only [SSd, Nat.reduceAdd]
  refine gd_split (fun e => ?_) (fun e => bad _ _ (.inl (by have : rightB m = false := by simpa using e
                                                            rw [this]; rfl)))
  have k2 : rightB m = true := by simpa using e
  try simp only [SSd, Nat.reduceAdd]
  refine gd_split (fun e => ?_) (fun e => bad _ _ (.inl (by have : readerB txn = false := by simpa using e
                                                            rw [this]; simp)))
  have k3 : readerB txn = true := by simpa using e
  try simp only [SSd, Nat.reduceAdd]
  refine br_split (fun e => bad _ _ (.inr (by simpa using e))) (fun e => ?_)
  have k4 : ¬ most < 1 := by simpa using e
  have hf : ¬ ((rightB m && readerB txn) = false ∨ most < 1) := by rw [k2, k3]; simpa using k4
  have hc2 : Cells I L0 b 2 [.int .i64 sp.floor.fWall, .int .i64 sp.floor.fLogic] := by simpa using hR.head.sub (k := 2) (m := 2)
  refine drawC ?_
  try simp only [SSd, Nat.reduceAdd]
  refine rdNCS hc2 (Ext.refl _) rfl ?_
  refine rdBS rfl ?_
  refine call (rbehind_spec (x := sp.floor) (y := m) ?_)
  refine br_split (fun e2 => ?_) (fun e2 => ?_)
  · have eg : scanF sp p m txn most = ([], 0, 131) := by unfold scanF; rw [if_neg hf, if_pos e2]
    rw [eg] at hk
    exact Gh.to L (Gh.done (hk I _ (Ext.refl _) (RL.nil _ _)))
  have eg : scanF sp p m txn most = scanL m txn most (inR p sp.rows) [] := by unfold scanF; rw [if_neg hf, if_neg (by rw [e2]; simp)]
  rw [eg] at hk
  have hIl : (intsOf sp.rows).length ≤ 100000000 := by
    have := List.length_filter_le (fun r : Row => r.it.txn != 0) sp.rows
    simp [intsOf]; omega
  refine call (rkeys_spec (L0 := L0) hR (by rw [versN_len]; omega) (by omega) (fun XK kv hK => ?_))
  have hmk := mrgK_rows (out := []) hs (fun r hr => (hok.rows r hr).some) (fun l h => by simp at h)
  unfold vKeys iKeys at hmk
  rw [List.length_map, List.length_map, List.nil_append] at hmk
  rw [hmk] at hK
  have hkl : (keysOf sp.rows).length = sp.rows.length := by simp [keysOf]
  have h0 : scanR m txn most (inR p sp.rows) [] = scanL m txn most (inR p sp.rows) [] := by unfold scanR; rw [if_neg (by simp; omega)]
  refine loop (fun n s I' L' => Ext I I' ∧ ∃ (i : Nat) (XO : LH) (vo : Value) (acc : List TKV) (cells : List Value), n + i = sp.rows.length ∧ s = (.slice none 0 0, .int .i64 0, .int .i64 0, vo, .int .i64 i, ()) ∧ L' = XK ++ rscL b1 b2 v0 v1 m (XO ++ L) ∧
      SlO 86 2 XO vo cells acc.length ∧ Recs (TKVV I') 2 acc cells ∧ acc.length ≤ i ∧ (acc.length : Int) ≤ most ∧ scanR m txn most (inR p (sp.rows.drop i)) acc = scanL m txn most (inR p sp.rows) []) sp.rows.length
    ⟨Ext.refl _, 0, [], _, [], [], rfl, rfl, rfl, SlO.none _ _, rfl, by simp, by simp; omega, by simpa using h0⟩ ?_
  rintro n s I' L' ⟨hI, i, XO, vo, acc, cells, hni, rfl, rfl, hO, hRc, hai, hmost, hsc⟩
  have hR' := hR.mono (L' := L0) hI (fun _ h => h)
  obtain ⟨oa, oc, rfl⟩ := hO.form
  obtain ⟨ka, kc, rfl⟩ := hK.form
  have fin : scanL m txn most (inR p sp.rows) [] = (acc, 0, 0) → Gh (K (.tuple #[.slice oa acc.length oc, .int .i64 0, .int .i64 0])) I' (XK ++ rscL b1 b2 v0 v1 m (XO ++ L)) := by
    intro he
    rw [he] at hk
    refine Gh.to (XO ++ L) (SlO.freeze hO (fun I3 hI3 hSl => Gh.done ?_))
    exact hk I3 _ (hI.trans hI3) (RL.ofI hSl (hRc.imp fun x c h => h.mono hI3))
  unfold sh23_3
  try simp only [SSd, Nat.reduceAdd]
  refine gd_split (fun e3 => ?_) (fun e3 => ?_)
  rotate_left
  · have hil : ¬ i < sp.rows.length := by simpa [hkl] using e3
    refine fin ?_
    rw [← hsc, List.drop_eq_nil_of_le (by omega)]
    unfold scanR
    split <;> rfl
  have hil : i < sp.rows.length := by simpa [hkl] using e3
  try simp only [SSd, Nat.reduceAdd]
  refine br_split (fun e4 => ?_) (fun e4 => ?_)
  rotate_left
  · have hm' : (acc.length : Int) = most := by simp at e4; omega
    refine fin ?_
    rw [← hsc]; unfold scanR; rw [if_pos hm']
  have hlt : ¬ (acc.length : Int) = most := by simp at e4; omega
  have hrow := rowOf_at hs hil
  have hdrop : sp.rows.drop i = sp.rows[i] :: sp.rows.drop (i + 1) := List.drop_eq_getElem_cons hil
  have hkg : geti (keysOf sp.rows) (i : Int) = sp.rows[i].key := by rw [geti_nat (by omega)]; simp [keysOf]
  rw [hdrop] at hsc
  generalize sp.rows[i] = r at *
  obtain ⟨q, off, c, hix, hcl, hc, hcc⟩ := RL.ix (StrO.rl (I := I') (L := XK) hK (fun _ h => h)) (i := (i : Int)) (by omega) (by omega)
  obtain rfl : c = _ := hc
  rw [hkg] at hcc
  simp only [hix, SSd, Nat.reduceAdd]
  refine rdC (hcc I' XK (Ext.refl _) (fun _ h => h) 0 _ rfl) (Ext.refl _) ?_
  refine cvsb (fun ku I3 hI3 hKB => Gh.done ?_)
  obtain ⟨ga, gc, rfl⟩ := Bytes.form hKB
  refine rdB rfl ?_
  refine call (rin_spec (p := p) ⟨v0, v1, rfl, hb0.mono (hI.trans hI3), hb1.mono (hI.trans hI3)⟩ hKB ?_)
  try simp only [SSd, Nat.reduceAdd]
  have next : ∀ (I4 : Imm) (XO4 : LH) (v4 : Value) (acc4 : List TKV) (cells4 : List Value) (L4 : LH), Ext I' I4 → SubP (XK ++ rscL b1 b2 v0 v1 m (XO4 ++ L)) L4 → SlO 86 2 XO4 v4 cells4 acc4.length → Recs (TKVV I4) 2 acc4 cells4 → acc4.length ≤ i + 1 → (acc4.length : Int) ≤ most → scanR m txn most (inR p (sp.rows.drop (i + 1))) acc4 = scanL m txn most (inR p sp.rows) [] →
      sh23_5 ω (.slice none 0 0) (.int .i64 0) (.int .i64 0) v4 (.int .i64 i) (fun s' => Gh fun I2 L2 => ∃ m', m' < n ∧ Ext I I2 ∧ ∃ (i : Nat) (XO : LH) (vo : Value) (acc : List TKV) (cells : List Value), m' + i = sp.rows.length ∧ s' = (.slice none 0 0, .int .i64 0, .int .i64 0, vo, .int .i64 i, ()) ∧ L2 = XK ++ rscL b1 b2 v0 v1 m (XO ++ L) ∧
      SlO 86 2 XO vo cells acc.length ∧ Recs (TKVV I2) 2 acc cells ∧ acc.length ≤ i ∧ (acc.length : Int) ≤ most ∧ scanR m txn most (inR p (sp.rows.drop i)) acc = scanL m txn most (inR p sp.rows) []) (fun v => Gh (K v)) I4 L4 := by
    intro I4 XO4 v4 acc4 cells4 L4 hI4 hsub hO4 hR4 ha4 hm4 hs4
    unfold sh23_5
    try simp only [SSd, Nat.reduceAdd]
    rw [wrap_i64 _ (by omega)]
    exact Gh.to (XK ++ rscL b1 b2 v0 v1 m (XO4 ++ L)) (Gh.done ⟨n - 1, by omega, hI.trans hI4, i + 1, XO4, v4, acc4, cells4, by omega, rfl, rfl, hO4, hR4, ha4, hm4, hs4⟩)
  rw [inR_cons] at hsc
  refine br_split (fun e5 => ?_) (fun e5 => ?_)
  · have hin : inB p r.key = false := by simpa using e5
    rw [if_neg (by rw [hin]; simp)] at hsc
    exact next I3 XO _ acc cells _ hI3 inferInstance hO (hRc.imp fun x c h => h.mono hI3) (by omega) hmost hsc
  have hin : inB p r.key = true := by simpa using e5
  rw [if_pos hin, scanR_cons hlt] at hsc
  refine rdB rfl ?_
  have hg : getR sp.rows r.key m txn = seen r m txn := by unfold getR; rw [hrow]
  refine call (rread_spec (L0 := L0) (hR'.mono hI3 (fun _ h => h)) hok hKB hlen hn (fun w0 hw0 => ?_))
  rw [hg] at hw0 ⊢
  obtain ⟨wa, wc, rfl⟩ := Bytes.form hw0
  try simp only [SSd, Nat.reduceAdd]
  refine newI (fun b3 => ?_)
  refine stB rfl rfl (one_all rfl) ?_
  try simp only [SSd, Nat.reduceAdd]
  refine br_split (fun e6 => ?_) (fun e6 => ?_)
  · have e6' : (seen r m txn).2 ≠ 0 := by simpa using e6
    rw [if_pos e6'] at hsc
    rw [← hsc] at hk
    unfold sh23_6
    refine drawC ?_
    try simp only [SSd, Nat.reduceAdd]
    refine rdbS ?_
    exact Gh.to L (Gh.done (hk I3 _ (hI.trans hI3) (RL.nil _ _)))
  have e6' : ¬ (seen r m txn).2 ≠ 0 := by simpa using e6
  rw [if_neg e6'] at hsc
  try simp only [SSd, Nat.reduceAdd]
  refine rdb ?_
  refine br_split (fun e7 => ?_) (fun e7 => ?_)
  · have hpush : push r (seen r m txn).1 acc = acc ++ [⟨r.key, (seen r m txn).1.fValue⟩] := by unfold push; rw [if_pos e7]
    rw [hpush] at hsc
    unfold sh23_7
    try simp only [SSd, Nat.reduceAdd]
    refine rdb ?_
    try simp only [SSd, Nat.reduceAdd]
    refine rec_app (R := TKVV) (X6 := XO) (x := ⟨r.key, (seen r m txn).1.fValue⟩) rfl (by omega) hO (hRc.imp fun x c h => h.mono hI3) ⟨_, _, rfl, hKB, hw0⟩ rfl (one_all rfl) (by omega) (by omega) (fun X1 X6 v6 cells6 h6 hR6 => ?_)
    refine next I3 X6 v6 _ cells6 _ hI3 inferInstance h6 hR6 (by simp; omega) (by simp; omega) hsc
  · have hpush : push r (seen r m txn).1 acc = acc := by unfold push; rw [if_neg (by rw [e7]; simp)]
    rw [hpush] at hsc
    exact next I3 XO _ acc cells _ hI3 inferInstance hO (hRc.imp fun x c h => h.mono hI3) (by omega) hmost hsc
/-! ### What has changed -/
theorem lateB_any {a b : TStamp} {vs : List TVer} (h : vs.Pairwise fun x y => bhd y.fAt x.fAt = true) : lateB a b vs = vs.any fun v => bhd v.fAt a && !bhd v.fAt b := by
  rw [Bool.eq_iff_iff, List.any_eq_true]
  unfold lateB
  constructor
  · intro hl
    cases hu : upTo vs b with
    | none => rw [hu] at hl; cases hl
    | some v =>
      rw [hu] at hl
      have h1 : bhd v.fAt b = false := by
        unfold upTo at hu
        simpa using List.find?_some hu
      exact ⟨v, upTo_mem hu, by simp only at hl; rw [hl, h1]; rfl⟩
  · rintro ⟨v, hv, hc⟩
    simp only [Bool.and_eq_true, Bool.not_eq_true'] at hc
    cases hu : upTo vs b with
    | none =>
      unfold upTo at hu
      have := List.find?_eq_none.1 hu v (List.mem_reverse.2 hv)
      rw [hc.2] at this; simp at this
    | some u =>
      simp only
      unfold upTo at hu
      obtain ⟨h1, A, B, he, hA⟩ := List.find?_eq_some_iff_append.1 hu
      have e : vs = B.reverse ++ u :: A.reverse := by
        have := congrArg List.reverse he
        simpa using this
      rw [e] at hv h
      rcases List.mem_append.1 hv with hv | hv
      · exact bhd_trans ((List.pairwise_append.1 h).2.2 v hv u (List.mem_cons_self ..)) hc.1
      · rcases List.mem_cons.1 hv with rfl | hv
        · exact hc.1
        · have := hA v (List.mem_reverse.1 hv)
          rw [hc.2] at this; simp at this
def chV (p : TSpan) (a b : TStamp) (v : TVersion) : Bool := inB p v.fKey && (bhd v.fAt a && !bhd v.fAt b)
def chI (p : TSpan) (b : TStamp) (txn : Int) (x : TIntent) : Bool := inB p x.fKey && ((x.fTxn != txn) && !bhd x.fAt b)
theorem ch_any {p : TSpan} {a b : TStamp} {txn : Int} : ∀ {rows : List Row}, (∀ r ∈ rows, RowOk r) → ((versOf rows).any (chV p a b) || (intsOf rows).any (chI p b txn)) = (inR p rows).any (chR a b txn)
  | [], _ => rfl
  | r :: rs, h => by
    have ih := ch_any (p := p) (a := a) (b := b) (txn := txn) (rows := rs) (fun x hx => h x (List.mem_cons_of_mem _ hx))
    have hr := h r (List.mem_cons_self ..)
    rw [versOf_cons, intsOf_cons, inR_cons, List.any_append, List.any_append]
    have e1 : (r.vs.map (verF r.key)).any (chV p a b) = (inB p r.key && lateB a b r.vs) := by
      rw [lateB_any hr.rise, List.any_map]
      have ef : (chV p a b ∘ verF r.key) = fun x => inB p r.key && (bhd x.fAt a && !bhd x.fAt b) := rfl
      rw [ef]
      cases inB p r.key <;> simp
    have e2 : ((if r.it.txn = 0 then [] else [itF r]).any (chI p b txn)) = (inB p r.key && (r.it.txn != 0 && (r.it.txn != txn) && !bhd r.it.ver.fAt b)) := by
      by_cases h0 : r.it.txn = 0
      · rw [if_pos h0, h0]; simp
      · rw [if_neg h0]
        have h0' : (r.it.txn != 0) = true := by simpa using h0
        show (chI p b txn (itF r) || false) = _
        simp only [chI, itF, h0', Bool.true_and, Bool.or_false]
    rw [e1, e2]
    cases hb : inB p r.key with
    | false => simp only [Bool.false_and, Bool.false_or]; rw [if_neg (by simp)]; exact ih
    | true =>
      rw [if_pos rfl, List.any_cons, ← ih]
      unfold chR
      generalize (versOf rs).any (chV p a b) = w1
      generalize (intsOf rs).any (chI p b txn) = w2
      generalize lateB a b r.vs = w3
      generalize (r.it.txn != 0 && r.it.txn != txn && !bhd r.it.ver.fAt b) = w4
      cases w1 <;> cases w2 <;> cases w3 <;> cases w4 <;> rfl
abbrev rchL (b1 b2 b3 : Nat) (v0 v1 : Value) (fr to : TStamp) (R : LH) : LH := (b3, .cells #[.int .i64 to.fWall, .int .i64 to.fLogic] 30 (0, 0)) :: (b2, .cells #[.int .i64 fr.fWall, .int .i64 fr.fLogic] 30 (0, 0)) :: (b1, .cells #[v0, v1] 39 (0, 0)) :: R
theorem any_take {α : Type} {f : α → Bool} {l : List α} {i : Nat} (hi : i < l.length) : (l.take (i + 1)).any f = ((l.take i).any f || f l[i]) := by
  rw [take_snoc hi, List.any_append]; simp
theorem any_at {α : Type} {f : α → Bool} {l : List α} {i : Nat} (hi : i < l.length) (h : f l[i] = true) : l.any f = true := List.any_eq_true.2 ⟨_, List.getElem_mem hi, h⟩
theorem rchanged_spec {L0 : LH} [LSub L0 L] {b : Nat} {vV vI : Value} {sp : Sp} {p : TSpan} {pc : List Value} {fr to : TStamp} {txn : Int} (hR : RefF I L0 b vV vI (versOf sp.rows) (intsOf sp.rows) sp.floor) (hok : SpOk sp) (hlen : sp.rows.length ≤ 100000000) (hn : versN sp.rows ≤ 100000000) (hp : TSpanV I p pc)
    (hk : K (.tuple #[.bool (chF sp p fr to txn).1, .int .i64 (chF sp p fr to txn).2]) I L) :
    Cal Tryz.prog ω 26 #[pt b, .agg pc.toArray, sv fr, sv to, .int .i64 txn] K I L := by
  obtain ⟨v0, v1, rfl, hb0, hb1⟩ := hp
  have hp : TSpanV I p [v0, v1] := ⟨v0, v1, rfl, hb0, hb1⟩
  have bad : ∀ (b1 b2 b3 : Nat), ((rightB fr && readerB txn) = false ∨ rightB to = false) → Gh (K (.tuple #[.bool false, .int .i64 1])) I (rchL b1 b2 b3 v0 v1 fr to L) := by
    intro b1 b2 b3 hb
    have eg : chF sp p fr to txn = (false, 1) := by unfold chF; rw [if_pos hb]
    rw [eg] at hk
    exact Gh.to L (Gh.done hk)
  have hch := ch_any (p := p) (a := fr) (b := to) (txn := txn) hok.rows
  have hVl : (versOf sp.rows).length ≤ 100000000 := by rw [versN_len]; exact hn
  have hIl : (intsOf sp.rows).length ≤ 100000000 := by
    have := List.length_filter_le (fun r : Row => r.it.txn != 0) sp.rows
    simp [intsOf]; omega
  refine cal26 ?_
  unfold sh26
  refine newI (fun b1 => newI (fun b2 => newI (fun b3 => ?_)))
  refine rdB rfl ?_
  refine call (rright_spec (x := fr) ?_)
  refine rdB rfl ?_
  refine call (rright_spec (x := to) ?_)
  refine call (rreader_spec ?_)
  try simp only [SSd, Nat.reduceAdd]
  refine gd_split (fun e => ?_) (fun e => bad _ _ _ (.inl (by have : rightB fr = false := by simpa using e
                                                              rw [this]; rfl)))
  have k1 : rightB fr = true := by simpa using e
  try simp only [SSd, Nat.reduceAdd]
  refine gd_split (fun e => ?_) (fun e => bad _ _ _ (.inr (by simpa using e)))
  have k2 : rightB to = true := by simpa using e
  try simp only [SSd, Nat.reduceAdd]
  refine br_split (fun e => bad _ _ _ (.inl (by have : readerB txn = false := by simpa using e
                                                rw [this]; simp))) (fun e => ?_)
  have k3 : readerB txn = true := by simpa using e
  have hf : ¬ ((rightB fr && readerB txn) = false ∨ rightB to = false) := by rw [k1, k2, k3]; simp
  have hc2 : Cells I L0 b 2 [.int .i64 sp.floor.fWall, .int .i64 sp.floor.fLogic] := by simpa using hR.head.sub (k := 2) (m := 2)
  refine drawC ?_
  try simp only [SSd, Nat.reduceAdd]
  refine rdNCS hc2 (Ext.refl _) rfl ?_
  refine rdBS rfl ?_
  refine call (rbehind_spec (x := sp.floor) (y := fr) ?_)
  refine br_split (fun e2 => ?_) (fun e2 => ?_)
  · have eg : chF sp p fr to txn = (false, 131) := by unfold chF; rw [if_neg hf, if_pos e2]
    rw [eg] at hk
    exact Gh.to L (Gh.done hk)
  have eg : chF sp p fr to txn = ((inR p sp.rows).any (chR fr to txn), 0) := by unfold chF; rw [if_neg hf, if_neg (by rw [e2]; simp)]
  rw [eg, ← hch] at hk
  have hR1 := hR.vers
  have hR2 := hR.ints
  generalize versOf sp.rows = V at *
  generalize intsOf sp.rows = Is at *
  refine loop (fun n s I' L' => I' = I ∧ ∃ i : Nat, n + i = V.length ∧ s = (.bool false, .int .i64 0, .int .i64 i, ()) ∧ L' = rchL b1 b2 b3 v0 v1 fr to L ∧ (V.take i).any (chV p fr to) = false) V.length ⟨rfl, 0, rfl, rfl, rfl, by simp⟩ ?_
  rintro n s I' L' ⟨rfl, i, hni, rfl, rfl, hA⟩
  unfold sh26_3
  try simp only [SSd, Nat.reduceAdd]
  refine rdC (hR.head 0 _ rfl) (Ext.refl _) ?_
  simp only [RL.len hR1, SSd, Nat.reduceAdd]
  refine br_split (fun e3 => ?_) (fun e3 => ?_)
  · have hil : i < V.length := by simpa using e3
    have hat := any_take (f := chV p fr to) hil
    rw [hA, Bool.false_or] at hat
    obtain ⟨q, off, c, hix, hcl, hc, hcc⟩ := RL.ix hR1 (i := (i : Int)) (by omega) (by omega)
    rw [geti_nat hil] at hc
    have hanyV : chV p fr to V[i] = true → V.any (chV p fr to) = true := any_at hil
    generalize V[i] = v at *
    obtain ⟨w0, w1, rfl, h0, h1⟩ := hc
    have hcv := hcc I' [] (Ext.refl _) (fun _ h => h)
    have hst : Cells I' [] q (off + 1) [.int .i64 v.fAt.fWall, .int .i64 v.fAt.fLogic] := by simpa using hcv.sub (k := 1) (m := 2)
    have next : ∀ (hno : chV p fr to v = false), Gh (fun I2 L2 => ∃ m', m' < n ∧ I2 = I' ∧ ∃ j : Nat, m' + j = V.length ∧ ((Value.bool false, Value.int .i64 0, Value.int .i64 ((i : Int) + 1), ()) : Value × Value × Value × Unit) = (.bool false, .int .i64 0, .int .i64 j, ()) ∧ L2 = rchL b1 b2 b3 v0 v1 fr to L ∧ (V.take j).any (chV p fr to) = false) I' (rchL b1 b2 b3 v0 v1 fr to L) :=
      fun hno => Gh.done ⟨n - 1, by omega, rfl, i + 1, by omega, rfl, rfl, by rw [hat, hno]⟩
    refine drawC ?_
    refine rdBS rfl ?_
    try simp only [SSd, Nat.reduceAdd]
    refine rdCS (hR.head 0 _ rfl) (Ext.refl _) ?_
    simp only [hix, SSd, Nat.reduceAdd]
    refine rdCS (hcv 0 _ rfl) (Ext.refl _) ?_
    refine call (rin_spec hp h0 ?_)
    refine drawC ?_
    try simp only [SSd, Nat.reduceAdd]
    refine rdCS (hR.head 0 _ rfl) (Ext.refl _) ?_
    simp only [hix, SSd, Nat.reduceAdd]
    refine rdNCS hst (Ext.refl _) rfl ?_
    refine rdBS rfl ?_
    refine call (rbehind_spec (x := v.fAt) (y := fr) ?_)
    refine drawC ?_
    try simp only [SSd, Nat.reduceAdd]
    refine rdCS (hR.head 0 _ rfl) (Ext.refl _) ?_
    simp only [hix, SSd, Nat.reduceAdd]
    refine rdNCS hst (Ext.refl _) rfl ?_
    refine rdBS rfl ?_
    refine call (rbehind_spec (x := v.fAt) (y := to) ?_)
    simp only [wrap_i64 ((i : Int) + 1) (by omega), SSd, Nat.reduceAdd]
    refine gd_split (fun c1 => ?_) (fun c1 => next (by unfold chV; rw [Bool.eq_false_iff.2 c1]; rfl))
    refine gd_split (fun c2 => ?_) (fun c2 => next (by unfold chV; rw [Bool.eq_false_iff.2 c2]; simp))
    refine br_split (fun c3 => ?_) (fun c3 => next (by unfold chV; rw [c3]; simp))
    have hy := hanyV (by unfold chV; rw [c1, c2, c3]; rfl)
    rw [hy, Bool.true_or] at hk
    exact Gh.to L (Gh.done hk)
  have hiV : i = V.length := by simp at e3; omega
  subst hiV
  rw [List.take_length] at hA
  rw [hA, Bool.false_or] at hk
  unfold sh26_6
  refine loop (fun n s I2 L' => I2 = I' ∧ ∃ i : Nat, n + i = Is.length ∧ s = (.bool false, .int .i64 0, .int .i64 i, ()) ∧ L' = rchL b1 b2 b3 v0 v1 fr to L ∧ (Is.take i).any (chI p to txn) = false) Is.length ⟨rfl, 0, rfl, rfl, rfl, by simp⟩ ?_
  rintro n2 s2 I2 L2 ⟨rfl, i, hni2, rfl, rfl, hA2⟩
  unfold sh26_7
  try simp only [SSd, Nat.reduceAdd]
  refine rdC (hR.head 1 _ rfl) (Ext.refl _) ?_
  simp only [RL.len hR2, SSd, Nat.reduceAdd]
  refine br_split (fun e4 => ?_) (fun e4 => ?_)
  · have hil : i < Is.length := by simpa using e4
    have hat := any_take (f := chI p to txn) hil
    rw [hA2, Bool.false_or] at hat
    obtain ⟨q, off, c, hix, hcl, hc, hcc⟩ := RL.ix hR2 (i := (i : Int)) (by omega) (by omega)
    rw [geti_nat hil] at hc
    have hanyI : chI p to txn Is[i] = true → Is.any (chI p to txn) = true := any_at hil
    generalize Is[i] = v at *
    obtain ⟨w0, w1, rfl, h0, h1⟩ := hc
    have hcv := hcc I2 [] (Ext.refl _) (fun _ h => h)
    have hst : Cells I2 [] q (off + 2) [.int .i64 v.fAt.fWall, .int .i64 v.fAt.fLogic] := by simpa using hcv.sub (k := 2) (m := 2)
    have next : ∀ (hno : chI p to txn v = false), Gh (fun I3 L3 => ∃ m', m' < n2 ∧ I3 = I2 ∧ ∃ j : Nat, m' + j = Is.length ∧ ((Value.bool false, Value.int .i64 0, Value.int .i64 ((i : Int) + 1), ()) : Value × Value × Value × Unit) = (.bool false, .int .i64 0, .int .i64 j, ()) ∧ L3 = rchL b1 b2 b3 v0 v1 fr to L ∧ (Is.take j).any (chI p to txn) = false) I2 (rchL b1 b2 b3 v0 v1 fr to L) :=
      fun hno => Gh.done ⟨n2 - 1, by omega, rfl, i + 1, by omega, rfl, rfl, by rw [hat, hno]⟩
    refine drawC ?_
    refine rdBS rfl ?_
    try simp only [SSd, Nat.reduceAdd]
    refine rdCS (hR.head 1 _ rfl) (Ext.refl _) ?_
    simp only [hix, SSd, Nat.reduceAdd]
    refine rdCS (hcv 0 _ rfl) (Ext.refl _) ?_
    refine call (rin_spec hp h0 ?_)
    refine drawC ?_
    try simp only [SSd, Nat.reduceAdd]
    refine rdCS (hR.head 1 _ rfl) (Ext.refl _) ?_
    simp only [hix, SSd, Nat.reduceAdd]
    refine rdNCS hst (Ext.refl _) rfl ?_
    refine rdBS rfl ?_
    refine call (rbehind_spec (x := v.fAt) (y := to) ?_)
    simp only [wrap_i64 ((i : Int) + 1) (by omega), SSd, Nat.reduceAdd]
    refine gd_split (fun c1 => ?_) (fun c1 => next (by unfold chI; rw [Bool.eq_false_iff.2 c1]; rfl))
    try simp only [SSd, Nat.reduceAdd]
    refine rdC (hR.head 1 _ rfl) (Ext.refl _) ?_
    simp only [hix, SSd, Nat.reduceAdd]
    refine rdC (hcv 1 _ rfl) (Ext.refl _) ?_
    try simp only [SSd, Nat.reduceAdd]
    refine gd_split (fun c2 => ?_) (fun c2 => next (by unfold chI; rw [Bool.eq_false_iff.2 c2]; simp))
    try simp only [SSd, Nat.reduceAdd]
    refine br_split (fun c3 => ?_) (fun c3 => next (by unfold chI; rw [c3]; simp))
    have hy := hanyI (by unfold chI; rw [c1, c2, c3]; rfl)
    rw [hy] at hk
    exact Gh.to L (Gh.done hk)
  have hiI : i = Is.length := by simp at e4; omega
  subst hiI
  rw [List.take_length] at hA2
  rw [hA2] at hk
  exact Gh.to L (Gh.done hk)
end
end Go.Proofs.YtmnnnoinfhiilaaGreatDoor
-- S3
set_option linter.unusedSimpArgs false
set_option linter.unusedVariables false
namespace Go.Proofs.YtmnnnoinfhiilaaGreatDoor
open Go.SL
set_option maxRecDepth 10000
section
variable {ω : Om} {I : Imm} {L : LH} {K : Value → M}
theorem rec_appG {α : Type} {R : Imm → α → List Value → Prop} {T n bytes : Nat} {z : Array Value} {X6 L0 F : LH} {v : Value} {xs : List α} {x : α} {c cells : List Value} [SplitL X6 L0 F] (hz : z.size = n) (hn : 0 < n) (h6 : SlO T n X6 v cells xs.length) (hR : Recs (R I) n xs cells) (hx : R I x c) (hcl : c.length = n) (h1 : ∀ u ∈ c, u.oneCell' = true) (hb : (xs.length + 1) * bytes ≤ 150000000000000) (hl : xs.length + 1 ≤ 150000000000000)
    (hk : ∀ X1 X6' v' cells', SlO T n X6' v' cells' (xs ++ [x]).length → Recs (R I) n (xs ++ [x]) cells' → Gh (K v') I (X6' ++ (X1 ++ F))) :
    BldS T n z 1 [(0, .agg c.toArray)] (gh fun u => App T n bytes z v u (gh K)) I L0 := by
  refine bld_one hz hn (by simpa [Value.cells] using hcl) (fun X1 u hX1 => ?_)
  refine app_ownG (X := X6) hz h6 (hX1.news (fun x hx => List.mem_append_left _ hx)) (fun u hu => h1 u (by simpa [Value.cells] using hu)) hb hl (fun X' v' hX' => ?_)
  exact hk X1 X' v' _ (by simpa [Value.cells] using hX') (Recs.append hR (Recs.one (by simpa [Value.cells] using hcl) (by simpa [Value.cells] using hx)))
abbrev refO (vV vI : Value) (fl : TStamp) : Obj := .cells #[vV, vI, .int .i64 fl.fWall, .int .i64 fl.fLogic] 32 (0, 0)
theorem refF {b : Nat} {vV vI : Value} {V : List TVersion} {Is : List TIntent} {fl : TStamp} (hm : (b, refO vV vI fl) ∈ L) (h1 : RL TVersionV 5 I [] vV V) (h2 : RL TIntentV 6 I [] vI Is) : RefF I L b vV vI V Is fl :=
  ⟨own_cells (l := [vV, vI, .int .i64 fl.fWall, .int .i64 fl.fLogic]) hm 4, h1, h2⟩
abbrev intO (v0 v1 : Value) (x : TIntent) : Obj := .cells #[v0, .int .i64 x.fTxn, .int .i64 x.fAt.fWall, .int .i64 x.fAt.fLogic, .bool x.fDel, v1] 37 (0, 0)
theorem set3_spec {b b1 i : Nat} {vV vI v0 v1 v : Value} {V : List TVersion} {Is : List TIntent} {fl : TStamp} {x : TIntent} {d : Bool} {acc : List TIntent} {cells : List Value} {XO F : LH} {Kn0 : (Value × Value × Value × Unit) → M} (hV : RL TVersionV 5 I [] vV V) (hI : RL TIntentV 6 I [] vI Is) (h0 : Bytes I v0 x.fKey) (hi : i < Is.length) (hil : Is.length ≤ 400000000)
    (hO : SlO 37 6 XO v cells acc.length) (hR : Recs (TIntentV I) 6 acc cells) (hal : acc.length ≤ 800000000)
    (hk : ∀ XO' v' cells', SlO 37 6 XO' v' cells' (acc ++ (if Is[i].fKey ≠ x.fKey then [Is[i]] else [])).length → Recs (TIntentV I) 6 (acc ++ (if Is[i].fKey ≠ x.fKey then [Is[i]] else [])) cells' → Gh (Kn0 (v', .bool d, .int .i64 ((i : Int) + 1), ())) I ((b1, intO v0 v1 x) :: (b, refO vV vI fl) :: (XO' ++ F))) :
    sh61_3 ω (pt b) (pt b1) v (.bool d) (.int .i64 i) (fun s => Gh (Kn0 s)) (fun v => Gh (K v)) I ((b1, intO v0 v1 x) :: (b, refO vV vI fl) :: (XO ++ F)) := by
  obtain ⟨q, off, c, hix, hcl, hc, hcc⟩ := RL.ix hI (i := (i : Int)) (by omega) (by omega)
  rw [geti_nat hi] at hc
  generalize Is[i] = y at *
  obtain ⟨w0, w1, rfl, g0, g1⟩ := hc
  have hcv := hcc I [] (Ext.refl _) (fun _ h => h)
  unfold sh61_3
  refine drawC ?_
  try simp only [SSd, Nat.reduceAdd]
  refine rdbS ?_
  simp only [hix, SSd, Nat.reduceAdd]
  refine rdCS (hcv 0 _ rfl) (Ext.refl _) ?_
  refine bs_I g0 (Ext.refl _) ?_
  try simp only [SSd, Nat.reduceAdd]
  refine rdbS ?_
  refine bs_I h0 (Ext.refl _) ?_
  simp only [sNe, SSd, Nat.reduceAdd]
  refine br_split (fun e => ?_) (fun e => ?_)
  · have e' : y.fKey ≠ x.fKey := by simpa using e
    rw [if_pos e'] at hk
    refine rdb ?_
    simp only [hix, SSd, Nat.reduceAdd]
    refine rdNC hcv (Ext.refl _) rfl ?_
    refine rec_app (R := TIntentV) (X6 := XO) (x := y) rfl (by omega) hO hR ⟨w0, w1, rfl, g0, g1⟩ rfl (by
      obtain ⟨_, _, rfl⟩ := Bytes.form g0
      obtain ⟨_, _, rfl⟩ := Bytes.form g1
      exact one_all rfl) (by omega) (by omega) (fun X1 X6 v6 cells6 h6 hR6 => ?_)
    unfold sh61_5
    try simp only [SSd, Nat.reduceAdd]
    rw [wrap_i64 _ (by omega)]
    exact Gh.to ((b1, intO v0 v1 x) :: (b, refO vV vI fl) :: (X6 ++ F)) (hk X6 v6 cells6 h6 hR6)
  · have e' : ¬ y.fKey ≠ x.fKey := by simpa using e
    rw [if_neg e', List.append_nil] at hk
    unfold sh61_5
    try simp only [SSd, Nat.reduceAdd]
    rw [wrap_i64 _ (by omega)]
    exact hk XO v cells hO hR
theorem setint_spec {b : Nat} {vV vI v0 v1 : Value} {V : List TVersion} {Is : List TIntent} {fl : TStamp} {x : TIntent} {F : LH} (hV : RL TVersionV 5 I [] vV V) (hI : RL TIntentV 6 I [] vI Is) (h0 : Bytes I v0 x.fKey) (h1 : Bytes I v1 x.fValue) (hil : Is.length ≤ 400000000)
    (hk : ∀ I' vI', Ext I I' → RL TIntentV 6 I' [] vI' (setL x false Is) → K (.tuple #[]) I' ((b, refO vV vI' fl) :: F)) :
    Cal Tryz.prog ω 61 #[pt b, .agg (itV v0 v1 x).toArray] K I ((b, refO vV vI fl) :: F) := by
  have hx : TIntentV I x (itV v0 v1 x) := ⟨v0, v1, rfl, h0, h1⟩
  have hx1 : ∀ u ∈ itV v0 v1 x, u.oneCell' = true := by
    obtain ⟨_, _, rfl⟩ := Bytes.form h0
    obtain ⟨_, _, rfl⟩ := Bytes.form h1
    exact one_all rfl
  refine cal61 ?_
  unfold sh61
  refine newI (fun b1 => ?_)
  refine loop (fun n s I' L' => I' = I ∧ ∃ (i : Nat) (d : Bool) (XO : LH) (v : Value) (acc : List TIntent) (cells : List Value), n + i = Is.length ∧ s = (v, .bool d, .int .i64 i, ()) ∧ L' = (b1, intO v0 v1 x) :: (b, refO vV vI fl) :: (XO ++ F) ∧ SlO 37 6 XO v cells acc.length ∧ Recs (TIntentV I) 6 acc cells ∧ acc.length ≤ 2 * i ∧
      acc ++ setL x d (Is.drop i) = setL x false Is) Is.length ⟨rfl, 0, false, [], _, [], [], rfl, rfl, rfl, SlO.none _ _, rfl, by simp, rfl⟩ ?_
  rintro n s I' L' ⟨rfl, i, d, XO, v, acc, cells, hni, rfl, rfl, hO, hR, hal, hA⟩
  unfold sh61_1
  try simp only [SSd, Nat.reduceAdd]
  refine rdb ?_
  simp only [RL.len hI, SSd, Nat.reduceAdd]
  have end8 : ∀ (XO : LH) (v : Value) (cells : List Value) (acc : List TIntent), SlO 37 6 XO v cells acc.length → Recs (TIntentV I') 6 acc cells → acc = setL x false Is → sh61_8 ω (pt b) v (fun v => Gh (K v)) I' ((b1, intO v0 v1 x) :: (b, refO vV vI fl) :: (XO ++ F)) := by
    intro XO v cells acc hO hR he
    subst he
    obtain ⟨oa, oc, rfl⟩ := hO.form
    unfold sh61_8
    try simp only [SSd, Nat.reduceAdd]
    refine st1 rfl ?_
    refine Gh.to (XO ++ ((b, refO vV (.slice oa (setL x false Is).length oc) fl) :: F)) (SlO.freeze hO (fun I3 hI3 hSl => Gh.done ?_))
    exact hk I3 _ hI3 (RL.ofI hSl (hR.imp fun x c h => h.mono hI3))
  refine br_split (fun e => ?_) (fun e => ?_)
  · have hi : i < Is.length := by simpa using e
    have hd : Is.drop i = Is[i] :: Is.drop (i + 1) := List.drop_eq_getElem_cons hi
    rw [hd, setL] at hA
    obtain ⟨q, off, c, hix, hcl, hc, hcc⟩ := RL.ix hI (i := (i : Int)) (by omega) (by omega)
    rw [geti_nat hi] at hc
    have three : ∀ (XO : LH) (v : Value) (cells : List Value) (acc : List TIntent) (d : Bool), SlO 37 6 XO v cells acc.length → Recs (TIntentV I') 6 acc cells → acc.length ≤ 2 * i + 1 → acc ++ ((if Is[i].fKey ≠ x.fKey then [Is[i]] else []) ++ setL x d (Is.drop (i + 1))) = setL x false Is →
        sh61_3 ω (pt b) (pt b1) v (.bool d) (.int .i64 i) (fun s' => Gh fun I2 L2 => ∃ m', m' < n ∧ I2 = I' ∧ ∃ (i : Nat) (d : Bool) (XO : LH) (v : Value) (acc : List TIntent) (cells : List Value), m' + i = Is.length ∧ s' = (v, .bool d, .int .i64 i, ()) ∧ L2 = (b1, intO v0 v1 x) :: (b, refO vV vI fl) :: (XO ++ F) ∧ SlO 37 6 XO v cells acc.length ∧ Recs (TIntentV I') 6 acc cells ∧ acc.length ≤ 2 * i ∧
      acc ++ setL x d (Is.drop i) = setL x false Is) (fun v => Gh (K v)) I' ((b1, intO v0 v1 x) :: (b, refO vV vI fl) :: (XO ++ F)) := by
      intro XO v cells acc d hO hR hal hA
      refine set3_spec hV hI h0 hi hil hO hR (by omega) (fun XO' v' cells' hO' hR' => Gh.done ⟨n - 1, by omega, rfl, i + 1, d, XO', v', _, cells', by omega, rfl, rfl, hO', hR', ?_, by rw [List.append_assoc]; exact hA⟩)
      rw [List.length_append]
      split <;> simp <;> omega
    generalize Is[i] = y at *
    obtain ⟨w0, w1, rfl, g0, g1⟩ := hc
    have hcv := hcc I' [] (Ext.refl _) (fun _ h => h)
    refine drawC ?_
    try simp only [SSd, Nat.reduceAdd]
    cases d with
    | true =>
      simp only [Bool.not_true, Bool.false_and, Bool.true_or] at hA
      rw [if_neg (by simp)] at hA
      simp only [Bool.not_true, SSd, Nat.reduceAdd]
      exact three XO v cells acc true hO hR (by omega) hA
    | false =>
      simp only [Bool.not_false, SSd, Nat.reduceAdd]
      refine rdbS ?_
      simp only [hix, SSd, Nat.reduceAdd]
      refine rdCS (hcv 0 _ rfl) (Ext.refl _) ?_
      refine bs_I g0 (Ext.refl _) ?_
      try simp only [SSd, Nat.reduceAdd]
      refine rdbS ?_
      refine bs_I h0 (Ext.refl _) ?_
      simp only [sGe, SSd, Nat.reduceAdd]
      refine br_split (fun e2 => ?_) (fun e2 => ?_)
      · rw [e2] at hA
        simp only [Bool.not_false, Bool.and_self, Bool.or_true, if_true] at hA
        unfold sh61_2
        refine rdB rfl ?_
        refine rec_appG (R := TIntentV) (X6 := XO) (x := x) rfl (by omega) hO hR hx rfl hx1 (by omega) (by omega) (fun X1 X6 v6 cells6 h6 hR6 => ?_)
        refine Gh.to ((b1, intO v0 v1 x) :: (b, refO vV vI fl) :: (X6 ++ F)) (Gh.done (three X6 v6 cells6 _ true h6 hR6 (by simp; omega) ?_))
        rw [List.append_assoc]; exact hA
      · rw [e2] at hA
        simp only [Bool.not_false, Bool.and_false, Bool.or_false] at hA
        rw [if_neg (by simp)] at hA
        exact three XO v cells acc false hO hR (by omega) hA
  · have hi : i = Is.length := by simp at e; omega
    subst hi
    rw [List.drop_length, setL] at hA
    unfold sh61_7
    try simp only [SSd, Nat.reduceAdd]
    cases d with
    | true =>
      simp only [Bool.not_true, SSd, Nat.reduceAdd]
      exact end8 XO v cells acc hO hR (by simpa using hA)
    | false =>
      simp only [Bool.not_false, SSd, Nat.reduceAdd]
      refine rdB rfl ?_
      refine rec_appG (R := TIntentV) (X6 := XO) (x := x) rfl (by omega) hO hR hx rfl hx1 (by omega) (by omega) (fun X1 X6 v6 cells6 h6 hR6 => ?_)
      exact Gh.to ((b1, intO v0 v1 x) :: (b, refO vV vI fl) :: (X6 ++ F)) (Gh.done (end8 X6 v6 cells6 _ h6 hR6 (by simpa using hA)))
def xAt (x : TIntent) (a : TStamp) : TIntent := ⟨x.fKey, x.fTxn, a, x.fDel, x.fValue⟩
abbrev rpL (b b1 b2 : Nat) (vV vI v0 v1 : Value) (x : TIntent) (a fl : TStamp) (F : LH) : LH := (b2, .cells #[.int .i64 0, .int .i64 0] 30 (0, 0)) :: (b1, intO v0 v1 (xAt x a)) :: (b, refO vV vI fl) :: F
theorem rput_spec {b : Nat} {vV vI : Value} {x : TIntent} {c : List Value} {F : LH} {sp : Sp} (h1 : RL TVersionV 5 I [] vV (versOf sp.rows)) (h2 : RL TIntentV 6 I [] vI (intsOf sp.rows)) (hok : SpOk sp) (hlen : sp.rows.length ≤ 100000000) (hn : versN sp.rows ≤ 100000000) (hx : TIntentV I x c)
    (hk : ∀ I' vI', Ext I I' → RL TIntentV 6 I' [] vI' (intsOf (putS sp x).rows) → K (.tuple #[sv (putA sp x).1, .int .i64 (putA sp x).2.1, .int .i64 (putA sp x).2.2]) I' ((b, refO vV vI' sp.floor) :: F)) :
    Cal Tryz.prog ω 17 #[pt b, .agg c.toArray] K I ((b, refO vV vI sp.floor) :: F) := by
  obtain ⟨v0, v1, rfl, g0, g1⟩ := hx
  have hs := hok.rise
  have hVl : (versOf sp.rows).length ≤ 100000000 := by rw [versN_len]; exact hn
  have hIl : (intsOf sp.rows).length ≤ 100000000 := by
    have := List.length_filter_le (fun r : Row => r.it.txn != 0) sp.rows
    simp [intsOf]; omega
  have hR : ∀ {L' : LH}, (b, refO vV vI sp.floor) ∈ L' → RefF I L' b vV vI (versOf sp.rows) (intsOf sp.rows) sp.floor := fun hm => refF hm h1 h2
  obtain ⟨ka, kc, rfl⟩ := Bytes.form g0
  obtain ⟨va, vc, rfl⟩ := Bytes.form g1
  have err : ∀ by' e, putA sp x = (z0, by', e) → e ≠ 0 → K (.tuple #[sv z0, .int .i64 by', .int .i64 e]) I ((b, refO vV vI sp.floor) :: F) := by
    intro by' e ha he
    have e2 : putS sp x = sp := by unfold putS; rw [ha]; exact if_pos he
    rw [e2] at hk
    have hk' := hk I vI (Ext.refl _) h2
    rw [ha] at hk'
    exact hk'
  refine cal17 ?_
  unfold sh17
  refine newI (fun b1 => newI (fun b2 => ?_))
  have bad : ∀ hb : putBad x, sh17_1 ω (pt b2) (.int .i64 0) (.int .i64 0) (fun v => Gh (K v)) I (rpL b b1 b2 vV vI (.slice ka x.fKey.length kc) (.slice va x.fValue.length vc) x x.fAt sp.floor F) := by
    intro hb
    have hk' := err 0 1 (by unfold putA; rw [if_pos hb]) (by decide)
    unfold sh17_1
    repeat' (first | (with_reducible refine drawC ?_) | (with_reducible refine drawW1 ?_) | (with_reducible refine drawW2 ?_) | (with_reducible refine keepC (by repeat (first | exact Ext.refl _ | assumption | refine Ext.trans ?_ (by assumption))) ?_) | (with_reducible refine newI (fun _ => ?_)) | first | (with_reducible refine rdb ?_) | ((with_reducible refine st1 ?_ ?_); rfl) | ((with_reducible refine rdB ?_ ?_); rfl) | (with_reducible refine rdbS ?_) | ((with_reducible refine rdBS ?_ ?_); rfl) | ((with_reducible refine stB ?_ ?_ ?_ ?_); rfl; rfl; exact one_all rfl) | ((with_reducible refine rdP _ rfl ?_ ?_); rfl) | ((with_reducible refine rdPS _ rfl ?_ ?_); rfl) | ((with_reducible refine stP _ rfl ?_ ?_ ?_ ?_); rfl; rfl; rfl) | (with_reducible refine unfE (sh17_1.eq_1 ..) ?_) | (with_reducible refine unfE (sh17_2.eq_1 ..) ?_) | (with_reducible refine unfE (sh17_8.eq_1 ..) ?_) | (with_reducible refine unfE (sh17_7.eq_1 ..) ?_) | (with_reducible refine unfE (sh17_6.eq_1 ..) ?_) | (with_reducible refine unfE (sh17_5.eq_1 ..) ?_) | (with_reducible refine unfE (sh17_4.eq_1 ..) ?_) | (with_reducible refine unfE (sh17_3.eq_1 ..) ?_) | (with_reducible refine unfE (sh17.eq_1 ..) ?_) | (with_reducible refine And.intro ?_ ?_) | (simp only [Bool.not_true, Bool.not_false, Bool.and_self, Bool.true_and, Int.reduceBEq, Int.reduceBNe, Int.reduceLT, Int.reduceLE, decide_true, decide_false, Br_true, Br_false, Gd_tt, Gd_ft, Gd_tf, Gd_ff, beq_self_eq_true, bne_self_eq_false]) | (with_reducible refine gd_split (fun _ => ?_) (fun _ => ?_)) | (with_reducible refine br_split (fun _ => ?_) (fun _ => ?_)) | (simp only [SSd, Nat.reduceAdd]))
    exact Gh.to ((b, refO vV vI sp.floor) :: F) (Gh.done hk')
  have main : ∀ (hb : ¬ putBad x), (Pv (fldV 0 (pt b1)) fun v27 => Rv none (ld1R v27) fun v28 => Cal Tryz.prog ω 57 #[pt b, v28] <| gh fun v29 => Pv (exV v29 0) fun v30 => Pv (exV v29 1) fun v31 => New (.cells #[.slice none 0 0, .int .i64 0, .int .i64 0, .int .i64 0, .bool false, .slice none 0 0] 37 (0, 0)) <| gh fun own => Sto 6 own v30 <| gh fun _ =>
      Gd v31 true (Pv (fldV 1 own) fun v33 => Rv none (ld1R v33) fun v34 => Pv (fldV 1 (pt b1)) fun v35 => Rv none (ld1R v35) fun v36 => Pv (binIV .neq v34 v36) fun v37 => Br v37 (sh17_2 ω (pt b2) (.int .i64 0) (.int .i64 0) own (fun v => Gh (K v)))
        (Draw fun S => Pv (nilV (pt b)) fun v42 => Pv (fldV 2 v42) fun v43 => Rv (some S) (ldNR 2 v43) fun v44 => Pv (fldV 2 (pt b1)) fun v45 => Rv (some S) (ldNR 2 v45) fun v46 => Cal Tryz.prog ω 58 #[v44, v46] <| gh fun v47 => Br v47 (sh17_3 ω (pt b) (pt b1) (pt b2) (.int .i64 0) (.int .i64 0) own v31 (fun v => Gh (K v))) (sh17_4 ω (pt b) (pt b1) (pt b2) (.int .i64 0) (.int .i64 0) own v31 (fun v => Gh (K v)))))
        (Draw fun S => Pv (nilV (pt b)) fun v88 => Pv (fldV 2 v88) fun v89 => Rv (some S) (ldNR 2 v89) fun v90 => Pv (fldV 2 (pt b1)) fun v91 => Rv (some S) (ldNR 2 v91) fun v92 => Cal Tryz.prog ω 58 #[v90, v92] <| gh fun v93 => Br v93 (sh17_3 ω (pt b) (pt b1) (pt b2) (.int .i64 0) (.int .i64 0) own v31 (fun v => Gh (K v))) (sh17_4 ω (pt b) (pt b1) (pt b2) (.int .i64 0) (.int .i64 0) own v31 (fun v => Gh (K v))))) I
      (rpL b b1 b2 vV vI (.slice ka x.fKey.length kc) (.slice va x.fValue.length vc) x x.fAt sp.floor F) := by
    intro hb
    have hb' := hb
    unfold putBad at hb'
    simp only [not_or, not_and, Bool.not_eq_false, Nat.not_lt, Decidable.not_not] at hb'
    have hA : putA sp x = if (itAt sp.rows x.fKey).txn ≠ 0 ∧ (itAt sp.rows x.fKey).txn ≠ x.fTxn then (z0, (itAt sp.rows x.fKey).txn, 130) else
        if (pastL (putAt sp x) (vsAt sp.rows x.fKey).getLast?).2 ≠ 0 then (z0, 0, (pastL (putAt sp x) (vsAt sp.rows x.fKey).getLast?).2) else ((pastL (putAt sp x) (vsAt sp.rows x.fKey).getLast?).1, 0, 0) := by
      unfold putA; rw [if_neg hb]
    have eight : ∀ (a : TStamp) (Z : LH), putA sp x = (a, 0, 0) → sh17_8 ω (pt b) (pt b1) (pt b2) (.int .i64 0) (.int .i64 0) (fun v => Gh (K v)) I (Z ++ rpL b b1 b2 vV vI (.slice ka x.fKey.length kc) (.slice va x.fValue.length vc) x a sp.floor F) := by
      intro a Z ha
      have e2 : putS sp x = ⟨setIt x.fKey (putIt x a) sp.rows, sp.floor⟩ := by unfold putS; rw [ha]; rfl
      rw [e2, ha] at hk
      have hset := setL_rows (it := putIt x a) (k := x.fKey) hs (txnB_ne hb'.2.1)
      unfold sh17_8
      refine rdB rfl ?_
      refine call (Cal.perm (L' := (b, refO vV vI sp.floor) :: (Z ++ ((b2, .cells #[.int .i64 0, .int .i64 0] 30 (0, 0)) :: (b1, intO (.slice ka x.fKey.length kc) (.slice va x.fValue.length vc) (xAt x a)) :: F))) (ms_perm (by ((try simp only [ms_cons, ms_app, ms_nil, ms_nil']); (try ac_rfl)))) ?_)
      refine setint_spec (x := xAt x a) h1 h2 g0 g1 (by omega) (fun I' vI' hI' h' => ?_)
      try simp only [SSd, Nat.reduceAdd]
      refine rdP [.int .i64 a.fWall, .int .i64 a.fLogic] rfl rfl ?_
      refine stB rfl rfl (one_all rfl) ?_
      refine rdB rfl ?_
      refine Gh.to ((b, refO vV vI' sp.floor) :: F) (Gh.done (hk I' vI' hI' ?_))
      rw [← hset]; exact h'
    try simp only [SSd, Nat.reduceAdd]
    refine rdb ?_
    refine call (rintent_spec (L0 := (b, refO vV vI sp.floor) :: F) (hR (List.mem_cons_self ..)) g0 (by omega) (fun o0 o1 ho0 ho1 => ?_))
    rw [ints_find hs x.fKey] at ho0 ho1 ⊢
    obtain ⟨oa, oc, rfl⟩ := Bytes.form ho0
    obtain ⟨pa, pc, rfl⟩ := Bytes.form ho1
    try simp only [SSd, Nat.reduceAdd]
    refine newI (fun b3 => ?_)
    refine stB rfl rfl (one_all rfl) ?_
    generalize hown : (itOpt sp.rows x.fKey).getD noInt = own at *
    have hz3 : ∀ a, (b3, Obj.cells (itV (.slice oa own.fKey.length oc) (.slice pa own.fValue.length pc) own).toArray 37 (0, 0)) :: rpL b b1 b2 vV vI (.slice ka x.fKey.length kc) (.slice va x.fValue.length vc) x a sp.floor F = [(b3, Obj.cells (itV (.slice oa own.fKey.length oc) (.slice pa own.fValue.length pc) own).toArray 37 (0, 0))] ++ rpL b b1 b2 vV vI (.slice ka x.fKey.length kc) (.slice va x.fValue.length vc) x a sp.floor F := fun _ => rfl
    -- behind the last version
    have six : ∀ a, a = putAt sp x → ¬ ((itAt sp.rows x.fKey).txn ≠ 0 ∧ (itAt sp.rows x.fKey).txn ≠ x.fTxn) → sh17_6 ω (pt b) (pt b1) (pt b2) (.int .i64 0) (.int .i64 0) (fun v => Gh (K v)) I ((b3, Obj.cells (itV (.slice oa own.fKey.length oc) (.slice pa own.fValue.length pc) own).toArray 37 (0, 0)) :: rpL b b1 b2 vV vI (.slice ka x.fKey.length kc) (.slice va x.fValue.length vc) x a sp.floor F) := by
      intro a ha hno
      rw [if_neg hno, ← ha] at hA
      unfold sh17_6
      try simp only [SSd, Nat.reduceAdd]
      refine rdb ?_
      refine call (rlast_spec (L0 := (b, refO vV vI sp.floor) :: F) (hR (List.mem_cons_self ..)) g0 (by omega) (fun u0 u1 hu0 hu1 => ?_))
      rw [vers_last hs x.fKey topS, last_opt hok x.fKey] at hu0 hu1 ⊢
      obtain ⟨ua, uc, rfl⟩ := Bytes.form hu0
      obtain ⟨wa, wc, rfl⟩ := Bytes.form hu1
      try simp only [SSd, Nat.reduceAdd]
      refine newI (fun b4 => ?_)
      refine stB rfl rfl (one_all rfl) ?_
      try simp only [SSd, Nat.reduceAdd]
      refine rdP [.int .i64 a.fWall, .int .i64 a.fLogic] rfl rfl ?_
      try simp only [SSd, Nat.reduceAdd]
      cases hl : (vsAt sp.rows x.fKey).getLast? with
      | none =>
        rw [hl] at hA
        simp only [Option.map_none, Option.getD_none, Option.isSome_none]
        refine rdP [.int .i64 0, .int .i64 0] rfl rfl ?_
        refine call (rbehind_spec (x := a) (y := ⟨0, 0⟩) ?_)
        try simp only [SSd, Nat.reduceAdd]
        exact eight a (_ :: [_]) hA
      | some v =>
        rw [hl] at hA
        simp only [Option.map_some, Option.getD_some, Option.isSome_some, verF]
        refine rdP [.int .i64 v.fAt.fWall, .int .i64 v.fAt.fLogic] rfl rfl ?_
        refine call (rbehind_spec (x := a) (y := v.fAt) ?_)
        try simp only [SSd, Nat.reduceAdd]
        refine br_split (fun e => ?_) (fun e => ?_)
        · have e' : ¬ bhd a v.fAt = true := by simpa using e
          have ep : pastL a (some v) = nextF v.fAt := if_neg e'
          rw [ep] at hA
          unfold sh17_7
          try simp only [SSd, Nat.reduceAdd]
          refine rdP [.int .i64 v.fAt.fWall, .int .i64 v.fAt.fLogic] rfl rfl ?_
          refine call (rnext_spec (x := v.fAt) ?_)
          try simp only [SSd, Nat.reduceAdd]
          refine newI (fun b5 => ?_)
          refine stB rfl rfl (one_all rfl) ?_
          try simp only [SSd, Nat.reduceAdd]
          refine br_split (fun e2 => ?_) (fun e2 => ?_)
          · have e2' : (nextF v.fAt).2 ≠ 0 := by simpa using e2
            rw [if_pos e2'] at hA
            have hk' := err _ _ hA e2'
            repeat' (first | (with_reducible refine drawC ?_) | (with_reducible refine drawW1 ?_) | (with_reducible refine drawW2 ?_) | (with_reducible refine keepC (by repeat (first | exact Ext.refl _ | assumption | refine Ext.trans ?_ (by assumption))) ?_) | (with_reducible refine newI (fun _ => ?_)) | first | (with_reducible refine rdb ?_) | ((with_reducible refine st1 ?_ ?_); rfl) | ((with_reducible refine rdB ?_ ?_); rfl) | (with_reducible refine rdbS ?_) | ((with_reducible refine rdBS ?_ ?_); rfl) | ((with_reducible refine stB ?_ ?_ ?_ ?_); rfl; rfl; exact one_all rfl) | ((with_reducible refine rdP _ rfl ?_ ?_); rfl) | ((with_reducible refine rdPS _ rfl ?_ ?_); rfl) | ((with_reducible refine stP _ rfl ?_ ?_ ?_ ?_); rfl; rfl; rfl) | (with_reducible refine unfE (sh17_1.eq_1 ..) ?_) | (with_reducible refine unfE (sh17_2.eq_1 ..) ?_) | (with_reducible refine unfE (sh17_8.eq_1 ..) ?_) | (with_reducible refine unfE (sh17_7.eq_1 ..) ?_) | (with_reducible refine unfE (sh17_6.eq_1 ..) ?_) | (with_reducible refine unfE (sh17_5.eq_1 ..) ?_) | (with_reducible refine unfE (sh17_4.eq_1 ..) ?_) | (with_reducible refine unfE (sh17_3.eq_1 ..) ?_) | (with_reducible refine unfE (sh17.eq_1 ..) ?_) | (with_reducible refine And.intro ?_ ?_) | (simp only [Bool.not_true, Bool.not_false, Bool.and_self, Bool.true_and, Int.reduceBEq, Int.reduceBNe, Int.reduceLT, Int.reduceLE, decide_true, decide_false, Br_true, Br_false, Gd_tt, Gd_ft, Gd_tf, Gd_ff, beq_self_eq_true, bne_self_eq_false]) | (with_reducible refine gd_split (fun _ => ?_) (fun _ => ?_)) | (with_reducible refine br_split (fun _ => ?_) (fun _ => ?_)) | (simp only [SSd, Nat.reduceAdd]))
            exact Gh.to ((b, refO vV vI sp.floor) :: F) (Gh.done hk')
          · have e2' : ¬ (nextF v.fAt).2 ≠ 0 := by simpa using e2
            rw [if_neg e2'] at hA
            refine rdB rfl ?_
            try simp only [SSd, Nat.reduceAdd]
            refine stP _ rfl rfl rfl rfl ?_
            exact eight (nextF v.fAt).1 (_ :: _ :: [_]) hA
        · have e' : bhd a v.fAt = true := by simpa using e
          have ep : pastL a (some v) = (a, 0) := if_pos e'
          rw [ep] at hA
          exact eight a (_ :: [_]) hA
    have hcase : ((itOpt sp.rows x.fKey).isSome = false ∧ (itAt sp.rows x.fKey).txn = 0) ∨ ((itOpt sp.rows x.fKey).isSome = true ∧ (itAt sp.rows x.fKey).txn ≠ 0 ∧ own.fTxn = (itAt sp.rows x.fKey).txn ∧ own.fAt = (itAt sp.rows x.fKey).ver.fAt) := by
      subst hown
      unfold itOpt itAt
      cases hr : rowOf sp.rows x.fKey with
      | none => exact .inl ⟨rfl, rfl⟩
      | some r =>
        simp only
        by_cases h0 : r.it.txn = 0
        · rw [if_pos h0]; exact .inl ⟨rfl, h0⟩
        · rw [if_neg h0]; exact .inr ⟨rfl, h0, rfl, rfl⟩
    have four : ∀ a0, a0 = (if bhd sp.floor x.fAt = true then sp.floor else x.fAt) → ¬ ((itAt sp.rows x.fKey).txn ≠ 0 ∧ (itAt sp.rows x.fKey).txn ≠ x.fTxn) → sh17_4 ω (pt b) (pt b1) (pt b2) (.int .i64 0) (.int .i64 0) (pt b3) (.bool (itOpt sp.rows x.fKey).isSome) (fun v => Gh (K v)) I ((b3, Obj.cells (itV (.slice oa own.fKey.length oc) (.slice pa own.fValue.length pc) own).toArray 37 (0, 0)) :: rpL b b1 b2 vV vI (.slice ka x.fKey.length kc) (.slice va x.fValue.length vc) x a0 sp.floor F) := by
      intro a0 ha hno
      have hat : putAt sp x = if (itAt sp.rows x.fKey).txn ≠ 0 ∧ bhd (itAt sp.rows x.fKey).ver.fAt a0 = true then (itAt sp.rows x.fKey).ver.fAt else a0 := by unfold putAt; rw [ha]
      unfold sh17_4
      try simp only [SSd, Nat.reduceAdd]
      refine rdP [.int .i64 own.fAt.fWall, .int .i64 own.fAt.fLogic] rfl rfl ?_
      try simp only [SSd, Nat.reduceAdd]
      refine rdP [.int .i64 a0.fWall, .int .i64 a0.fLogic] rfl rfl ?_
      refine call (rbehind_spec (x := own.fAt) (y := a0) ?_)
      rcases hcase with ⟨hc1, hc2⟩ | ⟨hc1, hc2, hc3, hc4⟩
      · rw [hc1]
        try simp only [SSd, Nat.reduceAdd]
        rw [if_neg (fun h => h.1 hc2)] at hat
        exact six a0 hat.symm hno
      · rw [hc1, hc4]
        try simp only [SSd, Nat.reduceAdd]
        refine br_split (fun e => ?_) (fun e => ?_)
        · rw [if_pos ⟨hc2, e⟩] at hat
          unfold sh17_5
          try simp only [SSd, Nat.reduceAdd]
          refine rdP [.int .i64 own.fAt.fWall, .int .i64 own.fAt.fLogic] rfl rfl ?_
          try simp only [SSd, Nat.reduceAdd]
          refine stP _ rfl rfl rfl rfl ?_
          exact six own.fAt (by rw [hat, hc4]) hno
        · rw [if_neg (fun h => by rw [h.2] at e; cases e)] at hat
          exact six a0 hat.symm hno
    have three : ∀ (hno : ¬ ((itAt sp.rows x.fKey).txn ≠ 0 ∧ (itAt sp.rows x.fKey).txn ≠ x.fTxn)), (Draw fun S => Pv (nilV (pt b)) fun v42 => Pv (fldV 2 v42) fun v43 => Rv (some S) (ldNR 2 v43) fun v44 => Pv (fldV 2 (pt b1)) fun v45 => Rv (some S) (ldNR 2 v45) fun v46 => Cal Tryz.prog ω 58 #[v44, v46] <| gh fun v47 =>
        Br v47 (sh17_3 ω (pt b) (pt b1) (pt b2) (.int .i64 0) (.int .i64 0) (pt b3) (.bool (itOpt sp.rows x.fKey).isSome) (fun v => Gh (K v))) (sh17_4 ω (pt b) (pt b1) (pt b2) (.int .i64 0) (.int .i64 0) (pt b3) (.bool (itOpt sp.rows x.fKey).isSome) (fun v => Gh (K v)))) I ((b3, Obj.cells (itV (.slice oa own.fKey.length oc) (.slice pa own.fValue.length pc) own).toArray 37 (0, 0)) :: rpL b b1 b2 vV vI (.slice ka x.fKey.length kc) (.slice va x.fValue.length vc) x x.fAt sp.floor F) := by
      intro hno
      refine drawC ?_
      try simp only [SSd, Nat.reduceAdd]
      refine rdPS [.int .i64 sp.floor.fWall, .int .i64 sp.floor.fLogic] rfl rfl ?_
      try simp only [SSd, Nat.reduceAdd]
      refine rdPS [.int .i64 x.fAt.fWall, .int .i64 x.fAt.fLogic] rfl rfl ?_
      refine call (rbehind_spec (x := sp.floor) (y := x.fAt) ?_)
      refine br_split (fun e => ?_) (fun e => ?_)
      · unfold sh17_3
        try simp only [SSd, Nat.reduceAdd]
        refine rdP [.int .i64 sp.floor.fWall, .int .i64 sp.floor.fLogic] rfl rfl ?_
        try simp only [SSd, Nat.reduceAdd]
        refine stP _ rfl rfl rfl rfl ?_
        exact four sp.floor (by rw [if_pos e]) hno
      · exact four x.fAt (by rw [if_neg (by rw [e]; simp)]) hno
    rcases hcase with ⟨hc1, hc2⟩ | ⟨hc1, hc2, hc3, hc4⟩
    · have th := three (fun h => h.1 hc2)
      rw [hc1] at th ⊢
      simp only [SSd, Nat.reduceAdd] at th ⊢
      exact th
    · rw [hc1]
      try simp only [SSd, Nat.reduceAdd]
      refine rdb ?_
      try simp only [SSd, Nat.reduceAdd]
      refine rdb ?_
      try simp only [SSd, Nat.reduceAdd]
      refine br_split (fun e => ?_) (fun e => ?_)
      · have e' : own.fTxn ≠ x.fTxn := by simpa [xAt] using e
        rw [if_pos ⟨hc2, by rw [← hc3]; exact e'⟩, ← hc3] at hA
        have hk' := err _ _ hA (by decide)
        unfold sh17_2
        refine drawW1 ?_
        try simp only [SSd, Nat.reduceAdd]
        refine rdbS ?_
        refine stB rfl rfl (one_all rfl) ?_
        refine keepC (Ext.refl _) ?_
        refine rdB rfl ?_
        exact Gh.to ((b, refO vV vI sp.floor) :: F) (Gh.done hk')
      · have e' : own.fTxn = x.fTxn := by simpa [xAt] using e
        have th := three (fun h => h.2 (by rw [← hc3]; exact e'))
        rw [hc1] at th
        simp only [SSd, Nat.reduceAdd] at th
        exact th
  try simp only [SSd, Nat.reduceAdd]
  refine rdb ?_
  refine call (riskey_spec g0 ?_)
  try simp only [SSd, Nat.reduceAdd]
  refine rdb ?_
  refine call (ristxn_spec ?_)
  try simp only [SSd, Nat.reduceAdd]
  refine rdP [.int .i64 x.fAt.fWall, .int .i64 x.fAt.fLogic] rfl rfl ?_
  refine call (rright_spec (x := x.fAt) ?_)
  try simp only [SSd, Nat.reduceAdd]
  refine gd_split (fun e => ?_) (fun e => bad (.inl (by simpa using e)))
  have k1 : keyOk x.fKey = true := by simpa using e
  try simp only [SSd, Nat.reduceAdd]
  refine gd_split (fun e => ?_) (fun e => bad (.inr (.inl (by simpa using e))))
  have k2 : txnB x.fTxn = true := by simpa using e
  try simp only [SSd, Nat.reduceAdd]
  refine gd_split (fun e => ?_) (fun e => bad (.inr (.inr (.inl (by simpa using e)))))
  have k3 : rightB x.fAt = true := by simpa using e
  try simp only [SSd, Nat.reduceAdd]
  refine rdb ?_
  try simp only [SSd, Nat.reduceAdd]
  refine gd_split (fun e => ?_) (fun e => bad (.inr (.inr (.inr (.inl (by simp at e; omega))))))
  have k4 : x.fValue.length ≤ 10000 := by simp at e; omega
  try simp only [SSd, Nat.reduceAdd]
  refine rdb ?_
  have tail : ∀ (hd : ¬ (x.fDel = true ∧ x.fValue ≠ [])), ¬ putBad x := by
    intro hd
    unfold putBad
    rintro (h | h | h | h | h)
    · rw [k1] at h; cases h
    · rw [k2] at h; cases h
    · rw [k3] at h; cases h
    · omega
    · exact hd h
  refine gd_split (fun e => ?_) (fun e => main (tail (fun h => e h.1)))
  try simp only [SSd, Nat.reduceAdd]
  refine rdb ?_
  try simp only [SSd, Nat.reduceAdd]
  refine br_split (fun e2 => ?_) (fun e2 => ?_)
  · exact bad (.inr (.inr (.inr (.inr ⟨e, fun h => by rw [h] at e2; simp at e2⟩))))
  · have hm := main (tail (fun h => by simp at e2; exact h.2 e2))
    simp only [SSd, Nat.reduceAdd] at hm
    exact hm
end
end Go.Proofs.YtmnnnoinfhiilaaGreatDoor
-- S3
set_option linter.unusedSimpArgs false
set_option linter.unusedVariables false
namespace Go.Proofs.YtmnnnoinfhiilaaGreatDoor
open Go.SL
set_option maxRecDepth 10000
section
variable {ω : Om} {I : Imm} {L : LH} {K : Value → M}
theorem gt_blt (a b : List UInt8) : (!(blt a b || a == b)) = blt b a := by
  cases h : blt b a with
  | true =>
    have h1 := blt_asymm h
    have h2 := blt_ne' h
    rw [h1]; simpa using h2
  | false =>
    cases h2 : blt a b with
    | true => rfl
    | false => rw [blt_total a b h2 h]; simp
abbrev rrL (b bat b3 : Nat) (vV vI o0 o1 : Value) (own : TIntent) (a fl : TStamp) (Z F : LH) : LH := Z ++ ((b3, intO o0 o1 own) :: (bat, stO a) :: (b, refO vV vI fl) :: F)
theorem rr12_spec {b bat b3 i : Nat} {vV vI o0 o1 v : Value} {own : TIntent} {a fl : TStamp} {Z XO F : LH} {V acc : List TVersion} {cells : List Value} {d : Bool} {Kn1 : (Value × Value × Value × Unit) → M} (hV : RL TVersionV 5 I [] vV V) (hi : i < V.length) (hVl : V.length ≤ 400000000)
    (hO : SlO 99 5 XO v cells acc.length) (hR : Recs (TVersionV I) 5 acc cells) (hal : acc.length ≤ 800000000)
    (hk : ∀ XO' v' cells', SlO 99 5 XO' v' cells' (acc ++ [V[i]]).length → Recs (TVersionV I) 5 (acc ++ [V[i]]) cells' → Gh (Kn1 (v', .bool d, .int .i64 ((i : Int) + 1), ())) I (rrL b bat b3 vV vI o0 o1 own a fl Z (XO' ++ F))) :
    sh19_12 ω (pt b) v (.bool d) (.int .i64 i) (fun s => Gh (Kn1 s)) (fun v => Gh (K v)) I (rrL b bat b3 vV vI o0 o1 own a fl Z (XO ++ F)) := by
  obtain ⟨q, off, c, hix, hcl, hc, hcc⟩ := RL.ix hV (i := (i : Int)) (by omega) (by omega)
  rw [geti_nat hi] at hc
  generalize V[i] = y at *
  obtain ⟨w0, w1, rfl, g0, g1⟩ := hc
  have hcv := hcc I [] (Ext.refl _) (fun _ h => h)
  unfold sh19_12
  try simp only [SSd, Nat.reduceAdd]
  refine rdb ?_
  simp only [hix, SSd, Nat.reduceAdd]
  refine rdNC hcv (Ext.refl _) rfl ?_
  refine rec_app (R := TVersionV) (X6 := XO) (x := y) rfl (by omega) hO hR ⟨w0, w1, rfl, g0, g1⟩ rfl (by
    obtain ⟨_, _, rfl⟩ := Bytes.form g0
    obtain ⟨_, _, rfl⟩ := Bytes.form g1
    exact one_all rfl) (by omega) (by omega) (fun X1 X6 v6 cells6 h6 hR6 => ?_)
  try simp only [SSd, Nat.reduceAdd]
  rw [wrap_i64 _ (by omega)]
  exact Gh.to (rrL b bat b3 vV vI o0 o1 own a fl Z (X6 ++ F)) (hk X6 v6 cells6 h6 hR6)
theorem rrV_spec {b bat b3 : Nat} {vV vI a1 o0 o1 p10 p11 : Value} {own : TIntent} {a fl : TStamp} {Z F : LH} {V : List TVersion} {k : List UInt8} (hV : RL TVersionV 5 I [] vV V) (hVl : V.length ≤ 400000000) (hB : Bytes I a1 k) (h1 : Bytes I o1 own.fValue)
    (hk : ∀ I' vV', Ext I I' → RL TVersionV 5 I' [] vV' (insL ⟨k, a, own.fDel, own.fValue⟩ false V) → K (.tuple #[.bool true, .int .i64 0]) I' ((b, refO vV' vI fl) :: F)) :
    (LoopM ((.slice none 0 0, .bool false, .int .i64 0, ()) : Value × Value × Value × Unit) fun s Kn1 => sh19_10 ω (pt b) a1 (pt bat) p10 p11 (pt b3) s.1 s.2.1 s.2.2.1 Kn1 (fun v => Gh (K v))) I (rrL b bat b3 vV vI o0 o1 own a fl Z F) := by
  obtain ⟨ka, kc, rfl⟩ := Bytes.form hB
  obtain ⟨va, vc, rfl⟩ := Bytes.form h1
  generalize hnv : (⟨k, a, own.fDel, own.fValue⟩ : TVersion) = nv at *
  have hnk : nv.fKey = k := by rw [← hnv]
  have hrec : ∀ {I' : Imm}, Ext I I' → TVersionV I' nv [.slice ka k.length kc, .int .i64 a.fWall, .int .i64 a.fLogic, .bool own.fDel, .slice va own.fValue.length vc] := fun hI => by
    rw [← hnv]; exact ⟨_, _, rfl, hB.mono hI, h1.mono hI⟩
  refine loop (fun n s I' L' => I' = I ∧ ∃ (i : Nat) (d : Bool) (XO : LH) (v : Value) (acc : List TVersion) (cells : List Value), n + i = V.length ∧ s = (v, .bool d, .int .i64 i, ()) ∧ L' = rrL b bat b3 vV vI o0 (.slice va own.fValue.length vc) own a fl Z (XO ++ F) ∧ SlO 99 5 XO v cells acc.length ∧ Recs (TVersionV I) 5 acc cells ∧ acc.length ≤ 2 * i ∧
      acc ++ insL nv d (V.drop i) = insL nv false V) V.length ⟨rfl, 0, false, [], _, [], [], rfl, rfl, rfl, SlO.none _ _, rfl, by simp, rfl⟩ ?_
  rintro n s I' L' ⟨rfl, i, d, XO, v, acc, cells, hni, rfl, rfl, hO, hR, hal, hA⟩
  unfold sh19_10
  try simp only [SSd, Nat.reduceAdd]
  refine rdb ?_
  simp only [RL.len hV, SSd, Nat.reduceAdd]
  have end8 : ∀ (XO : LH) (v : Value) (cells : List Value) (acc : List TVersion), SlO 99 5 XO v cells acc.length → Recs (TVersionV I') 5 acc cells → acc = insL nv false V → sh19_15 ω (pt b) p10 p11 v (fun v => Gh (K v)) I' (rrL b bat b3 vV vI o0 (.slice va own.fValue.length vc) own a fl Z (XO ++ F)) := by
    intro XO v cells acc hO hR he
    subst he
    obtain ⟨oa, oc, rfl⟩ := hO.form
    unfold sh19_15
    try simp only [SSd, Nat.reduceAdd]
    refine st1 rfl ?_
    refine Gh.to (XO ++ ((b, refO (.slice oa (insL nv false V).length oc) vI fl) :: F)) (SlO.freeze hO (fun I3 hI3 hSl => Gh.done ?_))
    exact hk I3 _ hI3 (RL.ofI hSl (hR.imp fun x c h => h.mono hI3))
  refine br_split (fun e => ?_) (fun e => ?_)
  · have hi : i < V.length := by simpa using e
    have hd : V.drop i = V[i] :: V.drop (i + 1) := List.drop_eq_getElem_cons hi
    rw [hd, insL, hnk] at hA
    obtain ⟨q, off, c, hix, hcl, hc, hcc⟩ := RL.ix hV (i := (i : Int)) (by omega) (by omega)
    rw [geti_nat hi] at hc
    have three : ∀ (XO : LH) (v : Value) (cells : List Value) (acc : List TVersion) (d : Bool), SlO 99 5 XO v cells acc.length → Recs (TVersionV I') 5 acc cells → acc.length ≤ 2 * i + 1 → acc ++ (V[i] :: insL nv d (V.drop (i + 1))) = insL nv false V →
        sh19_12 ω (pt b) v (.bool d) (.int .i64 i) (fun s' => Gh fun I2 L2 => ∃ m', m' < n ∧ I2 = I' ∧ ∃ (i : Nat) (d : Bool) (XO : LH) (v : Value) (acc : List TVersion) (cells : List Value), m' + i = V.length ∧ s' = (v, .bool d, .int .i64 i, ()) ∧ L2 = rrL b bat b3 vV vI o0 (.slice va own.fValue.length vc) own a fl Z (XO ++ F) ∧ SlO 99 5 XO v cells acc.length ∧ Recs (TVersionV I') 5 acc cells ∧ acc.length ≤ 2 * i ∧
      acc ++ insL nv d (V.drop i) = insL nv false V) (fun v => Gh (K v)) I' (rrL b bat b3 vV vI o0 (.slice va own.fValue.length vc) own a fl Z (XO ++ F)) := by
      intro XO v cells acc d hO hR hal hA
      refine rr12_spec hV hi hVl hO hR (by omega) (fun XO' v' cells' hO' hR' => Gh.done ⟨n - 1, by omega, rfl, i + 1, d, XO', v', _, cells', by omega, rfl, rfl, hO', hR', ?_, by rw [List.append_assoc]; exact hA⟩)
      rw [List.length_append]
      simp; omega
    generalize V[i] = y at *
    obtain ⟨w0, w1, rfl, g0, g1⟩ := hc
    have hcv := hcc I' [] (Ext.refl _) (fun _ h => h)
    refine drawC ?_
    try simp only [SSd, Nat.reduceAdd]
    cases d with
    | true =>
      simp only [Bool.not_true, Bool.false_and, Bool.true_or] at hA
      rw [if_neg (by simp)] at hA
      simp only [Bool.not_true, SSd, Nat.reduceAdd]
      exact three XO v cells acc true hO hR (by omega) hA
    | false =>
      simp only [Bool.not_false, SSd, Nat.reduceAdd]
      refine rdbS ?_
      simp only [hix, SSd, Nat.reduceAdd]
      refine rdCS (hcv 0 _ rfl) (Ext.refl _) ?_
      refine bs_I g0 (Ext.refl _) ?_
      refine bs_I hB (Ext.refl _) ?_
      simp only [sGt, gt_blt, SSd, Nat.reduceAdd]
      refine br_split (fun e2 => ?_) (fun e2 => ?_)
      · rw [e2] at hA
        simp only [Bool.not_false, Bool.and_self, Bool.or_true, if_true] at hA
        unfold sh19_11
        refine rdB rfl ?_
        try simp only [SSd, Nat.reduceAdd]
        refine rdb ?_
        try simp only [SSd, Nat.reduceAdd]
        refine rdb ?_
        try simp only [SSd, Nat.reduceAdd]
        refine rec_appG (R := TVersionV) (X6 := XO) (x := nv) rfl (by omega) hO hR (hrec (Ext.refl _)) rfl (one_all rfl) (by omega) (by omega) (fun X1 X6 v6 cells6 h6 hR6 => ?_)
        refine Gh.to (rrL b bat b3 vV vI o0 (.slice va own.fValue.length vc) own a fl Z (X6 ++ F)) (Gh.done (three X6 v6 cells6 _ true h6 hR6 (by simp; omega) ?_))
        rw [List.append_assoc]; exact hA
      · rw [e2] at hA
        simp only [Bool.not_false, Bool.and_false, Bool.or_false] at hA
        rw [if_neg (by simp)] at hA
        exact three XO v cells acc false hO hR (by omega) hA
  · have hi : i = V.length := by simp at e; omega
    subst hi
    rw [List.drop_length, insL] at hA
    unfold sh19_14
    try simp only [SSd, Nat.reduceAdd]
    cases d with
    | true =>
      simp only [Bool.not_true, SSd, Nat.reduceAdd]
      exact end8 XO v cells acc hO hR (by simpa using hA)
    | false =>
      simp only [Bool.not_false, SSd, Nat.reduceAdd]
      refine rdB rfl ?_
      try simp only [SSd, Nat.reduceAdd]
      refine rdb ?_
      try simp only [SSd, Nat.reduceAdd]
      refine rdb ?_
      try simp only [SSd, Nat.reduceAdd]
      refine rec_appG (R := TVersionV) (X6 := XO) (x := nv) rfl (by omega) hO hR (hrec (Ext.refl _)) rfl (one_all rfl) (by omega) (by omega) (fun X1 X6 v6 cells6 h6 hR6 => ?_)
      exact Gh.to (rrL b bat b3 vV vI o0 (.slice va own.fValue.length vc) own a fl Z (X6 ++ F)) (Gh.done (end8 X6 v6 cells6 _ h6 hR6 (by simpa using hA)))
theorem rrI_spec {b bat b3 : Nat} {vV vI a1 o0 o1 p10 p11 : Value} {own : TIntent} {a fl : TStamp} {yes : Bool} {Z F : LH} {V : List TVersion} {Is : List TIntent} {k : List UInt8} (hV : RL TVersionV 5 I [] vV V) (hI : RL TIntentV 6 I [] vI Is) (hVl : V.length ≤ 400000000) (hIl : Is.length ≤ 400000000) (hB : Bytes I a1 k) (h1 : Bytes I o1 own.fValue)
    (hk : ∀ I' vV' vI', Ext I I' → RL TVersionV 5 I' [] vV' (if yes = true then insL ⟨k, a, own.fDel, own.fValue⟩ false V else V) → RL TIntentV 6 I' [] vI' (Is.filter fun x => x.fKey != k) → K (.tuple #[.bool true, .int .i64 0]) I' ((b, refO vV' vI' fl) :: F)) :
    (LoopM ((.slice none 0 0, .int .i64 0, ()) : Value × Value × Unit) fun s Kn0 => sh19_4 ω (pt b) a1 (.bool yes) (pt bat) p10 p11 (pt b3) s.1 s.2.1 Kn0 (fun v => Gh (K v))) I (rrL b bat b3 vV vI o0 o1 own a fl Z F) := by
  refine loop (fun n s I' L' => I' = I ∧ ∃ (i : Nat) (XO : LH) (v : Value) (cells : List Value), n + i = Is.length ∧ s = (v, .int .i64 i, ()) ∧ L' = rrL b bat b3 vV vI o0 o1 own a fl Z (XO ++ F) ∧ SlO 37 6 XO v cells ((Is.take i).filter fun x => x.fKey != k).length ∧ Recs (TIntentV I) 6 ((Is.take i).filter fun x => x.fKey != k) cells) Is.length ⟨rfl, 0, [], _, [], rfl, rfl, rfl, SlO.none _ _, rfl⟩ ?_
  rintro n s I' L' ⟨rfl, i, XO, v, cells, hni, rfl, rfl, hO, hR⟩
  unfold sh19_4
  try simp only [SSd, Nat.reduceAdd]
  refine rdb ?_
  simp only [RL.len hI, SSd, Nat.reduceAdd]
  refine br_split (fun e => ?_) (fun e => ?_)
  · have hi : i < Is.length := by simpa using e
    obtain ⟨q, off, c, hix, hcl, hc, hcc⟩ := RL.ix hI (i := (i : Int)) (by omega) (by omega)
    rw [geti_nat hi] at hc
    have hfl : ((Is.take i).filter fun x => x.fKey != k).length ≤ i := by
      have := List.length_filter_le (fun x : TIntent => x.fKey != k) (Is.take i)
      rw [List.length_take] at this; omega
    have hsucc : (Is.take (i + 1)).filter (fun x => x.fKey != k) = (Is.take i).filter (fun x => x.fKey != k) ++ (if (Is[i].fKey != k) = true then [Is[i]] else []) := by
      rw [take_snoc hi, List.filter_append, List.filter_cons]
      rfl
    generalize Is[i] = y at *
    obtain ⟨w0, w1, rfl, g0, g1⟩ := hc
    have hcv := hcc I' [] (Ext.refl _) (fun _ h => h)
    refine drawC ?_
    try simp only [SSd, Nat.reduceAdd]
    refine rdbS ?_
    simp only [hix, SSd, Nat.reduceAdd]
    refine rdCS (hcv 0 _ rfl) (Ext.refl _) ?_
    refine bs_I g0 (Ext.refl _) ?_
    refine bs_I hB (Ext.refl _) ?_
    simp only [sNe, SSd, Nat.reduceAdd]
    refine br_split (fun e2 => ?_) (fun e2 => ?_)
    · rw [if_pos (by simpa using e2)] at hsucc
      unfold sh19_5
      try simp only [SSd, Nat.reduceAdd]
      refine rdb ?_
      simp only [hix, SSd, Nat.reduceAdd]
      refine rdNC hcv (Ext.refl _) rfl ?_
      refine rec_app (R := TIntentV) (X6 := XO) (x := y) rfl (by omega) hO hR ⟨w0, w1, rfl, g0, g1⟩ rfl (by
        obtain ⟨_, _, rfl⟩ := Bytes.form g0
        obtain ⟨_, _, rfl⟩ := Bytes.form g1
        exact one_all rfl) (by omega) (by omega) (fun X1 X6 v6 cells6 h6 hR6 => ?_)
      unfold sh19_7
      try simp only [SSd, Nat.reduceAdd]
      rw [wrap_i64 _ (by omega)]
      rw [← hsucc] at h6 hR6
      exact Gh.to (rrL b bat b3 vV vI o0 o1 own a fl Z (X6 ++ F)) (Gh.done ⟨n - 1, by omega, rfl, i + 1, X6, v6, cells6, by omega, rfl, rfl, h6, hR6⟩)
    · rw [if_neg (by simpa using e2), List.append_nil] at hsucc
      unfold sh19_7
      try simp only [SSd, Nat.reduceAdd]
      rw [wrap_i64 _ (by omega)]
      rw [← hsucc] at hO hR
      exact Gh.done ⟨n - 1, by omega, rfl, i + 1, XO, v, cells, by omega, rfl, rfl, hO, hR⟩
  · have hi : i = Is.length := by simp at e; omega
    subst hi
    rw [List.take_length] at hO hR
    obtain ⟨oa, oc, rfl⟩ := hO.form
    unfold sh19_9
    try simp only [SSd, Nat.reduceAdd]
    refine st1G rfl ?_
    refine Gh.perm (L' := XO ++ rrL b bat b3 vV (.slice oa (Is.filter fun x => x.fKey != k).length oc) o0 o1 own a fl Z F) (ms_perm (by ((try simp only [ms_cons, ms_app, ms_nil, ms_nil']); (try ac_rfl)))) (SlO.freeze hO (fun I3 hI3 hSl => Gh.done ?_))
    have hIn : RL TIntentV 6 I3 [] (.slice oa (Is.filter fun x => x.fKey != k).length oc) (Is.filter fun x => x.fKey != k) := RL.ofI hSl (hR.imp fun x c h => h.mono hI3)
    have hV3 : RL TVersionV 5 I3 [] vV V := hV.mono (fun x c h => h.mono hI3) hI3 (fun _ h => h)
    cases yes with
    | false =>
      simp only [Bool.not_false, SSd, Nat.reduceAdd]
      exact Gh.to ((b, refO vV (.slice oa (Is.filter fun x => x.fKey != k).length oc) fl) :: F) (Gh.done (hk I3 vV _ hI3 hV3 hIn))
    | true =>
      simp only [Bool.not_true, SSd, Nat.reduceAdd]
      exact rrV_spec hV3 hVl (hB.mono hI3) (h1.mono hI3) (fun I4 vV' hI4 h4 => hk I4 vV' _ (hI3.trans hI4) h4 (hIn.mono (fun x c h => h.mono hI4) hI4 (fun _ h => h)))
theorem rr16 : @sh19_16 = @sh19_4 := rfl
theorem rr20 : @sh19_20 = @sh19_4 := rfl
theorem rresolve_spec {b : Nat} {vV vI a1 : Value} {k : List UInt8} {txn : Int} {yes : Bool} {a : TStamp} {F : LH} {sp : Sp} (h1 : RL TVersionV 5 I [] vV (versOf sp.rows)) (h2 : RL TIntentV 6 I [] vI (intsOf sp.rows)) (hok : SpOk sp) (hlen : sp.rows.length ≤ 100000000) (hn : versN sp.rows ≤ 100000000) (hB : Bytes I a1 k)
    (hk : ∀ I' vV' vI', Ext I I' → RL TVersionV 5 I' [] vV' (versOf (resS sp k txn yes a).rows) → RL TIntentV 6 I' [] vI' (intsOf (resS sp k txn yes a).rows) → K (.tuple #[.bool (resA sp k txn yes a).1, .int .i64 (resA sp k txn yes a).2]) I' ((b, refO vV' vI' sp.floor) :: F)) :
    Cal Tryz.prog ω 19 #[pt b, a1, .int .i64 txn, .bool yes, sv a] K I ((b, refO vV vI sp.floor) :: F) := by
  have hs := hok.rise
  have hVl : (versOf sp.rows).length ≤ 100000000 := by rw [versN_len]; exact hn
  have hIl : (intsOf sp.rows).length ≤ 100000000 := by
    have := List.length_filter_le (fun r : Row => r.it.txn != 0) sp.rows
    simp [intsOf]; omega
  have hR : ∀ {L' : LH}, (b, refO vV vI sp.floor) ∈ L' → RefF I L' b vV vI (versOf sp.rows) (intsOf sp.rows) sp.floor := fun hm => refF hm h1 h2
  have same : ∀ x, resA sp k txn yes a = (false, x) → K (.tuple #[.bool false, .int .i64 x]) I ((b, refO vV vI sp.floor) :: F) := by
    intro x e
    have e2 : resS sp k txn yes a = sp := by unfold resS; rw [e]; rfl
    rw [e2] at hk
    have hk' := hk I vV vI (Ext.refl _) h1 h2
    rw [e] at hk'
    exact hk'
  by_cases hbad : keyOk k = false ∨ txnB txn = false ∨ (yes = true ∧ rightB a = false)
  · have hk' := same 1 (by unfold resA; rw [if_pos hbad])
    refine cal19 ?_
    unfold sh19
    refine newI (fun bat => ?_)
    refine call (riskey_spec hB ?_)
    refine call (ristxn_spec ?_)
    refine rdB rfl ?_
    refine call (rright_spec (x := a) ?_)
    try simp only [SSd, Nat.reduceAdd]
    refine gd_split (fun e => ?_) (fun e => Gh.to ((b, refO vV vI sp.floor) :: F) (Gh.done hk'))
    try simp only [SSd, Nat.reduceAdd]
    refine gd_split (fun e2 => ?_) (fun e2 => Gh.to ((b, refO vV vI sp.floor) :: F) (Gh.done hk'))
    have hy : yes = true ∧ rightB a = false := by
      rcases hbad with h | h | h
      · rw [h] at e; simp at e
      · rw [h] at e2; simp at e2
      · exact h
    simp only [hy.1, hy.2, Bool.not_false, SSd, Nat.reduceAdd]
    exact Gh.to ((b, refO vV vI sp.floor) :: F) (Gh.done hk')
  have hA : resA sp k txn yes a = if (itAt sp.rows k).txn ≠ txn then (false, 0) else if yes = true ∧ (bhd (itAt sp.rows k).ver.fAt a = true ∨ earlyB a (vsAt sp.rows k).getLast? = true) then (false, 1) else (true, 0) := by unfold resA; rw [if_neg hbad]
  simp only [not_or, Bool.not_eq_false, not_and] at hbad
  obtain ⟨k1, k2, k3⟩ := hbad
  have kt := txnB_ne k2
  -- what is left to do
  have work : ∀ (bat : Nat), (Cal Tryz.prog ω 57 #[pt b, a1] <| gh fun v9 => Pv (exV v9 0) fun v10 => Pv (exV v9 1) fun v11 => New (.cells #[.slice none 0 0, .int .i64 0, .int .i64 0, .int .i64 0, .bool false, .slice none 0 0] 37 (0, 0)) <| gh fun x12 => Sto 6 x12 v10 <| gh fun _ => Pv (unV .not v11) fun v13 => Gd v13 false
      (Pv (fldV 1 x12) fun v14 => Rv none (ld1R v14) fun v15 => Pv (binIV .neq v15 (.int .i64 txn)) fun v16 => Br v16 (Gh (K (.tuple #[.bool false, .int .i64 0])))
        (Pv (fldV 2 x12) fun v17 => Rv none (ldNR 2 v17) fun v18 => Rv none (ldNR 2 (pt bat)) fun v19 => Cal Tryz.prog ω 58 #[v18, v19] <| gh fun v20 => Cal Tryz.prog ω 59 #[pt b, a1] <| gh fun v21 => Pv (exV v21 0) fun v22 => Pv (exV v21 1) fun v23 => New (.cells #[.slice none 0 0, .int .i64 0, .int .i64 0, .bool false, .slice none 0 0] 99 (0, 0)) <| gh fun v24 => Sto 5 v24 v22 <| gh fun _ =>
          Rv none (ldNR 2 (pt bat)) fun v25 => Pv (fldV 1 v24) fun v26 => Rv none (ldNR 2 v26) fun v27 => Cal Tryz.prog ω 58 #[v25, v27] <| gh fun v28 => Gd (.bool yes) true
            (Gd v20 false (Gd v23 true (Pv (unV .not v28) fun v29 => Br v29 (Gh (K (.tuple #[.bool false, .int .i64 1]))) (LoopM ((.slice none 0 0, .int .i64 0, ()) : Value × Value × Unit) fun s Kn0 => sh19_4 ω (pt b) a1 (.bool yes) (pt bat) (.bool false) (.int .i64 0) x12 s.1 s.2.1 Kn0 (fun v => Gh (K v))))
              (LoopM ((.slice none 0 0, .int .i64 0, ()) : Value × Value × Unit) fun s Kn0 => sh19_4 ω (pt b) a1 (.bool yes) (pt bat) (.bool false) (.int .i64 0) x12 s.1 s.2.1 Kn0 (fun v => Gh (K v))))
              (Gh (K (.tuple #[.bool false, .int .i64 1]))))
            (LoopM ((.slice none 0 0, .int .i64 0, ()) : Value × Value × Unit) fun s Kn0 => sh19_4 ω (pt b) a1 (.bool yes) (pt bat) (.bool false) (.int .i64 0) x12 s.1 s.2.1 Kn0 (fun v => Gh (K v)))))
      (Gh (K (.tuple #[.bool false, .int .i64 0])))) I ((bat, stO a) :: (b, refO vV vI sp.floor) :: F) := by
    intro bat
    refine call (rintent_spec (L0 := (b, refO vV vI sp.floor) :: F) (hR (List.mem_cons_self ..)) hB (by omega) (fun o0 o1 ho0 ho1 => ?_))
    rw [ints_find hs k] at ho0 ho1 ⊢
    obtain ⟨oa, oc, rfl⟩ := Bytes.form ho0
    obtain ⟨pa, pc, rfl⟩ := Bytes.form ho1
    try simp only [SSd, Nat.reduceAdd]
    refine newI (fun b3 => ?_)
    refine stB rfl rfl (one_all rfl) ?_
    have gone : ∀ {x : Int} {L' : LH} [SubP ((b, refO vV vI sp.floor) :: F) L'], resA sp k txn yes a = (false, x) → Gh (K (.tuple #[.bool false, .int .i64 x])) I L' := fun h => Gh.to ((b, refO vV vI sp.floor) :: F) (Gh.done (same _ h))
    cases ho : itOpt sp.rows k with
    | none =>
      have h0 : (itAt sp.rows k).txn = 0 := by
        unfold itOpt at ho
        unfold itAt
        cases hr : rowOf sp.rows k with
        | none => rfl
        | some r =>
          rw [hr] at ho
          simp only at ho ⊢
          by_cases h0 : r.it.txn = 0
          · exact h0
          · rw [if_neg h0] at ho; cases ho
      rw [if_pos (by rw [h0]; exact fun h => kt h.symm)] at hA
      simp only [Option.isSome_none, Bool.not_false, SSd, Nat.reduceAdd]
      exact gone hA
    | some own =>
      have hr : ∃ r, rowOf sp.rows k = some r ∧ own = itF r ∧ r.it.txn ≠ 0 := by
        unfold itOpt at ho
        cases hr : rowOf sp.rows k with
        | none => rw [hr] at ho; cases ho
        | some r =>
          rw [hr] at ho
          simp only at ho
          by_cases h0 : r.it.txn = 0
          · rw [if_pos h0] at ho; cases ho
          · rw [if_neg h0] at ho; exact ⟨r, rfl, (Option.some.inj ho).symm, h0⟩
      obtain ⟨r, hr, rfl, h0⟩ := hr
      have eit : itAt sp.rows k = r.it := by unfold itAt; rw [hr]
      have evs : vsAt sp.rows k = r.vs := by unfold vsAt; rw [hr]
      rw [eit, evs] at hA
      rw [ho] at ho1
      simp only [Option.isSome_some, Option.getD_some, Bool.not_true, SSd, Nat.reduceAdd]
      refine rdb ?_
      try simp only [SSd, Nat.reduceAdd]
      refine br_split (fun e => ?_) (fun e => ?_)
      · have e' : r.it.txn ≠ txn := by simpa [itF] using e
        rw [if_pos e'] at hA
        exact gone hA
      have e' : ¬ r.it.txn ≠ txn := by simpa [itF] using e
      rw [if_neg e'] at hA
      try simp only [SSd, Nat.reduceAdd]
      refine rdP [.int .i64 r.it.ver.fAt.fWall, .int .i64 r.it.ver.fAt.fLogic] rfl rfl ?_
      refine rdB rfl ?_
      refine call (rbehind_spec (x := r.it.ver.fAt) (y := a) ?_)
      refine call (rlast_spec (L0 := (b, refO vV vI sp.floor) :: F) (hR (List.mem_cons_self ..)) hB (by omega) (fun u0 u1 hu0 hu1 => ?_))
      rw [vers_last hs k topS, last_opt hok k, evs] at hu0 hu1 ⊢
      obtain ⟨ua, uc, rfl⟩ := Bytes.form hu0
      obtain ⟨wa, wc, rfl⟩ := Bytes.form hu1
      try simp only [SSd, Nat.reduceAdd]
      refine newI (fun b4 => ?_)
      refine stB rfl rfl (one_all rfl) ?_
      refine rdB rfl ?_
      try simp only [SSd, Nat.reduceAdd]
      have fin : resA sp k txn yes a = (true, 0) → ∀ Z : LH, (LoopM ((.slice none 0 0, .int .i64 0, ()) : Value × Value × Unit) fun s Kn0 => sh19_4 ω (pt b) a1 (.bool yes) (pt bat) (.bool false) (.int .i64 0) (.pointer (some ⟨b3, 0, none⟩)) s.1 s.2.1 Kn0 (fun v => Gh (K v))) I (rrL b bat b3 vV vI (.slice oa ((itOpt sp.rows k).getD noInt).fKey.length oc) (.slice pa (itF r).fValue.length pc) (itF r) a sp.floor Z F) := by
        intro hA' Z
        have hsp : resS sp k txn yes a = ⟨tidyR (updR k (resR yes a) sp.rows), sp.floor⟩ := by unfold resS; rw [hA']; rfl
        rw [hA', hsp] at hk
        obtain ⟨A, B, e0, hkr, hm⟩ := rowOf_split hs hr
        refine rrI_spec h1 h2 (by omega) (by omega) hB ho1 (fun I' vV' vI' hI' g1 g2 => hk I' vV' vI' hI' ?_ ?_)
        · simp only [e0] at g1 ⊢
          cases yes with
          | true => rw [res_vers hm hkr]; exact g1
          | false => rw [res_vers0 hm hkr]; exact g1
        · simp only [e0] at g2 ⊢
          rw [res_ints hm hkr]; exact g2
      rw [ho] at fin
      cases hl : r.vs.getLast? with
      | none =>
        simp only [Option.map_none, Option.getD_none, Option.isSome_none]
        refine rdP [.int .i64 0, .int .i64 0] rfl rfl ?_
        refine call (rbehind_spec (x := a) (y := ⟨0, 0⟩) ?_)
        rw [hl] at hA
        cases hy : yes with
        | false =>
          rw [hy] at fin hA
          try simp only [SSd, Nat.reduceAdd]
          exact fin (by rw [hA]; rfl) [_]
        | true =>
          rw [hy] at fin hA
          try simp only [SSd, Nat.reduceAdd]
          cases hb : bhd r.it.ver.fAt a with
          | true =>
            rw [if_pos ⟨rfl, .inl hb⟩] at hA
            try simp only [SSd, Nat.reduceAdd]
            rw [← hy] at hA
            exact gone hA
          | false =>
            try simp only [SSd, Nat.reduceAdd]
            exact fin (by rw [hA, hb]; rfl) [_]
      | some v =>
        simp only [Option.map_some, Option.getD_some, Option.isSome_some, verF]
        refine rdP [.int .i64 v.fAt.fWall, .int .i64 v.fAt.fLogic] rfl rfl ?_
        refine call (rbehind_spec (x := a) (y := v.fAt) ?_)
        rw [hl] at hA
        cases hy : yes with
        | false =>
          rw [hy] at fin hA
          try simp only [SSd, Nat.reduceAdd]
          exact fin (by rw [hA]; rfl) [_]
        | true =>
          rw [hy] at fin hA
          try simp only [SSd, Nat.reduceAdd]
          cases hb : bhd r.it.ver.fAt a with
          | true =>
            rw [if_pos ⟨rfl, .inl hb⟩] at hA
            try simp only [SSd, Nat.reduceAdd]
            rw [← hy] at hA
            exact gone hA
          | false =>
            try simp only [SSd, Nat.reduceAdd]
            cases hb2 : bhd a v.fAt with
            | true =>
              simp only [Bool.not_true, SSd, Nat.reduceAdd]
              exact fin (by rw [hA, hb]; simp [earlyB, hb2]) [_]
            | false =>
              rw [if_pos ⟨rfl, .inr (by simp [earlyB, hb2])⟩] at hA
              simp only [Bool.not_false, SSd, Nat.reduceAdd]
              rw [← hy] at hA
              exact gone hA
  refine cal19 ?_
  unfold sh19
  refine newI (fun bat => ?_)
  refine call (riskey_spec hB ?_)
  refine call (ristxn_spec ?_)
  refine rdB rfl ?_
  refine call (rright_spec (x := a) ?_)
  have w := work bat
  cases yes with
  | true =>
    simp only [k1, k2, k3 rfl, Bool.not_true, SSd, Nat.reduceAdd] at w ⊢
    rw [rr16]
    exact w
  | false =>
    simp only [k1, k2, Bool.not_true, SSd, Nat.reduceAdd] at w ⊢
    rw [rr20]
    exact w
/-! ### Collecting -/
theorem rc3_spec {b bb b3 i : Nat} {vV vI v w0 w1 : Value} {fl below : TStamp} {XO F : LH} {V : List TVersion} {cells : List Value} {Kn0 : (Value × Value × Unit) → M} (hV : RL TVersionV 5 I [] vV V) (hi : i < V.length) (hVl : V.length ≤ 400000000)
    (hO : SlO 99 5 XO v cells ((V.take i).filter (keepV V fl)).length) (hR : Recs (TVersionV I) 5 ((V.take i).filter (keepV V fl)) cells)
    (hk : ∀ XO' v' cells', SlO 99 5 XO' v' cells' ((V.take (i + 1)).filter (keepV V fl)).length → Recs (TVersionV I) 5 ((V.take (i + 1)).filter (keepV V fl)) cells' → Gh (Kn0 (v', .int .i64 ((i : Int) + 1), ())) I ((bb, stO below) :: (b, refO vV vI fl) :: (XO' ++ F))) :
    sh28_3 ω (pt b) v (.int .i64 i) (pt b3) (.bool (lastV V V[i].fKey fl).isSome) (fun s => Gh (Kn0 s)) (fun v => Gh (K v)) I ((b3, .cells (veV w0 w1 ((lastV V V[i].fKey fl).getD noVer)).toArray 99 (0, 0)) :: (bb, stO below) :: (b, refO vV vI fl) :: (XO ++ F)) := by
  obtain ⟨q, off, c, hix, hcl, hc, hcc⟩ := RL.ix hV (i := (i : Int)) (by omega) (by omega)
  rw [geti_nat hi] at hc
  have hfl : ((V.take i).filter (keepV V fl)).length ≤ i := by
    have := List.length_filter_le (keepV V fl) (V.take i)
    rw [List.length_take] at this; omega
  have hsucc : (V.take (i + 1)).filter (keepV V fl) = (V.take i).filter (keepV V fl) ++ (if keepV V fl V[i] = true then [V[i]] else []) := by
    rw [take_snoc hi, List.filter_append, List.filter_cons]
    rfl
  have hkp : keepV V fl V[i] = match lastV V V[i].fKey fl with
    | none => true
    | some k => !(bhd k.fAt V[i].fAt || (k.fAt.fWall == V[i].fAt.fWall && k.fAt.fLogic == V[i].fAt.fLogic) && k.fDel) := rfl
  generalize V[i] = y at *
  obtain ⟨u0, u1, rfl, g0, g1⟩ := hc
  have hcv := hcc I [] (Ext.refl _) (fun _ h => h)
  have hst : Cells I [] q (off + 1) [.int .i64 y.fAt.fWall, .int .i64 y.fAt.fLogic] := by simpa using hcv.sub (k := 1) (m := 2)
  have skip : ∀ (h : keepV V fl y = false), sh28_5 ω v (.int .i64 i) (fun s => Gh (Kn0 s)) (fun v => Gh (K v)) I ((b3, .cells (veV w0 w1 ((lastV V y.fKey fl).getD noVer)).toArray 99 (0, 0)) :: (bb, stO below) :: (b, refO vV vI fl) :: (XO ++ F)) := by
    intro h
    rw [if_neg (by rw [h]; simp), List.append_nil] at hsucc
    rw [hsucc] at hk
    unfold sh28_5
    try simp only [SSd, Nat.reduceAdd]
    rw [wrap_i64 _ (by omega)]
    exact Gh.to ((bb, stO below) :: (b, refO vV vI fl) :: (XO ++ F)) (hk XO v cells hO hR)
  have take : ∀ (h : keepV V fl y = true), (Pv (nilV (pt b)) fun v39 => Pv (fldV 0 v39) fun v40 => Rv none (ld1R v40) fun v41 => Pv (ixV 5 v41 (.int .i64 i)) fun v42 => Rv none (ldNR 5 v42) fun v43 => BldS 99 5 #[.slice none 0 0, .int .i64 0, .int .i64 0, .bool false, .slice none 0 0] 1 [(0, v43)] <| gh fun v44 =>
      App 99 5 72 #[.slice none 0 0, .int .i64 0, .int .i64 0, .bool false, .slice none 0 0] v v44 <| gh fun v45 => sh28_5 ω v45 (.int .i64 i) (fun s => Gh (Kn0 s)) (fun v => Gh (K v))) I ((b3, .cells (veV w0 w1 ((lastV V y.fKey fl).getD noVer)).toArray 99 (0, 0)) :: (bb, stO below) :: (b, refO vV vI fl) :: (XO ++ F)) := by
    intro h
    rw [if_pos h] at hsucc
    rw [hsucc] at hk
    try simp only [SSd, Nat.reduceAdd]
    refine rdb ?_
    simp only [hix, SSd, Nat.reduceAdd]
    refine rdNC hcv (Ext.refl _) rfl ?_
    refine rec_app (R := TVersionV) (X6 := XO) (x := y) rfl (by omega) hO hR ⟨u0, u1, rfl, g0, g1⟩ rfl (by
      obtain ⟨_, _, rfl⟩ := Bytes.form g0
      obtain ⟨_, _, rfl⟩ := Bytes.form g1
      exact one_all rfl) (by omega) (by omega) (fun X1 X6 v6 cells6 h6 hR6 => ?_)
    unfold sh28_5
    try simp only [SSd, Nat.reduceAdd]
    rw [wrap_i64 _ (by omega)]
    exact Gh.to ((bb, stO below) :: (b, refO vV vI fl) :: (X6 ++ F)) (hk X6 v6 cells6 h6 hR6)
  unfold sh28_3
  generalize hlv : lastV V y.fKey fl = lv at *
  refine drawC ?_
  try simp only [SSd, Nat.reduceAdd]
  refine rdPS [.int .i64 (lv.getD noVer).fAt.fWall, .int .i64 (lv.getD noVer).fAt.fLogic] rfl rfl ?_
  try simp only [SSd, Nat.reduceAdd]
  refine rdbS ?_
  simp only [hix, SSd, Nat.reduceAdd]
  refine rdNCS hst (Ext.refl _) rfl ?_
  refine call (rbehind_spec (x := (lv.getD noVer).fAt) (y := y.fAt) ?_)
  refine drawC ?_
  try simp only [SSd, Nat.reduceAdd]
  refine rdPS [.int .i64 (lv.getD noVer).fAt.fWall, .int .i64 (lv.getD noVer).fAt.fLogic] rfl rfl ?_
  try simp only [SSd, Nat.reduceAdd]
  refine rdbS ?_
  simp only [hix, SSd, Nat.reduceAdd]
  refine rdNCS hst (Ext.refl _) rfl ?_
  try simp only [SSd, Nat.reduceAdd]
  cases lv with
  | none =>
    have t := take hkp
    simp only [Option.isSome_none, SSd, Nat.reduceAdd] at t ⊢
    exact t
  | some kk =>
    simp only at hkp
    simp only [Option.isSome_some, Option.getD_some, SSd, Nat.reduceAdd] at skip take ⊢
    refine gd_split (fun c1 => ?_) (fun c1 => skip (by rw [hkp]; have : bhd kk.fAt y.fAt = true := by simpa using c1
                                                       rw [this]; rfl))
    refine gd_split (fun c2 => ?_) (fun c2 => take (by rw [hkp, c1, Bool.eq_false_iff.2 c2]; rfl))
    refine rdb ?_
    refine br_split (fun c3 => skip (by rw [hkp, c1, c2, c3]; rfl)) (fun c3 => take (by rw [hkp, c1, c2, c3]; rfl))
theorem rc1_spec {b bb : Nat} {vV vI : Value} {fl below : TStamp} {F : LH} {V : List TVersion} {Is : List TIntent} (hV : RL TVersionV 5 I [] vV V) (hI : RL TIntentV 6 I [] vI Is) (hVl : V.length ≤ 400000000)
    (hk : ∀ I' vV', Ext I I' → RL TVersionV 5 I' [] vV' (V.filter (keepV V fl)) → K (.tuple #[.int .i64 ((V.length : Int) - (V.filter (keepV V fl)).length), .int .i64 0]) I' ((b, refO vV' vI fl) :: F)) :
    sh28_1 ω (pt b) (.int .i64 0) (.int .i64 0) (fun v => Gh (K v)) I ((bb, stO below) :: (b, refO vV vI fl) :: F) := by
  unfold sh28_1
  refine loop (fun n s I' L' => I' = I ∧ ∃ (i : Nat) (XO : LH) (v : Value) (cells : List Value), n + i = V.length ∧ s = (v, .int .i64 i, ()) ∧ L' = (bb, stO below) :: (b, refO vV vI fl) :: (XO ++ F) ∧ SlO 99 5 XO v cells ((V.take i).filter (keepV V fl)).length ∧ Recs (TVersionV I) 5 ((V.take i).filter (keepV V fl)) cells) V.length ⟨rfl, 0, [], _, [], rfl, rfl, rfl, SlO.none _ _, rfl⟩ ?_
  rintro n s I' L' ⟨rfl, i, XO, v, cells, hni, rfl, rfl, hO, hR⟩
  unfold sh28_2
  try simp only [SSd, Nat.reduceAdd]
  refine rdb ?_
  simp only [RL.len hV, SSd, Nat.reduceAdd]
  refine br_split (fun e => ?_) (fun e => ?_)
  · have hi : i < V.length := by simpa using e
    obtain ⟨q, off, c, hix, hcl, hc, hcc⟩ := RL.ix hV (i := (i : Int)) (by omega) (by omega)
    rw [geti_nat hi] at hc
    obtain ⟨u0, u1, rfl, g0, g1⟩ := hc
    have hcv := hcc I' [] (Ext.refl _) (fun _ h => h)
    refine drawC ?_
    try simp only [SSd, Nat.reduceAdd]
    refine rdbS ?_
    simp only [hix, SSd, Nat.reduceAdd]
    refine rdCS (hcv 0 _ rfl) (Ext.refl _) ?_
    try simp only [SSd, Nat.reduceAdd]
    refine rdPS [.int .i64 fl.fWall, .int .i64 fl.fLogic] rfl rfl ?_
    refine And.intro ?_ ?_
    · refine call (rversion_spec (L0 := (b, refO vV vI fl) :: F) (m := fl) (refF (List.mem_cons_self ..) hV hI) g0 (by omega) (fun w0 w1 hw0 hw1 => ?_))
      obtain ⟨wa, wc, rfl⟩ := Bytes.form hw0
      obtain ⟨xa, xc, rfl⟩ := Bytes.form hw1
      try simp only [SSd, Nat.reduceAdd]
      refine newI (fun b3 => keepC (Ext.refl _) ?_)
      refine stB rfl rfl (one_all rfl) ?_
      exact rc3_spec hV hi hVl hO hR (fun XO' v' cells' h1 h2 => Gh.done ⟨n - 1, by omega, rfl, i + 1, XO', v', cells', by omega, rfl, rfl, h1, h2⟩)
    · refine newI (fun b3 => keepC (Ext.refl _) ?_)
      refine call (rversion_spec (L0 := (b, refO vV vI fl) :: F) (m := fl) (refF (List.mem_cons_self ..) hV hI) g0 (by omega) (fun w0 w1 hw0 hw1 => ?_))
      obtain ⟨wa, wc, rfl⟩ := Bytes.form hw0
      obtain ⟨xa, xc, rfl⟩ := Bytes.form hw1
      try simp only [SSd, Nat.reduceAdd]
      refine stB rfl rfl (one_all rfl) ?_
      exact rc3_spec hV hi hVl hO hR (fun XO' v' cells' h1 h2 => Gh.done ⟨n - 1, by omega, rfl, i + 1, XO', v', cells', by omega, rfl, rfl, h1, h2⟩)
  · have hi : i = V.length := by simp at e; omega
    subst hi
    rw [List.take_length] at hO hR
    have hfl := List.length_filter_le (keepV V fl) V
    obtain ⟨oa, oc, rfl⟩ := hO.form
    unfold sh28_7
    try simp only [SSd, Nat.reduceAdd]
    refine rdb ?_
    simp only [RL.len hV, SSd, Nat.reduceAdd]
    rw [wrap_i64 _ (by omega)]
    refine st1 rfl ?_
    refine Gh.to (XO ++ ((b, refO (.slice oa (V.filter (keepV V fl)).length oc) vI fl) :: F)) (SlO.freeze hO (fun I3 hI3 hSl => Gh.done ?_))
    exact hk I3 _ hI3 (RL.ofI hSl (hR.imp fun x c h => h.mono hI3))
theorem rcollect_spec {b : Nat} {vV vI : Value} {below : TStamp} {F : LH} {sp : Sp} (h1 : RL TVersionV 5 I [] vV (versOf sp.rows)) (h2 : RL TIntentV 6 I [] vI (intsOf sp.rows)) (hok : SpOk sp) (hn : versN sp.rows ≤ 100000000)
    (hk : ∀ I' vV', Ext I I' → RL TVersionV 5 I' [] vV' (versOf (colS sp below).rows) → RL TIntentV 6 I' [] vI (intsOf (colS sp below).rows) → K (.tuple #[.int .i64 (colA sp below).1, .int .i64 (colA sp below).2]) I' ((b, refO vV' vI (colS sp below).floor) :: F)) :
    Cal Tryz.prog ω 28 #[pt b, sv below] K I ((b, refO vV vI sp.floor) :: F) := by
  have hVl : (versOf sp.rows).length ≤ 100000000 := by rw [versN_len]; exact hn
  refine cal28 ?_
  unfold sh28
  refine newI (fun bb => ?_)
  refine rdB rfl ?_
  refine call (rright_spec (x := below) ?_)
  by_cases hr : rightB below = false
  · have e1 : colS sp below = sp := by unfold colS; rw [if_pos hr]
    have e3 : colA sp below = (0, 1) := by unfold colA; rw [if_pos hr]
    rw [e1, e3] at hk
    simp only [hr, Bool.not_false, SSd, Nat.reduceAdd]
    exact Gh.to ((b, refO vV vI sp.floor) :: F) (Gh.done (hk I vV (Ext.refl _) h1 h2))
  have e1 : colS sp below = ⟨tidyR (sp.rows.map (colR (colFl sp below))), colFl sp below⟩ := by unfold colS; rw [if_neg hr]
  have hcv := col_vers hok.rise (colFl sp below)
  have e3 : colA sp below = (((versOf sp.rows).length : Int) - ((versOf sp.rows).filter (keepV (versOf sp.rows) (colFl sp below))).length, 0) := by
    unfold colA
    rw [if_neg hr, e1, ← hcv, versN_len, versN_len]
  rw [e1, e3] at hk
  simp only [hcv, col_ints] at hk
  have hr' : rightB below = true := by simpa using hr
  simp only [hr', Bool.not_true, SSd, Nat.reduceAdd]
  refine drawC ?_
  refine rdBS rfl ?_
  try simp only [SSd, Nat.reduceAdd]
  refine rdPS [.int .i64 sp.floor.fWall, .int .i64 sp.floor.fLogic] rfl rfl ?_
  refine call (rbehind_spec (x := below) (y := sp.floor) ?_)
  have fin : ∀ fl, fl = colFl sp below → sh28_1 ω (pt b) (.int .i64 0) (.int .i64 0) (fun v => Gh (K v)) I ((bb, stO below) :: (b, refO vV vI fl) :: F) := by
    intro fl hf
    subst hf
    exact rc1_spec h1 h2 (by omega) (fun I' vV' hI' h' => hk I' vV' hI' h' (h2.mono (fun x c h => h.mono hI') hI' (fun _ h => h)))
  refine br_split (fun e => ?_) (fun e => ?_)
  · refine rdB rfl ?_
    try simp only [SSd, Nat.reduceAdd]
    refine stP _ rfl rfl rfl rfl ?_
    exact fin below (by unfold colFl; rw [if_pos e])
  · exact fin sp.floor (by unfold colFl; rw [if_neg (by rw [e]; simp)])
end
end Go.Proofs.YtmnnnoinfhiilaaGreatDoor
-- S3
set_option linter.unusedSimpArgs false
set_option linter.unusedVariables false
namespace Go.Proofs.YtmnnnoinfhiilaaGreatDoor
open Go.SL
set_option maxRecDepth 10000
section
variable {ω : Om} {I : Imm} {L : LH} {K : Value → M}
theorem samegot_spec {g h : TGot} {v w : Value} (hv : Bytes I v g.fValue) (hw : Bytes I w h.fValue) (hk : ∀ t : Bool, (g = h → t = true) → K (.bool t) I L) : Cal Tryz.prog ω 21 #[gvV g v, gvV h w] K I L := by
  obtain ⟨va, vc, rfl⟩ := Bytes.form hv
  obtain ⟨wa, wc, rfl⟩ := Bytes.form hw
  refine cal21 ?_
  unfold sh21
  repeat' (first | (with_reducible refine drawC ?_) | (with_reducible refine drawW1 ?_) | (with_reducible refine drawW2 ?_) | (with_reducible refine keepC (by repeat (first | exact Ext.refl _ | assumption | refine Ext.trans ?_ (by assumption))) ?_) | (with_reducible refine newI (fun _ => ?_)) | (refine bs_N hv (Ext.refl _) ?_) | (refine bs_N hw (Ext.refl _) ?_) | first | (with_reducible refine rdb ?_) | ((with_reducible refine st1 ?_ ?_); rfl) | ((with_reducible refine rdB ?_ ?_); rfl) | (with_reducible refine rdbS ?_) | ((with_reducible refine rdBS ?_ ?_); rfl) | ((with_reducible refine stB ?_ ?_ ?_ ?_); rfl; rfl; exact one_all rfl) | ((with_reducible refine rdP _ rfl ?_ ?_); rfl) | ((with_reducible refine rdPS _ rfl ?_ ?_); rfl) | ((with_reducible refine stP _ rfl ?_ ?_ ?_ ?_); rfl; rfl; rfl) | (with_reducible refine unfE (sh21.eq_1 ..) ?_) | (with_reducible refine And.intro ?_ ?_) | (simp only [Bool.not_true, Bool.not_false, Bool.and_self, Bool.true_and, Int.reduceBEq, Int.reduceBNe, Int.reduceLT, Int.reduceLE, decide_true, decide_false, Br_true, Br_false, Gd_tt, Gd_ft, Gd_tf, Gd_ff, beq_self_eq_true, bne_self_eq_false]) | (with_reducible refine gd_split (fun _ => ?_) (fun _ => ?_)) | (with_reducible refine br_split (fun _ => ?_) (fun _ => ?_)) | (simp only [SSd, Nat.reduceAdd, sEq]))
  all_goals (refine Gh.to L (Gh.done (hk _ ?_)); rintro rfl; simp_all)
theorem samerows_spec {L0 : LH} [LSub L0 L] {a b : List TKV} {v w : Value} (ha : RL TKVV 2 I L0 v a) (hb : RL TKVV 2 I L0 w b) (hl : a.length ≤ 1000000000) (hk : ∀ t : Bool, (a = b → t = true) → K (.bool t) I L) : Cal Tryz.prog ω 24 #[v, w] K I L := by
  refine cal24 ?_
  unfold sh24
  simp only [RL.len ha, RL.len hb, SSd, Nat.reduceAdd]
  refine br_split (fun e => ?_) (fun e => ?_)
  · exact Gh.done (hk false (fun h => by rw [h] at e; simp at e))
  have hlen : a.length = b.length := by simp at e; omega
  refine loop (fun n s I' L' => I' = I ∧ L' = L ∧ ∃ i : Nat, n + i = a.length ∧ s = (.bool false, .int .i64 i, ())) a.length ⟨rfl, rfl, 0, rfl, rfl⟩ ?_
  rintro n s I' L' ⟨rfl, rfl, i, hni, rfl⟩
  unfold sh24_1
  simp only [RL.len ha, SSd, Nat.reduceAdd]
  refine br_split (fun e2 => ?_) (fun e2 => Gh.done (hk true (fun _ => rfl)))
  have hi : i < a.length := by simpa using e2
  obtain ⟨q, off, c, hix, hcl, hc, hcc⟩ := RL.ix ha (i := (i : Int)) (by omega) (by omega)
  obtain ⟨q2, off2, c2, hix2, hcl2, hc2, hcc2⟩ := RL.ix hb (i := (i : Int)) (by omega) (by omega)
  rw [geti_nat hi] at hc
  rw [geti_nat (by omega)] at hc2
  have hne : a[i] ≠ b[i] → a ≠ b := fun h e => h (by subst e; rfl)
  generalize a[i] = x at *
  generalize b[i] = y at *
  obtain ⟨w0, w1, rfl, g0, g1⟩ := hc
  obtain ⟨u0, u1, rfl, f0, f1⟩ := hc2
  have hcv := hcc I' L0 (Ext.refl _) (fun _ h => h)
  have hcu := hcc2 I' L0 (Ext.refl _) (fun _ h => h)
  refine drawC ?_
  simp only [hix, SSd, Nat.reduceAdd]
  refine rdCS (hcv 0 _ rfl) (Ext.refl _) ?_
  refine bs_I g0 (Ext.refl _) ?_
  simp only [hix2, SSd, Nat.reduceAdd]
  refine rdCS (hcu 0 _ rfl) (Ext.refl _) ?_
  refine bs_I f0 (Ext.refl _) ?_
  simp only [sNe, SSd, Nat.reduceAdd]
  refine gd_split (fun e3 => ?_) (fun e3 => Gh.done (hk false (fun h => absurd h (hne (fun e => by subst e; simp at e3)))))
  try simp only [SSd, Nat.reduceAdd]
  refine rdCS (hcv 1 _ rfl) (Ext.refl _) ?_
  refine bs_I g1 (Ext.refl _) ?_
  try simp only [SSd, Nat.reduceAdd]
  refine rdCS (hcu 1 _ rfl) (Ext.refl _) ?_
  refine bs_I f1 (Ext.refl _) ?_
  simp only [sNe, SSd, Nat.reduceAdd]
  refine br_split (fun e4 => Gh.done (hk false (fun h => absurd h (hne (fun e => by subst e; simp at e4))))) (fun e4 => ?_)
  try simp only [SSd, Nat.reduceAdd]
  rw [wrap_i64 _ (by omega)]
  exact Gh.done ⟨n - 1, by omega, rfl, rfl, i + 1, by omega, rfl⟩
theorem sameints_spec {L0 : LH} [LSub L0 L] {a : List TIntent} {v w : Value} (ha : RL TIntentV 6 I L0 v a) (hb : RL TIntentV 6 I L0 w a) (hl : a.length ≤ 1000000000) (hk : K (.bool true) I L) : Cal Tryz.prog ω 40 #[v, w] K I L := by
  refine cal40 ?_
  unfold sh40
  have en : (((a.length : Nat) : Int) != (a.length : Nat)) = false := by simp
  simp only [RL.len ha, RL.len hb, en, SSd, Nat.reduceAdd]
  refine loop (fun n s I' L' => I' = I ∧ L' = L ∧ ∃ i : Nat, n + i = a.length ∧ s = (.bool false, .int .i64 i, ())) a.length ⟨rfl, rfl, 0, rfl, rfl⟩ ?_
  rintro n s I' L' ⟨rfl, rfl, i, hni, rfl⟩
  unfold sh40_1
  simp only [RL.len ha, SSd, Nat.reduceAdd]
  refine br_split (fun e2 => ?_) (fun e2 => Gh.done hk)
  have hi : i < a.length := by simpa using e2
  obtain ⟨q, off, c, hix, hcl, hc, hcc⟩ := RL.ix ha (i := (i : Int)) (by omega) (by omega)
  obtain ⟨q2, off2, c2, hix2, hcl2, hc2, hcc2⟩ := RL.ix hb (i := (i : Int)) (by omega) (by omega)
  rw [geti_nat hi] at hc hc2
  generalize a[i] = x at *
  obtain ⟨w0, w1, rfl, g0, g1⟩ := hc
  obtain ⟨u0, u1, rfl, f0, f1⟩ := hc2
  have hcv := hcc I' L0 (Ext.refl _) (fun _ h => h)
  have hcu := hcc2 I' L0 (Ext.refl _) (fun _ h => h)
  have hs1 : Cells I' L0 q (off + 2) [.int .i64 x.fAt.fWall, .int .i64 x.fAt.fLogic] := by simpa using hcv.sub (k := 2) (m := 2)
  have hs2 : Cells I' L0 q2 (off2 + 2) [.int .i64 x.fAt.fWall, .int .i64 x.fAt.fLogic] := by simpa using hcu.sub (k := 2) (m := 2)
  refine drawC ?_
  simp only [hix, SSd, Nat.reduceAdd]
  refine rdCS (hcv 0 _ rfl) (Ext.refl _) ?_
  refine bs_I g0 (Ext.refl _) ?_
  simp only [hix2, SSd, Nat.reduceAdd]
  refine rdCS (hcu 0 _ rfl) (Ext.refl _) ?_
  refine bs_I f0 (Ext.refl _) ?_
  simp only [sNe, beq_self_eq_true, Bool.not_true, SSd, Nat.reduceAdd]
  refine rdCS (hcv 1 _ rfl) (Ext.refl _) ?_
  try simp only [SSd, Nat.reduceAdd]
  refine rdCS (hcu 1 _ rfl) (Ext.refl _) ?_
  simp only [bne_self_eq_false, SSd, Nat.reduceAdd]
  refine rdNCS hs1 (Ext.refl _) rfl ?_
  try simp only [SSd, Nat.reduceAdd]
  refine rdNCS hs2 (Ext.refl _) rfl ?_
  simp only [beq_self_eq_true, Bool.and_self, Bool.not_true, SSd, Nat.reduceAdd]
  refine rdCS (hcv 4 _ rfl) (Ext.refl _) ?_
  try simp only [SSd, Nat.reduceAdd]
  refine rdCS (hcu 4 _ rfl) (Ext.refl _) ?_
  simp only [beq_self_eq_true, Bool.not_true, SSd, Nat.reduceAdd]
  refine rdCS (hcv 5 _ rfl) (Ext.refl _) ?_
  refine bs_I g1 (Ext.refl _) ?_
  try simp only [SSd, Nat.reduceAdd]
  refine rdCS (hcu 5 _ rfl) (Ext.refl _) ?_
  refine bs_I f1 (Ext.refl _) ?_
  simp only [sNe, beq_self_eq_true, Bool.not_true, SSd, Nat.reduceAdd]
  rw [wrap_i64 _ (by omega)]
  exact Gh.done ⟨n - 1, by omega, rfl, rfl, i + 1, by omega, rfl⟩
/-! ### Both spaces -/
def stepS (sp : Sp) (x : TStep) : Sp := if x.fDo = 0 then putS sp x.fX else if x.fDo = 1 then resS sp x.fX.fKey x.fX.fTxn x.fYes x.fX.fAt else if x.fDo = 5 then colS sp x.fX.fAt else sp
def stepN (sp : Sp) (x : TStep) (nt : Nts) : Nts := if x.fDo = 0 then putN sp x.fX nt else if x.fDo = 1 then resN sp x.fX.fKey x.fX.fTxn x.fYes x.fX.fAt nt else if x.fDo = 5 then colN sp x.fX.fAt nt else nt
theorem SpOk.step {sp : Sp} (h : SpOk sp) (x : TStep) : SpOk (stepS sp x) := by
  unfold stepS
  split
  · exact h.put
  · split
    · exact h.res
    · split
      · exact h.col
      · exact h
theorem step_len {sp : Sp} (h : SpOk sp) (x : TStep) : (stepS sp x).rows.length ≤ sp.rows.length + 1 ∧ versN (stepS sp x).rows ≤ versN sp.rows + 1 := by
  unfold stepS
  split
  · have := put_len (x := x.fX) h; omega
  · split
    · have := res_len (k := x.fX.fKey) (txn := x.fX.fTxn) (yes := x.fYes) (a := x.fX.fAt) h; omega
    · split
      · have := col_len (sp := sp) (b := x.fX.fAt); omega
      · omega
theorem vs_le {rows : List Row} {n : Nat} (h : versN rows ≤ n) : ∀ r ∈ rows, r.vs.length ≤ n := fun r hr => by
  have h1 : versN [r] ≤ versN rows := versN_sub (List.singleton_sublist.2 hr)
  simp [versN] at h1 h ⊢; omega
def Both (I : Imm) (b br : Nat) (L : LH) (sp : Sp) (nt : Nts) (F : LH) : Prop := ∃ X vV vI, L.Perm (X ++ ((br, refO vV vI sp.floor) :: F)) ∧ SpR I b X sp nt ∧ RL TVersionV 5 I [] vV (versOf sp.rows) ∧ RL TIntentV 6 I [] vI (intsOf sp.rows)
theorem RL.monoI {α : Type} {R : Imm → α → List Value → Prop} {n : Nat} {I I' : Imm} {v : Value} {xs : List α} (hR : ∀ x c, R I x c → R I' x c) (h : RL R n I [] v xs) (hI : Ext I I') : RL R n I' [] v xs := h.mono hR hI (fun _ h => h)
theorem Both.mono {I' : Imm} {b br : Nat} {sp : Sp} {nt : Nts} {F : LH} (h : Both I b br L sp nt F) (hI : Ext I I') : Both I' b br L sp nt F := by
  obtain ⟨X, vV, vI, h1, h2, h3, h4⟩ := h
  exact ⟨X, vV, vI, h1, h2.mono hI, RL.monoI (fun x c h => h.mono hI) h3 hI, RL.monoI (fun x c h => h.mono hI) h4 hI⟩
theorem same_spec {b br : Nat} {sp : Sp} {nt : Nts} {F : LH} (h : Both I b br L sp nt F) (hok : SpOk sp) (hlen : sp.rows.length ≤ 100000000) (hn : versN sp.rows ≤ 100000000) (hk : ∀ I', Ext I I' → K (.bool true) I' L) : Cal Tryz.prog ω 11 #[pt b, pt br] K I L := by
  obtain ⟨X, vV, vI, hp, hS, h3, h4⟩ := h
  have hs := hok.rise
  have hX : ∀ x ∈ X, x ∈ L := fun x hx => hp.mem_iff.2 (List.mem_append_left _ hx)
  have hbr : (br, refO vV vI sp.floor) ∈ L := hp.mem_iff.2 (by simp)
  have hV := hS.view hX
  have hrf : Cells I L br 0 [vV, vI, .int .i64 sp.floor.fWall, .int .i64 sp.floor.fLogic] := own_cells (l := [vV, vI, .int .i64 sp.floor.fWall, .int .i64 sp.floor.fLogic]) hbr 4
  have hrf2 : Cells I L br 2 [.int .i64 sp.floor.fWall, .int .i64 sp.floor.fLogic] := by simpa using hrf.sub (k := 2) (m := 2)
  refine cal11 ?_
  unfold sh11
  refine call (floor_spec hV ?_)
  refine newI (fun b1 => ?_)
  refine stB rfl rfl (one_all rfl) ?_
  refine call (versions_spec (hV.mono (Ext.refl _) (fun x hx => by simp [hx])) hs (by omega) ?_)
  refine call (intents_spec (hV.mono (Ext.refl _) (fun x hx => by simp [hx])) hs (by omega) (fun I2 v2 hI2 hv2 => ?_))
  try simp only [SSd, Nat.reduceAdd]
  refine rdC (hrf 1 _ rfl) hI2 ?_
  have hIl : (intsOf sp.rows).length ≤ 100000000 := by
    have := List.length_filter_le (fun r : Row => r.it.txn != 0) sp.rows
    simp [intsOf]; omega
  refine call (sameints_spec (L0 := []) hv2 (RL.monoI (fun x c h => h.mono hI2) h4 hI2) (by omega) ?_)
  refine drawC ?_
  refine rdBS rfl ?_
  try simp only [SSd, Nat.reduceAdd]
  refine rdNCS hrf2 hI2 rfl ?_
  simp only [beq_self_eq_true, Bool.and_self, SSd, Nat.reduceAdd]
  refine rdCS (hrf 0 _ rfl) hI2 ?_
  simp only [RL.len h3, versN_len, beq_self_eq_true, SSd, Nat.reduceAdd]
  exact Gh.to L (Gh.done (hk I2 hI2))
theorem play_spec {b br : Nat} {sp : Sp} {nt : Nts} {F : LH} {x : TStep} {c : List Value} (h : Both I b br L sp nt F) (hok : SpOk sp) (hlen : sp.rows.length ≤ 100000000) (hn : versN sp.rows ≤ 100000000) (hx : TStepV I x c)
    (hk : ∀ I' L', Ext I I' → Both I' b br L' (stepS sp x) (stepN sp x nt) F → K (.bool true) I' L') : Cal Tryz.prog ω 7 #[pt b, pt br, .agg c.toArray] K I L := by
  obtain ⟨X, vV, vI, hp, hS, h3, h4⟩ := h
  have hs := hok.rise
  have hvs := vs_le hn
  have hvs9 : ∀ r ∈ sp.rows, r.vs.length ≤ 1000000000 := fun r hr => Nat.le_trans (hvs r hr) (by decide)
  obtain ⟨w0, w1, w2, w3, rfl, g0, g1, g2, g3⟩ := hx
  obtain ⟨a0, c0, rfl⟩ := Bytes.form g0
  obtain ⟨a1, c1, rfl⟩ := Bytes.form g1
  obtain ⟨a2, c2, rfl⟩ := Bytes.form g2
  obtain ⟨a3, c3, rfl⟩ := Bytes.form g3
  have keep : ∀ {I' : Imm} (hI : Ext I I') (L' : LH) [SubP (X ++ ((br, refO vV vI sp.floor) :: F)) L'], stepS sp x = sp → stepN sp x nt = nt → Gh (K (.bool true)) I' L' := fun hI L' _ e1 e2 =>
    Gh.to (X ++ ((br, refO vV vI sp.floor) :: F)) (Gh.done (hk _ _ hI (by rw [e1, e2]; exact ⟨X, vV, vI, List.Perm.refl _, hS.mono hI, RL.monoI (fun x c h => h.mono hI) h3 hI, RL.monoI (fun x c h => h.mono hI) h4 hI⟩)))
  refine Cal.perm hp ?_
  refine cal7 ?_
  unfold sh7
  refine newI (fun bx => ?_)
  try simp only [SSd, Nat.reduceAdd]
  refine rdb ?_
  try simp only [SSd, Nat.reduceAdd]
  have hxI : ∀ {I' : Imm}, Ext I I' → TIntentV I' x.fX (itV (.slice a0 x.fX.fKey.length c0) (.slice a1 x.fX.fValue.length c1) x.fX) := fun hI => ⟨_, _, rfl, g0.mono hI, g1.mono hI⟩
  have hxP : ∀ {I' : Imm}, Ext I I' → TSpanV I' x.fP [.slice a2 x.fP.fFrom.length c2, .slice a3 x.fP.fTo.length c3] := fun hI => ⟨_, _, rfl, g2.mono hI, g3.mono hI⟩
  refine br_split (fun e => ?_) (fun e => ?_)
  · have e0 : x.fDo = 0 := by simpa using e
    have es : stepS sp x = putS sp x.fX := by unfold stepS; rw [if_pos e0]
    have en : stepN sp x nt = putN sp x.fX nt := by unfold stepN; rw [if_pos e0]
    rw [es, en] at hk
    try simp only [SSd, Nat.reduceAdd]
    refine rdP (itV (.slice a0 x.fX.fKey.length c0) (.slice a1 x.fX.fValue.length c1) x.fX) rfl rfl ?_
    refine call (Cal.split X ?_)
    refine put_spec hS hok hlen hvs (hxI (Ext.refl _)) (fun X' I' hI' h' => ?_)
    try simp only [SSd, Nat.reduceAdd]
    refine newI (fun b2 => ?_)
    refine stB rfl rfl (one_all rfl) ?_
    try simp only [SSd, Nat.reduceAdd]
    refine rdP (itV (.slice a0 x.fX.fKey.length c0) (.slice a1 x.fX.fValue.length c1) x.fX) rfl rfl ?_
    refine call (Cal.pick br ?_)
    refine rput_spec (RL.monoI (fun x c h => h.mono hI') h3 hI') (RL.monoI (fun x c h => h.mono hI') h4 hI') hok hlen hn (hxI hI') (fun I2 vI2 hI2 h2 => ?_)
    try simp only [SSd, Nat.reduceAdd]
    refine newI (fun b3 => ?_)
    refine stB rfl rfl (one_all rfl) ?_
    refine rdB rfl ?_
    refine rdB rfl ?_
    simp only [beq_self_eq_true, Bool.and_self, SSd, Nat.reduceAdd]
    refine Gh.to (X' ++ ((br, refO vV vI2 sp.floor) :: F)) (Gh.done (hk I2 _ (hI'.trans hI2) ⟨X', vV, vI2, ?_, h'.mono hI2, ?_, h2⟩))
    · have ef : (putS sp x.fX).floor = sp.floor := by unfold putS; split <;> rfl
      rw [ef]
    · have ev : versOf (putS sp x.fX).rows = versOf sp.rows := by
        unfold putS
        split
        · rfl
        · obtain ⟨rows, fl⟩ := sp
          rcases place x.fX.fKey hs with ⟨A, r, B, e, hkr, hm⟩ | ⟨A, B, e, hm⟩
          · simp only at e; subst e
            simp only [setIt_mid hkr hm, versOf_app, versOf_cons, hkr]
          · simp only at e; subst e
            simp only [setIt_gap hm, versOf_app, versOf_cons]
            simp
      rw [ev]
      exact RL.monoI (fun x c h => h.mono (hI'.trans hI2)) h3 (hI'.trans hI2)
  have n0 : x.fDo ≠ 0 := by simpa using e
  try simp only [SSd, Nat.reduceAdd]
  refine br_split (fun e => ?_) (fun e => ?_)
  · have e0 : x.fDo = 1 := by simpa using e
    have es : stepS sp x = resS sp x.fX.fKey x.fX.fTxn x.fYes x.fX.fAt := by unfold stepS; rw [if_neg n0, if_pos e0]
    have en : stepN sp x nt = resN sp x.fX.fKey x.fX.fTxn x.fYes x.fX.fAt nt := by unfold stepN; rw [if_neg n0, if_pos e0]
    rw [es, en] at hk
    try simp only [SSd, Nat.reduceAdd]
    refine rdb ?_
    try simp only [SSd, Nat.reduceAdd]
    refine rdb ?_
    try simp only [SSd, Nat.reduceAdd]
    refine rdb ?_
    try simp only [SSd, Nat.reduceAdd]
    refine rdP [.int .i64 x.fX.fAt.fWall, .int .i64 x.fX.fAt.fLogic] rfl rfl ?_
    refine call (Cal.split X ?_)
    refine resolve_spec hS hok hlen hvs g0 (fun X' I' hI' h' => ?_)
    try simp only [SSd, Nat.reduceAdd]
    refine rdb ?_
    try simp only [SSd, Nat.reduceAdd]
    refine rdb ?_
    try simp only [SSd, Nat.reduceAdd]
    refine rdb ?_
    try simp only [SSd, Nat.reduceAdd]
    refine rdP [.int .i64 x.fX.fAt.fWall, .int .i64 x.fX.fAt.fLogic] rfl rfl ?_
    refine call (Cal.pick br ?_)
    refine rresolve_spec (RL.monoI (fun x c h => h.mono hI') h3 hI') (RL.monoI (fun x c h => h.mono hI') h4 hI') hok hlen hn (g0.mono hI') (fun I2 vV2 vI2 hI2 h2 h2' => ?_)
    simp only [beq_self_eq_true, SSd, Nat.reduceAdd]
    refine Gh.to (X' ++ ((br, refO vV2 vI2 sp.floor) :: F)) (Gh.done (hk I2 _ (hI'.trans hI2) ⟨X', vV2, vI2, ?_, h'.mono hI2, h2, h2'⟩))
    have ef : (resS sp x.fX.fKey x.fX.fTxn x.fYes x.fX.fAt).floor = sp.floor := by unfold resS; split <;> rfl
    rw [ef]
  have n1 : x.fDo ≠ 1 := by simpa using e
  try simp only [SSd, Nat.reduceAdd]
  refine br_split (fun e => ?_) (fun e => ?_)
  · have e0 : x.fDo = 2 := by simpa using e
    have es : stepS sp x = sp := by unfold stepS; rw [if_neg n0, if_neg n1, if_neg (by rw [e0]; decide)]
    have en : stepN sp x nt = nt := by unfold stepN; rw [if_neg n0, if_neg n1, if_neg (by rw [e0]; decide)]
    try simp only [SSd, Nat.reduceAdd]
    refine rdb ?_
    try simp only [SSd, Nat.reduceAdd]
    refine rdP [.int .i64 x.fX.fAt.fWall, .int .i64 x.fX.fAt.fLogic] rfl rfl ?_
    try simp only [SSd, Nat.reduceAdd]
    refine rdb ?_
    refine call (get_spec (hS.view (fun y hy => by simp [hy])) hs hvs9 g0 (fun I' u0 hI' hu0 => ?_))
    obtain ⟨ua, uc, rfl⟩ := Bytes.form hu0
    try simp only [SSd, Nat.reduceAdd]
    refine newI (fun b2 => ?_)
    refine stB rfl rfl (one_all rfl) ?_
    try simp only [SSd, Nat.reduceAdd]
    refine rdb ?_
    try simp only [SSd, Nat.reduceAdd]
    refine rdP [.int .i64 x.fX.fAt.fWall, .int .i64 x.fX.fAt.fLogic] rfl rfl ?_
    try simp only [SSd, Nat.reduceAdd]
    refine rdb ?_
    refine call (rget_spec (L0 := (br, refO vV vI sp.floor) :: F) (refF (List.mem_cons_self ..) (RL.monoI (fun x c h => h.mono hI') h3 hI') (RL.monoI (fun x c h => h.mono hI') h4 hI')) hok (g0.mono hI') hlen hn (fun v0 hv0 => ?_))
    obtain ⟨va, vc, rfl⟩ := Bytes.form hv0
    try simp only [SSd, Nat.reduceAdd]
    refine newI (fun b3 => ?_)
    refine stB rfl rfl (one_all rfl) ?_
    refine rdB rfl ?_
    refine rdB rfl ?_
    refine call (samegot_spec hu0 hv0 (fun t ht => ?_))
    rw [ht rfl]
    simp only [beq_self_eq_true, SSd, Nat.reduceAdd]
    exact keep hI' _ es en
  have n2 : x.fDo ≠ 2 := by simpa using e
  try simp only [SSd, Nat.reduceAdd]
  refine br_split (fun e => ?_) (fun e => ?_)
  · have e0 : x.fDo = 3 := by simpa using e
    have es : stepS sp x = sp := by unfold stepS; rw [if_neg n0, if_neg n1, if_neg (by rw [e0]; decide)]
    have en : stepN sp x nt = nt := by unfold stepN; rw [if_neg n0, if_neg n1, if_neg (by rw [e0]; decide)]
    try simp only [SSd, Nat.reduceAdd]
    refine rdP [.slice a2 x.fP.fFrom.length c2, .slice a3 x.fP.fTo.length c3] rfl rfl ?_
    try simp only [SSd, Nat.reduceAdd]
    refine rdP [.int .i64 x.fX.fAt.fWall, .int .i64 x.fX.fAt.fLogic] rfl rfl ?_
    try simp only [SSd, Nat.reduceAdd]
    refine rdb ?_
    try simp only [SSd, Nat.reduceAdd]
    refine rdb ?_
    refine call (scan_spec (p := x.fP) (hS.view (fun y hy => by simp [hy])) hs (by omega) hvs9 (hxP (Ext.refl _)) (fun I' u hI' hu => ?_))
    try simp only [SSd, Nat.reduceAdd]
    refine rdP [.slice a2 x.fP.fFrom.length c2, .slice a3 x.fP.fTo.length c3] rfl rfl ?_
    try simp only [SSd, Nat.reduceAdd]
    refine rdP [.int .i64 x.fX.fAt.fWall, .int .i64 x.fX.fAt.fLogic] rfl rfl ?_
    try simp only [SSd, Nat.reduceAdd]
    refine rdb ?_
    try simp only [SSd, Nat.reduceAdd]
    refine rdb ?_
    refine call (rscan_spec (p := x.fP) (L0 := (br, refO vV vI sp.floor) :: F) (refF (List.mem_cons_self ..) (RL.monoI (fun x c h => h.mono hI') h3 hI') (RL.monoI (fun x c h => h.mono hI') h4 hI')) hok hlen hn (hxP hI') (fun I2 v hI2 hv => ?_))
    try simp only [SSd, Nat.reduceAdd]
    have hsl : (scanF sp x.fP x.fX.fAt x.fX.fTxn x.fN).1.length ≤ 1000000000 := by
      have : ∀ (rows : List Row) (acc : List TKV), (scanL x.fX.fAt x.fX.fTxn x.fN rows acc).1.length ≤ acc.length + rows.length := by
        intro rows
        induction rows with
        | nil => intro acc; simp [scanL]
        | cons r rs ih =>
          intro acc
          have hp : (push r (seen r x.fX.fAt x.fX.fTxn).1 acc).length ≤ acc.length + 1 := by unfold push; split <;> simp
          simp only [scanL]
          split
          · simp
          · split
            · simp only [List.length_cons]; omega
            · have := ih (push r (seen r x.fX.fAt x.fX.fTxn).1 acc)
              simp only [List.length_cons]; omega
      unfold scanF
      split
      · simp
      · split
        · simp
        · have h1 := this (inR x.fP sp.rows) []
          have h2 := List.length_filter_le (fun r : Row => inB x.fP r.key) sp.rows
          simp [inR] at h1 h2 ⊢; omega
    refine call (samerows_spec (L0 := []) (RL.monoI (fun x c h => h.mono hI2) hu hI2) hv hsl (fun t ht => ?_))
    rw [ht rfl]
    simp only [beq_self_eq_true, SSd, Nat.reduceAdd]
    exact keep (hI'.trans hI2) _ es en
  have n3 : x.fDo ≠ 3 := by simpa using e
  try simp only [SSd, Nat.reduceAdd]
  refine br_split (fun e => ?_) (fun e => ?_)
  · have e0 : x.fDo = 4 := by simpa using e
    have es : stepS sp x = sp := by unfold stepS; rw [if_neg n0, if_neg n1, if_neg (by rw [e0]; decide)]
    have en : stepN sp x nt = nt := by unfold stepN; rw [if_neg n0, if_neg n1, if_neg (by rw [e0]; decide)]
    try simp only [SSd, Nat.reduceAdd]
    refine rdP [.slice a2 x.fP.fFrom.length c2, .slice a3 x.fP.fTo.length c3] rfl rfl ?_
    try simp only [SSd, Nat.reduceAdd]
    refine rdP [.int .i64 x.fX.fAt.fWall, .int .i64 x.fX.fAt.fLogic] rfl rfl ?_
    try simp only [SSd, Nat.reduceAdd]
    refine rdP [.int .i64 x.fTo.fWall, .int .i64 x.fTo.fLogic] rfl rfl ?_
    try simp only [SSd, Nat.reduceAdd]
    refine rdb ?_
    refine call (changed_spec (p := x.fP) (hS.view (fun y hy => by simp [hy])) hs (by omega) hvs9 (hxP (Ext.refl _)) ?_)
    try simp only [SSd, Nat.reduceAdd]
    refine rdP [.slice a2 x.fP.fFrom.length c2, .slice a3 x.fP.fTo.length c3] rfl rfl ?_
    try simp only [SSd, Nat.reduceAdd]
    refine rdP [.int .i64 x.fX.fAt.fWall, .int .i64 x.fX.fAt.fLogic] rfl rfl ?_
    try simp only [SSd, Nat.reduceAdd]
    refine rdP [.int .i64 x.fTo.fWall, .int .i64 x.fTo.fLogic] rfl rfl ?_
    try simp only [SSd, Nat.reduceAdd]
    refine rdb ?_
    refine call (rchanged_spec (p := x.fP) (L0 := (br, refO vV vI sp.floor) :: F) (refF (List.mem_cons_self ..) h3 h4) hok hlen hn (hxP (Ext.refl _)) ?_)
    simp only [beq_self_eq_true, SSd, Nat.reduceAdd]
    exact keep (Ext.refl _) _ es en
  have n4 : x.fDo ≠ 4 := by simpa using e
  try simp only [SSd, Nat.reduceAdd]
  refine br_split (fun e => ?_) (fun e => ?_)
  · have e0 : x.fDo = 5 := by simpa using e
    have es : stepS sp x = colS sp x.fX.fAt := by unfold stepS; rw [if_neg n0, if_neg n1, if_pos e0]
    have en : stepN sp x nt = colN sp x.fX.fAt nt := by unfold stepN; rw [if_neg n0, if_neg n1, if_pos e0]
    rw [es, en] at hk
    try simp only [SSd, Nat.reduceAdd]
    refine rdP [.int .i64 x.fX.fAt.fWall, .int .i64 x.fX.fAt.fLogic] rfl rfl ?_
    refine call (Cal.split X ?_)
    refine collect_spec hS hok hlen hn (fun X' I' hI' h' => ?_)
    try simp only [SSd, Nat.reduceAdd]
    refine rdP [.int .i64 x.fX.fAt.fWall, .int .i64 x.fX.fAt.fLogic] rfl rfl ?_
    refine call (Cal.pick br ?_)
    refine rcollect_spec (RL.monoI (fun x c h => h.mono hI') h3 hI') (RL.monoI (fun x c h => h.mono hI') h4 hI') hok hn (fun I2 vV2 hI2 h2 h2' => ?_)
    simp only [beq_self_eq_true, SSd, Nat.reduceAdd]
    exact Gh.to (X' ++ ((br, refO vV2 vI (colS sp x.fX.fAt).floor) :: F)) (Gh.done (hk I2 _ (hI'.trans hI2) ⟨X', vV2, vI, List.Perm.refl _, h'.mono hI2, h2, h2'⟩))
  have n5 : x.fDo ≠ 5 := by simpa using e
  have es : stepS sp x = sp := by unfold stepS; rw [if_neg n0, if_neg n1, if_neg n5]
  have en : stepN sp x nt = nt := by unfold stepN; rw [if_neg n0, if_neg n1, if_neg n5]
  exact keep (Ext.refl _) _ es en
end
end Go.Proofs.YtmnnnoinfhiilaaGreatDoor
-- S3
set_option linter.unusedSimpArgs false
set_option linter.unusedVariables false
namespace Go.Proofs.YtmnnnoinfhiilaaGreatDoor
open Go.SL
set_option maxRecDepth 10000
section
variable {ω : Om} {I : Imm} {L : LH} {K : Value → M}
def sp0 : Sp := ⟨[], ⟨0, 0⟩⟩
def nt0 : Nts := fun _ => none
theorem sp0_ok : SpOk sp0 := ⟨List.Pairwise.nil, (fun r hr => by cases hr), by decide⟩
theorem new_spec (hk : ∀ b X, SpR I b X sp0 nt0 → K (pt b) I (X ++ L)) : Cal Tryz.prog ω 6 #[] K I L := by
  refine cal6 ?_
  unfold sh6
  refine newm (fun m => Gh.done (newm (fun ch => Gh.done ?_)))
  try simp only [SSd, Nat.reduceAdd]
  refine newI (fun b => ?_)
  refine Gh.perm (L' := ((b, spO m (.slice none 0 0) ⟨0, 0⟩ ch) :: (m, .map #[] 0) :: ([] ++ ([] ++ [(ch, .map #[] 0)]))) ++ L) (ms_perm (by ((try simp only [ms_cons, ms_app, ms_nil, ms_nil']); (try ac_rfl)))) (Gh.done (hk b _ ?_))
  exact ⟨[], m, ch, _, _, _, [], [], [(ch, .map #[] 0)], List.Perm.refl _, MapS.empty, SlO.none _ 1, rfl, ⟨#[], 0, fun _ => none, rfl, MapS.empty, fun k => .inl ⟨rfl, rfl⟩⟩⟩
theorem ob_ne {X : LH} {v : Value} {l : List UInt8} (h : OB X v l) (h0 : l ≠ []) : X ≠ [] := by
  rintro rfl
  rcases h.2 with ⟨_, h1, _⟩ | ⟨b, cap, cs, h1, _⟩
  · exact h0 (List.eq_nil_of_length_eq_zero h1)
  · cases h1
def wakeX : TIntent := ⟨[97], 1, ⟨5, 0⟩, false, [120]⟩
theorem awake_spec (hk : ∀ I', Ext I I' → K (.bool true) I' L) : Cal Tryz.prog ω 5 #[] K I L := by
  refine cal5 ?_
  unfold sh5
  refine call (new_spec (fun b X hS => ?_))
  try simp only [SSd, Nat.reduceAdd]
  refine by1 (c := 97) (fun X1 u1 h1 => Gh.done ?_)
  refine mrk_own h1 (ob_ne h1 (by simp)) (fun I1 hI1 hb1 => ?_)
  obtain ⟨a1, c1, rfl⟩ := Bytes.form hb1
  try simp only [SSd, Nat.reduceAdd]
  refine by1 (c := 120) (fun X2 u2 h2 => Gh.done ?_)
  refine mrk_own h2 (ob_ne h2 (by simp)) (fun I2 hI2 hb2 => ?_)
  obtain ⟨a2, c2, rfl⟩ := Bytes.form hb2
  try simp only [SSd, Nat.reduceAdd]
  refine call (put_spec (x := wakeX) (hS.mono (hI1.trans hI2)) sp0_ok (by simp [sp0]) (fun r hr => by cases hr) ⟨_, _, rfl, Bytes.mono hb1 hI2, hb2⟩ (fun X' I3 hI3 h3 => ?_))
  rw [show putA sp0 wakeX = (⟨5, 0⟩, 0, 0) by kernel_rfl]
  try simp only [SSd, Nat.reduceAdd]
  refine newI (fun b1 => ?_)
  refine stB rfl rfl (one_all rfl) ?_
  refine by1 (c := 97) (fun X3 u3 h4 => Gh.done ?_)
  refine mrk_own h4 (ob_ne h4 (by simp)) (fun I4 hI4 hb4 => ?_)
  try simp only [SSd, Nat.reduceAdd]
  have hok : SpOk (putS sp0 wakeX) := sp0_ok.put
  have hro : putS sp0 wakeX = ⟨[⟨[97], [], ⟨⟨⟨5, 0⟩, false, [120]⟩, 1⟩⟩], ⟨0, 0⟩⟩ := by
    unfold putS
    rw [show putA sp0 wakeX = (⟨5, 0⟩, 0, 0) by kernel_rfl]
    rfl
  refine call (get_spec (m := ⟨1, 0⟩) ((h3.mono hI4).view (fun x hx => by simp [hx])) hok.rise (fun r hr => ?_) hb4 (fun I5 v0 hI5 hv0 => ?_))
  · rw [hro] at hr
    simp only [List.mem_singleton] at hr
    subst hr; simp
  rw [show getF (putS sp0 wakeX) [97] ⟨1, 0⟩ 1 = (gotV [120] ⟨5, 0⟩, 0) by rw [hro]; kernel_rfl] at hv0 ⊢
  obtain ⟨va, vc, rfl⟩ := Bytes.form hv0
  simp only [gotV, SSd, Nat.reduceAdd]
  refine newI (fun b2 => ?_)
  refine stB rfl rfl (one_all rfl) ?_
  simp only [beq_self_eq_true, SSd, Nat.reduceAdd]
  refine rdB rfl ?_
  simp only [beq_self_eq_true, Bool.and_self, SSd, Nat.reduceAdd]
  refine rdb ?_
  try simp only [SSd, Nat.reduceAdd]
  refine rdb ?_
  refine bs_N hv0 (Ext.refl _) ?_
  have e : binSV .eql (.string ⟨(gotV [120] ⟨5, 0⟩).fValue.toArray⟩) (.string (ByteArray.mk #[120])) = some (.bool true) := by
    show binSV .eql (.string ⟨([120] : List UInt8).toArray⟩) (.string ⟨([120] : List UInt8).toArray⟩) = _
    rw [sEq]; rfl
  simp only [gotV] at e
  simp only [e, SSd, Nat.reduceAdd]
  exact Gh.to L (Gh.done (hk I5 (hI1.trans (hI2.trans (hI3.trans (hI4.trans hI5))))))
theorem both_new {b br : Nat} {X : LH} (hS : SpR I b X sp0 nt0) : Both I b br ((br, refO (.slice none 0 0) (.slice none 0 0) ⟨0, 0⟩) :: (X ++ L)) sp0 nt0 L :=
  ⟨X, _, _, ms_perm (by show _ = ms (X ++ ((br, refO (.slice none 0 0) (.slice none 0 0) ⟨0, 0⟩) :: L)); ((try simp only [ms_cons, ms_app, ms_nil, ms_nil']); (try ac_rfl))), hS, RL.nil _ _, RL.nil _ _⟩
end
theorem tr_steps13 {W : World} {v : Value} (h : TrR reachBytes Tryz.prog W 22 [v]) : ∃ ss : List TStep, RL TStepV 13 (heapI W) [] v ss ∧ (∀ y ∈ ss, TStepB reachBytes y) ∧ ss.length ≤ 900000000000 := by
  obtain ⟨cells, xs, hS, hRR, hlen⟩ := tr_recs (R := fun x c => TStepB reachBytes x ∧ TStepV (heapI W) x c) Tryz.underlying22 (by rw [ceTStep]; omega) h (fun c hc => TStep_open hc)
  rw [ceTStep] at hS hRR
  rw [byTStep] at hlen
  have e : reachBytes = 140737488351232 := by rfl
  exact ⟨xs, RL.ofI hS (hRR.imp fun _ _ h => h.2), recs_all (fun _ _ h => h.1) hRR, by omega⟩
end Go.Proofs.YtmnnnoinfhiilaaGreatDoor
-- S3
set_option linter.unusedSimpArgs false
set_option linter.unusedVariables false
namespace Go.Proofs.YtmnnnoinfhiilaaGreatDoor
open Go.SL
set_option maxRecDepth 10000
def curG (rows : List Row) (k : List UInt8) (m : TStamp) : TGot := seenV (upTo (vsAt rows k) m)
/-! ### A key's versions behind a step -/
theorem vsAt_swap {A B : List Row} {r r' : Row} {k q : List UInt8} (hm : Mid A k B) (hk : r.key = k) (hk' : r'.key = k) : vsAt (A ++ r' :: B) q = if q = k then r'.vs else vsAt (A ++ r :: B) q := by
  by_cases h : q = k
  · subst h; rw [if_pos rfl, vsAt_mid hm hk']
  · rw [if_neg h]
    unfold vsAt rowOf
    rw [List.find?_append, List.find?_append, List.find?_cons_of_neg (by simp [hk']; exact fun e => h e.symm), List.find?_cons_of_neg (by simp [hk]; exact fun e => h e.symm)]
theorem vsAt_less {A B : List Row} {r : Row} {k q : List UInt8} (hm : Mid A k B) (hk : r.key = k) (hv : r.vs = []) : vsAt (A ++ B) q = vsAt (A ++ r :: B) q := by
  by_cases h : q = k
  · subst h; rw [vsAt_mid hm hk, vsAt_gap hm, hv]
  · unfold vsAt rowOf
    rw [List.find?_append, List.find?_append, List.find?_cons_of_neg (by simp [hk]; exact fun e => h e.symm)]
theorem vsAt_put {sp : Sp} (hok : SpOk sp) (x : TIntent) (q : List UInt8) : vsAt (putS sp x).rows q = vsAt sp.rows q := by
  unfold putS
  split
  · rfl
  · obtain ⟨rows, fl⟩ := sp
    rcases place x.fKey hok.rise with ⟨A, r, B, e, hk, hm⟩ | ⟨A, B, e, hm⟩
    · simp only at e; subst e
      simp only [setIt_mid hk hm]
      rw [vsAt_swap hm hk rfl]
      split
      · rename_i h; subst h; rw [vsAt_mid hm hk]
      · rfl
    · simp only at e; subst e
      simp only [setIt_gap hm]
      exact (vsAt_less hm rfl rfl).symm
theorem vsAt_res {sp : Sp} (hok : SpOk sp) {k : List UInt8} {txn : Int} {yes : Bool} {a : TStamp} (q : List UInt8) :
    vsAt (resS sp k txn yes a).rows q = vsAt sp.rows q ∨ (yes = true ∧ ∃ v : TVer, v.fAt = a ∧ vsAt (resS sp k txn yes a).rows q = vsAt sp.rows q ++ [v]) := by
  unfold resS
  split
  · obtain ⟨rows, fl⟩ := sp
    rcases place k hok.rise with ⟨A, r, B, e, hk, hm⟩ | ⟨A, B, e, hm⟩
    · simp only at e; subst e
      obtain ⟨p1, p2, p3⟩ := hok.part
      simp only [updR_mid hm hk]
      rw [tidyR_mid (fun x hx => (p1 x hx).some) (fun x hx => (p3 x hx).some)]
      have hcore : vsAt (if emptyB (resR yes a r) = true then A ++ B else A ++ resR yes a r :: B) q = if q = k then (resR yes a r).vs else vsAt (A ++ r :: B) q := by
        split
        · rename_i he
          have hv : (resR yes a r).vs = [] := by simp [emptyB] at he; exact he.1
          rw [vsAt_less hm (show (resR yes a r).key = k from hk) hv, vsAt_swap hm hk (show (resR yes a r).key = k from hk)]
        · exact vsAt_swap hm hk (show (resR yes a r).key = k from hk)
      rw [hcore]
      by_cases hq : q = k
      · subst hq
        rw [if_pos rfl, vsAt_mid hm hk]
        cases yes with
        | false => exact .inl rfl
        | true => exact .inr ⟨rfl, _, rfl, rfl⟩
      · rw [if_neg hq]; exact .inl rfl
    · simp only at e; subst e
      rw [show updR k (resR yes a) (A ++ B) = A ++ B from by
        unfold updR
        conv => rhs; rw [← List.map_id (A ++ B)]
        exact List.map_congr_left fun x hx => if_neg (hm.notin x hx)]
      rw [tidyR_all (fun r hr => (hok.rows r hr).some)]
      exact .inl rfl
  · exact .inl rfl
def colV (fl : TStamp) (vs : List TVer) : List TVer := match upTo vs fl with
  | none => vs
  | some k => vs.filter fun v => !oldB k v
theorem colR_vs (fl : TStamp) (r : Row) : (colR fl r).vs = colV fl r.vs := by
  unfold colR colV; cases upTo r.vs fl <;> rfl
theorem vsAt_col {sp : Sp} (hok : SpOk sp) (b : TStamp) (q : List UInt8) : vsAt (colS sp b).rows q = if rightB b = false then vsAt sp.rows q else colV (colFl sp b) (vsAt sp.rows q) := by
  unfold colS
  by_cases hb : rightB b = false
  · rw [if_pos hb, if_pos hb]
  · rw [if_neg hb, if_neg hb]
    generalize colFl sp b = fl
    have : ∀ (rows : List Row), SrtK (keysOf rows) → vsAt (tidyR (rows.map (colR fl))) q = colV fl (vsAt rows q) := by
      intro rows
      induction rows with
      | nil => intro _; rfl
      | cons r rs ih =>
        intro hs
        obtain ⟨h1, h2⟩ := List.pairwise_cons.1 (show List.Pairwise _ (r.key :: keysOf rs) from hs)
        have ih' := ih h2
        by_cases hk : r.key = q
        · have e1 : vsAt (r :: rs) q = r.vs := by unfold vsAt rowOf; simp [hk]
          rw [e1, List.map_cons]
          unfold tidyR at ih' ⊢
          rw [List.filter_cons]
          by_cases he : emptyB (colR fl r) = true
          · have hv : (colR fl r).vs = [] := by simp [emptyB] at he; exact he.1
            have hno : vsAt rs q = [] := by
              unfold vsAt
              rw [rowOf_none' (fun x hx => by rw [← hk]; exact blt_ne' (h1 _ (List.mem_map_of_mem hx)))]
            rw [hno] at ih'
            rw [he]
            simp only [Bool.not_true, Bool.false_eq_true, if_false]
            rw [ih', ← colR_vs, hv]; rfl
          · rw [Bool.eq_false_iff.2 he]
            simp only [Bool.not_false, if_true]
            rw [← colR_vs]
            unfold vsAt rowOf
            simp [colR_key, hk]
        · have e1 : vsAt (r :: rs) q = vsAt rs q := by unfold vsAt rowOf; simp [hk]
          rw [e1, ← ih', List.map_cons]
          unfold tidyR
          rw [List.filter_cons]
          split
          · unfold vsAt rowOf; simp [colR_key, hk]
          · rfl
    exact this sp.rows hok.rise
theorem upTo_snoc {vs : List TVer} {v : TVer} {m : TStamp} (h : bhd v.fAt m = true) : upTo (vs ++ [v]) m = upTo vs m := by
  unfold upTo
  rw [List.reverse_append]
  simp [h]
theorem upTo_split {vs : List TVer} {m : TStamp} {u : TVer} (h : upTo vs m = some u) : ∃ A B, vs = A ++ u :: B ∧ bhd u.fAt m = false ∧ ∀ x ∈ B, bhd x.fAt m = true := by
  unfold upTo at h
  obtain ⟨h1, A, B, he, hA⟩ := List.find?_eq_some_iff_append.1 h
  refine ⟨B.reverse, A.reverse, ?_, by simpa using h1, fun x hx => ?_⟩
  · have := congrArg List.reverse he
    simpa using this
  · simpa using hA x (List.mem_reverse.1 hx)
theorem upTo_of {A B : List TVer} {m : TStamp} {u : TVer} (h1 : bhd u.fAt m = false) (h2 : ∀ x ∈ B, bhd x.fAt m = true) : upTo (A ++ u :: B) m = some u := by
  unfold upTo
  rw [List.reverse_append, List.reverse_cons, List.append_assoc, List.find?_append, List.find?_eq_none.2 (fun w hw => by simpa using h2 w (List.mem_reverse.1 hw))]
  simp [h1]
theorem upTo_col {vs : List TVer} {fl m : TStamp} (hr : vs.Pairwise fun x y => bhd y.fAt x.fAt = true) (hf : bhd fl m = false) : seenV (upTo (colV fl vs) m) = seenV (upTo vs m) := by
  unfold colV
  cases hk : upTo vs fl with
  | none => rfl
  | some k =>
    simp only
    obtain ⟨A, B, e, k1, k2⟩ := upTo_split hk
    have hkm : bhd k.fAt m = false := by simp [bhd] at k1 hf ⊢; omega
    have hA : ∀ x ∈ A, bhd k.fAt x.fAt = true := fun x hx => by
      rw [e] at hr
      exact (List.pairwise_append.1 hr).2.2 x hx k (List.mem_cons_self ..)
    have hB : ∀ x ∈ B, bhd x.fAt k.fAt = true := fun x hx => by
      rw [e] at hr
      exact (List.pairwise_cons.1 (List.pairwise_append.1 hr).2.1).1 x hx
    have hfA : A.filter (fun v => !oldB k v) = [] := List.filter_eq_nil_iff.2 fun x hx => by simp [oldB, hA x hx]
    have hfB : B.filter (fun v => !oldB k v) = B := List.filter_eq_self.2 fun x hx => by
      have := hB x hx
      have h1 : bhd k.fAt x.fAt = false := by simp [bhd] at this ⊢; omega
      have h2 : (x.fAt.fWall == k.fAt.fWall && x.fAt.fLogic == k.fAt.fLogic) = false := by
        rw [Bool.eq_false_iff]
        intro h
        simp only [Bool.and_eq_true, beq_iff_eq] at h
        simp [bhd] at this; omega
      simp [oldB, h1, h2]
    have hkk : oldB k k = k.fDel := by simp [oldB, bhd_irr]
    rw [e, List.filter_append, hfA, List.filter_cons, hkk, hfB, List.nil_append]
    -- is there a version behind k, up to m?
    cases hu : upTo B m with
    | some u =>
      obtain ⟨C, D, e2, u1, u2⟩ := upTo_split hu
      subst e2
      have e3 : A ++ k :: (C ++ u :: D) = (A ++ k :: C) ++ u :: D := by simp
      rw [e3, upTo_of u1 u2]
      cases hd : k.fDel with
      | true => simp only [Bool.not_true, Bool.false_eq_true, if_false]; rw [upTo_of u1 u2]
      | false =>
        simp only [Bool.not_false, if_true]
        have e4 : k :: (C ++ u :: D) = (k :: C) ++ u :: D := by simp
        rw [e4, upTo_of u1 u2]
    | none =>
      have hn : ∀ x ∈ B, bhd x.fAt m = true := fun x hx => by
        unfold upTo at hu
        simpa using List.find?_eq_none.1 hu x (List.mem_reverse.2 hx)
      rw [upTo_of hkm hn]
      cases hd : k.fDel with
      | true =>
        simp only [Bool.not_true, Bool.false_eq_true, if_false]
        rw [hu]; simp [seenV, hd]
      | false =>
        simp only [Bool.not_false, if_true]
        have h1 := upTo_of (A := []) hkm hn
        simp only [List.nil_append] at h1
        rw [h1]
def skipB (m : TStamp) (y : TStep) : Bool := (y.fDo == 1 && (y.fYes && !bhd y.fX.fAt m)) || (y.fDo == 5 && bhd y.fX.fAt m)
theorem stays {sp : Sp} (hok : SpOk sp) {m : TStamp} {y : TStep} (hs : skipB m y = false) (hf : bhd sp.floor m = false) : bhd (stepS sp y).floor m = false ∧ ∀ q, curG (stepS sp y).rows q m = curG sp.rows q m := by
  unfold stepS
  by_cases h0 : y.fDo = 0
  · rw [if_pos h0]
    refine ⟨by unfold putS; split <;> exact hf, fun q => ?_⟩
    unfold curG; rw [vsAt_put hok]
  · rw [if_neg h0]
    by_cases h1 : y.fDo = 1
    · rw [if_pos h1]
      refine ⟨by unfold resS; split <;> exact hf, fun q => ?_⟩
      unfold curG
      rcases vsAt_res (k := y.fX.fKey) (txn := y.fX.fTxn) (yes := y.fYes) (a := y.fX.fAt) hok q with h | ⟨hy, v, hv, h⟩
      · rw [h]
      · have hb : bhd v.fAt m = true := by
          rw [hv]
          simp only [skipB, h1, hy, Bool.or_eq_false_iff] at hs
          simpa using hs.1
        rw [h, upTo_snoc hb]
    · rw [if_neg h1]
      by_cases h5 : y.fDo = 5
      · rw [if_pos h5]
        have hb : bhd y.fX.fAt m = false := by
          simp only [skipB, h5, Bool.or_eq_false_iff] at hs
          simpa using hs.2
        have hfl : bhd (colFl sp y.fX.fAt) m = false := by unfold colFl; split <;> assumption
        refine ⟨by unfold colS; split; exact hf; exact hfl, fun q => ?_⟩
        unfold curG
        rw [vsAt_col hok]
        split
        · rfl
        · exact upTo_col (vsAt_rise hok q).1 hfl
      · rw [if_neg h5]; exact ⟨hf, fun _ => rfl⟩
/-! ### Spans -/
/-! ### What has not changed is read alike -/
theorem fresh {sp : Sp} (hok : SpOk sp) {p : TSpan} {a b : TStamp} {txn : Int} (hl : sp.rows.length < 1000) (hab : bhd a b = false) (h : chF sp p a b txn = (false, 0)) :
    (scanF sp p a txn 1000).2.2 = 0 ∧ (scanF sp p b txn 1000).2.2 = 0 ∧ (scanF sp p a txn 1000).1 = (scanF sp p b txn 1000).1 := by
  unfold chF at h
  by_cases h1 : (rightB a && readerB txn) = false ∨ rightB b = false
  · rw [if_pos h1] at h; cases h
  rw [if_neg h1] at h
  by_cases h2 : bhd sp.floor a = true
  · rw [if_pos h2] at h; cases h
  rw [if_neg h2] at h
  have h3 : (inR p sp.rows).any (chR a b txn) = false := by simpa using h
  have hf : bhd sp.floor b = false := by simp [bhd] at h2 hab ⊢; omega
  simp only [not_or, Bool.not_eq_false, Bool.and_eq_true] at h1
  obtain ⟨⟨r1, r2⟩, r3⟩ := h1
  have ea : scanF sp p a txn 1000 = scanL a txn 1000 (inR p sp.rows) [] := by
    unfold scanF
    rw [if_neg (by rw [r1, r2]; simp), if_neg h2]
  have eb : scanF sp p b txn 1000 = scanL b txn 1000 (inR p sp.rows) [] := by
    unfold scanF
    rw [if_neg (by rw [r3, r2]; simp), if_neg (by rw [hf]; simp)]
  rw [ea, eb]
  have hseen : ∀ r ∈ inR p sp.rows, seen r a txn = seen r b txn ∧ (seen r a txn).2 = 0 := by
    intro r hr
    have hc : chR a b txn r = false := by simpa using List.any_eq_false.1 h3 r hr
    unfold chR at hc
    rw [Bool.or_eq_false_iff] at hc
    have hup : upTo r.vs a = upTo r.vs b := by
      have hl2 := hc.2
      unfold lateB at hl2
      cases hu : upTo r.vs b with
      | none =>
        refine upTo_no fun w hw => ?_
        unfold upTo at hu
        have := List.find?_eq_none.1 hu w (List.mem_reverse.2 hw)
        simp [bhd] at this hab ⊢; omega
      | some u =>
        rw [hu] at hl2
        simp only at hl2
        obtain ⟨A, B, e, u1, u2⟩ := upTo_split hu
        rw [e]
        exact upTo_of hl2 (fun x hx => by have := u2 x hx; simp [bhd] at this hab ⊢; omega)
    unfold seen
    by_cases h0 : r.it.txn = 0
    · rw [if_pos h0, if_pos h0, hup]; exact ⟨rfl, rfl⟩
    · rw [if_neg h0, if_neg h0]
      by_cases ht : r.it.txn = txn
      · rw [if_pos ht, if_pos ht]; exact ⟨rfl, rfl⟩
      · rw [if_neg ht, if_neg ht]
        have hb : bhd r.it.ver.fAt b = true := by
          have h5 := hc.1
          simp [h0, ht] at h5
          exact h5
        have ha : bhd r.it.ver.fAt a = true := by simp [bhd] at hb hab ⊢; omega
        rw [if_neg (by rw [ha]; simp), if_neg (by rw [hb]; simp), hup]
        exact ⟨rfl, rfl⟩
  have key : ∀ (rows : List Row) (acc : List TKV), (∀ r ∈ rows, seen r a txn = seen r b txn ∧ (seen r a txn).2 = 0) → scanL a txn 1000 rows acc = scanL b txn 1000 rows acc ∧ (scanL a txn 1000 rows acc).2.2 = 0 := by
    intro rows
    induction rows with
    | nil => intro acc _; exact ⟨rfl, rfl⟩
    | cons r rs ih =>
      intro acc h
      obtain ⟨g1, g2⟩ := h r (List.mem_cons_self ..)
      have e0 : ¬ (seen r a txn).2 ≠ 0 := by simpa using g2
      simp only [scanL, ← g1, if_neg e0]
      by_cases hm : ((push r (seen r a txn).1 acc).length : Int) = 1000
      · simp only [if_pos hm, and_self]
      · simp only [if_neg hm]
        exact ih _ (fun x hx => h x (List.mem_cons_of_mem _ hx))
  obtain ⟨k1, k2⟩ := key (inR p sp.rows) [] hseen
  exact ⟨k2, by rw [← k1]; exact k2, by rw [k1]⟩
end Go.Proofs.YtmnnnoinfhiilaaGreatDoor
-- S3
set_option linter.unusedSimpArgs false
set_option linter.unusedVariables false
namespace Go.Proofs.YtmnnnoinfhiilaaGreatDoor
open Go.SL
set_option maxRecDepth 10000
/-! ### A key's intent behind a step -/
theorem itAt_swap {A B : List Row} {r r' : Row} {k q : List UInt8} (hm : Mid A k B) (hk : r.key = k) (hk' : r'.key = k) : itAt (A ++ r' :: B) q = if q = k then r'.it else itAt (A ++ r :: B) q := by
  by_cases h : q = k
  · subst h; rw [if_pos rfl, itAt_mid hm hk']
  · rw [if_neg h]
    unfold itAt rowOf
    rw [List.find?_append, List.find?_append, List.find?_cons_of_neg (by simp [hk']; exact fun e => h e.symm), List.find?_cons_of_neg (by simp [hk]; exact fun e => h e.symm)]
theorem itAt_new {A B : List Row} {r : Row} {k q : List UInt8} (hm : Mid A k B) (hk : r.key = k) : itAt (A ++ r :: B) q = if q = k then r.it else itAt (A ++ B) q := by
  by_cases h : q = k
  · subst h; rw [if_pos rfl, itAt_mid hm hk]
  · rw [if_neg h]
    unfold itAt rowOf
    rw [List.find?_append, List.find?_append, List.find?_cons_of_neg (by simp [hk]; exact fun e => h e.symm)]
theorem itAt_put {sp : Sp} (hok : SpOk sp) {x : TIntent} (h0 : (putA sp x).2.2 = 0) (q : List UInt8) : itAt (putS sp x).rows q = if q = x.fKey then ⟨⟨(putA sp x).1, x.fDel, x.fValue⟩, x.fTxn⟩ else itAt sp.rows q := by
  unfold putS
  rw [if_neg (by simp [h0])]
  obtain ⟨rows, fl⟩ := sp
  rcases place x.fKey hok.rise with ⟨A, r, B, e, hk, hm⟩ | ⟨A, B, e, hm⟩
  · simp only at e; subst e
    simp only [setIt_mid hk hm]
    exact itAt_swap hm hk rfl
  · simp only at e; subst e
    simp only [setIt_gap hm]
    exact itAt_new hm rfl
theorem at_res {sp : Sp} (hok : SpOk sp) {k : List UInt8} {txn : Int} {a : TStamp} (h : (resA sp k txn true a).1 = true) (q : List UInt8) :
    itAt (resS sp k txn true a).rows q = (if q = k then noIt else itAt sp.rows q) ∧ vsAt (resS sp k txn true a).rows q = if q = k then vsAt sp.rows q ++ [⟨a, (itAt sp.rows k).ver.fDel, (itAt sp.rows k).ver.fValue⟩] else vsAt sp.rows q := by
  obtain ⟨ht, htx, _⟩ := resA_ok h
  unfold resS
  rw [if_pos h]
  obtain ⟨rows, fl⟩ := sp
  rcases place k hok.rise with ⟨A, r, B, e, hk, hm⟩ | ⟨A, B, e, hm⟩
  · simp only at e; subst e
    obtain ⟨p1, p2, p3⟩ := hok.part
    simp only [updR_mid hm hk]
    rw [tidyR_mid (fun x hx => (p1 x hx).some) (fun x hx => (p3 x hx).some), if_neg (by simp [emptyB, resR])]
    rw [itAt_swap hm hk (show (resR true a r).key = k from hk), vsAt_swap hm hk (show (resR true a r).key = k from hk)]
    refine ⟨rfl, ?_⟩
    split
    · rename_i hq; subst hq
      rw [vsAt_mid hm hk, itAt_mid hm hk]; rfl
    · rfl
  · simp only at e; subst e
    simp only [itAt_gap hm] at ht
    rw [← ht] at htx
    exact absurd htx (by decide)
/-! ### The last change of a key -/
def lastOp (ops : List TOp) (q : List UInt8) : Option TOp := ops.reverse.find? fun y => y.fKey == q
theorem lastOp_snoc (ops : List TOp) (y : TOp) (q : List UInt8) : lastOp (ops ++ [y]) q = if y.fKey = q then some y else lastOp ops q := by
  unfold lastOp
  rw [List.reverse_append, List.reverse_singleton, List.singleton_append, List.find?_cons]
  by_cases h : y.fKey = q
  · simp [h]
  · rw [if_neg h]
    have : (y.fKey == q) = false := by simpa using h
    rw [this]
theorem lastOp_mem {ops : List TOp} {y : TOp} (h : y ∈ ops) : ∃ y', lastOp ops y.fKey = some y' := by
  cases e : lastOp ops y.fKey with
  | some y' => exact ⟨y', rfl⟩
  | none =>
    have := List.find?_eq_none.1 e y (List.mem_reverse.2 h)
    simp at this
def atI (i : Nat) : TStamp := ⟨10 * (i : Int), 0⟩
def atC (i : Nat) : TStamp := ⟨10 * (i : Int) + 5, 0⟩
def stN : Nat → TStamp
  | 0 => z0
  | n + 1 => atC n
theorem bhd_yes {a b : TStamp} (h : b.fWall < a.fWall) : bhd a b = true := by simp [bhd, h]
theorem bhd_no {a b : TStamp} (h : a.fWall < b.fWall) : bhd a b = false := by simp [bhd]; omega
def itL (i : Nat) (ops : List TOp) (q : List UInt8) : Itn := match lastOp ops q with
  | none => noIt
  | some y => ⟨⟨atI i, y.fDel, y.fValue⟩, (i : Int) + 1⟩
def okOp (y : TOp) : Bool := keyOk y.fKey && (decide (y.fValue.length ≤ 100) && !(y.fDel && decide (0 < y.fValue.length)))
theorem okOp_iff {y : TOp} (h : okOp y = true) : keyOk y.fKey = true ∧ y.fValue.length ≤ 100 ∧ (y.fDel = true → y.fValue = []) := by
  simp only [okOp, Bool.and_eq_true, decide_eq_true_eq, Bool.not_eq_true', Bool.and_eq_false_iff] at h
  refine ⟨h.1, h.2.1, fun hd => ?_⟩
  rcases h.2.2 with h2 | h2
  · rw [hd] at h2; cases h2
  · exact List.length_eq_zero_iff.1 (by simp at h2; simp [h2])
def putI (i : Nat) (y : TOp) : TIntent := ⟨y.fKey, (i : Int) + 1, atI i, y.fDel, y.fValue⟩
/-! ### A transaction writes -/
structure Puts (i : Nat) (sp0 sp : Sp) (ops : List TOp) : Prop where
  ok : SpOk sp
  floor : sp.floor = z0
  vs : ∀ q, vsAt sp.rows q = vsAt sp0.rows q
  it : ∀ q, itAt sp.rows q = itL i ops q
  rows : sp.rows.length ≤ sp0.rows.length + ops.length
  vers : versN sp.rows = versN sp0.rows
def VersTo (i : Nat) (sp : Sp) : Prop := ∀ q, ∀ v ∈ vsAt sp.rows q, ∃ j : Nat, j < i ∧ v.fAt = atC j
theorem right_at {i : Nat} (hi : i < 30) : rightB (atI i) = true ∧ rightB (atC i) = true ∧ txnB ((i : Int) + 1) = true := by
  refine ⟨?_, ?_, ?_⟩
  · simp only [rightB, wallB, atI, Bool.and_eq_true]
    exact ⟨decide_eq_true (by omega), decide_eq_true (by omega)⟩
  · simp only [rightB, wallB, atC, Bool.and_eq_true]
    exact ⟨decide_eq_true (by omega), decide_eq_true (by omega)⟩
  · exact decide_eq_true (by omega)
theorem Puts.acc {i : Nat} {sp0 sp : Sp} {ops : List TOp} {y : TOp} (h : Puts i sp0 sp ops) (hv : VersTo i sp0) (hi : i < 30) (hy : okOp y = true) : putA sp (putI i y) = (atI i, 0, 0) := by
  obtain ⟨hk, hl, hd⟩ := okOp_iff hy
  obtain ⟨hr, _, ht⟩ := right_at hi
  have hb : ¬ putBad (putI i y) := by
    simp only [putBad, putI, hk, hr, ht]
    simp only [Bool.true_eq_false, false_or, not_or, not_and]
    exact ⟨by omega, fun h1 h2 => h2 (hd h1)⟩
  have hat : putAt sp (putI i y) = atI i := by
    have e1 : bhd sp.floor (putI i y).fAt = false := by
      rw [h.floor]; simp [putI, atI, bhd]; omega
    unfold putAt
    rw [e1, h.it]
    unfold itL
    cases lastOp ops (putI i y).fKey with
    | none => simp [noIt, putI]
    | some y' => simp [bhd_irr, putI]
  unfold putA
  rw [if_neg hb, hat, h.it, h.vs]
  have e2 : ¬ ((itL i ops (putI i y).fKey).txn ≠ 0 ∧ (itL i ops (putI i y).fKey).txn ≠ (putI i y).fTxn) := by
    unfold itL
    cases lastOp ops (putI i y).fKey with
    | none => simp [noIt]
    | some y' => simp [putI]
  rw [if_neg e2]
  have e3 : pastL (atI i) (vsAt sp0.rows (putI i y).fKey).getLast? = (atI i, 0) := by
    cases e : (vsAt sp0.rows (putI i y).fKey).getLast? with
    | none => rfl
    | some v =>
      obtain ⟨j, hj, ha⟩ := hv _ v (List.mem_of_getLast? e)
      simp only [pastL]
      rw [if_pos (bhd_yes (by rw [ha]; simp only [atC, atI]; omega))]
  rw [e3]
  simp
theorem Puts.step {i : Nat} {sp0 sp : Sp} {ops : List TOp} {y : TOp} (h : Puts i sp0 sp ops) (hv : VersTo i sp0) (hi : i < 30) (hy : okOp y = true) : Puts i sp0 (putS sp (putI i y)) (ops ++ [y]) := by
  have hA := h.acc hv hi hy
  have h0 : (putA sp (putI i y)).2.2 = 0 := by rw [hA]
  refine ⟨h.ok.put, ?_, fun q => by rw [vsAt_put h.ok, h.vs], fun q => ?_, ?_, by rw [(put_len h.ok).2, h.vers]⟩
  · unfold putS; split <;> exact h.floor
  · rw [itAt_put h.ok h0, hA, h.it]
    unfold itL
    rw [lastOp_snoc]
    by_cases hq : q = y.fKey
    · subst hq; simp [putI]
    · rw [if_neg (by simpa [putI] using hq), if_neg (fun e => hq e.symm)]
  · have := (put_len (x := putI i y) h.ok).1
    have := h.rows
    simp only [List.length_append, List.length_singleton]; omega
/-! ### A transaction commits -/
def verL (i : Nat) (ops : List TOp) (q : List UInt8) : TVer := match lastOp ops q with
  | none => default
  | some y => ⟨atC i, y.fDel, y.fValue⟩
structure Ress (i : Nat) (sp0 sp : Sp) (ops done : List TOp) : Prop where
  ok : SpOk sp
  floor : sp.floor = z0
  it : ∀ q, itAt sp.rows q = if (lastOp done q).isSome = true then noIt else itL i ops q
  vs : ∀ q, vsAt sp.rows q = if (lastOp done q).isSome = true then vsAt sp0.rows q ++ [verL i ops q] else vsAt sp0.rows q
  rows : sp.rows.length ≤ sp0.rows.length + ops.length
  vers : versN sp.rows ≤ versN sp0.rows + done.length
theorem Puts.res {i : Nat} {sp0 sp : Sp} {ops : List TOp} (h : Puts i sp0 sp ops) : Ress i sp0 sp ops [] := ⟨h.ok, h.floor, h.it, h.vs, h.rows, by simp [h.vers]⟩
theorem Ress.step {i : Nat} {sp0 sp : Sp} {ops done : List TOp} {y : TOp} (h : Ress i sp0 sp ops done) (hv : VersTo i sp0) (hi : i < 30) (hy : okOp y = true) (hm : y ∈ ops) :
    (resA sp y.fKey ((i : Int) + 1) true (atC i)).2 = 0 ∧ Ress i sp0 (resS sp y.fKey ((i : Int) + 1) true (atC i)) ops (done ++ [y]) := by
  obtain ⟨hk, _, _⟩ := okOp_iff hy
  obtain ⟨_, hr, ht⟩ := right_at hi
  obtain ⟨y', hl⟩ := lastOp_mem hm
  have hbad : ¬ (keyOk y.fKey = false ∨ txnB ((i : Int) + 1) = false ∨ (true = true ∧ rightB (atC i) = false)) := by simp [hk, ht, hr]
  by_cases hs : (lastOp done y.fKey).isSome = true
  · have hit : itAt sp.rows y.fKey = noIt := by rw [h.it, if_pos hs]
    have hA : resA sp y.fKey ((i : Int) + 1) true (atC i) = (false, 0) := by
      unfold resA
      rw [if_neg hbad, hit, if_pos (by simp [noIt]; omega)]
    have hS : resS sp y.fKey ((i : Int) + 1) true (atC i) = sp := by unfold resS; rw [hA]; rfl
    have hsn : ∀ q, (lastOp (done ++ [y]) q).isSome = (lastOp done q).isSome := by
      intro q
      rw [lastOp_snoc]
      split
      · rename_i e; rw [← e, hs]; rfl
      · rfl
    refine ⟨by rw [hA], ?_⟩
    rw [hS]
    refine ⟨h.ok, h.floor, fun q => ?_, fun q => ?_, h.rows, ?_⟩
    · rw [hsn]; exact h.it q
    · rw [hsn]; exact h.vs q
    · have := h.vers; simp only [List.length_append, List.length_singleton]; omega
  · have hit : itAt sp.rows y.fKey = ⟨⟨atI i, y'.fDel, y'.fValue⟩, (i : Int) + 1⟩ := by
      rw [h.it, if_neg hs]; unfold itL; rw [hl]
    have hvs : vsAt sp.rows y.fKey = vsAt sp0.rows y.fKey := by rw [h.vs, if_neg hs]
    have hA : resA sp y.fKey ((i : Int) + 1) true (atC i) = (true, 0) := by
      unfold resA
      rw [if_neg hbad, hit, hvs, if_neg (by simp), if_neg ?_]
      rintro ⟨_, h1 | h1⟩
      · rw [bhd_no (by simp only [atI, atC]; omega)] at h1; cases h1
      · cases e : (vsAt sp0.rows y.fKey).getLast? with
        | none => rw [e] at h1; cases h1
        | some v =>
          obtain ⟨j, hj, ha⟩ := hv _ v (List.mem_of_getLast? e)
          rw [e] at h1
          simp only [earlyB] at h1
          rw [bhd_yes (by rw [ha]; simp only [atC]; omega)] at h1
          cases h1
    have h1 : (resA sp y.fKey ((i : Int) + 1) true (atC i)).1 = true := by rw [hA]
    refine ⟨by rw [hA], h.ok.res, by unfold resS; split <;> exact h.floor, fun q => ?_, fun q => ?_, ?_, ?_⟩
    · rw [(at_res h.ok h1 q).1, lastOp_snoc]
      by_cases hq : q = y.fKey
      · subst hq; simp
      · have hq' : ¬ y.fKey = q := fun e => hq e.symm
        simp only [if_neg hq, if_neg hq']; exact h.it q
    · rw [(at_res h.ok h1 q).2, lastOp_snoc]
      by_cases hq : q = y.fKey
      · subst hq
        simp only [if_true, Option.isSome_some, hit, hvs]
        unfold verL; rw [hl]
      · have hq' : ¬ y.fKey = q := fun e => hq e.symm
        simp only [if_neg hq, if_neg hq']; exact h.vs q
    · exact Nat.le_trans (res_len h.ok).1 h.rows
    · have := (res_len (k := y.fKey) (txn := (i : Int) + 1) (yes := true) (a := atC i) h.ok).2
      have := h.vers
      simp only [List.length_append, List.length_singleton]; omega
/-! ### Keys and values behind changes -/
def chL (k v : List UInt8) : Bool → List TKV → List TKV
  | d, [] => if d = true then [] else [⟨k, v⟩]
  | d, x :: xs => if x.fKey = k then chL k v d xs else if d = false ∧ blt k x.fKey = true then ⟨k, v⟩ :: x :: chL k v true xs else x :: chL k v d xs
theorem mem_chL {k v : List UInt8} {x : TKV} : ∀ {l : List TKV} {d : Bool}, x ∈ chL k v d l ↔ (x ∈ l ∧ x.fKey ≠ k) ∨ (d = false ∧ x = ⟨k, v⟩)
  | [], d => by unfold chL; cases d <;> simp
  | y :: l, d => by
    unfold chL
    split
    · rename_i hy
      rw [mem_chL]
      constructor
      · rintro (⟨h1, h2⟩ | h)
        · exact .inl ⟨List.mem_cons_of_mem _ h1, h2⟩
        · exact .inr h
      · rintro (⟨h1, h2⟩ | h)
        · rcases List.mem_cons.1 h1 with rfl | h1
          · exact absurd hy h2
          · exact .inl ⟨h1, h2⟩
        · exact .inr h
    · rename_i hy
      split
      · rename_i hd
        simp only [List.mem_cons]
        rw [mem_chL]
        constructor
        · rintro (h | h | h | h)
          · exact .inr ⟨hd.1, h⟩
          · subst h; exact .inl ⟨.inl rfl, hy⟩
          · exact .inl ⟨.inr h.1, h.2⟩
          · cases h.1
        · rintro (⟨h1 | h1, h2⟩ | h)
          · exact .inr (.inl h1)
          · exact .inr (.inr (.inl ⟨h1, h2⟩))
          · exact .inl h.2
      · simp only [List.mem_cons]
        rw [mem_chL]
        constructor
        · rintro (h | h | h)
          · subst h; exact .inl ⟨.inl rfl, hy⟩
          · exact .inl ⟨.inr h.1, h.2⟩
          · exact .inr h
        · rintro (⟨h1 | h1, h2⟩ | h)
          · exact .inl h1
          · exact .inr (.inl ⟨h1, h2⟩)
          · exact .inr (.inr h)
def SrtKV (l : List TKV) : Prop := l.Pairwise fun a b => blt a.fKey b.fKey = true
theorem srt_chL {k v : List UInt8} : ∀ {l : List TKV} {d : Bool}, SrtKV l → SrtKV (chL k v d l)
  | [], d, _ => by unfold chL; split <;> simp [SrtKV]
  | y :: l, d, h => by
    obtain ⟨h1, h2⟩ := List.pairwise_cons.1 h
    unfold chL
    split
    · exact srt_chL h2
    · rename_i hy
      split
      · rename_i hd
        refine List.pairwise_cons.2 ⟨fun z hz => ?_, List.pairwise_cons.2 ⟨fun z hz => ?_, srt_chL h2⟩⟩
        · rcases List.mem_cons.1 hz with rfl | hz
          · exact hd.2
          · rcases mem_chL.1 hz with ⟨hz, _⟩ | ⟨hz, _⟩
            · exact blt_trans hd.2 (h1 z hz)
            · cases hz
        · rcases mem_chL.1 hz with ⟨hz, _⟩ | ⟨hz, _⟩
          · exact h1 z hz
          · cases hz
      · rename_i hd
        refine List.pairwise_cons.2 ⟨fun z hz => ?_, srt_chL h2⟩
        rcases mem_chL.1 hz with ⟨hz2, _⟩ | ⟨hz2, rfl⟩
        · exact h1 z hz2
        · cases e : blt y.fKey k with
          | true => rfl
          | false =>
            cases e2 : blt k y.fKey with
            | true => exact absurd ⟨hz2, e2⟩ hd
            | false => exact absurd (blt_total _ _ e e2) hy
def chgs (l : List TKV) (ops : List TOp) : List TKV := ops.foldl (fun l y => chL y.fKey y.fValue y.fDel l) l
theorem chgs_snoc (l : List TKV) (ops : List TOp) (y : TOp) : chgs l (ops ++ [y]) = chL y.fKey y.fValue y.fDel (chgs l ops) := by
  unfold chgs; rw [List.foldl_append]; rfl
theorem srt_chgs {l : List TKV} (h : SrtKV l) : ∀ ops : List TOp, SrtKV (chgs l ops) := by
  intro ops
  unfold chgs
  induction ops generalizing l with
  | nil => exact h
  | cons y ops ih => exact ih (srt_chL h)
theorem mem_chgs {l : List TKV} {x : TKV} (ops : List TOp) : x ∈ chgs l ops ↔ match lastOp ops x.fKey with
    | none => x ∈ l
    | some y => y.fDel = false ∧ x.fValue = y.fValue := by
  suffices h : ∀ r : List TOp, (x ∈ chgs l r.reverse ↔ match lastOp r.reverse x.fKey with
    | none => x ∈ l
    | some y => y.fDel = false ∧ x.fValue = y.fValue) by simpa using h ops.reverse
  intro r
  induction r with
  | nil => rfl
  | cons y r ih =>
    rw [List.reverse_cons, chgs_snoc, mem_chL, lastOp_snoc]
    by_cases hq : y.fKey = x.fKey
    · rw [if_pos hq]
      simp only [hq, ne_eq, not_true, and_false, false_or]
      constructor
      · rintro ⟨h1, h2⟩; exact ⟨h1, by rw [h2]⟩
      · rintro ⟨h1, h2⟩; exact ⟨h1, by rw [← h2]⟩
    · rw [if_neg hq]
      rw [← ih]
      constructor
      · rintro (⟨h1, _⟩ | ⟨_, h2⟩)
        · exact h1
        · exact absurd (by rw [h2]) hq
      · intro h1; exact .inl ⟨h1, fun e => hq e.symm⟩
/-! ### The maps -/
structure Hist (i : Nat) (sp : Sp) (maps : List (List TKV)) (l : List TKV) : Prop where
  ok : SpOk sp
  floor : sp.floor = z0
  free : ∀ q, itAt sp.rows q = noIt
  vers : VersTo i sp
  len : maps.length = i + 1
  last : maps[i]? = some l
  all : ∀ n lm, maps[n]? = some lm → SrtKV lm ∧ ∀ x, x ∈ lm ↔ (curG sp.rows x.fKey (stN n)).fFound = true ∧ x.fValue = (curG sp.rows x.fKey (stN n)).fValue
  rows : sp.rows.length ≤ 10 * i
  cnt : versN sp.rows ≤ 10 * i
theorem Hist.zero : Hist 0 sp0 [[]] [] := by
  refine ⟨sp0_ok, rfl, fun _ => rfl, fun q v hv => (by cases hv), rfl, rfl, fun n lm h => ?_, Nat.le_refl _, Nat.le_refl _⟩
  have : lm = [] := by
    match n, h with
    | 0, h => simpa using h.symm
    | n + 1, h => simp at h
  subst this
  refine ⟨List.Pairwise.nil, fun x => ?_⟩
  constructor
  · intro h; cases h
  · rintro ⟨h, _⟩; cases h
theorem upTo_all {vs : List TVer} {m : TStamp} (h : ∀ v ∈ vs, bhd v.fAt m = false) : upTo vs m = vs.getLast? := by
  unfold upTo
  rw [← List.head?_reverse]
  cases e : vs.reverse with
  | nil => rfl
  | cons v r =>
    rw [List.find?_cons_of_pos]; rfl
    have : v ∈ vs := List.mem_reverse.1 (by rw [e]; exact List.mem_cons_self ..)
    simp [h v this]
theorem Hist.next {i : Nat} {sp sp2 : Sp} {maps : List (List TKV)} {l : List TKV} {ops : List TOp} (h : Hist i sp maps l) (hr : Ress i sp sp2 ops ops) (hl : ops.length ≤ 10) : Hist (i + 1) sp2 (maps ++ [chgs l ops]) (chgs l ops) := by
  have hver : ∀ q y, lastOp ops q = some y → verL i ops q = ⟨atC i, y.fDel, y.fValue⟩ := fun q y e => by unfold verL; rw [e]
  have hcur : ∀ q n, n ≤ i → curG sp2.rows q (stN n) = curG sp.rows q (stN n) := by
    intro q n hn
    unfold curG
    rw [hr.vs]
    split
    · rename_i hs
      obtain ⟨y, e⟩ := Option.isSome_iff_exists.1 hs
      rw [hver q y e, upTo_snoc]
      refine bhd_yes ?_
      cases n with
      | zero => simp [stN, atC]; omega
      | succ n => simp only [stN, atC]; omega
    · rfl
  have hold : ∀ q n, i ≤ n → n ≤ i + 1 → upTo (vsAt sp.rows q) (stN n) = (vsAt sp.rows q).getLast? := by
    intro q n h1 h2
    refine upTo_all fun v hv => ?_
    obtain ⟨j, hj, ha⟩ := h.vers q v hv
    cases n with
    | zero => omega
    | succ n =>
      rw [ha]
      simp [stN, atC, bhd]; omega
  refine ⟨hr.ok, hr.floor, fun q => ?_, fun q v hv => ?_, by simp [h.len], ?_, fun n lm e => ?_, by have := hr.rows; have := h.rows; omega, by have := hr.vers; have := h.cnt; omega⟩
  · rw [hr.it]
    split
    · rfl
    · rename_i hs
      unfold itL
      cases e : lastOp ops q with
      | none => rfl
      | some y => rw [e] at hs; simp at hs
  · rw [hr.vs] at hv
    split at hv
    · rename_i hs
      rcases List.mem_append.1 hv with hv | hv
      · obtain ⟨j, hj, ha⟩ := h.vers q v hv
        exact ⟨j, by omega, ha⟩
      · obtain ⟨y, e⟩ := Option.isSome_iff_exists.1 hs
        rw [hver q y e] at hv
        simp only [List.mem_singleton] at hv
        exact ⟨i, by omega, by rw [hv]⟩
    · obtain ⟨j, hj, ha⟩ := h.vers q v hv
      exact ⟨j, by omega, ha⟩
  · rw [List.getElem?_append_right (by rw [h.len]; omega)]
    simp [h.len]
  · by_cases hn : n < maps.length
    · rw [List.getElem?_append_left hn] at e
      obtain ⟨a1, a2⟩ := h.all n lm e
      refine ⟨a1, fun x => ?_⟩
      rw [hcur _ n (by rw [h.len] at hn; omega)]
      exact a2 x
    · rw [List.getElem?_append_right (by omega)] at e
      have hn' : n - maps.length = 0 := by
        rcases Nat.eq_zero_or_pos (n - maps.length) with h0 | h0
        · exact h0
        · rw [List.getElem?_eq_none (by simp; omega)] at e; cases e
      rw [hn'] at e
      have e : chgs l ops = lm := by simpa using e
      subst e
      have hn2 : n = i + 1 := by rw [h.len] at hn hn'; omega
      subst hn2
      obtain ⟨a1, a2⟩ := h.all i l h.last
      refine ⟨srt_chgs a1 ops, fun x => ?_⟩
      rw [mem_chgs]
      unfold curG
      rw [hr.vs]
      cases e : lastOp ops x.fKey with
      | none =>
        simp only [Option.isSome_none, Bool.false_eq_true, if_false]
        rw [a2 x]
        unfold curG
        rw [hold _ _ (Nat.le_refl _) (by omega), hold _ _ (by omega) (Nat.le_refl _)]
      | some y =>
        simp only [Option.isSome_some, if_true]
        have e3 : upTo (vsAt sp.rows x.fKey ++ [⟨atC i, y.fDel, y.fValue⟩]) (stN (i + 1)) = some ⟨atC i, y.fDel, y.fValue⟩ := upTo_of (A := vsAt sp.rows x.fKey) (B := []) (bhd_irr _) (fun x hx => by cases hx)
        rw [hver _ y e, e3]
        unfold seenV
        cases hd : y.fDel <;> simp [gotN, gotV]
end Go.Proofs.YtmnnnoinfhiilaaGreatDoor
namespace Go.Proofs.YtmnnnoinfhiilaaGreatDoor
open Go.SL
set_option maxRecDepth 10000
structure OpOk (y : TOp) : Prop where
  one : 1 ≤ y.fKey.length
  most : y.fKey.length ≤ 250
  del : y.fDel = true → y.fValue = []
structure ChOk (ops : List TOp) : Prop where
  each : ∀ y ∈ ops, OpOk y
  rise : ops.Pairwise fun a b => blt a.fKey b.fKey = true
theorem chL_len (k v : List UInt8) : ∀ (l : List TKV) (d : Bool), (chL k v d l).length ≤ l.length + (if d = true then 0 else 1)
  | [], d => by unfold chL; cases d <;> simp
  | x :: l, d => by
    have h1 := chL_len k v l d
    have h2 := chL_len k v l true
    unfold chL
    split
    · simp only [List.length_cons]; omega
    · split
      · rename_i hd
        simp only [List.length_cons, if_true, hd.1, Bool.false_eq_true, if_false] at *; omega
      · simp only [List.length_cons]; omega
theorem chgs_len (l : List TKV) (ops : List TOp) : (chgs l ops).length ≤ l.length + ops.length := by
  unfold chgs
  induction ops generalizing l with
  | nil => simp
  | cons y ops ih =>
    have h1 := chL_len y.fKey y.fValue l y.fDel
    have h2 := ih (chL y.fKey y.fValue y.fDel l)
    simp only [List.foldl_cons, List.length_cons]
    split at h1 <;> omega
section
variable {ω : Om} {I : Imm} {L : LH} {K : Value → M}
theorem ch_in {i : Nat} {v0 v1 v4 v5 : Value} {l : List TKV} {ops : List TOp} {Kn0 : (Value × Value × Value × Value × Unit) → M} (h0 : RL TKVV 2 I [] v0 l) (h1 : RL TOpV 3 I [] v1 ops) (hi : i < ops.length) (hll : l.length ≤ 400000000) (hol : ops.length ≤ 400000000)
    (hk : ∀ I' v', Ext I I' → RL TKVV 2 I' [] v' (chL ops[i].fKey ops[i].fValue ops[i].fDel l) → Kn0 (v', v4, v5, .int .i64 ((i : Int) + 1), ()) I' L) :
    (LoopM ((.slice none 0 0, .bool ops[i].fDel, .int .i64 0, ()) : Value × Value × Value × Unit) fun s Kn1 => sh9_3 ω v0 v1 v4 v5 (.int .i64 i) s.1 s.2.1 s.2.2.1 (fun s => Gh (Kn0 s)) Kn1 (fun v => Gh (K v))) I L := by
  obtain ⟨q1, off1, c1, hix1, hcl1, hc1, hcc1⟩ := RL.ix h1 (i := (i : Int)) (by omega) (by omega)
  rw [geti_nat hi] at hc1
  generalize ops[i] = y at *
  obtain ⟨w1, w2, rfl, g1, g2⟩ := hc1
  have hcv1 := hcc1 I [] (Ext.refl _) (fun _ h => h)
  obtain ⟨a1, d1, rfl⟩ := Bytes.form g1
  obtain ⟨a2, d2, rfl⟩ := Bytes.form g2
  refine loop (fun n s I' L' => I' = I ∧ ∃ (k : Nat) (d : Bool) (XO : LH) (v : Value) (acc : List TKV) (cells : List Value), n + k = l.length ∧ s = (v, .bool d, .int .i64 k, ()) ∧ L' = XO ++ L ∧ SlO 86 2 XO v cells acc.length ∧ Recs (TKVV I) 2 acc cells ∧ acc.length ≤ 2 * k ∧
      acc ++ chL y.fKey y.fValue d (l.drop k) = chL y.fKey y.fValue y.fDel l) l.length ⟨rfl, 0, y.fDel, [], _, [], [], rfl, rfl, rfl, SlO.none _ _, rfl, by simp, rfl⟩ ?_
  rintro n s I' L' ⟨rfl, k, d, XO, v, acc, cells, hnk, rfl, rfl, hO, hR, hal, hA⟩
  unfold sh9_3
  simp only [RL.len h0, SSd, Nat.reduceAdd]
  refine br_split (fun e => ?_) (fun e => ?_)
  · have hk' : k < l.length := by simpa using e
    rw [List.drop_eq_getElem_cons hk', chL] at hA
    obtain ⟨q, off, c, hix, hcl, hc, hcc⟩ := RL.ix h0 (i := (k : Int)) (by omega) (by omega)
    rw [geti_nat hk'] at hc
    generalize l[k] = x at *
    obtain ⟨u1, u2, rfl, f1, f2⟩ := hc
    have hcv := hcc I' [] (Ext.refl _) (fun _ h => h)
    have hu : ∀ u ∈ [u1, u2], u.oneCell' = true := by
      obtain ⟨_, _, rfl⟩ := Bytes.form f1
      obtain ⟨_, _, rfl⟩ := Bytes.form f2
      exact one_all rfl
    have five : ∀ (XO : LH) (v : Value) (cells : List Value) (acc : List TKV) (d : Bool), SlO 86 2 XO v cells acc.length → Recs (TKVV I') 2 acc cells → acc.length ≤ 2 * k + 2 → acc ++ chL y.fKey y.fValue d (l.drop (k + 1)) = chL y.fKey y.fValue y.fDel l →
        sh9_5 ω v (.bool d) (.int .i64 k) (fun s' => Gh fun I2 L2 => ∃ m', m' < n ∧ I2 = I' ∧ ∃ (k : Nat) (d : Bool) (XO : LH) (v : Value) (acc : List TKV) (cells : List Value), m' + k = l.length ∧ s' = (v, .bool d, .int .i64 k, ()) ∧ L2 = XO ++ L ∧ SlO 86 2 XO v cells acc.length ∧ Recs (TKVV I') 2 acc cells ∧ acc.length ≤ 2 * k ∧
      acc ++ chL y.fKey y.fValue d (l.drop k) = chL y.fKey y.fValue y.fDel l) (fun v => Gh (K v)) I' (XO ++ L) := by
      intro XO v cells acc d hO hR hal hA
      unfold sh9_5
      try simp only [SSd, Nat.reduceAdd]
      rw [wrap_i64 _ (by omega)]
      exact Gh.done ⟨n - 1, by omega, rfl, k + 1, d, XO, v, acc, cells, by omega, rfl, rfl, hO, hR, by omega, hA⟩
    have seven : ∀ (XO : LH) (v : Value) (cells : List Value) (acc : List TKV) (d : Bool), SlO 86 2 XO v cells acc.length → Recs (TKVV I') 2 acc cells → acc.length ≤ 2 * k + 1 → acc ++ x :: chL y.fKey y.fValue d (l.drop (k + 1)) = chL y.fKey y.fValue y.fDel l →
        sh9_7 ω v0 v (.bool d) (.int .i64 k) (fun s' => Gh fun I2 L2 => ∃ m', m' < n ∧ I2 = I' ∧ ∃ (k : Nat) (d : Bool) (XO : LH) (v : Value) (acc : List TKV) (cells : List Value), m' + k = l.length ∧ s' = (v, .bool d, .int .i64 k, ()) ∧ L2 = XO ++ L ∧ SlO 86 2 XO v cells acc.length ∧ Recs (TKVV I') 2 acc cells ∧ acc.length ≤ 2 * k ∧
      acc ++ chL y.fKey y.fValue d (l.drop k) = chL y.fKey y.fValue y.fDel l) (fun v => Gh (K v)) I' (XO ++ L) := by
      intro XO v cells acc d hO hR hal hA
      unfold sh9_7
      simp only [hix, SSd, Nat.reduceAdd]
      refine rdNC hcv (Ext.refl _) rfl ?_
      refine rec_appG (R := TKVV) (X6 := XO) (x := x) rfl (by omega) hO hR ⟨u1, u2, rfl, f1, f2⟩ rfl hu (by omega) (by omega) (fun X1 X6 v6 cells6 h6 hR6 => ?_)
      exact Gh.to (X6 ++ L) (Gh.done (five X6 v6 cells6 _ d h6 hR6 (by simp; omega) (by rw [List.append_assoc]; exact hA)))
    refine drawC ?_
    simp only [hix, SSd, Nat.reduceAdd]
    refine rdCS (hcv 0 _ rfl) (Ext.refl _) ?_
    refine bs_I f1 (Ext.refl _) ?_
    simp only [hix1, SSd, Nat.reduceAdd]
    refine rdCS (hcv1 1 _ rfl) (Ext.refl _) ?_
    refine bs_I g1 (Ext.refl _) ?_
    simp only [sEq, SSd, Nat.reduceAdd]
    refine br_split (fun e2 => ?_) (fun e2 => ?_)
    · have e2' : x.fKey = y.fKey := by simpa using e2
      rw [if_pos e2'] at hA
      exact five XO v cells acc d hO hR (by omega) hA
    · have e2' : ¬ x.fKey = y.fKey := by simpa using e2
      rw [if_neg e2'] at hA
      refine drawC ?_
      try simp only [SSd, Nat.reduceAdd]
      cases d with
      | true =>
        rw [if_neg (by simp)] at hA
        simp only [Bool.not_true, SSd, Nat.reduceAdd]
        exact seven XO v cells acc true hO hR (by omega) hA
      | false =>
        simp only [Bool.not_false, hix, SSd, Nat.reduceAdd]
        refine rdCS (hcv 0 _ rfl) (Ext.refl _) ?_
        refine bs_I f1 (Ext.refl _) ?_
        refine rdCS (hcv1 1 _ rfl) (Ext.refl _) ?_
        refine bs_I g1 (Ext.refl _) ?_
        simp only [sGt, SSd, Nat.reduceAdd]
        refine br_split (fun e3 => ?_) (fun e3 => ?_)
        · have hb : blt y.fKey x.fKey = true := by
            simp only [Bool.not_eq_true', Bool.or_eq_false_iff] at e3
            cases hb : blt y.fKey x.fKey with
            | true => rfl
            | false => exact absurd (blt_total _ _ e3.1 hb) e2'
          rw [if_pos ⟨rfl, hb⟩] at hA
          unfold sh9_6
          refine drawC ?_
          simp only [hix1, SSd, Nat.reduceAdd]
          refine rdCS (hcv1 1 _ rfl) (Ext.refl _) ?_
          refine rdCS (hcv1 2 _ rfl) (Ext.refl _) ?_
          try simp only [SSd, Nat.reduceAdd]
          refine rec_appG (R := TKVV) (X6 := XO) (x := ⟨y.fKey, y.fValue⟩) rfl (by omega) hO hR ⟨_, _, rfl, g1, g2⟩ rfl (one_all rfl) (by omega) (by omega) (fun X1 X6 v6 cells6 h6 hR6 => ?_)
          exact Gh.to (X6 ++ L) (Gh.done (seven X6 v6 cells6 _ true h6 hR6 (by simp; omega) (by rw [List.append_assoc]; exact hA)))
        · have hb : ¬ (false = false ∧ blt y.fKey x.fKey = true) := by
            rintro ⟨_, hb⟩
            have := blt_asymm hb
            rw [this] at e3
            simp at e3
            exact e2' e3
          rw [if_neg hb] at hA
          exact seven XO v cells acc false hO hR (by omega) hA
  · have hkl : k = l.length := by simp at e; omega
    subst hkl
    rw [List.drop_length, chL] at hA
    have ten : ∀ (XO : LH) (v : Value) (cells : List Value) (acc : List TKV), SlO 86 2 XO v cells acc.length → Recs (TKVV I') 2 acc cells → acc = chL y.fKey y.fValue y.fDel l → sh9_10 ω v0 v4 v5 (.int .i64 i) v (fun s => Gh (Kn0 s)) (fun v => Gh (K v)) I' (XO ++ L) := by
      intro XO v cells acc hO hR he
      subst he
      unfold sh9_10
      try simp only [SSd, Nat.reduceAdd]
      rw [wrap_i64 _ (by omega)]
      exact SlO.freeze hO (fun I3 hI3 hSl => Gh.done (hk I3 v hI3 (RL.ofI hSl (hR.imp fun x c h => h.mono hI3))))
    unfold sh9_9
    try simp only [SSd, Nat.reduceAdd]
    refine br_split (fun e2 => ?_) (fun e2 => ?_)
    · have e2' : d = false := by simpa using e2
      subst e2'
      rw [if_neg (by simp)] at hA
      refine drawC ?_
      simp only [hix1, SSd, Nat.reduceAdd]
      refine rdCS (hcv1 1 _ rfl) (Ext.refl _) ?_
      refine rdCS (hcv1 2 _ rfl) (Ext.refl _) ?_
      try simp only [SSd, Nat.reduceAdd]
      refine rec_appG (R := TKVV) (X6 := XO) (x := ⟨y.fKey, y.fValue⟩) rfl (by omega) hO hR ⟨_, _, rfl, g1, g2⟩ rfl (one_all rfl) (by omega) (by omega) (fun X1 X6 v6 cells6 h6 hR6 => ?_)
      exact Gh.to (X6 ++ L) (Gh.done (ten X6 v6 cells6 _ h6 hR6 hA))
    · have e2' : d = true := by simpa using e2
      subst e2'
      rw [if_pos rfl, List.append_nil] at hA
      exact ten XO v cells acc hO hR hA
theorem changed13_spec {v0 v1 : Value} {l : List TKV} {ops : List TOp} (h0 : RL TKVV 2 I [] v0 l) (h1 : RL TOpV 3 I [] v1 ops) (hc : ChOk ops) (hll : l.length ≤ 200000000) (hol : ops.length ≤ 200000000)
    (hk : ∀ I' v', Ext I I' → RL TKVV 2 I' [] v' (chgs l ops) → K (.tuple #[v', .bool true]) I' L) : Cal Tryz.prog ω 9 #[v0, v1] K I L := by
  refine cal9 ?_
  unfold sh9
  refine loop (fun n s I' L' => Ext I I' ∧ L' = L ∧ ∃ (i : Nat) (v : Value), n + i = ops.length ∧ s = (v, .slice none 0 0, .bool false, .int .i64 i, ()) ∧ RL TKVV 2 I' [] v (chgs l (ops.take i))) ops.length ⟨Ext.refl _, rfl, 0, v0, rfl, rfl, h0⟩ ?_
  rintro n s I' L' ⟨hI, rfl, i, v, hni, rfl, hv⟩
  have h1' := RL.monoI (fun x c h => h.mono hI) h1 hI
  unfold sh9_1
  simp only [RL.len h1, SSd, Nat.reduceAdd]
  refine br_split (fun e => ?_) (fun e => ?_)
  · have hi : i < ops.length := by simpa using e
    have hcl := chgs_len l (ops.take i)
    rw [List.length_take] at hcl
    have hin := fun (Kn0 : (Value × Value × Value × Value × Unit) → M) (v4 v5 : Value) => ch_in (ω := ω) (K := K) (L := L') (Kn0 := Kn0) (v4 := v4) (v5 := v5) hv h1' hi (by omega) (by omega)
    have hch : chL ops[i].fKey ops[i].fValue ops[i].fDel (chgs l (ops.take i)) = chgs l (ops.take (i + 1)) := by
      rw [List.take_succ_eq_append_getElem hi, chgs_snoc]
    rw [hch] at hin
    have hok := hc.each _ (List.getElem_mem hi)
    obtain ⟨q1, off1, c1, hix1, hcl1, hc1, hcc1⟩ := RL.ix h1' (i := (i : Int)) (by omega) (by omega)
    rw [geti_nat hi] at hc1
    have hprev : 0 < i → ∃ q b off w0 w1 w2, ixV 3 v1 (.int .i64 ((i : Int) - 1)) = some (.pointer (some ⟨b, off, none⟩)) ∧ Cells I' L' b off [w0, w1, w2] ∧ Bytes I' w1 q ∧ (blt ops[i].fKey q || ops[i].fKey == q) = false := by
      intro h
      obtain ⟨q2, off2, c2, hix2, hcl2, hc2, hcc2⟩ := RL.ix h1' (i := ((i - 1 : Nat) : Int)) (by omega) (by omega)
      rw [geti_nat (by omega)] at hc2
      obtain ⟨w1, w2, he, g1, g2⟩ := hc2
      have hcc3 := hcc2 I' L' (Ext.refl _) (fun _ h => by cases h)
      rw [he] at hcc3
      have hlt := List.pairwise_iff_getElem.1 hc.rise (i - 1) i (by omega) hi (by omega)
      refine ⟨_, _, _, _, _, _, by rw [← hix2]; congr 3; omega, hcc3, g1, ?_⟩
      rw [blt_asymm hlt]
      simpa using fun e => blt_ne' hlt e
    generalize ops[i] = y at *
    obtain ⟨w1, w2, rfl, g1, g2⟩ := hc1
    obtain ⟨a1, d1, rfl⟩ := Bytes.form g1
    obtain ⟨a2, d2, rfl⟩ := Bytes.form g2
    have hcv1 := hcc1 I' [] (Ext.refl _) (fun _ h => h)
    obtain ⟨o1, o2, o3⟩ := hok
    refine drawC ?_
    simp only [hix1, SSd, Nat.reduceAdd]
    refine rdCS (hcv1 1 _ rfl) (Ext.refl _) ?_
    try simp only [SSd, Nat.reduceAdd]
    refine gd_split (fun e2 => ?_) (fun e2 => absurd e2 (by simp; omega))
    try simp only [SSd, Nat.reduceAdd]
    refine rdCS (hcv1 1 _ rfl) (Ext.refl _) ?_
    try simp only [SSd, Nat.reduceAdd]
    refine gd_split (fun e2 => ?_) (fun e2 => absurd e2 (by simp; omega))
    refine rdCS (hcv1 0 _ rfl) (Ext.refl _) ?_
    have tail : (Gd (.bool (decide (0 < (i : Int)))) true
                  (Rv (some (Stay I' L')) (ld1R (.pointer (some ⟨q1, off1 + 1, none⟩))) fun v24 =>
                    Rv (some (Stay I' L')) (bsR v24) fun v25 =>
                      Pv (ixV 3 v1 (.int .i64 (IntKind.i64.wrap ((i : Int) - 1)))) fun v27 =>
                        Pv (fldV 1 v27) fun v28 =>
                          Rv (some (Stay I' L')) (ld1R v28) fun v29 =>
                            Rv (some (Stay I' L')) (bsR v29) fun v30 =>
                              Pv (binSV .leq v25 v30) fun v31 =>
                                Br v31 (Gh (K (.tuple #[.slice none 0 0, .bool false])))
                                  (Rv none (ld1R (.pointer (some ⟨q1, off1, none⟩))) fun v34 =>
                                    LoopM ((.slice none 0 0, v34, .int .i64 0, ()) : Value × Value × Value × Unit) fun s Kn1 =>
                                      sh9_3 ω v v1 (.slice none 0 0) (.bool false) (.int .i64 i) s.1 s.2.1 s.2.2.1
                                        (fun s => Gh fun I2 L2 => ∃ m', m' < n ∧ Ext I I2 ∧ L2 = L' ∧ ∃ (i : Nat) (v : Value), m' + i = ops.length ∧ s = (v, .slice none 0 0, .bool false, .int .i64 i, ()) ∧ RL TKVV 2 I2 [] v (chgs l (ops.take i))) Kn1 fun v => Gh (K v)))
                  (Rv none (ld1R (.pointer (some ⟨q1, off1, none⟩))) fun v83 =>
                    LoopM ((.slice none 0 0, v83, .int .i64 0, ()) : Value × Value × Value × Unit) fun s Kn1 =>
                      sh9_3 ω v v1 (.slice none 0 0) (.bool false) (.int .i64 i) s.1 s.2.1 s.2.2.1
                        (fun s => Gh fun I2 L2 => ∃ m', m' < n ∧ Ext I I2 ∧ L2 = L' ∧ ∃ (i : Nat) (v : Value), m' + i = ops.length ∧ s = (v, .slice none 0 0, .bool false, .int .i64 i, ()) ∧ RL TKVV 2 I2 [] v (chgs l (ops.take i))) Kn1 fun v => Gh (K v))) I' L' := by
      have fin := hin (fun s => fun I2 L2 => ∃ m', m' < n ∧ Ext I I2 ∧ L2 = L' ∧ ∃ (i : Nat) (v : Value), m' + i = ops.length ∧ s = (v, .slice none 0 0, .bool false, .int .i64 i, ()) ∧ RL TKVV 2 I2 [] v (chgs l (ops.take i))) (.slice none 0 0) (.bool false) (fun I2 v2 hI2 hv2 => ⟨n - 1, by omega, hI.trans hI2, rfl, i + 1, v2, by omega, rfl, hv2⟩)
      refine gd_split (fun e2 => ?_) (fun e2 => ?_)
      · obtain ⟨q, b, off, u0, u1, u2, hix2, hc2, hq, hle⟩ := hprev (by simp at e2; omega)
        refine rdCS (hcv1 1 _ rfl) (Ext.refl _) ?_
        refine bs_I g1 (Ext.refl _) ?_
        rw [wrap_i64 _ (by omega)]
        simp only [hix2, SSd, Nat.reduceAdd]
        refine rdCS (hc2 1 _ rfl) (Ext.refl _) ?_
        refine bs_I hq (Ext.refl _) ?_
        simp only [sLe, hle, SSd, Nat.reduceAdd]
        refine rdC (hcv1 0 _ rfl) (Ext.refl _) ?_
        exact fin
      · refine rdC (hcv1 0 _ rfl) (Ext.refl _) ?_
        exact fin
    refine gd_split (fun e3 => ?_) (fun e3 => ?_)
    · refine rdCS (hcv1 2 _ rfl) (Ext.refl _) ?_
      try simp only [SSd, Nat.reduceAdd]
      refine gd_split (fun e4 => tail) (fun e4 => absurd (o3 (by simpa using e3)) (by simpa using e4))
    · exact tail
  · have hi : i = ops.length := by simp at e; omega
    subst hi
    rw [List.take_length] at hv
    exact Gh.done (hk I' v hI hv)
end
end Go.Proofs.YtmnnnoinfhiilaaGreatDoor
-- S3
set_option linter.unusedSimpArgs false
set_option linter.unusedVariables false
namespace Go.Proofs.YtmnnnoinfhiilaaGreatDoor
open Go.SL
set_option maxRecDepth 10000
/-! ### Keys of versions can be told apart -/
def takeK : List UInt8 → Option (List UInt8 × List UInt8)
  | [] => none
  | c :: r => if c = 0 then (match r with
    | [] => none
    | d :: r' => if d = 1 then some ([], r') else if d = 255 then (takeK r').map fun p => (0 :: p.1, p.2) else none) else (takeK r).map fun p => (c :: p.1, p.2)
theorem takeK_kt : ∀ (k r : List UInt8), takeK (ktF k ++ r) = some (k, r)
  | [], r => by simp [ktF, esc, takeK]
  | c :: k, r => by
    have ih := takeK_kt k r
    have e : ktF (c :: k) ++ r = (if c = 0 then [0, 255] else [c]) ++ (ktF k ++ r) := by simp [ktF, esc]
    rw [e]
    by_cases h : c = 0
    · subst h; simp [takeK, ih]
    · rw [if_neg h]
      show takeK (c :: (ktF k ++ r)) = _
      unfold takeK
      rw [if_neg h, ih]; rfl
theorem ktF_inj {k k' a a' : List UInt8} (h : ktF k ++ a = ktF k' ++ a') : k = k' ∧ a = a' := by
  have h1 := takeK_kt k a
  rw [h, takeK_kt] at h1
  simp only [Option.some.injEq, Prod.mk.injEq] at h1
  exact ⟨h1.1.symm, h1.2.symm⟩
def unB (l : List UInt8) : Int := l.foldl (fun n b => n * 256 + (b.toNat : Int)) 0
def unSt (l : List UInt8) : TStamp := ⟨unB (l.take 7), unB (l.drop 7)⟩
theorem byteOf_nat (n : Int) : ((byteOf n).toNat : Int) = n % 256 := by
  unfold byteOf
  have h1 := Int.emod_nonneg n (show (256 : Int) ≠ 0 by decide)
  have h2 := Int.emod_lt_of_pos n (show (0 : Int) < 256 by decide)
  simp only [UInt8.toNat_ofNat']
  omega
theorem unSt_st {s : TStamp} (h : rightB s = true) : unSt (stF s) = s := by
  obtain ⟨⟨h1, h2⟩, h3, h4⟩ := rightB_iff h
  obtain ⟨w, g⟩ := s
  simp only at h1 h2 h3 h4
  have e1 : unB (wallL w 7) = w := by
    have e : wallL w 7 = [wb w 48, wb w 40, wb w 32, wb w 24, wb w 16, wb w 8, wb w 0] := rfl
    rw [e]
    simp only [unB, List.foldl_cons, List.foldl_nil, wb, byteOf_nat]
    simp only [Int.fdiv_eq_ediv_of_nonneg _ (show (0 : Int) ≤ 2 ^ 48 by decide), Int.fdiv_eq_ediv_of_nonneg _ (show (0 : Int) ≤ 2 ^ 40 by decide), Int.fdiv_eq_ediv_of_nonneg _ (show (0 : Int) ≤ 2 ^ 32 by decide), Int.fdiv_eq_ediv_of_nonneg _ (show (0 : Int) ≤ 2 ^ 24 by decide), Int.fdiv_eq_ediv_of_nonneg _ (show (0 : Int) ≤ 2 ^ 16 by decide), Int.fdiv_eq_ediv_of_nonneg _ (show (0 : Int) ≤ 2 ^ 8 by decide), Int.fdiv_eq_ediv_of_nonneg _ (show (0 : Int) ≤ 2 ^ 0 by decide)]
    omega
  have e2 : unB [wb g 8, byteOf g] = g := by
    simp only [unB, List.foldl_cons, List.foldl_nil, wb, byteOf_nat]
    simp only [Int.fdiv_eq_ediv_of_nonneg _ (show (0 : Int) ≤ 2 ^ 8 by decide)]
    omega
  have e3 : (wallL w 7).length = 7 := rfl
  unfold unSt stF
  rw [List.take_left' e3, List.drop_left' e3, e1, e2]
theorem stF_inj {a b : TStamp} (ha : rightB a = true) (hb : rightB b = true) (h : stF a = stF b) : a = b := by rw [← unSt_st ha, ← unSt_st hb, h]
theorem stF_len (a : TStamp) : (stF a).length = 9 := rfl
theorem vkey_inj {k k' : List UInt8} {v v' : TVer} (ha : rightB v.fAt = true) (hb : rightB v'.fAt = true) (h : vkey k v = vkey k' v') : k = k' ∧ v.fAt = v'.fAt := by
  unfold vkey at h
  obtain ⟨h1, h2⟩ := ktF_inj (List.cons.inj h).2
  exact ⟨h1, stF_inj ha hb h2⟩
/-! ### What is kept -/
def keptR (sp : Sp) (q t : List UInt8) : Prop := (q = [102] ∧ sp.floor ≠ z0 ∧ t = stF sp.floor) ∨ (∃ k, q = 105 :: k ∧ itText (itAt sp.rows k) = (false, t)) ∨ (∃ k v, q = vkey k v ∧ v ∈ vsAt sp.rows k ∧ t = verText v)
def OpLen (q : List UInt8) : Prop := 1 ≤ q.length ∧ q.length ≤ 250
def Cur (sp : Sp) (nt : Nts) (q : List UInt8) : Prop := OpLen q ∧ ((nt q = some (true, []) ∧ ∀ t, ¬ keptR sp q t) ∨ ∃ t, nt q = some (false, t) ∧ keptR sp q t)
def NStep (sp : Sp) (nt : Nts) (sp' : Sp) (nt' : Nts) : Prop := ∀ q, (nt' q = nt q ∧ ∀ t, keptR sp' q t ↔ keptR sp q t) ∨ Cur sp' nt' q
def Noted (base : List UInt8 → List UInt8 → Prop) (sp : Sp) (nt : Nts) : Prop := ∀ q, Cur sp nt q ∨ (nt q = none ∧ ∀ t, keptR sp q t ↔ base q t)
theorem Noted.step {base : List UInt8 → List UInt8 → Prop} {sp sp' : Sp} {nt nt' : Nts} (h : Noted base sp nt) (hs : NStep sp nt sp' nt') : Noted base sp' nt' := by
  intro q
  rcases hs q with ⟨h1, h2⟩ | h1
  · rcases h q with ⟨h3, h4⟩ | ⟨h3, h4⟩
    · refine .inl ⟨h3, ?_⟩
      rcases h4 with ⟨h4, h5⟩ | ⟨t, h4, h5⟩
      · exact .inl ⟨by rw [h1, h4], fun t ht => h5 t ((h2 t).1 ht)⟩
      · exact .inr ⟨t, by rw [h1, h4], (h2 t).2 h5⟩
    · exact .inr ⟨by rw [h1, h3], fun t => (h2 t).trans (h4 t)⟩
  · exact .inl h1
theorem NStep.refl (sp : Sp) (nt : Nts) : NStep sp nt sp nt := fun q => .inl ⟨rfl, fun _ => Iff.rfl⟩
theorem keptR_same {sp sp' : Sp} {q t : List UInt8} (hf : q = [102] → sp'.floor = sp.floor) (hi : ∀ k, q = 105 :: k → itAt sp'.rows k = itAt sp.rows k) (hv : ∀ k v, q = vkey k v → (v ∈ vsAt sp'.rows k ↔ v ∈ vsAt sp.rows k)) : keptR sp' q t ↔ keptR sp q t := by
  unfold keptR
  refine or_congr ?_ (or_congr ?_ ?_)
  · constructor
    · rintro ⟨h1, h2, h3⟩; rw [hf h1] at h2 h3; exact ⟨h1, h2, h3⟩
    · rintro ⟨h1, h2, h3⟩; rw [← hf h1] at h2 h3; exact ⟨h1, h2, h3⟩
  · constructor
    · rintro ⟨k, h1, h2⟩; rw [hi k h1] at h2; exact ⟨k, h1, h2⟩
    · rintro ⟨k, h1, h2⟩; rw [← hi k h1] at h2; exact ⟨k, h1, h2⟩
  · constructor
    · rintro ⟨k, v, h1, h2, h3⟩; exact ⟨k, v, h1, (hv k v h1).1 h2, h3⟩
    · rintro ⟨k, v, h1, h2, h3⟩; exact ⟨k, v, h1, (hv k v h1).2 h2, h3⟩
theorem keyOk_len {k : List UInt8} (h : keyOk k = true) : 1 ≤ k.length ∧ k.length ≤ 110 := by simpa [keyOk] using h
theorem opLen_it {k : List UInt8} (h : keyOk k = true) : OpLen (105 :: k) := by
  have := keyOk_len h
  simp only [OpLen, List.length_cons]; omega
theorem opLen_v {k : List UInt8} (h : keyOk k = true) (v : TVer) : OpLen (vkey k v) := by
  have h1 := keyOk_len h
  have h2 := esc_len k
  have h3 := List.count_le_length (a := (0 : UInt8)) (l := k)
  simp only [OpLen, vkey, ktF, List.length_cons, List.length_append, stF_len, List.length_nil]; omega
theorem updN_self (nt : Nts) (k : List UInt8) (x : Bool × List UInt8) : updN nt k x k = some x := by simp [updN]
theorem updN_ne (nt : Nts) {k q : List UInt8} (x : Bool × List UInt8) (h : q ≠ k) : updN nt k x q = nt q := by simp [updN, h]
theorem itText_put {x : TIntent} {a : TStamp} (h : txnB x.fTxn = true) : (itText (putIt x a)).1 = false := by
  unfold itText putIt
  rw [if_neg (txnB_ne h)]
theorem put_noted {sp : Sp} (hok : SpOk sp) (x : TIntent) (nt : Nts) : NStep sp nt (putS sp x) (putN sp x nt) := by
  by_cases h0 : (putA sp x).2.2 = 0
  · obtain ⟨_, _, _, ht, hk⟩ := putA_ok hok h0
    have e : putN sp x nt = updN nt (105 :: x.fKey) (itText (putIt x (putA sp x).1)) := by unfold putN; rw [if_neg (by simp [h0])]
    have hit : itAt (putS sp x).rows x.fKey = putIt x (putA sp x).1 := by rw [itAt_put hok h0, if_pos rfl]; rfl
    intro q
    by_cases hq : q = 105 :: x.fKey
    · subst hq
      refine .inr ⟨opLen_it hk, .inr ⟨(itText (putIt x (putA sp x).1)).2, ?_, .inr (.inl ⟨_, rfl, ?_⟩)⟩⟩
      · rw [e, updN_self, ← itText_put (a := (putA sp x).1) ht]
      · rw [hit, ← itText_put (a := (putA sp x).1) ht]
    · refine .inl ⟨by rw [e, updN_ne _ _ hq], fun t => keptR_same (fun _ => by unfold putS; split <;> rfl) (fun k hk2 => ?_) (fun k v _ => by rw [vsAt_put hok])⟩
      rw [itAt_put hok h0, if_neg (fun e2 => hq (by rw [hk2, e2]))]
  · have e1 : putS sp x = sp := by unfold putS; rw [if_pos h0]
    have e2 : putN sp x nt = nt := by unfold putN; rw [if_pos h0]
    rw [e1, e2]; exact NStep.refl _ _
/-! ### Resolving -/
theorem at_res0 {sp : Sp} (hok : SpOk sp) {k : List UInt8} {txn : Int} {a : TStamp} (h : (resA sp k txn false a).1 = true) (q : List UInt8) :
    itAt (resS sp k txn false a).rows q = (if q = k then noIt else itAt sp.rows q) ∧ vsAt (resS sp k txn false a).rows q = vsAt sp.rows q := by
  obtain ⟨ht, htx, _⟩ := resA_ok h
  refine ⟨?_, by rcases vsAt_res hok (k := k) (txn := txn) (yes := false) (a := a) q with h1 | ⟨h1, _⟩; exact h1; cases h1⟩
  unfold resS
  rw [if_pos h]
  obtain ⟨rows, fl⟩ := sp
  rcases place k hok.rise with ⟨A, r, B, e, hk, hm⟩ | ⟨A, B, e, hm⟩
  · simp only at e; subst e
    obtain ⟨p1, p2, p3⟩ := hok.part
    simp only [updR_mid hm hk]
    rw [tidyR_mid (fun x hx => (p1 x hx).some) (fun x hx => (p3 x hx).some)]
    split
    · have e1 := itAt_new (r := r) (q := q) hm hk
      by_cases hq : q = k
      · subst hq; rw [if_pos rfl, itAt_gap hm]
      · rw [if_neg hq] at e1 ⊢; exact e1.symm
    · exact itAt_swap hm hk (show (resR false a r).key = k from hk)
  · simp only at e; subst e
    simp only [itAt_gap hm] at ht
    rw [← ht] at htx
    exact absurd htx (by decide)
theorem keyOk_it {sp : Sp} (hok : SpOk sp) {k : List UInt8} (h : (itAt sp.rows k).txn ≠ 0) : ∃ r, rowOf sp.rows k = some r ∧ r.it = itAt sp.rows k ∧ keyOk k = true ∧ r.key = k := by
  unfold itAt at h ⊢
  cases e : rowOf sp.rows k with
  | none => rw [e] at h; exact absurd rfl h
  | some r =>
    have hm := rowOf_mem e
    have hk : r.key = k := by simpa using List.find?_some e
    exact ⟨r, rfl, rfl, by rw [← hk]; exact (hok.rows r hm).key, hk⟩
theorem res_noted {sp : Sp} (hok : SpOk sp) (k : List UInt8) (txn : Int) (yes : Bool) (a : TStamp) (nt : Nts) : NStep sp nt (resS sp k txn yes a) (resN sp k txn yes a nt) := by
  by_cases h0 : (resA sp k txn yes a).1 = true
  · obtain ⟨ht, htx, hy⟩ := resA_ok h0
    obtain ⟨r, hr, hit, hk, hrk⟩ := keyOk_it (k := k) hok (by rw [ht]; exact txnB_ne htx)
    have e : resN sp k txn yes a nt = resNr k yes a r nt := by unfold resN; rw [if_pos h0, hr]
    have hfl : (resS sp k txn yes a).floor = sp.floor := by unfold resS; rw [if_pos h0]
    have hno : ∀ (sp' : Sp), itAt sp'.rows k = noIt → ∀ t, ¬ keptR sp' (105 :: k) t := by
      intro sp' hi t ht
      rcases ht with ⟨h1, _⟩ | ⟨k', h1, h2⟩ | ⟨k', v, h1, _⟩
      · simp at h1
      · have : k = k' := by simpa using h1
        subst this
        rw [hi] at h2; cases h2
      · simp [vkey] at h1
    rw [e]
    cases yes with
    | false =>
      have hat := at_res0 hok h0
      intro q
      by_cases hq : q = 105 :: k
      · subst hq
        refine .inr ⟨opLen_it hk, .inl ⟨by simp [resNr, updN_self], hno _ (by rw [(hat k).1, if_pos rfl])⟩⟩
      · refine .inl ⟨by simp [resNr, updN_ne _ _ hq], fun t => keptR_same (fun _ => hfl) (fun k' hk' => ?_) (fun k' v _ => by rw [(hat k').2])⟩
        rw [(hat k').1, if_neg (fun e2 => hq (by rw [hk', e2]))]
    | true =>
      have hat := at_res hok h0
      have hne : vkey k (resV' a r) ≠ 105 :: k := by simp [vkey]
      intro q
      by_cases hq : q = vkey k (resV' a r)
      · subst hq
        refine .inr ⟨opLen_v hk _, .inr ⟨verText (resV' a r), by simp only [resNr, if_true]; exact updN_self _ _ _, .inr (.inr ⟨k, resV' a r, rfl, ?_, rfl⟩)⟩⟩
        rw [(hat k).2, if_pos rfl]
        refine List.mem_append_right _ ?_
        rw [← hit]
        exact List.mem_singleton.2 rfl
      · by_cases hq2 : q = 105 :: k
        · subst hq2
          refine .inr ⟨opLen_it hk, .inl ⟨?_, hno _ (by rw [(hat k).1, if_pos rfl])⟩⟩
          simp only [resNr, if_true]
          rw [updN_ne _ _ hq, updN_self]
        · refine .inl ⟨by simp only [resNr, if_true]; rw [updN_ne _ _ hq, updN_ne _ _ hq2], fun t => keptR_same (fun _ => hfl) (fun k' hk' => ?_) (fun k' v hv => ?_)⟩
          · rw [(hat k').1, if_neg (fun e2 => hq2 (by rw [hk', e2]))]
          · rw [(hat k').2]
            split
            · rename_i h1
              subst h1
              rw [List.mem_append]
              constructor
              · rintro (h2 | h2)
                · exact h2
                · refine absurd ?_ hq
                  rw [hv, List.mem_singleton.1 h2]
                  unfold vkey resV'; rfl
              · exact .inl
            · rfl
  · have e1 : resS sp k txn yes a = sp := by unfold resS; rw [if_neg h0]
    have e2 : resN sp k txn yes a nt = nt := by unfold resN; rw [if_neg h0]
    rw [e1, e2]; exact NStep.refl _ _
/-! ### Collecting -/
theorem itAt_tidy {A : List Row} {q : List UInt8} (hs : SrtK (keysOf A)) (hz : ∀ r ∈ A, r.it.txn = 0 → r.it = noIt) : itAt (tidyR A) q = itAt A q := by
  induction A with
  | nil => rfl
  | cons r A ih =>
    have hs' : SrtK (keysOf A) := (List.pairwise_cons.1 hs).2
    have hlt := (List.pairwise_cons.1 hs).1
    have ih := ih hs' (fun x hx => hz x (List.mem_cons_of_mem _ hx))
    unfold tidyR at ih ⊢
    by_cases he : emptyB r = true
    · rw [List.filter_cons_of_neg (by simp [he]), ih]
      by_cases hk : r.key = q
      · have hno : rowOf A q = none := rowOf_none' fun x hx e => by
          have : blt r.key x.key = true := hlt x.key (List.mem_map_of_mem hx)
          rw [e, hk, blt_irrefl] at this; cases this
        have h1 : itAt A q = noIt := by unfold itAt; rw [hno]
        have h2 : itAt (r :: A) q = r.it := by unfold itAt rowOf; rw [List.find?_cons_of_pos (by simp [hk])]
        rw [h1, h2]
        simp only [emptyB, Bool.and_eq_true, beq_iff_eq] at he
        exact (hz r (List.mem_cons_self ..) he.2).symm
      · unfold itAt rowOf
        rw [List.find?_cons_of_neg (by simp [hk])]
    · rw [List.filter_cons_of_pos (by simp [he])]
      by_cases hk : r.key = q
      · unfold itAt rowOf
        rw [List.find?_cons_of_pos (by simp [hk]), List.find?_cons_of_pos (by simp [hk])]
      · unfold itAt rowOf at ih ⊢
        rw [List.find?_cons_of_neg (by simp [hk]), List.find?_cons_of_neg (by simp [hk])]
        exact ih
theorem goneN_yes {k : List UInt8} {q : List UInt8} : ∀ {l : List TVer} {nt : Nts}, (nt q = some (true, []) ∨ ∃ v ∈ l, vkey k v = q) → goneN k l nt q = some (true, [])
  | [], nt, h => by
    rcases h with h | ⟨v, hv, _⟩
    · exact h
    · cases hv
  | v :: l, nt, h => by
    show goneN k l (updN nt (vkey k v) (true, [])) q = _
    refine goneN_yes ?_
    by_cases hq : q = vkey k v
    · subst hq; exact .inl (updN_self _ _ _)
    · rcases h with h | ⟨w, hw, e⟩
      · exact .inl (by rw [updN_ne _ _ hq, h])
      · rcases List.mem_cons.1 hw with rfl | hw
        · exact absurd e.symm hq
        · exact .inr ⟨w, hw, e⟩
theorem goneN_no {k : List UInt8} {q : List UInt8} : ∀ {l : List TVer} {nt : Nts}, (∀ v ∈ l, vkey k v ≠ q) → goneN k l nt q = nt q
  | [], nt, h => rfl
  | v :: l, nt, h => by
    show goneN k l (updN nt (vkey k v) (true, [])) q = _
    rw [goneN_no fun w hw => h w (List.mem_cons_of_mem _ hw), updN_ne _ _ (fun e => h v (List.mem_cons_self ..) e.symm)]
def Gone (fl : TStamp) (r : Row) (q : List UInt8) : Prop := ∃ kp, upTo r.vs fl = some kp ∧ ∃ v ∈ r.vs.filter (oldB kp), vkey r.key v = q
theorem noteR1_yes {fl : TStamp} {r : Row} {q : List UInt8} {nt : Nts} (h : nt q = some (true, []) ∨ Gone fl r q) : noteR1 fl nt r q = some (true, []) := by
  unfold noteR1
  cases e : upTo r.vs fl with
  | none =>
    rcases h with h | ⟨kp, h, _⟩
    · exact h
    · rw [e] at h; cases h
  | some kp =>
    refine goneN_yes ?_
    rcases h with h | ⟨kp', h, h2⟩
    · exact .inl h
    · rw [e] at h; cases h; exact .inr h2
theorem noteR1_no {fl : TStamp} {r : Row} {q : List UInt8} {nt : Nts} (h : ¬ Gone fl r q) : noteR1 fl nt r q = nt q := by
  unfold noteR1
  cases e : upTo r.vs fl with
  | none => rfl
  | some kp => exact goneN_no fun v hv e2 => h ⟨kp, e, v, hv, e2⟩
theorem noteC_yes {fl : TStamp} {q : List UInt8} : ∀ {rows : List Row} {nt : Nts}, (nt q = some (true, []) ∨ ∃ r ∈ rows, Gone fl r q) → noteC fl rows nt q = some (true, [])
  | [], nt, h => by
    rcases h with h | ⟨v, hv, _⟩
    · exact h
    · cases hv
  | r :: rows, nt, h => by
    show noteC fl rows (noteR1 fl nt r) q = _
    refine noteC_yes ?_
    rcases h with h | ⟨w, hw, e⟩
    · exact .inl (noteR1_yes (.inl h))
    · rcases List.mem_cons.1 hw with rfl | hw
      · exact .inl (noteR1_yes (.inr e))
      · exact .inr ⟨w, hw, e⟩
theorem noteC_no {fl : TStamp} {q : List UInt8} : ∀ {rows : List Row} {nt : Nts}, (∀ r ∈ rows, ¬ Gone fl r q) → noteC fl rows nt q = nt q
  | [], nt, h => rfl
  | r :: rows, nt, h => by
    show noteC fl rows (noteR1 fl nt r) q = _
    rw [noteC_no fun w hw => h w (List.mem_cons_of_mem _ hw), noteR1_no (h r (List.mem_cons_self ..))]
theorem itAt_col {sp : Sp} (hok : SpOk sp) (b : TStamp) (q : List UInt8) : itAt (colS sp b).rows q = itAt sp.rows q := by
  unfold colS
  split
  · rfl
  · have hs : SrtK (keysOf (sp.rows.map (colR (colFl sp b)))) := by
      have e : keysOf (sp.rows.map (colR (colFl sp b))) = keysOf sp.rows := by
        unfold keysOf; rw [List.map_map]; exact List.map_congr_left fun x _ => colR_key _ x
      rw [e]; exact hok.rise
    show itAt (tidyR (sp.rows.map (colR (colFl sp b)))) q = _
    rw [itAt_tidy hs (fun r hr h => by
      obtain ⟨x, hx, rfl⟩ := List.mem_map.1 hr
      rw [colR_it] at h ⊢
      exact (hok.rows x hx).zero h)]
    generalize colFl sp b = fl
    generalize sp.rows = rows
    induction rows with
    | nil => rfl
    | cons r rows ih =>
      unfold itAt rowOf at ih ⊢
      rw [List.map_cons]
      by_cases hk : r.key = q
      · rw [List.find?_cons_of_pos (by simpa using (colR_key fl r).trans hk), List.find?_cons_of_pos (by simp [hk])]
        exact colR_it fl r
      · rw [List.find?_cons_of_neg (by simpa using fun h => hk ((colR_key fl r).symm.trans h)), List.find?_cons_of_neg (by simp [hk])]
        exact ih
theorem vsAt_row {rows : List Row} {k : List UInt8} {v : TVer} (h : v ∈ vsAt rows k) : ∃ r ∈ rows, r.key = k ∧ r.vs = vsAt rows k := by
  unfold vsAt at h ⊢
  cases e : rowOf rows k with
  | none => rw [e] at h; cases h
  | some r => exact ⟨r, rowOf_mem e, by simpa using List.find?_some e, rfl⟩
theorem row_vsAt {rows : List Row} {r : Row} (hs : SrtK (keysOf rows)) (h : r ∈ rows) : vsAt rows r.key = r.vs := by
  obtain ⟨i, hi, rfl⟩ := List.getElem_of_mem h
  unfold vsAt; rw [rowOf_at hs hi]
theorem one_at {vs : List TVer} (h : vs.Pairwise fun a b => bhd b.fAt a.fAt = true) {v w : TVer} (hv : v ∈ vs) (hw : w ∈ vs) (e : v.fAt = w.fAt) : v = w := by
  induction vs with
  | nil => cases hv
  | cons x vs ih =>
    obtain ⟨h1, h2⟩ := List.pairwise_cons.1 h
    rcases List.mem_cons.1 hv with e1 | hv2
    · rcases List.mem_cons.1 hw with e2 | hw2
      · rw [e1, e2]
      · have := h1 w hw2; rw [← e1, e, bhd_irr] at this; cases this
    · rcases List.mem_cons.1 hw with e2 | hw2
      · have := h1 v hv2; rw [← e2, e, bhd_irr] at this; cases this
      · exact ih h2 hv2 hw2
theorem col_noted {sp : Sp} (hok : SpOk sp) (b : TStamp) (nt : Nts) : NStep sp nt (colS sp b) (colN sp b nt) := by
  by_cases hb : rightB b = false
  · have e1 : colS sp b = sp := by unfold colS; rw [if_pos hb]
    have e2 : colN sp b nt = nt := by unfold colN; rw [if_pos hb]
    rw [e1, e2]; exact NStep.refl _ _
  have hfl : (colS sp b).floor = colFl sp b := by unfold colS; rw [if_neg hb]
  have hN : colN sp b nt = noteC (colFl sp b) sp.rows (if bhd b sp.floor = true then updN nt [102] (false, stF b) else nt) := by unfold colN; rw [if_neg hb]
  have hv : ∀ q, vsAt (colS sp b).rows q = colV (colFl sp b) (vsAt sp.rows q) := fun q => by rw [vsAt_col hok, if_neg hb]
  have hsub : ∀ q v, v ∈ colV (colFl sp b) (vsAt sp.rows q) → v ∈ vsAt sp.rows q := by
    intro q v h
    unfold colV at h
    split at h
    · exact h
    · exact (List.mem_filter.1 h).1
  intro q
  by_cases hg : ∃ r ∈ sp.rows, Gone (colFl sp b) r q
  · obtain ⟨r, hr, hG⟩ := hg
    refine .inr ⟨?_, .inl ⟨by rw [hN]; exact noteC_yes (.inr ⟨r, hr, hG⟩), ?_⟩⟩
    · obtain ⟨kp, _, v, _, rfl⟩ := hG
      exact opLen_v (hok.rows r hr).key v
    · obtain ⟨kp, hkp, v, hvm, rfl⟩ := hG
      obtain ⟨hv1, hv2⟩ := List.mem_filter.1 hvm
      rintro t (⟨h1, _⟩ | ⟨k, h1, _⟩ | ⟨k, w, h1, h2, _⟩)
      · simp [vkey] at h1
      · simp [vkey] at h1
      · rw [hv] at h2
        have h3 := hsub _ _ h2
        obtain ⟨e1, e2⟩ := vkey_inj ((hok.rows r hr).vs v hv1).right (((vsAt_rise hok k).2 w h3).right) h1
        subst e1
        rw [row_vsAt hok.rise hr] at h2 h3
        have e3 := one_at (hok.rows r hr).rise hv1 h3 e2
        subst e3
        unfold colV at h2
        rw [hkp] at h2
        have h4 := (List.mem_filter.1 h2).2
        rw [hv2] at h4; cases h4
  · have hn : colN sp b nt q = (if bhd b sp.floor = true then updN nt [102] (false, stF b) else nt) q := by
      rw [hN]; exact noteC_no fun r hr h => hg ⟨r, hr, h⟩
    have hkeep : ∀ k v, q = vkey k v → (v ∈ vsAt (colS sp b).rows k ↔ v ∈ vsAt sp.rows k) := by
      intro k v e
      rw [hv]
      refine ⟨hsub k v, fun h => ?_⟩
      obtain ⟨r, hr, hrk, hrv⟩ := vsAt_row h
      cases e2 : upTo (vsAt sp.rows k) (colFl sp b) with
      | none => unfold colV; rw [e2]; exact h
      | some kp =>
        unfold colV; rw [e2]
        refine List.mem_filter.2 ⟨h, ?_⟩
        cases e3 : oldB kp v with
        | false => rfl
        | true => exact absurd ⟨r, hr, kp, by rw [hrv, e2], v, List.mem_filter.2 ⟨by rw [hrv]; exact h, e3⟩, by rw [hrk, e]⟩ hg
    by_cases h102 : q = [102] ∧ bhd b sp.floor = true
    · obtain ⟨rfl, hbf⟩ := h102
      refine .inr ⟨⟨Nat.le_refl _, by decide⟩, .inr ⟨stF b, by rw [hn, if_pos hbf, updN_self], .inl ⟨rfl, ?_, ?_⟩⟩⟩
      · rw [hfl]; unfold colFl; rw [if_pos hbf]
        rintro rfl
        have := rightB_iff hok.floor
        simp [bhd] at hbf; omega
      · rw [hfl]; unfold colFl; rw [if_pos hbf]
    · refine .inl ⟨?_, fun t => keptR_same (fun e => ?_) (fun k _ => itAt_col hok b k) hkeep⟩
      · rw [hn]
        split
        · rename_i hbf
          exact updN_ne _ _ fun e => h102 ⟨e, hbf⟩
        · rfl
      · rw [hfl]; unfold colFl
        exact if_neg fun hbf => h102 ⟨e, hbf⟩
theorem step_noted {sp : Sp} (hok : SpOk sp) (x : TStep) (nt : Nts) : NStep sp nt (stepS sp x) (stepN sp x nt) := by
  unfold stepS stepN
  split
  · exact put_noted hok _ _
  · split
    · exact res_noted hok _ _ _ _ _
    · split
      · exact col_noted hok _ _
      · exact NStep.refl _ _
end Go.Proofs.YtmnnnoinfhiilaaGreatDoor
-- S3
set_option linter.unusedSimpArgs false
set_option linter.unusedVariables false
namespace Go.Proofs.YtmnnnoinfhiilaaGreatDoor
open Go.SL
set_option maxRecDepth 10000
theorem itAt_txn {sp : Sp} (hok : SpOk sp) {k t : List UInt8} (h : itText (itAt sp.rows k) = (false, t)) : (itAt sp.rows k).txn ≠ 0 := by
  intro h0
  unfold itText at h
  rw [if_pos h0] at h
  simp at h
theorem keptR_fun {sp : Sp} (hok : SpOk sp) {q t t' : List UInt8} (h : keptR sp q t) (h' : keptR sp q t') : t = t' := by
  rcases h with ⟨h1, _, h2⟩ | ⟨k, h1, h2⟩ | ⟨k, v, h1, h2, h3⟩
  · rcases h' with ⟨_, _, g2⟩ | ⟨k', g1, _⟩ | ⟨k', v', g1, _⟩
    · rw [h2, g2]
    · rw [h1] at g1; simp at g1
    · rw [h1] at g1; simp [vkey] at g1
  · rcases h' with ⟨g1, _⟩ | ⟨k', g1, g2⟩ | ⟨k', v', g1, _⟩
    · rw [h1] at g1; simp at g1
    · rw [h1] at g1
      have : k = k' := by simpa using g1
      subst this
      rw [h2] at g2
      simpa using g2
    · rw [h1] at g1; simp [vkey] at g1
  · rcases h' with ⟨g1, _⟩ | ⟨k', g1, _⟩ | ⟨k', v', g1, g2, g3⟩
    · rw [h1] at g1; simp [vkey] at g1
    · rw [h1] at g1; simp [vkey] at g1
    · rw [h1] at g1
      obtain ⟨e1, e2⟩ := vkey_inj (((vsAt_rise hok k).2 v h2).right) (((vsAt_rise hok k').2 v' g2).right) g1
      subst e1
      rw [h3, g3, one_at (vsAt_rise hok k).1 h2 g2 e2]
/-! ### What was taken -/
structure TookOk (nt : Nts) (ops : List TOp) : Prop where
  mem : ∀ y ∈ ops, nt y.fKey = some (y.fDel, y.fValue)
  all : ∀ q d t, nt q = some (d, t) → (⟨d, q, t⟩ : TOp) ∈ ops
  rise : ops.Pairwise fun a b => blt a.fKey b.fKey = true
theorem TookOk.last {nt : Nts} {ops : List TOp} (h : TookOk nt ops) (q : List UInt8) : (lastOp ops q = none ∧ nt q = none) ∨ ∃ y, lastOp ops q = some y ∧ y.fKey = q ∧ nt q = some (y.fDel, y.fValue) := by
  cases e : lastOp ops q with
  | some y =>
    have h1 : y ∈ ops := List.mem_reverse.1 (List.mem_of_find?_eq_some e)
    have h2 : y.fKey = q := by simpa using List.find?_some e
    exact .inr ⟨y, rfl, h2, by rw [← h2]; exact h.mem y h1⟩
  | none =>
    refine .inl ⟨rfl, ?_⟩
    cases e2 : nt q with
    | none => rfl
    | some p =>
      obtain ⟨y', hy'⟩ := lastOp_mem (h.all q p.1 p.2 e2)
      simp only at hy'
      rw [e] at hy'; cases hy'
theorem took_kept {sp : Sp} (hok : SpOk sp) {nt : Nts} {ops : List TOp} {l : List TKV} (h : TookOk nt ops) (hN : Noted (fun q t => (⟨q, t⟩ : TKV) ∈ l) sp nt) (x : TKV) : x ∈ chgs l ops ↔ keptR sp x.fKey x.fValue := by
  rw [mem_chgs]
  rcases h.last x.fKey with ⟨h1, h2⟩ | ⟨y, h1, h2, h3⟩
  · rw [h1]
    rcases hN x.fKey with ⟨_, h4⟩ | ⟨_, h4⟩
    · rcases h4 with ⟨h4, _⟩ | ⟨t, h4, _⟩ <;> rw [h2] at h4 <;> cases h4
    · exact (h4 x.fValue).symm
  · rw [h1]
    simp only
    rcases hN x.fKey with ⟨_, h4⟩ | ⟨h4, _⟩
    · rcases h4 with ⟨h4, h5⟩ | ⟨t, h4, h5⟩
      · rw [h3] at h4
        simp only [Option.some.injEq, Prod.mk.injEq] at h4
        constructor
        · rintro ⟨h6, _⟩; rw [h4.1] at h6; cases h6
        · intro h6; exact absurd h6 (h5 _)
      · rw [h3] at h4
        simp only [Option.some.injEq, Prod.mk.injEq] at h4
        constructor
        · rintro ⟨_, h6⟩; rw [h6, h4.2]; exact h5
        · intro h6; exact ⟨h4.1, by rw [h4.2]; exact keptR_fun hok h6 h5⟩
    · rw [h3] at h4; cases h4
theorem took_ok {sp : Sp} {nt : Nts} {ops : List TOp} {base : List UInt8 → List UInt8 → Prop} (h : TookOk nt ops) (hN : Noted base sp nt) : (∀ y ∈ ops, 1 ≤ y.fKey.length ∧ y.fKey.length ≤ 250 ∧ (y.fDel = true → y.fValue = [])) := by
  intro y hy
  have h1 := h.mem y hy
  rcases hN y.fKey with ⟨h2, h3⟩ | ⟨h2, _⟩
  · refine ⟨h2.1, h2.2, fun hd => ?_⟩
    rcases h3 with ⟨h3, _⟩ | ⟨t, h3, _⟩
    · rw [h1] at h3
      simp only [Option.some.injEq, Prod.mk.injEq] at h3
      exact h3.2
    · rw [h1, hd] at h3; cases h3
  · rw [h1] at h2; cases h2
theorem Noted.fresh {sp : Sp} {l : List TKV} (h : ∀ x : TKV, x ∈ l ↔ keptR sp x.fKey x.fValue) : Noted (fun q t => (⟨q, t⟩ : TKV) ∈ l) sp (fun _ => none) := fun q => .inr ⟨rfl, fun t => (h ⟨q, t⟩).symm⟩
/-! ### The same rows -/
theorem rows_eq : ∀ {A B : List Row}, SrtK (keysOf A) → SrtK (keysOf B) → (∀ r, r ∈ A ↔ r ∈ B) → A = B
  | [], [], _, _, _ => rfl
  | [], y :: l2, _, _, h => by have := (h y).2 (List.mem_cons_self ..); cases this
  | x :: l1, [], _, _, h => by have := (h x).1 (List.mem_cons_self ..); cases this
  | x :: l1, y :: l2, h1, h2, h => by
    have a1 : ∀ z ∈ l1, blt x.key z.key = true := fun z hz => (List.pairwise_cons.1 h1).1 z.key (List.mem_map_of_mem hz)
    have b1 : ∀ z ∈ l2, blt y.key z.key = true := fun z hz => (List.pairwise_cons.1 h2).1 z.key (List.mem_map_of_mem hz)
    have hxy : x = y := by
      rcases List.mem_cons.1 ((h x).1 (List.mem_cons_self ..)) with e | hx
      · exact e
      · rcases List.mem_cons.1 ((h y).2 (List.mem_cons_self ..)) with e | hy
        · exact e.symm
        · have := blt_asymm (b1 x hx)
          rw [a1 y hy] at this; cases this
    subst hxy
    rw [rows_eq (List.pairwise_cons.1 h1).2 (List.pairwise_cons.1 h2).2 (fun z => ?_)]
    constructor
    · intro hz
      rcases List.mem_cons.1 ((h z).1 (List.mem_cons_of_mem _ hz)) with e | hz'
      · subst e; have := a1 z hz; rw [blt_irrefl] at this; cases this
      · exact hz'
    · intro hz
      rcases List.mem_cons.1 ((h z).2 (List.mem_cons_of_mem _ hz)) with e | hz'
      · subst e; have := b1 z hz; rw [blt_irrefl] at this; cases this
      · exact hz'
theorem row_itAt {rows : List Row} {r : Row} (hs : SrtK (keysOf rows)) (h : r ∈ rows) : itAt rows r.key = r.it := by
  obtain ⟨i, hi, rfl⟩ := List.getElem_of_mem h
  unfold itAt; rw [rowOf_at hs hi]
theorem rows_ext {A B : List Row} (hA : SrtK (keysOf A)) (hB : SrtK (keysOf B)) (eA : ∀ r ∈ A, emptyB r = false) (eB : ∀ r ∈ B, emptyB r = false) (hi : ∀ k, itAt A k = itAt B k) (hv : ∀ k, vsAt A k = vsAt B k) : A = B := by
  have half : ∀ {A B : List Row}, SrtK (keysOf A) → SrtK (keysOf B) → (∀ r ∈ A, emptyB r = false) → (∀ k, itAt A k = itAt B k) → (∀ k, vsAt A k = vsAt B k) → ∀ r ∈ A, r ∈ B := by
    intro A B hA hB eA hi hv r hr
    have h1 := row_itAt hA hr
    have h2 := row_vsAt hA hr
    rw [hi] at h1; rw [hv] at h2
    unfold itAt at h1
    unfold vsAt at h2
    cases e : rowOf B r.key with
    | none =>
      rw [e] at h1 h2
      have := eA r hr
      simp only at h1 h2
      simp [emptyB, ← h1, ← h2, noIt] at this
    | some r' =>
      rw [e] at h1 h2
      have hk : r'.key = r.key := by simpa using List.find?_some e
      have : r' = r := by
        cases r; cases r'; simp only at hk h1 h2; subst hk h1 h2; rfl
      rw [← this]; exact rowOf_mem e
  exact rows_eq hA hB fun r => ⟨half hA hB eA hi hv r, half hB hA eB (fun k => (hi k).symm) (fun k => (hv k).symm) r⟩
/-! ### Moments' bytes rise -/
theorem unB_go : ∀ (l : List UInt8) (n : Int), l.foldl (fun n b => n * 256 + (b.toNat : Int)) n = n * 256 ^ l.length + unB l
  | [], n => by simp [unB]
  | c :: l, n => by
    have e : unB (c :: l) = (c.toNat : Int) * 256 ^ l.length + unB l := by
      show l.foldl (fun n b => n * 256 + (b.toNat : Int)) (0 * 256 + (c.toNat : Int)) = _
      rw [unB_go l]; simp
    rw [List.foldl_cons, unB_go l, e, List.length_cons, Int.pow_succ, Int.add_mul, Int.mul_assoc, Int.mul_comm 256, ← Int.add_assoc]
theorem unB_cons (c : UInt8) (l : List UInt8) : unB (c :: l) = (c.toNat : Int) * 256 ^ l.length + unB l := by
  show l.foldl (fun n b => n * 256 + (b.toNat : Int)) (0 * 256 + (c.toNat : Int)) = _
  rw [unB_go l]; simp
theorem unB_append (l l' : List UInt8) : unB (l ++ l') = unB l * 256 ^ l'.length + unB l' := by
  unfold unB; rw [List.foldl_append, unB_go]; rfl
theorem unB_bound : ∀ l : List UInt8, 0 ≤ unB l ∧ unB l < 256 ^ l.length
  | [] => by simp [unB]
  | c :: l => by
    obtain ⟨h1, h2⟩ := unB_bound l
    rw [unB_cons, List.length_cons, Int.pow_succ]
    have hc : (c.toNat : Int) ≤ 255 := by have := c.toNat_lt; omega
    have hp : (0 : Int) ≤ 256 ^ l.length := by omega
    have h3 := Int.mul_le_mul_of_nonneg_right hc hp
    have h4 := Int.mul_nonneg (Int.natCast_nonneg c.toNat) hp
    omega
theorem blt_unB : ∀ {l l' : List UInt8}, l.length = l'.length → unB l < unB l' → blt l l' = true
  | [], [], _, h => by simp at h
  | [], _ :: _, h, _ => by simp at h
  | _ :: _, [], h, _ => by simp at h
  | c :: l, d :: l', hl, h => by
    have hl' : l.length = l'.length := by simpa using hl
    rw [unB_cons, unB_cons, hl'] at h
    obtain ⟨a1, a2⟩ := unB_bound l
    obtain ⟨b1, b2⟩ := unB_bound l'
    have hp : (0 : Int) ≤ 256 ^ l'.length := by omega
    simp only [Op.bytesLess, Bool.or_eq_true, Bool.and_eq_true, decide_eq_true_eq, beq_iff_eq, UInt8.lt_iff_toNat_lt]
    rcases Nat.lt_trichotomy c.toNat d.toNat with e | e | e
    · exact .inl e
    · refine .inr ⟨UInt8.toNat_inj.1 e, blt_unB hl' ?_⟩
      rw [e] at h; omega
    · have h3 := Int.mul_le_mul_of_nonneg_right (show (d.toNat : Int) + 1 ≤ c.toNat by omega) hp
      rw [Int.add_mul] at h3
      omega
theorem unB_st {s : TStamp} (h : rightB s = true) : unB (stF s) = s.fWall * 65536 + s.fLogic := by
  have e := unSt_st h
  have e1 : unB ((stF s).take 7) = s.fWall := congrArg TStamp.fWall e
  have e2 : unB ((stF s).drop 7) = s.fLogic := congrArg TStamp.fLogic e
  conv => lhs; rw [← List.take_append_drop 7 (stF s)]
  rw [unB_append, e1, e2]
  rfl
theorem st_rise {a b : TStamp} (ha : rightB a = true) (hb : rightB b = true) (h : bhd b a = true) : blt (stF a) (stF b) = true := by
  refine blt_unB rfl ?_
  rw [unB_st ha, unB_st hb]
  obtain ⟨_, h3, h4⟩ := rightB_iff ha
  obtain ⟨_, g3, g4⟩ := rightB_iff hb
  simp [bhd] at h
  omega
theorem blt_same : ∀ (p a b : List UInt8), blt (p ++ a) (p ++ b) = blt a b
  | [], a, b => rfl
  | c :: p, a, b => by
    show blt (c :: (p ++ a)) (c :: (p ++ b)) = _
    have := blt_same p a b
    simp only [Op.bytesLess] at this ⊢
    simp [this]
theorem vkey_rise {k : List UInt8} {v w : TVer} (hv : rightB v.fAt = true) (hw : rightB w.fAt = true) (h : bhd w.fAt v.fAt = true) : blt (vkey k v) (vkey k w) = true := by
  have := blt_same (118 :: ktF k) (stF v.fAt) (stF w.fAt)
  unfold vkey
  simp only [List.cons_append] at this
  rw [this]
  exact st_rise hv hw h
/-! ### A list is loaded -/
def inKs (p : List TKV) (q : List UInt8) : Bool := p.any fun x => x.fKey == q
theorem inKs_snoc (p : List TKV) (x : TKV) (q : List UInt8) : inKs (p ++ [x]) q = (inKs p q || x.fKey == q) := by simp [inKs]
theorem inKs_iff {p : List TKV} {q : List UInt8} : inKs p q = true ↔ ∃ x ∈ p, x.fKey = q := by simp [inKs]
structure LInv (sp : Sp) (p : List TKV) (s : Sp) : Prop where
  ok : SpOk s
  floor : s.floor = if inKs p [102] = true then sp.floor else z0
  it : ∀ k, itAt s.rows k = if inKs p (105 :: k) = true then itAt sp.rows k else noIt
  vs : ∀ k, vsAt s.rows k = (vsAt sp.rows k).filter fun v => inKs p (vkey k v)
theorem LInv.zero (sp : Sp) : LInv sp [] sp0 := ⟨sp0_ok, rfl, fun _ => rfl, fun k => by
  show [] = _
  symm
  exact List.filter_eq_nil_iff.2 fun v _ => by simp [inKs]⟩
theorem LInv.done {sp s : Sp} (hok : SpOk sp) {l : List TKV} (hl : ∀ x : TKV, x ∈ l ↔ keptR sp x.fKey x.fValue) (h : LInv sp l s) : s = sp := by
  have e1 : s.floor = sp.floor := by
    rw [h.floor]
    split
    · rfl
    · rename_i hn
      cases Classical.em (sp.floor = z0) with
      | inl h => exact h.symm
      | inr h0 => exact absurd (inKs_iff.2 ⟨⟨[102], stF sp.floor⟩, (hl _).2 (.inl ⟨rfl, h0, rfl⟩), rfl⟩) hn
  have e2 : s.rows = sp.rows := by
    refine rows_ext h.ok.rise hok.rise (fun r hr => (h.ok.rows r hr).some) (fun r hr => (hok.rows r hr).some) (fun k => ?_) (fun k => ?_)
    · rw [h.it]
      split
      · rfl
      · rename_i hn
        cases hi : (itText (itAt sp.rows k)).1 with
        | false => exact absurd (inKs_iff.2 ⟨⟨105 :: k, (itText (itAt sp.rows k)).2⟩, (hl _).2 (.inr (.inl ⟨k, rfl, by rw [← hi]⟩)), rfl⟩) hn
        | true =>
          have ht : (itAt sp.rows k).txn = 0 := by
            unfold itText at hi
            split at hi
            · assumption
            · cases hi
          unfold itAt at ht ⊢
          cases e : rowOf sp.rows k with
          | none => rfl
          | some r => rw [e] at ht; exact ((hok.rows r (rowOf_mem e)).zero ht).symm
    · rw [h.vs]
      exact List.filter_eq_self.2 fun v hv => inKs_iff.2 ⟨⟨vkey k v, verText v⟩, (hl _).2 (.inr (.inr ⟨k, v, rfl, hv, rfl⟩)), rfl⟩
  cases s; cases sp; simp only at e1 e2; subst e1 e2; rfl
def Slot (A : List Row) (k : List UInt8) (B : List Row) (r : Row) (rows : List Row) : Prop := Mid A k B ∧ r.key = k ∧ (rows = A ++ r :: B ∨ (rows = A ++ B ∧ r = ⟨k, [], noIt⟩))
theorem Slot.old {A B : List Row} {k : List UInt8} {r : Row} {rows : List Row} (h : Slot A k B r rows) : r.it = itAt rows k ∧ r.vs = vsAt rows k := by
  obtain ⟨hm, hk, rfl | ⟨rfl, rfl⟩⟩ := h
  · rw [itAt_mid hm hk, vsAt_mid hm hk]; exact ⟨rfl, rfl⟩
  · rw [itAt_gap hm, vsAt_gap hm]; exact ⟨rfl, rfl⟩
theorem Slot.new {A B : List Row} {k : List UInt8} {r r' : Row} {rows : List Row} {fl : TStamp} (h : Slot A k B r rows) (hok : SpOk ⟨rows, fl⟩) (hk' : r'.key = k) (hr : RowOk r') :
    SpOk ⟨A ++ r' :: B, fl⟩ ∧ (∀ q, itAt (A ++ r' :: B) q = if q = k then r'.it else itAt rows q) ∧ ∀ q, vsAt (A ++ r' :: B) q = if q = k then r'.vs else vsAt rows q := by
  obtain ⟨hm, hk, rfl | ⟨rfl, rfl⟩⟩ := h
  · exact ⟨hok.swap (hk'.trans hk.symm) hr, fun q => itAt_swap hm hk hk', fun q => vsAt_swap hm hk hk'⟩
  · refine ⟨hok.more hm hr hk', fun q => itAt_new hm hk', fun q => ?_⟩
    rw [vsAt_less (r := ⟨k, [], noIt⟩) hm rfl rfl]
    exact vsAt_swap hm rfl hk'
theorem LInv.setFloor {sp s : Sp} {p : List TKV} (hok : SpOk sp) (h : LInv sp p s) : LInv sp (p ++ [⟨[102], stF sp.floor⟩]) ⟨s.rows, sp.floor⟩ := by
  refine ⟨⟨h.ok.rise, h.ok.rows, hok.floor⟩, ?_, fun k => ?_, fun k => ?_⟩
  · rw [inKs_snoc]; simp
  · rw [inKs_snoc]; simp only [h.it]; simp
  · simp only [h.vs]
    refine List.filter_congr fun v _ => ?_
    rw [inKs_snoc]; simp [vkey]
theorem LInv.setIt {sp s : Sp} {p : List TKV} (hok : SpOk sp) (h : LInv sp p s) {A B : List Row} {r : Row} {k t : List UInt8} (hs : Slot A k B r s.rows) (ht : itText (itAt sp.rows k) = (false, t)) : LInv sp (p ++ [⟨105 :: k, t⟩]) ⟨A ++ ⟨k, r.vs, itAt sp.rows k⟩ :: B, s.floor⟩ := by
  have h0 := itAt_txn hok ht
  obtain ⟨r0, hr0, hi0, hk0, hkk⟩ := keyOk_it hok h0
  have hro := hok.rows r0 (rowOf_mem hr0)
  obtain ⟨o1, o2⟩ := hs.old
  have hvs : ∀ v ∈ r.vs, VerOk v := fun v hv => by rw [o2] at hv; exact (vsAt_rise h.ok k).2 v hv
  have hrise : r.vs.Pairwise fun a b => bhd b.fAt a.fAt = true := by rw [o2]; exact (vsAt_rise h.ok k).1
  obtain ⟨n1, n2, n3⟩ := hs.new (r' := ⟨k, r.vs, itAt sp.rows k⟩) (fl := s.floor) h.ok rfl ⟨hk0, hvs, hrise, by rw [← hi0]; exact hro.it, emptyB_it h0⟩
  refine ⟨n1, ?_, fun q => ?_, fun q => ?_⟩
  · rw [inKs_snoc]; simp only [h.floor]; simp
  · rw [inKs_snoc]
    simp only [n2]
    by_cases hq : q = k
    · subst hq; simp
    · rw [if_neg hq, h.it]
      have : ((105 :: k : List UInt8) == 105 :: q) = false := by simpa using fun e => hq e.symm
      rw [this, Bool.or_false]
  · simp only [n3]
    have e : (vsAt sp.rows q).filter (fun v => inKs (p ++ [⟨105 :: k, t⟩]) (vkey q v)) = vsAt s.rows q := by
      rw [h.vs]
      refine List.filter_congr fun v _ => ?_
      rw [inKs_snoc]; simp [vkey]
    rw [e]
    split
    · rename_i hq; subst hq; exact o2
    · rfl
theorem LInv.addV {sp s : Sp} {p : List TKV} (hok : SpOk sp) (h : LInv sp p s) {A B : List Row} {r : Row} {k : List UInt8} {v : TVer} (hs : Slot A k B r s.rows) (hv : v ∈ vsAt sp.rows k) (hp : ∀ y ∈ p, blt y.fKey (vkey k v) = true) :
    LInv sp (p ++ [⟨vkey k v, verText v⟩]) ⟨A ++ ⟨k, r.vs ++ [v], r.it⟩ :: B, s.floor⟩ := by
  obtain ⟨r0, hr0, hk0, hv0⟩ := vsAt_row hv
  have hro := hok.rows r0 hr0
  obtain ⟨o1, o2⟩ := hs.old
  obtain ⟨q1, q2⟩ := vsAt_rise hok k
  have hnot : ∀ w ∈ vsAt sp.rows k, bhd w.fAt v.fAt = true → inKs p (vkey k w) = false := by
    intro w hw hb
    cases e : inKs p (vkey k w) with
    | false => rfl
    | true =>
      obtain ⟨y, hy, ey⟩ := inKs_iff.1 e
      have h1 := hp y hy
      rw [ey] at h1
      have h2 := vkey_rise (k := k) (q2 v hv).right (q2 w hw).right hb
      rw [blt_asymm h2] at h1; cases h1
  have hself : inKs p (vkey k v) = false := by
    cases e : inKs p (vkey k v) with
    | false => rfl
    | true =>
      obtain ⟨y, hy, ey⟩ := inKs_iff.1 e
      have h1 := hp y hy
      rw [ey, blt_irrefl] at h1; cases h1
  have hkey : r.vs ++ [v] = (vsAt sp.rows k).filter fun w => inKs (p ++ [⟨vkey k v, verText v⟩]) (vkey k w) := by
    rw [o2, h.vs]
    obtain ⟨C, D, e⟩ := List.append_of_mem hv
    rw [e] at q1 q2 hnot ⊢
    have hD : ∀ w ∈ D, bhd w.fAt v.fAt = true := by
      have := (List.pairwise_append.1 q1).2.1
      exact fun w hw => (List.pairwise_cons.1 this).1 w hw
    have hC : ∀ w ∈ C, bhd v.fAt w.fAt = true := fun w hw => (List.pairwise_append.1 q1).2.2 w hw v (List.mem_cons_self ..)
    have hD0 : D.filter (fun w => inKs p (vkey k w)) = [] := List.filter_eq_nil_iff.2 fun w hw => by
      rw [hnot w (by simp [hw]) (hD w hw)]; simp
    have hD1 : D.filter (fun w => inKs (p ++ [⟨vkey k v, verText v⟩]) (vkey k w)) = [] := List.filter_eq_nil_iff.2 fun w hw => by
      rw [inKs_snoc, hnot w (by simp [hw]) (hD w hw)]
      have h2 := blt_ne (vkey_rise (k := k) (q2 v (by simp)).right (q2 w (by simp [hw])).right (hD w hw))
      simpa using h2
    have hC1 : C.filter (fun w => inKs (p ++ [⟨vkey k v, verText v⟩]) (vkey k w)) = C.filter (fun w => inKs p (vkey k w)) := List.filter_congr fun w hw => by
      rw [inKs_snoc]
      have h2 := blt_ne' (vkey_rise (k := k) (q2 w (by simp [hw])).right (q2 v (by simp)).right (hC w hw))
      have : (vkey k v == vkey k w) = false := by simpa using h2
      rw [this, Bool.or_false]
    rw [List.filter_append, List.filter_append, List.filter_cons, List.filter_cons, hD0, hD1, hC1, hself, inKs_snoc]
    simp
  have hit : r.it = noIt ∨ (txnB r.it.txn = true ∧ VerOk r.it.ver) := by
    rw [o1, h.it]
    split
    · rw [← hk0, row_itAt hok.rise hr0]; exact hro.it
    · exact .inl rfl
  obtain ⟨n1, n2, n3⟩ := hs.new (r' := ⟨k, r.vs ++ [v], r.it⟩) (fl := s.floor) h.ok rfl ⟨by rw [← hk0]; exact hro.key,
    (fun w hw => by simp only [hkey] at hw; exact q2 w (List.mem_filter.1 hw).1), by simp only [hkey]; exact List.Pairwise.sublist List.filter_sublist q1, hit, by simp [emptyB]⟩
  refine ⟨n1, ?_, fun q => ?_, fun q => ?_⟩
  · rw [inKs_snoc]; simp only [h.floor]; simp [vkey]
  · rw [inKs_snoc]
    simp only [n2]
    have : (vkey k v == 105 :: q) = false := by simp [vkey]
    rw [this, Bool.or_false, ← h.it]
    split
    · rename_i hq; subst hq; exact o1
    · rfl
  · simp only [n3]
    split
    · rename_i hq; subst hq; exact hkey
    · rename_i hq
      rw [h.vs]
      refine List.filter_congr fun w hw => ?_
      rw [inKs_snoc]
      have : (vkey k v == vkey q w) = false := by
        have : vkey k v ≠ vkey q w := fun e => hq (vkey_inj (q2 v hv).right (((vsAt_rise hok q).2 w hw).right) e).1.symm
        simpa using this
      rw [this, Bool.or_false]
end Go.Proofs.YtmnnnoinfhiilaaGreatDoor
