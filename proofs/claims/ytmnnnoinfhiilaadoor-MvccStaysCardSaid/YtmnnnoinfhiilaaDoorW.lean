/-
  The document's space is read: a key, all keys, a span, what has changed.
-/
-- S3
import Derived.Test.YtmnnnoinfhiilaaDoorV
set_option linter.unusedSimpArgs false
set_option linter.unusedVariables false
namespace Go.Proofs.YtmnnnoinfhiilaaDoor
open Go.SL
set_option maxRecDepth 10000
/-! ### Keys, merged -/
def pushK (out : List (List UInt8)) (x : List UInt8) : List (List UInt8) := if out.getLast? = some x then out else out ++ [x]
def mrgK : Nat → List (List UInt8) → List (List UInt8) → List (List UInt8) → List (List UInt8)
  | 0, _, _, out => out
  | _ + 1, [], [], out => out
  | n + 1, x :: a, [], out => mrgK n a [] (pushK out x)
  | n + 1, [], y :: b, out => mrgK n [] b (pushK out y)
  | n + 1, x :: a, y :: b, out => if (blt x y || x == y) = true then mrgK n a (y :: b) (pushK out x) else mrgK n (x :: a) b (pushK out y)
theorem mrgK_same {k : List UInt8} {a b : List (List UInt8)} (ha : ∀ x ∈ a, blt k x = true) (hb : ∀ x ∈ b, blt k x = true) : ∀ (n e N : Nat) (out : List (List UInt8)), out.getLast? = some k →
    mrgK (n + e + N) (List.replicate n k ++ a) (List.replicate e k ++ b) out = mrgK N a b out
  | 0, 0, N, out, _ => by simp
  | 0, e + 1, N, out, h => by
    have hp : pushK out k = out := if_pos h
    have ih := mrgK_same ha hb 0 e N out h
    rw [show 0 + (e + 1) + N = (0 + e + N) + 1 by omega, List.replicate_succ]
    simp only [List.replicate_zero, List.nil_append, List.cons_append] at ih ⊢
    cases a with
    | nil => simp only [mrgK, hp]; exact ih
    | cons x a =>
      have hx := ha x (List.mem_cons_self ..)
      simp only [mrgK, hp]
      rw [if_neg (by rw [blt_asymm hx]; simpa using blt_ne' hx)]
      exact ih
  | n + 1, 0, N, out, h => by
    have hp : pushK out k = out := if_pos h
    have ih := mrgK_same ha hb n 0 N out h
    rw [show n + 1 + 0 + N = (n + 0 + N) + 1 by omega, List.replicate_succ]
    simp only [List.replicate_zero, List.nil_append, List.cons_append] at ih ⊢
    cases b with
    | nil => simp only [mrgK, hp]; exact ih
    | cons y b =>
      have hy := hb y (List.mem_cons_self ..)
      simp only [mrgK, hp]
      rw [if_pos (by rw [hy]; rfl)]
      exact ih
  | n + 1, e + 1, N, out, h => by
    have hp : pushK out k = out := if_pos h
    have ih := mrgK_same ha hb n (e + 1) N out h
    rw [show n + 1 + (e + 1) + N = (n + (e + 1) + N) + 1 by omega, List.replicate_succ]
    rw [List.replicate_succ] at ih ⊢
    simp only [List.cons_append] at ih ⊢
    simp only [mrgK, hp]
    rw [if_pos (by simp)]
    exact ih
theorem mrgK_new {k : List UInt8} {a b : List (List UInt8)} (ha : ∀ x ∈ a, blt k x = true) (hb : ∀ x ∈ b, blt k x = true) (n e N : Nat) (out : List (List UInt8)) (h : out.getLast? ≠ some k) (h0 : 0 < n + e) :
    mrgK (n + e + N) (List.replicate n k ++ a) (List.replicate e k ++ b) out = mrgK N a b (out ++ [k]) := by
  have hp : pushK out k = out ++ [k] := if_neg h
  have hl : (out ++ [k]).getLast? = some k := by simp
  match n, e, h0 with
  | 0, e + 1, _ =>
    have ih := mrgK_same ha hb 0 e N (out ++ [k]) hl
    rw [show 0 + (e + 1) + N = (0 + e + N) + 1 by omega, List.replicate_succ]
    simp only [List.replicate_zero, List.nil_append, List.cons_append] at ih ⊢
    cases a with
    | nil => simp only [mrgK, hp]; exact ih
    | cons x a =>
      have hx := ha x (List.mem_cons_self ..)
      simp only [mrgK, hp]
      rw [if_neg (by rw [blt_asymm hx]; simpa using blt_ne' hx)]
      exact ih
  | n + 1, 0, _ =>
    have ih := mrgK_same ha hb n 0 N (out ++ [k]) hl
    rw [show n + 1 + 0 + N = (n + 0 + N) + 1 by omega, List.replicate_succ]
    simp only [List.replicate_zero, List.nil_append, List.cons_append] at ih ⊢
    cases b with
    | nil => simp only [mrgK, hp]; exact ih
    | cons y b =>
      have hy := hb y (List.mem_cons_self ..)
      simp only [mrgK, hp]
      rw [if_pos (by rw [hy]; rfl)]
      exact ih
  | n + 1, e + 1, _ =>
    have ih := mrgK_same ha hb n (e + 1) N (out ++ [k]) hl
    rw [show n + 1 + (e + 1) + N = (n + (e + 1) + N) + 1 by omega, List.replicate_succ]
    rw [List.replicate_succ] at ih ⊢
    simp only [List.cons_append] at ih ⊢
    simp only [mrgK, hp]
    rw [if_pos (by simp)]
    exact ih
def vKeys (rows : List Row) : List (List UInt8) := (versOf rows).map (·.fKey)
def iKeys (rows : List Row) : List (List UInt8) := (intsOf rows).map (·.fKey)
theorem vKeys_cons (r : Row) (rs : List Row) : vKeys (r :: rs) = List.replicate r.vs.length r.key ++ vKeys rs := by
  unfold vKeys
  rw [versOf_cons, List.map_append, List.map_map]
  congr 1
  exact List.eq_replicate_iff.2 ⟨by simp, fun b hb => by
    obtain ⟨v, _, rfl⟩ := List.mem_map.1 hb; rfl⟩
theorem iKeys_cons (r : Row) (rs : List Row) : iKeys (r :: rs) = List.replicate (if r.it.txn = 0 then 0 else 1) r.key ++ iKeys rs := by
  unfold iKeys
  rw [intsOf_cons, List.map_append]
  congr 1
  by_cases h : r.it.txn = 0 <;> simp [h, itF]
theorem mrgK_rows : ∀ {rows : List Row} {out : List (List UInt8)}, SrtK (keysOf rows) → (∀ r ∈ rows, emptyB r = false) → (∀ l, out.getLast? = some l → ∀ r ∈ rows, blt l r.key = true) →
    mrgK ((vKeys rows).length + (iKeys rows).length) (vKeys rows) (iKeys rows) out = out ++ keysOf rows
  | [], out, _, _, _ => by simp [vKeys, iKeys, versOf, intsOf, keysOf, mrgK]
  | r :: rs, out, hs, he, hl => by
    obtain ⟨h1, h2⟩ := List.pairwise_cons.1 (show List.Pairwise _ (r.key :: keysOf rs) from hs)
    have ih := mrgK_rows (rows := rs) (out := out ++ [r.key]) h2 (fun x hx => he x (List.mem_cons_of_mem _ hx)) (fun l hl' x hx => by
      simp at hl'; subst hl'; exact h1 _ (List.mem_map_of_mem hx))
    rw [vKeys_cons, iKeys_cons, List.length_append, List.length_append, List.length_replicate, List.length_replicate]
    have hv : ∀ x ∈ vKeys rs, blt r.key x = true := fun x hx => by
      obtain ⟨u, hu, rfl⟩ := List.mem_map.1 hx
      obtain ⟨y, hy, e, _⟩ := vers_key hu
      rw [e]; exact h1 _ (List.mem_map_of_mem hy)
    have hi : ∀ x ∈ iKeys rs, blt r.key x = true := fun x hx => by
      obtain ⟨u, hu, rfl⟩ := List.mem_map.1 hx
      obtain ⟨y, hy, e⟩ := ints_key hu
      rw [e]; exact h1 _ (List.mem_map_of_mem hy)
    have hne : 0 < r.vs.length + (if r.it.txn = 0 then 0 else 1) := by
      have := he r (List.mem_cons_self ..)
      by_cases h : r.it.txn = 0
      · rw [if_pos h]
        cases hvs : r.vs with
        | nil => simp [emptyB, hvs, h] at this
        | cons v l => simp
      · rw [if_neg h]; omega
    have := mrgK_new hv hi r.vs.length (if r.it.txn = 0 then 0 else 1) ((vKeys rs).length + (iKeys rs).length) out (fun e => by
      have := hl _ e r (List.mem_cons_self ..)
      rw [blt_irrefl] at this; cases this) hne
    rw [show r.vs.length + (vKeys rs).length + ((if r.it.txn = 0 then 0 else 1) + (iKeys rs).length) = r.vs.length + (if r.it.txn = 0 then 0 else 1) + ((vKeys rs).length + (iKeys rs).length) by omega, this, ih]
    simp [keysOf]
section
variable {ω : Om} {I : Imm} {L : LH} {K : Value → M}
theorem rget_spec {L0 : LH} [LSub L0 L] {b : Nat} {vV vI a : Value} {sp : Sp} {m : TStamp} {k : List UInt8} {txn : Int} (hR : RefF I L0 b vV vI (versOf sp.rows) (intsOf sp.rows) sp.floor) (hok : SpOk sp) (hB : Bytes I a k) (hlen : sp.rows.length ≤ 100000000) (hn : versN sp.rows ≤ 100000000)
    (hk : ∀ v0, Bytes I v0 (getF sp k m txn).1.fValue → K (.tuple #[gvV (getF sp k m txn).1 v0, .int .i64 (getF sp k m txn).2]) I L) :
    Cal Tryd.prog ω 36 #[pt b, a, sv m, .int .i64 txn] K I L := by
  have hz : ∀ I', Bytes I' (.slice none 0 0) [] := fun I' => SlI.nil I' 1 none 0
  refine cal36 ?_
  unfold sh36
  refine newI (fun b1 => newI (fun b2 => ?_))
  refine call (riskey_spec hB ?_)
  refine rdB rfl ?_
  refine call (rright_spec (x := m) ?_)
  refine call (rreader_spec ?_)
  have bad : ∀ (hb : keyOk k = false ∨ (rightB m && readerB txn) = false), sh36_1 ω (pt b2) (.int .i64 0) (fun v => Gh (K v)) I ((b2, gotO) :: (b1, .cells #[.int .i64 m.fWall, .int .i64 m.fLogic] 34 (0, 0)) :: L) := by
    intro hb
    have eg : getF sp k m txn = (gotN, 1) := by unfold getF; rw [if_pos hb]
    rw [eg] at hk
    unfold sh36_1
    repeat' (first | (with_reducible refine drawC ?_) | (with_reducible refine drawW1 ?_) | (with_reducible refine drawW2 ?_) | (with_reducible refine keepC (by repeat (first | exact Ext.refl _ | assumption | refine Ext.trans ?_ (by assumption))) ?_) | (with_reducible refine newI (fun _ => ?_)) | first | (with_reducible refine rdb ?_) | ((with_reducible refine st1 ?_ ?_); rfl) | ((with_reducible refine rdB ?_ ?_); rfl) | (with_reducible refine rdbS ?_) | ((with_reducible refine rdBS ?_ ?_); rfl) | ((with_reducible refine stB ?_ ?_ ?_ ?_); rfl; rfl; exact one_all rfl) | ((with_reducible refine rdP _ rfl ?_ ?_); rfl) | ((with_reducible refine rdPS _ rfl ?_ ?_); rfl) | ((with_reducible refine stP _ rfl ?_ ?_ ?_ ?_); rfl; rfl; rfl) | (with_reducible refine unfE (sh36_1.eq_1 ..) ?_) | (with_reducible refine unfE (sh36_2.eq_1 ..) ?_) | (with_reducible refine unfE (sh36.eq_1 ..) ?_) | (with_reducible refine And.intro ?_ ?_) | (simp only [Bool.not_true, Bool.not_false, Bool.and_self, Bool.true_and, Int.reduceBEq, Int.reduceBNe, Int.reduceLT, Int.reduceLE, decide_true, decide_false, Br_true, Br_false, Gd_tt, Gd_ft, Gd_tf, Gd_ff, beq_self_eq_true, bne_self_eq_false]) | (with_reducible refine gd_split (fun _ => ?_) (fun _ => ?_)) | (with_reducible refine br_split (fun _ => ?_) (fun _ => ?_)) | (simp only [SSd, Nat.reduceAdd]))
    exact Gh.to L (Gh.done (hk _ (hz I)))
  try simp only [SSd, Nat.reduceAdd]
  refine gd_split (fun e => ?_) (fun e => bad (.inl (by simpa using e)))
  have k1 : keyOk k = true := by simpa using e
  try simp only [SSd, Nat.reduceAdd]
  refine gd_split (fun e => ?_) (fun e => bad (.inr (by have : rightB m = false := by simpa using e
                                                        rw [this]; rfl)))
  have k2 : rightB m = true := by simpa using e
  try simp only [SSd, Nat.reduceAdd]
  refine br_split (fun e => bad (.inr (by have : readerB txn = false := by simpa using e
                                          rw [this]; simp))) (fun e => ?_)
  have k3 : readerB txn = true := by simpa using e
  have hf : ¬ (keyOk k = false ∨ (rightB m && readerB txn) = false) := by rw [k1, k2, k3]; simp
  have hc2 : Cells I L0 b 2 [.int .i64 sp.floor.fWall, .int .i64 sp.floor.fLogic] := by simpa using hR.head.sub (k := 2) (m := 2)
  refine drawC ?_
  try simp only [SSd, Nat.reduceAdd]
  refine rdNCS hc2 (Ext.refl _) rfl ?_
  refine rdBS rfl ?_
  refine call (rbehind_spec (x := sp.floor) (y := m) ?_)
  refine br_split (fun e2 => ?_) (fun e2 => ?_)
  · have eg : getF sp k m txn = (gotN, 131) := by unfold getF; rw [if_neg hf, if_pos e2]
    rw [eg] at hk
    unfold sh36_2
    repeat' (first | (with_reducible refine drawC ?_) | (with_reducible refine drawW1 ?_) | (with_reducible refine drawW2 ?_) | (with_reducible refine keepC (by repeat (first | exact Ext.refl _ | assumption | refine Ext.trans ?_ (by assumption))) ?_) | (with_reducible refine newI (fun _ => ?_)) | first | (with_reducible refine rdb ?_) | ((with_reducible refine st1 ?_ ?_); rfl) | ((with_reducible refine rdB ?_ ?_); rfl) | (with_reducible refine rdbS ?_) | ((with_reducible refine rdBS ?_ ?_); rfl) | ((with_reducible refine stB ?_ ?_ ?_ ?_); rfl; rfl; exact one_all rfl) | ((with_reducible refine rdP _ rfl ?_ ?_); rfl) | ((with_reducible refine rdPS _ rfl ?_ ?_); rfl) | ((with_reducible refine stP _ rfl ?_ ?_ ?_ ?_); rfl; rfl; rfl) | (with_reducible refine unfE (sh36_1.eq_1 ..) ?_) | (with_reducible refine unfE (sh36_2.eq_1 ..) ?_) | (with_reducible refine unfE (sh36.eq_1 ..) ?_) | (with_reducible refine And.intro ?_ ?_) | (simp only [Bool.not_true, Bool.not_false, Bool.and_self, Bool.true_and, Int.reduceBEq, Int.reduceBNe, Int.reduceLT, Int.reduceLE, decide_true, decide_false, Br_true, Br_false, Gd_tt, Gd_ft, Gd_tf, Gd_ff, beq_self_eq_true, bne_self_eq_false]) | (with_reducible refine gd_split (fun _ => ?_) (fun _ => ?_)) | (with_reducible refine br_split (fun _ => ?_) (fun _ => ?_)) | (simp only [SSd, Nat.reduceAdd]))
    exact Gh.to L (Gh.done (hk _ (hz I)))
  · have eg : getF sp k m txn = getR sp.rows k m txn := by unfold getF getR; rw [if_neg hf, if_neg (by rw [e2]; simp)]; cases rowOf sp.rows k <;> rfl
    rw [eg] at hk
    refine rdB rfl ?_
    refine call (rread_spec (L0 := L0) hR hok hB hlen hn (fun v0 h0 => ?_))
    obtain ⟨wa, wc, rfl⟩ := Bytes.form h0
    try simp only [SSd, Nat.reduceAdd]
    refine newI (fun b3 => ?_)
    refine stB rfl rfl (one_all rfl) ?_
    refine rdB rfl ?_
    refine stB rfl rfl (one_all rfl) ?_
    refine rdB rfl ?_
    exact Gh.to L (Gh.done (hk _ h0))
theorem push_spec {X F : LH} {v p4 p5 : Value} {out : List (List UInt8)} {key : List UInt8} {Kn0 : (Value × Value × Value × Unit) → M} (h : StrO X v out) (hl : out.length ≤ 1000000000) (hk : ∀ X' v', StrO X' v' (pushK out key) → Gh (Kn0 (v', p4, p5, ())) I (X' ++ F)) :
    sh66_3 ω v p4 p5 (sstr key) (fun s => Gh (Kn0 s)) (fun v => Gh (K v)) I (X ++ F) := by
  have app : ∀ (hn : out.getLast? ≠ some key), sh66_4 ω v p4 p5 (sstr key) (fun s => Gh (Kn0 s)) (fun v => Gh (K v)) I (X ++ F) := by
    intro hn
    have hp : pushK out key = out ++ [key] := if_neg hn
    rw [hp] at hk
    unfold sh66_4
    refine bld_one rfl (by omega) rfl (fun X1 u hX1 => ?_)
    refine app_ownG (X := X) (news := [sstr key]) rfl h (by simpa [Value.cells] using hX1.news (fun x hx => List.mem_append_left _ hx)) (one_all rfl) (by omega) (by omega) (fun X' v' hX' => ?_)
    have hS : StrO X' v' (out ++ [key]) := by
      unfold StrO
      have e : strs (out ++ [key]) = strs out ++ [sstr key] := by simp [strs]
      rw [e, List.length_append]
      exact hX'
    exact Gh.to (X' ++ F) (Gh.done (hk X' v' hS))
  obtain ⟨sa, sc, rfl⟩ := h.form
  unfold sh66_3
  try simp only [SSd, Nat.reduceAdd]
  cases hgl : out.getLast? with
  | none =>
    have h0 : out = [] := List.getLast?_eq_none_iff.1 hgl
    have e : (((out.length : Nat) : Int) == 0) = true := by rw [h0]; rfl
    simp only [e, SSd, Nat.reduceAdd]
    exact app (by rw [hgl]; simp)
  | some l =>
    obtain ⟨h0, hlx⟩ := last_ix hgl
    have e : (((out.length : Nat) : Int) == 0) = false := by simp; intro h; rw [h] at h0; simp at h0
    simp only [e, SSd, Nat.reduceAdd]
    rw [wrap_i64 _ (by omega)]
    have el : ((out.length : Nat) : Int) - 1 = ((out.length - 1 : Nat) : Int) := by omega
    rw [el]
    obtain ⟨q, off, c, hix, hcl, hc, hcc⟩ := RL.ix (StrO.rl (I := I) (L := X) h (fun _ h => h)) (i := ((out.length - 1 : Nat) : Int)) (by omega) (by omega)
    obtain rfl : c = _ := hc
    rw [hlx] at hcc
    simp only [hix, SSd, Nat.reduceAdd]
    refine rdC (hcc I X (Ext.refl _) (fun _ h => h) 0 _ rfl) (Ext.refl _) ?_
    simp only [sNe, SSd, Nat.reduceAdd]
    refine br_split (fun e2 => app (by rw [hgl]; simpa using e2)) (fun e2 => ?_)
    have e2' : l = key := by simpa using e2
    have hp : pushK out key = out := if_pos (by rw [hgl, e2'])
    rw [hp] at hk
    exact hk X _ h
theorem rkeys_spec {L0 : LH} [LSub L0 L] {b : Nat} {vV vI : Value} {V : List TVersion} {Is : List TIntent} {fl : TStamp} (hR : RefF I L0 b vV vI V Is fl) (hlV : V.length ≤ 400000000) (hlI : Is.length ≤ 400000000)
    (hk : ∀ X v, StrO X v (mrgK (V.length + Is.length) (V.map (·.fKey)) (Is.map (·.fKey)) []) → K v I (X ++ L)) :
    Cal Tryd.prog ω 66 #[pt b] K I L := by
  refine cal66 ?_
  unfold sh66
  refine loop (fun n s I' L' => I' = I ∧ ∃ (i j : Nat) (out : List (List UInt8)) (X : LH) (v : Value), n + i + j = V.length + Is.length ∧ i ≤ V.length ∧ j ≤ Is.length ∧ s = (v, .int .i64 i, .int .i64 j, ()) ∧ L' = X ++ L ∧ StrO X v out ∧ out.length ≤ i + j ∧
      mrgK n ((V.map (·.fKey)).drop i) ((Is.map (·.fKey)).drop j) out = mrgK (V.length + Is.length) (V.map (·.fKey)) (Is.map (·.fKey)) []) (V.length + Is.length) ⟨rfl, 0, 0, [], [], _, by omega, by omega, by omega, rfl, rfl, SlO.none _ 1, by simp, rfl⟩ ?_
  rintro n s I' L' ⟨rfl, i, j, out, X, v, hn, hi, hj, rfl, rfl, hX, hol, hm⟩
  have hVl : (V.map (·.fKey)).length = V.length := by simp
  have hIl : (Is.map (·.fKey)).length = Is.length := by simp
  have hpl : ∀ key, (pushK out key).length ≤ out.length + 1 := fun key => by unfold pushK; split <;> simp
  -- a version's key
  have two : ∀ (hiv : i < V.length), (Is.length ≤ j ∨ ∃ hji : j < Is.length, (blt V[i].fKey Is[j].fKey || V[i].fKey == Is[j].fKey) = true) → sh66_2 ω (pt b) v (.int .i64 i) (.int .i64 j) (.string (ByteArray.mk #[])) (fun s' => Gh fun I2 L2 => ∃ m', m' < n ∧ I2 = I' ∧ ∃ (i j : Nat) (out : List (List UInt8)) (X : LH) (v : Value), m' + i + j = V.length + Is.length ∧ i ≤ V.length ∧ j ≤ Is.length ∧ s' = (v, .int .i64 i, .int .i64 j, ()) ∧ L2 = X ++ L ∧ StrO X v out ∧ out.length ≤ i + j ∧
      mrgK m' ((V.map (·.fKey)).drop i) ((Is.map (·.fKey)).drop j) out = mrgK (V.length + Is.length) (V.map (·.fKey)) (Is.map (·.fKey)) []) (fun v => Gh (K v)) I' (X ++ L) := by
    intro hiv hc
    obtain ⟨q, off, c, hix, hl, hcR, hcc⟩ := RL.ix hR.vers (i := (i : Int)) (by omega) (by omega)
    rw [geti_nat hiv] at hcR
    obtain ⟨v0, v1, rfl, h0, h1⟩ := hcR
    have hcv := hcc I' [] (Ext.refl _) (fun _ h => h)
    unfold sh66_2
    try simp only [SSd, Nat.reduceAdd]
    refine rdC (hR.head 0 _ rfl) (Ext.refl _) ?_
    simp only [hix, SSd, Nat.reduceAdd]
    refine rdC (hcv 0 _ rfl) (Ext.refl _) ?_
    refine bs_N h0 (Ext.refl _) ?_
    try simp only [SSd, Nat.reduceAdd]
    rw [wrap_i64 _ (by omega)]
    refine push_spec hX (by omega) (fun X' v' h' => Gh.done ⟨n - 1, by omega, rfl, i + 1, j, _, X', v', by omega, by omega, hj, rfl, rfl, h', by have := hpl V[i].fKey; omega, ?_⟩)
    rw [← hm]
    have hn1 : n = (n - 1) + 1 := by omega
    generalize n - 1 = n' at hn1 ⊢
    subst hn1
    rw [List.drop_eq_getElem_cons (l := V.map (·.fKey)) (i := i) (by omega)]
    simp only [List.getElem_map]
    rcases hc with hc | ⟨hji, hc⟩
    · rw [show (Is.map (·.fKey)).drop j = [] from List.drop_eq_nil_of_le (by omega)]
      rfl
    · rw [List.drop_eq_getElem_cons (l := Is.map (·.fKey)) (i := j) (by omega)]
      simp only [List.getElem_map, mrgK]
      rw [if_pos hc]
  -- an intent's
  have sixg : ∀ (hji : j < Is.length), (V.length ≤ i ∨ ∃ hiv : i < V.length, (blt V[i].fKey Is[j].fKey || V[i].fKey == Is[j].fKey) = false) → sh66_6 ω (pt b) v (.int .i64 i) (.int .i64 j) (.string (ByteArray.mk #[])) (fun s' => Gh fun I2 L2 => ∃ m', m' < n ∧ I2 = I' ∧ ∃ (i j : Nat) (out : List (List UInt8)) (X : LH) (v : Value), m' + i + j = V.length + Is.length ∧ i ≤ V.length ∧ j ≤ Is.length ∧ s' = (v, .int .i64 i, .int .i64 j, ()) ∧ L2 = X ++ L ∧ StrO X v out ∧ out.length ≤ i + j ∧
      mrgK m' ((V.map (·.fKey)).drop i) ((Is.map (·.fKey)).drop j) out = mrgK (V.length + Is.length) (V.map (·.fKey)) (Is.map (·.fKey)) []) (fun v => Gh (K v)) I' (X ++ L) := by
    intro hji hc
    obtain ⟨q, off, c, hix, hl, hcR, hcc⟩ := RL.ix hR.ints (i := (j : Int)) (by omega) (by omega)
    rw [geti_nat hji] at hcR
    obtain ⟨v0, v1, rfl, h0, h1⟩ := hcR
    have hcv := hcc I' [] (Ext.refl _) (fun _ h => h)
    unfold sh66_6
    try simp only [SSd, Nat.reduceAdd]
    refine rdC (hR.head 1 _ rfl) (Ext.refl _) ?_
    simp only [hix, SSd, Nat.reduceAdd]
    refine rdC (hcv 0 _ rfl) (Ext.refl _) ?_
    refine bs_N h0 (Ext.refl _) ?_
    try simp only [SSd, Nat.reduceAdd]
    rw [wrap_i64 _ (by omega)]
    refine push_spec hX (by omega) (fun X' v' h' => Gh.done ⟨n - 1, by omega, rfl, i, j + 1, _, X', v', by omega, hi, by omega, rfl, rfl, h', by have := hpl Is[j].fKey; omega, ?_⟩)
    rw [← hm]
    have hn1 : n = (n - 1) + 1 := by omega
    generalize n - 1 = n' at hn1 ⊢
    subst hn1
    rw [List.drop_eq_getElem_cons (l := Is.map (·.fKey)) (i := j) (by omega)]
    simp only [List.getElem_map]
    rcases hc with hc | ⟨hiv, hc⟩
    · rw [show (V.map (·.fKey)).drop i = [] from List.drop_eq_nil_of_le (by omega)]
      rfl
    · rw [List.drop_eq_getElem_cons (l := V.map (·.fKey)) (i := i) (by omega)]
      simp only [List.getElem_map, mrgK]
      rw [if_neg (by rw [hc]; simp)]
  have six' : ∀ (hiv : i < V.length) (hji : j < Is.length), (blt V[i].fKey Is[j].fKey || V[i].fKey == Is[j].fKey) = false → _ := fun hiv hji h => sixg hji (.inr ⟨hiv, h⟩)
  unfold sh66_1
  try simp only [SSd, Nat.reduceAdd]
  refine rdC (hR.head 0 _ rfl) (Ext.refl _) ?_
  simp only [RL.len hR.vers, SSd, Nat.reduceAdd]
  refine gd_split (fun e => ?_) (fun e => ?_)
  · have hiV : i = V.length := by simp at e; omega
    try simp only [SSd, Nat.reduceAdd]
    refine rdC (hR.head 1 _ rfl) (Ext.refl _) ?_
    simp only [RL.len hR.ints, SSd, Nat.reduceAdd]
    refine br_split (fun e2 => ?_) (fun e2 => ?_)
    rotate_left
    · have hjI : j = Is.length := by simp at e2; omega
      have hn0 : n = 0 := by omega
      subst hn0
      rw [← hm] at hk
      exact Gh.done (hk X v hX)
    have hji : j < Is.length := by simpa using e2
    have six : V.length ≤ i → _ := fun h => sixg hji (.inl h)
    refine drawC ?_
    try simp only [SSd, Nat.reduceAdd]
    refine rdCS (hR.head 0 _ rfl) (Ext.refl _) ?_
    simp only [RL.len hR.vers, SSd, Nat.reduceAdd]
    refine gd_split (fun ei => ?_) (fun ei => six (by simpa using ei))
    try simp only [SSd, Nat.reduceAdd]
    refine rdCS (hR.head 1 _ rfl) (Ext.refl _) ?_
    simp only [RL.len hR.ints, SSd, Nat.reduceAdd]
    refine gd_split (fun ej => ?_) (fun ej => two (by simpa using ei) (.inl (by simp at ej; omega)))
    have hiv : i < V.length := by simpa using ei
    have hji : j < Is.length := by simp at ej; omega
    obtain ⟨q, off, c, hix, hl, hc, hcc⟩ := RL.ix hR.vers (i := (i : Int)) (by omega) (by omega)
    rw [geti_nat hiv] at hc
    obtain ⟨v0, v1, rfl, h0, h1⟩ := hc
    have hcv := hcc I' [] (Ext.refl _) (fun _ h => h)
    obtain ⟨q2, off2, c2, hix2, hl2, hc2, hcc2⟩ := RL.ix hR.ints (i := (j : Int)) (by omega) (by omega)
    rw [geti_nat hji] at hc2
    obtain ⟨w0, w1, rfl, g0, g1⟩ := hc2
    have hci := hcc2 I' [] (Ext.refl _) (fun _ h => h)
    try simp only [SSd, Nat.reduceAdd]
    refine rdCS (hR.head 0 _ rfl) (Ext.refl _) ?_
    simp only [hix, SSd, Nat.reduceAdd]
    refine rdCS (hcv 0 _ rfl) (Ext.refl _) ?_
    refine bs_I h0 (Ext.refl _) ?_
    try simp only [SSd, Nat.reduceAdd]
    refine rdCS (hR.head 1 _ rfl) (Ext.refl _) ?_
    simp only [hix2, SSd, Nat.reduceAdd]
    refine rdCS (hci 0 _ rfl) (Ext.refl _) ?_
    refine bs_I g0 (Ext.refl _) ?_
    try simp only [SSd, Nat.reduceAdd]
    refine br_split (fun e3 => two hiv (.inr ⟨hji, e3⟩)) (fun e3 => six' hiv hji e3)
  · have hiv' : i < V.length := by simpa using e
    refine drawC ?_
    try simp only [SSd, Nat.reduceAdd]
    refine rdCS (hR.head 0 _ rfl) (Ext.refl _) ?_
    simp only [RL.len hR.vers, SSd, Nat.reduceAdd]
    refine gd_split (fun ei => ?_) (fun ei => absurd hiv' (by simpa using ei))
    try simp only [SSd, Nat.reduceAdd]
    refine rdCS (hR.head 1 _ rfl) (Ext.refl _) ?_
    simp only [RL.len hR.ints, SSd, Nat.reduceAdd]
    refine gd_split (fun ej => ?_) (fun ej => two (by simpa using ei) (.inl (by simp at ej; omega)))
    have hiv : i < V.length := by simpa using ei
    have hji : j < Is.length := by simp at ej; omega
    obtain ⟨q, off, c, hix, hl, hc, hcc⟩ := RL.ix hR.vers (i := (i : Int)) (by omega) (by omega)
    rw [geti_nat hiv] at hc
    obtain ⟨v0, v1, rfl, h0, h1⟩ := hc
    have hcv := hcc I' [] (Ext.refl _) (fun _ h => h)
    obtain ⟨q2, off2, c2, hix2, hl2, hc2, hcc2⟩ := RL.ix hR.ints (i := (j : Int)) (by omega) (by omega)
    rw [geti_nat hji] at hc2
    obtain ⟨w0, w1, rfl, g0, g1⟩ := hc2
    have hci := hcc2 I' [] (Ext.refl _) (fun _ h => h)
    try simp only [SSd, Nat.reduceAdd]
    refine rdCS (hR.head 0 _ rfl) (Ext.refl _) ?_
    simp only [hix, SSd, Nat.reduceAdd]
    refine rdCS (hcv 0 _ rfl) (Ext.refl _) ?_
    refine bs_I h0 (Ext.refl _) ?_
    try simp only [SSd, Nat.reduceAdd]
    refine rdCS (hR.head 1 _ rfl) (Ext.refl _) ?_
    simp only [hix2, SSd, Nat.reduceAdd]
    refine rdCS (hci 0 _ rfl) (Ext.refl _) ?_
    refine bs_I g0 (Ext.refl _) ?_
    try simp only [SSd, Nat.reduceAdd]
    refine br_split (fun e3 => two hiv (.inr ⟨hji, e3⟩)) (fun e3 => six' hiv hji e3)
end
end Go.Proofs.YtmnnnoinfhiilaaDoor
