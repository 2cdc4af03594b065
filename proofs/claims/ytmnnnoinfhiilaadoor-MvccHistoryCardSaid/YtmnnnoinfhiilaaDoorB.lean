/-
  Slices of strings: looked through, copied, one put in, one taken out.
-/
-- S3
import Derived.Test.YtmnnnoinfhiilaaDoorA
import Derived.Lib.Overlaps
set_option linter.unusedSimpArgs false
set_option linter.unusedVariables false
namespace Go.Proofs.YtmnnnoinfhiilaaDoor
open Go.SL
set_option maxRecDepth 10000
section
variable {ω : Om} {I : Imm} {L : LH} {K : Value → M}
abbrev Strs (I : Imm) (L : LH) (v : Value) (l : List (List UInt8)) : Prop := RL StrV 1 I L v l
abbrev sstr (a : List UInt8) : Value := .string ⟨a.toArray⟩
theorem sNaN_spec {a : List UInt8} (hk : K (.bool false) I L) : Cal Tryd.prog ω 77 #[sstr a] K I L := by
  refine cal77 ?_
  unfold sh77
  simp only [SSd, Nat.reduceAdd, sNe, beq_self_eq_true, Bool.not_true]
  exact Gh.done hk
theorem cNaN_spec {a : List UInt8} (hk : K (.bool false) I L) : Cal Tryd.prog ω 85 #[sstr a] K I L := by
  refine cal85 ?_
  unfold sh85
  simp only [SSd, Nat.reduceAdd, sNe, beq_self_eq_true, Bool.not_true]
  exact Gh.done hk
theorem less_spec {a b : List UInt8} (hk : K (.bool (blt a b)) I L) : Cal Tryd.prog ω 76 #[sstr a, sstr b] K I L := by
  refine cal76 ?_
  unfold sh76
  repeat' (first | (with_reducible refine drawC ?_) | (with_reducible refine drawW1 ?_) | (with_reducible refine drawW2 ?_) | (with_reducible refine keepC (by repeat (first | exact Ext.refl _ | assumption | refine Ext.trans ?_ (by assumption))) ?_) | (with_reducible refine newI (fun _ => ?_)) | ((with_reducible refine call ?_); refine (cNaN_spec ?_)) | first | (with_reducible refine rdb ?_) | ((with_reducible refine st1 ?_ ?_); rfl) | ((with_reducible refine rdB ?_ ?_); rfl) | (with_reducible refine rdbS ?_) | ((with_reducible refine rdBS ?_ ?_); rfl) | ((with_reducible refine stB ?_ ?_ ?_ ?_); rfl; rfl; exact one_all rfl) | ((with_reducible refine rdP _ rfl ?_ ?_); rfl) | ((with_reducible refine rdPS _ rfl ?_ ?_); rfl) | ((with_reducible refine stP _ rfl ?_ ?_ ?_ ?_); rfl; rfl; rfl) | (with_reducible refine unfE (sh76.eq_1 ..) ?_) | (with_reducible refine And.intro ?_ ?_) | (simp only [Bool.not_true, Bool.not_false, Bool.and_self, Bool.true_and, Int.reduceBEq, Int.reduceBNe, Int.reduceLT, Int.reduceLE, decide_true, decide_false, Br_true, Br_false, Gd_tt, Gd_ft, Gd_tf, Gd_ff, beq_self_eq_true, bne_self_eq_false]) | (with_reducible refine gd_split (fun _ => ?_) (fun _ => ?_)) | (with_reducible refine br_split (fun _ => ?_) (fun _ => ?_)) | (simp only [SSd, Nat.reduceAdd]))
  exact Gh.done hk
theorem wrap_u64 (n : Int) (h0 : 0 ≤ n) (h1 : n < 18446744073709551616) : IntKind.u64.wrap n = n := by
  unfold IntKind.wrap
  simp [IntKind.bits, IntKind.signed]
  omega
theorem mid_eq (i j : Nat) (hb : i + j < 9223372036854775808) : binIV .shr (.int .u64 (IntKind.u64.wrap (IntKind.i64.wrap ((i : Int) + j)))) (.int .u64 1) = some (.int .u64 ((i + j) / 2 : Nat)) := by
  have h := binI_shr (a := (i : Int) + j) (c := 1) .u64 .u64 (by decide)
  rw [wrap_i64 _ (by omega), wrap_u64 _ (by omega) (by omega), h]
  congr 2
  show ((i : Int) + j).fdiv (2 ^ 1) = _
  rw [Int.fdiv_eq_ediv_of_nonneg _ (by decide)]
  omega
def SrtK (l : List (List UInt8)) : Prop := l.Pairwise fun a b => blt a b = true
theorem SrtK.get {l : List (List UInt8)} (h : SrtK l) {p q : Nat} (h1 : p < q) (h2 : q < l.length) : blt (geti l (p : Int)) (geti l (q : Int)) = true := by
  rw [geti_nat (by omega), geti_nat h2]
  exact List.pairwise_iff_getElem.1 h p q (by omega) h2 h1
theorem bsearch_spec {v : Value} {l : List (List UInt8)} {k : List UInt8} (h : Strs I L v l) (hlen : l.length < 4611686018427387904) (hs : SrtK l)
    (hk : ∀ i : Nat, i ≤ l.length → (∀ x ∈ l.take i, blt x k = true) → (∀ x ∈ l.drop i, blt x k = false) → K (.tuple #[.int .i64 i, .bool (decide (l[i]? = some k))]) I L) :
    Cal Tryd.prog ω 48 #[v, sstr k] K I L := by
  refine cal48 ?_
  unfold sh48
  simp only [RL.len h, SSd, Nat.reduceAdd]
  refine loop (fun m s I' L' => I' = I ∧ L' = L ∧ ∃ i j : Nat, i + m = j ∧ j ≤ l.length ∧ s = (.int .i64 i, .int .i64 j, ()) ∧ (∀ q : Nat, q < i → blt (geti l (q : Int)) k = true) ∧ (∀ q : Nat, j ≤ q → q < l.length → blt (geti l (q : Int)) k = false)) l.length ⟨rfl, rfl, 0, l.length, by omega, Nat.le_refl _, rfl, by omega, by omega⟩ ?_
  rintro m s I' L' ⟨rfl, rfl, i, j, hij, hjl, rfl, hA, hB⟩
  unfold sh48_1
  try simp only [SSd, Nat.reduceAdd]
  refine br_split (fun hlt => ?_) (fun hlt => ?_)
  · simp at hlt
    simp only [mid_eq i j (by omega), SSd, Nat.reduceAdd]
    have hm1 : i ≤ (i + j) / 2 := by omega
    have hm2 : (i + j) / 2 < j := by omega
    generalize (i + j) / 2 = p at *
    simp only [wrap_i64 (p : Int) (by omega), SSd, Nat.reduceAdd]
    obtain ⟨b, off, c, hix, hl, hc, hcc⟩ := RL.ix h (i := p) (by omega) (by omega)
    obtain rfl : c = _ := hc
    simp only [hix, SSd, Nat.reduceAdd]
    refine rd1 (hcc I' L' (Ext.refl _) (fun _ h => h) 0 _ rfl) ?_
    refine call (less_spec ?_)
    refine br_split (fun e => ?_) (fun e => ?_)
    · simp only [SSd, Nat.reduceAdd, wrap_i64 ((p : Int) + 1) (by omega)]
      refine Gh.done ⟨j - (p + 1), by omega, rfl, rfl, p + 1, j, by omega, hjl, by simp, fun q hq => ?_, hB⟩
      by_cases hq' : q = p
      · rw [hq']; exact e
      · exact blt_trans (hs.get (p := q) (q := p) (by omega) (by omega)) e
    · refine Gh.done ⟨p - i, by omega, rfl, rfl, i, p, by omega, by omega, rfl, hA, fun q hq hq2 => ?_⟩
      cases hb : blt (geti l (q : Int)) k with
      | false => rfl
      | true =>
        by_cases hq' : q = p
        · rw [hq'] at hb; exact absurd hb (by simpa using e)
        · exact absurd (blt_trans (hs.get (p := p) (q := q) (by omega) hq2) hb) (by simpa using e)
  · simp at hlt
    have hij' : i = j := by omega
    subst hij'
    have hA' : ∀ x ∈ l.take i, blt x k = true := by
      intro x hx
      obtain ⟨q, hq, rfl⟩ := List.getElem_of_mem hx
      have hq' : q < i := by simp at hq; omega
      have := hA q hq'
      rw [geti_nat (by omega)] at this
      simpa using this
    have hB' : ∀ x ∈ l.drop i, blt x k = false := by
      intro x hx
      obtain ⟨q, hq, rfl⟩ := List.getElem_of_mem hx
      have hq' : i + q < l.length := by simp at hq; omega
      have := hB (i + q) (by omega) hq'
      rw [geti_nat hq'] at this
      simpa using this
    have fin := hk i hjl hA' hB'
    unfold sh48_4
    try simp only [SSd, Nat.reduceAdd]
    refine gd_split (fun e => ?_) (fun e => ?_)
    · simp at e
      obtain ⟨b, off, c, hix, hl, hc, hcc⟩ := RL.ix h (i := i) (by omega) (by omega)
      obtain rfl : c = _ := hc
      have hge : l[i]? = some (geti l (i : Int)) := by rw [List.getElem?_eq_getElem e, geti_nat e]
      rw [hge] at fin
      simp only [hix, SSd, Nat.reduceAdd]
      refine rd1 (hcc I' L' (Ext.refl _) (fun _ h => h) 0 _ rfl) ?_
      simp only [sEq, SSd, Nat.reduceAdd]
      refine gd_split (fun e2 => ?_) (fun e2 => ?_)
      · refine rd1 (hcc I' L' (Ext.refl _) (fun _ h => h) 0 _ rfl) ?_
        refine call (sNaN_spec ?_)
        try simp only [SSd, Nat.reduceAdd]
        have hd : decide (some (geti l (i : Int)) = some k) = false := by simpa using e2
        rw [hd] at fin
        exact Gh.done fin
      · have hd : decide (some (geti l (i : Int)) = some k) = true := by simpa using e2
        rw [hd] at fin
        exact Gh.done fin
    · simp at e
      rw [List.getElem?_eq_none e] at fin
      exact Gh.done fin
/-! ### Owned slices of strings -/
def strs (l : List (List UInt8)) : List Value := l.map sstr
theorem strs_len (l : List (List UInt8)) : (strs l).length = l.length := by simp [strs]
theorem strs_recs : ∀ (l : List (List UInt8)), Recs (StrV I) 1 l (strs l)
  | [] => rfl
  | x :: l => ⟨rfl, rfl, strs_recs l⟩
theorem strs_one (l : List (List UInt8)) : ∀ u ∈ strs l, u.oneCell' = true := by
  intro u hu
  obtain ⟨x, _, rfl⟩ := List.mem_map.1 hu
  rfl
abbrev StrO (X : LH) (v : Value) (l : List (List UInt8)) : Prop := SlO 9 1 X v (strs l) l.length
theorem StrO.rl {X L : LH} {v : Value} {l : List (List UInt8)} (h : StrO X v l) (hX : ∀ x ∈ X, x ∈ L) : Strs I L v l := by
  have hn := h.news (I := I) hX
  obtain ⟨_, hh⟩ := h
  rcases hh with ⟨_, h0, a, rfl⟩ | ⟨b, cap, cs, _, rfl, _, hle, _⟩
  · refine ⟨a, 0, _, ?_, by omega, hn, strs_recs l⟩
    rw [h0]
  · exact ⟨_, cap, _, rfl, hle, hn, strs_recs l⟩
theorem slcN {b off len cap lo hi n : Nat} {blo bhi : Option Value} (hlo : bndV blo 0 hi = some lo) (hhi : bndV bhi len cap = some hi) (hne : lo < cap) :
    slcV n (.slice (some ⟨b, off, none⟩) len cap) blo bhi none = some (.slice (some ⟨b, off + lo * n, none⟩) (hi - lo) (cap - lo)) := by
  have h0 : bndV none cap cap = some cap := rfl
  simp only [slcV, Option.isNone_none, Option.isSome_none, Bool.and_false, Bool.false_eq_true, if_false, h0, Option.bind_some, hhi, hlo]
  rw [if_neg (by omega)]
  simp [add_none]
theorem slcE {a : Option Addr} {len cap lo hi n : Nat} {blo bhi : Option Value} (hlo : bndV blo 0 hi = some lo) (hhi : bndV bhi len cap = some hi) : ∃ u, slcV n (.slice a len cap) blo bhi none = some u := by
  have h0 : bndV none cap cap = some cap := rfl
  simp only [slcV, Option.isNone_none, Option.isSome_none, Bool.and_false, Bool.false_eq_true, if_false, h0, Option.bind_some, hhi, hlo]
  exact ⟨_, rfl⟩
theorem bnd0 {d y : Nat} : bndV none d y = some d := rfl
theorem cpyN {b off len cap m n T : Nat} {cs : Array Value} {L1 L2 : LH} {x : Value} {xs : List Value} {K : Value → M} (hn : News n x I (L1 ++ (b, .cells cs T (0, 0)) :: L2) m xs) (hle : off + (min m len) * n ≤ cs.size)
    (h1 : ∀ u ∈ xs.take (min m len * n), u.oneCell' = true) (hk : K (.int .i64 (min m len : Nat)) I (L1 ++ (b, .cells (wr cs off (xs.take (min m len * n))) T (0, 0)) :: L2)) :
    CpyV n (.slice (some ⟨b, off, none⟩) len cap) x (gh K) I (L1 ++ (b, .cells cs T (0, 0)) :: L2) :=
  ⟨_, len, cap, m, xs, rfl, hn, .inr ⟨b, off, cs, T, L1, L2, rfl, rfl, hle, h1, Gh.done hk⟩⟩
theorem ins_cells {l : List (List UInt8)} {k : List UInt8} {i : Nat} (hi : i ≤ l.length) {cs : Array Value} (h1 : ∀ (j : Nat) (u : Value), j < i → (strs l)[j]? = some u → cs[j]? = some u) (h2 : cs[i]? = some (sstr k))
    (h3 : ∀ (j : Nat) (u : Value), i ≤ j → (strs l)[j]? = some u → cs[j + 1]? = some u) : ∀ (j : Nat) (u : Value), (strs (l.take i ++ k :: l.drop i))[j]? = some u → cs[j]? = some u := by
  intro j u hu
  have ht : (l.take i).length = i := by simp; omega
  have e : strs (l.take i ++ k :: l.drop i) = (strs l).take i ++ sstr k :: (strs l).drop i := by simp [strs]
  have ht' : ((strs l).take i).length = i := by simp [strs]; omega
  rw [e] at hu
  by_cases hj : j < i
  · rw [List.getElem?_append_left (by omega), List.getElem?_take] at hu
    rw [if_pos hj] at hu
    exact h1 j u hj hu
  · rw [List.getElem?_append_right (by omega), ht'] at hu
    by_cases hj' : j = i
    · subst hj'
      simp at hu
      rw [h2, hu]
    · obtain ⟨q, rfl⟩ : ∃ q, j = i + q + 1 := ⟨j - i - 1, by omega⟩
      rw [show i + q + 1 - i = q + 1 by omega, List.getElem?_cons_succ, List.getElem?_drop] at hu
      exact h3 (i + q) u (by omega) hu
theorem overlaps_ext {bv b off la ca lb cb T T2 : Nat} {va cs : Array Value} {F : LH} (hsz : 0 < cs.size) (hk : K (.bool false) I ((b, Obj.cells cs T2 (0, 0)) :: (bv, Obj.cells va T (0, 0)) :: F)) :
    ExtE Tryd.prog ω (Extern.SlicesOverlaps.overlaps #[72, 72] #[4]) #[.slice (some ⟨bv, 0, none⟩) la ca, .slice (some ⟨b, off, none⟩) lb cb] K I ((b, Obj.cells cs T2 (0, 0)) :: (bv, Obj.cells va T (0, 0)) :: F) := by
  refine ⟨.bool false, fun w hs => ?_, hk⟩
  have h1 := hs.own b _ (List.mem_cons_self ..)
  have h2 := hs.own bv _ (List.mem_cons_of_mem _ (List.mem_cons_self ..))
  have hn := hs.nodup
  have hne : bv ≠ b := by
    rintro rfl
    simp at hn
  obtain ⟨inf, zv, hi', hz, _, hn1, _, _, _⟩ := tinfo_spec (show tinfo Tryd.prog 9 = some (1, 16, #[.string ⟨#[]⟩]) by kernel_rfl)
  refine Lib.run_overlaps_apart w _ _ 9 Tryd.underlying72 1 (fun w => by rw [run_sizeOf hi', hn1]) _ _ _ _ _ _ hne T T2 va.size cs.size ?_ ?_ (by omega) ?_ ?_
  · simp [World.shape?, h2]
  · simp [World.shape?, h1]
  · simp [World.frozen?, h2]
  · simp [World.frozen?, h2]
theorem insert_spec {X F : LH} {v : Value} {l : List (List UInt8)} {i bv : Nat} {k : List UInt8} {T : Nat} (h : StrO X v l) (hi : i ≤ l.length) (hlen : l.length ≤ 1000000000)
    (hk : ∀ X' v', StrO X' v' (l.take i ++ k :: l.drop i) → K v' I (X' ++ F)) :
    Cal Tryd.prog ω 49 #[v, .int .i64 i, .slice (some ⟨bv, 0, none⟩) 1 1] K I (X ++ (bv, .cells #[sstr k] T (0, 0)) :: F) := by
  refine cal49 ?_
  unfold sh49
  have hv : ∀ L', (bv, Obj.cells #[sstr k] T (0, 0)) ∈ L' → News 1 (.slice (some ⟨bv, 0, none⟩) 1 1) I L' 1 [sstr k] := fun L' hm => .inr (.inl ⟨bv, 0, 1, rfl, rfl, fun j u hu => Cell.own hm (by simpa using hu)⟩)
  have hmem : (bv, Obj.cells #[sstr k] T (0, 0)) ∈ X ++ (bv, Obj.cells #[sstr k] T (0, 0)) :: F := List.mem_append_right _ (List.mem_cons_self ..)
  by_cases hin : i = l.length
  · obtain ⟨a, cap, rfl⟩ := h.form
    obtain ⟨u, hu⟩ := slcE (n := 1) (a := a) (len := l.length) (cap := cap) (lo := i) (hi := l.length) (blo := some (.int .i64 i)) (bhi := none) (bnd_in _ _ _ _ (by omega)) rfl
    simp only [hu, SSd, Nat.reduceAdd]
    have e1 : ((1 : Int) == 0) = false := rfl
    have e2 : ((i : Int) == (l.length : Int)) = true := by rw [hin]; simp
    simp only [Int.natCast_one, e1, e2, SSd, Nat.reduceAdd]
    refine app_own (len := l.length) (m := 1) rfl h (hv _ hmem) (one_all rfl) (by omega) (by omega) (fun X' v' hX' => ?_)
    refine Gh.to (X' ++ F) (Gh.done (hk X' v' ?_))
    subst hin
    simpa [strs, StrO] using hX'
  · obtain ⟨hcl, ⟨_, h0, _⟩ | ⟨b, cap, cs, rfl, rfl, hsz, hle, hcs⟩⟩ := h
    · omega
    have s1 := slcN (b := b) (off := 0) (len := l.length) (cap := cap) (lo := i) (hi := l.length) (n := 1) (blo := some (.int .i64 i)) (bhi := none) (bnd_in _ _ _ _ (by omega)) rfl (by omega)
    have e1 : ((1 : Int) == 0) = false := rfl
    have e2 : ((i : Int) == (l.length : Int)) = false := by simp; omega
    simp only [s1, SSd, Nat.reduceAdd]
    simp only [Int.natCast_one, e1, e2, SSd, Nat.reduceAdd]
    simp only [wrap_i64 ((l.length : Int) + 1) (by omega)]
    refine br_split (fun e => ?_) (fun e => ?_)
    · simp at e
      have hcap : cap = l.length := by omega
      have s2 := slcN (b := b) (off := 0) (len := l.length) (cap := cap) (lo := 0) (hi := i) (n := 1) (blo := none) (bhi := some (.int .i64 i)) rfl (bnd_in _ _ _ _ (by omega)) (by omega)
      simp only [s2, SSd, Nat.reduceAdd]
      simp only [wrap_i64 ((l.length : Int) + 1 - i) (by omega)]
      have em : ((l.length : Int) + 1 - i) = ((l.length + 1 - i : Nat) : Int) := by omega
      rw [em]
      refine ⟨_, _, _, l.length + 1 - i, rfl, rfl, one_all rfl, by omega, by omega, .inr (.inr ⟨by omega, by omega, by omega, strs (l.take i), _, .inr (.inl ⟨b, 0, cap, by simp, by simp [strs]; omega, fun j u hu => Cell.own (List.mem_cons_self ..) (hcs _ _ ?_)⟩), List.Sublist.refl _, fun b' c hc => Gh.done ?_⟩)⟩
      · have : strs (l.take i) = (strs l).take i := by simp [strs]
        rw [this, List.getElem?_take] at hu
        split at hu
        · simpa using hu
        · cases hu
      have hilen : i - 0 + (l.length + 1 - i) = l.length + 1 := by omega
      have hilen' : i + (l.length + 1 - i) = l.length + 1 := by omega
      simp only [Nat.sub_zero, hilen'] at hc ⊢
      have s3 := slcN (b := b') (off := 0) (len := l.length + 1) (cap := c) (lo := i) (hi := l.length + 1) (n := 1) (blo := some (.int .i64 i)) (bhi := none) (bnd_in _ _ _ _ (by omega)) rfl (by omega)
      simp only [s3, SSd, Nat.reduceAdd]
      have hS : ∀ L', (b, Obj.cells cs 9 (0, 0)) ∈ L' → News 1 (.slice (some ⟨b, i * 1, none⟩) (l.length - i) (cap - i)) I L' (l.length - i) ((strs l).drop i) := fun L' hm => .inr (.inl ⟨b, i * 1, cap - i, rfl, by simp [strs], fun j u hu => Cell.own hm (by
        rw [List.getElem?_drop] at hu
        simpa using hcs _ _ hu)⟩)
      have hz1 := zero_size #[Value.string (ByteArray.mk #[])] (l.length + 1 - i)
      have hz2 := zero_size #[Value.string (ByteArray.mk #[])] (c - (l.length + 1))
      have hz0 : (#[Value.string (ByteArray.mk #[])] : Array Value).size = 1 := rfl
      rw [hz0, Nat.mul_one] at hz1 hz2
      have hst : (strs (l.take i)).length = i := by simp [strs]; omega
      obtain ⟨A, hA, hAs, hA1⟩ : ∃ A : Array Value, A = (strs (l.take i)).toArray ++ Builtin.zeroCells #[Value.string (ByteArray.mk #[])] (l.length + 1 - i) ++ Builtin.zeroCells #[Value.string (ByteArray.mk #[])] (c - (l.length + 1)) ∧ A.size = c ∧
          ∀ (j : Nat) (u : Value), j < i → (strs l)[j]? = some u → A[j]? = some u := by
        refine ⟨_, rfl, by simp only [Array.size_append, List.size_toArray, hz1, hz2, hst]; omega, fun j u hj hu => ?_⟩
        have : strs (l.take i) = (strs l).take i := by simp [strs]
        rw [Array.append_assoc, Array.getElem?_append_left (by simp only [List.size_toArray]; omega), List.getElem?_toArray, this, List.getElem?_take, if_pos hj]
        exact hu
      rw [← hA]
      refine cpyN (L1 := []) (hv _ (List.mem_cons_of_mem _ hmem)) (by rw [hAs]; have := Nat.min_le_left 1 (l.length + 1 - i); omega) (fun u hu => one_all (vs := [sstr k]) rfl u (List.mem_of_mem_take hu)) ?_
      refine draw (fun _ _ => True) trivial ?_
      simp only [wrap_i64 ((i : Int) + 1) (by omega), SSd, Nat.reduceAdd]
      have s4 := slcN (b := b') (off := 0) (len := l.length + 1) (cap := c) (lo := i + 1) (hi := l.length + 1) (n := 1) (blo := some (.int .i64 ((i + 1 : Nat) : Int))) (bhi := none) (bnd_in _ _ _ _ (by omega)) rfl (by omega)
      rw [Int.natCast_add, Int.natCast_one] at s4
      simp only [s4, s1, SSd, Nat.reduceAdd]
      refine cpyN (L1 := []) (hS _ (by simp)) (by rw [wr_size, hAs]; have := Nat.min_le_left (l.length - i) (l.length + 1 - (i + 1)); omega) (fun u hu => strs_one l u (List.mem_of_mem_drop (List.mem_of_mem_take hu))) ?_
      generalize hW : wr (wr A (i * 1) _) ((i + 1) * 1) _ = W
      have hWs : W.size = c := by rw [← hW, wr_size, wr_size, hAs]
      refine Gh.to ((b', Obj.cells W 9 (0, 0)) :: F) (Gh.done (hk [(b', Obj.cells W 9 (0, 0))] _ ⟨by first | (simp [strs]; done) | (simp [strs]; omega), .inr ⟨b', c, W, rfl, ?_, by omega, by first | (simp [strs]; done) | (simp [strs]; omega), ?_⟩⟩))
      · first | (simp; done) | (simp; omega)
      subst hW
      have hm1 : min 1 (l.length + 1 - i) = 1 := Nat.min_eq_left (by omega)
      have hm2 : min (l.length - i) (l.length + 1 - (i + 1)) = l.length - i := Nat.min_eq_left (by omega)
      have ht : ((strs l).drop i).take (l.length - i) = (strs l).drop i := List.take_of_length_le (by simp [strs])
      have hdl : ((strs l).drop i).length = l.length - i := by simp [strs]
      simp only [hm1, hm2, Nat.mul_one, ht, List.take_succ_cons, List.take_zero]
      refine ins_cells hi (fun j u hj hu => ?_) ?_ (fun j u hj hu => ?_)
      · rw [wr_get _ _ _ _ (by rw [wr_size, hAs, hdl]; omega), if_pos (by omega), wr_get _ _ _ _ (by rw [hAs]; simp; omega), if_pos hj]
        exact hA1 j u hj hu
      · rw [wr_get _ _ _ _ (by rw [wr_size, hAs, hdl]; omega), if_pos (by omega), wr_get _ _ _ _ (by rw [hAs]; simp; omega), if_neg (by omega), if_pos (by simp)]
        simp
      · have hjl : j < (strs l).length := (List.getElem?_eq_some_iff.1 hu).1
        rw [strs_len] at hjl
        rw [wr_get _ _ _ _ (by rw [wr_size, hAs, hdl]; omega), if_neg (by omega), if_pos (by rw [hdl]; omega), List.getElem?_drop, show i + (j + 1 - (i + 1)) = j by omega]
        exact hu
    · simp at e
      have s2 := slcN (b := b) (off := 0) (len := l.length) (cap := cap) (lo := 0) (hi := l.length + 1) (n := 1) (blo := none) (bhi := some (.int .i64 ((l.length + 1 : Nat) : Int))) rfl (bnd_in _ _ _ _ (by omega)) (by omega)
      rw [Int.natCast_add, Int.natCast_one] at s2
      simp only [s2, SSd, Nat.reduceAdd]
      simp only [wrap_i64 ((i : Int) + 1) (by omega)]
      have s4 := slcN (b := b) (off := 0) (len := l.length + 1) (cap := cap) (lo := i + 1) (hi := l.length + 1) (n := 1) (blo := some (.int .i64 ((i + 1 : Nat) : Int))) (bhi := none) (bnd_in _ _ _ _ (by omega)) rfl (by omega)
      rw [Int.natCast_add, Int.natCast_one] at s4
      have s5 := slcN (b := b) (off := 0) (len := l.length + 1) (cap := cap) (lo := i) (hi := l.length + 1) (n := 1) (blo := some (.int .i64 i)) (bhi := none) (bnd_in _ _ _ _ (by omega)) rfl (by omega)
      simp only [Nat.sub_zero] at *
      simp only [s4, SSd, Nat.reduceAdd]
      refine overlaps_ext (by omega) (Gh.done ?_)
      simp only [Bool.not_false, SSd, Nat.reduceAdd]
      refine draw (fun _ _ => True) trivial ?_
      simp only [s4, s5, SSd, Nat.reduceAdd]
      have hgu : ∃ g, cs[l.length]? = some g := ⟨_, Array.getElem?_eq_getElem (by omega)⟩
      obtain ⟨g, hg⟩ := hgu
      have hdl : ((strs l).drop i).length = l.length - i := by simp [strs]
      have hS : ∀ L', (b, Obj.cells cs 9 (0, 0)) ∈ L' → News 1 (.slice (some ⟨b, i * 1, none⟩) (l.length + 1 - i) (cap - i)) I L' (l.length + 1 - i) ((strs l).drop i ++ [g]) := fun L' hm => .inr (.inl ⟨b, i * 1, cap - i, rfl, by simp [hdl]; omega, fun j u hu => Cell.own hm (by
        by_cases hj : j < l.length - i
        · rw [List.getElem?_append_left (by omega), List.getElem?_drop] at hu
          simpa using hcs _ _ hu
        · rw [List.getElem?_append_right (by omega), hdl] at hu
          have : j - (l.length - i) = 0 := by
            have := (List.getElem?_eq_some_iff.1 hu).1
            simp at this; omega
          rw [this] at hu
          simp at hu
          subst hu
          rw [← hg]; congr 1; omega)⟩)
      have hm2 : min (l.length + 1 - i) (l.length + 1 - (i + 1)) = l.length - i := by omega
      have ht : ((strs l).drop i ++ [g]).take (l.length - i) = (strs l).drop i := by rw [← hdl]; simp
      refine cpyN (L1 := []) (hS _ (by simp)) (by rw [hm2]; omega) (fun u hu => ?_) ?_
      · rw [hm2, Nat.mul_one, ht] at hu
        exact strs_one l u (List.mem_of_mem_drop hu)
      simp only [hm2, Nat.mul_one, ht]
      refine cpyN (L1 := []) (hv _ (by simp)) (by rw [wr_size]; have := Nat.min_le_left 1 (l.length + 1 - i); omega) (fun u hu => one_all (vs := [sstr k]) rfl u (List.mem_of_mem_take hu)) ?_
      have hm1 : min 1 (l.length + 1 - i) = 1 := Nat.min_eq_left (by omega)
      simp only [hm1, Nat.mul_one, List.take_succ_cons, List.take_zero]
      generalize hW : wr (wr cs (i + 1) _) i _ = W
      have hWs : W.size = cap := by rw [← hW, wr_size, wr_size]; omega
      refine Gh.to ((b, Obj.cells W 9 (0, 0)) :: F) (Gh.done (hk [(b, Obj.cells W 9 (0, 0))] _ ⟨by first | (simp [strs]; done) | (simp [strs]; omega), .inr ⟨b, cap, W, rfl, ?_, by omega, by first | (simp [strs]; done) | (simp [strs]; omega), ?_⟩⟩))
      · first | (simp; done) | (simp; omega)
      subst hW
      refine ins_cells hi (fun j u hj hu => ?_) ?_ (fun j u hj hu => ?_)
      · rw [wr_get _ _ _ _ (by rw [wr_size]; simp; omega), if_pos hj, wr_get _ _ _ _ (by rw [hdl]; omega), if_pos (by omega)]
        exact hcs j u hu
      · rw [wr_get _ _ _ _ (by rw [wr_size]; simp; omega), if_neg (by omega), if_pos (by simp)]
        simp
      · have hjl : j < (strs l).length := (List.getElem?_eq_some_iff.1 hu).1
        rw [strs_len] at hjl
        rw [wr_get _ _ _ _ (by rw [wr_size]; simp; omega), if_neg (by omega), if_neg (by simp; omega), wr_get _ _ _ _ (by rw [hdl]; omega), if_neg (by omega), if_pos (by rw [hdl]; omega), List.getElem?_drop, show i + (j + 1 - (i + 1)) = j by omega]
        exact hu
theorem delete_spec {X F : LH} {v : Value} {l : List (List UInt8)} {i : Nat} (h : StrO X v l) (hi : i < l.length) (hlen : l.length ≤ 1000000000)
    (hk : ∀ X' v', StrO X' v' (l.take i ++ l.drop (i + 1)) → K v' I (X' ++ F)) :
    Cal Tryd.prog ω 55 #[v, .int .i64 i, .int .i64 ((i : Int) + 1)] K I (X ++ F) := by
  refine cal55 ?_
  unfold sh55
  obtain ⟨hcl, ⟨_, h0, _⟩ | ⟨b, cap, cs, rfl, rfl, hsz, hle, hcs⟩⟩ := h
  · omega
  have hcast : ((i : Int) + 1) = ((i + 1 : Nat) : Int) := by omega
  have s0 : ∃ u, slcV 1 (.slice (some ⟨b, 0, none⟩) l.length cap) (some (.int .i64 i)) (some (.int .i64 ((i : Int) + 1))) (some (.int .i64 l.length)) = some u := by
    rw [hcast]
    simp only [slcV, Option.isNone_some, Bool.false_and, Bool.false_eq_true, if_false, bnd_in _ _ _ _ hle, bnd_in _ _ _ _ (show i + 1 ≤ l.length by omega), bnd_in _ _ _ _ (show i ≤ i + 1 by omega), Option.bind_some]
    exact ⟨_, rfl⟩
  obtain ⟨u0, s0⟩ := s0
  have e2 : ((i : Int) == (i : Int) + 1) = false := by simp; omega
  have s1 := slcN (b := b) (off := 0) (len := l.length) (cap := cap) (lo := 0) (hi := i) (n := 1) (blo := none) (bhi := some (.int .i64 i)) rfl (bnd_in _ _ _ _ (by omega)) (by omega)
  obtain ⟨p, s2⟩ : ∃ p, slcV 1 (.slice (some ⟨b, 0, none⟩) l.length cap) (some (.int .i64 ((i : Int) + 1))) none none = some (.slice p (l.length - (i + 1)) (cap - (i + 1))) ∧ (0 < l.length - (i + 1) → p = some ⟨b, i + 1, none⟩) := by
    by_cases hc : i + 1 < cap
    · have := slcN (b := b) (off := 0) (len := l.length) (cap := cap) (lo := i + 1) (hi := l.length) (n := 1) (blo := some (.int .i64 ((i + 1 : Nat) : Int))) (bhi := none) (bnd_in _ _ _ _ (by omega)) rfl (by omega)
      rw [← hcast] at this
      exact ⟨_, this, fun _ => by simp⟩
    · rw [hcast]
      have hh : i + 1 = cap := by omega
      refine ⟨some ⟨b, 0, none⟩, ?_, fun h0 => by omega⟩
      have h0 : bndV none cap cap = some cap := rfl
      have h1 : bndV none l.length cap = some l.length := rfl
      simp only [slcV, Option.isNone_none, Option.isSome_none, Bool.and_false, Bool.false_eq_true, if_false, h0, h1, Option.bind_some, bnd_in _ _ _ _ (show i + 1 ≤ l.length by omega)]
      rw [if_pos hh.symm]
  obtain ⟨s2, hp⟩ := s2
  simp only [s0, e2, SSd, Nat.reduceAdd]
  refine draw (fun _ _ => True) trivial ?_
  simp only [s1, s2, SSd, Nat.reduceAdd]
  have hdl : ((strs l).drop (i + 1)).length = l.length - (i + 1) := by simp [strs]
  refine ⟨_, _, _, l.length - (i + 1), (strs l).drop (i + 1), rfl, ?_, fun u hu => strs_one l u (List.mem_of_mem_drop hu), .inr (.inl ⟨by omega, b, 0, cs, 9, [], F, by simp, rfl, by omega, Gh.done ?_⟩)⟩
  · by_cases h0 : l.length - (i + 1) = 0
    · exact .inl ⟨p, _, by rw [h0], h0, List.eq_nil_of_length_eq_zero (by omega)⟩
    · refine .inr (.inl ⟨b, i + 1, _, by rw [hp (by omega)], by omega, fun j u hu => Cell.own (List.mem_cons_self ..) ?_⟩)
      rw [List.getElem?_drop] at hu
      exact hcs _ _ hu
  have hil : i + (l.length - (i + 1)) = l.length - 1 := by omega
  simp only [Nat.sub_zero, hil, SSd, Nat.reduceAdd]
  have s3 := slcN (b := b) (off := 0) (len := l.length - 1) (cap := cap) (lo := l.length - 1) (hi := l.length) (n := 1) (blo := some (.int .i64 ((l.length - 1 : Nat) : Int))) (bhi := some (.int .i64 l.length)) (bnd_in _ _ _ _ (by omega)) (bnd_in _ _ _ _ (by omega)) (by omega)
  simp only [s3, SSd, Nat.reduceAdd]
  refine .inr ⟨b, _, l.length - (l.length - 1), _, _, 9, [], F, rfl, rfl, by rw [wr_size]; simp; omega, one_all rfl, Gh.done ?_⟩
  generalize hW : wr (wr cs _ _) _ _ = W
  have hWs : W.size = cap := by rw [← hW, wr_size, wr_size]; omega
  refine Gh.to ((b, Obj.cells W 9 (0, 0)) :: F) (Gh.done (hk [(b, Obj.cells W 9 (0, 0))] _ ⟨by first | (simp [strs]; done) | (simp [strs]; omega), .inr ⟨b, cap, W, rfl, ?_, by omega, by first | (simp [strs]; done) | (simp [strs]; omega), ?_⟩⟩))
  · first | (simp; done) | (simp; omega)
  subst hW
  intro j u hu
  have e : strs (l.take i ++ l.drop (i + 1)) = (strs l).take i ++ (strs l).drop (i + 1) := by simp [strs]
  have ht' : ((strs l).take i).length = i := by simp [strs]; omega
  have hjl := (List.getElem?_eq_some_iff.1 hu).1
  rw [strs_len] at hjl
  simp at hjl
  rw [e] at hu
  have hzl : (Builtin.zeroCells #[Value.string (ByteArray.mk #[])] (l.length - (l.length - 1))).toList.length = 1 := by
    rw [Array.length_toList, zero_size]; simp; omega
  rw [wr_get _ _ _ _ (by rw [wr_size, hzl]; omega), if_pos (by omega), wr_get _ _ _ _ (by rw [hdl]; omega)]
  by_cases hj : j < i
  · rw [if_pos (by omega)]
    rw [List.getElem?_append_left (by omega), List.getElem?_take, if_pos hj] at hu
    exact hcs j u hu
  · rw [if_neg (by omega), if_pos (by rw [hdl]; omega)]
    rw [List.getElem?_append_right (by omega), ht'] at hu
    rw [← hu]; congr 1; omega
end
end Go.Proofs.YtmnnnoinfhiilaaDoor
