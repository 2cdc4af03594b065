/-
  Bytes of keys: zeros replaced, counted, found.
-/
-- S3
import Derived.Test.YtmnnnoinfhiilaaDoorB
import Derived.Lib.Bytealg
set_option linter.unusedSimpArgs false
set_option linter.unusedVariables false
namespace Go.Proofs.YtmnnnoinfhiilaaDoor
open Go.SL
set_option maxRecDepth 100000
theorem sh93_ex : ∃ C : Om → Value → Value → (Value → M) → Value → Value → Value → M, ∀ (ω : Om) (a0 a1 : Value) (K : Value → M), vcF Tryd.prog ω Tryd.f93 [a0, a1] K =
  (Pv (lenV a1) fun v1 =>
  Pv (binIV .eql v1 (Value.int .i64 0)) fun v2 =>
  Br v2
    (K (Value.int .i64 0))
    (Pv (binIV .eql v1 (Value.int .i64 1)) fun v3 =>
    Br v3
      (Pv (ixV 1 a1 (Value.int .i64 0)) fun v4 =>
      Rv none (ld1R v4) fun v5 =>
      Cal Tryd.prog ω 97 #[a0, v5] <| gh fun v6 =>
      K v6)
      (C ω a0 a1 K v1 v2 v3))) := ⟨_, fun _ _ _ _ => rfl⟩
section
variable {ω : Om} {I : Imm} {L : LH} {K : Value → M}
theorem ba_get (l : List UInt8) (i : Nat) (h : i < l.length) : (⟨l.toArray⟩ : ByteArray)[i]! = l[i] := by
  rw [getElem!_pos _ _ (by simpa [ByteArray.size] using h)]
  rfl
theorem find_zero {l pre rest : List UInt8} (hl : l = pre ++ 0 :: rest) (h0 : (0 : UInt8) ∉ pre) : (List.range (⟨l.toArray⟩ : ByteArray).size).find? (fun i => (⟨l.toArray⟩ : ByteArray)[i]! == 0) = some pre.length := by
  have hlen : pre.length < l.length := by rw [hl]; simp
  rw [List.find?_range_eq_some]
  refine ⟨?_, ?_, fun j hj => ?_⟩
  · rw [ba_get _ _ hlen]; simp [hl]
  · simpa [ByteArray.size] using hlen
  · rw [ba_get _ _ (by omega)]
    have : l[j]'(by omega) = pre[j] := by simp only [hl]; rw [List.getElem_append_left hj]
    rw [this]
    simp only [Bool.not_eq_true', beq_eq_false_iff_ne]
    exact fun e => h0 (e ▸ List.getElem_mem hj)
theorem indexByte_spec {v : Value} {l pre rest : List UInt8} (h : Bytes I v l) (hl : l = pre ++ 0 :: rest) (h0 : (0 : UInt8) ∉ pre) (hk : K (.int .i64 pre.length) I L) : Cal Tryd.prog ω 97 #[v, .int .u8 0] K I L := by
  refine cal97 ?_
  unfold sh97
  refine ⟨_, fun w hs => ?_, Gh.done (Gh.done hk)⟩
  show Sem.run _ (do
    let b ← Extern.Bytes.bytesOf v
    let c ← Extern.Bytes.asByte (.int .u8 0)
    match (List.range b.size).find? fun i => b[i]! == c with
    | some i => pure (goInt i)
    | none => pure (goInt (-1))) w = _
  simp only [Sem.run_bind, bytesOf_run (P := Tryd.prog) hs h, Result.andThen_ok, Extern.Bytes.asByte, Sem.run_pure]
  have := find_zero hl h0
  rw [show ((0 : Int).toNat.toUInt8) = 0 from rfl, this]
  rfl
theorem index_spec {v u : Value} {l pre rest : List UInt8} (h : Bytes I v l) (hu : Bytes I u [0]) (hl : l = pre ++ 0 :: rest) (h0 : (0 : UInt8) ∉ pre) (hk : K (.int .i64 pre.length) I L) : Cal Tryd.prog ω 93 #[v, u] K I L := by
  obtain ⟨C, hC⟩ := sh93_ex
  refine Cal.gh (cal_of_vc mixed Tryd.func93 ?_)
  show vcF Tryd.prog ω Tryd.f93 [v, u] _ I L
  rw [hC]
  obtain ⟨a, c, rfl⟩ := Bytes.form hu
  obtain ⟨b, off, hix, hc⟩ := SlI.ix (i := 0) hu .i64 (by simp)
  have hc0 := hc I L (Ext.refl _) 0 _ rfl
  have e0 : ((([0] : List UInt8).length : Int) == 0) = false := rfl
  have e1 : ((([0] : List UInt8).length : Int) == 1) = true := rfl
  have hix' : ixV 1 (.slice a ([0] : List UInt8).length c) (.int .i64 0) = some (.pointer (some ⟨b, off, none⟩)) := hix
  simp only [e0, e1, hix', SSd, Nat.reduceAdd]
  refine rd1 hc0 ?_
  exact call (indexByte_spec h hl h0 (Gh.done hk))
theorem count_ext {v : Value} {l : List UInt8} (h : Bytes I v l) (hk : K (.int .i64 (l.count 0 : Nat)) I L) : ExtE Tryd.prog ω Extern.BytealgCount.count #[v, .int .u8 0] K I L := by
  refine ⟨_, fun w hs => ?_, hk⟩
  show Sem.run _ (do
    let b ← Extern.Bytes.bytesOf v
    let c ← Extern.Bytes.asByte (.int .u8 0)
    pure (goInt (b.foldl (fun n x => if x == c then n + 1 else n) (0 : Nat)))) w = _
  simp only [Sem.run_bind, bytesOf_run (P := Tryd.prog) hs h, Result.andThen_ok, Extern.Bytes.asByte, Sem.run_pure, goInt, Lib.foldl_data]
  rw [show ((0 : Int).toNat.toUInt8) = 0 from rfl]
  have : ∀ (l : List UInt8) (n : Int), l.foldl (fun n x => if x == 0 then n + 1 else n) n = n + (l.count 0 : Nat) := by
    intro l
    induction l with
    | nil => intro n; simp
    | cons x l ih =>
      intro n
      rw [List.foldl_cons, ih, List.count_cons]
      split <;> omega
  rw [this]; simp
theorem count_spec {v u : Value} {l : List UInt8} (h : Bytes I v l) (hu : Bytes I u [0]) (hk : K (.int .i64 (l.count 0 : Nat)) I L) : Cal Tryd.prog ω 92 #[v, u] K I L := by
  refine cal92 ?_
  unfold sh92
  obtain ⟨a, c, rfl⟩ := Bytes.form hu
  obtain ⟨b, off, hix, hc⟩ := SlI.ix (i := 0) hu .i64 (by simp)
  have hc0 := hc I L (Ext.refl _) 0 _ rfl
  have e0 : ((([0] : List UInt8).length : Int) == 0) = false := rfl
  have e1 : ((([0] : List UInt8).length : Int) == 1) = true := rfl
  have hix' : ixV 1 (.slice a ([0] : List UInt8).length c) (.int .i64 0) = some (.pointer (some ⟨b, off, none⟩)) := hix
  simp only [e0, e1, hix', SSd, Nat.reduceAdd]
  refine rd1 hc0 ?_
  exact count_ext h (Gh.done (Gh.done hk))
def esc (l : List UInt8) : List UInt8 := l.flatMap fun c => if c = 0 then [0, 255] else [c]
theorem esc_append (a b : List UInt8) : esc (a ++ b) = esc a ++ esc b := by simp [esc]
theorem esc_len : ∀ l : List UInt8, (esc l).length = l.length + l.count 0
  | [] => rfl
  | x :: l => by
    have := esc_len l
    unfold esc at this ⊢
    rw [List.flatMap_cons, List.length_append, this, List.count_cons]
    by_cases h : x = 0 <;> simp [h] <;> omega
theorem esc_plain : ∀ {l : List UInt8}, (0 : UInt8) ∉ l → esc l = l
  | [], _ => rfl
  | x :: l, h => by
    have h1 : x ≠ 0 := fun e => h (e ▸ List.mem_cons_self ..)
    have := esc_plain (l := l) (fun e => h (List.mem_cons_of_mem _ e))
    unfold esc at this ⊢
    rw [List.flatMap_cons, this, if_neg h1]; rfl
theorem first_zero : ∀ {l : List UInt8}, 0 < l.count 0 → ∃ pre rest, l = pre ++ 0 :: rest ∧ (0 : UInt8) ∉ pre
  | [], h => by simp at h
  | x :: l, h => by
    by_cases hx : x = 0
    · exact ⟨[], l, by rw [hx]; rfl, by simp⟩
    · obtain ⟨pre, rest, e, h0⟩ := first_zero (l := l) (by rw [List.count_cons_of_ne (fun e => hx (by simpa using e))] at h; exact h)
      refine ⟨x :: pre, rest, by rw [e]; rfl, ?_⟩
      intro hm
      rcases List.mem_cons.1 hm with e' | e'
      · exact hx e'.symm
      · exact h0 e'
def dAt (b N w : Nat) : Value := .slice (if N = w then some ⟨b, 0, none⟩ else some ⟨b, w, none⟩) (N - w) (N - w)
theorem slc_at {b N w : Nat} (h : w ≤ N) : slcV 1 (.slice (some ⟨b, 0, none⟩) N N) (some (.int .i64 w)) none none = some (dAt b N w) := by
  have h0 : bndV none N N = some N := rfl
  simp only [slcV, Option.isNone_none, Option.isSome_none, Bool.and_false, Bool.false_eq_true, if_false, h0, Option.bind_some, bnd_in _ _ _ _ h, dAt]
  split <;> simp [add_none]
theorem cpy_at {b N w m T : Nat} {arr : Array Value} {P xs : List Value} {x : Value} {F : LH} {K : Value → M} (hs : arr.size = N) (hP : ∀ (j : Nat) (u : Value), P[j]? = some u → arr[j]? = some u) (hw : w = P.length) (hwm : w + m ≤ N)
    (hn : News 1 x I ((b, .cells arr T (0, 0)) :: F) m xs) (h1 : ∀ u ∈ xs, u.oneCell' = true)
    (hk : ∀ arr' : Array Value, arr'.size = N → (∀ (j : Nat) (u : Value), (P ++ xs)[j]? = some u → arr'[j]? = some u) → K (.int .i64 m) I ((b, .cells arr' T (0, 0)) :: F)) :
    CpyV 1 (dAt b N w) x (gh K) I ((b, .cells arr T (0, 0)) :: F) := by
  have hxl := hn.length
  rw [Nat.mul_one] at hxl
  by_cases h0 : m = 0
  · subst h0
    have hx : xs = [] := List.eq_nil_of_length_eq_zero hxl
    subst hx
    exact ⟨_, _, _, 0, [], rfl, hn, .inl ⟨Nat.zero_min _, Gh.done (hk arr hs (by simpa using hP))⟩⟩
  · have hne : ¬ N = w := by omega
    have hm : min m (N - w) = m := Nat.min_eq_left (by omega)
    unfold dAt
    rw [if_neg hne]
    refine cpyN (L1 := []) hn (by rw [hm, hs]; omega) (fun u hu => h1 u (List.mem_of_mem_take hu)) ?_
    rw [hm, Nat.mul_one, List.take_of_length_le (by omega)]
    refine hk _ (by rw [wr_size, hs]) (fun j u hu => ?_)
    rw [wr_get _ _ _ _ (by omega)]
    by_cases hj : j < w
    · rw [if_pos hj]
      rw [List.getElem?_append_left (by omega)] at hu
      exact hP j u hu
    · have hlt := (List.getElem?_eq_some_iff.1 hu).1
      rw [List.length_append] at hlt
      rw [if_neg hj, if_pos (by omega)]
      rw [List.getElem?_append_right (by omega), ← hw] at hu
      exact hu
theorem u8s_append (a b : List UInt8) : u8s (a ++ b) = u8s a ++ u8s b := by simp [u8s]
theorem u8s_len (l : List UInt8) : (u8s l).length = l.length := by simp [u8s]
theorem bys_part {v : Value} {l : List UInt8} (h : Bytes I v l) {lo hi : Nat} (h1 : lo ≤ hi) (h2 : hi ≤ l.length) {bhi : Option Value} (hhi : ∀ cap, l.length ≤ cap → bndV bhi l.length cap = some hi) :
    ∃ v', slcV 1 v (some (.int .i64 lo)) bhi none = some v' ∧ Bytes I v' ((l.drop lo).take (hi - lo)) := by
  obtain ⟨v', hs, hv⟩ := SlI.part h h1 h2 (some (.int .i64 lo)) bhi (fun y hy => .inl (bnd_in _ _ _ _ (by omega))) hhi
  refine ⟨v', hs, ?_⟩
  have e : u8s ((l.drop lo).take (hi - lo)) = ((u8s l).drop (lo * 1)).take ((hi - lo) * 1) := by simp [u8s]
  have e2 : ((l.drop lo).take (hi - lo)).length = hi - lo := by simp; omega
  unfold Bytes
  rw [e, e2]
  exact hv
theorem replace_spec {v u z : Value} {l : List UInt8} (h : Bytes I v l) (hu : Bytes I u [0]) (hz : Bytes I z [0, 255]) (hl : l.length ≤ 1000000000)
    (hk : ∀ X v', SlO 5 1 X v' (u8s (esc l)) (esc l).length → K v' I (X ++ L)) : Cal Tryd.prog ω 90 #[v, u, z, .int .i64 (-1)] K I L := by
  refine cal90 ?_
  unfold sh90
  obtain ⟨ua, uc, rfl⟩ := Bytes.form hu
  obtain ⟨za, zc, rfl⟩ := Bytes.form hz
  obtain ⟨va, vc, rfl⟩ := Bytes.form h
  have hcl := List.count_le_length (a := (0 : UInt8)) (l := l)
  have em : ((-1 : Int) != 0) = true := rfl
  simp only [em, SSd, Nat.reduceAdd]
  refine call (count_spec h hu ?_)
  unfold sh90_1
  try simp only [SSd, Nat.reduceAdd]
  refine br_split (fun e => ?_) (fun e => ?_)
  · simp at e
    have h0 : l.count 0 = 0 := by omega
    have hn0 : (0 : UInt8) ∉ l := List.count_eq_zero.1 h0
    refine app_own (hsp := ⟨List.Perm.refl _⟩) (X := []) (F := L) (cells := []) (len := 0) rfl (SlO.none _ 1) (SlI.news h) (u8s_one _) (by omega) (by omega) (fun X' v' hX' => ?_)
    rw [esc_plain hn0] at hk
    exact Gh.done (hk X' v' (by simpa using hX'))
  have hpos : 0 < l.count 0 := by
    have : ¬ (l.count 0 = 0) := by simpa using e
    omega
  have ed : decide ((-1 : Int) < 0) = true := rfl
  simp only [ed, SSd, Nat.reduceAdd]
  unfold sh90_3
  have ez : ((([0, 255] : List UInt8).length : Nat) : Int) = 2 := rfl
  have eu : ((([0] : List UInt8).length : Nat) : Int) = 1 := rfl
  have ew : IntKind.i64.wrap (2 - 1) = 1 := rfl
  try simp only [SSd, Nat.reduceAdd]
  simp only [ez, eu, ew, Int.mul_one]
  simp only [wrap_i64 ((l.count 0 : Nat) : Int) (by omega), wrap_i64 ((l.length : Int) + (l.count 0 : Nat)) (by omega), SSd, Nat.reduceAdd]
  rw [show ((l.length : Int) + (l.count 0 : Nat)) = ((l.length + l.count 0 : Nat) : Int) by omega]
  refine ⟨.i64, .i64, _, _, rfl, rfl, Nat.le_refl _, by omega, by omega, fun b => Gh.done ?_⟩
  have eg : decide ((0 : Int) < 1) = true := rfl
  simp only [eg, SSd, Nat.reduceAdd]
  have hz0 := zero_size #[Value.int .u8 0] (l.length + l.count 0)
  have hz1 : (#[Value.int .u8 0] : Array Value).size = 1 := rfl
  rw [hz1, Nat.mul_one] at hz0
  generalize Builtin.zeroCells #[Value.int .u8 0] (l.length + l.count 0) = arr0 at hz0 ⊢
  refine loop (fun m s I' L' => I' = I ∧ ∃ (st w r : Nat) (arr : Array Value), r + m = l.count 0 ∧ s = (.int .i64 w, .int .i64 st, .int .i64 r, ()) ∧ L' = (b, Obj.cells arr 5 (0, 0)) :: L ∧ arr.size = l.length + l.count 0 ∧ st ≤ l.length ∧ r = (l.take st).count 0 ∧ w = (esc (l.take st)).length ∧
    ∀ (j : Nat) (u : Value), (u8s (esc (l.take st)))[j]? = some u → arr[j]? = some u) (l.count 0) ⟨rfl, 0, 0, 0, arr0, by omega, rfl, rfl, hz0, by omega, by simp, by simp [esc], fun j u hu => by simp [u8s, esc] at hu⟩ ?_
  rintro m s I' L' ⟨rfl, st, w, r, arr, hrm, rfl, rfl, hs, hst, hr, hw, hP⟩
  have hwl := esc_len (l.take st)
  rw [← hw, List.length_take, Nat.min_eq_left hst, ← hr] at hwl
  have hsplit : l.count 0 = (l.take st).count 0 + (l.drop st).count 0 := by rw [← List.count_append, List.take_append_drop]
  unfold sh90_4
  try simp only [SSd, Nat.reduceAdd]
  refine br_split (fun e => ?_) (fun e => ?_)
  · simp at e
    obtain ⟨pre, rest, hd, hp0⟩ := first_zero (l := l.drop st) (by omega)
    have hdl : l.length - st = pre.length + 1 + rest.length := by
      have := congrArg List.length hd
      simp at this; omega
    obtain ⟨v1, hs1, hv1⟩ := bys_part h (lo := st) (hi := l.length) (by omega) (Nat.le_refl _) (bhi := none) (fun _ _ => rfl)
    rw [List.take_of_length_le (by simp)] at hv1
    simp only [hs1, SSd, Nat.reduceAdd]
    refine call (index_spec hv1 hu hd hp0 ?_)
    simp only [wrap_i64 ((st : Int) + pre.length) (by omega), SSd, Nat.reduceAdd]
    obtain ⟨v2, hs2, hv2⟩ := bys_part h (lo := st) (hi := st + pre.length) (by omega) (by omega) (bhi := some (.int .i64 ((st + pre.length : Nat) : Int))) (fun cap hc => bnd_in _ _ _ _ (by omega))
    rw [show st + pre.length - st = pre.length by omega, hd, List.take_left] at hv2
    rw [Int.natCast_add] at hs2
    refine draw (fun _ _ => True) trivial ?_
    have hdP := hP
    simp only [slc_at (show w ≤ l.length + l.count 0 by omega), hs2, SSd, Nat.reduceAdd]
    refine cpy_at hs hP (by rw [u8s_len, hw]) (by omega) (SlI.news hv2) (u8s_one _) (fun arr1 hs1' hP1 => ?_)
    simp only [wrap_i64 ((w : Int) + pre.length) (by omega), SSd, Nat.reduceAdd]
    rw [show ((w : Int) + pre.length) = ((w + pre.length : Nat) : Int) by omega]
    simp only [slc_at (show w + pre.length ≤ l.length + l.count 0 by omega), SSd, Nat.reduceAdd]
    refine cpy_at hs1' hP1 (by rw [List.length_append, u8s_len, u8s_len, hw]) (by simp; omega) (SlI.news hz) (u8s_one _) (fun arr2 hs2' hP2 => ?_)
    have e2 : (([0, 255] : List UInt8).length : Nat) = 2 := rfl
    simp only [e2]
    have ht : l.take (st + pre.length + 1) = l.take st ++ pre ++ [0] := by
      rw [Nat.add_assoc, List.take_add, hd, List.append_assoc]
      congr 1
      rw [List.take_length_add_append]; rfl
    have he : esc (l.take (st + pre.length + 1)) = esc (l.take st) ++ pre ++ [0, 255] := by
      rw [ht, esc_append, esc_append, esc_plain hp0]; rfl
    have hpc : pre.count 0 = 0 := List.count_eq_zero.2 hp0
    simp only [eu, Int.natCast_add, SSd, Nat.reduceAdd]
    rw [wrap_i64 ((w : Int) + pre.length + ((2 : Nat) : Int)) (by omega), wrap_i64 ((st : Int) + pre.length + 1) (by omega), wrap_i64 ((r : Int) + 1) (by omega)]
    refine Gh.done ⟨m - 1, by omega, rfl, st + pre.length + 1, w + pre.length + 2, r + 1, arr2, by omega, by simp [Int.natCast_add], rfl, hs2', by omega, ?_, ?_, ?_⟩
    · rw [ht, List.count_append, List.count_append, hpc, ← hr]; rfl
    · rw [he, List.length_append, List.length_append, ← hw]; rfl
    · rw [he, u8s_append, u8s_append]; exact hP2
  · simp at e
    have hr0 : (l.drop st).count 0 = 0 := by omega
    have hn0 : (0 : UInt8) ∉ l.drop st := List.count_eq_zero.1 hr0
    have he : esc l = esc (l.take st) ++ l.drop st := by
      conv => lhs; rw [← List.take_append_drop st l, esc_append, esc_plain hn0]
    obtain ⟨v1, hs1, hv1⟩ := bys_part h (lo := st) (hi := l.length) (by omega) (Nat.le_refl _) (bhi := none) (fun _ _ => rfl)
    rw [List.take_of_length_le (by simp)] at hv1
    have hdl : (l.drop st).length = l.length - st := by simp
    unfold sh90_6
    refine draw (fun _ _ => True) trivial ?_
    simp only [slc_at (show w ≤ l.length + l.count 0 by omega), hs1, SSd, Nat.reduceAdd]
    refine cpy_at hs hP (by rw [u8s_len, hw]) (by omega) (SlI.news hv1) (u8s_one _) (fun arr1 hs1' hP1 => ?_)
    have hN : w + (l.drop st).length = l.length + l.count 0 := by omega
    try simp only [SSd, Nat.reduceAdd]
    rw [wrap_i64 ((w : Int) + ((l.drop st).length : Nat)) (by omega), show ((w : Int) + ((l.drop st).length : Nat)) = ((l.length + l.count 0 : Nat) : Int) by omega]
    have s3 : slcV 1 (.slice (some ⟨b, 0, none⟩) (l.length + l.count 0) (l.length + l.count 0)) (some (.int .i64 0)) (some (.int .i64 ((l.length + l.count 0 : Nat) : Int))) none = some (.slice (some ⟨b, 0, none⟩) (l.length + l.count 0) (l.length + l.count 0)) := by
      have := slcN (b := b) (off := 0) (len := l.length + l.count 0) (cap := l.length + l.count 0) (lo := 0) (hi := l.length + l.count 0) (n := 1) (blo := some (.int .i64 0)) (bhi := some (.int .i64 ((l.length + l.count 0 : Nat) : Int))) rfl (bnd_in _ _ _ _ (Nat.le_refl _)) (by omega)
      simpa using this
    simp only [s3, SSd, Nat.reduceAdd]
    have hel := esc_len l
    refine Gh.done (hk [(b, Obj.cells arr1 5 (0, 0))] _ ⟨by rw [u8s_len, Nat.mul_one], .inr ⟨b, l.length + l.count 0, arr1, rfl, by rw [hel], by omega, by omega, ?_⟩⟩)
    rw [he, u8s_append]
    exact hP1
end
end Go.Proofs.YtmnnnoinfhiilaaDoor
