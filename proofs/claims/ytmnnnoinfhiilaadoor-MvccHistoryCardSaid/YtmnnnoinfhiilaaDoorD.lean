/-
  Bytes of keys, stamps, numbers.
-/
-- S3
import Derived.Test.YtmnnnoinfhiilaaDoorC
set_option linter.unusedSimpArgs false
set_option linter.unusedVariables false
namespace Go.Proofs.YtmnnnoinfhiilaaDoor
open Go.SL
set_option maxRecDepth 10000
section
variable {ω : Om} {I : Imm} {L : LH} {K : Value → M}
def byteOf (n : Int) : UInt8 := UInt8.ofNat (n % 256).toNat
theorem u8_wrap (n : Int) : IntKind.u8.wrap n = ((byteOf n).toNat : Int) := by
  have e : IntKind.u8.wrap n = n % 256 := by
    simp only [IntKind.wrap]
    simp [IntKind.bits, IntKind.signed]
  rw [e, byteOf]
  simp
  omega
def varL (n : Nat) : List UInt8 := if n < 128 then [UInt8.ofNat n] else UInt8.ofNat (n % 128 + 128) :: varL (n / 128)
termination_by n
theorem varL_small {n : Nat} (h : n < 128) : varL n = [UInt8.ofNat n] := by rw [varL, if_pos h]
theorem varL_big {n : Nat} (h : ¬ n < 128) : varL n = UInt8.ofNat (n % 128 + 128) :: varL (n / 128) := by rw [varL, if_neg h]
theorem varL_len : ∀ (k n : Nat), 1 ≤ k → n < 128 ^ k → (varL n).length ≤ k
  | 0, n, h, _ => by omega
  | k + 1, n, _, h => by
    by_cases h1 : n < 128
    · rw [varL_small h1]; simp
    · rw [varL_big h1]
      simp only [List.length_cons]
      have hk : 1 ≤ k := by
        rcases Nat.eq_zero_or_pos k with h0 | h0
        · subst h0; simp at h; omega
        · omega
      have := varL_len k (n / 128) hk (by rw [Nat.pow_succ] at h; omega)
      omega
theorem varL_9 {n : Nat} (h : n < 9223372036854775808) : (varL n).length ≤ 9 := varL_len 9 n (by omega) (by omega)
theorem byte_small {n : Nat} (h : n < 128) : byteOf n = UInt8.ofNat n := by
  unfold byteOf; congr 1; omega
theorem b_app {X6 L0 F : LH} [SplitL X6 L0 F] {v : Value} {l : List UInt8} {x : UInt8} {K : Value → M} (h6 : SlO 5 1 X6 v (u8s l) l.length) (hl : l.length + 1 ≤ 140737488355328)
    (hk : ∀ X1 X6' v', SlO 5 1 X6' v' (u8s (l ++ [x])) (l ++ [x]).length → K v' I (X6' ++ (X1 ++ F))) :
    BldS 5 1 #[.int .u8 0] 1 [(0, .int .u8 x.toNat)] (gh fun u => App 5 1 1 #[.int .u8 0] v u (gh K)) I L0 := by
  refine bld_one rfl (by omega) rfl (fun X1 u hX1 => ?_)
  refine app_own (X := X6) rfl h6 (hX1.news (fun x hx => List.mem_append_left _ hx)) (by simp [Value.cells, Value.oneCell']) (by omega) (by omega) (fun X' v' hX' => ?_)
  exact hk X1 X' v' (by simpa [Value.cells, u8s] using hX')
abbrev OB (X : LH) (v : Value) (l : List UInt8) : Prop := SlO 5 1 X v (u8s l) l.length
theorem OB.freeze {A : M} {X F : LH} {v : Value} {l : List UInt8} (h : OB X v l) (hk : ∀ I', Ext I I' → Bytes I' v l → Gh A I' F) : Gh A I (X ++ F) := SlO.freeze h hk
theorem by1 {F : LH} {c : UInt8} {K : Value → M} (hk : ∀ X u, OB X u [c] → Gh (K u) I (X ++ F)) : BldS 5 1 #[.int .u8 0] 1 [(0, .int .u8 c.toNat)] (gh K) I F :=
  bld_oneG rfl (by omega) rfl (fun X1 u hX1 => hk X1 u (by unfold OB; simpa [Value.cells, u8s] using hX1))
theorem by2 {F : LH} {c d : UInt8} {K : Value → M} (hk : ∀ X u, OB X u [c, d] → Gh (K u) I (X ++ F)) : BldS 5 1 #[.int .u8 0] 2 [(0, .int .u8 c.toNat), (1, .int .u8 d.toNat)] (gh K) I F := by
  refine ⟨#[.int .u8 c.toNat, .int .u8 d.toNat], by kernel_rfl, fun bb => hk [(bb, _)] _ ⟨rfl, .inr ⟨bb, 2, _, rfl, rfl, rfl, Nat.le_refl _, fun j u hu => by simpa [u8s] using hu⟩⟩⟩
theorem ob_app {X6 L0 F : LH} [SplitL X6 L0 F] {v x : Value} {l y : List UInt8} {K : Value → M} (h6 : OB X6 v l) (hy : News 1 x I L0 y.length (u8s y)) (hl : l.length + y.length ≤ 140737488355328)
    (hk : ∀ X6' v', OB X6' v' (l ++ y) → K v' I (X6' ++ F)) : App 5 1 1 #[.int .u8 0] v x (gh K) I L0 :=
  app_own (X := X6) rfl h6 hy (u8s_one _) (by omega) (by omega) (fun X' v' hX' => hk X' v' (by
    unfold OB
    rw [u8s_append, List.length_append]
    exact hX'))
theorem ob_appG {X6 L0 F : LH} [SplitL X6 L0 F] {v x : Value} {l y : List UInt8} {K : Value → M} (h6 : OB X6 v l) (hy : News 1 x I L0 y.length (u8s y)) (hl : l.length + y.length ≤ 140737488355328)
    (hk : ∀ X6' v', OB X6' v' (l ++ y) → Gh (K v') I (X6' ++ F)) : App 5 1 1 #[.int .u8 0] v x (gh K) I L0 :=
  app_ownG (X := X6) rfl h6 hy (u8s_one _) (by omega) (by omega) (fun X' v' hX' => hk X' v' (by
    unfold OB
    rw [u8s_append, List.length_append]
    exact hX'))
theorem rall_spec {v u z : Value} {l : List UInt8} (h : Bytes I v l) (hu : Bytes I u [0]) (hz : Bytes I z [0, 255]) (hl : l.length ≤ 1000000000)
    (hk : ∀ X v', OB X v' (esc l) → K v' I (X ++ L)) : Cal Tryd.prog ω 87 #[v, u, z] K I L := by
  refine cal87 ?_
  unfold sh87
  exact call (replace_spec h hu hz hl (fun X v' h' => Gh.done (hk X v' h')))
theorem grow_spec {n : Nat} (hn : 0 < n) (hn2 : n ≤ 1000000000000) (hk : ∀ X v', OB X v' [] → K v' I (X ++ L)) : Cal Tryd.prog ω 91 #[.slice none 0 0, .int .i64 n] K I L := by
  refine cal91 ?_
  unfold sh91
  have e1 : decide ((n : Int) < 0) = false := by simp
  have e2 : decide ((0 : Int) < (n : Int)) = true := by simp; omega
  have e3 : IntKind.i64.wrap ((0 : Nat) - (0 : Nat) : Int) = 0 := rfl
  simp only [e1, SSd, Nat.reduceAdd]
  unfold sh91_1
  try simp only [SSd, Nat.reduceAdd]
  simp only [e3, Int.sub_zero, wrap_i64 (n : Int) (by omega), e2, SSd, Nat.reduceAdd]
  have s1 : slcV 1 (.slice none 0 0) none (some (.int .i64 ((0 : Nat) : Int))) none = some (.slice none 0 0) := rfl
  simp only [s1, SSd, Nat.reduceAdd]
  refine ⟨none, 0, 0, n, rfl, rfl, one_all rfl, by omega, by omega, .inr (.inr ⟨by omega, by omega, by omega, [], L, .inl ⟨none, 0, rfl, rfl, rfl⟩, List.Sublist.refl _, fun b c hc => Gh.done ?_⟩)⟩
  have s2 := slcN (b := b) (off := 0) (len := n) (cap := c) (lo := 0) (hi := 0) (n := 1) (blo := none) (bhi := some (.int .i64 ((0 : Nat) : Int))) rfl (bnd_in _ _ _ _ (by omega)) (by omega)
  simp only [Nat.zero_add] at hc ⊢
  simp only [s2, SSd, Nat.reduceAdd]
  refine Gh.done (hk [(b, _)] _ ⟨rfl, .inr ⟨b, c, _, rfl, rfl, ?_, by simp, fun j u hu => by simp [u8s] at hu⟩⟩)
  simp only [Array.size_append, zero_size]
  simp; omega
def sumK (a b : List UInt8) (k : Nat) : List UInt8 := if k = 0 then [] else if k = 1 then a else a ++ b
theorem concat_spec {bb : Nat} {v1 v2 : Value} {T : Nat} {F : LH} {a b : List UInt8} (h1 : Bytes I v1 a) (h2 : Bytes I v2 b) (hb : 0 < b.length) (hl : a.length + b.length ≤ 1000000000000)
    (hk : ∀ X v', OB X v' (a ++ b) → K v' I (X ++ (bb, Obj.cells #[v1, v2] T (0, 0)) :: F)) :
    Cal Tryd.prog ω 88 #[.slice (some ⟨bb, 0, none⟩) 2 2] K I ((bb, Obj.cells #[v1, v2] T (0, 0)) :: F) := by
  have hc : ∀ (k : Nat) (L' : LH), k < 2 → (bb, Obj.cells #[v1, v2] T (0, 0)) ∈ L' → Cell I L' bb (0 + k) (if k = 0 then v1 else v2) := by
    intro k L' hk hm
    match k, hk with
    | 0, _ => exact Cell.own hm rfl
    | 1, _ => exact Cell.own hm rfl
  have hs : ∀ k : Nat, k < 2 → (sumK a b (k + 1)).length = (sumK a b k).length + (if k = 0 then a else b).length ∧ sumK a b (k + 1) = sumK a b k ++ (if k = 0 then a else b) := by
    intro k hk
    match k, hk with
    | 0, _ => simp [sumK]
    | 1, _ => simp [sumK]
  have hle : ∀ k : Nat, k ≤ 2 → (sumK a b k).length ≤ a.length + b.length := by
    intro k hk
    match k, hk with
    | 0, _ => simp [sumK]
    | 1, _ => simp [sumK]
    | 2, _ => simp [sumK]
  refine cal88 ?_
  unfold sh88
  try simp only [SSd, Nat.reduceAdd]
  refine loop (fun m s I' L' => I' = I ∧ L' = (bb, Obj.cells #[v1, v2] T (0, 0)) :: F ∧ ∃ k : Nat, k + m = 2 ∧ s = (.int .i64 (sumK a b k).length, .int .i64 k, ())) 2 ⟨rfl, rfl, 0, rfl, rfl⟩ ?_
  rintro m s I' L' ⟨rfl, rfl, k, hkm, rfl⟩
  unfold sh88_1
  try simp only [SSd, Nat.reduceAdd]
  refine br_split (fun e => ?_) (fun e => ?_)
  · simp at e
    have hk2 : k < 2 := by omega
    have hix := ixV_int bb 0 1 .i64 2 2 k (by omega) (by omega)
    simp only [hix, SSd, Nat.reduceAdd]
    obtain ⟨g1, g2⟩ := hs k hk2
    have hlk : lenV (if k = 0 then v1 else v2) = some (.int .i64 (if k = 0 then a else b).length) := by
      by_cases h0 : k = 0
      · obtain ⟨_, _, rfl⟩ := Bytes.form h1; simp [h0, lenV]
      · obtain ⟨_, _, rfl⟩ := Bytes.form h2; simp [h0, lenV]
    have hck := hc k ((bb, Obj.cells #[v1, v2] T (0, 0)) :: F) hk2 (List.mem_cons_self ..)
    refine rd1 (v := if k = 0 then v1 else v2) (by simpa using hck) ?_
    have hle2 := hle (k + 1) (by omega)
    simp only [hlk, SSd, Nat.reduceAdd]
    rw [wrap_i64 _ (by omega)]
    rw [show (((sumK a b k).length : Int) + ((if k = 0 then a else b).length : Nat)) = (((sumK a b (k + 1)).length : Nat) : Int) by omega]
    refine br_split (fun e => ?_) (fun e => ?_)
    · simp at e; omega
    unfold sh88_3
    try simp only [SSd, Nat.reduceAdd]
    rw [wrap_i64 _ (by omega)]
    exact Gh.done ⟨m - 1, by omega, rfl, rfl, k + 1, by omega, by simp⟩
  · simp at e
    have hk2 : k = 2 := by omega
    subst hk2
    unfold sh88_5
    have e2 : (sumK a b 2).length = a.length + b.length := by simp [sumK]
    refine call (grow_spec (by omega) (by omega) (fun X v' hX => ?_))
    try simp only [SSd, Nat.reduceAdd]
    refine loop (fun m s I2 L2 => I2 = I' ∧ ∃ (k : Nat) (X6 : LH) (v6 : Value), k + m = 2 ∧ s = (v6, .int .i64 k, ()) ∧ L2 = X6 ++ (bb, Obj.cells #[v1, v2] T (0, 0)) :: F ∧ OB X6 v6 (sumK a b k)) 2 ⟨rfl, 0, X, v', rfl, rfl, rfl, hX⟩ ?_
    rintro m2 s2 I2 L2 ⟨rfl, k, X6, v6, hkm2, rfl, rfl, h6⟩
    unfold sh88_6
    try simp only [SSd, Nat.reduceAdd]
    refine br_split (fun e => ?_) (fun e => ?_)
    · simp at e
      have hk2 : k < 2 := by omega
      have hix := ixV_int bb 0 1 .i64 2 2 k (by omega) (by omega)
      simp only [hix, SSd, Nat.reduceAdd]
      obtain ⟨g1, g2⟩ := hs k hk2
      have hck := hc k (X6 ++ (bb, Obj.cells #[v1, v2] T (0, 0)) :: F) hk2 (List.mem_append_right _ (List.mem_cons_self ..))
      refine rd1 (v := if k = 0 then v1 else v2) (by simpa using hck) ?_
      have hle2 := hle (k + 1) (by omega)
      have hn : Bytes I2 (if k = 0 then v1 else v2) (if k = 0 then a else b) := by split <;> assumption
      refine ob_app (y := if k = 0 then a else b) h6 (SlI.news hn) (by omega) (fun X7 v7 h7 => ?_)
      try simp only [SSd, Nat.reduceAdd]
      rw [wrap_i64 _ (by omega)]
      exact Gh.done ⟨m2 - 1, by omega, rfl, k + 1, X7, v7, by omega, by simp, rfl, by rw [g2]; exact h7⟩
    · simp at e
      have hk2 : k = 2 := by omega
      subst hk2
      exact Gh.done (hk X6 v6 (by simpa [sumK] using h6))
def ktF (l : List UInt8) : List UInt8 := esc l ++ [0, 1]
theorem keytext_spec {v : Value} {l : List UInt8} (h : Bytes I v l) (hl : l.length ≤ 1000000000) (hk : ∀ X v' I', Ext I I' → OB X v' (ktF l) → K v' I' (X ++ L)) : Cal Tryd.prog ω 81 #[v] K I L := by
  refine cal81 ?_
  unfold sh81
  refine by1 (c := 0) (fun X1 u1 h1 => OB.freeze h1 (fun I1 hI1 hb1 => Gh.done ?_))
  refine by2 (c := 0) (d := 255) (fun X2 u2 h2 => OB.freeze h2 (fun I2 hI2 hb2 => Gh.done ?_))
  refine callG (rall_spec (h.mono (hI1.trans hI2)) (hb1.mono hI2) hb2 hl (fun X3 u3 h3 => ?_))
  refine OB.freeze h3 (fun I3 hI3 hb3 => Gh.done ?_)
  refine by2 (c := 0) (d := 1) (fun X4 u4 h4 => OB.freeze h4 (fun I4 hI4 hb4 => Gh.done ?_))
  have hel := esc_len l
  have hcl := List.count_le_length (a := (0 : UInt8)) (l := l)
  obtain ⟨a3, c3, rfl⟩ := Bytes.form hb3
  obtain ⟨a4, c4, rfl⟩ := Bytes.form hb4
  refine ⟨#[.slice a3 (esc l).length c3, .slice a4 ([0, 1] : List UInt8).length c4], by kernel_rfl, fun bb => Gh.done ?_⟩
  refine call (concat_spec (hb3.mono hI4) hb4 (by simp) (by simp; omega) (fun X v' hX => ?_))
  exact Gh.to (X ++ L) (Gh.done (hk X v' I4 (hI1.trans (hI2.trans (hI3.trans hI4))) hX))
end
end Go.Proofs.YtmnnnoinfhiilaaDoor
