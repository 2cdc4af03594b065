/-
  Bytes of numbers, stamps, versions; what is noted.
-/
-- S3
import Derived.Test.YtmnnnoinfhiilaaDoorD
set_option linter.unusedSimpArgs false
set_option linter.unusedVariables false
namespace Go.Proofs.YtmnnnoinfhiilaaDoor
open Go.SL
set_option maxRecDepth 10000
section
variable {ω : Om} {I : Imm} {L : LH} {K : Value → M}
theorem b_appG {X6 L0 F : LH} [SplitL X6 L0 F] {v : Value} {l : List UInt8} {x : UInt8} {K : Value → M} (h6 : OB X6 v l) (hl : l.length + 1 ≤ 140737488355328)
    (hk : ∀ X1 X6' v', OB X6' v' (l ++ [x]) → Gh (K v') I (X6' ++ (X1 ++ F))) :
    BldS 5 1 #[.int .u8 0] 1 [(0, .int .u8 x.toNat)] (gh fun u => App 5 1 1 #[.int .u8 0] v u (gh K)) I L0 := by
  refine bld_one rfl (by omega) rfl (fun X1 u hX1 => ?_)
  refine app_ownG (X := X6) rfl h6 (hX1.news (fun x hx => List.mem_append_left _ hx)) (by simp [Value.cells, Value.oneCell']) (by omega) (by omega) (fun X' v' hX' => ?_)
  exact hk X1 X' v' (by unfold OB; simpa [Value.cells, u8s] using hX')
theorem cvsb {l : List UInt8} {T : Nat} (hk : ∀ v I', Ext I I' → Bytes I' v l → Gh (K v) I' L) : CvSB T (sstr l) (gh K) I L := by
  refine ⟨⟨l.toArray⟩, rfl, fun b c hc => Gh.freeze (fun hE => hk _ _ hE ?_)⟩
  rw [ba_size] at hc ⊢
  refine ⟨by simp [u8s], _, c, rfl, hc, fun h0 => ⟨b, 0, _, T, _, rfl, if_pos rfl, fun j u hu => ?_⟩⟩
  have hj : j < l.length := by have := (List.getElem?_eq_some_iff.1 hu).1; simpa [u8s] using this
  simp only [u8s, List.getElem?_map] at hu
  rw [Nat.zero_add, Array.getElem?_append_left (by simpa using hj)]
  simpa using hu
theorem clipB_spec {v : Value} {l : List UInt8} (h : Bytes I v l) (hk : ∀ v', Bytes I v' l → K v' I L) : Cal Tryd.prog ω 80 #[v] K I L := by
  refine cal80 ?_
  unfold sh80
  obtain ⟨hcl, a, cap, rfl, hle, hb⟩ := h
  have s1 : slcV 1 (.slice a l.length cap) none (some (.int .i64 l.length)) (some (.int .i64 l.length)) = some (.slice (if l.length = 0 then a else a.map (·.add (0 * 1))) l.length l.length) := by
    simp only [slcV, Option.isNone_some, Bool.false_and, Bool.false_eq_true, if_false, bnd_in _ _ _ _ hle, bnd_in _ _ _ _ (Nat.le_refl _), Option.bind_some, bnd0, Nat.sub_zero]
  simp only [s1, SSd, Nat.reduceAdd]
  refine Gh.done (hk _ ⟨hcl, _, l.length, rfl, Nat.le_refl _, fun h0 => ?_⟩)
  obtain ⟨b, off, cs, T, fr, rfl, hm, hcs⟩ := hb h0
  exact ⟨b, off, cs, T, fr, by rw [if_neg h0]; simp [add_none], hm, hcs⟩
theorem or_u8 : ∀ x : Fin 256, bitsV .or .u8 ((x.val : Nat) : Int) 128 = ((x.val % 128 + 128 : Nat) : Int) := by decide
theorem number_spec {n : Nat} (hn : n < 9223372036854775808) (hk : ∀ v' I', Ext I I' → Bytes I' v' (varL n) → K v' I' L) : Cal Tryd.prog ω 52 #[.int .u64 n] K I L := by
  refine cal52 ?_
  unfold sh52
  refine loop (fun m s I' L' => I' = I ∧ ∃ (c : Nat) (d : List UInt8) (X : LH) (v : Value), c = m ∧ c ≤ n ∧ varL n = d ++ varL c ∧ d.length ≤ 64 ∧ s = (.int .u64 c, v, ()) ∧ L' = X ++ L ∧ OB X v d) n ⟨rfl, n, [], [], _, rfl, Nat.le_refl _, rfl, by simp, rfl, rfl, SlO.none _ 1⟩ ?_
  rintro m s I' L' ⟨rfl, c, d, X, v, rfl, hcn, he, hd, rfl, rfl, hX⟩
  have hlen := varL_9 hn
  rw [he, List.length_append] at hlen
  unfold sh52_1
  try simp only [SSd, Nat.reduceAdd]
  refine br_split (fun e => ?_) (fun e => ?_)
  · simp at e
    simp only [u8_wrap, SSd, Nat.reduceAdd]
    have hb := or_u8 ⟨(byteOf (c : Int)).toNat, (byteOf (c : Int)).toNat_lt⟩
    simp only at hb
    have hbo : (byteOf (c : Int)).toNat % 128 + 128 = (UInt8.ofNat (c % 128 + 128)).toNat := by
      simp [byteOf]; omega
    rw [hb, hbo]
    refine b_app hX (by omega) (fun X1 X6 v6 h6 => ?_)
    have hsh := binI_shr (a := (c : Int)) (c := 7) .u64 .u64 (by decide)
    have hdv : (c : Int).fdiv (2 ^ (min (7 : Int).toNat IntKind.u64.bits)) = ((c / 128 : Nat) : Int) := by
      show (c : Int).fdiv (2 ^ 7) = _
      rw [Int.fdiv_eq_ediv_of_nonneg _ (by decide)]
      omega
    rw [hdv] at hsh
    simp only [hsh, SSd, Nat.reduceAdd]
    refine Gh.to (X6 ++ L) (Gh.done ⟨c / 128, by omega, rfl, c / 128, d ++ [UInt8.ofNat (c % 128 + 128)], X6, v6, rfl, by omega, ?_, by simp; omega, rfl, rfl, h6⟩)
    rw [he, varL_big (by omega)]; simp
  · simp at e
    unfold sh52_3
    simp only [u8_wrap, SSd, Nat.reduceAdd]
    refine b_appG hX (by omega) (fun X1 X6 v6 h6 => ?_)
    rw [byte_small (by omega), ← varL_small (by omega), ← he] at h6
    refine OB.freeze h6 (fun I2 hI2 hB => Gh.done ?_)
    refine call (clipB_spec hB (fun v' hv' => ?_))
    exact Gh.to L (Gh.done (hk v' I2 hI2 hv'))
def wb (w : Int) (k : Nat) : UInt8 := byteOf (w.fdiv (2 ^ k))
def wallL (w : Int) (k : Nat) : List UInt8 := (List.range k).map fun j => wb w (48 - 8 * j)
def stF (s : TStamp) : List UInt8 := wallL s.fWall 7 ++ [wb s.fLogic 8, byteOf s.fLogic]
theorem hbytes_spec {x : TStamp} (hr : rightB x = true) (hk : ∀ X v', OB X v' (stF x) → K (.tuple #[v', .int .i64 0]) I (X ++ L)) : Cal Tryd.prog ω 51 #[sv x] K I L := by
  refine cal51 ?_
  unfold sh51
  refine newI (fun b => ?_)
  refine rdB rfl ?_
  refine call (hright_spec ?_)
  rw [hr]
  simp only [Bool.not_true, SSd, Nat.reduceAdd]
  refine mk_own (ln := 0) (cn := 9) (by omega) (by omega) (by omega) (fun X v hX => ?_)
  have hX0 : OB X v [] := by
    have e : (Builtin.zeroCells #[Value.int .u8 0] 0).toList = [] := by simp [Builtin.zeroCells]
    rw [e] at hX; exact hX
  refine loop (fun m s I' L' => I' = I ∧ ∃ (k : Nat) (X6 : LH) (v6 : Value), k + m = 7 ∧ s = (v6, .int .i64 (48 - 8 * (k : Int)), ()) ∧ L' = X6 ++ (b, Obj.cells #[.int .i64 x.fWall, .int .i64 x.fLogic] 34 (0, 0)) :: L ∧ OB X6 v6 (wallL x.fWall k)) 7 ⟨rfl, 0, X, v, rfl, rfl, rfl, hX0⟩ ?_
  rintro m s I' L' ⟨rfl, k, X6, v6, hkm, rfl, rfl, h6⟩
  have hwl : (wallL x.fWall k).length = k := by simp [wallL]
  unfold sh51_1
  try simp only [SSd, Nat.reduceAdd]
  refine br_split (fun e => ?_) (fun e => ?_)
  · simp at e
    refine rdb ?_
    have hsh := binI_shr (a := x.fWall) (c := 48 - 8 * (k : Int)) .i64 .i64 (by omega)
    have hmin : min (48 - 8 * (k : Int)).toNat IntKind.i64.bits = 48 - 8 * k := by
      have : IntKind.i64.bits = 64 := rfl
      omega
    rw [hmin] at hsh
    simp only [hsh, u8_wrap, SSd, Nat.reduceAdd]
    refine b_app (x := wb x.fWall (48 - 8 * k)) h6 (by omega) (fun X1 X7 v7 h7 => ?_)
    try simp only [SSd, Nat.reduceAdd]
    rw [wrap_i64 _ (by omega)]
    refine Gh.to (X7 ++ (b, Obj.cells #[.int .i64 x.fWall, .int .i64 x.fLogic] 34 (0, 0)) :: L) (Gh.done ⟨m - 1, by omega, rfl, k + 1, X7, v7, by omega, ?_, rfl, ?_⟩)
    · congr 2; congr 1; omega
    · have : wallL x.fWall (k + 1) = wallL x.fWall k ++ [wb x.fWall (48 - 8 * k)] := by simp [wallL, List.range_succ]
      rw [this]; exact h7
  · simp at e
    have hk7 : k = 7 := by omega
    subst hk7
    unfold sh51_3
    try simp only [SSd, Nat.reduceAdd]
    refine rdb ?_
    have hsh := binI_shr (a := x.fLogic) (c := 8) .i64 .u64 (by omega)
    have hmin : min (8 : Int).toNat IntKind.i64.bits = 8 := rfl
    rw [hmin] at hsh
    simp only [hsh, u8_wrap, SSd, Nat.reduceAdd]
    refine rdb ?_
    simp only [u8_wrap, SSd, Nat.reduceAdd]
    refine by2 (c := wb x.fLogic 8) (d := byteOf x.fLogic) (fun X2 u2 h2 => Gh.done ?_)
    refine ob_app (y := [wb x.fLogic 8, byteOf x.fLogic]) h6 (h2.news (fun x hx => List.mem_append_left _ hx)) (by simp [hwl]) (fun X7 v7 h7 => ?_)
    exact Gh.to (X7 ++ L) (Gh.done (hk X7 v7 h7))
def verText (v : TVer) : List UInt8 := if v.fDel then [1] else 0 :: v.fValue
abbrev vv (v : TVer) : Value := .agg #[.int .i64 v.fAt.fWall, .int .i64 v.fAt.fLogic, .bool v.fDel, sstr v.fValue]
theorem text_spec {v : TVer} (hl : v.fValue.length ≤ 1000000000) (hk : ∀ X u, OB X u (verText v) → K u I (X ++ L)) : Cal Tryd.prog ω 53 #[vv v] K I L := by
  refine cal53 ?_
  unfold sh53
  refine newI (fun b => ?_)
  try simp only [SSd, Nat.reduceAdd]
  refine rdb ?_
  refine br_split (fun e => ?_) (fun e => ?_)
  · refine by1 (c := 1) (fun X1 u1 h1 => ?_)
    refine Gh.to (X1 ++ L) (Gh.done (Gh.done (hk X1 u1 ?_)))
    unfold verText; rw [if_pos e]; exact h1
  · refine by1 (c := 0) (fun X1 u1 h1 => Gh.done ?_)
    try simp only [SSd, Nat.reduceAdd]
    refine rdb ?_
    refine ob_app (y := v.fValue) h1 (.inr (.inr ⟨_, rfl, rfl, by simp [ByteArray.size], by simp [u8s]⟩)) (by simp; omega) (fun X7 v7 h7 => ?_)
    refine Gh.to (X7 ++ L) (Gh.done (hk X7 v7 ?_))
    unfold verText; rw [if_neg (by simp [e])]; exact h7
def vkey (k : List UInt8) (v : TVer) : List UInt8 := 118 :: (ktF k ++ stF v.fAt)
theorem vkey_spec {k : List UInt8} {v : TVer} (hr : rightB v.fAt = true) (hl : k.length ≤ 1000000000) (hk : ∀ X u I', Ext I I' → OB X u (vkey k v) → K u I' (X ++ L)) : Cal Tryd.prog ω 54 #[sstr k, vv v] K I L := by
  refine cal54 ?_
  unfold sh54
  refine newI (fun b => ?_)
  try simp only [SSd, Nat.reduceAdd]
  refine rdP [.int .i64 v.fAt.fWall, .int .i64 v.fAt.fLogic] rfl rfl ?_
  refine call (hbytes_spec (x := v.fAt) hr (fun X1 u1 h1 => ?_))
  try simp only [SSd, Nat.reduceAdd]
  have hs9 : (stF v.fAt).length = 9 := rfl
  have hel := esc_len k
  have hcl := List.count_le_length (a := (0 : UInt8)) (l := k)
  have hkl : (ktF k).length ≤ 3000000000 := by unfold ktF; simp; omega
  refine by1 (c := 118) (fun X2 u2 h2 => Gh.done ?_)
  refine cvsb (fun v3 I3 hI3 hb3 => Gh.done ?_)
  refine call (keytext_spec hb3 hl (fun X4 u4 I4 hI4 h4 => ?_))
  refine ob_app (X6 := X2) (y := ktF k) h2 (h4.news (fun x hx => by simp [hx])) (by simp; omega) (fun X5 u5 h5 => ?_)
  refine ob_app (X6 := X5) (y := stF v.fAt) h5 (h1.news (fun x hx => by simp [hx])) (by simp; omega) (fun X6 u6 h6 => ?_)
  refine Gh.to (X6 ++ L) (Gh.done (hk X6 u6 I4 (hI3.trans hI4) ?_))
  unfold vkey; simpa using h6
end
end Go.Proofs.YtmnnnoinfhiilaaDoor
