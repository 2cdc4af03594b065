/-
  Lemmas, part 7: laid together by a program.
-/
import Derived.Test.YtmnnnoinfhiilaaGreatDoorP6
import Derived.Test.YtmnnnoinfhiilaaGreatDoorP4
import Derived.Shelf.SlSortCmp.NoneTotal
import Derived.Shelf.SlLaysF0
import Derived.Shelf.Small.Strs
import Derived.Test.YtmnnnoinfhiilaaGreatDoorProg
-- S3
set_option linter.unusedSimpArgs false
set_option linter.unusedVariables false
namespace Go.Proofs.YtmnnnoinfhiilaaGreatDoor
open Go.SL
set_option maxRecDepth 10000
section
variable {ω : Om} {I : Imm} {L : LH} {K : Value → M}
/-! ### Parts of bytes -/
theorem Bytes.drop {v : Value} {l : List UInt8} {n : Nat} (h : Bytes I v l) (hn : n ≤ l.length) : ∃ v', slcV 1 v (some (.int .i64 n)) none none = some v' ∧ Bytes I v' (l.drop n) := by
  obtain ⟨v', h1, h2⟩ := SlI.part (lo := n) (hi := l.length) h hn (Nat.le_refl _) (some (.int .i64 n)) none (fun y hy => .inl (bnd_in _ _ _ _ (by omega))) (fun cap hc => rfl)
  refine ⟨v', h1, ?_⟩
  unfold Bytes
  rw [List.length_drop]
  have : ((u8s l).drop (n * 1)).take ((l.length - n) * 1) = u8s (l.drop n) := by
    rw [Nat.mul_one, Nat.mul_one, List.take_of_length_le (by simp [u8s])]
    simp [u8s]
  rwa [this] at h2
theorem Bytes.part {v : Value} {l : List UInt8} {lo hi : Nat} (h : Bytes I v l) (h1 : lo ≤ hi) (h2 : hi ≤ l.length) : ∃ v', slcV 1 v (some (.int .i64 lo)) (some (.int .i64 hi)) none = some v' ∧ Bytes I v' ((l.drop lo).take (hi - lo)) := by
  obtain ⟨v', e1, e2⟩ := SlI.part (lo := lo) (hi := hi) h h1 h2 (some (.int .i64 lo)) (some (.int .i64 hi)) (fun y hy => .inl (bnd_in _ _ _ _ (by omega))) (fun cap hc => bnd_in _ _ _ _ (by omega))
  refine ⟨v', e1, ?_⟩
  unfold Bytes
  rw [List.length_take, List.length_drop, Nat.min_eq_left (by omega)]
  have : ((u8s l).drop (lo * 1)).take ((hi - lo) * 1) = u8s ((l.drop lo).take (hi - lo)) := by
    simp [u8s]
  rwa [this] at e2
theorem Bytes.take {v : Value} {l : List UInt8} {n : Nat} (h : Bytes I v l) (hn : n ≤ l.length) : ∃ v', slcV 1 v none (some (.int .i64 n)) none = some v' ∧ Bytes I v' (l.take n) := by
  obtain ⟨v', e1, e2⟩ := SlI.part (lo := 0) (hi := n) h (by omega) hn none (some (.int .i64 n)) (fun y hy => .inl rfl) (fun cap hc => bnd_in _ _ _ _ (by omega))
  refine ⟨v', e1, ?_⟩
  unfold Bytes
  rw [List.length_take, Nat.min_eq_left (by omega)]
  have : ((u8s l).drop (0 * 1)).take ((n - 0) * 1) = u8s (l.take n) := by
    simp [u8s]
  rwa [this] at e2
theorem or_add {n y i : Nat} (h : n < 2 ^ i) (hs : n + y * 2 ^ i < 9223372036854775808) : bitsV .or .i64 (n : Int) ((y * 2 ^ i : Nat) : Int) = ((n + y * 2 ^ i : Nat) : Int) := by
  have e : ((BitVec.ofInt 64 (n : Int)) ||| (BitVec.ofInt 64 ((y * 2 ^ i : Nat) : Int))).toNat = n + y * 2 ^ i := by
    rw [BitVec.toNat_or]
    have e1 : (BitVec.ofInt 64 (n : Int)).toNat = n := by rw [BitVec.toNat_ofInt]; omega
    have e2 : (BitVec.ofInt 64 ((y * 2 ^ i : Nat) : Int)).toNat = y * 2 ^ i := by
      rw [BitVec.toNat_ofInt]
      generalize y * 2 ^ i = z at *
      omega
    rw [e1, e2, Nat.or_comm, Nat.mul_comm, ← Nat.two_pow_add_eq_or_of_lt h]
    exact Nat.add_comm _ _
  show IntKind.i64.wrap ((BitVec.ofInt 64 (n : Int)) ||| (BitVec.ofInt 64 ((y * 2 ^ i : Nat) : Int))).toNat = _
  rw [e]
  exact wrap_i64 _ (by omega)
theorem Bytes.at {v : Value} {l : List UInt8} {k : Nat} (h : Bytes I v l) (hk : k < l.length) : ∃ b off, ixV 1 v (.int .i64 k) = some (.pointer (some ⟨b, off, none⟩)) ∧ ∀ I' L, Ext I I' → Cell I' L b off (.int .u8 (l[k]).toNat) := by
  obtain ⟨b, off, hix, hc⟩ := SlI.ix h .i64 hk
  have hone : ((u8s l).drop (k * 1)).take 1 = [.int .u8 (l[k]).toNat] := by
    rw [Nat.mul_one, List.drop_eq_getElem_cons (by simpa [u8s] using hk), List.take_succ_cons]
    simp [u8s]
  rw [hone] at hc
  exact ⟨b, off, hix, fun I' L hI => hc I' L hI 0 _ rfl⟩
/-! ### A stamp -/
theorem unB_take {l : List UInt8} {i : Nat} (h : i < l.length) : unB (l.take (i + 1)) = unB (l.take i) * 256 + (l[i].toNat : Int) := by
  rw [List.take_succ_eq_append_getElem h, unB_append]
  simp [unB]
theorem shl8 {n : Nat} (hn : n < 36028797018963968) : binIV .shl (.int .i64 (n : Int)) (.int .u64 8) = some (.int .i64 ((n * 256 : Nat) : Int)) := by
  have h := binI_shl (a := (n : Int)) (c := 8) .i64 .u64 (by decide)
  have e1 : (min (8 : Int).toNat IntKind.i64.bits) = 8 := rfl
  rw [e1, wrap_i64 _ (by omega)] at h
  rw [h]
  congr 2
theorem or8 {n : Nat} (hn : n < 36028797018963968) (b : UInt8) : bitsV .or .i64 ((n * 256 : Nat) : Int) (b.toNat : Int) = ((n * 256 + b.toNat : Nat) : Int) := by
  have hb := b.toNat_lt
  have e2 : bitsV .or .i64 ((n * 256 : Nat) : Int) (b.toNat : Int) = bitsV .or .i64 (b.toNat : Int) ((n * 2 ^ 8 : Nat) : Int) := by
    unfold bitsV
    simp only
    rw [BitVec.or_comm]
  rw [e2, or_add (by omega) (by omega)]
  congr 1
  omega
end
section
variable {ω : Om} {I : Imm} {L : LH} {K : Value → M}
theorem unB_nat (l : List UInt8) : ∃ n : Nat, unB l = n := ⟨(unB l).toNat, by have := (unB_bound l).1; omega⟩
theorem hread_spec {v : Value} {s : TStamp} (h : Bytes I v (stF s)) (hr : rightB s = true) (hk : ∀ I', Ext I I' → K (.tuple #[sv s, .int .i64 0]) I' L) : Cal Tryz.prog ω 80 #[v] K I L := by
  have hu7 : unB ((stF s).take 7) = s.fWall := congrArg TStamp.fWall (unSt_st hr)
  have hu2 : unB ((stF s).drop 7) = s.fLogic := congrArg TStamp.fLogic (unSt_st hr)
  have hl9 : (stF s).length = 9 := rfl
  obtain ⟨v7, e7, h7⟩ := Bytes.take h (n := 7) (by rw [hl9]; omega)
  have e7' : slcV 1 v none (some (.int .i64 7)) none = some v7 := e7
  have hl7 : ((stF s).take 7).length = 7 := by rw [List.length_take, hl9]; rfl
  have hlen : lenV v = some (.int .i64 9) := Bytes.len h
  have hlen7 : lenV v7 = some (.int .i64 7) := by rw [Bytes.len h7, hl7]; rfl
  generalize hS : stF s = S at *
  refine cal80 ?_
  unfold sh80
  refine newI (fun b1 => ?_)
  simp only [hlen, SSd, Nat.reduceAdd]
  refine newI (fun b2 => ?_)
  simp only [e7', hlen7, SSd, Nat.reduceAdd]
  refine loop (fun n t I' L' => I' = I ∧ ∃ i : Nat, n + i = 7 ∧ t = (.int .i64 i, ()) ∧ L' = (b2, stO ⟨unB (S.take i), 0⟩) :: (b1, stO ⟨0, 0⟩) :: L) 7 ⟨rfl, 0, rfl, rfl, rfl⟩ ?_
  rintro n t I' L' ⟨rfl, i, hni, rfl, rfl⟩
  unfold sh80_1
  try simp only [SSd, Nat.reduceAdd]
  refine br_split (fun e => ?_) (fun e => ?_)
  · have hi : i < 7 := by simp at e; omega
    obtain ⟨bb, off, hix, hc⟩ := Bytes.at (k := i) h7 (by omega)
    obtain ⟨m, hm⟩ := unB_nat (S.take i)
    have hb := (unB_bound (S.take i)).2
    rw [List.length_take, Nat.min_eq_left (by omega), hm] at hb
    have hmb : m < 36028797018963968 := by
      have : (256 : Int) ^ i ≤ 256 ^ 6 := by
        have h6 := Nat.pow_le_pow_right (show 0 < 256 by decide) (show i ≤ 6 by omega)
        exact_mod_cast h6
      omega
    simp only [hix, SSd, Nat.reduceAdd]
    refine rd1 (hc _ _ (Ext.refl _)) ?_
    try simp only [SSd, Nat.reduceAdd]
    refine rdb ?_
    have hbt := ((S.take 7)[i]'(by omega)).toNat_lt
    rw [hm]
    simp only [shl8 hmb, wrap_i64 (((S.take 7)[i]'(by omega)).toNat : Int) (by omega), or8 hmb, SSd, Nat.reduceAdd]
    refine st1 rfl ?_
    try simp only [SSd, Nat.reduceAdd]
    rw [wrap_i64 _ (by omega)]
    refine Gh.done ⟨n - 1, by omega, rfl, i + 1, by omega, rfl, ?_⟩
    have e3 : unB (S.take (i + 1)) = ((m * 256 + ((S.take 7)[i]'(by omega)).toNat : Nat) : Int) := by
      rw [unB_take (by omega), hm, List.getElem_take]; omega
    rw [e3]
  · have hi7 : i = 7 := by simp at e; omega
    subst hi7
    rw [hu7]
    obtain ⟨b7, o7, hix7, hc7⟩ := Bytes.at (k := 7) h (by omega)
    obtain ⟨b8, o8, hix8, hc8⟩ := Bytes.at (k := 8) h (by omega)
    have hix7' : ixV 1 v (.int .i64 7) = some (.pointer (some ⟨b7, o7, none⟩)) := hix7
    have hix8' : ixV 1 v (.int .i64 8) = some (.pointer (some ⟨b8, o8, none⟩)) := hix8
    have hd : S.drop 7 = [S[7], S[8]] := by
      rw [List.drop_eq_getElem_cons (by omega), List.drop_eq_getElem_cons (by omega), List.drop_of_length_le (by omega)]
    have hlog : s.fLogic = ((S[7].toNat * 256 + S[8].toNat : Nat) : Int) := by
      rw [← hu2, hd]; simp [unB]
    have ht7 := S[7].toNat_lt
    have ht8 := S[8].toNat_lt
    unfold sh80_3
    refine drawC ?_
    simp only [hix7', SSd, Nat.reduceAdd]
    refine rdCS (hc7 I' [] (Ext.refl _)) (Ext.refl _) ?_
    simp only [hix8', wrap_i64 (S[7].toNat : Int) (by omega), shl8 (n := S[7].toNat) (by omega), SSd, Nat.reduceAdd]
    refine rdCS (hc8 I' [] (Ext.refl _)) (Ext.refl _) ?_
    simp only [wrap_i64 (S[8].toNat : Int) (by omega), or8 (n := S[7].toNat) (by omega), ← hlog, SSd, Nat.reduceAdd]
    refine st1 rfl ?_
    try simp only [SSd, Nat.reduceAdd]
    refine rdP _ rfl rfl ?_
    refine callG (hbytes_spec (x := s) hr (fun X1 u h1 => OB.freeze h1 (fun I2 hI2 hb2 => Gh.done ?_)))
    try simp only [SSd, Nat.reduceAdd]
    refine call (equal_spec hb2 (h.mono hI2) ?_)
    rw [hS]
    simp only [beq_self_eq_true, Bool.not_true, SSd, Nat.reduceAdd]
    refine rdP _ rfl rfl ?_
    refine stB rfl rfl (one_all rfl) ?_
    refine rdP _ rfl rfl ?_
    exact Gh.to L (Gh.done (hk I2 hI2))
/-! ### A number -/
theorem or_addU {n y i : Nat} (h : n < 2 ^ i) (hs : n + y * 2 ^ i < 9223372036854775808) : bitsV .or .u64 (n : Int) ((y * 2 ^ i : Nat) : Int) = ((n + y * 2 ^ i : Nat) : Int) := by
  have e : ((BitVec.ofInt 64 (n : Int)) ||| (BitVec.ofInt 64 ((y * 2 ^ i : Nat) : Int))).toNat = n + y * 2 ^ i := by
    rw [BitVec.toNat_or]
    have e1 : (BitVec.ofInt 64 (n : Int)).toNat = n := by rw [BitVec.toNat_ofInt]; omega
    have e2 : (BitVec.ofInt 64 ((y * 2 ^ i : Nat) : Int)).toNat = y * 2 ^ i := by
      rw [BitVec.toNat_ofInt]
      generalize y * 2 ^ i = z at *
      omega
    rw [e1, e2, Nat.or_comm, Nat.mul_comm, ← Nat.two_pow_add_eq_or_of_lt h]
    exact Nat.add_comm _ _
  show IntKind.u64.wrap ((BitVec.ofInt 64 (n : Int)) ||| (BitVec.ofInt 64 ((y * 2 ^ i : Nat) : Int))).toNat = _
  rw [e]
  exact wrap_u64 _ (by omega) (by omega)
theorem and_u8 : ∀ x : Fin 256, bitsV .and .u8 ((x.val : Nat) : Int) 127 = ((x.val % 128 : Nat) : Int) := by decide
theorem pow128 (i : Nat) : (128 : Nat) ^ i = 2 ^ (7 * i) := by rw [show (128 : Nat) = 2 ^ 7 from rfl, ← Nat.pow_mul]
theorem shl7 {y i : Nat} (hi : i ≤ 7) (hy : y * 128 ^ i < 9223372036854775808) : binIV .shl (.int .u64 (y : Int)) (.int .i64 (7 * (i : Int))) = some (.int .u64 ((y * 2 ^ (7 * i) : Nat) : Int)) := by
  have h := binI_shl (a := (y : Int)) (c := 7 * (i : Int)) .u64 .i64 (by omega)
  have e1 : (min (7 * (i : Int)).toNat IntKind.u64.bits) = 7 * i := by
    show min _ 64 = _
    omega
  rw [pow128] at hy
  rw [e1, wrap_u64 _ (by
    have : (0 : Int) ≤ 2 ^ (7 * i) := Int.le_of_lt (Int.pow_pos (by decide))
    exact Int.mul_nonneg (Int.natCast_nonneg y) this) (by
    have : ((y * 2 ^ (7 * i) : Nat) : Int) < 18446744073709551616 := by omega
    rw [Int.natCast_mul, Int.natCast_pow] at this
    exact this)] at h
  rw [h]
  congr 2
theorem byte_at {l : List UInt8} {c : UInt8} {d r : List UInt8} (h : l = d ++ c :: r) (hd : d.length < l.length) : l[d.length] = c := by
  subst h; simp
theorem taken_spec {v : Value} {n : Nat} {rest : List UInt8} (h : Bytes I v (varL n ++ rest)) (hn : n ≤ 9007199254740991) (hk : K (.tuple #[.int .u64 n, .int .i64 (varL n).length, .int .i64 0]) I L) : Cal Tryz.prog ω 81 #[v] K I L := by
  refine cal81 ?_
  unfold sh81
  refine loop (fun q t I' L' => I' = I ∧ L' = L ∧ ∃ (i m acc : Nat) (d : List UInt8), q + i = 8 ∧ t = (.int .u64 0, .int .i64 0, .int .i64 0, .int .u64 acc, .int .i64 i, ()) ∧ varL n = d ++ varL m ∧ d.length = i ∧ n = acc + m * 128 ^ i ∧ acc < 128 ^ i ∧ (0 < i → m ≠ 0)) 8 ⟨rfl, rfl, 0, n, 0, [], rfl, rfl, rfl, rfl, by simp, by simp, by omega⟩ ?_
  rintro q t I' L' ⟨rfl, rfl, i, m, acc, d, hqi, rfl, he, hd, hnn, hacc, hm0⟩
  have hi7 : i ≤ 7 := by
    by_cases h8 : i = 8
    · subst h8
      have hm := hm0 (by omega)
      have : 1 * 128 ^ 8 ≤ m * 128 ^ 8 := Nat.mul_le_mul_right _ (by omega)
      omega
    · omega
  have hmn : m * 128 ^ i ≤ 9007199254740991 := by omega
  have hmm : m ≤ 9007199254740991 := Nat.le_trans (Nat.le_mul_of_pos_right _ (Nat.pow_pos (by decide))) hmn
  obtain ⟨c, r, hc, hcs⟩ : ∃ c r, varL m = c :: r ∧ ((m < 128 ∧ c = UInt8.ofNat m ∧ r = []) ∨ (¬ m < 128 ∧ c = UInt8.ofNat (m % 128 + 128) ∧ r = varL (m / 128))) := by
    by_cases h1 : m < 128
    · exact ⟨_, _, varL_small h1, .inl ⟨h1, rfl, rfl⟩⟩
    · exact ⟨_, _, varL_big h1, .inr ⟨h1, rfl, rfl⟩⟩
  have hl : varL n ++ rest = d ++ c :: (r ++ rest) := by rw [he, hc]; simp
  have hlen : d.length < (varL n ++ rest).length := by rw [hl]; simp
  unfold sh81_1
  obtain ⟨b, off, hix, hcell⟩ := Bytes.at (k := i) h (by omega)
  have hbyte : (varL n ++ rest)[i]'(by omega) = c := by
    have := byte_at hl hlen
    simpa [hd] using this
  rw [hbyte] at hcell
  have hne : ((i : Int) == ((varL n ++ rest).length : Int)) = false := by
    simp only [beq_eq_false_iff_ne, ne_eq]; omega
  try simp only [SSd, Nat.reduceAdd]
  refine br_split (fun e => ?_) (fun e => absurd e (by simp; omega))
  simp only [Bytes.len h, hne, hix, SSd, Nat.reduceAdd]
  refine rd1 (hcell _ _ (Ext.refl _)) ?_
  have hand := and_u8 ⟨c.toNat, c.toNat_lt⟩
  simp only at hand
  have hct := c.toNat_lt
  have hcm : c.toNat % 128 = m % 128 := by
    rcases hcs with ⟨h1, rfl, _⟩ | ⟨h1, rfl, _⟩ <;> simp <;> omega
  have hle : m % 128 * 128 ^ i ≤ m * 128 ^ i := Nat.mul_le_mul_right _ (Nat.mod_le _ _)
  have w7 : IntKind.i64.wrap (7 * (i : Int)) = 7 * (i : Int) := wrap_i64 _ (by omega)
  have wu : IntKind.u64.wrap ((m % 128 : Nat) : Int) = ((m % 128 : Nat) : Int) := wrap_u64 _ (by omega) (by omega)
  have hor := or_addU (n := acc) (y := m % 128) (i := 7 * i) (by rw [← pow128]; exact hacc) (by rw [← pow128]; omega)
  simp only [hand, hcm, w7, wu, shl7 hi7 (show m % 128 * 128 ^ i < 9223372036854775808 by omega), hor, SSd, Nat.reduceAdd]
  rw [← pow128]
  generalize hP : 128 ^ i = P at *
  refine br_split (fun e2 => ?_) (fun e2 => ?_)
  · obtain ⟨h1, h2, h3⟩ : ¬ m < 128 ∧ c = UInt8.ofNat (m % 128 + 128) ∧ r = varL (m / 128) := by
      rcases hcs with ⟨h1, h2, _⟩ | h
      · subst h2; simp at e2; omega
      · exact h
    rw [wrap_i64 _ (by omega)]
    have hpow : 128 ^ (i + 1) = P * 128 := by rw [Nat.pow_succ, hP]
    have hsplit : m * P = m % 128 * P + m / 128 * (P * 128) := by
      conv => lhs; rw [← Nat.mod_add_div m 128]
      rw [Nat.add_mul, Nat.mul_comm P 128, ← Nat.mul_assoc, Nat.mul_comm (m / 128) 128]
    refine Gh.done ⟨q - 1, by omega, rfl, rfl, i + 1, m / 128, acc + m % 128 * P, d ++ [c], by omega, rfl, ?_, by simp [hd], ?_, ?_, fun _ => by omega⟩
    · rw [he, hc, h3]; simp
    · rw [hpow]; omega
    · have : m % 128 * P ≤ 127 * P := Nat.mul_le_mul_right _ (by omega)
      rw [hpow]; omega
  · obtain ⟨h1, h2, h3⟩ : m < 128 ∧ c = UInt8.ofNat m ∧ r = [] := by
      rcases hcs with h | ⟨h1, h2, _⟩
      · exact h
      · subst h2; simp at e2; omega
    have hcn : c.toNat = m := by subst h2; simp; omega
    have hmm2 : m % 128 = m := Nat.mod_eq_of_lt h1
    have hL : (varL n).length = i + 1 := by rw [he, hc, h3]; simp [hd]
    rw [hmm2, ← hnn, hcn]
    have fin : sh81_3 ω (.int .u64 0) (.int .i64 0) (.int .i64 0) (.int .u64 n) (.int .i64 i) (.int .u8 m) (.bool false) (fun v => Gh (K v)) I' L' := by
      unfold sh81_3
      have h9 : ((i : Int) == 9) = false := by simp; omega
      simp only [h9, SSd, Nat.reduceAdd]
      unfold sh81_2
      try simp only [SSd, Nat.reduceAdd]
      rw [wrap_i64 _ (by omega)]
      rw [hL] at hk
      exact Gh.done hk
    refine gd_split (fun e3 => ?_) (fun e3 => fin)
    have hmz : ((m : Int) == 0) = false := by
      have := hm0 (by simp at e3; omega)
      simp; omega
    simp only [hmz, SSd, Nat.reduceAdd]
    exact fin
/-! ### A key -/
theorem esc_id : ∀ {p : List UInt8}, (0 : UInt8) ∉ p → esc p = p
  | [], _ => rfl
  | c :: p, h => by
    have hc : ¬ c = 0 := fun e => h (by rw [e]; exact List.mem_cons_self ..)
    have := esc_id (p := p) fun hm => h (List.mem_cons_of_mem _ hm)
    unfold esc at this ⊢
    rw [List.flatMap_cons, if_neg hc, this]; rfl
theorem zero_split : ∀ k : List UInt8, ∃ p, (0 : UInt8) ∉ p ∧ (k = p ∨ ∃ r, k = p ++ 0 :: r)
  | [] => ⟨[], by simp, .inl rfl⟩
  | c :: k => by
    by_cases h : c = 0
    · exact ⟨[], by simp, .inr ⟨k, by rw [h]; rfl⟩⟩
    · obtain ⟨p, h1, h2⟩ := zero_split k
      refine ⟨c :: p, fun hm => ?_, ?_⟩
      · rcases List.mem_cons.1 hm with e | hm
        · exact h e.symm
        · exact h1 hm
      · rcases h2 with rfl | ⟨r, rfl⟩
        · exact .inl rfl
        · exact .inr ⟨r, rfl⟩
theorem ktF_split (k : List UInt8) : ∃ p : List UInt8, (0 : UInt8) ∉ p ∧ ((k = p ∧ ktF k = p ++ [0, 1]) ∨ ∃ r, k = p ++ 0 :: r ∧ ktF k = p ++ 0 :: 255 :: ktF r) := by
  obtain ⟨p, h1, rfl | ⟨r, rfl⟩⟩ := zero_split k
  · exact ⟨k, h1, .inl ⟨rfl, by unfold ktF; rw [esc_id h1]⟩⟩
  · refine ⟨p, h1, .inr ⟨r, rfl, ?_⟩⟩
    unfold ktF
    rw [esc_append, esc_id h1]
    show p ++ ([0, 255] ++ esc r) ++ [0, 1] = _
    simp
theorem takek_spec {v : Value} {k rest : List UInt8} (h : Bytes I v (ktF k ++ rest)) (hl : k.length ≤ 1000000) (hr : rest.length ≤ 1000000) (hk : ∀ I' v', Ext I I' → Bytes I' v' k → K (.tuple #[v', .int .i64 (ktF k).length, .int .i64 0]) I' L) : Cal Tryz.prog ω 83 #[v] K I L := by
  refine cal83 ?_
  unfold sh83
  refine loop (fun q t I' L' => I' = I ∧ ∃ (at' : Nat) (pre k1 k2 : List UInt8) (XO : LH) (u : Value), q = k2.length ∧ t = (.slice none 0 0, .int .i64 0, .int .i64 0, u, .int .i64 at', ()) ∧ L' = XO ++ L ∧ OB XO u k1 ∧ ktF k = pre ++ ktF k2 ∧ pre.length = at' ∧ k = k1 ++ k2) k.length ⟨rfl, 0, [], [], k, [], _, rfl, rfl, rfl, SlO.none _ 1, rfl, rfl, rfl⟩ ?_
  rintro q t I' L' ⟨rfl, at', pre, k1, k2, XO, u, rfl, rfl, rfl, hO, hkt, hat, hkk⟩
  have hlenk : (ktF k).length ≤ 2000002 := by
    have h2 := esc_len k
    have h3 := List.count_le_length (a := (0 : UInt8)) (l := k)
    simp only [ktF, List.length_append, List.length_cons, List.length_nil]; omega
  have hk1 : k1.length ≤ k.length := by rw [hkk]; simp
  obtain ⟨p, hp0, hcase⟩ := ktF_split k2
  obtain ⟨c, r, hk2, hcr⟩ : ∃ (c : UInt8) (r : List UInt8), ktF k2 = p ++ 0 :: c :: r ∧ ((c = 1 ∧ r = [] ∧ k2 = p) ∨ (c = 255 ∧ ∃ k3, r = ktF k3 ∧ k2 = p ++ 0 :: k3)) := by
    rcases hcase with ⟨e1, e2⟩ | ⟨k3, e1, e2⟩
    · exact ⟨1, [], e2, .inl ⟨rfl, rfl, e1⟩⟩
    · exact ⟨255, ktF k3, e2, .inr ⟨rfl, k3, rfl, e1⟩⟩
  have hall : ktF k ++ rest = (pre ++ p) ++ 0 :: c :: (r ++ rest) := by rw [hkt, hk2]; simp
  have hN : (ktF k ++ rest).length = at' + p.length + 2 + (r ++ rest).length := by rw [hall]; simp; omega
  have hN2 : (ktF k ++ rest).length ≤ 3000002 := by rw [List.length_append]; omega
  obtain ⟨vd, hsd, hbd⟩ := Bytes.drop h (n := at') (by omega)
  have hdrop : (ktF k ++ rest).drop at' = p ++ 0 :: c :: (r ++ rest) := by
    rw [hall, List.append_assoc, List.drop_left' hat]
  rw [hdrop] at hbd
  obtain ⟨vp, hsp, hbp⟩ := Bytes.part h (lo := at') (hi := at' + p.length) (by omega) (by omega)
  have hpart : ((ktF k ++ rest).drop at').take (at' + p.length - at') = p := by
    rw [hdrop, Nat.add_sub_cancel_left, List.take_left' rfl]
  rw [hpart] at hbp
  have hsp' : slcV 1 v (some (.int .i64 at')) (some (.int .i64 ((at' : Int) + p.length))) none = some vp := by rw [← hsp]; congr 3
  obtain ⟨bb, off, hix, hcell⟩ := Bytes.at (k := at' + p.length + 1) h (by omega)
  have hbyte : (ktF k ++ rest)[at' + p.length + 1]'(by omega) = c := by
    have e : ∀ (l : List UInt8) (hl : l = (pre ++ p) ++ 0 :: c :: (r ++ rest)) (hi : at' + p.length + 1 < l.length), l[at' + p.length + 1]'hi = c := by
      intro l hl hi
      subst hl
      rw [List.getElem_append_right (by simp; omega)]
      simp [hat]
    exact e _ hall _
  rw [hbyte] at hcell
  unfold sh83_1
  simp only [hsd, SSd, Nat.reduceAdd]
  refine call (indexByte_spec hbd rfl hp0 ?_)
  try simp only [SSd, Nat.reduceAdd]
  refine gd_split (fun e => ?_) (fun e => absurd e (by simp))
  have w1 : IntKind.i64.wrap ((at' : Int) + p.length) = (at' : Int) + p.length := wrap_i64 _ (by omega)
  have w2 : IntKind.i64.wrap ((at' : Int) + p.length + 1) = (at' : Int) + p.length + 1 := wrap_i64 _ (by omega)
  have w3 : IntKind.i64.wrap ((p.length : Int) + 2) = (p.length : Int) + 2 := wrap_i64 _ (by omega)
  have w4 : IntKind.i64.wrap ((at' : Int) + ((p.length : Int) + 2)) = ((at' + p.length + 2 : Nat) : Int) := by rw [wrap_i64 _ (by omega)]; omega
  have w5 : IntKind.i64.wrap (((at' + p.length + 2 : Nat) : Int) - 1) = ((at' + p.length + 1 : Nat) : Int) := by rw [wrap_i64 _ (by omega)]; omega
  have hne : ((at' : Int) + p.length + 1 == ((ktF k ++ rest).length : Int)) = false := by
    simp only [beq_eq_false_iff_ne, ne_eq, hN]; omega
  simp only [w1, w2, Bytes.len h, hne, hsp', SSd, Nat.reduceAdd]
  have hpk : p.length ≤ k2.length := by rcases hcr with ⟨_, _, e⟩ | ⟨_, k3, _, e⟩ <;> rw [e] <;> simp
  have hk2l : k2.length ≤ k.length := by rw [hkk]; simp
  refine ob_app (X6 := XO) hO (SlI.news hbp) (by omega) (fun X6 u6 h6 => ?_)
  simp only [w3, w4, w5, hix, SSd, Nat.reduceAdd]
  refine rd1 (hcell _ _ (Ext.refl _)) ?_
  try simp only [SSd, Nat.reduceAdd]
  rcases hcr with ⟨rfl, rfl, hkp⟩ | ⟨rfl, k3, hr3, hkp⟩
  · have e1 : (((1 : UInt8).toNat : Int) == 1) = true := rfl
    simp only [e1, SSd, Nat.reduceAdd]
    unfold sh83_3
    have hkl : (ktF k).length = at' + p.length + 2 := by rw [hkt, hk2]; simp; omega
    rw [← hkl]
    have hke : k1 ++ p = k := by rw [hkk, hkp]
    rw [hke] at h6
    refine cal_pre (OB.freeze h6 (fun I2 hI2 hB => Gh.done ?_))
    refine call (clipB_spec hB (fun v' hv' => ?_))
    try simp only [SSd, Nat.reduceAdd]
    exact Gh.done (hk I2 v' hI2 hv')
  · have e1 : (((255 : UInt8).toNat : Int) == 1) = false := rfl
    have e2 : (((255 : UInt8).toNat : Int) == 255) = true := rfl
    simp only [e1, SSd, Nat.reduceAdd]
    unfold sh83_4
    simp only [e2, SSd, Nat.reduceAdd]
    refine b_appG (x := 0) h6 (by simp; omega) (fun X1 X7 v7 h7 => ?_)
    refine Gh.to (X7 ++ L) (Gh.done (Gh.done ⟨k3.length, by rw [hkp]; simp; omega, rfl, at' + p.length + 2, pre ++ p ++ [0, 255], k1 ++ p ++ [0], k3, X7, v7, rfl, rfl, rfl, h7, ?_, by simp; omega, by rw [hkk, hkp]; simp⟩))
    rw [hkt, hk2, hr3]; simp
/-! ### A version -/
theorem rver_spec {v : Value} {x : TVer} (h : Bytes I v (verText x)) (hd : x.fDel = true → x.fValue = []) (hk : K (.tuple #[vv ⟨z0, x.fDel, x.fValue⟩, .bool true]) I L) : Cal Tryz.prog ω 82 #[v] K I L := by
  obtain ⟨c, hc, hv⟩ : ∃ c : UInt8, verText x = c :: x.fValue ∧ ((c = 1 ∧ x.fDel = true) ∨ (c = 0 ∧ x.fDel = false)) := by
    unfold verText
    cases hdd : x.fDel with
    | true => exact ⟨1, by rw [hd hdd]; rfl, .inl ⟨rfl, rfl⟩⟩
    | false => exact ⟨0, by simp, .inr ⟨rfl, rfl⟩⟩
  rw [hc] at h
  obtain ⟨b, off, hix, hcell⟩ := Bytes.at (k := 0) h (by simp)
  have hix' : ixV 1 v (.int .i64 0) = some (.pointer (some ⟨b, off, none⟩)) := hix
  obtain ⟨vd, hsd, hbd⟩ := Bytes.drop h (n := 1) (by simp)
  have hsd' : slcV 1 v (some (.int .i64 1)) none none = some vd := hsd
  simp only [List.drop_succ_cons, List.drop_zero] at hbd
  simp only [List.getElem_cons_zero] at hcell
  have hl : (((c :: x.fValue).length : Int) == 0) = false := by simp; omega
  refine cal82 ?_
  unfold sh82
  refine newI (fun b1 => ?_)
  simp only [Bytes.len h, hl, hix', SSd, Nat.reduceAdd]
  refine rd1 (hcell _ _ (Ext.refl _)) ?_
  rcases hv with ⟨rfl, hdd⟩ | ⟨rfl, hdd⟩
  · have hx := hd hdd
    have e1 : decide ((1 : Int) < ((1 : UInt8).toNat : Int)) = false := rfl
    have e2 : (((1 : UInt8).toNat : Int) == 1) = true := rfl
    have e3 : decide ((1 : Int) < (((1 : UInt8) :: x.fValue).length : Int)) = false := by rw [hx]; rfl
    simp only [e1, SSd, Nat.reduceAdd]
    refine rd1 (hcell _ _ (Ext.refl _)) ?_
    simp only [e2, e3, SSd, Nat.reduceAdd]
    refine drawC ?_
    refine rdCS (hcell I [] (Ext.refl _)) (Ext.refl _) ?_
    simp only [e2, hsd', SSd, Nat.reduceAdd]
    refine bs_I hbd (Ext.refl _) ?_
    try simp only [SSd, Nat.reduceAdd]
    refine stB rfl rfl (one_all rfl) ?_
    refine rdP _ rfl rfl ?_
    rw [hdd] at hk
    exact Gh.to L (Gh.done hk)
  · have e1 : decide ((1 : Int) < ((0 : UInt8).toNat : Int)) = false := rfl
    have e2 : (((0 : UInt8).toNat : Int) == 1) = false := rfl
    simp only [e1, SSd, Nat.reduceAdd]
    refine rd1 (hcell _ _ (Ext.refl _)) ?_
    simp only [e2, SSd, Nat.reduceAdd]
    refine drawC ?_
    refine rdCS (hcell I [] (Ext.refl _)) (Ext.refl _) ?_
    simp only [e2, hsd', SSd, Nat.reduceAdd]
    refine bs_I hbd (Ext.refl _) ?_
    try simp only [SSd, Nat.reduceAdd]
    refine stB rfl rfl (one_all rfl) ?_
    refine rdP _ rfl rfl ?_
    rw [hdd] at hk
    exact Gh.to L (Gh.done hk)
end
end Go.Proofs.YtmnnnoinfhiilaaGreatDoor
-- S3
set_option linter.unusedSimpArgs false
set_option linter.unusedVariables false
namespace Go.Proofs.YtmnnnoinfhiilaaGreatDoor
open Go.SL
set_option maxRecDepth 10000
section
variable {ω : Om} {I : Imm} {L : LH} {K : Value → M}
theorem loadf_spec {b : Nat} {X F : LH} {s : Sp} {nt : Nts} {v1 v2 : Value} {fl : TStamp} (hS : SpR I b X s nt) (h1 : Bytes I v1 [102]) (h2 : Bytes I v2 (stF fl)) (hr : rightB fl = true)
    (hk : ∀ X' I', Ext I I' → SpR I' b X' ⟨s.rows, fl⟩ nt → K (.bool true) I' (X' ++ F)) : Cal Tryz.prog ω 34 #[pt b, .agg #[v1, v2]] K I (X ++ F) := by
  obtain ⟨a1, c1, rfl⟩ := Bytes.form h1
  obtain ⟨a2, c2, rfl⟩ := Bytes.form h2
  obtain ⟨ps, m, ch, kv, es, clock, KX, RX, NX, hp, hF⟩ := hS
  refine Cal.perm (L' := (b, spO m kv s.floor ch) :: (((m, .map es clock) :: (KX ++ (RX ++ NX))) ++ F)) (ms_perm (by rw [ms_app, ms_eq hp]; ((try simp only [ms_cons, ms_app, ms_nil, ms_nil']); (try ac_rfl)))) ?_
  refine cal34 ?_
  unfold sh34
  refine newI (fun bx => ?_)
  try simp only [SSd, Nat.reduceAdd]
  refine rdb ?_
  refine call (hread_spec h2 hr (fun I1 hI1 => ?_))
  try simp only [SSd, Nat.reduceAdd]
  refine newI (fun ba => ?_)
  refine stB rfl rfl (one_all rfl) ?_
  refine rdP _ rfl rfl ?_
  try simp only [SSd, Nat.reduceAdd]
  refine stP _ rfl rfl rfl ?_ ?_
  · rfl
  simp only [beq_self_eq_true, SSd, Nat.reduceAdd]
  refine rdb ?_
  simp only [List.length_singleton, Int.natCast_one, beq_self_eq_true, SSd, Nat.reduceAdd]
  refine Gh.drop ((List.sublist_cons_self _ _).trans (List.sublist_cons_self _ _)) (Gh.done ?_)
  exact hk ((b, spO m kv fl ch) :: ((m, .map es clock) :: (KX ++ (RX ++ NX)))) I1 hI1 ⟨ps, m, ch, kv, es, clock, KX, RX, NX, List.Perm.refl _, ⟨hF.map, hF.keys, hF.rows, hF.nts.mono hI1⟩⟩
theorem loadi_spec {b : Nat} {X F : LH} {s : Sp} {nt : Nts} {v1 v2 : Value} {k : List UInt8} {it : Itn} (hS : SpR I b X s nt) (hok : SpOk s) (hlen : s.rows.length ≤ 100000000) (hko : keyOk k = true) (ht : txnB it.txn = true) (hv : VerOk it.ver) (h1 : Bytes I v1 (105 :: k)) (h2 : Bytes I v2 (stF it.ver.fAt ++ varL it.txn.toNat ++ verText it.ver))
    (hk : ∀ A B r X' I', Ext I I' → Slot A k B r s.rows → SpR I' b X' ⟨A ++ ⟨k, r.vs, it⟩ :: B, s.floor⟩ nt → K (.bool true) I' (X' ++ F)) : Cal Tryz.prog ω 35 #[pt b, .agg #[v1, v2]] K I (X ++ F) := by
  obtain ⟨⟨at', del, val⟩, txn⟩ := it
  have htx : 1 ≤ txn ∧ txn ≤ 9007199254740991 := by simpa [txnB] using ht
  obtain ⟨n, rfl⟩ : ∃ n : Nat, txn = n := ⟨txn.toNat, by omega⟩
  simp only [Int.toNat_natCast] at h2
  obtain ⟨vk, hsk, hbk⟩ := Bytes.drop h1 (n := 1) (by simp)
  have hsk' : slcV 1 v1 (some (.int .i64 1)) none none = some vk := hsk
  simp only [List.drop_succ_cons, List.drop_zero] at hbk
  rw [List.append_assoc] at h2
  have hvl := varL_len 8 n (by omega) (by omega)
  have htl : (verText ⟨at', del, val⟩).length ≤ 10001 := by
    have := hv.len
    unfold verText; split <;> simp at * <;> omega
  have hN : (stF at' ++ (varL n ++ verText ⟨at', del, val⟩)).length = 9 + ((varL n).length + (verText ⟨at', del, val⟩).length) := by rw [List.length_append, List.length_append, stF_len]
  obtain ⟨vs9, hs9, hb9⟩ := Bytes.take h2 (n := 9) (by omega)
  have hs9' : slcV 1 v2 none (some (.int .i64 9)) none = some vs9 := hs9
  rw [List.take_left' (stF_len at')] at hb9
  obtain ⟨vr, hsr, hbr⟩ := Bytes.drop h2 (n := 9) (by omega)
  have hsr' : slcV 1 v2 (some (.int .i64 9)) none none = some vr := hsr
  rw [List.drop_left' (stF_len at')] at hbr
  obtain ⟨vt, hst, hbt⟩ := Bytes.drop h2 (n := 9 + (varL n).length) (by omega)
  have hdt : (stF at' ++ (varL n ++ verText ⟨at', del, val⟩)).drop (9 + (varL n).length) = verText ⟨at', del, val⟩ := by
    rw [← List.append_assoc, List.drop_left' (by rw [List.length_append, stF_len])]
  rw [hdt] at hbt
  have hst' : slcV 1 v2 (some (.int .i64 (9 + ((varL n).length : Int)))) none none = some vt := by rw [← hst]; congr 3
  have hl2 : lenV v2 = some (.int .i64 ((9 + ((varL n).length + (verText ⟨at', del, val⟩).length) : Nat) : Int)) := by rw [Bytes.len h2, hN]
  obtain ⟨a1, c1, e1⟩ := Bytes.form h1
  obtain ⟨a2, c2, e2⟩ := Bytes.form h2
  have o1 : v1.oneCell' = true := by rw [e1]; rfl
  have o2 : v2.oneCell' = true := by rw [e2]; rfl
  refine cal35 ?_
  unfold sh35
  refine newI (fun bx => ?_)
  try simp only [SSd, Nat.reduceAdd]
  refine rdb ?_
  simp only [hsk', SSd, Nat.reduceAdd]
  refine call (iskey_spec hbk ?_)
  simp only [hko, Bool.not_true, SSd, Nat.reduceAdd]
  refine rdb ?_
  simp only [hl2, SSd, Nat.reduceAdd]
  refine br_split (fun e => absurd e (by simp; omega)) (fun e => ?_)
  refine rdb ?_
  simp only [hs9', SSd, Nat.reduceAdd]
  refine call (hread_spec hb9 hv.right (fun I1 hI1 => ?_))
  try simp only [SSd, Nat.reduceAdd]
  refine newI (fun ba => ?_)
  refine stB rfl rfl (one_all rfl) ?_
  try simp only [SSd, Nat.reduceAdd]
  refine rdb ?_
  simp only [hsr', SSd, Nat.reduceAdd]
  refine call (taken_spec (hbr.mono hI1) (by omega) ?_)
  have hgt : decide (9007199254740991 < (n : Int)) = false := by simp; omega
  have hz : ((n : Int) == 0) = false := by simp; omega
  have w9 : IntKind.i64.wrap (9 + ((varL n).length : Int)) = 9 + ((varL n).length : Int) := wrap_i64 _ (by omega)
  have wn : IntKind.i64.wrap (n : Int) = (n : Int) := wrap_i64 _ (by omega)
  simp only [bne_self_eq_false, hgt, hz, w9, wn, SSd, Nat.reduceAdd]
  refine rdb ?_
  simp only [hst', SSd, Nat.reduceAdd]
  refine call (rver_spec (x := ⟨at', del, val⟩) (hbt.mono hI1) hv.del ?_)
  try simp only [SSd, Nat.reduceAdd]
  refine newI (fun bv => ?_)
  refine stB rfl rfl (one_all rfl) ?_
  refine rdP _ rfl rfl ?_
  try simp only [SSd, Nat.reduceAdd]
  refine stP _ rfl rfl rfl rfl ?_
  refine draw (Stay I1 [(bv, .cells #[.int .i64 at'.fWall, .int .i64 at'.fLogic, .bool del, sstr val] 104 (0, 0)), (bx, .cells #[v1, v2] 86 (0, 0))]) ⟨Ext.refl _, fun y hy => by simp only [List.mem_cons, List.not_mem_nil, or_false] at hy ⊢; rcases hy with rfl | rfl <;> simp⟩ ?_
  try simp only [SSd, Nat.reduceAdd]
  refine rdbS ?_
  simp only [hsk', SSd, Nat.reduceAdd]
  refine bs_I (hbk.mono hI1) (Ext.refl _) ?_
  generalize hvB : ((bv, Obj.cells #[.int .i64 at'.fWall, .int .i64 at'.fLogic, .bool del, sstr val] 104 (0, 0)) : Nat × Obj) = vB
  generalize hxB : ((bx, Obj.cells #[v1, v2] 86 (0, 0)) : Nat × Obj) = xB
  generalize ((ba, Obj.cells #[.int .i64 at'.fWall, .int .i64 at'.fLogic] 30 (0, 0)) : Nat × Obj) = aB
  refine callG (Cal.perm (L' := X ++ (vB :: aB :: xB :: F)) (ms_perm (by ((try simp only [ms_cons, ms_app, ms_nil, ms_nil']); (try ac_rfl)))) ?_)
  have main : ∀ (A B : List Row) (vs : List TVer) (ps : List Nat) (p : Nat) (sl : Value) (Y R : LH) (o : Itn), VsO Y sl vs → SpX I1 b ps R A k B s.floor nt p → (∀ X', SpR I1 b X' ⟨A ++ ⟨k, vs, ⟨⟨at', del, val⟩, n⟩⟩ :: B, s.floor⟩ nt → K (.bool true) I1 (X' ++ F)) →
      (Keep (Stay I1 [vB, xB]) (fun v43 => Rv (some (Stay I1 [vB, xB])) (ldNR 4 (pt bv)) fun v44 => Pv (bldV #[.int .i64 0, .int .i64 0, .bool false, .string (ByteArray.mk #[]), .int .i64 0] #[(0, 4), (4, 1)] [(0, v44), (1, .int .i64 n)]) fun v46 =>
        Pv (nilV v43) fun v47 => Pv (fldV 1 v47) fun v48 => Sto 5 v48 v46 (gh fun _ => Gh (K (.bool true)))) (pt p)) I1 ((p, cellO sl o) :: (Y ++ (R ++ (vB :: aB :: xB :: F)))) := by
    intro A B vs ps p sl Y R o hvs hX hK
    refine keepS (Ext.refl _) (fun y hy => by
      simp only [List.mem_cons, List.not_mem_nil, or_false] at hy
      rcases hy with rfl | rfl <;> simp) ?_
    subst hvB
    refine rdPS _ rfl rfl ?_
    try simp only [SSd, Nat.reduceAdd]
    refine stP _ rfl rfl rfl rfl ?_
    have hS' := hX.close ⟨k, vs, ⟨⟨at', del, val⟩, n⟩⟩ sl Y ((p, cellO sl ⟨⟨at', del, val⟩, n⟩) :: (Y ++ R)) rfl hvs (List.Perm.refl _)
    have hK' := hK _ ⟨ps, hS'⟩
    refine Gh.perm (L' := _ :: aB :: xB :: (((p, cellO sl ⟨⟨at', del, val⟩, n⟩) :: (Y ++ R)) ++ F)) (ms_perm (by ((try simp only [ms_cons, ms_app, ms_nil, ms_nil']); (try ac_rfl)))) ?_
    exact Gh.drop (((List.sublist_cons_self _ _).trans (List.sublist_cons_self _ _)).trans (List.sublist_cons_self _ _)) (Gh.done hK')
  refine cell_spec (hS.mono hI1) hok.rise hlen (fun ps A r B p sl Y R e hkr hm hp hv' hX => ?_) (fun ps A B p X' R e hm hp hX => ?_)
  · refine Gh.perm (L' := (p, cellO sl r.it) :: (Y ++ (R ++ (vB :: aB :: xB :: F)))) (ms_perm (by rw [ms_app, ms_eq hp]; ((try simp only [ms_cons, ms_app, ms_nil, ms_nil']); (try ac_rfl)))) (Gh.done ?_)
    exact main A B r.vs ps p sl Y R r.it hv' hX (fun X' hX' => hk A B r X' I1 hI1 ⟨hm, hkr, .inl e⟩ hX')
  · refine Gh.perm (L' := (p, cellO (.slice none 0 0) noIt) :: ([] ++ (R ++ (vB :: aB :: xB :: F)))) (ms_perm (by rw [ms_app, ms_eq hp]; ((try simp only [ms_cons, ms_app, ms_nil, ms_nil']); (try ac_rfl)))) (Gh.done ?_)
    exact main A B [] ps p _ [] R noIt (SlO.none _ _) hX (fun X' hX' => hk A B ⟨k, [], noIt⟩ X' I1 hI1 ⟨hm, rfl, .inr ⟨e, rfl⟩⟩ hX')
theorem cmp85_spec {x y : TVer} (hk : K (.int .i64 (scmp x.fAt y.fAt)) I L) : Cal Tryz.prog ω 85 #[vv x, vv y] K I L := by
  refine cal85 ?_
  unfold sh85
  refine newI (fun b1 => newI (fun b2 => ?_))
  try simp only [SSd, Nat.reduceAdd]
  refine rdP _ rfl rfl ?_
  refine rdP _ rfl rfl ?_
  refine call (hcompare_spec (x := x.fAt) (y := y.fAt) ?_)
  exact Gh.to L (Gh.done hk)
theorem issorted_spec {v : Value} {vs : List TVer} {L0 : LH} [hsub : LSub L0 L] (h : RL TVerV 4 I L0 v vs) (hrise : vs.Pairwise fun a b => bhd b.fAt a.fAt = true) (hl : vs.length ≤ 100000000) (hk : K (.bool true) I L) : Cal Tryz.prog ω 84 #[v, .func (.func 85) #[] #[]] K I L := by
  refine cal84 ?_
  unfold sh84
  simp only [RL.len h, SSd, Nat.reduceAdd]
  refine loop (fun n t I' L' => I' = I ∧ L' = L ∧ ∃ i : Int, (n : Int) = i + 1 ∧ i < vs.length ∧ t = (.bool false, .int .i64 i, ())) vs.length ⟨rfl, rfl, (vs.length : Int) - 1, by omega, by omega, by rw [wrap_i64 _ (by omega)]⟩ ?_
  rintro n t I' L' ⟨rfl, rfl, i, hn, hi, rfl⟩
  unfold sh84_1
  try simp only [SSd, Nat.reduceAdd]
  refine br_split (fun e => ?_) (fun e => Gh.done hk)
  have hi0 : 0 < i := by simpa using e
  obtain ⟨b1, o1, c1, hix1, hl1, hc1, hcc1⟩ := RL.ix h (i := i) (by omega) (by omega)
  obtain ⟨b2, o2, c2, hix2, hl2, hc2, hcc2⟩ := RL.ix h (i := i - 1) (by omega) (by omega)
  have hlt : bhd (geti vs i).fAt (geti vs (i - 1)).fAt = true := by
    obtain ⟨j, rfl⟩ : ∃ j : Nat, i = (j : Int) + 1 := ⟨(i - 1).toNat, by omega⟩
    have e1 : ((j : Int) + 1 - 1) = (j : Int) := by omega
    have e2 : ((j : Int) + 1) = ((j + 1 : Nat) : Int) := by omega
    rw [e1, e2, geti_nat (by omega), geti_nat (by omega)]
    exact List.pairwise_iff_getElem.1 hrise j (j + 1) (by omega) (by omega) (by omega)
  generalize geti vs i = x at *
  generalize geti vs (i - 1) = y at *
  have hx : c1 = _ := hc1
  have hy : c2 = _ := hc2
  subst hx hy
  refine drawC ?_
  have w1 : IntKind.i64.wrap (i - 1) = i - 1 := wrap_i64 _ (by omega)
  simp only [hix1, hix2, w1, SSd, Nat.reduceAdd]
  refine rdNS hl1 (fun I2 L2 hS => hcc1 I2 L2 hS.1 (fun z hz => hS.2 z (hsub.sub z hz))) ?_
  refine rdNS hl2 (fun I2 L2 hS => hcc2 I2 L2 hS.1 (fun z hz => hS.2 z (hsub.sub z hz))) ?_
  refine calV_func (by kernel_rfl) ?_
  refine call (cmp85_spec (x := x) (y := y) ?_)
  have hc : decide (scmp x.fAt y.fAt < 0) = false := by
    have := scmp_bhd x.fAt y.fAt
    rw [hlt] at this
    simp at this ⊢; omega
  simp only [hc, w1, SSd, Nat.reduceAdd]
  exact Gh.done ⟨n - 1, by omega, rfl, rfl, i - 1, by omega, by omega, rfl⟩
theorem loadv_spec {b : Nat} {X F : LH} {s : Sp} {nt : Nts} {v1 v2 : Value} {k : List UInt8} {v : TVer} (hS : SpR I b X s nt) (hok : SpOk s) (hlen : s.rows.length ≤ 100000000) (hvs : ∀ r ∈ s.rows, r.vs.length ≤ 10000000) (hko : keyOk k = true) (hv : VerOk v) (h1 : Bytes I v1 (vkey k v)) (h2 : Bytes I v2 (verText v))
    (hrise : ∀ A B r, Slot A k B r s.rows → (r.vs ++ [v]).Pairwise fun a b => bhd b.fAt a.fAt = true)
    (hk : ∀ A B r X' I', Ext I I' → Slot A k B r s.rows → SpR I' b X' ⟨A ++ ⟨k, r.vs ++ [v], r.it⟩ :: B, s.floor⟩ nt → K (.bool true) I' (X' ++ F)) : Cal Tryz.prog ω 36 #[pt b, .agg #[v1, v2]] K I (X ++ F) := by
  obtain ⟨at', del, val⟩ := v
  have hkl := keyOk_len hko
  have hktl : (ktF k).length ≤ 250 := by
    have h2 := esc_len k
    have h3 := List.count_le_length (a := (0 : UInt8)) (l := k)
    simp only [ktF, List.length_append, List.length_cons, List.length_nil]; omega
  unfold vkey at h1
  have hN : (118 :: (ktF k ++ stF at')).length = 1 + (ktF k).length + 9 := by simp [stF_len]; omega
  obtain ⟨vk, hsk, hbk⟩ := Bytes.drop h1 (n := 1) (by simp)
  have hsk' : slcV 1 v1 (some (.int .i64 1)) none none = some vk := hsk
  simp only [List.drop_succ_cons, List.drop_zero] at hbk
  obtain ⟨vt, hst, hbt⟩ := Bytes.drop h1 (n := 1 + (ktF k).length) (by rw [hN]; omega)
  have hdt : (118 :: (ktF k ++ stF at')).drop (1 + (ktF k).length) = stF at' := by
    rw [Nat.add_comm, List.drop_succ_cons, List.drop_left' rfl]
  rw [hdt] at hbt
  have hst' : slcV 1 v1 (some (.int .i64 (1 + ((ktF k).length : Int)))) none none = some vt := by rw [← hst]; congr 3
  obtain ⟨a1, c1, e1⟩ := Bytes.form h1
  obtain ⟨a2, c2, e2⟩ := Bytes.form h2
  have o1 : v1.oneCell' = true := by rw [e1]; rfl
  have o2 : v2.oneCell' = true := by rw [e2]; rfl
  have w1 : IntKind.i64.wrap (1 + ((ktF k).length : Int)) = 1 + ((ktF k).length : Int) := wrap_i64 _ (by omega)
  refine cal36 ?_
  unfold sh36
  refine newI (fun bx => ?_)
  try simp only [SSd, Nat.reduceAdd]
  refine rdb ?_
  simp only [hsk', SSd, Nat.reduceAdd]
  refine call (takek_spec hbk (by omega) (by rw [stF_len]; omega) (fun I1 vk2 hI1 hbk2 => ?_))
  simp only [bne_self_eq_false, SSd, Nat.reduceAdd]
  refine call (iskey_spec hbk2 ?_)
  simp only [hko, Bool.not_true, SSd, Nat.reduceAdd]
  refine rdb ?_
  simp only [w1, hst', SSd, Nat.reduceAdd]
  refine call (hread_spec (hbt.mono hI1) hv.right (fun I2 hI2 => ?_))
  try simp only [SSd, Nat.reduceAdd]
  refine newI (fun ba => ?_)
  refine stB rfl rfl (one_all rfl) ?_
  try simp only [SSd, Nat.reduceAdd]
  refine rdb ?_
  refine call (rver_spec (x := ⟨at', del, val⟩) (h2.mono (hI1.trans hI2)) hv.del ?_)
  try simp only [SSd, Nat.reduceAdd]
  refine newI (fun bv => ?_)
  refine stB rfl rfl (one_all rfl) ?_
  refine rdP _ rfl rfl ?_
  try simp only [SSd, Nat.reduceAdd]
  refine stP _ rfl rfl rfl rfl ?_
  simp only [bne_self_eq_false, Bool.not_true, SSd, Nat.reduceAdd]
  refine bs_N (hbk2.mono hI2) (Ext.refl _) ?_
  generalize hvB : ((bv, Obj.cells #[.int .i64 at'.fWall, .int .i64 at'.fLogic, .bool del, sstr val] 104 (0, 0)) : Nat × Obj) = vB
  generalize ((bx, Obj.cells #[v1, v2] 86 (0, 0)) : Nat × Obj) = xB
  generalize ((ba, Obj.cells #[.int .i64 at'.fWall, .int .i64 at'.fLogic] 30 (0, 0)) : Nat × Obj) = aB
  refine callG (Cal.perm (L' := X ++ (vB :: aB :: xB :: F)) (ms_perm (by ((try simp only [ms_cons, ms_app, ms_nil, ms_nil']); (try ac_rfl)))) ?_)
  have hI12 := hI1.trans hI2
  have main : ∀ (A B : List Row) (vs : List TVer) (ps : List Nat) (p : Nat) (sl : Value) (Y R : LH) (o : Itn), VsO Y sl vs → vs.length ≤ 10000000 → (vs ++ [(⟨at', del, val⟩ : TVer)]).Pairwise (fun a b => bhd b.fAt a.fAt = true) → SpX I2 b ps R A k B s.floor nt p → (∀ X', SpR I2 b X' ⟨A ++ ⟨k, vs ++ [⟨at', del, val⟩], o⟩ :: B, s.floor⟩ nt → K (.bool true) I2 (X' ++ F)) →
      (Draw fun S => Rv (some S) (ld1R (pt p)) fun v34 => Rv (some S) (ldNR 4 (pt bv)) fun v35 => BldS 104 4 #[.int .i64 0, .int .i64 0, .bool false, .string (ByteArray.mk #[])] 1 [(0, v35)] (gh (Keep S fun v36 => App 104 4 40 #[.int .i64 0, .int .i64 0, .bool false, .string (ByteArray.mk #[])] v34 v36 (gh fun v37 =>
        Sto 1 (pt p) v37 (gh fun _ => Rv none (ld1R (pt p)) fun v42 => Cal Tryz.prog ω 84 #[v42, .func (.func 85) #[] #[]] (gh fun v43 => Gh (K v43))))))) I2 ((p, cellO sl o) :: (Y ++ (R ++ (vB :: aB :: xB :: F)))) := by
    intro A B vs ps p sl Y R o hvo hvl hpr hX hK
    obtain ⟨sa, sc, rfl⟩ := hvo.form
    subst hvB
    refine drawC ?_
    refine rdbS ?_
    refine rdPS _ rfl rfl ?_
    refine bld_one rfl (by omega) rfl (fun X1 u hX1 => ?_)
    refine keepC (Ext.refl _) ?_
    refine app_own (X := Y) (news := verC ⟨at', del, val⟩) rfl hvo (hX1.news (fun x hx => List.mem_append_left _ hx)) (one_all rfl) (by omega) (by omega) (fun Y2 sl2 hY2 => ?_)
    obtain ⟨sa3, sc3, rfl⟩ := hY2.form
    refine st1 rfl ?_
    refine rdb ?_
    have hv2 : VsO Y2 (.slice sa3 (vs.length + 1) sc3) (vs ++ [⟨at', del, val⟩]) := by
      unfold VsO
      rw [versC_append, List.length_append]
      exact hY2
    refine call (issorted_spec (L0 := Y2) (hv2.rl fun _ h => h) hpr (by simp; omega) ?_)
    have hS' := hX.close ⟨k, vs ++ [⟨at', del, val⟩], o⟩ _ Y2 ((p, cellO (.slice sa3 (vs.length + 1) sc3) o) :: (Y2 ++ R)) rfl hv2 (List.Perm.refl _)
    have hK' := hK _ ⟨ps, hS'⟩
    refine Gh.perm (L' := (X1 ++ ((bv, Obj.cells #[.int .i64 at'.fWall, .int .i64 at'.fLogic, .bool del, sstr val] 104 (0, 0)) :: aB :: xB :: [])) ++ (((p, cellO (.slice sa3 (vs.length + 1) sc3) o) :: (Y2 ++ R)) ++ F)) (ms_perm (by ((try simp only [ms_cons, ms_app, ms_nil, ms_nil']); (try ac_rfl)))) (Gh.drop (List.sublist_append_right ..) (Gh.done hK'))
  refine cell_spec (hS.mono hI12) hok.rise hlen (fun ps A r B p sl Y R e hkr hm hp hv' hX => ?_) (fun ps A B p X' R e hm hp hX => ?_)
  · refine Gh.perm (L' := (p, cellO sl r.it) :: (Y ++ (R ++ (vB :: aB :: xB :: F)))) (ms_perm (by rw [ms_app, ms_eq hp]; ((try simp only [ms_cons, ms_app, ms_nil, ms_nil']); (try ac_rfl)))) (Gh.done ?_)
    exact main A B r.vs ps p sl Y R r.it hv' (hvs r (by rw [e]; simp)) (hrise A B r ⟨hm, hkr, .inl e⟩) hX (fun X' hX' => hk A B r X' I2 hI12 ⟨hm, hkr, .inl e⟩ hX')
  · refine Gh.perm (L' := (p, cellO (.slice none 0 0) noIt) :: ([] ++ (R ++ (vB :: aB :: xB :: F)))) (ms_perm (by rw [ms_app, ms_eq hp]; ((try simp only [ms_cons, ms_app, ms_nil, ms_nil']); (try ac_rfl)))) (Gh.done ?_)
    exact main A B [] ps p _ [] R noIt (SlO.none _ _) (by simp) (hrise A B ⟨k, [], noIt⟩ ⟨hm, rfl, .inr ⟨e, rfl⟩⟩) hX (fun X' hX' => hk A B ⟨k, [], noIt⟩ X' I2 hI12 ⟨hm, rfl, .inr ⟨e, rfl⟩⟩ hX')
end
end Go.Proofs.YtmnnnoinfhiilaaGreatDoor
-- S3
set_option linter.unusedSimpArgs false
set_option linter.unusedVariables false
namespace Go.Proofs.YtmnnnoinfhiilaaGreatDoor
open Go.SL
set_option maxRecDepth 10000
section
variable {ω : Om} {I : Imm} {L : LH} {K : Value → M}
theorem Slot.len {A B : List Row} {k : List UInt8} {r r' : Row} {rows : List Row} (h : Slot A k B r rows) : (A ++ r' :: B).length ≤ rows.length + 1 := by
  obtain ⟨_, _, rfl | ⟨rfl, _⟩⟩ := h <;> simp <;> omega
theorem load_spec {v : Value} {l : List TKV} {sp : Sp} (hok : SpOk sp) (h : RL TKVV 2 I [] v l) (hl : ∀ x : TKV, x ∈ l ↔ keptR sp x.fKey x.fValue) (hsr : SrtKV l) (hlen : l.length ≤ 10000000) (hvs : ∀ k, (vsAt sp.rows k).length ≤ 10000000)
    (hk : ∀ I' b X, Ext I I' → SpR I' b X sp nt0 → K (.tuple #[pt b, .int .i64 0]) I' (X ++ L)) : Cal Tryz.prog ω 10 #[v] K I L := by
  refine cal10 ?_
  unfold sh10
  refine call (new_spec (fun b X hS => ?_))
  simp only [RL.len h, SSd, Nat.reduceAdd]
  refine loop (fun n t I' L' => ∃ (i : Nat) (s : Sp) (X : LH), n + i = l.length ∧ t = (.pointer none, .int .i64 0, .int .i64 i, ()) ∧ Ext I I' ∧ L' = X ++ L ∧ SpR I' b X s nt0 ∧ LInv sp (l.take i) s ∧ s.rows.length ≤ i) l.length ⟨0, sp0, X, rfl, rfl, Ext.refl _, rfl, hS, LInv.zero sp, Nat.le_refl _⟩ ?_
  rintro n t I' L' ⟨i, s, X, hni, rfl, hI, rfl, hS', hinv, hrl⟩
  unfold sh10_1
  try simp only [SSd, Nat.reduceAdd]
  refine br_split (fun e => ?_) (fun e => ?_)
  · have hi : i < l.length := by simpa using e
    have h' := RL.monoI (fun x c h => h.mono hI) h hI
    obtain ⟨q, off, c, hix, hcl, hc, hcc⟩ := RL.ix h' (i := (i : Int)) (by omega) (by omega)
    rw [geti_nat hi] at hc
    have hmem := List.getElem_mem hi
    have htake : l.take i ++ [l[i]] = l.take (i + 1) := (List.take_succ_eq_append_getElem hi).symm
    have hbef : ∀ y ∈ l.take i, blt y.fKey l[i].fKey = true := by
      intro y hy
      obtain ⟨j, hj, rfl⟩ := List.getElem_of_mem hy
      rw [List.getElem_take]
      rw [List.length_take] at hj
      exact List.pairwise_iff_getElem.1 hsr j i (by omega) hi (by omega)
    generalize l[i] = x at *
    have hkept := (hl x).1 hmem
    obtain ⟨w1, w2, rfl, g1, g2⟩ := hc
    have hcv := hcc I' [] (Ext.refl _) (fun _ h => h)
    obtain ⟨a1, d1, rfl⟩ := Bytes.form g1
    obtain ⟨a2, d2, rfl⟩ := Bytes.form g2
    have three : ∀ {I5 : Imm} {X5 L5 : LH} {s5 : Sp} [SubP (X5 ++ L) L5], Ext I' I5 → SpR I5 b X5 s5 nt0 → LInv sp (l.take i ++ [x]) s5 → s5.rows.length ≤ i + 1 →
        sh10_3 ω (.pointer none) (.int .i64 0) (.bool true) (.int .i64 i) (fun s' => Gh fun I2 L2 => ∃ m', m' < n ∧ ∃ (i : Nat) (s : Sp) (X : LH), m' + i = l.length ∧ s' = (.pointer none, .int .i64 0, .int .i64 i, ()) ∧ Ext I I2 ∧ L2 = X ++ L ∧ SpR I2 b X s nt0 ∧ LInv sp (l.take i) s ∧ s.rows.length ≤ i) (fun v => Gh (K v)) I5 L5 := by
      intro I5 X5 L5 s5 _ hI5 hS5 hinv5 hr5
      unfold sh10_3
      simp only [Bool.not_true, SSd, Nat.reduceAdd]
      rw [wrap_i64 _ (by omega)]
      rw [htake] at hinv5
      exact Gh.to (X5 ++ L) (Gh.done ⟨n - 1, by omega, i + 1, s5, X5, by omega, rfl, hI.trans hI5, rfl, hS5, hinv5, hr5⟩)
    simp only [hix, SSd, Nat.reduceAdd]
    refine rdNC hcv (Ext.refl _) rfl ?_
    refine newI (fun bx => ?_)
    refine stB rfl rfl (one_all rfl) ?_
    try simp only [SSd, Nat.reduceAdd]
    refine rdb ?_
    try simp only [SSd, Nat.reduceAdd]
    have hpos : 0 < x.fKey.length := by
      rcases hkept with ⟨e1, _⟩ | ⟨k, e1, _⟩ | ⟨k, w, e1, _⟩ <;> rw [e1] <;> simp [vkey]
    obtain ⟨bb, ob, hixb, hcb⟩ := Bytes.at (k := 0) g1 hpos
    have hixb' : ixV 1 (.slice a1 x.fKey.length d1) (.int .i64 0) = some (.pointer (some ⟨bb, ob, none⟩)) := hixb
    refine br_split (fun e4 => ?_) (fun e4 => by
      have h9 : decide ((0 : Int) < (x.fKey.length : Int)) = true := decide_eq_true (by omega)
      rw [h9] at e4; cases e4)
    refine rdb ?_
    simp only [hixb', SSd, Nat.reduceAdd]
    refine rd1 (hcb _ _ (Ext.refl _)) ?_
    rcases hkept with ⟨e1, e2, e3⟩ | ⟨k, e1, e2⟩ | ⟨k, w, e1, e2, e3⟩
    · have hby : x.fKey[0] = 102 := by simp [e1]
      have hx : x = ⟨[102], stF sp.floor⟩ := by cases x; simp only at e1 e3; rw [e1, e3]
      rw [hby]
      have c1 : ((((102 : UInt8).toNat : Nat) : Int) == 102) = true := rfl
      simp only [c1, SSd, Nat.reduceAdd]
      refine rdP _ rfl rfl ?_
      have hin2 := hinv.setFloor hok
      rw [← hx] at hin2
      rw [e1] at g1
      rw [e3] at g2
      simp only [e1, e3]
      refine call (Cal.perm (L' := X ++ ((bx, Obj.cells #[.slice a1 ([102] : List UInt8).length d1, .slice a2 (stF sp.floor).length d2] 86 (0, 0)) :: L)) (ms_perm (by ((try simp only [ms_cons, ms_app, ms_nil, ms_nil']); (try ac_rfl)))) (loadf_spec hS' g1 g2 hok.floor (fun X5 I5 hI5 hS5 => ?_)))
      exact three hI5 hS5 hin2 (by simp only; omega)
    · have hby : x.fKey[0] = 105 := by simp [e1]
      have h0 := itAt_txn hok e2
      obtain ⟨r0, hr0, hi0, hk0, hkk⟩ := keyOk_it hok h0
      have hro := (hok.rows r0 (rowOf_mem hr0)).it
      rw [hi0] at hro
      have hro2 := hro.resolve_left (fun e => h0 (by rw [e]; rfl))
      have e3 : x.fValue = stF (itAt sp.rows k).ver.fAt ++ varL (itAt sp.rows k).txn.toNat ++ verText (itAt sp.rows k).ver := by
        unfold itText at e2
        rw [if_neg h0] at e2
        simpa using e2.symm
      have hx : x = ⟨105 :: k, x.fValue⟩ := by cases x; simp only at e1 ⊢; rw [e1]
      rw [hby]
      have c1 : ((((105 : UInt8).toNat : Nat) : Int) == 102) = false := rfl
      have c2 : ((((105 : UInt8).toNat : Nat) : Int) == 105) = true := rfl
      simp only [c1, c2, SSd, Nat.reduceAdd]
      refine rdP _ rfl rfl ?_
      rw [e1] at g1
      have g2' := g2
      rw [e3] at g2'
      refine call (Cal.perm (L' := X ++ ((bx, Obj.cells #[.slice a1 x.fKey.length d1, .slice a2 x.fValue.length d2] 86 (0, 0)) :: L)) (ms_perm (by ((try simp only [ms_cons, ms_app, ms_nil, ms_nil']); (try ac_rfl)))) (loadi_spec hS' hinv.ok (by omega) hk0 hro2.1 hro2.2 (by rw [e1]; exact g1) (by rw [e3]; exact g2') (fun A B r X5 I5 hI5 hsl hS5 => ?_)))
      have hin2 := hinv.setIt hok hsl (t := x.fValue) e2
      rw [← hx] at hin2
      have := hsl.len (r' := ⟨k, r.vs, itAt sp.rows k⟩)
      exact three hI5 hS5 hin2 (by simp only; omega)
    · have hby : x.fKey[0] = 118 := by simp [e1, vkey]
      have hx : x = ⟨vkey k w, verText w⟩ := by cases x; simp only at e1 e3; rw [e1, e3]
      obtain ⟨r0, hr0, hkk, hrv⟩ := vsAt_row e2
      have hko : keyOk k = true := by rw [← hkk]; exact (hok.rows r0 hr0).key
      have hvo := (vsAt_rise hok k).2 w e2
      rw [hby]
      have c1 : ((((118 : UInt8).toNat : Nat) : Int) == 102) = false := rfl
      have c2 : ((((118 : UInt8).toNat : Nat) : Int) == 105) = false := rfl
      have c3 : ((((118 : UInt8).toNat : Nat) : Int) == 118) = true := rfl
      simp only [c1, c2, c3, SSd, Nat.reduceAdd]
      refine rdP _ rfl rfl ?_
      have hbef2 : ∀ y ∈ l.take i, blt y.fKey (vkey k w) = true := fun y hy => by rw [← e1]; exact hbef y hy
      have hvb : ∀ r ∈ s.rows, r.vs.length ≤ 10000000 := fun r hr => by
        have h1 := row_vsAt hinv.ok.rise hr
        rw [hinv.vs] at h1
        rw [← h1]
        exact Nat.le_trans (List.length_filter_le _ _) (hvs _)
      refine call (Cal.perm (L' := X ++ ((bx, Obj.cells #[.slice a1 x.fKey.length d1, .slice a2 x.fValue.length d2] 86 (0, 0)) :: L)) (ms_perm (by ((try simp only [ms_cons, ms_app, ms_nil, ms_nil']); (try ac_rfl)))) (loadv_spec (v := w) hS' hinv.ok (by omega) hvb hko hvo (by rw [← e1]; exact g1) (by rw [← e3]; exact g2) (fun A B r hsl => ?_) (fun A B r X5 I5 hI5 hsl hS5 => ?_)))
      · have hin2 := hinv.addV hok hsl e2 hbef2
        exact (hin2.ok.rows ⟨k, r.vs ++ [w], r.it⟩ (by simp)).rise
      · have hin2 := hinv.addV hok hsl e2 hbef2
        rw [← hx] at hin2
        have := hsl.len (r' := ⟨k, r.vs ++ [w], r.it⟩)
        exact three hI5 hS5 hin2 (by simp only; omega)
  · have hil : i = l.length := by simp at e; omega
    subst hil
    rw [List.take_length] at hinv
    have := hinv.done hok hl
    subst this
    exact Gh.done (hk I' b X hI hS')
end
end Go.Proofs.YtmnnnoinfhiilaaGreatDoor
-- S3
set_option linter.unusedSimpArgs false
set_option linter.unusedVariables false
namespace Go.Proofs.YtmnnnoinfhiilaaGreatDoor
open Go.SL
set_option maxRecDepth 10000
theorem chok {sp : Sp} {nt : Nts} {ops : List TOp} {base : List UInt8 → List UInt8 → Prop} (h : TookOk nt ops) (hN : Noted base sp nt) : ChOk ops :=
  ⟨fun y hy => ⟨(took_ok h hN y hy).1, (took_ok h hN y hy).2.1, (took_ok h hN y hy).2.2⟩, h.rise⟩
theorem noted_len {sp : Sp} {nt : Nts} {base : List UInt8 → List UInt8 → Prop} (hN : Noted base sp nt) : ∀ q, nt q ≠ none → OpLen q := fun q h => by
  rcases hN q with ⟨h1, _⟩ | ⟨h1, _⟩
  · exact h1
  · exact absurd h1 h
theorem took_none {ops : List TOp} (h : TookOk nt0 ops) : ops = [] := by
  cases ops with
  | nil => rfl
  | cons y ops => have := h.mem y (List.mem_cons_self ..); cases this
/-! ### How many keys are noted -/
def NtFin (nt : Nts) (N : Nat) : Prop := ∃ Q : List (List UInt8), Q.length ≤ N ∧ ∀ q, nt q ≠ none → q ∈ Q
theorem NtFin.upd {nt : Nts} {N : Nat} (h : NtFin nt N) (k : List UInt8) (x : Bool × List UInt8) : NtFin (updN nt k x) (N + 1) := by
  obtain ⟨Q, h1, h2⟩ := h
  refine ⟨k :: Q, by simp; omega, fun q hq => ?_⟩
  by_cases e : q = k
  · rw [e]; exact List.mem_cons_self ..
  · rw [updN_ne _ _ e] at hq; exact List.mem_cons_of_mem _ (h2 q hq)
theorem NtFin.gone {k : List UInt8} : ∀ {l : List TVer} {nt : Nts} {N : Nat}, NtFin nt N → NtFin (goneN k l nt) (N + l.length)
  | [], nt, N, h => h
  | v :: l, nt, N, h => by
    have := NtFin.gone (l := l) (k := k) (h.upd (vkey k v) (true, []))
    rw [show N + (v :: l).length = N + 1 + l.length by simp; omega]
    exact this
theorem NtFin.more {nt : Nts} {N M : Nat} (h : NtFin nt N) (hm : N ≤ M) : NtFin nt M := by
  obtain ⟨Q, h1, h2⟩ := h
  exact ⟨Q, by omega, h2⟩
theorem NtFin.col {fl : TStamp} : ∀ {rows : List Row} {nt : Nts} {N : Nat}, NtFin nt N → NtFin (noteC fl rows nt) (N + versN rows)
  | [], nt, N, h => h
  | r :: rows, nt, N, h => by
    have h1 : NtFin (noteR1 fl nt r) (N + r.vs.length) := by
      unfold noteR1
      split
      · exact h.more (by omega)
      · exact h.gone.more (by have := List.length_filter_le (oldB (by assumption)) r.vs; omega)
    have h2 := NtFin.col (fl := fl) (rows := rows) h1
    rw [show N + versN (r :: rows) = N + r.vs.length + versN rows by simp [versN]; omega]
    exact h2
theorem NtFin.step {sp : Sp} {x : TStep} {nt : Nts} {N : Nat} (h : NtFin nt N) : NtFin (stepN sp x nt) (N + 2 + versN sp.rows) := by
  unfold stepN
  split
  · unfold putN
    split
    · exact h.more (by omega)
    · exact (h.upd _ _).more (by omega)
  · split
    · unfold resN
      split
      · split
        · unfold resNr
          split
          · exact ((h.upd _ _).upd _ _).more (by omega)
          · exact (h.upd _ _).more (by omega)
        · exact h.more (by omega)
      · exact h.more (by omega)
    · split
      · unfold colN
        split
        · exact h.more (by omega)
        · split
          · exact (NtFin.col (h.upd _ _)).more (by omega)
          · exact (NtFin.col h).more (by omega)
      · exact h.more (by omega)
theorem nodup_len : ∀ {l Q : List (List UInt8)}, l.Nodup → (∀ x ∈ l, x ∈ Q) → l.length ≤ Q.length
  | [], _, _, _ => by simp
  | x :: l, Q, hn, h => by
    obtain ⟨h1, h2⟩ := List.nodup_cons.1 hn
    have hx := h x (List.mem_cons_self ..)
    have ih := nodup_len (Q := Q.erase x) h2 fun y hy => (List.mem_erase_of_ne (show y ≠ x from fun e => h1 (by rw [← e]; exact hy))).2 (h y (List.mem_cons_of_mem _ hy))
    rw [List.length_erase_of_mem hx] at ih
    have := List.length_pos_of_mem hx
    simp only [List.length_cons]; omega
theorem took_len {nt : Nts} {ops : List TOp} {N : Nat} (h : TookOk nt ops) (hN : NtFin nt N) : ops.length ≤ N := by
  obtain ⟨Q, h1, h2⟩ := hN
  have := nodup_len (l := ops.map (·.fKey)) (Q := Q) (List.pairwise_map.2 (h.rise.imp fun hb => blt_ne hb)) (fun q hq => by
    obtain ⟨y, hy, rfl⟩ := List.mem_map.1 hq
    exact h2 _ (by rw [h.mem y hy]; simp))
  rw [List.length_map] at this
  omega
theorem noted0 : Noted (fun q t => (⟨q, t⟩ : TKV) ∈ ([] : List TKV)) sp0 nt0 := fun q => .inr ⟨rfl, fun t => ⟨fun hq => (by
  rcases hq with ⟨_, h2, _⟩ | ⟨k, _, h2⟩ | ⟨k, w, _, h2, _⟩
  · exact absurd rfl h2
  · cases h2
  · cases h2), fun hq => (by cases hq)⟩⟩
def TakeSpec : Prop := ∀ (ω : Om) (I : Imm) (K : Value → M) (b : Nat) (X F : LH) (sp : Sp) (nt : Nts), SpR I b X sp nt → (∀ q, nt q ≠ none → OpLen q) → NtFin nt 1000000 →
  (∀ X' I' v ops, Ext I I' → SpR I' b X' sp nt0 → TookOk nt ops → RL TOpV 3 I' [] v ops → K v I' (X' ++ F)) → Cal Tryz.prog ω 8 #[pt b] K I (X ++ F)
section
variable {ω : Om} {I : Imm} {L : LH} {K : Value → M}
theorem loads_law (hTake : TakeSpec) {v : Value} {a : Int} {ss : List TStep} (h : RL TStepV 13 I [] v ss) (hl : ss.length ≤ 9000000000000000000) (hk : ∀ I' L', Ext I I' → K (.bool true) I' L') : Cal Tryz.prog ω 3 #[v, .int .i64 a] K I L := by
  refine cal3 ?_
  unfold sh3
  refine call (awake_spec (fun I1 hI1 => ?_))
  refine call (new_spec (fun b X hS => ?_))
  simp only [Bool.not_true, SSd, Nat.reduceAdd]
  refine newI (fun br => ?_)
  refine loop (fun n t I' L' => ∃ (i b : Nat) (vl : Value) (sp : Sp) (nt : Nts) (l : List TKV), n + i = ss.length ∧ t = (.bool false, pt b, vl, .int .i64 i, ()) ∧ Ext I I' ∧ Both I' b br L' sp nt L ∧ SpOk sp ∧ i ≤ 150 ∧ sp.rows.length ≤ i ∧ versN sp.rows ≤ i ∧ RL TKVV 2 I' [] vl l ∧ SrtKV l ∧ l.length ≤ 40000 * i ∧ Noted (fun q t => (⟨q, t⟩ : TKV) ∈ l) sp nt ∧ NtFin nt (200 * i)) ss.length
    ⟨0, b, _, sp0, nt0, [], rfl, rfl, hI1, both_new hS, sp0_ok, by omega, Nat.le_refl _, Nat.le_refl _, RL.nil none 0, List.Pairwise.nil, Nat.le_refl _, noted0, ⟨[], Nat.le_refl _, fun q hq => absurd rfl hq⟩⟩ ?_
  rintro n t I' L' ⟨i, b, vl, sp, nt, l, hni, rfl, hI, hB, hok, hi3, hr, hv, hvl, hsl, hll, hN, hF⟩
  unfold sh3_2
  simp only [RL.len h, SSd, Nat.reduceAdd]
  refine gd_split (fun e => ?_) (fun e => Gh.done (hk I' L' hI))
  have hi : i < ss.length := by simpa using e
  try simp only [SSd, Nat.reduceAdd]
  refine br_split (fun e2 => ?_) (fun e2 => Gh.done (hk I' L' hI))
  have hi2 : i < 150 := by simp at e2; omega
  obtain ⟨q, off, c, hix, hcl, hc, hcc⟩ := RL.ix h (i := (i : Int)) (by omega) (by omega)
  simp only [hix, SSd, Nat.reduceAdd]
  refine rdNC (hcc I' [] hI (fun _ h => h)) (Ext.refl _) hcl ?_
  obtain ⟨s1, s2⟩ := step_len hok (geti ss (i : Int))
  have hN2 := hN.step (step_noted hok (geti ss (i : Int)) nt)
  have hF2 := (hF.step (sp := sp) (x := geti ss (i : Int))).more (show 200 * i + 2 + versN sp.rows ≤ 200 * (i + 1) by omega)
  refine call (play_spec hB hok (by omega) (by omega) (hc.mono hI) (fun I2 L2 hI2 hB2 => ?_))
  simp only [Bool.not_true, SSd, Nat.reduceAdd]
  have hok2 := hok.step (geti ss (i : Int))
  generalize stepS sp (geti ss (i : Int)) = sp2 at *
  generalize stepN sp (geti ss (i : Int)) nt = nt2 at *
  have five : ∀ {I5 : Imm} {L5 L6 XD : LH} {b5 : Nat} {vl5 : Value} {nt5 : Nts} {l5 : List TKV}, L6.Perm (XD ++ L5) → Ext I I5 → Both I5 b5 br L5 sp2 nt5 L → RL TKVV 2 I5 [] vl5 l5 → SrtKV l5 → l5.length ≤ 40000 * (i + 1) → Noted (fun q t => (⟨q, t⟩ : TKV) ∈ l5) sp2 nt5 → NtFin nt5 (200 * (i + 1)) →
      sh3_5 ω (.bool false) (pt b5) vl5 (.int .i64 i) (fun s' => Gh fun I2 L2 => ∃ m', m' < n ∧ ∃ (i b : Nat) (vl : Value) (sp : Sp) (nt : Nts) (l : List TKV), m' + i = ss.length ∧ s' = (.bool false, pt b, vl, .int .i64 i, ()) ∧ Ext I I2 ∧ Both I2 b br L2 sp nt L ∧ SpOk sp ∧ i ≤ 150 ∧ sp.rows.length ≤ i ∧ versN sp.rows ≤ i ∧ RL TKVV 2 I2 [] vl l ∧ SrtKV l ∧ l.length ≤ 40000 * i ∧ Noted (fun q t => (⟨q, t⟩ : TKV) ∈ l) sp nt ∧ NtFin nt (200 * i)) (fun v => Gh (K v)) I5 L6 := by
    intro I5 L5 L6 XD b5 vl5 nt5 l5 hp6 hI5 hB5 hv5 hs5 hl5 hN5 hF5
    unfold sh3_5
    try simp only [SSd, Nat.reduceAdd]
    rw [wrap_i64 _ (by omega)]
    exact Gh.perm hp6 (Gh.drop (List.sublist_append_right ..) (Gh.done ⟨n - 1, by omega, i + 1, b5, vl5, sp2, nt5, l5, by omega, rfl, hI5, hB5, hok2, by omega, by omega, by omega, hv5, hs5, hl5, hN5, hF5⟩))
  have hvl2 := RL.monoI (fun x c h => h.mono hI2) hvl hI2
  have stay := five (XD := []) (List.Perm.refl _) (hI.trans hI2) hB2 hvl2 hsl (by omega) hN2 hF2
  refine gd_split (fun e3 => ?_) (fun e3 => stay)
  have ha : ¬ a < 1 := by simpa using e3
  have hrem : binIV .rem (.int .i64 (i : Int)) (.int .i64 a) = some (.int .i64 ((i : Int).tmod a)) := by
    show (if IntKind.i64 = IntKind.i64 then (if a = 0 then none else some (Value.int .i64 ((i : Int).tmod a))) else none) = _
    rw [if_pos rfl, if_neg (by omega)]
  simp only [hrem, SSd, Nat.reduceAdd]
  refine br_split (fun e4 => stay) (fun e4 => ?_)
  obtain ⟨X2, vV, vI, hp2, hS2, hV2, hII2⟩ := hB2
  refine callG (Cal.perm hp2 (hTake _ _ _ _ _ _ _ _ hS2 (noted_len hN2) (hF2.more (by omega)) (fun X3 I3 v3 ops hI3 hS3 hto hops => ?_)))
  have hol := took_len hto hF2
  have hcl := chgs_len l ops
  have hkept := took_kept hok2 hto hN2
  refine Gh.done (call (changed13_spec (RL.monoI (fun x c h => h.mono hI3) hvl2 hI3) hops (chok hto hN2) (by omega) (by omega) (fun I4 v4 hI4 hv4 => ?_)))
  try simp only [SSd, Nat.reduceAdd]
  refine callG (hTake _ _ _ _ _ _ _ _ (hS3.mono hI4) (fun q hq => absurd rfl hq) ⟨[], by simp, fun q hq => absurd rfl hq⟩ (fun X5 I5 v5 ops5 hI5 hS5 hto5 hops5 => Gh.done ?_))
  have h5 := took_none hto5
  subst h5
  simp only [RL.len hops5, Bool.not_true, SSd, Nat.reduceAdd]
  refine br_split (fun e5 => by simp at e5) (fun e5 => ?_)
  refine call (load_spec hok2 (RL.monoI (fun x c h => h.mono hI5) hv4 hI5) hkept (srt_chgs hsl ops) (by omega) (fun k => ?_) (fun I6 b6 X6 hI6 hS6 => ?_))
  · unfold vsAt; cases er : rowOf sp2.rows k with
    | none => simp
    | some r => have := vs_le s2 r (rowOf_mem er); simp only; omega
  have hI36 := hI3.trans (hI4.trans (hI5.trans hI6))
  have hB6 : Both I6 b6 br (X6 ++ (X5 ++ ((br, refO vV vI sp2.floor) :: L))) sp2 nt0 (X5 ++ L) := ⟨X6, vV, vI, ms_perm (by ((try simp only [ms_cons, ms_app, ms_nil, ms_nil']); (try ac_rfl))), hS6, RL.monoI (fun x c h => h.mono hI36) hV2 hI36, RL.monoI (fun x c h => h.mono hI36) hII2 hI36⟩
  simp only [bne_self_eq_false, SSd, Nat.reduceAdd]
  refine call (same_spec hB6 hok2 (by omega) (by omega) (fun I7 hI7 => ?_))
  simp only [Bool.not_true, SSd, Nat.reduceAdd]
  have hB7 : Both I7 b6 br (X6 ++ ((br, refO vV vI sp2.floor) :: L)) sp2 nt0 L := ⟨X6, vV, vI, List.Perm.refl _, hS6.mono hI7, RL.monoI (fun x c h => h.mono (hI36.trans hI7)) hV2 (hI36.trans hI7), RL.monoI (fun x c h => h.mono (hI36.trans hI7)) hII2 (hI36.trans hI7)⟩
  exact five (XD := X5) (ms_perm (by ((try simp only [ms_cons, ms_app, ms_nil, ms_nil']); (try ac_rfl)))) (hI.trans (hI2.trans (hI36.trans hI7))) hB7 (RL.monoI (fun x c h => h.mono (hI5.trans (hI6.trans hI7))) hv4 (hI5.trans (hI6.trans hI7))) (srt_chgs hsl ops) (by omega) (Noted.fresh hkept) ⟨[], by simp, fun q hq => absurd rfl hq⟩
end
theorem tr_stepsL {W : World} {v : Value} (h : TrR reachBytes Tryz.prog W 22 [v]) : ∃ ss : List TStep, RL TStepV 13 (heapI W) [] v ss ∧ ss.length ≤ 900000000000 := by
  obtain ⟨ss, h1, _, h2⟩ := tr_steps13 h
  exact ⟨ss, h1, h2⟩
theorem loads_walk (hTake : TakeSpec) {W : World} {base : Nat} {v0 v1 : Value} (o0 : Value.okWide Tryz.prog W .any base 22 v0) (t0 : Tr Tryz.prog W 22 v0.cells.toList)
    (o1 : Value.okWide Tryz.prog W .any base 3 v1) (t1 : Tr Tryz.prog W 3 v1.cells.toList) (ω : Om) :
    Cal Tryz.prog ω 3 #[v0, v1] (fun v I' _ => v = .bool true ∧ Ext (heapI W) I') (heapI W) [] := by
  obtain ⟨a, rfl, _⟩ := top_int Tryz.underlying3 o1 t1
  obtain ⟨ss, h1, h2⟩ := tr_stepsL (top_slice Tryz.underlying22 o0 t0)
  exact loads_law hTake h1 (by omega) (fun I' _ hI => ⟨rfl, hI⟩)
end Go.Proofs.YtmnnnoinfhiilaaGreatDoor
set_option linter.unusedSimpArgs false
set_option linter.unusedVariables false
set_option linter.unusedSectionVars false
namespace Go.SL
open Go.Proofs
theorem Cal.le {P : Program} {ω : Om} {g : Nat} {args : Array Value} {I : Imm} {L : LH} {w : World} {Q : Value → Prop} (hs : St ω w I L) (hI : ∀ b o, w.heap[b]? = some o → I b = some o) (hd : ω.dr = w.drawn)
    (h : Cal P ω g args (fun v I2 _ => Q v ∧ Ext I I2) I L) : Calls P g args w fun e w' => (∃ v, e = .returned v ∧ Q v) ∧ ∃ q os', w' = Sort.grow (w.drewN q) os' := by
  refine (h w hs).mono ?_
  rintro e w' ⟨v, I', L', rfl, hs', hv, hI'⟩
  refine ⟨⟨v, rfl, hv⟩, w'.drawn - w.drawn, w'.heap.extract w.heap.size w'.heap.size, ?_⟩
  have hdr := hs'.dr
  rw [hd] at hdr
  have hblk : ∀ k, k < w.heap.size → w'.heap[k]? = w.heap[k]? := by
    intro k hk
    have h1 : w.heap[k]? = some w.heap[k] := Array.getElem?_eq_getElem hk
    rw [h1]
    exact hs'.imm k _ (hI' k _ (hI k _ h1))
  have hsz : w.heap.size ≤ w'.heap.size := by
    rcases Nat.eq_zero_or_pos w.heap.size with h0 | h0
    · omega
    · have := hblk (w.heap.size - 1) (by omega)
      rw [Array.getElem?_eq_getElem (by omega : w.heap.size - 1 < w.heap.size)] at this
      have := (Array.getElem?_eq_some_iff.1 this).1
      omega
  have h1 : w'.heap = w.heap ++ w'.heap.extract w.heap.size w'.heap.size := by
    apply Array.ext_getElem?
    intro i
    by_cases hi : i < w.heap.size
    · rw [Array.getElem?_append_left hi, hblk i hi]
    · rw [Array.getElem?_append_right (by omega), Array.getElem?_extract]
      by_cases h2 : i < w'.heap.size
      · rw [if_pos (by omega)]; congr 1; omega
      · rw [if_neg (by omega)]; exact Array.getElem?_eq_none (by omega)
  obtain ⟨hp, tp, dr, os, ou⟩ := w'
  have e1 := hs'.tape; have e2 := hs'.os; have e3 := hs'.out
  have f1 := hs.tape; have f2 := hs.os; have f3 := hs.out
  simp only at *
  unfold Sort.grow World.drewN
  simp only [World.mk.injEq]
  refine ⟨h1, by rw [e1, f1], by omega, by rw [e2, f2], by rw [e3, f3]⟩
theorem cmpLays_of {P : Program} {g : Nat} {α : Type} [Inhabited α] {enc : α → List Value} {k : Nat} {cf : α → α → Int} {blk off size : Nat} {w : World} {I : Imm}
    (hI : ∀ b o, I b = some o → w.heap[b]? = some o ∧ b ≠ blk)
    (hC : ∀ (ω : Om) (I' : Imm) (x y : α), Ext I I' → Cal P ω g #[.agg (enc x).toArray, .agg (enc y).toArray] (fun v I2 _ => v = .int .i64 (cf x y) ∧ Ext I' I2) I' []) : CmpLays P g #[] enc k cf blk off size w := by
  intro m os dk hs x y
  have hx : Ext I (heapI (sortWorldK enc k w blk off m dk os)) := by
    intro b o hb
    obtain ⟨h1, h2⟩ := hI b o hb
    have hlt := (Array.getElem?_eq_some_iff.1 h1).1
    show ((Sort.mapBlock (Sort.ahead w m) blk (Sort.putCells id off (Sort.flatK enc k dk))).heap ++ os)[b]? = some o
    rw [Array.getElem?_append_left (by simp [Sort.mapBlock, Sort.ahead]; exact hlt)]
    simp only [Sort.mapBlock, Sort.ahead, Array.getElem?_modify]
    rw [if_neg (Ne.symm h2)]
    exact h1
  have h := hC (omOf (sortWorldK enc k w blk off m dk os)) _ x y hx
  have h2 := Cal.le (Q := fun v => v = .int .i64 (cf x y)) (st_start _) (fun _ _ h => h) rfl h
  simp only [Array.append_empty]
  refine h2.mono ?_
  rintro e w' ⟨⟨v, rfl, rfl⟩, h3⟩
  exact ⟨rfl, h3⟩
theorem St.row {ω : Om} {w w' : World} {I : Imm} {F : LH} {b : Nat} {o o' : Obj} (h : St ω w I ((b, o) :: F)) (hk : ∀ j, j < w.heap.size → j ≠ b → w'.heap[j]? = w.heap[j]?) (hb : w'.heap[b]? = some o')
    (h1 : w'.tape = w.tape) (h2 : w'.os = w.os) (h3 : w'.output = w.output) (h4 : w.drawn ≤ w'.drawn) : St ω w' I ((b, o') :: F) := by
  have hnd := h.nodup
  simp only [List.map_cons, List.nodup_cons] at hnd
  refine ⟨fun j u hj => ?_, fun j u hj => ?_, by simpa using hnd, fun j u hj => ?_, h1.trans h.tape, h2.trans h.os, h3.trans h.out, Nat.le_trans h.dr h4⟩
  · rw [hk j (h.ltI hj) (fun e => by subst e; have := h.apart j o (List.mem_cons_self ..); rw [this] at hj; cases hj)]
    exact h.imm j u hj
  · rcases List.mem_cons.1 hj with e | hj
    · simp only [Prod.mk.injEq] at e; obtain ⟨rfl, rfl⟩ := e; exact hb
    · have hj0 := hj
      have hj' : (j, u) ∈ (b, o) :: F := List.mem_cons_of_mem _ hj
      rw [hk j (h.lt hj') (fun e => by subst e; exact hnd.1 (List.mem_map.2 ⟨(j, u), hj0, rfl⟩))]
      exact h.own j u hj'
  · rcases List.mem_cons.1 hj with e | hj
    · simp only [Prod.mk.injEq] at e; obtain ⟨rfl, rfl⟩ := e; exact h.apart j o (List.mem_cons_self ..)
    · exact h.apart j u (List.mem_cons_of_mem _ hj)
/-! ### a row of records -/
structure Rd1 {β : Type} (R : Imm → β → List Value → Prop) (I : Imm) (k : Nat) where
  val : β
  enc : List Value
  rd : R I val enc
  len : enc.length = k
  one : ∀ u ∈ enc, u.oneCell' = true
section
variable {β : Type} {R : Imm → β → List Value → Prop} {I : Imm} {k : Nat}
theorem recs_rd (hlen : ∀ x c, R I x c → c.length = k) (h1 : ∀ x c, R I x c → ∀ u ∈ c, u.oneCell' = true) : ∀ {xs : List β} {cells : List Value}, Recs (R I) k xs cells → ∃ ps : List (Rd1 R I k), ps.map Rd1.val = xs ∧ (ps.map Rd1.enc).flatten = cells
  | [], cells, h => ⟨[], rfl, by rw [show cells = [] from h]; rfl⟩
  | x :: xs, cells, ⟨ha, hb, hc⟩ => by
    obtain ⟨ps, e1, e2⟩ := recs_rd hlen h1 hc
    exact ⟨⟨x, cells.take k, hb, hlen _ _ hb, h1 _ _ hb⟩ :: ps, by rw [List.map_cons, e1], by rw [List.map_cons, List.flatten_cons, e2]; exact List.take_append_drop k cells⟩
theorem rd_recs : ∀ (ps : List (Rd1 R I k)), Recs (R I) k (ps.map Rd1.val) (ps.map Rd1.enc).flatten
  | [] => rfl
  | p :: ps => by
    have hl : (Rd1.enc p).length = k := p.len
    refine ⟨?_, ?_, ?_⟩
    · simp only [List.map_cons, List.flatten_cons]
      rw [List.take_append_of_le_length (by omega), List.take_of_length_le (by omega)]; exact hl
    · simp only [List.map_cons, List.flatten_cons]
      rw [List.take_append_of_le_length (by omega), List.take_of_length_le (by omega)]; exact p.rd
    · simp only [List.map_cons, List.flatten_cons]
      rw [List.drop_append_of_le_length (by omega), List.drop_of_length_le (by omega), List.nil_append]
      exact rd_recs ps
theorem flat_get {α : Type} {enc : α → List Value} (hk : ∀ x, (enc x).length = k) : ∀ (ps : List α) (t : Nat), t < ps.length * k → ∀ p, ps[t / k]? = some p → (ps.map enc).flatten[t]? = (enc p)[t % k]?
  | [], t, h, p, hp => by simp at h
  | q :: ps, t, h, p, hp => by
    have k0 : 0 < k := by rcases Nat.eq_zero_or_pos k with e | e
                          · subst e; simp at h
                          · exact e
    simp only [List.map_cons, List.flatten_cons]
    by_cases ht : t < k
    · rw [Nat.div_eq_of_lt ht] at hp
      simp only [List.getElem?_cons_zero, Option.some.injEq] at hp
      subst hp
      rw [List.getElem?_append_left (by rw [hk]; exact ht), Nat.mod_eq_of_lt ht]
    · have e : t / k = (t - k) / k + 1 := by
        have h2 := Nat.add_div_right (t - k) k0
        rwa [show t - k + k = t by omega] at h2
      rw [e] at hp
      simp only [List.getElem?_cons_succ] at hp
      rw [List.getElem?_append_right (by rw [hk]; omega), hk, flat_get hk ps (t - k) (by simp only [List.length_cons, Nat.add_mul, Nat.one_mul] at h; omega) p hp]
      congr 1
      have h2 := Nat.add_mod_right (t - k) k
      rw [show t - k + k = t by omega] at h2
      exact h2.symm
theorem flat_at {α : Type} [Inhabited α] {enc : α → List Value} (hk : ∀ x, (enc x).length = k) (d : Array α) (t : Nat) (h : t < d.size * k) : (d.toList.map enc).flatten[t]? = some (Sort.flatK enc k d)[t]! := by
  have k0 : 0 < k := by rcases Nat.eq_zero_or_pos k with e | e
                        · subst e; simp at h
                        · exact e
  have hd : t / k < d.size := by rw [Nat.div_lt_iff_lt_mul k0]; exact h
  have hm : t % k < k := Nat.mod_lt _ k0
  rw [Sort.get_flatK enc k d t h, flat_get hk d.toList t (by simpa using h) d[t / k]! (by rw [Array.getElem?_toList, getElem!_pos d _ hd]; exact Array.getElem?_eq_getElem hd)]
  rw [List.getElem?_eq_getElem (by rw [hk]; exact hm), getElem!_pos (enc d[t / k]!) (t % k) (by rw [hk]; exact hm)]
end
theorem sortF_cal {P : Program} {ρ : Go.Shelf.Ren} (Lay : Go.Proofs.SlLaysF0.n6 P ρ) {k : Nat} (aE : ∀ w, (isAgg (ρ.t 24)).run P w = .ok true w) (zE : ∀ w, (Go.sizeOf (ρ.t 24)).run P w = .ok k w)
    {β : Type} {R : Imm → β → List Value → Prop} (hlen : ∀ I x c, R I x c → c.length = k) (h1 : ∀ I x c, R I x c → ∀ u ∈ c, u.oneCell' = true)
    {cf : β → β → Int} (hirr : ∀ x, ¬ cf x x < 0) (htr : ∀ x y z, cf x y < 0 → cf y z < 0 → cf x z < 0) (hntr : ∀ x y z, ¬ cf x y < 0 → ¬ cf y z < 0 → ¬ cf x z < 0)
    {g : Nat} (eg : ∀ args w, (callFunc g args).run P w = .ok (.enter g args) w) {I : Imm}
    (hC : ∀ (ω : Om) (I' : Imm) (x y : β) (c d : List Value), Ext I I' → R I x c → R I y d → Cal P ω g #[.agg c.toArray, .agg d.toArray] (fun v I2 _ => v = .int .i64 (cf x y) ∧ Ext I' I2) I' [])
    {ω : Om} {T : Nat} {X F : LH} {v : Value} {xs : List β} {cells : List Value} (hO : SlO T k X v cells xs.length) (hr : Recs (R I) k xs cells) (hsz : xs.length < 4611686018427387904) {K : Value → M}
    (hk : ∀ X' ys cells', ys.Perm xs → ys.Pairwise (fun a b => ¬ cf b a < 0) → SlO T k X' v cells' xs.length → Recs (R I) k ys cells' → K (.tuple #[]) I (X' ++ F)) :
    Cal P ω (ρ.f 6) #[v, .func (.func g) #[] #[]] K I (X ++ F) := by
  intro w hs
  have none : xs.length = 0 → ∀ a c, v = .slice a 0 c → Calls P (ρ.f 6) #[v, .func (.func g) #[] #[]] w (Ret ω K) := by
    intro h0 a c hv
    rw [hv]
    refine (Go.Proofs.AnyF.slices_SortFunc_none Lay a _ _ w).mono ?_
    rintro e w' ⟨rfl, rfl⟩
    exact ⟨_, I, X ++ F, rfl, hs, hk X xs cells (List.Perm.refl _) (by rw [List.eq_nil_of_length_eq_zero h0]; exact List.Pairwise.nil) hO hr⟩
  obtain ⟨hcl, ho⟩ := hO
  rcases ho with ⟨rfl, h0, a, rfl⟩ | ⟨b, cap, cs, rfl, rfl, hcs, hle, hc⟩
  · exact none h0 a 0 rfl
  by_cases h0 : xs.length = 0
  · exact none h0 (some ⟨b, 0, Option.none⟩) cap (by rw [h0])
  obtain ⟨ps, rfl, rfl⟩ := recs_rd (hlen I) (h1 I) hr
  obtain ⟨p0, hp0⟩ : ∃ p, p ∈ ps := by
    cases ps with
    | nil => exact absurd rfl h0
    | cons p _ => exact ⟨p, List.mem_cons_self ..⟩
  haveI : Inhabited (Rd1 R I k) := ⟨p0⟩
  have hb : w.heap[b]? = some (.cells cs T (0, 0)) := hs.own b _ (List.mem_cons_self ..)
  have hH : Sort.HoldsK Rd1.enc k w b 0 ps.toArray := by
    intro j hj
    rw [Sort.size_flatK] at hj
    refine ⟨?_, by simp [World.frozen?, hb]⟩
    have h2 := flat_at (enc := Rd1.enc) (fun x : Rd1 R I k => x.len) ps.toArray j hj
    have h3 := hc j _ h2
    simp only [World.cell?, hb, Nat.zero_add, Option.isSome_none, Bool.false_eq_true, if_false]
    exact h3
  have hSWO : Sort.SWO (Go.Proofs.ltOf fun x y : Rd1 R I k => cf x.val y.val) :=
    ⟨fun x => by simp [ltOf, hirr], fun x y z a b => by simp only [ltOf, decide_eq_true_eq] at *; exact htr _ _ _ a b, fun x y z a b => by simp only [ltOf, decide_eq_false_iff_not] at *; exact hntr _ _ _ a b⟩
  have hlay : CmpLays P g #[] Rd1.enc k (fun x y : Rd1 R I k => cf x.val y.val) b 0 ps.toArray.size w :=
    cmpLays_of (I := I) (fun j o hj => ⟨hs.imm j o hj, fun e => by subst e; have := hs.apart j _ (List.mem_cons_self ..); rw [this] at hj; cases hj⟩)
      (fun ω' I' x y hI' => hC ω' I' x.val y.val x.enc y.enc hI' x.rd y.rd)
  have hcon := Go.Proofs.AnyQ.slices_SortFunc Lay k aE zE Rd1.enc (fun x : Rd1 R I k => x.len) (fun x => x.one) (fun x y => cf x.val y.val) hSWO g #[] b 0 cap ps.toArray w eg hlay hH (Array.getElem?_eq_some_iff.1 hb).1 (by simpa using hsz)
  have hl2 : (ps.map Rd1.val).length = ps.toArray.size := by simp
  rw [hl2]
  refine hcon.mono ?_
  rintro e w' ⟨rfl, d', n, os, ⟨hp1, _, hp2⟩, hsrt, rfl⟩
  have hsz' : d'.size = ps.length := by simpa using hp1
  have hlt := (Array.getElem?_eq_some_iff.1 hb).1
  have hst : St ω (sortWorldK Rd1.enc k w b 0 n d' os) I ((b, .cells (Sort.putCells id 0 (Sort.flatK Rd1.enc k d') cs) T (0, 0)) :: F) := by
    refine St.row (o := .cells cs T (0, 0)) hs (fun j hj hne => ?_) ?_ rfl rfl rfl (Nat.le_add_right _ _)
    · show ((Sort.mapBlock (Sort.ahead w n) b (Sort.putCells id 0 (Sort.flatK Rd1.enc k d'))).heap ++ os)[j]? = _
      rw [Array.getElem?_append_left (by simp [Sort.mapBlock, Sort.ahead]; exact hj)]
      simp only [Sort.mapBlock, Sort.ahead, Array.getElem?_modify]
      rw [if_neg (Ne.symm hne)]
    · show ((Sort.mapBlock (Sort.ahead w n) b (Sort.putCells id 0 (Sort.flatK Rd1.enc k d'))).heap ++ os)[b]? = _
      rw [Array.getElem?_append_left (by simp [Sort.mapBlock, Sort.ahead]; exact hlt)]
      simp only [Sort.mapBlock, Sort.ahead, Array.getElem?_modify, if_true, hb, Option.map_some]
      rfl
  have hperm : d'.toList.Perm ps := by
    have e1 : (d'.extract 0 ps.toArray.size).toList = d'.toList := by rw [show ps.toArray.size = d'.size by rw [hsz']; simp]; simp
    have e2 : (ps.toArray.extract 0 ps.toArray.size).toList = ps := by simp
    rw [e1, e2] at hp2
    exact hp2
  refine ⟨_, I, _, rfl, hst, hk [(b, _)] (d'.toList.map Rd1.val) (d'.toList.map Rd1.enc).flatten (hperm.map _) ?_ ?_ (rd_recs _)⟩
  · rw [List.pairwise_map, List.pairwise_iff_getElem]
    intro i j hi hj hij
    have hi' : i < d'.size := by simpa using hi
    have hj' : j < d'.size := by simpa using hj
    have := hsrt i j (Nat.zero_le _) hij (by simp [hsz'] at hj' ⊢; omega)
    rw [getElem!_pos d' i hi', getElem!_pos d' j hj'] at this
    simp only [ltOf, decide_eq_false_iff_not] at this
    simpa using this
  · refine ⟨?_, .inr ⟨b, cap, _, rfl, by rw [hl2], ?_, hle, ?_⟩⟩
    · have := (rd_recs d'.toList).length
      rw [this]; simp [hsz']
    · simp [Sort.putCells, hcs]
    · intro j u hu
      have hj : j < d'.size * k := by
        have h2 := (List.getElem?_eq_some_iff.1 hu).1
        have h3 := (rd_recs d'.toList).length
        rw [h3] at h2
        simpa using h2
      rw [flat_at (fun x : Rd1 R I k => x.len) d' j hj] at hu
      have hlt2 : j < cs.size := by
        rw [hcs]
        have : ps.length * k ≤ cap * k := Nat.mul_le_mul_right k (by simpa using hle)
        rw [hsz'] at hj; omega
      simp only [Sort.putCells, Array.getElem?_mapIdx, Array.getElem?_eq_getElem hlt2, Option.map_some, Nat.zero_le, true_and, Nat.zero_add, Sort.size_flatK, hj, if_true, Nat.sub_zero, id]
      exact hu
end Go.SL
namespace Go.Proofs
open Go.Shelf
def Tryz.lay31_ren : Go.Shelf.Ren := ⟨fun | 6 => 31 | 15 => 78 | 14 => 77 | 28 => 109 | 29 => 110 | 20 => 101 | 21 => 102 | 22 => 103 | 23 => 104 | 24 => 105 | 25 => 106 | 26 => 107 | 27 => 108 | 46 => 121 | 47 => 122 | 48 => 123 | 49 => 124 | 50 => 125 | 57 => 131 | n => n, fun | 22 => 42 | 24 => 78 | 25 => 84 | 3 => 3 | 39 => 137 | 0 => 0 | 53 => 170 | 55 => 139 | 4 => 4 | 46 => 164 | 45 => 163 | 50 => 93 | 5 => 5 | 9 => 9 | 66 => 179 | 70 => 183 | 76 => 188 | 77 => 189 | n => n, fun | n => n⟩
theorem Tryz.lay31 : Go.Proofs.SlLaysF0.n6 Tryz.prog Tryz.lay31_ren := {
  mixed := by kernel_rfl
  f6 := ⟨Tryz.f31.name, by decide, Tryz.func31.trans (congrArg some (by kernel_rfl))⟩
  f14 := ⟨Tryz.f77.name, by decide, Tryz.func77.trans (congrArg some (by kernel_rfl))⟩
  f15 := Tryz.func78.trans (congrArg some (by kernel_rfl))
  f20 := ⟨Tryz.f101.name, by decide, Tryz.func101.trans (congrArg some (by kernel_rfl))⟩
  f21 := ⟨Tryz.f102.name, by decide, Tryz.func102.trans (congrArg some (by kernel_rfl))⟩
  f22 := ⟨Tryz.f103.name, by decide, Tryz.func103.trans (congrArg some (by kernel_rfl))⟩
  f23 := ⟨Tryz.f104.name, by decide, Tryz.func104.trans (congrArg some (by kernel_rfl))⟩
  f24 := ⟨Tryz.f105.name, by decide, Tryz.func105.trans (congrArg some (by kernel_rfl))⟩
  f25 := ⟨Tryz.f106.name, by decide, Tryz.func106.trans (congrArg some (by kernel_rfl))⟩
  f26 := ⟨Tryz.f107.name, by decide, Tryz.func107.trans (congrArg some (by kernel_rfl))⟩
  f27 := ⟨Tryz.f108.name, by decide, Tryz.func108.trans (congrArg some (by kernel_rfl))⟩
  f28 := Tryz.func109.trans (congrArg some (by kernel_rfl))
  f29 := Tryz.func110.trans (congrArg some (by kernel_rfl))
  f46 := ⟨Tryz.f121.name, by decide, Tryz.func121.trans (congrArg some (by kernel_rfl))⟩
  f47 := Tryz.func122.trans (congrArg some (by kernel_rfl))
  f48 := Tryz.func123.trans (congrArg some (by kernel_rfl))
  f49 := ⟨Tryz.f124.name, by decide, Tryz.func124.trans (congrArg some (by kernel_rfl))⟩
  f50 := ⟨Tryz.f125.name, by decide, Tryz.func125.trans (congrArg some (by kernel_rfl))⟩
  f57 := ⟨Tryz.f131.name, by decide, Tryz.func131.trans (congrArg some (by kernel_rfl))⟩
  t0 := Tryz.underlying0
  a0 := Tryz.isAgg0
  z0 := Tryz.sizeOf0
  v0 := Tryz.zeroValue0
  t3 := Tryz.underlying3
  a3 := Tryz.isAgg3
  z3 := Tryz.sizeOf3
  v3 := Tryz.zeroValue3
  t4 := Tryz.underlying4
  a4 := Tryz.isAgg4
  z4 := Tryz.sizeOf4
  v4 := Tryz.zeroValue4
  t5 := Tryz.underlying5
  a5 := Tryz.isAgg5
  z5 := Tryz.sizeOf5
  v5 := Tryz.zeroValue5
  t9 := Tryz.underlying9
  a9 := Tryz.isAgg9
  z9 := Tryz.sizeOf9
  v9 := Tryz.zeroValue9
  t22 := Tryz.underlying42
  a22 := Tryz.isAgg42
  z22 := Tryz.sizeOf42
  v22 := Tryz.zeroValue42
  t25 := Tryz.underlying84
  a25 := Tryz.isAgg84
  z25 := Tryz.sizeOf84
  v25 := Tryz.zeroValue84
  t39 := Tryz.underlying137
  a39 := Tryz.isAgg137
  z39 := Tryz.sizeOf137
  v39 := Tryz.zeroValue137
  t45 := Tryz.underlying163
  a45 := Tryz.isAgg163
  z45 := Tryz.sizeOf163
  v45 := Tryz.zeroValue163
  t46 := Tryz.underlying164
  a46 := Tryz.isAgg164
  z46 := Tryz.sizeOf164
  v46 := Tryz.zeroValue164
  t50 := Tryz.underlying93
  a50 := Tryz.isAgg93
  z50 := Tryz.sizeOf93
  v50 := Tryz.zeroValue93
  t53 := Tryz.underlying170
  a53 := Tryz.isAgg170
  z53 := Tryz.sizeOf170
  v53 := Tryz.zeroValue170
  t55 := Tryz.underlying139
  a55 := Tryz.isAgg139
  z55 := Tryz.sizeOf139
  v55 := Tryz.zeroValue139
  t66 := Tryz.underlying179
  a66 := Tryz.isAgg179
  z66 := Tryz.sizeOf179
  v66 := Tryz.zeroValue179
  t70 := Tryz.underlying183
  a70 := Tryz.isAgg183
  z70 := Tryz.sizeOf183
  v70 := Tryz.zeroValue183
  t76 := Tryz.underlying188
  a76 := Tryz.isAgg188
  z76 := Tryz.sizeOf188
  v76 := Tryz.zeroValue188
  t77 := Tryz.underlying189
  a77 := Tryz.isAgg189
  z77 := Tryz.sizeOf189
  v77 := Tryz.zeroValue189 }
def Tryz.lay33_ren : Go.Shelf.Ren := ⟨fun | 106 => 33 | 213 => 79 | 265 => 111 | n => n, fun | 9 => 9 | 3 => 3 | n => n, fun | n => n⟩
theorem Tryz.lay33 : Go.Proofs.Lays.n106 Tryz.prog Tryz.lay33_ren := {
  mixed := by kernel_rfl
  f106 := Tryz.func33.trans (congrArg some (by kernel_rfl))
  f213 := Tryz.func79.trans (congrArg some (by kernel_rfl))
  f265 := Tryz.func111.trans (congrArg some (by kernel_rfl))
  t3 := Tryz.underlying3
  a3 := Tryz.isAgg3
  z3 := Tryz.sizeOf3
  v3 := Tryz.zeroValue3
  t9 := Tryz.underlying9
  a9 := Tryz.isAgg9
  z9 := Tryz.sizeOf9
  v9 := Tryz.zeroValue9 }
end Go.Proofs
-- S3
set_option linter.unusedSimpArgs false
set_option linter.unusedVariables false
namespace Go.Proofs.YtmnnnoinfhiilaaGreatDoor
open Go.SL
set_option maxRecDepth 10000
/-! ### The order -/
theorem blt_cons (a b : UInt8) (x y : List UInt8) : blt (a :: x) (b :: y) = (decide (a < b) || (a == b && blt x y)) := rfl
theorem cmpb_bcmp : ∀ a b : List UInt8, Lib.compareBytes a b = bcmp a b
  | [], [] => by simp [Lib.compareBytes, bcmp, blt_irrefl]
  | [], _ :: _ => rfl
  | _ :: _, [] => rfl
  | a :: p, b :: q => by
    have ih := cmpb_bcmp p q
    unfold Lib.compareBytes
    rw [ih]
    unfold bcmp
    simp only [blt_cons]
    by_cases h1 : a < b
    · simp [h1]
    · by_cases h2 : b < a
      · have : a ≠ b := fun e => by subst e; exact h1 h2
        simp [h1, h2, this.symm, this]
      · have : a = b := UInt8.le_antisymm (UInt8.not_lt.1 h2) (UInt8.not_lt.1 h1)
        subst this
        simp
theorem bcmp_lt {a b : List UInt8} : bcmp a b < 0 ↔ blt a b = true := by
  unfold bcmp
  cases h : blt a b <;> cases h2 : blt b a <;> simp [h, h2]
theorem bcmp_nlt {a b : List UInt8} : ¬ bcmp a b < 0 ↔ blt a b = false := by rw [bcmp_lt]; simp
theorem blt_ntrans {a b c : List UInt8} (h1 : blt a b = false) (h2 : blt b c = false) : blt a c = false := by
  cases h : blt a c with
  | false => rfl
  | true =>
    cases h3 : blt b a with
    | true => rw [blt_trans h3 h] at h2; cases h2
    | false => rw [blt_total a b h1 h3] at h; rw [h] at h2; cases h2
section
variable {ω : Om} {I : Imm} {L : LH} {K : Value → M}
theorem compare_spec {a b : List UInt8} (hk : K (.int .i64 (bcmp a b)) I L) : Cal Tryz.prog ω 33 #[sstr a, sstr b] K I L := fun w hs => by
  have h := Go.Proofs.Any.strings_Compare Go.Proofs.Tryz.lay33 ⟨a.toArray⟩ ⟨b.toArray⟩ w
  refine Calls.mono h ?_
  rintro e w' ⟨rfl, rfl⟩
  refine ⟨_, I, L, rfl, hs, ?_⟩
  simp only [cmpb_bcmp]
  exact hk
theorem takecmp_spec {x y : TOp} {c d : List Value} (hx : TOpV I x c) (hy : TOpV I y d) (hk : K (.int .i64 (bcmp x.fKey y.fKey)) I L) : Cal Tryz.prog ω 32 #[.agg c.toArray, .agg d.toArray] K I L := by
  obtain ⟨k0, v0, rfl, hk0, _⟩ := hx
  obtain ⟨k1, v1, rfl, hk1, _⟩ := hy
  refine cal32 ?_
  unfold sh32
  refine newI (fun b1 => newI (fun b2 => ?_))
  try simp only [SSd, Nat.reduceAdd]
  refine rdb ?_
  refine bs_N hk0 (Ext.refl _) ?_
  try simp only [SSd, Nat.reduceAdd]
  refine rdb ?_
  refine bs_N hk1 (Ext.refl _) ?_
  refine call (compare_spec ?_)
  exact Gh.to L (Gh.done hk)
end
/-! ### All that is noted -/
theorem fnd_at {k : Key} {e : MapEntry} : ∀ {l : List MapEntry} {i : Nat}, (l.map eKey).Nodup → e ∈ l → eKey e = k → (fnd k l i).map (·.2) = some e.val
  | x :: l, i, hn, he, hk => by
    simp only [List.map_cons, List.nodup_cons] at hn
    simp only [fnd]
    rcases List.mem_cons.1 he with rfl | he
    · rw [if_pos hk]; rfl
    · rw [if_neg (fun e2 => hn.1 (List.mem_map.2 ⟨e, he, by rw [hk, e2]⟩))]
      exact fnd_at hn.2 he hk
theorem mapS_mem {es : Array MapEntry} {clock : Nat} {m : Key → Option Value} (h : MapS es clock m) {e : MapEntry} (he : e ∈ es.toList) : m (eKey e) = some e.val := by
  rw [h.val]; exact fnd_at h.nod he rfl
theorem mapS_ex {es : Array MapEntry} {clock : Nat} {m : Key → Option Value} (h : MapS es clock m) {k : Key} {v : Value} (hv : m k = some v) : ∃ e ∈ es.toList, eKey e = k ∧ e.val = v := by
  rw [h.val] at hv
  cases hf : fnd k es.toList 0 with
  | none => rw [hf] at hv; cases hv
  | some p =>
    obtain ⟨i, u⟩ := p
    rw [hf] at hv
    simp only [Option.map_some, Option.some.injEq] at hv
    obtain ⟨n, e, _, h2, h3, h4⟩ := fnd_some hf
    exact ⟨e, List.mem_of_getElem? h2, h3, by rw [h4, hv]⟩
def opOf (nt : Nts) (e : MapEntry) : TOp := match nt (eKey e) with
  | some (d, l) => ⟨d, eKey e, l⟩
  | none => default
theorem opOf_at {I : Imm} {mm : List UInt8 → Option Value} {nt : Nts} {es : Array MapEntry} {clock : Nat} (hn : NotesR I mm nt) (hm : MapS es clock mm) {e : MapEntry} (he : e ∈ es.toList) :
    ∃ d l kv v, nt (eKey e) = some (d, l) ∧ e.val = .agg #[.bool d, kv, v] ∧ opOf nt e = ⟨d, eKey e, l⟩ ∧ TOpV I (opOf nt e) [.bool d, kv, v] := by
  rcases hn (eKey e) with ⟨_, h⟩ | ⟨d, l, kv, v, h1, h2, h3, h4⟩
  · rw [mapS_mem hm he] at h; cases h
  · rw [mapS_mem hm he] at h2
    have e1 : opOf nt e = ⟨d, eKey e, l⟩ := by unfold opOf; rw [h1]
    exact ⟨d, l, kv, v, h1, Option.some.inj h2, e1, by rw [e1]; exact ⟨kv, v, rfl, h3, h4⟩⟩
theorem opOf_key {I : Imm} {mm : List UInt8 → Option Value} {nt : Nts} {es : Array MapEntry} {clock : Nat} (hn : NotesR I mm nt) (hm : MapS es clock mm) {e : MapEntry} (he : e ∈ es.toList) : (opOf nt e).fKey = eKey e := by
  obtain ⟨d, l, kv, v, _, _, h, _⟩ := opOf_at hn hm he
  rw [h]
theorem took_of {I : Imm} {mm : List UInt8 → Option Value} {nt : Nts} {es : Array MapEntry} {clock : Nat} (hn : NotesR I mm nt) (hm : MapS es clock mm) {vis : List MapEntry} (hv : vis.Perm es.toList) {ops : List TOp} (hp : ops.Perm (vis.map (opOf nt)))
    (hs : ops.Pairwise fun a b => ¬ bcmp b.fKey a.fKey < 0) : TookOk nt ops := by
  have hmem : ∀ y, y ∈ ops ↔ ∃ e ∈ es.toList, opOf nt e = y := fun y => by
    rw [hp.mem_iff, List.mem_map]
    exact ⟨fun ⟨e, h1, h2⟩ => ⟨e, hv.mem_iff.1 h1, h2⟩, fun ⟨e, h1, h2⟩ => ⟨e, hv.mem_iff.2 h1, h2⟩⟩
  have hnd : (ops.map (·.fKey)).Nodup := by
    rw [(hp.map _).nodup_iff, List.map_map, ((hv.map _).nodup_iff)]
    have e1 : es.toList.map ((fun x : TOp => x.fKey) ∘ opOf nt) = es.toList.map eKey := List.map_congr_left fun e he => opOf_key hn hm he
    rw [e1]; exact hm.nod
  refine ⟨fun y hy => ?_, fun q d t h => ?_, ?_⟩
  · obtain ⟨e, he, rfl⟩ := (hmem y).1 hy
    obtain ⟨d, l, kv, v, h1, _, h3, _⟩ := opOf_at hn hm he
    rw [h3]; exact h1
  · rcases hn q with ⟨h1, _⟩ | ⟨d', l', kv, v, h1, h2, _, _⟩
    · rw [h] at h1; cases h1
    · obtain ⟨e, he, hk, _⟩ := mapS_ex hm h2
      rw [hmem]
      refine ⟨e, he, ?_⟩
      unfold opOf
      rw [hk, h]
  · have h1 : ops.Pairwise fun a b => a.fKey ≠ b.fKey := List.pairwise_map.1 hnd
    refine (hs.and h1).imp fun {a b} h => ?_
    have h2 := bcmp_nlt.1 h.1
    cases h3 : blt a.fKey b.fKey with
    | true => rfl
    | false => exact absurd (blt_total _ _ h3 h2) h.2
theorem ents_sub : ∀ {a c : List MapEntry}, a.Nodup → (∀ x ∈ a, x ∈ c) → a.length ≤ c.length
  | [], c, _, _ => by simp
  | x :: a, c, hn, hs => by
    obtain ⟨C1, C2, rfl⟩ := List.append_of_mem (hs x (List.mem_cons_self ..))
    have := ents_sub (a := a) (c := C1 ++ C2) (List.nodup_cons.1 hn).2 (fun y hy => by
      have h1 := hs y (List.mem_cons_of_mem _ hy)
      simp only [List.mem_append, List.mem_cons] at h1 ⊢
      rcases h1 with h1 | rfl | h1
      · exact .inl h1
      · exact absurd hy (List.nodup_cons.1 hn).1
      · exact .inr h1)
    simp only [List.length_append, List.length_cons] at this ⊢
    omega
theorem ents_le {mm : List UInt8 → Option Value} {I : Imm} {nt : Nts} {es : Array MapEntry} {clock N : Nat} (hn : NotesR I mm nt) (hm : MapS es clock mm) (hN : NtFin nt N) : es.toList.length ≤ N := by
  obtain ⟨Q, h1, h2⟩ := hN
  have := nodup_len (l := es.toList.map eKey) (Q := Q) hm.nod (fun q hq => by
    obtain ⟨e, he, rfl⟩ := List.mem_map.1 hq
    obtain ⟨d, l, kv, v, h3, _⟩ := opOf_at hn hm he
    exact h2 _ (by rw [h3]; simp))
  rw [List.length_map] at this
  omega
section
variable {ω : Om} {I : Imm} {L : LH} {K : Value → M}
theorem vals_spec {yv : Value} {qm m : Nat} {es : Array MapEntry} {clock : Nat} {mm : Key → Option Value} (J : List MapEntry → M) (hm : MapS es clock mm)
    (hJ : ∀ vis I' L', J vis I' L' → Cell I' L' qm 0 (.map (some m)) ∧ MapAt I' L' m es clock) (hval : ∀ e ∈ es.toList, ∃ d kv v, e.val = .agg #[.bool d, kv, v] ∧ kv.oneCell' = true ∧ v.oneCell' = true)
    (hstep : ∀ vis e b I' L', J vis I' L' → e ∈ es.toList → It es (vis ++ [e]) → ∀ bv, CalV Tryz.prog ω yv #[e.val] (fun v => Gh fun I2 L2 => v = .bool true ∧ ∃ L3, L2 = (b, iterO m clock (vis ++ [e])) :: L3 ∧ J (vis ++ [e]) I2 L3) I' ((bv, .cells e.val.cells 78 (0, 0)) :: (b, iterO m clock (vis ++ [e])) :: L'))
    (h0 : J [] I L) (hk : ∀ vis I' L', vis.Perm es.toList → J vis I' L' → K (.tuple #[]) I' L') :
    Cal Tryz.prog ω 76 #[yv, pt qm] K I L := by
  obtain ⟨hc, hmp⟩ := hJ _ _ _ h0
  refine cal76 ?_
  unfold sh76
  refine rdC hc (Ext.refl _) ?_
  refine rngI hmp (fun b => ?_)
  refine Gh.done ?_
  refine loop (fun n s I' L' => ∃ vis L3, It es vis ∧ n + vis.length = es.toList.length ∧ L' = (b, iterO m clock vis) :: L3 ∧ J vis I' L3) es.toList.length ⟨[], L, It.none es, rfl, rfl, h0⟩ ?_
  rintro n s I' L' ⟨vis, L3, hi, hn, rfl, hJ3⟩
  unfold sh76_1
  obtain ⟨hc3, hmp3⟩ := hJ _ _ _ hJ3
  refine nxtI hm hmp3 hi (fun hp => Gh.done ?_) (fun e he hi' => Gh.done ?_)
  · try simp only [SSd, Nat.reduceAdd]
    exact Gh.to L3 (Gh.done (hk vis I' L3 hp hJ3))
  · have hlen : vis.length + 1 ≤ es.toList.length := by
      have := ents_sub (nodup_of_map hi'.nod) hi'.sub
      simpa using this
    try simp only [SSd, Nat.reduceAdd]
    refine ⟨_, entI hm hmp3 he, ?_⟩
    obtain ⟨d, kv, v, hev, h1, h2⟩ := hval e he
    have hev2 : e.val.cells = #[.bool d, kv, v] := by rw [hev]; rfl
    have hs := hstep vis e b I' L3 hJ3 he hi'
    rw [hev2] at hs
    try simp only [SSd, Nat.reduceAdd]
    refine newI (fun bv => ?_)
    rw [hev] at hs ⊢
    refine stB rfl rfl (fun u hu => ?_) ?_
    · simp only [List.mem_cons, List.not_mem_nil, or_false] at hu
      rcases hu with rfl | rfl | rfl
      · rfl
      · exact h1
      · exact h2
    refine rdB rfl ?_
    refine CalV.mono (hs bv) (fun v2 I2 L2 hv2 => Gh.mono hv2 ?_)
    rintro I3 L3' ⟨rfl, L4, rfl, hJ4⟩
    simp only [Bool.not_true, SSd, Nat.reduceAdd]
    exact (Gh.done ⟨n - 1, by omega, _, L4, hi', by rw [List.length_append, List.length_singleton]; omega, rfl, hJ4⟩)
theorem rngVals {qm : Nat} {B : Value → RB} {Kn : Nat → M} {Xs : Nat → List (Nat × M)} {Rr : Nat → M}
    (h : ∀ (l D : Nat) (Lo : LoF), (∀ a K' I' L', YldM l Lo (B a) K' I' L' → CalV Tryz.prog ω (.func (.yield l) #[] #[]) #[a] K' I' L') →
      Cal Tryz.prog ω 76 #[.func (.yield l) #[] #[], pt qm] (fun _ => Gh (EndL l Lo (jumpM (Kn D) (Xs D) (Rr D)))) I ((l, Lo .ready none) :: (D, .deferred (some [])) :: L)) :
    RngF1 Tryz.prog ω (.func (.func 76) #[] #[pt qm]) B Kn Xs Rr I L := by
  unfold RngF1 RngM
  simp only
  rw [if_pos (show entersB Tryz.prog 76 = true by kernel_rfl)]
  intro l D Lo _ hy
  exact h l D Lo (fun a K' I' L' hh => hy [a] K' I' L' rfl hh)
theorem coll_spec {qm m : Nat} {es : Array MapEntry} {clock N : Nat} {mm : Key → Option Value} {nt : Nts} (hm : MapS es clock mm) (hn : NotesR I mm nt) (hN : NtFin nt N) (hNl : N ≤ 1000000)
    (hc : Cell I L qm 0 (.map (some m))) (hmp : MapAt I L m es clock)
    (hk : ∀ (X : LH) (v : Value) (vis : List MapEntry) (cells : List Value), vis.Perm es.toList → SlO 78 3 X v cells vis.length → Recs (TOpV I) 3 (vis.map (opOf nt)) cells → K v I (X ++ L)) :
    Cal Tryz.prog ω 29 #[.func (.func 76) #[] #[pt qm]] K I L := by
  have hle := ents_le hn hm hN
  refine cal29 ?_
  unfold sh29
  refine call ?_
  refine cal75 ?_
  unfold sh75
  refine newI (fun bs => ?_)
  refine rngVals (fun l D Lo hy => ?_)
  refine vals_spec (qm := qm) (m := m) (es := es) (clock := clock) (mm := mm) (L := (l, Lo .ready none) :: (D, .deferred (some [])) :: (bs, .cells #[.slice none 0 0] 42 (0, 0)) :: L)
    (fun vis I' L' => I' = I ∧ ∃ XO vo cells, SlO 78 3 XO vo cells vis.length ∧ Recs (TOpV I) 3 (vis.map (opOf nt)) cells ∧ vis.length ≤ es.toList.length ∧ L' = (l, Lo .ready none) :: (D, .deferred (some [])) :: (bs, .cells #[vo] 42 (0, 0)) :: (XO ++ L)) hm ?_ ?_ ?_ ?_ ?_
  · rintro vis I' L' ⟨rfl, XO, vo, cells, _, _, _, rfl⟩
    exact ⟨hc.mono (Ext.refl _) (fun x hx => by simp [hx]), MapAt.mono hmp (Ext.refl _) (fun x hx => by simp [hx])⟩
  · intro e he
    obtain ⟨d, l, kv, v, _, h2, _, h4⟩ := opOf_at hn hm he
    have h5 := h4.one
    exact ⟨d, kv, v, h2, h5 kv (by simp), h5 v (by simp)⟩
  · rintro vis e b I' L' ⟨rfl, XO, vo, cells, hO, hR, hlv, rfl⟩ he hi' bv
    obtain ⟨d, l2, kv, v, h1, h2, h3, h4⟩ := opOf_at hn hm he
    have hlen : vis.length + 1 ≤ es.toList.length := by
      have := ents_sub (nodup_of_map hi'.nod) hi'.sub
      simpa using this
    refine hy _ _ _ _ (yldM ?_)
    have h2c : e.val.cells = #[.bool d, kv, v] := by rw [h2]; rfl
    rw [h2c, h2]
    refine newI (fun b2 => ?_)
    refine stB rfl rfl h4.one ?_
    refine begR ?_
    refine rdb ?_
    refine rdB rfl ?_
    obtain ⟨va, vc, rfl⟩ := hO.form
    refine rec_app (R := TOpV) (X6 := XO) (x := opOf nt e) (xs := vis.map (opOf nt)) (cells := cells) rfl (by omega) (by simpa using hO) hR h4 rfl h4.one (by simp; omega) (by simp; omega) (fun X1 X6 v6 cells6 h6 hR6 => ?_)
    obtain ⟨a6, c6, rfl⟩ := h6.form
    refine st1 rfl ?_
    refine endR ?_
    refine Gh.to ((b, iterO m clock (vis ++ [e])) :: (l, Lo .ready none) :: (D, .deferred (some [])) :: (bs, .cells #[.slice a6 (vis.map (opOf nt) ++ [opOf nt e]).length c6] 42 (0, 0)) :: (X6 ++ L)) (Gh.done ⟨rfl, _, rfl, rfl, X6, _, cells6, ?_, ?_, ?_, rfl⟩)
    · simpa using h6
    · simpa using hR6
    · simpa using hlen
  · exact ⟨rfl, [], _, [], SlO.none _ _, rfl, Nat.zero_le _, rfl⟩
  · rintro vis I' L' hp ⟨rfl, XO, vo, cells, hO, hR, hlv, rfl⟩
    refine Gh.done (endL (s := .ready) (j := none) (by simp) ?_)
    show sh75_2 ω (pt bs) (.slice none 0 0) D _ _ _
    unfold sh75_2
    refine rdb ?_
    refine tak ?_
    exact Gh.to (XO ++ L) (Gh.done (Gh.done (hk XO vo vis cells hp hO hR)))
theorem take_spec : TakeSpec := by
  intro ω I K b X F sp nt hS hlen hN hk
  obtain ⟨ps, m, ch, kv, es, clock, KX, RX, NX, hp, hF⟩ := hS
  obtain ⟨ces, cclock, mm, rfl, hm, hn⟩ := hF.nts
  refine Cal.perm (L' := (b, spO m kv sp.floor ch) :: (ch, .map ces cclock) :: ((m, .map es clock) :: (KX ++ (RX ++ F)))) (ms_perm (by rw [ms_app, ms_eq hp]; ((try simp only [ms_cons, ms_app, ms_nil, ms_nil']); (try ac_rfl)))) ?_
  refine cal8 ?_
  unfold sh8
  try simp only [SSd, Nat.reduceAdd]
  refine rdb ?_
  refine call ?_
  refine cal30 ?_
  unfold sh30
  refine newI (fun qm => ?_)
  refine Gh.done ?_
  refine call (coll_spec hm hn hN (by omega) (Cell.own (b := qm) (cs := #[.map (some ch)]) (T := 63) (fr := (0, 0)) (List.mem_cons_self ..) rfl) (.inl (by simp)) (fun XO vo vis cells hp2 hO hR => ?_))
  have hle := ents_le hn hm hN
  have hvl : vis.length = ces.toList.length := hp2.length_eq
  refine call ?_
  have hO' : SlO 78 3 XO vo cells (vis.map (opOf nt)).length := by simpa using hO
  refine sortF_cal Go.Proofs.Tryz.lay31 (ω := ω) (K := _) (k := 3) (R := TOpV) (cf := fun x y => bcmp x.fKey y.fKey) (g := 32) Tryz.isAgg78 Tryz.sizeOf78 (fun I x c h => h.len) (fun I x c h => h.one) (fun x => by rw [bcmp_lt, blt_irrefl]; simp) (fun x y z h1 h2 => by rw [bcmp_lt] at *; exact blt_trans h1 h2)
    (fun x y z h1 h2 => by rw [bcmp_nlt] at *; exact blt_ntrans h1 h2) (enters_of Tryz.func32 (by kernel_rfl) rfl)
    (fun ω' I' x y c d hI hx hy => takecmp_spec (hx.mono hI) (hy.mono hI) ⟨rfl, Ext.refl _⟩) hO' hR (by simp; omega) (fun X' ops cells' hperm hsrt hO2 hR2 => ?_)
  have hto := took_of hn hm hp2 hperm hsrt
  have hlo : (vis.map (opOf nt)).length = ops.length := hperm.length_eq.symm
  rw [hlo] at hO2
  refine newm (fun ch2 => ?_)
  try simp only [SSd, Nat.reduceAdd]
  refine Gh.perm (L' := (b, spO m kv sp.floor ch) :: (X' ++ ((ch2, .map #[] 0) :: (m, .map es clock) :: (KX ++ (RX ++ ((qm, .cells #[.map (some ch)] 63 (0, 0)) :: (ch, .map ces cclock) :: F)))))) (ms_perm (by ((try simp only [ms_cons, ms_app, ms_nil, ms_nil']); (try ac_rfl)))) ?_
  refine Gh.done ?_
  refine st1 rfl ?_
  refine Gh.perm (L' := X' ++ ((b, spO m kv sp.floor ch2) :: (ch2, .map #[] 0) :: (m, .map es clock) :: (KX ++ (RX ++ ((qm, .cells #[.map (some ch)] 63 (0, 0)) :: (ch, .map ces cclock) :: F))))) (ms_perm (by ((try simp only [ms_cons, ms_app, ms_nil, ms_nil']); (try ac_rfl)))) ?_
  refine RL.ofO (R := TOpV) (fun h hI => h.mono hI) hO2 hR2 (fun I' hI hRL => ?_)
  refine Gh.to ((b, spO m kv sp.floor ch2) :: (ch2, .map #[] 0) :: (m, .map es clock) :: (KX ++ (RX ++ F))) ?_
  refine Gh.perm (L' := ((b, spO m kv sp.floor ch2) :: (ch2, .map #[] 0) :: (m, .map es clock) :: (KX ++ RX)) ++ F) (ms_perm (by ((try simp only [ms_cons, ms_app, ms_nil, ms_nil']); (try ac_rfl)))) ?_
  refine Gh.done (hk _ I' _ ops hI ⟨ps, m, ch2, kv, es, clock, KX, RX, [(ch2, .map #[] 0)], ms_perm (by ((try simp only [ms_cons, ms_app, ms_nil, ms_nil']); (try ac_rfl))), hF.map, hF.keys, hF.rows, ⟨#[], 0, fun _ => none, rfl, MapS.empty, fun k => .inl ⟨rfl, rfl⟩⟩⟩ hto hRL)
end
end Go.Proofs.YtmnnnoinfhiilaaGreatDoor
-- S3
set_option linter.unusedSimpArgs false
set_option linter.unusedVariables false
namespace Go.Proofs.YtmnnnoinfhiilaaGreatDoor
open Go.SL
set_option maxRecDepth 10000
theorem loads_walk2 {W : World} {base : Nat} {v0 v1 : Value} (o0 : Value.okWide Tryz.prog W .any base 22 v0) (t0 : Tr Tryz.prog W 22 v0.cells.toList)
    (o1 : Value.okWide Tryz.prog W .any base 3 v1) (t1 : Tr Tryz.prog W 3 v1.cells.toList) (ω : Om) :
    Cal Tryz.prog ω 3 #[v0, v1] (fun v I' _ => v = .bool true ∧ Ext (heapI W) I') (heapI W) [] := loads_walk take_spec o0 t0 o1 t1 ω
end Go.Proofs.YtmnnnoinfhiilaaGreatDoor
