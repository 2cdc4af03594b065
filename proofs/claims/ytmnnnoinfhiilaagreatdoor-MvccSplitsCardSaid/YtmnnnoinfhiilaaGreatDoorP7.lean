/-
  Lemmas, part 7: laid together by a program.
-/
import Derived.Test.YtmnnnoinfhiilaaGreatDoorP6
import Derived.Test.YtmnnnoinfhiilaaGreatDoorP4
import Derived.Shelf.SlSortCmp.NoneTotal
import Derived.Shelf.SlLaysF0
import Derived.Shelf.Small.Strs
import Derived.Test.YtmnnnoinfhiilaaGreatDoorProg
-- S3
set_option linter.unusedSimpArgs false
set_option linter.unusedVariables false
namespace Go.Proofs.YtmnnnoinfhiilaaGreatDoor
open Go.SL
set_option maxRecDepth 10000
section
variable {ω : Om} {I : Imm} {L : LH} {K : Value → M}
/-! ### Parts of bytes -/
theorem Bytes.drop {v : Value} {l : List UInt8} {n : Nat} (h : Bytes I v l) (hn : n ≤ l.length) : ∃ v', slcV 1 v (some (.int .i64 n)) none none = some v' ∧ Bytes I v' (l.drop n) := by
  obtain ⟨v', h1, h2⟩ := SlI.part (lo := n) (hi := l.length) h hn (Nat.le_refl _) (some (.int .i64 n)) none (fun y hy => .inl (bnd_in _ _ _ _ (by omega))) (fun cap hc => rfl)
  refine ⟨v', h1, ?_⟩
  unfold Bytes
  rw [List.length_drop]
  have : ((u8s l).drop (n * 1)).take ((l.length - n) * 1) = u8s (l.drop n) := by
    rw [Nat.mul_one, Nat.mul_one, List.take_of_length_le (by simp [u8s])]
    simp [u8s]
  rwa [this] at h2
theorem Bytes.part {v : Value} {l : List UInt8} {lo hi : Nat} (h : Bytes I v l) (h1 : lo ≤ hi) (h2 : hi ≤ l.length) : ∃ v', slcV 1 v (some (.int .i64 lo)) (some (.int .i64 hi)) none = some v' ∧ Bytes I v' ((l.drop lo).take (hi - lo)) := by
  obtain ⟨v', e1, e2⟩ := SlI.part (lo := lo) (hi := hi) h h1 h2 (some (.int .i64 lo)) (some (.int .i64 hi)) (fun y hy => .inl (bnd_in _ _ _ _ (by omega))) (fun cap hc => bnd_in _ _ _ _ (by omega))
  refine ⟨v', e1, ?_⟩
  unfold Bytes
  rw [List.length_take, List.length_drop, Nat.min_eq_left (by omega)]
  have : ((u8s l).drop (lo * 1)).take ((hi - lo) * 1) = u8s ((l.drop lo).take (hi - lo)) := by
    simp [u8s]
  rwa [this] at e2
theorem Bytes.take {v : Value} {l : List UInt8} {n : Nat} (h : Bytes I v l) (hn : n ≤ l.length) : ∃ v', slcV 1 v none (some (.int .i64 n)) none = some v' ∧ Bytes I v' (l.take n) := by
  obtain ⟨v', e1, e2⟩ := SlI.part (lo := 0) (hi := n) h (by omega) hn none (some (.int .i64 n)) (fun y hy => .inl rfl) (fun cap hc => bnd_in _ _ _ _ (by omega))
  refine ⟨v', e1, ?_⟩
  unfold Bytes
  rw [List.length_take, Nat.min_eq_left (by omega)]
  have : ((u8s l).drop (0 * 1)).take ((n - 0) * 1) = u8s (l.take n) := by
    simp [u8s]
  rwa [this] at e2
theorem or_add {n y i : Nat} (h : n < 2 ^ i) (hs : n + y * 2 ^ i < 9223372036854775808) : bitsV .or .i64 (n : Int) ((y * 2 ^ i : Nat) : Int) = ((n + y * 2 ^ i : Nat) : Int) := by
  have e : ((BitVec.ofInt 64 (n : Int)) ||| (BitVec.ofInt 64 ((y * 2 ^ i : Nat) : Int))).toNat = n + y * 2 ^ i := by
    rw [BitVec.toNat_or]
    have e1 : (BitVec.ofInt 64 (n : Int)).toNat = n := by rw [BitVec.toNat_ofInt]; omega
    have e2 : (BitVec.ofInt 64 ((y * 2 ^ i : Nat) : Int)).toNat = y * 2 ^ i := by
      rw [BitVec.toNat_ofInt]
      generalize y * 2 ^ i = z at *
      omega
    rw [e1, e2, Nat.or_comm, Nat.mul_comm, ← Nat.two_pow_add_eq_or_of_lt h]
    exact Nat.add_comm _ _
  show IntKind.i64.wrap ((BitVec.ofInt 64 (n : Int)) ||| (BitVec.ofInt 64 ((y * 2 ^ i : Nat) : Int))).toNat = _
  rw [e]
  exact wrap_i64 _ (by omega)
theorem Bytes.at {v : Value} {l : List UInt8} {k : Nat} (h : Bytes I v l) (hk : k < l.length) : ∃ b off, ixV 1 v (.int .i64 k) = some (.pointer (some ⟨b, off, none⟩)) ∧ ∀ I' L, Ext I I' → Cell I' L b off (.int .u8 (l[k]).toNat) := by
  obtain ⟨b, off, hix, hc⟩ := SlI.ix h .i64 hk
  have hone : ((u8s l).drop (k * 1)).take 1 = [.int .u8 (l[k]).toNat] := by
    rw [Nat.mul_one, List.drop_eq_getElem_cons (by simpa [u8s] using hk), List.take_succ_cons]
    simp [u8s]
  rw [hone] at hc
  exact ⟨b, off, hix, fun I' L hI => hc I' L hI 0 _ rfl⟩
/-! ### A stamp -/
theorem unB_take {l : List UInt8} {i : Nat} (h : i < l.length) : unB (l.take (i + 1)) = unB (l.take i) * 256 + (l[i].toNat : Int) := by
  rw [List.take_succ_eq_append_getElem h, unB_append]
  simp [unB]
theorem shl8 {n : Nat} (hn : n < 36028797018963968) : binIV .shl (.int .i64 (n : Int)) (.int .u64 8) = some (.int .i64 ((n * 256 : Nat) : Int)) := by
  have h := binI_shl (a := (n : Int)) (c := 8) .i64 .u64 (by decide)
  have e1 : (min (8 : Int).toNat IntKind.i64.bits) = 8 := rfl
  rw [e1, wrap_i64 _ (by omega)] at h
  rw [h]
  congr 2
theorem or8 {n : Nat} (hn : n < 36028797018963968) (b : UInt8) : bitsV .or .i64 ((n * 256 : Nat) : Int) (b.toNat : Int) = ((n * 256 + b.toNat : Nat) : Int) := by
  have hb := b.toNat_lt
  have e2 : bitsV .or .i64 ((n * 256 : Nat) : Int) (b.toNat : Int) = bitsV .or .i64 (b.toNat : Int) ((n * 2 ^ 8 : Nat) : Int) := by
    unfold bitsV
    simp only
    rw [BitVec.or_comm]
  rw [e2, or_add (by omega) (by omega)]
  congr 1
  omega
end
section
variable {ω : Om} {I : Imm} {L : LH} {K : Value → M}
theorem unB_nat (l : List UInt8) : ∃ n : Nat, unB l = n := ⟨(unB l).toNat, by have := (unB_bound l).1; omega⟩
theorem hread_spec {v : Value} {s : TStamp} (h : Bytes I v (stF s)) (hr : rightB s = true) (hk : ∀ I', Ext I I' → K (.tuple #[sv s, .int .i64 0]) I' L) : Cal Tryz.prog ω 80 #[v] K I L := by
  have hu7 : unB ((stF s).take 7) = s.fWall := congrArg TStamp.fWall (unSt_st hr)
  have hu2 : unB ((stF s).drop 7) = s.fLogic := congrArg TStamp.fLogic (unSt_st hr)
  have hl9 : (stF s).length = 9 := rfl
  obtain ⟨v7, e7, h7⟩ := Bytes.take h (n := 7) (by rw [hl9]; omega)
  have e7' : slcV 1 v none (some (.int .i64 7)) none = some v7 := e7
  have hl7 : ((stF s).take 7).length = 7 := by rw [List.length_take, hl9]; rfl
  have hlen : lenV v = some (.int .i64 9) := Bytes.len h
  have hlen7 : lenV v7 = some (.int .i64 7) := by rw [Bytes.len h7, hl7]; rfl
  generalize hS : stF s = S at *
  refine cal80 ?_
  unfold sh80
  refine newI (fun b1 => ?_)
  simp only [hlen, SSd, Nat.reduceAdd]
  refine newI (fun b2 => ?_)
  simp only [e7', hlen7, SSd, Nat.reduceAdd]
  refine loop (fun n t I' L' => I' = I ∧ ∃ i : Nat, n + i = 7 ∧ t = (.int .i64 i, ()) ∧ L' = (b2, stO ⟨unB (S.take i), 0⟩) :: (b1, stO ⟨0, 0⟩) :: L) 7 ⟨rfl, 0, rfl, rfl, rfl⟩ ?_
  rintro n t I' L' ⟨rfl, i, hni, rfl, rfl⟩
  unfold sh80_1
  try simp only [SSd, Nat.reduceAdd]
  refine br_split (fun e => ?_) (fun e => ?_)
  · have hi : i < 7 := by simp at e; omega
    obtain ⟨bb, off, hix, hc⟩ := Bytes.at (k := i) h7 (by omega)
    obtain ⟨m, hm⟩ := unB_nat (S.take i)
    have hb := (unB_bound (S.take i)).2
    rw [List.length_take, Nat.min_eq_left (by omega), hm] at hb
    have hmb : m < 36028797018963968 := by
      have : (256 : Int) ^ i ≤ 256 ^ 6 := by
        have h6 := Nat.pow_le_pow_right (show 0 < 256 by decide) (show i ≤ 6 by omega)
        exact_mod_cast h6
      omega
    simp only [hix, SSd, Nat.reduceAdd]
    refine rd1 (hc _ _ (Ext.refl _)) ?_
    try simp only [SSd, Nat.reduceAdd]
    refine rdb ?_
    have hbt := ((S.take 7)[i]'(by omega)).toNat_lt
    rw [hm]
    simp only [shl8 hmb, wrap_i64 (((S.take 7)[i]'(by omega)).toNat : Int) (by omega), or8 hmb, SSd, Nat.reduceAdd]
    refine st1 rfl ?_
    try simp only [SSd, Nat.reduceAdd]
    rw [wrap_i64 _ (by omega)]
    refine Gh.done ⟨n - 1, by omega, rfl, i + 1, by omega, rfl, ?_⟩
    have e3 : unB (S.take (i + 1)) = ((m * 256 + ((S.take 7)[i]'(by omega)).toNat : Nat) : Int) := by
      rw [unB_take (by omega), hm, List.getElem_take]; omega
    rw [e3]
  · have hi7 : i = 7 := by simp at e; omega
    subst hi7
    rw [hu7]
    obtain ⟨b7, o7, hix7, hc7⟩ := Bytes.at (k := 7) h (by omega)
    obtain ⟨b8, o8, hix8, hc8⟩ := Bytes.at (k := 8) h (by omega)
    have hix7' : ixV 1 v (.int .i64 7) = some (.pointer (some ⟨b7, o7, none⟩)) := hix7
    have hix8' : ixV 1 v (.int .i64 8) = some (.pointer (some ⟨b8, o8, none⟩)) := hix8
    have hd : S.drop 7 = [S[7], S[8]] := by
      rw [List.drop_eq_getElem_cons (by omega), List.drop_eq_getElem_cons (by omega), List.drop_of_length_le (by omega)]
    have hlog : s.fLogic = ((S[7].toNat * 256 + S[8].toNat : Nat) : Int) := by
      rw [← hu2, hd]; simp [unB]
    have ht7 := S[7].toNat_lt
    have ht8 := S[8].toNat_lt
    unfold sh80_3
    refine drawC ?_
    simp only [hix7', SSd, Nat.reduceAdd]
    refine rdCS (hc7 I' [] (Ext.refl _)) (Ext.refl _) ?_
    simp only [hix8', wrap_i64 (S[7].toNat : Int) (by omega), shl8 (n := S[7].toNat) (by omega), SSd, Nat.reduceAdd]
    refine rdCS (hc8 I' [] (Ext.refl _)) (Ext.refl _) ?_
    simp only [wrap_i64 (S[8].toNat : Int) (by omega), or8 (n := S[7].toNat) (by omega), ← hlog, SSd, Nat.reduceAdd]
    refine st1 rfl ?_
    try simp only [SSd, Nat.reduceAdd]
    refine rdP _ rfl rfl ?_
    refine callG (hbytes_spec (x := s) hr (fun X1 u h1 => OB.freeze h1 (fun I2 hI2 hb2 => Gh.done ?_)))
    try simp only [SSd, Nat.reduceAdd]
    refine call (equal_spec hb2 (h.mono hI2) ?_)
    rw [hS]
    simp only [beq_self_eq_true, Bool.not_true, SSd, Nat.reduceAdd]
    refine rdP _ rfl rfl ?_
    refine stB rfl rfl (one_all rfl) ?_
    refine rdP _ rfl rfl ?_
    exact Gh.to L (Gh.done (hk I2 hI2))
/-! ### A number -/
theorem or_addU {n y i : Nat} (h : n < 2 ^ i) (hs : n + y * 2 ^ i < 9223372036854775808) : bitsV .or .u64 (n : Int) ((y * 2 ^ i : Nat) : Int) = ((n + y * 2 ^ i : Nat) : Int) := by
  have e : ((BitVec.ofInt 64 (n : Int)) ||| (BitVec.ofInt 64 ((y * 2 ^ i : Nat) : Int))).toNat = n + y * 2 ^ i := by
    rw [BitVec.toNat_or]
    have e1 : (BitVec.ofInt 64 (n : Int)).toNat = n := by rw [BitVec.toNat_ofInt]; omega
    have e2 : (BitVec.ofInt 64 ((y * 2 ^ i : Nat) : Int)).toNat = y * 2 ^ i := by
      rw [BitVec.toNat_ofInt]
      generalize y * 2 ^ i = z at *
      omega
    rw [e1, e2, Nat.or_comm, Nat.mul_comm, ← Nat.two_pow_add_eq_or_of_lt h]
    exact Nat.add_comm _ _
  show IntKind.u64.wrap ((BitVec.ofInt 64 (n : Int)) ||| (BitVec.ofInt 64 ((y * 2 ^ i : Nat) : Int))).toNat = _
  rw [e]
  exact wrap_u64 _ (by omega) (by omega)
theorem and_u8 : ∀ x : Fin 256, bitsV .and .u8 ((x.val : Nat) : Int) 127 = ((x.val % 128 : Nat) : Int) := by decide
theorem pow128 (i : Nat) : (128 : Nat) ^ i = 2 ^ (7 * i) := by rw [show (128 : Nat) = 2 ^ 7 from rfl, ← Nat.pow_mul]
theorem shl7 {y i : Nat} (hi : i ≤ 7) (hy : y * 128 ^ i < 9223372036854775808) : binIV .shl (.int .u64 (y : Int)) (.int .i64 (7 * (i : Int))) = some (.int .u64 ((y * 2 ^ (7 * i) : Nat) : Int)) := by
  have h := binI_shl (a := (y : Int)) (c := 7 * (i : Int)) .u64 .i64 (by omega)
  have e1 : (min (7 * (i : Int)).toNat IntKind.u64.bits) = 7 * i := by
    show min _ 64 = _
    omega
  rw [pow128] at hy
  rw [e1, wrap_u64 _ (by
    have : (0 : Int) ≤ 2 ^ (7 * i) := Int.le_of_lt (Int.pow_pos (by decide))
    exact Int.mul_nonneg (Int.natCast_nonneg y) this) (by
    have : ((y * 2 ^ (7 * i) : Nat) : Int) < 18446744073709551616 := by omega
    rw [Int.natCast_mul, Int.natCast_pow] at this
    exact this)] at h
  rw [h]
  congr 2
theorem byte_at {l : List UInt8} {c : UInt8} {d r : List UInt8} (h : l = d ++ c :: r) (hd : d.length < l.length) : l[d.length] = c := by
  subst h; simp
theorem taken_spec {v : Value} {n : Nat} {rest : List UInt8} (h : Bytes I v (varL n ++ rest)) (hn : n ≤ 9007199254740991) (hk : K (.tuple #[.int .u64 n, .int .i64 (varL n).length, .int .i64 0]) I L) : Cal Tryz.prog ω 81 #[v] K I L := by
  refine cal81 ?_
  unfold sh81
  refine loop (fun q t I' L' => I' = I ∧ L' = L ∧ ∃ (i m acc : Nat) (d : List UInt8), q + i = 8 ∧ t = (.int .u64 0, .int .i64 0, .int .i64 0, .int .u64 acc, .int .i64 i, ()) ∧ varL n = d ++ varL m ∧ d.length = i ∧ n = acc + m * 128 ^ i ∧ acc < 128 ^ i ∧ (0 < i → m ≠ 0)) 8 ⟨rfl, rfl, 0, n, 0, [], rfl, rfl, rfl, rfl, by simp, by simp, by omega⟩ ?_
  rintro q t I' L' ⟨rfl, rfl, i, m, acc, d, hqi, rfl, he, hd, hnn, hacc, hm0⟩
  have hi7 : i ≤ 7 := by
    by_cases h8 : i = 8
    · subst h8
      have hm := hm0 (by omega)
      have : 1 * 128 ^ 8 ≤ m * 128 ^ 8 := Nat.mul_le_mul_right _ (by omega)
      omega
    · omega
  have hmn : m * 128 ^ i ≤ 9007199254740991 := by omega
  have hmm : m ≤ 9007199254740991 := Nat.le_trans (Nat.le_mul_of_pos_right _ (Nat.pow_pos (by decide))) hmn
  obtain ⟨c, r, hc, hcs⟩ : ∃ c r, varL m = c :: r ∧ ((m < 128 ∧ c = UInt8.ofNat m ∧ r = []) ∨ (¬ m < 128 ∧ c = UInt8.ofNat (m % 128 + 128) ∧ r = varL (m / 128))) := by
    by_cases h1 : m < 128
    · exact ⟨_, _, varL_small h1, .inl ⟨h1, rfl, rfl⟩⟩
    · exact ⟨_, _, varL_big h1, .inr ⟨h1, rfl, rfl⟩⟩
  have hl : varL n ++ rest = d ++ c :: (r ++ rest) := by rw [he, hc]; simp
  have hlen : d.length < (varL n ++ rest).length := by rw [hl]; simp
  unfold sh81_1
  obtain ⟨b, off, hix, hcell⟩ := Bytes.at (k := i) h (by omega)
  have hbyte : (varL n ++ rest)[i]'(by omega) = c := by
    have := byte_at hl hlen
    simpa [hd] using this
  rw [hbyte] at hcell
  have hne : ((i : Int) == ((varL n ++ rest).length : Int)) = false := by
    simp only [beq_eq_false_iff_ne, ne_eq]; omega
  try simp only [SSd, Nat.reduceAdd]
  refine br_split (fun e => ?_) (fun e => absurd e (by simp; omega))
  simp only [Bytes.len h, hne, hix, SSd, Nat.reduceAdd]
  refine rd1 (hcell _ _ (Ext.refl _)) ?_
  have hand := and_u8 ⟨c.toNat, c.toNat_lt⟩
  simp only at hand
  have hct := c.toNat_lt
  have hcm : c.toNat % 128 = m % 128 := by
    rcases hcs with ⟨h1, rfl, _⟩ | ⟨h1, rfl, _⟩ <;> simp <;> omega
  have hle : m % 128 * 128 ^ i ≤ m * 128 ^ i := Nat.mul_le_mul_right _ (Nat.mod_le _ _)
  have w7 : IntKind.i64.wrap (7 * (i : Int)) = 7 * (i : Int) := wrap_i64 _ (by omega)
  have wu : IntKind.u64.wrap ((m % 128 : Nat) : Int) = ((m % 128 : Nat) : Int) := wrap_u64 _ (by omega) (by omega)
  have hor := or_addU (n := acc) (y := m % 128) (i := 7 * i) (by rw [← pow128]; exact hacc) (by rw [← pow128]; omega)
  simp only [hand, hcm, w7, wu, shl7 hi7 (show m % 128 * 128 ^ i < 9223372036854775808 by omega), hor, SSd, Nat.reduceAdd]
  rw [← pow128]
  generalize hP : 128 ^ i = P at *
  refine br_split (fun e2 => ?_) (fun e2 => ?_)
  · obtain ⟨h1, h2, h3⟩ : ¬ m < 128 ∧ c = UInt8.ofNat (m % 128 + 128) ∧ r = varL (m / 128) := by
      rcases hcs with ⟨h1, h2, _⟩ | h
      · subst h2; simp at e2; omega
      · exact h
    rw [wrap_i64 _ (by omega)]
    have hpow : 128 ^ (i + 1) = P * 128 := by rw [Nat.pow_succ, hP]
    have hsplit : m * P = m % 128 * P + m / 128 * (P * 128) := by
      conv => lhs; rw [← Nat.mod_add_div m 128]
      rw [Nat.add_mul, Nat.mul_comm P 128, ← Nat.mul_assoc, Nat.mul_comm (m / 128) 128]
    refine Gh.done ⟨q - 1, by omega, rfl, rfl, i + 1, m / 128, acc + m % 128 * P, d ++ [c], by omega, rfl, ?_, by simp [hd], ?_, ?_, fun _ => by omega⟩
    · rw [he, hc, h3]; simp
    · rw [hpow]; omega
    · have : m % 128 * P ≤ 127 * P := Nat.mul_le_mul_right _ (by omega)
      rw [hpow]; omega
  · obtain ⟨h1, h2, h3⟩ : m < 128 ∧ c = UInt8.ofNat m ∧ r = [] := by
      rcases hcs with h | ⟨h1, h2, _⟩
      · exact h
      · subst h2; simp at e2; omega
    have hcn : c.toNat = m := by subst h2; simp; omega
    have hmm2 : m % 128 = m := Nat.mod_eq_of_lt h1
    have hL : (varL n).length = i + 1 := by rw [he, hc, h3]; simp [hd]
    rw [hmm2, ← hnn, hcn]
    have fin : sh81_3 ω (.int .u64 0) (.int .i64 0) (.int .i64 0) (.int .u64 n) (.int .i64 i) (.int .u8 m) (.bool false) (fun v => Gh (K v)) I' L' := by
      unfold sh81_3
      have h9 : ((i : Int) == 9) = false := by simp; omega
      simp only [h9, SSd, Nat.reduceAdd]
      unfold sh81_2
      try simp only [SSd, Nat.reduceAdd]
      rw [wrap_i64 _ (by omega)]
      rw [hL] at hk
      exact Gh.done hk
    refine gd_split (fun e3 => ?_) (fun e3 => fin)
    have hmz : ((m : Int) == 0) = false := by
      have := hm0 (by simp at e3; omega)
      simp; omega
    simp only [hmz, SSd, Nat.reduceAdd]
    exact fin
/-! ### A key -/
theorem esc_id : ∀ {p : List UInt8}, (0 : UInt8) ∉ p → esc p = p
  | [], _ => rfl
  | c :: p, h => by
    have hc : ¬ c = 0 := fun e => h (by rw [e]; exact List.mem_cons_self ..)
    have := esc_id (p := p) fun hm => h (List.mem_cons_of_mem _ hm)
    unfold esc at this ⊢
    rw [List.flatMap_cons, if_neg hc, this]; rfl
theorem zero_split : ∀ k : List UInt8, ∃ p, (0 : UInt8) ∉ p ∧ (k = p ∨ ∃ r, k = p ++ 0 :: r)
  | [] => ⟨[], by simp, .inl rfl⟩
  | c :: k => by
    by_cases h : c = 0
    · exact ⟨[], by simp, .inr ⟨k, by rw [h]; rfl⟩⟩
    · obtain ⟨p, h1, h2⟩ := zero_split k
      refine ⟨c :: p, fun hm => ?_, ?_⟩
      · rcases List.mem_cons.1 hm with e | hm
        · exact h e.symm
        · exact h1 hm
      · rcases h2 with rfl | ⟨r, rfl⟩
        · exact .inl rfl
        · exact .inr ⟨r, rfl⟩
theorem ktF_split (k : List UInt8) : ∃ p : List UInt8, (0 : UInt8) ∉ p ∧ ((k = p ∧ ktF k = p ++ [0, 1]) ∨ ∃ r, k = p ++ 0 :: r ∧ ktF k = p ++ 0 :: 255 :: ktF r) := by
  obtain ⟨p, h1, rfl | ⟨r, rfl⟩⟩ := zero_split k
  · exact ⟨k, h1, .inl ⟨rfl, by unfold ktF; rw [esc_id h1]⟩⟩
  · refine ⟨p, h1, .inr ⟨r, rfl, ?_⟩⟩
    unfold ktF
    rw [esc_append, esc_id h1]
    show p ++ ([0, 255] ++ esc r) ++ [0, 1] = _
    simp
theorem takek_spec {v : Value} {k rest : List UInt8} (h : Bytes I v (ktF k ++ rest)) (hl : k.length ≤ 1000000) (hr : rest.length ≤ 1000000) (hk : ∀ I' v', Ext I I' → Bytes I' v' k → K (.tuple #[v', .int .i64 (ktF k).length, .int .i64 0]) I' L) : Cal Tryz.prog ω 83 #[v] K I L := by
  refine cal83 ?_
  unfold sh83
  refine loop (fun q t I' L' => I' = I ∧ ∃ (at' : Nat) (pre k1 k2 : List UInt8) (XO : LH) (u : Value), q = k2.length ∧ t = (.slice none 0 0, .int .i64 0, .int .i64 0, u, .int .i64 at', ()) ∧ L' = XO ++ L ∧ OB XO u k1 ∧ ktF k = pre ++ ktF k2 ∧ pre.length = at' ∧ k = k1 ++ k2) k.length ⟨rfl, 0, [], [], k, [], _, rfl, rfl, rfl, SlO.none _ 1, rfl, rfl, rfl⟩ ?_
  rintro q t I' L' ⟨rfl, at', pre, k1, k2, XO, u, rfl, rfl, rfl, hO, hkt, hat, hkk⟩
  have hlenk : (ktF k).length ≤ 2000002 := by
    have h2 := esc_len k
    have h3 := List.count_le_length (a := (0 : UInt8)) (l := k)
    simp only [ktF, List.length_append, List.length_cons, List.length_nil]; omega
  have hk1 : k1.length ≤ k.length := by rw [hkk]; simp
  obtain ⟨p, hp0, hcase⟩ := ktF_split k2
  obtain ⟨c, r, hk2, hcr⟩ : ∃ (c : UInt8) (r : List UInt8), ktF k2 = p ++ 0 :: c :: r ∧ ((c = 1 ∧ r = [] ∧ k2 = p) ∨ (c = 255 ∧ ∃ k3, r = ktF k3 ∧ k2 = p ++ 0 :: k3)) := by
    rcases hcase with ⟨e1, e2⟩ | ⟨k3, e1, e2⟩
    · exact ⟨1, [], e2, .inl ⟨rfl, rfl, e1⟩⟩
    · exact ⟨255, ktF k3, e2, .inr ⟨rfl, k3, rfl, e1⟩⟩
  have hall : ktF k ++ rest = (pre ++ p) ++ 0 :: c :: (r ++ rest) := by rw [hkt, hk2]; simp
  have hN : (ktF k ++ rest).length = at' + p.length + 2 + (r ++ rest).length := by rw [hall]; simp; omega
  have hN2 : (ktF k ++ rest).length ≤ 3000002 := by rw [List.length_append]; omega
  obtain ⟨vd, hsd, hbd⟩ := Bytes.drop h (n := at') (by omega)
  have hdrop : (ktF k ++ rest).drop at' = p ++ 0 :: c :: (r ++ rest) := by
    rw [hall, List.append_assoc, List.drop_left' hat]
  rw [hdrop] at hbd
  obtain ⟨vp, hsp, hbp⟩ := Bytes.part h (lo := at') (hi := at' + p.length) (by omega) (by omega)
  have hpart : ((ktF k ++ rest).drop at').take (at' + p.length - at') = p := by
    rw [hdrop, Nat.add_sub_cancel_left, List.take_left' rfl]
  rw [hpart] at hbp
  have hsp' : slcV 1 v (some (.int .i64 at')) (some (.int .i64 ((at' : Int) + p.length))) none = some vp := by rw [← hsp]; congr 3
  obtain ⟨bb, off, hix, hcell⟩ := Bytes.at (k := at' + p.length + 1) h (by omega)
  have hbyte : (ktF k ++ rest)[at' + p.length + 1]'(by omega) = c := by
    have e : ∀ (l : List UInt8) (hl : l = (pre ++ p) ++ 0 :: c :: (r ++ rest)) (hi : at' + p.length + 1 < l.length), l[at' + p.length + 1]'hi = c := by
      intro l hl hi
      subst hl
      rw [List.getElem_append_right (by simp; omega)]
      simp [hat]
    exact e _ hall _
  rw [hbyte] at hcell
  unfold sh83_1
  simp only [hsd, SSd, Nat.reduceAdd]
  refine call (indexByte_spec hbd rfl hp0 ?_)
  try simp only [SSd, Nat.reduceAdd]
  refine gd_split (fun e => ?_) (fun e => absurd e (by simp))
  have w1 : IntKind.i64.wrap ((at' : Int) + p.length) = (at' : Int) + p.length := wrap_i64 _ (by omega)
  have w2 : IntKind.i64.wrap ((at' : Int) + p.length + 1) = (at' : Int) + p.length + 1 := wrap_i64 _ (by omega)
  have w3 : IntKind.i64.wrap ((p.length : Int) + 2) = (p.length : Int) + 2 := wrap_i64 _ (by omega)
  have w4 : IntKind.i64.wrap ((at' : Int) + ((p.length : Int) + 2)) = ((at' + p.length + 2 : Nat) : Int) := by rw [wrap_i64 _ (by omega)]; omega
  have w5 : IntKind.i64.wrap (((at' + p.length + 2 : Nat) : Int) - 1) = ((at' + p.length + 1 : Nat) : Int) := by rw [wrap_i64 _ (by omega)]; omega
  have hne : ((at' : Int) + p.length + 1 == ((ktF k ++ rest).length : Int)) = false := by
    simp only [beq_eq_false_iff_ne, ne_eq, hN]; omega
  simp only [w1, w2, Bytes.len h, hne, hsp', SSd, Nat.reduceAdd]
  have hpk : p.length ≤ k2.length := by rcases hcr with ⟨_, _, e⟩ | ⟨_, k3, _, e⟩ <;> rw [e] <;> simp
  have hk2l : k2.length ≤ k.length := by rw [hkk]; simp
  refine ob_app (X6 := XO) hO (SlI.news hbp) (by omega) (fun X6 u6 h6 => ?_)
  simp only [w3, w4, w5, hix, SSd, Nat.reduceAdd]
  refine rd1 (hcell _ _ (Ext.refl _)) ?_
  try simp only [SSd, Nat.reduceAdd]
  rcases hcr with ⟨rfl, rfl, hkp⟩ | ⟨rfl, k3, hr3, hkp⟩
  · have e1 : (((1 : UInt8).toNat : Int) == 1) = true := rfl
    simp only [e1, SSd, Nat.reduceAdd]
    unfold sh83_3
    have hkl : (ktF k).length = at' + p.length + 2 := by rw [hkt, hk2]; simp; omega
    rw [← hkl]
    have hke : k1 ++ p = k := by rw [hkk, hkp]
    rw [hke] at h6
    refine cal_pre (OB.freeze h6 (fun I2 hI2 hB => Gh.done ?_))
    refine call (clipB_spec hB (fun v' hv' => ?_))
    try simp only [SSd, Nat.reduceAdd]
    exact Gh.done (hk I2 v' hI2 hv')
  · have e1 : (((255 : UInt8).toNat : Int) == 1) = false := rfl
    have e2 : (((255 : UInt8).toNat : Int) == 255) = true := rfl
    simp only [e1, SSd, Nat.reduceAdd]
    unfold sh83_4
    simp only [e2, SSd, Nat.reduceAdd]
    refine b_appG (x := 0) h6 (by simp; omega) (fun X1 X7 v7 h7 => ?_)
    refine Gh.to (X7 ++ L) (Gh.done (Gh.done ⟨k3.length, by rw [hkp]; simp; omega, rfl, at' + p.length + 2, pre ++ p ++ [0, 255], k1 ++ p ++ [0], k3, X7, v7, rfl, rfl, rfl, h7, ?_, by simp; omega, by rw [hkk, hkp]; simp⟩))
    rw [hkt, hk2, hr3]; simp
/-! ### A version -/
theorem rver_spec {v : Value} {x : TVer} (h : Bytes I v (verText x)) (hd : x.fDel = true → x.fValue = []) (hk : K (.tuple #[vv ⟨z0, x.fDel, x.fValue⟩, .bool true]) I L) : Cal Tryz.prog ω 82 #[v] K I L := by
  obtain ⟨c, hc, hv⟩ : ∃ c : UInt8, verText x = c :: x.fValue ∧ ((c = 1 ∧ x.fDel = true) ∨ (c = 0 ∧ x.fDel = false)) := by
    unfold verText
    cases hdd : x.fDel with
    | true => exact ⟨1, by rw [hd hdd]; rfl, .inl ⟨rfl, rfl⟩⟩
    | false => exact ⟨0, by simp, .inr ⟨rfl, rfl⟩⟩
  rw [hc] at h
  obtain ⟨b, off, hix, hcell⟩ := Bytes.at (k := 0) h (by simp)
  have hix' : ixV 1 v (.int .i64 0) = some (.pointer (some ⟨b, off, none⟩)) := hix
  obtain ⟨vd, hsd, hbd⟩ := Bytes.drop h (n := 1) (by simp)
  have hsd' : slcV 1 v (some (.int .i64 1)) none none = some vd := hsd
  simp only [List.drop_succ_cons, List.drop_zero] at hbd
  simp only [List.getElem_cons_zero] at hcell
  have hl : (((c :: x.fValue).length : Int) == 0) = false := by simp; omega
  refine cal82 ?_
  unfold sh82
  refine newI (fun b1 => ?_)
  simp only [Bytes.len h, hl, hix', SSd, Nat.reduceAdd]
  refine rd1 (hcell _ _ (Ext.refl _)) ?_
  rcases hv with ⟨rfl, hdd⟩ | ⟨rfl, hdd⟩
  · have hx := hd hdd
    have e1 : decide ((1 : Int) < ((1 : UInt8).toNat : Int)) = false := rfl
    have e2 : (((1 : UInt8).toNat : Int) == 1) = true := rfl
    have e3 : decide ((1 : Int) < (((1 : UInt8) :: x.fValue).length : Int)) = false := by rw [hx]; rfl
    simp only [e1, SSd, Nat.reduceAdd]
    refine rd1 (hcell _ _ (Ext.refl _)) ?_
    simp only [e2, e3, SSd, Nat.reduceAdd]
    refine drawC ?_
    refine rdCS (hcell I [] (Ext.refl _)) (Ext.refl _) ?_
    simp only [e2, hsd', SSd, Nat.reduceAdd]
    refine bs_I hbd (Ext.refl _) ?_
    try simp only [SSd, Nat.reduceAdd]
    refine stB rfl rfl (one_all rfl) ?_
    refine rdP _ rfl rfl ?_
    rw [hdd] at hk
    exact Gh.to L (Gh.done hk)
  · have e1 : decide ((1 : Int) < ((0 : UInt8).toNat : Int)) = false := rfl
    have e2 : (((0 : UInt8).toNat : Int) == 1) = false := rfl
    simp only [e1, SSd, Nat.reduceAdd]
    refine rd1 (hcell _ _ (Ext.refl _)) ?_
    simp only [e2, SSd, Nat.reduceAdd]
    refine drawC ?_
    refine rdCS (hcell I [] (Ext.refl _)) (Ext.refl _) ?_
    simp only [e2, hsd', SSd, Nat.reduceAdd]
    refine bs_I hbd (Ext.refl _) ?_
    try simp only [SSd, Nat.reduceAdd]
    refine stB rfl rfl (one_all rfl) ?_
    refine rdP _ rfl rfl ?_
    rw [hdd] at hk
    exact Gh.to L (Gh.done hk)
end
end Go.Proofs.YtmnnnoinfhiilaaGreatDoor
-- S3
set_option linter.unusedSimpArgs false
set_option linter.unusedVariables false
namespace Go.Proofs.YtmnnnoinfhiilaaGreatDoor
open Go.SL
set_option maxRecDepth 10000
section
variable {ω : Om} {I : Imm} {L : LH} {K : Value → M}
theorem loadf_spec {b : Nat} {X F : LH} {s : Sp} {nt : Nts} {v1 v2 : Value} {fl : TStamp} (hS : SpR I b X s nt) (h1 : Bytes I v1 [102]) (h2 : Bytes I v2 (stF fl)) (hr : rightB fl = true)
    (hk : ∀ X' I', Ext I I' → SpR I' b X' ⟨s.rows, fl⟩ nt → K (.bool true) I' (X' ++ F)) : Cal Tryz.prog ω 34 #[pt b, .agg #[v1, v2]] K I (X ++ F) := by
  obtain ⟨a1, c1, rfl⟩ := Bytes.form h1
  obtain ⟨a2, c2, rfl⟩ := Bytes.form h2
  obtain ⟨ps, m, ch, kv, es, clock, KX, RX, NX, hp, hF⟩ := hS
  refine Cal.perm (L' := (b, spO m kv s.floor ch) :: (((m, .map es clock) :: (KX ++ (RX ++ NX))) ++ F)) (ms_perm (by rw [ms_app, ms_eq hp]; ((try simp only [ms_cons, ms_app, ms_nil, ms_nil']); (try ac_rfl)))) ?_
  refine cal34 ?_
  unfold sh34
  refine newI (fun bx => ?_)
  try simp only [SSd, Nat.reduceAdd]
  refine rdb ?_
  refine call (hread_spec h2 hr (fun I1 hI1 => ?_))
  try simp only [SSd, Nat.reduceAdd]
  refine newI (fun ba => ?_)
  refine stB rfl rfl (one_all rfl) ?_
  refine rdP _ rfl rfl ?_
  try simp only [SSd, Nat.reduceAdd]
  refine stP _ rfl rfl rfl ?_ ?_
  · rfl
  simp only [beq_self_eq_true, SSd, Nat.reduceAdd]
  refine rdb ?_
  simp only [List.length_singleton, Int.natCast_one, beq_self_eq_true, SSd, Nat.reduceAdd]
  refine Gh.drop ((List.sublist_cons_self _ _).trans (List.sublist_cons_self _ _)) (Gh.done ?_)
  exact hk ((b, spO m kv fl ch) :: ((m, .map es clock) :: (KX ++ (RX ++ NX)))) I1 hI1 ⟨ps, m, ch, kv, es, clock, KX, RX, NX, List.Perm.refl _, ⟨hF.map, hF.keys, hF.rows, hF.nts.mono hI1⟩⟩
theorem loadi_spec {b : Nat} {X F : LH} {s : Sp} {nt : Nts} {v1 v2 : Value} {k : List UInt8} {it : Itn} (hS : SpR I b X s nt) (hok : SpOk s) (hlen : s.rows.length ≤ 100000000) (hko : keyOk k = true) (ht : txnB it.txn = true) (hv : VerOk it.ver) (h1 : Bytes I v1 (105 :: k)) (h2 : Bytes I v2 (stF it.ver.fAt ++ varL it.txn.toNat ++ verText it.ver))
    (hk : ∀ A B r X' I', Ext I I' → Slot A k B r s.rows → SpR I' b X' ⟨A ++ ⟨k, r.vs, it⟩ :: B, s.floor⟩ nt → K (.bool true) I' (X' ++ F)) : Cal Tryz.prog ω 35 #[pt b, .agg #[v1, v2]] K I (X ++ F) := by
  obtain ⟨⟨at', del, val⟩, txn⟩ := it
  have htx : 1 ≤ txn ∧ txn ≤ 9007199254740991 := by simpa [txnB] using ht
  obtain ⟨n, rfl⟩ : ∃ n : Nat, txn = n := ⟨txn.toNat, by omega⟩
  simp only [Int.toNat_natCast] at h2
  obtain ⟨vk, hsk, hbk⟩ := Bytes.drop h1 (n := 1) (by simp)
  have hsk' : slcV 1 v1 (some (.int .i64 1)) none none = some vk := hsk
  simp only [List.drop_succ_cons, List.drop_zero] at hbk
  rw [List.append_assoc] at h2
  have hvl := varL_len 8 n (by omega) (by omega)
  have htl : (verText ⟨at', del, val⟩).length ≤ 10001 := by
    have := hv.len
    unfold verText; split <;> simp at * <;> omega
  have hN : (stF at' ++ (varL n ++ verText ⟨at', del, val⟩)).length = 9 + ((varL n).length + (verText ⟨at', del, val⟩).length) := by rw [List.length_append, List.length_append, stF_len]
  obtain ⟨vs9, hs9, hb9⟩ := Bytes.take h2 (n := 9) (by omega)
  have hs9' : slcV 1 v2 none (some (.int .i64 9)) none = some vs9 := hs9
  rw [List.take_left' (stF_len at')] at hb9
  obtain ⟨vr, hsr, hbr⟩ := Bytes.drop h2 (n := 9) (by omega)
  have hsr' : slcV 1 v2 (some (.int .i64 9)) none none = some vr := hsr
  rw [List.drop_left' (stF_len at')] at hbr
  obtain ⟨vt, hst, hbt⟩ := Bytes.drop h2 (n := 9 + (varL n).length) (by omega)
  have hdt : (stF at' ++ (varL n ++ verText ⟨at', del, val⟩)).drop (9 + (varL n).length) = verText ⟨at', del, val⟩ := by
    rw [← List.append_assoc, List.drop_left' (by rw [List.length_append, stF_len])]
  rw [hdt] at hbt
  have hst' : slcV 1 v2 (some (.int .i64 (9 + ((varL n).length : Int)))) none none = some vt := by rw [← hst]; congr 3
  have hl2 : lenV v2 = some (.int .i64 ((9 + ((varL n).length + (verText ⟨at', del, val⟩).length) : Nat) : Int)) := by rw [Bytes.len h2, hN]
  obtain ⟨a1, c1, e1⟩ := Bytes.form h1
  obtain ⟨a2, c2, e2⟩ := Bytes.form h2
  have o1 : v1.oneCell' = true := by rw [e1]; rfl
  have o2 : v2.oneCell' = true := by rw [e2]; rfl
  refine cal35 ?_
  unfold sh35
  refine newI (fun bx => ?_)
  try simp only [SSd, Nat.reduceAdd]
  refine rdb ?_
  simp only [hsk', SSd, Nat.reduceAdd]
  refine call (iskey_spec hbk ?_)
  simp only [hko, Bool.not_true, SSd, Nat.reduceAdd]
  refine rdb ?_
  simp only [hl2, SSd, Nat.reduceAdd]
  refine br_split (fun e => absurd e (by simp; omega)) (fun e => ?_)
  refine rdb ?_
  simp only [hs9', SSd, Nat.reduceAdd]
  refine call (hread_spec hb9 hv.right (fun I1 hI1 => ?_))
  try simp only [SSd, Nat.reduceAdd]
  refine newI (fun ba => ?_)
  refine stB rfl rfl (one_all rfl) ?_
  try simp only [SSd, Nat.reduceAdd]
  refine rdb ?_
  simp only [hsr', SSd, Nat.reduceAdd]
  refine call (taken_spec (hbr.mono hI1) (by omega) ?_)
  have hgt : decide (9007199254740991 < (n : Int)) = false := by simp; omega
  have hz : ((n : Int) == 0) = false := by simp; omega
  have w9 : IntKind.i64.wrap (9 + ((varL n).length : Int)) = 9 + ((varL n).length : Int) := wrap_i64 _ (by omega)
  have wn : IntKind.i64.wrap (n : Int) = (n : Int) := wrap_i64 _ (by omega)
  simp only [bne_self_eq_false, hgt, hz, w9, wn, SSd, Nat.reduceAdd]
  refine rdb ?_
  simp only [hst', SSd, Nat.reduceAdd]
  refine call (rver_spec (x := ⟨at', del, val⟩) (hbt.mono hI1) hv.del ?_)
  try simp only [SSd, Nat.reduceAdd]
  refine newI (fun bv => ?_)
  refine stB rfl rfl (one_all rfl) ?_
  refine rdP _ rfl rfl ?_
  try simp only [SSd, Nat.reduceAdd]
  refine stP _ rfl rfl rfl rfl ?_
  refine draw (Stay I1 [(bv, .cells #[.int .i64 at'.fWall, .int .i64 at'.fLogic, .bool del, sstr val] 104 (0, 0)), (bx, .cells #[v1, v2] 86 (0, 0))]) ⟨Ext.refl _, fun y hy => by simp only [List.mem_cons, List.not_mem_nil, or_false] at hy ⊢; rcases hy with rfl | rfl <;> simp⟩ ?_
  try simp only [SSd, Nat.reduceAdd]
  refine rdbS ?_
  simp only [hsk', SSd, Nat.reduceAdd]
  refine bs_I (hbk.mono hI1) (Ext.refl _) ?_
  generalize hvB : ((bv, Obj.cells #[.int .i64 at'.fWall, .int .i64 at'.fLogic, .bool del, sstr val] 104 (0, 0)) : Nat × Obj) = vB
  generalize hxB : ((bx, Obj.cells #[v1, v2] 86 (0, 0)) : Nat × Obj) = xB
  generalize ((ba, Obj.cells #[.int .i64 at'.fWall, .int .i64 at'.fLogic] 30 (0, 0)) : Nat × Obj) = aB
  refine callG (Cal.perm (L' := X ++ (vB :: aB :: xB :: F)) (ms_perm (by ((try simp only [ms_cons, ms_app, ms_nil, ms_nil']); (try ac_rfl)))) ?_)
  have main : ∀ (A B : List Row) (vs : List TVer) (ps : List Nat) (p : Nat) (sl : Value) (Y R : LH) (o : Itn), VsO Y sl vs → SpX I1 b ps R A k B s.floor nt p → (∀ X', SpR I1 b X' ⟨A ++ ⟨k, vs, ⟨⟨at', del, val⟩, n⟩⟩ :: B, s.floor⟩ nt → K (.bool true) I1 (X' ++ F)) →
      (Keep (Stay I1 [vB, xB]) (fun v43 => Rv (some (Stay I1 [vB, xB])) (ldNR 4 (pt bv)) fun v44 => Pv (bldV #[.int .i64 0, .int .i64 0, .bool false, .string (ByteArray.mk #[]), .int .i64 0] #[(0, 4), (4, 1)] [(0, v44), (1, .int .i64 n)]) fun v46 =>
        Pv (nilV v43) fun v47 => Pv (fldV 1 v47) fun v48 => Sto 5 v48 v46 (gh fun _ => Gh (K (.bool true)))) (pt p)) I1 ((p, cellO sl o) :: (Y ++ (R ++ (vB :: aB :: xB :: F)))) := by
    intro A B vs ps p sl Y R o hvs hX hK
    refine keepS (Ext.refl _) (fun y hy => by
      simp only [List.mem_cons, List.not_mem_nil, or_false] at hy
      rcases hy with rfl | rfl <;> simp) ?_
    subst hvB
    refine rdPS _ rfl rfl ?_
    try simp only [SSd, Nat.reduceAdd]
    refine stP _ rfl rfl rfl rfl ?_
    have hS' := hX.close ⟨k, vs, ⟨⟨at', del, val⟩, n⟩⟩ sl Y ((p, cellO sl ⟨⟨at', del, val⟩, n⟩) :: (Y ++ R)) rfl hvs (List.Perm.refl _)
    have hK' := hK _ ⟨ps, hS'⟩
    refine Gh.perm (L' := _ :: aB :: xB :: (((p, cellO sl ⟨⟨at', del, val⟩, n⟩) :: (Y ++ R)) ++ F)) (ms_perm (by ((try simp only [ms_cons, ms_app, ms_nil, ms_nil']); (try ac_rfl)))) ?_
    exact Gh.drop (((List.sublist_cons_self _ _).trans (List.sublist_cons_self _ _)).trans (List.sublist_cons_self _ _)) (Gh.done hK')
  refine cell_spec (hS.mono hI1) hok.rise hlen (fun ps A r B p sl Y R e hkr hm hp hv' hX => ?_) (fun ps A B p X' R e hm hp hX => ?_)
  · refine Gh.perm (L' := (p, cellO sl r.it) :: (Y ++ (R ++ (vB :: aB :: xB :: F)))) (ms_perm (by rw [ms_app, ms_eq hp]; ((try simp only [ms_cons, ms_app, ms_nil, ms_nil']); (try ac_rfl)))) (Gh.done ?_)
    exact main A B r.vs ps p sl Y R r.it hv' hX (fun X' hX' => hk A B r X' I1 hI1 ⟨hm, hkr, .inl e⟩ hX')
  · refine Gh.perm (L' := (p, cellO (.slice none 0 0) noIt) :: ([] ++ (R ++ (vB :: aB :: xB :: F)))) (ms_perm (by rw [ms_app, ms_eq hp]; ((try simp only [ms_cons, ms_app, ms_nil, ms_nil']); (try ac_rfl)))) (Gh.done ?_)
    exact main A B [] ps p _ [] R noIt (SlO.none _ _) hX (fun X' hX' => hk A B ⟨k, [], noIt⟩ X' I1 hI1 ⟨hm, rfl, .inr ⟨e, rfl⟩⟩ hX')
theorem cmp85_spec {x y : TVer} (hk : K (.int .i64 (scmp x.fAt y.fAt)) I L) : Cal Tryz.prog ω 85 #[vv x, vv y] K I L := by
  refine cal85 ?_
  unfold sh85
  refine newI (fun b1 => newI (fun b2 => ?_))
  try simp only [SSd, Nat.reduceAdd]
  refine rdP _ rfl rfl ?_
  refine rdP _ rfl rfl ?_
  refine call (hcompare_spec (x := x.fAt) (y := y.fAt) ?_)
  exact Gh.to L (Gh.done hk)
theorem issorted_spec {v : Value} {vs : List TVer} {L0 : LH} [hsub : LSub L0 L] (h : RL TVerV 4 I L0 v vs) (hrise : vs.Pairwise fun a b => bhd b.fAt a.fAt = true) (hl : vs.length ≤ 100000000) (hk : K (.bool true) I L) : Cal Tryz.prog ω 84 #[v, .func (.func 85) #[] #[]] K I L := by
  refine cal84 ?_
  unfold sh84
  simp only [RL.len h, SSd, Nat.reduceAdd]
  refine loop (fun n t I' L' => I' = I ∧ L' = L ∧ ∃ i : Int, (n : Int) = i + 1 ∧ i < vs.length ∧ t = (.bool false, .int .i64 i, ())) vs.length ⟨rfl, rfl, (vs.length : Int) - 1, by omega, by omega, by rw [wrap_i64 _ (by omega)]⟩ ?_
  rintro n t I' L' ⟨rfl, rfl, i, hn, hi, rfl⟩
  unfold sh84_1
  try simp only [SSd, Nat.reduceAdd]
  refine br_split (fun e => ?_) (fun e => Gh.done hk)
  have hi0 : 0 < i := by simpa using e
  obtain ⟨b1, o1, c1, hix1, hl1, hc1, hcc1⟩ := RL.ix h (i := i) (by omega) (by omega)
  obtain ⟨b2, o2, c2, hix2, hl2, hc2, hcc2⟩ := RL.ix h (i := i - 1) (by omega) (by omega)
  have hlt : bhd (geti vs i).fAt (geti vs (i - 1)).fAt = true := by
    obtain ⟨j, rfl⟩ : ∃ j : Nat, i = (j : Int) + 1 := ⟨(i - 1).toNat, by omega⟩
    have e1 : ((j : Int) + 1 - 1) = (j : Int) := by omega
    have e2 : ((j : Int) + 1) = ((j + 1 : Nat) : Int) := by omega
    rw [e1, e2, geti_nat (by omega), geti_nat (by omega)]
    exact List.pairwise_iff_getElem.1 hrise j (j + 1) (by omega) (by omega) (by omega)
  generalize geti vs i = x at *
  generalize geti vs (i - 1) = y at *
  have hx : c1 = _ := hc1
  have hy : c2 = _ := hc2
  subst hx hy
  refine drawC ?_
  have w1 : IntKind.i64.wrap (i - 1) = i - 1 := wrap_i64 _ (by omega)
  simp only [hix1, hix2, w1, SSd, Nat.reduceAdd]
  refine rdNS hl1 (fun I2 L2 hS => hcc1 I2 L2 hS.1 (fun z hz => hS.2 z (hsub.sub z hz))) ?_
  refine rdNS hl2 (fun I2 L2 hS => hcc2 I2 L2 hS.1 (fun z hz => hS.2 z (hsub.sub z hz))) ?_
  refine calV_func (by kernel_rfl) ?_
  refine call (cmp85_spec (x := x) (y := y) ?_)
  have hc : decide (scmp x.fAt y.fAt < 0) = false := by
    have := scmp_bhd x.fAt y.fAt
    rw [hlt] at this
    simp at this ⊢; omega
  simp only [hc, w1, SSd, Nat.reduceAdd]
  exact Gh.done ⟨n - 1, by omega, rfl, rfl, i - 1, by omega, by omega, rfl⟩
theorem loadv_spec {b : Nat} {X F : LH} {s : Sp} {nt : Nts} {v1 v2 : Value} {k : List UInt8} {v : TVer} (hS : SpR I b X s nt) (hok : SpOk s) (hlen : s.rows.length ≤ 100000000) (hvs : ∀ r ∈ s.rows, r.vs.length ≤ 10000000) (hko : keyOk k = true) (hv : VerOk v) (h1 : Bytes I v1 (vkey k v)) (h2 : Bytes I v2 (verText v))
    (hrise : ∀ A B r, Slot A k B r s.rows → (r.vs ++ [v]).Pairwise fun a b => bhd b.fAt a.fAt = true)
    (hk : ∀ A B r X' I', Ext I I' → Slot A k B r s.rows → SpR I' b X' ⟨A ++ ⟨k, r.vs ++ [v], r.it⟩ :: B, s.floor⟩ nt → K (.bool true) I' (X' ++ F)) : Cal Tryz.prog ω 36 #[pt b, .agg #[v1, v2]] K I (X ++ F) := by
  obtain ⟨at', del, val⟩ := v
  have hkl := keyOk_len hko
  have hktl : (ktF k).length ≤ 250 := by
    have h2 := esc_len k
    have h3 := List.count_le_length (a := (0 : UInt8)) (l := k)
    simp only [ktF, List.length_append, List.length_cons, List.length_nil]; omega
  unfold vkey at h1
  have hN : (118 :: (ktF k ++ stF at')).length = 1 + (ktF k).length + 9 := by simp [stF_len]; omega
  obtain ⟨vk, hsk, hbk⟩ := Bytes.drop h1 (n := 1) (by simp)
  have hsk' : slcV 1 v1 (some (.int .i64 1)) none none = some vk := hsk
  simp only [List.drop_succ_cons, List.drop_zero] at hbk
  obtain ⟨vt, hst, hbt⟩ := Bytes.drop h1 (n := 1 + (ktF k).length) (by rw [hN]; omega)
  have hdt : (118 :: (ktF k ++ stF at')).drop (1 + (ktF k).length) = stF at' := by
    rw [Nat.add_comm, List.drop_succ_cons, List.drop_left' rfl]
  rw [hdt] at hbt
  have hst' : slcV 1 v1 (some (.int .i64 (1 + ((ktF k).length : Int)))) none none = some vt := by rw [← hst]; congr 3
  obtain ⟨a1, c1, e1⟩ := Bytes.form h1
  obtain ⟨a2, c2, e2⟩ := Bytes.form h2
  have o1 : v1.oneCell' = true := by rw [e1]; rfl
  have o2 : v2.oneCell' = true := by rw [e2]; rfl
  have w1 : IntKind.i64.wrap (1 + ((ktF k).length : Int)) = 1 + ((ktF k).length : Int) := wrap_i64 _ (by omega)
  refine cal36 ?_
  unfold sh36
  refine newI (fun bx => ?_)
  try simp only [SSd, Nat.reduceAdd]
  refine rdb ?_
  simp only [hsk', SSd, Nat.reduceAdd]
  refine call (takek_spec hbk (by omega) (by rw [stF_len]; omega) (fun I1 vk2 hI1 hbk2 => ?_))
  simp only [bne_self_eq_false, SSd, Nat.reduceAdd]
  refine call (iskey_spec hbk2 ?_)
  simp only [hko, Bool.not_true, SSd, Nat.reduceAdd]
  refine rdb ?_
  simp only [w1, hst', SSd, Nat.reduceAdd]
  refine call (hread_spec (hbt.mono hI1) hv.right (fun I2 hI2 => ?_))
  try simp only [SSd, Nat.reduceAdd]
  refine newI (fun ba => ?_)
  refine stB rfl rfl (one_all rfl) ?_
  try simp only [SSd, Nat.reduceAdd]
  refine rdb ?_
  refine call (rver_spec (x := ⟨at', del, val⟩) (h2.mono (hI1.trans hI2)) hv.del ?_)
  try simp only [SSd, Nat.reduceAdd]
  refine newI (fun bv => ?_)
  refine stB rfl rfl (one_all rfl) ?_
  refine rdP _ rfl rfl ?_
  try simp only [SSd, Nat.reduceAdd]
  refine stP _ rfl rfl rfl rfl ?_
  simp only [bne_self_eq_false, Bool.not_true, SSd, Nat.reduceAdd]
  refine bs_N (hbk2.mono hI2) (Ext.refl _) ?_
  generalize hvB : ((bv, Obj.cells #[.int .i64 at'.fWall, .int .i64 at'.fLogic, .bool del, sstr val] 104 (0, 0)) : Nat × Obj) = vB
  generalize ((bx, Obj.cells #[v1, v2] 86 (0, 0)) : Nat × Obj) = xB
  generalize ((ba, Obj.cells #[.int .i64 at'.fWall, .int .i64 at'.fLogic] 30 (0, 0)) : Nat × Obj) = aB
  refine callG (Cal.perm (L' := X ++ (vB :: aB :: xB :: F)) (ms_perm (by ((try simp only [ms_cons, ms_app, ms_nil, ms_nil']); (try ac_rfl)))) ?_)
  have hI12 := hI1.trans hI2
  have main : ∀ (A B : List Row) (vs : List TVer) (ps : List Nat) (p : Nat) (sl : Value) (Y R : LH) (o : Itn), VsO Y sl vs → vs.length ≤ 10000000 → (vs ++ [(⟨at', del, val⟩ : TVer)]).Pairwise (fun a b => bhd b.fAt a.fAt = true) → SpX I2 b ps R A k B s.floor nt p → (∀ X', SpR I2 b X' ⟨A ++ ⟨k, vs ++ [⟨at', del, val⟩], o⟩ :: B, s.floor⟩ nt → K (.bool true) I2 (X' ++ F)) →
      (Draw fun S => Rv (some S) (ld1R (pt p)) fun v34 => Rv (some S) (ldNR 4 (pt bv)) fun v35 => BldS 104 4 #[.int .i64 0, .int .i64 0, .bool false, .string (ByteArray.mk #[])] 1 [(0, v35)] (gh (Keep S fun v36 => App 104 4 40 #[.int .i64 0, .int .i64 0, .bool false, .string (ByteArray.mk #[])] v34 v36 (gh fun v37 =>
        Sto 1 (pt p) v37 (gh fun _ => Rv none (ld1R (pt p)) fun v42 => Cal Tryz.prog ω 84 #[v42, .func (.func 85) #[] #[]] (gh fun v43 => Gh (K v43))))))) I2 ((p, cellO sl o) :: (Y ++ (R ++ (vB :: aB :: xB :: F)))) := by
    intro A B vs ps p sl Y R o hvo hvl hpr hX hK
    obtain ⟨sa, sc, rfl⟩ := hvo.form
    subst hvB
    refine drawC ?_
    refine rdbS ?_
    refine rdPS _ rfl rfl ?_
    refine bld_one rfl (by omega) rfl (fun X1 u hX1 => ?_)
    refine keepC (Ext.refl _) ?_
    refine app_own (X := Y) (news := verC ⟨at', del, val⟩) rfl hvo (hX1.news (fun x hx => List.mem_append_left _ hx)) (one_all rfl) (by omega) (by omega) (fun Y2 sl2 hY2 => ?_)
    obtain ⟨sa3, sc3, rfl⟩ := hY2.form
    refine st1 rfl ?_
    refine rdb ?_
    have hv2 : VsO Y2 (.slice sa3 (vs.length + 1) sc3) (vs ++ [⟨at', del, val⟩]) := by
      unfold VsO
      rw [versC_append, List.length_append]
      exact hY2
    refine call (issorted_spec (L0 := Y2) (hv2.rl fun _ h => h) hpr (by simp; omega) ?_)
    have hS' := hX.close ⟨k, vs ++ [⟨at', del, val⟩], o⟩ _ Y2 ((p, cellO (.slice sa3 (vs.length + 1) sc3) o) :: (Y2 ++ R)) rfl hv2 (List.Perm.refl _)
    have hK' := hK _ ⟨ps, hS'⟩
    refine Gh.perm (L' := (X1 ++ ((bv, Obj.cells #[.int .i64 at'.fWall, .int .i64 at'.fLogic, .bool del, sstr val] 104 (0, 0)) :: aB :: xB :: [])) ++ (((p, cellO (.slice sa3 (vs.length + 1) sc3) o) :: (Y2 ++ R)) ++ F)) (ms_perm (by ((try simp only [ms_cons, ms_app, ms_nil, ms_nil']); (try ac_rfl)))) (Gh.drop (List.sublist_append_right ..) (Gh.done hK'))
  refine cell_spec (hS.mono hI12) hok.rise hlen (fun ps A r B p sl Y R e hkr hm hp hv' hX => ?_) (fun ps A B p X' R e hm hp hX => ?_)
  · refine Gh.perm (L' := (p, cellO sl r.it) :: (Y ++ (R ++ (vB :: aB :: xB :: F)))) (ms_perm (by rw [ms_app, ms_eq hp]; ((try simp only [ms_cons, ms_app, ms_nil, ms_nil']); (try ac_rfl)))) (Gh.done ?_)
    exact main A B r.vs ps p sl Y R r.it hv' (hvs r (by rw [e]; simp)) (hrise A B r ⟨hm, hkr, .inl e⟩) hX (fun X' hX' => hk A B r X' I2 hI12 ⟨hm, hkr, .inl e⟩ hX')
  · refine Gh.perm (L' := (p, cellO (.slice none 0 0) noIt) :: ([] ++ (R ++ (vB :: aB :: xB :: F)))) (ms_perm (by rw [ms_app, ms_eq hp]; ((try simp only [ms_cons, ms_app, ms_nil, ms_nil']); (try ac_rfl)))) (Gh.done ?_)
    exact main A B [] ps p _ [] R noIt (SlO.none _ _) (by simp) (hrise A B ⟨k, [], noIt⟩ ⟨hm, rfl, .inr ⟨e, rfl⟩⟩) hX (fun X' hX' => hk A B ⟨k, [], noIt⟩ X' I2 hI12 ⟨hm, rfl, .inr ⟨e, rfl⟩⟩ hX')
end
end Go.Proofs.YtmnnnoinfhiilaaGreatDoor
-- S3
set_option linter.unusedSimpArgs false
set_option linter.unusedVariables false
namespace Go.Proofs.YtmnnnoinfhiilaaGreatDoor
open Go.SL
set_option maxRecDepth 10000
section
variable {ω : Om} {I : Imm} {L : LH} {K : Value → M}
theorem Slot.len {A B : List Row} {k : List UInt8} {r r' : Row} {rows : List Row} (h : Slot A k B r rows) : (A ++ r' :: B).length ≤ rows.length + 1 := by
  obtain ⟨_, _, rfl | ⟨rfl, _⟩⟩ := h <;> simp <;> omega
theorem load_spec {v : Value} {l : List TKV} {sp : Sp} (hok : SpOk sp) (h : RL TKVV 2 I [] v l) (hl : ∀ x : TKV, x ∈ l ↔ keptR sp x.fKey x.fValue) (hsr : SrtKV l) (hlen : l.length ≤ 10000000) (hvs : ∀ k, (vsAt sp.rows k).length ≤ 10000000)
    (hk : ∀ I' b X, Ext I I' → SpR I' b X sp nt0 → K (.tuple #[pt b, .int .i64 0]) I' (X ++ L)) : Cal Tryz.prog ω 10 #[v] K I L := by
  refine cal10 ?_
  unfold sh10
  refine call (new_spec (fun b X hS => ?_))
  simp only [RL.len h, SSd, Nat.reduceAdd]
  refine loop (fun n t I' L' => ∃ (i : Nat) (s : Sp) (X : LH), n + i = l.length ∧ t = (.pointer none, .int .i64 0, .int .i64 i, ()) ∧ Ext I I' ∧ L' = X ++ L ∧ SpR I' b X s nt0 ∧ LInv sp (l.take i) s ∧ s.rows.length ≤ i) l.length ⟨0, sp0, X, rfl, rfl, Ext.refl _, rfl, hS, LInv.zero sp, Nat.le_refl _⟩ ?_
  rintro n t I' L' ⟨i, s, X, hni, rfl, hI, rfl, hS', hinv, hrl⟩
  unfold sh10_1
  try simp only [SSd, Nat.reduceAdd]
  refine br_split (fun e => ?_) (fun e => ?_)
  · have hi : i < l.length := by simpa using e
    have h' := RL.monoI (fun x c h => h.mono hI) h hI
    obtain ⟨q, off, c, hix, hcl, hc, hcc⟩ := RL.ix h' (i := (i : Int)) (by omega) (by omega)
    rw [geti_nat hi] at hc
    have hmem := List.getElem_mem hi
    have htake : l.take i ++ [l[i]] = l.take (i + 1) := (List.take_succ_eq_append_getElem hi).symm
    have hbef : ∀ y ∈ l.take i, blt y.fKey l[i].fKey = true := by
      intro y hy
      obtain ⟨j, hj, rfl⟩ := List.getElem_of_mem hy
      rw [List.getElem_take]
      rw [List.length_take] at hj
      exact List.pairwise_iff_getElem.1 hsr j i (by omega) hi (by omega)
    generalize l[i] = x at *
    have hkept := (hl x).1 hmem
    obtain ⟨w1, w2, rfl, g1, g2⟩ := hc
    have hcv := hcc I' [] (Ext.refl _) (fun _ h => h)
    obtain ⟨a1, d1, rfl⟩ := Bytes.form g1
    obtain ⟨a2, d2, rfl⟩ := Bytes.form g2
    have three : ∀ {I5 : Imm} {X5 L5 : LH} {s5 : Sp} [SubP (X5 ++ L) L5], Ext I' I5 → SpR I5 b X5 s5 nt0 → LInv sp (l.take i ++ [x]) s5 → s5.rows.length ≤ i + 1 →
        sh10_3 ω (.pointer none) (.int .i64 0) (.bool true) (.int .i64 i) (fun s' => Gh fun I2 L2 => ∃ m', m' < n ∧ ∃ (i : Nat) (s : Sp) (X : LH), m' + i = l.length ∧ s' = (.pointer none, .int .i64 0, .int .i64 i, ()) ∧ Ext I I2 ∧ L2 = X ++ L ∧ SpR I2 b X s nt0 ∧ LInv sp (l.take i) s ∧ s.rows.length ≤ i) (fun v => Gh (K v)) I5 L5 := by
      intro I5 X5 L5 s5 _ hI5 hS5 hinv5 hr5
      unfold sh10_3
      simp only [Bool.not_true, SSd, Nat.reduceAdd]
      rw [wrap_i64 _ (by omega)]
      rw [htake] at hinv5
      exact Gh.to (X5 ++ L) (Gh.done ⟨n - 1, by omega, i + 1, s5, X5, by omega, rfl, hI.trans hI5, rfl, hS5, hinv5, hr5⟩)
    simp only [hix, SSd, Nat.reduceAdd]
    refine rdNC hcv (Ext.refl _) rfl ?_
    refine newI (fun bx => ?_)
    refine stB rfl rfl (one_all rfl) ?_
    try simp only [SSd, Nat.reduceAdd]
    refine rdb ?_
    try simp only [SSd, Nat.reduceAdd]
    have hpos : 0 < x.fKey.length := by
      rcases hkept with ⟨e1, _⟩ | ⟨k, e1, _⟩ | ⟨k, w, e1, _⟩ <;> rw [e1] <;> simp [vkey]
    obtain ⟨bb, ob, hixb, hcb⟩ := Bytes.at (k := 0) g1 hpos
    have hixb' : ixV 1 (.slice a1 x.fKey.length d1) (.int .i64 0) = some (.pointer (some ⟨bb, ob, none⟩)) := hixb
    refine br_split (fun e4 => ?_) (fun e4 => by
      have h9 : decide ((0 : Int) < (x.fKey.length : Int)) = true := decide_eq_true (by omega)
      rw [h9] at e4; cases e4)
    refine rdb ?_
    simp only [hixb', SSd, Nat.reduceAdd]
    refine rd1 (hcb _ _ (Ext.refl _)) ?_
    rcases hkept with ⟨e1, e2, e3⟩ | ⟨k, e1, e2⟩ | ⟨k, w, e1, e2, e3⟩
    · have hby : x.fKey[0] = 102 := by simp [e1]
      have hx : x = ⟨[102], stF sp.floor⟩ := by cases x; simp only at e1 e3; rw [e1, e3]
      rw [hby]
      have c1 : ((((102 : UInt8).toNat : Nat) : Int) == 102) = true := rfl
      simp only [c1, SSd, Nat.reduceAdd]
      refine rdP _ rfl rfl ?_
      have hin2 := hinv.setFloor hok
      rw [← hx] at hin2
      rw [e1] at g1
      rw [e3] at g2
      simp only [e1, e3]
      refine call (Cal.perm (L' := X ++ ((bx, Obj.cells #[.slice a1 ([102] : List UInt8).length d1, .slice a2 (stF sp.floor).length d2] 86 (0, 0)) :: L)) (ms_perm (by ((try simp only [ms_cons, ms_app, ms_nil, ms_nil']); (try ac_rfl)))) (loadf_spec hS' g1 g2 hok.floor (fun X5 I5 hI5 hS5 => ?_)))
      exact three hI5 hS5 hin2 (by simp only; omega)
    · have hby : x.fKey[0] = 105 := by simp [e1]
      have h0 := itAt_txn hok e2
      obtain ⟨r0, hr0, hi0, hk0, hkk⟩ := keyOk_it hok h0
      have hro := (hok.rows r0 (rowOf_mem hr0)).it
      rw [hi0] at hro
      have hro2 := hro.resolve_left (fun e => h0 (by rw [e]; rfl))
      have e3 : x.fValue = stF (itAt sp.rows k).ver.fAt ++ varL (itAt sp.rows k).txn.toNat ++ verText (itAt sp.rows k).ver := by
        unfold itText at e2
        rw [if_neg h0] at e2
        simpa using e2.symm
      have hx : x = ⟨105 :: k, x.fValue⟩ := by cases x; simp only at e1 ⊢; rw [e1]
      rw [hby]
      have c1 : ((((105 : UInt8).toNat : Nat) : Int) == 102) = false := rfl
      have c2 : ((((105 : UInt8).toNat : Nat) : Int) == 105) = true := rfl
      simp only [c1, c2, SSd, Nat.reduceAdd]
      refine rdP _ rfl rfl ?_
      rw [e1] at g1
      have g2' := g2
      rw [e3] at g2'
      refine call (Cal.perm (L' := X ++ ((bx, Obj.cells #[.slice a1 x.fKey.length d1, .slice a2 x.fValue.length d2] 86 (0, 0)) :: L)) (ms_perm (by ((try simp only [ms_cons, ms_app, ms_nil, ms_nil']); (try ac_rfl)))) (loadi_spec hS' hinv.ok (by omega) hk0 hro2.1 hro2.2 (by rw [e1]; exact g1) (by rw [e3]; exact g2') (fun A B r X5 I5 hI5 hsl hS5 => ?_)))
      have hin2 := hinv.setIt hok hsl (t := x.fValue) e2
      rw [← hx] at hin2
      have := hsl.len (r' := ⟨k, r.vs, itAt sp.rows k⟩)
      exact three hI5 hS5 hin2 (by simp only; omega)
    · have hby : x.fKey[0] = 118 := by simp [e1, vkey]
      have hx : x = ⟨vkey k w, verText w⟩ := by cases x; simp only at e1 e3; rw [e1, e3]
      obtain ⟨r0, hr0, hkk, hrv⟩ := vsAt_row e2
      have hko : keyOk k = true := by rw [← hkk]; exact (hok.rows r0 hr0).key
      have hvo := (vsAt_rise hok k).2 w e2
      rw [hby]
      have c1 : ((((118 : UInt8).toNat : Nat) : Int) == 102) = false := rfl
      have c2 : ((((118 : UInt8).toNat : Nat) : Int) == 105) = false := rfl
      have c3 : ((((118 : UInt8).toNat : Nat) : Int) == 118) = true := rfl
      simp only [c1, c2, c3, SSd, Nat.reduceAdd]
      refine rdP _ rfl rfl ?_
      have hbef2 : ∀ y ∈ l.take i, blt y.fKey (vkey k w) = true := fun y hy => by rw [← e1]; exact hbef y hy
      have hvb : ∀ r ∈ s.rows, r.vs.length ≤ 10000000 := fun r hr => by
        have h1 := row_vsAt hinv.ok.rise hr
        rw [hinv.vs] at h1
        rw [← h1]
        exact Nat.le_trans (List.length_filter_le _ _) (hvs _)
      refine call (Cal.perm (L' := X ++ ((bx, Obj.cells #[.slice a1 x.fKey.length d1, .slice a2 x.fValue.length d2] 86 (0, 0)) :: L)) (ms_perm (by ((try simp only [ms_cons, ms_app, ms_nil, ms_nil']); (try ac_rfl)))) (loadv_spec (v := w) hS' hinv.ok (by omega) hvb hko hvo (by rw [← e1]; exact g1) (by rw [← e3]; exact g2) (fun A B r hsl => ?_) (fun A B r X5 I5 hI5 hsl hS5 => ?_)))
      · have hin2 := hinv.addV hok hsl e2 hbef2
        exact (hin2.ok.rows ⟨k, r.vs ++ [w], r.it⟩ (by simp)).rise
      · have hin2 := hinv.addV hok hsl e2 hbef2
        rw [← hx] at hin2
        have := hsl.len (r' := ⟨k, r.vs ++ [w], r.it⟩)
        exact three hI5 hS5 hin2 (by simp only; omega)
  · have hil : i = l.length := by simp at e; omega
    subst hil
    rw [List.take_length] at hinv
    have := hinv.done hok hl
    subst this
    exact Gh.done (hk I' b X hI hS')
end
end Go.Proofs.YtmnnnoinfhiilaaGreatDoor
-- S3
set_option linter.unusedSimpArgs false
set_option linter.unusedVariables false
namespace Go.Proofs.YtmnnnoinfhiilaaGreatDoor
open Go.SL
set_option maxRecDepth 10000
theorem chok {sp : Sp} {nt : Nts} {ops : List TOp} {base : List UInt8 → List UInt8 → Prop} (h : TookOk nt ops) (hN : Noted base sp nt) : ChOk ops :=
  ⟨fun y hy => ⟨(took_ok h hN y hy).1, (took_ok h hN y hy).2.1, (took_ok h hN y hy).2.2⟩, h.rise⟩
theorem noted_len {sp : Sp} {nt : Nts} {base : List UInt8 → List UInt8 → Prop} (hN : Noted base sp nt) : ∀ q, nt q ≠ none → OpLen q := fun q h => by
  rcases hN q with ⟨h1, _⟩ | ⟨h1, _⟩
  · exact h1
  · exact absurd h1 h
theorem took_none {ops : List TOp} (h : TookOk nt0 ops) : ops = [] := by
  cases ops with
  | nil => rfl
  | cons y ops => have := h.mem y (List.mem_cons_self ..); cases this
/-! ### How many keys are noted -/
def NtFin (nt : Nts) (N : Nat) : Prop := ∃ Q : List (List UInt8), Q.length ≤ N ∧ ∀ q, nt q ≠ none → q ∈ Q
theorem NtFin.upd {nt : Nts} {N : Nat} (h : NtFin nt N) (k : List UInt8) (x : Bool × List UInt8) : NtFin (updN nt k x) (N + 1) := by
  obtain ⟨Q, h1, h2⟩ := h
  refine ⟨k :: Q, by simp; omega, fun q hq => ?_⟩
  by_cases e : q = k
  · rw [e]; exact List.mem_cons_self ..
  · rw [updN_ne _ _ e] at hq; exact List.mem_cons_of_mem _ (h2 q hq)
theorem NtFin.gone {k : List UInt8} : ∀ {l : List TVer} {nt : Nts} {N : Nat}, NtFin nt N → NtFin (goneN k l nt) (N + l.length)
  | [], nt, N, h => h
  | v :: l, nt, N, h => by
    have := NtFin.gone (l := l) (k := k) (h.upd (vkey k v) (true, []))
    rw [show N + (v :: l).length = N + 1 + l.length by simp; omega]
    exact this
theorem NtFin.more {nt : Nts} {N M : Nat} (h : NtFin nt N) (hm : N ≤ M) : NtFin nt M := by
  obtain ⟨Q, h1, h2⟩ := h
  exact ⟨Q, by omega, h2⟩
theorem NtFin.col {fl : TStamp} : ∀ {rows : List Row} {nt : Nts} {N : Nat}, NtFin nt N → NtFin (noteC fl rows nt) (N + versN rows)
  | [], nt, N, h => h
  | r :: rows, nt, N, h => by
    have h1 : NtFin (noteR1 fl nt r) (N + r.vs.length) := by
      unfold noteR1
      split
      · exact h.more (by omega)
      · exact h.gone.more (by have := List.length_filter_le (oldB (by assumption)) r.vs; omega)
    have h2 := NtFin.col (fl := fl) (rows := rows) h1
    rw [show N + versN (r :: rows) = N + r.vs.length + versN rows by simp [versN]; omega]
    exact h2
theorem NtFin.step {sp : Sp} {x : TStep} {nt : Nts} {N : Nat} (h : NtFin nt N) : NtFin (stepN sp x nt) (N + 2 + versN sp.rows) := by
  unfold stepN
  split
  · unfold putN
    split
    · exact h.more (by omega)
    · exact (h.upd _ _).more (by omega)
  · split
    · unfold resN
      split
      · split
        · unfold resNr
          split
          · exact ((h.upd _ _).upd _ _).more (by omega)
          · exact (h.upd _ _).more (by omega)
        · exact h.more (by omega)
      · exact h.more (by omega)
    · split
      · unfold colN
        split
        · exact h.more (by omega)
        · split
          · exact (NtFin.col (h.upd _ _)).more (by omega)
          · exact (NtFin.col h).more (by omega)
      · exact h.more (by omega)
theorem nodup_len : ∀ {l Q : List (List UInt8)}, l.Nodup → (∀ x ∈ l, x ∈ Q) → l.length ≤ Q.length
  | [], _, _, _ => by simp
  | x :: l, Q, hn, h => by
    obtain ⟨h1, h2⟩ := List.nodup_cons.1 hn
    have hx := h x (List.mem_cons_self ..)
    have ih := nodup_len (Q := Q.erase x) h2 fun y hy => (List.mem_erase_of_ne (show y ≠ x from fun e => h1 (by rw [← e]; exact hy))).2 (h y (List.mem_cons_of_mem _ hy))
    rw [List.length_erase_of_mem hx] at ih
    have := List.length_pos_of_mem hx
    simp only [List.length_cons]; omega
theorem took_len {nt : Nts} {ops : List TOp} {N : Nat} (h : TookOk nt ops) (hN : NtFin nt N) : ops.length ≤ N := by
  obtain ⟨Q, h1, h2⟩ := hN
  have := nodup_len (l := ops.map (·.fKey)) (Q := Q) (List.pairwise_map.2 (h.rise.imp fun hb => blt_ne hb)) (fun q hq => by
    obtain ⟨y, hy, rfl⟩ := List.mem_map.1 hq
    exact h2 _ (by rw [h.mem y hy]; simp))
  rw [List.length_map] at this
  omega
theorem noted0 : Noted (fun q t => (⟨q, t⟩ : TKV) ∈ ([] : List TKV)) sp0 nt0 := fun q => .inr ⟨rfl, fun t => ⟨fun hq => (by
  rcases hq with ⟨_, h2, _⟩ | ⟨k, _, h2⟩ | ⟨k, w, _, h2, _⟩
  · exact absurd rfl h2
  · cases h2
  · cases h2), fun hq => (by cases hq)⟩⟩
def TakeSpec : Prop := ∀ (ω : Om) (I : Imm) (K : Value → M) (b : Nat) (X F : LH) (sp : Sp) (nt : Nts), SpR I b X sp nt → (∀ q, nt q ≠ none → OpLen q) → NtFin nt 1000000 →
  (∀ X' I' v ops, Ext I I' → SpR I' b X' sp nt0 → TookOk nt ops → RL TOpV 3 I' [] v ops → K v I' (X' ++ F)) → Cal Tryz.prog ω 8 #[pt b] K I (X ++ F)
section
variable {ω : Om} {I : Imm} {L : LH} {K : Value → M}
end
theorem tr_stepsL {W : World} {v : Value} (h : TrR reachBytes Tryz.prog W 22 [v]) : ∃ ss : List TStep, RL TStepV 13 (heapI W) [] v ss ∧ ss.length ≤ 900000000000 := by
  obtain ⟨ss, h1, _, h2⟩ := tr_steps13 h
  exact ⟨ss, h1, h2⟩
end Go.Proofs.YtmnnnoinfhiilaaGreatDoor
-- S3
set_option linter.unusedSimpArgs false
set_option linter.unusedVariables false
namespace Go.Proofs.YtmnnnoinfhiilaaGreatDoor
open Go.SL
set_option maxRecDepth 10000
/-! ### The rows up to a key, from it on -/
def lowR (k : List UInt8) (rows : List Row) : List Row := rows.filter fun r => blt r.key k
def highR (k : List UInt8) (rows : List Row) : List Row := rows.filter fun r => !blt r.key k
theorem low_high {k : List UInt8} : ∀ {rows : List Row}, SrtK (keysOf rows) → rows = lowR k rows ++ highR k rows
  | [], _ => rfl
  | r :: rs, h => by
    obtain ⟨h1, h2⟩ := List.pairwise_cons.1 (show List.Pairwise _ (r.key :: keysOf rs) from h)
    have ih := low_high (k := k) h2
    unfold lowR highR at ih ⊢
    have g1 : (r :: rs).filter (fun r => blt r.key k) = if blt r.key k = true then r :: rs.filter (fun r => blt r.key k) else rs.filter (fun r => blt r.key k) := List.filter_cons
    have g2 : (r :: rs).filter (fun r => !blt r.key k) = if (!blt r.key k) = true then r :: rs.filter (fun r => !blt r.key k) else rs.filter (fun r => !blt r.key k) := List.filter_cons
    rw [g1, g2]
    cases hb : blt r.key k with
    | true => rw [if_pos rfl, if_neg (by simp), List.cons_append, ← ih]
    | false =>
      have hall : ∀ x ∈ rs, blt x.key k = false := fun x hx => by
        cases hx2 : blt x.key k with
        | false => rfl
        | true => rw [blt_trans (h1 _ (List.mem_map_of_mem hx)) hx2] at hb; cases hb
      rw [if_neg (by simp), if_pos (by simp), List.filter_eq_nil_iff.2 (fun x hx => by simp [hall x hx]), List.filter_eq_self.2 (fun x hx => by simp [hall x hx])]
      rfl
theorem versOf_filter (f : List UInt8 → Bool) : ∀ rows : List Row, versOf (rows.filter fun r => f r.key) = (versOf rows).filter fun x => f x.fKey
  | [] => rfl
  | r :: rs => by
    have hm : ∀ x ∈ r.vs.map (verF r.key), x.fKey = r.key := fun x hx => by obtain ⟨v, _, rfl⟩ := List.mem_map.1 hx; rfl
    have hp : ∀ b : Bool, f r.key = b → (r.vs.map (verF r.key)).filter (fun x => f x.fKey) = if b = true then r.vs.map (verF r.key) else [] := fun b hb => by
      cases b with
      | true => exact List.filter_eq_self.2 fun x hx => by rw [hm x hx]; exact hb
      | false => exact List.filter_eq_nil_iff.2 fun x hx => by rw [hm x hx, hb]; simp
    rw [versOf_cons, List.filter_append, ← versOf_filter f rs]
    have h1 : (r :: rs).filter (fun r => f r.key) = if f r.key = true then r :: rs.filter (fun r => f r.key) else rs.filter (fun r => f r.key) := List.filter_cons
    rw [h1]
    cases hf : f r.key with
    | true => rw [if_pos rfl, versOf_cons, hp true hf]; rfl
    | false => rw [if_neg (by simp), hp false hf]; rfl
theorem intsOf_filter (f : List UInt8 → Bool) : ∀ rows : List Row, intsOf (rows.filter fun r => f r.key) = (intsOf rows).filter fun x => f x.fKey
  | [] => rfl
  | r :: rs => by
    have e : (itF r).fKey = r.key := rfl
    rw [intsOf_cons, List.filter_append, ← intsOf_filter f rs]
    have h1 : (r :: rs).filter (fun r => f r.key) = if f r.key = true then r :: rs.filter (fun r => f r.key) else rs.filter (fun r => f r.key) := List.filter_cons
    rw [h1]
    cases hf : f r.key with
    | true => rw [if_pos rfl, intsOf_cons]; split <;> simp [e, hf]
    | false => rw [if_neg (by simp)]; split <;> simp [e, hf]
def splL (k : List UInt8) (sp : Sp) : Sp := ⟨lowR k sp.rows, sp.floor⟩
def splR (k : List UInt8) (sp : Sp) : Sp := ⟨highR k sp.rows, sp.floor⟩
theorem splL_ok {k : List UInt8} {sp : Sp} (h : SpOk sp) : SpOk (splL k sp) := ⟨h.rise.sub List.filter_sublist, fun r hr => h.rows r (List.mem_filter.1 hr).1, h.floor⟩
theorem splR_ok {k : List UInt8} {sp : Sp} (h : SpOk sp) : SpOk (splR k sp) := ⟨h.rise.sub List.filter_sublist, fun r hr => h.rows r (List.mem_filter.1 hr).1, h.floor⟩
theorem versN_app (A B : List Row) : versN (A ++ B) = versN A + versN B := by simp [versN]
/-! ### All of a row is noted, or that it is gone -/
def verG (g : Bool) (v : TVer) : Bool × List UInt8 := if g = true then (true, []) else (false, verText v)
def verN (g : Bool) (k : List UInt8) (l : List TVer) (nt : Nts) : Nts := l.foldl (fun nt v => updN nt (vkey k v) (verG g v)) nt
theorem verN_no {g : Bool} {k q : List UInt8} : ∀ {l : List TVer} {nt : Nts}, (∀ v ∈ l, vkey k v ≠ q) → verN g k l nt q = nt q
  | [], nt, _ => rfl
  | v :: l, nt, h => by
    show verN g k l (updN nt (vkey k v) _) q = _
    rw [verN_no (fun w hw => h w (List.mem_cons_of_mem _ hw)), updN_ne _ _ (fun e => h v (List.mem_cons_self ..) e.symm)]
theorem verN_yes {g : Bool} {k : List UInt8} {v : TVer} : ∀ {l : List TVer} {nt : Nts}, (l.Pairwise fun a b => vkey k a ≠ vkey k b) → v ∈ l → verN g k l nt (vkey k v) = some (verG g v)
  | w :: l, nt, h, hv => by
    obtain ⟨h1, h2⟩ := List.pairwise_cons.1 h
    show verN g k l (updN nt (vkey k w) _) _ = _
    rcases List.mem_cons.1 hv with rfl | hv
    · rw [verN_no (fun x hx e => h1 x hx e.symm), updN_self]
    · exact verN_yes h2 hv
def noteA (g : Bool) (r : Row) (nt : Nts) : Nts := if r.it.txn = 0 then verN g r.key r.vs nt else updN (verN g r.key r.vs nt) (105 :: r.key) (if g = true then (true, []) else itText r.it)
def keptO (r : Row) (q t : List UInt8) : Prop := (q = 105 :: r.key ∧ itText r.it = (false, t)) ∨ ∃ v ∈ r.vs, q = vkey r.key v ∧ t = verText v
theorem itText_ne {it : Itn} {t : List UInt8} (h : itText it = (false, t)) : it.txn ≠ 0 := fun e => by unfold itText at h; rw [if_pos e] at h; cases h
theorem itText_yes {it : Itn} (h : it.txn ≠ 0) : itText it = (false, (itText it).2) := by unfold itText; rw [if_neg h]
theorem RowOk.apart {r : Row} (h : RowOk r) : r.vs.Pairwise fun a b => vkey r.key a ≠ vkey r.key b :=
  (List.pairwise_iff_forall_sublist.2 fun {a b} hs => by
    have hab := List.pairwise_iff_forall_sublist.1 h.rise hs
    have ha := hs.subset (List.mem_cons_self ..)
    have hb := hs.subset (List.mem_cons_of_mem _ (List.mem_cons_self ..))
    exact blt_ne (vkey_rise (h.vs a ha).right (h.vs b hb).right hab))
theorem vkey_it {k k' : List UInt8} {v : TVer} : vkey k v ≠ 105 :: k' := fun e => by
  unfold vkey at e; cases (List.cons.inj e).1
theorem noteA_yes {g : Bool} {r : Row} {nt : Nts} {v : TVer} (h : RowOk r) (hv : v ∈ r.vs) : noteA g r nt (vkey r.key v) = some (verG g v) := by
  unfold noteA
  split
  · exact verN_yes h.apart hv
  · rw [updN_ne _ _ vkey_it]; exact verN_yes h.apart hv
theorem noteA_it {g : Bool} {r : Row} {nt : Nts} (h : r.it.txn ≠ 0) : noteA g r nt (105 :: r.key) = some (if g = true then (true, []) else itText r.it) := by
  unfold noteA; rw [if_neg h, updN_self]
theorem noteA_no {g : Bool} {r : Row} {nt : Nts} {q : List UInt8} (h1 : ∀ v ∈ r.vs, vkey r.key v ≠ q) (h2 : r.it.txn ≠ 0 → q ≠ 105 :: r.key) : noteA g r nt q = nt q := by
  unfold noteA
  split
  · exact verN_no h1
  · rw [updN_ne _ _ (h2 (by assumption))]; exact verN_no h1
theorem vsAt_add {A B : List Row} {r : Row} {q : List UInt8} (hm : Mid A r.key B) : vsAt (A ++ r :: B) q = if q = r.key then r.vs else vsAt (A ++ B) q := by
  by_cases e : q = r.key
  · rw [if_pos e, e, vsAt_mid hm rfl]
  · rw [if_neg e]
    unfold vsAt rowOf
    rw [List.find?_append, List.find?_append, List.find?_cons_of_neg (by simp; exact fun e2 => e e2.symm)]
section
variable {A B : List Row} {r : Row} {fl : TStamp}
theorem kept_it (hm : Mid A r.key B) (t : List UInt8) : ¬ keptR ⟨A ++ B, fl⟩ (105 :: r.key) t := by
  rintro (⟨h, _, _⟩ | ⟨k, h, h2⟩ | ⟨k, v, h, _, _⟩)
  · cases (List.cons.inj h).1
  · obtain rfl := (List.cons.inj h).2
    simp only [itAt_gap hm] at h2
    exact itText_ne h2 rfl
  · exact vkey_it h.symm
theorem kept_ver (hm : Mid A r.key B) (hAB : ∀ x ∈ A ++ B, RowOk x) (hr : RowOk r) {v : TVer} (hv : v ∈ r.vs) (t : List UInt8) : ¬ keptR ⟨A ++ B, fl⟩ (vkey r.key v) t := by
  rintro (⟨h, _, _⟩ | ⟨k, h, _⟩ | ⟨k, w, h, h2, _⟩)
  · unfold vkey at h; cases (List.cons.inj h).1
  · exact vkey_it h
  · obtain ⟨x, hx, hk, hvs⟩ := vsAt_row h2
    obtain ⟨rfl, _⟩ := vkey_inj (hr.vs v hv).right ((hAB x hx).vs w (by rw [hvs]; exact h2)).right h
    simp only [vsAt_gap hm] at h2; cases h2
theorem kept_add (hm : Mid A r.key B) (q t : List UInt8) : keptR ⟨A ++ r :: B, fl⟩ q t ↔ (((∃ v ∈ r.vs, vkey r.key v = q) ∨ (r.it.txn ≠ 0 ∧ q = 105 :: r.key)) ∧ keptO r q t) ∨ ((¬ ((∃ v ∈ r.vs, vkey r.key v = q) ∨ (r.it.txn ≠ 0 ∧ q = 105 :: r.key))) ∧ keptR ⟨A ++ B, fl⟩ q t) ∨ (((∃ v ∈ r.vs, vkey r.key v = q) ∨ (r.it.txn ≠ 0 ∧ q = 105 :: r.key)) ∧ keptR ⟨A ++ B, fl⟩ q t) := by
  have key : keptR ⟨A ++ r :: B, fl⟩ q t ↔ keptO r q t ∨ keptR ⟨A ++ B, fl⟩ q t := by
    constructor
    · rintro (h | ⟨k, h, h2⟩ | ⟨k, v, h, h2, h3⟩)
      · exact .inr (.inl h)
      · simp only [itAt_new hm rfl] at h2
        by_cases e : k = r.key
        · rw [if_pos e] at h2; exact .inl (.inl ⟨by rw [h, e], h2⟩)
        · rw [if_neg e] at h2; exact .inr (.inr (.inl ⟨k, h, h2⟩))
      · simp only [vsAt_add hm] at h2
        by_cases e : k = r.key
        · rw [if_pos e] at h2; exact .inl (.inr ⟨v, h2, by rw [h, e], h3⟩)
        · rw [if_neg e] at h2; exact .inr (.inr (.inr ⟨k, v, h, h2, h3⟩))
    · rintro ((⟨h, h2⟩ | ⟨v, h, h2, h3⟩) | (h | ⟨k, h, h2⟩ | ⟨k, v, h, h2, h3⟩))
      · exact .inr (.inl ⟨r.key, h, by simp only [itAt_new hm rfl, if_true]; exact h2⟩)
      · exact .inr (.inr ⟨r.key, v, h2, by simp only [vsAt_add hm, if_true]; exact h, h3⟩)
      · exact .inl h
      · by_cases e : k = r.key
        · subst e; simp only [itAt_gap hm] at h2; exact absurd rfl (itText_ne h2)
        · exact .inr (.inl ⟨k, h, by simp only [itAt_new hm rfl, if_neg e]; exact h2⟩)
      · by_cases e : k = r.key
        · subst e; simp only [vsAt_gap hm] at h2; cases h2
        · exact .inr (.inr ⟨k, v, h, by simp only [vsAt_add hm, if_neg e]; exact h2, h3⟩)
  rw [key]
  constructor
  · rintro (h | h)
    · refine .inl ⟨?_, h⟩
      rcases h with ⟨h, h2⟩ | ⟨v, h, h2, _⟩
      · exact .inr ⟨itText_ne h2, h⟩
      · exact .inl ⟨v, h, h2.symm⟩
    · by_cases e : (∃ v ∈ r.vs, vkey r.key v = q) ∨ (r.it.txn ≠ 0 ∧ q = 105 :: r.key)
      · exact .inr (.inr ⟨e, h⟩)
      · exact .inr (.inl ⟨e, h⟩)
  · rintro (⟨_, h⟩ | ⟨_, h⟩ | ⟨_, h⟩)
    · exact .inl h
    · exact .inr h
    · exact .inr h
theorem gone_step (hm : Mid A r.key B) (hAB : ∀ x ∈ A ++ B, RowOk x) (hr : RowOk r) (nt : Nts) : NStep ⟨A ++ r :: B, fl⟩ nt ⟨A ++ B, fl⟩ (noteA true r nt) := by
  intro q
  by_cases e1 : ∃ v ∈ r.vs, vkey r.key v = q
  · obtain ⟨v, hv, rfl⟩ := e1
    exact .inr ⟨opLen_v hr.key v, .inl ⟨by rw [noteA_yes hr hv]; rfl, kept_ver hm hAB hr hv⟩⟩
  · by_cases e2 : r.it.txn ≠ 0 ∧ q = 105 :: r.key
    · obtain ⟨h1, rfl⟩ := e2
      exact .inr ⟨opLen_it hr.key, .inl ⟨by rw [noteA_it h1]; rfl, kept_it hm⟩⟩
    · refine .inl ⟨noteA_no (fun v hv e => e1 ⟨v, hv, e⟩) (fun h1 e => e2 ⟨h1, e⟩), fun t => ?_⟩
      rw [kept_add hm]
      have hne : ¬ ((∃ v ∈ r.vs, vkey r.key v = q) ∨ (r.it.txn ≠ 0 ∧ q = 105 :: r.key)) := fun h => h.elim e1 e2
      constructor
      · exact fun h => .inr (.inl ⟨hne, h⟩)
      · rintro (⟨h, _⟩ | ⟨_, h⟩ | ⟨h, _⟩)
        · exact absurd h hne
        · exact h
        · exact absurd h hne
theorem add_step (hm : Mid A r.key B) (hr : RowOk r) (nt : Nts) : NStep ⟨A ++ B, fl⟩ nt ⟨A ++ r :: B, fl⟩ (noteA false r nt) := by
  intro q
  by_cases e1 : ∃ v ∈ r.vs, vkey r.key v = q
  · obtain ⟨v, hv, rfl⟩ := e1
    exact .inr ⟨opLen_v hr.key v, .inr ⟨verText v, by rw [noteA_yes hr hv]; rfl, (kept_add hm _ _).2 (.inl ⟨.inl ⟨v, hv, rfl⟩, .inr ⟨v, hv, rfl, rfl⟩⟩)⟩⟩
  · by_cases e2 : r.it.txn ≠ 0 ∧ q = 105 :: r.key
    · obtain ⟨h1, rfl⟩ := e2
      exact .inr ⟨opLen_it hr.key, .inr ⟨(itText r.it).2, by rw [noteA_it h1]; exact congrArg some (itText_yes h1), (kept_add hm _ _).2 (.inl ⟨.inr ⟨h1, rfl⟩, .inl ⟨rfl, itText_yes h1⟩⟩)⟩⟩
    · refine .inl ⟨noteA_no (fun v hv e => e1 ⟨v, hv, e⟩) (fun h1 e => e2 ⟨h1, e⟩), fun t => ?_⟩
      have hne : ¬ ((∃ v ∈ r.vs, vkey r.key v = q) ∨ (r.it.txn ≠ 0 ∧ q = 105 :: r.key)) := fun h => h.elim e1 e2
      rw [kept_add hm]
      constructor
      · rintro (⟨h, _⟩ | ⟨_, h⟩ | ⟨h, _⟩)
        · exact absurd h hne
        · exact h
        · exact absurd h hne
      · exact fun h => .inr (.inl ⟨hne, h⟩)
end
def noteAs (g : Bool) (rs : List Row) (nt : Nts) : Nts := rs.foldl (fun nt r => noteA g r nt) nt
theorem gone_noted {base : List UInt8 → List UInt8 → Prop} {A : List Row} {fl : TStamp} : ∀ {rs : List Row} {nt : Nts}, SpOk ⟨A ++ rs, fl⟩ → Noted base ⟨A ++ rs, fl⟩ nt → Noted base ⟨A, fl⟩ (noteAs true rs nt)
  | [], nt, _, h => by rw [List.append_nil] at h; exact h
  | r :: rs, nt, hok, h => by
    obtain ⟨p1, p2, p3⟩ := hok.part
    have hAB : ∀ x ∈ A ++ rs, RowOk x := fun x hx => by
      rcases List.mem_append.1 hx with hx | hx
      · exact p1 x hx
      · exact p3 x hx
    have hm : Mid A r.key rs := SrtK.mid hok.rise
    have hok' : SpOk ⟨A ++ rs, fl⟩ := ⟨hok.rise.sub (List.Sublist.append (List.Sublist.refl _) (List.sublist_cons_self ..)), hAB, hok.floor⟩
    show Noted base ⟨A, fl⟩ (noteAs true rs (noteA true r nt))
    exact gone_noted hok' (h.step (gone_step hm hAB p2 nt))
theorem add_noted {base : List UInt8 → List UInt8 → Prop} {fl : TStamp} : ∀ {rs A : List Row} {nt : Nts}, SpOk ⟨A ++ rs, fl⟩ → Noted base ⟨A, fl⟩ nt → Noted base ⟨A ++ rs, fl⟩ (noteAs false rs nt)
  | [], A, nt, _, h => by rw [List.append_nil]; exact h
  | r :: rs, A, nt, hok, h => by
    obtain ⟨p1, p2, p3⟩ := hok.part
    have hm : Mid A r.key rs := SrtK.mid hok.rise
    have hm0 : Mid A r.key [] := ⟨hm.lt, fun x hx => by cases hx⟩
    have e : A ++ r :: rs = (A ++ [r]) ++ rs := by simp
    have := add_noted (rs := rs) (A := A ++ [r]) (nt := noteA false r nt) (by rw [← e]; exact hok) ((by rw [List.append_nil]; exact h : Noted base ⟨A ++ [], fl⟩ nt).step (add_step hm0 p2 nt))
    rw [e]; exact this
noncomputable instance (fl : TStamp) : Decidable (fl = z0) := Classical.propDecidable _
noncomputable def floorN (fl : TStamp) : Nts := if fl = z0 then nt0 else updN nt0 [102] (false, stF fl)
theorem floor_noted (fl : TStamp) : Noted (fun q t => (⟨q, t⟩ : TKV) ∈ ([] : List TKV)) ⟨[], fl⟩ (floorN fl) := by
  refine noted0.step (sp' := ⟨[], fl⟩) (nt' := floorN fl) (fun q => ?_)
  have no : ∀ t, keptR (⟨[], fl⟩ : Sp) q t ↔ (q = [102] ∧ fl ≠ z0 ∧ t = stF fl) := fun t => by
    constructor
    · rintro (h | ⟨k, _, h2⟩ | ⟨k, v, _, h2, _⟩)
      · exact h
      · cases h2
      · cases h2
    · exact fun h => .inl h
  by_cases hf : fl = z0
  · refine .inl ⟨by unfold floorN; rw [if_pos hf], fun t => ?_⟩
    rw [hf]; exact Iff.rfl
  · by_cases hq : q = [102]
    · subst hq
      exact .inr ⟨⟨by decide, by decide⟩, .inr ⟨stF fl, by unfold floorN; rw [if_neg hf, updN_self], (no _).2 ⟨rfl, hf, rfl⟩⟩⟩
    · refine .inl ⟨by unfold floorN; rw [if_neg hf, updN_ne _ _ hq], fun t => ?_⟩
      rw [no]
      constructor
      · exact fun h => absurd h.1 hq
      · rintro (⟨h, _⟩ | ⟨k, _, h2⟩ | ⟨k, v, _, h2, _⟩)
        · exact absurd h hq
        · cases h2
        · cases h2
theorem NtFin.verN {g : Bool} {k : List UInt8} : ∀ {l : List TVer} {nt : Nts} {N : Nat}, NtFin nt N → NtFin (verN g k l nt) (N + l.length)
  | [], nt, N, h => h
  | v :: l, nt, N, h => by
    have := NtFin.verN (l := l) (g := g) (k := k) (h.upd (vkey k v) (verG g v))
    rw [show N + (v :: l).length = N + 1 + l.length by simp; omega]
    exact this
theorem NtFin.noteA {g : Bool} {r : Row} {nt : Nts} {N : Nat} (h : NtFin nt N) : NtFin (noteA g r nt) (N + r.vs.length + 1) := by
  unfold Go.Proofs.YtmnnnoinfhiilaaGreatDoor.noteA
  split
  · exact h.verN.more (by omega)
  · exact h.verN.upd _ _
theorem NtFin.noteAs {g : Bool} : ∀ {rs : List Row} {nt : Nts} {N : Nat}, NtFin nt N → NtFin (noteAs g rs nt) (N + versN rs + rs.length)
  | [], nt, N, h => h
  | r :: rs, nt, N, h => by
    have := NtFin.noteAs (rs := rs) (g := g) (h.noteA (g := g) (r := r))
    exact this.more (by simp [versN]; omega)
theorem NtFin.floor (fl : TStamp) : NtFin (floorN fl) 1 := by
  unfold floorN
  split
  · exact ⟨[], by simp, fun q hq => absurd rfl hq⟩
  · exact NtFin.upd ⟨[], by simp, fun q hq => absurd rfl hq⟩ _ _
end Go.Proofs.YtmnnnoinfhiilaaGreatDoor
set_option linter.unusedSimpArgs false
set_option linter.unusedVariables false
set_option linter.unusedSectionVars false
namespace Go.SL
open Go.Proofs
theorem Cal.le {P : Program} {ω : Om} {g : Nat} {args : Array Value} {I : Imm} {L : LH} {w : World} {Q : Value → Prop} (hs : St ω w I L) (hI : ∀ b o, w.heap[b]? = some o → I b = some o) (hd : ω.dr = w.drawn)
    (h : Cal P ω g args (fun v I2 _ => Q v ∧ Ext I I2) I L) : Calls P g args w fun e w' => (∃ v, e = .returned v ∧ Q v) ∧ ∃ q os', w' = Sort.grow (w.drewN q) os' := by
  refine (h w hs).mono ?_
  rintro e w' ⟨v, I', L', rfl, hs', hv, hI'⟩
  refine ⟨⟨v, rfl, hv⟩, w'.drawn - w.drawn, w'.heap.extract w.heap.size w'.heap.size, ?_⟩
  have hdr := hs'.dr
  rw [hd] at hdr
  have hblk : ∀ k, k < w.heap.size → w'.heap[k]? = w.heap[k]? := by
    intro k hk
    have h1 : w.heap[k]? = some w.heap[k] := Array.getElem?_eq_getElem hk
    rw [h1]
    exact hs'.imm k _ (hI' k _ (hI k _ h1))
  have hsz : w.heap.size ≤ w'.heap.size := by
    rcases Nat.eq_zero_or_pos w.heap.size with h0 | h0
    · omega
    · have := hblk (w.heap.size - 1) (by omega)
      rw [Array.getElem?_eq_getElem (by omega : w.heap.size - 1 < w.heap.size)] at this
      have := (Array.getElem?_eq_some_iff.1 this).1
      omega
  have h1 : w'.heap = w.heap ++ w'.heap.extract w.heap.size w'.heap.size := by
    apply Array.ext_getElem?
    intro i
    by_cases hi : i < w.heap.size
    · rw [Array.getElem?_append_left hi, hblk i hi]
    · rw [Array.getElem?_append_right (by omega), Array.getElem?_extract]
      by_cases h2 : i < w'.heap.size
      · rw [if_pos (by omega)]; congr 1; omega
      · rw [if_neg (by omega)]; exact Array.getElem?_eq_none (by omega)
  obtain ⟨hp, tp, dr, os, ou⟩ := w'
  have e1 := hs'.tape; have e2 := hs'.os; have e3 := hs'.out
  have f1 := hs.tape; have f2 := hs.os; have f3 := hs.out
  simp only at *
  unfold Sort.grow World.drewN
  simp only [World.mk.injEq]
  refine ⟨h1, by rw [e1, f1], by omega, by rw [e2, f2], by rw [e3, f3]⟩
theorem cmpLays_of {P : Program} {g : Nat} {α : Type} [Inhabited α] {enc : α → List Value} {k : Nat} {cf : α → α → Int} {blk off size : Nat} {w : World} {I : Imm}
    (hI : ∀ b o, I b = some o → w.heap[b]? = some o ∧ b ≠ blk)
    (hC : ∀ (ω : Om) (I' : Imm) (x y : α), Ext I I' → Cal P ω g #[.agg (enc x).toArray, .agg (enc y).toArray] (fun v I2 _ => v = .int .i64 (cf x y) ∧ Ext I' I2) I' []) : CmpLays P g #[] enc k cf blk off size w := by
  intro m os dk hs x y
  have hx : Ext I (heapI (sortWorldK enc k w blk off m dk os)) := by
    intro b o hb
    obtain ⟨h1, h2⟩ := hI b o hb
    have hlt := (Array.getElem?_eq_some_iff.1 h1).1
    show ((Sort.mapBlock (Sort.ahead w m) blk (Sort.putCells id off (Sort.flatK enc k dk))).heap ++ os)[b]? = some o
    rw [Array.getElem?_append_left (by simp [Sort.mapBlock, Sort.ahead]; exact hlt)]
    simp only [Sort.mapBlock, Sort.ahead, Array.getElem?_modify]
    rw [if_neg (Ne.symm h2)]
    exact h1
  have h := hC (omOf (sortWorldK enc k w blk off m dk os)) _ x y hx
  have h2 := Cal.le (Q := fun v => v = .int .i64 (cf x y)) (st_start _) (fun _ _ h => h) rfl h
  simp only [Array.append_empty]
  refine h2.mono ?_
  rintro e w' ⟨⟨v, rfl, rfl⟩, h3⟩
  exact ⟨rfl, h3⟩
theorem St.row {ω : Om} {w w' : World} {I : Imm} {F : LH} {b : Nat} {o o' : Obj} (h : St ω w I ((b, o) :: F)) (hk : ∀ j, j < w.heap.size → j ≠ b → w'.heap[j]? = w.heap[j]?) (hb : w'.heap[b]? = some o')
    (h1 : w'.tape = w.tape) (h2 : w'.os = w.os) (h3 : w'.output = w.output) (h4 : w.drawn ≤ w'.drawn) : St ω w' I ((b, o') :: F) := by
  have hnd := h.nodup
  simp only [List.map_cons, List.nodup_cons] at hnd
  refine ⟨fun j u hj => ?_, fun j u hj => ?_, by simpa using hnd, fun j u hj => ?_, h1.trans h.tape, h2.trans h.os, h3.trans h.out, Nat.le_trans h.dr h4⟩
  · rw [hk j (h.ltI hj) (fun e => by subst e; have := h.apart j o (List.mem_cons_self ..); rw [this] at hj; cases hj)]
    exact h.imm j u hj
  · rcases List.mem_cons.1 hj with e | hj
    · simp only [Prod.mk.injEq] at e; obtain ⟨rfl, rfl⟩ := e; exact hb
    · have hj0 := hj
      have hj' : (j, u) ∈ (b, o) :: F := List.mem_cons_of_mem _ hj
      rw [hk j (h.lt hj') (fun e => by subst e; exact hnd.1 (List.mem_map.2 ⟨(j, u), hj0, rfl⟩))]
      exact h.own j u hj'
  · rcases List.mem_cons.1 hj with e | hj
    · simp only [Prod.mk.injEq] at e; obtain ⟨rfl, rfl⟩ := e; exact h.apart j o (List.mem_cons_self ..)
    · exact h.apart j u (List.mem_cons_of_mem _ hj)
/-! ### a row of records -/
structure Rd1 {β : Type} (R : Imm → β → List Value → Prop) (I : Imm) (k : Nat) where
  val : β
  enc : List Value
  rd : R I val enc
  len : enc.length = k
  one : ∀ u ∈ enc, u.oneCell' = true
section
variable {β : Type} {R : Imm → β → List Value → Prop} {I : Imm} {k : Nat}
theorem recs_rd (hlen : ∀ x c, R I x c → c.length = k) (h1 : ∀ x c, R I x c → ∀ u ∈ c, u.oneCell' = true) : ∀ {xs : List β} {cells : List Value}, Recs (R I) k xs cells → ∃ ps : List (Rd1 R I k), ps.map Rd1.val = xs ∧ (ps.map Rd1.enc).flatten = cells
  | [], cells, h => ⟨[], rfl, by rw [show cells = [] from h]; rfl⟩
  | x :: xs, cells, ⟨ha, hb, hc⟩ => by
    obtain ⟨ps, e1, e2⟩ := recs_rd hlen h1 hc
    exact ⟨⟨x, cells.take k, hb, hlen _ _ hb, h1 _ _ hb⟩ :: ps, by rw [List.map_cons, e1], by rw [List.map_cons, List.flatten_cons, e2]; exact List.take_append_drop k cells⟩
theorem rd_recs : ∀ (ps : List (Rd1 R I k)), Recs (R I) k (ps.map Rd1.val) (ps.map Rd1.enc).flatten
  | [] => rfl
  | p :: ps => by
    have hl : (Rd1.enc p).length = k := p.len
    refine ⟨?_, ?_, ?_⟩
    · simp only [List.map_cons, List.flatten_cons]
      rw [List.take_append_of_le_length (by omega), List.take_of_length_le (by omega)]; exact hl
    · simp only [List.map_cons, List.flatten_cons]
      rw [List.take_append_of_le_length (by omega), List.take_of_length_le (by omega)]; exact p.rd
    · simp only [List.map_cons, List.flatten_cons]
      rw [List.drop_append_of_le_length (by omega), List.drop_of_length_le (by omega), List.nil_append]
      exact rd_recs ps
theorem flat_get {α : Type} {enc : α → List Value} (hk : ∀ x, (enc x).length = k) : ∀ (ps : List α) (t : Nat), t < ps.length * k → ∀ p, ps[t / k]? = some p → (ps.map enc).flatten[t]? = (enc p)[t % k]?
  | [], t, h, p, hp => by simp at h
  | q :: ps, t, h, p, hp => by
    have k0 : 0 < k := by rcases Nat.eq_zero_or_pos k with e | e
                          · subst e; simp at h
                          · exact e
    simp only [List.map_cons, List.flatten_cons]
    by_cases ht : t < k
    · rw [Nat.div_eq_of_lt ht] at hp
      simp only [List.getElem?_cons_zero, Option.some.injEq] at hp
      subst hp
      rw [List.getElem?_append_left (by rw [hk]; exact ht), Nat.mod_eq_of_lt ht]
    · have e : t / k = (t - k) / k + 1 := by
        have h2 := Nat.add_div_right (t - k) k0
        rwa [show t - k + k = t by omega] at h2
      rw [e] at hp
      simp only [List.getElem?_cons_succ] at hp
      rw [List.getElem?_append_right (by rw [hk]; omega), hk, flat_get hk ps (t - k) (by simp only [List.length_cons, Nat.add_mul, Nat.one_mul] at h; omega) p hp]
      congr 1
      have h2 := Nat.add_mod_right (t - k) k
      rw [show t - k + k = t by omega] at h2
      exact h2.symm
theorem flat_at {α : Type} [Inhabited α] {enc : α → List Value} (hk : ∀ x, (enc x).length = k) (d : Array α) (t : Nat) (h : t < d.size * k) : (d.toList.map enc).flatten[t]? = some (Sort.flatK enc k d)[t]! := by
  have k0 : 0 < k := by rcases Nat.eq_zero_or_pos k with e | e
                        · subst e; simp at h
                        · exact e
  have hd : t / k < d.size := by rw [Nat.div_lt_iff_lt_mul k0]; exact h
  have hm : t % k < k := Nat.mod_lt _ k0
  rw [Sort.get_flatK enc k d t h, flat_get hk d.toList t (by simpa using h) d[t / k]! (by rw [Array.getElem?_toList, getElem!_pos d _ hd]; exact Array.getElem?_eq_getElem hd)]
  rw [List.getElem?_eq_getElem (by rw [hk]; exact hm), getElem!_pos (enc d[t / k]!) (t % k) (by rw [hk]; exact hm)]
end
theorem sortF_cal {P : Program} {ρ : Go.Shelf.Ren} (Lay : Go.Proofs.SlLaysF0.n6 P ρ) {k : Nat} (aE : ∀ w, (isAgg (ρ.t 24)).run P w = .ok true w) (zE : ∀ w, (Go.sizeOf (ρ.t 24)).run P w = .ok k w)
    {β : Type} {R : Imm → β → List Value → Prop} (hlen : ∀ I x c, R I x c → c.length = k) (h1 : ∀ I x c, R I x c → ∀ u ∈ c, u.oneCell' = true)
    {cf : β → β → Int} (hirr : ∀ x, ¬ cf x x < 0) (htr : ∀ x y z, cf x y < 0 → cf y z < 0 → cf x z < 0) (hntr : ∀ x y z, ¬ cf x y < 0 → ¬ cf y z < 0 → ¬ cf x z < 0)
    {g : Nat} (eg : ∀ args w, (callFunc g args).run P w = .ok (.enter g args) w) {I : Imm}
    (hC : ∀ (ω : Om) (I' : Imm) (x y : β) (c d : List Value), Ext I I' → R I x c → R I y d → Cal P ω g #[.agg c.toArray, .agg d.toArray] (fun v I2 _ => v = .int .i64 (cf x y) ∧ Ext I' I2) I' [])
    {ω : Om} {T : Nat} {X F : LH} {v : Value} {xs : List β} {cells : List Value} (hO : SlO T k X v cells xs.length) (hr : Recs (R I) k xs cells) (hsz : xs.length < 4611686018427387904) {K : Value → M}
    (hk : ∀ X' ys cells', ys.Perm xs → ys.Pairwise (fun a b => ¬ cf b a < 0) → SlO T k X' v cells' xs.length → Recs (R I) k ys cells' → K (.tuple #[]) I (X' ++ F)) :
    Cal P ω (ρ.f 6) #[v, .func (.func g) #[] #[]] K I (X ++ F) := by
  intro w hs
  have none : xs.length = 0 → ∀ a c, v = .slice a 0 c → Calls P (ρ.f 6) #[v, .func (.func g) #[] #[]] w (Ret ω K) := by
    intro h0 a c hv
    rw [hv]
    refine (Go.Proofs.AnyF.slices_SortFunc_none Lay a _ _ w).mono ?_
    rintro e w' ⟨rfl, rfl⟩
    exact ⟨_, I, X ++ F, rfl, hs, hk X xs cells (List.Perm.refl _) (by rw [List.eq_nil_of_length_eq_zero h0]; exact List.Pairwise.nil) hO hr⟩
  obtain ⟨hcl, ho⟩ := hO
  rcases ho with ⟨rfl, h0, a, rfl⟩ | ⟨b, cap, cs, rfl, rfl, hcs, hle, hc⟩
  · exact none h0 a 0 rfl
  by_cases h0 : xs.length = 0
  · exact none h0 (some ⟨b, 0, Option.none⟩) cap (by rw [h0])
  obtain ⟨ps, rfl, rfl⟩ := recs_rd (hlen I) (h1 I) hr
  obtain ⟨p0, hp0⟩ : ∃ p, p ∈ ps := by
    cases ps with
    | nil => exact absurd rfl h0
    | cons p _ => exact ⟨p, List.mem_cons_self ..⟩
  haveI : Inhabited (Rd1 R I k) := ⟨p0⟩
  have hb : w.heap[b]? = some (.cells cs T (0, 0)) := hs.own b _ (List.mem_cons_self ..)
  have hH : Sort.HoldsK Rd1.enc k w b 0 ps.toArray := by
    intro j hj
    rw [Sort.size_flatK] at hj
    refine ⟨?_, by simp [World.frozen?, hb]⟩
    have h2 := flat_at (enc := Rd1.enc) (fun x : Rd1 R I k => x.len) ps.toArray j hj
    have h3 := hc j _ h2
    simp only [World.cell?, hb, Nat.zero_add, Option.isSome_none, Bool.false_eq_true, if_false]
    exact h3
  have hSWO : Sort.SWO (Go.Proofs.ltOf fun x y : Rd1 R I k => cf x.val y.val) :=
    ⟨fun x => by simp [ltOf, hirr], fun x y z a b => by simp only [ltOf, decide_eq_true_eq] at *; exact htr _ _ _ a b, fun x y z a b => by simp only [ltOf, decide_eq_false_iff_not] at *; exact hntr _ _ _ a b⟩
  have hlay : CmpLays P g #[] Rd1.enc k (fun x y : Rd1 R I k => cf x.val y.val) b 0 ps.toArray.size w :=
    cmpLays_of (I := I) (fun j o hj => ⟨hs.imm j o hj, fun e => by subst e; have := hs.apart j _ (List.mem_cons_self ..); rw [this] at hj; cases hj⟩)
      (fun ω' I' x y hI' => hC ω' I' x.val y.val x.enc y.enc hI' x.rd y.rd)
  have hcon := Go.Proofs.AnyQ.slices_SortFunc Lay k aE zE Rd1.enc (fun x : Rd1 R I k => x.len) (fun x => x.one) (fun x y => cf x.val y.val) hSWO g #[] b 0 cap ps.toArray w eg hlay hH (Array.getElem?_eq_some_iff.1 hb).1 (by simpa using hsz)
  have hl2 : (ps.map Rd1.val).length = ps.toArray.size := by simp
  rw [hl2]
  refine hcon.mono ?_
  rintro e w' ⟨rfl, d', n, os, ⟨hp1, _, hp2⟩, hsrt, rfl⟩
  have hsz' : d'.size = ps.length := by simpa using hp1
  have hlt := (Array.getElem?_eq_some_iff.1 hb).1
  have hst : St ω (sortWorldK Rd1.enc k w b 0 n d' os) I ((b, .cells (Sort.putCells id 0 (Sort.flatK Rd1.enc k d') cs) T (0, 0)) :: F) := by
    refine St.row (o := .cells cs T (0, 0)) hs (fun j hj hne => ?_) ?_ rfl rfl rfl (Nat.le_add_right _ _)
    · show ((Sort.mapBlock (Sort.ahead w n) b (Sort.putCells id 0 (Sort.flatK Rd1.enc k d'))).heap ++ os)[j]? = _
      rw [Array.getElem?_append_left (by simp [Sort.mapBlock, Sort.ahead]; exact hj)]
      simp only [Sort.mapBlock, Sort.ahead, Array.getElem?_modify]
      rw [if_neg (Ne.symm hne)]
    · show ((Sort.mapBlock (Sort.ahead w n) b (Sort.putCells id 0 (Sort.flatK Rd1.enc k d'))).heap ++ os)[b]? = _
      rw [Array.getElem?_append_left (by simp [Sort.mapBlock, Sort.ahead]; exact hlt)]
      simp only [Sort.mapBlock, Sort.ahead, Array.getElem?_modify, if_true, hb, Option.map_some]
      rfl
  have hperm : d'.toList.Perm ps := by
    have e1 : (d'.extract 0 ps.toArray.size).toList = d'.toList := by rw [show ps.toArray.size = d'.size by rw [hsz']; simp]; simp
    have e2 : (ps.toArray.extract 0 ps.toArray.size).toList = ps := by simp
    rw [e1, e2] at hp2
    exact hp2
  refine ⟨_, I, _, rfl, hst, hk [(b, _)] (d'.toList.map Rd1.val) (d'.toList.map Rd1.enc).flatten (hperm.map _) ?_ ?_ (rd_recs _)⟩
  · rw [List.pairwise_map, List.pairwise_iff_getElem]
    intro i j hi hj hij
    have hi' : i < d'.size := by simpa using hi
    have hj' : j < d'.size := by simpa using hj
    have := hsrt i j (Nat.zero_le _) hij (by simp [hsz'] at hj' ⊢; omega)
    rw [getElem!_pos d' i hi', getElem!_pos d' j hj'] at this
    simp only [ltOf, decide_eq_false_iff_not] at this
    simpa using this
  · refine ⟨?_, .inr ⟨b, cap, _, rfl, by rw [hl2], ?_, hle, ?_⟩⟩
    · have := (rd_recs d'.toList).length
      rw [this]; simp [hsz']
    · simp [Sort.putCells, hcs]
    · intro j u hu
      have hj : j < d'.size * k := by
        have h2 := (List.getElem?_eq_some_iff.1 hu).1
        have h3 := (rd_recs d'.toList).length
        rw [h3] at h2
        simpa using h2
      rw [flat_at (fun x : Rd1 R I k => x.len) d' j hj] at hu
      have hlt2 : j < cs.size := by
        rw [hcs]
        have : ps.length * k ≤ cap * k := Nat.mul_le_mul_right k (by simpa using hle)
        rw [hsz'] at hj; omega
      simp only [Sort.putCells, Array.getElem?_mapIdx, Array.getElem?_eq_getElem hlt2, Option.map_some, Nat.zero_le, true_and, Nat.zero_add, Sort.size_flatK, hj, if_true, Nat.sub_zero, id]
      exact hu
end Go.SL
namespace Go.Proofs
open Go.Shelf
def Tryz.lay31_ren : Go.Shelf.Ren := ⟨fun | 6 => 31 | 15 => 78 | 14 => 77 | 28 => 109 | 29 => 110 | 20 => 101 | 21 => 102 | 22 => 103 | 23 => 104 | 24 => 105 | 25 => 106 | 26 => 107 | 27 => 108 | 46 => 121 | 47 => 122 | 48 => 123 | 49 => 124 | 50 => 125 | 57 => 131 | n => n, fun | 22 => 42 | 24 => 78 | 25 => 84 | 3 => 3 | 39 => 137 | 0 => 0 | 53 => 170 | 55 => 139 | 4 => 4 | 46 => 164 | 45 => 163 | 50 => 93 | 5 => 5 | 9 => 9 | 66 => 179 | 70 => 183 | 76 => 188 | 77 => 189 | n => n, fun | n => n⟩
theorem Tryz.lay31 : Go.Proofs.SlLaysF0.n6 Tryz.prog Tryz.lay31_ren := {
  mixed := by kernel_rfl
  f6 := ⟨Tryz.f31.name, by decide, Tryz.func31.trans (congrArg some (by kernel_rfl))⟩
  f14 := ⟨Tryz.f77.name, by decide, Tryz.func77.trans (congrArg some (by kernel_rfl))⟩
  f15 := Tryz.func78.trans (congrArg some (by kernel_rfl))
  f20 := ⟨Tryz.f101.name, by decide, Tryz.func101.trans (congrArg some (by kernel_rfl))⟩
  f21 := ⟨Tryz.f102.name, by decide, Tryz.func102.trans (congrArg some (by kernel_rfl))⟩
  f22 := ⟨Tryz.f103.name, by decide, Tryz.func103.trans (congrArg some (by kernel_rfl))⟩
  f23 := ⟨Tryz.f104.name, by decide, Tryz.func104.trans (congrArg some (by kernel_rfl))⟩
  f24 := ⟨Tryz.f105.name, by decide, Tryz.func105.trans (congrArg some (by kernel_rfl))⟩
  f25 := ⟨Tryz.f106.name, by decide, Tryz.func106.trans (congrArg some (by kernel_rfl))⟩
  f26 := ⟨Tryz.f107.name, by decide, Tryz.func107.trans (congrArg some (by kernel_rfl))⟩
  f27 := ⟨Tryz.f108.name, by decide, Tryz.func108.trans (congrArg some (by kernel_rfl))⟩
  f28 := Tryz.func109.trans (congrArg some (by kernel_rfl))
  f29 := Tryz.func110.trans (congrArg some (by kernel_rfl))
  f46 := ⟨Tryz.f121.name, by decide, Tryz.func121.trans (congrArg some (by kernel_rfl))⟩
  f47 := Tryz.func122.trans (congrArg some (by kernel_rfl))
  f48 := Tryz.func123.trans (congrArg some (by kernel_rfl))
  f49 := ⟨Tryz.f124.name, by decide, Tryz.func124.trans (congrArg some (by kernel_rfl))⟩
  f50 := ⟨Tryz.f125.name, by decide, Tryz.func125.trans (congrArg some (by kernel_rfl))⟩
  f57 := ⟨Tryz.f131.name, by decide, Tryz.func131.trans (congrArg some (by kernel_rfl))⟩
  t0 := Tryz.underlying0
  a0 := Tryz.isAgg0
  z0 := Tryz.sizeOf0
  v0 := Tryz.zeroValue0
  t3 := Tryz.underlying3
  a3 := Tryz.isAgg3
  z3 := Tryz.sizeOf3
  v3 := Tryz.zeroValue3
  t4 := Tryz.underlying4
  a4 := Tryz.isAgg4
  z4 := Tryz.sizeOf4
  v4 := Tryz.zeroValue4
  t5 := Tryz.underlying5
  a5 := Tryz.isAgg5
  z5 := Tryz.sizeOf5
  v5 := Tryz.zeroValue5
  t9 := Tryz.underlying9
  a9 := Tryz.isAgg9
  z9 := Tryz.sizeOf9
  v9 := Tryz.zeroValue9
  t22 := Tryz.underlying42
  a22 := Tryz.isAgg42
  z22 := Tryz.sizeOf42
  v22 := Tryz.zeroValue42
  t25 := Tryz.underlying84
  a25 := Tryz.isAgg84
  z25 := Tryz.sizeOf84
  v25 := Tryz.zeroValue84
  t39 := Tryz.underlying137
  a39 := Tryz.isAgg137
  z39 := Tryz.sizeOf137
  v39 := Tryz.zeroValue137
  t45 := Tryz.underlying163
  a45 := Tryz.isAgg163
  z45 := Tryz.sizeOf163
  v45 := Tryz.zeroValue163
  t46 := Tryz.underlying164
  a46 := Tryz.isAgg164
  z46 := Tryz.sizeOf164
  v46 := Tryz.zeroValue164
  t50 := Tryz.underlying93
  a50 := Tryz.isAgg93
  z50 := Tryz.sizeOf93
  v50 := Tryz.zeroValue93
  t53 := Tryz.underlying170
  a53 := Tryz.isAgg170
  z53 := Tryz.sizeOf170
  v53 := Tryz.zeroValue170
  t55 := Tryz.underlying139
  a55 := Tryz.isAgg139
  z55 := Tryz.sizeOf139
  v55 := Tryz.zeroValue139
  t66 := Tryz.underlying179
  a66 := Tryz.isAgg179
  z66 := Tryz.sizeOf179
  v66 := Tryz.zeroValue179
  t70 := Tryz.underlying183
  a70 := Tryz.isAgg183
  z70 := Tryz.sizeOf183
  v70 := Tryz.zeroValue183
  t76 := Tryz.underlying188
  a76 := Tryz.isAgg188
  z76 := Tryz.sizeOf188
  v76 := Tryz.zeroValue188
  t77 := Tryz.underlying189
  a77 := Tryz.isAgg189
  z77 := Tryz.sizeOf189
  v77 := Tryz.zeroValue189 }
def Tryz.lay33_ren : Go.Shelf.Ren := ⟨fun | 106 => 33 | 213 => 79 | 265 => 111 | n => n, fun | 9 => 9 | 3 => 3 | n => n, fun | n => n⟩
theorem Tryz.lay33 : Go.Proofs.Lays.n106 Tryz.prog Tryz.lay33_ren := {
  mixed := by kernel_rfl
  f106 := Tryz.func33.trans (congrArg some (by kernel_rfl))
  f213 := Tryz.func79.trans (congrArg some (by kernel_rfl))
  f265 := Tryz.func111.trans (congrArg some (by kernel_rfl))
  t3 := Tryz.underlying3
  a3 := Tryz.isAgg3
  z3 := Tryz.sizeOf3
  v3 := Tryz.zeroValue3
  t9 := Tryz.underlying9
  a9 := Tryz.isAgg9
  z9 := Tryz.sizeOf9
  v9 := Tryz.zeroValue9 }
end Go.Proofs
-- S3
set_option linter.unusedSimpArgs false
set_option linter.unusedVariables false
namespace Go.Proofs.YtmnnnoinfhiilaaGreatDoor
open Go.SL
set_option maxRecDepth 10000
/-! ### The order -/
theorem blt_cons (a b : UInt8) (x y : List UInt8) : blt (a :: x) (b :: y) = (decide (a < b) || (a == b && blt x y)) := rfl
theorem cmpb_bcmp : ∀ a b : List UInt8, Lib.compareBytes a b = bcmp a b
  | [], [] => by simp [Lib.compareBytes, bcmp, blt_irrefl]
  | [], _ :: _ => rfl
  | _ :: _, [] => rfl
  | a :: p, b :: q => by
    have ih := cmpb_bcmp p q
    unfold Lib.compareBytes
    rw [ih]
    unfold bcmp
    simp only [blt_cons]
    by_cases h1 : a < b
    · simp [h1]
    · by_cases h2 : b < a
      · have : a ≠ b := fun e => by subst e; exact h1 h2
        simp [h1, h2, this.symm, this]
      · have : a = b := UInt8.le_antisymm (UInt8.not_lt.1 h2) (UInt8.not_lt.1 h1)
        subst this
        simp
theorem bcmp_lt {a b : List UInt8} : bcmp a b < 0 ↔ blt a b = true := by
  unfold bcmp
  cases h : blt a b <;> cases h2 : blt b a <;> simp [h, h2]
theorem bcmp_nlt {a b : List UInt8} : ¬ bcmp a b < 0 ↔ blt a b = false := by rw [bcmp_lt]; simp
theorem blt_ntrans {a b c : List UInt8} (h1 : blt a b = false) (h2 : blt b c = false) : blt a c = false := by
  cases h : blt a c with
  | false => rfl
  | true =>
    cases h3 : blt b a with
    | true => rw [blt_trans h3 h] at h2; cases h2
    | false => rw [blt_total a b h1 h3] at h; rw [h] at h2; cases h2
section
variable {ω : Om} {I : Imm} {L : LH} {K : Value → M}
theorem compare_spec {a b : List UInt8} (hk : K (.int .i64 (bcmp a b)) I L) : Cal Tryz.prog ω 33 #[sstr a, sstr b] K I L := fun w hs => by
  have h := Go.Proofs.Any.strings_Compare Go.Proofs.Tryz.lay33 ⟨a.toArray⟩ ⟨b.toArray⟩ w
  refine Calls.mono h ?_
  rintro e w' ⟨rfl, rfl⟩
  refine ⟨_, I, L, rfl, hs, ?_⟩
  simp only [cmpb_bcmp]
  exact hk
theorem takecmp_spec {x y : TOp} {c d : List Value} (hx : TOpV I x c) (hy : TOpV I y d) (hk : K (.int .i64 (bcmp x.fKey y.fKey)) I L) : Cal Tryz.prog ω 32 #[.agg c.toArray, .agg d.toArray] K I L := by
  obtain ⟨k0, v0, rfl, hk0, _⟩ := hx
  obtain ⟨k1, v1, rfl, hk1, _⟩ := hy
  refine cal32 ?_
  unfold sh32
  refine newI (fun b1 => newI (fun b2 => ?_))
  try simp only [SSd, Nat.reduceAdd]
  refine rdb ?_
  refine bs_N hk0 (Ext.refl _) ?_
  try simp only [SSd, Nat.reduceAdd]
  refine rdb ?_
  refine bs_N hk1 (Ext.refl _) ?_
  refine call (compare_spec ?_)
  exact Gh.to L (Gh.done hk)
end
/-! ### All that is noted -/
theorem fnd_at {k : Key} {e : MapEntry} : ∀ {l : List MapEntry} {i : Nat}, (l.map eKey).Nodup → e ∈ l → eKey e = k → (fnd k l i).map (·.2) = some e.val
  | x :: l, i, hn, he, hk => by
    simp only [List.map_cons, List.nodup_cons] at hn
    simp only [fnd]
    rcases List.mem_cons.1 he with rfl | he
    · rw [if_pos hk]; rfl
    · rw [if_neg (fun e2 => hn.1 (List.mem_map.2 ⟨e, he, by rw [hk, e2]⟩))]
      exact fnd_at hn.2 he hk
theorem mapS_mem {es : Array MapEntry} {clock : Nat} {m : Key → Option Value} (h : MapS es clock m) {e : MapEntry} (he : e ∈ es.toList) : m (eKey e) = some e.val := by
  rw [h.val]; exact fnd_at h.nod he rfl
theorem mapS_ex {es : Array MapEntry} {clock : Nat} {m : Key → Option Value} (h : MapS es clock m) {k : Key} {v : Value} (hv : m k = some v) : ∃ e ∈ es.toList, eKey e = k ∧ e.val = v := by
  rw [h.val] at hv
  cases hf : fnd k es.toList 0 with
  | none => rw [hf] at hv; cases hv
  | some p =>
    obtain ⟨i, u⟩ := p
    rw [hf] at hv
    simp only [Option.map_some, Option.some.injEq] at hv
    obtain ⟨n, e, _, h2, h3, h4⟩ := fnd_some hf
    exact ⟨e, List.mem_of_getElem? h2, h3, by rw [h4, hv]⟩
def opOf (nt : Nts) (e : MapEntry) : TOp := match nt (eKey e) with
  | some (d, l) => ⟨d, eKey e, l⟩
  | none => default
theorem opOf_at {I : Imm} {mm : List UInt8 → Option Value} {nt : Nts} {es : Array MapEntry} {clock : Nat} (hn : NotesR I mm nt) (hm : MapS es clock mm) {e : MapEntry} (he : e ∈ es.toList) :
    ∃ d l kv v, nt (eKey e) = some (d, l) ∧ e.val = .agg #[.bool d, kv, v] ∧ opOf nt e = ⟨d, eKey e, l⟩ ∧ TOpV I (opOf nt e) [.bool d, kv, v] := by
  rcases hn (eKey e) with ⟨_, h⟩ | ⟨d, l, kv, v, h1, h2, h3, h4⟩
  · rw [mapS_mem hm he] at h; cases h
  · rw [mapS_mem hm he] at h2
    have e1 : opOf nt e = ⟨d, eKey e, l⟩ := by unfold opOf; rw [h1]
    exact ⟨d, l, kv, v, h1, Option.some.inj h2, e1, by rw [e1]; exact ⟨kv, v, rfl, h3, h4⟩⟩
theorem opOf_key {I : Imm} {mm : List UInt8 → Option Value} {nt : Nts} {es : Array MapEntry} {clock : Nat} (hn : NotesR I mm nt) (hm : MapS es clock mm) {e : MapEntry} (he : e ∈ es.toList) : (opOf nt e).fKey = eKey e := by
  obtain ⟨d, l, kv, v, _, _, h, _⟩ := opOf_at hn hm he
  rw [h]
theorem took_of {I : Imm} {mm : List UInt8 → Option Value} {nt : Nts} {es : Array MapEntry} {clock : Nat} (hn : NotesR I mm nt) (hm : MapS es clock mm) {vis : List MapEntry} (hv : vis.Perm es.toList) {ops : List TOp} (hp : ops.Perm (vis.map (opOf nt)))
    (hs : ops.Pairwise fun a b => ¬ bcmp b.fKey a.fKey < 0) : TookOk nt ops := by
  have hmem : ∀ y, y ∈ ops ↔ ∃ e ∈ es.toList, opOf nt e = y := fun y => by
    rw [hp.mem_iff, List.mem_map]
    exact ⟨fun ⟨e, h1, h2⟩ => ⟨e, hv.mem_iff.1 h1, h2⟩, fun ⟨e, h1, h2⟩ => ⟨e, hv.mem_iff.2 h1, h2⟩⟩
  have hnd : (ops.map (·.fKey)).Nodup := by
    rw [(hp.map _).nodup_iff, List.map_map, ((hv.map _).nodup_iff)]
    have e1 : es.toList.map ((fun x : TOp => x.fKey) ∘ opOf nt) = es.toList.map eKey := List.map_congr_left fun e he => opOf_key hn hm he
    rw [e1]; exact hm.nod
  refine ⟨fun y hy => ?_, fun q d t h => ?_, ?_⟩
  · obtain ⟨e, he, rfl⟩ := (hmem y).1 hy
    obtain ⟨d, l, kv, v, h1, _, h3, _⟩ := opOf_at hn hm he
    rw [h3]; exact h1
  · rcases hn q with ⟨h1, _⟩ | ⟨d', l', kv, v, h1, h2, _, _⟩
    · rw [h] at h1; cases h1
    · obtain ⟨e, he, hk, _⟩ := mapS_ex hm h2
      rw [hmem]
      refine ⟨e, he, ?_⟩
      unfold opOf
      rw [hk, h]
  · have h1 : ops.Pairwise fun a b => a.fKey ≠ b.fKey := List.pairwise_map.1 hnd
    refine (hs.and h1).imp fun {a b} h => ?_
    have h2 := bcmp_nlt.1 h.1
    cases h3 : blt a.fKey b.fKey with
    | true => rfl
    | false => exact absurd (blt_total _ _ h3 h2) h.2
theorem ents_sub : ∀ {a c : List MapEntry}, a.Nodup → (∀ x ∈ a, x ∈ c) → a.length ≤ c.length
  | [], c, _, _ => by simp
  | x :: a, c, hn, hs => by
    obtain ⟨C1, C2, rfl⟩ := List.append_of_mem (hs x (List.mem_cons_self ..))
    have := ents_sub (a := a) (c := C1 ++ C2) (List.nodup_cons.1 hn).2 (fun y hy => by
      have h1 := hs y (List.mem_cons_of_mem _ hy)
      simp only [List.mem_append, List.mem_cons] at h1 ⊢
      rcases h1 with h1 | rfl | h1
      · exact .inl h1
      · exact absurd hy (List.nodup_cons.1 hn).1
      · exact .inr h1)
    simp only [List.length_append, List.length_cons] at this ⊢
    omega
theorem ents_le {mm : List UInt8 → Option Value} {I : Imm} {nt : Nts} {es : Array MapEntry} {clock N : Nat} (hn : NotesR I mm nt) (hm : MapS es clock mm) (hN : NtFin nt N) : es.toList.length ≤ N := by
  obtain ⟨Q, h1, h2⟩ := hN
  have := nodup_len (l := es.toList.map eKey) (Q := Q) hm.nod (fun q hq => by
    obtain ⟨e, he, rfl⟩ := List.mem_map.1 hq
    obtain ⟨d, l, kv, v, h3, _⟩ := opOf_at hn hm he
    exact h2 _ (by rw [h3]; simp))
  rw [List.length_map] at this
  omega
section
variable {ω : Om} {I : Imm} {L : LH} {K : Value → M}
theorem vals_spec {yv : Value} {qm m : Nat} {es : Array MapEntry} {clock : Nat} {mm : Key → Option Value} (J : List MapEntry → M) (hm : MapS es clock mm)
    (hJ : ∀ vis I' L', J vis I' L' → Cell I' L' qm 0 (.map (some m)) ∧ MapAt I' L' m es clock) (hval : ∀ e ∈ es.toList, ∃ d kv v, e.val = .agg #[.bool d, kv, v] ∧ kv.oneCell' = true ∧ v.oneCell' = true)
    (hstep : ∀ vis e b I' L', J vis I' L' → e ∈ es.toList → It es (vis ++ [e]) → ∀ bv, CalV Tryz.prog ω yv #[e.val] (fun v => Gh fun I2 L2 => v = .bool true ∧ ∃ L3, L2 = (b, iterO m clock (vis ++ [e])) :: L3 ∧ J (vis ++ [e]) I2 L3) I' ((bv, .cells e.val.cells 78 (0, 0)) :: (b, iterO m clock (vis ++ [e])) :: L'))
    (h0 : J [] I L) (hk : ∀ vis I' L', vis.Perm es.toList → J vis I' L' → K (.tuple #[]) I' L') :
    Cal Tryz.prog ω 76 #[yv, pt qm] K I L := by
  obtain ⟨hc, hmp⟩ := hJ _ _ _ h0
  refine cal76 ?_
  unfold sh76
  refine rdC hc (Ext.refl _) ?_
  refine rngI hmp (fun b => ?_)
  refine Gh.done ?_
  refine loop (fun n s I' L' => ∃ vis L3, It es vis ∧ n + vis.length = es.toList.length ∧ L' = (b, iterO m clock vis) :: L3 ∧ J vis I' L3) es.toList.length ⟨[], L, It.none es, rfl, rfl, h0⟩ ?_
  rintro n s I' L' ⟨vis, L3, hi, hn, rfl, hJ3⟩
  unfold sh76_1
  obtain ⟨hc3, hmp3⟩ := hJ _ _ _ hJ3
  refine nxtI hm hmp3 hi (fun hp => Gh.done ?_) (fun e he hi' => Gh.done ?_)
  · try simp only [SSd, Nat.reduceAdd]
    exact Gh.to L3 (Gh.done (hk vis I' L3 hp hJ3))
  · have hlen : vis.length + 1 ≤ es.toList.length := by
      have := ents_sub (nodup_of_map hi'.nod) hi'.sub
      simpa using this
    try simp only [SSd, Nat.reduceAdd]
    refine ⟨_, entI hm hmp3 he, ?_⟩
    obtain ⟨d, kv, v, hev, h1, h2⟩ := hval e he
    have hev2 : e.val.cells = #[.bool d, kv, v] := by rw [hev]; rfl
    have hs := hstep vis e b I' L3 hJ3 he hi'
    rw [hev2] at hs
    try simp only [SSd, Nat.reduceAdd]
    refine newI (fun bv => ?_)
    rw [hev] at hs ⊢
    refine stB rfl rfl (fun u hu => ?_) ?_
    · simp only [List.mem_cons, List.not_mem_nil, or_false] at hu
      rcases hu with rfl | rfl | rfl
      · rfl
      · exact h1
      · exact h2
    refine rdB rfl ?_
    refine CalV.mono (hs bv) (fun v2 I2 L2 hv2 => Gh.mono hv2 ?_)
    rintro I3 L3' ⟨rfl, L4, rfl, hJ4⟩
    simp only [Bool.not_true, SSd, Nat.reduceAdd]
    exact (Gh.done ⟨n - 1, by omega, _, L4, hi', by rw [List.length_append, List.length_singleton]; omega, rfl, hJ4⟩)
theorem rngVals {qm : Nat} {B : Value → RB} {Kn : Nat → M} {Xs : Nat → List (Nat × M)} {Rr : Nat → M}
    (h : ∀ (l D : Nat) (Lo : LoF), (∀ a K' I' L', YldM l Lo (B a) K' I' L' → CalV Tryz.prog ω (.func (.yield l) #[] #[]) #[a] K' I' L') →
      Cal Tryz.prog ω 76 #[.func (.yield l) #[] #[], pt qm] (fun _ => Gh (EndL l Lo (jumpM (Kn D) (Xs D) (Rr D)))) I ((l, Lo .ready none) :: (D, .deferred (some [])) :: L)) :
    RngF1 Tryz.prog ω (.func (.func 76) #[] #[pt qm]) B Kn Xs Rr I L := by
  unfold RngF1 RngM
  simp only
  rw [if_pos (show entersB Tryz.prog 76 = true by kernel_rfl)]
  intro l D Lo _ hy
  exact h l D Lo (fun a K' I' L' hh => hy [a] K' I' L' rfl hh)
theorem coll_spec {qm m : Nat} {es : Array MapEntry} {clock N : Nat} {mm : Key → Option Value} {nt : Nts} (hm : MapS es clock mm) (hn : NotesR I mm nt) (hN : NtFin nt N) (hNl : N ≤ 1000000)
    (hc : Cell I L qm 0 (.map (some m))) (hmp : MapAt I L m es clock)
    (hk : ∀ (X : LH) (v : Value) (vis : List MapEntry) (cells : List Value), vis.Perm es.toList → SlO 78 3 X v cells vis.length → Recs (TOpV I) 3 (vis.map (opOf nt)) cells → K v I (X ++ L)) :
    Cal Tryz.prog ω 29 #[.func (.func 76) #[] #[pt qm]] K I L := by
  have hle := ents_le hn hm hN
  refine cal29 ?_
  unfold sh29
  refine call ?_
  refine cal75 ?_
  unfold sh75
  refine newI (fun bs => ?_)
  refine rngVals (fun l D Lo hy => ?_)
  refine vals_spec (qm := qm) (m := m) (es := es) (clock := clock) (mm := mm) (L := (l, Lo .ready none) :: (D, .deferred (some [])) :: (bs, .cells #[.slice none 0 0] 42 (0, 0)) :: L)
    (fun vis I' L' => I' = I ∧ ∃ XO vo cells, SlO 78 3 XO vo cells vis.length ∧ Recs (TOpV I) 3 (vis.map (opOf nt)) cells ∧ vis.length ≤ es.toList.length ∧ L' = (l, Lo .ready none) :: (D, .deferred (some [])) :: (bs, .cells #[vo] 42 (0, 0)) :: (XO ++ L)) hm ?_ ?_ ?_ ?_ ?_
  · rintro vis I' L' ⟨rfl, XO, vo, cells, _, _, _, rfl⟩
    exact ⟨hc.mono (Ext.refl _) (fun x hx => by simp [hx]), MapAt.mono hmp (Ext.refl _) (fun x hx => by simp [hx])⟩
  · intro e he
    obtain ⟨d, l, kv, v, _, h2, _, h4⟩ := opOf_at hn hm he
    have h5 := h4.one
    exact ⟨d, kv, v, h2, h5 kv (by simp), h5 v (by simp)⟩
  · rintro vis e b I' L' ⟨rfl, XO, vo, cells, hO, hR, hlv, rfl⟩ he hi' bv
    obtain ⟨d, l2, kv, v, h1, h2, h3, h4⟩ := opOf_at hn hm he
    have hlen : vis.length + 1 ≤ es.toList.length := by
      have := ents_sub (nodup_of_map hi'.nod) hi'.sub
      simpa using this
    refine hy _ _ _ _ (yldM ?_)
    have h2c : e.val.cells = #[.bool d, kv, v] := by rw [h2]; rfl
    rw [h2c, h2]
    refine newI (fun b2 => ?_)
    refine stB rfl rfl h4.one ?_
    refine begR ?_
    refine rdb ?_
    refine rdB rfl ?_
    obtain ⟨va, vc, rfl⟩ := hO.form
    refine rec_app (R := TOpV) (X6 := XO) (x := opOf nt e) (xs := vis.map (opOf nt)) (cells := cells) rfl (by omega) (by simpa using hO) hR h4 rfl h4.one (by simp; omega) (by simp; omega) (fun X1 X6 v6 cells6 h6 hR6 => ?_)
    obtain ⟨a6, c6, rfl⟩ := h6.form
    refine st1 rfl ?_
    refine endR ?_
    refine Gh.to ((b, iterO m clock (vis ++ [e])) :: (l, Lo .ready none) :: (D, .deferred (some [])) :: (bs, .cells #[.slice a6 (vis.map (opOf nt) ++ [opOf nt e]).length c6] 42 (0, 0)) :: (X6 ++ L)) (Gh.done ⟨rfl, _, rfl, rfl, X6, _, cells6, ?_, ?_, ?_, rfl⟩)
    · simpa using h6
    · simpa using hR6
    · simpa using hlen
  · exact ⟨rfl, [], _, [], SlO.none _ _, rfl, Nat.zero_le _, rfl⟩
  · rintro vis I' L' hp ⟨rfl, XO, vo, cells, hO, hR, hlv, rfl⟩
    refine Gh.done (endL (s := .ready) (j := none) (by simp) ?_)
    show sh75_2 ω (pt bs) (.slice none 0 0) D _ _ _
    unfold sh75_2
    refine rdb ?_
    refine tak ?_
    exact Gh.to (XO ++ L) (Gh.done (Gh.done (hk XO vo vis cells hp hO hR)))
theorem take0 {b m ch N : Nat} {kv : Value} {fl : TStamp} {X F : LH} {nt : Nts} (hNR : NoteR I b m ch kv fl X nt) (hN : NtFin nt N) (hNl : N ≤ 1000000)
    (hk : ∀ X' I' v ops ch', Ext I I' → NoteR I' b m ch' kv fl X' nt0 → TookOk nt ops → RL TOpV 3 I' [] v ops → K v I' (X' ++ F)) : Cal Tryz.prog ω 8 #[pt b] K I (X ++ F) := by
  obtain ⟨NX, hp, hNt⟩ := hNR
  obtain ⟨ces, cclock, mm, rfl, hm, hn⟩ := hNt
  refine Cal.perm (L' := (b, spO m kv fl ch) :: (ch, .map ces cclock) :: F) (ms_perm (by rw [ms_app, ms_eq hp]; ((try simp only [ms_cons, ms_app, ms_nil, ms_nil']); (try ac_rfl)))) ?_
  refine cal8 ?_
  unfold sh8
  try simp only [SSd, Nat.reduceAdd]
  refine rdb ?_
  refine call ?_
  refine cal30 ?_
  unfold sh30
  refine newI (fun qm => ?_)
  refine Gh.done ?_
  refine call (coll_spec hm hn hN (by omega) (Cell.own (b := qm) (cs := #[.map (some ch)]) (T := 63) (fr := (0, 0)) (List.mem_cons_self ..) rfl) (.inl (by simp)) (fun XO vo vis cells hp2 hO hR => ?_))
  have hle := ents_le hn hm hN
  have hvl : vis.length = ces.toList.length := hp2.length_eq
  refine call ?_
  have hO' : SlO 78 3 XO vo cells (vis.map (opOf nt)).length := by simpa using hO
  refine sortF_cal Go.Proofs.Tryz.lay31 (ω := ω) (K := _) (k := 3) (R := TOpV) (cf := fun x y => bcmp x.fKey y.fKey) (g := 32) Tryz.isAgg78 Tryz.sizeOf78 (fun I x c h => h.len) (fun I x c h => h.one) (fun x => by rw [bcmp_lt, blt_irrefl]; simp) (fun x y z h1 h2 => by rw [bcmp_lt] at *; exact blt_trans h1 h2)
    (fun x y z h1 h2 => by rw [bcmp_nlt] at *; exact blt_ntrans h1 h2) (enters_of Tryz.func32 (by kernel_rfl) rfl)
    (fun ω' I' x y c d hI hx hy => takecmp_spec (hx.mono hI) (hy.mono hI) ⟨rfl, Ext.refl _⟩) hO' hR (by simp; omega) (fun X' ops cells' hperm hsrt hO2 hR2 => ?_)
  have hto := took_of hn hm hp2 hperm hsrt
  have hlo : (vis.map (opOf nt)).length = ops.length := hperm.length_eq.symm
  rw [hlo] at hO2
  refine newm (fun ch2 => ?_)
  try simp only [SSd, Nat.reduceAdd]
  refine Gh.perm (L' := (b, spO m kv fl ch) :: (X' ++ ((ch2, .map #[] 0) :: (qm, .cells #[.map (some ch)] 63 (0, 0)) :: (ch, .map ces cclock) :: F))) (ms_perm (by ((try simp only [ms_cons, ms_app, ms_nil, ms_nil']); (try ac_rfl)))) ?_
  refine Gh.done ?_
  refine st1 rfl ?_
  refine Gh.perm (L' := X' ++ ((b, spO m kv fl ch2) :: (ch2, .map #[] 0) :: (qm, .cells #[.map (some ch)] 63 (0, 0)) :: (ch, .map ces cclock) :: F)) (ms_perm (by ((try simp only [ms_cons, ms_app, ms_nil, ms_nil']); (try ac_rfl)))) ?_
  refine RL.ofO (R := TOpV) (fun h hI => h.mono hI) hO2 hR2 (fun I' hI hRL => ?_)
  refine Gh.to ((b, spO m kv fl ch2) :: (ch2, .map #[] 0) :: F) ?_
  exact Gh.done (hk [(b, spO m kv fl ch2), (ch2, .map #[] 0)] I' _ ops ch2 hI ⟨[(ch2, .map #[] 0)], List.Perm.refl _, ⟨#[], 0, fun _ => none, rfl, MapS.empty, fun k => .inl ⟨rfl, rfl⟩⟩⟩ hto hRL)
theorem take_spec : TakeSpec := by
  intro ω I K b X F sp nt hS hlen hN hk
  obtain ⟨ps, m, ch, kv, es, clock, KX, RX, NX, hp, hF⟩ := hS
  refine Cal.gh (Cal.perm (L' := ((b, spO m kv sp.floor ch) :: NX) ++ ((m, .map es clock) :: (KX ++ (RX ++ F)))) (ms_perm (by rw [ms_app, ms_eq hp]; ((try simp only [ms_cons, ms_app, ms_nil, ms_nil']); (try ac_rfl)))) ?_)
  refine take0 (N := 1000000) ⟨NX, List.Perm.refl _, hF.nts⟩ hN (by omega) (fun X' I' v ops ch' hI hNR hto hRL => ?_)
  obtain ⟨NX', hp2, hNt⟩ := hNR
  refine Gh.perm (L' := ((b, spO m kv sp.floor ch') :: (m, .map es clock) :: (KX ++ (RX ++ NX'))) ++ F) (ms_perm (by rw [ms_app, ms_eq hp2]; ((try simp only [ms_cons, ms_app, ms_nil, ms_nil']); (try ac_rfl)))) ?_
  exact Gh.done (hk _ I' v ops hI ⟨ps, m, ch', kv, es, clock, KX, RX, NX', List.Perm.refl _, hF.map, hF.keys, hF.rows, hNt⟩ hto hRL)
end
end Go.Proofs.YtmnnnoinfhiilaaGreatDoor
-- S3
set_option linter.unusedSimpArgs false
set_option linter.unusedVariables false
namespace Go.Proofs.YtmnnnoinfhiilaaGreatDoor
open Go.SL
set_option maxRecDepth 10000
section
variable {ω : Om} {I : Imm} {L : LH} {K : Value → M}
theorem NoteR.head {b m ch : Nat} {kv : Value} {fl : TStamp} {X : LH} {nt : Nts} (h : NoteR I b m ch kv fl X nt) : Cells I X b 0 [.map (some m), kv, .int .i64 fl.fWall, .int .i64 fl.fLogic] := by
  obtain ⟨NX, hp, _⟩ := h
  exact own_cells (l := [.map (some m), kv, .int .i64 fl.fWall, .int .i64 fl.fLogic, .map (some ch)]) (T := 66) (fr := (0, 0)) (hp.mem_iff.2 (List.mem_cons_self ..)) 4
theorem noteVersion0 {b m ch : Nat} {kv : Value} {fl : TStamp} {X F : LH} {nt : Nts} {k : List UInt8} {v : TVer} (hN : NoteR I b m ch kv fl X nt) (hr : rightB v.fAt = true) (hl : k.length ≤ 1000000000) (hvl : v.fValue.length ≤ 1000000000)
    (hk : ∀ X' I', Ext I I' → NoteR I' b m ch kv fl X' (updN nt (vkey k v) (false, verText v)) → K (.tuple #[]) I' (X' ++ F)) :
    Cal Tryz.prog ω 62 #[pt b, sstr k, vv v] K I (X ++ F) := by
  refine cal62 ?_
  unfold sh62
  refine newI (fun q => ?_)
  refine drawC ?_
  refine rdBS rfl ?_
  refine callG (vkey_spec hr hl (fun X1 u I1 hI1 hX => ?_))
  refine OB.freeze hX (fun I2 hI2 hB => Gh.done ?_)
  refine keepS (hI1.trans hI2) (fun x hx => hx) ?_
  refine rdBS rfl ?_
  refine callG (text_spec hvl (fun X3 u3 hX3 => ?_))
  refine OB.freeze hX3 (fun I3 hI3 hB3 => Gh.done ?_)
  refine call (Cal.to (X ++ F) ?_)
  refine note0 (hN.mono (hI1.trans (hI2.trans hI3))) (hB.mono hI3) hB3 (fun X' h' => ?_)
  exact Gh.done (hk X' I3 (hI1.trans (hI2.trans hI3)) h')
theorem noteFloor0 {b m ch : Nat} {kv : Value} {fl : TStamp} {X F : LH} {nt : Nts} (hN : NoteR I b m ch kv fl X nt) (hr : rightB fl = true)
    (hk : ∀ X' I', Ext I I' → NoteR I' b m ch kv fl X' (updN nt [102] (false, stF fl)) → K (.tuple #[]) I' (X' ++ F)) :
    Cal Tryz.prog ω 42 #[pt b] K I (X ++ F) := by
  have hh := hN.head
  refine cal42 ?_
  unfold sh42
  try simp only [SSd, Nat.reduceAdd]
  refine rdN (vs := [.int .i64 fl.fWall, .int .i64 fl.fLogic]) rfl (fun j u hu => ?_) ?_
  · match j, hu with
    | 0, hu => exact (hh 2 u (by simpa using hu)).mono (Ext.refl _) (fun x hx => List.mem_append_left _ hx)
    | 1, hu => exact (hh 3 u (by simpa using hu)).mono (Ext.refl _) (fun x hx => List.mem_append_left _ hx)
  refine callG (hbytes_spec (x := fl) hr (fun X1 u hX => ?_))
  refine OB.freeze hX (fun I2 hI2 hB => Gh.done ?_)
  try simp only [SSd, Nat.reduceAdd]
  refine by1 (c := 102) (fun X1 u1 h1 => OB.freeze h1 (fun I3 hI3 hB3 => Gh.done ?_))
  refine call (note0 (hN.mono (hI2.trans hI3)) hB3 (hB.mono hI3) (fun X' h' => ?_))
  exact Gh.done (hk X' I3 (hI2.trans hI3) h')
theorem noteIntent0 {b m ch p clock : Nat} {kv : Value} {es : Array MapEntry} {mm : Key → Option Value} {fl : TStamp} {X F : LH} {nt : Nts} {k : List UInt8} {r : Row} (hN : NoteR I b m ch kv fl X nt) (hA : MapAt I F m es clock) (hM : MapS es clock mm) (hpk : mm k = some (pt p)) (hCV : CellV I F p r)
    (ht : 0 ≤ r.it.txn ∧ r.it.txn < 9223372036854775808) (hri : r.it.txn ≠ 0 → rightB r.it.ver.fAt = true) (hl : k.length ≤ 1000000000) (hvl : r.it.ver.fValue.length ≤ 1000000000)
    (hk : ∀ X' I', Ext I I' → NoteR I' b m ch kv fl X' (updN nt (105 :: k) (itText r.it)) → K (.tuple #[]) I' (X' ++ F)) :
    Cal Tryz.prog ω 52 #[pt b, sstr k] K I (X ++ F) := by
  have hh := hN.head
  obtain ⟨sl, hC, hVs⟩ := hCV.mono (Ext.refl I) (show ∀ x ∈ F, x ∈ X ++ F from fun x hx => List.mem_append_right _ hx)
  obtain ⟨c0, c1, c14, c3, c4, c5, _⟩ := itC hC
  refine cal52 ?_
  unfold sh52
  refine by1 (c := 105) (fun X1 u1 h1 => Gh.done ?_)
  refine ob_appG (y := k) h1 (.inr (.inr ⟨_, rfl, rfl, by simp [ByteArray.size], by simp [u8s]⟩)) (by simp; omega) (fun X2 u2 h2 => ?_)
  refine OB.freeze h2 (fun I2 hI2 hB2 => Gh.done ?_)
  try simp only [SSd, Nat.reduceAdd]
  refine rdC (L0 := X ++ F) ((hh 0 _ rfl).mono (Ext.refl _) (fun x hx => List.mem_append_left _ hx)) hI2 ?_
  refine ⟨_, lk_at (MapAt.mono hA hI2 (fun x hx => by simp [hx])) hM, ?_⟩
  simp only [hpk, lkV]
  simp only [Bool.false_eq_true, if_false, SSd, Nat.reduceAdd]
  refine rdC c5 hI2 ?_
  try simp only [SSd, Nat.reduceAdd]
  refine br_split (fun e => ?_) (fun e => ?_)
  · simp at e
    refine call (Cal.to (X ++ F) ?_)
    refine note0 (hN.mono hI2) hB2 (show Bytes I2 _ [] from SlI.nil I2 1 none 0) (fun X' h' => ?_)
    refine Gh.done (hk X' I2 hI2 ?_)
    unfold itText; rw [if_pos e]; exact h'
  · simp at e
    refine rdNC c1 hI2 rfl ?_
    have hs9 : (stF r.it.ver.fAt).length = 9 := rfl
    have hv9 := varL_9 (n := r.it.txn.toNat) (by omega)
    refine callG (hbytes_spec (hri e) (fun X3 u3 h3 => Gh.done ?_))
    try simp only [SSd, Nat.reduceAdd]
    refine rdC c5 hI2 ?_
    try simp only [SSd, Nat.reduceAdd]
    rw [wrap_u64 _ ht.1 (by omega), show r.it.txn = ((r.it.txn.toNat : Nat) : Int) by omega]
    refine call (number_spec (by omega) (fun u4 I4 hI4 hB4 => ?_))
    refine ob_appG (y := varL r.it.txn.toNat) h3 (SlI.news hB4) (by omega) (fun X5 u5 h5 => Gh.done ?_)
    refine rdNC c14 (hI2.trans hI4) rfl ?_
    refine call (text_spec hvl (fun X6 u6 h6 => ?_))
    have hvt : (verText r.it.ver).length ≤ 1000000001 := by unfold verText; split <;> simp; omega
    refine ob_appG (X6 := X5) (y := verText r.it.ver) h5 (h6.news (fun x hx => by simp [hx])) (by rw [List.length_append]; omega) (fun X7 u7 h7 => ?_)
    refine OB.freeze h7 (fun I7 hI7 hB7 => Gh.done ?_)
    refine call (Cal.to (X ++ F) ?_)
    refine note0 (hN.mono (hI2.trans (hI4.trans hI7))) (hB2.mono (hI4.trans hI7)) hB7 (fun X' h' => ?_)
    refine Gh.done (hk X' I7 (hI2.trans (hI4.trans hI7)) ?_)
    unfold itText; rw [if_neg e]; exact h'
theorem verN_take {g : Bool} {k : List UInt8} {l : List TVer} {i : Nat} (hi : i < l.length) (nt : Nts) : verN g k (l.take (i + 1)) nt = updN (verN g k (l.take i) nt) (vkey k l[i]) (verG g l[i]) := by
  unfold verN; rw [take_snoc hi, List.foldl_append]; rfl
theorem noteAll0 {b m ch p clock : Nat} {kv : Value} {es : Array MapEntry} {mm : Key → Option Value} {fl : TStamp} {X F : LH} {nt : Nts} {r : Row} {g : Bool} (hN : NoteR I b m ch kv fl X nt) (hA : g = false → MapAt I F m es clock ∧ MapS es clock mm ∧ mm r.key = some (pt p)) (hCV : CellV I F p r)
    (hr : RowOk r) (hvs : r.vs.length ≤ 1000000000)
    (hk : ∀ X' I', Ext I I' → NoteR I' b m ch kv fl X' (noteA g r nt) → K (.tuple #[]) I' (X' ++ F)) :
    Cal Tryz.prog ω 45 #[pt b, sstr r.key, pt p, .bool g] K I (X ++ F) := by
  obtain ⟨sl, hC, hVs⟩ := hCV
  obtain ⟨c0, c1, c14, c3, c4, c5, _⟩ := itC hC
  have hkl := hr.keyL
  refine cal45 ?_
  unfold sh45
  try simp only [SSd, Nat.reduceAdd]
  refine rdC c0 (Ext.refl _) ?_
  simp only [RL.len hVs, SSd, Nat.reduceAdd]
  refine loop (fun n s I' L' => ∃ (i : Nat) (X' : LH), n + i = r.vs.length ∧ s = (.int .i64 i, ()) ∧ Ext I I' ∧ NoteR I' b m ch kv fl X' (verN g r.key (r.vs.take i) nt) ∧ L' = X' ++ F) r.vs.length ⟨0, X, rfl, rfl, Ext.refl _, hN, rfl⟩ ?_
  rintro n s I' L' ⟨i, X', hn, rfl, hI, hN', rfl⟩
  unfold sh45_1
  try simp only [SSd, Nat.reduceAdd]
  refine br_split (fun e => ?_) (fun e => ?_)
  · have hi : i < r.vs.length := by simpa using e
    obtain ⟨bx, off, c, hix, hcl, hc, hcc⟩ := RL.ix hVs (i := (i : Int)) (by omega) (by omega)
    have hget : geti r.vs (i : Int) = r.vs[i] := geti_nat hi
    rw [hget] at hc
    have hce : c = _ := hc
    have hv := hr.vs r.vs[i] (List.getElem_mem hi)
    have hvlen : r.vs[i].fValue.length ≤ 1000000000 := by have := hv.len; omega
    have hnext := verN_take (g := g) (k := r.key) hi nt
    simp only [hix, SSd, Nat.reduceAdd]
    refine rdN hcl (hcc I' (X' ++ F) hI (fun x hx => List.mem_append_right _ hx)) ?_
    subst hce
    refine newI (fun q => ?_)
    refine stB rfl rfl (one_all rfl) ?_
    cases g with
    | true =>
      try simp only [SSd, Nat.reduceAdd]
      refine rdB rfl ?_
      refine call (Cal.to (X' ++ F) (noteGone0 (v := r.vs[i]) hN' hv.right (by omega) (fun X2 I2 hI2 hN2 => ?_)))
      unfold sh45_3
      try simp only [SSd, Nat.reduceAdd]
      rw [wrap_i64 _ (by omega)]
      exact (Gh.done ⟨n - 1, by omega, i + 1, X2, by omega, rfl, hI.trans hI2, by rw [hnext]; exact hN2, rfl⟩)
    | false =>
      try simp only [SSd, Nat.reduceAdd]
      refine rdB rfl ?_
      refine call (Cal.to (X' ++ F) (noteVersion0 (v := r.vs[i]) hN' hv.right (by omega) hvlen (fun X2 I2 hI2 hN2 => ?_)))
      unfold sh45_3
      try simp only [SSd, Nat.reduceAdd]
      rw [wrap_i64 _ (by omega)]
      exact (Gh.done ⟨n - 1, by omega, i + 1, X2, by omega, rfl, hI.trans hI2, by rw [hnext]; exact hN2, rfl⟩)
  · have hi : i = r.vs.length := by
      have : ¬ i < r.vs.length := by simpa using e
      omega
    rw [hi, List.take_length] at hN'
    unfold sh45_5
    try simp only [SSd, Nat.reduceAdd]
    refine rdC c5 hI ?_
    try simp only [SSd, Nat.reduceAdd]
    refine br_split (fun e2 => ?_) (fun e2 => ?_)
    · simp at e2
      refine Gh.done (hk X' I' hI ?_)
      unfold noteA; rw [if_pos e2]; exact hN'
    · simp at e2
      cases g with
      | true =>
        try simp only [SSd, Nat.reduceAdd]
        refine by1 (c := 105) (fun X1 u1 h1 => Gh.done ?_)
        refine ob_appG (y := r.key) h1 (.inr (.inr ⟨_, rfl, rfl, by simp [ByteArray.size], by simp [u8s]⟩)) (by simp; omega) (fun X2 u2 h2 => ?_)
        refine OB.freeze h2 (fun I2 hI2 hB2 => Gh.done ?_)
        refine call (Cal.to (X' ++ F) (note0 (hN'.mono hI2) hB2 (show Bytes I2 _ [] from SlI.nil I2 1 none 0) (fun X3 h3 => ?_)))
        refine (Gh.done (hk X3 I2 (hI.trans hI2) ?_))
        unfold noteA; rw [if_neg e2]; exact h3
      | false =>
        obtain ⟨hA1, hA2, hA3⟩ := hA rfl
        have hit : r.it.txn ≠ 0 → rightB r.it.ver.fAt = true ∧ r.it.ver.fValue.length ≤ 10000 := fun h0 => by
          rcases hr.it with h | ⟨_, h⟩
          · rw [h] at h0; exact absurd rfl h0
          · exact ⟨h.right, h.len⟩
        have hvl : r.it.ver.fValue.length ≤ 1000000000 := by have := (hit e2).2; omega
        have htx := hr.txn
        try simp only [SSd, Nat.reduceAdd]
        refine call (noteIntent0 hN' (MapAt.mono hA1 hI (fun x hx => hx)) hA2 hA3 (CellV.mono ⟨sl, hC, hVs⟩ hI (fun x hx => hx)) (by omega) (fun h0 => (hit h0).1) (by omega) hvl (fun X2 I2 hI2 hN2 => ?_))
        refine (Gh.done (hk X2 I2 (hI.trans hI2) ?_))
        unfold noteA; rw [if_neg e2]; exact hN2
end
end Go.Proofs.YtmnnnoinfhiilaaGreatDoor
-- S3
set_option linter.unusedSimpArgs false
set_option linter.unusedVariables false
namespace Go.Proofs.YtmnnnoinfhiilaaGreatDoor
open Go.SL
set_option maxRecDepth 10000
theorem low_take {k : List UInt8} {rows : List Row} {i : Nat} (h1 : ∀ x ∈ (keysOf rows).take i, blt x k = true) (h2 : ∀ x ∈ (keysOf rows).drop i, blt x k = false) : lowR k rows = rows.take i ∧ highR k rows = rows.drop i := by
  have g1 : ∀ r ∈ rows.take i, blt r.key k = true := fun r hr => h1 _ (by unfold keysOf; rw [← List.map_take]; exact List.mem_map_of_mem hr)
  have g2 : ∀ r ∈ rows.drop i, blt r.key k = false := fun r hr => h2 _ (by unfold keysOf; rw [← List.map_drop]; exact List.mem_map_of_mem hr)
  unfold lowR highR
  constructor
  · conv => lhs; rw [← List.take_append_drop i rows]
    rw [List.filter_append, List.filter_eq_self.2 g1, List.filter_eq_nil_iff.2 (fun r hr => by simp [g2 r hr]), List.append_nil]
  · conv => lhs; rw [← List.take_append_drop i rows]
    rw [List.filter_append, List.filter_eq_nil_iff.2 (fun r hr => by simp [g1 r hr]), List.filter_eq_self.2 (fun r hr => by simp [g2 r hr]), List.nil_append]
theorem RowsR.nil {X : LH} {ps : List Nat} (h : RowsR X ps []) : X = [] ∧ ps = [] := by
  cases ps with
  | nil => exact ⟨h, rfl⟩
  | cons p ps => exact absurd h (by simp [RowsR])
theorem cellV_own {L Y : LH} {p : Nat} {sl : Value} {r : Row} (hp : (p, cellO sl r.it) ∈ L) (hv : VsO Y sl r.vs) (hY : ∀ x ∈ Y, x ∈ L) {I : Imm} : CellV I L p r := ⟨sl, own_cells hp 6, hv.rl hY⟩
section
variable {ω : Om} {I : Imm} {L : LH} {K : Value → M}
theorem split_spec {b : Nat} {v1 : Value} {k : List UInt8} {X F : LH} {sp : Sp} {nt : Nts} (hS : SpR I b X sp nt) (hok : SpOk sp) (hlen : sp.rows.length ≤ 100000000) (hvs : ∀ r ∈ sp.rows, r.vs.length ≤ 1000000000) (hB : Bytes I v1 k)
    (hno : keyOk k = false → K (.tuple #[.pointer none, .int .i64 1]) I (X ++ F))
    (hk : ∀ I' bt X' Xt, keyOk k = true → Ext I I' → SpR I' b X' (splL k sp) (noteAs true (highR k sp.rows) nt) → SpR I' bt Xt (splR k sp) (noteAs false (highR k sp.rows) (floorN sp.floor)) → K (.tuple #[pt bt, .int .i64 0]) I' (X' ++ (Xt ++ F))) :
    Cal Tryz.prog ω 12 #[pt b, v1] K I (X ++ F) := by
  obtain ⟨rows, fl⟩ := sp
  refine cal12 ?_
  unfold sh12
  refine call (iskey_spec hB ?_)
  try simp only [SSd, Nat.reduceAdd]
  cases hko : keyOk k with
  | false =>
    simp only [Bool.not_false, SSd, Nat.reduceAdd]
    exact Gh.done (hno hko)
  | true =>
  simp only [Bool.not_true, SSd, Nat.reduceAdd]
  refine callG (new_spec (fun bt X0 hS0 => ?_))
  obtain ⟨ps, m, ch, kv, es, clock, KX, RX, NX, hp, hF⟩ := hS
  obtain ⟨ps0, mt, cht, kvt, est, clockt, KX0, RX0, NX0, hp0, hF0⟩ := hS0
  obtain ⟨rfl, rfl⟩ := RowsR.nil hF0.rows
  have hmap0 : MapS est clockt (cellsM [] []) := hF0.map
  have hfl0 : sp0.floor = z0 := rfl
  rw [hfl0] at hp0
  simp only at hp hlen hvs ⊢
  refine Gh.perm (L' := (b, spO m kv fl ch) :: (bt, spO mt kvt z0 cht) :: ((m, .map es clock) :: (mt, .map est clockt) :: (NX ++ (NX0 ++ (KX ++ (KX0 ++ (RX ++ F))))))) (ms_perm (by simp only [ms_app, ms_cons, ms_eq hp, ms_eq hp0]; ((try simp only [ms_cons, ms_app, ms_nil, ms_nil']); (try ac_rfl)))) (Gh.done ?_)
  try simp only [SSd, Nat.reduceAdd]
  refine rdP [.int .i64 fl.fWall, .int .i64 fl.fLogic] rfl rfl ?_
  refine stP [.map (some mt), kvt, .int .i64 fl.fWall, .int .i64 fl.fLogic, .map (some cht)] rfl rfl rfl rfl ?_
  refine rdP [.int .i64 fl.fWall, .int .i64 fl.fLogic] rfl rfl ?_
  have hs := hok.rise
  have hkl : (keysOf rows).length = rows.length := by simp [keysOf]
  have main : ∀ I1 NX1 cht1, Ext I I1 → NtR I1 cht1 NX1 (floorN fl) →
      sh12_1 ω (pt b) v1 (.pointer none) (.int .i64 0) (pt bt) (fun v => Gh (K v)) I1 ((b, spO m kv fl ch) :: (bt, spO mt kvt fl cht1) :: ((m, .map es clock) :: (mt, .map est clockt) :: (NX ++ (NX1 ++ (KX ++ (KX0 ++ (RX ++ F))))))) := by
    intro I1 NX1 cht1 hI1 hN1
    unfold sh12_1
    refine drawC ?_
    try simp only [SSd, Nat.reduceAdd]
    refine rdbS ?_
    refine bs_I hB hI1 ?_
    refine call (bsearch_spec (StrO.rl hF.keys (fun x hx => by simp [hx])) (by simp only; omega) hs (fun i hi hlo hhi => ?_))
    obtain ⟨eA, eD⟩ := low_take hlo hhi
    simp only [hkl] at hi
    try simp only [SSd, Nat.reduceAdd]
    refine rdb ?_
    obtain ⟨va, hsl, hV1⟩ := RL.part (StrO.rl (I := I1) (L := (b, spO m kv fl ch) :: (bt, spO mt kvt fl cht1) :: ((m, .map es clock) :: (mt, .map est clockt) :: (NX ++ (NX1 ++ (KX ++ (KX0 ++ (RX ++ F))))))) hF.keys (fun x hx => by simp [hx])) (lo := i) (hi := (keysOf rows).length) (by omega) (Nat.le_refl _) (some (.int .i64 i)) none (bnd_in _ _ _ _ (by omega)) (fun _ _ => rfl)
    have eR : ((keysOf rows).drop i).take ((keysOf rows).length - i) = keysOf (highR k rows) := by
      rw [eD, List.take_of_length_le (by simp)]; unfold keysOf; rw [List.map_drop]
    rw [eR] at hV1
    have hDl : (keysOf (highR k rows)).length ≤ 100000000 := by rw [eD]; simp [keysOf]; omega
    have hAl : (keysOf (lowR k rows)).length ≤ 100000000 := by rw [eA]; simp [keysOf]; omega
    simp only [hsl, SSd, Nat.reduceAdd]
    refine callG (clone_spec hV1 (by omega) (fun XR kvR hKR => ?_))
    obtain ⟨aR, cR, rfl⟩ := hKR.form
    refine Gh.perm (L' := (b, spO m kv fl ch) :: (bt, spO mt kvt fl cht1) :: ((m, .map es clock) :: (mt, .map est clockt) :: (NX ++ (NX1 ++ (KX ++ (KX0 ++ (RX ++ (XR ++ F)))))))) (ms_perm (by ((try simp only [ms_cons, ms_app, ms_nil, ms_nil']); (try ac_rfl)))) (Gh.done ?_)
    try simp only [SSd, Nat.reduceAdd]
    refine st1 rfl ?_
    refine rdb ?_
    obtain ⟨va2, hsl2, hV2⟩ := RL.part (StrO.rl (I := I1) (L := (b, spO m kv fl ch) :: (bt, spO mt (.slice aR (keysOf (highR k rows)).length cR) fl cht1) :: ((m, .map es clock) :: (mt, .map est clockt) :: (NX ++ (NX1 ++ (KX ++ (KX0 ++ (RX ++ (XR ++ F)))))))) hF.keys (fun x hx => by simp [hx])) (lo := 0) (hi := i) (by omega) (by simp only [hkl]; exact hi) none (some (.int .i64 i)) rfl (fun cap hcap => bnd_in _ _ _ _ (by simp only [hkl] at hcap; omega))
    have eL : ((keysOf rows).drop 0).take (i - 0) = keysOf (lowR k rows) := by
      rw [eA]; simp [keysOf, List.map_take]
    rw [eL] at hV2
    simp only [hsl2, SSd, Nat.reduceAdd]
    refine callG (clone_spec hV2 (by omega) (fun XL kvL hKL => ?_))
    obtain ⟨aL, cL, rfl⟩ := hKL.form
    refine Gh.perm (L' := (m, .map es clock) :: (mt, .map est clockt) :: (b, spO m kv fl ch) :: (NX ++ ((bt, spO mt (.slice aR (keysOf (highR k rows)).length cR) fl cht1) :: (NX1 ++ (XL ++ (XR ++ (RX ++ ([] ++ (KX ++ (KX0 ++ F)))))))))) (ms_perm (by ((try simp only [ms_cons, ms_app, ms_nil, ms_nil']); (try ac_rfl)))) (Gh.done ?_)
    try simp only [SSd, Nat.reduceAdd]
    refine st1 rfl ?_
    refine rdb ?_
    try simp only [SSd, Nat.reduceAdd]
    have hrows : rows = lowR k rows ++ highR k rows := low_high hs
    generalize eA2 : lowR k rows = A at *
    generalize eD2 : highR k rows = D at *
    clear hsl hsl2 hV1 hV2 hlo hhi eR eL va va2 eA eD
    subst hrows
    obtain ⟨P, Q, rfl, hPl, hQl⟩ := split_ps2 hF.rows.len
    have hkD : (keysOf D).length = D.length := by simp [keysOf]
    have hDl2 : D.length ≤ 100000000 := by omega
    refine loop (fun n s I' L' => ∃ (j : Nat) (Xs Xt RXs RXt : LH) (es' est' : Array MapEntry) (clock' clockt' ch' cht' : Nat), n + j = D.length ∧ s = (.int .i64 j, ()) ∧ Ext I I' ∧ NoteR I' b m ch' (.slice aL (keysOf A).length cL) fl Xs (noteAs true (D.take j) nt) ∧ NoteR I' bt mt cht' (.slice aR (keysOf D).length cR) fl Xt (noteAs false (D.take j) (floorN fl)) ∧
      MapS es' clock' (cellsM (P ++ Q.drop j) (A ++ D.drop j)) ∧ MapS est' clockt' (cellsM (Q.take j) (D.take j)) ∧ RowsR RXs (P ++ Q.drop j) (A ++ D.drop j) ∧ RowsR RXt (Q.take j) (D.take j) ∧ L' = (m, .map es' clock') :: (mt, .map est' clockt') :: (Xs ++ (Xt ++ (XL ++ (XR ++ (RXs ++ (RXt ++ (KX ++ (KX0 ++ F))))))))) D.length
      ⟨0, (b, spO m (.slice aL (keysOf A).length cL) fl ch) :: NX, (bt, spO mt (.slice aR (keysOf D).length cR) fl cht1) :: NX1, RX, [], es, est, clock, clockt, ch, cht1, rfl, rfl, hI1, ⟨NX, List.Perm.refl _, hF.nts.mono hI1⟩, ⟨NX1, List.Perm.refl _, hN1⟩, hF.map, hmap0, hF.rows, rfl, rfl⟩ ?_
    rintro n s I' L' ⟨j, Xs, Xt, RXs, RXt, es', est', clock', clockt', ch', cht', hn, rfl, hI, hNs, hNt, hMs, hMt, hRs, hRt, rfl⟩
    unfold sh12_2
    try simp only [SSd, Nat.reduceAdd]
    refine br_split (fun e => ?_) (fun e => ?_)
    · have hj : j < D.length := by simp only [hkD] at e; simpa using e
      have hjQ : j < Q.length := by omega
      have eD : D.drop j = D[j] :: D.drop (j + 1) := List.drop_eq_getElem_cons hj
      have eQ : Q.drop j = Q[j] :: Q.drop (j + 1) := List.drop_eq_getElem_cons hjQ
      obtain ⟨bx, off, c, hix, hcl, hc, hcc⟩ := RL.ix (StrO.rl (I := I') (L := (m, .map es' clock') :: (mt, .map est' clockt') :: (Xs ++ (Xt ++ (XL ++ (XR ++ (RXs ++ (RXt ++ (KX ++ (KX0 ++ F))))))))) hKR (fun x hx => by simp [hx])) (i := (j : Int)) (by omega) (by omega)
      have hce : c = [sstr D[j].key] := by
        have h1 : c = [sstr (geti (keysOf D) (j : Int))] := by simpa [StrV] using hc
        rw [h1, geti_nat (by omega)]; simp [keysOf]
      subst hce
      have hmid : Mid (A ++ D.take j) D[j].key (D.drop (j + 1)) := by
        refine SrtK.mid ?_
        have e2 : (A ++ D.take j) ++ D[j] :: D.drop (j + 1) = A ++ D := by rw [List.append_assoc, ← split_at hj]
        rw [e2]; exact hs
      have hrm : D[j] ∈ A ++ D := List.mem_append_right _ (List.getElem_mem hj)
      have hrok := hok.rows _ hrm
      have hrvs := hvs _ hrm
      have hl1 : (Q.take j).length = (D.take j).length := by simp; omega
      have eD1 : D.take (j + 1) = D.take j ++ [D[j]] := take_snoc hj
      have eQ1 : Q.take (j + 1) = Q.take j ++ [Q[j]] := take_snoc hjQ
      rw [eD, eQ] at hMs hRs
      generalize er : D[j] = r at *
      generalize eD2' : D.drop (j + 1) = D2 at *
      generalize ep : Q[j] = p at *
      generalize eQ2' : Q.drop (j + 1) = Q2 at *
      generalize eD1' : D.take j = D1 at *
      generalize eQ1' : Q.take j = Q1 at *
      have hmA : Mid A r.key D2 := ⟨fun x hx => hmid.lt x (List.mem_append_left _ hx), hmid.gt⟩
      have hm1 : Mid D1 r.key [] := ⟨fun x hx => hmid.lt x (List.mem_append_right _ hx), fun x hx => by cases hx⟩
      simp only [hix, SSd, Nat.reduceAdd]
      refine rd1 (hcc I' _ (Ext.refl _) (fun x h => h) 0 _ rfl) ?_
      try simp only [SSd, Nat.reduceAdd]
      refine rdC (L0 := Xs) (hNs.head 0 _ rfl) (Ext.refl _) ?_
      refine lkm hMs ?_
      simp only [cellsM_mid hPl hmA rfl, lkV, Bool.false_eq_true, if_false]
      refine rdC (L0 := Xs) (hNs.head 0 _ rfl) (Ext.refl _) ?_
      obtain ⟨es2, he2, hMs2⟩ := hMs.del r.key
      rw [← cellsM_del hPl hmA rfl] at hMs2
      refine delm hMs he2 (Gh.done ?_)
      try simp only [SSd, Nat.reduceAdd]
      refine rdC (L0 := Xt) (hNt.head 0 _ rfl) (Ext.refl _) ?_
      obtain ⟨est2, ct2, he3, hMt2⟩ := hMt.put r.key (pt p)
      have eM : cellsM (Q1 ++ [p]) (D1 ++ [r]) = updM (cellsM Q1 D1) r.key (some (pt p)) := by
        have := cellsM_ins (P := Q1) (Q := []) (A := D1) (B := []) (p := p) (r := r) hl1 hm1 rfl
        simpa using this
      rw [← eM] at hMt2
      refine putm hMt he3 ?_
      obtain ⟨sl, Y, Z, hq, hv, hRs2⟩ := RowsR.pick hPl hRs
      refine Gh.perm (L' := Xs ++ ((m, .map es2 clock') :: (mt, .map est2 ct2) :: (p, cellO sl r.it) :: (Y ++ (Z ++ (Xt ++ (XL ++ (XR ++ (RXt ++ (KX ++ (KX0 ++ F)))))))))) (ms_perm (by simp only [ms_app, ms_cons, ms_eq hq]; ((try simp only [ms_cons, ms_app, ms_nil, ms_nil']); (try ac_rfl)))) (Gh.done ?_)
      refine callG (noteAll0 (g := true) (es := #[]) (clock := 0) (mm := fun _ => none) hNs (fun h => by cases h) (cellV_own (sl := sl) (Y := Y) (by simp) hv (fun x hx => by simp [hx])) hrok hrvs (fun Xs2 I2 hI2 hNs2 => ?_))
      refine Gh.perm (L' := Xt ++ ((m, .map es2 clock') :: (mt, .map est2 ct2) :: (p, cellO sl r.it) :: (Y ++ (Z ++ (Xs2 ++ (XL ++ (XR ++ (RXt ++ (KX ++ (KX0 ++ F)))))))))) (ms_perm (by ((try simp only [ms_cons, ms_app, ms_nil, ms_nil']); (try ac_rfl)))) (Gh.done ?_)
      refine callG (noteAll0 (g := false) (m := mt) (hNt.mono hI2) (fun _ => ⟨.inl (by simp), hMt2, cellsM_mid (Q := []) (B := []) hl1 hm1 rfl⟩) (cellV_own (sl := sl) (Y := Y) (by simp) hv (fun x hx => by simp [hx])) hrok hrvs (fun Xt2 I3 hI3 hNt2 => ?_))
      refine Gh.perm (L' := (m, .map es2 clock') :: (mt, .map est2 ct2) :: (Xs2 ++ (Xt2 ++ (XL ++ (XR ++ (Z ++ (((p, cellO sl r.it) :: (Y ++ RXt)) ++ (KX ++ (KX0 ++ F))))))))) (ms_perm (by ((try simp only [ms_cons, ms_app, ms_nil, ms_nil']); (try ac_rfl)))) (Gh.done ?_)
      try simp only [SSd, Nat.reduceAdd]
      rw [wrap_i64 _ (by omega)]
      have hNt2' : NoteR I3 bt mt cht' (.slice aR (keysOf D).length cR) fl Xt2 (noteAs false (D1 ++ [r]) (floorN fl)) := by
        unfold noteAs at hNt2 ⊢; rw [List.foldl_append]; exact hNt2
      have hNs2' : NoteR I3 b m ch' (.slice aL (keysOf A).length cL) fl Xs2 (noteAs true (D1 ++ [r]) nt) := by
        have := hNs2.mono hI3
        unfold noteAs at this ⊢; rw [List.foldl_append]; exact this
      refine Gh.done ⟨n - 1, by omega, j + 1, Xs2, Xt2, Z, (p, cellO sl r.it) :: (Y ++ RXt), es2, est2, clock', ct2, ch', cht', by omega, rfl, hI.trans (hI2.trans hI3), ?_, ?_, ?_, ?_, ?_, ?_, rfl⟩
      · rw [eD1]; exact hNs2'
      · rw [eD1]; exact hNt2'
      · rw [eQ2', eD2']; exact hMs2
      · rw [eQ1, eD1]; exact hMt2
      · rw [eQ2', eD2']; exact hRs2
      · rw [eQ1, eD1]
        exact RowsR.put (Q := []) (B := []) hl1 (List.Perm.refl _) hv (by simpa using hRt)
    · have hj : j = D.length := by
        have : ¬ j < D.length := by simp only [hkD] at e; simpa using e
        omega
      rw [hj, List.take_length] at hNs hNt hMt hRt
      rw [hj, List.drop_length, List.append_nil] at hMs hRs
      have eQ0 : Q.drop D.length = [] := by rw [← hQl]; exact List.drop_length
      have eQ1 : Q.take D.length = Q := by rw [← hQl]; exact List.take_length
      rw [eQ0, List.append_nil] at hMs hRs
      rw [eQ1] at hMt hRt
      obtain ⟨NXs, hqs, hNs⟩ := hNs
      obtain ⟨NXt, hqt, hNt⟩ := hNt
      refine Gh.perm (L' := ((b, spO m (.slice aL (keysOf A).length cL) fl ch') :: (m, .map es' clock') :: (XL ++ (RXs ++ NXs))) ++ (((bt, spO mt (.slice aR (keysOf D).length cR) fl cht') :: (mt, .map est' clockt') :: (XR ++ (RXt ++ NXt))) ++ (KX ++ (KX0 ++ F)))) (ms_perm (by simp only [ms_app, ms_cons, ms_eq hqs, ms_eq hqt]; ((try simp only [ms_cons, ms_app, ms_nil, ms_nil']); (try ac_rfl)))) ?_
      refine Gh.to (((b, spO m (.slice aL (keysOf A).length cL) fl ch') :: (m, .map es' clock') :: (XL ++ (RXs ++ NXs))) ++ (((bt, spO mt (.slice aR (keysOf D).length cR) fl cht') :: (mt, .map est' clockt') :: (XR ++ (RXt ++ NXt))) ++ F)) ?_
      refine Gh.done (hk I' bt _ _ hko hI ?_ ?_)
      · exact ⟨P, m, ch', _, es', clock', XL, RXs, NXs, List.Perm.refl _, by rw [show (splL k ⟨A ++ D, fl⟩) = ⟨A, fl⟩ from by unfold splL; simp only [eA2]]; exact ⟨hMs, hKL, hRs, hNs⟩⟩
      · exact ⟨Q, mt, cht', _, est', clockt', XR, RXt, NXt, List.Perm.refl _, by rw [show (splR k ⟨A ++ D, fl⟩) = ⟨D, fl⟩ from by unfold splR; simp only [eD2]]; exact ⟨hMt, hKR, hRt, hNt⟩⟩
  obtain ⟨fw, fg⟩ := fl
  simp only [stampNe, SSd, Nat.reduceAdd]
  refine br_split (fun e => ?_) (fun e => ?_)
  · have hne : (⟨fw, fg⟩ : TStamp) ≠ z0 := fun h => by
      simp only [TStamp.mk.injEq] at h
      simp [h.1, h.2] at e
    have hfn : floorN ⟨fw, fg⟩ = updN nt0 [102] (false, stF ⟨fw, fg⟩) := by unfold floorN; rw [if_neg hne]
    refine callG (Cal.perm (L' := ((bt, spO mt kvt ⟨fw, fg⟩ cht) :: NX0) ++ ((b, spO m kv ⟨fw, fg⟩ ch) :: (m, .map es clock) :: (mt, .map est clockt) :: (NX ++ (KX ++ (KX0 ++ (RX ++ F)))))) (ms_perm (by ((try simp only [ms_cons, ms_app, ms_nil, ms_nil']); (try ac_rfl)))) (noteFloor0 (m := mt) ⟨NX0, List.Perm.refl _, hF0.nts⟩ hok.floor (fun X' I' hI' hN' => ?_)))
    obtain ⟨NX1, hq1, hNt1⟩ := hN'
    refine Gh.perm (L' := (b, spO m kv ⟨fw, fg⟩ ch) :: (bt, spO mt kvt ⟨fw, fg⟩ cht) :: ((m, .map es clock) :: (mt, .map est clockt) :: (NX ++ (NX1 ++ (KX ++ (KX0 ++ (RX ++ F))))))) (ms_perm (by simp only [ms_app, ms_cons, ms_eq hq1]; ((try simp only [ms_cons, ms_app, ms_nil, ms_nil']); (try ac_rfl)))) (Gh.done ?_)
    exact main I' NX1 cht hI' (by rw [hfn]; exact hNt1)
  · have he : (⟨fw, fg⟩ : TStamp) = z0 := by
      have : fw = 0 ∧ fg = 0 := by simpa using e
      rw [this.1, this.2]
    have hfn : floorN ⟨fw, fg⟩ = nt0 := by unfold floorN; rw [if_pos he]
    exact main I NX0 cht (Ext.refl _) (by rw [hfn]; exact hF0.nts)
end
end Go.Proofs.YtmnnnoinfhiilaaGreatDoor
-- S3
set_option linter.unusedSimpArgs false
set_option linter.unusedVariables false
namespace Go.Proofs.YtmnnnoinfhiilaaGreatDoor
open Go.SL
set_option maxRecDepth 10000
/-! ### No deletion is noted -/
def NoDel (nt : Nts) : Prop := ∀ q p, nt q = some p → p.1 = false
theorem NoDel.upd {nt : Nts} (h : NoDel nt) {k : List UInt8} {x : Bool × List UInt8} (hx : x.1 = false) : NoDel (updN nt k x) := fun q p hq => by
  by_cases e : q = k
  · rw [e, updN_self] at hq; rw [← Option.some.inj hq]; exact hx
  · rw [updN_ne _ _ e] at hq; exact h q p hq
theorem NoDel.verN {k : List UInt8} : ∀ {l : List TVer} {nt : Nts}, NoDel nt → NoDel (verN false k l nt)
  | [], nt, h => h
  | v :: l, nt, h => NoDel.verN (l := l) (h.upd (k := vkey k v) (x := verG false v) rfl)
theorem NoDel.noteA {r : Row} {nt : Nts} (h : NoDel nt) : NoDel (noteA false r nt) := by
  unfold Go.Proofs.YtmnnnoinfhiilaaGreatDoor.noteA
  split
  · exact h.verN
  · exact h.verN.upd (by simp only [Bool.false_eq_true, if_false]; rw [itText_yes (by assumption)])
theorem NoDel.noteAs : ∀ {rs : List Row} {nt : Nts}, NoDel nt → NoDel (noteAs false rs nt)
  | [], nt, h => h
  | r :: rs, nt, h => NoDel.noteAs (rs := rs) (h.noteA (r := r))
theorem NoDel.floor (fl : TStamp) : NoDel (floorN fl) := by
  have h0 : NoDel nt0 := fun q p h => by cases h
  unfold floorN
  split
  · exact h0
  · exact h0.upd rfl
def kvsOf (ops : List TOp) : List TKV := ops.map fun y => ⟨y.fKey, y.fValue⟩
theorem kvs_kept {sp : Sp} (hok : SpOk sp) {nt : Nts} {ops : List TOp} (h : TookOk nt ops) (hd : NoDel nt) (hN : Noted (fun q t => (⟨q, t⟩ : TKV) ∈ ([] : List TKV)) sp nt) (x : TKV) : x ∈ kvsOf ops ↔ keptR sp x.fKey x.fValue := by
  constructor
  · intro hx
    obtain ⟨y, hy, rfl⟩ := List.mem_map.1 hx
    have h1 := h.mem y hy
    rcases hN y.fKey with ⟨_, ⟨h2, _⟩ | ⟨t, h2, h3⟩⟩ | ⟨h2, _⟩
    · have := hd _ _ h2; cases this
    · rw [h1] at h2
      have h4 := (Prod.mk.inj (Option.some.inj h2)).2
      show keptR sp y.fKey y.fValue
      rw [h4]; exact h3
    · rw [h1] at h2; cases h2
  · intro hx
    rcases hN x.fKey with ⟨_, ⟨h2, h3⟩ | ⟨t, h2, h3⟩⟩ | ⟨_, h3⟩
    · exact absurd hx (h3 _)
    · have e := keptR_fun hok h3 hx
      exact List.mem_map.2 ⟨⟨false, x.fKey, t⟩, h.all _ _ _ h2, by rw [e]⟩
    · cases (h3 _).1 hx
theorem kvs_srt {nt : Nts} {ops : List TOp} (h : TookOk nt ops) : SrtKV (kvsOf ops) := List.pairwise_map.2 h.rise
theorem noteAs_take {g : Bool} {rows : List Row} {i : Nat} (hi : i < rows.length) (nt : Nts) : noteAs g (rows.take (i + 1)) nt = noteA g rows[i] (noteAs g (rows.take i) nt) := by
  unfold noteAs; rw [take_snoc hi, List.foldl_append]; rfl
section
variable {ω : Om} {I : Imm} {L : LH} {K : Value → M}
theorem all5_spec {p2 v : Value} {ops : List TOp} {F : LH} (h : RL TOpV 3 I [] v ops) (hl : ops.length ≤ 1000000) (hk : ∀ I' u, Ext I I' → RL TKVV 2 I' [] u (kvsOf ops) → Gh (K u) I' F) :
    LoopM ((.slice none 0 0, .int .i64 0, ()) : Value × Value × Unit) (fun s Kn1 => sh14_5 ω p2 v (.int .i64 ops.length) s.1 s.2.1 Kn1 (fun v => Gh (K v))) I F := by
  refine loop (fun n s I' L' => ∃ (i : Nat) (XO : LH) (vo : Value) (cells : List Value), n + i = ops.length ∧ s = (vo, .int .i64 i, ()) ∧ Ext I I' ∧ SlO 86 2 XO vo cells i ∧ Recs (TKVV I') 2 (kvsOf (ops.take i)) cells ∧ L' = XO ++ F) ops.length ⟨0, [], _, [], rfl, rfl, Ext.refl _, SlO.none _ _, rfl, rfl⟩ ?_
  rintro n s I' L' ⟨i, XO, vo, cells, hn, rfl, hI, hO, hR, rfl⟩
  unfold sh14_5
  try simp only [SSd, Nat.reduceAdd]
  refine br_split (fun e => ?_) (fun e => ?_)
  · have hi : i < ops.length := by simpa using e
    obtain ⟨bx, off, c, hix, hcl, hc, hcc⟩ := RL.ix h (i := (i : Int)) (by omega) (by omega)
    rw [geti_nat hi] at hc
    obtain ⟨v1, v2, rfl, hb1, hb2⟩ := hc
    simp only [hix, SSd, Nat.reduceAdd]
    refine rdN hcl (hcc I' _ hI (fun x hx => by cases hx)) ?_
    refine newI (fun q => ?_)
    obtain ⟨a1, c1, rfl⟩ := Bytes.form hb1
    obtain ⟨a2, c2, rfl⟩ := Bytes.form hb2
    refine stB rfl rfl (one_all rfl) ?_
    refine rdb ?_
    try simp only [SSd, Nat.reduceAdd]
    refine rdb ?_
    try simp only [SSd, Nat.reduceAdd]
    have hlen : (kvsOf (ops.take i)).length = i := by simp [kvsOf]; omega
    refine rec_app (R := TKVV) (X6 := XO) (x := ⟨ops[i].fKey, ops[i].fValue⟩) (xs := kvsOf (ops.take i)) (cells := cells) rfl (by omega) (by rw [hlen]; exact hO) hR ⟨_, _, rfl, hb1.mono hI, hb2.mono hI⟩ rfl (one_all rfl) (by omega) (by omega) (fun X1 X6 v6 cells6 h6 hR6 => ?_)
    have e1 : kvsOf (ops.take (i + 1)) = kvsOf (ops.take i) ++ [⟨ops[i].fKey, ops[i].fValue⟩] := by unfold kvsOf; rw [take_snoc hi, List.map_append]; rfl
    rw [wrap_i64 _ (by omega)]
    refine Gh.to (X6 ++ F) (Gh.done ⟨n - 1, by omega, i + 1, X6, v6, cells6, by omega, rfl, hI, ?_, by rw [e1]; exact hR6, rfl⟩)
    rw [List.length_append, hlen] at h6
    exact h6
  · have hi : i = ops.length := by
      have : ¬ i < ops.length := by simpa using e
      have : i ≤ ops.length := by omega
      omega
    rw [hi, List.take_length] at hR
    have hlen : (kvsOf ops).length = i := by simp [kvsOf, hi]
    rw [← hlen] at hO
    exact RL.ofO (R := TKVV) (fun h hI => h.mono hI) hO hR (fun I2 hI2 hRL => hk I2 _ (hI.trans hI2) hRL)
theorem all_spec {b : Nat} {X F : LH} {sp : Sp} {nt : Nts} (hS : SpR I b X sp nt) (hok : SpOk sp) (hlen : sp.rows.length ≤ 1000) (hn : versN sp.rows ≤ 1000)
    (hk : ∀ I' u l, Ext I I' → RL TKVV 2 I' [] u l → (∀ x : TKV, x ∈ l ↔ keptR sp x.fKey x.fValue) → SrtKV l → l.length ≤ 10000 → K u I' (X ++ F)) : Cal Tryz.prog ω 14 #[pt b] K I (X ++ F) := by
  obtain ⟨m, kv, es, clock, ps, hV⟩ := hS.view (L := X ++ F) (fun x hx => List.mem_append_left _ hx)
  obtain ⟨rows, fl⟩ := sp
  have hvs : ∀ r ∈ rows, r.vs.length ≤ 1000000000 := fun r hr => by have := vs_le hn r hr; omega
  refine cal14 ?_
  unfold sh14
  refine drawC ?_
  try simp only [SSd, Nat.reduceAdd]
  refine rdCS (L0 := X ++ F) (hV.head 0 _ rfl) (Ext.refl _) ?_
  refine rdCS (L0 := X ++ F) (hV.head 1 _ rfl) (Ext.refl _) ?_
  refine rdNCS (L0 := X ++ F) (vs := [.int .i64 fl.fWall, .int .i64 fl.fLogic]) (by simpa using hV.head.sub (k := 2) (m := 2)) (Ext.refl _) rfl ?_
  refine newm (fun cht => ?_)
  refine Gh.done (keepC (Ext.refl _) ?_)
  have hkf : ∃ a c, kv = .slice a (keysOf rows).length c := RL.form hV.keys
  obtain ⟨ka, kc, rfl⟩ := hkf
  try simp only [SSd, Nat.reduceAdd]
  refine newI (fun bt => ?_)
  try simp only [SSd, Nat.reduceAdd]
  refine rdP [.int .i64 fl.fWall, .int .i64 fl.fLogic] rfl rfl ?_
  have hkl : (keysOf rows).length = rows.length := by simp [keysOf]
  have hlen' : rows.length ≤ 1000 := hlen
  have main : ∀ I1 Xt ch1, Ext I I1 → NoteR I1 bt m ch1 (.slice ka (keysOf rows).length kc) fl Xt (floorN fl) →
      sh14_1 ω (.slice none 0 0) (pt bt) (fun v => Gh (K v)) I1 (Xt ++ (X ++ F)) := by
    intro I1 Xt ch1 hI1 hN1
    unfold sh14_1
    try simp only [SSd, Nat.reduceAdd]
    refine rdC (L0 := Xt) (hN1.head 1 _ rfl) (Ext.refl _) ?_
    try simp only [SSd, Nat.reduceAdd]
    refine loop (fun n s I' L' => ∃ (j : Nat) (Xt : LH) (ch' : Nat), n + j = rows.length ∧ s = (.int .i64 j, ()) ∧ Ext I I' ∧ NoteR I' bt m ch' (.slice ka (keysOf rows).length kc) fl Xt (noteAs false (rows.take j) (floorN fl)) ∧ L' = Xt ++ (X ++ F)) rows.length ⟨0, Xt, ch1, rfl, rfl, hI1, hN1, rfl⟩ ?_
    rintro n s I' L' ⟨j, Xt, ch', hn2, rfl, hI, hNt, rfl⟩
    unfold sh14_2
    try simp only [SSd, Nat.reduceAdd]
    refine br_split (fun e => ?_) (fun e => ?_)
    · have hj : j < rows.length := by simp only [hkl] at e; simpa using e
      obtain ⟨bx, off, c, hix, hcl, hc, hcc⟩ := RL.ix hV.keys (i := (j : Int)) (by omega) (by simp only [hkl]; omega)
      have hce : c = [sstr rows[j].key] := by
        have h1 : c = [sstr (geti (keysOf rows) (j : Int))] := by simpa [StrV] using hc
        rw [h1, geti_nat (by omega)]; simp [keysOf]
      subst hce
      have hrok := hok.rows _ (List.getElem_mem hj)
      have hrvs := hvs _ (List.getElem_mem hj)
      have hrow := rowOf_at hok.rise hj
      obtain ⟨h0, _⟩ | ⟨r', p, h1, hcm, hCV, hkr⟩ := hV.look hok.rise rows[j].key
      · rw [hrow] at h0; cases h0
      obtain rfl : r' = rows[j] := by rw [hrow] at h1; exact (Option.some.inj h1).symm
      simp only [hix, SSd, Nat.reduceAdd]
      refine rd1 (hcc I' _ hI (fun x hx => List.mem_append_right _ hx) 0 _ rfl) ?_
      try simp only [SSd, Nat.reduceAdd]
      refine rdC (L0 := Xt) (hNt.head 0 _ rfl) (Ext.refl _) ?_
      refine ⟨_, lk_at (MapAt.mono hV.at' hI (fun x hx => List.mem_append_right _ hx)) hV.map, ?_⟩
      simp only [hcm, lkV, Bool.false_eq_true, if_false]
      refine callG (noteAll0 (g := false) hNt (fun _ => ⟨MapAt.mono hV.at' hI (fun x hx => hx), hV.map, hcm⟩) (hCV.mono hI (fun x hx => hx)) hrok hrvs (fun Xt2 I3 hI3 hNt2 => ?_))
      try simp only [SSd, Nat.reduceAdd]
      rw [wrap_i64 _ (by omega)]
      refine Gh.done (Gh.done ⟨n - 1, by omega, j + 1, Xt2, ch', by omega, rfl, hI.trans hI3, ?_, rfl⟩)
      rw [noteAs_take hj]; exact hNt2
    · have hj : j = rows.length := by
        have : ¬ j < rows.length := by simp only [hkl] at e; simpa using e
        omega
      rw [hj, List.take_length] at hNt
      have hok0 : SpOk ⟨([] : List Row) ++ rows, fl⟩ := hok
      have hNoted := add_noted hok0 (floor_noted fl)
      have hND : NoDel (noteAs false rows (floorN fl)) := NoDel.noteAs (NoDel.floor fl)
      have hNF : NtFin (noteAs false rows (floorN fl)) (1 + versN rows + rows.length) := (NtFin.floor fl).noteAs
      unfold sh14_4
      refine callG (take0 hNt hNF (by simp only at hn; omega) (fun X2 I3 v ops ch2 hI3 _ hto hops => ?_))
      have hol := took_len hto hNF
      simp only [RL.len hops, SSd, Nat.reduceAdd]
      refine Gh.to (X ++ F) (Gh.done ?_)
      refine all5_spec hops (by simp only at hn; omega) (fun I4 u hI4 hu => Gh.done (hk I4 u (kvsOf ops) (hI.trans (hI3.trans hI4)) hu (fun x => kvs_kept hok hto hND hNoted x) (kvs_srt hto) (by simp [kvsOf]; simp only at hn; omega)))
  have hN0 : NoteR I bt m cht (.slice ka (keysOf rows).length kc) fl [(bt, spO m (.slice ka (keysOf rows).length kc) fl cht), (cht, .map #[] 0)] nt0 :=
    ⟨[(cht, .map #[] 0)], List.Perm.refl _, ⟨#[], 0, fun _ => none, rfl, MapS.empty, fun k => .inl ⟨rfl, rfl⟩⟩⟩
  obtain ⟨fw, fg⟩ := fl
  simp only [stampNe, SSd, Nat.reduceAdd]
  refine br_split (fun e => ?_) (fun e => ?_)
  · have hne : (⟨fw, fg⟩ : TStamp) ≠ z0 := fun h => by
      simp only [TStamp.mk.injEq] at h
      simp [h.1, h.2] at e
    have hfn : floorN ⟨fw, fg⟩ = updN nt0 [102] (false, stF ⟨fw, fg⟩) := by unfold floorN; rw [if_neg hne]
    refine callG (noteFloor0 (m := m) (X := [(bt, spO m (.slice ka (keysOf rows).length kc) ⟨fw, fg⟩ cht), (cht, .map #[] 0)]) hN0 hok.floor (fun X' I' hI' hN' => Gh.done ?_))
    exact main I' X' cht hI' (by rw [hfn]; exact hN')
  · have he : (⟨fw, fg⟩ : TStamp) = z0 := by
      have : fw = 0 ∧ fg = 0 := by simpa using e
      rw [this.1, this.2]
    have hfn : floorN ⟨fw, fg⟩ = nt0 := by unfold floorN; rw [if_pos he]
    exact main I [(bt, spO m (.slice ka (keysOf rows).length kc) ⟨fw, fg⟩ cht), (cht, .map #[] 0)] cht (Ext.refl _) (by rw [hfn]; exact hN0)
end
end Go.Proofs.YtmnnnoinfhiilaaGreatDoor
-- S3
set_option linter.unusedSimpArgs false
set_option linter.unusedVariables false
namespace Go.Proofs.YtmnnnoinfhiilaaGreatDoor
open Go.SL
set_option maxRecDepth 10000
theorem filter_snoc {α : Type} {f : α → Bool} {l : List α} {i : Nat} (hi : i < l.length) : (l.take (i + 1)).filter f = (l.take i).filter f ++ (if f l[i] = true then [l[i]] else []) := by
  rw [take_snoc hi, List.filter_append, List.filter_cons]; rfl
theorem filter_le {α : Type} {f : α → Bool} {l : List α} (i : Nat) : ((l.take i).filter f).length ≤ l.length := by
  have h1 := List.length_filter_le f (l.take i)
  have h2 := List.length_take_le' i l
  omega
section
variable {ω : Om} {I : Imm} {L : LH} {K : Value → M}
abbrev VO (X : LH) (v : Value) (cells : List Value) (n : Nat) : Prop := SlO 99 5 X v cells n
abbrev IO2 (X : LH) (v : Value) (cells : List Value) (n : Nat) : Prop := SlO 37 6 X v cells n
theorem rsp5_spec {b bR bL : Nat} {vV vI v1 vR vL : Value} {fl : TStamp} {k : List UInt8} {Is : List TIntent} {XVR XVL F : LH} {nR nL : Nat} {cR cL : List Value} (hI : RL TIntentV 6 I [] vI Is) (hB : Bytes I v1 k) (hIl : Is.length ≤ 1000000) (hvR : VO XVR vR cR nR) (hvL : VO XVL vL cL nL)
    (hk : ∀ XIR XIL uR uL dR dL, IO2 XIR uR dR (Is.filter fun x => !blt x.fKey k).length → Recs (TIntentV I) 6 (Is.filter fun x => !blt x.fKey k) dR → IO2 XIL uL dL (Is.filter fun x => blt x.fKey k).length → Recs (TIntentV I) 6 (Is.filter fun x => blt x.fKey k) dL →
      Gh (K (.tuple #[pt bR, .int .i64 0])) I ((bL, refO vL uL fl) :: (bR, refO vR uR fl) :: (b, refO vL uL fl) :: (XIR ++ (XIL ++ (XVR ++ (XVL ++ F)))))) :
    sh13_5 ω (pt b) v1 (.pointer none) (.int .i64 0) (pt bR) (pt bL) (fun v => Gh (K v)) I ((bL, refO vL (.slice none 0 0) fl) :: (bR, refO vR (.slice none 0 0) fl) :: (b, refO vV vI fl) :: (XVR ++ (XVL ++ F))) := by
  obtain ⟨ra, rc, rfl⟩ := hvR.form
  obtain ⟨la, lc, rfl⟩ := hvL.form
  unfold sh13_5
  refine loop (fun n s I' L' => I' = I ∧ ∃ (i : Nat) (XIR XIL : LH) (uR uL : Value) (dR dL : List Value), n + i = Is.length ∧ s = (.int .i64 i, ()) ∧
      IO2 XIR uR dR ((Is.take i).filter fun x => !blt x.fKey k).length ∧ Recs (TIntentV I) 6 ((Is.take i).filter fun x => !blt x.fKey k) dR ∧ IO2 XIL uL dL ((Is.take i).filter fun x => blt x.fKey k).length ∧ Recs (TIntentV I) 6 ((Is.take i).filter fun x => blt x.fKey k) dL ∧
      L' = (bL, refO (.slice la nL lc) uL fl) :: (bR, refO (.slice ra nR rc) uR fl) :: (b, refO vV vI fl) :: (XIR ++ (XIL ++ (XVR ++ (XVL ++ F))))) Is.length ⟨rfl, 0, [], [], _, _, [], [], rfl, rfl, SlO.none _ _, rfl, SlO.none _ _, rfl, rfl⟩ ?_
  rintro n s I' L' ⟨rfl, i, XIR, XIL, uR, uL, dR, dL, hn, rfl, hO1, hR1, hO2, hR2, rfl⟩
  unfold sh13_6
  try simp only [SSd, Nat.reduceAdd]
  refine rdb ?_
  obtain ⟨a1, c1, rfl⟩ := hO1.form
  obtain ⟨a2, c2, rfl⟩ := hO2.form
  simp only [RL.len hI, SSd, Nat.reduceAdd]
  refine br_split (fun e => ?_) (fun e => ?_)
  · have hi : i < Is.length := by simpa using e
    obtain ⟨q, off, c, hix, hcl, hc, hcc⟩ := RL.ix hI (i := (i : Int)) (by omega) (by omega)
    rw [geti_nat hi] at hc
    have hcv := hcc I' [] (Ext.refl _) (fun _ h => h)
    have hl1 := filter_le (f := fun x : TIntent => !blt x.fKey k) (l := Is) i
    have hl2 := filter_le (f := fun x : TIntent => blt x.fKey k) (l := Is) i
    have hs1 := filter_snoc (f := fun x : TIntent => !blt x.fKey k) hi
    have hs2 := filter_snoc (f := fun x : TIntent => blt x.fKey k) hi
    have hcI := hc
    generalize Is[i] = y at *
    obtain ⟨u0, u1, rfl, g0, g1⟩ := hc
    obtain ⟨ua, uc, rfl⟩ := Bytes.form g0
    obtain ⟨ub, ud, rfl⟩ := Bytes.form g1
    refine drawC ?_
    try simp only [SSd, Nat.reduceAdd]
    refine rdbS ?_
    simp only [hix, SSd, Nat.reduceAdd]
    refine rdCS (hcv 0 _ rfl) (Ext.refl _) ?_
    refine bs_I g0 (Ext.refl _) ?_
    refine bs_I hB (Ext.refl _) ?_
    try simp only [SSd, Nat.reduceAdd]
    refine br_split (fun e2 => ?_) (fun e2 => ?_)
    · have e2' : blt y.fKey k = true := by simpa using e2
      simp only [e2', Bool.not_true, Bool.false_eq_true, if_false, if_true, List.append_nil] at hs1 hs2
      refine drawC ?_
      try simp only [SSd, Nat.reduceAdd]
      refine rdbS ?_
      refine rdbS ?_
      simp only [hix, SSd, Nat.reduceAdd]
      refine rdNCS hcv (Ext.refl _) rfl ?_
      refine rec_appK (R := TIntentV) (X6 := XIL) (x := y) (Ext.refl _) (fun y hy => hy) rfl (by omega) hO2 hR2 hcI rfl (one_all rfl) (by omega) (by omega) (fun X1 X6 a' c' cells6 h6 hR6 => ?_)
      refine st1 rfl ?_
      unfold sh13_8
      try simp only [SSd, Nat.reduceAdd]
      rw [wrap_i64 _ (by omega)]
      refine Gh.to ((bL, refO (.slice la nL lc) (.slice a' ((Is.take i).filter (fun x => blt x.fKey k) ++ [y]).length c') fl) :: (bR, refO (.slice ra nR rc) (.slice a1 ((Is.take i).filter fun x => !blt x.fKey k).length c1) fl) :: (b, refO vV vI fl) :: (XIR ++ (X6 ++ (XVR ++ (XVL ++ F))))) (Gh.done ⟨n - 1, by omega, rfl, i + 1, XIR, X6, _, _, dR, cells6, by omega, rfl, ?_, ?_, ?_, ?_, rfl⟩)
      · rw [hs1]; exact hO1
      · rw [hs1]; exact hR1
      · rw [hs2]; exact h6
      · rw [hs2]; exact hR6
    · have e2' : blt y.fKey k = false := by simpa using e2
      simp only [e2', Bool.not_false, Bool.false_eq_true, if_false, if_true, List.append_nil] at hs1 hs2
      refine drawC ?_
      try simp only [SSd, Nat.reduceAdd]
      refine rdbS ?_
      refine rdbS ?_
      simp only [hix, SSd, Nat.reduceAdd]
      refine rdNCS hcv (Ext.refl _) rfl ?_
      refine rec_appK (R := TIntentV) (X6 := XIR) (x := y) (Ext.refl _) (fun y hy => hy) rfl (by omega) hO1 hR1 hcI rfl (one_all rfl) (by omega) (by omega) (fun X1 X6 a' c' cells6 h6 hR6 => ?_)
      refine st1 rfl ?_
      unfold sh13_8
      try simp only [SSd, Nat.reduceAdd]
      rw [wrap_i64 _ (by omega)]
      refine Gh.to ((bL, refO (.slice la nL lc) (.slice a2 ((Is.take i).filter fun x => blt x.fKey k).length c2) fl) :: (bR, refO (.slice ra nR rc) (.slice a' ((Is.take i).filter (fun x => !blt x.fKey k) ++ [y]).length c') fl) :: (b, refO vV vI fl) :: (X6 ++ (XIL ++ (XVR ++ (XVL ++ F))))) (Gh.done ⟨n - 1, by omega, rfl, i + 1, X6, XIL, _, _, cells6, dL, by omega, rfl, ?_, ?_, ?_, ?_, rfl⟩)
      · rw [hs1]; exact h6
      · rw [hs1]; exact hR6
      · rw [hs2]; exact hO2
      · rw [hs2]; exact hR2
  · have hi : i = Is.length := by
      have : ¬ i < Is.length := by simpa using e
      omega
    subst hi
    rw [List.take_length] at hO1 hR1 hO2 hR2
    unfold sh13_10
    simp only [List.take_length, SSd, Nat.reduceAdd]
    refine rdb ?_
    refine st1 rfl ?_
    refine rdb ?_
    refine st1 rfl ?_
    exact hk XIR XIL _ _ dR dL hO1 hR1 hO2 hR2
theorem rsplit_spec {b : Nat} {vV vI v1 : Value} {k : List UInt8} {F : LH} {sp : Sp} (hV : RL TVersionV 5 I [] vV (versOf sp.rows)) (hI : RL TIntentV 6 I [] vI (intsOf sp.rows)) (hVl : (versOf sp.rows).length ≤ 1000000) (hIl : (intsOf sp.rows).length ≤ 1000000) (hB : Bytes I v1 k)
    (hno : keyOk k = false → K (.tuple #[.pointer none, .int .i64 1]) I ((b, refO vV vI sp.floor) :: F))
    (hk : ∀ I' bR uV uI wV wI, keyOk k = true → Ext I I' → RL TVersionV 5 I' [] uV (versOf (splL k sp).rows) → RL TIntentV 6 I' [] uI (intsOf (splL k sp).rows) → RL TVersionV 5 I' [] wV (versOf (splR k sp).rows) → RL TIntentV 6 I' [] wI (intsOf (splR k sp).rows) →
      K (.tuple #[pt bR, .int .i64 0]) I' ((b, refO uV uI sp.floor) :: (bR, refO wV wI sp.floor) :: F)) :
    Cal Tryz.prog ω 13 #[pt b, v1] K I ((b, refO vV vI sp.floor) :: F) := by
  obtain ⟨rows, fl⟩ := sp
  have eVL : versOf (splL k ⟨rows, fl⟩).rows = (versOf rows).filter fun x => blt x.fKey k := versOf_filter (fun q => blt q k) rows
  have eIL : intsOf (splL k ⟨rows, fl⟩).rows = (intsOf rows).filter fun x => blt x.fKey k := intsOf_filter (fun q => blt q k) rows
  have eVR : versOf (splR k ⟨rows, fl⟩).rows = (versOf rows).filter fun x => !blt x.fKey k := versOf_filter (fun q => !blt q k) rows
  have eIR : intsOf (splR k ⟨rows, fl⟩).rows = (intsOf rows).filter fun x => !blt x.fKey k := intsOf_filter (fun q => !blt q k) rows
  rw [eVL, eIL, eVR, eIR] at hk
  simp only at hV hI hVl hIl hk hno ⊢
  generalize versOf rows = V at *
  generalize intsOf rows = Is at *
  refine cal13 ?_
  unfold sh13
  refine call (riskey_spec hB ?_)
  cases hko : keyOk k with
  | false =>
    simp only [Bool.not_false, SSd, Nat.reduceAdd]
    exact Gh.done (hno hko)
  | true =>
  simp only [Bool.not_true, SSd, Nat.reduceAdd]
  refine rdP [.int .i64 fl.fWall, .int .i64 fl.fLogic] rfl rfl ?_
  try simp only [SSd, Nat.reduceAdd]
  refine newI (fun bR => ?_)
  refine rdP [.int .i64 fl.fWall, .int .i64 fl.fLogic] rfl rfl ?_
  try simp only [SSd, Nat.reduceAdd]
  refine newI (fun bL => ?_)
  refine loop (fun n s I' L' => I' = I ∧ ∃ (i : Nat) (XR XL : LH) (uR uL : Value) (dR dL : List Value), n + i = V.length ∧ s = (.int .i64 i, ()) ∧
      VO XR uR dR ((V.take i).filter fun x => !blt x.fKey k).length ∧ Recs (TVersionV I) 5 ((V.take i).filter fun x => !blt x.fKey k) dR ∧ VO XL uL dL ((V.take i).filter fun x => blt x.fKey k).length ∧ Recs (TVersionV I) 5 ((V.take i).filter fun x => blt x.fKey k) dL ∧
      L' = (bL, refO uL (.slice none 0 0) fl) :: (bR, refO uR (.slice none 0 0) fl) :: (b, refO vV vI fl) :: (XR ++ (XL ++ F))) V.length ⟨rfl, 0, [], [], _, _, [], [], rfl, rfl, SlO.none _ _, rfl, SlO.none _ _, rfl, rfl⟩ ?_
  rintro n s I' L' ⟨rfl, i, XR, XL, uR, uL, dR, dL, hn, rfl, hO1, hR1, hO2, hR2, rfl⟩
  unfold sh13_1
  try simp only [SSd, Nat.reduceAdd]
  refine rdb ?_
  obtain ⟨a1, c1, rfl⟩ := hO1.form
  obtain ⟨a2, c2, rfl⟩ := hO2.form
  simp only [RL.len hV, SSd, Nat.reduceAdd]
  refine br_split (fun e => ?_) (fun e => ?_)
  · have hi : i < V.length := by simpa using e
    obtain ⟨q, off, c, hix, hcl, hc, hcc⟩ := RL.ix hV (i := (i : Int)) (by omega) (by omega)
    rw [geti_nat hi] at hc
    have hcv := hcc I' [] (Ext.refl _) (fun _ h => h)
    have hl1 := filter_le (f := fun x : TVersion => !blt x.fKey k) (l := V) i
    have hl2 := filter_le (f := fun x : TVersion => blt x.fKey k) (l := V) i
    have hs1 := filter_snoc (f := fun x : TVersion => !blt x.fKey k) hi
    have hs2 := filter_snoc (f := fun x : TVersion => blt x.fKey k) hi
    have hcI := hc
    generalize V[i] = y at *
    obtain ⟨u0, u1, rfl, g0, g1⟩ := hc
    obtain ⟨ua, uc, rfl⟩ := Bytes.form g0
    obtain ⟨ub, ud, rfl⟩ := Bytes.form g1
    refine drawC ?_
    try simp only [SSd, Nat.reduceAdd]
    refine rdbS ?_
    simp only [hix, SSd, Nat.reduceAdd]
    refine rdCS (hcv 0 _ rfl) (Ext.refl _) ?_
    refine bs_I g0 (Ext.refl _) ?_
    refine bs_I hB (Ext.refl _) ?_
    try simp only [SSd, Nat.reduceAdd]
    refine br_split (fun e2 => ?_) (fun e2 => ?_)
    · have e2' : blt y.fKey k = true := by simpa using e2
      simp only [e2', Bool.not_true, Bool.false_eq_true, if_false, if_true, List.append_nil] at hs1 hs2
      refine drawC ?_
      try simp only [SSd, Nat.reduceAdd]
      refine rdbS ?_
      refine rdbS ?_
      simp only [hix, SSd, Nat.reduceAdd]
      refine rdNCS hcv (Ext.refl _) rfl ?_
      refine rec_appK (R := TVersionV) (X6 := XL) (x := y) (Ext.refl _) (fun y hy => hy) rfl (by omega) hO2 hR2 hcI rfl (one_all rfl) (by omega) (by omega) (fun X1 X6 a' c' cells6 h6 hR6 => ?_)
      refine st1 rfl ?_
      unfold sh13_3
      try simp only [SSd, Nat.reduceAdd]
      rw [wrap_i64 _ (by omega)]
      refine Gh.to ((bL, refO (.slice a' ((V.take i).filter (fun x => blt x.fKey k) ++ [y]).length c') (.slice none 0 0) fl) :: (bR, refO (.slice a1 ((V.take i).filter fun x => !blt x.fKey k).length c1) (.slice none 0 0) fl) :: (b, refO vV vI fl) :: (XR ++ (X6 ++ F))) (Gh.done ⟨n - 1, by omega, rfl, i + 1, XR, X6, _, _, dR, cells6, by omega, rfl, ?_, ?_, ?_, ?_, rfl⟩)
      · rw [hs1]; exact hO1
      · rw [hs1]; exact hR1
      · rw [hs2]; exact h6
      · rw [hs2]; exact hR6
    · have e2' : blt y.fKey k = false := by simpa using e2
      simp only [e2', Bool.not_false, Bool.false_eq_true, if_false, if_true, List.append_nil] at hs1 hs2
      refine drawC ?_
      try simp only [SSd, Nat.reduceAdd]
      refine rdbS ?_
      refine rdbS ?_
      simp only [hix, SSd, Nat.reduceAdd]
      refine rdNCS hcv (Ext.refl _) rfl ?_
      refine rec_appK (R := TVersionV) (X6 := XR) (x := y) (Ext.refl _) (fun y hy => hy) rfl (by omega) hO1 hR1 hcI rfl (one_all rfl) (by omega) (by omega) (fun X1 X6 a' c' cells6 h6 hR6 => ?_)
      refine st1 rfl ?_
      unfold sh13_3
      try simp only [SSd, Nat.reduceAdd]
      rw [wrap_i64 _ (by omega)]
      refine Gh.to ((bL, refO (.slice a2 ((V.take i).filter fun x => blt x.fKey k).length c2) (.slice none 0 0) fl) :: (bR, refO (.slice a' ((V.take i).filter (fun x => !blt x.fKey k) ++ [y]).length c') (.slice none 0 0) fl) :: (b, refO vV vI fl) :: (X6 ++ (XL ++ F))) (Gh.done ⟨n - 1, by omega, rfl, i + 1, X6, XL, _, _, cells6, dL, by omega, rfl, ?_, ?_, ?_, ?_, rfl⟩)
      · rw [hs1]; exact h6
      · rw [hs1]; exact hR6
      · rw [hs2]; exact hO2
      · rw [hs2]; exact hR2
  · have hi : i = V.length := by
      have : ¬ i < V.length := by simpa using e
      omega
    subst hi
    rw [List.take_length] at hO1 hR1 hO2 hR2
    simp only [List.take_length]
    refine rsp5_spec hI hB hIl hO1 hO2 (fun XIR XIL wR wL eR eL g1 g2 g3 g4 => ?_)
    refine Gh.perm (L' := XR ++ (XL ++ (XIR ++ (XIL ++ ((bL, refO (.slice a2 (V.filter fun x => blt x.fKey k).length c2) wL fl) :: (bR, refO (.slice a1 (V.filter fun x => !blt x.fKey k).length c1) wR fl) :: (b, refO (.slice a2 (V.filter fun x => blt x.fKey k).length c2) wL fl) :: F))))) (ms_perm (by ((try simp only [ms_cons, ms_app, ms_nil, ms_nil']); (try ac_rfl)))) ?_
    refine RL.ofO (R := TVersionV) (fun h hI => h.mono hI) hO1 hR1 (fun I1 hI1 r1 => ?_)
    refine RL.ofO (R := TVersionV) (fun h hI => h.mono hI) hO2 (hR2.imp fun x c h => h.mono hI1) (fun I2 hI2 r2 => ?_)
    refine RL.ofO (R := TIntentV) (fun h hI => h.mono hI) g1 (g2.imp fun x c h => h.mono (hI1.trans hI2)) (fun I3 hI3 r3 => ?_)
    refine RL.ofO (R := TIntentV) (fun h hI => h.mono hI) g3 (g4.imp fun x c h => h.mono (hI1.trans (hI2.trans hI3))) (fun I4 hI4 r4 => ?_)
    refine Gh.to ((b, refO (.slice a2 (V.filter fun x => blt x.fKey k).length c2) wL fl) :: (bR, refO (.slice a1 (V.filter fun x => !blt x.fKey k).length c1) wR fl) :: F) (Gh.done ?_)
    exact hk I4 bR _ _ _ _ hko (hI1.trans (hI2.trans (hI3.trans hI4))) (RL.monoI (fun x c h => h.mono (hI3.trans hI4)) r2 (hI3.trans hI4)) r4 (RL.monoI (fun x c h => h.mono (hI2.trans (hI3.trans hI4))) r1 (hI2.trans (hI3.trans hI4))) (RL.monoI (fun x c h => h.mono hI4) r3 hI4)
end
end Go.Proofs.YtmnnnoinfhiilaaGreatDoor
-- S3
set_option linter.unusedSimpArgs false
set_option linter.unusedVariables false
namespace Go.Proofs.YtmnnnoinfhiilaaGreatDoor
open Go.SL
set_option maxRecDepth 10000
theorem NtFin.zero (N : Nat) : NtFin nt0 N := ⟨[], by simp, fun q hq => absurd rfl hq⟩
theorem versN_low {k : List UInt8} {sp : Sp} (h : SpOk sp) : (splL k sp).rows.length ≤ sp.rows.length ∧ (splR k sp).rows.length ≤ sp.rows.length ∧ versN (splL k sp).rows ≤ versN sp.rows ∧ versN (splR k sp).rows ≤ versN sp.rows := by
  have e := low_high (k := k) h.rise
  have e1 : sp.rows.length = (splL k sp).rows.length + (splR k sp).rows.length := by
    conv => lhs; rw [e]
    rw [List.length_append]; rfl
  have e2 : versN sp.rows = versN (splL k sp).rows + versN (splR k sp).rows := by
    conv => lhs; rw [e]
    rw [versN_app]; rfl
  omega
section
variable {ω : Om} {I : Imm} {L : LH} {K : Value → M}
theorem spl11 {br bR ba bb : Nat} {v1 v2 : Value} {ss : List TStep} {k : List UInt8} {spA spB : Sp} {Xa Xb F0 : LH} {vV vI wV wI : Value} {ntA ntB : Nts} (h : RL TStepV 13 I [] v1 ss) (hl : ss.length ≤ 9000000000000000000) (hB : Bytes I v2 k)
    (hA : SpR I ba Xa spA ntA) (hB2 : SpR I bb Xb spB ntB) (hokA : SpOk spA) (hokB : SpOk spB) (h1 : RL TVersionV 5 I [] vV (versOf spA.rows)) (h2 : RL TIntentV 6 I [] vI (intsOf spA.rows)) (h3 : RL TVersionV 5 I [] wV (versOf spB.rows)) (h4 : RL TIntentV 6 I [] wI (intsOf spB.rows))
    (hAl : spA.rows.length ≤ 1000 ∧ versN spA.rows ≤ 1000) (hBl : spB.rows.length ≤ 1000 ∧ versN spB.rows ≤ 1000)
    (hL : L = Xa ++ (Xb ++ ((br, refO vV vI spA.floor) :: (bR, refO wV wI spB.floor) :: F0))) (hk : ∀ I' L', Ext I I' → K (.bool true) I' L') :
    LoopM ((.bool false, .int .i64 0, ()) : Value × Value × Unit) (fun s Kn1 => sh4_11 ω v1 v2 (pt br) (pt bR) (pt ba) (pt bb) s.1 s.2.1 Kn1 (fun v => Gh (K v))) I L := by
  refine loop (fun n s I' L' => Ext I I' ∧ ∃ (i : Nat) (spA spB : Sp) (Xa Xb : LH) (vV vI wV wI : Value) (ntA ntB : Nts), n + i = ss.length ∧ s = (.bool false, .int .i64 i, ()) ∧ i ≤ 100 ∧ SpR I' ba Xa spA ntA ∧ SpR I' bb Xb spB ntB ∧ SpOk spA ∧ SpOk spB ∧
    RL TVersionV 5 I' [] vV (versOf spA.rows) ∧ RL TIntentV 6 I' [] vI (intsOf spA.rows) ∧ RL TVersionV 5 I' [] wV (versOf spB.rows) ∧ RL TIntentV 6 I' [] wI (intsOf spB.rows) ∧ (spA.rows.length ≤ 1000 + i ∧ versN spA.rows ≤ 1000 + i) ∧ (spB.rows.length ≤ 1000 + i ∧ versN spB.rows ≤ 1000 + i) ∧
    L'.Perm (Xa ++ (Xb ++ ((br, refO vV vI spA.floor) :: (bR, refO wV wI spB.floor) :: F0)))) ss.length
    ⟨Ext.refl _, 0, spA, spB, Xa, Xb, vV, vI, wV, wI, ntA, ntB, rfl, rfl, by omega, hA, hB2, hokA, hokB, h1, h2, h3, h4, hAl, hBl, by rw [hL]⟩ ?_
  clear hA hB2 hokA hokB h1 h2 h3 h4 hAl hBl hL
  rintro n s I' L' ⟨hI, i, spA, spB, Xa, Xb, vV, vI, wV, wI, ntA, ntB, hni, rfl, hi3, hA, hB2, hokA, hokB, h1, h2, h3, h4, hAl, hBl, hp⟩
  unfold sh4_11
  simp only [RL.len h, SSd, Nat.reduceAdd]
  refine gd_split (fun e => ?_) (fun e => Gh.done (hk I' L' hI))
  have hi : i < ss.length := by simpa using e
  try simp only [SSd, Nat.reduceAdd]
  refine br_split (fun e2 => ?_) (fun e2 => Gh.done (hk I' L' hI))
  have hi2 : i < 100 := by simp at e2; omega
  obtain ⟨q, off, c, hix, hcl, hc, hcc⟩ := RL.ix h (i := (i : Int)) (by omega) (by omega)
  generalize geti ss (i : Int) = x at *
  have hc0 := hc
  have hcI := hcc I' [] hI (fun _ h => h)
  obtain ⟨w0, w1, w2, w3, rfl, g0, g1, g2, g3⟩ := hc0
  refine drawC ?_
  simp only [hix, SSd, Nat.reduceAdd]
  refine rdCS (hcI 2 _ rfl) (Ext.refl _) ?_
  refine bs_I (g0.mono hI) (Ext.refl _) ?_
  refine bs_I (hB.mono hI) (Ext.refl _) ?_
  simp only [hix, SSd, Nat.reduceAdd]
  refine rdNC hcI (Ext.refl _) rfl ?_
  obtain ⟨a0, c0, rfl⟩ := Bytes.form g0
  obtain ⟨a1, c1, rfl⟩ := Bytes.form g1
  obtain ⟨a2, c2, rfl⟩ := Bytes.form g2
  obtain ⟨a3, c3, rfl⟩ := Bytes.form g3
  refine newI (fun bx => ?_)
  refine stB rfl rfl (one_all rfl) ?_
  have sA := step_len hokA x
  have sB := step_len hokB x
  refine br_split (fun e3 => ?_) (fun e3 => ?_)
  · unfold sh4_12
    refine rdB rfl ?_
    refine call (play_spec (c := _) (F := (bx, _) :: (Xa ++ ((br, refO vV vI spA.floor) :: F0))) ⟨Xb, wV, wI, ms_perm (by simp only [ms_cons, ms_app, ms_eq hp]; ((try simp only [ms_cons, ms_app, ms_nil, ms_nil']); (try ac_rfl))), hB2, h3, h4⟩ hokB (by omega) (by omega) (hc.mono hI) (fun I2 L2 hI2 hB3 => ?_))
    obtain ⟨X2, uV, uI, hp2, hS2, g5, g6⟩ := hB3
    unfold sh4_14
    simp only [Bool.not_true, SSd, Nat.reduceAdd]
    rw [wrap_i64 _ (by omega)]
    refine Gh.perm hp2 (Gh.to (X2 ++ ((bR, refO uV uI (stepS spB x).floor) :: (Xa ++ ((br, refO vV vI spA.floor) :: F0)))) (Gh.done ⟨n - 1, by omega, hI.trans hI2, i + 1, spA, stepS spB x, Xa, X2, vV, vI, uV, uI, ntA, _, by omega, rfl, by omega, hA.mono hI2, hS2, hokA, hokB.step _,
      RL.monoI (fun x c h => h.mono hI2) h1 hI2, RL.monoI (fun x c h => h.mono hI2) h2 hI2, g5, g6, by omega, by omega, ms_perm (by ((try simp only [ms_cons, ms_app, ms_nil, ms_nil']); (try ac_rfl)))⟩))
  · unfold sh4_15
    refine rdB rfl ?_
    refine call (play_spec (c := _) (F := (bx, _) :: (Xb ++ ((bR, refO wV wI spB.floor) :: F0))) ⟨Xa, vV, vI, ms_perm (by simp only [ms_cons, ms_app, ms_eq hp]; ((try simp only [ms_cons, ms_app, ms_nil, ms_nil']); (try ac_rfl))), hA, h1, h2⟩ hokA (by omega) (by omega) (hc.mono hI) (fun I2 L2 hI2 hB3 => ?_))
    obtain ⟨X2, uV, uI, hp2, hS2, g5, g6⟩ := hB3
    unfold sh4_14
    simp only [Bool.not_true, SSd, Nat.reduceAdd]
    rw [wrap_i64 _ (by omega)]
    refine Gh.perm hp2 (Gh.to (X2 ++ ((br, refO uV uI (stepS spA x).floor) :: (Xb ++ ((bR, refO wV wI spB.floor) :: F0)))) (Gh.done ⟨n - 1, by omega, hI.trans hI2, i + 1, stepS spA x, spB, X2, Xb, uV, uI, wV, wI, _, ntB, by omega, rfl, by omega, hS2, hB2.mono hI2, hokA.step _, hokB, g5, g6,
      RL.monoI (fun x c h => h.mono hI2) h3 hI2, RL.monoI (fun x c h => h.mono hI2) h4 hI2, by omega, by omega, ms_perm (by ((try simp only [ms_cons, ms_app, ms_nil, ms_nil']); (try ac_rfl)))⟩))
theorem spl5 {b br : Nat} {v1 v2 : Value} {ss : List TStep} {k : List UInt8} {sp : Sp} {nt : Nts} {F0 : LH} (h : RL TStepV 13 I [] v1 ss) (hl : ss.length ≤ 9000000000000000000) (hB : Bytes I v2 k) (hBo : Both I b br L sp nt F0) (hok : SpOk sp) (hln : sp.rows.length ≤ 100 ∧ versN sp.rows ≤ 100)
    (hN : Noted (fun q t => (⟨q, t⟩ : TKV) ∈ ([] : List TKV)) sp nt) (hF : NtFin nt 20000) (hk : ∀ I' L', Ext I I' → K (.bool true) I' L') :
    sh4_5 ω v1 v2 (.bool false) (pt b) (pt br) (fun v => Gh (K v)) I L := by
  obtain ⟨X, vV, vI, hp, hS, g1, g2⟩ := hBo
  obtain ⟨q1, q2, q3, q4⟩ := versN_low (k := k) hok
  unfold sh4_5
  refine callG (Cal.perm hp (take_spec _ _ _ _ _ _ _ _ hS (noted_len hN) (hF.more (by omega)) (fun X1 I1 w1 ops1 hI1 hS1 hto1 hops1 => Gh.done ?_)))
  have hol1 := took_len hto1 hF
  have hkept1 := took_kept hok hto1 hN
  have hcl1 : (chgs [] ops1).length ≤ 20000 := by
    have h0 := chgs_len [] ops1
    have e0 : ([] : List TKV).length = 0 := rfl
    omega
  refine call (changed13_spec (RL.nil none 0) hops1 (chok hto1 hN) (by simp) (by omega) (fun I2 w2 hI2 hw2 => ?_))
  have hsrt1 := srt_chgs (l := []) List.Pairwise.nil ops1
  have hN1 : Noted (fun q t => (⟨q, t⟩ : TKV) ∈ chgs [] ops1) sp nt0 := Noted.fresh hkept1
  generalize chgs [] ops1 = first at *
  try simp only [SSd, Nat.reduceAdd]
  have hI12 := hI1.trans hI2
  have g1' := RL.monoI (fun x c h => TVersionV.mono h hI12) g1 hI12
  have g2' := RL.monoI (fun x c h => TIntentV.mono h hI12) g2 hI12
  have hvl : (versOf sp.rows).length ≤ 1000000 := by rw [versN_len]; omega
  have hil : (intsOf sp.rows).length ≤ 1000000 := by
    have : (intsOf sp.rows).length ≤ sp.rows.length := by unfold intsOf; rw [List.length_map]; exact List.length_filter_le _ _
    omega
  refine callG (split_spec (hS1.mono hI2) hok (by omega) (fun r hr => by have := vs_le hln.2 r hr; omega) (hB.mono hI12) (fun hko => ?_) (fun I3 bt X3 Xt hko hI3 hS3 hSt => ?_))
  · try simp only [SSd, Nat.reduceAdd]
    refine Gh.perm (L' := (br, refO vV vI sp.floor) :: (X1 ++ F0)) (ms_perm (by ((try simp only [ms_cons, ms_app, ms_nil, ms_nil']); (try ac_rfl)))) (Gh.done ?_)
    refine call (rsplit_spec g1' g2' hvl hil (hB.mono hI12) (fun _ => ?_) (fun _ _ _ _ _ _ hko2 _ _ _ _ _ => by rw [hko] at hko2; cases hko2))
    have en : binPV .eql (.pointer none) (.pointer none) = some (.bool true) := rfl
    simp only [bne_self_eq_false, en, SSd, Nat.reduceAdd]
    exact Gh.done (hk I2 _ hI12)
  · try simp only [SSd, Nat.reduceAdd]
    have g1s := RL.monoI (fun x c h => TVersionV.mono h hI3) g1' hI3
    have g2s := RL.monoI (fun x c h => TIntentV.mono h hI3) g2' hI3
    refine Gh.perm (L' := (br, refO vV vI sp.floor) :: (X3 ++ (Xt ++ F0))) (ms_perm (by ((try simp only [ms_cons, ms_app, ms_nil, ms_nil']); (try ac_rfl)))) (Gh.done ?_)
    refine callG (rsplit_spec g1s g2s hvl hil (hB.mono (hI12.trans hI3)) (fun hko2 => by rw [hko] at hko2; cases hko2) (fun I4 bR uV uI wV wI _ hI4 r1 r2 r3 r4 => ?_))
    simp only [bne_self_eq_false, SSd, Nat.reduceAdd]
    simp only [beq_self_eq_true, Bool.not_true, SSd, Nat.reduceAdd]
    have hokL := splL_ok (k := k) hok
    have hokR := splR_ok (k := k) hok
    have hrows := low_high (k := k) hok.rise
    have hsp : sp = ⟨lowR k sp.rows ++ highR k sp.rows, sp.floor⟩ := by rw [← hrows]
    have hokA : SpOk ⟨lowR k sp.rows ++ highR k sp.rows, sp.floor⟩ := by rw [← hsp]; exact hok
    have hNl : Noted (fun q t => (⟨q, t⟩ : TKV) ∈ first) (splL k sp) (noteAs true (highR k sp.rows) nt0) := gone_noted hokA (by rw [← hsp]; exact hN1)
    have hNr : Noted (fun q t => (⟨q, t⟩ : TKV) ∈ ([] : List TKV)) (splR k sp) (noteAs false (highR k sp.rows) (floorN sp.floor)) := add_noted (A := []) hokR (floor_noted sp.floor)
    have hFl : NtFin (noteAs true (highR k sp.rows) nt0) (0 + versN (splR k sp).rows + (splR k sp).rows.length) := (NtFin.zero 0).noteAs
    have hFr : NtFin (noteAs false (highR k sp.rows) (floorN sp.floor)) (1 + versN (splR k sp).rows + (splR k sp).rows.length) := (NtFin.floor sp.floor).noteAs
    -- the left one is taken
    refine Gh.perm (L' := X3 ++ ((br, refO uV uI sp.floor) :: (bR, refO wV wI sp.floor) :: (Xt ++ F0))) (ms_perm (by ((try simp only [ms_cons, ms_app, ms_nil, ms_nil']); (try ac_rfl)))) (Gh.done ?_)
    refine callG (take_spec _ _ _ _ _ _ _ _ (hS3.mono hI4) (noted_len hNl) (hFl.more (by omega)) (fun X5 I5 w5 ops5 hI5 hS5 hto5 hops5 => Gh.done ?_))
    have hol5 := took_len hto5 hFl
    have hkept5 := took_kept hokL hto5 hNl
    have hcl5 := chgs_len first ops5
    have hI25 := hI3.trans (hI4.trans hI5)
    refine call (changed13_spec (RL.monoI (fun x c h => TKVV.mono h hI25) hw2 hI25) hops5 (chok hto5 hNl) (by omega) (by omega) (fun I6 w6 hI6 hw6 => ?_))
    have hsrt5 := srt_chgs hsrt1 ops5
    try simp only [SSd, Nat.reduceAdd]
    -- the right one is taken
    refine callG (Cal.perm (L' := Xt ++ (X5 ++ ((br, refO uV uI sp.floor) :: (bR, refO wV wI sp.floor) :: F0))) (ms_perm (by ((try simp only [ms_cons, ms_app, ms_nil, ms_nil']); (try ac_rfl)))) (take_spec _ _ _ _ _ _ _ _ (hSt.mono (hI4.trans (hI5.trans hI6))) (noted_len hNr) (hFr.more (by omega)) (fun X7 I7 w7 ops7 hI7 hS7 hto7 hops7 => Gh.done ?_)))
    have hol7 := took_len hto7 hFr
    have hkept7 := took_kept hokR hto7 hNr
    have hcl7 : (chgs [] ops7).length ≤ 20000 := by
      have h0 := chgs_len [] ops7
      have e0 : ([] : List TKV).length = 0 := rfl
      omega
    refine call (changed13_spec (RL.nil none 0) hops7 (chok hto7 hNr) (by simp) (by omega) (fun I8 w8 hI8 hw8 => ?_))
    have hsrt7 := srt_chgs (l := []) List.Pairwise.nil ops7
    try simp only [SSd, Nat.reduceAdd]
    have hvsL : ∀ q, (vsAt (splL k sp).rows q).length ≤ 10000000 := fun q => by
      unfold vsAt; cases er : rowOf (splL k sp).rows q with
      | none => simp
      | some r => have := vs_le q3 r (rowOf_mem er); simp only; omega
    have hvsR : ∀ q, (vsAt (splR k sp).rows q).length ≤ 10000000 := fun q => by
      unfold vsAt; cases er : rowOf (splR k sp).rows q with
      | none => simp
      | some r => have := vs_le q4 r (rowOf_mem er); simp only; omega
    have hI68 := hI7.trans hI8
    refine call (load_spec hokL (RL.monoI (fun x c h => TKVV.mono h hI68) hw6 hI68) hkept5 hsrt5 (by omega) hvsL (fun I9 ba Xa hI9 hSa => ?_))
    try simp only [SSd, Nat.reduceAdd]
    refine call (load_spec hokR (RL.monoI (fun x c h => TKVV.mono h hI9) hw8 hI9) hkept7 hsrt7 (by omega) hvsR (fun I10 bb Xb hI10 hSb => ?_))
    simp only [Bool.not_true, bne_self_eq_false, SSd, Nat.reduceAdd]
    have hI8x := hI8.trans (hI9.trans hI10)
    refine callG (Cal.perm (L' := X7 ++ (Xb ++ (Xa ++ (X5 ++ ((br, refO uV uI sp.floor) :: (bR, refO wV wI sp.floor) :: F0))))) (ms_perm (by ((try simp only [ms_cons, ms_app, ms_nil, ms_nil']); (try ac_rfl)))) (all_spec (hS7.mono hI8x) hokR (by omega) (by omega) (fun I11 w11 l11 hI11 hw11 hkept11 hsrt11 hl11 => Gh.done ?_)))
    refine callG (load_spec hokR hw11 hkept11 hsrt11 (by omega) hvsR (fun I12 bc Xc hI12' hSc => ?_))
    simp only [bne_self_eq_false, SSd, Nat.reduceAdd]
    refine Gh.done (callG (take_spec _ _ _ _ _ _ _ _ hSc (fun q hq => absurd rfl hq) (NtFin.zero _) (fun X13 I13 w13 ops13 hI13 hSc2 hto13 hops13 => ?_)))
    have h13 := took_none hto13
    subst h13
    simp only [RL.len hops13]
    have hI1213 := hI12'.trans hI13
    have hI913 := hI10.trans (hI11.trans hI1213)
    have hI613 := hI7.trans (hI8x.trans (hI11.trans hI1213))
    have hI513 := hI6.trans hI613
    have r1' := RL.monoI (fun x c h => TVersionV.mono h (hI5.trans hI513)) r1 (hI5.trans hI513)
    have r2' := RL.monoI (fun x c h => TIntentV.mono h (hI5.trans hI513)) r2 (hI5.trans hI513)
    have r3' := RL.monoI (fun x c h => TVersionV.mono h (hI5.trans hI513)) r3 (hI5.trans hI513)
    have r4' := RL.monoI (fun x c h => TIntentV.mono h (hI5.trans hI513)) r4 (hI5.trans hI513)
    have sS := hS5.mono hI513
    have sT := hS7.mono (hI8x.trans (hI11.trans hI1213))
    have sA := hSa.mono hI913
    have sB := hSb.mono (hI11.trans hI1213)
    have hI0 : Ext I I13 := hI12.trans (hI3.trans (hI4.trans (hI5.trans hI513)))
    refine Gh.done (call (same_spec (F := X13 ++ (X7 ++ (Xb ++ (Xa ++ ((bR, refO wV wI sp.floor) :: F0))))) ⟨X5, uV, uI, ms_perm (by show _ = ms (X5 ++ ((br, refO uV uI sp.floor) :: _)); ((try simp only [ms_cons, ms_app, ms_nil, ms_nil']); (try ac_rfl))), sS, r1', r2'⟩ hokL (by omega) (by omega) (fun I14 hI14 => ?_)))
    refine call (same_spec (F := X13 ++ (X5 ++ (Xb ++ (Xa ++ ((br, refO uV uI sp.floor) :: F0))))) ⟨X7, wV, wI, ms_perm (by show _ = ms (X7 ++ ((bR, refO wV wI sp.floor) :: _)); ((try simp only [ms_cons, ms_app, ms_nil, ms_nil']); (try ac_rfl))), sT.mono hI14, RL.monoI (fun x c h => TVersionV.mono h hI14) r3' hI14, RL.monoI (fun x c h => TIntentV.mono h hI14) r4' hI14⟩ hokR (by omega) (by omega) (fun I15 hI15 => ?_))
    have hI145 := hI14.trans hI15
    refine call (same_spec (F := X13 ++ (X7 ++ (Xb ++ (X5 ++ ((bR, refO wV wI sp.floor) :: F0))))) ⟨Xa, uV, uI, ms_perm (by show _ = ms (Xa ++ ((br, refO uV uI sp.floor) :: _)); ((try simp only [ms_cons, ms_app, ms_nil, ms_nil']); (try ac_rfl))), sA.mono hI145, RL.monoI (fun x c h => TVersionV.mono h hI145) r1' hI145, RL.monoI (fun x c h => TIntentV.mono h hI145) r2' hI145⟩ hokL (by omega) (by omega) (fun I16 hI16 => ?_))
    have hI146 := hI145.trans hI16
    refine callG (same_spec (F := X7 ++ (X5 ++ (Xb ++ (Xa ++ ((br, refO uV uI sp.floor) :: F0))))) ⟨X13, wV, wI, ms_perm (by show _ = ms (X13 ++ ((bR, refO wV wI sp.floor) :: _)); ((try simp only [ms_cons, ms_app, ms_nil, ms_nil']); (try ac_rfl))), hSc2.mono hI146, RL.monoI (fun x c h => TVersionV.mono h hI146) r3' hI146, RL.monoI (fun x c h => TIntentV.mono h hI146) r4' hI146⟩ hokR (by omega) (by omega) (fun I17 hI17 => ?_))
    have hI147 := hI146.trans hI17
    have hII : Ext I I17 := hI0.trans hI147
    refine Gh.perm (L' := Xa ++ (Xb ++ ((br, refO uV uI (splL k sp).floor) :: (bR, refO wV wI (splR k sp).floor) :: (F0 ++ (X13 ++ (X7 ++ X5)))))) (ms_perm (by show _ = ms (Xa ++ (Xb ++ ((br, refO uV uI sp.floor) :: (bR, refO wV wI sp.floor) :: _))); ((try simp only [ms_cons, ms_app, ms_nil, ms_nil']); (try ac_rfl)))) (Gh.done ?_)
    simp only [Bool.not_true, SSd, Nat.reduceAdd]
    refine br_split (fun e => ?_) (fun e => ?_)
    · exact spl11 (RL.monoI (fun x c h => TStepV.mono h hII) h hII) hl (hB.mono hII) (sA.mono hI147) (sB.mono hI147) hokL hokR (RL.monoI (fun x c h => TVersionV.mono h hI147) r1' hI147) (RL.monoI (fun x c h => TIntentV.mono h hI147) r2' hI147) (RL.monoI (fun x c h => TVersionV.mono h hI147) r3' hI147) (RL.monoI (fun x c h => TIntentV.mono h hI147) r4' hI147)
        (by omega) (by omega) rfl (fun I' L' hI' => hk I' L' (hII.trans hI'))
    · simp at e
theorem splits_law {v1 v2 v3 : Value} {aa ss : List TStep} {k : List UInt8} (ha : RL TStepV 13 I [] v1 aa) (hal : aa.length ≤ 9000000000000000000) (h : RL TStepV 13 I [] v2 ss) (hl : ss.length ≤ 9000000000000000000) (hB : Bytes I v3 k) (hk : ∀ I' L', Ext I I' → K (.bool true) I' L') :
    Cal Tryz.prog ω 4 #[v1, v2, v3] K I L := by
  refine cal4 ?_
  unfold sh4
  refine call (awake_spec (fun I1 hI1 => ?_))
  refine call (new_spec (fun b X hS => ?_))
  simp only [Bool.not_true, SSd, Nat.reduceAdd]
  refine newI (fun br => ?_)
  refine loop (fun n s I' L' => Ext I I' ∧ ∃ (i : Nat) (sp : Sp) (nt : Nts), n + i = aa.length ∧ s = (.bool false, .int .i64 i, ()) ∧ Both I' b br L' sp nt L ∧ SpOk sp ∧ i ≤ 100 ∧ sp.rows.length ≤ i ∧ versN sp.rows ≤ i ∧ Noted (fun q t => (⟨q, t⟩ : TKV) ∈ ([] : List TKV)) sp nt ∧ NtFin nt (200 * i)) aa.length
    ⟨hI1, 0, sp0, nt0, rfl, rfl, both_new hS, sp0_ok, by omega, Nat.le_refl _, Nat.le_refl _, noted0, NtFin.zero _⟩ ?_
  rintro n s I' L' ⟨hI, i, sp, nt, hni, rfl, hB', hok, hi3, hr, hv, hN, hF⟩
  unfold sh4_2
  simp only [RL.len ha, SSd, Nat.reduceAdd]
  have out : sh4_5 ω v2 v3 (.bool false) (pt b) (pt br) (fun v => Gh (K v)) I' L' :=
    spl5 (RL.monoI (fun x c h => TStepV.mono h hI) h hI) hl (hB.mono hI) hB' hok (by omega) hN (hF.more (by omega)) (fun I2 L2 hI2 => hk I2 L2 (hI.trans hI2))
  refine gd_split (fun e => ?_) (fun e => out)
  have hi : i < aa.length := by simpa using e
  try simp only [SSd, Nat.reduceAdd]
  refine br_split (fun e2 => ?_) (fun e2 => out)
  have hi2 : i < 100 := by simp at e2; omega
  obtain ⟨q, off, c, hix, hcl, hc, hcc⟩ := RL.ix ha (i := (i : Int)) (by omega) (by omega)
  simp only [hix, SSd, Nat.reduceAdd]
  refine rdNC (hcc I' [] hI (fun _ h => h)) (Ext.refl _) hcl ?_
  obtain ⟨s1, s2⟩ := step_len hok (geti aa (i : Int))
  have hN2 := hN.step (step_noted hok (geti aa (i : Int)) nt)
  have hF2 := (hF.step (sp := sp) (x := geti aa (i : Int))).more (show 200 * i + 2 + versN sp.rows ≤ 200 * (i + 1) by omega)
  refine call (play_spec hB' hok (by omega) (by omega) (hc.mono hI) (fun I2 L2 hI2 hB2 => ?_))
  simp only [Bool.not_true, SSd, Nat.reduceAdd]
  rw [wrap_i64 _ (by omega)]
  exact Gh.done ⟨n - 1, by omega, hI.trans hI2, i + 1, _, _, by omega, rfl, hB2, hok.step _, by omega, by omega, by omega, hN2, hF2⟩
end
theorem splits_walk {W : World} {base : Nat} {v0 v1 v2 : Value} (o0 : Value.okWide Tryz.prog W .any base 22 v0) (t0 : Tr Tryz.prog W 22 v0.cells.toList)
    (o1 : Value.okWide Tryz.prog W .any base 22 v1) (t1 : Tr Tryz.prog W 22 v1.cells.toList)
    (o2 : Value.okWide Tryz.prog W .any base 35 v2) (t2 : Tr Tryz.prog W 35 v2.cells.toList) (ω : Om) :
    Cal Tryz.prog ω 4 #[v0, v1, v2] (fun v I' _ => v = .bool true ∧ Ext (heapI W) I') (heapI W) [] := by
  obtain ⟨aa, h1, h2⟩ := tr_stepsL (top_slice Tryz.underlying22 o0 t0)
  obtain ⟨ss, h3, h4⟩ := tr_stepsL (top_slice Tryz.underlying22 o1 t1)
  obtain ⟨k, h5, _⟩ := tr_bytes Tryz.underlying35 Tryz.underlying5 (by kernel_rfl) (by kernel_rfl) (top_slice Tryz.underlying35 o2 t2)
  exact splits_law h1 (by omega) h3 (by omega) h5 (fun I' _ hI => ⟨rfl, hI⟩)
end Go.Proofs.YtmnnnoinfhiilaaGreatDoor
