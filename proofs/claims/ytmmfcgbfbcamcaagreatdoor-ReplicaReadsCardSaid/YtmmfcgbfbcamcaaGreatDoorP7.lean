/-
  Lemmas, part 7: laid together by a program.
-/
import Derived.Test.YtmmfcgbfbcamcaaGreatDoorP6
-- S3
set_option linter.unusedSimpArgs false
set_option linter.unusedVariables false
namespace Go.Proofs.YtmmfcgbfbcamcaaGreatDoor
open Go.SL
set_option maxRecDepth 10000
section
variable {ω : Om} {I : Imm} {L : LH} {K : Value → M}
theorem ints_fresh {A : M} {F : LH} {bv T : Nat} {ns : List Int} (hk : ∀ I', Ext I I' → Ints I' (.slice (some ⟨bv, 0, none⟩) ns.length ns.length) ns → Gh A I' F) : Gh A I ((bv, .cells (i64s ns).toArray T (0, 0)) :: F) :=
  Gh.freeze fun hext => hk _ hext ⟨by simp [i64s], _, _, rfl, Nat.le_refl _, fun _ => ⟨bv, 0, (i64s ns).toArray, T, (0, 0), rfl, by simp [Imm.put], fun j u hu => by simpa using hu⟩⟩
theorem bldI1 {F : LH} {a : Int} (hk : ∀ u I', Ext I I' → Ints I' u [a] → K u I' F) : BldS 3 1 #[.int .i64 0] 1 [(0, .int .i64 a)] (gh K) I F :=
  ⟨#[.int .i64 a], by kernel_rfl, fun bb => ints_fresh (ns := [a]) fun I' hI hU => Gh.done (hk _ I' hI hU)⟩
theorem bldI2 {F : LH} {a b : Int} (hk : ∀ u I', Ext I I' → Ints I' u [a, b] → K u I' F) : BldS 3 1 #[.int .i64 0] 2 [(0, .int .i64 a), (1, .int .i64 b)] (gh K) I F :=
  ⟨#[.int .i64 a, .int .i64 b], by kernel_rfl, fun bb => ints_fresh (ns := [a, b]) fun I' hI hU => Gh.done (hk _ I' hI hU)⟩
theorem bldI4 {F : LH} {a b c d : Int} (hk : ∀ u I', Ext I I' → Ints I' u [a, b, c, d] → K u I' F) : BldS 3 1 #[.int .i64 0] 4 [(0, .int .i64 a), (1, .int .i64 b), (2, .int .i64 c), (3, .int .i64 d)] (gh K) I F :=
  ⟨#[.int .i64 a, .int .i64 b, .int .i64 c, .int .i64 d], by kernel_rfl, fun bb => ints_fresh (ns := [a, b, c, d]) fun I' hI hU => Gh.done (hk _ I' hI hU)⟩
theorem bldI5 {F : LH} {a b c d e : Int} (hk : ∀ u I', Ext I I' → Ints I' u [a, b, c, d, e] → K u I' F) : BldS 3 1 #[.int .i64 0] 5 [(0, .int .i64 a), (1, .int .i64 b), (2, .int .i64 c), (3, .int .i64 d), (4, .int .i64 e)] (gh K) I F :=
  ⟨#[.int .i64 a, .int .i64 b, .int .i64 c, .int .i64 d, .int .i64 e], by kernel_rfl, fun bb => ints_fresh (ns := [a, b, c, d, e]) fun I' hI hU => Gh.done (hk _ I' hI hU)⟩
abbrev wrO (v : Value) : Obj := .cells #[v] 141 (0, 0)
theorem numsI_take {ns : List Int} {i : Nat} (hi : i < ns.length) : numsI (ns.take (i + 1)) = numsI (ns.take i) ++ nB ns[i] := by
  unfold numsI; rw [take_snoc hi, List.flatMap_append]; simp
theorem nums_spec {w : Nat} {v u : Value} {Y F : LH} {l : List UInt8} {ns : List Int} (hO : OB Y v l) (hU : Ints I u ns) (hns : ∀ n ∈ ns, maxI n) (hl : l.length + 9 * ns.length ≤ 1000000000000)
    (hk : ∀ Y' v' I', Ext I I' → OB Y' v' (l ++ numsI ns) → K (.tuple #[]) I' ((w, wrO v') :: (Y' ++ F))) : Cal Tryz.prog ω 61 #[pt w, u] K I ((w, wrO v) :: (Y ++ F)) := by
  refine cal61 ?_
  unfold sh61
  simp only [Ints.len hU, SSd, Nat.reduceAdd]
  refine loop (fun n (s : Value × Unit) I' L' => ∃ (i : Nat) (Y' : LH) (v' : Value), n + i = ns.length ∧ s = (.int .i64 i, ()) ∧ Ext I I' ∧ OB Y' v' (l ++ numsI (ns.take i)) ∧ L' = (w, wrO v') :: (Y' ++ F)) ns.length ⟨0, Y, v, rfl, rfl, Ext.refl _, by simpa [numsI] using hO, rfl⟩ ?_
  rintro n s I' L' ⟨i, Y', v', hn, rfl, hI, hO', rfl⟩
  unfold sh61_1
  try simp only [SSd, Nat.reduceAdd]
  refine br_split (fun e => ?_) (fun e => ?_)
  · have hi : i < ns.length := by simpa using e
    obtain ⟨bb, off, hix, hc⟩ := ints_at (hU.mono hI) (i := (i : Int)) (by omega) (by omega)
    rw [geti_nat hi] at hc
    have hm := hns _ (List.getElem_mem hi)
    have hnext := numsI_take hi
    have hlen : (l ++ numsI (ns.take i)).length ≤ l.length + 9 * i := by
      have h1 := numsI_len (l := ns.take i) (fun n hn => hns n (List.mem_of_mem_take hn))
      rw [List.length_take] at h1
      rw [List.length_append]; omega
    have h9 := nB_9 hm
    simp only [hix, SSd, Nat.reduceAdd]
    refine rd1 (hc _ _ (Ext.refl _)) ?_
    refine drawC ?_
    try simp only [SSd, Nat.reduceAdd]
    refine rdbS ?_
    try simp only [SSd, Nat.reduceAdd]
    obtain ⟨nn, hnn⟩ : ∃ nn : Nat, ns[i] = (nn : Int) := ⟨ns[i].toNat, by have := hm.1; omega⟩
    have hnb : nB ns[i] = varL nn := by unfold nB; rw [hnn]; rfl
    have hnx : nn ≤ 9007199254740991 := by have := hm.2; omega
    rw [hnb] at hnext h9
    rw [hnn, wrap_u64 _ (by omega) (by omega)]
    refine call (number_spec (by omega) (fun x I2 hI2 hB => ?_))
    refine keepC hI2 ?_
    refine ob_app (X6 := Y') (y := varL nn) hO' (SlI.news hB) (by omega) (fun Y2 v2 hO2 => ?_)
    obtain ⟨va, vc, rfl⟩ := hO2.form
    try simp only [SSd, Nat.reduceAdd]
    refine st1 rfl ?_
    rw [wrap_i64 _ (by omega)]
    refine Gh.to ((w, wrO (.slice va (l ++ numsI (ns.take i) ++ varL nn).length vc)) :: (Y2 ++ F)) (Gh.done ⟨n - 1, by omega, i + 1, Y2, _, by omega, rfl, hI.trans hI2, ?_, rfl⟩)
    rw [hnext, ← List.append_assoc]; exact hO2
  · have hi : i = ns.length := by
      have : ¬ i < ns.length := by simpa using e
      omega
    rw [hi, List.take_length] at hO'
    exact Gh.done (hk Y' v' I' hI hO')
theorem wstamp_spec {w : Nat} {v : Value} {Y F : LH} {l : List UInt8} {x : TStamp} (hO : OB Y v l) (hx : rightB x = true) (hl : l.length ≤ 100000000000)
    (hk : ∀ Y' v' I', Ext I I' → OB Y' v' (l ++ stmB x) → K (.tuple #[]) I' ((w, wrO v') :: (Y' ++ F))) : Cal Tryz.prog ω 62 #[pt w, sv x] K I ((w, wrO v) :: (Y ++ F)) := by
  have hm := rightB_max hx
  refine cal62 ?_
  unfold sh62
  refine newI (fun b1 => ?_)
  try simp only [SSd, Nat.reduceAdd]
  refine rdb ?_
  try simp only [SSd, Nat.reduceAdd]
  refine rdb ?_
  refine bldI2 (fun u I1 hI1 hU => ?_)
  refine call (Cal.to ((w, wrO v) :: (Y ++ F)) (nums_spec hO hU (by simp [hm.1, hm.2]) (by simp; omega) (fun Y' v' I' hI hO' => ?_)))
  refine Gh.done (hk Y' v' I' (hI1.trans hI) ?_)
  simpa [numsI, stmB] using hO'
theorem wtruth_spec {w : Nat} {v : Value} {Y F : LH} {l : List UInt8} {t : Bool} (hO : OB Y v l) (hl : l.length ≤ 100000000000)
    (hk : ∀ Y' v' I', Ext I I' → OB Y' v' (l ++ bitB t) → K (.tuple #[]) I' ((w, wrO v') :: (Y' ++ F))) : Cal Tryz.prog ω 63 #[pt w, .bool t] K I ((w, wrO v) :: (Y ++ F)) := by
  refine cal63 ?_
  unfold sh63
  have hm := bit_max t
  cases t with
  | true =>
    try simp only [SSd, Nat.reduceAdd]
    refine bldI1 (fun u I1 hI1 hU => ?_)
    refine call (nums_spec hO hU (by simpa using hm) (by simp; omega) (fun Y' v' I' hI hO' => ?_))
    refine Gh.done (hk Y' v' I' (hI1.trans hI) ?_)
    simpa [numsI, bitB] using hO'
  | false =>
    try simp only [SSd, Nat.reduceAdd]
    refine bldI1 (fun u I1 hI1 hU => ?_)
    refine call (nums_spec hO hU (by simpa using hm) (by simp; omega) (fun Y' v' I' hI hO' => ?_))
    refine Gh.done (hk Y' v' I' (hI1.trans hI) ?_)
    simpa [numsI, bitB] using hO'
theorem wtext_spec {w : Nat} {v t : Value} {Y F : LH} {l x : List UInt8} (hO : OB Y v l) (hB : Bytes I t x) (hl : l.length ≤ 100000000000) (hx : x.length ≤ 10000000000)
    (hk : ∀ Y' v' I', Ext I I' → OB Y' v' (l ++ txtB x) → K (.tuple #[]) I' ((w, wrO v') :: (Y' ++ F))) : Cal Tryz.prog ω 64 #[pt w, t] K I ((w, wrO v) :: (Y ++ F)) := by
  refine cal64 ?_
  unfold sh64
  simp only [Bytes.len hB, SSd, Nat.reduceAdd]
  have h9 := nB_9 (n := (x.length : Int)) ⟨by omega, by omega⟩
  refine bldI1 (fun u I1 hI1 hU => ?_)
  refine call (nums_spec hO hU (by simp only [List.mem_singleton]; rintro n rfl; exact ⟨by omega, by omega⟩) (by simp; omega) (fun Y1 v1 I2 hI2 hO1 => ?_))
  have e1 : numsI [(x.length : Int)] = varL x.length := by simp [numsI, nB]
  rw [e1] at hO1
  have e2 : nB (x.length : Int) = varL x.length := by simp [nB]
  rw [e2] at h9
  try simp only [SSd, Nat.reduceAdd]
  refine rdb ?_
  refine ob_app (X6 := Y1) (y := x) hO1 (SlI.news (hB.mono (hI1.trans hI2))) (by rw [List.length_append]; omega) (fun Y2 v2 hO2 => ?_)
  obtain ⟨va, vc, rfl⟩ := hO2.form
  try simp only [SSd, Nat.reduceAdd]
  refine st1 rfl ?_
  refine Gh.to ((w, wrO (.slice va (l ++ varL x.length ++ x).length vc)) :: (Y2 ++ F)) (Gh.done (hk Y2 _ I2 (hI1.trans hI2) ?_))
  rw [txtB, ← List.append_assoc]; exact hO2
theorem wspan_spec {w : Nat} {v : Value} {Y F : LH} {l : List UInt8} {p : TSpan} {pc : List Value} (hO : OB Y v l) (hp : TSpanV I p pc) (hl : l.length ≤ 90000000000) (hx : p.fFrom.length ≤ 1000000000) (hy : p.fTo.length ≤ 1000000000)
    (hk : ∀ Y' v' I', Ext I I' → OB Y' v' (l ++ (txtB p.fFrom ++ txtB p.fTo)) → K (.tuple #[]) I' ((w, wrO v') :: (Y' ++ F))) : Cal Tryz.prog ω 65 #[pt w, .agg pc.toArray] K I ((w, wrO v) :: (Y ++ F)) := by
  obtain ⟨v0, v1, rfl, g0, g1⟩ := hp
  refine cal65 ?_
  unfold sh65
  refine newI (fun b1 => ?_)
  try simp only [SSd, Nat.reduceAdd]
  refine rdb ?_
  have h9 := txtB_len (b := p.fFrom) (by omega)
  refine call (Cal.perm (L' := (w, wrO v) :: (Y ++ ((b1, .cells #[v0, v1] 31 (0, 0)) :: F))) (ms_perm (by ((try simp only [ms_cons, ms_app, ms_nil, ms_nil']); (try ac_rfl)))) (wtext_spec hO g0 (by omega) (by omega) (fun Y1 v1' I1 hI1 hO1 => ?_)))
  try simp only [SSd, Nat.reduceAdd]
  refine rdb ?_
  refine call (wtext_spec hO1 (g1.mono hI1) (by rw [List.length_append]; omega) (by omega) (fun Y2 v2 I2 hI2 hO2 => ?_))
  refine Gh.to ((w, wrO v2) :: (Y2 ++ F)) (Gh.done (hk Y2 v2 I2 (hI1.trans hI2) ?_))
  rw [← List.append_assoc]; exact hO2
theorem encode_spec {c : TCmd} {cc : List Value} (hc : TCmdV I c cc) (hL : Lens c) (h0 : rightP c = false → K (.tuple #[.slice none 0 0, .int .i64 140]) I L)
    (hk : rightP c = true → ∀ u I', Ext I I' → Bytes I' u (encB c) → K (.tuple #[u, .int .i64 0]) I' L) : Cal Tryz.prog ω 19 #[.agg cc.toArray] K I L := by
  have hc' := hc
  obtain ⟨w0, w1, w2, w3, rfl, g0, g1, g2, g3⟩ := hc
  refine cal19 ?_
  unfold sh19
  refine newI (fun b1 => ?_)
  refine rdB rfl ?_
  refine call (right_spec hc' hL ?_)
  try simp only [SSd, Nat.reduceAdd]
  refine br_split (fun e => ?_) (fun e => ?_)
  · exact Gh.to L (Gh.done (h0 (by simpa using e)))
  have hr : rightP c = true := by simpa using e
  have ho := rightP_ok hr
  have hs := ho.span
  simp only [spanOk, Bool.and_eq_true, decide_eq_true_eq] at hs
  have hkd := ho.kind
  have hmo := ho.most
  have hky := ho.key
  have hva := ho.value
  have mk : maxI c.fKind := ⟨by omega, by omega⟩
  have mm : maxI c.fMost := ⟨hmo.1, by omega⟩
  have n1 := numsI_len (l := [c.fKind, c.fTxn, c.fSeq, c.fBy, c.fMost]) (by simp [mk, mm, ho.txn, ho.seq, ho.by'])
  have n2 := stmB_len ho.at'
  have n3 := stmB_len ho.to
  have n4 := bitB_len c.fYes
  have n5 := bitB_len c.fDel
  have n6 := txtB_len (b := c.fKey) (by omega)
  have n7 := txtB_len (b := c.fValue) (by omega)
  simp only [List.length_cons, List.length_nil] at n1
  refine newI (fun w => ?_)
  try simp only [SSd, Nat.reduceAdd]
  refine rdb ?_
  try simp only [SSd, Nat.reduceAdd]
  refine rdb ?_
  try simp only [SSd, Nat.reduceAdd]
  refine rdb ?_
  try simp only [SSd, Nat.reduceAdd]
  refine rdb ?_
  try simp only [SSd, Nat.reduceAdd]
  refine rdb ?_
  refine bldI5 (fun u1 J1 hJ1 hU1 => ?_)
  refine call (nums_spec (Y := []) (l := []) (SlO.none _ 1) hU1 (by simp [mk, mm, ho.txn, ho.seq, ho.by']) (by simp) (fun Y1 x1 I1 hI1 hO1 => ?_))
  rw [List.nil_append] at hO1
  try simp only [SSd, Nat.reduceAdd]
  refine rdP _ rfl rfl ?_
  refine call (wstamp_spec (x := c.fAt) hO1 ho.at' (by omega) (fun Y2 x2 I2 hI2 hO2 => ?_))
  try simp only [SSd, Nat.reduceAdd]
  refine rdP _ rfl rfl ?_
  refine call (wstamp_spec (x := c.fTo) hO2 ho.to (by simp only [List.length_append]; omega) (fun Y3 x3 I3 hI3 hO3 => ?_))
  try simp only [SSd, Nat.reduceAdd]
  refine rdb ?_
  refine call (wtruth_spec hO3 (by simp only [List.length_append]; omega) (fun Y4 x4 I4 hI4 hO4 => ?_))
  try simp only [SSd, Nat.reduceAdd]
  refine rdb ?_
  refine call (wtruth_spec hO4 (by simp only [List.length_append]; omega) (fun Y5 x5 I5 hI5 hO5 => ?_))
  have t5 := hJ1.trans (hI1.trans (hI2.trans (hI3.trans (hI4.trans hI5))))
  try simp only [SSd, Nat.reduceAdd]
  refine rdb ?_
  refine call (wtext_spec hO5 (g0.mono t5) (by simp only [List.length_append]; omega) (by omega) (fun Y6 x6 I6 hI6 hO6 => ?_))
  try simp only [SSd, Nat.reduceAdd]
  refine rdb ?_
  refine call (wtext_spec hO6 (g1.mono (t5.trans hI6)) (by simp only [List.length_append]; omega) (by omega) (fun Y7 x7 I7 hI7 hO7 => ?_))
  have t7 := t5.trans (hI6.trans hI7)
  try simp only [SSd, Nat.reduceAdd]
  refine rdP _ rfl rfl ?_
  refine call (wspan_spec (p := c.fSpan) hO7 ⟨_, _, rfl, g2.mono t7, g3.mono t7⟩ (by simp only [List.length_append]; omega) (by omega) (by omega) (fun Y8 x8 I8 hI8 hO8 => ?_))
  try simp only [SSd, Nat.reduceAdd]
  refine rdb ?_
  refine Gh.to (Y8 ++ L) (OB.freeze hO8 (fun I9 hI9 hB9 => Gh.done ?_))
  refine hk hr x8 I9 (t7.trans (hI8.trans hI9)) ?_
  have e9 : encB c = numsI [c.fKind, c.fTxn, c.fSeq, c.fBy, c.fMost] ++ stmB c.fAt ++ stmB c.fTo ++ bitB c.fYes ++ bitB c.fDel ++ txtB c.fKey ++ txtB c.fValue ++ (txtB c.fSpan.fFrom ++ txtB c.fSpan.fTo) := by
    simp [encB, numsI]
  rw [e9]; exact hB9
end
end Go.Proofs.YtmmfcgbfbcamcaaGreatDoor
-- S3
set_option linter.unusedSimpArgs false
set_option linter.unusedVariables false
namespace Go.Proofs.YtmmfcgbfbcamcaaGreatDoor
open Go.SL
set_option maxRecDepth 10000
section
variable {ω : Om} {I : Imm} {L : LH} {K : Value → M}
theorem or_addU {n y i : Nat} (h : n < 2 ^ i) (hs : n + y * 2 ^ i < 9223372036854775808) : bitsV .or .u64 (n : Int) ((y * 2 ^ i : Nat) : Int) = ((n + y * 2 ^ i : Nat) : Int) := by
  have e : ((BitVec.ofInt 64 (n : Int)) ||| (BitVec.ofInt 64 ((y * 2 ^ i : Nat) : Int))).toNat = n + y * 2 ^ i := by
    rw [BitVec.toNat_or]
    have e1 : (BitVec.ofInt 64 (n : Int)).toNat = n := by rw [BitVec.toNat_ofInt]; omega
    have e2 : (BitVec.ofInt 64 ((y * 2 ^ i : Nat) : Int)).toNat = y * 2 ^ i := by
      rw [BitVec.toNat_ofInt]
      generalize y * 2 ^ i = z at *
      omega
    rw [e1, e2, Nat.or_comm, Nat.mul_comm, ← Nat.two_pow_add_eq_or_of_lt h]
    exact Nat.add_comm _ _
  show IntKind.u64.wrap ((BitVec.ofInt 64 (n : Int)) ||| (BitVec.ofInt 64 ((y * 2 ^ i : Nat) : Int))).toNat = _
  rw [e]
  exact wrap_u64 _ (by omega) (by omega)
theorem and_u8 : ∀ x : Fin 256, bitsV .and .u8 ((x.val : Nat) : Int) 127 = ((x.val % 128 : Nat) : Int) := by decide
theorem pow128 (i : Nat) : (128 : Nat) ^ i = 2 ^ (7 * i) := by rw [show (128 : Nat) = 2 ^ 7 from rfl, ← Nat.pow_mul]
theorem shl7 {y i : Nat} (hi : i ≤ 7) (hy : y * 128 ^ i < 9223372036854775808) : binIV .shl (.int .u64 (y : Int)) (.int .i64 (7 * (i : Int))) = some (.int .u64 ((y * 2 ^ (7 * i) : Nat) : Int)) := by
  have h := binI_shl (a := (y : Int)) (c := 7 * (i : Int)) .u64 .i64 (by omega)
  have e1 : (min (7 * (i : Int)).toNat IntKind.u64.bits) = 7 * i := by
    show min _ 64 = _
    omega
  rw [pow128] at hy
  rw [e1, wrap_u64 _ (by
    have : (0 : Int) ≤ 2 ^ (7 * i) := Int.le_of_lt (Int.pow_pos (by decide))
    exact Int.mul_nonneg (Int.natCast_nonneg y) this) (by
    have : ((y * 2 ^ (7 * i) : Nat) : Int) < 18446744073709551616 := by omega
    rw [Int.natCast_mul, Int.natCast_pow] at this
    exact this)] at h
  rw [h]
  congr 2
theorem byte_at {l : List UInt8} {c : UInt8} {d r : List UInt8} (h : l = d ++ c :: r) (hd : d.length < l.length) : l[d.length] = c := by
  subst h; simp
theorem taken_spec {v : Value} {n : Nat} {rest : List UInt8} (h : Bytes I v (varL n ++ rest)) (hn : n ≤ 9007199254740991) (hk : K (.tuple #[.int .u64 n, .int .i64 (varL n).length, .int .i64 0]) I L) : Cal Tryz.prog ω 124 #[v] K I L := by
  refine cal124 ?_
  unfold sh124
  refine loop (fun q t I' L' => I' = I ∧ L' = L ∧ ∃ (i m acc : Nat) (d : List UInt8), q + i = 8 ∧ t = (.int .u64 0, .int .i64 0, .int .i64 0, .int .u64 acc, .int .i64 i, ()) ∧ varL n = d ++ varL m ∧ d.length = i ∧ n = acc + m * 128 ^ i ∧ acc < 128 ^ i ∧ (0 < i → m ≠ 0)) 8 ⟨rfl, rfl, 0, n, 0, [], rfl, rfl, rfl, rfl, by simp, by simp, by omega⟩ ?_
  rintro q t I' L' ⟨rfl, rfl, i, m, acc, d, hqi, rfl, he, hd, hnn, hacc, hm0⟩
  have hi7 : i ≤ 7 := by
    by_cases h8 : i = 8
    · subst h8
      have hm := hm0 (by omega)
      have : 1 * 128 ^ 8 ≤ m * 128 ^ 8 := Nat.mul_le_mul_right _ (by omega)
      omega
    · omega
  have hmn : m * 128 ^ i ≤ 9007199254740991 := by omega
  have hmm : m ≤ 9007199254740991 := Nat.le_trans (Nat.le_mul_of_pos_right _ (Nat.pow_pos (by decide))) hmn
  obtain ⟨c, r, hc, hcs⟩ : ∃ c r, varL m = c :: r ∧ ((m < 128 ∧ c = UInt8.ofNat m ∧ r = []) ∨ (¬ m < 128 ∧ c = UInt8.ofNat (m % 128 + 128) ∧ r = varL (m / 128))) := by
    by_cases h1 : m < 128
    · exact ⟨_, _, varL_small h1, .inl ⟨h1, rfl, rfl⟩⟩
    · exact ⟨_, _, varL_big h1, .inr ⟨h1, rfl, rfl⟩⟩
  have hl : varL n ++ rest = d ++ c :: (r ++ rest) := by rw [he, hc]; simp
  have hlen : d.length < (varL n ++ rest).length := by rw [hl]; simp
  unfold sh124_1
  obtain ⟨b, off, hix, hcell⟩ := Bytes.at (k := i) h (by omega)
  have hbyte : (varL n ++ rest)[i]'(by omega) = c := by
    have := byte_at hl hlen
    simpa [hd] using this
  rw [hbyte] at hcell
  have hne : ((i : Int) == ((varL n ++ rest).length : Int)) = false := by
    simp only [beq_eq_false_iff_ne, ne_eq]; omega
  try simp only [SSd, Nat.reduceAdd]
  refine br_split (fun e => ?_) (fun e => absurd e (by simp; omega))
  simp only [Bytes.len h, hne, hix, SSd, Nat.reduceAdd]
  refine rd1 (hcell _ _ (Ext.refl _)) ?_
  have hand := and_u8 ⟨c.toNat, c.toNat_lt⟩
  simp only at hand
  have hct := c.toNat_lt
  have hcm : c.toNat % 128 = m % 128 := by
    rcases hcs with ⟨h1, rfl, _⟩ | ⟨h1, rfl, _⟩ <;> simp <;> omega
  have hle : m % 128 * 128 ^ i ≤ m * 128 ^ i := Nat.mul_le_mul_right _ (Nat.mod_le _ _)
  have w7 : IntKind.i64.wrap (7 * (i : Int)) = 7 * (i : Int) := wrap_i64 _ (by omega)
  have wu : IntKind.u64.wrap ((m % 128 : Nat) : Int) = ((m % 128 : Nat) : Int) := wrap_u64 _ (by omega) (by omega)
  have hor := or_addU (n := acc) (y := m % 128) (i := 7 * i) (by rw [← pow128]; exact hacc) (by rw [← pow128]; omega)
  simp only [hand, hcm, w7, wu, shl7 hi7 (show m % 128 * 128 ^ i < 9223372036854775808 by omega), hor, SSd, Nat.reduceAdd]
  rw [← pow128]
  generalize hP : 128 ^ i = P at *
  refine br_split (fun e2 => ?_) (fun e2 => ?_)
  · obtain ⟨h1, h2, h3⟩ : ¬ m < 128 ∧ c = UInt8.ofNat (m % 128 + 128) ∧ r = varL (m / 128) := by
      rcases hcs with ⟨h1, h2, _⟩ | h
      · subst h2; simp at e2; omega
      · exact h
    rw [wrap_i64 _ (by omega)]
    have hpow : 128 ^ (i + 1) = P * 128 := by rw [Nat.pow_succ, hP]
    have hsplit : m * P = m % 128 * P + m / 128 * (P * 128) := by
      conv => lhs; rw [← Nat.mod_add_div m 128]
      rw [Nat.add_mul, Nat.mul_comm P 128, ← Nat.mul_assoc, Nat.mul_comm (m / 128) 128]
    refine Gh.done ⟨q - 1, by omega, rfl, rfl, i + 1, m / 128, acc + m % 128 * P, d ++ [c], by omega, rfl, ?_, by simp [hd], ?_, ?_, fun _ => by omega⟩
    · rw [he, hc, h3]; simp
    · rw [hpow]; omega
    · have : m % 128 * P ≤ 127 * P := Nat.mul_le_mul_right _ (by omega)
      rw [hpow]; omega
  · obtain ⟨h1, h2, h3⟩ : m < 128 ∧ c = UInt8.ofNat m ∧ r = [] := by
      rcases hcs with h | ⟨h1, h2, _⟩
      · exact h
      · subst h2; simp at e2; omega
    have hcn : c.toNat = m := by subst h2; simp; omega
    have hmm2 : m % 128 = m := Nat.mod_eq_of_lt h1
    have hL : (varL n).length = i + 1 := by rw [he, hc, h3]; simp [hd]
    rw [hmm2, ← hnn, hcn]
    have fin : sh124_3 ω (.int .u64 0) (.int .i64 0) (.int .i64 0) (.int .u64 n) (.int .i64 i) (.int .u8 m) (.bool false) (fun v => Gh (K v)) I' L' := by
      unfold sh124_3
      have h9 : ((i : Int) == 9) = false := by simp; omega
      simp only [h9, SSd, Nat.reduceAdd]
      unfold sh124_2
      try simp only [SSd, Nat.reduceAdd]
      rw [wrap_i64 _ (by omega)]
      rw [hL] at hk
      exact Gh.done hk
    refine gd_split (fun e3 => ?_) (fun e3 => fin)
    have hmz : ((m : Int) == 0) = false := by
      have := hm0 (by simp at e3; omega)
      simp; omega
    simp only [hmz, SSd, Nat.reduceAdd]
    exact fin
theorem uwrap_range (n : Int) : 0 ≤ IntKind.u64.wrap n ∧ IntKind.u64.wrap n < 18446744073709551616 := by
  unfold IntKind.wrap
  simp only [IntKind.signed, Bool.false_and, Bool.false_eq_true, if_false]
  exact ⟨Int.emod_nonneg _ (by decide), Int.emod_lt_of_pos _ (by decide)⟩
theorem or_range (a b : Int) : 0 ≤ bitsV .or .u64 a b ∧ bitsV .or .u64 a b < 18446744073709551616 := uwrap_range _
theorem takeg_spec {v : Value} {l : List UInt8} (h : Bytes I v l) (hl : l.length ≤ 140737488355328)
    (hk : ∀ (n : Int) (size : Nat) (e : Int), 0 ≤ n → n < 18446744073709551616 → (e = 0 → size ≤ l.length) → K (.tuple #[.int .u64 n, .int .i64 size, .int .i64 e]) I L) : Cal Tryz.prog ω 124 #[v] K I L := by
  refine cal124 ?_
  unfold sh124
  refine loop (fun q (t : Value × Value × Value × Value × Value × Unit) I' L' => I' = I ∧ L' = L ∧ ∃ (i : Nat) (acc : Int), q + i = 10 ∧ t = (.int .u64 0, .int .i64 0, .int .i64 0, .int .u64 acc, .int .i64 i, ()) ∧ i ≤ l.length) 10 ⟨rfl, rfl, 0, 0, rfl, rfl, Nat.zero_le _⟩ ?_
  rintro q t I' L' ⟨rfl, rfl, i, acc, hqi, rfl, hil⟩
  unfold sh124_1
  simp only [Bytes.len h, SSd, Nat.reduceAdd]
  refine br_split (fun e => ?_) (fun e => ?_)
  · have hi : i < 10 := by
      have : (i : Int) < 10 := by simpa using e
      omega
    refine br_split (fun e2 => ?_) (fun e2 => ?_)
    · exact Gh.done (hk 0 0 10 (by omega) (by omega) (by omega))
    · have hlt : i < l.length := by simp at e2; omega
      obtain ⟨b, off, hix, hcell⟩ := Bytes.at (k := i) h hlt
      simp only [hix, SSd, Nat.reduceAdd]
      refine rd1 (hcell _ _ (Ext.refl _)) ?_
      generalize l[i] = c at *
      have hand := and_u8 ⟨c.toNat, c.toNat_lt⟩
      simp only at hand
      have w7 : IntKind.i64.wrap (7 * (i : Int)) = 7 * (i : Int) := wrap_i64 _ (by omega)
      have wi : IntKind.i64.wrap ((i : Int) + 1) = ((i + 1 : Nat) : Int) := by rw [wrap_i64 _ (by omega)]; rfl
      simp only [hand, w7, binI_shl (a := IntKind.u64.wrap ((c.toNat % 128 : Nat) : Int)) (c := 7 * (i : Int)) .u64 .i64 (by omega), SSd, Nat.reduceAdd]
      have hr := or_range acc (IntKind.u64.wrap (IntKind.u64.wrap ((c.toNat % 128 : Nat) : Int) * 2 ^ (min (7 * (i : Int)).toNat IntKind.u64.bits)))
      generalize bitsV .or .u64 acc (IntKind.u64.wrap (IntKind.u64.wrap ((c.toNat % 128 : Nat) : Int) * 2 ^ (min (7 * (i : Int)).toNat IntKind.u64.bits))) = acc2 at *
      have f2 : ∀ t : Bool, sh124_2 ω (.int .u64 0) (.int .i64 0) (.int .i64 0) (.int .u64 acc2) (.int .i64 i) (.bool t) (fun v => Gh (K v)) I' L' := by
        intro t
        unfold sh124_2
        try simp only [SSd, Nat.reduceAdd]
        refine br_split (fun _ => ?_) (fun _ => ?_)
        · exact Gh.done (hk 0 0 11 (by omega) (by omega) (by omega))
        · rw [wi]
          exact Gh.done (hk acc2 (i + 1) 0 hr.1 hr.2 (fun _ => hlt))
      have f3 : ∀ t : Bool, sh124_3 ω (.int .u64 0) (.int .i64 0) (.int .i64 0) (.int .u64 acc2) (.int .i64 i) (.int .u8 c.toNat) (.bool t) (fun v => Gh (K v)) I' L' := by
        intro t
        unfold sh124_3
        try simp only [SSd, Nat.reduceAdd]
        refine gd_split (fun _ => f2 _) (fun _ => f2 _)
      refine br_split (fun e3 => ?_) (fun e3 => ?_)
      · rw [wi]
        exact Gh.done ⟨q - 1, by omega, rfl, rfl, i + 1, acc2, by omega, rfl, hlt⟩
      · refine gd_split (fun e4 => ?_) (fun e4 => f3 _)
        refine br_split (fun e5 => ?_) (fun e5 => ?_)
        · rw [e5]; exact f2 true
        · rw [e5]; exact f3 false
  · exact Gh.done (hk 0 0 11 (by omega) (by omega) (by omega))
theorem varL_inj : ∀ (k m n : Nat) (r s : List UInt8), m < 128 ^ k → n < 128 ^ k → varL m ++ r = varL n ++ s → m = n ∧ r = s
  | 0, m, n, r, s, hm, hn, h => by
    have h0 : m = 0 := by omega
    have h1 : n = 0 := by omega
    subst h0 h1
    simpa using h
  | k + 1, m, n, r, s, hm, hn, h => by
    have b1 : ∀ x : Nat, x < 128 → (UInt8.ofNat x).toNat = x := fun x hx => by simp; omega
    have b2 : ∀ x : Nat, (UInt8.ofNat (x % 128 + 128)).toNat = x % 128 + 128 := fun x => by simp; omega
    by_cases h1 : m < 128 <;> by_cases h2 : n < 128
    · rw [varL_small h1, varL_small h2] at h
      simp only [List.cons_append, List.nil_append, List.cons.injEq] at h
      have := congrArg UInt8.toNat h.1
      rw [b1 m h1, b1 n h2] at this
      exact ⟨this, h.2⟩
    · rw [varL_small h1, varL_big h2] at h
      simp only [List.cons_append, List.nil_append, List.cons.injEq] at h
      have := congrArg UInt8.toNat h.1
      rw [b1 m h1, b2 n] at this; omega
    · rw [varL_big h1, varL_small h2] at h
      simp only [List.cons_append, List.nil_append, List.cons.injEq] at h
      have := congrArg UInt8.toNat h.1
      rw [b1 n h2, b2 m] at this; omega
    · rw [varL_big h1, varL_big h2] at h
      simp only [List.cons_append, List.cons.injEq] at h
      have := congrArg UInt8.toNat h.1
      rw [b2 m, b2 n] at this
      have hp : 128 ^ (k + 1) = 128 * 128 ^ k := by rw [Nat.pow_succ, Nat.mul_comm]
      have ih := varL_inj k (m / 128) (n / 128) r s (by omega) (by omega) h.2
      exact ⟨by omega, ih.2⟩
theorem nB_inj {m n : Int} {r s : List UInt8} (hm : maxI m) (hn : maxI n) (h : nB m ++ r = nB n ++ s) : m = n ∧ r = s := by
  have := varL_inj 9 m.toNat n.toNat r s (by have := hm.2; have := hm.1; omega) (by have := hn.2; have := hn.1; omega) h
  have h1 := hm.1
  have h2 := hn.1
  exact ⟨by omega, this.2⟩
abbrev rdO (v : Value) (bad : Bool) : Obj := .cells #[v, .bool bad] 152 (0, 0)
theorem rnum_spec {r : Nat} {v : Value} {b : List UInt8} {bad : Bool} {F : LH} (hB : Bytes I v b) (hl : b.length ≤ 140737488355328)
    (hk : ∀ n v' b' bad', Bytes I v' b' → NumP b bad n b' bad' → K (.int .i64 n) I ((r, rdO v' bad') :: F)) : Cal Tryz.prog ω 71 #[pt r] K I ((r, rdO v bad) :: F) := by
  obtain ⟨va, vc, rfl⟩ := Bytes.form hB
  refine cal71 ?_
  unfold sh71
  try simp only [SSd, Nat.reduceAdd]
  refine rdb ?_
  by_cases hx : ∃ (m : Int) (rest : List UInt8), maxI m ∧ b = nB m ++ rest
  · obtain ⟨m, rest, hm, hb⟩ := hx
    have hmn : m = ((m.toNat : Nat) : Int) := by have := hm.1; omega
    have hm2 : m.toNat ≤ 9007199254740991 := by have := hm.2; omega
    have hB2 : Bytes I (.slice va b.length vc) (varL m.toNat ++ rest) := by rw [show varL m.toNat ++ rest = b from hb.symm]; exact hB
    obtain ⟨v', hs, hB'⟩ := Bytes.drop (n := (varL m.toNat).length) hB2 (by simp)
    rw [List.drop_left] at hB'
    obtain ⟨va', vc', rfl⟩ := Bytes.form hB'
    have hP : NumP b bad m rest bad := ⟨hm, by rw [hb]; simp, fun m' rest' hm' h' => by
      obtain ⟨h1, h2⟩ := nB_inj hm hm' (by rw [← hb]; exact h')
      exact ⟨h1, h2, rfl⟩⟩
    have hgt : decide ((9007199254740991 : Int) < ((m.toNat : Nat) : Int)) = false := by simp; omega
    refine call (taken_spec hB2 hm2 ?_)
    simp only [hgt, bne_self_eq_false, SSd, Nat.reduceAdd]
    refine rdb ?_
    simp only [hs, SSd, Nat.reduceAdd]
    refine st1 rfl ?_
    try simp only [SSd, Nat.reduceAdd]
    rw [wrap_i64 _ (by omega), ← hmn]
    exact Gh.done (hk m _ rest bad hB' hP)
  · have bd : sh71_1 ω (pt r) (.int .i64 0) (fun v => Gh (K v)) I ((r, rdO (.slice va b.length vc) bad) :: F) := by
      repeat' (first | (with_reducible refine drawC ?_) | (with_reducible refine drawW1 ?_) | (with_reducible refine drawW2 ?_) | (with_reducible refine keepC (by repeat (first | exact Ext.refl _ | assumption | refine Ext.trans ?_ (by assumption))) ?_) | (with_reducible refine newI (fun _ => ?_)) | first | (with_reducible refine rdb ?_) | ((with_reducible refine st1 ?_ ?_); rfl) | ((with_reducible refine rdB ?_ ?_); rfl) | (with_reducible refine rdbS ?_) | ((with_reducible refine rdBS ?_ ?_); rfl) | ((with_reducible refine stB ?_ ?_ ?_ ?_); rfl; rfl; exact one_all rfl) | ((with_reducible refine rdP _ rfl ?_ ?_); rfl) | ((with_reducible refine rdPS _ rfl ?_ ?_); rfl) | ((with_reducible refine stP _ rfl ?_ ?_ ?_ ?_); rfl; rfl; rfl) | (with_reducible refine unfE (sh71_1.eq_1 ..) ?_) | (with_reducible refine unfE (sh71.eq_1 ..) ?_) | (with_reducible refine And.intro ?_ ?_) | (simp only [Bool.not_true, Bool.not_false, Bool.and_self, Bool.true_and, Int.reduceBEq, Int.reduceBNe, Int.reduceLT, Int.reduceLE, decide_true, decide_false, Br_true, Br_false, Gd_tt, Gd_ft, Gd_tf, Gd_ff, beq_self_eq_true, bne_self_eq_false]) | (with_reducible refine gd_split (fun _ => ?_) (fun _ => ?_)) | (with_reducible refine br_split (fun _ => ?_) (fun _ => ?_)) | (simp only [SSd, Nat.reduceAdd]))
      exact Gh.done (hk 0 _ [] true (bnil I) ⟨⟨by omega, by omega⟩, Nat.zero_le _, fun m rest hm h => absurd ⟨m, rest, hm, h⟩ hx⟩)
    refine call (takeg_spec hB hl (fun n size e hn0 hn1 hsz => ?_))
    try simp only [SSd, Nat.reduceAdd]
    refine gd_split (fun e1 => ?_) (fun e1 => bd)
    have he : e = 0 := by simpa using e1
    refine br_split (fun e2 => bd) (fun e2 => ?_)
    have hn : n ≤ 9007199254740991 := by simpa using e2
    obtain ⟨v', hs, hB'⟩ := Bytes.drop (n := size) hB (hsz he)
    obtain ⟨va', vc', rfl⟩ := Bytes.form hB'
    refine rdb ?_
    simp only [hs, SSd, Nat.reduceAdd]
    refine st1 rfl ?_
    try simp only [SSd, Nat.reduceAdd]
    rw [wrap_i64 _ (by omega)]
    exact Gh.done (hk n _ _ bad hB' ⟨⟨hn0, hn⟩, by simp, fun m rest hm h => absurd ⟨m, rest, hm, h⟩ hx⟩)
theorem rstamp_spec {r : Nat} {v : Value} {b : List UInt8} {bad : Bool} {F : LH} (hB : Bytes I v b) (hl : b.length ≤ 140737488355328)
    (hk : ∀ s v' b' bad', Bytes I v' b' → StP b bad s b' bad' → K (sv s) I ((r, rdO v' bad') :: F)) : Cal Tryz.prog ω 72 #[pt r] K I ((r, rdO v bad) :: F) := by
  refine cal72 ?_
  unfold sh72
  refine newI (fun b1 => ?_)
  refine call (Cal.pick r (rnum_spec hB hl (fun n1 x1 c1 d1 hB1 hP1 => ?_)))
  refine call (rnum_spec hB1 (by have := hP1.len; omega) (fun n2 x2 c2 d2 hB2 hP2 => ?_))
  have hP : ∀ d', (rightB ⟨n1, n2⟩ = true → d' = d2) → StP b bad ⟨n1, n2⟩ c2 d' := fun d' hd => ⟨⟨hP1.max, hP2.max⟩, Nat.le_trans hP2.len hP1.len, fun x rest hx hb => by
    have hm := rightB_max hx
    obtain ⟨e1, e2, e3⟩ := hP1.get x.fWall (nB x.fLogic ++ rest) hm.1 (by rw [hb]; simp [stmB])
    obtain ⟨e4, e5, e6⟩ := hP2.get x.fLogic rest hm.2 e2
    subst e1 e4
    exact ⟨rfl, e5, by rw [hd hx, e6, e3]⟩⟩
  try simp only [SSd, Nat.reduceAdd]
  refine newI (fun b2 => ?_)
  refine stB rfl rfl (one_all rfl) ?_
  refine rdB rfl ?_
  refine call (hright_spec (x := ⟨n1, n2⟩) ?_)
  repeat' (first | (with_reducible refine drawC ?_) | (with_reducible refine drawW1 ?_) | (with_reducible refine drawW2 ?_) | (with_reducible refine keepC (by repeat (first | exact Ext.refl _ | assumption | refine Ext.trans ?_ (by assumption))) ?_) | (with_reducible refine newI (fun _ => ?_)) | first | (with_reducible refine rdb ?_) | ((with_reducible refine st1 ?_ ?_); rfl) | ((with_reducible refine rdB ?_ ?_); rfl) | (with_reducible refine rdbS ?_) | ((with_reducible refine rdBS ?_ ?_); rfl) | ((with_reducible refine stB ?_ ?_ ?_ ?_); rfl; rfl; exact one_all rfl) | ((with_reducible refine rdP _ rfl ?_ ?_); rfl) | ((with_reducible refine rdPS _ rfl ?_ ?_); rfl) | ((with_reducible refine stP _ rfl ?_ ?_ ?_ ?_); rfl; rfl; rfl) | (with_reducible refine unfE (sh72_1.eq_1 ..) ?_) | (with_reducible refine unfE (sh72.eq_1 ..) ?_) | (with_reducible refine And.intro ?_ ?_) | (simp only [Bool.not_true, Bool.not_false, Bool.and_self, Bool.true_and, Int.reduceBEq, Int.reduceBNe, Int.reduceLT, Int.reduceLE, decide_true, decide_false, Br_true, Br_false, Gd_tt, Gd_ft, Gd_tf, Gd_ff, beq_self_eq_true, bne_self_eq_false]) | (with_reducible refine gd_split (fun _ => ?_) (fun _ => ?_)) | (with_reducible refine br_split (fun _ => ?_) (fun _ => ?_)) | (simp only [SSd, Nat.reduceAdd]))
  · rename_i e
    exact Gh.to ((r, rdO x2 true) :: F) (Gh.done (hk ⟨n1, n2⟩ _ _ _ hB2 (hP true (fun h => by rw [h] at e; cases e))))
  · exact Gh.to ((r, rdO x2 d2) :: F) (Gh.done (hk ⟨n1, n2⟩ _ _ _ hB2 (hP d2 (fun _ => rfl))))
theorem rtruth_spec {r : Nat} {v : Value} {b : List UInt8} {bad : Bool} {F : LH} (hB : Bytes I v b) (hl : b.length ≤ 140737488355328)
    (hk : ∀ t v' b' bad', Bytes I v' b' → BitP b bad t b' bad' → K (.bool t) I ((r, rdO v' bad') :: F)) : Cal Tryz.prog ω 73 #[pt r] K I ((r, rdO v bad) :: F) := by
  refine cal73 ?_
  unfold sh73
  refine call (rnum_spec hB hl (fun n1 x1 c1 d1 hB1 hP1 => ?_))
  have hP : ∀ d', ((n1 = 0 ∨ n1 = 1) → d' = d1) → BitP b bad (n1 == 1) c1 d' := fun d' hd => ⟨hP1.len, fun x rest hb => by
    obtain ⟨e1, e2, e3⟩ := hP1.get _ rest (bit_max x) hb
    cases x with
    | true => simp at e1; subst e1; exact ⟨rfl, e2, by rw [hd (.inr rfl), e3]⟩
    | false => simp at e1; subst e1; exact ⟨rfl, e2, by rw [hd (.inl rfl), e3]⟩⟩
  have h1 := hP1.max
  repeat' (first | (with_reducible refine drawC ?_) | (with_reducible refine drawW1 ?_) | (with_reducible refine drawW2 ?_) | (with_reducible refine keepC (by repeat (first | exact Ext.refl _ | assumption | refine Ext.trans ?_ (by assumption))) ?_) | (with_reducible refine newI (fun _ => ?_)) | first | (with_reducible refine rdb ?_) | ((with_reducible refine st1 ?_ ?_); rfl) | ((with_reducible refine rdB ?_ ?_); rfl) | (with_reducible refine rdbS ?_) | ((with_reducible refine rdBS ?_ ?_); rfl) | ((with_reducible refine stB ?_ ?_ ?_ ?_); rfl; rfl; exact one_all rfl) | ((with_reducible refine rdP _ rfl ?_ ?_); rfl) | ((with_reducible refine rdPS _ rfl ?_ ?_); rfl) | ((with_reducible refine stP _ rfl ?_ ?_ ?_ ?_); rfl; rfl; rfl) | (with_reducible refine unfE (sh73.eq_1 ..) ?_) | (with_reducible refine And.intro ?_ ?_) | (simp only [Bool.not_true, Bool.not_false, Bool.and_self, Bool.true_and, Int.reduceBEq, Int.reduceBNe, Int.reduceLT, Int.reduceLE, decide_true, decide_false, Br_true, Br_false, Gd_tt, Gd_ft, Gd_tf, Gd_ff, beq_self_eq_true, bne_self_eq_false]) | (with_reducible refine gd_split (fun _ => ?_) (fun _ => ?_)) | (with_reducible refine br_split (fun _ => ?_) (fun _ => ?_)) | (simp only [SSd, Nat.reduceAdd]))
  · rename_i e
    exact Gh.done (hk (n1 == 1) _ _ _ hB1 (hP _ (fun h => by rw [e]; simp; omega)))
  · rename_i e
    have hd : d1 = true := by simpa using e
    exact Gh.done (hk (n1 == 1) _ _ _ hB1 (hP true (fun h => hd.symm)))
theorem rtext_spec {r : Nat} {v : Value} {b : List UInt8} {bad : Bool} {F : LH} (hB : Bytes I v b) (hl : b.length ≤ 140737488355328)
    (hk : ∀ t u v' b' bad' I', Ext I I' → Bytes I' u t → Bytes I' v' b' → TxP b bad t b' bad' → K u I' ((r, rdO v' bad') :: F)) : Cal Tryz.prog ω 74 #[pt r] K I ((r, rdO v bad) :: F) := by
  refine cal74 ?_
  unfold sh74
  refine call (rnum_spec hB hl (fun n1 x1 c1 d1 hB1 hP1 => ?_))
  have h1 := hP1.max
  have hc1 := hP1.len
  obtain ⟨va, vc, rfl⟩ := Bytes.form hB1
  try simp only [SSd, Nat.reduceAdd]
  refine rdb ?_
  try simp only [SSd, Nat.reduceAdd]
  refine br_split (fun e => ?_) (fun e => ?_)
  · have hgt : (c1.length : Int) < n1 := by simpa using e
    repeat' (first | (with_reducible refine drawC ?_) | (with_reducible refine drawW1 ?_) | (with_reducible refine drawW2 ?_) | (with_reducible refine keepC (by repeat (first | exact Ext.refl _ | assumption | refine Ext.trans ?_ (by assumption))) ?_) | (with_reducible refine newI (fun _ => ?_)) | first | (with_reducible refine rdb ?_) | ((with_reducible refine st1 ?_ ?_); rfl) | ((with_reducible refine rdB ?_ ?_); rfl) | (with_reducible refine rdbS ?_) | ((with_reducible refine rdBS ?_ ?_); rfl) | ((with_reducible refine stB ?_ ?_ ?_ ?_); rfl; rfl; exact one_all rfl) | ((with_reducible refine rdP _ rfl ?_ ?_); rfl) | ((with_reducible refine rdPS _ rfl ?_ ?_); rfl) | ((with_reducible refine stP _ rfl ?_ ?_ ?_ ?_); rfl; rfl; rfl) | (with_reducible refine unfE (sh74.eq_1 ..) ?_) | (with_reducible refine And.intro ?_ ?_) | (simp only [Bool.not_true, Bool.not_false, Bool.and_self, Bool.true_and, Int.reduceBEq, Int.reduceBNe, Int.reduceLT, Int.reduceLE, decide_true, decide_false, Br_true, Br_false, Gd_tt, Gd_ft, Gd_tf, Gd_ff, beq_self_eq_true, bne_self_eq_false]) | (with_reducible refine gd_split (fun _ => ?_) (fun _ => ?_)) | (with_reducible refine br_split (fun _ => ?_) (fun _ => ?_)) | (simp only [SSd, Nat.reduceAdd]))
    refine Gh.done (hk [] _ _ [] true I (Ext.refl _) (bnil I) (bnil I) ⟨Nat.zero_le _, Nat.zero_le _, fun x rest hx hb => ?_⟩)
    obtain ⟨e1, e2, e3⟩ := hP1.get (x.length : Int) (x ++ rest) ⟨by omega, by omega⟩ (by rw [hb]; simp [txtB, nB])
    rw [e1, e2, List.length_append] at hgt; omega
  · have hle : n1 ≤ (c1.length : Int) := by simpa using e
    obtain ⟨n, rfl⟩ : ∃ n : Nat, n1 = n := ⟨n1.toNat, by have := h1.1; omega⟩
    have hn : n ≤ c1.length := by omega
    obtain ⟨u1, hs1, hT⟩ := Bytes.take hB1 hn
    obtain ⟨u2, hs2, hD⟩ := Bytes.drop hB1 hn
    obtain ⟨ua, uc, rfl⟩ := Bytes.form hD
    refine rdb ?_
    simp only [hs1, SSd, Nat.reduceAdd]
    haveI : SplitL [] ((r, rdO (.slice va c1.length vc) d1) :: F) ((r, rdO (.slice va c1.length vc) d1) :: F) := ⟨List.Perm.refl _⟩
    refine ob_appG (X6 := []) (l := []) (y := c1.take n) (SlO.none _ 1) (SlI.news hT) (by simp; omega) (fun Y w hO => ?_)
    rw [List.nil_append] at hO
    refine OB.freeze hO (fun I2 hI2 hB2 => Gh.done ?_)
    try simp only [SSd, Nat.reduceAdd]
    refine rdb ?_
    simp only [hs2, SSd, Nat.reduceAdd]
    refine st1 rfl ?_
    refine Gh.done (hk (c1.take n) w _ (c1.drop n) d1 I2 hI2 hB2 (hD.mono hI2) ⟨by simp; omega, by simp; omega, fun x rest hx hb => ?_⟩)
    obtain ⟨e1, e2, e3⟩ := hP1.get (x.length : Int) (x ++ rest) ⟨by omega, by omega⟩ (by rw [hb]; simp [txtB, nB])
    have e4 : n = x.length := by omega
    rw [e2, e4]
    exact ⟨by simp, by simp, e3⟩
theorem rspan_spec {r : Nat} {v : Value} {b : List UInt8} {bad : Bool} {F : LH} (hB : Bytes I v b) (hl : b.length ≤ 140737488355328)
    (hk : ∀ p v' b' bad' I' pc, Ext I I' → TSpanV I' p pc → Bytes I' v' b' → SpnP b bad p b' bad' → K (.agg pc.toArray) I' ((r, rdO v' bad') :: F)) : Cal Tryz.prog ω 75 #[pt r] K I ((r, rdO v bad) :: F) := by
  refine cal75 ?_
  unfold sh75
  refine newI (fun b1 => ?_)
  refine call (Cal.pick r (rtext_spec hB hl (fun t1 u1 x1 c1 d1 I1 hI1 hT1 hB1 hP1 => ?_)))
  refine call (rtext_spec hB1 (by have := hP1.len; omega) (fun t2 u2 x2 c2 d2 I2 hI2 hT2 hB2 hP2 => ?_))
  have l1 := hP1.len
  have l2 := hP2.len
  have l3 := hP1.tlen
  have l4 := hP2.tlen
  obtain ⟨ua, uc, rfl⟩ := Bytes.form hT1
  obtain ⟨wa, wc, rfl⟩ := Bytes.form hT2
  try simp only [SSd, Nat.reduceAdd]
  refine Go.SL.stB rfl rfl (one_all rfl) ?_
  refine rdB rfl ?_
  refine Gh.to ((r, rdO x2 d2) :: F) (Gh.done (hk ⟨t1, t2⟩ _ c2 d2 I2 _ (hI1.trans hI2) ⟨_, _, rfl, hT1.mono hI2, hT2⟩ hB2 ⟨⟨by simp only; omega, by simp only; omega⟩, by omega, fun x rest h1 h2 hb => ?_⟩))
  obtain ⟨e1, e2, e3⟩ := hP1.get x.fFrom _ h1 hb
  obtain ⟨e4, e5, e6⟩ := hP2.get x.fTo rest h2 e2
  subst e1 e4
  exact ⟨rfl, e5, by rw [e6, e3]⟩
theorem rwhole_spec {r : Nat} {v : Value} {b : List UInt8} {bad : Bool} {F : LH} (hB : Bytes I v b) (hk : K (.bool (!bad && b.length == 0)) I ((r, rdO v bad) :: F)) : Cal Tryz.prog ω 76 #[pt r] K I ((r, rdO v bad) :: F) := by
  refine cal76 ?_
  unfold sh76
  repeat' (first | (with_reducible refine drawC ?_) | (with_reducible refine drawW1 ?_) | (with_reducible refine drawW2 ?_) | (with_reducible refine keepC (by repeat (first | exact Ext.refl _ | assumption | refine Ext.trans ?_ (by assumption))) ?_) | (with_reducible refine newI (fun _ => ?_)) | first | (with_reducible refine rdb ?_) | ((with_reducible refine st1 ?_ ?_); rfl) | ((with_reducible refine rdB ?_ ?_); rfl) | (with_reducible refine rdbS ?_) | ((with_reducible refine rdBS ?_ ?_); rfl) | ((with_reducible refine stB ?_ ?_ ?_ ?_); rfl; rfl; exact one_all rfl) | ((with_reducible refine rdP _ rfl ?_ ?_); rfl) | ((with_reducible refine rdPS _ rfl ?_ ?_); rfl) | ((with_reducible refine stP _ rfl ?_ ?_ ?_ ?_); rfl; rfl; rfl) | (with_reducible refine unfE (sh76.eq_1 ..) ?_) | (with_reducible refine And.intro ?_ ?_) | (simp only [Bool.not_true, Bool.not_false, Bool.and_self, Bool.true_and, Int.reduceBEq, Int.reduceBNe, Int.reduceLT, Int.reduceLE, decide_true, decide_false, Br_true, Br_false, Gd_tt, Gd_ft, Gd_tf, Gd_ff, beq_self_eq_true, bne_self_eq_false]) | (with_reducible refine gd_split (fun _ => ?_) (fun _ => ?_)) | (with_reducible refine br_split (fun _ => ?_) (fun _ => ?_)) | (simp only [SSd, Nat.reduceAdd, Bytes.len hB]))
  all_goals (refine Gh.done (leafB hk ?_); simp_all)
  all_goals (rw [Bool.eq_iff_iff]; simp)
abbrev cmdZ : Value := .agg #[.int .i64 0, .int .i64 0, .int .i64 0, .int .i64 0, .int .i64 0, .int .i64 0, .int .i64 0, .int .i64 0, .bool false, .bool false, .slice none 0 0, .slice none 0 0, .slice none 0 0, .slice none 0 0, .int .i64 0]
theorem decode_spec {v : Value} {b : List UInt8} (hB : Bytes I v b) (hl : b.length ≤ 140737488355328)
    (hk1 : ∀ c cells I', Ext I I' → TCmdV I' c cells → rightP c = true → encB c = b → K (.tuple #[.agg cells.toArray, .int .i64 0]) I' L)
    (hk2 : ∀ I', Ext I I' → (∀ c, rightP c = true → encB c ≠ b) → K (.tuple #[cmdZ, .int .i64 140]) I' L) : Cal Tryz.prog ω 21 #[v] K I L := by
  obtain ⟨va, vc, rfl⟩ := Bytes.form hB
  refine cal21 ?_
  unfold sh21
  refine newI (fun b0 => ?_)
  try simp only [SSd, Nat.reduceAdd]
  refine newI (fun r => ?_)
  refine call (rnum_spec hB hl (fun k x1 c1 d1 B1 P1 => ?_))
  have l1 := P1.len
  refine call (rnum_spec B1 (by omega) (fun tx x2 c2 d2 B2 P2 => ?_))
  have l2 := P2.len
  refine call (rnum_spec B2 (by omega) (fun sq x3 c3 d3 B3 P3 => ?_))
  have l3 := P3.len
  refine call (rnum_spec B3 (by omega) (fun by' x4 c4 d4 B4 P4 => ?_))
  have l4 := P4.len
  refine call (rnum_spec B4 (by omega) (fun mo x5 c5 d5 B5 P5 => ?_))
  have l5 := P5.len
  try simp only [SSd, Nat.reduceAdd]
  refine newI (fun q => ?_)
  refine Go.SL.stB rfl rfl (one_all rfl) ?_
  refine call (Cal.pick r (rstamp_spec B5 (by omega) (fun at' x6 c6 d6 B6 P6 => ?_)))
  have l6 := P6.len
  refine call (rstamp_spec B6 (by omega) (fun to' x7 c7 d7 B7 P7 => ?_))
  have l7 := P7.len
  try simp only [SSd, Nat.reduceAdd]
  refine stP _ rfl rfl rfl rfl ?_
  try simp only [SSd, Nat.reduceAdd]
  refine stP _ rfl rfl rfl rfl ?_
  refine call (rtruth_spec B7 (by omega) (fun ys x8 c8 d8 B8 P8 => ?_))
  have l8 := P8.len
  refine call (rtruth_spec B8 (by omega) (fun dl x9 c9 d9 B9 P9 => ?_))
  have l9 := P9.len
  try simp only [SSd, Nat.reduceAdd]
  refine st1 rfl ?_
  try simp only [SSd, Nat.reduceAdd]
  refine st1 rfl ?_
  refine call (rtext_spec B9 (by omega) (fun ky u10 x10 c10 d10 I1 hI1 T10 B10 P10 => ?_))
  have l10 := P10.len
  have m10 := P10.tlen
  refine call (rtext_spec B10 (by omega) (fun vl u11 x11 c11 d11 I2 hI2 T11 B11 P11 => ?_))
  have l11 := P11.len
  have m11 := P11.tlen
  refine call (rspan_spec B11 (by omega) (fun sp x12 c12 d12 I3 pc hI3 T12 B12 P12 => ?_))
  have l12 := P12.len
  have m12 := P12.tlen
  obtain ⟨w0, w1, rfl, g0, g1⟩ := T12
  obtain ⟨a10, k10, rfl⟩ := Bytes.form T10
  obtain ⟨a11, k11, rfl⟩ := Bytes.form T11
  obtain ⟨a12, k12, rfl⟩ := Bytes.form g0
  obtain ⟨a13, k13, rfl⟩ := Bytes.form g1
  try simp only [SSd, Nat.reduceAdd]
  refine st1 rfl ?_
  try simp only [SSd, Nat.reduceAdd]
  refine st1 rfl ?_
  try simp only [SSd, Nat.reduceAdd]
  refine stP _ rfl rfl rfl rfl ?_
  try simp only [SSd, Nat.reduceAdd]
  refine rdB rfl ?_
  have hinv : ∀ c', rightP c' = true → encB c' = b → c' = ⟨k, tx, sq, at', to', by', ys, dl, ky, vl, sp, mo⟩ ∧ d12 = false ∧ c12 = [] := by
    intro c' hr hb
    have ho := rightP_ok hr
    have hs := ho.span
    simp only [spanOk, Bool.and_eq_true, decide_eq_true_eq] at hs
    have hkd := ho.kind
    have hmo := ho.most
    have hky := ho.key
    have hva := ho.value
    have hb' : b = encB c' ++ [] := by rw [hb, List.append_nil]
    simp only [encB, List.append_assoc] at hb'
    obtain ⟨e1, f1, g1⟩ := P1.get _ _ ⟨by omega, by omega⟩ hb'
    obtain ⟨e2, f2, g2⟩ := P2.get _ _ ho.txn f1
    obtain ⟨e3, f3, g3⟩ := P3.get _ _ ho.seq f2
    obtain ⟨e4, f4, g4⟩ := P4.get _ _ ho.by' f3
    obtain ⟨e5, f5, g5⟩ := P5.get _ _ ⟨hmo.1, by omega⟩ f4
    obtain ⟨e6, f6, g6⟩ := P6.get _ _ ho.at' f5
    obtain ⟨e7, f7, g7⟩ := P7.get _ _ ho.to f6
    obtain ⟨e8, f8, g8⟩ := P8.get _ _ f7
    obtain ⟨e9, f9, g9⟩ := P9.get _ _ f8
    obtain ⟨e10, f10, g10⟩ := P10.get _ _ (by omega) f9
    obtain ⟨e11, f11, g11⟩ := P11.get _ _ (by omega) f10
    obtain ⟨e12, f12, g12⟩ := P12.get c'.fSpan [] (by omega) (by omega) f11
    refine ⟨?_, by rw [g12, g11, g10, g9, g8, g7, g6, g5, g4, g3, g2, g1], f12⟩
    subst e1 e2 e3 e4 e5 e6 e7 e8 e9 e10 e11 e12
    rfl
  have hT12 := hI2.trans hI3
  have hT : TCmdV I3 (⟨k, tx, sq, at', to', by', ys, dl, ky, vl, sp, mo⟩ : TCmd) [.int .i64 k, .int .i64 tx, .int .i64 sq, .int .i64 at'.fWall, .int .i64 at'.fLogic, .int .i64 to'.fWall, .int .i64 to'.fLogic, .int .i64 by', .bool ys, .bool dl, .slice a10 ky.length k10, .slice a11 vl.length k11, .slice a12 sp.fFrom.length k12, .slice a13 sp.fTo.length k13, .int .i64 mo] := ⟨_, _, _, _, rfl, T10.mono hT12, T11.mono hI3, g0, g1⟩
  have hI03 := hI1.trans hT12
  generalize hcc : (⟨k, tx, sq, at', to', by', ys, dl, ky, vl, sp, mo⟩ : TCmd) = cm at *
  have hLn : Lens cm := by subst hcc; exact ⟨by simp only; omega, by simp only; omega, by simp only; omega, by simp only; omega⟩
  have bad : ∀ I', Ext I3 I' → (rightP cm = false ∨ (!d12 && c12.length == 0) = false ∨ encB cm ≠ b) → K (.tuple #[cmdZ, .int .i64 140]) I' L := by
    intro I' hI' h
    refine hk2 I' (hI03.trans hI') (fun c' h1 h2 => ?_)
    obtain ⟨e1, e2, e3⟩ := hinv c' h1 h2
    subst e1
    rcases h with h | h | h
    · rw [h] at h1; cases h1
    · rw [e2, e3] at h; simp at h
    · exact h h2
  refine call (encode_spec hT hLn (fun hr => ?_) (fun hr u I4 hI4 hU => ?_))
  · repeat' (first | (with_reducible refine drawC ?_) | (with_reducible refine drawW1 ?_) | (with_reducible refine drawW2 ?_) | (with_reducible refine keepC (by repeat (first | exact Ext.refl _ | assumption | refine Ext.trans ?_ (by assumption))) ?_) | (with_reducible refine newI (fun _ => ?_)) | ((with_reducible refine call ?_); refine (Cal.pick r (rwhole_spec B12 ?_))) | first | (with_reducible refine rdb ?_) | ((with_reducible refine st1 ?_ ?_); rfl) | ((with_reducible refine rdB ?_ ?_); rfl) | (with_reducible refine rdbS ?_) | ((with_reducible refine rdBS ?_ ?_); rfl) | ((with_reducible refine stB ?_ ?_ ?_ ?_); rfl; rfl; exact one_all rfl) | ((with_reducible refine rdP _ rfl ?_ ?_); rfl) | ((with_reducible refine rdPS _ rfl ?_ ?_); rfl) | ((with_reducible refine stP _ rfl ?_ ?_ ?_ ?_); rfl; rfl; rfl) | (with_reducible refine unfE (sh21_1.eq_1 ..) ?_) | (with_reducible refine unfE (sh21.eq_1 ..) ?_) | (with_reducible refine And.intro ?_ ?_) | (simp only [Bool.not_true, Bool.not_false, Bool.and_self, Bool.true_and, Int.reduceBEq, Int.reduceBNe, Int.reduceLT, Int.reduceLE, decide_true, decide_false, Br_true, Br_false, Gd_tt, Gd_ft, Gd_tf, Gd_ff, beq_self_eq_true, bne_self_eq_false]) | (with_reducible refine gd_split (fun _ => ?_) (fun _ => ?_)) | (with_reducible refine br_split (fun _ => ?_) (fun _ => ?_)) | (simp only [SSd, Nat.reduceAdd]))
    all_goals exact Gh.to L (Gh.done (bad I3 (Ext.refl _) (.inl hr)))
  · repeat' (first | (with_reducible refine drawC ?_) | (with_reducible refine drawW1 ?_) | (with_reducible refine drawW2 ?_) | (with_reducible refine keepC (by repeat (first | exact Ext.refl _ | assumption | refine Ext.trans ?_ (by assumption))) ?_) | (with_reducible refine newI (fun _ => ?_)) | ((with_reducible refine call ?_); refine (Cal.pick r (rwhole_spec (B12.mono hI4) ?_))) | ((with_reducible refine call ?_); refine (equal_spec hU ((((hB.mono hI1).mono hI2).mono hI3).mono hI4) ?_)) | first | (with_reducible refine rdb ?_) | ((with_reducible refine st1 ?_ ?_); rfl) | ((with_reducible refine rdB ?_ ?_); rfl) | (with_reducible refine rdbS ?_) | ((with_reducible refine rdBS ?_ ?_); rfl) | ((with_reducible refine stB ?_ ?_ ?_ ?_); rfl; rfl; exact one_all rfl) | ((with_reducible refine rdP _ rfl ?_ ?_); rfl) | ((with_reducible refine rdPS _ rfl ?_ ?_); rfl) | ((with_reducible refine stP _ rfl ?_ ?_ ?_ ?_); rfl; rfl; rfl) | (with_reducible refine unfE (sh21_1.eq_1 ..) ?_) | (with_reducible refine unfE (sh21.eq_1 ..) ?_) | (with_reducible refine And.intro ?_ ?_) | (simp only [Bool.not_true, Bool.not_false, Bool.and_self, Bool.true_and, Int.reduceBEq, Int.reduceBNe, Int.reduceLT, Int.reduceLE, decide_true, decide_false, Br_true, Br_false, Gd_tt, Gd_ft, Gd_tf, Gd_ff, beq_self_eq_true, bne_self_eq_false]) | (with_reducible refine gd_split (fun _ => ?_) (fun _ => ?_)) | (with_reducible refine br_split (fun _ => ?_) (fun _ => ?_)) | (simp only [SSd, Nat.reduceAdd]))
    · rename_i e
      exact Gh.to L (Gh.done (bad I4 hI4 (.inr (.inr (by simpa using e)))))
    · rename_i e
      exact Gh.to L (Gh.done (hk1 cm _ I4 (hI03.trans hI4) (hT.mono hI4) hr (by simpa using e)))
    · rename_i e
      exact Gh.to L (Gh.done (bad I4 hI4 (.inr (.inl (by simpa using e)))))
end
end Go.Proofs.YtmmfcgbfbcamcaaGreatDoor
-- S3
set_option linter.unusedSimpArgs false
set_option linter.unusedVariables false
namespace Go.Proofs.YtmmfcgbfbcamcaaGreatDoor
open Go.SL
set_option maxRecDepth 10000
def cmdP : TCmd := ⟨3, 1, 1, z0, z0, 0, false, false, [97], [120], ⟨[], []⟩, 0⟩
def cmdG : TCmd := ⟨1, 1, 0, z0, z0, 0, false, false, [97], [], ⟨[], []⟩, 0⟩
def sp00 : TSpan := ⟨[], []⟩
theorem cmdP_r : rightP cmdP = true := by decide
theorem cmdG_r : rightP cmdG = true := by decide
theorem doM3 {m : Mch} {c : TCmd} (h : rightP c = true) (hk : c.fKind = 3) : applyM m c = noSplit (putM m c) := by
  unfold applyM; rw [if_neg (by simp [h])]; unfold doM; simp [hk]
theorem doM1 {m : Mch} {c : TCmd} (h : rightP c = true) (hk : c.fKind = 1) : applyM m c = noSplit (getM m c) := by
  unfold applyM; rw [if_neg (by simp [h])]; unfold doM; simp [hk]
theorem awakeP : (putM (mch0 sp00) cmdP).1.fCode = 0 := by decide
theorem awakeM : (putM (mch0 sp00) cmdP).2.marks = [] := by decide
theorem awakeG : (getM (putM (mch0 sp00) cmdP).2 cmdG).1.fCode = 0 ∧ (getM (putM (mch0 sp00) cmdP).2 cmdG).1.fGot.fValue = [120] := by decide
section
variable {ω : Om} {I : Imm} {L : LH} {K : Value → M}
theorem lit1 {c : UInt8} (hk : ∀ u I', Ext I I' → Bytes I' u [c] → K u I' L) : BldS 5 1 #[.int .u8 0] 1 [(0, .int .u8 c.toNat)] (gh fun v => MrkS v (gh K)) I L := by
  refine bld_oneG rfl (by omega) rfl (fun X u hX => Gh.done ?_)
  have hX' : OB X u [c] := by unfold OB; simpa [Value.cells, u8s] using hX
  by_cases h0 : X = []
  · subst h0
    exfalso
    obtain ⟨_, h⟩ := hX'
    rcases h with ⟨_, h, _⟩ | ⟨b, cap, cs, h, _⟩
    · simp at h
    · cases h
  · exact mrk_own hX' h0 (fun I' hI hS => hk u I' hI hS)
theorem awake_spec (hk : ∀ I', Ext I I' → K (.bool true) I' L) : Cal Tryz.prog ω 10 #[] K I L := by
  refine cal10 ?_
  unfold sh10
  try simp only [SSd, Nat.reduceAdd]
  refine call (newR_spec (p := sp00) ⟨_, _, rfl, bnil I, bnil I⟩ (fun h => by cases h) (fun _ b X I1 hI1 hX => ?_))
  try simp only [SSd, Nat.reduceAdd]
  refine lit1 (c := 97) (fun u1 I2 hI2 hB2 => ?_)
  refine lit1 (c := 120) (fun u2 I3 hI3 hB3 => ?_)
  obtain ⟨a1, k1, rfl⟩ := Bytes.form hB2
  obtain ⟨a2, k2, rfl⟩ := Bytes.form hB3
  try simp only [SSd, Nat.reduceAdd]
  have e1 := doM3 (m := mch0 sp00) cmdP_r rfl
  have hM0 := mch0_ok (p := sp00) (by decide)
  have hM1 := applyM_ok (c := cmdP) hM0
  rw [e1] at hM1
  refine call (apply_spec (c := cmdP) hM0 (by omega) (hX.mono (hI2.trans hI3)) ⟨_, _, _, _, rfl, hB2.mono hI3, hB3, bnil I3, bnil I3⟩ ⟨by decide, by decide, by decide, by decide⟩ (fun h => by cases h) (fun h => by cases h) (fun I4 X1 cells hI4 hX1 hr => ?_))
  rw [e1] at hX1 hr ⊢
  refine ⟨fun _ => ?_, fun m2 b2 X2 h => by cases h⟩
  replace hX1 : MchR I4 b X1 (putM (mch0 sp00) cmdP).2 := hX1
  replace hr : TResV I4 (putM (mch0 sp00) cmdP).1 cells := hr
  replace hM1 : MOk (putM (mch0 sp00) cmdP).2 (0 + 1) := hM1.2.1
  have hP := awakeP
  have hPm := awakeM
  have hG := awakeG
  generalize (putM (mch0 sp00) cmdP).1 = r1 at *
  generalize (putM (mch0 sp00) cmdP).2 = m1 at *
  have hr1 := hr.one
  obtain ⟨y0, y1, rfl, t0, t1⟩ := id hr
  try simp only [SSd, Nat.reduceAdd]
  refine newI (fun q1 => ?_)
  refine stB rfl rfl hr1 ?_
  refine lit1 (c := 97) (fun u3 I5 hI5 hB5 => ?_)
  obtain ⟨a3, k3, rfl⟩ := Bytes.form hB5
  try simp only [SSd, Nat.reduceAdd]
  have e2 := doM1 (m := m1) cmdG_r rfl
  have hfl : fullB m1 cmdG.fKey = false := by unfold fullB; rw [hPm]; rfl
  refine call (Cal.split X1 (apply_spec (c := cmdG) hM1 (by omega) (hX1.mono hI5) ⟨_, _, _, _, rfl, hB5, bnil I5, bnil I5, bnil I5⟩ ⟨by decide, by decide, by decide, by decide⟩ (fun h => by rw [hfl] at h; cases h) (fun h => by cases h) (fun I6 X2 cells2 hI6 hX2 hr2 => ?_)))
  rw [e2] at hX2 hr2 ⊢
  refine ⟨fun _ => ?_, fun m2 b2 X2 h => by cases h⟩
  replace hr2 : TResV I6 (getM m1 cmdG).1 cells2 := hr2
  generalize (getM m1 cmdG).1 = r2 at *
  have hr3 := hr2.one
  obtain ⟨z1, z2, rfl, s0, s1⟩ := id hr2
  try simp only [SSd, Nat.reduceAdd]
  refine newI (fun q2 => ?_)
  refine stB rfl rfl hr3 ?_
  have hI06 := hI1.trans (hI2.trans (hI3.trans (hI4.trans (hI5.trans hI6))))
  rw [hG.2] at s0
  repeat' (first | (with_reducible refine drawC ?_) | (with_reducible refine drawW1 ?_) | (with_reducible refine drawW2 ?_) | (with_reducible refine keepC (by repeat (first | exact Ext.refl _ | assumption | refine Ext.trans ?_ (by assumption))) ?_) | (with_reducible refine newI (fun _ => ?_)) | (with_reducible refine bs_N s0 (Ext.refl _) ?_) | first | (with_reducible refine rdb ?_) | ((with_reducible refine st1 ?_ ?_); rfl) | ((with_reducible refine rdB ?_ ?_); rfl) | (with_reducible refine rdbS ?_) | ((with_reducible refine rdBS ?_ ?_); rfl) | ((with_reducible refine stB ?_ ?_ ?_ ?_); rfl; rfl; exact one_all rfl) | ((with_reducible refine rdP _ rfl ?_ ?_); rfl) | ((with_reducible refine rdPS _ rfl ?_ ?_); rfl) | ((with_reducible refine stP _ rfl ?_ ?_ ?_ ?_); rfl; rfl; rfl) | (with_reducible refine unfE (sh10.eq_1 ..) ?_) | (with_reducible refine And.intro ?_ ?_) | (simp only [Bool.not_true, Bool.not_false, Bool.and_self, Bool.true_and, Int.reduceBEq, Int.reduceBNe, Int.reduceLT, Int.reduceLE, decide_true, decide_false, Br_true, Br_false, Gd_tt, Gd_ft, Gd_tf, Gd_ff, beq_self_eq_true, bne_self_eq_false]) | (with_reducible refine gd_split (fun _ => ?_) (fun _ => ?_)) | (with_reducible refine br_split (fun _ => ?_) (fun _ => ?_)) | (simp only [SSd, Nat.reduceAdd, hP, hG.1]))
  exact Gh.to L (Gh.done (hk I6 hI06))
end
end Go.Proofs.YtmmfcgbfbcamcaaGreatDoor
-- S3
set_option linter.unusedSimpArgs false
set_option linter.unusedVariables false
namespace Go.Proofs.YtmmfcgbfbcamcaaGreatDoor
open Go.SL
set_option maxRecDepth 10000
section
variable {ω : Om} {I : Imm} {L : LH} {K : Value → M}
end
end Go.Proofs.YtmmfcgbfbcamcaaGreatDoor
-- S3
set_option linter.unusedSimpArgs false
set_option linter.unusedVariables false
namespace Go.Proofs.YtmmfcgbfbcamcaaGreatDoor
open Go.SL
set_option maxRecDepth 10000
section
variable {ω : Om} {I : Imm} {L : LH} {K : Value → M}
end
end Go.Proofs.YtmmfcgbfbcamcaaGreatDoor
-- S3
set_option linter.unusedSimpArgs false
set_option linter.unusedVariables false
namespace Go.Proofs.YtmmfcgbfbcamcaaGreatDoor
open Go.SL
set_option maxRecDepth 10000
section
variable {ω : Om} {I : Imm} {L : LH} {K : Value → M}
theorem cnt_spec {a : Int} (hk : K (.bool (maxB a)) I L) : Cal Tryz.prog ω 125 #[.int .i64 a] K I L := by
  refine cal125 ?_
  unfold sh125
  repeat' (first | (with_reducible refine drawC ?_) | (with_reducible refine drawW1 ?_) | (with_reducible refine drawW2 ?_) | (with_reducible refine keepC (by repeat (first | exact Ext.refl _ | assumption | refine Ext.trans ?_ (by assumption))) ?_) | (with_reducible refine newI (fun _ => ?_)) | first | (with_reducible refine rdb ?_) | ((with_reducible refine st1 ?_ ?_); rfl) | ((with_reducible refine rdB ?_ ?_); rfl) | (with_reducible refine rdbS ?_) | ((with_reducible refine rdBS ?_ ?_); rfl) | ((with_reducible refine stB ?_ ?_ ?_ ?_); rfl; rfl; exact one_all rfl) | ((with_reducible refine rdP _ rfl ?_ ?_); rfl) | ((with_reducible refine rdPS _ rfl ?_ ?_); rfl) | ((with_reducible refine stP _ rfl ?_ ?_ ?_ ?_); rfl; rfl; rfl) | (with_reducible refine unfE (sh125.eq_1 ..) ?_) | (with_reducible refine And.intro ?_ ?_) | (simp only [Bool.not_true, Bool.not_false, Bool.and_self, Bool.true_and, Int.reduceBEq, Int.reduceBNe, Int.reduceLT, Int.reduceLE, decide_true, decide_false, Br_true, Br_false, Gd_tt, Gd_ft, Gd_tf, Gd_ff, beq_self_eq_true, bne_self_eq_false]) | (with_reducible refine gd_split (fun _ => ?_) (fun _ => ?_)) | (with_reducible refine br_split (fun _ => ?_) (fun _ => ?_)) | (simp only [SSd, Nat.reduceAdd]))
  all_goals (refine Gh.done (leafB hk ?_); simp_all [maxB] <;> omega)
abbrev resC (r : TRes) (v0 v1 : Value) : List Value := [.int .i64 r.fCode, .bool r.fGot.fFound, v0, .int .i64 r.fGot.fAt.fWall, .int .i64 r.fGot.fAt.fLogic, .int .i64 r.fGot.fBy, v1, .int .i64 r.fAt.fWall, .int .i64 r.fAt.fLogic, .int .i64 r.fBy, .int .i64 r.fState]
def ansQ (r : TRes) : Bool := decide (0 ≤ r.fCode ∧ r.fCode ≤ 999) && decide (0 ≤ r.fState ∧ r.fState ≤ 3) && maxB r.fBy && maxB r.fGot.fBy && rightB r.fAt && rightB r.fGot.fAt && decide (r.fGot.fValue.length ≤ 10000) && decide (r.fRows.length ≤ 90)
theorem ansP_Q (r : TRes) : ansP r = (r.fRows.all rowB && ansQ r) := by
  unfold ansP ansQ
  simp only [Bool.and_assoc]
theorem answer_spec {r : TRes} {cc : List Value} (hc : TResV I r cc) (hl : r.fRows.length ≤ 1000000000) (hk : K (.bool (ansP r)) I L) : Cal Tryz.prog ω 78 #[.agg cc.toArray] K I L := by
  obtain ⟨v0, v1, rfl, g0, g1⟩ := hc
  rw [ansP_Q] at hk
  refine cal78 ?_
  unfold sh78
  refine newI (fun b1 => ?_)
  try simp only [SSd, Nat.reduceAdd]
  refine rdb ?_
  simp only [RL.len g1, SSd, Nat.reduceAdd]
  refine loop (fun n (s : Value × Value × Unit) I' L' => I' = I ∧ L' = (b1, .cells (resC r v0 v1).toArray 52 (0, 0)) :: L ∧ ∃ i : Nat, n + i = r.fRows.length ∧ s = (.bool false, .int .i64 i, ()) ∧ ∀ x ∈ r.fRows.take i, rowB x = true) r.fRows.length ⟨rfl, rfl, 0, rfl, rfl, by simp⟩ ?_
  rintro n s I' L' ⟨rfl, rfl, i, hn, rfl, hi⟩
  unfold sh78_1
  try simp only [SSd, Nat.reduceAdd]
  refine br_split (fun e => ?_) (fun e => ?_)
  · have hlt : i < r.fRows.length := by simpa using e
    obtain ⟨bx, off, cx, hix, hcl, hcx, hcc⟩ := RL.ix g1 (i := (i : Int)) (by omega) (by omega)
    rw [geti_nat hlt] at hcx
    have hmem : r.fRows[i] ∈ r.fRows := List.getElem_mem hlt
    have hsn := take_snoc hlt
    generalize r.fRows[i] = x at *
    obtain ⟨x0, x1, rfl, k0, k1⟩ := hcx
    obtain ⟨a0, c0, rfl⟩ := Bytes.form k0
    obtain ⟨a1, c1, rfl⟩ := Bytes.form k1
    have bad : rowB x = false → K (.bool false) I' L := by
      intro h
      have h0 : r.fRows.all rowB = false := by
        rw [List.all_eq_false]; exact ⟨x, hmem, by simp [h]⟩
      rw [h0] at hk; exact hk
    simp only [hix, SSd, Nat.reduceAdd]
    refine rdN hcl (hcc I' _ (Ext.refl _) (fun x hx => by cases hx)) ?_
    have w64 : IntKind.i64.wrap ((i : Int) + 1) = ((i + 1 : Nat) : Int) := by rw [wrap_i64 _ (by omega)]; rfl
    repeat' (first | (with_reducible refine drawC ?_) | (with_reducible refine drawW1 ?_) | (with_reducible refine drawW2 ?_) | (with_reducible refine keepC (by repeat (first | exact Ext.refl _ | assumption | refine Ext.trans ?_ (by assumption))) ?_) | (with_reducible refine newI (fun _ => ?_)) | ((with_reducible refine call ?_); refine (pkey_spec k0 ?_)) | first | (with_reducible refine rdb ?_) | ((with_reducible refine st1 ?_ ?_); rfl) | ((with_reducible refine rdB ?_ ?_); rfl) | (with_reducible refine rdbS ?_) | ((with_reducible refine rdBS ?_ ?_); rfl) | ((with_reducible refine stB ?_ ?_ ?_ ?_); rfl; rfl; exact one_all rfl) | ((with_reducible refine rdP _ rfl ?_ ?_); rfl) | ((with_reducible refine rdPS _ rfl ?_ ?_); rfl) | ((with_reducible refine stP _ rfl ?_ ?_ ?_ ?_); rfl; rfl; rfl) | (with_reducible refine unfE (sh78_4.eq_1 ..) ?_) | (with_reducible refine unfE (sh78_1.eq_1 ..) ?_) | (with_reducible refine unfE (sh78.eq_1 ..) ?_) | (with_reducible refine And.intro ?_ ?_) | (simp only [Bool.not_true, Bool.not_false, Bool.and_self, Bool.true_and, Int.reduceBEq, Int.reduceBNe, Int.reduceLT, Int.reduceLE, decide_true, decide_false, Br_true, Br_false, Gd_tt, Gd_ft, Gd_tf, Gd_ff, beq_self_eq_true, bne_self_eq_false]) | (with_reducible refine gd_split (fun _ => ?_) (fun _ => ?_)) | (with_reducible refine br_split (fun _ => ?_) (fun _ => ?_)) | (simp only [SSd, Nat.reduceAdd]))
    · rename_i e1 e2
      exact Gh.to L (Gh.done (bad (by unfold rowB; simp at e2; rw [Bool.and_eq_false_iff]; right; simp; omega)))
    · rename_i e1 e2
      rw [w64]
      refine Gh.to ((b1, .cells (resC r v0 v1).toArray 52 (0, 0)) :: L) (Gh.done ⟨n - 1, by omega, rfl, rfl, i + 1, by omega, rfl, fun y hy => ?_⟩)
      rw [hsn] at hy
      rcases List.mem_append.1 hy with hy | hy
      · exact hi y hy
      · simp only [List.mem_singleton] at hy
        subst hy
        unfold rowB; simp at e1 e2; rw [e1]; simp; omega
    · rename_i e1
      exact Gh.to L (Gh.done (bad (by unfold rowB; simp at e1; rw [e1, Bool.false_and])))
  · have hi2 : i = r.fRows.length := by simp at e; omega
    rw [hi2, List.take_length] at hi
    have h0 : r.fRows.all rowB = true := List.all_eq_true.2 hi
    rw [h0, Bool.true_and] at hk
    repeat' (first | (with_reducible refine drawC ?_) | (with_reducible refine drawW1 ?_) | (with_reducible refine drawW2 ?_) | (with_reducible refine keepC (by repeat (first | exact Ext.refl _ | assumption | refine Ext.trans ?_ (by assumption))) ?_) | (with_reducible refine newI (fun _ => ?_)) | ((with_reducible refine call ?_); with_reducible refine hright_spec (x := r.fAt) ?_) | ((with_reducible refine call ?_); with_reducible refine hright_spec (x := r.fGot.fAt) ?_) | (with_reducible refine calV_fn (by kernel_rfl) ?_) | ((with_reducible refine call ?_); with_reducible refine cnt_spec ?_) | first | (with_reducible refine rdb ?_) | ((with_reducible refine st1 ?_ ?_); rfl) | ((with_reducible refine rdB ?_ ?_); rfl) | (with_reducible refine rdbS ?_) | ((with_reducible refine rdBS ?_ ?_); rfl) | ((with_reducible refine stB ?_ ?_ ?_ ?_); rfl; rfl; exact one_all rfl) | ((with_reducible refine rdP _ rfl ?_ ?_); rfl) | ((with_reducible refine rdPS _ rfl ?_ ?_); rfl) | ((with_reducible refine stP _ rfl ?_ ?_ ?_ ?_); rfl; rfl; rfl) | (with_reducible refine unfE (sh78_4.eq_1 ..) ?_) | (with_reducible refine unfE (sh78_1.eq_1 ..) ?_) | (with_reducible refine unfE (sh78.eq_1 ..) ?_) | (with_reducible refine And.intro ?_ ?_) | (simp only [Bool.not_true, Bool.not_false, Bool.and_self, Bool.true_and, Int.reduceBEq, Int.reduceBNe, Int.reduceLT, Int.reduceLE, decide_true, decide_false, Br_true, Br_false, Gd_tt, Gd_ft, Gd_tf, Gd_ff, beq_self_eq_true, bne_self_eq_false]) | (with_reducible refine gd_split (fun _ => ?_) (fun _ => ?_)) | (with_reducible refine br_split (fun _ => ?_) (fun _ => ?_)) | (simp only [SSd, Nat.reduceAdd, Bytes.len g0, RL.len g1]))
    all_goals (clear hi h0; refine Gh.to L (Gh.done (leafB hk ?_)); simp_all [ansQ])
    all_goals first | done | (intros; omega) | (rw [Bool.eq_iff_iff]; simp; done) | (rw [Bool.eq_iff_iff]; simp; omega) | trace_state
def rowE (x : TKV) : List UInt8 := txtB x.fKey ++ txtB x.fValue
def encR (r : TRes) : List UInt8 := nB r.fCode ++ (nB r.fState ++ (nB r.fBy ++ (nB r.fGot.fBy ++ (stmB r.fAt ++ (stmB r.fGot.fAt ++ (bitB r.fGot.fFound ++ (txtB r.fGot.fValue ++ (nB r.fRows.length ++ r.fRows.flatMap rowE))))))))
structure AnsOk (r : TRes) : Prop where
  rows : ∀ x ∈ r.fRows, 1 ≤ x.fKey.length ∧ x.fKey.length ≤ 110 ∧ x.fValue.length ≤ 10000
  code : 0 ≤ r.fCode ∧ r.fCode ≤ 999
  state : 0 ≤ r.fState ∧ r.fState ≤ 3
  by' : maxI r.fBy
  gby : maxI r.fGot.fBy
  at' : rightB r.fAt = true
  gat : rightB r.fGot.fAt = true
  val : r.fGot.fValue.length ≤ 10000
  len : r.fRows.length ≤ 90
theorem ansP_ok {r : TRes} (h : ansP r = true) : AnsOk r := by
  simp only [ansP, Bool.and_eq_true, List.all_eq_true, decide_eq_true_eq] at h
  obtain ⟨⟨⟨⟨⟨⟨⟨⟨h1, h2⟩, h3⟩, h4⟩, h5⟩, h6⟩, h7⟩, h8⟩, h9⟩ := h
  refine ⟨fun x hx => ?_, h2, h3, maxB_iff.1 h4, maxB_iff.1 h5, h6, h7, h8, h9⟩
  have := h1 x hx
  simp only [rowB, keyOk, Bool.and_eq_true, decide_eq_true_eq] at this
  omega
theorem rowE_len {x : TKV} (h1 : x.fKey.length ≤ 110) (h2 : x.fValue.length ≤ 10000) : (rowE x).length ≤ 10200 := by
  have := txtB_len (b := x.fKey) (by omega)
  have := txtB_len (b := x.fValue) (by omega)
  simp only [rowE, List.length_append]; omega
theorem rowsE_len : ∀ {l : List TKV}, (∀ x ∈ l, x.fKey.length ≤ 110 ∧ x.fValue.length ≤ 10000) → (l.flatMap rowE).length ≤ 10200 * l.length
  | [], _ => by simp
  | x :: l, h => by
    have h1 := rowE_len (h x (List.mem_cons_self ..)).1 (h x (List.mem_cons_self ..)).2
    have h2 := rowsE_len (l := l) (fun y hy => h y (List.mem_cons_of_mem _ hy))
    simp only [List.flatMap_cons, List.length_append, List.length_cons]; omega
theorem ansb_spec {r : TRes} {cc : List Value} (hc : TResV I r cc) (hl : r.fRows.length ≤ 1000000000) (h0 : ansP r = false → K (.tuple #[.slice none 0 0, .int .i64 140]) I L)
    (hk : ansP r = true → ∀ u I', Ext I I' → Bytes I' u (encR r) → K (.tuple #[u, .int .i64 0]) I' L) : Cal Tryz.prog ω 23 #[.agg cc.toArray] K I L := by
  have hc' := hc
  obtain ⟨v0, v1, rfl, g0, g1⟩ := hc
  refine cal23 ?_
  unfold sh23
  refine newI (fun b1 => ?_)
  refine rdB rfl ?_
  refine call (answer_spec hc' hl ?_)
  try simp only [SSd, Nat.reduceAdd]
  refine br_split (fun e => ?_) (fun e => ?_)
  · exact Gh.to L (Gh.done (h0 (by simpa using e)))
  have hr : ansP r = true := by simpa using e
  have ho := ansP_ok hr
  have hcd := ho.code
  have hst := ho.state
  have hvl := ho.val
  have hln := ho.len
  have mk : maxI r.fCode := ⟨by omega, by omega⟩
  have ms : maxI r.fState := ⟨by omega, by omega⟩
  have n1 := numsI_len (l := [r.fCode, r.fState, r.fBy, r.fGot.fBy]) (by simp [mk, ms, ho.by', ho.gby])
  have n2 := stmB_len ho.at'
  have n3 := stmB_len ho.gat
  have n4 := bitB_len r.fGot.fFound
  have n6 := txtB_len (b := r.fGot.fValue) (by omega)
  have mn : maxI (r.fRows.length : Int) := ⟨by omega, by omega⟩
  have n7 := numsI_len (l := [(r.fRows.length : Int)]) (by simp [mn])
  simp only [List.length_cons, List.length_nil] at n1 n7
  refine newI (fun w => ?_)
  try simp only [SSd, Nat.reduceAdd]
  refine rdb ?_
  try simp only [SSd, Nat.reduceAdd]
  refine rdb ?_
  try simp only [SSd, Nat.reduceAdd]
  refine rdb ?_
  try simp only [SSd, Nat.reduceAdd]
  refine rdb ?_
  refine bldI4 (fun u1 J1 hJ1 hU1 => ?_)
  refine call (nums_spec (Y := []) (l := []) (SlO.none _ 1) hU1 (by simp [mk, ms, ho.by', ho.gby]) (by simp) (fun Y1 x1 I1 hI1 hO1 => ?_))
  rw [List.nil_append] at hO1
  try simp only [SSd, Nat.reduceAdd]
  refine rdP _ rfl rfl ?_
  refine call (wstamp_spec (x := r.fAt) hO1 ho.at' (by omega) (fun Y2 x2 I2 hI2 hO2 => ?_))
  try simp only [SSd, Nat.reduceAdd]
  refine rdP _ rfl rfl ?_
  refine call (wstamp_spec (x := r.fGot.fAt) hO2 ho.gat (by simp only [List.length_append]; omega) (fun Y3 x3 I3 hI3 hO3 => ?_))
  try simp only [SSd, Nat.reduceAdd]
  refine rdb ?_
  refine call (wtruth_spec hO3 (by simp only [List.length_append]; omega) (fun Y4 x4 I4 hI4 hO4 => ?_))
  have t4 := hJ1.trans (hI1.trans (hI2.trans (hI3.trans hI4)))
  try simp only [SSd, Nat.reduceAdd]
  refine rdb ?_
  refine call (wtext_spec hO4 (g0.mono t4) (by simp only [List.length_append]; omega) (by omega) (fun Y5 x5 I5 hI5 hO5 => ?_))
  try simp only [SSd, Nat.reduceAdd]
  refine rdb ?_
  simp only [RL.len g1, SSd, Nat.reduceAdd]
  refine bldI1 (fun u6 J6 hJ6 hU6 => ?_)
  refine call (nums_spec hO5 hU6 (by simp [mn]) (by simp only [List.length_append, List.length_singleton]; omega) (fun Y6 x6 I6 hI6 hO6 => ?_))
  have t6 := t4.trans (hI5.trans (hJ6.trans hI6))
  try simp only [SSd, Nat.reduceAdd]
  refine rdb ?_
  simp only [RL.len g1, SSd, Nat.reduceAdd]
  have hpre : (numsI [r.fCode, r.fState, r.fBy, r.fGot.fBy] ++ stmB r.fAt ++ stmB r.fGot.fAt ++ bitB r.fGot.fFound ++ txtB r.fGot.fValue ++ numsI [(r.fRows.length : Int)]).length ≤ 20000 := by
    simp only [List.length_append]; omega
  have hall : encR r = (numsI [r.fCode, r.fState, r.fBy, r.fGot.fBy] ++ stmB r.fAt ++ stmB r.fGot.fAt ++ bitB r.fGot.fFound ++ txtB r.fGot.fValue ++ numsI [(r.fRows.length : Int)]) ++ r.fRows.flatMap rowE := by
    simp [encR, numsI]
  rw [hall] at hk
  generalize (numsI [r.fCode, r.fState, r.fBy, r.fGot.fBy] ++ stmB r.fAt ++ stmB r.fGot.fAt ++ bitB r.fGot.fFound ++ txtB r.fGot.fValue ++ numsI [(r.fRows.length : Int)]) = pre at *
  refine loop (fun n (s : Value × Unit) I' L' => ∃ (i : Nat) (Y' : LH) (x' : Value), n + i = r.fRows.length ∧ s = (.int .i64 i, ()) ∧ Ext I6 I' ∧ OB Y' x' (pre ++ (r.fRows.take i).flatMap rowE) ∧ L' = (w, wrO x') :: (Y' ++ ((b1, .cells (resC r v0 v1).toArray 52 (0, 0)) :: L))) r.fRows.length ⟨0, Y6, x6, rfl, rfl, Ext.refl _, by simpa using hO6, rfl⟩ ?_
  rintro n s I' L' ⟨i, Y', x', hn, rfl, hI', hO', rfl⟩
  unfold sh23_1
  try simp only [SSd, Nat.reduceAdd]
  refine br_split (fun e => ?_) (fun e => ?_)
  · have hlt : i < r.fRows.length := by simpa using e
    obtain ⟨bx, off, cx, hix, hcl, hcx, hcc⟩ := RL.ix g1 (i := (i : Int)) (by omega) (by omega)
    rw [geti_nat hlt] at hcx
    have hmem := ho.rows _ (List.getElem_mem hlt)
    have hsn := take_snoc hlt
    have hlen : (pre ++ (r.fRows.take i).flatMap rowE).length ≤ 2000000 := by
      have := rowsE_len (l := r.fRows.take i) (fun x hx => by have := ho.rows x (List.mem_of_mem_take hx); omega)
      rw [List.length_take] at this
      rw [List.length_append]; omega
    generalize r.fRows[i] = x at *
    obtain ⟨y0, y1, rfl, k0, k1⟩ := hcx
    obtain ⟨a0, c0, rfl⟩ := Bytes.form k0
    obtain ⟨a1, c1, rfl⟩ := Bytes.form k1
    have n8 := txtB_len (b := x.fKey) (by omega)
    simp only [hix, SSd, Nat.reduceAdd]
    refine rdN hcl (hcc I' _ (t6.trans hI') (fun x hx => by cases hx)) ?_
    refine newI (fun bq => ?_)
    refine stB rfl rfl (one_all rfl) ?_
    try simp only [SSd, Nat.reduceAdd]
    refine rdb ?_
    refine call (Cal.perm (L' := (w, wrO x') :: (Y' ++ ((bq, .cells #[.slice a0 x.fKey.length c0, .slice a1 x.fValue.length c1] 113 (0, 0)) :: (b1, .cells (resC r v0 v1).toArray 52 (0, 0)) :: L))) (ms_perm (by ((try simp only [ms_cons, ms_app, ms_nil, ms_nil']); (try ac_rfl)))) (wtext_spec hO' (k0.mono (t6.trans hI')) (by omega) (by omega) (fun Y8 x8 I8 hI8 hO8 => ?_)))
    try simp only [SSd, Nat.reduceAdd]
    refine rdb ?_
    refine call (wtext_spec hO8 (k1.mono ((t6.trans hI').trans hI8)) (by rw [List.length_append]; omega) (by omega) (fun Y9 x9 I9 hI9 hO9 => ?_))
    try simp only [SSd, Nat.reduceAdd]
    rw [wrap_i64 _ (by omega)]
    refine Gh.to ((w, wrO x9) :: (Y9 ++ ((b1, .cells (resC r v0 v1).toArray 52 (0, 0)) :: L))) (Gh.done ⟨n - 1, by omega, i + 1, Y9, x9, by omega, rfl, hI'.trans (hI8.trans hI9), ?_, rfl⟩)
    have e9 : pre ++ (r.fRows.take (i + 1)).flatMap rowE = pre ++ (r.fRows.take i).flatMap rowE ++ txtB x.fKey ++ txtB x.fValue := by
      rw [hsn, List.flatMap_append]; simp [rowE]
    rw [e9]; exact hO9
  · have hi2 : i = r.fRows.length := by simp at e; omega
    rw [hi2, List.take_length] at hO'
    unfold sh23_3
    try simp only [SSd, Nat.reduceAdd]
    refine rdb ?_
    refine Gh.to (Y' ++ L) (OB.freeze hO' (fun I9 hI9 hB9 => Gh.done ?_))
    exact hk hr x' I9 (t6.trans (hI'.trans hI9)) hB9
end
end Go.Proofs.YtmmfcgbfbcamcaaGreatDoor
-- S3
set_option linter.unusedSimpArgs false
set_option linter.unusedVariables false
namespace Go.Proofs.YtmmfcgbfbcamcaaGreatDoor
open Go.SL
set_option maxRecDepth 10000
section
variable {ω : Om} {I : Imm} {L : LH} {K : Value → M}
abbrev resZc : List Value := [.int .i64 0, .bool false, .slice none 0 0, .int .i64 0, .int .i64 0, .int .i64 0, .slice none 0 0, .int .i64 0, .int .i64 0, .int .i64 0, .int .i64 0]
abbrev resZ : Value := .agg resZc.toArray
theorem readz_spec {vin : Value} {b : List UInt8} (hB : Bytes I vin b) {x : TRes} {a0 a6 : _} {c0 c6 : Nat} {X6 : LH} {cells : List Value} {vr : Value} {bad : Bool} {rest : List UInt8} {b1 r q : Nat}
    (g0 : Bytes I (.slice a0 x.fGot.fValue.length c0) x.fGot.fValue) (hO : SlO 113 2 X6 (.slice a6 x.fRows.length c6) cells x.fRows.length) (hR : Recs (TKVV I) 2 x.fRows cells) (hr : Bytes I vr rest) (hlen : x.fRows.length ≤ 1000)
    (hinv : ∀ r', ansP r' = true → encR r' = b → r' = x ∧ bad = false ∧ rest = [])
    (hk1 : ∀ c cc I', Ext I I' → TResV I' c cc → ansP c = true → encR c = b → K (.tuple #[.agg cc.toArray, .int .i64 0]) I' L)
    (hk2 : ∀ I', Ext I I' → (∀ c, ansP c = true → encR c ≠ b) → K (.tuple #[resZ, .int .i64 140]) I' L) :
    sh24_3 ω vin (pt b1) (.int .i64 0) (pt r) (pt q) (fun v => Gh (K v)) I ((r, rdO vr bad) :: (q, .cells (resC x (.slice a0 x.fGot.fValue.length c0) (.slice a6 x.fRows.length c6)).toArray 52 (0, 0)) :: (X6 ++ ((b1, .cells resZc.toArray 52 (0, 0)) :: L))) := by
  obtain ⟨va, vc, rfl⟩ := Bytes.form hB
  unfold sh24_3
  refine rdB rfl ?_
  have bad' : ∀ I', Ext I I' → (ansP x = false ∨ (!bad && rest.length == 0) = false ∨ encR x ≠ b) → K (.tuple #[resZ, .int .i64 140]) I' L := by
    intro I' hI' h
    refine hk2 I' hI' (fun c' h1 h2 => ?_)
    obtain ⟨e1, e2, e3⟩ := hinv c' h1 h2
    subst e1
    rcases h with h | h | h
    · rw [h] at h1; cases h1
    · rw [e2, e3] at h; simp at h
    · exact h h2
  refine call (cal_pre (Gh.perm (L' := X6 ++ ((q, .cells (resC x (.slice a0 x.fGot.fValue.length c0) (.slice a6 x.fRows.length c6)).toArray 52 (0, 0)) :: (r, rdO vr bad) :: (b1, .cells resZc.toArray 52 (0, 0)) :: L)) (ms_perm (by ((try simp only [ms_cons, ms_app, ms_nil, ms_nil']); (try ac_rfl)))) (RL.ofO (R := TKVV) (fun h hI => TKVV.mono h hI) hO hR (fun I2 hI2 hRL => Gh.done ?_))))
  have hT : TResV I2 x (resC x (.slice a0 x.fGot.fValue.length c0) (.slice a6 x.fRows.length c6)) := ⟨_, _, rfl, g0.mono hI2, hRL⟩
  refine ansb_spec hT (by omega) (fun ha => ?_) (fun ha u I4 hI4 hU => ?_)
  · repeat' (first | (with_reducible refine drawC ?_) | (with_reducible refine drawW1 ?_) | (with_reducible refine drawW2 ?_) | (with_reducible refine keepC (by repeat (first | exact Ext.refl _ | assumption | refine Ext.trans ?_ (by assumption))) ?_) | (with_reducible refine newI (fun _ => ?_)) | ((with_reducible refine call ?_); refine (Cal.pick r (rwhole_spec (hr.mono hI2) ?_))) | first | (with_reducible refine rdb ?_) | ((with_reducible refine st1 ?_ ?_); rfl) | ((with_reducible refine rdB ?_ ?_); rfl) | (with_reducible refine rdbS ?_) | ((with_reducible refine rdBS ?_ ?_); rfl) | ((with_reducible refine stB ?_ ?_ ?_ ?_); rfl; rfl; exact one_all rfl) | ((with_reducible refine rdP _ rfl ?_ ?_); rfl) | ((with_reducible refine rdPS _ rfl ?_ ?_); rfl) | ((with_reducible refine stP _ rfl ?_ ?_ ?_ ?_); rfl; rfl; rfl) | (with_reducible refine unfE (sh24_4.eq_1 ..) ?_) | (with_reducible refine unfE (sh24_3.eq_1 ..) ?_) | (with_reducible refine unfE (sh24_1.eq_1 ..) ?_) | (with_reducible refine unfE (sh24.eq_1 ..) ?_) | (with_reducible refine And.intro ?_ ?_) | (simp only [Bool.not_true, Bool.not_false, Bool.and_self, Bool.true_and, Int.reduceBEq, Int.reduceBNe, Int.reduceLT, Int.reduceLE, decide_true, decide_false, Br_true, Br_false, Gd_tt, Gd_ft, Gd_tf, Gd_ff, beq_self_eq_true, bne_self_eq_false]) | (with_reducible refine gd_split (fun _ => ?_) (fun _ => ?_)) | (with_reducible refine br_split (fun _ => ?_) (fun _ => ?_)) | (simp only [SSd, Nat.reduceAdd]))
    all_goals exact Gh.to L (Gh.done (bad' I2 hI2 (.inl ha)))
  · repeat' (first | (with_reducible refine drawC ?_) | (with_reducible refine drawW1 ?_) | (with_reducible refine drawW2 ?_) | (with_reducible refine keepC (by repeat (first | exact Ext.refl _ | assumption | refine Ext.trans ?_ (by assumption))) ?_) | (with_reducible refine newI (fun _ => ?_)) | ((with_reducible refine call ?_); refine (Cal.pick r (rwhole_spec ((hr.mono hI2).mono hI4) ?_))) | ((with_reducible refine call ?_); refine (equal_spec hU ((hB.mono hI2).mono hI4) ?_)) | first | (with_reducible refine rdb ?_) | ((with_reducible refine st1 ?_ ?_); rfl) | ((with_reducible refine rdB ?_ ?_); rfl) | (with_reducible refine rdbS ?_) | ((with_reducible refine rdBS ?_ ?_); rfl) | ((with_reducible refine stB ?_ ?_ ?_ ?_); rfl; rfl; exact one_all rfl) | ((with_reducible refine rdP _ rfl ?_ ?_); rfl) | ((with_reducible refine rdPS _ rfl ?_ ?_); rfl) | ((with_reducible refine stP _ rfl ?_ ?_ ?_ ?_); rfl; rfl; rfl) | (with_reducible refine unfE (sh24_4.eq_1 ..) ?_) | (with_reducible refine unfE (sh24_3.eq_1 ..) ?_) | (with_reducible refine unfE (sh24_1.eq_1 ..) ?_) | (with_reducible refine unfE (sh24.eq_1 ..) ?_) | (with_reducible refine And.intro ?_ ?_) | (simp only [Bool.not_true, Bool.not_false, Bool.and_self, Bool.true_and, Int.reduceBEq, Int.reduceBNe, Int.reduceLT, Int.reduceLE, decide_true, decide_false, Br_true, Br_false, Gd_tt, Gd_ft, Gd_tf, Gd_ff, beq_self_eq_true, bne_self_eq_false]) | (with_reducible refine gd_split (fun _ => ?_) (fun _ => ?_)) | (with_reducible refine br_split (fun _ => ?_) (fun _ => ?_)) | (simp only [SSd, Nat.reduceAdd]))
    · rename_i e
      exact Gh.to L (Gh.done (bad' I4 (hI2.trans hI4) (.inr (.inr (by simpa using e)))))
    · rename_i e
      exact Gh.to L (Gh.done (hk1 x _ I4 (hI2.trans hI4) (hT.mono hI4) ha (by simpa using e)))
    · rename_i e
      exact Gh.to L (Gh.done (bad' I4 (hI2.trans hI4) (.inr (.inl (by simpa using e)))))
theorem read_spec {v : Value} {b : List UInt8} (hB : Bytes I v b) (hl : b.length ≤ 140737488355328)
    (hk1 : ∀ c cc I', Ext I I' → TResV I' c cc → ansP c = true → encR c = b → K (.tuple #[.agg cc.toArray, .int .i64 0]) I' L)
    (hk2 : ∀ I', Ext I I' → (∀ c, ansP c = true → encR c ≠ b) → K (.tuple #[resZ, .int .i64 140]) I' L) : Cal Tryz.prog ω 24 #[v] K I L := by
  obtain ⟨va, vc, rfl⟩ := Bytes.form hB
  refine cal24 ?_
  unfold sh24
  refine newI (fun b0 => ?_)
  try simp only [SSd, Nat.reduceAdd]
  refine newI (fun r => ?_)
  refine call (rnum_spec hB hl (fun co x1 c1 d1 B1 P1 => ?_))
  have l1 := P1.len
  refine call (rnum_spec B1 (by omega) (fun st x2 c2 d2 B2 P2 => ?_))
  have l2 := P2.len
  refine call (rnum_spec B2 (by omega) (fun by' x3 c3 d3 B3 P3 => ?_))
  have l3 := P3.len
  try simp only [SSd, Nat.reduceAdd]
  refine newI (fun q => ?_)
  refine Go.SL.stB rfl rfl (one_all rfl) ?_
  refine call (Cal.pick r (rnum_spec B3 (by omega) (fun gb x4 c4 d4 B4 P4 => ?_)))
  have l4 := P4.len
  try simp only [SSd, Nat.reduceAdd]
  refine st1 rfl ?_
  refine call (Cal.pick r (rstamp_spec B4 (by omega) (fun at' x5 c5 d5 B5 P5 => ?_)))
  have l5 := P5.len
  refine call (rstamp_spec B5 (by omega) (fun ga x6 c6 d6 B6 P6 => ?_))
  have l6 := P6.len
  try simp only [SSd, Nat.reduceAdd]
  refine stP _ rfl rfl rfl rfl ?_
  try simp only [SSd, Nat.reduceAdd]
  refine stP _ rfl rfl rfl rfl ?_
  refine call (rtruth_spec B6 (by omega) (fun fo x7 c7 d7 B7 P7 => ?_))
  have l7 := P7.len
  refine call (rtext_spec B7 (by omega) (fun vl u8 x8 c8 d8 I1 hI1 T8 B8 P8 => ?_))
  have l8 := P8.len
  have m8 := P8.tlen
  obtain ⟨a8, k8, rfl⟩ := Bytes.form T8
  try simp only [SSd, Nat.reduceAdd]
  refine st1 rfl ?_
  try simp only [SSd, Nat.reduceAdd]
  refine st1 rfl ?_
  refine call (rnum_spec B8 (by omega) (fun n0 x9 c9 d9 B9 P9 => ?_))
  have l9 := P9.len
  have hinv : ∀ r', ansP r' = true → encR r' = b → r' = ⟨co, ⟨fo, vl, ga, gb⟩, r'.fRows, at', by', st⟩ ∧ n0 = r'.fRows.length ∧ d9 = false ∧ c9 = r'.fRows.flatMap rowE := by
    intro r' hr hb
    have ho := ansP_ok hr
    have hcd := ho.code
    have hst := ho.state
    have hvl := ho.val
    have hln := ho.len
    have hb' := hb.symm
    simp only [encR] at hb'
    obtain ⟨e1, f1, g1⟩ := P1.get _ _ ⟨by omega, by omega⟩ hb'
    obtain ⟨e2, f2, g2⟩ := P2.get _ _ ⟨by omega, by omega⟩ f1
    obtain ⟨e3, f3, g3⟩ := P3.get _ _ ho.by' f2
    obtain ⟨e4, f4, g4⟩ := P4.get _ _ ho.gby f3
    obtain ⟨e5, f5, g5⟩ := P5.get _ _ ho.at' f4
    obtain ⟨e6, f6, g6⟩ := P6.get _ _ ho.gat f5
    obtain ⟨e7, f7, g7⟩ := P7.get _ _ f6
    obtain ⟨e8, f8, g8⟩ := P8.get _ _ (by omega) f7
    obtain ⟨e9, f9, g9⟩ := P9.get _ _ ⟨by omega, by omega⟩ f8
    refine ⟨?_, e9, by rw [g9, g8, g7, g6, g5, g4, g3, g2, g1], f9⟩
    subst e1 e2 e3 e4 e5 e6 e7 e8
    rfl
  have hn0 := P9.max
  generalize hG : (⟨fo, vl, ga, gb⟩ : TGot) = G at *
  have hv : vl = G.fValue := by rw [← hG]
  refine loop (fun n (s : Value × Unit) I' L' => ∃ (m : Int) (acc : List TKV) (X6 : LH) (cells6 : List Value) (a6 : _) (c6 : Nat) (vr : Value) (rest : List UInt8) (bad : Bool), n = m.toNat ∧ s = (.int .i64 m, ()) ∧ Ext I1 I' ∧ maxI m ∧ SlO 113 2 X6 (.slice a6 acc.length c6) cells6 acc.length ∧ Recs (TKVV I') 2 acc cells6 ∧ acc.length ≤ 91 ∧ Bytes I' vr rest ∧ rest.length ≤ b.length ∧
    (∀ r', ansP r' = true → encR r' = b → ∃ rs, r' = ⟨co, G, acc ++ rs, at', by', st⟩ ∧ m = rs.length ∧ bad = false ∧ rest = rs.flatMap rowE) ∧
    L' = (r, rdO vr bad) :: (q, .cells (resC ⟨co, G, acc, at', by', st⟩ (.slice a8 vl.length k8) (.slice a6 acc.length c6)).toArray 52 (0, 0)) :: (X6 ++ ((b0, .cells resZc.toArray 52 (0, 0)) :: L))) n0.toNat ⟨n0, [], [], [], none, 0, x9, c9, d9, rfl, rfl, Ext.refl _, hn0, SlO.none _ _, ?_, by simp, B9, by omega, ?_, ?_⟩ ?_
  · rfl
  · intro r' h1 h2
    obtain ⟨e1, e2, e3, e4⟩ := hinv r' h1 h2
    exact ⟨r'.fRows, e1, e2, e3, e4⟩
  · subst hG; rfl
  rintro n s I' L' ⟨m, acc, X6, cells6, a6, c6, vr, rest, bad, hn, rfl, hI', hm, hO, hR, hacc, hr, hrl, hinv', rfl⟩
  have fin : (m ≤ 0 ∨ 90 < acc.length ∨ bad = true) → sh24_3 ω (.slice va b.length vc) (pt b0) (.int .i64 0) (pt r) (pt q) (fun v => Gh (K v)) I' ((r, rdO vr bad) :: (q, .cells (resC ⟨co, G, acc, at', by', st⟩ (.slice a8 vl.length k8) (.slice a6 acc.length c6)).toArray 52 (0, 0)) :: (X6 ++ ((b0, .cells resZc.toArray 52 (0, 0)) :: L))) := by
    intro hx
    have t := hI1.trans hI'
    subst hv
    refine readz_spec (x := ⟨co, G, acc, at', by', st⟩) (hB.mono t) (T8.mono hI') hO hR hr (by simp only; omega) (fun r' h1 h2 => ?_) (fun c cc I2 hI2 hT ha he => hk1 c cc I2 (t.trans hI2) hT ha he) (fun I2 hI2 h => hk2 I2 (t.trans hI2) h)
    obtain ⟨rs, e1, e2, e3, e4⟩ := hinv' r' h1 h2
    have h90 := (ansP_ok h1).len
    rw [e1, List.length_append] at h90
    have h0 : rs = [] := by
      rcases hx with hx | hx | hx
      · exact List.length_eq_zero_iff.1 (by omega)
      · omega
      · rw [e3] at hx; cases hx
    subst h0
    exact ⟨by rw [e1, List.append_nil], e3, e4⟩
  unfold sh24_1
  try simp only [SSd, Nat.reduceAdd]
  refine gd_split (fun e1 => ?_) (fun e1 => fin (.inl (by simpa using e1)))
  try simp only [SSd, Nat.reduceAdd]
  refine rdb ?_
  try simp only [SSd, Nat.reduceAdd]
  refine gd_split (fun e2 => ?_) (fun e2 => fin (.inr (.inl (by simp at e2; omega))))
  try simp only [SSd, Nat.reduceAdd]
  refine rdb ?_
  try simp only [SSd, Nat.reduceAdd]
  refine br_split (fun e3 => ?_) (fun e3 => fin (.inr (.inr (by simpa using e3))))
  have hm0 : 0 < m := by simpa using e1
  have ha90 : acc.length ≤ 90 := by simp at e2; omega
  obtain ⟨hm1, hm2⟩ := hm
  refine drawD r ?_
  try simp only [SSd, Nat.reduceAdd]
  refine rdbS ?_
  refine call (Cal.pick r (rtext_spec hr (by omega) (fun ky u1 y1 w1 z1 J1 hJ1 T1 R1 Q1 => ?_)))
  have q1 := Q1.len
  refine keepS hJ1 (fun y hy => List.mem_cons_of_mem _ hy) ?_
  refine call (rtext_spec R1 (by omega) (fun va2 u2 y2 w2 z2 J2 hJ2 T2 R2 Q2 => ?_))
  have q2 := Q2.len
  refine keepS (hJ1.trans hJ2) (fun y hy => List.mem_cons_of_mem _ hy) ?_
  have n1 := Q1.tlen
  have n2 := Q2.tlen
  have T1' := T1.mono hJ2
  obtain ⟨ua, uc, rfl⟩ := Bytes.form T1
  obtain ⟨ub, ud, rfl⟩ := Bytes.form T2
  try simp only [SSd, Nat.reduceAdd]
  refine rec_appK (R := TKVV) (X6 := X6) (x := (⟨ky, va2⟩ : TKV)) (hJ1.trans hJ2) (fun y hy => List.mem_cons_of_mem _ hy) rfl (by omega) hO (hR.imp fun _ _ h => h.mono (hJ1.trans hJ2)) ⟨_, _, rfl, T1', T2⟩ rfl (one_all rfl) (by omega) (by omega) (fun X1 X7 a7 c7 cells7 h7 hR7 => ?_)
  try simp only [SSd, Nat.reduceAdd]
  refine st1 rfl ?_
  try simp only [SSd, Nat.reduceAdd]
  rw [wrap_i64 _ (by omega)]
  refine Gh.to ((r, rdO y2 z2) :: (q, .cells (resC ⟨co, G, acc ++ [⟨ky, va2⟩], at', by', st⟩ (.slice a8 vl.length k8) (.slice a7 (acc ++ [(⟨ky, va2⟩ : TKV)]).length c7)).toArray 52 (0, 0)) :: (X7 ++ ((b0, .cells resZc.toArray 52 (0, 0)) :: L))) (Gh.done ⟨n - 1, by omega, m - 1, acc ++ [⟨ky, va2⟩], X7, cells7, a7, c7, y2, w2, z2, by omega, rfl, hI'.trans (hJ1.trans hJ2), ⟨by omega, by omega⟩, h7, hR7, by simp; omega, R2, by omega, fun r' h1 h2 => ?_, rfl⟩)
  obtain ⟨rs, f1, f2, f3, f4⟩ := hinv' r' h1 h2
  cases rs with
  | nil => simp at f2; omega
  | cons y rs =>
    have hy := (ansP_ok h1).rows y (by rw [f1]; simp)
    simp only [List.flatMap_cons, rowE, List.append_assoc] at f4
    obtain ⟨k1, k2, k3⟩ := Q1.get _ _ (by omega) f4
    obtain ⟨k4, k5, k6⟩ := Q2.get _ _ (by omega) k2
    refine ⟨rs, ?_, by simp at f2; omega, by rw [k6, k3, f3], k5⟩
    rw [f1, k1, k4, List.append_assoc]; rfl
end
end Go.Proofs.YtmmfcgbfbcamcaaGreatDoor
-- S3
set_option linter.unusedSimpArgs false
set_option linter.unusedVariables false
namespace Go.Proofs.YtmmfcgbfbcamcaaGreatDoor
open Go.SL
set_option maxRecDepth 10000
section
variable {ω : Om} {I : Imm} {L : LH} {K : Value → M}
theorem lens_right {c : TCmd} (h : rightP c = true) : Lens c := by
  have ho := rightP_ok h
  have hs := ho.span
  simp only [spanOk, Bool.and_eq_true, decide_eq_true_eq] at hs
  have h1 := ho.key
  have h2 := ho.value
  exact ⟨by omega, by omega, by omega, by omega⟩
theorem reads2 {v : Value} {b : List UInt8} (hB : Bytes I v b) (hl : b.length ≤ 140737488355328) (hk : ∀ I' L', Ext I I' → K (.bool true) I' L') : sh7_2 ω v (.bool false) (.bool true) K I L := by
  unfold sh7_2
  refine call (read_spec hB hl (fun r cc I1 hI1 hT ha he => ?_) (fun I1 hI1 h => ?_))
  · obtain ⟨v0, v6, rfl, g0, g1⟩ := hT
    have hT : TResV I1 r (resC r v0 v6) := ⟨_, _, rfl, g0, g1⟩
    obtain ⟨a0, c0, rfl⟩ := Bytes.form g0
    obtain ⟨a6, c6, rfl⟩ := RL.form g1
    have hln := (ansP_ok ha).len
    try simp only [SSd, Nat.reduceAdd]
    refine newI (fun q => ?_)
    refine Go.SL.stB rfl rfl (one_all rfl) ?_
    try simp only [SSd, Nat.reduceAdd]
    refine rdB rfl ?_
    refine call (ansb_spec hT (by omega) (fun h => by rw [ha] at h; cases h) (fun _ u I2 hI2 hU => ?_))
    repeat' (first | (with_reducible refine drawC ?_) | (with_reducible refine drawW1 ?_) | (with_reducible refine drawW2 ?_) | (with_reducible refine keepC (by repeat (first | exact Ext.refl _ | assumption | refine Ext.trans ?_ (by assumption))) ?_) | (with_reducible refine newI (fun _ => ?_)) | (with_reducible refine bs_N hU (Ext.refl _) ?_) | (with_reducible refine bs_N hB (hI1.trans hI2) ?_) | first | (with_reducible refine rdb ?_) | ((with_reducible refine st1 ?_ ?_); rfl) | ((with_reducible refine rdB ?_ ?_); rfl) | (with_reducible refine rdbS ?_) | ((with_reducible refine rdBS ?_ ?_); rfl) | ((with_reducible refine stB ?_ ?_ ?_ ?_); rfl; rfl; exact one_all rfl) | ((with_reducible refine rdP _ rfl ?_ ?_); rfl) | ((with_reducible refine rdPS _ rfl ?_ ?_); rfl) | ((with_reducible refine stP _ rfl ?_ ?_ ?_ ?_); rfl; rfl; rfl) | (with_reducible refine unfE (sh7_2.eq_1 ..) ?_) | (with_reducible refine unfE (sh7.eq_1 ..) ?_) | (with_reducible refine And.intro ?_ ?_) | (simp only [Bool.not_true, Bool.not_false, Bool.and_self, Bool.true_and, Int.reduceBEq, Int.reduceBNe, Int.reduceLT, Int.reduceLE, decide_true, decide_false, Br_true, Br_false, Gd_tt, Gd_ft, Gd_tf, Gd_ff, beq_self_eq_true, bne_self_eq_false]) | (with_reducible refine gd_split (fun _ => ?_) (fun _ => ?_)) | (with_reducible refine br_split (fun _ => ?_) (fun _ => ?_)) | (simp only [SSd, Nat.reduceAdd]))
    rw [show (encR r == b) = true by simp [he]]
    exact hk _ _ (hI1.trans hI2)
  · repeat' (first | (with_reducible refine drawC ?_) | (with_reducible refine drawW1 ?_) | (with_reducible refine drawW2 ?_) | (with_reducible refine keepC (by repeat (first | exact Ext.refl _ | assumption | refine Ext.trans ?_ (by assumption))) ?_) | (with_reducible refine newI (fun _ => ?_)) | first | (with_reducible refine rdb ?_) | ((with_reducible refine st1 ?_ ?_); rfl) | ((with_reducible refine rdB ?_ ?_); rfl) | (with_reducible refine rdbS ?_) | ((with_reducible refine rdBS ?_ ?_); rfl) | ((with_reducible refine stB ?_ ?_ ?_ ?_); rfl; rfl; exact one_all rfl) | ((with_reducible refine rdP _ rfl ?_ ?_); rfl) | ((with_reducible refine rdPS _ rfl ?_ ?_); rfl) | ((with_reducible refine stP _ rfl ?_ ?_ ?_ ?_); rfl; rfl; rfl) | (with_reducible refine unfE (sh7_2.eq_1 ..) ?_) | (with_reducible refine unfE (sh7.eq_1 ..) ?_) | (with_reducible refine And.intro ?_ ?_) | (simp only [Bool.not_true, Bool.not_false, Bool.and_self, Bool.true_and, Int.reduceBEq, Int.reduceBNe, Int.reduceLT, Int.reduceLE, decide_true, decide_false, Br_true, Br_false, Gd_tt, Gd_ft, Gd_tf, Gd_ff, beq_self_eq_true, bne_self_eq_false]) | (with_reducible refine gd_split (fun _ => ?_) (fun _ => ?_)) | (with_reducible refine br_split (fun _ => ?_) (fun _ => ?_)) | (simp only [SSd, Nat.reduceAdd]))
    exact hk _ _ hI1
theorem reads_walk {v : Value} {b : List UInt8} (hB : Bytes I v b) (hl : b.length ≤ 140737488355328) (hk : ∀ I' L', Ext I I' → K (.bool true) I' L') : Cal Tryz.prog ω 7 #[v] K I L := by
  refine cal7 ?_
  unfold sh7
  refine call (awake_spec (fun I0 hI0 => ?_))
  refine call (decode_spec (hB.mono hI0) hl (fun c cc I1 hI1 hT ha he => ?_) (fun I1 hI1 h => ?_))
  · obtain ⟨w0, w1, w2, w3, rfl, g0, g1, g2, g3⟩ := hT
    have hT : TCmdV I1 c _ := ⟨_, _, _, _, rfl, g0, g1, g2, g3⟩
    obtain ⟨a0, c0, rfl⟩ := Bytes.form g0
    obtain ⟨a1, c1, rfl⟩ := Bytes.form g1
    obtain ⟨a2, c2, rfl⟩ := Bytes.form g2
    obtain ⟨a3, c3, rfl⟩ := Bytes.form g3
    have t := hI0.trans hI1
    try simp only [SSd, Nat.reduceAdd]
    refine newI (fun q => ?_)
    refine Go.SL.stB rfl rfl (one_all rfl) ?_
    try simp only [SSd, Nat.reduceAdd]
    refine rdB rfl ?_
    refine call (encode_spec hT (lens_right ha) (fun h => by rw [ha] at h; cases h) (fun _ u I2 hI2 hU => ?_))
    repeat' (first | (with_reducible refine drawC ?_) | (with_reducible refine drawW1 ?_) | (with_reducible refine drawW2 ?_) | (with_reducible refine keepC (by repeat (first | exact Ext.refl _ | assumption | refine Ext.trans ?_ (by assumption))) ?_) | (with_reducible refine newI (fun _ => ?_)) | (with_reducible refine bs_N hU (Ext.refl _) ?_) | (with_reducible refine bs_N hB (t.trans hI2) ?_) | (with_reducible refine reads2 (hB.mono (t.trans hI2)) hl (fun I9 L9 hI9 => ?_)) | first | (with_reducible refine rdb ?_) | ((with_reducible refine st1 ?_ ?_); rfl) | ((with_reducible refine rdB ?_ ?_); rfl) | (with_reducible refine rdbS ?_) | ((with_reducible refine rdBS ?_ ?_); rfl) | ((with_reducible refine stB ?_ ?_ ?_ ?_); rfl; rfl; exact one_all rfl) | ((with_reducible refine rdP _ rfl ?_ ?_); rfl) | ((with_reducible refine rdPS _ rfl ?_ ?_); rfl) | ((with_reducible refine stP _ rfl ?_ ?_ ?_ ?_); rfl; rfl; rfl) | (with_reducible refine unfE (sh7_2.eq_1 ..) ?_) | (with_reducible refine unfE (sh7.eq_1 ..) ?_) | (with_reducible refine And.intro ?_ ?_) | (simp only [Bool.not_true, Bool.not_false, Bool.and_self, Bool.true_and, Int.reduceBEq, Int.reduceBNe, Int.reduceLT, Int.reduceLE, decide_true, decide_false, Br_true, Br_false, Gd_tt, Gd_ft, Gd_tf, Gd_ff, beq_self_eq_true, bne_self_eq_false]) | (with_reducible refine gd_split (fun _ => ?_) (fun _ => ?_)) | (with_reducible refine br_split (fun _ => ?_) (fun _ => ?_)) | (simp only [SSd, Nat.reduceAdd]))
    · rename_i e
      exact absurd he (by simpa using e)
    · exact Gh.done (hk _ _ ((t.trans hI2).trans hI9))
    all_goals trace_state
  · repeat' (first | (with_reducible refine drawC ?_) | (with_reducible refine drawW1 ?_) | (with_reducible refine drawW2 ?_) | (with_reducible refine keepC (by repeat (first | exact Ext.refl _ | assumption | refine Ext.trans ?_ (by assumption))) ?_) | (with_reducible refine newI (fun _ => ?_)) | (with_reducible refine reads2 (hB.mono (hI0.trans hI1)) hl (fun I9 L9 hI9 => ?_)) | first | (with_reducible refine rdb ?_) | ((with_reducible refine st1 ?_ ?_); rfl) | ((with_reducible refine rdB ?_ ?_); rfl) | (with_reducible refine rdbS ?_) | ((with_reducible refine rdBS ?_ ?_); rfl) | ((with_reducible refine stB ?_ ?_ ?_ ?_); rfl; rfl; exact one_all rfl) | ((with_reducible refine rdP _ rfl ?_ ?_); rfl) | ((with_reducible refine rdPS _ rfl ?_ ?_); rfl) | ((with_reducible refine stP _ rfl ?_ ?_ ?_ ?_); rfl; rfl; rfl) | (with_reducible refine unfE (sh7_2.eq_1 ..) ?_) | (with_reducible refine unfE (sh7.eq_1 ..) ?_) | (with_reducible refine And.intro ?_ ?_) | (simp only [Bool.not_true, Bool.not_false, Bool.and_self, Bool.true_and, Int.reduceBEq, Int.reduceBNe, Int.reduceLT, Int.reduceLE, decide_true, decide_false, Br_true, Br_false, Gd_tt, Gd_ft, Gd_tf, Gd_ff, beq_self_eq_true, bne_self_eq_false]) | (with_reducible refine gd_split (fun _ => ?_) (fun _ => ?_)) | (with_reducible refine br_split (fun _ => ?_) (fun _ => ?_)) | (simp only [SSd, Nat.reduceAdd]))
    exact Gh.done (hk _ _ ((hI0.trans hI1).trans hI9))
end
theorem reads_walk2 {W : World} {base : Nat} {v0 : Value} (o0 : Value.okWide Tryz.prog W .any base 29 v0) (t0 : Tr Tryz.prog W 29 v0.cells.toList) (ω : Om) :
    Cal Tryz.prog ω 7 #[v0] (fun v I' _ => v = .bool true ∧ Ext (heapI W) I') (heapI W) [] := by
  obtain ⟨k, h5, h6⟩ := tr_bytes Tryz.underlying29 Tryz.underlying5 (by kernel_rfl) (by kernel_rfl) (top_slice Tryz.underlying29 o0 t0)
  have e : reachBytes = 140737488351232 := by rfl
  exact reads_walk h5 (by omega) (fun I' _ hI => ⟨rfl, hI⟩)
end Go.Proofs.YtmmfcgbfbcamcaaGreatDoor
