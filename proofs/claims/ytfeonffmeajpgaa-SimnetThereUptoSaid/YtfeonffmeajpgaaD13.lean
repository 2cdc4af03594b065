import Derived.Test.YtfeonffmeajpgaaD12
set_option linter.unusedSimpArgs false
set_option linter.unusedVariables false
namespace Go.Proofs.Ytfeonffmeajpgaa
open Go.SL
set_option maxRecDepth 10000

theorem ofNat_toNat {n : Nat} (h : n < 256) : (UInt8.ofNat n).toNat = n := by
  simp; omega
theorem byteOf_toNat {n : Int} (h0 : 0 ≤ n) (h1 : n < 256) : (((byteOf n).toNat : Nat) : Int) = n := by
  unfold byteOf
  rw [ofNat_toNat (by omega)]
  omega

theorem cntF_varL : ∀ (f sc acc n : Nat) (r : List UInt8) (bad : Bool), 0 < f → n < 128 ^ f → cntF f sc acc (varL n ++ r, bad) = (acc + n * sc, (r, bad))
  | 0, _, _, _, _, _, h, _ => by omega
  | f + 1, sc, acc, n, r, bad, _, h => by
    by_cases h1 : n < 128
    · rw [varL_small h1]
      simp only [cntF, byteF, List.singleton_append, ofNat_toNat (show n < 256 by omega), if_pos h1, Nat.mod_eq_of_lt h1]
    · rw [varL_big h1]
      have hf : 0 < f := by
        rcases Nat.eq_zero_or_pos f with h0 | h0
        · subst h0; simp at h; omega
        · exact h0
      simp only [cntF, byteF, List.cons_append, ofNat_toNat (show n % 128 + 128 < 256 by omega), if_neg (show ¬ n % 128 + 128 < 128 by omega)]
      rw [cntF_varL f _ _ _ _ _ hf (by rw [Nat.pow_succ] at h; omega)]
      congr 1
      rw [show (n % 128 + 128) % 128 = n % 128 by omega, Nat.add_assoc, show n / 128 * (sc * 128) = (n / 128 * 128) * sc by rw [Nat.mul_comm sc, Nat.mul_assoc], ← Nat.add_mul]
      congr 2
      omega
theorem vrG_varL : ∀ (f k sc acc n : Nat) (r : List UInt8), 0 < f → n < 128 ^ f → (0 < k → n ≠ 0) → acc + n * sc ≤ 9007199254740991 → vrG f k sc acc (varL n ++ r, false) = (acc + n * sc, (r, false))
  | 0, _, _, _, _, _, h, _, _, _ => by omega
  | f + 1, k, sc, acc, n, r, _, h, hk, hm => by
    by_cases h1 : n < 128
    · rw [varL_small h1]
      simp only [vrG, byteG, List.singleton_append, ofNat_toNat (show n < 256 by omega), if_pos h1, Nat.mod_eq_of_lt h1, Bool.false_eq_true, if_false]
      rw [if_neg (by simp; constructor <;> omega)]
    · rw [varL_big h1]
      have hf : 0 < f := by
        rcases Nat.eq_zero_or_pos f with h0 | h0
        · subst h0; simp at h; omega
        · exact h0
      simp only [vrG, byteG, List.cons_append, ofNat_toNat (show n % 128 + 128 < 256 by omega), if_neg (show ¬ n % 128 + 128 < 128 by omega), Bool.false_eq_true, if_false]
      have e : acc + (n % 128 + 128) % 128 * sc + n / 128 * (sc * 128) = acc + n * sc := by
        rw [show (n % 128 + 128) % 128 = n % 128 by omega, Nat.add_assoc, show n / 128 * (sc * 128) = (n / 128 * 128) * sc by rw [Nat.mul_comm sc, Nat.mul_assoc], ← Nat.add_mul]
        congr 2
        omega
      rw [vrG_varL f _ _ _ _ _ hf (by rw [Nat.pow_succ] at h; omega) (fun _ => by omega) (by rw [e]; exact hm), e]

theorem byteF_cons (x : UInt8) (r : List UInt8) : byteF (x :: r, false) = (x.toNat, (r, false)) := rfl
theorem byteG_cons (x : UInt8) (r : List UInt8) : byteG (x :: r, false) = (x.toNat, (r, false)) := rfl
theorem countF_varL {n : Nat} {r : List UInt8} (h : n ≤ 9007199254740991) : countF (varL n ++ r, false) = (n, (r, false)) := by
  unfold countF
  rw [cntF_varL 8 1 0 n r false (by omega) (by omega)]
  simp
theorem varG_varL {n : Nat} {r : List UInt8} (h : n ≤ 9007199254740991) : varG (varL n ++ r, false) = (n, (r, false)) := by
  unfold varG
  rw [vrG_varL 8 0 1 0 n r (by omega) (by omega) (by omega) (by omega)]
  simp
theorem textF_textL {t r : List UInt8} (h : t.length ≤ 9007199254740991) : textF (textL t ++ r, false) = (t, (r, false)) := by
  unfold textF textL
  rw [List.append_assoc, countF_varL h]
  simp
theorem textG_textL {t r : List UInt8} (h : t.length ≤ 9007199254740991) : textG (textL t ++ r, false) = (t, (r, false)) := by
  unfold textG textL
  rw [List.append_assoc, varG_varL h]
  simp

theorem nums_map {l : List Int} (h : ∀ x ∈ l, 0 ≤ x ∧ x < 256) : nums (l.map byteOf) = l := by
  induction l with
  | nil => rfl
  | cons x l ih =>
    have hx := h x (List.mem_cons_self ..)
    simp only [nums, List.map_cons, List.cons.injEq]
    exact ⟨byteOf_toNat hx.1 hx.2, ih (fun y hy => h y (List.mem_cons_of_mem _ hy))⟩

/-- what is asked of the entries that are written -/
def entG (i : Int) (es : List LE) : Prop := ∀ j (h : j < es.length), es[j].index = i + j ∧ 0 ≤ es[j].term ∧ es[j].term ≤ 9007199254740991 ∧ 0 ≤ es[j].kind ∧ es[j].kind < 256 ∧ es[j].data.length ≤ 9007199254740991
theorem entG_tail {i : Int} {e : LE} {es : List LE} (h : entG i (e :: es)) : entG (i + 1) es := by
  intro j hj
  have := h (j + 1) (by simp; omega)
  simp only [List.getElem_cons_succ] at this
  refine ⟨by omega, this.2⟩

theorem entsF_entsL : ∀ (es : List LE) (i : Int) (r : List UInt8), entG i es → entsF es.length i (entsL es ++ r, false) = (es, (r, false))
  | [], _, _, _ => rfl
  | e :: es, i, r, h => by
    have h0 := h 0 (by simp)
    simp only [List.getElem_cons_zero] at h0
    obtain ⟨h1, h2, h3, h4, h5, h6⟩ := h0
    have e0 : entsL (e :: es) ++ r = varL e.term.toNat ++ (byteOf e.kind :: (textL e.data ++ (entsL es ++ r))) := by
      simp [entsL, List.append_assoc]
    rw [e0]
    simp only [List.length_cons, entsF, countF_varL (show e.term.toNat ≤ 9007199254740991 by omega), byteF_cons, textF_textL h6, entsF_entsL es (i + 1) r (entG_tail h), Bool.false_eq_true, if_false]
    rw [byteOf_toNat h4 h5, show ((e.term.toNat : Nat) : Int) = e.term by omega, show i = e.index by omega]

theorem parse_encL {m : RM} {r : List UInt8} (hr : rightB m = true) : parse (encL m ++ r) = (m, (r, false)) := by
  obtain ⟨kind, group, frm, to, term, index, logTerm, commit, ok, entries, members, data⟩ := m
  simp only [rightB, Bool.and_eq_true, countB, nodeB, decide_eq_true_eq] at hr
  obtain ⟨⟨⟨⟨⟨⟨⟨⟨⟨hi, ht⟩, hc⟩, hT⟩, hf⟩, hto⟩, hT1⟩, hg1⟩, hg2⟩, hr⟩ := hr
  have hk : 0 ≤ kind ∧ kind < 256 := by
    by_cases k1 : kind = 1
    · omega
    by_cases k2 : kind = 2
    · omega
    by_cases k3 : kind = 3
    · omega
    by_cases k4 : kind = 4
    · omega
    by_cases k5 : kind = 5
    · omega
    simp [k1, k2, k3, k4, k5] at hr
  have c0 : ((term.toNat : Nat) : Int) = term := by omega
  have c1 : ((index.toNat : Nat) : Int) = index := by omega
  have c2 : ((logTerm.toNat : Nat) : Int) = logTerm := by omega
  have c3 : ((commit.toNat : Nat) : Int) = commit := by omega
  have e0 : encL ⟨kind, group, frm, to, term, index, logTerm, commit, ok, entries, members, data⟩ ++ r = byteOf kind :: byteOf group :: byteOf frm :: byteOf to :: (varL term.toNat ++ (bodyL ⟨kind, group, frm, to, term, index, logTerm, commit, ok, entries, members, data⟩ ++ r)) := by
    simp [encL, List.append_assoc]
  rw [e0]
  simp only [parse, byteF_cons, countF_varL (show term.toNat ≤ 9007199254740991 by omega), baseM, byteOf_toNat hk.1 hk.2, byteOf_toNat (show 0 ≤ group by omega) (show group < 256 by omega), byteOf_toNat (show 0 ≤ frm by omega) (show frm < 256 by omega), byteOf_toNat (show 0 ≤ to by omega) (show to < 256 by omega), c0]
  have d1 : index.toNat ≤ 9007199254740991 := by omega
  have d2 : logTerm.toNat ≤ 9007199254740991 := by omega
  have d3 : commit.toNat ≤ 9007199254740991 := by omega
  have tr : ∀ s : List UInt8, byteF (truthL ok ++ s, false) = ((if ok then 1 else 0), (s, false)) := by
    intro s; cases ok <;> rfl
  have tb : ((((if ok then 1 else 0) : Nat) : Int) == 1) = ok := by cases ok <;> rfl
  by_cases k1 : kind = 1
  · simp only [k1, if_true, Bool.and_eq_true, Bool.not_eq_eq_eq_not, Bool.not_true, beq_iff_eq, List.isEmpty_iff] at hr
    obtain ⟨⟨⟨⟨r1, r2⟩, r3⟩, r4⟩, r5⟩ := hr
    subst r1 r2 r3 r4 r5 k1
    simp only [parse5, bodyL, if_true, List.append_assoc, countF_varL d1, countF_varL d2, c1, c2]
  by_cases k2 : kind = 2
  · simp only [k1, k2, if_true, if_false, Bool.and_eq_true, beq_iff_eq, List.isEmpty_iff, show ¬ ((2 : Int) = 1) by omega] at hr
    obtain ⟨⟨⟨⟨⟨r1, r2⟩, r3⟩, r4⟩, r5⟩, r6⟩ := hr
    subst r1 r2 r3 r4 r5 r6 k2
    simp only [parse5, bodyL, if_true, if_false, show ¬ ((2 : Int) = 1) by omega, List.append_assoc, tr, tb]
  by_cases k3 : kind = 3
  · simp only [k3, if_true, if_false, Bool.and_eq_true, Bool.not_eq_eq_eq_not, Bool.not_true, beq_iff_eq, List.isEmpty_iff, show ¬ ((3 : Int) = 1) by omega, show ¬ ((3 : Int) = 2) by omega, entsB, decide_eq_true_eq] at hr
    obtain ⟨⟨⟨⟨r1, r2⟩, r3⟩, r4⟩, r5, r6⟩ := hr
    subst r1 r2 r3 k3
    have hG : entG (index + 1) entries := by
      intro j hj
      rw [List.all_eq_true] at r6
      have := r6 (entries[j], j) (by rw [List.mem_iff_getElem?]; exact ⟨j, by simp [hj]⟩)
      simp only [entOk, entB, Bool.and_eq_true, countB, decide_eq_true_eq, beq_iff_eq] at this
      obtain ⟨⟨⟨⟨⟨a1, a2⟩, a3⟩, a4⟩, a5⟩, a6⟩ := this
      refine ⟨by omega, by omega, by omega, ?_⟩
      by_cases q1 : entries[j].kind = 1
      · simp only [q1, if_true, decide_eq_true_eq] at a4; omega
      by_cases q2 : entries[j].kind = 2
      · simp only [q2, if_true, if_false, decide_eq_true_eq, show ¬ ((2 : Int) = 1) by omega] at a4; omega
      by_cases q3 : entries[j].kind = 3
      · simp only [q3, if_true, if_false, show ¬ ((3 : Int) = 1) by omega, show ¬ ((3 : Int) = 2) by omega] at a4
        have := memB_len a4
        rw [nums_len] at this
        omega
      simp [q1, q2, q3] at a4
    simp only [parse5, bodyL, if_true, if_false, show ¬ ((3 : Int) = 1) by omega, show ¬ ((3 : Int) = 2) by omega, List.append_assoc, countF_varL d1, countF_varL d2, countF_varL d3, countF_varL (show entries.length ≤ 9007199254740991 by omega), show min entries.length 65 = entries.length by omega, c1, c2, c3, entsF_entsL entries (index + 1) r hG]
  by_cases k4 : kind = 4
  · simp only [k4, if_true, if_false, Bool.and_eq_true, beq_iff_eq, List.isEmpty_iff, show ¬ ((4 : Int) = 1) by omega, show ¬ ((4 : Int) = 2) by omega, show ¬ ((4 : Int) = 3) by omega] at hr
    obtain ⟨⟨⟨⟨r1, r2⟩, r3⟩, r4⟩, r5⟩ := hr
    subst r1 r2 r3 r4 r5 k4
    simp only [parse5, bodyL, if_true, if_false, show ¬ ((4 : Int) = 1) by omega, show ¬ ((4 : Int) = 2) by omega, show ¬ ((4 : Int) = 3) by omega, List.append_assoc, tr, tb, countF_varL d1, c1]
  by_cases k5 : kind = 5
  · simp only [k5, if_true, if_false, Bool.and_eq_true, Bool.not_eq_eq_eq_not, Bool.not_true, beq_iff_eq, List.isEmpty_iff, decide_eq_true_eq, show ¬ ((5 : Int) = 1) by omega, show ¬ ((5 : Int) = 2) by omega, show ¬ ((5 : Int) = 3) by omega, show ¬ ((5 : Int) = 4) by omega] at hr
    obtain ⟨⟨⟨⟨⟨r1, r2⟩, r3⟩, r4⟩, r5⟩, r6⟩ := hr
    subst r1 r2 r4 k5
    have hM : nums (members.map byteOf) = members := by
      refine nums_map (fun x hx => ?_)
      simp only [memB, Bool.and_eq_true, List.all_eq_true, List.mem_range] at r5
      obtain ⟨j, hj, rfl⟩ := List.mem_iff_getElem.1 hx
      have := r5.2 j hj
      simp only [goodAt, Bool.and_eq_true, nodeB, decide_eq_true_eq, List.getD_eq_getElem?_getD, List.getElem?_eq_getElem hj, Option.getD_some] at this
      omega
    have h5 := memB_len r5
    have e5 : varL members.length ++ (members.map byteOf ++ (textL data ++ r)) = textL (members.map byteOf) ++ (textL data ++ r) := by simp [textL, List.append_assoc]
    simp only [parse5, bodyL, if_true, if_false, show ¬ ((5 : Int) = 1) by omega, show ¬ ((5 : Int) = 2) by omega, show ¬ ((5 : Int) = 3) by omega, show ¬ ((5 : Int) = 4) by omega, List.append_assoc, countF_varL d1, countF_varL d2, c1, c2, e5, textF_textL (show (members.map byteOf).length ≤ 9007199254740991 by simp; omega), textF_textL (show data.length ≤ 9007199254740991 by omega), hM]
  simp [k1, k2, k3, k4, k5] at hr

theorem entsG_entsL : ∀ (es : List LE) (i : Int) (r : List UInt8), entG i es → entsG es.length i (entsL es ++ r, false) = (es, (r, false))
  | [], _, _, _ => rfl
  | e :: es, i, r, h => by
    have h0 := h 0 (by simp)
    simp only [List.getElem_cons_zero] at h0
    obtain ⟨h1, h2, h3, h4, h5, h6⟩ := h0
    have e0 : entsL (e :: es) ++ r = varL e.term.toNat ++ (byteOf e.kind :: (textL e.data ++ (entsL es ++ r))) := by
      simp [entsL, List.append_assoc]
    rw [e0]
    simp only [List.length_cons, entsG, varG_varL (show e.term.toNat ≤ 9007199254740991 by omega), byteG_cons, textG_textL h6, entsG_entsL es (i + 1) r (entG_tail h), Bool.false_eq_true, if_false]
    rw [byteOf_toNat h4 h5, show ((e.term.toNat : Nat) : Int) = e.term by omega, show i = e.index by omega]

theorem parseG_encL {m : RM} {r : List UInt8} (hr : rightB m = true) : parseG (encL m ++ r) = (m, (r, false)) := by
  obtain ⟨kind, group, frm, to, term, index, logTerm, commit, ok, entries, members, data⟩ := m
  simp only [rightB, Bool.and_eq_true, countB, nodeB, decide_eq_true_eq] at hr
  obtain ⟨⟨⟨⟨⟨⟨⟨⟨⟨hi, ht⟩, hc⟩, hT⟩, hf⟩, hto⟩, hT1⟩, hg1⟩, hg2⟩, hr⟩ := hr
  have hk : 0 ≤ kind ∧ kind < 256 := by
    by_cases k1 : kind = 1
    · omega
    by_cases k2 : kind = 2
    · omega
    by_cases k3 : kind = 3
    · omega
    by_cases k4 : kind = 4
    · omega
    by_cases k5 : kind = 5
    · omega
    simp [k1, k2, k3, k4, k5] at hr
  have c0 : ((term.toNat : Nat) : Int) = term := by omega
  have c1 : ((index.toNat : Nat) : Int) = index := by omega
  have c2 : ((logTerm.toNat : Nat) : Int) = logTerm := by omega
  have c3 : ((commit.toNat : Nat) : Int) = commit := by omega
  have e0 : encL ⟨kind, group, frm, to, term, index, logTerm, commit, ok, entries, members, data⟩ ++ r = byteOf kind :: byteOf group :: byteOf frm :: byteOf to :: (varL term.toNat ++ (bodyL ⟨kind, group, frm, to, term, index, logTerm, commit, ok, entries, members, data⟩ ++ r)) := by
    simp [encL, List.append_assoc]
  rw [e0]
  simp only [parseG, byteG_cons, varG_varL (show term.toNat ≤ 9007199254740991 by omega), baseM, byteOf_toNat hk.1 hk.2, byteOf_toNat (show 0 ≤ group by omega) (show group < 256 by omega), byteOf_toNat (show 0 ≤ frm by omega) (show frm < 256 by omega), byteOf_toNat (show 0 ≤ to by omega) (show to < 256 by omega), c0]
  have d1 : index.toNat ≤ 9007199254740991 := by omega
  have d2 : logTerm.toNat ≤ 9007199254740991 := by omega
  have d3 : commit.toNat ≤ 9007199254740991 := by omega
  have tr : ∀ s : List UInt8, byteG (truthL ok ++ s, false) = ((if ok then 1 else 0), (s, false)) := by
    intro s; cases ok <;> rfl
  have tb : ((((if ok then 1 else 0) : Nat) : Int) == 1) = ok := by cases ok <;> rfl
  by_cases k1 : kind = 1
  · simp only [k1, if_true, Bool.and_eq_true, Bool.not_eq_eq_eq_not, Bool.not_true, beq_iff_eq, List.isEmpty_iff] at hr
    obtain ⟨⟨⟨⟨r1, r2⟩, r3⟩, r4⟩, r5⟩ := hr
    subst r1 r2 r3 r4 r5 k1
    simp only [parseG5, bodyL, if_true, List.append_assoc, varG_varL d1, varG_varL d2, c1, c2]
  by_cases k2 : kind = 2
  · simp only [k1, k2, if_true, if_false, Bool.and_eq_true, beq_iff_eq, List.isEmpty_iff, show ¬ ((2 : Int) = 1) by omega] at hr
    obtain ⟨⟨⟨⟨⟨r1, r2⟩, r3⟩, r4⟩, r5⟩, r6⟩ := hr
    subst r1 r2 r3 r4 r5 r6 k2
    simp only [parseG5, bodyL, if_true, if_false, show ¬ ((2 : Int) = 1) by omega, List.append_assoc, tr, tb]
  by_cases k3 : kind = 3
  · simp only [k3, if_true, if_false, Bool.and_eq_true, Bool.not_eq_eq_eq_not, Bool.not_true, beq_iff_eq, List.isEmpty_iff, show ¬ ((3 : Int) = 1) by omega, show ¬ ((3 : Int) = 2) by omega, entsB, decide_eq_true_eq] at hr
    obtain ⟨⟨⟨⟨r1, r2⟩, r3⟩, r4⟩, r5, r6⟩ := hr
    subst r1 r2 r3 k3
    have hG : entG (index + 1) entries := by
      intro j hj
      rw [List.all_eq_true] at r6
      have := r6 (entries[j], j) (by rw [List.mem_iff_getElem?]; exact ⟨j, by simp [hj]⟩)
      simp only [entOk, entB, Bool.and_eq_true, countB, decide_eq_true_eq, beq_iff_eq] at this
      obtain ⟨⟨⟨⟨⟨a1, a2⟩, a3⟩, a4⟩, a5⟩, a6⟩ := this
      refine ⟨by omega, by omega, by omega, ?_⟩
      by_cases q1 : entries[j].kind = 1
      · simp only [q1, if_true, decide_eq_true_eq] at a4; omega
      by_cases q2 : entries[j].kind = 2
      · simp only [q2, if_true, if_false, decide_eq_true_eq, show ¬ ((2 : Int) = 1) by omega] at a4; omega
      by_cases q3 : entries[j].kind = 3
      · simp only [q3, if_true, if_false, show ¬ ((3 : Int) = 1) by omega, show ¬ ((3 : Int) = 2) by omega] at a4
        have := memB_len a4
        rw [nums_len] at this
        omega
      simp [q1, q2, q3] at a4
    simp only [parseG5, bodyL, if_true, if_false, show ¬ ((3 : Int) = 1) by omega, show ¬ ((3 : Int) = 2) by omega, List.append_assoc, varG_varL d1, varG_varL d2, varG_varL d3, varG_varL (show entries.length ≤ 9007199254740991 by omega), show min entries.length 65 = entries.length by omega, c1, c2, c3, entsG_entsL entries (index + 1) r hG]
  by_cases k4 : kind = 4
  · simp only [k4, if_true, if_false, Bool.and_eq_true, beq_iff_eq, List.isEmpty_iff, show ¬ ((4 : Int) = 1) by omega, show ¬ ((4 : Int) = 2) by omega, show ¬ ((4 : Int) = 3) by omega] at hr
    obtain ⟨⟨⟨⟨r1, r2⟩, r3⟩, r4⟩, r5⟩ := hr
    subst r1 r2 r3 r4 r5 k4
    simp only [parseG5, bodyL, if_true, if_false, show ¬ ((4 : Int) = 1) by omega, show ¬ ((4 : Int) = 2) by omega, show ¬ ((4 : Int) = 3) by omega, List.append_assoc, tr, tb, varG_varL d1, c1]
  by_cases k5 : kind = 5
  · simp only [k5, if_true, if_false, Bool.and_eq_true, Bool.not_eq_eq_eq_not, Bool.not_true, beq_iff_eq, List.isEmpty_iff, decide_eq_true_eq, show ¬ ((5 : Int) = 1) by omega, show ¬ ((5 : Int) = 2) by omega, show ¬ ((5 : Int) = 3) by omega, show ¬ ((5 : Int) = 4) by omega] at hr
    obtain ⟨⟨⟨⟨⟨r1, r2⟩, r3⟩, r4⟩, r5⟩, r6⟩ := hr
    subst r1 r2 r4 k5
    have hM : nums (members.map byteOf) = members := by
      refine nums_map (fun x hx => ?_)
      simp only [memB, Bool.and_eq_true, List.all_eq_true, List.mem_range] at r5
      obtain ⟨j, hj, rfl⟩ := List.mem_iff_getElem.1 hx
      have := r5.2 j hj
      simp only [goodAt, Bool.and_eq_true, nodeB, decide_eq_true_eq, List.getD_eq_getElem?_getD, List.getElem?_eq_getElem hj, Option.getD_some] at this
      omega
    have h5 := memB_len r5
    have e5 : varL members.length ++ (members.map byteOf ++ (textL data ++ r)) = textL (members.map byteOf) ++ (textL data ++ r) := by simp [textL, List.append_assoc]
    simp only [parseG5, bodyL, if_true, if_false, show ¬ ((5 : Int) = 1) by omega, show ¬ ((5 : Int) = 2) by omega, show ¬ ((5 : Int) = 3) by omega, show ¬ ((5 : Int) = 4) by omega, List.append_assoc, varG_varL d1, varG_varL d2, c1, c2, e5, textG_textL (show (members.map byteOf).length ≤ 9007199254740991 by simp; omega), textG_textL (show data.length ≤ 9007199254740991 by omega), hM]
  simp [k1, k2, k3, k4, k5] at hr

/-- which bytes are a message -/
def IsMsg (m : RM) (b : List UInt8) : Prop := rightB m = true ∧ encL m = b
theorem ok_iff {b : List UInt8} {r : RM × RS} (hp : ∀ m, rightB m = true → encL m = b → r = (m, ([], false))) : (r.2.2 = false ∧ rightB r.1 = true ∧ encL r.1 = b) ↔ ∃ m, IsMsg m b := by
  constructor
  · rintro ⟨_, h1, h2⟩
    exact ⟨r.1, h1, h2⟩
  · rintro ⟨m, h1, h2⟩
    have := hp m h1 h2
    subst this
    exact ⟨rfl, h1, h2⟩
theorem parse_of {m : RM} {b : List UInt8} (h1 : rightB m = true) (h2 : encL m = b) : parse b = (m, ([], false)) := by
  have := parse_encL (r := []) h1
  rwa [List.append_nil, h2] at this
theorem parseG_of {m : RM} {b : List UInt8} (h1 : rightB m = true) (h2 : encL m = b) : parseG b = (m, ([], false)) := by
  have := parseG_encL (r := []) h1
  rwa [List.append_nil, h2] at this
theorem more_not {m : RM} {r : List UInt8} (h1 : rightB m = true) (hr : r ≠ []) : ¬ ∃ m', IsMsg m' (encL m ++ r) := by
  rintro ⟨m', h2, h3⟩
  have e1 := parse_encL (r := r) h1
  have e2 := parse_of h2 h3
  rw [e1] at e2
  simp only [Prod.mk.injEq] at e2
  exact hr e2.2.1
theorem less_not {m : RM} {n : Nat} (h1 : rightB m = true) (hn : n < (encL m).length) : ¬ ∃ m', IsMsg m' ((encL m).take n) := by
  rintro ⟨m', h2, h3⟩
  have e1 := parse_encL (r := (encL m).drop n) h2
  rw [h3, List.take_append_drop] at e1
  have e2 := parse_of h1 rfl
  rw [e1] at e2
  simp only [Prod.mk.injEq] at e2
  have := congrArg List.length e2.2.1
  rw [List.length_drop] at this
  simp at this
  omega

end Go.Proofs.Ytfeonffmeajpgaa
