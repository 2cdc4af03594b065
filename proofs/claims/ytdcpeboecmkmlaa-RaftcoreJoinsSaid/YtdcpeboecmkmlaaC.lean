/-
  Copies of entries; lists held against each other.
-/
-- S4
import Derived.Test.YtdcpeboecmkmlaaB
set_option linter.unusedSimpArgs false
set_option linter.unusedVariables false
namespace Go.Proofs.Ytdcpeboecmkmlaa
open Go.SL
set_option maxRecDepth 10000

section
variable {ω : Om} {I : Imm} {L : LH} {K : Value → M}

theorem bs_I {v : Value} {l : List UInt8} {I0 : Imm} {X : LH} (h : Bytes I0 v l) (hk : K (.string ⟨l.toArray⟩) I L) : Rv (some (Stay I0 X)) (bsR v) K I L :=
  ⟨_, fun I' L' hS => Bytes.str (h.mono hS.1), hk⟩
theorem rfollows_spec {index term : Int} {v : Value} {es : List LE} (h : Ents I v es) (hlen : es.length < 4611686018427387904) (hk : ∀ I' b, Ext I I' → (countB index = true → b = followB index term es) → K (.bool b) I' L) : Cal Try.prog ω 65 #[.int .i64 index, .int .i64 term, v] K I L := by
  refine cal65 ?_
  have hln := RL.len h
  unfold sh65
  refine loop (fun m s I' L' => Ext I I' ∧ L' = L ∧ ∃ (k : Nat) (t : Int), k + m = es.length ∧ s = (.int .i64 t, .bool false, .int .i64 k, ()) ∧ (countB index = true → followB (index + k) t (es.drop k) = followB index term es)) es.length ⟨Ext.refl I, rfl, 0, term, by omega, rfl, by simp⟩ ?_
  rintro m s I' L' ⟨hI, rfl, k, t, hkm, rfl, hf⟩
  unfold sh65_3
  simp only [hln, SSe, List.getElem?_toArray, List.getElem?_cons_zero, List.getElem?_cons_succ, Nat.zero_add, Nat.add_zero, Nat.zero_mul]
  refine br_split (fun hlt => ?_) (fun hlt => ?_)
  · simp at hlt
    obtain ⟨b, off, c, hix, hcl, ⟨dv, rfl, hB⟩, hc⟩ := RL.ix h (i := k) (by omega) (by omega)
    simp only [hix, SSe, List.getElem?_toArray, List.getElem?_cons_zero, List.getElem?_cons_succ, Nat.zero_add, Nat.add_zero, Nat.zero_mul]
    refine rdN hcl (hc I' _ hI (fun _ h => by cases h)) ?_
    refine call (rentry_spec (e := geti es (k : Int)) ⟨_, rfl, hB.mono hI⟩ (fun I2 hI2 => ?_))
    rw [drop_geti hlt, followB] at hf
    have hc2 : Cells I2 L' b off _ := hc I2 L' (hI.trans hI2) (fun _ h => by cases h)
    have c0 := hc2 0 _ rfl
    have c1 := hc2 1 _ rfl
    simp only [Nat.add_zero] at c0
    obtain ⟨z, hz, hzi⟩ : ∃ z, IntKind.i64.wrap (IntKind.i64.wrap (index + 1) + k) = z ∧ (countB index = true → z = index + 1 + k) := ⟨_, rfl, fun hi => by
      simp only [countB, decide_eq_true_eq] at hi
      rw [wrap_i64 (index + 1) (by omega), wrap_i64 (index + 1 + k) (by omega)]⟩
    repeat' (first | (with_reducible refine drawC ?_) | (with_reducible refine keepC (by first | exact Ext.refl _ | assumption) ?_) | (with_reducible refine gd_split (fun _ => ?_) (fun _ => ?_)) | (with_reducible refine br_split (fun _ => ?_) (fun _ => ?_)) | (with_reducible refine newI (fun _ => ?_)) | (refine rd1 c0 ?_) | (refine rd1 c1 ?_) | (with_reducible refine unfE (sh65_3.eq_1 ..) ?_) | (with_reducible refine unfE (sh65.eq_1 ..) ?_) | first | refine rdb ?_ | refine st1 rfl ?_ | refine rdB rfl ?_ | refine rdbS ?_ | refine rdBS rfl ?_ | (simp only [SSe, List.getElem?_toArray, List.getElem?_cons_zero, List.getElem?_cons_succ, Nat.zero_add, Nat.add_zero, Nat.zero_mul, hix, hz]))
    all_goals first
      | (refine Gh.done ?_
         refine ⟨m - 1, by omega, hI.trans hI2, rfl, k + 1, (geti es (k : Int)).term, by omega, by rw [wrap_i64 ((k : Int) + 1) (by omega)]; simp, ?_⟩
         intro hi
         have hf := hf hi
         simp only [countB, decide_eq_true_eq] at hi
         have hzi := hzi (by simp [countB]; omega)
         rw [← hf]
         clear hf
         subst hzi
         simp_all [Int.add_assoc] <;> omega)
      | (refine Gh.done (hk I2 _ (hI.trans hI2) ?_)
         intro hi
         have hf := hf hi
         simp only [countB, decide_eq_true_eq] at hi
         have hzi := hzi (by simp [countB]; omega)
         rw [← hf]
         clear hf
         subst hzi
         simp_all <;> omega)
  · simp at hlt
    rw [List.drop_of_length_le (by omega), followB] at hf
    exact Gh.done (hk I' _ hI hf)

theorem own_spec {e : LE} {c : List Value} (he : LeV I e c) (hb : e.data.length ≤ 140737488355328) (hk : ∀ c' I', Ext I I' → LeV I' e c' → K (.agg c'.toArray) I' L) : Cal Try.prog ω 57 #[.agg c.toArray] K I L := by
  obtain ⟨bv, rfl, hB⟩ := he
  obtain ⟨a0, cap0, rfl⟩ := hB.form
  refine cal57 ?_
  unfold sh57
  refine newI (fun b1 => newI (fun b2 => ?_))
  try simp only [SSe, List.getElem?_toArray, List.getElem?_cons_zero, List.getElem?_cons_succ, Nat.zero_add, Nat.add_zero, Nat.zero_mul]
  refine draw (Stay I _) (Stay.start I _) ?_
  refine rdbS ?_
  try simp only [SSe, List.getElem?_toArray, List.getElem?_cons_zero, List.getElem?_cons_succ, Nat.zero_add, Nat.add_zero, Nat.zero_mul]
  refine mk_own (ln := 0) (by omega) (by omega) (by omega) (fun X v hX => ?_)
  refine keepS (Ext.refl I) (fun x hx => List.mem_append_right _ hx) ?_
  refine rdbS ?_
  refine app_own rfl hX (SlI.news hB) (u8s_one _) (by omega) (by omega) (fun X' v' hX' => ?_)
  obtain ⟨a1, cap1, rfl⟩ := hX'.form
  refine st1 rfl ?_
  refine rdB rfl ?_
  refine stB rfl rfl (one_all rfl) ?_
  refine rdB rfl ?_
  refine SlO.freeze hX' (fun I' hI hS => ?_)
  refine Gh.drop (L' := L) (by simp) (Gh.done (hk _ I' hI ⟨_, rfl, ?_⟩))
  simpa [Bytes, Builtin.zeroCells] using hS

/-- one entry more -/
theorem ent_app {X6 L0 F : LH} [SplitL X6 L0 F] {v : Value} {es : List LE} {e : LE} {c cells : List Value} {K : Value → M} (h6 : SlO 59 4 X6 v cells es.length) (hR : Recs (LeV I) 4 es cells) (he : LeV I e c) (hl : (es.length + 1) * 48 ≤ 150000000000000)
    (hk : ∀ X1 X6' v' cells', SlO 59 4 X6' v' cells' (es ++ [e]).length → Recs (LeV I) 4 (es ++ [e]) cells' → K v' I (X6' ++ (X1 ++ F))) :
    BldS 59 4 #[(Value.int .i64 0), (Value.int .i64 0), (Value.int .i64 0), (Value.slice none 0 0)] 1 [(0, .agg c.toArray)] (gh fun u => App 59 4 48 #[(Value.int .i64 0), (Value.int .i64 0), (Value.int .i64 0), (Value.slice none 0 0)] v u (gh K)) I L0 := by
  refine bld_one rfl (by omega) (by obtain ⟨_, rfl, _⟩ := he; rfl) (fun X1 u hX1 => ?_)
  refine app_own (X := X6) rfl h6 (hX1.news (fun x hx => List.mem_append_left _ hx)) (fun u hu => LeV.one he u (by simpa [Value.cells] using hu)) (by omega) (by omega) (fun X' v' hX' => ?_)
  exact hk X1 X' v' _ (by simpa [Value.cells] using hX') (Recs.append hR (Recs.one (by simpa [Value.cells] using LeV.len he) (by simpa [Value.cells] using he)))

theorem owned_spec {v : Value} {es : List LE} (h : LsV I L v es) (hb : ∀ e ∈ es, e.data.length ≤ 140737488355328) (hlen : es.length * 48 ≤ 150000000000000) (hk : ∀ X v' cells I', Ext I I' → SlO 59 4 X v' cells es.length → Recs (LeV I') 4 es cells → K v' I' (X ++ L)) : Cal Try.prog ω 61 #[v] K I L := by
  refine cal61 ?_
  have hln := RL.len h
  unfold sh61
  simp only [hln, SSe, List.getElem?_toArray, List.getElem?_cons_zero, List.getElem?_cons_succ, Nat.zero_add, Nat.add_zero, Nat.zero_mul]
  refine mk_own (ln := 0) (by omega) (by omega) (by omega) (fun X w hX => ?_)
  refine loop (fun m s I' L' => Ext I I' ∧ ∃ (k : Nat) (w : Value) (X6 : LH) (cells : List Value), k + m = es.length ∧ s = (w, .int .i64 k, ()) ∧ SlO 59 4 X6 w cells (es.take k).length ∧ Recs (LeV I') 4 (es.take k) cells ∧ L' = X6 ++ L) es.length ⟨Ext.refl I, 0, w, X, _, by omega, rfl, by simpa [Builtin.zeroCells] using hX, rfl, rfl⟩ ?_
  rintro m s I' L' ⟨hI, k, w, X6, cells, hkm, rfl, h6, hR, rfl⟩
  unfold sh61_3
  try simp only [SSe, List.getElem?_toArray, List.getElem?_cons_zero, List.getElem?_cons_succ, Nat.zero_add, Nat.add_zero, Nat.zero_mul]
  refine br_split (fun hlt => ?_) (fun hlt => ?_)
  · simp at hlt
    obtain ⟨b, off, c, hix, hcl, ⟨dv, rfl, hB⟩, hc⟩ := RL.ix h (i := k) (by omega) (by omega)
    simp only [hix, SSe, List.getElem?_toArray, List.getElem?_cons_zero, List.getElem?_cons_succ, Nat.zero_add, Nat.add_zero, Nat.zero_mul]
    refine rdN hcl (hc I' _ hI (fun x hx => List.mem_append_right _ hx)) ?_
    refine newI (fun b1 => ?_)
    have hB' := hB
    obtain ⟨_, _, rfl⟩ := hB'.form
    refine stB rfl rfl (one_all rfl) ?_
    refine rdB rfl ?_
    refine call (own_spec (e := geti es (k : Int)) ⟨_, rfl, hB.mono hI⟩ (hb _ (by rw [geti_nat hlt]; exact List.getElem_mem hlt)) (fun c' I2 hI2 hc' => ?_))
    refine ent_app (X6 := X6) h6 (hR.imp fun _ _ h => h.mono hI2) hc' (by rw [List.length_take]; omega) (fun X1 X6' v' cells' h6' hR' => ?_)
    simp only [SSe, List.getElem?_toArray, List.getElem?_cons_zero, List.getElem?_cons_succ, Nat.zero_add, Nat.add_zero, Nat.zero_mul, wrap_i64 ((k : Int) + 1) (by omega)]
    rw [← take_geti hlt] at h6' hR'
    refine Gh.to (X6' ++ L) (Gh.done ?_)
    exact ⟨m - 1, by omega, hI.trans hI2, k + 1, v', X6', cells', by omega, by simp, h6', hR', rfl⟩
  · simp at hlt
    rw [List.take_of_length_le (by omega)] at h6 hR
    exact Gh.done (hk X6 w cells I' hI h6 hR)

theorem sameints_spec {va vb : Value} {l : List Int} (ha : Ints I va l) (hb : Ints I vb l) (hlen : l.length < 4611686018427387904) (hk : K (.bool true) I L) : Cal Try.prog ω 53 #[va, vb] K I L := by
  refine cal53 ?_
  have hla := Ints.len ha
  have hlb := Ints.len hb
  unfold sh53
  simp only [hla, hlb, SSe, List.getElem?_toArray, List.getElem?_cons_zero, List.getElem?_cons_succ, Nat.zero_add, Nat.add_zero, Nat.zero_mul, bne_self_eq_false]
  refine loop (fun m s I' L' => I' = I ∧ L' = L ∧ ∃ k : Nat, k + m = l.length ∧ s = (.bool false, .int .i64 k, ())) l.length ⟨rfl, rfl, 0, by omega, rfl⟩ ?_
  rintro m s I' L' ⟨rfl, rfl, k, hkm, rfl⟩
  unfold sh53_3
  simp only [hla, hlb, SSe, List.getElem?_toArray, List.getElem?_cons_zero, List.getElem?_cons_succ, Nat.zero_add, Nat.add_zero, Nat.zero_mul]
  refine br_split (fun hlt => ?_) (fun hlt => Gh.done hk)
  simp at hlt
  obtain ⟨b, off, hix, hc⟩ := ints_at ha (i := k) (by omega) (by omega)
  obtain ⟨b2, off2, hix2, hc2⟩ := ints_at hb (i := k) (by omega) (by omega)
  refine draw (Stay I' L') (Stay.start I' L') ?_
  simp only [hix, hix2, SSe, List.getElem?_toArray, List.getElem?_cons_zero, List.getElem?_cons_succ, Nat.zero_add, Nat.add_zero, Nat.zero_mul]
  refine rd1I (hc I' L' (Ext.refl I')) ?_
  refine rd1I (hc2 I' L' (Ext.refl I')) ?_
  simp only [SSe, List.getElem?_toArray, List.getElem?_cons_zero, List.getElem?_cons_succ, Nat.zero_add, Nat.add_zero, Nat.zero_mul, bne_self_eq_false, wrap_i64 ((k : Int) + 1) (by omega)]
  refine Gh.done ?_
  exact ⟨m - 1, by omega, rfl, rfl, k + 1, by omega, by simp⟩

theorem sameents_spec {va vb : Value} {es : List LE} (ha : LsV I L va es) (hb : LsV I L vb es) (hlen : es.length < 4611686018427387904) (hk : K (.bool true) I L) : Cal Try.prog ω 30 #[va, vb] K I L := by
  refine cal30 ?_
  have hla := RL.len ha
  have hlb := RL.len hb
  unfold sh30
  simp only [hla, hlb, SSe, List.getElem?_toArray, List.getElem?_cons_zero, List.getElem?_cons_succ, Nat.zero_add, Nat.add_zero, Nat.zero_mul, bne_self_eq_false]
  refine loop (fun m s I' L' => I' = I ∧ L' = L ∧ ∃ k : Nat, k + m = es.length ∧ s = (.bool false, .int .i64 k, ())) es.length ⟨rfl, rfl, 0, by omega, rfl⟩ ?_
  rintro m s I' L' ⟨rfl, rfl, k, hkm, rfl⟩
  unfold sh30_3
  simp only [hla, hlb, SSe, List.getElem?_toArray, List.getElem?_cons_zero, List.getElem?_cons_succ, Nat.zero_add, Nat.add_zero, Nat.zero_mul]
  refine br_split (fun hlt => ?_) (fun hlt => Gh.done hk)
  simp at hlt
  obtain ⟨b, off, c, hix, hcl, ⟨dv, rfl, hB⟩, hc⟩ := RL.ix ha (i := k) (by omega) (by omega)
  obtain ⟨b2, off2, c2, hix2, hcl2, ⟨dv2, rfl, hB2⟩, hc2⟩ := RL.ix hb (i := k) (by omega) (by omega)
  have hc := hc I' L' (Ext.refl I') (fun _ h => h)
  have hc2 := hc2 I' L' (Ext.refl I') (fun _ h => h)
  have c0 := hc 0 _ rfl
  have d0 := hc2 0 _ rfl
  simp only [Nat.add_zero] at c0 d0
  refine draw (Stay I' L') (Stay.start I' L') ?_
  simp only [hix, hix2, SSe, List.getElem?_toArray, List.getElem?_cons_zero, List.getElem?_cons_succ, Nat.zero_add, Nat.add_zero, Nat.zero_mul]
  refine rd1I c0 ?_
  refine rd1I d0 ?_
  simp only [SSe, List.getElem?_toArray, List.getElem?_cons_zero, List.getElem?_cons_succ, Nat.zero_add, Nat.add_zero, Nat.zero_mul, bne_self_eq_false]
  refine rd1I (hc 1 _ rfl) ?_
  refine rd1I (hc2 1 _ rfl) ?_
  simp only [SSe, List.getElem?_toArray, List.getElem?_cons_zero, List.getElem?_cons_succ, Nat.zero_add, Nat.add_zero, Nat.zero_mul, bne_self_eq_false]
  refine rd1I (hc 2 _ rfl) ?_
  refine rd1I (hc2 2 _ rfl) ?_
  simp only [SSe, List.getElem?_toArray, List.getElem?_cons_zero, List.getElem?_cons_succ, Nat.zero_add, Nat.add_zero, Nat.zero_mul, bne_self_eq_false]
  refine rd1I (hc 3 _ rfl) ?_
  refine bs_I hB ?_
  refine rd1I (hc2 3 _ rfl) ?_
  refine bs_I hB2 ?_
  simp only [SSe, List.getElem?_toArray, List.getElem?_cons_zero, List.getElem?_cons_succ, Nat.zero_add, Nat.add_zero, Nat.zero_mul, beq_self_eq_true, Bool.not_true, wrap_i64 ((k : Int) + 1) (by omega)]
  refine Gh.done ?_
  exact ⟨m - 1, by omega, rfl, rfl, k + 1, by omega, by simp⟩

end
end Go.Proofs.Ytdcpeboecmkmlaa
