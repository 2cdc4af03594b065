/-
  The document's node: members. Messages, logs, nodes held against each other.
-/
-- S3
import Derived.Test.YtdcpeboecmkmlaaGreatNE
set_option linter.unusedSimpArgs false
set_option linter.unusedVariables false
namespace Go.Proofs.YtdcpeboecmkmlaaGreat
open Go.SL
set_option maxRecDepth 10000

theorem unlike_comm (a b : List Int) : unlikeL a b = unlikeL b a := by
  unfold unlikeL
  congr 1
  congr 1
  funext p
  cases a.contains p <;> cases b.contains p <;> rfl
theorem contains_take {l : List Int} {p : Int} {k : Nat} (h : k < l.length) : (l.take (k + 1)).contains p = ((l.take k).contains p || (geti l (k : Int) == p)) := by
  rw [take_geti h, List.contains_eq_any_beq, List.contains_eq_any_beq, List.any_append]
  simp only [List.any_cons, List.any_nil, Bool.or_false]
  congr 1
  rw [Bool.eq_iff_iff]; simp only [beq_iff_eq]; exact ⟨Eq.symm, Eq.symm⟩

section
variable {ω : Om} {I : Imm} {L : LH} {K : Value → M}

theorem qunlike_spec {av bv : Value} {l j : List Int} (ha : Ints I av l) (hb : Ints I bv j) (hla : l.length < 4611686018427387904) (hlb : j.length < 4611686018427387904) (hk : K (.int .i64 (unlikeL l j)) I L) : Cal Tryz.prog ω 65 #[av, bv] K I L := by
  have hna := Ints.len ha
  have hnb := Ints.len hb
  refine cal65 ?_
  unfold sh65
  refine loop (fun m s I' L' => I' = I ∧ L' = L ∧ ∃ i : Nat, i + m = 5 ∧ s = (.int .i64 ((([1, 2, 3, 4, 5] : List Int).take i).filter fun p : Int => l.contains p != j.contains p).length, .int .i64 (i + 1), ())) 5 ⟨rfl, rfl, 0, by omega, rfl⟩ ?_
  rintro m s I' L' ⟨rfl, rfl, i, hi, rfl⟩
  unfold sh65_3
  try simp only [SSd, List.getElem?_toArray, List.getElem?_cons_zero, List.getElem?_cons_succ, Nat.zero_add, Nat.add_zero, Nat.zero_mul, List.drop_succ_cons, List.drop_zero, List.take_succ_cons, List.take_zero, List.nil_append, List.cons_append, Nat.reduceAdd, List.drop_nil, List.take_nil]
  refine br_split (fun hlt => ?_) (fun hlt => ?_)
  · simp at hlt
    have hc : i = 0 ∨ i = 1 ∨ i = 2 ∨ i = 3 ∨ i = 4 := by omega
    have hfl := List.length_filter_le (fun p : Int => l.contains p != j.contains p) (([1, 2, 3, 4, 5] : List Int).take i)
    rw [List.length_take] at hfl
    have hts : ([1, 2, 3, 4, 5] : List Int).take (i + 1) = ([1, 2, 3, 4, 5] : List Int).take i ++ [((i : Int) + 1)] := by
      rcases hc with rfl | rfl | rfl | rfl | rfl <;> rfl
    refine loop (fun m2 s I2 L2 => I2 = I' ∧ L2 = L' ∧ ∃ k : Nat, k + m2 = l.length ∧ s = (.bool ((l.take k).contains ((i : Int) + 1)), .int .i64 k, ())) l.length ⟨rfl, rfl, 0, by omega, rfl⟩ ?_
    rintro m2 s I2 L2 ⟨rfl, rfl, k, hk2, rfl⟩
    unfold sh65_11
    simp only [hna, SSd, List.getElem?_toArray, List.getElem?_cons_zero, List.getElem?_cons_succ, Nat.zero_add, Nat.add_zero, Nat.zero_mul, List.drop_succ_cons, List.drop_zero, List.take_succ_cons, List.take_zero, List.nil_append, List.cons_append, Nat.reduceAdd, List.drop_nil, List.take_nil]
    refine br_split (fun hlt2 => ?_) (fun hlt2 => ?_)
    · simp at hlt2
      have hct := contains_take (p := (i : Int) + 1) hlt2
      refine gd_split (fun hx => ?_) (fun hx => ?_)
      · obtain ⟨b2, off, hix, hc2⟩ := ints_at ha (i := k) (by omega) (by omega)
        simp only [hix, SSd, List.getElem?_toArray, List.getElem?_cons_zero, List.getElem?_cons_succ, Nat.zero_add, Nat.add_zero, Nat.zero_mul, List.drop_succ_cons, List.drop_zero, List.take_succ_cons, List.take_zero, List.nil_append, List.cons_append, Nat.reduceAdd, List.drop_nil, List.take_nil]
        refine rd1 (hc2 _ _ (Ext.refl _)) ?_
        simp only [SSd, List.getElem?_toArray, List.getElem?_cons_zero, List.getElem?_cons_succ, Nat.zero_add, Nat.add_zero, Nat.zero_mul, List.drop_succ_cons, List.drop_zero, List.take_succ_cons, List.take_zero, List.nil_append, List.cons_append, Nat.reduceAdd, List.drop_nil, List.take_nil, wrap_i64 ((k : Int) + 1) (by omega)]
        exact Gh.done ⟨m2 - 1, by omega, rfl, rfl, k + 1, by omega, by rw [hct, hx]; simp⟩
      · simp only [SSd, List.getElem?_toArray, List.getElem?_cons_zero, List.getElem?_cons_succ, Nat.zero_add, Nat.add_zero, Nat.zero_mul, List.drop_succ_cons, List.drop_zero, List.take_succ_cons, List.take_zero, List.nil_append, List.cons_append, Nat.reduceAdd, List.drop_nil, List.take_nil, wrap_i64 ((k : Int) + 1) (by omega)]
        have hx : (l.take k).contains ((i : Int) + 1) = true := by simpa using hx
        exact Gh.done ⟨m2 - 1, by omega, rfl, rfl, k + 1, by omega, by rw [hct, hx]; simp⟩
    · simp at hlt2
      have e1 : l.take k = l := List.take_of_length_le (by omega)
      rw [e1]
      unfold sh65_6
      refine loop (fun m3 s I3 L3 => I3 = I2 ∧ L3 = L2 ∧ ∃ k : Nat, k + m3 = j.length ∧ s = (.bool ((j.take k).contains ((i : Int) + 1)), .int .i64 k, ())) j.length ⟨rfl, rfl, 0, by omega, rfl⟩ ?_
      rintro m3 s I3 L3 ⟨rfl, rfl, k, hk3, rfl⟩
      unfold sh65_9
      simp only [hnb, SSd, List.getElem?_toArray, List.getElem?_cons_zero, List.getElem?_cons_succ, Nat.zero_add, Nat.add_zero, Nat.zero_mul, List.drop_succ_cons, List.drop_zero, List.take_succ_cons, List.take_zero, List.nil_append, List.cons_append, Nat.reduceAdd, List.drop_nil, List.take_nil]
      refine br_split (fun hlt3 => ?_) (fun hlt3 => ?_)
      · simp at hlt3
        have hct := contains_take (p := (i : Int) + 1) hlt3
        refine gd_split (fun hx => ?_) (fun hx => ?_)
        · obtain ⟨b2, off, hix, hc2⟩ := ints_at hb (i := k) (by omega) (by omega)
          simp only [hix, SSd, List.getElem?_toArray, List.getElem?_cons_zero, List.getElem?_cons_succ, Nat.zero_add, Nat.add_zero, Nat.zero_mul, List.drop_succ_cons, List.drop_zero, List.take_succ_cons, List.take_zero, List.nil_append, List.cons_append, Nat.reduceAdd, List.drop_nil, List.take_nil]
          refine rd1 (hc2 _ _ (Ext.refl _)) ?_
          simp only [SSd, List.getElem?_toArray, List.getElem?_cons_zero, List.getElem?_cons_succ, Nat.zero_add, Nat.add_zero, Nat.zero_mul, List.drop_succ_cons, List.drop_zero, List.take_succ_cons, List.take_zero, List.nil_append, List.cons_append, Nat.reduceAdd, List.drop_nil, List.take_nil, wrap_i64 ((k : Int) + 1) (by omega)]
          exact Gh.done ⟨m3 - 1, by omega, rfl, rfl, k + 1, by omega, by rw [hct, hx]; simp⟩
        · simp only [SSd, List.getElem?_toArray, List.getElem?_cons_zero, List.getElem?_cons_succ, Nat.zero_add, Nat.add_zero, Nat.zero_mul, List.drop_succ_cons, List.drop_zero, List.take_succ_cons, List.take_zero, List.nil_append, List.cons_append, Nat.reduceAdd, List.drop_nil, List.take_nil, wrap_i64 ((k : Int) + 1) (by omega)]
          have hx : (j.take k).contains ((i : Int) + 1) = true := by simpa using hx
          exact Gh.done ⟨m3 - 1, by omega, rfl, rfl, k + 1, by omega, by rw [hct, hx]; simp⟩
      · simp at hlt3
        have e2 : j.take k = j := List.take_of_length_le (by omega)
        rw [e2]
        unfold sh65_7 sh65_4
        try simp only [SSd, List.getElem?_toArray, List.getElem?_cons_zero, List.getElem?_cons_succ, Nat.zero_add, Nat.add_zero, Nat.zero_mul, List.drop_succ_cons, List.drop_zero, List.take_succ_cons, List.take_zero, List.nil_append, List.cons_append, Nat.reduceAdd, List.drop_nil, List.take_nil]
        refine br_split (fun hq => ?_) (fun hq => ?_)
        · simp only [SSd, List.getElem?_toArray, List.getElem?_cons_zero, List.getElem?_cons_succ, Nat.zero_add, Nat.add_zero, Nat.zero_mul, List.drop_succ_cons, List.drop_zero, List.take_succ_cons, List.take_zero, List.nil_append, List.cons_append, Nat.reduceAdd, List.drop_nil, List.take_nil, wrap_i64 ((i : Int) + 1 + 1) (by omega), wrap_i64 (((([1, 2, 3, 4, 5] : List Int).take i).filter fun p : Int => l.contains p != j.contains p).length + 1) (by omega)]
          refine Gh.done ⟨m - 1, by omega, rfl, rfl, i + 1, by omega, ?_⟩
          rw [hts, List.filter_append, List.length_append, List.filter_cons_of_pos (by simpa using hq)]
          simp
        · simp only [SSd, List.getElem?_toArray, List.getElem?_cons_zero, List.getElem?_cons_succ, Nat.zero_add, Nat.add_zero, Nat.zero_mul, List.drop_succ_cons, List.drop_zero, List.take_succ_cons, List.take_zero, List.nil_append, List.cons_append, Nat.reduceAdd, List.drop_nil, List.take_nil, wrap_i64 ((i : Int) + 1 + 1) (by omega)]
          refine Gh.done ⟨m - 1, by omega, rfl, rfl, i + 1, by omega, ?_⟩
          rw [hts, List.filter_append, List.length_append, List.filter_cons_of_neg (by simpa using hq)]
          simp
  · simp at hlt
    obtain rfl : i = 5 := by omega
    exact Gh.done hk

theorem qunlike_spec' {av bv : Value} {l j : List Int} (ha : Ints I av l) (hb : Ints I bv j) (hla : l.length < 4611686018427387904) (hlb : j.length < 4611686018427387904) (hk : K (.int .i64 (unlikeL j l)) I L) : Cal Tryz.prog ω 65 #[av, bv] K I L :=
  qunlike_spec ha hb hla hlb (by rw [unlike_comm]; exact hk)

theorem qchange_spec {b E B : Nat} {X F : LH} {r : RF} {lv : Value} {l : List Int} (h : RaftQ I b X r) (hw : RWF E B r) (hE : (E + 1) * 48 ≤ 150000000000000) (ho : r.out = []) (hl : Ints I lv l) (hll : l.length < 4611686018427387904)
    (hk : ∀ X' I', Ext I I' → RaftQ I' b X' (changeF r l).2.2 → K (.tuple #[.int .i64 (changeF r l).1, .int .i64 (changeF r l).2.1]) I' (X' ++ F)) :
    Cal Tryz.prog ω 13 #[.pointer (some ⟨b, 0, none⟩), lv] K I (X ++ F) := by
  obtain ⟨lb, XL, XO, stv, ov, z0, z1, z2, oc, rfl, h1, h2, h3, h4⟩ := h
  have hln := Ints.len hl
  have hcom := hw.wf.com
  have hlast := hw.wf.last
  have h1v := h1
  obtain ⟨mv, elv, rfl, hm0, hE0⟩ := h1
  refine cal13 ?_
  unfold sh13
  simp only [List.cons_append, List.append_assoc, List.nil_append, SSd, List.getElem?_toArray, List.getElem?_cons_zero, List.getElem?_cons_succ, Nat.zero_add, Nat.add_zero, Nat.zero_mul, List.drop_succ_cons, List.drop_zero, List.take_succ_cons, List.take_zero, List.nil_append, List.cons_append, Nat.reduceAdd, List.drop_nil, List.take_nil]
  refine rdb ?_
  try simp only [SSd, List.getElem?_toArray, List.getElem?_cons_zero, List.getElem?_cons_succ, Nat.zero_add, Nat.add_zero, Nat.zero_mul, List.drop_succ_cons, List.drop_zero, List.take_succ_cons, List.take_zero, List.nil_append, List.cons_append, Nat.reduceAdd, List.drop_nil, List.take_nil]
  have bad : ∀ (e : Int) I', changeF r l = (0, e, r) → Ext I I' → Gh (K (.tuple #[.int .i64 0, .int .i64 e])) I' ((b, Obj.cells (qcells r z0 z1 z2 (.pointer (some ⟨lb, 0, none⟩)) stv ov).toArray 63 (0, 0)) :: (lb, Obj.cells #[.int .i64 r.g.index, .int .i64 r.g.term, mv, elv, .int .i64 r.g.commit] 94 (0, 0)) :: (XO ++ F)) := fun e I' hs hI' => by
    rw [hs] at hk
    exact raftq_end (r := r) (XL := [_]) (F := F) z0 z1 z2 (fun X' h' => hk X' I' hI' h') (h1v.mono hI') (h2.mono hI') h3 (h4.imp fun _ _ h => h.mono hI') rfl
  refine br_split (fun h3' => bad 110 I (by rw [changeF, if_pos (by simpa using h3')]) (Ext.refl I)) (fun h3' => ?_)
  have h3' : ¬ r.role ≠ 3 := by simpa using h3'
  rw [changeF, if_neg h3'] at bad hk
  refine call (rmembers_spec hl ?_)
  try simp only [SSd, List.getElem?_toArray, List.getElem?_cons_zero, List.getElem?_cons_succ, Nat.zero_add, Nat.add_zero, Nat.zero_mul, List.drop_succ_cons, List.drop_zero, List.take_succ_cons, List.take_zero, List.nil_append, List.cons_append, Nat.reduceAdd, List.drop_nil, List.take_nil]
  refine br_split (fun hm => bad 1 I (by rw [if_pos (by simpa using hm)]) (Ext.refl I)) (fun hm => ?_)
  have hm : memB l = true := by simpa using hm
  rw [if_neg (by simp [hm])] at bad hk
  have hl5 := memB_len hm
  have hmm := memB_mem hm
  repeat' (first | (with_reducible refine drawC ?_) | (with_reducible refine drawW1 ?_) | (with_reducible refine drawW2 ?_) | (with_reducible refine keepC (by repeat (first | exact Ext.refl _ | assumption | refine Ext.trans ?_ (by assumption))) ?_) | (with_reducible refine newI (fun _ => ?_)) | ((with_reducible refine call ?_); refine (rterm_spec (g := r.g) h1v.view hw.wf.sz (by unfold inI64; omega) ?_)) | ((with_reducible refine call ?_); refine (rchanging_spec (g := r.g) h1v.view hw.wf ?_)) | ((with_reducible refine call ?_); refine (rlmembers_spec (g := r.g) h1v.view hw.wf (fun mv2 I1 hI1 hmv => ?_))) | ((with_reducible refine call ?_); refine (qunlike_spec' hmv (hl.mono hI1) (by have := memB_len hw.wf.mems; omega) (by omega) ?_)) | first | (with_reducible refine rdb ?_) | ((with_reducible refine st1 ?_ ?_); rfl) | ((with_reducible refine rdB ?_ ?_); rfl) | (with_reducible refine rdbS ?_) | ((with_reducible refine rdBS ?_ ?_); rfl) | ((with_reducible refine stB ?_ ?_ ?_ ?_); rfl; rfl; exact one_all rfl) | ((with_reducible refine rdP _ rfl ?_ ?_); rfl) | ((with_reducible refine rdPS _ rfl ?_ ?_); rfl) | ((with_reducible refine stP _ rfl ?_ ?_ ?_ ?_); rfl; rfl; rfl) | (with_reducible refine And.intro ?_ ?_) | (simp only [Bool.not_true, Bool.not_false, Bool.and_self, Bool.true_and, Int.reduceBEq, Int.reduceBNe, Int.reduceLT, Int.reduceLE, decide_true, decide_false, Br_true, Br_false, Gd_tt, Gd_ft, Gd_tf, Gd_ff, beq_self_eq_true, bne_self_eq_false]) | (with_reducible refine gd_split (fun _ => ?_) (fun _ => ?_)) | (with_reducible refine br_split (fun _ => ?_) (fun _ => ?_)) | (simp only [SSd, List.getElem?_toArray, List.getElem?_cons_zero, List.getElem?_cons_succ, Nat.zero_add, Nat.add_zero, Nat.zero_mul, List.drop_succ_cons, List.drop_zero, List.take_succ_cons, List.take_zero, List.nil_append, List.cons_append, Nat.reduceAdd, List.drop_nil, List.take_nil]))
  all_goals rw [show memOf r.g.mem r.g.es = mems r from rfl] at *
  all_goals try (refine bad 111 I1 ?_ hI1; rw [if_pos (by clear bad hk h1v h2 h3 h4 hl hmv; simp_all; try omega)]; done)
  rw [if_neg (by clear bad hk h1v h2 h3 h4 hl hmv; simp_all; try omega)] at hk
  refine loop (fun m s I' L' => I' = I1 ∧ ∃ (k : Nat) (X6 : LH) (v : Value), k + m = l.length ∧ s = (v, .int .i64 k, ()) ∧ SlO 5 1 X6 v (u8s ((l.take k).map byteOf)) ((l.take k).map byteOf).length ∧
      L' = X6 ++ ((b, Obj.cells (qcells r z0 z1 z2 (.pointer (some ⟨lb, 0, none⟩)) stv ov).toArray 63 (0, 0)) :: (lb, Obj.cells #[.int .i64 r.g.index, .int .i64 r.g.term, mv, elv, .int .i64 r.g.commit] 94 (0, 0)) :: (XO ++ F))) l.length ⟨rfl, 0, [], _, by omega, rfl, SlO.none _ _, rfl⟩ ?_
  rintro m s I' L' ⟨rfl, k, X6, v, hkm, rfl, h6, rfl⟩
  unfold sh13_4
  simp only [hln, SSd, List.getElem?_toArray, List.getElem?_cons_zero, List.getElem?_cons_succ, Nat.zero_add, Nat.add_zero, Nat.zero_mul, List.drop_succ_cons, List.drop_zero, List.take_succ_cons, List.take_zero, List.nil_append, List.cons_append, Nat.reduceAdd, List.drop_nil, List.take_nil]
  refine br_split (fun hlt => ?_) (fun hlt => ?_)
  · simp at hlt
    obtain ⟨b2, off, hix, hc2⟩ := ints_at hl (i := k) (by omega) (by omega)
    simp only [hix, SSd, List.getElem?_toArray, List.getElem?_cons_zero, List.getElem?_cons_succ, Nat.zero_add, Nat.add_zero, Nat.zero_mul, List.drop_succ_cons, List.drop_zero, List.take_succ_cons, List.take_zero, List.nil_append, List.cons_append, Nat.reduceAdd, List.drop_nil, List.take_nil]
    refine rd1 (hc2 I' _ hI1) ?_
    simp only [SSd, List.getElem?_toArray, List.getElem?_cons_zero, List.getElem?_cons_succ, Nat.zero_add, Nat.add_zero, Nat.zero_mul, List.drop_succ_cons, List.drop_zero, List.take_succ_cons, List.take_zero, List.nil_append, List.cons_append, Nat.reduceAdd, List.drop_nil, List.take_nil, u8_wrap]
    refine bld_one rfl (by omega) rfl (fun X1 u hX1 => ?_)
    refine app_own (X := X6) rfl h6 (hX1.news (fun x hx => List.mem_append_left _ hx)) (by simp [Value.cells, Value.oneCell']) (by rw [List.length_map, List.length_take]; omega) (by rw [List.length_map, List.length_take]; omega) (fun X' v' hX' => ?_)
    simp only [SSd, List.getElem?_toArray, List.getElem?_cons_zero, List.getElem?_cons_succ, Nat.zero_add, Nat.add_zero, Nat.zero_mul, List.drop_succ_cons, List.drop_zero, List.take_succ_cons, List.take_zero, List.nil_append, List.cons_append, Nat.reduceAdd, List.drop_nil, List.take_nil, wrap_i64 ((k : Int) + 1) (by omega)]
    refine Gh.to (X' ++ ((b, Obj.cells (qcells r z0 z1 z2 (.pointer (some ⟨lb, 0, none⟩)) stv ov).toArray 63 (0, 0)) :: (lb, Obj.cells #[.int .i64 r.g.index, .int .i64 r.g.term, mv, elv, .int .i64 r.g.commit] 94 (0, 0)) :: (XO ++ F))) (Gh.done ⟨m - 1, by omega, rfl, k + 1, X', v', by omega, by simp, ?_, rfl⟩)
    rw [take_geti hlt, List.map_append, List.length_append]
    simpa [Value.cells, u8s] using hX'
  · simp at hlt
    rw [List.take_of_length_le (by omega)] at h6
    unfold sh13_2
    refine call (cal_pre (SlO.freeze h6 (fun I2 hI2 hS => Gh.done ?_)))
    have hI12 := hI1.trans hI2
    refine raftq_cal (r := r) (XL := [_]) b F z0 z1 z2 (h1v.mono hI12) (h2.mono hI12) h3 (h4.imp fun _ _ h => h.mono hI12) rfl (fun X hX => ?_)
    refine qadd_spec hX hw hE ho (d := l.map byteOf) hS (fun X' I3 hI3 hX' => ?_)
    try simp only [SSd, List.getElem?_toArray, List.getElem?_cons_zero, List.getElem?_cons_succ, Nat.zero_add, Nat.add_zero, Nat.zero_mul, List.drop_succ_cons, List.drop_zero, List.take_succ_cons, List.take_zero, List.nil_append, List.cons_append, Nat.reduceAdd, List.drop_nil, List.take_nil]
    exact Gh.done (hk X' I3 (hI12.trans hI3) hX')

theorem samemsg_spec {m : RM} {c d : List Value} (h : MsgV I m c) (h' : MsgV I m d) (h64 : m.ents.length ≤ 100) (h5 : m.mem.length ≤ 100) (hk : K (.bool true) I L) : Cal Tryz.prog ω 77 #[.agg c.toArray, .agg d.toArray] K I L := by
  obtain ⟨a0, p0, a1, p1, a2, p2, rfl, hE, hM, hD⟩ := h.form
  obtain ⟨b0, q0, b1, q1, b2, q2, rfl, hE', hM', hD'⟩ := h'.form
  refine cal77 ?_
  unfold sh77
  repeat' (first | (with_reducible refine drawC ?_) | (with_reducible refine drawW1 ?_) | (with_reducible refine drawW2 ?_) | (with_reducible refine keepC (by repeat (first | exact Ext.refl _ | assumption | refine Ext.trans ?_ (by assumption))) ?_) | (with_reducible refine newI (fun _ => ?_)) | ((with_reducible refine call ?_); refine (sameents_spec (es := m.ents) (Ents.to hE (Ext.refl _)) (Ents.to hE' (Ext.refl _)) (by omega) ?_)) | ((with_reducible refine call ?_); refine (sameints_spec hM hM' (by omega) ?_)) | (refine bs_N hD (Ext.refl _) ?_) | (refine bs_N hD' (Ext.refl _) ?_) | first | (with_reducible refine rdb ?_) | ((with_reducible refine st1 ?_ ?_); rfl) | ((with_reducible refine rdB ?_ ?_); rfl) | (with_reducible refine rdbS ?_) | ((with_reducible refine rdBS ?_ ?_); rfl) | ((with_reducible refine stB ?_ ?_ ?_ ?_); rfl; rfl; exact one_all rfl) | ((with_reducible refine rdP _ rfl ?_ ?_); rfl) | ((with_reducible refine rdPS _ rfl ?_ ?_); rfl) | ((with_reducible refine stP _ rfl ?_ ?_ ?_ ?_); rfl; rfl; rfl) | (with_reducible refine And.intro ?_ ?_) | (simp only [Bool.not_true, Bool.not_false, Bool.and_self, Bool.true_and, Int.reduceBEq, Int.reduceBNe, Int.reduceLT, Int.reduceLE, decide_true, decide_false, Br_true, Br_false, Gd_tt, Gd_ft, Gd_tf, Gd_ff, beq_self_eq_true, bne_self_eq_false]) | (with_reducible refine gd_split (fun _ => ?_) (fun _ => ?_)) | (with_reducible refine br_split (fun _ => ?_) (fun _ => ?_)) | (simp only [SSd, List.getElem?_toArray, List.getElem?_cons_zero, List.getElem?_cons_succ, Nat.zero_add, Nat.add_zero, Nat.zero_mul, List.drop_succ_cons, List.drop_zero, List.take_succ_cons, List.take_zero, List.nil_append, List.cons_append, Nat.reduceAdd, List.drop_nil, List.take_nil]))
  all_goals first
    | (refine Gh.to L (Gh.done (leafB hk ?_)); simp; done)
    | (exfalso; simp_all; done)

theorem samemsgs_spec {v w : Value} {l : List RM} (h : Msgs I [] v l) (h' : Msgs I [] w l) (hl : l.length < 4611686018427387904) (hb : ∀ m ∈ l, m.ents.length ≤ 100 ∧ m.mem.length ≤ 100) (hk : K (.bool true) I L) : Cal Tryz.prog ω 23 #[v, w] K I L := by
  have hn := RL.len h
  have hn' := RL.len h'
  refine cal23 ?_
  unfold sh23
  simp only [hn, hn', SSd, List.getElem?_toArray, List.getElem?_cons_zero, List.getElem?_cons_succ, Nat.zero_add, Nat.add_zero, Nat.zero_mul, List.drop_succ_cons, List.drop_zero, List.take_succ_cons, List.take_zero, List.nil_append, List.cons_append, Nat.reduceAdd, List.drop_nil, List.take_nil, bne_self_eq_false]
  refine loop (fun m s I' L' => I' = I ∧ L' = L ∧ ∃ k : Nat, k + m = l.length ∧ s = (.bool false, .int .i64 k, ())) l.length ⟨rfl, rfl, 0, by omega, rfl⟩ ?_
  rintro m s I' L' ⟨rfl, rfl, k, hkm, rfl⟩
  unfold sh23_3
  simp only [hn, SSd, List.getElem?_toArray, List.getElem?_cons_zero, List.getElem?_cons_succ, Nat.zero_add, Nat.add_zero, Nat.zero_mul, List.drop_succ_cons, List.drop_zero, List.take_succ_cons, List.take_zero, List.nil_append, List.cons_append, Nat.reduceAdd, List.drop_nil, List.take_nil]
  refine br_split (fun hlt => ?_) (fun hlt => Gh.done hk)
  simp at hlt
  haveI : Inhabited RM := ⟨msg0⟩
  obtain ⟨b, off, c, hix, hcl, hm, hc⟩ := RL.ix h (i := k) (by omega) (by omega)
  obtain ⟨b2, off2, d, hix2, hdl, hm2, hd⟩ := RL.ix h' (i := k) (by omega) (by omega)
  have hbb := hb (geti l (k : Int)) (by rw [geti_nat hlt]; exact List.getElem_mem hlt)
  refine drawC ?_
  simp only [hix, hix2, SSd, List.getElem?_toArray, List.getElem?_cons_zero, List.getElem?_cons_succ, Nat.zero_add, Nat.add_zero, Nat.zero_mul, List.drop_succ_cons, List.drop_zero, List.take_succ_cons, List.take_zero, List.nil_append, List.cons_append, Nat.reduceAdd, List.drop_nil, List.take_nil]
  refine rdNI hcl (hc I' L' (Ext.refl _) (fun _ h => by cases h)) ?_
  refine rdNI hdl (hd I' L' (Ext.refl _) (fun _ h => by cases h)) ?_
  refine call (samemsg_spec hm hm2 hbb.1 hbb.2 ?_)
  simp only [SSd, List.getElem?_toArray, List.getElem?_cons_zero, List.getElem?_cons_succ, Nat.zero_add, Nat.add_zero, Nat.zero_mul, List.drop_succ_cons, List.drop_zero, List.take_succ_cons, List.take_zero, List.nil_append, List.cons_append, Nat.reduceAdd, List.drop_nil, List.take_nil, Bool.not_true, wrap_i64 ((k : Int) + 1) (by omega)]
  exact Gh.done ⟨m - 1, by omega, rfl, rfl, k + 1, by omega, by simp⟩
end
end Go.Proofs.YtdcpeboecmkmlaaGreat

namespace Go.Proofs.YtdcpeboecmkmlaaGreat
open Go.SL
set_option maxRecDepth 10000

/-- messages that are sent have few entries -/
def OutOk (r : RF) : Prop := ∀ m ∈ r.out, m.ents.length ≤ 100 ∧ m.mem.length ≤ 100
theorem ok_send {r : RF} (h : OutOk r) {m : RM} (hm : m.ents.length ≤ 100 ∧ m.mem.length ≤ 100) : OutOk (sendF r m) := fun x hx => by
  rcases List.mem_append.1 hx with hx | hx
  · exact h x hx
  · rw [List.mem_singleton] at hx; subst hx; exact hm
theorem ok_same {r r' : RF} (h : OutOk r) (e : r'.out = r.out) : OutOk r' := fun x hx => h x (e ▸ hx)
theorem ok_sendTo {r : RF} (h : OutOk r) (hw : WF r.g) (p : Int) : OutOk (sendToF r p) := by
  unfold sendToF
  split
  · exact ok_send h ⟨by simp [snapM, msg0], by have := memB_len hw.mem; simp only [snapM]; omega⟩
  · refine ok_send h ⟨?_, by simp [appM, msg0]⟩
    simp only [appM, sliceAt]
    split
    · rw [List.length_take]; omega
    · simp
theorem ok_each : ∀ (l : List Int) {r : RF}, OutOk r → WF r.g → OutOk (eachF r l)
  | [], r, h, _ => h
  | p :: l, r, h, hw => by
    rw [each_cons]
    split
    · exact ok_each l h hw
    · exact ok_each l (ok_sendTo h hw p) hw
theorem ok_all {r : RF} (h : OutOk r) (hw : WF r.g) : OutOk (sendAllF r) := by
  unfold sendAllF; split
  · exact ok_each _ h hw
  · exact h
theorem ok_commit {r : RF} (h : OutOk r) : OutOk (commitF r).2 := ok_same h (commit_out r)
section
variable {E B : Nat} {r : RF} {m : RM}
theorem ok_lead (h : OutOk r) (hw : RWF E B r) (hE : (E + 1) * 48 ≤ 150000000000000) : OutOk (leadF r) :=
  ok_all (ok_commit (ok_same (r' := { lead0 r with g := (addG r.g r.term 1 []).2.2 }) h rfl)) (hw.lead0.add (by omega) 1 []).commit.wf
theorem ok_ask : ∀ (l : List Int) {r : RF}, OutOk r → OutOk (askF r l)
  | [], r, h => h
  | p :: l, r, h => by
    rw [ask_cons]
    split
    · exact ok_ask l h
    · exact ok_ask l (ok_send h ⟨by simp [voteM, msg0], by simp [voteM, msg0]⟩)
theorem ok_want (h : OutOk r) (hw : RWF E B r) (hE : (E + 1) * 48 ≤ 150000000000000) : OutOk (wantF r) := by
  unfold wantF; split
  · exact h
  · rename_i ht
    split
    · exact ok_lead (ok_same (r' := want0 r) h rfl) (hw.want0 ht) hE
    · exact ok_ask _ (ok_same (r' := want0 r) h rfl)
theorem ok_tick (h : OutOk r) (hw : RWF E B r) (hE : (E + 1) * 48 ≤ 150000000000000) (w : Int) : OutOk (tickF r w) := by
  have he := hw.ela
  have h' : OutOk { r with elapsed := r.elapsed + 1 } := h
  have hw' : RWF E (B + 1) { r with elapsed := r.elapsed + 1 } := ⟨hw.wf, hw.len, hw.grp, hw.idn, hw.trm, hw.vot, hw.lst, hw.stl, by simp only; omega, hw.nxb, hw.mtb⟩
  unfold tickF; split
  · exact ok_all h hw.wf
  · split
    · exact ok_want h' hw' hE
    · exact h'
theorem ok_add (h : OutOk r) (hw : RWF E B r) (hE : (E + 1) * 48 ≤ 150000000000000) (k : Int) (d : List UInt8) : OutOk (addF r k d).2.2 := by
  unfold addF; simp only; split
  · exact h
  · exact ok_all (ok_commit (ok_same (r' := { r with g := (addG r.g r.term k d).2.2 }) h rfl)) (hw.add (by omega) k d).commit.wf
theorem ok_propose (h : OutOk r) (hw : RWF E B r) (hE : (E + 1) * 48 ≤ 150000000000000) (d : List UInt8) : OutOk (proposeF r d).2.2 := by
  unfold proposeF; split
  · exact h
  · exact ok_add h hw hE _ _
theorem ok_change (h : OutOk r) (hw : RWF E B r) (hE : (E + 1) * 48 ≤ 150000000000000) (l : List Int) : OutOk (changeF r l).2.2 := by
  unfold changeF; split
  · exact h
  · split
    · exact h
    · split
      · exact h
      · exact ok_add h hw hE _ _
theorem ok_voted (h : OutOk r) (m : RM) (b : Bool) : OutOk (sendF r (votedM m b)) := ok_send h ⟨by simp [votedM, msg0], by simp [votedM, msg0]⟩
theorem ok_done (h : OutOk r) (m : RM) (b : Bool) (i : Int) : OutOk (sendF r (doneM m b i)) := ok_send h ⟨by simp [doneM, msg0], by simp [doneM, msg0]⟩
theorem ok_appended (h : OutOk r) (hw : RWF E B r) (hr : RB m) : OutOk (appendedF r m) := by
  have hidx := hr.idx
  have hnx := hw.nxb m.frm
  have hmt := hw.mtb m.frm
  have a1 : OutOk { r with nx := updI r.nx m.frm (max m.index (r.mt m.frm) + 1) } := h
  have a2 : OutOk { r with mt := updI r.mt m.frm (max (r.mt m.frm) m.index), nx := updI r.nx m.frm (max (r.mt m.frm) m.index + 1) } := h
  have hw' : RWF E B { r with mt := updI r.mt m.frm (max (r.mt m.frm) m.index), nx := updI r.nx m.frm (max (r.mt m.frm) m.index + 1) } :=
    ⟨hw.wf, hw.len, hw.grp, hw.idn, hw.trm, hw.vot, hw.lst, hw.stl, hw.ela, fun p => by simp only [updI]; split <;> first | omega | exact hw.nxb p, fun p => by simp only [updI]; split <;> first | omega | exact hw.mtb p⟩
  have h' := ok_commit a2
  have wc := hw'.commit.wf
  have b1 := ok_sendTo a1 hw.wf m.frm
  have b2 := ok_all h' wc
  have b3 := ok_sendTo h' wc m.frm
  unfold appendedF
  simp only
  split
  · split
    · exact b1
    · exact h
  · split
    · exact h
    · split
      · exact b2
      · split
        · exact b3
        · exact h'
theorem ok_handle (h : OutOk r) (hw : RWF E B r) (hE : (E + 64) * 48 ≤ 150000000000000) (hr : RB m) : OutOk (handleF r m) := by
  unfold handleF
  split
  · unfold askedF; simp only; split
    · exact ok_voted (ok_same (r' := { r with vote := m.frm, elapsed := 0 }) h rfl) _ _
    · exact ok_voted h _ _
  · split
    · unfold grantedF; simp only; split
      · have hw' : RWF E B { r with vt := updI r.vt m.frm true } := ⟨hw.wf, hw.len, hw.grp, hw.idn, hw.trm, hw.vot, hw.lst, hw.stl, hw.ela, hw.nxb, hw.mtb⟩
        split
        · exact ok_lead (ok_same (r' := { r with vt := updI r.vt m.frm true }) h rfl) hw' (by omega)
        · exact h
      · exact h
    · split
      · split
        · exact h
        · unfold appendF; simp only; split
          · exact h
          · refine ok_done (ok_same h ?_) _ _ _
            split <;> rfl
      · split
        · split
          · exact h
          · unfold installF; simp only; split
            · exact ok_done (ok_same (r' := hearF r m.frm) h rfl) _ _ _
            · split
              · exact h
              · exact ok_done (ok_same h rfl) _ _ _
        · split
          · split
            · exact ok_appended h hw hr
            · exact h
          · exact h
theorem ok_step (h : OutOk r) (hw : RWF E B r) (hE : (E + 64) * 48 ≤ 150000000000000) (m : RM) : OutOk (stepF r m).2 := by
  unfold stepF; split
  · exact h
  · rename_i hn
    have hr : rightB m = true := by
      cases hb : rightB m
      · exact absurd (.inl hb) hn
      · rfl
    have hR := right_data hr
    split
    · unfold refuseF; split
      · exact ok_voted h _ _
      · split
        · exact ok_done h _ _ _
        · exact h
    · refine ok_handle (ok_same h ?_) (hw.up hR) hE hR
      unfold upF; split <;> rfl
theorem ok_nil (h : r.out = []) : OutOk r := fun m hm => by rw [h] at hm; cases hm
end

section
variable {ω : Om} {I : Imm} {L : LH} {K : Value → M}
theorem slice_all {g : LG} (hw : WF g) {most : Int} (h : most = g.es.length + 1) : sliceAt g (g.index + 1) most = g.es := by
  unfold sliceAt
  by_cases h0 : g.es.length = 0
  · have : g.es = [] := List.eq_nil_of_length_eq_zero h0
    rw [this]; split <;> simp
  · rw [if_pos (by unfold lastI; omega), show (g.index + 1 - g.index - 1).toNat = 0 from by omega, List.drop_zero, List.take_of_length_le (by omega)]

theorem sameLog_spec {b c : Nat} {g : LG} (hV : LogV I L b g) (hQ : LogV I L c g) (hw : WF g) (hk : ∀ I', Ext I I' → K (.bool true) I' L) : Cal Tryz.prog ω 79 #[.pointer (some ⟨b, 0, none⟩), .pointer (some ⟨c, 0, none⟩)] K I L := by
  have hlast := hw.last
  have hwl := hw.len
  have hml := memB_len hw.mem
  obtain ⟨mv0, lv0, hm0, hl0, c0, c1, c2, c3, c4, c5⟩ := hQ.cells
  refine cal79 ?_
  unfold sh79
  try simp only [SSd, List.getElem?_toArray, List.getElem?_cons_zero, List.getElem?_cons_succ, Nat.zero_add, Nat.add_zero, Nat.zero_mul, List.drop_succ_cons, List.drop_zero, List.take_succ_cons, List.take_zero, List.nil_append, List.cons_append, Nat.reduceAdd, List.drop_nil, List.take_nil]
  refine call (start_spec hV hw (fun mv I1 hI1 hm1 => ?_))
  have hm1' := hm1
  obtain ⟨a, cap, rfl⟩ := Ints.form hm1'
  refine newI (fun b1 => ?_)
  refine stB rfl rfl (one_all rfl) ?_
  try simp only [SSd, List.getElem?_toArray, List.getElem?_cons_zero, List.getElem?_cons_succ, Nat.zero_add, Nat.add_zero, Nat.zero_mul, List.drop_succ_cons, List.drop_zero, List.take_succ_cons, List.take_zero, List.nil_append, List.cons_append, Nat.reduceAdd, List.drop_nil, List.take_nil]
  refine drawC ?_
  refine rdbS ?_
  try simp only [SSd, List.getElem?_toArray, List.getElem?_cons_zero, List.getElem?_cons_succ, Nat.zero_add, Nat.add_zero, Nat.zero_mul, List.drop_succ_cons, List.drop_zero, List.take_succ_cons, List.take_zero, List.nil_append, List.cons_append, Nat.reduceAdd, List.drop_nil, List.take_nil]
  refine rdCS c2 hI1 ?_
  refine call (sameints_spec hm1 (hm0.mono hI1) (by omega) ?_)
  refine call (commit_spec (LogV.to hV hI1) ?_)
  refine drawC ?_
  try simp only [SSd, List.getElem?_toArray, List.getElem?_cons_zero, List.getElem?_cons_succ, Nat.zero_add, Nat.add_zero, Nat.zero_mul, List.drop_succ_cons, List.drop_zero, List.take_succ_cons, List.take_zero, List.nil_append, List.cons_append, Nat.reduceAdd, List.drop_nil, List.take_nil]
  refine rdbS ?_
  simp only [SSd, List.getElem?_toArray, List.getElem?_cons_zero, List.getElem?_cons_succ, Nat.zero_add, Nat.add_zero, Nat.zero_mul, List.drop_succ_cons, List.drop_zero, List.take_succ_cons, List.take_zero, List.nil_append, List.cons_append, Nat.reduceAdd, List.drop_nil, List.take_nil, wrap_i64 (g.index + 1) (by omega)]
  refine rdCS c3 hI1 ?_
  simp only [RL.len hl0, SSd, List.getElem?_toArray, List.getElem?_cons_zero, List.getElem?_cons_succ, Nat.zero_add, Nat.add_zero, Nat.zero_mul, List.drop_succ_cons, List.drop_zero, List.take_succ_cons, List.take_zero, List.nil_append, List.cons_append, Nat.reduceAdd, List.drop_nil, List.take_nil, wrap_i64 ((g.es.length : Int) + 1) (by omega)]
  refine call (slice_spec (LogV.to hV hI1) hw (by unfold inI64; omega) (by unfold inI64; omega) (fun v2 I2 hI2 hE2 => ?_))
  rw [slice_all hw rfl] at hE2
  try simp only [SSd, List.getElem?_toArray, List.getElem?_cons_zero, List.getElem?_cons_succ, Nat.zero_add, Nat.add_zero, Nat.zero_mul, List.drop_succ_cons, List.drop_zero, List.take_succ_cons, List.take_zero, List.nil_append, List.cons_append, Nat.reduceAdd, List.drop_nil, List.take_nil]
  refine rdC c3 (hI1.trans hI2) ?_
  refine call (sameents_spec (Ents.to hE2 (Ext.refl _)) (LsV.to hl0 (hI1.trans hI2)) (by omega) ?_)
  refine drawC ?_
  try simp only [SSd, List.getElem?_toArray, List.getElem?_cons_zero, List.getElem?_cons_succ, Nat.zero_add, Nat.add_zero, Nat.zero_mul, List.drop_succ_cons, List.drop_zero, List.take_succ_cons, List.take_zero, List.nil_append, List.cons_append, Nat.reduceAdd, List.drop_nil, List.take_nil]
  refine rdbS ?_
  try simp only [SSd, List.getElem?_toArray, List.getElem?_cons_zero, List.getElem?_cons_succ, Nat.zero_add, Nat.add_zero, Nat.zero_mul, List.drop_succ_cons, List.drop_zero, List.take_succ_cons, List.take_zero, List.nil_append, List.cons_append, Nat.reduceAdd, List.drop_nil, List.take_nil]
  refine rdCS c0 (hI1.trans hI2) ?_
  simp only [SSd, List.getElem?_toArray, List.getElem?_cons_zero, List.getElem?_cons_succ, Nat.zero_add, Nat.add_zero, Nat.zero_mul, List.drop_succ_cons, List.drop_zero, List.take_succ_cons, List.take_zero, List.nil_append, List.cons_append, Nat.reduceAdd, List.drop_nil, List.take_nil, beq_self_eq_true]
  refine rdbS ?_
  try simp only [SSd, List.getElem?_toArray, List.getElem?_cons_zero, List.getElem?_cons_succ, Nat.zero_add, Nat.add_zero, Nat.zero_mul, List.drop_succ_cons, List.drop_zero, List.take_succ_cons, List.take_zero, List.nil_append, List.cons_append, Nat.reduceAdd, List.drop_nil, List.take_nil]
  refine rdCS c1 (hI1.trans hI2) ?_
  simp only [SSd, List.getElem?_toArray, List.getElem?_cons_zero, List.getElem?_cons_succ, Nat.zero_add, Nat.add_zero, Nat.zero_mul, List.drop_succ_cons, List.drop_zero, List.take_succ_cons, List.take_zero, List.nil_append, List.cons_append, Nat.reduceAdd, List.drop_nil, List.take_nil, beq_self_eq_true]
  refine rdCS c4 (hI1.trans hI2) ?_
  simp only [SSd, List.getElem?_toArray, List.getElem?_cons_zero, List.getElem?_cons_succ, Nat.zero_add, Nat.add_zero, Nat.zero_mul, List.drop_succ_cons, List.drop_zero, List.take_succ_cons, List.take_zero, List.nil_append, List.cons_append, Nat.reduceAdd, List.drop_nil, List.take_nil, beq_self_eq_true]
  exact Gh.to L (Gh.done (hk I2 (hI1.trans hI2)))

theorem Gh.second' {A : M} {x : Nat × Obj} (h : Gh A I L) : Gh A I (x :: L) := Gh.drop (List.sublist_cons_self ..) h
theorem gleader_spec {b : Nat} {v : Value} (hc : Cell I L b 7 v) (hk : K v I L) : Cal Tryz.prog ω 78 #[.pointer (some ⟨b, 0, none⟩)] K I L := by
  refine cal78 ?_
  unfold sh78
  try simp only [SSd, List.getElem?_toArray, List.getElem?_cons_zero, List.getElem?_cons_succ, Nat.zero_add, Nat.add_zero, Nat.zero_mul, List.drop_succ_cons, List.drop_zero, List.take_succ_cons, List.take_zero, List.nil_append, List.cons_append, Nat.reduceAdd, List.drop_nil, List.take_nil]
  exact rd1 hc (Gh.done hk)

theorem same11_spec {b c : Nat} {X Y F : LH} {r : RF} (hR : RaftR I b X r) (hQ : RaftQ I c Y r) (hw : WF r.g) (hst : r.st.length ≤ 60000) (hk : ∀ I', Ext I I' → K (.bool true) I' (Y ++ (X ++ F))) :
    Cal Tryz.prog ω 24 #[.pointer (some ⟨b, 0, none⟩), .pointer (some ⟨c, 0, none⟩)] K I (Y ++ (X ++ F)) := by
  obtain ⟨lb, XL, XO, stv, ov, z0, z1, z2, oc, rfl, h1, h2, h3, h4⟩ := hR
  obtain ⟨qb, YL, YO, qtv, qov, y0, y1, y2, qc, rfl, q1, q2, q3, q4⟩ := hQ
  have hml := memB_len hw.mem
  simp only [List.cons_append, List.append_assoc] at hk ⊢
  refine cal24 ?_
  unfold sh24
  refine call (gterm_spec (v := .int .i64 r.term) (Cell.own (InL.mem) rfl) ?_)
  refine call (gvote_spec (v := .int .i64 r.vote) (Cell.own (InL.mem) rfl) ?_)
  refine call (grole_spec (v := .int .i64 r.role) (Cell.own (InL.mem) rfl) ?_)
  refine call (gleader_spec (v := .int .i64 r.leader) (Cell.own (InL.mem) rfl) ?_)
  refine call (gstate_spec (Cell.own (InL.mem) rfl) h2 hst (fun sv I1 hI1 hs => ?_))
  have h1' := h1.mono hI1
  obtain ⟨mv, lv, XL2, cells, rfl, hm, hG, hRc⟩ := id h1'
  have hlv : LsV I1 XL2 lv r.g.es := by
    obtain ⟨a, cap, hv, hle⟩ := hG.form
    exact ⟨a, cap, cells, hv, hle, hG.news (fun x hx => hx), hRc⟩
  simp only [List.cons_append]
  refine call (glog_spec (L0 := XL2) (Cell.own (InL.mem) rfl) (cells_own InL.mem) hm hlv hml (fun lb' mv' a I2 hI2 hm2 hl2 => ?_))
  try simp only [SSd, List.getElem?_toArray, List.getElem?_cons_zero, List.getElem?_cons_succ, Nat.zero_add, Nat.add_zero, Nat.zero_mul, List.drop_succ_cons, List.drop_zero, List.take_succ_cons, List.take_zero, List.nil_append, List.cons_append, Nat.reduceAdd, List.drop_nil, List.take_nil]
  refine rdb ?_
  have hV : LogV I2 ((lb', Obj.cells (lcells r.g mv' (.slice a r.g.es.length r.g.es.length)).toArray 104 (0, 0)) :: (c, Obj.cells (qcells r y0 y1 y2 (.pointer (some ⟨qb, 0, none⟩)) qtv qov).toArray 63 (0, 0)) :: (YL ++ (YO ++ ((b, Obj.cells (rcells r z0 z1 z2 (.pointer (some ⟨lb, 0, none⟩)) stv ov).toArray 79 (0, 0)) ::
      (lb, Obj.cells #[.int .i64 r.g.index, .int .i64 r.g.term, mv, lv, .int .i64 r.g.commit] 104 (0, 0)) :: (XL2 ++ (XO ++ F)))))) lb' r.g := ⟨mv', _, cells_own InL.mem, hm2, LsV.to hl2 (Ext.refl _)⟩
  refine call (sameLog_spec hV ((q1.mono (hI1.trans hI2)).view) hw (fun I3 hI3 => ?_))
  have hI23 := hI2.trans hI3
  repeat' (first | (with_reducible refine drawC ?_) | (with_reducible refine drawW1 ?_) | (with_reducible refine drawW2 ?_) | (with_reducible refine keepC (by repeat (first | exact Ext.refl _ | assumption | refine Ext.trans ?_ (by assumption))) ?_) | (with_reducible refine newI (fun _ => ?_)) | first | (with_reducible refine rdb ?_) | ((with_reducible refine st1 ?_ ?_); rfl) | ((with_reducible refine rdB ?_ ?_); rfl) | (with_reducible refine rdbS ?_) | ((with_reducible refine rdBS ?_ ?_); rfl) | ((with_reducible refine stB ?_ ?_ ?_ ?_); rfl; rfl; exact one_all rfl) | ((with_reducible refine rdP _ rfl ?_ ?_); rfl) | ((with_reducible refine rdPS _ rfl ?_ ?_); rfl) | ((with_reducible refine stP _ rfl ?_ ?_ ?_ ?_); rfl; rfl; rfl) | (with_reducible refine And.intro ?_ ?_) | (simp only [Bool.not_true, Bool.not_false, Bool.and_self, Bool.true_and, Int.reduceBEq, Int.reduceBNe, Int.reduceLT, Int.reduceLE, decide_true, decide_false, Br_true, Br_false, Gd_tt, Gd_ft, Gd_tf, Gd_ff, beq_self_eq_true, bne_self_eq_false]) | (with_reducible refine gd_split (fun _ => ?_) (fun _ => ?_)) | (with_reducible refine br_split (fun _ => ?_) (fun _ => ?_)) | (simp only [SSd, List.getElem?_toArray, List.getElem?_cons_zero, List.getElem?_cons_succ, Nat.zero_add, Nat.add_zero, Nat.zero_mul, List.drop_succ_cons, List.drop_zero, List.take_succ_cons, List.take_zero, List.nil_append, List.cons_append, Nat.reduceAdd, List.drop_nil, List.take_nil, beq_self_eq_true]))
  refine bs_I (hs.mono hI23) ?_
  try simp only [SSd, List.getElem?_toArray, List.getElem?_cons_zero, List.getElem?_cons_succ, Nat.zero_add, Nat.add_zero, Nat.zero_mul, List.drop_succ_cons, List.drop_zero, List.take_succ_cons, List.take_zero, List.nil_append, List.cons_append, Nat.reduceAdd, List.drop_nil, List.take_nil]
  refine rdbS ?_
  refine bs_I (q2.mono (hI1.trans hI23)) ?_
  simp only [SSd, List.getElem?_toArray, List.getElem?_cons_zero, List.getElem?_cons_succ, Nat.zero_add, Nat.add_zero, Nat.zero_mul, List.drop_succ_cons, List.drop_zero, List.take_succ_cons, List.take_zero, List.nil_append, List.cons_append, Nat.reduceAdd, List.drop_nil, List.take_nil, beq_self_eq_true]
  refine Gh.second' ?_
  exact Gh.done (hk I3 (hI1.trans hI23))
end
end Go.Proofs.YtdcpeboecmkmlaaGreat
