/-
  A world of five nodes, plainly and in memory.
-/
-- S3
import Derived.Test.YtdcpeboecmkmlaaKR
import Derived.Test.YtdcpeboecmkmlaaKU
set_option linter.unusedSimpArgs false
set_option linter.unusedVariables false
namespace Go.Proofs.Ytdcpeboecmkmlaa
open Go.SL
set_option maxRecDepth 10000

structure WM where
  n : Int → RF
  sent : List RM
  com : List LE
  led : List Int
def le0 : LE := ⟨0, 0, 0, []⟩
def whoF (a : Int) : Int := if bitsV .and .i64 a 4 = 0 then 1 + bitsV .and .i64 a 3 else 5
def afterW (w : WM) (k : Int) (r : RF) : WM := { w with n := updI w.n k (takeF r), sent := w.sent ++ r.out }
def hasL (l : List Int) (p : Int) : Bool := l.contains p
def changedL (l : List Int) (n : Int) : List Int := ([1, 2, 3, 4, 5] : List Int).filter fun p => l.contains p != (p == n)
def playF (w : WM) (d who n : Int) : Int × WM :=
  if d = 0 then (whoF who, afterW w (whoF who) (tickF (w.n (whoF who)) n))
  else if d = 1 then
    if n < 0 ∨ (w.sent.length : Int) ≤ n then (0, w) else
    (let m := (w.sent[n.toNat]?).getD msg0
     if m.to < 1 ∨ 5 < m.to then (0, w) else (m.to, afterW w m.to (stepF (w.n m.to) m).2))
  else if d = 2 then (whoF who, afterW w (whoF who) (proposeF (w.n (whoF who)) [byteOf n]).2.2)
  else if d = 3 then (whoF who, afterW w (whoF who) (changeF (w.n (whoF who)) (changedL (mems (w.n (whoF who))) n)).2.2)
  else if d = 4 then (whoF who, afterW w (whoF who) (compactF (w.n (whoF who)) (w.n (whoF who)).g.commit [byteOf (w.n (whoF who)).g.commit]).2)
  else if d = 5 then (whoF who, afterW w (whoF who) (newF 7 (whoF who) (w.n (whoF who)).term (w.n (whoF who)).vote (w.n (whoF who)).g (w.n (whoF who)).st))
  else (0, w)
def world0 : WM := ⟨fun k => newF 7 k 0 0 (newG [1, 2, 3]) [], [], [], []⟩
/-- what holds of a world behind N events -/
structure WWF (N : Nat) (w : WM) : Prop where
  nod : ∀ p, 1 ≤ p ∧ p ≤ 5 → RWF (65 * N) N (w.n p) ∧ (w.n p).out = [] ∧ (w.n p).group = 7 ∧ (w.n p).id = p
  num : w.sent.length ≤ 7 * N
  sml : ∀ m ∈ w.sent, m.mem.length ≤ 100

abbrev wcells (bs : Int → Nat) (sv cv dv : Value) : List Value := [.pointer none, pt (bs 1), pt (bs 2), pt (bs 3), pt (bs 4), pt (bs 5), sv, cv, dv]
abbrev catX (Xs : Int → LH) (F : LH) : LH := Xs 1 ++ (Xs 2 ++ (Xs 3 ++ (Xs 4 ++ (Xs 5 ++ F))))
def catR (k : Int) (Xs : Int → LH) (F : LH) : LH :=
  if k = 1 then Xs 2 ++ (Xs 3 ++ (Xs 4 ++ (Xs 5 ++ F))) else if k = 2 then Xs 1 ++ (Xs 3 ++ (Xs 4 ++ (Xs 5 ++ F))) else if k = 3 then Xs 1 ++ (Xs 2 ++ (Xs 4 ++ (Xs 5 ++ F)))
  else if k = 4 then Xs 1 ++ (Xs 2 ++ (Xs 3 ++ (Xs 5 ++ F))) else Xs 1 ++ (Xs 2 ++ (Xs 3 ++ (Xs 4 ++ F)))
theorem cat_perm {k : Int} (h : 1 ≤ k ∧ k ≤ 5) (Xs : Int → LH) (F : LH) : (catX Xs F).Perm (Xs k ++ catR k Xs F) := by
  rcases five h with rfl | rfl | rfl | rfl | rfl
  · exact List.Perm.refl _
  · exact (inferInstance : SplitL (Xs 2) (catX Xs F) (Xs 1 ++ (Xs 3 ++ (Xs 4 ++ (Xs 5 ++ F))))).perm
  · exact (inferInstance : SplitL (Xs 3) (catX Xs F) (Xs 1 ++ (Xs 2 ++ (Xs 4 ++ (Xs 5 ++ F))))).perm
  · exact (inferInstance : SplitL (Xs 4) (catX Xs F) (Xs 1 ++ (Xs 2 ++ (Xs 3 ++ (Xs 5 ++ F))))).perm
  · exact (inferInstance : SplitL (Xs 5) (catX Xs F) (Xs 1 ++ (Xs 2 ++ (Xs 3 ++ (Xs 4 ++ F))))).perm
theorem cat_upd {k : Int} (h : 1 ≤ k ∧ k ≤ 5) (Xs : Int → LH) (X F : LH) : (X ++ catR k Xs F).Perm (catX (updI Xs k X) F) := by
  refine ((cat_perm h (updI Xs k X) F).trans ?_).symm
  rw [updI_same]
  refine List.Perm.append_left _ ?_
  rcases five h with rfl | rfl | rfl | rfl | rfl <;> simp [catR, updI]
theorem wc_at {bs : Int → Nat} {sv cv dv : Value} {p : Int} (h : 1 ≤ p ∧ p ≤ 5) : (wcells bs sv cv dv)[p.toNat * 1]? = some (pt (bs p)) := by
  rcases five h with rfl | rfl | rfl | rfl | rfl <;> rfl
theorem wc_set {bs : Int → Nat} {sv cv dv : Value} {p : Int} {b : Nat} (h : 1 ≤ p ∧ p ≤ 5) : (wcells bs sv cv dv).set (p.toNat * 1) (pt b) = wcells (updI bs p b) sv cv dv := by
  rcases five h with rfl | rfl | rfl | rfl | rfl <;> rfl

/-- the five nodes in memory -/
def NodesR (I : Imm) (bs : Int → Nat) (Xs : Int → LH) (n : Int → RF) : Prop := ∀ p, 1 ≤ p ∧ p ≤ 5 → RaftR I (bs p) (Xs p) (n p)
theorem NodesR.mono {I I' : Imm} {bs : Int → Nat} {Xs : Int → LH} {n : Int → RF} (h : NodesR I bs Xs n) (hI : Ext I I') : NodesR I' bs Xs n := fun p hp => (h p hp).mono hI
theorem NodesR.upd {I : Imm} {bs : Int → Nat} {Xs : Int → LH} {n : Int → RF} (h : NodesR I bs Xs n) {k : Int} {b : Nat} {X : LH} {r : RF} (hb : bs k = b) (hX : RaftR I b X r) : NodesR I bs (updI Xs k X) (updI n k r) := fun p hp => by
  by_cases e : p = k
  · subst e; rw [updI_same, updI_same, hb]; exact hX
  · simp only [updI, if_neg e]; exact h p hp
theorem NodesR.updB {I : Imm} {bs : Int → Nat} {Xs : Int → LH} {n : Int → RF} (h : NodesR I bs Xs n) {k : Int} {b : Nat} {X : LH} {r : RF} (hX : RaftR I b X r) : NodesR I (updI bs k b) (updI Xs k X) (updI n k r) := fun p hp => by
  by_cases e : p = k
  · subst e; rw [updI_same, updI_same, updI_same]; exact hX
  · simp only [updI, if_neg e]; exact h p hp
/-- the memory of what was sent, what was committed, who led -/
structure RestR (I : Imm) (XS XC XD : LH) (sv cv dv : Value) (w : WM) : Prop where
  snt : ∃ c, SlO 77 12 XS sv c w.sent.length ∧ Recs (MsgV I) 12 w.sent c
  cmt : ∃ c, SlO 59 4 XC cv c w.com.length ∧ Recs (LeV I) 4 w.com c
  ldr : SlO 3 1 XD dv (i64s w.led) w.led.length
theorem RestR.mono {I I' : Imm} {XS XC XD : LH} {sv cv dv : Value} {w : WM} (h : RestR I XS XC XD sv cv dv w) (hI : Ext I I') : RestR I' XS XC XD sv cv dv w := by
  obtain ⟨⟨c, h1, h2⟩, ⟨d, h3, h4⟩, h5⟩ := h
  exact ⟨⟨c, h1, h2.imp fun _ _ h => h.mono hI⟩, ⟨d, h3, h4.imp fun _ _ h => h.mono hI⟩, h5⟩
/-- a world in memory -/
def WorldR (I : Imm) (wb : Nat) (L : LH) (w : WM) (F : LH) : Prop :=
  ∃ bs Xs XS XC XD sv cv dv, NodesR I bs Xs w.n ∧ RestR I XS XC XD sv cv dv w ∧
    L = (wb, Obj.cells (wcells bs sv cv dv).toArray 103 (0, 0)) :: catX Xs (XS ++ (XC ++ (XD ++ F)))

theorem and3 (a : Int) : 0 ≤ bitsV .and .i64 a 3 ∧ bitsV .and .i64 a 3 ≤ 3 := by
  have h : (BitVec.ofInt 64 a &&& BitVec.ofInt 64 3).toNat ≤ 3 := by
    rw [BitVec.toNat_and]
    exact Nat.le_trans Nat.and_le_right (by decide)
  simp only [bitsV]
  show 0 ≤ IntKind.i64.wrap ((BitVec.ofInt 64 a &&& BitVec.ofInt 64 3).toNat : Int) ∧ IntKind.i64.wrap ((BitVec.ofInt 64 a &&& BitVec.ofInt 64 3).toNat : Int) ≤ 3
  rw [wrap_i64 _ (by omega)]
  omega
theorem who_in (a : Int) : 1 ≤ whoF a ∧ whoF a ≤ 5 := by
  have := and3 a
  unfold whoF; split <;> omega
end Go.Proofs.Ytdcpeboecmkmlaa

namespace Go.Proofs.Ytdcpeboecmkmlaa
open Go.SL
set_option maxRecDepth 10000

theorem contains_take {l : List Int} {p : Int} {k : Nat} (h : k < l.length) : (l.take (k + 1)).contains p = ((l.take k).contains p || (geti l (k : Int) == p)) := by
  rw [take_geti h, List.contains_eq_any_beq, List.contains_eq_any_beq, List.any_append]
  simp only [List.any_cons, List.any_nil, Bool.or_false]
  congr 1
  rw [Bool.eq_iff_iff]; simp only [beq_iff_eq]; exact ⟨Eq.symm, Eq.symm⟩
section
variable {ω : Om} {I : Imm} {L : LH} {K : Value → M}

theorem Gh.second'' {A : M} {x : Nat × Obj} (h : Gh A I L) : Gh A I (x :: L) := Gh.drop (List.sublist_cons_self ..) h
theorem changed_spec {v : Value} {l : List Int} {n : Int} (h : Ints I v l) (hl : l.length < 4611686018427387904) (hk : ∀ v' I', Ext I I' → Ints I' v' (changedL l n) → K v' I' L) : Cal Try.prog ω 104 #[v, .int .i64 n] K I L := by
  have hn := Ints.len h
  refine cal104 ?_
  unfold sh104
  refine loop (fun m s I' L' => I' = I ∧ ∃ (i : Nat) (X6 : LH) (w : Value), i + m = 5 ∧ s = (w, .int .i64 (i + 1), ()) ∧ SlO 3 1 X6 w (i64s ((([1, 2, 3, 4, 5] : List Int).take i).filter fun p => l.contains p != (p == n))) ((([1, 2, 3, 4, 5] : List Int).take i).filter fun p => l.contains p != (p == n)).length ∧ L' = X6 ++ L)
    5 ⟨rfl, 0, [], _, by omega, rfl, SlO.none _ _, rfl⟩ ?_
  rintro m s I' L' ⟨rfl, i, X6, w, hi, rfl, h6, rfl⟩
  unfold sh104_3
  try simp only [SSd, List.getElem?_toArray, List.getElem?_cons_zero, List.getElem?_cons_succ, Nat.zero_add, Nat.add_zero, Nat.zero_mul, List.drop_succ_cons, List.drop_zero, List.take_succ_cons, List.take_zero, List.nil_append, List.cons_append, Nat.reduceAdd, List.drop_nil, List.take_nil]
  refine br_split (fun hlt => ?_) (fun hlt => ?_)
  · simp at hlt
    have hc : i = 0 ∨ i = 1 ∨ i = 2 ∨ i = 3 ∨ i = 4 := by omega
    have hfl := List.length_filter_le (fun p : Int => l.contains p != (p == n)) (([1, 2, 3, 4, 5] : List Int).take i)
    rw [List.length_take] at hfl
    have hts : ([1, 2, 3, 4, 5] : List Int).take (i + 1) = ([1, 2, 3, 4, 5] : List Int).take i ++ [((i : Int) + 1)] := by
      rcases hc with rfl | rfl | rfl | rfl | rfl <;> rfl
    refine loop (fun m2 s I2 L2 => I2 = I' ∧ L2 = X6 ++ L ∧ ∃ k : Nat, k + m2 = l.length ∧ s = (.bool ((l.take k).contains ((i : Int) + 1)), .int .i64 k, ())) l.length ⟨rfl, rfl, 0, by omega, rfl⟩ ?_
    rintro m2 s I2 L2 ⟨rfl, rfl, k, hk2, rfl⟩
    unfold sh104_8
    simp only [hn, SSd, List.getElem?_toArray, List.getElem?_cons_zero, List.getElem?_cons_succ, Nat.zero_add, Nat.add_zero, Nat.zero_mul, List.drop_succ_cons, List.drop_zero, List.take_succ_cons, List.take_zero, List.nil_append, List.cons_append, Nat.reduceAdd, List.drop_nil, List.take_nil]
    refine br_split (fun hlt2 => ?_) (fun hlt2 => ?_)
    · simp at hlt2
      have hct := contains_take (p := (i : Int) + 1) hlt2
      refine gd_split (fun hx => ?_) (fun hx => ?_)
      · obtain ⟨b2, off, hix, hc2⟩ := ints_at h (i := k) (by omega) (by omega)
        simp only [hix, SSd, List.getElem?_toArray, List.getElem?_cons_zero, List.getElem?_cons_succ, Nat.zero_add, Nat.add_zero, Nat.zero_mul, List.drop_succ_cons, List.drop_zero, List.take_succ_cons, List.take_zero, List.nil_append, List.cons_append, Nat.reduceAdd, List.drop_nil, List.take_nil]
        refine rd1 (hc2 _ _ (Ext.refl _)) ?_
        simp only [SSd, List.getElem?_toArray, List.getElem?_cons_zero, List.getElem?_cons_succ, Nat.zero_add, Nat.add_zero, Nat.zero_mul, List.drop_succ_cons, List.drop_zero, List.take_succ_cons, List.take_zero, List.nil_append, List.cons_append, Nat.reduceAdd, List.drop_nil, List.take_nil, wrap_i64 ((k : Int) + 1) (by omega)]
        exact Gh.done ⟨m2 - 1, by omega, rfl, rfl, k + 1, by omega, by rw [hct, hx]; simp⟩
      · simp only [SSd, List.getElem?_toArray, List.getElem?_cons_zero, List.getElem?_cons_succ, Nat.zero_add, Nat.add_zero, Nat.zero_mul, List.drop_succ_cons, List.drop_zero, List.take_succ_cons, List.take_zero, List.nil_append, List.cons_append, Nat.reduceAdd, List.drop_nil, List.take_nil, wrap_i64 ((k : Int) + 1) (by omega)]
        have hx : (l.take k).contains ((i : Int) + 1) = true := by simpa using hx
        exact Gh.done ⟨m2 - 1, by omega, rfl, rfl, k + 1, by omega, by rw [hct, hx]; simp⟩
    · simp at hlt2
      have e1 : l.take k = l := List.take_of_length_le (by omega)
      rw [e1]
      unfold sh104_6 sh104_4
      try simp only [SSd, List.getElem?_toArray, List.getElem?_cons_zero, List.getElem?_cons_succ, Nat.zero_add, Nat.add_zero, Nat.zero_mul, List.drop_succ_cons, List.drop_zero, List.take_succ_cons, List.take_zero, List.nil_append, List.cons_append, Nat.reduceAdd, List.drop_nil, List.take_nil]
      refine br_split (fun hq => ?_) (fun hq => ?_)
      · refine bld_one rfl (by omega) rfl (fun X1 u hX1 => ?_)
        refine app_own (X := X6) rfl h6 (hX1.news (fun x hx => List.mem_append_left _ hx)) (by simp [Value.cells, Value.oneCell']) (by omega) (by omega) (fun X' v' hX' => ?_)
        simp only [SSd, List.getElem?_toArray, List.getElem?_cons_zero, List.getElem?_cons_succ, Nat.zero_add, Nat.add_zero, Nat.zero_mul, List.drop_succ_cons, List.drop_zero, List.take_succ_cons, List.take_zero, List.nil_append, List.cons_append, Nat.reduceAdd, List.drop_nil, List.take_nil, wrap_i64 ((i : Int) + 1 + 1) (by omega)]
        refine Gh.to (X' ++ L) (Gh.done ⟨m - 1, by omega, rfl, i + 1, X', v', by omega, by simp, ?_, rfl⟩)
        rw [hts, List.filter_append, List.length_append, List.filter_cons_of_pos (l := []) (by simpa using hq)]
        simpa [Value.cells, i64s] using hX'
      · simp only [SSd, List.getElem?_toArray, List.getElem?_cons_zero, List.getElem?_cons_succ, Nat.zero_add, Nat.add_zero, Nat.zero_mul, List.drop_succ_cons, List.drop_zero, List.take_succ_cons, List.take_zero, List.nil_append, List.cons_append, Nat.reduceAdd, List.drop_nil, List.take_nil, wrap_i64 ((i : Int) + 1 + 1) (by omega)]
        refine Gh.done ⟨m - 1, by omega, rfl, i + 1, X6, w, by omega, by simp, ?_, rfl⟩
        rw [hts, List.filter_append, List.filter_cons_of_neg (l := []) (by simpa using hq)]
        simpa using h6
  · simp at hlt
    obtain rfl : i = 5 := by omega
    exact SlO.freeze h6 (fun I2 hI2 hS => Gh.done (hk w I2 hI2 hS))

/-- a call on the k-th node -/
theorem node_cal {f : FuncId} {args : Array Value} {bs : Int → Nat} {Xs : Int → LH} {n : Int → RF} {k : Int} {W : LH} (hk : 1 ≤ k ∧ k ≤ 5) (h : NodesR I bs Xs n)
    (hc : RaftR I (bs k) (Xs k) (n k) → Cal Try.prog ω f args K I (Xs k ++ catR k Xs W)) : Cal Try.prog ω f args K I (catX Xs W) :=
  Cal.perm (cat_perm hk Xs W) (hc (h k hk))
theorem node_back {A : M} {Xs : Int → LH} {k : Int} {X W : LH} (hk : 1 ≤ k ∧ k ≤ 5) (h : Gh A I (catX (updI Xs k X) W)) : Gh A I (X ++ catR k Xs W) := Gh.perm (cat_upd hk Xs X W) h

theorem cat_nil {k : Int} (h : 1 ≤ k ∧ k ≤ 5) {Xs : Int → LH} (e : Xs k = []) (F : LH) : catX Xs F = catR k Xs F := by
  rcases five h with rfl | rfl | rfl | rfl | rfl <;> simp [catX, catR, e]
abbrev wcellsV (ps : Int → Value) (sv cv dv : Value) : List Value := [.pointer none, ps 1, ps 2, ps 3, ps 4, ps 5, sv, cv, dv]
theorem wv_set {ps : Int → Value} {sv cv dv : Value} {p : Int} {v : Value} (h : 1 ≤ p ∧ p ≤ 5) : (wcellsV ps sv cv dv).set (p.toNat * 1) v = wcellsV (updI ps p v) sv cv dv := by
  rcases five h with rfl | rfl | rfl | rfl | rfl <;> rfl
theorem lastT_newG (m : List Int) : lastT (newG m) = 0 := rfl
theorem world_spec (hk : ∀ wb L' I', Ext I I' → WorldR I' wb L' world0 L → K (pt wb) I' L') : Cal Try.prog ω 47 #[] K I L := by
  refine cal47 ?_
  unfold sh47
  repeat' (first | (with_reducible refine drawC ?_) | (with_reducible refine drawW1 ?_) | (with_reducible refine drawW2 ?_) | (with_reducible refine keepC (by repeat (first | exact Ext.refl _ | assumption | refine Ext.trans ?_ (by assumption))) ?_) | (with_reducible refine newI (fun _ => ?_)) | first | (with_reducible refine rdb ?_) | ((with_reducible refine st1 ?_ ?_); rfl) | ((with_reducible refine rdB ?_ ?_); rfl) | (with_reducible refine rdbS ?_) | ((with_reducible refine rdBS ?_ ?_); rfl) | ((with_reducible refine stB ?_ ?_ ?_ ?_); rfl; rfl; exact one_all rfl) | ((with_reducible refine rdP _ rfl ?_ ?_); rfl) | ((with_reducible refine rdPS _ rfl ?_ ?_); rfl) | ((with_reducible refine stP _ rfl ?_ ?_ ?_ ?_); rfl; rfl; rfl) | (with_reducible refine And.intro ?_ ?_) | (simp only [Bool.not_true, Bool.not_false, Bool.and_self, Bool.true_and, Int.reduceBEq, Int.reduceBNe, Int.reduceLT, Int.reduceLE, decide_true, decide_false, Br_true, Br_false, Gd_tt, Gd_ft, Gd_tf, Gd_ff, beq_self_eq_true, bne_self_eq_false]) | (with_reducible refine gd_split (fun _ => ?_) (fun _ => ?_)) | (with_reducible refine br_split (fun _ => ?_) (fun _ => ?_)) | (simp only [SSd, List.getElem?_toArray, List.getElem?_cons_zero, List.getElem?_cons_succ, Nat.zero_add, Nat.add_zero, Nat.zero_mul, List.drop_succ_cons, List.drop_zero, List.take_succ_cons, List.take_zero, List.nil_append, List.cons_append, Nat.reduceAdd, List.drop_nil, List.take_nil]))
  rename_i wb
  have hmb : memB [1, 2, 3] = true := rfl
  have hok : ∀ k : Int, 1 ≤ k ∧ k ≤ 5 → newOk 7 k 0 0 (newG [1, 2, 3]) [] = true := fun k h => by
    rcases five h with rfl | rfl | rfl | rfl | rfl <;> rfl
  refine loop (fun m s I' L' => Ext I I' ∧ ∃ (k : Int) (bs : Int → Nat) (Xs : Int → LH) (ps : Int → Value), 1 ≤ k ∧ k + m = 6 ∧ s = (.pointer none, .int .i64 k, ()) ∧ (∀ p, 1 ≤ p ∧ p < k → RaftR I' (bs p) (Xs p) (world0.n p) ∧ ps p = pt (bs p)) ∧ (∀ p, k ≤ p → Xs p = [] ∧ ps p = .pointer none) ∧
      L' = catX Xs ((wb, Obj.cells (wcellsV ps (.slice none 0 0) (.slice none 0 0) (.slice none 0 0)).toArray 103 (0, 0)) :: L)) 5
    ⟨Ext.refl _, 1, fun _ => 0, fun _ => [], fun _ => .pointer none, by omega, by omega, rfl, fun p hp => by omega, fun p _ => ⟨rfl, rfl⟩, rfl⟩ ?_
  rintro m s I' L' ⟨hI, k, bs, Xs, ps, hk1, hkm, rfl, hlo, hhi, rfl⟩
  unfold sh47_3
  try simp only [SSd, List.getElem?_toArray, List.getElem?_cons_zero, List.getElem?_cons_succ, Nat.zero_add, Nat.add_zero, Nat.zero_mul, List.drop_succ_cons, List.drop_zero, List.take_succ_cons, List.take_zero, List.nil_append, List.cons_append, Nat.reduceAdd, List.drop_nil, List.take_nil]
  refine br_split (fun hlt => ?_) (fun hlt => ?_)
  · simp at hlt
    have hk5 : 1 ≤ k ∧ k ≤ 5 := ⟨hk1, hlt⟩
    refine bi3 (fun u I1 hI1 hu => ?_)
    refine callG (new_spec hu (fun h => by rw [hmb] at h; cases h) (fun _ lb X I2 hI2 hR => ?_))
    refine LogR.freeze hR (fun mv lv I3 hI3 hm hl => Gh.done ?_)
    simp only [SSd, List.getElem?_toArray, List.getElem?_cons_zero, List.getElem?_cons_succ, Nat.zero_add, Nat.add_zero, Nat.zero_mul, List.drop_succ_cons, List.drop_zero, List.take_succ_cons, List.take_zero, List.nil_append, List.cons_append, Nat.reduceAdd, List.drop_nil, List.take_nil, bne_self_eq_false]
    refine callG (new11_spec (g := newG [1, 2, 3]) (st := []) (cells_own InL.mem) hm hl (new_wf hmb) (SlI.nil _ _ _ _) (by simp) (fun h => by rw [hok k hk5] at h; cases h) (fun _ b X' I4 hI4 hX' => ?_))
    have hI14 := ((hI1.trans hI2).trans hI3).trans hI4
    rw [cat_nil hk5 (hhi k (Int.le_refl _)).1]
    refine Gh.perm (List.perm_middle (l₁ := X')) (Gh.second'' (Gh.perm (cat_upd hk5 Xs X' _) (Gh.done ?_)))
    simp only [SSd, List.getElem?_toArray, List.getElem?_cons_zero, List.getElem?_cons_succ, Nat.zero_add, Nat.add_zero, Nat.zero_mul, List.drop_succ_cons, List.drop_zero, List.take_succ_cons, List.take_zero, List.nil_append, List.cons_append, Nat.reduceAdd, List.drop_nil, List.take_nil, bne_self_eq_false, ixPV_at _ (show 0 ≤ k by omega) (show k < ((6 : Nat) : Int) by omega)]
    refine stL (wv_set hk5) (by simp; omega) rfl ?_
    simp only [SSd, List.getElem?_toArray, List.getElem?_cons_zero, List.getElem?_cons_succ, Nat.zero_add, Nat.add_zero, Nat.zero_mul, List.drop_succ_cons, List.drop_zero, List.take_succ_cons, List.take_zero, List.nil_append, List.cons_append, Nat.reduceAdd, List.drop_nil, List.take_nil, wrap_i64 (k + 1) (by omega)]
    refine Gh.done ⟨m - 1, by omega, hI.trans hI14, k + 1, updI bs k b, updI Xs k X', updI ps k (pt b), by omega, by omega, rfl, fun p hp => ?_, fun p hp => ?_, rfl⟩
    · by_cases e : p = k
      · subst e; rw [updI_same, updI_same, updI_same]; exact ⟨hX', rfl⟩
      · simp only [updI, if_neg e]
        have := hlo p (by omega)
        exact ⟨this.1.mono hI14, this.2⟩
    · have e : p ≠ k := by omega
      simp only [updI, if_neg e]
      exact hhi p (by omega)
  · simp at hlt
    obtain rfl : k = 6 := by omega
    refine Gh.pick wb (catX Xs ([] ++ ([] ++ ([] ++ L)))) (Gh.done (hk wb _ I' hI ⟨bs, Xs, [], [], [], .slice none 0 0, .slice none 0 0, .slice none 0 0, fun p hp => (hlo p (by omega)).1, ⟨⟨[], SlO.none _ _, rfl⟩, ⟨[], SlO.none _ _, rfl⟩, SlO.none _ _⟩, ?_⟩))
    simp only [wcellsV, wcells, (hlo 1 (by omega)).2, (hlo 2 (by omega)).2, (hlo 3 (by omega)).2, (hlo 4 (by omega)).2, (hlo 5 (by omega)).2]
end
end Go.Proofs.Ytdcpeboecmkmlaa
