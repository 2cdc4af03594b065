/-
  Stamps, keys, spans: what the small functions tell.
-/
-- S3
import Derived.Test.YtmnnnoinfhiilaaDoorTy
import Derived.Test.YtmnnnoinfhiilaaDoorSS
set_option linter.unusedSimpArgs false
set_option linter.unusedVariables false
namespace Go.Proofs.YtmnnnoinfhiilaaDoor
open Go.SL
set_option maxRecDepth 10000
section
variable {ω : Om} {I : Imm} {L : LH} {K : Value → M}
theorem leafI {a b : Int} (h : K (.int .i64 a) I L) (e : a = b) : K (.int .i64 b) I L := e ▸ h
theorem isNaN_spec {a : Int} (hk : K (.bool false) I L) : Cal Tryd.prog ω 84 #[.int .i64 a] K I L := by
  refine cal84 ?_
  unfold sh84
  simp only [SSd, Nat.reduceAdd, bne_self_eq_false]
  exact Gh.done hk
def icmp (a b : Int) : Int := if a < b then -1 else if b < a then 1 else 0
theorem ccompare_spec {a b : Int} (hk : K (.int .i64 (icmp a b)) I L) : Cal Tryd.prog ω 75 #[.int .i64 a, .int .i64 b] K I L := by
  refine cal75 ?_
  unfold sh75
  refine call (isNaN_spec ?_)
  refine call (isNaN_spec ?_)
  repeat' (first | (with_reducible refine drawC ?_) | (with_reducible refine drawW1 ?_) | (with_reducible refine drawW2 ?_) | (with_reducible refine keepC (by repeat (first | exact Ext.refl _ | assumption | refine Ext.trans ?_ (by assumption))) ?_) | (with_reducible refine newI (fun _ => ?_)) | first | (with_reducible refine rdb ?_) | ((with_reducible refine st1 ?_ ?_); rfl) | ((with_reducible refine rdB ?_ ?_); rfl) | (with_reducible refine rdbS ?_) | ((with_reducible refine rdBS ?_ ?_); rfl) | ((with_reducible refine stB ?_ ?_ ?_ ?_); rfl; rfl; exact one_all rfl) | ((with_reducible refine rdP _ rfl ?_ ?_); rfl) | ((with_reducible refine rdPS _ rfl ?_ ?_); rfl) | ((with_reducible refine stP _ rfl ?_ ?_ ?_ ?_); rfl; rfl; rfl) | (with_reducible refine unfE (sh75.eq_1 ..) ?_) | (with_reducible refine And.intro ?_ ?_) | (simp only [Bool.not_true, Bool.not_false, Bool.and_self, Bool.true_and, Int.reduceBEq, Int.reduceBNe, Int.reduceLT, Int.reduceLE, decide_true, decide_false, Br_true, Br_false, Gd_tt, Gd_ft, Gd_tf, Gd_ff, beq_self_eq_true, bne_self_eq_false]) | (with_reducible refine gd_split (fun _ => ?_) (fun _ => ?_)) | (with_reducible refine br_split (fun _ => ?_) (fun _ => ?_)) | (simp only [SSd, Nat.reduceAdd]))
  all_goals (refine Gh.done (leafI hk ?_); unfold icmp; repeat' split)
  all_goals (simp_all <;> omega)
theorem or_spec {bb off cap : Nat} {a b : Int} (h : Cells I L bb off [.int .i64 a, .int .i64 b]) (hk : K (.int .i64 (if a ≠ 0 then a else b)) I L) : Cal Tryd.prog ω 74 #[.slice (some ⟨bb, off, none⟩) 2 cap] K I L := by
  refine cal74 ?_
  unfold sh74
  try simp only [SSd, Nat.reduceAdd]
  refine loop (fun m s I' L' => I' = I ∧ L' = L ∧ ∃ k : Nat, k + m = 2 ∧ s = (.int .i64 0, .int .i64 k, ()) ∧ (0 < k → a = 0) ∧ (1 < k → b = 0)) 2 ⟨rfl, rfl, 0, rfl, rfl, by omega, by omega⟩ ?_
  rintro m s I' L' ⟨rfl, rfl, k, hkm, rfl, h1, h2⟩
  unfold sh74_1
  try simp only [SSd, Nat.reduceAdd]
  refine br_split (fun hlt => ?_) (fun hlt => ?_)
  · simp at hlt
    have hix := ixV_int bb off 1 .i64 2 cap k (by omega) (by omega)
    have hc : Cell I' L' bb (off + (k : Int).toNat * 1) (.int .i64 (geti [a, b] (k : Int))) := by
      match k, hlt with
      | 0, _ => exact h 0 _ rfl
      | 1, _ => exact h 1 _ rfl
    simp only [hix, SSd, Nat.reduceAdd]
    refine rd1 hc ?_
    simp only [SSd, Nat.reduceAdd, wrap_i64 ((k : Int) + 1) (by omega)]
    refine br_split (fun h0 => Gh.done (leafI hk ?_)) (fun h0 => Gh.done ⟨m - 1, by omega, rfl, rfl, k + 1, by omega, by simp, ?_, ?_⟩)
    · match k, h1, h2, hlt, h0 with
      | 0, _, _, _, h0 => simp [geti] at h0 ⊢; intro e; exact absurd e h0
      | 1, h1, _, _, h0 => simp [geti, h1]
    · intro _
      match k, h1, h2, hlt, h0 with
      | 0, _, _, _, h0 => simpa [geti] using h0
      | 1, h1, _, _, h0 => exact h1 (by omega)
    · intro _
      match k, h1, h2, hlt, h0 with
      | 0, _, _, _, h0 => omega
      | 1, h1, _, _, h0 => simpa [geti] using h0
  · simp at hlt
    have e1 := h1 (by omega)
    have e2 := h2 (by omega)
    exact Gh.done (leafI hk (by simp [e1, e2]))
def scmp (a b : TStamp) : Int := if icmp a.fWall b.fWall ≠ 0 then icmp a.fWall b.fWall else icmp a.fLogic b.fLogic
def bhd (a b : TStamp) : Bool := decide (b.fWall < a.fWall ∨ (a.fWall = b.fWall ∧ b.fLogic < a.fLogic))
theorem scmp_bhd (a b : TStamp) : decide (scmp a b > 0) = bhd a b := by
  unfold scmp bhd icmp
  by_cases h1 : a.fWall < b.fWall <;> by_cases h2 : b.fWall < a.fWall <;> by_cases h3 : a.fLogic < b.fLogic <;> by_cases h4 : b.fLogic < a.fLogic <;> simp [h1, h2, h3, h4] <;> omega
abbrev sv (x : TStamp) : Value := .agg #[.int .i64 x.fWall, .int .i64 x.fLogic]
theorem hcompare_spec {x y : TStamp} (hk : K (.int .i64 (scmp x y)) I L) : Cal Tryd.prog ω 47 #[sv x, sv y] K I L := by
  refine cal47 ?_
  unfold sh47
  repeat' (first | (with_reducible refine drawC ?_) | (with_reducible refine drawW1 ?_) | (with_reducible refine drawW2 ?_) | (with_reducible refine keepC (by repeat (first | exact Ext.refl _ | assumption | refine Ext.trans ?_ (by assumption))) ?_) | (with_reducible refine newI (fun _ => ?_)) | ((with_reducible refine call ?_); refine (ccompare_spec ?_)) | first | (with_reducible refine rdb ?_) | ((with_reducible refine st1 ?_ ?_); rfl) | ((with_reducible refine rdB ?_ ?_); rfl) | (with_reducible refine rdbS ?_) | ((with_reducible refine rdBS ?_ ?_); rfl) | ((with_reducible refine stB ?_ ?_ ?_ ?_); rfl; rfl; exact one_all rfl) | ((with_reducible refine rdP _ rfl ?_ ?_); rfl) | ((with_reducible refine rdPS _ rfl ?_ ?_); rfl) | ((with_reducible refine stP _ rfl ?_ ?_ ?_ ?_); rfl; rfl; rfl) | (with_reducible refine unfE (sh47.eq_1 ..) ?_) | (with_reducible refine And.intro ?_ ?_) | (simp only [Bool.not_true, Bool.not_false, Bool.and_self, Bool.true_and, Int.reduceBEq, Int.reduceBNe, Int.reduceLT, Int.reduceLE, decide_true, decide_false, Br_true, Br_false, Gd_tt, Gd_ft, Gd_tf, Gd_ff, beq_self_eq_true, bne_self_eq_false]) | (with_reducible refine gd_split (fun _ => ?_) (fun _ => ?_)) | (with_reducible refine br_split (fun _ => ?_) (fun _ => ?_)) | (simp only [SSd, Nat.reduceAdd]))
  refine ⟨#[.int .i64 (icmp x.fWall y.fWall), .int .i64 (icmp x.fLogic y.fLogic)], by kernel_rfl, fun bb => ?_⟩
  refine Gh.done (call (or_spec (fun j u hu => Cell.own (List.mem_cons_self ..) (by simpa using hu)) ?_))
  exact Gh.to L (Gh.done hk)
theorem behind_spec {x y : TStamp} (hk : K (.bool (bhd x y)) I L) : Cal Tryd.prog ω 24 #[sv x, sv y] K I L := by
  rw [← scmp_bhd] at hk
  refine cal24 ?_
  unfold sh24
  repeat' (first | (with_reducible refine drawC ?_) | (with_reducible refine drawW1 ?_) | (with_reducible refine drawW2 ?_) | (with_reducible refine keepC (by repeat (first | exact Ext.refl _ | assumption | refine Ext.trans ?_ (by assumption))) ?_) | (with_reducible refine newI (fun _ => ?_)) | ((with_reducible refine call ?_); refine (hcompare_spec ?_)) | first | (with_reducible refine rdb ?_) | ((with_reducible refine st1 ?_ ?_); rfl) | ((with_reducible refine rdB ?_ ?_); rfl) | (with_reducible refine rdbS ?_) | ((with_reducible refine rdBS ?_ ?_); rfl) | ((with_reducible refine stB ?_ ?_ ?_ ?_); rfl; rfl; exact one_all rfl) | ((with_reducible refine rdP _ rfl ?_ ?_); rfl) | ((with_reducible refine rdPS _ rfl ?_ ?_); rfl) | ((with_reducible refine stP _ rfl ?_ ?_ ?_ ?_); rfl; rfl; rfl) | (with_reducible refine unfE (sh24.eq_1 ..) ?_) | (with_reducible refine And.intro ?_ ?_) | (simp only [Bool.not_true, Bool.not_false, Bool.and_self, Bool.true_and, Int.reduceBEq, Int.reduceBNe, Int.reduceLT, Int.reduceLE, decide_true, decide_false, Br_true, Br_false, Gd_tt, Gd_ft, Gd_tf, Gd_ff, beq_self_eq_true, bne_self_eq_false]) | (with_reducible refine gd_split (fun _ => ?_) (fun _ => ?_)) | (with_reducible refine br_split (fun _ => ?_) (fun _ => ?_)) | (simp only [SSd, Nat.reduceAdd]))
  exact Gh.to L (Gh.done hk)
def wallB (n : Int) : Bool := decide (0 ≤ n ∧ n ≤ 9007199254740991)
def rightB (s : TStamp) : Bool := wallB s.fWall && decide (0 ≤ s.fLogic ∧ s.fLogic ≤ 65535)
theorem wall_spec {a : Int} (hk : K (.bool (wallB a)) I L) : Cal Tryd.prog ω 46 #[.int .i64 a] K I L := by
  refine cal46 ?_
  unfold sh46
  repeat' (first | (with_reducible refine drawC ?_) | (with_reducible refine drawW1 ?_) | (with_reducible refine drawW2 ?_) | (with_reducible refine keepC (by repeat (first | exact Ext.refl _ | assumption | refine Ext.trans ?_ (by assumption))) ?_) | (with_reducible refine newI (fun _ => ?_)) | first | (with_reducible refine rdb ?_) | ((with_reducible refine st1 ?_ ?_); rfl) | ((with_reducible refine rdB ?_ ?_); rfl) | (with_reducible refine rdbS ?_) | ((with_reducible refine rdBS ?_ ?_); rfl) | ((with_reducible refine stB ?_ ?_ ?_ ?_); rfl; rfl; exact one_all rfl) | ((with_reducible refine rdP _ rfl ?_ ?_); rfl) | ((with_reducible refine rdPS _ rfl ?_ ?_); rfl) | ((with_reducible refine stP _ rfl ?_ ?_ ?_ ?_); rfl; rfl; rfl) | (with_reducible refine unfE (sh46.eq_1 ..) ?_) | (with_reducible refine And.intro ?_ ?_) | (simp only [Bool.not_true, Bool.not_false, Bool.and_self, Bool.true_and, Int.reduceBEq, Int.reduceBNe, Int.reduceLT, Int.reduceLE, decide_true, decide_false, Br_true, Br_false, Gd_tt, Gd_ft, Gd_tf, Gd_ff, beq_self_eq_true, bne_self_eq_false]) | (with_reducible refine gd_split (fun _ => ?_) (fun _ => ?_)) | (with_reducible refine br_split (fun _ => ?_) (fun _ => ?_)) | (simp only [SSd, Nat.reduceAdd]))
  all_goals (refine Gh.done (leafB hk ?_); simp_all [wallB] <;> omega)
theorem hright_spec {x : TStamp} (hk : K (.bool (rightB x)) I L) : Cal Tryd.prog ω 23 #[.agg #[.int .i64 x.fWall, .int .i64 x.fLogic]] K I L := by
  refine cal23 ?_
  unfold sh23
  repeat' (first | (with_reducible refine drawC ?_) | (with_reducible refine drawW1 ?_) | (with_reducible refine drawW2 ?_) | (with_reducible refine keepC (by repeat (first | exact Ext.refl _ | assumption | refine Ext.trans ?_ (by assumption))) ?_) | (with_reducible refine newI (fun _ => ?_)) | ((with_reducible refine call ?_); refine (wall_spec ?_)) | first | (with_reducible refine rdb ?_) | ((with_reducible refine st1 ?_ ?_); rfl) | ((with_reducible refine rdB ?_ ?_); rfl) | (with_reducible refine rdbS ?_) | ((with_reducible refine rdBS ?_ ?_); rfl) | ((with_reducible refine stB ?_ ?_ ?_ ?_); rfl; rfl; exact one_all rfl) | ((with_reducible refine rdP _ rfl ?_ ?_); rfl) | ((with_reducible refine rdPS _ rfl ?_ ?_); rfl) | ((with_reducible refine stP _ rfl ?_ ?_ ?_ ?_); rfl; rfl; rfl) | (with_reducible refine unfE (sh23.eq_1 ..) ?_) | (with_reducible refine And.intro ?_ ?_) | (simp only [Bool.not_true, Bool.not_false, Bool.and_self, Bool.true_and, Int.reduceBEq, Int.reduceBNe, Int.reduceLT, Int.reduceLE, decide_true, decide_false, Br_true, Br_false, Gd_tt, Gd_ft, Gd_tf, Gd_ff, beq_self_eq_true, bne_self_eq_false]) | (with_reducible refine gd_split (fun _ => ?_) (fun _ => ?_)) | (with_reducible refine br_split (fun _ => ?_) (fun _ => ?_)) | (simp only [SSd, Nat.reduceAdd]))
  all_goals (refine Gh.to L (Gh.done (leafB hk ?_)); simp_all [rightB] <;> omega)
def txnB (n : Int) : Bool := decide (1 ≤ n ∧ n ≤ 9007199254740991)
theorem istxn_spec {a : Int} (hk : K (.bool (txnB a)) I L) : Cal Tryd.prog ω 22 #[.int .i64 a] K I L := by
  refine cal22 ?_
  unfold sh22
  repeat' (first | (with_reducible refine drawC ?_) | (with_reducible refine drawW1 ?_) | (with_reducible refine drawW2 ?_) | (with_reducible refine keepC (by repeat (first | exact Ext.refl _ | assumption | refine Ext.trans ?_ (by assumption))) ?_) | (with_reducible refine newI (fun _ => ?_)) | first | (with_reducible refine rdb ?_) | ((with_reducible refine st1 ?_ ?_); rfl) | ((with_reducible refine rdB ?_ ?_); rfl) | (with_reducible refine rdbS ?_) | ((with_reducible refine rdBS ?_ ?_); rfl) | ((with_reducible refine stB ?_ ?_ ?_ ?_); rfl; rfl; exact one_all rfl) | ((with_reducible refine rdP _ rfl ?_ ?_); rfl) | ((with_reducible refine rdPS _ rfl ?_ ?_); rfl) | ((with_reducible refine stP _ rfl ?_ ?_ ?_ ?_); rfl; rfl; rfl) | (with_reducible refine unfE (sh22.eq_1 ..) ?_) | (with_reducible refine And.intro ?_ ?_) | (simp only [Bool.not_true, Bool.not_false, Bool.and_self, Bool.true_and, Int.reduceBEq, Int.reduceBNe, Int.reduceLT, Int.reduceLE, decide_true, decide_false, Br_true, Br_false, Gd_tt, Gd_ft, Gd_tf, Gd_ff, beq_self_eq_true, bne_self_eq_false]) | (with_reducible refine gd_split (fun _ => ?_) (fun _ => ?_)) | (with_reducible refine br_split (fun _ => ?_) (fun _ => ?_)) | (simp only [SSd, Nat.reduceAdd]))
  all_goals (refine Gh.done (leafB hk ?_); simp_all [txnB] <;> omega)
def readerB (n : Int) : Bool := n == 0 || txnB n
theorem ask_spec {x : TStamp} {a : Int} (hk : K (.bool (rightB x && readerB a)) I L) : Cal Tryd.prog ω 30 #[sv x, .int .i64 a] K I L := by
  refine cal30 ?_
  unfold sh30
  repeat' (first | (with_reducible refine drawC ?_) | (with_reducible refine drawW1 ?_) | (with_reducible refine drawW2 ?_) | (with_reducible refine keepC (by repeat (first | exact Ext.refl _ | assumption | refine Ext.trans ?_ (by assumption))) ?_) | (with_reducible refine newI (fun _ => ?_)) | ((with_reducible refine call ?_); refine (istxn_spec ?_)) | ((with_reducible refine call ?_); refine (hright_spec ?_)) | first | (with_reducible refine rdb ?_) | ((with_reducible refine st1 ?_ ?_); rfl) | ((with_reducible refine rdB ?_ ?_); rfl) | (with_reducible refine rdbS ?_) | ((with_reducible refine rdBS ?_ ?_); rfl) | ((with_reducible refine stB ?_ ?_ ?_ ?_); rfl; rfl; exact one_all rfl) | ((with_reducible refine rdP _ rfl ?_ ?_); rfl) | ((with_reducible refine rdPS _ rfl ?_ ?_); rfl) | ((with_reducible refine stP _ rfl ?_ ?_ ?_ ?_); rfl; rfl; rfl) | (with_reducible refine unfE (sh30.eq_1 ..) ?_) | (with_reducible refine And.intro ?_ ?_) | (simp only [Bool.not_true, Bool.not_false, Bool.and_self, Bool.true_and, Int.reduceBEq, Int.reduceBNe, Int.reduceLT, Int.reduceLE, decide_true, decide_false, Br_true, Br_false, Gd_tt, Gd_ft, Gd_tf, Gd_ff, beq_self_eq_true, bne_self_eq_false]) | (with_reducible refine gd_split (fun _ => ?_) (fun _ => ?_)) | (with_reducible refine br_split (fun _ => ?_) (fun _ => ?_)) | (simp only [SSd, Nat.reduceAdd]))
  all_goals (refine Gh.to L (Gh.done (leafB hk ?_)); simp_all [readerB] <;> omega)
def keyOk (l : List UInt8) : Bool := decide (1 ≤ l.length ∧ l.length ≤ 110)
theorem iskey_spec {v : Value} {l : List UInt8} (h : Bytes I v l) (hk : K (.bool (keyOk l)) I L) : Cal Tryd.prog ω 21 #[v] K I L := by
  obtain ⟨a, c, rfl⟩ := Bytes.form h
  refine cal21 ?_
  unfold sh21
  repeat' (first | (with_reducible refine drawC ?_) | (with_reducible refine drawW1 ?_) | (with_reducible refine drawW2 ?_) | (with_reducible refine keepC (by repeat (first | exact Ext.refl _ | assumption | refine Ext.trans ?_ (by assumption))) ?_) | (with_reducible refine newI (fun _ => ?_)) | first | (with_reducible refine rdb ?_) | ((with_reducible refine st1 ?_ ?_); rfl) | ((with_reducible refine rdB ?_ ?_); rfl) | (with_reducible refine rdbS ?_) | ((with_reducible refine rdBS ?_ ?_); rfl) | ((with_reducible refine stB ?_ ?_ ?_ ?_); rfl; rfl; exact one_all rfl) | ((with_reducible refine rdP _ rfl ?_ ?_); rfl) | ((with_reducible refine rdPS _ rfl ?_ ?_); rfl) | ((with_reducible refine stP _ rfl ?_ ?_ ?_ ?_); rfl; rfl; rfl) | (with_reducible refine unfE (sh21.eq_1 ..) ?_) | (with_reducible refine And.intro ?_ ?_) | (simp only [Bool.not_true, Bool.not_false, Bool.and_self, Bool.true_and, Int.reduceBEq, Int.reduceBNe, Int.reduceLT, Int.reduceLE, decide_true, decide_false, Br_true, Br_false, Gd_tt, Gd_ft, Gd_tf, Gd_ff, beq_self_eq_true, bne_self_eq_false]) | (with_reducible refine gd_split (fun _ => ?_) (fun _ => ?_)) | (with_reducible refine br_split (fun _ => ?_) (fun _ => ?_)) | (simp only [SSd, Nat.reduceAdd]))
  all_goals (refine Gh.done (leafB hk ?_); rw [Bool.eq_iff_iff]; simp only [keyOk, ne_eq, decide_eq_true_eq, decide_eq_false_iff_not, Bool.false_eq_true, iff_false] at *; omega)
theorem riskey_spec {v : Value} {l : List UInt8} (h : Bytes I v l) (hk : K (.bool (keyOk l)) I L) : Cal Tryd.prog ω 9 #[v] K I L := by
  obtain ⟨a, c, rfl⟩ := Bytes.form h
  refine cal9 ?_
  unfold sh9
  repeat' (first | (with_reducible refine drawC ?_) | (with_reducible refine drawW1 ?_) | (with_reducible refine drawW2 ?_) | (with_reducible refine keepC (by repeat (first | exact Ext.refl _ | assumption | refine Ext.trans ?_ (by assumption))) ?_) | (with_reducible refine newI (fun _ => ?_)) | first | (with_reducible refine rdb ?_) | ((with_reducible refine st1 ?_ ?_); rfl) | ((with_reducible refine rdB ?_ ?_); rfl) | (with_reducible refine rdbS ?_) | ((with_reducible refine rdBS ?_ ?_); rfl) | ((with_reducible refine stB ?_ ?_ ?_ ?_); rfl; rfl; exact one_all rfl) | ((with_reducible refine rdP _ rfl ?_ ?_); rfl) | ((with_reducible refine rdPS _ rfl ?_ ?_); rfl) | ((with_reducible refine stP _ rfl ?_ ?_ ?_ ?_); rfl; rfl; rfl) | (with_reducible refine unfE (sh9.eq_1 ..) ?_) | (with_reducible refine And.intro ?_ ?_) | (simp only [Bool.not_true, Bool.not_false, Bool.and_self, Bool.true_and, Int.reduceBEq, Int.reduceBNe, Int.reduceLT, Int.reduceLE, decide_true, decide_false, Br_true, Br_false, Gd_tt, Gd_ft, Gd_tf, Gd_ff, beq_self_eq_true, bne_self_eq_false]) | (with_reducible refine gd_split (fun _ => ?_) (fun _ => ?_)) | (with_reducible refine br_split (fun _ => ?_) (fun _ => ?_)) | (simp only [SSd, Nat.reduceAdd]))
  all_goals (refine Gh.done (leafB hk ?_); rw [Bool.eq_iff_iff]; simp only [keyOk, ne_eq, decide_eq_true_eq, decide_eq_false_iff_not, Bool.false_eq_true, iff_false] at *; omega)
def nextF (s : TStamp) : TStamp × Int := if rightB s = false then (⟨0, 0⟩, 80) else if s.fLogic < 65535 then (⟨s.fWall, s.fLogic + 1⟩, 0) else if s.fWall = 9007199254740991 then (⟨0, 0⟩, 82) else (⟨s.fWall + 1, 0⟩, 0)
theorem leafN {p q : TStamp × Int} (h : K (.tuple #[sv p.1, .int .i64 p.2]) I L) (e : p = q) : K (.tuple #[sv q.1, .int .i64 q.2]) I L := e ▸ h
theorem rightB_iff {x : TStamp} (h : rightB x = true) : (0 ≤ x.fWall ∧ x.fWall ≤ 9007199254740991) ∧ 0 ≤ x.fLogic ∧ x.fLogic ≤ 65535 := by
  simpa [rightB, wallB] using h
theorem hnext_spec {x : TStamp} (hk : K (.tuple #[sv (nextF x).1, .int .i64 (nextF x).2]) I L) : Cal Tryd.prog ω 25 #[sv x] K I L := by
  refine cal25 ?_
  unfold sh25
  repeat' (first | (with_reducible refine drawC ?_) | (with_reducible refine drawW1 ?_) | (with_reducible refine drawW2 ?_) | (with_reducible refine keepC (by repeat (first | exact Ext.refl _ | assumption | refine Ext.trans ?_ (by assumption))) ?_) | (with_reducible refine newI (fun _ => ?_)) | ((with_reducible refine call ?_); refine (hright_spec ?_)) | first | (with_reducible refine rdb ?_) | ((with_reducible refine st1 ?_ ?_); rfl) | ((with_reducible refine rdB ?_ ?_); rfl) | (with_reducible refine rdbS ?_) | ((with_reducible refine rdBS ?_ ?_); rfl) | ((with_reducible refine stB ?_ ?_ ?_ ?_); rfl; rfl; exact one_all rfl) | ((with_reducible refine rdP _ rfl ?_ ?_); rfl) | ((with_reducible refine rdPS _ rfl ?_ ?_); rfl) | ((with_reducible refine stP _ rfl ?_ ?_ ?_ ?_); rfl; rfl; rfl) | (with_reducible refine unfE (sh25.eq_1 ..) ?_) | (with_reducible refine And.intro ?_ ?_) | (simp only [Bool.not_true, Bool.not_false, Bool.and_self, Bool.true_and, Int.reduceBEq, Int.reduceBNe, Int.reduceLT, Int.reduceLE, decide_true, decide_false, Br_true, Br_false, Gd_tt, Gd_ft, Gd_tf, Gd_ff, beq_self_eq_true, bne_self_eq_false]) | (with_reducible refine gd_split (fun _ => ?_) (fun _ => ?_)) | (with_reducible refine br_split (fun _ => ?_) (fun _ => ?_)) | (simp only [SSd, Nat.reduceAdd]))
  all_goals (refine Gh.to L (Gh.done ?_))
  · exact leafN (q := (⟨0, 0⟩, 80)) hk (by simp_all [nextF])
  · rename_i e1 e2
    have hr := rightB_iff (x := x) (by simpa using e1)
    exact leafN (q := (⟨0, 0⟩, 82)) hk (by simp_all [nextF])
  · rename_i e1 e2 e3
    have hr := rightB_iff (x := x) (by simpa using e1)
    rw [wrap_i64 _ (by omega)]
    simp at e1 e2 e3
    exact leafN (q := (⟨x.fWall + 1, 0⟩, 0)) hk (by
      have : x.fWall ≠ 9007199254740991 := fun e => e2 e e3
      simp [nextF, e1, e3, this])
  · rename_i e1 e2 e3
    have hr := rightB_iff (x := x) (by simpa using e1)
    rw [wrap_i64 _ (by omega)]
    simp at e1 e2 e3
    exact leafN (q := (⟨x.fWall, x.fLogic + 1⟩, 0)) hk (by
      have : x.fLogic < 65535 := by omega
      simp [nextF, e1, this])
def inB (p : TSpan) (k : List UInt8) : Bool := !(blt k p.fFrom) && (p.fTo.length == 0 || blt k p.fTo)
end
end Go.Proofs.YtmnnnoinfhiilaaDoor
