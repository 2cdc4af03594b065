/-
  The program's node: it leads.
-/
-- S3
import Derived.Test.YtdcpeboecmkmlaaKG
set_option linter.unusedSimpArgs false
set_option linter.unusedVariables false
namespace Go.Proofs.Ytdcpeboecmkmlaa
open Go.SL
set_option maxRecDepth 10000

theorem RWF.weak {E B E' B' : Nat} {r : RF} (h : RWF E B r) (hE : E ≤ E') (hB : B ≤ B') : RWF E' B' r :=
  ⟨h.wf, by have := h.len; omega, h.grp, h.idn, h.trm, h.vot, h.lst, h.stl, by have := h.ela; omega, h.nxb, h.mtb⟩
theorem add_lastT (g : LG) (t k : Int) (d : List UInt8) : lastT (addG g t k d).2.2 = lastT g ∨ lastT (addG g t k d).2.2 = t := by
  unfold addG; split
  · right; simp [lastT, ltm_append, ltm]
  · exact .inl rfl
theorem add_len (g : LG) (t k : Int) (d : List UInt8) : (addG g t k d).2.2.es.length ≤ g.es.length + 1 := by
  unfold addG; split
  · simp
  · simp
theorem RWF.lead0 {E B : Nat} {r : RF} (h : RWF E B r) : RWF E B (lead0 r) := by
  have := h.wf.last
  exact ⟨h.wf, h.len, h.grp, h.idn, h.trm, h.vot, h.lst, h.stl, h.ela, fun p => by simp only [Go.Proofs.Ytdcpeboecmkmlaa.lead0]; omega, fun p => by simp [Go.Proofs.Ytdcpeboecmkmlaa.lead0]⟩
theorem RWF.add {E B : Nat} {r : RF} (h : RWF E B r) (hE : (E + 1) * 48 ≤ 150000000000000) (k : Int) (d : List UInt8) : RWF (E + 1) B { r with g := (addG r.g r.term k d).2.2 } := by
  have hl := h.len
  have h1 := add_len r.g r.term k d
  refine ⟨add_wf h.wf (by omega), by simp only; omega, h.grp, h.idn, h.trm, h.vot, ?_, h.stl, h.ela, h.nxb, h.mtb⟩
  have := h.lst
  rcases add_lastT r.g r.term k d with e | e <;> simp only [e] <;> omega
theorem RWF.lead {E B : Nat} {r : RF} (h : RWF E B r) (hE : (E + 1) * 48 ≤ 150000000000000) : RWF (E + 1) B (leadF r) := ((h.lead0.add hE 1 []).commit).all
theorem all_out {E B : Nat} (r : RF) (h : RWF E B r) : (sendAllF r).out.length ≤ r.out.length + 5 := by
  unfold sendAllF; split
  · have := (each_same (mems r) r).1
    have hm := memB_len h.wf.mems
    unfold mems at *; omega
  · omega
theorem lead_out {E B : Nat} {r : RF} (h : RWF E B r) (hE : (E + 1) * 48 ≤ 150000000000000) : (leadF r).out.length ≤ r.out.length + 5 := by
  have := all_out _ (h.lead0.add hE 1 []).commit
  rw [commit_out] at this
  exact this

/-- what the reads of a region lean on: these cells -/
def StayC (l : List (Nat × Nat × Value)) : M := fun I L => ∀ x ∈ l, Cell I L x.1 x.2.1 x.2.2
section
variable {ω : Om} {I : Imm} {L : LH} {K : Value → M}
theorem m0 {α : Type} {x : α} {l : List α} : x ∈ x :: l := List.mem_cons_self ..
theorem m1 {α : Type} {x y : α} {l : List α} : x ∈ y :: x :: l := List.mem_cons_of_mem _ (List.mem_cons_self ..)
theorem drawCells {B : M → M} (l : List (Nat × Nat × Value)) (h : StayC l I L) (hB : B (StayC l) I L) : Draw B I L := draw _ h hB
theorem rdSC {l : List (Nat × Nat × Value)} {b off : Nat} {v : Value} (hm : (b, off, v) ∈ l) (hk : K v I L) : Rv (some (StayC l)) (ld1R (.pointer (some ⟨b, off, none⟩))) K I L := rd1S (fun _ _ hS => hS _ hm) hk
theorem keepSC {l : List (Nat × Nat × Value)} {v : Value} (h : StayC l I L) (hk : K v I L) : Keep (StayC l) K v I L := ⟨h, hk⟩
theorem stayC_nil : StayC [] I L := fun _ h => by cases h
theorem stayC_cons {b off : Nat} {v : Value} {l : List (Nat × Nat × Value)} {cs : List Value} {T : Nat} {fr : Nat × Nat} [h : InL b L (.cells cs.toArray T fr)] [g : GetL cs off v] (hl : StayC l I L) : StayC ((b, off, v) :: l) I L := fun x hx => by
  rcases List.mem_cons.1 hx with rfl | hx
  · exact Cell.own h.mem (by simpa using g.get)
  · exact hl x hx

/-- the first nodes are set anew -/
def ldF (r : RF) (n k : Int) : RF := { r with role := 3, leader := r.id, nx := fun p => if p < k then n else r.nx p, mt := fun p => if p < k then 0 else r.mt p }
theorem six {k : Int} (h0 : 0 ≤ k) (h6 : k < 6) : k = 0 ∨ k = 1 ∨ k = 2 ∨ k = 3 ∨ k = 4 ∨ k = 5 := by omega

theorem ld_set {r : RF} {n k y1 y2 : Int} {z0 : Bool} {lv stv ov : Value} (h0 : 0 ≤ k) (h6 : k < 6) :
    (rcells (ldF r n k) z0 y1 y2 lv stv ov).take (15 + k.toNat * 2) ++ ([.int .i64 n, .int .i64 0] ++ (rcells (ldF r n k) z0 y1 y2 lv stv ov).drop (15 + k.toNat * 2 + 2)) =
      rcells (ldF r n (k + 1)) z0 (if k = 0 then n else y1) (if k = 0 then 0 else y2) lv stv ov := by
  rcases six h0 h6 with rfl | rfl | rfl | rfl | rfl | rfl <;> simp [rcells, ldF]
theorem ld_0 {r : RF} {n y1 y2 : Int} {z0 : Bool} {lv stv ov : Value} : rcells (ldF r n 0) z0 y1 y2 lv stv ov = rcells { r with role := 3, leader := r.id } z0 y1 y2 lv stv ov := by
  simp [rcells, ldF]
theorem ld_6 {r : RF} {y1 y2 : Int} {z0 : Bool} {lv stv ov : Value} : rcells (ldF r (lastI r.g + 1) 6) z0 y1 y2 lv stv ov = rcells (lead0 r) z0 y1 y2 lv stv ov := by
  simp [rcells, ldF, lead0]

theorem elected_spec {b E B : Nat} {X F : LH} {r : RF} (h : RaftR I b X r) (hw : RWF E B r) (hE : (E + 1) * 48 ≤ 150000000000000) (hl : r.out.length ≤ 800)
    (hk : ∀ X' I', Ext I I' → RaftR I' b X' (if electedF r then leadF r else r) → K (.bool (electedF r)) I' (X' ++ F)) : Cal Try.prog ω 94 #[.pointer (some ⟨b, 0, none⟩)] K I (X ++ F) := by
  obtain ⟨lb, XL, XO, stv, ov, z0, z1, z2, oc, rfl, h1, h2, h3, h4⟩ := h
  have hlast := hw.wf.last
  refine cal94 ?_
  unfold sh94
  simp only [List.cons_append, List.append_assoc]
  refine newI (fun r1 => ?_)
  simp only [cells_ptr, SSd, List.getElem?_toArray, List.getElem?_cons_zero, List.getElem?_cons_succ, Nat.zero_add, Nat.add_zero, Nat.zero_mul, List.drop_succ_cons, List.drop_zero, List.take_succ_cons, List.take_zero, List.nil_append, List.cons_append, Nat.reduceAdd, List.drop_nil, List.take_nil]
  refine rdb ?_
  refine call (majority_spec (q := r.vt) (Cell.own (InL.mem) rfl) h1.view hw.wf (fun p I2 K2 hp hI2 hK => ?_) (fun I1 hI1 => ?_))
  · rw [calV_elected]
    refine cal122 ?_
    unfold sh122
    repeat' (first | (with_reducible refine drawC ?_) | (with_reducible refine drawW1 ?_) | (with_reducible refine drawW2 ?_) | (with_reducible refine keepC (by repeat (first | exact Ext.refl _ | assumption | refine Ext.trans ?_ (by assumption))) ?_) | (with_reducible refine newI (fun _ => ?_)) | first | (with_reducible refine rdb ?_) | ((with_reducible refine st1 ?_ ?_); rfl) | ((with_reducible refine rdB ?_ ?_); rfl) | (with_reducible refine rdbS ?_) | ((with_reducible refine rdBS ?_ ?_); rfl) | ((with_reducible refine stB ?_ ?_ ?_ ?_); rfl; rfl; exact one_all rfl) | ((with_reducible refine rdP _ rfl ?_ ?_); rfl) | ((with_reducible refine rdPS _ rfl ?_ ?_); rfl) | ((with_reducible refine stP _ rfl ?_ ?_ ?_ ?_); rfl; rfl; rfl) | (with_reducible refine And.intro ?_ ?_) | (simp only [Bool.not_true, Bool.not_false, Bool.and_self, Bool.true_and, Int.reduceBEq, Int.reduceBNe, Int.reduceLT, Int.reduceLE, decide_true, decide_false, Br_true, Br_false, Gd_tt, Gd_ft, Gd_tf, Gd_ff, beq_self_eq_true, bne_self_eq_false]) | (with_reducible refine gd_split (fun _ => ?_) (fun _ => ?_)) | (with_reducible refine br_split (fun _ => ?_) (fun _ => ?_)) | (simp only [SSd, List.getElem?_toArray, List.getElem?_cons_zero, List.getElem?_cons_succ, Nat.zero_add, Nat.add_zero, Nat.zero_mul, List.drop_succ_cons, List.drop_zero, List.take_succ_cons, List.take_zero, List.nil_append, List.cons_append, Nat.reduceAdd, List.drop_nil, List.take_nil]))
    simp only [ixPV_at _ (show 0 ≤ p by omega) (show p < ((6 : Nat) : Int) by omega), SSd, List.getElem?_toArray, List.getElem?_cons_zero, List.getElem?_cons_succ, Nat.zero_add, Nat.add_zero, Nat.zero_mul, List.drop_succ_cons, List.drop_zero, List.take_succ_cons, List.take_zero, List.nil_append, List.cons_append, Nat.reduceAdd, List.drop_nil, List.take_nil]
    refine rdL (rc_vt hp) ?_
    exact Gh.done hK
  rw [show majF (memOf r.g.mem r.g.es) r.vt = electedF r from rfl]
  try simp only [SSd, List.getElem?_toArray, List.getElem?_cons_zero, List.getElem?_cons_succ, Nat.zero_add, Nat.add_zero, Nat.zero_mul, List.drop_succ_cons, List.drop_zero, List.take_succ_cons, List.take_zero, List.nil_append, List.cons_append, Nat.reduceAdd, List.drop_nil, List.take_nil]
  have h1' := h1.mono hI1
  have h2' := h2.mono hI1
  have h4' := h4.imp fun _ _ h => h.mono hI1
  refine br_split (fun he => ?_) (fun he => ?_)
  · simp at he
    rw [he, if_neg (by simp)] at hk
    exact raft_end (r := r) (F := F) z0 z1 z2 (fun X' h' => hk X' I1 hI1 h') h1' h2' h3 h4' rfl
  simp at he
  rw [he, if_pos rfl] at hk
  refine rdb ?_
  try simp only [SSd, List.getElem?_toArray, List.getElem?_cons_zero, List.getElem?_cons_succ, Nat.zero_add, Nat.add_zero, Nat.zero_mul, List.drop_succ_cons, List.drop_zero, List.take_succ_cons, List.take_zero, List.nil_append, List.cons_append, Nat.reduceAdd, List.drop_nil, List.take_nil]
  refine rdb ?_
  refine call (last_spec h1'.view hw.wf ?_)
  try simp only [SSd, List.getElem?_toArray, List.getElem?_cons_zero, List.getElem?_cons_succ, Nat.zero_add, Nat.add_zero, Nat.zero_mul, List.drop_succ_cons, List.drop_zero, List.take_succ_cons, List.take_zero, List.nil_append, List.cons_append, Nat.reduceAdd, List.drop_nil, List.take_nil]
  refine drawCells [(r1, 0, .pointer (some ⟨b, 0, none⟩)), (b, 1, .int .i64 r.id)] (stayC_cons (stayC_cons stayC_nil)) ?_
  refine rdSC m0 (rdSC m0 (rdSC m0 ?_))
  try simp only [SSd, List.getElem?_toArray, List.getElem?_cons_zero, List.getElem?_cons_succ, Nat.zero_add, Nat.add_zero, Nat.zero_mul, List.drop_succ_cons, List.drop_zero, List.take_succ_cons, List.take_zero, List.nil_append, List.cons_append, Nat.reduceAdd, List.drop_nil, List.take_nil]
  refine rdSC m1 ?_
  try simp only [SSd, List.getElem?_toArray, List.getElem?_cons_zero, List.getElem?_cons_succ, Nat.zero_add, Nat.add_zero, Nat.zero_mul, List.drop_succ_cons, List.drop_zero, List.take_succ_cons, List.take_zero, List.nil_append, List.cons_append, Nat.reduceAdd, List.drop_nil, List.take_nil]
  refine st1 rfl (keepSC (stayC_cons (stayC_cons stayC_nil)) ?_)
  try simp only [SSd, List.getElem?_toArray, List.getElem?_cons_zero, List.getElem?_cons_succ, Nat.zero_add, Nat.add_zero, Nat.zero_mul, List.drop_succ_cons, List.drop_zero, List.take_succ_cons, List.take_zero, List.nil_append, List.cons_append, Nat.reduceAdd, List.drop_nil, List.take_nil]
  refine st1 rfl ?_
  refine loop (fun m s I' L' => I' = I1 ∧ ∃ (k : Int) (y1 y2 : Int), 0 ≤ k ∧ k + m = 6 ∧ s = (.int .i64 k, ()) ∧
      L' = (r1, Obj.cells #[.pointer (some ⟨b, 0, none⟩)] 72 (0, 0)) :: (b, Obj.cells (rcells (ldF r (lastI r.g + 1) k) z0 y1 y2 (.pointer (some ⟨lb, 0, none⟩)) stv ov).toArray 131 (0, 0)) :: (XL ++ (XO ++ F)))
    6 ⟨rfl, 0, z1, z2, by omega, by omega, rfl, ?_⟩ ?_
  · rw [ld_0]
  rintro m s I' L' ⟨rfl, k, y1, y2, hk0, hkm, rfl, rfl⟩
  unfold sh94_3
  try simp only [SSd, List.getElem?_toArray, List.getElem?_cons_zero, List.getElem?_cons_succ, Nat.zero_add, Nat.add_zero, Nat.zero_mul, List.drop_succ_cons, List.drop_zero, List.take_succ_cons, List.take_zero, List.nil_append, List.cons_append, Nat.reduceAdd, List.drop_nil, List.take_nil]
  refine br_split (fun hlt => ?_) (fun hlt => ?_)
  · simp at hlt
    repeat' (first | (with_reducible refine drawC ?_) | (with_reducible refine drawW1 ?_) | (with_reducible refine drawW2 ?_) | (with_reducible refine keepC (by repeat (first | exact Ext.refl _ | assumption | refine Ext.trans ?_ (by assumption))) ?_) | (with_reducible refine newI (fun _ => ?_)) | first | (with_reducible refine rdb ?_) | ((with_reducible refine st1 ?_ ?_); rfl) | ((with_reducible refine rdB ?_ ?_); rfl) | (with_reducible refine rdbS ?_) | ((with_reducible refine rdBS ?_ ?_); rfl) | ((with_reducible refine stB ?_ ?_ ?_ ?_); rfl; rfl; exact one_all rfl) | ((with_reducible refine rdP _ rfl ?_ ?_); rfl) | ((with_reducible refine rdPS _ rfl ?_ ?_); rfl) | ((with_reducible refine stP _ rfl ?_ ?_ ?_ ?_); rfl; rfl; rfl) | (with_reducible refine And.intro ?_ ?_) | (simp only [Bool.not_true, Bool.not_false, Bool.and_self, Bool.true_and, Int.reduceBEq, Int.reduceBNe, Int.reduceLT, Int.reduceLE, decide_true, decide_false, Br_true, Br_false, Gd_tt, Gd_ft, Gd_tf, Gd_ff, beq_self_eq_true, bne_self_eq_false]) | (with_reducible refine gd_split (fun _ => ?_) (fun _ => ?_)) | (with_reducible refine br_split (fun _ => ?_) (fun _ => ?_)) | (simp only [SSd, List.getElem?_toArray, List.getElem?_cons_zero, List.getElem?_cons_succ, Nat.zero_add, Nat.add_zero, Nat.zero_mul, List.drop_succ_cons, List.drop_zero, List.take_succ_cons, List.take_zero, List.nil_append, List.cons_append, Nat.reduceAdd, List.drop_nil, List.take_nil, wrap_i64 (lastI r.g + 1) (by omega)]))
    simp only [ixPV_at _ hk0 (show k < ((6 : Nat) : Int) by omega), SSd, List.getElem?_toArray, List.getElem?_cons_zero, List.getElem?_cons_succ, Nat.zero_add, Nat.add_zero, Nat.zero_mul, List.drop_succ_cons, List.drop_zero, List.take_succ_cons, List.take_zero, List.nil_append, List.cons_append, Nat.reduceAdd, List.drop_nil, List.take_nil]
    refine stP _ (ld_set hk0 hlt) rfl (by rw [rc_len]; simp; omega) rfl (Gh.done ⟨m - 1, by omega, rfl, k + 1, _, _, by omega, by omega, by rw [wrap_i64 (k + 1) (by omega)], rfl⟩)
  · simp at hlt
    obtain rfl : k = 6 := by omega
    rw [ld_6]
    unfold sh94_1
    repeat' (first | (with_reducible refine drawC ?_) | (with_reducible refine drawW1 ?_) | (with_reducible refine drawW2 ?_) | (with_reducible refine keepC (by repeat (first | exact Ext.refl _ | assumption | refine Ext.trans ?_ (by assumption))) ?_) | (with_reducible refine newI (fun _ => ?_)) | first | (with_reducible refine rdb ?_) | ((with_reducible refine st1 ?_ ?_); rfl) | ((with_reducible refine rdB ?_ ?_); rfl) | (with_reducible refine rdbS ?_) | ((with_reducible refine rdBS ?_ ?_); rfl) | ((with_reducible refine stB ?_ ?_ ?_ ?_); rfl; rfl; exact one_all rfl) | ((with_reducible refine rdP _ rfl ?_ ?_); rfl) | ((with_reducible refine rdPS _ rfl ?_ ?_); rfl) | ((with_reducible refine stP _ rfl ?_ ?_ ?_ ?_); rfl; rfl; rfl) | (with_reducible refine And.intro ?_ ?_) | (simp only [Bool.not_true, Bool.not_false, Bool.and_self, Bool.true_and, Int.reduceBEq, Int.reduceBNe, Int.reduceLT, Int.reduceLE, decide_true, decide_false, Br_true, Br_false, Gd_tt, Gd_ft, Gd_tf, Gd_ff, beq_self_eq_true, bne_self_eq_false]) | (with_reducible refine gd_split (fun _ => ?_) (fun _ => ?_)) | (with_reducible refine br_split (fun _ => ?_) (fun _ => ?_)) | (simp only [SSd, List.getElem?_toArray, List.getElem?_cons_zero, List.getElem?_cons_succ, Nat.zero_add, Nat.add_zero, Nat.zero_mul, List.drop_succ_cons, List.drop_zero, List.take_succ_cons, List.take_zero, List.nil_append, List.cons_append, Nat.reduceAdd, List.drop_nil, List.take_nil]))
    refine callG (Cal.split XL (add_spec (d := []) h1' hw.wf (SlI.nil _ _ _ _) (by simp) (by have := hw.len; omega) (fun XL' I2 hI2 hL' => ?_)))
    have hwa := hw.lead0.add hE 1 []
    try simp only [SSd, List.getElem?_toArray, List.getElem?_cons_zero, List.getElem?_cons_succ, Nat.zero_add, Nat.add_zero, Nat.zero_mul, List.drop_succ_cons, List.drop_zero, List.take_succ_cons, List.take_zero, List.nil_append, List.cons_append, Nat.reduceAdd, List.drop_nil, List.take_nil]
    refine Gh.pick r1 ((b, Obj.cells (rcells (lead0 r) z0 y1 y2 (.pointer (some ⟨lb, 0, none⟩)) stv ov).toArray 131 (0, 0)) :: (XL' ++ (XO ++ F))) (Gh.done ?_)
    refine rdb ?_
    refine call (raft_cal (r := { lead0 r with g := (addG r.g r.term 1 []).2.2 }) b ((r1, Obj.cells #[.pointer (some ⟨b, 0, none⟩)] 72 (0, 0)) :: F) z0 y1 y2 hL' (h2'.mono hI2) h3 (h4'.imp fun _ _ h => h.mono hI2) rfl (fun X hX => ?_))
    refine commit_specR hX hwa (fun X' I3 hI3 hX' => ?_)
    refine rdb ?_
    refine call (sendAll_spec hX' hwa.commit (by rw [commit_out]; simp only [lead0]; omega) (fun X'' I4 hI4 hX'' => ?_))
    exact Gh.to (X'' ++ F) (Gh.done (hk X'' I4 (((hI1.trans hI2).trans hI3).trans hI4) hX''))
end
end Go.Proofs.Ytdcpeboecmkmlaa

namespace Go.Proofs.Ytdcpeboecmkmlaa
open Go.SL
set_option maxRecDepth 10000

theorem ask_cons (r : RF) (p : Int) (l : List Int) : askF r (p :: l) = askF (if p = r.id then r else sendF r (voteM r p)) l := rfl
theorem ask_same : ∀ (l : List Int) (r : RF), (askF r l).out.length ≤ r.out.length + l.length ∧ { askF r l with out := [] } = { r with out := [] }
  | [], r => ⟨by simp [askF], rfl⟩
  | p :: l, r => by
    rw [ask_cons]
    split
    · have := ask_same l r; exact ⟨by simp only [List.length_cons]; omega, this.2⟩
    · have := ask_same l (sendF r (voteM r p))
      refine ⟨by simp only [List.length_cons, sendF, List.length_append, List.length_nil] at this ⊢; omega, this.2.trans rfl⟩
theorem ask_snoc (r : RF) (l : List Int) (p : Int) : askF r (l ++ [p]) = if p = (askF r l).id then askF r l else sendF (askF r l) (voteM (askF r l) p) := by
  unfold askF; rw [List.foldl_append]; rfl
theorem RWF.ask {E B : Nat} {r : RF} (h : RWF E B r) (l : List Int) : RWF E B (askF r l) := h.out (ask_same l r).2
theorem RWF.want0 {E B : Nat} {r : RF} (h : RWF E B r) (ht : r.term ≠ 9007199254740991) : RWF E B (want0 r) := by
  have h1 := h.trm
  have h2 := h.lst
  exact ⟨h.wf, h.len, h.grp, h.idn, by simp only [Go.Proofs.Ytdcpeboecmkmlaa.want0]; omega, .inr h.idn, by simp only [Go.Proofs.Ytdcpeboecmkmlaa.want0]; omega, h.stl, by simp [Go.Proofs.Ytdcpeboecmkmlaa.want0], h.nxb, h.mtb⟩
theorem RWF.want {E B : Nat} {r : RF} (h : RWF E B r) (hE : (E + 1) * 48 ≤ 150000000000000) : RWF (E + 1) B (wantF r) := by
  unfold wantF
  split
  · exact h.weak (by omega) (by omega)
  · rename_i ht
    split
    · exact (h.want0 ht).lead hE
    · exact ((h.want0 ht).ask _).weak (by omega) (by omega)
theorem want_out {E B : Nat} {r : RF} (h : RWF E B r) (hE : (E + 1) * 48 ≤ 150000000000000) : (wantF r).out.length ≤ r.out.length + 5 := by
  unfold wantF
  split
  · omega
  · rename_i ht
    split
    · exact lead_out (h.want0 ht) hE
    · have := (ask_same (mems r) (want0 r)).1
      have hm := memB_len h.wf.mems
      unfold mems at *
      exact Nat.le_trans this (by simp only [want0]; omega)

section
variable {ω : Om} {I : Imm} {L : LH} {K : Value → M}
theorem bldA6 : bldAV 1 #[(Value.bool false), (Value.bool false), (Value.bool false), (Value.bool false), (Value.bool false), (Value.bool false)] [] = some (.agg #[.bool false, .bool false, .bool false, .bool false, .bool false, .bool false]) := by rfl

theorem want_spec {b E B : Nat} {X F : LH} {r : RF} (h : RaftR I b X r) (hw : RWF E B r) (hE : (E + 1) * 48 ≤ 150000000000000) (hl : r.out.length ≤ 700)
    (hk : ∀ X' I', Ext I I' → RaftR I' b X' (wantF r) → K (.tuple #[]) I' (X' ++ F)) : Cal Try.prog ω 89 #[.pointer (some ⟨b, 0, none⟩)] K I (X ++ F) := by
  obtain ⟨lb, XL, XO, stv, ov, z0, z1, z2, oc, rfl, h1, h2, h3, h4⟩ := h
  have hmm := memB_mem hw.wf.mems
  have hml := memB_len hw.wf.mems
  have htr := hw.trm
  refine cal89 ?_
  unfold sh89
  simp only [List.cons_append, List.append_assoc, SSd, List.getElem?_toArray, List.getElem?_cons_zero, List.getElem?_cons_succ, Nat.zero_add, Nat.add_zero, Nat.zero_mul, List.drop_succ_cons, List.drop_zero, List.take_succ_cons, List.take_zero, List.nil_append, List.cons_append, Nat.reduceAdd, List.drop_nil, List.take_nil]
  refine rdb ?_
  try simp only [SSd, List.getElem?_toArray, List.getElem?_cons_zero, List.getElem?_cons_succ, Nat.zero_add, Nat.add_zero, Nat.zero_mul, List.drop_succ_cons, List.drop_zero, List.take_succ_cons, List.take_zero, List.nil_append, List.cons_append, Nat.reduceAdd, List.drop_nil, List.take_nil]
  refine br_split (fun ht => ?_) (fun ht => ?_)
  · simp at ht
    rw [wantF, if_pos ht] at hk
    exact raft_end (F := F) z0 z1 z2 (fun X' h' => hk X' I (Ext.refl I) h') h1 h2 h3 h4 rfl
  simp at ht
  rw [wantF, if_neg ht] at hk
  have hw0 := hw.want0 ht
  repeat' (first | (with_reducible refine drawC ?_) | (with_reducible refine drawW1 ?_) | (with_reducible refine drawW2 ?_) | (with_reducible refine keepC (by repeat (first | exact Ext.refl _ | assumption | refine Ext.trans ?_ (by assumption))) ?_) | (with_reducible refine newI (fun _ => ?_)) | first | (with_reducible refine rdb ?_) | ((with_reducible refine st1 ?_ ?_); rfl) | ((with_reducible refine rdB ?_ ?_); rfl) | (with_reducible refine rdbS ?_) | ((with_reducible refine rdBS ?_ ?_); rfl) | ((with_reducible refine stB ?_ ?_ ?_ ?_); rfl; rfl; exact one_all rfl) | ((with_reducible refine rdP _ rfl ?_ ?_); rfl) | ((with_reducible refine rdPS _ rfl ?_ ?_); rfl) | ((with_reducible refine stP _ rfl ?_ ?_ ?_ ?_); rfl; rfl; rfl) | (with_reducible refine And.intro ?_ ?_) | (simp only [Bool.not_true, Bool.not_false, Bool.and_self, Bool.true_and, Int.reduceBEq, Int.reduceBNe, Int.reduceLT, Int.reduceLE, decide_true, decide_false, Br_true, Br_false, Gd_tt, Gd_ft, Gd_tf, Gd_ff, beq_self_eq_true, bne_self_eq_false]) | (with_reducible refine gd_split (fun _ => ?_) (fun _ => ?_)) | (with_reducible refine br_split (fun _ => ?_) (fun _ => ?_)) | (simp only [SSd, List.getElem?_toArray, List.getElem?_cons_zero, List.getElem?_cons_succ, Nat.zero_add, Nat.add_zero, Nat.zero_mul, List.drop_succ_cons, List.drop_zero, List.take_succ_cons, List.take_zero, List.nil_append, List.cons_append, Nat.reduceAdd, List.drop_nil, List.take_nil, wrap_i64 (r.term + 1) (by omega), bldA6]))
  simp only [ixPV_at _ (show 0 ≤ r.id by have := hw.idn; omega) (show r.id < ((6 : Nat) : Int) by have := hw.idn; omega), SSd, List.getElem?_toArray, List.getElem?_cons_zero, List.getElem?_cons_succ, Nat.zero_add, Nat.add_zero, Nat.zero_mul, List.drop_succ_cons, List.drop_zero, List.take_succ_cons, List.take_zero, List.nil_append, List.cons_append, Nat.reduceAdd, List.drop_nil, List.take_nil]
  refine stL (l' := rcells (want0 r) false z1 z2 (.pointer (some ⟨lb, 0, none⟩)) stv ov) ?_ ?_ rfl ?_
  · have h5 := hw.idn
    rcases five hw.idn with e | e | e | e | e <;> rw [e] <;> simp [rcells, want0, e]
  · have h5 := hw.idn
    simp; omega
  refine call (raft_cal (r := want0 r) b F false z1 z2 h1 h2 h3 h4 rfl (fun X hX => ?_))
  refine elected_spec hX hw0 hE (by simp only [want0]; omega) (fun X' I1 hI1 hX' => ?_)
  refine br_split (fun he => ?_) (fun he => ?_)
  · simp only [he, if_true] at hX' hk
    exact Gh.done (hk X' I1 hI1 hX')
  simp only [he, Bool.false_eq_true, if_false] at hX' hk
  clear h1 h2 h3 h4
  have hRR := hX'
  obtain ⟨lb, XL, XO, stv, ov, z0, z1, z2, oc, rfl, h1, h2, h3, h4⟩ := hX'
  simp only [List.cons_append, List.append_assoc, SSd, List.getElem?_toArray, List.getElem?_cons_zero, List.getElem?_cons_succ, Nat.zero_add, Nat.add_zero, Nat.zero_mul, List.drop_succ_cons, List.drop_zero, List.take_succ_cons, List.take_zero, List.nil_append, List.cons_append, Nat.reduceAdd, List.drop_nil, List.take_nil]
  refine rdb ?_
  refine call (last_spec h1.view hw0.wf ?_)
  try simp only [SSd, List.getElem?_toArray, List.getElem?_cons_zero, List.getElem?_cons_succ, Nat.zero_add, Nat.add_zero, Nat.zero_mul, List.drop_succ_cons, List.drop_zero, List.take_succ_cons, List.take_zero, List.nil_append, List.cons_append, Nat.reduceAdd, List.drop_nil, List.take_nil]
  refine rdb ?_
  refine call (lmembers_spec h1.view hw0.wf (fun v I2 hI2 hv => ?_))
  rw [show (want0 r).g = r.g from rfl] at *
  rw [show mems r = memOf r.g.mem r.g.es from rfl] at hk
  generalize memOf r.g.mem r.g.es = l at *
  have hln := Ints.len hv
  simp only [hln, SSd, List.getElem?_toArray, List.getElem?_cons_zero, List.getElem?_cons_succ, Nat.zero_add, Nat.add_zero, Nat.zero_mul, List.drop_succ_cons, List.drop_zero, List.take_succ_cons, List.take_zero, List.nil_append, List.cons_append, Nat.reduceAdd, List.drop_nil, List.take_nil]
  refine loop (fun m s I' L' => Ext I2 I' ∧ ∃ (k : Nat) (X' : LH), k + m = l.length ∧ s = (.int .i64 k, ()) ∧ RaftR I' b X' (askF (want0 r) (l.take k)) ∧ L' = X' ++ F) l.length ⟨Ext.refl _, 0, _, by omega, rfl, hRR.mono hI2, by simp only [List.cons_append, List.append_assoc]⟩ ?_
  clear h1 h2 h3 h4 hRR
  rintro m s I' L' ⟨hI, k, X', hkm, rfl, hR, rfl⟩
  unfold sh89_2
  try simp only [SSd, List.getElem?_toArray, List.getElem?_cons_zero, List.getElem?_cons_succ, Nat.zero_add, Nat.add_zero, Nat.zero_mul, List.drop_succ_cons, List.drop_zero, List.take_succ_cons, List.take_zero, List.nil_append, List.cons_append, Nat.reduceAdd, List.drop_nil, List.take_nil]
  refine br_split (fun hlt => ?_) (fun hlt => ?_)
  · simp at hlt
    obtain ⟨b2, off, hix, hc2⟩ := ints_at hv (i := k) (by omega) (by omega)
    simp only [hix, SSd, List.getElem?_toArray, List.getElem?_cons_zero, List.getElem?_cons_succ, Nat.zero_add, Nat.add_zero, Nat.zero_mul, List.drop_succ_cons, List.drop_zero, List.take_succ_cons, List.take_zero, List.nil_append, List.cons_append, Nat.reduceAdd, List.drop_nil, List.take_nil]
    refine rd1 (hc2 I' _ hI) ?_
    obtain ⟨lb, XL, XO, stv, ov, z0, z1, z2, oc, rfl, h1, h2, h3, h4⟩ := hR
    simp only [List.cons_append, List.append_assoc, SSd, List.getElem?_toArray, List.getElem?_cons_zero, List.getElem?_cons_succ, Nat.zero_add, Nat.add_zero, Nat.zero_mul, List.drop_succ_cons, List.drop_zero, List.take_succ_cons, List.take_zero, List.nil_append, List.cons_append, Nat.reduceAdd, List.drop_nil, List.take_nil]
    refine rdb ?_
    have hs := ask_same (l.take k) (want0 r)
    have ht := take_geti hlt
    have hid := (RF.ext_out hs.2).2.1
    have hg := (RF.ext_out hs.2).1
    have hn := ask_snoc (want0 r) (l.take k) (geti l (k : Int))
    rw [← ht] at hn
    try simp only [SSd, List.getElem?_toArray, List.getElem?_cons_zero, List.getElem?_cons_succ, Nat.zero_add, Nat.add_zero, Nat.zero_mul, List.drop_succ_cons, List.drop_zero, List.take_succ_cons, List.take_zero, List.nil_append, List.cons_append, Nat.reduceAdd, List.drop_nil, List.take_nil]
    refine br_split (fun hq => ?_) (fun hq => ?_)
    · simp at hq
      rw [if_neg hq] at hn
      try simp only [SSd, List.getElem?_toArray, List.getElem?_cons_zero, List.getElem?_cons_succ, Nat.zero_add, Nat.add_zero, Nat.zero_mul, List.drop_succ_cons, List.drop_zero, List.take_succ_cons, List.take_zero, List.nil_append, List.cons_append, Nat.reduceAdd, List.drop_nil, List.take_nil]
      refine call (raft_cal (r := askF (want0 r) (l.take k)) b F z0 z1 z2 h1 h2 h3 h4 rfl (fun X hX => ?_))
      refine send_spec (m := voteM (askF (want0 r) (l.take k)) (geti l (k : Int))) hX ⟨_, _, _, by simp only [voteM, hg]; rfl, RL.nil _ _, SlI.nil _ _ _ _, SlI.nil _ _ _ _⟩ (by have h5 := hs.1; rw [show (want0 r).out = r.out from rfl, List.length_take] at h5; omega) (fun X' hX' => ?_)
      unfold sh89_3
      simp only [SSd, List.getElem?_toArray, List.getElem?_cons_zero, List.getElem?_cons_succ, Nat.zero_add, Nat.add_zero, Nat.zero_mul, List.drop_succ_cons, List.drop_zero, List.take_succ_cons, List.take_zero, List.nil_append, List.cons_append, Nat.reduceAdd, List.drop_nil, List.take_nil, wrap_i64 ((k : Int) + 1) (by omega)]
      exact Gh.done ⟨m - 1, by omega, hI, k + 1, X', by omega, by simp, by rw [hn]; exact hX', rfl⟩
    · simp at hq
      rw [if_pos hq] at hn
      unfold sh89_3
      simp only [SSd, List.getElem?_toArray, List.getElem?_cons_zero, List.getElem?_cons_succ, Nat.zero_add, Nat.add_zero, Nat.zero_mul, List.drop_succ_cons, List.drop_zero, List.take_succ_cons, List.take_zero, List.nil_append, List.cons_append, Nat.reduceAdd, List.drop_nil, List.take_nil, wrap_i64 ((k : Int) + 1) (by omega)]
      refine Gh.done ⟨m - 1, by omega, hI, k + 1, (b, Obj.cells (rcells (askF (want0 r) (l.take k)) z0 z1 z2 (.pointer (some ⟨lb, 0, none⟩)) stv ov).toArray 131 (0, 0)) :: (XL ++ XO), by omega, by simp, ?_, ?_⟩
      · rw [hn]; exact ⟨lb, XL, XO, stv, ov, z0, z1, z2, oc, rfl, h1, h2, h3, h4⟩
      · simp only [List.cons_append, List.append_assoc]
  · simp at hlt
    rw [List.take_of_length_le (by omega)] at hR
    exact Gh.done (hk X' I' ((hI1.trans hI2).trans hI) hR)
end
end Go.Proofs.Ytdcpeboecmkmlaa
