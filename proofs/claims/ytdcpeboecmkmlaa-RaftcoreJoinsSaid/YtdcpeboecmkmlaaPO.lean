/-
  In a calm group what is proposed is committed by all: the law's own walk.
-/
-- S3
import Derived.Test.YtdcpeboecmkmlaaPM
set_option linter.unusedSimpArgs false
set_option linter.unusedVariables false
namespace Go.Proofs.Ytdcpeboecmkmlaa
open Go.SL
set_option maxRecDepth 10000

section
variable {ω : Om} {I : Imm} {L : LH} {K : Value → M} {wb : Nat} {F : LH} {k a b : Int}
theorem calm_len20 {d : List UInt8} : (d.take 20).length ≤ 20 := by rw [List.length_take]; omega
theorem calm_kd {d : List UInt8} {more : List LE} {j : Nat} (hj : j < d.length) (hl : j + 1 < (calmL d more).length) : (calmL d more)[j + 1].kind = 2 ∧ (calmL d more)[j + 1].data = [d[j]] := by
  have := calm_get (more := more) hj
  rw [List.getElem?_eq_getElem hl] at this
  rw [Option.some.inj this]
  exact ⟨rfl, rfl⟩

set_option maxHeartbeats 2000000 in
/-- what is asked in the end -/
theorem calm_end {d : List UInt8} {v1 : Value} {N : Nat} {w : WM} {m : Nat} {nx mt : Int → Nat} (h1 : Bytes I v1 d) (hm20 : m = (d.take 20).length) (hW : WorldR I wb L w F) (hw : WWF N w) (ht : Tri k a b) (hg : Grp (calmL (d.take 20) []) k a b (m + 1) nx mt w.n)
    (hk : ∀ I' L', Ext I I' → K (.bool true) I' L') :
    LoopM ((.bool false, .int .i64 1, ()) : Value × Value × Unit) (fun s Kn0 => sh10_7 ω v1 (pt wb) (.int .i64 m) s.1 s.2.1 Kn0 (fun v => Gh (K v))) I L := by
  have hm : m ≤ 20 := by rw [hm20]; exact calm_len20
  have hmd : m ≤ d.length := by rw [hm20, List.length_take]; omega
  have hFL : FLok (calmL (d.take 20) []) := calm_ok calm_len20 (by simp) rfl (fun e he => by cases he)
  have hlen : (calmL (d.take 20) []).length = m + 1 := by rw [calm_len, hm20]; rfl
  refine loop (fun mm s I' L' => Ext I I' ∧ L' = L ∧ ∃ p : Nat, 1 ≤ p ∧ p + mm = 4 ∧ s = (.bool false, .int .i64 p, ())) 3 ⟨Ext.refl _, rfl, 1, by omega, by omega, rfl⟩ ?_
  rintro mm s I' L' ⟨hI, rfl, p, hp1, hp2, rfl⟩
  unfold sh10_7
  try simp only [SSd, List.getElem?_toArray, List.getElem?_cons_zero, List.getElem?_cons_succ, Nat.zero_add, Nat.add_zero, Nat.zero_mul, List.drop_succ_cons, List.drop_zero, List.take_succ_cons, List.take_zero, List.nil_append, List.cons_append, Nat.reduceAdd, List.drop_nil, List.take_nil]
  refine br_split (fun hlt => ?_) (fun hlt => Gh.done (hk I' _ hI))
  simp at hlt
  have hp5 : 1 ≤ (p : Int) ∧ (p : Int) ≤ 5 := by omega
  have hgp := hg.all ht (p := p) (by omega)
  have hwf := (hw.nod p hp5).1.wf
  obtain ⟨nb, hc1, _, hlog, _⟩ := (hW.mono hI).node (ω := ω) hp5
  simp only [pt, SSd, List.getElem?_toArray, List.getElem?_cons_zero, List.getElem?_cons_succ, Nat.zero_add, Nat.add_zero, Nat.zero_mul, List.drop_succ_cons, List.drop_zero, List.take_succ_cons, List.take_zero, List.nil_append, List.cons_append, Nat.reduceAdd, List.drop_nil, List.take_nil, ixPV_at _ (show 0 ≤ (p : Int) by omega) (show (p : Int) < ((6 : Nat) : Int) by omega)]
  refine rd1 (by simpa using hc1) ?_
  refine call (hlog hwf (fun lb o I1 hI1 hW1 hV => ?_))
  simp only [SSd, List.getElem?_toArray, List.getElem?_cons_zero, List.getElem?_cons_succ, Nat.zero_add, Nat.add_zero, Nat.zero_mul, List.drop_succ_cons, List.drop_zero, List.take_succ_cons, List.take_zero, List.nil_append, List.cons_append, Nat.reduceAdd, List.drop_nil, List.take_nil, pt]
  rw [hgp] at hV hwf
  refine call (commit_spec hV ?_)
  simp only [SSd, List.getElem?_toArray, List.getElem?_cons_zero, List.getElem?_cons_succ, Nat.zero_add, Nat.add_zero, Nat.zero_mul, List.drop_succ_cons, List.drop_zero, List.take_succ_cons, List.take_zero, List.nil_append, List.cons_append, Nat.reduceAdd, List.drop_nil, List.take_nil, wrap_i64 ((m : Int) + 1) (by omega)]
  refine br_split (fun h => by simp [LGof] at h) (fun _ => ?_)
  refine loop (fun m2 s I2 L2 => Ext I1 I2 ∧ L2 = (lb, o) :: L' ∧ ∃ i : Nat, i + m2 = m ∧ s = (.bool false, .int .i64 i, ())) m ⟨Ext.refl _, rfl, 0, by omega, rfl⟩ ?_
  rintro m2 s I2 L2 ⟨hI2, rfl, i, hi, rfl⟩
  unfold sh10_11
  try simp only [SSd, List.getElem?_toArray, List.getElem?_cons_zero, List.getElem?_cons_succ, Nat.zero_add, Nat.add_zero, Nat.zero_mul, List.drop_succ_cons, List.drop_zero, List.take_succ_cons, List.take_zero, List.nil_append, List.cons_append, Nat.reduceAdd, List.drop_nil, List.take_nil]
  refine br_split (fun hlt2 => ?_) (fun hlt2 => ?_)
  rotate_left
  · unfold sh10_8
    simp only [SSd, List.getElem?_toArray, List.getElem?_cons_zero, List.getElem?_cons_succ, Nat.zero_add, Nat.add_zero, Nat.zero_mul, List.drop_succ_cons, List.drop_zero, List.take_succ_cons, List.take_zero, List.nil_append, List.cons_append, Nat.reduceAdd, List.drop_nil, List.take_nil, wrap_i64 ((p : Int) + 1) (by omega)]
    exact Gh.to L' (Gh.done ⟨mm - 1, by omega, hI.trans (hI1.trans hI2), rfl, p + 1, by omega, by omega, by simp⟩)
  simp at hlt2
  simp only [SSd, List.getElem?_toArray, List.getElem?_cons_zero, List.getElem?_cons_succ, Nat.zero_add, Nat.add_zero, Nat.zero_mul, List.drop_succ_cons, List.drop_zero, List.take_succ_cons, List.take_zero, List.nil_append, List.cons_append, Nat.reduceAdd, List.drop_nil, List.take_nil, wrap_i64 ((i : Int) + 2) (by omega)]
  have hid : i < (d.take 20).length := by omega
  have hdi : (d.take 20)[i] = d[i] := by rw [List.getElem_take]
  refine call (at_spec (hV.toM hI2 (fun _ h => h)) hwf (i := (i : Int) + 2) (by unfold inI64; omega) (fun ce I3 hI3 hce => ?_))
  have he : entAt (LGof (calmL (d.take 20) []) 0 (m + 1) (m + 1)) ((i : Int) + 2) = some ⟨(i : Int) + 2, 1, 2, [d[i]]⟩ := by
    have e1 := lg_at (c := m + 1) (i := i + 2) (n := m + 1) (b := 0) hFL (by omega) (by omega) (by omega)
    rw [show (((i + 2 : Nat)) : Int) = (i : Int) + 2 by omega] at e1
    have e2 := calm_get (d := d.take 20) (more := []) hid
    rw [e1, ← List.getElem?_eq_getElem, ← hdi]
    exact e2
  rw [he] at hce
  simp only [Option.getD_some] at hce
  obtain ⟨ev, rfl, hB⟩ := hce
  obtain ⟨ea, ecap, rfl⟩ := hB.form
  simp only [SSd, List.getElem?_toArray, List.getElem?_cons_zero, List.getElem?_cons_succ, Nat.zero_add, Nat.add_zero, Nat.zero_mul, List.drop_succ_cons, List.drop_zero, List.take_succ_cons, List.take_zero, List.nil_append, List.cons_append, Nat.reduceAdd, List.drop_nil, List.take_nil, he, Option.isSome_some]
  refine newI (fun b5 => ?_)
  refine stB rfl rfl (one_all rfl) ?_
  refine drawC ?_
  try simp only [SSd, List.getElem?_toArray, List.getElem?_cons_zero, List.getElem?_cons_succ, Nat.zero_add, Nat.add_zero, Nat.zero_mul, List.drop_succ_cons, List.drop_zero, List.take_succ_cons, List.take_zero, List.nil_append, List.cons_append, Nat.reduceAdd, List.drop_nil, List.take_nil]
  refine gd_split (fun _ => ?_) (fun h => by simp at h)
  refine rdbS ?_
  try simp only [SSd, List.getElem?_toArray, List.getElem?_cons_zero, List.getElem?_cons_succ, Nat.zero_add, Nat.add_zero, Nat.zero_mul, List.drop_succ_cons, List.drop_zero, List.take_succ_cons, List.take_zero, List.nil_append, List.cons_append, Nat.reduceAdd, List.drop_nil, List.take_nil]
  refine gd_split (fun _ => ?_) (fun h => by simp at h)
  refine rdbS ?_
  try simp only [SSd, List.getElem?_toArray, List.getElem?_cons_zero, List.getElem?_cons_succ, Nat.zero_add, Nat.add_zero, Nat.zero_mul, List.drop_succ_cons, List.drop_zero, List.take_succ_cons, List.take_zero, List.nil_append, List.cons_append, Nat.reduceAdd, List.drop_nil, List.take_nil]
  refine gd_split (fun _ => ?_) (fun h => by simp at h)
  refine rdbS ?_
  obtain ⟨b6, off6, hix6, hc6⟩ := bytes_at (i := 0) hB (by omega) (by simp)
  simp only [hix6, SSd, List.getElem?_toArray, List.getElem?_cons_zero, List.getElem?_cons_succ, Nat.zero_add, Nat.add_zero, Nat.zero_mul, List.drop_succ_cons, List.drop_zero, List.take_succ_cons, List.take_zero, List.nil_append, List.cons_append, Nat.reduceAdd, List.drop_nil, List.take_nil]
  refine rd1I (hc6 _ _ (Ext.refl _)) ?_
  obtain ⟨b7, off7, hix7, hc7⟩ := bytes_at (i := (i : Int)) h1 (by omega) (by omega)
  rw [geti_nat (show i < d.length by omega)] at hc7
  simp only [hix7, SSd, List.getElem?_toArray, List.getElem?_cons_zero, List.getElem?_cons_succ, Nat.zero_add, Nat.add_zero, Nat.zero_mul, List.drop_succ_cons, List.drop_zero, List.take_succ_cons, List.take_zero, List.nil_append, List.cons_append, Nat.reduceAdd, List.drop_nil, List.take_nil]
  refine rd1I (hc7 _ _ ((hI.trans hI1).trans (hI2.trans hI3))) ?_
  try simp only [SSd, List.getElem?_toArray, List.getElem?_cons_zero, List.getElem?_cons_succ, Nat.zero_add, Nat.add_zero, Nat.zero_mul, List.drop_succ_cons, List.drop_zero, List.take_succ_cons, List.take_zero, List.nil_append, List.cons_append, Nat.reduceAdd, List.drop_nil, List.take_nil]
  refine br_split (fun h => by simp [geti] at h) (fun _ => ?_)
  simp only [SSd, List.getElem?_toArray, List.getElem?_cons_zero, List.getElem?_cons_succ, Nat.zero_add, Nat.add_zero, Nat.zero_mul, List.drop_succ_cons, List.drop_zero, List.take_succ_cons, List.take_zero, List.nil_append, List.cons_append, Nat.reduceAdd, List.drop_nil, List.take_nil, wrap_i64 ((i : Int) + 1) (by omega)]
  exact Gh.to ((lb, o) :: L') (Gh.done ⟨m2 - 1, by omega, hI2.trans hI3, rfl, i + 1, by omega, by simp⟩)

set_option maxHeartbeats 2000000 in
/-- behind the proposals -/
theorem calm4 {d : List UInt8} {v1 : Value} {N : Nat} {w : WM} {m : Nat} {nx mt : Int → Nat} (h1 : Bytes I v1 d) (hm20 : m = (d.take 20).length) (hW : WorldR I wb L w F) (hw : WWF N w) (hN : N ≤ 1000) (hc : CO (GL (calmL (d.take 20) [])) k w) (ht : Tri k a b) (hg : Grp (calmL (d.take 20) []) k a b (m + 1) nx mt w.n)
    (hk : ∀ I' L', Ext I I' → K (.bool true) I' L') :
    sh10_4 ω v1 (.bool false) (pt wb) (.int .i64 k) (.int .i64 m) (fun v => Gh (K v)) I L := by
  have hFL : FLok (calmL (d.take 20) []) := calm_ok calm_len20 (by simp) rfl (fun e he => by cases he)
  have hlen : (calmL (d.take 20) []).length = m + 1 := by rw [calm_len, hm20]; rfl
  have hk5 : 1 ≤ k ∧ k ≤ 5 := by unfold Tri at ht; omega
  unfold sh10_4
  obtain ⟨sa, scap, hcs⟩ := hW.len
  simp only [pt, SSd, List.getElem?_toArray, List.getElem?_cons_zero, List.getElem?_cons_succ, Nat.zero_add, Nat.add_zero, Nat.zero_mul, List.drop_succ_cons, List.drop_zero, List.take_succ_cons, List.take_zero, List.nil_append, List.cons_append, Nat.reduceAdd, List.drop_nil, List.take_nil]
  refine rd1 hcs ?_
  simp only [SSd, List.getElem?_toArray, List.getElem?_cons_zero, List.getElem?_cons_succ, Nat.zero_add, Nat.add_zero, Nat.zero_mul, List.drop_succ_cons, List.drop_zero, List.take_succ_cons, List.take_zero, List.nil_append, List.cons_append, Nat.reduceAdd, List.drop_nil, List.take_nil, wrap_i64 (k - 1) (by omega)]
  obtain ⟨hpl, N', hD, nx', mt', hg'⟩ := beat_dl ht hFL (n := m + 1) (by omega) (by rw [hm20]; exact calm_mem (Nat.le_refl _)) hg
  have hwp := hw.play (by omega) 0 (k - 1) 0
  have hcp := hc.play 0 (k - 1) 0
  rw [hpl] at hwp hcp
  refine call (play_spec (ω := ω) (d := 0) (who := k - 1) (n := 0) hW hw (by omega) (by unfold inI64; omega) (fun L2 I2 hI2 hW2 => ?_))
  rw [hpl] at hW2
  refine call (wsettle_spec (most := 100) (T := 4) hW2 hwp hcp (by simp [afterW]) hD (by omega) (by omega) (by omega) (fun L3 I3 w3 hI3 hW3 hw3 hc3 e1 e2 => ?_))
  try simp only [SSd, List.getElem?_toArray, List.getElem?_cons_zero, List.getElem?_cons_succ, Nat.zero_add, Nat.add_zero, Nat.zero_mul, List.drop_succ_cons, List.drop_zero, List.take_succ_cons, List.take_zero, List.nil_append, List.cons_append, Nat.reduceAdd, List.drop_nil, List.take_nil]
  refine br_split (fun h => by simp at h) (fun _ => ?_)
  refine calm_end (h1.mono (hI2.trans hI3)) hm20 hW3 hw3 ht (e1 ▸ hg') (fun I' L' hI' => hk I' L' ((hI2.trans hI3).trans hI'))

set_option maxHeartbeats 2000000 in
/-- the first one leads; the proposals -/
theorem calm2 {d : List UInt8} {v1 : Value} (h1 : Bytes I v1 d) (hdl : d.length < 4611686018427387904) (hW : WorldR I wb L world0 F) (ht : Tri k a b) (hk : ∀ I' L', Ext I I' → K (.bool true) I' L') :
    sh10_2 ω v1 (.bool false) (pt wb) (.int .i64 k) (fun v => Gh (K v)) I L := by
  have hFL : FLok (calmL (d.take 20) []) := calm_ok calm_len20 (by simp) rfl (fun e he => by cases he)
  have hlen : (calmL (d.take 20) []).length = (d.take 20).length + 1 := by rw [calm_len]; rfl
  have hl20 : (d.take 20).length = min 20 d.length := List.length_take
  have hk5 : 1 ≤ k ∧ k ≤ 5 := by unfold Tri at ht; omega
  have hvl := Bytes.len h1
  unfold sh10_2
  simp only [pt, SSd, List.getElem?_toArray, List.getElem?_cons_zero, List.getElem?_cons_succ, Nat.zero_add, Nat.add_zero, Nat.zero_mul, List.drop_succ_cons, List.drop_zero, List.take_succ_cons, List.take_zero, List.nil_append, List.cons_append, Nat.reduceAdd, List.drop_nil, List.take_nil, wrap_i64 (k - 1) (by omega)]
  obtain ⟨hpl, N', hD, nx, mt, hg, -⟩ := tick_dl ht hFL rfl
  have hwp := WWF.first.play (by omega) 0 (k - 1) 1
  have hcp := (CO.first (G := GL (calmL (d.take 20) [])) (l := k)).play 0 (k - 1) 1
  rw [hpl] at hwp hcp
  refine call (play_spec (ω := ω) (d := 0) (who := k - 1) (n := 1) hW WWF.first (by omega) (by unfold inI64; omega) (fun L2 I2 hI2 hW2 => ?_))
  rw [hpl] at hW2
  refine call (wsettle_spec (frm := 0) (most := 100) (T := 12) hW2 hwp hcp (by omega) hD (by omega) (by omega) (by omega) (fun L3 I3 w3 hI3 hW3 hw3 hc3 e1 e2 => ?_))
  rw [← e1] at hg
  obtain ⟨nb, hn1, hn2, _, _⟩ := hW3.node (ω := ω) hk5
  simp only [SSd, List.getElem?_toArray, List.getElem?_cons_zero, List.getElem?_cons_succ, Nat.zero_add, Nat.add_zero, Nat.zero_mul, List.drop_succ_cons, List.drop_zero, List.take_succ_cons, List.take_zero, List.nil_append, List.cons_append, Nat.reduceAdd, List.drop_nil, List.take_nil, ixPV_at _ (show 0 ≤ k by omega) (show k < ((6 : Nat) : Int) by omega)]
  refine rd1 (by simpa using hn1) ?_
  refine call (grole_spec hn2 ?_)
  try simp only [SSd, List.getElem?_toArray, List.getElem?_cons_zero, List.getElem?_cons_succ, Nat.zero_add, Nat.add_zero, Nat.zero_mul, List.drop_succ_cons, List.drop_zero, List.take_succ_cons, List.take_zero, List.nil_append, List.cons_append, Nat.reduceAdd, List.drop_nil, List.take_nil]
  refine gd_split (fun _ => ?_) (fun h => by simp at h)
  refine br_split (fun h => by simp [hg.ld.rol] at h) (fun _ => ?_)
  refine loop (fun m s I' L' => Ext I3 I' ∧ ∃ (j : Nat) (w : WM), j + m = (d.take 20).length ∧ s = (.bool false, .int .i64 j, .int .i64 j, ()) ∧ WorldR I' wb L' w F ∧ WWF (13 + 9 * j) w ∧ CO (GL (calmL (d.take 20) [])) k w ∧ ∃ nx mt, Grp (calmL (d.take 20) []) k a b (j + 1) nx mt w.n) (d.take 20).length
    ⟨Ext.refl _, 0, w3, by omega, rfl, hW3, hw3, hc3, nx, mt, hg⟩ ?_
  rintro m s I' L' ⟨hI', j, w, hj, rfl, hWj, hwj, hcj, nxj, mtj, hgj⟩
  have hI03 := (hI2.trans hI3).trans hI'
  unfold sh10_14
  simp only [hvl, SSd, List.getElem?_toArray, List.getElem?_cons_zero, List.getElem?_cons_succ, Nat.zero_add, Nat.add_zero, Nat.zero_mul, List.drop_succ_cons, List.drop_zero, List.take_succ_cons, List.take_zero, List.nil_append, List.cons_append, Nat.reduceAdd, List.drop_nil, List.take_nil]
  have fin : j = (d.take 20).length → sh10_4 ω v1 (.bool false) (.pointer (some ⟨wb, 0, none⟩)) (.int .i64 k) (.int .i64 j) (fun v => Gh (K v)) I' L' := fun e =>
    calm4 (h1.mono hI03) e hWj hwj (by omega) hcj ht hgj (fun I2' L2' hI2' => hk I2' L2' (hI03.trans hI2'))
  refine gd_split (fun hlt => ?_) (fun hlt => fin (by simp at hlt; omega))
  refine br_split (fun hlt2 => ?_) (fun hlt2 => fin (by simp at hlt2; omega))
  simp at hlt hlt2
  obtain ⟨sa, scap, hcs⟩ := hWj.len
  try simp only [SSd, List.getElem?_toArray, List.getElem?_cons_zero, List.getElem?_cons_succ, Nat.zero_add, Nat.add_zero, Nat.zero_mul, List.drop_succ_cons, List.drop_zero, List.take_succ_cons, List.take_zero, List.nil_append, List.cons_append, Nat.reduceAdd, List.drop_nil, List.take_nil]
  refine rd1 hcs ?_
  obtain ⟨b7, off7, hix7, hc7⟩ := bytes_at (i := (j : Int)) h1 (by omega) (by omega)
  rw [geti_nat (show j < d.length by omega)] at hc7
  simp only [hix7, SSd, List.getElem?_toArray, List.getElem?_cons_zero, List.getElem?_cons_succ, Nat.zero_add, Nat.add_zero, Nat.zero_mul, List.drop_succ_cons, List.drop_zero, List.take_succ_cons, List.take_zero, List.nil_append, List.cons_append, Nat.reduceAdd, List.drop_nil, List.take_nil, wrap_i64 (k - 1) (by omega)]
  refine rd1 (hc7 _ _ hI03) ?_
  have h256 : (d[j]).toNat < 256 := (d[j]).toNat_lt
  simp only [SSd, List.getElem?_toArray, List.getElem?_cons_zero, List.getElem?_cons_succ, Nat.zero_add, Nat.add_zero, Nat.zero_mul, List.drop_succ_cons, List.drop_zero, List.take_succ_cons, List.take_zero, List.nil_append, List.cons_append, Nat.reduceAdd, List.drop_nil, List.take_nil, wrap_i64 (((d[j]).toNat : Nat) : Int) (by omega)]
  have hjl : j < (d.take 20).length := by omega
  obtain ⟨hk1, hk2⟩ := calm_kd (d := d.take 20) (more := []) hjl (by omega)
  rw [List.getElem_take] at hk2
  obtain ⟨hpl2, N2, hD2, nx2, mt2, hg2, -⟩ := prop_dl ht hFL (n := j + 1) (by omega) (calm_mem (by omega)) ⟨hk1, hk2⟩ hgj
  have hwp2 := hwj.play (by omega) 2 (k - 1) (((d[j]).toNat : Nat) : Int)
  have hcp2 := hcj.play 2 (k - 1) (((d[j]).toNat : Nat) : Int)
  rw [hpl2] at hwp2 hcp2
  refine call (play_spec (ω := ω) (d := 2) (who := k - 1) (n := (((d[j]).toNat : Nat) : Int)) hWj hwj (by omega) (by unfold inI64; omega) (fun L4 I4 hI4 hW4 => ?_))
  rw [hpl2] at hW4
  refine call (wsettle_spec (most := 100) (T := 8) hW4 hwp2 hcp2 (by simp [afterW]) hD2 (by omega) (by omega) (by omega) (fun L5 I5 w5 hI5 hW5 hw5 hc5 e5 e6 => ?_))
  try simp only [SSd, List.getElem?_toArray, List.getElem?_cons_zero, List.getElem?_cons_succ, Nat.zero_add, Nat.add_zero, Nat.zero_mul, List.drop_succ_cons, List.drop_zero, List.take_succ_cons, List.take_zero, List.nil_append, List.cons_append, Nat.reduceAdd, List.drop_nil, List.take_nil]
  refine br_split (fun h => by simp at h) (fun _ => ?_)
  simp only [SSd, List.getElem?_toArray, List.getElem?_cons_zero, List.getElem?_cons_succ, Nat.zero_add, Nat.add_zero, Nat.zero_mul, List.drop_succ_cons, List.drop_zero, List.take_succ_cons, List.take_zero, List.nil_append, List.cons_append, Nat.reduceAdd, List.drop_nil, List.take_nil, wrap_i64 ((j : Int) + 1) (by omega)]
  exact Gh.done ⟨m - 1, by omega, hI'.trans (hI4.trans hI5), j + 1, w5, by omega, by simp, hW5, by have := hw5; rw [show 13 + 9 * j + 1 + 8 = 13 + 9 * (j + 1) by omega] at this; exact this, hc5, nx2, mt2, e5 ▸ hg2⟩

theorem calm_law {first : Int} {d : List UInt8} {v1 : Value} (hf : inI64 first) (h1 : Bytes I v1 d) (hdl : d.length < 4611686018427387904) (hk : ∀ I' L', Ext I I' → K (.bool true) I' L') :
    Cal Try.prog ω 10 #[.int .i64 first, v1] K I L := by
  unfold inI64 at hf
  refine cal10 ?_
  unfold sh10
  refine call (awake11_spec (fun I1 hI1 => ?_))
  refine call (world_spec (fun wb L2 I2 hI2 hW => ?_))
  have hI12 := hI1.trans hI2
  have hm3 : -3 < first.tmod 3 ∧ first.tmod 3 < 3 := ⟨Int.lt_tmod_of_pos first (by decide), Int.tmod_lt_of_pos first (by decide)⟩
  simp only [pt, SSd, List.getElem?_toArray, List.getElem?_cons_zero, List.getElem?_cons_succ, Nat.zero_add, Nat.add_zero, Nat.zero_mul, List.drop_succ_cons, List.drop_zero, List.take_succ_cons, List.take_zero, List.nil_append, List.cons_append, Nat.reduceAdd, List.drop_nil, List.take_nil, binI_rem first 3 .i64 (by decide), wrap_i64 (1 + first.tmod 3) (by omega)]
  refine gd_split (fun _ => ?_) (fun h => by simp at h)
  refine br_split (fun h => ?_) (fun h => ?_)
  · obtain ⟨a, b, ht⟩ := tri_has (k := 1) (.inl rfl)
    exact calm2 (h1.mono hI12) hdl hW ht (fun I' L' hI' => hk I' L' (hI12.trans hI'))
  · simp at h
    obtain ⟨a, b, ht⟩ := tri_has (k := 1 + first.tmod 3) (by omega)
    exact calm2 (h1.mono hI12) hdl hW ht (fun I' L' hI' => hk I' L' (hI12.trans hI'))
end
end Go.Proofs.Ytdcpeboecmkmlaa
