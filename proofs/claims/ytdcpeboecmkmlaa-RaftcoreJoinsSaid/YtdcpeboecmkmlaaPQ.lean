/-
  A node that joins: what the leader does.
-/
-- S3
import Derived.Test.YtdcpeboecmkmlaaPM
import Derived.Test.YtdcpeboecmkmlaaPO
set_option linter.unusedSimpArgs false
set_option linter.unusedVariables false
namespace Go.Proofs.Ytdcpeboecmkmlaa
open Go.SL
set_option maxRecDepth 10000

def joinE (m : Nat) : LE := ⟨(m : Int) + 2, 1, 3, [1, 2, 3, 4]⟩
def joinL (d : List UInt8) : List LE := calmL d [joinE d.length]
theorem joinL_len {d : List UInt8} : (joinL d).length = d.length + 2 := by unfold joinL; rw [calm_len]; simp
theorem joinL_ok {d : List UInt8} (hd : d.length ≤ 20) : FLok (joinL d) := by
  refine calm_ok hd (by simp) ?_ (fun e he => ?_)
  · simp only [joinE, followB, entB, countB, memB]
    simp
    exact ⟨⟨decide_eq_true (by omega), by decide⟩, decide_eq_true (by omega)⟩
  · simp only [List.mem_singleton] at he
    subst he
    exact ⟨rfl, by simp [joinE]⟩
theorem joinL_last {d : List UInt8} (h : d.length + 1 < (joinL d).length) : (joinL d)[d.length + 1] = joinE d.length := by
  simp only [joinL, calmL, List.getElem_cons_succ]
  rw [List.getElem_append_right (by rw [dataL_len]; exact Nat.le_refl _)]
  simp [dataL_len]
theorem joinL_mem {d : List UInt8} {n : Nat} (hn : n ≤ d.length + 1) : memOf [1, 2, 3] ((joinL d).take n) = [1, 2, 3] := calm_mem hn
theorem joinL_mem4 {d : List UInt8} : memOf [1, 2, 3] ((joinL d).take (d.length + 2)) = [1, 2, 3, 4] := by
  have h := joinL_mem (d := d) (Nat.le_refl _)
  have hl : d.length + 1 < (joinL d).length := by rw [joinL_len]; omega
  rw [show d.length + 2 = (d.length + 1) + 1 by omega, List.take_succ_eq_append_getElem hl, memOf_append, h, joinL_last]
  rfl

section
variable {d : List UInt8} {w : WM} {nx mt : Int → Nat}
def cmpR (n : Nat) (r : RF) (FL : List LE) : RF := { r with g := LGof FL n n n, st := [byteOf (n : Int)] }
/-- the leader cuts off its log -/
theorem comp_play {FL : List LE} {n : Nat} (h : FLok FL) (hn : n ≤ FL.length) (hld : LdP FL 1 0 n n nx mt [] (w.n 1)) :
    playF w 4 0 0 = (1, afterW w 1 (cmpR n (w.n 1) FL)) := by
  have hwho : whoF 0 = 1 := rfl
  unfold playF
  rw [if_neg (by decide), if_neg (by decide), if_neg (by decide), if_neg (by decide), if_pos rfl, hwho]
  have hc := lg_cut (b := 0) (k := n) (c := n) (n := n) h (Nat.zero_le _) (Nat.le_refl _) (Nat.le_refl _) hn
  have e : compactF (w.n 1) (w.n 1).g.commit [byteOf (w.n 1).g.commit] = (0, cmpR n (w.n 1) FL) := by
    have e1 : (w.n 1).g.commit = (n : Int) := by rw [hld.g]; rfl
    unfold compactF
    rw [e1, if_neg (by simp), hld.g, hc]
    rfl
  rw [e]
theorem comp_ld {FL : List LE} {n : Nat} (hld : LdP FL 1 0 n n nx mt [] (w.n 1)) : LdP FL 1 n n n nx mt [byteOf (n : Int)] (cmpR n (w.n 1) FL) :=
  ⟨hld.grp, hld.idn, hld.trm, hld.rol, rfl, hld.nx, hld.mt, rfl, hld.out⟩
/-- the leader is to add node 4 -/
theorem change_dl (hd : d.length ≤ 20) {st : List UInt8} (hst : st.length ≤ 10) (hld : LdP (joinL d) 1 (d.length + 1) (d.length + 1) (d.length + 1) nx mt st (w.n 1)) (hfa : FoP (joinL d) 2 0 (d.length + 1) (d.length + 1) (w.n 2)) (hfb : FoP (joinL d) 3 0 (d.length + 1) (d.length + 1) (w.n 3)) (h4 : w.n 4 = rNew 4)
    (n2 : nx 2 = d.length + 2) (n3 : nx 3 = d.length + 2) (n4 : nx 4 = 1) (m2 : mt 2 = d.length + 1) (m3 : mt 3 = d.length + 1) (m4 : mt 4 = 0) :
    playF w 3 0 4 = (1, afterW w 1 (changeF (w.n 1) [1, 2, 3, 4]).2.2) ∧
    ∃ N', Dl (GL (joinL d)) 1 (afterW w 1 (changeF (w.n 1) [1, 2, 3, 4]).2.2).n ((afterW w 1 (changeF (w.n 1) [1, 2, 3, 4]).2.2).sent.drop w.sent.length) 16 N' ∧
      ∃ x1 x5 m1 m5, LdP (joinL d) 1 (d.length + 1) (d.length + 2) (d.length + 2) (nf x1 (d.length + 3) (d.length + 3) (d.length + 3) x5) (nf m1 (d.length + 2) (d.length + 2) (d.length + 2) m5) st (N' 1) ∧
      FoP (joinL d) 2 0 (d.length + 2) (d.length + 2) (N' 2) ∧ FoP (joinL d) 3 0 (d.length + 2) (d.length + 2) (N' 3) ∧ FoP (joinL d) 4 (d.length + 1) (d.length + 2) (d.length + 2) (N' 4) ∧ (N' 4).st = st := by
  have h := joinL_ok hd
  have hlen := joinL_len (d := d)
  have hmm : mems (w.n 1) = [1, 2, 3] := by
    unfold mems
    rw [hld.g, lg_mems (Nat.le_refl _)]
    exact joinL_mem (Nat.le_refl _)
  have hlast := joinL_last (d := d) (by omega)
  have hm4 := joinL_mem4 (d := d)
  refine ⟨?_, ?_⟩
  · have hwho : whoF 0 = 1 := rfl
    unfold playF
    rw [if_neg (by decide), if_neg (by decide), if_neg (by decide), if_pos rfl, hwho, hmm]
    rfl
  have e : changeF (w.n 1) [1, 2, 3, 4] = addF (w.n 1) 3 [1, 2, 3, 4] := by
    unfold changeF
    rw [if_neg (by rw [hld.rol]; decide), if_neg (by decide), if_neg]
    · rfl
    · rw [hmm, hld.g, hld.trm]
      rintro (hx | hx | hx)
      · unfold chg at hx
        rw [List.any_eq_true] at hx
        obtain ⟨x, hx, _⟩ := hx
        simp only [LGof] at hx
        rw [List.drop_of_length_le (by rw [List.length_take]; omega)] at hx
        cases hx
      · rw [show (LGof (joinL d) (d.length + 1) (d.length + 1) (d.length + 1)).commit = ((d.length + 1 : Nat) : Int) from rfl, lg_term h (Nat.le_refl _) (Nat.le_refl _) (by omega)] at hx
        exact hx rfl
      · exact hx rfl
  rw [e]
  have hq : ∀ q ∈ ([1, 2, 3, 4] : List Int), q = 1 ∨ q = 2 ∨ q = 3 ∨ q = 4 := fun q hq => by simpa using hq
  have hld' : LdP (joinL d) 1 (d.length + 1) (d.length + 1) (d.length + 1) (nf (nx 1) (d.length + 2) (d.length + 2) 1 (nx 5)) (nf (mt 1) (d.length + 1) (d.length + 1) 0 (mt 5)) st (w.n 1) :=
    hld.congr (fun p hp => by rw [nf_eq nx hp, n2, n3, n4]) (fun p hp => by rw [nf_eq mt hp, m2, m3, m4])
  obtain ⟨h1, h2⟩ := ld_add (n := d.length + 1) (kd := 3) (d := [1, 2, 3, 4]) h hld' (Nat.le_refl _) (by omega) (by rw [hm4]; exact fun q h => by have := hq q h; omega) (by rw [hm4]; rfl) (by
      rw [hm4]
      intro q hq' hn1
      rcases hq q hq' with rfl | rfl | rfl | rfl
      · exact absurd rfl hn1
      · rw [nf2]; omega
      · rw [nf3]; omega
      · rw [nf4]; omega) (by rw [hm4, maj4, if_neg (show ¬ d.length + 1 + 1 ≤ d.length + 1 by omega)]; simp) (by rw [hlast]; rfl) (by rw [hlast]; rfl)
  rw [hm4, all4, toM_a (i := d.length + 1) rfl (Nat.le_refl _), toM_a (i := d.length + 1) rfl (Nat.le_refl _), toM_s (by rw [nf4]; omega)] at h1
  have hR : Run (GL (joinL d)) 1 (updI w.n 1 (takeF (addF (w.n 1) 3 [1, 2, 3, 4]).2.2)) (addF (w.n 1) 3 [1, 2, 3, 4]).2.2.out 16 (fun N' =>
      ∃ x1 x5 m1 m5, LdP (joinL d) 1 (d.length + 1) (d.length + 2) (d.length + 2) (nf x1 (d.length + 3) (d.length + 3) (d.length + 3) x5) (nf m1 (d.length + 2) (d.length + 2) (d.length + 2) m5) st (N' 1) ∧
      FoP (joinL d) 2 0 (d.length + 2) (d.length + 2) (N' 2) ∧ FoP (joinL d) 3 0 (d.length + 2) (d.length + 2) (N' 3) ∧ FoP (joinL d) 4 (d.length + 1) (d.length + 2) (d.length + 2) (N' 4) ∧ (N' 4).st = st) := by
    rw [h1]
    exact join16 (n := d.length + 1) h (by omega) (by omega) hm4 hst h2 hfa hfb h4 (fun N' q1 q2 q3 q4 => ⟨_, _, _, _, q1, q2, q3, q4⟩)
  exact Run.dl hR
/-- the beat of four -/
theorem beat6_dl (hd : d.length ≤ 20) {st : List UInt8} {x1 x5 m1 m5 : Nat} (hld : LdP (joinL d) 1 (d.length + 1) (d.length + 2) (d.length + 2) (nf x1 (d.length + 3) (d.length + 3) (d.length + 3) x5) (nf m1 (d.length + 2) (d.length + 2) (d.length + 2) m5) st (w.n 1))
    (h2 : FoP (joinL d) 2 0 (d.length + 2) (d.length + 2) (w.n 2)) (h3 : FoP (joinL d) 3 0 (d.length + 2) (d.length + 2) (w.n 3)) (h4 : FoP (joinL d) 4 (d.length + 1) (d.length + 2) (d.length + 2) (w.n 4) ∧ (w.n 4).st = st) :
    playF w 0 0 0 = (1, afterW w 1 (tickF (w.n 1) 0)) ∧
    ∃ N', Dl (GL (joinL d)) 1 (afterW w 1 (tickF (w.n 1) 0)).n ((afterW w 1 (tickF (w.n 1) 0)).sent.drop w.sent.length) 6 N' ∧
      (N' 1).g = LGof (joinL d) (d.length + 1) (d.length + 2) (d.length + 2) ∧ (N' 4).g = LGof (joinL d) (d.length + 1) (d.length + 2) (d.length + 2) ∧ (N' 4).st = st := by
  have h := joinL_ok hd
  have hlen := joinL_len (d := d)
  have hm4 := joinL_mem4 (d := d)
  refine ⟨by unfold playF; rw [if_pos rfl]; rfl, ?_⟩
  have hq : ∀ q ∈ ([1, 2, 3, 4] : List Int), q = 1 ∨ q = 2 ∨ q = 3 ∨ q = 4 := fun q hq => by simpa using hq
  obtain ⟨e1, e2⟩ := ld_tick (w := 0) (n := d.length + 2) h hld (by omega) (by omega) (by rw [hm4]; exact fun q h => by have := hq q h; omega) (by
      rw [hm4]
      intro q hq' hn1
      rcases hq q hq' with rfl | rfl | rfl | rfl
      · exact absurd rfl hn1
      · rw [nf2]; omega
      · rw [nf3]; omega
      · rw [nf4]; omega)
  rw [hm4, all4, toM_a (i := d.length + 2) rfl (by omega), toM_a (i := d.length + 2) rfl (by omega), toM_a (i := d.length + 2) rfl (by omega)] at e1
  have hR : Run (GL (joinL d)) 1 (updI w.n 1 (takeF (tickF (w.n 1) 0))) (tickF (w.n 1) 0).out 6 (fun N' => (N' 1).g = LGof (joinL d) (d.length + 1) (d.length + 2) (d.length + 2) ∧ (N' 4).g = LGof (joinL d) (d.length + 1) (d.length + 2) (d.length + 2) ∧ (N' 4).st = st) := by
    rw [e1]
    exact beat6 (n := d.length + 1) h (by omega) (by omega) hm4 e2 h2 h3 h4 (fun N' q1 q4 => ⟨q1.g, q4.1.g, q4.2⟩)
  exact Run.dl hR
end
end Go.Proofs.Ytdcpeboecmkmlaa

namespace Go.Proofs.Ytdcpeboecmkmlaa
open Go.SL
set_option maxRecDepth 10000

theorem LdP.take {FL : List LE} {k : Int} {b n c : Nat} {nx mt : Int → Nat} {st : List UInt8} {r : RF} (h : LdP FL k b n c nx mt st r) : LdP FL k b n c nx mt st (takeF r) :=
  ⟨h.grp, h.idn, h.trm, h.rol, h.g, h.nx, h.mt, h.sta, rfl⟩
theorem tri1 : Tri 1 2 3 := .inl ⟨rfl, rfl, rfl⟩
theorem WorldR.frame {I : Imm} {wb : Nat} {L F : LH} {w : WM} (h : WorldR I wb L w F) (x : Nat × Obj) : ∃ L2, (x :: L).Perm L2 ∧ WorldR I wb L2 w (x :: F) := by
  obtain ⟨bs, Xs, XS, XC, XD, sv, cv, dv, hN, hR, rfl⟩ := h
  refine ⟨_, ?_, bs, Xs, XS, XC, XD, sv, cv, dv, hN, hR, rfl⟩
  have : ∀ A B : LH, (A ++ (x :: B)).Perm (x :: (A ++ B)) := fun A B => List.perm_middle
  refine ((List.Perm.cons _ ?_).trans (List.Perm.swap ..)).symm
  have e : ∀ W : LH, catX Xs W = (Xs 1 ++ (Xs 2 ++ (Xs 3 ++ (Xs 4 ++ Xs 5)))) ++ W := fun W => by simp [catX]
  rw [e, e]
  have e2 : ∀ W : LH, (Xs 1 ++ (Xs 2 ++ (Xs 3 ++ (Xs 4 ++ Xs 5)))) ++ (XS ++ (XC ++ (XD ++ W))) = ((Xs 1 ++ (Xs 2 ++ (Xs 3 ++ (Xs 4 ++ Xs 5)))) ++ (XS ++ (XC ++ XD))) ++ W := fun W => by simp
  rw [e2, e2]
  exact List.perm_middle
section
variable {ω : Om} {I : Imm} {L : LH} {K : Value → M} {wb : Nat} {F : LH}

set_option maxHeartbeats 4000000 in
theorem joins3 {d : List UInt8} {N : Nat} {w : WM} {nx mt : Int → Nat} {D : List UInt8} (hDD : D.length ≤ 20) (hW : WorldR I wb L w F) (hw : WWF N w) (hN : N ≤ 1000) (hc : CO (GL (joinL D)) 1 w) (hg : Grp (joinL D) 1 2 3 (D.length + 1) nx mt w.n) (h4 : w.n 4 = rNew 4 ∧ nx 4 = 1 ∧ mt 4 = 0)
    (hk : ∀ I' L', Ext I I' → K (.bool true) I' L') :
    sh11_3 ω (.bool false) (pt wb) (fun v => Gh (K v)) I L := by
  have hFL := joinL_ok hDD
  have hlen := joinL_len (d := D)
  obtain ⟨hld, hfa, hfb, na, nb, ma, mb⟩ := hg
  unfold sh11_3
  obtain ⟨sa, scap, hcs⟩ := hW.len
  simp only [pt, SSd, List.getElem?_toArray, List.getElem?_cons_zero, List.getElem?_cons_succ, Nat.zero_add, Nat.add_zero, Nat.zero_mul, List.drop_succ_cons, List.drop_zero, List.take_succ_cons, List.take_zero, List.nil_append, List.cons_append, Nat.reduceAdd, List.drop_nil, List.take_nil]
  refine rd1 hcs ?_
  try simp only [SSd, List.getElem?_toArray, List.getElem?_cons_zero, List.getElem?_cons_succ, Nat.zero_add, Nat.add_zero, Nat.zero_mul, List.drop_succ_cons, List.drop_zero, List.take_succ_cons, List.take_zero, List.nil_append, List.cons_append, Nat.reduceAdd, List.drop_nil, List.take_nil]
  -- it compacts
  have hpl := comp_play (w := w) hFL (n := D.length + 1) (by omega) hld
  have hwp := hw.play (by omega) 4 0 0
  have hcp := hc.play 4 0 0
  have hl1 := (comp_ld hld).take
  rw [hpl] at hwp hcp
  refine call (play_spec (ω := ω) (d := 4) (who := 0) (n := 0) hW hw (by omega) (by unfold inI64; omega) (fun L2 I2 hI2 hW2 => ?_))
  rw [hpl] at hW2
  simp only at hwp hcp hW2
  obtain ⟨w1, hw1⟩ : ∃ w1, w1 = afterW w 1 (cmpR (D.length + 1) (w.n 1) (joinL D)) := ⟨_, rfl⟩
  have e1 : w1.n 1 = takeF (cmpR (D.length + 1) (w.n 1) (joinL D)) := by rw [hw1]; show updI w.n 1 (takeF _) 1 = _; exact updI_same _ _ _
  have e2 : w1.n 2 = w.n 2 := by rw [hw1]; rfl
  have e3 : w1.n 3 = w.n 3 := by rw [hw1]; rfl
  have e4 : w1.n 4 = w.n 4 := by rw [hw1]; rfl
  have e5 : w1.sent.length = w.sent.length := by
    rw [hw1]
    show (w.sent ++ (w.n 1).out).length = _
    rw [hld.out]; simp
  rw [← hw1] at hwp hcp hW2
  clear hw1 hpl
  rw [← e1] at hl1
  -- node 4 is added
  obtain ⟨hpl2, N2, hD2, x1, x5, m1, m5, q1, q2, q3, q4, q5⟩ := change_dl (w := w1) hDD (by simp) hl1 (by rw [e2]; exact hfa) (by rw [e3]; exact hfb) (by rw [e4]; exact h4.1) (by omega) (by omega) h4.2.1 ma mb h4.2.2
  have hwp2 := hwp.play (by omega) 3 0 4
  have hcp2 := hcp.play 3 0 4
  rw [hpl2] at hwp2 hcp2
  refine call (play_spec (ω := ω) (d := 3) (who := 0) (n := 4) hW2 hwp (by omega) (by unfold inI64; omega) (fun L3 I3 hI3 hW3 => ?_))
  rw [hpl2] at hW3
  rw [e5] at hD2
  refine call (wsettle_spec (frm := w.sent.length) (most := 200) (T := 16) hW3 hwp2 hcp2 (by simp [afterW]; omega) hD2 (by omega) (by omega) (by omega) (fun L4 I4 w4 hI4 hW4 hw4 hc4 f1 f2 => ?_))
  try simp only [SSd, List.getElem?_toArray, List.getElem?_cons_zero, List.getElem?_cons_succ, Nat.zero_add, Nat.add_zero, Nat.zero_mul, List.drop_succ_cons, List.drop_zero, List.take_succ_cons, List.take_zero, List.nil_append, List.cons_append, Nat.reduceAdd, List.drop_nil, List.take_nil]
  rw [← f1] at q1 q2 q3 q4 q5
  -- the leader's beat
  obtain ⟨sa2, scap2, hcs2⟩ := hW4.len
  refine rd1 hcs2 ?_
  try simp only [SSd, List.getElem?_toArray, List.getElem?_cons_zero, List.getElem?_cons_succ, Nat.zero_add, Nat.add_zero, Nat.zero_mul, List.drop_succ_cons, List.drop_zero, List.take_succ_cons, List.take_zero, List.nil_append, List.cons_append, Nat.reduceAdd, List.drop_nil, List.take_nil]
  obtain ⟨hpl3, N3, hD3, r1, r4, rs⟩ := beat6_dl (w := w4) hDD q1 q2 q3 ⟨q4, q5⟩
  have hwp3 := hw4.play (by omega) 0 0 0
  have hcp3 := hc4.play 0 0 0
  rw [hpl3] at hwp3 hcp3
  refine call (play_spec (ω := ω) (d := 0) (who := 0) (n := 0) hW4 hw4 (by omega) (by unfold inI64; omega) (fun L5 I5 hI5 hW5 => ?_))
  rw [hpl3] at hW5
  refine call (wsettle_spec (most := 200) (T := 6) hW5 hwp3 hcp3 (by simp [afterW]) hD3 (by omega) (by omega) (by omega) (fun L6 I6 w6 hI6 hW6 hw6 hc6 g1 g2 => ?_))
  have hI16 := ((hI2.trans hI3).trans (hI4.trans hI5)).trans hI6
  rw [← g1] at r1 r4 rs
  clear hcs hcs2 hW hW2 hW3 hW4 hW5 hD2 hD3
  -- what is asked
  have hwf1 := (hw6.nod 1 (by omega)).1.wf
  have hwf4 := (hw6.nod 4 (by omega)).1.wf
  obtain ⟨b1, hb1, _, hlog1, _⟩ := hW6.node (ω := ω) (k := 1) (by omega)
  simp only [SSd, List.getElem?_toArray, List.getElem?_cons_zero, List.getElem?_cons_succ, Nat.zero_add, Nat.add_zero, Nat.zero_mul, List.drop_succ_cons, List.drop_zero, List.take_succ_cons, List.take_zero, List.nil_append, List.cons_append, Nat.reduceAdd, List.drop_nil, List.take_nil, ixPV_at .i64 (show (0 : Int) ≤ 1 by omega) (show (1 : Int) < ((6 : Nat) : Int) by omega)]
  refine rd1 (by simpa using hb1) ?_
  refine callG (hlog1 hwf1 (fun lb1 o1 I7 hI7 hW7 hV1 => ?_))
  obtain ⟨L7, hp7, hW7'⟩ := hW7.frame (lb1, o1)
  replace hV1 := hV1.toM (Ext.refl _) (fun x hx => hp7.mem_iff.1 hx)
  refine Gh.perm hp7 (Gh.done ?_)
  obtain ⟨b4, hb4, _, hlog4, _⟩ := hW7'.node (ω := ω) (k := 4) (by omega)
  simp only [pt, SSd, List.getElem?_toArray, List.getElem?_cons_zero, List.getElem?_cons_succ, Nat.zero_add, Nat.add_zero, Nat.zero_mul, List.drop_succ_cons, List.drop_zero, List.take_succ_cons, List.take_zero, List.nil_append, List.cons_append, Nat.reduceAdd, List.drop_nil, List.take_nil, ixPV_at .i64 (show (0 : Int) ≤ 4 by omega) (show (4 : Int) < ((6 : Nat) : Int) by omega)]
  refine rd1 (by simpa using hb4) ?_
  refine call (hlog4 hwf4 (fun lb4 o4 I8 hI8 hW8 hV4 => ?_))
  replace hV1 := hV1.toM hI8 (fun x hx => List.mem_cons_of_mem (lb4, o4) hx)
  rw [r1] at hV1 hwf1
  rw [r4] at hV4 hwf4
  simp only [pt, SSd, List.getElem?_toArray, List.getElem?_cons_zero, List.getElem?_cons_succ, Nat.zero_add, Nat.add_zero, Nat.zero_mul, List.drop_succ_cons, List.drop_zero, List.take_succ_cons, List.take_zero, List.nil_append, List.cons_append, Nat.reduceAdd, List.drop_nil, List.take_nil]
  refine gd_split (fun _ => ?_) (fun h => by simp at h)
  refine gd_split (fun _ => ?_) (fun h => by simp at h)
  refine call (lmembers_spec hV4 hwf4 (fun mv I9 hI9 hmv => ?_))
  rw [lg_mems (by omega), joinL_mem4] at hmv
  refine bi4 (fun u I10 hI10 hu => ?_)
  refine call (sameints_spec (hmv.mono hI10) hu (by simp) ?_)
  have hI810 := hI9.trans hI10
  refine call (commit_spec (hV1.toM hI810 (fun _ h => h)) ?_)
  refine call (commit_spec (hV4.toM hI810 (fun _ h => h)) ?_)
  refine call (start_spec (hV1.toM hI810 (fun _ h => h)) hwf1 (fun sv I11 hI11 hsv => ?_))
  obtain ⟨sa3, scap3, rfl⟩ := Ints.form hsv
  refine newI (fun b45 => ?_)
  refine stB rfl rfl (one_all rfl) ?_
  have hI811 := hI810.trans hI11
  obtain ⟨b4', hb4', _, _, hst4⟩ := hW8.node (ω := ω) (k := 4) (by omega)
  simp only [SSd, List.getElem?_toArray, List.getElem?_cons_zero, List.getElem?_cons_succ, Nat.zero_add, Nat.add_zero, Nat.zero_mul, List.drop_succ_cons, List.drop_zero, List.take_succ_cons, List.take_zero, List.nil_append, List.cons_append, Nat.reduceAdd, List.drop_nil, List.take_nil, ixPV_at .i64 (show (0 : Int) ≤ 4 by omega) (show (4 : Int) < ((6 : Nat) : Int) by omega)]
  refine rd1 ((show Cell _ _ wb (0 + Int.toNat 4 * 1) _ by simpa using hb4').mono hI811 (fun x hx => List.mem_cons_of_mem _ (List.mem_cons_of_mem _ hx))) ?_
  refine call (hst4 (fun x hx => List.mem_cons_of_mem _ (List.mem_cons_of_mem _ hx)) hI811 (by rw [rs]; simp) (fun tv I12 hI12 htv => ?_))
  rw [rs] at htv
  have hIall : Ext I I12 := hI16.trans (hI7.trans (hI8.trans (hI811.trans hI12)))
  have htl := Bytes.len htv
  refine drawC ?_
  simp only [SSd, List.getElem?_toArray, List.getElem?_cons_zero, List.getElem?_cons_succ, Nat.zero_add, Nat.add_zero, Nat.zero_mul, List.drop_succ_cons, List.drop_zero, List.take_succ_cons, List.take_zero, List.nil_append, List.cons_append, Nat.reduceAdd, List.drop_nil, List.take_nil, htl]
  refine gd_split (fun _ => ?_) (fun h => by simp [LGof] at h)
  refine rdbS ?_
  simp only [SSd, List.getElem?_toArray, List.getElem?_cons_zero, List.getElem?_cons_succ, Nat.zero_add, Nat.add_zero, Nat.zero_mul, List.drop_succ_cons, List.drop_zero, List.take_succ_cons, List.take_zero, List.nil_append, List.cons_append, Nat.reduceAdd, List.drop_nil, List.take_nil, LGof, wrap_i64 (((D.length + 1 : Nat) : Int) + 1) (by omega)]
  refine gd_split (fun _ => ?_) (fun h => by simp at h; omega)
  refine gd_split (fun _ => ?_) (fun h => by simp at h)
  obtain ⟨b7, off7, hix7, hc7⟩ := bytes_at (i := 0) htv (by omega) (by simp)
  simp only [hix7, SSd, List.getElem?_toArray, List.getElem?_cons_zero, List.getElem?_cons_succ, Nat.zero_add, Nat.add_zero, Nat.zero_mul, List.drop_succ_cons, List.drop_zero, List.take_succ_cons, List.take_zero, List.nil_append, List.cons_append, Nat.reduceAdd, List.drop_nil, List.take_nil]
  refine rd1I (hc7 _ _ (Ext.refl _)) ?_
  try simp only [SSd, List.getElem?_toArray, List.getElem?_cons_zero, List.getElem?_cons_succ, Nat.zero_add, Nat.add_zero, Nat.zero_mul, List.drop_succ_cons, List.drop_zero, List.take_succ_cons, List.take_zero, List.nil_append, List.cons_append, Nat.reduceAdd, List.drop_nil, List.take_nil]
  refine rdbS ?_
  simp only [SSd, List.getElem?_toArray, List.getElem?_cons_zero, List.getElem?_cons_succ, Nat.zero_add, Nat.add_zero, Nat.zero_mul, List.drop_succ_cons, List.drop_zero, List.take_succ_cons, List.take_zero, List.nil_append, List.cons_append, Nat.reduceAdd, List.drop_nil, List.take_nil, u8_wrap]
  rw [show (geti [byteOf ((D.length + 1 : Nat) : Int)] 0) = byteOf ((D.length + 1 : Nat) : Int) from rfl, beq_self_eq_true]
  exact Gh.done (hk I12 _ hIall)

set_option maxHeartbeats 2000000 in
theorem joins_law {d : List UInt8} {v1 : Value} (h1 : Bytes I v1 d) (hdl : d.length < 4611686018427387904) (hk : ∀ I' L', Ext I I' → K (.bool true) I' L') :
    Cal Try.prog ω 11 #[v1] K I L := by
  have hFL : FLok (joinL (d.take 20)) := joinL_ok calm_len20
  have hlen := joinL_len (d := d.take 20)
  have hl20 : (d.take 20).length = min 20 d.length := List.length_take
  have hvl := Bytes.len h1
  refine cal11 ?_
  unfold sh11
  refine call (awake11_spec (fun I1 hI1 => ?_))
  refine call (world_spec (fun wb L2 I2 hI2 hW => ?_))
  have hI12 := hI1.trans hI2
  simp only [pt, SSd, List.getElem?_toArray, List.getElem?_cons_zero, List.getElem?_cons_succ, Nat.zero_add, Nat.add_zero, Nat.zero_mul, List.drop_succ_cons, List.drop_zero, List.take_succ_cons, List.take_zero, List.nil_append, List.cons_append, Nat.reduceAdd, List.drop_nil, List.take_nil]
  obtain ⟨hpl, N', hD, nx, mt, hg, hr⟩ := tick_dl (FL := joinL (d.take 20)) tri1 hFL rfl
  have hpl : playF world0 0 0 1 = (1, afterW world0 1 (tickF (rNew 1) 1)) := hpl
  have hwp := WWF.first.play (by omega) 0 0 1
  have hcp := (CO.first (G := GL (joinL (d.take 20))) (l := 1)).play 0 0 1
  rw [hpl] at hwp hcp
  refine call (play_spec (ω := ω) (d := 0) (who := 0) (n := 1) hW WWF.first (by omega) (by unfold inI64; omega) (fun L3 I3 hI3 hW3 => ?_))
  rw [hpl] at hW3
  refine call (wsettle_spec (frm := 0) (most := 100) (T := 12) hW3 hwp hcp (by omega) hD (by omega) (by omega) (by omega) (fun L4 I4 w4 hI4 hW4 hw4 hc4 e1 e2 => ?_))
  rw [← e1] at hg hr
  try simp only [SSd, List.getElem?_toArray, List.getElem?_cons_zero, List.getElem?_cons_succ, Nat.zero_add, Nat.add_zero, Nat.zero_mul, List.drop_succ_cons, List.drop_zero, List.take_succ_cons, List.take_zero, List.nil_append, List.cons_append, Nat.reduceAdd, List.drop_nil, List.take_nil]
  refine br_split (fun h => by simp at h) (fun _ => ?_)
  have hI14 := hI12.trans (hI3.trans hI4)
  refine loop (fun m s I' L' => Ext I4 I' ∧ ∃ (j : Nat) (w : WM), j + m = (d.take 20).length ∧ s = (.bool false, .int .i64 j, ()) ∧ WorldR I' wb L' w L ∧ WWF (13 + 9 * j) w ∧ CO (GL (joinL (d.take 20))) 1 w ∧ ∃ nx mt, Grp (joinL (d.take 20)) 1 2 3 (j + 1) nx mt w.n ∧ w.n 4 = rNew 4 ∧ nx 4 = 1 ∧ mt 4 = 0) (d.take 20).length
    ⟨Ext.refl _, 0, w4, by omega, rfl, hW4, hw4, hc4, nx, mt, hg, hr 4 (.inl rfl)⟩ ?_
  rintro m s I' L' ⟨hI', j, w, hj, rfl, hWj, hwj, hcj, nxj, mtj, hgj, h4j⟩
  have hI05 := hI14.trans hI'
  unfold sh11_6
  simp only [hvl, SSd, List.getElem?_toArray, List.getElem?_cons_zero, List.getElem?_cons_succ, Nat.zero_add, Nat.add_zero, Nat.zero_mul, List.drop_succ_cons, List.drop_zero, List.take_succ_cons, List.take_zero, List.nil_append, List.cons_append, Nat.reduceAdd, List.drop_nil, List.take_nil]
  have fin : j = (d.take 20).length → sh11_3 ω (.bool false) (.pointer (some ⟨wb, 0, none⟩)) (fun v => Gh (K v)) I' L' := fun e => by
    subst e
    exact joins3 (d := d) (D := d.take 20) calm_len20 hWj hwj (by omega) hcj hgj h4j (fun I2' L2' hI2' => hk I2' L2' (hI05.trans hI2'))
  refine gd_split (fun hlt => ?_) (fun hlt => fin (by simp at hlt; omega))
  refine br_split (fun hlt2 => ?_) (fun hlt2 => fin (by simp at hlt2; omega))
  simp at hlt hlt2
  obtain ⟨sa, scap, hcs⟩ := hWj.len
  try simp only [SSd, List.getElem?_toArray, List.getElem?_cons_zero, List.getElem?_cons_succ, Nat.zero_add, Nat.add_zero, Nat.zero_mul, List.drop_succ_cons, List.drop_zero, List.take_succ_cons, List.take_zero, List.nil_append, List.cons_append, Nat.reduceAdd, List.drop_nil, List.take_nil]
  refine rd1 hcs ?_
  obtain ⟨b7, off7, hix7, hc7⟩ := bytes_at (i := (j : Int)) h1 (by omega) (by omega)
  rw [geti_nat (show j < d.length by omega)] at hc7
  simp only [hix7, SSd, List.getElem?_toArray, List.getElem?_cons_zero, List.getElem?_cons_succ, Nat.zero_add, Nat.add_zero, Nat.zero_mul, List.drop_succ_cons, List.drop_zero, List.take_succ_cons, List.take_zero, List.nil_append, List.cons_append, Nat.reduceAdd, List.drop_nil, List.take_nil]
  refine rd1 (hc7 _ _ hI05) ?_
  have h256 : (d[j]).toNat < 256 := (d[j]).toNat_lt
  simp only [SSd, List.getElem?_toArray, List.getElem?_cons_zero, List.getElem?_cons_succ, Nat.zero_add, Nat.add_zero, Nat.zero_mul, List.drop_succ_cons, List.drop_zero, List.take_succ_cons, List.take_zero, List.nil_append, List.cons_append, Nat.reduceAdd, List.drop_nil, List.take_nil, wrap_i64 (((d[j]).toNat : Nat) : Int) (by omega)]
  have hjl : j < (d.take 20).length := by omega
  obtain ⟨hk1, hk2⟩ := calm_kd (d := d.take 20) (more := [joinE (d.take 20).length]) hjl (by rw [calm_len]; simp; omega)
  rw [List.getElem_take] at hk2
  obtain ⟨hpl2, N2, hD2, nx2, mt2, hg2, hr2⟩ := prop_dl (FL := joinL (d.take 20)) tri1 hFL (n := j + 1) (by omega) (joinL_mem (by omega)) ⟨hk1, hk2⟩ hgj
  have hpl2 : playF w 2 0 (((d[j]).toNat : Nat) : Int) = (1, afterW w 1 (proposeF (w.n 1) [d[j]]).2.2) := hpl2
  have hwp2 := hwj.play (by omega) 2 0 (((d[j]).toNat : Nat) : Int)
  have hcp2 := hcj.play 2 0 (((d[j]).toNat : Nat) : Int)
  rw [hpl2] at hwp2 hcp2
  refine call (play_spec (ω := ω) (d := 2) (who := 0) (n := (((d[j]).toNat : Nat) : Int)) hWj hwj (by omega) (by unfold inI64; omega) (fun L6 I6 hI6 hW6 => ?_))
  rw [hpl2] at hW6
  refine call (wsettle_spec (most := 100) (T := 8) hW6 hwp2 hcp2 (by simp [afterW]) hD2 (by omega) (by omega) (by omega) (fun L7 I7 w7 hI7 hW7 hw7 hc7' e5 e6 => ?_))
  try simp only [SSd, List.getElem?_toArray, List.getElem?_cons_zero, List.getElem?_cons_succ, Nat.zero_add, Nat.add_zero, Nat.zero_mul, List.drop_succ_cons, List.drop_zero, List.take_succ_cons, List.take_zero, List.nil_append, List.cons_append, Nat.reduceAdd, List.drop_nil, List.take_nil]
  refine br_split (fun h => by simp at h) (fun _ => ?_)
  simp only [SSd, List.getElem?_toArray, List.getElem?_cons_zero, List.getElem?_cons_succ, Nat.zero_add, Nat.add_zero, Nat.zero_mul, List.drop_succ_cons, List.drop_zero, List.take_succ_cons, List.take_zero, List.nil_append, List.cons_append, Nat.reduceAdd, List.drop_nil, List.take_nil, wrap_i64 ((j : Int) + 1) (by omega)]
  obtain ⟨z1, z2, z3⟩ := hr2 4 (.inl rfl)
  exact Gh.done ⟨m - 1, by omega, hI'.trans (hI6.trans hI7), j + 1, w7, by omega, by simp, hW7, by have := hw7; rw [show 13 + 9 * j + 1 + 8 = 13 + 9 * (j + 1) by omega] at this; exact this, hc7', nx2, mt2, e5 ▸ hg2, by rw [e5, z1]; exact h4j.1, by rw [z2]; exact h4j.2.1, by rw [z3]; exact h4j.2.2⟩
end
end Go.Proofs.Ytdcpeboecmkmlaa
