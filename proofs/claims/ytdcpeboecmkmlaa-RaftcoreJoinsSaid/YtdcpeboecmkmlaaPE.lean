/-
  A world of five nodes: what holds behind an event.
-/
-- S3
import Derived.Test.YtdcpeboecmkmlaaPD
set_option linter.unusedSimpArgs false
set_option linter.unusedVariables false
namespace Go.Proofs.Ytdcpeboecmkmlaa
open Go.SL
set_option maxRecDepth 10000

/-- of one group, one node -/
def GI (r r' : RF) : Prop := r'.group = r.group ∧ r'.id = r.id
theorem GI.rfl' {r : RF} : GI r r := ⟨rfl, rfl⟩
theorem GI.trans {a b c : RF} (h : GI a b) (h' : GI b c) : GI a c := ⟨h'.1.trans h.1, h'.2.trans h.2⟩
theorem gi_out {r r' : RF} (e : { r' with out := [] } = { r with out := [] }) : GI r r' := by
  obtain ⟨e1, e2, e3, e4, e5, e6, e7, e8, e9, e10, e11, e12⟩ := RF.ext_out e
  exact ⟨e7, e2⟩
theorem gi_all (r : RF) : GI r (sendAllF r) := by
  unfold sendAllF; split
  · exact gi_out (each_same _ r).2
  · exact GI.rfl'
theorem gi_commit (r : RF) : GI r (commitF r).2 := by
  unfold commitF outF matF settleF; simp only; split <;> split <;> exact ⟨rfl, rfl⟩
theorem gi_lead (r : RF) : GI r (leadF r) := by
  unfold leadF
  exact (GI.trans (b := { lead0 r with g := (addG r.g r.term 1 []).2.2 }) ⟨rfl, rfl⟩ (gi_commit _)).trans (gi_all _)
theorem gi_want (r : RF) : GI r (wantF r) := by
  unfold wantF; split
  · exact GI.rfl'
  · split
    · exact GI.trans (b := want0 r) ⟨rfl, rfl⟩ (gi_lead _)
    · exact GI.trans (b := want0 r) ⟨rfl, rfl⟩ (gi_out (ask_same _ _).2)
theorem gi_tick (r : RF) (w : Int) : GI r (tickF r w) := by
  unfold tickF; split
  · exact gi_all r
  · split
    · exact GI.trans (b := { r with elapsed := r.elapsed + 1 }) ⟨rfl, rfl⟩ (gi_want _)
    · exact ⟨rfl, rfl⟩
theorem gi_add (r : RF) (k : Int) (d : List UInt8) : GI r (addF r k d).2.2 := by
  unfold addF; simp only; split
  · exact GI.rfl'
  · exact (GI.trans (b := { r with g := (addG r.g r.term k d).2.2 }) ⟨rfl, rfl⟩ (gi_commit _)).trans (gi_all _)
theorem gi_propose (r : RF) (d : List UInt8) : GI r (proposeF r d).2.2 := by
  unfold proposeF; split
  · exact GI.rfl'
  · exact gi_add r 2 d
theorem gi_change (r : RF) (l : List Int) : GI r (changeF r l).2.2 := by
  unfold changeF; split
  · exact GI.rfl'
  · split
    · exact GI.rfl'
    · split
      · exact GI.rfl'
      · exact gi_add r 3 _
theorem gi_compact (r : RF) (i : Int) (d : List UInt8) : GI r (compactF r i d).2 := by
  unfold compactF; split
  · exact GI.rfl'
  · simp only; split <;> exact ⟨rfl, rfl⟩
theorem gi_send (r : RF) (m : RM) : GI r (sendF r m) := ⟨rfl, rfl⟩
theorem gi_appended (r : RF) (m : RM) : GI r (appendedF r m) := by
  unfold appendedF; simp only; split
  · split <;> exact ⟨rfl, rfl⟩
  · split
    · exact GI.rfl'
    · have h := GI.trans (a := r) (b := { r with mt := updI r.mt m.frm (max (r.mt m.frm) m.index), nx := updI r.nx m.frm (max (r.mt m.frm) m.index + 1) }) ⟨rfl, rfl⟩ (gi_commit _)
      split
      · exact h.trans (gi_all _)
      · split
        · exact h.trans (gi_send _ _)
        · exact h
theorem gi_handle (r : RF) (m : RM) : GI r (handleF r m) := by
  unfold handleF; split
  · unfold askedF; simp only; split <;> exact ⟨rfl, rfl⟩
  · split
    · unfold grantedF; simp only; split
      · split
        · exact GI.trans (b := { r with vt := updI r.vt m.frm true }) ⟨rfl, rfl⟩ (gi_lead _)
        · exact ⟨rfl, rfl⟩
      · exact GI.rfl'
    · split
      · split
        · exact GI.rfl'
        · unfold appendF; simp only; split
          · exact ⟨rfl, rfl⟩
          · split <;> exact ⟨rfl, rfl⟩
      · split
        · split
          · exact GI.rfl'
          · unfold installF; simp only; split
            · exact ⟨rfl, rfl⟩
            · split <;> exact ⟨rfl, rfl⟩
        · split
          · split
            · exact gi_appended r m
            · exact GI.rfl'
          · exact GI.rfl'
theorem gi_step (r : RF) (m : RM) : GI r (stepF r m).2 := by
  unfold stepF; split
  · exact GI.rfl'
  · split
    · simp only
      unfold refuseF; split
      · exact ⟨rfl, rfl⟩
      · split <;> exact ⟨rfl, rfl⟩
    · refine GI.trans (b := upF r m) ?_ (gi_handle _ _)
      unfold upF followF; split <;> exact ⟨rfl, rfl⟩

theorem WWF.weak {N M : Nat} {w : WM} (h : WWF N w) (hN : N ≤ M) : WWF M w :=
  ⟨fun p hp => ⟨(h.nod p hp).1.weak (by omega) hN, (h.nod p hp).2⟩, by have := h.num; omega, h.sml⟩
theorem WWF.after {N : Nat} {w : WM} (h : WWF N w) {k : Int} {r : RF} (hk : 1 ≤ k ∧ k ≤ 5) (hr : RWF (65 * (N + 1)) (N + 1) r) (hg : GI (w.n k) r) (ho : OutOk r) (hl : r.out.length ≤ 7) : WWF (N + 1) (afterW w k r) := by
  refine ⟨fun p hp => ?_, ?_, fun m hm => ?_⟩
  · show RWF _ _ (updI w.n k (takeF r) p) ∧ (updI w.n k (takeF r) p).out = [] ∧ (updI w.n k (takeF r) p).group = 7 ∧ (updI w.n k (takeF r) p).id = p
    by_cases e : p = k
    · subst e
      rw [updI_same]
      have := h.nod p hp
      exact ⟨hr.take, rfl, hg.1.trans this.2.2.1, hg.2.trans this.2.2.2⟩
    · simp only [updI, if_neg e]
      exact (h.weak (Nat.le_succ N)).nod p hp
  · have := h.num
    simp only [afterW, List.length_append]; omega
  · rcases List.mem_append.1 hm with hm | hm
    · exact h.sml m hm
    · exact (ho m hm).2
theorem WWF.play {N : Nat} {w : WM} (h : WWF N w) (hN : N ≤ 2000) (d who n : Int) : WWF (N + 1) (playF w d who n).2 := by
  have hw := h.weak (Nat.le_succ N)
  have hE : (65 * N + 1) * 48 ≤ 150000000000000 := by omega
  have hk := who_in who
  obtain ⟨h1, h2, h3, h4⟩ := h.nod _ hk
  have o0 := ok_nil h2
  have l0 : (w.n (whoF who)).out.length = 0 := by rw [h2]; rfl
  unfold playF
  split
  · have := len_tick h1 hE n
    exact h.after hk ((h1.tick hE n).weak (by omega) (by omega)) (gi_tick _ _) (ok_tick o0 h1 hE n) (by omega)
  split
  · split
    · exact hw
    · simp only
      split
      · exact hw
      · rename_i hm
        obtain ⟨s1, s2, s3, s4⟩ := h.nod _ (show 1 ≤ ((w.sent[n.toNat]?).getD msg0).to ∧ ((w.sent[n.toNat]?).getD msg0).to ≤ 5 by omega)
        have hE2 : (65 * N + 64) * 48 ≤ 150000000000000 := by omega
        have := len_step s1 hE2 ((w.sent[n.toNat]?).getD msg0)
        rw [s2] at this
        exact h.after (by omega) ((s1.step hE2 _).weak (by omega) (by omega)) (gi_step _ _) (ok_step (ok_nil s2) s1 hE2 _) (by simp at this; omega)
  split
  · have := len_propose h1 hE [byteOf n]
    exact h.after hk ((h1.propose hE _).weak (by omega) (by omega)) (gi_propose _ _) (ok_propose o0 h1 hE _) (by omega)
  split
  · have := len_change h1 hE (changedL (mems (w.n (whoF who))) n)
    exact h.after hk ((h1.change hE _).weak (by omega) (by omega)) (gi_change _ _) (ok_change o0 h1 hE _) (by omega)
  split
  · have q2 : (compactF (w.n (whoF who)) (w.n (whoF who)).g.commit [byteOf (w.n (whoF who)).g.commit]).2.out = [] := by
      unfold compactF; split
      · exact h2
      · simp only; split
        · exact h2
        · exact h2
    exact h.after hk ((h1.compact _ _).weak (by omega) (by omega)) (gi_compact _ _ _) (ok_nil q2) (by rw [q2]; simp)
  split
  · have hno := h1.newOk
    rw [h3, h4] at hno
    exact h.after hk (newF_wf h1.wf (by have := h1.len; omega) hno) ⟨by rw [h3]; rfl, by rw [h4]; rfl⟩ (ok_nil rfl) (by simp [newF])
  · exact hw
theorem WWF.first : WWF 0 world0 := by
  refine ⟨fun p hp => ⟨?_, rfl, rfl, rfl⟩, by simp [world0], fun m hm => by cases hm⟩
  have hmb : memB [1, 2, 3] = true := rfl
  refine newF_wf (new_wf hmb) (by simp [newG]) ?_
  rcases five hp with rfl | rfl | rfl | rfl | rfl <;> rfl

/-- what a node has committed is what is meant to be there; none but 'l' leads -/
structure NO (G : Int → LE) (l : Int) (r : RF) : Prop where
  com : r.g.commit ≤ 100000
  ent : ∀ i e, r.g.index < i → i ≤ r.g.commit → entAt r.g i = some e → e = G i
  led : r.role = 3 → (1 ≤ r.term ∧ r.term ≤ 10000) ∧ r.id = l
structure CO (G : Int → LE) (l : Int) (w : WM) : Prop where
  cl : w.com.length ≤ 100000
  ll : w.led.length ≤ 10001
  cm : ∀ i, 1 ≤ i → (comG w.com i).term = 0 ∨ comG w.com i = G i
  ld : ∀ t, 0 ≤ t → ledG w.led t = 0 ∨ ledG w.led t = l
theorem CO.first {G : Int → LE} {l : Int} : CO G l world0 := ⟨by simp [world0], by simp [world0], fun i _ => by simp [world0, comG, le0], fun t _ => by simp [world0, ledG]⟩
theorem playF_com (w : WM) (d who n : Int) : (playF w d who n).2.com = w.com ∧ (playF w d who n).2.led = w.led := by
  unfold playF
  split
  · exact ⟨rfl, rfl⟩
  split
  · split
    · exact ⟨rfl, rfl⟩
    · simp only; split <;> exact ⟨rfl, rfl⟩
  split
  · exact ⟨rfl, rfl⟩
  split
  · exact ⟨rfl, rfl⟩
  split
  · exact ⟨rfl, rfl⟩
  split <;> exact ⟨rfl, rfl⟩
theorem CO.play {G : Int → LE} {l : Int} {w : WM} (h : CO G l w) (d who n : Int) : CO G l (playF w d who n).2 := by
  obtain ⟨h1, h2⟩ := playF_com w d who n
  exact ⟨by rw [h1]; exact h.cl, by rw [h2]; exact h.ll, fun i hi => by rw [h1]; exact h.cm i hi, fun t ht => by rw [h2]; exact h.ld t ht⟩

/-- messages are delivered in turn, till none is left -/
inductive Dl (G : Int → LE) (l : Int) : (Int → RF) → List RM → Nat → (Int → RF) → Prop
  | nil (n : Int → RF) : Dl G l n [] 0 n
  | cons {n n' : Int → RF} {m : RM} {rest : List RM} {T : Nat} (h : 1 ≤ m.to ∧ m.to ≤ 5) (hn : NO G l (takeF (stepF (n m.to) m).2)) (hd : Dl G l (updI n m.to (takeF (stepF (n m.to) m).2)) (rest ++ (stepF (n m.to) m).2.out) T n') : Dl G l n (m :: rest) (T + 1) n'
theorem Dl.zero {G : Int → LE} {l : Int} {n n' : Int → RF} {p : List RM} {T : Nat} (h : Dl G l n p T n') (hT : T = 0) : n = n' := by
  cases h
  · rfl
  · omega

section
variable {ω : Om} {I : Imm} {L : LH} {K : Value → M} {G : Int → LE} {l : Int}
theorem holdsNO_spec {wb N : Nat} {w : WM} {F : LH} {k : Int} (hW : WorldR I wb L w F) (hw : WWF N w) (hk5 : 1 ≤ k ∧ k ≤ 5) (hc : CO G l w) (hn : NO G l (w.n k))
    (hk : ∀ L' I' w', Ext I I' → WorldR I' wb L' w' F → WWF N w' → CO G l w' → w'.n = w.n → w'.sent = w.sent → K (.bool true) I' L') :
    Cal Try.prog ω 49 #[.pointer (some ⟨wb, 0, none⟩), .int .i64 k] K I L := by
  have hid := (hw.nod k hk5).2.2.2
  have hgi : 0 ≤ (w.n k).g.index := by
    have := (hw.nod k hk5).1.wf.idx; simp [countB] at this; omega
  refine holds_spec hW hw hk5 hn.com hc.cl hc.ll (fun i e h1 h2 h3 => ?_) (fun hr => ⟨(hn.led hr).1, ?_⟩) (fun L' I' com' led' hI hW' hcl hcm hll hld => ?_)
  · rcases hc.cm i (by omega) with h | h
    · exact .inl h
    · exact .inr (by rw [h, hn.ent i e h1 h2 h3])
  · have := hn.led hr
    rcases hc.ld (w.n k).term (by omega) with h | h
    · exact .inl h
    · exact .inr (by rw [h, ← this.2, hid])
  · refine hk L' I' _ hI hW' ⟨hw.nod, hw.num, hw.sml⟩ ⟨hcl, hll, fun i hi => ?_, fun t ht => ?_⟩ rfl rfl
    · show (comG com' i).term = 0 ∨ comG com' i = G i
      rw [hcm i hi]
      split
      · rename_i h
        obtain ⟨e, he⟩ := ent_at (g := (w.n k).g) h.1 (by have := (hw.nod k hk5).1.wf.com; omega)
        rw [he]; exact .inr (hn.ent i e h.1 h.2 he)
      · exact hc.cm i hi
    · show ledG led' t = 0 ∨ ledG led' t = l
      rw [hld t ht]
      split
      · rename_i h
        exact .inr (by rw [← (hn.led h.1).2, hid])
      · exact hc.ld t ht

set_option maxHeartbeats 1000000 in
theorem wsettle_spec {wb N : Nat} {w : WM} {F : LH} {frm most T : Nat} {n' : Int → RF} (hW : WorldR I wb L w F) (hw : WWF N w) (hc : CO G l w) (hle : frm ≤ w.sent.length) (hD : Dl G l w.n (w.sent.drop frm) T n') (hT : T ≤ most) (hm : most ≤ 1000) (hN : N + T ≤ 2000)
    (hk : ∀ L' I' w', Ext I I' → WorldR I' wb L' w' F → WWF (N + T) w' → CO G l w' → w'.n = n' → w'.sent.length = frm + T → K (.bool true) I' L') :
    Cal Try.prog ω 50 #[.pointer (some ⟨wb, 0, none⟩), .int .i64 frm, .int .i64 most] K I L := by
  have hnum := hw.num
  refine cal50 ?_
  unfold sh50
  refine loop (fun m s I' L' => Ext I I' ∧ ∃ (j : Nat) (w' : WM), j + m = T ∧ s = (.bool false, .int .i64 ((frm + j : Nat) : Int), ()) ∧ WorldR I' wb L' w' F ∧ WWF (N + j) w' ∧ CO G l w' ∧ frm + j ≤ w'.sent.length ∧ Dl G l w'.n (w'.sent.drop (frm + j)) m n') T
    ⟨Ext.refl _, 0, w, by omega, rfl, hW, hw, hc, hle, hD⟩ ?_
  rintro m s I' L' ⟨hI, j, w', hj, rfl, hW', hw', hc', hle', hD'⟩
  have hnum' := hw'.num
  unfold sh50_3
  try simp only [SSd, List.getElem?_toArray, List.getElem?_cons_zero, List.getElem?_cons_succ, Nat.zero_add, Nat.add_zero, Nat.zero_mul, List.drop_succ_cons, List.drop_zero, List.take_succ_cons, List.take_zero, List.nil_append, List.cons_append, Nat.reduceAdd, List.drop_nil, List.take_nil]
  have hW2 := hW'
  obtain ⟨bs, Xs, XS, XC, XD, sv, cv, dv, hNd, hR, rfl⟩ := hW2
  refine rdb ?_
  obtain ⟨⟨sc, hs1, hs2⟩, _, _⟩ := hR
  obtain ⟨sa, scap, rfl⟩ := hs1.form
  simp only [SSd, List.getElem?_toArray, List.getElem?_cons_zero, List.getElem?_cons_succ, Nat.zero_add, Nat.add_zero, Nat.zero_mul, List.drop_succ_cons, List.drop_zero, List.take_succ_cons, List.take_zero, List.nil_append, List.cons_append, Nat.reduceAdd, List.drop_nil, List.take_nil, wrap_i64 ((frm : Int) + most) (by omega)]
  have fin : m = 0 → w'.sent.length = frm + j → sh50_1 ω (.pointer (some ⟨wb, 0, none⟩)) (.int .i64 frm) (.int .i64 most) (.bool false) (fun v => Gh (K v)) I' ((wb, Obj.cells (wcells bs (.slice sa w'.sent.length scap) cv dv).toArray 103 (0, 0)) :: catX Xs (XS ++ (XC ++ (XD ++ F)))) := by
    intro hm0 he
    subst hm0
    unfold sh50_1
    try simp only [SSd, List.getElem?_toArray, List.getElem?_cons_zero, List.getElem?_cons_succ, Nat.zero_add, Nat.add_zero, Nat.zero_mul, List.drop_succ_cons, List.drop_zero, List.take_succ_cons, List.take_zero, List.nil_append, List.cons_append, Nat.reduceAdd, List.drop_nil, List.take_nil]
    refine rdb ?_
    simp only [SSd, List.getElem?_toArray, List.getElem?_cons_zero, List.getElem?_cons_succ, Nat.zero_add, Nat.add_zero, Nat.zero_mul, List.drop_succ_cons, List.drop_zero, List.take_succ_cons, List.take_zero, List.nil_append, List.cons_append, Nat.reduceAdd, List.drop_nil, List.take_nil, wrap_i64 ((frm : Int) + most) (by omega)]
    have hd : decide ((w'.sent.length : Int) ≤ (frm : Int) + most) = true := by simp; omega
    rw [hd]
    obtain rfl : j = T := by omega
    exact Gh.done (hk _ I' w' hI hW' hw' hc' (hD'.zero rfl) he)
  refine gd_split (fun hlt => ?_) (fun hlt => ?_)
  rotate_left
  · simp at hlt
    have he : w'.sent.length = frm + j := by omega
    refine fin ?_ he
    rw [← he, List.drop_length] at hD'
    cases hD'; rfl
  simp at hlt
  have hlt' : frm + j < w'.sent.length := by omega
  rw [List.drop_eq_getElem_cons hlt'] at hD'
  generalize hmm : w'.sent[frm + j] = mm at hD'
  cases hD' with
  | @cons _ _ _ _ T' ht hn hd =>
  refine br_split (fun _ => ?_) (fun h => by simp at h; omega)
  have hpl : playF w' 1 0 ((frm + j : Nat) : Int) = (mm.to, afterW w' mm.to (stepF (w'.n mm.to) mm).2) := by
    have hg : (w'.sent[((frm + j : Nat) : Int).toNat]?).getD msg0 = mm := by
      rw [Int.toNat_natCast, List.getElem?_eq_getElem hlt', hmm]; rfl
    rw [playF, if_neg (by omega), if_pos rfl, if_neg (by omega)]
    simp only [hg]
    rw [if_neg (by omega)]
  have hwp := hw'.play (by omega) 1 0 ((frm + j : Nat) : Int)
  have hcp := hc'.play 1 0 ((frm + j : Nat) : Int)
  rw [hpl] at hwp hcp
  refine call (play_spec (ω := ω) (d := 1) (who := 0) (n := ((frm + j : Nat) : Int)) hW' hw' (by omega) (by unfold inI64; omega) (fun L2 I2 hI2 hW2 => ?_))
  rw [hpl] at hW2 ⊢
  try simp only [SSd, List.getElem?_toArray, List.getElem?_cons_zero, List.getElem?_cons_succ, Nat.zero_add, Nat.add_zero, Nat.zero_mul, List.drop_succ_cons, List.drop_zero, List.take_succ_cons, List.take_zero, List.nil_append, List.cons_append, Nat.reduceAdd, List.drop_nil, List.take_nil]
  refine br_split (fun h => by simp at h; omega) (fun _ => ?_)
  refine call (holdsNO_spec hW2 hwp ht hcp (by simp only [afterW, updI_same]; exact hn) (fun L3 I3 w3 hI3 hW3 hw3 hc3 e1 e2 => ?_))
  try simp only [SSd, List.getElem?_toArray, List.getElem?_cons_zero, List.getElem?_cons_succ, Nat.zero_add, Nat.add_zero, Nat.zero_mul, List.drop_succ_cons, List.drop_zero, List.take_succ_cons, List.take_zero, List.nil_append, List.cons_append, Nat.reduceAdd, List.drop_nil, List.take_nil]
  refine br_split (fun h => by simp at h) (fun _ => ?_)
  simp only [wrap_i64 (((frm + j : Nat) : Int) + 1) (by omega)]
  refine Gh.done ⟨T', by omega, hI.trans (hI2.trans hI3), j + 1, w3, by omega, ?_, hW3, hw3, hc3, ?_, ?_⟩
  · rfl
  · rw [e2]; simp only [afterW, List.length_append]; omega
  · rw [e1, e2]
    simp only [afterW]
    rw [List.drop_append_of_le_length (by omega)]
    exact hd
end
end Go.Proofs.Ytdcpeboecmkmlaa
