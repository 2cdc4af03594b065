/-
  A world of five nodes: what is asked of it.
-/
-- S3
import Derived.Test.YtdcpeboecmkmlaaPI
set_option linter.unusedSimpArgs false
set_option linter.unusedVariables false
namespace Go.Proofs.Ytdcpeboecmkmlaa
open Go.SL
set_option maxRecDepth 10000

theorem WorldR.mono {I I' : Imm} {wb : Nat} {L F : LH} {w : WM} (h : WorldR I wb L w F) (hI : Ext I I') : WorldR I' wb L w F := by
  obtain ⟨bs, Xs, XS, XC, XD, sv, cv, dv, hN, hR, e⟩ := h
  exact ⟨bs, Xs, XS, XC, XD, sv, cv, dv, hN.mono hI, hR.mono hI, e⟩
theorem Run.dl {G : Int → LE} {l k : Int} {w : WM} {r : RF} {T : Nat} {Q : (Int → RF) → Prop} (h : Run G l (updI w.n k (takeF r)) r.out T Q) :
    ∃ N', Dl G l (afterW w k r).n ((afterW w k r).sent.drop w.sent.length) T N' ∧ Q N' := by
  obtain ⟨N', h1, h2⟩ := h
  refine ⟨N', ?_, h2⟩
  show Dl G l (updI w.n k (takeF r)) ((w.sent ++ r.out).drop w.sent.length) T N'
  rw [List.drop_left]
  exact h1
section
variable {ω : Om} {I : Imm} {L : LH} {K : Value → M} {wb : Nat} {w : WM} {F : LH} {k : Int}
theorem WorldR.len (hW : WorldR I wb L w F) : ∃ sa scap, Cell I L wb 6 (.slice sa w.sent.length scap) := by
  obtain ⟨bs, Xs, XS, XC, XD, sv, cv, dv, hN, hR, rfl⟩ := hW
  obtain ⟨⟨sc, hs1, hs2⟩, _, _⟩ := hR
  obtain ⟨sa, scap, rfl⟩ := hs1.form
  exact ⟨sa, scap, Cell.own (List.mem_cons_self ..) rfl⟩
/-- a node of it -/
theorem WorldR.node (hW : WorldR I wb L w F) (hk5 : 1 ≤ k ∧ k ≤ 5) : ∃ b, Cell I L wb k.toNat (pt b) ∧ Cell I L b 6 (.int .i64 (w.n k).role) ∧
    (∀ {K : Value → M}, WF (w.n k).g → (∀ lb o I', Ext I I' → WorldR I' wb L w F → LogV I' ((lb, o) :: L) lb (w.n k).g → K (pt lb) I' ((lb, o) :: L)) → Cal Try.prog ω 45 #[pt b] K I L) ∧
    (∀ {L' : LH} {I' : Imm} {K : Value → M}, (∀ x ∈ L, x ∈ L') → Ext I I' → (w.n k).st.length ≤ 60000 → (∀ v I2, Ext I' I2 → Bytes I2 v (w.n k).st → K v I2 L') → Cal Try.prog ω 46 #[pt b] K I' L') := by
  obtain ⟨bs, Xs, XS, XC, XD, sv, cv, dv, hN, hR, rfl⟩ := hW
  have hin : ∀ x ∈ Xs k, x ∈ (wb, Obj.cells (wcells bs sv cv dv).toArray 103 (0, 0)) :: catX Xs (XS ++ (XC ++ (XD ++ F))) := fun x hx => List.mem_cons_of_mem _ (cat_in hk5 Xs _ x hx)
  refine ⟨bs k, Cell.own (List.mem_cons_self ..) ?_, (grole_at (hN k hk5) hin).1, fun {K} hwf hk => ?_, fun {L' I' K} hL' hI' hst hk => ?_⟩
  · rcases five hk5 with rfl | rfl | rfl | rfl | rfl <;> rfl
  · refine Cal.gh (Cal.perm (L' := Xs k ++ ((wb, Obj.cells (wcells bs sv cv dv).toArray 103 (0, 0)) :: catR k Xs (XS ++ (XC ++ (XD ++ F))))) ((List.Perm.cons _ (cat_perm hk5 Xs _)).trans List.perm_middle.symm) (glogR2_spec (hN k hk5) hwf (fun lb o I1 hI1 hV => ?_)))
    refine Gh.perm (L' := (lb, o) :: (wb, Obj.cells (wcells bs sv cv dv).toArray 103 (0, 0)) :: catX Xs (XS ++ (XC ++ (XD ++ F)))) (List.Perm.cons _ (List.perm_middle.trans (List.Perm.cons _ (cat_perm hk5 Xs _).symm))) (Gh.done ?_)
    refine hk lb o I1 hI1 ⟨bs, Xs, XS, XC, XD, sv, cv, dv, hN.mono hI1, hR.mono hI1, rfl⟩ (hV.toM (Ext.refl _) (fun x hx => ?_))
    rcases List.mem_cons.1 hx with rfl | hx
    · exact List.mem_cons_self ..
    · exact List.mem_cons_of_mem _ (hin x hx)
  · obtain ⟨lb, XL, XO, stv, ov, z0, z1, z2, oc, e, h1, h2, h3, h4⟩ := hN k hk5
    refine gstate_spec (v := stv) (Cell.own (hL' _ (hin _ (by rw [e]; exact List.mem_cons_self ..))) rfl) (h2.mono hI') hst hk
end
end Go.Proofs.Ytdcpeboecmkmlaa

namespace Go.Proofs.Ytdcpeboecmkmlaa
open Go.SL
set_option maxRecDepth 10000

theorem byteOf_toNat (x : UInt8) : byteOf ((x.toNat : Nat) : Int) = x := by
  unfold byteOf
  have h : x.toNat < 256 := x.toNat_lt
  rw [show ((x.toNat : Int) % 256).toNat = x.toNat by omega]
  exact UInt8.ofNat_toNat
theorem who_tri {k a b : Int} (h : Tri k a b) : whoF (k - 1) = k := by
  rcases h with ⟨rfl, _⟩ | ⟨rfl, _⟩ | ⟨rfl, _⟩ <;> rfl
theorem tri_has {k : Int} (h : k = 1 ∨ k = 2 ∨ k = 3) : ∃ a b, Tri k a b := by
  rcases h with rfl | rfl | rfl
  · exact ⟨2, 3, .inl ⟨rfl, rfl, rfl⟩⟩
  · exact ⟨1, 3, .inr (.inl ⟨rfl, rfl, rfl⟩)⟩
  · exact ⟨1, 2, .inr (.inr ⟨rfl, rfl, rfl⟩)⟩
/-- all three have the same log -/
theorem Grp.all {FL : List LE} {k a b : Int} {n : Nat} {nx mt : Int → Nat} {N : Int → RF} (h : Grp FL k a b n nx mt N) (ht : Tri k a b) {p : Int} (hp : 1 ≤ p ∧ p ≤ 3) : (N p).g = LGof FL 0 n n := by
  have h1 := h.ld.g
  have h2 := h.fa.g
  have h3 := h.fb.g
  have : p = k ∨ p = a ∨ p = b := by unfold Tri at ht; omega
  rcases this with rfl | rfl | rfl <;> assumption
section
variable {ω : Om} {I : Imm} {L : LH} {K : Value → M} {wb : Nat} {F : LH} {k a b : Int} {FL : List LE}

/-- the first who ticks -/
theorem tick_dl (ht : Tri k a b) (h : FLok FL) (h0 : FL.take 1 = [⟨1, 1, 1, []⟩]) :
    playF world0 0 (k - 1) 1 = (k, afterW world0 k (tickF (rNew k) 1)) ∧
    ∃ N', Dl (GL FL) k (afterW world0 k (tickF (rNew k) 1)).n ((afterW world0 k (tickF (rNew k) 1)).sent.drop 0) 12 N' ∧ ∃ nx mt, Grp FL k a b 1 nx mt N' ∧ ∀ p, p = 4 ∨ p = 5 → N' p = rNew p ∧ nx p = 1 ∧ mt p = 0 := by
  refine ⟨by unfold playF; rw [if_pos rfl, who_tri ht]; rfl, ?_⟩
  have hR : Run (GL FL) k (updI world0.n k (takeF (tickF (rNew k) 1))) (tickF (rNew k) 1).out 12 (fun N' => ∃ nx mt, Grp FL k a b 1 nx mt N' ∧ ∀ p, p = 4 ∨ p = 5 → N' p = rNew p ∧ nx p = 1 ∧ mt p = 0) := by
    rw [el_tick ht]
    have hka : k ≠ a := by unfold Tri at ht; omega
    have hkb : k ≠ b := by unfold Tri at ht; omega
    refine round12 h ht h0 (updI_same ..) (by simp only [updI, if_neg (Ne.symm hka)]; rfl) (by simp only [updI, if_neg (Ne.symm hkb)]; rfl) (fun N' nx' mt' hg hr => ⟨nx', mt', hg, fun p hp => ?_⟩)
    obtain ⟨e1, e2, e3⟩ := hr p hp
    refine ⟨?_, e2, e3⟩
    rw [e1]
    have : p ≠ k := by unfold Tri at ht; omega
    simp only [updI, if_neg this]; rfl
  exact Run.dl (w := world0) hR
/-- a proposal -/
theorem prop_dl (ht : Tri k a b) (h : FLok FL) {w : WM} {n : Nat} {nx mt : Int → Nat} {x : UInt8} (hn : n < FL.length) (hm : memOf [1, 2, 3] (FL.take (n + 1)) = [1, 2, 3]) (hx : FL[n].kind = 2 ∧ FL[n].data = [x]) (hg : Grp FL k a b n nx mt w.n) :
    playF w 2 (k - 1) ((x.toNat : Nat) : Int) = (k, afterW w k (proposeF (w.n k) [x]).2.2) ∧
    ∃ N', Dl (GL FL) k (afterW w k (proposeF (w.n k) [x]).2.2).n ((afterW w k (proposeF (w.n k) [x]).2.2).sent.drop w.sent.length) 8 N' ∧ ∃ nx' mt', Grp FL k a b (n + 1) nx' mt' N' ∧ ∀ p, p = 4 ∨ p = 5 → N' p = w.n p ∧ nx' p = nx p ∧ mt' p = mt p := by
  refine ⟨by unfold playF; rw [if_neg (by decide), if_neg (by decide), if_pos rfl, who_tri ht, byteOf_toNat], ?_⟩
  obtain ⟨hld, hfa, hfb, na, nb, ma, mb⟩ := hg
  have hka : k ≠ a := by unfold Tri at ht; omega
  have hkb : k ≠ b := by unfold Tri at ht; omega
  have hid : ([1, 2, 3] : List Int).contains k = true := by rcases ht with ⟨rfl, _⟩ | ⟨rfl, _⟩ | ⟨rfl, _⟩ <;> rfl
  have hms : ∀ q ∈ ([1, 2, 3] : List Int), 1 ≤ q ∧ q ≤ 5 := fun q hq => by simp at hq; omega
  have hq2 : ∀ q ∈ ([1, 2, 3] : List Int), q ≠ k → q = a ∨ q = b := fun q hq hqk => by unfold Tri at ht; simp at hq; omega
  have e : proposeF (w.n k) [x] = addF (w.n k) 2 [x] := by unfold proposeF; rw [if_neg (by rw [hld.rol]; decide)]
  obtain ⟨h1, h2⟩ := ld_add (n := n) h hld (Nat.zero_le _) hn (by rw [hm]; exact hms) (by rw [hm]; exact hid) (by rw [hm]; exact fun q hq hqk => by rcases hq2 q hq hqk with rfl | rfl <;> omega) (by rw [hm, tri_maj ht]; simp; omega) hx.1 hx.2
  rw [e]
  rw [hm, tri_all ht, toM0 (i := n) na, toM0 (i := n) nb] at h1
  have hR : Run (GL FL) k (updI w.n k (takeF (addF (w.n k) 2 [x]).2.2)) (addF (w.n k) 2 [x]).2.2.out 8 (fun N' => ∃ nx' mt', Grp FL k a b (n + 1) nx' mt' N' ∧ ∀ p, p = 4 ∨ p = 5 → N' p = w.n p ∧ nx' p = nx p ∧ mt' p = mt p) := by
    rw [h1]
    refine round8 h ht hn hm (by rw [updI_same]; exact h2) (by simp only [updI, if_neg (Ne.symm hka)]; exact hfa) (by simp only [updI, if_neg (Ne.symm hkb)]; exact hfb) na nb (by omega) (by omega) (fun N' nx' mt' hg hr => ⟨nx', mt', hg, fun p hp => ?_⟩)
    obtain ⟨e1, e2, e3⟩ := hr p hp
    refine ⟨?_, e2, e3⟩
    rw [e1]
    have : p ≠ k := by unfold Tri at ht; omega
    simp only [updI, if_neg this]
  exact Run.dl hR
/-- a beat -/
theorem beat_dl (ht : Tri k a b) (h : FLok FL) {w : WM} {n : Nat} {nx mt : Int → Nat} (hn : n ≤ FL.length) (hm : memOf [1, 2, 3] (FL.take n) = [1, 2, 3]) (hg : Grp FL k a b n nx mt w.n) :
    playF w 0 (k - 1) 0 = (k, afterW w k (tickF (w.n k) 0)) ∧
    ∃ N', Dl (GL FL) k (afterW w k (tickF (w.n k) 0)).n ((afterW w k (tickF (w.n k) 0)).sent.drop w.sent.length) 4 N' ∧ ∃ nx' mt', Grp FL k a b n nx' mt' N' := by
  refine ⟨by unfold playF; rw [if_pos rfl, who_tri ht], ?_⟩
  have hg' := hg
  obtain ⟨hld, hfa, hfb, na, nb, ma, mb⟩ := hg'
  have hka : k ≠ a := by unfold Tri at ht; omega
  have hkb : k ≠ b := by unfold Tri at ht; omega
  have hms : ∀ q ∈ ([1, 2, 3] : List Int), 1 ≤ q ∧ q ≤ 5 := fun q hq => by simp at hq; omega
  have hq2 : ∀ q ∈ ([1, 2, 3] : List Int), q ≠ k → q = a ∨ q = b := fun q hq hqk => by unfold Tri at ht; simp at hq; omega
  obtain ⟨h1, h2⟩ := ld_tick (w := 0) (n := n) h hld (Nat.zero_le _) hn (by rw [hm]; exact hms) (by rw [hm]; exact fun q hq hqk => by rcases hq2 q hq hqk with rfl | rfl <;> omega)
  rw [hm, tri_all ht, toM0 (i := n) na, toM0 (i := n) nb] at h1
  have hR : Run (GL FL) k (updI w.n k (takeF (tickF (w.n k) 0))) (tickF (w.n k) 0).out 4 (fun N' => ∃ nx' mt', Grp FL k a b n nx' mt' N') := by
    rw [h1]
    exact round4 h ht hn hm ⟨by rw [updI_same]; exact h2, by simp only [updI, if_neg (Ne.symm hka)]; exact hfa, by simp only [updI, if_neg (Ne.symm hkb)]; exact hfb, na, nb, ma, mb⟩ (fun N' nx' mt' hg hr => ⟨nx', mt', hg⟩)
  exact Run.dl hR
end
end Go.Proofs.Ytdcpeboecmkmlaa
