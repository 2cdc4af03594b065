import Derived.Test.YtfeonffmeajpgaaD
import Derived.Test.YtfeonffmeajpgaaSlOpen
set_option linter.unusedSimpArgs false
set_option linter.unusedVariables false
namespace Go.Proofs.Ytfeonffmeajpgaa
open Go.SL
set_option maxRecDepth 10000

section
variable {ω : Om} {I : Imm} {L : LH} {K : Value → M}

def sameE (a b : E) : Bool := a.id == b.id && a.frm == b.frm && a.to == b.to && a.kind == b.kind && (a.body == b.body)
theorem sameE_refl (a : E) : sameE a a = true := by simp [sameE]
theorem sameE_eq {a b : E} (h : sameE a b = true) : a = b := by
  cases a; cases b; simp [sameE] at h; simp_all

theorem str_eq (l m : List UInt8) : ((⟨l.toArray⟩ : ByteArray).toList == (⟨m.toArray⟩ : ByteArray).toList) = (l == m) := by simp [Go.ByteArray.toList_mk]

set_option maxHeartbeats 400000 in
theorem same_spec {a b : E} {ca cb : List Value} (ha : EnvV I a ca) (hb : EnvV I b cb) (hk : K (.bool (sameE a b)) I L) : Cal Try.prog ω 14 #[.agg ca.toArray, .agg cb.toArray] K I L := by
  obtain ⟨va, rfl, hA⟩ := ha
  obtain ⟨vb, rfl, hB⟩ := hb
  refine cal14 ?_
  unfold sh14
  refine newI (fun b1 => newI (fun b2 => ?_))
  simp only [Pv_some, fldV_p, nilV_p, nilV_f, lenV_s, capV_s, lenSV_s, strV_s, unV_not, unV_neg, pickV_t, pickV_f, exV_t, cvIV_i, binI_add, binI_sub, binI_mul, binI_eql, binI_neq, binI_lss, binI_leq, binI_gtr, binI_geq, binI_and, binI_or, binB_eql, binB_neq, binS_eql, binS_neq, binP_eql_nil, binP_neq_nil, binN_eql_nil, binN_neq_nil, binN_eql_nn, binN_neq_nn, Br_true, Br_false, cells_agg, List.getElem?_toArray, List.getElem?_cons_zero, List.getElem?_cons_succ, Nat.zero_add, Nat.add_zero, Nat.zero_mul]
  have no : sameE a b = false → Gh (K (.bool false)) I ((b2, Obj.cells #[.int .i64 b.id, .int .i64 b.frm, .int .i64 b.to, .int .i64 b.kind, vb] 30 (0, 0)) :: (b1, Obj.cells #[.int .i64 a.id, .int .i64 a.frm, .int .i64 a.to, .int .i64 a.kind, va] 30 (0, 0)) :: L) :=
    fun h => Gh.to L (Gh.done (h ▸ hk))
  refine rdb (rdb ?_)
  simp only [Pv_some, fldV_p, nilV_p, nilV_f, lenV_s, capV_s, lenSV_s, strV_s, unV_not, unV_neg, pickV_t, pickV_f, exV_t, cvIV_i, binI_add, binI_sub, binI_mul, binI_eql, binI_neq, binI_lss, binI_leq, binI_gtr, binI_geq, binI_and, binI_or, binB_eql, binB_neq, binS_eql, binS_neq, binP_eql_nil, binP_neq_nil, binN_eql_nil, binN_neq_nil, binN_eql_nn, binN_neq_nn, Br_true, Br_false, cells_agg, List.getElem?_toArray, List.getElem?_cons_zero, List.getElem?_cons_succ, Nat.zero_add, Nat.add_zero, Nat.zero_mul]
  refine gd_split (fun h1 => ?_) (fun h1 => no (by simp [sameE]; intro h; simp [h] at h1))
  refine rdb (rdb ?_)
  simp only [Pv_some, fldV_p, nilV_p, nilV_f, lenV_s, capV_s, lenSV_s, strV_s, unV_not, unV_neg, pickV_t, pickV_f, exV_t, cvIV_i, binI_add, binI_sub, binI_mul, binI_eql, binI_neq, binI_lss, binI_leq, binI_gtr, binI_geq, binI_and, binI_or, binB_eql, binB_neq, binS_eql, binS_neq, binP_eql_nil, binP_neq_nil, binN_eql_nil, binN_neq_nil, binN_eql_nn, binN_neq_nn, Br_true, Br_false, cells_agg, List.getElem?_toArray, List.getElem?_cons_zero, List.getElem?_cons_succ, Nat.zero_add, Nat.add_zero, Nat.zero_mul]
  refine gd_split (fun h2 => ?_) (fun h2 => no (by simp [sameE]; intro _ h; simp [h] at h2))
  refine rdb (rdb ?_)
  simp only [Pv_some, fldV_p, nilV_p, nilV_f, lenV_s, capV_s, lenSV_s, strV_s, unV_not, unV_neg, pickV_t, pickV_f, exV_t, cvIV_i, binI_add, binI_sub, binI_mul, binI_eql, binI_neq, binI_lss, binI_leq, binI_gtr, binI_geq, binI_and, binI_or, binB_eql, binB_neq, binS_eql, binS_neq, binP_eql_nil, binP_neq_nil, binN_eql_nil, binN_neq_nil, binN_eql_nn, binN_neq_nn, Br_true, Br_false, cells_agg, List.getElem?_toArray, List.getElem?_cons_zero, List.getElem?_cons_succ, Nat.zero_add, Nat.add_zero, Nat.zero_mul]
  refine gd_split (fun h3 => ?_) (fun h3 => no (by simp [sameE]; intro _ _ h; simp [h] at h3))
  refine rdb (rdb ?_)
  simp only [Pv_some, fldV_p, nilV_p, nilV_f, lenV_s, capV_s, lenSV_s, strV_s, unV_not, unV_neg, pickV_t, pickV_f, exV_t, cvIV_i, binI_add, binI_sub, binI_mul, binI_eql, binI_neq, binI_lss, binI_leq, binI_gtr, binI_geq, binI_and, binI_or, binB_eql, binB_neq, binS_eql, binS_neq, binP_eql_nil, binP_neq_nil, binN_eql_nil, binN_neq_nil, binN_eql_nn, binN_neq_nn, Br_true, Br_false, cells_agg, List.getElem?_toArray, List.getElem?_cons_zero, List.getElem?_cons_succ, Nat.zero_add, Nat.add_zero, Nat.zero_mul]
  refine gd_split (fun h4 => ?_) (fun h4 => no (by simp [sameE]; intro _ _ _ h; simp [h] at h4))
  refine rdb ?_
  refine ⟨_, hA.str, ?_⟩
  refine rdb ?_
  refine ⟨_, hB.str, ?_⟩
  simp only [Pv_some, fldV_p, nilV_p, nilV_f, lenV_s, capV_s, lenSV_s, strV_s, unV_not, unV_neg, pickV_t, pickV_f, exV_t, cvIV_i, binI_add, binI_sub, binI_mul, binI_eql, binI_neq, binI_lss, binI_leq, binI_gtr, binI_geq, binI_and, binI_or, binB_eql, binB_neq, binS_eql, binS_neq, binP_eql_nil, binP_neq_nil, binN_eql_nil, binN_neq_nil, binN_eql_nn, binN_neq_nn, Br_true, Br_false, cells_agg, List.getElem?_toArray, List.getElem?_cons_zero, List.getElem?_cons_succ, Nat.zero_add, Nat.add_zero, Nat.zero_mul, str_eq]
  refine Gh.to L (Gh.done ?_)
  rwa [show (a.body == b.body) = sameE a b from by simp only [sameE, h1, h2, h3, h4, Bool.true_and]]

structure StepD where
  dO : Int
  id : Int
  e : E
def StepV (I : Imm) (s : StepD) (c : List Value) : Prop := inI64 s.id ∧ ∃ bv, c = [.int .i64 s.dO, .int .i64 s.id, .int .i64 s.e.id, .int .i64 s.e.frm, .int .i64 s.e.to, .int .i64 s.e.kind, bv] ∧ Bytes I bv s.e.body
theorem StepV.mono {I I' : Imm} {s : StepD} {c : List Value} (h : StepV I s c) (hI : Ext I I') : StepV I' s c := by
  obtain ⟨h1, bv, hc, hB⟩ := h
  exact ⟨h1, bv, hc, hB.mono hI⟩

/-- what the law keeps: 'S' all that was sent, 'G' the numbers that are gone -/
structure Good (n : N) (S : List E) (G : List Int) (i : Nat) : Prop where
  ok : OkN n
  l1 : n.es.length ≤ i
  l2 : S.length ≤ i
  l3 : G.length ≤ i
  last : n.last = S.length
  ids : ∀ (k : Nat) e, S[k]? = some e → e.id = k + 1
  sub : ∀ e ∈ n.es, e ∈ S
  gone : ∀ g ∈ G, g ≤ n.last ∧ ∀ e ∈ n.es, e.id ≠ g

theorem Good.next {n : N} {S : List E} {G : List Int} {i : Nat} (h : Good n S G i) : Good n S G (i + 1) :=
  ⟨h.ok, by have := h.l1; omega, by have := h.l2; omega, by have := h.l3; omega, h.last, h.ids, h.sub, h.gone⟩

theorem OkN.snoc {n : N} (h : OkN n) (e : E) (h1 : n.last < 4611686018427387900) : OkN ⟨n.es ++ [{ e with id := n.last + 1 }], n.last + 1⟩ := by
  have h0 := h.last0
  refine ⟨?_, ?_, ?_, by simp only; omega, by simp only; omega⟩
  · rw [List.pairwise_append]
    refine ⟨h.sorted, List.pairwise_singleton .., fun a ha b hb => ?_⟩
    simp only [List.mem_singleton] at hb
    subst hb
    have := h.high a ha
    simp only; omega
  · intro x hx
    rcases List.mem_append.1 hx with hx | hx
    · exact h.low x hx
    · simp only [List.mem_singleton] at hx; subst hx; simp only; omega
  · intro x hx
    rcases List.mem_append.1 hx with hx | hx
    · have := h.high x hx; simp only; omega
    · simp only [List.mem_singleton] at hx; subst hx; simp only; omega

theorem Good.sent {n : N} {S : List E} {G : List Int} {i : Nat} (h : Good n S G i) (hi : i ≤ 300) (e : E) :
    Good ⟨n.es ++ [{ e with id := n.last + 1 }], n.last + 1⟩ (S ++ [{ e with id := n.last + 1 }]) G (i + 1) := by
  have h1 := h.l1; have h2 := h.l2; have h3 := h.l3; have hl := h.last
  refine ⟨h.ok.snoc e (by omega), by simp; omega, by simp; omega, by omega, by simp only [List.length_append, List.length_singleton]; omega, ?_, ?_, ?_⟩
  · intro k x hx
    rw [List.getElem?_append] at hx
    split at hx
    · exact h.ids k x hx
    · rename_i hk
      have : k - S.length = 0 := by
        have := (List.getElem?_eq_some_iff.1 hx).1; simpa using this
      rw [this] at hx
      simp only [List.getElem?_cons_zero, Option.some.injEq] at hx
      subst hx
      simp only; omega
  · intro x hx
    rcases List.mem_append.1 hx with hx | hx
    · exact List.mem_append_left _ (h.sub x hx)
    · exact List.mem_append_right _ hx
  · intro g hg
    have := h.gone g hg
    refine ⟨by simp only; omega, fun x hx => ?_⟩
    rcases List.mem_append.1 hx with hx | hx
    · exact this.2 x hx
    · simp only [List.mem_singleton] at hx; subst hx; simp only; omega

theorem Good.taken {n : N} {S : List E} {G : List Int} {i p : Nat} {e : E} (h : Good n S G i) (hp : n.es[p]? = some e) : Good ⟨n.es.eraseIdx p, n.last⟩ S (G ++ [e.id]) (i + 1) := by
  have h1 := h.l1; have h2 := h.l2; have h3 := h.l3
  have hsub : (n.es.eraseIdx p).Sublist n.es := List.eraseIdx_sublist ..
  refine ⟨⟨h.ok.sorted.sublist hsub, fun x hx => h.ok.low x (hsub.subset hx), fun x hx => h.ok.high x (hsub.subset hx), h.ok.last0, h.ok.last1⟩, ?_, by omega, by simp; omega, h.last, h.ids, fun x hx => h.sub x (hsub.subset hx), ?_⟩
  · have := hsub.length_le; simp only; omega
  · intro g hg
    rcases List.mem_append.1 hg with hg | hg
    · exact ⟨(h.gone g hg).1, fun x hx => (h.gone g hg).2 x (hsub.subset hx)⟩
    · simp only [List.mem_singleton] at hg
      subst hg
      refine ⟨h.ok.high e (List.mem_of_getElem? hp), fun x hx => ?_⟩
      rw [List.mem_eraseIdx_iff_getElem?] at hx
      obtain ⟨q, hq, hx⟩ := hx
      rcases Nat.lt_or_gt_of_ne hq with hlt | hgt
      · have := h.ok.lt hx hp hlt; omega
      · have := h.ok.lt hp hx hgt; omega

end
end Go.Proofs.Ytfeonffmeajpgaa
