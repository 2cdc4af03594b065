/-
  A space is read: its floor, its intents, how many versions.
-/
-- S3
import Derived.Test.YtmnnnoinfhiilaaDoorK
set_option linter.unusedSimpArgs false
set_option linter.unusedVariables false
namespace Go.Proofs.YtmnnnoinfhiilaaDoor
open Go.SL
set_option maxRecDepth 10000

section
variable {ω : Om} {I : Imm} {L : LH} {K : Value → M}

theorem floor_spec {b : Nat} {sp : Sp} (hV : View I L b sp) (hk : K (sv sp.floor) I L) : Cal Tryd.prog ω 42 #[pt b] K I L := by
  obtain ⟨mm, kv, es, clock, ps, hV⟩ := hV
  have hc2 : Cells I L b 2 [.int .i64 sp.floor.fWall, .int .i64 sp.floor.fLogic] := by simpa using hV.head.sub (k := 2) (m := 2)
  refine cal42 ?_
  unfold sh42
  refine newI (fun b1 => ?_)
  try simp only [SSd, List.getElem?_toArray, List.getElem?_cons_zero, List.getElem?_cons_succ, Nat.zero_add, Nat.add_zero, Nat.zero_mul, List.drop_succ_cons, List.drop_zero, List.take_succ_cons, List.take_zero, List.nil_append, List.cons_append, Nat.reduceAdd, List.drop_nil, List.take_nil]
  refine rdNC hc2 (Ext.refl _) rfl ?_
  refine stB rfl rfl (one_all rfl) ?_
  refine rdB rfl ?_
  exact Gh.to L (Gh.done hk)
theorem map_keys {es : Array MapEntry} {clock : Nat} {ps : List Nat} {rows : List Row} (h : MapS es clock (cellsM ps rows)) (hs : SrtK (keysOf rows)) (hl : ps.length = rows.length) : (es.toList.map eKey).Perm (keysOf rows) := by
  refine (List.perm_ext_iff_of_nodup h.nod (SrtK.nodup hs)).2 fun k => ?_
  have hv := h.val k
  have hf : fnd k es.toList 0 = none ↔ k ∉ es.toList.map eKey := fnd_none
  rcases place k hs with ⟨A, r, B, e, hk, hm⟩ | ⟨A, B, e, hm⟩
  · subst e
    obtain ⟨P, p, Q, rfl, hl', _⟩ := split_ps hl
    rw [cellsM_mid hl' hm hk] at hv
    refine ⟨fun _ => by simp [keysOf, ← hk], fun _ => Decidable.byContradiction fun hn => ?_⟩
    rw [hf.2 hn] at hv; cases hv
  · subst e
    rw [cellsM_gap hm.notin] at hv
    refine ⟨fun hm' => ?_, fun hk => ?_⟩
    · cases hc : fnd k es.toList 0 with
      | none => exact absurd hm' (hf.1 hc)
      | some x => rw [hc] at hv; cases hv
    · obtain ⟨x, hx, hxk⟩ := List.mem_map.1 hk
      exact absurd hxk (hm.notin x hx)
theorem ent_row {es : Array MapEntry} {clock : Nat} {b mm : Nat} {kv : Value} {ps : List Nat} {sp : Sp} (hV : ViewF I L b mm kv es clock ps sp) (hs : SrtK (keysOf sp.rows)) {e : MapEntry} (he : e ∈ es.toList) : ∃ r q, rowOf sp.rows (eKey e) = some r ∧ e.val = pt q ∧ CellV I L q r := by
  have hv := hV.map.val (eKey e)
  have hm : eKey e ∈ es.toList.map eKey := List.mem_map_of_mem he
  cases hf : fnd (eKey e) es.toList 0 with
  | none => exact absurd hm (fnd_none.1 hf)
  | some x =>
    obtain ⟨i, u⟩ := x
    rw [hf] at hv
    obtain ⟨n, e', _, h2, h3, h4⟩ := fnd_some hf
    have : e' = e := map_inj hV.map.nod (List.mem_of_getElem? h2) he h3
    subst this
    obtain ⟨g1, g2⟩ | ⟨r, q, g1, g2, g3, g4⟩ := hV.look hs (eKey e')
    · rw [g2] at hv; cases hv
    · rw [g2] at hv
      refine ⟨r, q, g1, ?_, g3⟩
      rw [h4]; exact (Option.some.inj hv).symm
def lenAt (rows : List Row) (k : List UInt8) : Nat := (vsAt rows k).length
theorem lenAt_sum {rows : List Row} (hs : SrtK (keysOf rows)) : ((keysOf rows).map (lenAt rows)).sum = versN rows := by
  have : ∀ (A B : List Row), SrtK (keysOf (A ++ B)) → ((keysOf B).map (lenAt (A ++ B))).sum = versN B := by
    intro A B
    induction B generalizing A with
    | nil => intro _; rfl
    | cons r B ih =>
      intro hs
      have h1 := ih (A ++ [r]) (by simpa using hs)
      rw [List.append_assoc, List.singleton_append] at h1
      have h2 : lenAt (A ++ r :: B) r.key = r.vs.length := by unfold lenAt; rw [vsAt_mid hs.mid rfl]
      simp only [keysOf, List.map_cons, List.sum_cons, versN] at h1 ⊢
      rw [h1, h2]
  exact this [] rows hs
theorem versions_spec {b : Nat} {sp : Sp} (hV : View I L b sp) (hs : SrtK (keysOf sp.rows)) (hn : versN sp.rows ≤ 1000000000) (hk : K (.int .i64 (versN sp.rows : Nat)) I L) : Cal Tryd.prog ω 43 #[pt b] K I L := by
  obtain ⟨mm, kv, es, clock, ps, hV⟩ := hV
  refine cal43 ?_
  unfold sh43
  try simp only [SSd, List.getElem?_toArray, List.getElem?_cons_zero, List.getElem?_cons_succ, Nat.zero_add, Nat.add_zero, Nat.zero_mul, List.drop_succ_cons, List.drop_zero, List.take_succ_cons, List.take_zero, List.nil_append, List.cons_append, Nat.reduceAdd, List.drop_nil, List.take_nil]
  refine rdC (hV.head 0 _ rfl) (Ext.refl _) ?_
  refine rngI hV.at' (fun bi => Gh.done ?_)
  have hsum : ∀ vis : List MapEntry, It es vis → (vis.map fun e => lenAt sp.rows (eKey e)).sum ≤ versN sp.rows := by
    intro vis hi
    have hsub : (vis.map (·.born)).Sublist (vis.map (·.born)) := List.Sublist.refl _
    rw [← lenAt_sum hs, ← ((map_keys hV.map hs hV.len).map (lenAt sp.rows)).sum_nat, List.map_map]
    -- what has been met is a part of all
    have : ∀ (a c : List MapEntry), a.Nodup → (∀ x ∈ a, x ∈ c) → (a.map fun e => lenAt sp.rows (eKey e)).sum ≤ (c.map fun e => lenAt sp.rows (eKey e)).sum := by
      intro a
      induction a with
      | nil => intro c _ _; simp
      | cons x a ih =>
        intro c hn hs
        obtain ⟨C1, C2, rfl⟩ := List.append_of_mem (hs x (List.mem_cons_self ..))
        have := ih (C1 ++ C2) (List.nodup_cons.1 hn).2 (fun y hy => by
          have h1 := hs y (List.mem_cons_of_mem _ hy)
          simp only [List.mem_append, List.mem_cons] at h1 ⊢
          rcases h1 with h1 | rfl | h1
          · exact .inl h1
          · exact absurd hy (List.nodup_cons.1 hn).1
          · exact .inr h1)
        simp only [List.map_append, List.map_cons, List.sum_append, List.sum_cons] at this ⊢
        omega
    exact this vis es.toList (nodup_of_map hi.nod) hi.sub
  refine loop (fun n s I' L' => I' = I ∧ ∃ vis, It es vis ∧ n + vis.length = es.toList.length ∧ s = (.int .i64 ((vis.map fun e => lenAt sp.rows (eKey e)).sum : Nat), ()) ∧ L' = (bi, iterO mm clock vis) :: L) es.toList.length ⟨rfl, [], It.none es, rfl, rfl, rfl⟩ ?_
  rintro n s I' L' ⟨rfl, vis, hi, hnv, rfl, rfl⟩
  unfold sh43_1
  refine nxtI hV.map hV.at' hi (fun hp => Gh.done ?_) (fun e he hi' => Gh.done ?_)
  · try simp only [SSd, List.getElem?_toArray, List.getElem?_cons_zero, List.getElem?_cons_succ, Nat.zero_add, Nat.add_zero, Nat.zero_mul, List.drop_succ_cons, List.drop_zero, List.take_succ_cons, List.take_zero, List.nil_append, List.cons_append, Nat.reduceAdd, List.drop_nil, List.take_nil]
    have : (vis.map fun e => lenAt sp.rows (eKey e)).sum = versN sp.rows := by
      rw [← lenAt_sum hs, ← ((map_keys hV.map hs hV.len).map (lenAt sp.rows)).sum_nat, List.map_map]
      exact (hp.map _).sum_nat
    rw [this]
    exact Gh.to L (Gh.done hk)
  · try simp only [SSd, List.getElem?_toArray, List.getElem?_cons_zero, List.getElem?_cons_succ, Nat.zero_add, Nat.add_zero, Nat.zero_mul, List.drop_succ_cons, List.drop_zero, List.take_succ_cons, List.take_zero, List.nil_append, List.cons_append, Nat.reduceAdd, List.drop_nil, List.take_nil]
    refine ⟨_, entI hV.map hV.at' he, ?_⟩
    obtain ⟨r, q, h1, h2, sl, hC, hVs⟩ := ent_row hV hs he
    simp only [h2, SSd, List.getElem?_toArray, List.getElem?_cons_zero, List.getElem?_cons_succ, Nat.zero_add, Nat.add_zero, Nat.zero_mul, List.drop_succ_cons, List.drop_zero, List.take_succ_cons, List.take_zero, List.nil_append, List.cons_append, Nat.reduceAdd, List.drop_nil, List.take_nil]
    refine rdC (hC 0 _ rfl) (Ext.refl _) ?_
    have hl : lenAt sp.rows (eKey e) = r.vs.length := by unfold lenAt vsAt; rw [h1]
    have hb := hsum _ hi'
    rw [List.map_append, List.sum_append] at hb
    simp only [List.map_cons, List.map_nil, List.sum_cons, List.sum_nil, hl] at hb
    simp only [RL.len hVs, SSd, List.getElem?_toArray, List.getElem?_cons_zero, List.getElem?_cons_succ, Nat.zero_add, Nat.add_zero, Nat.zero_mul, List.drop_succ_cons, List.drop_zero, List.take_succ_cons, List.take_zero, List.nil_append, List.cons_append, Nat.reduceAdd, List.drop_nil, List.take_nil]
    rw [wrap_i64 _ (by omega)]
    have hlt : vis.length + 1 ≤ es.toList.length := by
      have h3 := hi'.nod
      have h4 : (vis ++ [e]).length ≤ es.toList.length := by
        have : ∀ (a c : List MapEntry), a.Nodup → (∀ x ∈ a, x ∈ c) → a.length ≤ c.length := by
          intro a
          induction a with
          | nil => intro c _ _; simp
          | cons x a ih =>
            intro c hn hs
            obtain ⟨C1, C2, rfl⟩ := List.append_of_mem (hs x (List.mem_cons_self ..))
            have := ih (C1 ++ C2) (List.nodup_cons.1 hn).2 (fun y hy => by
              have h1 := hs y (List.mem_cons_of_mem _ hy)
              simp only [List.mem_append, List.mem_cons] at h1 ⊢
              rcases h1 with h1 | rfl | h1
              · exact .inl h1
              · exact absurd hy (List.nodup_cons.1 hn).1
              · exact .inr h1)
            simp at this ⊢; omega
        exact this _ _ (nodup_of_map hi'.nod) hi'.sub
      simpa using h4
    refine Gh.done ⟨n - 1, by omega, rfl, vis ++ [e], hi', by rw [List.length_append, List.length_singleton]; omega, ?_, rfl⟩
    rw [List.map_append, List.sum_append]
    simp [hl]

theorem inR_all (rows : List Row) : inR ⟨[], []⟩ rows = rows := by
  unfold inR
  exact List.filter_eq_self.2 fun r _ => by simp [inB, blt_nil]
abbrev intL (b b1 qs qp D : Nat) (vo : Value) (XO L : LH) : LH := (D, .deferred (some [])) :: (qp, .cells #[.slice none 0 0, .slice none 0 0] 47 (0, 0)) :: (qs, .cells #[pt b] 24 (0, 0)) :: (b1, .cells #[vo] 55 (0, 0)) :: (XO ++ L)
theorem intents_spec {b : Nat} {sp : Sp} (hV : View I L b sp) (hs : SrtK (keysOf sp.rows)) (hlen : sp.rows.length ≤ 1000000000) (hk : ∀ I' v, Ext I I' → RL TIntentV 6 I' [] v (intsOf sp.rows) → K v I' L) :
    Cal Tryd.prog ω 44 #[pt b] K I L := by
  obtain ⟨mm, kv, es, clock, ps, hV⟩ := hV
  have hz : ∀ I', Bytes I' (.slice none 0 0) [] := fun I' => SlI.nil I' 1 none 0
  refine cal44 ?_
  unfold sh44
  refine newI (fun b1 => ?_)
  try simp only [SSd, List.getElem?_toArray, List.getElem?_cons_zero, List.getElem?_cons_succ, Nat.zero_add, Nat.add_zero, Nat.zero_mul, List.drop_succ_cons, List.drop_zero, List.take_succ_cons, List.take_zero, List.nil_append, List.cons_append, Nat.reduceAdd, List.drop_nil, List.take_nil]
  refine call (in0_spec (fun qs qp => ?_))
  refine rngIn (fun l D Lo hy => ?_)
  refine in_spec (J := fun rs I' L' => Ext I I' ∧ ∃ XO vo acc cells, L' = (l, Lo .ready none) :: intL b b1 qs qp D vo XO L ∧ SlO 39 6 XO vo cells acc.length ∧ Recs (TIntentV I') 6 acc cells ∧ acc.length + rs.length ≤ 1000000000 ∧ acc ++ intsOf rs = intsOf sp.rows) (p := ⟨[], []⟩) (v0 := .slice none 0 0) (v1 := .slice none 0 0) (sp := sp) (b := b) (m := mm) (kv := kv) (es := es) (clock := clock) (ps := ps) (Post := _) hs hlen ?_ ?_ ?_ ?_ (fun I' L' h => Gh.done h)
  · rintro rs I' L' ⟨hI, XO, vo, acc, cells, rfl, _⟩
    exact ⟨hV.mono hI (fun x hx => by simp [hx]), Cell.own (b := qs) (cs := #[pt b]) (T := 24) (fr := (0, 0)) (by simp) rfl, own_cells (l := [.slice none 0 0, .slice none 0 0]) (T := 47) (fr := (0, 0)) (by simp) 2, hz _, hz _⟩
  · rintro r rs I' L' q ⟨hI, XO, vo, acc, cells, rfl, hO, hR, hlen2, hA⟩ hrow hcl
    obtain ⟨sl, hCC, hVs⟩ := hV.cellAt hs hrow hcl
    obtain ⟨c0, c1, c14, c3, c4, c5, c15⟩ := itC hCC
    simp only [List.length_cons] at hlen2
    refine hy _ _ _ _ _ (yldM ?_)
    refine begR ?_
    try simp only [SSd, List.getElem?_toArray, List.getElem?_cons_zero, List.getElem?_cons_succ, Nat.zero_add, Nat.add_zero, Nat.zero_mul, List.drop_succ_cons, List.drop_zero, List.take_succ_cons, List.take_zero, List.nil_append, List.cons_append, Nat.reduceAdd, List.drop_nil, List.take_nil]
    refine rdNC c15 hI rfl ?_
    refine newI (fun b2 => ?_)
    refine stB rfl rfl (one_all rfl) ?_
    try simp only [SSd, List.getElem?_toArray, List.getElem?_cons_zero, List.getElem?_cons_succ, Nat.zero_add, Nat.add_zero, Nat.zero_mul, List.drop_succ_cons, List.drop_zero, List.take_succ_cons, List.take_zero, List.nil_append, List.cons_append, Nat.reduceAdd, List.drop_nil, List.take_nil]
    refine rdb ?_
    try simp only [SSd, List.getElem?_toArray, List.getElem?_cons_zero, List.getElem?_cons_succ, Nat.zero_add, Nat.add_zero, Nat.zero_mul, List.drop_succ_cons, List.drop_zero, List.take_succ_cons, List.take_zero, List.nil_append, List.cons_append, Nat.reduceAdd, List.drop_nil, List.take_nil]
    refine br_split (fun e => ?_) (fun e => ?_)
    · have hi : intsOf (r :: rs) = itF r :: intsOf rs := by unfold intsOf; rw [List.filter_cons, if_pos e, List.map_cons]
      rw [hi] at hA
      refine rdb ?_
      refine cvsb (fun ku I3 hI3 hKB => Gh.done ?_)
      obtain ⟨ka, kc, rfl⟩ := Bytes.form hKB
      refine rdb ?_
      try simp only [SSd, List.getElem?_toArray, List.getElem?_cons_zero, List.getElem?_cons_succ, Nat.zero_add, Nat.add_zero, Nat.zero_mul, List.drop_succ_cons, List.drop_zero, List.take_succ_cons, List.take_zero, List.nil_append, List.cons_append, Nat.reduceAdd, List.drop_nil, List.take_nil]
      refine rdP [.int .i64 r.it.ver.fAt.fWall, .int .i64 r.it.ver.fAt.fLogic] rfl rfl ?_
      try simp only [SSd, List.getElem?_toArray, List.getElem?_cons_zero, List.getElem?_cons_succ, Nat.zero_add, Nat.add_zero, Nat.zero_mul, List.drop_succ_cons, List.drop_zero, List.take_succ_cons, List.take_zero, List.nil_append, List.cons_append, Nat.reduceAdd, List.drop_nil, List.take_nil]
      refine rdb ?_
      try simp only [SSd, List.getElem?_toArray, List.getElem?_cons_zero, List.getElem?_cons_succ, Nat.zero_add, Nat.add_zero, Nat.zero_mul, List.drop_succ_cons, List.drop_zero, List.take_succ_cons, List.take_zero, List.nil_append, List.cons_append, Nat.reduceAdd, List.drop_nil, List.take_nil]
      refine rdb ?_
      refine cvsb (fun vu I4 hI4 hVB => Gh.done ?_)
      obtain ⟨va, vc, rfl⟩ := Bytes.form hVB
      try simp only [SSd, List.getElem?_toArray, List.getElem?_cons_zero, List.getElem?_cons_succ, Nat.zero_add, Nat.add_zero, Nat.zero_mul, List.drop_succ_cons, List.drop_zero, List.take_succ_cons, List.take_zero, List.nil_append, List.cons_append, Nat.reduceAdd, List.drop_nil, List.take_nil]
      refine rec_app (R := TIntentV) (X6 := XO) (x := itF r) rfl (by omega) hO (hR.imp fun x c h => h.mono (hI3.trans hI4)) ⟨_, _, rfl, hKB.mono hI4, hVB⟩ rfl (one_all rfl) (by omega) (by omega) (fun X1 X6 v6 cells6 h6 hR6 => ?_)
      obtain ⟨a6, c6, rfl⟩ := h6.form
      refine st1 rfl ?_
      refine endR ?_
      refine Gh.to ((l, Lo .ready none) :: intL b b1 qs qp D (.slice a6 (acc ++ [itF r]).length c6) X6 L) (Gh.done (.inl ⟨rfl, hI.trans (hI3.trans hI4), X6, _, _, cells6, rfl, h6, hR6, by simp; omega, by rw [← hA]; simp⟩))
    · have hi : intsOf (r :: rs) = intsOf rs := by unfold intsOf; rw [List.filter_cons, if_neg (by simp [e])]
      rw [hi] at hA
      refine endR ?_
      refine Gh.to ((l, Lo .ready none) :: intL b b1 qs qp D vo XO L) (Gh.done (.inl ⟨rfl, hI, XO, _, _, cells, rfl, hO, hR, by omega, hA⟩))
  · rintro I' L' ⟨hI, XO, vo, acc, cells, rfl, hO, hR, hlen2, hA⟩
    refine endL (s := .ready) (j := none) (by simp) ?_
    show sh44_3 ω (.slice none 0 0) (.pointer (some ⟨b1, 0, none⟩)) D (fun v => Gh (K v)) _ _
    unfold sh44_3
    refine rdb ?_
    refine tak ?_
    have hA' : acc = intsOf sp.rows := by rw [← hA]; simp [intsOf]
    subst hA'
    refine Gh.to (XO ++ L) (SlO.freeze hO (fun I3 hI3 hSl => Gh.done ?_))
    exact hk I3 _ (hI.trans hI3) (RL.ofI hSl (hR.imp fun x c h => h.mono hI3))
  · rw [inR_all]
    exact ⟨Ext.refl _, [], _, [], [], rfl, SlO.none _ _, rfl, by simpa using hlen, rfl⟩
end
end Go.Proofs.YtmnnnoinfhiilaaDoor
