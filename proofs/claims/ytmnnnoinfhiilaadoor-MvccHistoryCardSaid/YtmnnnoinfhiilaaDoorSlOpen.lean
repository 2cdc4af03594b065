/-
  What came in: the reading of an argument, in the words of the logic. A law's frame.
-/
import Derived.Test.YtmnnnoinfhiilaaDoorSlData
import GoSem.ClaimJoined
import Derived.Below
import Derived.WideShapes
set_option linter.unusedSimpArgs false
set_option linter.unusedVariables false
set_option linter.unusedSectionVars false
namespace Go.SL
def heapI (w : World) : Imm := fun b => w.heap[b]?
def omOf (w : World) : Om := ⟨w.tape, w.os, w.output⟩
theorem st_start (w : World) : St (omOf w) w (heapI w) [] := ⟨fun _ _ h => h, fun _ _ h => (List.not_mem_nil h).elim, List.nodup_nil, fun _ _ h => (List.not_mem_nil h).elim, rfl, rfl, rfl⟩
theorem law_below {P : Program} {f : FuncId} {args : Array Value} {w : World} (h : ∀ ω, Cal P ω f args (fun v I' _ => v = .bool true ∧ Ext (heapI w) I') (heapI w) []) :
    Calls P f args w fun e w' => e = .returned (.bool true) ∧ RowKit.Below w.heap.size w w' := by
  refine (h (omOf w) w (st_start w)).mono ?_
  rintro e w' ⟨v, I', L', rfl, hs, rfl, hI⟩
  have hblk : ∀ k, k < w.heap.size → w'.heap[k]? = w.heap[k]? := by
    intro k hk
    have h1 : heapI w k = some w.heap[k] := Array.getElem?_eq_getElem hk
    rw [hs.imm k _ (hI k _ h1)]
    exact h1.symm
  refine ⟨rfl, hs.os, hs.tape, hs.out, ?_, hblk⟩
  rcases Nat.eq_zero_or_pos w.heap.size with h0 | h0
  · omega
  · have := hblk (w.heap.size - 1) (by omega)
    rw [Array.getElem?_eq_getElem (by omega : w.heap.size - 1 < w.heap.size)] at this
    have := (Array.getElem?_eq_some_iff.1 this).1
    omega
def TrR (rz : Nat) (P : Program) (w : World) (T : TypeId) (cs : List Value) : Prop :=
  ∃ (H : Type) (enc : TypeId × Value → H) (fuel : Nat) (d : DataW H) (ps : List MemPlace), DataW.trod enc P w 0 (fun _ => true) true fuel T cs = some (d, ps) ∧ (d.weights P T).all (· ≤ rz) = true
abbrev Tr := TrR reachBytes
section
variable {rz : Nat} {P : Program} {w : World} {T : TypeId} {cs : List Value}
theorem tr_int {k : IntKind} (hu : P.underlying T = some (.int k)) (h : TrR rz P w T cs) : ∃ n, cs = [.int k n] ∧ (Lit.int k n).wf = true := by
  obtain ⟨H, enc, fuel, d, ps, h, _⟩ := h
  cases fuel with
  | zero => simp [DataW.trod] at h
  | succ fuel =>
    simp only [DataW.trod, hu] at h
    split at h <;> simp_all
theorem tr_bool (hu : P.underlying T = some .bool) (h : TrR rz P w T cs) : ∃ b, cs = [.bool b] := by
  obtain ⟨H, enc, fuel, d, ps, h, _⟩ := h
  cases fuel with
  | zero => simp [DataW.trod] at h
  | succ fuel =>
    simp only [DataW.trod, hu] at h
    split at h <;> simp_all
theorem tr_struct {fs : Array Field} (hu : P.underlying T = some (.struct fs)) (h : TrR rz P w T cs) : cs.length = P.cellsOf T ∧ ∀ f ∈ fs.toList, TrR rz P w f.type ((cs.drop f.offset).take (P.cellsOf f.type)) := by
  obtain ⟨H, enc, fuel, d, ps, h, hw⟩ := h
  cases fuel with
  | zero => simp [DataW.trod] at h
  | succ fuel =>
    have h' : (if cs.length = P.cellsOf T then (fs.toList.mapM fun f => DataW.trod enc P w 0 (fun _ => true) true fuel f.type ((cs.drop f.offset).take (P.cellsOf f.type))).map fun xs => (DataW.agg (xs.map (·.1)), xs.flatMap (·.2)) else none) = some (d, ps) := by
      rw [← h]
      simp only [DataW.trod, hu]
    split at h'
    · rename_i hlen
      refine ⟨hlen, ?_⟩
      obtain ⟨xs, hxs, hd⟩ := Option.map_eq_some_iff.1 h'
      simp only [Prod.mk.injEq] at hd
      obtain ⟨rfl, _⟩ := hd
      simp only [DataW.weights, hu] at hw
      have key : ∀ (l : List Field) (xs : List (DataW H × List MemPlace)), (l.mapM fun f => DataW.trod enc P w 0 (fun _ => true) true fuel f.type ((cs.drop f.offset).take (P.cellsOf f.type))) = some xs →
          (DataW.weightsEach P (l.map (·.type)) (xs.map (·.1))).all (· ≤ rz) = true → ∀ f ∈ l, TrR rz P w f.type ((cs.drop f.offset).take (P.cellsOf f.type)) := by
        intro l
        induction l with
        | nil => intro xs _ _ f hf; cases hf
        | cons g l ih =>
          intro xs hxs hw f hf
          simp only [List.mapM_cons, Option.bind_eq_bind, Option.bind_eq_some_iff] at hxs
          obtain ⟨y, hy, ys, hys, he⟩ := hxs
          simp only [Option.pure_def, Option.some.injEq] at he
          subst he
          simp only [List.map_cons, DataW.weightsEach, List.all_append, Bool.and_eq_true] at hw
          rcases List.mem_cons.1 hf with rfl | hf
          · exact ⟨H, enc, fuel, y.1, y.2, hy, hw.1⟩
          · exact ih ys hys hw.2 f hf
      exact key fs.toList xs hxs hw
    · cases h'
theorem mapM_len {α β : Type} {f : α → Option β} : ∀ (l : List α) (r : List β), l.mapM f = some r → r.length = l.length
  | [], r, h => by simp at h; subst h; rfl
  | x :: l, r, h => by
    simp only [List.mapM_cons, Option.bind_eq_bind, Option.bind_eq_some_iff] at h
    obtain ⟨y, _, ys, hys, he⟩ := h
    simp only [Option.pure_def, Option.some.injEq] at he
    subst he
    simp [mapM_len l ys hys]
theorem mapM_get {α β : Type} {f : α → Option β} : ∀ (l : List α) (r : List β), l.mapM f = some r → ∀ (i : Nat) (x : α), l[i]? = some x → ∃ y, r[i]? = some y ∧ f x = some y
  | [], r, h, i, x, hx => by simp at hx
  | z :: l, r, h, i, x, hx => by
    simp only [List.mapM_cons, Option.bind_eq_bind, Option.bind_eq_some_iff] at h
    obtain ⟨y, hy, ys, hys, he⟩ := h
    simp only [Option.pure_def, Option.some.injEq] at he
    subst he
    cases i with
    | zero => simp at hx; subst hx; exact ⟨y, rfl, hy⟩
    | succ i => simpa using mapM_get l ys hys i x (by simpa using hx)
theorem tr_slice {e : TypeId} (hu : P.underlying T = some (.slice e)) (h : TrR rz P w T cs) :
    ∃ a len cap, cs = [.slice a len cap] ∧ len ≤ cap ∧ len * P.bytesOf e ≤ rz ∧
      ((a = none ∧ len = 0 ∧ cap = 0) ∨ ∃ ad, a = some ad ∧ ∀ i, i < len → ∃ ec, w.cells? 0 (ad.add (i * P.cellsOf e)) (P.cellsOf e) = some ec ∧ TrR rz P w e ec) := by
  obtain ⟨H, enc, fuel, d, ps, h, hw⟩ := h
  cases fuel with
  | zero => simp [DataW.trod] at h
  | succ fuel =>
    simp only [DataW.trod, hu] at h
    split at h <;> try (simp_all; done)
    · exact ⟨none, 0, 0, rfl, Nat.le_refl _, by simp, .inl ⟨rfl, rfl, rfl⟩⟩
    · rename_i e' ad len cap he
      simp only [Option.some.injEq, TypeDesc.slice.injEq] at he
      subst he
      split at h
      · rename_i hc
        simp only [Option.bind_eq_some_iff] at h
        obtain ⟨elems, hel, h⟩ := h
        simp only [if_true, Option.map_eq_some_iff] at h
        obtain ⟨rest, hrest, h⟩ := h
        simp only [Prod.mk.injEq] at h
        obtain ⟨rfl, _⟩ := h
        simp only [DataW.weights, hu, List.all_cons, List.all_append, Bool.and_eq_true, decide_eq_true_eq, List.length_map] at hw
        have hlen : elems.length = len := by have := mapM_len _ _ hel; simpa using this
        refine ⟨some ad, len, cap, rfl, hc.2.1, ?_, .inr ⟨ad, rfl, ?_⟩⟩
        · refine Nat.le_trans ?_ hw.1
          exact Nat.mul_le_mul_right _ (by omega)
        · have key : ∀ (l : List Nat) (xs : List (DataW H × List MemPlace)), (l.mapM fun i => (w.cells? 0 (ad.add (i * P.cellsOf e)) (P.cellsOf e)).bind (DataW.trod enc P w 0 (fun _ => true) true fuel e)) = some xs →
              (DataW.weightsAll P e (xs.map (·.1))).all (· ≤ rz) = true → ∀ i ∈ l, ∃ ec, w.cells? 0 (ad.add (i * P.cellsOf e)) (P.cellsOf e) = some ec ∧ TrR rz P w e ec := by
            intro l
            induction l with
            | nil => intro xs _ _ f hf; cases hf
            | cons g l ih =>
              intro xs hxs hw i hi
              simp only [List.mapM_cons, Option.bind_eq_bind, Option.bind_eq_some_iff] at hxs
              obtain ⟨y, ⟨ec, hec, hy⟩, ys, hys, he⟩ := hxs
              simp only [Option.pure_def, Option.some.injEq] at he
              subst he
              simp only [List.map_cons, DataW.weightsAll, List.all_append, Bool.and_eq_true] at hw
              rcases List.mem_cons.1 hi with rfl | hi
              · exact ⟨ec, hec, H, enc, fuel, y.1, y.2, hy, hw.1⟩
              · exact ih ys hys hw.2 i hi
          exact fun i hi => key (List.range len) elems hel hw.2.1 i (List.mem_range.2 hi)
      · cases h
theorem tr_slI {e : TypeId} (hu : P.underlying T = some (.slice e)) (hn : 0 < P.cellsOf e) {v : Value} (h : TrR rz P w T [v]) :
    ∃ cells len, SlI (heapI w) (P.cellsOf e) v cells len ∧ len * P.bytesOf e ≤ rz ∧ ∀ i, i < len → TrR rz P w e ((cells.drop (i * P.cellsOf e)).take (P.cellsOf e)) := by
  obtain ⟨a, len, cap, hcs, hle, hb, h2⟩ := tr_slice hu h
  simp only [List.cons.injEq, and_true] at hcs
  subst hcs
  clear h
  have h := h2
  generalize hN : P.cellsOf e = n at *
  rcases h with ⟨rfl, rfl, rfl⟩ | ⟨ad, rfl, h⟩
  · exact ⟨[], 0, SlI.nil _ _ _ _, by simp, fun i hi => by omega⟩
  · by_cases h0 : len = 0
    · subst h0
      exact ⟨[], 0, SlI.nil _ _ _ _, by simp, fun i hi => by omega⟩
    · have hcell : ∀ i, i < len → ∀ j, j < n → ∃ u, w.cell? ((ad.add (i * n)).add j) = some u := by
        intro i hi j hj
        obtain ⟨ec, hec, _⟩ := h i hi
        unfold World.cells? at hec
        split at hec
        · obtain ⟨y, _, hy⟩ := mapM_get _ _ hec j j (List.getElem?_range hj)
          exact ⟨y, hy⟩
        · cases hec
      obtain ⟨u0, hu0⟩ := hcell 0 (by omega) 0 hn
      obtain ⟨b, off, sp⟩ := ad
      have hsp : sp = none ∧ ∃ c T' fr, w.heap[b]? = some (.cells c T' fr) := by
        simp only [Addr.add, Nat.zero_mul, if_true] at hu0
        unfold World.cell? at hu0
        split at hu0
        · rename_i c T' fr hb
          simp only at hu0 hb
          cases sp with
          | none => exact ⟨rfl, c, T', fr, hb⟩
          | some s => simp at hu0
        · cases hu0
      obtain ⟨rfl, c, T', fr, hblk⟩ := hsp
      have hget : ∀ i, i < len → ∀ j, j < n → ∃ u, c[off + i * n + j]? = some u := by
        intro i hi j hj
        obtain ⟨u, hu⟩ := hcell i hi j hj
        rw [add_none, add_none] at hu
        simp only [World.cell?, hblk] at hu
        exact ⟨u, by simpa using hu⟩
      have hlast := hget (len - 1) (by omega) (n - 1) (by omega)
      obtain ⟨ul, hul⟩ := hlast
      have hsz : off + len * n ≤ c.size := by
        have := (Array.getElem?_eq_some_iff.1 hul).1
        have e1 : (len - 1) * n + n = len * n := by rw [← Nat.succ_mul]; congr 1; omega
        omega
      have hclen : ((c.toList.drop off).take (len * n)).length = len * n := by
        rw [List.length_take, List.length_drop, Array.length_toList]; omega
      refine ⟨(c.toList.drop off).take (len * n), len, ⟨hclen, _, cap, rfl, hle, fun _ => ⟨b, off, c, T', fr, rfl, hblk, fun j u hu => ?_⟩⟩, hb, fun i hi => ?_⟩
      · rw [List.getElem?_take] at hu
        split at hu
        · rw [List.getElem?_drop] at hu
          simpa using hu
        · cases hu
      · obtain ⟨ec, hec, htr⟩ := h i hi
        have : ((((c.toList.drop off).take (len * n)).drop (i * n)).take n) = ec := by
          unfold World.cells? at hec
          split at hec
          · apply List.ext_getElem?
            intro j
            have hln := mapM_len _ _ hec
            simp only [List.length_range] at hln
            have hin : i * n + n ≤ len * n := by rw [← Nat.succ_mul]; exact Nat.mul_le_mul_right n hi
            by_cases hj : j < n
            · obtain ⟨y, hy, hcy⟩ := mapM_get _ _ hec j j (List.getElem?_range hj)
              rw [hy, List.getElem?_take, if_pos hj, List.getElem?_drop, List.getElem?_take, if_pos (by omega), List.getElem?_drop]
              rw [add_none, add_none] at hcy
              simp only [World.cell?, hblk] at hcy
              simp only [Array.getElem?_toList]
              rw [show off + (i * n + j) = off + i * n + j from by omega]
              simpa using hcy
            · rw [List.getElem?_take, if_neg hj]
              rw [List.getElem?_eq_none (by omega)]
          · cases hec
        rw [this]
        exact htr
theorem recs_of {α : Type} {R : α → List Value → Prop} {n : Nat} : ∀ (len : Nat) (cells : List Value), cells.length = len * n → (∀ i, i < len → ∃ x, R x ((cells.drop (i * n)).take n)) → ∃ xs : List α, xs.length = len ∧ Recs R n xs cells
  | 0, cells, hl, _ => ⟨[], rfl, List.eq_nil_of_length_eq_zero (by simpa using hl)⟩
  | len + 1, cells, hl, h => by
    obtain ⟨x, hx⟩ := h 0 (by omega)
    simp only [Nat.zero_mul, List.drop_zero] at hx
    have hl' : cells.length = len * n + n := by rw [hl, Nat.add_mul]; omega
    obtain ⟨xs, hxl, hR⟩ := recs_of (R := R) (n := n) len (cells.drop n) (by rw [List.length_drop]; omega) (fun i hi => by
      obtain ⟨y, hy⟩ := h (i + 1) (by omega)
      refine ⟨y, ?_⟩
      rw [List.drop_drop]
      rwa [show n + i * n = (i + 1) * n from by rw [Nat.add_mul]; omega])
    exact ⟨x :: xs, by simp [hxl], by rw [List.length_take]; omega, hx, hR⟩
theorem tr_recs {α : Type} {R : α → List Value → Prop} {e : TypeId} (hu : P.underlying T = some (.slice e)) (hn : 0 < P.cellsOf e) {v : Value} (h : TrR rz P w T [v]) (hR : ∀ c, TrR rz P w e c → ∃ x, R x c) :
    ∃ cells, ∃ xs : List α, SlI (heapI w) (P.cellsOf e) v cells xs.length ∧ Recs R (P.cellsOf e) xs cells ∧ xs.length * P.bytesOf e ≤ rz := by
  obtain ⟨cells, len, hS, hb, hT⟩ := tr_slI hu hn h
  obtain ⟨xs, hxl, hRR⟩ := recs_of (R := R) len cells hS.1 (fun i hi => hR _ (hT i hi))
  subst hxl
  exact ⟨cells, xs, hS, hRR, hb⟩
theorem wf_u8 {n : Int} (h : (Lit.int .u8 n).wf = true) : 0 ≤ n ∧ n ≤ 255 := by
  have e1 : IntKind.u8.min = 0 := by decide
  have e2 : IntKind.u8.max = 255 := by decide
  simp only [Lit.wf, e1, e2, Bool.and_eq_true, decide_eq_true_eq] at h
  exact h
theorem tr_bytes {e : TypeId} (hu : P.underlying T = some (.slice e)) (he : P.underlying e = some (.int .u8)) (hn : P.cellsOf e = 1) (hb : P.bytesOf e = 1) {v : Value} (h : TrR rz P w T [v]) :
    ∃ l, Bytes (heapI w) v l ∧ l.length ≤ rz := by
  obtain ⟨cells, xs, hS, hR, hlen⟩ := tr_recs (R := fun (x : UInt8) c => c = [.int .u8 x.toNat]) hu (by omega) h (fun c hc => by
    obtain ⟨n, rfl, hwf⟩ := tr_int he hc
    obtain ⟨h1, h2⟩ := wf_u8 hwf
    refine ⟨UInt8.ofNat n.toNat, ?_⟩
    simp; omega)
  rw [hn] at hS hR
  refine ⟨xs, ?_, by rw [hb] at hlen; omega⟩
  have : cells = u8s xs := by
    clear hS hlen
    induction xs generalizing cells with
    | nil => exact hR
    | cons x xs ih =>
      obtain ⟨h1, h2, h3⟩ := hR
      have := ih _ h3
      rw [← List.take_append_drop 1 cells, h2, this]
      rfl
  subst this
  exact hS
/-! ### An argument -/
variable {r : Reach} {base : Nat} {v : Value}
theorem top_int {k : IntKind} (hu : P.underlying T = some (.int k)) (o : Value.okWide P w r base T v) (t : TrR rz P w T v.cells.toList) : ∃ n, v = .int k n ∧ (Lit.int k n).wf = true := by
  obtain ⟨n, rfl⟩ := WideShapes.okWide_int hu o
  obtain ⟨m, hm, hwf⟩ := tr_int hu t
  simp only [Value.cells, List.cons.injEq, Value.int.injEq, true_and, and_true] at hm
  subst hm
  exact ⟨n, rfl, hwf⟩
theorem top_slice {e : TypeId} (hu : P.underlying T = some (.slice e)) (o : Value.okWide P w r base T v) (t : TrR rz P w T v.cells.toList) : TrR rz P w T [v] := by
  obtain ⟨a, len, cap, rfl⟩ := WideShapes.okWide_slice hu o
  exact t
end
end Go.SL
