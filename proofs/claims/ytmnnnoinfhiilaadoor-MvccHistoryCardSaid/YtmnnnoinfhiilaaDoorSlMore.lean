/-
  Bytes and their order, strings as lists, parts of blocks.
-/
import Derived.Test.YtmnnnoinfhiilaaDoorSlEnc
set_option linter.unusedSimpArgs false
set_option linter.unusedVariables false
set_option linter.unusedSectionVars false
namespace Go.SL
/-! ### Strings as lists of bytes -/
abbrev blt : List UInt8 → List UInt8 → Bool := Op.bytesLess
theorem ba_list (a : List UInt8) : (⟨a.toArray⟩ : ByteArray).toList = a := by simp [Go.ByteArray.toList_mk]
theorem ba_size (a : List UInt8) : (⟨a.toArray⟩ : ByteArray).size = a.length := by simp [ByteArray.size]
section
variable (a b : List UInt8)
theorem sEq : binSV .eql (.string ⟨a.toArray⟩) (.string ⟨b.toArray⟩) = some (.bool (a == b)) := by simp only [binSV, ba_list]
theorem sNe : binSV .neq (.string ⟨a.toArray⟩) (.string ⟨b.toArray⟩) = some (.bool (!(a == b))) := by simp only [binSV, ba_list]
theorem sLt : binSV .lss (.string ⟨a.toArray⟩) (.string ⟨b.toArray⟩) = some (.bool (blt a b)) := by simp only [binSV, ba_list]
theorem sLe : binSV .leq (.string ⟨a.toArray⟩) (.string ⟨b.toArray⟩) = some (.bool (blt a b || a == b)) := by simp only [binSV, ba_list]
theorem sGt : binSV .gtr (.string ⟨a.toArray⟩) (.string ⟨b.toArray⟩) = some (.bool (!(blt a b || a == b))) := by simp only [binSV, ba_list]
theorem sGe : binSV .geq (.string ⟨a.toArray⟩) (.string ⟨b.toArray⟩) = some (.bool (!(blt a b))) := by simp only [binSV, ba_list]
theorem sLen : lenSV (.string ⟨a.toArray⟩) = some (.int .i64 a.length) := by rw [lenSV_s, ba_size]
end
theorem stampEq (a b c d : Int) : binAV .eql [(TypeDesc.int .i64, 0), (TypeDesc.int .i64, 1)] (.agg #[.int .i64 a, .int .i64 b]) (.agg #[.int .i64 c, .int .i64 d]) = some (.bool ((a == c) && (b == d))) := by
  simp [binAV, eqAll, eqD]
theorem stampNe (a b c d : Int) : binAV .neq [(TypeDesc.int .i64, 0), (TypeDesc.int .i64, 1)] (.agg #[.int .i64 a, .int .i64 b]) (.agg #[.int .i64 c, .int .i64 d]) = some (.bool !((a == c) && (b == d))) := by
  simp [binAV, eqAll, eqD]
theorem fldv_agg (off n : Nat) (l : List Value) : fldvV true off n (.agg l.toArray) = some (.agg ((l.drop off).take n).toArray) := by
  simp only [fldvV, if_true]
  congr 2
  apply Array.ext'
  simp [List.take_drop, Nat.add_comm]
theorem fldv_one (off n : Nat) (l : List Value) : fldvV false off n (.agg l.toArray) = l[off]? := by
  simp [fldvV]
/-! ### The order of bytes -/
theorem blt_nil (a : List UInt8) : blt a [] = false := by cases a <;> rfl
theorem blt_irrefl : ∀ a : List UInt8, blt a a = false
  | [] => rfl
  | x :: a => by simp [Op.bytesLess, blt_irrefl a]
theorem blt_trans : ∀ {a b c : List UInt8}, blt a b = true → blt b c = true → blt a c = true
  | _, [], _, h, _ => by rw [blt_nil] at h; cases h
  | _, _ :: _, [], _, h => by simp [Op.bytesLess] at h
  | [], _ :: _, _ :: _, _, _ => rfl
  | x :: a, y :: b, z :: c, h1, h2 => by
    simp only [Op.bytesLess, Bool.or_eq_true, Bool.and_eq_true, decide_eq_true_eq, beq_iff_eq] at h1 h2 ⊢
    rcases h1 with h1 | ⟨rfl, h1⟩
    · rcases h2 with h2 | ⟨rfl, h2⟩
      · exact .inl (UInt8.lt_trans h1 h2)
      · exact .inl h1
    · rcases h2 with h2 | ⟨rfl, h2⟩
      · exact .inl h2
      · exact .inr ⟨rfl, blt_trans h1 h2⟩
theorem blt_total : ∀ (a b : List UInt8), blt a b = false → blt b a = false → a = b
  | [], [], _, _ => rfl
  | [], _ :: _, h, _ => by simp [Op.bytesLess] at h
  | _ :: _, [], _, h => by simp [Op.bytesLess] at h
  | x :: a, y :: b, h1, h2 => by
    simp only [Op.bytesLess, Bool.or_eq_false_iff, Bool.and_eq_false_iff, decide_eq_false_iff_not, beq_eq_false_iff_ne, ne_eq] at h1 h2
    have hxy : x = y := by
      rw [← UInt8.toNat_inj]
      have a1 := h1.1
      have a2 := h2.1
      rw [UInt8.lt_iff_toNat_lt] at a1 a2
      omega
    subst hxy
    rw [blt_total a b (h1.2.resolve_left (by simp)) (h2.2.resolve_left (by simp))]
theorem blt_asymm {a b : List UInt8} (h : blt a b = true) : blt b a = false := by
  cases hb : blt b a with
  | false => rfl
  | true => have := blt_trans h hb; rw [blt_irrefl] at this; cases this
theorem ba_get (a : List UInt8) (i : Nat) : (⟨a.toArray⟩ : ByteArray)[i]! = a.getD i 0 := by
  by_cases h : i < a.length
  · have hs : i < (⟨a.toArray⟩ : ByteArray).size := by rw [ba_size]; exact h
    rw [getElem!_pos (⟨a.toArray⟩ : ByteArray) i hs]
    show a.toArray[i]'(by simpa using h) = _
    simp [List.getD, h]
  · have hs : ¬ i < (⟨a.toArray⟩ : ByteArray).size := by rw [ba_size]; exact h
    rw [getElem!_neg (⟨a.toArray⟩ : ByteArray) i hs]
    simp [List.getD, List.getElem?_eq_none (Nat.le_of_not_lt h)]
    rfl
/-! ### bytealg.Compare -/
section
variable {P : Program} {ω : Om} {I : Imm} {L : LH} {K : Value → M}
theorem load_cell {w : World} {b off : Nat} {v : Value} (hs : St ω w I L) (hc : Cell I L b off v) : (load ⟨b, off, none⟩).run P w = .ok v w := by
  have := hc.cell hs
  simp [this]
theorem loadBytes_run {w : World} (hs : St ω w I L) : ∀ (l : List UInt8) (b off : Nat) (acc : ByteArray), Cells I L b off (u8s l) → (Extern.Bytes.loadBytes ⟨b, off, none⟩ l.length acc).run P w = .ok ⟨acc.data ++ l.toArray⟩ w
  | [], b, off, acc, _ => by
    have : (⟨acc.data ++ ([] : List UInt8).toArray⟩ : ByteArray) = acc := by cases acc; simp
    rw [this]
    simp [Extern.Bytes.loadBytes]
  | x :: l, b, off, acc, hc => by
    have h0 : Cell I L b off (.int .u8 x.toNat) := by simpa using hc 0 _ rfl
    have h1 : Cells I L b (off + 1) (u8s l) := fun j u hu => by
      have := hc (j + 1) u (by simpa [u8s] using hu)
      rwa [show off + (j + 1) = off + 1 + j from by omega] at this
    simp only [List.length_cons, Extern.Bytes.loadBytes, Sem.run_bind, load_cell (P := P) hs h0, Result.andThen_ok]
    have e : (Addr.add ⟨b, off, none⟩ 1) = ⟨b, off + 1, none⟩ := add_none _ _ _
    rw [e, loadBytes_run hs l b (off + 1) _ h1]
    congr 1
    have : ((x.toNat : Int).toNat.toUInt8) = x := by simp
    rw [this]
    cases acc
    simp [ByteArray.push]
theorem bytesOf_run {w : World} {v : Value} {l : List UInt8} (hs : St ω w I L) (h : Bytes I v l) : (Extern.Bytes.bytesOf v).run P w = .ok ⟨l.toArray⟩ w := by
  obtain ⟨hl, a, cap, rfl, _, h⟩ := h
  cases a with
  | none =>
    have h0 : l.length = 0 := by
      apply Classical.byContradiction
      intro h0
      obtain ⟨b, off, cs, T, fr, e, _⟩ := h h0
      cases e
    have : l = [] := List.eq_nil_of_length_eq_zero h0
    subst this
    simp only [Extern.Bytes.bytesOf, Sem.run_pure]
    rfl
  | some a =>
    simp only [Extern.Bytes.bytesOf]
    by_cases h0 : l.length = 0
    · have : l = [] := List.eq_nil_of_length_eq_zero h0
      subst this
      simp only [List.length_nil, Extern.Bytes.loadBytes, Sem.run_pure]
      rfl
    · obtain ⟨b, off, cs, T, fr, e, hb, hcs⟩ := h h0
      simp only [Option.some.injEq] at e
      subst e
      rw [loadBytes_run hs l b off .empty (fun j u hu => Cell.imm hb (hcs j u hu))]
      congr 1
      simp [ByteArray.empty, ByteArray.emptyWithCapacity]
      rfl
end
/-! ### Parts of blocks -/
section
variable {I I0 : Imm} {L L' X : LH} {K : Value → M} {b off n T : Nat}
theorem rdPS {l : List Value} {T : Nat} {fr : Nat × Nat} [h : InL b X (.cells l.toArray T fr)] (vs : List Value) (he : (l.drop off).take n = vs) (hl : vs.length = n) (hk : K (.agg vs.toArray) I L) : Rv (some (Stay I0 X)) (ldNR n (.pointer (some ⟨b, off, none⟩))) K I L :=
  rdNS hl (fun I' L' hS j u hu => Cell.own (hS.2 _ h.mem) (by
    subst he
    rw [List.getElem?_take] at hu
    split at hu
    · rw [List.getElem?_drop] at hu; simpa using hu
    · cases hu)) hk
theorem stP {l vs : List Value} (l' : List Value) [h : InL b L (.cells l.toArray T (0, 0))] (he : l.take off ++ (vs ++ l.drop (off + n)) = l') (hl : vs.length = n) (hleb : Nat.ble (off + n) l.length = true) (h1 : vs.all (·.oneCell') = true) [u : UpL b L (.cells l.toArray T (0, 0)) (.cells l'.toArray T (0, 0)) L'] (hk : K undef I L') :
    Sto n (.pointer (some ⟨b, off, none⟩)) (.agg vs.toArray) (gh K) I L := by
  have hle := Nat.le_of_ble_eq_true hleb
  obtain ⟨L1, L2, rfl, rfl⟩ := u.up
  refine ⟨b, off, l.toArray, T, L1, L2, rfl, by simp [Value.cells, hl], by simpa [Value.cells] using one_all h1, by simpa using hle, rfl, ?_⟩
  simp only [Value.cells]
  rw [wr_eq vs l.toArray off (by simp; omega)]
  subst he
  refine Gh.done ?_
  rw [hl]
  simpa using hk
theorem bs_N {v : Value} {l : List UInt8} {I0 : Imm} (h : Bytes I0 v l) (hI : Ext I0 I) (hk : K (.string ⟨l.toArray⟩) I L) : Rv none (bsR v) K I L := ⟨_, Bytes.str (h.mono hI), hk⟩
theorem bs_I {v : Value} {l : List UInt8} {I1 : Imm} {X : LH} (h : Bytes I0 v l) (hI : Ext I0 I1) (hk : K (.string ⟨l.toArray⟩) I L) : Rv (some (Stay I1 X)) (bsR v) K I L :=
  ⟨_, fun I' L' hS => Bytes.str (h.mono (hI.trans hS.1)), hk⟩
end
/-! ### Regions that write to a block -/
class MemB (x : Nat × Obj) (L : LH) : Prop where
  mem : x ∈ L
instance memBRight (x : Nat × Obj) (A L : LH) [h : MemB x L] : MemB x (A ++ L) := ⟨List.mem_append_right _ h.mem⟩
instance memBThere (x y : Nat × Obj) (L : LH) [h : MemB x L] : MemB x (y :: L) := ⟨List.mem_cons_of_mem _ h.mem⟩
instance memBHere (x : Nat × Obj) (L : LH) : MemB x (x :: L) := ⟨List.mem_cons_self ..⟩
instance (priority := 70) lsubConsL (x : Nat × Obj) (X L : LH) [h : MemB x L] [h' : LSub X L] : LSub (x :: X) L := ⟨fun y hy => by
  rcases List.mem_cons.1 hy with rfl | hy
  · exact h.mem
  · exact h'.sub y hy⟩
class DelB (b : Nat) (L : LH) (L' : outParam LH) : Prop where
  sub : ∀ x ∈ L', x ∈ L
instance delBThere (b : Nat) (x : Nat × Obj) (L L' : LH) [h : DelB b L L'] : DelB b (x :: L) (x :: L') := ⟨fun y hy => by
  rcases List.mem_cons.1 hy with rfl | hy
  · exact List.mem_cons_self ..
  · exact List.mem_cons_of_mem _ (h.sub y hy)⟩
instance delBHere (b : Nat) (o : Obj) (L : LH) : DelB b ((b, o) :: L) L := ⟨fun y hy => List.mem_cons_of_mem _ hy⟩
theorem drawW1 {I : Imm} {L X : LH} {B : M → M} {b off : Nat} [h : DelB b L X] (hB : B (Stay I X) I L) : DrawW [.pointer (some ⟨b, off, none⟩)] B I L := draw _ ⟨Ext.refl I, h.sub⟩ hB
theorem drawW2 {I : Imm} {L X Y : LH} {B : M → M} {b off c off' : Nat} [h : DelB b L X] [h' : DelB c X Y] (hB : B (Stay I Y) I L) : DrawW [.pointer (some ⟨b, off, none⟩), .pointer (some ⟨c, off', none⟩)] B I L := draw _ ⟨Ext.refl I, fun x hx => h.sub x (h'.sub x hx)⟩ hB
class PickB (b : Nat) (L : LH) (o : outParam Obj) (R : outParam LH) : Prop where
  perm : L.Perm ((b, o) :: R)
instance pickBRight (b : Nat) (o : Obj) (A L R : LH) [h : PickB b L o R] : PickB b (A ++ L) o (A ++ R) := ⟨(List.Perm.append_left A h.perm).trans List.perm_middle⟩
instance pickBThere (b : Nat) (o : Obj) (y : Nat × Obj) (L R : LH) [h : PickB b L o R] : PickB b (y :: L) o (y :: R) := ⟨(List.Perm.cons y h.perm).trans (List.Perm.swap ..)⟩
instance pickBHere (b : Nat) (o : Obj) (R : LH) : PickB b ((b, o) :: R) o R := ⟨List.Perm.refl _⟩
theorem Gh.pick {I : Imm} {L R : LH} {A : M} (b : Nat) (Y : LH) {o : Obj} [h : PickB b L o R] [h' : SubP Y R] (hA : Gh A I ((b, o) :: Y)) : Gh A I L :=
  Gh.perm h.perm (Gh.perm (L' := (b, o) :: (Y ++ h'.sub.choose)) (List.Perm.cons _ h'.sub.choose_spec) (Gh.drop (L' := (b, o) :: Y) (List.Sublist.cons_cons _ (List.sublist_append_left _ _)) hA))
theorem Cal.pick {P : Program} {ω : Om} {f : FuncId} {args : Array Value} {K : Value → M} {I : Imm} {L R : LH} (b : Nat) {o : Obj} [h : PickB b L o R] (hc : Cal P ω f args K I ((b, o) :: R)) : Cal P ω f args K I L := fun w hs => hc w (hs.perm h.perm)
theorem RL.hd {α : Type} [Inhabited α] {R : Imm → α → List Value → Prop} {I : Imm} {L : LH} {n : Nat} {v : Value} {xs : List α} (h : RL R n I L v xs) (h0 : xs ≠ []) :
    ∃ b off c, ixV n v (.int .i64 0) = some (.pointer (some ⟨b, off, none⟩)) ∧ c.length = n ∧ R I (geti xs 0) c ∧ ∀ I' L', Ext I I' → (∀ x ∈ L, x ∈ L') → Cells I' L' b off c :=
  RL.ix h (by omega) (by have := List.length_pos_iff.2 h0; omega)
/-! ### Lists of records that grow -/
section
variable {α : Type} {R : Imm → α → List Value → Prop} {I : Imm} {T n bytes : Nat} {z : Array Value} {X6 L0 F : LH} {v : Value} {xs : List α} {x : α} {c cells : List Value} {K : Value → M}
theorem rec_app [SplitL X6 L0 F] (hz : z.size = n) (hn : 0 < n) (h6 : SlO T n X6 v cells xs.length) (hR : Recs (R I) n xs cells) (hx : R I x c) (hcl : c.length = n) (h1 : ∀ u ∈ c, u.oneCell' = true) (hb : (xs.length + 1) * bytes ≤ 150000000000000) (hl : xs.length + 1 ≤ 150000000000000)
    (hk : ∀ X1 X6' v' cells', SlO T n X6' v' cells' (xs ++ [x]).length → Recs (R I) n (xs ++ [x]) cells' → K v' I (X6' ++ (X1 ++ F))) :
    BldS T n z 1 [(0, .agg c.toArray)] (gh fun u => App T n bytes z v u (gh K)) I L0 := by
  refine bld_one hz hn (by simpa [Value.cells] using hcl) (fun X1 u hX1 => ?_)
  refine app_own (X := X6) hz h6 (hX1.news (fun x hx => List.mem_append_left _ hx)) (fun u hu => h1 u (by simpa [Value.cells] using hu)) hb hl (fun X' v' hX' => ?_)
  exact hk X1 X' v' _ (by simpa [Value.cells] using hX') (Recs.append hR (Recs.one (by simpa [Value.cells] using hcl) (by simpa [Value.cells] using hx)))
theorem rec_app1 [SplitL X6 L0 F] {w : Value} (hz : z.size = 1) (h6 : SlO T 1 X6 v cells xs.length) (hR : Recs (R I) 1 xs cells) (hx : R I x [w]) (h1 : w.oneCell' = true) (hb : (xs.length + 1) * bytes ≤ 150000000000000) (hl : xs.length + 1 ≤ 150000000000000)
    (hk : ∀ X1 X6' v' cells', SlO T 1 X6' v' cells' (xs ++ [x]).length → Recs (R I) 1 (xs ++ [x]) cells' → K v' I (X6' ++ (X1 ++ F))) :
    BldS T 1 z 1 [(0, w)] (gh fun u => App T 1 bytes z v u (gh K)) I L0 := by
  have hc : w.cells = #[w] := by cases w <;> first | rfl | simp [Value.oneCell'] at h1
  refine bld_one hz (by omega) (by rw [hc]; rfl) (fun X1 u hX1 => ?_)
  rw [hc] at hX1
  refine app_own (X := X6) hz h6 (hX1.news (fun x hx => List.mem_append_left _ hx)) (by simpa using h1) hb hl (fun X' v' hX' => ?_)
  exact hk X1 X' v' _ (by simpa using hX') (Recs.append hR (Recs.one rfl hx))
theorem RL.ofO {A : M} {X F : LH} (hm : ∀ {I I' : Imm} {x : α} {c : List Value}, R I x c → Ext I I' → R I' x c) (h : SlO T n X v cells xs.length) (hR : Recs (R I) n xs cells) (hk : ∀ I', Ext I I' → RL R n I' [] v xs → Gh A I' F) : Gh A I (X ++ F) :=
  SlO.freeze h (fun I' hI hS => hk I' hI (RL.ofI hS (hR.imp fun _ _ h => hm h hI)))
end
end Go.SL
