/-
  Bytes and their order, strings as lists, parts of blocks.
-/
import Derived.Test.YtmnnnoinfhiilaaDoorSlEnc
set_option linter.unusedSimpArgs false
set_option linter.unusedVariables false
set_option linter.unusedSectionVars false
namespace Go.SL

/-! ### Strings as lists of bytes -/
abbrev blt : List UInt8 → List UInt8 → Bool := Op.bytesLess
theorem ba_list (a : List UInt8) : (⟨a.toArray⟩ : ByteArray).toList = a := by simp [Go.ByteArray.toList_mk]
theorem ba_size (a : List UInt8) : (⟨a.toArray⟩ : ByteArray).size = a.length := by simp [ByteArray.size]
section
variable (a b : List UInt8)
theorem sEq : binSV .eql (.string ⟨a.toArray⟩) (.string ⟨b.toArray⟩) = some (.bool (a == b)) := by simp only [binSV, ba_list]
theorem sNe : binSV .neq (.string ⟨a.toArray⟩) (.string ⟨b.toArray⟩) = some (.bool (!(a == b))) := by simp only [binSV, ba_list]
theorem sLt : binSV .lss (.string ⟨a.toArray⟩) (.string ⟨b.toArray⟩) = some (.bool (blt a b)) := by simp only [binSV, ba_list]
theorem sLe : binSV .leq (.string ⟨a.toArray⟩) (.string ⟨b.toArray⟩) = some (.bool (blt a b || a == b)) := by simp only [binSV, ba_list]
theorem sGt : binSV .gtr (.string ⟨a.toArray⟩) (.string ⟨b.toArray⟩) = some (.bool (!(blt a b || a == b))) := by simp only [binSV, ba_list]
theorem sGe : binSV .geq (.string ⟨a.toArray⟩) (.string ⟨b.toArray⟩) = some (.bool (!(blt a b))) := by simp only [binSV, ba_list]
theorem sAdd (h : a.length + b.length ≤ 9223372036854775807) : binSV .add (.string ⟨a.toArray⟩) (.string ⟨b.toArray⟩) = some (.string ⟨(a ++ b).toArray⟩) := by
  simp only [binSV, ba_size]
  rw [if_pos h]
  have : (⟨a.toArray⟩ : ByteArray) ++ ⟨b.toArray⟩ = ⟨(a ++ b).toArray⟩ := by
    apply ByteArray.ext
    simp
  rw [this]
theorem sLen : lenSV (.string ⟨a.toArray⟩) = some (.int .i64 a.length) := by rw [lenSV_s, ba_size]
end
theorem stampEq (a b c d : Int) : binAV .eql [(TypeDesc.int .i64, 0), (TypeDesc.int .i64, 1)] (.agg #[.int .i64 a, .int .i64 b]) (.agg #[.int .i64 c, .int .i64 d]) = some (.bool ((a == c) && (b == d))) := by
  simp [binAV, eqAll, eqD]
theorem stampNe (a b c d : Int) : binAV .neq [(TypeDesc.int .i64, 0), (TypeDesc.int .i64, 1)] (.agg #[.int .i64 a, .int .i64 b]) (.agg #[.int .i64 c, .int .i64 d]) = some (.bool !((a == c) && (b == d))) := by
  simp [binAV, eqAll, eqD]

theorem fldv_agg (off n : Nat) (l : List Value) : fldvV true off n (.agg l.toArray) = some (.agg ((l.drop off).take n).toArray) := by
  simp only [fldvV, if_true]
  congr 2
  apply Array.ext'
  simp [List.take_drop, Nat.add_comm]
theorem fldv_one (off n : Nat) (l : List Value) : fldvV false off n (.agg l.toArray) = l[off]? := by
  simp [fldvV]

/-! ### The order of bytes -/
theorem blt_nil (a : List UInt8) : blt a [] = false := by cases a <;> rfl
theorem blt_irrefl : ∀ a : List UInt8, blt a a = false
  | [] => rfl
  | x :: a => by simp [Op.bytesLess, blt_irrefl a]
theorem blt_trans : ∀ {a b c : List UInt8}, blt a b = true → blt b c = true → blt a c = true
  | _, [], _, h, _ => by rw [blt_nil] at h; cases h
  | _, _ :: _, [], _, h => by simp [Op.bytesLess] at h
  | [], _ :: _, _ :: _, _, _ => rfl
  | x :: a, y :: b, z :: c, h1, h2 => by
    simp only [Op.bytesLess, Bool.or_eq_true, Bool.and_eq_true, decide_eq_true_eq, beq_iff_eq] at h1 h2 ⊢
    rcases h1 with h1 | ⟨rfl, h1⟩
    · rcases h2 with h2 | ⟨rfl, h2⟩
      · exact .inl (UInt8.lt_trans h1 h2)
      · exact .inl h1
    · rcases h2 with h2 | ⟨rfl, h2⟩
      · exact .inl h2
      · exact .inr ⟨rfl, blt_trans h1 h2⟩
theorem blt_total : ∀ (a b : List UInt8), blt a b = false → blt b a = false → a = b
  | [], [], _, _ => rfl
  | [], _ :: _, h, _ => by simp [Op.bytesLess] at h
  | _ :: _, [], _, h => by simp [Op.bytesLess] at h
  | x :: a, y :: b, h1, h2 => by
    simp only [Op.bytesLess, Bool.or_eq_false_iff, Bool.and_eq_false_iff, decide_eq_false_iff_not, beq_eq_false_iff_ne, ne_eq] at h1 h2
    have hxy : x = y := by
      rw [← UInt8.toNat_inj]
      have a1 := h1.1
      have a2 := h2.1
      rw [UInt8.lt_iff_toNat_lt] at a1 a2
      omega
    subst hxy
    rw [blt_total a b (h1.2.resolve_left (by simp)) (h2.2.resolve_left (by simp))]
theorem blt_asymm {a b : List UInt8} (h : blt a b = true) : blt b a = false := by
  cases hb : blt b a with
  | false => rfl
  | true => have := blt_trans h hb; rw [blt_irrefl] at this; cases this

def bcmp (a b : List UInt8) : Int := if blt a b then -1 else if blt b a then 1 else 0
theorem find_range_succ (p : Nat → Bool) (n : Nat) : (List.range (n + 1)).find? p = if p 0 then some 0 else ((List.range n).find? fun i => p (i + 1)).map (· + 1) := by
  rw [List.range_succ_eq_map, List.find?_cons]
  cases h : p 0
  · simp only [List.find?_map, Bool.false_eq_true, if_false]
    rfl
  · simp
def cmpL (a b : List UInt8) : Int := match (List.range (min a.length b.length)).find? fun i => a.getD i 0 != b.getD i 0 with
  | some i => if a.getD i 0 < b.getD i 0 then -1 else 1
  | none => if a.length < b.length then -1 else if a.length > b.length then 1 else 0
theorem ba_get (a : List UInt8) (i : Nat) : (⟨a.toArray⟩ : ByteArray)[i]! = a.getD i 0 := by
  by_cases h : i < a.length
  · have hs : i < (⟨a.toArray⟩ : ByteArray).size := by rw [ba_size]; exact h
    rw [getElem!_pos (⟨a.toArray⟩ : ByteArray) i hs]
    show a.toArray[i]'(by simpa using h) = _
    simp [List.getD, h]
  · have hs : ¬ i < (⟨a.toArray⟩ : ByteArray).size := by rw [ba_size]; exact h
    rw [getElem!_neg (⟨a.toArray⟩ : ByteArray) i hs]
    simp [List.getD, List.getElem?_eq_none (Nat.le_of_not_lt h)]
    rfl
theorem cmp_cmpL (a b : List UInt8) : Extern.BytealgCompare.cmp ⟨a.toArray⟩ ⟨b.toArray⟩ = cmpL a b := by
  unfold Extern.BytealgCompare.cmp cmpL
  simp only [ba_size, ba_get]
  rfl
theorem cmpL_bcmp : ∀ a b : List UInt8, cmpL a b = bcmp a b
  | [], [] => rfl
  | [], _ :: _ => by simp [cmpL, bcmp, Op.bytesLess]
  | _ :: _, [] => by simp [cmpL, bcmp, Op.bytesLess]
  | x :: a, y :: b => by
    have ih := cmpL_bcmp a b
    unfold cmpL at ih ⊢
    simp only [List.length_cons]
    rw [show min (a.length + 1) (b.length + 1) = min a.length b.length + 1 from by omega, find_range_succ]
    simp only [List.getD_cons_zero, List.getD_cons_succ]
    by_cases hxy : x = y
    · subst hxy
      simp only [bne_self_eq_false, Bool.false_eq_true, if_false]
      have e : bcmp (x :: a) (x :: b) = bcmp a b := by simp [bcmp, Op.bytesLess]
      rw [e, ← ih]
      cases (List.range (min a.length b.length)).find? fun i => a.getD i 0 != b.getD i 0 with
      | none => simp
      | some i => simp
    · have hne : (x != y) = true := by simpa using hxy
      simp only [hne, if_true, List.getD_cons_zero]
      by_cases hlt : x < y
      · rw [if_pos hlt]
        simp [bcmp, Op.bytesLess, hlt]
      · rw [if_neg hlt]
        have hgt : y < x := by
          rw [UInt8.lt_iff_toNat_lt] at hlt ⊢
          have : x.toNat ≠ y.toNat := fun e => hxy (UInt8.toNat_inj.1 e)
          omega
        have hyx : ¬ y = x := fun e => hxy e.symm
        simp [bcmp, Op.bytesLess, hlt, hgt, hxy]
theorem bcmp_lt (a b : List UInt8) : decide (bcmp a b < 0) = blt a b := by
  unfold bcmp
  cases blt a b <;> cases blt b a <;> rfl
theorem bcmp_ge (a b : List UInt8) : decide (0 ≤ bcmp a b) = !blt a b := by
  unfold bcmp
  cases blt a b <;> cases blt b a <;> rfl
theorem bcmp_gt (a b : List UInt8) : decide (0 < bcmp a b) = blt b a := by
  unfold bcmp
  cases h1 : blt a b
  · cases blt b a <;> rfl
  · rw [blt_asymm h1]; rfl
theorem bcmp_le (a b : List UInt8) : decide (bcmp a b ≤ 0) = !blt b a := by
  unfold bcmp
  cases h1 : blt a b
  · cases blt b a <;> rfl
  · rw [blt_asymm h1]; rfl

/-! ### bytealg.Compare -/
section
variable {P : Program} {ω : Om} {I : Imm} {L : LH} {K : Value → M}
theorem load_cell {w : World} {b off : Nat} {v : Value} (hs : St ω w I L) (hc : Cell I L b off v) : (load ⟨b, off, none⟩).run P w = .ok v w := by
  have := hc.cell hs
  simp [this]
theorem loadBytes_run {w : World} (hs : St ω w I L) : ∀ (l : List UInt8) (b off : Nat) (acc : ByteArray), Cells I L b off (u8s l) → (Extern.Bytes.loadBytes ⟨b, off, none⟩ l.length acc).run P w = .ok ⟨acc.data ++ l.toArray⟩ w
  | [], b, off, acc, _ => by
    have : (⟨acc.data ++ ([] : List UInt8).toArray⟩ : ByteArray) = acc := by cases acc; simp
    rw [this]
    simp [Extern.Bytes.loadBytes]
  | x :: l, b, off, acc, hc => by
    have h0 : Cell I L b off (.int .u8 x.toNat) := by simpa using hc 0 _ rfl
    have h1 : Cells I L b (off + 1) (u8s l) := fun j u hu => by
      have := hc (j + 1) u (by simpa [u8s] using hu)
      rwa [show off + (j + 1) = off + 1 + j from by omega] at this
    simp only [List.length_cons, Extern.Bytes.loadBytes, Sem.run_bind, load_cell (P := P) hs h0, Result.andThen_ok]
    have e : (Addr.add ⟨b, off, none⟩ 1) = ⟨b, off + 1, none⟩ := add_none _ _ _
    rw [e, loadBytes_run hs l b (off + 1) _ h1]
    congr 1
    have : ((x.toNat : Int).toNat.toUInt8) = x := by simp
    rw [this]
    cases acc
    simp [ByteArray.push]
theorem bytesOf_run {w : World} {v : Value} {l : List UInt8} (hs : St ω w I L) (h : Bytes I v l) : (Extern.Bytes.bytesOf v).run P w = .ok ⟨l.toArray⟩ w := by
  obtain ⟨hl, a, cap, rfl, _, h⟩ := h
  cases a with
  | none =>
    have h0 : l.length = 0 := by
      apply Classical.byContradiction
      intro h0
      obtain ⟨b, off, cs, T, fr, e, _⟩ := h h0
      cases e
    have : l = [] := List.eq_nil_of_length_eq_zero h0
    subst this
    simp only [Extern.Bytes.bytesOf, Sem.run_pure]
    rfl
  | some a =>
    simp only [Extern.Bytes.bytesOf]
    by_cases h0 : l.length = 0
    · have : l = [] := List.eq_nil_of_length_eq_zero h0
      subst this
      simp only [List.length_nil, Extern.Bytes.loadBytes, Sem.run_pure]
      rfl
    · obtain ⟨b, off, cs, T, fr, e, hb, hcs⟩ := h h0
      simp only [Option.some.injEq] at e
      subst e
      rw [loadBytes_run hs l b off .empty (fun j u hu => Cell.imm hb (hcs j u hu))]
      congr 1
      simp [ByteArray.empty, ByteArray.emptyWithCapacity]
      rfl
theorem cmp_ext {x y : Value} {a b : List UInt8} (hx : Bytes I x a) (hy : Bytes I y b) (hk : K (.int .i64 (bcmp a b)) I L) : ExtE P ω Extern.BytealgCompare.compare #[x, y] K I L := by
  refine ⟨_, fun w hs => ?_, hk⟩
  show Sem.run P (do pure (goInt (Extern.BytealgCompare.cmp (← Extern.Bytes.bytesOf x) (← Extern.Bytes.bytesOf y)))) w = _
  simp only [Sem.run_bind, bytesOf_run (P := P) hs hx, bytesOf_run (P := P) hs hy, Result.andThen_ok, Sem.run_pure, goInt]
  rw [cmp_cmpL, cmpL_bcmp]
end

/-! ### Parts of blocks -/
section
variable {I I0 : Imm} {L L' X : LH} {K : Value → M} {b off n T : Nat}
theorem rdPS {l : List Value} {T : Nat} {fr : Nat × Nat} [h : InL b X (.cells l.toArray T fr)] (vs : List Value) (he : (l.drop off).take n = vs) (hl : vs.length = n) (hk : K (.agg vs.toArray) I L) : Rv (some (Stay I0 X)) (ldNR n (.pointer (some ⟨b, off, none⟩))) K I L :=
  rdNS hl (fun I' L' hS j u hu => Cell.own (hS.2 _ h.mem) (by
    subst he
    rw [List.getElem?_take] at hu
    split at hu
    · rw [List.getElem?_drop] at hu; simpa using hu
    · cases hu)) hk
theorem stP {l vs : List Value} (l' : List Value) [h : InL b L (.cells l.toArray T (0, 0))] (he : l.take off ++ (vs ++ l.drop (off + n)) = l') (hl : vs.length = n) (hleb : Nat.ble (off + n) l.length = true) (h1 : vs.all (·.oneCell') = true) [u : UpL b L (.cells l.toArray T (0, 0)) (.cells l'.toArray T (0, 0)) L'] (hk : K undef I L') :
    Sto n (.pointer (some ⟨b, off, none⟩)) (.agg vs.toArray) (gh K) I L := by
  have hle := Nat.le_of_ble_eq_true hleb
  obtain ⟨L1, L2, rfl, rfl⟩ := u.up
  refine ⟨b, off, l.toArray, T, L1, L2, rfl, by simp [Value.cells, hl], by simpa [Value.cells] using one_all h1, by simpa using hle, rfl, ?_⟩
  simp only [Value.cells]
  rw [wr_eq vs l.toArray off (by simp; omega)]
  subst he
  refine Gh.done ?_
  rw [hl]
  simpa using hk
theorem bs_N {v : Value} {l : List UInt8} {I0 : Imm} (h : Bytes I0 v l) (hI : Ext I0 I) (hk : K (.string ⟨l.toArray⟩) I L) : Rv none (bsR v) K I L := ⟨_, Bytes.str (h.mono hI), hk⟩
theorem bs_I {v : Value} {l : List UInt8} {I1 : Imm} {X : LH} (h : Bytes I0 v l) (hI : Ext I0 I1) (hk : K (.string ⟨l.toArray⟩) I L) : Rv (some (Stay I1 X)) (bsR v) K I L :=
  ⟨_, fun I' L' hS => Bytes.str (h.mono (hI.trans hS.1)), hk⟩
theorem cal_pre {P : Program} {ω : Om} {f : FuncId} {args : Array Value} (h : Gh (Cal P ω f args K) I L) : Cal P ω f args K I L := fun w hs => by
  obtain ⟨I', L', h1, h2⟩ := h hs.cons
  exact h2 w (h1 ω w hs)
theorem i64s_one_at {l : List Int} {i : Int} (h0 : 0 ≤ i) (h1 : i < l.length) : ((i64s l).drop (i.toNat * 1)).take 1 = [.int .i64 (geti l i)] := by
  have hk : i.toNat < l.length := by omega
  rw [Nat.mul_one, List.drop_eq_getElem_cons (by simpa [i64s] using hk), List.take_succ_cons]
  simp [i64s, geti, List.getD, hk]
theorem u8s_one_at {l : List UInt8} {i : Int} (h0 : 0 ≤ i) (h1 : i < l.length) : ((u8s l).drop (i.toNat * 1)).take 1 = [.int .u8 (geti l i).toNat] := by
  have hk : i.toNat < l.length := by omega
  rw [Nat.mul_one, List.drop_eq_getElem_cons (by simpa [u8s] using hk), List.take_succ_cons]
  simp [u8s, geti, List.getD, hk]
theorem ints_at {v : Value} {l : List Int} {i : Int} (h : Ints I v l) (h0 : 0 ≤ i) (h1 : i < l.length) : ∃ b off, ixV 1 v (.int .i64 i) = some (.pointer (some ⟨b, off, none⟩)) ∧ ∀ I' L, Ext I I' → Cell I' L b off (.int .i64 (geti l i)) := by
  obtain ⟨a, cap, rfl⟩ := Ints.form h
  obtain ⟨b, off, hix, hc⟩ := News.ix (L := []) (SlI.news h) .i64 h0 h1
  rw [i64s_one_at h0 h1] at hc
  exact ⟨b, off, hix, fun I' L hI => hc I' L hI (fun _ h => by cases h) 0 _ rfl⟩
theorem bytes_at {v : Value} {l : List UInt8} {i : Int} (h : Bytes I v l) (h0 : 0 ≤ i) (h1 : i < l.length) : ∃ b off, ixV 1 v (.int .i64 i) = some (.pointer (some ⟨b, off, none⟩)) ∧ ∀ I' L, Ext I I' → Cell I' L b off (.int .u8 (geti l i).toNat) := by
  obtain ⟨a, cap, rfl⟩ := Bytes.form h
  obtain ⟨b, off, hix, hc⟩ := News.ix (L := []) (SlI.news h) .i64 h0 h1
  rw [u8s_one_at h0 h1] at hc
  exact ⟨b, off, hix, fun I' L hI => hc I' L hI (fun _ h => by cases h) 0 _ rfl⟩
theorem drop_geti {α : Type} [Inhabited α] {l : List α} {k : Nat} (h : k < l.length) : l.drop k = geti l (k : Int) :: l.drop (k + 1) := by
  rw [List.drop_eq_getElem_cons h, geti_nat h]
theorem take_geti {α : Type} [Inhabited α] {l : List α} {k : Nat} (h : k < l.length) : l.take (k + 1) = l.take k ++ [geti l (k : Int)] := by
  rw [List.take_add_one, List.getElem?_eq_getElem h, geti_nat h]; rfl
end

/-! ### Regions that write to a block -/
class MemB (x : Nat × Obj) (L : LH) : Prop where
  mem : x ∈ L
instance memBRight (x : Nat × Obj) (A L : LH) [h : MemB x L] : MemB x (A ++ L) := ⟨List.mem_append_right _ h.mem⟩
instance memBThere (x y : Nat × Obj) (L : LH) [h : MemB x L] : MemB x (y :: L) := ⟨List.mem_cons_of_mem _ h.mem⟩
instance memBHere (x : Nat × Obj) (L : LH) : MemB x (x :: L) := ⟨List.mem_cons_self ..⟩
instance (priority := 70) lsubConsL (x : Nat × Obj) (X L : LH) [h : MemB x L] [h' : LSub X L] : LSub (x :: X) L := ⟨fun y hy => by
  rcases List.mem_cons.1 hy with rfl | hy
  · exact h.mem
  · exact h'.sub y hy⟩
/-- all but the block 'b' -/
class DelB (b : Nat) (L : LH) (L' : outParam LH) : Prop where
  sub : ∀ x ∈ L', x ∈ L
instance delBThere (b : Nat) (x : Nat × Obj) (L L' : LH) [h : DelB b L L'] : DelB b (x :: L) (x :: L') := ⟨fun y hy => by
  rcases List.mem_cons.1 hy with rfl | hy
  · exact List.mem_cons_self ..
  · exact List.mem_cons_of_mem _ (h.sub y hy)⟩
instance delBHere (b : Nat) (o : Obj) (L : LH) : DelB b ((b, o) :: L) L := ⟨fun y hy => List.mem_cons_of_mem _ hy⟩
theorem drawD {I : Imm} {L X : LH} {B : M → M} (b : Nat) [h : DelB b L X] (hB : B (Stay I X) I L) : Draw B I L := draw _ ⟨Ext.refl I, h.sub⟩ hB
theorem drawW1 {I : Imm} {L X : LH} {B : M → M} {b off : Nat} [h : DelB b L X] (hB : B (Stay I X) I L) : DrawW [.pointer (some ⟨b, off, none⟩)] B I L := draw _ ⟨Ext.refl I, h.sub⟩ hB
theorem drawW2 {I : Imm} {L X Y : LH} {B : M → M} {b off c off' : Nat} [h : DelB b L X] [h' : DelB c X Y] (hB : B (Stay I Y) I L) : DrawW [.pointer (some ⟨b, off, none⟩), .pointer (some ⟨c, off', none⟩)] B I L := draw _ ⟨Ext.refl I, fun x hx => h.sub x (h'.sub x hx)⟩ hB
/-- a block and what lies around it -/
class PickB (b : Nat) (L : LH) (o : outParam Obj) (R : outParam LH) : Prop where
  perm : L.Perm ((b, o) :: R)
instance pickBRight (b : Nat) (o : Obj) (A L R : LH) [h : PickB b L o R] : PickB b (A ++ L) o (A ++ R) := ⟨(List.Perm.append_left A h.perm).trans List.perm_middle⟩
instance pickBThere (b : Nat) (o : Obj) (y : Nat × Obj) (L R : LH) [h : PickB b L o R] : PickB b (y :: L) o (y :: R) := ⟨(List.Perm.cons y h.perm).trans (List.Perm.swap ..)⟩
instance pickBHere (b : Nat) (o : Obj) (R : LH) : PickB b ((b, o) :: R) o R := ⟨List.Perm.refl _⟩
theorem Gh.pick {I : Imm} {L R : LH} {A : M} (b : Nat) (Y : LH) {o : Obj} [h : PickB b L o R] [h' : SubP Y R] (hA : Gh A I ((b, o) :: Y)) : Gh A I L :=
  Gh.perm h.perm (Gh.perm (L' := (b, o) :: (Y ++ h'.sub.choose)) (List.Perm.cons _ h'.sub.choose_spec) (Gh.drop (L' := (b, o) :: Y) (List.Sublist.cons_cons _ (List.sublist_append_left _ _)) hA))
theorem Cal.pick {P : Program} {ω : Om} {f : FuncId} {args : Array Value} {K : Value → M} {I : Imm} {L R : LH} (b : Nat) {o : Obj} [h : PickB b L o R] (hc : Cal P ω f args K I ((b, o) :: R)) : Cal P ω f args K I L := fun w hs => hc w (hs.perm h.perm)
/-- x[0] -/
theorem RL.hd {α : Type} [Inhabited α] {R : Imm → α → List Value → Prop} {I : Imm} {L : LH} {n : Nat} {v : Value} {xs : List α} (h : RL R n I L v xs) (h0 : xs ≠ []) :
    ∃ b off c, ixV n v (.int .i64 0) = some (.pointer (some ⟨b, off, none⟩)) ∧ c.length = n ∧ R I (geti xs 0) c ∧ ∀ I' L', Ext I I' → (∀ x ∈ L, x ∈ L') → Cells I' L' b off c :=
  RL.ix h (by omega) (by have := List.length_pos_iff.2 h0; omega)

/-! ### Lists of records that grow -/
section
variable {α : Type} {R : Imm → α → List Value → Prop} {I : Imm} {T n bytes : Nat} {z : Array Value} {X6 L0 F : LH} {v : Value} {xs : List α} {x : α} {c cells : List Value} {K : Value → M}
theorem rec_app [SplitL X6 L0 F] (hz : z.size = n) (hn : 0 < n) (h6 : SlO T n X6 v cells xs.length) (hR : Recs (R I) n xs cells) (hx : R I x c) (hcl : c.length = n) (h1 : ∀ u ∈ c, u.oneCell' = true) (hb : (xs.length + 1) * bytes ≤ 150000000000000) (hl : xs.length + 1 ≤ 150000000000000)
    (hk : ∀ X1 X6' v' cells', SlO T n X6' v' cells' (xs ++ [x]).length → Recs (R I) n (xs ++ [x]) cells' → K v' I (X6' ++ (X1 ++ F))) :
    BldS T n z 1 [(0, .agg c.toArray)] (gh fun u => App T n bytes z v u (gh K)) I L0 := by
  refine bld_one hz hn (by simpa [Value.cells] using hcl) (fun X1 u hX1 => ?_)
  refine app_own (X := X6) hz h6 (hX1.news (fun x hx => List.mem_append_left _ hx)) (fun u hu => h1 u (by simpa [Value.cells] using hu)) hb hl (fun X' v' hX' => ?_)
  exact hk X1 X' v' _ (by simpa [Value.cells] using hX') (Recs.append hR (Recs.one (by simpa [Value.cells] using hcl) (by simpa [Value.cells] using hx)))
theorem rec_appK {I0 : Imm} {Y : LH} [SplitL X6 L0 F] (hI0 : Ext I0 I) (hY : ∀ y ∈ Y, y ∈ L0) (hz : z.size = n) (hn : 0 < n) (h6 : SlO T n X6 v cells xs.length) (hR : Recs (R I) n xs cells) (hx : R I x c) (hcl : c.length = n) (h1 : ∀ u ∈ c, u.oneCell' = true) (hb : (xs.length + 1) * bytes ≤ 150000000000000) (hl : xs.length + 1 ≤ 150000000000000)
    (hk : ∀ X1 X6' a' c' cells', SlO T n X6' (.slice a' (xs ++ [x]).length c') cells' (xs ++ [x]).length → Recs (R I) n (xs ++ [x]) cells' → K (.slice a' (xs ++ [x]).length c') I (X6' ++ (X1 ++ F))) :
    BldS T n z 1 [(0, .agg c.toArray)] (gh (Keep (Stay I0 Y) fun u => App T n bytes z v u (gh K))) I L0 := by
  refine bld_one hz hn (by simpa [Value.cells] using hcl) (fun X1 u hX1 => ?_)
  refine keepS hI0 (fun y hy => List.mem_append_right _ (hY y hy)) ?_
  refine app_own (X := X6) hz h6 (hX1.news (fun x hx => List.mem_append_left _ hx)) (fun u hu => h1 u (by simpa [Value.cells] using hu)) hb hl (fun X' v' hX' => ?_)
  obtain ⟨a', c', rfl⟩ := hX'.form
  have e : xs.length + 1 = (xs ++ [x]).length := by simp
  rw [e] at hX' ⊢
  exact hk X1 X' a' c' _ (by simpa [Value.cells] using hX') (Recs.append hR (Recs.one (by simpa [Value.cells] using hcl) (by simpa [Value.cells] using hx)))
/-- elements of one cell -/
theorem rec_app1 [SplitL X6 L0 F] {w : Value} (hz : z.size = 1) (h6 : SlO T 1 X6 v cells xs.length) (hR : Recs (R I) 1 xs cells) (hx : R I x [w]) (h1 : w.oneCell' = true) (hb : (xs.length + 1) * bytes ≤ 150000000000000) (hl : xs.length + 1 ≤ 150000000000000)
    (hk : ∀ X1 X6' v' cells', SlO T 1 X6' v' cells' (xs ++ [x]).length → Recs (R I) 1 (xs ++ [x]) cells' → K v' I (X6' ++ (X1 ++ F))) :
    BldS T 1 z 1 [(0, w)] (gh fun u => App T 1 bytes z v u (gh K)) I L0 := by
  have hc : w.cells = #[w] := by cases w <;> first | rfl | simp [Value.oneCell'] at h1
  refine bld_one hz (by omega) (by rw [hc]; rfl) (fun X1 u hX1 => ?_)
  rw [hc] at hX1
  refine app_own (X := X6) hz h6 (hX1.news (fun x hx => List.mem_append_left _ hx)) (by simpa using h1) hb hl (fun X' v' hX' => ?_)
  exact hk X1 X' v' _ (by simpa using hX') (Recs.append hR (Recs.one rfl hx))
theorem rec_app1K {I0 : Imm} {Y : LH} [SplitL X6 L0 F] {w : Value} (hI0 : Ext I0 I) (hY : ∀ y ∈ Y, y ∈ L0) (hz : z.size = 1) (h6 : SlO T 1 X6 v cells xs.length) (hR : Recs (R I) 1 xs cells) (hx : R I x [w]) (h1 : w.oneCell' = true) (hb : (xs.length + 1) * bytes ≤ 150000000000000) (hl : xs.length + 1 ≤ 150000000000000)
    (hk : ∀ X1 X6' a' c' cells', SlO T 1 X6' (.slice a' (xs ++ [x]).length c') cells' (xs ++ [x]).length → Recs (R I) 1 (xs ++ [x]) cells' → K (.slice a' (xs ++ [x]).length c') I (X6' ++ (X1 ++ F))) :
    BldS T 1 z 1 [(0, w)] (gh (Keep (Stay I0 Y) fun u => App T 1 bytes z v u (gh K))) I L0 := by
  have hc : w.cells = #[w] := by cases w <;> first | rfl | simp [Value.oneCell'] at h1
  refine bld_one hz (by omega) (by rw [hc]; rfl) (fun X1 u hX1 => ?_)
  rw [hc] at hX1
  refine keepS hI0 (fun y hy => List.mem_append_right _ (hY y hy)) ?_
  refine app_own (X := X6) hz h6 (hX1.news (fun x hx => List.mem_append_left _ hx)) (by simpa using h1) hb hl (fun X' v' hX' => ?_)
  obtain ⟨a', c', rfl⟩ := hX'.form
  have e : xs.length + 1 = (xs ++ [x]).length := by simp
  rw [e] at hX' ⊢
  exact hk X1 X' a' c' _ (by simpa using hX') (Recs.append hR (Recs.one rfl hx))
/-- a list of one record -/
theorem rec_one (hz : z.size = n) (hn : 0 < n) (hx : R I x c) (hm : ∀ {I I' : Imm} {x : α} {c : List Value}, R I x c → Ext I I' → R I' x c) (hcl : c.length = n) (hk : ∀ u I', Ext I I' → RL R n I' [] u [x] → K u I' F) : BldS T n z 1 [(0, .agg c.toArray)] (gh K) I F := by
  refine bld_oneG hz hn (by simpa [Value.cells] using hcl) (fun X u hX => ?_)
  refine SlO.freeze hX (fun I' hI hS => Gh.done (hk _ I' hI ?_))
  exact RL.ofI hS (by simpa [Value.cells] using Recs.one hcl (hm hx hI))
theorem RL.ofO {A : M} {X F : LH} (hm : ∀ {I I' : Imm} {x : α} {c : List Value}, R I x c → Ext I I' → R I' x c) (h : SlO T n X v cells xs.length) (hR : Recs (R I) n xs cells) (hk : ∀ I', Ext I I' → RL R n I' [] v xs → Gh A I' F) : Gh A I (X ++ F) :=
  SlO.freeze h (fun I' hI hS => hk I' hI (RL.ofI hS (hR.imp fun _ _ h => hm h hI)))
theorem RL.nil_none {m : Nat} {L : LH} (h : RL R n I L (.slice none m 0) xs) (hm : m = xs.length) : xs = [] := by
  obtain ⟨a, cap, cells, e, _, hn, hR⟩ := h
  rcases hn with ⟨a', c', e', h0, _⟩ | ⟨b, off, c', e', _⟩ | ⟨s, e', _⟩
  · exact List.eq_nil_of_length_eq_zero h0
  · cases e'
  · cases e'
/-- slices.Clone's append to an empty slice -/
theorem copy_app {w : Value} {X : LH} [SplitL X L0 F] (hz : z.size = n) (hE : RL R n I L0 v xs) (h1 : ∀ {x : α} {c : List Value}, R I x c → ∀ u ∈ c, u.oneCell' = true) (hX : SlO T n X w [] 0) (hb : xs.length * bytes ≤ 150000000000000) (hl : xs.length ≤ 150000000000000)
    (hk : ∀ X' v' cells', SlO T n X' v' cells' xs.length → Recs (R I) n xs cells' → Gh (K v') I (X' ++ F)) : App T n bytes z w v (gh K) I L0 := by
  obtain ⟨a, cap, cells, rfl, hcap, hn, hR⟩ := hE
  refine app_ownG (X := X) hz hX hn (hR.one_cells (fun x c h => h1 h)) (by rw [Nat.zero_add]; exact hb) (by omega) (fun X' v' hX' => ?_)
  exact hk X' v' _ (by simpa using hX') hR
end
end Go.SL
