/-
  Lemmas, part 5: laid together by a program.
-/
import Derived.Test.YtmmfcgbfbcamcaaGreatDoorP4
-- S3
set_option linter.unusedSimpArgs false
set_option linter.unusedVariables false
namespace Go.Proofs.YtmmfcgbfbcamcaaGreatDoor
open Go.SL
set_option maxRecDepth 10000
section
variable {ω : Om} {I : Imm} {L : LH} {K : Value → M}
theorem b_appG {X6 L0 F : LH} [SplitL X6 L0 F] {v : Value} {l : List UInt8} {x : UInt8} {K : Value → M} (h6 : OB X6 v l) (hl : l.length + 1 ≤ 140737488355328)
    (hk : ∀ X1 X6' v', OB X6' v' (l ++ [x]) → Gh (K v') I (X6' ++ (X1 ++ F))) :
    BldS 5 1 #[.int .u8 0] 1 [(0, .int .u8 x.toNat)] (gh fun u => App 5 1 1 #[.int .u8 0] v u (gh K)) I L0 := by
  refine bld_one rfl (by omega) rfl (fun X1 u hX1 => ?_)
  refine app_ownG (X := X6) rfl h6 (hX1.news (fun x hx => List.mem_append_left _ hx)) (by simp [Value.cells, Value.oneCell']) (by omega) (by omega) (fun X' v' hX' => ?_)
  exact hk X1 X' v' (by unfold OB; simpa [Value.cells, u8s] using hX')
theorem cvsb {l : List UInt8} {T : Nat} (hk : ∀ v I', Ext I I' → Bytes I' v l → Gh (K v) I' L) : CvSB T (sstr l) (gh K) I L := by
  refine ⟨⟨l.toArray⟩, rfl, fun b c hc => Gh.freeze (fun hE => hk _ _ hE ?_)⟩
  rw [ba_size] at hc ⊢
  refine ⟨by simp [u8s], _, c, rfl, hc, fun h0 => ⟨b, 0, _, T, _, rfl, if_pos rfl, fun j u hu => ?_⟩⟩
  have hj : j < l.length := by have := (List.getElem?_eq_some_iff.1 hu).1; simpa [u8s] using this
  simp only [u8s, List.getElem?_map] at hu
  rw [Nat.zero_add, Array.getElem?_append_left (by simpa using hj)]
  simpa using hu
theorem clipB_spec {v : Value} {l : List UInt8} (h : Bytes I v l) (hk : ∀ v', Bytes I v' l → K v' I L) : Cal Tryz.prog ω 178 #[v] K I L := by
  refine cal178 ?_
  unfold sh178
  obtain ⟨hcl, a, cap, rfl, hle, hb⟩ := h
  have s1 : slcV 1 (.slice a l.length cap) none (some (.int .i64 l.length)) (some (.int .i64 l.length)) = some (.slice (if l.length = 0 then a else a.map (·.add (0 * 1))) l.length l.length) := by
    simp only [slcV, Option.isNone_some, Bool.false_and, Bool.false_eq_true, if_false, bnd_in _ _ _ _ hle, bnd_in _ _ _ _ (Nat.le_refl _), Option.bind_some, bnd0, Nat.sub_zero]
  simp only [s1, SSd, Nat.reduceAdd]
  refine Gh.done (hk _ ⟨hcl, _, l.length, rfl, Nat.le_refl _, fun h0 => ?_⟩)
  obtain ⟨b, off, cs, T, fr, rfl, hm, hcs⟩ := hb h0
  exact ⟨b, off, cs, T, fr, by rw [if_neg h0]; simp [add_none], hm, hcs⟩
theorem or_u8 : ∀ x : Fin 256, bitsV .or .u8 ((x.val : Nat) : Int) 128 = ((x.val % 128 + 128 : Nat) : Int) := by decide
theorem number_spec {n : Nat} (hn : n < 9223372036854775808) (hk : ∀ v' I', Ext I I' → Bytes I' v' (varL n) → K v' I' L) : Cal Tryz.prog ω 121 #[.int .u64 n] K I L := by
  refine cal121 ?_
  unfold sh121
  refine loop (fun m s I' L' => I' = I ∧ ∃ (c : Nat) (d : List UInt8) (X : LH) (v : Value), c = m ∧ c ≤ n ∧ varL n = d ++ varL c ∧ d.length ≤ 64 ∧ s = (.int .u64 c, v, ()) ∧ L' = X ++ L ∧ OB X v d) n ⟨rfl, n, [], [], _, rfl, Nat.le_refl _, rfl, by simp, rfl, rfl, SlO.none _ 1⟩ ?_
  rintro m s I' L' ⟨rfl, c, d, X, v, rfl, hcn, he, hd, rfl, rfl, hX⟩
  have hlen := varL_9 hn
  rw [he, List.length_append] at hlen
  unfold sh121_1
  try simp only [SSd, Nat.reduceAdd]
  refine br_split (fun e => ?_) (fun e => ?_)
  · simp at e
    simp only [u8_wrap, SSd, Nat.reduceAdd]
    have hb := or_u8 ⟨(byteOf (c : Int)).toNat, (byteOf (c : Int)).toNat_lt⟩
    simp only at hb
    have hbo : (byteOf (c : Int)).toNat % 128 + 128 = (UInt8.ofNat (c % 128 + 128)).toNat := by
      simp [byteOf]; omega
    rw [hb, hbo]
    refine b_app hX (by omega) (fun X1 X6 v6 h6 => ?_)
    have hsh := binI_shr (a := (c : Int)) (c := 7) .u64 .u64 (by decide)
    have hdv : (c : Int).fdiv (2 ^ (min (7 : Int).toNat IntKind.u64.bits)) = ((c / 128 : Nat) : Int) := by
      show (c : Int).fdiv (2 ^ 7) = _
      rw [Int.fdiv_eq_ediv_of_nonneg _ (by decide)]
      omega
    rw [hdv] at hsh
    simp only [hsh, SSd, Nat.reduceAdd]
    refine Gh.to (X6 ++ L) (Gh.done ⟨c / 128, by omega, rfl, c / 128, d ++ [UInt8.ofNat (c % 128 + 128)], X6, v6, rfl, by omega, ?_, by simp; omega, rfl, rfl, h6⟩)
    rw [he, varL_big (by omega)]; simp
  · simp at e
    unfold sh121_3
    simp only [u8_wrap, SSd, Nat.reduceAdd]
    refine b_appG hX (by omega) (fun X1 X6 v6 h6 => ?_)
    rw [byte_small (by omega), ← varL_small (by omega), ← he] at h6
    refine OB.freeze h6 (fun I2 hI2 hB => Gh.done ?_)
    refine call (clipB_spec hB (fun v' hv' => ?_))
    exact Gh.to L (Gh.done (hk v' I2 hI2 hv'))
def wb (w : Int) (k : Nat) : UInt8 := byteOf (w.fdiv (2 ^ k))
def wallL (w : Int) (k : Nat) : List UInt8 := (List.range k).map fun j => wb w (48 - 8 * j)
def stF (s : TStamp) : List UInt8 := wallL s.fWall 7 ++ [wb s.fLogic 8, byteOf s.fLogic]
theorem hbytes_spec {x : TStamp} (hr : rightB x = true) (hk : ∀ X v', OB X v' (stF x) → K (.tuple #[v', .int .i64 0]) I (X ++ L)) : Cal Tryz.prog ω 186 #[sv x] K I L := by
  refine cal186 ?_
  unfold sh186
  refine newI (fun b => ?_)
  refine rdB rfl ?_
  refine call (hright_spec ?_)
  rw [hr]
  simp only [Bool.not_true, SSd, Nat.reduceAdd]
  refine mk_own (ln := 0) (cn := 9) (by omega) (by omega) (by omega) (fun X v hX => ?_)
  have hX0 : OB X v [] := by
    have e : (Builtin.zeroCells #[Value.int .u8 0] 0).toList = [] := by simp [Builtin.zeroCells]
    rw [e] at hX; exact hX
  refine loop (fun m s I' L' => I' = I ∧ ∃ (k : Nat) (X6 : LH) (v6 : Value), k + m = 7 ∧ s = (v6, .int .i64 (48 - 8 * (k : Int)), ()) ∧ L' = X6 ++ (b, Obj.cells #[.int .i64 x.fWall, .int .i64 x.fLogic] 41 (0, 0)) :: L ∧ OB X6 v6 (wallL x.fWall k)) 7 ⟨rfl, 0, X, v, rfl, rfl, rfl, hX0⟩ ?_
  rintro m s I' L' ⟨rfl, k, X6, v6, hkm, rfl, rfl, h6⟩
  have hwl : (wallL x.fWall k).length = k := by simp [wallL]
  unfold sh186_1
  try simp only [SSd, Nat.reduceAdd]
  refine br_split (fun e => ?_) (fun e => ?_)
  · simp at e
    refine rdb ?_
    have hsh := binI_shr (a := x.fWall) (c := 48 - 8 * (k : Int)) .i64 .i64 (by omega)
    have hmin : min (48 - 8 * (k : Int)).toNat IntKind.i64.bits = 48 - 8 * k := by
      have : IntKind.i64.bits = 64 := rfl
      omega
    rw [hmin] at hsh
    simp only [hsh, u8_wrap, SSd, Nat.reduceAdd]
    refine b_app (x := wb x.fWall (48 - 8 * k)) h6 (by omega) (fun X1 X7 v7 h7 => ?_)
    try simp only [SSd, Nat.reduceAdd]
    rw [wrap_i64 _ (by omega)]
    refine Gh.to (X7 ++ (b, Obj.cells #[.int .i64 x.fWall, .int .i64 x.fLogic] 41 (0, 0)) :: L) (Gh.done ⟨m - 1, by omega, rfl, k + 1, X7, v7, by omega, ?_, rfl, ?_⟩)
    · congr 2; congr 1; omega
    · have : wallL x.fWall (k + 1) = wallL x.fWall k ++ [wb x.fWall (48 - 8 * k)] := by simp [wallL, List.range_succ]
      rw [this]; exact h7
  · simp at e
    have hk7 : k = 7 := by omega
    subst hk7
    unfold sh186_3
    try simp only [SSd, Nat.reduceAdd]
    refine rdb ?_
    have hsh := binI_shr (a := x.fLogic) (c := 8) .i64 .u64 (by omega)
    have hmin : min (8 : Int).toNat IntKind.i64.bits = 8 := rfl
    rw [hmin] at hsh
    simp only [hsh, u8_wrap, SSd, Nat.reduceAdd]
    refine rdb ?_
    simp only [u8_wrap, SSd, Nat.reduceAdd]
    refine by2 (c := wb x.fLogic 8) (d := byteOf x.fLogic) (fun X2 u2 h2 => Gh.done ?_)
    refine ob_app (y := [wb x.fLogic 8, byteOf x.fLogic]) h6 (h2.news (fun x hx => List.mem_append_left _ hx)) (by simp [hwl]) (fun X7 v7 h7 => ?_)
    exact Gh.to (X7 ++ L) (Gh.done (hk X7 v7 h7))
def verText (v : TVer) : List UInt8 := if v.fDel then [1] else 0 :: v.fValue
abbrev vv (v : TVer) : Value := .agg #[.int .i64 v.fAt.fWall, .int .i64 v.fAt.fLogic, .bool v.fDel, sstr v.fValue]
theorem text_spec {v : TVer} (hl : v.fValue.length ≤ 1000000000) (hk : ∀ X u, OB X u (verText v) → K u I (X ++ L)) : Cal Tryz.prog ω 235 #[vv v] K I L := by
  refine cal235 ?_
  unfold sh235
  refine newI (fun b => ?_)
  try simp only [SSd, Nat.reduceAdd]
  refine rdb ?_
  refine br_split (fun e => ?_) (fun e => ?_)
  · refine by1 (c := 1) (fun X1 u1 h1 => ?_)
    refine Gh.to (X1 ++ L) (Gh.done (Gh.done (hk X1 u1 ?_)))
    unfold verText; rw [if_pos e]; exact h1
  · refine by1 (c := 0) (fun X1 u1 h1 => Gh.done ?_)
    try simp only [SSd, Nat.reduceAdd]
    refine rdb ?_
    refine ob_app (y := v.fValue) h1 (.inr (.inr ⟨_, rfl, rfl, by simp [ByteArray.size], by simp [u8s]⟩)) (by simp; omega) (fun X7 v7 h7 => ?_)
    refine Gh.to (X7 ++ L) (Gh.done (hk X7 v7 ?_))
    unfold verText; rw [if_neg (by simp [e])]; exact h7
def vkey (k : List UInt8) (v : TVer) : List UInt8 := 118 :: (ktF k ++ stF v.fAt)
theorem vkey_spec {k : List UInt8} {v : TVer} (hr : rightB v.fAt = true) (hl : k.length ≤ 1000000000) (hk : ∀ X u I', Ext I I' → OB X u (vkey k v) → K u I' (X ++ L)) : Cal Tryz.prog ω 234 #[sstr k, vv v] K I L := by
  refine cal234 ?_
  unfold sh234
  refine newI (fun b => ?_)
  try simp only [SSd, Nat.reduceAdd]
  refine rdP [.int .i64 v.fAt.fWall, .int .i64 v.fAt.fLogic] rfl rfl ?_
  refine call (hbytes_spec (x := v.fAt) hr (fun X1 u1 h1 => ?_))
  try simp only [SSd, Nat.reduceAdd]
  have hs9 : (stF v.fAt).length = 9 := rfl
  have hel := esc_len k
  have hcl := List.count_le_length (a := (0 : UInt8)) (l := k)
  have hkl : (ktF k).length ≤ 3000000000 := by unfold ktF; simp; omega
  refine by1 (c := 118) (fun X2 u2 h2 => Gh.done ?_)
  refine cvsb (fun v3 I3 hI3 hb3 => Gh.done ?_)
  refine call (keytext_spec hb3 hl (fun X4 u4 I4 hI4 h4 => ?_))
  refine ob_app (X6 := X2) (y := ktF k) h2 (h4.news (fun x hx => by simp [hx])) (by simp; omega) (fun X5 u5 h5 => ?_)
  refine ob_app (X6 := X5) (y := stF v.fAt) h5 (h1.news (fun x hx => by simp [hx])) (by simp; omega) (fun X6 u6 h6 => ?_)
  refine Gh.to (X6 ++ L) (Gh.done (hk X6 u6 I4 (hI3.trans hI4) ?_))
  unfold vkey; simpa using h6
end
end Go.Proofs.YtmmfcgbfbcamcaaGreatDoor
set_option linter.unusedSimpArgs false
set_option linter.unusedVariables false
set_option linter.unusedSectionVars false
namespace Go.SL
/-! ### Lists of blocks in any order: equations for 'ac_rfl' -/
def msSet (α : Type) : Setoid (List α) := ⟨List.Perm, List.Perm.refl, List.Perm.symm, List.Perm.trans⟩
def MS (α : Type) : Type := Quotient (msSet α)
def ms {α : Type} (l : List α) : MS α := Quotient.mk (msSet α) l
def msAdd {α : Type} (a b : MS α) : MS α := Quotient.liftOn₂ a b (fun x y => ms (x ++ y)) (fun _ _ _ _ h1 h2 => Quotient.sound (s := msSet α) (List.Perm.append h1 h2))
instance {α : Type} : Std.Associative (msAdd (α := α)) := ⟨fun a b c => by
  refine Quotient.inductionOn₃ a b c fun x y z => ?_
  show ms (x ++ y ++ z) = ms (x ++ (y ++ z))
  rw [List.append_assoc]⟩
instance {α : Type} : Std.Commutative (msAdd (α := α)) := ⟨fun a b => by
  refine Quotient.inductionOn₂ a b fun x y => ?_
  exact Quotient.sound (s := msSet α) List.perm_append_comm⟩
theorem ms_app {α : Type} (a b : List α) : ms (a ++ b) = msAdd (ms a) (ms b) := rfl
def ms1 {α : Type} (x : α) : MS α := ms [x]
theorem ms_cons {α : Type} (x : α) (b : List α) : ms (x :: b) = msAdd (ms1 x) (ms b) := rfl
theorem ms_nil {α : Type} (a : MS α) : msAdd a (ms []) = a := Quotient.inductionOn a fun x => by show ms (x ++ []) = ms x; rw [List.append_nil]
theorem ms_nil' {α : Type} (a : MS α) : msAdd (ms []) a = a := Quotient.inductionOn a fun x => rfl
theorem ms_eq {α : Type} {a b : List α} (h : a.Perm b) : ms a = ms b := Quotient.sound (s := msSet α) h
theorem ms_perm {α : Type} {a b : List α} (h : ms a = ms b) : a.Perm b := Quotient.exact (s := msSet α) h
abbrev Key := List UInt8
def kstr (k : Key) : Value := .string ⟨k.toArray⟩
def eKey (e : MapEntry) : Key := match e.key with
  | .string s => s.data.toList
  | _ => []
def fnd (k : Key) : List MapEntry → Nat → Option (Nat × Value)
  | [], _ => none
  | e :: r, i => if eKey e = k then some (i, e.val) else fnd k r (i + 1)
def updM (m : Key → Option Value) (k : Key) (v : Option Value) : Key → Option Value := fun q => if q = k then v else m q
structure MapS (es : Array MapEntry) (clock : Nat) (m : Key → Option Value) : Prop where
  str : ∀ e ∈ es.toList, ∃ s : ByteArray, e.key = .string s
  nod : (es.toList.map eKey).Nodup
  brn : ∀ e ∈ es.toList, e.born < clock
  bnd : (es.toList.map (·.born)).Nodup
  val : ∀ k, m k = (fnd k es.toList 0).map (·.2)
theorem beq_bytes {a b : ByteArray} : (a == b) = decide (a.data.toList = b.data.toList) := by
  cases a with
  | mk a => cases b with
    | mk b =>
      show (a == b) = _
      rw [Bool.eq_iff_iff]
      simp only [beq_iff_eq, decide_eq_true_eq]
      exact ⟨fun h => by rw [h], fun h => by cases a; cases b; simpa using h⟩
theorem findNow_fnd {k : Key} : ∀ {l : List MapEntry} {i : Nat}, (∀ e ∈ l, ∃ s : ByteArray, e.key = .string s) → Instr.findNow .string (kstr k) l i = some (fnd k l i)
  | [], _, _ => rfl
  | e :: l, i, h => by
    obtain ⟨s, hs⟩ := h e (List.mem_cons_self ..)
    have ih := findNow_fnd (k := k) (l := l) (i := i + 1) (fun x hx => h x (List.mem_cons_of_mem _ hx))
    simp only [Instr.findNow, fnd, eKey, hs, kstr, Instr.sameNow]
    rw [beq_bytes]
    by_cases hk : s.data.toList = k
    · have : decide ((⟨k.toArray⟩ : ByteArray).data.toList = s.data.toList) = true := by simp [hk]
      rw [this, if_pos hk]
    · have : decide ((⟨k.toArray⟩ : ByteArray).data.toList = s.data.toList) = false := by simp; exact fun h => hk h.symm
      rw [this, if_neg hk]
      exact ih
theorem MapS.find {es : Array MapEntry} {clock : Nat} {m : Key → Option Value} (h : MapS es clock m) (k : Key) : Instr.findNow .string (kstr k) es.toList 0 = some (fnd k es.toList 0) := findNow_fnd h.str
theorem MapS.empty : MapS #[] 0 (fun _ => none) := ⟨fun e h => by simp at h, by simp, fun e h => by simp at h, by simp, fun k => rfl⟩
theorem fnd_none {k : Key} : ∀ {l : List MapEntry} {i : Nat}, fnd k l i = none ↔ k ∉ l.map eKey
  | [], _ => by simp [fnd]
  | e :: l, i => by
    simp only [fnd, List.map_cons, List.mem_cons, not_or]
    by_cases h : eKey e = k
    · simp [h]
    · rw [if_neg h, fnd_none (l := l)]
      exact ⟨fun h' => ⟨fun e' => h e'.symm, h'⟩, fun h' => h'.2⟩
theorem fnd_some {k : Key} : ∀ {l : List MapEntry} {i j : Nat} {v : Value}, fnd k l i = some (j, v) → ∃ n e, j = i + n ∧ l[n]? = some e ∧ eKey e = k ∧ e.val = v
  | [], _, _, _, h => by simp [fnd] at h
  | e :: l, i, j, v, h => by
    simp only [fnd] at h
    split at h
    · rename_i hk
      simp only [Option.some.injEq, Prod.mk.injEq] at h
      exact ⟨0, e, by omega, rfl, hk, h.2⟩
    · obtain ⟨n, e', h1, h2, h3, h4⟩ := fnd_some h
      exact ⟨n + 1, e', by omega, by simpa using h2, h3, h4⟩
theorem fnd_shift {k : Key} : ∀ {l : List MapEntry} {i j : Nat}, (fnd k l i).map (·.2) = (fnd k l j).map (·.2)
  | [], _, _ => rfl
  | e :: l, i, j => by
    simp only [fnd]
    split
    · rfl
    · exact fnd_shift
theorem fnd_append {k : Key} : ∀ {l l' : List MapEntry} {i : Nat}, (fnd k (l ++ l') i).map (·.2) = match (fnd k l i).map (·.2) with
    | some v => some v
    | none => (fnd k l' 0).map (·.2)
  | [], l', i => by simp only [List.nil_append, fnd, Option.map_none]; exact fnd_shift
  | e :: l, l', i => by
    simp only [List.cons_append, fnd]
    split
    · rfl
    · exact fnd_append
theorem fnd_set {k q : Key} {v : Value} : ∀ {l : List MapEntry} {n : Nat} {e : MapEntry}, l[n]? = some e → eKey e = k → (l.map eKey).Nodup →
    (fnd q (l.set n { e with key := kstr k, val := v }) 0).map (·.2) = if q = k then some v else (fnd q l 0).map (·.2)
  | [], n, e, h, _, _ => by simp at h
  | x :: l, 0, e, h, hk, hn => by
    simp only [List.getElem?_cons_zero, Option.some.injEq] at h
    subst h
    have hko : eKey { x with key := kstr k, val := v } = k := by simp [eKey, kstr]
    simp only [List.set_cons_zero, fnd, hko, hk]
    by_cases h : k = q
    · simp [h]
    · rw [if_neg h, if_neg (fun e => h e.symm), if_neg h]
  | x :: l, n + 1, e, h, hk, hn => by
    simp only [List.getElem?_cons_succ] at h
    simp only [List.map_cons, List.nodup_cons] at hn
    simp only [List.set_cons_succ, fnd]
    have hmem : k ∈ l.map eKey := List.mem_map.2 ⟨e, List.mem_of_getElem? h, hk⟩
    by_cases hx : eKey x = q
    · rw [if_pos hx, if_pos hx, if_neg]
      intro e'
      rw [hx, e'] at hn
      exact hn.1 hmem
    · rw [if_neg hx, if_neg hx]
      have ih := fnd_set (q := q) (v := v) h hk hn.2
      rw [fnd_shift (j := 0), ih, fnd_shift (i := 0 + 1) (j := 0)]
theorem set_keys {k : Key} {v : Value} : ∀ {l : List MapEntry} {n : Nat} {e : MapEntry}, l[n]? = some e → eKey e = k → (l.set n { e with key := kstr k, val := v }).map eKey = l.map eKey
  | [], n, e, h, _ => by simp at h
  | x :: l, 0, e, h, hk => by
    simp only [List.getElem?_cons_zero, Option.some.injEq] at h
    subst h
    simp [eKey, kstr] at hk ⊢
    exact hk.symm
  | x :: l, n + 1, e, h, hk => by
    simp only [List.getElem?_cons_succ] at h
    simp only [List.set_cons_succ, List.map_cons, set_keys h hk]
theorem set_borns {k : Key} {v : Value} : ∀ {l : List MapEntry} {n : Nat} {e : MapEntry}, l[n]? = some e → (l.set n { e with key := kstr k, val := v }).map (·.born) = l.map (·.born)
  | [], n, e, h => by simp at h
  | x :: l, 0, e, h => by
    simp only [List.getElem?_cons_zero, Option.some.injEq] at h
    subst h
    simp
  | x :: l, n + 1, e, h => by
    simp only [List.getElem?_cons_succ] at h
    simp only [List.set_cons_succ, List.map_cons, set_borns (k := k) h]
def putE (k : Key) (v : Value) (es : Array MapEntry) (clock : Nat) : Obj := match fnd k es.toList 0 with
  | some (i, _) => .map (es.modify i fun e => { e with key := kstr k, val := v }) clock
  | none => .map (es.push { key := kstr k, val := v, born := clock }) (clock + 1)
theorem modify_set {α : Type} {a : Array α} {i : Nat} {f : α → α} {x : α} (h : a.toList[i]? = some x) : (a.modify i f).toList = a.toList.set i (f x) := by
  have hlt : i < a.size := by
    have := (List.getElem?_eq_some_iff.1 h).1
    simpa using this
  apply List.ext_getElem?
  intro j
  simp only [Array.getElem?_toList, Array.getElem?_modify]
  rw [List.getElem?_set]
  by_cases e : i = j
  · subst e
    simp only [Array.getElem?_toList] at h
    rw [h]
    simp [hlt]
  · simp [e]
theorem MapS.put {es : Array MapEntry} {clock : Nat} {m : Key → Option Value} (h : MapS es clock m) (k : Key) (v : Value) : ∃ es' clock', putE k v es clock = .map es' clock' ∧ MapS es' clock' (updM m k (some v)) := by
  unfold putE
  cases hf : fnd k es.toList 0 with
  | none =>
    refine ⟨_, _, rfl, ?_⟩
    have hn := fnd_none.1 hf
    have hl : (es.push { key := kstr k, val := v, born := clock }).toList = es.toList ++ [{ key := kstr k, val := v, born := clock }] := by simp
    have hko : eKey { key := kstr k, val := v, born := clock } = k := by simp [eKey, kstr]
    refine ⟨fun e he => ?_, ?_, fun e he => ?_, ?_, fun q => ?_⟩
    · rw [hl] at he
      rcases List.mem_append.1 he with he | he
      · exact h.str e he
      · simp only [List.mem_singleton] at he; subst he; exact ⟨_, rfl⟩
    · rw [hl, List.map_append, List.nodup_append]
      refine ⟨h.nod, by simp, fun a ha b hb => ?_⟩
      simp only [List.map_cons, List.map_nil, List.mem_singleton, hko] at hb
      subst hb
      exact fun e => hn (e ▸ ha)
    · rw [hl] at he
      rcases List.mem_append.1 he with he | he
      · have := h.brn e he; omega
      · simp only [List.mem_singleton] at he; subst he; simp
    · rw [hl, List.map_append, List.nodup_append]
      refine ⟨h.bnd, by simp, fun a ha b hb => ?_⟩
      simp only [List.map_cons, List.map_nil, List.mem_singleton] at hb
      subst hb
      obtain ⟨e, he, rfl⟩ := List.mem_map.1 ha
      have := h.brn e he; omega
    · rw [hl, fnd_append, ← h.val q]
      unfold updM
      by_cases e : q = k
      · subst e
        rw [if_pos rfl, h.val q, hf]
        simp [fnd, hko]
      · rw [if_neg e]
        have hf0 : fnd q [{ key := kstr k, val := v, born := clock }] 0 = none := by
          simp only [fnd, hko]
          rw [if_neg (fun e' => e (Eq.symm e'))]
        rw [hf0]
        cases m q <;> rfl
  | some p =>
    obtain ⟨i, u⟩ := p
    obtain ⟨n, e, h1, h2, h3, h4⟩ := fnd_some hf
    obtain rfl : i = n := by omega
    refine ⟨_, _, rfl, ?_⟩
    have hl := modify_set (f := fun e => { e with key := kstr k, val := v }) h2
    refine ⟨fun x hx => ?_, ?_, fun x hx => ?_, ?_, fun q => ?_⟩
    · rw [hl] at hx
      rcases List.mem_or_eq_of_mem_set hx with hx | rfl
      · exact h.str x hx
      · exact ⟨_, rfl⟩
    · rw [hl, set_keys h2 h3]; exact h.nod
    · rw [hl] at hx
      rcases List.mem_or_eq_of_mem_set hx with hx | rfl
      · exact h.brn x hx
      · exact h.brn e (List.mem_of_getElem? h2)
    · rw [hl, set_borns (k := k) h2]; exact h.bnd
    · rw [hl, fnd_set h2 h3 h.nod, ← h.val q]; rfl
def delE (k : Key) (es : Array MapEntry) (clock : Nat) : Obj := match fnd k es.toList 0 with
  | some (i, _) => .map (es.eraseIdxIfInBounds i) clock
  | none => .map es clock
theorem fnd_erase {k q : Key} : ∀ {l : List MapEntry} {n : Nat} {e : MapEntry}, l[n]? = some e → eKey e = k → (l.map eKey).Nodup → (fnd q (l.eraseIdx n) 0).map (·.2) = if q = k then none else (fnd q l 0).map (·.2)
  | [], n, e, h, _, _ => by simp at h
  | x :: l, 0, e, h, hk, hn => by
    simp only [List.getElem?_cons_zero, Option.some.injEq] at h
    subst h
    simp only [List.map_cons, List.nodup_cons] at hn
    simp only [List.eraseIdx_cons_zero, fnd, hk]
    by_cases h : q = k
    · subst h
      rw [if_pos rfl, fnd_none.2 (by rw [← hk]; exact hn.1)]; rfl
    · rw [if_neg h, if_neg (fun e => h e.symm)]
      exact fnd_shift
  | x :: l, n + 1, e, h, hk, hn => by
    simp only [List.getElem?_cons_succ] at h
    simp only [List.map_cons, List.nodup_cons] at hn
    simp only [List.eraseIdx_cons_succ, fnd]
    have hmem : k ∈ l.map eKey := List.mem_map.2 ⟨e, List.mem_of_getElem? h, hk⟩
    by_cases hx : eKey x = q
    · rw [if_pos hx, if_pos hx, if_neg]
      intro e'
      rw [hx, e'] at hn
      exact hn.1 hmem
    · rw [if_neg hx, if_neg hx, fnd_shift (j := 0), fnd_erase h hk hn.2, fnd_shift (i := 0 + 1) (j := 0)]
theorem MapS.del {es : Array MapEntry} {clock : Nat} {m : Key → Option Value} (h : MapS es clock m) (k : Key) : ∃ es', delE k es clock = .map es' clock ∧ MapS es' clock (updM m k none) := by
  unfold delE
  cases hf : fnd k es.toList 0 with
  | none =>
    refine ⟨es, rfl, h.str, h.nod, h.brn, h.bnd, fun q => ?_⟩
    unfold updM
    by_cases e : q = k
    · subst e; rw [if_pos rfl, hf]; rfl
    · rw [if_neg e]; exact h.val q
  | some p =>
    obtain ⟨i, u⟩ := p
    obtain ⟨n, e, h1, h2, h3, h4⟩ := fnd_some hf
    obtain rfl : i = n := by omega
    have hlt : i < es.size := by
      have := (List.getElem?_eq_some_iff.1 h2).1
      simpa using this
    have hl : (es.eraseIdxIfInBounds i).toList = es.toList.eraseIdx i := by simp [Array.eraseIdxIfInBounds, hlt]
    refine ⟨_, rfl, fun x hx => ?_, ?_, fun x hx => ?_, ?_, fun q => ?_⟩
    · rw [hl] at hx; exact h.str x (List.mem_of_mem_eraseIdx hx)
    · rw [hl]; exact h.nod.sublist (List.Sublist.map _ (List.eraseIdx_sublist ..))
    · rw [hl] at hx; exact h.brn x (List.mem_of_mem_eraseIdx hx)
    · rw [hl]; exact h.bnd.sublist (List.Sublist.map _ (List.eraseIdx_sublist ..))
    · rw [hl, fnd_erase h2 h3 h.nod, ← h.val q]; rfl
section rules
variable {I : Imm} {L : LH} {K : Value → M} {b : Nat} {es : Array MapEntry} {clock : Nat} {m : Key → Option Value} {k : Key} {v : Value} {S : M}
def lkV (zero : Value) (ok : Bool) : Option Value → Value
  | some u => if ok then .tuple #[u, .bool true] else u
  | none => if ok then .tuple #[zero, .bool false] else zero
theorem lk_eq {zero : Value} {ok : Bool} (h : MapS es clock m) : (match fnd k es.toList 0 with
    | some (_, u) => if ok then .tuple #[u, .bool true] else u
    | none => if ok then .tuple #[zero, .bool false] else zero) = lkV zero ok (m k) := by
  rw [h.val k]
  cases fnd k es.toList 0 <;> rfl
theorem lk_at {zero : Value} {ok : Bool} (ha : MapAt I L b es clock) (h : MapS es clock m) : lkR .string zero ok (.map (some b)) (kstr k) I L (lkV zero ok (m k)) :=
  ⟨es, _, .inr ⟨b, clock, rfl, ha⟩, h.find k, (lk_eq h).symm⟩
theorem lkm {zero : Value} {ok : Bool} [hin : InL b L (.map es clock)] (h : MapS es clock m) (hk : K (lkV zero ok (m k)) I L) : Rv none (lkR .string zero ok (.map (some b)) (kstr k)) K I L :=
  ⟨_, lk_at (.inl hin.mem) h, hk⟩
theorem lkmS {I0 : Imm} {X : LH} {zero : Value} {ok : Bool} [hin : InL b X (.map es clock)] (h : MapS es clock m) (hk : K (lkV zero ok (m k)) I L) : Rv (some (Stay I0 X)) (lkR .string zero ok (.map (some b)) (kstr k)) K I L :=
  ⟨_, fun I' L' hS => lk_at (.inl (hS.2 _ hin.mem)) h, hk⟩
theorem lenm [hin : InL b L (.map es clock)] (hk : K (.int .i64 es.size) I L) : Rv none (lenMR (.map (some b))) K I L := ⟨_, ⟨es, .inr ⟨b, clock, rfl, .inl hin.mem⟩, rfl⟩, hk⟩
theorem putm {L' : LH} {es' : Array MapEntry} {clock' : Nat} (h : MapS es clock m) (he : putE k v es clock = .map es' clock') [u : UpL b L (.map es clock) (.map es' clock') L'] (hk : K undef I L') :
    PutM .string (.map (some b)) (kstr k) v K I L := by
  obtain ⟨L1, L2, rfl, rfl⟩ := u.up
  refine ⟨b, es, clock, L1, L2, _, rfl, rfl, h.find k, ?_⟩
  unfold putE at he
  cases hf : fnd k es.toList 0 with
  | none => rw [hf] at he; simp only at he ⊢; rw [he]; exact hk
  | some p => obtain ⟨i, w⟩ := p; rw [hf] at he; simp only at he ⊢; rw [he]; exact hk
theorem delm {L' : LH} {es' : Array MapEntry} {clock' : Nat} (h : MapS es clock m) (he : delE k es clock = .map es' clock') [u : UpL b L (.map es clock) (.map es' clock') L'] (hk : K (.tuple #[]) I L') :
    DelM .string (.map (some b)) (kstr k) K I L := by
  obtain ⟨L1, L2, rfl, rfl⟩ := u.up
  refine .inr ⟨b, es, clock, L1, L2, _, rfl, rfl, h.find k, ?_⟩
  unfold delE at he
  cases hf : fnd k es.toList 0 with
  | none => rw [hf] at he; simp only at he ⊢; rw [he]; exact hk
  | some p => obtain ⟨i, w⟩ := p; rw [hf] at he; simp only at he ⊢; rw [he]; exact hk
theorem newm (hk : ∀ b, K (.map (some b)) I ((b, .map #[] 0) :: L)) : NewM K I L := hk
end rules
/-! ### Calls of values say less -/
theorem CalV.mono {P : Program} {ω : Om} {x : Value} {args : Array Value} {K K' : Value → M} {I : Imm} {L : LH} (h : CalV P ω x args K I L) (hk : ∀ v I' L', K v I' L' → K' v I' L') : CalV P ω x args K' I L := by
  match x, h with
  | .func (.func f) first cap, h =>
    simp only [CalV] at h ⊢
    by_cases he : entersB P f = true
    · rw [if_pos he] at h ⊢
      exact Cal.mono h hk
    · rw [if_neg he] at h ⊢
      cases hx : extOf P f with
      | none => rw [hx] at h; exact h.elim
      | some e =>
        rw [hx] at h
        obtain ⟨v, h1, h2⟩ := h
        exact ⟨v, h1, hk _ _ _ h2⟩
  | .func (.yield l) first cap, h => 
    intro w hs
    obtain ⟨f, tmps, assign, body, h1, h2⟩ := h w hs
    exact ⟨f, tmps, assign, body, h1, RoundIn.mono h2 fun e w' ⟨v, I', L', e1, e2, e3⟩ => ⟨v, I', L', e1, e2, hk _ _ _ e3⟩⟩
/-! ### A range over a map that stays as it is -/
def iterO (r clock : Nat) (vis : List MapEntry) : Obj := .mapIter (some r) clock (vis.map (·.born)).toArray clock
structure It (es : Array MapEntry) (vis : List MapEntry) : Prop where
  sub : ∀ e ∈ vis, e ∈ es.toList
  nod : (vis.map (·.born)).Nodup
theorem It.none (es : Array MapEntry) : It es [] := ⟨(fun e h => by cases h), by simp⟩
theorem nodup_of_map {α β : Type} {f : α → β} {l : List α} (h : (l.map f).Nodup) : l.Nodup := (List.pairwise_map.1 h).imp fun h e => h (by rw [e])
theorem map_inj {α β : Type} {f : α → β} : ∀ {l : List α}, (l.map f).Nodup → ∀ {x y : α}, x ∈ l → y ∈ l → f x = f y → x = y
  | a :: l, h, x, y, hx, hy, e => by
    simp only [List.map_cons, List.nodup_cons] at h
    rcases List.mem_cons.1 hx with hx' | hx'
    · rcases List.mem_cons.1 hy with hy' | hy'
      · rw [hx', hy']
      · exact absurd (List.mem_map.2 ⟨y, hy', by rw [← e, hx']⟩) h.1
    · rcases List.mem_cons.1 hy with hy' | hy'
      · exact absurd (List.mem_map.2 ⟨x, hx', by rw [e, hy']⟩) h.1
      · exact map_inj h.2 hx' hy' e
section iter
variable {I : Imm} {L0 : LH} {K : Value → M} {b r clock : Nat} {es : Array MapEntry} {m : Key → Option Value} {vis : List MapEntry}
theorem rngI (ha : MapAt I L0 r es clock) (hk : ∀ b, K (.pointer (some ⟨b, 0, .none⟩)) I ((b, iterO r clock []) :: L0)) : RngMp (.map (some r)) K I L0 := .inr ⟨r, es, clock, rfl, ha, hk⟩
theorem MapAt.skip {x : Nat × Obj} (ha : MapAt I L0 r es clock) : MapAt I (x :: L0) r es clock := ha.imp (List.mem_cons_of_mem _) id
theorem nxtI (h : MapS es clock m) (ha : MapAt I L0 r es clock) (hi : It es vis) (hend : vis.Perm es.toList → K (.tuple #[.bool false]) I ((b, iterO r clock vis) :: L0))
    (hstep : ∀ e, e ∈ es.toList → It es (vis ++ [e]) → K (.tuple #[.bool true, e.key, e.val]) I ((b, iterO r clock (vis ++ [e])) :: L0)) : NxtM (.pointer (some ⟨b, 0, .none⟩)) K I ((b, iterO r clock vis) :: L0) := by
  refine ⟨b, [], L0, rfl, .inr ⟨r, clock, (vis.map (·.born)).toArray, clock, es, clock, rfl, MapAt.skip ha, ?_, fun hh => hend ?_, fun e he hs => ?_⟩⟩
  · intro hc
    simp only [Bool.and_eq_true, Bool.not_eq_true', Array.isEmpty_iff, Array.all_eq_true', decide_eq_true_eq] at hc
    cases hl : es.toList with
    | nil =>
      have : es = #[] := by cases es; simpa using hl
      have h2 := hc.1.2
      rw [this] at h2
      simp at h2
    | cons e l =>
      have he : e ∈ es.toList := by rw [hl]; exact List.mem_cons_self ..
      have h1 := h.brn e he
      have h2 := hc.2 e (by simpa using he)
      omega
  · refine (List.perm_ext_iff_of_nodup (nodup_of_map hi.nod) (nodup_of_map h.bnd)).2 fun e => ⟨hi.sub e, fun he => ?_⟩
    cases hc : (vis.map (·.born)).toArray.contains e.born with
    | false => have := hh e (by simpa using he) hc; have := h.brn e he; omega
    | true =>
      have : e.born ∈ vis.map (·.born) := by simpa using hc
      obtain ⟨v, hv, hve⟩ := List.mem_map.1 this
      have := map_inj h.bnd (hi.sub v hv) he hve
      rw [← this]; exact hv
  · have hne : e.born ∉ vis.map (·.born) := by simpa using hs
    have hit : It es (vis ++ [e]) := ⟨fun x hx => by
      rcases List.mem_append.1 hx with hx | hx
      · exact hi.sub x hx
      · simp only [List.mem_singleton] at hx; subst hx; simpa using he, by
      rw [List.map_append, List.nodup_append]
      refine ⟨hi.nod, by simp, fun a ha b hb => ?_⟩
      simp only [List.map_cons, List.map_nil, List.mem_singleton] at hb
      subst hb
      exact fun e' => hne (e' ▸ ha)⟩
    have := hstep e (by simpa using he) hit
    simpa [iterO] using this
theorem entI (h : MapS es clock m) (ha : MapAt I L0 r es clock) {e : MapEntry} (he : e ∈ es.toList) : entR (.pointer (some ⟨b, 0, .none⟩)) I ((b, iterO r clock (vis ++ [e])) :: L0) (.tuple #[e.key, e.val]) := by
  refine ⟨b, r, clock, ((vis ++ [e]).map (·.born)).toArray, clock, es, clock, e.born, e, rfl, .inl (List.mem_cons_self ..), by simp, MapAt.skip ha, by simp, ?_, rfl⟩
  cases hf : es.find? (·.born == e.born) with
  | none =>
    rw [← Array.find?_toList] at hf
    have := List.find?_eq_none.1 hf e he
    simp at this
  | some e' =>
    rw [← Array.find?_toList] at hf
    have h1 := List.find?_some hf
    rw [map_inj h.bnd (List.mem_of_find?_eq_some hf) he (by simpa using h1)]
end iter
end Go.SL
-- S3
set_option linter.unusedSimpArgs false
set_option linter.unusedVariables false
namespace Go.Proofs.YtmmfcgbfbcamcaaGreatDoor
open Go.SL
set_option maxRecDepth 10000
structure Itn where
  ver : TVer
  txn : Int
def noIt : Itn := ⟨⟨⟨0, 0⟩, false, []⟩, 0⟩
structure Row where
  key : List UInt8
  vs : List TVer
  it : Itn
structure Sp where
  rows : List Row
  floor : TStamp
abbrev z0 : TStamp := ⟨0, 0⟩
def gotN : TGot := ⟨false, [], ⟨0, 0⟩, 0⟩
def gotV (v : List UInt8) (a : TStamp) : TGot := ⟨true, v, a, 0⟩
def gotB (n : Int) : TGot := ⟨false, [], ⟨0, 0⟩, n⟩
def keysOf (rows : List Row) : List (List UInt8) := rows.map (·.key)
def rowOf (rows : List Row) (k : List UInt8) : Option Row := rows.find? fun r => r.key == k
def upTo (vs : List TVer) (m : TStamp) : Option TVer := vs.reverse.find? fun v => !bhd v.fAt m
def seenV : Option TVer → TGot
  | none => gotN
  | some v => if v.fDel = true then gotN else gotV v.fValue v.fAt
def seen (r : Row) (m : TStamp) (txn : Int) : TGot × Int :=
  if r.it.txn = 0 then (seenV (upTo r.vs m), 0) else if r.it.txn = txn then (seenV (some r.it.ver), 0) else if bhd r.it.ver.fAt m = false then (gotB r.it.txn, 130) else (seenV (upTo r.vs m), 0)
def getF (sp : Sp) (k : List UInt8) (m : TStamp) (txn : Int) : TGot × Int :=
  if keyOk k = false ∨ (rightB m && readerB txn) = false then (gotN, 1) else if bhd sp.floor m = true then (gotN, 131) else match rowOf sp.rows k with
  | none => (gotN, 0)
  | some r => seen r m txn
def push (r : Row) (g : TGot) (acc : List TKV) : List TKV := if g.fFound = true then acc ++ [⟨r.key, g.fValue⟩] else acc
def scanL (m : TStamp) (txn most : Int) : List Row → List TKV → List TKV × Int × Int
  | [], acc => (acc, 0, 0)
  | r :: rs, acc => if (seen r m txn).2 ≠ 0 then ([], (seen r m txn).1.fBy, (seen r m txn).2) else
      if ((push r (seen r m txn).1 acc).length : Int) = most then (push r (seen r m txn).1 acc, 0, 0) else scanL m txn most rs (push r (seen r m txn).1 acc)
def inR (p : TSpan) (rows : List Row) : List Row := rows.filter fun r => inB p r.key
def scanF (sp : Sp) (p : TSpan) (m : TStamp) (txn most : Int) : List TKV × Int × Int :=
  if (rightB m && readerB txn) = false ∨ most < 1 then ([], 0, 1) else if bhd sp.floor m = true then ([], 0, 131) else scanL m txn most (inR p sp.rows) []
def itAt (rows : List Row) (k : List UInt8) : Itn := match rowOf rows k with
  | none => noIt
  | some r => r.it
def vsAt (rows : List Row) (k : List UInt8) : List TVer := match rowOf rows k with
  | none => []
  | some r => r.vs
def setIt (k : List UInt8) (it : Itn) : List Row → List Row
  | [] => [⟨k, [], it⟩]
  | r :: rs => if r.key = k then ⟨k, r.vs, it⟩ :: rs else if blt k r.key = true then ⟨k, [], it⟩ :: r :: rs else r :: setIt k it rs
def pastL (a : TStamp) : Option TVer → TStamp × Int
  | none => (a, 0)
  | some v => if bhd a v.fAt = true then (a, 0) else nextF v.fAt
def putBad (x : TIntent) : Prop := keyOk x.fKey = false ∨ txnB x.fTxn = false ∨ rightB x.fAt = false ∨ 10000 < x.fValue.length ∨ (x.fDel = true ∧ x.fValue ≠ [])
instance (x : TIntent) : Decidable (putBad x) := by unfold putBad; infer_instance
def putAt (sp : Sp) (x : TIntent) : TStamp :=
  let a := if bhd sp.floor x.fAt = true then sp.floor else x.fAt
  if (itAt sp.rows x.fKey).txn ≠ 0 ∧ bhd (itAt sp.rows x.fKey).ver.fAt a = true then (itAt sp.rows x.fKey).ver.fAt else a
def putA (sp : Sp) (x : TIntent) : TStamp × Int × Int :=
  if putBad x then (z0, 0, 1) else
  if (itAt sp.rows x.fKey).txn ≠ 0 ∧ (itAt sp.rows x.fKey).txn ≠ x.fTxn then (z0, (itAt sp.rows x.fKey).txn, 130) else
  if (pastL (putAt sp x) (vsAt sp.rows x.fKey).getLast?).2 ≠ 0 then (z0, 0, (pastL (putAt sp x) (vsAt sp.rows x.fKey).getLast?).2) else ((pastL (putAt sp x) (vsAt sp.rows x.fKey).getLast?).1, 0, 0)
def putS (sp : Sp) (x : TIntent) : Sp := if (putA sp x).2.2 ≠ 0 then sp else ⟨setIt x.fKey ⟨⟨(putA sp x).1, x.fDel, x.fValue⟩, x.fTxn⟩ sp.rows, sp.floor⟩
def updR (k : List UInt8) (f : Row → Row) (rows : List Row) : List Row := rows.map fun r => if r.key = k then f r else r
def emptyB (r : Row) : Bool := r.vs.isEmpty && r.it.txn == 0
def tidyR (rows : List Row) : List Row := rows.filter fun r => !emptyB r
def earlyB (a : TStamp) : Option TVer → Bool
  | none => false
  | some v => !bhd a v.fAt
def resA (sp : Sp) (k : List UInt8) (txn : Int) (yes : Bool) (a : TStamp) : Bool × Int :=
  if keyOk k = false ∨ txnB txn = false ∨ (yes = true ∧ rightB a = false) then (false, 1) else
  if (itAt sp.rows k).txn ≠ txn then (false, 0) else
  if yes = true ∧ (bhd (itAt sp.rows k).ver.fAt a = true ∨ earlyB a (vsAt sp.rows k).getLast? = true) then (false, 1) else (true, 0)
def resR (yes : Bool) (a : TStamp) (r : Row) : Row := ⟨r.key, if yes = true then r.vs ++ [⟨a, r.it.ver.fDel, r.it.ver.fValue⟩] else r.vs, noIt⟩
def resS (sp : Sp) (k : List UInt8) (txn : Int) (yes : Bool) (a : TStamp) : Sp := if (resA sp k txn yes a).1 = true then ⟨tidyR (updR k (resR yes a) sp.rows), sp.floor⟩ else sp
def lateB (a b : TStamp) (vs : List TVer) : Bool := match upTo vs b with
  | none => false
  | some v => bhd v.fAt a
def chR (a b : TStamp) (txn : Int) (r : Row) : Bool := (r.it.txn != 0 && (r.it.txn != txn) && !bhd r.it.ver.fAt b) || lateB a b r.vs
def chF (sp : Sp) (p : TSpan) (a b : TStamp) (txn : Int) : Bool × Int :=
  if (rightB a && readerB txn) = false ∨ rightB b = false then (false, 1) else if bhd sp.floor a = true then (false, 131) else ((inR p sp.rows).any (chR a b txn), 0)
def oldB (k v : TVer) : Bool := bhd k.fAt v.fAt || (k.fDel && (v.fAt.fWall == k.fAt.fWall && v.fAt.fLogic == k.fAt.fLogic))
def colR (fl : TStamp) (r : Row) : Row := match upTo r.vs fl with
  | none => r
  | some k => ⟨r.key, r.vs.filter fun v => !oldB k v, r.it⟩
def versN (rows : List Row) : Nat := (rows.map (·.vs.length)).sum
def colFl (sp : Sp) (b : TStamp) : TStamp := if bhd b sp.floor = true then b else sp.floor
def colS (sp : Sp) (b : TStamp) : Sp := if rightB b = false then sp else ⟨tidyR (sp.rows.map (colR (colFl sp b))), colFl sp b⟩
def colA (sp : Sp) (b : TStamp) : Int × Int := if rightB b = false then (0, 1) else ((versN sp.rows : Int) - versN (colS sp b).rows, 0)
def itF (r : Row) : TIntent := ⟨r.key, r.it.txn, r.it.ver.fAt, r.it.ver.fDel, r.it.ver.fValue⟩
def intsOf (rows : List Row) : List TIntent := (rows.filter fun r => r.it.txn != 0).map itF
/-! ### What spaces there are -/
structure VerOk (v : TVer) : Prop where
  right : rightB v.fAt = true
  len : v.fValue.length ≤ 10000
  del : v.fDel = true → v.fValue = []
structure RowOk (r : Row) : Prop where
  key : keyOk r.key = true
  vs : ∀ v ∈ r.vs, VerOk v
  rise : r.vs.Pairwise fun a b => bhd b.fAt a.fAt = true
  it : r.it = noIt ∨ (txnB r.it.txn = true ∧ VerOk r.it.ver)
  some : emptyB r = false
structure SpOk (sp : Sp) : Prop where
  rise : SrtK (keysOf sp.rows)
  rows : ∀ r ∈ sp.rows, RowOk r
  floor : rightB sp.floor = true
theorem RowOk.txn {r : Row} (h : RowOk r) : 0 ≤ r.it.txn ∧ r.it.txn ≤ 9007199254740991 := by
  rcases h.it with h | ⟨h, _⟩
  · rw [h]; decide
  · simp [txnB] at h; omega
theorem RowOk.keyL {r : Row} (h : RowOk r) : 1 ≤ r.key.length ∧ r.key.length ≤ 110 := by simpa [keyOk] using h.key
theorem RowOk.zero {r : Row} (h : RowOk r) (h0 : r.it.txn = 0) : r.it = noIt := by
  rcases h.it with h | ⟨h, _⟩
  · exact h
  · rw [h0] at h; cases h
end Go.Proofs.YtmmfcgbfbcamcaaGreatDoor
-- S3
set_option linter.unusedSimpArgs false
set_option linter.unusedVariables false
namespace Go.Proofs.YtmmfcgbfbcamcaaGreatDoor
open Go.SL
set_option maxRecDepth 10000
structure Mid (A : List Row) (k : List UInt8) (B : List Row) : Prop where
  lt : ∀ x ∈ A, blt x.key k = true
  gt : ∀ x ∈ B, blt k x.key = true
theorem nil_all {p : Row → Prop} : ∀ x ∈ ([] : List Row), p x := fun x hx => by cases hx
theorem blt_ne {a b : List UInt8} (h : blt a b = true) : a ≠ b := fun e => by rw [e, blt_irrefl] at h; cases h
theorem blt_ne' {a b : List UInt8} (h : blt a b = true) : b ≠ a := fun e => by rw [e, blt_irrefl] at h; cases h
theorem SrtK.mid {A B : List Row} {r : Row} (h : SrtK (keysOf (A ++ r :: B))) : Mid A r.key B := by
  unfold SrtK keysOf at h
  rw [List.map_append, List.map_cons, List.pairwise_append] at h
  obtain ⟨h1, h2, h3⟩ := h
  rw [List.pairwise_cons] at h2
  exact ⟨fun x hx => h3 _ (List.mem_map_of_mem hx) _ (List.mem_cons_self ..), fun x hx => h2.1 _ (List.mem_map_of_mem hx)⟩
theorem SrtK.join {A B : List Row} {r : Row} (hA : SrtK (keysOf A)) (hB : SrtK (keysOf B)) (h : Mid A r.key B) : SrtK (keysOf (A ++ r :: B)) := by
  unfold SrtK keysOf at *
  rw [List.map_append, List.map_cons, List.pairwise_append, List.pairwise_cons]
  refine ⟨hA, ⟨fun x hx => ?_, hB⟩, fun x hx y hy => ?_⟩
  · obtain ⟨z, hz, rfl⟩ := List.mem_map.1 hx; exact h.gt z hz
  · obtain ⟨z, hz, rfl⟩ := List.mem_map.1 hx
    rcases List.mem_cons.1 hy with rfl | hy
    · exact h.lt z hz
    · obtain ⟨w, hw, rfl⟩ := List.mem_map.1 hy
      exact blt_trans (h.lt z hz) (h.gt w hw)
theorem SrtK.sub {A B : List Row} (h : SrtK (keysOf A)) (hs : B.Sublist A) : SrtK (keysOf B) := List.Pairwise.sublist (hs.map _) h
theorem SrtK.nodup {rows : List Row} (h : SrtK (keysOf rows)) : (keysOf rows).Nodup := List.Pairwise.imp (fun h => blt_ne h) h
theorem rowOf_mid {A B : List Row} {r : Row} {k : List UInt8} (h : Mid A k B) (hk : r.key = k) : rowOf (A ++ r :: B) k = some r := by
  unfold rowOf
  rw [List.find?_append, List.find?_eq_none.2 (fun x hx => by simpa using blt_ne (h.lt x hx))]
  simp [hk]
theorem rowOf_split {rows : List Row} {k : List UInt8} {r : Row} (hs : SrtK (keysOf rows)) (h : rowOf rows k = some r) : ∃ A B, rows = A ++ r :: B ∧ r.key = k ∧ Mid A k B := by
  unfold rowOf at h
  obtain ⟨h1, A, B, rfl, h2⟩ := List.find?_eq_some_iff_append.1 h
  have hk : r.key = k := by simpa using h1
  exact ⟨A, B, rfl, hk, hk ▸ hs.mid⟩
theorem rowOf_none {rows : List Row} {k : List UInt8} (h : rowOf rows k = none) : ∀ x ∈ rows, x.key ≠ k := fun x hx => by
  simpa using List.find?_eq_none.1 h x hx
theorem rowOf_none' {rows : List Row} {k : List UInt8} (h : ∀ x ∈ rows, x.key ≠ k) : rowOf rows k = none := List.find?_eq_none.2 fun x hx => by simpa using h x hx
theorem rowOf_mem {rows : List Row} {k : List UInt8} {r : Row} (h : rowOf rows k = some r) : r ∈ rows := List.mem_of_find?_eq_some h
theorem gap {rows : List Row} {k : List UInt8} (hs : SrtK (keysOf rows)) (h : ∀ x ∈ rows, x.key ≠ k) : ∃ A B, rows = A ++ B ∧ Mid A k B := by
  induction rows with
  | nil => exact ⟨[], [], rfl, nil_all, nil_all⟩
  | cons r rs ih =>
    obtain ⟨h1, h2⟩ := List.pairwise_cons.1 (show List.Pairwise _ (r.key :: keysOf rs) from hs)
    cases hb : blt k r.key with
    | true => exact ⟨[], r :: rs, rfl, nil_all, fun x hx => by
        rcases List.mem_cons.1 hx with rfl | hx
        · exact hb
        · exact blt_trans hb (h1 _ (List.mem_map_of_mem hx))⟩
    | false =>
      obtain ⟨A, B, rfl, hm⟩ := ih h2 (fun x hx => h x (List.mem_cons_of_mem _ hx))
      refine ⟨r :: A, B, rfl, fun x hx => ?_, hm.gt⟩
      rcases List.mem_cons.1 hx with rfl | hx
      · cases hb2 : blt x.key k with
        | true => rfl
        | false => exact absurd (blt_total _ _ hb2 hb) (h x (List.mem_cons_self ..))
      · exact hm.lt x hx
theorem updR_mid {A B : List Row} {r : Row} {k : List UInt8} {f : Row → Row} (h : Mid A k B) (hk : r.key = k) : updR k f (A ++ r :: B) = A ++ f r :: B := by
  unfold updR
  rw [List.map_append, List.map_cons, if_pos hk]
  congr 1
  · conv => rhs; rw [← List.map_id A]
    exact List.map_congr_left fun x hx => if_neg (blt_ne (h.lt x hx))
  · congr 1
    conv => rhs; rw [← List.map_id B]
    exact List.map_congr_left fun x hx => if_neg (blt_ne' (h.gt x hx))
theorem setIt_mid {k : List UInt8} {it : Itn} {r : Row} {B : List Row} (hk : r.key = k) : ∀ {A : List Row}, Mid A k B → setIt k it (A ++ r :: B) = A ++ ⟨k, r.vs, it⟩ :: B
  | [], _ => by simp only [List.nil_append, setIt]; rw [if_pos hk]
  | x :: A, h => by
    have hx := h.lt x (List.mem_cons_self ..)
    simp only [List.cons_append, setIt]
    rw [if_neg (blt_ne hx), if_neg (by rw [blt_asymm hx]; simp), setIt_mid hk ⟨fun y hy => h.lt y (List.mem_cons_of_mem _ hy), h.gt⟩]
theorem setIt_gap {k : List UInt8} {it : Itn} {B : List Row} : ∀ {A : List Row}, Mid A k B → setIt k it (A ++ B) = A ++ ⟨k, [], it⟩ :: B
  | [], h => by
    cases B with
    | nil => rfl
    | cons x B =>
      have hx := h.gt x (List.mem_cons_self ..)
      simp only [List.nil_append, setIt]
      rw [if_neg (blt_ne' hx), if_pos hx]
  | x :: A, h => by
    have hx := h.lt x (List.mem_cons_self ..)
    simp only [List.cons_append, setIt]
    rw [if_neg (blt_ne hx), if_neg (by rw [blt_asymm hx]; simp), setIt_gap ⟨fun y hy => h.lt y (List.mem_cons_of_mem _ hy), h.gt⟩]
theorem tidyR_all {rows : List Row} (h : ∀ r ∈ rows, emptyB r = false) : tidyR rows = rows := List.filter_eq_self.2 fun r hr => by simp [h r hr]
theorem tidyR_mid {A B : List Row} {r : Row} (hA : ∀ x ∈ A, emptyB x = false) (hB : ∀ x ∈ B, emptyB x = false) : tidyR (A ++ r :: B) = if emptyB r = true then A ++ B else A ++ r :: B := by
  have h1 := tidyR_all hA
  have h2 := tidyR_all hB
  unfold tidyR at *
  rw [List.filter_append, List.filter_cons, h1, h2]
  cases emptyB r <;> simp
section ok
variable {sp : Sp} {A B : List Row} {r r' : Row} {fl : TStamp}
theorem SpOk.part (h : SpOk ⟨A ++ r :: B, fl⟩) : (∀ x ∈ A, RowOk x) ∧ RowOk r ∧ (∀ x ∈ B, RowOk x) := by
  have := h.rows
  simp only [List.mem_append, List.mem_cons] at this
  exact ⟨fun x hx => this x (.inl hx), this r (.inr (.inl rfl)), fun x hx => this x (.inr (.inr hx))⟩
theorem SpOk.swap (h : SpOk ⟨A ++ r :: B, fl⟩) (hk : r'.key = r.key) (hr : RowOk r') : SpOk ⟨A ++ r' :: B, fl⟩ := by
  obtain ⟨h1, h2, h3⟩ := h.part
  have e : keysOf (A ++ r' :: B) = keysOf (A ++ r :: B) := by simp [keysOf, hk]
  refine ⟨by simp only [e]; exact h.rise, fun x hx => ?_, h.floor⟩
  simp only [List.mem_append, List.mem_cons] at hx
  rcases hx with hx | rfl | hx
  · exact h1 x hx
  · exact hr
  · exact h3 x hx
theorem SpOk.less (h : SpOk ⟨A ++ r :: B, fl⟩) : SpOk ⟨A ++ B, fl⟩ := by
  obtain ⟨h1, h2, h3⟩ := h.part
  refine ⟨SrtK.sub h.rise (List.Sublist.append (List.Sublist.refl _) (List.sublist_cons_self ..)), fun x hx => ?_, h.floor⟩
  rcases List.mem_append.1 hx with hx | hx
  · exact h1 x hx
  · exact h3 x hx
theorem SpOk.more {k : List UInt8} (h : SpOk ⟨A ++ B, fl⟩) (hm : Mid A k B) (hr : RowOk r) (hk : r.key = k) : SpOk ⟨A ++ r :: B, fl⟩ := by
  have hr' := h.rows
  simp only [List.mem_append] at hr'
  subst hk
  refine ⟨SrtK.join (SrtK.sub h.rise (List.sublist_append_left ..)) (SrtK.sub h.rise (List.sublist_append_right ..)) hm, fun x hx => ?_, h.floor⟩
  simp only [List.mem_append, List.mem_cons] at hx
  rcases hx with hx | rfl | hx
  · exact hr' x (.inl hx)
  · exact hr
  · exact hr' x (.inr hx)
end ok
theorem itAt_mid {A B : List Row} {r : Row} {k : List UInt8} (h : Mid A k B) (hk : r.key = k) : itAt (A ++ r :: B) k = r.it := by unfold itAt; rw [rowOf_mid h hk]
theorem vsAt_mid {A B : List Row} {r : Row} {k : List UInt8} (h : Mid A k B) (hk : r.key = k) : vsAt (A ++ r :: B) k = r.vs := by unfold vsAt; rw [rowOf_mid h hk]
theorem Mid.notin {A B : List Row} {k : List UInt8} (h : Mid A k B) : ∀ x ∈ A ++ B, x.key ≠ k := fun x hx => by
  rcases List.mem_append.1 hx with hx | hx
  · exact blt_ne (h.lt x hx)
  · exact blt_ne' (h.gt x hx)
theorem itAt_gap {A B : List Row} {k : List UInt8} (h : Mid A k B) : itAt (A ++ B) k = noIt := by unfold itAt; rw [rowOf_none' h.notin]
theorem place {rows : List Row} (k : List UInt8) (hs : SrtK (keysOf rows)) : (∃ A r B, rows = A ++ r :: B ∧ r.key = k ∧ Mid A k B) ∨ (∃ A B, rows = A ++ B ∧ Mid A k B) := by
  cases h : rowOf rows k with
  | none => exact .inr (gap hs (rowOf_none h))
  | some r => obtain ⟨A, B, h1, h2, h3⟩ := rowOf_split hs h; exact .inl ⟨A, r, B, h1, h2, h3⟩
/-! ### What is asked leaves a space a space -/
theorem nextF_ok {x : TStamp} (h : (nextF x).2 = 0) : rightB (nextF x).1 = true ∧ bhd (nextF x).1 x = true := by
  unfold nextF at h ⊢
  by_cases h1 : rightB x = false
  · simp [h1] at h
  · have hr := rightB_iff (x := x) (by simpa using h1)
    rw [if_neg h1] at h ⊢
    by_cases h2 : x.fLogic < 65535
    · rw [if_pos h2]; simp [rightB, wallB, bhd]; omega
    · rw [if_neg h2] at h ⊢
      by_cases h3 : x.fWall = 9007199254740991
      · rw [if_pos h3] at h; simp at h
      · rw [if_neg h3]; simp [rightB, wallB, bhd]; omega
theorem bhd_trans {a b c : TStamp} (h1 : bhd a b = true) (h2 : bhd b c = true) : bhd a c = true := by
  simp [bhd] at *; omega
theorem last_top {vs : List TVer} (h : vs.Pairwise fun a b => bhd b.fAt a.fAt = true) {v : TVer} (hl : vs.getLast? = some v) : ∀ x ∈ vs, x = v ∨ bhd v.fAt x.fAt = true := by
  intro x hx
  obtain ⟨ys, rfl⟩ := List.getLast?_eq_some_iff.1 hl
  rcases List.mem_append.1 hx with hx | hx
  · exact .inr ((List.pairwise_append.1 h).2.2 x hx v (List.mem_singleton.2 rfl))
  · exact .inl (List.mem_singleton.1 hx)
theorem pastL_ok {a : TStamp} {vs : List TVer} (h : vs.Pairwise fun a b => bhd b.fAt a.fAt = true) (ha : rightB a = true) (h0 : (pastL a vs.getLast?).2 = 0) :
    rightB (pastL a vs.getLast?).1 = true ∧ ∀ v ∈ vs, bhd (pastL a vs.getLast?).1 v.fAt = true := by
  cases hl : vs.getLast? with
  | none =>
    have : vs = [] := List.getLast?_eq_none_iff.1 hl
    subst this
    exact ⟨ha, (fun v hv => by cases hv)⟩
  | some v =>
    rw [hl] at h0
    have ht := last_top h hl
    simp only [pastL] at h0 ⊢
    by_cases hb : bhd a v.fAt = true
    · rw [if_pos hb]
      refine ⟨ha, fun x hx => ?_⟩
      rcases ht x hx with rfl | h1
      · exact hb
      · exact bhd_trans hb h1
    · rw [if_neg hb] at h0 ⊢
      obtain ⟨g1, g2⟩ := nextF_ok h0
      refine ⟨g1, fun x hx => ?_⟩
      rcases ht x hx with rfl | h1
      · exact g2
      · exact bhd_trans g2 h1
theorem putAt_ok {sp : Sp} {x : TIntent} (h : SpOk sp) (hx : rightB x.fAt = true) : rightB (putAt sp x) = true := by
  unfold putAt
  have h1 : rightB (if bhd sp.floor x.fAt = true then sp.floor else x.fAt) = true := by
    split
    · exact h.floor
    · exact hx
  simp only
  generalize (if bhd sp.floor x.fAt = true then sp.floor else x.fAt) = a at h1 ⊢
  by_cases hc : (itAt sp.rows x.fKey).txn ≠ 0 ∧ bhd (itAt sp.rows x.fKey).ver.fAt a = true
  · rw [if_pos hc]
    unfold itAt at hc ⊢
    cases hr : rowOf sp.rows x.fKey with
    | none => simp [hr, noIt] at hc
    | some r =>
      simp only [hr] at hc ⊢
      rcases (h.rows r (rowOf_mem hr)).it with h2 | ⟨_, h2⟩
      · rw [h2] at hc; simp [noIt] at hc
      · exact h2.right
  · rw [if_neg hc]; exact h1
theorem vsAt_rise {sp : Sp} (h : SpOk sp) (k : List UInt8) : (vsAt sp.rows k).Pairwise (fun a b => bhd b.fAt a.fAt = true) ∧ ∀ v ∈ vsAt sp.rows k, VerOk v := by
  unfold vsAt
  cases hr : rowOf sp.rows k with
  | none => exact ⟨List.Pairwise.nil, (fun v hv => by cases hv)⟩
  | some r => exact ⟨(h.rows r (rowOf_mem hr)).rise, (h.rows r (rowOf_mem hr)).vs⟩
theorem putA_ok {sp : Sp} {x : TIntent} (h : SpOk sp) (h0 : (putA sp x).2.2 = 0) : ¬ putBad x ∧ rightB (putA sp x).1 = true ∧ VerOk ⟨(putA sp x).1, x.fDel, x.fValue⟩ ∧ txnB x.fTxn = true ∧ keyOk x.fKey = true := by
  have hr := vsAt_rise h x.fKey
  unfold putA at h0 ⊢
  by_cases hb : putBad x
  · rw [if_pos hb] at h0; simp at h0
  · rw [if_neg hb] at h0 ⊢
    have hb' := hb
    unfold putBad at hb'
    simp only [not_or, not_and, Bool.not_eq_false, Nat.not_lt, Decidable.not_not] at hb'
    by_cases h1 : (itAt sp.rows x.fKey).txn ≠ 0 ∧ (itAt sp.rows x.fKey).txn ≠ x.fTxn
    · rw [if_pos h1] at h0; simp at h0
    · rw [if_neg h1] at h0 ⊢
      by_cases h2 : (pastL (putAt sp x) (vsAt sp.rows x.fKey).getLast?).2 ≠ 0
      · rw [if_pos h2] at h0; exact absurd h0 h2
      · rw [if_neg h2]
        have g := pastL_ok hr.1 (putAt_ok h hb'.2.2.1) (by simpa using h2)
        exact ⟨hb, g.1, ⟨g.1, hb'.2.2.2.1, hb'.2.2.2.2⟩, hb'.2.1, hb'.1⟩
theorem txnB_ne {n : Int} (h : txnB n = true) : n ≠ 0 := by simp [txnB] at h; omega
theorem emptyB_it {r : Row} (h : r.it.txn ≠ 0) : emptyB r = false := by simp [emptyB, h]
theorem SpOk.put {sp : Sp} {x : TIntent} (h : SpOk sp) : SpOk (putS sp x) := by
  unfold putS
  by_cases h0 : (putA sp x).2.2 ≠ 0
  · rw [if_pos h0]; exact h
  · rw [if_neg h0]
    obtain ⟨_, h1, h2, h3, h4⟩ := putA_ok h (by simpa using h0)
    obtain ⟨rows, fl⟩ := sp
    rcases place x.fKey h.rise with ⟨A, r, B, e, hk, hm⟩ | ⟨A, B, e, hm⟩
    · simp only at e; subst e
      rw [setIt_mid hk hm]
      exact h.swap hk.symm ⟨hk ▸ h.part.2.1.key, h.part.2.1.vs, h.part.2.1.rise, .inr ⟨h3, h2⟩, emptyB_it (txnB_ne h3)⟩
    · simp only at e; subst e
      rw [setIt_gap hm]
      exact h.more hm ⟨h4, (fun v hv => by cases hv), List.Pairwise.nil, .inr ⟨h3, h2⟩, emptyB_it (txnB_ne h3)⟩ rfl
theorem resA_ok {sp : Sp} {k : List UInt8} {txn : Int} {yes : Bool} {a : TStamp} (h0 : (resA sp k txn yes a).1 = true) : (itAt sp.rows k).txn = txn ∧ txnB txn = true ∧ (yes = true → rightB a = true ∧ bhd (itAt sp.rows k).ver.fAt a = false ∧ earlyB a (vsAt sp.rows k).getLast? = false) := by
  unfold resA at h0
  split at h0
  · cases h0
  · rename_i h1
    split at h0
    · cases h0
    · rename_i h2
      split at h0
      · cases h0
      · rename_i h3
        refine ⟨by simpa using h2, by simp_all, fun hy => by simp_all⟩
theorem SpOk.res {sp : Sp} {k : List UInt8} {txn : Int} {yes : Bool} {a : TStamp} (h : SpOk sp) : SpOk (resS sp k txn yes a) := by
  unfold resS
  split
  · rename_i h0
    obtain ⟨h1, h2, h3⟩ := resA_ok h0
    obtain ⟨rows, fl⟩ := sp
    rcases place k h.rise with ⟨A, r, B, e, hk, hm⟩ | ⟨A, B, e, hm⟩
    · simp only at e; subst e
      simp only [itAt_mid hm hk, vsAt_mid hm hk] at h1 h3
      obtain ⟨p1, p2, p3⟩ := h.part
      rw [updR_mid hm hk, tidyR_mid (fun x hx => (p1 x hx).some) (fun x hx => (p3 x hx).some)]
      split
      · exact h.less
      · rename_i he
        refine h.swap rfl ⟨p2.key, ?_, ?_, .inl rfl, by simpa using he⟩
        · intro v hv
          unfold resR at hv
          simp only at hv
          split at hv
          · rename_i hy
            rcases List.mem_append.1 hv with hv | hv
            · exact p2.vs v hv
            · simp only [List.mem_singleton] at hv; subst hv
              rcases p2.it with h4 | ⟨_, h4⟩
              · rw [h4] at h1; exact absurd h1.symm (txnB_ne h2)
              · exact ⟨(h3 hy).1, h4.len, h4.del⟩
          · exact p2.vs v hv
        · unfold resR
          simp only
          split
          · rename_i hy
            refine List.pairwise_append.2 ⟨p2.rise, List.pairwise_singleton .., fun u hu v hv => ?_⟩
            simp only [List.mem_singleton] at hv; subst hv
            have h5 := (h3 hy).2.2
            cases hl : r.vs.getLast? with
            | none => rw [List.getLast?_eq_none_iff.1 hl] at hu; cases hu
            | some w =>
              rw [hl] at h5
              simp [earlyB] at h5
              rcases last_top p2.rise hl u hu with rfl | h6
              · exact h5
              · exact bhd_trans h5 h6
          · exact p2.rise
    · simp only at e; subst e
      rw [itAt_gap hm] at h1
      exact absurd h1.symm (txnB_ne h2)
  · exact h
theorem colR_key (fl : TStamp) (r : Row) : (colR fl r).key = r.key := by unfold colR; split <;> rfl
theorem colR_it (fl : TStamp) (r : Row) : (colR fl r).it = r.it := by unfold colR; split <;> rfl
theorem colR_sub (fl : TStamp) (r : Row) : (colR fl r).vs.Sublist r.vs := by
  unfold colR; split
  · exact List.Sublist.refl _
  · exact List.filter_sublist
theorem SpOk.col {sp : Sp} {b : TStamp} (h : SpOk sp) : SpOk (colS sp b) := by
  unfold colS
  split
  · exact h
  · rename_i hb
    refine ⟨?_, fun x hx => ?_, ?_⟩
    · have e : keysOf (sp.rows.map (colR (colFl sp b))) = keysOf sp.rows := by simp [keysOf, colR_key, Function.comp_def]
      exact SrtK.sub (show SrtK (keysOf (sp.rows.map (colR (colFl sp b)))) from e ▸ h.rise) List.filter_sublist
    · simp only [tidyR, List.mem_filter, List.mem_map] at hx
      obtain ⟨⟨r, hr, rfl⟩, he⟩ := hx
      have ho := h.rows r hr
      exact ⟨by rw [colR_key]; exact ho.key, fun v hv => ho.vs v ((colR_sub _ r).subset hv), ho.rise.sublist (colR_sub _ r), by rw [colR_it]; exact ho.it, by simpa using he⟩
    · simp only [colFl]
      split
      · simpa using hb
      · exact h.floor
/-! ### How many there are -/
theorem put_len {sp : Sp} {x : TIntent} (h : SpOk sp) : (putS sp x).rows.length ≤ sp.rows.length + 1 ∧ versN (putS sp x).rows = versN sp.rows := by
  unfold putS
  split
  · exact ⟨by omega, rfl⟩
  · obtain ⟨rows, fl⟩ := sp
    rcases place x.fKey h.rise with ⟨A, r, B, e, hk, hm⟩ | ⟨A, B, e, hm⟩
    · simp only at e; subst e
      simp only [setIt_mid hk hm]
      simp [versN]
    · simp only at e; subst e
      simp only [setIt_gap hm]
      simp [versN]; omega
theorem versN_sub {A B : List Row} (h : A.Sublist B) : versN A ≤ versN B := by
  unfold versN
  have : ∀ {a b : List Nat}, a.Sublist b → a.sum ≤ b.sum := by
    intro a b h
    induction h with
    | slnil => exact Nat.le_refl _
    | cons x h ih => simp; omega
    | cons_cons x h ih => simp; omega
  exact this (h.map _)
theorem versN_map {rows : List Row} {f : Row → Row} (h : ∀ r ∈ rows, (f r).vs.length ≤ r.vs.length) : versN (rows.map f) ≤ versN rows := by
  induction rows with
  | nil => exact Nat.le_refl _
  | cons r rs ih =>
    have h1 := h r (List.mem_cons_self ..)
    have h2 := ih (fun x hx => h x (List.mem_cons_of_mem _ hx))
    simp [versN] at h2 ⊢; omega
theorem res_len {sp : Sp} {k : List UInt8} {txn : Int} {yes : Bool} {a : TStamp} (h : SpOk sp) : (resS sp k txn yes a).rows.length ≤ sp.rows.length ∧ versN (resS sp k txn yes a).rows ≤ versN sp.rows + 1 := by
  unfold resS
  split
  · obtain ⟨rows, fl⟩ := sp
    refine ⟨Nat.le_trans (List.length_filter_le ..) (by simp [updR]), Nat.le_trans (versN_sub List.filter_sublist) ?_⟩
    rcases place k h.rise with ⟨A, r, B, e, hk, hm⟩ | ⟨A, B, e, hm⟩
    · simp only at e; subst e
      rw [updR_mid hm hk]
      simp only [versN, resR, List.map_append, List.map_cons, List.sum_append, List.sum_cons]
      split <;> simp <;> omega
    · simp only at e; subst e
      rw [show updR k (resR yes a) (A ++ B) = A ++ B from by
        unfold updR
        conv => rhs; rw [← List.map_id (A ++ B)]
        exact List.map_congr_left fun x hx => if_neg (hm.notin x hx)]
      exact Nat.le_succ _
  · exact ⟨Nat.le_refl _, by omega⟩
theorem col_len {sp : Sp} {b : TStamp} : (colS sp b).rows.length ≤ sp.rows.length ∧ versN (colS sp b).rows ≤ versN sp.rows := by
  unfold colS
  split
  · exact ⟨Nat.le_refl _, Nat.le_refl _⟩
  · refine ⟨Nat.le_trans (List.length_filter_le ..) (by simp), Nat.le_trans (versN_sub List.filter_sublist) (versN_map fun r _ => (colR_sub _ r).length_le)⟩
end Go.Proofs.YtmmfcgbfbcamcaaGreatDoor
-- S3
set_option linter.unusedSimpArgs false
set_option linter.unusedVariables false
namespace Go.Proofs.YtmmfcgbfbcamcaaGreatDoor
open Go.SL
set_option maxRecDepth 10000
/-! ### Ranges over functions: rules -/
class RemL (b : Nat) (L : LH) (o : outParam Obj) (L' : outParam LH) : Prop where
  ex : ∃ L1 L2, L = L1 ++ (b, o) :: L2 ∧ L' = L1 ++ L2
instance remRight (b : Nat) (A L : LH) (o : Obj) (L' : LH) [h : RemL b L o L'] : RemL b (A ++ L) o (A ++ L') := by
  obtain ⟨L1, L2, rfl, rfl⟩ := h.ex
  exact ⟨A ++ L1, L2, by simp, by simp⟩
instance remThere (b : Nat) (x : Nat × Obj) (L : LH) (o : Obj) (L' : LH) [h : RemL b L o L'] : RemL b (x :: L) o (x :: L') := by
  obtain ⟨L1, L2, rfl, rfl⟩ := h.ex
  exact ⟨x :: L1, L2, rfl, rfl⟩
instance remHere (b : Nat) (o : Obj) (L : LH) : RemL b ((b, o) :: L) o L := ⟨[], L, rfl, rfl⟩
section
variable {I : Imm} {L L' : LH} {l D : Nat} {Lo : LoF} {K : Value → M} {A : M}
theorem begR [u : UpL l L (Lo .ready none) (Lo .busy none) L'] (h : A I L') : BegR l Lo A I L := by
  obtain ⟨L1, L2, rfl, rfl⟩ := u.up
  exact ⟨L1, L2, rfl, h⟩
theorem endR [u : UpL l L (Lo .busy none) (Lo .ready none) L'] (h : K (.bool true) I L') : EndR l Lo none K I L := by
  obtain ⟨L1, L2, rfl, rfl⟩ := u.up
  exact ⟨L1, L2, rfl, h⟩
theorem endRX {c : Code} [u : UpL l L (Lo .busy none) (Lo .done (some c)) L'] (h : K (.bool false) I L') : EndR l Lo (some c) K I L := by
  obtain ⟨L1, L2, rfl, rfl⟩ := u.up
  exact ⟨L1, L2, rfl, h⟩
theorem tak [r : RemL D L (.deferred (some [])) L'] (h : A I L') : Tak D A I L := by
  obtain ⟨L1, L2, rfl, rfl⟩ := r.ex
  exact ⟨L1, L2, rfl, h⟩
theorem endL {J : Option Code → M} {s : LoopState} {j : Option Code} [r : RemL l L (Lo s j) L'] (hs : s ≠ .busy) (h : J j I L') : EndL l Lo J I L := by
  obtain ⟨L1, L2, rfl, rfl⟩ := r.ex
  exact ⟨L1, L2, s, j, hs, rfl, h⟩
theorem yldM {B : RB} [u : InL l L (Lo .ready none)] (h : B (BegR l Lo) (EndR l Lo none K) (fun id => EndR l Lo (some (.exit id)) K) (EndR l Lo (some .ret) K) I L) : YldM l Lo B K I L := by
  obtain ⟨L1, L2, h1⟩ := List.append_of_mem u.mem
  exact ⟨⟨L1, L2, h1⟩, h⟩
end
abbrev Nts := List UInt8 → Option (Bool × List UInt8)
def updN (nt : Nts) (k : List UInt8) (x : Bool × List UInt8) : Nts := fun q => if q = k then some x else nt q
def verC (v : TVer) : List Value := [.int .i64 v.fAt.fWall, .int .i64 v.fAt.fLogic, .bool v.fDel, sstr v.fValue]
def versC (l : List TVer) : List Value := l.flatMap verC
abbrev cellO (sl : Value) (x : Itn) : Obj := .cells #[sl, .int .i64 x.ver.fAt.fWall, .int .i64 x.ver.fAt.fLogic, .bool x.ver.fDel, sstr x.ver.fValue, .int .i64 x.txn] 257 (0, 0)
abbrev spO (m : Nat) (kv : Value) (fl : TStamp) (ch : Nat) : Obj := .cells #[.map (some m), kv, .int .i64 fl.fWall, .int .i64 fl.fLogic, .map (some ch)] 179 (0, 0)
abbrev pt (p : Nat) : Value := .pointer (some ⟨p, 0, none⟩)
theorem versC_recs {I : Imm} : ∀ (l : List TVer), Recs (TVerV I) 4 l (versC l)
  | [] => rfl
  | x :: l => ⟨rfl, rfl, by
    have : (versC (x :: l)).drop 4 = versC l := rfl
    rw [this]; exact versC_recs l⟩
theorem versC_len (l : List TVer) : (versC l).length = l.length * 4 := (versC_recs (I := fun _ => none) l).length
abbrev VsO (Y : LH) (sl : Value) (vs : List TVer) : Prop := SlO 253 4 Y sl (versC vs) vs.length
def RowsR : LH → List Nat → List Row → Prop
  | X, [], [] => X = []
  | X, p :: ps, r :: rs => ∃ sl Y Z, X.Perm ((p, cellO sl r.it) :: (Y ++ Z)) ∧ VsO Y sl r.vs ∧ RowsR Z ps rs
  | _, _, _ => False
theorem RowsR.perm : ∀ {ps : List Nat} {rs : List Row} {X X' : LH}, RowsR X ps rs → X.Perm X' → RowsR X' ps rs
  | [], [], X, X', h, hp => by rw [show X = [] from h] at hp; exact List.nil_perm.1 hp
  | p :: ps, r :: rs, X, X', ⟨sl, Y, Z, h1, h2, h3⟩, hp => ⟨sl, Y, Z, hp.symm.trans h1, h2, h3⟩
theorem RowsR.len : ∀ {ps : List Nat} {rs : List Row} {X : LH}, RowsR X ps rs → ps.length = rs.length
  | [], [], _, _ => rfl
  | p :: ps, r :: rs, X, ⟨sl, Y, Z, h1, h2, h3⟩ => by simp [RowsR.len h3]
theorem RowsR.pick {B : List Row} {r : Row} {Q : List Nat} {p : Nat} : ∀ {P : List Nat} {A : List Row} {X : LH}, P.length = A.length → RowsR X (P ++ p :: Q) (A ++ r :: B) →
    ∃ sl Y Z, X.Perm ((p, cellO sl r.it) :: (Y ++ Z)) ∧ VsO Y sl r.vs ∧ RowsR Z (P ++ Q) (A ++ B)
  | [], [], X, _, h => h
  | q :: P, a :: A, X, hl, ⟨sl, Y, Z, h1, h2, h3⟩ => by
    obtain ⟨sl', Y', Z', g1, g2, g3⟩ := RowsR.pick (P := P) (A := A) (by simpa using hl) h3
    refine ⟨sl', Y', (q, cellO sl a.it) :: (Y ++ Z'), ms_perm ?_, g2, sl, Y, Z', List.Perm.refl _, h2, g3⟩
    rw [ms_eq h1, ms_cons, ms_app, ms_eq g1]
    ((try simp only [ms_cons, ms_app, ms_nil, ms_nil']); (try ac_rfl))
  | [], _ :: _, _, hl, _ => by simp at hl
  | _ :: _, [], _, hl, _ => by simp at hl
theorem RowsR.put {B : List Row} {r : Row} {Q : List Nat} {p : Nat} {sl : Value} {Y : LH} : ∀ {P : List Nat} {A : List Row} {X Z : LH}, P.length = A.length → X.Perm ((p, cellO sl r.it) :: (Y ++ Z)) → VsO Y sl r.vs → RowsR Z (P ++ Q) (A ++ B) → RowsR X (P ++ p :: Q) (A ++ r :: B)
  | [], [], X, Z, _, h1, h2, h3 => ⟨sl, Y, Z, h1, h2, h3⟩
  | q :: P, a :: A, X, Z, hl, h1, h2, ⟨sl', Y', Z', g1, g2, g3⟩ => by
    refine ⟨sl', Y', (p, cellO sl r.it) :: (Y ++ Z'), ms_perm ?_, g2, RowsR.put (P := P) (A := A) (by simpa using hl) (List.Perm.refl _) h2 g3⟩
    rw [ms_eq h1, ms_cons, ms_app, ms_eq g1]
    ((try simp only [ms_cons, ms_app, ms_nil, ms_nil']); (try ac_rfl))
  | [], _ :: _, _, _, hl, _, _, _ => by simp at hl
  | _ :: _, [], _, _, hl, _, _, _ => by simp at hl
/-! ### Which cell a key has -/
def cellsM (ps : List Nat) (rows : List Row) : List UInt8 → Option Value := fun k => ((ps.zip rows).find? fun q => q.2.key == k).map fun q => pt q.1
theorem zipf_none {P : List Nat} {A : List Row} {k : List UInt8} (h : ∀ x ∈ A, x.key ≠ k) : (P.zip A).find? (fun q => q.2.key == k) = none :=
  List.find?_eq_none.2 fun q hq => by
    have := h q.2 (List.of_mem_zip hq).2
    simpa using this
theorem cellsM_mid {P Q : List Nat} {A B : List Row} {p : Nat} {r : Row} {k : List UInt8} (hl : P.length = A.length) (hm : Mid A k B) (hk : r.key = k) : cellsM (P ++ p :: Q) (A ++ r :: B) k = some (pt p) := by
  unfold cellsM
  rw [List.zip_append hl, List.find?_append, zipf_none (fun x hx => blt_ne (hm.lt x hx))]
  simp [hk]
theorem cellsM_gap {P : List Nat} {A : List Row} {k : List UInt8} (h : ∀ x ∈ A, x.key ≠ k) : cellsM P A k = none := by
  unfold cellsM; rw [zipf_none h]; rfl
theorem cellsM_ins {P Q : List Nat} {A B : List Row} {p : Nat} {r : Row} {k : List UInt8} (hl : P.length = A.length) (hm : Mid A k B) (hk : r.key = k) : cellsM (P ++ p :: Q) (A ++ r :: B) = updM (cellsM (P ++ Q) (A ++ B)) k (some (pt p)) := by
  funext q
  unfold updM
  by_cases hq : q = k
  · rw [if_pos hq, hq, cellsM_mid hl hm hk]
  · rw [if_neg hq]
    unfold cellsM
    rw [List.zip_append hl, List.zip_append hl, List.find?_append, List.find?_append, List.zip_cons_cons, List.find?_cons_of_neg (by simp [hk]; exact fun e => hq e.symm)]
theorem cellsM_del {P Q : List Nat} {A B : List Row} {p : Nat} {r : Row} {k : List UInt8} (hl : P.length = A.length) (hm : Mid A k B) (hk : r.key = k) : cellsM (P ++ Q) (A ++ B) = updM (cellsM (P ++ p :: Q) (A ++ r :: B)) k none := by
  rw [cellsM_ins hl hm hk]
  funext q
  unfold updM
  by_cases hq : q = k
  · rw [if_pos hq, hq, cellsM_gap hm.notin]
  · rw [if_neg hq, if_neg hq]
theorem cellsM_swap {P Q : List Nat} {A B : List Row} {p : Nat} {r r' : Row} (hl : P.length = A.length) (hm : Mid A r.key B) (hk : r'.key = r.key) : cellsM (P ++ p :: Q) (A ++ r' :: B) = cellsM (P ++ p :: Q) (A ++ r :: B) := by
  rw [cellsM_ins hl hm hk, cellsM_ins hl hm rfl]
theorem split_ps {ps : List Nat} {A B : List Row} {r : Row} (h : ps.length = (A ++ r :: B).length) : ∃ P p Q, ps = P ++ p :: Q ∧ P.length = A.length ∧ Q.length = B.length := by
  rw [List.length_append, List.length_cons] at h
  refine ⟨ps.take A.length, ps[A.length]'(by omega), ps.drop (A.length + 1), ?_, by simp; omega, by simp; omega⟩
  rw [← List.drop_eq_getElem_cons (by omega), List.take_append_drop]
theorem split_ps2 {ps : List Nat} {A B : List Row} (h : ps.length = (A ++ B).length) : ∃ P Q, ps = P ++ Q ∧ P.length = A.length ∧ Q.length = B.length := by
  rw [List.length_append] at h
  exact ⟨ps.take A.length, ps.drop A.length, (List.take_append_drop ..).symm, by simp; omega, by simp; omega⟩
/-! ### What is noted, in memory -/
def NotesR (I : Imm) (mm : List UInt8 → Option Value) (nt : Nts) : Prop := ∀ k, (nt k = none ∧ mm k = none) ∨ ∃ d l kv v, nt k = some (d, l) ∧ mm k = some (.agg #[.bool d, kv, v]) ∧ Bytes I kv k ∧ Bytes I v l
theorem NotesR.mono {I I' : Imm} {mm : List UInt8 → Option Value} {nt : Nts} (h : NotesR I mm nt) (hI : Ext I I') : NotesR I' mm nt := fun k => by
  rcases h k with h | ⟨d, l, kv, v, h1, h2, h3, h4⟩
  · exact .inl h
  · exact .inr ⟨d, l, kv, v, h1, h2, h3.mono hI, h4.mono hI⟩
def NtR (I : Imm) (ch : Nat) (X : LH) (nt : Nts) : Prop := ∃ ces cclock mm, X = [(ch, .map ces cclock)] ∧ MapS ces cclock mm ∧ NotesR I mm nt
theorem NtR.mono {I I' : Imm} {ch : Nat} {X : LH} {nt : Nts} (h : NtR I ch X nt) (hI : Ext I I') : NtR I' ch X nt := by
  obtain ⟨ces, cclock, mm, h1, h2, h3⟩ := h
  exact ⟨ces, cclock, mm, h1, h2, h3.mono hI⟩
structure SpF (I : Imm) (ch : Nat) (kv : Value) (es : Array MapEntry) (clock : Nat) (ps : List Nat) (KX RX NX : LH) (sp : Sp) (nt : Nts) : Prop where
  map : MapS es clock (cellsM ps sp.rows)
  keys : StrO KX kv (keysOf sp.rows)
  rows : RowsR RX ps sp.rows
  nts : NtR I ch NX nt
def SpP (I : Imm) (b : Nat) (ps : List Nat) (X : LH) (sp : Sp) (nt : Nts) : Prop := ∃ m ch kv es clock KX RX NX, X.Perm ((b, spO m kv sp.floor ch) :: (m, .map es clock) :: (KX ++ (RX ++ NX))) ∧ SpF I ch kv es clock ps KX RX NX sp nt
theorem SpF.mono {I I' : Imm} {ch : Nat} {kv : Value} {es : Array MapEntry} {clock : Nat} {ps : List Nat} {KX RX NX : LH} {sp : Sp} {nt : Nts} (h : SpF I ch kv es clock ps KX RX NX sp nt) (hI : Ext I I') : SpF I' ch kv es clock ps KX RX NX sp nt := ⟨h.map, h.keys, h.rows, h.nts.mono hI⟩
def SpR (I : Imm) (b : Nat) (X : LH) (sp : Sp) (nt : Nts) : Prop := ∃ ps, SpP I b ps X sp nt
theorem SpP.mono {I I' : Imm} {b : Nat} {ps : List Nat} {X : LH} {sp : Sp} {nt : Nts} (h : SpP I b ps X sp nt) (hI : Ext I I') : SpP I' b ps X sp nt := by
  obtain ⟨m, ch, kv, es, clock, KX, RX, NX, h1, h2⟩ := h
  exact ⟨m, ch, kv, es, clock, KX, RX, NX, h1, h2.mono hI⟩
theorem SpR.mono {I I' : Imm} {b : Nat} {X : LH} {sp : Sp} {nt : Nts} (h : SpR I b X sp nt) (hI : Ext I I') : SpR I' b X sp nt := by
  obtain ⟨ps, h⟩ := h
  exact ⟨ps, h.mono hI⟩
section
variable {ω : Om} {I : Imm} {L : LH} {K : Value → M}
theorem note_spec {b m ch : Nat} {kv a1 a2 : Value} {fl : TStamp} {NX F : LH} {nt : Nts} {d : Bool} {k l : List UInt8} (hN : NtR I ch NX nt) (h1 : Bytes I a1 k) (h2 : Bytes I a2 l)
    (hk : ∀ NX', NtR I ch NX' (updN nt k (d, l)) → K (.tuple #[]) I ((b, spO m kv fl ch) :: (NX' ++ F))) :
    Cal Tryz.prog ω 187 #[pt b, a1, a2, .bool d] K I ((b, spO m kv fl ch) :: (NX ++ F)) := by
  obtain ⟨ces, cclock, mm, rfl, hm, hn⟩ := hN
  refine cal187 ?_
  unfold sh187
  refine drawC ?_
  try simp only [SSd, Nat.reduceAdd]
  refine rdbS ?_
  refine bs_I h1 (Ext.refl _) ?_
  obtain ⟨ka, kc, rfl⟩ := Bytes.form h1
  obtain ⟨va, vc, rfl⟩ := Bytes.form h2
  try simp only [SSd, Nat.reduceAdd]
  obtain ⟨es', c', he, hm'⟩ := hm.put k (.agg #[.bool d, .slice ka k.length kc, .slice va l.length vc])
  refine putm hm he ?_
  refine Gh.done (Gh.done (hk [(ch, .map es' c')] ⟨es', c', _, rfl, hm', fun q => ?_⟩))
  unfold updN updM
  by_cases hq : q = k
  · subst hq
    simp only [if_true]
    exact .inr ⟨d, l, _, _, rfl, rfl, h1, h2⟩
  · simp only [if_neg hq]
    exact hn q
theorem note_sp {b : Nat} {ps : List Nat} {a1 a2 : Value} {X F : LH} {sp : Sp} {nt : Nts} {d : Bool} {k l : List UInt8} (hS : SpP I b ps X sp nt) (h1 : Bytes I a1 k) (h2 : Bytes I a2 l)
    (hk : ∀ X', SpP I b ps X' sp (updN nt k (d, l)) → K (.tuple #[]) I (X' ++ F)) : Cal Tryz.prog ω 187 #[pt b, a1, a2, .bool d] K I (X ++ F) := by
  obtain ⟨m, ch, kv, es, clock, KX, RX, NX, hp, hF⟩ := hS
  refine Cal.gh (Cal.perm (L' := (b, spO m kv sp.floor ch) :: (NX ++ ((m, .map es clock) :: (KX ++ (RX ++ F))))) (ms_perm (by rw [ms_app, ms_eq hp]; ((try simp only [ms_cons, ms_app, ms_nil, ms_nil']); (try ac_rfl)))) (note_spec hF.nts h1 h2 fun NX' h' => ?_))
  refine Gh.perm (L' := ((b, spO m kv sp.floor ch) :: (m, .map es clock) :: (KX ++ (RX ++ NX'))) ++ F) (ms_perm (by ((try simp only [ms_cons, ms_app, ms_nil, ms_nil']); (try ac_rfl)))) (Gh.done (hk _ ⟨m, ch, kv, es, clock, KX, RX, NX', List.Perm.refl _, hF.map, hF.keys, hF.rows, h'⟩))
theorem noteVersion_spec {b : Nat} {ps : List Nat} {X F : LH} {sp : Sp} {nt : Nts} {k : List UInt8} {v : TVer} (hS : SpP I b ps X sp nt) (hr : rightB v.fAt = true) (hl : k.length ≤ 1000000000) (hvl : v.fValue.length ≤ 1000000000)
    (hk : ∀ X' I', Ext I I' → SpP I' b ps X' sp (updN nt (vkey k v) (false, verText v)) → K (.tuple #[]) I' (X' ++ F)) :
    Cal Tryz.prog ω 189 #[pt b, sstr k, vv v] K I (X ++ F) := by
  refine cal189 ?_
  unfold sh189
  refine newI (fun q => ?_)
  refine drawC ?_
  refine rdBS rfl ?_
  refine callG (vkey_spec hr hl (fun X1 u I1 hI1 hX => ?_))
  refine OB.freeze hX (fun I2 hI2 hB => Gh.done ?_)
  refine keepS (hI1.trans hI2) (fun x hx => hx) ?_
  refine rdBS rfl ?_
  refine callG (text_spec hvl (fun X3 u3 hX3 => ?_))
  refine OB.freeze hX3 (fun I3 hI3 hB3 => Gh.done ?_)
  refine call (Cal.to (X ++ F) ?_)
  refine note_sp (hS.mono (hI1.trans (hI2.trans hI3))) (hB.mono hI3) hB3 (fun X' h' => ?_)
  exact Gh.done (hk X' I3 (hI1.trans (hI2.trans hI3)) h')
theorem noteFloor_spec {b : Nat} {ps : List Nat} {X F : LH} {sp : Sp} {nt : Nts} (hS : SpP I b ps X sp nt) (hr : rightB sp.floor = true)
    (hk : ∀ X' I', Ext I I' → SpP I' b ps X' sp (updN nt [102] (false, stF sp.floor)) → K (.tuple #[]) I' (X' ++ F)) :
    Cal Tryz.prog ω 131 #[pt b] K I (X ++ F) := by
  have hS0 := hS
  obtain ⟨m, ch, kv, es, clock, KX, RX, NX, hp, hF⟩ := hS
  have hmem : (b, spO m kv sp.floor ch) ∈ X := hp.mem_iff.2 (List.mem_cons_self ..)
  refine cal131 ?_
  unfold sh131
  try simp only [SSd, Nat.reduceAdd]
  refine rdN (vs := [.int .i64 sp.floor.fWall, .int .i64 sp.floor.fLogic]) rfl (fun j u hu => Cell.own (List.mem_append_left _ hmem) ?_) ?_
  · match j, hu with
    | 0, hu => simpa using hu
    | 1, hu => simpa using hu
  refine callG (hbytes_spec (x := sp.floor) hr (fun X1 u hX => ?_))
  refine OB.freeze hX (fun I2 hI2 hB => Gh.done ?_)
  try simp only [SSd, Nat.reduceAdd]
  refine by1 (c := 102) (fun X1 u1 h1 => OB.freeze h1 (fun I3 hI3 hB3 => Gh.done ?_))
  refine call (note_sp (hS0.mono (hI2.trans hI3)) hB3 (hB.mono hI3) (fun X' h' => ?_))
  exact Gh.done (hk X' I3 (hI2.trans hI3) h')
def itText (x : Itn) : Bool × List UInt8 := if x.txn = 0 then (true, []) else (false, stF x.ver.fAt ++ varL x.txn.toNat ++ verText x.ver)
def CellV (I : Imm) (L : LH) (p : Nat) (r : Row) : Prop := ∃ sl, Cells I L p 0 [sl, .int .i64 r.it.ver.fAt.fWall, .int .i64 r.it.ver.fAt.fLogic, .bool r.it.ver.fDel, sstr r.it.ver.fValue, .int .i64 r.it.txn] ∧ RL TVerV 4 I L sl r.vs
structure ViewF (I : Imm) (L : LH) (b m : Nat) (kv : Value) (es : Array MapEntry) (clock : Nat) (ps : List Nat) (sp : Sp) : Prop where
  head : Cells I L b 0 [.map (some m), kv, .int .i64 sp.floor.fWall, .int .i64 sp.floor.fLogic]
  at' : MapAt I L m es clock
  map : MapS es clock (cellsM ps sp.rows)
  keys : Strs I L kv (keysOf sp.rows)
  len : ps.length = sp.rows.length
  cell : ∀ (i p : Nat) r, ps[i]? = some p → sp.rows[i]? = some r → CellV I L p r
def View (I : Imm) (L : LH) (b : Nat) (sp : Sp) : Prop := ∃ m kv es clock ps, ViewF I L b m kv es clock ps sp
theorem CellV.mono {I I' : Imm} {L L' : LH} {p : Nat} {r : Row} (h : CellV I L p r) (hI : Ext I I') (hL : ∀ x ∈ L, x ∈ L') : CellV I' L' p r := by
  obtain ⟨sl, h1, h2⟩ := h
  exact ⟨sl, h1.mono hI hL, h2.mono (fun x c h => TVerV.mono h hI) hI hL⟩
theorem MapAt.mono {I I' : Imm} {L L' : LH} {m : Nat} {es : Array MapEntry} {clock : Nat} (h : MapAt I L m es clock) (hI : Ext I I') (hL : ∀ x ∈ L, x ∈ L') : MapAt I' L' m es clock := h.imp (hL _) (hI _ _)
theorem ViewF.mono {I I' : Imm} {L L' : LH} {b m : Nat} {kv : Value} {es : Array MapEntry} {clock : Nat} {ps : List Nat} {sp : Sp} (h : ViewF I L b m kv es clock ps sp) (hI : Ext I I') (hL : ∀ x ∈ L, x ∈ L') : ViewF I' L' b m kv es clock ps sp :=
  ⟨h.head.mono hI hL, MapAt.mono h.at' hI hL, h.map, h.keys.mono (fun x c h => StrV.mono h hI) hI hL, h.len, fun i p r h1 h2 => (h.cell i p r h1 h2).mono hI hL⟩
theorem View.mono {I I' : Imm} {L L' : LH} {b : Nat} {sp : Sp} (h : View I L b sp) (hI : Ext I I') (hL : ∀ x ∈ L, x ∈ L') : View I' L' b sp := by
  obtain ⟨m, kv, es, clock, ps, h⟩ := h
  exact ⟨m, kv, es, clock, ps, h.mono hI hL⟩
theorem own_cells {L : LH} {b : Nat} {l : List Value} {T : Nat} {fr : Nat × Nat} (h : (b, Obj.cells l.toArray T fr) ∈ L) (n : Nat) : Cells I L b 0 (l.take n) := fun j u hu => Cell.own h (by
  rw [List.getElem?_take] at hu
  split at hu
  · simpa using hu
  · cases hu)
theorem VsO.rl {Y L : LH} {sl : Value} {vs : List TVer} (h : VsO Y sl vs) (hY : ∀ x ∈ Y, x ∈ L) : RL TVerV 4 I L sl vs := by
  have hn := h.news (I := I) hY
  obtain ⟨_, hh⟩ := h
  rcases hh with ⟨_, h0, a, rfl⟩ | ⟨b, cap, cs, _, rfl, _, hle, _⟩
  · refine ⟨a, 0, _, ?_, by omega, hn, versC_recs vs⟩
    rw [h0]
  · exact ⟨_, cap, _, rfl, hle, hn, versC_recs vs⟩
theorem RowsR.cell {L : LH} : ∀ {ps : List Nat} {rs : List Row} {X : LH}, RowsR X ps rs → (∀ x ∈ X, x ∈ L) → ∀ (i p : Nat) r, ps[i]? = some p → rs[i]? = some r → CellV I L p r
  | [], [], _, _, _, i, p, r, h1, _ => by simp at h1
  | q :: ps, a :: rs, X, ⟨sl, Y, Z, h1, h2, h3⟩, hL, 0, p, r, g1, g2 => by
    simp only [List.getElem?_cons_zero, Option.some.injEq] at g1 g2
    subst g1 g2
    exact ⟨sl, own_cells (hL _ (h1.mem_iff.2 (List.mem_cons_self ..))) 6, h2.rl (fun x hx => hL _ (h1.mem_iff.2 (by simp [hx])))⟩
  | q :: ps, a :: rs, X, ⟨sl, Y, Z, h1, h2, h3⟩, hL, i + 1, p, r, g1, g2 =>
    RowsR.cell h3 (fun x hx => hL _ (h1.mem_iff.2 (by simp [hx]))) i p r (by simpa using g1) (by simpa using g2)
theorem SpP.view {b : Nat} {ps : List Nat} {X L : LH} {sp : Sp} {nt : Nts} (h : SpP I b ps X sp nt) (hL : ∀ x ∈ X, x ∈ L) : View I L b sp := by
  obtain ⟨m, ch, kv, es, clock, KX, RX, NX, hp, hF⟩ := h
  have hmem : ∀ x, x ∈ ((b, spO m kv sp.floor ch) :: (m, Obj.map es clock) :: (KX ++ (RX ++ NX))) → x ∈ L := fun x hx => hL _ (hp.mem_iff.2 hx)
  refine ⟨m, kv, es, clock, ps, own_cells (hmem _ (List.mem_cons_self ..)) 4, .inl (hmem _ (by simp)), hF.map, StrO.rl hF.keys (fun x hx => hmem _ (by simp [hx])), hF.rows.len, hF.rows.cell (fun x hx => hmem _ (by simp [hx]))⟩
theorem SpR.view {b : Nat} {X L : LH} {sp : Sp} {nt : Nts} (h : SpR I b X sp nt) (hL : ∀ x ∈ X, x ∈ L) : View I L b sp := by
  obtain ⟨ps, h⟩ := h
  exact h.view hL
theorem ViewF.look {b m : Nat} {kv : Value} {es : Array MapEntry} {clock : Nat} {ps : List Nat} {sp : Sp} (h : ViewF I L b m kv es clock ps sp) (hs : SrtK (keysOf sp.rows)) (k : List UInt8) :
    (rowOf sp.rows k = none ∧ cellsM ps sp.rows k = none) ∨ ∃ r p, rowOf sp.rows k = some r ∧ cellsM ps sp.rows k = some (pt p) ∧ CellV I L p r ∧ r.key = k := by
  have hlen := h.len
  have hcell := h.cell
  obtain ⟨rows, fl⟩ := sp
  rcases place k hs with ⟨A, r, B, e, hk, hm⟩ | ⟨A, B, e, hm⟩
  · simp only at e; subst e
    obtain ⟨P, p, Q, rfl, hl, _⟩ := split_ps hlen
    refine .inr ⟨r, p, rowOf_mid hm hk, cellsM_mid hl hm hk, hcell A.length p r ?_ ?_, hk⟩
    · rw [← hl]; simp
    · simp
  · simp only at e; subst e
    exact .inl ⟨rowOf_none' hm.notin, cellsM_gap hm.notin⟩
theorem itC {r : Row} {L : LH} {p : Nat} {sl : Value} (h : Cells I L p 0 [sl, .int .i64 r.it.ver.fAt.fWall, .int .i64 r.it.ver.fAt.fLogic, .bool r.it.ver.fDel, sstr r.it.ver.fValue, .int .i64 r.it.txn]) :
    Cell I L p 0 sl ∧ Cells I L p 1 [.int .i64 r.it.ver.fAt.fWall, .int .i64 r.it.ver.fAt.fLogic] ∧ Cells I L p 1 [.int .i64 r.it.ver.fAt.fWall, .int .i64 r.it.ver.fAt.fLogic, .bool r.it.ver.fDel, sstr r.it.ver.fValue] ∧ Cell I L p 3 (.bool r.it.ver.fDel) ∧ Cell I L p 4 (sstr r.it.ver.fValue) ∧ Cell I L p 5 (.int .i64 r.it.txn) ∧
    Cells I L p 1 [.int .i64 r.it.ver.fAt.fWall, .int .i64 r.it.ver.fAt.fLogic, .bool r.it.ver.fDel, sstr r.it.ver.fValue, .int .i64 r.it.txn] :=
  ⟨h 0 _ rfl, by simpa using h.sub (k := 1) (m := 2), by simpa using h.sub (k := 1) (m := 4), by simpa using h 3 _ rfl, by simpa using h 4 _ rfl, by simpa using h 5 _ rfl, by simpa using h.sub (k := 1) (m := 5)⟩
theorem noteIntent_spec {b : Nat} {ps : List Nat} {X F : LH} {sp : Sp} {nt : Nts} {k : List UInt8} {r : Row} (hS : SpP I b ps X sp nt) (hs : SrtK (keysOf sp.rows)) (hr : rowOf sp.rows k = some r)
    (ht : 0 ≤ r.it.txn ∧ r.it.txn < 9223372036854775808) (hri : r.it.txn ≠ 0 → rightB r.it.ver.fAt = true) (hl : k.length ≤ 1000000000) (hvl : r.it.ver.fValue.length ≤ 1000000000)
    (hk : ∀ X' I', Ext I I' → SpP I' b ps X' sp (updN nt (105 :: k) (itText r.it)) → K (.tuple #[]) I' (X' ++ F)) :
    Cal Tryz.prog ω 190 #[pt b, sstr k] K I (X ++ F) := by
  obtain ⟨m, kv, es, clock, ps', hV⟩ := hS.view (L := X ++ F) (fun x hx => List.mem_append_left _ hx)
  obtain ⟨h0, _⟩ | ⟨r', p, h1, hc, ⟨sl, hC, hVs⟩, hkr⟩ := hV.look hs k
  · rw [hr] at h0; cases h0
  obtain rfl : r' = r := by rw [hr] at h1; exact (Option.some.inj h1).symm
  obtain ⟨c0, c1, c14, c3, c4, c5, _⟩ := itC hC
  refine cal190 ?_
  unfold sh190
  refine by1 (c := 105) (fun X1 u1 h1 => Gh.done ?_)
  refine ob_appG (y := k) h1 (.inr (.inr ⟨_, rfl, rfl, by simp [ByteArray.size], by simp [u8s]⟩)) (by simp; omega) (fun X2 u2 h2 => ?_)
  refine OB.freeze h2 (fun I2 hI2 hB2 => Gh.done ?_)
  try simp only [SSd, Nat.reduceAdd]
  refine rdC (hV.head 0 _ rfl) hI2 ?_
  refine ⟨_, lk_at ((MapAt.mono hV.at' hI2 (fun x hx => by simp [hx]))) hV.map, ?_⟩
  simp only [hc, lkV]
  simp only [Bool.false_eq_true, if_false, SSd, Nat.reduceAdd]
  refine rdC c5 hI2 ?_
  try simp only [SSd, Nat.reduceAdd]
  refine br_split (fun e => ?_) (fun e => ?_)
  · simp at e
    refine call (Cal.to (X ++ F) ?_)
    refine note_sp (hS.mono hI2) hB2 (show Bytes I2 _ [] from SlI.nil I2 1 none 0) (fun X' h' => ?_)
    refine Gh.done (hk X' I2 hI2 ?_)
    unfold itText; rw [if_pos e]; exact h'
  · simp at e
    refine rdNC c1 hI2 rfl ?_
    have hs9 : (stF r'.it.ver.fAt).length = 9 := rfl
    have hv9 := varL_9 (n := r'.it.txn.toNat) (by omega)
    refine callG (hbytes_spec (hri e) (fun X3 u3 h3 => Gh.done ?_))
    try simp only [SSd, Nat.reduceAdd]
    refine rdC c5 hI2 ?_
    try simp only [SSd, Nat.reduceAdd]
    rw [wrap_u64 _ ht.1 (by omega), show r'.it.txn = ((r'.it.txn.toNat : Nat) : Int) by omega]
    refine call (number_spec (by omega) (fun u4 I4 hI4 hB4 => ?_))
    refine ob_appG (y := varL r'.it.txn.toNat) h3 (SlI.news hB4) (by omega) (fun X5 u5 h5 => Gh.done ?_)
    refine rdNC c14 (hI2.trans hI4) rfl ?_
    refine call (text_spec hvl (fun X6 u6 h6 => ?_))
    have hvt : (verText r'.it.ver).length ≤ 1000000001 := by unfold verText; split <;> simp; omega
    refine ob_appG (X6 := X5) (y := verText r'.it.ver) h5 (h6.news (fun x hx => by simp [hx])) (by rw [List.length_append]; omega) (fun X7 u7 h7 => ?_)
    refine OB.freeze h7 (fun I7 hI7 hB7 => Gh.done ?_)
    refine call (Cal.to (X ++ F) ?_)
    refine note_sp (hS.mono (hI2.trans (hI4.trans hI7))) (hB2.mono (hI4.trans hI7)) hB7 (fun X' h' => ?_)
    refine Gh.done (hk X' I7 (hI2.trans (hI4.trans hI7)) ?_)
    unfold itText; rw [if_neg e]; exact h'
end
end Go.Proofs.YtmmfcgbfbcamcaaGreatDoor
-- S3
set_option linter.unusedSimpArgs false
set_option linter.unusedVariables false
namespace Go.Proofs.YtmmfcgbfbcamcaaGreatDoor
open Go.SL
set_option maxRecDepth 10000
section
variable {ω : Om} {I : Imm} {L : LH} {K : Value → M}
theorem upTo_at {vs : List TVer} {m : TStamp} {k : Nat} (hk : k < vs.length) (h : bhd vs[k].fAt m = false) (h2 : ∀ w ∈ vs.drop (k + 1), bhd w.fAt m = true) : upTo vs m = some vs[k] := by
  unfold upTo
  have e : vs = vs.take k ++ vs[k] :: vs.drop (k + 1) := by rw [← List.drop_eq_getElem_cons hk, List.take_append_drop]
  generalize vs[k] = v at *
  rw [e, List.reverse_append, List.reverse_cons, List.append_assoc, List.find?_append, List.find?_eq_none.2 (fun w hw => by simpa using h2 w (List.mem_reverse.1 hw))]
  simp [h]
theorem upTo_no {vs : List TVer} {m : TStamp} (h2 : ∀ w ∈ vs, bhd w.fAt m = true) : upTo vs m = none := by
  unfold upTo
  exact List.find?_eq_none.2 fun w hw => by simpa using h2 w (List.mem_reverse.1 hw)
theorem upTo_mem {vs : List TVer} {m : TStamp} {v : TVer} (h : upTo vs m = some v) : v ∈ vs := by
  unfold upTo at h
  exact List.mem_reverse.1 (List.mem_of_find?_eq_some h)
theorem verAt {v : TVer} {q off : Nat} (h : Cells I L q off (verC v)) : Cells I L q off [.int .i64 v.fAt.fWall, .int .i64 v.fAt.fLogic] ∧ Cell I L q (off + 2) (.bool v.fDel) ∧ Cell I L q (off + 3) (sstr v.fValue) :=
  ⟨by simpa [verC] using h.sub (k := 0) (m := 2), h 2 _ rfl, h 3 _ rfl⟩
theorem upTo_spec {L0 : LH} [LSub L0 L] {p : Nat} {r : Row} {m : TStamp} (hV : CellV I L0 p r) (hlen : r.vs.length ≤ 1000000000) (hn : upTo r.vs m = none → K (.pointer none) I L)
    (hs : ∀ q off v, upTo r.vs m = some v → Cells I L0 q off (verC v) → K (.pointer (some ⟨q, off, none⟩)) I L) : Cal Tryz.prog ω 221 #[pt p, sv m] K I L := by
  obtain ⟨sl, hC, hVs⟩ := hV
  refine cal221 ?_
  unfold sh221
  refine newI (fun b => ?_)
  try simp only [SSd, Nat.reduceAdd]
  refine rdC (hC 0 _ rfl) (Ext.refl _) ?_
  simp only [RL.len hVs, SSd, Nat.reduceAdd]
  refine loop (fun n s I' L' => I' = I ∧ L' = (b, Obj.cells #[.int .i64 m.fWall, .int .i64 m.fLogic] 41 (0, 0)) :: L ∧ ∃ k : Nat, n = k ∧ k ≤ r.vs.length ∧ s = (.pointer none, .int .i64 ((k : Int) - 1), ()) ∧ ∀ w ∈ r.vs.drop k, bhd w.fAt m = true) r.vs.length ⟨rfl, rfl, r.vs.length, rfl, Nat.le_refl _, by rw [wrap_i64 _ (by omega)], by simp⟩ ?_
  rintro n s I' L' ⟨rfl, rfl, k, rfl, hkl, rfl, hA⟩
  unfold sh221_1
  try simp only [SSd, Nat.reduceAdd]
  refine br_split (fun e => ?_) (fun e => ?_)
  · simp at e
    obtain ⟨j, rfl⟩ : ∃ j, n = j + 1 := ⟨n - 1, by omega⟩
    rw [show ((j + 1 : Nat) : Int) - 1 = (j : Int) by omega]
    refine drawC ?_
    try simp only [SSd, Nat.reduceAdd]
    refine rdCS (hC 0 _ rfl) (Ext.refl _) ?_
    obtain ⟨q, off, c, hix, hl, hc, hcc⟩ := RL.ix hVs (i := j) (by omega) (by omega)
    obtain rfl : c = verC _ := hc
    simp only [hix, SSd, Nat.reduceAdd]
    have hc4 := hcc I' L0 (Ext.refl _) (fun _ h => h)
    rw [geti_nat (by omega)] at hc4
    obtain ⟨g1, g2, g3⟩ := verAt hc4
    refine rdNCS g1 (Ext.refl _) rfl ?_
    refine rdBS rfl ?_
    refine call (behind_spec ?_)
    try simp only [SSd, Nat.reduceAdd]
    refine br_split (fun e2 => ?_) (fun e2 => ?_)
    · simp at e2
      try simp only [SSd, Nat.reduceAdd]
      refine rdC (hC 0 _ rfl) (Ext.refl _) ?_
      simp only [hix, SSd, Nat.reduceAdd]
      exact Gh.to L (Gh.done (hs q off _ (upTo_at (by omega) e2 hA) hc4))
    · simp at e2
      try simp only [SSd, Nat.reduceAdd]
      rw [wrap_i64 _ (by omega)]
      refine Gh.done ⟨j, by omega, rfl, rfl, j, rfl, by omega, rfl, fun w hw => ?_⟩
      rw [List.drop_eq_getElem_cons (by omega)] at hw
      rcases List.mem_cons.1 hw with rfl | hw
      · exact e2
      · exact hA w hw
  · simp at e
    have h0 : n = 0 := by omega
    subst h0
    exact Gh.to L (Gh.done (hn (upTo_no (by simpa using hA))))
abbrev gvV (g : TGot) (v0 : Value) : Value := .agg #[.bool g.fFound, v0, .int .i64 g.fAt.fWall, .int .i64 g.fAt.fLogic, .int .i64 g.fBy]
def VerP (I : Imm) (L : LH) (pv : Value) : Option TVer → Prop
  | none => pv = .pointer none
  | some v => ∃ q off, pv = .pointer (some ⟨q, off, none⟩) ∧ Cells I L q off (verC v)
theorem seenV_spec {b1 b2 : Nat} {o1 : Obj} {pv : Value} {ov : Option TVer} (h : VerP I L pv ov)
    (hk : ∀ I' v0, Ext I I' → Bytes I' v0 (seenV ov).fValue → K (.tuple #[gvV (seenV ov) v0, .int .i64 0]) I' L) :
    sh214_2 ω (.pointer (some ⟨b2, 0, none⟩)) (.int .i64 0) pv (fun v => Gh (K v)) I ((b2, .cells #[.bool false, .slice none 0 0, .int .i64 0, .int .i64 0, .int .i64 0] 49 (0, 0)) :: (b1, o1) :: L) := by
  have hz : ∀ I', Bytes I' (.slice none 0 0) [] := fun I' => SlI.nil I' 1 none 0
  unfold sh214_2
  cases ov with
  | none =>
    obtain rfl : pv = .pointer none := h
    have e : binPV .eql (.pointer none) (.pointer none) = some (.bool true) := rfl
    simp only [e, SSd, Nat.reduceAdd]
    unfold sh214_3
    repeat' (first | (with_reducible refine drawC ?_) | (with_reducible refine drawW1 ?_) | (with_reducible refine drawW2 ?_) | (with_reducible refine keepC (by repeat (first | exact Ext.refl _ | assumption | refine Ext.trans ?_ (by assumption))) ?_) | (with_reducible refine newI (fun _ => ?_)) | first | (with_reducible refine rdb ?_) | ((with_reducible refine st1 ?_ ?_); rfl) | ((with_reducible refine rdB ?_ ?_); rfl) | (with_reducible refine rdbS ?_) | ((with_reducible refine rdBS ?_ ?_); rfl) | ((with_reducible refine stB ?_ ?_ ?_ ?_); rfl; rfl; exact one_all rfl) | ((with_reducible refine rdP _ rfl ?_ ?_); rfl) | ((with_reducible refine rdPS _ rfl ?_ ?_); rfl) | ((with_reducible refine stP _ rfl ?_ ?_ ?_ ?_); rfl; rfl; rfl) | (with_reducible refine unfE (sh214_3.eq_1 ..) ?_) | (with_reducible refine unfE (sh214_2.eq_1 ..) ?_) | (with_reducible refine unfE (sh214.eq_1 ..) ?_) | (with_reducible refine And.intro ?_ ?_) | (simp only [Bool.not_true, Bool.not_false, Bool.and_self, Bool.true_and, Int.reduceBEq, Int.reduceBNe, Int.reduceLT, Int.reduceLE, decide_true, decide_false, Br_true, Br_false, Gd_tt, Gd_ft, Gd_tf, Gd_ff, beq_self_eq_true, bne_self_eq_false]) | (with_reducible refine gd_split (fun _ => ?_) (fun _ => ?_)) | (with_reducible refine br_split (fun _ => ?_) (fun _ => ?_)) | (simp only [SSd, Nat.reduceAdd]))
    exact Gh.to L (Gh.done (hk I _ (Ext.refl _) (hz I)))
  | some v =>
    obtain ⟨q, off, rfl, hc⟩ := h
    obtain ⟨g1, g2, g3⟩ := verAt hc
    try simp only [SSd, Nat.reduceAdd]
    refine rdC g2 (Ext.refl _) ?_
    refine br_split (fun e => ?_) (fun e => ?_)
    · unfold sh214_3
      have es : seenV (some v) = gotN := by simp [seenV, e]
      rw [es] at hk
      repeat' (first | (with_reducible refine drawC ?_) | (with_reducible refine drawW1 ?_) | (with_reducible refine drawW2 ?_) | (with_reducible refine keepC (by repeat (first | exact Ext.refl _ | assumption | refine Ext.trans ?_ (by assumption))) ?_) | (with_reducible refine newI (fun _ => ?_)) | first | (with_reducible refine rdb ?_) | ((with_reducible refine st1 ?_ ?_); rfl) | ((with_reducible refine rdB ?_ ?_); rfl) | (with_reducible refine rdbS ?_) | ((with_reducible refine rdBS ?_ ?_); rfl) | ((with_reducible refine stB ?_ ?_ ?_ ?_); rfl; rfl; exact one_all rfl) | ((with_reducible refine rdP _ rfl ?_ ?_); rfl) | ((with_reducible refine rdPS _ rfl ?_ ?_); rfl) | ((with_reducible refine stP _ rfl ?_ ?_ ?_ ?_); rfl; rfl; rfl) | (with_reducible refine unfE (sh214_3.eq_1 ..) ?_) | (with_reducible refine unfE (sh214_2.eq_1 ..) ?_) | (with_reducible refine unfE (sh214.eq_1 ..) ?_) | (with_reducible refine And.intro ?_ ?_) | (simp only [Bool.not_true, Bool.not_false, Bool.and_self, Bool.true_and, Int.reduceBEq, Int.reduceBNe, Int.reduceLT, Int.reduceLE, decide_true, decide_false, Br_true, Br_false, Gd_tt, Gd_ft, Gd_tf, Gd_ff, beq_self_eq_true, bne_self_eq_false]) | (with_reducible refine gd_split (fun _ => ?_) (fun _ => ?_)) | (with_reducible refine br_split (fun _ => ?_) (fun _ => ?_)) | (simp only [SSd, Nat.reduceAdd]))
      exact Gh.to L (Gh.done (hk I _ (Ext.refl _) (hz I)))
    · have es : seenV (some v) = gotV v.fValue v.fAt := by simp [seenV, e]
      rw [es] at hk
      refine drawC ?_
      try simp only [SSd, Nat.reduceAdd]
      refine rdCS g3 (Ext.refl _) ?_
      refine cvsb (fun u I2 hI2 hB => ?_)
      obtain ⟨a, c, rfl⟩ := Bytes.form hB
      refine Gh.done (keepC hI2 ?_)
      try simp only [SSd, Nat.reduceAdd]
      refine rdNCS g1 (Ext.refl _) rfl ?_
      repeat' (first | (with_reducible refine drawC ?_) | (with_reducible refine drawW1 ?_) | (with_reducible refine drawW2 ?_) | (with_reducible refine keepC (by repeat (first | exact Ext.refl _ | assumption | refine Ext.trans ?_ (by assumption))) ?_) | (with_reducible refine newI (fun _ => ?_)) | first | (with_reducible refine rdb ?_) | ((with_reducible refine st1 ?_ ?_); rfl) | ((with_reducible refine rdB ?_ ?_); rfl) | (with_reducible refine rdbS ?_) | ((with_reducible refine rdBS ?_ ?_); rfl) | ((with_reducible refine stB ?_ ?_ ?_ ?_); rfl; rfl; exact one_all rfl) | ((with_reducible refine rdP _ rfl ?_ ?_); rfl) | ((with_reducible refine rdPS _ rfl ?_ ?_); rfl) | ((with_reducible refine stP _ rfl ?_ ?_ ?_ ?_); rfl; rfl; rfl) | (with_reducible refine unfE (sh214_3.eq_1 ..) ?_) | (with_reducible refine unfE (sh214_2.eq_1 ..) ?_) | (with_reducible refine unfE (sh214.eq_1 ..) ?_) | (with_reducible refine And.intro ?_ ?_) | (simp only [Bool.not_true, Bool.not_false, Bool.and_self, Bool.true_and, Int.reduceBEq, Int.reduceBNe, Int.reduceLT, Int.reduceLE, decide_true, decide_false, Br_true, Br_false, Gd_tt, Gd_ft, Gd_tf, Gd_ff, beq_self_eq_true, bne_self_eq_false]) | (with_reducible refine gd_split (fun _ => ?_) (fun _ => ?_)) | (with_reducible refine br_split (fun _ => ?_) (fun _ => ?_)) | (simp only [SSd, Nat.reduceAdd]))
      exact Gh.to L (Gh.done (hk I2 _ hI2 hB))
theorem cread_spec {p : Nat} {r : Row} {m : TStamp} {txn : Int} (hV : CellV I L p r) (hlen : r.vs.length ≤ 1000000000)
    (hk : ∀ I' v0, Ext I I' → Bytes I' v0 (seen r m txn).1.fValue → K (.tuple #[gvV (seen r m txn).1 v0, .int .i64 (seen r m txn).2]) I' L) : Cal Tryz.prog ω 214 #[pt p, sv m, .int .i64 txn] K I L := by
  obtain ⟨sl, hC, hVs⟩ := hV
  have hV' : CellV I L p r := ⟨sl, hC, hVs⟩
  obtain ⟨c0, c1, c14, c3, c4, c5, _⟩ := itC hC
  have hz : ∀ I', Bytes I' (.slice none 0 0) [] := fun I' => SlI.nil I' 1 none 0
  have hX : ∀ b1 b2 pv, VerP I L pv (upTo r.vs m) → Pv (nilV (pt p)) (fun v5 => Pv (fldV 1 v5) fun v6 => Pv (nilV v6) fun v7 => Pv (fldV 4 v7) fun v8 => Rv none (ld1R v8) fun v9 => Pv (binIV .eql v9 (.int .i64 0)) fun v10 => Br v10 (sh214_2 ω (.pointer (some ⟨b2, 0, none⟩)) (.int .i64 0) pv (fun v => Gh (K v)))
    (Pv (nilV v6) fun v26 => Pv (fldV 4 v26) fun v27 => Rv none (ld1R v27) fun v28 => Pv (binIV .eql v28 (.int .i64 txn)) fun v29 => Br v29 (Pv (nilV v6) fun v30 => Pv (fldV 0 v30) fun v31 => sh214_2 ω (.pointer (some ⟨b2, 0, none⟩)) (.int .i64 0) v31 (fun v => Gh (K v)))
      (Draw fun S => Pv (nilV v6) fun v32 => Pv (fldV 0 v32) fun v33 => Pv (fldV 0 v33) fun v34 => Rv (some S) (ldNR 2 v34) fun v35 => Rv (some S) (ldNR 2 (.pointer (some ⟨b1, 0, none⟩))) fun v36 => Cal Tryz.prog ω 213 #[v35, v36] <| gh fun v37 => Pv (unV .not v37) fun v38 =>
        Br v38 (Pv (nilV v6) fun v39 => Pv (fldV 4 v39) fun v40 => Rv none (ld1R v40) fun v41 => Pv (bldV #[.bool false, .slice none 0 0, .int .i64 0, .int .i64 0, .int .i64 0] #[(0, 1), (1, 1), (2, 2), (4, 1)] [(3, v41)]) fun v42 => Sto 5 (.pointer (some ⟨b2, 0, none⟩)) v42 <| gh fun _ => Rv none (ldNR 5 (.pointer (some ⟨b2, 0, none⟩))) fun v43 => Gh (K (.tuple #[v43, .int .i64 130])))
          (sh214_2 ω (.pointer (some ⟨b2, 0, none⟩)) (.int .i64 0) pv (fun v => Gh (K v)))))) I ((b2, .cells #[.bool false, .slice none 0 0, .int .i64 0, .int .i64 0, .int .i64 0] 49 (0, 0)) :: (b1, Obj.cells #[.int .i64 m.fWall, .int .i64 m.fLogic] 41 (0, 0)) :: L) := by
    intro b1 b2 pv hpv
    try simp only [SSd, Nat.reduceAdd]
    refine rdC c5 (Ext.refl _) ?_
    try simp only [SSd, Nat.reduceAdd]
    refine br_split (fun e => ?_) (fun e => ?_)
    · simp at e
      have es : seen r m txn = (seenV (upTo r.vs m), 0) := by unfold seen; rw [if_pos e]
      rw [es] at hk
      exact seenV_spec hpv hk
    simp at e
    try simp only [SSd, Nat.reduceAdd]
    refine rdC c5 (Ext.refl _) ?_
    try simp only [SSd, Nat.reduceAdd]
    refine br_split (fun e2 => ?_) (fun e2 => ?_)
    · simp at e2
      try simp only [SSd, Nat.reduceAdd]
      have es : seen r m txn = (seenV (some r.it.ver), 0) := by unfold seen; rw [if_neg e, if_pos e2]
      rw [es] at hk
      exact seenV_spec (ov := some r.it.ver) ⟨p, 1, rfl, c14⟩ hk
    simp at e2
    refine drawC ?_
    try simp only [SSd, Nat.reduceAdd]
    refine rdNCS c1 (Ext.refl _) rfl ?_
    refine rdBS rfl ?_
    refine call (behind_spec ?_)
    try simp only [SSd, Nat.reduceAdd]
    refine br_split (fun e3 => ?_) (fun e3 => ?_)
    · simp at e3
      have es : seen r m txn = (gotB r.it.txn, 130) := by unfold seen; rw [if_neg e, if_neg e2, if_pos e3]
      rw [es] at hk
      try simp only [SSd, Nat.reduceAdd]
      refine rdC c5 (Ext.refl _) ?_
      repeat' (first | (with_reducible refine drawC ?_) | (with_reducible refine drawW1 ?_) | (with_reducible refine drawW2 ?_) | (with_reducible refine keepC (by repeat (first | exact Ext.refl _ | assumption | refine Ext.trans ?_ (by assumption))) ?_) | (with_reducible refine newI (fun _ => ?_)) | first | (with_reducible refine rdb ?_) | ((with_reducible refine st1 ?_ ?_); rfl) | ((with_reducible refine rdB ?_ ?_); rfl) | (with_reducible refine rdbS ?_) | ((with_reducible refine rdBS ?_ ?_); rfl) | ((with_reducible refine stB ?_ ?_ ?_ ?_); rfl; rfl; exact one_all rfl) | ((with_reducible refine rdP _ rfl ?_ ?_); rfl) | ((with_reducible refine rdPS _ rfl ?_ ?_); rfl) | ((with_reducible refine stP _ rfl ?_ ?_ ?_ ?_); rfl; rfl; rfl) | (with_reducible refine unfE (sh214_3.eq_1 ..) ?_) | (with_reducible refine unfE (sh214_2.eq_1 ..) ?_) | (with_reducible refine unfE (sh214.eq_1 ..) ?_) | (with_reducible refine And.intro ?_ ?_) | (simp only [Bool.not_true, Bool.not_false, Bool.and_self, Bool.true_and, Int.reduceBEq, Int.reduceBNe, Int.reduceLT, Int.reduceLE, decide_true, decide_false, Br_true, Br_false, Gd_tt, Gd_ft, Gd_tf, Gd_ff, beq_self_eq_true, bne_self_eq_false]) | (with_reducible refine gd_split (fun _ => ?_) (fun _ => ?_)) | (with_reducible refine br_split (fun _ => ?_) (fun _ => ?_)) | (simp only [SSd, Nat.reduceAdd]))
      exact Gh.to L (Gh.done (hk I _ (Ext.refl _) (hz I)))
    · simp at e3
      have es : seen r m txn = (seenV (upTo r.vs m), 0) := by unfold seen; rw [if_neg e, if_neg e2, if_neg (by simp [e3])]
      rw [es] at hk
      exact seenV_spec hpv hk
  refine cal214 ?_
  unfold sh214
  refine newI (fun b1 => ?_)
  refine newI (fun b2 => ?_)
  refine rdB rfl ?_
  refine call (upTo_spec hV' hlen (fun h0 => ?_) (fun q off v h0 hc => ?_))
  · exact hX b1 b2 _ (by rw [h0]; rfl)
  · exact hX b1 b2 _ (by rw [h0]; exact ⟨q, off, rfl, hc⟩)
theorem upToP {L0 : LH} [LSub L0 L] {p : Nat} {r : Row} {m : TStamp} (hV : CellV I L0 p r) (hlen : r.vs.length ≤ 1000000000) (hk : ∀ pv, VerP I L0 pv (upTo r.vs m) → K pv I L) : Cal Tryz.prog ω 221 #[pt p, sv m] K I L :=
  upTo_spec hV hlen (fun h0 => hk _ (by rw [h0]; rfl)) (fun q off v h0 hc => hk _ (by rw [h0]; exact ⟨q, off, rfl, hc⟩))
theorem ViewF.cellAt {b m q : Nat} {kv : Value} {es : Array MapEntry} {clock : Nat} {ps : List Nat} {sp : Sp} {r : Row} {k : List UInt8} (h : ViewF I L b m kv es clock ps sp) (hs : SrtK (keysOf sp.rows)) (h1 : rowOf sp.rows k = some r) (h2 : cellsM ps sp.rows k = some (pt q)) : CellV I L q r := by
  obtain ⟨g1, g2⟩ | ⟨r', p, g1, g2, g3, g4⟩ := h.look hs k
  · rw [h1] at g1; cases g1
  · rw [h1] at g1; rw [h2] at g2
    cases g1; cases g2; exact g3
theorem get_spec {b : Nat} {sp : Sp} {a : Value} {k : List UInt8} {m : TStamp} {txn : Int} (hV : View I L b sp) (hs : SrtK (keysOf sp.rows)) (hvs : ∀ r ∈ sp.rows, r.vs.length ≤ 1000000000) (hB : Bytes I a k)
    (hk : ∀ I' v0, Ext I I' → Bytes I' v0 (getF sp k m txn).1.fValue → K (.tuple #[gvV (getF sp k m txn).1 v0, .int .i64 (getF sp k m txn).2]) I' L) :
    Cal Tryz.prog ω 149 #[pt b, a, sv m, .int .i64 txn] K I L := by
  obtain ⟨mm, kv, es, clock, ps, hV⟩ := hV
  have hz : ∀ I', Bytes I' (.slice none 0 0) [] := fun I' => SlI.nil I' 1 none 0
  refine cal149 ?_
  unfold sh149
  refine newI (fun b1 => newI (fun b2 => drawC ?_))
  try simp only [SSd, Nat.reduceAdd]
  refine rdCS (hV.head 0 _ rfl) (Ext.refl _) ?_
  refine bs_I hB (Ext.refl _) ?_
  refine ⟨_, fun I' L' hS => lk_at (MapAt.mono hV.at' hS.1 (fun x hx => hS.2 _ (by simp [hx]))) hV.map, ?_⟩
  refine call (iskey_spec hB ?_)
  have hc2 : Cells I L b 2 [.int .i64 sp.floor.fWall, .int .i64 sp.floor.fLogic] := by simpa using hV.head.sub (k := 2) (m := 2)
  have main : ∀ t : Bool, (t = true → keyOk k = false ∨ (rightB m && readerB txn) = false) → (t = false → ¬ (keyOk k = false ∨ (rightB m && readerB txn) = false)) →
      sh149_1 ω (pt b) (.int .i64 txn) (.pointer (some ⟨b1, 0, none⟩)) (.pointer (some ⟨b2, 0, none⟩)) (.int .i64 0) (lkV (.pointer none) false (cellsM ps sp.rows k)) (.bool t) (fun v => Gh (K v)) I
        ((b2, .cells #[.bool false, .slice none 0 0, .int .i64 0, .int .i64 0, .int .i64 0] 49 (0, 0)) :: (b1, Obj.cells #[.int .i64 m.fWall, .int .i64 m.fLogic] 41 (0, 0)) :: L) := by
    intro t ht hf
    unfold sh149_1
    refine br_split (fun e => ?_) (fun e => ?_)
    · have eg : getF sp k m txn = (gotN, 1) := by unfold getF; rw [if_pos (ht e)]
      rw [eg] at hk
      repeat' (first | (with_reducible refine drawC ?_) | (with_reducible refine drawW1 ?_) | (with_reducible refine drawW2 ?_) | (with_reducible refine keepC (by repeat (first | exact Ext.refl _ | assumption | refine Ext.trans ?_ (by assumption))) ?_) | (with_reducible refine newI (fun _ => ?_)) | first | (with_reducible refine rdb ?_) | ((with_reducible refine st1 ?_ ?_); rfl) | ((with_reducible refine rdB ?_ ?_); rfl) | (with_reducible refine rdbS ?_) | ((with_reducible refine rdBS ?_ ?_); rfl) | ((with_reducible refine stB ?_ ?_ ?_ ?_); rfl; rfl; exact one_all rfl) | ((with_reducible refine rdP _ rfl ?_ ?_); rfl) | ((with_reducible refine rdPS _ rfl ?_ ?_); rfl) | ((with_reducible refine stP _ rfl ?_ ?_ ?_ ?_); rfl; rfl; rfl) | (with_reducible refine unfE (sh149_1.eq_1 ..) ?_) | (with_reducible refine unfE (sh149.eq_1 ..) ?_) | (with_reducible refine And.intro ?_ ?_) | (simp only [Bool.not_true, Bool.not_false, Bool.and_self, Bool.true_and, Int.reduceBEq, Int.reduceBNe, Int.reduceLT, Int.reduceLE, decide_true, decide_false, Br_true, Br_false, Gd_tt, Gd_ft, Gd_tf, Gd_ff, beq_self_eq_true, bne_self_eq_false]) | (with_reducible refine gd_split (fun _ => ?_) (fun _ => ?_)) | (with_reducible refine br_split (fun _ => ?_) (fun _ => ?_)) | (simp only [SSd, Nat.reduceAdd]))
      exact Gh.to L (Gh.done (hk I _ (Ext.refl _) (hz I)))
    · have hf' := hf e
      refine drawC ?_
      try simp only [SSd, Nat.reduceAdd]
      refine rdNCS hc2 (Ext.refl _) rfl ?_
      refine rdBS rfl ?_
      refine call (behind_spec ?_)
      refine br_split (fun e2 => ?_) (fun e2 => ?_)
      · have eg : getF sp k m txn = (gotN, 131) := by unfold getF; rw [if_neg hf', if_pos e2]
        rw [eg] at hk
        repeat' (first | (with_reducible refine drawC ?_) | (with_reducible refine drawW1 ?_) | (with_reducible refine drawW2 ?_) | (with_reducible refine keepC (by repeat (first | exact Ext.refl _ | assumption | refine Ext.trans ?_ (by assumption))) ?_) | (with_reducible refine newI (fun _ => ?_)) | first | (with_reducible refine rdb ?_) | ((with_reducible refine st1 ?_ ?_); rfl) | ((with_reducible refine rdB ?_ ?_); rfl) | (with_reducible refine rdbS ?_) | ((with_reducible refine rdBS ?_ ?_); rfl) | ((with_reducible refine stB ?_ ?_ ?_ ?_); rfl; rfl; exact one_all rfl) | ((with_reducible refine rdP _ rfl ?_ ?_); rfl) | ((with_reducible refine rdPS _ rfl ?_ ?_); rfl) | ((with_reducible refine stP _ rfl ?_ ?_ ?_ ?_); rfl; rfl; rfl) | (with_reducible refine unfE (sh149_1.eq_1 ..) ?_) | (with_reducible refine unfE (sh149.eq_1 ..) ?_) | (with_reducible refine And.intro ?_ ?_) | (simp only [Bool.not_true, Bool.not_false, Bool.and_self, Bool.true_and, Int.reduceBEq, Int.reduceBNe, Int.reduceLT, Int.reduceLE, decide_true, decide_false, Br_true, Br_false, Gd_tt, Gd_ft, Gd_tf, Gd_ff, beq_self_eq_true, bne_self_eq_false]) | (with_reducible refine gd_split (fun _ => ?_) (fun _ => ?_)) | (with_reducible refine br_split (fun _ => ?_) (fun _ => ?_)) | (simp only [SSd, Nat.reduceAdd]))
        exact Gh.to L (Gh.done (hk I _ (Ext.refl _) (hz I)))
      · obtain ⟨h1, h2⟩ | ⟨r, p, h1, h2, h3, h4⟩ := hV.look hs k
        · have eg : getF sp k m txn = (gotN, 0) := by unfold getF; rw [if_neg hf', if_neg (by simp [e2]), h1]
          rw [eg] at hk
          rw [h2]
          have en : binPV .eql (lkV (.pointer none) false none) (.pointer none) = some (.bool true) := rfl
          simp only [en]
          repeat' (first | (with_reducible refine drawC ?_) | (with_reducible refine drawW1 ?_) | (with_reducible refine drawW2 ?_) | (with_reducible refine keepC (by repeat (first | exact Ext.refl _ | assumption | refine Ext.trans ?_ (by assumption))) ?_) | (with_reducible refine newI (fun _ => ?_)) | first | (with_reducible refine rdb ?_) | ((with_reducible refine st1 ?_ ?_); rfl) | ((with_reducible refine rdB ?_ ?_); rfl) | (with_reducible refine rdbS ?_) | ((with_reducible refine rdBS ?_ ?_); rfl) | ((with_reducible refine stB ?_ ?_ ?_ ?_); rfl; rfl; exact one_all rfl) | ((with_reducible refine rdP _ rfl ?_ ?_); rfl) | ((with_reducible refine rdPS _ rfl ?_ ?_); rfl) | ((with_reducible refine stP _ rfl ?_ ?_ ?_ ?_); rfl; rfl; rfl) | (with_reducible refine unfE (sh149_1.eq_1 ..) ?_) | (with_reducible refine unfE (sh149.eq_1 ..) ?_) | (with_reducible refine And.intro ?_ ?_) | (simp only [Bool.not_true, Bool.not_false, Bool.and_self, Bool.true_and, Int.reduceBEq, Int.reduceBNe, Int.reduceLT, Int.reduceLE, decide_true, decide_false, Br_true, Br_false, Gd_tt, Gd_ft, Gd_tf, Gd_ff, beq_self_eq_true, bne_self_eq_false]) | (with_reducible refine gd_split (fun _ => ?_) (fun _ => ?_)) | (with_reducible refine br_split (fun _ => ?_) (fun _ => ?_)) | (simp only [SSd, Nat.reduceAdd]))
          exact Gh.to L (Gh.done (hk I _ (Ext.refl _) (hz I)))
        · have eg : getF sp k m txn = seen r m txn := by unfold getF; rw [if_neg hf', if_neg (by simp [e2]), h1]
          rw [eg] at hk
          rw [h2]
          simp only [lkV, Bool.false_eq_true, if_false, SSd, Nat.reduceAdd]
          refine rdB rfl ?_
          refine call (cread_spec (h3.mono (Ext.refl _) (fun x hx => by simp [hx])) (hvs r (rowOf_mem h1)) (fun I' v0 hI' hB0 => ?_))
          try simp only [SSd, Nat.reduceAdd]
          refine stB rfl rfl ?_ ?_
          · obtain ⟨_, _, rfl⟩ := Bytes.form hB0; exact one_all rfl
          refine rdB rfl ?_
          exact Gh.to L (Gh.done (hk I' v0 hI' hB0))
  try simp only [SSd, Nat.reduceAdd]
  cases hkk : keyOk k with
  | false =>
    simp only [Bool.not_false, SSd, Nat.reduceAdd]
    exact main true (fun _ => .inl hkk) (by simp)
  | true =>
    simp only [Bool.not_true, SSd, Nat.reduceAdd]
    refine rdB rfl ?_
    refine call (ask_spec ?_)
    try simp only [SSd, Nat.reduceAdd]
    refine main _ (fun h => .inr (by rw [Bool.not_eq_true'] at h; exact h)) (fun h => by rw [Bool.not_eq_false'] at h; rw [hkk, h]; simp)
/-! ### The keys of a span, in turn -/
theorem inR_take {p : TSpan} {A B : List Row} (h : ∀ r ∈ A, blt r.key p.fFrom = true) : inR p (A ++ B) = inR p B := by
  unfold inR
  rw [List.filter_append, List.filter_eq_nil_iff.2 (fun r hr => by simp [inB, h r hr]), List.nil_append]
theorem inR_stop {p : TSpan} {r : Row} {rs : List Row} (hs : SrtK (keysOf (r :: rs))) (h0 : p.fTo ≠ []) (h : blt r.key p.fTo = false) : inR p (r :: rs) = [] := by
  unfold inR
  refine List.filter_eq_nil_iff.2 fun x hx => ?_
  have hx2 : blt x.key p.fTo = false := by
    rcases List.mem_cons.1 hx with rfl | hx
    · exact h
    · cases hb : blt x.key p.fTo with
      | false => rfl
      | true =>
        have h1 := (List.pairwise_cons.1 (show List.Pairwise _ (r.key :: keysOf rs) from hs)).1 _ (List.mem_map_of_mem hx)
        rw [blt_trans h1 hb] at h; cases h
  have h3 : p.fTo.length ≠ 0 := fun e => h0 (List.eq_nil_of_length_eq_zero e)
  simp [inB, hx2, h0]
theorem in_spec {yv : Value} {b m qs qp : Nat} {kv v0 v1 : Value} {es : Array MapEntry} {clock : Nat} {ps : List Nat} {sp : Sp} {p : TSpan} (J : List Row → M) (Post : M) (hs : SrtK (keysOf sp.rows)) (hlen : sp.rows.length ≤ 1000000000)
    (hJ : ∀ rs I' L', J rs I' L' → ViewF I' L' b m kv es clock ps sp ∧ Cell I' L' qs 0 (pt b) ∧ Cells I' L' qp 0 [v0, v1] ∧ Bytes I' v0 p.fFrom ∧ Bytes I' v1 p.fTo)
    (hstep : ∀ r rs I' L' q, J (r :: rs) I' L' → rowOf sp.rows r.key = some r → cellsM ps sp.rows r.key = some (pt q) → CalV Tryz.prog ω yv #[sstr r.key, pt q] (fun v => Gh fun I2 L2 => (v = .bool true ∧ J rs I2 L2) ∨ (v = .bool false ∧ Post I2 L2)) I' L')
    (hend : ∀ I' L', J [] I' L' → Post I' L') (h0 : J (inR p sp.rows) I L) (hk : ∀ I' L', Post I' L' → K (.tuple #[]) I' L') :
    Cal Tryz.prog ω 229 #[yv, pt qs, pt qp] K I L := by
  obtain ⟨hV, hqs, hqp, hB0, hB1⟩ := hJ _ _ _ h0
  refine cal229 ?_
  unfold sh229
  refine drawC ?_
  refine rdCS hqs (Ext.refl _) ?_
  try simp only [SSd, Nat.reduceAdd]
  refine rdCS (hV.head 1 _ rfl) (Ext.refl _) ?_
  refine rdCS (hqp 0 _ rfl) (Ext.refl _) ?_
  refine bs_I hB0 (Ext.refl _) ?_
  have hkl : (keysOf sp.rows).length = sp.rows.length := by simp [keysOf]
  refine call (bsearch_spec hV.keys (by omega) hs (fun i hi hlo hhi => ?_))
  try simp only [SSd, Nat.reduceAdd]
  refine rdC hqs (Ext.refl _) ?_
  try simp only [SSd, Nat.reduceAdd]
  refine rdC (hV.head 1 _ rfl) (Ext.refl _) ?_
  obtain ⟨kv', hsl, hK'⟩ := RL.part hV.keys (lo := i) (hi := (keysOf sp.rows).length) (by omega) (Nat.le_refl _) (some (.int .i64 i)) none (bnd_in _ _ _ _ (by omega)) (fun _ _ => rfl)
  rw [List.take_of_length_le (by simp)] at hK'
  simp only [hsl, RL.len hK', SSd, Nat.reduceAdd]
  have hrest : inR p sp.rows = inR p (sp.rows.drop i) := by
    conv => lhs; rw [← List.take_append_drop i sp.rows]
    refine inR_take fun r hr => hlo r.key ?_
    rw [show (keysOf sp.rows).take i = keysOf (sp.rows.take i) by simp [keysOf]]
    exact List.mem_map_of_mem hr
  rw [hrest] at h0
  have hdl : ((keysOf sp.rows).drop i).length = sp.rows.length - i := by simp [keysOf]
  rw [hdl]
  have hge : ∀ r ∈ sp.rows.drop i, blt r.key p.fFrom = false := fun r hr => hhi r.key (by
    rw [show (keysOf sp.rows).drop i = keysOf (sp.rows.drop i) by simp [keysOf]]
    exact List.mem_map_of_mem hr)
  refine loop (fun n s I' L' => ∃ j : Nat, n + j = sp.rows.length - i ∧ s = (.int .i64 j, ()) ∧ J (inR p ((sp.rows.drop i).drop j)) I' L') (sp.rows.length - i) ⟨0, rfl, rfl, by simpa using h0⟩ ?_
  rintro n s I' L' ⟨j, hnj, rfl, hj⟩
  obtain ⟨hV', hqs', hqp', hB0', hB1'⟩ := hJ _ _ _ hj
  unfold sh229_1
  try simp only [SSd, Nat.reduceAdd]
  refine br_split (fun e => ?_) (fun e => ?_)
  rotate_left
  · simp at e
    rw [List.drop_drop, List.drop_eq_nil_of_le (by omega)] at hj
    exact Gh.done (hk _ _ (hend _ _ hj))
  simp at e
  obtain ⟨kv2, hsl2, hK2⟩ := RL.part hV'.keys (lo := i) (hi := (keysOf sp.rows).length) (by omega) (Nat.le_refl _) (some (.int .i64 i)) none (bnd_in _ _ _ _ (by omega)) (fun _ _ => rfl)
  rw [List.take_of_length_le (by simp)] at hK2
  obtain rfl : kv2 = kv' := by rw [hsl] at hsl2; exact (Option.some.inj hsl2).symm
  obtain ⟨bb, off, c, hix, hl, hc, hcc⟩ := RL.ix hK2 (i := j) (by omega) (by omega)
  obtain rfl : c = _ := hc
  simp only [hix, SSd, Nat.reduceAdd]
  refine rdC (hcc I' L' (Ext.refl _) (fun _ h => h) 0 _ rfl) (Ext.refl _) ?_
  have hij : i + j < sp.rows.length := by omega
  have hkey : geti ((keysOf sp.rows).drop i) (j : Int) = sp.rows[i + j].key := by
    rw [geti_nat (by omega)]
    simp [keysOf]
  rw [hkey]
  have hd : (sp.rows.drop i).drop j = sp.rows[i + j] :: (sp.rows.drop i).drop (j + 1) := by
    rw [List.drop_drop, List.drop_drop, ← Nat.add_assoc]
    exact List.drop_eq_getElem_cons hij
  have hmem : sp.rows[i + j] ∈ sp.rows.drop i := by
    have : sp.rows[i + j] ∈ (sp.rows.drop i).drop j := by rw [hd]; exact List.mem_cons_self ..
    exact List.mem_of_mem_drop this
  have hsd : SrtK (keysOf (sp.rows[i + j] :: (sp.rows.drop i).drop (j + 1))) := by
    rw [← hd]; exact SrtK.sub hs ((List.drop_sublist ..).trans (List.drop_sublist ..))
  rw [hd] at hj
  have hg := hge _ hmem
  have e0 : sp.rows = sp.rows.take (i + j) ++ sp.rows[i + j] :: sp.rows.drop (i + j + 1) := by rw [← List.drop_eq_getElem_cons hij, List.take_append_drop]
  generalize sp.rows[i + j] = r at *
  have hrow : rowOf sp.rows r.key = some r := by
    have hm : Mid (sp.rows.take (i + j)) r.key (sp.rows.drop (i + j + 1)) := SrtK.mid (e0 ▸ hs)
    conv => lhs; rw [e0]
    exact rowOf_mid hm rfl
  have hrm : r ∈ sp.rows := List.mem_of_mem_drop hmem
  refine rdC (hqp' 1 _ rfl) (Ext.refl _) ?_
  simp only [Bytes.len hB1', SSd, Nat.reduceAdd]
  have fin : ∀ (hin : inB p r.key = true), Rv none (ld1R (.pointer (some ⟨qs, 0, none⟩))) (fun v28 => Pv (nilV v28) fun v29 => Pv (fldV 0 v29) fun v30 => Rv none (ld1R v30) fun v31 => Rv none (lkR .string (.pointer none) false v31 (sstr r.key)) fun v32 =>
      CalV Tryz.prog ω yv #[sstr r.key, v32] <| gh fun v33 => Pv (unV .not v33) fun v34 => Br v34 (Gh (K (.tuple #[]))) (Pv (binIV .add (.int .i64 j) (.int .i64 1)) fun v35 =>
        (fun s' => Gh fun I2 L2 => ∃ m', m' < n ∧ ∃ j : Nat, m' + j = sp.rows.length - i ∧ s' = (.int .i64 j, ()) ∧ J (inR p ((sp.rows.drop i).drop j)) I2 L2) (v35, ()))) I' L' := by
    intro hin
    refine rdC hqs' (Ext.refl _) ?_
    try simp only [SSd, Nat.reduceAdd]
    refine rdC (hV'.head 0 _ rfl) (Ext.refl _) ?_
    refine ⟨_, lk_at hV'.at' hV'.map, ?_⟩
    obtain ⟨h1, h2⟩ | ⟨r', q, h1, h2, h3, h4⟩ := hV'.look hs r.key
    · rw [hrow] at h1; cases h1
    obtain rfl : r' = r := by rw [hrow] at h1; exact (Option.some.inj h1).symm
    rw [h2]
    simp only [lkV, Bool.false_eq_true, if_false]
    have hj' : J (r' :: inR p ((sp.rows.drop i).drop (j + 1))) I' L' := by
      rw [show inR p (r' :: (sp.rows.drop i).drop (j + 1)) = r' :: inR p ((sp.rows.drop i).drop (j + 1)) by simp [inR, hin]] at hj
      exact hj
    refine CalV.mono (hstep r' _ I' L' q hj' hrow h2) (fun v I2 L2 hh => Gh.mono hh fun I2 L2 h => ?_)
    clear hh
    rcases h with ⟨rfl, h⟩ | ⟨rfl, h⟩
    · simp only [SSd, Nat.reduceAdd, Bool.not_true]
      rw [wrap_i64 _ (by omega)]
      exact Gh.done ⟨n - 1, by omega, j + 1, by omega, rfl, h⟩
    · simp only [SSd, Nat.reduceAdd, Bool.not_false]
      exact Gh.done (hk _ _ h)
  refine gd_split (fun e2 => ?_) (fun e2 => ?_)
  · simp at e2
    refine rdC (hqp' 1 _ rfl) (Ext.refl _) ?_
    refine bs_N hB1' (Ext.refl _) ?_
    simp only [sGe, SSd, Nat.reduceAdd]
    refine gd_split (fun e3 => ?_) (fun e3 => ?_)
    · have hlt : blt r.key p.fTo = true := by simpa using e3
      exact fin (by simp [inB, hg, hlt])
    · have hlt : blt r.key p.fTo = false := by simpa using e3
      rw [inR_stop hsd (fun e => by rw [e] at e2; exact absurd e2 (by simp)) hlt] at hj
      exact Gh.done (hk _ _ (hend _ _ hj))
  · simp at e2
    exact fin (by simp [inB, hg, e2])
theorem in0_spec {b : Nat} {v0 v1 : Value} (hk : ∀ qs qp, K (.func (.func 229) #[] #[pt qs, pt qp]) I ((qp, .cells #[v0, v1] 31 (0, 0)) :: (qs, .cells #[pt b] 99 (0, 0)) :: L)) :
    Cal Tryz.prog ω 177 #[pt b, .agg #[v0, v1]] K I L := by
  refine cal177 ?_
  unfold sh177
  exact newI (fun qs => newI (fun qp => Gh.done (hk qs qp)))
theorem rngIn {qs qp : Nat} {B : Value → Value → RB} {Kn : Nat → M} {Xs : Nat → List (Nat × M)} {Rr : Nat → M}
    (h : ∀ (l D : Nat) (Lo : LoF), (∀ a b K' I' L', YldM l Lo (B a b) K' I' L' → CalV Tryz.prog ω (.func (.yield l) #[] #[]) #[a, b] K' I' L') →
      Cal Tryz.prog ω 229 #[.func (.yield l) #[] #[], pt qs, pt qp] (fun _ => Gh (EndL l Lo (jumpM (Kn D) (Xs D) (Rr D)))) I ((l, Lo .ready none) :: (D, .deferred (some [])) :: L)) :
    RngF2 Tryz.prog ω (.func (.func 229) #[] #[pt qs, pt qp]) B Kn Xs Rr I L := by
  unfold RngF2 RngM
  simp only
  rw [if_pos (show entersB Tryz.prog 229 = true by kernel_rfl)]
  intro l D Lo _ hy
  exact h l D Lo (fun a b K' I' L' hh => hy [a, b] K' I' L' rfl hh)
end
end Go.Proofs.YtmmfcgbfbcamcaaGreatDoor
-- S3
set_option linter.unusedSimpArgs false
set_option linter.unusedVariables false
namespace Go.Proofs.YtmmfcgbfbcamcaaGreatDoor
open Go.SL
set_option maxRecDepth 10000
section
variable {ω : Om} {I : Imm} {L : LH} {K : Value → M}
theorem clipK_spec {X : LH} {v : Value} {cells : List Value} {len : Nat} (h : SlO 113 2 X v cells len) (hk : ∀ a', (∀ I' , SlI I' 2 v cells len → SlI I' 2 (.slice a' len len) cells len) → K (.slice a' len len) I L) : Cal Tryz.prog ω 215 #[v] K I L := by
  refine cal215 ?_
  unfold sh215
  obtain ⟨a, cap, rfl⟩ := h.form
  have hle : len ≤ cap := by
    rcases h.2 with ⟨_, h0, a', e⟩ | ⟨b, cap', cs, _, e, _, hle, _⟩
    · omega
    · cases e; exact hle
  have s1 : slcV 2 (.slice a len cap) none (some (.int .i64 len)) (some (.int .i64 len)) = some (.slice (if len = 0 then a else a.map (·.add (0 * 2))) len len) := by
    simp only [slcV, Option.isNone_some, Bool.false_and, Bool.false_eq_true, if_false, bnd_in _ _ _ _ hle, bnd_in _ _ _ _ (Nat.le_refl _), Option.bind_some, bnd0, Nat.sub_zero]
  simp only [s1, SSd, Nat.reduceAdd]
  refine Gh.done (hk _ fun I' ⟨h1, a', cap', e, h2, h3⟩ => ⟨h1, _, len, rfl, Nat.le_refl _, fun h0 => ?_⟩)
  obtain ⟨b, off, cs, T, fr, h4, hm, hcs⟩ := h3 h0
  cases e
  subst h4
  exact ⟨b, off, cs, T, fr, by rw [if_neg h0]; simp [add_none], hm, hcs⟩
theorem scan2 {b4 b8 len cap T4 T8 : Nat} {a : Option Addr} {most : Int} {Nk : M} {Xk : Nat → M} [h8 : InL b8 L (.cells #[.slice a len cap] T8 (0, 0))] [h4 : InL b4 L (.cells #[.int .i64 most] T4 (0, 0))] (hx : (len : Int) = most → Xk 1 I L) (hn : ¬ (len : Int) = most → Nk I L) :
    sh152_2 ω (.pointer (some ⟨b4, 0, none⟩)) (.pointer (some ⟨b8, 0, none⟩)) Nk Xk K I L := by
  unfold sh152_2
  refine rd1 (Cell.own h8.mem rfl) ?_
  try simp only [SSd, Nat.reduceAdd]
  refine rd1 (Cell.own h4.mem rfl) ?_
  try simp only [SSd, Nat.reduceAdd]
  refine br_split (fun e => hx (by simpa using e)) (fun e => hn (by simpa using e))
theorem scan_spec {b : Nat} {sp : Sp} {p : TSpan} {pc : List Value} {m : TStamp} {txn most : Int} (hV : View I L b sp) (hs : SrtK (keysOf sp.rows)) (hlen : sp.rows.length ≤ 1000000000) (hvs : ∀ r ∈ sp.rows, r.vs.length ≤ 1000000000) (hp : TSpanV I p pc)
    (hk : ∀ I' v, Ext I I' → RL TKVV 2 I' [] v (scanF sp p m txn most).1 → K (.tuple #[v, .int .i64 (scanF sp p m txn most).2.1, .int .i64 (scanF sp p m txn most).2.2]) I' L) :
    Cal Tryz.prog ω 152 #[pt b, .agg pc.toArray, sv m, .int .i64 txn, .int .i64 most] K I L := by
  obtain ⟨v0, v1, rfl, hb0, hb1⟩ := hp
  refine cal152 ?_
  unfold sh152
  refine newI (fun b1 => newI (fun b2 => newI (fun b3 => newI (fun b4 => newI (fun b5 => newI (fun b6 => newI (fun b7 => ?_)))))))
  refine rdB rfl ?_
  refine rdb ?_
  refine call (ask_spec ?_)
  have main : ∀ t : Bool, (t = true → (rightB m && readerB txn) = false ∨ most < 1) → (t = false → ¬ ((rightB m && readerB txn) = false ∨ most < 1)) →
      sh152_1 ω (pt b) (pt b1) (pt b2) (pt b3) (pt b4) (pt b5) (pt b6) (pt b7) (.bool t) (fun v => Gh (K v)) I
        ((b7, .cells #[.int .i64 0] 26 (0, 0)) :: (b6, .cells #[.int .i64 0] 3 (0, 0)) :: (b5, .cells #[.slice none 0 0] 50 (0, 0)) :: (b4, .cells #[.int .i64 most] 3 (0, 0)) :: (b3, .cells #[.int .i64 txn] 3 (0, 0)) :: (b2, Obj.cells #[.int .i64 m.fWall, .int .i64 m.fLogic] 41 (0, 0)) :: (b1, Obj.cells #[v0, v1] 31 (0, 0)) :: L) := by
    intro t ht hf
    unfold sh152_1
    refine br_split (fun e => ?_) (fun e => ?_)
    · have eg : scanF sp p m txn most = ([], 0, 1) := by unfold scanF; rw [if_pos (ht e)]
      rw [eg] at hk
      repeat' (first | (with_reducible refine drawC ?_) | (with_reducible refine drawW1 ?_) | (with_reducible refine drawW2 ?_) | (with_reducible refine keepC (by repeat (first | exact Ext.refl _ | assumption | refine Ext.trans ?_ (by assumption))) ?_) | (with_reducible refine newI (fun _ => ?_)) | first | (with_reducible refine rdb ?_) | ((with_reducible refine st1 ?_ ?_); rfl) | ((with_reducible refine rdB ?_ ?_); rfl) | (with_reducible refine rdbS ?_) | ((with_reducible refine rdBS ?_ ?_); rfl) | ((with_reducible refine stB ?_ ?_ ?_ ?_); rfl; rfl; exact one_all rfl) | ((with_reducible refine rdP _ rfl ?_ ?_); rfl) | ((with_reducible refine rdPS _ rfl ?_ ?_); rfl) | ((with_reducible refine stP _ rfl ?_ ?_ ?_ ?_); rfl; rfl; rfl) | (with_reducible refine unfE (sh152_2.eq_1 ..) ?_) | (with_reducible refine unfE (sh152_4.eq_1 ..) ?_) | (with_reducible refine unfE (sh152_1.eq_1 ..) ?_) | (with_reducible refine unfE (sh152.eq_1 ..) ?_) | (with_reducible refine And.intro ?_ ?_) | (simp only [Bool.not_true, Bool.not_false, Bool.and_self, Bool.true_and, Int.reduceBEq, Int.reduceBNe, Int.reduceLT, Int.reduceLE, decide_true, decide_false, Br_true, Br_false, Gd_tt, Gd_ft, Gd_tf, Gd_ff, beq_self_eq_true, bne_self_eq_false]) | (with_reducible refine gd_split (fun _ => ?_) (fun _ => ?_)) | (with_reducible refine br_split (fun _ => ?_) (fun _ => ?_)) | (simp only [SSd, Nat.reduceAdd]))
      exact Gh.to L (Gh.done (hk I _ (Ext.refl _) (RL.nil _ _)))
    · have hf' := hf e
      obtain ⟨mm, kv, es, clock, ps, hV⟩ := hV
      have hc2 : Cells I L b 2 [.int .i64 sp.floor.fWall, .int .i64 sp.floor.fLogic] := by simpa using hV.head.sub (k := 2) (m := 2)
      refine drawC ?_
      try simp only [SSd, Nat.reduceAdd]
      refine rdNCS hc2 (Ext.refl _) rfl ?_
      refine rdBS rfl ?_
      refine call (behind_spec ?_)
      refine br_split (fun e2 => ?_) (fun e2 => ?_)
      · have eg : scanF sp p m txn most = ([], 0, 131) := by unfold scanF; rw [if_neg hf', if_pos e2]
        rw [eg] at hk
        repeat' (first | (with_reducible refine drawC ?_) | (with_reducible refine drawW1 ?_) | (with_reducible refine drawW2 ?_) | (with_reducible refine keepC (by repeat (first | exact Ext.refl _ | assumption | refine Ext.trans ?_ (by assumption))) ?_) | (with_reducible refine newI (fun _ => ?_)) | first | (with_reducible refine rdb ?_) | ((with_reducible refine st1 ?_ ?_); rfl) | ((with_reducible refine rdB ?_ ?_); rfl) | (with_reducible refine rdbS ?_) | ((with_reducible refine rdBS ?_ ?_); rfl) | ((with_reducible refine stB ?_ ?_ ?_ ?_); rfl; rfl; exact one_all rfl) | ((with_reducible refine rdP _ rfl ?_ ?_); rfl) | ((with_reducible refine rdPS _ rfl ?_ ?_); rfl) | ((with_reducible refine stP _ rfl ?_ ?_ ?_ ?_); rfl; rfl; rfl) | (with_reducible refine unfE (sh152_2.eq_1 ..) ?_) | (with_reducible refine unfE (sh152_4.eq_1 ..) ?_) | (with_reducible refine unfE (sh152_1.eq_1 ..) ?_) | (with_reducible refine unfE (sh152.eq_1 ..) ?_) | (with_reducible refine And.intro ?_ ?_) | (simp only [Bool.not_true, Bool.not_false, Bool.and_self, Bool.true_and, Int.reduceBEq, Int.reduceBNe, Int.reduceLT, Int.reduceLE, decide_true, decide_false, Br_true, Br_false, Gd_tt, Gd_ft, Gd_tf, Gd_ff, beq_self_eq_true, bne_self_eq_false]) | (with_reducible refine gd_split (fun _ => ?_) (fun _ => ?_)) | (with_reducible refine br_split (fun _ => ?_) (fun _ => ?_)) | (simp only [SSd, Nat.reduceAdd]))
        exact Gh.to L (Gh.done (hk I _ (Ext.refl _) (RL.nil _ _)))
      · have eg : scanF sp p m txn most = scanL m txn most (inR p sp.rows) [] := by unfold scanF; rw [if_neg hf', if_neg (by simp [e2])]
        rw [eg] at hk
        refine newI (fun b8 => ?_)
        refine rdB rfl ?_
        refine call (in0_spec (fun qs qp => ?_))
        refine rngIn (fun l D Lo hy => ?_)
        have hfin : ∀ (s : LoopState) (j : Option Code) (hs : s ≠ .busy) (hj : j = none ∨ j = some (.exit 1)) (I2 : Imm) (XO : LH) (vo : Value) (acc : List TKV) (cells : List Value), Ext I I2 → SlO 113 2 XO vo cells acc.length → Recs (TKVV I2) 2 acc cells → scanL m txn most (inR p sp.rows) [] = (acc, 0, 0) →
            EndL l Lo (jumpM (sh152_4 ω (pt b5) (pt b6) (pt b7) (.pointer (some ⟨b8, 0, none⟩)) D fun v => Gh (K v)) [(1, sh152_4 ω (pt b5) (pt b6) (pt b7) (.pointer (some ⟨b8, 0, none⟩)) D fun v => Gh (K v))]
              (Tak D (Rv none (ld1R (pt b5)) fun v20 => Rv none (ld1R (pt b6)) fun v21 => Rv none (ld1R (pt b7)) fun v22 => Gh (K (.tuple #[v20, v21, v22]))))) I2
              ((l, Lo s j) :: (D, .deferred (some [])) :: (qp, .cells #[v0, v1] 31 (0, 0)) :: (qs, .cells #[pt b] 99 (0, 0)) :: (b8, .cells #[vo] 50 (0, 0)) :: (b7, .cells #[.int .i64 0] 26 (0, 0)) :: (b6, .cells #[.int .i64 0] 3 (0, 0)) :: (b5, .cells #[.slice none 0 0] 50 (0, 0)) :: (b4, .cells #[.int .i64 most] 3 (0, 0)) :: (b3, .cells #[.int .i64 txn] 3 (0, 0)) :: (b2, Obj.cells #[.int .i64 m.fWall, .int .i64 m.fLogic] 41 (0, 0)) :: (b1, Obj.cells #[v0, v1] 31 (0, 0)) :: (XO ++ L)) := by
          intro s j hs hj I2 XO vo acc cells hI2 hO hR hsc
          refine endL (s := s) (j := j) hs ?_
          have body : sh152_4 ω (pt b5) (pt b6) (pt b7) (.pointer (some ⟨b8, 0, none⟩)) D (fun v => Gh (K v)) I2
              ((D, .deferred (some [])) :: (qp, .cells #[v0, v1] 31 (0, 0)) :: (qs, .cells #[pt b] 99 (0, 0)) :: (b8, .cells #[vo] 50 (0, 0)) :: (b7, .cells #[.int .i64 0] 26 (0, 0)) :: (b6, .cells #[.int .i64 0] 3 (0, 0)) :: (b5, .cells #[.slice none 0 0] 50 (0, 0)) :: (b4, .cells #[.int .i64 most] 3 (0, 0)) :: (b3, .cells #[.int .i64 txn] 3 (0, 0)) :: (b2, Obj.cells #[.int .i64 m.fWall, .int .i64 m.fLogic] 41 (0, 0)) :: (b1, Obj.cells #[v0, v1] 31 (0, 0)) :: (XO ++ L)) := by
            unfold sh152_4
            refine rdb ?_
            refine call (clipK_spec hO (fun v' hv' => ?_))
            refine st1 rfl ?_
            refine st1 rfl ?_
            refine st1 rfl ?_
            refine tak ?_
            refine rdb (rdb (rdb ?_))
            refine Gh.to (XO ++ L) (SlO.freeze hO (fun I3 hI3 hSl => Gh.done ?_))
            rw [hsc] at hk
            exact hk I3 _ (hI2.trans hI3) (RL.ofI (hv' _ hSl) (hR.imp fun x c h => h.mono hI3))
          rcases hj with rfl | rfl
          · exact body
          · exact body
        refine in_spec (J := fun rs I' L' => Ext I I' ∧ ∃ XO vo acc cells, L' = (l, Lo .ready none) :: (D, .deferred (some [])) :: (qp, .cells #[v0, v1] 31 (0, 0)) :: (qs, .cells #[pt b] 99 (0, 0)) :: (b8, .cells #[vo] 50 (0, 0)) :: (b7, .cells #[.int .i64 0] 26 (0, 0)) :: (b6, .cells #[.int .i64 0] 3 (0, 0)) :: (b5, .cells #[.slice none 0 0] 50 (0, 0)) :: (b4, .cells #[.int .i64 most] 3 (0, 0)) :: (b3, .cells #[.int .i64 txn] 3 (0, 0)) :: (b2, Obj.cells #[.int .i64 m.fWall, .int .i64 m.fLogic] 41 (0, 0)) :: (b1, Obj.cells #[v0, v1] 31 (0, 0)) :: (XO ++ L) ∧
            SlO 113 2 XO vo cells acc.length ∧ Recs (TKVV I') 2 acc cells ∧ acc.length + rs.length ≤ 1000000000 ∧ scanL m txn most rs acc = scanL m txn most (inR p sp.rows) []) (Post := EndL l Lo (jumpM (sh152_4 ω (pt b5) (pt b6) (pt b7) (.pointer (some ⟨b8, 0, none⟩)) D fun v => Gh (K v)) [(1, sh152_4 ω (pt b5) (pt b6) (pt b7) (.pointer (some ⟨b8, 0, none⟩)) D fun v => Gh (K v))]
              (Tak D (Rv none (ld1R (pt b5)) fun v20 => Rv none (ld1R (pt b6)) fun v21 => Rv none (ld1R (pt b7)) fun v22 => Gh (K (.tuple #[v20, v21, v22])))))) (p := p) (v0 := v0) (v1 := v1) (sp := sp) (b := b) (m := mm) (kv := kv) (es := es) (clock := clock) (ps := ps) hs hlen ?_ ?_ ?_ ?_ (fun I' L' h => Gh.done h)
        · rintro rs I' L' ⟨hI, XO, vo, acc, cells, rfl, _⟩
          exact ⟨hV.mono hI (fun x hx => by simp [hx]), Cell.own (b := qs) (cs := #[pt b]) (T := 99) (fr := (0, 0)) (by simp) rfl, own_cells (l := [v0, v1]) (T := 31) (fr := (0, 0)) (by simp) 2, hb0.mono hI, hb1.mono hI⟩
        · rintro r rs I' L' q ⟨hI, XO, vo, acc, cells, rfl, hO, hR, hlen2, hsc⟩ hrow hcl
          have hC := hV.cellAt hs hrow hcl
          simp only [List.length_cons] at hlen2
          refine hy _ _ _ _ _ (yldM ?_)
          refine begR ?_
          refine rdB rfl ?_
          refine rdb ?_
          refine call (cread_spec (hC.mono hI (fun x hx => by simp [hx])) (hvs r (rowOf_mem hrow)) (fun I2 g0 hI2 hg0 => ?_))
          obtain ⟨ga, gc, rfl⟩ := Bytes.form hg0
          try simp only [SSd, Nat.reduceAdd]
          refine newI (fun b9 => ?_)
          refine stB rfl rfl (one_all rfl) ?_
          try simp only [SSd, Nat.reduceAdd]
          refine br_split (fun e3 => ?_) (fun e3 => ?_)
          · have e3' : (seen r m txn).2 ≠ 0 := by simpa using e3
            simp only [scanL] at hsc
            rw [if_pos e3'] at hsc
            refine drawW1 ?_
            try simp only [SSd, Nat.reduceAdd]
            refine rdbS ?_
            refine st1 rfl ?_
            refine keepC (Ext.refl _) ?_
            refine st1 rfl ?_
            refine st1 rfl ?_
            refine endRX ?_
            refine Gh.to ((l, Lo .done (some .ret)) :: (D, .deferred (some [])) :: (b7, .cells #[.int .i64 (seen r m txn).2] 26 (0, 0)) :: (b6, .cells #[.int .i64 (seen r m txn).1.fBy] 3 (0, 0)) :: (b5, .cells #[.slice none 0 0] 50 (0, 0)) :: L) (Gh.done (.inr ⟨rfl, ?_⟩))
            refine endL (s := .done) (j := some .ret) (by simp) ?_
            refine tak (rdb (rdb (rdb ?_)))
            rw [← hsc] at hk
            exact Gh.to L (Gh.done (hk I2 _ (hI.trans hI2) (RL.nil _ _)))
          · have e3' : ¬ ((seen r m txn).2 ≠ 0) := by simpa using e3
            simp only [scanL] at hsc
            rw [if_neg e3'] at hsc
            try simp only [SSd, Nat.reduceAdd]
            refine rdb ?_
            refine br_split (fun e4 => ?_) (fun e4 => ?_)
            · refine rdb ?_
              refine cvsb (fun ku I3 hI3 hKB => Gh.done ?_)
              obtain ⟨ka, kc, rfl⟩ := Bytes.form hKB
              refine rdb ?_
              try simp only [SSd, Nat.reduceAdd]
              refine rec_app (R := TKVV) (X6 := XO) (x := ⟨r.key, (seen r m txn).1.fValue⟩) rfl (by omega) hO (hR.imp fun x c h => h.mono (hI2.trans hI3)) ⟨_, _, rfl, hKB, hg0.mono hI3⟩ rfl (one_all rfl) (by omega) (by omega) (fun X1 X6 v6 cells6 h6 hR6 => ?_)
              have hpush : push r (seen r m txn).1 acc = acc ++ [⟨r.key, (seen r m txn).1.fValue⟩] := by unfold push; rw [if_pos e4]
              rw [hpush] at hsc
              obtain ⟨a6, c6, rfl⟩ := h6.form
              refine st1 rfl ?_
              refine scan2 (fun hm => endRX ?_) (fun hm => endR ?_)
              · rw [if_pos hm] at hsc
                refine Gh.to ((l, Lo .done (some (.exit 1))) :: (D, .deferred (some [])) :: (qp, .cells #[v0, v1] 31 (0, 0)) :: (qs, .cells #[pt b] 99 (0, 0)) :: (b8, .cells #[.slice a6 (acc ++ [(⟨r.key, (seen r m txn).1.fValue⟩ : TKV)]).length c6] 50 (0, 0)) :: (b7, .cells #[.int .i64 0] 26 (0, 0)) :: (b6, .cells #[.int .i64 0] 3 (0, 0)) :: (b5, .cells #[.slice none 0 0] 50 (0, 0)) :: (b4, .cells #[.int .i64 most] 3 (0, 0)) :: (b3, .cells #[.int .i64 txn] 3 (0, 0)) :: (b2, Obj.cells #[.int .i64 m.fWall, .int .i64 m.fLogic] 41 (0, 0)) :: (b1, Obj.cells #[v0, v1] 31 (0, 0)) :: (X6 ++ L)) (Gh.done (.inr ⟨rfl, ?_⟩))
                exact hfin .done (some (.exit 1)) (by simp) (.inr rfl) I3 X6 _ _ cells6 (hI.trans (hI2.trans hI3)) h6 hR6 hsc.symm
              · rw [if_neg hm] at hsc
                refine Gh.to ((l, Lo .ready none) :: (D, .deferred (some [])) :: (qp, .cells #[v0, v1] 31 (0, 0)) :: (qs, .cells #[pt b] 99 (0, 0)) :: (b8, .cells #[.slice a6 (acc ++ [(⟨r.key, (seen r m txn).1.fValue⟩ : TKV)]).length c6] 50 (0, 0)) :: (b7, .cells #[.int .i64 0] 26 (0, 0)) :: (b6, .cells #[.int .i64 0] 3 (0, 0)) :: (b5, .cells #[.slice none 0 0] 50 (0, 0)) :: (b4, .cells #[.int .i64 most] 3 (0, 0)) :: (b3, .cells #[.int .i64 txn] 3 (0, 0)) :: (b2, Obj.cells #[.int .i64 m.fWall, .int .i64 m.fLogic] 41 (0, 0)) :: (b1, Obj.cells #[v0, v1] 31 (0, 0)) :: (X6 ++ L)) (Gh.done (.inl ⟨rfl, hI.trans (hI2.trans hI3), X6, _, _, cells6, rfl, h6, hR6, by simp; omega, hsc⟩))
            · have hpush : push r (seen r m txn).1 acc = acc := by unfold push; rw [if_neg (by simp [e4])]
              rw [hpush] at hsc
              obtain ⟨a6, c6, rfl⟩ := hO.form
              refine scan2 (fun hm => endRX ?_) (fun hm => endR ?_)
              · rw [if_pos hm] at hsc
                refine Gh.to ((l, Lo .done (some (.exit 1))) :: (D, .deferred (some [])) :: (qp, .cells #[v0, v1] 31 (0, 0)) :: (qs, .cells #[pt b] 99 (0, 0)) :: (b8, .cells #[.slice a6 acc.length c6] 50 (0, 0)) :: (b7, .cells #[.int .i64 0] 26 (0, 0)) :: (b6, .cells #[.int .i64 0] 3 (0, 0)) :: (b5, .cells #[.slice none 0 0] 50 (0, 0)) :: (b4, .cells #[.int .i64 most] 3 (0, 0)) :: (b3, .cells #[.int .i64 txn] 3 (0, 0)) :: (b2, Obj.cells #[.int .i64 m.fWall, .int .i64 m.fLogic] 41 (0, 0)) :: (b1, Obj.cells #[v0, v1] 31 (0, 0)) :: (XO ++ L)) (Gh.done (.inr ⟨rfl, ?_⟩))
                exact hfin .done (some (.exit 1)) (by simp) (.inr rfl) I2 XO _ _ cells (hI.trans hI2) hO (hR.imp fun x c h => h.mono hI2) hsc.symm
              · rw [if_neg hm] at hsc
                refine Gh.to ((l, Lo .ready none) :: (D, .deferred (some [])) :: (qp, .cells #[v0, v1] 31 (0, 0)) :: (qs, .cells #[pt b] 99 (0, 0)) :: (b8, .cells #[.slice a6 acc.length c6] 50 (0, 0)) :: (b7, .cells #[.int .i64 0] 26 (0, 0)) :: (b6, .cells #[.int .i64 0] 3 (0, 0)) :: (b5, .cells #[.slice none 0 0] 50 (0, 0)) :: (b4, .cells #[.int .i64 most] 3 (0, 0)) :: (b3, .cells #[.int .i64 txn] 3 (0, 0)) :: (b2, Obj.cells #[.int .i64 m.fWall, .int .i64 m.fLogic] 41 (0, 0)) :: (b1, Obj.cells #[v0, v1] 31 (0, 0)) :: (XO ++ L)) (Gh.done (.inl ⟨rfl, hI.trans hI2, XO, _, _, cells, rfl, hO, hR.imp fun x c h => h.mono hI2, by omega, hsc⟩))
        · rintro I' L' ⟨hI, XO, vo, acc, cells, rfl, hO, hR, hlen2, hsc⟩
          exact hfin .ready none (by simp) (.inl rfl) I' XO vo acc cells hI hO hR hsc.symm
        · refine ⟨Ext.refl _, [], _, [], [], rfl, SlO.none _ _, rfl, ?_, rfl⟩
          have := List.length_filter_le (fun r : Row => inB p r.key) sp.rows
          simp [inR]; omega
  cases hq : (rightB m && readerB txn) with
  | false =>
    simp only [Bool.not_false, SSd, Nat.reduceAdd]
    exact main true (fun _ => .inl hq) (by simp)
  | true =>
    simp only [Bool.not_true, SSd, Nat.reduceAdd]
    refine rdb ?_
    try simp only [SSd, Nat.reduceAdd]
    exact main _ (fun h => .inr (by simpa using h)) (fun h => by rw [hq]; simpa using h)
/-! ### What has changed -/
theorem chg_tail {L0 : LH} [LSub L0 L] {q b2 b3 : Nat} {r : Row} {a b : TStamp} {X Nk : M} [h2 : InL b2 L (.cells #[.int .i64 a.fWall, .int .i64 a.fLogic] 41 (0, 0))] [h3 : InL b3 L (.cells #[.int .i64 b.fWall, .int .i64 b.fLogic] 41 (0, 0))]
    (hC : CellV I L0 q r) (hlen : r.vs.length ≤ 1000000000) (hx : lateB a b r.vs = true → X I L) (hn : lateB a b r.vs = false → Nk I L) :
    (Rv none (ldNR 2 (.pointer (some ⟨b3, 0, none⟩))) fun v => Cal Tryz.prog ω 221 #[pt q, v] <| gh fun w => Draw fun S => Pv (binPV .neq w (.pointer none)) fun x => Gd x true (Pv (nilV w) fun y => Pv (fldV 0 y) fun z => Rv (some S) (ldNR 2 z) fun z2 => Rv (some S) (ldNR 2 (.pointer (some ⟨b2, 0, none⟩))) fun z3 =>
      Cal Tryz.prog ω 213 #[z2, z3] <| gh fun z4 => Br z4 X Nk) Nk) I L := by
  refine rdN (vs := [.int .i64 b.fWall, .int .i64 b.fLogic]) rfl (fun j u hu => Cell.own h3.mem (by simpa using hu)) ?_
  refine call (upToP hC hlen (fun pv hpv => ?_))
  refine drawC ?_
  unfold lateB at hx hn
  cases hu : upTo r.vs b with
  | none =>
    rw [hu] at hpv hx hn
    obtain rfl : pv = .pointer none := hpv
    have e : binPV .neq (.pointer none) (.pointer none) = some (.bool false) := rfl
    simp only [e, SSd, Nat.reduceAdd]
    exact hn rfl
  | some v =>
    rw [hu] at hpv hx hn
    obtain ⟨qq, off, rfl, hc⟩ := hpv
    obtain ⟨g1, _, _⟩ := verAt hc
    try simp only [SSd, Nat.reduceAdd]
    refine rdNCS g1 (Ext.refl _) rfl ?_
    refine rdNS (vs := [.int .i64 a.fWall, .int .i64 a.fLogic]) rfl (fun I' L' hS j u hu => Cell.own (hS.2 _ h2.mem) (by simpa using hu)) ?_
    refine call (behind_spec (x := v.fAt) (y := a) ?_)
    exact br_split (fun e => hx e) (fun e => hn e)
abbrev chgL (b b1 b2 b3 b4 b5 b6 qs qp D : Nat) (v0 v1 : Value) (fr to : TStamp) (txn : Int) (v5 v6 : Value) (L : LH) : LH :=
  (D, .deferred (some [])) :: (qp, .cells #[v0, v1] 31 (0, 0)) :: (qs, .cells #[pt b] 99 (0, 0)) :: (b6, .cells #[v6] 26 (0, 0)) :: (b5, .cells #[v5] 4 (0, 0)) :: (b4, .cells #[.int .i64 txn] 3 (0, 0)) :: (b3, .cells #[.int .i64 to.fWall, .int .i64 to.fLogic] 41 (0, 0)) :: (b2, .cells #[.int .i64 fr.fWall, .int .i64 fr.fLogic] 41 (0, 0)) :: (b1, .cells #[v0, v1] 31 (0, 0)) :: L
theorem changed_spec {b : Nat} {sp : Sp} {p : TSpan} {pc : List Value} {fr to : TStamp} {txn : Int} (hV : View I L b sp) (hs : SrtK (keysOf sp.rows)) (hlen : sp.rows.length ≤ 1000000000) (hvs : ∀ r ∈ sp.rows, r.vs.length ≤ 1000000000) (hp : TSpanV I p pc)
    (hk : K (.tuple #[.bool (chF sp p fr to txn).1, .int .i64 (chF sp p fr to txn).2]) I L) :
    Cal Tryz.prog ω 159 #[pt b, .agg pc.toArray, sv fr, sv to, .int .i64 txn] K I L := by
  obtain ⟨v0, v1, rfl, hb0, hb1⟩ := hp
  refine cal159 ?_
  unfold sh159
  refine newI (fun b1 => newI (fun b2 => newI (fun b3 => newI (fun b4 => newI (fun b5 => newI (fun b6 => ?_))))))
  refine rdB rfl ?_
  refine rdb ?_
  refine call (ask_spec ?_)
  have main : ∀ t : Bool, (t = true → (rightB fr && readerB txn) = false ∨ rightB to = false) → (t = false → ¬ ((rightB fr && readerB txn) = false ∨ rightB to = false)) →
      sh159_1 ω (pt b) (pt b1) (pt b2) (pt b3) (pt b4) (pt b5) (pt b6) (.bool t) (fun v => Gh (K v)) I
        ((b6, .cells #[.int .i64 0] 26 (0, 0)) :: (b5, .cells #[.bool false] 4 (0, 0)) :: (b4, .cells #[.int .i64 txn] 3 (0, 0)) :: (b3, .cells #[.int .i64 to.fWall, .int .i64 to.fLogic] 41 (0, 0)) :: (b2, .cells #[.int .i64 fr.fWall, .int .i64 fr.fLogic] 41 (0, 0)) :: (b1, .cells #[v0, v1] 31 (0, 0)) :: L) := by
    intro t ht hf
    unfold sh159_1
    refine br_split (fun e => ?_) (fun e => ?_)
    · have eg : chF sp p fr to txn = (false, 1) := by unfold chF; rw [if_pos (ht e)]
      rw [eg] at hk
      repeat' (first | (with_reducible refine drawC ?_) | (with_reducible refine drawW1 ?_) | (with_reducible refine drawW2 ?_) | (with_reducible refine keepC (by repeat (first | exact Ext.refl _ | assumption | refine Ext.trans ?_ (by assumption))) ?_) | (with_reducible refine newI (fun _ => ?_)) | first | (with_reducible refine rdb ?_) | ((with_reducible refine st1 ?_ ?_); rfl) | ((with_reducible refine rdB ?_ ?_); rfl) | (with_reducible refine rdbS ?_) | ((with_reducible refine rdBS ?_ ?_); rfl) | ((with_reducible refine stB ?_ ?_ ?_ ?_); rfl; rfl; exact one_all rfl) | ((with_reducible refine rdP _ rfl ?_ ?_); rfl) | ((with_reducible refine rdPS _ rfl ?_ ?_); rfl) | ((with_reducible refine stP _ rfl ?_ ?_ ?_ ?_); rfl; rfl; rfl) | (with_reducible refine unfE (sh159_2.eq_1 ..) ?_) | (with_reducible refine unfE (sh159_3.eq_1 ..) ?_) | (with_reducible refine unfE (sh159_5.eq_1 ..) ?_) | (with_reducible refine unfE (sh159_1.eq_1 ..) ?_) | (with_reducible refine unfE (sh159.eq_1 ..) ?_) | (with_reducible refine And.intro ?_ ?_) | (simp only [Bool.not_true, Bool.not_false, Bool.and_self, Bool.true_and, Int.reduceBEq, Int.reduceBNe, Int.reduceLT, Int.reduceLE, decide_true, decide_false, Br_true, Br_false, Gd_tt, Gd_ft, Gd_tf, Gd_ff, beq_self_eq_true, bne_self_eq_false]) | (with_reducible refine gd_split (fun _ => ?_) (fun _ => ?_)) | (with_reducible refine br_split (fun _ => ?_) (fun _ => ?_)) | (simp only [SSd, Nat.reduceAdd]))
      exact Gh.to L (Gh.done hk)
    · have hf' := hf e
      obtain ⟨mm, kv, es, clock, ps, hV⟩ := hV
      have hc2 : Cells I L b 2 [.int .i64 sp.floor.fWall, .int .i64 sp.floor.fLogic] := by simpa using hV.head.sub (k := 2) (m := 2)
      refine drawC ?_
      try simp only [SSd, Nat.reduceAdd]
      refine rdNCS hc2 (Ext.refl _) rfl ?_
      refine rdBS rfl ?_
      refine call (behind_spec ?_)
      refine br_split (fun e2 => ?_) (fun e2 => ?_)
      · have eg : chF sp p fr to txn = (false, 131) := by unfold chF; rw [if_neg hf', if_pos e2]
        rw [eg] at hk
        repeat' (first | (with_reducible refine drawC ?_) | (with_reducible refine drawW1 ?_) | (with_reducible refine drawW2 ?_) | (with_reducible refine keepC (by repeat (first | exact Ext.refl _ | assumption | refine Ext.trans ?_ (by assumption))) ?_) | (with_reducible refine newI (fun _ => ?_)) | first | (with_reducible refine rdb ?_) | ((with_reducible refine st1 ?_ ?_); rfl) | ((with_reducible refine rdB ?_ ?_); rfl) | (with_reducible refine rdbS ?_) | ((with_reducible refine rdBS ?_ ?_); rfl) | ((with_reducible refine stB ?_ ?_ ?_ ?_); rfl; rfl; exact one_all rfl) | ((with_reducible refine rdP _ rfl ?_ ?_); rfl) | ((with_reducible refine rdPS _ rfl ?_ ?_); rfl) | ((with_reducible refine stP _ rfl ?_ ?_ ?_ ?_); rfl; rfl; rfl) | (with_reducible refine unfE (sh159_2.eq_1 ..) ?_) | (with_reducible refine unfE (sh159_3.eq_1 ..) ?_) | (with_reducible refine unfE (sh159_5.eq_1 ..) ?_) | (with_reducible refine unfE (sh159_1.eq_1 ..) ?_) | (with_reducible refine unfE (sh159.eq_1 ..) ?_) | (with_reducible refine And.intro ?_ ?_) | (simp only [Bool.not_true, Bool.not_false, Bool.and_self, Bool.true_and, Int.reduceBEq, Int.reduceBNe, Int.reduceLT, Int.reduceLE, decide_true, decide_false, Br_true, Br_false, Gd_tt, Gd_ft, Gd_tf, Gd_ff, beq_self_eq_true, bne_self_eq_false]) | (with_reducible refine gd_split (fun _ => ?_) (fun _ => ?_)) | (with_reducible refine br_split (fun _ => ?_) (fun _ => ?_)) | (simp only [SSd, Nat.reduceAdd]))
        exact Gh.to L (Gh.done hk)
      · have eg : chF sp p fr to txn = ((inR p sp.rows).any (chR fr to txn), 0) := by unfold chF; rw [if_neg hf', if_neg (by simp [e2])]
        rw [eg] at hk
        refine rdB rfl ?_
        refine call (in0_spec (fun qs qp => ?_))
        refine rngIn (fun l D Lo hy => ?_)
        refine in_spec (J := fun rs I' L' => I' = I ∧ L' = (l, Lo .ready none) :: chgL b b1 b2 b3 b4 b5 b6 qs qp D v0 v1 fr to txn (.bool false) (.int .i64 0) L ∧ rs.any (chR fr to txn) = (inR p sp.rows).any (chR fr to txn)) (p := p) (v0 := v0) (v1 := v1) (sp := sp) (b := b) (m := mm) (kv := kv) (es := es) (clock := clock) (ps := ps) (Post := _) hs hlen ?_ ?_ ?_ ⟨rfl, rfl, rfl⟩ (fun I' L' h => Gh.done h)
        · rintro rs I' L' ⟨rfl, rfl, _⟩
          exact ⟨hV.mono (Ext.refl _) (fun x hx => by simp [hx]), Cell.own (b := qs) (cs := #[pt b]) (T := 99) (fr := (0, 0)) (by simp) rfl, own_cells (l := [v0, v1]) (T := 31) (fr := (0, 0)) (by simp) 2, hb0, hb1⟩
        · rintro r rs I' L' q ⟨rfl, rfl, hA⟩ hrow hcl
          have hC := hV.cellAt hs hrow hcl
          obtain ⟨sl, hCC, hVs⟩ := hC
          have hC := hV.cellAt hs hrow hcl
          obtain ⟨c0, c1, c14, c3, c4, c5, _⟩ := itC hCC
          have hl := hvs r (rowOf_mem hrow)
          rw [List.any_cons] at hA
          refine hy _ _ _ _ _ (yldM ?_)
          refine begR ?_
          have yes : ∀ (sh : chR fr to txn r = true), sh159_3 ω (pt b5) (pt b6) (EndR l Lo (some .ret) (fun v => Gh fun I2 L2 => (v = .bool true ∧ I2 = I' ∧ L2 = (l, Lo .ready none) :: chgL b b1 b2 b3 b4 b5 b6 qs qp D v0 v1 fr to txn (.bool false) (.int .i64 0) L ∧ rs.any (chR fr to txn) = (inR p sp.rows).any (chR fr to txn)) ∨ (v = .bool false ∧ EndL l Lo (jumpM (sh159_5 ω (pt b5) (pt b6) D fun v => Gh (K v)) [] (Tak D (Rv none (ld1R (pt b5)) fun v65 => Rv none (ld1R (pt b6)) fun v66 => Gh (K (.tuple #[v65, v66]))))) I2 L2))) (fun v => Gh (K v)) I' ((l, Lo .busy none) :: chgL b b1 b2 b3 b4 b5 b6 qs qp D v0 v1 fr to txn (.bool false) (.int .i64 0) L) := by
            intro sh
            rw [sh, Bool.true_or] at hA
            rw [← hA] at hk
            unfold sh159_3
            refine st1 rfl ?_
            refine st1 rfl ?_
            refine endRX ?_
            refine Gh.done (.inr ⟨rfl, ?_⟩)
            refine endL (s := .done) (j := some .ret) (by simp) ?_
            refine tak (rdb (rdb ?_))
            exact Gh.to L (Gh.done hk)
          have no : ∀ (sh : chR fr to txn r = false), EndR l Lo none (fun v => Gh fun I2 L2 => (v = .bool true ∧ I2 = I' ∧ L2 = (l, Lo .ready none) :: chgL b b1 b2 b3 b4 b5 b6 qs qp D v0 v1 fr to txn (.bool false) (.int .i64 0) L ∧ rs.any (chR fr to txn) = (inR p sp.rows).any (chR fr to txn)) ∨ (v = .bool false ∧ EndL l Lo (jumpM (sh159_5 ω (pt b5) (pt b6) D fun v => Gh (K v)) [] (Tak D (Rv none (ld1R (pt b5)) fun v65 => Rv none (ld1R (pt b6)) fun v66 => Gh (K (.tuple #[v65, v66]))))) I2 L2)) I' ((l, Lo .busy none) :: chgL b b1 b2 b3 b4 b5 b6 qs qp D v0 v1 fr to txn (.bool false) (.int .i64 0) L) := by
            intro sh
            rw [sh, Bool.false_or] at hA
            exact endR (Gh.done (.inl ⟨rfl, rfl, rfl, hA⟩))
          refine drawC ?_
          try simp only [SSd, Nat.reduceAdd]
          refine rdCS c5 (Ext.refl _) ?_
          try simp only [SSd, Nat.reduceAdd]
          refine gd_split (fun e3 => ?_) (fun e3 => ?_)
          · refine rdCS c5 (Ext.refl _) ?_
            refine rdbS ?_
            try simp only [SSd, Nat.reduceAdd]
            refine gd_split (fun e4 => ?_) (fun e4 => ?_)
            · refine rdNCS c1 (Ext.refl _) rfl ?_
              refine rdBS rfl ?_
              refine call (behind_spec (x := r.it.ver.fAt) (y := to) ?_)
              try simp only [SSd, Nat.reduceAdd]
              refine br_split (fun e5 => ?_) (fun e5 => ?_)
              · exact yes (by simp only [chR]; rw [e3, e4, e5]; rfl)
              · exact chg_tail (L0 := L) hC hl (fun h => yes (by simp only [chR]; rw [h, Bool.or_true])) (fun h => no (by simp only [chR]; rw [h, e5]; simp))
            · exact chg_tail (L0 := L) hC hl (fun h => yes (by simp only [chR]; rw [h, Bool.or_true])) (fun h => no (by simp only [chR]; rw [h, Bool.eq_false_iff.2 e4]; simp))
          · exact chg_tail (L0 := L) hC hl (fun h => yes (by simp only [chR]; rw [h, Bool.or_true])) (fun h => no (by simp only [chR]; rw [h, Bool.eq_false_iff.2 e3]; simp))
        · rintro I' L' ⟨rfl, rfl, hA⟩
          refine endL (s := .ready) (j := none) (by simp) ?_
          show sh159_5 ω (pt b5) (pt b6) D (fun v => Gh (K v)) _ _
          unfold sh159_5
          refine st1 rfl ?_
          refine st1 rfl ?_
          refine tak (rdb (rdb ?_))
          rw [← hA] at hk
          exact Gh.to L (Gh.done hk)
  cases hq : (rightB fr && readerB txn) with
  | false =>
    simp only [Bool.not_false, SSd, Nat.reduceAdd]
    exact main true (fun _ => .inl hq) (by simp)
  | true =>
    simp only [Bool.not_true, SSd, Nat.reduceAdd]
    refine rdB rfl ?_
    refine call (hright_spec ?_)
    try simp only [SSd, Nat.reduceAdd]
    exact main _ (fun h => .inr (by simpa using h)) (fun h => by rw [hq]; simpa using h)
end
end Go.Proofs.YtmmfcgbfbcamcaaGreatDoor
-- S3
set_option linter.unusedSimpArgs false
set_option linter.unusedVariables false
namespace Go.Proofs.YtmmfcgbfbcamcaaGreatDoor
open Go.SL
set_option maxRecDepth 10000
section
variable {ω : Om} {I : Imm} {L : LH} {K : Value → M}
theorem inR_all (rows : List Row) : inR ⟨[], []⟩ rows = rows := by
  unfold inR
  exact List.filter_eq_self.2 fun r _ => by simp [inB, blt_nil]
abbrev intL (b b1 qs qp D : Nat) (vo : Value) (XO L : LH) : LH := (D, .deferred (some [])) :: (qp, .cells #[.slice none 0 0, .slice none 0 0] 31 (0, 0)) :: (qs, .cells #[pt b] 99 (0, 0)) :: (b1, .cells #[vo] 118 (0, 0)) :: (XO ++ L)
theorem intents_spec {b : Nat} {sp : Sp} (hV : View I L b sp) (hs : SrtK (keysOf sp.rows)) (hlen : sp.rows.length ≤ 1000000000) (hk : ∀ I' v, Ext I I' → RL TIntentV 6 I' [] v (intsOf sp.rows) → K v I' L) :
    Cal Tryz.prog ω 120 #[pt b] K I L := by
  obtain ⟨mm, kv, es, clock, ps, hV⟩ := hV
  have hz : ∀ I', Bytes I' (.slice none 0 0) [] := fun I' => SlI.nil I' 1 none 0
  refine cal120 ?_
  unfold sh120
  refine newI (fun b1 => ?_)
  try simp only [SSd, Nat.reduceAdd]
  refine call (in0_spec (fun qs qp => ?_))
  refine rngIn (fun l D Lo hy => ?_)
  refine in_spec (J := fun rs I' L' => Ext I I' ∧ ∃ XO vo acc cells, L' = (l, Lo .ready none) :: intL b b1 qs qp D vo XO L ∧ SlO 190 6 XO vo cells acc.length ∧ Recs (TIntentV I') 6 acc cells ∧ acc.length + rs.length ≤ 1000000000 ∧ acc ++ intsOf rs = intsOf sp.rows) (p := ⟨[], []⟩) (v0 := .slice none 0 0) (v1 := .slice none 0 0) (sp := sp) (b := b) (m := mm) (kv := kv) (es := es) (clock := clock) (ps := ps) (Post := _) hs hlen ?_ ?_ ?_ ?_ (fun I' L' h => Gh.done h)
  · rintro rs I' L' ⟨hI, XO, vo, acc, cells, rfl, _⟩
    exact ⟨hV.mono hI (fun x hx => by simp [hx]), Cell.own (b := qs) (cs := #[pt b]) (T := 99) (fr := (0, 0)) (by simp) rfl, own_cells (l := [.slice none 0 0, .slice none 0 0]) (T := 31) (fr := (0, 0)) (by simp) 2, hz _, hz _⟩
  · rintro r rs I' L' q ⟨hI, XO, vo, acc, cells, rfl, hO, hR, hlen2, hA⟩ hrow hcl
    obtain ⟨sl, hCC, hVs⟩ := hV.cellAt hs hrow hcl
    obtain ⟨c0, c1, c14, c3, c4, c5, c15⟩ := itC hCC
    simp only [List.length_cons] at hlen2
    refine hy _ _ _ _ _ (yldM ?_)
    refine begR ?_
    try simp only [SSd, Nat.reduceAdd]
    refine rdNC c15 hI rfl ?_
    refine newI (fun b2 => ?_)
    refine stB rfl rfl (one_all rfl) ?_
    try simp only [SSd, Nat.reduceAdd]
    refine rdb ?_
    try simp only [SSd, Nat.reduceAdd]
    refine br_split (fun e => ?_) (fun e => ?_)
    · have hi : intsOf (r :: rs) = itF r :: intsOf rs := by unfold intsOf; rw [List.filter_cons, if_pos e, List.map_cons]
      rw [hi] at hA
      refine rdb ?_
      refine cvsb (fun ku I3 hI3 hKB => Gh.done ?_)
      obtain ⟨ka, kc, rfl⟩ := Bytes.form hKB
      refine rdb ?_
      try simp only [SSd, Nat.reduceAdd]
      refine rdP [.int .i64 r.it.ver.fAt.fWall, .int .i64 r.it.ver.fAt.fLogic] rfl rfl ?_
      try simp only [SSd, Nat.reduceAdd]
      refine rdb ?_
      try simp only [SSd, Nat.reduceAdd]
      refine rdb ?_
      refine cvsb (fun vu I4 hI4 hVB => Gh.done ?_)
      obtain ⟨va, vc, rfl⟩ := Bytes.form hVB
      try simp only [SSd, Nat.reduceAdd]
      refine rec_app (R := TIntentV) (X6 := XO) (x := itF r) rfl (by omega) hO (hR.imp fun x c h => h.mono (hI3.trans hI4)) ⟨_, _, rfl, hKB.mono hI4, hVB⟩ rfl (one_all rfl) (by omega) (by omega) (fun X1 X6 v6 cells6 h6 hR6 => ?_)
      obtain ⟨a6, c6, rfl⟩ := h6.form
      refine st1 rfl ?_
      refine endR ?_
      refine Gh.to ((l, Lo .ready none) :: intL b b1 qs qp D (.slice a6 (acc ++ [itF r]).length c6) X6 L) (Gh.done (.inl ⟨rfl, hI.trans (hI3.trans hI4), X6, _, _, cells6, rfl, h6, hR6, by simp; omega, by rw [← hA]; simp⟩))
    · have hi : intsOf (r :: rs) = intsOf rs := by unfold intsOf; rw [List.filter_cons, if_neg (by simp [e])]
      rw [hi] at hA
      refine endR ?_
      refine Gh.to ((l, Lo .ready none) :: intL b b1 qs qp D vo XO L) (Gh.done (.inl ⟨rfl, hI, XO, _, _, cells, rfl, hO, hR, by omega, hA⟩))
  · rintro I' L' ⟨hI, XO, vo, acc, cells, rfl, hO, hR, hlen2, hA⟩
    refine endL (s := .ready) (j := none) (by simp) ?_
    show sh120_3 ω (.slice none 0 0) (.pointer (some ⟨b1, 0, none⟩)) D (fun v => Gh (K v)) _ _
    unfold sh120_3
    refine rdb ?_
    refine tak ?_
    have hA' : acc = intsOf sp.rows := by rw [← hA]; simp [intsOf]
    subst hA'
    refine Gh.to (XO ++ L) (SlO.freeze hO (fun I3 hI3 hSl => Gh.done ?_))
    exact hk I3 _ (hI.trans hI3) (RL.ofI hSl (hR.imp fun x c h => h.mono hI3))
  · rw [inR_all]
    exact ⟨Ext.refl _, [], _, [], [], rfl, SlO.none _ _, rfl, by simpa using hlen, rfl⟩
end
end Go.Proofs.YtmmfcgbfbcamcaaGreatDoor
-- S3
set_option linter.unusedSimpArgs false
set_option linter.unusedVariables false
namespace Go.Proofs.YtmmfcgbfbcamcaaGreatDoor
open Go.SL
set_option maxRecDepth 10000
section
variable {ω : Om} {I : Imm} {L : LH} {K : Value → M}
structure SpX (I : Imm) (b : Nat) (ps : List Nat) (R : LH) (A : List Row) (k : List UInt8) (B : List Row) (fl : TStamp) (nt : Nts) (p : Nat) : Prop where
  close : ∀ (r : Row) (sl : Value) (Y X : LH), r.key = k → VsO Y sl r.vs → X.Perm ((p, cellO sl r.it) :: (Y ++ R)) → SpP I b ps X ⟨A ++ r :: B, fl⟩ nt
theorem SpX.mono {I' : Imm} {b : Nat} {ps : List Nat} {R : LH} {A B : List Row} {k : List UInt8} {fl : TStamp} {nt : Nts} {p : Nat} (h : SpX I b ps R A k B fl nt p) (hI : Ext I I') : SpX I' b ps R A k B fl nt p :=
  ⟨fun r sl Y X h1 h2 h3 => (h.close r sl Y X h1 h2 h3).mono hI⟩
theorem SpP.open' {b : Nat} {ps : List Nat} {X : LH} {A B : List Row} {r : Row} {fl : TStamp} {nt : Nts} {k : List UInt8} (h : SpP I b ps X ⟨A ++ r :: B, fl⟩ nt) (hm : Mid A k B) (hk : r.key = k) :
    ∃ p sl Y R, ps[A.length]? = some p ∧ X.Perm ((p, cellO sl r.it) :: (Y ++ R)) ∧ VsO Y sl r.vs ∧ SpX I b ps R A k B fl nt p ∧ (∀ L', (∀ x ∈ X, x ∈ L') → ∃ m kv es clock, ViewF I L' b m kv es clock ps ⟨A ++ r :: B, fl⟩ ∧ cellsM ps (A ++ r :: B) k = some (pt p)) := by
  have h0 := h
  obtain ⟨m, ch, kv, es, clock, KX, RX, NX, hp, hF⟩ := h
  obtain ⟨P, p, Q, rfl, hl, hl2⟩ := split_ps hF.rows.len
  obtain ⟨sl, Y, Z, h1, h2, h3⟩ := RowsR.pick hl hF.rows
  refine ⟨p, sl, Y, (b, spO m kv fl ch) :: (m, .map es clock) :: (KX ++ (Z ++ NX)), by rw [← hl]; simp, ms_perm ?_, h2, ⟨fun r' sl' Y' X' hk' hv hX => ?_⟩, fun L' hL => ?_⟩
  · rw [ms_eq hp]
    simp only [ms_cons, ms_app, ms_eq h1]
    ((try simp only [ms_cons, ms_app, ms_nil, ms_nil']); (try ac_rfl))
  · refine ⟨m, ch, kv, es, clock, KX, (p, cellO sl' r'.it) :: (Y' ++ Z), NX, ms_perm ?_, ?_, ?_, ?_, hF.nts⟩
    · rw [ms_eq hX]; ((try simp only [ms_cons, ms_app, ms_nil, ms_nil']); (try ac_rfl))
    · have := hF.map
      rw [show cellsM (P ++ p :: Q) (A ++ r' :: B) = cellsM (P ++ p :: Q) (A ++ r :: B) from cellsM_swap hl (hk ▸ hm) (hk'.trans hk.symm)]
      exact this
    · have e : keysOf (A ++ r' :: B) = keysOf (A ++ r :: B) := by simp [keysOf, hk', hk]
      show StrO KX kv (keysOf (A ++ r' :: B))
      rw [e]; exact hF.keys
    · exact RowsR.put hl (List.Perm.refl _) hv h3
  · refine ⟨m, kv, es, clock, ?_, cellsM_mid hl hm hk⟩
    have hmem : ∀ x, x ∈ ((b, spO m kv fl ch) :: (m, Obj.map es clock) :: (KX ++ (RX ++ NX))) → x ∈ L' := fun x hx => hL _ (hp.mem_iff.2 hx)
    exact ⟨own_cells (hmem _ (List.mem_cons_self ..)) 4, .inl (hmem _ (by simp)), hF.map, StrO.rl hF.keys (fun x hx => hmem _ (by simp [hx])), hF.rows.len, hF.rows.cell (fun x hx => hmem _ (by simp [hx]))⟩
theorem cell_spec {b : Nat} {X F : LH} {sp : Sp} {nt : Nts} {k : List UInt8} (hS : SpR I b X sp nt) (hs : SrtK (keysOf sp.rows)) (hlen : sp.rows.length ≤ 100000000)
    (h1 : ∀ ps A r B p sl Y R, sp.rows = A ++ r :: B → r.key = k → Mid A k B → X.Perm ((p, cellO sl r.it) :: (Y ++ R)) → VsO Y sl r.vs → SpX I b ps R A k B sp.floor nt p → K (pt p) I (X ++ F))
    (h2 : ∀ ps A B p X' R, sp.rows = A ++ B → Mid A k B → X'.Perm ((p, cellO (.slice none 0 0) noIt) :: R) → SpX I b ps R A k B sp.floor nt p → K (pt p) I (X' ++ F)) :
    Cal Tryz.prog ω 206 #[pt b, sstr k] K I (X ++ F) := by
  have hS0 := hS
  obtain ⟨rows, fl⟩ := sp
  rcases place k hs with ⟨A, r, B, e, hk, hm⟩ | ⟨A, B, e, hm⟩
  · simp only at e; subst e
    obtain ⟨ps, hS⟩ := hS
    obtain ⟨p, sl, Y, R, _, g1, g2, g3, g4⟩ := hS.open' hm hk
    obtain ⟨m, kv, es, clock, hV, hc⟩ := g4 (X ++ F) (fun x hx => List.mem_append_left _ hx)
    refine cal206 ?_
    unfold sh206
    try simp only [SSd, Nat.reduceAdd]
    refine rdC (hV.head 0 _ rfl) (Ext.refl _) ?_
    refine ⟨_, lk_at hV.at' hV.map, ?_⟩
    simp only [hc, lkV, Bool.false_eq_true, if_false, SSd, Nat.reduceAdd]
    exact Gh.done (h1 ps A r B p sl Y R rfl hk hm g1 g2 g3)
  · simp only at e; subst e
    obtain ⟨ps, m, ch, kv, es, clock, KX, RX, NX, hp, hF⟩ := hS
    have hn : cellsM ps (A ++ B) k = none := cellsM_gap hm.notin
    obtain ⟨P, Q, rfl, hl, hl2⟩ := split_ps2 hF.rows.len
    refine Cal.perm (L' := (b, spO m kv fl ch) :: (m, .map es clock) :: (KX ++ (RX ++ (NX ++ F)))) (ms_perm (by rw [ms_app, ms_eq hp]; ((try simp only [ms_cons, ms_app, ms_nil, ms_nil']); (try ac_rfl)))) ?_
    refine cal206 ?_
    unfold sh206
    try simp only [SSd, Nat.reduceAdd]
    refine rdb ?_
    refine lkm hF.map ?_
    have en : binPV .eql (.pointer none) (.pointer none) = some (.bool true) := rfl
    simp only [hn, lkV, Bool.false_eq_true, if_false, en, SSd, Nat.reduceAdd]
    refine newI (fun p => ?_)
    refine rdb ?_
    obtain ⟨es', c', he, hm'⟩ := hF.map.put k (pt p)
    refine putm hF.map he (Gh.done ?_)
    try simp only [SSd, Nat.reduceAdd]
    refine rdb ?_
    have hkl : (keysOf (A ++ B)).length = (A ++ B).length := by simp [keysOf]
    refine call (bsearch_spec (StrO.rl hF.keys (fun x hx => by simp [hx])) (by simp only at hlen ⊢; omega) hs (fun i hi hlo hhi => ?_))
    try simp only [SSd, Nat.reduceAdd]
    refine rdb ?_
    refine ⟨#[sstr k], by kernel_rfl, fun bv => Gh.done ?_⟩
    refine call (Cal.perm (L' := KX ++ (bv, .cells #[sstr k] 9 (0, 0)) :: (p, cellO (.slice none 0 0) noIt) :: (b, spO m kv fl ch) :: (m, .map es' c') :: (RX ++ (NX ++ F))) (ms_perm (by ((try simp only [ms_cons, ms_app, ms_nil, ms_nil']); (try ac_rfl)))) ?_)
    refine insert_spec hF.keys hi (by simp only at hlen ⊢; omega) (fun KX' kv' hK' => ?_)
    try simp only [SSd, Nat.reduceAdd]
    have hkv1 : kv'.oneCell' = true := by obtain ⟨a', c', rfl⟩ := hK'.form; rfl
    have hia : i = A.length := by
      have hAB : keysOf (A ++ B) = keysOf A ++ keysOf B := by simp [keysOf]
      have hAl : (keysOf A).length = A.length := by simp [keysOf]
      simp only at hlo hhi hi
      apply Classical.byContradiction
      intro hne
      rcases Nat.lt_or_gt_of_ne hne with hlt | hgt
      · have h1 := hhi A[i].key (by
          rw [hAB, List.drop_append_of_le_length (by omega)]
          refine List.mem_append_left _ ?_
          rw [show keysOf A = A.map (·.key) from rfl, ← List.map_drop]
          exact List.mem_map_of_mem (by rw [List.drop_eq_getElem_cons hlt]; exact List.mem_cons_self ..))
        rw [hm.lt _ (List.getElem_mem hlt)] at h1; cases h1
      · have hb : A.length < (A ++ B).length := by omega
        have hBl : 0 < B.length := by simp at hb; omega
        have h1 := hlo B[0].key (by
          rw [hAB, List.take_append, hAl, List.take_of_length_le (by omega)]
          refine List.mem_append_right _ ?_
          rw [show keysOf B = B.map (·.key) from rfl, ← List.map_take]
          refine List.mem_map_of_mem ?_
          have : (B.take (i - A.length))[0]'(by simp; omega) = B[0] := by simp
          rw [← this]; exact List.getElem_mem _)
        rw [blt_asymm (hm.gt _ (List.getElem_mem hBl))] at h1; cases h1
    subst hia
    refine st1 hkv1 ?_
    refine Gh.perm (L' := ((p, cellO (.slice none 0 0) noIt) :: (b, spO m kv' fl ch) :: (m, .map es' c') :: (KX' ++ (RX ++ NX))) ++ F) (ms_perm (by ((try simp only [ms_cons, ms_app, ms_nil, ms_nil']); (try ac_rfl)))) (Gh.done ?_)
    refine h2 (P ++ p :: Q) A B p _ _ rfl hm (List.Perm.refl _) ⟨fun r' sl' Y' X' hk' hv hX => ?_⟩
    refine ⟨m, ch, kv', es', c', KX', (p, cellO sl' r'.it) :: (Y' ++ RX), NX, ms_perm (by rw [ms_eq hX]; ((try simp only [ms_cons, ms_app, ms_nil, ms_nil']); (try ac_rfl))), ?_, ?_, RowsR.put hl (List.Perm.refl _) hv hF.rows, hF.nts⟩
    · rw [show cellsM (P ++ p :: Q) (A ++ r' :: B) = updM (cellsM (P ++ Q) (A ++ B)) k (some (pt p)) from cellsM_ins hl hm hk']
      exact hm'
    · have e : keysOf (A ++ r' :: B) = (keysOf (A ++ B)).take A.length ++ k :: (keysOf (A ++ B)).drop A.length := by
        have hAl : (A.map (·.key)).length = A.length := by simp
        simp only [keysOf, List.map_append, List.map_cons, hk']
        rw [← hAl, List.take_left, List.drop_left]
      show StrO KX' kv' (keysOf (A ++ r' :: B))
      rw [e]; exact hK'
theorem tidy_spec {b : Nat} {X F : LH} {A B : List Row} {r : Row} {fl : TStamp} {nt : Nts} {k : List UInt8} (hS : SpR I b X ⟨A ++ r :: B, fl⟩ nt) (hm : Mid A k B) (hkr : r.key = k) (hs : SrtK (keysOf (A ++ r :: B))) (hlen : (A ++ r :: B).length ≤ 100000000)
    (hk : ∀ X', SpR I b X' ⟨if emptyB r = true then A ++ B else A ++ r :: B, fl⟩ nt → K (.tuple #[]) I (X' ++ F)) : Cal Tryz.prog ω 222 #[pt b, sstr k] K I (X ++ F) := by
  have hS0 := hS
  obtain ⟨ps, m, ch, kv, es, clock, KX, RX, NX, hp, hF⟩ := hS
  obtain ⟨P, p, Q, rfl, hl, hl2⟩ := split_ps hF.rows.len
  obtain ⟨sl, Y, Z, g1, g2, g3⟩ := RowsR.pick hl hF.rows
  have hc : cellsM (P ++ p :: Q) (A ++ r :: B) k = some (pt p) := cellsM_mid hl hm hkr
  refine Cal.perm (L' := (b, spO m kv fl ch) :: (m, .map es clock) :: (p, cellO sl r.it) :: (KX ++ (Y ++ (Z ++ (NX ++ F))))) (ms_perm (by rw [ms_app, ms_eq hp]; simp only [ms_cons, ms_app, ms_eq g1]; ((try simp only [ms_cons, ms_app, ms_nil, ms_nil']); (try ac_rfl)))) ?_
  refine cal222 ?_
  unfold sh222
  try simp only [SSd, Nat.reduceAdd]
  refine rdb ?_
  refine lkm hF.map ?_
  simp only [hc, lkV, Bool.false_eq_true, if_false, SSd, Nat.reduceAdd]
  refine rdb ?_
  obtain ⟨sa, sc, rfl⟩ := g2.form
  try simp only [SSd, Nat.reduceAdd]
  have keep : ∀ (he : emptyB r = false), Gh (K (.tuple #[])) I ((b, spO m kv fl ch) :: (m, .map es clock) :: (p, cellO (.slice sa r.vs.length sc) r.it) :: (KX ++ (Y ++ (Z ++ (NX ++ F))))) := by
    intro he
    rw [he] at hk
    refine Gh.perm (L' := X ++ F) (ms_perm (by rw [ms_app, ms_eq hp]; simp only [ms_cons, ms_app, ms_eq g1]; ((try simp only [ms_cons, ms_app, ms_nil, ms_nil']); (try ac_rfl)))) (Gh.done (hk X hS0))
  refine gd_split (fun e => ?_) (fun e => ?_)
  · refine rdb ?_
    try simp only [SSd, Nat.reduceAdd]
    refine br_split (fun e2 => ?_) (fun e2 => ?_)
    · exact keep (by simp at e2; simp [emptyB, e2])
    · have he : emptyB r = true := by
        have hv : r.vs = [] := by
          cases hv : r.vs with
          | nil => rfl
          | cons x xs => rw [hv] at e; simp at e
        simp at e2
        simp [emptyB, hv, e2]
      rw [he] at hk
      have hkl : (keysOf (A ++ r :: B)).length = (A ++ r :: B).length := by simp [keysOf]
      refine rdb ?_
      obtain ⟨es', hde, hm'⟩ := hF.map.del k
      refine delm hF.map hde (Gh.done ?_)
      try simp only [SSd, Nat.reduceAdd]
      refine rdb ?_
      refine call (bsearch_spec (StrO.rl hF.keys (fun x hx => by simp [hx])) (by show (keysOf (A ++ r :: B)).length < _; rw [hkl]; exact Nat.lt_of_le_of_lt hlen (by decide)) hs (fun i hi hlo hhi => ?_))
      try simp only [SSd, Nat.reduceAdd]
      refine rdb ?_
      have hAl : (keysOf A).length = A.length := by simp [keysOf]
      have hAB : keysOf (A ++ r :: B) = keysOf A ++ k :: keysOf B := by simp [keysOf, hkr]
      simp only at hlo hhi hi
      have hia : i = A.length := by
        apply Classical.byContradiction
        intro hne
        rcases Nat.lt_or_gt_of_ne hne with hlt | hgt
        · have h1 := hhi A[i].key (by
            rw [hAB, List.drop_append_of_le_length (by omega)]
            refine List.mem_append_left _ ?_
            rw [show keysOf A = A.map (·.key) from rfl, ← List.map_drop]
            exact List.mem_map_of_mem (by rw [List.drop_eq_getElem_cons hlt]; exact List.mem_cons_self ..))
          rw [hm.lt _ (List.getElem_mem hlt)] at h1; cases h1
        · have h1 := hlo k (by
            rw [hAB, List.take_append, hAl, List.take_of_length_le (by omega)]
            refine List.mem_append_right _ ?_
            obtain ⟨j, hj⟩ : ∃ j, i - A.length = j + 1 := ⟨i - A.length - 1, by omega⟩
            rw [hj, List.take_succ_cons]; exact List.mem_cons_self ..)
          rw [blt_irrefl] at h1; cases h1
      subst hia
      rw [wrap_i64 _ (by rw [List.length_append, List.length_cons] at hlen; omega)]
      refine call (Cal.perm (L' := KX ++ ((b, spO m kv fl ch) :: (m, .map es' clock) :: (p, cellO (.slice sa r.vs.length sc) r.it) :: (Y ++ (Z ++ (NX ++ F))))) (ms_perm (by ((try simp only [ms_cons, ms_app, ms_nil, ms_nil']); (try ac_rfl)))) ?_)
      refine delete_spec hF.keys (by show A.length < (keysOf (A ++ r :: B)).length; rw [hkl, List.length_append, List.length_cons]; omega) (by show (keysOf (A ++ r :: B)).length ≤ _; rw [hkl]; omega) (fun KX' kv' hK' => ?_)
      try simp only [SSd, Nat.reduceAdd]
      have hkv1 : kv'.oneCell' = true := by obtain ⟨a', c', rfl⟩ := hK'.form; rfl
      refine st1 hkv1 ?_
      refine Gh.to ((b, spO m kv' fl ch) :: (m, .map es' clock) :: (KX' ++ (Z ++ (NX ++ F)))) (Gh.perm (L' := ((b, spO m kv' fl ch) :: (m, .map es' clock) :: (KX' ++ (Z ++ NX))) ++ F) (ms_perm (by ((try simp only [ms_cons, ms_app, ms_nil, ms_nil']); (try ac_rfl)))) (Gh.done (hk _ ⟨P ++ Q, m, ch, kv', es', clock, KX', Z, NX, List.Perm.refl _, ?_, ?_, g3, hF.nts⟩)))
      · rw [show cellsM (P ++ Q) (if true = true then A ++ B else A ++ r :: B) = updM (cellsM (P ++ p :: Q) (A ++ r :: B)) k none from cellsM_del hl hm hkr]
        exact hm'
      · have e3 : keysOf (A ++ B) = (keysOf (A ++ r :: B)).take A.length ++ (keysOf (A ++ r :: B)).drop (A.length + 1) := by
          rw [hAB, ← hAl, List.take_left, List.drop_append, List.drop_eq_nil_of_le (by omega)]
          simp [keysOf]
        show StrO KX' kv' (keysOf (A ++ B))
        rw [e3]; exact hK'
  · exact keep (by simp at e; cases hv : r.vs with
      | nil => rw [hv] at e; simp at e
      | cons x xs => simp [emptyB, hv])
end
end Go.Proofs.YtmmfcgbfbcamcaaGreatDoor
-- S3
set_option linter.unusedSimpArgs false
set_option linter.unusedVariables false
namespace Go.Proofs.YtmmfcgbfbcamcaaGreatDoor
open Go.SL
set_option maxRecDepth 10000
section
variable {ω : Om} {I : Imm} {L : LH} {K : Value → M}
abbrev stO (a : TStamp) : Obj := .cells #[.int .i64 a.fWall, .int .i64 a.fLogic] 41 (0, 0)
abbrev putL (b1 b2 bat : Nat) (v0 v1 : Value) (x : TIntent) (a : TStamp) (R : LH) : LH :=
  (bat, stO a) :: (b2, .cells #[.int .i64 0, .int .i64 0] 41 (0, 0)) :: (b1, .cells #[v0, .int .i64 x.fTxn, .int .i64 x.fAt.fWall, .int .i64 x.fAt.fLogic, .bool x.fDel, v1] 190 (0, 0)) :: R
def putIt (x : TIntent) (a : TStamp) : Itn := ⟨⟨a, x.fDel, x.fValue⟩, x.fTxn⟩
theorem keys_swap {A B : List Row} {r r' : Row} (h : r'.key = r.key) : keysOf (A ++ r' :: B) = keysOf (A ++ r :: B) := by simp [keysOf, h]
theorem Mid.srt {A B : List Row} {k : List UInt8} {r : Row} (hm : Mid A k B) (hs : SrtK (keysOf (A ++ B))) (h : r.key = k) : SrtK (keysOf (A ++ r :: B)) := by
  subst h
  exact SrtK.join (SrtK.sub hs (List.sublist_append_left ..)) (SrtK.sub hs (List.sublist_append_right ..)) hm
theorem put8_spec {b b1 b2 bat : Nat} {v0 v1 : Value} {x : TIntent} {a : TStamp} {X F : LH} {sp : Sp} {nt : Nts} (hS : SpR I b X sp nt) (hs : SrtK (keysOf sp.rows)) (hlen : sp.rows.length ≤ 100000000)
    (h0 : Bytes I v0 x.fKey) (h1 : Bytes I v1 x.fValue) (ha : rightB a = true) (ht : txnB x.fTxn = true) (hkl : x.fKey.length ≤ 1000) (hvl : x.fValue.length ≤ 10000)
    (hk : ∀ X' I', Ext I I' → SpR I' b X' ⟨setIt x.fKey (putIt x a) sp.rows, sp.floor⟩ (updN nt (105 :: x.fKey) (itText (putIt x a))) → K (.tuple #[sv a, .int .i64 0, .int .i64 0]) I' (X' ++ F)) :
    sh156_8 ω (pt b) (pt b1) (pt b2) (.int .i64 0) (.int .i64 0) (pt bat) (fun v => Gh (K v)) I (putL b1 b2 bat v0 v1 x a (X ++ F)) := by
  have htx : 1 ≤ x.fTxn ∧ x.fTxn ≤ 9007199254740991 := by simpa [txnB] using ht
  unfold sh156_8
  try simp only [SSd, Nat.reduceAdd]
  refine rdb ?_
  refine bs_N h0 (Ext.refl _) ?_
  refine callG (Cal.perm (L' := X ++ putL b1 b2 bat v0 v1 x a F) (ms_perm (by ((try simp only [ms_cons, ms_app, ms_nil, ms_nil']); (try ac_rfl)))) ?_)
  have main : ∀ (A B : List Row) (vs : List TVer) (ps : List Nat) (p : Nat) (sl : Value) (Y R : LH) (o : Itn), Mid A x.fKey B → VsO Y sl vs → SpX I b ps R A x.fKey B sp.floor nt p → setIt x.fKey (putIt x a) sp.rows = A ++ ⟨x.fKey, vs, putIt x a⟩ :: B → SrtK (keysOf (A ++ ⟨x.fKey, vs, putIt x a⟩ :: B)) →
      (Rv none (ldNR 2 (pt bat)) fun v115 => Pv (fldV 4 (pt b1)) fun v116 => Rv none (ld1R v116) fun v117 => Pv (fldV 5 (pt b1)) fun v118 => Rv none (ld1R v118) fun v119 => Rv none (bsR v119) fun v120 =>
        Pv (bldV #[.int .i64 0, .int .i64 0, .bool false, .string (ByteArray.mk #[])] #[(0, 2), (2, 1), (3, 1)] [(0, v115), (1, v117), (2, v120)]) fun v121 => Pv (fldV 1 (pt b1)) fun v122 => Rv none (ld1R v122) fun v123 =>
        Pv (bldV #[.int .i64 0, .int .i64 0, .bool false, .string (ByteArray.mk #[]), .int .i64 0] #[(0, 4), (4, 1)] [(0, v121), (1, v123)]) fun v124 => Pv (nilV (pt p)) fun v125 => Pv (fldV 1 v125) fun v126 => Sto 5 v126 v124 <| gh fun _ =>
        Pv (fldV 0 (pt b1)) fun v127 => Rv none (ld1R v127) fun v128 => Rv none (bsR v128) fun v129 => Cal Tryz.prog ω 190 #[pt b, v129] <| gh fun _ => Rv none (ldNR 2 (pt bat)) fun v131 => Sto 2 (pt b2) v131 <| gh fun _ => Rv none (ldNR 2 (pt b2)) fun v132 => Gh (K (.tuple #[v132, .int .i64 0, .int .i64 0]))) I
        ((p, cellO sl o) :: (Y ++ (R ++ putL b1 b2 bat v0 v1 x a F))) := by
    intro A B vs ps p sl Y R o hm hv hX hset hsrt
    refine rdB rfl ?_
    try simp only [SSd, Nat.reduceAdd]
    refine rdb ?_
    try simp only [SSd, Nat.reduceAdd]
    refine rdb ?_
    refine bs_N h1 (Ext.refl _) ?_
    try simp only [SSd, Nat.reduceAdd]
    refine rdb ?_
    try simp only [SSd, Nat.reduceAdd]
    refine stP _ rfl rfl rfl rfl ?_
    try simp only [SSd, Nat.reduceAdd]
    refine rdb ?_
    refine bs_N h0 (Ext.refl _) ?_
    have hS' := hX.close ⟨x.fKey, vs, putIt x a⟩ sl Y ((p, cellO sl (putIt x a)) :: (Y ++ R)) rfl hv (List.Perm.refl _)
    refine call (Cal.perm (L' := ((p, cellO sl (putIt x a)) :: (Y ++ R)) ++ putL b1 b2 bat v0 v1 x a F) (ms_perm (by ((try simp only [ms_cons, ms_app, ms_nil, ms_nil']); (try ac_rfl)))) ?_)
    refine noteIntent_spec hS' hsrt (rowOf_mid hm rfl) (by simp [putIt]; omega) (fun _ => ha) (by omega) (by simp only [putIt]; omega) (fun X' I' hI' h' => ?_)
    refine rdB rfl ?_
    refine stB rfl rfl (one_all rfl) ?_
    refine rdB rfl ?_
    rw [← hset] at h'
    exact Gh.to (X' ++ F) (Gh.done (hk X' I' hI' ⟨ps, h'⟩))
  refine cell_spec hS hs hlen (fun ps A r B p sl Y R e hkr hm hp hv hX => ?_) (fun ps A B p X' R e hm hp hX => ?_)
  · refine Gh.perm (L' := (p, cellO sl r.it) :: (Y ++ (R ++ putL b1 b2 bat v0 v1 x a F))) (ms_perm (by rw [ms_app, ms_eq hp]; ((try simp only [ms_cons, ms_app, ms_nil, ms_nil']); (try ac_rfl)))) (Gh.done ?_)
    exact main A B r.vs ps p sl Y R r.it hm hv hX (by rw [e]; exact setIt_mid hkr hm) (by rw [keys_swap (r := r) hkr.symm, ← e]; exact hs)
  · refine Gh.perm (L' := (p, cellO (.slice none 0 0) noIt) :: ([] ++ (R ++ putL b1 b2 bat v0 v1 x a F))) (ms_perm (by rw [ms_app, ms_eq hp]; ((try simp only [ms_cons, ms_app, ms_nil, ms_nil']); (try ac_rfl)))) (Gh.done ?_)
    exact main A B [] ps p _ [] R noIt hm (SlO.none _ _) hX (by rw [e]; exact setIt_gap hm) (Mid.srt hm (e ▸ hs) rfl)
theorem stBG {L' : LH} {b n T : Nat} {l vs : List Value} [h : InL b L (.cells l.toArray T (0, 0))] [u : UpL b L (.cells l.toArray T (0, 0)) (.cells vs.toArray T (0, 0)) L'] (hl : vs.length = n) (hl' : l.length = n) (h1 : ∀ u ∈ vs, u.oneCell' = true) (hk : Gh (K undef) I L') :
    Sto n (.pointer (some ⟨b, 0, none⟩)) (.agg vs.toArray) (gh K) I L := by
  obtain ⟨L1, L2, rfl, rfl⟩ := u.up
  refine ⟨b, 0, l.toArray, T, L1, L2, rfl, by simp [Value.cells, hl], by simpa [Value.cells] using h1, by simp [hl'], rfl, ?_⟩
  simp only [Value.cells]
  rw [wr_all vs l 0 (by omega)]
  have e : List.take 0 l ++ vs = vs := rfl
  rw [e]
  exact hk
def putN (sp : Sp) (x : TIntent) (nt : Nts) : Nts := if (putA sp x).2.2 ≠ 0 then nt else updN nt (105 :: x.fKey) (itText (putIt x (putA sp x).1))
theorem last_ix {α : Type} [Inhabited α] {l : List α} {v : α} (h : l.getLast? = some v) : 0 < l.length ∧ geti l ((l.length - 1 : Nat) : Int) = v := by
  obtain ⟨ys, rfl⟩ := List.getLast?_eq_some_iff.1 h
  refine ⟨by simp, ?_⟩
  rw [geti_nat (by simp)]
  simp
theorem put_spec {b : Nat} {x : TIntent} {c : List Value} {X F : LH} {sp : Sp} {nt : Nts} (hS : SpR I b X sp nt) (hok : SpOk sp) (hlen : sp.rows.length ≤ 100000000) (hvs : ∀ r ∈ sp.rows, r.vs.length ≤ 100000000) (hx : TIntentV I x c)
    (hk : ∀ X' I', Ext I I' → SpR I' b X' (putS sp x) (putN sp x nt) → K (.tuple #[sv (putA sp x).1, .int .i64 (putA sp x).2.1, .int .i64 (putA sp x).2.2]) I' (X' ++ F)) :
    Cal Tryz.prog ω 156 #[pt b, .agg c.toArray] K I (X ++ F) := by
  obtain ⟨v0, v1, rfl, h0, h1⟩ := hx
  have hs := hok.rise
  obtain ⟨m, kv, es, clock, ps, hV⟩ := hS.view (L := X ++ F) (fun y hy => List.mem_append_left _ hy)
  have hc2 : Cells I (X ++ F) b 2 [.int .i64 sp.floor.fWall, .int .i64 sp.floor.fLogic] := by simpa using hV.head.sub (k := 2) (m := 2)
  refine cal156 ?_
  unfold sh156
  refine newI (fun b1 => newI (fun b2 => ?_))
  -- refused
  have bad : ∀ hb : putBad x, sh156_1 ω (pt b2) (.int .i64 0) (.int .i64 0) (fun v => Gh (K v)) I ((b2, .cells #[.int .i64 0, .int .i64 0] 41 (0, 0)) :: (b1, .cells #[v0, .int .i64 x.fTxn, .int .i64 x.fAt.fWall, .int .i64 x.fAt.fLogic, .bool x.fDel, v1] 190 (0, 0)) :: (X ++ F)) := by
    intro hb
    have e : putA sp x = (z0, 0, 1) := by unfold putA; rw [if_pos hb]
    have e2 : putS sp x = sp := by unfold putS; rw [e]; rfl
    have e3 : putN sp x nt = nt := by unfold putN; rw [e]; rfl
    rw [e2, e3] at hk
    have hk' := hk X I (Ext.refl _) hS
    rw [e] at hk'
    unfold sh156_1
    repeat' (first | (with_reducible refine drawC ?_) | (with_reducible refine drawW1 ?_) | (with_reducible refine drawW2 ?_) | (with_reducible refine keepC (by repeat (first | exact Ext.refl _ | assumption | refine Ext.trans ?_ (by assumption))) ?_) | (with_reducible refine newI (fun _ => ?_)) | first | (with_reducible refine rdb ?_) | ((with_reducible refine st1 ?_ ?_); rfl) | ((with_reducible refine rdB ?_ ?_); rfl) | (with_reducible refine rdbS ?_) | ((with_reducible refine rdBS ?_ ?_); rfl) | ((with_reducible refine stB ?_ ?_ ?_ ?_); rfl; rfl; exact one_all rfl) | ((with_reducible refine rdP _ rfl ?_ ?_); rfl) | ((with_reducible refine rdPS _ rfl ?_ ?_); rfl) | ((with_reducible refine stP _ rfl ?_ ?_ ?_ ?_); rfl; rfl; rfl) | (with_reducible refine unfE (sh156_1.eq_1 ..) ?_) | (with_reducible refine unfE (sh156_4.eq_1 ..) ?_) | (with_reducible refine unfE (sh156_8.eq_1 ..) ?_) | (with_reducible refine unfE (sh156_7.eq_1 ..) ?_) | (with_reducible refine unfE (sh156_6.eq_1 ..) ?_) | (with_reducible refine unfE (sh156_5.eq_1 ..) ?_) | (with_reducible refine unfE (sh156_3.eq_1 ..) ?_) | (with_reducible refine unfE (sh156_2.eq_1 ..) ?_) | (with_reducible refine unfE (sh156.eq_1 ..) ?_) | (with_reducible refine And.intro ?_ ?_) | (simp only [Bool.not_true, Bool.not_false, Bool.and_self, Bool.true_and, Int.reduceBEq, Int.reduceBNe, Int.reduceLT, Int.reduceLE, decide_true, decide_false, Br_true, Br_false, Gd_tt, Gd_ft, Gd_tf, Gd_ff, beq_self_eq_true, bne_self_eq_false]) | (with_reducible refine gd_split (fun _ => ?_) (fun _ => ?_)) | (with_reducible refine br_split (fun _ => ?_) (fun _ => ?_)) | (simp only [SSd, Nat.reduceAdd]))
    exact Gh.to (X ++ F) (Gh.done hk')
  -- taken on
  have main : ∀ (bat : Nat) (hb : ¬ putBad x), sh156_3 ω (pt b) (pt b1) (pt b2) (.int .i64 0) (.int .i64 0) (pt bat) (fun v => Gh (K v)) I (putL b1 b2 bat v0 v1 x (if bhd sp.floor x.fAt = true then sp.floor else x.fAt) (X ++ F)) := by
    intro bat hb
    have hb' := hb
    unfold putBad at hb'
    simp only [not_or, not_and, Bool.not_eq_false, Nat.not_lt, Decidable.not_not] at hb'
    have hkey : 1 ≤ x.fKey.length ∧ x.fKey.length ≤ 110 := by simpa [keyOk] using hb'.1
    -- done
    have fin : ∀ a, putA sp x = (a, 0, 0) → sh156_8 ω (pt b) (pt b1) (pt b2) (.int .i64 0) (.int .i64 0) (pt bat) (fun v => Gh (K v)) I (putL b1 b2 bat v0 v1 x a (X ++ F)) := by
      intro a ha
      have g := putA_ok hok (show (putA sp x).2.2 = 0 by rw [ha])
      have e2 : putS sp x = ⟨setIt x.fKey (putIt x a) sp.rows, sp.floor⟩ := by unfold putS; rw [ha]; rfl
      have e3 : putN sp x nt = updN nt (105 :: x.fKey) (itText (putIt x a)) := by unfold putN; rw [ha]; rfl
      rw [ha] at hk g
      rw [e2, e3] at hk
      exact put8_spec hS hs hlen h0 h1 g.2.1 hb'.2.1 (by omega) hb'.2.2.2.1 hk
    have err : ∀ by' e, putA sp x = (z0, by', e) → e ≠ 0 → K (.tuple #[sv z0, .int .i64 by', .int .i64 e]) I (X ++ F) := by
      intro by' e ha he
      have e2 : putS sp x = sp := by unfold putS; rw [ha]; exact if_pos he
      have e3 : putN sp x nt = nt := by unfold putN; rw [ha]; exact if_pos he
      rw [e2, e3] at hk
      have hk' := hk X I (Ext.refl _) hS
      rw [ha] at hk'
      exact hk'
    unfold sh156_3
    refine drawC ?_
    try simp only [SSd, Nat.reduceAdd]
    refine rdCS (hV.head 0 _ rfl) (Ext.refl _) ?_
    refine rdbS ?_
    refine bs_I h0 (Ext.refl _) ?_
    refine ⟨_, fun I' L' hS => lk_at (MapAt.mono hV.at' hS.1 (fun x hx => hS.2 _ (by simp [hx]))) hV.map, ?_⟩
    have hA : putA sp x = if (itAt sp.rows x.fKey).txn ≠ 0 ∧ (itAt sp.rows x.fKey).txn ≠ x.fTxn then (z0, (itAt sp.rows x.fKey).txn, 130) else
        if (pastL (putAt sp x) (vsAt sp.rows x.fKey).getLast?).2 ≠ 0 then (z0, 0, (pastL (putAt sp x) (vsAt sp.rows x.fKey).getLast?).2) else ((pastL (putAt sp x) (vsAt sp.rows x.fKey).getLast?).1, 0, 0) := by
      unfold putA; rw [if_neg hb]
    obtain ⟨g1, g2⟩ | ⟨r, q, g1, g2, g3, g4⟩ := hV.look hs x.fKey
    · have en : binPV .neq (.pointer none) (.pointer none) = some (.bool false) := rfl
      simp only [g2, lkV, Bool.false_eq_true, if_false, en, SSd, Nat.reduceAdd]
      refine fin _ ?_
      have ei : itAt sp.rows x.fKey = noIt := by unfold itAt; rw [g1]
      have ev : vsAt sp.rows x.fKey = [] := by unfold vsAt; rw [g1]
      rw [hA, ei, ev]
      simp [noIt, pastL, putAt, ei]
    · have ei : itAt sp.rows x.fKey = r.it := by unfold itAt; rw [g1]
      have ev : vsAt sp.rows x.fKey = r.vs := by unfold vsAt; rw [g1]
      rw [ei, ev] at hA
      have hat : putAt sp x = if r.it.txn ≠ 0 ∧ bhd r.it.ver.fAt (if bhd sp.floor x.fAt = true then sp.floor else x.fAt) = true then r.it.ver.fAt else (if bhd sp.floor x.fAt = true then sp.floor else x.fAt) := by
        unfold putAt; rw [ei]
      obtain ⟨sl, hC, hVs⟩ := g3
      obtain ⟨c0, c1, c14, c3, c4, c5, c15⟩ := itC hC
      have hvl := hvs r (rowOf_mem g1)
      simp only [g2, lkV, Bool.false_eq_true, if_false, SSd, Nat.reduceAdd]
      generalize (if bhd sp.floor x.fAt = true then sp.floor else x.fAt) = a0 at hat ⊢
      -- behind the last version
      have six : ∀ a, a = putAt sp x → ¬ (r.it.txn ≠ 0 ∧ r.it.txn ≠ x.fTxn) → sh156_6 ω (pt b) (pt b1) (pt b2) (.int .i64 0) (.int .i64 0) (pt bat) (pt q) (fun v => Gh (K v)) I (putL b1 b2 bat v0 v1 x a (X ++ F)) := by
        intro a ha hno
        rw [if_neg hno, ← ha] at hA
        unfold sh156_6
        try simp only [SSd, Nat.reduceAdd]
        refine rdC c0 (Ext.refl _) ?_
        simp only [RL.len hVs, SSd, Nat.reduceAdd]
        refine drawC ?_
        cases hl : r.vs.getLast? with
        | none =>
          have hv0 : r.vs = [] := List.getLast?_eq_none_iff.1 hl
          have eg : decide ((0 : Int) < ((r.vs.length : Nat) : Int)) = false := by rw [hv0]; rfl
          simp only [eg, SSd, Nat.reduceAdd]
          rw [hl] at hA
          exact fin a (by rw [hA]; rfl)
        | some v =>
          obtain ⟨hv0, hlx⟩ := last_ix hl
          have eg : decide ((0 : Int) < ((r.vs.length : Nat) : Int)) = true := by simpa using hv0
          simp only [eg, SSd, Nat.reduceAdd]
          refine rdBS rfl ?_
          refine rdCS c0 (Ext.refl _) ?_
          rw [wrap_i64 _ (by omega)]
          have el : ((r.vs.length : Nat) : Int) - 1 = ((r.vs.length - 1 : Nat) : Int) := by omega
          rw [el]
          obtain ⟨qq, off, cc, hix, hl4, hcc, hcr⟩ := RL.ix hVs (i := ((r.vs.length - 1 : Nat) : Int)) (by omega) (by omega)
          obtain rfl : cc = verC _ := hcc
          rw [hlx] at hcr
          obtain ⟨w1, w2, w3⟩ := verAt (hcr I (X ++ F) (Ext.refl _) (fun _ h => h))
          simp only [hix, SSd, Nat.reduceAdd]
          refine rdNCS w1 (Ext.refl _) rfl ?_
          refine call (behind_spec (x := a) (y := v.fAt) ?_)
          try simp only [SSd, Nat.reduceAdd]
          rw [hl] at hA
          refine br_split (fun e => ?_) (fun e => ?_)
          · have e' : ¬ bhd a v.fAt = true := by simpa using e
            have ep : pastL a (some v) = nextF v.fAt := if_neg e'
            rw [ep] at hA
            unfold sh156_7
            try simp only [SSd, Nat.reduceAdd]
            refine rdC c0 (Ext.refl _) ?_
            rw [wrap_i64 _ (by omega), el]
            simp only [hix, SSd, Nat.reduceAdd]
            refine rdNC w1 (Ext.refl _) rfl ?_
            refine call (hnext_spec (x := v.fAt) ?_)
            try simp only [SSd, Nat.reduceAdd]
            refine newI (fun bn => ?_)
            refine stB rfl rfl (one_all rfl) ?_
            try simp only [SSd, Nat.reduceAdd]
            refine br_split (fun e2 => ?_) (fun e2 => ?_)
            · have e2' : (nextF v.fAt).2 ≠ 0 := by simpa using e2
              rw [if_pos e2'] at hA
              have hk' := err _ _ hA e2'
              repeat' (first | (with_reducible refine drawC ?_) | (with_reducible refine drawW1 ?_) | (with_reducible refine drawW2 ?_) | (with_reducible refine keepC (by repeat (first | exact Ext.refl _ | assumption | refine Ext.trans ?_ (by assumption))) ?_) | (with_reducible refine newI (fun _ => ?_)) | first | (with_reducible refine rdb ?_) | ((with_reducible refine st1 ?_ ?_); rfl) | ((with_reducible refine rdB ?_ ?_); rfl) | (with_reducible refine rdbS ?_) | ((with_reducible refine rdBS ?_ ?_); rfl) | ((with_reducible refine stB ?_ ?_ ?_ ?_); rfl; rfl; exact one_all rfl) | ((with_reducible refine rdP _ rfl ?_ ?_); rfl) | ((with_reducible refine rdPS _ rfl ?_ ?_); rfl) | ((with_reducible refine stP _ rfl ?_ ?_ ?_ ?_); rfl; rfl; rfl) | (with_reducible refine unfE (sh156_1.eq_1 ..) ?_) | (with_reducible refine unfE (sh156_4.eq_1 ..) ?_) | (with_reducible refine unfE (sh156_8.eq_1 ..) ?_) | (with_reducible refine unfE (sh156_7.eq_1 ..) ?_) | (with_reducible refine unfE (sh156_6.eq_1 ..) ?_) | (with_reducible refine unfE (sh156_5.eq_1 ..) ?_) | (with_reducible refine unfE (sh156_3.eq_1 ..) ?_) | (with_reducible refine unfE (sh156_2.eq_1 ..) ?_) | (with_reducible refine unfE (sh156.eq_1 ..) ?_) | (with_reducible refine And.intro ?_ ?_) | (simp only [Bool.not_true, Bool.not_false, Bool.and_self, Bool.true_and, Int.reduceBEq, Int.reduceBNe, Int.reduceLT, Int.reduceLE, decide_true, decide_false, Br_true, Br_false, Gd_tt, Gd_ft, Gd_tf, Gd_ff, beq_self_eq_true, bne_self_eq_false]) | (with_reducible refine gd_split (fun _ => ?_) (fun _ => ?_)) | (with_reducible refine br_split (fun _ => ?_) (fun _ => ?_)) | (simp only [SSd, Nat.reduceAdd]))
              exact Gh.to (X ++ F) (Gh.done hk')
            · have e2' : ¬ (nextF v.fAt).2 ≠ 0 := by simpa using e2
              rw [if_neg e2'] at hA
              refine rdB rfl ?_
              refine stBG rfl rfl (one_all rfl) ?_
              exact Gh.to (putL b1 b2 bat v0 v1 x (nextF v.fAt).1 (X ++ F)) (Gh.done (fin _ hA))
          · have e' : bhd a v.fAt = true := by simpa using e
            have ep : pastL a (some v) = (a, 0) := if_pos e'
            rw [ep] at hA
            exact fin a hA
      refine drawC ?_
      try simp only [SSd, Nat.reduceAdd]
      refine rdCS c5 (Ext.refl _) ?_
      try simp only [SSd, Nat.reduceAdd]
      have rest : ∀ (hno : ¬ (r.it.txn ≠ 0 ∧ r.it.txn ≠ x.fTxn)), (Draw fun S => Pv (nilV (pt q)) fun v64 => Pv (fldV 1 v64) fun v65 => Pv (fldV 4 v65) fun v66 => Rv (some S) (ld1R v66) fun v67 => Pv (binIV .neq v67 (.int .i64 0)) fun v68 => Gd v68 true
          (Pv (nilV (pt q)) fun v69 => Pv (fldV 1 v69) fun v70 => Pv (fldV 0 v70) fun v71 => Pv (fldV 0 v71) fun v72 => Rv (some S) (ldNR 2 v72) fun v73 => Rv (some S) (ldNR 2 (pt bat)) fun v74 => Cal Tryz.prog ω 213 #[v73, v74] <| gh fun v75 =>
            Br v75 (sh156_5 ω (pt b) (pt b1) (pt b2) (.int .i64 0) (.int .i64 0) (pt bat) (pt q) (fun v => Gh (K v))) (sh156_6 ω (pt b) (pt b1) (pt b2) (.int .i64 0) (.int .i64 0) (pt bat) (pt q) (fun v => Gh (K v))))
          (sh156_6 ω (pt b) (pt b1) (pt b2) (.int .i64 0) (.int .i64 0) (pt bat) (pt q) (fun v => Gh (K v)))) I (putL b1 b2 bat v0 v1 x a0 (X ++ F)) := by
        intro hno
        refine drawC ?_
        try simp only [SSd, Nat.reduceAdd]
        refine rdCS c5 (Ext.refl _) ?_
        try simp only [SSd, Nat.reduceAdd]
        refine gd_split (fun e => ?_) (fun e => ?_)
        · have e' : r.it.txn ≠ 0 := by simpa using e
          refine rdNCS c1 (Ext.refl _) rfl ?_
          refine rdBS rfl ?_
          refine call (behind_spec (x := r.it.ver.fAt) (y := a0) ?_)
          refine br_split (fun e2 => ?_) (fun e2 => ?_)
          · rw [if_pos ⟨e', e2⟩] at hat
            unfold sh156_5
            try simp only [SSd, Nat.reduceAdd]
            refine rdNC c1 (Ext.refl _) rfl ?_
            refine stB rfl rfl (one_all rfl) ?_
            exact six _ hat.symm hno
          · rw [if_neg (fun h => by rw [h.2] at e2; cases e2)] at hat
            exact six _ hat.symm hno
        · have e' : ¬ r.it.txn ≠ 0 := by simpa using e
          rw [if_neg (fun h => e' h.1)] at hat
          exact six _ hat.symm hno
      refine gd_split (fun e => ?_) (fun e => ?_)
      · have e' : r.it.txn ≠ 0 := by simpa using e
        refine rdCS c5 (Ext.refl _) ?_
        refine rdbS ?_
        try simp only [SSd, Nat.reduceAdd]
        refine br_split (fun e2 => ?_) (fun e2 => ?_)
        · have e2' : r.it.txn ≠ x.fTxn := by simpa using e2
          rw [if_pos ⟨e', e2'⟩] at hA
          have hk' := err _ _ hA (by simp)
          unfold sh156_4
          refine drawW1 ?_
          try simp only [SSd, Nat.reduceAdd]
          refine rdCS c5 (Ext.refl _) ?_
          refine stB rfl rfl (one_all rfl) ?_
          refine keepC (Ext.refl _) ?_
          refine rdB rfl ?_
          exact Gh.to (X ++ F) (Gh.done hk')
        · exact rest (fun h => h.2 (by simpa using e2))
      · exact rest (fun h => by simp at e; exact h.1 e)
  try simp only [SSd, Nat.reduceAdd]
  refine rdb ?_
  refine call (iskey_spec h0 ?_)
  try simp only [SSd, Nat.reduceAdd]
  refine gd_split (fun e => ?_) (fun e => bad (.inl (by simpa using e)))
  have k1 : keyOk x.fKey = true := by simpa using e
  try simp only [SSd, Nat.reduceAdd]
  refine rdb ?_
  refine call (istxn_spec ?_)
  try simp only [SSd, Nat.reduceAdd]
  refine gd_split (fun e => ?_) (fun e => bad (.inr (.inl (by simpa using e))))
  have k2 : txnB x.fTxn = true := by simpa using e
  try simp only [SSd, Nat.reduceAdd]
  refine rdP [.int .i64 x.fAt.fWall, .int .i64 x.fAt.fLogic] rfl rfl ?_
  refine call (hright_spec (x := x.fAt) ?_)
  try simp only [SSd, Nat.reduceAdd]
  refine gd_split (fun e => ?_) (fun e => bad (.inr (.inr (.inl (by simpa using e)))))
  have k3 : rightB x.fAt = true := by simpa using e
  try simp only [SSd, Nat.reduceAdd]
  refine rdb ?_
  simp only [Bytes.len h1, SSd, Nat.reduceAdd]
  refine gd_split (fun e => ?_) (fun e => bad (.inr (.inr (.inr (.inl (by simp at e; omega))))))
  have k4 : x.fValue.length ≤ 10000 := by simp at e; omega
  try simp only [SSd, Nat.reduceAdd]
  refine rdb ?_
  have tail : ∀ (hd : ¬ (x.fDel = true ∧ x.fValue ≠ [])), (Pv (fldV 2 (pt b1)) fun v27 => Rv none (ldNR 2 v27) fun v28 => New (.cells #[.int .i64 0, .int .i64 0] 41 (0, 0)) <| gh fun at_29 => Sto 2 at_29 v28 <| gh fun _ =>
      Draw fun S => Pv (nilV (pt b)) fun v30 => Pv (fldV 2 v30) fun v31 => Rv (some S) (ldNR 2 v31) fun v32 => Rv (some S) (ldNR 2 at_29) fun v33 => Cal Tryz.prog ω 213 #[v32, v33] <| gh fun v34 =>
        Br v34 (sh156_2 ω (pt b) (pt b1) (pt b2) (.int .i64 0) (.int .i64 0) at_29 (fun v => Gh (K v))) (sh156_3 ω (pt b) (pt b1) (pt b2) (.int .i64 0) (.int .i64 0) at_29 (fun v => Gh (K v)))) I
      ((b2, .cells #[.int .i64 0, .int .i64 0] 41 (0, 0)) :: (b1, .cells #[v0, .int .i64 x.fTxn, .int .i64 x.fAt.fWall, .int .i64 x.fAt.fLogic, .bool x.fDel, v1] 190 (0, 0)) :: (X ++ F)) := by
    intro hd
    have hb : ¬ putBad x := by
      unfold putBad
      rintro (h | h | h | h | h)
      · rw [k1] at h; cases h
      · rw [k2] at h; cases h
      · rw [k3] at h; cases h
      · omega
      · exact hd h
    try simp only [SSd, Nat.reduceAdd]
    refine rdP [.int .i64 x.fAt.fWall, .int .i64 x.fAt.fLogic] rfl rfl ?_
    refine newI (fun bat => ?_)
    have hm := main bat hb
    refine stB rfl rfl (one_all rfl) ?_
    refine drawC ?_
    try simp only [SSd, Nat.reduceAdd]
    refine rdNCS hc2 (Ext.refl _) rfl ?_
    refine rdBS rfl ?_
    refine call (behind_spec (x := sp.floor) (y := x.fAt) ?_)
    refine br_split (fun e2 => ?_) (fun e2 => ?_)
    · rw [if_pos e2] at hm
      unfold sh156_2
      try simp only [SSd, Nat.reduceAdd]
      refine rdNC hc2 (Ext.refl _) rfl ?_
      refine stB rfl rfl (one_all rfl) ?_
      exact hm
    · rw [if_neg (by rw [e2]; simp)] at hm
      exact hm
  refine gd_split (fun e => ?_) (fun e => tail (fun h => e h.1))
  try simp only [SSd, Nat.reduceAdd]
  refine rdb ?_
  simp only [Bytes.len h1, SSd, Nat.reduceAdd]
  refine br_split (fun e2 => ?_) (fun e2 => ?_)
  · exact bad (.inr (.inr (.inr (.inr ⟨e, fun h => by rw [h] at e2; simp at e2⟩))))
  · exact tail (fun h => by simp at e2; exact h.2 e2)
end
end Go.Proofs.YtmmfcgbfbcamcaaGreatDoor
-- S3
set_option linter.unusedSimpArgs false
set_option linter.unusedVariables false
namespace Go.Proofs.YtmmfcgbfbcamcaaGreatDoor
open Go.SL
set_option maxRecDepth 10000
section
variable {ω : Om} {I : Imm} {L : LH} {K : Value → M}
abbrev verO (v : TVer) : Obj := .cells #[.int .i64 v.fAt.fWall, .int .i64 v.fAt.fLogic, .bool v.fDel, sstr v.fValue] 253 (0, 0)
def resV' (a : TStamp) (r : Row) : TVer := ⟨a, r.it.ver.fDel, r.it.ver.fValue⟩
def resNr (k : List UInt8) (yes : Bool) (a : TStamp) (r : Row) (nt : Nts) : Nts := if yes = true then updN (updN nt (105 :: k) (true, [])) (vkey k (resV' a r)) (false, verText (resV' a r)) else updN nt (105 :: k) (true, [])
def resN (sp : Sp) (k : List UInt8) (txn : Int) (yes : Bool) (a : TStamp) (nt : Nts) : Nts := if (resA sp k txn yes a).1 = true then (match rowOf sp.rows k with
  | some r => resNr k yes a r nt
  | none => nt) else nt
theorem versC_append (a b : List TVer) : versC (a ++ b) = versC a ++ versC b := by simp [versC]
theorem res5_spec {b : Nat} {a1 : Value} {k : List UInt8} {X F : LH} {A B : List Row} {r : Row} {fl : TStamp} {nt : Nts} {p10 p11 : Value} [hsub : SubP (X ++ F) L] (h1 : Bytes I a1 k) (hS : SpR I b X ⟨A ++ r :: B, fl⟩ nt) (hm : Mid A k B) (hkr : r.key = k) (hs : SrtK (keysOf (A ++ r :: B))) (hlen : (A ++ r :: B).length ≤ 100000000)
    (hk : ∀ X', SpR I b X' ⟨if emptyB r = true then A ++ B else A ++ r :: B, fl⟩ nt → K (.tuple #[.bool true, .int .i64 0]) I (X' ++ F)) : sh161_5 ω (pt b) a1 p10 p11 (fun v => Gh (K v)) I L := by
  unfold sh161_5
  refine bs_N h1 (Ext.refl _) ?_
  refine call (Cal.to (X ++ F) ?_)
  exact tidy_spec hS hm hkr hs hlen (fun X' h' => Gh.done (hk X' h'))
theorem resolve_spec {b : Nat} {a1 : Value} {k : List UInt8} {txn : Int} {yes : Bool} {a : TStamp} {X F : LH} {sp : Sp} {nt : Nts} (hS : SpR I b X sp nt) (hok : SpOk sp) (hlen : sp.rows.length ≤ 100000000) (hvs : ∀ r ∈ sp.rows, r.vs.length ≤ 100000000) (h1 : Bytes I a1 k)
    (hk : ∀ X' I', Ext I I' → SpR I' b X' (resS sp k txn yes a) (resN sp k txn yes a nt) → K (.tuple #[.bool (resA sp k txn yes a).1, .int .i64 (resA sp k txn yes a).2]) I' (X' ++ F)) :
    Cal Tryz.prog ω 161 #[pt b, a1, .int .i64 txn, .bool yes, sv a] K I (X ++ F) := by
  have hs := hok.rise
  have same : ∀ x, resA sp k txn yes a = (false, x) → K (.tuple #[.bool false, .int .i64 x]) I (X ++ F) := by
    intro x e
    have e2 : resS sp k txn yes a = sp := by unfold resS; rw [e]; rfl
    have e3 : resN sp k txn yes a nt = nt := by unfold resN; rw [e]; rfl
    rw [e2, e3] at hk
    have hk' := hk X I (Ext.refl _) hS
    rw [e] at hk'
    exact hk'
  by_cases hbad : keyOk k = false ∨ txnB txn = false ∨ (yes = true ∧ rightB a = false)
  · have hk' := same 1 (by unfold resA; rw [if_pos hbad])
    refine cal161 ?_
    unfold sh161
    refine newI (fun bat => ?_)
    refine call (iskey_spec h1 ?_)
    try simp only [SSd, Nat.reduceAdd]
    refine gd_split (fun e => ?_) (fun e => Gh.to (X ++ F) (Gh.done hk'))
    refine call (istxn_spec ?_)
    try simp only [SSd, Nat.reduceAdd]
    refine gd_split (fun e2 => ?_) (fun e2 => Gh.to (X ++ F) (Gh.done hk'))
    have hy : yes = true ∧ rightB a = false := by
      rcases hbad with h | h | h
      · rw [h] at e; simp at e
      · rw [h] at e2; simp at e2
      · exact h
    simp only [hy.1, SSd, Nat.reduceAdd]
    refine rdB rfl ?_
    refine call (hright_spec (x := a) ?_)
    simp only [hy.2, Bool.not_false, SSd, Nat.reduceAdd]
    exact Gh.to (X ++ F) (Gh.done hk')
  have hA : resA sp k txn yes a = if (itAt sp.rows k).txn ≠ txn then (false, 0) else if yes = true ∧ (bhd (itAt sp.rows k).ver.fAt a = true ∨ earlyB a (vsAt sp.rows k).getLast? = true) then (false, 1) else (true, 0) := by unfold resA; rw [if_neg hbad]
  simp only [not_or, Bool.not_eq_false, not_and] at hbad
  obtain ⟨k1, k2, k3⟩ := hbad
  have kl : 1 ≤ k.length ∧ k.length ≤ 110 := by simpa [keyOk] using k1
  have kt := txnB_ne k2
  obtain ⟨rows, fl⟩ := sp
  rcases place k hs with ⟨A, r, B, e, hkr, hm⟩ | ⟨A, B, e, hm⟩
  rotate_left
  · simp only at e; subst e
    rw [itAt_gap hm, if_pos (show noIt.txn ≠ txn from fun h => kt h.symm)] at hA
    have hk' := same 0 hA
    obtain ⟨m, kv, es, clock, ps, hV⟩ := hS.view (L := X ++ F) (fun y hy => List.mem_append_left _ hy)
    have hn : cellsM ps (A ++ B) k = none := cellsM_gap hm.notin
    cases yes
    · refine cal161 ?_
      unfold sh161
      refine newI (fun bat => ?_)
      refine call (iskey_spec h1 ?_)
      simp only [k1, Bool.not_true, SSd, Nat.reduceAdd]
      refine call (istxn_spec ?_)
      simp only [k2, Bool.not_true, SSd, Nat.reduceAdd]
      refine drawC ?_
      try simp only [SSd, Nat.reduceAdd]
      refine rdCS (hV.head 0 _ rfl) (Ext.refl _) ?_
      refine bs_I h1 (Ext.refl _) ?_
      refine ⟨_, fun I' L' hS => lk_at (MapAt.mono hV.at' hS.1 (fun x hx => hS.2 _ (by simp [hx]))) hV.map, ?_⟩
      have en : binPV .eql (.pointer none) (.pointer none) = some (.bool true) := rfl
      simp only [hn, lkV, Bool.false_eq_true, if_false, en, SSd, Nat.reduceAdd]
      exact Gh.to (X ++ F) (Gh.done hk')
    · refine cal161 ?_
      unfold sh161
      refine newI (fun bat => ?_)
      refine call (iskey_spec h1 ?_)
      simp only [k1, Bool.not_true, SSd, Nat.reduceAdd]
      refine call (istxn_spec ?_)
      simp only [k2, Bool.not_true, SSd, Nat.reduceAdd]
      refine rdB rfl ?_
      refine call (hright_spec (x := a) ?_)
      simp only [k3 rfl, Bool.not_true, SSd, Nat.reduceAdd]
      refine drawC ?_
      try simp only [SSd, Nat.reduceAdd]
      refine rdCS (hV.head 0 _ rfl) (Ext.refl _) ?_
      refine bs_I h1 (Ext.refl _) ?_
      refine ⟨_, fun I' L' hS => lk_at (MapAt.mono hV.at' hS.1 (fun x hx => hS.2 _ (by simp [hx]))) hV.map, ?_⟩
      have en : binPV .eql (.pointer none) (.pointer none) = some (.bool true) := rfl
      simp only [hn, lkV, Bool.false_eq_true, if_false, en, SSd, Nat.reduceAdd]
      exact Gh.to (X ++ F) (Gh.done hk')
  · simp only at e; subst e
    rw [itAt_mid hm hkr, vsAt_mid hm hkr] at hA
    obtain ⟨p1, p2, p3⟩ := hok.part
    obtain ⟨ps, hS⟩ := hS
    obtain ⟨p, sl, Y, R, hps, hp, hv, hX, g4⟩ := hS.open' hm hkr
    obtain ⟨m, kv, es, clock, hV, hcp⟩ := g4 ((p, cellO sl r.it) :: (Y ++ (R ++ F))) (fun x hx => by
      have := hp.mem_iff.1 hx
      simp only [List.mem_cons, List.mem_append] at this ⊢
      rcases this with h | h | h
      · exact .inl h
      · exact .inr (.inl h)
      · exact .inr (.inr (.inl h)))
    have hs1 : SrtK (keysOf (A ++ ⟨k, r.vs, noIt⟩ :: B)) := by rw [keys_swap (r := r) hkr.symm]; exact hs
    have hlen1 : (A ++ (⟨k, r.vs, noIt⟩ : Row) :: B).length ≤ 100000000 := by simpa using hlen
    refine Cal.perm (L' := (p, cellO sl r.it) :: (Y ++ (R ++ F))) (ms_perm (by rw [ms_app, ms_eq hp]; ((try simp only [ms_cons, ms_app, ms_nil, ms_nil']); (try ac_rfl)))) ?_
    have back : ∀ (bat : Nat) {v : Value}, K v I (X ++ F) → Gh (K v) I ((bat, stO a) :: (p, cellO sl r.it) :: (Y ++ (R ++ F))) := fun bat v h => Gh.to ((p, cellO sl r.it) :: (Y ++ (R ++ F))) (Gh.perm (L' := X ++ F) (ms_perm (by rw [ms_app, ms_eq hp]; ((try simp only [ms_cons, ms_app, ms_nil, ms_nil']); (try ac_rfl)))) (Gh.done h))
    have back2 : ∀ (bv bat : Nat) {v : Value}, K v I (X ++ F) → Gh (K v) I ((bv, verO r.it.ver) :: (bat, stO a) :: (p, cellO sl r.it) :: (Y ++ (R ++ F))) := fun bv bat v h => Gh.to ((p, cellO sl r.it) :: (Y ++ (R ++ F))) (Gh.perm (L' := X ++ F) (ms_perm (by rw [ms_app, ms_eq hp]; ((try simp only [ms_cons, ms_app, ms_nil, ms_nil']); (try ac_rfl)))) (Gh.done h))
    cases yes
    · refine cal161 ?_
      unfold sh161
      refine newI (fun bat => ?_)
      refine call (iskey_spec h1 ?_)
      simp only [k1, Bool.not_true, SSd, Nat.reduceAdd]
      refine call (istxn_spec ?_)
      simp only [k2, Bool.not_true, SSd, Nat.reduceAdd]
      refine drawC ?_
      try simp only [SSd, Nat.reduceAdd]
      refine rdCS (hV.head 0 _ rfl) (Ext.refl _) ?_
      refine bs_I h1 (Ext.refl _) ?_
      refine ⟨_, fun I' L' hS => lk_at (MapAt.mono hV.at' hS.1 (fun x hx => hS.2 _ (by simp [hx]))) hV.map, ?_⟩
      simp only [hcp, lkV, Bool.false_eq_true, if_false, SSd, Nat.reduceAdd]
      refine rdb ?_
      try simp only [SSd, Nat.reduceAdd]
      refine br_split (fun e => ?_) (fun e => ?_)
      · have e' : r.it.txn ≠ txn := by simpa using e
        rw [if_pos e'] at hA
        exact back _ (same 0 hA)
      have e' : ¬ r.it.txn ≠ txn := by simpa using e
      rw [if_neg e'] at hA
      try simp only [SSd, Nat.reduceAdd]
      refine rdP [.int .i64 r.it.ver.fAt.fWall, .int .i64 r.it.ver.fAt.fLogic, .bool r.it.ver.fDel, sstr r.it.ver.fValue] rfl rfl ?_
      refine newI (fun bv => ?_)
      refine stB rfl rfl (one_all rfl) ?_
      try simp only [SSd, Nat.reduceAdd]
      refine rdb ?_
      obtain ⟨sa, sc, rfl⟩ := hv.form
      try simp only [SSd, Nat.reduceAdd]
      refine drawC ?_
      try simp only [SSd, Nat.reduceAdd]
      refine ⟨⟨Ext.refl _, fun _ h => h⟩, ?_⟩
      have hA' : resA ⟨A ++ r :: B, fl⟩ k txn false a = (true, 0) := by rw [hA]; rfl
      try simp only [SSd, Nat.reduceAdd]
      refine stP _ rfl rfl rfl rfl ?_
      refine bs_N h1 (Ext.refl _) ?_
      have hS' := hX.close ⟨k, r.vs, noIt⟩ _ Y ((p, cellO (.slice sa r.vs.length sc) noIt) :: (Y ++ R)) rfl hv (List.Perm.refl _)
      refine call (Cal.perm (L' := ((p, cellO (.slice sa r.vs.length sc) noIt) :: (Y ++ R)) ++ ((bv, verO r.it.ver) :: (bat, stO a) :: F)) (ms_perm (by ((try simp only [ms_cons, ms_app, ms_nil, ms_nil']); (try ac_rfl)))) ?_)
      refine noteIntent_spec hS' hs1 (rowOf_mid hm rfl) (by simp [noIt]) (fun h => absurd rfl h) (by omega) (by simp [noIt]) (fun X' I' hI' h' => ?_)
      refine res5_spec (X := X') (F := F) (h1.mono hI') ⟨_, h'⟩ hm rfl hs1 hlen1 (fun X2 h2 => ?_)
      have hk' := hk X2 I' hI'
      rw [hA'] at hk'
      refine hk' ?_
      have e2 : resS ⟨A ++ r :: B, fl⟩ k txn false a = ⟨if emptyB ⟨k, r.vs, noIt⟩ = true then A ++ B else A ++ ⟨k, r.vs, noIt⟩ :: B, fl⟩ := by
        unfold resS; rw [hA']
        simp only [if_true]
        rw [updR_mid hm hkr, tidyR_mid (fun x hx => (p1 x hx).some) (fun x hx => (p3 x hx).some)]
        simp [resR, hkr]
      have e3 : resN ⟨A ++ r :: B, fl⟩ k txn false a nt = updN nt (105 :: k) (true, []) := by
        unfold resN; rw [hA']
        simp only [if_true]
        rw [rowOf_mid hm hkr]
        rfl
      rw [e2, e3]
      exact h2
    · refine cal161 ?_
      unfold sh161
      refine newI (fun bat => ?_)
      refine call (iskey_spec h1 ?_)
      simp only [k1, Bool.not_true, SSd, Nat.reduceAdd]
      refine call (istxn_spec ?_)
      simp only [k2, Bool.not_true, SSd, Nat.reduceAdd]
      refine rdB rfl ?_
      refine call (hright_spec (x := a) ?_)
      simp only [k3 rfl, Bool.not_true, SSd, Nat.reduceAdd]
      refine drawC ?_
      try simp only [SSd, Nat.reduceAdd]
      refine rdCS (hV.head 0 _ rfl) (Ext.refl _) ?_
      refine bs_I h1 (Ext.refl _) ?_
      refine ⟨_, fun I' L' hS => lk_at (MapAt.mono hV.at' hS.1 (fun x hx => hS.2 _ (by simp [hx]))) hV.map, ?_⟩
      simp only [hcp, lkV, Bool.false_eq_true, if_false, SSd, Nat.reduceAdd]
      refine rdb ?_
      try simp only [SSd, Nat.reduceAdd]
      refine br_split (fun e => ?_) (fun e => ?_)
      · have e' : r.it.txn ≠ txn := by simpa using e
        rw [if_pos e'] at hA
        exact back _ (same 0 hA)
      have e' : ¬ r.it.txn ≠ txn := by simpa using e
      rw [if_neg e'] at hA
      try simp only [SSd, Nat.reduceAdd]
      refine rdP [.int .i64 r.it.ver.fAt.fWall, .int .i64 r.it.ver.fAt.fLogic, .bool r.it.ver.fDel, sstr r.it.ver.fValue] rfl rfl ?_
      refine newI (fun bv => ?_)
      refine stB rfl rfl (one_all rfl) ?_
      try simp only [SSd, Nat.reduceAdd]
      refine rdb ?_
      obtain ⟨sa, sc, rfl⟩ := hv.form
      try simp only [SSd, Nat.reduceAdd]
      refine drawC ?_
      try simp only [SSd, Nat.reduceAdd]
      refine rdPS [.int .i64 r.it.ver.fAt.fWall, .int .i64 r.it.ver.fAt.fLogic] rfl rfl ?_
      refine rdBS rfl ?_
      refine call (behind_spec (x := r.it.ver.fAt) (y := a) ?_)
      refine keepC (Ext.refl _) ?_
      refine gd_split (fun e2 => ?_) (fun e2 => ?_)
      rotate_left
      · have e2' : bhd r.it.ver.fAt a = true := by simpa using e2
        rw [if_pos ⟨rfl, .inl e2'⟩] at hA
        exact back2 _ _ (same 1 hA)
      have tail : ∀ hA' : resA ⟨A ++ r :: B, fl⟩ k txn true a = (true, 0), (Pv (bldV #[.int .i64 0, .int .i64 0, .bool false, .string (ByteArray.mk #[]), .int .i64 0] #[(0, 4), (4, 1)] []) fun v44 => Pv (nilV (pt p)) fun v45 => Pv (fldV 1 v45) fun v46 => Sto 5 v46 v44 <| gh fun _ => Rv none (bsR a1) fun v47 =>
          Cal Tryz.prog ω 190 #[pt b, v47] <| gh fun v48 => Br (.bool true) (sh161_4 ω (pt b) a1 (pt bat) (.bool false) (.int .i64 0) (pt p) (pt bv) (fun v => Gh (K v))) (sh161_5 ω (pt b) a1 (.bool false) (.int .i64 0) (fun v => Gh (K v)))) I
          ((bv, verO r.it.ver) :: (bat, stO a) :: (p, cellO (.slice sa r.vs.length sc) r.it) :: (Y ++ (R ++ F))) := by
        intro hA'
        try simp only [SSd, Nat.reduceAdd]
        refine stP _ rfl rfl rfl rfl ?_
        refine bs_N h1 (Ext.refl _) ?_
        have hS' := hX.close ⟨k, r.vs, noIt⟩ _ Y ((p, cellO (.slice sa r.vs.length sc) noIt) :: (Y ++ R)) rfl hv (List.Perm.refl _)
        refine callG (Cal.perm (L' := ((p, cellO (.slice sa r.vs.length sc) noIt) :: (Y ++ R)) ++ ((bv, verO r.it.ver) :: (bat, stO a) :: F)) (ms_perm (by ((try simp only [ms_cons, ms_app, ms_nil, ms_nil']); (try ac_rfl)))) ?_)
        refine noteIntent_spec hS' hs1 (rowOf_mid hm rfl) (by simp [noIt]) (fun h => absurd rfl h) (by omega) (by simp [noIt]) (fun X' I' hI' h' => ?_)
        obtain ⟨p', sl', Y', R', hps', gp, gv, gX, g4'⟩ := h'.open' hm rfl
        obtain rfl : p' = p := by rw [hps] at hps'; exact (Option.some.inj hps').symm
        refine Gh.perm (L' := (p', cellO sl' noIt) :: (Y' ++ (R' ++ ((bv, verO r.it.ver) :: (bat, stO a) :: F)))) (ms_perm (by rw [ms_app, ms_eq gp]; ((try simp only [ms_cons, ms_app, ms_nil, ms_nil']); (try ac_rfl)))) (Gh.done ?_)
        obtain ⟨sa2, sc2, rfl⟩ := gv.form
        try simp only [SSd, Nat.reduceAdd]
        unfold sh161_4
        try simp only [SSd, Nat.reduceAdd]
        refine rdB rfl ?_
        refine stP _ rfl rfl rfl rfl ?_
        refine drawC ?_
        try simp only [SSd, Nat.reduceAdd]
        refine rdbS ?_
        refine rdBS rfl ?_
        refine bld_one rfl (by omega) rfl (fun X1 u hX1 => ?_)
        refine keepC (Ext.refl _) ?_
        have hvl : r.vs.length ≤ 100000000 := hvs r (by simp)
        refine app_own (X := Y') (news := verC (resV' a r)) rfl gv (hX1.news (fun x hx => List.mem_append_left _ hx)) (one_all rfl) (by simp only; omega) (by simp only; omega) (fun Y2 sl2 hY2 => ?_)
        obtain ⟨sa3, sc3, rfl⟩ := hY2.form
        try simp only [SSd, Nat.reduceAdd]
        refine st1 rfl ?_
        refine bs_N (h1.mono hI') (Ext.refl _) ?_
        refine rdB rfl ?_
        have hv2 : VsO Y2 (.slice sa3 (r.vs.length + 1) sc3) (r.vs ++ [resV' a r]) := by
          unfold VsO
          rw [versC_append, List.length_append]
          exact hY2
        have hS2 := gX.close ⟨k, r.vs ++ [resV' a r], noIt⟩ _ Y2 ((p', cellO (.slice sa3 (r.vs.length + 1) sc3) noIt) :: (Y2 ++ R')) rfl hv2 (List.Perm.refl _)
        have hvalL : r.it.ver.fValue.length ≤ 10000 := by
          rcases p2.it with h | ⟨_, h⟩
          · rw [h]; simp [noIt]
          · exact h.len
        refine call (Cal.perm (L' := ((p', cellO (.slice sa3 (r.vs.length + 1) sc3) noIt) :: (Y2 ++ R')) ++ ((bv, verO (resV' a r)) :: (bat, stO a) :: (X1 ++ F))) (ms_perm (by ((try simp only [ms_cons, ms_app, ms_nil, ms_nil']); (try ac_rfl)))) ?_)
        refine noteVersion_spec (v := resV' a r) hS2 (k3 rfl) (by omega) (by simp only [resV']; omega) (fun X2 I2 hI2 h2 => ?_)
        have hs2 : SrtK (keysOf (A ++ ⟨k, r.vs ++ [resV' a r], noIt⟩ :: B)) := by rw [keys_swap (r := r) hkr.symm]; exact hs
        refine res5_spec (X := X2) (F := F) (h1.mono (hI'.trans hI2)) ⟨_, h2⟩ hm rfl hs2 (by simpa using hlen) (fun X3 h3 => ?_)
        have hk' := hk X3 I2 (hI'.trans hI2)
        rw [hA'] at hk'
        refine hk' ?_
        have e2 : resS ⟨A ++ r :: B, fl⟩ k txn true a = ⟨if emptyB ⟨k, r.vs ++ [resV' a r], noIt⟩ = true then A ++ B else A ++ ⟨k, r.vs ++ [resV' a r], noIt⟩ :: B, fl⟩ := by
          unfold resS; rw [hA']
          simp only [if_true]
          rw [updR_mid hm hkr, tidyR_mid (fun x hx => (p1 x hx).some) (fun x hx => (p3 x hx).some)]
          rw [show resR true a r = ⟨k, r.vs ++ [resV' a r], noIt⟩ from by simp [resR, hkr, resV']]
        have e3 : resN ⟨A ++ r :: B, fl⟩ k txn true a nt = updN (updN nt (105 :: k) (true, [])) (vkey k (resV' a r)) (false, verText (resV' a r)) := by
          unfold resN; rw [hA']
          simp only [if_true]
          rw [rowOf_mid hm hkr]
          rfl
        rw [e2, e3]
        exact h3
      cases hl : r.vs.getLast? with
      | none =>
        have hv0 : r.vs = [] := List.getLast?_eq_none_iff.1 hl
        have eg : decide ((0 : Int) < ((r.vs.length : Nat) : Int)) = false := by rw [hv0]; rfl
        have hA' : resA ⟨A ++ r :: B, fl⟩ k txn true a = (true, 0) := by
          rw [hA, hl, if_neg]
          rintro ⟨_, h | h⟩
          · rw [h] at e2; cases e2
          · cases h
        have htail := tail hA'
        simp only [SSd, Nat.reduceAdd] at htail
        simp only [eg, SSd, Nat.reduceAdd]
        exact htail
      | some v =>
        obtain ⟨hv0, hlx⟩ := last_ix hl
        have eg : decide ((0 : Int) < ((r.vs.length : Nat) : Int)) = true := by simpa using hv0
        simp only [eg, SSd, Nat.reduceAdd]
        refine rdBS rfl ?_
        refine rdbS ?_
        have hvl : r.vs.length ≤ 100000000 := hvs r (by simp)
        rw [wrap_i64 _ (by omega)]
        have el : ((r.vs.length : Nat) : Int) - 1 = ((r.vs.length - 1 : Nat) : Int) := by omega
        rw [el]
        obtain ⟨qq, off, cc, hix, hl4, hcc, hcr⟩ := RL.ix (VsO.rl (I := I) (L := Y) hv (fun _ h => h)) (i := ((r.vs.length - 1 : Nat) : Int)) (by omega) (by omega)
        obtain rfl : cc = verC _ := hcc
        rw [hlx] at hcr
        obtain ⟨w1, w2, w3⟩ := verAt (hcr I Y (Ext.refl _) (fun _ h => h))
        simp only [hix, SSd, Nat.reduceAdd]
        refine rdNS (vs := [.int .i64 v.fAt.fWall, .int .i64 v.fAt.fLogic]) rfl (fun I' L' hS => w1.mono hS.1 (fun x hx => hS.2 _ (by simp [hx]))) ?_
        refine call (behind_spec (x := a) (y := v.fAt) ?_)
        try simp only [SSd, Nat.reduceAdd]
        refine br_split (fun e3 => ?_) (fun e3 => ?_)
        · have e3' : earlyB a r.vs.getLast? = true := by rw [hl]; simpa [earlyB] using e3
          rw [if_pos ⟨rfl, .inr e3'⟩] at hA
          exact back2 _ _ (same 1 hA)
        · have hA' : resA ⟨A ++ r :: B, fl⟩ k txn true a = (true, 0) := by
            rw [hA, hl, if_neg]
            rintro ⟨_, h | h⟩
            · rw [h] at e2; cases e2
            · simp only [earlyB] at h; rw [h] at e3; cases e3
          have htail := tail hA'
          simp only [SSd, Nat.reduceAdd] at htail
          exact htail
end
end Go.Proofs.YtmmfcgbfbcamcaaGreatDoor
-- S3
set_option linter.unusedSimpArgs false
set_option linter.unusedVariables false
namespace Go.Proofs.YtmmfcgbfbcamcaaGreatDoor
open Go.SL
set_option maxRecDepth 10000
section
variable {ω : Om} {I : Imm} {L : LH} {K : Value → M}
theorem calV_func {P : Program} {f : FuncId} {first cap args : Array Value} (he : entersB P f = true) (h : Cal P ω f (first ++ args ++ cap) K I L) : CalV P ω (.func (.func f) first cap) args K I L := by
  simp only [CalV]
  rw [if_pos he]
  exact h
structure Clo (ω : Om) (fid : FuncId) (caps : Array Value) (f : TVer → Bool) (vs : List TVer) (J : List TVer → Imm → LH → Prop) : Prop where
  ent : entersB Tryz.prog fid = true
  mono : ∀ done I I' G, J done I G → Ext I I' → J done I' G
  step : ∀ done v rest I G L (K : Value → M), vs = done ++ v :: rest → J done I G → (∀ I' G', Ext I I' → J (done ++ [v]) I' G' → K (.bool (f v)) I' (G' ++ L)) → Cal Tryz.prog ω fid (#[] ++ #[vv v] ++ caps) K I (G ++ L)
theorem take_snoc {α : Type} {l : List α} {j : Nat} (h : j < l.length) : l.take (j + 1) = l.take j ++ [l[j]] := by
  rw [List.take_add_one, List.getElem?_eq_getElem h]; rfl
theorem split_at {α : Type} {l : List α} {j : Nat} (h : j < l.length) : l = l.take j ++ l[j] :: l.drop (j + 1) := by
  rw [← List.drop_eq_getElem_cons h, List.take_append_drop]
theorem indexF_spec {fid : FuncId} {caps : Array Value} {f : TVer → Bool} {vs : List TVer} {J : List TVer → Imm → LH → Prop} {Y G F : LH} {sl : Value} (hc : Clo ω fid caps f vs J) (hv : VsO Y sl vs) (hlen : vs.length ≤ 1000000000) (hJ : J [] I G)
    (h1 : ∀ I' G', Ext I I' → J vs I' G' → (∀ v ∈ vs, f v = false) → K (.int .i64 (-1)) I' (Y ++ (G' ++ F)))
    (h2 : ∀ I' G' (i : Nat) (hi : i < vs.length), Ext I I' → J (vs.take (i + 1)) I' G' → (∀ v ∈ vs.take i, f v = false) → f vs[i] = true → K (.int .i64 i) I' (Y ++ (G' ++ F))) :
    Cal Tryz.prog ω 247 #[sl, .func (.func fid) #[] caps] K I (Y ++ (G ++ F)) := by
  refine cal247 ?_
  unfold sh247
  obtain ⟨sa, sc, rfl⟩ := hv.form
  try simp only [SSd, Nat.reduceAdd]
  refine loop (fun n s I' L' => Ext I I' ∧ ∃ (j : Nat) (G' : LH), n + j = vs.length ∧ s = (.int .i64 0, .int .i64 j, ()) ∧ L' = Y ++ (G' ++ F) ∧ J (vs.take j) I' G' ∧ ∀ v ∈ vs.take j, f v = false) vs.length ⟨Ext.refl _, 0, G, rfl, rfl, rfl, by simpa using hJ, by simp⟩ ?_
  rintro n s I' L' ⟨hI, j, G', hnj, rfl, rfl, hj, hA⟩
  unfold sh247_1
  try simp only [SSd, Nat.reduceAdd]
  refine br_split (fun e => ?_) (fun e => ?_)
  · have hjl : j < vs.length := by simpa using e
    obtain ⟨qq, off, cc, hix, hl4, hcc, hcr⟩ := RL.ix (VsO.rl (I := I') (L := Y) hv (fun _ h => h)) (i := (j : Int)) (by omega) (by omega)
    obtain rfl : cc = verC _ := hcc
    rw [geti_nat hjl] at hcr
    simp only [hix, SSd, Nat.reduceAdd]
    refine rdNC (hcr I' Y (Ext.refl _) (fun _ h => h)) (Ext.refl _) rfl ?_
    refine calV_func hc.ent (Cal.gh (Cal.perm (L' := G' ++ (Y ++ F)) (ms_perm (by ((try simp only [ms_cons, ms_app, ms_nil, ms_nil']); (try ac_rfl)))) (hc.step (vs.take j) vs[j] (vs.drop (j + 1)) _ _ _ _ (split_at hjl) hj (fun I2 G2 hI2 h2' => Gh.perm (L' := Y ++ (G2 ++ F)) (ms_perm (by ((try simp only [ms_cons, ms_app, ms_nil, ms_nil']); (try ac_rfl)))) (Gh.done (Gh.done ?_))))))
    rw [← take_snoc hjl] at h2'
    refine br_split (fun e2 => ?_) (fun e2 => ?_)
    · exact Gh.done (h2 I2 G2 j hjl (hI.trans hI2) h2' hA e2)
    · try simp only [SSd, Nat.reduceAdd]
      rw [wrap_i64 _ (by omega)]
      refine Gh.done ⟨n - 1, by omega, hI.trans hI2, j + 1, G2, by omega, rfl, rfl, h2', fun v hv => ?_⟩
      rw [take_snoc hjl] at hv
      rcases List.mem_append.1 hv with hv | hv
      · exact hA v hv
      · simp only [List.mem_singleton] at hv; subst hv; exact e2
  · have hjl : j = vs.length := by simp at e; omega
    subst hjl
    rw [List.take_length] at hj hA
    exact Gh.done (h1 I' G' hI hj hA)
theorem versC_at {vs : List TVer} {j : Nat} (hj : j < vs.length) : ((versC vs).drop (j * 4)).take 4 = verC vs[j] := by
  have h := (versC_recs (I := fun _ => none) vs).get (i := j) (x := vs[j]) (by simp [hj])
  exact h.2
theorem versC_get {vs : List TVer} {j k : Nat} {u : Value} (hj : j < vs.length) (hk : (verC vs[j])[k]? = some u) : (versC vs)[j * 4 + k]? = some u := by
  have hlt : k < 4 := by have := (List.getElem?_eq_some_iff.1 hk).1; simpa [verC] using this
  rw [← versC_at hj, List.getElem?_take, if_pos hlt, List.getElem?_drop] at hk
  exact hk
theorem delF_spec {fid : FuncId} {caps : Array Value} {f : TVer → Bool} {vs : List TVer} {J : List TVer → Imm → LH → Prop} {Y G F : LH} {sl : Value} (hc : Clo ω fid caps f vs J) (hv : VsO Y sl vs) (hlen : vs.length ≤ 1000000000) (hJ : J [] I G)
    (hk : ∀ I' G' Y' v', Ext I I' → J vs I' G' → VsO Y' v' (vs.filter fun v => !f v) → K v' I' (Y' ++ (G' ++ F))) :
    Cal Tryz.prog ω 223 #[sl, .func (.func fid) #[] caps] K I (Y ++ (G ++ F)) := by
  refine cal223 ?_
  unfold sh223
  refine call (indexF_spec hc hv hlen hJ (fun I1 G1 hI1 hJ1 hA => ?_) (fun I1 G1 i hi hI1 hJ1 hA hf => ?_))
  · have e : ((-1 : Int) == -1) = true := rfl
    simp only [e, SSd, Nat.reduceAdd]
    rw [List.filter_eq_self.2 (fun v hv => by simp [hA v hv])] at hk
    exact Gh.done (hk I1 G1 Y sl hI1 hJ1 hv)
  have e : ((i : Int) == -1) = false := by simp
  simp only [e, SSd, Nat.reduceAdd]
  rw [wrap_i64 _ (by omega)]
  obtain ⟨hcl, ⟨_, h0, _⟩ | ⟨b, cap, cs, rfl, rfl, hsz, hle, hcs⟩⟩ := hv
  · omega
  have hkeep0 : (vs.take (i + 1)).filter (fun v => !f v) = vs.take i := by
    rw [take_snoc hi, List.filter_append, List.filter_eq_self.2 (fun v hv => by simp [hA v hv])]
    simp [hf]
  refine loop (fun n s I' L' => Ext I I' ∧ ∃ (j q : Nat) (W : Array Value) (G' : LH), n + j = vs.length ∧ s = (.int .i64 q, .int .i64 j, ()) ∧ L' = [(b, Obj.cells W 253 (0, 0))] ++ (G' ++ F) ∧ J (vs.take j) I' G' ∧ q < j ∧ W.size = cap * 4 ∧ q = ((vs.take j).filter (fun v => !f v)).length ∧
      (∀ (k : Nat) (u : Value), (versC ((vs.take j).filter (fun v => !f v)))[k]? = some u → W[k]? = some u) ∧ (∀ (k : Nat) (u : Value), j * 4 ≤ k → (versC vs)[k]? = some u → W[k]? = some u)) (vs.length - (i + 1))
    ⟨hI1, i + 1, i, cs, G1, by omega, by simp, rfl, hJ1, by omega, hsz, by rw [hkeep0, List.length_take]; omega, fun k u hu => ?_, fun k u _ hu => hcs k u hu⟩ ?_
  · rw [hkeep0] at hu
    refine hcs k u ?_
    rw [show versC vs = versC (vs.take i) ++ versC (vs.drop i) by rw [← versC_append, List.take_append_drop], List.getElem?_append_left (List.getElem?_eq_some_iff.1 hu).1]
    exact hu
  rintro n s I' L' ⟨hI, j, q, W, G', hnj, rfl, rfl, hj, hqj, hW, hq, hA1, hA2⟩
  unfold sh223_1
  try simp only [SSd, Nat.reduceAdd]
  refine br_split (fun e => ?_) (fun e => ?_)
  · have hjl : j < vs.length := by simpa using e
    simp only [ixV_int b 0 4 .i64 vs.length cap (j : Int) (by omega) (by omega), Int.toNat_natCast, SSd, Nat.reduceAdd]
    refine rdN (vs := verC vs[j]) rfl (fun k u hu => Cell.own (List.mem_append_left _ (List.mem_singleton.2 rfl)) (hA2 _ u (by omega) (versC_get hjl hu))) ?_
    refine newI (fun bv => ?_)
    refine stB (vs := verC vs[j]) rfl rfl (one_all rfl) ?_
    refine rdB (l := verC vs[j]) rfl ?_
    refine calV_func hc.ent (Cal.gh (Cal.perm (L' := G' ++ ((bv, .cells (verC vs[j]).toArray 253 (0, 0)) :: (b, Obj.cells W 253 (0, 0)) :: F)) (ms_perm (by ((try simp only [ms_cons, ms_app, ms_nil, ms_nil']); (try ac_rfl)))) (hc.step (vs.take j) vs[j] (vs.drop (j + 1)) _ _ _ _ (split_at hjl) hj (fun I2 G2 hI2 h2' =>
      Gh.perm (L' := (bv, .cells (verC vs[j]).toArray 253 (0, 0)) :: (b, Obj.cells W 253 (0, 0)) :: (G2 ++ F)) (ms_perm (by ((try simp only [ms_cons, ms_app, ms_nil, ms_nil']); (try ac_rfl)))) (Gh.done (Gh.done ?_))))))
    rw [← take_snoc hjl] at h2'
    have hfil : (vs.take (j + 1)).filter (fun v => !f v) = if f vs[j] = true then (vs.take j).filter (fun v => !f v) else (vs.take j).filter (fun v => !f v) ++ [vs[j]] := by
      rw [take_snoc hjl, List.filter_append]
      by_cases hfj : f vs[j] = true <;> simp [hfj]
    try simp only [SSd, Nat.reduceAdd]
    refine br_split (fun e2 => ?_) (fun e2 => ?_)
    · have e2' : f vs[j] = false := by simpa using e2
      rw [if_neg (by rw [e2']; simp)] at hfil
      refine rdB (l := verC vs[j]) rfl ?_
      simp only [ixV_int b 0 4 .i64 vs.length cap (q : Int) (by omega) (by omega), Int.toNat_natCast, SSd, Nat.reduceAdd]
      have hkl : (versC ((vs.take j).filter (fun v => !f v))).length = q * 4 := by rw [versC_len, hq]
      have hfit : q * 4 + (verC vs[j]).length ≤ W.size := by rw [hW]; simp [verC]; omega
      refine ⟨b, q * 4, W, 253, [(bv, .cells (verC vs[j]).toArray 253 (0, 0))], G2 ++ F, rfl, rfl, one_all rfl, by rw [hW]; omega, rfl, ?_⟩
      unfold sh223_3
      try simp only [SSd, Nat.reduceAdd]
      rw [wrap_i64 _ (by omega), wrap_i64 _ (by omega)]
      refine Gh.to ((b, Obj.cells (wr W (q * 4) (verC vs[j])) 253 (0, 0)) :: (G2 ++ F)) (Gh.done (Gh.done ⟨n - 1, by omega, hI.trans hI2, j + 1, q + 1, _, G2, by omega, rfl, rfl, h2', by omega, by rw [wr_size]; exact hW, by rw [hfil, List.length_append, ← hq]; rfl, fun k u hu => ?_, fun k u hk hu => ?_⟩))
      · rw [hfil, versC_append] at hu
        rw [wr_get _ _ _ _ hfit]
        by_cases hk : k < q * 4
        · rw [if_pos hk]
          rw [List.getElem?_append_left (by omega)] at hu
          exact hA1 k u hu
        · rw [List.getElem?_append_right (by omega), hkl] at hu
          have hlt := (List.getElem?_eq_some_iff.1 hu).1
          have e4 : versC [vs[j]] = verC vs[j] := by simp [versC]
          rw [e4] at hu hlt
          rw [if_neg hk, if_pos (by omega)]
          exact hu
      · rw [wr_get _ _ _ _ hfit, if_neg (by omega), if_neg (by simp [verC]; omega)]
        exact hA2 k u (by omega) hu
    · have e2' : f vs[j] = true := by simpa using e2
      rw [if_pos e2'] at hfil
      unfold sh223_3
      try simp only [SSd, Nat.reduceAdd]
      rw [wrap_i64 _ (by omega)]
      refine Gh.to ((b, Obj.cells W 253 (0, 0)) :: (G2 ++ F)) (Gh.done ⟨n - 1, by omega, hI.trans hI2, j + 1, q, W, G2, by omega, rfl, rfl, h2', by omega, hW, by rw [hfil]; exact hq, by rw [hfil]; exact hA1, fun k u hk hu => hA2 k u (by omega) hu⟩)
  · have hjl : j = vs.length := by simp at e; omega
    subst hjl
    rw [List.take_length] at hj hA1 hq
    unfold sh223_5
    have s1 := slcN (b := b) (off := 0) (len := vs.length) (cap := cap) (lo := q) (hi := vs.length) (n := 4) (blo := some (.int .i64 q)) (bhi := none) (bnd_in _ _ _ _ (by omega)) rfl (by omega)
    have s2 := slcN (b := b) (off := 0) (len := vs.length) (cap := cap) (lo := 0) (hi := q) (n := 4) (blo := none) (bhi := some (.int .i64 q)) rfl (bnd_in _ _ _ _ (by omega)) (by omega)
    simp only [s1, SSd, Nat.reduceAdd]
    refine .inr ⟨b, _, vs.length - q, cap - q, W, 253, [], G' ++ F, rfl, rfl, by rw [hW]; simp; omega, one_all rfl, Gh.done ?_⟩
    simp only [Nat.sub_zero, Nat.zero_mul, Nat.add_zero] at s2
    simp only [s2, SSd, Nat.reduceAdd]
    have hzl : (Builtin.zeroCells #[Value.int .i64 0, .int .i64 0, .bool false, .string (ByteArray.mk #[])] (vs.length - q)).toList.length = (vs.length - q) * 4 := by
      rw [Array.length_toList, zero_size]; rfl
    generalize hz : (Builtin.zeroCells #[Value.int .i64 0, .int .i64 0, .bool false, .string (ByteArray.mk #[])] (vs.length - q)).toList = z at hzl ⊢
    refine Gh.done (hk I' G' [(b, .cells (wr W (q * 4) z) 253 (0, 0))] _ hI hj ⟨by rw [versC_len], .inr ⟨b, cap, _, rfl, ?_, by rw [wr_size]; exact hW, by omega, fun k u hu => ?_⟩⟩)
    · rw [← hq]
    · have hlt := (List.getElem?_eq_some_iff.1 hu).1
      rw [versC_len, ← hq] at hlt
      rw [wr_get _ _ _ _ (by rw [hW, hzl]; omega), if_pos hlt]
      exact hA1 k u hu
/-! ### What is noted while a cell is open -/
def NoteR (I : Imm) (b m ch : Nat) (kv : Value) (fl : TStamp) (X : LH) (nt : Nts) : Prop := ∃ NX, X.Perm ((b, spO m kv fl ch) :: NX) ∧ NtR I ch NX nt
theorem NoteR.mono {I I' : Imm} {b m ch : Nat} {kv : Value} {fl : TStamp} {X : LH} {nt : Nts} (h : NoteR I b m ch kv fl X nt) (hI : Ext I I') : NoteR I' b m ch kv fl X nt := by
  obtain ⟨NX, h1, h2⟩ := h
  exact ⟨NX, h1, h2.mono hI⟩
theorem note0 {b m ch : Nat} {kv a1 a2 : Value} {fl : TStamp} {X F : LH} {nt : Nts} {d : Bool} {k l : List UInt8} (hN : NoteR I b m ch kv fl X nt) (h1 : Bytes I a1 k) (h2 : Bytes I a2 l)
    (hk : ∀ X', NoteR I b m ch kv fl X' (updN nt k (d, l)) → K (.tuple #[]) I (X' ++ F)) : Cal Tryz.prog ω 187 #[pt b, a1, a2, .bool d] K I (X ++ F) := by
  obtain ⟨NX, hp, hN⟩ := hN
  refine Cal.gh (Cal.perm (L' := (b, spO m kv fl ch) :: (NX ++ F)) (ms_perm (by rw [ms_app, ms_eq hp]; ((try simp only [ms_cons, ms_app, ms_nil, ms_nil']); (try ac_rfl)))) (note_spec hN h1 h2 fun NX' h' => ?_))
  exact Gh.perm (L' := ((b, spO m kv fl ch) :: NX') ++ F) (ms_perm (by ((try simp only [ms_cons, ms_app, ms_nil, ms_nil']); (try ac_rfl)))) (Gh.done (hk _ ⟨NX', List.Perm.refl _, h'⟩))
theorem noteGone0 {b m ch : Nat} {kv : Value} {fl : TStamp} {X F : LH} {nt : Nts} {k : List UInt8} {v : TVer} (hN : NoteR I b m ch kv fl X nt) (hr : rightB v.fAt = true) (hl : k.length ≤ 1000000000)
    (hk : ∀ X' I', Ext I I' → NoteR I' b m ch kv fl X' (updN nt (vkey k v) (true, [])) → K (.tuple #[]) I' (X' ++ F)) :
    Cal Tryz.prog ω 188 #[pt b, sstr k, vv v] K I (X ++ F) := by
  refine cal188 ?_
  unfold sh188
  refine newI (fun q => ?_)
  refine rdB rfl ?_
  refine callG (vkey_spec hr hl (fun X1 u I1 hI1 hX => ?_))
  refine OB.freeze hX (fun I2 hI2 hB => Gh.done ?_)
  refine call (Cal.to (X ++ F) ?_)
  refine note0 (hN.mono (hI1.trans hI2)) hB (show Bytes I2 _ [] from SlI.nil I2 1 none 0) (fun X' h' => ?_)
  exact Gh.done (hk X' I2 (hI1.trans hI2) h')
theorem SpP.open2 {b : Nat} {ps : List Nat} {X : LH} {A B : List Row} {r : Row} {fl : TStamp} {nt : Nts} {k : List UInt8} (h : SpP I b ps X ⟨A ++ r :: B, fl⟩ nt) (hm : Mid A k B) (hk : r.key = k) :
    ∃ p sl Y XN R m ch kv, X.Perm ((p, cellO sl r.it) :: (Y ++ (XN ++ R))) ∧ VsO Y sl r.vs ∧ NoteR I b m ch kv fl XN nt ∧
      (∀ I' r' sl' Y' XN' X' nt', Ext I I' → r'.key = k → VsO Y' sl' r'.vs → NoteR I' b m ch kv fl XN' nt' → X'.Perm ((p, cellO sl' r'.it) :: (Y' ++ (XN' ++ R))) → SpP I' b ps X' ⟨A ++ r' :: B, fl⟩ nt') ∧
      (∀ L', (∀ x ∈ X, x ∈ L') → ∃ m kv es clock, ViewF I L' b m kv es clock ps ⟨A ++ r :: B, fl⟩ ∧ cellsM ps (A ++ r :: B) k = some (pt p)) := by
  obtain ⟨m, ch, kv, es, clock, KX, RX, NX, hp, hF⟩ := h
  obtain ⟨P, p, Q, rfl, hl, hl2⟩ := split_ps hF.rows.len
  obtain ⟨sl, Y, Z, h1, h2, h3⟩ := RowsR.pick hl hF.rows
  refine ⟨p, sl, Y, (b, spO m kv fl ch) :: NX, (m, .map es clock) :: (KX ++ Z), m, ch, kv, ms_perm ?_, h2, ⟨NX, List.Perm.refl _, hF.nts⟩, fun I' r' sl' Y' XN' X' nt' hI hk' hv hN hX => ?_, fun L' hL => ?_⟩
  · rw [ms_eq hp]
    simp only [ms_cons, ms_app, ms_eq h1]
    ((try simp only [ms_cons, ms_app, ms_nil, ms_nil']); (try ac_rfl))
  · obtain ⟨NX', hq, hN'⟩ := hN
    refine ⟨m, ch, kv, es, clock, KX, (p, cellO sl' r'.it) :: (Y' ++ Z), NX', ms_perm ?_, ?_, ?_, ?_, hN'⟩
    · rw [ms_eq hX]; simp only [ms_cons, ms_app, ms_eq hq]; ((try simp only [ms_cons, ms_app, ms_nil, ms_nil']); (try ac_rfl))
    · have := hF.map
      rw [show cellsM (P ++ p :: Q) (A ++ r' :: B) = cellsM (P ++ p :: Q) (A ++ r :: B) from cellsM_swap hl (hk ▸ hm) (hk'.trans hk.symm)]
      exact this
    · have e : keysOf (A ++ r' :: B) = keysOf (A ++ r :: B) := by simp [keysOf, hk', hk]
      show StrO KX kv (keysOf (A ++ r' :: B))
      rw [e]; exact hF.keys
    · exact RowsR.put hl (List.Perm.refl _) hv h3
  · refine ⟨m, kv, es, clock, ?_, cellsM_mid hl hm hk⟩
    have hmem : ∀ x, x ∈ ((b, spO m kv fl ch) :: (m, Obj.map es clock) :: (KX ++ (RX ++ NX))) → x ∈ L' := fun x hx => hL _ (hp.mem_iff.2 hx)
    exact ⟨own_cells (hmem _ (List.mem_cons_self ..)) 4, .inl (hmem _ (by simp)), hF.map, StrO.rl hF.keys (fun x hx => hmem _ (by simp [hx])), hF.rows.len, hF.rows.cell (fun x hx => hmem _ (by simp [hx]))⟩
/-! ### A cell's old versions -/
def goneN (k : List UInt8) (l : List TVer) (nt : Nts) : Nts := l.foldl (fun nt v => updN nt (vkey k v) (true, [])) nt
abbrev cloL (bl bd bg bs bk b : Nat) (kp : TVer) (g : Nat) (k : List UInt8) (XN : LH) : LH :=
  (bl, stO kp.fAt) :: (bd, .cells #[.bool kp.fDel] 4 (0, 0)) :: (bg, .cells #[.int .i64 g] 3 (0, 0)) :: (bs, .cells #[pt b] 99 (0, 0)) :: (bk, .cells #[sstr k] 9 (0, 0)) :: XN
theorem clo71 {bl bd bg bs bk b m ch g0 : Nat} {kv : Value} {fl : TStamp} {kp : TVer} {k : List UInt8} {vs : List TVer} {nt : Nts} (hvs : ∀ v ∈ vs, rightB v.fAt = true) (hg : g0 + vs.length ≤ 1000000000) (hkl : k.length ≤ 1000) :
    Clo ω 224 #[pt bl, pt bd, pt bg, pt bs, pt bk] (oldB kp) vs (fun done I G => ∃ XN, G = cloL bl bd bg bs bk b kp (g0 + (done.filter (oldB kp)).length) k XN ∧ NoteR I b m ch kv fl XN (goneN k (done.filter (oldB kp)) nt)) := by
  refine ⟨by kernel_rfl, fun done I I' G ⟨XN, h1, h2⟩ hI => ⟨XN, h1, h2.mono hI⟩, ?_⟩
  rintro done v rest I G L K hv ⟨XN, rfl, hN⟩ hk
  have hvr := hvs v (by rw [hv]; simp)
  have hfl : (done.filter (oldB kp)).length ≤ done.length := List.length_filter_le ..
  have hlen : done.length + 1 ≤ vs.length := by rw [hv]; simp
  show Cal Tryz.prog ω 224 #[vv v, pt bl, pt bd, pt bg, pt bs, pt bk] K I _
  refine cal224 ?_
  unfold sh224
  refine newI (fun q => ?_)
  have hfilt : (done ++ [v]).filter (oldB kp) = if oldB kp v = true then done.filter (oldB kp) ++ [v] else done.filter (oldB kp) := by
    rw [List.filter_append]
    by_cases h : oldB kp v = true <;> simp [h]
  rw [hfilt] at hk
  have old : ∀ (ho : oldB kp v = true) (p7 p8 : Value), p8 = .bool true → sh224_1 ω (pt bg) (pt bs) (pt bk) (pt q) p7 p8 (fun v => Gh (K v)) I ((q, verO v) :: (cloL bl bd bg bs bk b kp (g0 + (done.filter (oldB kp)).length) k XN ++ L)) := by
    rintro ho p7 p8 rfl
    rw [ho] at hk
    simp only [if_true] at hk
    unfold sh224_1
    simp only [cloL, List.cons_append]
    refine rdb ?_
    try simp only [SSd, Nat.reduceAdd]
    rw [wrap_i64 _ (by omega)]
    refine st1 rfl ?_
    refine rdb ?_
    refine rdb ?_
    refine rdB rfl ?_
    refine call (Cal.perm (L' := XN ++ ((q, verO v) :: (bl, stO kp.fAt) :: (bd, .cells #[.bool kp.fDel] 4 (0, 0)) :: (bg, .cells #[.int .i64 ((g0 + (done.filter (oldB kp)).length : Nat) + 1)] 3 (0, 0)) :: (bs, .cells #[pt b] 99 (0, 0)) :: (bk, .cells #[sstr k] 9 (0, 0)) :: L)) (ms_perm (by ((try simp only [ms_cons, ms_app, ms_nil, ms_nil']); (try ac_rfl)))) ?_)
    refine noteGone0 hN hvr (by omega) (fun X' I' hI' h' => ?_)
    have h := hk I' (cloL bl bd bg bs bk b kp (g0 + (done.filter (oldB kp) ++ [v]).length) k X') hI' ⟨X', rfl, by unfold goneN; rw [List.foldl_append]; exact h'⟩
    have e : ((g0 + (done.filter (oldB kp) ++ [v]).length : Nat) : Int) = ((g0 + (done.filter (oldB kp)).length : Nat) : Int) + 1 := by simp; omega
    simp only [cloL, List.cons_append] at h
    rw [e] at h
    exact Gh.to ((bl, stO kp.fAt) :: (bd, .cells #[.bool kp.fDel] 4 (0, 0)) :: (bg, .cells #[.int .i64 ((g0 + (done.filter (oldB kp)).length : Nat) + 1)] 3 (0, 0)) :: (bs, .cells #[pt b] 99 (0, 0)) :: (bk, .cells #[sstr k] 9 (0, 0)) :: (X' ++ L)) (Gh.done h)
  have new : ∀ (ho : oldB kp v = false), Gh (K (.bool false)) I ((q, verO v) :: (cloL bl bd bg bs bk b kp (g0 + (done.filter (oldB kp)).length) k XN ++ L)) := by
    intro ho
    rw [ho] at hk
    exact Gh.drop (List.sublist_cons_self ..) (Gh.done (hk I _ (Ext.refl _) ⟨XN, rfl, hN⟩))
  simp only [cloL, List.cons_append] at old new ⊢
  refine rdB rfl ?_
  try simp only [SSd, Nat.reduceAdd]
  refine rdP [.int .i64 v.fAt.fWall, .int .i64 v.fAt.fLogic] rfl rfl ?_
  refine call (behind_spec (x := kp.fAt) (y := v.fAt) ?_)
  refine gd_split (fun e => ?_) (fun e => ?_)
  · refine rdb ?_
    refine gd_split (fun e2 => ?_) (fun e2 => ?_)
    · try simp only [SSd, Nat.reduceAdd]
      refine rdP [.int .i64 v.fAt.fWall, .int .i64 v.fAt.fLogic] rfl rfl ?_
      refine rdB rfl ?_
      try simp only [SSd, Nat.reduceAdd]
      refine br_split (fun e3 => ?_) (fun e3 => ?_)
      · exact old (by simp only [oldB]; rw [e2, e3]; simp) _ _ (by rw [e3])
      · have h := new (by simp only [oldB]; rw [e, e3]; simp)
        rw [e3]; exact h
    · exact new (by simp only [oldB]; rw [e, Bool.eq_false_iff.2 e2]; simp)
  · have e' : bhd kp.fAt v.fAt = true := by simpa using e
    exact old (by simp only [oldB]; rw [e']; simp) _ _ rfl
end
end Go.Proofs.YtmmfcgbfbcamcaaGreatDoor
