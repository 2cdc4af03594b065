/-
  What the model does at one operation is what 'opv' says.
-/
import Derived.Test.YtmnnnoinfhiilaaDoorSlVc
set_option linter.unusedSimpArgs false
set_option linter.unusedVariables false
set_option linter.unusedSectionVars false
namespace Go.SL
section
variable {P : Program} {ω : Om}
theorem Cell.cell {w : World} {I : Imm} {L : LH} (h : St ω w I L) {b off : Nat} {v : Value} (hc : Cell I L b off v) : w.cell? ⟨b, off, none⟩ = some v := by
  obtain ⟨cs, T, fr, hm, hv⟩ := hc
  have hb : w.heap[b]? = some (.cells cs T fr) := hm.elim (h.own _ _) (h.imm _ _)
  simp [World.cell?, hb, hv]
theorem add_none (b off k : Nat) : (⟨b, off, none⟩ : Addr).add k = ⟨b, off + k, none⟩ := by
  unfold Addr.add; split <;> simp_all
theorem Cells.load {w : World} {I : Imm} {L : LH} (h : St ω w I L) {b off : Nat} {vs : List Value} (hc : Cells I L b off vs) :
    (loadCells ⟨b, off, none⟩ vs.length).run P w = .ok vs.toArray w :=
  run_loadCells_list w _ _ fun j v hv => by rw [add_none]; exact (hc j v hv).cell h
theorem run_und {T : TypeId} {d : TypeDesc} {w : World} (h : P.underlying T = some d) : (underlying T).run P w = .ok d w := by
  simp [underlying, h]
theorem run_info {T : TypeId} {i : TypeInfo} {w : World} (h : P.info? T = some i) : (typeInfo T).run P w = .ok i w := by
  simp [typeInfo, h]
theorem run_sizeOf {T : TypeId} {i : TypeInfo} {w : World} (h : P.info? T = some i) : (sizeOf T).run P w = .ok i.size w := by
  simp [sizeOf, run_info h]
theorem run_zero {T : TypeId} {i : TypeInfo} {z : Value} {w : World} (h : P.info? T = some i) (hz : i.zero = some z) : (zeroValue T).run P w = .ok z w := by
  simp [zeroValue, run_info h, hz]
theorem tinfo_spec {T n by' : Nat} {z : Array Value} (h : tinfo P T = some (n, by', z)) :
    ∃ i zv, P.info? T = some i ∧ i.zero = some zv ∧ zv.cells = z ∧ i.size = n ∧ i.bytes = by' ∧ z.size = n ∧ 0 < n := by
  unfold tinfo at h
  split at h
  · rename_i i hi
    split at h
    · rename_i zv hz
      split at h
      · rename_i hc
        simp only [Option.some.injEq, Prod.mk.injEq] at h
        obtain ⟨rfl, rfl, rfl⟩ := h
        simp only [Bool.and_eq_true, decide_eq_true_eq, Nat.blt_eq] at hc
        exact ⟨i, zv, hi, hz, rfl, rfl, rfl, hc.1, hc.2⟩
      · cases h
    · cases h
  · cases h
theorem elemOfB_spec {T E : Nat} (h : elemOfB P T = some E) : P.underlying T = some (.slice E) := by
  unfold elemOfB at h; split at h <;> simp_all
theorem run_fld {T f k : Nat} {x v : Value} {w : World} (h : fieldOff P T f = some k) (hv : fldV k x = some v) : (Instr.fieldAt T x f).run P w = .ok v w := by
  unfold fieldOff at h
  split at h
  · rename_i fs hu
    split at h
    · rename_i fd hf
      split at h
      · rename_i i hi
        split at h
        · cases h
        · rename_i hs
          simp only [Option.some.injEq] at h
          subst h
          unfold fldV at hv
          split at hv
          · simp only [Option.some.injEq] at hv
            subst hv
            simp [Instr.fieldAt, run_und hu, hf, Instr.sureAddr, fieldPlace, run_sizeOf hi, hs, add_none]
          · cases hv
      · cases h
    · cases h
  · cases h
theorem run_binI {op : BinOp} {T : TypeId} {x y v : Value} {w : World} (hv : binIV op x y = some v) : (binOp op T x y).run P w = .ok v w := by
  unfold binIV at hv
  split at hv <;> (try split at hv) <;> (try split at hv) <;> simp only [Option.some.injEq, reduceCtorEq] at hv <;> subst hv <;>
    simp_all [binOp, Op.shift, Op.intArith, Op.intDiv, Op.intBits, Op.intCmp, bitsV]
  all_goals (intro h; omega)
theorem run_binS {op : BinOp} {T : TypeId} {x y v : Value} {w : World} (hv : binSV op x y = some v) : (binOp op T x y).run P w = .ok v w := by
  unfold binSV at hv
  split at hv <;> (try split at hv) <;> simp only [Option.some.injEq, reduceCtorEq] at hv <;> subst hv <;>
    simp_all [binOp, Op.stringOp]
  rename_i h
  have : IntKind.i64.max = 9223372036854775807 := by decide
  omega
theorem eq_bool (d : Nat) {T : TypeId} {a b : Bool} {w : World} (hu : P.underlying T = some .bool) : (Op.equalIn (d + 1) T (.bool a) (.bool b)).run P w = .ok (a == b) w := by
  simp [Op.equalIn, run_und hu]
theorem run_binB {op : BinOp} {T : TypeId} {x y v : Value} {w : World} (hu : P.underlying T = some .bool) (hv : binBV op x y = some v) : (binOp op T x y).run P w = .ok v w := by
  unfold binBV at hv
  split at hv <;> simp only [Option.some.injEq, reduceCtorEq] at hv <;> subst hv <;> simp only [binOp] <;>
    simp [Op.equal, Op.maxDepth, eq_bool 9999 hu]
theorem eq_ptr (d : Nat) {T E : TypeId} {w : World} (hu : P.underlying T = some (.pointer E)) (b : Option Addr) (a : Addr) :
    (Op.equalIn (d + 1) T (.pointer none) (.pointer b)).run P w = .ok b.isNone w ∧ (Op.equalIn (d + 1) T (.pointer (some a)) (.pointer none)).run P w = .ok false w := by
  constructor <;> simp [Op.equalIn, run_und hu]
theorem run_binP {op : BinOp} {T E : TypeId} {x y v : Value} {w : World} (hu : P.underlying T = some (.pointer E)) (hv : binPV op x y = some v) : (binOp op T x y).run P w = .ok v w := by
  unfold binPV at hv
  split at hv <;> simp only [Option.some.injEq, reduceCtorEq] at hv <;> subst hv <;> simp only [binOp] <;>
    simp [Op.equal, Op.maxDepth, (eq_ptr 9999 hu _ default).1, (eq_ptr 9999 hu none _).2]
theorem eq_nil (d : Nat) {T E : TypeId} {w : World} (hu : P.underlying T = some (.slice E)) (b : Option Addr) (a : Addr) (n c n' c' : Nat) :
    (Op.equalIn (d + 1) T (.slice none n c) (.slice b n' c')).run P w = .ok b.isNone w ∧ (Op.equalIn (d + 1) T (.slice (some a) n c) (.slice none n' c')).run P w = .ok false w := by
  constructor <;> simp [Op.equalIn, run_und hu]
theorem run_binN {op : BinOp} {T E : TypeId} {x y v : Value} {w : World} (hu : P.underlying T = some (.slice E)) (hv : binNV op x y = some v) : (binOp op T x y).run P w = .ok v w := by
  unfold binNV at hv
  split at hv <;> simp only [Option.some.injEq, reduceCtorEq] at hv <;> subst hv <;> simp only [binOp] <;>
    simp [Op.equal, Op.maxDepth, (eq_nil 9999 hu _ default _ _ _ _).1, (eq_nil 9999 hu none _ _ _ _ _).2]
theorem run_un {op : UnOp} {x v : Value} {w : World} (hv : unV op x = some v) : (Op.unary op x).run P w = .ok v w := by
  unfold unV at hv
  split at hv <;> simp only [Option.some.injEq, reduceCtorEq] at hv <;> subst hv <;> simp [Op.unary, Op.intArith]
theorem run_ex {x v : Value} {i : Nat} {w : World} (hv : exV x i = some v) : (Instr.extract x i).run P w = .ok v w := by
  unfold exV at hv
  split at hv
  · simp [Instr.extract, hv]
  · cases hv
theorem run_sliceBound {x : Value} {y n : Nat} {code : BoundsCode} {d : Nat} {w : World} (h : bndV (some x) d y = some n) : (Instr.sliceBound x y code).run P w = .ok n w := by
  unfold bndV at h
  split at h
  · cases (‹some x = none›)
  · rename_i k i hx
    simp only [Option.some.injEq] at hx
    subst hx
    split at h
    · rename_i hb
      simp only [Option.some.injEq] at h
      subst h
      simp [Instr.sliceBound, asIntOf, hb.1, hb.2]
    · cases h
  · cases h
theorem run_slc {T E n by' : Nat} {z : Array Value} {x v : Value} {lo hi mx : Option Value} {w : World} (hu : P.underlying T = some (.slice E)) (ht : tinfo P E = some (n, by', z))
    (hv : slcV n x lo hi mx = some v) : (Instr.sliceAt T x lo hi mx).run P w = .ok v w := by
  obtain ⟨i, zv, hi', _, _, hn, _, _, _⟩ := tinfo_spec ht
  unfold slcV at hv
  split at hv
  · rename_i a len cap
    split at hv
    · cases hv
    · rename_i hc
      simp only [Option.bind_eq_some_iff] at hv
      obtain ⟨m, hm, h, hh, l, hl, hv⟩ := hv
      simp only [Option.some.injEq] at hv
      subst hv
      have hb : (Instr.sliceBounds true len cap lo hi mx).run P w = .ok (l, h, m) w := by
        unfold Instr.sliceBounds
        cases mx with
        | none =>
          have hm' : m = cap := by simpa [bndV] using hm.symm
          subst hm'
          cases hi with
          | none =>
            have hh' : h = len := by simpa [bndV] using hh.symm
            subst hh'
            cases lo with
            | none => have : l = 0 := by simpa [bndV] using hl.symm
                      subst this; simp
            | some lo => simp [run_sliceBound hl]
          | some hi =>
            cases lo with
            | none => have : l = 0 := by simpa [bndV] using hl.symm
                      subst this; simp [run_sliceBound hh]
            | some lo => simp [run_sliceBound hl, run_sliceBound hh]
        | some mx =>
          cases hi with
          | none => simp at hc
          | some hi =>
            cases lo with
            | none => have : l = 0 := by simpa [bndV] using hl.symm
                      subst this; simp [run_sliceBound hh, run_sliceBound hm]
            | some lo => simp [run_sliceBound hl, run_sliceBound hh, run_sliceBound hm]
      simp [Instr.sliceAt, run_und hu, Instr.slice, hb, run_sizeOf hi', hn]
  · cases hv
theorem run_slcS {T : Nat} {x v : Value} {lo hi : Option Value} {w : World} (hu : P.underlying T = some .string)
    (hv : slcSV x lo hi = some v) : (Instr.sliceAt T x lo hi none).run P w = .ok v w := by
  unfold slcSV at hv
  split at hv
  · rename_i s
    simp only [Option.bind_eq_some_iff] at hv
    obtain ⟨h, hh, l, hl, hv⟩ := hv
    simp only [Option.some.injEq] at hv
    subst hv
    have hb : (Instr.sliceBounds false s.size s.size lo hi none).run P w = .ok (l, h, s.size) w := by
      unfold Instr.sliceBounds
      cases hi with
      | none =>
        have hh' : h = s.size := by simpa [bndV] using hh.symm
        subst hh'
        cases lo with
        | none => have : l = 0 := by simpa [bndV] using hl.symm
                  subst this; simp
        | some lo => simp [run_sliceBound hl]
      | some hi =>
        cases lo with
        | none => have : l = 0 := by simpa [bndV] using hl.symm
                  subst this; simp [run_sliceBound hh]
        | some lo => simp [run_sliceBound hl, run_sliceBound hh]
    simp [Instr.sliceAt, run_und hu, Instr.slice, hb]
  · cases hv
theorem run_ix {T E n by' : Nat} {z : Array Value} {x i v : Value} {w : World} (hu : P.underlying T = some (.slice E)) (ht : tinfo P E = some (n, by', z))
    (hv : ixV n x i = some v) : (Instr.indexAt T x i).run P w = .ok v w := by
  obtain ⟨inf, zv, hi', _, _, hn, _, _, _⟩ := tinfo_spec ht
  unfold ixV at hv
  split at hv
  · rename_i b off len cap k i
    split at hv
    · rename_i hb
      simp only [Option.some.injEq] at hv
      subst hv
      simp [Instr.indexAt, asIntOf, run_und hu, hb.1, hb.2, run_sizeOf hi', hn, add_none]
    · cases hv
  · cases hv
theorem run_ixS {T : Nat} {x i v : Value} {w : World} (hu : P.underlying T = some .string) (hv : ixSV x i = some v) : (Instr.index T x i).run P w = .ok v w := by
  unfold ixSV at hv
  split at hv
  · rename_i s k i
    split at hv
    · rename_i hb
      obtain ⟨c, hc, rfl⟩ := Option.map_eq_some_iff.1 hv
      simp [Instr.index, asIntOf, run_und hu, hb, hc]
    · cases hv
  · cases hv
theorem run_mapM_places : ∀ (fs : List Field) (pl : List (Nat × Nat)) (w : World),
    (fs.mapM fun f => match P.info? f.type with | some i => some (f.offset, i.size) | none => none) = some pl →
    (fs.mapM fun f => (do pure (f.offset, ← sizeOf f.type) : Sem (Nat × Nat))).run P w = .ok pl w
  | [], pl, w, h => by simp at h; subst h; simp
  | f :: fs, pl, w, h => by
    simp only [List.mapM_cons, Option.bind_eq_bind, Option.bind_eq_some_iff] at h
    obtain ⟨p, hp, ps, hps, h⟩ := h
    simp only [Option.pure_def, Option.some.injEq] at h
    subst h
    split at hp
    · rename_i i hi
      simp only [Option.some.injEq] at hp
      subst hp
      have := run_mapM_places fs ps w hps
      simp only [List.mapM_cons, Sem.run_bind, run_sizeOf hi, Result.andThen_ok, Sem.run_pure, this]
    · cases hp
theorem run_bld {T n by' : Nat} {z : Array Value} {pl : Array (Nat × Nat)} {parts : Array (Nat × Value)} {v : Value} {w : World} (hp : fieldPlaces P T = some pl) (ht : tinfo P T = some (n, by', z))
    (hv : bldV z pl parts.toList = some v) : (Instr.build T parts).run P w = .ok v w := by
  obtain ⟨inf, zv, hi', hz, rfl, hn, _, _, _⟩ := tinfo_spec ht
  unfold fieldPlaces at hp
  split at hp
  · rename_i fs hu
    unfold bldV at hv
    obtain ⟨cells, hc, rfl⟩ := Option.map_eq_some_iff.1 hv
    have hm : (fs.mapM fun f => (do pure (f.offset, ← sizeOf f.type) : Sem (Nat × Nat))).run P w = .ok pl w := by
      rw [Array.mapM_eq_mapM_toList] at hp ⊢
      simp only [Option.map_eq_map, Option.map_eq_some_iff] at hp
      obtain ⟨l, hl, rfl⟩ := hp
      have := run_mapM_places (P := P) fs.toList l w hl
      simp only [Sem.run_map, this, Result.andThen_ok]
    simp only [Instr.build, Sem.run_bind, run_zero hi' hz, Result.andThen_ok, run_und hu, hm, hc, Sem.run_pure]
  · cases hp
theorem run_part {T n by' off : Nat} {z cs : Array Value} {v : Value} {w : World} (hU : (P.underlying T).isSome = true) (ht : tinfo P T = some (n, by', z))
    (hv : fldvV (isAggB P T) off n (.agg cs) = some v) : (part T cs off).run P w = .ok v w := by
  obtain ⟨inf, zv, hi', hz, rfl, hn, _, _, _⟩ := tinfo_spec ht
  unfold fldvV at hv
  simp only at hv
  obtain ⟨d, hd⟩ := Option.isSome_iff_exists.1 hU
  unfold part
  simp only [Sem.run_bind, isAgg, run_und hd, Result.andThen_ok]
  unfold isAggB at hv
  rw [hd] at hv
  cases d <;> simp_all [run_sizeOf hi']
theorem fieldsOf_eq {T : TypeId} {fs : Array Field} (hu : P.underlying T = some (.struct fs)) : P.fieldsOf T = fs := by
  simp [Program.fieldsOf, hu]
theorem run_eqD {d : Nat} {T : TypeId} {D : TypeDesc} {a b : Value} {r : Bool} {w : World} (hu : P.underlying T = some D) (h : eqD D a b = some r) : (Op.equalIn (d + 1) T a b).run P w = .ok r w := by
  unfold eqD at h
  split at h
  · split at h
    · rename_i hk; subst hk
      simp only [Option.some.injEq] at h; subst h
      exact run_equalIn_int w d T _ _ _ _ hu
    · cases h
  · simp only [Option.some.injEq] at h; subst h
    exact run_equalIn_bool w d T _ _ hu
  · simp only [Option.some.injEq] at h; subst h
    exact run_equalIn_string w d T _ _ hu
  · cases h
theorem run_cell1 {T : TypeId} {D : TypeDesc} {by' off : Nat} {z cs : Array Value} {v : Value} {w : World} (hu : P.underlying T = some D) (hD : isAggB P T = false) (ht : tinfo P T = some (1, by', z)) (hv : cs[off]? = some v) : (part T cs off).run P w = .ok v w :=
  run_part (by rw [hu]; rfl) ht (by rw [hD]; simpa [fldvV] using hv)
theorem run_eqFields {d : Nat} {xs ys : Array Value} {w : World} : ∀ {fs : List Field} {l : List (TypeDesc × Nat)} {r : Bool}, flatF P fs = some l → eqAll xs ys l = some r → (Op.eqFields (d + 1) xs ys fs).run P w = .ok r w
  | [], l, r, h, hr => by
    simp only [flatF, Option.some.injEq] at h; subst h
    simp only [eqAll, Option.some.injEq] at hr; subst hr
    simp [Op.eqFields]
  | f :: fs, l, r, h, hr => by
    unfold flatF at h
    split at h
    · cases h
    rename_i hn
    have hn' : f.name ≠ "_" := by simpa using hn
    have key : ∀ {D : TypeDesc} {by' : Nat} {z : Array Value} {l' : List (TypeDesc × Nat)}, P.underlying f.type = some D → isAggB P f.type = false → tinfo P f.type = some (1, by', z) → flatF P fs = some l' → l = (D, f.offset) :: l' →
        (Op.eqFields (d + 1) xs ys (f :: fs)).run P w = .ok r w := by
      intro D by' z l' h1 h2 h3 h4 h5
      subst h5
      simp only [eqAll] at hr
      split at hr
      · rename_i a b ha hb
        split at hr
        · rename_i r1 r2 e1 e2
          simp only [Option.some.injEq] at hr; subst hr
          have i1 := run_eqFields (d := d) (w := w) h4 e2
          simp only [Op.eqFields, hn', ne_eq, not_false_eq_true, if_true, Sem.run_bind, run_cell1 (w := w) h1 h2 h3 ha, run_cell1 (w := w) h1 h2 h3 hb, run_eqD (d := d) (w := w) h1 e1, Result.andThen_ok]
          cases r1
          · simp
          · simpa using i1
        · cases hr
      · cases hr
    split at h <;> simp only [Option.some.injEq, reduceCtorEq] at h
    · rename_i k _ _ l' h1 h2 h3
      exact key h1 (by simp [isAggB, h1]) h2 h3 h.symm
    · rename_i _ _ l' h1 h2 h3
      exact key h1 (by simp [isAggB, h1]) h2 h3 h.symm
    · rename_i _ _ l' h1 h2 h3
      exact key h1 (by simp [isAggB, h1]) h2 h3 h.symm
theorem run_binA {op : BinOp} {T : TypeId} {fs : Array Field} {l : List (TypeDesc × Nat)} {x y v : Value} {w : World} (hu : P.underlying T = some (.struct fs)) (hp : P.stoodInHeld T = false) (hl : flatF P fs.toList = some l) (hv : binAV op l x y = some v) : (binOp op T x y).run P w = .ok v w := by
  have hu' : P.underlying T = some (.struct (P.fieldsOf T)) := by rw [fieldsOf_eq hu]; exact hu
  unfold binAV at hv
  split at hv
  · obtain ⟨r, hr, rfl⟩ := Option.map_eq_some_iff.1 hv
    rw [run_eql_struct, run_equalIn_struct w 9999 T _ _ hu' hp, fieldsOf_eq hu, run_eqFields (d := 9998) hl hr]
    rfl
  · obtain ⟨r, hr, rfl⟩ := Option.map_eq_some_iff.1 hv
    rw [run_neq_struct, run_equalIn_struct w 9999 T _ _ hu' hp, fieldsOf_eq hu, run_eqFields (d := 9998) hl hr]
    rfl
  · cases hv
theorem run_bldA {T E len n by' m by2 : Nat} {z z2 : Array Value} {parts : Array (Nat × Value)} {v : Value} {w : World} (hu : P.underlying T = some (.array len E)) (hE : tinfo P E = some (n, by', z2)) (ht : tinfo P T = some (m, by2, z))
    (hv : bldAV n z parts.toList = some v) : (Instr.build T parts).run P w = .ok v w := by
  obtain ⟨inf, zv, hi', hz, rfl, hn, _, _, _⟩ := tinfo_spec ht
  obtain ⟨inf2, zv2, hi2, hz2, _, hn2, _, _, _⟩ := tinfo_spec hE
  unfold bldAV at hv
  obtain ⟨cells, hc, rfl⟩ := Option.map_eq_some_iff.1 hv
  simp only [Instr.build, Sem.run_bind, run_zero hi' hz, Result.andThen_ok, run_und hu, run_sizeOf hi2, hn2, hc, Sem.run_pure]
theorem run_ixA {T E len n by' : Nat} {z : Array Value} {d : TypeDesc} {x i v : Value} {w : World} (hu : P.underlying T = some (.array len E)) (hd : P.underlying E = some d) (ht : tinfo P E = some (n, by', z))
    (hv : ixAV (isAggB P E) n len x i = some v) : (Instr.index T x i).run P w = .ok v w := by
  obtain ⟨inf, zv, hi', _, _, hn, _, _, _⟩ := tinfo_spec ht
  unfold ixAV at hv
  split at hv
  · rename_i k i
    split at hv
    · rename_i hb
      cases x with
      | agg cs =>
        have := run_part (P := P) (w := w) (by rw [hd]; rfl) ht hv
        simp [Instr.index, asIntOf, run_und hu, hb.1, hb.2, run_sizeOf hi', hn, this]
      | _ => simp [fldvV] at hv
    · cases hv
  · cases hv
theorem run_ixP {T E len n by' : Nat} {z : Array Value} {x i v : Value} {w : World} (hu : P.underlying T = some (.array len E)) (ht : tinfo P E = some (n, by', z))
    (hv : ixPV n len x i = some v) : (Instr.indexAt T x i).run P w = .ok v w := by
  obtain ⟨inf, zv, hi', _, _, hn, _, _, _⟩ := tinfo_spec ht
  unfold ixPV at hv
  split at hv
  · rename_i b off k i
    split at hv
    · rename_i hb
      simp only [Option.some.injEq] at hv
      subst hv
      simp [Instr.indexAt, asIntOf, run_und hu, Instr.sureAddr, hb.1, hb.2, run_sizeOf hi', hn, add_none]
    · cases hv
  · cases hv
theorem loadVar_agg {T n by' : Nat} {z : Array Value} (ht : tinfo P T = some (n, by', z)) (ha : isAggB P T = true) {x v : Value} {w : World} {I : Imm} {L : LH} (hs : St ω w I L) (h : ldNR n x I L v) :
    (Instr.loadAt T x).run P w = .ok v w := by
  obtain ⟨inf, zv, hi', hz, rfl, hn, _, _, _⟩ := tinfo_spec ht
  obtain ⟨b, off, vs, rfl, hl, hc, rfl⟩ := h
  have := Cells.load (P := P) hs hc
  rw [hl] at this
  unfold isAggB at ha
  have hagg : (isAgg T).run P w = .ok true w := by
    unfold isAgg
    split at ha
    · rename_i hu; simp [run_und hu]
    · rename_i hu; simp [run_und hu]
    · cases ha
  simp [Instr.loadAt, Instr.sureAddr, loadVar, hagg, run_sizeOf hi', hn, this]
theorem loadVar_one {T : Nat} {d : TypeDesc} (hd : P.underlying T = some d) (ha : isAggB P T = false) {x v : Value} {w : World} {I : Imm} {L : LH} (hs : St ω w I L) (h : ld1R x I L v) :
    (Instr.loadAt T x).run P w = .ok v w := by
  obtain ⟨b, off, rfl, hc⟩ := h
  have := hc.cell hs
  unfold isAggB at ha
  have hagg : (isAgg T).run P w = .ok false w := by
    unfold isAgg
    rw [hd] at ha
    cases d <;> simp_all [run_und hd]
  simp [Instr.loadAt, Instr.sureAddr, loadVar, hagg, this]
end
end Go.SL
