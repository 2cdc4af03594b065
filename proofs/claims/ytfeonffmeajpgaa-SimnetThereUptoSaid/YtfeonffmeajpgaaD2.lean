import Derived.Test.YtfeonffmeajpgaaD1
import Derived.Test.YtfeonffmeajpgaaG
set_option linter.unusedSimpArgs false
set_option linter.unusedVariables false
namespace Go.Proofs.Ytfeonffmeajpgaa
open Go.SL
set_option maxRecDepth 10000

section
variable {ω : Om} {I : Imm} {L : LH} {K : Value → M}

/-! ### The program's Decode, plainly -/
def entsF : Nat → Int → RS → List LE × RS
  | 0, _, s => ([], s)
  | f + 1, i, s => (⟨i, (countF s).1, (byteF (countF s).2).1, (textF (byteF (countF s).2).2).1⟩ :: (entsF f (i + 1) (textF (byteF (countF s).2).2).2).1, (entsF f (i + 1) (textF (byteF (countF s).2).2).2).2)
def baseM (x0 x1 x2 x3 x4 : Nat) : RM := ⟨x0, x1, x2, x3, x4, 0, 0, 0, false, [], [], []⟩
/-- behind the first five fields -/
def parse5 (B : RM) (s : RS) : RM × RS :=
  if B.kind = 1 then ({ B with index := (countF s).1, logTerm := (countF (countF s).2).1 }, (countF (countF s).2).2)
  else if B.kind = 2 then ({ B with ok := (((byteF s).1 : Int) == 1) }, (byteF s).2)
  else if B.kind = 3 then
    ({ B with index := (countF s).1, logTerm := (countF (countF s).2).1, commit := (countF (countF (countF s).2).2).1, entries := (entsF (min (countF (countF (countF (countF s).2).2).2).1 65) ((countF s).1 + 1) (countF (countF (countF (countF s).2).2).2).2).1 },
      (entsF (min (countF (countF (countF (countF s).2).2).2).1 65) ((countF s).1 + 1) (countF (countF (countF (countF s).2).2).2).2).2)
  else if B.kind = 4 then ({ B with ok := (((byteF s).1 : Int) == 1), index := (countF (byteF s).2).1 }, (countF (byteF s).2).2)
  else if B.kind = 5 then
    ({ B with index := (countF s).1, logTerm := (countF (countF s).2).1, members := nums (textF (countF (countF s).2).2).1, data := (textF (textF (countF (countF s).2).2).2).1 }, (textF (textF (countF (countF s).2).2).2).2)
  else (B, s)
def parse (b : List UInt8) : RM × RS :=
  let s1 := byteF (b, false)
  let s2 := byteF s1.2
  let s3 := byteF s2.2
  let s4 := byteF s3.2
  let s5 := countF s4.2
  parse5 (baseM s1.1 s2.1 s3.1 s4.1 s5.1) s5.2

/-! lengths only fall -/
theorem byteF_len (s : RS) : (byteF s).2.1.length ≤ s.1.length := by
  unfold byteF; split <;> simp_all
theorem cntF_len : ∀ (f sc acc : Nat) (s : RS), (cntF f sc acc s).2.1.length ≤ s.1.length
  | 0, _, _, _ => Nat.le_refl _
  | f + 1, sc, acc, s => by
    simp only [cntF]
    split
    · exact byteF_len s
    · exact Nat.le_trans (cntF_len f _ _ _) (byteF_len s)
theorem countF_len (s : RS) : (countF s).2.1.length ≤ s.1.length := cntF_len ..
theorem textF_len (s : RS) : (textF s).2.1.length ≤ s.1.length ∧ (textF s).1.length ≤ s.1.length := by
  have := countF_len s
  unfold textF
  split <;> simp [List.length_drop, List.length_take] <;> omega

/-- an owned list of entries -/
def EntsO (I : Imm) (X : LH) (v : Value) (es : List LE) : Prop := ∃ cells, SlO 78 4 X v cells es.length ∧ Recs (LeV I) 4 es cells
theorem EntsO.mono {I I' : Imm} {X : LH} {v : Value} {es : List LE} (h : EntsO I X v es) (hI : Ext I I') : EntsO I' X v es := by
  obtain ⟨cells, hS, hR⟩ := h
  exact ⟨cells, hS, hR.imp (fun _ _ h => h.mono hI)⟩

abbrev msgO (m : RM) (ev mv dv : Value) : Obj := Obj.cells #[.int .i64 m.kind, .int .i64 m.group, .int .i64 m.frm, .int .i64 m.to, .int .i64 m.term, .int .i64 m.index, .int .i64 m.logTerm, .int .i64 m.commit, .bool m.ok, ev, mv, dv] 51 (0, 0)
def zeroM : RM := ⟨0, 0, 0, 0, 0, 0, 0, 0, false, [], [], []⟩
theorem zeroM_v : MsgV I zeroM [.int .i64 0, .int .i64 0, .int .i64 0, .int .i64 0, .int .i64 0, .int .i64 0, .int .i64 0, .int .i64 0, .bool false, .slice none 0 0, .slice none 0 0, .slice none 0 0] :=
  ⟨_, _, _, rfl, ⟨[], SlI.nil _ _ _ _, rfl⟩, SlI.nil _ _ _ _, SlI.nil _ _ _ _⟩
theorem bldZ : bldV #[(Value.int .i64 0), (Value.int .i64 0), (Value.int .i64 0), (Value.int .i64 0), (Value.int .i64 0), (Value.int .i64 0), (Value.int .i64 0), (Value.int .i64 0), (Value.bool false), (Value.slice none 0 0), (Value.slice none 0 0), (Value.slice none 0 0)] #[(0, 1), (1, 1), (2, 1), (3, 1), (4, 1), (5, 1), (6, 1), (7, 1), (8, 1), (9, 1), (10, 1), (11, 1)] [] =
    some (.agg #[.int .i64 0, .int .i64 0, .int .i64 0, .int .i64 0, .int .i64 0, .int .i64 0, .int .i64 0, .int .i64 0, .bool false, .slice none 0 0, .slice none 0 0, .slice none 0 0]) := by rfl
theorem bld5 (a b c d e : Int) : bldV #[(Value.int .i64 0), (Value.int .i64 0), (Value.int .i64 0), (Value.int .i64 0), (Value.int .i64 0), (Value.int .i64 0), (Value.int .i64 0), (Value.int .i64 0), (Value.bool false), (Value.slice none 0 0), (Value.slice none 0 0), (Value.slice none 0 0)] #[(0, 1), (1, 1), (2, 1), (3, 1), (4, 1), (5, 1), (6, 1), (7, 1), (8, 1), (9, 1), (10, 1), (11, 1)] [(0, .int .i64 a), (1, .int .i64 b), (2, .int .i64 c), (3, .int .i64 d), (4, .int .i64 e)] =
    some (.agg #[.int .i64 a, .int .i64 b, .int .i64 c, .int .i64 d, .int .i64 e, .int .i64 0, .int .i64 0, .int .i64 0, .bool false, .slice none 0 0, .slice none 0 0, .slice none 0 0]) := by rfl
theorem bldRd (a : Option Addr) (l c : Nat) : bldV #[(Value.slice none 0 0), (Value.bool false)] #[(0, 1), (1, 1)] [(0, .slice a l c)] = some (.agg #[.slice a l c, .bool false]) := by rfl
theorem bldE (a b c : Int) (x : Option Addr) (l k : Nat) : bldV #[(Value.int .i64 0), (Value.int .i64 0), (Value.int .i64 0), (Value.slice none 0 0)] #[(0, 1), (1, 1), (2, 1), (3, 1)] [(0, .int .i64 a), (1, .int .i64 b), (2, .int .i64 c), (3, .slice x l k)] = some (.agg #[.int .i64 a, .int .i64 b, .int .i64 c, .slice x l k]) := by rfl

theorem equal_spec {va vb : Value} {a b : List UInt8} (ha : Bytes I va a) (hb : Bytes I vb b) (hk : K (.bool (decide (a = b))) I L) : Cal Try.prog ω 54 #[va, vb] K I L := by
  refine cal54 ?_
  unfold sh54
  refine ⟨_, Bytes.str ha, ?_⟩
  refine ⟨_, Bytes.str hb, ?_⟩
  simp only [Pv_some, fldV_p, nilV_p, nilV_f, lenV_s, capV_s, lenSV_s, strV_s, unV_not, unV_neg, pickV_t, pickV_f, exV_t, cvIV_i, binI_add, binI_sub, binI_mul, binI_eql, binI_neq, binI_lss, binI_leq, binI_gtr, binI_geq, binI_and, binI_or, binB_eql, binB_neq, binS_eql, binS_neq, binP_eql_nil, binP_neq_nil, binN_eql_nil, binN_neq_nil, binN_eql_nn, binN_neq_nn, Br_true, Br_false, cells_agg, List.getElem?_toArray, List.getElem?_cons_zero, List.getElem?_cons_succ, Nat.zero_add, Nat.add_zero, Nat.zero_mul, str_eq]
  refine Gh.done ?_
  rwa [show (a == b) = decide (a = b) from by by_cases h : a = b <;> simp [h]]

/-- what Decode answers: of what was read -/
def DecR (K : Value → M) (b : List UInt8) (r : RM × RS) (I : Imm) (L : LH) : Prop :=
  (r.2.2 = false ∧ rightB r.1 = true ∧ encL r.1 = b → ∀ c I', Ext I I' → MsgV I' r.1 c → K (.tuple #[.agg c.toArray, .int .i64 0]) I' L) ∧
  (¬ (r.2.2 = false ∧ rightB r.1 = true ∧ encL r.1 = b) → ∀ c I', Ext I I' → MsgV I' zeroM c → K (.tuple #[.agg c.toArray, .int .i64 92]) I' L)

end
end Go.Proofs.Ytfeonffmeajpgaa
