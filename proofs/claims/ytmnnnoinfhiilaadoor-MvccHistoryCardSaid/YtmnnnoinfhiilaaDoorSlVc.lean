/-
  The conditions of a piece of code, as predicates on memory, by recursion on the code: pure operations by functions on values, reads by relations, what changes memory by predicate transformers.
-/
import Derived.Test.YtmnnnoinfhiilaaDoorSlCore
import Derived.Laws.Append
import Derived.Laws.Cells
import Derived.Laws.CopyRow
import Derived.Laws.Strings
import Derived.Laws.StructEq
import Derived.Laws.Externs
import Derived.RangeFuncLeaves
import Derived.RangeFuncRecord
set_option linter.unusedSimpArgs false
set_option linter.unusedVariables false
set_option linter.unusedSectionVars false
namespace Go.SL
/-! ### Pure operations: functions on values -/
def fldV (k : Nat) : Value → Option Value
  | .pointer (some ⟨b, off, none⟩) => some (.pointer (some ⟨b, off + k, none⟩))
  | _ => none
def nilV : Value → Option Value
  | .pointer none => none
  | .nilIface => none
  | .nilFunc => none
  | .func (.method _) _ _ => none
  | v => some v
def pickV (c a b : Value) : Option Value := match c with
  | .bool t => some (if t then a else b)
  | _ => none
def bitsV (op : BinOp) (k : IntKind) (a b : Int) : Int :=
  match op with
  | .and => k.wrap (BitVec.ofInt k.bits a &&& BitVec.ofInt k.bits b).toNat
  | .or => k.wrap (BitVec.ofInt k.bits a ||| BitVec.ofInt k.bits b).toNat
  | .xor => k.wrap (BitVec.ofInt k.bits a ^^^ BitVec.ofInt k.bits b).toNat
  | _ => k.wrap (BitVec.ofInt k.bits a &&& ~~~BitVec.ofInt k.bits b).toNat
def binIV (op : BinOp) (x y : Value) : Option Value :=
  match op, x, y with
  | .shl, .int k a, .int _ b => if b < 0 then none else some (.int k (k.wrap (a * 2 ^ (min b.toNat k.bits))))
  | .shr, .int k a, .int _ b => if b < 0 then none else some (.int k (a.fdiv (2 ^ (min b.toNat k.bits))))
  | .add, .int k a, .int k' b => if k = k' then some (.int k (k.wrap (a + b))) else none
  | .sub, .int k a, .int k' b => if k = k' then some (.int k (k.wrap (a - b))) else none
  | .mul, .int k a, .int k' b => if k = k' then some (.int k (k.wrap (a * b))) else none
  | .quo, .int k a, .int k' b => if k = k' then (if b = 0 then none else some (.int k (k.wrap (a.tdiv b)))) else none
  | .rem, .int k a, .int k' b => if k = k' then (if b = 0 then none else some (.int k (a.tmod b))) else none
  | .and, .int k a, .int k' b => if k = k' then some (.int k (bitsV .and k a b)) else none
  | .or, .int k a, .int k' b => if k = k' then some (.int k (bitsV .or k a b)) else none
  | .xor, .int k a, .int k' b => if k = k' then some (.int k (bitsV .xor k a b)) else none
  | .andNot, .int k a, .int k' b => if k = k' then some (.int k (bitsV .andNot k a b)) else none
  | .eql, .int k a, .int k' b => if k = k' then some (.bool (a == b)) else none
  | .neq, .int k a, .int k' b => if k = k' then some (.bool (a != b)) else none
  | .lss, .int k a, .int k' b => if k = k' then some (.bool (decide (a < b))) else none
  | .leq, .int k a, .int k' b => if k = k' then some (.bool (decide (a ≤ b))) else none
  | .gtr, .int k a, .int k' b => if k = k' then some (.bool (decide (b < a))) else none
  | .geq, .int k a, .int k' b => if k = k' then some (.bool (decide (b ≤ a))) else none
  | _, _, _ => none
def binBV (op : BinOp) (x y : Value) : Option Value :=
  match op, x, y with
  | .eql, .bool a, .bool b => some (.bool (a == b))
  | .neq, .bool a, .bool b => some (.bool (!(a == b)))
  | _, _, _ => none
def binSV (op : BinOp) (x y : Value) : Option Value :=
  match op, x, y with
  | .add, .string a, .string b => if a.size + b.size ≤ 9223372036854775807 then some (.string (a ++ b)) else none
  | .eql, .string a, .string b => some (.bool (a.toList == b.toList))
  | .neq, .string a, .string b => some (.bool (!(a.toList == b.toList)))
  | .lss, .string a, .string b => some (.bool (Op.bytesLess a.toList b.toList))
  | .leq, .string a, .string b => some (.bool (Op.bytesLess a.toList b.toList || a.toList == b.toList))
  | .gtr, .string a, .string b => some (.bool (!(Op.bytesLess a.toList b.toList || a.toList == b.toList)))
  | .geq, .string a, .string b => some (.bool (!(Op.bytesLess a.toList b.toList)))
  | _, _, _ => none
def binPV (op : BinOp) (x y : Value) : Option Value :=
  match op, x, y with
  | .eql, .pointer none, .pointer b => some (.bool b.isNone)
  | .eql, .pointer (some _), .pointer none => some (.bool false)
  | .neq, .pointer none, .pointer b => some (.bool (!b.isNone))
  | .neq, .pointer (some _), .pointer none => some (.bool true)
  | _, _, _ => none
def binNV (op : BinOp) (x y : Value) : Option Value :=
  match op, x, y with
  | .eql, .slice none _ _, .slice b _ _ => some (.bool b.isNone)
  | .eql, .slice (some _) _ _, .slice none _ _ => some (.bool false)
  | .neq, .slice none _ _, .slice b _ _ => some (.bool (!b.isNone))
  | .neq, .slice (some _) _ _, .slice none _ _ => some (.bool true)
  | _, _, _ => none
def eqD (d : TypeDesc) (a b : Value) : Option Bool := match d, a, b with
  | .int _, .int k x, .int k' y => if k = k' then some (x == y) else none
  | .bool, .bool x, .bool y => some (x == y)
  | .string, .string x, .string y => some (x.toList == y.toList)
  | _, _, _ => none
def eqAll (xs ys : Array Value) : List (TypeDesc × Nat) → Option Bool
  | [] => some true
  | (d, o) :: l => match xs[o]?, ys[o]? with
    | some a, some b => match eqD d a b, eqAll xs ys l with
      | some r, some r' => some (r && r')
      | _, _ => none
    | _, _ => none
def binAV (op : BinOp) (l : List (TypeDesc × Nat)) (x y : Value) : Option Value :=
  match op, x, y with
  | .eql, .agg xs, .agg ys => (eqAll xs ys l).map fun r => .bool r
  | .neq, .agg xs, .agg ys => (eqAll xs ys l).map fun r => .bool !r
  | _, _, _ => none
def unV (op : UnOp) (x : Value) : Option Value :=
  match op, x with
  | .not, .bool b => some (.bool !b)
  | .neg, .int k n => some (.int k (k.wrap (0 - n)))
  | _, _ => none
def lenV : Value → Option Value
  | .slice _ n _ => some (.int .i64 n)
  | _ => none
def lenSV : Value → Option Value
  | .string s => some (.int .i64 s.size)
  | _ => none
def capV : Value → Option Value
  | .slice _ _ n => some (.int .i64 n)
  | _ => none
def minV : Value → Value → Option Value
  | .int k a, .int _ b => some (.int k (if b < a then b else a))
  | _, _ => none
def maxV : Value → Value → Option Value
  | .int k a, .int _ b => some (.int k (if b > a then b else a))
  | _, _ => none
def bndV (x : Option Value) (dflt y : Nat) : Option Nat := match x with
  | none => some dflt
  | some (.int _ i) => if 0 ≤ i ∧ i ≤ y then some i.toNat else none
  | some _ => none
def slcV (n : Nat) (x : Value) (lo hi mx : Option Value) : Option Value :=
  match x with
  | .slice a len cap =>
    if hi.isNone && mx.isSome then none else
    (bndV mx cap cap).bind fun m => (bndV hi len m).bind fun h => (bndV lo 0 h).bind fun l =>
      some (.slice (if m = l then a else a.map (·.add (l * n))) (h - l) (m - l))
  | _ => none
def slcSV (x : Value) (lo hi : Option Value) : Option Value :=
  match x with
  | .string s => (bndV hi s.size s.size).bind fun h => (bndV lo 0 h).bind fun l => some (.string (s.extract l h))
  | _ => none
def ixV (n : Nat) (x i : Value) : Option Value :=
  match x, i with
  | .slice (some ⟨b, off, none⟩) len _, .int _ i => if 0 ≤ i ∧ i < len then some (.pointer (some ⟨b, off + i.toNat * n, none⟩)) else none
  | _, _ => none
def ixSV (x i : Value) : Option Value :=
  match x, i with
  | .string s, .int _ i => if 0 ≤ i then (s[i.toNat]?).map (fun b => .int .u8 b.toNat) else none
  | _, _ => none
def exV (x : Value) (i : Nat) : Option Value :=
  match x with
  | .tuple vs => vs[i]?
  | _ => none
def cvIV (k : IntKind) : Value → Option Value
  | .int _ n => some (.int k (k.wrap n))
  | _ => none
def strV : Value → Option Value
  | .string s => some (.string s)
  | _ => none
def bldV (zero : Array Value) (places : Array (Nat × Nat)) (parts : List (Nat × Value)) : Option Value :=
  (Instr.fill (places[·]?) zero parts).map .agg
def fldvV (agg : Bool) (off n : Nat) : Value → Option Value
  | .agg cs => if agg then some (.agg (cs.extract off (off + n))) else cs[off]?
  | _ => none
def bldAV (n : Nat) (zero : Array Value) (parts : List (Nat × Value)) : Option Value :=
  (Instr.fill (fun i => some (i * n, n)) zero parts).map .agg
def ixAV (agg : Bool) (n len : Nat) (x i : Value) : Option Value :=
  match i with
  | .int _ i => if 0 ≤ i ∧ i < len then fldvV agg (i.toNat * n) n x else none
  | _ => none
def ixPV (n len : Nat) (x i : Value) : Option Value :=
  match x, i with
  | .pointer (some ⟨b, off, none⟩), .int _ i => if 0 ≤ i ∧ i < len then some (.pointer (some ⟨b, off + i.toNat * n, none⟩)) else none
  | _, _ => none
/-! ### Reads -/
def Cell (I : Imm) (L : LH) (b off : Nat) (v : Value) : Prop := ∃ cs T fr, ((b, Obj.cells cs T fr) ∈ L ∨ I b = some (Obj.cells cs T fr)) ∧ cs[off]? = some v
def Cells (I : Imm) (L : LH) (b off : Nat) (vs : List Value) : Prop := ∀ j u, vs[j]? = some u → Cell I L b (off + j) u
def ld1R (x : Value) (I : Imm) (L : LH) (v : Value) : Prop := ∃ b off, x = .pointer (some ⟨b, off, none⟩) ∧ Cell I L b off v
def ldNR (n : Nat) (x : Value) (I : Imm) (L : LH) (v : Value) : Prop := ∃ b off vs, x = .pointer (some ⟨b, off, none⟩) ∧ vs.length = n ∧ Cells I L b off vs ∧ v = .agg vs.toArray
def bsR (x : Value) (I : Imm) (L : LH) (v : Value) : Prop :=
  (∃ a cap, x = .slice a 0 cap ∧ v = .string .empty) ∨
  (∃ b off len cap, ∃ s : List UInt8, x = .slice (some ⟨b, off, none⟩) len cap ∧ s.length = len ∧ Cells I L b off (s.map fun c => .int .u8 c.toNat) ∧ v = .string ⟨s.toArray⟩)
/-! ### What changes memory -/
def New (o : Obj) (K : Value → M) : M := fun I L => ∀ b, K (.pointer (some ⟨b, 0, none⟩)) I ((b, o) :: L)
abbrev one (v : Value) : Bool := v.oneCell'
def wr (cs : Array Value) (off : Nat) : List Value → Array Value
  | [] => cs
  | v :: vs => wr (cs.setIfInBounds off v) (off + 1) vs
def Sto (n : Nat) (x v : Value) (K : Value → M) : M := fun I L =>
  ∃ b off cs T L1 L2, x = .pointer (some ⟨b, off, none⟩) ∧ v.cells.size = n ∧ (∀ u ∈ v.cells.toList, one u = true) ∧ off + n ≤ cs.size ∧
    L = L1 ++ (b, .cells cs T (0, 0)) :: L2 ∧ K undef I (L1 ++ (b, .cells (wr cs off v.cells.toList) T (0, 0)) :: L2)
def MkS (T bytes : Nat) (zero : Array Value) (l c : Value) (K : Value → M) : M := fun I L =>
  ∃ k k' : IntKind, ∃ ln cn : Nat, l = .int k ln ∧ c = .int k' cn ∧ ln ≤ cn ∧ cn ≤ 140737488355328 ∧ cn * bytes ≤ 281474976710656 ∧
    ∀ b, K (.slice (some ⟨b, 0, none⟩) ln cn) I ((b, .cells (Builtin.zeroCells zero cn) T (0, 0)) :: L)
def BldS (T n : Nat) (zero : Array Value) (len : Nat) (parts : List (Nat × Value)) (K : Value → M) : M := fun I L =>
  ∃ cells, Instr.fill (fun i => some (i * n, n)) ((Array.range (len * n)).map (zero[· % zero.size]!)) parts = some cells ∧
    ∀ b, K (.slice (some ⟨b, 0, none⟩) len len) I ((b, .cells cells T (0, 0)) :: L)
def News (n : Nat) (x : Value) (I : Imm) (L : LH) (m : Nat) (news : List Value) : Prop :=
  (∃ a cap, x = .slice a 0 cap ∧ m = 0 ∧ news = []) ∨
  (∃ b off cap, x = .slice (some ⟨b, off, none⟩) m cap ∧ news.length = m * n ∧ Cells I L b off news) ∨
  (∃ s : ByteArray, x = .string s ∧ n = 1 ∧ m = s.size ∧ news = s.data.toList.map fun b => .int .u8 b.toNat)
def App (T n bytes : Nat) (zero : Array Value) (s x : Value) (K : Value → M) : M := fun I L =>
  ∃ a len cap m news, s = .slice a len cap ∧ News n x I L m news ∧ (∀ u ∈ news, one u = true) ∧
    ((len + m ≤ cap ∧ news = [] ∧ K (.slice a (len + m) cap) I L) ∨
     (len + m ≤ cap ∧ ∃ b off cs T' L1 L2, a = some ⟨b, off, none⟩ ∧ L = L1 ++ (b, .cells cs T' (0, 0)) :: L2 ∧ off + (len + m) * n ≤ cs.size ∧
        K (.slice a (len + m) cap) I (L1 ++ (b, .cells (wr cs (off + len * n) news) T' (0, 0)) :: L2)) ∨
     (cap < len + m ∧ (len + m) * bytes ≤ 150000000000000 ∧ len + m ≤ 150000000000000 ∧ ∃ olds : List Value, ∃ L0, News n s I L len olds ∧ L0.Sublist L ∧
        ∀ b c, len + m ≤ c → K (.slice (some ⟨b, 0, none⟩) (len + m) c) I ((b, .cells ((olds ++ news).toArray ++ Builtin.zeroCells zero (c - (len + m))) T (0, 0)) :: L0)))
def AppZ (T n bytes : Nat) (zero : Array Value) (s x : Value) (K : Value → M) : M := fun I L =>
  ∃ a len cap, ∃ m : Nat, s = .slice a len cap ∧ x = .int .i64 m ∧ (∀ u ∈ zero.toList, one u = true) ∧ m * bytes ≤ 150000000000000 ∧ m ≤ 150000000000000 ∧
    ((len + m ≤ cap ∧ m = 0 ∧ K (.slice a (len + m) cap) I L) ∨
     (len + m ≤ cap ∧ ∃ b off cs T' L1 L2, a = some ⟨b, off, none⟩ ∧ L = L1 ++ (b, .cells cs T' (0, 0)) :: L2 ∧ off + (len + m) * n ≤ cs.size ∧
        K (.slice a (len + m) cap) I (L1 ++ (b, .cells (wr cs (off + len * n) (Builtin.zeroCells zero m).toList) T' (0, 0)) :: L2)) ∨
     (cap < len + m ∧ (len + m) * bytes ≤ 150000000000000 ∧ len + m ≤ 150000000000000 ∧ ∃ olds : List Value, ∃ L0, News n s I L len olds ∧ L0.Sublist L ∧
        ∀ b c, len + m ≤ c → K (.slice (some ⟨b, 0, none⟩) (len + m) c) I ((b, .cells (olds.toArray ++ Builtin.zeroCells zero m ++ Builtin.zeroCells zero (c - (len + m))) T (0, 0)) :: L0)))
def CpyV (n : Nat) (d x : Value) (K : Value → M) : M := fun I L =>
  ∃ a len cap m xs, d = .slice a len cap ∧ News n x I L m xs ∧
    ((min m len = 0 ∧ K (.int .i64 0) I L) ∨
     (∃ b off cs T' L1 L2, a = some ⟨b, off, none⟩ ∧ L = L1 ++ (b, .cells cs T' (0, 0)) :: L2 ∧ off + (min m len) * n ≤ cs.size ∧ (∀ u ∈ xs.take (min m len * n), one u = true) ∧
        K (.int .i64 (min m len : Nat)) I (L1 ++ (b, .cells (wr cs off (xs.take (min m len * n))) T' (0, 0)) :: L2)))
def ClrV (zero : Array Value) (x : Value) (K : Value → M) : M := fun I L =>
  (∃ a cap, x = .slice a 0 cap ∧ K (.tuple #[]) I L) ∨
  (∃ b off len cap cs T' L1 L2, x = .slice (some ⟨b, off, none⟩) len cap ∧ L = L1 ++ (b, .cells cs T' (0, 0)) :: L2 ∧ off + len * zero.size ≤ cs.size ∧ (∀ u ∈ zero.toList, one u = true) ∧
      K (.tuple #[]) I (L1 ++ (b, .cells (wr cs off (Builtin.zeroCells zero len).toList) T' (0, 0)) :: L2))
def MrkS (x : Value) (K : Value → M) : M := fun I L =>
  ∃ b off len cap cs T' L1 L2, x = .slice (some ⟨b, off, none⟩) len cap ∧ L = L1 ++ (b, .cells cs T' (0, 0)) :: L2 ∧ K x I (L1 ++ (b, .cells cs T' (cs.size, cs.size + 1)) :: L2)
def CvSB (T : Nat) (x : Value) (K : Value → M) : M := fun I L =>
  ∃ s : ByteArray, x = .string s ∧ ∀ b c, s.size ≤ c → K (.slice (some ⟨b, 0, none⟩) s.size c) I ((b, .cells (s.data.map (fun b => .int .u8 b.toNat) ++ Array.replicate (c - s.size) (.int .u8 0)) T (c, c + 1)) :: L)
/-! ### Maps -/
def MapAt (I : Imm) (L : LH) (r : Nat) (es : Array MapEntry) (clock : Nat) : Prop := (r, Obj.map es clock) ∈ L ∨ I r = some (Obj.map es clock)
def MapOf (I : Imm) (L : LH) (x : Value) (es : Array MapEntry) : Prop := (x = .map none ∧ es = #[]) ∨ ∃ r clock, x = .map (some r) ∧ MapAt I L r es clock
def keyB : TypeDesc → Bool
  | .int _ => true
  | .string => true
  | _ => false
def lkR (kd : TypeDesc) (zero : Value) (ok : Bool) (x k : Value) (I : Imm) (L : LH) (v : Value) : Prop :=
  ∃ es r, MapOf I L x es ∧ Instr.findNow kd k es.toList 0 = some r ∧ v = (match r with
    | some (_, u) => if ok then .tuple #[u, .bool true] else u
    | none => if ok then .tuple #[zero, .bool false] else zero)
def lenMR (x : Value) (I : Imm) (L : LH) (v : Value) : Prop := ∃ es, MapOf I L x es ∧ v = .int .i64 es.size
def NewM (K : Value → M) : M := fun I L => ∀ b, K (.map (some b)) I ((b, .map #[] 0) :: L)
def PutM (kd : TypeDesc) (x k v : Value) (K : Value → M) : M := fun I L =>
  ∃ r es clock L1 L2 q, x = .map (some r) ∧ L = L1 ++ (r, .map es clock) :: L2 ∧ Instr.findNow kd k es.toList 0 = some q ∧
    K undef I (L1 ++ (r, match q with
      | some (i, _) => .map (es.modify i fun e => { e with key := k, val := v }) clock
      | none => .map (es.push { key := k, val := v, born := clock }) (clock + 1)) :: L2)
def DelM (kd : TypeDesc) (x k : Value) (K : Value → M) : M := fun I L =>
  (x = .map none ∧ K (.tuple #[]) I L) ∨
  ∃ r es clock L1 L2 q, x = .map (some r) ∧ L = L1 ++ (r, .map es clock) :: L2 ∧ Instr.findNow kd k es.toList 0 = some q ∧
    K (.tuple #[]) I (L1 ++ (r, match q with
      | some (i, _) => .map (es.eraseIdxIfInBounds i) clock
      | none => .map es clock) :: L2)
def ClrM (x : Value) (K : Value → M) : M := fun I L =>
  (x = .map none ∧ K (.tuple #[]) I L) ∨
  ∃ r es clock L1 L2, x = .map (some r) ∧ L = L1 ++ (r, .map es clock) :: L2 ∧ K (.tuple #[]) I (L1 ++ (r, .map #[] clock) :: L2)
def RngMp (x : Value) (K : Value → M) : M := fun I L =>
  (x = .map none ∧ ∀ b, K (.pointer (some ⟨b, 0, none⟩)) I ((b, .mapIter none 0 #[] 0) :: L)) ∨
  ∃ r es clock, x = .map (some r) ∧ MapAt I L r es clock ∧ ∀ b, K (.pointer (some ⟨b, 0, none⟩)) I ((b, .mapIter (some r) clock #[] clock) :: L)
def RngS (x : Value) (K : Value → M) : M := fun I L => ∃ s, x = .string s ∧ ∀ b, K (.pointer (some ⟨b, 0, none⟩)) I ((b, .stringIter s 0) :: L)
def NxtM (x : Value) (K : Value → M) : M := fun I L =>
  ∃ b L1 L2, x = .pointer (some ⟨b, 0, none⟩) ∧ (
    (∃ since seen last, L = L1 ++ (b, .mapIter none since seen last) :: L2 ∧ K (.tuple #[.bool false]) I L) ∨
    (∃ r since seen last es clock, L = L1 ++ (b, .mapIter (some r) since seen last) :: L2 ∧ MapAt I L r es clock ∧ ¬ (!seen.isEmpty && !es.isEmpty && es.all (·.born ≥ last)) = true ∧
      ((∀ e ∈ es, seen.contains e.born = false → since ≤ e.born) → K (.tuple #[.bool false]) I L) ∧
      ∀ e ∈ es, seen.contains e.born = false → K (.tuple #[.bool true, e.key, e.val]) I (L1 ++ (b, .mapIter (some r) since (seen.push e.born) clock) :: L2)))
def entR (x : Value) (I : Imm) (L : LH) (v : Value) : Prop :=
  ∃ b r since seen last es clock st e, x = .pointer (some ⟨b, 0, none⟩) ∧ ((b, Obj.mapIter (some r) since seen last) ∈ L ∨ I b = some (Obj.mapIter (some r) since seen last)) ∧ seen.back? = some st ∧ MapAt I L r es clock ∧ (clock != last) = false ∧
    es.find? (·.born == st) = some e ∧ v = .tuple #[e.key, e.val]
def NxtS (x : Value) (K : Value → M) : M := fun I L =>
  ∃ (b : Nat) (s : ByteArray) (pos : Nat) (L1 L2 : LH), x = .pointer (some ⟨b, 0, none⟩) ∧ L = L1 ++ (b, .stringIter s pos) :: L2 ∧
    if pos < s.size then K (.tuple #[.bool true, .int .i64 pos, .int .i32 (Utf8.decode s pos).1]) I (L1 ++ (b, .stringIter s (pos + (Utf8.decode s pos).2)) :: L2) else K (.tuple #[.bool false]) I L
/-! ### Interfaces -/
def asrtV (T : Nat) (zero : Value) : Value → Option Value
  | .nilIface => some (.tuple #[zero, .bool false])
  | .iface t v => some (if Nat.beq t T then .tuple #[v, .bool true] else .tuple #[zero, .bool false])
  | _ => none
def binFV (lit : Bool) (op : BinOp) (x y : Value) : Option Value :=
  match op, x, y with
  | .eql, .iface _ _, .nilIface => some (.bool false)
  | .neq, .iface _ _, .nilIface => some (.bool true)
  | .eql, .nilIface, .nilIface => if lit then some (.bool true) else none
  | .neq, .nilIface, .nilIface => if lit then some (.bool false) else none
  | _, _, _ => none
def binMV (op : BinOp) (x y : Value) : Option Value :=
  match op, x, y with
  | .eql, .map none, .map b => some (.bool b.isNone)
  | .eql, .map (some _), .map none => some (.bool false)
  | .neq, .map none, .map b => some (.bool !b.isNone)
  | .neq, .map (some _), .map none => some (.bool true)
  | _, _, _ => none
def litB : Operand → Bool
  | .const _ => true
  | _ => false
section
variable (P : Program) (ω : Om)
def entersB (f : FuncId) : Bool := match P.funcs[f]? with
  | some fn => fn.name != "runtime.NumGoroutine" && fn.body.isSome
  | none => false
def extOf (f : FuncId) : Option (Array Value → Sem Value) := match P.funcs[f]? with
  | some fn => if fn.name == "runtime.NumGoroutine" || fn.body.isSome then none else match Extern.findNext fn with
    | some _ => none
    | none => Extern.find fn
  | none => none
def ExtE (e : Array Value → Sem Value) (args : Array Value) (K : Value → M) : M := fun I L => ∃ v, (∀ w, St ω w I L → (e args).run P w = .ok v w) ∧ K v I L
def YCal (l : Nat) (args : Array Value) (K : Value → M) : M := fun I L => ∀ w, St ω w I L → ∃ f tmps assign body, (Instr.yield l args).run P w = .ok (.round l f tmps assign body) w ∧ RoundIn Fence.wide 0 P l f tmps assign body w (Ret ω K)
def CalV (x : Value) (args : Array Value) (K : Value → M) : M := match x with
  | .func (.func f) first cap => if entersB P f then Cal P ω f (first ++ args ++ cap) K else match extOf P f with
    | some e => ExtE P ω e (first ++ args ++ cap) K
    | none => F
  | .func (.yield l) first cap => YCal P ω l (first ++ args) K
  | _ => F
def RetP (K Pn : Value → M) (e : Ending) (w' : World) : Prop := ∃ v I' L', St ω w' I' L' ∧ ((e = .returned v ∧ K v I' L') ∨ (e = .panicked [{ v, recovered := false }] ∧ Pn v I' L'))
def CalP (f : FuncId) (args : Array Value) (K Pn : Value → M) : M := fun I L => ∀ w, St ω w I L → Calls P f args w (RetP ω K Pn)
def CalVP (x : Value) (args : Array Value) (K Pn : Value → M) : M := match x with
  | .func (.func f) first cap => if entersB P f then CalP P ω f (first ++ args ++ cap) K Pn else match extOf P f with
    | some e => ExtE P ω e (first ++ args ++ cap) K
    | none => F
  | .func (.yield l) first cap => YCal P ω l (first ++ args) K
  | _ => F
/-! ### An operation -/
inductive OpV where
  | pure (r : Option Value)
  | read (R : Imm → LH → Value → Prop)
  | eff (E : (Value → M) → M)
  | no
def fieldOff (T f : Nat) : Option Nat := match P.underlying T with
  | some (.struct fs) => match fs[f]? with
    | some fd => match P.info? fd.type with
      | some i => if i.size = 0 then none else some fd.offset
      | none => none
    | none => none
  | _ => none
def isAggB (T : Nat) : Bool := match P.underlying T with
  | some (.struct _) => true
  | some (.array _ _) => true
  | _ => false
def tinfo (T : Nat) : Option (Nat × Nat × Array Value) := match P.info? T with
  | some i => match i.zero with
    | some z => if z.cells.size = i.size && Nat.blt 0 i.size then some (i.size, i.bytes, z.cells) else none
    | none => none
  | none => none
def elemOfB (T : Nat) : Option Nat := match P.underlying T with
  | some (.slice e) => some e
  | _ => none
def fieldPlaces (T : Nat) : Option (Array (Nat × Nat)) := match P.underlying T with
  | some (.struct fs) => fs.mapM fun f => match P.info? f.type with
    | some i => some (f.offset, i.size)
    | none => none
  | _ => none
def flatF : List Field → Option (List (TypeDesc × Nat))
  | [] => some []
  | f :: fs => if f.name == "_" then none else match P.underlying f.type, tinfo P f.type, flatF fs with
    | some (.int k), some (1, _, _), some l => some ((.int k, f.offset) :: l)
    | some .bool, some (1, _, _), some l => some ((.bool, f.offset) :: l)
    | some .string, some (1, _, _), some l => some ((.string, f.offset) :: l)
    | _, _, _ => none
def binTV (op : BinOp) (T : Nat) (fs : List Field) (x y : Value) : Option Value := match P.stoodInHeld T || P.eqGuardType P.depth T with
  | true => none
  | false => match flatF P fs with
    | some l => binAV op l x y
    | none => none
def opt {α : Type} (x : Option α) (f : α → OpV) : OpV := match x with
  | some a => f a
  | none => .no
def evs (ρ : Operand → Option Value) : List Operand → Option (List Value)
  | [] => some []
  | x :: xs => match ρ x with
    | some v => match evs ρ xs with
      | some vs => some (v :: vs)
      | none => none
    | none => none
def evps (ρ : Operand → Option Value) : List (Nat × Operand) → Option (List (Nat × Value))
  | [] => some []
  | (i, x) :: xs => match ρ x with
    | some v => match evps ρ xs with
      | some vs => some ((i, v) :: vs)
      | none => none
    | none => none
def evo (ρ : Operand → Option Value) : Option Operand → Option (Option Value)
  | none => some none
  | some x => match ρ x with
    | some v => some (some v)
    | none => none
def opv (ρ : Operand → Option Value) (op : Op) : OpV :=
  match op with
  | .move x => opt (ρ x) fun v => .pure (some v)
  | .assign x => opt (ρ x) fun v => .pure (some v)
  | .pick c a b => opt (ρ c) fun c => opt (ρ a) fun a => opt (ρ b) fun b => .pure (pickV c a b)
  | .nilCheck x => opt (ρ x) fun v => .pure (nilV v)
  | .fieldAddr T x f => opt (ρ x) fun v => opt (fieldOff P T f) fun k => .pure (fldV k v)
  | .binOp op T x y _ => opt (ρ x) fun a => opt (ρ y) fun b => match P.underlying T with
    | some (.int _) => .pure (binIV op a b)
    | some .string => .pure (binSV op a b)
    | some .bool => .pure (binBV op a b)
    | some (.pointer _) => .pure (binPV op a b)
    | some (.slice _) => .pure (binNV op a b)
    | some (.struct fs) => .pure (binTV P op T fs.toList a b)
    | _ => .no
  | .unOp op _ x => opt (ρ x) fun v => .pure (unV op v)
  | .extract x i => opt (ρ x) fun v => .pure (exV v i)
  | .convert src dst x => opt (ρ x) fun v => match P.underlying src, P.underlying dst with
    | some (.int _), some (.int k) => .pure (cvIV k v)
    | some (.slice e), some .string => match P.underlying e with
      | some (.int .u8) => .read (bsR v)
      | _ => .no
    | some (.slice _), some (.slice e) => match P.underlying e with
      | some (.int .u8) => if Nat.beq src dst then .eff (MrkS v) else .no
      | _ => .no
    | some .string, some (.slice e) => match P.underlying e with
      | some (.int .u8) => .eff (CvSB e v)
      | _ => .no
    | some .string, some .string => .pure (strV v)
    | _, _ => .no
  | .indexAddr T x i => opt (ρ x) fun v => opt (ρ i) fun i => match P.underlying T with
    | some (.slice E) => opt (tinfo P E) fun (n, _, _) => .pure (ixV n v i)
    | some (.array len E) => opt (tinfo P E) fun (n, _, _) => .pure (ixPV n len v i)
    | _ => .no
  | .index T x i => opt (ρ x) fun v => opt (ρ i) fun i => match P.underlying T with
    | some .string => .pure (ixSV v i)
    | some (.array len E) => opt (P.underlying E) fun _ => opt (tinfo P E) fun (n, _, _) => .pure (ixAV (isAggB P E) n len v i)
    | _ => .no
  | .slice T x lo hi mx => opt (ρ x) fun v => opt (evo ρ lo) fun lo => opt (evo ρ hi) fun hi => opt (evo ρ mx) fun mx => match P.underlying T with
    | some .string => if mx.isSome then .no else .pure (slcSV v lo hi)
    | some (.slice E) => opt (tinfo P E) fun (n, _, _) => .pure (slcV n v lo hi mx)
    | _ => .no
  | .build T parts => opt (evps ρ parts.toList) fun ps => opt (tinfo P T) fun (_, _, z) => match P.underlying T with
    | some (.array _ E) => opt (tinfo P E) fun (n, _, _) => .pure (bldAV n z ps)
    | _ => opt (fieldPlaces P T) fun pl => .pure (bldV z pl ps)
  | .field T x f => opt (ρ x) fun v => match P.underlying T with
    | some (.struct fs) => match fs[f]? with
      | some fd => opt (P.underlying fd.type) fun _ => opt (tinfo P fd.type) fun (n, _, _) => .pure (fldvV (isAggB P fd.type) fd.offset n v)
      | none => .no
    | _ => .no
  | .makeFunc fn first cap => opt (evs ρ first.toList) fun fi => opt (evs ρ cap.toList) fun ca => .pure (some (.func fn fi.toArray ca.toArray))
  | .load T x => opt (ρ x) fun v => if isAggB P T then opt (tinfo P T) fun (n, _, _) => .read (ldNR n v) else (match P.underlying T with
    | some _ => .read (ld1R v)
    | none => .no)
  | .alloc T => opt (tinfo P T) fun (_, _, z) => .eff (New (.cells z T (0, 0)))
  | .box T x => opt (ρ x) fun v => .eff (New (.cells v.cells T (0, 0)))
  | .store T x y => opt (ρ x) fun x => opt (ρ y) fun y => opt (tinfo P T) fun (n, _, _) => .eff (Sto n x y)
  | .makeSlice T l c => opt (ρ l) fun l => opt (ρ c) fun c => opt (elemOfB P T) fun E => opt (tinfo P E) fun (_, by', z) => .eff (MkS E by' z l c)
  | .buildSlice T len parts => opt (evps ρ parts.toList) fun ps => opt (elemOfB P T) fun E => opt (tinfo P E) fun (n, _, z) =>
      if len * n ≤ 16777216 then .eff (BldS E n z len ps) else .no
  | .call { callee := .value f, args, .. } => opt (ρ f) fun f => opt (evs ρ args.toList) fun vs => .eff (CalV P ω f vs.toArray)
  | .call { callee := .builtin .len, args, argTypes } => match args.toList, argTypes.toList with
    | [x], [T] => opt (ρ x) fun v => match P.underlying T with
      | some (.slice _) => .pure (lenV v)
      | some .string => .pure (lenSV v)
      | some (.array n _) => .pure (some (.int .i64 n))
      | _ => .no
    | _, _ => .no
  | .call { callee := .builtin .cap, args, argTypes } => match args.toList, argTypes.toList with
    | [x], [T] => opt (ρ x) fun v => match P.underlying T with
      | some (.slice _) => .pure (capV v)
      | _ => .no
    | _, _ => .no
  | .call { callee := .builtin .min, args, .. } => match args.toList with
    | [x, y] => opt (ρ x) fun x => opt (ρ y) fun y => .pure (minV x y)
    | _ => .no
  | .call { callee := .builtin .max, args, .. } => match args.toList with
    | [x, y] => opt (ρ x) fun x => opt (ρ y) fun y => .pure (maxV x y)
    | _ => .no
  | .call { callee := .builtin .append, args, argTypes } => match args.toList, argTypes.toList with
    | [s, x], [T, T'] => opt (ρ s) fun s => opt (ρ x) fun x => opt (elemOfB P T) fun E => opt (tinfo P E) fun (n, by', z) => if by' ≤ 1073741824 then (match P.underlying T' with
      | some (.slice _) => .eff (App E n by' z s x)
      | some .string => .eff (App E n by' z s x)
      | some (.int _) => .eff (AppZ E n by' z s x)
      | _ => .no) else .no
    | _, _ => .no
  | .call { callee := .builtin .copy, args, argTypes } => match args.toList, argTypes.toList with
    | [s, x], T :: _ => opt (ρ s) fun s => opt (ρ x) fun x => opt (elemOfB P T) fun E => opt (tinfo P E) fun (n, _, _) => .eff (CpyV n s x)
    | _, _ => .no
  | .call { callee := .builtin .clear, args, argTypes } => match args.toList, argTypes.toList with
    | [x], [T] => opt (ρ x) fun x => opt (elemOfB P T) fun E => opt (tinfo P E) fun (_, _, z) => .eff (ClrV z x)
    | _, _ => .no
  | _ => .no
def mapB (T : Nat) : Option (Nat × Nat) := match P.underlying T with
  | some (.map k e) => some (k, e)
  | _ => none
def mkd (T : Nat) (f : TypeDesc → Nat → OpV) : OpV := opt (mapB P T) fun (k, e) => opt (P.underlying k) fun d => if keyB d then f d e else .no
def znv (E : Nat) : Option Value := match P.info? E with
  | some i => i.zero
  | none => none
def ifaceB (T : Nat) : Bool := match P.underlying T with
  | some (.interface _) => true
  | _ => false
def opv2 (pn : Option (Value → M)) (ρ : Operand → Option Value) (op : Op) : OpV :=
  match op with
  | .call { callee := .value f, args, .. } => match pn with
    | none => opv P ω ρ op
    | some Pn => opt (ρ f) fun f => opt (evs ρ args.toList) fun vs => .eff (fun K => CalVP P ω f vs.toArray K Pn)
  | .panic x => match pn with
    | none => .no
    | some Pn => opt (ρ x) fun v => match v with
      | .iface _ _ => .eff (fun _ => Pn v)
      | _ => .no
  | .makeMap T none => opt (mapB P T) fun _ => .eff NewM
  | .makeMap T (some r) => opt (mapB P T) fun _ => opt (ρ r) fun v => match v with
    | .int _ _ => .eff NewM
    | _ => .no
  | .lookup T x i ok => opt (ρ x) fun x => opt (ρ i) fun i => mkd P T fun d e => opt (znv P e) fun z => .read (lkR d z ok x i)
  | .mapUpdate T m k v => opt (ρ m) fun m => opt (ρ k) fun k => opt (ρ v) fun v => mkd P T fun d _ => .eff (PutM d m k v)
  | .insert T m k v => opt (ρ m) fun m => opt (ρ k) fun k => opt (ρ v) fun v => mkd P T fun d _ => .eff (PutM d m k v)
  | .range T x => opt (ρ x) fun x => match P.underlying T with
    | some (.map _ _) => .eff (RngMp x)
    | some .string => .eff (RngS x)
    | _ => .no
  | .entry x => opt (ρ x) fun x => .read (entR x)
  | .next x s => opt (ρ x) fun x => if s then .eff (NxtS x) else .eff (NxtM x)
  | .makeInterface T x => opt (ρ x) fun v => if ifaceB P T then .no else opt (P.underlying T) fun _ => .pure (some (.iface T v))
  | .typeAssert x _ T true => opt (ρ x) fun v => if ifaceB P T then .no else opt (P.underlying T) fun _ => opt (znv P T) fun z => .pure (asrtV T z v)
  | .binOp op T x y U => if ifaceB P T then opt (ρ x) fun a => opt (ρ y) fun b => .pure (binFV (litB x || litB y) op a b) else match mapB P T with
    | some _ => opt (ρ x) fun a => opt (ρ y) fun b => .pure (binMV op a b)
    | none => opv P ω ρ (.binOp op T x y U)
  | .call { callee := .builtin .delete, args, argTypes } => match args.toList, argTypes.toList with
    | [m, k], T :: _ => opt (ρ m) fun m => opt (ρ k) fun k => mkd P T fun d _ => .eff (DelM d m k)
    | _, _ => .no
  | .call { callee := .builtin .len, args, argTypes } => match args.toList, argTypes.toList with
    | [x], [T] => match mapB P T with
      | some _ => opt (ρ x) fun v => .read (lenMR v)
      | none => opv P ω ρ op
    | _, _ => .no
  | .call { callee := .builtin .clear, args, argTypes } => match args.toList, argTypes.toList with
    | [x], [T] => match mapB P T with
      | some _ => opt (ρ x) fun v => .eff (ClrM v)
      | none => opv P ω ρ op
    | _, _ => .no
  | _ => opv P ω ρ op
def Pv (r : Option Value) (K : Value → M) : M := match r with
  | some v => K v
  | none => F
def Rv (S : Option M) (R : Imm → LH → Value → Prop) (K : Value → M) : M := match S with
  | none => fun I L => ∃ v, R I L v ∧ K v I L
  | some S => fun I L => ∃ v, (∀ I' L', S I' L' → R I' L' v) ∧ K v I L
def kp (S : Option M) (need : Bool) (K : Value → M) : Value → M := match S with
  | none => K
  | some S => if need then Keep S K else K
def opk (op : Op) : Nat := match op with
  | .load _ _ => 1
  | .convert src dst _ => match P.underlying src, P.underlying dst with
    | some (.slice _), some .string => 1
    | some (.slice _), some (.slice _) => 2
    | some .string, some (.slice _) => 2
    | _, _ => 0
  | .alloc _ => 2
  | .box _ _ => 2
  | .store _ _ _ => 2
  | .makeSlice _ _ _ => 2
  | .buildSlice _ _ _ => 2
  | .makeMap _ _ => 2
  | .lookup _ _ _ _ => 1
  | .entry _ => 1
  | .mapUpdate _ _ _ _ => 2
  | .insert _ _ _ _ => 2
  | .range _ _ => 2
  | .next _ _ => 2
  | .panic _ => 2
  | .call { callee := .builtin .delete, .. } => 2
  | .call { callee := .builtin .len, argTypes, .. } => match argTypes.toList with
    | [T] => match mapB P T with
      | some _ => 1
      | none => 0
    | _ => 0
  | .call { callee := .value _, .. } => 2
  | .call { callee := .builtin .append, .. } => 2
  | .call { callee := .builtin .copy, .. } => 2
  | .call { callee := .builtin .clear, .. } => 2
  | _ => 0
def chk (S : Option M) (k k' : Nat) (A : M) : M := if !S.isSome || Nat.beq k k' then A else F
def vcOp (pn : Option (Value → M)) (S : Option M) (need : Bool) (ρ : Operand → Option Value) (op : Op) (K : Value → M) : M :=
  match opv2 P ω pn ρ op with
  | .pure r => chk S (opk P op) 0 (Pv r K)
  | .read R => chk S (opk P op) 1 (Rv S R K)
  | .eff E => chk S (opk P op) 2 (E (gh (kp S need K)))
  | .no => F
/-! ### A region -/
abbrev Pnf := Option (List Df → Value → M)
def pnAt (pn : Pnf) (e : Env) : Option (Value → M) := match pn with
  | none => none
  | some p => some (p e.df)
def gvar (ops : Array Oper) (g : Nat) : Option Tmp := (ops[g]?).bind (·.dst)
abbrev Md := List (Tmp × Bool × Bool)
def dec : Md → Tmp → Bool → Option Bool
  | [], _, _ => none
  | (t', want', b) :: r, t, want => if Nat.beq t' t && (want' == want) then some b else dec r t want
def forget (d : Option Tmp) (md : Md) : Md := match d with
  | some d => md.filter fun f => !Nat.beq f.1 d
  | none => md
def skd (n : Nat) (d : Option Tmp) (md : Md) : Md := match d with
  | some t => if Nat.blt t n then (t, true, false) :: (t, false, false) :: forget d md else forget d md
  | none => md
def skM (S : Option M) (need : Bool) (k : Nat) (A : M) : M := match S with
  | none => A
  | some S => if need && Nat.beq k 2 then (fun I L => S I L ∧ A I L) else A
def vcList (pn : Pnf) (S : Option M) (nd : Nat → Bool) (n : Nat) (ops : Array Oper) : Nat → Md → List Oper → Env → (Env → M) → M
  | _, _, [], e, K => K e
  | i, md, o :: rest, e, K =>
    match o.guard with
    | none => vcOp P ω (pnAt pn e) S (nd i) (e.ev n) o.op (fun v => vcList pn S nd n ops (i + 1) (forget o.dst md) rest (e.upd o.dst v) K)
    | some (g, want) =>
      match gvar ops g with
      | none => F
      | some t =>
        match dec md t want with
        | some true => vcOp P ω (pnAt pn e) S (nd i) (e.ev n) o.op (fun v => vcList pn S nd n ops (i + 1) (forget o.dst md) rest (e.upd o.dst v) K)
        | some false => skM S (nd i) (opk P o.op) (vcList pn S nd n ops (i + 1) (skd n o.dst md) rest (e.upd o.dst undef) K)
        | none =>
          match e.ev n (.tmp t) with
          | none => F
          | some v => Gd v want
              (vcOp P ω (pnAt pn e) S (nd i) ((e.upd (some t) (.bool want)).ev n) o.op (fun v => vcList pn S nd n ops (i + 1) (forget o.dst ((t, want, true) :: md)) rest ((e.upd (some t) (.bool want)).upd o.dst v) K))
              (skM S (nd i) (opk P o.op) (vcList pn S nd n ops (i + 1) (skd n o.dst ((t, want, false) :: md)) rest ((e.upd (some t) (.bool !want)).upd o.dst undef) K))
def reach (ops : Array Oper) : Nat → Nat → Nat → Bool
  | 0, _, _ => false
  | f + 1, i, j => match ops[i]? with
    | none => false
    | some o => o.after.any fun e => Region.binds .any e && (Nat.beq e.on j || (Nat.blt j e.on && reach ops f e.on j))
def kindAt (ops : Array Oper) (i : Nat) : Nat := match ops[i]? with
  | some o => opk P o.op
  | none => 0
def needAt (ops : Array Oper) (i : Nat) : Bool := (List.range ops.size).any fun j => Nat.beq (kindAt P ops j) 1 && !Nat.beq i j && !reach ops ops.size i j
def serialB (ops : Array Oper) : Bool :=
  Region.noSelect ops &&
  (List.range ops.size).all fun i => match ops[i]? with
    | none => false
    | some oi =>
      (oi.after.all fun e => !Region.binds .any e || Nat.blt e.on i) &&
      (List.range i).all fun j => match ops[j]? with
        | none => false
        | some oj => reach ops ops.size i j || (oj.apart ops oi && oi.apart ops oj && !(Nat.beq (opk P oi.op) 2 && Nat.beq (opk P oj.op) 2))
/-! Operations that change memory and have no order among them: each of their orders is asked. -/
def rdyB (rc : Nat → Nat → Bool) (i : Nat) (l : List Nat) : Bool := l.all fun j => Nat.beq j i || !rc i j
def AllM : List M → M
  | [] => F
  | [A] => A
  | A :: B :: r => fun I L => A I L ∧ AllM (B :: r) I L
def vcG (pn : Pnf) (S : M) (nd : Nat → Bool) (kd : Nat → Nat) (rc : Nat → Nat → Bool) (n : Nat) (ops : Array Oper) : Nat → List Nat → Env → (Env → M) → M
  | 0, _, e, K => K e
  | f + 1, l, e, K =>
    match l.find? (fun i => !Nat.beq (kd i) 2 && rdyB rc i l) with
    | some i => match ops[i]? with
      | some o => vcOp P ω (pnAt pn e) (some S) (nd i) (e.ev n) o.op (fun v => vcG pn S nd kd rc n ops f (l.erase i) (e.upd o.dst v) K)
      | none => F
    | none => AllM ((l.filter fun k => rdyB rc k l).map fun k => match ops[k]? with
      | some o => vcOp P ω (pnAt pn e) (some S) (nd k) (e.ev n) o.op (fun v => vcG pn S nd kd rc n ops f (l.erase k) (e.upd o.dst v) K)
      | none => F)
def genB (ops : Array Oper) : Bool :=
  Region.noSelect ops &&
  (List.range ops.size).all fun i => match ops[i]? with
    | none => false
    | some oi =>
      oi.guard.isNone &&
      (oi.after.all fun e => !Region.binds .any e || Nat.blt e.on i) &&
      (List.range i).all fun j => match ops[j]? with
        | none => false
        | some oj => reach ops ops.size i j || (oj.apart ops oi && oi.apart ops oj)
def panB (ops : Array Oper) : Bool := (List.range ops.size).all fun i => (List.range i).all fun j => Nat.beq (kindAt P ops i) 2 || !Nat.beq (kindAt P ops j) 2 || reach ops ops.size i j
def vcDraw (pn : Pnf) (n : Nat) (ops : Array Oper) (e : Env) (K : Env → M) : M :=
  if serialB P ops && (pn.isNone || panB P ops) then Draw (fun S => vcList P ω pn (some S) (needAt P ops) n ops 0 [] ops.toList e K)
  else if genB ops then Draw (fun S => vcG P ω pn S (needAt P ops) (kindAt P ops) (fun i j => reach ops ops.size i j) n ops ops.size (List.range ops.size) e K) else F
/-! ### Code -/
def asgOps : List Oper → List Nat
  | [] => []
  | o :: l => match o.dst with
    | some d => d :: asgOps l
    | none => asgOps l
def asg : Code → List Nat
  | .region _ ops _ => asgOps ops.toList
  | .seq a b => asg a ++ asg b
  | .cond _ a b => asg a ++ asg b
  | .block _ c => asg c
  | .loop c => asg c
  | .scope c => asg c
  | _ => []
def plainOps : List Oper → Bool
  | [] => true
  | o :: l => (match o.op with
    | .defer _ => false
    | _ => true) && plainOps l
def plainB : Code → Bool
  | .region _ ops _ => plainOps ops.toList
  | .seq a b => plainB a && plainB b
  | .cond _ a b => plainB a && plainB b
  | .block _ c => plainB c
  | .loop c => plainB c
  | .scope c => plainB c
  | .rangeFunc _ _ _ _ => false
  | _ => true
def exits : Code → List Nat
  | .exit id => [id]
  | .seq a b => exits a ++ exits b
  | .cond _ a b => exits a ++ exits b
  | .block id c => (exits c).filter fun i => !Nat.beq i id
  | .loop c => exits c
  | .scope c => exits c
  | _ => []
def memB (t : Nat) : List Nat → Bool
  | [] => false
  | x :: xs => Nat.beq t x || memB t xs
def Tup : List Nat → Type
  | [] => Unit
  | _ :: ss => Value × Tup ss
def getT (e : Env) : (ss : List Nat) → Option (Tup ss)
  | [] => some ()
  | s :: ss => match e.t s with
    | none => none
    | some v => match getT e ss with
      | none => none
      | some r => some (v, r)
def setT (e : Env) : (ss : List Nat) → Tup ss → Env
  | [], _ => e
  | s :: ss, r => (setT e ss r.2).upd (some s) r.1
def clr (e : Env) (l : List Nat) : Env := ⟨fun t => if memB t l then none else e.t t, e.df⟩
def carried (n : Nat) (l : List Nat) (e : Env) : List Nat := (List.range n).filter fun t => memB t l && (e.t t).isSome
def onT {ss : List Nat} (r : Option (Tup ss)) (K : Tup ss → M) : M := match r with
  | some s => K s
  | none => F
def Lp (n : Nat) (l : List Nat) (e : Env) (B : Env → (Env → M) → M) : M :=
  onT (getT e (carried n l e)) fun s0 => LoopM s0 (fun s Kn => B (setT (clr e l) (carried n l e) s) (fun e' => onT (getT e' (carried n l e)) Kn))
/-! A range over a function: the loop's record, its rounds -/
abbrev LoF := LoopState → Option Code → Obj
def BegR (l : Nat) (Lo : LoF) (A : M) : M := fun I L => ∃ L1 L2, L = L1 ++ (l, Lo .ready none) :: L2 ∧ A I (L1 ++ (l, Lo .busy none) :: L2)
def EndR (l : Nat) (Lo : LoF) (j : Option Code) (K : Value → M) : M := fun I L => ∃ L1 L2, L = L1 ++ (l, Lo .busy none) :: L2 ∧ K (.bool j.isNone) I (L1 ++ (l, Lo (if j.isNone then .ready else .done) j) :: L2)
abbrev RB := (M → M) → M → (Nat → M) → M → M
def YldM (l : Nat) (Lo : LoF) (B : RB) (K : Value → M) : M := fun I L => (∃ L1 L2, L = L1 ++ (l, Lo .ready none) :: L2) ∧ B (BegR l Lo) (EndR l Lo none K) (fun id => EndR l Lo (some (.exit id)) K) (EndR l Lo (some .ret) K) I L
def asL : List (Nat × M) → Nat → M
  | [], _ => F
  | (i, A) :: r, id => if Nat.beq i id then A else asL r id
def jumpM (Kn : M) (Xs : List (Nat × M)) (Rr : M) : Option Code → M
  | none => Kn
  | some (.exit id) => asL Xs id
  | some .ret => Rr
  | some _ => F
def EndL (l : Nat) (Lo : LoF) (J : Option Code → M) : M := fun I L => ∃ L1 L2 s j, s ≠ LoopState.busy ∧ L = L1 ++ (l, Lo s j) :: L2 ∧ J j I (L1 ++ L2)
def RngM (fv : Value) (k : Nat) (B : List Value → RB) (Kn : Nat → M) (Xs : Nat → List (Nat × M)) (Rr : Nat → M) : M := match fv with
  | .func (.func f) first cap => if entersB P f then (fun I L => ∀ (l D : Nat) (Lo : LoF), (∀ s j s' j', Lo s j = Lo s' j' → s = s' ∧ j = j') →
      (∀ vs K' I' L', vs.length = k → YldM l Lo (B vs) K' I' L' → CalV P ω (.func (.yield l) #[] #[]) vs.toArray K' I' L') →
      Cal P ω f (first ++ #[.func (.yield l) #[] #[]] ++ cap) (fun _ => Gh (EndL l Lo (jumpM (Kn D) (Xs D) (Rr D)))) I ((l, Lo .ready none) :: (D, .deferred (some [])) :: L)) else F
  | _ => F
def RngF0 (fv : Value) (B : RB) := RngM P ω fv 0 (fun vs => match vs with
  | [] => B
  | _ => fun _ _ _ _ => F)
def RngF1 (fv : Value) (B : Value → RB) := RngM P ω fv 1 (fun vs => match vs with
  | [a] => B a
  | _ => fun _ _ _ _ => F)
def RngF2 (fv : Value) (B : Value → Value → RB) := RngM P ω fv 2 (fun vs => match vs with
  | [a, b] => B a b
  | _ => fun _ _ _ _ => F)
def Env.df' (e : Env) (d : List Df) : Env := ⟨e.t, d⟩
def vc (pn : Pnf) (n : Nat) : Code → (Env → M) → (Nat → Env → M) → (Env → M) → Env → M
  | .skip, K, _, _, e => K e
  | .label _, K, _, _, e => K e
  | .region _ ops false, K, _, _, e => vcList P ω pn none (fun _ => false) n ops 0 [] ops.toList e K
  | .region _ ops true, K, _, _, e => vcDraw P ω pn n ops e K
  | .seq a b, K, X, R, e => vc pn n a (fun e' => vc pn n b K X R e') X R e
  | .cond c t f, K, X, R, e => match e.ev n c with
    | some v => Br v (vc pn n t K X R e) (vc pn n f K X R e)
    | none => F
  | .block id c, K, X, R, e => vc pn n c K (fun i => if Nat.beq i id then K else X i) R e
  | .loop c, _, X, R, e => if plainB c then Lp n (asg c) e (fun e' Kn => vc pn n c Kn X R e') else F
  | .exit id, _, X, _, e => X id e
  | .ret, _, _, R, e => R e
  | .rangeFunc f ps x y, K, X, R, e => match e.ev n f with
    | none => F
    | some fv => if plainB x && plainB y then
      (let B : Env → RB := fun e' Bg Nk Xk Rk => vc none n x (fun e2 => Bg (vc none n y (fun _ => Nk) (fun id _ => Xk id) (fun _ => Rk) e2)) (fun _ _ => F) (fun _ => F) (e'.df' [])
       let Kn : Nat → M := fun D => K (e.df' (.col D :: e.df))
       let Xs : Nat → List (Nat × M) := fun D => (exits y).map fun id => (id, X id (e.df' (.col D :: e.df)))
       let Rr : Nat → M := fun D => R (e.df' (.col D :: e.df))
       match ps.toList with
       | [] => RngF0 P ω fv (B e) Kn Xs Rr
       | [p] => RngF1 P ω fv (fun a => B (e.upd (some p) a)) Kn Xs Rr
       | [p, q] => RngF2 P ω fv (fun a b => B ((e.upd (some p) a).upd (some q) b)) Kn Xs Rr
       | _ => F) else F
  | _, _, _, _, _ => F
def vcRes (n : Nat) (e : Env) : List ResultVar → (List Value → M) → M
  | [], K => K []
  | .tmp t :: rs, K => match e.ev n (.tmp t) with
    | some v => vcRes n e rs (fun vs => K (v :: vs))
    | none => F
  | .cell t T :: rs, K => match e.ev n (.tmp t), tinfo P T, P.underlying T with
    | some x, some (m, _, _), some _ => if isAggB P T then Rv none (ldNR m x) (fun v => vcRes n e rs (fun vs => K (v :: vs))) else Rv none (ld1R x) (fun v => vcRes n e rs (fun vs => K (v :: vs)))
    | _, _, _ => F
def resV : List Value → Value
  | [v] => v
  | vs => .tuple vs.toArray
def Tak (D : Nat) (A : M) : M := fun I L => ∃ L1 L2, L = L1 ++ (D, .deferred (some [])) :: L2 ∧ A I (L1 ++ L2)
def fin : List Df → M → M
  | [], A => A
  | .col D :: r, A => Tak D (fin r A)
  | .fn _ _ _ :: _, _ => F
def vcF' (pn : Pnf) (fn : Func) (args : List Value) (K : Value → M) : M := match fn.body with
  | none => F
  | some c => if Nat.ble args.length fn.ntmps then
      vc P ω pn fn.ntmps c (fun e => fin e.df (vcRes P fn.ntmps e fn.results.toList (fun vs => K (resV vs)))) (fun _ _ => F)
        (fun e => fin e.df (vcRes P fn.ntmps e fn.results.toList (fun vs => K (resV vs)))) ⟨fun t => args[t]?, []⟩ else F
def vcF (fn : Func) (args : List Value) (K : Value → M) : M := vcF' P ω none fn args K
end
end Go.SL
