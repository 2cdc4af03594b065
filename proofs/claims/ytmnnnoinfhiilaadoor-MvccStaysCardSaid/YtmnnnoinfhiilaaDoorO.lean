/-
  A space is written: a key's cell, a key forgotten, an intent put.
-/
-- S3
import Derived.Test.YtmnnnoinfhiilaaDoorN
set_option linter.unusedSimpArgs false
set_option linter.unusedVariables false
namespace Go.Proofs.YtmnnnoinfhiilaaDoor
open Go.SL
set_option maxRecDepth 10000
section
variable {ω : Om} {I : Imm} {L : LH} {K : Value → M}
structure SpX (I : Imm) (b : Nat) (ps : List Nat) (R : LH) (A : List Row) (k : List UInt8) (B : List Row) (fl : TStamp) (nt : Nts) (p : Nat) : Prop where
  close : ∀ (r : Row) (sl : Value) (Y X : LH), r.key = k → VsO Y sl r.vs → X.Perm ((p, cellO sl r.it) :: (Y ++ R)) → SpP I b ps X ⟨A ++ r :: B, fl⟩ nt
theorem SpX.mono {I' : Imm} {b : Nat} {ps : List Nat} {R : LH} {A B : List Row} {k : List UInt8} {fl : TStamp} {nt : Nts} {p : Nat} (h : SpX I b ps R A k B fl nt p) (hI : Ext I I') : SpX I' b ps R A k B fl nt p :=
  ⟨fun r sl Y X h1 h2 h3 => (h.close r sl Y X h1 h2 h3).mono hI⟩
end
end Go.Proofs.YtmnnnoinfhiilaaDoor
