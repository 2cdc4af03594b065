/-
  The document's space is read: a span, what has changed.
-/
-- S3
import Derived.Test.YtmnnnoinfhiilaaDoorW
set_option linter.unusedSimpArgs false
set_option linter.unusedVariables false
namespace Go.Proofs.YtmnnnoinfhiilaaDoor
open Go.SL
set_option maxRecDepth 10000
section
variable {ω : Om} {I : Imm} {L : LH} {K : Value → M}
theorem inR_cons (p : TSpan) (r : Row) (rs : List Row) : inR p (r :: rs) = if inB p r.key = true then r :: inR p rs else inR p rs := by
  unfold inR; rw [List.filter_cons]
theorem rowOf_at {rows : List Row} (hs : SrtK (keysOf rows)) {i : Nat} (hi : i < rows.length) : rowOf rows rows[i].key = some rows[i] := by
  have e := split_at hi
  generalize rows[i] = r at e ⊢
  have hm : Mid (rows.take i) r.key (rows.drop (i + 1)) := SrtK.mid (e ▸ hs)
  conv => lhs; rw [e]
  exact rowOf_mid hm rfl
/-! ### What has changed -/
end
end Go.Proofs.YtmnnnoinfhiilaaDoor
