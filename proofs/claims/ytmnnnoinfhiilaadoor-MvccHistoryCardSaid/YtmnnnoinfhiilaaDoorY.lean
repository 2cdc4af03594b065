/-
  The document's space is written: an intent is set, put.
-/
-- S3
import Derived.Test.YtmnnnoinfhiilaaDoorX
set_option linter.unusedSimpArgs false
set_option linter.unusedVariables false
namespace Go.Proofs.YtmnnnoinfhiilaaDoor
open Go.SL
set_option maxRecDepth 10000
section
variable {ω : Om} {I : Imm} {L : LH} {K : Value → M}
theorem rec_appG {α : Type} {R : Imm → α → List Value → Prop} {T n bytes : Nat} {z : Array Value} {X6 L0 F : LH} {v : Value} {xs : List α} {x : α} {c cells : List Value} [SplitL X6 L0 F] (hz : z.size = n) (hn : 0 < n) (h6 : SlO T n X6 v cells xs.length) (hR : Recs (R I) n xs cells) (hx : R I x c) (hcl : c.length = n) (h1 : ∀ u ∈ c, u.oneCell' = true) (hb : (xs.length + 1) * bytes ≤ 150000000000000) (hl : xs.length + 1 ≤ 150000000000000)
    (hk : ∀ X1 X6' v' cells', SlO T n X6' v' cells' (xs ++ [x]).length → Recs (R I) n (xs ++ [x]) cells' → Gh (K v') I (X6' ++ (X1 ++ F))) :
    BldS T n z 1 [(0, .agg c.toArray)] (gh fun u => App T n bytes z v u (gh K)) I L0 := by
  refine bld_one hz hn (by simpa [Value.cells] using hcl) (fun X1 u hX1 => ?_)
  refine app_ownG (X := X6) hz h6 (hX1.news (fun x hx => List.mem_append_left _ hx)) (fun u hu => h1 u (by simpa [Value.cells] using hu)) hb hl (fun X' v' hX' => ?_)
  exact hk X1 X' v' _ (by simpa [Value.cells] using hX') (Recs.append hR (Recs.one (by simpa [Value.cells] using hcl) (by simpa [Value.cells] using hx)))
abbrev refO (vV vI : Value) (fl : TStamp) : Obj := .cells #[vV, vI, .int .i64 fl.fWall, .int .i64 fl.fLogic] 57 (0, 0)
end
end Go.Proofs.YtmnnnoinfhiilaaDoor
