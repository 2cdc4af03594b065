/-
  NARROWER THAN 'FOR EVERY INPUT', by the rows' own cells (each row's printed sentence says how): MvccHistory: laid · MvccStays: laid · MvccRefreshes: laid · MvccScripts: laid.
  DERIVED. THE GIVEN ROWS OF THIS SEAT. 4 by the template 'for every input the law returns true; each argument reads behind the call as it read before'; 0 by the template 'total and deterministic' (their statements: YtmnnnoinfhiilaaDoorTotals.lean).
  GIVEN WITH THE SEED: the statements are not yours to turn. If you find one false, say at which input.
  Laid BY PROGRAM, IN A SANDBOX (cutbox-rows.mjs): the forced cells as the released guide's own fill.sh prints them over the translation ad627060afc88f3d… (all of the seat's roots in one cut). By AI agents, Wed Nov 11 2026. No macro, syntax, notation, axiom, sorry.
-/
import Derived.Test.YtmnnnoinfhiilaaDoorChecked
import GoSem.PinnedTables
import GoSem.Claim
import GoSem.ClaimJoined
import GoSem.ClaimMapViews
import Derived.JoinedTies
import Derived.KernelRfl
namespace Go.Proofs.YtmnnnoinfhiilaaDoor
/- THE CELL 'sum', in the pinned program and in every row, IS THE sha256 OF THE DUMP (.gsa) THAT YtmnnnoinfhiilaaDoorProg.lean LOADS. Nothing in Lean hashes anything: it is a label: what it is worth is what the hold of that sum in a sandbox is worth. -/
noncomputable def Tryd.pinned : Pinned := { name := "ytmnnnoinfhiilaadoor", sum := "ad627060afc88f3d1ed9b085e2657a659b7ba655ee0ea4f59b217753f29917c3", checked := Tryd.checked }
namespace Rows
def none {H : Type} : Left H := { results := [], args := [] }

/- WHAT THE LISTED PACKAGE-LEVEL VARIABLES READ AS WHEN THE CALL BEGINS. Each datum BY PROGRAM (the guide's laid-datum.mjs) off the statement by which the dump's own 'gosem.cut.vars' lays the variable. In a bare row this is a premise. The card (YtmnnnoinfhiilaaDoorCards.lean) ties it to the program's text. -/
def laid_unicode_utf8_acceptRanges {H : Type} : DataW H := .agg [.agg [.lit (.int .u8 128), .lit (.int .u8 191)], .agg [.lit (.int .u8 160), .lit (.int .u8 191)], .agg [.lit (.int .u8 128), .lit (.int .u8 159)], .agg [.lit (.int .u8 144), .lit (.int .u8 191)], .agg [.lit (.int .u8 128), .lit (.int .u8 143)], .agg [.lit (.int .u8 0), .lit (.int .u8 0)], .agg [.lit (.int .u8 0), .lit (.int .u8 0)], .agg [.lit (.int .u8 0), .lit (.int .u8 0)], .agg [.lit (.int .u8 0), .lit (.int .u8 0)], .agg [.lit (.int .u8 0), .lit (.int .u8 0)], .agg [.lit (.int .u8 0), .lit (.int .u8 0)], .agg [.lit (.int .u8 0), .lit (.int .u8 0)], .agg [.lit (.int .u8 0), .lit (.int .u8 0)], .agg [.lit (.int .u8 0), .lit (.int .u8 0)], .agg [.lit (.int .u8 0), .lit (.int .u8 0)], .agg [.lit (.int .u8 0), .lit (.int .u8 0)]]
/-- One of Go's own tables, pinned by name: the form's constant. -/
def laid_unicode_utf8_first : DataW Unit := Go.Pinned.utf8First

/-- 'cormorantlaw13.MvccHistory': WHATEVER THE INPUT: true; the input reads as it did. -/
def mvccHistorySpec : ChangeSpec := { name := "mvccHistory", fn := fun _ => fun
  | [d1, d2] => { results := [.lit (.bool true)], args := [d1, d2] }
  | _ => none }
def mvccHistoryRow : OpenClaim := { program := "ytmnnnoinfhiilaadoor", sum := "ad627060afc88f3d1ed9b085e2657a659b7ba655ee0ea4f59b217753f29917c3", func := "cormorant/cormorantlaw13.MvccHistory", spec := "mvccHistory", inPlace := ["slices.overlaps[string]", "internal/bytealg.Count", "internal/bytealg.IndexByte", "internal/bytealg.Index"], unfollowed := true, recurses := true, named := ["internal/bytealg.MaxLen", "unicode/utf8.first", "unicode/utf8.acceptRanges"], apart := false, laid := [("unicode/utf8.acceptRanges", laid_unicode_utf8_acceptRanges), ("unicode/utf8.first", laid_unicode_utf8_first)] }
def MvccHistorySaid : Prop := mvccHistoryRow.holds Tryd.pinned (OpenSpec.ofChange mvccHistorySpec)

/-- ITS FALSE NEIGHBOUR: 'it returns false'. Refute it at one input. -/
def mvccHistoryWrong : ChangeSpec := { name := "mvccHistory", fn := fun _ => fun
  | [d1, d2] => { results := [.lit (.bool false)], args := [d1, d2] }
  | _ => none }
def MvccHistoryWrongFalsely : Prop := mvccHistoryRow.holds Tryd.pinned (OpenSpec.ofChange mvccHistoryWrong)

/-- 'cormorantlaw13.MvccStays': WHATEVER THE INPUT: true; the input reads as it did. -/
def mvccStaysSpec : ChangeSpec := { name := "mvccStays", fn := fun _ => fun
  | [d1, d2, d3] => { results := [.lit (.bool true)], args := [d1, d2, d3] }
  | _ => none }
def mvccStaysRow : OpenClaim := { program := "ytmnnnoinfhiilaadoor", sum := "ad627060afc88f3d1ed9b085e2657a659b7ba655ee0ea4f59b217753f29917c3", func := "cormorant/cormorantlaw13.MvccStays", spec := "mvccStays", inPlace := ["slices.overlaps[string]", "internal/bytealg.Count", "internal/bytealg.IndexByte", "internal/bytealg.Index"], unfollowed := true, recurses := true, named := ["internal/bytealg.MaxLen", "unicode/utf8.first", "unicode/utf8.acceptRanges"], apart := false, laid := [("unicode/utf8.acceptRanges", laid_unicode_utf8_acceptRanges), ("unicode/utf8.first", laid_unicode_utf8_first)] }
def MvccStaysSaid : Prop := mvccStaysRow.holds Tryd.pinned (OpenSpec.ofChange mvccStaysSpec)

/-- ITS FALSE NEIGHBOUR: 'it returns false'. Refute it at one input. -/
def mvccStaysWrong : ChangeSpec := { name := "mvccStays", fn := fun _ => fun
  | [d1, d2, d3] => { results := [.lit (.bool false)], args := [d1, d2, d3] }
  | _ => none }
def MvccStaysWrongFalsely : Prop := mvccStaysRow.holds Tryd.pinned (OpenSpec.ofChange mvccStaysWrong)

/-- 'cormorantlaw13.MvccRefreshes': WHATEVER THE INPUT: true; the input reads as it did. -/
def mvccRefreshesSpec : ChangeSpec := { name := "mvccRefreshes", fn := fun _ => fun
  | [d1, d2] => { results := [.lit (.bool true)], args := [d1, d2] }
  | _ => none }
def mvccRefreshesRow : OpenClaim := { program := "ytmnnnoinfhiilaadoor", sum := "ad627060afc88f3d1ed9b085e2657a659b7ba655ee0ea4f59b217753f29917c3", func := "cormorant/cormorantlaw13.MvccRefreshes", spec := "mvccRefreshes", inPlace := ["slices.overlaps[string]", "internal/bytealg.Count", "internal/bytealg.IndexByte", "internal/bytealg.Index"], unfollowed := true, recurses := true, named := ["internal/bytealg.MaxLen", "unicode/utf8.first", "unicode/utf8.acceptRanges"], apart := false, laid := [("unicode/utf8.acceptRanges", laid_unicode_utf8_acceptRanges), ("unicode/utf8.first", laid_unicode_utf8_first)] }
def MvccRefreshesSaid : Prop := mvccRefreshesRow.holds Tryd.pinned (OpenSpec.ofChange mvccRefreshesSpec)

/-- ITS FALSE NEIGHBOUR: 'it returns false'. Refute it at one input. -/
def mvccRefreshesWrong : ChangeSpec := { name := "mvccRefreshes", fn := fun _ => fun
  | [d1, d2] => { results := [.lit (.bool false)], args := [d1, d2] }
  | _ => none }
def MvccRefreshesWrongFalsely : Prop := mvccRefreshesRow.holds Tryd.pinned (OpenSpec.ofChange mvccRefreshesWrong)

/-- 'cormorantlaw13.MvccScripts': WHATEVER THE INPUT: true; the input reads as it did. -/
def mvccScriptsSpec : ChangeSpec := { name := "mvccScripts", fn := fun _ => fun
  | [d] => { results := [.lit (.bool true)], args := [d] }
  | _ => none }
def mvccScriptsRow : OpenClaim := { program := "ytmnnnoinfhiilaadoor", sum := "ad627060afc88f3d1ed9b085e2657a659b7ba655ee0ea4f59b217753f29917c3", func := "cormorant/cormorantlaw13.MvccScripts", spec := "mvccScripts", inPlace := ["slices.overlaps[string]", "internal/bytealg.Count", "internal/bytealg.IndexByte", "internal/bytealg.Index"], unfollowed := true, recurses := true, named := ["internal/bytealg.MaxLen", "unicode/utf8.first", "unicode/utf8.acceptRanges"], apart := false, laid := [("unicode/utf8.acceptRanges", laid_unicode_utf8_acceptRanges), ("unicode/utf8.first", laid_unicode_utf8_first)] }
def MvccScriptsSaid : Prop := mvccScriptsRow.holds Tryd.pinned (OpenSpec.ofChange mvccScriptsSpec)

/-- ITS FALSE NEIGHBOUR: 'it returns false'. Refute it at one input. -/
def mvccScriptsWrong : ChangeSpec := { name := "mvccScripts", fn := fun _ => fun
  | [d] => { results := [.lit (.bool false)], args := [d] }
  | _ => none }
def MvccScriptsWrongFalsely : Prop := mvccScriptsRow.holds Tryd.pinned (OpenSpec.ofChange mvccScriptsWrong)

/- THE SECOND FORM. 'bulk': how many values and letters a reading holds, each counted each time it is reached (what is shared counts as often as it is met; a slice's spare places count too). A statement '..UptoSaid' is the law's where the arguments, and the package variables that the reading takes, are together of bulk at most 1048576: NARROWER than '..Said'. Prove '..Said' where nothing that the law and all that it calls make is longer than what came in: it says more and counts as full. Else prove '..UptoSaid'. A law counts once. -/
mutual
def uptoBulk {H : Type} : DataW H → Nat
  | .lit (.string bytes) => bytes.length + 1
  | .lit _ => 1
  | .nil => 1
  | .ptr d => uptoBulk d + 1
  | .slice elems spare => uptoBulkAll elems + uptoBulkAll spare + 1
  | .agg parts => uptoBulkAll parts + 1
  | .iface _ d => uptoBulk d + 1
  | .map entries => uptoBulkEntries entries + 1
  | .held _ => 1
def uptoBulkAll {H : Type} : List (DataW H) → Nat
  | [] => 0
  | d :: r => uptoBulk d + uptoBulkAll r
def uptoBulkEntries {H : Type} : List (Lit × DataW H) → Nat
  | [] => 0
  | x :: r => uptoBulkEntry x + uptoBulkEntries r
def uptoBulkEntry {H : Type} : Lit × DataW H → Nat
  | (.string bytes, d) => bytes.length + uptoBulk d + 1
  | (_, d) => uptoBulk d + 1
 end
def uptoSmall : (H : Type) → List (DataW H) → Bool := fun _ ds => decide (uptoBulkAll ds ≤ 1048576)
def OpenSpec.upto (s : _root_.Go.ChangeSpec) : _root_.Go.OpenSpec := { _root_.Go.OpenSpec.ofChange s with cond := some uptoSmall }

/-- 'cormorantlaw13.MvccHistory', WHERE WHAT IT READS IS OF BULK AT MOST 1048576: true; the input reads as it did. -/
def mvccHistoryUptoRow : OpenClaim := { program := "ytmnnnoinfhiilaadoor", sum := "ad627060afc88f3d1ed9b085e2657a659b7ba655ee0ea4f59b217753f29917c3", func := "cormorant/cormorantlaw13.MvccHistory", spec := "mvccHistory", inPlace := ["slices.overlaps[string]", "internal/bytealg.Count", "internal/bytealg.IndexByte", "internal/bytealg.Index"], unfollowed := true, recurses := true, named := ["internal/bytealg.MaxLen", "unicode/utf8.first", "unicode/utf8.acceptRanges"], apart := false, laid := [("unicode/utf8.acceptRanges", laid_unicode_utf8_acceptRanges), ("unicode/utf8.first", laid_unicode_utf8_first)], narrowed := true }
def MvccHistoryUptoSaid : Prop := mvccHistoryUptoRow.holds Tryd.pinned (OpenSpec.upto mvccHistorySpec)

/-- 'cormorantlaw13.MvccStays', WHERE WHAT IT READS IS OF BULK AT MOST 1048576: true; the input reads as it did. -/
def mvccStaysUptoRow : OpenClaim := { program := "ytmnnnoinfhiilaadoor", sum := "ad627060afc88f3d1ed9b085e2657a659b7ba655ee0ea4f59b217753f29917c3", func := "cormorant/cormorantlaw13.MvccStays", spec := "mvccStays", inPlace := ["slices.overlaps[string]", "internal/bytealg.Count", "internal/bytealg.IndexByte", "internal/bytealg.Index"], unfollowed := true, recurses := true, named := ["internal/bytealg.MaxLen", "unicode/utf8.first", "unicode/utf8.acceptRanges"], apart := false, laid := [("unicode/utf8.acceptRanges", laid_unicode_utf8_acceptRanges), ("unicode/utf8.first", laid_unicode_utf8_first)], narrowed := true }
def MvccStaysUptoSaid : Prop := mvccStaysUptoRow.holds Tryd.pinned (OpenSpec.upto mvccStaysSpec)

/-- 'cormorantlaw13.MvccRefreshes', WHERE WHAT IT READS IS OF BULK AT MOST 1048576: true; the input reads as it did. -/
def mvccRefreshesUptoRow : OpenClaim := { program := "ytmnnnoinfhiilaadoor", sum := "ad627060afc88f3d1ed9b085e2657a659b7ba655ee0ea4f59b217753f29917c3", func := "cormorant/cormorantlaw13.MvccRefreshes", spec := "mvccRefreshes", inPlace := ["slices.overlaps[string]", "internal/bytealg.Count", "internal/bytealg.IndexByte", "internal/bytealg.Index"], unfollowed := true, recurses := true, named := ["internal/bytealg.MaxLen", "unicode/utf8.first", "unicode/utf8.acceptRanges"], apart := false, laid := [("unicode/utf8.acceptRanges", laid_unicode_utf8_acceptRanges), ("unicode/utf8.first", laid_unicode_utf8_first)], narrowed := true }
def MvccRefreshesUptoSaid : Prop := mvccRefreshesUptoRow.holds Tryd.pinned (OpenSpec.upto mvccRefreshesSpec)

/-- 'cormorantlaw13.MvccScripts', WHERE WHAT IT READS IS OF BULK AT MOST 1048576: true; the input reads as it did. -/
def mvccScriptsUptoRow : OpenClaim := { program := "ytmnnnoinfhiilaadoor", sum := "ad627060afc88f3d1ed9b085e2657a659b7ba655ee0ea4f59b217753f29917c3", func := "cormorant/cormorantlaw13.MvccScripts", spec := "mvccScripts", inPlace := ["slices.overlaps[string]", "internal/bytealg.Count", "internal/bytealg.IndexByte", "internal/bytealg.Index"], unfollowed := true, recurses := true, named := ["internal/bytealg.MaxLen", "unicode/utf8.first", "unicode/utf8.acceptRanges"], apart := false, laid := [("unicode/utf8.acceptRanges", laid_unicode_utf8_acceptRanges), ("unicode/utf8.first", laid_unicode_utf8_first)], narrowed := true }
def MvccScriptsUptoSaid : Prop := mvccScriptsUptoRow.holds Tryd.pinned (OpenSpec.upto mvccScriptsSpec)

end Rows
end Go.Proofs.YtmnnnoinfhiilaaDoor
