/-
  NARROWER THAN 'FOR EVERY INPUT', by the rows' own cells (each row's printed sentence says how): ReplicaSerial: laid · ReplicaScripts: laid · ReplicaWrites: laid · ReplicaAnswers: laid · ReplicaReads: laid · ReplicaTwice: laid · ReplicaAlike: laid.
  DERIVED. THE GIVEN ROWS OF THIS SEAT. 7 by the template 'for every input the law returns true; each argument reads behind the call as it read before'; 0 by the template 'total and deterministic' (their statements: YtmmfcgbfbcamcaaGreatDoorTotals.lean).
  GIVEN WITH THE SEED: the statements are not yours to turn. If you find one false, say at which input.
  Laid BY PROGRAM, IN A SANDBOX (cutbox-rows.mjs): the forced cells as the released guide's own fill.sh prints them over the translation 155ee24ed433332c… (all of the seat's roots in one cut). By AI agents, Wed Nov 11 2026. No macro, syntax, notation, axiom, sorry.
-/
import Derived.Test.YtmmfcgbfbcamcaaGreatDoorChecked
import GoSem.PinnedTables
import GoSem.Claim
import GoSem.ClaimJoined
import GoSem.ClaimMapViews
import Derived.JoinedTies
import Derived.KernelRfl
namespace Go.Proofs.YtmmfcgbfbcamcaaGreatDoor
/- THE CELL 'sum', in the pinned program and in every row, IS THE sha256 OF THE DUMP (.gsa) THAT YtmmfcgbfbcamcaaGreatDoorProg.lean LOADS. Nothing in Lean hashes anything: it is a label: what it is worth is what the hold of that sum in a sandbox is worth. -/
noncomputable def Tryz.pinned : Pinned := { name := "ytmmfcgbfbcamcaagreatdoor", sum := "155ee24ed433332c1b7c69a4d31f1215e08a1f93b39f7344195536d5125ddcf3", checked := Tryz.checked }
namespace Rows
def none {H : Type} : Left H := { results := [], args := [] }

/- WHAT THE LISTED PACKAGE-LEVEL VARIABLES READ AS WHEN THE CALL BEGINS. Each datum BY PROGRAM (the guide's laid-datum.mjs) off the statement by which the dump's own 'gosem.cut.vars' lays the variable. In a bare row this is a premise. The card (YtmmfcgbfbcamcaaGreatDoorCards.lean) ties it to the program's text. -/
def laid_unicode_utf8_acceptRanges {H : Type} : DataW H := .agg [.agg [.lit (.int .u8 128), .lit (.int .u8 191)], .agg [.lit (.int .u8 160), .lit (.int .u8 191)], .agg [.lit (.int .u8 128), .lit (.int .u8 159)], .agg [.lit (.int .u8 144), .lit (.int .u8 191)], .agg [.lit (.int .u8 128), .lit (.int .u8 143)], .agg [.lit (.int .u8 0), .lit (.int .u8 0)], .agg [.lit (.int .u8 0), .lit (.int .u8 0)], .agg [.lit (.int .u8 0), .lit (.int .u8 0)], .agg [.lit (.int .u8 0), .lit (.int .u8 0)], .agg [.lit (.int .u8 0), .lit (.int .u8 0)], .agg [.lit (.int .u8 0), .lit (.int .u8 0)], .agg [.lit (.int .u8 0), .lit (.int .u8 0)], .agg [.lit (.int .u8 0), .lit (.int .u8 0)], .agg [.lit (.int .u8 0), .lit (.int .u8 0)], .agg [.lit (.int .u8 0), .lit (.int .u8 0)], .agg [.lit (.int .u8 0), .lit (.int .u8 0)]]
/-- One of Go's own tables, pinned by name: the form's constant. -/
def laid_unicode_utf8_first : DataW Unit := Go.Pinned.utf8First

/-- 'cormorantlaw14.ReplicaSerial': WHATEVER THE INPUT: true; the input reads as it did. -/
def replicaSerialSpec : ChangeSpec := { name := "replicaSerial", fn := fun _ => fun
  | [d1, d2, d3] => { results := [.lit (.bool true)], args := [d1, d2, d3] }
  | _ => none }
def replicaSerialRow : OpenClaim := { program := "ytmmfcgbfbcamcaagreatdoor", sum := "155ee24ed433332c1b7c69a4d31f1215e08a1f93b39f7344195536d5125ddcf3", func := "cormorant/cormorantlaw14.ReplicaSerial", spec := "replicaSerial", inPlace := ["internal/bytealg.Compare", "slices.overlaps[string]", "internal/bytealg.Count", "internal/bytealg.IndexByte", "internal/bytealg.Index", "maps.clone"], unfollowed := true, recurses := true, named := ["internal/bytealg.MaxLen", "unicode/utf8.first", "unicode/utf8.acceptRanges"], apart := false, laid := [("unicode/utf8.acceptRanges", laid_unicode_utf8_acceptRanges), ("unicode/utf8.first", laid_unicode_utf8_first)] }
def ReplicaSerialSaid : Prop := replicaSerialRow.holds Tryz.pinned (OpenSpec.ofChange replicaSerialSpec)

/-- ITS FALSE NEIGHBOUR: 'it returns false'. Refute it at one input. -/
def replicaSerialWrong : ChangeSpec := { name := "replicaSerial", fn := fun _ => fun
  | [d1, d2, d3] => { results := [.lit (.bool false)], args := [d1, d2, d3] }
  | _ => none }
def ReplicaSerialWrongFalsely : Prop := replicaSerialRow.holds Tryz.pinned (OpenSpec.ofChange replicaSerialWrong)

/-- 'cormorantlaw14.ReplicaScripts': WHATEVER THE INPUT: true; the input reads as it did. -/
def replicaScriptsSpec : ChangeSpec := { name := "replicaScripts", fn := fun _ => fun
  | [d1, d2] => { results := [.lit (.bool true)], args := [d1, d2] }
  | _ => none }
def replicaScriptsRow : OpenClaim := { program := "ytmmfcgbfbcamcaagreatdoor", sum := "155ee24ed433332c1b7c69a4d31f1215e08a1f93b39f7344195536d5125ddcf3", func := "cormorant/cormorantlaw14.ReplicaScripts", spec := "replicaScripts", inPlace := ["internal/bytealg.Compare", "slices.overlaps[string]", "internal/bytealg.Count", "internal/bytealg.IndexByte", "internal/bytealg.Index", "maps.clone"], unfollowed := true, recurses := true, named := ["internal/bytealg.MaxLen", "unicode/utf8.first", "unicode/utf8.acceptRanges"], apart := false, laid := [("unicode/utf8.acceptRanges", laid_unicode_utf8_acceptRanges), ("unicode/utf8.first", laid_unicode_utf8_first)] }
def ReplicaScriptsSaid : Prop := replicaScriptsRow.holds Tryz.pinned (OpenSpec.ofChange replicaScriptsSpec)

/-- ITS FALSE NEIGHBOUR: 'it returns false'. Refute it at one input. -/
def replicaScriptsWrong : ChangeSpec := { name := "replicaScripts", fn := fun _ => fun
  | [d1, d2] => { results := [.lit (.bool false)], args := [d1, d2] }
  | _ => none }
def ReplicaScriptsWrongFalsely : Prop := replicaScriptsRow.holds Tryz.pinned (OpenSpec.ofChange replicaScriptsWrong)

/-- 'cormorantlaw14.ReplicaWrites': WHATEVER THE INPUT: true; the input reads as it did. -/
def replicaWritesSpec : ChangeSpec := { name := "replicaWrites", fn := fun _ => fun
  | [d] => { results := [.lit (.bool true)], args := [d] }
  | _ => none }
def replicaWritesRow : OpenClaim := { program := "ytmmfcgbfbcamcaagreatdoor", sum := "155ee24ed433332c1b7c69a4d31f1215e08a1f93b39f7344195536d5125ddcf3", func := "cormorant/cormorantlaw14.ReplicaWrites", spec := "replicaWrites", inPlace := ["internal/bytealg.Compare", "slices.overlaps[string]", "internal/bytealg.Count", "internal/bytealg.IndexByte", "internal/bytealg.Index", "maps.clone"], unfollowed := true, recurses := true, named := ["internal/bytealg.MaxLen", "unicode/utf8.first", "unicode/utf8.acceptRanges"], apart := false, laid := [("unicode/utf8.acceptRanges", laid_unicode_utf8_acceptRanges), ("unicode/utf8.first", laid_unicode_utf8_first)] }
def ReplicaWritesSaid : Prop := replicaWritesRow.holds Tryz.pinned (OpenSpec.ofChange replicaWritesSpec)

/-- ITS FALSE NEIGHBOUR: 'it returns false'. Refute it at one input. -/
def replicaWritesWrong : ChangeSpec := { name := "replicaWrites", fn := fun _ => fun
  | [d] => { results := [.lit (.bool false)], args := [d] }
  | _ => none }
def ReplicaWritesWrongFalsely : Prop := replicaWritesRow.holds Tryz.pinned (OpenSpec.ofChange replicaWritesWrong)

/-- 'cormorantlaw14.ReplicaAnswers': WHATEVER THE INPUT: true; the input reads as it did. -/
def replicaAnswersSpec : ChangeSpec := { name := "replicaAnswers", fn := fun _ => fun
  | [d] => { results := [.lit (.bool true)], args := [d] }
  | _ => none }
def replicaAnswersRow : OpenClaim := { program := "ytmmfcgbfbcamcaagreatdoor", sum := "155ee24ed433332c1b7c69a4d31f1215e08a1f93b39f7344195536d5125ddcf3", func := "cormorant/cormorantlaw14.ReplicaAnswers", spec := "replicaAnswers", inPlace := ["internal/bytealg.Compare", "slices.overlaps[string]", "internal/bytealg.Count", "internal/bytealg.IndexByte", "internal/bytealg.Index", "maps.clone"], unfollowed := true, recurses := true, named := ["internal/bytealg.MaxLen", "unicode/utf8.first", "unicode/utf8.acceptRanges"], apart := false, laid := [("unicode/utf8.acceptRanges", laid_unicode_utf8_acceptRanges), ("unicode/utf8.first", laid_unicode_utf8_first)] }
def ReplicaAnswersSaid : Prop := replicaAnswersRow.holds Tryz.pinned (OpenSpec.ofChange replicaAnswersSpec)

/-- ITS FALSE NEIGHBOUR: 'it returns false'. Refute it at one input. -/
def replicaAnswersWrong : ChangeSpec := { name := "replicaAnswers", fn := fun _ => fun
  | [d] => { results := [.lit (.bool false)], args := [d] }
  | _ => none }
def ReplicaAnswersWrongFalsely : Prop := replicaAnswersRow.holds Tryz.pinned (OpenSpec.ofChange replicaAnswersWrong)

/-- 'cormorantlaw14.ReplicaReads': WHATEVER THE INPUT: true; the input reads as it did. -/
def replicaReadsSpec : ChangeSpec := { name := "replicaReads", fn := fun _ => fun
  | [d] => { results := [.lit (.bool true)], args := [d] }
  | _ => none }
def replicaReadsRow : OpenClaim := { program := "ytmmfcgbfbcamcaagreatdoor", sum := "155ee24ed433332c1b7c69a4d31f1215e08a1f93b39f7344195536d5125ddcf3", func := "cormorant/cormorantlaw14.ReplicaReads", spec := "replicaReads", inPlace := ["internal/bytealg.Compare", "slices.overlaps[string]", "internal/bytealg.Count", "internal/bytealg.IndexByte", "internal/bytealg.Index", "maps.clone"], unfollowed := true, recurses := true, named := ["internal/bytealg.MaxLen", "unicode/utf8.first", "unicode/utf8.acceptRanges"], apart := false, laid := [("unicode/utf8.acceptRanges", laid_unicode_utf8_acceptRanges), ("unicode/utf8.first", laid_unicode_utf8_first)] }
def ReplicaReadsSaid : Prop := replicaReadsRow.holds Tryz.pinned (OpenSpec.ofChange replicaReadsSpec)

/-- ITS FALSE NEIGHBOUR: 'it returns false'. Refute it at one input. -/
def replicaReadsWrong : ChangeSpec := { name := "replicaReads", fn := fun _ => fun
  | [d] => { results := [.lit (.bool false)], args := [d] }
  | _ => none }
def ReplicaReadsWrongFalsely : Prop := replicaReadsRow.holds Tryz.pinned (OpenSpec.ofChange replicaReadsWrong)

/-- 'cormorantlaw14.ReplicaTwice': WHATEVER THE INPUT: true; the input reads as it did. -/
def replicaTwiceSpec : ChangeSpec := { name := "replicaTwice", fn := fun _ => fun
  | [d] => { results := [.lit (.bool true)], args := [d] }
  | _ => none }
def replicaTwiceRow : OpenClaim := { program := "ytmmfcgbfbcamcaagreatdoor", sum := "155ee24ed433332c1b7c69a4d31f1215e08a1f93b39f7344195536d5125ddcf3", func := "cormorant/cormorantlaw14.ReplicaTwice", spec := "replicaTwice", inPlace := ["internal/bytealg.Compare", "slices.overlaps[string]", "internal/bytealg.Count", "internal/bytealg.IndexByte", "internal/bytealg.Index", "maps.clone", "internal/bytealg.abigen_runtime_cmpstring"], unfollowed := true, recurses := true, named := ["internal/bytealg.MaxLen", "unicode/utf8.first", "unicode/utf8.acceptRanges"], apart := false, laid := [("unicode/utf8.acceptRanges", laid_unicode_utf8_acceptRanges), ("unicode/utf8.first", laid_unicode_utf8_first)] }
def ReplicaTwiceSaid : Prop := replicaTwiceRow.holds Tryz.pinned (OpenSpec.ofChange replicaTwiceSpec)

/-- ITS FALSE NEIGHBOUR: 'it returns false'. Refute it at one input. -/
def replicaTwiceWrong : ChangeSpec := { name := "replicaTwice", fn := fun _ => fun
  | [d] => { results := [.lit (.bool false)], args := [d] }
  | _ => none }
def ReplicaTwiceWrongFalsely : Prop := replicaTwiceRow.holds Tryz.pinned (OpenSpec.ofChange replicaTwiceWrong)

/-- 'cormorantlaw14.ReplicaAlike': WHATEVER THE INPUT: true; the input reads as it did. -/
def replicaAlikeSpec : ChangeSpec := { name := "replicaAlike", fn := fun _ => fun
  | [d1, d2, d3] => { results := [.lit (.bool true)], args := [d1, d2, d3] }
  | _ => none }
def replicaAlikeRow : OpenClaim := { program := "ytmmfcgbfbcamcaagreatdoor", sum := "155ee24ed433332c1b7c69a4d31f1215e08a1f93b39f7344195536d5125ddcf3", func := "cormorant/cormorantlaw14.ReplicaAlike", spec := "replicaAlike", inPlace := ["internal/bytealg.Compare", "slices.overlaps[string]", "internal/bytealg.Count", "internal/bytealg.IndexByte", "internal/bytealg.Index", "maps.clone", "internal/bytealg.abigen_runtime_cmpstring"], unfollowed := true, recurses := true, named := ["internal/bytealg.MaxLen", "unicode/utf8.first", "unicode/utf8.acceptRanges"], apart := false, laid := [("unicode/utf8.acceptRanges", laid_unicode_utf8_acceptRanges), ("unicode/utf8.first", laid_unicode_utf8_first)] }
def ReplicaAlikeSaid : Prop := replicaAlikeRow.holds Tryz.pinned (OpenSpec.ofChange replicaAlikeSpec)

/-- ITS FALSE NEIGHBOUR: 'it returns false'. Refute it at one input. -/
def replicaAlikeWrong : ChangeSpec := { name := "replicaAlike", fn := fun _ => fun
  | [d1, d2, d3] => { results := [.lit (.bool false)], args := [d1, d2, d3] }
  | _ => none }
def ReplicaAlikeWrongFalsely : Prop := replicaAlikeRow.holds Tryz.pinned (OpenSpec.ofChange replicaAlikeWrong)

/- THE SECOND FORM. 'bulk': how many values and letters a reading holds, each counted each time it is reached (what is shared counts as often as it is met; a slice's spare places count too). A statement '..UptoSaid' is the law's where the arguments, and the package variables that the reading takes, are together of bulk at most 1048576: NARROWER than '..Said'. Prove '..Said' where nothing that the law and all that it calls make is longer than what came in: it says more and counts as full. Else prove '..UptoSaid'. A law counts once. -/
mutual
def uptoBulk {H : Type} : DataW H → Nat
  | .lit (.string bytes) => bytes.length + 1
  | .lit _ => 1
  | .nil => 1
  | .ptr d => uptoBulk d + 1
  | .slice elems spare => uptoBulkAll elems + uptoBulkAll spare + 1
  | .agg parts => uptoBulkAll parts + 1
  | .iface _ d => uptoBulk d + 1
  | .map entries => uptoBulkEntries entries + 1
  | .held _ => 1
def uptoBulkAll {H : Type} : List (DataW H) → Nat
  | [] => 0
  | d :: r => uptoBulk d + uptoBulkAll r
def uptoBulkEntries {H : Type} : List (Lit × DataW H) → Nat
  | [] => 0
  | x :: r => uptoBulkEntry x + uptoBulkEntries r
def uptoBulkEntry {H : Type} : Lit × DataW H → Nat
  | (.string bytes, d) => bytes.length + uptoBulk d + 1
  | (_, d) => uptoBulk d + 1
 end
def uptoSmall : (H : Type) → List (DataW H) → Bool := fun _ ds => decide (uptoBulkAll ds ≤ 1048576)
def OpenSpec.upto (s : _root_.Go.ChangeSpec) : _root_.Go.OpenSpec := { _root_.Go.OpenSpec.ofChange s with cond := some uptoSmall }

/-- 'cormorantlaw14.ReplicaSerial', WHERE WHAT IT READS IS OF BULK AT MOST 1048576: true; the input reads as it did. -/
def replicaSerialUptoRow : OpenClaim := { program := "ytmmfcgbfbcamcaagreatdoor", sum := "155ee24ed433332c1b7c69a4d31f1215e08a1f93b39f7344195536d5125ddcf3", func := "cormorant/cormorantlaw14.ReplicaSerial", spec := "replicaSerial", inPlace := ["internal/bytealg.Compare", "slices.overlaps[string]", "internal/bytealg.Count", "internal/bytealg.IndexByte", "internal/bytealg.Index", "maps.clone"], unfollowed := true, recurses := true, named := ["internal/bytealg.MaxLen", "unicode/utf8.first", "unicode/utf8.acceptRanges"], apart := false, laid := [("unicode/utf8.acceptRanges", laid_unicode_utf8_acceptRanges), ("unicode/utf8.first", laid_unicode_utf8_first)], narrowed := true }
def ReplicaSerialUptoSaid : Prop := replicaSerialUptoRow.holds Tryz.pinned (OpenSpec.upto replicaSerialSpec)

/-- 'cormorantlaw14.ReplicaScripts', WHERE WHAT IT READS IS OF BULK AT MOST 1048576: true; the input reads as it did. -/
def replicaScriptsUptoRow : OpenClaim := { program := "ytmmfcgbfbcamcaagreatdoor", sum := "155ee24ed433332c1b7c69a4d31f1215e08a1f93b39f7344195536d5125ddcf3", func := "cormorant/cormorantlaw14.ReplicaScripts", spec := "replicaScripts", inPlace := ["internal/bytealg.Compare", "slices.overlaps[string]", "internal/bytealg.Count", "internal/bytealg.IndexByte", "internal/bytealg.Index", "maps.clone"], unfollowed := true, recurses := true, named := ["internal/bytealg.MaxLen", "unicode/utf8.first", "unicode/utf8.acceptRanges"], apart := false, laid := [("unicode/utf8.acceptRanges", laid_unicode_utf8_acceptRanges), ("unicode/utf8.first", laid_unicode_utf8_first)], narrowed := true }
def ReplicaScriptsUptoSaid : Prop := replicaScriptsUptoRow.holds Tryz.pinned (OpenSpec.upto replicaScriptsSpec)

/-- 'cormorantlaw14.ReplicaWrites', WHERE WHAT IT READS IS OF BULK AT MOST 1048576: true; the input reads as it did. -/
def replicaWritesUptoRow : OpenClaim := { program := "ytmmfcgbfbcamcaagreatdoor", sum := "155ee24ed433332c1b7c69a4d31f1215e08a1f93b39f7344195536d5125ddcf3", func := "cormorant/cormorantlaw14.ReplicaWrites", spec := "replicaWrites", inPlace := ["internal/bytealg.Compare", "slices.overlaps[string]", "internal/bytealg.Count", "internal/bytealg.IndexByte", "internal/bytealg.Index", "maps.clone"], unfollowed := true, recurses := true, named := ["internal/bytealg.MaxLen", "unicode/utf8.first", "unicode/utf8.acceptRanges"], apart := false, laid := [("unicode/utf8.acceptRanges", laid_unicode_utf8_acceptRanges), ("unicode/utf8.first", laid_unicode_utf8_first)], narrowed := true }
def ReplicaWritesUptoSaid : Prop := replicaWritesUptoRow.holds Tryz.pinned (OpenSpec.upto replicaWritesSpec)

/-- 'cormorantlaw14.ReplicaAnswers', WHERE WHAT IT READS IS OF BULK AT MOST 1048576: true; the input reads as it did. -/
def replicaAnswersUptoRow : OpenClaim := { program := "ytmmfcgbfbcamcaagreatdoor", sum := "155ee24ed433332c1b7c69a4d31f1215e08a1f93b39f7344195536d5125ddcf3", func := "cormorant/cormorantlaw14.ReplicaAnswers", spec := "replicaAnswers", inPlace := ["internal/bytealg.Compare", "slices.overlaps[string]", "internal/bytealg.Count", "internal/bytealg.IndexByte", "internal/bytealg.Index", "maps.clone"], unfollowed := true, recurses := true, named := ["internal/bytealg.MaxLen", "unicode/utf8.first", "unicode/utf8.acceptRanges"], apart := false, laid := [("unicode/utf8.acceptRanges", laid_unicode_utf8_acceptRanges), ("unicode/utf8.first", laid_unicode_utf8_first)], narrowed := true }
def ReplicaAnswersUptoSaid : Prop := replicaAnswersUptoRow.holds Tryz.pinned (OpenSpec.upto replicaAnswersSpec)

/-- 'cormorantlaw14.ReplicaReads', WHERE WHAT IT READS IS OF BULK AT MOST 1048576: true; the input reads as it did. -/
def replicaReadsUptoRow : OpenClaim := { program := "ytmmfcgbfbcamcaagreatdoor", sum := "155ee24ed433332c1b7c69a4d31f1215e08a1f93b39f7344195536d5125ddcf3", func := "cormorant/cormorantlaw14.ReplicaReads", spec := "replicaReads", inPlace := ["internal/bytealg.Compare", "slices.overlaps[string]", "internal/bytealg.Count", "internal/bytealg.IndexByte", "internal/bytealg.Index", "maps.clone"], unfollowed := true, recurses := true, named := ["internal/bytealg.MaxLen", "unicode/utf8.first", "unicode/utf8.acceptRanges"], apart := false, laid := [("unicode/utf8.acceptRanges", laid_unicode_utf8_acceptRanges), ("unicode/utf8.first", laid_unicode_utf8_first)], narrowed := true }
def ReplicaReadsUptoSaid : Prop := replicaReadsUptoRow.holds Tryz.pinned (OpenSpec.upto replicaReadsSpec)

/-- 'cormorantlaw14.ReplicaTwice', WHERE WHAT IT READS IS OF BULK AT MOST 1048576: true; the input reads as it did. -/
def replicaTwiceUptoRow : OpenClaim := { program := "ytmmfcgbfbcamcaagreatdoor", sum := "155ee24ed433332c1b7c69a4d31f1215e08a1f93b39f7344195536d5125ddcf3", func := "cormorant/cormorantlaw14.ReplicaTwice", spec := "replicaTwice", inPlace := ["internal/bytealg.Compare", "slices.overlaps[string]", "internal/bytealg.Count", "internal/bytealg.IndexByte", "internal/bytealg.Index", "maps.clone", "internal/bytealg.abigen_runtime_cmpstring"], unfollowed := true, recurses := true, named := ["internal/bytealg.MaxLen", "unicode/utf8.first", "unicode/utf8.acceptRanges"], apart := false, laid := [("unicode/utf8.acceptRanges", laid_unicode_utf8_acceptRanges), ("unicode/utf8.first", laid_unicode_utf8_first)], narrowed := true }
def ReplicaTwiceUptoSaid : Prop := replicaTwiceUptoRow.holds Tryz.pinned (OpenSpec.upto replicaTwiceSpec)

/-- 'cormorantlaw14.ReplicaAlike', WHERE WHAT IT READS IS OF BULK AT MOST 1048576: true; the input reads as it did. -/
def replicaAlikeUptoRow : OpenClaim := { program := "ytmmfcgbfbcamcaagreatdoor", sum := "155ee24ed433332c1b7c69a4d31f1215e08a1f93b39f7344195536d5125ddcf3", func := "cormorant/cormorantlaw14.ReplicaAlike", spec := "replicaAlike", inPlace := ["internal/bytealg.Compare", "slices.overlaps[string]", "internal/bytealg.Count", "internal/bytealg.IndexByte", "internal/bytealg.Index", "maps.clone", "internal/bytealg.abigen_runtime_cmpstring"], unfollowed := true, recurses := true, named := ["internal/bytealg.MaxLen", "unicode/utf8.first", "unicode/utf8.acceptRanges"], apart := false, laid := [("unicode/utf8.acceptRanges", laid_unicode_utf8_acceptRanges), ("unicode/utf8.first", laid_unicode_utf8_first)], narrowed := true }
def ReplicaAlikeUptoSaid : Prop := replicaAlikeUptoRow.holds Tryz.pinned (OpenSpec.upto replicaAlikeSpec)

end Rows
end Go.Proofs.YtmmfcgbfbcamcaaGreatDoor
