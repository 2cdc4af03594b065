/-
  No cell of these rows narrows 'for every input' (looked for: loops, veiled, ifaces, maps, wideKeys, modest, calm, conditions, laid).
  DERIVED. THE GIVEN ROWS OF THIS SEAT. 9 by the template 'for every input the law returns true; each argument reads behind the call as it read before'; 0 by the template 'total and deterministic' (their statements: YtdcpeboecmkmlaaTotals.lean).
  GIVEN WITH THE SEED: the statements are not yours to turn. If you find one false, say at which input.
  Laid BY PROGRAM, IN A SANDBOX (cutbox-rows.mjs): the forced cells as the released guide's own fill.sh prints them over the translation 9c62adc62b325217… (all of the seat's roots in one cut). By AI agents, Wed Nov 11 2026. No macro, syntax, notation, axiom, sorry.
-/
import Derived.Test.YtdcpeboecmkmlaaChecked
import GoSem.Claim
import GoSem.ClaimJoined
import GoSem.ClaimMapViews
import Derived.JoinedTies
import Derived.KernelRfl
namespace Go.Proofs.Ytdcpeboecmkmlaa
/- THE CELL 'sum', in the pinned program and in every row, IS THE sha256 OF THE DUMP (.gsa) THAT YtdcpeboecmkmlaaProg.lean LOADS. Nothing in Lean hashes anything: it is a label: what it is worth is what the hold of that sum in a sandbox is worth. -/
noncomputable def Try.pinned : Pinned := { name := "ytdcpeboecmkmlaa", sum := "9c62adc62b325217a4a564afeaa24f9eda5887e2f283da2666573ca536e6a7f2", checked := Try.checked }
namespace Rows
def none {H : Type} : Left H := { results := [], args := [] }

/-- 'cormorantlaw10.RaftlogMatches': WHATEVER THE INPUT: true; the input reads as it did. -/
def raftlogMatchesSpec : ChangeSpec := { name := "raftlogMatches", fn := fun _ => fun
  | [d] => { results := [.lit (.bool true)], args := [d] }
  | _ => none }
def raftlogMatchesRow : OpenClaim := { program := "ytdcpeboecmkmlaa", sum := "9c62adc62b325217a4a564afeaa24f9eda5887e2f283da2666573ca536e6a7f2", func := "cormorant/cormorantlaw10.RaftlogMatches", spec := "raftlogMatches", apart := false }
def RaftlogMatchesSaid : Prop := raftlogMatchesRow.holds Try.pinned (OpenSpec.ofChange raftlogMatchesSpec)

/-- ITS FALSE NEIGHBOUR: 'it returns false'. Refute it at one input. -/
def raftlogMatchesWrong : ChangeSpec := { name := "raftlogMatches", fn := fun _ => fun
  | [d] => { results := [.lit (.bool false)], args := [d] }
  | _ => none }
def RaftlogMatchesWrongFalsely : Prop := raftlogMatchesRow.holds Try.pinned (OpenSpec.ofChange raftlogMatchesWrong)

/-- 'cormorantlaw10.RaftlogLoads': WHATEVER THE INPUT: true; the input reads as it did. -/
def raftlogLoadsSpec : ChangeSpec := { name := "raftlogLoads", fn := fun _ => fun
  | [d1, d2, d3] => { results := [.lit (.bool true)], args := [d1, d2, d3] }
  | _ => none }
def raftlogLoadsRow : OpenClaim := { program := "ytdcpeboecmkmlaa", sum := "9c62adc62b325217a4a564afeaa24f9eda5887e2f283da2666573ca536e6a7f2", func := "cormorant/cormorantlaw10.RaftlogLoads", spec := "raftlogLoads", unfollowed := true, recurses := true, apart := false }
def RaftlogLoadsSaid : Prop := raftlogLoadsRow.holds Try.pinned (OpenSpec.ofChange raftlogLoadsSpec)

/-- ITS FALSE NEIGHBOUR: 'it returns false'. Refute it at one input. -/
def raftlogLoadsWrong : ChangeSpec := { name := "raftlogLoads", fn := fun _ => fun
  | [d1, d2, d3] => { results := [.lit (.bool false)], args := [d1, d2, d3] }
  | _ => none }
def RaftlogLoadsWrongFalsely : Prop := raftlogLoadsRow.holds Try.pinned (OpenSpec.ofChange raftlogLoadsWrong)

/-- 'cormorantlaw10.RaftlogKeeps': WHATEVER THE INPUT: true; the input reads as it did. -/
def raftlogKeepsSpec : ChangeSpec := { name := "raftlogKeeps", fn := fun _ => fun
  | [d1, d2] => { results := [.lit (.bool true)], args := [d1, d2] }
  | _ => none }
def raftlogKeepsRow : OpenClaim := { program := "ytdcpeboecmkmlaa", sum := "9c62adc62b325217a4a564afeaa24f9eda5887e2f283da2666573ca536e6a7f2", func := "cormorant/cormorantlaw10.RaftlogKeeps", spec := "raftlogKeeps", apart := false }
def RaftlogKeepsSaid : Prop := raftlogKeepsRow.holds Try.pinned (OpenSpec.ofChange raftlogKeepsSpec)

/-- ITS FALSE NEIGHBOUR: 'it returns false'. Refute it at one input. -/
def raftlogKeepsWrong : ChangeSpec := { name := "raftlogKeeps", fn := fun _ => fun
  | [d1, d2] => { results := [.lit (.bool false)], args := [d1, d2] }
  | _ => none }
def RaftlogKeepsWrongFalsely : Prop := raftlogKeepsRow.holds Try.pinned (OpenSpec.ofChange raftlogKeepsWrong)

/-- 'cormorantlaw10.RaftlogScripts': WHATEVER THE INPUT: true; the input reads as it did. -/
def raftlogScriptsSpec : ChangeSpec := { name := "raftlogScripts", fn := fun _ => fun
  | [d1, d2] => { results := [.lit (.bool true)], args := [d1, d2] }
  | _ => none }
def raftlogScriptsRow : OpenClaim := { program := "ytdcpeboecmkmlaa", sum := "9c62adc62b325217a4a564afeaa24f9eda5887e2f283da2666573ca536e6a7f2", func := "cormorant/cormorantlaw10.RaftlogScripts", spec := "raftlogScripts", unfollowed := true, recurses := true, apart := false }
def RaftlogScriptsSaid : Prop := raftlogScriptsRow.holds Try.pinned (OpenSpec.ofChange raftlogScriptsSpec)

/-- ITS FALSE NEIGHBOUR: 'it returns false'. Refute it at one input. -/
def raftlogScriptsWrong : ChangeSpec := { name := "raftlogScripts", fn := fun _ => fun
  | [d1, d2] => { results := [.lit (.bool false)], args := [d1, d2] }
  | _ => none }
def RaftlogScriptsWrongFalsely : Prop := raftlogScriptsRow.holds Try.pinned (OpenSpec.ofChange raftlogScriptsWrong)

/-- 'cormorantlaw10.RaftlogCopies': WHATEVER THE INPUT: true; the input reads as it did. -/
def raftlogCopiesSpec : ChangeSpec := { name := "raftlogCopies", fn := fun _ => fun
  | [d1, d2, d3] => { results := [.lit (.bool true)], args := [d1, d2, d3] }
  | _ => none }
def raftlogCopiesRow : OpenClaim := { program := "ytdcpeboecmkmlaa", sum := "9c62adc62b325217a4a564afeaa24f9eda5887e2f283da2666573ca536e6a7f2", func := "cormorant/cormorantlaw10.RaftlogCopies", spec := "raftlogCopies", unfollowed := true, recurses := true, apart := false }
def RaftlogCopiesSaid : Prop := raftlogCopiesRow.holds Try.pinned (OpenSpec.ofChange raftlogCopiesSpec)

/-- ITS FALSE NEIGHBOUR: 'it returns false'. Refute it at one input. -/
def raftlogCopiesWrong : ChangeSpec := { name := "raftlogCopies", fn := fun _ => fun
  | [d1, d2, d3] => { results := [.lit (.bool false)], args := [d1, d2, d3] }
  | _ => none }
def RaftlogCopiesWrongFalsely : Prop := raftlogCopiesRow.holds Try.pinned (OpenSpec.ofChange raftlogCopiesWrong)

/-- 'cormorantlaw11.RaftcoreVotes': WHATEVER THE INPUT: true; the input reads as it did. -/
def raftcoreVotesSpec : ChangeSpec := { name := "raftcoreVotes", fn := fun _ => fun
  | [d1, d2] => { results := [.lit (.bool true)], args := [d1, d2] }
  | _ => none }
def raftcoreVotesRow : OpenClaim := { program := "ytdcpeboecmkmlaa", sum := "9c62adc62b325217a4a564afeaa24f9eda5887e2f283da2666573ca536e6a7f2", func := "cormorant/cormorantlaw11.RaftcoreVotes", spec := "raftcoreVotes", unfollowed := true, recurses := true, apart := false }
def RaftcoreVotesSaid : Prop := raftcoreVotesRow.holds Try.pinned (OpenSpec.ofChange raftcoreVotesSpec)

/-- ITS FALSE NEIGHBOUR: 'it returns false'. Refute it at one input. -/
def raftcoreVotesWrong : ChangeSpec := { name := "raftcoreVotes", fn := fun _ => fun
  | [d1, d2] => { results := [.lit (.bool false)], args := [d1, d2] }
  | _ => none }
def RaftcoreVotesWrongFalsely : Prop := raftcoreVotesRow.holds Try.pinned (OpenSpec.ofChange raftcoreVotesWrong)

/-- 'cormorantlaw11.RaftcoreSafe': WHATEVER THE INPUT: true; the input reads as it did. -/
def raftcoreSafeSpec : ChangeSpec := { name := "raftcoreSafe", fn := fun _ => fun
  | [d] => { results := [.lit (.bool true)], args := [d] }
  | _ => none }
def raftcoreSafeRow : OpenClaim := { program := "ytdcpeboecmkmlaa", sum := "9c62adc62b325217a4a564afeaa24f9eda5887e2f283da2666573ca536e6a7f2", func := "cormorant/cormorantlaw11.RaftcoreSafe", spec := "raftcoreSafe", unfollowed := true, recurses := true, apart := false }
def RaftcoreSafeSaid : Prop := raftcoreSafeRow.holds Try.pinned (OpenSpec.ofChange raftcoreSafeSpec)

/-- ITS FALSE NEIGHBOUR: 'it returns false'. Refute it at one input. -/
def raftcoreSafeWrong : ChangeSpec := { name := "raftcoreSafe", fn := fun _ => fun
  | [d] => { results := [.lit (.bool false)], args := [d] }
  | _ => none }
def RaftcoreSafeWrongFalsely : Prop := raftcoreSafeRow.holds Try.pinned (OpenSpec.ofChange raftcoreSafeWrong)

/-- 'cormorantlaw11.RaftcoreCalm': WHATEVER THE INPUT: true; the input reads as it did. -/
def raftcoreCalmSpec : ChangeSpec := { name := "raftcoreCalm", fn := fun _ => fun
  | [d1, d2] => { results := [.lit (.bool true)], args := [d1, d2] }
  | _ => none }
def raftcoreCalmRow : OpenClaim := { program := "ytdcpeboecmkmlaa", sum := "9c62adc62b325217a4a564afeaa24f9eda5887e2f283da2666573ca536e6a7f2", func := "cormorant/cormorantlaw11.RaftcoreCalm", spec := "raftcoreCalm", unfollowed := true, recurses := true, apart := false }
def RaftcoreCalmSaid : Prop := raftcoreCalmRow.holds Try.pinned (OpenSpec.ofChange raftcoreCalmSpec)

/-- ITS FALSE NEIGHBOUR: 'it returns false'. Refute it at one input. -/
def raftcoreCalmWrong : ChangeSpec := { name := "raftcoreCalm", fn := fun _ => fun
  | [d1, d2] => { results := [.lit (.bool false)], args := [d1, d2] }
  | _ => none }
def RaftcoreCalmWrongFalsely : Prop := raftcoreCalmRow.holds Try.pinned (OpenSpec.ofChange raftcoreCalmWrong)

/-- 'cormorantlaw11.RaftcoreJoins': WHATEVER THE INPUT: true; the input reads as it did. -/
def raftcoreJoinsSpec : ChangeSpec := { name := "raftcoreJoins", fn := fun _ => fun
  | [d] => { results := [.lit (.bool true)], args := [d] }
  | _ => none }
def raftcoreJoinsRow : OpenClaim := { program := "ytdcpeboecmkmlaa", sum := "9c62adc62b325217a4a564afeaa24f9eda5887e2f283da2666573ca536e6a7f2", func := "cormorant/cormorantlaw11.RaftcoreJoins", spec := "raftcoreJoins", unfollowed := true, recurses := true, apart := false }
def RaftcoreJoinsSaid : Prop := raftcoreJoinsRow.holds Try.pinned (OpenSpec.ofChange raftcoreJoinsSpec)

/-- ITS FALSE NEIGHBOUR: 'it returns false'. Refute it at one input. -/
def raftcoreJoinsWrong : ChangeSpec := { name := "raftcoreJoins", fn := fun _ => fun
  | [d] => { results := [.lit (.bool false)], args := [d] }
  | _ => none }
def RaftcoreJoinsWrongFalsely : Prop := raftcoreJoinsRow.holds Try.pinned (OpenSpec.ofChange raftcoreJoinsWrong)

/- THE SECOND FORM. 'bulk': how many values and letters a reading holds, each counted each time it is reached (what is shared counts as often as it is met; a slice's spare places count too). A statement '..UptoSaid' is the law's where the arguments, and the package variables that the reading takes, are together of bulk at most 1048576: NARROWER than '..Said'. Prove '..Said' where nothing that the law and all that it calls make is longer than what came in: it says more and counts as full. Else prove '..UptoSaid'. A law counts once. -/
mutual
def uptoBulk {H : Type} : DataW H → Nat
  | .lit (.string bytes) => bytes.length + 1
  | .lit _ => 1
  | .nil => 1
  | .ptr d => uptoBulk d + 1
  | .slice elems spare => uptoBulkAll elems + uptoBulkAll spare + 1
  | .agg parts => uptoBulkAll parts + 1
  | .iface _ d => uptoBulk d + 1
  | .map entries => uptoBulkEntries entries + 1
  | .held _ => 1
def uptoBulkAll {H : Type} : List (DataW H) → Nat
  | [] => 0
  | d :: r => uptoBulk d + uptoBulkAll r
def uptoBulkEntries {H : Type} : List (Lit × DataW H) → Nat
  | [] => 0
  | x :: r => uptoBulkEntry x + uptoBulkEntries r
def uptoBulkEntry {H : Type} : Lit × DataW H → Nat
  | (.string bytes, d) => bytes.length + uptoBulk d + 1
  | (_, d) => uptoBulk d + 1
 end
def uptoSmall : (H : Type) → List (DataW H) → Bool := fun _ ds => decide (uptoBulkAll ds ≤ 1048576)
def OpenSpec.upto (s : _root_.Go.ChangeSpec) : _root_.Go.OpenSpec := { _root_.Go.OpenSpec.ofChange s with cond := some uptoSmall }

/-- 'cormorantlaw10.RaftlogMatches', WHERE WHAT IT READS IS OF BULK AT MOST 1048576: true; the input reads as it did. -/
def raftlogMatchesUptoRow : OpenClaim := { program := "ytdcpeboecmkmlaa", sum := "9c62adc62b325217a4a564afeaa24f9eda5887e2f283da2666573ca536e6a7f2", func := "cormorant/cormorantlaw10.RaftlogMatches", spec := "raftlogMatches", apart := false, narrowed := true }
def RaftlogMatchesUptoSaid : Prop := raftlogMatchesUptoRow.holds Try.pinned (OpenSpec.upto raftlogMatchesSpec)

/-- 'cormorantlaw10.RaftlogLoads', WHERE WHAT IT READS IS OF BULK AT MOST 1048576: true; the input reads as it did. -/
def raftlogLoadsUptoRow : OpenClaim := { program := "ytdcpeboecmkmlaa", sum := "9c62adc62b325217a4a564afeaa24f9eda5887e2f283da2666573ca536e6a7f2", func := "cormorant/cormorantlaw10.RaftlogLoads", spec := "raftlogLoads", unfollowed := true, recurses := true, apart := false, narrowed := true }
def RaftlogLoadsUptoSaid : Prop := raftlogLoadsUptoRow.holds Try.pinned (OpenSpec.upto raftlogLoadsSpec)

/-- 'cormorantlaw10.RaftlogKeeps', WHERE WHAT IT READS IS OF BULK AT MOST 1048576: true; the input reads as it did. -/
def raftlogKeepsUptoRow : OpenClaim := { program := "ytdcpeboecmkmlaa", sum := "9c62adc62b325217a4a564afeaa24f9eda5887e2f283da2666573ca536e6a7f2", func := "cormorant/cormorantlaw10.RaftlogKeeps", spec := "raftlogKeeps", apart := false, narrowed := true }
def RaftlogKeepsUptoSaid : Prop := raftlogKeepsUptoRow.holds Try.pinned (OpenSpec.upto raftlogKeepsSpec)

/-- 'cormorantlaw10.RaftlogScripts', WHERE WHAT IT READS IS OF BULK AT MOST 1048576: true; the input reads as it did. -/
def raftlogScriptsUptoRow : OpenClaim := { program := "ytdcpeboecmkmlaa", sum := "9c62adc62b325217a4a564afeaa24f9eda5887e2f283da2666573ca536e6a7f2", func := "cormorant/cormorantlaw10.RaftlogScripts", spec := "raftlogScripts", unfollowed := true, recurses := true, apart := false, narrowed := true }
def RaftlogScriptsUptoSaid : Prop := raftlogScriptsUptoRow.holds Try.pinned (OpenSpec.upto raftlogScriptsSpec)

/-- 'cormorantlaw10.RaftlogCopies', WHERE WHAT IT READS IS OF BULK AT MOST 1048576: true; the input reads as it did. -/
def raftlogCopiesUptoRow : OpenClaim := { program := "ytdcpeboecmkmlaa", sum := "9c62adc62b325217a4a564afeaa24f9eda5887e2f283da2666573ca536e6a7f2", func := "cormorant/cormorantlaw10.RaftlogCopies", spec := "raftlogCopies", unfollowed := true, recurses := true, apart := false, narrowed := true }
def RaftlogCopiesUptoSaid : Prop := raftlogCopiesUptoRow.holds Try.pinned (OpenSpec.upto raftlogCopiesSpec)

/-- 'cormorantlaw11.RaftcoreVotes', WHERE WHAT IT READS IS OF BULK AT MOST 1048576: true; the input reads as it did. -/
def raftcoreVotesUptoRow : OpenClaim := { program := "ytdcpeboecmkmlaa", sum := "9c62adc62b325217a4a564afeaa24f9eda5887e2f283da2666573ca536e6a7f2", func := "cormorant/cormorantlaw11.RaftcoreVotes", spec := "raftcoreVotes", unfollowed := true, recurses := true, apart := false, narrowed := true }
def RaftcoreVotesUptoSaid : Prop := raftcoreVotesUptoRow.holds Try.pinned (OpenSpec.upto raftcoreVotesSpec)

/-- 'cormorantlaw11.RaftcoreSafe', WHERE WHAT IT READS IS OF BULK AT MOST 1048576: true; the input reads as it did. -/
def raftcoreSafeUptoRow : OpenClaim := { program := "ytdcpeboecmkmlaa", sum := "9c62adc62b325217a4a564afeaa24f9eda5887e2f283da2666573ca536e6a7f2", func := "cormorant/cormorantlaw11.RaftcoreSafe", spec := "raftcoreSafe", unfollowed := true, recurses := true, apart := false, narrowed := true }
def RaftcoreSafeUptoSaid : Prop := raftcoreSafeUptoRow.holds Try.pinned (OpenSpec.upto raftcoreSafeSpec)

/-- 'cormorantlaw11.RaftcoreCalm', WHERE WHAT IT READS IS OF BULK AT MOST 1048576: true; the input reads as it did. -/
def raftcoreCalmUptoRow : OpenClaim := { program := "ytdcpeboecmkmlaa", sum := "9c62adc62b325217a4a564afeaa24f9eda5887e2f283da2666573ca536e6a7f2", func := "cormorant/cormorantlaw11.RaftcoreCalm", spec := "raftcoreCalm", unfollowed := true, recurses := true, apart := false, narrowed := true }
def RaftcoreCalmUptoSaid : Prop := raftcoreCalmUptoRow.holds Try.pinned (OpenSpec.upto raftcoreCalmSpec)

/-- 'cormorantlaw11.RaftcoreJoins', WHERE WHAT IT READS IS OF BULK AT MOST 1048576: true; the input reads as it did. -/
def raftcoreJoinsUptoRow : OpenClaim := { program := "ytdcpeboecmkmlaa", sum := "9c62adc62b325217a4a564afeaa24f9eda5887e2f283da2666573ca536e6a7f2", func := "cormorant/cormorantlaw11.RaftcoreJoins", spec := "raftcoreJoins", unfollowed := true, recurses := true, apart := false, narrowed := true }
def RaftcoreJoinsUptoSaid : Prop := raftcoreJoinsUptoRow.holds Try.pinned (OpenSpec.upto raftcoreJoinsSpec)

end Rows
end Go.Proofs.Ytdcpeboecmkmlaa
