/-
  DERIVED. GIVEN WITH THE SEED: THE CARDS: each row of YtmnnnoinfhiilaaGreatDoorRows.lean that lists a variable, with what it lists TIED to the program's text (the seventh form; the later family's looks); each row that meets fmt, with fmt's text TOLD by the authors' own Lean function (tested against real Go, not proved from fmt's source: count such statements apart). THE CARD IS WHAT COUNTS. Prove the row's statement (the work); the ties are given (YtmnnnoinfhiilaaGreatDoorTie.lean); close each card by the builder's one call (the guide's Derived/Test/ToyasCard.lean, 'card_holds'). Laid BY PROGRAM, IN A SANDBOX (cutbox-door.mjs). By AI agents, Wed Nov 11 2026. No macro, syntax, notation, axiom, sorry.
-/
import Derived.Test.YtmnnnoinfhiilaaGreatDoorRows
import GoSem.ClaimSeven
namespace Go.Proofs.YtmnnnoinfhiilaaGreatDoor
namespace Rows

/-- THE TIED CARD OF 'cormorantlaw13.MvccLoads'. -/
def mvccLoadsCard : Claim7 := { stood := { row := mvccLoadsRow, standIns := [], harness := (true, "69aeec95db00886813a13973d58fc035ae5f7c1f8bd608417f041c3d396f1760"), looks := false }, kinds := [], alts := [], laidByText := true, laidKinds := [.data, .pinned], laidTests := true, laidLooks := .later }
def MvccLoadsCardSaid : Prop := Claim7.holds Tryz.pinned (.plain (OpenSpec.ofChange mvccLoadsSpec)) mvccLoadsCard

/-- THE TIED CARD OF 'cormorantlaw13.MvccSplits'. -/
def mvccSplitsCard : Claim7 := { stood := { row := mvccSplitsRow, standIns := [], harness := (true, "69aeec95db00886813a13973d58fc035ae5f7c1f8bd608417f041c3d396f1760"), looks := false }, kinds := [], alts := [], laidByText := true, laidKinds := [.data, .pinned], laidTests := true, laidLooks := .later }
def MvccSplitsCardSaid : Prop := Claim7.holds Tryz.pinned (.plain (OpenSpec.ofChange mvccSplitsSpec)) mvccSplitsCard

/-- THE SECOND FORM's CARD OF 'cormorantlaw13.MvccLoads'. -/
def mvccLoadsUptoCard : Claim7 := { stood := { row := mvccLoadsUptoRow, standIns := [], harness := (true, "69aeec95db00886813a13973d58fc035ae5f7c1f8bd608417f041c3d396f1760"), looks := false }, kinds := [], alts := [], laidByText := true, laidKinds := [.data, .pinned], laidTests := true, laidLooks := .later }
def MvccLoadsUptoCardSaid : Prop := Claim7.holds Tryz.pinned (.plain (OpenSpec.upto mvccLoadsSpec)) mvccLoadsUptoCard

/-- THE SECOND FORM's CARD OF 'cormorantlaw13.MvccSplits'. -/
def mvccSplitsUptoCard : Claim7 := { stood := { row := mvccSplitsUptoRow, standIns := [], harness := (true, "69aeec95db00886813a13973d58fc035ae5f7c1f8bd608417f041c3d396f1760"), looks := false }, kinds := [], alts := [], laidByText := true, laidKinds := [.data, .pinned], laidTests := true, laidLooks := .later }
def MvccSplitsUptoCardSaid : Prop := Claim7.holds Tryz.pinned (.plain (OpenSpec.upto mvccSplitsSpec)) mvccSplitsUptoCard
end Rows
end Go.Proofs.YtmnnnoinfhiilaaGreatDoor
