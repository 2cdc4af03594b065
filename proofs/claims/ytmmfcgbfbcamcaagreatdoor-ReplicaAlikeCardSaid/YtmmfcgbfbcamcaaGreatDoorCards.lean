/-
  DERIVED. GIVEN WITH THE SEED: THE CARDS: each row of YtmmfcgbfbcamcaaGreatDoorRows.lean that lists a variable, with what it lists TIED to the program's text (the seventh form; the later family's looks); each row that meets fmt, with fmt's text TOLD by the authors' own Lean function (tested against real Go, not proved from fmt's source: count such statements apart). THE CARD IS WHAT COUNTS. Prove the row's statement (the work); the ties are given (YtmmfcgbfbcamcaaGreatDoorTie.lean); close each card by the builder's one call (the guide's Derived/Test/ToyasCard.lean, 'card_holds'). Laid BY PROGRAM, IN A SANDBOX (cutbox-door.mjs). By AI agents, Wed Nov 11 2026. No macro, syntax, notation, axiom, sorry.
-/
import Derived.Test.YtmmfcgbfbcamcaaGreatDoorRows
import GoSem.ClaimSeven
namespace Go.Proofs.YtmmfcgbfbcamcaaGreatDoor
namespace Rows

/-- THE TIED CARD OF 'cormorantlaw14.ReplicaSerial'. -/
def replicaSerialCard : Claim7 := { stood := { row := replicaSerialRow, standIns := [], harness := (true, "4de3bc579143093ddf1522aa2c32b5cc3a0c469b53a2c136bd4388e5cf93e445"), looks := true }, kinds := [], alts := [], laidByText := true, laidKinds := [.data, .pinned], laidTests := true, laidLooks := .later }
def ReplicaSerialCardSaid : Prop := Claim7.holds Tryz.pinned (.plain (OpenSpec.ofChange replicaSerialSpec)) replicaSerialCard

/-- THE TIED CARD OF 'cormorantlaw14.ReplicaScripts'. -/
def replicaScriptsCard : Claim7 := { stood := { row := replicaScriptsRow, standIns := [], harness := (true, "4de3bc579143093ddf1522aa2c32b5cc3a0c469b53a2c136bd4388e5cf93e445"), looks := true }, kinds := [], alts := [], laidByText := true, laidKinds := [.data, .pinned], laidTests := true, laidLooks := .later }
def ReplicaScriptsCardSaid : Prop := Claim7.holds Tryz.pinned (.plain (OpenSpec.ofChange replicaScriptsSpec)) replicaScriptsCard

/-- THE TIED CARD OF 'cormorantlaw14.ReplicaWrites'. -/
def replicaWritesCard : Claim7 := { stood := { row := replicaWritesRow, standIns := [], harness := (true, "4de3bc579143093ddf1522aa2c32b5cc3a0c469b53a2c136bd4388e5cf93e445"), looks := true }, kinds := [], alts := [], laidByText := true, laidKinds := [.data, .pinned], laidTests := true, laidLooks := .later }
def ReplicaWritesCardSaid : Prop := Claim7.holds Tryz.pinned (.plain (OpenSpec.ofChange replicaWritesSpec)) replicaWritesCard

/-- THE TIED CARD OF 'cormorantlaw14.ReplicaAnswers'. -/
def replicaAnswersCard : Claim7 := { stood := { row := replicaAnswersRow, standIns := [], harness := (true, "4de3bc579143093ddf1522aa2c32b5cc3a0c469b53a2c136bd4388e5cf93e445"), looks := true }, kinds := [], alts := [], laidByText := true, laidKinds := [.data, .pinned], laidTests := true, laidLooks := .later }
def ReplicaAnswersCardSaid : Prop := Claim7.holds Tryz.pinned (.plain (OpenSpec.ofChange replicaAnswersSpec)) replicaAnswersCard

/-- THE TIED CARD OF 'cormorantlaw14.ReplicaReads'. -/
def replicaReadsCard : Claim7 := { stood := { row := replicaReadsRow, standIns := [], harness := (true, "4de3bc579143093ddf1522aa2c32b5cc3a0c469b53a2c136bd4388e5cf93e445"), looks := true }, kinds := [], alts := [], laidByText := true, laidKinds := [.data, .pinned], laidTests := true, laidLooks := .later }
def ReplicaReadsCardSaid : Prop := Claim7.holds Tryz.pinned (.plain (OpenSpec.ofChange replicaReadsSpec)) replicaReadsCard

/-- THE TIED CARD OF 'cormorantlaw14.ReplicaTwice'. -/
def replicaTwiceCard : Claim7 := { stood := { row := replicaTwiceRow, standIns := [], harness := (true, "4de3bc579143093ddf1522aa2c32b5cc3a0c469b53a2c136bd4388e5cf93e445"), looks := true }, kinds := [], alts := [], laidByText := true, laidKinds := [.data, .pinned], laidTests := true, laidLooks := .later }
def ReplicaTwiceCardSaid : Prop := Claim7.holds Tryz.pinned (.plain (OpenSpec.ofChange replicaTwiceSpec)) replicaTwiceCard

/-- THE TIED CARD OF 'cormorantlaw14.ReplicaAlike'. -/
def replicaAlikeCard : Claim7 := { stood := { row := replicaAlikeRow, standIns := [], harness := (true, "4de3bc579143093ddf1522aa2c32b5cc3a0c469b53a2c136bd4388e5cf93e445"), looks := true }, kinds := [], alts := [], laidByText := true, laidKinds := [.data, .pinned], laidTests := true, laidLooks := .later }
def ReplicaAlikeCardSaid : Prop := Claim7.holds Tryz.pinned (.plain (OpenSpec.ofChange replicaAlikeSpec)) replicaAlikeCard

/-- THE SECOND FORM's CARD OF 'cormorantlaw14.ReplicaSerial'. -/
def replicaSerialUptoCard : Claim7 := { stood := { row := replicaSerialUptoRow, standIns := [], harness := (true, "4de3bc579143093ddf1522aa2c32b5cc3a0c469b53a2c136bd4388e5cf93e445"), looks := true }, kinds := [], alts := [], laidByText := true, laidKinds := [.data, .pinned], laidTests := true, laidLooks := .later }
def ReplicaSerialUptoCardSaid : Prop := Claim7.holds Tryz.pinned (.plain (OpenSpec.upto replicaSerialSpec)) replicaSerialUptoCard

/-- THE SECOND FORM's CARD OF 'cormorantlaw14.ReplicaScripts'. -/
def replicaScriptsUptoCard : Claim7 := { stood := { row := replicaScriptsUptoRow, standIns := [], harness := (true, "4de3bc579143093ddf1522aa2c32b5cc3a0c469b53a2c136bd4388e5cf93e445"), looks := true }, kinds := [], alts := [], laidByText := true, laidKinds := [.data, .pinned], laidTests := true, laidLooks := .later }
def ReplicaScriptsUptoCardSaid : Prop := Claim7.holds Tryz.pinned (.plain (OpenSpec.upto replicaScriptsSpec)) replicaScriptsUptoCard

/-- THE SECOND FORM's CARD OF 'cormorantlaw14.ReplicaWrites'. -/
def replicaWritesUptoCard : Claim7 := { stood := { row := replicaWritesUptoRow, standIns := [], harness := (true, "4de3bc579143093ddf1522aa2c32b5cc3a0c469b53a2c136bd4388e5cf93e445"), looks := true }, kinds := [], alts := [], laidByText := true, laidKinds := [.data, .pinned], laidTests := true, laidLooks := .later }
def ReplicaWritesUptoCardSaid : Prop := Claim7.holds Tryz.pinned (.plain (OpenSpec.upto replicaWritesSpec)) replicaWritesUptoCard

/-- THE SECOND FORM's CARD OF 'cormorantlaw14.ReplicaAnswers'. -/
def replicaAnswersUptoCard : Claim7 := { stood := { row := replicaAnswersUptoRow, standIns := [], harness := (true, "4de3bc579143093ddf1522aa2c32b5cc3a0c469b53a2c136bd4388e5cf93e445"), looks := true }, kinds := [], alts := [], laidByText := true, laidKinds := [.data, .pinned], laidTests := true, laidLooks := .later }
def ReplicaAnswersUptoCardSaid : Prop := Claim7.holds Tryz.pinned (.plain (OpenSpec.upto replicaAnswersSpec)) replicaAnswersUptoCard

/-- THE SECOND FORM's CARD OF 'cormorantlaw14.ReplicaReads'. -/
def replicaReadsUptoCard : Claim7 := { stood := { row := replicaReadsUptoRow, standIns := [], harness := (true, "4de3bc579143093ddf1522aa2c32b5cc3a0c469b53a2c136bd4388e5cf93e445"), looks := true }, kinds := [], alts := [], laidByText := true, laidKinds := [.data, .pinned], laidTests := true, laidLooks := .later }
def ReplicaReadsUptoCardSaid : Prop := Claim7.holds Tryz.pinned (.plain (OpenSpec.upto replicaReadsSpec)) replicaReadsUptoCard

/-- THE SECOND FORM's CARD OF 'cormorantlaw14.ReplicaTwice'. -/
def replicaTwiceUptoCard : Claim7 := { stood := { row := replicaTwiceUptoRow, standIns := [], harness := (true, "4de3bc579143093ddf1522aa2c32b5cc3a0c469b53a2c136bd4388e5cf93e445"), looks := true }, kinds := [], alts := [], laidByText := true, laidKinds := [.data, .pinned], laidTests := true, laidLooks := .later }
def ReplicaTwiceUptoCardSaid : Prop := Claim7.holds Tryz.pinned (.plain (OpenSpec.upto replicaTwiceSpec)) replicaTwiceUptoCard

/-- THE SECOND FORM's CARD OF 'cormorantlaw14.ReplicaAlike'. -/
def replicaAlikeUptoCard : Claim7 := { stood := { row := replicaAlikeUptoRow, standIns := [], harness := (true, "4de3bc579143093ddf1522aa2c32b5cc3a0c469b53a2c136bd4388e5cf93e445"), looks := true }, kinds := [], alts := [], laidByText := true, laidKinds := [.data, .pinned], laidTests := true, laidLooks := .later }
def ReplicaAlikeUptoCardSaid : Prop := Claim7.holds Tryz.pinned (.plain (OpenSpec.upto replicaAlikeSpec)) replicaAlikeUptoCard
end Rows
end Go.Proofs.YtmmfcgbfbcamcaaGreatDoor
