/-
  DERIVED. GIVEN WITH THE SEED: THE CARDS: each row of YtmnnnoinfhiilaaDoorRows.lean that lists a variable, with what it lists TIED to the program's text (the seventh form; the later family's looks); each row that meets fmt, with fmt's text TOLD by the authors' own Lean function (tested against real Go, not proved from fmt's source: count such statements apart). THE CARD IS WHAT COUNTS. Prove the row's statement (the work); the ties are given (YtmnnnoinfhiilaaDoorTie.lean); close each card by the builder's one call (the guide's Derived/Test/ToyasCard.lean, 'card_holds'). Laid BY PROGRAM, IN A SANDBOX (cutbox-door.mjs). By AI agents, Wed Nov 11 2026. No macro, syntax, notation, axiom, sorry.
-/
import Derived.Test.YtmnnnoinfhiilaaDoorRows
import GoSem.ClaimSeven
namespace Go.Proofs.YtmnnnoinfhiilaaDoor
namespace Rows

/-- THE TIED CARD OF 'cormorantlaw13.MvccHistory'. -/
def mvccHistoryCard : Claim7 := { stood := { row := mvccHistoryRow, standIns := [], harness := (true, "99827561d1a76b5753405e640d6f0a6e8d6be2d31cda9e40640b9f6fdd9eb73a"), looks := false }, kinds := [], alts := [], laidByText := true, laidKinds := [.data, .pinned], laidTests := true, laidLooks := .later }
def MvccHistoryCardSaid : Prop := Claim7.holds Tryd.pinned (.plain (OpenSpec.ofChange mvccHistorySpec)) mvccHistoryCard

/-- THE TIED CARD OF 'cormorantlaw13.MvccStays'. -/
def mvccStaysCard : Claim7 := { stood := { row := mvccStaysRow, standIns := [], harness := (true, "99827561d1a76b5753405e640d6f0a6e8d6be2d31cda9e40640b9f6fdd9eb73a"), looks := false }, kinds := [], alts := [], laidByText := true, laidKinds := [.data, .pinned], laidTests := true, laidLooks := .later }
def MvccStaysCardSaid : Prop := Claim7.holds Tryd.pinned (.plain (OpenSpec.ofChange mvccStaysSpec)) mvccStaysCard

/-- THE TIED CARD OF 'cormorantlaw13.MvccRefreshes'. -/
def mvccRefreshesCard : Claim7 := { stood := { row := mvccRefreshesRow, standIns := [], harness := (true, "99827561d1a76b5753405e640d6f0a6e8d6be2d31cda9e40640b9f6fdd9eb73a"), looks := false }, kinds := [], alts := [], laidByText := true, laidKinds := [.data, .pinned], laidTests := true, laidLooks := .later }
def MvccRefreshesCardSaid : Prop := Claim7.holds Tryd.pinned (.plain (OpenSpec.ofChange mvccRefreshesSpec)) mvccRefreshesCard

/-- THE TIED CARD OF 'cormorantlaw13.MvccScripts'. -/
def mvccScriptsCard : Claim7 := { stood := { row := mvccScriptsRow, standIns := [], harness := (true, "99827561d1a76b5753405e640d6f0a6e8d6be2d31cda9e40640b9f6fdd9eb73a"), looks := false }, kinds := [], alts := [], laidByText := true, laidKinds := [.data, .pinned], laidTests := true, laidLooks := .later }
def MvccScriptsCardSaid : Prop := Claim7.holds Tryd.pinned (.plain (OpenSpec.ofChange mvccScriptsSpec)) mvccScriptsCard

/-- THE SECOND FORM's CARD OF 'cormorantlaw13.MvccHistory'. -/
def mvccHistoryUptoCard : Claim7 := { stood := { row := mvccHistoryUptoRow, standIns := [], harness := (true, "99827561d1a76b5753405e640d6f0a6e8d6be2d31cda9e40640b9f6fdd9eb73a"), looks := false }, kinds := [], alts := [], laidByText := true, laidKinds := [.data, .pinned], laidTests := true, laidLooks := .later }
def MvccHistoryUptoCardSaid : Prop := Claim7.holds Tryd.pinned (.plain (OpenSpec.upto mvccHistorySpec)) mvccHistoryUptoCard

/-- THE SECOND FORM's CARD OF 'cormorantlaw13.MvccStays'. -/
def mvccStaysUptoCard : Claim7 := { stood := { row := mvccStaysUptoRow, standIns := [], harness := (true, "99827561d1a76b5753405e640d6f0a6e8d6be2d31cda9e40640b9f6fdd9eb73a"), looks := false }, kinds := [], alts := [], laidByText := true, laidKinds := [.data, .pinned], laidTests := true, laidLooks := .later }
def MvccStaysUptoCardSaid : Prop := Claim7.holds Tryd.pinned (.plain (OpenSpec.upto mvccStaysSpec)) mvccStaysUptoCard

/-- THE SECOND FORM's CARD OF 'cormorantlaw13.MvccRefreshes'. -/
def mvccRefreshesUptoCard : Claim7 := { stood := { row := mvccRefreshesUptoRow, standIns := [], harness := (true, "99827561d1a76b5753405e640d6f0a6e8d6be2d31cda9e40640b9f6fdd9eb73a"), looks := false }, kinds := [], alts := [], laidByText := true, laidKinds := [.data, .pinned], laidTests := true, laidLooks := .later }
def MvccRefreshesUptoCardSaid : Prop := Claim7.holds Tryd.pinned (.plain (OpenSpec.upto mvccRefreshesSpec)) mvccRefreshesUptoCard

/-- THE SECOND FORM's CARD OF 'cormorantlaw13.MvccScripts'. -/
def mvccScriptsUptoCard : Claim7 := { stood := { row := mvccScriptsUptoRow, standIns := [], harness := (true, "99827561d1a76b5753405e640d6f0a6e8d6be2d31cda9e40640b9f6fdd9eb73a"), looks := false }, kinds := [], alts := [], laidByText := true, laidKinds := [.data, .pinned], laidTests := true, laidLooks := .later }
def MvccScriptsUptoCardSaid : Prop := Claim7.holds Tryd.pinned (.plain (OpenSpec.upto mvccScriptsSpec)) mvccScriptsUptoCard
end Rows
end Go.Proofs.YtmnnnoinfhiilaaDoor
