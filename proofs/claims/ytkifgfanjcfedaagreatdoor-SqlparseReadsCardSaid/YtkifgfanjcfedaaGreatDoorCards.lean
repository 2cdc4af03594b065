/-
  DERIVED. GIVEN WITH THE SEED: THE CARDS: each row of YtkifgfanjcfedaaGreatDoorRows.lean that lists a variable, with what it lists TIED to the program's text (the seventh form; the later family's looks); each row that meets fmt, with fmt's text TOLD by the authors' own Lean function (tested against real Go, not proved from fmt's source: count such statements apart). THE CARD IS WHAT COUNTS. Prove the row's statement (the work); the ties are given (YtkifgfanjcfedaaGreatDoorTie.lean); close each card by the builder's one call (the guide's Derived/Test/ToyasCard.lean, 'card_holds'). Laid BY PROGRAM, IN A SANDBOX (cutbox-door.mjs). By AI agents, Wed Nov 11 2026. No macro, syntax, notation, axiom, sorry.
-/
import Derived.Test.YtkifgfanjcfedaaGreatDoorRows
import GoSem.ClaimSeven
namespace Go.Proofs.YtkifgfanjcfedaaGreatDoor
namespace Rows

/-- THE TIED CARD OF 'cormorantlaw17.SqlparseReads'. -/
def sqlparseReadsCard : Claim7 := { stood := { row := sqlparseReadsRow, standIns := [], harness := (true, "3f5d0af5c4993c472a2403303d27592e33f5e32f339c6d30f041624c2897472a"), looks := true }, kinds := [], alts := [], laidByText := true, laidKinds := [.data, .data, .data, .data, .listed, .data, .pinned], laidTests := true, laidLooks := .later }
def SqlparseReadsCardSaid : Prop := Claim7.holds Tryz.pinned (.plain (OpenSpec.ofChange sqlparseReadsSpec)) sqlparseReadsCard

/-- THE TIED CARD OF 'cormorantlaw17.SqlparseShows'. -/
def sqlparseShowsCard : Claim7 := { stood := { row := sqlparseShowsRow, standIns := [], harness := (true, "3f5d0af5c4993c472a2403303d27592e33f5e32f339c6d30f041624c2897472a"), looks := true }, kinds := [], alts := [], laidByText := true, laidKinds := [.data, .data, .data, .data, .listed, .data, .pinned], laidTests := true, laidLooks := .later }
def SqlparseShowsCardSaid : Prop := Claim7.holds Tryz.pinned (.plain (OpenSpec.ofChange sqlparseShowsSpec)) sqlparseShowsCard

/-- THE TIED CARD OF 'cormorantlaw17.SqlparseWords'. -/
def sqlparseWordsCard : Claim7 := { stood := { row := sqlparseWordsRow, standIns := [], harness := (true, "3f5d0af5c4993c472a2403303d27592e33f5e32f339c6d30f041624c2897472a"), looks := true }, kinds := [], alts := [], laidByText := true, laidKinds := [.data, .data, .data, .data, .listed, .data, .pinned], laidTests := true, laidLooks := .later }
def SqlparseWordsCardSaid : Prop := Claim7.holds Tryz.pinned (.plain (OpenSpec.ofChange sqlparseWordsSpec)) sqlparseWordsCard

/-- THE TIED CARD OF 'cormorantlaw17.SqlparseBack'. -/
def sqlparseBackCard : Claim7 := { stood := { row := sqlparseBackRow, standIns := [], harness := (true, "3f5d0af5c4993c472a2403303d27592e33f5e32f339c6d30f041624c2897472a"), looks := true }, kinds := [], alts := [], laidByText := true, laidKinds := [.data, .data, .data, .data, .listed, .data, .pinned], laidTests := true, laidLooks := .later }
def SqlparseBackCardSaid : Prop := Claim7.holds Tryz.pinned (.plain (OpenSpec.ofChange sqlparseBackSpec)) sqlparseBackCard

/-- THE TIED CARD OF 'cormorantlaw17.SqlparseAgain'. -/
def sqlparseAgainCard : Claim7 := { stood := { row := sqlparseAgainRow, standIns := [], harness := (true, "3f5d0af5c4993c472a2403303d27592e33f5e32f339c6d30f041624c2897472a"), looks := true }, kinds := [], alts := [], laidByText := true, laidKinds := [.data, .data, .data, .data, .listed, .data, .pinned], laidTests := true, laidLooks := .later }
def SqlparseAgainCardSaid : Prop := Claim7.holds Tryz.pinned (.plain (OpenSpec.ofChange sqlparseAgainSpec)) sqlparseAgainCard

/-- THE TIED CARD OF 'cormorantlaw17.SqlparseTurned'. -/
def sqlparseTurnedCard : Claim7 := { stood := { row := sqlparseTurnedRow, standIns := [], harness := (true, "3f5d0af5c4993c472a2403303d27592e33f5e32f339c6d30f041624c2897472a"), looks := true }, kinds := [], alts := [], laidByText := true, laidKinds := [.data, .data, .data, .data, .listed, .data, .pinned], laidTests := true, laidLooks := .later }
def SqlparseTurnedCardSaid : Prop := Claim7.holds Tryz.pinned (.plain (OpenSpec.ofChange sqlparseTurnedSpec)) sqlparseTurnedCard

/-- THE TIED CARD OF 'cormorantlaw17.SqlparseJoins'. -/
def sqlparseJoinsCard : Claim7 := { stood := { row := sqlparseJoinsRow, standIns := [], harness := (true, "3f5d0af5c4993c472a2403303d27592e33f5e32f339c6d30f041624c2897472a"), looks := true }, kinds := [], alts := [], laidByText := true, laidKinds := [.data, .data, .data, .data, .listed, .data, .pinned], laidTests := true, laidLooks := .later }
def SqlparseJoinsCardSaid : Prop := Claim7.holds Tryz.pinned (.plain (OpenSpec.ofChange sqlparseJoinsSpec)) sqlparseJoinsCard

/-- THE SECOND FORM's CARD OF 'cormorantlaw17.SqlparseReads'. -/
def sqlparseReadsUptoCard : Claim7 := { stood := { row := sqlparseReadsUptoRow, standIns := [], harness := (true, "3f5d0af5c4993c472a2403303d27592e33f5e32f339c6d30f041624c2897472a"), looks := true }, kinds := [], alts := [], laidByText := true, laidKinds := [.data, .data, .data, .data, .listed, .data, .pinned], laidTests := true, laidLooks := .later }
def SqlparseReadsUptoCardSaid : Prop := Claim7.holds Tryz.pinned (.plain (OpenSpec.upto sqlparseReadsSpec)) sqlparseReadsUptoCard

/-- THE SECOND FORM's CARD OF 'cormorantlaw17.SqlparseShows'. -/
def sqlparseShowsUptoCard : Claim7 := { stood := { row := sqlparseShowsUptoRow, standIns := [], harness := (true, "3f5d0af5c4993c472a2403303d27592e33f5e32f339c6d30f041624c2897472a"), looks := true }, kinds := [], alts := [], laidByText := true, laidKinds := [.data, .data, .data, .data, .listed, .data, .pinned], laidTests := true, laidLooks := .later }
def SqlparseShowsUptoCardSaid : Prop := Claim7.holds Tryz.pinned (.plain (OpenSpec.upto sqlparseShowsSpec)) sqlparseShowsUptoCard

/-- THE SECOND FORM's CARD OF 'cormorantlaw17.SqlparseWords'. -/
def sqlparseWordsUptoCard : Claim7 := { stood := { row := sqlparseWordsUptoRow, standIns := [], harness := (true, "3f5d0af5c4993c472a2403303d27592e33f5e32f339c6d30f041624c2897472a"), looks := true }, kinds := [], alts := [], laidByText := true, laidKinds := [.data, .data, .data, .data, .listed, .data, .pinned], laidTests := true, laidLooks := .later }
def SqlparseWordsUptoCardSaid : Prop := Claim7.holds Tryz.pinned (.plain (OpenSpec.upto sqlparseWordsSpec)) sqlparseWordsUptoCard

/-- THE SECOND FORM's CARD OF 'cormorantlaw17.SqlparseBack'. -/
def sqlparseBackUptoCard : Claim7 := { stood := { row := sqlparseBackUptoRow, standIns := [], harness := (true, "3f5d0af5c4993c472a2403303d27592e33f5e32f339c6d30f041624c2897472a"), looks := true }, kinds := [], alts := [], laidByText := true, laidKinds := [.data, .data, .data, .data, .listed, .data, .pinned], laidTests := true, laidLooks := .later }
def SqlparseBackUptoCardSaid : Prop := Claim7.holds Tryz.pinned (.plain (OpenSpec.upto sqlparseBackSpec)) sqlparseBackUptoCard

/-- THE SECOND FORM's CARD OF 'cormorantlaw17.SqlparseAgain'. -/
def sqlparseAgainUptoCard : Claim7 := { stood := { row := sqlparseAgainUptoRow, standIns := [], harness := (true, "3f5d0af5c4993c472a2403303d27592e33f5e32f339c6d30f041624c2897472a"), looks := true }, kinds := [], alts := [], laidByText := true, laidKinds := [.data, .data, .data, .data, .listed, .data, .pinned], laidTests := true, laidLooks := .later }
def SqlparseAgainUptoCardSaid : Prop := Claim7.holds Tryz.pinned (.plain (OpenSpec.upto sqlparseAgainSpec)) sqlparseAgainUptoCard

/-- THE SECOND FORM's CARD OF 'cormorantlaw17.SqlparseTurned'. -/
def sqlparseTurnedUptoCard : Claim7 := { stood := { row := sqlparseTurnedUptoRow, standIns := [], harness := (true, "3f5d0af5c4993c472a2403303d27592e33f5e32f339c6d30f041624c2897472a"), looks := true }, kinds := [], alts := [], laidByText := true, laidKinds := [.data, .data, .data, .data, .listed, .data, .pinned], laidTests := true, laidLooks := .later }
def SqlparseTurnedUptoCardSaid : Prop := Claim7.holds Tryz.pinned (.plain (OpenSpec.upto sqlparseTurnedSpec)) sqlparseTurnedUptoCard

/-- THE SECOND FORM's CARD OF 'cormorantlaw17.SqlparseJoins'. -/
def sqlparseJoinsUptoCard : Claim7 := { stood := { row := sqlparseJoinsUptoRow, standIns := [], harness := (true, "3f5d0af5c4993c472a2403303d27592e33f5e32f339c6d30f041624c2897472a"), looks := true }, kinds := [], alts := [], laidByText := true, laidKinds := [.data, .data, .data, .data, .listed, .data, .pinned], laidTests := true, laidLooks := .later }
def SqlparseJoinsUptoCardSaid : Prop := Claim7.holds Tryz.pinned (.plain (OpenSpec.upto sqlparseJoinsSpec)) sqlparseJoinsUptoCard
end Rows
end Go.Proofs.YtkifgfanjcfedaaGreatDoor
