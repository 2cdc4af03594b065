/-
  DERIVED. GIVEN WITH THE SEED: THE CARDS: each row of YthkaekjoemhjaaaGreatDoorRows.lean that lists a variable, with what it lists TIED to the program's text (the seventh form; the later family's looks); each row that meets fmt, with fmt's text TOLD by the authors' own Lean function (tested against real Go, not proved from fmt's source: count such statements apart). THE CARD IS WHAT COUNTS. Prove the row's statement (the work); the ties are given (YthkaekjoemhjaaaGreatDoorTie.lean); close each card by the builder's one call (the guide's Derived/Test/ToyasCard.lean, 'card_holds'). Laid BY PROGRAM, IN A SANDBOX (cutbox-door.mjs). By AI agents, Wed Nov 11 2026. No macro, syntax, notation, axiom, sorry.
-/
import Derived.Test.YthkaekjoemhjaaaGreatDoorRows
import GoSem.ClaimSeven
namespace Go.Proofs.YthkaekjoemhjaaaGreatDoor
namespace Rows

/-- THE TIED CARD OF 'cormorantlaw24.PgsessionCuts'. -/
def pgsessionCutsCard : Claim7 := { stood := { row := pgsessionCutsRow, standIns := [], harness := (true, "3e74f42a4f92423a23fcbdf2046d132579e7d526bbce9e4833981a1b38000dc6"), looks := true }, kinds := [], alts := [], laidByText := true, laidKinds := [.data, .data, .data, .data, .listed, .data, .pinned], laidTests := true, laidLooks := .later }
def PgsessionCutsCardSaid : Prop := Claim7.holds Tryz.pinned (.plain (OpenSpec.ofChange pgsessionCutsSpec)) pgsessionCutsCard

/-- THE TIED CARD OF 'cormorantlaw24.PgsessionGrammar'. -/
def pgsessionGrammarCard : Claim7 := { stood := { row := pgsessionGrammarRow, standIns := [], harness := (true, "3e74f42a4f92423a23fcbdf2046d132579e7d526bbce9e4833981a1b38000dc6"), looks := true }, kinds := [], alts := [], laidByText := true, laidKinds := [.data, .data, .data, .data, .listed, .data, .pinned], laidTests := true, laidLooks := .later }
def PgsessionGrammarCardSaid : Prop := Claim7.holds Tryz.pinned (.plain (OpenSpec.ofChange pgsessionGrammarSpec)) pgsessionGrammarCard

/-- THE TIED CARD OF 'cormorantlaw24.PgsessionScripts'. -/
def pgsessionScriptsCard : Claim7 := { stood := { row := pgsessionScriptsRow, standIns := [], harness := (true, "3e74f42a4f92423a23fcbdf2046d132579e7d526bbce9e4833981a1b38000dc6"), looks := true }, kinds := [], alts := [], laidByText := true, laidKinds := [.data, .data, .data, .data, .listed, .data, .pinned], laidTests := true, laidLooks := .later }
def PgsessionScriptsCardSaid : Prop := Claim7.holds Tryz.pinned (.plain (OpenSpec.ofChange pgsessionScriptsSpec)) pgsessionScriptsCard

/-- THE TIED CARD OF 'cormorantlaw24.PgsessionAborts'. -/
def pgsessionAbortsCard : Claim7 := { stood := { row := pgsessionAbortsRow, standIns := [], harness := (true, "3e74f42a4f92423a23fcbdf2046d132579e7d526bbce9e4833981a1b38000dc6"), looks := true }, kinds := [], alts := [], laidByText := true, laidKinds := [.data, .data, .data, .data, .listed, .data, .pinned], laidTests := true, laidLooks := .later }
def PgsessionAbortsCardSaid : Prop := Claim7.holds Tryz.pinned (.plain (OpenSpec.ofChange pgsessionAbortsSpec)) pgsessionAbortsCard

/-- THE SECOND FORM's CARD OF 'cormorantlaw24.PgsessionCuts'. -/
def pgsessionCutsUptoCard : Claim7 := { stood := { row := pgsessionCutsUptoRow, standIns := [], harness := (true, "3e74f42a4f92423a23fcbdf2046d132579e7d526bbce9e4833981a1b38000dc6"), looks := true }, kinds := [], alts := [], laidByText := true, laidKinds := [.data, .data, .data, .data, .listed, .data, .pinned], laidTests := true, laidLooks := .later }
def PgsessionCutsUptoCardSaid : Prop := Claim7.holds Tryz.pinned (.plain (OpenSpec.upto pgsessionCutsSpec)) pgsessionCutsUptoCard

/-- THE SECOND FORM's CARD OF 'cormorantlaw24.PgsessionGrammar'. -/
def pgsessionGrammarUptoCard : Claim7 := { stood := { row := pgsessionGrammarUptoRow, standIns := [], harness := (true, "3e74f42a4f92423a23fcbdf2046d132579e7d526bbce9e4833981a1b38000dc6"), looks := true }, kinds := [], alts := [], laidByText := true, laidKinds := [.data, .data, .data, .data, .listed, .data, .pinned], laidTests := true, laidLooks := .later }
def PgsessionGrammarUptoCardSaid : Prop := Claim7.holds Tryz.pinned (.plain (OpenSpec.upto pgsessionGrammarSpec)) pgsessionGrammarUptoCard

/-- THE SECOND FORM's CARD OF 'cormorantlaw24.PgsessionScripts'. -/
def pgsessionScriptsUptoCard : Claim7 := { stood := { row := pgsessionScriptsUptoRow, standIns := [], harness := (true, "3e74f42a4f92423a23fcbdf2046d132579e7d526bbce9e4833981a1b38000dc6"), looks := true }, kinds := [], alts := [], laidByText := true, laidKinds := [.data, .data, .data, .data, .listed, .data, .pinned], laidTests := true, laidLooks := .later }
def PgsessionScriptsUptoCardSaid : Prop := Claim7.holds Tryz.pinned (.plain (OpenSpec.upto pgsessionScriptsSpec)) pgsessionScriptsUptoCard

/-- THE SECOND FORM's CARD OF 'cormorantlaw24.PgsessionAborts'. -/
def pgsessionAbortsUptoCard : Claim7 := { stood := { row := pgsessionAbortsUptoRow, standIns := [], harness := (true, "3e74f42a4f92423a23fcbdf2046d132579e7d526bbce9e4833981a1b38000dc6"), looks := true }, kinds := [], alts := [], laidByText := true, laidKinds := [.data, .data, .data, .data, .listed, .data, .pinned], laidTests := true, laidLooks := .later }
def PgsessionAbortsUptoCardSaid : Prop := Claim7.holds Tryz.pinned (.plain (OpenSpec.upto pgsessionAbortsSpec)) pgsessionAbortsUptoCard
end Rows
end Go.Proofs.YthkaekjoemhjaaaGreatDoor
