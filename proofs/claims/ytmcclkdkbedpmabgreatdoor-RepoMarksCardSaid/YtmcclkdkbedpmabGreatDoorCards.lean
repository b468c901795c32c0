/-
  DERIVED. GIVEN WITH THE SEED: THE CARDS: each row of YtmcclkdkbedpmabGreatDoorRows.lean that lists a variable, with what it lists TIED to the program's text (the seventh form; the later family's looks); each row that meets fmt, with fmt's text TOLD by the authors' own Lean function (tested against real Go, not proved from fmt's source: count such statements apart). THE CARD IS WHAT COUNTS. Prove the row's statement (the work); the ties are given (YtmcclkdkbedpmabGreatDoorTie.lean); close each card by the builder's one call (the guide's Derived/Test/ToyasCard.lean, 'card_holds'). Laid BY PROGRAM, IN A SANDBOX (cutbox-door.mjs). By AI agents, Wed Nov 11 2026. No macro, syntax, notation, axiom, sorry.
-/
import Derived.Test.YtmcclkdkbedpmabGreatDoorRows
import GoSem.ClaimSeven
namespace Go.Proofs.YtmcclkdkbedpmabGreatDoor
namespace Rows

/-- THE TIED CARD OF 'trestlelaw18.RepoMarks'. -/
def repoMarksCard : Claim7 := { stood := { row := repoMarksRow, standIns := [], harness := (true, "9f002cc4c0ef4719a830c711dea0a5da14e8485d7f84272da2348a82f84a192a"), looks := true }, kinds := [], alts := [], laidByText := true, laidKinds := [.data, .data, .data, .data, .sentinel, .sentinel, .data, .data, .pinned, .pinned], laidTests := true, laidLooks := .later }
def RepoMarksCardSaid : Prop := Claim7.holds Tryz.pinned (.plain (OpenSpec.ofChange repoMarksSpec)) repoMarksCard

/-- THE SECOND FORM's CARD OF 'trestlelaw18.RepoMarks'. -/
def repoMarksUptoCard : Claim7 := { stood := { row := repoMarksUptoRow, standIns := [], harness := (true, "9f002cc4c0ef4719a830c711dea0a5da14e8485d7f84272da2348a82f84a192a"), looks := true }, kinds := [], alts := [], laidByText := true, laidKinds := [.data, .data, .data, .data, .sentinel, .sentinel, .data, .data, .pinned, .pinned], laidTests := true, laidLooks := .later }
def RepoMarksUptoCardSaid : Prop := Claim7.holds Tryz.pinned (.plain (OpenSpec.upto repoMarksSpec)) repoMarksUptoCard
end Rows
end Go.Proofs.YtmcclkdkbedpmabGreatDoor
