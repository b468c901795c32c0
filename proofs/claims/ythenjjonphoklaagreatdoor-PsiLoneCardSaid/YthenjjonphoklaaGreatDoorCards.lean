/-
  DERIVED. GIVEN WITH THE SEED: THE CARDS: each row of YthenjjonphoklaaGreatDoorRows.lean that lists a variable, with what it lists TIED to the program's text (the seventh form; the later family's looks); each row that meets fmt, with fmt's text TOLD by the authors' own Lean function (tested against real Go, not proved from fmt's source: count such statements apart). THE CARD IS WHAT COUNTS. Prove the row's statement (the work); the ties are given (YthenjjonphoklaaGreatDoorTie.lean); close each card by the builder's one call (the guide's Derived/Test/ToyasCard.lean, 'card_holds'). Laid BY PROGRAM, IN A SANDBOX (cutbox-door.mjs). By AI agents, Wed Nov 11 2026. No macro, syntax, notation, axiom, sorry.
-/
import Derived.Test.YthenjjonphoklaaGreatDoorRows
import GoSem.ClaimSeven
namespace Go.Proofs.YthenjjonphoklaaGreatDoor
namespace Rows

/-- THE TIED CARD OF 'trestlelaw24.PsiLone'. -/
def psiLoneCard : Claim7 := { stood := { row := psiLoneRow, standIns := [], harness := (true, "dd4419f3fa4e39c02cdc76f49cc631f0f910dbbf4e9ee5696e92350e9b0d139d"), looks := true }, kinds := [], alts := [], laidByText := true, laidKinds := [.data, .data, .data, .data, .sentinel, .sentinel, .data, .data, .pinned, .pinned], laidTests := true, laidLooks := .later }
def PsiLoneCardSaid : Prop := Claim7.holds Tryz.pinned (.plain (OpenSpec.ofChange psiLoneSpec)) psiLoneCard

/-- THE SECOND FORM's CARD OF 'trestlelaw24.PsiLone'. -/
def psiLoneUptoCard : Claim7 := { stood := { row := psiLoneUptoRow, standIns := [], harness := (true, "dd4419f3fa4e39c02cdc76f49cc631f0f910dbbf4e9ee5696e92350e9b0d139d"), looks := true }, kinds := [], alts := [], laidByText := true, laidKinds := [.data, .data, .data, .data, .sentinel, .sentinel, .data, .data, .pinned, .pinned], laidTests := true, laidLooks := .later }
def PsiLoneUptoCardSaid : Prop := Claim7.holds Tryz.pinned (.plain (OpenSpec.upto psiLoneSpec)) psiLoneUptoCard
end Rows
end Go.Proofs.YthenjjonphoklaaGreatDoor
