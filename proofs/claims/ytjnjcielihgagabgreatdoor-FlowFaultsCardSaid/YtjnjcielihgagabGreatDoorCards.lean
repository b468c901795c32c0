/-
  DERIVED. GIVEN WITH THE SEED: THE CARDS: each row of YtjnjcielihgagabGreatDoorRows.lean that lists a variable, with what it lists TIED to the program's text (the seventh form; the later family's looks); each row that meets fmt, with fmt's text TOLD by the authors' own Lean function (tested against real Go, not proved from fmt's source: count such statements apart). THE CARD IS WHAT COUNTS. Prove the row's statement (the work); the ties are given (YtjnjcielihgagabGreatDoorTie.lean); close each card by the builder's one call (the guide's Derived/Test/ToyasCard.lean, 'card_holds'). Laid BY PROGRAM, IN A SANDBOX (cutbox-door.mjs). By AI agents, Wed Nov 11 2026. No macro, syntax, notation, axiom, sorry.
-/
import Derived.Test.YtjnjcielihgagabGreatDoorRows
import GoSem.ClaimSeven
namespace Go.Proofs.YtjnjcielihgagabGreatDoor
namespace Rows

/-- THE TIED CARD OF 'trestlelaw20.FlowFaults'. -/
def flowFaultsCard : Claim7 := { stood := { row := flowFaultsRow, standIns := [], harness := (true, "941f1a2123957b8370196c42d86d831620614bdafc38454bdc7db02dc193c1b9"), looks := true }, kinds := [], alts := [], laidByText := true, laidKinds := [.data, .data, .data, .data, .sentinel, .sentinel, .data, .data, .pinned, .pinned], laidTests := true, laidLooks := .later }
def FlowFaultsCardSaid : Prop := Claim7.holds Tryz.pinned (.plain (OpenSpec.ofChange flowFaultsSpec)) flowFaultsCard

/-- THE SECOND FORM's CARD OF 'trestlelaw20.FlowFaults'. -/
def flowFaultsUptoCard : Claim7 := { stood := { row := flowFaultsUptoRow, standIns := [], harness := (true, "941f1a2123957b8370196c42d86d831620614bdafc38454bdc7db02dc193c1b9"), looks := true }, kinds := [], alts := [], laidByText := true, laidKinds := [.data, .data, .data, .data, .sentinel, .sentinel, .data, .data, .pinned, .pinned], laidTests := true, laidLooks := .later }
def FlowFaultsUptoCardSaid : Prop := Claim7.holds Tryz.pinned (.plain (OpenSpec.upto flowFaultsSpec)) flowFaultsUptoCard
end Rows
end Go.Proofs.YtjnjcielihgagabGreatDoor
