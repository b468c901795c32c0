/-
  DERIVED. GIVEN WITH THE SEED: THE CARDS: each row of YtdkindollljlnabGreatDoorRows.lean that lists a variable, with what it lists TIED to the program's text (the seventh form; the later family's looks); each row that meets fmt, with fmt's text TOLD by the authors' own Lean function (tested against real Go, not proved from fmt's source: count such statements apart). THE CARD IS WHAT COUNTS. Prove the row's statement (the work); the ties are given (YtdkindollljlnabGreatDoorTie.lean); close each card by the builder's one call (the guide's Derived/Test/ToyasCard.lean, 'card_holds'). Laid BY PROGRAM, IN A SANDBOX (cutbox-door.mjs). By AI agents, Wed Nov 11 2026. No macro, syntax, notation, axiom, sorry.
-/
import Derived.Test.YtdkindollljlnabGreatDoorRows
import GoSem.ClaimSeven
namespace Go.Proofs.YtdkindollljlnabGreatDoor
namespace Rows

/-- THE TIED CARD OF 'trestlelaw27.BridgeRefs'. -/
def bridgeRefsCard : Claim7 := { stood := { row := bridgeRefsRow, standIns := [], harness := (true, "126dd4a3807ef53569ee8385d3488eee10a4b4b5ef061897955da9b6013b3dd0"), looks := true }, kinds := [], alts := [], laidByText := true, laidKinds := [.data, .data, .data, .data, .sentinel, .sentinel, .data, .data, .pinned, .pinned], laidTests := true, laidLooks := .later }
def BridgeRefsCardSaid : Prop := Claim7.holds Tryz.pinned (.plain (OpenSpec.ofChange bridgeRefsSpec)) bridgeRefsCard

/-- THE SECOND FORM's CARD OF 'trestlelaw27.BridgeRefs'. -/
def bridgeRefsUptoCard : Claim7 := { stood := { row := bridgeRefsUptoRow, standIns := [], harness := (true, "126dd4a3807ef53569ee8385d3488eee10a4b4b5ef061897955da9b6013b3dd0"), looks := true }, kinds := [], alts := [], laidByText := true, laidKinds := [.data, .data, .data, .data, .sentinel, .sentinel, .data, .data, .pinned, .pinned], laidTests := true, laidLooks := .later }
def BridgeRefsUptoCardSaid : Prop := Claim7.holds Tryz.pinned (.plain (OpenSpec.upto bridgeRefsSpec)) bridgeRefsUptoCard
end Rows
end Go.Proofs.YtdkindollljlnabGreatDoor
