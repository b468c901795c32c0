/-
  DERIVED. GIVEN WITH THE SEED: THE CARDS: each row of YtjnjcielihgagaaGreatDoorRows.lean that lists a variable, with what it lists TIED to the program's text (the seventh form; the later family's looks); each row that meets fmt, with fmt's text TOLD by the authors' own Lean function (tested against real Go, not proved from fmt's source: count such statements apart). THE CARD IS WHAT COUNTS. Prove the row's statement (the work); the ties are given (YtjnjcielihgagaaGreatDoorTie.lean); close each card by the builder's one call (the guide's Derived/Test/ToyasCard.lean, 'card_holds'). Laid BY PROGRAM, IN A SANDBOX (cutbox-door.mjs). By AI agents, Wed Nov 11 2026. No macro, syntax, notation, axiom, sorry.
-/
import Derived.Test.YtjnjcielihgagaaGreatDoorRows
import GoSem.ClaimSeven
namespace Go.Proofs.YtjnjcielihgagaaGreatDoor
namespace Rows

/-- THE TIED CARD OF 'trestlelaw13.FlatDeep'. -/
def flatDeepCard : Claim7 := { stood := { row := flatDeepRow, standIns := [], harness := (true, "c0442fea4a0fdedd2461ca0f98270617d174cf4ee17ff673e89cadbd3e44b0cf"), looks := true }, kinds := [], alts := [], laidByText := true, laidKinds := [.data, .data, .data, .data, .data, .data, .pinned, .pinned], laidTests := true, laidLooks := .later }
def FlatDeepCardSaid : Prop := Claim7.holds Tryz.pinned (.plain (OpenSpec.ofChange flatDeepSpec)) flatDeepCard

/-- THE SECOND FORM's CARD OF 'trestlelaw13.FlatDeep'. -/
def flatDeepUptoCard : Claim7 := { stood := { row := flatDeepUptoRow, standIns := [], harness := (true, "c0442fea4a0fdedd2461ca0f98270617d174cf4ee17ff673e89cadbd3e44b0cf"), looks := true }, kinds := [], alts := [], laidByText := true, laidKinds := [.data, .data, .data, .data, .data, .data, .pinned, .pinned], laidTests := true, laidLooks := .later }
def FlatDeepUptoCardSaid : Prop := Claim7.holds Tryz.pinned (.plain (OpenSpec.upto flatDeepSpec)) flatDeepUptoCard
end Rows
end Go.Proofs.YtjnjcielihgagaaGreatDoor
