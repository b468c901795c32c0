/-
  DERIVED. GIVEN WITH THE SEED: THE CARDS: each row of YtnlijlabkoefbaaGreatDoorRows.lean that lists a variable, with what it lists TIED to the program's text (the seventh form; the later family's looks); each row that meets fmt, with fmt's text TOLD by the authors' own Lean function (tested against real Go, not proved from fmt's source: count such statements apart). THE CARD IS WHAT COUNTS. Prove the row's statement (the work); the ties are given (YtnlijlabkoefbaaGreatDoorTie.lean); close each card by the builder's one call (the guide's Derived/Test/ToyasCard.lean, 'card_holds'). Laid BY PROGRAM, IN A SANDBOX (cutbox-door.mjs). By AI agents, Wed Nov 11 2026. No macro, syntax, notation, axiom, sorry.
-/
import Derived.Test.YtnlijlabkoefbaaGreatDoorRows
import GoSem.ClaimSeven
namespace Go.Proofs.YtnlijlabkoefbaaGreatDoor
namespace Rows

/-- THE TIED CARD OF 'trestlelaw10.ObjectsNil'. -/
def objectsNilCard : Claim7 := { stood := { row := objectsNilRow, standIns := [], harness := (true, "34c2e117fde3fe242269de583e0997bfbabf54c1a13329e47dabdfe6e27c808f"), looks := true }, kinds := [], alts := [], laidByText := true, laidKinds := [.data, .data, .data, .data, .sentinel, .sentinel, .data, .data, .pinned, .pinned], laidTests := true, laidLooks := .later }
def ObjectsNilCardSaid : Prop := Claim7.holds Tryz.pinned (.plain (OpenSpec.ofChange objectsNilSpec)) objectsNilCard

/-- THE TIED CARD OF 'trestlelaw13.FlatFolders'. -/
def flatFoldersCard : Claim7 := { stood := { row := flatFoldersRow, standIns := [], harness := (true, "34c2e117fde3fe242269de583e0997bfbabf54c1a13329e47dabdfe6e27c808f"), looks := true }, kinds := [], alts := [], laidByText := true, laidKinds := [.data, .data, .data, .data, .data, .data, .pinned, .pinned], laidTests := true, laidLooks := .later }
def FlatFoldersCardSaid : Prop := Claim7.holds Tryz.pinned (.plain (OpenSpec.ofChange flatFoldersSpec)) flatFoldersCard

/-- THE TIED CARD OF 'trestlelaw13.FlatDeep'. -/
def flatDeepCard : Claim7 := { stood := { row := flatDeepRow, standIns := [], harness := (true, "34c2e117fde3fe242269de583e0997bfbabf54c1a13329e47dabdfe6e27c808f"), looks := true }, kinds := [], alts := [], laidByText := true, laidKinds := [.data, .data, .data, .data, .data, .data, .pinned, .pinned], laidTests := true, laidLooks := .later }
def FlatDeepCardSaid : Prop := Claim7.holds Tryz.pinned (.plain (OpenSpec.ofChange flatDeepSpec)) flatDeepCard

/-- THE SECOND FORM's CARD OF 'trestlelaw10.ObjectsNil'. -/
def objectsNilUptoCard : Claim7 := { stood := { row := objectsNilUptoRow, standIns := [], harness := (true, "34c2e117fde3fe242269de583e0997bfbabf54c1a13329e47dabdfe6e27c808f"), looks := true }, kinds := [], alts := [], laidByText := true, laidKinds := [.data, .data, .data, .data, .sentinel, .sentinel, .data, .data, .pinned, .pinned], laidTests := true, laidLooks := .later }
def ObjectsNilUptoCardSaid : Prop := Claim7.holds Tryz.pinned (.plain (OpenSpec.upto objectsNilSpec)) objectsNilUptoCard

/-- THE SECOND FORM's CARD OF 'trestlelaw13.FlatFolders'. -/
def flatFoldersUptoCard : Claim7 := { stood := { row := flatFoldersUptoRow, standIns := [], harness := (true, "34c2e117fde3fe242269de583e0997bfbabf54c1a13329e47dabdfe6e27c808f"), looks := true }, kinds := [], alts := [], laidByText := true, laidKinds := [.data, .data, .data, .data, .data, .data, .pinned, .pinned], laidTests := true, laidLooks := .later }
def FlatFoldersUptoCardSaid : Prop := Claim7.holds Tryz.pinned (.plain (OpenSpec.upto flatFoldersSpec)) flatFoldersUptoCard

/-- THE SECOND FORM's CARD OF 'trestlelaw13.FlatDeep'. -/
def flatDeepUptoCard : Claim7 := { stood := { row := flatDeepUptoRow, standIns := [], harness := (true, "34c2e117fde3fe242269de583e0997bfbabf54c1a13329e47dabdfe6e27c808f"), looks := true }, kinds := [], alts := [], laidByText := true, laidKinds := [.data, .data, .data, .data, .data, .data, .pinned, .pinned], laidTests := true, laidLooks := .later }
def FlatDeepUptoCardSaid : Prop := Claim7.holds Tryz.pinned (.plain (OpenSpec.upto flatDeepSpec)) flatDeepUptoCard
end Rows
end Go.Proofs.YtnlijlabkoefbaaGreatDoor
