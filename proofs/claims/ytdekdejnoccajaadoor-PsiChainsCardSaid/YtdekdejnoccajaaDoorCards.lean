/-
  DERIVED. GIVEN WITH THE SEED: THE CARDS: each row of YtdekdejnoccajaaDoorRows.lean that lists a variable, with what it lists TIED to the program's text (the seventh form; the later family's looks); each row that meets fmt, with fmt's text TOLD by the authors' own Lean function (tested against real Go, not proved from fmt's source: count such statements apart). THE CARD IS WHAT COUNTS. Prove the row's statement (the work); the ties are given (YtdekdejnoccajaaDoorTie.lean); close each card by the builder's one call (the guide's Derived/Test/ToyasCard.lean, 'card_holds'). Laid BY PROGRAM, IN A SANDBOX (cutbox-door.mjs). By AI agents, Wed Nov 11 2026. No macro, syntax, notation, axiom, sorry.
-/
import Derived.Test.YtdekdejnoccajaaDoorRows
import GoSem.ClaimSeven
namespace Go.Proofs.YtdekdejnoccajaaDoor
namespace Rows

/-- THE TIED CARD OF 'trestlelaw24.PsiChains'. -/
def psiChainsCard : Claim7 := { stood := { row := psiChainsRow, standIns := [], harness := (true, "7a11f9b7855119cc54db26442f760176460276bbaf9182c41737652af24ea097"), looks := true }, kinds := [], alts := [], laidByText := true, laidKinds := [.data, .data, .data, .sentinel, .sentinel], laidTests := true, laidLooks := .later }
def PsiChainsCardSaid : Prop := Claim7.holds Tryd.pinned (.plain (OpenSpec.ofChange psiChainsSpec)) psiChainsCard

/-- THE TIED CARD OF 'trestlelaw10.ObjectsStay'. -/
def objectsStayCard : Claim7 := { stood := { row := objectsStayRow, standIns := [], harness := (true, "7a11f9b7855119cc54db26442f760176460276bbaf9182c41737652af24ea097"), looks := true }, kinds := [], alts := [], laidByText := true, laidKinds := [.data, .data, .data], laidTests := true, laidLooks := .later }
def ObjectsStayCardSaid : Prop := Claim7.holds Tryd.pinned (.plain (OpenSpec.ofChange objectsStaySpec)) objectsStayCard

/-- THE SECOND FORM's CARD OF 'trestlelaw24.PsiChains'. -/
def psiChainsUptoCard : Claim7 := { stood := { row := psiChainsUptoRow, standIns := [], harness := (true, "7a11f9b7855119cc54db26442f760176460276bbaf9182c41737652af24ea097"), looks := true }, kinds := [], alts := [], laidByText := true, laidKinds := [.data, .data, .data, .sentinel, .sentinel], laidTests := true, laidLooks := .later }
def PsiChainsUptoCardSaid : Prop := Claim7.holds Tryd.pinned (.plain (OpenSpec.upto psiChainsSpec)) psiChainsUptoCard

/-- THE SECOND FORM's CARD OF 'trestlelaw10.ObjectsStay'. -/
def objectsStayUptoCard : Claim7 := { stood := { row := objectsStayUptoRow, standIns := [], harness := (true, "7a11f9b7855119cc54db26442f760176460276bbaf9182c41737652af24ea097"), looks := true }, kinds := [], alts := [], laidByText := true, laidKinds := [.data, .data, .data], laidTests := true, laidLooks := .later }
def ObjectsStayUptoCardSaid : Prop := Claim7.holds Tryd.pinned (.plain (OpenSpec.upto objectsStaySpec)) objectsStayUptoCard
end Rows
end Go.Proofs.YtdekdejnoccajaaDoor
