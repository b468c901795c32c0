/-
  BridgeRefs: what the runs have to show.
-/
import Derived.Test.YtdkindollljlnabGreatDoorBrS
set_option linter.unusedVariables false
set_option linter.unusedSimpArgs false
namespace Go.Proofs.YtdkindollljlnabGreatDoor
open Go Go.RowKit
/-- One run: oth: the id is another one; r, br: may the name be a ref's, a branch's. -/
noncomputable def runB (oth : Bool) (idA : List SV) (r br : Bool) : Bool := allV (.bool true) (execK Tryz.prog (askB Tryz.prog oth) oqB (summB r br) 60 3 [nameS, .agg idA] sh0)
/-- A name that is too long. -/
noncomputable def summL : CallF := onF 4 trueOut noSumm
noncomputable def runL : Bool := allV (.bool true) (exec Tryz.prog summL 60 3 [.num 0 [(0, 0), (300, 1)] false, .agg idS] sh0)
end Go.Proofs.YtdkindollljlnabGreatDoor
