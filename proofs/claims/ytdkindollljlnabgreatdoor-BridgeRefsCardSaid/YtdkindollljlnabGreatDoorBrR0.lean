/-
  BridgeRefs: closed runs.
-/
import Derived.Test.YtdkindollljlnabGreatDoorBrB
set_option linter.unusedVariables false
set_option linter.unusedSimpArgs false
namespace Go.Proofs.YtdkindollljlnabGreatDoor
open Go Go.RowKit
theorem run0ff : runB true idS false false = true := by kernel_rfl
theorem run0ft : runB true idS false true = true := by kernel_rfl
theorem run0tf : runB true idS true false = true := by kernel_rfl
theorem run0tt : runB true idS true true = true := by kernel_rfl
theorem runLong : runL = true := by kernel_rfl
end Go.Proofs.YtdkindollljlnabGreatDoor
