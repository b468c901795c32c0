/-
  RepoMarks: closed runs.
-/
import Derived.Test.YtmcclkdkbedpmabGreatDoorJ9
set_option linter.unusedVariables false
set_option linter.unusedSectionVars false
set_option linter.unusedSimpArgs false
namespace Go.Proofs.YtmcclkdkbedpmabGreatDoor
open Go Go.RowKit

theorem st5 : stateR [0, 1] = true := by kernel_rfl
theorem st13 : stateR [2, 3] = true := by kernel_rfl
theorem st21 : stateR [0, 3, 1] = true := by kernel_rfl
theorem st29 : stateR [2, 0, 1] = true := by kernel_rfl
theorem st37 : stateR [3, 1, 0] = true := by kernel_rfl
theorem st45 : stateR [0, 3, 1, 2] = true := by kernel_rfl
theorem st53 : stateR [2, 0, 1, 3] = true := by kernel_rfl
theorem st61 : stateR [3, 1, 0, 2] = true := by kernel_rfl
end Go.Proofs.YtmcclkdkbedpmabGreatDoor
