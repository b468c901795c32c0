/-
  RepoMarks: closed runs.
-/
import Derived.Test.YtmcclkdkbedpmabGreatDoorJ9
set_option linter.unusedVariables false
set_option linter.unusedSectionVars false
set_option linter.unusedSimpArgs false
namespace Go.Proofs.YtmcclkdkbedpmabGreatDoor
open Go Go.RowKit

theorem st1 : stateR [0] = true := by kernel_rfl
theorem st9 : stateR [1, 2] = true := by kernel_rfl
theorem st17 : stateR [0, 1, 2] = true := by kernel_rfl
theorem st25 : stateR [1, 2, 0] = true := by kernel_rfl
theorem st33 : stateR [2, 3, 0] = true := by kernel_rfl
theorem st41 : stateR [0, 1, 2, 3] = true := by kernel_rfl
theorem st49 : stateR [1, 2, 0, 3] = true := by kernel_rfl
theorem st57 : stateR [2, 3, 0, 1] = true := by kernel_rfl
end Go.Proofs.YtmcclkdkbedpmabGreatDoor
