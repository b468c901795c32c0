/-
  RepoMarks: closed runs.
-/
import Derived.Test.YtmcclkdkbedpmabGreatDoorJ9
set_option linter.unusedVariables false
set_option linter.unusedSectionVars false
set_option linter.unusedSimpArgs false
namespace Go.Proofs.YtmcclkdkbedpmabGreatDoor
open Go Go.RowKit

theorem st4 : stateR [3] = true := by kernel_rfl
theorem st12 : stateR [2, 1] = true := by kernel_rfl
theorem st20 : stateR [0, 2, 3] = true := by kernel_rfl
theorem st28 : stateR [1, 3, 2] = true := by kernel_rfl
theorem st36 : stateR [3, 0, 2] = true := by kernel_rfl
theorem st44 : stateR [0, 2, 3, 1] = true := by kernel_rfl
theorem st52 : stateR [1, 3, 2, 0] = true := by kernel_rfl
theorem st60 : stateR [3, 0, 2, 1] = true := by kernel_rfl
end Go.Proofs.YtmcclkdkbedpmabGreatDoor
