/-
  RepoMarks: closed runs.
-/
import Derived.Test.YtmcclkdkbedpmabGreatDoorJ9
set_option linter.unusedVariables false
set_option linter.unusedSectionVars false
set_option linter.unusedSimpArgs false
namespace Go.Proofs.YtmcclkdkbedpmabGreatDoor
open Go Go.RowKit

theorem st2 : stateR [1] = true := by kernel_rfl
theorem st10 : stateR [1, 3] = true := by kernel_rfl
theorem st18 : stateR [0, 1, 3] = true := by kernel_rfl
theorem st26 : stateR [1, 2, 3] = true := by kernel_rfl
theorem st34 : stateR [2, 3, 1] = true := by kernel_rfl
theorem st42 : stateR [0, 1, 3, 2] = true := by kernel_rfl
theorem st50 : stateR [1, 2, 3, 0] = true := by kernel_rfl
theorem st58 : stateR [2, 3, 1, 0] = true := by kernel_rfl
end Go.Proofs.YtmcclkdkbedpmabGreatDoor
