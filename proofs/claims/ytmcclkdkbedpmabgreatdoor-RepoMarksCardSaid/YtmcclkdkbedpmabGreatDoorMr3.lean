/-
  RepoMarks: closed runs.
-/
import Derived.Test.YtmcclkdkbedpmabGreatDoorJ9
set_option linter.unusedVariables false
set_option linter.unusedSectionVars false
set_option linter.unusedSimpArgs false
namespace Go.Proofs.YtmcclkdkbedpmabGreatDoor
open Go Go.RowKit

theorem st3 : stateR [2] = true := by kernel_rfl
theorem st11 : stateR [2, 0] = true := by kernel_rfl
theorem st19 : stateR [0, 2, 1] = true := by kernel_rfl
theorem st27 : stateR [1, 3, 0] = true := by kernel_rfl
theorem st35 : stateR [3, 0, 1] = true := by kernel_rfl
theorem st43 : stateR [0, 2, 1, 3] = true := by kernel_rfl
theorem st51 : stateR [1, 3, 0, 2] = true := by kernel_rfl
theorem st59 : stateR [3, 0, 1, 2] = true := by kernel_rfl
end Go.Proofs.YtmcclkdkbedpmabGreatDoor
