/-
  RepoMarks: closed runs.
-/
import Derived.Test.YtmcclkdkbedpmabGreatDoorJ9
set_option linter.unusedVariables false
set_option linter.unusedSectionVars false
set_option linter.unusedSimpArgs false
namespace Go.Proofs.YtmcclkdkbedpmabGreatDoor
open Go Go.RowKit

theorem st0 : stateR [] = true := by kernel_rfl
theorem st8 : stateR [1, 0] = true := by kernel_rfl
theorem st16 : stateR [3, 2] = true := by kernel_rfl
theorem st24 : stateR [1, 0, 3] = true := by kernel_rfl
theorem st32 : stateR [2, 1, 3] = true := by kernel_rfl
theorem st40 : stateR [3, 2, 1] = true := by kernel_rfl
theorem st48 : stateR [1, 0, 3, 2] = true := by kernel_rfl
theorem st56 : stateR [2, 1, 3, 0] = true := by kernel_rfl
theorem st64 : stateR [3, 2, 1, 0] = true := by kernel_rfl
end Go.Proofs.YtmcclkdkbedpmabGreatDoor
