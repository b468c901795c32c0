/-
  RepoMarks: closed runs.
-/
import Derived.Test.YtmcclkdkbedpmabGreatDoorJ9
set_option linter.unusedVariables false
set_option linter.unusedSectionVars false
set_option linter.unusedSimpArgs false
namespace Go.Proofs.YtmcclkdkbedpmabGreatDoor
open Go Go.RowKit

theorem st7 : stateR [0, 3] = true := by kernel_rfl
theorem st15 : stateR [3, 1] = true := by kernel_rfl
theorem st23 : stateR [1, 0, 2] = true := by kernel_rfl
theorem st31 : stateR [2, 1, 0] = true := by kernel_rfl
theorem st39 : stateR [3, 2, 0] = true := by kernel_rfl
theorem st47 : stateR [1, 0, 2, 3] = true := by kernel_rfl
theorem st55 : stateR [2, 1, 0, 3] = true := by kernel_rfl
theorem st63 : stateR [3, 2, 0, 1] = true := by kernel_rfl
end Go.Proofs.YtmcclkdkbedpmabGreatDoor
