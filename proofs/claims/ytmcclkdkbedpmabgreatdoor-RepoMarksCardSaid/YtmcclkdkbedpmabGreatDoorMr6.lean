/-
  RepoMarks: closed runs.
-/
import Derived.Test.YtmcclkdkbedpmabGreatDoorJ9
set_option linter.unusedVariables false
set_option linter.unusedSectionVars false
set_option linter.unusedSimpArgs false
namespace Go.Proofs.YtmcclkdkbedpmabGreatDoor
open Go Go.RowKit

theorem st6 : stateR [0, 2] = true := by kernel_rfl
theorem st14 : stateR [3, 0] = true := by kernel_rfl
theorem st22 : stateR [0, 3, 2] = true := by kernel_rfl
theorem st30 : stateR [2, 0, 3] = true := by kernel_rfl
theorem st38 : stateR [3, 1, 2] = true := by kernel_rfl
theorem st46 : stateR [0, 3, 2, 1] = true := by kernel_rfl
theorem st54 : stateR [2, 0, 3, 1] = true := by kernel_rfl
theorem st62 : stateR [3, 1, 2, 0] = true := by kernel_rfl
end Go.Proofs.YtmcclkdkbedpmabGreatDoor
