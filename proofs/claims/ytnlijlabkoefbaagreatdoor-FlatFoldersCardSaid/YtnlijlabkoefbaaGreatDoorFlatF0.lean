/-
  FlatFolders, name 0: closed runs.
-/
import Derived.Test.YtnlijlabkoefbaaGreatDoorFlatAwake
set_option linter.unusedVariables false
set_option linter.unusedSimpArgs false
namespace Go.Proofs.YtnlijlabkoefbaaGreatDoor
open Go Go.RowKit

theorem ff00 : allV (.bool true) (exec Tryz.prog summG 60 4 [.num 0 [(3, 0)] false, .num 1 [(4, 0)] false] sh0) = true := by kernel_rfl
theorem ff01 : allV (.bool true) (exec Tryz.prog summG 60 4 [.num 0 [(3, 0)] false, .num 1 [(4, 1)] false] sh0) = true := by kernel_rfl
theorem ff02 : allV (.bool true) (exec Tryz.prog summG 60 4 [.num 0 [(3, 0)] false, .num 1 [(4, 2)] false] sh0) = true := by kernel_rfl
theorem ff03 : allV (.bool true) (exec Tryz.prog summG 60 4 [.num 0 [(3, 0)] false, .num 1 [(4, 3)] false] sh0) = true := by kernel_rfl
end Go.Proofs.YtnlijlabkoefbaaGreatDoor
