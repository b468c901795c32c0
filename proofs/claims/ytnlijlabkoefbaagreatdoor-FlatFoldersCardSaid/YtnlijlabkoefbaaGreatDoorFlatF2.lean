/-
  FlatFolders, name 2: closed runs.
-/
import Derived.Test.YtnlijlabkoefbaaGreatDoorFlatAwake
set_option linter.unusedVariables false
set_option linter.unusedSimpArgs false
namespace Go.Proofs.YtnlijlabkoefbaaGreatDoor
open Go Go.RowKit

theorem ff20 : allV (.bool true) (exec Tryz.prog summG 60 4 [.num 0 [(3, 2)] false, .num 1 [(4, 0)] false] sh0) = true := by kernel_rfl
theorem ff21 : allV (.bool true) (exec Tryz.prog summG 60 4 [.num 0 [(3, 2)] false, .num 1 [(4, 1)] false] sh0) = true := by kernel_rfl
theorem ff22 : allV (.bool true) (exec Tryz.prog summG 60 4 [.num 0 [(3, 2)] false, .num 1 [(4, 2)] false] sh0) = true := by kernel_rfl
theorem ff23 : allV (.bool true) (exec Tryz.prog summG 60 4 [.num 0 [(3, 2)] false, .num 1 [(4, 3)] false] sh0) = true := by kernel_rfl
end Go.Proofs.YtnlijlabkoefbaaGreatDoor
