/-
  FlatDeep: closed runs.
-/
import Derived.Test.YtjnjcielihgagaaGreatDoorDeepS
set_option linter.unusedVariables false
set_option linter.unusedSimpArgs false
namespace Go.Proofs.YtjnjcielihgagaaGreatDoor
open Go Go.RowKit

theorem deep13 : allV (.bool true) (exec Tryz.prog summD2 60 3 [.num 0 [(19, 13)] false] sh0) = true := by kernel_rfl
theorem deep2 : allV (.bool true) (exec Tryz.prog summD2 60 3 [.num 0 [(19, 2)] false] sh0) = true := by kernel_rfl
theorem deep18 : allV (.bool true) (exec Tryz.prog summD2 60 3 [.num 0 [(19, 18)] false] sh0) = true := by kernel_rfl
end Go.Proofs.YtjnjcielihgagaaGreatDoor
