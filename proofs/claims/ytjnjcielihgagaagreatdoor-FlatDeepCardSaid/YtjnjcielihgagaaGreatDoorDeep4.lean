/-
  FlatDeep: closed runs.
-/
import Derived.Test.YtjnjcielihgagaaGreatDoorDeepS
set_option linter.unusedVariables false
set_option linter.unusedSimpArgs false
namespace Go.Proofs.YtjnjcielihgagaaGreatDoor
open Go Go.RowKit

theorem deep11 : allV (.bool true) (exec Tryz.prog summD2 60 3 [.num 0 [(19, 11)] false] sh0) = true := by kernel_rfl
theorem deep4 : allV (.bool true) (exec Tryz.prog summD2 60 3 [.num 0 [(19, 4)] false] sh0) = true := by kernel_rfl
end Go.Proofs.YtjnjcielihgagaaGreatDoor
