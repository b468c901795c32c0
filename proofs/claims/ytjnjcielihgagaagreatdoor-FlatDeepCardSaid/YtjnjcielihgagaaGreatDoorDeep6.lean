/-
  FlatDeep: closed runs.
-/
import Derived.Test.YtjnjcielihgagaaGreatDoorDeepS
set_option linter.unusedVariables false
set_option linter.unusedSimpArgs false
namespace Go.Proofs.YtjnjcielihgagaaGreatDoor
open Go Go.RowKit

theorem deep9 : allV (.bool true) (exec Tryz.prog summD2 60 3 [.num 0 [(19, 9)] false] sh0) = true := by kernel_rfl
theorem deep6 : allV (.bool true) (exec Tryz.prog summD2 60 3 [.num 0 [(19, 6)] false] sh0) = true := by kernel_rfl
end Go.Proofs.YtjnjcielihgagaaGreatDoor
