/-
  FlatDeep: closed runs.
-/
import Derived.Test.YtjnjcielihgagaaGreatDoorDeepS
set_option linter.unusedVariables false
set_option linter.unusedSimpArgs false
namespace Go.Proofs.YtjnjcielihgagaaGreatDoor
open Go Go.RowKit

theorem deep15 : allV (.bool true) (exec Tryz.prog summD2 60 3 [.num 0 [(19, 15)] false] sh0) = true := by kernel_rfl
theorem deep0 : allV (.bool true) (exec Tryz.prog summD2 60 3 [.num 0 [(19, 0)] false] sh0) = true := by kernel_rfl
theorem deep16 : allV (.bool true) (exec Tryz.prog summD2 60 3 [.num 0 [(19, 16)] false] sh0) = true := by kernel_rfl
end Go.Proofs.YtjnjcielihgagaaGreatDoor
