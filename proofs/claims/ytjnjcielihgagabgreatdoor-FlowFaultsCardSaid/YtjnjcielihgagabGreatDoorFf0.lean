/-
  FlowFaults: closed runs.
-/
import Derived.Test.YtjnjcielihgagabGreatDoorFfS
set_option linter.unusedVariables false
set_option linter.unusedSimpArgs false
namespace Go.Proofs.YtjnjcielihgagabGreatDoor
open Go Go.RowKit

theorem ff50 : allV (.bool true) (exec Tryz.prog summE2 60 3 [.num 0 [(6, 5)] false, .num 1 [(6, 0)] false] sh0) = true := by kernel_rfl
theorem ff41 : allV (.bool true) (exec Tryz.prog summE2 60 3 [.num 0 [(6, 4)] false, .num 1 [(6, 1)] false] sh0) = true := by kernel_rfl
theorem ff32 : allV (.bool true) (exec Tryz.prog summE2 60 3 [.num 0 [(6, 3)] false, .num 1 [(6, 2)] false] sh0) = true := by kernel_rfl
theorem ff23 : allV (.bool true) (exec Tryz.prog summE2 60 3 [.num 0 [(6, 2)] false, .num 1 [(6, 3)] false] sh0) = true := by kernel_rfl
theorem ff14 : allV (.bool true) (exec Tryz.prog summE2 60 3 [.num 0 [(6, 1)] false, .num 1 [(6, 4)] false] sh0) = true := by kernel_rfl
theorem ff05 : allV (.bool true) (exec Tryz.prog summE2 60 3 [.num 0 [(6, 0)] false, .num 1 [(6, 5)] false] sh0) = true := by kernel_rfl
end Go.Proofs.YtjnjcielihgagabGreatDoor
