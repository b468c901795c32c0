/-
  BridgeRefs: closed runs.
-/
import Derived.Test.YtdkindollljlnabGreatDoorBrB
set_option linter.unusedVariables false
set_option linter.unusedSimpArgs false
namespace Go.Proofs.YtdkindollljlnabGreatDoor
open Go Go.RowKit
theorem run1ff : runB false (u8s zeroN) false false = true := by kernel_rfl
theorem run1ft : runB false (u8s zeroN) false true = true := by kernel_rfl
theorem run1tf : runB false (u8s zeroN) true false = true := by kernel_rfl
theorem run1tt : runB false (u8s zeroN) true true = true := by kernel_rfl
end Go.Proofs.YtdkindollljlnabGreatDoor
