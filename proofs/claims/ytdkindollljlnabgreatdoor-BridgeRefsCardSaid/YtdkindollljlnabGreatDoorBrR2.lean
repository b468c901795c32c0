/-
  BridgeRefs: closed runs.
-/
import Derived.Test.YtdkindollljlnabGreatDoorBrB
set_option linter.unusedVariables false
set_option linter.unusedSimpArgs false
namespace Go.Proofs.YtdkindollljlnabGreatDoor
open Go Go.RowKit
theorem run2ff : runB false (u8s blobN) false false = true := by kernel_rfl
theorem run2ft : runB false (u8s blobN) false true = true := by kernel_rfl
theorem run2tf : runB false (u8s blobN) true false = true := by kernel_rfl
theorem run2tt : runB false (u8s blobN) true true = true := by kernel_rfl
end Go.Proofs.YtdkindollljlnabGreatDoor
