/-
  ObjectsNil: the walk.
-/
import Derived.Test.YtnlijlabkoefbaaGreatDoorKeysD
set_option linter.unusedVariables false
set_option linter.unusedSimpArgs false
namespace Go.Proofs.YtnlijlabkoefbaaGreatDoor
open Go Go.RowKit

theorem follows : Tryz.prog.follows .mixedOrders = true := by kernel_rfl

/-- The one block that is summed. -/
noncomputable def blkA : List SV := [.int .u8 98, .int .u8 108, .int .u8 111, .int .u8 98, .int .u8 32, .int .u8 49, .int .u8 0, .int .u8 97, .int .u8 128, .int .u8 0, .int .u8 0, .int .u8 0, .int .u8 0, .int .u8 0, .int .u8 0, .int .u8 0, .int .u8 0, .int .u8 0, .int .u8 0, .int .u8 0, .int .u8 0, .int .u8 0, .int .u8 0, .int .u8 0, .int .u8 0, .int .u8 0, .int .u8 0, .int .u8 0, .int .u8 0, .int .u8 0, .int .u8 0, .int .u8 0, .int .u8 0, .int .u8 0, .int .u8 0, .int .u8 0, .int .u8 0, .int .u8 0, .int .u8 0, .int .u8 0, .int .u8 0, .int .u8 0, .int .u8 0, .int .u8 0, .int .u8 0, .int .u8 0, .int .u8 0, .int .u8 0, .int .u8 0, .int .u8 0, .int .u8 0, .int .u8 0, .int .u8 0, .int .u8 0, .int .u8 0, .int .u8 0, .int .u8 0, .int .u8 0, .int .u8 0, .int .u8 0, .int .u8 0, .int .u8 0, .int .u8 0, .int .u8 64]
noncomputable def stateA : SV := .agg [.int .u32 1732584193, .int .u32 4023233417, .int .u32 2562383102, .int .u32 271733878, .int .u32 3285377520]
noncomputable def stateB : SV := .agg [.int .u32 778432482, .int .u32 2705710503, .int .u32 3998339444, .int .u32 312080456, .int .u32 3854529838]
theorem mixedA : frameChk stateB blkA 5 false (exec Tryz.prog noSumm 30 75 [stateA, .slice 0 0 64 (.rest 0)] (sh0.push (.cells blkA 5 false))) = true := by kernel_rfl
end Go.Proofs.YtnlijlabkoefbaaGreatDoor
