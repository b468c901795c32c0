/-
  sha.mixed at known blocks: closed runs.
-/
import Derived.Test.YtjnjcielihgagabGreatDoorJ5
import Derived.Test.YtjnjcielihgagabGreatDoorChecked
set_option linter.unusedVariables false
set_option linter.unusedSimpArgs false
namespace Go.Proofs.YtjnjcielihgagabGreatDoor
open Go Go.RowKit

noncomputable def blkE0 : List SV := [.int .u8 98, .int .u8 108, .int .u8 111, .int .u8 98, .int .u8 32, .int .u8 49, .int .u8 0, .int .u8 0, .int .u8 128, .int .u8 0, .int .u8 0, .int .u8 0, .int .u8 0, .int .u8 0, .int .u8 0, .int .u8 0, .int .u8 0, .int .u8 0, .int .u8 0, .int .u8 0, .int .u8 0, .int .u8 0, .int .u8 0, .int .u8 0, .int .u8 0, .int .u8 0, .int .u8 0, .int .u8 0, .int .u8 0, .int .u8 0, .int .u8 0, .int .u8 0, .int .u8 0, .int .u8 0, .int .u8 0, .int .u8 0, .int .u8 0, .int .u8 0, .int .u8 0, .int .u8 0, .int .u8 0, .int .u8 0, .int .u8 0, .int .u8 0, .int .u8 0, .int .u8 0, .int .u8 0, .int .u8 0, .int .u8 0, .int .u8 0, .int .u8 0, .int .u8 0, .int .u8 0, .int .u8 0, .int .u8 0, .int .u8 0, .int .u8 0, .int .u8 0, .int .u8 0, .int .u8 0, .int .u8 0, .int .u8 0, .int .u8 0, .int .u8 64]
noncomputable def inE0 : SV := .agg [.int .u32 1732584193, .int .u32 4023233417, .int .u32 2562383102, .int .u32 271733878, .int .u32 3285377520]
noncomputable def outE0 : SV := .agg [.int .u32 4151169592, .int .u32 2917173527, .int .u32 3866175332, .int .u32 2708087296, .int .u32 1515214653]
theorem mixedE0 : frameChk outE0 blkE0 5 false (exec Tryz.prog noSumm 30 74 [inE0, .slice 0 0 64 (.rest 0)] (sh0.push (.cells blkE0 5 false))) = true := by kernel_rfl
noncomputable def blkE1 : List SV := [.int .u8 98, .int .u8 108, .int .u8 111, .int .u8 98, .int .u8 32, .int .u8 49, .int .u8 0, .int .u8 1, .int .u8 128, .int .u8 0, .int .u8 0, .int .u8 0, .int .u8 0, .int .u8 0, .int .u8 0, .int .u8 0, .int .u8 0, .int .u8 0, .int .u8 0, .int .u8 0, .int .u8 0, .int .u8 0, .int .u8 0, .int .u8 0, .int .u8 0, .int .u8 0, .int .u8 0, .int .u8 0, .int .u8 0, .int .u8 0, .int .u8 0, .int .u8 0, .int .u8 0, .int .u8 0, .int .u8 0, .int .u8 0, .int .u8 0, .int .u8 0, .int .u8 0, .int .u8 0, .int .u8 0, .int .u8 0, .int .u8 0, .int .u8 0, .int .u8 0, .int .u8 0, .int .u8 0, .int .u8 0, .int .u8 0, .int .u8 0, .int .u8 0, .int .u8 0, .int .u8 0, .int .u8 0, .int .u8 0, .int .u8 0, .int .u8 0, .int .u8 0, .int .u8 0, .int .u8 0, .int .u8 0, .int .u8 0, .int .u8 0, .int .u8 64]
noncomputable def inE1 : SV := .agg [.int .u32 1732584193, .int .u32 4023233417, .int .u32 2562383102, .int .u32 271733878, .int .u32 3285377520]
noncomputable def outE1 : SV := .agg [.int .u32 1797958262, .int .u32 1081238920, .int .u32 3167999358, .int .u32 501526833, .int .u32 1535062366]
theorem mixedE1 : frameChk outE1 blkE1 5 false (exec Tryz.prog noSumm 30 74 [inE1, .slice 0 0 64 (.rest 0)] (sh0.push (.cells blkE1 5 false))) = true := by kernel_rfl
noncomputable def blkE2 : List SV := [.int .u8 98, .int .u8 108, .int .u8 111, .int .u8 98, .int .u8 32, .int .u8 49, .int .u8 0, .int .u8 2, .int .u8 128, .int .u8 0, .int .u8 0, .int .u8 0, .int .u8 0, .int .u8 0, .int .u8 0, .int .u8 0, .int .u8 0, .int .u8 0, .int .u8 0, .int .u8 0, .int .u8 0, .int .u8 0, .int .u8 0, .int .u8 0, .int .u8 0, .int .u8 0, .int .u8 0, .int .u8 0, .int .u8 0, .int .u8 0, .int .u8 0, .int .u8 0, .int .u8 0, .int .u8 0, .int .u8 0, .int .u8 0, .int .u8 0, .int .u8 0, .int .u8 0, .int .u8 0, .int .u8 0, .int .u8 0, .int .u8 0, .int .u8 0, .int .u8 0, .int .u8 0, .int .u8 0, .int .u8 0, .int .u8 0, .int .u8 0, .int .u8 0, .int .u8 0, .int .u8 0, .int .u8 0, .int .u8 0, .int .u8 0, .int .u8 0, .int .u8 0, .int .u8 0, .int .u8 0, .int .u8 0, .int .u8 0, .int .u8 0, .int .u8 64]
noncomputable def inE2 : SV := .agg [.int .u32 1732584193, .int .u32 4023233417, .int .u32 2562383102, .int .u32 271733878, .int .u32 3285377520]
noncomputable def outE2 : SV := .agg [.int .u32 634099035, .int .u32 2721411574, .int .u32 4278015950, .int .u32 3479136069, .int .u32 1108392904]
theorem mixedE2 : frameChk outE2 blkE2 5 false (exec Tryz.prog noSumm 30 74 [inE2, .slice 0 0 64 (.rest 0)] (sh0.push (.cells blkE2 5 false))) = true := by kernel_rfl
end Go.Proofs.YtjnjcielihgagabGreatDoor
