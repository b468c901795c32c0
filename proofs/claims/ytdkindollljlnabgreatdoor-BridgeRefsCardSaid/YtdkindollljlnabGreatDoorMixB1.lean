/-
  sha.mixed at known blocks: closed runs.
-/
import Derived.Test.YtdkindollljlnabGreatDoorJ7
import Derived.Test.YtdkindollljlnabGreatDoorChecked
set_option linter.unusedVariables false
set_option linter.unusedSimpArgs false
namespace Go.Proofs.YtdkindollljlnabGreatDoor
open Go Go.RowKit

noncomputable def blkB0 : List SV := [.int .u8 98, .int .u8 108, .int .u8 111, .int .u8 98, .int .u8 32, .int .u8 49, .int .u8 0, .int .u8 120, .int .u8 128, .int .u8 0, .int .u8 0, .int .u8 0, .int .u8 0, .int .u8 0, .int .u8 0, .int .u8 0, .int .u8 0, .int .u8 0, .int .u8 0, .int .u8 0, .int .u8 0, .int .u8 0, .int .u8 0, .int .u8 0, .int .u8 0, .int .u8 0, .int .u8 0, .int .u8 0, .int .u8 0, .int .u8 0, .int .u8 0, .int .u8 0, .int .u8 0, .int .u8 0, .int .u8 0, .int .u8 0, .int .u8 0, .int .u8 0, .int .u8 0, .int .u8 0, .int .u8 0, .int .u8 0, .int .u8 0, .int .u8 0, .int .u8 0, .int .u8 0, .int .u8 0, .int .u8 0, .int .u8 0, .int .u8 0, .int .u8 0, .int .u8 0, .int .u8 0, .int .u8 0, .int .u8 0, .int .u8 0, .int .u8 0, .int .u8 0, .int .u8 0, .int .u8 0, .int .u8 0, .int .u8 0, .int .u8 0, .int .u8 64]
noncomputable def inB0 : SV := .agg [.int .u32 1732584193, .int .u32 4023233417, .int .u32 2562383102, .int .u32 271733878, .int .u32 3285377520]
noncomputable def outB0 : SV := .agg [.int .u32 3249566478, .int .u32 20137083, .int .u32 2916078719, .int .u32 3510952532, .int .u32 2155546337]
theorem mixedB0 : frameChk outB0 blkB0 5 false (exec Tryz.prog noSumm 30 101 [inB0, .slice 0 0 64 (.rest 0)] (sh0.push (.cells blkB0 5 false))) = true := by kernel_rfl
noncomputable def blkB1 : List SV := [.int .u8 254, .int .u8 1, .int .u8 0, .int .u8 0, .int .u8 0, .int .u8 8, .int .u8 98, .int .u8 108, .int .u8 111, .int .u8 98, .int .u8 32, .int .u8 49, .int .u8 0, .int .u8 120, .int .u8 128, .int .u8 0, .int .u8 0, .int .u8 0, .int .u8 0, .int .u8 0, .int .u8 0, .int .u8 0, .int .u8 0, .int .u8 0, .int .u8 0, .int .u8 0, .int .u8 0, .int .u8 0, .int .u8 0, .int .u8 0, .int .u8 0, .int .u8 0, .int .u8 0, .int .u8 0, .int .u8 0, .int .u8 0, .int .u8 0, .int .u8 0, .int .u8 0, .int .u8 0, .int .u8 0, .int .u8 0, .int .u8 0, .int .u8 0, .int .u8 0, .int .u8 0, .int .u8 0, .int .u8 0, .int .u8 0, .int .u8 0, .int .u8 0, .int .u8 0, .int .u8 0, .int .u8 0, .int .u8 0, .int .u8 0, .int .u8 0, .int .u8 0, .int .u8 0, .int .u8 0, .int .u8 0, .int .u8 0, .int .u8 0, .int .u8 112]
noncomputable def inB1 : SV := .agg [.int .u32 1732584193, .int .u32 4023233417, .int .u32 2562383102, .int .u32 271733878, .int .u32 3285377520]
noncomputable def outB1 : SV := .agg [.int .u32 2007518406, .int .u32 2037313559, .int .u32 3043976415, .int .u32 3398813963, .int .u32 1523910506]
theorem mixedB1 : frameChk outB1 blkB1 5 false (exec Tryz.prog noSumm 30 101 [inB1, .slice 0 0 64 (.rest 0)] (sh0.push (.cells blkB1 5 false))) = true := by kernel_rfl
end Go.Proofs.YtdkindollljlnabGreatDoor
