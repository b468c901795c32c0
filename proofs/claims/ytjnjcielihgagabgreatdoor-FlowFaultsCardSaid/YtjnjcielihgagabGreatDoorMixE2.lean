/-
  sha.mixed at known blocks: closed runs.
-/
import Derived.Test.YtjnjcielihgagabGreatDoorJ5
import Derived.Test.YtjnjcielihgagabGreatDoorChecked
set_option linter.unusedVariables false
set_option linter.unusedSimpArgs false
namespace Go.Proofs.YtjnjcielihgagabGreatDoor
open Go Go.RowKit

noncomputable def blkE3 : List SV := [.int .u8 98, .int .u8 108, .int .u8 111, .int .u8 98, .int .u8 32, .int .u8 49, .int .u8 0, .int .u8 3, .int .u8 128, .int .u8 0, .int .u8 0, .int .u8 0, .int .u8 0, .int .u8 0, .int .u8 0, .int .u8 0, .int .u8 0, .int .u8 0, .int .u8 0, .int .u8 0, .int .u8 0, .int .u8 0, .int .u8 0, .int .u8 0, .int .u8 0, .int .u8 0, .int .u8 0, .int .u8 0, .int .u8 0, .int .u8 0, .int .u8 0, .int .u8 0, .int .u8 0, .int .u8 0, .int .u8 0, .int .u8 0, .int .u8 0, .int .u8 0, .int .u8 0, .int .u8 0, .int .u8 0, .int .u8 0, .int .u8 0, .int .u8 0, .int .u8 0, .int .u8 0, .int .u8 0, .int .u8 0, .int .u8 0, .int .u8 0, .int .u8 0, .int .u8 0, .int .u8 0, .int .u8 0, .int .u8 0, .int .u8 0, .int .u8 0, .int .u8 0, .int .u8 0, .int .u8 0, .int .u8 0, .int .u8 0, .int .u8 0, .int .u8 64]
noncomputable def inE3 : SV := .agg [.int .u32 1732584193, .int .u32 4023233417, .int .u32 2562383102, .int .u32 271733878, .int .u32 3285377520]
noncomputable def outE3 : SV := .agg [.int .u32 4230698643, .int .u32 3758873578, .int .u32 1064610912, .int .u32 1167793652, .int .u32 1009341270]
theorem mixedE3 : frameChk outE3 blkE3 5 false (exec Tryz.prog noSumm 30 74 [inE3, .slice 0 0 64 (.rest 0)] (sh0.push (.cells blkE3 5 false))) = true := by kernel_rfl
noncomputable def blkE4 : List SV := [.int .u8 98, .int .u8 108, .int .u8 111, .int .u8 98, .int .u8 32, .int .u8 49, .int .u8 0, .int .u8 4, .int .u8 128, .int .u8 0, .int .u8 0, .int .u8 0, .int .u8 0, .int .u8 0, .int .u8 0, .int .u8 0, .int .u8 0, .int .u8 0, .int .u8 0, .int .u8 0, .int .u8 0, .int .u8 0, .int .u8 0, .int .u8 0, .int .u8 0, .int .u8 0, .int .u8 0, .int .u8 0, .int .u8 0, .int .u8 0, .int .u8 0, .int .u8 0, .int .u8 0, .int .u8 0, .int .u8 0, .int .u8 0, .int .u8 0, .int .u8 0, .int .u8 0, .int .u8 0, .int .u8 0, .int .u8 0, .int .u8 0, .int .u8 0, .int .u8 0, .int .u8 0, .int .u8 0, .int .u8 0, .int .u8 0, .int .u8 0, .int .u8 0, .int .u8 0, .int .u8 0, .int .u8 0, .int .u8 0, .int .u8 0, .int .u8 0, .int .u8 0, .int .u8 0, .int .u8 0, .int .u8 0, .int .u8 0, .int .u8 0, .int .u8 64]
noncomputable def inE4 : SV := .agg [.int .u32 1732584193, .int .u32 4023233417, .int .u32 2562383102, .int .u32 271733878, .int .u32 3285377520]
noncomputable def outE4 : SV := .agg [.int .u32 1168689666, .int .u32 3217566886, .int .u32 4032020815, .int .u32 901550246, .int .u32 942351890]
theorem mixedE4 : frameChk outE4 blkE4 5 false (exec Tryz.prog noSumm 30 74 [inE4, .slice 0 0 64 (.rest 0)] (sh0.push (.cells blkE4 5 false))) = true := by kernel_rfl
noncomputable def blkE5 : List SV := [.int .u8 98, .int .u8 108, .int .u8 111, .int .u8 98, .int .u8 32, .int .u8 49, .int .u8 0, .int .u8 120, .int .u8 128, .int .u8 0, .int .u8 0, .int .u8 0, .int .u8 0, .int .u8 0, .int .u8 0, .int .u8 0, .int .u8 0, .int .u8 0, .int .u8 0, .int .u8 0, .int .u8 0, .int .u8 0, .int .u8 0, .int .u8 0, .int .u8 0, .int .u8 0, .int .u8 0, .int .u8 0, .int .u8 0, .int .u8 0, .int .u8 0, .int .u8 0, .int .u8 0, .int .u8 0, .int .u8 0, .int .u8 0, .int .u8 0, .int .u8 0, .int .u8 0, .int .u8 0, .int .u8 0, .int .u8 0, .int .u8 0, .int .u8 0, .int .u8 0, .int .u8 0, .int .u8 0, .int .u8 0, .int .u8 0, .int .u8 0, .int .u8 0, .int .u8 0, .int .u8 0, .int .u8 0, .int .u8 0, .int .u8 0, .int .u8 0, .int .u8 0, .int .u8 0, .int .u8 0, .int .u8 0, .int .u8 0, .int .u8 0, .int .u8 64]
noncomputable def inE5 : SV := .agg [.int .u32 1732584193, .int .u32 4023233417, .int .u32 2562383102, .int .u32 271733878, .int .u32 3285377520]
noncomputable def outE5 : SV := .agg [.int .u32 3249566478, .int .u32 20137083, .int .u32 2916078719, .int .u32 3510952532, .int .u32 2155546337]
theorem mixedE5 : frameChk outE5 blkE5 5 false (exec Tryz.prog noSumm 30 74 [inE5, .slice 0 0 64 (.rest 0)] (sh0.push (.cells blkE5 5 false))) = true := by kernel_rfl
end Go.Proofs.YtjnjcielihgagabGreatDoor
