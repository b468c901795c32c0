/-
  RepoMarks: a changeset is made: a closed run.
-/
import Derived.Test.YtmcclkdkbedpmabGreatDoorMarksS
set_option linter.unusedVariables false
set_option linter.unusedSectionVars false
set_option linter.unusedSimpArgs false
namespace Go.Proofs.YtmcclkdkbedpmabGreatDoor
open Go Go.RowKit

noncomputable def mk0A : List SV := [.ptr 6 0, .agg (u8s [0, 0, 0, 0, 0, 0, 0, 0, 0, 0, 0, 0, 0, 0, 0, 0, 0, 0, 0, 0, 0, 0, 0, 0, 0, 0, 0, 0, 0, 0, 0, 0, 0, 0, 0, 0, 0, 0, 0, 0, 0, 0, 0, 0, 0, 0, 0, 0, 0, 0, 0, 0, 0, 0, 0, 0, 0, 0, 0, 0] ++ [.str [65], .int .i64 0, .int .i64 0, .str [100, 101, 102, 97, 117, 108, 116], .nils, .nils, .str [48]]), .nils]
noncomputable def mk0H : Blks := [(0, .map []),
  (1, .map []),
  (2, .cells [.nils, .map 1] 67 true),
  (3, .map []),
  (4, .cells [.nils, .map 3] 67 true),
  (5, .map []),
  (6, .cells [.map 0, .ptr 2 0, .ptr 4 0, .map 5] 50 true)]
noncomputable def mk0O0 : Blks := [(0, .map []),
  (1, .map [(.agg (u8s [184, 13, 229, 209, 56, 117, 133, 65, 197, 240, 82, 101, 173, 20, 74, 185, 250, 134, 209, 219]), .int .i64 0)]),
  (2, .cells [.slice 421 0 1 (.rest 0), .map 1] 67 true),
  (3, .map [(.agg (u8s [4, 165, 198, 234, 132, 23, 13, 212, 158, 68, 17, 194, 181, 0, 118, 8, 199, 251, 245, 23]), .int .i64 0)]),
  (4, .cells [.slice 560 0 1 (.rest 0), .map 3] 67 true),
  (5, .map []),
  (6, .cells [.map 0, .ptr 2 0, .ptr 4 0, .map 5] 50 true),
  (421, .cells (u8s [184, 13, 229, 209, 56, 117, 133, 65, 197, 240, 82, 101, 173, 20, 74, 185, 250, 134, 209, 219, 0, 0, 0, 0, 0, 0, 0, 0, 0, 0, 0, 0, 0, 0, 0, 0, 0, 0, 0, 0, 0, 0, 0, 0, 0, 0, 0, 0, 0, 0, 0, 0, 0, 0, 0, 0, 0, 0, 0, 0] ++ [.iface 161 (.agg [.nils])]) 110 false),
  (557, .cells (u8s [98, 56, 48, 100, 101, 53, 100, 49, 51, 56, 55, 53, 56, 53, 52, 49, 99, 53, 102, 48, 53, 50, 54, 53, 97, 100, 49, 52, 52, 97, 98, 57, 102, 97, 56, 54, 100, 49, 100, 98, 10, 65, 10, 48, 32, 48, 10, 98, 114, 97, 110, 99, 104, 32, 100, 101, 102, 97, 117, 108, 116, 10, 10, 48]) 5 false),
  (560, .cells (u8s [4, 165, 198, 234, 132, 23, 13, 212, 158, 68, 17, 194, 181, 0, 118, 8, 199, 251, 245, 23, 0, 0, 0, 0, 0, 0, 0, 0, 0, 0, 0, 0, 0, 0, 0, 0, 0, 0, 0, 0, 0, 0, 0, 0, 0, 0, 0, 0, 0, 0, 0, 0, 0, 0, 0, 0, 0, 0, 0, 0] ++ [.iface 161 (.agg [.slice 557 0 64 (.rest 0)])]) 110 false)]
noncomputable def mk0E : List End1 := [⟨.tuple [.agg (u8s [4, 165, 198, 234, 132, 23, 13, 212, 158, 68, 17, 194, 181, 0, 118, 8, 199, 251, 245, 23]), .int .i64 0], 561, mk0O0⟩]
theorem mk0_run : frChk mk0E (exec Tryz.prog summMC 60 6 mk0A (heapOf 8 mk0H)) = true := by kernel_rfl
end Go.Proofs.YtmcclkdkbedpmabGreatDoor
