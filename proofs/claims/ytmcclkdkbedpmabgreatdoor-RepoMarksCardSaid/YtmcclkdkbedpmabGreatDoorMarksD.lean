/-
  RepoMarks: the runs, together; the head of the law.
-/
import Derived.Test.YtmcclkdkbedpmabGreatDoorMr0
import Derived.Test.YtmcclkdkbedpmabGreatDoorMr1
import Derived.Test.YtmcclkdkbedpmabGreatDoorMr2
import Derived.Test.YtmcclkdkbedpmabGreatDoorMr3
import Derived.Test.YtmcclkdkbedpmabGreatDoorMr4
import Derived.Test.YtmcclkdkbedpmabGreatDoorMr5
import Derived.Test.YtmcclkdkbedpmabGreatDoorMr6
import Derived.Test.YtmcclkdkbedpmabGreatDoorMr7
set_option linter.unusedVariables false
set_option linter.unusedSectionVars false
set_option linter.unusedSimpArgs false
namespace Go.Proofs.YtmcclkdkbedpmabGreatDoor
open Go Go.RowKit

theorem allRm : ∀ m ∈ statesM, stateR m = true := List.forall_mem_cons.2 ⟨st0, List.forall_mem_cons.2 ⟨st1, List.forall_mem_cons.2 ⟨st2, List.forall_mem_cons.2 ⟨st3, List.forall_mem_cons.2 ⟨st4, List.forall_mem_cons.2 ⟨st5, List.forall_mem_cons.2 ⟨st6, List.forall_mem_cons.2 ⟨st7, List.forall_mem_cons.2 ⟨st8, List.forall_mem_cons.2 ⟨st9, List.forall_mem_cons.2 ⟨st10, List.forall_mem_cons.2 ⟨st11, List.forall_mem_cons.2 ⟨st12, List.forall_mem_cons.2 ⟨st13, List.forall_mem_cons.2 ⟨st14, List.forall_mem_cons.2 ⟨st15, List.forall_mem_cons.2 ⟨st16, List.forall_mem_cons.2 ⟨st17, List.forall_mem_cons.2 ⟨st18, List.forall_mem_cons.2 ⟨st19, List.forall_mem_cons.2 ⟨st20, List.forall_mem_cons.2 ⟨st21, List.forall_mem_cons.2 ⟨st22, List.forall_mem_cons.2 ⟨st23, List.forall_mem_cons.2 ⟨st24, List.forall_mem_cons.2 ⟨st25, List.forall_mem_cons.2 ⟨st26, List.forall_mem_cons.2 ⟨st27, List.forall_mem_cons.2 ⟨st28, List.forall_mem_cons.2 ⟨st29, List.forall_mem_cons.2 ⟨st30, List.forall_mem_cons.2 ⟨st31, List.forall_mem_cons.2 ⟨st32, List.forall_mem_cons.2 ⟨st33, List.forall_mem_cons.2 ⟨st34, List.forall_mem_cons.2 ⟨st35, List.forall_mem_cons.2 ⟨st36, List.forall_mem_cons.2 ⟨st37, List.forall_mem_cons.2 ⟨st38, List.forall_mem_cons.2 ⟨st39, List.forall_mem_cons.2 ⟨st40, List.forall_mem_cons.2 ⟨st41, List.forall_mem_cons.2 ⟨st42, List.forall_mem_cons.2 ⟨st43, List.forall_mem_cons.2 ⟨st44, List.forall_mem_cons.2 ⟨st45, List.forall_mem_cons.2 ⟨st46, List.forall_mem_cons.2 ⟨st47, List.forall_mem_cons.2 ⟨st48, List.forall_mem_cons.2 ⟨st49, List.forall_mem_cons.2 ⟨st50, List.forall_mem_cons.2 ⟨st51, List.forall_mem_cons.2 ⟨st52, List.forall_mem_cons.2 ⟨st53, List.forall_mem_cons.2 ⟨st54, List.forall_mem_cons.2 ⟨st55, List.forall_mem_cons.2 ⟨st56, List.forall_mem_cons.2 ⟨st57, List.forall_mem_cons.2 ⟨st58, List.forall_mem_cons.2 ⟨st59, List.forall_mem_cons.2 ⟨st60, List.forall_mem_cons.2 ⟨st61, List.forall_mem_cons.2 ⟨st62, List.forall_mem_cons.2 ⟨st63, List.forall_mem_cons.2 ⟨st64, fun _ h => by cases h⟩⟩⟩⟩⟩⟩⟩⟩⟩⟩⟩⟩⟩⟩⟩⟩⟩⟩⟩⟩⟩⟩⟩⟩⟩⟩⟩⟩⟩⟩⟩⟩⟩⟩⟩⟩⟩⟩⟩⟩⟩⟩⟩⟩⟩⟩⟩⟩⟩⟩⟩⟩⟩⟩⟩⟩⟩⟩⟩⟩⟩⟩⟩⟩⟩
theorem pre_run : isE (seqsB (codeO Tryz.prog (orcM false false false 0 0) oqM summM 60) preM (rowOf [.opq 0, .opq 1] 165) sh0 (kPre (codeO Tryz.prog (orcM false false false 0 0) oqM summM 60))) = true := by kernel_rfl
theorem big_run : allV (.bool true) (seqsB (codeO Tryz.prog (orcM true false false 0 0) oqM summM 60) preM (rowOf [.opq 0, .opq 1] 165) sh0 kBig) = true := by kernel_rfl
end Go.Proofs.YtmcclkdkbedpmabGreatDoor
