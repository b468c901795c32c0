/-
  RepoMarks: all that the executor is told.

  RepoMarks: what the runs have to show of one state.
-/
import Derived.Test.YtmcclkdkbedpmabGreatDoorMk0
import Derived.Test.YtmcclkdkbedpmabGreatDoorMk1
import Derived.Test.YtmcclkdkbedpmabGreatDoorMk2
import Derived.Test.YtmcclkdkbedpmabGreatDoorJ6
set_option linter.unusedSectionVars false
set_option linter.unusedSimpArgs false
set_option linter.unusedVariables false
namespace Go.Proofs.YtmcclkdkbedpmabGreatDoor
open Go Go.RowKit

noncomputable def sm_mk0 : CallF := frMemo 6 mk0A 8 mk0H mk0E summMC
section
variable [Known]
theorem sm_mk0_ok (b : Base) : CallSound Tryz.prog b sm_mk0 := frMemo_ok followsM summMC_ok mk0_run (summMC_ok b)
end
noncomputable def sm_mk1 : CallF := frMemo 6 mk1A 565 mk1H mk1E sm_mk0
section
variable [Known]
theorem sm_mk1_ok (b : Base) : CallSound Tryz.prog b sm_mk1 := frMemo_ok followsM summMC_ok mk1_run (sm_mk0_ok b)
end
noncomputable def sm_mk2 : CallF := frMemo 6 mk2A 1138 mk2H mk2E sm_mk1
section
variable [Known]
theorem sm_mk2_ok (b : Base) : CallSound Tryz.prog b sm_mk2 := frMemo_ok followsM summMC_ok mk2_run (sm_mk1_ok b)
end
noncomputable def summM : CallF := sm_mk2
section
variable [Known]
theorem summM_ok (b : Base) : CallSound Tryz.prog b summM := sm_mk2_ok b
end
end Go.Proofs.YtmcclkdkbedpmabGreatDoor

namespace Go.Proofs.YtmcclkdkbedpmabGreatDoor
open Go Go.RowKit

noncomputable def oneR (m : List Nat) (b1 b2 : Bool) (r s : Nat) : Bool := isE (codeO Tryz.prog (orcM false b1 b2 r s) oqM summMC 60 loopM (rowOf slotM 0) (heapOf 1722 (heapM m)) (kRound m b1 r (match b2 with | true => s | false => 3)))
noncomputable def finR (m : List Nat) : Bool := allV (.bool true) (codeO Tryz.prog (orcM false false false 0 0) oqM summMC 60 postM (rowOf slotP 0) (heapOf 1722 (heapM m)) (endK Tryz.prog Tryz.f3.results.toList))
noncomputable def startR (m : List Nat) : Bool := chkM slotM SV.opq m (rowOf slotM 0) (heapOf 1722 (heapM m))
noncomputable def startP (m : List Nat) : Bool := chkM slotP SV.opq m (rowOf slotP 0) (heapOf 1722 (heapM m))
noncomputable def goesR (m : List Nat) (r k : Nat) : Bool := statesM.contains ((nextM m r k).map (·.1))
/-- All rounds from this state, and the end. -/
noncomputable def roundsR (m : List Nat) (r : Nat) : Bool := oneR m true false r 0 && (goesR m r 3 && (oneR m true true r 0 && (goesR m r 0 && (oneR m true true r 1 && (goesR m r 1 && (oneR m true true r 2 && (goesR m r 2 && oneR m true true r 3)))))))
noncomputable def stateR (m : List Nat) : Bool := startR m && (startP m && (finR m && (oneR m false false 0 0 && (roundsR m 0 && (roundsR m 1 && (roundsR m 2 && roundsR m 3))))))
end Go.Proofs.YtmcclkdkbedpmabGreatDoor

