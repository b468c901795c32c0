/-
  What the executor is told ahead of law 18: sums of known blocks, functions without a body, hexadecimal text.
-/
import Derived.Test.YtmcclkdkbedpmabGreatDoorJ5
import Derived.Test.YtmcclkdkbedpmabGreatDoorJ8
import Derived.Test.YtmcclkdkbedpmabGreatDoorJ6
set_option linter.unusedVariables false
set_option linter.unusedSectionVars false
set_option linter.unusedSimpArgs false
namespace Go.Proofs.YtmcclkdkbedpmabGreatDoor
open Go Go.RowKit

noncomputable def summR : CallF :=
  onF 42 hexOut (onF 102 subOut (onF 75 mixOut (onF 136 indexOut (onF 61 compareOut (onF 148 countOut noSumm)))))
section
variable [Known]
theorem summR_ok (b : Base) : CallSound Tryz.prog b summR :=
  onF_ok (fun _ _ _ _ _ _ h ho hr ha => hexOut_ok b h ho hr ha) <| onF_ok (fun _ _ _ _ _ _ h ho hr ha => subOut_ok b h hr ha) <| onF_ok (fun _ _ _ _ _ _ h ho hr ha => mixOut_ok b h ho hr ha) <| onF_ok (fun _ _ _ _ _ _ h ho hr ha => indexOut_ok b h hr ha) <| onF_ok (fun _ _ _ _ _ _ h ho hr ha => compareOut_ok b h hr ha) <|
  onF_ok (fun _ _ _ _ _ _ h ho hr ha => countOut_ok b h hr ha) noSumm_ok
end
/-- Law 18: what a program that does nothing does not answer. -/
theorem awake18_run : allV (.bool true) (exec Tryz.prog summR 60 5 [] sh0) = true := by kernel_rfl
theorem awake18_any (w : World) (hml : MaxLenIs Tryz.prog w) : Calls Tryz.prog 5 #[] w fun e w' => e = .returned (.bool true) ∧ Below w.heap.size w w' :=
  exec_all followsM summR_ok (d := 60) (f := 5) (args := []) (v := .bool true) awake18_run (given := fun _ => .bool true) (fun _ => rfl) rfl (fun _ => rfl) w hml
noncomputable def summR2 : CallF := onF 5 trueOut summR
section
variable [Known]
theorem summR2_ok (b : Base) : CallSound Tryz.prog b summR2 := onF_ok (fun _ _ _ _ _ _ h _ hr ha => trueOut_ok awake18_any b h hr ha) (summR_ok b)
end
end Go.Proofs.YtmcclkdkbedpmabGreatDoor
