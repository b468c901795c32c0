/-
  What the executor is told ahead of law 18: sums of known blocks, functions without a body, hexadecimal text.
-/
import Derived.Test.YthenjjonphoklabGreatDoorOnF
import Derived.Test.YthenjjonphoklabGreatDoorMixR
import Derived.Test.YthenjjonphoklabGreatDoorExtC
import Derived.Test.YthenjjonphoklabGreatDoorHexS
set_option linter.unusedVariables false
set_option linter.unusedSimpArgs false
namespace Go.Proofs.YthenjjonphoklabGreatDoor
open Go Go.RowKit

noncomputable def summR : CallF :=
  onF 75 hexOut (onF 119 subOut (onF 108 mixOut (onF 151 indexOut (onF 97 compareOut (onF 117 countOut noSumm)))))
theorem summR_ok (b : Base) : CallSound Tryz.prog b summR :=
  onF_ok (fun _ _ _ _ _ _ h ho hr ha => hexOut_ok b h ho hr ha) <| onF_ok (fun _ _ _ _ _ _ h ho hr ha => subOut_ok b h hr ha) <| onF_ok (fun _ _ _ _ _ _ h ho hr ha => mixOut_ok b h ho hr ha) <| onF_ok (fun _ _ _ _ _ _ h ho hr ha => indexOut_ok b h hr ha) <| onF_ok (fun _ _ _ _ _ _ h ho hr ha => compareOut_ok b h hr ha) <|
  onF_ok (fun _ _ _ _ _ _ h ho hr ha => countOut_ok b h hr ha) noSumm_ok
/-- Law 18: what a program that does nothing does not answer. -/
theorem awake18_run : allV (.bool true) (exec Tryz.prog summR 60 4 [] sh0) = true := by kernel_rfl
theorem awake18_any (w : World) (hml : MaxLenIs Tryz.prog w) : Calls Tryz.prog 4 #[] w fun e w' => e = .returned (.bool true) ∧ Below w.heap.size w w' :=
  exec_all followsM summR_ok (d := 60) (f := 4) (args := []) (v := .bool true) awake18_run (given := fun _ => .bool true) (fun _ => rfl) rfl (fun _ => rfl) w hml
noncomputable def summR2 : CallF := onF 4 trueOut summR
theorem summR2_ok (b : Base) : CallSound Tryz.prog b summR2 := onF_ok (fun _ _ _ _ _ _ h _ hr ha => trueOut_ok awake18_any b h hr ha) (summR_ok b)
end Go.Proofs.YthenjjonphoklabGreatDoor
