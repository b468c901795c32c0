/-
  What the executor is told ahead of RepoMarks; the names of bookmarks.
-/
import Derived.Test.YtmcclkdkbedpmabGreatDoorRepoSumm
import Derived.Test.YtmcclkdkbedpmabGreatDoorJ8
import Derived.Test.YtmcclkdkbedpmabGreatDoorJ6
import Derived.Test.YtmcclkdkbedpmabGreatDoorJ7
import Derived.Test.YtmcclkdkbedpmabGreatDoorJ5
set_option linter.unusedVariables false
set_option linter.unusedSectionVars false
set_option linter.unusedSimpArgs false
namespace Go.Proofs.YtmcclkdkbedpmabGreatDoor
open Go Go.RowKit

noncomputable def summMB : CallF := onF 75 (orO mixOutM mixOut) (onF 101 copyOut (onF 69 strOut (onF 58 (orO collectROut collectDOut) (summR2))))
section
variable [Known]
theorem summMB_ok (b : Base) : CallSound Tryz.prog b summMB := onF_ok (fun _ _ _ _ _ _ h ho hr ha => (orO_or h).elim (fun h => mixOutM_ok b h ho hr ha) fun h => mixOut_ok b h ho hr ha) <| onF_ok (fun _ _ _ _ _ _ h ho hr ha => copyOut_ok b h ho hr ha) <| onF_ok (fun _ _ _ _ _ _ h ho hr ha => strOut_ok b h ho hr ha) <| onF_ok (fun _ _ _ _ _ _ h ho hr ha => (orO_or h).elim (fun h => collectROut_ok b h hr ha) fun h => collectDOut_ok b h hr ha) <| summR2_ok b
end
theorem branch97_run : allV (.bool true) (exec Tryz.prog summMB 60 34 [.str [97]] sh0) = true := by kernel_rfl
theorem branch97_any (w : World) (hml : MaxLenIs Tryz.prog w) : Calls Tryz.prog 34 #[.string (bytesOf [97])] w fun e w' => e = .returned (.bool true) ∧ Below w.heap.size w w' :=
  exec_all followsM summMB_ok (d := 60) (f := 34) (args := [.str [97]]) (v := .bool true) branch97_run (given := fun _ => .bool true) (fun _ => rfl) rfl (fun _ => rfl) w hml
theorem branch98_run : allV (.bool true) (exec Tryz.prog summMB 60 34 [.str [98]] sh0) = true := by kernel_rfl
theorem branch98_any (w : World) (hml : MaxLenIs Tryz.prog w) : Calls Tryz.prog 34 #[.string (bytesOf [98])] w fun e w' => e = .returned (.bool true) ∧ Below w.heap.size w w' :=
  exec_all followsM summMB_ok (d := 60) (f := 34) (args := [.str [98]]) (v := .bool true) branch98_run (given := fun _ => .bool true) (fun _ => rfl) rfl (fun _ => rfl) w hml
theorem branch99_run : allV (.bool true) (exec Tryz.prog summMB 60 34 [.str [99]] sh0) = true := by kernel_rfl
theorem branch99_any (w : World) (hml : MaxLenIs Tryz.prog w) : Calls Tryz.prog 34 #[.string (bytesOf [99])] w fun e w' => e = .returned (.bool true) ∧ Below w.heap.size w w' :=
  exec_all followsM summMB_ok (d := 60) (f := 34) (args := [.str [99]]) (v := .bool true) branch99_run (given := fun _ => .bool true) (fun _ => rfl) rfl (fun _ => rfl) w hml
theorem branch100_run : allV (.bool true) (exec Tryz.prog summMB 60 34 [.str [100]] sh0) = true := by kernel_rfl
theorem branch100_any (w : World) (hml : MaxLenIs Tryz.prog w) : Calls Tryz.prog 34 #[.string (bytesOf [100])] w fun e w' => e = .returned (.bool true) ∧ Below w.heap.size w w' :=
  exec_all followsM summMB_ok (d := 60) (f := 34) (args := [.str [100]]) (v := .bool true) branch100_run (given := fun _ => .bool true) (fun _ => rfl) rfl (fun _ => rfl) w hml
noncomputable def summMC : CallF := onF 34 (orO (constOut [.str [97]] (.bool true)) (orO (constOut [.str [98]] (.bool true)) (orO (constOut [.str [99]] (.bool true)) (constOut [.str [100]] (.bool true))))) summMB
section
variable [Known]
theorem summMC_ok (b : Base) : CallSound Tryz.prog b summMC := onF_ok (fun _ _ _ _ _ _ h ho hr ha => (orO_or h).elim (fun h => constOut_ok (fun _ => rfl) (fun _ => rfl) branch97_any b h hr ha) (fun h => (orO_or h).elim (fun h => constOut_ok (fun _ => rfl) (fun _ => rfl) branch98_any b h hr ha) (fun h => (orO_or h).elim (fun h => constOut_ok (fun _ => rfl) (fun _ => rfl) branch99_any b h hr ha) (fun h => constOut_ok (fun _ => rfl) (fun _ => rfl) branch100_any b h hr ha)))) (summMB_ok b)
end
end Go.Proofs.YtmcclkdkbedpmabGreatDoor
