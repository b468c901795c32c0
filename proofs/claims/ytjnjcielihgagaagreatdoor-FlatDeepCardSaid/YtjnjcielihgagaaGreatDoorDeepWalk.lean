/-
  FlatDeep: the walk.
-/
import Derived.Test.YtjnjcielihgagaaGreatDoorDeep0
import Derived.Test.YtjnjcielihgagaaGreatDoorDeep1
import Derived.Test.YtjnjcielihgagaaGreatDoorDeep2
import Derived.Test.YtjnjcielihgagaaGreatDoorDeep3
import Derived.Test.YtjnjcielihgagaaGreatDoorDeep4
import Derived.Test.YtjnjcielihgagaaGreatDoorDeep5
import Derived.Test.YtjnjcielihgagaaGreatDoorDeep6
import Derived.Test.YtjnjcielihgagaaGreatDoorDeep7
set_option linter.unusedVariables false
set_option linter.unusedSimpArgs false
namespace Go.Proofs.YtjnjcielihgagaaGreatDoor
open Go Go.RowKit

theorem flatDeep_any (v : Int) (w : World) (hml : MaxLenIs Tryz.prog w) : Calls Tryz.prog 3 #[.int .i64 v] w fun e w' => e = .returned (.bool true) ∧ Below w.heap.size w w' := by
  have key : ∀ r : Nat, IntKind.u64.wrap v % (19 : Nat) = (r : Nat) → allV (.bool true) (exec Tryz.prog summD2 60 3 [.num 0 [(19, r)] false] sh0) = true →
      Calls Tryz.prog 3 #[.int .i64 v] w fun e w' => e = .returned (.bool true) ∧ Below w.heap.size w w' := fun r hr h =>
    exec_all followsM summD2_ok (d := 60) (f := 3) (v := .bool true) h (given := fun _ => .int .i64 v) (fun _ => rfl)
      (by simp only [denL, den, env0, numOf', remsOk, hr, decide_true, Bool.and_self, if_true, Bool.false_eq_true, if_false]) (fun _ => rfl) w hml
  have h3 : ∃ r : Nat, r < 19 ∧ IntKind.u64.wrap v % (19 : Nat) = (r : Nat) := ⟨(IntKind.u64.wrap v % 19).toNat, by omega, by omega⟩
  obtain ⟨r, hr, er⟩ := h3
  match r, hr with
  | 0, _ => exact key 0 er deep0
  | 1, _ => exact key 1 er deep1
  | 2, _ => exact key 2 er deep2
  | 3, _ => exact key 3 er deep3
  | 4, _ => exact key 4 er deep4
  | 5, _ => exact key 5 er deep5
  | 6, _ => exact key 6 er deep6
  | 7, _ => exact key 7 er deep7
  | 8, _ => exact key 8 er deep8
  | 9, _ => exact key 9 er deep9
  | 10, _ => exact key 10 er deep10
  | 11, _ => exact key 11 er deep11
  | 12, _ => exact key 12 er deep12
  | 13, _ => exact key 13 er deep13
  | 14, _ => exact key 14 er deep14
  | 15, _ => exact key 15 er deep15
  | 16, _ => exact key 16 er deep16
  | 17, _ => exact key 17 er deep17
  | 18, _ => exact key 18 er deep18
  | n + 19, h => exact absurd h (by omega)
end Go.Proofs.YtjnjcielihgagaaGreatDoor
