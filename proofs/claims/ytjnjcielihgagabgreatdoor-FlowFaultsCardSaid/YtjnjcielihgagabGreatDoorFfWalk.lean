/-
  FlowFaults: the walk.
-/
import Derived.Test.YtjnjcielihgagabGreatDoorFf0
import Derived.Test.YtjnjcielihgagabGreatDoorFf1
import Derived.Test.YtjnjcielihgagabGreatDoorFf2
import Derived.Test.YtjnjcielihgagabGreatDoorFf3
import Derived.Test.YtjnjcielihgagabGreatDoorFf4
import Derived.Test.YtjnjcielihgagabGreatDoorFf5
set_option linter.unusedVariables false
set_option linter.unusedSimpArgs false
namespace Go.Proofs.YtjnjcielihgagabGreatDoor
open Go Go.RowKit

theorem flowFaults_any (v x : Int) (w : World) (hml : MaxLenIs Tryz.prog w) : Calls Tryz.prog 3 #[.int .i64 v, .int .i64 x] w fun e w' => e = .returned (.bool true) ∧ Below w.heap.size w w' := by
  have key : ∀ r s : Nat, IntKind.u64.wrap v % (6 : Nat) = (r : Nat) → IntKind.u64.wrap x % (6 : Nat) = (s : Nat) → allV (.bool true) (exec Tryz.prog summE2 60 3 [.num 0 [(6, r)] false, .num 1 [(6, s)] false] sh0) = true →
      Calls Tryz.prog 3 #[.int .i64 v, .int .i64 x] w fun e w' => e = .returned (.bool true) ∧ Below w.heap.size w w' := fun r s hr hs h =>
    exec_all followsM summE2_ok (d := 60) (f := 3) (v := .bool true) h (given := fun i => match i with | 0 => .int .i64 v | _ => .int .i64 x) (fun i => by cases i <;> rfl)
      (by simp only [denL, den, env0, numOf', remsOk, hr, hs, decide_true, Bool.and_self, if_true, Bool.false_eq_true, if_false]) (fun _ => rfl) w hml
  have h3 : ∃ r : Nat, r < 6 ∧ IntKind.u64.wrap v % (6 : Nat) = (r : Nat) := ⟨(IntKind.u64.wrap v % 6).toNat, by omega, by omega⟩
  have h4 : ∃ s : Nat, s < 6 ∧ IntKind.u64.wrap x % (6 : Nat) = (s : Nat) := ⟨(IntKind.u64.wrap x % 6).toNat, by omega, by omega⟩
  obtain ⟨r, hr, er⟩ := h3
  obtain ⟨s, hs, es⟩ := h4
  match r, s, hr, hs with
  | 0, 0, _, _ => exact key 0 0 er es ff00
  | 0, 1, _, _ => exact key 0 1 er es ff01
  | 0, 2, _, _ => exact key 0 2 er es ff02
  | 0, 3, _, _ => exact key 0 3 er es ff03
  | 0, 4, _, _ => exact key 0 4 er es ff04
  | 0, 5, _, _ => exact key 0 5 er es ff05
  | 1, 0, _, _ => exact key 1 0 er es ff10
  | 1, 1, _, _ => exact key 1 1 er es ff11
  | 1, 2, _, _ => exact key 1 2 er es ff12
  | 1, 3, _, _ => exact key 1 3 er es ff13
  | 1, 4, _, _ => exact key 1 4 er es ff14
  | 1, 5, _, _ => exact key 1 5 er es ff15
  | 2, 0, _, _ => exact key 2 0 er es ff20
  | 2, 1, _, _ => exact key 2 1 er es ff21
  | 2, 2, _, _ => exact key 2 2 er es ff22
  | 2, 3, _, _ => exact key 2 3 er es ff23
  | 2, 4, _, _ => exact key 2 4 er es ff24
  | 2, 5, _, _ => exact key 2 5 er es ff25
  | 3, 0, _, _ => exact key 3 0 er es ff30
  | 3, 1, _, _ => exact key 3 1 er es ff31
  | 3, 2, _, _ => exact key 3 2 er es ff32
  | 3, 3, _, _ => exact key 3 3 er es ff33
  | 3, 4, _, _ => exact key 3 4 er es ff34
  | 3, 5, _, _ => exact key 3 5 er es ff35
  | 4, 0, _, _ => exact key 4 0 er es ff40
  | 4, 1, _, _ => exact key 4 1 er es ff41
  | 4, 2, _, _ => exact key 4 2 er es ff42
  | 4, 3, _, _ => exact key 4 3 er es ff43
  | 4, 4, _, _ => exact key 4 4 er es ff44
  | 4, 5, _, _ => exact key 4 5 er es ff45
  | 5, 0, _, _ => exact key 5 0 er es ff50
  | 5, 1, _, _ => exact key 5 1 er es ff51
  | 5, 2, _, _ => exact key 5 2 er es ff52
  | 5, 3, _, _ => exact key 5 3 er es ff53
  | 5, 4, _, _ => exact key 5 4 er es ff54
  | 5, 5, _, _ => exact key 5 5 er es ff55
  | n + 6, _, h, _ => exact absurd h (by omega)
  | _, n + 6, _, h => exact absurd h (by omega)
end Go.Proofs.YtjnjcielihgagabGreatDoor
