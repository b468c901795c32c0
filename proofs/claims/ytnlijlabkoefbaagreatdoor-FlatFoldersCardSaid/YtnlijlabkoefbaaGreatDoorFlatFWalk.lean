/-
  FlatFolders: the walk.
-/
import Derived.Test.YtnlijlabkoefbaaGreatDoorFlatF0
import Derived.Test.YtnlijlabkoefbaaGreatDoorFlatF1
import Derived.Test.YtnlijlabkoefbaaGreatDoorFlatF2
set_option linter.unusedVariables false
set_option linter.unusedSimpArgs false
namespace Go.Proofs.YtnlijlabkoefbaaGreatDoor
open Go Go.RowKit

theorem flatFolders_any (v x : Int) (w : World) : Calls Tryz.prog 4 #[.int .i64 v, .int .i64 x] w fun e w' => e = .returned (.bool true) ∧ Below w.heap.size w w' := by
  have key : ∀ r s : Nat, IntKind.u64.wrap v % (3 : Nat) = (r : Nat) → IntKind.u64.wrap x % (4 : Nat) = (s : Nat) → allV (.bool true) (exec Tryz.prog summG 60 4 [.num 0 [(3, r)] false, .num 1 [(4, s)] false] sh0) = true →
      Calls Tryz.prog 4 #[.int .i64 v, .int .i64 x] w fun e w' => e = .returned (.bool true) ∧ Below w.heap.size w w' := fun r s hr hs h =>
    exec_all followsM summG_ok (d := 60) (f := 4) (v := .bool true) h (given := fun i => match i with | 0 => .int .i64 v | _ => .int .i64 x) (fun i => by cases i <;> rfl)
      (by simp only [denL, den, env0, numOf', remsOk, hr, hs, decide_true, Bool.and_self, if_true, Bool.false_eq_true, if_false]) (fun _ => rfl) w
  have h3 : ∃ r : Nat, r < 3 ∧ IntKind.u64.wrap v % (3 : Nat) = (r : Nat) := ⟨(IntKind.u64.wrap v % 3).toNat, by omega, by omega⟩
  have h4 : ∃ s : Nat, s < 4 ∧ IntKind.u64.wrap x % (4 : Nat) = (s : Nat) := ⟨(IntKind.u64.wrap x % 4).toNat, by omega, by omega⟩
  obtain ⟨r, hr, er⟩ := h3
  obtain ⟨s, hs, es⟩ := h4
  match r, s, hr, hs with
  | 0, 0, _, _ => exact key 0 0 er es ff00
  | 0, 1, _, _ => exact key 0 1 er es ff01
  | 0, 2, _, _ => exact key 0 2 er es ff02
  | 0, 3, _, _ => exact key 0 3 er es ff03
  | 1, 0, _, _ => exact key 1 0 er es ff10
  | 1, 1, _, _ => exact key 1 1 er es ff11
  | 1, 2, _, _ => exact key 1 2 er es ff12
  | 1, 3, _, _ => exact key 1 3 er es ff13
  | 2, 0, _, _ => exact key 2 0 er es ff20
  | 2, 1, _, _ => exact key 2 1 er es ff21
  | 2, 2, _, _ => exact key 2 2 er es ff22
  | 2, 3, _, _ => exact key 2 3 er es ff23
end Go.Proofs.YtnlijlabkoefbaaGreatDoor
