/-
  PsiLone: the walk.
-/
import Derived.Test.YthenjjonphoklaaGreatDoorPl0
import Derived.Test.YthenjjonphoklaaGreatDoorPl1
import Derived.Test.YthenjjonphoklaaGreatDoorPl2
import Derived.Test.YthenjjonphoklaaGreatDoorPl3
set_option linter.unusedVariables false
set_option linter.unusedSimpArgs false
namespace Go.Proofs.YthenjjonphoklaaGreatDoor
open Go Go.RowKit

noncomputable def sm_pl0 : CallF := frMemo 6 pl0A 8 pl0H pl0E summP2
theorem sm_pl0_ok (b : Base) : CallSound Tryz.prog b sm_pl0 := frMemo_ok followsM summP2_ok pl0_run (summP2_ok b)
noncomputable def sm_pl1 : CallF := frMemo 6 pl1A 570 pl1H pl1E sm_pl0
theorem sm_pl1_ok (b : Base) : CallSound Tryz.prog b sm_pl1 := frMemo_ok followsM summP2_ok pl1_run (sm_pl0_ok b)
noncomputable def sm_pl2 : CallF := frMemo 6 pl2A 1143 pl2H pl2E sm_pl1
theorem sm_pl2_ok (b : Base) : CallSound Tryz.prog b sm_pl2 := frMemo_ok followsM summP2_ok pl2_run (sm_pl1_ok b)
noncomputable def sm_pl3 : CallF := frMemo 6 pl3A 2213 pl3H pl3E sm_pl2
theorem sm_pl3_ok (b : Base) : CallSound Tryz.prog b sm_pl3 := frMemo_ok followsM summP2_ok pl3_run (sm_pl2_ok b)
noncomputable def sm_pl4 : CallF := frMemo 8 pl4A 2867 pl4H pl4E sm_pl3
theorem sm_pl4_ok (b : Base) : CallSound Tryz.prog b sm_pl4 := frMemo_ok followsM summP2_ok pl4_run (sm_pl3_ok b)
noncomputable def sm_pl5 : CallF := frMemo 8 pl5A 2948 pl5H pl5E sm_pl4
theorem sm_pl5_ok (b : Base) : CallSound Tryz.prog b sm_pl5 := frMemo_ok followsM summP2_ok pl5_run (sm_pl4_ok b)
noncomputable def sm_pl6 : CallF := frMemo 6 pl6A 2216 pl6H pl6E sm_pl5
theorem sm_pl6_ok (b : Base) : CallSound Tryz.prog b sm_pl6 := frMemo_ok followsM summP2_ok pl6_run (sm_pl5_ok b)
noncomputable def sm_pl7 : CallF := frMemo 8 pl7A 3204 pl7H pl7E sm_pl6
theorem sm_pl7_ok (b : Base) : CallSound Tryz.prog b sm_pl7 := frMemo_ok followsM summP2_ok pl7_run (sm_pl6_ok b)
noncomputable def sm_pl8 : CallF := frMemo 8 pl8A 3285 pl8H pl8E sm_pl7
theorem sm_pl8_ok (b : Base) : CallSound Tryz.prog b sm_pl8 := frMemo_ok followsM summP2_ok pl8_run (sm_pl7_ok b)
noncomputable def sm_pl9 : CallF := frMemo 6 pl9A 1143 pl9H pl9E sm_pl8
theorem sm_pl9_ok (b : Base) : CallSound Tryz.prog b sm_pl9 := frMemo_ok followsM summP2_ok pl9_run (sm_pl8_ok b)
noncomputable def sm_pl10 : CallF := frMemo 6 pl10A 2213 pl10H pl10E sm_pl9
theorem sm_pl10_ok (b : Base) : CallSound Tryz.prog b sm_pl10 := frMemo_ok followsM summP2_ok pl10_run (sm_pl9_ok b)
noncomputable def sm_pl11 : CallF := frMemo 8 pl11A 2867 pl11H pl11E sm_pl10
theorem sm_pl11_ok (b : Base) : CallSound Tryz.prog b sm_pl11 := frMemo_ok followsM summP2_ok pl11_run (sm_pl10_ok b)
noncomputable def sm_pl12 : CallF := frMemo 8 pl12A 2948 pl12H pl12E sm_pl11
theorem sm_pl12_ok (b : Base) : CallSound Tryz.prog b sm_pl12 := frMemo_ok followsM summP2_ok pl12_run (sm_pl11_ok b)
noncomputable def sm_pl13 : CallF := frMemo 6 pl13A 2216 pl13H pl13E sm_pl12
theorem sm_pl13_ok (b : Base) : CallSound Tryz.prog b sm_pl13 := frMemo_ok followsM summP2_ok pl13_run (sm_pl12_ok b)
noncomputable def sm_pl14 : CallF := frMemo 8 pl14A 3204 pl14H pl14E sm_pl13
theorem sm_pl14_ok (b : Base) : CallSound Tryz.prog b sm_pl14 := frMemo_ok followsM summP2_ok pl14_run (sm_pl13_ok b)
noncomputable def sm_pl15 : CallF := frMemo 8 pl15A 3285 pl15H pl15E sm_pl14
theorem sm_pl15_ok (b : Base) : CallSound Tryz.prog b sm_pl15 := frMemo_ok followsM summP2_ok pl15_run (sm_pl14_ok b)
noncomputable def sm_pl16 : CallF := frMemo 6 pl16A 1143 pl16H pl16E sm_pl15
theorem sm_pl16_ok (b : Base) : CallSound Tryz.prog b sm_pl16 := frMemo_ok followsM summP2_ok pl16_run (sm_pl15_ok b)
noncomputable def sm_pl17 : CallF := frMemo 6 pl17A 2213 pl17H pl17E sm_pl16
theorem sm_pl17_ok (b : Base) : CallSound Tryz.prog b sm_pl17 := frMemo_ok followsM summP2_ok pl17_run (sm_pl16_ok b)
noncomputable def sm_pl18 : CallF := frMemo 8 pl18A 2867 pl18H pl18E sm_pl17
theorem sm_pl18_ok (b : Base) : CallSound Tryz.prog b sm_pl18 := frMemo_ok followsM summP2_ok pl18_run (sm_pl17_ok b)
noncomputable def sm_pl19 : CallF := frMemo 8 pl19A 2948 pl19H pl19E sm_pl18
theorem sm_pl19_ok (b : Base) : CallSound Tryz.prog b sm_pl19 := frMemo_ok followsM summP2_ok pl19_run (sm_pl18_ok b)
noncomputable def sm_pl20 : CallF := frMemo 6 pl20A 2216 pl20H pl20E sm_pl19
theorem sm_pl20_ok (b : Base) : CallSound Tryz.prog b sm_pl20 := frMemo_ok followsM summP2_ok pl20_run (sm_pl19_ok b)
noncomputable def sm_pl21 : CallF := frMemo 8 pl21A 3204 pl21H pl21E sm_pl20
theorem sm_pl21_ok (b : Base) : CallSound Tryz.prog b sm_pl21 := frMemo_ok followsM summP2_ok pl21_run (sm_pl20_ok b)
noncomputable def sm_pl22 : CallF := frMemo 8 pl22A 3285 pl22H pl22E sm_pl21
theorem sm_pl22_ok (b : Base) : CallSound Tryz.prog b sm_pl22 := frMemo_ok followsM summP2_ok pl22_run (sm_pl21_ok b)
noncomputable def sm_pl23 : CallF := frMemo 6 pl23A 1143 pl23H pl23E sm_pl22
theorem sm_pl23_ok (b : Base) : CallSound Tryz.prog b sm_pl23 := frMemo_ok followsM summP2_ok pl23_run (sm_pl22_ok b)
noncomputable def sm_pl24 : CallF := frMemo 6 pl24A 2213 pl24H pl24E sm_pl23
theorem sm_pl24_ok (b : Base) : CallSound Tryz.prog b sm_pl24 := frMemo_ok followsM summP2_ok pl24_run (sm_pl23_ok b)
noncomputable def sm_pl25 : CallF := frMemo 8 pl25A 2867 pl25H pl25E sm_pl24
theorem sm_pl25_ok (b : Base) : CallSound Tryz.prog b sm_pl25 := frMemo_ok followsM summP2_ok pl25_run (sm_pl24_ok b)
noncomputable def sm_pl26 : CallF := frMemo 8 pl26A 2948 pl26H pl26E sm_pl25
theorem sm_pl26_ok (b : Base) : CallSound Tryz.prog b sm_pl26 := frMemo_ok followsM summP2_ok pl26_run (sm_pl25_ok b)
noncomputable def sm_pl27 : CallF := frMemo 6 pl27A 2216 pl27H pl27E sm_pl26
theorem sm_pl27_ok (b : Base) : CallSound Tryz.prog b sm_pl27 := frMemo_ok followsM summP2_ok pl27_run (sm_pl26_ok b)
noncomputable def sm_pl28 : CallF := frMemo 8 pl28A 3204 pl28H pl28E sm_pl27
theorem sm_pl28_ok (b : Base) : CallSound Tryz.prog b sm_pl28 := frMemo_ok followsM summP2_ok pl28_run (sm_pl27_ok b)
noncomputable def sm_pl29 : CallF := frMemo 8 pl29A 3285 pl29H pl29E sm_pl28
theorem sm_pl29_ok (b : Base) : CallSound Tryz.prog b sm_pl29 := frMemo_ok followsM summP2_ok pl29_run (sm_pl28_ok b)
noncomputable def smPl : CallF := sm_pl29
theorem smPl_ok (b : Base) : CallSound Tryz.prog b smPl := sm_pl29_ok b
end Go.Proofs.YthenjjonphoklaaGreatDoor

namespace Go.Proofs.YthenjjonphoklaaGreatDoor
open Go Go.RowKit

theorem pl00 : allV (.bool true) (exec Tryz.prog smPl 60 3 [.num 0 [(4, 0)] false, .num 1 [(2, 0)] false] sh0) = true := by kernel_rfl
theorem pl01 : allV (.bool true) (exec Tryz.prog smPl 60 3 [.num 0 [(4, 0)] false, .num 1 [(2, 1)] false] sh0) = true := by kernel_rfl
theorem pl10 : allV (.bool true) (exec Tryz.prog smPl 60 3 [.num 0 [(4, 1)] false, .num 1 [(2, 0)] false] sh0) = true := by kernel_rfl
theorem pl11 : allV (.bool true) (exec Tryz.prog smPl 60 3 [.num 0 [(4, 1)] false, .num 1 [(2, 1)] false] sh0) = true := by kernel_rfl
theorem pl20 : allV (.bool true) (exec Tryz.prog smPl 60 3 [.num 0 [(4, 2)] false, .num 1 [(2, 0)] false] sh0) = true := by kernel_rfl
theorem pl21 : allV (.bool true) (exec Tryz.prog smPl 60 3 [.num 0 [(4, 2)] false, .num 1 [(2, 1)] false] sh0) = true := by kernel_rfl
theorem pl30 : allV (.bool true) (exec Tryz.prog smPl 60 3 [.num 0 [(4, 3)] false, .num 1 [(2, 0)] false] sh0) = true := by kernel_rfl
theorem pl31 : allV (.bool true) (exec Tryz.prog smPl 60 3 [.num 0 [(4, 3)] false, .num 1 [(2, 1)] false] sh0) = true := by kernel_rfl

theorem psiLone_any (v x : Int) (w : World) (hml : MaxLenIs Tryz.prog w) : Calls Tryz.prog 3 #[.int .i64 v, .int .i64 x] w fun e w' => e = .returned (.bool true) ∧ Below w.heap.size w w' := by
  have key : ∀ r s : Nat, IntKind.u64.wrap v % (4 : Nat) = (r : Nat) → IntKind.u64.wrap x % (2 : Nat) = (s : Nat) → allV (.bool true) (exec Tryz.prog smPl 60 3 [.num 0 [(4, r)] false, .num 1 [(2, s)] false] sh0) = true →
      Calls Tryz.prog 3 #[.int .i64 v, .int .i64 x] w fun e w' => e = .returned (.bool true) ∧ Below w.heap.size w w' := fun r s hr hs h =>
    exec_all followsM smPl_ok (d := 60) (f := 3) (v := .bool true) h (given := fun i => match i with | 0 => .int .i64 v | _ => .int .i64 x) (fun i => by cases i <;> rfl)
      (by simp only [denL, den, env0, numOf', remsOk, hr, hs, decide_true, Bool.and_self, if_true, Bool.false_eq_true, if_false]) (fun _ => rfl) w hml
  have h3 : ∃ r : Nat, r < 4 ∧ IntKind.u64.wrap v % (4 : Nat) = (r : Nat) := ⟨(IntKind.u64.wrap v % 4).toNat, by omega, by omega⟩
  have h4 : ∃ s : Nat, s < 2 ∧ IntKind.u64.wrap x % (2 : Nat) = (s : Nat) := ⟨(IntKind.u64.wrap x % 2).toNat, by omega, by omega⟩
  obtain ⟨r, hr, er⟩ := h3
  obtain ⟨s, hs, es⟩ := h4
  match r, s, hr, hs with
  | 0, 0, _, _ => exact key 0 0 er es pl00
  | 0, 1, _, _ => exact key 0 1 er es pl01
  | 1, 0, _, _ => exact key 1 0 er es pl10
  | 1, 1, _, _ => exact key 1 1 er es pl11
  | 2, 0, _, _ => exact key 2 0 er es pl20
  | 2, 1, _, _ => exact key 2 1 er es pl21
  | 3, 0, _, _ => exact key 3 0 er es pl30
  | 3, 1, _, _ => exact key 3 1 er es pl31
end Go.Proofs.YthenjjonphoklaaGreatDoor
