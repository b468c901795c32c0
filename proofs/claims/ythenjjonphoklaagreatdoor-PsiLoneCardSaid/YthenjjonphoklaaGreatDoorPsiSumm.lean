/-
  What the executor is told ahead of PsiLone: sums of known blocks, functions without a body, hexadecimal text, strings.Builder; law 24's awake.
-/
import Derived.Test.YthenjjonphoklaaGreatDoorOnF
import Derived.Test.YthenjjonphoklaaGreatDoorMixP1
import Derived.Test.YthenjjonphoklaaGreatDoorMixP2
import Derived.Test.YthenjjonphoklaaGreatDoorMixP3
import Derived.Test.YthenjjonphoklaaGreatDoorMixP4
import Derived.Test.YthenjjonphoklaaGreatDoorExtC
import Derived.Test.YthenjjonphoklaaGreatDoorHexS
import Derived.Test.YthenjjonphoklaaGreatDoorBldS
set_option linter.unusedVariables false
set_option linter.unusedSimpArgs false
namespace Go.Proofs.YthenjjonphoklaaGreatDoor
open Go Go.RowKit

theorem followsM : Tryz.prog.follows .mixedOrders = true := by kernel_rfl
noncomputable def orM (a b : Option Outs) : Option Outs := match a with
  | some x => some x
  | none => b
theorem orM_or {a b : Option Outs} {x : Outs} (h : orM a b = some x) : a = some x ∨ b = some x := by
  unfold orM at h
  split at h
  · exact .inl h
  · exact .inr h
noncomputable def oP0 (args : List SV) (σ : SH) : Option Outs := frameOut inP0 64 64 (.rest 64) blkP0 5 false outP0 args σ
noncomputable def oP1 (args : List SV) (σ : SH) : Option Outs := frameOut inP1 0 64 (.rest 0) blkP1 5 false outP1 args σ
noncomputable def oP2 (args : List SV) (σ : SH) : Option Outs := frameOut inP2 0 64 (.rest 0) blkP2 5 false outP2 args σ
noncomputable def oP3 (args : List SV) (σ : SH) : Option Outs := frameOut inP3 64 64 (.rest 64) blkP3 5 false outP3 args σ
noncomputable def oP4 (args : List SV) (σ : SH) : Option Outs := frameOut inP4 0 64 (.rest 0) blkP4 5 false outP4 args σ
noncomputable def oP5 (args : List SV) (σ : SH) : Option Outs := frameOut inP5 128 64 (.rest 128) blkP5 5 false outP5 args σ
noncomputable def oP6 (args : List SV) (σ : SH) : Option Outs := frameOut inP6 64 64 (.rest 64) blkP6 5 false outP6 args σ
noncomputable def oP7 (args : List SV) (σ : SH) : Option Outs := frameOut inP7 0 64 (.rest 0) blkP7 5 false outP7 args σ
noncomputable def oP8 (args : List SV) (σ : SH) : Option Outs := frameOut inP8 0 64 (.rest 0) blkP8 5 false outP8 args σ
noncomputable def oP9 (args : List SV) (σ : SH) : Option Outs := frameOut inP9 64 64 (.rest 64) blkP9 5 false outP9 args σ
noncomputable def oP10 (args : List SV) (σ : SH) : Option Outs := frameOut inP10 0 64 (.rest 0) blkP10 5 false outP10 args σ
noncomputable def oP11 (args : List SV) (σ : SH) : Option Outs := frameOut inP11 0 64 (.rest 0) blkP11 5 false outP11 args σ
noncomputable def oP12 (args : List SV) (σ : SH) : Option Outs := frameOut inP12 128 64 (.rest 128) blkP12 5 false outP12 args σ
noncomputable def oP13 (args : List SV) (σ : SH) : Option Outs := frameOut inP13 64 64 (.rest 64) blkP13 5 false outP13 args σ
noncomputable def oP14 (args : List SV) (σ : SH) : Option Outs := frameOut inP14 0 64 (.rest 0) blkP14 5 false outP14 args σ
noncomputable def oP15 (args : List SV) (σ : SH) : Option Outs := frameOut inP15 64 64 (.rest 64) blkP15 5 false outP15 args σ
noncomputable def oP16 (args : List SV) (σ : SH) : Option Outs := frameOut inP16 0 64 (.rest 0) blkP16 5 false outP16 args σ
noncomputable def oP17 (args : List SV) (σ : SH) : Option Outs := frameOut inP17 128 64 (.rest 128) blkP17 5 false outP17 args σ
noncomputable def oP18 (args : List SV) (σ : SH) : Option Outs := frameOut inP18 64 64 (.rest 64) blkP18 5 false outP18 args σ
noncomputable def oP19 (args : List SV) (σ : SH) : Option Outs := frameOut inP19 0 64 (.rest 0) blkP19 5 false outP19 args σ
noncomputable def oP20 (args : List SV) (σ : SH) : Option Outs := frameOut inP20 64 64 (.rest 64) blkP20 5 false outP20 args σ
noncomputable def oP21 (args : List SV) (σ : SH) : Option Outs := frameOut inP21 0 64 (.rest 0) blkP21 5 false outP21 args σ
noncomputable def oP22 (args : List SV) (σ : SH) : Option Outs := frameOut inP22 128 64 (.rest 128) blkP22 5 false outP22 args σ
noncomputable def oP23 (args : List SV) (σ : SH) : Option Outs := frameOut inP23 64 64 (.rest 64) blkP23 5 false outP23 args σ
noncomputable def oP24 (args : List SV) (σ : SH) : Option Outs := frameOut inP24 0 64 (.rest 0) blkP24 5 false outP24 args σ
noncomputable def oP25 (args : List SV) (σ : SH) : Option Outs := frameOut inP25 64 64 (.rest 64) blkP25 5 false outP25 args σ
noncomputable def oP26 (args : List SV) (σ : SH) : Option Outs := frameOut inP26 0 64 (.rest 0) blkP26 5 false outP26 args σ
noncomputable def oP27 (args : List SV) (σ : SH) : Option Outs := frameOut inP27 128 64 (.rest 128) blkP27 5 false outP27 args σ
noncomputable def oP28 (args : List SV) (σ : SH) : Option Outs := frameOut inP28 64 64 (.rest 64) blkP28 5 false outP28 args σ
noncomputable def oP29 (args : List SV) (σ : SH) : Option Outs := frameOut inP29 0 64 (.rest 0) blkP29 5 false outP29 args σ
noncomputable def oP30 (args : List SV) (σ : SH) : Option Outs := frameOut inP30 128 64 (.rest 128) blkP30 5 false outP30 args σ
noncomputable def oP31 (args : List SV) (σ : SH) : Option Outs := frameOut inP31 64 64 (.rest 64) blkP31 5 false outP31 args σ
noncomputable def oP32 (args : List SV) (σ : SH) : Option Outs := frameOut inP32 0 64 (.rest 0) blkP32 5 false outP32 args σ
noncomputable def oP33 (args : List SV) (σ : SH) : Option Outs := frameOut inP33 128 64 (.rest 128) blkP33 5 false outP33 args σ
noncomputable def oP34 (args : List SV) (σ : SH) : Option Outs := frameOut inP34 64 64 (.rest 64) blkP34 5 false outP34 args σ
noncomputable def oP35 (args : List SV) (σ : SH) : Option Outs := frameOut inP35 0 64 (.rest 0) blkP35 5 false outP35 args σ
noncomputable def oP36 (args : List SV) (σ : SH) : Option Outs := frameOut inP36 128 64 (.rest 128) blkP36 5 false outP36 args σ
noncomputable def oP37 (args : List SV) (σ : SH) : Option Outs := frameOut inP37 64 64 (.rest 64) blkP37 5 false outP37 args σ
noncomputable def oP38 (args : List SV) (σ : SH) : Option Outs := frameOut inP38 0 64 (.rest 0) blkP38 5 false outP38 args σ
noncomputable def mixOut (args : List SV) (σ : SH) : Option Outs := orM (oP0 args σ) (orM (oP1 args σ) (orM (oP2 args σ) (orM (oP3 args σ) (orM (oP4 args σ) (orM (oP5 args σ) (orM (oP6 args σ) (orM (oP7 args σ) (orM (oP8 args σ) (orM (oP9 args σ) (orM (oP10 args σ) (orM (oP11 args σ) (orM (oP12 args σ) (orM (oP13 args σ) (orM (oP14 args σ) (orM (oP15 args σ) (orM (oP16 args σ) (orM (oP17 args σ) (orM (oP18 args σ) (orM (oP19 args σ) (orM (oP20 args σ) (orM (oP21 args σ) (orM (oP22 args σ) (orM (oP23 args σ) (orM (oP24 args σ) (orM (oP25 args σ) (orM (oP26 args σ) (orM (oP27 args σ) (orM (oP28 args σ) (orM (oP29 args σ) (orM (oP30 args σ) (orM (oP31 args σ) (orM (oP32 args σ) (orM (oP33 args σ) (orM (oP34 args σ) (orM (oP35 args σ) (orM (oP36 args σ) (orM (oP37 args σ) (orM (oP38 args σ) (none)))))))))))))))))))))))))))))))))))))))
theorem mixOut_ok (b : Base) {args : List SV} {σ : SH} {outs : Outs} {env : Env} {w : World} {vs : List Value} (h : mixOut args σ = some outs) (ho : env.ones) (hr : Rel Tryz.prog b env σ w) (ha : denL env args = some vs) :
    Calls Tryz.prog 80 vs.toArray w (Comes1 Tryz.prog b env outs) := by
  unfold mixOut at h
  rcases orM_or h with h | h
  · exact frameOut_ok followsM (fun _ => noSumm_ok) mixedP0 (by kernel_rfl) (by kernel_rfl) (by kernel_rfl) h ho hr ha
  rcases orM_or h with h | h
  · exact frameOut_ok followsM (fun _ => noSumm_ok) mixedP1 (by kernel_rfl) (by kernel_rfl) (by kernel_rfl) h ho hr ha
  rcases orM_or h with h | h
  · exact frameOut_ok followsM (fun _ => noSumm_ok) mixedP2 (by kernel_rfl) (by kernel_rfl) (by kernel_rfl) h ho hr ha
  rcases orM_or h with h | h
  · exact frameOut_ok followsM (fun _ => noSumm_ok) mixedP3 (by kernel_rfl) (by kernel_rfl) (by kernel_rfl) h ho hr ha
  rcases orM_or h with h | h
  · exact frameOut_ok followsM (fun _ => noSumm_ok) mixedP4 (by kernel_rfl) (by kernel_rfl) (by kernel_rfl) h ho hr ha
  rcases orM_or h with h | h
  · exact frameOut_ok followsM (fun _ => noSumm_ok) mixedP5 (by kernel_rfl) (by kernel_rfl) (by kernel_rfl) h ho hr ha
  rcases orM_or h with h | h
  · exact frameOut_ok followsM (fun _ => noSumm_ok) mixedP6 (by kernel_rfl) (by kernel_rfl) (by kernel_rfl) h ho hr ha
  rcases orM_or h with h | h
  · exact frameOut_ok followsM (fun _ => noSumm_ok) mixedP7 (by kernel_rfl) (by kernel_rfl) (by kernel_rfl) h ho hr ha
  rcases orM_or h with h | h
  · exact frameOut_ok followsM (fun _ => noSumm_ok) mixedP8 (by kernel_rfl) (by kernel_rfl) (by kernel_rfl) h ho hr ha
  rcases orM_or h with h | h
  · exact frameOut_ok followsM (fun _ => noSumm_ok) mixedP9 (by kernel_rfl) (by kernel_rfl) (by kernel_rfl) h ho hr ha
  rcases orM_or h with h | h
  · exact frameOut_ok followsM (fun _ => noSumm_ok) mixedP10 (by kernel_rfl) (by kernel_rfl) (by kernel_rfl) h ho hr ha
  rcases orM_or h with h | h
  · exact frameOut_ok followsM (fun _ => noSumm_ok) mixedP11 (by kernel_rfl) (by kernel_rfl) (by kernel_rfl) h ho hr ha
  rcases orM_or h with h | h
  · exact frameOut_ok followsM (fun _ => noSumm_ok) mixedP12 (by kernel_rfl) (by kernel_rfl) (by kernel_rfl) h ho hr ha
  rcases orM_or h with h | h
  · exact frameOut_ok followsM (fun _ => noSumm_ok) mixedP13 (by kernel_rfl) (by kernel_rfl) (by kernel_rfl) h ho hr ha
  rcases orM_or h with h | h
  · exact frameOut_ok followsM (fun _ => noSumm_ok) mixedP14 (by kernel_rfl) (by kernel_rfl) (by kernel_rfl) h ho hr ha
  rcases orM_or h with h | h
  · exact frameOut_ok followsM (fun _ => noSumm_ok) mixedP15 (by kernel_rfl) (by kernel_rfl) (by kernel_rfl) h ho hr ha
  rcases orM_or h with h | h
  · exact frameOut_ok followsM (fun _ => noSumm_ok) mixedP16 (by kernel_rfl) (by kernel_rfl) (by kernel_rfl) h ho hr ha
  rcases orM_or h with h | h
  · exact frameOut_ok followsM (fun _ => noSumm_ok) mixedP17 (by kernel_rfl) (by kernel_rfl) (by kernel_rfl) h ho hr ha
  rcases orM_or h with h | h
  · exact frameOut_ok followsM (fun _ => noSumm_ok) mixedP18 (by kernel_rfl) (by kernel_rfl) (by kernel_rfl) h ho hr ha
  rcases orM_or h with h | h
  · exact frameOut_ok followsM (fun _ => noSumm_ok) mixedP19 (by kernel_rfl) (by kernel_rfl) (by kernel_rfl) h ho hr ha
  rcases orM_or h with h | h
  · exact frameOut_ok followsM (fun _ => noSumm_ok) mixedP20 (by kernel_rfl) (by kernel_rfl) (by kernel_rfl) h ho hr ha
  rcases orM_or h with h | h
  · exact frameOut_ok followsM (fun _ => noSumm_ok) mixedP21 (by kernel_rfl) (by kernel_rfl) (by kernel_rfl) h ho hr ha
  rcases orM_or h with h | h
  · exact frameOut_ok followsM (fun _ => noSumm_ok) mixedP22 (by kernel_rfl) (by kernel_rfl) (by kernel_rfl) h ho hr ha
  rcases orM_or h with h | h
  · exact frameOut_ok followsM (fun _ => noSumm_ok) mixedP23 (by kernel_rfl) (by kernel_rfl) (by kernel_rfl) h ho hr ha
  rcases orM_or h with h | h
  · exact frameOut_ok followsM (fun _ => noSumm_ok) mixedP24 (by kernel_rfl) (by kernel_rfl) (by kernel_rfl) h ho hr ha
  rcases orM_or h with h | h
  · exact frameOut_ok followsM (fun _ => noSumm_ok) mixedP25 (by kernel_rfl) (by kernel_rfl) (by kernel_rfl) h ho hr ha
  rcases orM_or h with h | h
  · exact frameOut_ok followsM (fun _ => noSumm_ok) mixedP26 (by kernel_rfl) (by kernel_rfl) (by kernel_rfl) h ho hr ha
  rcases orM_or h with h | h
  · exact frameOut_ok followsM (fun _ => noSumm_ok) mixedP27 (by kernel_rfl) (by kernel_rfl) (by kernel_rfl) h ho hr ha
  rcases orM_or h with h | h
  · exact frameOut_ok followsM (fun _ => noSumm_ok) mixedP28 (by kernel_rfl) (by kernel_rfl) (by kernel_rfl) h ho hr ha
  rcases orM_or h with h | h
  · exact frameOut_ok followsM (fun _ => noSumm_ok) mixedP29 (by kernel_rfl) (by kernel_rfl) (by kernel_rfl) h ho hr ha
  rcases orM_or h with h | h
  · exact frameOut_ok followsM (fun _ => noSumm_ok) mixedP30 (by kernel_rfl) (by kernel_rfl) (by kernel_rfl) h ho hr ha
  rcases orM_or h with h | h
  · exact frameOut_ok followsM (fun _ => noSumm_ok) mixedP31 (by kernel_rfl) (by kernel_rfl) (by kernel_rfl) h ho hr ha
  rcases orM_or h with h | h
  · exact frameOut_ok followsM (fun _ => noSumm_ok) mixedP32 (by kernel_rfl) (by kernel_rfl) (by kernel_rfl) h ho hr ha
  rcases orM_or h with h | h
  · exact frameOut_ok followsM (fun _ => noSumm_ok) mixedP33 (by kernel_rfl) (by kernel_rfl) (by kernel_rfl) h ho hr ha
  rcases orM_or h with h | h
  · exact frameOut_ok followsM (fun _ => noSumm_ok) mixedP34 (by kernel_rfl) (by kernel_rfl) (by kernel_rfl) h ho hr ha
  rcases orM_or h with h | h
  · exact frameOut_ok followsM (fun _ => noSumm_ok) mixedP35 (by kernel_rfl) (by kernel_rfl) (by kernel_rfl) h ho hr ha
  rcases orM_or h with h | h
  · exact frameOut_ok followsM (fun _ => noSumm_ok) mixedP36 (by kernel_rfl) (by kernel_rfl) (by kernel_rfl) h ho hr ha
  rcases orM_or h with h | h
  · exact frameOut_ok followsM (fun _ => noSumm_ok) mixedP37 (by kernel_rfl) (by kernel_rfl) (by kernel_rfl) h ho hr ha
  rcases orM_or h with h | h
  · exact frameOut_ok followsM (fun _ => noSumm_ok) mixedP38 (by kernel_rfl) (by kernel_rfl) (by kernel_rfl) h ho hr ha
  cases h
end Go.Proofs.YthenjjonphoklaaGreatDoor

namespace Go.Proofs.YthenjjonphoklaaGreatDoor
open Go Go.RowKit

noncomputable def summP : CallF :=
  onF 99 copyOut (onF 74 strOut (onF 46 hexOut (onF 93 subOut (onF 80 mixOut (onF 123 indexOut (onF 137 compareOut (onF 119 countOut noSumm)))))))
theorem summP_ok (b : Base) : CallSound Tryz.prog b summP :=
  onF_ok (fun _ _ _ _ _ _ h ho hr ha => copyOut_ok b h ho hr ha) <| onF_ok (fun _ _ _ _ _ _ h ho hr ha => strOut_ok b h ho hr ha) <| onF_ok (fun _ _ _ _ _ _ h ho hr ha => hexOut_ok b h ho hr ha) <| onF_ok (fun _ _ _ _ _ _ h ho hr ha => subOut_ok b h hr ha) <| onF_ok (fun _ _ _ _ _ _ h ho hr ha => mixOut_ok b h ho hr ha) <| onF_ok (fun _ _ _ _ _ _ h ho hr ha => indexOut_ok b h hr ha) <| onF_ok (fun _ _ _ _ _ _ h ho hr ha => compareOut_ok b h hr ha) <|
  onF_ok (fun _ _ _ _ _ _ h ho hr ha => countOut_ok b h hr ha) noSumm_ok
/-- Law 24: what a program that does nothing does not answer. -/
theorem awake24_run : allV (.bool true) (exec Tryz.prog summP 60 5 [] sh0) = true := by kernel_rfl
theorem awake24_any (w : World) (hml : MaxLenIs Tryz.prog w) : Calls Tryz.prog 5 #[] w fun e w' => e = .returned (.bool true) ∧ Below w.heap.size w w' :=
  exec_all followsM summP_ok (d := 60) (f := 5) (args := []) (v := .bool true) awake24_run (given := fun _ => .bool true) (fun _ => rfl) rfl (fun _ => rfl) w hml
noncomputable def summP2 : CallF := onF 5 trueOut summP
theorem summP2_ok (b : Base) : CallSound Tryz.prog b summP2 := onF_ok (fun _ _ _ _ _ _ h _ hr ha => trueOut_ok awake24_any b h hr ha) (summP_ok b)
end Go.Proofs.YthenjjonphoklaaGreatDoor
