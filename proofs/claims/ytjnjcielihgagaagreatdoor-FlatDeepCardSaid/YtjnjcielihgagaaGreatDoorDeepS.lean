/-
  object.Id at known trees, as a summary; what the executor is told ahead of FlatDeep.
-/
import Derived.Test.YtjnjcielihgagaaGreatDoorDeepI0
import Derived.Test.YtjnjcielihgagaaGreatDoorDeepI1
set_option linter.unusedVariables false
set_option linter.unusedSimpArgs false
namespace Go.Proofs.YtjnjcielihgagaaGreatDoor
open Go Go.RowKit

noncomputable def oT0 (args : List SV) (σ : SH) : Option Outs := frameAOut (.int .i64 2) 0 29 (.rest 0) blkT0 5 false outT0 args σ
noncomputable def oT1 (args : List SV) (σ : SH) : Option Outs := frameAOut (.int .i64 2) 0 28 (.rest 0) blkT1 5 false outT1 args σ
noncomputable def oT2 (args : List SV) (σ : SH) : Option Outs := frameAOut (.int .i64 2) 0 28 (.rest 0) blkT2 5 false outT2 args σ
noncomputable def oT3 (args : List SV) (σ : SH) : Option Outs := frameAOut (.int .i64 2) 0 28 (.rest 0) blkT3 5 false outT3 args σ
noncomputable def oT4 (args : List SV) (σ : SH) : Option Outs := frameAOut (.int .i64 2) 0 28 (.rest 0) blkT4 5 false outT4 args σ
noncomputable def oT5 (args : List SV) (σ : SH) : Option Outs := frameAOut (.int .i64 2) 0 28 (.rest 0) blkT5 5 false outT5 args σ
noncomputable def oT6 (args : List SV) (σ : SH) : Option Outs := frameAOut (.int .i64 2) 0 28 (.rest 0) blkT6 5 false outT6 args σ
noncomputable def oT7 (args : List SV) (σ : SH) : Option Outs := frameAOut (.int .i64 2) 0 28 (.rest 0) blkT7 5 false outT7 args σ
noncomputable def oT8 (args : List SV) (σ : SH) : Option Outs := frameAOut (.int .i64 2) 0 28 (.rest 0) blkT8 5 false outT8 args σ
noncomputable def oT9 (args : List SV) (σ : SH) : Option Outs := frameAOut (.int .i64 2) 0 28 (.rest 0) blkT9 5 false outT9 args σ
noncomputable def oT10 (args : List SV) (σ : SH) : Option Outs := frameAOut (.int .i64 2) 0 28 (.rest 0) blkT10 5 false outT10 args σ
noncomputable def oT11 (args : List SV) (σ : SH) : Option Outs := frameAOut (.int .i64 2) 0 28 (.rest 0) blkT11 5 false outT11 args σ
noncomputable def oT12 (args : List SV) (σ : SH) : Option Outs := frameAOut (.int .i64 2) 0 28 (.rest 0) blkT12 5 false outT12 args σ
noncomputable def oT13 (args : List SV) (σ : SH) : Option Outs := frameAOut (.int .i64 2) 0 28 (.rest 0) blkT13 5 false outT13 args σ
noncomputable def oT14 (args : List SV) (σ : SH) : Option Outs := frameAOut (.int .i64 2) 0 28 (.rest 0) blkT14 5 false outT14 args σ
noncomputable def oT15 (args : List SV) (σ : SH) : Option Outs := frameAOut (.int .i64 2) 0 28 (.rest 0) blkT15 5 false outT15 args σ
noncomputable def oT16 (args : List SV) (σ : SH) : Option Outs := frameAOut (.int .i64 2) 0 29 (.rest 0) blkT16 5 false outT16 args σ
noncomputable def oT17 (args : List SV) (σ : SH) : Option Outs := frameAOut (.int .i64 2) 0 28 (.rest 0) blkT17 5 false outT17 args σ
noncomputable def idOut (args : List SV) (σ : SH) : Option Outs := orM (oT0 args σ) (orM (oT1 args σ) (orM (oT2 args σ) (orM (oT3 args σ) (orM (oT4 args σ) (orM (oT5 args σ) (orM (oT6 args σ) (orM (oT7 args σ) (orM (oT8 args σ) (orM (oT9 args σ) (orM (oT10 args σ) (orM (oT11 args σ) (orM (oT12 args σ) (orM (oT13 args σ) (orM (oT14 args σ) (orM (oT15 args σ) (orM (oT16 args σ) (orM (oT17 args σ) (none))))))))))))))))))
theorem idOut_ok (b : Base) {args : List SV} {σ : SH} {outs : Outs} {env : Env} {w : World} {vs : List Value} (h : idOut args σ = some outs) (ho : env.ones) (hr : Rel Tryz.prog b env σ w) (ha : denL env args = some vs) :
    Calls Tryz.prog 24 vs.toArray w (Comes1 Tryz.prog b env outs) := by
  unfold idOut at h
  rcases orM_or h with h | h
  · exact frameAOut_ok followsM summDB_ok idT0 (by kernel_rfl) (by kernel_rfl) (by kernel_rfl) h ho hr ha
  rcases orM_or h with h | h
  · exact frameAOut_ok followsM summDB_ok idT1 (by kernel_rfl) (by kernel_rfl) (by kernel_rfl) h ho hr ha
  rcases orM_or h with h | h
  · exact frameAOut_ok followsM summDB_ok idT2 (by kernel_rfl) (by kernel_rfl) (by kernel_rfl) h ho hr ha
  rcases orM_or h with h | h
  · exact frameAOut_ok followsM summDB_ok idT3 (by kernel_rfl) (by kernel_rfl) (by kernel_rfl) h ho hr ha
  rcases orM_or h with h | h
  · exact frameAOut_ok followsM summDB_ok idT4 (by kernel_rfl) (by kernel_rfl) (by kernel_rfl) h ho hr ha
  rcases orM_or h with h | h
  · exact frameAOut_ok followsM summDB_ok idT5 (by kernel_rfl) (by kernel_rfl) (by kernel_rfl) h ho hr ha
  rcases orM_or h with h | h
  · exact frameAOut_ok followsM summDB_ok idT6 (by kernel_rfl) (by kernel_rfl) (by kernel_rfl) h ho hr ha
  rcases orM_or h with h | h
  · exact frameAOut_ok followsM summDB_ok idT7 (by kernel_rfl) (by kernel_rfl) (by kernel_rfl) h ho hr ha
  rcases orM_or h with h | h
  · exact frameAOut_ok followsM summDB_ok idT8 (by kernel_rfl) (by kernel_rfl) (by kernel_rfl) h ho hr ha
  rcases orM_or h with h | h
  · exact frameAOut_ok followsM summDB_ok idT9 (by kernel_rfl) (by kernel_rfl) (by kernel_rfl) h ho hr ha
  rcases orM_or h with h | h
  · exact frameAOut_ok followsM summDB_ok idT10 (by kernel_rfl) (by kernel_rfl) (by kernel_rfl) h ho hr ha
  rcases orM_or h with h | h
  · exact frameAOut_ok followsM summDB_ok idT11 (by kernel_rfl) (by kernel_rfl) (by kernel_rfl) h ho hr ha
  rcases orM_or h with h | h
  · exact frameAOut_ok followsM summDB_ok idT12 (by kernel_rfl) (by kernel_rfl) (by kernel_rfl) h ho hr ha
  rcases orM_or h with h | h
  · exact frameAOut_ok followsM summDB_ok idT13 (by kernel_rfl) (by kernel_rfl) (by kernel_rfl) h ho hr ha
  rcases orM_or h with h | h
  · exact frameAOut_ok followsM summDB_ok idT14 (by kernel_rfl) (by kernel_rfl) (by kernel_rfl) h ho hr ha
  rcases orM_or h with h | h
  · exact frameAOut_ok followsM summDB_ok idT15 (by kernel_rfl) (by kernel_rfl) (by kernel_rfl) h ho hr ha
  rcases orM_or h with h | h
  · exact frameAOut_ok followsM summDB_ok idT16 (by kernel_rfl) (by kernel_rfl) (by kernel_rfl) h ho hr ha
  rcases orM_or h with h | h
  · exact frameAOut_ok followsM summDB_ok idT17 (by kernel_rfl) (by kernel_rfl) (by kernel_rfl) h ho hr ha
  cases h
noncomputable def summD : CallF := onF 24 idOut summDB
theorem summD_ok (b : Base) : CallSound Tryz.prog b summD := onF_ok (fun _ _ _ _ _ _ h ho hr ha => idOut_ok b h ho hr ha) (summDB_ok b)
/-- Law 13: what a program that does nothing does not answer. -/
theorem awake13_run : allV (.bool true) (exec Tryz.prog summD 60 6 [] sh0) = true := by kernel_rfl
theorem awake13_any (w : World) (hml : MaxLenIs Tryz.prog w) : Calls Tryz.prog 6 #[] w fun e w' => e = .returned (.bool true) ∧ Below w.heap.size w w' :=
  exec_all followsM summD_ok (d := 60) (f := 6) (args := []) (v := .bool true) awake13_run (given := fun _ => .bool true) (fun _ => rfl) rfl (fun _ => rfl) w hml
noncomputable def summD2 : CallF := onF 6 trueOut summD
theorem summD2_ok (b : Base) : CallSound Tryz.prog b summD2 := onF_ok (fun _ _ _ _ _ _ h _ hr ha => trueOut_ok awake13_any b h hr ha) (summD_ok b)
end Go.Proofs.YtjnjcielihgagaaGreatDoor
