/-
  object.Id at known blobs: closed runs, and as a summary; law 20's awake.
-/
import Derived.Test.YtjnjcielihgagabGreatDoorJ8
set_option linter.unusedVariables false
set_option linter.unusedSimpArgs false
namespace Go.Proofs.YtjnjcielihgagabGreatDoor
open Go Go.RowKit

noncomputable def blkU0 : List SV := [.int .u8 0]
noncomputable def outU0 : SV := .agg [.int .u8 247, .int .u8 109, .int .u8 210, .int .u8 56, .int .u8 173, .int .u8 224, .int .u8 137, .int .u8 23, .int .u8 230, .int .u8 113, .int .u8 39, .int .u8 100, .int .u8 161, .int .u8 106, .int .u8 34, .int .u8 0, .int .u8 90, .int .u8 80, .int .u8 87, .int .u8 61]
theorem idU0 : frameChk outU0 blkU0 5 true (exec Tryz.prog summEB 30 26 [.agg [.int .i64 1, .slice 0 0 1 (.lit 1)]] (sh0.push (.cells blkU0 5 true))) = true := by kernel_rfl
noncomputable def blkU1 : List SV := [.int .u8 1]
noncomputable def outU1 : SV := .agg [.int .u8 107, .int .u8 42, .int .u8 170, .int .u8 118, .int .u8 64, .int .u8 114, .int .u8 101, .int .u8 136, .int .u8 188, .int .u8 211, .int .u8 213, .int .u8 126, .int .u8 29, .int .u8 228, .int .u8 177, .int .u8 49, .int .u8 91, .int .u8 127, .int .u8 49, .int .u8 94]
theorem idU1 : frameChk outU1 blkU1 5 true (exec Tryz.prog summEB 30 26 [.agg [.int .i64 1, .slice 0 0 1 (.lit 1)]] (sh0.push (.cells blkU1 5 true))) = true := by kernel_rfl
noncomputable def blkU2 : List SV := [.int .u8 2]
noncomputable def outU2 : SV := .agg [.int .u8 37, .int .u8 203, .int .u8 149, .int .u8 91, .int .u8 162, .int .u8 53, .int .u8 113, .int .u8 246, .int .u8 254, .int .u8 253, .int .u8 87, .int .u8 206, .int .u8 207, .int .u8 95, .int .u8 103, .int .u8 69, .int .u8 66, .int .u8 16, .int .u8 187, .int .u8 200]
theorem idU2 : frameChk outU2 blkU2 5 true (exec Tryz.prog summEB 30 26 [.agg [.int .i64 1, .slice 0 0 1 (.lit 1)]] (sh0.push (.cells blkU2 5 true))) = true := by kernel_rfl
noncomputable def blkU3 : List SV := [.int .u8 3]
noncomputable def outU3 : SV := .agg [.int .u8 252, .int .u8 43, .int .u8 86, .int .u8 147, .int .u8 224, .int .u8 11, .int .u8 219, .int .u8 234, .int .u8 63, .int .u8 116, .int .u8 172, .int .u8 96, .int .u8 69, .int .u8 155, .int .u8 29, .int .u8 244, .int .u8 60, .int .u8 41, .int .u8 83, .int .u8 86]
theorem idU3 : frameChk outU3 blkU3 5 true (exec Tryz.prog summEB 30 26 [.agg [.int .i64 1, .slice 0 0 1 (.lit 1)]] (sh0.push (.cells blkU3 5 true))) = true := by kernel_rfl
noncomputable def blkU4 : List SV := [.int .u8 4]
noncomputable def outU4 : SV := .agg [.int .u8 69, .int .u8 168, .int .u8 202, .int .u8 2, .int .u8 191, .int .u8 200, .int .u8 44, .int .u8 166, .int .u8 240, .int .u8 83, .int .u8 193, .int .u8 79, .int .u8 53, .int .u8 188, .int .u8 144, .int .u8 166, .int .u8 56, .int .u8 43, .int .u8 38, .int .u8 18]
theorem idU4 : frameChk outU4 blkU4 5 true (exec Tryz.prog summEB 30 26 [.agg [.int .i64 1, .slice 0 0 1 (.lit 1)]] (sh0.push (.cells blkU4 5 true))) = true := by kernel_rfl
noncomputable def oU0 (args : List SV) (σ : SH) : Option Outs := frameAOut (.int .i64 1) 0 1 (.lit 1) blkU0 5 true outU0 args σ
noncomputable def oU1 (args : List SV) (σ : SH) : Option Outs := frameAOut (.int .i64 1) 0 1 (.lit 1) blkU1 5 true outU1 args σ
noncomputable def oU2 (args : List SV) (σ : SH) : Option Outs := frameAOut (.int .i64 1) 0 1 (.lit 1) blkU2 5 true outU2 args σ
noncomputable def oU3 (args : List SV) (σ : SH) : Option Outs := frameAOut (.int .i64 1) 0 1 (.lit 1) blkU3 5 true outU3 args σ
noncomputable def oU4 (args : List SV) (σ : SH) : Option Outs := frameAOut (.int .i64 1) 0 1 (.lit 1) blkU4 5 true outU4 args σ
noncomputable def idOut (args : List SV) (σ : SH) : Option Outs := orM (oU0 args σ) (orM (oU1 args σ) (orM (oU2 args σ) (orM (oU3 args σ) (orM (oU4 args σ) (none)))))
theorem idOut_ok (b : Base) {args : List SV} {σ : SH} {outs : Outs} {env : Env} {w : World} {vs : List Value} (h : idOut args σ = some outs) (ho : env.ones) (hr : Rel Tryz.prog b env σ w) (ha : denL env args = some vs) :
    Calls Tryz.prog 26 vs.toArray w (Comes1 Tryz.prog b env outs) := by
  unfold idOut at h
  rcases orM_or h with h | h
  · exact frameAOut_ok followsM summEB_ok idU0 (by kernel_rfl) (by kernel_rfl) (by kernel_rfl) h ho hr ha
  rcases orM_or h with h | h
  · exact frameAOut_ok followsM summEB_ok idU1 (by kernel_rfl) (by kernel_rfl) (by kernel_rfl) h ho hr ha
  rcases orM_or h with h | h
  · exact frameAOut_ok followsM summEB_ok idU2 (by kernel_rfl) (by kernel_rfl) (by kernel_rfl) h ho hr ha
  rcases orM_or h with h | h
  · exact frameAOut_ok followsM summEB_ok idU3 (by kernel_rfl) (by kernel_rfl) (by kernel_rfl) h ho hr ha
  rcases orM_or h with h | h
  · exact frameAOut_ok followsM summEB_ok idU4 (by kernel_rfl) (by kernel_rfl) (by kernel_rfl) h ho hr ha
  cases h
noncomputable def summE : CallF := onF 26 idOut summEB
theorem summE_ok (b : Base) : CallSound Tryz.prog b summE := onF_ok (fun _ _ _ _ _ _ h ho hr ha => idOut_ok b h ho hr ha) (summEB_ok b)
/-- Law 20: what a program that does nothing does not answer. -/
theorem awake20_run : allV (.bool true) (exec Tryz.prog summE 60 4 [] sh0) = true := by kernel_rfl
theorem awake20_any (w : World) (hml : MaxLenIs Tryz.prog w) : Calls Tryz.prog 4 #[] w fun e w' => e = .returned (.bool true) ∧ Below w.heap.size w w' :=
  exec_all followsM summE_ok (d := 60) (f := 4) (args := []) (v := .bool true) awake20_run (given := fun _ => .bool true) (fun _ => rfl) rfl (fun _ => rfl) w hml
noncomputable def summE2 : CallF := onF 4 trueOut summE
theorem summE2_ok (b : Base) : CallSound Tryz.prog b summE2 := onF_ok (fun _ _ _ _ _ _ h _ hr ha => trueOut_ok awake20_any b h hr ha) (summE_ok b)
end Go.Proofs.YtjnjcielihgagabGreatDoor
