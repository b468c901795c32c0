/-
  sha.mixed at the blocks of all these messages: one summary.
-/
import Derived.Test.YtnlijlabkoefbaaGreatDoorMixF1
import Derived.Test.YtnlijlabkoefbaaGreatDoorMixF2
import Derived.Test.YtnlijlabkoefbaaGreatDoorMixF3
import Derived.Test.YtnlijlabkoefbaaGreatDoorMixF4
set_option linter.unusedVariables false
set_option linter.unusedSimpArgs false
namespace Go.Proofs.YtnlijlabkoefbaaGreatDoor
open Go Go.RowKit

theorem followsM : Tryz.prog.follows .mixedOrders = true := by kernel_rfl
noncomputable def orM (a b : Option Outs) : Option Outs := match a with
  | some x => some x
  | none => b
theorem orM_or {a b : Option Outs} {x : Outs} (h : orM a b = some x) : a = some x ∨ b = some x := by
  unfold orM at h
  split at h
  · exact .inl h
  · exact .inr h
noncomputable def inM : SV := .agg [.int .u32 1732584193, .int .u32 4023233417, .int .u32 2562383102, .int .u32 271733878, .int .u32 3285377520]
noncomputable def oF0 (args : List SV) (σ : SH) : Option Outs := frameOut inM 0 64 (.rest 0) blkF0 5 false outF0 args σ
noncomputable def oF1 (args : List SV) (σ : SH) : Option Outs := frameOut inM 0 64 (.rest 0) blkF1 5 false outF1 args σ
noncomputable def oF2 (args : List SV) (σ : SH) : Option Outs := frameOut inM 0 64 (.rest 0) blkF2 5 false outF2 args σ
noncomputable def oF3 (args : List SV) (σ : SH) : Option Outs := frameOut inM 0 64 (.rest 0) blkF3 5 false outF3 args σ
noncomputable def oF4 (args : List SV) (σ : SH) : Option Outs := frameOut inM 0 64 (.rest 0) blkF4 5 false outF4 args σ
noncomputable def oF5 (args : List SV) (σ : SH) : Option Outs := frameOut inM 0 64 (.rest 0) blkF5 5 false outF5 args σ
noncomputable def oF6 (args : List SV) (σ : SH) : Option Outs := frameOut inM 0 64 (.rest 0) blkF6 5 false outF6 args σ
noncomputable def oF7 (args : List SV) (σ : SH) : Option Outs := frameOut inM 0 64 (.rest 0) blkF7 5 false outF7 args σ
noncomputable def oF8 (args : List SV) (σ : SH) : Option Outs := frameOut inM 0 64 (.rest 0) blkF8 5 false outF8 args σ
noncomputable def oF9 (args : List SV) (σ : SH) : Option Outs := frameOut inM 0 64 (.rest 0) blkF9 5 false outF9 args σ
noncomputable def oF10 (args : List SV) (σ : SH) : Option Outs := frameOut inM 0 64 (.rest 0) blkF10 5 false outF10 args σ
noncomputable def oF11 (args : List SV) (σ : SH) : Option Outs := frameOut inM 0 64 (.rest 0) blkF11 5 false outF11 args σ
noncomputable def oF12 (args : List SV) (σ : SH) : Option Outs := frameOut inM 0 64 (.rest 0) blkF12 5 false outF12 args σ
noncomputable def oF13 (args : List SV) (σ : SH) : Option Outs := frameOut inM 0 64 (.rest 0) blkF13 5 false outF13 args σ
noncomputable def oF14 (args : List SV) (σ : SH) : Option Outs := frameOut inM 0 64 (.rest 0) blkF14 5 false outF14 args σ
noncomputable def oF15 (args : List SV) (σ : SH) : Option Outs := frameOut inM 0 64 (.rest 0) blkF15 5 false outF15 args σ
noncomputable def mixOut (args : List SV) (σ : SH) : Option Outs := orM (oF0 args σ) (orM (oF1 args σ) (orM (oF2 args σ) (orM (oF3 args σ) (orM (oF4 args σ) (orM (oF5 args σ) (orM (oF6 args σ) (orM (oF7 args σ) (orM (oF8 args σ) (orM (oF9 args σ) (orM (oF10 args σ) (orM (oF11 args σ) (orM (oF12 args σ) (orM (oF13 args σ) (orM (oF14 args σ) (orM (oF15 args σ) (none))))))))))))))))
theorem mixOut_ok (b : Base) {args : List SV} {σ : SH} {outs : Outs} {env : Env} {w : World} {vs : List Value} (h : mixOut args σ = some outs) (ho : env.ones) (hr : Rel Tryz.prog b env σ w) (ha : denL env args = some vs) :
    Calls Tryz.prog 75 vs.toArray w (Comes1 Tryz.prog b env outs) := by
  unfold mixOut at h
  rcases orM_or h with h | h
  · exact frameOut_ok followsM (fun _ => noSumm_ok) mixedF0 (by kernel_rfl) (by kernel_rfl) (by kernel_rfl) h ho hr ha
  rcases orM_or h with h | h
  · exact frameOut_ok followsM (fun _ => noSumm_ok) mixedF1 (by kernel_rfl) (by kernel_rfl) (by kernel_rfl) h ho hr ha
  rcases orM_or h with h | h
  · exact frameOut_ok followsM (fun _ => noSumm_ok) mixedF2 (by kernel_rfl) (by kernel_rfl) (by kernel_rfl) h ho hr ha
  rcases orM_or h with h | h
  · exact frameOut_ok followsM (fun _ => noSumm_ok) mixedF3 (by kernel_rfl) (by kernel_rfl) (by kernel_rfl) h ho hr ha
  rcases orM_or h with h | h
  · exact frameOut_ok followsM (fun _ => noSumm_ok) mixedF4 (by kernel_rfl) (by kernel_rfl) (by kernel_rfl) h ho hr ha
  rcases orM_or h with h | h
  · exact frameOut_ok followsM (fun _ => noSumm_ok) mixedF5 (by kernel_rfl) (by kernel_rfl) (by kernel_rfl) h ho hr ha
  rcases orM_or h with h | h
  · exact frameOut_ok followsM (fun _ => noSumm_ok) mixedF6 (by kernel_rfl) (by kernel_rfl) (by kernel_rfl) h ho hr ha
  rcases orM_or h with h | h
  · exact frameOut_ok followsM (fun _ => noSumm_ok) mixedF7 (by kernel_rfl) (by kernel_rfl) (by kernel_rfl) h ho hr ha
  rcases orM_or h with h | h
  · exact frameOut_ok followsM (fun _ => noSumm_ok) mixedF8 (by kernel_rfl) (by kernel_rfl) (by kernel_rfl) h ho hr ha
  rcases orM_or h with h | h
  · exact frameOut_ok followsM (fun _ => noSumm_ok) mixedF9 (by kernel_rfl) (by kernel_rfl) (by kernel_rfl) h ho hr ha
  rcases orM_or h with h | h
  · exact frameOut_ok followsM (fun _ => noSumm_ok) mixedF10 (by kernel_rfl) (by kernel_rfl) (by kernel_rfl) h ho hr ha
  rcases orM_or h with h | h
  · exact frameOut_ok followsM (fun _ => noSumm_ok) mixedF11 (by kernel_rfl) (by kernel_rfl) (by kernel_rfl) h ho hr ha
  rcases orM_or h with h | h
  · exact frameOut_ok followsM (fun _ => noSumm_ok) mixedF12 (by kernel_rfl) (by kernel_rfl) (by kernel_rfl) h ho hr ha
  rcases orM_or h with h | h
  · exact frameOut_ok followsM (fun _ => noSumm_ok) mixedF13 (by kernel_rfl) (by kernel_rfl) (by kernel_rfl) h ho hr ha
  rcases orM_or h with h | h
  · exact frameOut_ok followsM (fun _ => noSumm_ok) mixedF14 (by kernel_rfl) (by kernel_rfl) (by kernel_rfl) h ho hr ha
  rcases orM_or h with h | h
  · exact frameOut_ok followsM (fun _ => noSumm_ok) mixedF15 (by kernel_rfl) (by kernel_rfl) (by kernel_rfl) h ho hr ha
  cases h
end Go.Proofs.YtnlijlabkoefbaaGreatDoor
