/-
  sha.mixed at all these blocks: one summary.

  sha.mixed at all these blocks: one summary.
-/
import Derived.Test.YtmcclkdkbedpmabGreatDoorMixR1
import Derived.Test.YtmcclkdkbedpmabGreatDoorMixR2
import Derived.Test.YtmcclkdkbedpmabGreatDoorMixM1
import Derived.Test.YtmcclkdkbedpmabGreatDoorMixM2
set_option linter.unusedSectionVars false
set_option linter.unusedSimpArgs false
set_option linter.unusedVariables false
namespace Go.Proofs.YtmcclkdkbedpmabGreatDoor
open Go Go.RowKit
variable [Known]

theorem followsM : Tryz.prog.follows .mixedOrders = true := by kernel_rfl
noncomputable def orM (a b : Option Outs) : Option Outs := match a with
  | some x => some x
  | none => b
theorem orM_or {a b : Option Outs} {x : Outs} (h : orM a b = some x) : a = some x ∨ b = some x := by
  unfold orM at h
  split at h
  · exact .inl h
  · exact .inr h
noncomputable def oR0 (args : List SV) (σ : SH) : Option Outs := frameOut inR0 0 64 (.rest 0) blkR0 5 false outR0 args σ
noncomputable def oR1 (args : List SV) (σ : SH) : Option Outs := frameOut inR1 0 64 (.rest 0) blkR1 5 false outR1 args σ
noncomputable def oR2 (args : List SV) (σ : SH) : Option Outs := frameOut inR2 64 64 (.rest 64) blkR2 5 false outR2 args σ
noncomputable def oR3 (args : List SV) (σ : SH) : Option Outs := frameOut inR3 0 64 (.rest 0) blkR3 5 false outR3 args σ
noncomputable def oR4 (args : List SV) (σ : SH) : Option Outs := frameOut inR4 64 64 (.rest 64) blkR4 5 false outR4 args σ
noncomputable def mixOut (args : List SV) (σ : SH) : Option Outs := orM (oR0 args σ) (orM (oR1 args σ) (orM (oR2 args σ) (orM (oR3 args σ) (orM (oR4 args σ) (none)))))
theorem mixOut_ok (b : Base) {args : List SV} {σ : SH} {outs : Outs} {env : Env} {w : World} {vs : List Value} (h : mixOut args σ = some outs) (ho : env.ones) (hr : Rel Tryz.prog b env σ w) (ha : denL env args = some vs) :
    Calls Tryz.prog 75 vs.toArray w (Comes1 Tryz.prog b env outs) := by
  unfold mixOut at h
  rcases orM_or h with h | h
  · exact frameOut_ok followsM (fun _ => noSumm_ok) mixedR0 (by kernel_rfl) (by kernel_rfl) (by kernel_rfl) h ho hr ha
  rcases orM_or h with h | h
  · exact frameOut_ok followsM (fun _ => noSumm_ok) mixedR1 (by kernel_rfl) (by kernel_rfl) (by kernel_rfl) h ho hr ha
  rcases orM_or h with h | h
  · exact frameOut_ok followsM (fun _ => noSumm_ok) mixedR2 (by kernel_rfl) (by kernel_rfl) (by kernel_rfl) h ho hr ha
  rcases orM_or h with h | h
  · exact frameOut_ok followsM (fun _ => noSumm_ok) mixedR3 (by kernel_rfl) (by kernel_rfl) (by kernel_rfl) h ho hr ha
  rcases orM_or h with h | h
  · exact frameOut_ok followsM (fun _ => noSumm_ok) mixedR4 (by kernel_rfl) (by kernel_rfl) (by kernel_rfl) h ho hr ha
  cases h
end Go.Proofs.YtmcclkdkbedpmabGreatDoor

namespace Go.Proofs.YtmcclkdkbedpmabGreatDoor
open Go Go.RowKit
variable [Known]

noncomputable def oM0 (args : List SV) (σ : SH) : Option Outs := frameOut inM0 64 64 (.rest 64) blkM0 5 false outM0 args σ
noncomputable def oM1 (args : List SV) (σ : SH) : Option Outs := frameOut inM1 0 64 (.rest 0) blkM1 5 false outM1 args σ
noncomputable def oM2 (args : List SV) (σ : SH) : Option Outs := frameOut inM2 0 64 (.rest 0) blkM2 5 false outM2 args σ
noncomputable def oM3 (args : List SV) (σ : SH) : Option Outs := frameOut inM3 64 64 (.rest 64) blkM3 5 false outM3 args σ
noncomputable def oM4 (args : List SV) (σ : SH) : Option Outs := frameOut inM4 0 64 (.rest 0) blkM4 5 false outM4 args σ
noncomputable def oM5 (args : List SV) (σ : SH) : Option Outs := frameOut inM5 64 64 (.rest 64) blkM5 5 false outM5 args σ
noncomputable def oM6 (args : List SV) (σ : SH) : Option Outs := frameOut inM6 0 64 (.rest 0) blkM6 5 false outM6 args σ
noncomputable def mixOutM (args : List SV) (σ : SH) : Option Outs := orM (oM0 args σ) (orM (oM1 args σ) (orM (oM2 args σ) (orM (oM3 args σ) (orM (oM4 args σ) (orM (oM5 args σ) (orM (oM6 args σ) (none)))))))
theorem mixOutM_ok (b : Base) {args : List SV} {σ : SH} {outs : Outs} {env : Env} {w : World} {vs : List Value} (h : mixOutM args σ = some outs) (ho : env.ones) (hr : Rel Tryz.prog b env σ w) (ha : denL env args = some vs) :
    Calls Tryz.prog 75 vs.toArray w (Comes1 Tryz.prog b env outs) := by
  unfold mixOutM at h
  rcases orM_or h with h | h
  · exact frameOut_ok followsM (fun _ => noSumm_ok) mixedM0 (by kernel_rfl) (by kernel_rfl) (by kernel_rfl) h ho hr ha
  rcases orM_or h with h | h
  · exact frameOut_ok followsM (fun _ => noSumm_ok) mixedM1 (by kernel_rfl) (by kernel_rfl) (by kernel_rfl) h ho hr ha
  rcases orM_or h with h | h
  · exact frameOut_ok followsM (fun _ => noSumm_ok) mixedM2 (by kernel_rfl) (by kernel_rfl) (by kernel_rfl) h ho hr ha
  rcases orM_or h with h | h
  · exact frameOut_ok followsM (fun _ => noSumm_ok) mixedM3 (by kernel_rfl) (by kernel_rfl) (by kernel_rfl) h ho hr ha
  rcases orM_or h with h | h
  · exact frameOut_ok followsM (fun _ => noSumm_ok) mixedM4 (by kernel_rfl) (by kernel_rfl) (by kernel_rfl) h ho hr ha
  rcases orM_or h with h | h
  · exact frameOut_ok followsM (fun _ => noSumm_ok) mixedM5 (by kernel_rfl) (by kernel_rfl) (by kernel_rfl) h ho hr ha
  rcases orM_or h with h | h
  · exact frameOut_ok followsM (fun _ => noSumm_ok) mixedM6 (by kernel_rfl) (by kernel_rfl) (by kernel_rfl) h ho hr ha
  cases h
end Go.Proofs.YtmcclkdkbedpmabGreatDoor

