/-
  sha.mixed at all these blocks: one summary.
-/
import Derived.Test.YthenjjonphoklabGreatDoorMixR1
import Derived.Test.YthenjjonphoklabGreatDoorMixR2
set_option linter.unusedVariables false
set_option linter.unusedSimpArgs false
namespace Go.Proofs.YthenjjonphoklabGreatDoor
open Go Go.RowKit

theorem followsM : Tryz.prog.follows .mixedOrders = true := by kernel_rfl
noncomputable def orM (a b : Option Outs) : Option Outs := match a with
  | some x => some x
  | none => b
theorem orM_or {a b : Option Outs} {x : Outs} (h : orM a b = some x) : a = some x ∨ b = some x := by
  unfold orM at h
  split at h
  · exact .inl h
  · exact .inr h
noncomputable def oR0 (args : List SV) (σ : SH) : Option Outs := frameOut inR0 0 64 (.rest 0) blkR0 5 false outR0 args σ
noncomputable def oR1 (args : List SV) (σ : SH) : Option Outs := frameOut inR1 0 64 (.rest 0) blkR1 5 false outR1 args σ
noncomputable def oR2 (args : List SV) (σ : SH) : Option Outs := frameOut inR2 64 64 (.rest 64) blkR2 5 false outR2 args σ
noncomputable def oR3 (args : List SV) (σ : SH) : Option Outs := frameOut inR3 0 64 (.rest 0) blkR3 5 false outR3 args σ
noncomputable def oR4 (args : List SV) (σ : SH) : Option Outs := frameOut inR4 64 64 (.rest 64) blkR4 5 false outR4 args σ
noncomputable def mixOut (args : List SV) (σ : SH) : Option Outs := orM (oR0 args σ) (orM (oR1 args σ) (orM (oR2 args σ) (orM (oR3 args σ) (orM (oR4 args σ) (none)))))
theorem mixOut_ok (b : Base) {args : List SV} {σ : SH} {outs : Outs} {env : Env} {w : World} {vs : List Value} (h : mixOut args σ = some outs) (ho : env.ones) (hr : Rel Tryz.prog b env σ w) (ha : denL env args = some vs) :
    Calls Tryz.prog 108 vs.toArray w (Comes1 Tryz.prog b env outs) := by
  unfold mixOut at h
  rcases orM_or h with h | h
  · exact frameOut_ok followsM (fun _ => noSumm_ok) mixedR0 (by kernel_rfl) (by kernel_rfl) (by kernel_rfl) h ho hr ha
  rcases orM_or h with h | h
  · exact frameOut_ok followsM (fun _ => noSumm_ok) mixedR1 (by kernel_rfl) (by kernel_rfl) (by kernel_rfl) h ho hr ha
  rcases orM_or h with h | h
  · exact frameOut_ok followsM (fun _ => noSumm_ok) mixedR2 (by kernel_rfl) (by kernel_rfl) (by kernel_rfl) h ho hr ha
  rcases orM_or h with h | h
  · exact frameOut_ok followsM (fun _ => noSumm_ok) mixedR3 (by kernel_rfl) (by kernel_rfl) (by kernel_rfl) h ho hr ha
  rcases orM_or h with h | h
  · exact frameOut_ok followsM (fun _ => noSumm_ok) mixedR4 (by kernel_rfl) (by kernel_rfl) (by kernel_rfl) h ho hr ha
  cases h
end Go.Proofs.YthenjjonphoklabGreatDoor
