/-
  sha.mixed at all these blocks: one summary.
-/
import Derived.Test.YtdkindollljlnabGreatDoorMixB1
set_option linter.unusedVariables false
set_option linter.unusedSimpArgs false
namespace Go.Proofs.YtdkindollljlnabGreatDoor
open Go Go.RowKit

theorem followsM : Tryz.prog.follows .mixedOrders = true := by kernel_rfl
noncomputable def orM (a b : Option Outs) : Option Outs := match a with
  | some x => some x
  | none => b
theorem orM_or {a b : Option Outs} {x : Outs} (h : orM a b = some x) : a = some x ∨ b = some x := by
  unfold orM at h
  split at h
  · exact .inl h
  · exact .inr h
variable [Known]
noncomputable def oB0 (args : List SV) (σ : SH) : Option Outs := frameOut inB0 0 64 (.rest 0) blkB0 5 false outB0 args σ
noncomputable def oB1 (args : List SV) (σ : SH) : Option Outs := frameOut inB1 0 64 (.rest 0) blkB1 5 false outB1 args σ
noncomputable def mixOut (args : List SV) (σ : SH) : Option Outs := orM (oB0 args σ) (orM (oB1 args σ) (none))
theorem mixOut_ok (b : Base) {args : List SV} {σ : SH} {outs : Outs} {env : Env} {w : World} {vs : List Value} (h : mixOut args σ = some outs) (ho : env.ones) (hr : Rel Tryz.prog b env σ w) (ha : denL env args = some vs) :
    Calls Tryz.prog 101 vs.toArray w (Comes1 Tryz.prog b env outs) := by
  unfold mixOut at h
  rcases orM_or h with h | h
  · exact frameOut_ok followsM (fun _ => noSumm_ok) mixedB0 (by kernel_rfl) (by kernel_rfl) (by kernel_rfl) h ho hr ha
  rcases orM_or h with h | h
  · exact frameOut_ok followsM (fun _ => noSumm_ok) mixedB1 (by kernel_rfl) (by kernel_rfl) (by kernel_rfl) h ho hr ha
  cases h
end Go.Proofs.YtdkindollljlnabGreatDoor
