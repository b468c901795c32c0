/-
  sha.mixed at all these blocks: one summary.

  What the executor is told of law 13 ahead of FlatDeep: sums of known blocks, functions without a body, keys of maps, ids in order.
-/
import Derived.Test.YtjnjcielihgagaaGreatDoorMixD1
import Derived.Test.YtjnjcielihgagaaGreatDoorMixD2
import Derived.Test.YtjnjcielihgagaaGreatDoorMixD3
import Derived.Test.YtjnjcielihgagaaGreatDoorMixD4
import Derived.Test.YtjnjcielihgagaaGreatDoorJ5
import Derived.Test.YtjnjcielihgagaaGreatDoorJ6
set_option linter.unusedSimpArgs false
set_option linter.unusedVariables false
namespace Go.Proofs.YtjnjcielihgagaaGreatDoor
open Go Go.RowKit

theorem followsM : Tryz.prog.follows .mixedOrders = true := by kernel_rfl
noncomputable def orM (a b : Option Outs) : Option Outs := match a with
  | some x => some x
  | none => b
theorem orM_or {a b : Option Outs} {x : Outs} (h : orM a b = some x) : a = some x ∨ b = some x := by
  unfold orM at h
  split at h
  · exact .inl h
  · exact .inr h
noncomputable def oD0 (args : List SV) (σ : SH) : Option Outs := frameOut inD0 0 64 (.rest 0) blkD0 5 false outD0 args σ
noncomputable def oD1 (args : List SV) (σ : SH) : Option Outs := frameOut inD1 0 64 (.rest 0) blkD1 5 false outD1 args σ
noncomputable def oD2 (args : List SV) (σ : SH) : Option Outs := frameOut inD2 0 64 (.rest 0) blkD2 5 false outD2 args σ
noncomputable def oD3 (args : List SV) (σ : SH) : Option Outs := frameOut inD3 0 64 (.rest 0) blkD3 5 false outD3 args σ
noncomputable def oD4 (args : List SV) (σ : SH) : Option Outs := frameOut inD4 0 64 (.rest 0) blkD4 5 false outD4 args σ
noncomputable def oD5 (args : List SV) (σ : SH) : Option Outs := frameOut inD5 0 64 (.rest 0) blkD5 5 false outD5 args σ
noncomputable def oD6 (args : List SV) (σ : SH) : Option Outs := frameOut inD6 0 64 (.rest 0) blkD6 5 false outD6 args σ
noncomputable def oD7 (args : List SV) (σ : SH) : Option Outs := frameOut inD7 0 64 (.rest 0) blkD7 5 false outD7 args σ
noncomputable def oD8 (args : List SV) (σ : SH) : Option Outs := frameOut inD8 0 64 (.rest 0) blkD8 5 false outD8 args σ
noncomputable def oD9 (args : List SV) (σ : SH) : Option Outs := frameOut inD9 0 64 (.rest 0) blkD9 5 false outD9 args σ
noncomputable def oD10 (args : List SV) (σ : SH) : Option Outs := frameOut inD10 0 64 (.rest 0) blkD10 5 false outD10 args σ
noncomputable def oD11 (args : List SV) (σ : SH) : Option Outs := frameOut inD11 0 64 (.rest 0) blkD11 5 false outD11 args σ
noncomputable def oD12 (args : List SV) (σ : SH) : Option Outs := frameOut inD12 0 64 (.rest 0) blkD12 5 false outD12 args σ
noncomputable def oD13 (args : List SV) (σ : SH) : Option Outs := frameOut inD13 0 64 (.rest 0) blkD13 5 false outD13 args σ
noncomputable def oD14 (args : List SV) (σ : SH) : Option Outs := frameOut inD14 0 64 (.rest 0) blkD14 5 false outD14 args σ
noncomputable def oD15 (args : List SV) (σ : SH) : Option Outs := frameOut inD15 0 64 (.rest 0) blkD15 5 false outD15 args σ
noncomputable def oD16 (args : List SV) (σ : SH) : Option Outs := frameOut inD16 0 64 (.rest 0) blkD16 5 false outD16 args σ
noncomputable def oD17 (args : List SV) (σ : SH) : Option Outs := frameOut inD17 0 64 (.rest 0) blkD17 5 false outD17 args σ
noncomputable def oD18 (args : List SV) (σ : SH) : Option Outs := frameOut inD18 0 64 (.rest 0) blkD18 5 false outD18 args σ
noncomputable def mixOut (args : List SV) (σ : SH) : Option Outs := orM (oD0 args σ) (orM (oD1 args σ) (orM (oD2 args σ) (orM (oD3 args σ) (orM (oD4 args σ) (orM (oD5 args σ) (orM (oD6 args σ) (orM (oD7 args σ) (orM (oD8 args σ) (orM (oD9 args σ) (orM (oD10 args σ) (orM (oD11 args σ) (orM (oD12 args σ) (orM (oD13 args σ) (orM (oD14 args σ) (orM (oD15 args σ) (orM (oD16 args σ) (orM (oD17 args σ) (orM (oD18 args σ) (none)))))))))))))))))))
theorem mixOut_ok (b : Base) {args : List SV} {σ : SH} {outs : Outs} {env : Env} {w : World} {vs : List Value} (h : mixOut args σ = some outs) (ho : env.ones) (hr : Rel Tryz.prog b env σ w) (ha : denL env args = some vs) :
    Calls Tryz.prog 72 vs.toArray w (Comes1 Tryz.prog b env outs) := by
  unfold mixOut at h
  rcases orM_or h with h | h
  · exact frameOut_ok followsM (fun _ => noSumm_ok) mixedD0 (by kernel_rfl) (by kernel_rfl) (by kernel_rfl) h ho hr ha
  rcases orM_or h with h | h
  · exact frameOut_ok followsM (fun _ => noSumm_ok) mixedD1 (by kernel_rfl) (by kernel_rfl) (by kernel_rfl) h ho hr ha
  rcases orM_or h with h | h
  · exact frameOut_ok followsM (fun _ => noSumm_ok) mixedD2 (by kernel_rfl) (by kernel_rfl) (by kernel_rfl) h ho hr ha
  rcases orM_or h with h | h
  · exact frameOut_ok followsM (fun _ => noSumm_ok) mixedD3 (by kernel_rfl) (by kernel_rfl) (by kernel_rfl) h ho hr ha
  rcases orM_or h with h | h
  · exact frameOut_ok followsM (fun _ => noSumm_ok) mixedD4 (by kernel_rfl) (by kernel_rfl) (by kernel_rfl) h ho hr ha
  rcases orM_or h with h | h
  · exact frameOut_ok followsM (fun _ => noSumm_ok) mixedD5 (by kernel_rfl) (by kernel_rfl) (by kernel_rfl) h ho hr ha
  rcases orM_or h with h | h
  · exact frameOut_ok followsM (fun _ => noSumm_ok) mixedD6 (by kernel_rfl) (by kernel_rfl) (by kernel_rfl) h ho hr ha
  rcases orM_or h with h | h
  · exact frameOut_ok followsM (fun _ => noSumm_ok) mixedD7 (by kernel_rfl) (by kernel_rfl) (by kernel_rfl) h ho hr ha
  rcases orM_or h with h | h
  · exact frameOut_ok followsM (fun _ => noSumm_ok) mixedD8 (by kernel_rfl) (by kernel_rfl) (by kernel_rfl) h ho hr ha
  rcases orM_or h with h | h
  · exact frameOut_ok followsM (fun _ => noSumm_ok) mixedD9 (by kernel_rfl) (by kernel_rfl) (by kernel_rfl) h ho hr ha
  rcases orM_or h with h | h
  · exact frameOut_ok followsM (fun _ => noSumm_ok) mixedD10 (by kernel_rfl) (by kernel_rfl) (by kernel_rfl) h ho hr ha
  rcases orM_or h with h | h
  · exact frameOut_ok followsM (fun _ => noSumm_ok) mixedD11 (by kernel_rfl) (by kernel_rfl) (by kernel_rfl) h ho hr ha
  rcases orM_or h with h | h
  · exact frameOut_ok followsM (fun _ => noSumm_ok) mixedD12 (by kernel_rfl) (by kernel_rfl) (by kernel_rfl) h ho hr ha
  rcases orM_or h with h | h
  · exact frameOut_ok followsM (fun _ => noSumm_ok) mixedD13 (by kernel_rfl) (by kernel_rfl) (by kernel_rfl) h ho hr ha
  rcases orM_or h with h | h
  · exact frameOut_ok followsM (fun _ => noSumm_ok) mixedD14 (by kernel_rfl) (by kernel_rfl) (by kernel_rfl) h ho hr ha
  rcases orM_or h with h | h
  · exact frameOut_ok followsM (fun _ => noSumm_ok) mixedD15 (by kernel_rfl) (by kernel_rfl) (by kernel_rfl) h ho hr ha
  rcases orM_or h with h | h
  · exact frameOut_ok followsM (fun _ => noSumm_ok) mixedD16 (by kernel_rfl) (by kernel_rfl) (by kernel_rfl) h ho hr ha
  rcases orM_or h with h | h
  · exact frameOut_ok followsM (fun _ => noSumm_ok) mixedD17 (by kernel_rfl) (by kernel_rfl) (by kernel_rfl) h ho hr ha
  rcases orM_or h with h | h
  · exact frameOut_ok followsM (fun _ => noSumm_ok) mixedD18 (by kernel_rfl) (by kernel_rfl) (by kernel_rfl) h ho hr ha
  cases h
end Go.Proofs.YtjnjcielihgagaaGreatDoor

namespace Go.Proofs.YtjnjcielihgagaaGreatDoor
open Go Go.RowKit

noncomputable def summDB : CallF :=
  onF 72 mixOut (onF 144 indexOut (onF 92 compareOut (onF 117 countOut (onF 31 compareBOut (onF 140 indexBOut (onF 13 sortOut (onF 28 collectIOut (onF 62 collectFOut noSumm))))))))
theorem summDB_ok (b : Base) : CallSound Tryz.prog b summDB :=
  onF_ok (fun _ _ _ _ _ _ h ho hr ha => mixOut_ok b h ho hr ha) <| onF_ok (fun _ _ _ _ _ _ h ho hr ha => indexOut_ok b h hr ha) <| onF_ok (fun _ _ _ _ _ _ h ho hr ha => compareOut_ok b h hr ha) <| onF_ok (fun _ _ _ _ _ _ h ho hr ha => countOut_ok b h hr ha) <|
  onF_ok (fun _ _ _ _ _ _ h ho hr ha => compareBOut_ok b h hr ha) <| onF_ok (fun _ _ _ _ _ _ h ho hr ha => indexBOut_ok b h hr ha) <| onF_ok (fun _ _ _ _ _ _ h ho hr ha => sortOut_ok b h hr ha) <| onF_ok (fun _ _ _ _ _ _ h ho hr ha => collectIOut_ok b h hr ha) <| onF_ok (fun _ _ _ _ _ _ h ho hr ha => collectFOut_ok b h hr ha) noSumm_ok
end Go.Proofs.YtjnjcielihgagaaGreatDoor

