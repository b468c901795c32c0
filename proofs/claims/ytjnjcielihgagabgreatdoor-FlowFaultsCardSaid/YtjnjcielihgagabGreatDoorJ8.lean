/-
  sha.mixed at all these blocks: one summary.

  What the executor is told ahead of FlowFaults: sums of known blocks, functions without a body, keys of maps, ids in order, strings.Builder.
-/
import Derived.Test.YtjnjcielihgagabGreatDoorMixE1
import Derived.Test.YtjnjcielihgagabGreatDoorMixE2
import Derived.Test.YtjnjcielihgagabGreatDoorJ5
import Derived.Test.YtjnjcielihgagabGreatDoorJ6
import Derived.Test.YtjnjcielihgagabGreatDoorJ7
set_option linter.unusedSimpArgs false
set_option linter.unusedVariables false
namespace Go.Proofs.YtjnjcielihgagabGreatDoor
open Go Go.RowKit

theorem followsM : Tryz.prog.follows .mixedOrders = true := by kernel_rfl
noncomputable def orM (a b : Option Outs) : Option Outs := match a with
  | some x => some x
  | none => b
theorem orM_or {a b : Option Outs} {x : Outs} (h : orM a b = some x) : a = some x ∨ b = some x := by
  unfold orM at h
  split at h
  · exact .inl h
  · exact .inr h
noncomputable def oE0 (args : List SV) (σ : SH) : Option Outs := frameOut inE0 0 64 (.rest 0) blkE0 5 false outE0 args σ
noncomputable def oE1 (args : List SV) (σ : SH) : Option Outs := frameOut inE1 0 64 (.rest 0) blkE1 5 false outE1 args σ
noncomputable def oE2 (args : List SV) (σ : SH) : Option Outs := frameOut inE2 0 64 (.rest 0) blkE2 5 false outE2 args σ
noncomputable def oE3 (args : List SV) (σ : SH) : Option Outs := frameOut inE3 0 64 (.rest 0) blkE3 5 false outE3 args σ
noncomputable def oE4 (args : List SV) (σ : SH) : Option Outs := frameOut inE4 0 64 (.rest 0) blkE4 5 false outE4 args σ
noncomputable def oE5 (args : List SV) (σ : SH) : Option Outs := frameOut inE5 0 64 (.rest 0) blkE5 5 false outE5 args σ
noncomputable def mixOut (args : List SV) (σ : SH) : Option Outs := orM (oE0 args σ) (orM (oE1 args σ) (orM (oE2 args σ) (orM (oE3 args σ) (orM (oE4 args σ) (orM (oE5 args σ) (none))))))
theorem mixOut_ok (b : Base) {args : List SV} {σ : SH} {outs : Outs} {env : Env} {w : World} {vs : List Value} (h : mixOut args σ = some outs) (ho : env.ones) (hr : Rel Tryz.prog b env σ w) (ha : denL env args = some vs) :
    Calls Tryz.prog 74 vs.toArray w (Comes1 Tryz.prog b env outs) := by
  unfold mixOut at h
  rcases orM_or h with h | h
  · exact frameOut_ok followsM (fun _ => noSumm_ok) mixedE0 (by kernel_rfl) (by kernel_rfl) (by kernel_rfl) h ho hr ha
  rcases orM_or h with h | h
  · exact frameOut_ok followsM (fun _ => noSumm_ok) mixedE1 (by kernel_rfl) (by kernel_rfl) (by kernel_rfl) h ho hr ha
  rcases orM_or h with h | h
  · exact frameOut_ok followsM (fun _ => noSumm_ok) mixedE2 (by kernel_rfl) (by kernel_rfl) (by kernel_rfl) h ho hr ha
  rcases orM_or h with h | h
  · exact frameOut_ok followsM (fun _ => noSumm_ok) mixedE3 (by kernel_rfl) (by kernel_rfl) (by kernel_rfl) h ho hr ha
  rcases orM_or h with h | h
  · exact frameOut_ok followsM (fun _ => noSumm_ok) mixedE4 (by kernel_rfl) (by kernel_rfl) (by kernel_rfl) h ho hr ha
  rcases orM_or h with h | h
  · exact frameOut_ok followsM (fun _ => noSumm_ok) mixedE5 (by kernel_rfl) (by kernel_rfl) (by kernel_rfl) h ho hr ha
  cases h
end Go.Proofs.YtjnjcielihgagabGreatDoor

namespace Go.Proofs.YtjnjcielihgagabGreatDoor
open Go Go.RowKit

noncomputable def summEB : CallF :=
  onF 89 copyOut (onF 54 strOut (onF 52 hexOut (onF 163 subOut (onF 74 mixOut (onF 193 indexOut (onF 38 compareOut (onF 206 countOut (onF 23 compareBOut (onF 229 indexBOut (onF 10 sortOut (onF 20 collectIOut (onF 35 (orO collectFOut collectROut) noSumm))))))))))))
theorem summEB_ok (b : Base) : CallSound Tryz.prog b summEB :=
  onF_ok (fun _ _ _ _ _ _ h ho hr ha => copyOut_ok b h ho hr ha) <| onF_ok (fun _ _ _ _ _ _ h ho hr ha => strOut_ok b h ho hr ha) <| onF_ok (fun _ _ _ _ _ _ h ho hr ha => hexOut_ok b h ho hr ha) <| onF_ok (fun _ _ _ _ _ _ h ho hr ha => subOut_ok b h hr ha) <| onF_ok (fun _ _ _ _ _ _ h ho hr ha => mixOut_ok b h ho hr ha) <| onF_ok (fun _ _ _ _ _ _ h ho hr ha => indexOut_ok b h hr ha) <| onF_ok (fun _ _ _ _ _ _ h ho hr ha => compareOut_ok b h hr ha) <| onF_ok (fun _ _ _ _ _ _ h ho hr ha => countOut_ok b h hr ha) <| onF_ok (fun _ _ _ _ _ _ h ho hr ha => compareBOut_ok b h hr ha) <| onF_ok (fun _ _ _ _ _ _ h ho hr ha => indexBOut_ok b h hr ha) <| onF_ok (fun _ _ _ _ _ _ h ho hr ha => sortOut_ok b h hr ha) <| onF_ok (fun _ _ _ _ _ _ h ho hr ha => collectIOut_ok b h hr ha) <| onF_ok (fun _ _ _ _ _ _ h ho hr ha => (orO_or h).elim (fun h => collectFOut_ok b h hr ha) fun h => collectROut_ok b h hr ha) noSumm_ok
end Go.Proofs.YtjnjcielihgagabGreatDoor

