/-
  What the executor is told ahead of law 13: sums of short messages, functions without a body, keys of maps.
-/
import Derived.Test.YtnlijlabkoefbaaGreatDoorMixF
import Derived.Test.YtnlijlabkoefbaaGreatDoorKeyOut
set_option linter.unusedVariables false
set_option linter.unusedSimpArgs false
namespace Go.Proofs.YtnlijlabkoefbaaGreatDoor
open Go Go.RowKit

/-- A summary of one function, ahead of others. -/
noncomputable def onF (k : Nat) (o : List SV → SH → Option Outs) (rest : CallF) : CallF := fun f args σ => @Bool.rec (fun _ => Option Outs) (rest f args σ) (o args σ) (Nat.beq f k)
theorem onF_ok {P : Program} {b : Base} {k : Nat} {o : List SV → SH → Option Outs} {rest : CallF} (ho : ∀ args σ outs env w vs, o args σ = some outs → env.ones → Rel P b env σ w → denL env args = some vs → Calls P k vs.toArray w (Comes1 P b env outs)) (hr : CallSound P b rest) : CallSound P b (onF k o rest) := by
  intro f args σ outs env w vs h hones hrel ha
  unfold onF at h
  cases hf : Nat.beq f k with
  | true =>
    rw [hf] at h
    obtain rfl := Nat.eq_of_beq_eq_true hf
    exact ho args σ outs env w vs h hones hrel ha
  | false =>
    rw [hf] at h
    exact hr f args σ outs env w vs h hones hrel ha
noncomputable def summF : CallF :=
  onF 75 mixOut (onF 157 indexOut (onF 148 compareOut (onF 175 countOut (onF 62 compareBOut (onF 115 indexBOut (onF 59 collectIOut (onF 149 collectFOut noSumm)))))))
theorem summF_ok (b : Base) : CallSound Tryz.prog b summF :=
  onF_ok (fun _ _ _ _ _ _ h ho hr ha => mixOut_ok b h ho hr ha) <| onF_ok (fun _ _ _ _ _ _ h ho hr ha => indexOut_ok b h hr ha) <| onF_ok (fun _ _ _ _ _ _ h ho hr ha => compareOut_ok b h hr ha) <| onF_ok (fun _ _ _ _ _ _ h ho hr ha => countOut_ok b h hr ha) <|
  onF_ok (fun _ _ _ _ _ _ h ho hr ha => compareBOut_ok b h hr ha) <| onF_ok (fun _ _ _ _ _ _ h ho hr ha => indexBOut_ok b h hr ha) <| onF_ok (fun _ _ _ _ _ _ h ho hr ha => collectIOut_ok b h hr ha) <| onF_ok (fun _ _ _ _ _ _ h ho hr ha => collectFOut_ok b h hr ha) noSumm_ok
end Go.Proofs.YtnlijlabkoefbaaGreatDoor
