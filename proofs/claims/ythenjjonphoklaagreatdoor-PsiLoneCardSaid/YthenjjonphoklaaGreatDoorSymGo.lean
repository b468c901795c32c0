/-
  THE EXECUTOR, put together.
-/
import Derived.Test.YthenjjonphoklaaGreatDoorSymFast
set_option linter.unusedVariables false
set_option linter.unusedSimpArgs false
namespace Go.Proofs.YthenjjonphoklaaGreatDoor
open Go Go.RowKit

variable {P : Program} {w0 : Base}

/-- The executor. -/
noncomputable def exec (P : Program) (summ : CallF) (d : Nat) : CallF := xCall P (opF P) summ (fun call => regDraw P (stillOp P) pureOp (opF P) call) d
theorem exec_ok (hm : P.follows .mixedOrders = true) {summ : CallF} (hsumm : ∀ b, CallSound P b summ) (d : Nat) (b : Base) : CallSound P b (exec P summ d) :=
  by
  unfold exec
  rw [opF_eq]
  exact xCall_ok (fun _ => sOpN_ok) hsumm (fun _ hc _ => regDraw_ok hm (fun _ => sOpN_ok) sOpN_cong sOpN_still sOpN_pure hc) d b
def noSumm : CallF := fun _ _ _ => none
theorem noSumm_ok : CallSound P w0 noSumm := fun f args σ outs env w vs h => by cases h

def sh0 : SH := ⟨0, .leaf⟩
def env0 (given : Nat → Value) : Env := ⟨fun _ => none, 0, given⟩
/-- All that lies in a world stays as it is. -/
def baseOf (w : World) : Base := ⟨w, fun b => b < w.heap.size⟩
theorem Keeps.below {w w' : World} (h : Keeps (baseOf w) w') : Below w.heap.size w w' := ⟨h.os, h.tape, h.output, h.size, fun k hk => (h.block k hk).2⟩
theorem MaxLenIs.lt {w : World} (h : MaxLenIs P w) {g : Nat} (hg : P.globals.findIdx? (·.name == "internal/bytealg.MaxLen") = some g) : g < w.heap.size := by
  obtain ⟨m, hm⟩ := h g hg
  unfold World.cell? at hm
  simp only at hm
  cases hb : w.heap[g]? with
  | none => rw [hb] at hm; cases hm
  | some o => exact (Array.getElem?_eq_some_iff.1 hb).1
theorem rel0 (given : Nat → Value) (w : World) (hml : MaxLenIs P w) : Rel P (baseOf w) (env0 given) sh0 w := by
  refine ⟨⟨hml, fun g hg => hml.lt hg⟩, ⟨rfl, rfl, rfl, Nat.le_refl _, fun k hk => ⟨hk, rfl⟩⟩, rfl, fun _ _ => rfl, fun n o h => ?_, fun n m o o' x y _ h => ?_⟩ <;>
  · have := (SH.get_lt h).2
    simp only [sh0, Tr.get_leaf] at this
    cases this
/-- A closed call. -/
theorem exec_closed (hm : P.follows .mixedOrders = true) {summ : CallF} (hsumm : ∀ b, CallSound P b summ) {d : Nat} {f : FuncId} {args : List SV} {outs : Outs} (h : exec P summ d f args sh0 = some outs) {given : Nat → Value} (ho : (env0 given).ones) {vs : List Value} (ha : denL (env0 given) args = some vs) (w : World) (hml : MaxLenIs P w) :
    Calls P f vs.toArray w fun e w' => ∃ o ∈ outs, ∃ env' v, e = .returned v ∧ Below w.heap.size w w' ∧ den env' o.1 = some v :=
  (exec_ok hm hsumm d (baseOf w) f args sh0 outs (env0 given) w vs h ho (rel0 given w hml) ha).mono fun e w' ⟨o, hmem, env', v, he, _, hr, hd⟩ => ⟨o, hmem, env', v, he, hr.below.below, hd⟩
end Go.Proofs.YthenjjonphoklaaGreatDoor
