/-
  THE EXECUTOR, part S: put together.
-/
import Derived.Test.YtnlijlabkoefbaaGreatDoorSymR
set_option linter.unusedVariables false
set_option linter.unusedSimpArgs false
namespace Go.Proofs.YtnlijlabkoefbaaGreatDoor
open Go Go.RowKit

variable {P : Program} {w0 : Base}

theorem sOp_still : ∀ (st : List SV) (o : Oper) (σ : SH) (s : SV) (σ' : SH), stillOp P o.op = true → sOp P st o σ = some (.val s σ') → σ' = σ := by
  intro st o σ s σ' hs h
  obtain ⟨d, op, ty, pos, af, g⟩ := o
  unfold sOp at h
  cases op <;> simp only [stillOp, Bool.false_eq_true] at hs <;> simp only at h
  case call c =>
    obtain ⟨callee, args, tys⟩ := c
    unfold sCallOp at h
    simp only at hs h
    split at hs
    · simp only at h; (repeat' split at h) <;> first | (cases h; done) | (cases h; rfl)
    · simp only at h; (repeat' split at h) <;> first | (cases h; done) | (cases h; rfl)
    · simp only at h; (repeat' split at h) <;> first | (cases h; done) | (cases h; rfl)
    · simp only at h; (repeat' split at h) <;> first | (cases h; done) | (cases h; rfl)
    · cases hs
  case convert S D x =>
    split at h
    · rename_i t ht
      have key : sConvert P σ S D t = some (.val s σ') → σ' = σ := by
        intro h
        unfold sConvert at h
        split at hs
        · rename_i k hu
          rw [hu] at h
          split at h
          · unfold sPure1 at h; (repeat' split at h) <;> first | (cases h; done) | (cases h; rfl)
          all_goals ((repeat' split at h) <;> first | (cases h; done) | (cases h; rfl) | (exfalso; simp_all; done))
        · rename_i hu
          rw [hu] at h
          split at h
          · unfold sPure1 at h; (repeat' split at h) <;> first | (cases h; done) | (cases h; rfl)
          all_goals ((repeat' split at h) <;> first | (cases h; done) | (cases h; rfl) | (exfalso; simp_all; done))
        · cases hs
      unfold sConvert2 at h
      split at h
      · split at h
        · rename_i e0 e h1 h2
          rw [h2] at hs; cases hs
        · exact key h
      · exact key h
    · cases h
  case build T ps => unfold sBuild at h; (repeat' split at h) <;> first | (cases h; done) | (cases h; rfl)
  case slice T x a b c => unfold sSlice at h; (repeat' split at h) <;> first | (cases h; done) | (cases h; rfl)
  case binOp op T x y B => unfold sBinary sBin sPure2 at h; (repeat' split at h) <;> first | (cases h; done) | (cases h; rfl)
  case typeAssert => unfold sAssert at h; (repeat' split at h) <;> first | (cases h; done) | (cases h; rfl)
  case lookup => unfold sLookup at h; (repeat' split at h) <;> first | (cases h; done) | (cases h; rfl)
  case pick => unfold sPick at h; (repeat' split at h) <;> first | (cases h; done) | (cases h; rfl)
  case load => unfold sLoad at h; (repeat' split at h) <;> first | (cases h; done) | (cases h; rfl)
  case nilCheck => unfold sNilCheck at h; (repeat' split at h) <;> first | (cases h; done) | (cases h; rfl)
  case unOp => unfold sPure1 at h; (repeat' split at h) <;> first | (cases h; done) | (cases h; rfl)
  case makeInterface => unfold sMakeIface at h; (repeat' split at h) <;> first | (cases h; done) | (cases h; rfl)
  case fieldAddr => unfold sFieldAddr at h; (repeat' split at h) <;> first | (cases h; done) | (cases h; rfl)
  case field => unfold sField at h; (repeat' split at h) <;> first | (cases h; done) | (cases h; rfl)
  case indexAddr => unfold sIndexAddr at h; (repeat' split at h) <;> first | (cases h; done) | (cases h; rfl)
  case index => unfold sIndex at h; (repeat' split at h) <;> first | (cases h; done) | (cases h; rfl)
  case extract => unfold sExtract at h; (repeat' split at h) <;> first | (cases h; done) | (cases h; rfl)
  all_goals ((repeat' split at h) <;> first | (cases h; done) | (cases h; rfl))

theorem sOp_pure : ∀ (st : List SV) (o : Oper) (σ : SH) (s : SV) (σ' σ1 : SH), pureOp o.op = true → sOp P st o σ = some (.val s σ') → ∃ σ2, sOp P st o σ1 = some (.val s σ2) := by
  intro st o σ s σ' σ1 hs h
  obtain ⟨d, op, ty, pos, af, g⟩ := o
  unfold sOp at h ⊢
  refine ⟨σ1, ?_⟩
  cases op <;> simp only [pureOp, Bool.false_eq_true] at hs <;> simp only at h ⊢
  case build T ps =>
    split at h
    · unfold sBuild at h ⊢; (repeat' split at h) <;> first | (cases h; done) | (cases h; simp only [*, if_true, if_false, Bool.false_eq_true]; done)
    · cases h
  case binOp op T x y B =>
    split at h
    · unfold sBinary sBin sPure2 at h ⊢; (repeat' split at h) <;> first | (cases h; done) | (cases h; simp only [*, if_true, if_false, Bool.false_eq_true]; done)
    · cases h
  case pick => unfold sPick at h ⊢; (repeat' split at h) <;> first | (cases h; done) | (cases h; simp only [*, if_true, if_false, Bool.false_eq_true]; done)
  case nilCheck => unfold sNilCheck at h ⊢; (repeat' split at h) <;> first | (cases h; done) | (cases h; simp only [*, if_true, if_false, Bool.false_eq_true]; done)
  case unOp => unfold sPure1 at h ⊢; (repeat' split at h) <;> first | (cases h; done) | (cases h; simp only [*, if_true, if_false, Bool.false_eq_true]; done)
  case makeInterface => unfold sMakeIface at h ⊢; (repeat' split at h) <;> first | (cases h; done) | (cases h; simp only [*, if_true, if_false, Bool.false_eq_true]; done)
  case fieldAddr => unfold sFieldAddr at h ⊢; (repeat' split at h) <;> first | (cases h; done) | (cases h; simp only [*, if_true, if_false, Bool.false_eq_true]; done)
  case field => unfold sField at h ⊢; (repeat' split at h) <;> first | (cases h; done) | (cases h; simp only [*, if_true, if_false, Bool.false_eq_true]; done)
  case indexAddr => unfold sIndexAddr at h ⊢; (repeat' split at h) <;> first | (cases h; done) | (cases h; simp only [*, if_true, if_false, Bool.false_eq_true]; done)
  case index => unfold sIndex at h ⊢; (repeat' split at h) <;> first | (cases h; done) | (cases h; simp only [*, if_true, if_false, Bool.false_eq_true]; done)
  case extract => unfold sExtract at h ⊢; (repeat' split at h) <;> first | (cases h; done) | (cases h; simp only [*, if_true, if_false, Bool.false_eq_true]; done)
  all_goals ((repeat' split at h) <;> first | (cases h; done) | (cases h; simp only [*, if_true, if_false, Bool.false_eq_true]; done))

/-- The executor. -/
noncomputable def exec (P : Program) (summ : CallF) (d : Nat) : CallF := xCall P (sOp P) summ (fun call => regDraw P (stillOp P) pureOp (sOp P) call) d
theorem exec_ok (hm : P.follows .mixedOrders = true) {summ : CallF} (hsumm : ∀ b, CallSound P b summ) (d : Nat) (b : Base) : CallSound P b (exec P summ d) :=
  xCall_ok (fun _ => sOp_ok) hsumm (fun _ hc _ => regDraw_ok hm (fun _ => sOp_ok) sOp_cong sOp_still sOp_pure hc) d b
def noSumm : CallF := fun _ _ _ => none
theorem noSumm_ok : CallSound P w0 noSumm := fun f args σ outs env w vs h => by cases h

def sh0 : SH := ⟨0, .leaf⟩
def env0 (given : Nat → Value) : Env := ⟨fun _ => none, 0, given⟩
/-- All that lies in a world stays as it is. -/
def baseOf (w : World) : Base := ⟨w, fun b => b < w.heap.size⟩
theorem Keeps.below {w w' : World} (h : Keeps (baseOf w) w') : Below w.heap.size w w' := ⟨h.os, h.tape, h.output, h.size, fun k hk => (h.block k hk).2⟩
theorem rel0 (given : Nat → Value) (w : World) : Rel P (baseOf w) (env0 given) sh0 w := by
  refine ⟨⟨rfl, rfl, rfl, Nat.le_refl _, fun k hk => ⟨hk, rfl⟩⟩, rfl, fun _ _ => rfl, fun n o h => ?_, fun n m o o' x y _ h => ?_⟩ <;>
  · have := (SH.get_lt h).2
    simp only [sh0, Tr.get_leaf] at this
    cases this
/-- A closed call. -/
theorem exec_closed (hm : P.follows .mixedOrders = true) {summ : CallF} (hsumm : ∀ b, CallSound P b summ) {d : Nat} {f : FuncId} {args : List SV} {outs : Outs} (h : exec P summ d f args sh0 = some outs) {given : Nat → Value} (ho : (env0 given).ones) {vs : List Value} (ha : denL (env0 given) args = some vs) (w : World) :
    Calls P f vs.toArray w fun e w' => ∃ o ∈ outs, ∃ env' v, e = .returned v ∧ Below w.heap.size w w' ∧ den env' o.1 = some v :=
  (exec_ok hm hsumm d (baseOf w) f args sh0 outs (env0 given) w vs h ho (rel0 given w) ha).mono fun e w' ⟨o, hmem, env', v, he, _, hr, hd⟩ => ⟨o, hmem, env', v, he, hr.below.below, hd⟩
end Go.Proofs.YtnlijlabkoefbaaGreatDoor
