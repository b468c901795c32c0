/-
  THE EXECUTOR, part S: put together.
-/
import Derived.Test.YtnlijlabkoefbaaGreatDoorSymR
set_option linter.unusedVariables false
set_option linter.unusedSimpArgs false
namespace Go.Proofs.YtnlijlabkoefbaaGreatDoor
open Go Go.RowKit

variable {P : Program} {w0 : Base}

theorem sOp_still : ∀ (st : List SV) (o : Oper) (σ : SH) (s : SV) (σ' : SH), stillOp P o.op = true → sOp P st o σ = some (.val s σ') → σ' = σ := by
  intro st o σ s σ' hs h
  obtain ⟨d, op, ty, pos, af, g⟩ := o
  unfold sOp at h
  cases op <;> simp only [stillOp, Bool.false_eq_true] at hs <;> simp only at h
  case call c =>
    obtain ⟨callee, args, tys⟩ := c
    unfold sCallOp at h
    simp only at hs h
    split at hs
    · simp only at h; (repeat' split at h) <;> first | (cases h; done) | (cases h; rfl)
    · simp only at h; (repeat' split at h) <;> first | (cases h; done) | (cases h; rfl)
    · simp only at h; (repeat' split at h) <;> first | (cases h; done) | (cases h; rfl)
    · simp only at h; (repeat' split at h) <;> first | (cases h; done) | (cases h; rfl)
    · cases hs
  case convert S D x =>
    split at h
    · rename_i t ht
      have key : sConvert P σ S D t = some (.val s σ') → σ' = σ := by
        intro h
        unfold sConvert at h
        split at hs
        · rename_i k hu
          rw [hu] at h
          split at h
          · unfold sPure1 at h; (repeat' split at h) <;> first | (cases h; done) | (cases h; rfl)
          all_goals ((repeat' split at h) <;> first | (cases h; done) | (cases h; rfl) | (exfalso; simp_all; done))
        · rename_i hu
          rw [hu] at h
          split at h
          · unfold sPure1 at h; (repeat' split at h) <;> first | (cases h; done) | (cases h; rfl)
          all_goals ((repeat' split at h) <;> first | (cases h; done) | (cases h; rfl) | (exfalso; simp_all; done))
        · cases hs
      unfold sConvert2 at h
      split at h
      · split at h
        · rename_i e0 e h1 h2
          rw [h2] at hs; cases hs
        · exact key h
      · exact key h
    · cases h
  case build T ps => unfold sBuild at h; (repeat' split at h) <;> first | (cases h; done) | (cases h; rfl)
  case slice T x a b c => unfold sSlice at h; (repeat' split at h) <;> first | (cases h; done) | (cases h; rfl)
  case binOp op T x y B => unfold sBinary sBin sPure2 at h; (repeat' split at h) <;> first | (cases h; done) | (cases h; rfl)
  case typeAssert => unfold sAssert at h; (repeat' split at h) <;> first | (cases h; done) | (cases h; rfl)
  case lookup => unfold sLookup sLookupStr at h; (repeat' split at h) <;> first | (cases h; done) | (cases h; rfl)
  case entry => unfold sEntry at h; (repeat' split at h) <;> first | (cases h; done) | (cases h; rfl)
  case sliceToArrayPointer => unfold sArr at h; (repeat' split at h) <;> first | (cases h; done) | (cases h; rfl)
  case pick => unfold sPick at h; (repeat' split at h) <;> first | (cases h; done) | (cases h; rfl)
  case load => unfold sLoad at h; (repeat' split at h) <;> first | (cases h; done) | (cases h; rfl)
  case nilCheck => unfold sNilCheck at h; (repeat' split at h) <;> first | (cases h; done) | (cases h; rfl)
  case unOp => unfold sPure1 at h; (repeat' split at h) <;> first | (cases h; done) | (cases h; rfl)
  case makeInterface => unfold sMakeIface at h; (repeat' split at h) <;> first | (cases h; done) | (cases h; rfl)
  case fieldAddr => unfold sFieldAddr at h; (repeat' split at h) <;> first | (cases h; done) | (cases h; rfl)
  case field => unfold sField at h; (repeat' split at h) <;> first | (cases h; done) | (cases h; rfl)
  case indexAddr => unfold sIndexAddr at h; (repeat' split at h) <;> first | (cases h; done) | (cases h; rfl)
  case index => unfold sIndex at h; (repeat' split at h) <;> first | (cases h; done) | (cases h; rfl)
  case extract => unfold sExtract at h; (repeat' split at h) <;> first | (cases h; done) | (cases h; rfl)
  all_goals ((repeat' split at h) <;> first | (cases h; done) | (cases h; rfl))

theorem sOp_pure : ∀ (st : List SV) (o : Oper) (σ : SH) (s : SV) (σ' σ1 : SH), pureOp o.op = true → sOp P st o σ = some (.val s σ') → ∃ σ2, sOp P st o σ1 = some (.val s σ2) := by
  intro st o σ s σ' σ1 hs h
  obtain ⟨d, op, ty, pos, af, g⟩ := o
  unfold sOp at h ⊢
  refine ⟨σ1, ?_⟩
  cases op <;> simp only [pureOp, Bool.false_eq_true] at hs <;> simp only at h ⊢
  case build T ps =>
    split at h
    · unfold sBuild at h ⊢; (repeat' split at h) <;> first | (cases h; done) | (cases h; simp only [*, if_true, if_false, Bool.false_eq_true]; done)
    · cases h
  case binOp op T x y B =>
    split at h
    · unfold sBinary sBin sPure2 at h ⊢; (repeat' split at h) <;> first | (cases h; done) | (cases h; simp only [*, if_true, if_false, Bool.false_eq_true]; done)
    · cases h
  case pick => unfold sPick at h ⊢; (repeat' split at h) <;> first | (cases h; done) | (cases h; simp only [*, if_true, if_false, Bool.false_eq_true]; done)
  case nilCheck => unfold sNilCheck at h ⊢; (repeat' split at h) <;> first | (cases h; done) | (cases h; simp only [*, if_true, if_false, Bool.false_eq_true]; done)
  case unOp => unfold sPure1 at h ⊢; (repeat' split at h) <;> first | (cases h; done) | (cases h; simp only [*, if_true, if_false, Bool.false_eq_true]; done)
  case makeInterface => unfold sMakeIface at h ⊢; (repeat' split at h) <;> first | (cases h; done) | (cases h; simp only [*, if_true, if_false, Bool.false_eq_true]; done)
  case fieldAddr => unfold sFieldAddr at h ⊢; (repeat' split at h) <;> first | (cases h; done) | (cases h; simp only [*, if_true, if_false, Bool.false_eq_true]; done)
  case field => unfold sField at h ⊢; (repeat' split at h) <;> first | (cases h; done) | (cases h; simp only [*, if_true, if_false, Bool.false_eq_true]; done)
  case indexAddr => unfold sIndexAddr at h ⊢; (repeat' split at h) <;> first | (cases h; done) | (cases h; simp only [*, if_true, if_false, Bool.false_eq_true]; done)
  case index => unfold sIndex at h ⊢; (repeat' split at h) <;> first | (cases h; done) | (cases h; simp only [*, if_true, if_false, Bool.false_eq_true]; done)
  case sliceToArrayPointer => unfold sArr at h ⊢; (repeat' split at h) <;> first | (cases h; done) | (cases h; simp only [*, if_true, if_false, Bool.false_eq_true]; done)
  case extract => unfold sExtract at h ⊢; (repeat' split at h) <;> first | (cases h; done) | (cases h; simp only [*, if_true, if_false, Bool.false_eq_true]; done)
  all_goals ((repeat' split at h) <;> first | (cases h; done) | (cases h; simp only [*, if_true, if_false, Bool.false_eq_true]; done))

/-- Numbers of which some remainders are known. -/
def lookR (m : Nat) : List (Nat × Nat) → Option Nat
  | [] => none
  | (m', r) :: t => if m = m' then some r else lookR m t
theorem lookR_ok {v : Int} {m r : Nat} : ∀ {fs : List (Nat × Nat)}, lookR m fs = some r → remsOk v fs = true → IntKind.u64.wrap v % (m : Nat) = (r : Nat) := by
  intro fs
  induction fs with
  | nil => intro h; cases h
  | cons p t ih =>
    intro h hr
    obtain ⟨m', r'⟩ := p
    simp only [lookR] at h
    simp only [remsOk, Bool.and_eq_true, decide_eq_true_eq] at hr
    split at h
    · rename_i hm; cases h; subst hm; exact hr.1
    · exact ih h hr.2
noncomputable def sNum (P : Program) (st : List SV) : Op → Option SV
  | .convert S D x => match evalS st x with
    | some (.num i fs false) => match P.underlying S, P.underlying D with
      | some _, some (.int .u64) => some (.num i fs true)
      | _, _ => none
    | _ => none
  | .binOp .rem T x y _ => match evalS st x, evalS st y with
    | some (.num i fs true), some (.int .u64 (.ofNat (m + 1))) => match lookR (m + 1) fs with
      | some r => some (.int .u64 (.ofNat r))
      | none => none
    | _, _ => none
  | _ => none
noncomputable def sOpN (P : Program) : OpF := fun st o σ => match sNum P st o.op with
  | some s => some (.val s σ)
  | none => sOp P st o σ
theorem wrap64_range (v : Int) : 0 ≤ IntKind.u64.wrap v := by
  simp only [IntKind.wrap, IntKind.bits, IntKind.signed]
  have : (0 : Int) ≤ v % 2 ^ 64 := Int.emod_nonneg _ (by decide)
  simpa using this
theorem sOpN_ok : OpSound P w0 (sOpN P) := by
  intro st o σ r env a w hs ho h hf
  unfold sOpN at hs
  split at hs
  · rename_i s hn; cases hs
    obtain ⟨d, op, ty, pos, af, g⟩ := o
    have E : ∀ {x : Operand} {s : SV}, evalS st x = some s → den env s = some (a.eval x) := fun hx => evalS_den hf.tmps hx
    unfold sNum at hn
    split at hn
    · rename_i S D x hop
      obtain rfl : op = .convert S D x := hop
      split at hn
      · rename_i i fs hx
        split at hn
        · rename_i dS hS hD; cases hn
          have hv := E hx
          simp only [den] at hv
          unfold numOf' at hv
          split at hv
          · rename_i v hg
            split at hv
            · rename_i hr
              simp only [Bool.false_eq_true, if_false, Option.some.injEq] at hv
              refine .same (v := .int .u64 (IntKind.u64.wrap v)) ?_ h (by simp only [den, numOf', hg, hr, if_true])
              simp [execOp, convert, run_underlying hS, run_underlying hD, ← hv, Conv.intToInt]
            · cases hv
          · cases hv
        · cases hn
      · cases hn
    · rename_i T x y B hop
      obtain rfl : op = .binOp .rem T x y B := hop
      split at hn
      · rename_i i fs m hx hy
        split at hn
        · rename_i r hl; cases hn
          have hv := E hx
          have hw := E hy
          simp only [den, Option.some.injEq] at hw
          simp only [den] at hv
          unfold numOf' at hv
          split at hv
          · rename_i v hg
            split at hv
            · rename_i hr
              simp only [if_true, Option.some.injEq] at hv
              have hmod := lookR_ok hl hr
              refine .same (v := .int .u64 (.ofNat r)) ?_ h rfl
              have h0 := wrap64_range v
              have ht : (IntKind.u64.wrap v).tmod ((m + 1 : Nat) : Int) = (r : Nat) := by rw [Int.tmod_eq_emod_of_nonneg h0]; exact hmod
              have hne : ¬ (((m + 1 : Nat) : Int) = 0) := by omega
              have hbin : ∀ w, (binOp .rem T (.int .u64 (IntKind.u64.wrap v)) (.int .u64 ((m + 1 : Nat) : Int))).run P w = .ok (.int .u64 (.ofNat r)) w := fun w => by
                simp only [binOp, Op.intDiv, if_neg hne, ht]
                simp
              have hg' : (eqGuard .rem T x y (.int .u64 (IntKind.u64.wrap v)) (.int .u64 ((m + 1 : Nat) : Int))).run P w = .ok () w := by simp [eqGuard]
              have hw' : a.eval y = .int .u64 ((m + 1 : Nat) : Int) := hw.symm
              simp only [execOp, ← hv, hw', Sem.run_bind, hg', Result.andThen_ok, hbin]
              rfl
            · cases hv
          · cases hv
        · cases hn
      · cases hn
    · cases hn
  · exact sOp_ok st o σ r env a w hs ho h hf
theorem sNum_cong {st st' : List SV} {op : Op} (E : ∀ x ∈ op.operands, evalS st x = evalS st' x) : sNum P st op = sNum P st' op := by
  unfold sNum
  split
  · rw [E _ (by simp [Op.operands])]
  · rw [E _ (by simp [Op.operands]), E _ (by simp [Op.operands])]
  · rfl
theorem sOpN_cong : OpCong (sOpN P) := by
  intro ops st st' o σ h
  have E : ∀ x ∈ o.op.operands, evalS st x = evalS st' x := fun x hx => evalS_cong fun t ht => h t (by
    subst ht
    exact List.mem_append_left _ (List.mem_filterMap.2 ⟨.tmp t, by simpa using hx, rfl⟩))
  unfold sOpN
  rw [sNum_cong E, sOp_cong ops st st' o σ h]
theorem sOpN_still : ∀ (st : List SV) (o : Oper) (σ : SH) (s : SV) (σ' : SH), stillOp P o.op = true → sOpN P st o σ = some (.val s σ') → σ' = σ := by
  intro st o σ s σ' hs h
  unfold sOpN at h
  split at h
  · cases h; rfl
  · exact sOp_still st o σ s σ' hs h
theorem sOpN_pure : ∀ (st : List SV) (o : Oper) (σ : SH) (s : SV) (σ' σ1 : SH), pureOp o.op = true → sOpN P st o σ = some (.val s σ') → ∃ σ2, sOpN P st o σ1 = some (.val s σ2) := by
  intro st o σ s σ' σ1 hs h
  unfold sOpN at h ⊢
  split at h
  · rename_i s' hn; cases h; exact ⟨σ1, rfl⟩
  · rename_i hn
    obtain ⟨σ2, h2⟩ := sOp_pure st o σ s σ' σ1 hs h
    exact ⟨σ2, h2⟩

/-- The executor. -/
noncomputable def exec (P : Program) (summ : CallF) (d : Nat) : CallF := xCall P (sOpN P) summ (fun call => regDraw P (stillOp P) pureOp (sOpN P) call) d
theorem exec_ok (hm : P.follows .mixedOrders = true) {summ : CallF} (hsumm : ∀ b, CallSound P b summ) (d : Nat) (b : Base) : CallSound P b (exec P summ d) :=
  xCall_ok (fun _ => sOpN_ok) hsumm (fun _ hc _ => regDraw_ok hm (fun _ => sOpN_ok) sOpN_cong sOpN_still sOpN_pure hc) d b
def noSumm : CallF := fun _ _ _ => none
theorem noSumm_ok : CallSound P w0 noSumm := fun f args σ outs env w vs h => by cases h

def sh0 : SH := ⟨0, .leaf⟩
def env0 (given : Nat → Value) : Env := ⟨fun _ => none, 0, given⟩
/-- All that lies in a world stays as it is. -/
def baseOf (w : World) : Base := ⟨w, fun b => b < w.heap.size⟩
theorem Keeps.below {w w' : World} (h : Keeps (baseOf w) w') : Below w.heap.size w w' := ⟨h.os, h.tape, h.output, h.size, fun k hk => (h.block k hk).2⟩
theorem rel0 (given : Nat → Value) (w : World) : Rel P (baseOf w) (env0 given) sh0 w := by
  refine ⟨⟨rfl, rfl, rfl, Nat.le_refl _, fun k hk => ⟨hk, rfl⟩⟩, rfl, fun _ _ => rfl, fun n o h => ?_, fun n m o o' x y _ h => ?_⟩ <;>
  · have := (SH.get_lt h).2
    simp only [sh0, Tr.get_leaf] at this
    cases this
/-- A closed call. -/
theorem exec_closed (hm : P.follows .mixedOrders = true) {summ : CallF} (hsumm : ∀ b, CallSound P b summ) {d : Nat} {f : FuncId} {args : List SV} {outs : Outs} (h : exec P summ d f args sh0 = some outs) {given : Nat → Value} (ho : (env0 given).ones) {vs : List Value} (ha : denL (env0 given) args = some vs) (w : World) :
    Calls P f vs.toArray w fun e w' => ∃ o ∈ outs, ∃ env' v, e = .returned v ∧ Below w.heap.size w w' ∧ den env' o.1 = some v :=
  (exec_ok hm hsumm d (baseOf w) f args sh0 outs (env0 given) w vs h ho (rel0 given w) ha).mono fun e w' ⟨o, hmem, env', v, he, _, hr, hd⟩ => ⟨o, hmem, env', v, he, hr.below.below, hd⟩
end Go.Proofs.YtnlijlabkoefbaaGreatDoor
