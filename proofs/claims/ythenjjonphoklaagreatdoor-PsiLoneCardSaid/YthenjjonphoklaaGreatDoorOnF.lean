/-
  Summaries of single functions, one ahead of the other; closed runs of which every end has one value.
-/
import Derived.Test.YthenjjonphoklaaGreatDoorExec
set_option linter.unusedVariables false
set_option linter.unusedSimpArgs false
namespace Go.Proofs.YthenjjonphoklaaGreatDoor
open Go Go.RowKit

/-- A summary of one function, ahead of others. -/
noncomputable def onF (k : Nat) (o : List SV → SH → Option Outs) (rest : CallF) : CallF := fun f args σ => @Bool.rec (fun _ => Option Outs) (rest f args σ) (o args σ) (Nat.beq f k)
theorem onF_ok {P : Program} {b : Base} {k : Nat} {o : List SV → SH → Option Outs} {rest : CallF} (ho : ∀ args σ outs env w vs, o args σ = some outs → env.ones → Rel P b env σ w → denL env args = some vs → Calls P k vs.toArray w (Comes1 P b env outs)) (hr : CallSound P b rest) : CallSound P b (onF k o rest) := by
  intro f args σ outs env w vs h hones hrel ha
  unfold onF at h
  cases hf : Nat.beq f k with
  | true =>
    rw [hf] at h
    obtain rfl := Nat.eq_of_beq_eq_true hf
    exact ho args σ outs env w vs h hones hrel ha
  | false =>
    rw [hf] at h
    exact hr f args σ outs env w vs h hones hrel ha
/-- One summary, and where it has nothing to say another one. -/
noncomputable def orO (o1 o2 : List SV → SH → Option Outs) (args : List SV) (σ : SH) : Option Outs := @Option.rec Outs (fun _ => Option Outs) (o2 args σ) (fun x => some x) (o1 args σ)
theorem orO_or {o1 o2 : List SV → SH → Option Outs} {args : List SV} {σ : SH} {x : Outs} (h : orO o1 o2 args σ = some x) : o1 args σ = some x ∨ o2 args σ = some x := by
  unfold orO at h
  cases h1 : o1 args σ with
  | none => rw [h1] at h; exact .inr h
  | some y => rw [h1] at h; exact .inl h
/-- All ends, each of this value. -/
noncomputable def allV (v : SV) (r : Option Outs) : Bool := match r with
  | some l => @List.rec (SV × SH) (fun _ => Bool) true (fun x _ ih => @Bool.rec (fun _ => Bool) false ih (eqS x.1 v)) l
  | none => false
theorem allV_ok {v : SV} {r : Option Outs} (h : allV v r = true) : ∃ l, r = some l ∧ ∀ o ∈ l, o.1 = v := by
  unfold allV at h
  split at h
  · rename_i l
    refine ⟨l, rfl, ?_⟩
    induction l with
    | nil => intro o ho; cases ho
    | cons x t ih =>
      have h : @Bool.rec (fun _ => Bool) false (@List.rec (SV × SH) (fun _ => Bool) true (fun x _ ih => @Bool.rec (fun _ => Bool) false ih (eqS x.1 v)) t) (eqS x.1 v) = true := h
      cases hx : eqS x.1 v with
      | false => rw [hx] at h; cases h
      | true =>
        rw [hx] at h
        intro o ho
        rcases List.mem_cons.1 ho with rfl | ho
        · exact eqS_ok _ _ hx
        · exact ih h o ho
  · cases h
theorem exec_all {P : Program} (hm : P.follows .mixedOrders = true) {summ : CallF} (hsumm : ∀ b, CallSound P b summ) {d : Nat} {f : FuncId} {args : List SV} {v : SV} (h : allV v (exec P summ d f args sh0) = true) {given : Nat → Value} (ho : (env0 given).ones) {vs : List Value} (ha : denL (env0 given) args = some vs)
    {u : Value} (hu : ∀ env, den env v = some u) (w : World) (hml : MaxLenIs P w) : Calls P f vs.toArray w fun e w' => e = .returned u ∧ Below w.heap.size w w' := by
  obtain ⟨l, hl, hall⟩ := allV_ok h
  refine (exec_closed hm hsumm hl ho ha w hml).mono ?_
  rintro e w' ⟨o, hmem, env', x, rfl, hb, hd⟩
  rw [hall o hmem, hu] at hd; cases hd
  exact ⟨rfl, hb⟩
/-- A call without arguments that answers true, as a summary. -/
noncomputable def trueOut (args : List SV) (σ : SH) : Option Outs := match args with
  | [] => some [(.bool true, σ)]
  | _ => none
theorem trueOut_ok {P : Program} {k : FuncId} (hc : ∀ w, MaxLenIs P w → Calls P k #[] w fun e w' => e = .returned (.bool true) ∧ Below w.heap.size w w') (b : Base) {args : List SV} {σ : SH} {outs : Outs} {env : Env} {w : World} {vs : List Value} (h : trueOut args σ = some outs) (hr : Rel P b env σ w) (ha : denL env args = some vs) :
    Calls P k vs.toArray w (Comes1 P b env outs) := by
  unfold trueOut at h
  split at h
  · cases h
    simp only [denL] at ha; cases ha
    refine (hc w hr.maxLen).mono ?_
    rintro e w' ⟨rfl, hb⟩
    exact ⟨_, List.mem_singleton.2 rfl, env, _, rfl, Env.le_refl _, hr.world hb, rfl⟩
  · cases h
end Go.Proofs.YthenjjonphoklaaGreatDoor
