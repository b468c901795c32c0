/-
  Law 13: what a program that does nothing does not answer.
-/
import Derived.Test.YtnlijlabkoefbaaGreatDoorFlatSumm
set_option linter.unusedVariables false
set_option linter.unusedSimpArgs false
namespace Go.Proofs.YtnlijlabkoefbaaGreatDoor
open Go Go.RowKit

/-- All ends, each of this value. -/
noncomputable def allV (v : SV) (r : Option Outs) : Bool := match r with
  | some l => @List.rec (SV × SH) (fun _ => Bool) true (fun x _ ih => @Bool.rec (fun _ => Bool) false ih (eqS x.1 v)) l
  | none => false
theorem allV_ok {v : SV} {r : Option Outs} (h : allV v r = true) : ∃ l, r = some l ∧ ∀ o ∈ l, o.1 = v := by
  unfold allV at h
  split at h
  · rename_i l
    refine ⟨l, rfl, ?_⟩
    induction l with
    | nil => intro o ho; cases ho
    | cons x t ih =>
      have h : @Bool.rec (fun _ => Bool) false (@List.rec (SV × SH) (fun _ => Bool) true (fun x _ ih => @Bool.rec (fun _ => Bool) false ih (eqS x.1 v)) t) (eqS x.1 v) = true := h
      cases hx : eqS x.1 v with
      | false => rw [hx] at h; cases h
      | true =>
        rw [hx] at h
        intro o ho
        rcases List.mem_cons.1 ho with rfl | ho
        · exact eqS_ok _ _ hx
        · exact ih h o ho
  · cases h
theorem exec_all {P : Program} (hm : P.follows .mixedOrders = true) {summ : CallF} (hsumm : ∀ b, CallSound P b summ) {d : Nat} {f : FuncId} {args : List SV} {v : SV} (h : allV v (exec P summ d f args sh0) = true) {given : Nat → Value} (ho : (env0 given).ones) {vs : List Value} (ha : denL (env0 given) args = some vs)
    {u : Value} (hu : ∀ env, den env v = some u) (w : World) : Calls P f vs.toArray w fun e w' => e = .returned u ∧ Below w.heap.size w w' := by
  obtain ⟨l, hl, hall⟩ := allV_ok h
  refine (exec_closed hm hsumm hl ho ha w).mono ?_
  rintro e w' ⟨o, hmem, env', x, rfl, hb, hd⟩
  rw [hall o hmem, hu] at hd; cases hd
  exact ⟨rfl, hb⟩

theorem awakeF_run : allV (.bool true) (exec Tryz.prog summF 60 17 [] sh0) = true := by kernel_rfl
theorem awakeF_any (w : World) : Calls Tryz.prog 17 #[] w fun e w' => e = .returned (.bool true) ∧ Below w.heap.size w w' :=
  exec_all followsM summF_ok (d := 60) (f := 17) (args := []) (v := .bool true) awakeF_run (given := fun _ => .bool true) (fun _ => rfl) rfl (fun _ => rfl) w

noncomputable def awakeOutF (args : List SV) (σ : SH) : Option Outs := match args with
  | [] => some [(.bool true, σ)]
  | _ => none
noncomputable def summG : CallF := onF 17 awakeOutF summF
theorem summG_ok (b : Base) : CallSound Tryz.prog b summG := by
  refine onF_ok (fun args σ outs env w vs h ho hr ha => ?_) (summF_ok b)
  unfold awakeOutF at h
  split at h
  · cases h
    simp only [denL] at ha; cases ha
    refine (awakeF_any w).mono ?_
    rintro e w' ⟨rfl, hb⟩
    exact ⟨_, List.mem_singleton.2 rfl, env, _, rfl, Env.le_refl _, hr.world hb, rfl⟩
  · cases h
end Go.Proofs.YtnlijlabkoefbaaGreatDoor
