/-
  ObjectsNil: the walk.
-/
import Derived.Test.YtnlijlabkoefbaaGreatDoorMixedA
set_option linter.unusedVariables false
set_option linter.unusedSimpArgs false
namespace Go.Proofs.YtnlijlabkoefbaaGreatDoor
open Go Go.RowKit

noncomputable def summA : CallF := fun f args σ => @Bool.rec (fun _ => Option Outs) (@Bool.rec (fun _ => Option Outs) none (frameOut stateA 0 64 (.rest 0) blkA 5 false stateB args σ) (Nat.beq f 75)) (collectOut args σ) (Nat.beq f 59)
theorem summA_ok (b : Base) : CallSound Tryz.prog b summA := by
  intro f args σ outs env w vs h ho hr ha
  unfold summA at h
  cases hf : Nat.beq f 59 with
  | true =>
    rw [hf] at h
    obtain rfl := Nat.eq_of_beq_eq_true hf
    exact collectOut_ok b (show collectOut args σ = some outs from h) ho hr ha
  | false =>
    rw [hf] at h
    cases hg : Nat.beq f 75 with
    | true =>
      rw [hg] at h
      obtain rfl := Nat.eq_of_beq_eq_true hg
      exact frameOut_ok follows (fun _ => noSumm_ok) mixedA (by kernel_rfl) (by kernel_rfl) (by kernel_rfl) (show frameOut stateA 0 64 (.rest 0) blkA 5 false stateB args σ = some outs from h) ho hr ha
    | false => rw [hg] at h; exact absurd (show (none : Option Outs) = some outs from h) (by simp)

theorem awake_any (w : World) : Calls Tryz.prog 11 #[] w fun e w' => e = .returned (.bool true) ∧ Below w.heap.size w w' :=
  exec_val follows summA_ok (d := 30) (f := 11) (args := []) (v := .bool true) (by kernel_rfl) (given := fun _ => .bool true) (fun _ => rfl) rfl (fun _ => rfl) w

noncomputable def awakeOut (args : List SV) (σ : SH) : Option Outs := match args with
  | [] => some [(.bool true, σ)]
  | _ => none
noncomputable def summB : CallF := fun f args σ => @Bool.rec (fun _ => Option Outs) (summA f args σ) (awakeOut args σ) (Nat.beq f 11)
theorem summB_ok (b : Base) : CallSound Tryz.prog b summB := by
  intro f args σ outs env w vs h ho hr ha
  unfold summB at h
  cases hf : Nat.beq f 11 with
  | true =>
    rw [hf] at h
    obtain rfl := Nat.eq_of_beq_eq_true hf
    replace h : awakeOut args σ = some outs := h
    unfold awakeOut at h
    split at h
    · cases h
      simp only [denL] at ha; cases ha
      refine (awake_any w).mono ?_
      rintro e w' ⟨rfl, hb⟩
      exact ⟨_, List.mem_singleton.2 rfl, env, _, rfl, Env.le_refl _, hr.world hb, rfl⟩
    · cases h
  | false =>
    rw [hf] at h
    exact summA_ok b f args σ outs env w vs h ho hr ha

/-- The law, for every object and every id. -/
theorem objectsNil_any (k body : Value) (id : List Value) (hk : k.oneCell' = true) (hb : body.oneCell' = true) (hid : id.length = 20) (hi : ∀ v ∈ id, v.oneCell' = true) (w : World) :
    Calls Tryz.prog 3 #[.agg #[k, body], .agg id.toArray] w fun e w' => e = .returned (.bool true) ∧ Below w.heap.size w w' := by
  match id, hid with
  | [k0, k1, k2, k3, k4, k5, k6, k7, k8, k9, k10, k11, k12, k13, k14, k15, k16, k17, k18, k19], _ =>
    refine exec_val follows summB_ok (d := 30) (f := 3) (args := [.agg [.opq 0, .opq 1], .agg [.opq 2, .opq 3, .opq 4, .opq 5, .opq 6, .opq 7, .opq 8, .opq 9, .opq 10, .opq 11, .opq 12, .opq 13, .opq 14, .opq 15, .opq 16, .opq 17, .opq 18, .opq 19, .opq 20, .opq 21]]) (v := .bool true) (by kernel_rfl)
      (given := fun i => ([k, body, k0, k1, k2, k3, k4, k5, k6, k7, k8, k9, k10, k11, k12, k13, k14, k15, k16, k17, k18, k19][i]?).getD (.bool true)) (fun i => ?_) (vs := [.agg #[k, body], .agg #[k0, k1, k2, k3, k4, k5, k6, k7, k8, k9, k10, k11, k12, k13, k14, k15, k16, k17, k18, k19]]) rfl (fun _ => rfl) w
    show (([k, body, k0, k1, k2, k3, k4, k5, k6, k7, k8, k9, k10, k11, k12, k13, k14, k15, k16, k17, k18, k19][i]?).getD (.bool true)).oneCell' = true
    cases hg : [k, body, k0, k1, k2, k3, k4, k5, k6, k7, k8, k9, k10, k11, k12, k13, k14, k15, k16, k17, k18, k19][i]? with
    | none => rfl
    | some v =>
      have hm : v ∈ [k, body, k0, k1, k2, k3, k4, k5, k6, k7, k8, k9, k10, k11, k12, k13, k14, k15, k16, k17, k18, k19] := List.mem_of_getElem? hg
      simp only [Option.getD_some]
      rcases List.mem_cons.1 hm with rfl | hm
      · exact hk
      · rcases List.mem_cons.1 hm with rfl | hm
        · exact hb
        · exact hi v hm
end Go.Proofs.YtnlijlabkoefbaaGreatDoor
