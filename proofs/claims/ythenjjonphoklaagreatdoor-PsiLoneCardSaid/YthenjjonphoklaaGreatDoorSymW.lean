/-
  THE EXECUTOR, part W: min, max, empty literals, methods called through interfaces.
-/
import Derived.Test.YthenjjonphoklaaGreatDoorSymV
set_option linter.unusedVariables false
set_option linter.unusedSimpArgs false
namespace Go.Proofs.YthenjjonphoklaaGreatDoor
open Go Go.RowKit

variable {P : Program} {w0 : Base} {env : Env} {σ : SH} {w : World}

noncomputable def sMinMax (isMax : Bool) (x y : SV) : Option SV := match x, y with
  | .int k a, .int _ b => some (.int k (match isMax, decide (b < a) with
    | false, true => b
    | false, false => a
    | true, true => a
    | true, false => if a < b then b else a))
  | _, _ => none
theorem sMin_ok {tys : Array TypeId} {ty : TypeId} {x y s : SV} {u v : Value} (h : sMinMax false x y = some s) (h1 : den env x = some u) (h2 : den env y = some v) :
    ∃ r, den env s = some r ∧ ∀ w, (Builtin.min_ tys ty #[u, v]).run P w = .ok r w := by
  unfold sMinMax at h
  split at h
  · rename_i k a k' b
    simp only [den, Option.some.injEq] at h1 h2; subst h1; subst h2
    cases h
    refine ⟨_, rfl, fun w => ?_⟩
    by_cases hb : b < a <;> simp [Builtin.min_, Builtin.min2, hb]
  · cases h
theorem sMax_ok {tys : Array TypeId} {ty : TypeId} {x y s : SV} {u v : Value} (h : sMinMax true x y = some s) (h1 : den env x = some u) (h2 : den env y = some v) :
    ∃ r, den env s = some r ∧ ∀ w, (Builtin.max_ tys ty #[u, v]).run P w = .ok r w := by
  unfold sMinMax at h
  split at h
  · rename_i k a k' b
    simp only [den, Option.some.injEq] at h1 h2; subst h1; subst h2
    cases h
    refine ⟨_, rfl, fun w => ?_⟩
    by_cases hb : b < a
    · have : ¬ a < b := by omega
      simp [Builtin.max_, Builtin.max2, hb, this]
    · by_cases hc : a < b <;> simp [Builtin.max_, Builtin.max2, hb, hc]
  · cases h

/-- An empty literal. -/
noncomputable def sBuildNone (P : Program) (σ : SH) (T : TypeId) : Option SR := match P.underlying T with
  | some (.slice e) => match ssize P e with
    | some _ => some (.val (.slice σ.next 0 0 (.lit 0)) (σ.push (.cells [] e true)))
    | none => none
  | _ => none
theorem sBuildNone_ok (ho : env.ones) (h : Rel P w0 env σ w) {T : TypeId} {r : SR} (hs : sBuildNone P σ T = some r) {ρ : Operand → Value} (d : Option Tmp) (ty : TypeId) (pos : String) (af : Array Edge) (g : Option (Nat × Bool)) :
    Outcome P w0 env ((execOp ρ ⟨d, .buildSlice T 0 #[], ty, pos, af, g⟩).run P w) r := by
  unfold sBuildNone at hs
  split at hs
  · rename_i e hu
    split at hs
    · rename_i z hz; cases hs
      obtain ⟨r1, r2⟩ := h.alloc ho e 0 (l := []) (vs := []) rfl
      refine ⟨_, .slice (some ⟨w.heap.size, 0, none⟩) 0 0, _, .inl ?_, h.le_push w.heap.size 0, r1, by simp only [den, r2, capOf]⟩
      simp [execOp, Instr.buildSlice, underlying, hu, ssize_ok hz, Instr.fill, newRow]
      have he : Array.map (fun _ => (default : Value)) (Array.range 0) = #[] := by apply Array.eq_empty_of_size_eq_zero; simp
      exact congrArg (fun c => w.alloc (.cells c e)) he
    · cases hs
  · cases hs

/-- A method that stands in the type's own row, by a receiver of that very kind. -/
noncomputable def sMeth (P : Program) (t : TypeId) (name : String) : Option FuncId := match P.info? t with
  | some i => match i.methods.find? (·.name == name) with
    | some m => if m.path.isEmpty then (match m.func, P.underlying t with
      | some (f, true), some (.pointer _) => some f
      | some (f, false), some (.pointer _) => none
      | some (f, false), some _ => some f
      | _, _ => none) else none
    | none => none
  | none => none
theorem sMeth_ok {t : TypeId} {name : String} {f : FuncId} (h : sMeth P t name = some f) (n : Nat) (v : Value) (w : World) : (method (n + 1) t v name).run P w = .ok (f, v) w := by
  unfold sMeth at h
  split at h
  · rename_i i hi
    split at h
    · rename_i m hm
      split at h
      · rename_i hp
        have hp' : m.path.toList = [] := by
          have := Array.isEmpty_iff.1 hp
          rw [this]
        have hti : (typeInfo t).run P w = .ok i w := by simp [typeInfo, hi]
        split at h
        · rename_i g e hf hu; cases h
          simp [method, hti, hm, hp', follow, hf, receiverAt, run_underlying hu, Place.get]
        · cases h
        · rename_i g D hD hf hu; cases h
          have : ∀ wr, (receiverAt t (.val v) false wr).run P w = .ok v w := fun wr => by
            unfold receiverAt
            simp only [Sem.run_bind, run_underlying hu, Result.andThen_ok]
            cases D <;> first | (exact absurd rfl (hD _)) | simp [Place.get]
          simp [method, hti, hm, hp', follow, hf, this]
        · cases h
      · cases h
    · cases h
  · cases h
end Go.Proofs.YthenjjonphoklaaGreatDoor
