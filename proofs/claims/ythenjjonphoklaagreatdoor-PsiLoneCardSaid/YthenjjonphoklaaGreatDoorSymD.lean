/-
  THE EXECUTOR, part D: single operations.
-/
import Derived.Test.YthenjjonphoklaaGreatDoorSymC
set_option linter.unusedVariables false
set_option linter.unusedSimpArgs false
namespace Go.Proofs.YthenjjonphoklaaGreatDoor
open Go Go.RowKit

variable {P : Program} {w0 : Base} {env : Env} {σ : SH} {w : World}

/-- An operation's outcome. -/
inductive SR where
  | val (s : SV) (σ : SH)
  | enter (f : FuncId) (args : List SV) (σ : SH)

def Outcome (P : Program) (w0 : Base) (env : Env) (r : Result Next) : SR → Prop
  | .val s σ' => ∃ env' v w', (r = .ok (.value v) w' ∨ (r = .ok .skip w' ∧ v = undef)) ∧ env.le env' ∧ Rel P w0 env' σ' w' ∧ den env' s = some v
  | .enter f args σ' => ∃ vs w', r = .ok (.enter f vs.toArray) w' ∧ Rel P w0 env σ' w' ∧ denL env args = some vs

theorem Env.ones.le {e e' : Env} (h : e.ones) (k : e.le e') : e'.ones := fun i => by rw [k.given]; exact h i

theorem Outcome.same {r : Result Next} {s : SV} {v : Value} (hr : r = .ok (.value v) w) (h : Rel P w0 env σ w) (hd : den env s = some v) : Outcome P w0 env r (.val s σ) :=
  ⟨env, v, w, .inl hr, Env.le_refl _, h, hd⟩

/-- A frame's slots. -/
noncomputable def evalS (st : Row) : Operand → Option SV
  | .tmp t => some (st.at t)
  | .const v => ofV v
  | .global g => some (.gptr g 0)
  | .func f => some (.fn (.func f) [] [])
theorem evalS_den {st : Row} {a : Act} (hf : ∀ t, den env (st.at t) = some (a.tmps.getD t Go.undef)) {x : Operand} {s : SV} (h : evalS st x = some s) : den env s = some (a.eval x) := by
  cases x with
  | tmp t => simp only [evalS, Option.some.injEq] at h; subst h; exact hf t
  | const v => exact ofV_den h
  | global g => cases h; simp only [den, Act.eval]
  | func f => cases h; simp only [den, denL, Act.eval]

noncomputable def evalL (st : Row) : List Operand → Option (List SV)
  | [] => some []
  | x :: r => match evalS st x, evalL st r with
    | some a, some b => some (a :: b)
    | _, _ => none
theorem evalL_den {st : Row} {a : Act} (hf : ∀ t, den env (st.at t) = some (a.tmps.getD t Go.undef)) : ∀ {xs : List Operand} {l : List SV}, evalL st xs = some l → denL env l = some (xs.map a.eval) := by
  intro xs
  induction xs with
  | nil => intro l h; simp only [evalL] at h; cases h; rfl
  | cons x r ih =>
    intro l h
    simp only [evalL] at h
    cases h1 : evalS st x with
    | none => rw [h1] at h; cases h
    | some s =>
      cases h2 : evalL st r with
      | none => rw [h1, h2] at h; cases h
      | some m => rw [h1, h2] at h; cases h; exact denL_mk (evalS_den hf h1) (ih h2)

theorem den_ptr {n off : Nat} {v : Value} (h : den env (.ptr n off) = some v) : ∃ b c, env.blocks n = some (b, c) ∧ v = .pointer (some ⟨b, off, none⟩) := by
  simp only [den] at h
  cases hb : env.blocks n with
  | none => rw [hb] at h; cases h
  | some x => rw [hb] at h; cases h; exact ⟨x.1, x.2, rfl, rfl⟩
theorem den_slice {n off len : Nat} {c : SCap} {v : Value} (h : den env (.slice n off len c) = some v) : ∃ b k, env.blocks n = some (b, k) ∧ v = .slice (some ⟨b, off, none⟩) len (capOf k c) := by
  simp only [den] at h
  cases hb : env.blocks n with
  | none => rw [hb] at h; cases h
  | some x => rw [hb] at h; cases h; exact ⟨x.1, x.2, rfl, rfl⟩
theorem den_zslice {n off a z d : Nat} {v : Value} (h : den env (.zslice n off a z d) = some v) : ∃ ad cp, v = .slice (some ad) 0 cp := by
  simp only [den] at h
  cases hb : env.blocks n with
  | none => rw [hb] at h; cases h
  | some x => rw [hb] at h; cases h; exact ⟨_, _, rfl⟩
theorem den_map {n : Nat} {v : Value} (h : den env (.map n) = some v) : ∃ b k, env.blocks n = some (b, k) ∧ v = .map (some b) := by
  simp only [den] at h
  cases hb : env.blocks n with
  | none => rw [hb] at h; cases h
  | some x => rw [hb] at h; cases h; exact ⟨x.1, x.2, rfl, rfl⟩
theorem den_agg {l : List SV} {v : Value} (h : den env (.agg l) = some v) : ∃ vs, denL env l = some vs ∧ v = .agg vs.toArray := by
  simp only [den] at h
  cases hb : denL env l with
  | none => rw [hb] at h; cases h
  | some x => rw [hb] at h; cases h; exact ⟨x, rfl, rfl⟩
theorem den_tuple {l : List SV} {v : Value} (h : den env (.tuple l) = some v) : ∃ vs, denL env l = some vs ∧ v = .tuple vs.toArray := by
  simp only [den] at h
  cases hb : denL env l with
  | none => rw [hb] at h; cases h
  | some x => rw [hb] at h; cases h; exact ⟨x, rfl, rfl⟩
theorem den_iface {t : TypeId} {s : SV} {v : Value} (h : den env (.iface t s) = some v) : ∃ x, den env s = some x ∧ v = .iface t x := by
  simp only [den] at h
  cases hb : den env s with
  | none => rw [hb] at h; cases h
  | some x => rw [hb] at h; cases h; exact ⟨x, rfl, rfl⟩
theorem den_fn {f : Fn} {l m : List SV} {v : Value} (h : den env (.fn f l m) = some v) : ∃ x y, denL env l = some x ∧ denL env m = some y ∧ v = .func f x.toArray y.toArray := by
  simp only [den] at h
  cases hb : denL env l with
  | none => rw [hb] at h; cases h
  | some x =>
    cases hc : denL env m with
    | none => rw [hb, hc] at h; cases h
    | some y => rw [hb, hc] at h; cases h; exact ⟨x, y, rfl, rfl, rfl⟩

/-- A new block of known cells. -/
theorem Rel.alloc (ho : env.ones) (h : Rel P w0 env σ w) {l : List SV} {vs : List Value} (e : TypeId) (c : Nat) (hl : denL env l = some vs) :
    Rel P w0 (env.push σ.next w.heap.size c) (σ.push (.cells l e true)) (w.alloc (.cells vs.toArray e)) ∧ (env.push σ.next w.heap.size c).blocks σ.next = some (w.heap.size, c) := by
  refine ⟨h.push ⟨vs.toArray, e, (0, 0), vs, heap_alloc_new w _, thawed_zero _, denL_mono (h.le_push _ _) _ _ hl, ?_, fun _ => ⟨by simpa using denL_length hl, rfl⟩, fun hx => by cases hx⟩, ?_⟩
  · rw [← denL_length hl]; simp
  · exact Env.new _ _ _ _

/-- The zero of a type. -/
def szero (P : Program) (T : TypeId) : Option SV := match P.info? T with
  | some i => match i.zero with
    | some z => ofV z
    | none => none
  | none => none
theorem szero_ok {T : TypeId} {s : SV} (h : szero P T = some s) : ∃ v, den env s = some v ∧ ∀ w, (zeroValue T).run P w = .ok v w := by
  unfold szero at h
  split at h
  · rename_i i hi
    split at h
    · rename_i z hz
      exact ⟨z, ofV_den h, fun w => by simp [zeroValue, typeInfo, hi, hz]⟩
    · cases h
  · cases h

noncomputable def sAlloc (P : Program) (σ : SH) (T : TypeId) : Option SR := match szero P T with
  | some s => some (.val (.ptr σ.next 0) (σ.push (.cells (cellsS s) T true)))
  | none => none
theorem sAlloc_ok (ho : env.ones) (h : Rel P w0 env σ w) {T : TypeId} {r : SR} (hs : sAlloc P σ T = some r) (ρ : Operand → Value) (d : Option Tmp) (ty : TypeId) (pos : String) (af : Array Edge) (g : Option (Nat × Bool)) :
    Outcome P w0 env ((execOp ρ ⟨d, .alloc T, ty, pos, af, g⟩).run P w) r := by
  unfold sAlloc at hs
  split at hs
  · rename_i s hz; cases hs
    obtain ⟨v, hd, hrun⟩ := szero_ok (env := env) hz
    obtain ⟨h1, h2⟩ := h.alloc ho T 0 (cellsS_den ho hd)
    refine ⟨_, .pointer (some ⟨w.heap.size, 0, none⟩), _, .inl ?_, h.le_push w.heap.size 0, h1, by simp only [den, h2]⟩
    simp [execOp, Instr.alloc, hrun, newVar, newRow]
  · cases hs

noncomputable def sBox (σ : SH) (T : TypeId) (s : SV) : SR := .val (.ptr σ.next 0) (σ.push (.cells (cellsS s) T true))
theorem sBox_ok (ho : env.ones) (h : Rel P w0 env σ w) {T : TypeId} {s : SV} {x : Operand} {ρ : Operand → Value} (hd : den env s = some (ρ x)) (d : Option Tmp) (ty : TypeId) (pos : String) (af : Array Edge) (g : Option (Nat × Bool)) :
    Outcome P w0 env ((execOp ρ ⟨d, .box T x, ty, pos, af, g⟩).run P w) (sBox σ T s) := by
  obtain ⟨h1, h2⟩ := h.alloc ho T 0 (cellsS_den ho hd)
  refine ⟨_, .pointer (some ⟨w.heap.size, 0, none⟩), _, .inl ?_, h.le_push w.heap.size 0, h1, by simp only [den, h2]⟩
  simp [execOp, Instr.box, newVar, newRow]

noncomputable def sLoad (P : Program) (σ : SH) (T : TypeId) : SV → Option SR
  | .ptr n off => match sload P σ T n off with
    | some s => some (.val s σ)
    | none => none
  | _ => none
theorem sLoad_ok (h : Rel P w0 env σ w) {T : TypeId} {s : SV} {r : SR} (hs : sLoad P σ T s = some r) {x : Operand} {ρ : Operand → Value} (hd : den env s = some (ρ x)) (d : Option Tmp) (ty : TypeId) (pos : String) (af : Array Edge) (g : Option (Nat × Bool)) :
    Outcome P w0 env ((execOp ρ ⟨d, .load T x, ty, pos, af, g⟩).run P w) r := by
  unfold sLoad at hs
  split at hs
  · rename_i n off
    split at hs
    · rename_i s' hl; cases hs
      obtain ⟨b, c, he, hv⟩ := den_ptr hd
      obtain ⟨v, h1, h2⟩ := sload_ok h hl he
      refine .same ?_ h h1
      simp [execOp, Instr.loadAt, hv, Instr.sureAddr, h2]
    · cases hs
  · cases hs

noncomputable def sStore (P : Program) (σ : SH) (T : TypeId) (a s : SV) : Option SR := match a with
  | .ptr n off => match sstore P σ T n off s with
    | some σ' => some (.val .undef σ')
    | none => none
  | _ => none
theorem sStore_ok (ho : env.ones) (h : Rel P w0 env σ w) {T : TypeId} {a s : SV} {r : SR} (hs : sStore P σ T a s = some r) {x y : Operand} {ρ : Operand → Value} (hd : den env a = some (ρ x)) (hd2 : den env s = some (ρ y)) (d : Option Tmp) (ty : TypeId) (pos : String) (af : Array Edge) (g : Option (Nat × Bool)) :
    Outcome P w0 env ((execOp ρ ⟨d, .store T x y, ty, pos, af, g⟩).run P w) r := by
  unfold sStore at hs
  split at hs
  · rename_i n off
    split at hs
    · rename_i σ' hl; cases hs
      obtain ⟨b, c, he, hv⟩ := den_ptr hd
      obtain ⟨w', h1, h2⟩ := sstore_ok ho h hl he hd2
      refine ⟨env, undef, w', .inr ⟨?_, rfl⟩, Env.le_refl _, h2, by simp only [den]⟩
      simp [execOp, Instr.storeAt, hv, Instr.sureAddr, h1]
    · cases hs
  · cases hs

noncomputable def sPick (c a b : SV) (σ : SH) : Option SR := match c with
  | .bool t => some (.val (if t then a else b) σ)
  | _ => none
theorem sPick_ok (h : Rel P w0 env σ w) {c a b : SV} {r : SR} (hs : sPick c a b σ = some r) {x y z : Operand} {ρ : Operand → Value} (h1 : den env c = some (ρ x)) (h2 : den env a = some (ρ y)) (h3 : den env b = some (ρ z)) (d : Option Tmp) (ty : TypeId) (pos : String) (af : Array Edge) (g : Option (Nat × Bool)) :
    Outcome P w0 env ((execOp ρ ⟨d, .pick x y z, ty, pos, af, g⟩).run P w) r := by
  unfold sPick at hs
  split at hs
  · rename_i t; cases hs
    simp only [den, Option.some.injEq] at h1
    refine .same (v := if t then ρ y else ρ z) ?_ h (by cases t <;> simp [h2, h3])
    simp [execOp, ← h1, asBool]
  · cases hs

noncomputable def sNilCheck (σ : SH) : SV → Option SR
  | .ptr n off => some (.val (.ptr n off) σ)
  | .fn (.func f) a b => some (.val (.fn (.func f) a b) σ)
  | .iface t v => some (.val (.iface t v) σ)
  | _ => none
theorem sNilCheck_ok (h : Rel P w0 env σ w) {s : SV} {r : SR} (hs : sNilCheck σ s = some r) {x : Operand} {ρ : Operand → Value} (hd : den env s = some (ρ x)) (d : Option Tmp) (ty : TypeId) (pos : String) (af : Array Edge) (g : Option (Nat × Bool)) :
    Outcome P w0 env ((execOp ρ ⟨d, .nilCheck x, ty, pos, af, g⟩).run P w) r := by
  unfold sNilCheck at hs
  split at hs
  · rename_i n off; cases hs
    obtain ⟨b, c, he, hv⟩ := den_ptr hd
    exact .same (by simp [execOp, hv]) h (hv ▸ hd)
  · rename_i f a b; cases hs
    obtain ⟨p, q, _, _, hv⟩ := den_fn hd
    exact .same (by simp [execOp, hv]) h (hv ▸ hd)
  · rename_i t v; cases hs
    obtain ⟨p, _, hv⟩ := den_iface hd
    exact .same (by simp [execOp, hv]) h (hv ▸ hd)
  · cases hs

noncomputable def sExtract (σ : SH) (i : Nat) : SV → Option SR
  | .tuple l => match l[i]? with
    | some s => some (.val s σ)
    | none => none
  | _ => none
theorem sExtract_ok (h : Rel P w0 env σ w) {i : Nat} {s : SV} {r : SR} (hs : sExtract σ i s = some r) {x : Operand} {ρ : Operand → Value} (hd : den env s = some (ρ x)) (d : Option Tmp) (ty : TypeId) (pos : String) (af : Array Edge) (g : Option (Nat × Bool)) :
    Outcome P w0 env ((execOp ρ ⟨d, .extract x i, ty, pos, af, g⟩).run P w) r := by
  unfold sExtract at hs
  split at hs
  · rename_i l
    split at hs
    · rename_i s' hl; cases hs
      obtain ⟨vs, h1, hv⟩ := den_tuple hd
      obtain ⟨v, h2, h3⟩ := denL_get h1 hl
      exact .same (v := v) (by simp [execOp, Instr.extract, hv, h2]) h h3
    · cases hs
  · cases hs

noncomputable def sMakeIface (P : Program) (σ : SH) (T : TypeId) (s : SV) : Option SR := match P.underlying T with
  | some (.interface _) => none
  | some _ => some (.val (.iface T s) σ)
  | none => none
theorem sMakeIface_ok (h : Rel P w0 env σ w) {T : TypeId} {s : SV} {r : SR} (hs : sMakeIface P σ T s = some r) {x : Operand} {ρ : Operand → Value} (hd : den env s = some (ρ x)) (d : Option Tmp) (ty : TypeId) (pos : String) (af : Array Edge) (g : Option (Nat × Bool)) :
    Outcome P w0 env ((execOp ρ ⟨d, .makeInterface T x, ty, pos, af, g⟩).run P w) r := by
  unfold sMakeIface at hs
  split at hs
  · cases hs
  · rename_i D hD hu; cases hs
    refine .same (v := .iface T (ρ x)) ?_ h (by simp only [den, hd])
    cases D <;> first | (exact absurd rfl (hD _)) | simp [execOp, Instr.makeInterface, underlying, hu]
  · cases hs

theorem sMakeFunc_ok (h : Rel P w0 env σ w) {f : Fn} {l m : List SV} {xs ys : Array Operand} {ρ : Operand → Value} (h1 : denL env l = some (xs.toList.map ρ)) (h2 : denL env m = some (ys.toList.map ρ)) (d : Option Tmp) (ty : TypeId) (pos : String) (af : Array Edge) (g : Option (Nat × Bool)) :
    Outcome P w0 env ((execOp ρ ⟨d, .makeFunc f xs ys, ty, pos, af, g⟩).run P w) (.val (.fn f l m) σ) := by
  refine .same (v := .func f (xs.map ρ) (ys.map ρ)) (by simp [execOp, Instr.makeFunc]) h ?_
  have e : ∀ zs : Array Operand, (zs.toList.map ρ).toArray = zs.map ρ := fun zs => by obtain ⟨zs⟩ := zs; simp
  simp only [den, h1, h2, e]

theorem sMakeMap_ok (h : Rel P w0 env σ w) {T : TypeId} {ρ : Operand → Value} (d : Option Tmp) (ty : TypeId) (pos : String) (af : Array Edge) (g : Option (Nat × Bool)) :
    Outcome P w0 env ((execOp ρ ⟨d, .makeMap T none, ty, pos, af, g⟩).run P w) (.val (.map σ.next) (σ.push (.map []))) := by
  have hr : Rel P w0 (env.push σ.next w.heap.size 0) (σ.push (.map [])) (w.alloc (.map #[] 0)) := h.push ⟨#[], 0, [], [], heap_alloc_new w _, rfl, rfl, rfl, rfl, rfl, fun i x hx => by simp at hx⟩
  have h2 : (env.push σ.next w.heap.size 0).blocks σ.next = some (w.heap.size, 0) := Env.new _ _ _ _
  exact ⟨_, .map (some w.heap.size), _, .inl (by simp [execOp, Instr.makeMap]), h.le_push w.heap.size 0, hr, by simp only [den, h2]⟩
end Go.Proofs.YthenjjonphoklaaGreatDoor
