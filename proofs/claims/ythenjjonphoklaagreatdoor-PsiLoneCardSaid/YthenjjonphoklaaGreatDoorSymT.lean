/-
  THE EXECUTOR, part T: make of a slice, type assertions.
-/
import Derived.Test.YthenjjonphoklaaGreatDoorSymL
set_option linter.unusedVariables false
set_option linter.unusedSimpArgs false
namespace Go.Proofs.YthenjjonphoklaaGreatDoor
open Go Go.RowKit

variable {P : Program} {w0 : Base} {env : Env} {σ : SH} {w : World}

noncomputable def sMakeSlice (P : Program) (σ : SH) (T : TypeId) (a b : SV) : Option SR := match a, b with
  | .int _ l, .int _ c => match P.underlying T with
    | some (.slice e) => match ssize P e, szero P e with
      | some z, some zs => if decide (0 < z) && (cellsS zs).length == z && decide (0 ≤ l) && decide (l ≤ c) && fits P e c.toNat then
          some (.val (.slice σ.next 0 l.toNat (.lit c.toNat)) (σ.push (.cells (sZeros (cellsS zs) c.toNat) e true))) else none
      | _, _ => none
    | _ => none
  | _, _ => none
theorem sMakeSlice_ok (ho : env.ones) (h : Rel P w0 env σ w) {T : TypeId} {a b : SV} {r : SR} (hs : sMakeSlice P σ T a b = some r) {x y : Operand} {ρ : Operand → Value} (h1 : den env a = some (ρ x)) (h2 : den env b = some (ρ y)) (d : Option Tmp) (ty : TypeId) (pos : String) (af : Array Edge) (g : Option (Nat × Bool)) :
    Outcome P w0 env ((execOp ρ ⟨d, .makeSlice T x y, ty, pos, af, g⟩).run P w) r := by
  unfold sMakeSlice at hs
  split at hs
  · rename_i kl l kc c
    simp only [den, Option.some.injEq] at h1 h2
    split at hs
    · rename_i e hu
      split at hs
      · rename_i z zs hz hzs
        split at hs
        · rename_i hc; cases hs
          simp only [Bool.and_eq_true, decide_eq_true_eq, beq_iff_eq] at hc
          obtain ⟨⟨⟨⟨c1, c2⟩, c3⟩, c4⟩, c5⟩ := hc
          obtain ⟨i, hi, hiz⟩ := ssize_info hz
          obtain ⟨i', zv, hi', hzero, hdz⟩ := szero_info (env := env) hzs
          rw [hi] at hi'; cases hi'
          subst hiz
          have hzc := cellsS_den ho hdz
          have hzsz : zv.cells.size = i.size := by have := denL_length hzc; simp at this; omega
          have hf : c.toNat ≤ 1099511627776 ∧ c.toNat * i.bytes ≤ 140737488355328 := by
            unfold fits at c5; rw [hi] at c5; simpa using c5
          have hrep := sZeros_den hzc c.toNat
          rw [← zeros_list zv.cells (by omega) c.toNat] at hrep
          obtain ⟨r1, r2⟩ := h.alloc ho e 0 hrep
          have hb : (i.bytes : Int) * c ≤ 281474976710656 := by
            have e1 : c = ((c.toNat : Nat) : Int) := by omega
            rw [e1]
            have : (i.bytes : Int) * ((c.toNat : Nat) : Int) = ((c.toNat * i.bytes : Nat) : Int) := by rw [Int.natCast_mul, Int.mul_comm]
            rw [this]; omega
          have hrun := run_make w T e i zv hu hi hzero kl kc l c c3 c4 hb (by omega)
          refine ⟨_, .slice (some ⟨w.heap.size, 0, none⟩) l.toNat c.toNat, _, .inl ?_, h.le_push w.heap.size 0, r1, by simp only [den, r2, capOf]⟩
          rw [hzsz]
          simp only [execOp, ← h1, ← h2, Sem.run_bind, hrun, Result.andThen_ok, madeCells, hzsz, Array.toArray_toList]
          rfl
        · cases hs
      · cases hs
    · cases hs
  · cases hs

noncomputable def sAssert (P : Program) (σ : SH) (A : TypeId) (ok : Bool) (x : SV) : Option SR := match x with
  | .iface t v => match P.underlying A with
    | some (.interface want) => match P.info? t with
      | some i => match Instr.missingMethod want i.methods with
        | none => some (.val (if ok then .tuple [.iface t v, .bool true] else .iface t v) σ)
        | some _ => if ok then (match szero P A with
          | some z => some (.val (.tuple [z, .bool false]) σ)
          | none => none) else none
      | none => none
    | some _ => if t = A then some (.val (if ok then .tuple [v, .bool true] else v) σ) else if ok then (match szero P A with
        | some z => some (.val (.tuple [z, .bool false]) σ)
        | none => none) else none
    | none => none
  | .nili => if ok then (match P.underlying A, szero P A with
    | some _, some z => some (.val (.tuple [z, .bool false]) σ)
    | _, _ => none) else none
  | _ => none
theorem den_pair {s t : SV} {u v : Value} (h1 : den env s = some u) (h2 : den env t = some v) : den env (.tuple [s, t]) = some (.tuple #[u, v]) := by
  simp only [den, denL, h1, h2]
theorem sAssert_ok (h : Rel P w0 env σ w) {X A : TypeId} {ok : Bool} {s : SV} {r : SR} (hs : sAssert P σ A ok s = some r) {x : Operand} {ρ : Operand → Value} (hd : den env s = some (ρ x)) (d : Option Tmp) (ty : TypeId) (pos : String) (af : Array Edge) (g : Option (Nat × Bool)) :
    Outcome P w0 env ((execOp ρ ⟨d, .typeAssert x X A ok, ty, pos, af, g⟩).run P w) r := by
  unfold sAssert at hs
  split at hs
  · rename_i t v
    obtain ⟨u, hu, hv⟩ := den_iface hd
    split at hs
    · rename_i want hA
      split at hs
      · rename_i i hi
        split at hs
        · rename_i hm; cases hs
          cases ok with
          | true => exact .same (v := .tuple #[.iface t u, .bool true]) (by simp [execOp, Instr.typeAssert, run_underlying hA, hv, typeInfo, hi, hm]) h (den_pair (hv ▸ hd) rfl)
          | false => exact .same (v := .iface t u) (by simp [execOp, Instr.typeAssert, run_underlying hA, hv, typeInfo, hi, hm]) h (hv ▸ hd)
        · rename_i m hm
          split at hs
          · rename_i hok; subst hok
            split at hs
            · rename_i z hz; cases hs
              obtain ⟨zv, hdz, hzr⟩ := szero_ok (env := env) hz
              exact .same (v := .tuple #[zv, .bool false]) (by simp [execOp, Instr.typeAssert, run_underlying hA, hv, typeInfo, hi, hm, hzr]) h (den_pair hdz rfl)
            · cases hs
          · cases hs
      · cases hs
    · rename_i D hD hA
      split at hs
      · rename_i htA; cases hs; subst htA
        cases ok with
        | true =>
          refine .same (v := .tuple #[u, .bool true]) ?_ h (den_pair hu rfl)
          cases D <;> first | (exact absurd rfl (hD _)) | simp [execOp, Instr.typeAssert, run_underlying hA, hv]
        | false =>
          refine .same (v := u) ?_ h hu
          cases D <;> first | (exact absurd rfl (hD _)) | simp [execOp, Instr.typeAssert, run_underlying hA, hv]
      · rename_i htA
        split at hs
        · rename_i hok; subst hok
          split at hs
          · rename_i z hz; cases hs
            obtain ⟨zv, hdz, hzr⟩ := szero_ok (env := env) hz
            refine .same (v := .tuple #[zv, .bool false]) ?_ h (den_pair hdz rfl)
            cases D <;> first | (exact absurd rfl (hD _)) | simp [execOp, Instr.typeAssert, run_underlying hA, hv, htA, hzr]
          · cases hs
        · cases hs
    · cases hs
  · split at hs
    · rename_i hok; subst hok
      split at hs
      · rename_i D z hA hz; cases hs
        simp only [den, Option.some.injEq] at hd
        obtain ⟨zv, hdz, hzr⟩ := szero_ok (env := env) hz
        refine .same (v := .tuple #[zv, .bool false]) ?_ h (den_pair hdz rfl)
        cases D <;> simp [execOp, Instr.typeAssert, run_underlying hA, ← hd, hzr]
      · cases hs
    · cases hs
  · cases hs
end Go.Proofs.YthenjjonphoklaaGreatDoor
