/-
  THE EXECUTOR, part X: append of zeros (slices.Grow at a nil slice).
-/
import Derived.Test.YthenjjonphoklaaGreatDoorSymW
set_option linter.unusedVariables false
set_option linter.unusedSimpArgs false
namespace Go.Proofs.YthenjjonphoklaaGreatDoor
open Go Go.RowKit

variable {P : Program} {w0 : Base} {env : Env} {σ : SH} {w : World}

theorem wrap64_small {m : Int} (h0 : 0 ≤ m) (h1 : m ≤ 1099511627776) : IntKind.i64.wrap m = m := by
  simp only [IntKind.wrap, IntKind.bits, IntKind.signed]
  have : m % (2 : Int) ^ 64 = m := Int.emod_eq_of_lt h0 (by omega)
  simp only [this]
  have : ¬ (m ≥ (2 : Int) ^ (64 - 1)) := by
    have : (2 : Int) ^ (64 - 1) = 9223372036854775808 := rfl
    omega
  simp [this]
  intro h; omega

theorem append_zeros {t t' ty e : TypeId} {i : TypeInfo} {z : Value} {k k' : IntKind} {m : Nat} (ht : P.underlying t = some (.slice e)) (hi : P.info? e = some i) (hz : i.zero = some z) (hD : P.underlying t' = some (.int k')) (h0 : 0 < m) (h1 : m ≤ 1099511627776) (hsz : 0 < i.size)
    (hfit : m * i.bytes ≤ 140737488355328) :
    (Builtin.append_ #[t, t'] ty #[.slice none 0 0, .int k (m : Nat)]).run P w = .ok (.slice (some ⟨w.heap.size, 0, none⟩) m (grownCap w m 0 e))
      (w.drew.alloc (.cells (#[] ++ Builtin.zeroCells z.cells m ++ Builtin.zeroCells z.cells (grownCap w m 0 e - m)) e)) := by
  have hn : ¬ (m ≤ 0) := by omega
  have h63' : ¬ (9223372036854775807 < (m : Int)) := by omega
  have h48 := growslice_fits (need := m) (old := 0) (bytes := i.bytes) h0 hfit
  have h48' : ¬ (281474976710656 < Builtin.nextslicecap m 0 * i.bytes) := by omega
  have hw : IntKind.i64.wrap ((m : Nat) : Int) = (m : Nat) := wrap64_small (by omega) (by omega)
  have hneg : ¬ (((m : Nat) : Int) < 0) := by omega
  have hbig : ¬ ((281474976710656 : Int) < (m : Int) * (i.bytes : Int)) := by
    have h := Int.ofNat_le.2 hfit
    rw [Int.natCast_mul] at h
    have e : ((140737488355328 : Nat) : Int) = 140737488355328 := rfl
    rw [e] at h
    omega
  have hms : ¬ (m = 0 ∨ i.size = 0) := by omega
  have hms2 : ¬ (m * i.size = 0) := by have := Nat.mul_pos h0 hsz; omega
  have hmx : ¬ (9223372036854775807 < max ((m : Nat) : Int) 0) := by omega
  have hle : ¬ (((m : Nat) : Int) ≤ 0) := by omega
  simp [Builtin.append_, run_underlying ht, run_underlying hD, sizeOf, typeInfo, zeroValue, hi, hz, hw, hneg, hbig, hms, hn, h63', h48', Question.forced, newRow, grownCap, asInt, asIntOf, hmx, hms2, hle, Nat.pos_iff_ne_zero.1 h0, Builtin.firstCells]

noncomputable def sAppendZ (P : Program) (σ : SH) (T T' : TypeId) (s x : SV) : Option SR := match P.underlying T, P.underlying T', s, x with
  | some (.slice e), some (.int _), .nils, .int _ (.ofNat m) => match ssize P e, szero P e with
    | some z, some zv => if Nat.ble 1 m && Nat.ble 1 z && ((cellsS zv).length == z) && Nat.ble m 1099511627776 && fits P e m then some (sAppendOut P σ e [] (sZeros (cellsS zv) m) m) else none
    | _, _ => none
  | _, _, _, _ => none
theorem sAppendZ_ok (ho : env.ones) (h : Rel P w0 env σ w) {T T' ty : TypeId} {s x : SV} {r : SR} (hs : sAppendZ P σ T T' s x = some r) {v u : Value} (hd : den env s = some v) (hx : den env x = some u) :
    ∃ q σ' env' v' w', r = .val q σ' ∧ (Builtin.append_ #[T, T'] ty #[v, u]).run P w = .ok v' w' ∧ env.le env' ∧ Rel P w0 env' σ' w' ∧ den env' q = some v' := by
  unfold sAppendZ at hs
  split at hs
  · rename_i e k' k m ht hD
    simp only [den, Option.some.injEq] at hd hx; subst hd; subst hx
    split at hs
    · rename_i z zv hz hzv
      split at hs
      · rename_i hc; cases hs
        simp only [Bool.and_eq_true, beq_iff_eq] at hc
        obtain ⟨⟨⟨⟨c1, c2⟩, c3⟩, c4⟩, c5⟩ := hc
        have c1 := Nat.le_of_ble_eq_true c1
        have c2 := Nat.le_of_ble_eq_true c2
        have c4 := Nat.le_of_ble_eq_true c4
        obtain ⟨i, hi, rfl⟩ := ssize_info hz
        obtain ⟨i', zz, hi', hzero, hdz⟩ := szero_info (env := env) hzv
        rw [hi] at hi'; cases hi'
        obtain ⟨f1, f2⟩ := fits_ok c5 hi
        have hzc := cellsS_den ho hdz
        have hzs : zz.cells.size = i.size := by have := denL_length hzc; simp at this; omega
        have hrun := append_zeros (ty := ty) (w := w) (k := k) ht hi hzero hD c1 c4 c2 f2
        have hge := grownCap_ge w m 0 e
        have hm2 := grownCap_le_maxLen w m 0 e (by unfold maxLen; omega)
        have hrep := sZeros_den hzc m
        rw [← zeros_list zz.cells (by omega) m] at hrep
        have hvn : (Builtin.zeroCells zz.cells m) = ((Array.range (m * zz.cells.size)).map fun i => zz.cells[i % zz.cells.size]!).toList.toArray := by
          rw [Array.toArray_toList]; rfl
        have hrel := grown_den (k := 0) ho h (olds := []) (vo := []) hi hzs rfl hrep (by simp [hzs]) hge hm2
        rw [← hvn] at hrel
        exact ⟨_, _, _, _, _, rfl, hrun, h.le_push _ _, hrel, by simp only [den, Env.new, capOf]; rfl⟩
      · cases hs
    · cases hs
  · cases hs
end Go.Proofs.YthenjjonphoklaaGreatDoor
