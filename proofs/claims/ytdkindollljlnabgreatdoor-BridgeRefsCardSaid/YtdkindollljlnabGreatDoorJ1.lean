/-
  THE EXECUTOR, part F: literals, slices.

  THE EXECUTOR, part G: slicing, lengths.

  THE EXECUTOR, part H: len, cap, append.

  THE EXECUTOR, part I: append on symbolic slices.

  THE EXECUTOR, part J: append is sound.

  THE EXECUTOR, part K: conversions between strings and bytes, equality, make, type assertions.

  THE EXECUTOR, part L: equality, type assertions, make, maps.

  THE EXECUTOR, part T: make of a slice, type assertions.

  THE EXECUTOR, part U: maps whose keys are arrays or structs without addresses: look-ups.

  THE EXECUTOR, part V: bytes as bytes (the conversion that marks a row).

  THE EXECUTOR, part W: min, max, empty literals, methods called through interfaces.

  THE EXECUTOR, part X: append of zeros (slices.Grow at a nil slice).
-/
import Derived.Test.YtdkindollljlnabGreatDoorJ0
import Derived.Laws.Tables
import Derived.Laws.Append
import Derived.Laws.AppendOwn
import Derived.Laws.IdiomStrings
import Derived.Laws.MakeOwn
import Derived.Laws.Pointers
import Derived.Laws.Cover3
import Derived.WideLaws
import Derived.DeepKeys
import Derived.DeepKeys3
set_option linter.unusedSectionVars false
set_option linter.unusedSimpArgs false
set_option linter.unusedVariables false
namespace Go.Proofs.YtdkindollljlnabGreatDoor
open Go Go.RowKit
variable [Known]

variable {P : Program} {w0 : Base} {env : Env} {σ : SH} {w : World}

/-- Parts laid into cells. -/
noncomputable def sFill (place : Nat → Option (Nat × Nat)) (l : List SV) : List (Nat × SV) → Option (List SV)
  | [] => some l
  | (i, s) :: rest => match place i with
    | none => none
    | some (off, size) =>
      if (cellsS s).length = size then (if off + (cellsS s).length ≤ l.length then sFill place (patch l off (cellsS s)) rest else none) else none
theorem foldl_patch : ∀ (cs : List Value) (k off : Nat) (arr : Array Value), off + k + cs.length ≤ arr.size →
    ((cs.zipIdx k).foldl (fun a (p : Value × Nat) => a.setIfInBounds (off + p.2) p.1) arr).toList = patchV arr.toList (off + k) cs := by
  intro cs
  induction cs with
  | nil => intro k off arr _; unfold patchV; simp
  | cons c r ih =>
    intro k off arr h
    simp only [List.length_cons] at h
    rw [List.zipIdx_cons, List.foldl_cons, ih (k + 1) off _ (by rw [Array.size_setIfInBounds]; omega), Array.toList_setIfInBounds]
    exact patchV_step (by simp; omega)
theorem patchV_length {l cs : List Value} {off : Nat} (h : off + cs.length ≤ l.length) : (patchV l off cs).length = l.length := by
  unfold patchV; rw [List.length_append, List.length_append, List.length_take, List.length_drop]; omega
theorem sFill_ok (ho : env.ones) {place : Nat → Option (Nat × Nat)} : ∀ {ps : List (Nat × SV)} {l l' : List SV} {arr : Array Value} {qs : List (Nat × Value)}, sFill place l ps = some l' → denL env l = some arr.toList →
    (ps.map (·.1) = qs.map (·.1)) → denL env (ps.map (·.2)) = some (qs.map (·.2)) → ∃ arr', Instr.fill place arr qs = some arr' ∧ denL env l' = some arr'.toList := by
  intro ps
  induction ps with
  | nil =>
    intro l l' arr qs h hl h1 h2
    have : qs = [] := by cases qs with
      | nil => rfl
      | cons x r => simp at h1
    subst this
    simp only [sFill] at h; cases h
    exact ⟨arr, rfl, hl⟩
  | cons p rest ih =>
    intro l l' arr qs h hl h1 h2
    obtain ⟨i, s⟩ := p
    cases qs with
    | nil => simp at h1
    | cons q r =>
      obtain ⟨j, v⟩ := q
      simp only [List.map_cons, List.cons.injEq] at h1 h2
      obtain ⟨rfl, h1⟩ := h1
      obtain ⟨v', us, e1, e2, e3⟩ := denL_cons h2
      cases e3
      simp only [sFill] at h
      cases hp : place i with
      | none => rw [hp] at h; cases h
      | some os =>
        obtain ⟨off, size⟩ := os
        rw [hp] at h
        simp only at h
        split at h
        · rename_i hsz
          split at h
          · rename_i hle
            have hcs := cellsS_den ho e1
            have hlen := denL_length hcs
            have hsl : l.length = arr.size := by simpa using (denL_length hl).symm
            have e0 : v.cells.toList.length = v.cells.size := Array.length_toList
            have hfold : (v.cells.zipIdx.foldl (fun cs (c, j) => cs.setIfInBounds (off + j) c) arr).toList = patchV arr.toList off v.cells.toList := by
              have := foldl_patch v.cells.toList 0 off arr (by omega)
              rw [Nat.add_zero] at this
              rw [← this, ← Array.foldl_toList, Array.toList_zipIdx]
            obtain ⟨arr', g1, g2⟩ := ih (l := patch l off (cellsS s)) (arr := v.cells.zipIdx.foldl (fun cs (c, j) => cs.setIfInBounds (off + j) c) arr) (qs := r) h (by rw [hfold]; exact patch_den hl hcs) h1 e2
            refine ⟨arr', ?_, g2⟩
            simp only [Instr.fill, hp]
            rw [if_neg (by intro hh; simp at hh; omega)]
            exact g1
          · cases h
        · cases h

noncomputable def sPlaces (P : Program) : List Field → Option (List (Nat × Nat))
  | [] => some []
  | f :: r => match ssize P f.type, sPlaces P r with
    | some z, some l => some ((f.offset, z) :: l)
    | _, _ => none
theorem sPlaces_ok : ∀ {fs : List Field} {l : List (Nat × Nat)}, sPlaces P fs = some l → fs.mapM (fun f => (P.info? f.type).map fun i => (f.offset, i.size)) = some l := by
  intro fs
  induction fs with
  | nil => intro l h; simp only [sPlaces] at h; cases h; rfl
  | cons f r ih =>
    intro l h
    simp only [sPlaces] at h
    cases h1 : ssize P f.type with
    | none => rw [h1] at h; cases h
    | some z =>
      cases h2 : sPlaces P r with
      | none => rw [h1, h2] at h; cases h
      | some m =>
        rw [h1, h2] at h; cases h
        unfold ssize at h1
        cases hi : P.info? f.type with
        | none => rw [hi] at h1; cases h1
        | some i =>
          rw [hi] at h1; cases h1
          simp [List.mapM_cons, hi, ih h2]
theorem ssize_info {T : TypeId} {z : Nat} (h : ssize P T = some z) : ∃ i, P.info? T = some i ∧ i.size = z := by
  unfold ssize at h
  split at h
  · rename_i i hi; cases h; exact ⟨i, hi, rfl⟩
  · cases h
theorem szero_info {T : TypeId} {s : SV} (h : szero P T = some s) : ∃ i z, P.info? T = some i ∧ i.zero = some z ∧ den env s = some z := by
  unfold szero at h
  split at h
  · rename_i i hi
    split at h
    · rename_i z hz; exact ⟨i, z, hi, hz, ofV_den h⟩
    · cases h
  · cases h

noncomputable def sBuild (P : Program) (σ : SH) (T : TypeId) (ps : List (Nat × SV)) : Option SR := match P.underlying T, szero P T with
  | some (.struct fields), some z => match sPlaces P fields.toList with
    | some pl => match sFill (fun i => pl.toArray[i]?) (cellsS z) ps with
      | some l => some (.val (.agg l) σ)
      | none => none
    | none => none
  | some (.array _ e), some z => match ssize P e with
    | some k => match sFill (fun i => some (i * k, k)) (cellsS z) ps with
      | some l => some (.val (.agg l) σ)
      | none => none
    | none => none
  | _, _ => none
theorem sBuild_ok (ho : env.ones) (h : Rel P w0 env σ w) {T : TypeId} {ps : List (Nat × SV)} {r : SR} (hs : sBuild P σ T ps = some r) {xs : Array (Nat × Operand)} {ρ : Operand → Value} (h1 : ps.map (·.1) = xs.toList.map (·.1)) (h2 : denL env (ps.map (·.2)) = some (xs.toList.map fun x => ρ x.2)) (d : Option Tmp) (ty : TypeId) (pos : String) (af : Array Edge) (g : Option (Nat × Bool)) :
    Outcome P w0 env ((execOp ρ ⟨d, .build T xs, ty, pos, af, g⟩).run P w) r := by
  have key : ∀ cells : Array Value, P.built T (xs.map fun (i, x) => (i, ρ x)).toList = some cells → ∀ l, denL env l = some cells.toList → Outcome P w0 env ((execOp ρ ⟨d, .build T xs, ty, pos, af, g⟩).run P w) (.val (.agg l) σ) := by
    intro cells hb l hl
    refine .same (v := .agg cells) ?_ h (by simp only [den, hl, Array.toArray_toList])
    simp only [execOp, Sem.run_bind, run_build w T _ cells hb, Result.andThen_ok]
    rfl
  have hq1 : ps.map (·.1) = ((xs.map fun (i, x) => (i, ρ x)).toList).map (·.1) := by rw [h1]; simp [List.map_map, Function.comp_def]
  have hq2 : denL env (ps.map (·.2)) = some (((xs.map fun (i, x) => (i, ρ x)).toList).map (·.2)) := by rw [h2]; simp [List.map_map, Function.comp_def]
  unfold sBuild at hs
  split at hs
  · rename_i fields z hu hz
    split at hs
    · rename_i pl hpl
      split at hs
      · rename_i l hl; cases hs
        obtain ⟨it, zv, hi, hzv, hdz⟩ := szero_info (env := env) hz
        obtain ⟨arr, g1, g2⟩ := sFill_ok ho hl (cellsS_den ho hdz) hq1 hq2
        refine key arr ?_ l g2
        unfold Program.built
        simp only [hi, hu, hzv, sPlaces_ok hpl]
        exact g1
      · cases hs
    · cases hs
  · rename_i n e z hu hz
    split at hs
    · rename_i k hk
      split at hs
      · rename_i l hl; cases hs
        obtain ⟨it, zv, hi, hzv, hdz⟩ := szero_info (env := env) hz
        obtain ⟨ie, hie, hie2⟩ := ssize_info hk
        obtain ⟨arr, g1, g2⟩ := sFill_ok ho hl (cellsS_den ho hdz) hq1 hq2
        refine key arr ?_ l g2
        unfold Program.built
        simp only [hi, hu, hzv, hie, hie2]
        exact g1
      · cases hs
    · cases hs
  · cases hs

/-- n zeros in a row. -/
noncomputable def sZeros (z : List SV) : Nat → List SV
  | 0 => []
  | n + 1 => z ++ sZeros z n
theorem zeros_list (z : Array Value) (hz : 0 < z.size) : ∀ n : Nat, ((Array.range (n * z.size)).map fun i => z[i % z.size]!).toList = (List.replicate n z.toList).flatten := by
  intro n
  induction n with
  | zero => simp
  | succ n ih =>
    rw [List.replicate_succ', List.flatten_append, ← ih]
    apply List.ext_getElem?
    intro j
    have e1 : (n + 1) * z.size = n * z.size + z.size := by rw [Nat.add_mul, Nat.one_mul]
    by_cases hj : j < n * z.size
    · rw [List.getElem?_append_left (by simpa using hj)]
      simp [hj, e1, Nat.lt_of_lt_of_le hj (Nat.le_add_right _ _)]
    · rw [List.getElem?_append_right (by simpa using hj)]
      by_cases hj2 : j < n * z.size + z.size
      · have hm : j % z.size = j - n * z.size := by
          have : j = (j - n * z.size) + n * z.size := by omega
          rw [this, Nat.add_mul_mod_self_right, Nat.mod_eq_of_lt (by omega)]
          omega
        have hlt : j - n * z.size < z.size := by omega
        simp [e1, hj2, hm, hlt]
      · simp [e1, hj2]
        omega
theorem sZeros_den {z : List SV} {vs : List Value} (h : denL env z = some vs) : ∀ n, denL env (sZeros z n) = some (List.replicate n vs).flatten := by
  intro n
  induction n with
  | zero => rfl
  | succ n ih => rw [List.replicate_succ, List.flatten_cons]; exact denL_append h ih

noncomputable def sBuildSlice (P : Program) (σ : SH) (T : TypeId) (len : Nat) (ps : List (Nat × SV)) : Option SR := match P.underlying T with
  | some (.slice e) => match ssize P e, szero P e with
    | some k, some z => if decide (0 < k) && decide (0 < len) && decide (len * k ≤ 16777216) && (cellsS z).length == k then (match sFill (fun i => some (i * k, k)) (sZeros (cellsS z) len) ps with
        | some l => some (.val (.slice σ.next 0 len (.lit len)) (σ.push (.cells l e true)))
        | none => none)
      else none
    | _, _ => none
  | _ => none
theorem sBuildSlice_ok (ho : env.ones) (h : Rel P w0 env σ w) {T : TypeId} {len : Nat} {ps : List (Nat × SV)} {r : SR} (hs : sBuildSlice P σ T len ps = some r) {xs : Array (Nat × Operand)} {ρ : Operand → Value} (h1 : ps.map (·.1) = xs.toList.map (·.1)) (h2 : denL env (ps.map (·.2)) = some (xs.toList.map fun x => ρ x.2)) (d : Option Tmp) (ty : TypeId) (pos : String) (af : Array Edge) (g : Option (Nat × Bool)) :
    Outcome P w0 env ((execOp ρ ⟨d, .buildSlice T len xs, ty, pos, af, g⟩).run P w) r := by
  have hq1 : ps.map (·.1) = ((xs.map fun (i, x) => (i, ρ x)).toList).map (·.1) := by rw [h1]; simp [List.map_map, Function.comp_def]
  have hq2 : denL env (ps.map (·.2)) = some (((xs.map fun (i, x) => (i, ρ x)).toList).map (·.2)) := by rw [h2]; simp [List.map_map, Function.comp_def]
  unfold sBuildSlice at hs
  split at hs
  · rename_i e hu
    split at hs
    · rename_i k z hk hz
      split at hs
      · rename_i hc
        split at hs
        · rename_i l hl; cases hs
          simp only [Bool.and_eq_true, decide_eq_true_eq, beq_iff_eq] at hc
          obtain ⟨⟨⟨c1, c2⟩, c3⟩, c4⟩ := hc
          obtain ⟨zv, hdz, hzrun⟩ := szero_ok (env := env) hz
          have hzc := cellsS_den ho hdz
          have hzs : zv.cells.size = k := by have := denL_length hzc; simp at this; omega
          have hrep := sZeros_den hzc len
          rw [← zeros_list zv.cells (by omega) len] at hrep
          obtain ⟨arr, g1, g2⟩ := sFill_ok ho hl hrep hq1 hq2
          obtain ⟨r1, r2⟩ := h.alloc ho e 0 g2
          refine ⟨_, .slice (some ⟨w.heap.size, 0, none⟩) len len, _, .inl ?_, h.le_push w.heap.size 0, r1, by simp only [den, r2, capOf]⟩
          have n1 : ¬ len * k > 2 ^ 24 := by omega
          have n2 : ¬ len * k = 0 := by have := Nat.mul_pos c2 c1; omega
          rw [hzs] at g1
          have g1' : Instr.fill (fun i => some (i * k, k)) (Array.map (fun x => zv.cells[x % k]!) (Array.range (len * k))) (List.map (fun x => (x.fst, ρ x.snd)) xs.toList) = some arr := by simpa using g1
          simp only [execOp, Instr.buildSlice, underlying, Sem.run_bind]
          simp [hu, ssize_ok hk, n2, hzrun, hzs, newRow, show ¬ 16777216 < len * k by omega, g1']
        · cases hs
      · cases hs
    · cases hs
  · cases hs
end Go.Proofs.YtdkindollljlnabGreatDoor

namespace Go.Proofs.YtdkindollljlnabGreatDoor
open Go Go.RowKit
variable [Known]

variable {P : Program} {w0 : Base} {env : Env} {σ : SH} {w : World}

/-- A bound: none, or a number. -/
def IntO (v : Option Value) (i : Option Int) : Prop := (v = none ∧ i = none) ∨ ∃ k n, v = some (.int k n) ∧ i = some n
def bnd (i : Int) (lim : Nat) : Option Nat := if 0 ≤ i then (if i.toNat ≤ lim then some i.toNat else none) else none
theorem bnd_ok {i : Int} {lim n : Nat} (h : bnd i lim = some n) : 0 ≤ i ∧ i ≤ lim ∧ i.toNat = n := by
  unfold bnd at h
  split at h
  · split at h
    · cases h; exact ⟨by assumption, by omega, rfl⟩
    · cases h
  · cases h
theorem run_bound {k : IntKind} {i : Int} {lim n : Nat} (code : BoundsCode) (h0 : 0 ≤ i) (h1 : i ≤ lim) (h2 : i.toNat = n) : (Instr.sliceBound (.int k i) lim code).run P w = .ok n w := by
  simp [Instr.sliceBound, asIntOf, h0, h1, h2]

/-- The bounds of a slice expression. -/
noncomputable def sCut (len lim : Nat) (lo hi mx : Option Int) : Option (Nat × Nat × Nat) :=
  match (match mx with | some i => bnd i lim | none => some lim) with
  | some m => match (match hi with | some i => bnd i m | none => if mx.isSome then none else some len) with
    | some h => match (match lo with | some i => bnd i h | none => some 0) with
      | some l => some (l, h, m)
      | none => none
    | none => none
  | none => none
theorem sCut_ok {len lim cap : Nat} {lo hi mx : Option Int} {l h m : Nat} (hs : sCut len lim lo hi mx = some (l, h, m)) (hc : lim ≤ cap) (isSlice : Bool) {low high max : Option Value} (h1 : IntO low lo) (h2 : IntO high hi) (h3 : IntO max mx) :
    (Instr.sliceBounds isSlice len cap low high max).run P w = .ok (l, h, if mx.isSome then m else cap) w := by
  unfold sCut at hs
  rcases h3 with ⟨rfl, rfl⟩ | ⟨k3, n3, rfl, rfl⟩
  · simp only [Option.isSome_none, Bool.false_eq_true, if_false] at hs ⊢
    rcases h2 with ⟨rfl, rfl⟩ | ⟨k2, n2, rfl, rfl⟩
    · simp only at hs
      rcases h1 with ⟨rfl, rfl⟩ | ⟨k1, n1, rfl, rfl⟩
      · simp only [Option.some.injEq, Prod.mk.injEq] at hs
        obtain ⟨rfl, rfl, rfl⟩ := hs
        simp [Instr.sliceBounds]
      · simp only at hs
        cases hb : bnd n1 len with
        | none => rw [hb] at hs; cases hs
        | some x =>
          rw [hb] at hs; simp only [Option.some.injEq, Prod.mk.injEq] at hs
          obtain ⟨rfl, rfl, rfl⟩ := hs
          obtain ⟨b1, b2, b3⟩ := bnd_ok hb
          simp [Instr.sliceBounds, run_bound _ b1 b2 b3]
    · simp only at hs
      cases hb : bnd n2 lim with
      | none => rw [hb] at hs; cases hs
      | some y =>
        rw [hb] at hs; simp only at hs
        obtain ⟨b1, b2, b3⟩ := bnd_ok hb
        rcases h1 with ⟨rfl, rfl⟩ | ⟨k1, n1, rfl, rfl⟩
        · simp only [Option.some.injEq, Prod.mk.injEq] at hs
          obtain ⟨rfl, rfl, rfl⟩ := hs
          have b2' : n2 ≤ (cap : Int) := by omega
          simp [Instr.sliceBounds, run_bound _ b1 b2' b3]
        · simp only at hs
          cases hb2 : bnd n1 y with
          | none => rw [hb2] at hs; cases hs
          | some x =>
            rw [hb2] at hs; simp only [Option.some.injEq, Prod.mk.injEq] at hs
            obtain ⟨rfl, rfl, rfl⟩ := hs
            obtain ⟨c1, c2, c3⟩ := bnd_ok hb2
            have b2' : n2 ≤ (cap : Int) := by omega
            simp [Instr.sliceBounds, run_bound _ b1 b2' b3, run_bound _ c1 c2 c3]
  · simp only [Option.isSome_some, if_true] at hs ⊢
    cases hb3 : bnd n3 lim with
    | none => rw [hb3] at hs; cases hs
    | some z =>
      rw [hb3] at hs; simp only at hs
      obtain ⟨a1, a2, a3⟩ := bnd_ok hb3
      have a2' : n3 ≤ (cap : Int) := by omega
      rcases h2 with ⟨rfl, rfl⟩ | ⟨k2, n2, rfl, rfl⟩
      · simp only at hs; cases hs
      · simp only at hs
        cases hb : bnd n2 z with
        | none => rw [hb] at hs; cases hs
        | some y =>
          rw [hb] at hs; simp only at hs
          obtain ⟨b1, b2, b3⟩ := bnd_ok hb
          rcases h1 with ⟨rfl, rfl⟩ | ⟨k1, n1, rfl, rfl⟩
          · simp only [Option.some.injEq, Prod.mk.injEq] at hs
            obtain ⟨rfl, rfl, rfl⟩ := hs
            simp [Instr.sliceBounds, run_bound _ a1 a2' a3, run_bound _ b1 b2 b3]
          · simp only at hs
            cases hb2 : bnd n1 y with
            | none => rw [hb2] at hs; cases hs
            | some x =>
              rw [hb2] at hs; simp only [Option.some.injEq, Prod.mk.injEq] at hs
              obtain ⟨rfl, rfl, rfl⟩ := hs
              obtain ⟨c1, c2, c3⟩ := bnd_ok hb2
              simp [Instr.sliceBounds, run_bound _ a1 a2' a3, run_bound _ b1 b2 b3, run_bound _ c1 c2 c3]

theorem sCut_le {len lim : Nat} {lo hi mx : Option Int} {l h m : Nat} (hs : sCut len lim lo hi mx = some (l, h, m)) : m ≤ lim := by
  unfold sCut at hs
  split at hs
  · rename_i m' hm
    split at hs
    · split at hs
      · simp only [Option.some.injEq, Prod.mk.injEq] at hs
        obtain ⟨rfl, rfl, rfl⟩ := hs
        cases mx with
        | none => simp only [Option.some.injEq] at hm; omega
        | some i => simp only at hm; obtain ⟨_, h2, h3⟩ := bnd_ok hm; omega
      · cases hs
    · cases hs
  · cases hs
theorem sCut_none {len lim : Nat} {lo hi : Option Int} {l h m : Nat} (hs : sCut len lim lo hi none = some (l, h, m)) : m = lim := by
  unfold sCut at hs
  simp only at hs
  split at hs
  · split at hs
    · simp only [Option.some.injEq, Prod.mk.injEq] at hs; exact hs.2.2.symm
    · cases hs
  · cases hs

/-- How many elements a row surely holds behind the d-th. -/
noncomputable def roomOf (P : Program) (σ : SH) (n off d z : Nat) : Option Nat := match σ.get n with
  | some (.cells l e false) => if decide (0 < z) && off == d * z && P.cellsOf e == z && decide (d ≤ (lenR l) / z) then some ((lenR l) / z - d) else none
  | _ => none
theorem roomOf_ok (h : Rel P w0 env σ w) {n off d z k b c : Nat} (hs : roomOf P σ n off d z = some k) (he : env.blocks n = some (b, c)) : 0 < z ∧ off = d * z ∧ k ≤ c - d := by
  unfold roomOf at hs
  simp only [lenR_eq, takeR_eq, dropR_eq, appR_eq, allR_eq, mapR_eq] at hs
  split at hs
  · rename_i l e hn
    split at hs
    · rename_i hc; cases hs
      simp only [Bool.and_eq_true, decide_eq_true_eq, beq_iff_eq] at hc
      obtain ⟨⟨⟨c1, c2⟩, c3⟩, c4⟩ := hc
      obtain ⟨b', c', h1, h2, cur, t, fr, vs, g1, g2, g3, g4, g5, g6⟩ := h.obj n _ hn
      rw [he] at h1; cases h1
      obtain ⟨s1, s2⟩ := g6 rfl
      have hle : l.length ≤ cur.size := by
        have := congrArg List.length g4
        rw [List.length_take, denL_length g3] at this
        simp at this; omega
      rw [s1, c3] at hle
      have : l.length / z ≤ c := by
        have := Nat.div_le_div_right (c := z) hle
        rwa [Nat.mul_div_cancel _ c1] at this
      exact ⟨c1, c2, by omega⟩
    · cases hs
  · cases hs

noncomputable def sSlice (P : Program) (σ : SH) (T : TypeId) (x : SV) (lo hi mx : Option Int) : Option SR := match P.underlying T with
  | some .string => match x, mx with
    | .str l, none => match sCut (lenR l) (lenR l) lo hi none with
      | some (a, h, _) => some (.val (.str (dropR (takeR l h) a)) σ)
      | none => none
    | _, _ => none
  | some (.array len e) => match x, ssize P e with
    | .ptr n off, some z => match sCut len len lo hi mx with
      | some (a, h, m) => some (.val (.slice n (if m = a then off else off + a * z) (h - a) (.lit (m - a))) σ)
      | none => none
    | _, _ => none
  | some (.slice e) => match x, ssize P e with
    | .slice n off len (.lit cap), some z => match sCut len cap lo hi mx with
      | some (a, h, m) => some (.val (.slice n (if m = a then off else off + a * z) (h - a) (.lit (m - a))) σ)
      | none => none
    | .slice n off len (.rest d), some z => match roomOf P σ n off d z with
      | some k => match sCut len k lo hi mx with
        | some (a, h, m) => if mx.isSome then some (.val (.slice n (if m = a then off else off + a * z) (h - a) (.lit (m - a))) σ)
          else if a = 0 ∨ a < k then some (.val (.slice n (off + a * z) (h - a) (.rest (d + a))) σ) else if h = a then some (.val (.zslice n off a z d) σ) else none
        | none => none
      | none => none
    | .nils, some _ => match sCut 0 0 lo hi mx with
      | some (_, _, _) => some (.val .nils σ)
      | none => none
    | _, _ => none
  | _ => none
theorem bytesOf_extract (l : List Nat) (a h : Nat) (hh : h ≤ l.length) : (bytesOf l).extract a h = bytesOf ((l.take h).drop a) := by
  apply ByteArray.ext
  rw [ByteArray.data_extract]
  unfold bytesOf
  apply Array.ext'
  simp [List.extract_eq_take_drop, List.map_drop, List.map_take, List.drop_take]
theorem sSlice_ok (h : Rel P w0 env σ w) {T : TypeId} {s : SV} {lo hi mx : Option Int} {r : SR} (hs : sSlice P σ T s lo hi mx = some r) {x : Operand} {ol oh om : Option Operand} {ρ : Operand → Value} (hd : den env s = some (ρ x))
    (h1 : IntO (ol.map ρ) lo) (h2 : IntO (oh.map ρ) hi) (h3 : IntO (om.map ρ) mx) (d : Option Tmp) (ty : TypeId) (pos : String) (af : Array Edge) (g : Option (Nat × Bool)) :
    Outcome P w0 env ((execOp ρ ⟨d, .slice T x ol oh om, ty, pos, af, g⟩).run P w) r := by
  unfold sSlice at hs
  simp only [lenR_eq, takeR_eq, dropR_eq, appR_eq, allR_eq, mapR_eq] at hs
  split at hs
  · rename_i hu
    split at hs
    · rename_i l
      split at hs
      · rename_i a hh m hc; cases hs
        simp only [den, Option.some.injEq] at hd
        have hm : om.map ρ = none := by
          rcases h3 with ⟨h3, _⟩ | ⟨_, _, _, h3⟩
          · exact h3
          · cases h3
        have hcut := sCut_ok (P := P) (w := w) hc (Nat.le_refl _) false h1 h2 (Or.inl ⟨rfl, rfl⟩ : IntO none none)
        have hle : hh ≤ l.length := by
          unfold sCut at hc
          simp only at hc
          split at hc
          · rename_i y hy
            split at hc
            · simp only [Option.some.injEq, Prod.mk.injEq] at hc
              obtain ⟨rfl, rfl, rfl⟩ := hc
              cases hi with
              | none => simp at hy; omega
              | some i => simp only at hy; obtain ⟨_, e2, e3⟩ := bnd_ok hy; omega
            · cases hc
          · cases hc
        refine .same (v := .string (bytesOf ((l.take hh).drop a))) ?_ h rfl
        rw [← bytesOf_extract l a hh hle]
        simp [execOp, Instr.sliceAt, Instr.slice, underlying, hu, ← hd, hm, bytesOf_size, hcut]
      · cases hs
    · cases hs
  · rename_i len e hu
    split at hs
    · rename_i n off z hz
      split at hs
      · rename_i a hh m hc; cases hs
        obtain ⟨b, c, he, hv⟩ := den_ptr hd
        have hcut := sCut_ok (P := P) (w := w) hc (Nat.le_refl _) false h1 h2 h3
        have hm : (if mx.isSome then m else len) = m := by
          cases mx with
          | none => rw [sCut_none hc]; simp
          | some i => rfl
        rw [hm] at hcut
        refine .same (v := .slice (some ⟨b, if m = a then off else off + a * z, none⟩) (hh - a) (m - a)) ?_ h (by simp only [den, he, capOf])
        simp only [execOp, Instr.sliceAt, underlying, Sem.run_bind]
        by_cases hma : m = a <;> simp [hu, hv, Instr.sureAddr, hcut, ssize_ok hz, hma, add_none]
      · cases hs
    · cases hs
  · rename_i e hu
    split at hs
    · rename_i n off len cap z hz
      split at hs
      · rename_i a hh m hc; cases hs
        obtain ⟨b, c, he, hv⟩ := den_slice hd
        have hcut := sCut_ok (P := P) (w := w) hc (Nat.le_refl _) true h1 h2 h3
        have hm : (if mx.isSome then m else cap) = m := by
          cases mx with
          | none => rw [sCut_none hc]; simp
          | some i => rfl
        rw [hm] at hcut
        refine .same (v := .slice (some ⟨b, if m = a then off else off + a * z, none⟩) (hh - a) (m - a)) ?_ h (by simp only [den, he, capOf])
        simp only [execOp, Instr.sliceAt, Instr.slice, underlying, Sem.run_bind]
        by_cases hma : m = a <;> simp [hu, hv, hcut, ssize_ok hz, hma, add_none, capOf]
      · cases hs
    · rename_i n off len dd z hz
      split at hs
      · rename_i k hk
        split at hs
        · rename_i a hh m hc
          obtain ⟨b, c, he, hv⟩ := den_slice hd
          obtain ⟨z0, zo, zk⟩ := roomOf_ok h hk he
          have hcut := sCut_ok (P := P) (w := w) hc zk true h1 h2 h3
          split at hs
          · rename_i hmx; cases hs
            rw [if_pos hmx] at hcut
            refine .same (v := .slice (some ⟨b, if m = a then off else off + a * z, none⟩) (hh - a) (m - a)) ?_ h (by simp only [den, he, capOf])
            simp only [execOp, Instr.sliceAt, Instr.slice, underlying, Sem.run_bind]
            by_cases hma : m = a <;> simp [hu, hv, hcut, ssize_ok hz, hma, add_none, capOf]
          · rename_i hmx
            split at hs
            · rename_i hak; cases hs
              rw [if_neg hmx] at hcut
              refine .same (v := .slice (some ⟨b, off + a * z, none⟩) (hh - a) (c - dd - a)) ?_ h (by simp only [den, he, capOf]; rw [show c - (dd + a) = c - dd - a by omega])
              simp only [execOp, Instr.sliceAt, Instr.slice, underlying, Sem.run_bind]
              by_cases hma : c - dd = a
              · have : a = 0 := by omega
                subst this
                rw [hma] at hcut
                simp [hu, hv, hcut, ssize_ok hz, hma, add_none, capOf]
              · simp [hu, hv, hcut, ssize_ok hz, hma, add_none, capOf]
            · split at hs
              · rename_i hha; cases hs
                subst hha
                rw [if_neg hmx] at hcut
                refine .same (v := .slice (some ⟨b, if c - dd = hh then off else off + hh * z, none⟩) 0 (c - dd - hh)) ?_ h (by simp only [den, he])
                simp only [execOp, Instr.sliceAt, Instr.slice, underlying, Sem.run_bind]
                by_cases hma : c - dd = hh
                · rw [hma] at hcut
                  simp [hu, hv, hcut, ssize_ok hz, hma, add_none, capOf]
                · simp [hu, hv, hcut, ssize_ok hz, hma, add_none, capOf]
              · cases hs
        · cases hs
      · cases hs
    · rename_i z hz
      split at hs
      · rename_i a hh m hc; cases hs
        simp only [den, Option.some.injEq] at hd
        have hcut := sCut_ok (P := P) (w := w) hc (Nat.le_refl _) true h1 h2 h3
        have h0 : a = 0 ∧ hh = 0 ∧ m = 0 := by
          have hm0 := sCut_le hc
          unfold sCut at hc
          split at hc
          · rename_i m' hm'
            split at hc
            · rename_i h' hh'
              split at hc
              · rename_i a' ha'
                simp only [Option.some.injEq, Prod.mk.injEq] at hc
                obtain ⟨rfl, rfl, rfl⟩ := hc
                have e2 : h' = 0 := by
                  cases hi with
                  | none => simp only at hh'; split at hh' <;> simp_all
                  | some i => simp only at hh'; obtain ⟨_, q2, q3⟩ := bnd_ok hh'; omega
                have e3 : a' = 0 := by
                  cases lo with
                  | none => simp only [Option.some.injEq] at ha'; omega
                  | some i => simp only at ha'; obtain ⟨_, q2, q3⟩ := bnd_ok ha'; omega
                exact ⟨e3, e2, by omega⟩
              · cases hc
            · cases hc
          · cases hc
        obtain ⟨rfl, rfl, rfl⟩ := h0
        have hm : (if mx.isSome then 0 else 0) = 0 := by split <;> rfl
        rw [hm] at hcut
        refine .same (v := .slice none 0 0) ?_ h rfl
        simp [execOp, Instr.sliceAt, Instr.slice, underlying, hu, ← hd, hcut, ssize_ok hz]
      · cases hs
    · cases hs
  · cases hs
end Go.Proofs.YtdkindollljlnabGreatDoor

namespace Go.Proofs.YtdkindollljlnabGreatDoor
open Go Go.RowKit
variable [Known]

variable {P : Program} {w0 : Base} {env : Env} {σ : SH} {w : World}

theorem run_getObj_map {b : Nat} {es : Array MapEntry} {c : Nat} (h : w.heap[b]? = some (.map es c)) : (getObj b).run P w = .ok (.map es c) w := by
  simp [getObj, Sem.run, h]
noncomputable def sLen (P : Program) (σ : SH) (T : TypeId) (x : SV) : Option SV := match P.underlying T with
  | some .string => match x with
    | .str l => some (.int .i64 (lenR l))
    | _ => none
  | some (.array n _) => some (.int .i64 n)
  | some (.slice _) => match x with
    | .slice _ _ len _ => some (.int .i64 len)
    | .nils => some (.int .i64 0)
    | .zslice _ _ _ _ _ => some (.int .i64 0)
    | _ => none
  | some (.map _ _) => match x with
    | .nilm => some (.int .i64 0)
    | .map n => match σ.get n with
      | some (.map es) => some (.int .i64 (lenR es))
      | _ => none
    | _ => none
  | _ => none
theorem sLen_ok (h : Rel P w0 env σ w) {T ty : TypeId} {s t : SV} {v : Value} (hs : sLen P σ T s = some t) (hd : den env s = some v) :
    ∃ u, den env t = some u ∧ (Builtin.len_ #[T] ty #[v]).run P w = .ok u w := by
  unfold sLen at hs
  simp only [lenR_eq, takeR_eq, dropR_eq, appR_eq, allR_eq, mapR_eq] at hs
  split at hs
  · rename_i hu
    split at hs
    · rename_i l; cases hs
      simp only [den, Option.some.injEq] at hd; subst hd
      exact ⟨_, rfl, by simp [Builtin.len_, underlying, hu, goInt, bytesOf_size]⟩
    · cases hs
  · rename_i n e hu; cases hs
    exact ⟨_, rfl, by simp [Builtin.len_, underlying, hu, goInt]⟩
  · rename_i e hu
    split at hs
    · rename_i n off len c; cases hs
      obtain ⟨b, k, he, rfl⟩ := den_slice hd
      exact ⟨_, rfl, by simp [Builtin.len_, underlying, hu, goInt]⟩
    · cases hs
      simp only [den, Option.some.injEq] at hd; subst hd
      exact ⟨_, rfl, by simp [Builtin.len_, underlying, hu, goInt]⟩
    · cases hs
      obtain ⟨ad, cp, rfl⟩ := den_zslice hd
      exact ⟨_, rfl, by simp [Builtin.len_, underlying, hu, goInt]⟩
    · cases hs
  · rename_i kt et hu
    split at hs
    · cases hs
      simp only [den, Option.some.injEq] at hd; subst hd
      exact ⟨_, rfl, by simp [Builtin.len_, underlying, hu, goInt]⟩
    · rename_i n
      split at hs
      · rename_i es hn; cases hs
        obtain ⟨b, k, he, rfl⟩ := den_map hd
        obtain ⟨b', c', h1, h2, ents, clock, ks, vs, g1, g2, g3, g4, g5, _⟩ := h.obj n _ hn
        rw [he] at h1; cases h1
        have hsz : ents.size = es.length := by
          have := denL_length g2
          rw [← g4] at this
          simpa using this
        exact ⟨_, rfl, by simp [Builtin.len_, underlying, hu, goInt, run_getObj_map g1, hsz]⟩
      · cases hs
    · cases hs
  · cases hs

noncomputable def sCap (P : Program) (T : TypeId) (x : SV) : Option SV := match P.underlying T with
  | some (.slice _) => match x with
    | .slice _ _ _ (.lit c) => some (.int .i64 c)
    | .nils => some (.int .i64 0)
    | _ => none
  | _ => none
theorem sCap_ok {T ty : TypeId} {s t : SV} {v : Value} (hs : sCap P T s = some t) (hd : den env s = some v) :
    ∃ u, den env t = some u ∧ (Builtin.cap_ #[T] ty #[v]).run P w = .ok u w := by
  unfold sCap at hs
  split at hs
  · rename_i e hu
    split at hs
    · rename_i n off len c; cases hs
      obtain ⟨b, k, he, rfl⟩ := den_slice hd
      exact ⟨_, rfl, by simp [Builtin.cap_, underlying, hu, goInt, capOf]⟩
    · cases hs
      simp only [den, Option.some.injEq] at hd; subst hd
      exact ⟨_, rfl, by simp [Builtin.cap_, underlying, hu, goInt]⟩
    · cases hs
  · cases hs

/-- What an argument of append gives. -/
structure Gift (P : Program) (w : World) (size : Nat) (D : TypeDesc) (x : Value) (n : Nat) (news : List Value) : Prop where
  kind : (∃ e, D = .slice e) ∨ D = .string
  len : ∀ w', (Builtin.lenOf x).run P w' = .ok n w'
  cells : (Builtin.firstCells size n x).run P w = .ok news.toArray w
  cellsD : (Builtin.firstCells size n x).run P w.drew = .ok news.toArray w.drew

theorem append_in {t t' ty e : TypeId} {i : TypeInfo} {D : TypeDesc} {x : Value} {n : Nat} {news : List Value} (ht : P.underlying t = some (.slice e)) (hi : P.info? e = some i) (hD : P.underlying t' = some D)
    (hg : Gift P w i.size D x n news) {a : Addr} {sl sc : Nat} (hroom : sl + n ≤ sc) {w' : World} (hst : (storeCells (a.add (sl * i.size)) news 0).run P w = .ok () w') :
    (Builtin.append_ #[t, t'] ty #[.slice (some a) sl sc, x]).run P w = .ok (.slice (some a) (sl + n) sc) w' := by
  have h1 := hg.len
  have h2 := hg.cells
  rcases hg.kind with ⟨e', rfl⟩ | rfl <;> simp [Builtin.append_, run_underlying ht, run_underlying hD, sizeOf, typeInfo, hi, h1, hroom, h2, hst]

theorem append_out {t t' ty e : TypeId} {i : TypeInfo} {z : Value} {D : TypeDesc} {x : Value} {n : Nat} {news olds : List Value} (ht : P.underlying t = some (.slice e)) (hi : P.info? e = some i) (hz : i.zero = some z) (hD : P.underlying t' = some D)
    (hg : Gift P w i.size D x n news) {base : Option Addr} {sl sc : Nat} (hold : (Builtin.firstCells i.size sl (.slice base sl sc)).run P w.drew = .ok olds.toArray w.drew)
    (hroom : sc < sl + n) (h63 : sl + n ≤ 9223372036854775807) (hfit : (sl + n) * i.bytes ≤ 140737488355328) :
    (Builtin.append_ #[t, t'] ty #[.slice base sl sc, x]).run P w = .ok (.slice (some ⟨w.heap.size, 0, none⟩) (sl + n) (grownCap w (sl + n) sc e))
      (w.drew.alloc (.cells (olds.toArray ++ news.toArray ++ Builtin.zeroCells z.cells (grownCap w (sl + n) sc e - (sl + n))) e)) := by
  have h1 := hg.len
  have h2 := hg.cellsD
  have hn : ¬ (sl + n ≤ sc) := by omega
  have h63' : ¬ (9223372036854775807 < ((sl : Int) + (n : Int))) := by omega
  have h48 := growslice_fits hroom hfit
  have h48' : ¬ (281474976710656 < Builtin.nextslicecap (sl + n) sc * i.bytes) := by omega
  rcases hg.kind with ⟨e', rfl⟩ | rfl
  · simp [Builtin.append_, run_underlying ht, run_underlying hD, sizeOf, typeInfo, zeroValue, hi, hz, h1, hn, h63', h48', Question.forced, h2, hold, newRow, grownCap]
    congr 2
    apply Array.ext'
    simp [List.append_assoc]
  · simp [Builtin.append_, run_underlying ht, run_underlying hD, sizeOf, typeInfo, zeroValue, hi, hz, h1, hn, h63', h48', Question.forced, h2, hold, newRow, grownCap]
    congr 2
    apply Array.ext'
    simp [List.append_assoc]
end Go.Proofs.YtdkindollljlnabGreatDoor

namespace Go.Proofs.YtdkindollljlnabGreatDoor
open Go Go.RowKit
variable [Known]

variable {P : Program} {w0 : Base} {env : Env} {σ : SH} {w : World}

/-- A block that is there gets a new name. -/
theorem Rel.name {so : SO} {b c : Nat} (h : Rel P w0 env σ w) (hb : ¬ w0.keep b) (ho : ORel P (env.push σ.next b c) w b c so) (hfree : ∀ (n : Nat) o (x : Nat × Nat), σ.get n = some o → env.blocks n = some x → x.1 ≠ b) :
    Rel P w0 (env.push σ.next b c) (σ.push so) w := by
  have hnew := Env.new env σ.next b c
  have hle := h.le_push b c
  have old : ∀ (k : Nat) (x : Nat × Nat), k ≠ σ.next → (env.push σ.next b c).blocks k = some x → env.blocks k = some x := fun k x hk hx => by
    rw [Env.push_ne _ _ _ hk] at hx; exact hx
  refine ⟨h.okay, h.below, rfl, fun n hn => ?_, fun n y hy => ?_, fun n m y z x1 y1 hne hy hz hx1 hy1 => ?_⟩
  · have hn : σ.next + 1 ≤ n := hn
    rw [Env.push_ne _ _ _ (by omega)]; exact h.fresh n (by omega)
  · rcases SH.get_push hy with ⟨rfl, rfl⟩ | ⟨hn, hy⟩
    · exact ⟨_, _, hnew, hb, ho⟩
    · obtain ⟨b', c', h1, h2, h3⟩ := h.obj n y hy
      exact ⟨b', c', hle.some n _ h1, h2, h3.mono hle rfl⟩
  · rcases SH.get_push hy with ⟨rfl, rfl⟩ | ⟨hn, hy'⟩ <;> rcases SH.get_push hz with ⟨rfl, rfl⟩ | ⟨hm, hz'⟩
    · exact absurd rfl hne
    · have := hfree m z y1 hz' (old m y1 hm hy1)
      rw [hnew] at hx1; cases hx1; exact fun e => this e.symm
    · have := hfree n y x1 hy' (old n x1 hn hx1)
      rw [hnew] at hy1; cases hy1; exact this
    · exact h.apart n m y z x1 y1 hne hy' hz' (old n x1 hn hx1) (old m y1 hm hy1)

/-- What an argument of append gives. -/
noncomputable def sGift (P : Program) (σ : SH) (T : TypeId) (size : Nat) (x : SV) : Option (Nat × List SV) := match P.underlying T with
  | some (.slice _) => match x with
    | .slice n off m _ => match σ.get n with
      | some (.cells l _ _) => if off + m * size ≤ (lenR l) then some (m, (dropR l off).take (m * size)) else none
      | _ => none
    | .nils => some (0, [])
    | .zslice _ _ _ _ _ => some (0, [])
    | _ => none
  | some .string => match x with
    | .str l => if size = 1 then some ((lenR l), l.map fun b => .int .u8 (b % 256 : Nat)) else none
    | _ => none
  | _ => none
theorem strCells_den (l : List Nat) : denL env (l.map fun b => SV.int .u8 (b % 256 : Nat)) = some ((bytesOf l).data.toList.map fun b => Value.int .u8 b.toNat) := by
  rw [bytesOf_list]
  induction l with
  | nil => rfl
  | cons x r ih =>
    simp only [List.map_cons] at ih ⊢
    refine denL_mk ?_ ih
    simp only [den]
    simp
theorem sGift_ok (h : Rel P w0 env σ w) {T : TypeId} {size n : Nat} {x : SV} {l : List SV} (hs : sGift P σ T size x = some (n, l)) {v : Value} (hd : den env x = some v) :
    ∃ D news, P.underlying T = some D ∧ denL env l = some news ∧ news.length = n * size ∧ Gift P w size D v n news := by
  unfold sGift at hs
  simp only [lenR_eq, takeR_eq, dropR_eq, appR_eq, allR_eq, mapR_eq] at hs
  split at hs
  · rename_i e hu
    split at hs
    · rename_i k off m c
      split at hs
      · rename_i cl ce ex hn
        split at hs
        · rename_i hle
          simp only [Option.some.injEq, Prod.mk.injEq] at hs
          obtain ⟨rfl, rfl⟩ := hs
          obtain ⟨b, q, he, rfl⟩ := den_slice hd
          obtain ⟨vs, h1, h2, h3⟩ := h.loadCells hn he hle
          obtain ⟨vs', h1', h2', h3'⟩ := h.drew.loadCells hn he hle
          rw [h1] at h1'; cases h1'
          exact ⟨_, vs, hu, h1, h2, ⟨.inl ⟨_, rfl⟩, fun w' => by simp [Builtin.lenOf], by simp only [Builtin.firstCells]; exact h3, by simp only [Builtin.firstCells]; exact h3'⟩⟩
        · cases hs
      · cases hs
    · simp only [Option.some.injEq, Prod.mk.injEq] at hs
      obtain ⟨rfl, rfl⟩ := hs
      simp only [den, Option.some.injEq] at hd; subst hd
      exact ⟨_, [], hu, rfl, by simp, ⟨.inl ⟨_, rfl⟩, fun w' => by simp [Builtin.lenOf], by simp [Builtin.firstCells], by simp [Builtin.firstCells]⟩⟩
    · simp only [Option.some.injEq, Prod.mk.injEq] at hs
      obtain ⟨rfl, rfl⟩ := hs
      obtain ⟨ad, cp, rfl⟩ := den_zslice hd
      exact ⟨_, [], hu, rfl, by simp, ⟨.inl ⟨_, rfl⟩, fun w' => by simp [Builtin.lenOf], by simp [Builtin.firstCells, loadCells, loadCellsFrom], by simp [Builtin.firstCells, loadCells, loadCellsFrom]⟩⟩
    · cases hs
  · rename_i hu
    split at hs
    · rename_i bl
      split at hs
      · rename_i h1; subst h1
        simp only [Option.some.injEq, Prod.mk.injEq] at hs
        obtain ⟨rfl, rfl⟩ := hs
        simp only [den, Option.some.injEq] at hd; subst hd
        have hx : ((bytesOf bl).extract 0 bl.length) = bytesOf bl := by
          rw [bytesOf_extract bl 0 bl.length (Nat.le_refl _)]; simp
        have hf : ∀ w', (Builtin.firstCells 1 bl.length (.string (bytesOf bl))).run P w' = .ok ((bytesOf bl).data.toList.map fun b => Value.int .u8 b.toNat).toArray w' := fun w' => by
          simp only [Builtin.firstCells, hx]
          show Result.ok _ _ = Result.ok _ _
          congr 1
          apply Array.ext'; simp
        refine ⟨_, _, hu, strCells_den bl, ?_, ⟨.inr rfl, fun w' => by simp [Builtin.lenOf, bytesOf_size], hf w, hf w.drew⟩⟩
        rw [List.length_map, bytesOf_list, List.length_map]; omega
      · cases hs
    · cases hs
  · cases hs

/-- The numbers that append asks of. -/
def fits (P : Program) (e : TypeId) (n : Nat) : Bool := match P.info? e with
  | some i => decide (n ≤ 1099511627776) && decide (n * i.bytes ≤ 140737488355328)
  | none => false

noncomputable def sAppendOut (P : Program) (σ : SH) (e : TypeId) (olds news : List SV) (n : Nat) : SR := .val (.slice σ.next 0 n (.rest 0)) (σ.push (.cells (appR olds news) e false))

theorem grown_den (ho : env.ones) (h : Rel P w0 env σ w) {e : TypeId} {i : TypeInfo} {z : Value} {n sc k : Nat} {olds news : List SV} {vo vn : List Value} (hi : P.info? e = some i) (hzs : z.cells.size = i.size)
    (h1 : denL env olds = some vo) (h2 : denL env news = some vn) (hl : (vo ++ vn).length = n * i.size) (hcap : n ≤ grownCap w n sc e) (hm : grownCap w n sc e ≤ maxLen) :
    Rel P w0 (env.push σ.next w.drew.heap.size (grownCap w n sc e)) (σ.push (.cells (olds ++ news) e false)) (w.drew.alloc (.cells (vo.toArray ++ vn.toArray ++ Builtin.zeroCells z.cells (grownCap w n sc e - n)) e)) := by
  have hden := denL_append h1 h2
  refine h.drew.push ⟨_, e, (0, 0), vo ++ vn, heap_alloc_new w.drew _, thawed_zero _, denL_mono (h.le_push _ _) _ _ hden, ?_, (fun hx => by cases hx), fun _ => ⟨?_, hm, rfl⟩⟩
  · simp only [Array.toList_append]
    rw [List.take_append_of_le_length (by simp only [List.length_append, Array.length_toList, List.size_toArray]; rw [← List.length_append, ← denL_length hden, List.length_append]; omega)]
    rw [← denL_length hden]
    exact List.take_of_length_le (Nat.le_refl _)
  · have hc : P.cellsOf e = i.size := by simp [Program.cellsOf, hi]
    rw [hc]
    simp only [Array.size_append, List.size_toArray, size_zeroCells, hzs]
    rw [← List.length_append, hl, ← Nat.add_mul]
    congr 1; omega

noncomputable def sAppend (P : Program) (σ : SH) (T T' : TypeId) (s x : SV) : Option SR := match P.underlying T with
  | some (.slice e) => match ssize P e, szero P e with
    | some z, some zv => if decide (0 < z) && (lenR (cellsS zv)) == z then (match sGift P σ T' z x with
      | some (m, news) => match s with
        | .nils => if m = 0 then some (.val .nils σ) else if fits P e m then some (sAppendOut P σ e [] news m) else none
        | .slice n off len (.lit c) => match σ.get n with
          | some (.cells l e' ex) =>
            if len + m ≤ c then (if decide (off + len * z + (lenR news) ≤ (lenR l)) && (allR oneS news) then some (.val (.slice n off (len + m) (.lit c)) (σ.put n (some (.cells (patch l (off + len * z) news) e' ex)))) else none)
            else if decide (off + len * z ≤ (lenR l)) && fits P e (len + m) then some (sAppendOut P σ e (takeR (dropR l off) (len * z)) news (len + m)) else none
          | _ => none
        | .slice n off len (.rest d) => match σ.get n with
          | some (.cells l e' ex) =>
            if off = 0 ∧ d = 0 ∧ ex = false ∧ (P.cellsOf e' = z ∧ e' = e) ∧ len * z ≤ (lenR l) ∧ (allR oneS news) = true then
              (if (len + m) * z ≤ (lenR l) then some (.val (.slice n 0 (len + m) (.rest 0)) (σ.put n (some (.cells (patch l (len * z) news) e' false))))
               else if fits P e (len + m) then some (sAppendOut P (σ.put n none) e (takeR l (len * z)) news (len + m)) else none)
            else none
          | _ => none
        | _ => none
      | none => none) else none
    | _, _ => none
  | _ => none
end Go.Proofs.YtdkindollljlnabGreatDoor

namespace Go.Proofs.YtdkindollljlnabGreatDoor
open Go Go.RowKit
variable [Known]

variable {P : Program} {w0 : Base} {env : Env} {σ : SH} {w : World}

theorem Rel.setCells (ho : env.ones) (h : Rel P w0 env σ w) {n b c off : Nat} {l news : List SV} {e : TypeId} {ex : Bool} {vs : List Value} (hn : σ.get n = some (.cells l e ex)) (he : env.blocks n = some (b, c))
    (hle : off + news.length ≤ l.length) (hone : news.all oneS = true) (hd : denL env news = some vs) :
    (storeCells ⟨b, off, none⟩ vs 0).run P w = .ok () (w.setCells b off vs) ∧ Rel P w0 env (σ.put n (some (.cells (patch l off news) e ex))) (w.setCells b off vs) := by
  have hlen := denL_length hd
  have h1 := allOne ho hone hd
  obtain ⟨b', c', e1, h2, cur, t, fr, us, g1, g2, g3, g4, g5, g6⟩ := h.obj n _ hn
  rw [he] at e1; cases e1
  have hsz : l.length ≤ cur.size := by
    have := congrArg List.length g4
    rw [List.length_take, denL_length g3] at this
    simp at this; omega
  have hrun := run_storeCells_cells (P := P) b off vs 0 w (fun j hj => by
      rw [Nat.add_zero]
      obtain ⟨x, _, hx, _⟩ := h.cell hn he (List.getElem?_eq_getElem (show off + j < l.length by omega))
      rw [hx]; rfl) (fun j hj => by
      rw [Nat.add_zero]
      obtain ⟨x, _, _, hx⟩ := h.cell hn he (List.getElem?_eq_getElem (show off + j < l.length by omega))
      exact hx) h1
  rw [Nat.add_zero] at hrun
  obtain ⟨cur', q1, q2, q3, q4, q5, q6, q7⟩ := setCells_heap b vs off w cur t fr g1 (by omega)
  have hsize : cur'.size = cur.size := by
    have := congrArg List.length q2
    unfold patchV at this
    simp only [Array.length_toList, List.length_append, List.length_take, List.length_drop] at this
    omega
  refine ⟨hrun, h.put hn he q5 q6 q7 (by omega) (fun k _ hk => q4 k hk) (fun o' ho' => ?_)⟩
  cases ho'
  refine ⟨cur', t, fr, patchV us off vs, q1, by rw [hsize]; exact g2, patch_den g3 hd, ?_, fun hx => ?_, fun hx => ?_⟩
  · rw [patch_length hle, q2, patchV_take (by omega) (by simpa using hsz), g4]
  · rw [hsize, patch_length hle]; exact g5 hx
  · rw [hsize]; exact g6 hx

theorem fits_ok {e : TypeId} {n : Nat} {i : TypeInfo} (h : fits P e n = true) (hi : P.info? e = some i) : n ≤ 1099511627776 ∧ n * i.bytes ≤ 140737488355328 := by
  unfold fits at h
  rw [hi] at h
  simpa using h

theorem sAppend_ok (ho : env.ones) (h : Rel P w0 env σ w) {T T' ty : TypeId} {s x : SV} {r : SR} (hs : sAppend P σ T T' s x = some r) {v u : Value} (hd : den env s = some v) (hx : den env x = some u) :
    ∃ t σ' env' v' w', r = .val t σ' ∧ (Builtin.append_ #[T, T'] ty #[v, u]).run P w = .ok v' w' ∧ env.le env' ∧ Rel P w0 env' σ' w' ∧ den env' t = some v' := by
  unfold sAppend at hs
  simp only [sAppendOut, lenR_eq, takeR_eq, dropR_eq, appR_eq, allR_eq, mapR_eq] at hs
  split at hs
  · rename_i e ht
    split at hs
    · rename_i z zs hz hzs
      split at hs
      · rename_i hc
        simp only [Bool.and_eq_true, decide_eq_true_eq, beq_iff_eq] at hc
        obtain ⟨c1, c2⟩ := hc
        obtain ⟨i, hi, hiz⟩ := ssize_info hz
        obtain ⟨i', zv, hi', hzero, hdz⟩ := szero_info (env := env) hzs
        rw [hi] at hi'; cases hi'
        have hzsz : zv.cells.size = i.size := by
          have := denL_length (cellsS_den ho hdz)
          simp at this; omega
        subst hiz
        split at hs
        · rename_i m news hg
          obtain ⟨D, vn, hD, hdn, hln, gift⟩ := sGift_ok h hg hx
          have hnl := denL_length hdn
          split at hs
          -- nil
          · simp only [den, Option.some.injEq] at hd; subst hd
            split at hs
            · rename_i hm; cases hs; subst hm
              refine ⟨_, _, env, .slice none 0 0, w, rfl, ?_, Env.le_refl _, h, rfl⟩
              have := gift.len
              have hc2 := gift.cells
              rcases gift.kind with ⟨e', rfl⟩ | rfl <;> simp [Builtin.append_, run_underlying ht, run_underlying hD, sizeOf, typeInfo, hi, this, hc2]
            · rename_i hm
              split at hs
              · rename_i hf; cases hs
                obtain ⟨f1, f2⟩ := fits_ok hf hi
                have hrun := append_out (ty := ty) (olds := []) (base := none) (sl := 0) (sc := 0) ht hi hzero hD gift (by simp [Builtin.firstCells]) (by omega) (by omega) (by rw [Nat.zero_add]; exact f2)
                simp only [Nat.zero_add] at hrun
                have hge := grownCap_ge w m 0 e
                have hm2 := grownCap_le_maxLen w m 0 e (by unfold maxLen; omega)
                have hrel := grown_den (k := 0) ho h (olds := []) (vo := []) hi hzsz rfl hdn (by simpa using hln) hge hm2
                exact ⟨_, _, _, _, _, rfl, hrun, h.le_push _ _, hrel, by simp only [den, Env.new, capOf]; rfl⟩
              · cases hs
          -- a known capacity
          · rename_i n off len c
            obtain ⟨b, k, he, rfl⟩ := den_slice hd
            simp only [capOf]
            split at hs
            · rename_i l e' ex hn
              split at hs
              · rename_i hroom
                split at hs
                · rename_i hh; cases hs
                  simp only [Bool.and_eq_true, decide_eq_true_eq] at hh
                  obtain ⟨r1, r2⟩ := h.setCells ho hn he (off := off + len * i.size) hh.1 hh.2 hdn
                  have hrun := append_in (ty := ty) (a := ⟨b, off, none⟩) ht hi hD gift hroom (by rw [add_none]; exact r1)
                  exact ⟨_, _, env, _, _, rfl, hrun, Env.le_refl _, r2, by simp only [den, he, capOf]⟩
                · cases hs
              · rename_i hroom
                split at hs
                · rename_i hh; cases hs
                  simp only [Bool.and_eq_true, decide_eq_true_eq] at hh
                  obtain ⟨f1, f2⟩ := fits_ok hh.2 hi
                  obtain ⟨vo, o1, o2, o3⟩ := h.drew.loadCells hn he hh.1
                  have hrun := append_out (ty := ty) (olds := vo) (base := some ⟨b, off, none⟩) (sl := len) (sc := c) ht hi hzero hD gift (by simp only [Builtin.firstCells]; exact o3) (by omega) (by omega) f2
                  have hge := grownCap_ge w (len + m) c e
                  have hm2 := grownCap_le_maxLen w (len + m) c e (by unfold maxLen; omega)
                  have hrel := grown_den (k := 0) ho h hi hzsz o1 hdn (by rw [List.length_append, o2, hln, Nat.add_mul]) hge hm2
                  exact ⟨_, _, _, _, _, rfl, hrun, h.le_push _ _, hrel, by simp only [den, Env.new, capOf]; rfl⟩
                · cases hs
            · cases hs
          -- an unknown capacity
          · rename_i n off len d
            obtain ⟨b, k, he, rfl⟩ := den_slice hd
            split at hs
            · rename_i l e' ex hn
              split at hs
              · rename_i hh
                obtain ⟨rfl, rfl, rfl, ⟨hcell, hee⟩, hle, hone⟩ := hh
                subst hee
                obtain ⟨b', c', e1, hb, cur, t, fr, us, g1, g2, g3, g4, g5, g6⟩ := h.obj n _ hn
                rw [he] at e1; cases e1
                obtain ⟨s1, s2⟩ := g6 rfl
                rw [hcell] at s1
                have hsz : l.length ≤ cur.size := by
                  have := congrArg List.length g4
                  rw [List.length_take, denL_length g3] at this
                  simp at this; omega
                simp only [capOf, Nat.sub_zero]
                split at hs
                · rename_i hin; cases hs
                  have hroom : len + m ≤ k := by
                    have : (len + m) * i.size ≤ k * i.size := by omega
                    exact Nat.le_of_mul_le_mul_right this c1
                  obtain ⟨r1, r2⟩ := h.setCells ho hn he (off := len * i.size) (by rw [← hnl, hln, ← Nat.add_mul]; exact hin) hone hdn
                  have hrun := append_in (ty := ty) (a := ⟨b, 0, none⟩) ht hi hD gift hroom (by rw [add_none, Nat.zero_add]; exact r1)
                  exact ⟨_, _, env, _, _, rfl, hrun, Env.le_refl _, r2, by simp only [den, he, capOf, Nat.sub_zero]⟩
                · rename_i hin
                  split at hs
                  · rename_i hf; cases hs
                    obtain ⟨f1, f2⟩ := fits_ok hf hi
                    have hkill : Rel P w0 env (σ.put n none) w := h.put hn he rfl rfl rfl (Nat.le_refl _) (fun _ _ _ => rfl) (fun o' ho' => by cases ho')
                    have hfree : ∀ (m : Nat) o (x : Nat × Nat), (σ.put n none).get m = some o → env.blocks m = some x → x.1 ≠ b := fun m o x hm hx => by
                      rcases SH.get_put hm with ⟨_, hm⟩ | ⟨hne, hm⟩
                      · cases hm
                      · exact h.apart m n o _ x (b, k) hne hm hn hx he
                    have hto := denL_take (len * i.size) g3
                    have hlt : (us.take (len * i.size)).length = len * i.size := by rw [List.length_take, denL_length g3]; omega
                    by_cases hroom : len + m ≤ k
                    · -- in place
                      have hst := run_storeCells_cells (P := P) b (len * i.size) vn 0 w (fun j hj => by
                          have : len * i.size + 0 + j < cur.size := by
                            have : (len + m) * i.size ≤ k * i.size := Nat.mul_le_mul_right _ hroom
                            rw [Nat.add_mul] at this; omega
                          rw [Nat.add_zero] at this ⊢
                          simp [World.cell?, g1, this]) (fun j hj => by
                          have : len * i.size + 0 + j < cur.size := by
                            have : (len + m) * i.size ≤ k * i.size := Nat.mul_le_mul_right _ hroom
                            rw [Nat.add_mul] at this; omega
                          simp only [World.frozen?, g1]; exact thawed_at g2 _ this) (allOne ho hone hdn)
                      rw [Nat.add_zero] at hst
                      have hrun := append_in (ty := ty) (a := ⟨b, 0, none⟩) ht hi hD gift hroom (by rw [add_none, Nat.zero_add]; exact hst)
                      have hfitc : len * i.size + vn.length ≤ cur.size := by
                        have : (len + m) * i.size ≤ k * i.size := Nat.mul_le_mul_right _ hroom
                        rw [Nat.add_mul] at this; omega
                      obtain ⟨cur', q1, q2, q3, q4, q5, q6, q7⟩ := setCells_heap b vn (len * i.size) w cur t fr g1 hfitc
                      have hsize : cur'.size = cur.size := by
                        have := congrArg List.length q2
                        unfold patchV at this
                        simp only [Array.length_toList, List.length_append, List.length_take, List.length_drop] at this
                        omega
                      have hk2 : Rel P w0 env (σ.put n none) (w.setCells b (len * i.size) vn) := h.put hn he q5 q6 q7 (by omega) (fun k _ hk => q4 k hk) (fun o' ho' => by cases ho')
                      have hcells : P.cellsOf e' = i.size := by simp [Program.cellsOf, hi]
                      have hden2 := denL_append hto hdn
                      have hnm := hk2.name (so := .cells (l.take (len * i.size) ++ news) e' false) (c := k) hb ⟨cur', t, fr, us.take (len * i.size) ++ vn, q1, by rw [hsize]; exact g2, denL_mono (h.le_push b k) _ _ hden2, by
                        rw [q2, ← denL_length hden2, List.length_append, hlt]
                        unfold patchV
                        have e0 : cur.toList.length = cur.size := Array.length_toList
                        rw [List.take_append_of_le_length (by rw [List.length_append, List.length_take]; omega), List.take_of_length_le (by rw [List.length_append, List.length_take]; omega), ← g4, List.take_take, Nat.min_eq_left hle], (fun hx => by cases hx), fun _ => ⟨by rw [hsize, hcells]; exact s1, s2⟩⟩ hfree
                      exact ⟨_, _, _, _, _, rfl, hrun, h.le_push b k, hnm, by
                        have : (env.push σ.next b k).blocks ((σ.put n none).next) = some (b, k) := Env.new _ _ _ _
                        simp only [den, this, capOf, Nat.sub_zero]⟩
                    · -- grown
                      obtain ⟨vo, o1, o2, o3⟩ := h.drew.loadCells (off := 0) (k := len * i.size) hn he (by omega)
                      simp only [List.drop_zero] at o1
                      rw [hto] at o1; cases o1
                      have hrun := append_out (ty := ty) (olds := us.take (len * i.size)) (base := some ⟨b, 0, none⟩) (sl := len) (sc := k) ht hi hzero hD gift (by simp only [Builtin.firstCells]; exact o3) (by omega) (by omega) f2
                      have hge := grownCap_ge w (len + m) k e'
                      have hm2 := grownCap_le_maxLen w (len + m) k e' (by unfold maxLen; omega)
                      have hrel := grown_den (k := 0) ho hkill hi hzsz hto hdn (by rw [List.length_append, hlt, hln, Nat.add_mul]) hge hm2
                      exact ⟨_, _, _, _, _, rfl, hrun, h.le_push _ _, hrel, by
                        have : (env.push σ.next w.drew.heap.size (grownCap w (len + m) k e')).blocks ((σ.put n none).next) = some (w.drew.heap.size, grownCap w (len + m) k e') := Env.new _ _ _ _
                        simp only [den, this, capOf, Nat.sub_zero]; rfl⟩
                  · cases hs
              · cases hs
            · cases hs
          · cases hs
        · cases hs
      · cases hs
    · cases hs
  · cases hs
end Go.Proofs.YtdkindollljlnabGreatDoor

namespace Go.Proofs.YtdkindollljlnabGreatDoor
open Go Go.RowKit
variable [Known]

variable {P : Program} {w0 : Base} {env : Env} {σ : SH} {w : World}

/-- The bytes of cells. -/
def byteCells : List SV → Option (List Nat)
  | [] => some []
  | .int .u8 n :: r => if 0 ≤ n ∧ n < 256 then (match byteCells r with
    | some l => some (n.toNat :: l)
    | none => none) else none
  | _ => none
theorem byteCells_den : ∀ {l : List SV} {bs : List Nat}, byteCells l = some bs → denL env l = some ((bs.map UInt8.ofNat).map fun b => Value.int .u8 b.toNat) := by
  intro l
  induction l with
  | nil => intro bs h; simp only [byteCells] at h; cases h; rfl
  | cons x r ih =>
    intro bs h
    unfold byteCells at h
    split at h
    · rename_i heq; cases heq
    · rename_i n r' heq
      simp only [List.cons.injEq] at heq
      obtain ⟨rfl, rfl⟩ := heq
      split at h
      · rename_i hb
        split at h
        · rename_i m hm; cases h
          simp only [List.map_cons]
          refine denL_mk ?_ (ih hm)
          simp only [den, Option.some.injEq, Value.int.injEq, true_and]
          simp
          omega
        · cases h
      · cases h
    · cases h

noncomputable def sConvert (P : Program) (σ : SH) (S D : TypeId) (x : SV) : Option SR := match x with
  | .int k n => sPure1 P σ (convert S D) (.int k n)
  | .str l => match P.underlying S, P.underlying D with
    | some .string, some .string => some (.val (.str l) σ)
    | some .string, some (.slice e) => match P.underlying e with
      | some (.int .u8) => if decide (P.cellsOf e = 1) && decide ((lenR l) ≤ 1099511627776) then some (.val (.slice σ.next 0 (lenR l) (.rest 0)) (σ.push (.cells (l.map fun b => .int .u8 (b % 256 : Nat)) e false))) else none
      | _ => none
    | _, _ => none
  | .slice n off len c => match P.underlying S, P.underlying D with
    | some (.slice e), some .string => match P.underlying e with
      | some (.int .u8) => match σ.get n with
        | some (.cells l _ _) => if off + len ≤ (lenR l) then (match byteCells (takeR (dropR l off) len) with
            | some bs => some (.val (.str bs) σ)
            | none => none) else none
        | _ => none
      | _ => none
    | _, _ => none
  | .nils => match P.underlying S, P.underlying D with
    | some (.slice e), some .string => match P.underlying e with
      | some (.int .u8) => some (.val (.str []) σ)
      | _ => none
    | _, _ => none
  | _ => none
theorem sConvert_ok (h : Rel P w0 env σ w) {S D : TypeId} {x : Operand} {a : SV} {r : SR} (hs : sConvert P σ S D a = some r) {ρ : Operand → Value} (hd : den env a = some (ρ x)) (d : Option Tmp) (ty : TypeId) (pos : String) (af : Array Edge) (g : Option (Nat × Bool)) :
    Outcome P w0 env ((execOp ρ ⟨d, .convert S D x, ty, pos, af, g⟩).run P w) r := by
  unfold sConvert at hs
  simp only [lenR_eq, takeR_eq, dropR_eq, appR_eq, allR_eq, mapR_eq] at hs
  split at hs
  · exact sConv_ok h hs hd d ty pos af g
  · rename_i l
    simp only [den, Option.some.injEq] at hd
    split at hs
    · rename_i h1 h2; cases hs
      refine .same (v := .string (bytesOf l)) ?_ h rfl
      simp [execOp, convert, run_underlying h1, run_underlying h2, ← hd]
    · rename_i e h1 h2
      split at hs
      · rename_i he
        split at hs
        · rename_i hc; cases hs
          simp only [Bool.and_eq_true, decide_eq_true_eq] at hc
          have hrun := run_bytes_of_string w S D e (bytesOf l) h1 h2 he
          rw [bytesOf_size] at hrun
          have hge := grownCap_ge w l.length 0 e
          have hm := grownCap_le_maxLen w l.length 0 e (by unfold maxLen; omega)
          have hsz : (bytesRow (bytesOf l) (grownCap w l.length 0 e)).size = grownCap w l.length 0 e := by
            unfold bytesRow
            have : (bytesOf l).data.size = l.length := bytesOf_size l
            simp [this, bytesOf_size]; omega
          have hrel : Rel P w0 (env.push σ.next w.drew.heap.size (grownCap w l.length 0 e)) (σ.push (.cells (l.map fun b => .int .u8 (b % 256 : Nat)) e false)) (w.drew.alloc (.cells (bytesRow (bytesOf l) (grownCap w l.length 0 e)) e ((bytesRow (bytesOf l) (grownCap w l.length 0 e)).size, (bytesRow (bytesOf l) (grownCap w l.length 0 e)).size + 1))) := by
            refine h.drew.push ⟨_, e, _, _, heap_alloc_new w.drew _, ?_, strCells_den l, ?_, (fun hx => by cases hx), fun _ => ⟨by rw [hsz, hc.1]; omega, hm, rfl⟩⟩
            · exact .inr (Nat.le_refl _)
            · unfold bytesRow
              have : (bytesOf l).data.size = l.length := bytesOf_size l
              rw [Array.toList_append, List.take_append_of_le_length (by simp [this]), List.take_of_length_le (by simp [this])]
              simp
          exact ⟨_, _, _, .inl (by simp only [execOp, Sem.run_bind, ← hd, hrun]; rfl), h.le_push _ _, hrel, by simp only [den, Env.new, capOf]; rfl⟩
        · cases hs
      · cases hs
    · cases hs
  · rename_i n off len c
    split at hs
    · rename_i e h1 h2
      split at hs
      · rename_i he
        split at hs
        · rename_i l e' ex hn
          split at hs
          · rename_i hle
            split at hs
            · rename_i bs hb; cases hs
              obtain ⟨b, k, hbk, hv⟩ := den_slice hd
              obtain ⟨vs, q1, q2, q3⟩ := h.loadCells hn hbk hle
              have q1' := byteCells_den (env := env) hb
              rw [q1'] at q1; cases q1
              have hbl : (bs.map UInt8.ofNat).length = len := by simpa using q2
              have hrun := run_convert_bytes_back (P := P) w S D e ⟨b, off, none⟩ (capOf k c) (bs.map UInt8.ofNat) h1 he h2 (fun j hj => by
                rw [add_none]
                have hj2 : j < len := by omega
                obtain ⟨v, d1, d2, _⟩ := h.cell hn hbk (List.getElem?_eq_getElem (show off + j < l.length by omega))
                rw [d2]
                obtain ⟨v', e1, e2⟩ := denL_get q1' (i := j) (s := l[off + j]) (by rw [List.getElem?_take, if_pos hj2, List.getElem?_drop]; exact List.getElem?_eq_getElem (by omega))
                rw [e2] at d1; cases d1
                rw [← e1, List.getElem?_map, List.getElem?_eq_getElem hj]
                rfl)
              rw [hbl] at hrun
              refine .same (v := .string ⟨(bs.map UInt8.ofNat).toArray⟩) ?_ h rfl
              simp only [execOp, Sem.run_bind, hv, hrun]; rfl
            · cases hs
          · cases hs
        · cases hs
      · cases hs
    · cases hs
  · split at hs
    · rename_i e h1 h2
      split at hs
      · rename_i he; cases hs
        simp only [den, Option.some.injEq] at hd
        have hrun := run_convert_bytes_string w S D e none 0 0 h1 he h2
        refine .same (v := .string (bytesOf [])) ?_ h rfl
        simp only [execOp, Sem.run_bind, ← hd, hrun]
        simp [Conv.bytesToString]; rfl
      · cases hs
    · cases hs
  · cases hs

/-- Written-out values without addresses. -/
def flatC : SV → Option Value
  | .int k n => some (.int k n)
  | .bool b => some (.bool b)
  | .str l => some (.string (bytesOf l))
  | _ => none
def flatL : List SV → Option (List Value)
  | [] => some []
  | x :: r => match flatC x, flatL r with
    | some a, some b => some (a :: b)
    | _, _ => none
theorem flatL_den : ∀ {l : List SV} {vs : List Value}, flatL l = some vs → denL env l = some vs := by
  intro l
  induction l with
  | nil => intro vs h; simp only [flatL] at h; cases h; rfl
  | cons x r ih =>
    intro vs h
    simp only [flatL] at h
    cases h1 : flatC x with
    | none => rw [h1] at h; cases h
    | some a =>
      cases h2 : flatL r with
      | none => rw [h1, h2] at h; cases h
      | some b =>
        rw [h1, h2] at h; cases h
        refine denL_mk ?_ (ih h2)
        cases x <;> simp only [flatC] at h1 <;> first | (cases h1; done) | (cases h1; rfl)

def eqLit : Lit → Lit → Option Bool
  | .bool a, .bool b => some (a == b)
  | .int k a, .int k' b => some (decide (k = k') && decide (a = b))
  | .string a, .string b => some (a == b)
  | _, _ => none
theorem eqLit_ok {a b : Lit} {t : Bool} (h : eqLit a b = some t) : t = true ↔ a = b := by
  unfold eqLit at h
  split at h <;> first | (cases h; done) | (cases h; simp)
def eqLits : List Lit → List Lit → Option Bool
  | [], [] => some true
  | a :: r, b :: s => match eqLit a b, eqLits r s with
    | some x, some y => some (x && y)
    | _, _ => none
  | _, _ => none
theorem eqLits_ok : ∀ {a b : List Lit} {t : Bool}, eqLits a b = some t → (t = true ↔ a = b) := by
  intro a
  induction a with
  | nil =>
    intro b t h
    cases b with
    | nil => simp only [eqLits] at h; cases h; simp
    | cons y s => simp only [eqLits] at h; cases h
  | cons x r ih =>
    intro b t h
    cases b with
    | nil => simp only [eqLits] at h; cases h
    | cons y s =>
      simp only [eqLits] at h
      cases h1 : eqLit x y with
      | none => rw [h1] at h; cases h
      | some p =>
        cases h2 : eqLits r s with
        | none => rw [h1, h2] at h; cases h
        | some q =>
          rw [h1, h2] at h; cases h
          rw [Bool.and_eq_true, eqLit_ok h1, ih h2]
          simp
/-- Two structs or arrays without addresses: are they one? -/
noncomputable def sEqAgg (P : Program) (T : TypeId) (a b : List SV) : Option Bool := match flatL a, flatL b with
  | some x, some y => if P.keyTypeAt 8 T && (Value.agg x.toArray).formed P T && (Value.agg y.toArray).formed P T then (match P.keyLits 8 T x, P.keyLits 8 T y with
    | some la, some lb => eqLits la lb
    | _, _ => none) else none
  | _, _ => none
theorem sEqAgg_ok {T : TypeId} {a b : List SV} {t : Bool} (hs : sEqAgg P T a b = some t) {x y : List Value} (hx : denL env a = some x) (hy : denL env b = some y) (w : World) :
    (Op.equalIn 10000 T (.agg x.toArray) (.agg y.toArray)).run P w = .ok t w := by
  unfold sEqAgg at hs
  split at hs
  · rename_i x' y' h1 h2
    rw [flatL_den h1] at hx; cases hx
    rw [flatL_den h2] at hy; cases hy
    split at hs
    · rename_i hc
      simp only [Bool.and_eq_true] at hc
      obtain ⟨⟨c1, c2⟩, c3⟩ := hc
      split at hs
      · rename_i la lb g1 g2
        obtain ⟨r, hr, hiff⟩ := run_equalIn_deep 9992 8 T c1 w 8 8 (.agg x.toArray) (.agg y.toArray) la lb c2 c3 (by simpa [Value.cells] using g1) (by simpa [Value.cells] using g2)
        have hs := eqLits_ok hs
        have : r = t := by
          rw [Bool.eq_iff_iff, hiff, hs]
        rw [← this]; exact hr
      · cases hs
    · cases hs
  · cases hs
end Go.Proofs.YtdkindollljlnabGreatDoor

namespace Go.Proofs.YtdkindollljlnabGreatDoor
open Go Go.RowKit
variable [Known]

variable {P : Program} {w0 : Base} {env : Env} {σ : SH} {w : World}


section
variable {T e e' e3 : TypeId}
theorem eqIn_p1 (d : Nat) (hu : P.underlying T = some (.pointer e)) (b : Option Addr) (w : World) : (Op.equalIn (d + 1) T (.pointer none) (.pointer b)).run P w = .ok b.isNone w := by cases b <;> simp [Op.equalIn, run_underlying hu]
theorem eqIn_p2 (d : Nat) (hu : P.underlying T = some (.pointer e)) (a : Addr) (w : World) : (Op.equalIn (d + 1) T (.pointer (some a)) (.pointer none)).run P w = .ok false w := by simp [Op.equalIn, run_underlying hu]
theorem eqIn_s (d : Nat) (hu : P.underlying T = some (.slice e)) (a : Option Addr) (n c : Nat) (w : World) : (Op.equalIn (d + 1) T (.slice a n c) (.slice none 0 0)).run P w = .ok a.isNone w := by cases a <;> simp [Op.equalIn, run_underlying hu]
theorem eqIn_m (d : Nat) (hu : P.underlying T = some (.map e e')) (a : Option Nat) (w : World) : (Op.equalIn (d + 1) T (.map a) (.map none)).run P w = .ok a.isNone w := by cases a <;> simp [Op.equalIn, run_underlying hu]
theorem eqIn_i1 {ms : Array (String × TypeId)} (d : Nat) (hu : P.underlying T = some (.interface ms)) (w : World) : (Op.equalIn (d + 1) T .nilIface .nilIface).run P w = .ok true w := by simp [Op.equalIn, run_underlying hu]
theorem eqIn_i2 {ms : Array (String × TypeId)} (d : Nat) (hu : P.underlying T = some (.interface ms)) (t : TypeId) (v : Value) (w : World) : (Op.equalIn (d + 1) T (.iface t v) .nilIface).run P w = .ok false w := by simp [Op.equalIn, run_underlying hu]
theorem eqIn_i3 {ms : Array (String × TypeId)} (d : Nat) (hu : P.underlying T = some (.interface ms)) (t : TypeId) (v : Value) (w : World) : (Op.equalIn (d + 1) T .nilIface (.iface t v)).run P w = .ok false w := by simp [Op.equalIn, run_underlying hu]
end

def isConst : Operand → Bool
  | .const _ => true
  | _ => false
/-- A value against a nil. -/
noncomputable def sNilEq (P : Program) (T : TypeId) (x y : Operand) (a b : SV) : Option Bool := match P.underlying T with
  | some (.pointer _) => match a, b with
    | .nilp, .nilp => some true
    | .ptr _ _, .nilp => some false
    | .nilp, .ptr _ _ => some false
    | _, _ => none
  | some (.slice _) => match a, b with
    | .nils, .nils => some true
    | .slice _ _ _ _, .nils => some false
    | .zslice _ _ _ _ _, .nils => some false
    | _, _ => none
  | some (.map _ _) => match a, b with
    | .nilm, .nilm => some true
    | .map _, .nilm => some false
    | _, _ => none
  | some (.interface _) => match a, b with
    | .nili, .nili => if isConst x || isConst y then some true else none
    | .iface _ _, .nili => some false
    | .nili, .iface _ _ => some false
    | _, _ => none
  | _ => none

theorem sNilEq_ok {T : TypeId} {x y : Operand} {a b : SV} {t : Bool} (hs : sNilEq P T x y a b = some t) {u v : Value} (h1 : den env a = some u) (h2 : den env b = some v) (w : World) :
    (∀ op, (op = .eql ∨ op = .neq) → (eqGuard op T x y u v).run P w = .ok () w) ∧ (binOp .eql T u v).run P w = .ok (.bool t) w ∧ (binOp .neq T u v).run P w = .ok (.bool !t) w := by
  have key : ∀ {u v : Value} {t : Bool}, (Op.equalIn (9999 + 1) T u v).run P w = .ok t w → (binOp .eql T u v = (do pure (.bool (← Op.equal T u v)))) → (binOp .neq T u v = (do pure (.bool (!(← Op.equal T u v))))) → (binOp .eql T u v).run P w = .ok (.bool t) w ∧ (binOp .neq T u v).run P w = .ok (.bool !t) w := fun h h1 h2 => by
    have h : (Op.equal _ _ _).run P w = _ := h
    rw [h1, h2]
    simp only [Sem.run_bind, h, Result.andThen_ok]
    exact ⟨rfl, rfl⟩
  unfold sNilEq at hs
  split at hs
  · rename_i e hu
    split at hs
    · cases hs; simp only [den, Option.some.injEq] at h1 h2; subst h1; subst h2
      exact ⟨fun op ho => by rcases ho with rfl | rfl <;> simp [eqGuard], key (eqIn_p1 9999 hu none w) rfl rfl⟩
    · cases hs; obtain ⟨q, k, _, rfl⟩ := den_ptr h1; simp only [den, Option.some.injEq] at h2; subst h2
      exact ⟨fun op ho => by rcases ho with rfl | rfl <;> simp [eqGuard], key (eqIn_p2 9999 hu ⟨q, _, none⟩ w) rfl rfl⟩
    · cases hs; obtain ⟨q, k, _, rfl⟩ := den_ptr h2; simp only [den, Option.some.injEq] at h1; subst h1
      exact ⟨fun op ho => by rcases ho with rfl | rfl <;> simp [eqGuard], key (eqIn_p1 9999 hu (some ⟨q, _, none⟩) w) rfl rfl⟩
    · cases hs
  · rename_i e hu
    split at hs
    · cases hs; simp only [den, Option.some.injEq] at h1 h2; subst h1; subst h2
      exact ⟨fun op ho => by rcases ho with rfl | rfl <;> simp [eqGuard], key (eqIn_s 9999 hu none 0 0 w) rfl rfl⟩
    · cases hs; obtain ⟨q, k, _, rfl⟩ := den_slice h1; simp only [den, Option.some.injEq] at h2; subst h2
      exact ⟨fun op ho => by rcases ho with rfl | rfl <;> simp [eqGuard], key (eqIn_s 9999 hu (some ⟨q, _, none⟩) _ (capOf k _) w) rfl rfl⟩
    · cases hs; obtain ⟨ad, cp, rfl⟩ := den_zslice h1; simp only [den, Option.some.injEq] at h2; subst h2
      exact ⟨fun op ho => by rcases ho with rfl | rfl <;> simp [eqGuard], key (eqIn_s 9999 hu (some ad) _ cp w) rfl rfl⟩
    · cases hs
  · rename_i e e' hu
    split at hs
    · cases hs; simp only [den, Option.some.injEq] at h1 h2; subst h1; subst h2
      exact ⟨fun op ho => by rcases ho with rfl | rfl <;> simp [eqGuard], key (eqIn_m 9999 hu none w) rfl rfl⟩
    · cases hs; obtain ⟨q, k, _, rfl⟩ := den_map h1; simp only [den, Option.some.injEq] at h2; subst h2
      exact ⟨fun op ho => by rcases ho with rfl | rfl <;> simp [eqGuard], key (eqIn_m 9999 hu (some q) w) rfl rfl⟩
    · cases hs
  · rename_i ms hu
    split at hs
    · split at hs
      · rename_i hc; cases hs; simp only [den, Option.some.injEq] at h1 h2; subst h1; subst h2
        have := key (eqIn_i1 9999 hu w) rfl rfl
        refine ⟨fun op ho => ?_, this⟩
        · have hc' : (match x with | .const _ => true | _ => false) = true ∨ (match y with | .const _ => true | _ => false) = true := by
            rw [Bool.or_eq_true] at hc
            rcases hc with hc | hc
            · left; cases x <;> simp_all [isConst]
            · right; cases y <;> simp_all [isConst]
          rcases ho with rfl | rfl <;> rcases hc' with hc' | hc' <;> (cases x <;> cases y <;> simp_all [eqGuard])
      · cases hs
    · cases hs; obtain ⟨q, _, rfl⟩ := den_iface h1; simp only [den, Option.some.injEq] at h2; subst h2
      exact ⟨fun op ho => by rcases ho with rfl | rfl <;> simp [eqGuard], key (eqIn_i2 9999 hu _ q w) rfl rfl⟩
    · cases hs; obtain ⟨q, _, rfl⟩ := den_iface h2; simp only [den, Option.some.injEq] at h1; subst h1
      exact ⟨fun op ho => by rcases ho with rfl | rfl <;> simp [eqGuard], key (eqIn_i3 9999 hu _ q w) rfl rfl⟩
    · cases hs
  · cases hs

/-- A binary operation, nils and aggregates too. -/
noncomputable def sBinary (P : Program) (σ : SH) (op : BinOp) (T : TypeId) (x y : Operand) (a b : SV) : Option SR := match op with
  | .eql => match a, b with
    | .agg l, .agg m => if P.eqGuardType P.depth T then none else (match sEqAgg P T l m with
      | some t => some (.val (.bool t) σ)
      | none => none)
    | a, b => match sNilEq P T x y a b with
      | some t => some (.val (.bool t) σ)
      | none => sBin P σ .eql T x y a b
  | .neq => match a, b with
    | .agg l, .agg m => if P.eqGuardType P.depth T then none else (match sEqAgg P T l m with
      | some t => some (.val (.bool !t) σ)
      | none => none)
    | a, b => match sNilEq P T x y a b with
      | some t => some (.val (.bool !t) σ)
      | none => sBin P σ .neq T x y a b
  | op => sBin P σ op T x y a b
theorem sBinary_ok (h : Rel P w0 env σ w) {op : BinOp} {T B : TypeId} {x y : Operand} {a b : SV} {r : SR} (hs : sBinary P σ op T x y a b = some r) {ρ : Operand → Value} (h1 : den env a = some (ρ x)) (h2 : den env b = some (ρ y)) (d : Option Tmp) (ty : TypeId) (pos : String) (af : Array Edge) (g : Option (Nat × Bool)) :
    Outcome P w0 env ((execOp ρ ⟨d, .binOp op T x y B, ty, pos, af, g⟩).run P w) r := by
  unfold sBinary at hs
  split at hs
  · split at hs
    · rename_i l m
      split at hs
      · cases hs
      · rename_i hg
        split at hs
        · rename_i t ht; cases hs
          obtain ⟨u, hu, e1⟩ := den_agg h1
          obtain ⟨v, hv, e2⟩ := den_agg h2
          have hq := sEqAgg_ok ht hu hv w
          refine .same (v := .bool t) ?_ h rfl
          simp only [execOp, e1, e2, Sem.run_bind, run_eqGuard_agg w .eql T x y _ _ (by simpa using hg), Result.andThen_ok, run_eql_struct w T, hq]
          rfl
        · cases hs
    · split at hs
      · rename_i t ht; cases hs
        obtain ⟨k1, k2, k3⟩ := sNilEq_ok ht h1 h2 w
        refine .same (v := .bool t) ?_ h rfl
        simp only [execOp, Sem.run_bind, k1 .eql (.inl rfl), Result.andThen_ok, k2]
        rfl
      · exact sBin_ok h hs h1 h2 d ty pos af g
  · split at hs
    · rename_i l m
      split at hs
      · cases hs
      · rename_i hg
        split at hs
        · rename_i t ht; cases hs
          obtain ⟨u, hu, e1⟩ := den_agg h1
          obtain ⟨v, hv, e2⟩ := den_agg h2
          have hq := sEqAgg_ok ht hu hv w
          refine .same (v := .bool !t) ?_ h rfl
          simp only [execOp, e1, e2, Sem.run_bind, run_eqGuard_agg w .neq T x y _ _ (by simpa using hg), Result.andThen_ok, run_neq_struct w T, hq]
          rfl
        · cases hs
    · split at hs
      · rename_i t ht; cases hs
        obtain ⟨k1, k2, k3⟩ := sNilEq_ok ht h1 h2 w
        refine .same (v := .bool !t) ?_ h rfl
        simp only [execOp, Sem.run_bind, k1 .neq (.inr rfl), Result.andThen_ok, k3]
        rfl
      · exact sBin_ok h hs h1 h2 d ty pos af g
  · exact sBin_ok h hs h1 h2 d ty pos af g
end Go.Proofs.YtdkindollljlnabGreatDoor

namespace Go.Proofs.YtdkindollljlnabGreatDoor
open Go Go.RowKit
variable [Known]

variable {P : Program} {w0 : Base} {env : Env} {σ : SH} {w : World}

noncomputable def sMakeSlice (P : Program) (σ : SH) (T : TypeId) (a b : SV) : Option SR := match a, b with
  | .int _ l, .int _ c => match P.underlying T with
    | some (.slice e) => match ssize P e, szero P e with
      | some z, some zs => if decide (0 < z) && (cellsS zs).length == z && decide (0 ≤ l) && decide (l ≤ c) && fits P e c.toNat then
          some (.val (.slice σ.next 0 l.toNat (.lit c.toNat)) (σ.push (.cells (sZeros (cellsS zs) c.toNat) e true))) else none
      | _, _ => none
    | _ => none
  | _, _ => none
theorem sMakeSlice_ok (ho : env.ones) (h : Rel P w0 env σ w) {T : TypeId} {a b : SV} {r : SR} (hs : sMakeSlice P σ T a b = some r) {x y : Operand} {ρ : Operand → Value} (h1 : den env a = some (ρ x)) (h2 : den env b = some (ρ y)) (d : Option Tmp) (ty : TypeId) (pos : String) (af : Array Edge) (g : Option (Nat × Bool)) :
    Outcome P w0 env ((execOp ρ ⟨d, .makeSlice T x y, ty, pos, af, g⟩).run P w) r := by
  unfold sMakeSlice at hs
  split at hs
  · rename_i kl l kc c
    simp only [den, Option.some.injEq] at h1 h2
    split at hs
    · rename_i e hu
      split at hs
      · rename_i z zs hz hzs
        split at hs
        · rename_i hc; cases hs
          simp only [Bool.and_eq_true, decide_eq_true_eq, beq_iff_eq] at hc
          obtain ⟨⟨⟨⟨c1, c2⟩, c3⟩, c4⟩, c5⟩ := hc
          obtain ⟨i, hi, hiz⟩ := ssize_info hz
          obtain ⟨i', zv, hi', hzero, hdz⟩ := szero_info (env := env) hzs
          rw [hi] at hi'; cases hi'
          subst hiz
          have hzc := cellsS_den ho hdz
          have hzsz : zv.cells.size = i.size := by have := denL_length hzc; simp at this; omega
          have hf : c.toNat ≤ 1099511627776 ∧ c.toNat * i.bytes ≤ 140737488355328 := by
            unfold fits at c5; rw [hi] at c5; simpa using c5
          have hrep := sZeros_den hzc c.toNat
          rw [← zeros_list zv.cells (by omega) c.toNat] at hrep
          obtain ⟨r1, r2⟩ := h.alloc ho e 0 hrep
          have hb : (i.bytes : Int) * c ≤ 281474976710656 := by
            have e1 : c = ((c.toNat : Nat) : Int) := by omega
            rw [e1]
            have : (i.bytes : Int) * ((c.toNat : Nat) : Int) = ((c.toNat * i.bytes : Nat) : Int) := by rw [Int.natCast_mul, Int.mul_comm]
            rw [this]; omega
          have hrun := run_make w T e i zv hu hi hzero kl kc l c c3 c4 hb (by omega)
          refine ⟨_, .slice (some ⟨w.heap.size, 0, none⟩) l.toNat c.toNat, _, .inl ?_, h.le_push w.heap.size 0, r1, by simp only [den, r2, capOf]⟩
          rw [hzsz]
          simp only [execOp, ← h1, ← h2, Sem.run_bind, hrun, Result.andThen_ok, madeCells, hzsz, Array.toArray_toList]
          rfl
        · cases hs
      · cases hs
    · cases hs
  · cases hs

noncomputable def sAssert (P : Program) (σ : SH) (A : TypeId) (ok : Bool) (x : SV) : Option SR := match x with
  | .iface t v => match P.underlying A with
    | some (.interface want) => match P.info? t with
      | some i => match Instr.missingMethod want i.methods with
        | none => some (.val (if ok then .tuple [.iface t v, .bool true] else .iface t v) σ)
        | some _ => if ok then (match szero P A with
          | some z => some (.val (.tuple [z, .bool false]) σ)
          | none => none) else none
      | none => none
    | some _ => if t = A then some (.val (if ok then .tuple [v, .bool true] else v) σ) else if ok then (match szero P A with
        | some z => some (.val (.tuple [z, .bool false]) σ)
        | none => none) else none
    | none => none
  | .nili => if ok then (match P.underlying A, szero P A with
    | some _, some z => some (.val (.tuple [z, .bool false]) σ)
    | _, _ => none) else none
  | _ => none
theorem den_pair {s t : SV} {u v : Value} (h1 : den env s = some u) (h2 : den env t = some v) : den env (.tuple [s, t]) = some (.tuple #[u, v]) := by
  simp only [den, denL, h1, h2]
theorem sAssert_ok (h : Rel P w0 env σ w) {X A : TypeId} {ok : Bool} {s : SV} {r : SR} (hs : sAssert P σ A ok s = some r) {x : Operand} {ρ : Operand → Value} (hd : den env s = some (ρ x)) (d : Option Tmp) (ty : TypeId) (pos : String) (af : Array Edge) (g : Option (Nat × Bool)) :
    Outcome P w0 env ((execOp ρ ⟨d, .typeAssert x X A ok, ty, pos, af, g⟩).run P w) r := by
  unfold sAssert at hs
  split at hs
  · rename_i t v
    obtain ⟨u, hu, hv⟩ := den_iface hd
    split at hs
    · rename_i want hA
      split at hs
      · rename_i i hi
        split at hs
        · rename_i hm; cases hs
          cases ok with
          | true => exact .same (v := .tuple #[.iface t u, .bool true]) (by simp [execOp, Instr.typeAssert, run_underlying hA, hv, typeInfo, hi, hm]) h (den_pair (hv ▸ hd) rfl)
          | false => exact .same (v := .iface t u) (by simp [execOp, Instr.typeAssert, run_underlying hA, hv, typeInfo, hi, hm]) h (hv ▸ hd)
        · rename_i m hm
          split at hs
          · rename_i hok; subst hok
            split at hs
            · rename_i z hz; cases hs
              obtain ⟨zv, hdz, hzr⟩ := szero_ok (env := env) hz
              exact .same (v := .tuple #[zv, .bool false]) (by simp [execOp, Instr.typeAssert, run_underlying hA, hv, typeInfo, hi, hm, hzr]) h (den_pair hdz rfl)
            · cases hs
          · cases hs
      · cases hs
    · rename_i D hD hA
      split at hs
      · rename_i htA; cases hs; subst htA
        cases ok with
        | true =>
          refine .same (v := .tuple #[u, .bool true]) ?_ h (den_pair hu rfl)
          cases D <;> first | (exact absurd rfl (hD _)) | simp [execOp, Instr.typeAssert, run_underlying hA, hv]
        | false =>
          refine .same (v := u) ?_ h hu
          cases D <;> first | (exact absurd rfl (hD _)) | simp [execOp, Instr.typeAssert, run_underlying hA, hv]
      · rename_i htA
        split at hs
        · rename_i hok; subst hok
          split at hs
          · rename_i z hz; cases hs
            obtain ⟨zv, hdz, hzr⟩ := szero_ok (env := env) hz
            refine .same (v := .tuple #[zv, .bool false]) ?_ h (den_pair hdz rfl)
            cases D <;> first | (exact absurd rfl (hD _)) | simp [execOp, Instr.typeAssert, run_underlying hA, hv, htA, hzr]
          · cases hs
        · cases hs
    · cases hs
  · split at hs
    · rename_i hok; subst hok
      split at hs
      · rename_i D z hA hz; cases hs
        simp only [den, Option.some.injEq] at hd
        obtain ⟨zv, hdz, hzr⟩ := szero_ok (env := env) hz
        refine .same (v := .tuple #[zv, .bool false]) ?_ h (den_pair hdz rfl)
        cases D <;> simp [execOp, Instr.typeAssert, run_underlying hA, ← hd, hzr]
      · cases hs
    · cases hs
  · cases hs
end Go.Proofs.YtdkindollljlnabGreatDoor

namespace Go.Proofs.YtdkindollljlnabGreatDoor
open Go Go.RowKit
variable [Known]

variable {P : Program} {w0 : Base} {env : Env} {σ : SH} {w : World}

/-- Where a key stands. -/
noncomputable def sFind (P : Program) (kt : TypeId) (k : List SV) : List (SV × SV) → Nat → Option (Option (Nat × SV))
  | [], _ => some none
  | (.agg l, v) :: r, i => match sEqAgg P kt k l with
    | some true => some (some (i, v))
    | some false => sFind P kt k r (i + 1)
    | none => none
  | _ :: _, _ => none
theorem sFind_ok {kt : TypeId} {k : List SV} {kv : List Value} (hk : denL env k = some kv) : ∀ (es : List (SV × SV)) (ents : List MapEntry) (i : Nat) (res : Option (Nat × SV)), sFind P kt k es i = some res →
    denL env (es.map (·.1)) = some (ents.map (·.key)) → denL env (es.map (·.2)) = some (ents.map (·.val)) →
    match res with
    | none => (Instr.findAsking kt (.agg kv.toArray) ents i).run P w = .ok none w
    | some (j, s) => ∃ v, den env s = some v ∧ (Instr.findAsking kt (.agg kv.toArray) ents i).run P w = .ok (some (j, v)) w := by
  intro es
  induction es with
  | nil =>
    intro ents i res h h1 h2
    simp only [sFind] at h; cases h
    have : ents = [] := by
      have := denL_length h1
      simpa using this
    subst this
    simp [Instr.findAsking]
  | cons x r ih =>
    intro ents i res h h1 h2
    obtain ⟨ks, vs⟩ := x
    cases ents with
    | nil => have := denL_length h1; simp at this
    | cons e er =>
      simp only [List.map_cons] at h1 h2
      obtain ⟨a, b, d1, d2, e1⟩ := denL_cons h1
      obtain ⟨a', b', d1', d2', e1'⟩ := denL_cons h2
      simp only [List.cons.injEq] at e1 e1'
      obtain ⟨rfl, rfl⟩ := e1
      obtain ⟨rfl, rfl⟩ := e1'
      unfold sFind at h
      split at h
      · rename_i heq; cases heq
      · rename_i l v r' heq
        simp only [List.cons.injEq, Prod.mk.injEq] at heq
        obtain ⟨⟨rfl, rfl⟩, rfl⟩ := heq
        obtain ⟨lv, hl, hkey⟩ := den_agg d1
        split at h
        · rename_i ht; cases h
          have hq := sEqAgg_ok ht hk hl w
          rw [← hkey] at hq
          have hq : (Op.equal kt (.agg kv.toArray) e.key).run P w = .ok true w := hq
          exact ⟨_, d1', by simp [Instr.findAsking, hq]⟩
        · rename_i ht
          have hq := sEqAgg_ok ht hk hl w
          rw [← hkey] at hq
          have hq : (Op.equal kt (.agg kv.toArray) e.key).run P w = .ok false w := hq
          have := ih er _ res h d2 d2'
          cases res with
          | none => simpa [Instr.findAsking, hq] using this
          | some js =>
            obtain ⟨j, s⟩ := js
            obtain ⟨v', hv', hrun⟩ := this
            exact ⟨v', hv', by simpa [Instr.findAsking, hq] using hrun⟩
        · cases h
      · cases h

/-- Is it a key that maps of this type take? -/
noncomputable def sKeyOk (P : Program) (kt : TypeId) (k : List SV) : Bool := match flatL k with
  | some x => P.keyTypeAt 8 kt && (Value.agg x.toArray).formed P kt && (P.keyLits 8 kt x).isSome && (match P.underlying kt with | some (.array _ _) | some (.struct _) => true | _ => false)
  | none => false
theorem sKeyOk_ok {kt : TypeId} {k : List SV} (hs : sKeyOk P kt k = true) {kv : List Value} (hk : denL env k = some kv) (em : Bool) (w : World) :
    (Instr.checkKey em 10000 kt (.agg kv.toArray)).run P w = .ok () w ∧ ∀ es, (Instr.findKey kt (.agg kv.toArray) es).run P w = (Instr.findAsking kt (.agg kv.toArray) es).run P w := by
  unfold sKeyOk at hs
  split at hs
  · rename_i x hx
    rw [flatL_den hx] at hk; cases hk
    simp only [Bool.and_eq_true] at hs
    obtain ⟨⟨⟨h1, h2⟩, h3⟩, h4⟩ := hs
    obtain ⟨la, hla⟩ := Option.isSome_iff_exists.1 h3
    exact ⟨run_checkKey_deep em 9992 8 kt h1 w 8 _ la h2 (by simpa [Value.cells] using hla), fun es => run_findKey_eq w h4 _ es⟩
  · cases hs

noncomputable def sLookup (P : Program) (σ : SH) (T : TypeId) (ok : Bool) (m k : SV) : Option SR := match P.underlying T, k with
  | some (.map kt et), .agg l => if sKeyOk P kt l then (match m with
    | .map n => match σ.get n with
      | some (.map es) => match sFind P kt l es 0, szero P et with
        | some (some (_, v)), some _ => some (.val (if ok then .tuple [v, .bool true] else v) σ)
        | some none, some z => some (.val (if ok then .tuple [z, .bool false] else z) σ)
        | _, _ => none
      | _ => none
    | .nilm => match szero P et with
      | some z => some (.val (if ok then .tuple [z, .bool false] else z) σ)
      | none => none
    | _ => none) else none
  | _, _ => none
theorem sLookup_ok (h : Rel P w0 env σ w) {T : TypeId} {ok : Bool} {s t : SV} {r : SR} (hs : sLookup P σ T ok s t = some r) {x y : Operand} {ρ : Operand → Value} (h1 : den env s = some (ρ x)) (h2 : den env t = some (ρ y)) (d : Option Tmp) (ty : TypeId) (pos : String) (af : Array Edge) (g : Option (Nat × Bool)) :
    Outcome P w0 env ((execOp ρ ⟨d, .lookup T x y ok, ty, pos, af, g⟩).run P w) r := by
  unfold sLookup at hs
  split at hs
  · rename_i kt et l hu
    split at hs
    · rename_i hkey
      obtain ⟨kv, hkv, ek⟩ := den_agg h2
      obtain ⟨k1, k2⟩ := sKeyOk_ok hkey hkv false w
      obtain ⟨k1', _⟩ := sKeyOk_ok hkey hkv true w
      split at hs
      · rename_i n
        split at hs
        · rename_i es hn
          obtain ⟨b, c, he, em⟩ := den_map h1
          obtain ⟨b', c', e1, hb, ents, clock, ks, vs, g1, g2, g3, g4, g5, _⟩ := h.obj n _ hn
          rw [he] at e1; cases e1
          subst g4; subst g5
          have hck : ∀ e : Bool, (Instr.checkKey e 10000 kt (.agg kv.toArray)).run P w = .ok () w := fun e => (sKeyOk_ok hkey hkv e w).1
          split at hs
          · rename_i j v z hf hz; cases hs
            obtain ⟨u, hu2, hrun⟩ := sFind_ok (w := w) hkv es ents.toList 0 _ hf g2 g3
            cases ok with
            | true => exact .same (v := .tuple #[u, .bool true]) (by simp [execOp, Instr.lookup, run_underlying hu, em, ek, run_getObj_map g1, hck, k2, hrun]) h (den_pair hu2 rfl)
            | false => exact .same (v := u) (by simp [execOp, Instr.lookup, run_underlying hu, em, ek, run_getObj_map g1, hck, k2, hrun]) h hu2
          · rename_i z hf hz; cases hs
            have hrun := sFind_ok (w := w) hkv es ents.toList 0 _ hf g2 g3
            simp only at hrun
            obtain ⟨zv, hdz, hzr⟩ := szero_ok (env := env) hz
            cases ok with
            | true => exact .same (v := .tuple #[zv, .bool false]) (by simp [execOp, Instr.lookup, run_underlying hu, em, ek, run_getObj_map g1, hck, k2, hrun, hzr]) h (den_pair hdz rfl)
            | false => exact .same (v := zv) (by simp [execOp, Instr.lookup, run_underlying hu, em, ek, run_getObj_map g1, hck, k2, hrun, hzr]) h hdz
          · cases hs
        · cases hs
      · split at hs
        · rename_i z hz; cases hs
          simp only [den, Option.some.injEq] at h1
          obtain ⟨zv, hdz, hzr⟩ := szero_ok (env := env) hz
          have k3 := k2 []
          cases ok with
          | true => exact .same (v := .tuple #[zv, .bool false]) (by simp [execOp, Instr.lookup, run_underlying hu, ← h1, ek, k1', k3, Instr.findAsking, hzr]) h (den_pair hdz rfl)
          | false => exact .same (v := zv) (by simp [execOp, Instr.lookup, run_underlying hu, ← h1, ek, k1', k3, Instr.findAsking, hzr]) h hdz
        · cases hs
      · cases hs
    · cases hs
  · cases hs

/-- A new entry. -/
noncomputable def sMapUpd (P : Program) (σ : SH) (T : TypeId) (m k v : SV) : Option SR := match P.underlying T, m, k with
  | some (.map kt _), .map n, .agg l => if sKeyOk P kt l then (match σ.get n with
    | some (.map es) => match sFind P kt l es 0 with
      | some none => some (.val .undef (σ.put n (some (.map (es ++ [(.agg l, v)])))))
      | _ => none
    | _ => none) else none
  | _, _, _ => none
theorem sMapUpd_ok (h : Rel P w0 env σ w) {T : TypeId} {s t u : SV} {r : SR} (hs : sMapUpd P σ T s t u = some r) {x y z : Operand} {ρ : Operand → Value} (h1 : den env s = some (ρ x)) (h2 : den env t = some (ρ y)) (h3 : den env u = some (ρ z)) (d : Option Tmp) (ty : TypeId) (pos : String) (af : Array Edge) (g : Option (Nat × Bool)) :
    Outcome P w0 env ((execOp ρ ⟨d, .mapUpdate T x y z, ty, pos, af, g⟩).run P w) r := by
  unfold sMapUpd at hs
  split at hs
  · rename_i kt et n l hu
    split at hs
    · rename_i hkey
      obtain ⟨kv, hkv, ek⟩ := den_agg h2
      obtain ⟨k1, k2⟩ := sKeyOk_ok hkey hkv false w
      split at hs
      · rename_i es hn
        obtain ⟨b, c, he, em⟩ := den_map h1
        obtain ⟨b', c', e1, hb, ents, clock, ks, vs, g1, g2, g3, g4, g5, g6, g7⟩ := h.obj n _ hn
        rw [he] at e1; cases e1
        subst g4; subst g5
        split at hs
        · rename_i hf; cases hs
          have hrun := sFind_ok (w := w) hkv es ents.toList 0 _ hf g2 g3
          simp only at hrun
          have hblt : b < w.heap.size := (Array.getElem?_eq_some_iff.1 g1).1
          have hset : (setObj b (.map (ents.push { key := .agg kv.toArray, val := ρ z, born := clock }) (clock + 1))).run P w = .ok () { w with heap := w.heap.setIfInBounds b (.map (ents.push { key := .agg kv.toArray, val := ρ z, born := clock }) (clock + 1)) } := by
            simp [setObj, Sem.run, g1]
          refine ⟨env, undef, { w with heap := w.heap.setIfInBounds b (.map (ents.push { key := .agg kv.toArray, val := ρ z, born := clock }) (clock + 1)) }, .inr ⟨by simp [execOp, Instr.mapUpdate, run_underlying hu, em, ek, run_getObj_map g1, k1, k2, hrun, hset], rfl⟩, Env.le_refl _, h.put hn he rfl rfl rfl (by simp) (fun q hq hne => by simp [Array.getElem?_setIfInBounds_ne (Ne.symm hne)]) (fun o' ho' => ?_), by simp only [den]⟩
          cases ho'
          refine ⟨ents.push { key := .agg kv.toArray, val := ρ z, born := clock }, clock + 1, ents.toList.map (·.key) ++ [.agg kv.toArray], ents.toList.map (·.val) ++ [ρ z], by simp [hblt], ?_, ?_, by simp, by simp, by simp [g6], fun i e hi => ?_⟩
          · rw [List.map_append]
            exact denL_append g2 (denL_mk (by rw [h2, ek]) rfl)
          · rw [List.map_append]
            exact denL_append g3 (denL_mk h3 rfl)
          · rw [Array.getElem?_push] at hi
            split at hi
            · rename_i hie; cases hi; simp [g6, hie]
            · exact g7 i e hi
        · cases hs
      · cases hs
    · cases hs
  · cases hs
end Go.Proofs.YtdkindollljlnabGreatDoor

namespace Go.Proofs.YtdkindollljlnabGreatDoor
open Go Go.RowKit
variable [Known]

variable {P : Program} {w0 : Base} {env : Env} {σ : SH} {w : World}

theorem freeze_heap {b n : Nat} {cur : Array Value} {t : TypeId} {fr : Nat × Nat} (h : w.heap[b]? = some (.cells cur t fr)) :
    (w.freeze ⟨b, n, none⟩ 1).heap[b]? = some (.cells cur t (if fr.1 == fr.2 then (n, n + 1) else (min fr.1 n, max fr.2 (n + 1)))) ∧ (∀ k, k ≠ b → (w.freeze ⟨b, n, none⟩ 1).heap[k]? = w.heap[k]?) := by
  obtain ⟨lo, hi⟩ := fr
  unfold World.freeze
  rw [if_neg (by decide)]
  refine ⟨?_, fun k hk => ?_⟩
  · simp only [Array.getElem?_modify, if_true, h, Option.map_some]
  · simp only [Array.getElem?_modify, if_neg (Ne.symm hk)]

noncomputable def sConvert2 (P : Program) (σ : SH) (S D : TypeId) (x : SV) : Option SR := match x with
  | .slice n off len c => match P.underlying S, P.underlying D with
    | some (.slice _), some (.slice e) => match P.underlying e with
      | some (.int .u8) => if S = D then (match σ.get n with
        | some (.cells l e' ex) => some (.val (.slice n off len c) (σ.put n (some (.cells l e' ex))))
        | _ => none) else none
      | _ => none
    | _, _ => sConvert P σ S D (.slice n off len c)
  | x => sConvert P σ S D x
theorem sConvert2_ok (h : Rel P w0 env σ w) {S D : TypeId} {x : Operand} {a : SV} {r : SR} (hs : sConvert2 P σ S D a = some r) {ρ : Operand → Value} (hd : den env a = some (ρ x)) (d : Option Tmp) (ty : TypeId) (pos : String) (af : Array Edge) (g : Option (Nat × Bool)) :
    Outcome P w0 env ((execOp ρ ⟨d, .convert S D x, ty, pos, af, g⟩).run P w) r := by
  unfold sConvert2 at hs
  split at hs
  · rename_i n off len c
    split at hs
    · rename_i e0 e hS hD
      split at hs
      · rename_i he
        split at hs
        · rename_i hSD; subst hSD
          rw [hS] at hD; cases hD
          split at hs
          · rename_i l e' ex hn; cases hs
            obtain ⟨b, k, hb, hv⟩ := den_slice hd
            obtain ⟨b', c', q1, q2, cur, t, fr, vs, g1, g2, g3, g4, g5, g6⟩ := h.obj n _ hn
            rw [hb] at q1; cases q1
            obtain ⟨f1, f2⟩ := freeze_heap (n := cur.size) g1
            have hmark : (markStringish ⟨b, off, none⟩).run P w = .ok () (w.freeze ⟨b, cur.size, none⟩ 1) := by
              simp [markStringish, shape, freeze, Sem.run, World.shape?, g1]
            refine ⟨env, ρ x, w.freeze ⟨b, cur.size, none⟩ 1, .inl ?_, Env.le_refl _, h.put hn hb rfl rfl rfl ?_ (fun q _ hq => f2 q hq) (fun o' ho' => ?_), ?_⟩
            · rw [hv]
              simp [execOp, convert, run_underlying hS, run_underlying he, hv, hmark]
            · unfold World.freeze; rw [if_neg (by decide)]; simp
            · cases ho'
              refine ⟨cur, t, _, vs, f1, ?_, g3, g4, g5, g6⟩
              split
              · exact .inr (Nat.le_refl _)
              · rename_i hne
                right
                rcases g2 with g2 | g2
                · exact absurd (by simpa using g2) hne
                · simp only; omega
            · exact hd
          · cases hs
        · cases hs
      · cases hs
    · exact sConvert_ok h hs hd d ty pos af g
  · exact sConvert_ok h hs hd d ty pos af g
end Go.Proofs.YtdkindollljlnabGreatDoor

namespace Go.Proofs.YtdkindollljlnabGreatDoor
open Go Go.RowKit
variable [Known]

variable {P : Program} {w0 : Base} {env : Env} {σ : SH} {w : World}

noncomputable def sMinMax (isMax : Bool) (x y : SV) : Option SV := match x, y with
  | .int k a, .int _ b => some (.int k (match isMax, decide (b < a) with
    | false, true => b
    | false, false => a
    | true, true => a
    | true, false => if a < b then b else a))
  | _, _ => none
theorem sMin_ok {tys : Array TypeId} {ty : TypeId} {x y s : SV} {u v : Value} (h : sMinMax false x y = some s) (h1 : den env x = some u) (h2 : den env y = some v) :
    ∃ r, den env s = some r ∧ ∀ w, (Builtin.min_ tys ty #[u, v]).run P w = .ok r w := by
  unfold sMinMax at h
  split at h
  · rename_i k a k' b
    simp only [den, Option.some.injEq] at h1 h2; subst h1; subst h2
    cases h
    refine ⟨_, rfl, fun w => ?_⟩
    by_cases hb : b < a <;> simp [Builtin.min_, Builtin.min2, hb]
  · cases h
theorem sMax_ok {tys : Array TypeId} {ty : TypeId} {x y s : SV} {u v : Value} (h : sMinMax true x y = some s) (h1 : den env x = some u) (h2 : den env y = some v) :
    ∃ r, den env s = some r ∧ ∀ w, (Builtin.max_ tys ty #[u, v]).run P w = .ok r w := by
  unfold sMinMax at h
  split at h
  · rename_i k a k' b
    simp only [den, Option.some.injEq] at h1 h2; subst h1; subst h2
    cases h
    refine ⟨_, rfl, fun w => ?_⟩
    by_cases hb : b < a
    · have : ¬ a < b := by omega
      simp [Builtin.max_, Builtin.max2, hb, this]
    · by_cases hc : a < b <;> simp [Builtin.max_, Builtin.max2, hb, hc]
  · cases h

/-- An empty literal. -/
noncomputable def sBuildNone (P : Program) (σ : SH) (T : TypeId) : Option SR := match P.underlying T with
  | some (.slice e) => match ssize P e with
    | some _ => some (.val (.slice σ.next 0 0 (.lit 0)) (σ.push (.cells [] e true)))
    | none => none
  | _ => none
theorem sBuildNone_ok (ho : env.ones) (h : Rel P w0 env σ w) {T : TypeId} {r : SR} (hs : sBuildNone P σ T = some r) {ρ : Operand → Value} (d : Option Tmp) (ty : TypeId) (pos : String) (af : Array Edge) (g : Option (Nat × Bool)) :
    Outcome P w0 env ((execOp ρ ⟨d, .buildSlice T 0 #[], ty, pos, af, g⟩).run P w) r := by
  unfold sBuildNone at hs
  split at hs
  · rename_i e hu
    split at hs
    · rename_i z hz; cases hs
      obtain ⟨r1, r2⟩ := h.alloc ho e 0 (l := []) (vs := []) rfl
      refine ⟨_, .slice (some ⟨w.heap.size, 0, none⟩) 0 0, _, .inl ?_, h.le_push w.heap.size 0, r1, by simp only [den, r2, capOf]⟩
      simp [execOp, Instr.buildSlice, underlying, hu, ssize_ok hz, Instr.fill, newRow]
      have he : Array.map (fun _ => (default : Value)) (Array.range 0) = #[] := by apply Array.eq_empty_of_size_eq_zero; simp
      exact congrArg (fun c => w.alloc (.cells c e)) he
    · cases hs
  · cases hs

/-- A method that stands in the type's own row, by a receiver of that very kind. -/
noncomputable def sMeth (P : Program) (t : TypeId) (name : String) : Option FuncId := match P.info? t with
  | some i => match i.methods.find? (·.name == name) with
    | some m => if m.path.isEmpty then (match m.func, P.underlying t with
      | some (f, true), some (.pointer _) => some f
      | some (f, false), some (.pointer _) => none
      | some (f, false), some _ => some f
      | _, _ => none) else none
    | none => none
  | none => none
theorem sMeth_ok {t : TypeId} {name : String} {f : FuncId} (h : sMeth P t name = some f) (n : Nat) (v : Value) (w : World) : (method (n + 1) t v name).run P w = .ok (f, v) w := by
  unfold sMeth at h
  split at h
  · rename_i i hi
    split at h
    · rename_i m hm
      split at h
      · rename_i hp
        have hp' : m.path.toList = [] := by
          have := Array.isEmpty_iff.1 hp
          rw [this]
        have hti : (typeInfo t).run P w = .ok i w := by simp [typeInfo, hi]
        split at h
        · rename_i g e hf hu; cases h
          simp [method, hti, hm, hp', follow, hf, receiverAt, run_underlying hu, Place.get]
        · cases h
        · rename_i g D hD hf hu; cases h
          have : ∀ wr, (receiverAt t (.val v) false wr).run P w = .ok v w := fun wr => by
            unfold receiverAt
            simp only [Sem.run_bind, run_underlying hu, Result.andThen_ok]
            cases D <;> first | (exact absurd rfl (hD _)) | simp [Place.get]
          simp [method, hti, hm, hp', follow, hf, this]
        · cases h
      · cases h
    · cases h
  · cases h
end Go.Proofs.YtdkindollljlnabGreatDoor

namespace Go.Proofs.YtdkindollljlnabGreatDoor
open Go Go.RowKit
variable [Known]

variable {P : Program} {w0 : Base} {env : Env} {σ : SH} {w : World}

theorem wrap64_small {m : Int} (h0 : 0 ≤ m) (h1 : m ≤ 1099511627776) : IntKind.i64.wrap m = m := by
  simp only [IntKind.wrap, IntKind.bits, IntKind.signed]
  have : m % (2 : Int) ^ 64 = m := Int.emod_eq_of_lt h0 (by omega)
  simp only [this]
  have : ¬ (m ≥ (2 : Int) ^ (64 - 1)) := by
    have : (2 : Int) ^ (64 - 1) = 9223372036854775808 := rfl
    omega
  simp [this]
  intro h; omega

theorem append_zeros {t t' ty e : TypeId} {i : TypeInfo} {z : Value} {k k' : IntKind} {m : Nat} (ht : P.underlying t = some (.slice e)) (hi : P.info? e = some i) (hz : i.zero = some z) (hD : P.underlying t' = some (.int k')) (h0 : 0 < m) (h1 : m ≤ 1099511627776) (hsz : 0 < i.size)
    (hfit : m * i.bytes ≤ 140737488355328) :
    (Builtin.append_ #[t, t'] ty #[.slice none 0 0, .int k (m : Nat)]).run P w = .ok (.slice (some ⟨w.heap.size, 0, none⟩) m (grownCap w m 0 e))
      (w.drew.alloc (.cells (#[] ++ Builtin.zeroCells z.cells m ++ Builtin.zeroCells z.cells (grownCap w m 0 e - m)) e)) := by
  have hn : ¬ (m ≤ 0) := by omega
  have h63' : ¬ (9223372036854775807 < (m : Int)) := by omega
  have h48 := growslice_fits (need := m) (old := 0) (bytes := i.bytes) h0 hfit
  have h48' : ¬ (281474976710656 < Builtin.nextslicecap m 0 * i.bytes) := by omega
  have hw : IntKind.i64.wrap ((m : Nat) : Int) = (m : Nat) := wrap64_small (by omega) (by omega)
  have hneg : ¬ (((m : Nat) : Int) < 0) := by omega
  have hbig : ¬ ((281474976710656 : Int) < (m : Int) * (i.bytes : Int)) := by
    have h := Int.ofNat_le.2 hfit
    rw [Int.natCast_mul] at h
    have e : ((140737488355328 : Nat) : Int) = 140737488355328 := rfl
    rw [e] at h
    omega
  have hms : ¬ (m = 0 ∨ i.size = 0) := by omega
  have hms2 : ¬ (m * i.size = 0) := by have := Nat.mul_pos h0 hsz; omega
  have hmx : ¬ (9223372036854775807 < max ((m : Nat) : Int) 0) := by omega
  have hle : ¬ (((m : Nat) : Int) ≤ 0) := by omega
  simp [Builtin.append_, run_underlying ht, run_underlying hD, sizeOf, typeInfo, zeroValue, hi, hz, hw, hneg, hbig, hms, hn, h63', h48', Question.forced, newRow, grownCap, asInt, asIntOf, hmx, hms2, hle, Nat.pos_iff_ne_zero.1 h0, Builtin.firstCells]

noncomputable def sAppendZ (P : Program) (σ : SH) (T T' : TypeId) (s x : SV) : Option SR := match P.underlying T, P.underlying T', s, x with
  | some (.slice e), some (.int _), .nils, .int _ (.ofNat m) => match ssize P e, szero P e with
    | some z, some zv => if Nat.ble 1 m && Nat.ble 1 z && ((cellsS zv).length == z) && Nat.ble m 1099511627776 && fits P e m then some (sAppendOut P σ e [] (sZeros (cellsS zv) m) m) else none
    | _, _ => none
  | _, _, _, _ => none
theorem sAppendZ_ok (ho : env.ones) (h : Rel P w0 env σ w) {T T' ty : TypeId} {s x : SV} {r : SR} (hs : sAppendZ P σ T T' s x = some r) {v u : Value} (hd : den env s = some v) (hx : den env x = some u) :
    ∃ q σ' env' v' w', r = .val q σ' ∧ (Builtin.append_ #[T, T'] ty #[v, u]).run P w = .ok v' w' ∧ env.le env' ∧ Rel P w0 env' σ' w' ∧ den env' q = some v' := by
  unfold sAppendZ at hs
  split at hs
  · rename_i e k' k m ht hD
    simp only [den, Option.some.injEq] at hd hx; subst hd; subst hx
    split at hs
    · rename_i z zv hz hzv
      split at hs
      · rename_i hc; cases hs
        simp only [Bool.and_eq_true, beq_iff_eq] at hc
        obtain ⟨⟨⟨⟨c1, c2⟩, c3⟩, c4⟩, c5⟩ := hc
        have c1 := Nat.le_of_ble_eq_true c1
        have c2 := Nat.le_of_ble_eq_true c2
        have c4 := Nat.le_of_ble_eq_true c4
        obtain ⟨i, hi, rfl⟩ := ssize_info hz
        obtain ⟨i', zz, hi', hzero, hdz⟩ := szero_info (env := env) hzv
        rw [hi] at hi'; cases hi'
        obtain ⟨f1, f2⟩ := fits_ok c5 hi
        have hzc := cellsS_den ho hdz
        have hzs : zz.cells.size = i.size := by have := denL_length hzc; simp at this; omega
        have hrun := append_zeros (ty := ty) (w := w) (k := k) ht hi hzero hD c1 c4 c2 f2
        have hge := grownCap_ge w m 0 e
        have hm2 := grownCap_le_maxLen w m 0 e (by unfold maxLen; omega)
        have hrep := sZeros_den hzc m
        rw [← zeros_list zz.cells (by omega) m] at hrep
        have hvn : (Builtin.zeroCells zz.cells m) = ((Array.range (m * zz.cells.size)).map fun i => zz.cells[i % zz.cells.size]!).toList.toArray := by
          rw [Array.toArray_toList]; rfl
        have hrel := grown_den (k := 0) ho h (olds := []) (vo := []) hi hzs rfl hrep (by simp [hzs]) hge hm2
        rw [← hvn] at hrel
        exact ⟨_, _, _, _, _, rfl, hrun, h.le_push _ _, hrel, by simp only [den, Env.new, capOf]; rfl⟩
      · cases hs
    · cases hs
  · cases hs
end Go.Proofs.YtdkindollljlnabGreatDoor

