/-
  THE EXECUTOR, part F: literals, slices.
-/
import Derived.Test.YthenjjonphoklaaGreatDoorSymE
import Derived.Laws.Tables
set_option linter.unusedVariables false
set_option linter.unusedSimpArgs false
namespace Go.Proofs.YthenjjonphoklaaGreatDoor
open Go Go.RowKit

variable {P : Program} {w0 : Base} {env : Env} {σ : SH} {w : World}

/-- Parts laid into cells. -/
noncomputable def sFill (place : Nat → Option (Nat × Nat)) (l : List SV) : List (Nat × SV) → Option (List SV)
  | [] => some l
  | (i, s) :: rest => match place i with
    | none => none
    | some (off, size) =>
      if (cellsS s).length = size then (if off + (cellsS s).length ≤ l.length then sFill place (patch l off (cellsS s)) rest else none) else none
theorem foldl_patch : ∀ (cs : List Value) (k off : Nat) (arr : Array Value), off + k + cs.length ≤ arr.size →
    ((cs.zipIdx k).foldl (fun a (p : Value × Nat) => a.setIfInBounds (off + p.2) p.1) arr).toList = patchV arr.toList (off + k) cs := by
  intro cs
  induction cs with
  | nil => intro k off arr _; unfold patchV; simp
  | cons c r ih =>
    intro k off arr h
    simp only [List.length_cons] at h
    rw [List.zipIdx_cons, List.foldl_cons, ih (k + 1) off _ (by rw [Array.size_setIfInBounds]; omega), Array.toList_setIfInBounds]
    exact patchV_step (by simp; omega)
theorem patchV_length {l cs : List Value} {off : Nat} (h : off + cs.length ≤ l.length) : (patchV l off cs).length = l.length := by
  unfold patchV; rw [List.length_append, List.length_append, List.length_take, List.length_drop]; omega
theorem sFill_ok (ho : env.ones) {place : Nat → Option (Nat × Nat)} : ∀ {ps : List (Nat × SV)} {l l' : List SV} {arr : Array Value} {qs : List (Nat × Value)}, sFill place l ps = some l' → denL env l = some arr.toList →
    (ps.map (·.1) = qs.map (·.1)) → denL env (ps.map (·.2)) = some (qs.map (·.2)) → ∃ arr', Instr.fill place arr qs = some arr' ∧ denL env l' = some arr'.toList := by
  intro ps
  induction ps with
  | nil =>
    intro l l' arr qs h hl h1 h2
    have : qs = [] := by cases qs with
      | nil => rfl
      | cons x r => simp at h1
    subst this
    simp only [sFill] at h; cases h
    exact ⟨arr, rfl, hl⟩
  | cons p rest ih =>
    intro l l' arr qs h hl h1 h2
    obtain ⟨i, s⟩ := p
    cases qs with
    | nil => simp at h1
    | cons q r =>
      obtain ⟨j, v⟩ := q
      simp only [List.map_cons, List.cons.injEq] at h1 h2
      obtain ⟨rfl, h1⟩ := h1
      obtain ⟨v', us, e1, e2, e3⟩ := denL_cons h2
      cases e3
      simp only [sFill] at h
      cases hp : place i with
      | none => rw [hp] at h; cases h
      | some os =>
        obtain ⟨off, size⟩ := os
        rw [hp] at h
        simp only at h
        split at h
        · rename_i hsz
          split at h
          · rename_i hle
            have hcs := cellsS_den ho e1
            have hlen := denL_length hcs
            have hsl : l.length = arr.size := by simpa using (denL_length hl).symm
            have e0 : v.cells.toList.length = v.cells.size := Array.length_toList
            have hfold : (v.cells.zipIdx.foldl (fun cs (c, j) => cs.setIfInBounds (off + j) c) arr).toList = patchV arr.toList off v.cells.toList := by
              have := foldl_patch v.cells.toList 0 off arr (by omega)
              rw [Nat.add_zero] at this
              rw [← this, ← Array.foldl_toList, Array.toList_zipIdx]
            obtain ⟨arr', g1, g2⟩ := ih (l := patch l off (cellsS s)) (arr := v.cells.zipIdx.foldl (fun cs (c, j) => cs.setIfInBounds (off + j) c) arr) (qs := r) h (by rw [hfold]; exact patch_den hl hcs) h1 e2
            refine ⟨arr', ?_, g2⟩
            simp only [Instr.fill, hp]
            rw [if_neg (by intro hh; simp at hh; omega)]
            exact g1
          · cases h
        · cases h

noncomputable def sPlaces (P : Program) : List Field → Option (List (Nat × Nat))
  | [] => some []
  | f :: r => match ssize P f.type, sPlaces P r with
    | some z, some l => some ((f.offset, z) :: l)
    | _, _ => none
theorem sPlaces_ok : ∀ {fs : List Field} {l : List (Nat × Nat)}, sPlaces P fs = some l → fs.mapM (fun f => (P.info? f.type).map fun i => (f.offset, i.size)) = some l := by
  intro fs
  induction fs with
  | nil => intro l h; simp only [sPlaces] at h; cases h; rfl
  | cons f r ih =>
    intro l h
    simp only [sPlaces] at h
    cases h1 : ssize P f.type with
    | none => rw [h1] at h; cases h
    | some z =>
      cases h2 : sPlaces P r with
      | none => rw [h1, h2] at h; cases h
      | some m =>
        rw [h1, h2] at h; cases h
        unfold ssize at h1
        cases hi : P.info? f.type with
        | none => rw [hi] at h1; cases h1
        | some i =>
          rw [hi] at h1; cases h1
          simp [List.mapM_cons, hi, ih h2]
theorem ssize_info {T : TypeId} {z : Nat} (h : ssize P T = some z) : ∃ i, P.info? T = some i ∧ i.size = z := by
  unfold ssize at h
  split at h
  · rename_i i hi; cases h; exact ⟨i, hi, rfl⟩
  · cases h
theorem szero_info {T : TypeId} {s : SV} (h : szero P T = some s) : ∃ i z, P.info? T = some i ∧ i.zero = some z ∧ den env s = some z := by
  unfold szero at h
  split at h
  · rename_i i hi
    split at h
    · rename_i z hz; exact ⟨i, z, hi, hz, ofV_den h⟩
    · cases h
  · cases h

noncomputable def sBuild (P : Program) (σ : SH) (T : TypeId) (ps : List (Nat × SV)) : Option SR := match P.underlying T, szero P T with
  | some (.struct fields), some z => match sPlaces P fields.toList with
    | some pl => match sFill (fun i => pl.toArray[i]?) (cellsS z) ps with
      | some l => some (.val (.agg l) σ)
      | none => none
    | none => none
  | some (.array _ e), some z => match ssize P e with
    | some k => match sFill (fun i => some (i * k, k)) (cellsS z) ps with
      | some l => some (.val (.agg l) σ)
      | none => none
    | none => none
  | _, _ => none
theorem sBuild_ok (ho : env.ones) (h : Rel P w0 env σ w) {T : TypeId} {ps : List (Nat × SV)} {r : SR} (hs : sBuild P σ T ps = some r) {xs : Array (Nat × Operand)} {ρ : Operand → Value} (h1 : ps.map (·.1) = xs.toList.map (·.1)) (h2 : denL env (ps.map (·.2)) = some (xs.toList.map fun x => ρ x.2)) (d : Option Tmp) (ty : TypeId) (pos : String) (af : Array Edge) (g : Option (Nat × Bool)) :
    Outcome P w0 env ((execOp ρ ⟨d, .build T xs, ty, pos, af, g⟩).run P w) r := by
  have key : ∀ cells : Array Value, P.built T (xs.map fun (i, x) => (i, ρ x)).toList = some cells → ∀ l, denL env l = some cells.toList → Outcome P w0 env ((execOp ρ ⟨d, .build T xs, ty, pos, af, g⟩).run P w) (.val (.agg l) σ) := by
    intro cells hb l hl
    refine .same (v := .agg cells) ?_ h (by simp only [den, hl, Array.toArray_toList])
    simp only [execOp, Sem.run_bind, run_build w T _ cells hb, Result.andThen_ok]
    rfl
  have hq1 : ps.map (·.1) = ((xs.map fun (i, x) => (i, ρ x)).toList).map (·.1) := by rw [h1]; simp [List.map_map, Function.comp_def]
  have hq2 : denL env (ps.map (·.2)) = some (((xs.map fun (i, x) => (i, ρ x)).toList).map (·.2)) := by rw [h2]; simp [List.map_map, Function.comp_def]
  unfold sBuild at hs
  split at hs
  · rename_i fields z hu hz
    split at hs
    · rename_i pl hpl
      split at hs
      · rename_i l hl; cases hs
        obtain ⟨it, zv, hi, hzv, hdz⟩ := szero_info (env := env) hz
        obtain ⟨arr, g1, g2⟩ := sFill_ok ho hl (cellsS_den ho hdz) hq1 hq2
        refine key arr ?_ l g2
        unfold Program.built
        simp only [hi, hu, hzv, sPlaces_ok hpl]
        exact g1
      · cases hs
    · cases hs
  · rename_i n e z hu hz
    split at hs
    · rename_i k hk
      split at hs
      · rename_i l hl; cases hs
        obtain ⟨it, zv, hi, hzv, hdz⟩ := szero_info (env := env) hz
        obtain ⟨ie, hie, hie2⟩ := ssize_info hk
        obtain ⟨arr, g1, g2⟩ := sFill_ok ho hl (cellsS_den ho hdz) hq1 hq2
        refine key arr ?_ l g2
        unfold Program.built
        simp only [hi, hu, hzv, hie, hie2]
        exact g1
      · cases hs
    · cases hs
  · cases hs

/-- n zeros in a row. -/
noncomputable def sZeros (z : List SV) : Nat → List SV
  | 0 => []
  | n + 1 => z ++ sZeros z n
theorem zeros_list (z : Array Value) (hz : 0 < z.size) : ∀ n : Nat, ((Array.range (n * z.size)).map fun i => z[i % z.size]!).toList = (List.replicate n z.toList).flatten := by
  intro n
  induction n with
  | zero => simp
  | succ n ih =>
    rw [List.replicate_succ', List.flatten_append, ← ih]
    apply List.ext_getElem?
    intro j
    have e1 : (n + 1) * z.size = n * z.size + z.size := by rw [Nat.add_mul, Nat.one_mul]
    by_cases hj : j < n * z.size
    · rw [List.getElem?_append_left (by simpa using hj)]
      simp [hj, e1, Nat.lt_of_lt_of_le hj (Nat.le_add_right _ _)]
    · rw [List.getElem?_append_right (by simpa using hj)]
      by_cases hj2 : j < n * z.size + z.size
      · have hm : j % z.size = j - n * z.size := by
          have : j = (j - n * z.size) + n * z.size := by omega
          rw [this, Nat.add_mul_mod_self_right, Nat.mod_eq_of_lt (by omega)]
          omega
        have hlt : j - n * z.size < z.size := by omega
        simp [e1, hj2, hm, hlt]
      · simp [e1, hj2]
        omega
theorem sZeros_den {z : List SV} {vs : List Value} (h : denL env z = some vs) : ∀ n, denL env (sZeros z n) = some (List.replicate n vs).flatten := by
  intro n
  induction n with
  | zero => rfl
  | succ n ih => rw [List.replicate_succ, List.flatten_cons]; exact denL_append h ih

noncomputable def sBuildSlice (P : Program) (σ : SH) (T : TypeId) (len : Nat) (ps : List (Nat × SV)) : Option SR := match P.underlying T with
  | some (.slice e) => match ssize P e, szero P e with
    | some k, some z => if decide (0 < k) && decide (0 < len) && decide (len * k ≤ 16777216) && (cellsS z).length == k then (match sFill (fun i => some (i * k, k)) (sZeros (cellsS z) len) ps with
        | some l => some (.val (.slice σ.next 0 len (.lit len)) (σ.push (.cells l e true)))
        | none => none)
      else none
    | _, _ => none
  | _ => none
theorem sBuildSlice_ok (ho : env.ones) (h : Rel P w0 env σ w) {T : TypeId} {len : Nat} {ps : List (Nat × SV)} {r : SR} (hs : sBuildSlice P σ T len ps = some r) {xs : Array (Nat × Operand)} {ρ : Operand → Value} (h1 : ps.map (·.1) = xs.toList.map (·.1)) (h2 : denL env (ps.map (·.2)) = some (xs.toList.map fun x => ρ x.2)) (d : Option Tmp) (ty : TypeId) (pos : String) (af : Array Edge) (g : Option (Nat × Bool)) :
    Outcome P w0 env ((execOp ρ ⟨d, .buildSlice T len xs, ty, pos, af, g⟩).run P w) r := by
  have hq1 : ps.map (·.1) = ((xs.map fun (i, x) => (i, ρ x)).toList).map (·.1) := by rw [h1]; simp [List.map_map, Function.comp_def]
  have hq2 : denL env (ps.map (·.2)) = some (((xs.map fun (i, x) => (i, ρ x)).toList).map (·.2)) := by rw [h2]; simp [List.map_map, Function.comp_def]
  unfold sBuildSlice at hs
  split at hs
  · rename_i e hu
    split at hs
    · rename_i k z hk hz
      split at hs
      · rename_i hc
        split at hs
        · rename_i l hl; cases hs
          simp only [Bool.and_eq_true, decide_eq_true_eq, beq_iff_eq] at hc
          obtain ⟨⟨⟨c1, c2⟩, c3⟩, c4⟩ := hc
          obtain ⟨zv, hdz, hzrun⟩ := szero_ok (env := env) hz
          have hzc := cellsS_den ho hdz
          have hzs : zv.cells.size = k := by have := denL_length hzc; simp at this; omega
          have hrep := sZeros_den hzc len
          rw [← zeros_list zv.cells (by omega) len] at hrep
          obtain ⟨arr, g1, g2⟩ := sFill_ok ho hl hrep hq1 hq2
          obtain ⟨r1, r2⟩ := h.alloc ho e 0 g2
          refine ⟨_, .slice (some ⟨w.heap.size, 0, none⟩) len len, _, .inl ?_, h.le_push w.heap.size 0, r1, by simp only [den, r2, capOf]⟩
          have n1 : ¬ len * k > 2 ^ 24 := by omega
          have n2 : ¬ len * k = 0 := by have := Nat.mul_pos c2 c1; omega
          rw [hzs] at g1
          have g1' : Instr.fill (fun i => some (i * k, k)) (Array.map (fun x => zv.cells[x % k]!) (Array.range (len * k))) (List.map (fun x => (x.fst, ρ x.snd)) xs.toList) = some arr := by simpa using g1
          simp only [execOp, Instr.buildSlice, underlying, Sem.run_bind]
          simp [hu, ssize_ok hk, n2, hzrun, hzs, newRow, show ¬ 16777216 < len * k by omega, g1']
        · cases hs
      · cases hs
    · cases hs
  · cases hs
end Go.Proofs.YthenjjonphoklaaGreatDoor
