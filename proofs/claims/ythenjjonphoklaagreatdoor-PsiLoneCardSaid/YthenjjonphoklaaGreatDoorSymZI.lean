/-
  THE EXECUTOR, part ZI: maps with integers for keys.
-/
import Derived.Test.YthenjjonphoklaaGreatDoorSymZ
set_option linter.unusedVariables false
set_option linter.unusedSimpArgs false
namespace Go.Proofs.YthenjjonphoklaaGreatDoor
open Go Go.RowKit

variable {P : Program} {w0 : Base} {env : Env} {σ : SH} {w : World}

/-- Where an integer key stands. -/
noncomputable def sFindInt (kd : IntKind) (k : Int) : List (SV × SV) → Nat → Option (Option (Nat × SV))
  | [], _ => some none
  | (.int k' n, v) :: r, i => if kd = k' then (if iEq k n then some (some (i, v)) else sFindInt kd k r (i + 1)) else none
  | _ :: _, _ => none
theorem sFindInt_ok {kt kd : IntKind} {k : Int} : ∀ (es : List (SV × SV)) (ents : List MapEntry) (i : Nat) (res : Option (Nat × SV)), sFindInt kd k es i = some res →
    denL env (es.map (·.1)) = some (ents.map (·.key)) → denL env (es.map (·.2)) = some (ents.map (·.val)) →
    match res with
    | none => Instr.findNow (.int kt) (.int kd k) ents i = some none
    | some (j, s) => ∃ v e, den env s = some v ∧ Instr.findNow (.int kt) (.int kd k) ents i = some (some (j, v)) ∧ i ≤ j ∧ ents[j - i]? = some e ∧ e.key = .int kd k := by
  intro es
  induction es with
  | nil =>
    intro ents i res h h1 h2
    simp only [sFindInt] at h; cases h
    have : ents = [] := by
      have := denL_length h1
      simpa using this
    subst this
    simp [Instr.findNow]
  | cons x r ih =>
    intro ents i0 res h h1 h2
    obtain ⟨ks, vs⟩ := x
    cases ents with
    | nil => have := denL_length h1; simp at this
    | cons e er =>
      simp only [List.map_cons] at h1 h2
      obtain ⟨a, b, d1, d2, e1⟩ := denL_cons h1
      obtain ⟨a', b', d1', d2', e1'⟩ := denL_cons h2
      simp only [List.cons.injEq] at e1 e1'
      obtain ⟨rfl, rfl⟩ := e1
      obtain ⟨rfl, rfl⟩ := e1'
      obtain ⟨i1, hi1⟩ : ∃ i1, i1 = i0 := ⟨_, rfl⟩
      unfold sFindInt at h
      split at h
      · rename_i heq; cases heq
      · rename_i k' n v r' heq
        simp only [List.cons.injEq, Prod.mk.injEq] at heq
        obtain ⟨⟨rfl, rfl⟩, rfl⟩ := heq
        simp only [den, Option.some.injEq] at d1
        split at h
        · rename_i hk; subst hk
          have hs : Instr.sameNow (.int kt) (.int kd k) e.key = some (k == n) := by rw [← d1]; simp [Instr.sameNow]
          rw [iEq_eq] at h
          split at h
          · rename_i ht; cases h
            refine ⟨_, e, d1', by simp [Instr.findNow, hs, ht], Nat.le_refl _, by simp, ?_⟩
            rw [← d1, eq_of_beq ht]
          · rename_i ht
            have ht : (k == n) = false := by simpa using ht
            rw [ht] at hs
            have := ih er _ res h d2 d2'
            cases res with
            | none => simpa [Instr.findNow, hs] using this
            | some js =>
              obtain ⟨j, s⟩ := js
              obtain ⟨v', e', hv', hrun, hle, hget, hkey⟩ := this
              refine ⟨v', e', hv', by simpa [Instr.findNow, hs] using hrun, by omega, ?_, hkey⟩
              rw [← hi1] at hget hle ⊢
              have : j - i1 = (j - (i1 + 1)) + 1 := by omega
              rw [this]; simpa using hget
        · cases h
      · cases h

theorem check_int {kt : TypeId} {kd : IntKind} (hk : P.underlying kt = some (.int kd)) (n : Int) (em : Bool) (w : World) : (Instr.checkKey em 10000 kt (.int kd n)).run P w = .ok () w :=
  Go.MapKept.run_checkKey hk (k := .int kd n) rfl em 9999

noncomputable def sLookupInt (P : Program) (σ : SH) (T : TypeId) (ok : Bool) (m k : SV) : Option SR := match P.underlying T, k with
  | some (.map kt et), .int kd l => match P.underlying kt with
    | some (.int kt') => if kd = kt' then (match m with
      | .map n => match σ.get n with
        | some (.map es) => match sFindInt kd l es 0, szero P et with
          | some (some (_, v)), some _ => some (.val (if ok then .tuple [v, .bool true] else v) σ)
          | some none, some z => some (.val (if ok then .tuple [z, .bool false] else z) σ)
          | _, _ => none
        | _ => none
      | .nilm => match szero P et with
        | some z => some (.val (if ok then .tuple [z, .bool false] else z) σ)
        | none => none
      | _ => none) else none
    | _ => none
  | _, _ => none
theorem sLookupInt_ok (h : Rel P w0 env σ w) {T : TypeId} {ok : Bool} {s t : SV} {r : SR} (hs : sLookupInt P σ T ok s t = some r) {x y : Operand} {ρ : Operand → Value} (h1 : den env s = some (ρ x)) (h2 : den env t = some (ρ y)) (d : Option Tmp) (ty : TypeId) (pos : String) (af : Array Edge) (g : Option (Nat × Bool)) :
    Outcome P w0 env ((execOp ρ ⟨d, .lookup T x y ok, ty, pos, af, g⟩).run P w) r := by
  unfold sLookupInt at hs
  split at hs
  · rename_i kt et kd l hu
    simp only [den, Option.some.injEq] at h2
    split at hs
    · rename_i kt' hk
      split at hs
      rotate_left
      · cases hs
      rename_i hkk; subst hkk
      have hck : ∀ em w, (Instr.checkKey em 10000 kt (ρ y)).run P w = .ok () w := fun em w => by rw [← h2]; exact check_int hk _ em w
      split at hs
      · rename_i n
        split at hs
        · rename_i es hn
          obtain ⟨b, c, he, em⟩ := den_map h1
          obtain ⟨b', c', e1, hb, ents, clock, ks, vs, g1, g2, g3, g4, g5, _⟩ := h.obj n _ hn
          rw [he] at e1; cases e1
          subst g4; subst g5
          split at hs
          · rename_i j v z hf hz; cases hs
            obtain ⟨u, e, hu2, hrun, _⟩ := sFindInt_ok (kt := kd) es ents.toList 0 _ hf g2 g3
            have hrun := Go.MapKept.run_findKey (P := P) (w := w) hk hrun
            rw [h2] at hrun
            cases ok with
            | true => exact .same (v := .tuple #[u, .bool true]) (by simp [execOp, Instr.lookup, run_underlying hu, em, run_getObj_map g1, hck, hrun]) h (den_pair hu2 rfl)
            | false => exact .same (v := u) (by simp [execOp, Instr.lookup, run_underlying hu, em, run_getObj_map g1, hck, hrun]) h hu2
          · rename_i z hf hz; cases hs
            have hrun := sFindInt_ok (kt := kd) es ents.toList 0 _ hf g2 g3
            simp only at hrun
            have hrun := Go.MapKept.run_findKey (P := P) (w := w) hk hrun
            rw [h2] at hrun
            obtain ⟨zv, hdz, hzr⟩ := szero_ok (env := env) hz
            cases ok with
            | true => exact .same (v := .tuple #[zv, .bool false]) (by simp [execOp, Instr.lookup, run_underlying hu, em, run_getObj_map g1, hck, hrun, hzr]) h (den_pair hdz rfl)
            | false => exact .same (v := zv) (by simp [execOp, Instr.lookup, run_underlying hu, em, run_getObj_map g1, hck, hrun, hzr]) h hdz
          · cases hs
        · cases hs
      · split at hs
        · rename_i z hz; cases hs
          simp only [den, Option.some.injEq] at h1
          obtain ⟨zv, hdz, hzr⟩ := szero_ok (env := env) hz
          have k3 : (Instr.findKey kt (ρ y) []).run P w = .ok none w := Go.MapKept.run_findKey (d := .int kd) hk rfl
          cases ok with
          | true => exact .same (v := .tuple #[zv, .bool false]) (by simp [execOp, Instr.lookup, run_underlying hu, ← h1, hck, k3, hzr]) h (den_pair hdz rfl)
          | false => exact .same (v := zv) (by simp [execOp, Instr.lookup, run_underlying hu, ← h1, hck, k3, hzr]) h hdz
        · cases hs
      · cases hs
    · cases hs
  · cases hs

noncomputable def sMapUpdInt (P : Program) (σ : SH) (T : TypeId) (m k v : SV) : Option SR := match P.underlying T, m, k with
  | some (.map kt _), .map n, .int kd l => match P.underlying kt with
    | some (.int kt') => if kd = kt' then (match σ.get n with
      | some (.map es) => match sFindInt kd l es 0 with
        | some none => some (.val .undef (σ.put n (some (.map (es ++ [(.int kd l, v)])))))
        | some (some (j, _)) => some (.val .undef (σ.put n (some (.map (es.set j (.int kd l, v))))))
        | none => none
      | _ => none) else none
    | _ => none
  | _, _, _ => none
theorem sMapUpdInt_ok (h : Rel P w0 env σ w) {T : TypeId} {s t u : SV} {r : SR} (hs : sMapUpdInt P σ T s t u = some r) {x y z : Operand} {ρ : Operand → Value} (h1 : den env s = some (ρ x)) (h2 : den env t = some (ρ y)) (h3 : den env u = some (ρ z)) (d : Option Tmp) (ty : TypeId) (pos : String) (af : Array Edge) (g : Option (Nat × Bool)) :
    Outcome P w0 env ((execOp ρ ⟨d, .mapUpdate T x y z, ty, pos, af, g⟩).run P w) r := by
  unfold sMapUpdInt at hs
  split at hs
  · rename_i kt et n kd l hu
    have h2' := h2
    simp only [den, Option.some.injEq] at h2
    split at hs
    · rename_i kt' hk
      split at hs
      rotate_left
      · cases hs
      rename_i hkk; subst hkk
      have hck : ∀ em w, (Instr.checkKey em 10000 kt (ρ y)).run P w = .ok () w := fun em w => by rw [← h2]; exact check_int hk _ em w
      split at hs
      · rename_i es hn
        obtain ⟨b, c, he, em⟩ := den_map h1
        obtain ⟨b', c', e1, hb, ents, clock, ks, vs, g1, g2, g3, g4, g5, g6, g7⟩ := h.obj n _ hn
        rw [he] at e1; cases e1
        subst g4; subst g5
        split at hs
        · rename_i hf; cases hs
          have hrun := sFindInt_ok (kt := kd) es ents.toList 0 _ hf g2 g3
          simp only at hrun
          have hrun := Go.MapKept.run_findKey (P := P) (w := w) hk hrun
          rw [h2] at hrun
          refine ⟨env, undef, { w with heap := w.heap.setIfInBounds b (.map (ents.push { key := ρ y, val := ρ z, born := clock }) (clock + 1)) }, .inr ⟨by simp [execOp, Instr.mapUpdate, run_underlying hu, em, run_getObj_map g1, hck, hrun, run_setObj_any _ g1], rfl⟩, Env.le_refl _, h.setObj hn he g1 (fun w' hw' => ?_), by simp only [den]⟩
          refine ⟨ents.push { key := ρ y, val := ρ z, born := clock }, clock + 1, ents.toList.map (·.key) ++ [ρ y], ents.toList.map (·.val) ++ [ρ z], hw', ?_, ?_, by simp, by simp, by simp [g6], fun i e hi => ?_⟩
          · rw [List.map_append]
            exact denL_append g2 (denL_mk h2' rfl)
          · rw [List.map_append]
            exact denL_append g3 (denL_mk h3 rfl)
          · rw [Array.getElem?_push] at hi
            split at hi
            · rename_i hie; cases hi; simp [g6, hie]
            · exact g7 i e hi
        · rename_i j q hf; cases hs
          obtain ⟨v, e, hv, hrun, _, hget, hkey⟩ := sFindInt_ok (kt := kd) es ents.toList 0 _ hf g2 g3
          rw [Nat.sub_zero] at hget
          have hrun := Go.MapKept.run_findKey (P := P) (w := w) hk hrun
          rw [h2] at hrun hkey
          have hgA : ents[j]? = some e := by simpa using hget
          have hst : (Instr.keyThatStays e.key (ρ y)).run P w = .ok (ρ y) w := by
            rw [hkey, ← h2]
            exact Go.MapKept.run_keyThatStays (d := .int kd) (k := .int kd l) rfl
          have hjlt : j < ents.size := (Array.getElem?_eq_some_iff.1 hgA).1
          refine ⟨env, undef, { w with heap := w.heap.setIfInBounds b (.map (ents.modify j fun e => { e with key := ρ y, val := ρ z }) clock) }, .inr ⟨by simp [execOp, Instr.mapUpdate, run_underlying hu, em, run_getObj_map g1, hck, hrun, hgA, hst, run_setObj_any _ g1], rfl⟩, Env.le_refl _, h.setObj hn he g1 (fun w' hw' => ?_), by simp only [den]⟩
          have hmod : (ents.modify j fun e => { e with key := ρ y, val := ρ z }).toList = ents.toList.set j { e with key := ρ y, val := ρ z } := by
            apply List.ext_getElem?
            intro i
            rw [Array.getElem?_toList, Array.getElem?_modify, List.getElem?_set]
            split
            · rename_i hij; subst hij
              have hej : ents[j] = e := (Array.getElem?_eq_some_iff.1 hgA).2
              simp [hgA, hjlt, hej]
            · simp
          refine ⟨_, clock, (ents.toList.map (·.key)).set j (ρ y), (ents.toList.map (·.val)).set j (ρ z), hw', ?_, ?_, by rw [hmod, List.map_set], by rw [hmod, List.map_set], by rw [g6]; simp, fun i x hi => ?_⟩
          · rw [List.map_set]
            exact denL_set g2 h2'
          · rw [List.map_set]
            exact denL_set g3 h3
          · rw [Array.getElem?_modify] at hi
            split at hi
            · rename_i hij; subst hij
              rw [hgA] at hi
              simp only [Option.map_some, Option.some.injEq] at hi
              subst hi
              exact g7 j e hgA
            · exact g7 i x hi
        · cases hs
      · cases hs
    · cases hs
  · cases hs
end Go.Proofs.YthenjjonphoklaaGreatDoor
