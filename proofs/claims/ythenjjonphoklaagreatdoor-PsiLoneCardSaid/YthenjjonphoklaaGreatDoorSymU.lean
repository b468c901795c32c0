/-
  THE EXECUTOR, part U: maps whose keys are arrays or structs without addresses: look-ups.
-/
import Derived.Test.YthenjjonphoklaaGreatDoorSymT
import Derived.DeepKeys3
set_option linter.unusedVariables false
set_option linter.unusedSimpArgs false
namespace Go.Proofs.YthenjjonphoklaaGreatDoor
open Go Go.RowKit

variable {P : Program} {w0 : Base} {env : Env} {σ : SH} {w : World}

/-- Where a key stands. -/
noncomputable def sFind (P : Program) (kt : TypeId) (k : List SV) : List (SV × SV) → Nat → Option (Option (Nat × SV))
  | [], _ => some none
  | (.agg l, v) :: r, i => match sEqAgg P kt k l with
    | some true => some (some (i, v))
    | some false => sFind P kt k r (i + 1)
    | none => none
  | _ :: _, _ => none
theorem sFind_ok {kt : TypeId} {k : List SV} {kv : List Value} (hk : denL env k = some kv) : ∀ (es : List (SV × SV)) (ents : List MapEntry) (i : Nat) (res : Option (Nat × SV)), sFind P kt k es i = some res →
    denL env (es.map (·.1)) = some (ents.map (·.key)) → denL env (es.map (·.2)) = some (ents.map (·.val)) →
    match res with
    | none => (Instr.findAsking kt (.agg kv.toArray) ents i).run P w = .ok none w
    | some (j, s) => ∃ v, den env s = some v ∧ (Instr.findAsking kt (.agg kv.toArray) ents i).run P w = .ok (some (j, v)) w := by
  intro es
  induction es with
  | nil =>
    intro ents i res h h1 h2
    simp only [sFind] at h; cases h
    have : ents = [] := by
      have := denL_length h1
      simpa using this
    subst this
    simp [Instr.findAsking]
  | cons x r ih =>
    intro ents i res h h1 h2
    obtain ⟨ks, vs⟩ := x
    cases ents with
    | nil => have := denL_length h1; simp at this
    | cons e er =>
      simp only [List.map_cons] at h1 h2
      obtain ⟨a, b, d1, d2, e1⟩ := denL_cons h1
      obtain ⟨a', b', d1', d2', e1'⟩ := denL_cons h2
      simp only [List.cons.injEq] at e1 e1'
      obtain ⟨rfl, rfl⟩ := e1
      obtain ⟨rfl, rfl⟩ := e1'
      unfold sFind at h
      split at h
      · rename_i heq; cases heq
      · rename_i l v r' heq
        simp only [List.cons.injEq, Prod.mk.injEq] at heq
        obtain ⟨⟨rfl, rfl⟩, rfl⟩ := heq
        obtain ⟨lv, hl, hkey⟩ := den_agg d1
        split at h
        · rename_i ht; cases h
          have hq := sEqAgg_ok ht hk hl w
          rw [← hkey] at hq
          have hq : (Op.equal kt (.agg kv.toArray) e.key).run P w = .ok true w := hq
          exact ⟨_, d1', by simp [Instr.findAsking, hq]⟩
        · rename_i ht
          have hq := sEqAgg_ok ht hk hl w
          rw [← hkey] at hq
          have hq : (Op.equal kt (.agg kv.toArray) e.key).run P w = .ok false w := hq
          have := ih er _ res h d2 d2'
          cases res with
          | none => simpa [Instr.findAsking, hq] using this
          | some js =>
            obtain ⟨j, s⟩ := js
            obtain ⟨v', hv', hrun⟩ := this
            exact ⟨v', hv', by simpa [Instr.findAsking, hq] using hrun⟩
        · cases h
      · cases h

/-- Is it a key that maps of this type take? -/
noncomputable def sKeyOk (P : Program) (kt : TypeId) (k : List SV) : Bool := match flatL k with
  | some x => P.keyTypeAt 8 kt && (Value.agg x.toArray).formed P kt && (P.keyLits 8 kt x).isSome && (match P.underlying kt with | some (.array _ _) | some (.struct _) => true | _ => false)
  | none => false
theorem sKeyOk_ok {kt : TypeId} {k : List SV} (hs : sKeyOk P kt k = true) {kv : List Value} (hk : denL env k = some kv) (em : Bool) (w : World) :
    (Instr.checkKey em 10000 kt (.agg kv.toArray)).run P w = .ok () w ∧ ∀ es, (Instr.findKey kt (.agg kv.toArray) es).run P w = (Instr.findAsking kt (.agg kv.toArray) es).run P w := by
  unfold sKeyOk at hs
  split at hs
  · rename_i x hx
    rw [flatL_den hx] at hk; cases hk
    simp only [Bool.and_eq_true] at hs
    obtain ⟨⟨⟨h1, h2⟩, h3⟩, h4⟩ := hs
    obtain ⟨la, hla⟩ := Option.isSome_iff_exists.1 h3
    exact ⟨run_checkKey_deep em 9992 8 kt h1 w 8 _ la h2 (by simpa [Value.cells] using hla), fun es => run_findKey_eq w h4 _ es⟩
  · cases hs

noncomputable def sLookup (P : Program) (σ : SH) (T : TypeId) (ok : Bool) (m k : SV) : Option SR := match P.underlying T, k with
  | some (.map kt et), .agg l => if sKeyOk P kt l then (match m with
    | .map n => match σ.get n with
      | some (.map es) => match sFind P kt l es 0, szero P et with
        | some (some (_, v)), some _ => some (.val (if ok then .tuple [v, .bool true] else v) σ)
        | some none, some z => some (.val (if ok then .tuple [z, .bool false] else z) σ)
        | _, _ => none
      | _ => none
    | .nilm => match szero P et with
      | some z => some (.val (if ok then .tuple [z, .bool false] else z) σ)
      | none => none
    | _ => none) else none
  | _, _ => none
theorem sLookup_ok (h : Rel P w0 env σ w) {T : TypeId} {ok : Bool} {s t : SV} {r : SR} (hs : sLookup P σ T ok s t = some r) {x y : Operand} {ρ : Operand → Value} (h1 : den env s = some (ρ x)) (h2 : den env t = some (ρ y)) (d : Option Tmp) (ty : TypeId) (pos : String) (af : Array Edge) (g : Option (Nat × Bool)) :
    Outcome P w0 env ((execOp ρ ⟨d, .lookup T x y ok, ty, pos, af, g⟩).run P w) r := by
  unfold sLookup at hs
  split at hs
  · rename_i kt et l hu
    split at hs
    · rename_i hkey
      obtain ⟨kv, hkv, ek⟩ := den_agg h2
      obtain ⟨k1, k2⟩ := sKeyOk_ok hkey hkv false w
      obtain ⟨k1', _⟩ := sKeyOk_ok hkey hkv true w
      split at hs
      · rename_i n
        split at hs
        · rename_i es hn
          obtain ⟨b, c, he, em⟩ := den_map h1
          obtain ⟨b', c', e1, hb, ents, clock, ks, vs, g1, g2, g3, g4, g5, _⟩ := h.obj n _ hn
          rw [he] at e1; cases e1
          subst g4; subst g5
          have hck : ∀ e : Bool, (Instr.checkKey e 10000 kt (.agg kv.toArray)).run P w = .ok () w := fun e => (sKeyOk_ok hkey hkv e w).1
          split at hs
          · rename_i j v z hf hz; cases hs
            obtain ⟨u, hu2, hrun⟩ := sFind_ok (w := w) hkv es ents.toList 0 _ hf g2 g3
            cases ok with
            | true => exact .same (v := .tuple #[u, .bool true]) (by simp [execOp, Instr.lookup, run_underlying hu, em, ek, run_getObj_map g1, hck, k2, hrun]) h (den_pair hu2 rfl)
            | false => exact .same (v := u) (by simp [execOp, Instr.lookup, run_underlying hu, em, ek, run_getObj_map g1, hck, k2, hrun]) h hu2
          · rename_i z hf hz; cases hs
            have hrun := sFind_ok (w := w) hkv es ents.toList 0 _ hf g2 g3
            simp only at hrun
            obtain ⟨zv, hdz, hzr⟩ := szero_ok (env := env) hz
            cases ok with
            | true => exact .same (v := .tuple #[zv, .bool false]) (by simp [execOp, Instr.lookup, run_underlying hu, em, ek, run_getObj_map g1, hck, k2, hrun, hzr]) h (den_pair hdz rfl)
            | false => exact .same (v := zv) (by simp [execOp, Instr.lookup, run_underlying hu, em, ek, run_getObj_map g1, hck, k2, hrun, hzr]) h hdz
          · cases hs
        · cases hs
      · split at hs
        · rename_i z hz; cases hs
          simp only [den, Option.some.injEq] at h1
          obtain ⟨zv, hdz, hzr⟩ := szero_ok (env := env) hz
          have k3 := k2 []
          cases ok with
          | true => exact .same (v := .tuple #[zv, .bool false]) (by simp [execOp, Instr.lookup, run_underlying hu, ← h1, ek, k1', k3, Instr.findAsking, hzr]) h (den_pair hdz rfl)
          | false => exact .same (v := zv) (by simp [execOp, Instr.lookup, run_underlying hu, ← h1, ek, k1', k3, Instr.findAsking, hzr]) h hdz
        · cases hs
      · cases hs
    · cases hs
  · cases hs

/-- A new entry. -/
noncomputable def sMapUpd (P : Program) (σ : SH) (T : TypeId) (m k v : SV) : Option SR := match P.underlying T, m, k with
  | some (.map kt _), .map n, .agg l => if sKeyOk P kt l then (match σ.get n with
    | some (.map es) => match sFind P kt l es 0 with
      | some none => some (.val .undef (σ.put n (some (.map (es ++ [(.agg l, v)])))))
      | _ => none
    | _ => none) else none
  | _, _, _ => none
theorem sMapUpd_ok (h : Rel P w0 env σ w) {T : TypeId} {s t u : SV} {r : SR} (hs : sMapUpd P σ T s t u = some r) {x y z : Operand} {ρ : Operand → Value} (h1 : den env s = some (ρ x)) (h2 : den env t = some (ρ y)) (h3 : den env u = some (ρ z)) (d : Option Tmp) (ty : TypeId) (pos : String) (af : Array Edge) (g : Option (Nat × Bool)) :
    Outcome P w0 env ((execOp ρ ⟨d, .mapUpdate T x y z, ty, pos, af, g⟩).run P w) r := by
  unfold sMapUpd at hs
  split at hs
  · rename_i kt et n l hu
    split at hs
    · rename_i hkey
      obtain ⟨kv, hkv, ek⟩ := den_agg h2
      obtain ⟨k1, k2⟩ := sKeyOk_ok hkey hkv false w
      split at hs
      · rename_i es hn
        obtain ⟨b, c, he, em⟩ := den_map h1
        obtain ⟨b', c', e1, hb, ents, clock, ks, vs, g1, g2, g3, g4, g5, g6, g7⟩ := h.obj n _ hn
        rw [he] at e1; cases e1
        subst g4; subst g5
        split at hs
        · rename_i hf; cases hs
          have hrun := sFind_ok (w := w) hkv es ents.toList 0 _ hf g2 g3
          simp only at hrun
          have hblt : b < w.heap.size := (Array.getElem?_eq_some_iff.1 g1).1
          have hset : (setObj b (.map (ents.push { key := .agg kv.toArray, val := ρ z, born := clock }) (clock + 1))).run P w = .ok () { w with heap := w.heap.setIfInBounds b (.map (ents.push { key := .agg kv.toArray, val := ρ z, born := clock }) (clock + 1)) } := by
            simp [setObj, Sem.run, g1]
          refine ⟨env, undef, { w with heap := w.heap.setIfInBounds b (.map (ents.push { key := .agg kv.toArray, val := ρ z, born := clock }) (clock + 1)) }, .inr ⟨by simp [execOp, Instr.mapUpdate, run_underlying hu, em, ek, run_getObj_map g1, k1, k2, hrun, hset], rfl⟩, Env.le_refl _, h.put hn he rfl rfl rfl (by simp) (fun q hq hne => by simp [Array.getElem?_setIfInBounds_ne (Ne.symm hne)]) (fun o' ho' => ?_), by simp only [den]⟩
          cases ho'
          refine ⟨ents.push { key := .agg kv.toArray, val := ρ z, born := clock }, clock + 1, ents.toList.map (·.key) ++ [.agg kv.toArray], ents.toList.map (·.val) ++ [ρ z], by simp [hblt], ?_, ?_, by simp, by simp, by simp [g6], fun i e hi => ?_⟩
          · rw [List.map_append]
            exact denL_append g2 (denL_mk (by rw [h2, ek]) rfl)
          · rw [List.map_append]
            exact denL_append g3 (denL_mk h3 rfl)
          · rw [Array.getElem?_push] at hi
            split at hi
            · rename_i hie; cases hi; simp [g6, hie]
            · exact g7 i e hi
        · cases hs
      · cases hs
    · cases hs
  · cases hs
end Go.Proofs.YthenjjonphoklaaGreatDoor
