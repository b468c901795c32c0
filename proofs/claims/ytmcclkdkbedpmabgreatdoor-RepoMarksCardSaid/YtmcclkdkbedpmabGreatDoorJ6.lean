/-
  THE EXECUTOR: maps with texts for keys from which something may have been taken away: look-up, length, store, delete.

  THE EXECUTOR with answers from outside: operations on values that nobody looks into, answered by a table whose answers are proved apart; one piece of code behind the other; a symbolic state turned into a simpler one.

  THE EXECUTOR, between runs: a symbolic state that a world fits, told anew: slots and blocks that nobody needs are left out, values are named anew.

  RepoMarks: the symbolic states of the second loop, and the table of answers.

  RepoMarks: the table of answers is right.

  A closed call over one known block, as a summary for every heap that holds such a block.

  Functions without a body: strings.IndexByte, strings.Compare, as contracts and as the executor's summaries.

  strings.Index at whatever texts, by the shelf's contract, as the executor's summary.

  hexa.Hex: the digits of bytes. (strings.Builder's copyCheck, WriteByte, String at this seat, by the pattern of the shelf's.)

  hexa.Hex in the executor.

  strings.Builder's copyCheck and String, as the executor's summaries.
-/
import Derived.Test.YtmcclkdkbedpmabGreatDoorJ5
import Derived.Test.YtmcclkdkbedpmabGreatDoorChecked
import Derived.WalkKit
import Derived.ProofKit
import Derived.Lib.Bytealg
import Derived.Lib.Walk
import Derived.Test.YtmcclkdkbedpmabGreatDoorShelf
import Derived.Lib.Strings
import Derived.Lib.Slices
import Derived.Lib.Builder
import Derived.Lib.UnsafeStr
import Derived.Laws.Externs
set_option linter.unusedSectionVars false
set_option linter.unusedSimpArgs false
set_option linter.unusedVariables false
namespace Go.Proofs.YtmcclkdkbedpmabGreatDoor
open Go Go.RowKit
variable [Known]
variable {P : Program} {w0 : Base} {env : Env} {σ : SH} {w : World}

noncomputable def sLookD (P : Program) (σ : SH) (T : TypeId) (ok : Bool) (m k : SV) : Option SR := match P.underlying T, m, k with
  | some (.map kt et), .map n, .str l => match P.underlying kt, σ.get n with
    | some .string, some (.dmap es) => match sFindStr l es 0, szero P et with
      | some (some (_, v)), some _ => some (.val (if ok then .tuple [v, .bool true] else v) σ)
      | some none, some z => some (.val (if ok then .tuple [z, .bool false] else z) σ)
      | _, _ => none
    | _, _ => none
  | _, _, _ => none
theorem sLookD_ok (h : Rel P w0 env σ w) {T : TypeId} {ok : Bool} {s t : SV} {r : SR} (hs : sLookD P σ T ok s t = some r) {x y : Operand} {ρ : Operand → Value} (h1 : den env s = some (ρ x)) (h2 : den env t = some (ρ y)) (d : Option Tmp) (ty : TypeId) (pos : String) (af : Array Edge) (g : Option (Nat × Bool)) :
    Outcome P w0 env ((execOp ρ ⟨d, .lookup T x y ok, ty, pos, af, g⟩).run P w) r := by
  unfold sLookD at hs
  split at hs
  · rename_i kt et n l hu
    simp only [den, Option.some.injEq] at h2
    split at hs
    · rename_i es hk hn
      have hck : ∀ em w, (Instr.checkKey em 10000 kt (ρ y)).run P w = .ok () w := fun em w => by rw [← h2]; exact check_str hk _ em w
      obtain ⟨b, c, he, em⟩ := den_map h1
      obtain ⟨b', c', e1, hb, ents, clock, ks, vs, g1, g2, g3, g4, g5, _⟩ := h.obj n _ hn
      rw [he] at e1; cases e1
      subst g4; subst g5
      split at hs
      · rename_i j v z hf hz; cases hs
        obtain ⟨u, e, hu2, hrun, _⟩ := sFindStr_ok es ents.toList 0 _ hf g2 g3
        have hrun := Go.MapKept.run_findKey (P := P) (w := w) hk hrun
        rw [h2] at hrun
        cases ok with
        | true => exact .same (v := .tuple #[u, .bool true]) (by simp [execOp, Instr.lookup, run_underlying hu, em, run_getObj_map g1, hck, hrun]) h (den_pair hu2 rfl)
        | false => exact .same (v := u) (by simp [execOp, Instr.lookup, run_underlying hu, em, run_getObj_map g1, hck, hrun]) h hu2
      · rename_i z hf hz; cases hs
        have hrun := sFindStr_ok es ents.toList 0 _ hf g2 g3
        simp only at hrun
        have hrun := Go.MapKept.run_findKey (P := P) (w := w) hk hrun
        rw [h2] at hrun
        obtain ⟨zv, hdz, hzr⟩ := szero_ok (env := env) hz
        cases ok with
        | true => exact .same (v := .tuple #[zv, .bool false]) (by simp [execOp, Instr.lookup, run_underlying hu, em, run_getObj_map g1, hck, hrun, hzr]) h (den_pair hdz rfl)
        | false => exact .same (v := zv) (by simp [execOp, Instr.lookup, run_underlying hu, em, run_getObj_map g1, hck, hrun, hzr]) h hdz
      · cases hs
    · cases hs
  · cases hs
noncomputable def sUpdD (P : Program) (σ : SH) (T : TypeId) (m k v : SV) : Option SR := match P.underlying T, m, k with
  | some (.map kt _), .map n, .str l => match P.underlying kt, σ.get n with
    | some .string, some (.dmap es) => match sFindStr l es 0 with
      | some none => some (.val .undef (σ.put n (some (.dmap (es ++ [(.str l, v)])))))
      | some (some (j, _)) => some (.val .undef (σ.put n (some (.dmap (es.set j (.str l, v))))))
      | none => none
    | _, _ => none
  | _, _, _ => none
theorem sUpdD_ok (h : Rel P w0 env σ w) {T : TypeId} {s t u : SV} {r : SR} (hs : sUpdD P σ T s t u = some r) {x y z : Operand} {ρ : Operand → Value} (h1 : den env s = some (ρ x)) (h2 : den env t = some (ρ y)) (h3 : den env u = some (ρ z)) (d : Option Tmp) (ty : TypeId) (pos : String) (af : Array Edge) (g : Option (Nat × Bool)) :
    Outcome P w0 env ((execOp ρ ⟨d, .mapUpdate T x y z, ty, pos, af, g⟩).run P w) r := by
  unfold sUpdD at hs
  split at hs
  · rename_i kt et n l hu
    have h2' := h2
    simp only [den, Option.some.injEq] at h2
    split at hs
    · rename_i es hk hn
      have hck : ∀ em w, (Instr.checkKey em 10000 kt (ρ y)).run P w = .ok () w := fun em w => by rw [← h2]; exact check_str hk _ em w
      obtain ⟨b, c, he, em⟩ := den_map h1
      obtain ⟨b', c', e1, hb, ents, clock, ks, vs, g1, g2, g3, g4, g5, g6, g7⟩ := h.obj n _ hn
      rw [he] at e1; cases e1
      subst g4; subst g5
      split at hs
      · rename_i hf; cases hs
        have hrun := sFindStr_ok es ents.toList 0 _ hf g2 g3
        simp only at hrun
        have hrun := Go.MapKept.run_findKey (P := P) (w := w) hk hrun
        rw [h2] at hrun
        refine ⟨env, undef, { w with heap := w.heap.setIfInBounds b (.map (ents.push { key := ρ y, val := ρ z, born := clock }) (clock + 1)) }, .inr ⟨by simp [execOp, Instr.mapUpdate, run_underlying hu, em, run_getObj_map g1, hck, hrun, run_setObj_any _ g1], rfl⟩, Env.le_refl _, h.setObj hn he g1 (fun w' hw' => ?_), rfl⟩
        refine ⟨ents.push { key := ρ y, val := ρ z, born := clock }, clock + 1, ents.toList.map (·.key) ++ [ρ y], ents.toList.map (·.val) ++ [ρ z], hw', ?_, ?_, by simp, by simp, ?_, ?_⟩
        · rw [List.map_append]
          exact denL_append g2 (denL_mk h2' rfl)
        · rw [List.map_append]
          exact denL_append g3 (denL_mk h3 rfl)
        · intro x hx
          rw [Array.toList_push, List.mem_append, List.mem_singleton] at hx
          rcases hx with hx | rfl
          · have := g6 x hx; omega
          · exact Nat.lt_succ_self _
        · rw [Array.toList_push, List.map_append, List.nodup_append]
          refine ⟨g7, by simp, fun a ha b hb => ?_⟩
          obtain ⟨x, hx, rfl⟩ := List.mem_map.1 ha
          simp at hb; subst hb
          have := g6 x hx; omega
      · rename_i j q hf; cases hs
        obtain ⟨v, e, hv, hrun, _, hget, hkey⟩ := sFindStr_ok es ents.toList 0 _ hf g2 g3
        rw [Nat.sub_zero] at hget
        have hrun := Go.MapKept.run_findKey (P := P) (w := w) hk hrun
        rw [h2] at hrun hkey
        have hgA : ents[j]? = some e := by simpa using hget
        have hst : (Instr.keyThatStays e.key (ρ y)).run P w = .ok (ρ y) w := by
          rw [hkey, ← h2]
          exact Go.MapKept.run_keyThatStays (d := .string) (k := .string (bytesOf l)) trivial
        have hjlt : j < ents.size := (Array.getElem?_eq_some_iff.1 hgA).1
        have hmod : (ents.modify j fun e => { e with key := ρ y, val := ρ z }).toList = ents.toList.set j { e with key := ρ y, val := ρ z } := by
          apply List.ext_getElem?
          intro i
          rw [Array.getElem?_toList, Array.getElem?_modify, List.getElem?_set]
          split
          · rename_i hij; subst hij
            have hej : ents[j] = e := (Array.getElem?_eq_some_iff.1 hgA).2
            simp [hgA, hjlt, hej]
          · simp
        have hbm : (ents.toList.set j { e with key := ρ y, val := ρ z }).map (·.born) = ents.toList.map (·.born) := by
          rw [List.map_set]
          apply List.ext_getElem?
          intro i
          rw [List.getElem?_set]
          split
          · rename_i hij; subst hij
            rw [if_pos (by simpa using hjlt), List.getElem?_map, hget]; rfl
          · rfl
        refine ⟨env, undef, { w with heap := w.heap.setIfInBounds b (.map (ents.modify j fun e => { e with key := ρ y, val := ρ z }) clock) }, .inr ⟨by simp [execOp, Instr.mapUpdate, run_underlying hu, em, run_getObj_map g1, hck, hrun, hgA, hst, run_setObj_any _ g1], rfl⟩, Env.le_refl _, h.setObj hn he g1 (fun w' hw' => ?_), rfl⟩
        refine ⟨_, clock, (ents.toList.map (·.key)).set j (ρ y), (ents.toList.map (·.val)).set j (ρ z), hw', ?_, ?_, by rw [hmod, List.map_set], by rw [hmod, List.map_set], ?_, by rw [hmod, hbm]; exact g7⟩
        · rw [List.map_set]
          exact denL_set g2 h2'
        · rw [List.map_set]
          exact denL_set g3 h3
        · rw [hmod]
          intro x hx
          have : x.born ∈ ents.toList.map (·.born) := hbm ▸ List.mem_map.2 ⟨x, hx, rfl⟩
          obtain ⟨y, hy, e'⟩ := List.mem_map.1 this
          rw [← e']; exact g6 y hy
      · cases hs
    · cases hs
  · cases hs
theorem denL_erase {l : List SV} : ∀ {vs : List Value} {j : Nat}, denL env l = some vs → denL env (l.eraseIdx j) = some (vs.eraseIdx j) := by
  induction l with
  | nil => intro vs j h; simp only [denL] at h; cases h; rfl
  | cons x r ih =>
    intro vs j h
    obtain ⟨a, b, e1, e2, rfl⟩ := denL_cons h
    cases j with
    | zero => exact e2
    | succ j => exact denL_mk e1 (ih e2)
theorem map_erase {α β : Type} (f : α → β) : ∀ (l : List α) (j : Nat), (l.eraseIdx j).map f = (l.map f).eraseIdx j := by
  intro l
  induction l with
  | nil => intro j; rfl
  | cons x r ih => intro j; cases j with
    | zero => rfl
    | succ j => simp [ih]
/-- What is told of a map, the weaker way. -/
def strMap (o : SO) : Option (List (SV × SV)) := match o with
  | .map es => some es
  | .dmap es => some es
  | _ => none
noncomputable def sDelD (P : Program) (σ : SH) (T : TypeId) (m k : SV) : Option SR := match P.underlying T, m, k with
  | some (.map kt _), .map n, .str l => match P.underlying kt, (σ.get n).bind strMap with
    | some .string, some es => match sFindStr l es 0 with
      | some none => some (.val (.tuple []) (σ.put n (some (.dmap es))))
      | some (some (j, _)) => some (.val (.tuple []) (σ.put n (some (.dmap (es.eraseIdx j)))))
      | none => none
    | _, _ => none
  | _, _, _ => none
theorem ORel.weak' {b c : Nat} {o : SO} {es : List (SV × SV)} (ho : strMap o = some es) (h : ORel P env w b c o) : ORel P env w b c (.dmap es) := by
  cases o with
  | map es' =>
    cases ho
    obtain ⟨ents, clock, ks, vs, h1, h2, h3, h4, h5, rfl, h7⟩ := h
    exact ⟨ents, _, ks, vs, h1, h2, h3, h4, h5, born_lt h7, born_nodup h7⟩
  | dmap es' => cases ho; exact h
  | _ => cases ho
theorem sDelD_ok (h : Rel P w0 env σ w) {T T2 : TypeId} {s t : SV} {r : SR} (hs : sDelD P σ T s t = some r) {x y : Operand} {ρ : Operand → Value} (h1 : den env s = some (ρ x)) (h2 : den env t = some (ρ y)) (d : Option Tmp) (ty : TypeId) (pos : String) (af : Array Edge) (g : Option (Nat × Bool)) :
    Outcome P w0 env ((execOp ρ ⟨d, .call { callee := .builtin .delete, args := #[x, y], argTypes := #[T, T2] }, ty, pos, af, g⟩).run P w) r := by
  unfold sDelD at hs
  split at hs
  · rename_i kt et n l hu
    have h2' := h2
    simp only [den, Option.some.injEq] at h2
    split at hs
    · rename_i es hk hbnd
      obtain ⟨o, hn, ho⟩ := Option.bind_eq_some_iff.1 hbnd
      have hck : ∀ em w, (Instr.checkKey em 10000 kt (ρ y)).run P w = .ok () w := fun em w => by rw [← h2]; exact check_str hk _ em w
      obtain ⟨b, c, he, em⟩ := den_map h1
      obtain ⟨b', c', e1, hb, hO⟩ := h.obj n _ hn
      rw [he] at e1; cases e1
      obtain ⟨ents, clock, ks, vs, g1, g2, g3, g4, g5, g6, g7⟩ := hO.weak' ho
      subst g4; subst g5
      split at hs
      · rename_i hf; cases hs
        have hrun := sFindStr_ok es ents.toList 0 _ hf g2 g3
        simp only at hrun
        have hrun := Go.MapKept.run_findKey (P := P) (w := w) hk hrun
        rw [h2] at hrun
        exact ⟨env, .tuple #[], { w with heap := w.heap.setIfInBounds b (.map ents clock) }, .inl (by simp [execOp, resolve, invoke, builtin, Builtin.delete_, run_underlying hu, em, run_getObj_map g1, hck, hrun, run_setObj_any _ g1]), Env.le_refl _, h.setObj hn he g1 (fun w' hw' => ⟨ents, clock, _, _, hw', g2, g3, rfl, rfl, g6, g7⟩), rfl⟩
      · rename_i j q hf; cases hs
        obtain ⟨v, e, hv, hrun, _, hget, hkey⟩ := sFindStr_ok es ents.toList 0 _ hf g2 g3
        rw [Nat.sub_zero] at hget
        have hrun := Go.MapKept.run_findKey (P := P) (w := w) hk hrun
        rw [h2] at hrun
        have hjlt : j < ents.size := by
          have := (List.getElem?_eq_some_iff.1 hget).1
          simpa using this
        have hel : (ents.eraseIdxIfInBounds j).toList = ents.toList.eraseIdx j := by
          rw [Array.eraseIdxIfInBounds, dif_pos hjlt, Array.toList_eraseIdx]
        refine ⟨env, .tuple #[], { w with heap := w.heap.setIfInBounds b (.map (ents.eraseIdxIfInBounds j) clock) }, .inl (by simp [execOp, resolve, invoke, builtin, Builtin.delete_, run_underlying hu, em, run_getObj_map g1, hck, hrun, run_setObj_any _ g1]), Env.le_refl _, h.setObj hn he g1 (fun w' hw' => ?_), rfl⟩
        refine ⟨_, clock, (ents.toList.map (·.key)).eraseIdx j, (ents.toList.map (·.val)).eraseIdx j, hw', ?_, ?_, by rw [hel, map_erase], by rw [hel, map_erase], ?_, ?_⟩
        · rw [map_erase]; exact denL_erase g2
        · rw [map_erase]; exact denL_erase g3
        · rw [hel]; intro x hx; exact g6 x ((List.eraseIdx_sublist _ _).subset hx)
        · rw [hel, map_erase]; exact List.Nodup.sublist (List.eraseIdx_sublist _ _) g7
      · cases hs
    · cases hs
  · cases hs
noncomputable def sLenD (P : Program) (σ : SH) (T : TypeId) (s : SV) : Option SV := match P.underlying T, s with
  | some (.map _ _), .map n => match σ.get n with
    | some (.dmap es) => some (.int .i64 (lenR es))
    | _ => none
  | _, _ => none
theorem sLenD_ok (h : Rel P w0 env σ w) {T ty : TypeId} {s t : SV} {v : Value} (hs : sLenD P σ T s = some t) (hd : den env s = some v) : ∃ u, den env t = some u ∧ (Builtin.len_ #[T] ty #[v]).run P w = .ok u w := by
  unfold sLenD at hs
  split at hs
  · rename_i kt et n hu
    split at hs
    · rename_i es hn; cases hs
      obtain ⟨b, c, he, rfl⟩ := den_map hd
      obtain ⟨b', c', e1, hb, ents, clock, ks, vs, g1, g2, g3, g4, g5, g6, g7⟩ := h.obj n _ hn
      rw [he] at e1; cases e1
      have hl : es.length = ents.size := by
        have := denL_length g2
        rw [List.length_map] at this
        rw [← this, ← g4, List.length_map, Array.length_toList]
      refine ⟨_, rfl, ?_⟩
      rw [lenR_eq, hl]
      simp [Builtin.len_, underlying, hu, goInt, run_getObj_map g1]
    · cases hs
  · cases hs
/-- These operations. -/
noncomputable def askD (P : Program) (st : Row) (o : Oper) (σ : SH) : Option SR := match o.op with
  | .lookup T m k ok => match evalS st m, evalS st k with
    | some a, some b => sLookD P σ T ok a b
    | _, _ => none
  | .mapUpdate T m k v => match evalS st m, evalS st k, evalS st v with
    | some a, some b, some c => sUpdD P σ T a b c
    | _, _, _ => none
  | .call c => match c.callee, c.args.toList, c.argTypes.toList with
    | .builtin .delete, [x, y], [T, _] => match evalS st x, evalS st y with
      | some a, some b => sDelD P σ T a b
      | _, _ => none
    | .builtin .len, [x], [T] => match evalS st x with
      | some a => match sLenD P σ T a with
        | some t => some (.val t σ)
        | none => none
      | none => none
    | _, _, _ => none
  | _ => none
theorem askD_ok : OpSound P w0 (askD P) := by
  intro st o σ r env a w hs ho h hf
  obtain ⟨d, op, ty, pos, af, g⟩ := o
  have E : ∀ {x : Operand} {s : SV}, evalS st x = some s → den env s = some (a.eval x) := fun hx => evalS_den hf.tmps hx
  unfold askD at hs
  cases op <;> simp only at hs <;> try (cases hs; done)
  case lookup T m k ok =>
    split at hs
    · rename_i x y hx hy; exact sLookD_ok h hs (E hx) (E hy) d ty pos af g
    · cases hs
  case mapUpdate T m k v =>
    split at hs
    · rename_i x y z hx hy hz; exact sUpdD_ok h hs (E hx) (E hy) (E hz) d ty pos af g
    · cases hs
  case call c =>
    obtain ⟨callee, args, tys⟩ := c
    simp only at hs
    split at hs
    · rename_i x y T T2 ha ht
      have e1 : args = #[x, y] := by cases args; simp_all
      have e2 : tys = #[T, T2] := by cases tys; simp_all
      subst e1; subst e2
      split at hs
      · rename_i s t hx hy; exact sDelD_ok h hs (E hx) (E hy) d ty pos af g
      · cases hs
    · rename_i x T ha ht
      have e1 : args = #[x] := by cases args; simp_all
      have e2 : tys = #[T] := by cases tys; simp_all
      subst e1; subst e2
      split at hs
      · rename_i s hx
        split at hs
        · rename_i t hl; cases hs
          obtain ⟨u, hu, hrun⟩ := sLenD_ok (ty := ty) h hl (E hx)
          refine .same (v := u) ?_ h hu
          simp [execOp, resolve, invoke, builtin, hrun]
        · cases hs
      · cases hs
    · cases hs
theorem askD_cong : OpCong (askD P) := by
  intro ops st st' o σ h
  have E : ∀ x ∈ o.op.operands, evalS st x = evalS st' x := fun x hx => evalS_cong fun t ht => h t (by
    subst ht
    exact List.mem_append_left _ (List.mem_filterMap.2 ⟨.tmp t, by simpa using hx, rfl⟩))
  obtain ⟨d, op, ty, pos, af, g⟩ := o
  simp only at E
  unfold askD
  cases op <;> simp only
  case lookup T m k ok => rw [E m (by simp [Op.operands]), E k (by simp [Op.operands])]
  case mapUpdate T m k v => rw [E m (by simp [Op.operands]), E k (by simp [Op.operands]), E v (by simp [Op.operands])]
  case call c =>
    obtain ⟨callee, args, tys⟩ := c
    have key : ∀ x ∈ args.toList, evalS st x = evalS st' x := fun x hx => E x (by simp only [Op.operands, Call.operands]; cases callee <;> simp at hx ⊢ <;> simp [hx])
    simp only
    cases callee with
    | builtin bi =>
      cases bi <;> try rfl
      all_goals
        rcases ha : args.toList with _ | ⟨x, _ | ⟨y, _ | ⟨z, r⟩⟩⟩ <;> rcases ht : tys.toList with _ | ⟨T, _ | ⟨T2, _ | ⟨T3, r2⟩⟩⟩ <;> try rfl
        all_goals simp only [key x (by rw [ha]; simp)]
        all_goals try rw [key y (by rw [ha]; simp)]
    | _ => rfl
theorem askD_still (st : Row) (o : Oper) (σ : SH) (s : SV) (σ' : SH) (hs : stillOp P o.op = true) (h : askD P st o σ = some (.val s σ')) : σ' = σ := by
  obtain ⟨d, op, ty, pos, af, g⟩ := o
  unfold askD at h
  cases op <;> simp only at h <;> try (cases h; done)
  case lookup T m k ok =>
    unfold sLookD at h
    (repeat' split at h) <;> first | (cases h; done) | (cases h; rfl)
  case mapUpdate => simp [stillOp] at hs
  case call c =>
    obtain ⟨callee, args, tys⟩ := c
    simp only at h
    split at h
    · simp [stillOp] at hs
    · (repeat' split at h) <;> first | (cases h; done) | (cases h; rfl)
    · cases h
theorem askD_pure (st : Row) (o : Oper) (σ : SH) (hs : pureOp o.op = true) : askD P st o σ = none := by
  obtain ⟨d, op, ty, pos, af, g⟩ := o
  unfold askD
  cases op <;> simp [pureOp] at hs ⊢
end Go.Proofs.YtmcclkdkbedpmabGreatDoor

namespace Go.Proofs.YtmcclkdkbedpmabGreatDoor
open Go Go.RowKit
variable [Known]
variable {P : Program} {w0 : Base}

/-- Answers at operations that the executor does not know: an operation, its operands; its value. -/
abbrev Orc := Op → List SV → Option SV
def OrcSound (P : Program) (orc : Orc) : Prop := ∀ (op : Op) (l : List SV) (s : SV), orc op l = some s → ∀ (w0 : Base) (env : Env) (σ : SH) (w : World), env.ones → Rel P w0 env σ w → ∀ (ρ : Operand → Value), denL env l = some (op.operands.toList.map ρ) →
  ∃ v, den env s = some v ∧ ∀ d ty pos af g, (execOp ρ ⟨d, op, ty, pos, af, g⟩).run P w = .ok (.value v) w
noncomputable def askO (orc : Orc) (st : Row) (o : Oper) (σ : SH) : Option SR := match evalL st o.op.operands.toList with
  | some l => match orc o.op l with
    | some s => some (.val s σ)
    | none => none
  | none => none
noncomputable def opO (P : Program) (orc : Orc) : OpF := fun st o σ => @Option.rec SR (fun _ => Option SR) (@Option.rec SR (fun _ => Option SR) (askO orc st o σ) (fun r => some r) (askD P st o σ)) (fun r => some r) (opF P st o σ)
theorem opO_some {orc : Orc} {st : Row} {o : Oper} {σ : SH} {r : SR} (h : sOpN P st o σ = some r) : opO P orc st o σ = some r := by
  unfold opO; rw [opF_eq, h]
theorem opO_mid {orc : Orc} {st : Row} {o : Oper} {σ : SH} {r : SR} (h : sOpN P st o σ = none) (h2 : askD P st o σ = some r) : opO P orc st o σ = some r := by
  unfold opO; rw [opF_eq, h, h2]
theorem opO_none {orc : Orc} {st : Row} {o : Oper} {σ : SH} (h : sOpN P st o σ = none) (h2 : askD P st o σ = none) : opO P orc st o σ = askO orc st o σ := by
  unfold opO; rw [opF_eq, h, h2]
theorem opO_or {orc : Orc} {st : Row} {o : Oper} {σ : SH} {r : SR} (h : opO P orc st o σ = some r) : sOpN P st o σ = some r ∨ askD P st o σ = some r ∨ (sOpN P st o σ = none ∧ ∃ l s, evalL st o.op.operands.toList = some l ∧ orc o.op l = some s ∧ r = .val s σ) := by
  cases hx : sOpN P st o σ with
  | some y => rw [opO_some hx] at h; exact .inl h
  | none =>
    cases hy : askD P st o σ with
    | some y => rw [opO_mid hx hy] at h; exact .inr (.inl h)
    | none =>
      rw [opO_none hx hy] at h
      unfold askO at h
      split at h
      · rename_i l hl
        split at h
        · rename_i s hs; cases h; exact .inr (.inr ⟨rfl, l, s, hl, hs, rfl⟩)
        · cases h
      · cases h
theorem opO_ok {orc : Orc} (horc : OrcSound P orc) : OpSound P w0 (opO P orc) := by
  intro st o σ r env a w h ho hr hf
  rcases opO_or h with h | h | ⟨_, l, s, hl, hs, rfl⟩
  · exact sOpN_ok st o σ r env a w h ho hr hf
  · exact askD_ok st o σ r env a w h ho hr hf
  · obtain ⟨v, h1, h2⟩ := horc o.op l s hs w0 env σ w ho hr a.eval (evalL_den hf.tmps hl)
    obtain ⟨d, op, ty, pos, af, g⟩ := o
    exact .same (h2 d ty pos af g) hr h1
theorem opO_cong {orc : Orc} : OpCong (opO P orc) := by
  intro ops st st' o σ h
  have e1 := sOpN_cong (P := P) ops st st' o σ h
  have e2 := askD_cong (P := P) ops st st' o σ h
  have E : ∀ x ∈ o.op.operands.toList, evalS st x = evalS st' x := fun x hx => evalS_cong fun t ht => h t (by
    subst ht
    exact List.mem_append_left _ (List.mem_filterMap.2 ⟨.tmp t, by simpa using hx, rfl⟩))
  cases hx : sOpN P st o σ with
  | some y => rw [opO_some hx, opO_some (e1 ▸ hx)]
  | none =>
    cases hy : askD P st o σ with
    | some y => rw [opO_mid hx hy, opO_mid (e1 ▸ hx) (e2 ▸ hy)]
    | none =>
      rw [opO_none hx hy, opO_none (e1 ▸ hx) (e2 ▸ hy)]
      unfold askO
      rw [evalL_cong E]
theorem opO_still {orc : Orc} : ∀ (st : Row) (o : Oper) (σ : SH) (s : SV) (σ' : SH), stillOp P o.op = true → opO P orc st o σ = some (.val s σ') → σ' = σ := by
  intro st o σ s σ' hs h
  rcases opO_or h with h | h | ⟨_, l, s', _, _, e⟩
  · exact sOpN_still st o σ s σ' hs h
  · exact askD_still st o σ s σ' hs h
  · cases e; rfl
/-- Operations that the table never answers. -/
noncomputable def pureO (oq : Op → Bool) (o : Op) : Bool := pureOp o && !oq o
theorem opO_pure {orc : Orc} {oq : Op → Bool} (hoq : ∀ op l s, orc op l = some s → oq op = true) : ∀ (st : Row) (o : Oper) (σ : SH) (s : SV) (σ' σ1 : SH), pureO oq o.op = true → opO P orc st o σ = some (.val s σ') → ∃ σ2, opO P orc st o σ1 = some (.val s σ2) := by
  intro st o σ s σ' σ1 hs h
  unfold pureO at hs
  rw [Bool.and_eq_true] at hs
  rcases opO_or h with h | h | ⟨_, l, s', _, h2, _⟩
  · obtain ⟨σ2, h2⟩ := sOpN_pure st o σ s σ' σ1 hs.1 h
    exact ⟨σ2, opO_some h2⟩
  · rw [askD_pure st o σ hs.1] at h; cases h
  · rw [hoq _ _ _ h2] at hs; simp at hs
/-- The executor with such a table. -/
noncomputable def regO (P : Program) (orc : Orc) (oq : Op → Bool) (call : CallF) : RegF := regDrawE P (stillOp P) (pureO oq) (opO P orc) call
noncomputable def execO (P : Program) (orc : Orc) (oq : Op → Bool) (summ : CallF) (d : Nat) : CallF := xCall P (opO P orc) summ (fun call => regO P orc oq call) d
theorem regO_ok (hm : P.follows .mixedOrders = true) {orc : Orc} {oq : Op → Bool} (horc : OrcSound P orc) (hoq : ∀ op l s, orc op l = some s → oq op = true) {call : CallF} (hcall : ∀ b, CallSound P b call) : RegSound P w0 (regO P orc oq call) :=
  regDrawE_ok hm (fun _ => opO_ok horc) opO_cong opO_still (opO_pure hoq) hcall
theorem execO_ok (hm : P.follows .mixedOrders = true) {orc : Orc} {oq : Op → Bool} (horc : OrcSound P orc) (hoq : ∀ op l s, orc op l = some s → oq op = true) {summ : CallF} (hsumm : ∀ b, CallSound P b summ) (d : Nat) (b : Base) : CallSound P b (execO P orc oq summ d) :=
  xCall_ok (fun _ => opO_ok horc) hsumm (fun _ hc _ => regO_ok hm horc hoq hc) d b
/-- A piece of code. -/
noncomputable def codeO (P : Program) (orc : Orc) (oq : Op → Bool) (summ : CallF) (d : Nat) (c : Code) : BodyF := xCodeK (opO P orc) (execO P orc oq summ d) (regO P orc oq (execO P orc oq summ d)) c
theorem codeO_ok (hm : P.follows .mixedOrders = true) {orc : Orc} {oq : Op → Bool} (horc : OrcSound P orc) (hoq : ∀ op l s, orc op l = some s → oq op = true) {summ : CallF} (hsumm : ∀ b, CallSound P b summ) (d : Nat) (c : Code) : CodeOk P w0 c (codeO P orc oq summ d c) :=
  xCodeK_ok (opO_ok horc) (execO_ok hm horc hoq hsumm d w0) (regO_ok hm horc hoq (execO_ok hm horc hoq hsumm d)) c

/-- A place in code: left, right, within, then, else. -/
inductive Dir where
  | l | r | i | t | e
noncomputable def codeAt : Code → List Dir → Code
  | c, [] => c
  | .seq a _, .l :: p => codeAt a p
  | .seq _ b, .r :: p => codeAt b p
  | .block _ c, .i :: p => codeAt c p
  | .loop c, .i :: p => codeAt c p
  | .scope c, .i :: p => codeAt c p
  | .cond _ a _, .t :: p => codeAt a p
  | .cond _ _ b, .e :: p => codeAt b p
  | _, _ => .skip
/-- Pieces, one behind the other, and the rest. -/
def seqsC (pre : List Code) (rest : Code) : Code := match pre with
  | [] => rest
  | c :: r => .seq c (seqsC r rest)
/-- Behind the last piece: k. -/
noncomputable def seqsB (body : Code → BodyF) : List Code → BodyF
  | [], st, σ, k => k .normal st σ
  | c :: r, st, σ, k => body c st σ (fun x st' σ' => match x with
      | .normal => seqsB body r st' σ' k
      | .exit id => k (.exit id) st' σ'
      | .ret => k .ret st' σ')
theorem seqsB_ok {body : Code → BodyF} (hb : ∀ c, CodeOk P w0 c (body c)) (rest : Code) : ∀ (pre : List Code) (st : Row) (σ : SH) (k : KX) (outs : Outs), seqsB body pre st σ k = some outs → ∀ env a w, env.ones → Rel P w0 env σ w → FRel env st a → ∀ Q : Exit → Act → World → Prop,
    (∀ x st' σ' outs', k x st' σ' = some outs' → (∀ y ∈ outs', y ∈ outs) → ∀ env' a' w', env.le env' → Rel P w0 env' σ' w' → FRel env' st' a' → match x with
      | .normal => rest.wp P Q a' w'
      | x => Q x.to a' w') → (seqsC pre rest).wp P Q a w := by
  intro pre
  induction pre with
  | nil =>
    intro st σ k outs h env a w ho hr hf Q hq
    exact hq .normal st σ outs h (fun _ hy => hy) env a w (Env.le_refl _) hr hf
  | cons c r ih =>
    intro st σ k outs h env a w ho hr hf Q hq
    have h : body c st σ (fun x st' σ' => match x with
      | .normal => seqsB body r st' σ' k
      | .exit id => k (.exit id) st' σ'
      | .ret => k .ret st' σ') = some outs := h
    refine wp_seq (hb c st σ _ outs h env a w ho hr hf _ ?_)
    intro x st' σ' outs' hk hsub env' a' w' hle hr' hf'
    cases x with
    | normal => exact ih st' σ' k outs' hk env' a' w' (ho.le hle) hr' hf' Q fun x st'' σ'' outs'' hk' hsub' env'' a'' w'' hle' hr'' hf'' => hq x st'' σ'' outs'' hk' (fun y hy => hsub y (hsub' y hy)) env'' a'' w'' (hle.trans' hle') hr'' hf''
    | exit id => exact hq (.exit id) st' σ' outs' hk hsub env' a' w' hle hr' hf'
    | ret => exact hq .ret st' σ' outs' hk hsub env' a' w' hle hr' hf'
end Go.Proofs.YtmcclkdkbedpmabGreatDoor

namespace Go.Proofs.YtmcclkdkbedpmabGreatDoor
open Go Go.RowKit
variable {P : Program} {w0 : Base}

mutual
/-- What a value of the later reading stands for in the earlier one. -/
def gamS (γ : Nat → SV) : SV → SV
  | .opq i => γ i
  | .iface t v => .iface t (gamS γ v)
  | .fn f a b => .fn f (gamL γ a) (gamL γ b)
  | .agg l => .agg (gamL γ l)
  | .tuple l => .tuple (gamL γ l)
  | .int k n => .int k n
  | .bool b => .bool b
  | .str l => .str l
  | .undef => .undef
  | .nilp => .nilp
  | .ptr n o => .ptr n o
  | .gptr n o => .gptr n o
  | .slice n o l c => .slice n o l c
  | .nils => .nils
  | .zslice n o a z d => .zslice n o a z d
  | .map n => .map n
  | .nilm => .nilm
  | .nilf => .nilf
  | .nili => .nili
  | .num i fs u => .num i fs u
def gamL (γ : Nat → SV) : List SV → List SV
  | [] => []
  | x :: r => gamS γ x :: gamL γ r
end
mutual
/-- Names below N, values that nobody looks into below K. -/
def okS (N K : Nat) : SV → Bool
  | .opq i => Nat.blt i K
  | .iface _ v => okS N K v
  | .fn _ a b => okL N K a && okL N K b
  | .agg l => okL N K l
  | .tuple l => okL N K l
  | .ptr n _ => Nat.blt n N
  | .slice n _ _ _ => Nat.blt n N
  | .zslice n _ _ _ _ => Nat.blt n N
  | .map n => Nat.blt n N
  | .num _ _ _ => false
  | _ => true
def okL (N K : Nat) : List SV → Bool
  | [] => true
  | x :: r => okS N K x && okL N K r
end
section
variable {env env' : Env} {N K : Nat} {γ : Nat → SV}
mutual
theorem den_sub (hN : ∀ n, n < N → env'.blocks n = env.blocks n) (hγ : ∀ i, i < K → den env (γ i) = some (env'.given i)) : ∀ s, okS N K s = true → den env' s = den env (gamS γ s)
  | .opq i, h => by simp only [okS] at h; simp only [gamS, den]; rw [hγ i (Nat.le_of_ble_eq_true h)]
  | .iface t v, h => by simp only [okS] at h; simp only [gamS, den, den_sub hN hγ v h]
  | .fn f a b, h => by simp only [okS, Bool.and_eq_true] at h; simp only [gamS, den, denL_sub hN hγ a h.1, denL_sub hN hγ b h.2]
  | .agg l, h => by simp only [okS] at h; simp only [gamS, den, denL_sub hN hγ l h]
  | .tuple l, h => by simp only [okS] at h; simp only [gamS, den, denL_sub hN hγ l h]
  | .ptr n o, h => by simp only [okS] at h; simp only [gamS, den, hN n (Nat.le_of_ble_eq_true h)]
  | .slice n o l c, h => by simp only [okS] at h; simp only [gamS, den, hN n (Nat.le_of_ble_eq_true h)]
  | .zslice n o a z d, h => by simp only [okS] at h; simp only [gamS, den, hN n (Nat.le_of_ble_eq_true h)]
  | .map n, h => by simp only [okS] at h; simp only [gamS, den, hN n (Nat.le_of_ble_eq_true h)]
  | .num _ _ _, h => by simp [okS] at h
  | .int _ _, _ | .bool _, _ | .str _, _ | .undef, _ | .nilp, _ | .gptr _ _, _ | .nils, _ | .nilm, _ | .nilf, _ | .nili, _ => by simp only [gamS, den]
theorem denL_sub (hN : ∀ n, n < N → env'.blocks n = env.blocks n) (hγ : ∀ i, i < K → den env (γ i) = some (env'.given i)) : ∀ l, okL N K l = true → denL env' l = denL env (gamL γ l)
  | [], _ => by simp only [gamL, denL]
  | x :: r, h => by
    simp only [okL, Bool.and_eq_true] at h
    simp only [gamL, denL, den_sub hN hγ x h.1, denL_sub hN hγ r h.2]
end
/-- The slots told anew. -/
noncomputable def canR (N K : Nat) (γ : Nat → SV) (st : Row) : List SV → Nat → Bool
  | [], _ => true
  | s :: r, t => (isJ s || (okS N K s && !isJ (st.at t) && eqS (gamS γ s) (st.at t))) && canR N K γ st r (t + 1)
theorem canR_ok {st : Row} : ∀ {L : List SV} {t : Nat}, canR N K γ st L t = true → ∀ j s, L[j]? = some s → isJ s = true ∨ (okS N K s = true ∧ isJ (st.at (t + j)) = false ∧ gamS γ s = st.at (t + j)) := by
  intro L
  induction L with
  | nil => intro t _ j s h; simp at h
  | cons x r ih =>
    intro t h j s hj
    simp only [canR, Bool.and_eq_true, Bool.or_eq_true, Bool.not_eq_true'] at h
    cases j with
    | zero =>
      simp at hj; subst hj
      rcases h.1 with h1 | ⟨⟨h1, h2⟩, h3⟩
      · exact .inl h1
      · exact .inr ⟨h1, h2, eqS_ok _ _ h3⟩
    | succ j =>
      simp at hj
      have := ih h.2 j s hj
      rwa [show t + 1 + j = t + (j + 1) by omega] at this
theorem can_frel (hN : ∀ n, n < N → env'.blocks n = env.blocks n) (hγ : ∀ i, i < K → den env (γ i) = some (env'.given i)) {st : Row} {a : Act} {L : List SV} (h : FRel env st a) (hn : L.length = st.n) (hc : canR N K γ st L 0 = true) : FRel env' (rowOf L 0) a := by
  refine ⟨?_, fun t => ?_, h.defers⟩
  · rw [← h.size, ← hn]; show Nat.add L.length (Nat.sub 0 L.length) = L.length
    simp
  · rw [rowOf_at]
    rcases Nat.lt_or_ge t L.length with ht | ht
    · rw [List.getElem?_eq_getElem ht]
      rcases canR_ok hc t _ (List.getElem?_eq_getElem ht) with h1 | ⟨h1, h2, h3⟩
      · exact .inl h1
      · right
        rw [Nat.zero_add] at h2 h3
        have hd := (h.tmps t).resolve_left (by rw [h2]; simp)
        show den env' L[t] = _
        rw [den_sub hN hγ _ h1, h3]; exact hd
    · rw [List.getElem?_eq_none ht]
      right
      have : a.tmps.size ≤ t := by rw [← h.size, ← hn]; exact ht
      simp only [Option.getD_none, den, Array.getD_eq_getD_getElem?, Array.getElem?_eq_none this]

def gamPL (γ : Nat → SV) : List (SV × SV) → List (SV × SV)
  | [] => []
  | x :: r => (gamS γ x.1, gamS γ x.2) :: gamPL γ r
def okPL (N K : Nat) : List (SV × SV) → Bool
  | [] => true
  | x :: r => okS N K x.1 && okS N K x.2 && okPL N K r
theorem denPL_sub (hN : ∀ n, n < N → env'.blocks n = env.blocks n) (hγ : ∀ i, i < K → den env (γ i) = some (env'.given i)) : ∀ l, okPL N K l = true → denL env' (l.map (·.1)) = denL env ((gamPL γ l).map (·.1)) ∧ denL env' (l.map (·.2)) = denL env ((gamPL γ l).map (·.2)) := by
  intro l
  induction l with
  | nil => intro _; simp [gamPL, denL]
  | cons x r ih =>
    intro h
    simp only [okPL, Bool.and_eq_true] at h
    obtain ⟨h1, h2⟩ := ih h.2
    simp only [gamPL, List.map_cons, denL, den_sub hN hγ _ h.1.1, den_sub hN hγ _ h.1.2, h1, h2, and_self]
def gamO (γ : Nat → SV) : SO → SO
  | .cells l e x => .cells (gamL γ l) e x
  | .map es => .map (gamPL γ es)
  | .siter l p => .siter l p
  | .miter m a b c => .miter (gamS γ m) a b c
  | .dmap es => .dmap (gamPL γ es)
def okO (N K : Nat) : SO → Bool
  | .cells l _ _ => okL N K l
  | .map es => okPL N K es
  | .siter _ _ => true
  | .miter m _ _ _ => okS N K m
  | .dmap es => okPL N K es
theorem gamL_length (γ : Nat → SV) : ∀ l : List SV, (gamL γ l).length = l.length := by
  intro l
  induction l with
  | nil => rfl
  | cons x r ih => simp [gamL, ih]
theorem ORel_sub {w : World} {b c : Nat} (hN : ∀ n, n < N → env'.blocks n = env.blocks n) (hγ : ∀ i, i < K → den env (γ i) = some (env'.given i)) : ∀ o, okO N K o = true → ORel P env w b c (gamO γ o) → ORel P env' w b c o
  | .cells l e x, hk, h => by
    simp only [okO] at hk
    obtain ⟨cur, t, fr, vs, h1, h2, h3, h4⟩ := h
    rw [gamL_length] at h4
    exact ⟨cur, t, fr, vs, h1, h2, (denL_sub hN hγ l hk).trans h3, h4⟩
  | .map es, hk, h => by
    simp only [okO] at hk
    obtain ⟨ents, clock, ks, vs, h1, h2, h3, h4⟩ := h
    obtain ⟨e1, e2⟩ := denPL_sub hN hγ es hk
    exact ⟨ents, clock, ks, vs, h1, e1.trans h2, e2.trans h3, h4⟩
  | .siter l p, _, h => h
  | .dmap es, hk, h => by
    simp only [okO] at hk
    obtain ⟨ents, clock, ks, vs, h1, h2, h3, h4⟩ := h
    obtain ⟨e1, e2⟩ := denPL_sub hN hγ es hk
    exact ⟨ents, clock, ks, vs, h1, e1.trans h2, e2.trans h3, h4⟩
  | .miter m a b' c', hk, h => by
    simp only [okO] at hk
    obtain ⟨r, h1, h2⟩ := h
    exact ⟨r, (den_sub hN hγ m hk).trans h1, h2⟩
/-- Of a map may be told less. -/
def weakO (o o' : SO) : Bool := match o, o' with
  | .dmap a, .map b => eqPL a b
  | _, _ => false
theorem ORel.weak {w : World} {b c : Nat} {es : List (SV × SV)} (h : ORel P env w b c (.map es)) : ORel P env w b c (.dmap es) := by
  obtain ⟨ents, clock, ks, vs, h1, h2, h3, h4, h5, rfl, h7⟩ := h
  exact ⟨ents, _, ks, vs, h1, h2, h3, h4, h5, born_lt h7, born_nodup h7⟩
theorem weakO_ok {w : World} {b c : Nat} {o o' : SO} (h : weakO o o' = true) (hr : ORel P env w b c o') : ORel P env w b c o := by
  unfold weakO at h
  split at h
  · rw [eqPL_ok _ _ h]; exact hr.weak
  · cases h
/-- The blocks told anew. -/
noncomputable def canH (N K : Nat) (γ : Nat → SV) (σ : SH) : Blks → Bool
  | [] => true
  | x :: r => Nat.blt x.1 N && okO N K x.2 && (match σ.get x.1 with
    | some o => eqSO (gamO γ x.2) o || weakO (gamO γ x.2) o
    | none => false) && canH N K γ σ r
theorem canH_ok {σ : SH} : ∀ {H : Blks}, canH N K γ σ H = true → ∀ n o, (n, o) ∈ H → n < N ∧ okO N K o = true ∧ ∃ o', σ.get n = some o' ∧ (gamO γ o = o' ∨ weakO (gamO γ o) o' = true) := by
  intro H
  induction H with
  | nil => intro _ n o h; cases h
  | cons x r ih =>
    intro h n o hm
    simp only [canH, Bool.and_eq_true] at h
    obtain ⟨⟨⟨h1, h2⟩, h3⟩, h4⟩ := h
    rcases List.mem_cons.1 hm with rfl | hm
    · split at h3
      · rename_i o' ho
        rw [Bool.or_eq_true] at h3
        exact ⟨Nat.le_of_ble_eq_true h1, h2, o', ho, h3.imp (fun h => eqSO_ok _ _ h) id⟩
      · cases h3
    · exact ih h4 n o hm
end
/-- The environment of the later reading. -/
def Env.anew (env : Env) (N : Nat) (g : Nat → Value) : Env := ⟨fun n => if n < N then env.blocks n else none, N, g⟩
theorem Env.anew_blocks (env : Env) {N : Nat} (g : Nat → Value) : ∀ n, n < N → (env.anew N g).blocks n = env.blocks n := fun n h => by
  show (if n < N then env.blocks n else none) = _
  rw [if_pos h]
theorem can_rel {K1 K2 : Known} {env : Env} {N K : Nat} {γ : Nat → SV} {g : Nat → Value} {σ : SH} {w : World} {H : Blks} (h : @Rel K1 P w0 env σ w) (hk : K2.ok w0.w w0.keep g) (hγ : ∀ i, i < K → den env (γ i) = some (g i)) (hc : canH N K γ σ H = true) : @Rel K2 P w0 (env.anew N g) (heapOf N H) w := by
  have hN := env.anew_blocks (N := N) g
  obtain ⟨hok, hbel, hnx, hfr, hobj, hap⟩ := h
  refine @Rel.mk K2 _ _ _ _ _ ⟨hok.1, hok.2.1, hk⟩ hbel ?_ ?_ ?_ ?_
  · show N = (heapOf N H).next
    unfold heapOf; rw [putAll_next]
  · intro n hn
    have hn : N ≤ n := by
      have : (heapOf N H).next = N := by unfold heapOf; rw [putAll_next]
      rwa [this] at hn
    show (if n < N then env.blocks n else none) = none
    rw [if_neg (by omega)]
  · intro n o hg
    obtain ⟨h1, h2, h3⟩ := canH_ok hc n o (heapOf_get hg)
    obtain ⟨o', h3, h4⟩ := h3
    obtain ⟨b, c, e1, e2, e3⟩ := hobj n _ h3
    refine ⟨b, c, (hN n h1).trans e1, e2, ORel_sub hN hγ o h2 ?_⟩
    rcases h4 with h4 | h4
    · rw [h4]; exact e3
    · exact weakO_ok h4 e3
  · intro n m o o' x y hne hg hg' hx hy
    obtain ⟨h1, _, h3⟩ := canH_ok hc n o (heapOf_get hg)
    obtain ⟨h1', _, h3'⟩ := canH_ok hc m o' (heapOf_get hg')
    rw [hN n h1] at hx; rw [hN m h1'] at hy
    obtain ⟨o1, h3, _⟩ := h3
    obtain ⟨o2, h3', _⟩ := h3'
    exact hap n m _ _ x y hne h3 h3' hx hy
/-- The slots with which a call begins. -/
theorem frel_args {env : Env} {args : List SV} {vs : List Value} {m : Nat} (hd : denL env args = some vs) : FRel env (rowOf args m) { tmps := vs.toArray ++ Array.replicate (m - vs.toArray.size) undef, defers := [] } := by
  have hlen := denL_length hd
  refine ⟨?_, fun t => .inr ?_, rfl⟩
  · simp only [rowOf, Array.size_append, Array.size_replicate, List.size_toArray]
    rw [hlen]; rfl
  · rw [rowOf_at, Array.getD_eq_getD_getElem?]
    rcases Nat.lt_or_ge t args.length with ht | ht
    · obtain ⟨v, hv, hdv⟩ := denL_get hd (List.getElem?_eq_getElem ht)
      rw [List.getElem?_eq_getElem ht, Array.getElem?_append_left (by simp; omega), List.getElem?_toArray, hv]
      exact hdv
    · rw [List.getElem?_eq_none ht]
      have e : (vs.toArray ++ Array.replicate (m - vs.toArray.size) undef)[t]?.getD undef = undef := by
        rw [Array.getElem?_append_right (by simp; omega), Array.getElem?_replicate]
        split <;> rfl
      simp only [Option.getD_none, den]
      exact congrArg some e.symm
/-- A frame's end that gives one value. -/
theorem end_ok [Known] {fn : Func} {env : Env} {st : Row} {σ : SH} {w : World} {a : Act} (hr : Rel P w0 env σ w) (hf : FRel env st a) {l : List SV} (h : sRes P st σ fn.results.toList = some l) {R : Ending → World → Prop} (hR : ∀ v, den env (oneOr l) = some v → R (.returned v) w) {x : Exit} (hx : x = .normal ∨ x = .ret) : bodyPost P fn R x a w := by
  obtain ⟨us, h1, h2⟩ := sRes_ok hr hf h
  have : a.defers = [] ∧ ∃ v, (results fn a.tmps).run P w = .ok v w ∧ R (.returned v) w := by
    refine ⟨hf.defers, _, ?_, hR _ (oneOr_den h1)⟩
    rw [results_eq, Array.mapM_eq_mapM_toList]
    simp [h2]
  rcases hx with rfl | rfl <;> exact this
end Go.Proofs.YtmcclkdkbedpmabGreatDoor

namespace Go.Proofs.YtmcclkdkbedpmabGreatDoor
open Go Go.RowKit

noncomputable def bodyM : Code := (Go.Func.body Tryz.f3).getD .skip
noncomputable def preM : List Code := [codeAt bodyM [.l], codeAt bodyM [.r,.l], codeAt bodyM [.r,.r,.l], codeAt bodyM [.r,.r,.r,.l], codeAt bodyM [.r,.r,.r,.r,.l], codeAt bodyM [.r,.r,.r,.r,.r,.l]]
noncomputable def zeroM : Code := codeAt bodyM [.r,.r,.r,.r,.r,.r,.l,.l]
noncomputable def loopM : Code := codeAt bodyM [.r,.r,.r,.r,.r,.r,.l,.r,.i,.i]
noncomputable def postM : Code := codeAt bodyM [.r,.r,.r,.r,.r,.r,.r]
/-- Cells of ids of entries. -/
def midM : SV → Bool
  | .opq i => Nat.blt i 83 && Nat.ble 3 i
  | _ => false
/-- The table. big: are there more than 30 names; b1: is there one more name; b2: is there a number with it; r, s: their remainders by 4. -/
noncomputable def orcM (big b1 b2 : Bool) (r s : Nat) : Orc := fun op l => match op with
  | .call c => match c.callee, c.argTypes.toList, l with
    | .builtin .len, [22], [.opq 0] => some (.opq 104)
    | .builtin .len, [22], [.opq 1] => some (.opq 105)
    | _, _, _ => none
  | .binOp .gtr 3 _ _ _ => match l with
    | [.opq 104, .int .i64 30] => some (.bool big)
    | _ => none
  | .binOp .lss 3 _ _ _ => match l with
    | [.opq 2, .opq 104] => some (.bool b1)
    | [.opq 2, .opq 105] => if b1 then some (.bool b2) else none
    | _ => none
  | .binOp .add 3 _ _ _ => match l with
    | [.opq 2, .int .i64 1] => if b1 then some (.opq 106) else none
    | _ => none
  | .binOp .neq 28 _ _ _ => match l with
    | [.agg x, .agg y] => if eqSL x y && x.all midM && Nat.beq x.length 20 then some (.bool false) else none
    | _ => none
  | .indexAddr 22 _ _ => match l with
    | [.opq 0, .opq 2] => if b1 then some (.opq 100) else none
    | [.opq 1, .opq 2] => if b1 && b2 then some (.opq 102) else none
    | _ => none
  | .load 3 _ => match l with
    | [.opq 100] => if b1 then some (.num 101 [(4, r)] false) else none
    | [.opq 102] => if b1 && b2 then some (.num 103 [(4, s)] false) else none
    | _ => none
  | _ => none
def oqM : Op → Bool
  | .call _ | .binOp _ _ _ _ _ | .indexAddr _ _ _ | .load _ _ => true
  | _ => false
/-- The three nodes. -/
def nodeM (k : Nat) : List Nat := match k with
  | 0 => [4, 165, 198, 234, 132, 23, 13, 212, 158, 68, 17, 194, 181, 0, 118, 8, 199, 251, 245, 23]
  | 1 => [168, 98, 14, 56, 45, 204, 21, 127, 156, 143, 187, 219, 49, 38, 204, 230, 223, 61, 87, 19]
  | _ => [88, 56, 182, 152, 58, 26, 87, 209, 196, 225, 160, 196, 168, 59, 169, 175, 84, 157, 161, 222]
/-- Of a slot that holds this, nothing is known. -/
def jM : SV := .opq 4000000000
/-- The slots at the second loop's head. -/
noncomputable def slotM : List SV := .opq 0 :: .opq 1 :: jM :: jM :: jM :: .ptr 6 0 :: .slice 1720 0 3 (.rest 0) :: jM :: jM :: jM :: .map 1721 :: .opq 2 :: List.replicate 153 jM
/-- Behind the loop. -/
noncomputable def slotP : List SV := slotM.set 11 jM
/-- Entries: names, in order of their coming; values that nobody looks into. -/
noncomputable def esM : List Nat → Nat → List (SV × SV)
  | [], _ => []
  | n :: r, j => (.str [97 + n], .agg ((List.range' (3 + 20 * j) 20).map SV.opq)) :: esM r (j + 1)
noncomputable def heapM (m : List Nat) : Blks := [(5, .dmap (esM m 0)), (1721, .dmap (esM m 0)),
  (3, .map [(.agg (u8s [4, 165, 198, 234, 132, 23, 13, 212, 158, 68, 17, 194, 181, 0, 118, 8, 199, 251, 245, 23]), .int .i64 0), (.agg (u8s [168, 98, 14, 56, 45, 204, 21, 127, 156, 143, 187, 219, 49, 38, 204, 230, 223, 61, 87, 19]), .int .i64 1), (.agg (u8s [88, 56, 182, 152, 58, 26, 87, 209, 196, 225, 160, 196, 168, 59, 169, 175, 84, 157, 161, 222]), .int .i64 2)]),
  (4, .cells [.slice 1717 0 3 (.rest 0), .map 3] 67 true),
  (6, .cells [.map 0, .ptr 2 0, .ptr 4 0, .map 5] 50 true),
  (1720, .cells (u8s [4, 165, 198, 234, 132, 23, 13, 212, 158, 68, 17, 194, 181, 0, 118, 8, 199, 251, 245, 23, 168, 98, 14, 56, 45, 204, 21, 127, 156, 143, 187, 219, 49, 38, 204, 230, 223, 61, 87, 19, 88, 56, 182, 152, 58, 26, 87, 209, 196, 225, 160, 196, 168, 59, 169, 175, 84, 157, 161, 222]) 28 false)]
/-- What an entry was ahead of the round: an older one, or a node. -/
inductive SrcM where
  | old (j : Nat)
  | node (k : Nat)
/-- The next entries: the name r is set to node k (3: taken away). -/
def dropM (r : Nat) : List Nat → Nat → List (Nat × SrcM)
  | [], _ => []
  | n :: t, j => if n = r then dropM r t (j + 1) else (n, .old j) :: dropM r t (j + 1)
def keepM (r k : Nat) : List Nat → Nat → List (Nat × SrcM)
  | [], _ => []
  | n :: t, j => (n, if n = r then .node k else .old j) :: keepM r k t (j + 1)
def nextM (m : List Nat) (r k : Nat) : List (Nat × SrcM) := if k = 3 then dropM r m 0 else if m.contains r then keepM r k m 0 else keepM r k m 0 ++ [(r, .node k)]
noncomputable def gamM (src : List (Nat × SrcM)) (i : Nat) : SV := if i < 3 then (if i = 2 then .opq 106 else .opq i) else match src[(i - 3) / 20]? with
  | some (_, .old j) => .opq (3 + 20 * (j % 4) + (i - 3) % 20)
  | some (_, .node k) => .int .u8 ((nodeM k).getD ((i - 3) % 20) 0 : Nat)
  | none => .opq i
noncomputable def chkM (L : List SV) (γ : Nat → SV) (m' : List Nat) (st : Row) (σ : SH) : Bool := Nat.beq L.length st.n && canR 1722 83 γ st L 0 && canH 1722 83 γ σ (heapM m')
/-- One round. -/
noncomputable def kRound (m : List Nat) (b1 : Bool) (r k : Nat) : KX := fun x st σ => match x, b1 with
  | .normal, true => @Bool.rec (fun _ => Option Outs) none (some []) (chkM slotM (gamM (nextM m r k)) ((nextM m r k).map (·.1)) st σ)
  | .exit 2, false => @Bool.rec (fun _ => Option Outs) none (some []) (chkM slotP SV.opq m st σ)
  | _, _ => none
noncomputable def isE (r : Option Outs) : Bool := match r with
  | some [] => true
  | _ => false
/-- All orders of some names. -/
def statesM : List (List Nat) := [[], [0], [1], [2], [3], [0, 1], [0, 2], [0, 3], [1, 0], [1, 2], [1, 3], [2, 0], [2, 1], [2, 3], [3, 0], [3, 1], [3, 2], [0, 1, 2], [0, 1, 3], [0, 2, 1], [0, 2, 3], [0, 3, 1], [0, 3, 2], [1, 0, 2], [1, 0, 3], [1, 2, 0], [1, 2, 3], [1, 3, 0], [1, 3, 2], [2, 0, 1], [2, 0, 3], [2, 1, 0], [2, 1, 3], [2, 3, 0], [2, 3, 1], [3, 0, 1], [3, 0, 2], [3, 1, 0], [3, 1, 2], [3, 2, 0], [3, 2, 1], [0, 1, 2, 3], [0, 1, 3, 2], [0, 2, 1, 3], [0, 2, 3, 1], [0, 3, 1, 2], [0, 3, 2, 1], [1, 0, 2, 3], [1, 0, 3, 2], [1, 2, 0, 3], [1, 2, 3, 0], [1, 3, 0, 2], [1, 3, 2, 0], [2, 0, 1, 3], [2, 0, 3, 1], [2, 1, 0, 3], [2, 1, 3, 0], [2, 3, 0, 1], [2, 3, 1, 0], [3, 0, 1, 2], [3, 0, 2, 1], [3, 1, 0, 2], [3, 1, 2, 0], [3, 2, 0, 1], [3, 2, 1, 0]]
noncomputable def gam0 (i : Nat) : SV := if i = 2 then .int .i64 0 else .opq i
noncomputable def kPre (body : Code → BodyF) : KX := fun x st σ => match x with
  | .normal => body zeroM st σ (fun x st σ => match x with
    | .normal => @Bool.rec (fun _ => Option Outs) none (some []) (chkM slotM gam0 [] st σ)
    | _ => none)
  | _ => none
noncomputable def kBig : KX := fun x st σ => match x with
  | .ret => endK Tryz.prog Tryz.f3.results.toList .ret st σ
  | _ => none
end Go.Proofs.YtmcclkdkbedpmabGreatDoor

namespace Go.Proofs.YtmcclkdkbedpmabGreatDoor
open Go Go.RowKit

/-- A row of numbers. -/
structure IntsAt (w : World) (keep : Nat → Prop) (A : Option Addr) (n : Nat) : Prop where
  cells : ∀ k, k < n → ∃ b off x, A = some ⟨b, off, none⟩ ∧ keep b ∧ w.cell? ⟨b, off + k, none⟩ = some (.int .i64 x)
/-- What one round knows: i: the round's number; r, s: what the numbers of this round leave by 4. -/
structure RoundM (AN AA : Option Addr) (nN cN nA cA i : Nat) (big b1 b2 : Bool) (r s : Nat) (w : World) (keep : Nat → Prop) (g : Nat → Value) : Prop where
  g0 : g 0 = .slice AN nN cN
  g1 : g 1 = .slice AA nA cA
  g2 : g 2 = .int .i64 i
  g104 : g 104 = .int .i64 nN
  g105 : g 105 = .int .i64 nA
  g106 : g 106 = .int .i64 ((i : Int) + 1)
  mid : ∀ j, 3 ≤ j → j < 83 → ∃ x : Nat, x < 256 ∧ g j = .int .u8 x
  hbig : big = decide (30 < nN)
  hb1 : b1 = decide (i < nN)
  hb2 : b1 = true → b2 = decide (i < nA)
  small : b1 = true → i ≤ 1125899906842624
  first : b1 = true → ∃ b off x, AN = some ⟨b, off, none⟩ ∧ g 100 = .pointer (some ⟨b, off + i, none⟩) ∧ keep b ∧ w.cell? ⟨b, off + i, none⟩ = some (.int .i64 x) ∧ g 101 = .int .i64 x ∧ IntKind.u64.wrap x % 4 = r
  second : b1 = true → b2 = true → ∃ b off x, AA = some ⟨b, off, none⟩ ∧ g 102 = .pointer (some ⟨b, off + i, none⟩) ∧ keep b ∧ w.cell? ⟨b, off + i, none⟩ = some (.int .i64 x) ∧ g 103 = .int .i64 x ∧ IntKind.u64.wrap x % 4 = s
theorem cell_same {w w' : World} {b o : Nat} (h : w'.heap[b]? = w.heap[b]?) : w'.cell? ⟨b, o, none⟩ = w.cell? ⟨b, o, none⟩ := by
  unfold World.cell?; simp only [h]
/-- The known facts of one round. -/
@[reducible] def knownM (AN AA : Option Addr) (nN cN nA cA i : Nat) (big b1 b2 : Bool) (r s : Nat) : Known where
  ok := RoundM AN AA nN cN nA cA i big b1 b2 r s
  mono := fun w w' k k' g hk h => { h with
    first := fun hb => by
      obtain ⟨b, off, x, h1, h2, h3, h4, h5⟩ := h.first hb
      exact ⟨b, off, x, h1, h2, (hk b h3).1, (cell_same (hk b h3).2).trans h4, h5⟩
    second := fun hb hb' => by
      obtain ⟨b, off, x, h1, h2, h3, h4, h5⟩ := h.second hb hb'
      exact ⟨b, off, x, h1, h2, (hk b h3).1, (cell_same (hk b h3).2).trans h4, h5⟩ }

theorem mapM_all {α β : Type} {f : α → Option β} : ∀ {l : List α}, (∀ i ∈ l, ∃ y, f i = some y) → ∃ ys, l.mapM f = some ys := by
  intro l
  induction l with
  | nil => intro _; exact ⟨[], rfl⟩
  | cons x r ih =>
    intro h
    obtain ⟨y, hy⟩ := h x (by simp)
    obtain ⟨ys, hys⟩ := ih fun i hi => h i (by simp [hi])
    exact ⟨y :: ys, by simp [List.mapM_cons, hy, hys]⟩
/-- Twenty bytes, held against themselves. -/
theorem id_same (x : List Value) (hl : x.length = 20) (hx : ∀ v ∈ x, ∃ n : Nat, n < 256 ∧ v = .int .u8 n) (w : World) : (Op.equalIn 10000 28 (.agg x.toArray) (.agg x.toArray)).run Tryz.prog w = .ok true w := by
  have c1 : Tryz.prog.keyTypeAt 8 28 = true := by kernel_rfl
  have c2 : (Value.agg x.toArray).formed Tryz.prog 28 = true := by
    simp only [Value.formed, Tryz.underlying28]
    simp [hl, show Tryz.prog.cellsOf 28 = 20 by kernel_rfl]
  have hlits : ∃ la, Tryz.prog.keyLits 8 28 x = some la := by
    have e8 : Tryz.prog.cellsOf 5 = 1 := by kernel_rfl
    have e20 : Tryz.prog.cellsOf 28 = 20 := by kernel_rfl
    have hm : ∃ ys, (List.range 20).mapM (fun i => Tryz.prog.keyLits 7 5 ((x.drop (i * Tryz.prog.cellsOf 5)).take (Tryz.prog.cellsOf 5))) = some ys := by
      refine mapM_all fun i hi => ?_
      have hi : i < 20 := List.mem_range.1 hi
      obtain ⟨n, hn, hv⟩ := hx x[i] (List.getElem_mem (by omega))
      refine ⟨[.int .u8 n], ?_⟩
      rw [e8, Nat.mul_one, List.drop_eq_getElem_cons (by omega), List.take_succ_cons, List.take_zero, hv]
      unfold Program.keyLits
      simp only [Tryz.underlying5]
      have hw : (Lit.int .u8 (n : Int)).wf = true := by
        simp [Lit.wf, IntKind.min, IntKind.max, IntKind.signed, IntKind.bits]
        omega
      simp [hw]
    obtain ⟨ys, hys⟩ := hm
    refine ⟨ys.flatten, ?_⟩
    unfold Program.keyLits
    simp only [Tryz.underlying28, hl, e20, if_true, hys, Option.map_some]
  obtain ⟨la, hla⟩ := hlits
  obtain ⟨r, hr, hiff⟩ := run_equalIn_deep 9992 8 28 c1 w 8 8 (.agg x.toArray) (.agg x.toArray) la la c2 c2 (by simpa [Value.cells] using hla) (by simpa [Value.cells] using hla)
  rw [hiff.2 rfl] at hr
  exact hr

theorem oqM_ok (big b1 b2 : Bool) (r s : Nat) : ∀ op l x, orcM big b1 b2 r s op l = some x → oqM op = true := by
  intro op l x h
  unfold orcM at h
  cases op <;> first | rfl | (simp at h; done)
theorem denL1 {env : Env} {s : SV} {vs : List Value} (h : denL env [s] = some vs) : ∃ v, den env s = some v ∧ vs = [v] := by
  obtain ⟨v, us, h1, h2, rfl⟩ := denL_cons h
  simp only [denL] at h2; cases h2
  exact ⟨v, h1, rfl⟩
theorem denL2 {env : Env} {s t : SV} {vs : List Value} (h : denL env [s, t] = some vs) : ∃ v u, den env s = some v ∧ den env t = some u ∧ vs = [v, u] := by
  obtain ⟨v, us, h1, h2, rfl⟩ := denL_cons h
  obtain ⟨u, h3, rfl⟩ := denL1 h2
  exact ⟨v, u, h1, h3, rfl⟩
section
variable {AN AA : Option Addr} {nN cN nA cA i : Nat} {big b1 b2 : Bool} {r s : Nat}
theorem mid_den {env : Env} {w : World} {keep : Nat → Prop} (hk : RoundM AN AA nN cN nA cA i big b1 b2 r s w keep env.given) : ∀ {l : List SV} {vs : List Value}, l.all midM = true → denL env l = some vs → vs.length = l.length ∧ ∀ v ∈ vs, ∃ n : Nat, n < 256 ∧ v = .int .u8 n := by
  intro l
  induction l with
  | nil => intro vs _ h; simp only [denL] at h; cases h; exact ⟨rfl, fun v hv => by cases hv⟩
  | cons x t ih =>
    intro vs h1 h2
    obtain ⟨v, us, h3, h4, rfl⟩ := denL_cons h2
    simp only [List.all_cons, Bool.and_eq_true] at h1
    obtain ⟨e1, e2⟩ := ih h1.2 h4
    refine ⟨by simp [e1], fun u hu => ?_⟩
    rcases List.mem_cons.1 hu with rfl | hu
    · cases x <;> simp only [midM, Bool.false_eq_true] at h1 <;> try (cases h1.1; done)
      rename_i j
      rw [Bool.and_eq_true] at h1
      simp only [den, Option.some.injEq] at h3
      obtain ⟨n, hn, hv⟩ := hk.mid j (Nat.le_of_ble_eq_true h1.1.2) (Nat.le_of_ble_eq_true h1.1.1)
      exact ⟨n, hn, by rw [← h3, hv]⟩
    · exact e2 u hu
theorem orcM_ok : @OrcSound (knownM AN AA nN cN nA cA i big b1 b2 r s) Tryz.prog (orcM big b1 b2 r s) := by
  letI : Known := knownM AN AA nN cN nA cA i big b1 b2 r s
  intro op l x h w0 env σ w ho hr ρ hl
  have hk : RoundM AN AA nN cN nA cA i big b1 b2 r s w0.w w0.keep env.given := hr.okay.2.2
  have cell : ∀ b o, w0.keep b → w.cell? ⟨b, o, none⟩ = w0.w.cell? ⟨b, o, none⟩ := fun b o hb => cell_same (hr.below.block b hb).2
  unfold orcM at h
  split at h
  · rename_i c
    obtain ⟨callee, args, tys⟩ := c
    simp only at h
    split at h
    · rename_i ht; cases h
      have e2 : tys = #[22] := by cases tys; simp_all
      subst e2
      simp only [Op.operands, Call.operands, Array.empty_append] at hl
      obtain ⟨v, h1, h2⟩ := denL1 hl
      have e1 : ∃ a, args = #[a] ∧ ρ a = v := by
        obtain ⟨al⟩ := args
        simp at h2
        rcases al with _ | ⟨a, _ | ⟨b, t⟩⟩ <;> simp at h2
        exact ⟨a, rfl, h2⟩
      obtain ⟨a, rfl, ha⟩ := e1
      simp only [den, Option.some.injEq, hk.g0] at h1
      refine ⟨_, rfl, fun d ty pos af g => ?_⟩
      simp [execOp, resolve, invoke, builtin, Builtin.len_, underlying, Tryz.underlying22, ha, ← h1, goInt, hk.g104]
    · rename_i ht; cases h
      have e2 : tys = #[22] := by cases tys; simp_all
      subst e2
      simp only [Op.operands, Call.operands, Array.empty_append] at hl
      obtain ⟨v, h1, h2⟩ := denL1 hl
      have e1 : ∃ a, args = #[a] ∧ ρ a = v := by
        obtain ⟨al⟩ := args
        simp at h2
        rcases al with _ | ⟨a, _ | ⟨b, t⟩⟩ <;> simp at h2
        exact ⟨a, rfl, h2⟩
      obtain ⟨a, rfl, ha⟩ := e1
      simp only [den, Option.some.injEq, hk.g1] at h1
      refine ⟨_, rfl, fun d ty pos af g => ?_⟩
      simp [execOp, resolve, invoke, builtin, Builtin.len_, underlying, Tryz.underlying22, ha, ← h1, goInt, hk.g105]
    · cases h
  · rename_i x' y' B
    · split at h
      · cases h
        obtain ⟨v, u, h1, h2, e⟩ := denL2 hl
        simp only [Op.operands, List.map_cons, List.map_nil, List.cons.injEq, and_true] at e
        obtain ⟨e1, e2⟩ := e
        simp only [den, Option.some.injEq, hk.g104] at h1 h2
        refine ⟨_, rfl, fun d ty pos af g => ?_⟩
        simp [execOp, e1, e2, ← h1, ← h2, eqGuard, binOp, Op.intCmp, Op.intArith, underlying, Tryz.underlying3, hk.hbig]
        omega
      · cases h
  · rename_i x' y' B
    · split at h
      · cases h
        obtain ⟨v, u, h1, h2, e⟩ := denL2 hl
        simp only [Op.operands, List.map_cons, List.map_nil, List.cons.injEq, and_true] at e
        obtain ⟨e1, e2⟩ := e
        simp only [den, Option.some.injEq, hk.g104, hk.g2] at h1 h2
        refine ⟨_, rfl, fun d ty pos af g => ?_⟩
        simp [execOp, e1, e2, ← h1, ← h2, eqGuard, binOp, Op.intCmp, Op.intArith, underlying, Tryz.underlying3, hk.hb1]
      · split at h
        · rename_i hb; cases h
          obtain ⟨v, u, h1, h2, e⟩ := denL2 hl
          simp only [Op.operands, List.map_cons, List.map_nil, List.cons.injEq, and_true] at e
          obtain ⟨e1, e2⟩ := e
          simp only [den, Option.some.injEq, hk.g105, hk.g2] at h1 h2
          refine ⟨_, rfl, fun d ty pos af g => ?_⟩
          simp [execOp, e1, e2, ← h1, ← h2, eqGuard, binOp, Op.intCmp, Op.intArith, underlying, Tryz.underlying3, hk.hb2 hb]
        · cases h
      · cases h
  · rename_i x' y' B
    · split at h
      · split at h
        · rename_i hb; cases h
          obtain ⟨v, u, h1, h2, e⟩ := denL2 hl
          simp only [Op.operands, List.map_cons, List.map_nil, List.cons.injEq, and_true] at e
          obtain ⟨e1, e2⟩ := e
          simp only [den, Option.some.injEq, hk.g2] at h1 h2
          refine ⟨_, rfl, fun d ty pos af g => ?_⟩
          have hs := hk.small hb
          have hw : IntKind.i64.wrap ((i : Int) + 1) = (i : Int) + 1 := IntWalk.i64_in _ (by omega)
          simp [execOp, e1, e2, ← h1, ← h2, eqGuard, binOp, Op.intCmp, Op.intArith, underlying, Tryz.underlying3, hk.g106, hw]
        · cases h
      · cases h
  · rename_i x' y' B
    · split at h
      · rename_i x1 y1
        split at h
        · rename_i hc; cases h
          simp only [Bool.and_eq_true] at hc
          obtain ⟨⟨c1, c2⟩, c3⟩ := hc
          obtain rfl := eqSL_ok _ _ c1
          obtain ⟨v, u, h1, h2, e⟩ := denL2 hl
          simp only [Op.operands, List.map_cons, List.map_nil, List.cons.injEq, and_true] at e
          obtain ⟨e1, e2⟩ := e
          rw [h1] at h2; cases h2
          simp only [den] at h1
          cases hx : denL env x1 with
          | none => rw [hx] at h1; cases h1
          | some vs =>
            rw [hx] at h1; cases h1
            obtain ⟨m1, m2⟩ := mid_den hk c2 hx
            have hrun := id_same vs (by rw [m1]; exact Nat.eq_of_beq_eq_true c3) m2 w
            refine ⟨_, rfl, fun d ty pos af g => ?_⟩
            simp [execOp, e1, e2, eqGuard, binOp, Op.equal, Op.maxDepth, hrun]
        · cases h
      · cases h
  · rename_i x' y'
    · split at h
      · split at h
        · rename_i hb; cases h
          obtain ⟨b, off, x, f1, f2, f3, f4, f5, f6⟩ := hk.first hb
          obtain ⟨v, u, h1, h2, e⟩ := denL2 hl
          simp only [Op.operands, List.map_cons, List.map_nil, List.cons.injEq, and_true] at e
          obtain ⟨e1, e2⟩ := e
          simp only [den, Option.some.injEq, hk.g0, hk.g2, f1] at h1 h2
          have hlt : i < nN := by have := hk.hb1; rw [hb] at this; simpa using this.symm
          refine ⟨_, rfl, fun d ty pos af g => ?_⟩
          simp [execOp, Instr.indexAt, underlying, Tryz.underlying22, e1, e2, ← h1, ← h2, asIntOf, ssize_ok (P := Tryz.prog) (T := 3) (n := 1) (by kernel_rfl), add_none, hlt, f2]
        · cases h
      · split at h
        · rename_i hb; cases h
          rw [Bool.and_eq_true] at hb
          obtain ⟨b, off, x, f1, f2, f3, f4, f5, f6⟩ := hk.second hb.1 hb.2
          obtain ⟨v, u, h1, h2, e⟩ := denL2 hl
          simp only [Op.operands, List.map_cons, List.map_nil, List.cons.injEq, and_true] at e
          obtain ⟨e1, e2⟩ := e
          simp only [den, Option.some.injEq, hk.g1, hk.g2, f1] at h1 h2
          have hlt : i < nA := by have := hk.hb2 hb.1; rw [hb.2] at this; simpa using this.symm
          refine ⟨_, rfl, fun d ty pos af g => ?_⟩
          simp [execOp, Instr.indexAt, underlying, Tryz.underlying22, e1, e2, ← h1, ← h2, asIntOf, ssize_ok (P := Tryz.prog) (T := 3) (n := 1) (by kernel_rfl), add_none, hlt, f2]
        · cases h
      · cases h
  · rename_i x'
    · split at h
      · split at h
        · rename_i hb; cases h
          obtain ⟨b, off, x, f1, f2, f3, f4, f5, f6⟩ := hk.first hb
          obtain ⟨v, h1, e⟩ := denL1 hl
          simp only [Op.operands, List.map_cons, List.map_nil, List.cons.injEq, and_true] at e
          simp only [den, Option.some.injEq, f2] at h1
          have hc := (cell b (off + i) f3).trans f4
          refine ⟨.int .i64 x, by simp [den, f5, numOf', remsOk, f6], fun d ty pos af g => ?_⟩
          simp [execOp, Instr.loadAt, Instr.sureAddr, e, ← h1, asAddr, run_loadVar_one (P := Tryz.prog) (d := .int .i64) Tryz.underlying3 rfl hc]
        · cases h
      · split at h
        · rename_i hb; cases h
          rw [Bool.and_eq_true] at hb
          obtain ⟨b, off, x, f1, f2, f3, f4, f5, f6⟩ := hk.second hb.1 hb.2
          obtain ⟨v, h1, e⟩ := denL1 hl
          simp only [Op.operands, List.map_cons, List.map_nil, List.cons.injEq, and_true] at e
          simp only [den, Option.some.injEq, f2] at h1
          have hc := (cell b (off + i) f3).trans f4
          refine ⟨.int .i64 x, by simp [den, f5, numOf', remsOk, f6], fun d ty pos af g => ?_⟩
          simp [execOp, Instr.loadAt, Instr.sureAddr, e, ← h1, asAddr, run_loadVar_one (P := Tryz.prog) (d := .int .i64) Tryz.underlying3 rfl hc]
        · cases h
      · cases h
  · cases h
end
end Go.Proofs.YtmcclkdkbedpmabGreatDoor

namespace Go.Proofs.YtmcclkdkbedpmabGreatDoor
open Go Go.RowKit
variable [Known]

variable {P : Program}

mutual
/-- A value without names. -/
def plainS : SV → Bool
  | .int _ _ | .bool _ | .str _ | .nilp | .nils | .nilm | .nilf | .nili | .undef => true
  | .agg l => plainL l
  | .tuple l => plainL l
  | .iface _ v => plainS v
  | _ => false
def plainL : List SV → Bool
  | [] => true
  | x :: r => plainS x && plainL r
end
mutual
theorem den_plain (e e' : Env) : ∀ (s : SV), plainS s = true → den e s = den e' s
  | .int _ _, _ | .bool _, _ | .str _, _ | .nilp, _ | .nils, _ | .nilm, _ | .nilf, _ | .nili, _ | .undef, _ => by simp only [den]
  | .agg l, h => by simp only [plainS] at h; simp only [den, denL_plain e e' l h]
  | .tuple l, h => by simp only [plainS] at h; simp only [den, denL_plain e e' l h]
  | .iface t v, h => by simp only [plainS] at h; simp only [den, den_plain e e' v h]
  | .ptr _ _, h | .gptr _ _, h | .slice _ _ _ _, h | .map _, h | .fn _ _ _, h | .opq _, h | .zslice _ _ _ _ _, h | .num _ _ _, h => by simp [plainS] at h
theorem denL_plain (e e' : Env) : ∀ (l : List SV), plainL l = true → denL e l = denL e' l
  | [], _ => by simp only [denL]
  | x :: r, h => by
    simp only [plainL, Bool.and_eq_true] at h
    simp only [denL, den_plain e e' x h.1, denL_plain e e' r h.2]
end

theorem ORel.plain {env env' : Env} {w : World} {b c : Nat} {l : List SV} {e : TypeId} {x : Bool} (h : ORel P env w b c (.cells l e x)) (hp : plainL l = true) : ORel P env' w b c (.cells l e x) := by
  obtain ⟨cur, t, fr, vs, h1, h2, h3, h4⟩ := h
  exact ⟨cur, t, fr, vs, h1, h2, (denL_plain env' env l hp).trans h3, h4⟩

theorem relAt (given : Nat → Value) {env : Env} {w : World} {b c : Nat} (hok : Okay P (baseAt w b) given) {l : List SV} {e : TypeId} {x : Bool} (hp : plainL l = true) (h : ORel P env w b c (.cells l e x)) :
    Rel P (baseAt w b) ((env0 given).push 0 b c) (sh0.push (.cells l e x)) w := by
  have hget : ∀ n o, (sh0.push (.cells l e x)).get n = some o → n = 0 ∧ o = .cells l e x := fun n o h => by
    rcases SH.get_push h with ⟨h1, h2⟩ | ⟨_, h⟩
    · exact ⟨h1, h2⟩
    · have := (SH.get_lt h).2
      simp only [sh0, Tr.get_leaf] at this
      cases this
  refine ⟨hok, ⟨rfl, rfl, rfl, Nat.le_refl _, fun k hk => ⟨hk.1, rfl⟩⟩, rfl, fun n hn => ?_, fun n o h' => ?_, fun n m o o' x y hne h h' => ?_⟩
  · have hn : 0 + 1 ≤ n := hn
    rw [Env.push_ne _ _ _ (by omega)]; rfl
  · obtain ⟨rfl, rfl⟩ := hget n o h'
    exact ⟨b, c, Env.new _ _ _ _, fun hk => hk.2 rfl, h.plain hp⟩
  · exact absurd ((hget n o h).1.trans (hget m o' h').1.symm) hne

/-- The frame: a closed call over one block that ends with that block as it was. -/
theorem frame_call (hm : P.follows .mixedOrders = true) {summ : CallF} (hsumm : ∀ b, CallSound P b summ) {d : Nat} {f : FuncId} {a : SV} {off len : Nat} {cap : SCap} {l : List SV} {e : TypeId} {x : Bool} {v : SV} {σf : SH}
    (hrun : exec P summ d f [a, .slice 0 off len cap] (sh0.push (.cells l e x)) = some [(v, σf)]) (hf : σf.get 0 = some (.cells l e x)) (ha : plainS a = true) (hl : plainL l = true) (hv : plainS v = true)
    {w0 : Base} {env : Env} {σ : SH} {w : World} {n : Nat} {vs : List Value} (ho : env.ones) (hr : Rel P w0 env σ w) (hn : σ.get n = some (.cells l e x)) (hd : denL env [a, .slice n off len cap] = some vs) :
    Calls P f vs.toArray w (Comes1 P w0 env [(v, σ)]) := by
  obtain ⟨b, c, hb, hnk, hO⟩ := hr.obj n _ hn
  have hblt : b < w.heap.size := hO.lt
  have hd1 : denL ((env0 env.given).push 0 b c) [a, .slice 0 off len cap] = some vs := by
    have e1 : ((env0 env.given).push 0 b c).blocks 0 = some (b, c) := Env.new _ _ _ _
    simp only [denL, den, e1] 
    simp only [denL, den, hb] at hd
    rw [den_plain _ env a ha]
    exact hd
  refine (exec_ok hm hsumm d (baseAt w b) f _ _ _ ((env0 env.given).push 0 b c) w vs hrun (fun i => ho i) (relAt env.given (okayAt hr.maxLen (fun g hg (e : g = b) => hnk (by rw [← e]; exact hr.okay.2.1 g hg)) (Known.mono _ _ _ _ _ (fun k hk => ⟨⟨Nat.lt_of_lt_of_le (hr.below.block k hk).1 hr.below.size, fun e => hnk (e ▸ hk)⟩, (hr.below.block k hk).2⟩) hr.okay.2.2)) hl hO) hd1).mono ?_
  rintro en w' ⟨o, hmem, env', u, rfl, hle, hr', hdu⟩
  rw [List.mem_singleton.1 hmem] at hr' hdu
  have hb' : env'.blocks 0 = some (b, c) := hle.some 0 _ (Env.new _ _ _ _)
  obtain ⟨b2, c2, hb2, _, hO2⟩ := hr'.obj 0 _ hf
  rw [hb'] at hb2; cases hb2
  refine ⟨_, List.mem_singleton.2 rfl, env, u, rfl, Env.le_refl _, ?_, (den_plain env env' v hv).trans hdu⟩
  have hsame : ∀ k, k < w.heap.size → k ≠ b → w'.heap[k]? = w.heap[k]? := fun k h1 h2 => (hr'.below.block k ⟨h1, h2⟩).2
  refine ⟨hr.okay, ⟨hr'.below.os.trans hr.below.os, hr'.below.tape.trans hr.below.tape, hr'.below.output.trans hr.below.output, Nat.le_trans hr.below.size hr'.below.size, fun k hk => ?_⟩, hr.nx, hr.fresh, fun m o hm' => ?_, hr.apart⟩
  · obtain ⟨h1, h2⟩ := hr.below.block k hk
    exact ⟨h1, (hsame k (Nat.lt_of_lt_of_le h1 hr.below.size) (fun e => hnk (e ▸ hk))).trans h2⟩
  · obtain ⟨b3, c3, h1, h2, h3⟩ := hr.obj m o hm'
    by_cases hmn : m = n
    · subst hmn
      rw [hn] at hm'; cases hm'
      rw [hb] at h1; cases h1
      exact ⟨b, c, hb, hnk, hO2.plain hl⟩
    · exact ⟨b3, c3, h1, h2, h3.ext ⟨rfl, fun _ _ h => h⟩ (hsame b3 h3.lt (fun e => hr.apart m n _ _ _ _ hmn hm' hn h1 hb e))⟩

/-- The check that a closed run leaves its one block as it was. -/
noncomputable def frameChk (v : SV) (l : List SV) (e : TypeId) (x : Bool) (r : Option Outs) : Bool := match r with
  | some [(y, σ)] => eqS y v && (match σ.get 0 with
    | some (.cells l' e' x') => eqSL l' l && Nat.beq e' e && (x' == x)
    | _ => false)
  | _ => false
theorem frameChk_ok {v : SV} {l : List SV} {e : TypeId} {x : Bool} {r : Option Outs} (h : frameChk v l e x r = true) : ∃ σf, r = some [(v, σf)] ∧ σf.get 0 = some (.cells l e x) := by
  unfold frameChk at h
  split at h
  · rename_i y σ
    rw [Bool.and_eq_true] at h
    obtain ⟨h1, h2⟩ := h
    split at h2
    · rename_i l' e' x' hg
      simp only [Bool.and_eq_true, beq_iff_eq] at h2
      obtain ⟨⟨h3, h4⟩, rfl⟩ := h2
      exact ⟨σ, by rw [eqS_ok _ _ h1], by rw [hg, eqSL_ok _ _ h3, Nat.eq_of_beq_eq_true h4]⟩
    · cases h2
  · cases h
/-- The summary that such a run gives. -/
noncomputable def frameOut (a : SV) (off len : Nat) (cap : SCap) (l : List SV) (e : TypeId) (x : Bool) (v : SV) (args : List SV) (σ : SH) : Option Outs := match args with
  | [a', .slice n off' len' cap'] => @Bool.rec (fun _ => Option Outs) none (match σ.get n with
    | some (.cells l' e' x') => @Bool.rec (fun _ => Option Outs) none (some [(v, σ)]) (eqSL l' l && Nat.beq e' e && (x' == x))
    | _ => none) (eqS a' a && Nat.beq off' off && Nat.beq len' len && eqCap cap' cap)
  | _ => none
theorem frameOut_ok (hm : P.follows .mixedOrders = true) {summ : CallF} (hsumm : ∀ b, CallSound P b summ) {d : Nat} {f : FuncId} {a : SV} {off len : Nat} {cap : SCap} {l : List SV} {e : TypeId} {x : Bool} {v : SV}
    (hrun : frameChk v l e x (exec P summ d f [a, .slice 0 off len cap] (sh0.push (.cells l e x))) = true) (ha : plainS a = true) (hl : plainL l = true) (hv : plainS v = true)
    {w0 : Base} {env : Env} {σ : SH} {w : World} {args : List SV} {outs : Outs} {vs : List Value} (h : frameOut a off len cap l e x v args σ = some outs) (ho : env.ones) (hr : Rel P w0 env σ w) (hd : denL env args = some vs) :
    Calls P f vs.toArray w (Comes1 P w0 env outs) := by
  obtain ⟨σf, h1, h2⟩ := frameChk_ok hrun
  unfold frameOut at h
  split at h
  · rename_i a' n off' len' cap'
    cases hc : (eqS a' a && Nat.beq off' off && Nat.beq len' len && eqCap cap' cap) with
    | false => rw [hc] at h; exact absurd (show (none : Option Outs) = some outs from h) (by simp)
    | true =>
      rw [hc] at h
      simp only [Bool.and_eq_true] at hc
      obtain ⟨⟨⟨c1, c2⟩, c3⟩, c4⟩ := hc
      obtain rfl := eqS_ok _ _ c1
      obtain rfl := Nat.eq_of_beq_eq_true c2
      obtain rfl := Nat.eq_of_beq_eq_true c3
      obtain rfl := eqCap_ok c4
      replace h : (match σ.get n with
        | some (.cells l' e' x') => @Bool.rec (fun _ => Option Outs) none (some [(v, σ)]) (eqSL l' l && Nat.beq e' e && (x' == x))
        | _ => none) = some outs := h
      split at h
      · rename_i l' e' x' hg
        cases hc : (eqSL l' l && Nat.beq e' e && (x' == x)) with
        | false => rw [hc] at h; exact absurd (show (none : Option Outs) = some outs from h) (by simp)
        | true =>
          rw [hc] at h
          replace h : some [(v, σ)] = some outs := h
          cases h
          simp only [Bool.and_eq_true, beq_iff_eq] at hc
          obtain ⟨⟨d1, d2⟩, rfl⟩ := hc
          obtain rfl := eqSL_ok _ _ d1
          obtain rfl := Nat.eq_of_beq_eq_true d2
          exact frame_call hm hsumm h1 h2 ha hl hv ho hr hg hd
      · cases h
  · cases h
end Go.Proofs.YtmcclkdkbedpmabGreatDoor

namespace Go.Proofs.YtmcclkdkbedpmabGreatDoor
open Go Go.RowKit
variable [Known]

set_option maxRecDepth 100000 in
theorem indexByte_any (s : ByteArray) (c : Int) (w : World) :
    Calls Tryz.prog 136 #[.string s, .int .u8 c] w fun e w' => e = .returned (.int .i64 (Lib.indexByte s.data.toList c.toNat.toUInt8)) ∧ w' = w := by
  go_enter Tryz.func136, Tryz.ntmps136
  go_wp2_with fail
  rw [run_callFunc_extern Tryz.func159 (by kernel_rfl) (by kernel_rfl) (by kernel_rfl) (e := Extern.BytealgIndexByte.indexByte) (by kernel_rfl), Lib.run_indexByteString]
  simp only [Result.andThen]
  rw [Oper.upon_value]
  go_wp2_with fail
  go_ret
  exact ⟨rfl, rfl⟩

set_option maxRecDepth 100000 in
theorem compareString_any (a b : ByteArray) (w : World) :
    Calls Tryz.prog 61 #[.string a, .string b] w fun e w' => e = .returned (.int .i64 (Lib.compareBytes a.data.toList b.data.toList)) ∧ w' = w := by
  go_enter Tryz.func61, Tryz.ntmps61
  go_wp2_with fail
  rw [run_callFunc_extern Tryz.func93 (by kernel_rfl) (by kernel_rfl) (by kernel_rfl) (e := Extern.BytealgCompare.compare) (by kernel_rfl), Lib.run_compareString]
  simp only [Result.andThen]
  rw [Oper.upon_value]
  go_wp2_with fail
  go_ret
  exact ⟨rfl, rfl⟩

/-- Where a byte stands first. -/
noncomputable def idxN (c : Nat) (l : List Nat) : Nat → Option Nat :=
  @List.rec Nat (fun _ => Nat → Option Nat) (fun _ => none) (fun x _ ih i => @Bool.rec (fun _ => Option Nat) (ih (Nat.succ i)) (some i) (Nat.beq (Nat.mod x 256) c)) l
noncomputable def idxS (c : Nat) (l : List Nat) : Int := match idxN c l 0 with
  | some i => (i : Nat)
  | none => -1
theorem idxN_ok (c : Nat) (hc : c < 256) : ∀ (l : List Nat) (i : Nat), (match idxN c l i with
    | some k => Lib.indexByte (l.map UInt8.ofNat) (UInt8.ofNat c) + i = (k : Nat) ∧ 0 ≤ Lib.indexByte (l.map UInt8.ofNat) (UInt8.ofNat c)
    | none => Lib.indexByte (l.map UInt8.ofNat) (UInt8.ofNat c) = -1) := by
  intro l
  induction l with
  | nil => intro i; rfl
  | cons x r ih =>
    intro i
    have hb : ((UInt8.ofNat x) == (UInt8.ofNat c)) = Nat.beq (Nat.mod x 256) c := by
      have e1 : ((UInt8.ofNat x) == (UInt8.ofNat c)) = decide (x % 256 = c % 256) := by
        have := u8_eq x c
        rw [this]; rfl
      rw [e1, Nat.mod_eq_of_lt hc]
      cases h : Nat.beq (Nat.mod x 256) c with
      | true => exact decide_eq_true (Nat.eq_of_beq_eq_true h)
      | false => exact decide_eq_false (Nat.ne_of_beq_eq_false h)
    show (match @Bool.rec (fun _ => Option Nat) (idxN c r (Nat.succ i)) (some i) (Nat.beq (Nat.mod x 256) c) with
      | some k => Lib.indexByte (UInt8.ofNat x :: r.map UInt8.ofNat) (UInt8.ofNat c) + i = (k : Nat) ∧ 0 ≤ Lib.indexByte (UInt8.ofNat x :: r.map UInt8.ofNat) (UInt8.ofNat c)
      | none => Lib.indexByte (UInt8.ofNat x :: r.map UInt8.ofNat) (UInt8.ofNat c) = -1)
    simp only [Lib.indexByte, hb]
    cases h : Nat.beq (Nat.mod x 256) c with
    | true => simp
    | false =>
      have hi := ih (i + 1)
      show (match idxN c r (i + 1) with
        | some k => _
        | none => _)
      cases hk : idxN c r (i + 1) with
      | some k =>
        rw [hk] at hi
        obtain ⟨h1, h2⟩ := hi
        have hne : ¬ ((Lib.indexByte (r.map UInt8.ofNat) (UInt8.ofNat c) == -1) = true) := by
          intro he
          have := eq_of_beq he
          omega
        simp only [Bool.false_eq_true, if_false, hne]
        omega
      | none =>
        rw [hk] at hi
        simp only at hi
        simp [hi]
theorem idxS_ok (c : Nat) (hc : c < 256) (l : List Nat) : Lib.indexByte (bytesOf l).data.toList (UInt8.ofNat c) = idxS c l := by
  rw [bytesOf_list]
  have h := idxN_ok c hc l 0
  unfold idxS
  cases hk : idxN c l 0 with
  | some k => rw [hk] at h; have := h.1; simp only; omega
  | none => rw [hk] at h; exact h
noncomputable def cmpS (a b : List Nat) : Int := @Bool.rec (fun _ => Int) (@Bool.rec (fun _ => Int) 1 0 (eqBytes a b)) (-1) (ltBytes a b)
theorem cmpS_ok : ∀ (a b : List Nat), Lib.compareBytes (a.map UInt8.ofNat) (b.map UInt8.ofNat) = cmpS a b := by
  intro a
  induction a with
  | nil => intro b; cases b <;> rfl
  | cons x r ih =>
    intro b
    cases b with
    | nil => rfl
    | cons y s =>
      have hlt : ∀ p q : Nat, (UInt8.ofNat p < UInt8.ofNat q) ↔ p % 256 < q % 256 := fun p q => by
        rw [UInt8.lt_iff_toNat_lt]; simp
      simp only [List.map_cons, Lib.compareBytes, hlt, ih]
      unfold cmpS
      simp only [ltBytes, eqBytes]
      by_cases h1 : x % 256 < y % 256
      · simp [h1]
      · by_cases h2 : y % 256 < x % 256
        · have h3 : (x % 256 == y % 256) = false := by simp; omega
          rw [h3]; simp [h1, h2]
        · have h3 : x % 256 = y % 256 := by omega
          simp [h3]

noncomputable def indexOut (args : List SV) (σ : SH) : Option Outs := match args with
  | [.str l, .int .u8 (.ofNat c)] => @Bool.rec (fun _ => Option Outs) none (some [(.int .i64 (idxS c l), σ)]) (Nat.blt c 256)
  | _ => none
theorem indexOut_ok (b : Base) {args : List SV} {σ : SH} {outs : Outs} {env : Env} {w : World} {vs : List Value} (h : indexOut args σ = some outs) (hr : Rel Tryz.prog b env σ w) (ha : denL env args = some vs) :
    Calls Tryz.prog 136 vs.toArray w (Comes1 Tryz.prog b env outs) := by
  unfold indexOut at h
  split at h
  · rename_i l c
    cases hc : Nat.blt c 256 with
    | false => rw [hc] at h; cases h
    | true =>
      rw [hc] at h
      replace h : some [(SV.int .i64 (idxS c l), σ)] = some outs := h
      cases h
      have hc : c < 256 := Nat.le_of_ble_eq_true hc
      obtain ⟨v, us, h1, h2, rfl⟩ := denL_cons ha
      obtain ⟨v2, us2, h3, h4, rfl⟩ := denL_cons h2
      simp only [den, Option.some.injEq] at h1 h3; subst h1; subst h3
      simp only [denL] at h4; cases h4
      refine (indexByte_any (bytesOf l) (c : Nat) w).mono ?_
      rintro e w' ⟨rfl, rfl⟩
      refine ⟨_, List.mem_singleton.2 rfl, env, _, rfl, Env.le_refl _, hr, ?_⟩
      simp only [den]
      rw [← idxS_ok c hc l]
      rfl
  · cases h
noncomputable def compareOut (args : List SV) (σ : SH) : Option Outs := match args with
  | [.str l, .str m] => some [(.int .i64 (cmpS l m), σ)]
  | _ => none
theorem compareOut_ok (b : Base) {args : List SV} {σ : SH} {outs : Outs} {env : Env} {w : World} {vs : List Value} (h : compareOut args σ = some outs) (hr : Rel Tryz.prog b env σ w) (ha : denL env args = some vs) :
    Calls Tryz.prog 61 vs.toArray w (Comes1 Tryz.prog b env outs) := by
  unfold compareOut at h
  split at h
  · rename_i l m; cases h
    obtain ⟨v, us, h1, h2, rfl⟩ := denL_cons ha
    obtain ⟨v2, us2, h3, h4, rfl⟩ := denL_cons h2
    simp only [den, Option.some.injEq] at h1 h3; subst h1; subst h3
    simp only [denL] at h4; cases h4
    refine (compareString_any (bytesOf l) (bytesOf m) w).mono ?_
    rintro e w' ⟨rfl, rfl⟩
    refine ⟨_, List.mem_singleton.2 rfl, env, _, rfl, Env.le_refl _, hr, ?_⟩
    simp only [den]
    rw [bytesOf_list, bytesOf_list, cmpS_ok]
  · cases h

set_option maxRecDepth 100000 in
theorem count1_aux (s : ByteArray) (c : UInt8) (w : World) :
    Calls Tryz.prog 148 #[.string s, .string ⟨#[c]⟩] w fun e w' => e = .returned (.int .i64 (Lib.countByte s.data.toList c)) ∧ w' = w := by
  go_enter Tryz.func148, Tryz.ntmps148
  go_wp2
  rw [run_callFunc_extern Tryz.func173 (by kernel_rfl) (by kernel_rfl) (by kernel_rfl) (e := Extern.BytealgCount.count) (by kernel_rfl), Lib.run_countString]
  simp only [Result.andThen]
  rw [Oper.upon_value]
  go_wp2
  go_ret
  exact ⟨rfl, rfl⟩
noncomputable def cntN (c : Nat) (l : List Nat) : Nat :=
  @List.rec Nat (fun _ => Nat) 0 (fun x _ ih => @Bool.rec (fun _ => Nat) ih (Nat.succ ih) (Nat.beq (Nat.mod x 256) c)) l
theorem cntN_ok (c : Nat) (hc : c < 256) : ∀ l : List Nat, Lib.countByte (l.map UInt8.ofNat) (UInt8.ofNat c) = cntN c l := by
  intro l
  induction l with
  | nil => rfl
  | cons x r ih =>
    have hb : ((UInt8.ofNat x) == (UInt8.ofNat c)) = Nat.beq (Nat.mod x 256) c := by
      have e1 : ((UInt8.ofNat x) == (UInt8.ofNat c)) = decide (x % 256 = c % 256) := by
        have := u8_eq x c
        rw [this]; rfl
      rw [e1, Nat.mod_eq_of_lt hc]
      cases h : Nat.beq (Nat.mod x 256) c with
      | true => exact decide_eq_true (Nat.eq_of_beq_eq_true h)
      | false => exact decide_eq_false (Nat.ne_of_beq_eq_false h)
    unfold Lib.countByte at ih ⊢
    rw [List.map_cons, List.count_cons, hb, ih]
    show _ = @Bool.rec (fun _ => Nat) (cntN c r) (Nat.succ (cntN c r)) (Nat.beq (Nat.mod x 256) c)
    cases Nat.beq (Nat.mod x 256) c <;> simp
noncomputable def countOut (args : List SV) (σ : SH) : Option Outs := match args with
  | [.str l, .str [c]] => @Bool.rec (fun _ => Option Outs) none (some [(.int .i64 (cntN c l : Nat), σ)]) (Nat.blt c 256)
  | _ => none
theorem countOut_ok (b : Base) {args : List SV} {σ : SH} {outs : Outs} {env : Env} {w : World} {vs : List Value} (h : countOut args σ = some outs) (hr : Rel Tryz.prog b env σ w) (ha : denL env args = some vs) :
    Calls Tryz.prog 148 vs.toArray w (Comes1 Tryz.prog b env outs) := by
  unfold countOut at h
  split at h
  · rename_i l c
    cases hc : Nat.blt c 256 with
    | false => rw [hc] at h; cases h
    | true =>
      rw [hc] at h
      replace h : some [(SV.int .i64 (cntN c l : Nat), σ)] = some outs := h
      cases h
      have hc : c < 256 := Nat.le_of_ble_eq_true hc
      obtain ⟨v, us, h1, h2, rfl⟩ := denL_cons ha
      obtain ⟨v2, us2, h3, h4, rfl⟩ := denL_cons h2
      simp only [den, Option.some.injEq] at h1 h3; subst h1; subst h3
      simp only [denL] at h4; cases h4
      refine (count1_aux (bytesOf l) (UInt8.ofNat c) w).mono ?_
      rintro e w' ⟨rfl, rfl⟩
      refine ⟨_, List.mem_singleton.2 rfl, env, _, rfl, Env.le_refl _, hr, ?_⟩
      simp only [den]
      rw [bytesOf_list, cntN_ok c hc]
  · cases h
end Go.Proofs.YtmcclkdkbedpmabGreatDoor

namespace Go.Proofs.YtmcclkdkbedpmabGreatDoor
open Go Go.RowKit
variable [Known]

def preN : List Nat → List Nat → Bool
  | [], _ => true
  | a :: x, b :: y => Nat.beq (Nat.mod a 256) (Nat.mod b 256) && preN x y
  | _ :: _, [] => false
def subN (m : List Nat) : List Nat → Nat → Option Nat
  | [], i => bif preN m [] then some i else none
  | b :: r, i => bif preN m (b :: r) then some i else subN m r (i + 1)
def subS (l m : List Nat) : Int := match subN m l 0 with
  | some i => (i : Nat)
  | none => -1
theorem preN_ok : ∀ (m l : List Nat), (m.map UInt8.ofNat).isPrefixOf (l.map UInt8.ofNat) = preN m l := by
  intro m
  induction m with
  | nil => intro l; simp [preN]
  | cons a x ih =>
    intro l
    cases l with
    | nil => rfl
    | cons b y =>
      simp only [List.map_cons, List.isPrefixOf_cons_cons, preN, ih, u8_eq]
      congr 1
      rw [Bool.eq_iff_iff, beq_iff_eq, Nat.beq_eq]
      rfl
theorem subN_ok (m : List Nat) : ∀ (l : List Nat) (i : Nat), (match subN m l i with
    | some k => Lib.index (l.map UInt8.ofNat) (m.map UInt8.ofNat) + i = (k : Nat) ∧ 0 ≤ Lib.index (l.map UInt8.ofNat) (m.map UInt8.ofNat)
    | none => Lib.index (l.map UInt8.ofNat) (m.map UInt8.ofNat) = -1) := by
  intro l
  induction l with
  | nil =>
    intro i
    cases m with
    | nil => simp [subN, preN, Lib.index]
    | cons a x => simp [subN, preN, Lib.index]
  | cons b r ih =>
    intro i
    have hp := preN_ok m (b :: r)
    rw [List.map_cons] at hp ⊢
    unfold Lib.index
    rw [hp]
    simp only [subN]
    cases h : preN m (b :: r) with
    | true => simp
    | false =>
      have hi := ih (i + 1)
      simp only [cond_false, Bool.false_eq_true, if_false]
      cases hk : subN m r (i + 1) with
      | some k =>
        rw [hk] at hi
        obtain ⟨h1, h2⟩ := hi
        have hne : ¬ ((Lib.index (r.map UInt8.ofNat) (m.map UInt8.ofNat) == -1) = true) := by
          intro he
          have := eq_of_beq he
          omega
        simp only [hne, Bool.false_eq_true, if_false]
        omega
      | none =>
        rw [hk] at hi
        simp only at hi
        simp [hi]
theorem subS_ok (l m : List Nat) : Lib.index (bytesOf l).data.toList (bytesOf m).data.toList = subS l m := by
  rw [bytesOf_list, bytesOf_list]
  have h := subN_ok m l 0
  unfold subS
  cases hk : subN m l 0 with
  | some k => rw [hk] at h; have := h.1; simp only; omega
  | none => rw [hk] at h; exact h

noncomputable def subOut (args : List SV) (σ : SH) : Option Outs := match args with
  | [.str l, .str m] => @Bool.rec (fun _ => Option Outs) none (some [(.int .i64 (subS l m), σ)]) (Nat.blt l.length 4294967281)
  | _ => none
theorem subOut_ok (b : Base) {args : List SV} {σ : SH} {outs : Outs} {env : Env} {w : World} {vs : List Value} (h : subOut args σ = some outs) (hr : Rel Tryz.prog b env σ w) (ha : denL env args = some vs) :
    Calls Tryz.prog 102 vs.toArray w (Comes1 Tryz.prog b env outs) := by
  unfold subOut at h
  split at h
  · rename_i l m
    cases hc : Nat.blt l.length 4294967281 with
    | false => rw [hc] at h; cases h
    | true =>
      rw [hc] at h
      replace h : some [(SV.int .i64 (subS l m), σ)] = some outs := h
      cases h
      have hc : l.length < 4294967281 := Nat.le_of_ble_eq_true hc
      obtain ⟨v, us, h1, h2, rfl⟩ := denL_cons ha
      obtain ⟨v2, us2, h3, h4, rfl⟩ := denL_cons h2
      simp only [den, Option.some.injEq] at h1 h3; subst h1; subst h3
      simp only [denL] at h4; cases h4
      obtain ⟨m0, hm0⟩ := hr.maxLen 0 (by kernel_rfl)
      refine (Tryz.stringslite_Index (bytesOf l) (bytesOf m) m0 w (by rw [bytesOf_size]; exact hc) hm0).mono ?_
      rintro e w' ⟨rfl, rfl⟩
      refine ⟨_, List.mem_singleton.2 rfl, env, _, rfl, Env.le_refl _, hr, ?_⟩
      simp only [den]
      rw [← subS_ok]
  · cases h
end Go.Proofs.YtmcclkdkbedpmabGreatDoor

namespace Go.Proofs.YtmcclkdkbedpmabGreatDoor
open Go Go.RowKit

theorem sizeBuilder : (Tryz.prog.info? 141).map (·.size) = some 2 := by kernel_rfl
theorem liesBuilder : liesAt Tryz.prog Tryz.prog.depth 141 (2 / Tryz.prog.cellsOf 141) 0 141 1 = true := by kernel_rfl
theorem infoByte : (Tryz.prog.info? 5).map (fun i => (i.zero, i.size, i.bytes)) = some (some (.int .u8 0), 1, 1) := by kernel_rfl
theorem cellsByte : Tryz.prog.cellsOf 5 = 1 := by kernel_rfl

set_option maxHeartbeats 1000000 in
set_option maxRecDepth 100000 in
theorem copyCheck_used (b : Nat) (w : World) (h0 : w.cell? ⟨b, 0, none⟩ = some (.pointer (some ⟨b, 0, none⟩))) :
    Calls Tryz.prog 101 #[.pointer (some ⟨b, 0, none⟩)] w fun e w' => e = .returned (.tuple #[]) ∧ w' = w := by
  obtain ⟨j, hj, _⟩ := Option.map_eq_some_iff.1 sizeBuilder
  go_enter Tryz.func101, Tryz.ntmps101
  go_wp2
  rw [Lib.run_neq_ptr_same w _ Tryz.underlying139 hj]
  go_wp2
  go_end0
  exact ⟨rfl, rfl⟩

set_option maxHeartbeats 1000000 in
set_option maxRecDepth 100000 in
theorem copyCheck_fresh (b : Nat) (w : World) (h0 : w.cell? ⟨b, 0, none⟩ = some (.pointer none)) (hsh : w.shape? b = some (141, 2)) (hfz : w.frozen? ⟨b, 0, none⟩ = false) :
    Calls Tryz.prog 101 #[.pointer (some ⟨b, 0, none⟩)] w fun e w' => e = .returned (.tuple #[]) ∧ w' = w.setCell ⟨b, 0, none⟩ (.pointer (some ⟨b, 0, none⟩)) := by
  obtain ⟨j, hj, hjs⟩ := Option.map_eq_some_iff.1 sizeBuilder
  go_enter Tryz.func101, Tryz.ntmps101
  go_wp2
  rw [Lib.run_to_unsafe w ⟨b, 0, none⟩ Tryz.underlying139 Tryz.underlying219 hj (by rw [hjs]; decide) hsh (Nat.zero_lt_succ 1)]
  simp only [Result.andThen]
  rw [Oper.upon_value]
  go_wp2
  rw [run_callFunc_extern Tryz.func135 (by kernel_rfl) (by kernel_rfl) (by kernel_rfl) (e := Extern.AbiNoEscape.same) (by kernel_rfl)]
  rw [Lib.run_noEscape]
  simp only [Result.andThen]
  rw [Oper.upon_value]
  go_wp2
  rw [Lib.run_from_unsafe w ⟨b, 0, none⟩ Tryz.underlying219 Tryz.underlying139 hj hsh liesBuilder]
  simp only [Result.andThen]
  rw [Oper.upon_value]
  go_wp2
  go_end0
  exact ⟨rfl, rfl⟩

theorem copyCheck_any (B b : Nat) (bs : List Value) (w : World) (h : Lib.IsBuilder 141 5 B b bs w) :
    Calls Tryz.prog 101 #[.pointer (some ⟨b, 0, none⟩)] w fun e w' => e = .returned (.tuple #[]) ∧ (Lib.BuilderAt 141 5 B b (.pointer (some ⟨b, 0, none⟩)) bs w' ∧ Below B w w') := by
  rcases h with h | h
  · refine (copyCheck_fresh b w h.cell0 h.shape h.frozen0).mono ?_
    rintro e w' ⟨rfl, rfl⟩
    exact ⟨rfl, h.used _, (Below.refl B w).setCell (p := ⟨b, 0, none⟩) h.1 _⟩
  · refine (copyCheck_used b w h.cell0).mono ?_
    rintro e w' ⟨rfl, rfl⟩
    exact ⟨rfl, h, Below.refl B _⟩

set_option maxHeartbeats 2000000 in
set_option maxRecDepth 100000 in
theorem writeByte_any (B b : Nat) (bs : List Value) (c : Int) (w : World) (h : Lib.IsBuilder 141 5 B b bs w) (hlen : bs.length + 1 ≤ 140737488355328) (hBw : B ≤ w.heap.size) :
    Calls Tryz.prog 68 #[.pointer (some ⟨b, 0, none⟩), .int .u8 c] w fun e w' => e = .returned .nilIface ∧ (Lib.BuilderAt 141 5 B b (.pointer (some ⟨b, 0, none⟩)) (bs ++ [.int .u8 c]) w' ∧ Below B w w') := by
  obtain ⟨i0, hi, hz0, hz1, hz2⟩ := info_parts infoByte
  go_enter Tryz.func68, Tryz.ntmps68
  go_wp2_with (go_at_call 101; refine (copyCheck_any B b bs _ h).mono ?_)
  rintro e w1 ⟨rfl, h1, hb1⟩
  obtain ⟨hB, v, hbk, hown, hne⟩ := h1
  have c0 : w1.cell? ⟨b, 0, none⟩ = some (.pointer (some ⟨b, 0, none⟩)) := by rw [Lib.cell_of_heap hbk]; rfl
  have c1 : w1.cell? ⟨b, 1, none⟩ = some v := by rw [Lib.cell_of_heap hbk]; rfl
  go_wp2_with (at_builtin; refine wpList_append_own _ rfl _ _ 32 rfl B 5 i0 (.int .u8 0) 1 1 Tryz.underlying32 hi hz0 hz1 hz2 rfl (by decide) _ _ _ rfl (hown.alloc _) ⟨w1.heap.size, 0, none⟩ 1 1 [.int .u8 c] rfl rfl ?c1 ?c2 ?c3 ?c4 ?c5 ?_)
  case c1 =>
    intro j u hj
    match j, hj with
    | 0, hj => simp at hj; subst hj; simp [Addr.add]
  case c2 => intro u hu; simp at hu; subst hu; rfl
  case c3 => unfold maxLen; omega
  case c4 => omega
  case c5 => have := hb1.size; simp; omega
  intro v' w2 hown' hgrow _
  have hlt : b < w1.heap.size := by
    rcases Nat.lt_or_ge b w1.heap.size with h' | h'
    · exact h'
    · simp [Array.getElem?_eq_none h'] at hbk
  have hb2 : w2.heap[b]? = some (.cells #[.pointer (some ⟨b, 0, none⟩), v] 141 (0, 0)) := by
    rw [hgrow.block b (by simp; omega) (fun e => hne e.symm), Lib.alloc_old w1 _ b hlt]
    exact hbk
  have d0 : w2.cell? ⟨b, 0, none⟩ = some (.pointer (some ⟨b, 0, none⟩)) := by rw [Lib.cell_of_heap hb2]; rfl
  have d1 : w2.cell? ⟨b, 1, none⟩ = some v := by rw [Lib.cell_of_heap hb2]; rfl
  have f1 : w2.frozen? ⟨b, 1, none⟩ = false := Lib.frozen_of_heap hb2 1
  obtain ⟨g, cap, rfl⟩ : ∃ g cap, v' = .slice (some ⟨g, 0, none⟩) (bs.length + 1) cap := by
    rcases hown'.2 with ⟨_, h0⟩ | ⟨g, cap, cur, hv, _⟩
    · omega
    · exact ⟨g, cap, hv⟩
  go_wp2
  go_ret
  refine ⟨rfl, ?_, ?_⟩
  · exact Lib.BuilderAt.put (T := 141) (e := 5) hB hb2 (bs' := bs ++ [.int .u8 c]) (by simpa using hown') (by decide)
  · exact ((hb1.alloc (by have := hb1.size; omega) _).grown hgrow (by have := hb1.size; simp; omega) (fun k hk => (hown.lt k hk).1)).setCell (p := ⟨b, 1, none⟩) hB _

set_option maxHeartbeats 1000000 in
set_option maxRecDepth 100000 in
theorem builderString_any (B b : Nat) (l : List UInt8) (w : World) (h : Lib.IsBuilder 141 5 B b (Lib.byteCells l) w) (h0 : l ≠ []) :
    Calls Tryz.prog 69 #[.pointer (some ⟨b, 0, none⟩)] w fun e w' => e = .returned (.string ⟨l.toArray⟩) ∧ Below B w w' := by
  obtain ⟨p, hB, v, hbk, hown, hne⟩ : ∃ p, Lib.BuilderAt 141 5 B b p (Lib.byteCells l) w := by
    rcases h with h | h
    · exact ⟨_, h⟩
    · exact ⟨_, h⟩
  have hl0 : l.length ≠ 0 := by simpa using h0
  rw [Lib.byteCells_length] at hown
  obtain ⟨g, cap, cur, rfl, hbg, hg, hnc, hcm, hcs, htake⟩ : ∃ g cap cur, v = .slice (some ⟨g, 0, none⟩) l.length cap ∧ B ≤ g ∧ w.heap[g]? = some (.cells cur 5 (0, 0)) ∧ l.length ≤ cap ∧ cap ≤ maxLen ∧ cur.size = cap * 1 ∧ cur.toList.take (l.length * 1) = Lib.byteCells l := by
    rcases hown.2 with ⟨_, hz⟩ | ⟨g, cap, cur, hv, r⟩
    · exact absurd hz hl0
    · exact ⟨g, cap, cur, hv, r⟩
  have c1 : w.drew.cell? ⟨b, 1, none⟩ = some (.slice (some ⟨g, 0, none⟩) l.length cap) := by
    have : w.drew.heap[b]? = some (.cells #[p, .slice (some ⟨g, 0, none⟩) l.length cap] 141 (0, 0)) := hbk
    rw [Lib.cell_of_heap this]; rfl
  have hSD : (Builtin.unsafeSliceData_ #[32] 181 #[.slice (some ⟨g, 0, none⟩) l.length cap]).run Tryz.prog w.drew = .ok (.pointer (some ⟨g, 0, none⟩)) w.drew :=
    Lib.run_unsafeSliceData_row _ _ _ _ _ _ (by omega)
  have hUS : (Builtin.unsafeString_ #[181, 3] 9 #[.pointer (some ⟨g, 0, none⟩), .int .i64 l.length]).run Tryz.prog w.drew = .ok (.string ⟨l.toArray⟩) (w.drew.freeze ⟨g, 0, none⟩ l.length) := by
    refine Lib.run_unsafeString_row w.drew 181 3 9 5 Tryz.underlying181 cellsByte g cur.size (by have hg' : w.drew.heap[g]? = some (.cells cur 5 (0, 0)) := hg; simp [World.shape?, hg']) l h0 (by omega) (by unfold maxLen at hcm; omega) ?_
    intro j x hx
    have := hown.cells (g := g) rfl j (.int .u8 x.toNat) (by simp [Lib.byteCells, hx])
    exact this
  go_enter Tryz.func69, Tryz.ntmps69
  go_wp2
  go_region
  all_goals (go_wp2; go_ret; exact ⟨rfl, Lib.below_freeze (Below.drew (Below.refl B w)) (p := ⟨g, 0, none⟩) hbg _⟩)

def hexDigit (n : Nat) : UInt8 := if n < 10 then UInt8.ofNat (48 + n) else UInt8.ofNat (87 + n)
def hexOf : List UInt8 → List UInt8
  | [] => []
  | c :: r => hexDigit (c.toNat / 16) :: hexDigit (c.toNat % 16) :: hexOf r
theorem hexOf_append (a b : List UInt8) : hexOf (a ++ b) = hexOf a ++ hexOf b := by
  induction a with
  | nil => rfl
  | cons x r ih => simp [hexOf, ih]
theorem hexOf_length (a : List UInt8) : (hexOf a).length = 2 * a.length := by
  induction a with
  | nil => rfl
  | cons x r ih => simp [hexOf, ih]; omega

theorem digitAt : ∀ n, (h : n < 16) → (ByteArray.mk #[48, 49, 50, 51, 52, 53, 54, 55, 56, 57, 97, 98, 99, 100, 101, 102])[n]'h = hexDigit n := by decide

set_option maxHeartbeats 2000000 in
set_option maxRecDepth 100000 in
theorem hex_any (l : List UInt8) (g off cap : Nat) (w : World) (hg : g < w.heap.size) (hcells : ∀ j x, l[j]? = some x → w.cell? ⟨g, off + j, none⟩ = some (.int .u8 x.toNat)) (hne : l ≠ []) (hlen : l.length ≤ 1000000) :
    Calls Tryz.prog 42 #[.slice (some ⟨g, off, none⟩) l.length cap] w fun e w' => e = .returned (.string ⟨(hexOf l).toArray⟩) ∧ Below w.heap.size w w' := by
  go_enter Tryz.func42, Tryz.ntmps42
  go_wp2_with fail
  go_loopw [5, 8] (fun _ i wr => ∃ k : Nat, k ≤ l.length ∧ i = .int .i64 k ∧ Lib.IsBuilder 141 5 w.heap.size w.heap.size (Lib.byteCells (hexOf (l.take k))) wr ∧ Below w.heap.size w wr) (fun _ i _ => l.length - (intOf i).toNat)
  case atStart => exact ⟨0, Nat.zero_le _, rfl, Lib.fresh_isBuilder _ _ w, (Below.refl _ w).alloc (Nat.le_refl _) _⟩
  case round =>
    obtain ⟨k, hk, rfl, hB, hb⟩ := hrel
    by_cases hlt : k < l.length
    · obtain ⟨x, hx⟩ : ∃ x, l[k]? = some x := ⟨_, List.getElem?_eq_getElem hlt⟩
      have hc : wr.cell? ⟨g, off + k, none⟩ = some (.int .u8 x.toNat) := (hb.cell (p := ⟨g, off + k, none⟩) hg).trans (hcells k x hx)
      have hkl : (k : Int) < l.length := by omega
      have hx256 : x.toNat < 256 := x.toNat_lt
      have h16 : (0 : Int) ≤ (x.toNat : Int) / 16 ∧ (x.toNat : Int) / 16 < 16 := by omega
      have hq := digitAt (x.toNat / 16) (by omega)
      have h16' : (0 : Int) ≤ (x.toNat : Int) % 16 ∧ (x.toNat : Int) % 16 < 16 := by omega
      have hq' := digitAt (x.toNat % 16) (by omega)
      have hk0 : (Lib.byteCells (hexOf (l.take k)) ++ [Value.int .u8 (hexDigit (x.toNat / 16)).toNat]) ++ [Value.int .u8 (hexDigit (x.toNat % 16)).toNat] = Lib.byteCells (hexOf (l.take (k + 1))) := by
        rw [List.take_add_one, hx, hexOf_append]; simp [hexOf, Lib.byteCells]
      have hlen1 : (Lib.byteCells (hexOf (l.take k))).length + 1 ≤ 140737488355328 := by rw [Lib.byteCells_length, hexOf_length, List.length_take]; omega
      have hlen2 : (Lib.byteCells (hexOf (l.take k)) ++ [Value.int .u8 (hexDigit (x.toNat / 16)).toNat]).length + 1 ≤ 140737488355328 := by rw [List.length_append, Lib.byteCells_length, hexOf_length, List.length_take]; simp; omega
      go_wp2_with (go_at_call 68; first
        | (refine (writeByte_any w.heap.size w.heap.size _ _ _ hB hlen1 hb.size).mono ?_; rintro e w1 ⟨rfl, h1, hb1⟩)
        | (refine (writeByte_any w.heap.size w.heap.size _ _ _ (.inr h1) hlen2 (Nat.le_trans hb.size hb1.size)).mono ?_; rintro e w2 ⟨rfl, h2, hb2⟩))
      rw [hk0] at h2
      go_roundw
      case rel => exact ⟨k + 1, by omega, by simp, .inr h2, (hb.trans hb1).trans hb2⟩
      case measure => simp [intOf]; omega
    · have hke : k = l.length := by omega
      subst hke
      rw [List.take_length] at hB
      have hnlt : ¬ ((l.length : Int) < l.length) := by omega
      have hne2 : hexOf l ≠ [] := by
        cases l with
        | nil => exact absurd rfl hne
        | cons y r => simp [hexOf]
      go_wp2_with (go_at_call 69; refine (builderString_any w.heap.size w.heap.size _ _ hB hne2).mono ?_; rintro e w3 ⟨rfl, hb3⟩)
      go_ret
      exact ⟨rfl, hb.trans hb3⟩
end Go.Proofs.YtmcclkdkbedpmabGreatDoor

namespace Go.Proofs.YtmcclkdkbedpmabGreatDoor
open Go Go.RowKit
variable [Known]

/-- Known bytes. -/
noncomputable def bytesL : List SV → Option (List Nat)
  | [] => some []
  | .int .u8 (.ofNat n) :: r => match bytesL r with
    | some l => @Bool.rec (fun _ => Option (List Nat)) none (some (n :: l)) (Nat.blt n 256)
    | none => none
  | _ :: _ => none
theorem bytesL_ok {env : Env} : ∀ {l : List SV} {ks : List Nat} {vs : List Value}, bytesL l = some ks → denL env l = some vs → vs = Lib.byteCells (ks.map UInt8.ofNat) := by
  intro l
  induction l with
  | nil => intro ks vs h hd; simp only [bytesL] at h; cases h; simp only [denL] at hd; cases hd; rfl
  | cons x r ih =>
    intro ks vs h hd
    obtain ⟨v, us, h1, h2, rfl⟩ := denL_cons hd
    unfold bytesL at h
    split at h
    · rename_i heq; cases heq
    · rename_i n r' heq
      cases heq
      split at h
      · rename_i l' hl
        cases hb : Nat.blt n 256 with
        | false => rw [hb] at h; exact absurd (show (none : Option (List Nat)) = some ks from h) (by simp)
        | true =>
          rw [hb] at h
          replace h : some (n :: l') = some ks := h
          cases h
          have hn : n < 256 := Nat.le_of_ble_eq_true hb
          simp only [den, Option.some.injEq] at h1
          subst h1
          rw [ih hl h2]
          have : (UInt8.ofNat n).toNat = n := by simp; omega
          simp [Lib.byteCells, this]
      · cases h
    · cases h
noncomputable def digN (n : Nat) : Nat := @Bool.rec (fun _ => Nat) (Nat.add 87 n) (Nat.add 48 n) (Nat.blt n 10)
noncomputable def hexN : List Nat → List Nat
  | [] => []
  | n :: r => digN (Nat.div n 16) :: digN (Nat.mod n 16) :: hexN r
theorem digN_ok (n : Nat) : UInt8.ofNat (digN n) = hexDigit n := by
  unfold digN hexDigit
  by_cases h : n < 10
  · rw [if_pos h, show Nat.blt n 10 = true from Nat.ble_eq_true_of_le h]
    rfl
  · rw [if_neg h]
    have : Nat.blt n 10 = false := by
      cases hb : Nat.blt n 10 with
      | false => rfl
      | true => exact absurd (Nat.le_of_ble_eq_true hb) h
    rw [this]; rfl
theorem hexN_ok : ∀ (l : List Nat), (∀ n ∈ l, n < 256) → (hexN l).map UInt8.ofNat = hexOf (l.map UInt8.ofNat) := by
  intro l
  induction l with
  | nil => intro _; rfl
  | cons n r ih =>
    intro h
    have hn : n < 256 := h n (by simp)
    have : (UInt8.ofNat n).toNat = n := by simp; omega
    simp only [hexN, List.map_cons, hexOf, this, digN_ok, ih (fun m hm => h m (by simp [hm]))]
    rfl
theorem bytesL_lt : ∀ {l : List SV} {ks : List Nat}, bytesL l = some ks → ∀ n ∈ ks, n < 256 := by
  intro l
  induction l with
  | nil => intro ks h; simp only [bytesL] at h; cases h; simp
  | cons x r ih =>
    intro ks h
    unfold bytesL at h
    split at h
    · rename_i heq; cases heq
    · rename_i n r' heq
      cases heq
      split at h
      · rename_i l' hl
        cases hb : Nat.blt n 256 with
        | false => rw [hb] at h; exact absurd (show (none : Option (List Nat)) = some ks from h) (by simp)
        | true =>
          rw [hb] at h
          replace h : some (n :: l') = some ks := h
          cases h
          intro m hm
          rcases List.mem_cons.1 hm with rfl | hm
          · exact Nat.le_of_ble_eq_true hb
          · exact ih hl m hm
      · cases h
    · cases h

noncomputable def hexOut (args : List SV) (σ : SH) : Option Outs := match args with
  | [.slice n off len _] => (match σ.get n with
    | some (.cells l _ _) => (match bytesL ((l.drop off).take len) with
      | some ks => @Bool.rec (fun _ => Option Outs) none (some [(.str (hexN ks), σ)]) (Nat.beq ks.length len && Nat.blt 0 len && Nat.ble len 1000000)
      | none => none)
    | _ => none)
  | _ => none
theorem hexOut_ok (b0 : Base) {args : List SV} {σ : SH} {outs : Outs} {env : Env} {w : World} {vs : List Value} (h : hexOut args σ = some outs) (ho : env.ones) (hr : Rel Tryz.prog b0 env σ w) (ha : denL env args = some vs) :
    Calls Tryz.prog 42 vs.toArray w (Comes1 Tryz.prog b0 env outs) := by
  unfold hexOut at h
  split at h
  · rename_i n off len cap
    split at h
    · rename_i l e1 x1 hn
      split at h
      · rename_i ks hks
        cases hc : (Nat.beq ks.length len && Nat.blt 0 len && Nat.ble len 1000000) with
        | false => rw [hc] at h; exact absurd (show (none : Option Outs) = some outs from h) (by simp)
        | true =>
          rw [hc] at h
          replace h : some [(SV.str (hexN ks), σ)] = some outs := h
          cases h
          simp only [Bool.and_eq_true] at hc
          obtain ⟨⟨c1, c2⟩, c3⟩ := hc
          have c1 := Nat.eq_of_beq_eq_true c1
          have c2 : 0 < len := Nat.le_of_ble_eq_true c2
          have c3 := Nat.le_of_ble_eq_true c3
          obtain ⟨b, c, hb, _, hO⟩ := hr.obj n _ hn
          obtain ⟨cur, t, fr, us, hcur, hth, hus, htake, _⟩ := hO
          have hsl := bytesL_ok hks (denL_take len (denL_drop off hus))
          obtain rfl : vs = [.slice (some ⟨b, off, none⟩) len (capOf c cap)] := by
            obtain ⟨v, us', h1, h2, rfl⟩ := denL_cons ha
            simp only [denL] at h2; cases h2
            simp only [den, hb, Option.some.injEq] at h1
            subst h1; rfl
          have hlen : (ks.map UInt8.ofNat).length = len := by simpa using c1
          have := hex_any (ks.map UInt8.ofNat) b off (capOf c cap) w (Array.getElem?_eq_some_iff.1 hcur).1 (fun j x hx => by
            rw [cell_of_row w b (off + j) cur t fr hcur]
            have h1 : ((us.drop off).take len)[j]? = some (.int .u8 x.toNat) := by
              rw [hsl]; unfold Lib.byteCells; rw [List.getElem?_map, hx]; rfl
            have hj : j < len := by
              rcases Nat.lt_or_ge j len with h | h
              · exact h
              · rw [List.getElem?_eq_none (by omega)] at hx; cases hx
            rw [List.getElem?_take_of_lt hj, List.getElem?_drop, ← htake] at h1
            rw [← Array.getElem?_toList]
            rw [List.getElem?_take] at h1
            split at h1
            · exact h1
            · cases h1) (by intro he; rw [he] at hlen; simp at hlen; omega) (by omega)
          rw [hlen] at this
          refine this.mono ?_
          rintro en w' ⟨rfl, hbl⟩
          refine ⟨_, List.mem_singleton.2 rfl, env, _, rfl, Env.le_refl _, hr.world hbl, ?_⟩
          simp only [den, bytesOf]
          rw [hexN_ok ks (bytesL_lt hks)]
      · cases h
    · cases h
  · cases h
end Go.Proofs.YtmcclkdkbedpmabGreatDoor

namespace Go.Proofs.YtmcclkdkbedpmabGreatDoor
open Go Go.RowKit
variable [Known]

/-- copyCheck: the builder knows where it lies. -/
noncomputable def copyOut (args : List SV) (σ : SH) : Option Outs := match args with
  | [.ptr n 0] => (match σ.get n with
    | some (.cells (.nilp :: [y]) e true) => @Bool.rec (fun _ => Option Outs) none (some [(.tuple [], σ.put n (some (.cells (patch (.nilp :: [y]) 0 [.ptr n 0]) e true)))]) (Nat.beq e 141)
    | some (.cells (.ptr m 0 :: [y]) e true) => @Bool.rec (fun _ => Option Outs) none (some [(.tuple [], σ)]) (Nat.beq m n)
    | _ => none)
  | _ => none
theorem copyOut_ok (b0 : Base) {args : List SV} {σ : SH} {outs : Outs} {env : Env} {w : World} {vs : List Value} (h : copyOut args σ = some outs) (ho : env.ones) (hr : Rel Tryz.prog b0 env σ w) (ha : denL env args = some vs) :
    Calls Tryz.prog 101 vs.toArray w (Comes1 Tryz.prog b0 env outs) := by
  unfold copyOut at h
  split at h
  · rename_i n
    obtain ⟨v, us, h1, h2, rfl⟩ := denL_cons ha
    simp only [denL] at h2; cases h2
    obtain ⟨b, c, hb, rfl⟩ := den_ptr h1
    split at h
    · rename_i y e hn
      cases hc : Nat.beq e 141 with
      | false => rw [hc] at h; cases h
      | true =>
        rw [hc] at h
        replace h : some [(SV.tuple [], σ.put n (some (.cells (patch (.nilp :: [y]) 0 [.ptr n 0]) e true)))] = some outs := h
        cases h
        obtain rfl := Nat.eq_of_beq_eq_true hc
        obtain ⟨b', c', e1, hnk, cur, t, fr, xs, g1, g2, g3, g4, g5, g6⟩ := hr.obj n _ hn
        rw [hb] at e1; cases e1
        obtain ⟨g5a, rfl⟩ := g5 rfl
        obtain ⟨x, hx, c0, f0⟩ := hr.cell hn hb (i := 0) (s := .nilp) rfl
        simp only [den, Option.some.injEq] at hx; subst hx
        have hsh : w.shape? b = some (141, 2) := by simp only [World.shape?, g1]; rw [g5a]; rfl
        refine (copyCheck_fresh b w c0 hsh f0).mono ?_
        rintro en w' ⟨rfl, rfl⟩
        have hv : denL env [SV.ptr n 0] = some [Value.pointer (some ⟨b, 0, none⟩)] := denL_mk h1 rfl
        obtain ⟨_, hR⟩ := hr.setCells ho hn hb (off := 0) (news := [.ptr n 0]) (by simp) rfl hv
        exact ⟨_, List.mem_singleton.2 rfl, env, _, rfl, Env.le_refl _, hR, by simp only [den, denL]⟩
    · rename_i m y e hn
      cases hc : Nat.beq m n with
      | false => rw [hc] at h; cases h
      | true =>
        rw [hc] at h
        replace h : some [(SV.tuple [], σ)] = some outs := h
        cases h
        obtain rfl := Nat.eq_of_beq_eq_true hc
        obtain ⟨x, hx, c0, f0⟩ := hr.cell hn hb (i := 0) (s := .ptr m 0) rfl
        rw [h1] at hx; cases hx
        refine (copyCheck_used b w c0).mono ?_
        rintro en w' ⟨rfl, rfl⟩
        exact ⟨_, List.mem_singleton.2 rfl, env, _, rfl, Env.le_refl _, hr, by simp only [den, denL]⟩
    · cases h
  · cases h

/-- A row behind a freeze: no other block is touched. -/
theorem freeze_other (w : World) (a : Addr) (n : Nat) (k : Nat) (hk : k ≠ a.block) : (w.freeze a n).heap[k]? = w.heap[k]? := by
  unfold World.freeze
  split
  · rfl
  · simp only
    rw [Array.getElem?_modify]
    rw [if_neg (Ne.symm hk)]
theorem freeze_size (w : World) (a : Addr) (n : Nat) : (w.freeze a n).heap.size = w.heap.size := by
  unfold World.freeze
  split
  · rfl
  · simp only [Array.size_modify]
set_option maxHeartbeats 1000000 in
set_option maxRecDepth 100000 in
theorem builderString_at (b g cap : Nat) (l : List UInt8) (w : World) (h1 : w.cell? ⟨b, 1, none⟩ = some (.slice (some ⟨g, 0, none⟩) l.length cap)) (h0 : l ≠ []) (hcap : l.length ≤ cap) (size : Nat) (hsh : w.shape? g = some (5, size)) (hsz : l.length ≤ size) (hmax : l.length ≤ 9223372036854775807)
    (hcell : ∀ j x, l[j]? = some x → w.cell? ⟨g, j, none⟩ = some (.int .u8 x.toNat)) :
    Calls Tryz.prog 69 #[.pointer (some ⟨b, 0, none⟩)] w fun e w' => e = .returned (.string ⟨l.toArray⟩) ∧ w'.os = w.os ∧ w'.tape = w.tape ∧ w'.output = w.output ∧ w'.heap.size = w.heap.size ∧ ∀ k, k ≠ g → w'.heap[k]? = w.heap[k]? := by
  have hl0 : l.length ≠ 0 := by simpa using h0
  have c1 : w.drew.cell? ⟨b, 1, none⟩ = some (.slice (some ⟨g, 0, none⟩) l.length cap) := h1
  have hSD : (Builtin.unsafeSliceData_ #[32] 181 #[.slice (some ⟨g, 0, none⟩) l.length cap]).run Tryz.prog w.drew = .ok (.pointer (some ⟨g, 0, none⟩)) w.drew :=
    Lib.run_unsafeSliceData_row _ _ _ _ _ _ (by omega)
  have hUS : (Builtin.unsafeString_ #[181, 3] 9 #[.pointer (some ⟨g, 0, none⟩), .int .i64 l.length]).run Tryz.prog w.drew = .ok (.string ⟨l.toArray⟩) (w.drew.freeze ⟨g, 0, none⟩ l.length) := by
    refine Lib.run_unsafeString_row w.drew 181 3 9 5 Tryz.underlying181 cellsByte g size hsh l h0 hsz hmax ?_
    intro j x hx
    rw [show ((⟨g, 0, none⟩ : Addr).add j) = ⟨g, j, none⟩ from by rw [add_none, Nat.zero_add]]
    exact hcell j x hx
  go_enter Tryz.func69, Tryz.ntmps69
  go_wp2
  go_region
  all_goals (go_wp2; go_ret; exact ⟨rfl, by unfold World.freeze; split <;> rfl, by unfold World.freeze; split <;> rfl, by unfold World.freeze; split <;> rfl, (freeze_size w.drew _ _), fun k hk => freeze_other w.drew ⟨g, 0, none⟩ _ k hk⟩)
noncomputable def strOut (args : List SV) (σ : SH) : Option Outs := match args with
  | [.ptr n 0] => (match σ.get n with
    | some (.cells [a, .slice m 0 len (.rest 0)] e0 x0) => (match σ.get m with
      | some (.cells l e false) => (match bytesL (takeR l len) with
        | some ks => @Bool.rec (fun _ => Option Outs) none (some [(.str ks, σ.put m none)]) (Nat.beq ks.length len && Nat.blt 0 len && Nat.ble len 1000000 && Nat.beq e 5)
        | none => none)
      | _ => none)
    | _ => none)
  | _ => none
theorem strOut_ok (b0 : Base) {args : List SV} {σ : SH} {outs : Outs} {env : Env} {w : World} {vs : List Value} (h : strOut args σ = some outs) (ho : env.ones) (hr : Rel Tryz.prog b0 env σ w) (ha : denL env args = some vs) :
    Calls Tryz.prog 69 vs.toArray w (Comes1 Tryz.prog b0 env outs) := by
  unfold strOut at h
  split at h
  · rename_i n
    obtain ⟨v, us, h1, h2, rfl⟩ := denL_cons ha
    simp only [denL] at h2; cases h2
    obtain ⟨b, c, hb, rfl⟩ := den_ptr h1
    split at h
    · rename_i a m len e0 x0 hn
      split at h
      · rename_i l e hm
        rw [takeR_eq] at h
        split at h
        · rename_i ks hks
          cases hc : (Nat.beq ks.length len && Nat.blt 0 len && Nat.ble len 1000000 && Nat.beq e 5) with
          | false => rw [hc] at h; cases h
          | true =>
            rw [hc] at h
            replace h : some [(SV.str ks, σ.put m none)] = some outs := h
            cases h
            simp only [Bool.and_eq_true] at hc
            obtain ⟨⟨⟨c1, c2⟩, c3⟩, c4⟩ := hc
            have c1 := Nat.eq_of_beq_eq_true c1
            have c2 : 0 < len := Nat.le_of_ble_eq_true c2
            have c3 := Nat.le_of_ble_eq_true c3
            obtain rfl := Nat.eq_of_beq_eq_true c4
            obtain ⟨bm, cm, hbm, hnk, hO⟩ := hr.obj m _ hm
            have hO' := hO
            obtain ⟨cur, t, fr, us, hcur, hth, hus, htake, _, h6⟩ := hO'
            obtain ⟨hsz, hcm, rfl⟩ := h6 rfl
            rw [cellsByte, Nat.mul_one] at hsz
            have hsl := bytesL_ok hks (denL_take len hus)
            have hlen : (ks.map UInt8.ofNat).length = len := by simpa using c1
            have hle : len ≤ cur.size := by
              have e1 := congrArg List.length hsl
              rw [List.length_take] at e1
              have e2 : (Lib.byteCells (ks.map UInt8.ofNat)).length = len := by rw [Lib.byteCells_length]; exact hlen
              rw [e2] at e1
              have e3 := congrArg List.length htake
              rw [List.length_take] at e3
              simp only [Array.length_toList] at e3
              omega
            obtain ⟨v1, hv1, cv1, _⟩ := hr.cell hn hb (i := 1) (s := .slice m 0 len (.rest 0)) rfl
            simp only [den, hbm, Option.some.injEq, capOf, Nat.sub_zero] at hv1
            subst hv1
            have := builderString_at b bm cm (ks.map UInt8.ofNat) w (by rw [hlen]; exact cv1) (by intro he; rw [he] at hlen; simp at hlen; omega) (by omega) cur.size (by simp only [World.shape?, hcur]) (by omega) (by omega) (fun j x hx => by
              rw [cell_of_row w bm j cur _ fr hcur]
              have h1 : (us.take len)[j]? = some (.int .u8 x.toNat) := by
                rw [hsl]; unfold Lib.byteCells; rw [List.getElem?_map, hx]; rfl
              have hj : j < len := by
                rcases Nat.lt_or_ge j len with h | h
                · exact h
                · rw [List.getElem?_eq_none (by omega)] at hx; cases hx
              rw [List.getElem?_take_of_lt hj, ← htake] at h1
              rw [← Array.getElem?_toList]
              rw [List.getElem?_take] at h1
              split at h1
              · exact h1
              · cases h1)
            refine this.mono ?_
            rintro en w' ⟨rfl, q1, q2, q3, q4, q5⟩
            refine ⟨_, List.mem_singleton.2 rfl, env, _, rfl, Env.le_refl _, hr.put hm hbm q1 q2 q3 (Nat.le_of_eq q4.symm) (fun k _ hk => q5 k hk) (fun o' ho' => by cases ho'), ?_⟩
            simp only [den, bytesOf]
        · cases h
      · cases h
    · cases h
  · cases h
end Go.Proofs.YtmcclkdkbedpmabGreatDoor

